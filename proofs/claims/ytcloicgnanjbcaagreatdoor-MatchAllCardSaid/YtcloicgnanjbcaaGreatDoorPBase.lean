import Derived.Test.YtcloicgnanjbcaaGreatDoorEvLib
import Derived.Shelf.Unicode.ValidAny
import Derived.Lib.SlTrimSet
import Derived.Lib.IndexMore
namespace Pure
open Esp Ev Go
set_option linter.unusedSimpArgs false
set_option linter.unusedVariables false
def k0x(s:ByteArray):Bool:=Lib.validD s.data.toList
def s0c:ByteArray×Unit→Option (Bool×Unit):=fun(s,_)=>bif Nat.ble s.size 9223372036854775807 then some (k0x s,())else none
def l1j(s:ByteArray):Bool:=s.data.toList.all fun b=>decide (b.toNat<128)
def trimS(s c:ByteArray):ByteArray:=⟨(Lib.trimS s.data.toList c.data.toList).toArray⟩
def h1h:ByteArray×ByteArray×Unit→Option (ByteArray×Unit):=fun(s,c,_)=>bif Nat.ble s.size 9223372036854775807&&Nat.ble c.size 4294967280&&l1j c then some (trimS s c,())else none
def t0j(s sub:ByteArray):Bool:=Lib.contains s.data.toList sub.data.toList
def d0f:ByteArray×ByteArray×Unit→Option (Bool×Unit):=fun(s,sub,_)=>bif Nat.blt s.size 4294967281 then some (t0j s sub,())else none
end Pure
