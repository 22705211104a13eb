import Derived.Test.YtcloicgnanjbcaaGreatDoorEvLib
import Derived.Shelf.Unicode.ValidAny
import Derived.Lib.SlTrimSet
import Derived.Lib.IndexMore
namespace Pure
open Esp Ev Go
set_option linter.unusedSimpArgs false
set_option linter.unusedVariables false
def n0p(s:ByteArray):Bool:=Lib.validD s.data.toList
def u0q:ByteArray×Unit→Option (Bool×Unit):=fun(s,_)=>bif Nat.ble s.size 9223372036854775807 then some (n0p s,())else none
end Pure
