/- Plain functions of the library's that contracts of the kit speak of. -/
import Derived.Test.YtffefjmpmgkfoaaGreatDoorEvLib
import Derived.Shelf.Unicode.ValidAny
import Derived.Lib.SlTrimSet
import Derived.Lib.IndexMore
namespace Pure
open Esp Ev Go
set_option linter.unusedSimpArgs false
set_option linter.unusedVariables false
def validS (s : ByteArray) : Bool := Lib.validD s.data.toList
def validN : ByteArray × Unit → Option (Bool × Unit) := fun (s, _) => bif Nat.ble s.size 9223372036854775807 then some (validS s, ()) else none
def asciiS (s : ByteArray) : Bool := s.data.toList.all fun b => decide (b.toNat < 128)
def trimS (s c : ByteArray) : ByteArray := ⟨(Lib.trimS s.data.toList c.data.toList).toArray⟩
def trimN : ByteArray × ByteArray × Unit → Option (ByteArray × Unit) := fun (s, c, _) => bif Nat.ble s.size 9223372036854775807 && Nat.ble c.size 4294967280 && asciiS c then some (trimS s c, ()) else none
end Pure
