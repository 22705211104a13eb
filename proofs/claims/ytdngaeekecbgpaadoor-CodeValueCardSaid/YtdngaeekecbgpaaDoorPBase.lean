/- Plain functions of the library's that contracts of the kit speak of. -/
import Derived.Test.YtdngaeekecbgpaaDoorEvLib
import Derived.Shelf.Unicode.ValidAny
namespace Pure
open Esp Ev Go
set_option linter.unusedSimpArgs false
set_option linter.unusedVariables false
/-- is it valid UTF-8? -/
def validS (s : ByteArray) : Bool := Lib.validD s.data.toList
def validN : ByteArray × Unit → Option (Bool × Unit) := fun (s, _) => bif Nat.ble s.size 9223372036854775807 then some (validS s, ()) else none
end Pure
