import Derived.Test.YtmpcgmlknbmpbaaDoorEvLib
import Derived.Shelf.Unicode.ValidAny
import Derived.Lib.SlTrimSet
import Derived.Lib.IndexMore
namespace Pure
open Esp Ev Go
set_option linter.unusedSimpArgs false
set_option linter.unusedVariables false
def validS (s : ByteArray) : Bool := Lib.validD s.data.toList
def validN : ByteArray × Unit → Option (Bool × Unit) := fun (s, _) => bif Nat.ble s.size 9223372036854775807 then some (validS s, ()) else none
end Pure
