/- EV, part 9: a copy of a list of texts, by the kit's contract. -/
import Derived.Test.YtffefjmpmgkfoaaGreatDoorEvFn
import Derived.Shelf.Slices.Clone
namespace Esp
open Go
set_option linter.unusedSimpArgs false
set_option linter.unusedVariables false
variable [Tabs]
end Esp
