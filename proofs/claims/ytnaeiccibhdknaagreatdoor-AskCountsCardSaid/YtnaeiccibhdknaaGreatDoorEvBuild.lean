import Derived.Test.YtnaeiccibhdknaaGreatDoorEvBits
import Derived.Shelf.Strings.Builder1
set_option linter.unusedSimpArgs false
set_option linter.unusedVariables false
namespace Esp
open Go Go.Shelf Go.Proofs
variable [Tabs]
end Esp
