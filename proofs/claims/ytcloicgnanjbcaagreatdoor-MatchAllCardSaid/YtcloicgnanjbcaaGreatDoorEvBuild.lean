import Derived.Test.YtcloicgnanjbcaaGreatDoorEvFn
import Derived.Shelf.Strings.Builder1
namespace Esp
open Go Go.Shelf Go.Proofs
set_option linter.unusedSimpArgs false
set_option linter.unusedVariables false
variable [Tabs]
end Esp
