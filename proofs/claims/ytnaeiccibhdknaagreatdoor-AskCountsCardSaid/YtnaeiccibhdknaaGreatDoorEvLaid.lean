import Derived.Test.YtnaeiccibhdknaaGreatDoorEvSortL
import Derived.Lib.LaidTab
import Derived.Lib.LaidU8T
set_option linter.unusedSimpArgs false
set_option linter.unusedVariables false
namespace Esp
open Go Go.Proofs Go.Lib
end Esp
