/- EV: tables of whole numbers that start-up laid. -/
import Derived.Test.YtcdfapbfocdhjaaDoorEvBuild3
import Derived.Lib.LaidTab
import Derived.Lib.LaidU8T
namespace Esp
open Go Go.Proofs Go.Lib
set_option linter.unusedSimpArgs false
set_option linter.unusedVariables false
end Esp
