import Derived.Test.YtcloicgnanjbcaaGreatDoorEvBuild
import Derived.Test.YtcloicgnanjbcaaGreatDoorEvLib
import Derived.Shelf.Strings.BuilderF
namespace Esp
open Go Go.Shelf Go.Proofs Go.RowKit
set_option linter.unusedSimpArgs false
set_option linter.unusedVariables false
variable [Tabs]
section
variable{P:Program}
end
end Esp
