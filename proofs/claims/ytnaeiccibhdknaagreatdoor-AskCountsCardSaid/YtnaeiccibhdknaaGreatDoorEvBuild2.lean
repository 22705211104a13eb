import Derived.Test.YtnaeiccibhdknaaGreatDoorEvBuild
import Derived.Shelf.Strings.BuilderF
set_option linter.unusedSimpArgs false
set_option linter.unusedVariables false
namespace Esp
open Go Go.Shelf Go.Proofs Go.RowKit
variable [Tabs]
section
variable{P:Program}
end
end Esp
