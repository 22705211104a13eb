import Derived.Test.YtnaeiccibhdknaaGreatDoorEvBuild2
import Derived.Shelf.Strconv.Itoa3
import Derived.Shelf.Strconv.AtoiAll
import Derived.Shelf.Unicode.DecodeAny
import Derived.Lib.AtoiErrMem
set_option linter.unusedSimpArgs false
set_option linter.unusedVariables false
namespace Esp
open Go Go.Shelf Go.Proofs Go.RowKit
variable [Tabs]
section
variable{P:Program}{r:Ren}
end
end Esp
