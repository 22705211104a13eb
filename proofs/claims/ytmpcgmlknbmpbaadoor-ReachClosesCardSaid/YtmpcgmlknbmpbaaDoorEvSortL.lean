/- EV: slices.SortFunc at a row of rows of whole numbers, by slices.Compare: the kit's contract at elements of one cell. -/
import Derived.Test.YtmpcgmlknbmpbaaDoorEvRise3
import Derived.Test.YtmpcgmlknbmpbaaDoorEvSortC
import Derived.Test.YtmpcgmlknbmpbaaDoorEvRows
import Derived.Shelf.SlSortCmp.Whole1
namespace Esp
open Go
set_option linter.unusedSimpArgs false
set_option linter.unusedVariables false
variable [Tabs]
section
variable {P : Program}
open Go.Sort Go.Proofs Go.Shelf
set_option linter.unusedSimpArgs false
set_option linter.unusedVariables false
end
end Esp
