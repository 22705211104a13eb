/- EV: a text cut in two at the first place, and in all pieces: the kit's contracts over plain data. -/
import Derived.Test.YtffefjmpmgkfoaaGreatDoorEvClone
import Derived.Test.YtffefjmpmgkfoaaGreatDoorEvGrow
import Derived.Shelf.Strings.Cut
import Derived.Shelf.Strings.Split
namespace Esp
open Go Go.Shelf Go.Proofs Go.RowKit
set_option linter.unusedSimpArgs false
set_option linter.unusedVariables false
variable [Tabs]
section
variable {P : Program} {r : Ren}
end
end Esp
