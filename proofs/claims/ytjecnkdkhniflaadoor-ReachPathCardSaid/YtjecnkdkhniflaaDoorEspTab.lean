/- ESP, part 18: contracts of the kit, over tables that nobody writes. -/
import Derived.Test.YtjecnkdkhniflaaDoorEspWeak
import Derived.Test.YtjecnkdkhniflaaDoorEspBin
namespace Esp
open Go Go.RowKit
set_option linter.unusedSimpArgs false
set_option linter.unusedVariables false
variable [Tabs]

section
variable {P : Program}
end
end Esp
