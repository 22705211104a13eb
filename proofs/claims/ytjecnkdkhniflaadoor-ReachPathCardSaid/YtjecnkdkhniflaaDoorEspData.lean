/- ESP, part 12: lists as cells. -/
import Derived.Test.YtjecnkdkhniflaaDoorEspQ
namespace Esp
open Go
set_option linter.unusedSimpArgs false
set_option linter.unusedVariables false
variable [Tabs]

def encS (l : List ByteArray) : List D := l.map fun n => .sc (.string n)
end Esp
