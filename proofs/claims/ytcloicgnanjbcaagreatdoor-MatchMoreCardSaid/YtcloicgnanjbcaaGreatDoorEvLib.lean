import Derived.Test.YtcloicgnanjbcaaGreatDoorEvFn
import Derived.Lib.BytesEntry
import Derived.Laws.Externs
namespace Esp
open Go
set_option linter.unusedSimpArgs false
set_option linter.unusedVariables false
variable [Tabs]
end Esp
