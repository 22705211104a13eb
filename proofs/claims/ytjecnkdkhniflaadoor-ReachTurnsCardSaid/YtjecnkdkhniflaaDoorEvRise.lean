/- Plain: the one rising list. -/
import Derived.Test.YtjecnkdkhniflaaDoorEvTy
namespace Esp
end Esp
