/- Plain: the one rising list. -/
import Derived.Test.YtjecnkdkhniflaaGreatDoorEvTy
namespace Esp
end Esp
