/- Calls whose outcome is an array of one's own. -/
import Derived.Test.YtkhaafonmkjjmaaGreatDoorKv
namespace Go.G36
variable [Genv]
set_option linter.all false
open Go

end Go.G36
