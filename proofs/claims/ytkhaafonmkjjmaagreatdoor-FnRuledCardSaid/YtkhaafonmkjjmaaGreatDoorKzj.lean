/- Families: blocks that are made one by one and named by number. -/
import Derived.Test.YtkhaafonmkjjmaaGreatDoorKzi
import Derived.Laws.Pointers
namespace Go.G36
variable [Genv]
set_option linter.all false
open Go
section
variable {P:Program} {o:Oper} {fr:Fr} {σ:ASt}

end
end Go.G36
