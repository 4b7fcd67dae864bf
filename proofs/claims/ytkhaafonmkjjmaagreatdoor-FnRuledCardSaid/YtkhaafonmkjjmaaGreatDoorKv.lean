/- Drawn regions in which what is read is told at each store that there is. -/
import Derived.Test.YtkhaafonmkjjmaaGreatDoorKu
namespace Go.G36
variable [Genv]
set_option linter.all false
open Go

section
variable {G:ASt→Prop} {P:Program} {fr:Fr} {σ:ASt} {ops:Array Oper} {o:Oper} {l:List Oper} {pre:List Cl} {K:List Cl→Fr→ASt→Prop}
end
end Go.G36
