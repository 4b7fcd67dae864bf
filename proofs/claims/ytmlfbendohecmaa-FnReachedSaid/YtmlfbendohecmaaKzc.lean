/- Arrays in boxes: single cells each; shifts by what is told. -/
import Derived.Test.YtmlfbendohecmaaKzb
namespace Go.G36
variable [Genv]
set_option linter.all false
open Go

section
variable {P : Program} {o : Oper} {fr : Fr} {σ : ASt}
end
end Go.G36
