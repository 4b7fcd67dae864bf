/- Arrays in boxes: single cells each; shifts by what is told. -/
import Derived.Test.YtnohlppnebcefaaGreatKzb
namespace Go.G36
variable [Genv]
set_option linter.all false
open Go

def nn (i : Int) : Option Unit := if 0 ≤ i then some () else none
theorem nn_s {i : Int} {u : Unit} (h : nn i = some u) : 0 ≤ i := by
  unfold nn at h
  split at h
  · assumption
  · cases h
section
variable {P : Program} {o : Oper} {fr : Fr} {σ : ASt}
end
end Go.G36
