/- Functions of the library, met by what is known of their calls. -/
import Derived.Test.YtmlfbendohecmaaKzh
import Derived.Sort.Grow
import Derived.Lib.LaidTab
import Derived.Lib.ItoaNum
import Derived.Deep.Draws
import Derived.Below
import Derived.Lib.Strings
import Derived.Lib.IndexMore
import Derived.Lib.AtoiAll
namespace Go.G36
variable [Genv]
set_option linter.all false
open Go Go.RowKit

theorem GlobOk.grown {S : Nat → Prop} {w w' : World} (h : GlobOk S w) (hS : ∀ b, S b → b < w.heap.size) (g : Grown w w') : GlobOk S w' := h.mono (fun _ h => h) fun b hb => g.block b (hS b hb)
/-- What is known of a package-level variable, by its place in the list. -/
theorem GlobOk.kept {S : Nat → Prop} {w : World} (h : GlobOk S w) (i : Nat) {x : Nat × (Obj → Prop)} (hx : Genv.gk[i]? = some x) : ∃ o, w.heap[x.1]? = some o ∧ x.2 o := (h.2 x (List.mem_of_getElem? hx)).2
end Go.G36
