/- Bytes of texts; elements of arrays told by content; strings.Builder. -/
import Derived.Test.YtmlfbendohecmaaKzg
import Derived.Lib.ConvBytes
import Derived.Lib.UnsafeStr
namespace Go.G36
variable [Genv]
set_option linter.all false
open Go
section
variable {P : Program} {o : Oper} {fr : Fr} {σ : ASt}
end
section
variable {P : Program} {o : Oper} {fr : Fr} {σ : ASt}
end
section
variable {P : Program} {o : Oper} {fr : Fr} {σ : ASt}
end
theorem belA {N : Nat} {α : Type} {f : α → V} {xs : List α} (h : ∀ x, bel N (f x) = true) : belO N (.box (xs.map f)) := fun c hc => by
  obtain ⟨x, _, rfl⟩ := List.mem_map.1 hc
  exact h x
theorem belAg {N : Nat} {α : Type} {f : α → V} {xs : List α} (h : ∀ x, bel N (f x) = true) : bel N (.agg (xs.map f)) = true := by
  simp only [bel]
  rw [bels_iff]
  exact belA h
end Go.G36
