/- Functions that call themselves. -/
import Derived.Test.YtgfpdlebnbpcfaaDoorKzc
import Derived.Laws.Cover3
namespace Go.G36
variable [Genv]
set_option linter.all false
open Go

section
variable {A R : Type}
end

theorem ne_struct {o : Option TypeDesc} {d : TypeDesc} (h : o = some d) (hd : (match d with | .struct _ => false | _ => true) = true) : ∀ fs, o ≠ some (.struct fs) := by
  intro fs hs
  rw [h] at hs
  cases hs
  cases hd

section
variable {P : Program} {o : Oper} {fr : Fr} {σ : ASt}
end

theorem LentL.get2 {σ : ASt} {cs ds : List V} (h : LentL σ cs ds) : cs.length = ds.length ∧ ∀ (i : Nat) (c d : V), cs[i]? = some c → ds[i]? = some d → Lent σ c d := by
  induction h with
  | nil => simp
  | cons c d cs ds h _ ih =>
    refine ⟨by simp [ih.1], fun i x y hx hy => ?_⟩
    cases i with
    | zero => simp at hx hy; subst hx; subst hy; exact h
    | succ i => simp at hx hy; exact ih.2 i x y hx hy
theorem Lent.aggL {σ : ASt} {cs ds : List V} (h : LentL σ cs ds) : Lent σ (.agg cs) (.agg ds) := .agg cs ds h.get2.1 h.get2.2

/-! ### Loops gone round by hand -/
def TR (P : Program) (N n : Nat) (c : Code) (Q : Post) : Nat → Fr → ASt → Prop
  | 0, _, _ => False
  | k + 1, fr, σ => T P N n c fr σ fun ex fr' σ' => match ex with
    | .normal => TR P N n c Q k fr' σ'
    | _ => Q ex fr' σ'
def PR (P : Program) (N n : Nat) (c : Code) (Q : Post) (k : Nat) : Post := fun ex fr' σ' => match ex with
    | .normal => TR P N n c Q k fr' σ'
    | _ => Q ex fr' σ'
section
variable {P : Program} {N n : Nat} {c : Code} {Q : Post} {k : Nat} {fr : Fr} {σ : ASt}
theorem TR.go (h : T P N n c fr σ (PR P N n c Q k)) : TR P N n c Q (k + 1) fr σ := h
end

/-! ### Slices compared with nil -/
/-! ### Calls with a map of one's own as outcome -/
end Go.G36
