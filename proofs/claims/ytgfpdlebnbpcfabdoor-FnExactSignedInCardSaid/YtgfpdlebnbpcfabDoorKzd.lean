/- Functions that call themselves. -/
import Derived.Test.YtgfpdlebnbpcfabDoorKzc
import Derived.Laws.Cover3
namespace Go.G36
variable [Genv]
set_option linter.all false
open Go

section
variable {A R : Type}
end

section
variable {P : Program} {o : Oper} {fr : Fr} {σ : ASt}
end

/-- The outcome may name what is left. -/
theorem CallT.finR {P : Program} {f : FuncId} {args : List V} {τ τ1 : ASt} {r : V} (h : CallT P f args τ (Fin τ1 r)) (hr : bel τ1.length r = true) (hl : Nat.ble τ.length τ1.length = true) (ho : belOs τ1.length τ1) : St P f args τ r τ1 := fun S B ι us w hm ha => by
  refine (h S B ι us w hm ha).mono ?_
  rintro e w' ⟨u, v, τ', S', ι', rfl, ⟨rfl, g, rfl⟩, hv, hm', hf⟩
  exact ⟨u, v, τ1, S', ι'.take τ1.length, rfl, ⟨rfl, rfl⟩, hv.take hr, hm'.drop fun a o h => ho.get a o h, hf.drop hm'.len (Nat.le_of_ble_eq_true hl)⟩

theorem LentL.get2 {σ : ASt} {cs ds : List V} (h : LentL σ cs ds) : cs.length = ds.length ∧ ∀ (i : Nat) (c d : V), cs[i]? = some c → ds[i]? = some d → Lent σ c d := by
  induction h with
  | nil => simp
  | cons c d cs ds h _ ih =>
    refine ⟨by simp [ih.1], fun i x y hx hy => ?_⟩
    cases i with
    | zero => simp at hx hy; subst hx; subst hy; exact h
    | succ i => simp at hx hy; exact ih.2 i x y hx hy
theorem Lent.aggL {σ : ASt} {cs ds : List V} (h : LentL σ cs ds) : Lent σ (.agg cs) (.agg ds) := .agg cs ds h.get2.1 h.get2.2

/-! ### Loops gone round by hand -/
def TR (P : Program) (N n : Nat) (c : Code) (Q : Post) : Nat → Fr → ASt → Prop
  | 0, _, _ => False
  | k + 1, fr, σ => T P N n c fr σ fun ex fr' σ' => match ex with
    | .normal => TR P N n c Q k fr' σ'
    | _ => Q ex fr' σ'
def PR (P : Program) (N n : Nat) (c : Code) (Q : Post) (k : Nat) : Post := fun ex fr' σ' => match ex with
    | .normal => TR P N n c Q k fr' σ'
    | _ => Q ex fr' σ'
section
variable {P : Program} {N n : Nat} {c : Code} {Q : Post} {k : Nat} {fr : Fr} {σ : ASt}
theorem TR.go (h : T P N n c fr σ (PR P N n c Q k)) : TR P N n c Q (k + 1) fr σ := h
end

/-! ### Slices compared with nil -/
/-! ### Calls with a map of one's own as outcome -/
end Go.G36
