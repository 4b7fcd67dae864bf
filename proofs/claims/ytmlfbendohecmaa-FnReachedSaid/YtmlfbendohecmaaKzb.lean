/- Parts of texts and slices. -/
import Derived.Test.YtmlfbendohecmaaKy
namespace Go.G36
variable [Genv]
set_option linter.all false
open Go

def optE (fr : Fr) : Option Operand → Int → Option Int
  | none, d => some d
  | some x, _ => match evalE fr x with
    | some (.int _ n) => some n
    | _ => none
def sub {α : Type} (xs : List α) (l h : Int) : Option (List α) := if 0 ≤ l ∧ l ≤ h ∧ h ≤ xs.length then some ((xs.drop l.toNat).take (h - l).toNat) else none
theorem sub_s {α : Type} {xs ys : List α} {l h : Int} (hh : sub xs l h = some ys) : 0 ≤ l ∧ l ≤ h ∧ h ≤ xs.length ∧ ys = (xs.drop l.toNat).take (h - l).toNat := by
  unfold sub at hh
  split at hh
  · rename_i h1; exact ⟨h1.1, h1.2.1, h1.2.2, (Option.some.inj hh).symm⟩
  · cases hh

section
variable {P : Program} {o : Oper} {fr : Fr} {σ : ASt}

theorem opt_val {S B : Nat → Prop} {ι : List Loc} {w : World} {a : Act} {l : Int} (he : ∀ x, x ∈ o.op.operands → ∀ y, evalE fr x = some y → Val S B (RefR ι σ) w y (a.eval x)) {lo : Option Operand} {d : Int}
    (hin : ∀ x, lo = some x → x ∈ o.op.operands) (h : optE fr lo d = some l) : (lo = none ∧ l = d) ∨ ∃ x k, lo = some x ∧ a.eval x = .int k l := by
  cases lo with
  | none => simp [optE] at h; exact .inl ⟨rfl, h.symm⟩
  | some x =>
    refine .inr ⟨x, ?_⟩
    simp only [optE] at h
    cases hx : evalE fr x with
    | none => rw [hx] at h; cases h
    | some v =>
      rw [hx] at h
      cases v <;> simp at h
      subst h
      exact ⟨_, rfl, (he x (hin x rfl) _ hx).inv_int⟩

theorem run_bound {w : World} {k : IntKind} {i : Int} {y : Nat} {c : BoundsCode} (h0 : 0 ≤ i) (h1 : i ≤ y) : (Instr.sliceBound (.int k i) y c).run P w = .ok i.toNat w := by
  simp [Instr.sliceBound, asIntOf, h0, h1]

theorem run_bounds {w : World} {b : Bool} {len cap : Nat} {lo hi : Option Value} {l h : Int} (h0 : 0 ≤ l) (h1 : l ≤ h) (h2 : h ≤ cap) (hlo : (lo = none ∧ l = 0) ∨ ∃ k, lo = some (.int k l)) (hhi : (hi = none ∧ h = len) ∨ ∃ k, hi = some (.int k h)) :
    (Instr.sliceBounds b len cap lo hi none).run P w = .ok (l.toNat, h.toNat, cap) w := by
  unfold Instr.sliceBounds
  rcases hhi with ⟨rfl, rfl⟩ | ⟨k, rfl⟩
  · rcases hlo with ⟨rfl, rfl⟩ | ⟨k, rfl⟩
    · simp
    · simp [run_bound h0 h1]
  · have hb : ∀ c, (Instr.sliceBound (.int k h) cap c).run P w = .ok h.toNat w := fun c => run_bound (by omega) h2
    rcases hlo with ⟨rfl, rfl⟩ | ⟨k2, rfl⟩
    · cases b <;> simp [hb]
    · have hc : ∀ c, (Instr.sliceBound (.int k2 l) h.toNat c).run P w = .ok l.toNat w := fun c => run_bound h0 (by omega)
      cases b <;> simp [hb, hc]

end
end Go.G36
