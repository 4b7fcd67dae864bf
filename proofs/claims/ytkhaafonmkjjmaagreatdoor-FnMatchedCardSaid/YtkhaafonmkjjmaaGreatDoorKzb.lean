/- Parts of texts and slices. -/
import Derived.Test.YtkhaafonmkjjmaaGreatDoorKy
namespace Go.G36
variable [Genv]
set_option linter.all false
open Go

def optE (fr : Fr) : Option Operand → Int → Option Int
  | none, d => some d
  | some x, _ => match evalE fr x with
    | some (.int _ n) => some n
    | _ => none
def subS (s : ByteArray) (l h : Int) : Option ByteArray := if 0 ≤ l ∧ l ≤ h ∧ h ≤ s.size then some (s.extract l.toNat h.toNat) else none
def sub {α : Type} (xs : List α) (l h : Int) : Option (List α) := if 0 ≤ l ∧ l ≤ h ∧ h ≤ xs.length then some ((xs.drop l.toNat).take (h - l).toNat) else none
theorem subS_s {s u : ByteArray} {l h : Int} (hh : subS s l h = some u) : 0 ≤ l ∧ l ≤ h ∧ h ≤ s.size ∧ u = s.extract l.toNat h.toNat := by
  unfold subS at hh
  split at hh
  · rename_i h1; exact ⟨h1.1, h1.2.1, h1.2.2, (Option.some.inj hh).symm⟩
  · cases hh
section
variable {P : Program} {o : Oper} {fr : Fr} {σ : ASt}

theorem opt_val {S B : Nat → Prop} {ι : List Loc} {w : World} {a : Act} {l : Int} (he : ∀ x, x ∈ o.op.operands → ∀ y, evalE fr x = some y → Val S B (RefR ι σ) w y (a.eval x)) {lo : Option Operand} {d : Int}
    (hin : ∀ x, lo = some x → x ∈ o.op.operands) (h : optE fr lo d = some l) : (lo = none ∧ l = d) ∨ ∃ x k, lo = some x ∧ a.eval x = .int k l := by
  cases lo with
  | none => simp [optE] at h; exact .inl ⟨rfl, h.symm⟩
  | some x =>
    refine .inr ⟨x, ?_⟩
    simp only [optE] at h
    cases hx : evalE fr x with
    | none => rw [hx] at h; cases h
    | some v =>
      rw [hx] at h
      cases v <;> simp at h
      subst h
      exact ⟨_, rfl, (he x (hin x rfl) _ hx).inv_int⟩

theorem run_bound {w : World} {k : IntKind} {i : Int} {y : Nat} {c : BoundsCode} (h0 : 0 ≤ i) (h1 : i ≤ y) : (Instr.sliceBound (.int k i) y c).run P w = .ok i.toNat w := by
  simp [Instr.sliceBound, asIntOf, h0, h1]

theorem run_bounds {w : World} {b : Bool} {len cap : Nat} {lo hi : Option Value} {l h : Int} (h0 : 0 ≤ l) (h1 : l ≤ h) (h2 : h ≤ cap) (hlo : (lo = none ∧ l = 0) ∨ ∃ k, lo = some (.int k l)) (hhi : (hi = none ∧ h = len) ∨ ∃ k, hi = some (.int k h)) :
    (Instr.sliceBounds b len cap lo hi none).run P w = .ok (l.toNat, h.toNat, cap) w := by
  unfold Instr.sliceBounds
  rcases hhi with ⟨rfl, rfl⟩ | ⟨k, rfl⟩
  · rcases hlo with ⟨rfl, rfl⟩ | ⟨k, rfl⟩
    · simp
    · simp [run_bound h0 h1]
  · have hb : ∀ c, (Instr.sliceBound (.int k h) cap c).run P w = .ok h.toNat w := fun c => run_bound (by omega) h2
    rcases hlo with ⟨rfl, rfl⟩ | ⟨k2, rfl⟩
    · cases b <;> simp [hb]
    · have hc : ∀ c, (Instr.sliceBound (.int k2 l) h.toNat c).run P w = .ok l.toNat w := fun c => run_bound h0 (by omega)
      cases b <;> simp [hb, hc]

theorem o_subS {t : TypeId} {x : Operand} {lo hi : Option Operand} {s u : ByteArray} {l h : Int} (ho : o.op = .slice t x lo hi none) (ht : P.underlying t = some .string) (hx : evalE fr x = some (.str s))
    (hlo : optE fr lo 0 = some l) (hhi : optE fr hi s.size = some h) (hs : subS s l h = some u) : Does P o fr σ (.str u) σ := quiet fun S B ι a w he hm => by
  have h1 := (he x (by simp [ho, Op.operands]) _ hx).inv_str
  obtain ⟨k0, k1, k2, rfl⟩ := subS_s hs
  have hl := opt_val he (fun y hy => by simp [ho, Op.operands, hy]) hlo
  have hh := opt_val he (fun y hy => by simp [ho, Op.operands, hy]) hhi
  have hb : (Instr.sliceBounds false s.size s.size (lo.map a.eval) (hi.map a.eval) none).run P w = .ok (l.toNat, h.toNat, s.size) w :=
    run_bounds k0 k1 k2 (by rcases hl with ⟨rfl, rfl⟩ | ⟨y, k, rfl, hy⟩; exact .inl ⟨rfl, rfl⟩; exact .inr ⟨k, by simp [hy]⟩) (by rcases hh with ⟨rfl, rfl⟩ | ⟨y, k, rfl, hy⟩; exact .inl ⟨rfl, rfl⟩; exact .inr ⟨k, by simp [hy]⟩)
  refine ⟨_, ?_, .cv _ _ (by constructor)⟩
  simp [execOp, ho, h1, Instr.sliceAt, Instr.slice, run_underlying ht, hb]

end
end Go.G36
