/- Parts of texts and slices. -/
import Derived.Test.YtnohlppnebcefaaGreatKy
namespace Go.G36
variable [Genv]
set_option linter.all false
open Go

def optE (fr : Fr) : Option Operand → Int → Option Int
  | none, d => some d
  | some x, _ => match evalE fr x with
    | some (.int _ n) => some n
    | _ => none
def subS (s : ByteArray) (l h : Int) : Option ByteArray := if 0 ≤ l ∧ l ≤ h ∧ h ≤ s.size then some (s.extract l.toNat h.toNat) else none
def sub {α : Type} (xs : List α) (l h : Int) : Option (List α) := if 0 ≤ l ∧ l ≤ h ∧ h ≤ xs.length then some ((xs.drop l.toNat).take (h - l).toNat) else none
theorem subS_s {s u : ByteArray} {l h : Int} (hh : subS s l h = some u) : 0 ≤ l ∧ l ≤ h ∧ h ≤ s.size ∧ u = s.extract l.toNat h.toNat := by
  unfold subS at hh
  split at hh
  · rename_i h1; exact ⟨h1.1, h1.2.1, h1.2.2, (Option.some.inj hh).symm⟩
  · cases hh
theorem sub_s {α : Type} {xs ys : List α} {l h : Int} (hh : sub xs l h = some ys) : 0 ≤ l ∧ l ≤ h ∧ h ≤ xs.length ∧ ys = (xs.drop l.toNat).take (h - l).toNat := by
  unfold sub at hh
  split at hh
  · rename_i h1; exact ⟨h1.1, h1.2.1, h1.2.2, (Option.some.inj hh).symm⟩
  · cases hh

section
variable {P : Program} {o : Oper} {fr : Fr} {σ : ASt}

theorem opt_val {S B : Nat → Prop} {ι : List Loc} {w : World} {a : Act} {l : Int} (he : ∀ x, x ∈ o.op.operands → ∀ y, evalE fr x = some y → Val S B (RefR ι σ) w y (a.eval x)) {lo : Option Operand} {d : Int}
    (hin : ∀ x, lo = some x → x ∈ o.op.operands) (h : optE fr lo d = some l) : (lo = none ∧ l = d) ∨ ∃ x k, lo = some x ∧ a.eval x = .int k l := by
  cases lo with
  | none => simp [optE] at h; exact .inl ⟨rfl, h.symm⟩
  | some x =>
    refine .inr ⟨x, ?_⟩
    simp only [optE] at h
    cases hx : evalE fr x with
    | none => rw [hx] at h; cases h
    | some v =>
      rw [hx] at h
      cases v <;> simp at h
      subst h
      exact ⟨_, rfl, (he x (hin x rfl) _ hx).inv_int⟩

theorem run_bound {w : World} {k : IntKind} {i : Int} {y : Nat} {c : BoundsCode} (h0 : 0 ≤ i) (h1 : i ≤ y) : (Instr.sliceBound (.int k i) y c).run P w = .ok i.toNat w := by
  simp [Instr.sliceBound, asIntOf, h0, h1]

theorem run_bounds {w : World} {b : Bool} {len cap : Nat} {lo hi : Option Value} {l h : Int} (h0 : 0 ≤ l) (h1 : l ≤ h) (h2 : h ≤ cap) (hlo : (lo = none ∧ l = 0) ∨ ∃ k, lo = some (.int k l)) (hhi : (hi = none ∧ h = len) ∨ ∃ k, hi = some (.int k h)) :
    (Instr.sliceBounds b len cap lo hi none).run P w = .ok (l.toNat, h.toNat, cap) w := by
  unfold Instr.sliceBounds
  rcases hhi with ⟨rfl, rfl⟩ | ⟨k, rfl⟩
  · rcases hlo with ⟨rfl, rfl⟩ | ⟨k, rfl⟩
    · simp
    · simp [run_bound h0 h1]
  · have hb : ∀ c, (Instr.sliceBound (.int k h) cap c).run P w = .ok h.toNat w := fun c => run_bound (by omega) h2
    rcases hlo with ⟨rfl, rfl⟩ | ⟨k2, rfl⟩
    · cases b <;> simp [hb]
    · have hc : ∀ c, (Instr.sliceBound (.int k2 l) h.toNat c).run P w = .ok l.toNat w := fun c => run_bound h0 (by omega)
      cases b <;> simp [hb, hc]

theorem o_subS {t : TypeId} {x : Operand} {lo hi : Option Operand} {s u : ByteArray} {l h : Int} (ho : o.op = .slice t x lo hi none) (ht : P.underlying t = some .string) (hx : evalE fr x = some (.str s))
    (hlo : optE fr lo 0 = some l) (hhi : optE fr hi s.size = some h) (hs : subS s l h = some u) : Does P o fr σ (.str u) σ := quiet fun S B ι a w he hm => by
  have h1 := (he x (by simp [ho, Op.operands]) _ hx).inv_str
  obtain ⟨k0, k1, k2, rfl⟩ := subS_s hs
  have hl := opt_val he (fun y hy => by simp [ho, Op.operands, hy]) hlo
  have hh := opt_val he (fun y hy => by simp [ho, Op.operands, hy]) hhi
  have hb : (Instr.sliceBounds false s.size s.size (lo.map a.eval) (hi.map a.eval) none).run P w = .ok (l.toNat, h.toNat, s.size) w :=
    run_bounds k0 k1 k2 (by rcases hl with ⟨rfl, rfl⟩ | ⟨y, k, rfl, hy⟩; exact .inl ⟨rfl, rfl⟩; exact .inr ⟨k, by simp [hy]⟩) (by rcases hh with ⟨rfl, rfl⟩ | ⟨y, k, rfl, hy⟩; exact .inl ⟨rfl, rfl⟩; exact .inr ⟨k, by simp [hy]⟩)
  refine ⟨_, ?_, .cv _ _ (by constructor)⟩
  simp [execOp, ho, h1, Instr.sliceAt, Instr.slice, run_underlying ht, hb]

theorem o_subL {α : Type} {f : α → List V} {t e : TypeId} {ag : Bool} {sz : Nat} {x : Operand} {lo hi : Option Operand} {bor : Bool} {xs ys : List α} {l h : Int} (ho : o.op = .slice t x lo hi none) (ht : P.underlying t = some (.slice e)) (hs : TyS P e ag sz)
    (hx : evalE fr x = some (.im bor (xs.map f))) (hlo : optE fr lo 0 = some l) (hhi : optE fr hi xs.length = some h) (hfs : ∀ a, (f a).length = sz) (hs2 : sub xs l h = some ys) : Does P o fr σ (.im bor (ys.map f)) σ := quiet fun S B ι a w he hm => by
  obtain ⟨A, cap, esz, vals, h1, hc, hA, hv, hone⟩ := (he x (by simp [ho, Op.operands]) _ hx).inv_im
  obtain ⟨k0, k1, k2, hys⟩ := sub_s hs2
  have hl := opt_val he (fun y hy => by simp [ho, Op.operands, hy]) hlo
  have hh := opt_val he (fun y hy => by simp [ho, Op.operands, hy]) hhi
  have hc' : xs.length ≤ cap := by simpa using hc
  have hb : (Instr.sliceBounds true xs.length cap (lo.map a.eval) (hi.map a.eval) none).run P w = .ok (l.toNat, h.toNat, cap) w :=
    run_bounds k0 k1 (by omega) (by rcases hl with ⟨rfl, rfl⟩ | ⟨y, k, rfl, hy⟩; exact .inl ⟨rfl, rfl⟩; exact .inr ⟨k, by simp [hy]⟩) (by rcases hh with ⟨rfl, rfl⟩ | ⟨y, k, rfl, hy⟩; exact .inl ⟨rfl, rfl⟩; exact .inr ⟨k, by simp [hy]⟩)
  have hlen : ys.length = h.toNat - l.toNat := by rw [hys, List.length_take, List.length_drop]; omega
  have get : ∀ (i : Nat) (row : List V), (ys.map f)[i]? = some row → (xs.map f)[l.toNat + i]? = some row := fun i row hr => by
    rw [List.getElem?_map] at hr ⊢
    rw [hys] at hr
    rw [List.getElem?_take] at hr
    split at hr
    · rwa [List.getElem?_drop] at hr
    · cases hr
  refine ⟨.slice (if cap = l.toNat then A else A.map (·.add (l.toNat * sz))) (h.toNat - l.toNat) (cap - l.toNat), ?_, ?_⟩
  · simp [execOp, ho, h1, Instr.sliceAt, Instr.slice, run_underlying ht, hb, hs.size w]
  · have hne : ys.map f ≠ [] → xs.map f ≠ [] ∧ cap ≠ l.toNat := fun hn => by
      have : 0 < ys.length := by
        rcases Nat.eq_zero_or_pos ys.length with h0 | h0
        · exfalso; exact hn (by rw [List.length_eq_zero_iff.1 h0]; rfl)
        · exact h0
      refine ⟨fun hx0 => ?_, by omega⟩
      have : xs.length = 0 := by simpa using congrArg List.length hx0
      omega
    have hA2 : ys.map f ≠ [] → ∃ b off, (if cap = l.toNat then A else A.map (·.add (l.toNat * sz))) = some ⟨b, off, none⟩ ∧ (S b ∨ B b) ∧ (bor = false → S b) ∧ (bor = true → B b) ∧ (∀ row, row ∈ ys.map f → row.length = sz) ∧
        ∀ (i j : Nat) (row : List V) (c : V), (ys.map f)[i]? = some row → row[j]? = some c → w.cell? ⟨b, off + i * sz + j, none⟩ = some (vals (l.toNat + i) j) := fun hn => by
      obtain ⟨n1, n2⟩ := hne hn
      obtain ⟨b, off, q1, q2, q3, q4, q5, q6⟩ := hA n1
      have he : esz = sz := by
        cases xs with
        | nil => exact absurd rfl n1
        | cons a0 r => rw [← q5 (f a0) (by simp), hfs]
      subst he
      rw [if_neg n2, q1]
      refine ⟨b, off + l.toNat * esz, by simp [Addr.add_mid], q2, q3, q4, fun row hr => by obtain ⟨a, _, rfl⟩ := List.mem_map.1 hr; exact hfs a, fun i j row c hr hj => ?_⟩
      have := q6 (l.toNat + i) j row c (get i row hr) hj
      rw [Nat.add_mul, ← Nat.add_assoc] at this
      exact this
    have hv2 : ∀ (i j : Nat) (row : List V) (c : V), (ys.map f)[i]? = some row → row[j]? = some c → CV S w c (vals (l.toNat + i) j) := fun i j row c hr hj => hv _ j row c (get i row hr) hj
    have ho2 : ∀ (i j : Nat) (row : List V) (c : V), (ys.map f)[i]? = some row → row[j]? = some c → c.one = true := fun i j row c hr hj => hone _ j row c (get i row hr) hj
    have hml : (ys.map f).length = h.toNat - l.toNat := by rw [List.length_map, hlen]
    rw [← hml]
    cases bor with
    | false => exact .cv _ _ (.im _ _ _ sz (fun i j => vals (l.toNat + i) j) (by rw [hml]; omega) (fun hn => by obtain ⟨b, off, q1, q2, q3, q4, q5, q6⟩ := hA2 hn; exact ⟨b, off, q1, q3 rfl, q5, q6⟩) hv2 ho2)
    | true => exact .imB _ _ _ sz (fun i j => vals (l.toNat + i) j) (by rw [hml]; omega) (fun hn => by obtain ⟨b, off, q1, q2, q3, q4, q5, q6⟩ := hA2 hn; exact ⟨b, off, q1, q4 rfl, q5, q6⟩) hv2 ho2
end
end Go.G36
