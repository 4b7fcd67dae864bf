/- Slices and structs written out, make, function values. -/
import Derived.Test.YtmlfbendohecmaaKg
namespace Go.G36
variable [Genv]
set_option linter.all false
open Go

/-! ### fill -/
def fillV (place : Nat → Option (Nat × Nat)) : List V → List (Nat × V) → Option (List V)
  | cs, [] => some cs
  | cs, (i, v) :: r => match place i with
    | none => none
    | some (off, size) => match Nat.beq v.cells.length size && Nat.ble (off + size) cs.length with
      | true => fillV place (putAt off v.cells cs) r
      | false => none

theorem foldl_put (off : Nat) : ∀ (l : List Value) (n : Nat) (cells : Array Value),
    ((l.zipIdx n).foldl (fun cs (x : Value × Nat) => cs.setIfInBounds (off + x.2) x.1) cells).size = cells.size ∧
    ∀ i, ((l.zipIdx n).foldl (fun cs (x : Value × Nat) => cs.setIfInBounds (off + x.2) x.1) cells)[i]? = if off + n ≤ i ∧ i < off + n + l.length ∧ i < cells.size then l[i - (off + n)]? else cells[i]?
  | [], n, cells => ⟨rfl, fun i => by rw [if_neg (by simp; omega)]; rfl⟩
  | x :: l, n, cells => by
    obtain ⟨h1, h2⟩ := foldl_put off l (n + 1) (cells.setIfInBounds (off + n) x)
    simp only [List.zipIdx_cons, List.foldl_cons]
    refine ⟨h1.trans (by simp), fun i => ?_⟩
    rw [h2 i]
    simp only [Array.size_setIfInBounds, List.length_cons]
    by_cases hi : i = off + n
    · subst hi
      rw [if_neg (by omega)]
      by_cases hlt : off + n < cells.size
      · rw [if_pos ⟨Nat.le_refl _, by omega, hlt⟩]; simp [hlt]
      · rw [if_neg (by omega), Array.getElem?_eq_none (by simp; omega), Array.getElem?_eq_none (by omega)]
    · by_cases hc : off + (n + 1) ≤ i ∧ i < off + (n + 1) + l.length ∧ i < cells.size
      · rw [if_pos hc, if_pos ⟨by omega, by omega, hc.2.2⟩, show i - (off + n) = (i - (off + (n + 1))) + 1 by omega]; rfl
      · rw [if_neg hc, if_neg (by omega), Array.getElem?_setIfInBounds_ne (Ne.symm hi)]

/-- V's cells and the cells. -/
def PW (C : V → Value → Prop) (cs : List V) (us : Array Value) : Prop := cs.length = us.size ∧ ∀ (i : Nat) (c : V) (u : Value), cs[i]? = some c → us[i]? = some u → C c u

theorem fill_val {C : V → Value → Prop} {place : Nat → Option (Nat × Nat)} : ∀ (vs : List (Nat × V)) (us : List (Nat × Value)) (cs : List V) (cells : Array Value) (ds : List V), PW C cs cells →
    vs.length = us.length → (∀ (q : Nat) (x : Nat × V) (y : Nat × Value), vs[q]? = some x → us[q]? = some y → x.1 = y.1 ∧ PW C x.2.cells y.2.cells) → fillV place cs vs = some ds →
    ∃ cells', Instr.fill place cells us = some cells' ∧ PW C ds cells'
  | [], us, cs, cells, ds, hp, hl, hv, hf => by
    have : us = [] := List.eq_nil_of_length_eq_zero (by simpa using hl.symm)
    subst this
    simp [fillV] at hf
    subst hf
    exact ⟨cells, rfl, hp⟩
  | (i, v) :: vs, us, cs, cells, ds, hp, hl, hv, hf => by
    cases us with
    | nil => simp at hl
    | cons y us =>
      obtain ⟨j, u⟩ := y
      obtain ⟨h1, h2⟩ := hv 0 (i, v) (j, u) rfl rfl
      simp only at h1 h2
      subst h1
      unfold fillV at hf
      cases hpl : place i with
      | none => rw [hpl] at hf; cases hf
      | some os =>
        obtain ⟨off, size⟩ := os
        rw [hpl] at hf
        simp only at hf
        split at hf
        · rename_i hcond
          simp only [Bool.and_eq_true] at hcond
          have e1 : v.cells.length = size := Nat.eq_of_beq_eq_true hcond.1
          have e2 : off + size ≤ cs.length := Nat.le_of_ble_eq_true hcond.2
          have e3 : u.cells.size = size := by rw [← h2.1, e1]
          unfold Instr.fill
          rw [hpl]
          simp only [e3, ne_eq, not_true_eq_false, decide_false, Bool.false_or, decide_eq_true_eq]
          rw [if_neg (by rw [← hp.1]; omega)]
          have hfold : (u.cells.zipIdx.foldl (fun cs (x : Value × Nat) => cs.setIfInBounds (off + x.2) x.1) cells) = ((u.cells.toList.zipIdx 0).foldl (fun cs (x : Value × Nat) => cs.setIfInBounds (off + x.2) x.1) cells) := by
            rw [← Array.foldl_toList, Array.toList_zipIdx]
          obtain ⟨f1, f2⟩ := foldl_put off u.cells.toList 0 cells
          refine fill_val vs us (putAt off v.cells cs) _ ds ?_ (by simpa using hl) (fun q x y hx hy => hv (q + 1) x y (by simpa using hx) (by simpa using hy)) hf
          refine ⟨?_, fun q c x hc hx => ?_⟩
          · rw [putAt_length (by omega), hp.1]
            show _ = Array.size (u.cells.zipIdx.foldl (fun cs (x : Value × Nat) => cs.setIfInBounds (off + x.2) x.1) cells)
            rw [hfold, f1]
          · have hx2 : ((u.cells.toList.zipIdx 0).foldl (fun cs (x : Value × Nat) => cs.setIfInBounds (off + x.2) x.1) cells)[q]? = some x := by rw [← hfold]; exact hx
            rw [f2 q] at hx2
            rw [putAt_get (by omega)] at hc
            simp only [Nat.add_zero, Array.length_toList, e3] at hx2
            rw [e1] at hc
            by_cases hq : off ≤ q ∧ q < off + size
            · rw [if_pos hq] at hc
              rw [if_pos ⟨hq.1, hq.2, by rw [← hp.1]; omega⟩] at hx2
              exact h2.2 (q - off) c x hc (by simpa using hx2)
            · rw [if_neg hq] at hc
              rw [if_neg (fun h => hq ⟨h.1, h.2.1⟩)] at hx2
              exact hp.2 q c x hc hx2
        · cases hf

def evalParts (fr : Fr) : List (Nat × Operand) → Option (List (Nat × V))
  | [] => some []
  | (i, x) :: r => match evalE fr x, evalParts fr r with
    | some v, some vs => some ((i, v) :: vs)
    | _, _ => none

theorem evalParts_get {fr : Fr} : ∀ {l : List (Nat × Operand)} {vs : List (Nat × V)}, evalParts fr l = some vs → vs.length = l.length ∧
    ∀ (q : Nat) (p : Nat × Operand), l[q]? = some p → ∃ v, vs[q]? = some (p.1, v) ∧ evalE fr p.2 = some v
  | [], vs, h => by simp [evalParts] at h; subst h; simp
  | (i, x) :: r, vs, h => by
    unfold evalParts at h
    split at h
    · rename_i v ws h1 h2
      injection h with h; subst h
      obtain ⟨h3, h4⟩ := evalParts_get h2
      refine ⟨by simp [h3], fun q p hp => ?_⟩
      cases q with
      | zero => simp at hp; subst hp; exact ⟨v, rfl, h1⟩
      | succ q => simp at hp ⊢; exact h4 q p hp
    · cases h

def suresP (σ : ASt) : List (Nat × V) → Bool
  | [] => true
  | (_, v) :: r => V.sures σ v.cells && suresP σ r
theorem suresP_get {σ : ASt} : ∀ {vs : List (Nat × V)}, suresP σ vs = true → ∀ (q : Nat) (x : Nat × V), vs[q]? = some x → V.sures σ x.2.cells = true
  | [], _, q, x, hx => by simp at hx
  | (i, v) :: r, h, q, x, hx => by
    simp only [suresP, Bool.and_eq_true] at h
    cases q with
    | zero => simp at hx; subst hx; exact h.1
    | succ q => simp at hx; exact suresP_get h.2 q x hx

section
variable {P : Program} {o : Oper} {fr : Fr} {σ : ASt}

theorem parts_val {S B : Nat → Prop} {ι : List Loc} {w : World} {a : Act} {parts : Array (Nat × Operand)} {vs : List (Nat × V)} (he : ∀ p, p ∈ parts.toList → ∀ y, evalE fr p.2 = some y → Val S B (RefR ι σ) w y (a.eval p.2))
    (hp : evalParts fr parts.toList = some vs) (hs : suresP σ vs = true) :
    vs.length = ((parts.map fun (i, x) => (i, a.eval x)).toList).length ∧ ∀ (q : Nat) (x : Nat × V) (y : Nat × Value), vs[q]? = some x → ((parts.map fun (i, x) => (i, a.eval x)).toList)[q]? = some y →
      x.1 = y.1 ∧ PW (fun c u => Val S B (RefR ι σ) w c u ∧ u.oneCell' = true) x.2.cells y.2.cells := by
  obtain ⟨h1, h2⟩ := evalParts_get hp
  refine ⟨by simp [h1], fun q x y hx hy => ?_⟩
  rw [Array.toList_map, List.getElem?_map] at hy
  cases hq : parts.toList[q]? with
  | none => rw [hq] at hy; cases hy
  | some p =>
    rw [hq] at hy
    simp only [Option.map_some, Option.some.injEq] at hy
    subst hy
    obtain ⟨v, h3, h4⟩ := h2 q p hq
    rw [h3] at hx
    injection hx with hx
    subst hx
    have hval := he p (List.mem_of_getElem? hq) v h4
    obtain ⟨k1, k2, k3⟩ := hval.cells (suresP_get hs q (p.1, v) h3)
    exact ⟨rfl, k1, fun i c u hc hu => ⟨k2 i c u hc hu, k3 u (by rw [← Array.getElem?_toList] at hu; exact List.mem_of_getElem? hu)⟩⟩

/-- How a struct or an array is put together. -/
def Bld (P : Program) (t : TypeId) (zs : List V) (place : Nat → Option (Nat × Nat)) : Prop := ∃ z : Value, (∀ parts, P.built t parts = Instr.fill place z.cells parts) ∧ ofCells z.cells.toList = some zs

theorem o_build {t : TypeId} {parts : Array (Nat × Operand)} {zs cs : List V} {place : Nat → Option (Nat × Nat)} {vs : List (Nat × V)} (ho : o.op = .build t parts) (hb : Bld P t zs place) (hp : evalParts fr parts.toList = some vs) (hs : suresP σ vs = true)
    (hf : fillV place zs vs = some cs) : Does P o fr σ (.agg cs) σ := quiet fun S B ι a w he hm => by
  obtain ⟨z, h1, h2⟩ := hb
  obtain ⟨h3, h4⟩ := ofCells_get h2
  obtain ⟨k1, k2⟩ := parts_val (S := S) (B := B) (ι := ι) (w := w) (a := a) (fun p hp y hy => he p.2 (by simp only [ho, Op.operands, List.mem_toArray, List.mem_map]; simp; exact ⟨p.1, by simpa using hp⟩) y hy) hp hs
  obtain ⟨cells, k3, k4⟩ := fill_val (C := fun c u => Val S B (RefR ι σ) w c u ∧ u.oneCell' = true) vs _ zs z.cells cs ⟨by simpa using h3, fun i c u hc hu => ⟨.cv _ _ (ofCell_cv (h4 i c u hc (by simpa using hu))), (ofCell_one (h4 i c u hc (by simpa using hu))).1⟩⟩ k1 k2 hf
  have hr := run_build (P := P) w t (parts.map fun (i, x) => (i, a.eval x)) cells (by rw [h1]; exact k3)
  refine ⟨.agg cells, ?_, .agg _ _ k4.1 fun i c u hc hu => (k4.2 i c u hc hu).1⟩
  simp only [execOp, ho, Sem.run_bind, hr, Result.andThen_ok, Sem.run_pure]

theorem o_makeFunc {f : FuncId} {first caps : Array Operand} {vs ks : List V} (ho : o.op = .makeFunc (.func f) first caps) (h1 : first.toList.mapM (evalE fr) = some vs) (h2 : caps.toList.mapM (evalE fr) = some ks) :
    Does P o fr σ (.fn f vs ks) σ := quiet fun S B ι a w he hm => by
  have key : ∀ (l : List Operand) (vs : List V), (∀ x, x ∈ l → x ∈ o.op.operands) → l.mapM (evalE fr) = some vs → vs.length = l.length ∧ ∀ (i : Nat) (c : V) (u : Value), vs[i]? = some c → (l.map a.eval)[i]? = some u → Val S B (RefR ι σ) w c u := by
    intro l
    induction l with
    | nil => intro vs _ h; simp at h; subst h; simp
    | cons x r ih =>
      intro vs hmem h
      simp only [List.mapM_cons, Option.bind_eq_bind, Option.pure_def] at h
      cases hx : evalE fr x with
      | none => simp [hx] at h
      | some v =>
        cases hr : r.mapM (evalE fr) with
        | none => simp [hx, hr] at h
        | some ws =>
          simp [hx, hr] at h
          subst h
          obtain ⟨e1, e2⟩ := ih ws (fun y hy => hmem y (by simp [hy])) hr
          refine ⟨by simp [e1], fun i c u hc hu => ?_⟩
          cases i with
          | zero => simp at hc hu; subst hc; subst hu; exact he x (hmem x (by simp)) v hx
          | succ i => simp at hc hu; exact e2 i c u hc (by simpa using hu)
  obtain ⟨e1, e2⟩ := key first.toList vs (fun x hx => by simp [ho, Op.operands]; exact .inl (by simpa using hx)) h1
  obtain ⟨e3, e4⟩ := key caps.toList ks (fun x hx => by simp [ho, Op.operands]; exact .inr (by simpa using hx)) h2
  refine ⟨.func (.func f) (first.map a.eval) (caps.map a.eval), by simp [execOp, ho, Instr.makeFunc], .fn f vs ks _ _ (by simpa using e1) (by simpa using e3) (fun i c u hc hu => e2 i c u hc (by rw [← Array.toList_map, Array.getElem?_toList]; exact hu)) fun i c u hc hu => e4 i c u hc (by rw [← Array.toList_map, Array.getElem?_toList]; exact hu)⟩
end
end Go.G36
