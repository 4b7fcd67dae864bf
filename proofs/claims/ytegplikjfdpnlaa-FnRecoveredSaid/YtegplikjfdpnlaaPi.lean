/- The plain part of FnRecovered: the law's loops. -/
import Derived.Test.YtegplikjfdpnlaaPh
namespace Go.G36
set_option linter.unusedVariables false
open Go Go.G36.GWalk

theorem foldI_append {α β : Type} (f : Nat → α → β → β) : ∀ (x y : List α) (i : Nat) (b : β), foldI f (x ++ y) i b = foldI f y (i + x.length) (foldI f x i b)
  | [], y, i, b => by simp [foldI]
  | a :: x, y, i, b => by
    simp only [List.cons_append, foldI, List.length_cons]
    rw [foldI_append f x y (i + 1)]
    congr 1; omega

section
variable (need delay : Int) (hs : List ByteArray) (es : List Ev)
def mAt (i : Nat) : Rs × List Int := foldI (mrun need delay hs) (es.take i) 0 (m0, [])
def cAt (i : Nat) (e : Ev) : Int := (mstep need delay hs e (mAt need delay hs es i).1).1
def hAt (i : Nat) : List (Int × Ev) := ((mAt need delay hs es i).2.zip (es.take i)).reverse

theorem mAt_succ (i : Nat) (e : Ev) (h : es[i]? = some e) : mAt need delay hs es (i + 1) = mrun need delay hs i e (mAt need delay hs es i) := by
  have hlt := (List.getElem?_eq_some_iff.1 h).1
  have ht : es.take (i + 1) = es.take i ++ [e] := by rw [List.take_add_one, h]; rfl
  unfold mAt
  rw [ht, foldI_append]
  have : (es.take i).length = i := by simp; omega
  simp [foldI, this]
theorem mAt_len : ∀ i, i ≤ es.length → (mAt need delay hs es i).2.length = i
  | 0, _ => rfl
  | i + 1, h => by
    have hx : es[i]? = some es[i] := by simp
    rw [mAt_succ need delay hs es i _ hx]
    simp [mrun, mAt_len i (by omega)]
theorem mAt_votes : ∀ i, i ≤ es.length → (mAt need delay hs es i).1.votes_.length ≤ i
  | 0, _ => by simp [mAt, foldI, m0]
  | i + 1, h => by
    have hx : es[i]? = some es[i] := by simp
    rw [mAt_succ need delay hs es i _ hx]
    have h1 := mstep_votes need delay hs es[i] (mAt need delay hs es i).1
    have h2 := mAt_votes i (by omega)
    show (mstep need delay hs es[i] (mAt need delay hs es i).1).2.votes_.length ≤ i + 1
    omega
theorem hAt_succ (i : Nat) (e : Ev) (h : es[i]? = some e) : hAt need delay hs es (i + 1) = (cAt need delay hs es i e, e) :: hAt need delay hs es i := by
  have hlt := (List.getElem?_eq_some_iff.1 h).1
  have ht : es.take (i + 1) = es.take i ++ [e] := by rw [List.take_add_one, h]; rfl
  unfold hAt
  rw [mAt_succ need delay hs es i e h, ht]
  simp only [mrun]
  rw [List.zip_append (by rw [mAt_len need delay hs es i (by omega)]; simp; omega)]
  simp [cAt]
theorem Iv_at : ∀ i, i ≤ es.length → Iv delay (mAt need delay hs es i).1 (hAt need delay hs es i)
  | 0, _ => fun h => by simp [mAt, foldI, m0] at h
  | i + 1, h => by
    have hx : es[i]? = some es[i] := by simp
    rw [hAt_succ need delay hs es i _ hx, mAt_succ need delay hs es i _ hx]
    exact (Iv_at i (by omega)).step _
theorem mAt_pre (i : Nat) : ∀ k, i + k ≤ es.length → (mAt need delay hs es (i + k)).2.take i = (mAt need delay hs es i).2
  | 0, h => by rw [Nat.add_zero, List.take_of_length_le (by rw [mAt_len need delay hs es i (by omega)]; exact Nat.le_refl _)]
  | k + 1, h => by
    have hx : es[i + k]? = some es[i + k] := by simp
    rw [← Nat.add_assoc, mAt_succ need delay hs es (i + k) _ hx]
    simp only [mrun]
    rw [List.take_append_of_le_length (by rw [mAt_len need delay hs es (i + k) (by omega)]; omega)]
    exact mAt_pre i k (by omega)
theorem outs_len : (outs need delay hs es).length = es.length := by
  have := mAt_len need delay hs es es.length (Nat.le_refl _)
  unfold mAt at this
  rw [List.take_length] at this
  exact this
theorem outs_at (i : Nat) (e : Ev) (h : es[i]? = some e) : (outs need delay hs es)[i]? = some (cAt need delay hs es i e) := by
  have hlt := (List.getElem?_eq_some_iff.1 h).1
  have hp := mAt_pre need delay hs es (i + 1) (es.length - (i + 1)) (by omega)
  rw [show i + 1 + (es.length - (i + 1)) = es.length by omega] at hp
  have hm := mAt_succ need delay hs es i e h
  have ho : (mAt need delay hs es es.length).2 = outs need delay hs es := by unfold mAt outs; rw [List.take_length]
  rw [ho] at hp
  have hl := mAt_len need delay hs es i (by omega)
  have : (outs need delay hs es)[i]? = ((outs need delay hs es).take (i + 1))[i]? := by rw [List.getElem?_take, if_pos (by omega)]
  rw [this, hp, hm]
  simp only [mrun]
  rw [List.getElem?_append_right (by omega), hl, Nat.sub_self]
  rfl
end

theorem c0_time {need delay : Int} {hs : List ByteArray} {e : Ev} {m : Rs} (h0 : (mstep need delay hs e m).1 = 0) : 0 ≤ e.Time_ := by
  cases hb : badE e
  · exact time_in hb
  · unfold mstep at h0; simp [hb] at h0

theorem scan_loop (need delay : Int) (hs : List ByteArray) (es : List Ev) (he : es.length ≤ 200) : ∀ (i : Nat) (v : Int) (p : Int × Int), i ≤ es.length → 0 ≤ v → v + (i : Int) ≤ 1000 → scanR (hAt need delay hs es i) v = some p →
    loopO (laws_FnRecovered_l2 es (outs need delay hs es)) (v, -1, (i : Int) - 1) = some (.inl p)
  | 0, v, p, _, _, _, h => by
    have : hAt need delay hs es 0 = [] := rfl
    rw [this] at h
    simp only [scanR, Option.some.injEq] at h
    subst h
    exact loopO_end (by simp [laws_FnRecovered_l2])
  | i + 1, v, p, hi, h0, hv, h => by
    have hx : es[i]? = some es[i] := by simp
    have hc := outs_at need delay hs es i _ hx
    have hj : (((i + 1 : Nat) : Int) - 1) = (i : Int) := by omega
    have hw : IntKind.i64.wrap ((i : Int) - 1) = (i : Int) - 1 := IntWalk.i64_in _ (by omega)
    rw [hAt_succ need delay hs es i _ hx] at h
    rw [hj]
    simp only [scanR] at h
    have hst : laws_FnRecovered_l2 es (outs need delay hs es) (v, -1, (i : Int)) = cond (cAt need delay hs es i es[i] != 0) (some (.inl (v, -1, (i : Int) - 1))) (cond (es[i].Kind_ == 2) (some (.inl (v + 1, -1, (i : Int) - 1))) (cond (es[i].Kind_ == 1) (some (.inl (v, es[i].Time_, (i : Int) - 1))) (some (.inr (.inr false))))) := by
      simp only [laws_FnRecovered_l2, idx_nat, hc, hx, Option.bind_some, laws_FnRecovered_j1, hw, IntWalk.i64_in (v + 1) (by omega)]
      simp
    cases hcz : (cAt need delay hs es i es[i] != 0) with
    | true =>
      rw [hcz] at h hst
      rw [loopO_go hst]
      exact scan_loop need delay hs es he i v p (by omega) h0 (by omega) h
    | false =>
      rw [hcz] at h hst
      simp only [cond_false] at h hst
      cases h2 : (es[i].Kind_ == 2) with
      | true =>
        rw [h2] at h hst
        rw [loopO_go hst]
        exact scan_loop need delay hs es he i (v + 1) p (by omega) (by omega) (by omega) h
      | false =>
        rw [h2] at h hst
        simp only [cond_false] at h hst
        cases h1 : (es[i].Kind_ == 1) with
        | false => rw [h1] at h; simp at h
        | true =>
          rw [h1] at h hst
          simp only [cond_true, Option.some.injEq] at h hst
          subst h
          rw [loopO_go hst]
          have h0' : (mstep need delay hs es[i] (mAt need delay hs es i).1).1 = 0 := by simpa [cAt] using hcz
          have ht := c0_time h0'
          refine loopO_end ?_
          have : decide (es[i].Time_ < 0) = false := decide_eq_false (by omega)
          simp [laws_FnRecovered_l2, this]

theorem law_loop (need delay : Int) (hs : List ByteArray) (es : List Ev) (he : es.length ≤ 200) : loopO (laws_FnRecovered_l1 need delay es (outs need delay hs es)) 0 = some (.inl ()) := by
  have hlen := outs_len need delay hs es
  have h := loop_first (outs need delay hs es) (laws_FnRecovered_l1 need delay es (outs need delay hs es)) (fun _ _ => (none : Option Bool)) outU (fun i c hc => by
    have hi : i < es.length := by rw [← hlen]; exact (List.getElem?_eq_some_iff.1 hc).1
    have hx : es[i]? = some es[i] := by simp
    have hcc := outs_at need delay hs es i _ hx
    have hw : IntKind.i64.wrap ((i : Int) - 1) = (i : Int) - 1 := IntWalk.i64_in _ (by omega)
    have hws := wrap_succ (i := i) (by omega)
    simp only [laws_FnRecovered_l1, show decide ((i : Int) < ((outs need delay hs es).length : Int)) = true from decide_eq_true (by omega), cond_true, idx_nat, hcc, hx, Option.bind_some, hw, hws]
    cases hz : (cAt need delay hs es i es[i] != 0) with
    | true => simp [gdO]
    | false =>
      simp only [gdO, Bool.not_false, cond_true, Option.bind_some, Bool.false_or]
      cases h4 : (es[i].Kind_ != 4) with
      | true => simp
      | false =>
        have h0 : (mstep need delay hs es[i] (mAt need delay hs es i).1).1 = 0 := by simpa [cAt] using hz
        have hk : es[i].Kind_ = 4 := by simpa using h4
        obtain ⟨k1, k2, k3⟩ := took h0 hk
        obtain ⟨t, k4, k5, k6⟩ := Iv_at need delay hs es i (by omega) k1
        have hsc := scan_loop need delay hs es he i 0 _ (by omega) (by omega) (by omega) k4
        simp only [cond_false]
        rw [hsc]
        have e1 : decide (t < 0) = false := decide_eq_false (by omega)
        have e2 : decide (((mAt need delay hs es i).1.votes_.length : Int) < need) = false := decide_eq_false (by omega)
        have e3 : decide (es[i].Time_ < IntKind.i64.wrap (t + delay)) = false := decide_eq_false (by rw [← k6]; omega)
        simp [e1, e2, e3]) (by simp [laws_FnRecovered_l1, outU]) (outs need delay hs es).length 0 (by omega)
  have key : ∀ (l : List Int) (i : Nat), firstG (fun _ _ => (none : Option Bool)) l i = none := by
    intro l
    induction l with
    | nil => intro i; rfl
    | cons a r ih => intro i; exact ih (i + 1)
  rw [show ((0 : Int)) = ((0 : Nat) : Int) from rfl, h, key]
  rfl
end Go.G36
