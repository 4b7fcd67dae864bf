/- What is drawn. -/
import Derived.Test.YtnndbiialpaccaaDoorR36g
namespace Go.G36.RV1
set_option linter.all false
open Go Go.G36 Go.G36.RV

def Cur (n : Nat) (s : T_spec_l1Cur) : Prop := 0 ≤ s.at_ ∧ s.at_ ≤ (n : Int) ∧ ∀ b, b ∈ s.code_ → 0 ≤ b ∧ b ≤ 255
abbrev lim : Nat := 1000000
theorem Cur.mono {n m : Nat} {s : T_spec_l1Cur} (h : Cur n s) (hm : n ≤ m) : Cur m s := ⟨h.1, by have := h.2.1; omega, h.2.2⟩

theorem u64_and (x : BitVec IntKind.u64.bits) : 0 ≤ IntKind.i64.wrap (IntKind.u64.wrap ((x &&& BitVec.ofInt IntKind.u64.bits 255).toNat : Int)) ∧ IntKind.i64.wrap (IntKind.u64.wrap ((x &&& BitVec.ofInt IntKind.u64.bits 255).toNat : Int)) ≤ 255 := by
  have h : (x &&& BitVec.ofInt IntKind.u64.bits 255).toNat ≤ 255 := by
    rw [BitVec.toNat_and]
    exact Nat.le_trans Nat.and_le_right (by decide)
  generalize (x &&& BitVec.ofInt IntKind.u64.bits 255).toNat = y at h
  rw [IntWalk.u64_in _ (by omega), IntWalk.i64_in _ (by omega)]
  omega

theorem next_ok {n : Nat} {s : T_spec_l1Cur} (h : Cur n s) (hn : n < lim) : Ok (spec_l1Cur_next s) fun q => Cur (n + 1) q.2 ∧ 0 ≤ q.1 ∧ q.1 ≤ 255 := by
  obtain ⟨h0, h1, h2⟩ := h
  unfold lim at hn
  have hw : IntKind.i64.wrap (s.at_ + 1) = s.at_ + 1 := IntWalk.i64_in _ (by omega)
  have j : ∀ v, 0 ≤ v → v ≤ 255 → Ok (spec_l1Cur_next_j1 s v) fun q => Cur (n + 1) q.2 ∧ 0 ≤ q.1 ∧ q.1 ≤ 255 := fun v v0 v1 => by
    unfold spec_l1Cur_next_j1
    rw [hw]
    cases decide (s.at_ + 1 ≤ (s.code_.length : Int)) with
    | true => exact ⟨_, rfl, ⟨by show 0 ≤ s.at_ + 1; omega, by show s.at_ + 1 ≤ _; omega, h2⟩, v0, v1⟩
    | false =>
      refine ⟨_, rfl, ⟨by show 0 ≤ s.at_ + 1; omega, by show s.at_ + 1 ≤ _; omega, h2⟩, ?_⟩
      exact u64_and _
  unfold spec_l1Cur_next
  cases hd : decide (s.at_ < (s.code_.length : Int)) with
  | false => exact j 0 (by omega) (by omega)
  | true =>
    have hlt := of_decide_eq_true hd
    have hx : s.code_[s.at_.toNat]? = some s.code_[s.at_.toNat] := by simp
    have hi : idx s.code_ s.at_ = some s.code_[s.at_.toNat] := by unfold idx; rw [if_pos h0, hx]
    have hb := h2 _ (List.getElem_mem (l := s.code_) (n := s.at_.toNat) (by omega))
    simp only [cond_true, hi, Option.bind_some]
    rw [IntWalk.i64_in _ (by omega)]
    exact j _ hb.1 hb.2

theorem pick_ok {n : Nat} {s : T_spec_l1Cur} (a : Int) (h : Cur n s) (hn : n + 1 < lim) : Ok (spec_l1Cur_pick a s) fun q => Cur (n + 2) q.2 ∧ 0 ≤ q.1 ∧ (1 ≤ a → q.1 < a) := by
  unfold spec_l1Cur_pick
  refine Ok.cond (fun ha => Ok.some ⟨h.mono (by omega), Int.le_refl _, fun h1 => h1⟩) fun ha => ?_
  have ha1 : ¬ a ≤ 1 := of_decide_eq_false ha
  have hnz : nz a = some a := by unfold nz; rw [if_neg (by omega)]
  have j : ∀ (v : Int) (o : T_spec_l1Cur), 0 ≤ v → Cur (n + 2) o → Ok (spec_l1Cur_pick_j1 a o v) fun q => Cur (n + 2) q.2 ∧ 0 ≤ q.1 ∧ (1 ≤ a → q.1 < a) := fun v o hv ho => by
    unfold spec_l1Cur_pick_j1
    rw [hnz]
    exact ⟨_, rfl, ho, Int.tmod_nonneg _ hv, fun _ => Int.tmod_lt_of_pos _ (by omega)⟩
  refine Ok.bind (next_ok h (by omega)) ?_
  rintro ⟨r, o⟩ ⟨h2, h3, h4⟩
  refine Ok.cond (fun _ => ?_) (fun _ => j r o h3 (h2.mono (by omega)))
  refine Ok.bind (next_ok h2 (by omega)) ?_
  rintro ⟨r2, o2⟩ ⟨g2, g3, g4⟩
  have h3' : 0 ≤ r := h3
  have h4' : r ≤ 255 := h4
  have g3' : 0 ≤ r2 := g3
  have g4' : r2 ≤ 255 := g4
  show Ok (spec_l1Cur_pick_j1 a o2 (IntKind.i64.wrap (IntKind.i64.wrap (r * 256) + r2))) _
  rw [IntWalk.i64_in (r * 256) (by omega), IntWalk.i64_in _ (by omega)]
  exact j _ o2 (by omega) g2

theorem one_ok {n : Nat} {s : T_spec_l1Cur} (a : Int) (h : Cur n s) (hn : n + 1 < lim) : Ok (spec_l1Cur_one a s) fun q => Cur (n + 2) q.2 := by
  unfold spec_l1Cur_one
  refine Ok.bind (pick_ok a h hn) ?_
  rintro ⟨r, o⟩ ⟨h2, h3, h4⟩
  exact Ok.some h2

theorem next_lo {s : T_spec_l1Cur} : True := trivial
theorem secret_ok {n : Nat} {s : T_spec_l1Cur} (h : Cur n s) (hn : n + 8 < lim) : Ok (spec_l1Cur_secret s) fun q => Cur (n + 8) q.2 ∧ -10 ≤ q.1 ∧ q.1 ≤ 2000000000 := by
  unfold spec_l1Cur_secret
  refine Ok.bind (one_ok _ h (by omega)) ?_
  rintro ⟨r, o⟩ h1
  dsimp only at h1 ⊢
  refine Ok.cond (fun _ => ?_) (fun _ => ?_)
  · refine Ok.bind (pick_ok 6 h1 (by omega)) ?_
    rintro ⟨r4, o5⟩ ⟨h2, h3, h4⟩
    dsimp only at h2 h3 h4 ⊢
    replace h4 := h4 (by omega)
    have hi : ∀ k : Nat, k < 6 → ∃ e, idx ([0, (-1), 1, 1073741788, 1073741789, 1073741794] : List Int) (k : Int) = some e ∧ -10 ≤ e ∧ e ≤ 2000000000 := by
      intro k hk
      match k, hk with
      | 0, _ => exact ⟨_, rfl, by decide, by decide⟩
      | 1, _ => exact ⟨_, rfl, by decide, by decide⟩
      | 2, _ => exact ⟨_, rfl, by decide, by decide⟩
      | 3, _ => exact ⟨_, rfl, by decide, by decide⟩
      | 4, _ => exact ⟨_, rfl, by decide, by decide⟩
      | 5, _ => exact ⟨_, rfl, by decide, by decide⟩
    obtain ⟨e, he, he1, he2⟩ := hi r4.toNat (by omega)
    rw [Int.toNat_of_nonneg h3] at he
    rw [he]
    exact Ok.some ⟨h2.mono (by omega), he1, he2⟩
  · refine Ok.bind (pick_ok 60000 h1 (by omega)) ?_
    rintro ⟨r9, o10⟩ ⟨h2, h3, h4⟩
    dsimp only at h2 h3 h4 ⊢
    replace h4 := h4 (by omega)
    refine Ok.bind (pick_ok 60000 h2 (by omega)) ?_
    rintro ⟨r12, o13⟩ ⟨g2, g3, g4⟩
    dsimp only at g2 g3 g4 ⊢
    replace g4 := g4 (by omega)
    rw [IntWalk.i64_in (r9 * 60000) (by omega), IntWalk.i64_in (r9 * 60000 + r12) (by omega), IntWalk.rem_in _ _ (by omega), IntWalk.i64_in _ (by omega)]
    exact Ok.some ⟨g2.mono (by omega), by dsimp only; omega, by dsimp only; omega⟩
theorem drawTokenOf_ok {code : List Int} (hc : Bytes code) : Ok (spec_DrawTokenOf code) fun q => -10 ≤ q.1 ∧ q.1 ≤ 2000000000 ∧ -1 ≤ q.2 ∧ q.2 ≤ 1000001 := by
  unfold spec_DrawTokenOf
  refine Ok.bind (secret_ok (n := 0) ⟨by show (0 : Int) ≤ 0; omega, by show (0 : Int) ≤ _; omega, hc⟩ (by unfold lim; omega)) ?_
  rintro ⟨r, o⟩ ⟨h1, h2, h3⟩
  dsimp only at h1 h2 h3 ⊢
  refine Ok.bind (pick_ok 60000 h1 (by unfold lim; omega)) ?_
  rintro ⟨r4, o5⟩ ⟨g1, g2, g3⟩
  dsimp only at g1 g2 g3 ⊢
  replace g3 := g3 (by omega)
  have rare : Ok (spec_l1Cur_rare 5 o5) fun q => 0 ≤ q.1 ∧ q.1 < 5 := by
    unfold spec_l1Cur_rare
    refine Ok.bind (one_ok _ g1 (by unfold lim; omega)) ?_
    rintro ⟨b, o6⟩ k1
    dsimp only at k1 ⊢
    refine Ok.cond (fun _ => Ok.some ⟨show (0 : Int) ≤ 0 by decide, show (0 : Int) < 5 by decide⟩) (fun _ => ?_)
    rw [show IntKind.i64.wrap (5 - 1) = 4 from rfl]
    refine Ok.bind (pick_ok 4 k1 (by unfold lim; omega)) ?_
    rintro ⟨r7, o7⟩ ⟨k2, k3, k4⟩
    dsimp only at k2 k3 k4 ⊢
    replace k4 := k4 (by omega)
    rw [IntWalk.i64_in _ (by omega)]
    exact Ok.some ⟨by dsimp only; omega, by dsimp only; omega⟩
  refine Ok.bind rare ?_
  rintro ⟨r7, o8⟩ ⟨k1, k2⟩
  dsimp only at k1 k2 ⊢
  have hi : ∀ k : Nat, k < 5 → ∃ e, idx ([r4, 0, (-1), 1000000, 1000001] : List Int) (k : Int) = some e ∧ -1 ≤ e ∧ e ≤ 1000001 := by
    intro k hk
    match k, hk with
    | 0, _ => exact ⟨_, rfl, by omega, by omega⟩
    | 1, _ => exact ⟨_, rfl, by decide, by decide⟩
    | 2, _ => exact ⟨_, rfl, by decide, by decide⟩
    | 3, _ => exact ⟨_, rfl, by decide, by decide⟩
    | 4, _ => exact ⟨_, rfl, by decide, by decide⟩
  obtain ⟨e, he, he1, he2⟩ := hi r7.toNat (by omega)
  rw [Int.toNat_of_nonneg k1] at he
  rw [he]
  exact Ok.some ⟨h2, h3, he1, he2⟩
theorem subS_ok {s : ByteArray} {a b : Int} (h0 : 0 ≤ a) (h1 : a ≤ b) (h2 : b ≤ (s.size : Int)) : Ok (subS s a b) fun r => (r.size : Int) = b - a := by
  unfold subS
  rw [if_pos ⟨h0, h1, h2⟩]
  refine Ok.some ?_
  rw [ByteArray.size_extract]
  omega
theorem cat_ok {r s : ByteArray} (h : r.size + s.size ≤ 9223372036854775807) : Ok (cat r s) fun t => t.size = r.size + s.size := by
  rw [cat_get h]
  exact Ok.some (by rw [ByteArray.size_append])
/-- A text that is spoilt: a few bytes more. -/
theorem spoilt_ok {n : Nat} {s : T_spec_l1Cur} {t a : ByteArray} (h : Cur n s) (hn : n + 40 < lim) (ht : t.size ≤ 1000) (ha : 1 ≤ a.size ∧ a.size ≤ 100) : Ok (spec_l1Cur_spoilt t a s) fun q => Cur (n + 40) q.2 ∧ q.1.size ≤ 1010 := by
  unfold spec_l1Cur_spoilt
  refine Ok.bind (pick_ok 3 h (by omega)) ?_
  rintro ⟨r, o⟩ ⟨h1, h2, h3⟩
  dsimp only at h1 h2 h3 ⊢
  replace h3 := h3 (by omega)
  refine Ok.bind (Ok.loop (P := fun q => Cur (n + 40) q.1 ∧ q.2.size ≤ 1010) (fun k q => k ≤ 3 ∧ q.2.2 = (k : Int) ∧ Cur (n + (40 - 6 * k)) q.1 ∧ q.2.1.size + k ≤ 1010) ?_ (n := r.toNat) ⟨by omega, by show r = _; omega, h1.mono (by omega), by show t.size + _ ≤ _; omega⟩) ?_
  · rintro k ⟨b, v, i⟩ ⟨hk, hi, hc, hv⟩
    dsimp only at hi hc hv
    subst hi
    unfold spec_l1Cur_spoilt_l1
    dsimp only
    refine Ok.cond (fun hd => ?_) (fun _ => Ok.some ⟨hc.mono (by omega), by dsimp only; omega⟩)
    simp only [Bool.and_eq_true, decide_eq_true_eq] at hd
    refine Ok.bind (pick_ok _ hc (by omega)) ?_
    rintro ⟨r12, o13⟩ ⟨g1, g2, g3⟩
    dsimp only at g1 g2 g3 ⊢
    replace g3 := g3 (by omega)
    refine Ok.bind (pick_ok _ g1 (by omega)) ?_
    rintro ⟨r15, o16⟩ ⟨k1, k2, k3⟩
    dsimp only at k1 k2 k3 ⊢
    replace k3 := k3 (by omega)
    have hx : Ok (idxS a r15) fun _ => True := by
      have hl : r15.toNat < a.data.toList.length := by have : a.data.toList.length = a.size := rfl; omega
      unfold idxS
      rw [if_pos k2, List.getElem?_eq_getElem hl]
      exact Ok.some trivial
    refine Ok.bind hx ?_
    intro b18 _
    refine Ok.bind (pick_ok 3 k1 (by omega)) ?_
    rintro ⟨r20, o21⟩ ⟨m1, m2, m3⟩
    dsimp only at m1 m2 m3 ⊢
    have j1 : ∀ x : ByteArray, x.size + (k - 1) ≤ 1010 → Ok (spec_l1Cur_spoilt_j1 (k : Int) o21 x) (fun q => match q with | .inl s' => ∃ m, m < k ∧ m ≤ 3 ∧ s'.2.2 = (m : Int) ∧ Cur (n + (40 - 6 * m)) s'.1 ∧ s'.2.1.size + m ≤ 1010 | .inr q => Cur (n + 40) q.1 ∧ q.2.size ≤ 1010) := fun x hx => by
      unfold spec_l1Cur_spoilt_j1
      refine Ok.some ⟨k - 1, by omega, by omega, ?_, m1.mono (by omega), hx⟩
      show IntKind.i64.wrap _ = _
      rw [IntWalk.i64_in _ (by omega)]; omega
    have h1s : (byS ([b18] : List Int)).size = 1 := rfl
    have hw : IntKind.i64.wrap (r12 + 1) = r12 + 1 := IntWalk.i64_in _ (by omega)
    rw [hw]
    refine Ok.cond (fun _ => ?_) (fun _ => Ok.cond (fun _ => ?_) (fun _ => ?_))
    · refine Ok.bind (subS_ok (by omega) g2 (by omega)) ?_
      intro s1 e1
      refine Ok.bind (cat_ok (by omega)) ?_
      intro s2 e2
      refine Ok.bind (subS_ok g2 (by omega) (by omega)) ?_
      intro s3 e3
      refine Ok.bind (cat_ok (by omega)) ?_
      intro s4 e4
      exact Ok.mono (j1 _ (by omega)) (fun r h => by cases r <;> exact h)
    · refine Ok.bind (subS_ok (by omega) g2 (by omega)) ?_
      intro s1 e1
      refine Ok.bind (cat_ok (by omega)) ?_
      intro s2 e2
      refine Ok.bind (subS_ok (by omega) (by omega) (by omega)) ?_
      intro s3 e3
      refine Ok.bind (cat_ok (by omega)) ?_
      intro s4 e4
      exact Ok.mono (j1 _ (by omega)) (fun r h => by cases r <;> exact h)
    · refine Ok.bind (subS_ok (by omega) g2 (by omega)) ?_
      intro s1 e1
      refine Ok.bind (subS_ok (by omega) (by omega) (by omega)) ?_
      intro s3 e3
      refine Ok.bind (cat_ok (by omega)) ?_
      intro s4 e4
      exact Ok.mono (j1 _ (by omega)) (fun r h => by cases r <;> exact h)
  · rintro ⟨b, v⟩ hq
    exact Ok.some hq
end Go.G36.RV1
