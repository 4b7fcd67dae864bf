/- Texts that are read. -/
import Derived.Test.YtnndbiialpaccaaDoorR36f
namespace Go.G36.RV1
set_option linter.all false
open Go Go.G36 Go.G36.RV

theorem subS_bA {l : List UInt8} {a b : Nat} (h : a ≤ b) (hb : b ≤ l.length) : subS (bA l) ((a : Nat) : Int) ((b : Nat) : Int) = some (bA ((l.drop a).take (b - a))) := by
  unfold subS
  rw [if_pos ⟨by omega, by omega, by rw [bA_size]; omega⟩]
  congr 1
  apply ByteArray.ext
  rw [Int.toNat_natCast, Int.toNat_natCast]
  apply Array.toList_inj.1
  show ((bA l).extract a b).data.toList = ((l.drop a).take (b - a)).toArray.toList
  rw [Lib.extract_data, bA_list]

theorem until_ok (l : List UInt8) (hl : l.length ≤ 1000000000) : Ok (spec_l7Until (bA l) (ByteArray.mk #[46])) fun r => (∃ X Y, l = X ++ 46 :: Y ∧ 46 ∉ X ∧ r = (bA X, bA (46 :: Y))) ∨ (46 ∉ l ∧ r = (bA l, bA [])) := by
  have inner : ∀ i : Nat, (hi : i < l.length) → loopO (spec_l7Until_l2 (bA l) (ByteArray.mk #[46]) (i : Int)) 0 = some (if l[i] = 46 then .inr (bA (l.take i), bA (l.drop i)) else .inl ()) := fun i hi => by
    have h1 : idxS (bA l) ((i : Nat) : Int) = some ((l[i].toNat : Nat) : Int) := idxS_bA hi
    have h2 : idxS (ByteArray.mk #[46]) 0 = some 46 := rfl
    by_cases he : l[i] = 46
    · rw [if_pos he]
      refine loopO_end ?_
      unfold spec_l7Until_l2
      dsimp only
      rw [show decide ((0 : Int) < ((ByteArray.mk #[46]).size : Int)) = true from rfl]
      simp only [cond_true, h1, h2, Option.bind_some, he]
      rw [show ((((46 : UInt8).toNat : Nat) : Int) == 46) = true from rfl]
      have h3 := subS_bA (l := l) (a := 0) (b := i) (by omega) (by omega)
      have h4 := subS_bA (l := l) (a := i) (b := l.length) (by omega) (by omega)
      rw [bA_size]
      simp only [cond_true]
      rw [show ((0 : Nat) : Int) = 0 from rfl] at h3
      rw [h3, h4, Option.bind_some, Option.bind_some]
      simp [List.take_of_length_le]
    · rw [if_neg he]
      have st : spec_l7Until_l2 (bA l) (ByteArray.mk #[46]) (i : Int) 0 = some (.inl 1) := by
        unfold spec_l7Until_l2
        dsimp only
        rw [show decide ((0 : Int) < ((ByteArray.mk #[46]).size : Int)) = true from rfl]
        simp only [cond_true, h1, h2, Option.bind_some]
        have : ((((l[i].toNat : Nat)) : Int) == 46) = false := by
          rw [beq_eq_false_iff_ne]
          intro h
          apply he
          apply UInt8.toNat_inj.1
          show l[i].toNat = 46
          omega
        rw [this]
        rfl
      rw [loopO_go st]
      exact loopO_end rfl
  unfold spec_l7Until
  refine Ok.bind (Ok.loop (P := fun q => match q with | .inl _ => 46 ∉ l | .inr r => ∃ X Y, l = X ++ 46 :: Y ∧ 46 ∉ X ∧ r = (bA X, bA (46 :: Y))) (fun n s => n ≤ l.length ∧ s = ((l.length - n : Nat) : Int) ∧ 46 ∉ l.take (l.length - n)) ?_ (n := l.length) ⟨by omega, by simp, by simp⟩) ?_
  · rintro n s ⟨hn, rfl, hno⟩
    unfold spec_l7Until_l1
    dsimp only
    rw [bA_size]
    refine Ok.cond (fun h => ?_) (fun h => ?_)
    · have hlt := of_decide_eq_true h
      have hi : l.length - n < l.length := by omega
      rw [inner _ hi, Option.bind_some]
      by_cases he : l[l.length - n] = 46
      · rw [if_pos he]
        refine Ok.some ⟨l.take (l.length - n), l.drop (l.length - n + 1), ?_, hno, ?_⟩
        · rw [← he, List.getElem_cons_drop, List.take_append_drop]
        · rw [← he, List.getElem_cons_drop]
      · rw [if_neg he]
        refine Ok.some ⟨n - 1, by omega, by omega, ?_, ?_⟩
        · rw [IntWalk.i64_in _ (by omega)]; omega
        · rw [show l.length - (n - 1) = l.length - n + 1 by omega, List.take_succ_eq_append_getElem hi]
          intro hm
          rcases List.mem_append.1 hm with hm | hm
          · exact hno hm
          · simp only [List.mem_cons, List.not_mem_nil, or_false] at hm
            exact he hm.symm
    · have hge := of_decide_eq_false h
      refine Ok.some ?_
      show 46 ∉ l
      rwa [show l.length - n = l.length by omega, List.take_length] at hno
  · rintro q hq
    cases q with
    | inl u => exact Ok.some (.inr ⟨hq, rfl⟩)
    | inr r => exact Ok.some (.inl hq)

/-- At the first point. -/
theorem cut_at {X Y X' Y' : List UInt8} (h : X ++ 46 :: Y = X' ++ 46 :: Y') (hx : 46 ∉ X) (hx' : 46 ∉ X') : X = X' ∧ Y = Y' := by
  induction X generalizing X' with
  | nil =>
    cases X' with
    | nil => simp at h; exact ⟨rfl, h⟩
    | cons a X' =>
      simp only [List.nil_append, List.cons_append, List.cons.injEq] at h
      rw [← h.1] at hx'
      simp at hx'
  | cons a X ih =>
    cases X' with
    | nil =>
      simp only [List.nil_append, List.cons_append, List.cons.injEq] at h
      rw [h.1] at hx
      simp at hx
    | cons a' X' =>
      simp only [List.cons_append, List.cons.injEq] at h
      simp only [List.mem_cons, not_or] at hx hx'
      obtain ⟨h1, h2⟩ := ih h.2 hx.2 hx'.2
      exact ⟨by rw [h.1, h1], h2⟩
theorem indexByte_at : ∀ {X : List UInt8} {Y : List UInt8}, 46 ∉ X → Lib.indexByte (X ++ 46 :: Y) 46 = (X.length : Int)
  | [], Y, _ => by simp [Lib.indexByte]
  | a :: X, Y, h => by
    simp only [List.mem_cons, not_or] at h
    have ih := indexByte_at (Y := Y) h.2
    have ha : a ≠ 46 := fun e => h.1 e.symm
    simp only [List.cons_append, Lib.indexByte, ih]
    simp [ha]
theorem cut_dot {X Y : List UInt8} (h : 46 ∉ X) : Lib.cut (X ++ 46 :: Y) [46] = (X, Y, true) := by
  unfold Lib.cut
  rw [Lib.index_one, indexByte_at h, if_pos (by omega)]
  simp

theorem l1Whole_dec {n : Nat} (hn : n ≤ 1000000) : spec_l1Whole (bA (Lib.decDigits n)) = some ((n : Int), true) := by
  have hlen := decDigits_le n 7 (by omega) (by omega)
  have hpos := decDigits_pos n
  have hdig := decDigits_dig n
  generalize hL : Lib.decDigits n = l at hlen hpos hdig
  have hdv : dv l = n := by rw [← hL]; exact dv_dec n
  have hlp : loopO (spec_l1Whole_l1 (bA l)) (0, 0) = some (.inl (-(n : Int))) := by
    have : Ok (loopO (spec_l1Whole_l1 (bA l)) (0, 0)) fun r => r = .inl (-(n : Int)) := by
      refine Ok.loop (fun k s => ∃ i, i + k = l.length ∧ s = (-((dv (l.take i) : Nat) : Int), ((i : Nat) : Int))) ?_ (n := l.length) ⟨0, by omega, rfl⟩
      rintro k s ⟨i, hi, rfl⟩
      unfold spec_l1Whole_l1
      dsimp only
      rw [bA_size]
      refine Ok.cond (fun h => ?_) (fun h => ?_)
      · have hlt : ((i : Nat) : Int) < (l.length : Int) := of_decide_eq_true h
        have hil : i < l.length := by omega
        have hg : idxS (bA l) ((i : Nat) : Int) = some ((l[i].toNat : Nat) : Int) := idxS_bA hil
        have h0 : idxS (bA l) 0 = some ((l[0].toNat : Nat) : Int) := idxS_bA (l := l) (i := 0) (by omega)
        have hc := hdig l[i] (List.getElem_mem hil)
        have hc0 := hdig l[0] (List.getElem_mem (by omega))
        have hgd : ∃ b, gdO (((i : Nat) : Int) == 0) (idxS (bA l) 0) = some b ∧ ((((i : Nat) : Int) == 0) && (b == 45)) = false := by
          rw [h0, gdO]
          cases hz : (((i : Nat) : Int) == 0) with
          | true => exact ⟨_, rfl, by simp; omega⟩
          | false => exact ⟨_, rfl, by simp⟩
        obtain ⟨b, hb1, hb2⟩ := hgd
        rw [hb1, Option.bind_some, hb2, hg]
        simp only [cond_false, Option.bind_some]
        unfold spec_l1Digit
        rw [Option.bind_some, show (!(decide (((l[i].toNat : Nat) : Int) ≥ 48) && decide (((l[i].toNat : Nat) : Int) ≤ 57))) = false by simp; omega]
        simp only [cond_false]
        unfold spec_l1Whole_j2
        have hd1 : dv (l.take (i + 1)) = dv (l.take i) * 10 + (l[i].toNat - 48) := by rw [List.take_succ_eq_append_getElem hil, dv_app]
        have hb : dv (l.take i) < 10 ^ 7 := by
          have := dv_lt (l.take i) 0 fun c hc => hdig c (List.mem_of_mem_take hc)
          exact Nat.lt_of_lt_of_le this (Nat.pow_le_pow_right (by decide) (by simp; omega))
        refine Ok.some ⟨k - 1, by omega, i + 1, by omega, ?_⟩
        rw [hd1, IntWalk.u8_in (((l[i].toNat : Nat) : Int) - 48) (by omega), IntWalk.i64_in (((l[i].toNat : Nat) : Int) - 48) (by omega), IntWalk.i64_in (-((dv (l.take i) : Nat) : Int) * 10) (by omega), IntWalk.i64_in _ (by omega), IntWalk.i64_in (((i : Nat) : Int) + 1) (by omega)]
        congr 1
        omega
      · have hge : ¬ ((i : Nat) : Int) < (l.length : Int) := of_decide_eq_false h
        refine Ok.some ?_
        show Sum.inl _ = _
        rw [show i = l.length by omega, List.take_length, hdv]
    obtain ⟨r, e, rfl⟩ := this
    exact e
  unfold spec_l1Whole
  rw [bA_size, show (decide ((l.length : Int) < 1) || decide ((l.length : Int) > 20)) = false by simp; omega]
  simp only [cond_false]
  rw [hlp, Option.bind_some]
  dsimp only
  have h0 : idxS (bA l) 0 = some ((l[0].toNat : Nat) : Int) := idxS_bA (l := l) (i := 0) (by omega)
  have hc0 := hdig l[0] (List.getElem_mem (by omega))
  rw [h0, Option.bind_some, show ((((l[0].toNat : Nat) : Int)) != 45) = true by simp; omega]
  simp only [cond_true]
  unfold spec_l1Whole_j1
  rw [show IntKind.i64.wrap (-(-(n : Int))) = (n : Int) by rw [IntWalk.i64_in _ (by omega)]; omega, l1Num_nat (by omega), Option.bind_some, hL]
  simp
theorem wr (x : Int) : -9223372036854775808 ≤ IntKind.i64.wrap x ∧ IntKind.i64.wrap x ≤ 9223372036854775807 := by
  rw [IntKind.wrap_i64]; omega
theorem l1Whole_ok (l : List UInt8) : Ok (spec_l1Whole (bA l)) fun _ => True := by
  unfold spec_l1Whole
  rw [bA_size]
  refine Ok.cond (fun _ => Ok.some trivial) (fun hc => ?_)
  simp only [Bool.or_eq_false_iff, decide_eq_false_iff_not] at hc
  have hl : 1 ≤ l.length ∧ l.length ≤ 20 := by omega
  have h0 : idxS (bA l) 0 = some ((l[0].toNat : Nat) : Int) := idxS_bA (l := l) (i := 0) (by omega)
  refine Ok.bind (Ok.loop (P := fun q => match q with | .inl v => -9223372036854775808 ≤ v ∧ v ≤ 9223372036854775807 | .inr _ => True) (fun k s => ∃ i : Nat, i + k = l.length ∧ s.2 = (i : Int) ∧ -9223372036854775808 ≤ s.1 ∧ s.1 ≤ 9223372036854775807) ?_ (n := l.length) ⟨0, by omega, rfl, by decide, by decide⟩) ?_
  · rintro k ⟨v, i'⟩ ⟨i, hi, hs, hv0, hv1⟩
    dsimp only at hs hv0 hv1
    subst hs
    unfold spec_l1Whole_l1
    dsimp only
    rw [bA_size]
    have j2 : ∀ x : Int, -9223372036854775808 ≤ x → x ≤ 9223372036854775807 → i < l.length → Ok (spec_l1Whole_j2 (i : Int) x) (fun q => match q with | .inl s' => ∃ m, m < k ∧ ∃ i : Nat, i + m = l.length ∧ s'.2 = (i : Int) ∧ -9223372036854775808 ≤ s'.1 ∧ s'.1 ≤ 9223372036854775807 | .inr r => match r with | .inl v => -9223372036854775808 ≤ v ∧ v ≤ 9223372036854775807 | .inr _ => True) := fun x hx0 hx1 hil => by
      unfold spec_l1Whole_j2
      refine Ok.some ⟨k - 1, by omega, i + 1, by omega, ?_, hx0, hx1⟩
      show IntKind.i64.wrap _ = _
      rw [IntWalk.i64_in _ (by omega)]; omega
    refine Ok.cond (fun h => ?_) (fun h => Ok.some ⟨hv0, hv1⟩)
    have hlt : ((i : Nat) : Int) < (l.length : Int) := of_decide_eq_true h
    have hil : i < l.length := by omega
    have hg : idxS (bA l) ((i : Nat) : Int) = some ((l[i].toNat : Nat) : Int) := idxS_bA hil
    have hgd : ∃ b, gdO (((i : Nat) : Int) == 0) (idxS (bA l) 0) = some b := by
      rw [h0, gdO]
      cases (((i : Nat) : Int) == 0) with
      | true => exact ⟨_, rfl⟩
      | false => exact ⟨_, rfl⟩
    obtain ⟨b, hb1⟩ := hgd
    rw [hb1, Option.bind_some, hg]
    refine Ok.cond (fun _ => Ok.mono (j2 _ hv0 hv1 hil) (fun r h => by cases r <;> exact h)) (fun _ => ?_)
    rw [Option.bind_some]
    unfold spec_l1Digit
    rw [Option.bind_some]
    refine Ok.cond (fun _ => Ok.some trivial) (fun _ => ?_)
    rw [Option.bind_some]
    exact Ok.mono (j2 _ (wr _).1 (wr _).2 hil) (fun r h => by cases r <;> exact h)
  · rintro q hq
    cases q with
    | inl v =>
      dsimp only
      rw [h0, Option.bind_some]
      have j1 : ∀ x : Int, -9223372036854775808 ≤ x → x ≤ 9223372036854775807 → Ok (spec_l1Whole_j1 (bA l) x) fun _ => True := fun x hx0 hx1 => by
        unfold spec_l1Whole_j1
        exact Ok.bind (l1Num_ok hx0 hx1) fun _ _ => Ok.some trivial
      exact Ok.cond (fun _ => j1 _ (wr _).1 (wr _).2) (fun _ => j1 _ hq.1 hq.2)
    | inr r => exact Ok.some trivial
end Go.G36.RV1
