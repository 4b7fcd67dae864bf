/- FnLinked, plain part: names, atoms: both say the same. -/
import Derived.Test.YtnndbiialpaccaaGreatDoorQ36f
import Derived.Test.YtnndbiialpaccaaGreatDoorZC
namespace Go.G36.ZL
set_option maxRecDepth 20000
set_option maxHeartbeats 2000000
set_option linter.unusedVariables false
set_option linter.unusedSimpArgs false
open Go Go.G36

/-- Both answer, and the same. -/
def Both {α : Type} (x y : Option α) : Prop := ∃ v, x = some v ∧ y = some v
theorem Both.of {α : Type} {x y : Option α} {P : α → Prop} (h : Ok x P) (e : y = x) : Both x y := by
  obtain ⟨v, hv, _⟩ := h
  exact ⟨v, hv, e.trans hv⟩
theorem idxS_get {s : ByteArray} {v : Nat} (h : v < s.size) : ∃ b : Int, idxS s (v : Int) = some b ∧ 0 ≤ b ∧ b ≤ 255 := by
  obtain ⟨b, h1, h2⟩ := idxS_ok (s := s) (i := (v : Int)) (by omega) (by omega)
  exact ⟨b, h1, h2⟩
/-- A loop over a text's bytes that goes on or ends at each answers. -/
theorem text_loop {R : Type} {s : ByteArray} {step : Int → Option (Int ⊕ R)} (hsz : s.size ≤ 1000)
    (h : ∀ (v : Nat), v < s.size → Ok (step (v : Int)) fun x => match x with | .inl s' => s' = (v : Int) + 1 | .inr _ => True) (he : Ok (step (s.size : Int)) fun x => match x with | .inl _ => False | .inr _ => True) : Ok (loopO step 0) fun _ => True := by
  refine Ok.loop (fun k q => k ≤ s.size ∧ q = (s.size : Int) - (k : Int)) ?_ (n := s.size) ⟨by omega, by simp⟩
  rintro k q ⟨hk, rfl⟩
  rcases Nat.eq_zero_or_pos k with rfl | hpos
  · rw [show (s.size : Int) - ((0 : Nat) : Int) = (s.size : Int) by omega]
    refine Ok.mono he fun r hr => ?_
    cases r with
    | inl s' => exact hr.elim
    | inr r => trivial
  · have := h (s.size - k) (by omega)
    rw [show ((s.size - k : Nat) : Int) = (s.size : Int) - (k : Int) by omega] at this
    refine Ok.mono this fun r hr => ?_
    cases r with
    | inl s' => exact ⟨k - 1, by omega, by omega, by rw [hr]; omega⟩
    | inr r => trivial
theorem decT {p : Prop} [Decidable p] (h : p) : decide p = true := decide_eq_true h
theorem decF {p : Prop} [Decidable p] (h : ¬ p) : decide p = false := decide_eq_false h
theorem ws {v n : Nat} (h : v < n) (hn : n ≤ 1000000) : IntKind.i64.wrap ((v : Int) + 1) = (v : Int) + 1 := IntWalk.i64_in _ (by omega)

theorem word_eq (b : Int) : impl_ywordByte b = some ((((decide (b ≥ 97) && decide (b ≤ 122)) || (decide (b ≥ 65) && decide (b ≤ 90))) || (decide (b ≥ 48) && decide (b ≤ 57))) || (b == 95)) := by
  simp only [impl_ywordByte, impl_yletter, impl_ydigit, Option.bind_some, gdO_some]
  cases (decide (b ≥ 97) && decide (b ≤ 122)) || (decide (b ≥ 65) && decide (b ≤ 90)) <;> simp
theorem printed_l1_eq (t : ByteArray) : spec_l1Printed_l1 t = impl_yprinted_l1 t := rfl
theorem printed_loop {t : ByteArray} (h : t.size ≤ 1000) : Ok (loopO (impl_yprinted_l1 t) 0) fun _ => True := by
  refine text_loop h (fun v hv => ?_) ?_
  · obtain ⟨b, hb, h0, h1⟩ := idxS_get hv
    unfold impl_yprinted_l1
    dsimp only
    rw [decT (by omega : (v : Int) < (t.size : Int)), cond_true, hb, Option.bind_some]
    rw [gdO_some, Option.bind_some, ws hv (by omega)]
    exact Ok.cond (fun _ => Ok.some trivial) (fun _ => Ok.some rfl)
  · unfold impl_yprinted_l1
    dsimp only
    rw [decF (by omega : ¬ (t.size : Int) < (t.size : Int)), cond_false]
    exact Ok.some trivial
theorem printed_both {t : ByteArray} (h : t.size ≤ 1000) : ∃ p, spec_l1Printed t = some p ∧ ∀ lo hi, impl_yprinted t lo hi = some (!(decide ((t.size : Int) < lo) || decide ((t.size : Int) > hi)) && p) := by
  obtain ⟨q, hq, _⟩ := printed_loop h
  cases q with
  | inl u =>
    refine ⟨true, by unfold spec_l1Printed; rw [printed_l1_eq, hq]; rfl, fun lo hi => ?_⟩
    unfold impl_yprinted
    rw [hq]
    cases decide ((t.size : Int) < lo) || decide ((t.size : Int) > hi) <;> rfl
  | inr u =>
    refine ⟨u, by unfold spec_l1Printed; rw [printed_l1_eq, hq]; rfl, fun lo hi => ?_⟩
    unfold impl_yprinted
    rw [hq]
    cases decide ((t.size : Int) < lo) || decide ((t.size : Int) > hi) <;> rfl
theorem name_l1_eq (t : ByteArray) : spec_GoodName_l1 t = impl_GoodName_l1 t := by
  funext v
  unfold spec_GoodName_l1 impl_GoodName_l1
  dsimp only
  cases hi : idxS t v with
  | none => rfl
  | some b =>
    simp only [Option.bind_some, gdO_some, spec_l1Letter, spec_l1Digit, word_eq]
    cases (decide (b ≥ 97) && decide (b ≤ 122)) || (decide (b ≥ 65) && decide (b ≤ 90)) <;> cases hb : (decide (b ≥ 48) && decide (b ≤ 57)) <;> cases hc : (b == 95) <;> simp [hb, hc, bne]
theorem empty_iff (t : ByteArray) : (t.toList == (ByteArray.mk #[]).toList) = decide ((t.size : Int) < 1) := by
  have h : (ByteArray.mk #[]).toList = [] := by rw [ByteArray.toList_eq]
  rw [h]
  have h2 : t.toList.length = t.size := by rw [ByteArray.toList_eq]; rfl
  cases ht : t.toList with
  | nil => rw [ht] at h2; simp at h2; simp [← h2]
  | cons a l => rw [ht] at h2; simp at h2; rw [decF (by omega)]; rfl
theorem name_loop {t : ByteArray} (h : t.size ≤ 1000) : Ok (loopO (impl_GoodName_l1 t) 0) fun _ => True := by
  refine text_loop h (fun v hv => ?_) ?_
  · obtain ⟨b, hb, h0, h1⟩ := idxS_get hv
    unfold impl_GoodName_l1
    dsimp only
    rw [decT (by omega : (v : Int) < (t.size : Int)), cond_true, hb, Option.bind_some, word_eq, Option.bind_some, ws hv (by omega)]
    exact Ok.cond (fun _ => Ok.some trivial) (fun _ => Ok.some rfl)
  · unfold impl_GoodName_l1
    dsimp only
    rw [decF (by omega : ¬ (t.size : Int) < (t.size : Int)), cond_false]
    exact Ok.some trivial
theorem name_both {t : ByteArray} (h : t.size ≤ 1000) : Both (impl_GoodName t) (spec_GoodName t) := by
  obtain ⟨q, hq, _⟩ := name_loop h
  unfold Both
  unfold impl_GoodName spec_GoodName
  rw [empty_iff, name_l1_eq, hq]
  cases hc : decide ((t.size : Int) < 1) || decide ((t.size : Int) > 30) with
  | true => exact ⟨false, rfl, rfl⟩
  | false =>
    simp only [Bool.or_eq_false_iff, decide_eq_false_iff_not] at hc
    obtain ⟨b, hb, _⟩ := idxS_get (s := t) (v := 0) (by omega)
    have hb : idxS t 0 = some b := hb
    simp only [hb, Bool.not_false, gdO, cond_true, Option.bind_some, impl_ydigit, spec_l1Digit, Bool.false_or]
    cases (decide (b ≥ 48) && decide (b ≤ 57)) with
    | true => exact ⟨false, rfl, rfl⟩
    | false =>
      cases q with
      | inl u => exact ⟨true, rfl, rfl⟩
      | inr u => exact ⟨u, rfl, rfl⟩
theorem id_l1_eq (t : ByteArray) : spec_l7Id_l1 t = impl_ygoodId_l1 t := by
  funext v
  unfold spec_l7Id_l1 impl_ygoodId_l1
  dsimp only
  cases hi : idxS t v with
  | none => rfl
  | some b =>
    simp only [Option.bind_some, gdO_some, spec_l1Letter, spec_l1Digit, word_eq]
    cases (decide (b ≥ 97) && decide (b ≤ 122)) || (decide (b ≥ 65) && decide (b ≤ 90)) <;> cases hb : (decide (b ≥ 48) && decide (b ≤ 57)) <;> cases hc : (b == 95) <;> cases hd : (b == 45) <;> cases he : (b == 46) <;> simp [hb, hc, hd, he, bne]
theorem id_loop {t : ByteArray} (h : t.size ≤ 1000) : Ok (loopO (impl_ygoodId_l1 t) 0) fun _ => True := by
  refine text_loop h (fun v hv => ?_) ?_
  · obtain ⟨b, hb, h0, h1⟩ := idxS_get hv
    unfold impl_ygoodId_l1
    dsimp only
    rw [decT (by omega : (v : Int) < (t.size : Int)), cond_true, hb, Option.bind_some, word_eq, Option.bind_some, gdO_some, Option.bind_some, gdO_some, Option.bind_some, ws hv (by omega)]
    exact Ok.cond (fun _ => Ok.some trivial) (fun _ => Ok.some rfl)
  · unfold impl_ygoodId_l1
    dsimp only
    rw [decF (by omega : ¬ (t.size : Int) < (t.size : Int)), cond_false]
    exact Ok.some trivial
theorem cond_inr {c : Bool} {x : Int} {q : Bool} (h : cond c (some (.inr (.inr false))) (some (.inl x)) = (some (.inr (.inr q)) : Option (Int ⊕ (Unit ⊕ Bool)))) : q = false := by
  cases c <;> simp_all
/-- What the loop over an Id's bytes says: it is false alone where it ends early. -/
theorem id_loop_false {t : ByteArray} {q : Bool} (h : loopO (impl_ygoodId_l1 t) 0 = some (.inr q)) : q = false := by
  obtain ⟨n, hn⟩ := loopO_ex h
  have : ∀ n v, iterL (impl_ygoodId_l1 t) n v = some (.inr q) → q = false := by
    intro n
    induction n with
    | zero => intro v h; simp [iterL] at h
    | succ n ih =>
      intro v h
      simp only [iterL] at h
      cases hs : impl_ygoodId_l1 t v with
      | none => rw [hs] at h; cases h
      | some x =>
        rw [hs] at h
        cases x with
        | inl s' => exact ih s' h
        | inr r =>
          simp only [Option.some.injEq] at h
          subst h
          unfold impl_ygoodId_l1 at hs
          dsimp only at hs
          cases hd : decide (v < (t.size : Int)) with
          | false => rw [hd] at hs; simp at hs
          | true =>
            rw [hd, cond_true] at hs
            cases hi : idxS t v with
            | none => rw [hi] at hs; simp at hs
            | some b =>
              rw [hi, Option.bind_some, word_eq, Option.bind_some, gdO_some, Option.bind_some, gdO_some, Option.bind_some] at hs
              exact cond_inr hs
  exact this n _ hn
theorem id_both {t : ByteArray} (h : t.size ≤ 1000) : Both (impl_ygoodId t) (spec_l7Id t) := by
  obtain ⟨q, hq, _⟩ := id_loop h
  unfold Both impl_ygoodId spec_l7Id
  rw [id_l1_eq, hq]
  cases q with
  | inl u =>
    cases h1 : decide ((t.size : Int) < 1) <;> cases h2 : decide ((t.size : Int) > 40)
    · refine ⟨true, rfl, ?_⟩
      simp at h1 h2
      simp [decT (by omega : (t.size : Int) ≥ 1), decT (by omega : (t.size : Int) ≤ 40)]
    · refine ⟨false, rfl, ?_⟩
      simp at h1 h2
      simp
      omega
    · refine ⟨false, rfl, ?_⟩
      simp at h1 h2
      simp
      omega
    · refine ⟨false, rfl, ?_⟩
      simp at h1 h2
      simp
      omega
  | inr u =>
    have hu := id_loop_false hq
    subst hu
    refine ⟨false, ?_, rfl⟩
    cases decide ((t.size : Int) < 1) || decide ((t.size : Int) > 40) <;> rfl

/-! ### Atoms -/
theorem addr_both {a : T_impl_Atom} (h : AtomOk a) (hk : a.Kind_ = 6) : Both (impl_GoodAtom a) (spec_GoodAtom a) := by
  have hlo := h.lo
  have hhi := h.hi
  have hp : spec_l1Pow2 32 = some 4294967296 := by rw [pow2_ok (by decide) (by decide)]; rfl
  unfold Both impl_GoodAtom impl_GoodAtom_j1 spec_GoodAtom spec_GoodAtom_j1
  simp only [hk, hp]
  simp only [show ((6 : Int) == 1) = false from rfl, show ((6 : Int) == 2) = false from rfl, show ((6 : Int) == 3) = false from rfl, show ((6 : Int) == 4) = false from rfl, show ((6 : Int) == 5) = false from rfl, show ((6 : Int) == 6) = true from rfl,
    show ((6 : Int) != 3) = true from rfl, show ((6 : Int) != 4) = true from rfl, cond_true, cond_false, Bool.true_and, Bool.and_true, Bool.true_and]
  cases hte : (a.Text_.toList == (ByteArray.mk #[]).toList) with
  | false => exact ⟨false, rfl, rfl⟩
  | true =>
    cases hty : (a.Type_.toList == (ByteArray.mk #[]).toList) with
    | false => exact ⟨false, rfl, rfl⟩
    | true =>
      simp only [Bool.and_self, Bool.not_true, Bool.or_self, Bool.false_or, cond_false, gdO_some, Option.bind_some]
      cases hn : decide (a.Num_ < 0) with
      | true => exact ⟨false, rfl, rfl⟩
      | false =>
        have hn0 := of_decide_eq_false hn
        have e1 : IntKind.i64.wrap (Int.tdiv a.Num_ 64) = a.Num_ / 64 := by
          rw [Int.tdiv_eq_ediv_of_nonneg (by omega)]
          exact IntWalk.i64_in _ (by omega)
        have e2 : Int.tmod a.Num_ 64 = a.Num_ % 64 := Int.tmod_eq_emod_of_nonneg (by omega)
        have e3 : IntKind.i64.wrap (32 - a.Num_ % 64) = 32 - a.Num_ % 64 := IntWalk.i64_in _ (by omega)
        have e4 : IntKind.i64.wrap ((4294967296 : Int) - 1) = 4294967295 := by decide
        have e5 : cond (!false) (4294967296 : Int) default = 4294967296 := rfl
        simp only [e1, e2, e3, cond_false, Bool.false_or, e5, e4]
        cases hc : (decide (a.Num_ % 64 ≤ 32) && decide (a.Num_ / 64 < 4294967296)) with
        | false =>
          refine ⟨false, rfl, ?_⟩
          have : (decide (a.Num_ / 64 > 4294967295) || decide (a.Num_ % 64 > 32)) = true := by
            simp only [Bool.and_eq_false_iff, decide_eq_false_iff_not] at hc
            simp only [Bool.or_eq_true, decide_eq_true_eq]
            omega
          rw [this]
          rfl
        | true =>
          simp only [Bool.and_eq_true, decide_eq_true_eq] at hc
          have : (decide (a.Num_ / 64 > 4294967295) || decide (a.Num_ % 64 > 32)) = false := by
            simp only [Bool.or_eq_false_iff, decide_eq_false_iff_not]
            omega
          rw [this]
          unfold spec_l1Block
          simp only [e1, e2, e3, cond_false]
          rw [pow2_ok (by omega) (by omega)]
          have hpos : (0 : Int) < 2 ^ (32 - a.Num_ % 64).toNat := Int.pow_pos (by decide)
          have hle : (2 : Int) ^ (32 - a.Num_ % 64).toNat ≤ 2 ^ 32 := by exact_mod_cast Nat.pow_le_pow_right (by decide) (by omega)
          have e6 : IntKind.i64.wrap (1 * 2 ^ (min (Int.toNat (32 - a.Num_ % 64)) IntKind.i64.bits)) = 2 ^ (32 - a.Num_ % 64).toNat := by
            have hb : IntKind.i64.bits = 64 := rfl
            rw [hb, Nat.min_eq_left (by omega), Int.one_mul]
            exact IntWalk.i64_in _ (by omega)
          have hnz : nz ((2 : Int) ^ (32 - a.Num_ % 64).toNat) = some (2 ^ (32 - a.Num_ % 64).toNat) := by unfold nz; rw [if_neg (by omega)]
          have hnn : nn (32 - a.Num_ % 64) = some () := by unfold nn; rw [if_pos (by omega)]
          simp only [e6, hnz, hnn, gdO, cond_true, Option.bind_some, Bool.true_and]
          exact ⟨_, rfl, rfl⟩
theorem atom_both {a : T_impl_Atom} (h : AtomOk a) : Both (impl_GoodAtom a) (spec_GoodAtom a) := by
  by_cases hk6 : a.Kind_ = 6
  · exact addr_both h hk6
  obtain ⟨p, hp1, hp2⟩ := printed_both h.text
  obtain ⟨nv, hn1, hn2⟩ := name_both h.type
  unfold Both impl_GoodAtom impl_GoodAtom_j1 spec_GoodAtom spec_GoodAtom_j1
  rw [show (a.Kind_ == 6) = false from by simpa using hk6]
  simp only [hp1, hp2, hn1, hn2, gdO_some, Option.bind_some, cond_none_some, cond_false, Option.some.injEq, exists_eq_left']
  have g1 : decide ((a.Text_.size : Int) ≥ 1) = !decide ((a.Text_.size : Int) < 1) := by
    by_cases h : (a.Text_.size : Int) < 1
    · rw [decT h, decF (by omega)]; rfl
    · rw [decF h, decT (by omega)]; rfl
  have g2 : decide ((a.Text_.size : Int) ≤ 200) = !decide ((a.Text_.size : Int) > 200) := by
    by_cases h : (a.Text_.size : Int) > 200
    · rw [decT h, decF (by omega)]; rfl
    · rw [decF h, decT (by omega)]; rfl
  have g3 : decide ((a.Text_.size : Int) < 0) = false := decF (by omega)
  rw [g1, g2, g3]
  generalize (a.Text_.toList == (ByteArray.mk #[]).toList) = te
  generalize (a.Type_.toList == (ByteArray.mk #[]).toList) = ty
  generalize decide ((a.Text_.size : Int) < 1) = s1
  generalize decide ((a.Text_.size : Int) > 200) = s2
  generalize decide (a.Num_ ≥ -100000000000) = n1
  generalize decide (a.Num_ ≤ 100000000000) = n2
  generalize (a.Num_ == 0) = z
  generalize (a.Num_ == 1) = z1
  have hd : (default : Bool) = false := rfl
  rw [hd]
  clear hp1 hp2 hn1 hn2 g1 g2 g3 hd
  by_cases k1 : a.Kind_ = 1
  · rw [k1]; revert te ty s1 s2 n1 n2 z z1 p nv; decide
  by_cases k2 : a.Kind_ = 2
  · rw [k2]; revert te ty s1 s2 n1 n2 z z1 p nv; decide
  by_cases k3 : a.Kind_ = 3
  · rw [k3]; revert te ty s1 s2 n1 n2 z z1 p nv; decide
  by_cases k4 : a.Kind_ = 4
  · rw [k4]; revert te ty s1 s2 n1 n2 z z1 p nv; decide
  by_cases k5 : a.Kind_ = 5
  · rw [k5]; revert te ty s1 s2 n1 n2 z z1 p nv; decide
  by_cases k7 : a.Kind_ = 7
  · rw [k7]; revert te ty s1 s2 n1 n2 z z1 p nv; decide
  have bF : ∀ {i : Int}, ¬ a.Kind_ = i → (a.Kind_ == i) = false := fun h => by simpa using h
  simp only [bne, bF k1, bF k2, bF k3, bF k4, bF k5, bF k7]
  cases te <;> cases ty <;> rfl

theorem beqF {x i : Int} (h : ¬ x = i) : (x == i) = false := by simpa using h
theorem ref_both {a : T_impl_Atom} (h : AtomOk a) : ∃ v, impl_GoodAtom a = some v ∧ spec_GoodAtom a = some v ∧ impl_ygoodRef a = some ((a.Kind_ == 4) && v) := by
  obtain ⟨v, h1, h2⟩ := atom_both h
  refine ⟨v, h1, h2, ?_⟩
  unfold impl_ygoodRef
  rw [h1, gdO_some, Option.bind_some]
  cases (a.Kind_ == 4) <;> rfl
theorem head_both {h : T_impl_Head} (hh : HeadOk h) (act : Bool) : Both (impl_ygoodHead h act) (spec_l10GoodHead h (!act)) := by
  obtain ⟨v, h1, h2, h3⟩ := ref_both hh.atom
  obtain ⟨nv, hn1, hn2⟩ := name_both hh.type
  have hz : impl_yzeroAtom h.Atom_ = some (h.Atom_ == (⟨0, 0, (ByteArray.mk #[]), (ByteArray.mk #[])⟩ : T_impl_Atom)) := rfl
  unfold Both impl_ygoodHead impl_ygoodHead_j1 impl_ygoodHead_j2 spec_l10GoodHead spec_l10GoodHead_j1 spec_l10GoodHead_j2
  simp only [h2, h3, hn1, hn2, hz, gdO_some, Option.bind_some, cond_none_some, Option.some.injEq, exists_eq_left']
  have hd : (default : Bool) = false := rfl
  rw [hd]
  generalize (h.Atom_ == (⟨0, 0, (ByteArray.mk #[]), (ByteArray.mk #[])⟩ : T_impl_Atom)) = za
  generalize (h.Type_.toList == (ByteArray.mk #[]).toList) = ty
  generalize (h.Atom_.Kind_ == 4) = k4
  clear h1 h2 h3 hn1 hn2 hz hd
  by_cases k1 : h.Kind_ = 1
  · rw [k1]; revert za ty k4 v nv act; decide
  by_cases k2 : h.Kind_ = 2
  · rw [k2]; revert za ty k4 v nv act; decide
  by_cases k3 : h.Kind_ = 3
  · rw [k3]; revert za ty k4 v nv act; decide
  by_cases k4' : h.Kind_ = 4
  · rw [k4']; revert za ty k4 v nv act; decide
  by_cases k5 : h.Kind_ = 5
  · rw [k5]; revert za ty k4 v nv act; decide
  by_cases k6 : h.Kind_ = 6
  · rw [k6]; revert za ty k4 v nv act; decide
  simp only [beqF k1, beqF k2, beqF k3, beqF k4', beqF k5, beqF k6]
  rfl
end Go.G36.ZL
