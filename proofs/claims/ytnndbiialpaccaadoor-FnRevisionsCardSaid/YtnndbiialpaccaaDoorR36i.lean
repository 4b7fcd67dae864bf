/- Tokens; the law. -/
import Derived.Test.YtnndbiialpaccaaDoorR36h
namespace Go.G36.RV1
set_option linter.all false
open Go Go.G36 Go.G36.RV

def sec (k : Int) : Prop := 1 ≤ k ∧ k < 1073741789
theorem bys_bA (l : List UInt8) : bys (bA l) = l.map fun b => (b.toNat : Int) := rfl
theorem bys_len (l : List UInt8) : (bys (bA l)).length = l.length := by simp [bys_bA]

/-- A token, by both. -/
theorem token_eq {k : Int} {n : Nat} (hk0 : 0 ≤ k) (hk1 : k ≤ 9223372036854775807) (hn : n ≤ 1000000) : ∃ A : List UInt8, A.length = 13 ∧
    spec_l7Token k (n : Int) = some (bA (114 :: (Lib.decDigits n ++ 46 :: A))) ∧ (sec k → impl_TokenOf k (n : Int) = some (bA (114 :: (Lib.decDigits n ++ 46 :: A)))) := by
  have hlen := decDigits_le n 7 (by omega) (by omega)
  have e1 : (ByteArray.mk #[114]) = bA [114] := rfl
  have e2 : (ByteArray.mk #[46]) = bA [46] := rfl
  have hm := mac_eq (k := four k) (a := bys (bA ([114] ++ Lib.decDigits n))) (four_bytes k) (by show 4 ≤ _; decide) (bys_bytes _) (by rw [bys_len]; simp; omega)
  obtain ⟨x, y, hx, hy, rfl, hxl, hxb⟩ := hm
  have hsub : sub x 0 8 = some (x.take 8) := by
    unfold sub
    rw [if_pos ⟨by omega, by omega, by omega⟩]
    rfl
  obtain ⟨s, hs1, hs2, hs3, hs4⟩ := armor_eq (d := x.take 8) (hxb.take 8) (by simp; omega)
  obtain ⟨A, rfl⟩ : ∃ A, s = bA A := ⟨_, bA_of s⟩
  have hsz : A.length = 13 := by
    rw [bA_size, List.length_take, show min 8 x.length = 8 by omega] at hs3
    exact hs3
  refine ⟨A, hsz, ?_, ?_⟩
  · unfold spec_l7Token
    rw [l1Num_nat (by omega), Option.bind_some, e1, e2, cat_bA (by simp; omega), Option.bind_some, cat_bA (by simp; omega), Option.bind_some, l2Bytes_eq hk0 hk1, Option.bind_some, hy, Option.bind_some, hsub, Option.bind_some, hs2, Option.bind_some]
    rw [cat_bA (by simp; omega), Option.bind_some]
    simp
  · intro hsec
    unfold impl_TokenOf impl_ysecret
    obtain ⟨h1, h2⟩ := hsec
    rw [Option.bind_some, show ((!(decide (k ≥ 1) && decide (k < 1073741789)) || decide ((n : Int) < 0)) || decide ((n : Int) > 1000000)) = false by simp; omega]
    simp only [cond_false]
    rw [itoa_nat (by omega), Option.bind_some, e1, e2, cat_bA (by simp; omega), Option.bind_some, cat_bA (by simp; omega), Option.bind_some, ybytes_eq hk0, Option.bind_some, hx, Option.bind_some, hsub, Option.bind_some, hs1, Option.bind_some]
    rw [cat_bA (by simp; omega), Option.bind_some]
    simp
def good (k n : Int) : Bool := decide (k ≥ 1) && decide (k < 1073741789) && decide (0 ≤ n) && decide (n ≤ 1000000)
/-- What both answer: a token, or nothing. -/
theorem tokenOf_both (k n : Int) : ∃ T, impl_TokenOf k n = some T ∧ spec_TokenOf k n = some T ∧ ((good k n = false ∧ T = bA []) ∨ (good k n = true ∧ ∃ A : List UInt8, A.length = 13 ∧ T = bA (114 :: (Lib.decDigits n.toNat ++ 46 :: A)))) := by
  cases hg : good k n with
  | false =>
    refine ⟨bA [], ?_, ?_, .inl ⟨rfl, rfl⟩⟩
    · unfold impl_TokenOf impl_ysecret
      rw [Option.bind_some, show ((!(decide (k ≥ 1) && decide (k < 1073741789)) || decide (n < 0)) || decide (n > 1000000)) = true by simp [good] at hg ⊢; omega]
      rfl
    · unfold spec_TokenOf spec_l2Secret
      rw [Option.bind_some, show ((!(decide (k ≥ 1) && decide (k < 1073741789)) || decide (n < 0)) || decide (n > 1000000)) = true by simp [good] at hg ⊢; omega]
      rfl
  | true =>
    simp only [good, Bool.and_eq_true, decide_eq_true_eq] at hg
    obtain ⟨⟨⟨h1, h2⟩, h3⟩, h4⟩ := hg
    obtain ⟨m, rfl⟩ := Int.eq_ofNat_of_zero_le h3
    obtain ⟨A, hA, e1, e2⟩ := token_eq (k := k) (n := m) (by omega) (by omega) (by omega)
    refine ⟨_, e2 ⟨h1, h2⟩, ?_, .inr ⟨rfl, A, hA, rfl⟩⟩
    unfold spec_TokenOf spec_l2Secret
    rw [Option.bind_some, show ((!(decide (k ≥ 1) && decide (k < 1073741789)) || decide ((m : Int) < 0)) || decide ((m : Int) > 1000000)) = false by simp; omega]
    simp only [cond_false]
    rw [e1]
    rfl
/-- u is the token of n. -/
def Tok (k n : Int) (u : ByteArray) : Prop := good k n = true ∧ impl_TokenOf k n = some u
theorem Tok.shape {k n : Int} {u : ByteArray} (h : Tok k n u) : 0 ≤ n ∧ n ≤ 1000000 ∧ sec k ∧ ∃ A : List UInt8, u = bA (114 :: (Lib.decDigits n.toNat ++ 46 :: A)) := by
  obtain ⟨hg, he⟩ := h
  obtain ⟨T, e1, e2, h3⟩ := tokenOf_both k n
  rw [e1] at he
  injection he with he
  subst he
  rcases h3 with ⟨h4, _⟩ | ⟨_, A, _, h5⟩
  · rw [h4] at hg; cases hg
  · simp only [good, Bool.and_eq_true, decide_eq_true_eq] at hg
    exact ⟨hg.1.2, hg.2, ⟨hg.1.1.1, hg.1.1.2⟩, A, h5⟩
theorem nodot (n : Nat) : (46 : UInt8) ∉ Lib.decDigits n := fun h => by
  have h1 := (decDigits_dig n _ h).1
  have h2 : (46 : UInt8).toNat = 46 := rfl
  omega
theorem nodot' (n : Nat) : (46 : UInt8) ∉ (114 :: Lib.decDigits n) := fun h => by
  rcases List.mem_cons.1 h with h | h
  · cases h
  · exact nodot n h
theorem Tok.one {k n m : Int} {u : ByteArray} (h : Tok k n u) (h' : Tok k m u) : n = m := by
  obtain ⟨a1, a2, _, A, rfl⟩ := h.shape
  obtain ⟨b1, b2, _, B, e⟩ := h'.shape
  have e2 := bA_inj e
  simp only [List.cons.injEq, true_and] at e2
  have := dec_inj (cut_at e2 (nodot _) (nodot _)).1
  omega
theorem tl_beq (u v : ByteArray) : (u.toList == v.toList) = true ↔ u = v := by
  rw [beq_iff_eq, Lib.toList_data, Lib.toList_data]
  constructor
  · intro h
    apply ByteArray.ext
    exact Array.toList_inj.1 h
  · intro h; rw [h]

/-- What is told of a text that is read. -/
def Told' (k : Int) (u : ByteArray) (q : Int × Bool) : Prop := (q.2 = true ∧ Tok k q.1 u) ∨ (q = (0, false) ∧ ∀ n, ¬ Tok k n u)
theorem Told'.same {k : Int} {u : ByteArray} {p q : Int × Bool} (h : Told' k u p) (h' : Told' k u q) : p = q := by
  rcases h with ⟨h1, h2⟩ | ⟨h1, h2⟩ <;> rcases h' with ⟨g1, g2⟩ | ⟨g1, g2⟩
  · have := h2.one g2
    cases p; cases q
    simp_all
  · exact absurd h2 (g2 _)
  · exact absurd g2 (h2 _)
  · rw [h1, g1]
theorem implRead {k : Int} (l : List UInt8) (hl : l.length ≤ 1000000) : Ok (impl_ReadToken k (bA l)) (Told' k (bA l)) := by
  unfold impl_ReadToken
  have e1 : trimPrefixO (bA l) (ByteArray.mk #[114]) = some (bA (Lib.trimPrefix l [114])) := rfl
  have ht : (Lib.trimPrefix l [114]).length ≤ l.length := by unfold Lib.trimPrefix; split <;> simp
  generalize hr : Lib.trimPrefix l [114] = r at e1 ht
  rw [e1, Option.bind_some]
  have e2 : cutO (bA r) (ByteArray.mk #[46]) = some (bA (Lib.cut r [46]).1, bA (Lib.cut r [46]).2.1, (Lib.cut r [46]).2.2) := by
    unfold cutO
    rw [if_pos (by rw [bA_size]; omega)]
    rfl
  have hcl : (Lib.cut r [46]).1.length ≤ r.length := by unfold Lib.cut; split <;> simp; omega
  rw [e2, Option.bind_some]
  dsimp only
  generalize hX : (Lib.cut r [46]).1 = X at hcl
  have e3 : wholeO (bA X) = some (wholeR (bA X)) := by
    unfold wholeO
    rw [if_pos (by rw [bA_size]; omega)]
  rw [e3, Option.bind_some]
  have hTok : ∀ n, Tok k n (bA l) → wholeR (bA X) = (n, true) ∧ l ≠ [] := fun n h => by
    obtain ⟨a1, a2, _, A, e⟩ := h.shape
    have e' := bA_inj e
    have hrr : r = Lib.decDigits n.toNat ++ 46 :: A := by
      rw [← hr, e']
      unfold Lib.trimPrefix Lib.hasPrefix
      simp
    have hXX : X = Lib.decDigits n.toNat := by rw [← hX, hrr, cut_dot (nodot _)]
    refine ⟨?_, by rw [e']; simp⟩
    rw [hXX, whole_dec (by omega), Int.toNat_of_nonneg a1]
  generalize wholeR (bA X) = w at hTok
  obtain ⟨w1, w2⟩ := w
  dsimp only
  obtain ⟨T, t1, _, t3⟩ := tokenOf_both k w1
  rw [t1, gdO_some]
  rw [Option.bind_some]
  by_cases hc : ((!w2) || ((bA l).toList == (ByteArray.mk #[]).toList)) = true
  · rw [hc]
    refine Ok.some (.inr ⟨rfl, fun n h => ?_⟩)
    obtain ⟨g1, g2⟩ := hTok n h
    injection g1 with g1 g3
    rw [g3, Bool.not_true, Bool.false_or] at hc
    have : bA l = bA [] := (tl_beq _ _).1 hc
    exact g2 (bA_inj this)
  · rw [Bool.not_eq_true] at hc
    rw [hc]
    simp only [Bool.not_false, cond_true, Bool.false_or]
    simp only [Bool.or_eq_false_iff, Bool.not_eq_false'] at hc
    refine Ok.cond (fun h => ?_) (fun h => ?_)
    · refine Ok.some (.inr ⟨rfl, fun n hn => ?_⟩)
      obtain ⟨g1, g2⟩ := hTok n hn
      injection g1 with g1 g3
      subst g1
      rw [hn.2] at t1
      injection t1 with t1
      rw [t1] at h
      simp at h
    · refine Ok.some (.inl ⟨rfl, ?_⟩)
      have hTl : T = bA l := (tl_beq _ _).1 (by simpa using h)
      subst hTl
      refine ⟨?_, t1⟩
      rcases t3 with ⟨_, h5⟩ | ⟨h5, _⟩
      · have : ((bA l).toList == (ByteArray.mk #[]).toList) = true := (tl_beq _ _).2 h5
        rw [this] at hc
        exact absurd hc.2 (by decide)
      · exact h5
theorem specRead {k : Int} (l : List UInt8) (hl : l.length ≤ 1000000) : Ok (spec_ReadToken k (bA l)) (Told' k (bA l)) := by
  unfold spec_ReadToken
  refine Ok.bind (until_ok l (by omega)) ?_
  rintro ⟨r1, r2⟩ hr
  dsimp only
  have hr1 : ∃ X, r1 = bA X ∧ X.length ≤ l.length ∧ ∀ n A, l = 114 :: (Lib.decDigits n ++ 46 :: A) → X = 114 :: Lib.decDigits n := by
    rcases hr with ⟨X, Y, h1, h2, h3⟩ | ⟨h1, h2⟩
    · injection h3 with h3 h4
      refine ⟨X, h3, by rw [h1]; simp, fun n A e => ?_⟩
      rw [h1] at e
      have := cut_at (X' := 114 :: Lib.decDigits n) (by simpa using e) h2 (nodot' n)
      exact this.1
    · injection h2 with h3 h4
      refine ⟨l, h3, Nat.le_refl _, fun n A e => ?_⟩
      rw [e] at h1
      simp at h1
  obtain ⟨X, rfl, hXl, hXe⟩ := hr1
  unfold spec_l2Secret
  rw [Option.bind_some]
  have hTok : ∀ n, Tok k n (bA l) → sec k ∧ 0 ≤ n ∧ n ≤ 1000000 ∧ X = 114 :: Lib.decDigits n.toNat := fun n h => by
    obtain ⟨a1, a2, a3, A, e⟩ := h.shape
    exact ⟨a3, a1, a2, hXe _ A (bA_inj e)⟩
  rw [bA_size]
  by_cases hc : ((!(decide (k ≥ 1) && decide (k < 1073741789))) || decide ((X.length : Int) < 2)) = true
  · rw [hc, gdO]
    simp only [Bool.not_true, cond_false, Option.bind_some, Bool.true_or, cond_true]
    refine Ok.some (.inr ⟨rfl, fun n h => ?_⟩)
    obtain ⟨⟨s1, s2⟩, a1, a2, hX⟩ := hTok n h
    have := decDigits_pos n.toNat
    rw [hX] at hc
    simp at hc
    omega
  · rw [Bool.not_eq_true] at hc
    rw [hc, gdO]
    simp only [Bool.not_false, cond_true, Bool.false_or]
    have hX2 : 2 ≤ X.length := by simp at hc; omega
    have h0 : idxS (bA X) 0 = some ((X[0].toNat : Nat) : Int) := idxS_bA (l := X) (i := 0) (by omega)
    rw [h0, Option.bind_some]
    refine Ok.cond (fun h => ?_) (fun h => ?_)
    · refine Ok.some (.inr ⟨rfl, fun n hn => ?_⟩)
      obtain ⟨_, a1, a2, hX⟩ := hTok n hn
      subst hX
      simp at h
    · have h4 := subS_bA (l := X) (a := 1) (b := X.length) (by omega) (by omega)
      rw [show ((1 : Nat) : Int) = 1 from rfl] at h4
      rw [h4, Option.bind_some, List.take_of_length_le (by simp)]
      have hw : ∃ w, spec_l1Whole (bA (X.drop 1)) = some w ∧ ∀ n, Tok k n (bA l) → w = (n, true) := by
        obtain ⟨w, hw, _⟩ := l1Whole_ok (X.drop 1)
        refine ⟨w, hw, fun n hn => ?_⟩
        obtain ⟨_, a1, a2, hX⟩ := hTok n hn
        subst hX
        rw [show (114 :: Lib.decDigits n.toNat).drop 1 = Lib.decDigits n.toNat from rfl, l1Whole_dec (by omega), Int.toNat_of_nonneg a1] at hw
        injection hw with hw
        exact hw.symm
      obtain ⟨⟨w1, w2⟩, hw1, hw2⟩ := hw
      rw [hw1, Option.bind_some]
      dsimp only
      obtain ⟨T, t1, t2, t3⟩ := tokenOf_both k w1
      rw [t2, gdO_some, Option.bind_some]
      cases w2 with
      | false =>
        refine Ok.some (.inr ⟨rfl, fun n hn => ?_⟩)
        have := hw2 n hn
        injection this with _ h5
        cases h5
      | true =>
        simp only [Bool.not_true, Bool.not_false, cond_true, Bool.false_or]
        refine Ok.cond (fun h => ?_) (fun h => ?_)
        · refine Ok.some (.inr ⟨rfl, fun n hn => ?_⟩)
          have g1 := hw2 n hn
          injection g1 with g1 _
          subst g1
          rw [hn.2] at t1
          injection t1 with t1
          rw [t1] at h
          simp at h
        · refine Ok.some (.inl ⟨rfl, ?_⟩)
          have hTl : T = bA l := (tl_beq _ _).1 (by simpa using h)
          subst hTl
          refine ⟨?_, t1⟩
          rcases t3 with ⟨_, h5⟩ | ⟨h5, _⟩
          · have h6 := bA_inj h5
            rw [h6] at hXl
            have h7 : ([] : List UInt8).length = 0 := rfl
            omega
          · exact h5
theorem drawRead_ok {code : List Int} (hc : Bytes code) : Ok (spec_DrawReadToken code) fun q => ∃ l : List UInt8, q.2 = bA l ∧ l.length ≤ 1010 := by
  unfold spec_DrawReadToken
  refine Ok.bind (pick_ok (n := 0) 60000 ⟨by show (0 : Int) ≤ 0; omega, by show (0 : Int) ≤ _; omega, hc⟩ (by unfold lim; omega)) ?_
  rintro ⟨r1, o2⟩ ⟨h1, h2, h3⟩
  dsimp only at h1 h2 h3 ⊢
  replace h3 := h3 (by omega)
  refine Ok.bind (pick_ok 300 h1 (by unfold lim; omega)) ?_
  rintro ⟨r4, o5⟩ ⟨g1, g2, g3⟩
  dsimp only at g1 g2 g3 ⊢
  replace g3 := g3 (by omega)
  obtain ⟨m, rfl⟩ := Int.eq_ofNat_of_zero_le g2
  rw [IntWalk.i64_in (1 + r1) (by omega)]
  obtain ⟨A, hA, e1, _⟩ := token_eq (k := 1 + r1) (n := m) (by omega) (by omega) (by omega)
  rw [e1, Option.bind_some]
  have hlen := decDigits_le m 7 (by omega) (by omega)
  have hsz : (114 :: (Lib.decDigits m ++ 46 :: A)).length ≤ 30 := by simp; omega
  generalize (114 :: (Lib.decDigits m ++ 46 :: A)) = t at hsz
  have j : ∀ (o : T_spec_l1Cur) (x : List UInt8), Cur 100 o → x.length ≤ 1010 → Ok (spec_DrawReadToken_j1 r1 o (bA x)) fun q => ∃ l : List UInt8, q.2 = bA l ∧ l.length ≤ 1010 := fun o x ho hx => by
    unfold spec_DrawReadToken_j1
    refine Ok.bind (pick_ok 12 ho (by unfold lim; omega)) ?_
    rintro ⟨r11, o12⟩ _
    exact Ok.some ⟨x, rfl, hx⟩
  refine Ok.bind (one_ok _ g1 (by unfold lim; omega)) ?_
  rintro ⟨b, o15⟩ k1
  dsimp only at k1 ⊢
  refine Ok.cond (fun _ => ?_) (fun _ => j _ _ (k1.mono (by omega)) (by omega))
  refine Ok.bind (spoilt_ok (n := 0 + 2 + 2 + 2) k1 (by unfold lim; omega) (by rw [bA_size]; omega) ⟨by decide, by decide⟩) ?_
  rintro ⟨r17, o18⟩ ⟨m1, m2⟩
  dsimp only at m1 m2 ⊢
  rw [bA_of r17]
  exact j _ _ (m1.mono (by omega)) m2
/-- THE LAW. -/
theorem law {code : List Int} (hc : Bytes code) : laws_FnRevisions code = some true := by
  have : Ok (laws_FnRevisions code) fun r => r = true := by
    unfold laws_FnRevisions
    refine Ok.cond (fun _ => Ok.some rfl) (fun _ => ?_)
    refine Ok.bind (drawTokenOf_ok hc) ?_
    rintro ⟨k, n⟩ ⟨hk0, hk1, hn0, hn1⟩
    dsimp only
    obtain ⟨T, t1, t2, t3⟩ := tokenOf_both k n
    rw [t1, t2, Option.bind_some, Option.bind_some]
    have hj : Ok (laws_FnRevisions_j1 code) fun r => r = true := by
      unfold laws_FnRevisions_j1
      refine Ok.bind (drawRead_ok hc) ?_
      rintro ⟨k8, u⟩ ⟨l, rfl, hl⟩
      dsimp only
      obtain ⟨p, hp, hp'⟩ := implRead (k := k8) l (by omega)
      obtain ⟨q, hq, hq'⟩ := specRead (k := k8) l (by omega)
      have := hp'.same hq'
      subst this
      obtain ⟨p1, p2⟩ := p
      rw [hp, hq, Option.bind_some, Option.bind_some]
      dsimp only
      obtain ⟨T2, e1, _, _⟩ := tokenOf_both k8 p1
      rw [e1, gdO_some, Option.bind_some]
      refine Ok.some ?_
      rcases hp' with ⟨h1, h2⟩ | ⟨h1, _⟩
      · rw [h2.2] at e1
        injection e1 with e1
        subst e1
        dsimp only at h1
        subst h1
        simp
      · injection h1 with h1 h2
        subst h2
        simp
    rw [show (T.toList == T.toList) = true from (tl_beq T T).2 rfl]
    simp only [Bool.not_true, cond_false]
    refine Ok.cond (fun hne => ?_) (fun _ => hj)
    rcases t3 with ⟨_, h4⟩ | ⟨h4, A, hA, h5⟩
    · rw [h4] at hne
      exact absurd hne (by rw [show ((bA []).toList == (ByteArray.mk #[]).toList) = true from (tl_beq _ _).2 rfl]; decide)
    · have hTok : Tok k n T := ⟨h4, t1⟩
      have hlen := decDigits_le n.toNat 7 (by omega) (by omega)
      subst h5
      obtain ⟨p, hp, hp'⟩ := implRead (k := k) (114 :: (Lib.decDigits n.toNat ++ 46 :: A)) (by simp; omega)
      rw [hp, Option.bind_some]
      obtain ⟨p1, p2⟩ := p
      dsimp only
      rcases hp' with ⟨h1, h2⟩ | ⟨_, h2⟩
      · have := h2.one hTok
        dsimp only at h1 this
        subst h1; subst this
        simp only [Bool.not_true, bne_self_eq_false, Bool.or_self, cond_false]
        exact hj
      · exact absurd hTok (h2 n)
  obtain ⟨r, e, rfl⟩ := this
  exact e
end Go.G36.RV1
