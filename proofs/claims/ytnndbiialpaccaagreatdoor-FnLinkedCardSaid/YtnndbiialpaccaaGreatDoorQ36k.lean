/- FnLinked, plain part: conditions, whole. -/
import Derived.Test.YtnndbiialpaccaaGreatDoorQ36j
namespace Go.G36.ZL
set_option maxRecDepth 20000
set_option maxHeartbeats 2000000
set_option linter.unusedVariables false
set_option linter.unusedSimpArgs false
open Go Go.G36

theorem lohi_in (k : Int) : 0 ≤ (lohi k).1 ∧ (lohi k).2 ≤ 10 := by
  unfold lohi
  repeat' split
  all_goals simp
theorem node_kids {e : Ex} (h : NodeOk e) : 0 ≤ e.Kids_ ∧ e.Kids_ ≤ 10 := by
  unfold NodeOk impl_ygoodExprNode at h
  have hl := lohi_in e.Kind_
  rw [kidsOf_eq] at h
  cases h1 : (decide (e.Kind_ < 1) || decide (e.Kind_ > 21)) with
  | true => rw [h1] at h; simp at h
  | false =>
    rw [h1, cond_false, Option.bind_some] at h
    dsimp only at h
    cases h2 : (decide (e.Kids_ < (lohi e.Kind_).1) || decide (e.Kids_ > (lohi e.Kind_).2)) with
    | false =>
      simp only [Bool.or_eq_false_iff, decide_eq_false_iff_not] at h2
      omega
    | true =>
      rw [h2] at h
      simp [gdO] at h
theorem kid_ok {f : List Ex} (hf : Exs f) (hlen : f.length ≤ 60) : ∀ (r : Nat) (d : Int), 1 ≤ d → d + (r : Int) = 14 → 1 ≤ r → ∀ a, 0 ≤ a → KidOk f r a d := by
  intro r
  induction r with
  | zero => intro d _ _ h; omega
  | succ r ih =>
    intro d hd hdr _ a ha
    unfold KidOk
    show ∃ t n, spec_l10Take_b (iterF takeB r) f a d = some (t, n) ∧ ((n < 0 ∧ (AllGood f → impl_yexprEnd_b (iterF yendB r) f a d = some (-1))) ∨
      (a < n ∧ n ≤ (f.length : Int) ∧ idx f a = some t.n_ ∧ ∃ q, spec_l10Right_b (iterF rightB r) t = some q ∧ (q = true → GoodIn f a n) ∧ (AllGood f → impl_yexprEnd_b (iterF yendB r) f a d = some (cond q n (-1)))))
    cases hc : (decide (a ≥ (f.length : Int)) || decide (d > 12)) with
    | true =>
      refine ⟨⟨⟨0, ByteArray.mk #[], ⟨0, 0, ByteArray.mk #[], ByteArray.mk #[]⟩, 0⟩, []⟩, -1, ?_, .inl ⟨by decide, fun _ => ?_⟩⟩
      · unfold spec_l10Take_b
        rw [hc]
        rfl
      · unfold impl_yexprEnd_b
        rw [hc]
        rfl
    | false =>
      have hc' := hc
      simp only [Bool.or_eq_false_iff, decide_eq_false_iff_not] at hc'
      obtain ⟨e, hix, hmem⟩ := idx_some ha (by omega : a < (f.length : Int))
      have hw : IntKind.i64.wrap (a + 1) = a + 1 := IntWalk.i64_in _ (by omega)
      have heok := hf e hmem
      have htk : spec_l10Take_b (iterF takeB r) f a d = cond (decide (e.Kids_ < 0) || decide (e.Kids_ > 10)) (some ((⟨(⟨0, (ByteArray.mk #[]), (⟨0, 0, (ByteArray.mk #[]), (ByteArray.mk #[])⟩ : T_impl_Atom), 0⟩ : T_impl_Expr), ([] : List (List V))⟩ : T_spec_l10E), (-1)))
          ((loopO (spec_l10Take_l1 f d (iterF takeB r)) ((⟨e, ([] : List (List V))⟩ : T_spec_l10E), a + 1, 0)).bind fun q19 => (match q19 with | .inl (b10, v11) => some (b10, v11) | .inr q12 => some q12)) := by
        unfold spec_l10Take_b
        rw [hc, hix]
        simp only [gdO_some, Option.bind_some, Bool.not_false, cond_true, Bool.false_or, hw]
        cases hneg : decide (e.Kids_ < 0) <;> rfl
      have hyk : impl_yexprEnd_b (iterF yendB r) f a d = (loopO (impl_yexprEnd_l1 f d (iterF yendB r) e) (a + 1, 0)).bind fun q12 => (match q12 with | .inl v5 => some v5 | .inr q6 => some q6) := by
        unfold impl_yexprEnd_b
        rw [hc, hix, hw]
        rfl
      by_cases hk : 0 ≤ e.Kids_ ∧ e.Kids_ ≤ 10
      · have hk2 : (decide (e.Kids_ < 0) || decide (e.Kids_ > 10)) = false := by
          simp only [Bool.or_eq_false_iff, decide_eq_false_iff_not]; omega
        rw [hk2, cond_false] at htk
        obtain ⟨v, hv1, hv2⟩ := node_both heok
        have hr1 : 1 ≤ r := by omega
        rcases kids_loop (r := r) (d := d) (e := e) hlen hk (by omega) (fun a ha => ih (d + 1) (by omega) (by omega) hr1 a ha) e.Kids_.toNat [] (a + 1) (by simp; omega) (by omega) (by omega) with ⟨z, g1, g2⟩ | ⟨us, v', g1, g2, g3, g4, g5, g6, g7⟩
        · simp only [List.length_nil] at g1 g2
          rw [show ((0 : Nat) : Int) = 0 from rfl] at g1 g2
          refine ⟨z, -1, ?_, .inl ⟨by decide, fun hall => ?_⟩⟩
          · rw [htk, g1]; rfl
          · rw [hyk, g2 hall]; rfl
        · simp only [List.length_nil, List.nil_append] at g1 g7
          rw [show ((0 : Nat) : Int) = 0 from rfl] at g1 g7
          have hR : spec_l10Right_b (iterF rightB r) ⟨e, us.map fun u => c_T_spec_l10E false u.1⟩ = some (good e && (v && us.all (chk e))) := by
            rw [hv2 _ _ hk rfl (by simp; omega), right_loop us g4 (by omega) v]
            cases good e <;> rfl
          refine ⟨_, v', by rw [htk, g1]; rfl, .inr ⟨by omega, g3, hix, _, hR, fun hq => ?_, fun hall => ?_⟩⟩
          · simp only [Bool.and_eq_true] at hq
            intro i x hi1 hi2 hx
            by_cases hia : i = a
            · subst hia
              rw [hix] at hx
              injection hx with hx
              subst hx
              show impl_ygoodExprNode e = some true
              rw [hv1, hq.1, hq.2.1]
              rfl
            · exact g6 hq.2.2 i x (by omega) hi2 hx
          · have hg := hall e hmem
            unfold NodeOk at hg
            rw [hv1] at hg
            have hgv : (good e && v) = true := by injection hg
            simp only [Bool.and_eq_true] at hgv
            rw [hyk, g7 hall, hgv.1, hgv.2]
            cases us.all (chk e) <;> rfl
      · have hk2 : (decide (e.Kids_ < 0) || decide (e.Kids_ > 10)) = true := by
          simp only [Bool.or_eq_true, decide_eq_true_eq]; omega
        rw [hk2, cond_true] at htk
        exact ⟨_, _, htk, .inl ⟨by decide, fun hall => absurd (node_kids (hall e hmem)) hk⟩⟩

theorem take_mono : ∀ f g : ((List T_impl_Expr) × Int × Int) → Option (T_spec_l10E × Int), (∀ x, Lo (f x) (g x)) → ∀ x, Lo (takeB f x) (takeB g x) := by
  rintro f g h ⟨l, a, d⟩
  show Lo (spec_l10Take_b f l a d) (spec_l10Take_b g l a d)
  unfold spec_l10Take_b
  refine Lo.bind (Lo.refl _) fun e1 => Lo.bind (Lo.refl _) fun e3 => Lo.cond (Lo.refl _) (Lo.bind (Lo.refl _) fun e5 => Lo.bind (Lo.loop ?_ _) fun q => Lo.refl _)
  rintro ⟨b, v, i⟩
  unfold spec_l10Take_l1
  exact Lo.cond (Lo.bind (h _) fun q => Lo.refl _) (Lo.refl _)
theorem yend_mono : ∀ f g : ((List T_impl_Expr) × Int × Int) → Option Int, (∀ x, Lo (f x) (g x)) → ∀ x, Lo (yendB f x) (yendB g x) := by
  rintro f g h ⟨l, a, d⟩
  show Lo (impl_yexprEnd_b f l a d) (impl_yexprEnd_b g l a d)
  unfold impl_yexprEnd_b
  refine Lo.cond (Lo.refl _) (Lo.bind (Lo.refl _) fun e1 => Lo.bind (Lo.loop ?_ _) fun q => Lo.refl _)
  rintro ⟨v, i⟩
  unfold impl_yexprEnd_l1
  exact Lo.cond (Lo.bind (Lo.refl _) fun e8 => Lo.cond (Lo.refl _) (Lo.bind (h _) fun q => Lo.refl _)) (Lo.refl _)
theorem right_j1_lo {f g : T_spec_l10E → Option Bool} (h : ∀ x, Lo (f x) (g x)) (t v) : Lo (spec_l10Right_j1 t f v) (spec_l10Right_j1 t g v) := by
  unfold spec_l10Right_j1
  refine Lo.bind (Lo.loop ?_ _) fun q => Lo.refl _
  rintro ⟨b, i⟩
  unfold spec_l10Right_l1
  exact Lo.cond (Lo.bind (Lo.refl _) fun w => Lo.bind (Lo.refl _) fun e => Lo.bind (Lo.gd (h _)) fun q => Lo.refl _) (Lo.refl _)
theorem right_mono : ∀ f g : T_spec_l10E → Option Bool, (∀ x, Lo (f x) (g x)) → ∀ x, Lo (rightB f x) (rightB g x) := by
  intro f g h t
  show Lo (spec_l10Right_b f t) (spec_l10Right_b g t)
  have h2 : ∀ b, Lo (spec_l10Right_j2 t f b) (spec_l10Right_j2 t g b) := fun b => by
    unfold spec_l10Right_j2
    refine Lo.cond (Lo.bind (Lo.refl _) fun r => right_j1_lo h _ _) (Lo.cond (Lo.bind (Lo.refl _) ?_) (right_j1_lo h _ _))
    rintro ⟨r, r2⟩
    exact Lo.bind (Lo.refl _) fun r => right_j1_lo h _ _
  unfold spec_l10Right_b
  refine Lo.bind (Lo.refl _) fun r1 => Lo.cond (Lo.refl _) (Lo.cond (Lo.bind (Lo.refl _) fun r => right_j1_lo h _ _) (Lo.cond (Lo.bind (Lo.refl _) fun r => Lo.bind (Lo.refl _) fun r => right_j1_lo h _ _) ?_))
  exact Lo.cond (h2 _) (Lo.cond (h2 _) (h2 _))

/-- Is one of them no good node? -/
theorem bad_one {f : List Ex} (hf : Exs f) (hlen : f.length ≤ 60) : ∃ b, impl_Expr_ f = some b ∧ (b = false ↔ AllGood f) := by
  have hnode : ∀ e, e ∈ f → ∃ b, impl_ygoodExprNode e = some b := fun e he => by
    obtain ⟨v, hv, _⟩ := node_both (hf e he)
    exact ⟨_, hv⟩
  have key : ∀ k : Nat, k ≤ f.length → ∃ r, loopO (impl_Expr_x_l1 f) ((f.length : Int) - (k : Int)) = some r ∧ (match r with | .inl _ => ∀ i e, (f.length : Int) - (k : Int) ≤ i → idx f i = some e → NodeOk e | .inr i => 0 ≤ i ∧ ∃ e, e ∈ f ∧ ¬ NodeOk e) := by
    intro k
    induction k with
    | zero =>
      intro _
      refine ⟨.inl (), loopO_end ?_, fun i e hi he => ?_⟩
      · unfold impl_Expr_x_l1
        dsimp only
        rw [decF (by omega : ¬ (f.length : Int) - ((0 : Nat) : Int) < (f.length : Int))]
        rfl
      · have := idx_lt he; omega
    | succ k ih =>
      intro hk
      obtain ⟨e, hix, hmem⟩ := idx_some (xs := f) (i := (f.length : Int) - ((k + 1 : Nat) : Int)) (by omega) (by omega)
      obtain ⟨b, hb⟩ := hnode e hmem
      have hstep : impl_Expr_x_l1 f ((f.length : Int) - ((k + 1 : Nat) : Int)) = some (cond (!b) (.inr (.inr ((f.length : Int) - ((k + 1 : Nat) : Int)))) (.inl ((f.length : Int) - (k : Int)))) := by
        unfold impl_Expr_x_l1
        dsimp only
        rw [decT (by omega : (f.length : Int) - ((k + 1 : Nat) : Int) < (f.length : Int)), cond_true, hix, Option.bind_some]
        unfold impl_GoodExpr_1
        rw [hb, Option.bind_some, Option.bind_some, IntWalk.i64_in _ (by omega), cond_none_some]
        rw [show (f.length : Int) - ((k + 1 : Nat) : Int) + 1 = (f.length : Int) - (k : Int) by omega]
      cases b with
      | false => exact ⟨_, loopO_end hstep, by omega, e, hmem, fun hn => by unfold NodeOk at hn; rw [hb] at hn; cases hn⟩
      | true =>
        obtain ⟨r, h1, h2⟩ := ih (by omega)
        refine ⟨r, by rw [loopO_go hstep]; exact h1, ?_⟩
        cases r with
        | inr i => exact h2
        | inl u =>
          intro i x hi hx
          by_cases hie : i = (f.length : Int) - ((k + 1 : Nat) : Int)
          · subst hie
            rw [hix] at hx
            injection hx with hx
            subst hx
            exact hb
          · exact h2 i x (by omega) hx
  obtain ⟨r, h1, h2⟩ := key f.length (Nat.le_refl _)
  rw [show (f.length : Int) - (f.length : Int) = 0 by omega] at h1 h2
  unfold impl_Expr_ impl_Expr_x
  rw [h1]
  cases r with
  | inl u =>
    refine ⟨false, rfl, fun _ e he => ?_, fun _ => rfl⟩
    obtain ⟨i, hi, rfl⟩ := List.mem_iff_getElem.1 he
    refine h2 (i : Int) _ (by omega) ?_
    unfold idx
    rw [if_pos (by omega)]
    simp
  | inr i =>
    obtain ⟨hi, e, he, hne⟩ := h2
    refine ⟨true, ?_, fun h => (by cases h), fun h => absurd (h e he) hne⟩
    show some (decide (i ≥ 0)) = _
    rw [decT hi]
theorem expr_both {f : List Ex} (hf : Exs f) : Both (impl_GoodExpr f) (spec_GoodExpr f) := by
  unfold Both impl_GoodExpr spec_GoodExpr spec_l10Tree
  by_cases hl : 1 ≤ f.length ∧ f.length ≤ 60
  · have a1 : (((f.length : Int) == 0) || decide ((f.length : Int) > 60)) = false := by
      simp only [Bool.or_eq_false_iff, decide_eq_false_iff_not, beq_eq_false_iff_ne, ne_eq]; omega
    have a2 : (decide ((f.length : Int) < 1) || decide ((f.length : Int) > 60)) = false := by
      simp only [Bool.or_eq_false_iff, decide_eq_false_iff_not]; omega
    obtain ⟨b, hb, hball⟩ := bad_one hf hl.2
    obtain ⟨t, n, ht, hcase⟩ := kid_ok hf hl.2 13 1 (by omega) (by omega) (by omega) 0 (by omega)
    have ht' : spec_l10Take f 0 1 = some (t, n) := fix_eq take_mono ht
    rw [a1, a2, hb, ht']
    simp only [Bool.not_false, gdO, cond_true, Option.bind_some, Bool.false_or, cond_false]
    cases b with
    | false =>
      have hall := hball.1 rfl
      simp only [cond_false]
      rcases hcase with ⟨hn, hy⟩ | ⟨hn1, hn2, hidx, q, hq, hq2, hy⟩
      · have hy' : impl_yexprEnd f 0 1 = some (-1) := fix_eq yend_mono (hy hall)
        rw [hy', Option.bind_some, beqF (by omega : ¬ (-1 : Int) = (f.length : Int)), beqF (by omega : ¬ n = (f.length : Int))]
        exact ⟨false, rfl, rfl⟩
      · have hy' : impl_yexprEnd f 0 1 = some (cond q n (-1)) := fix_eq yend_mono (hy hall)
        have hq' : spec_l10Right t = some q := fix_eq right_mono hq
        rw [hy', Option.bind_some, hq', cond_none_some, Option.bind_some]
        cases q with
        | true => rw [cond_true]; cases hnn : (n == (f.length : Int)) <;> exact ⟨_, rfl, rfl⟩
        | false =>
          rw [cond_false, beqF (by omega : ¬ (-1 : Int) = (f.length : Int))]
          refine ⟨false, rfl, ?_⟩
          cases (n == (f.length : Int)) <;> rfl
    | true =>
      refine ⟨false, rfl, ?_⟩
      have hna : ¬ AllGood f := fun h => by have := hball.2 h; cases this
      by_cases hnl : n = (f.length : Int)
      · rcases hcase with ⟨hn, hy⟩ | ⟨hn1, hn2, hidx, q, hq, hq2, hy⟩
        · omega
        · have hq' : spec_l10Right t = some q := fix_eq right_mono hq
          rw [hq', cond_none_some, Option.bind_some, beqT hnl]
          cases q with
          | false => rfl
          | true =>
            refine absurd (fun e he => ?_) hna
            obtain ⟨i, hi, rfl⟩ := List.mem_iff_getElem.1 he
            refine hq2 rfl (i : Int) _ (by omega) (by omega) ?_
            unfold idx
            rw [if_pos (by omega)]
            simp
      · rw [beqF hnl]; rfl
  · have a1 : (((f.length : Int) == 0) || decide ((f.length : Int) > 60)) = true := by
      simp only [Bool.or_eq_true, decide_eq_true_eq, beq_iff_eq]; omega
    have a2 : (decide ((f.length : Int) < 1) || decide ((f.length : Int) > 60)) = true := by
      simp only [Bool.or_eq_true, decide_eq_true_eq]; omega
    rw [a1, a2]
    exact ⟨false, rfl, rfl⟩
end Go.G36.ZL
