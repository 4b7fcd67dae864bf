/- FnLinked, plain part: a node of a condition. -/
import Derived.Test.YtnndbiialpaccaaGreatDoorQ36h
namespace Go.G36.ZL
set_option maxRecDepth 20000
set_option maxHeartbeats 2000000
set_option linter.unusedVariables false
set_option linter.unusedSimpArgs false
open Go Go.G36

abbrev A0 : T_impl_Atom := ⟨0, 0, ByteArray.mk #[], ByteArray.mk #[]⟩
/-- How many kids a kind has, at least and at most; none: no such kind. -/
def kidsOk (k n : Int) : Bool :=
  if k = 1 ∨ k = 3 then n == 0 else if k = 2 then decide (0 ≤ n) && decide (n ≤ 10) else if k = 4 ∨ k = 5 ∨ k = 6 ∨ k = 7 ∨ k = 20 ∨ k = 21 then n == 1 else if k = 10 then n == 3 else if 8 ≤ k ∧ k ≤ 19 then n == 2 else false
def good (e : T_impl_Expr) : Bool := kidsOk e.Kind_ e.Kids_ && ((e.Kind_ == 1) || (e.Atom_ == A0))
def lohi (k : Int) : Int × Int := if k = 1 ∨ k = 3 then (0, 0) else if k = 2 then (0, 10) else if k = 4 ∨ k = 5 ∨ k = 6 ∨ k = 7 ∨ k = 20 ∨ k = 21 then (1, 1) else if k = 10 then (3, 3) else (2, 2)
def arity (k : Int) : Int := if k = 1 ∨ k = 3 then 0 else if k = 2 then -2 else if k = 4 ∨ k = 5 ∨ k = 6 ∨ k = 7 ∨ k = 20 ∨ k = 21 then 1 else if k = 10 then 3 else if 8 ≤ k ∧ k ≤ 19 then 2 else -1
theorem beqT {x i : Int} (h : x = i) : (x == i) = true := by simpa using h
theorem kidsOf_eq (k : Int) : impl_ykidsOf k = some (lohi k) := by
  unfold impl_ykidsOf impl_ykidsOf_j1 impl_ykidsOf_j2 lohi
  by_cases h1 : k = 1
  · subst h1; rfl
  by_cases h3 : k = 3
  · subst h3; rfl
  by_cases h2 : k = 2
  · subst h2; rfl
  by_cases h4 : k = 4
  · subst h4; rfl
  by_cases h5 : k = 5
  · subst h5; rfl
  by_cases h6 : k = 6
  · subst h6; rfl
  by_cases h7 : k = 7
  · subst h7; rfl
  by_cases h20 : k = 20
  · subst h20; rfl
  by_cases h21 : k = 21
  · subst h21; rfl
  rw [beqF h1, beqF h3, beqF h2, beqF h4, beqF h5, beqF h6, beqF h7, beqF h20, beqF h21, if_neg (by omega), if_neg h2, if_neg (by omega)]
  by_cases h10 : k = 10
  · rw [beqT h10, if_pos h10]; rfl
  · rw [beqF h10, if_neg h10]; rfl
theorem arity_eq (k : Int) : spec_l10Arity k = some (arity k) := by
  unfold spec_l10Arity spec_l10Arity_j1 spec_l10Arity_j2 arity
  by_cases h1 : k = 1
  · subst h1; rfl
  by_cases h3 : k = 3
  · subst h3; rfl
  by_cases h2 : k = 2
  · subst h2; rfl
  by_cases h4 : k = 4
  · subst h4; rfl
  by_cases h5 : k = 5
  · subst h5; rfl
  by_cases h6 : k = 6
  · subst h6; rfl
  by_cases h7 : k = 7
  · subst h7; rfl
  by_cases h20 : k = 20
  · subst h20; rfl
  by_cases h21 : k = 21
  · subst h21; rfl
  rw [beqF h1, beqF h3, beqF h2, beqF h4, beqF h5, beqF h6, beqF h7, beqF h20, beqF h21, if_neg (by omega), if_neg h2, if_neg (by omega)]
  by_cases h10 : k = 10
  · rw [beqT h10, if_pos h10]; rfl
  · rw [beqF h10, if_neg h10]
    by_cases h8 : 8 ≤ k ∧ k ≤ 19
    · rw [if_pos h8, decT h8.1, decT h8.2]; rfl
    · rw [if_neg h8]
      have : (decide (k ≥ 8) && decide (k ≤ 19)) = false := by
        simp only [Bool.and_eq_false_iff, decide_eq_false_iff_not]
        omega
      rw [this]; rfl
theorem good_impl (k n : Int) : (!(decide (k < 1) || decide (k > 21)) && !(decide (n < (lohi k).1) || decide (n > (lohi k).2))) = kidsOk k n := by
  apply Bool.eq_iff_iff.2
  simp only [Bool.and_eq_true, Bool.not_eq_true', Bool.or_eq_false_iff, decide_eq_false_iff_not]
  unfold lohi kidsOk
  split
  · simp only [beq_iff_eq]; omega
  split
  · simp only [Bool.and_eq_true, decide_eq_true_eq]; omega
  split
  · simp only [beq_iff_eq]; omega
  split
  · simp only [beq_iff_eq]; omega
  split
  · simp only [beq_iff_eq]; omega
  · simp only [Bool.false_eq_true, iff_false]; omega
theorem good_spec (k n : Int) (hn : 0 ≤ n ∧ n ≤ 10) : (!((arity k == -1) || (decide (arity k ≥ 0) && (n != arity k)))) = kidsOk k n := by
  unfold arity kidsOk
  split
  · cases h : (n == 0) <;> simp [bne, h]
  split
  · simp; omega
  split
  · cases h : (n == 1) <;> simp [bne, h]
  split
  · cases h : (n == 3) <;> simp [bne, h]
  split
  · cases h : (n == 2) <;> simp [bne, h]
  · rfl
/-- What is asked of the rest of a node. -/
theorem node_both {e : T_impl_Expr} (he : ExprOk e) : ∃ v, impl_ygoodExprNode e = some (good e && v) ∧
    ∀ (t : T_spec_l10E) (rec : T_spec_l10E → Option Bool), (0 ≤ e.Kids_ ∧ e.Kids_ ≤ 10) → t.n_ = e → (t.kids_.length : Int) = e.Kids_ → spec_l10Right_b rec t = cond (good e) (spec_l10Right_j1 t rec v) (some false) := by
  obtain ⟨ga, hga1, hga2⟩ := atom_both he.atom
  obtain ⟨nv, hn1, hn2⟩ := name_both he.text
  obtain ⟨c, hc1, hc2⟩ := has_both e.Text_
  obtain ⟨l, l', ok, hp1, hp2⟩ := pat_both he.text
  obtain ⟨p, hq1, hq2⟩ := printed_both he.text
  have hz : ∀ a, impl_yzeroAtom a = some (a == A0) := fun a => rfl
  have hd : (default : Bool) = false := rfl
  have g2 : decide ((e.Text_.size : Int) ≤ 200) = !decide ((e.Text_.size : Int) > 200) := by
    by_cases h : (e.Text_.size : Int) > 200
    · rw [decT h, decF (by omega)]; rfl
    · rw [decF h, decT (by omega)]; rfl
  have g3 : decide ((e.Text_.size : Int) < 0) = false := decF (by omega)
  obtain ⟨te, hte⟩ : ∃ te, (e.Text_.toList == (ByteArray.mk #[]).toList) = te := ⟨_, rfl⟩
  obtain ⟨s2, hs2⟩ : ∃ s2, decide ((e.Text_.size : Int) > 200) = s2 := ⟨_, rfl⟩
  rw [hs2] at g2
  refine ⟨cond (e.Kind_ == 1) (te && ga) (cond (e.Kind_ == 3) c (cond ((e.Kind_ == 4) || (e.Kind_ == 5) || (e.Kind_ == 21)) nv (cond (e.Kind_ == 20) (ok && (!s2 && p)) te))), ?_, fun t rec hn ht hk => ?_⟩
  · unfold impl_ygoodExprNode
    rw [kidsOf_eq]
    have hg : good e = ((!(decide (e.Kind_ < 1) || decide (e.Kind_ > 21)) && !(decide (e.Kids_ < (lohi e.Kind_).1) || decide (e.Kids_ > (lohi e.Kind_).2))) && ((e.Kind_ == 1) || (e.Atom_ == A0))) := by rw [good_impl]; rfl
    rw [hg]
    cases h1 : (decide (e.Kind_ < 1) || decide (e.Kind_ > 21)) with
    | true => rfl
    | false =>
      simp only [cond_false, Option.bind_some, hz, gdO_some, hd]
      cases h2 : (decide (e.Kids_ < (lohi e.Kind_).1) || decide (e.Kids_ > (lohi e.Kind_).2)) with
      | true => rfl
      | false =>
        simp only [Bool.not_false, Bool.true_and, Bool.false_or]
        have hb : ((e.Kind_ != 1) && !(cond (e.Kind_ != 1) (e.Atom_ == A0) false)) = !((e.Kind_ == 1) || (e.Atom_ == A0)) := by
          unfold bne; cases (e.Kind_ == 1) <;> cases (e.Atom_ == A0) <;> rfl
        rw [hb]
        cases h3 : ((e.Kind_ == 1) || (e.Atom_ == A0)) with
        | false => rfl
        | true =>
          simp only [Bool.not_true, cond_false, Bool.true_and, hga1, hn1, hc1, hp1, hq2, gdO_some, Option.bind_some, impl_ygoodExprNode_j1, cond_none_some, g3, hd, hte, hs2]
          congr 1
          cases (e.Kind_ == 1) with
          | true => cases te <;> rfl
          | false =>
            cases (e.Kind_ == 3) with
            | true => rfl
            | false =>
              cases (e.Kind_ == 4) <;> cases (e.Kind_ == 5) <;> cases (e.Kind_ == 21) <;> cases (e.Kind_ == 20) <;> cases ok <;> cases s2 <;> rfl
  · unfold spec_l10Right_b
    rw [ht, arity_eq, Option.bind_some, hk]
    have hgs := good_spec e.Kind_ e.Kids_ hn
    have hg : ((((arity e.Kind_) == (-1)) || (decide ((arity e.Kind_) ≥ 0) && (e.Kids_ != (arity e.Kind_)))) || ((e.Kind_ != 1) && (!(e.Atom_ == A0)))) = !good e := by
      unfold good
      rw [← hgs]
      unfold bne
      generalize (((arity e.Kind_) == (-1)) || (decide ((arity e.Kind_) ≥ 0) && !(e.Kids_ == (arity e.Kind_)))) = x
      cases x <;> cases (e.Kind_ == 1) <;> cases (e.Atom_ == A0) <;> rfl
    rw [hg]
    cases good e with
    | false => rfl
    | true =>
      unfold spec_l10Right_j2
      rw [ht]
      have hc3 : ((spec_l10Vars).bind fun r18 => (spec_l3Has r18 e.Text_).bind fun r20 => spec_l10Right_j1 t rec r20) = spec_l10Right_j1 t rec c := by
        rw [show ((spec_l10Vars).bind fun r18 => (spec_l3Has r18 e.Text_).bind fun r20 => spec_l10Right_j1 t rec r20) = ((spec_l10Vars).bind fun r18 => spec_l3Has r18 e.Text_).bind fun r20 => spec_l10Right_j1 t rec r20 from by simp [Option.bind_assoc], hc2, Option.bind_some]
      simp only [Bool.not_true, cond_false, cond_true, hga2, hn2, hc3, hp2, hq1, gdO_some, Option.bind_some, g2, hd, hte]
      cases (e.Kind_ == 1) with
      | true => cases te <;> rfl
      | false =>
        cases (e.Kind_ == 3) with
        | true => rfl
        | false =>
          cases (e.Kind_ == 4) <;> cases (e.Kind_ == 5) <;> cases (e.Kind_ == 21) <;> cases (e.Kind_ == 20) <;> cases ok <;> cases s2 <;> rfl
end Go.G36.ZL
