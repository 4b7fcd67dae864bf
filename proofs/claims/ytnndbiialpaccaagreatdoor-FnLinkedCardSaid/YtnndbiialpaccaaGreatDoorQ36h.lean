/- FnLinked, plain part: nodes of conditions. -/
import Derived.Test.YtnndbiialpaccaaGreatDoorQ36g
namespace Go.G36.ZL
set_option maxRecDepth 20000
set_option maxHeartbeats 2000000
set_option linter.unusedVariables false
set_option linter.unusedSimpArgs false
open Go Go.G36

/-- Two loops in step. -/
theorem lock {S S' R R' : Type} {f : S → Option (S ⊕ R)} {g : S' → Option (S' ⊕ R')} (I : Nat → S → S' → Prop) (Q : R → R' → Prop)
    (h : ∀ n s s', I n s s' → (∃ a b m, f s = some (.inl a) ∧ g s' = some (.inl b) ∧ m < n ∧ I m a b) ∨ (∃ a b, f s = some (.inr a) ∧ g s' = some (.inr b) ∧ Q a b)) :
    ∀ {n : Nat} {s : S} {s' : S'}, I n s s' → ∃ r r', loopO f s = some r ∧ loopO g s' = some r' ∧ Q r r' := by
  intro n
  induction n using Nat.strongRecOn with
  | ind n ih =>
    intro s s' hi
    rcases h n s s' hi with ⟨a, b, m, h1, h2, h3, h4⟩ | ⟨a, b, h1, h2, h3⟩
    · rw [loopO_go h1, loopO_go h2]
      exact ih m h3 h4
    · exact ⟨a, b, loopO_end h1, loopO_end h2, h3⟩

theorem pat_both {t : ByteArray} (h : t.size ≤ 1000) : ∃ l l' ok, impl_ypattern t = some (l, ok) ∧ spec_l1Tokens t = some (l', ok) := by
  have key := lock (f := impl_ypattern_l1 t) (g := spec_l1Tokens_l1 t) (fun n s s' => s.2 = s'.2 ∧ n ≤ t.size ∧ s.2 = (t.size : Int) - (n : Int) ∧ s.1.length + n ≤ t.size ∧ s'.1.length + n ≤ t.size)
    (fun r r' => match r, r' with | .inl _, .inl _ => True | .inr a, .inr b => a.2 = b.2 | _, _ => False) ?_ (n := t.size) (s := (([] : List Int), 0)) (s' := (([] : List Int), 0)) ⟨rfl, by omega, by simp, by simp, by simp⟩
  · obtain ⟨r, r', h1, h2, h3⟩ := key
    unfold impl_ypattern spec_l1Tokens
    rw [h1, h2]
    cases r with
    | inl a => cases r' with
      | inl b => exact ⟨a, b, true, rfl, rfl⟩
      | inr b => exact h3.elim
    | inr a => cases r' with
      | inl b => exact h3.elim
      | inr b =>
        obtain ⟨a1, a2⟩ := a
        obtain ⟨b1, b2⟩ := b
        have h3 : a2 = b2 := h3
        subst h3
        exact ⟨a1, b1, a2, rfl, rfl⟩
  · rintro n ⟨l, v⟩ ⟨l', v'⟩ ⟨e, hn, hv, hl, hl'⟩
    dsimp only at e hv hl hl'
    subst e
    unfold impl_ypattern_l1 spec_l1Tokens_l1 impl_ypattern_j1 spec_l1Tokens_j1
    dsimp only
    cases hd : decide (v < (t.size : Int)) with
    | false => exact .inr ⟨_, _, rfl, rfl, trivial⟩
    | true =>
      have hlt := of_decide_eq_true hd
      obtain ⟨b, hb, hb0, hb1⟩ := idxS_get (s := t) (v := v.toNat) (by omega)
      rw [show ((v.toNat : Nat) : Int) = v by omega] at hb
      have hw : IntKind.i64.wrap (v + 1) = v + 1 := IntWalk.i64_in _ (by omega)
      have ha : ∀ (q : List Int) (x : Int), q.length + n ≤ t.size → app q [x] = some (q ++ [x]) := fun q x hq => app_some (by simp; omega)
      simp only [cond_true, hb, Option.bind_some, hw, ha l _ hl, ha l' _ hl']
      cases h42 : (b == 42) with
      | true => exact .inl ⟨_, _, n - 1, rfl, rfl, by omega, rfl, by omega, by dsimp only; omega, by simp; omega, by simp; omega⟩
      | false =>
        simp only [cond_false]
        cases h92 : (b == 92) with
        | false => exact .inl ⟨_, _, n - 1, rfl, rfl, by omega, rfl, by omega, by dsimp only; omega, by simp; omega, by simp; omega⟩
        | true =>
          simp only [cond_true]
          by_cases hend : v + 1 = (t.size : Int)
          · rw [show decide (v + 1 ≥ (t.size : Int)) = true from decT (by omega), show (v + 1 == (t.size : Int)) = true from by simpa using hend]
            simp only [Bool.not_true, gdO, cond_false, Option.bind_some, Bool.false_and, Bool.true_or, cond_true]
            exact .inr ⟨_, _, rfl, rfl, rfl⟩
          · rw [show decide (v + 1 ≥ (t.size : Int)) = false from decF (by omega), show (v + 1 == (t.size : Int)) = false from by simpa using hend]
            obtain ⟨b2, hb2, _, _⟩ := idxS_get (s := t) (v := (v + 1).toNat) (by omega)
            rw [show (((v + 1).toNat : Nat) : Int) = v + 1 by omega] at hb2
            have hw2 : IntKind.i64.wrap (v + 1 + 1) = v + 1 + 1 := IntWalk.i64_in _ (by omega)
            simp only [Bool.not_false, gdO, cond_true, Option.bind_some, Bool.true_and, Bool.false_or, hb2, hw2, cond_none_some, ha l _ hl, ha l' _ hl']
            cases h43 : (b2 != 42) with
            | false => exact .inl ⟨_, _, n - 2, rfl, rfl, by omega, rfl, by omega, by dsimp only; omega, by simp; omega, by simp; omega⟩
            | true =>
              simp only [cond_true, Bool.true_and]
              cases h93 : (b2 != 92) with
              | false => exact .inl ⟨_, _, n - 2, rfl, rfl, by omega, rfl, by omega, by dsimp only; omega, by simp; omega, by simp; omega⟩
              | true => exact .inr ⟨_, _, rfl, rfl, rfl⟩

/-! ### Is it one of the four? -/
theorem has_both (t : ByteArray) : Both (slices_Contains gv_0 t) ((spec_l10Vars).bind fun r18 => spec_l3Has r18 t) := by
  have key := lock (f := slices_Index_l1 gv_0 t) (g := spec_l3Has_l1 gv_0 t) (fun n s s' => s = s' ∧ n ≤ 4 ∧ s = 4 - (n : Int))
    (fun r r' => match r, r' with | .inl _, .inl _ => True | .inr a, .inr b => 0 ≤ a ∧ b = true | _, _ => False) ?_ (n := 4) (s := 0) (s' := 0) ⟨rfl, by omega, by simp⟩
  · obtain ⟨r, r', h1, h2, h3⟩ := key
    have hv : spec_l10Vars = some gv_0 := rfl
    unfold Both slices_Contains slices_Index
    rw [hv, Option.bind_some]
    unfold spec_l3Has
    rw [h1, h2]
    cases r with
    | inl a => cases r' with
      | inl b => exact ⟨false, rfl, rfl⟩
      | inr b => exact h3.elim
    | inr a => cases r' with
      | inl b => exact h3.elim
      | inr b =>
        obtain ⟨h4, rfl⟩ := h3
        refine ⟨true, ?_, rfl⟩
        show some (decide (a ≥ 0)) = some true
        rw [decT h4]
  · rintro n s s' ⟨rfl, hn, hs⟩
    unfold slices_Index_l1 spec_l3Has_l1
    dsimp only
    have hlen : (gv_0.length : Int) = 4 := rfl
    rw [hlen]
    cases hd : decide (s < 4) with
    | false => exact .inr ⟨_, _, rfl, rfl, trivial⟩
    | true =>
      have hlt := of_decide_eq_true hd
      obtain ⟨e, he, _⟩ := idx_ok (xs := gv_0) (i := s) (by omega) (by rw [hlen]; exact hlt)
      simp only [cond_true, he, Option.bind_some]
      have hsym : (e.toList == t.toList) = (t.toList == e.toList) := Bool.beq_comm
      rw [hsym]
      cases hc : (t.toList == e.toList) with
      | true => exact .inr ⟨_, _, rfl, rfl, by omega, rfl⟩
      | false =>
        refine .inl ⟨_, _, n - 1, rfl, rfl, by omega, rfl, by omega, ?_⟩
        rw [IntWalk.i64_in _ (by omega)]; omega
end Go.G36.ZL
