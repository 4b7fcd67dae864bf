/- FnLinked, plain part: conditions. -/
import Derived.Test.YtnndbiialpaccaaGreatDoorQ36i
namespace Go.G36.ZL
set_option maxRecDepth 20000
set_option maxHeartbeats 2000000
set_option linter.unusedVariables false
set_option linter.unusedSimpArgs false
open Go Go.G36

abbrev Ex := T_impl_Expr
noncomputable abbrev takeB := fun (rec_spec_l10Take : ((List T_impl_Expr) × Int × Int) → Option (T_spec_l10E × Int)) (x : (List T_impl_Expr) × Int × Int) => match x with | (a0, a1, a2) => spec_l10Take_b rec_spec_l10Take a0 a1 a2
noncomputable abbrev yendB := fun (rec_impl_yexprEnd : ((List T_impl_Expr) × Int × Int) → Option Int) (x : (List T_impl_Expr) × Int × Int) => match x with | (a0, a1, a2) => impl_yexprEnd_b rec_impl_yexprEnd a0 a1 a2
noncomputable abbrev rightB := fun (rec_spec_l10Right : T_spec_l10E → Option Bool) (x : T_spec_l10E) => match x with | a0 => spec_l10Right_b rec_spec_l10Right a0
def NodeOk (e : Ex) : Prop := impl_ygoodExprNode e = some true
def AllGood (f : List Ex) : Prop := ∀ e, e ∈ f → NodeOk e
def GoodIn (f : List Ex) (a b : Int) : Prop := ∀ i e, a ≤ i → i < b → idx f i = some e → NodeOk e
def chk (e : Ex) (u : T_spec_l10E × Bool) : Bool := u.2 && ((e.Kind_ != 2) || (u.1.n_.Kind_ == 1))
def KidOk (f : List Ex) (r : Nat) (a d : Int) : Prop := ∃ t n, iterF takeB r (f, a, d) = some (t, n) ∧
  ((n < 0 ∧ (AllGood f → iterF yendB r (f, a, d) = some (-1))) ∨
   (a < n ∧ n ≤ (f.length : Int) ∧ idx f a = some t.n_ ∧ ∃ q, iterF rightB r t = some q ∧ (q = true → GoodIn f a n) ∧ (AllGood f → iterF yendB r (f, a, d) = some (cond q n (-1)))))

theorem idx_some {α : Type} {xs : List α} {i : Int} (h0 : 0 ≤ i) (h1 : i < (xs.length : Int)) : ∃ a, idx xs i = some a ∧ a ∈ xs := by
  obtain ⟨a, h, hm⟩ := idx_ok h0 h1
  exact ⟨a, h, hm⟩
theorem idx_lt {α : Type} {xs : List α} {i : Int} {a : α} (h : idx xs i = some a) : 0 ≤ i ∧ i < (xs.length : Int) := by
  unfold idx at h
  split at h
  · rename_i h0
    obtain ⟨h1, _⟩ := List.getElem?_eq_some_iff.1 h
    omega
  · cases h

theorem kids_loop {f : List Ex} {r : Nat} {d : Int} {e : Ex} (hlen : f.length ≤ 60) (he : 0 ≤ e.Kids_ ∧ e.Kids_ ≤ 10) (hd : 1 ≤ d ∧ d ≤ 12) (ih : ∀ a, 0 ≤ a → KidOk f r a (d + 1)) :
    ∀ (m : Nat) (ks : List (List V)) (v : Int), (ks.length : Int) + (m : Int) = e.Kids_ → 0 ≤ v → v ≤ (f.length : Int) →
    (∃ z, loopO (spec_l10Take_l1 f d (iterF takeB r)) ((⟨e, ks⟩ : T_spec_l10E), v, (ks.length : Int)) = some (.inr (z, -1)) ∧ (AllGood f → loopO (impl_yexprEnd_l1 f d (iterF yendB r) e) (v, (ks.length : Int)) = some (.inr (-1)))) ∨
    (∃ (us : List (T_spec_l10E × Bool)) (v' : Int), loopO (spec_l10Take_l1 f d (iterF takeB r)) ((⟨e, ks⟩ : T_spec_l10E), v, (ks.length : Int)) = some (.inl (⟨e, ks ++ us.map fun u => c_T_spec_l10E false u.1⟩, v')) ∧ v ≤ v' ∧ v' ≤ (f.length : Int) ∧
      (∀ u, u ∈ us → iterF rightB r u.1 = some u.2) ∧ us.length = m ∧ (us.all (chk e) = true → GoodIn f v v') ∧
      (AllGood f → loopO (impl_yexprEnd_l1 f d (iterF yendB r) e) (v, (ks.length : Int)) = some (cond (us.all (chk e)) (.inl v') (.inr (-1))))) := by
  intro m
  induction m with
  | zero =>
    intro ks v hm h0 h1
    refine .inr ⟨[], v, ?_, Int.le_refl _, h1, fun u hu => absurd hu List.not_mem_nil, rfl, fun _ i x hi1 hi2 => by omega, fun _ => ?_⟩
    · refine loopO_end ?_
      unfold spec_l10Take_l1
      dsimp only
      rw [decF (by omega : ¬ (ks.length : Int) < e.Kids_)]
      simp
    · refine loopO_end ?_
      unfold impl_yexprEnd_l1
      dsimp only
      rw [decF (by omega : ¬ (ks.length : Int) < e.Kids_)]
      rfl
  | succ m ihm =>
    intro ks v hm h0 h1
    have hw : IntKind.i64.wrap (d + 1) = d + 1 := IntWalk.i64_in _ (by omega)
    have hwk : IntKind.i64.wrap ((ks.length : Int) + 1) = ((ks.length + 1 : Nat) : Int) := by rw [IntWalk.i64_in _ (by omega)]; omega
    have hlt : decide ((ks.length : Int) < e.Kids_) = true := decT (by omega)
    obtain ⟨t, n, ht, hcase⟩ := ih v h0
    rcases hcase with ⟨hn, hy⟩ | ⟨hn1, hn2, hidx, q, hq, hq2, hy⟩
    · -- this kid is none
      refine .inl ⟨⟨⟨0, ByteArray.mk #[], ⟨0, 0, ByteArray.mk #[], ByteArray.mk #[]⟩, 0⟩, []⟩, ?_, fun hall => ?_⟩
      · refine loopO_end ?_
        unfold spec_l10Take_l1
        dsimp only
        rw [hlt, cond_true, hw, ht, Option.bind_some]
        dsimp only
        rw [decT hn]
        rfl
      · refine loopO_end ?_
        unfold impl_yexprEnd_l1
        dsimp only
        rw [hlt, cond_true, hw, hy hall, Option.bind_some]
        have hneg : decide ((-1 : Int) < 0) = true := rfl
        rw [hneg]
        by_cases hv : v < (f.length : Int)
        · obtain ⟨x, hx, _⟩ := idx_some h0 hv
          rw [hx, gdO_some, Option.bind_some, cond_true]
          generalize ((e.Kind_ == 2) && (decide (v ≥ (f.length : Int)) || _)) = cc
          cases cc <;> rfl
        · rw [decT (by omega : v ≥ (f.length : Int))]
          simp only [Bool.not_true, Bool.and_false, gdO, cond_false, Option.bind_some, Bool.true_or, Bool.and_true, cond_true]
          cases (e.Kind_ == 2) <;> rfl
    · obtain ⟨hv0, hvl⟩ := idx_lt hidx
      have ha : app ks [c_T_spec_l10E false t] = some (ks ++ [c_T_spec_l10E false t]) := app_some (by simp; omega)
      have hgo : spec_l10Take_l1 f d (iterF takeB r) ((⟨e, ks⟩ : T_spec_l10E), v, (ks.length : Int)) = some (.inl ((⟨e, ks ++ [c_T_spec_l10E false t]⟩ : T_spec_l10E), n, ((ks ++ [c_T_spec_l10E false t]).length : Int))) := by
        unfold spec_l10Take_l1
        dsimp only
        rw [hlt, cond_true, hw, ht, Option.bind_some]
        dsimp only
        rw [decF (by omega : ¬ n < 0), cond_false, ha, Option.bind_some, hwk]
        simp
      rw [loopO_go hgo]
      -- the step of the other loop
      have hyes : AllGood f → impl_yexprEnd_l1 f d (iterF yendB r) e (v, (ks.length : Int)) = some (cond (chk e (t, q)) (.inl (n, ((ks ++ [c_T_spec_l10E false t]).length : Int))) (.inr (.inr (-1)))) := fun hall => by
        unfold impl_yexprEnd_l1
        dsimp only
        rw [hlt, cond_true, hw, hy hall, hwk]
        simp only [Option.bind_some]
        rw [decF (by omega : ¬ v ≥ (f.length : Int)), hidx, gdO_some, Option.bind_some]
        unfold chk bne
        have hne : decide (n < 0) = false := decF (by omega)
        have hl : (((ks ++ [c_T_spec_l10E false t]).length : Nat) : Int) = ((ks.length + 1 : Nat) : Int) := by simp
        rw [hl]
        cases (e.Kind_ == 2) with
        | false => cases q with
          | true => simp only [Bool.false_and, cond_false, cond_true, hne, Bool.not_false, Bool.true_or, Bool.true_and]
          | false => rfl
        | true =>
          simp only [Bool.not_false, Bool.true_and, cond_true, Bool.false_or, Bool.not_true]
          cases (t.n_.Kind_ == 1) with
          | true => cases q with
            | true => simp only [Bool.not_true, cond_false, cond_true, hne, Bool.and_true]
            | false => rfl
          | false => simp only [Bool.not_false, cond_true, Bool.and_false, cond_false]
      rcases ihm (ks ++ [c_T_spec_l10E false t]) n (by simp; omega) (by omega) hn2 with ⟨z, g1, g2⟩ | ⟨us, v', g1, g2, g3, g4, g5, g6, g7⟩
      · refine .inl ⟨z, g1, fun hall => ?_⟩
        have hs := hyes hall
        cases hc : chk e (t, q) with
        | true => rw [hc] at hs; rw [loopO_go hs]; exact g2 hall
        | false => rw [hc] at hs; exact loopO_end hs
      · refine .inr ⟨(t, q) :: us, v', ?_, by omega, g3, ?_, by simp [g5], ?_, fun hall => ?_⟩
        · rw [g1]; simp
        · intro u hu
          rcases List.mem_cons.1 hu with rfl | hu
          · exact hq
          · exact g4 u hu
        · intro hx
          simp only [List.all_cons, Bool.and_eq_true] at hx
          intro i x hi1 hi2 hix
          by_cases hin : i < n
          · have hqt : q = true := by
              have := hx.1
              unfold chk at this
              simp only [Bool.and_eq_true] at this
              exact this.1
            exact hq2 hqt i x hi1 hin hix
          · exact g6 hx.2 i x (by omega) hi2 hix
        · have hs := hyes hall
          cases hc : chk e (t, q) with
          | true =>
            rw [hc] at hs
            rw [loopO_go hs, g7 hall]
            simp [hc]
          | false =>
            rw [hc] at hs
            rw [loopO_end hs]
            simp [hc]
/-- What is asked of all kids. -/
theorem right_loop {r : Nat} {e : Ex} (us : List (T_spec_l10E × Bool)) (h : ∀ u, u ∈ us → iterF rightB r u.1 = some u.2) (hl : us.length ≤ 10) (v0 : Bool) :
    spec_l10Right_j1 ⟨e, us.map fun u => c_T_spec_l10E false u.1⟩ (iterF rightB r) v0 = some (v0 && us.all (chk e)) := by
  have key : ∀ (us2 us1 : List (T_spec_l10E × Bool)) (v : Bool), us = us1 ++ us2 → loopO (spec_l10Right_l1 ⟨e, us.map fun u => c_T_spec_l10E false u.1⟩ (iterF rightB r)) (v, (us1.length : Int)) = some (v && us2.all (chk e)) := by
    intro us2
    induction us2 with
    | nil =>
      intro us1 v hu
      rw [List.append_nil] at hu
      subst hu
      refine loopO_end ?_
      unfold spec_l10Right_l1
      dsimp only
      rw [List.length_map, decF (by omega : ¬ (us.length : Int) < (us.length : Int))]
      simp
    | cons u us2 ih =>
      intro us1 v hu
      have hi : idx (us.map fun u => c_T_spec_l10E false u.1) (us1.length : Int) = some (c_T_spec_l10E false u.1) := by
        unfold idx
        rw [if_pos (by omega), hu]
        simp
      have hul : us1.length < us.length := by rw [hu]; simp
      have hs : spec_l10Right_l1 ⟨e, us.map fun u => c_T_spec_l10E false u.1⟩ (iterF rightB r) (v, (us1.length : Int)) = some (.inl (v && chk e u, ((us1 ++ [u]).length : Int))) := by
        unfold spec_l10Right_l1
        dsimp only
        rw [List.length_map, decT (by omega : (us1.length : Int) < (us.length : Int)), cond_true, hi, Option.bind_some, dec_c, Option.bind_some, h u (by rw [hu]; simp), gdO_some, Option.bind_some]
        rw [IntWalk.i64_in _ (by omega)]
        unfold chk
        congr 3
        · cases v
          · rfl
          · simp
        · simp
      rw [loopO_go hs, ih (us1 ++ [u]) (v && chk e u) (by simp [hu])]
      simp [Bool.and_assoc]
  unfold spec_l10Right_j1
  have := key us [] v0 rfl
  simp only [List.length_nil] at this
  rw [show ((0 : Nat) : Int) = 0 from rfl] at this
  rw [this]
  rfl
end Go.G36.ZL
