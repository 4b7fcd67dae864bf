/- The plain part of FnRecovered: the law. -/
import Derived.Test.YtegplikjfdpnlaaPj
namespace Go.G36
set_option linter.unusedVariables false
open Go Go.G36.GWalk

theorem many_ok (xs : List Int) (a m : Int) (ha : 1 ≤ a) (hm : 0 ≤ m) (hl : xs.length ≤ 1048576) : ∃ r, spec_l1Many xs a m = some r ∧ 0 ≤ r ∧ r ≤ m := by
  have hnz : nz a = some a := by unfold nz; rw [if_neg (by omega)]
  unfold spec_l1Many
  rw [hnz]
  simp only [Option.bind_some]
  have hq : IntKind.i64.wrap (Int.tdiv (xs.length : Int) a) = (xs.length : Int) / a := IntWalk.i64_quo _ _ ⟨by omega, by omega, ha⟩
  rw [hq]
  have h0 : 0 ≤ (xs.length : Int) / a := Int.ediv_nonneg (by omega) (by omega)
  cases h : decide ((xs.length : Int) / a > m) with
  | true => exact ⟨_, rfl, hm, Int.le_refl _⟩
  | false => exact ⟨_, rfl, h0, by have := of_decide_eq_false h; omega⟩

theorem Cur.le {n m : Nat} {s : T_spec_l1Cur} (h : Cur n s) (hm : n ≤ m) : Cur m s := ⟨h.1, by have := h.2.1; omega, h.2.2⟩

theorem draw_loop : ∀ (k : Nat) (b : T_spec_l1Cur) (l : List Ev) (t : Int) (n : Nat), Cur n b → n + 12 * k < 900000 → k ≤ 50 → l.length + k ≤ 1000 → ∃ q, loopO spec_DrawRunRecovery_l1 (b, l, t, (k : Int)) = some q ∧ Cur (n + 12 * k) q.1
  | 0, b, l, t, n, h, hn, hk, hl => ⟨(b, l), loopO_end (by simp [spec_DrawRunRecovery_l1]), h⟩
  | k + 1, b, l, t, n, h, hn, hk, hl => by
    have step : ∃ b' l' t', spec_DrawRunRecovery_l1 (b, l, t, ((k + 1 : Nat) : Int)) = some (.inl (b', l', t', (k : Int))) ∧ Cur (n + 12) b' ∧ l'.length = l.length + 1 := by
      have hw : IntKind.i64.wrap (((k + 1 : Nat) : Int) - 1) = (k : Int) := by rw [IntWalk.i64_in _ (by omega)]; omega
      have j2 : ∀ (r : Int) (o : T_spec_l1Cur) (e : Ev), Cur (n + 8) o → ∃ b' l' t', spec_DrawRunRecovery_j2 l t (((k + 1 : Nat) : Int)) r o e = some (.inl (b', l', t', (k : Int))) ∧ Cur (n + 12) b' ∧ l'.length = l.length + 1 := fun r o e ho => by
        obtain ⟨c, o2, h1, h2⟩ := one_ok 20 ho (by unfold lim; omega)
        unfold spec_DrawRunRecovery_j2
        rw [h1]
        simp only [Option.bind_some, spec_DrawRunRecovery_j3]
        rw [app_ok (by simp; omega), app_ok (by simp; omega)]
        simp only [Option.bind_some, hw]
        cases c
        · exact ⟨_, _, _, rfl, h2.le (by omega), by simp⟩
        · exact ⟨_, _, _, rfl, h2.le (by omega), by simp⟩
      have hpos : decide (((k + 1 : Nat) : Int) > 0) = true := decide_eq_true (by omega)
      obtain ⟨r1, o1, a1, a2, a3, a4⟩ := pick_ok 6 h (by unfold lim; omega)
      obtain ⟨r2, o2, b1, b2, b3, b4⟩ := pick_ok 30 a2 (by unfold lim; omega)
      have hm0 : 0 ≤ Int.tmod r2 8 := Int.tmod_nonneg _ b3
      have hm1 : Int.tmod r2 8 < 8 := Int.tmod_lt_of_pos _ (by omega)
      obtain ⟨e, he⟩ : ∃ e, idx ([1, 2, 2, 2, 4, 4, 3, 0] : List Int) (Int.tmod r2 8) = some e := by
        generalize Int.tmod r2 8 = z at hm0 hm1
        have : z.toNat < 8 := by omega
        exact ⟨_, by unfold idx; rw [if_pos hm0, List.getElem?_eq_getElem (by simpa using this)]⟩
      simp only [spec_DrawRunRecovery_l1, hpos, cond_true, a1, Option.bind_some, b1, he]
      cases he2 : (e == 2) with
      | true =>
        obtain ⟨w, o3, c1, c2⟩ := of_ok ([(ByteArray.mk #[98, 111, 98]), (ByteArray.mk #[99, 121]), (ByteArray.mk #[100, 97, 110]), (ByteArray.mk #[101, 118, 101])] : List ByteArray) (by simp) b2 (by unfold lim; omega)
        simp only [Bool.not_true, cond_false, Option.bind_some, Bool.true_or, cond_true, c1]
        exact j2 _ _ _ (c2.le (by omega))
      | false =>
        obtain ⟨g, o3, c1, c2⟩ := one_ok 30 b2 (by unfold lim; omega)
        simp only [Bool.not_false, cond_true, c1, Option.bind_some, Bool.false_or]
        cases g with
        | false => exact j2 _ _ _ (c2.le (by omega))
        | true =>
          obtain ⟨w, o4, d1, d2⟩ := of_ok ([(ByteArray.mk #[98, 111, 98]), (ByteArray.mk #[99, 121]), (ByteArray.mk #[100, 97, 110]), (ByteArray.mk #[101, 118, 101])] : List ByteArray) (by simp) c2 (by unfold lim; omega)
          simp only [cond_true, d1, Option.bind_some]
          exact j2 _ _ _ (d2.le (by omega))
    obtain ⟨b', l', t', h1, h2, h3⟩ := step
    rw [loopO_go h1]
    obtain ⟨q, g1, g2⟩ := draw_loop k b' l' t' (n + 12) h2 (by omega) (by omega) (by omega)
    exact ⟨q, g1, g2.le (by omega)⟩

def small (hs : List ByteArray) : Prop := hs.length < big ∧ ∀ n, n ∈ hs → n.size < big

theorem draw_ok (code : List Int) (hl : code.length ≤ 1048576) (hb : ∀ b, b ∈ code → 0 ≤ b ∧ b ≤ 255) : ∃ need delay hs es, spec_DrawRunRecovery code = some (need, delay, hs, es) ∧ small hs := by
  obtain ⟨r1, h1, h2, h3⟩ := many_ok code 10 30 (by omega) (by omega) hl
  have hc : Cur 0 (⟨code, 0, 0⟩ : T_spec_l1Cur) := ⟨Int.le_refl _, Int.le_refl _, hb⟩
  have hw : IntKind.i64.wrap (14 + r1) = 14 + r1 := IntWalk.i64_in _ (by omega)
  obtain ⟨r3, o4, a1, a2, a3, a4⟩ := pick_ok (14 + r1) hc (by unfold lim; omega)
  have a5 := a4 (by omega)
  obtain ⟨k, rfl⟩ : ∃ k : Nat, r3 = (k : Int) := ⟨r3.toNat, by omega⟩
  obtain ⟨q, b1, b2⟩ := draw_loop k o4 [] 0 2 a2 (by omega) (by omega) (by simp; omega)
  have j1 : ∀ (o : T_spec_l1Cur) (v : List ByteArray), Cur 800 o → small v → ∃ need delay hs es, spec_DrawRunRecovery_j1 q.2 o v = some (need, delay, hs, es) ∧ small hs := fun o v ho hv => by
    obtain ⟨r, o2, c1, c2, c3, c4⟩ := pick_ok 3 ho (by unfold lim; omega)
    obtain ⟨r2, o3, d1, d2, d3, d4⟩ := rare_ok 4 (by omega) (by omega) c2 (by unfold lim; omega)
    obtain ⟨r3, o5, e1, e2, _⟩ := pick_ok 9 d2 (by unfold lim; omega)
    obtain ⟨x, hx⟩ : ∃ x, idx ([(IntKind.i64.wrap (1 + r)), 0, 10, 11] : List Int) r2 = some x := by
      have : r2.toNat < 4 := by omega
      exact ⟨_, by unfold idx; rw [if_pos d3, List.getElem?_eq_getElem (by simpa using this)]⟩
    unfold spec_DrawRunRecovery_j1
    simp only [c1, d1, e1, hx, Option.bind_some]
    exact ⟨_, _, _, _, rfl, hv⟩
  obtain ⟨g, o6, f1, f2⟩ := one_ok 20 (b2.le (show 2 + 12 * k ≤ 700 by omega)) (by unfold lim; omega)
  unfold spec_DrawRunRecovery
  rw [h1]
  simp only [Option.bind_some, hw, a1]
  rw [b1]
  simp only [Option.bind_some, f1]
  cases g
  · exact j1 _ _ (f2.le (by omega)) ⟨by decide, by intro n hn; simp at hn; rcases hn with rfl | rfl | rfl <;> decide⟩
  · exact j1 _ _ (f2.le (by omega)) ⟨by decide, by intro n hn; simp at hn; rcases hn with rfl | rfl <;> decide⟩

theorem zInts_self (xs : List Int) (hl : xs.length < big) : laws_zInts xs xs = some true := by
  unfold big at hl
  have h := loop_first xs (laws_zInts_l1 xs xs) (fun _ _ => (none : Option Bool)) outU (fun i a ha => by
    have hi := (List.getElem?_eq_some_iff.1 ha).1
    simp only [laws_zInts_l1, idx_nat, ha, Option.bind_some, show decide ((i : Int) < (xs.length : Int)) = true from decide_eq_true (by omega), cond_true, wrap_succ (i := i) (by omega)]
    simp) (by simp [laws_zInts_l1, outU]) xs.length 0 (by omega)
  have key : ∀ (l : List Int) (i : Nat), firstG (fun _ _ => (none : Option Bool)) l i = none := by
    intro l
    induction l with
    | nil => intro i; rfl
    | cons a r ih => intro i; exact ih (i + 1)
  unfold laws_zInts
  rw [show ((0 : Int)) = ((0 : Nat) : Int) from rfl, h, key]
  simp [outU]

theorem fnRecovered (code : List Int) (hb : ∀ b, b ∈ code → 0 ≤ b ∧ b ≤ 255) : laws_FnRecovered code = some true := by
  unfold laws_FnRecovered
  cases hl : decide ((code.length : Int) > 1048576) with
  | true => rfl
  | false =>
    have hl2 : code.length ≤ 1048576 := by have := of_decide_eq_false hl; omega
    obtain ⟨need, delay, hs, es, h1, h2, h3⟩ := draw_ok code hl2 hb
    simp only [cond_false, h1, Option.bind_some, impl_run need delay hs es h2, spec_run need delay hs es h2 h3]
    have hrl : (runs need delay hs es).length ≤ 200 := by
      unfold runs
      split
      · simp
      · rename_i hh
        simp only [Bool.or_eq_true, not_or] at hh
        rw [outs_len]
        have := hh.2
        simp at this; omega
    rw [zInts_self _ (by unfold big; omega)]
    simp only [Option.bind_some, Bool.not_true, cond_false]
    have hloop : loopO (laws_FnRecovered_l1 need delay es (runs need delay hs es)) 0 = some (.inl ()) := by
      unfold runs
      split
      · exact loopO_end (by simp [laws_FnRecovered_l1])
      · rename_i hh
        simp only [Bool.or_eq_true, not_or] at hh
        exact law_loop need delay hs es (by have := hh.2; simp at this; omega)
    rw [hloop]
    rfl
end Go.G36
