/- The plain part of FnRecovered: the draw. -/
import Derived.Test.YtegplikjfdpnlaaPi
namespace Go.G36
set_option linter.unusedVariables false
open Go Go.G36.GWalk

def Cur (n : Nat) (s : T_spec_l1Cur) : Prop := 0 ≤ s.at_ ∧ s.at_ ≤ (n : Int) ∧ ∀ b, b ∈ s.code_ → 0 ≤ b ∧ b ≤ 255
def lim : Nat := 1000000

theorem u64_and (x : BitVec IntKind.u64.bits) : 0 ≤ IntKind.i64.wrap (IntKind.u64.wrap ((x &&& BitVec.ofInt IntKind.u64.bits 255).toNat : Int)) ∧ IntKind.i64.wrap (IntKind.u64.wrap ((x &&& BitVec.ofInt IntKind.u64.bits 255).toNat : Int)) ≤ 255 := by
  have h : (x &&& BitVec.ofInt IntKind.u64.bits 255).toNat ≤ 255 := by
    rw [BitVec.toNat_and]
    exact Nat.le_trans Nat.and_le_right (by decide)
  generalize (x &&& BitVec.ofInt IntKind.u64.bits 255).toNat = y at h
  rw [IntWalk.u64_in _ (by omega), IntWalk.i64_in _ (by omega)]
  omega

theorem next_ok {n : Nat} {s : T_spec_l1Cur} (h : Cur n s) (hn : n < lim) : ∃ r o, spec_l1Cur_next s = some (r, o) ∧ Cur (n + 1) o ∧ 0 ≤ r ∧ r ≤ 255 := by
  obtain ⟨h0, h1, h2⟩ := h
  unfold lim at hn
  have hw : IntKind.i64.wrap (s.at_ + 1) = s.at_ + 1 := IntWalk.i64_in _ (by omega)
  have j : ∀ v, 0 ≤ v → v ≤ 255 → ∃ r o, spec_l1Cur_next_j1 s v = some (r, o) ∧ Cur (n + 1) o ∧ 0 ≤ r ∧ r ≤ 255 := fun v v0 v1 => by
    unfold spec_l1Cur_next_j1
    rw [hw]
    cases decide (s.at_ + 1 ≤ (s.code_.length : Int)) with
    | true => exact ⟨_, _, rfl, ⟨by show 0 ≤ s.at_ + 1; omega, by show s.at_ + 1 ≤ _; omega, h2⟩, v0, v1⟩
    | false =>
      refine ⟨_, _, rfl, ⟨by show 0 ≤ s.at_ + 1; omega, by show s.at_ + 1 ≤ _; omega, h2⟩, ?_⟩
      exact u64_and _
  unfold spec_l1Cur_next
  cases hd : decide (s.at_ < (s.code_.length : Int)) with
  | false => exact j 0 (by omega) (by omega)
  | true =>
    have hlt := of_decide_eq_true hd
    have hx : s.code_[s.at_.toNat]? = some s.code_[s.at_.toNat] := by simp
    have hi : idx s.code_ s.at_ = some s.code_[s.at_.toNat] := by unfold idx; rw [if_pos h0, hx]
    have hb := h2 _ (List.getElem_mem (l := s.code_) (n := s.at_.toNat) (by omega))
    simp only [cond_true, hi, Option.bind_some]
    rw [IntWalk.i64_in _ (by omega)]
    exact j _ hb.1 hb.2

theorem pick_ok {n : Nat} {s : T_spec_l1Cur} (a : Int) (h : Cur n s) (hn : n + 1 < lim) : ∃ r o, spec_l1Cur_pick a s = some (r, o) ∧ Cur (n + 2) o ∧ 0 ≤ r ∧ (1 ≤ a → r < a) := by
  have hmono : ∀ {o : T_spec_l1Cur} {k : Nat}, k ≤ n + 2 → Cur k o → Cur (n + 2) o := fun hk ⟨c1, c2, c3⟩ => ⟨c1, by omega, c3⟩
  unfold spec_l1Cur_pick
  cases ha : decide (a ≤ 1) with
  | true => exact ⟨0, s, rfl, hmono (by omega) h, by omega, fun h1 => by omega⟩
  | false =>
    have ha1 : ¬ a ≤ 1 := of_decide_eq_false ha
    have hnz : nz a = some a := by unfold nz; rw [if_neg (by omega)]
    have j : ∀ (v : Int) (o : T_spec_l1Cur), 0 ≤ v → Cur (n + 2) o → ∃ r o', spec_l1Cur_pick_j1 a o v = some (r, o') ∧ Cur (n + 2) o' ∧ 0 ≤ r ∧ (1 ≤ a → r < a) := fun v o hv ho => by
      unfold spec_l1Cur_pick_j1
      rw [hnz]
      exact ⟨_, _, rfl, ho, Int.tmod_nonneg _ hv, fun _ => Int.tmod_lt_of_pos _ (by omega)⟩
    obtain ⟨r, o, h1, h2, h3, h4⟩ := next_ok h (by omega)
    simp only [cond_false, h1, Option.bind_some]
    cases decide (a > 200) with
    | false => exact j r o h3 (hmono (by omega) h2)
    | true =>
      obtain ⟨r2, o2, g1, g2, g3, g4⟩ := next_ok h2 (by omega)
      simp only [cond_true, g1, Option.bind_some]
      rw [IntWalk.i64_in (r * 256) (by omega), IntWalk.i64_in _ (by omega)]
      exact j _ o2 (by omega) g2

theorem one_ok {n : Nat} {s : T_spec_l1Cur} (a : Int) (h : Cur n s) (hn : n + 1 < lim) : ∃ r o, spec_l1Cur_one a s = some (r, o) ∧ Cur (n + 2) o := by
  obtain ⟨r, o, h1, h2, _⟩ := pick_ok a h hn
  unfold spec_l1Cur_one
  rw [h1]
  exact ⟨_, _, rfl, h2⟩
theorem of_ok {n : Nat} {s : T_spec_l1Cur} (xs : List ByteArray) (hx : xs ≠ []) (h : Cur n s) (hn : n + 1 < lim) : ∃ r o, spec_l1Cur_of xs s = some (r, o) ∧ Cur (n + 2) o := by
  have hl : 0 < xs.length := List.length_pos_iff.2 hx
  obtain ⟨r, o, h1, h2, h3, h4⟩ := pick_ok (xs.length : Int) h hn
  have h5 := h4 (by omega)
  have hg : xs[r.toNat]? = some xs[r.toNat] := by simp
  have hi : idx xs r = some xs[r.toNat] := by unfold idx; rw [if_pos h3, hg]
  unfold spec_l1Cur_of
  rw [h1]
  simp only [Option.bind_some, hi]
  exact ⟨_, _, rfl, h2⟩
theorem rare_ok {n : Nat} {s : T_spec_l1Cur} (a : Int) (ha : 2 ≤ a) (ha2 : a ≤ 1000) (h : Cur n s) (hn : n + 3 < lim) : ∃ r o, spec_l1Cur_rare a s = some (r, o) ∧ Cur (n + 4) o ∧ 0 ≤ r ∧ r < a := by
  obtain ⟨b, o, h1, h2⟩ := one_ok 8 h (by omega)
  unfold spec_l1Cur_rare
  rw [h1]
  simp only [Option.bind_some]
  cases b with
  | false => exact ⟨_, _, rfl, ⟨h2.1, by have := h2.2.1; omega, h2.2.2⟩, by omega, by omega⟩
  | true =>
    rw [IntWalk.i64_in (a - 1) (by omega)]
    obtain ⟨r, o2, g1, g2, g3, g4⟩ := pick_ok (a - 1) h2 (by omega)
    have := g4 (by omega)
    simp only [Bool.not_true, cond_false, g1, Option.bind_some]
    rw [IntWalk.i64_in (1 + r) (by omega)]
    exact ⟨_, _, rfl, ⟨g2.1, by have := g2.2.1; omega, g2.2.2⟩, by omega, by omega⟩
end Go.G36
