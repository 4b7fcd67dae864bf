/- Armor: the program's and the reference's are the same. -/
import Derived.Test.YtnndbiialpaccaaDoorR36c
namespace Go.G36.RV1
set_option linter.all false
open Go Go.G36 Go.G36.RV

/-! ### The bits of some bytes -/
def bt (d : List Int) (k : Nat) : Int := if k < 8 * d.length then d.getD (k / 8) 0 / 2 ^ (7 - k % 8) % 2 else 0
def val (d : List Int) (k : Nat) : Nat → Int
  | 0 => 0
  | m + 1 => val d k m * 2 + bt d (k + m)
theorem bt_01 (d : List Int) (k : Nat) : 0 ≤ bt d k ∧ bt d k ≤ 1 := by
  unfold bt
  split
  · omega
  · omega
theorem val_lt (d : List Int) (k : Nat) : ∀ m, 0 ≤ val d k m ∧ val d k m < 2 ^ m
  | 0 => by simp [val]
  | m + 1 => by
    have h1 := val_lt d k m
    have h2 := bt_01 d (k + m)
    simp only [val, Int.pow_succ]
    omega
theorem val_add (d : List Int) (k m : Nat) : ∀ r, val d k (m + r) = val d k m * 2 ^ r + val d (k + m) r
  | 0 => by simp [val]
  | r + 1 => by
    show val d k (m + r) * 2 + bt d (k + (m + r)) = _
    rw [val_add d k m r]
    simp only [val, Int.pow_succ]
    rw [Int.add_mul, Int.mul_assoc, Nat.add_assoc]
    omega
theorem val_zero {d : List Int} {k : Nat} (h : 8 * d.length ≤ k) : ∀ m, val d k m = 0
  | 0 => rfl
  | m + 1 => by
    simp only [val, val_zero h m]
    unfold bt
    rw [if_neg (by omega)]
    rfl
theorem val_div (d : List Int) (k m r : Nat) : val d k (m + r) / 2 ^ r = val d k m := by
  have h1 := val_lt d (k + m) r
  rw [val_add, Int.add_comm, Int.add_mul_ediv_right _ _ (by have : (0 : Int) < 2 ^ r := Int.pow_pos (by decide); omega), Int.ediv_eq_zero_of_lt h1.1 h1.2]
  omega
theorem val_mod (d : List Int) (k m r : Nat) : val d k (m + r) % 2 ^ r = val d (k + m) r := by
  have h1 := val_lt d (k + m) r
  rw [val_add, Int.add_comm, Int.add_mul_emod_self_right, Int.emod_eq_of_lt h1.1 h1.2]
theorem val_byte {d : List Int} (hd : Bytes d) {i : Nat} (hi : i < d.length) : val d (8 * i) 8 = d[i] := by
  have hb := hd.get hi
  have e : ∀ j, j < 8 → bt d (8 * i + j) = d[i] / 2 ^ (7 - j) % 2 := fun j hj => by
    unfold bt
    rw [if_pos (by omega), show (8 * i + j) / 8 = i by omega, show (8 * i + j) % 8 = j by omega]
    simp [List.getD, hi]
  simp only [val]
  rw [e 0 (by omega), e 1 (by omega), e 2 (by omega), e 3 (by omega), e 4 (by omega), e 5 (by omega), e 6 (by omega), e 7 (by omega)]
  generalize d[i] = x at hb
  simp only [Nat.sub_zero, Nat.sub_self, show 7 - 1 = 6 from rfl, show 7 - 2 = 5 from rfl, show 7 - 3 = 4 from rfl, show 7 - 4 = 3 from rfl, show 7 - 5 = 2 from rfl, show 7 - 6 = 1 from rfl,
    show (2 : Int) ^ 7 = 128 from rfl, show (2 : Int) ^ 6 = 64 from rfl, show (2 : Int) ^ 5 = 32 from rfl, show (2 : Int) ^ 4 = 16 from rfl, show (2 : Int) ^ 3 = 8 from rfl, show (2 : Int) ^ 2 = 4 from rfl, show (2 : Int) ^ 1 = 2 from rfl, show (2 : Int) ^ 0 = 1 from rfl]
  omega

/-! ### Letters -/
abbrev letB : ByteArray := ByteArray.mk #[48, 49, 50, 51, 52, 53, 54, 55, 56, 57, 97, 98, 99, 100, 101, 102, 103, 104, 105, 106, 107, 108, 109, 110, 111, 112, 113, 114, 115, 116, 117, 118]
def letter (x : Int) : Int := if x < 10 then 48 + x else 87 + x
theorem letter_fin : ∀ x : _root_.Fin 32, idxS letB (x.val : Int) = some (letter (x.val : Int)) := by decide +kernel
theorem letter_idx {x : Int} (h0 : 0 ≤ x) (h1 : x < 32) : idxS letB x = some (letter x) := by
  have := letter_fin ⟨x.toNat, by omega⟩
  simpa [Int.toNat_of_nonneg h0] using this
theorem letter_byte {x : Int} (h0 : 0 ≤ x) (h1 : x < 32) : 0 ≤ letter x ∧ letter x ≤ 255 := by
  unfold letter; split <;> omega
/-- The first c letters. -/
def lets (d : List Int) (c : Nat) : List Int := (List.range c).map fun j => letter (val d (5 * j) 5)
theorem lets_succ (d : List Int) (c : Nat) : lets d (c + 1) = lets d c ++ [letter (val d (5 * c) 5)] := by
  simp [lets, List.range_succ]
theorem lets_length (d : List Int) (c : Nat) : (lets d c).length = c := by simp [lets]
theorem lets_bytes (d : List Int) (c : Nat) : Bytes (lets d c) := fun b hb => by
  simp only [lets, List.mem_map] at hb
  obtain ⟨j, _, rfl⟩ := hb
  have := val_lt d (5 * j) 5
  exact letter_byte this.1 this.2

theorem i64_or_add {v x : Int} (h0 : 0 ≤ v) (h1 : v ≤ 1000000000000) (g0 : 0 ≤ x) (g1 : x ≤ 255) : IntKind.i64.wrap ((BitVec.ofInt IntKind.i64.bits (v * 256) ||| BitVec.ofInt IntKind.i64.bits x).toNat : Int) = v * 256 + x := by
  obtain ⟨n, rfl⟩ := Int.eq_ofNat_of_zero_le h0
  obtain ⟨m, rfl⟩ := Int.eq_ofNat_of_zero_le g0
  have e1 : (BitVec.ofInt IntKind.i64.bits ((n : Int) * 256)).toNat = n * 256 := by
    rw [show (n : Int) * 256 = ((n * 256 : Nat) : Int) by simp, BitVec.ofInt_natCast, BitVec.toNat_ofNat]
    exact Nat.mod_eq_of_lt (by show n * 256 < 2 ^ 64; omega)
  have e2 : (BitVec.ofInt IntKind.i64.bits (m : Int)).toNat = m := by
    rw [BitVec.ofInt_natCast, BitVec.toNat_ofNat]
    exact Nat.mod_eq_of_lt (by show m < 2 ^ 64; omega)
  rw [BitVec.toNat_or, e1, e2]
  have e3 : n * 256 ||| m = n * 256 + m := by
    have := Nat.two_pow_add_eq_or_of_lt (i := 8) (b := m) (by omega) n
    rw [show n * 256 = 2 ^ 8 * n by omega]
    exact this.symm
  rw [e3, IntWalk.i64_in _ (by omega)]
  omega
theorem minpow {x : Int} {k : Nat} (h : x = (k : Int)) (hk : k ≤ 60) : (2 : Int) ^ (min (Int.toNat x) IntKind.i64.bits) = 2 ^ k := by
  subst h
  rw [Int.toNat_natCast, Nat.min_eq_left (by show k ≤ 64; omega)]

/-! ### The reference's -/
theorem armor_in {d : List Int} (hd : Bytes d) (hl : d.length ≤ 20000) {c : Nat} (hc : 5 * c < 8 * d.length) : loopO (spec_l2Armor_l2 d ((5 * c : Nat) : Int)) (0, ((5 * c : Nat) : Int)) = some (val d (5 * c) 5) := by
  have : Ok (loopO (spec_l2Armor_l2 d ((5 * c : Nat) : Int)) (0, ((5 * c : Nat) : Int))) fun r => r = val d (5 * c) 5 := by
    refine Ok.loop (fun n s => n ≤ 5 ∧ s.1 = val d (5 * c) (5 - n) ∧ s.2 = ((5 * c + (5 - n) : Nat) : Int)) ?_ (n := 5) ⟨by omega, by simp [val], by simp⟩
    rintro n ⟨v, k⟩ ⟨hn, hv, hk⟩
    dsimp only at hv hk
    subst hv; subst hk
    unfold spec_l2Armor_l2
    dsimp only
    rw [IntWalk.i64_in (((5 * c : Nat) : Int) + 5) (by omega)]
    cases n with
    | zero =>
      rw [show decide (((5 * c + (5 - 0) : Nat) : Int) < ((5 * c : Nat) : Int) + 5) = false from decide_eq_false (by omega)]
      exact Ok.some rfl
    | succ n =>
      rw [show decide (((5 * c + (5 - (n + 1)) : Nat) : Int) < ((5 * c : Nat) : Int) + 5) = true from decide_eq_true (by omega)]
      have hs : val d (5 * c) (5 - n) = val d (5 * c) (5 - (n + 1)) * 2 + bt d (5 * c + (5 - (n + 1))) := by
        rw [show 5 - n = (5 - (n + 1)) + 1 by omega]; rfl
      have hvl := val_lt d (5 * c) (5 - (n + 1))
      have hp : (2 : Int) ^ (5 - (n + 1)) ≤ 2 ^ 5 := by exact_mod_cast Nat.pow_le_pow_right (by decide) (by omega)
      generalize hK : 5 * c + (5 - (n + 1)) = K at hs
      rw [IntWalk.i64_in ((d.length : Int) * 8) (by omega)]
      have fin : ∀ x : Int, x = val d (5 * c) (5 - n) → Ok (spec_l2Armor_j1 (K : Int) x) (fun y => match y with | .inl s' => ∃ m, m < n + 1 ∧ m ≤ 5 ∧ s'.1 = val d (5 * c) (5 - m) ∧ s'.2 = ((5 * c + (5 - m) : Nat) : Int) | .inr r => r = val d (5 * c) 5) := fun x hx => by
        unfold spec_l2Armor_j1
        refine Ok.some ⟨n, by omega, by omega, hx, ?_⟩
        show IntKind.i64.wrap _ = _
        rw [IntWalk.i64_in _ (by omega)]; omega
      dsimp only [cond_true]
      refine Ok.cond (fun h => ?_) (fun h => ?_)
      · have hlt : (K : Int) < (d.length : Int) * 8 := of_decide_eq_true h
        have hq : IntKind.i64.wrap (Int.tdiv (K : Int) 8) = ((K / 8 : Nat) : Int) := by
          rw [IntWalk.i64_quo _ _ ⟨by omega, by omega, by omega⟩]; omega
        have hi : K / 8 < d.length := by omega
        have hg : idx d ((K / 8 : Nat) : Int) = some d[K / 8] := by
          exact idx_get (xs := d) (i := ((K / 8 : Nat) : Int)) (by omega) (by omega)
        rw [hq, hg, Option.bind_some, IntWalk.rem_in _ _ (by omega)]
        have hr : IntKind.u64.wrap (IntKind.i64.wrap (7 - (K : Int) % 8)) = ((7 - K % 8 : Nat) : Int) := by
          rw [IntWalk.i64_in _ (by omega), IntWalk.u64_in _ (by omega)]; omega
        rw [hr, nn_get (by omega), Option.bind_some, minpow rfl (by omega)]
        have hb := hd.get hi
        rw [IntWalk.i64_in d[K / 8] (by omega)]
        have hbt : bt d K = d[K / 8] / 2 ^ (7 - K % 8) % 2 := by
          unfold bt
          rw [if_pos (by omega)]
          simp [List.getD, hi]
        have hpp : (0 : Int) < 2 ^ (7 - K % 8) := Int.pow_pos (by decide)
        rw [Int.fdiv_eq_ediv_of_nonneg _ (by omega)]
        have hx0 : 0 ≤ d[K / 8] / 2 ^ (7 - K % 8) := Int.ediv_nonneg hb.1 (by omega)
        have hx1 : d[K / 8] / 2 ^ (7 - K % 8) ≤ 255 := Int.le_trans (Int.ediv_le_self _ hb.1) hb.2
        have hand := i64_and_mod (d[K / 8] / 2 ^ (7 - K % 8)) 1 (by omega) hx0 (by omega)
        rw [show (2 : Int) ^ 1 - 1 = 1 from rfl, show (2 : Int) ^ 1 = 2 from rfl] at hand
        rw [hand, ← hbt]
        have hb01 := bt_01 d K
        refine Ok.mono (fin _ ?_) (fun r h => by cases r <;> exact h)
        rw [IntWalk.i64_in (val d (5 * c) (5 - (n + 1)) * 2) (by omega), IntWalk.i64_in _ (by omega), hs]
      · have hge : ¬ (K : Int) < (d.length : Int) * 8 := of_decide_eq_false h
        refine Ok.mono (fin _ ?_) (fun r h => by cases r <;> exact h)
        have hz : bt d K = 0 := by unfold bt; rw [if_neg (by omega)]
        rw [IntWalk.i64_in (val d (5 * c) (5 - (n + 1)) * 2) (by omega), hs, hz]
        omega
  obtain ⟨r, e, rfl⟩ := this
  exact e
/-- How many letters. -/
def many (n : Nat) : Nat := (8 * n + 4) / 5
theorem armor_spec {d : List Int} (hd : Bytes d) (hl : d.length ≤ 20000) : spec_l2Armor d = some (byS (lets d (many d.length))) := by
  have : Ok (loopO (spec_l2Armor_l1 d) (([] : List Int), 0)) fun r => r = lets d (many d.length) := by
    refine Ok.loop (fun n s => ∃ c, c + n = many d.length ∧ s.1 = lets d c ∧ s.2 = ((5 * c : Nat) : Int)) ?_ (n := many d.length) ⟨0, by omega, rfl, by simp⟩
    rintro n ⟨l, v⟩ ⟨c, hc, h1, h2⟩
    dsimp only at h1 h2
    subst h1; subst h2
    unfold spec_l2Armor_l1
    dsimp only
    rw [IntWalk.i64_in ((d.length : Int) * 8) (by omega)]
    unfold many at hc
    refine Ok.cond (fun h => ?_) (fun h => ?_)
    · have hlt : ((5 * c : Nat) : Int) < (d.length : Int) * 8 := of_decide_eq_true h
      rw [armor_in hd hl (by omega), Option.bind_some]
      have hv := val_lt d (5 * c) 5
      show Ok ((idxS letB (val d (5 * c) 5)).bind _) _
      rw [letter_idx hv.1 hv.2, Option.bind_some, app_get (by rw [lets_length]; simp; omega), Option.bind_some]
      refine Ok.some ⟨n - 1, by omega, c + 1, by unfold many; omega, (lets_succ d c).symm, ?_⟩
      show IntKind.i64.wrap _ = _
      rw [IntWalk.i64_in _ (by omega)]; omega
    · have hge : ¬ ((5 * c : Nat) : Int) < (d.length : Int) * 8 := of_decide_eq_false h
      refine Ok.some ?_
      rw [show many d.length = c by unfold many; omega]
  unfold spec_l2Armor
  obtain ⟨r, e, rfl⟩ := this
  rw [e]
  rfl
end Go.G36.RV1
