/- Numerals. -/
import Derived.Test.YtnndbiialpaccaaDoorR36e
import Derived.Test.YtnndbiialpaccaaDoorRV1
import Derived.Lib.IndexBytes
import Derived.Lib.AtoiAllCases
namespace Go.G36.RV1
set_option linter.all false
open Go Go.G36 Go.G36.RV

/-- The text of some bytes. -/
def bA (l : List UInt8) : ByteArray := ⟨l.toArray⟩
theorem bA_list (l : List UInt8) : (bA l).data.toList = l := rfl
theorem bA_toList (l : List UInt8) : (bA l).toList = l := by rw [Lib.toList_data]; rfl
theorem bA_size (l : List UInt8) : (bA l).size = l.length := by simp [bA, ByteArray.size]
theorem bA_of (s : ByteArray) : s = bA s.data.toList := by
  apply ByteArray.ext; simp [bA]
theorem bA_app (l m : List UInt8) : bA l ++ bA m = bA (l ++ m) := by
  apply ByteArray.ext
  simp [bA]
theorem bA_inj {l m : List UInt8} (h : bA l = bA m) : l = m := by
  have : (bA l).data.toList = (bA m).data.toList := by rw [h]
  exact this
theorem byS_one (x : Int) : byS [x] = bA [UInt8.ofNat x.toNat] := by
  apply ByteArray.ext; rfl
theorem cat_bA {l m : List UInt8} (h : l.length + m.length ≤ 9223372036854775807) : cat (bA l) (bA m) = some (bA (l ++ m)) := by
  rw [cat_get (by rw [bA_size, bA_size]; exact h), bA_app]
theorem bys_bytes (s : ByteArray) : Bytes (bys s) := fun b hb => by
  simp only [bys, List.mem_map] at hb
  obtain ⟨x, _, rfl⟩ := hb
  have := x.toNat_lt
  omega
theorem idxS_bA {l : List UInt8} {i : Nat} (hi : i < l.length) : idxS (bA l) ((i : Nat) : Int) = some ((l[i].toNat : Nat) : Int) := by
  unfold idxS
  rw [if_pos (by omega), bA_list]
  simp [hi]

theorem decDigits_le : ∀ (n k : Nat), n < 10 ^ k → 1 ≤ k → (Lib.decDigits n).length ≤ k := by
  intro n
  induction n using Nat.strongRecOn with
  | ind n ih =>
    intro k hk h1
    rw [Lib.decDigits]
    split
    · simpa using h1
    · rename_i h
      obtain ⟨j, rfl⟩ : ∃ j, k = j + 1 := ⟨k - 1, by omega⟩
      have hj : 1 ≤ j := by
        rcases Nat.eq_zero_or_pos j with h0 | h0
        · subst h0; simp at hk; omega
        · exact h0
      have := ih (n / 10) (by omega) j (by rw [Nat.pow_succ] at hk; omega) hj
      simp only [List.length_append, List.length_cons, List.length_nil]
      omega
theorem decDigits_pos (n : Nat) : 1 ≤ (Lib.decDigits n).length := by
  rw [Lib.decDigits]
  split <;> simp
theorem digit_nat {x : Nat} (h : x < 10) : (UInt8.ofNat (48 + x)).toNat = 48 + x := by
  rw [UInt8.toNat_ofNat']
  exact Nat.mod_eq_of_lt (by omega)
theorem decDigits_dig : ∀ (n : Nat) (c : UInt8), c ∈ Lib.decDigits n → 48 ≤ c.toNat ∧ c.toNat ≤ 57 := by
  intro n
  induction n using Nat.strongRecOn with
  | ind n ih =>
    intro c hc
    rw [Lib.decDigits] at hc
    split at hc
    · rename_i h
      simp only [List.mem_cons, List.not_mem_nil, or_false] at hc
      subst hc
      rw [digit_nat h]; omega
    · rename_i h
      rcases List.mem_append.1 hc with hc | hc
      · exact ih (n / 10) (by omega) c hc
      · simp only [List.mem_cons, List.not_mem_nil, or_false] at hc
        subst hc
        rw [digit_nat (by omega)]; omega

/-! ### The reference's numerals -/
theorem decDigits_step {n : Nat} (h : ¬ n < 10) : Lib.decDigits n = Lib.decDigits (n / 10) ++ [UInt8.ofNat (48 + n % 10)] := by rw [Lib.decDigits.eq_1 n, dif_neg h]
theorem l1Size_go (n : Nat) : n ≤ 9223372036854775807 → ∀ acc : List UInt8, 0 < n → (acc.length + (Lib.decDigits n).length ≤ 1000) → loopO spec_l1Size_l1 ((n : Int), bA acc) = some (bA (Lib.decDigits n ++ acc)) := by
  induction n using Nat.strongRecOn with
  | ind n ih =>
    intro hn acc h0 hacc
    have st : spec_l1Size_l1 ((n : Int), bA acc) = some (.inl (((n / 10 : Nat) : Int), bA (UInt8.ofNat (48 + n % 10) :: acc))) := by
      unfold spec_l1Size_l1
      dsimp only
      rw [show ((n : Int) != 0) = true by simp; omega, IntWalk.rem_in _ _ (by omega), show decide ((n : Int) % 10 < 0) = false from decide_eq_false (by omega)]
      simp only [cond_true, cond_false]
      unfold spec_l1Size_j1
      rw [IntWalk.i64_in (48 + (n : Int) % 10) (by omega), IntWalk.u8_in _ (by omega), byS_one, show (48 + (n : Int) % 10).toNat = 48 + n % 10 by omega, cat_bA (by simp; omega), Option.bind_some,
        IntWalk.i64_quo _ _ ⟨by omega, by omega, by omega⟩]
      rfl
    rw [loopO_go st]
    by_cases hs : n < 10
    · rw [show n / 10 = 0 by omega]
      have en : spec_l1Size_l1 (((0 : Nat) : Int), bA (UInt8.ofNat (48 + n % 10) :: acc)) = some (.inr (bA (UInt8.ofNat (48 + n % 10) :: acc))) := rfl
      rw [loopO_end en, Lib.decDigits, dif_pos hs, show n % 10 = n by omega]
      rfl
    · have hd := decDigits_step hs
      rw [ih (n / 10) (by omega) (by omega) _ (by omega) (by rw [hd] at hacc; simp at hacc ⊢; omega)]
      rw [hd]
      simp
theorem l1Size_nat {n : Nat} (hn : n ≤ 9223372036854775807) : spec_l1Size (n : Int) = some (bA (Lib.decDigits n)) := by
  unfold spec_l1Size
  by_cases h0 : n = 0
  · subst h0
    rw [show (((0 : Nat) : Int) == 0) = true from rfl, Lib.decDigits, dif_pos (by omega)]
    rfl
  · rw [show ((n : Int) == 0) = false by simp; omega]
    have hlen := decDigits_le n 19 (by omega) (by omega)
    have := l1Size_go n hn [] (by omega) (by simp; omega)
    simp only [cond_false]
    rw [show (ByteArray.mk #[]) = bA [] from rfl, this]
    simp
theorem l1Num_nat {n : Nat} (hn : n ≤ 9223372036854775807) : spec_l1Num (n : Int) = some (bA (Lib.decDigits n)) := by
  unfold spec_l1Num
  rw [show decide ((n : Int) < 0) = false from decide_eq_false (by omega), l1Size_nat hn]
  rfl
theorem itoa_nat {n : Nat} (hn : n ≤ 9223372036854775807) : itoaO (n : Int) = some (bA (Lib.decDigits n)) := by
  unfold itoaO in64
  rw [if_pos (by simp; omega)]
  unfold Lib.itoa
  rw [if_neg (by omega)]
  rfl
/-- Whatever the number is: it answers. -/
theorem l1Num_ok {x : Int} (h0 : -9223372036854775808 ≤ x) (h1 : x ≤ 9223372036854775807) : Ok (spec_l1Num x) fun _ => True := by
  have hsz : Ok (spec_l1Size x) fun s => s.size ≤ 100 := by
    unfold spec_l1Size
    refine Ok.cond (fun _ => Ok.some (by decide)) (fun _ => ?_)
    refine Ok.bind (Ok.loop (P := fun s => s.size ≤ 100) (fun n s => s.1.natAbs < 10 ^ n ∧ s.2.size + n ≤ 100 ∧ s.1.natAbs ≤ 9223372036854775808) ?_ (n := 20) ⟨by show x.natAbs < 10 ^ 20; omega, by show (ByteArray.mk #[]).size + 20 ≤ 100; decide, by show x.natAbs ≤ _; omega⟩) fun r h => Ok.some h
    rintro n ⟨v, acc⟩ ⟨hv, ha, hb⟩
    dsimp only at hv ha hb
    unfold spec_l1Size_l1
    dsimp only
    have fin : ∀ y : Int, v ≠ 0 → Ok (spec_l1Size_j1 v acc y) (fun q => match q with | .inl s' => ∃ m, m < n ∧ s'.1.natAbs < 10 ^ m ∧ s'.2.size + m ≤ 100 ∧ s'.1.natAbs ≤ 9223372036854775808 | .inr r => r.size ≤ 100) := fun y hne => by
      have hn : 0 < n := by
        rcases Nat.eq_zero_or_pos n with h | h
        · subst h; simp at hv; omega
        · exact h
      obtain ⟨m, rfl⟩ : ∃ m, n = m + 1 := ⟨n - 1, by omega⟩
      unfold spec_l1Size_j1
      rw [byS_one]
      have hc : (bA [UInt8.ofNat (IntKind.u8.wrap (IntKind.i64.wrap (48 + y))).toNat]).size = 1 := rfl
      rw [cat_get (by rw [hc]; omega), Option.bind_some]
      rw [Nat.pow_succ] at hv
      have hq : (v.tdiv 10).natAbs = v.natAbs / 10 := Int.natAbs_tdiv v 10
      have hw : IntKind.i64.wrap (v.tdiv 10) = v.tdiv 10 := IntWalk.i64_in _ (by omega)
      rw [hw]
      refine Ok.some ⟨m, by omega, by omega, ?_, by omega⟩
      show (bA _ ++ acc).size + m ≤ 100
      rw [ByteArray.size_append, hc]; omega
    refine Ok.cond (fun h => ?_) (fun _ => Ok.some (by dsimp only; omega))
    have hne : v ≠ 0 := by simpa using h
    exact Ok.cond (fun _ => Ok.mono (fin _ hne) (fun r h => by cases r <;> exact h)) (fun _ => Ok.mono (fin _ hne) (fun r h => by cases r <;> exact h))
  unfold spec_l1Num
  refine Ok.cond (fun _ => ?_) (fun _ => ?_)
  · refine Ok.bind hsz ?_
    intro r hr
    rw [cat_get (by have : (ByteArray.mk #[45]).size = 1 := rfl; omega)]
    exact Ok.some trivial
  · exact Ok.bind hsz fun r _ => Ok.some trivial

/-! ### Numerals that are read -/
theorem parse_app (a : Nat) (l m : List UInt8) : Lib.parseUint10 a (l ++ m) = match Lib.parseUint10 a l with | .ok b => Lib.parseUint10 b m | e => e := by
  induction l generalizing a with
  | nil => rfl
  | cons c r ih =>
    simp only [List.cons_append, Lib.parseUint10]
    split
    · split
      · rfl
      · split
        · rfl
        · exact ih _
    · rfl
theorem parse_dec : ∀ n : Nat, n ≤ 100000000 → Lib.parseUint10 0 (Lib.decDigits n) = .ok n := by
  intro n
  induction n using Nat.strongRecOn with
  | ind n ih =>
    intro hn
    by_cases hs : n < 10
    · rw [Lib.decDigits, dif_pos hs]
      simp only [Lib.parseUint10, digit_nat hs]
      rw [if_pos ⟨by omega, by omega⟩, if_neg (by omega), if_neg (by omega)]
      congr 1; omega
    · rw [decDigits_step hs, parse_app, ih (n / 10) (by omega) (by omega)]
      simp only [Lib.parseUint10, digit_nat (show n % 10 < 10 by omega)]
      rw [if_pos ⟨by omega, by omega⟩, if_neg (by omega), if_neg (by omega)]
      congr 1; omega
theorem whole_dec {n : Nat} (hn : n ≤ 100000000) : wholeR (bA (Lib.decDigits n)) = ((n : Int), true) := by
  have h : Lib.atoiAll (bA (Lib.decDigits n)).data.toList = .ok (n : Int) := by
    rw [bA_list]
    have hpos := decDigits_pos n
    have hp := parse_dec n hn
    cases hd : Lib.decDigits n with
    | nil => rw [hd] at hpos; simp at hpos
    | cons c r =>
      have hc := decDigits_dig n c (by rw [hd]; simp)
      unfold Lib.atoiAll
      dsimp only
      rw [if_neg (by omega), ← hd]
      have hm : Lib.parseMag (Lib.decDigits n) = .ok n := by
        unfold Lib.parseMag
        rw [if_neg (by rw [hd]; simp), hp]
      rw [hm]
      dsimp only
      rw [if_neg (by omega), if_neg (by omega), if_neg (by omega)]
  unfold wholeR
  rw [h, bA_toList]
  simp [Lib.itoa]
/-- What digits spell. -/
def dv (l : List UInt8) : Nat := l.foldl (fun a c => a * 10 + (c.toNat - 48)) 0
theorem dv_app (l : List UInt8) (c : UInt8) : dv (l ++ [c]) = dv l * 10 + (c.toNat - 48) := by simp [dv]
theorem dv_dec : ∀ n : Nat, dv (Lib.decDigits n) = n := by
  intro n
  induction n using Nat.strongRecOn with
  | ind n ih =>
    by_cases hs : n < 10
    · rw [Lib.decDigits, dif_pos hs]
      show 0 * 10 + ((UInt8.ofNat (48 + n)).toNat - 48) = n
      rw [digit_nat hs]; omega
    · rw [decDigits_step hs, dv_app, ih (n / 10) (by omega), digit_nat (show n % 10 < 10 by omega)]
      omega
theorem dec_inj {n m : Nat} (h : Lib.decDigits n = Lib.decDigits m) : n = m := by rw [← dv_dec n, ← dv_dec m, h]
theorem dv_lt : ∀ (l : List UInt8) (k : Nat), (∀ c, c ∈ l → 48 ≤ c.toNat ∧ c.toNat ≤ 57) → dv l < 10 ^ l.length := by
  intro l k hl
  have key : ∀ (l : List UInt8) (a : Nat), (∀ c, c ∈ l → 48 ≤ c.toNat ∧ c.toNat ≤ 57) → l.foldl (fun a c => a * 10 + (c.toNat - 48)) a + 1 ≤ (a + 1) * 10 ^ l.length := by
    intro l
    induction l with
    | nil => intro a _; simp
    | cons c r ih =>
      intro a h
      have hc := h c (by simp)
      have := ih (a * 10 + (c.toNat - 48)) fun x hx => h x (by simp [hx])
      rw [List.foldl_cons, List.length_cons, Nat.pow_succ]
      refine Nat.le_trans this ?_
      rw [show (a + 1) * (10 ^ r.length * 10) = ((a + 1) * 10) * 10 ^ r.length by rw [Nat.mul_comm (10 ^ r.length) 10, Nat.mul_assoc]]
      exact Nat.mul_le_mul_right _ (by omega)
  have := key l 0 hl
  simp at this
  exact this
end Go.G36.RV1
