/- The digest: the program's and the reference's are the same. -/
import Derived.Test.YtgfpdlebnbpcfabDoorSPa
import Derived.Test.YtgfpdlebnbpcfabDoorSX
import Derived.Lib.IndexBytes
import Derived.Lib.AtoiAllCases
namespace Go.G36.SX
set_option linter.all false
open Go Go.G36 Go.Proofs Go.G36.SL

def Bytes (l : List Int) : Prop := ∀ b, b ∈ l → 0 ≤ b ∧ b ≤ 255
theorem Bytes.app {l m : List Int} (h : Bytes l) (k : Bytes m) : Bytes (l ++ m) := fun b hb => by
  rcases List.mem_append.1 hb with hb | hb
  · exact h b hb
  · exact k b hb
theorem Bytes.take {l : List Int} (h : Bytes l) (n : Nat) : Bytes (l.take n) := fun b hb => h b (List.mem_of_mem_take hb)
theorem Bytes.drop {l : List Int} (h : Bytes l) (n : Nat) : Bytes (l.drop n) := fun b hb => h b (List.mem_of_mem_drop hb)
theorem Bytes.get {l : List Int} (h : Bytes l) {i : Nat} (hi : i < l.length) : 0 ≤ l[i] ∧ l[i] ≤ 255 := h _ (List.getElem_mem hi)
theorem Bytes.nil : Bytes [] := fun b hb => by cases hb

/-- The four numbers. -/
def W4 (b : List Int) : Prop := b.length = 4 ∧ ∀ x, x ∈ b → 0 ≤ x ∧ x < 2147483579
theorem W4.get {b : List Int} (h : W4 b) {i : Nat} (hi : i < b.length) : 0 ≤ b[i] ∧ b[i] < 2147483579 := h.2 _ (List.getElem_mem hi)

abbrev mults : List Int := [1103515245, 69069, 1664525, 22695477]
theorem mults_get {i : Nat} (hi : i < mults.length) : 0 ≤ mults[i] ∧ mults[i] ≤ 1103515245 := by
  have : ∀ x, x ∈ mults → 0 ≤ x ∧ x ≤ 1103515245 := by decide
  exact this _ (List.getElem_mem hi)
theorem mul_small {a b : Int} (h1 : 0 ≤ a) (h2 : a < 2147483579) (h3 : 0 ≤ b) (h4 : b ≤ 1103515245) : 0 ≤ a * b ∧ a * b ≤ 2147483579 * 1103515245 := by
  refine ⟨Int.mul_nonneg h1 h3, Int.mul_le_mul (by omega) h4 h3 (by decide)⟩

theorem mix_eq {x : Int} (h0 : 0 ≤ x) (h1 : x ≤ 255) {b : List Int} (hb : W4 b) : Ok2 (impl_Digest_1 x b mults) (spec_l2Mixx (IntKind.i64.wrap x) b) fun r r' => r = r' ∧ W4 r := by
  unfold impl_Digest_1 spec_l2Mixx
  refine Ok2.bind (Ok2.loop (P := fun r r' => r = r' ∧ W4 r) (fun n s s' => s = s' ∧ n ≤ 4 ∧ s.2 = 4 - (n : Int) ∧ W4 s.1) ?_ (n := 4) ⟨rfl, by omega, by simp, hb⟩) fun r r' h => Ok2.some h
  rintro n ⟨b, v⟩ s' ⟨rfl, hn, hv, hb⟩
  dsimp only at hv
  replace hb : W4 b := hb
  subst hv
  unfold impl_Digest_1_l1 spec_l2Mixx_l1
  dsimp only
  cases n with
  | zero =>
    rw [show decide (4 - ((0 : Nat) : Int) < 4) = false from decide_eq_false (by omega)]
    exact Ok2.some ⟨rfl, hb⟩
  | succ n =>
    rw [show decide (4 - ((n + 1 : Nat) : Int) < 4) = true from decide_eq_true (by omega)]
    have hl := hb.1
    have hi : (4 - ((n + 1 : Nat) : Int)).toNat < b.length := by omega
    have him : (4 - ((n + 1 : Nat) : Int)).toNat < mults.length := by show _ < 4; omega
    have h4 : 0 ≤ 4 - ((n + 1 : Nat) : Int) := by omega
    have hw : IntKind.i64.wrap (4 - ((n + 1 : Nat) : Int) + 1) = 4 - ((n + 1 : Nat) : Int) + 1 := IntWalk.i64_in _ (by omega)
    have hj0 : 0 ≤ Int.tmod (IntKind.i64.wrap (4 - ((n + 1 : Nat) : Int) + 1)) 4 := by
      rw [hw]; exact Int.tmod_nonneg _ (by omega)
    have hj1 : (Int.tmod (IntKind.i64.wrap (4 - ((n + 1 : Nat) : Int) + 1)) 4).toNat < b.length := by
      have := Int.tmod_lt_of_pos (IntKind.i64.wrap (4 - ((n + 1 : Nat) : Int) + 1)) (b := 4) (by omega)
      omega
    simp only [cond_true, ixA_get hl h4 hi, ixA_get (n := 4) (xs := mults) rfl h4 him, ixA_get hl hj0 hj1, idx_get h4 hi, idx_get h4 him, idx_get hj0 hj1, Option.bind_some]
    refine Ok2.some ?_
    refine ⟨n, by omega, ?_, by omega, ?_, ?_⟩
    · rw [show IntKind.i64.wrap x = x from IntWalk.i64_in _ (by omega)]
    · show IntKind.i64.wrap _ = _
      rw [IntWalk.i64_in _ (by omega)]; omega
    · refine ⟨by simp [hl], fun y hy => ?_⟩
      rcases List.mem_or_eq_of_mem_set hy with h | h
      · exact hb.2 y h
      · subst h
        have g1 := hb.get hi
        have g2 := mults_get him
        have g3 := hb.get hj1
        have g4 := mul_small g1.1 g1.2 g2.1 g2.2
        generalize b[(4 - ((n + 1 : Nat) : Int)).toNat] * mults[(4 - ((n + 1 : Nat) : Int)).toNat] = p at g4
        generalize b[(Int.tmod (IntKind.i64.wrap (4 - ((n + 1 : Nat) : Int) + 1)) 4).toNat] = q at g3
        rw [IntWalk.i64_in x (by omega), IntWalk.i64_in p (by omega), IntWalk.i64_in (p + x) (by omega), IntWalk.i64_in (p + x + 1) (by omega), IntWalk.i64_in (p + x + 1 + q) (by omega)]
        exact ⟨Int.tmod_nonneg _ (by omega), Int.tmod_lt_of_pos _ (by omega)⟩

/-- A number's four bytes. -/
def four (e : Int) : List Int := [e % 256, e / 256 % 256, e / 65536 % 256, e / 16777216 % 256]
theorem four_bytes (e : Int) : Bytes (four e) := fun b hb => by
  simp only [four, List.mem_cons, List.not_mem_nil, or_false] at hb
  omega
theorem ybytes_eq {e : Int} (h0 : 0 ≤ e) : impl_ybytes e = some (four e) := by
  unfold impl_ybytes four
  simp only [IntKind.wrap_u8]
  have h8 : (2 : Int) ^ (min (Int.toNat 8) IntKind.i64.bits) = 256 := rfl
  have h16 : (2 : Int) ^ (min (Int.toNat 16) IntKind.i64.bits) = 65536 := rfl
  have h24 : (2 : Int) ^ (min (Int.toNat 24) IntKind.i64.bits) = 16777216 := rfl
  rw [h8, h16, h24, Int.fdiv_eq_ediv_of_nonneg _ (by decide), Int.fdiv_eq_ediv_of_nonneg _ (by decide), Int.fdiv_eq_ediv_of_nonneg _ (by decide)]
theorem l2Bytes_eq {e : Int} (h0 : 0 ≤ e) (h1 : e ≤ 9223372036854775807) : spec_l2Bytes e = some (four e) := by
  unfold spec_l2Bytes
  have hm : mk (0 : Int) 4 = some [0, 0, 0, 0] := rfl
  rw [hm, Option.bind_some]
  have st : ∀ (l : List Int) (v i : Int), l.length = 4 → 0 ≤ v → v ≤ 9223372036854775807 → 0 ≤ i → i < 4 → spec_l2Bytes_l1 [0, 0, 0, 0] (l, v, i) = some (.inl (l.set i.toNat (v % 256), v / 256, i + 1)) := fun l v i hl hv hv1 hi hi1 => by
    unfold spec_l2Bytes_l1
    dsimp only
    rw [show decide (i < (([0, 0, 0, 0] : List Int).length : Int)) = true from decide_eq_true (by simpa using hi1)]
    simp only [cond_true, idx_get hi (show i.toNat < l.length by omega), Option.bind_some]
    rw [IntWalk.rem_in _ _ hv, IntKind.wrap_u8, IntWalk.i64_quo _ _ ⟨hv, hv1, by omega⟩, IntWalk.i64_in _ (by omega)]
    rw [show v % 256 % 256 = v % 256 by omega]
  have en : ∀ (l : List Int) (v : Int), spec_l2Bytes_l1 [0, 0, 0, 0] (l, v, 4) = some (.inr l) := fun l v => rfl
  rw [loopO_go (st _ _ _ rfl h0 h1 (by omega) (by omega))]
  rw [loopO_go (st _ _ _ rfl (by omega) (by omega) (by omega) (by omega))]
  rw [loopO_go (st _ _ _ rfl (by omega) (by omega) (by omega) (by omega))]
  rw [loopO_go (st _ _ _ rfl (by omega) (by omega) (by omega) (by omega))]
  rw [show (0 : Int) + 1 + 1 + 1 + 1 = 4 from rfl, loopO_end (en _ _)]
  show some _ = some _
  unfold four
  congr 1
  show [e % 256, e / 256 % 256, e / 256 / 256 % 256, e / 256 / 256 / 256 % 256] = _
  rw [show e / 256 / 256 = e / 65536 by omega, show e / 65536 / 256 = e / 16777216 by omega]

theorem eat_eq {r : List Int} (hr : Bytes r) (hlen : r.length ≤ 1000000000) {b : List Int} (hb : W4 b) : Ok2 (loopO (impl_Digest_l1 r) (b, 0)) (loopO (spec_l2Digest_l1 r) (b, 0)) fun x y => x = y ∧ W4 x := by
  refine Ok2.loop (fun n s s' => s = s' ∧ n ≤ r.length ∧ s.2 = (r.length : Int) - (n : Int) ∧ W4 s.1) ?_ (n := r.length) ⟨rfl, by omega, by simp, hb⟩
  rintro n ⟨b, v⟩ s' ⟨rfl, hn, hv, hb⟩
  dsimp only at hv
  replace hb : W4 b := hb
  subst hv
  unfold impl_Digest_l1 spec_l2Digest_l1
  dsimp only
  cases n with
  | zero =>
    rw [show decide ((r.length : Int) - ((0 : Nat) : Int) < (r.length : Int)) = false from decide_eq_false (by omega)]
    exact Ok2.some ⟨rfl, hb⟩
  | succ n =>
    rw [show decide ((r.length : Int) - ((n + 1 : Nat) : Int) < (r.length : Int)) = true from decide_eq_true (by omega)]
    have hi : ((r.length : Int) - ((n + 1 : Nat) : Int)).toNat < r.length := by omega
    simp only [cond_true, idx_get (show 0 ≤ (r.length : Int) - ((n + 1 : Nat) : Int) by omega) hi, Option.bind_some]
    have g := hr.get hi
    refine Ok2.bind (mix_eq g.1 g.2 hb) ?_
    rintro x y ⟨rfl, hx⟩
    have hle : lenEq x b = some () := by unfold lenEq; rw [if_pos (by rw [hx.1, hb.1])]
    rw [hle]
    refine Ok2.some ⟨n, by omega, rfl, by omega, ?_, hx⟩
    show IntKind.i64.wrap _ = _
    rw [IntWalk.i64_in _ (by omega)]; omega
theorem eat2_eq {r : List Int} (hr : Bytes r) (hlen : r.length ≤ 1000000000) {b : List Int} (hb : W4 b) : Ok2 (loopO (impl_Digest_l2 r) (b, 0)) (loopO (spec_l2Digest_l2 r) (b, 0)) fun x y => x = y ∧ W4 x := eat_eq hr hlen hb
theorem eat3_eq {b : List Int} (hb : W4 b) : Ok2 (loopO impl_Digest_l3 (b, 0)) (loopO spec_l2Digest_l3 (b, 0)) fun x y => x = y ∧ W4 x := by
  refine Ok2.loop (fun n s s' => s = s' ∧ n ≤ 8 ∧ s.2 = 8 - (n : Int) ∧ W4 s.1) ?_ (n := 8) ⟨rfl, by omega, by simp, hb⟩
  rintro n ⟨b, v⟩ s' ⟨rfl, hn, hv, hb⟩
  dsimp only at hv
  replace hb : W4 b := hb
  subst hv
  unfold impl_Digest_l3 spec_l2Digest_l3
  dsimp only
  cases n with
  | zero =>
    rw [show decide (8 - ((0 : Nat) : Int) < 8) = false from decide_eq_false (by omega)]
    exact Ok2.some ⟨rfl, hb⟩
  | succ n =>
    rw [show decide (8 - ((n + 1 : Nat) : Int) < 8) = true from decide_eq_true (by omega)]
    simp only [cond_true]
    refine Ok2.bind (mix_eq (x := 0) (by omega) (by omega) hb) ?_
    rintro x y ⟨rfl, hx⟩
    have hle : lenEq x b = some () := by unfold lenEq; rw [if_pos (by rw [hx.1, hb.1])]
    rw [hle]
    refine Ok2.some ⟨n, by omega, rfl, by omega, ?_, hx⟩
    show IntKind.i64.wrap _ = _
    rw [IntWalk.i64_in _ (by omega)]; omega
theorem out_eq {b : List Int} (hb : W4 b) : Ok2 (loopO (impl_Digest_l4 b) ([], 0)) (loopO (spec_l2Digest_l4 b) ([], 0)) fun x y => x = y ∧ x.length = 16 ∧ Bytes x := by
  refine Ok2.loop (fun n s s' => s = s' ∧ n ≤ 4 ∧ s.2 = 4 - (n : Int) ∧ s.1.length = 4 * (4 - n) ∧ Bytes s.1) ?_ (n := 4) ⟨rfl, by omega, by simp, rfl, Bytes.nil⟩
  rintro n ⟨l, v⟩ s' ⟨rfl, hn, hv, hl, hbl⟩
  dsimp only at hv hl hbl
  subst hv
  unfold impl_Digest_l4 spec_l2Digest_l4
  dsimp only
  have h4 := hb.1
  rw [h4]
  cases n with
  | zero =>
    rw [show decide (4 - ((0 : Nat) : Int) < 4) = false from decide_eq_false (by omega), show decide (4 - ((0 : Nat) : Int) < ((4 : Nat) : Int)) = false from decide_eq_false (by omega)]
    exact Ok2.some ⟨rfl, by omega, hbl⟩
  | succ n =>
    rw [show decide (4 - ((n + 1 : Nat) : Int) < 4) = true from decide_eq_true (by omega), show decide (4 - ((n + 1 : Nat) : Int) < ((4 : Nat) : Int)) = true from decide_eq_true (by omega)]
    have hi : (4 - ((n + 1 : Nat) : Int)).toNat < b.length := by omega
    have h0 : 0 ≤ 4 - ((n + 1 : Nat) : Int) := by omega
    have g := hb.get hi
    simp only [cond_true, ixA_get h4 h0 hi, idx_get h0 hi, Option.bind_some, ybytes_eq g.1, l2Bytes_eq g.1 (by omega)]
    have ha : app l (four b[(4 - ((n + 1 : Nat) : Int)).toNat]) = some (l ++ four b[(4 - ((n + 1 : Nat) : Int)).toNat]) := app_get (by show l.length + 4 ≤ _; omega)
    rw [ha, Option.bind_some]
    refine Ok2.some ⟨n, by omega, rfl, by omega, ?_, ?_, hbl.app (four_bytes _)⟩
    · show IntKind.i64.wrap _ = _
      rw [IntWalk.i64_in _ (by omega)]; omega
    · show (l ++ four _).length = _
      rw [List.length_append]; show l.length + 4 = _; omega

theorem digest_eq {a : List Int} (ha : Bytes a) (hl : a.length ≤ 20000) : Ok2 (impl_Digest a) (spec_l2Digest a) fun x y => x = y ∧ x.length = 16 ∧ Bytes x := by
  unfold impl_Digest spec_l2Digest
  rw [show decide ((a.length : Int) > 20000) = false from decide_eq_false (by omega)]
  simp only [cond_false]
  refine Ok2.bind (eat_eq ha (by omega) (b := [11, 22, 33, 44]) ⟨rfl, by decide⟩) ?_
  rintro x y ⟨rfl, hx⟩
  try dsimp only
  rw [ybytes_eq (by omega), l2Bytes_eq (by omega) (by omega), Option.bind_some, Option.bind_some]
  refine Ok2.bind (eat2_eq (four_bytes _) (show 4 ≤ 1000000000 by decide) hx) ?_
  rintro x2 y2 ⟨rfl, hx2⟩
  try dsimp only
  refine Ok2.bind (eat3_eq hx2) ?_
  rintro x3 y3 ⟨rfl, hx3⟩
  try dsimp only
  have h4 : lenN 4 x3 = some () := by unfold lenN; rw [if_pos hx3.1]
  rw [h4, Option.bind_some]
  refine Ok2.bind (out_eq hx3) ?_
  rintro x4 y4 h
  exact Ok2.some h
theorem mac_eq {k a : List Int} (hk : Bytes k) (hkl : k.length ≤ 20000) (ha : Bytes a) (hl : a.length ≤ 20000) : Ok2 (impl_Mac k a) (spec_l2Mac k a) fun x y => x = y ∧ x.length = 16 ∧ Bytes x := by
  unfold impl_Mac spec_l2Mac
  rw [show decide ((k.length : Int) > 20000) = false from decide_eq_false (by omega), show decide ((a.length : Int) > 20000) = false from decide_eq_false (by omega)]
  simp only [Bool.or_self, cond_false]
  refine Ok2.bind (digest_eq hk hkl) ?_
  rintro x y ⟨rfl, hx, hxb⟩
  refine Ok2.bind (digest_eq ha hl) ?_
  rintro x2 y2 ⟨rfl, hx2, hxb2⟩
  unfold spec_l2Two
  rw [app_get (by omega), app_get (by simp; omega), Option.bind_some, Option.bind_some, app_get (by simp; omega), Option.bind_some, List.nil_append]
  have := digest_eq (hxb.app hxb2) (by simp; omega)
  obtain ⟨r, r', e, e', h⟩ := this
  rw [e, e']
  exact Ok2.some h
end Go.G36.SX
/- Armor: the program's and the reference's are the same. -/
namespace Go.G36.SX
set_option linter.all false
open Go Go.G36 Go.Proofs Go.G36.SL

/-! ### The bits of some bytes -/
def bt (d : List Int) (k : Nat) : Int := if k < 8 * d.length then d.getD (k / 8) 0 / 2 ^ (7 - k % 8) % 2 else 0
def val (d : List Int) (k : Nat) : Nat → Int
  | 0 => 0
  | m + 1 => val d k m * 2 + bt d (k + m)
theorem bt_01 (d : List Int) (k : Nat) : 0 ≤ bt d k ∧ bt d k ≤ 1 := by
  unfold bt
  split
  · omega
  · omega
theorem val_lt (d : List Int) (k : Nat) : ∀ m, 0 ≤ val d k m ∧ val d k m < 2 ^ m
  | 0 => by simp [val]
  | m + 1 => by
    have h1 := val_lt d k m
    have h2 := bt_01 d (k + m)
    simp only [val, Int.pow_succ]
    omega
theorem val_add (d : List Int) (k m : Nat) : ∀ r, val d k (m + r) = val d k m * 2 ^ r + val d (k + m) r
  | 0 => by simp [val]
  | r + 1 => by
    show val d k (m + r) * 2 + bt d (k + (m + r)) = _
    rw [val_add d k m r]
    simp only [val, Int.pow_succ]
    rw [Int.add_mul, Int.mul_assoc, Nat.add_assoc]
    omega
theorem val_zero {d : List Int} {k : Nat} (h : 8 * d.length ≤ k) : ∀ m, val d k m = 0
  | 0 => rfl
  | m + 1 => by
    simp only [val, val_zero h m]
    unfold bt
    rw [if_neg (by omega)]
    rfl
theorem val_div (d : List Int) (k m r : Nat) : val d k (m + r) / 2 ^ r = val d k m := by
  have h1 := val_lt d (k + m) r
  rw [val_add, Int.add_comm, Int.add_mul_ediv_right _ _ (by have : (0 : Int) < 2 ^ r := Int.pow_pos (by decide); omega), Int.ediv_eq_zero_of_lt h1.1 h1.2]
  omega
theorem val_mod (d : List Int) (k m r : Nat) : val d k (m + r) % 2 ^ r = val d (k + m) r := by
  have h1 := val_lt d (k + m) r
  rw [val_add, Int.add_comm, Int.add_mul_emod_self_right, Int.emod_eq_of_lt h1.1 h1.2]
theorem val_byte {d : List Int} (hd : Bytes d) {i : Nat} (hi : i < d.length) : val d (8 * i) 8 = d[i] := by
  have hb := hd.get hi
  have e : ∀ j, j < 8 → bt d (8 * i + j) = d[i] / 2 ^ (7 - j) % 2 := fun j hj => by
    unfold bt
    rw [if_pos (by omega), show (8 * i + j) / 8 = i by omega, show (8 * i + j) % 8 = j by omega]
    simp [List.getD, hi]
  simp only [val]
  rw [e 0 (by omega), e 1 (by omega), e 2 (by omega), e 3 (by omega), e 4 (by omega), e 5 (by omega), e 6 (by omega), e 7 (by omega)]
  generalize d[i] = x at hb
  simp only [Nat.sub_zero, Nat.sub_self, show 7 - 1 = 6 from rfl, show 7 - 2 = 5 from rfl, show 7 - 3 = 4 from rfl, show 7 - 4 = 3 from rfl, show 7 - 5 = 2 from rfl, show 7 - 6 = 1 from rfl,
    show (2 : Int) ^ 7 = 128 from rfl, show (2 : Int) ^ 6 = 64 from rfl, show (2 : Int) ^ 5 = 32 from rfl, show (2 : Int) ^ 4 = 16 from rfl, show (2 : Int) ^ 3 = 8 from rfl, show (2 : Int) ^ 2 = 4 from rfl, show (2 : Int) ^ 1 = 2 from rfl, show (2 : Int) ^ 0 = 1 from rfl]
  omega

/-! ### Letters -/
abbrev letB : ByteArray := ByteArray.mk #[48, 49, 50, 51, 52, 53, 54, 55, 56, 57, 97, 98, 99, 100, 101, 102, 103, 104, 105, 106, 107, 108, 109, 110, 111, 112, 113, 114, 115, 116, 117, 118]
def letter (x : Int) : Int := if x < 10 then 48 + x else 87 + x
theorem letter_fin : ∀ x : _root_.Fin 32, idxS letB (x.val : Int) = some (letter (x.val : Int)) := by decide +kernel
theorem letter_idx {x : Int} (h0 : 0 ≤ x) (h1 : x < 32) : idxS letB x = some (letter x) := by
  have := letter_fin ⟨x.toNat, by omega⟩
  simpa [Int.toNat_of_nonneg h0] using this
theorem letter_byte {x : Int} (h0 : 0 ≤ x) (h1 : x < 32) : 0 ≤ letter x ∧ letter x ≤ 255 := by
  unfold letter; split <;> omega
/-- The first c letters. -/
def lets (d : List Int) (c : Nat) : List Int := (List.range c).map fun j => letter (val d (5 * j) 5)
theorem lets_succ (d : List Int) (c : Nat) : lets d (c + 1) = lets d c ++ [letter (val d (5 * c) 5)] := by
  simp [lets, List.range_succ]
theorem lets_length (d : List Int) (c : Nat) : (lets d c).length = c := by simp [lets]
theorem lets_bytes (d : List Int) (c : Nat) : Bytes (lets d c) := fun b hb => by
  simp only [lets, List.mem_map] at hb
  obtain ⟨j, _, rfl⟩ := hb
  have := val_lt d (5 * j) 5
  exact letter_byte this.1 this.2

theorem i64_or_add {v x : Int} (h0 : 0 ≤ v) (h1 : v ≤ 1000000000000) (g0 : 0 ≤ x) (g1 : x ≤ 255) : IntKind.i64.wrap ((BitVec.ofInt IntKind.i64.bits (v * 256) ||| BitVec.ofInt IntKind.i64.bits x).toNat : Int) = v * 256 + x := by
  obtain ⟨n, rfl⟩ := Int.eq_ofNat_of_zero_le h0
  obtain ⟨m, rfl⟩ := Int.eq_ofNat_of_zero_le g0
  have e1 : (BitVec.ofInt IntKind.i64.bits ((n : Int) * 256)).toNat = n * 256 := by
    rw [show (n : Int) * 256 = ((n * 256 : Nat) : Int) by simp, BitVec.ofInt_natCast, BitVec.toNat_ofNat]
    exact Nat.mod_eq_of_lt (by show n * 256 < 2 ^ 64; omega)
  have e2 : (BitVec.ofInt IntKind.i64.bits (m : Int)).toNat = m := by
    rw [BitVec.ofInt_natCast, BitVec.toNat_ofNat]
    exact Nat.mod_eq_of_lt (by show m < 2 ^ 64; omega)
  rw [BitVec.toNat_or, e1, e2]
  have e3 : n * 256 ||| m = n * 256 + m := by
    have := Nat.two_pow_add_eq_or_of_lt (i := 8) (b := m) (by omega) n
    rw [show n * 256 = 2 ^ 8 * n by omega]
    exact this.symm
  rw [e3, IntWalk.i64_in _ (by omega)]
  omega
theorem minpow {x : Int} {k : Nat} (h : x = (k : Int)) (hk : k ≤ 60) : (2 : Int) ^ (min (Int.toNat x) IntKind.i64.bits) = 2 ^ k := by
  subst h
  rw [Int.toNat_natCast, Nat.min_eq_left (by show k ≤ 64; omega)]

/-! ### The reference's -/
theorem armor_in {d : List Int} (hd : Bytes d) (hl : d.length ≤ 20000) {c : Nat} (hc : 5 * c < 8 * d.length) : loopO (spec_l2Armor_l2 d ((5 * c : Nat) : Int)) (0, ((5 * c : Nat) : Int)) = some (val d (5 * c) 5) := by
  have : Ok (loopO (spec_l2Armor_l2 d ((5 * c : Nat) : Int)) (0, ((5 * c : Nat) : Int))) fun r => r = val d (5 * c) 5 := by
    refine Ok.loop (fun n s => n ≤ 5 ∧ s.1 = val d (5 * c) (5 - n) ∧ s.2 = ((5 * c + (5 - n) : Nat) : Int)) ?_ (n := 5) ⟨by omega, by simp [val], by simp⟩
    rintro n ⟨v, k⟩ ⟨hn, hv, hk⟩
    dsimp only at hv hk
    subst hv; subst hk
    unfold spec_l2Armor_l2
    dsimp only
    rw [IntWalk.i64_in (((5 * c : Nat) : Int) + 5) (by omega)]
    cases n with
    | zero =>
      rw [show decide (((5 * c + (5 - 0) : Nat) : Int) < ((5 * c : Nat) : Int) + 5) = false from decide_eq_false (by omega)]
      exact Ok.some rfl
    | succ n =>
      rw [show decide (((5 * c + (5 - (n + 1)) : Nat) : Int) < ((5 * c : Nat) : Int) + 5) = true from decide_eq_true (by omega)]
      have hs : val d (5 * c) (5 - n) = val d (5 * c) (5 - (n + 1)) * 2 + bt d (5 * c + (5 - (n + 1))) := by
        rw [show 5 - n = (5 - (n + 1)) + 1 by omega]; rfl
      have hvl := val_lt d (5 * c) (5 - (n + 1))
      have hp : (2 : Int) ^ (5 - (n + 1)) ≤ 2 ^ 5 := by exact_mod_cast Nat.pow_le_pow_right (by decide) (by omega)
      generalize hK : 5 * c + (5 - (n + 1)) = K at hs
      rw [IntWalk.i64_in ((d.length : Int) * 8) (by omega)]
      have fin : ∀ x : Int, x = val d (5 * c) (5 - n) → Ok (spec_l2Armor_j1 (K : Int) x) (fun y => match y with | .inl s' => ∃ m, m < n + 1 ∧ m ≤ 5 ∧ s'.1 = val d (5 * c) (5 - m) ∧ s'.2 = ((5 * c + (5 - m) : Nat) : Int) | .inr r => r = val d (5 * c) 5) := fun x hx => by
        unfold spec_l2Armor_j1
        refine Ok.some ⟨n, by omega, by omega, hx, ?_⟩
        show IntKind.i64.wrap _ = _
        rw [IntWalk.i64_in _ (by omega)]; omega
      dsimp only [cond_true]
      refine Ok.cond (fun h => ?_) (fun h => ?_)
      · have hlt : (K : Int) < (d.length : Int) * 8 := of_decide_eq_true h
        have hq : IntKind.i64.wrap (Int.tdiv (K : Int) 8) = ((K / 8 : Nat) : Int) := by
          rw [IntWalk.i64_quo _ _ ⟨by omega, by omega, by omega⟩]; omega
        have hi : K / 8 < d.length := by omega
        have hg : idx d ((K / 8 : Nat) : Int) = some d[K / 8] := by
          exact idx_get (xs := d) (i := ((K / 8 : Nat) : Int)) (by omega) (by omega)
        rw [hq, hg, Option.bind_some, IntWalk.rem_in _ _ (by omega)]
        have hr : IntKind.u64.wrap (IntKind.i64.wrap (7 - (K : Int) % 8)) = ((7 - K % 8 : Nat) : Int) := by
          rw [IntWalk.i64_in _ (by omega), IntWalk.u64_in _ (by omega)]; omega
        rw [hr, nn_get (by omega), Option.bind_some, minpow rfl (by omega)]
        have hb := hd.get hi
        rw [IntWalk.i64_in d[K / 8] (by omega)]
        have hbt : bt d K = d[K / 8] / 2 ^ (7 - K % 8) % 2 := by
          unfold bt
          rw [if_pos (by omega)]
          simp [List.getD, hi]
        have hpp : (0 : Int) < 2 ^ (7 - K % 8) := Int.pow_pos (by decide)
        rw [Int.fdiv_eq_ediv_of_nonneg _ (by omega)]
        have hx0 : 0 ≤ d[K / 8] / 2 ^ (7 - K % 8) := Int.ediv_nonneg hb.1 (by omega)
        have hx1 : d[K / 8] / 2 ^ (7 - K % 8) ≤ 255 := Int.le_trans (Int.ediv_le_self _ hb.1) hb.2
        have hand := i64_and_mod (d[K / 8] / 2 ^ (7 - K % 8)) 1 (by omega) hx0 (by omega)
        rw [show (2 : Int) ^ 1 - 1 = 1 from rfl, show (2 : Int) ^ 1 = 2 from rfl] at hand
        rw [hand, ← hbt]
        have hb01 := bt_01 d K
        refine Ok.mono (fin _ ?_) (fun r h => by cases r <;> exact h)
        rw [IntWalk.i64_in (val d (5 * c) (5 - (n + 1)) * 2) (by omega), IntWalk.i64_in _ (by omega), hs]
      · have hge : ¬ (K : Int) < (d.length : Int) * 8 := of_decide_eq_false h
        refine Ok.mono (fin _ ?_) (fun r h => by cases r <;> exact h)
        have hz : bt d K = 0 := by unfold bt; rw [if_neg (by omega)]
        rw [IntWalk.i64_in (val d (5 * c) (5 - (n + 1)) * 2) (by omega), hs, hz]
        omega
  obtain ⟨r, e, rfl⟩ := this
  exact e
/-- How many letters. -/
def many (n : Nat) : Nat := (8 * n + 4) / 5
theorem armor_spec {d : List Int} (hd : Bytes d) (hl : d.length ≤ 20000) : spec_l2Armor d = some (byS (lets d (many d.length))) := by
  have : Ok (loopO (spec_l2Armor_l1 d) (([] : List Int), 0)) fun r => r = lets d (many d.length) := by
    refine Ok.loop (fun n s => ∃ c, c + n = many d.length ∧ s.1 = lets d c ∧ s.2 = ((5 * c : Nat) : Int)) ?_ (n := many d.length) ⟨0, by omega, rfl, by simp⟩
    rintro n ⟨l, v⟩ ⟨c, hc, h1, h2⟩
    dsimp only at h1 h2
    subst h1; subst h2
    unfold spec_l2Armor_l1
    dsimp only
    rw [IntWalk.i64_in ((d.length : Int) * 8) (by omega)]
    unfold many at hc
    refine Ok.cond (fun h => ?_) (fun h => ?_)
    · have hlt : ((5 * c : Nat) : Int) < (d.length : Int) * 8 := of_decide_eq_true h
      rw [armor_in hd hl (by omega), Option.bind_some]
      have hv := val_lt d (5 * c) 5
      show Ok ((idxS letB (val d (5 * c) 5)).bind _) _
      rw [letter_idx hv.1 hv.2, Option.bind_some, app_get (by rw [lets_length]; simp; omega), Option.bind_some]
      refine Ok.some ⟨n - 1, by omega, c + 1, by unfold many; omega, (lets_succ d c).symm, ?_⟩
      show IntKind.i64.wrap _ = _
      rw [IntWalk.i64_in _ (by omega)]; omega
    · have hge : ¬ ((5 * c : Nat) : Int) < (d.length : Int) * 8 := of_decide_eq_false h
      refine Ok.some ?_
      rw [show many d.length = c by unfold many; omega]
  unfold spec_l2Armor
  obtain ⟨r, e, rfl⟩ := this
  rw [e]
  rfl
end Go.G36.SX
/- Armor, the program's. -/
namespace Go.G36.SX
set_option linter.all false
open Go Go.G36 Go.Proofs Go.G36.SL

theorem write_eq {x : Int} {l : List Int} (h : l.length < 4294967296) : strings_Builder_WriteByte x (⟨(), l⟩ : T_strings_Builder) = some ((), (⟨(), l ++ [x]⟩ : T_strings_Builder)) := by
  unfold strings_Builder_WriteByte ccO
  rw [Option.bind_some, app_get (by simp; omega), Option.bind_some]

theorem armor_drain {d : List Int} (hd : Bytes d) (hl : d.length ≤ 20000) {c b i : Nat} (hb : b < 5) (hi : i < d.length) (hcb : 5 * c + b = 8 * i) :
    Ok (loopO (impl_Armor_l2 (val d (5 * c) b) d[i]) ((⟨(), lets d c⟩ : T_strings_Builder), ((b + 8 : Nat) : Int))) fun r => ∃ c' b', b' < 5 ∧ 5 * c' + b' = 8 * (i + 1) ∧ c ≤ c' ∧ r = ((⟨(), lets d c'⟩ : T_strings_Builder), ((b' : Nat) : Int)) := by
  have hx := hd.get hi
  have hv := val_lt d (5 * c) b
  have hp : (2 : Int) ^ b ≤ 2 ^ 5 := by exact_mod_cast Nat.pow_le_pow_right (by decide) (by omega)
  have hV : val d (5 * c) b * 256 + d[i] = val d (5 * c) (b + 8) := by
    rw [val_add, hcb, val_byte hd hi]; rfl
  refine Ok.loop (fun n s => ∃ k, k + n = 3 ∧ 5 * k ≤ b + 8 ∧ s.1 = (⟨(), lets d (c + k)⟩ : T_strings_Builder) ∧ s.2 = ((b + 8 - 5 * k : Nat) : Int)) ?_ (n := 3) ⟨0, by omega, by omega, rfl, rfl⟩
  rintro n ⟨s, v⟩ ⟨k, hk, hk5, h1, h2⟩
  dsimp only at h1 h2
  subst h1; subst h2
  unfold impl_Armor_l2
  dsimp only
  refine Ok.cond (fun h => ?_) (fun h => ?_)
  · have hge : ((b + 8 - 5 * k : Nat) : Int) ≥ 5 := of_decide_eq_true h
    have hw : IntKind.i64.wrap (((b + 8 - 5 * k : Nat) : Int) - 5) = ((b + 8 - 5 * (k + 1) : Nat) : Int) := by
      rw [IntWalk.i64_in _ (by omega)]; omega
    rw [hw, nn_get (by omega), Option.bind_some]
    have h8 : (2 : Int) ^ (min (Int.toNat 8) IntKind.i64.bits) = 256 := rfl
    rw [h8, IntWalk.i64_in (val d (5 * c) b * 256) (by omega), IntWalk.i64_in d[i] (by omega), i64_or_add hv.1 (by omega) hx.1 hx.2, hV, minpow (k := b + 8 - 5 * (k + 1)) rfl (by omega)]
    have hpp : (0 : Int) < 2 ^ (b + 8 - 5 * (k + 1)) := Int.pow_pos (by decide)
    rw [Int.fdiv_eq_ediv_of_nonneg _ (by omega)]
    have hdiv : val d (5 * c) (b + 8) / 2 ^ (b + 8 - 5 * (k + 1)) = val d (5 * c) (5 * (k + 1)) := by
      have := val_div d (5 * c) (5 * (k + 1)) (b + 8 - 5 * (k + 1))
      rwa [show 5 * (k + 1) + (b + 8 - 5 * (k + 1)) = b + 8 by omega] at this
    rw [hdiv]
    have hvl := val_lt d (5 * c) (5 * (k + 1))
    have hpb : (2 : Int) ^ (5 * (k + 1)) ≤ 2 ^ 15 := by exact_mod_cast Nat.pow_le_pow_right (by decide) (by omega)
    have hand := i64_and_mod (val d (5 * c) (5 * (k + 1))) 5 (by omega) hvl.1 (by omega)
    rw [show (2 : Int) ^ 5 - 1 = 31 from rfl] at hand
    have hmod : val d (5 * c) (5 * (k + 1)) % 2 ^ 5 = val d (5 * (c + k)) 5 := by
      have := val_mod d (5 * c) (5 * k) 5
      rwa [show 5 * k + 5 = 5 * (k + 1) by omega, show 5 * c + 5 * k = 5 * (c + k) by omega] at this
    rw [hand, hmod]
    have hlt := val_lt d (5 * (c + k)) 5
    show Ok ((idxS letB (val d (5 * (c + k)) 5)).bind _) _
    rw [letter_idx hlt.1 hlt.2, Option.bind_some, write_eq (by rw [lets_length]; omega), Option.bind_some]
    refine Ok.some ⟨n - 1, by omega, k + 1, by omega, by omega, ?_, rfl⟩
    show (⟨(), _⟩ : T_strings_Builder) = _
    rw [← Nat.add_assoc, lets_succ]
  · have hge : ¬ ((b + 8 - 5 * k : Nat) : Int) ≥ 5 := of_decide_eq_false h
    exact Ok.some ⟨c + k, b + 8 - 5 * k, by omega, by omega, by omega, rfl⟩

theorem armor_impl {d : List Int} (hd : Bytes d) (hl : d.length ≤ 20000) : impl_Armor d = some (byS (lets d (many d.length))) := by
  have : Ok (loopO (impl_Armor_l1 d) ((⟨(), ([] : List Int)⟩ : T_strings_Builder), 0, 0, 0)) fun r => ∃ c b, b < 5 ∧ 5 * c + b = 8 * d.length ∧ r = ((⟨(), lets d c⟩ : T_strings_Builder), val d (5 * c) b, ((b : Nat) : Int)) := by
    refine Ok.loop (fun n s => ∃ i c b, i + n = d.length ∧ b < 5 ∧ 5 * c + b = 8 * i ∧ s = ((⟨(), lets d c⟩ : T_strings_Builder), val d (5 * c) b, ((b : Nat) : Int), ((i : Nat) : Int))) ?_ (n := d.length) ⟨0, 0, 0, by omega, by omega, rfl, rfl⟩
    rintro n s ⟨i, c, b, hi, hb, hcb, rfl⟩
    unfold impl_Armor_l1
    dsimp only
    refine Ok.cond (fun h => ?_) (fun h => ?_)
    · have hlt : ((i : Nat) : Int) < (d.length : Int) := of_decide_eq_true h
      have hil : i < d.length := by omega
      have hg : idx d ((i : Nat) : Int) = some d[i] := idx_get (xs := d) (i := ((i : Nat) : Int)) (by omega) (by omega)
      rw [hg, Option.bind_some]
      have hw : IntKind.i64.wrap (((b : Nat) : Int) + 8) = ((b + 8 : Nat) : Int) := by rw [IntWalk.i64_in _ (by omega)]; omega
      rw [hw]
      refine Ok.bind (armor_drain hd hl hb hil hcb) ?_
      rintro r ⟨c', b', hb', hcb', hcc, rfl⟩
      dsimp only
      rw [nn_get (by omega), Option.bind_some]
      have hx := hd.get hil
      have hv := val_lt d (5 * c) b
      have hp : (2 : Int) ^ b ≤ 2 ^ 5 := by exact_mod_cast Nat.pow_le_pow_right (by decide) (by omega)
      have hV : val d (5 * c) b * 256 + d[i] = val d (5 * c) (b + 8) := by
        rw [val_add, hcb, val_byte hd hil]; rfl
      have h8 : (2 : Int) ^ (min (Int.toNat 8) IntKind.i64.bits) = 256 := rfl
      have hp2 : (2 : Int) ^ b' ≤ 2 ^ 5 := by exact_mod_cast Nat.pow_le_pow_right (by decide) (by omega)
      have hp3 : (0 : Int) < 2 ^ b' := Int.pow_pos (by decide)
      rw [h8, IntWalk.i64_in (val d (5 * c) b * 256) (by omega), IntWalk.i64_in d[i] (by omega), i64_or_add hv.1 (by omega) hx.1 hx.2, hV, minpow (k := b') rfl (by omega), Int.one_mul, IntWalk.i64_in (2 ^ b') (by omega), IntWalk.i64_in (2 ^ b' - 1) (by omega)]
      have hvl := val_lt d (5 * c) (b + 8)
      have hpb : (2 : Int) ^ (b + 8) ≤ 2 ^ 15 := by exact_mod_cast Nat.pow_le_pow_right (by decide) (by omega)
      rw [i64_and_mod _ b' (by omega) hvl.1 (by omega)]
      have hmod : val d (5 * c) (b + 8) % 2 ^ b' = val d (5 * c') b' := by
        have := val_mod d (5 * c) (5 * (c' - c)) b'
        rwa [show 5 * (c' - c) + b' = b + 8 by omega, show 5 * c + 5 * (c' - c) = 5 * c' by omega] at this
      rw [hmod]
      refine Ok.some ⟨n - 1, by omega, i + 1, c', b', by omega, hb', by omega, ?_⟩
      have hw2 : IntKind.i64.wrap (((i : Nat) : Int) + 1) = ((i + 1 : Nat) : Int) := by rw [IntWalk.i64_in _ (by omega)]; omega
      rw [hw2]
    · have hge : ¬ ((i : Nat) : Int) < (d.length : Int) := of_decide_eq_false h
      exact Ok.some ⟨c, b, hb, by omega, rfl⟩
  obtain ⟨r, e, c, b, hb, hcb, rfl⟩ := this
  unfold impl_Armor
  rw [show decide ((d.length : Int) > 20000) = false from decide_eq_false (by omega)]
  simp only [cond_false]
  rw [e, Option.bind_some]
  dsimp only
  unfold many
  have hlen := lets_length d c
  by_cases hb0 : b = 0
  · subst hb0
    rw [show decide (((0 : Nat) : Int) > 0) = false from rfl]
    simp only [cond_false]
    rw [show (8 * d.length + 4) / 5 = c by omega]
    rfl
  · rw [show decide (((b : Nat) : Int) > 0) = true from decide_eq_true (by omega)]
    simp only [cond_true]
    have hw : IntKind.i64.wrap (5 - ((b : Nat) : Int)) = ((5 - b : Nat) : Int) := by rw [IntWalk.i64_in _ (by omega)]; omega
    rw [hw, nn_get (by omega), Option.bind_some, minpow (k := 5 - b) rfl (by omega)]
    have hv5 : val d (5 * c) b * 2 ^ (5 - b) = val d (5 * c) 5 := by
      have := val_add d (5 * c) b (5 - b)
      rw [show b + (5 - b) = 5 by omega, val_zero (d := d) (k := 5 * c + b) (by omega), Int.add_zero] at this
      exact this.symm
    rw [hv5]
    have hv := val_lt d (5 * c) 5
    rw [IntWalk.i64_in (val d (5 * c) 5) (by omega)]
    have hand := i64_and_mod (val d (5 * c) 5) 5 (by omega) hv.1 (by omega)
    rw [show (2 : Int) ^ 5 - 1 = 31 from rfl, Int.emod_eq_of_lt hv.1 hv.2] at hand
    rw [hand]
    show (idxS letB (val d (5 * c) 5)).bind _ = _
    rw [letter_idx hv.1 hv.2, Option.bind_some, write_eq (by rw [hlen]; omega), Option.bind_some]
    rw [show (8 * d.length + 4) / 5 = c + 1 by omega, lets_succ]
    rfl
theorem armor_eq {d : List Int} (hd : Bytes d) (hl : d.length ≤ 20000) : ∃ s, impl_Armor d = some s ∧ spec_l2Armor d = some s ∧ s.size = many d.length ∧ s = byS (lets d (many d.length)) := by
  refine ⟨_, armor_impl hd hl, armor_spec hd hl, ?_, rfl⟩
  have : ∀ (l : List Int) (b : ByteArray), (l.foldl (fun r n => r.push (UInt8.ofNat n.toNat)) b).size = b.size + l.length := by
    intro l
    induction l with
    | nil => intro b; simp
    | cons a l ih => intro b; rw [List.foldl_cons, ih]; simp [ByteArray.size_push]; omega
  unfold byS
  rw [this, lets_length]
  simp
end Go.G36.SX
/- Numerals. -/
namespace Go.G36.SX
set_option linter.all false
open Go Go.G36 Go.Proofs Go.G36.SL

/-- The text of some bytes. -/
def bA (l : List UInt8) : ByteArray := ⟨l.toArray⟩
theorem bA_list (l : List UInt8) : (bA l).data.toList = l := rfl
theorem bA_toList (l : List UInt8) : (bA l).toList = l := by rw [Lib.toList_data]; rfl
theorem bA_size (l : List UInt8) : (bA l).size = l.length := by simp [bA, ByteArray.size]
theorem bA_of (s : ByteArray) : s = bA s.data.toList := by
  apply ByteArray.ext; simp [bA]
theorem bA_app (l m : List UInt8) : bA l ++ bA m = bA (l ++ m) := by
  apply ByteArray.ext
  simp [bA]
theorem bA_inj {l m : List UInt8} (h : bA l = bA m) : l = m := by
  have : (bA l).data.toList = (bA m).data.toList := by rw [h]
  exact this
theorem byS_one (x : Int) : byS [x] = bA [UInt8.ofNat x.toNat] := by
  apply ByteArray.ext; rfl
theorem cat_bA {l m : List UInt8} (h : l.length + m.length ≤ 9223372036854775807) : cat (bA l) (bA m) = some (bA (l ++ m)) := by
  rw [cat_get (by rw [bA_size, bA_size]; exact h), bA_app]
theorem bys_bytes (s : ByteArray) : Bytes (bys s) := fun b hb => by
  simp only [bys, List.mem_map] at hb
  obtain ⟨x, _, rfl⟩ := hb
  have := x.toNat_lt
  omega
theorem idxS_bA {l : List UInt8} {i : Nat} (hi : i < l.length) : idxS (bA l) ((i : Nat) : Int) = some ((l[i].toNat : Nat) : Int) := by
  unfold idxS
  rw [if_pos (by omega), bA_list]
  simp [hi]

theorem decDigits_le : ∀ (n k : Nat), n < 10 ^ k → 1 ≤ k → (Lib.decDigits n).length ≤ k := by
  intro n
  induction n using Nat.strongRecOn with
  | ind n ih =>
    intro k hk h1
    rw [Lib.decDigits]
    split
    · simpa using h1
    · rename_i h
      obtain ⟨j, rfl⟩ : ∃ j, k = j + 1 := ⟨k - 1, by omega⟩
      have hj : 1 ≤ j := by
        rcases Nat.eq_zero_or_pos j with h0 | h0
        · subst h0; simp at hk; omega
        · exact h0
      have := ih (n / 10) (by omega) j (by rw [Nat.pow_succ] at hk; omega) hj
      simp only [List.length_append, List.length_cons, List.length_nil]
      omega
theorem decDigits_pos (n : Nat) : 1 ≤ (Lib.decDigits n).length := by
  rw [Lib.decDigits]
  split <;> simp
theorem digit_nat {x : Nat} (h : x < 10) : (UInt8.ofNat (48 + x)).toNat = 48 + x := by
  rw [UInt8.toNat_ofNat']
  exact Nat.mod_eq_of_lt (by omega)
theorem decDigits_dig : ∀ (n : Nat) (c : UInt8), c ∈ Lib.decDigits n → 48 ≤ c.toNat ∧ c.toNat ≤ 57 := by
  intro n
  induction n using Nat.strongRecOn with
  | ind n ih =>
    intro c hc
    rw [Lib.decDigits] at hc
    split at hc
    · rename_i h
      simp only [List.mem_cons, List.not_mem_nil, or_false] at hc
      subst hc
      rw [digit_nat h]; omega
    · rename_i h
      rcases List.mem_append.1 hc with hc | hc
      · exact ih (n / 10) (by omega) c hc
      · simp only [List.mem_cons, List.not_mem_nil, or_false] at hc
        subst hc
        rw [digit_nat (by omega)]; omega

/-! ### The reference's numerals -/
theorem decDigits_step {n : Nat} (h : ¬ n < 10) : Lib.decDigits n = Lib.decDigits (n / 10) ++ [UInt8.ofNat (48 + n % 10)] := by rw [Lib.decDigits.eq_1 n, dif_neg h]
theorem l1Size_go (n : Nat) : n ≤ 9223372036854775807 → ∀ acc : List UInt8, 0 < n → (acc.length + (Lib.decDigits n).length ≤ 1000) → loopO spec_l1Size_l1 ((n : Int), bA acc) = some (bA (Lib.decDigits n ++ acc)) := by
  induction n using Nat.strongRecOn with
  | ind n ih =>
    intro hn acc h0 hacc
    have st : spec_l1Size_l1 ((n : Int), bA acc) = some (.inl (((n / 10 : Nat) : Int), bA (UInt8.ofNat (48 + n % 10) :: acc))) := by
      unfold spec_l1Size_l1
      dsimp only
      rw [show ((n : Int) != 0) = true by simp; omega, IntWalk.rem_in _ _ (by omega), show decide ((n : Int) % 10 < 0) = false from decide_eq_false (by omega)]
      simp only [cond_true, cond_false]
      unfold spec_l1Size_j1
      rw [IntWalk.i64_in (48 + (n : Int) % 10) (by omega), IntWalk.u8_in _ (by omega), byS_one, show (48 + (n : Int) % 10).toNat = 48 + n % 10 by omega, cat_bA (by simp; omega), Option.bind_some,
        IntWalk.i64_quo _ _ ⟨by omega, by omega, by omega⟩]
      rfl
    rw [loopO_go st]
    by_cases hs : n < 10
    · rw [show n / 10 = 0 by omega]
      have en : spec_l1Size_l1 (((0 : Nat) : Int), bA (UInt8.ofNat (48 + n % 10) :: acc)) = some (.inr (bA (UInt8.ofNat (48 + n % 10) :: acc))) := rfl
      rw [loopO_end en, Lib.decDigits, dif_pos hs, show n % 10 = n by omega]
      rfl
    · have hd := decDigits_step hs
      rw [ih (n / 10) (by omega) (by omega) _ (by omega) (by rw [hd] at hacc; simp at hacc ⊢; omega)]
      rw [hd]
      simp
theorem l1Size_nat {n : Nat} (hn : n ≤ 9223372036854775807) : spec_l1Size (n : Int) = some (bA (Lib.decDigits n)) := by
  unfold spec_l1Size
  by_cases h0 : n = 0
  · subst h0
    rw [show (((0 : Nat) : Int) == 0) = true from rfl, Lib.decDigits, dif_pos (by omega)]
    rfl
  · rw [show ((n : Int) == 0) = false by simp; omega]
    have hlen := decDigits_le n 19 (by omega) (by omega)
    have := l1Size_go n hn [] (by omega) (by simp; omega)
    simp only [cond_false]
    rw [show e0 = bA [] from rfl, this]
    simp
theorem l1Num_nat {n : Nat} (hn : n ≤ 9223372036854775807) : spec_l1Num (n : Int) = some (bA (Lib.decDigits n)) := by
  unfold spec_l1Num
  rw [show decide ((n : Int) < 0) = false from decide_eq_false (by omega), l1Size_nat hn]
  rfl
theorem itoa_nat {n : Nat} (hn : n ≤ 9223372036854775807) : itoaO (n : Int) = some (bA (Lib.decDigits n)) := by
  unfold itoaO in64
  rw [if_pos (by simp; omega)]
  unfold Lib.itoa
  rw [if_neg (by omega)]
  rfl
/-- What digits spell. -/
def dv (l : List UInt8) : Nat := l.foldl (fun a c => a * 10 + (c.toNat - 48)) 0
theorem dv_app (l : List UInt8) (c : UInt8) : dv (l ++ [c]) = dv l * 10 + (c.toNat - 48) := by simp [dv]
theorem dv_dec : ∀ n : Nat, dv (Lib.decDigits n) = n := by
  intro n
  induction n using Nat.strongRecOn with
  | ind n ih =>
    by_cases hs : n < 10
    · rw [Lib.decDigits, dif_pos hs]
      show 0 * 10 + ((UInt8.ofNat (48 + n)).toNat - 48) = n
      rw [digit_nat hs]; omega
    · rw [decDigits_step hs, dv_app, ih (n / 10) (by omega), digit_nat (show n % 10 < 10 by omega)]
      omega
theorem dec_inj {n m : Nat} (h : Lib.decDigits n = Lib.decDigits m) : n = m := by rw [← dv_dec n, ← dv_dec m, h]
end Go.G36.SX
/- Names, and handles: what both sides say. -/
namespace Go.G36.SX
set_option linter.all false
open Go Go.G36 Go.Proofs Go.G36.SL

theorem tl_beq (u v : ByteArray) : (u.toList == v.toList) = true ↔ u = v := by
  rw [beq_iff_eq]
  constructor
  · intro h
    rw [Lib.toList_data, Lib.toList_data] at h
    cases u; cases v
    congr 1
    exact Array.toList_inj.1 h
  · rintro rfl; rfl

def big : Nat := 9223372036854775807
def outU {R : Type} : Option R → Unit ⊕ R
  | some r => .inr r
  | none => .inl ()

theorem has_eq (xs : List ByteArray) (w : ByteArray) (hl : xs.length < big) : spec_l3Has xs w = some (xs.any fun e => e.toList == w.toList) := by
  unfold big at hl
  have h := loop_first xs (spec_l3Has_l1 xs w) (fun _ e => cond (e.toList == w.toList) (some true) none) outU (fun i a ha => by
    have hi := (List.getElem?_eq_some_iff.1 ha).1
    simp only [spec_l3Has_l1, idx_nat, ha, Option.bind_some, show decide ((i : Int) < (xs.length : Int)) = true from decide_eq_true (by omega), cond_true]
    cases hb : (a.toList == w.toList) <;> simp [outU, wrap_succ (i := i) (by omega)]) (by simp [spec_l3Has_l1, outU]) xs.length 0 (by omega)
  simp only [List.drop_zero] at h
  have key : ∀ (l : List ByteArray) (i : Nat), firstG (fun _ e => cond (e.toList == w.toList) (some true) none) l i = if l.any (fun e => e.toList == w.toList) then some true else none := by
    intro l
    induction l with
    | nil => intro i; rfl
    | cons a r ih =>
      intro i
      rw [firstG, List.any_cons]
      cases hb : (a.toList == w.toList) with
      | true => simp
      | false => simp [ih]
  rw [key] at h
  unfold spec_l3Has
  rw [show ((0 : Int)) = ((0 : Nat) : Int) from rfl, h]
  cases hany : xs.any (fun e => e.toList == w.toList) <;> simp [outU]

theorem contains_eq (xs : List ByteArray) (w : ByteArray) (hl : xs.length < big) : slices_Contains xs w = some (xs.any fun e => w.toList == e.toList) := by
  unfold big at hl
  have h := loop_first xs (slices_Index_l1 xs w) (fun i e => cond (w.toList == e.toList) (some (i : Int)) none) outU (fun i a ha => by
    have hi := (List.getElem?_eq_some_iff.1 ha).1
    simp only [slices_Index_l1, idx_nat, ha, Option.bind_some, show decide ((i : Int) < (xs.length : Int)) = true from decide_eq_true (by omega), cond_true]
    cases hb : (w.toList == a.toList) <;> simp [outU, wrap_succ (i := i) (by omega)]) (by simp [slices_Index_l1, outU]) xs.length 0 (by omega)
  simp only [List.drop_zero] at h
  have key : ∀ (l : List ByteArray) (i : Nat), (firstG (fun i e => cond (w.toList == e.toList) (some (i : Int)) none) l i = none ∧ l.any (fun e => w.toList == e.toList) = false) ∨
      ∃ j : Nat, firstG (fun i e => cond (w.toList == e.toList) (some (i : Int)) none) l i = some (j : Int) ∧ l.any (fun e => w.toList == e.toList) = true := by
    intro l
    induction l with
    | nil => intro i; exact .inl ⟨rfl, rfl⟩
    | cons a r ih =>
      intro i
      rw [firstG, List.any_cons]
      cases hb : (w.toList == a.toList) with
      | true => exact .inr ⟨i, by simp⟩
      | false => simpa using ih (i + 1)
  unfold slices_Contains slices_Index
  rw [show ((0 : Int)) = ((0 : Nat) : Int) from rfl, h]
  rcases key xs 0 with ⟨k1, k2⟩ | ⟨j, k1, k2⟩
  · rw [k1, k2]; simp [outU]
  · rw [k1, k2]; simp [outU]

def digitP (b : Int) : Bool := decide (b ≥ 48) && decide (b ≤ 57)
def letterP (b : Int) : Bool := (decide (b ≥ 97) && decide (b ≤ 122)) || (decide (b ≥ 65) && decide (b ≤ 90))
def wordP (b : Int) : Bool := (letterP b || digitP b) || (b == 95)
def goodP (a : ByteArray) : Bool := !(decide ((a.size : Int) < 1) || decide ((a.size : Int) > 30)) && !(digitP ((a.data.toList.headD 0).toNat : Int)) && a.data.toList.all fun b => wordP (b.toNat : Int)

theorem size_data (a : ByteArray) : a.data.toList.length = a.size := Array.length_toList

theorem first_all {α : Type} (p : α → Bool) : ∀ (l : List α) (i : Nat), firstG (fun _ e => cond (p e) none (some false)) l i = if l.all p then none else some false
  | [], i => rfl
  | a :: r, i => by
    rw [firstG, List.all_cons]
    cases hb : p a with
    | true => simp [first_all p r (i + 1)]
    | false => simp

theorem spec_good (a : ByteArray) : spec_GoodName a = some (goodP a) := by
  by_cases hs : (decide ((a.size : Int) < 1) || decide ((a.size : Int) > 30)) = true
  · unfold spec_GoodName goodP
    simp only [hs, gdO, Bool.not_true, cond_false, Option.bind_some, Bool.true_or, cond_true, Bool.false_and]
  · have hs' : (decide ((a.size : Int) < 1) || decide ((a.size : Int) > 30)) = false := by simpa using hs
    have hsz : 1 ≤ a.size ∧ a.size ≤ 30 := by simp at hs'; omega
    have hlen := size_data a
    obtain ⟨b, r, hbr⟩ : ∃ b r, a.data.toList = b :: r := by
      cases h : a.data.toList with
      | nil => rw [h] at hlen; simp at hlen; omega
      | cons b r => exact ⟨b, r, rfl⟩
    have h0 : idxS a 0 = some (b.toNat : Int) := idxS_nat (i := 0) (by rw [hbr]; rfl)
    have h := loop_first a.data.toList (spec_GoodName_l1 a) (fun _ e => cond (wordP (e.toNat : Int)) none (some false)) outU (fun i c hc => by
      have hi := (List.getElem?_eq_some_iff.1 hc).1
      have hx := idxS_nat hc
      simp only [spec_GoodName_l1, show decide ((i : Int) < (a.size : Int)) = true from decide_eq_true (by omega), cond_true, hx, Option.bind_some, spec_l1Letter, spec_l1Digit, gdO, wrap_succ (i := i) (by omega)]
      unfold wordP letterP digitP
      generalize (decide ((c.toNat : Int) ≥ 97) && decide ((c.toNat : Int) ≤ 122) || decide ((c.toNat : Int) ≥ 65) && decide ((c.toNat : Int) ≤ 90)) = L
      cases L
      · simp only [Bool.not_false, cond_true, Option.bind_some, Bool.true_and, Bool.false_or]
        generalize (decide ((c.toNat : Int) ≥ 48) && decide ((c.toNat : Int) ≤ 57)) = D
        generalize (c.toNat : Int) = z
        cases D <;> cases h95 : (z == 95) <;> simp [h95, bne, outU]
      · simp only [Bool.not_true, cond_false, Option.bind_some, Bool.false_and, Bool.true_or]
        simp [outU]) (by simp [spec_GoodName_l1, hlen, outU]) a.data.toList.length 0 (by omega)
    simp only [List.drop_zero] at h
    rw [first_all (fun e : UInt8 => wordP (e.toNat : Int))] at h
    unfold spec_GoodName goodP
    simp only [hs', gdO, Bool.not_false, cond_true, h0, Option.bind_some, spec_l1Digit, Bool.false_or, Bool.true_and, hbr, List.headD_cons]
    rw [← hbr, show ((0 : Int)) = ((0 : Nat) : Int) from rfl, h]
    unfold digitP
    generalize (decide ((b.toNat : Int) ≥ 48) && decide ((b.toNat : Int) ≤ 57)) = D
    cases D <;> cases hall : (a.data.toList.all fun e => wordP (e.toNat : Int)) <;> simp [outU]

theorem impl_word (b : Int) : impl_ywordByte b = some (wordP b) := by
  unfold impl_ywordByte impl_yletter impl_ydigit wordP letterP digitP gdO
  simp only [Option.bind_some]
  generalize (decide (b ≥ 97) && decide (b ≤ 122) || decide (b ≥ 65) && decide (b ≤ 90)) = L
  generalize (decide (b ≥ 48) && decide (b ≤ 57)) = D
  cases L <;> cases D <;> simp

theorem impl_good (a : ByteArray) : impl_GoodName a = some (goodP a) := by
  have hlen := size_data a
  have he : (a.toList == e0.toList) = decide ((a.size : Int) < 1) := by
    rw [ByteArray.toList_eq, ByteArray.toList_eq]
    cases h : a.data.toList with
    | nil => rw [h] at hlen; simp at hlen; simp [← hlen]
    | cons b r => rw [h] at hlen; simp at hlen; simp; omega
  by_cases hs : (decide ((a.size : Int) < 1) || decide ((a.size : Int) > 30)) = true
  · unfold impl_GoodName goodP
    rw [he]
    simp only [hs, gdO, Bool.not_true, cond_false, Option.bind_some, Bool.true_or, cond_true, Bool.false_and, impl_ydigit]
  · have hs' : (decide ((a.size : Int) < 1) || decide ((a.size : Int) > 30)) = false := by simpa using hs
    have hsz : 1 ≤ a.size ∧ a.size ≤ 30 := by simp at hs'; omega
    obtain ⟨b, r, hbr⟩ : ∃ b r, a.data.toList = b :: r := by
      cases h : a.data.toList with
      | nil => rw [h] at hlen; simp at hlen; omega
      | cons b r => exact ⟨b, r, rfl⟩
    have h0 : idxS a 0 = some (b.toNat : Int) := idxS_nat (i := 0) (by rw [hbr]; rfl)
    have h := loop_first a.data.toList (impl_GoodName_l1 a) (fun _ e => cond (wordP (e.toNat : Int)) none (some false)) outU (fun i c hc => by
      have hi := (List.getElem?_eq_some_iff.1 hc).1
      have hx := idxS_nat hc
      simp only [impl_GoodName_l1, show decide ((i : Int) < (a.size : Int)) = true from decide_eq_true (by omega), cond_true, hx, Option.bind_some, impl_word, wrap_succ (i := i) (by omega)]
      generalize wordP (c.toNat : Int) = W
      cases W <;> simp [outU]) (by simp [impl_GoodName_l1, hlen, outU]) a.data.toList.length 0 (by omega)
    simp only [List.drop_zero] at h
    rw [first_all (fun e : UInt8 => wordP (e.toNat : Int))] at h
    unfold impl_GoodName goodP
    rw [he]
    simp only [hs', gdO, Bool.not_false, cond_true, h0, Option.bind_some, impl_ydigit, Bool.false_or, Bool.true_and, hbr, List.headD_cons]
    rw [← hbr, show ((0 : Int)) = ((0 : Nat) : Int) from rfl, h]
    unfold digitP
    generalize (decide ((b.toNat : Int) ≥ 48) && decide ((b.toNat : Int) ≤ 57)) = D
    cases D <;> cases hall : (a.data.toList.all fun e => wordP (e.toNat : Int)) <;> simp [outU]


abbrev sSess : ByteArray := ByteArray.mk #[115, 101, 115, 115]
theorem sess_good : goodP sSess = true := by decide +kernel
theorem bys_len (s : ByteArray) : (bys s).length = s.size := by simp [bys, size_data]
theorem handle_both {key : List Int} (hk : Bytes key) (hkl : key.length ≤ 65) {n : Nat} (h1 : 1 ≤ n) (hn : n ≤ 1000000) :
    ∃ A : List UInt8, spec_l18Handle key sSess (n : Int) = some (bA ([115, 101, 115, 115] ++ (Lib.decDigits n ++ 45 :: A))) ∧ A.length ≤ 100 ∧
      (key.length ≤ 64 → impl_HandleOf key sSess (n : Int) = some (bA ([115, 101, 115, 115] ++ (Lib.decDigits n ++ 45 :: A)))) := by
  have hdl : (Lib.decDigits n).length ≤ 7 := decDigits_le n 7 (by omega) (by omega)
  have hsz : ∀ l : List UInt8, (bA l).size = l.length := fun l => rfl
  have hs1 : sSess.size = 4 := rfl
  have hs45 : (ByteArray.mk #[45]).size = 1 := rfl
  have hc1 : cat sSess (bA (Lib.decDigits n)) = some (bA ([115, 101, 115, 115] ++ Lib.decDigits n)) := by
    rw [cat_get (by rw [hs1, hsz]; omega)]
    exact congrArg some <| bA_app [115, 101, 115, 115] (Lib.decDigits n)
  have hc2 : cat (bA ([115, 101, 115, 115] ++ Lib.decDigits n)) (ByteArray.mk #[45]) = some (bA (([115, 101, 115, 115] ++ Lib.decDigits n) ++ [45])) := by
    rw [cat_get (by rw [hsz, hs45, List.length_append]; simp only [List.length_cons, List.length_nil]; omega)]
    exact congrArg some <| bA_app _ [45]
  obtain ⟨m, _, e1, e2, rfl, hml, hmb⟩ := mac_eq (k := key) (a := bys (bA ([115, 101, 115, 115] ++ Lib.decDigits n))) hk (by omega) (bys_bytes _) (by rw [bys_len, hsz]; simp; omega)
  have hsub : sub m 0 10 = some (m.take 10) := by unfold sub; rw [if_pos (by omega)]; rfl
  obtain ⟨s, a1, a2, a3, a4⟩ := armor_eq (d := m.take 10) (hmb.take 10) (by simp; omega)
  have hs3 : s = bA s.data.toList := bA_of s
  have hc3 : cat (bA (([115, 101, 115, 115] ++ Lib.decDigits n) ++ [45])) s = some (bA ([115, 101, 115, 115] ++ (Lib.decDigits n ++ 45 :: s.data.toList))) := by
    rw [cat_get (by rw [hsz, a3]; unfold many; simp; omega)]
    congr 1
    conv => lhs; rw [hs3]
    refine (bA_app _ _).trans ?_
    simp
  refine ⟨s.data.toList, ?_, by rw [size_data, a3]; unfold many; simp; omega, fun hk64 => ?_⟩
  · unfold spec_l18Handle
    rw [l1Num_nat (by omega), Option.bind_some, hc1, Option.bind_some, hc2, Option.bind_some, e2, Option.bind_some, hsub, Option.bind_some, a2, Option.bind_some, hc3]
    rfl
  · unfold impl_HandleOf
    rw [show decide ((key.length : Int) > 64) = false from decide_eq_false (by omega)]
    simp only [gdO, Bool.not_false, cond_true, impl_good, sess_good, Option.bind_some, Bool.not_true, Bool.or_false, Bool.false_or]
    rw [show (decide ((n : Int) < 1) || decide ((n : Int) > 1000000)) = false by simp; omega]
    simp only [cond_false]
    rw [itoa_nat (by omega), Option.bind_some, hc1, Option.bind_some, hc2, Option.bind_some, e1, Option.bind_some, hsub, Option.bind_some, a1, Option.bind_some, hc3]
    rfl

/-- The n-th handle of a key. -/
noncomputable def H (key : List Int) (n : Nat) : ByteArray := (spec_l18Handle key sSess (n : Int)).getD e0
theorem H_spec {key : List Int} (hk : Bytes key) (hkl : key.length ≤ 65) {n : Nat} (h1 : 1 ≤ n) (hn : n ≤ 1000000) : spec_l18Handle key sSess (n : Int) = some (H key n) := by
  obtain ⟨A, e, _⟩ := handle_both hk hkl h1 hn
  unfold H; rw [e]; rfl
theorem H_impl {key : List Int} (hk : Bytes key) (hkl : key.length ≤ 64) {n : Nat} (h1 : 1 ≤ n) (hn : n ≤ 1000000) : impl_HandleOf key sSess (n : Int) = some (H key n) := by
  obtain ⟨A, e, _, e2⟩ := handle_both hk (by omega) h1 hn
  unfold H; rw [e]; exact e2 hkl
theorem H_inj {key : List Int} (hk : Bytes key) (hkl : key.length ≤ 65) {n m : Nat} (h1 : 1 ≤ n) (hn : n ≤ 1000000) (g1 : 1 ≤ m) (hm : m ≤ 1000000) (h : H key n = H key m) : n = m := by
  obtain ⟨A, e, _⟩ := handle_both hk hkl h1 hn
  obtain ⟨B, e', _⟩ := handle_both hk hkl g1 hm
  unfold H at h
  rw [e, e'] at h
  have h2 : [115, 101, 115, 115] ++ (Lib.decDigits n ++ 45 :: A) = [115, 101, 115, 115] ++ (Lib.decDigits m ++ 45 :: B) := by
    have := congrArg ByteArray.toList h
    simpa only [Option.getD_some, bA_toList] using this
  have h3 := List.append_cancel_left h2
  have nd : ∀ k : Nat, ∀ c ∈ Lib.decDigits k, (c != 45) = true := fun k c hc => by
    have := decDigits_dig k c hc
    simp only [bne_iff_ne, ne_eq]
    rintro rfl
    revert this; decide
  have h4 : (Lib.decDigits n ++ 45 :: A).takeWhile (fun c => c != 45) = (Lib.decDigits m ++ 45 :: B).takeWhile (fun c => c != 45) := by rw [h3]
  rw [List.takeWhile_append_of_pos (nd n), List.takeWhile_append_of_pos (nd m)] at h4
  simp at h4
  exact dec_inj h4
theorem H_ne {key : List Int} (hk : Bytes key) (hkl : key.length ≤ 65) {n : Nat} (h1 : 1 ≤ n) (hn : n ≤ 1000000) : (H key n).toList ≠ [] := by
  obtain ⟨A, e, _⟩ := handle_both hk hkl h1 hn
  unfold H; rw [e]
  simp only [Option.getD_some, bA_toList]
  simp
end Go.G36.SX
/- Sessions, as they are meant. -/
namespace Go.G36.SX
set_option linter.all false
open Go Go.G36 Go.Proofs Go.G36.SL

structure MX where
  ids : List Nat
  user : ByteArray
  device : ByteArray
  level : Int
  login : Int
  last : Int
  dead : Bool
structure MS where
  now : Int
  given : Nat
  list : List MX

noncomputable def top (x : MX) : Nat := x.ids.getLastD 0
def over (C : T_impl_SessConf) (x : MX) (t : Int) : Bool := decide (t > IntKind.i64.wrap (x.last + C.Idle_)) || decide (t > IntKind.i64.wrap (x.login + C.Most_))
noncomputable def told (h : Nat → ByteArray) (x : MX) : T_impl_SessReply := ⟨0, h (top x), x.user, x.level⟩
def err (n : Int) : T_impl_SessReply := ⟨n, e0, e0, 0⟩
noncomputable def kill (u : ByteArray) (x : MX) : MX := { x with dead := x.dead || (x.user.toList == u.toList) }
noncomputable def has (h : Nat → ByteArray) (id : ByteArray) (x : MX) : Bool := x.ids.any fun m => (h m).toList == id.toList
noncomputable def bad0 (e : T_impl_SessEvent) : Bool := ((decide (e.Kind_ < 1) || decide (e.Kind_ > 5)) || decide (e.Time_ < 0)) || decide (e.Time_ > 100000000000)
noncomputable def bad (e : T_impl_SessEvent) : Bool :=
  bad0 e || (cond ((e.Kind_ == 1) || (e.Kind_ == 5)) (!goodP e.User_) (!(e.User_.toList == e0.toList))) || (cond (e.Kind_ != 5) (!goodP e.Device_) (!(e.Device_.toList == e0.toList))) ||
    (((e.Kind_ == 1) || (e.Kind_ == 5)) && (!(e.Id_.toList == e0.toList)))
def lift (l : Int) : Int := if IntKind.i64.wrap (l + 1) < 9 then IntKind.i64.wrap (l + 1) else 9
/-- What the session at place i does, an event of a kind that is none of login and logout of all. -/
noncomputable def act (C : T_impl_SessConf) (h : Nat → ByteArray) (e : T_impl_SessEvent) (s : MS) (i : Nat) (x : MX) : T_impl_SessReply × MS :=
  cond ((!((h (top x)).toList == e.Id_.toList)) || (!(x.device.toList == e.Device_.toList))) (err 4, ⟨e.Time_, s.given, s.list.set i { x with dead := true }⟩)
    (cond x.dead (err 5, ⟨e.Time_, s.given, s.list⟩)
      (cond (over C x e.Time_) (err 6, ⟨e.Time_, s.given, s.list⟩)
        (cond (e.Kind_ == 3) (told h { x with last := e.Time_, level := lift x.level, ids := x.ids ++ [s.given + 1] }, ⟨e.Time_, s.given + 1, s.list.set i { x with last := e.Time_, level := lift x.level, ids := x.ids ++ [s.given + 1] }⟩)
          (cond (e.Kind_ == 4) (told h { x with last := e.Time_, dead := true }, ⟨e.Time_, s.given, s.list.set i { x with last := e.Time_, dead := true }⟩)
            (told h { x with last := e.Time_ }, ⟨e.Time_, s.given, s.list.set i { x with last := e.Time_ }⟩)))))
noncomputable def Do (C : T_impl_SessConf) (h : Nat → ByteArray) (e : T_impl_SessEvent) (s : MS) : T_impl_SessReply × MS :=
  cond (bad e) (err 1, s) (cond (decide (e.Time_ < s.now)) (err 2, s)
    (cond (e.Kind_ == 1) (told h ⟨[s.given + 1], e.User_, e.Device_, 1, e.Time_, e.Time_, false⟩, ⟨e.Time_, s.given + 1, s.list ++ [⟨[s.given + 1], e.User_, e.Device_, 1, e.Time_, e.Time_, false⟩]⟩)
      (cond (e.Kind_ == 5) (⟨0, e0, e.User_, 0⟩, ⟨e.Time_, s.given, s.list.map (kill e.User_)⟩)
        (match s.list.findIdx? (has h e.Id_) with
          | none => (err 3, ⟨e.Time_, s.given, s.list⟩)
          | some i => match s.list[i]? with
            | none => (err 3, ⟨e.Time_, s.given, s.list⟩)
            | some x => act C h e s i x))))
noncomputable def step (C : T_impl_SessConf) (h : Nat → ByteArray) (p : List T_impl_SessReply × MS) (e : T_impl_SessEvent) : List T_impl_SessReply × MS := (p.1 ++ [(Do C h e p.2).1], (Do C h e p.2).2)
def s0 : MS := ⟨0, 0, []⟩
noncomputable def Run (C : T_impl_SessConf) (h : Nat → ByteArray) (es : List T_impl_SessEvent) : List T_impl_SessReply × MS := es.foldl (step C h) ([], s0)
theorem Run_snoc (C : T_impl_SessConf) (h : Nat → ByteArray) (es : List T_impl_SessEvent) (e : T_impl_SessEvent) : Run C h (es ++ [e]) = ((Run C h es).1 ++ [(Do C h e (Run C h es).2).1], (Do C h e (Run C h es).2).2) := by
  unfold Run; rw [List.foldl_append]; rfl

/-! ### What stays true -/
structure Inv (k : Nat) (s : MS) : Prop where
  given : s.given ≤ k
  len : s.list.length ≤ k
  now : 0 ≤ s.now
  ids : ∀ (i : Nat) (x : MX), s.list[i]? = some x → x.ids ≠ [] ∧ x.ids.Pairwise (fun a b => a < b) ∧ (∀ m ∈ x.ids, 1 ≤ m ∧ m ≤ s.given) ∧ x.ids.length ≤ s.given ∧ goodP x.user = true
  apart : ∀ (i j : Nat) (x y : MX), s.list[i]? = some x → s.list[j]? = some y → i ≠ j → ∀ m ∈ x.ids, m ∉ y.ids

theorem Inv.zero : Inv 0 s0 := ⟨Nat.le_refl _, Nat.le_refl _, Int.le_refl _, fun i x h => by simp [s0] at h, fun i j x y h => by simp [s0] at h⟩
theorem Inv.mono {k k' : Nat} {s : MS} (h : Inv k s) (hk : k ≤ k') : Inv k' s := ⟨Nat.le_trans h.given hk, Nat.le_trans h.len hk, h.now, h.ids, h.apart⟩
theorem Inv.time {k : Nat} {s : MS} (h : Inv k s) {t : Int} (ht : 0 ≤ t) : Inv k ⟨t, s.given, s.list⟩ := ⟨h.given, h.len, ht, h.ids, h.apart⟩
/-- One session changed; its numbers stay. -/
theorem Inv.set {k : Nat} {s : MS} (h : Inv k s) {t : Int} (ht : 0 ≤ t) {i : Nat} {x x' : MX} (hx : s.list[i]? = some x) (hi : x'.ids = x.ids) (hu : x'.user = x.user) : Inv k ⟨t, s.given, s.list.set i x'⟩ := by
  have hil := (List.getElem?_eq_some_iff.1 hx).1
  refine ⟨h.given, by simpa using h.len, ht, fun j y hy => ?_, fun j l y z hy hz hne => ?_⟩
  · dsimp only at hy ⊢
    rw [List.getElem?_set] at hy
    split at hy
    · simp only [hil, if_true, Option.some.injEq] at hy
      subst hy
      rw [hi, hu]
      exact h.ids i x hx
    · exact h.ids j y hy
  · dsimp only at hy hz
    have key : ∀ (j : Nat) (y : MX), (s.list.set i x')[j]? = some y → ∃ y', s.list[j]? = some y' ∧ y.ids = y'.ids := fun j y hy => by
      rw [List.getElem?_set] at hy
      split at hy
      · next e =>
        subst e
        simp only [hil, if_true, Option.some.injEq] at hy
        subst hy
        exact ⟨x, hx, hi⟩
      · exact ⟨y, hy, rfl⟩
    obtain ⟨y', hy', e1⟩ := key j y hy
    obtain ⟨z', hz', e2⟩ := key l z hz
    rw [e1, e2]
    exact h.apart j l y' z' hy' hz' hne
/-- One session gets a new number. -/
theorem Inv.raise {k : Nat} {s : MS} (h : Inv k s) {t : Int} (ht : 0 ≤ t) {i : Nat} {x x' : MX} (hx : s.list[i]? = some x) (hi : x'.ids = x.ids ++ [s.given + 1]) (hu : x'.user = x.user) : Inv (k + 1) ⟨t, s.given + 1, s.list.set i x'⟩ := by
  have hil := (List.getElem?_eq_some_iff.1 hx).1
  obtain ⟨a1, a2, a3, a4, a5⟩ := h.ids i x hx
  refine ⟨Nat.succ_le_succ h.given, by have := h.len; simp; omega, ht, fun j y hy => ?_, fun j l y z hy hz hne => ?_⟩
  · dsimp only at hy ⊢
    rw [List.getElem?_set] at hy
    split at hy
    · simp only [hil, if_true, Option.some.injEq] at hy
      subst hy
      rw [hi, hu]
      refine ⟨by simp, ?_, ?_, by simp; omega, a5⟩
      · rw [List.pairwise_append]
        refine ⟨a2, by simp, fun a ha b hb => ?_⟩
        simp only [List.mem_singleton] at hb
        subst hb
        have := (a3 a ha).2
        omega
      · intro m hm
        rw [List.mem_append] at hm
        rcases hm with hm | hm
        · have := a3 m hm; omega
        · simp only [List.mem_singleton] at hm; omega
    · obtain ⟨b1, b2, b3, b4, b5⟩ := h.ids j y hy
      exact ⟨b1, b2, fun m hm => by have := b3 m hm; omega, by omega, b5⟩
  · dsimp only at hy hz
    have key : ∀ (j : Nat) (y : MX), (s.list.set i x')[j]? = some y → ∃ y', s.list[j]? = some y' ∧ ∀ m ∈ y.ids, m ∈ y'.ids ∨ (m = s.given + 1 ∧ j = i) := fun j y hy => by
      rw [List.getElem?_set] at hy
      split at hy
      · next e =>
        subst e
        simp only [hil, if_true, Option.some.injEq] at hy
        subst hy
        refine ⟨x, hx, fun m hm => ?_⟩
        rw [hi, List.mem_append] at hm
        rcases hm with hm | hm
        · exact .inl hm
        · exact .inr ⟨by simpa using hm, rfl⟩
      · exact ⟨y, hy, fun m hm => .inl hm⟩
    obtain ⟨y', hy', e1⟩ := key j y hy
    obtain ⟨z', hz', e2⟩ := key l z hz
    intro m hm hm2
    rcases e1 m hm with g1 | ⟨g1, g1'⟩
    · rcases e2 m hm2 with g2 | ⟨g2, g2'⟩
      · exact h.apart j l y' z' hy' hz' hne m g1 g2
      · have := ((h.ids j y' hy').2.2.1 m g1).2; omega
    · rcases e2 m hm2 with g2 | ⟨g2, g2'⟩
      · have := ((h.ids l z' hz').2.2.1 m g2).2; omega
      · omega
/-- A new session. -/
theorem Inv.login {k : Nat} {s : MS} (h : Inv k s) {t : Int} (ht : 0 ≤ t) {x : MX} (hi : x.ids = [s.given + 1]) (hu : goodP x.user = true) : Inv (k + 1) ⟨t, s.given + 1, s.list ++ [x]⟩ := by
  refine ⟨Nat.succ_le_succ h.given, by have := h.len; simp; omega, ht, fun j y hy => ?_, fun j l y z hy hz hne => ?_⟩
  · dsimp only at hy ⊢
    rw [List.getElem?_append] at hy
    split at hy
    · obtain ⟨b1, b2, b3, b4, b5⟩ := h.ids j y hy
      exact ⟨b1, b2, fun m hm => by have := b3 m hm; omega, by omega, b5⟩
    · rw [List.getElem?_singleton] at hy
      split at hy
      · simp only [Option.some.injEq] at hy
        subst hy
        rw [hi]
        exact ⟨by simp, by simp, fun m hm => by simp at hm; omega, by simp, hu⟩
      · cases hy
  · dsimp only at hy hz
    have key : ∀ (j : Nat) (y : MX), (s.list ++ [x])[j]? = some y → (s.list[j]? = some y ∧ j < s.list.length) ∨ (y.ids = [s.given + 1] ∧ j = s.list.length) := fun j y hy => by
      rw [List.getElem?_append] at hy
      split at hy
      · next hl => exact .inl ⟨hy, hl⟩
      · rw [List.getElem?_singleton] at hy
        split at hy
        · simp only [Option.some.injEq] at hy
          subst hy
          exact .inr ⟨hi, by omega⟩
        · cases hy
    intro m hm hm2
    rcases key j y hy with ⟨g1, g1'⟩ | ⟨g1, g1'⟩
    · rcases key l z hz with ⟨g2, g2'⟩ | ⟨g2, g2'⟩
      · exact h.apart j l y z g1 g2 hne m hm hm2
      · have := ((h.ids j y g1).2.2.1 m hm).2
        rw [g2] at hm2; simp at hm2; omega
    · rcases key l z hz with ⟨g2, g2'⟩ | ⟨g2, g2'⟩
      · have := ((h.ids l z g2).2.2.1 m hm2).2
        rw [g1] at hm; simp at hm; omega
      · omega
theorem Inv.killed {k : Nat} {s : MS} (h : Inv k s) {t : Int} (ht : 0 ≤ t) (u : ByteArray) : Inv k ⟨t, s.given, s.list.map (kill u)⟩ := by
  have key : ∀ (j : Nat) (y : MX), (s.list.map (kill u))[j]? = some y → ∃ y', s.list[j]? = some y' ∧ y.ids = y'.ids ∧ y.user = y'.user := fun j y hy => by
    rw [List.getElem?_map, Option.map_eq_some_iff] at hy
    obtain ⟨y', h1, rfl⟩ := hy
    exact ⟨y', h1, rfl, rfl⟩
  refine ⟨h.given, by simpa using h.len, ht, fun j y hy => ?_, fun j l y z hy hz hne => ?_⟩
  · obtain ⟨y', h1, e1, e2⟩ := key j y hy
    rw [e1, e2]
    exact h.ids j y' h1
  · obtain ⟨y', h1, e1, _⟩ := key j y hy
    obtain ⟨z', h2, e2, _⟩ := key l z hz
    rw [e1, e2]
    exact h.apart j l y' z' h1 h2 hne
theorem bad_time {e : T_impl_SessEvent} (h : bad e = false) : 0 ≤ e.Time_ ∧ e.Time_ ≤ 100000000000 := by
  unfold bad bad0 at h
  simp only [Bool.or_eq_false_iff, decide_eq_false_iff_not] at h
  omega
theorem bad_user {e : T_impl_SessEvent} (h : bad e = false) (hk : ((e.Kind_ == 1) || (e.Kind_ == 5)) = true) : goodP e.User_ = true := by
  unfold bad at h
  rw [hk] at h
  simp only [Bool.or_eq_false_iff, cond_true, Bool.not_eq_false'] at h
  exact h.1.1.2
theorem bad_device {e : T_impl_SessEvent} (h : bad e = false) (hk : (e.Kind_ != 5) = true) : goodP e.Device_ = true := by
  unfold bad at h
  rw [hk] at h
  simp only [Bool.or_eq_false_iff, cond_true, Bool.not_eq_false'] at h
  exact h.1.2
theorem Inv.act {C : T_impl_SessConf} {h : Nat → ByteArray} {e : T_impl_SessEvent} {k : Nat} {s : MS} (hI : Inv k s) (ht : 0 ≤ e.Time_) {i : Nat} {x : MX} (hx : s.list[i]? = some x) : Inv (k + 1) (act C h e s i x).2 := by
  unfold SX.act
  cases ((!((h (top x)).toList == e.Id_.toList)) || (!(x.device.toList == e.Device_.toList))) with
  | true => simp only [cond_true]; exact Inv.mono (k := k) (hI.set ht hx rfl rfl) (Nat.le_succ _)
  | false =>
    simp only [cond_false]
    cases x.dead with
    | true => simp only [cond_true]; exact (hI.time ht).mono (Nat.le_succ _)
    | false =>
      simp only [cond_false]
      cases over C x e.Time_ with
      | true => simp only [cond_true]; exact (hI.time ht).mono (Nat.le_succ _)
      | false =>
        simp only [cond_false]
        cases (e.Kind_ == 3) with
        | true => simp only [cond_true]; exact hI.raise ht hx rfl rfl
        | false =>
          simp only [cond_false]
          cases (e.Kind_ == 4) with
          | true => simp only [cond_true]; exact Inv.mono (k := k) (hI.set ht hx rfl rfl) (Nat.le_succ _)
          | false => simp only [cond_false]; exact Inv.mono (k := k) (hI.set ht hx rfl rfl) (Nat.le_succ _)
theorem Inv.do_ {C : T_impl_SessConf} {h : Nat → ByteArray} {e : T_impl_SessEvent} {k : Nat} {s : MS} (hI : Inv k s) : Inv (k + 1) (Do C h e s).2 := by
  unfold Do
  cases hb : bad e with
  | true => simp only [cond_true]; exact hI.mono (Nat.le_succ _)
  | false =>
    have ht := (bad_time hb).1
    cases decide (e.Time_ < s.now) with
    | true => simp only [cond_true]; exact hI.mono (Nat.le_succ _)
    | false =>
      simp only [cond_false]
      cases h1 : (e.Kind_ == 1) with
      | true => simp only [cond_true]; exact hI.login ht rfl (bad_user hb (by rw [h1]; rfl))
      | false =>
        simp only [cond_false]
        cases (e.Kind_ == 5) with
        | true => simp only [cond_true]; exact (hI.killed ht _).mono (Nat.le_succ _)
        | false =>
          simp only [cond_false]
          split
          · exact (hI.time ht).mono (Nat.le_succ _)
          · split
            · exact (hI.time ht).mono (Nat.le_succ _)
            · next hx => exact hI.act ht hx
theorem Inv.run {C : T_impl_SessConf} {h : Nat → ByteArray} (es : List T_impl_SessEvent) : Inv es.length (Run C h es).2 ∧ (Run C h es).1.length = es.length := by
  suffices ∀ n, ∀ es : List T_impl_SessEvent, es.length = n → Inv es.length (Run C h es).2 ∧ (Run C h es).1.length = es.length from this _ es rfl
  intro n
  induction n with
  | zero => intro es hes; rw [List.length_eq_zero_iff] at hes; subst hes; exact ⟨Inv.zero, rfl⟩
  | succ n ih =>
    intro es hes
    obtain ⟨l, e, rfl⟩ : ∃ l e, es = l ++ [e] := by
      rcases List.eq_nil_or_concat es with rfl | ⟨l, e, rfl⟩
      · simp at hes
      · exact ⟨l, e, by simp⟩
    have hl : l.length = n := by simpa using hes
    obtain ⟨h1, h2⟩ := ih l hl
    rw [Run_snoc]
    refine ⟨?_, by simp [h2]⟩
    rw [List.length_append]
    exact h1.do_
end Go.G36.SX
/- The program's sessions are as they are meant. -/
namespace Go.G36.SX
set_option linter.all false
open Go Go.G36 Go.Proofs Go.G36.SL

structure Same (y : T_impl_ysession) (x : MX) : Prop where
  user : y.user_ = x.user
  device : y.device_ = x.device
  level : y.level_ = x.level
  login : y.login_ = x.login
  last : y.last_ = x.last
  dead : y.dead_ = x.dead
structure Fam (h : Nat → ByteArray) (f : List T_impl_ysession) (ax : List (Option (List ByteArray))) (l : List MX) : Prop where
  len : f.length = l.length
  same : ∀ (i : Nat) (y : T_impl_ysession) (x : MX), f[i]? = some y → l[i]? = some x → Same y x ∧ ∃ k : Nat, y.ids_ = (k : Int) ∧ ax[k]? = some (some (x.ids.map h))
  apart : ∀ (i j : Nat) (y z : T_impl_ysession), f[i]? = some y → f[j]? = some z → i ≠ j → y.ids_ ≠ z.ids_
variable {h : Nat → ByteArray} {f : List T_impl_ysession} {ax : List (Option (List ByteArray))} {l : List MX}
theorem Fam.nil : Fam h [] [] [] := ⟨rfl, fun i y x h => by simp at h, fun i j y z h => by simp at h⟩
theorem Fam.get (F : Fam h f ax l) {i : Nat} {x : MX} (hx : l[i]? = some x) : ∃ y, f[i]? = some y ∧ Same y x ∧ axg ax y.ids_ = some (x.ids.map h) := by
  have hi := (List.getElem?_eq_some_iff.1 hx).1
  have hy : f[i]? = some (f[i]'(by rw [F.len]; exact hi)) := by simp
  obtain ⟨h1, k, h2, h3⟩ := F.same i _ x hy hx
  refine ⟨_, hy, h1, ?_⟩
  unfold axg
  rw [h2, if_pos (by omega), Int.toNat_natCast, h3]
  rfl
theorem set_get {α : Type} {l : List α} {i j : Nat} {a b : α} (h : (l.set i a)[j]? = some b) : (j = i ∧ b = a ∧ i < l.length) ∨ (j ≠ i ∧ l[j]? = some b) := by
  rw [List.getElem?_set] at h
  split at h
  · next e =>
    subst e
    split at h
    · next hl => injection h with h; exact .inl ⟨rfl, h.symm, hl⟩
    · cases h
  · next e => exact .inr ⟨fun h => e h.symm, h⟩
theorem Fam.set (F : Fam h f ax l) {i : Nat} {x x' : MX} {y y' : T_impl_ysession} (hx : l[i]? = some x) (hy : f[i]? = some y) (hS : Same y' x') (hi : x'.ids = x.ids) (hn : y'.ids_ = y.ids_) : Fam h (f.set i y') ax (l.set i x') := by
  refine ⟨by simpa using F.len, fun j z w hz hw => ?_, fun j k z w hz hw hne => ?_⟩
  · rcases set_get hz with ⟨rfl, rfl, _⟩ | ⟨h1, h2⟩
    · rcases set_get hw with ⟨_, rfl, _⟩ | ⟨h3, _⟩
      · refine ⟨hS, ?_⟩
        rw [hn, hi]
        exact (F.same _ _ _ hy hx).2
      · exact absurd rfl h3
    · rcases set_get hw with ⟨rfl, _, _⟩ | ⟨_, h4⟩
      · exact absurd rfl h1
      · exact F.same _ _ _ h2 h4
  · have key : ∀ (j : Nat) (z : T_impl_ysession), (f.set i y')[j]? = some z → ∃ z', f[j]? = some z' ∧ z.ids_ = z'.ids_ := fun j z hz => by
      rcases set_get hz with ⟨rfl, rfl, _⟩ | ⟨h1, h2⟩
      · exact ⟨y, hy, hn⟩
      · exact ⟨z, h2, rfl⟩
    obtain ⟨z', h1, e1⟩ := key j z hz
    obtain ⟨w', h2, e2⟩ := key k w hw
    rw [e1, e2]
    exact F.apart j k z' w' h1 h2 hne
theorem Fam.raise (F : Fam h f ax l) {i : Nat} {x x' : MX} {y y' : T_impl_ysession} {l66 : List ByteArray} (hx : l[i]? = some x) (hy : f[i]? = some y) (hS : Same y' x') (hi : l66 = x'.ids.map h) (hn : y'.ids_ = ((ax.set (Int.toNat y.ids_) none).length : Int)) :
    Fam h (f.set i y') ((ax.set (Int.toNat y.ids_) none) ++ [some l66]) (l.set i x') := by
  obtain ⟨_, k0, e0', g0⟩ := F.same _ _ _ hy hx
  have hk0 := (List.getElem?_eq_some_iff.1 g0).1
  rw [List.length_set] at hn
  have old : ∀ (j : Nat) (z : T_impl_ysession) (w : MX), j ≠ i → f[j]? = some z → l[j]? = some w → ∃ k : Nat, z.ids_ = (k : Int) ∧ ((ax.set (Int.toNat y.ids_) none) ++ [some l66])[k]? = some (some (w.ids.map h)) ∧ k < ax.length := fun j z w hne hz hw => by
    obtain ⟨_, k, e1, g1⟩ := F.same _ _ _ hz hw
    have hk := (List.getElem?_eq_some_iff.1 g1).1
    refine ⟨k, e1, ?_, hk⟩
    rw [List.getElem?_append_left (by rw [List.length_set]; exact hk), List.getElem?_set, if_neg, g1]
    have := F.apart _ _ _ _ hz hy hne
    rw [e1] at this
    intro e
    apply this
    rw [← e, e0', Int.toNat_natCast]
  refine ⟨by simpa using F.len, fun j z w hz hw => ?_, fun j k z w hz hw hne => ?_⟩
  · rcases set_get hz with ⟨rfl, rfl, _⟩ | ⟨h1, h2⟩
    · rcases set_get hw with ⟨_, rfl, _⟩ | ⟨h3, _⟩
      · refine ⟨hS, ax.length, hn, ?_⟩
        rw [List.getElem?_append_right (by rw [List.length_set]; exact Nat.le_refl _), List.length_set, Nat.sub_self, hi]
        rfl
      · exact absurd rfl h3
    · rcases set_get hw with ⟨rfl, _, _⟩ | ⟨_, h4⟩
      · exact absurd rfl h1
      · obtain ⟨k, a, b, _⟩ := old j z w h1 h2 h4
        exact ⟨(F.same _ _ _ h2 h4).1, k, a, b⟩
  · have low : ∀ (j : Nat) (z : T_impl_ysession), j ≠ i → f[j]? = some z → z.ids_ ≠ (ax.length : Int) := fun j z hne hz => by
      have hj := (List.getElem?_eq_some_iff.1 hz).1
      obtain ⟨k, a, _, b⟩ := old j z (l[j]'(by rw [← F.len]; exact hj)) hne hz (by simp)
      omega
    rcases set_get hz with ⟨rfl, rfl, _⟩ | ⟨h1, h2⟩
    · rcases set_get hw with ⟨h3, _, _⟩ | ⟨h3, h4⟩
      · exact absurd h3.symm hne
      · rw [hn]; exact fun e => low k w h3 h4 e.symm
    · rcases set_get hw with ⟨h3, rfl, _⟩ | ⟨h3, h4⟩
      · rw [hn]; exact low j z h1 h2
      · exact F.apart _ _ _ _ h2 h4 hne
theorem Fam.login (F : Fam h f ax l) {x' : MX} {y' : T_impl_ysession} {l66 : List ByteArray} (hS : Same y' x') (hi : l66 = x'.ids.map h) (hn : y'.ids_ = (ax.length : Int)) : Fam h (f ++ [y']) (ax ++ [some l66]) (l ++ [x']) := by
  have ag : ∀ {α : Type} (l : List α) (a b : α) (j : Nat), (l ++ [a])[j]? = some b → (j < l.length ∧ l[j]? = some b) ∨ (j = l.length ∧ b = a) := fun l a b j h => by
    rw [List.getElem?_append] at h
    split at h
    · next hl => exact .inl ⟨hl, h⟩
    · rw [List.getElem?_singleton] at h
      split at h
      · injection h with h; exact .inr ⟨by omega, h.symm⟩
      · cases h
  have hl := F.len
  refine ⟨by simpa using F.len, fun j z w hz hw => ?_, fun j k z w hz hw hne => ?_⟩
  · rcases ag _ _ _ _ hz with ⟨h1, h2⟩ | ⟨h1, rfl⟩
    · rcases ag _ _ _ _ hw with ⟨h3, h4⟩ | ⟨h3, rfl⟩
      · obtain ⟨a, k, b, c⟩ := F.same _ _ _ h2 h4
        exact ⟨a, k, b, by rw [List.getElem?_append_left (List.getElem?_eq_some_iff.1 c).1]; exact c⟩
      · omega
    · rcases ag _ _ _ _ hw with ⟨h3, h4⟩ | ⟨h3, rfl⟩
      · omega
      · exact ⟨hS, ax.length, hn, by simp [hi]⟩
  · have low : ∀ (j : Nat) (z : T_impl_ysession), f[j]? = some z → z.ids_ ≠ (ax.length : Int) := fun j z hz => by
      have hj := (List.getElem?_eq_some_iff.1 hz).1
      obtain ⟨_, k, a, b⟩ := F.same j z (l[j]'(by omega)) hz (by simp)
      have := (List.getElem?_eq_some_iff.1 b).1
      omega
    rcases ag _ _ _ _ hz with ⟨h1, h2⟩ | ⟨h1, rfl⟩
    · rcases ag _ _ _ _ hw with ⟨h3, h4⟩ | ⟨h3, rfl⟩
      · exact F.apart _ _ _ _ h2 h4 hne
      · rw [hn]; exact low _ _ h2
    · rcases ag _ _ _ _ hw with ⟨h3, h4⟩ | ⟨h3, rfl⟩
      · rw [hn]; exact fun e => low _ _ h4 e.symm
      · omega
noncomputable def killI (u : ByteArray) (y : T_impl_ysession) : T_impl_ysession := { y with dead_ := (y.dead_ || (y.user_.toList == u.toList)) }
theorem Fam.killed (F : Fam h f ax l) (u : ByteArray) : Fam h (f.map (killI u)) ax (l.map (kill u)) := by
  refine ⟨by simpa using F.len, fun j z w hz hw => ?_, fun j k z w hz hw hne => ?_⟩
  · rw [List.getElem?_map, Option.map_eq_some_iff] at hz hw
    obtain ⟨z', h1, rfl⟩ := hz
    obtain ⟨w', h2, rfl⟩ := hw
    obtain ⟨a, b⟩ := F.same _ _ _ h1 h2
    refine ⟨⟨a.user, a.device, a.level, a.login, a.last, ?_⟩, b⟩
    show (z'.dead_ || (z'.user_.toList == u.toList)) = (w'.dead || (w'.user.toList == u.toList))
    rw [a.dead, a.user]
  · rw [List.getElem?_map, Option.map_eq_some_iff] at hz hw
    obtain ⟨z', h1, rfl⟩ := hz
    obtain ⟨w', h2, rfl⟩ := hw
    exact F.apart j k z' w' h1 h2 hne

/-! ### Small things -/
theorem has_flip (id : ByteArray) (x : MX) : ((x.ids.map h).any fun e => id.toList == e.toList) = has h id x := by
  unfold has
  rw [List.any_map]
  congr 1
  funext m
  exact BEq.comm
theorem has_same (id : ByteArray) (x : MX) : ((x.ids.map h).any fun e => e.toList == id.toList) = has h id x := by
  unfold has
  rw [List.any_map]
  rfl
theorem last_get {x : MX} (hx : x.ids ≠ []) (hl : x.ids.length ≤ 1000000) : idx (x.ids.map h) (IntKind.i64.wrap (((x.ids.map h).length : Int) - 1)) = some (h (top x)) := by
  have hp := List.length_pos_iff.2 hx
  rw [List.length_map, IntWalk.i64_in _ (by omega)]
  have : ((x.ids.length : Int) - 1) = ((x.ids.length - 1 : Nat) : Int) := by omega
  rw [this, idx_nat, List.getElem?_map]
  unfold top
  rw [← List.getLast?_eq_getElem?, List.getLastD_eq_getLast?, List.getLast?_eq_some_getLast hx]
  rfl
def rng (n : Nat) : List Int := (List.range n).map fun (i : Nat) => (i : Int)
theorem rng_len (n : Nat) : (rng n).length = n := by simp [rng]
theorem rng_get {n i : Nat} (hi : i < n) : idx (rng n) (i : Int) = some (i : Int) := by
  rw [idx_nat, rng, List.getElem?_map, List.getElem?_range hi]
  rfl
theorem rng_succ (n : Nat) : rng (n + 1) = rng n ++ [(n : Int)] := by simp [rng, List.range_succ]
theorem first_find {α : Type} (p : α → Bool) : ∀ (l : List α) (i : Nat), firstG (fun i e => cond (p e) (some (i : Int)) none) l i = (l.findIdx? p).map fun j => ((i + j : Nat) : Int)
  | [], i => rfl
  | a :: r, i => by
    rw [firstG, List.findIdx?_cons]
    cases hb : p a with
    | true => simp
    | false =>
      simp only [cond_false]
      rw [first_find p r (i + 1)]
      simp only [Bool.false_eq_true, if_false, Option.map_map]
      congr 1
      funext j
      simp only [Function.comp]
      congr 1
      omega
end Go.G36.SX
/- What the program's sessions do with an event. -/
namespace Go.G36.SX
set_option linter.all false
open Go Go.G36 Go.Proofs Go.G36.SL

variable {h : Nat → ByteArray} {f : List T_impl_ysession} {ax : List (Option (List ByteArray))} {l : List MX} {C : T_impl_SessConf}
structure RI (C : T_impl_SessConf) (h : Nat → ByteArray) (b : T_impl_ysessions) (f : List T_impl_ysession) (ax : List (Option (List ByteArray))) (s : MS) : Prop where
  c : b.c_ = C
  now : b.now_ = s.now
  ids : b.ids_ = (s.given : Int)
  list : b.list_ = rng s.list.length
  fam : Fam h f ax s.list
theorem find_impl (F : Fam h f ax l) (hl : l.length ≤ 1000000) (hids : ∀ (i : Nat) (x : MX), l[i]? = some x → x.ids.length ≤ 1000000) (e : T_impl_SessEvent) :
    impl_ysession_ (rng l.length) f ax e = some (match l.findIdx? (has h e.Id_) with | none => -1 | some i => (i : Int)) := by
  have hh := loop_first l (impl_ysession__l1 (rng l.length) f ax e) (fun i x => cond (has h e.Id_ x) (some (i : Int)) none) outU (fun i x hx => by
    have hi := (List.getElem?_eq_some_iff.1 hx).1
    obtain ⟨y, hy, _, hax⟩ := F.get hx
    have hlen := hids i x hx
    simp only [impl_ysession__l1, rng_len, show decide ((i : Int) < (l.length : Int)) = true from decide_eq_true (by omega), cond_true, rng_get hi, Option.bind_some, impl_ysessions_do_1]
    rw [idx_nat, hy, Option.bind_some, hax, Option.bind_some, contains_eq _ _ (by rw [List.length_map]; unfold big; omega), has_flip]
    simp only [Option.bind_some]
    cases has h e.Id_ x <;> simp [outU, wrap_succ (i := i) (by omega)]) (by simp [impl_ysession__l1, rng_len, outU]) l.length 0 (by omega)
  simp only [List.drop_zero] at hh
  rw [first_find] at hh
  unfold impl_ysession_
  rw [show ((0 : Int)) = ((0 : Nat) : Int) from rfl, hh]
  cases l.findIdx? (has h e.Id_) <;> simp [outU]
theorem id_impl (F : Fam h f ax l) {i : Nat} {x : MX} (hx : l[i]? = some x) (h1 : x.ids ≠ []) (h2 : x.ids.length ≤ 1000000) : impl_ysession_id (i : Int) f ax = some (h (top x)) := by
  obtain ⟨y, hy, _, hax⟩ := F.get hx
  unfold impl_ysession_id
  rw [idx_nat, hy, Option.bind_some, hax, Option.bind_some, last_get h1 h2]
  rfl
theorem over_impl (F : Fam h f ax l) {i : Nat} {x : MX} (hx : l[i]? = some x) (t : Int) {b : T_impl_ysessions} (hb : b.c_ = C) : impl_ysessions_over (i : Int) t b f ax = some (over C x t) := by
  obtain ⟨y, hy, hS, _⟩ := F.get hx
  unfold impl_ysessions_over over
  rw [idx_nat, hy, hb, ← hS.last, ← hS.login]
  simp only [Option.bind_some]
  cases decide (t > IntKind.i64.wrap (y.last_ + C.Idle_)) <;> simp [gdO]
theorem bad_impl (e : T_impl_SessEvent) {α : Type} (X Y : Option α) : ((gdO ((!(((decide (e.Kind_ < 1) || decide (e.Kind_ > 5)) || decide (e.Time_ < 0)) || decide (e.Time_ > 100000000000))) && ((e.Kind_ == 1) || (e.Kind_ == 5))) (impl_GoodName e.User_)).bind fun r1 => (gdO ((!(((((decide (e.Kind_ < 1) || decide (e.Kind_ > 5)) || decide (e.Time_ < 0)) || decide (e.Time_ > 100000000000)) || (((e.Kind_ == 1) || (e.Kind_ == 5)) && (!r1))) || ((!((e.Kind_ == 1) || (e.Kind_ == 5))) && (!(e.User_.toList == e0.toList))))) && (e.Kind_ != 5)) (impl_GoodName e.Device_)).bind fun r3 => cond ((((((((decide (e.Kind_ < 1) || decide (e.Kind_ > 5)) || decide (e.Time_ < 0)) || decide (e.Time_ > 100000000000)) || (((e.Kind_ == 1) || (e.Kind_ == 5)) && (!r1))) || ((!((e.Kind_ == 1) || (e.Kind_ == 5))) && (!(e.User_.toList == e0.toList)))) || ((e.Kind_ != 5) && (!r3))) || ((!(e.Kind_ != 5)) && (!(e.Device_.toList == e0.toList)))) || (((e.Kind_ == 1) || (e.Kind_ == 5)) && (!(e.Id_.toList == e0.toList)))) X Y) = cond (bad e) X Y := by
  rw [impl_good, impl_good]
  unfold bad bad0
  generalize (((decide (e.Kind_ < 1) || decide (e.Kind_ > 5)) || decide (e.Time_ < 0)) || decide (e.Time_ > 100000000000)) = B
  have hne : (e.Kind_ != 5) = !(e.Kind_ == 5) := rfl
  rw [hne]
  generalize (e.Kind_ == 1) = k1
  generalize (e.Kind_ == 5) = k5
  generalize goodP e.User_ = gu
  generalize goodP e.Device_ = gd
  generalize (e.User_.toList == e0.toList) = eu
  generalize (e.Device_.toList == e0.toList) = ed
  generalize (e.Id_.toList == e0.toList) = ei
  cases B <;> cases k1 <;> cases k5 <;> cases gu <;> cases gd <;> cases eu <;> cases ed <;> cases ei <;> rfl
theorem kill_impl {C : T_impl_SessConf} {b : T_impl_ysessions} (hb : b.list_ = rng l.length) (hf : f.length = l.length) (hl : l.length ≤ 1000000) (e : T_impl_SessEvent) : loopO (impl_ysessions_do_l1 e b) (f, 0) = some (f.map (killI e.User_)) := by
  have := (loop_fold f (impl_ysessions_do_l1 e b) (fun g v => (g, v)) (fun i y g => g.set i (killI e.User_ y)) (fun g => g) (fun i g => g = (f.take i).map (killI e.User_) ++ f.drop i) (fun i y g hy hg => by
    have hi := (List.getElem?_eq_some_iff.1 hy).1
    have hg' : g[i]? = some y := by
      rw [hg, List.getElem?_append_right (by simp; omega)]
      simp only [List.length_map, List.length_take, Nat.min_eq_left (Nat.le_of_lt hi), Nat.sub_self]
      rw [List.getElem?_drop]
      simpa using hy
    constructor
    · simp only [impl_ysessions_do_l1]
      rw [hb, rng_len, show decide ((i : Int) < (l.length : Int)) = true from decide_eq_true (by omega)]
      simp only [cond_true]
      rw [rng_get (by omega), Option.bind_some, idx_nat, hg']
      simp only [Option.bind_some]
      rw [wrap_succ (by omega)]
      unfold killI
      cases hd : y.dead_
      · simp [gdO]
      · simp [gdO]
    · rw [hg]
      apply List.ext_getElem?
      intro j
      rw [List.getElem?_set]
      by_cases hj : i = j
      · subst hj
        rw [if_pos rfl, if_pos (by simp; omega), List.getElem?_append_left (by simp; omega), List.getElem?_map, List.getElem?_take_of_lt (by omega), hy]
        rfl
      · rw [if_neg hj]
        by_cases hlt : j < i
        · rw [List.getElem?_append_left (by simp; omega), List.getElem?_append_left (by simp; omega), List.getElem?_map, List.getElem?_map, List.getElem?_take_of_lt hlt, List.getElem?_take_of_lt (by omega)]
        · rw [List.getElem?_append_right (by simp; omega), List.getElem?_append_right (by simp; omega)]
          simp only [List.length_map, List.length_take, List.getElem?_drop]
          congr 1
          omega) (fun g _ => by simp [impl_ysessions_do_l1, hb, rng_len, hf]) f.length 0 f (by omega) (by simp))
  obtain ⟨h1, h2⟩ := this
  simp only [List.drop_zero] at h1 h2
  rw [show ((0 : Int)) = ((0 : Nat) : Int) from rfl, h1, h2]
  simp
end Go.G36.SX
/- What the program's sessions do with an event, and with all of them. -/
namespace Go.G36.SX
set_option linter.all false
open Go Go.G36 Go.Proofs Go.G36.SL

variable {C : T_impl_SessConf}
theorem eqX_rfl {α : Type} (x : α) : eqX x x = some () := by unfold eqX; simp
theorem eqL_rfl {α : Type} (x : List α) : eqL x x = some () := by unfold eqL; simp
theorem next_impl (hk : Bytes C.Key_) (hk64 : C.Key_.length ≤ 64) {b : T_impl_ysessions} (hb : b.c_ = C) {n : Nat} (hn : b.ids_ = (n : Int)) (hlt : n < 1000000) (f : List T_impl_ysession) (ax : List (Option (List ByteArray))) :
    impl_ysessions_next b f ax = some (H C.Key_ (n + 1), { b with ids_ := ((n + 1 : Nat) : Int) }) := by
  unfold impl_ysessions_next
  rw [hb, hn, IntWalk.i64_in _ (by omega), show ((n : Int) + 1) = ((n + 1 : Nat) : Int) by omega, H_impl hk hk64 (by omega) (by omega)]
  rfl
theorem do_impl (hk : Bytes C.Key_) (hk64 : C.Key_.length ≤ 64) {k : Nat} {b : T_impl_ysessions} {f : List T_impl_ysession} {ax : List (Option (List ByteArray))} {s : MS} (hI : Inv k s) (hk2 : k ≤ 1000) (R : RI C (H C.Key_) b f ax s) (e : T_impl_SessEvent) :
    ∃ b' f' ax', impl_ysessions_do e b f ax = some ((Do C (H C.Key_) e s).1, b', f', ax') ∧ RI C (H C.Key_) b' f' ax' (Do C (H C.Key_) e s).2 ∧ b'.reply_ = b.reply_ := by
  have hg := hI.given
  have hlen := hI.len
  have hidl : ∀ (i : Nat) (x : MX), s.list[i]? = some x → x.ids.length ≤ 1000000 := fun i x hx => by have := (hI.ids i x hx).2.2.2.1; omega
  have F := R.fam
  have hfl := F.len
  unfold impl_ysessions_do
  rw [bad_impl]
  unfold Do
  cases hb : bad e with
  | true => exact ⟨b, f, ax, rfl, R, rfl⟩
  | false =>
    have ht := bad_time hb
    simp only [cond_false]
    rw [R.now]
    cases hT : decide (e.Time_ < s.now) with
    | true => exact ⟨b, f, ax, rfl, R, rfl⟩
    | false =>
      simp only [cond_false]
      cases h1 : (e.Kind_ == 1) with
      | true =>
        simp only [cond_true]
        have F' := F.login (x' := ⟨[s.given + 1], e.User_, e.Device_, 1, e.Time_, e.Time_, false⟩) (y' := ⟨(ax.length : Int), e.User_, e.Device_, 1, e.Time_, e.Time_, false⟩) (l66 := [H C.Key_ (s.given + 1)]) ⟨rfl, rfl, rfl, rfl, rfl, rfl⟩ rfl rfl
        rw [next_impl hk hk64 (b := { b with now_ := e.Time_ }) R.c R.ids (by omega)]
        simp only [Option.bind_some]
        rw [eqX_rfl, Option.bind_some, R.list, hfl, app_get (by rw [rng_len]; simp; omega), Option.bind_some,
          id_impl F' (i := s.list.length) (x := ⟨[s.given + 1], e.User_, e.Device_, 1, e.Time_, e.Time_, false⟩) (by simp) (by simp) (by simp), Option.bind_some, idx_nat, ← hfl]
        simp only [List.getElem?_concat_length, Option.bind_some]
        refine ⟨_, _, _, rfl, ⟨R.c, rfl, rfl, ?_, F'⟩, rfl⟩
        show rng f.length ++ [(f.length : Int)] = _
        rw [List.length_append, ← hfl]
        exact (rng_succ _).symm
      | false =>
        simp only [cond_false]
        cases h5 : (e.Kind_ == 5) with
        | true =>
          simp only [cond_true]
          rw [kill_impl (C := C) R.list hfl (by omega), Option.bind_some]
          refine ⟨_, _, _, rfl, ⟨R.c, rfl, R.ids, ?_, F.killed _⟩, rfl⟩
          show b.list_ = rng (s.list.map _).length
          rw [List.length_map]
          exact R.list
        | false =>
          simp only [cond_false]
          rw [R.list, find_impl F (by omega) hidl]
          cases hfind : s.list.findIdx? (has (H C.Key_) e.Id_) with
          | none => exact ⟨_, _, _, rfl, ⟨R.c, rfl, R.ids, rfl, F⟩, rfl⟩
          | some i =>
            obtain ⟨hi, hhas, _⟩ := List.findIdx?_eq_some_iff_getElem.1 hfind
            have hx : s.list[i]? = some s.list[i] := by simp
            obtain ⟨y, hy, hS, hax⟩ := F.get hx
            obtain ⟨i1, i2, i3, i4, i5⟩ := hI.ids i _ hx
            dsimp only
            rw [hx]
            generalize hxe : s.list[i] = x at *
            have hfi : i < f.length := by omega
            obtain ⟨yn, yu, yd, yl, yg, ya, ye⟩ := y
            obtain ⟨q1, q2, q3, q4, q5, q6⟩ := hS
            dsimp only at q1 q2 q3 q4 q5 q6 hax
            subst q1 q2 q3 q4 q5 q6
            simp only [Option.bind_some]
            rw [show decide ((i : Int) < 0) = false from decide_eq_false (by omega)]
            simp only [cond_false]
            rw [rng_get hi, Option.bind_some, id_impl F hx i1 (hidl i x hx)]
            simp only [Option.bind_some, idx_nat, hy, Int.toNat_natCast]
            have ss : ∀ z, (f.set i z)[i]? = some z := fun z => by rw [List.getElem?_set_self hfi]
            have sl : ∀ z : MX, (s.list.set i z)[i]? = some z := fun z => by rw [List.getElem?_set_self hi]
            unfold act
            cases hA : ((H C.Key_ (top x)).toList == e.Id_.toList) with
            | false =>
              simp only [gdO, Bool.not_false, Bool.not_true, cond_false, cond_true, Option.bind_some, Bool.true_or]
              exact ⟨_, _, _, rfl, ⟨R.c, rfl, R.ids, by rw [List.length_set], F.set hx hy ⟨rfl, rfl, rfl, rfl, rfl, rfl⟩ rfl rfl⟩, rfl⟩
            | true =>
              simp only [gdO, Bool.not_false, Bool.not_true, cond_false, cond_true, Option.bind_some, Bool.false_or]
              cases hD : (x.device.toList == e.Device_.toList) with
              | false =>
                simp only [Bool.not_false, cond_true]
                exact ⟨_, _, _, rfl, ⟨R.c, rfl, R.ids, by rw [List.length_set], F.set hx hy ⟨rfl, rfl, rfl, rfl, rfl, rfl⟩ rfl rfl⟩, rfl⟩
              | true =>
                simp only [Bool.not_true, cond_false]
                cases hd : x.dead with
                | true => exact ⟨_, _, _, rfl, ⟨R.c, rfl, R.ids, rfl, F⟩, rfl⟩
                | false =>
                  simp only [cond_false]
                  rw [over_impl F hx e.Time_ (C := C) (b := ⟨b.c_, e.Time_, b.ids_, rng s.list.length, b.reply_⟩) R.c, Option.bind_some]
                  cases hO : over C x e.Time_ with
                  | true => exact ⟨_, _, _, rfl, ⟨R.c, rfl, R.ids, rfl, F⟩, rfl⟩
                  | false =>
                    simp only [cond_false]
                    cases h3 : (e.Kind_ == 3) with
                    | true =>
                      simp only [cond_true, ss, Option.bind_some, List.set_set]
                      rw [next_impl hk hk64 (b := ⟨b.c_, e.Time_, b.ids_, rng s.list.length, b.reply_⟩) R.c R.ids (by omega)]
                      simp only [Option.bind_some]
                      rw [hax, Option.bind_some, app_get (by rw [List.length_map]; have := hidl i x hx; simp; omega), Option.bind_some]
                      have F' := F.raise (x' := ⟨x.ids ++ [s.given + 1], x.user, x.device, lift x.level, x.login, e.Time_, false⟩)
                        (y' := ⟨((ax.set (Int.toNat yn) none).length : Int), x.user, x.device, lift x.level, x.login, e.Time_, false⟩) (l66 := x.ids.map (H C.Key_) ++ [H C.Key_ (s.given + 1)]) hx hy
                        ⟨rfl, rfl, rfl, rfl, rfl, rfl⟩ (by simp) rfl
                      unfold impl_ysessions_do_j1
                      have hid := id_impl F' (i := i) (sl _) (by simp) (by have := hidl i x hx; simp; omega)
                      unfold lift at hid
                      rw [hid, Option.bind_some, idx_nat, ss]
                      refine ⟨⟨b.c_, e.Time_, ((s.given + 1 : Nat) : Int), rng s.list.length, b.reply_⟩, _, _, ?_, ⟨R.c, rfl, rfl, by rw [List.length_set], F'⟩, rfl⟩
                      unfold told lift
                      rfl
                    | false =>
                      simp only [cond_false]
                      cases h4 : (e.Kind_ == 4) with
                      | true =>
                        simp only [cond_true, ss, Option.bind_some, List.set_set]
                        have F' := F.set (x' := ⟨x.ids, x.user, x.device, x.level, x.login, e.Time_, true⟩) (y' := ⟨yn, x.user, x.device, x.level, x.login, e.Time_, true⟩) hx hy ⟨rfl, rfl, rfl, rfl, rfl, rfl⟩ rfl rfl
                        unfold impl_ysessions_do_j1
                        rw [id_impl F' (i := i) (sl _) i1 (hidl i x hx), Option.bind_some, idx_nat, ss]
                        refine ⟨⟨b.c_, e.Time_, b.ids_, rng s.list.length, b.reply_⟩, _, _, ?_, ⟨R.c, rfl, R.ids, by rw [List.length_set], F'⟩, rfl⟩
                        unfold told
                        rfl
                      | false =>
                        simp only [cond_false]
                        have F' := F.set (x' := ⟨x.ids, x.user, x.device, x.level, x.login, e.Time_, false⟩) (y' := ⟨yn, x.user, x.device, x.level, x.login, e.Time_, false⟩) hx hy ⟨rfl, rfl, rfl, rfl, rfl, rfl⟩ rfl rfl
                        unfold impl_ysessions_do_j1
                        rw [id_impl F' (i := i) (sl _) i1 (hidl i x hx), Option.bind_some, idx_nat, ss]
                        refine ⟨⟨b.c_, e.Time_, b.ids_, rng s.list.length, b.reply_⟩, _, _, ?_, ⟨R.c, rfl, R.ids, by rw [List.length_set], F'⟩, rfl⟩
                        unfold told
                        rfl
end Go.G36.SX
/- What the reference's sessions do with an event: small things. -/
namespace Go.G36.SX
set_option linter.all false
open Go Go.G36 Go.Proofs Go.G36.SL

variable {C : T_impl_SessConf}
def P (x : T_spec_l19X) : T_impl_ysession := ⟨x.ids_, x.user_, x.device_, x.level_, x.login_, x.last_, x.dead_⟩
structure RS (C : T_impl_SessConf) (h : Nat → ByteArray) (b : T_spec_l19S) (ax : List (Option (List ByteArray))) (s : MS) : Prop where
  c : b.c_ = C
  now : b.now_ = s.now
  ids : b.given_ = (s.given : Int)
  fam : Fam h (b.list_.map P) ax s.list
theorem Fam.getS {h : Nat → ByteArray} {f : List T_spec_l19X} {ax : List (Option (List ByteArray))} {l : List MX} (F : Fam h (f.map P) ax l) {i : Nat} {x : MX} (hx : l[i]? = some x) :
    ∃ n : Int, f[i]? = some ⟨n, x.user, x.device, x.level, x.login, x.last, x.dead⟩ ∧ axg ax n = some (x.ids.map h) := by
  obtain ⟨y, hy, hS, hax⟩ := F.get hx
  rw [List.getElem?_map, Option.map_eq_some_iff] at hy
  obtain ⟨z, hz, rfl⟩ := hy
  obtain ⟨zn, zu, zd, zl, zg, za, ze⟩ := z
  obtain ⟨q1, q2, q3, q4, q5, q6⟩ := hS
  unfold P at q1 q2 q3 q4 q5 q6 hax
  dsimp only at q1 q2 q3 q4 q5 q6 hax
  subst q1 q2 q3 q4 q5 q6
  exact ⟨zn, hz, hax⟩
theorem bad_spec (e : T_impl_SessEvent) : spec_l19Bad e = some (bad e) := by
  unfold spec_l19Bad spec_l15Not
  rw [spec_good, spec_good]
  unfold bad bad0
  generalize (((decide (e.Kind_ < 1) || decide (e.Kind_ > 5)) || decide (e.Time_ < 0)) || decide (e.Time_ > 100000000000)) = B
  have hne : (e.Kind_ != 5) = !(e.Kind_ == 5) := rfl
  rw [hne]
  generalize (e.Kind_ == 1) = k1
  generalize (e.Kind_ == 5) = k5
  generalize goodP e.User_ = gu
  generalize goodP e.Device_ = gd
  generalize (e.User_.toList == e0.toList) = eu
  generalize (e.Device_.toList == e0.toList) = ed
  generalize (e.Id_.toList == e0.toList) = ei
  cases B <;> cases k1 <;> cases k5 <;> cases gu <;> cases gd <;> cases eu <;> cases ed <;> cases ei <;> rfl
theorem told_spec {h : Nat → ByteArray} {ax : List (Option (List ByteArray))} {x : MX} {n : Int} (hax : axg ax n = some (x.ids.map h)) (h1 : x.ids ≠ []) (h2 : x.ids.length ≤ 1000000) :
    spec_l19Told ⟨n, x.user, x.device, x.level, x.login, x.last, x.dead⟩ ax = some (told h x) := by
  unfold spec_l19Told
  rw [hax, Option.bind_some, last_get h1 h2]
  rfl
theorem over_spec {x : MX} {n : Int} (t : Int) {b : T_spec_l19S} (hb : b.c_ = C) (ax : List (Option (List ByteArray))) : spec_l19S_over ⟨n, x.user, x.device, x.level, x.login, x.last, x.dead⟩ t b ax = some (over C x t) := by
  unfold spec_l19S_over over
  rw [hb]
theorem next_spec (hk : Bytes C.Key_) (hk65 : C.Key_.length ≤ 65) {b : T_spec_l19S} (hb : b.c_ = C) {n : Nat} (hn : b.given_ = (n : Int)) (hlt : n < 1000000) (ax : List (Option (List ByteArray))) :
    spec_l19S_id b ax = some (H C.Key_ (n + 1), { b with given_ := ((n + 1 : Nat) : Int) }) := by
  unfold spec_l19S_id
  rw [hb, hn, IntWalk.i64_in _ (by omega), show ((n : Int) + 1) = ((n + 1 : Nat) : Int) by omega, H_spec hk hk65 (by omega) (by omega)]
  rfl
noncomputable def killS (u : ByteArray) (y : T_spec_l19X) : T_spec_l19X := cond (y.user_.toList == u.toList) { y with dead_ := true } y
theorem killS_P (u : ByteArray) (y : T_spec_l19X) : P (killS u y) = killI u (P y) := by
  unfold killS killI P
  cases hu : (y.user_.toList == u.toList) <;> simp [hu]
theorem take_set {α : Type} (g : α → α) {f : List α} {i : Nat} {y : α} (hy : f[i]? = some y) : ((f.take i).map g ++ f.drop i).set i (g y) = (f.take (i + 1)).map g ++ f.drop (i + 1) := by
  have hi := (List.getElem?_eq_some_iff.1 hy).1
  apply List.ext_getElem?
  intro j
  rw [List.getElem?_set]
  by_cases hj : i = j
  · subst hj
    rw [if_pos rfl, if_pos (by simp; omega), List.getElem?_append_left (by simp; omega), List.getElem?_map, List.getElem?_take_of_lt (by omega), hy]
    rfl
  · rw [if_neg hj]
    by_cases hlt : j < i
    · rw [List.getElem?_append_left (by simp; omega), List.getElem?_append_left (by simp; omega), List.getElem?_map, List.getElem?_map, List.getElem?_take_of_lt hlt, List.getElem?_take_of_lt (by omega)]
    · rw [List.getElem?_append_right (by simp; omega), List.getElem?_append_right (by simp; omega)]
      simp only [List.length_map, List.length_take, List.getElem?_drop]
      congr 1
      omega
theorem take_get {α : Type} (g : α → α) {f : List α} {i : Nat} {y : α} (hy : f[i]? = some y) : ((f.take i).map g ++ f.drop i)[i]? = some y := by
  have hi := (List.getElem?_eq_some_iff.1 hy).1
  rw [List.getElem?_append_right (by simp; omega)]
  simp only [List.length_map, List.length_take, Nat.min_eq_left (Nat.le_of_lt hi), Nat.sub_self]
  rw [List.getElem?_drop]
  simpa using hy
theorem set_keep {α : Type} {l : List α} {i : Nat} {y : α} (h : l[i]? = some y) : l.set i y = l := by
  have hi := (List.getElem?_eq_some_iff.1 h).1
  apply List.ext_getElem?
  intro j
  rw [List.getElem?_set]
  split
  · next e => subst e; first | exact h.symm | (rw [if_pos hi, h])
  · rfl
theorem kill_spec {b : T_spec_l19S} (hl : b.list_.length ≤ 1000000) (e : T_impl_SessEvent) : loopO (spec_l19S_do_l1 e b) (⟨b.c_, e.Time_, b.given_, b.list_⟩, 0) = some ⟨b.c_, e.Time_, b.given_, b.list_.map (killS e.User_)⟩ := by
  have := (loop_fold b.list_ (spec_l19S_do_l1 e b) (fun g v => (g, v)) (fun i y g => cond (y.user_.toList == e.User_.toList) { g with list_ := g.list_.set i { y with dead_ := true } } g) (fun g => g)
    (fun i g => g = ⟨b.c_, e.Time_, b.given_, (b.list_.take i).map (killS e.User_) ++ b.list_.drop i⟩) (fun i y g hy hg => by
    have hi := (List.getElem?_eq_some_iff.1 hy).1
    subst hg
    have hg' := take_get (killS e.User_) hy
    have hs' := take_set (killS e.User_) hy
    constructor
    · simp only [spec_l19S_do_l1]
      rw [show decide ((i : Int) < (b.list_.length : Int)) = true from decide_eq_true (by omega)]
      simp only [cond_true, idx_nat, hg', Option.bind_some]
      rw [wrap_succ (by omega)]
      cases hu : (y.user_.toList == e.User_.toList) <;> simp
    · rw [← hs']
      unfold killS
      cases hu : (y.user_.toList == e.User_.toList)
      · simp only [cond_false]
        congr 1
        have hg2 := hg'
        unfold killS at hg2
        rw [set_keep hg2]
      · simp only [cond_true]) (fun g _ => by simp [spec_l19S_do_l1]) b.list_.length 0 ⟨b.c_, e.Time_, b.given_, b.list_⟩ (by omega) (by simp))
  obtain ⟨h1, h2⟩ := this
  simp only [List.drop_zero] at h1 h2
  rw [show ((0 : Int)) = ((0 : Nat) : Int) from rfl, h1, h2]
  simp
/-- An Id names one session alone. -/
theorem has_one {k : Nat} {s : MS} (hI : Inv k s) (hk2 : k ≤ 1000000) (hk : Bytes C.Key_) (hk65 : C.Key_.length ≤ 65) (id : ByteArray) {i j : Nat} {x y : MX} (hx : s.list[i]? = some x) (hy : s.list[j]? = some y) (h1 : has (H C.Key_) id x = true) (h2 : has (H C.Key_) id y = true) : i = j := by
  unfold has at h1 h2
  rw [List.any_eq_true] at h1 h2
  obtain ⟨m, hm, em⟩ := h1
  obtain ⟨n, hn, en⟩ := h2
  rw [tl_beq] at em en
  have a := (hI.ids i x hx).2.2.1 m hm
  have b := (hI.ids j y hy).2.2.1 n hn
  have hg := hI.given
  have := H_inj hk hk65 a.1 (by omega) b.1 (by omega) (em.trans en.symm)
  subst this
  rcases Nat.decEq i j with hne | he
  · exact absurd hn (hI.apart i j x y hx hy hne m hm)
  · exact he
theorem find_spec {k : Nat} {b : T_spec_l19S} {ax : List (Option (List ByteArray))} {s : MS} (hI : Inv k s) (hk2 : k ≤ 1000) (hk : Bytes C.Key_) (hk65 : C.Key_.length ≤ 65) (R : RS C (H C.Key_) b ax s) (e : T_impl_SessEvent) :
    loopO (spec_l19S_do_l2 e b ax) (-1, 0) = some (match s.list.findIdx? (has (H C.Key_) e.Id_) with | none => -1 | some i => (i : Int)) := by
  have hlen := hI.len
  have hfl : b.list_.length = s.list.length := by simpa using R.fam.len
  have := (loop_fold s.list (spec_l19S_do_l2 e b ax) (fun g v => (g, v)) (fun i x g => cond (has (H C.Key_) e.Id_ x) (i : Int) g) (fun g => g)
    (fun i g => g = (match (s.list.take i).findIdx? (has (H C.Key_) e.Id_) with | none => -1 | some i => (i : Int))) (fun i x g hx hg => by
    have hi := (List.getElem?_eq_some_iff.1 hx).1
    obtain ⟨n, hy, hax⟩ := R.fam.getS hx
    have hxl := (hI.ids i x hx).2.2.2.1
    have hg2 := hI.given
    constructor
    · simp only [spec_l19S_do_l2]
      rw [hfl, show decide ((i : Int) < (s.list.length : Int)) = true from decide_eq_true (by omega)]
      simp only [cond_true, idx_nat, hy, Option.bind_some, hax]
      rw [has_eq _ _ (by rw [List.length_map]; unfold big; omega), Option.bind_some, has_same, wrap_succ (by omega)]
      cases has (H C.Key_) e.Id_ x <;> rfl
    · rw [hg, List.take_add_one, hx, List.findIdx?_append]
      simp only [Option.toList_some, List.findIdx?_cons, List.findIdx?_nil, List.length_take, Nat.min_eq_left (Nat.le_of_lt hi), Option.map_none]
      cases hh : has (H C.Key_) e.Id_ x with
      | false => simp
      | true =>
        have : (s.list.take i).findIdx? (has (H C.Key_) e.Id_) = none := by
          rw [List.findIdx?_eq_none_iff]
          intro y hy
          obtain ⟨j, hj, rfl⟩ := List.getElem_of_mem hy
          simp only [List.length_take] at hj
          rw [List.getElem_take]
          cases hh2 : has (H C.Key_) e.Id_ s.list[j] with
          | false => rfl
          | true =>
            have := has_one hI (by omega) hk hk65 e.Id_ hx (show s.list[j]? = some s.list[j] by simp) hh hh2
            omega
        rw [this]
        simp) (fun g _ => by simp [spec_l19S_do_l2, hfl]) s.list.length 0 (-1) (by omega) (by simp))
  obtain ⟨h1, h2⟩ := this
  simp only [List.drop_zero] at h1 h2
  rw [show ((0 : Int)) = ((0 : Nat) : Int) from rfl, h1, h2, List.take_length]
end Go.G36.SX
/- What the reference's sessions do with an event. -/
namespace Go.G36.SX
set_option linter.all false
open Go Go.G36 Go.Proofs Go.G36.SL

variable {C : T_impl_SessConf}
theorem do_spec (hk : Bytes C.Key_) (hk65 : C.Key_.length ≤ 65) {k : Nat} {b : T_spec_l19S} {ax : List (Option (List ByteArray))} {s : MS} (hI : Inv k s) (hk2 : k ≤ 1000) (R : RS C (H C.Key_) b ax s) (e : T_impl_SessEvent) :
    ∃ b' ax', spec_l19S_do e b ax = some ((Do C (H C.Key_) e s).1, b', ax') ∧ RS C (H C.Key_) b' ax' (Do C (H C.Key_) e s).2 := by
  have hg := hI.given
  have hlen := hI.len
  have hidl : ∀ (i : Nat) (x : MX), s.list[i]? = some x → x.ids.length ≤ 1000000 := fun i x hx => by have := (hI.ids i x hx).2.2.2.1; omega
  have F := R.fam
  have hfl : b.list_.length = s.list.length := by simpa using R.fam.len
  unfold spec_l19S_do
  rw [bad_spec, Option.bind_some]
  unfold Do
  cases hb : bad e with
  | true => exact ⟨b, ax, rfl, R⟩
  | false =>
    have ht := bad_time hb
    simp only [cond_false]
    rw [R.now]
    cases hT : decide (e.Time_ < s.now) with
    | true => exact ⟨b, ax, rfl, R⟩
    | false =>
      simp only [cond_false]
      cases h1 : (e.Kind_ == 1) with
      | true =>
        simp only [cond_true]
        have F' := F.login (x' := ⟨[s.given + 1], e.User_, e.Device_, 1, e.Time_, e.Time_, false⟩) (y' := P ⟨(ax.length : Int), e.User_, e.Device_, 1, e.Time_, e.Time_, false⟩) (l66 := [H C.Key_ (s.given + 1)]) ⟨rfl, rfl, rfl, rfl, rfl, rfl⟩ rfl rfl
        have hax : axg (ax ++ [some [H C.Key_ (s.given + 1)]]) (ax.length : Int) = some (([s.given + 1] : List Nat).map (H C.Key_)) := by
          unfold axg
          rw [if_pos (by omega), Int.toNat_natCast]
          simp
        rw [next_spec hk hk65 (b := ⟨b.c_, e.Time_, b.given_, b.list_⟩) R.c R.ids (by omega)]
        simp only [Option.bind_some]
        rw [eqX_rfl, Option.bind_some, app_get (by simp; omega), Option.bind_some,
          told_spec (x := ⟨[s.given + 1], e.User_, e.Device_, 1, e.Time_, e.Time_, false⟩) hax (by simp) (by simp), Option.bind_some]
        refine ⟨_, _, rfl, ⟨R.c, rfl, rfl, ?_⟩⟩
        dsimp only
        rw [List.map_append]
        exact F'
      | false =>
        simp only [cond_false]
        cases h5 : (e.Kind_ == 5) with
        | true =>
          simp only [cond_true]
          rw [kill_spec (by omega), Option.bind_some]
          refine ⟨_, _, rfl, ⟨R.c, rfl, R.ids, ?_⟩⟩
          dsimp only
          rw [List.map_map, show (P ∘ killS e.User_) = (killI e.User_ ∘ P) from funext fun y => killS_P _ y, ← List.map_map]
          exact F.killed _
        | false =>
          simp only [cond_false]
          rw [find_spec hI hk2 hk hk65 R]
          cases hfind : s.list.findIdx? (has (H C.Key_) e.Id_) with
          | none => exact ⟨_, _, rfl, ⟨R.c, rfl, R.ids, F⟩⟩
          | some i =>
            obtain ⟨hi, hhas, _⟩ := List.findIdx?_eq_some_iff_getElem.1 hfind
            have hx : s.list[i]? = some s.list[i] := by simp
            obtain ⟨n, hy, hax⟩ := F.getS hx
            obtain ⟨i1, i2, i3, i4, i5⟩ := hI.ids i _ hx
            dsimp only
            rw [hx]
            generalize hxe : s.list[i] = x at *
            have hfi : i < b.list_.length := by omega
            have hyP : (b.list_.map P)[i]? = some (P ⟨n, x.user, x.device, x.level, x.login, x.last, x.dead⟩) := by rw [List.getElem?_map, hy]; rfl
            have hmap : ∀ z : T_spec_l19X, (b.list_.set i z).map P = (b.list_.map P).set i (P z) := fun z => List.map_set
            simp only [Option.bind_some]
            rw [show decide ((i : Int) < 0) = false from decide_eq_false (by omega)]
            simp only [cond_false, idx_nat, hy, Option.bind_some, hax, Int.toNat_natCast]
            rw [last_get i1 (hidl i x hx), Option.bind_some]
            have ss : ∀ z, (b.list_.set i z)[i]? = some z := fun z => by rw [List.getElem?_set_self hfi]
            unfold act
            cases hA : ((H C.Key_ (top x)).toList == e.Id_.toList) with
            | false =>
              simp only [Bool.not_false, Bool.not_true, cond_false, cond_true, Option.bind_some, Bool.true_or]
              refine ⟨_, _, rfl, ⟨R.c, rfl, R.ids, ?_⟩⟩
              dsimp only
              rw [hmap]
              exact F.set hx hyP ⟨rfl, rfl, rfl, rfl, rfl, rfl⟩ rfl rfl
            | true =>
              simp only [Bool.not_false, Bool.not_true, cond_false, cond_true, Option.bind_some, Bool.false_or]
              cases hD : (x.device.toList == e.Device_.toList) with
              | false =>
                simp only [Bool.not_false, cond_true]
                refine ⟨_, _, rfl, ⟨R.c, rfl, R.ids, ?_⟩⟩
                dsimp only
                rw [hmap]
                exact F.set hx hyP ⟨rfl, rfl, rfl, rfl, rfl, rfl⟩ rfl rfl
              | true =>
                simp only [Bool.not_true, cond_false]
                cases hd : x.dead with
                | true => exact ⟨_, _, rfl, ⟨R.c, rfl, R.ids, F⟩⟩
                | false =>
                  simp only [cond_false]
                  have hov := over_spec (C := C) (x := x) (n := n) e.Time_ (b := ⟨b.c_, e.Time_, b.given_, b.list_⟩) R.c ax
                  rw [hd] at hov
                  rw [hov, Option.bind_some]
                  cases hO : over C x e.Time_ with
                  | true => exact ⟨_, _, rfl, ⟨R.c, rfl, R.ids, F⟩⟩
                  | false =>
                    simp only [cond_false]
                    cases h3 : (e.Kind_ == 3) with
                    | true =>
                      have hL : spec_l15Lesser (IntKind.i64.wrap (x.level + 1)) 9 = some (lift x.level) := by
                        unfold spec_l15Lesser lift
                        by_cases hq : IntKind.i64.wrap (x.level + 1) < 9
                        · rw [decide_eq_true hq, if_pos hq]; rfl
                        · rw [decide_eq_false hq, if_neg hq]; rfl
                      simp only [cond_true, hL, Option.bind_some, List.set_set]
                      rw [next_spec hk hk65 (b := ⟨b.c_, e.Time_, b.given_, _⟩) R.c R.ids (by omega)]
                      simp only [Option.bind_some]
                      rw [eqL_rfl, Option.bind_some, app_get (by rw [List.length_map]; have := hidl i x hx; simp; omega), Option.bind_some]
                      have F' := F.raise (x' := ⟨x.ids ++ [s.given + 1], x.user, x.device, lift x.level, x.login, e.Time_, false⟩)
                        (y' := P ⟨((ax.set (Int.toNat n) none).length : Int), x.user, x.device, lift x.level, x.login, e.Time_, false⟩) (l66 := x.ids.map (H C.Key_) ++ [H C.Key_ (s.given + 1)]) hx hyP
                        ⟨rfl, rfl, rfl, rfl, rfl, rfl⟩ (by simp) rfl
                      have hax' : axg ((ax.set (Int.toNat n) none) ++ [some (x.ids.map (H C.Key_) ++ [H C.Key_ (s.given + 1)])]) ((ax.set (Int.toNat n) none).length : Int) = some ((x.ids ++ [s.given + 1]).map (H C.Key_)) := by
                        unfold axg
                        rw [if_pos (by omega), Int.toNat_natCast]
                        simp
                      unfold spec_l19S_do_j1
                      simp only [idx_nat, ss, Option.bind_some]
                      rw [told_spec (x := ⟨x.ids ++ [s.given + 1], x.user, x.device, lift x.level, x.login, e.Time_, false⟩) hax' (by simp) (by have := hidl i x hx; simp; omega), Option.bind_some]
                      refine ⟨_, _, rfl, ⟨R.c, rfl, rfl, ?_⟩⟩
                      dsimp only
                      rw [hmap]
                      exact F'
                    | false =>
                      simp only [cond_false]
                      cases h4 : (e.Kind_ == 4) with
                      | true =>
                        simp only [cond_true, List.set_set]
                        unfold spec_l19S_do_j1
                        simp only [idx_nat, ss, Option.bind_some]
                        rw [told_spec (x := ⟨x.ids, x.user, x.device, x.level, x.login, e.Time_, true⟩) hax i1 (hidl i x hx), Option.bind_some]
                        refine ⟨_, _, rfl, ⟨R.c, rfl, R.ids, ?_⟩⟩
                        dsimp only
                        rw [hmap]
                        exact F.set hx hyP ⟨rfl, rfl, rfl, rfl, rfl, rfl⟩ rfl rfl
                      | false =>
                        simp only [cond_false]
                        unfold spec_l19S_do_j1
                        simp only [idx_nat, ss, Option.bind_some]
                        rw [told_spec (x := ⟨x.ids, x.user, x.device, x.level, x.login, e.Time_, false⟩) hax i1 (hidl i x hx), Option.bind_some]
                        refine ⟨_, _, rfl, ⟨R.c, rfl, R.ids, ?_⟩⟩
                        dsimp only
                        rw [hmap]
                        exact F.set hx hyP ⟨rfl, rfl, rfl, rfl, rfl, rfl⟩ rfl rfl
end Go.G36.SX
/- Runs of sessions, both. -/
namespace Go.G36.SX
set_option linter.all false
open Go Go.G36 Go.Proofs Go.G36.SL

variable {C : T_impl_SessConf}
def goodC (C : T_impl_SessConf) : Bool := (((decide ((C.Key_.length : Int) ≤ 64) && decide (C.Idle_ ≥ 1)) && decide (C.Idle_ ≤ 1000000)) && decide (C.Most_ ≥ 1)) && decide (C.Most_ ≤ 1000000)
theorem goodC_key (h : goodC C = true) : C.Key_.length ≤ 64 := by
  unfold goodC at h
  simp only [Bool.and_eq_true, decide_eq_true_eq] at h
  omega
theorem Run_take (h : Nat → ByteArray) (es : List T_impl_SessEvent) {i : Nat} {e : T_impl_SessEvent} (he : es[i]? = some e) : Run C h (es.take (i + 1)) = ((Run C h (es.take i)).1 ++ [(Do C h e (Run C h (es.take i)).2).1], (Do C h e (Run C h (es.take i)).2).2) := by
  rw [List.take_add_one, he]
  exact Run_snoc C h _ e
theorem run_impl (hk : Bytes C.Key_) (hg : goodC C = true) (es : List T_impl_SessEvent) (hl : es.length ≤ 200) :
    ∃ b f ax, impl_yrunSessions C es = some (.inl (b, f, ax)) ∧ RI C (H C.Key_) b f ax (Run C (H C.Key_) es).2 ∧ b.reply_ = (Run C (H C.Key_) es).1 := by
  have key : Ok (loopO (impl_yrunSessions_l1 es) (⟨C, 0, 0, [], []⟩, [], [], 0)) fun q => RI C (H C.Key_) q.1 q.2.1 q.2.2 (Run C (H C.Key_) es).2 ∧ q.1.reply_ = (Run C (H C.Key_) es).1 := by
    refine Ok.loop (fun n s => ∃ i : Nat, i + n = es.length ∧ s.2.2.2 = (i : Int) ∧ RI C (H C.Key_) s.1 s.2.1 s.2.2.1 (Run C (H C.Key_) (es.take i)).2 ∧ s.1.reply_ = (Run C (H C.Key_) (es.take i)).1) ?_ (n := es.length)
      ⟨0, by omega, rfl, ⟨rfl, rfl, rfl, rfl, Fam.nil⟩, rfl⟩
    rintro n ⟨b, f, ax, v⟩ ⟨i, hi, hv, R, hr⟩
    dsimp only at hv R hr
    subst hv
    unfold impl_yrunSessions_l1
    dsimp only
    refine Ok.cond (fun hd => ?_) (fun hd => ?_)
    · have hlt : i < es.length := by have := of_decide_eq_true hd; omega
      have he : es[i]? = some es[i] := by simp
      obtain ⟨hI, hrl⟩ := Inv.run (C := C) (h := H C.Key_) (es.take i)
      rw [List.length_take] at hI hrl
      obtain ⟨b', f', ax', e1, R', hr'⟩ := do_impl hk (goodC_key hg) hI (by omega) R es[i]
      rw [idx_nat, he, Option.bind_some, e1]
      simp only [Option.bind_some]
      rw [hr', eqL_rfl, Option.bind_some, app_get (by rw [hr, hrl]; simp; omega), Option.bind_some]
      refine Ok.some ⟨n - 1, by omega, i + 1, by omega, wrap_succ (by omega), ?_, ?_⟩
      · rw [Run_take _ _ he]
        exact ⟨R'.c, R'.now, R'.ids, R'.list, R'.fam⟩
      · rw [Run_take _ _ he, hr]
    · have hge : i = es.length := by have := of_decide_eq_false hd; omega
      subst hge
      rw [List.take_length] at R hr
      exact Ok.some ⟨R, hr⟩
  obtain ⟨⟨b, f, ax⟩, e, R, hr⟩ := key
  refine ⟨b, f, ax, ?_, R, hr⟩
  unfold impl_yrunSessions impl_GoodSessConf
  have hg' := hg
  unfold goodC at hg'
  rw [hg', Option.bind_some, e, show decide ((es.length : Int) > 200) = false from decide_eq_false (by omega)]
  rfl
theorem run_spec (hk : Bytes C.Key_) (hk65 : C.Key_.length ≤ 65) (es : List T_impl_SessEvent) (hl : es.length ≤ 200) :
    ∃ b ax, spec_l19Run C es = some (b, (Run C (H C.Key_) es).1, ax) ∧ RS C (H C.Key_) b ax (Run C (H C.Key_) es).2 := by
  have key : Ok (loopO (spec_l19Run_l1 es) (⟨C, 0, 0, []⟩, [], [], 0)) fun q => RS C (H C.Key_) q.1 q.2.1 (Run C (H C.Key_) es).2 ∧ q.2.2 = (Run C (H C.Key_) es).1 := by
    refine Ok.loop (fun n s => ∃ i : Nat, i + n = es.length ∧ s.2.2.2 = (i : Int) ∧ RS C (H C.Key_) s.1 s.2.1 (Run C (H C.Key_) (es.take i)).2 ∧ s.2.2.1 = (Run C (H C.Key_) (es.take i)).1) ?_ (n := es.length)
      ⟨0, by omega, rfl, ⟨rfl, rfl, rfl, Fam.nil⟩, rfl⟩
    rintro n ⟨b, ax, rs, v⟩ ⟨i, hi, hv, R, hr⟩
    dsimp only at hv R hr
    subst hv
    unfold spec_l19Run_l1
    dsimp only
    refine Ok.cond (fun hd => ?_) (fun hd => ?_)
    · have hlt : i < es.length := by have := of_decide_eq_true hd; omega
      have he : es[i]? = some es[i] := by simp
      obtain ⟨hI, hrl⟩ := Inv.run (C := C) (h := H C.Key_) (es.take i)
      rw [List.length_take] at hI hrl
      obtain ⟨b', ax', e1, R'⟩ := do_spec hk hk65 hI (by omega) R es[i]
      rw [idx_nat, he, Option.bind_some, e1]
      simp only [Option.bind_some]
      rw [app_get (by rw [hr, hrl]; simp; omega), Option.bind_some]
      refine Ok.some ⟨n - 1, by omega, i + 1, by omega, wrap_succ (by omega), ?_, ?_⟩
      · rw [Run_take _ _ he]
        exact R'
      · rw [Run_take _ _ he, hr]
    · have hge : i = es.length := by have := of_decide_eq_false hd; omega
      subst hge
      rw [List.take_length] at R hr
      exact Ok.some ⟨R, hr⟩
  obtain ⟨⟨b, ax, rs⟩, e, R, hr⟩ := key
  dsimp only at R hr
  subst hr
  refine ⟨b, ax, ?_, R⟩
  unfold spec_l19Run
  rw [e]
  rfl
/-- Who is signed in. -/
noncomputable def live (C : T_impl_SessConf) (t : Int) (x : MX) : Bool := !x.dead && !over C x t
noncomputable def inR (C : T_impl_SessConf) (es : List T_impl_SessEvent) (t : Int) : List T_impl_SessReply :=
  if goodC C = true ∧ es.length ≤ 200 ∧ ¬ t < (Run C (H C.Key_) es).2.now then ((Run C (H C.Key_) es).2.list.filter (live C t)).map (told (H C.Key_)) else []
theorem SignedIn_impl (hk : Bytes C.Key_) (es : List T_impl_SessEvent) (t : Int) : impl_SignedIn C es t = some (inR C es t) := by
  unfold impl_SignedIn inR
  by_cases hg : goodC C = true ∧ es.length ≤ 200
  · obtain ⟨b, f, ax, e, R, hr⟩ := run_impl hk hg.1 es hg.2
    obtain ⟨hI, _⟩ := Inv.run (C := C) (h := H C.Key_) es
    generalize Run C (H C.Key_) es = q at *
    obtain ⟨rs, s⟩ := q
    dsimp only at R hr hI ⊢
    rw [e, Option.bind_some]
    dsimp only
    rw [R.now]
    by_cases ht : t < s.now
    · rw [decide_eq_true ht, if_neg (fun h => h.2.2 ht)]
      rfl
    · rw [decide_eq_false ht, if_pos ⟨hg.1, hg.2, ht⟩]
      simp only [Bool.not_true, Bool.or_false, cond_false]
      have hlen := hI.len
      have := (loop_fold s.list (impl_SignedIn_l1 t b f ax) (fun g v => (g, v)) (fun i x g => cond (live C t x) (g ++ [told (H C.Key_) x]) g) (fun g => g)
        (fun i g => g = ((s.list.take i).filter (live C t)).map (told (H C.Key_))) (fun i x g hx hg => by
        have hi := (List.getElem?_eq_some_iff.1 hx).1
        obtain ⟨y, hy, hS, hax⟩ := R.fam.get hx
        obtain ⟨i1, i2, i3, i4, i5⟩ := hI.ids i x hx
        have hg2 := hI.given
        constructor
        · simp only [impl_SignedIn_l1]
          rw [R.list, rng_len, show decide ((i : Int) < (s.list.length : Int)) = true from decide_eq_true (by omega)]
          simp only [cond_true]
          rw [rng_get hi, Option.bind_some, idx_nat, hy, Option.bind_some, over_impl R.fam hx t R.c, hS.dead]
          unfold live
          have hgl : g.length ≤ 200 := by
            rw [hg, List.length_map]
            have := List.length_filter_le (live C t) (s.list.take i)
            rw [List.length_take] at this
            omega
          cases x.dead with
          | true => simp [wrap_succ (i := i) (by omega)]
          | false =>
            simp only [Bool.not_false, cond_true, Option.bind_some, Bool.true_and]
            cases over C x t with
            | true => simp [wrap_succ (i := i) (by omega)]
            | false =>
              simp only [Bool.not_false, cond_true]
              rw [id_impl R.fam hx i1 (by omega), Option.bind_some, app_get (by simp; omega), Option.bind_some, wrap_succ (by omega), hS.user, hS.level]
              rfl
        · rw [hg, List.take_add_one, hx, Option.toList_some, List.filter_append, List.map_append]
          cases hL : live C t x <;> simp [hL]) (fun g _ => by simp [impl_SignedIn_l1, R.list, rng_len]) s.list.length 0 [] (by omega) (by simp))
      obtain ⟨h1, h2⟩ := this
      simp only [List.drop_zero] at h1 h2
      rw [show ((0 : Int)) = ((0 : Nat) : Int) from rfl, h1, h2, List.take_length]
      rfl
  · rw [if_neg (fun h => hg ⟨h.1, h.2.1⟩)]
    unfold impl_yrunSessions impl_GoodSessConf
    have : ((!goodC C) || decide ((es.length : Int) > 200)) = true := by
      simp only [Bool.or_eq_true, Bool.not_eq_true', decide_eq_true_eq]
      cases hc : goodC C with
      | false => exact .inl rfl
      | true => exact .inr (by have : ¬ es.length ≤ 200 := fun h => hg ⟨hc, h⟩; omega)
    unfold goodC at this
    rw [Option.bind_some, this]
    rfl
theorem SignedIn_spec (hk : Bytes C.Key_) (es : List T_impl_SessEvent) (t : Int) : spec_SignedIn C es t = some (inR C es t) := by
  unfold spec_SignedIn inR spec_GoodSessConf
  by_cases hg : goodC C = true ∧ es.length ≤ 200
  · obtain ⟨b, ax, e, R⟩ := run_spec hk (by have := goodC_key hg.1; omega) es hg.2
    obtain ⟨hI, _⟩ := Inv.run (C := C) (h := H C.Key_) es
    have hg' := hg.1
    unfold goodC at hg'
    rw [e, Option.bind_some, hg', show decide ((es.length : Int) > 200) = false from decide_eq_false (by omega)]
    generalize Run C (H C.Key_) es = q at *
    obtain ⟨rs, s⟩ := q
    dsimp only at R hI ⊢
    simp only [Bool.not_true, Bool.or_false, cond_false, Option.bind_some]
    rw [R.now]
    by_cases ht : t < s.now
    · rw [decide_eq_true ht, if_neg (fun h => h.2.2 ht)]
      rfl
    · rw [decide_eq_false ht, if_pos ⟨hg.1, hg.2, ht⟩]
      simp only [cond_false]
      have hlen := hI.len
      have hfl : b.list_.length = s.list.length := by simpa using R.fam.len
      have := (loop_fold s.list (spec_SignedIn_l1 t b ax) (fun g v => (g, v)) (fun i x g => cond (live C t x) (g ++ [told (H C.Key_) x]) g) (fun g => g)
        (fun i g => g = ((s.list.take i).filter (live C t)).map (told (H C.Key_))) (fun i x g hx hg => by
        have hi := (List.getElem?_eq_some_iff.1 hx).1
        obtain ⟨n, hy, hax⟩ := R.fam.getS hx
        obtain ⟨i1, i2, i3, i4, i5⟩ := hI.ids i x hx
        have hg2 := hI.given
        constructor
        · simp only [spec_SignedIn_l1]
          rw [hfl, show decide ((i : Int) < (s.list.length : Int)) = true from decide_eq_true (by omega)]
          simp only [cond_true]
          rw [idx_nat, hy, Option.bind_some, over_spec t R.c ax, told_spec hax i1 (by omega)]
          unfold live
          have hgl : g.length ≤ 200 := by
            rw [hg, List.length_map]
            have := List.length_filter_le (live C t) (s.list.take i)
            rw [List.length_take] at this
            omega
          cases x.dead with
          | true => simp [wrap_succ (i := i) (by omega)]
          | false =>
            simp only [Bool.not_false, cond_true, Option.bind_some, Bool.true_and]
            cases over C x t with
            | true => simp [wrap_succ (i := i) (by omega)]
            | false =>
              simp only [Bool.not_false, cond_true]
              rw [app_get (by simp; omega), Option.bind_some, wrap_succ (by omega)]
        · rw [hg, List.take_add_one, hx, Option.toList_some, List.filter_append, List.map_append]
          cases hL : live C t x <;> simp [hL]) (fun g _ => by simp [spec_SignedIn_l1, hfl]) s.list.length 0 [] (by omega) (by simp))
      obtain ⟨h1, h2⟩ := this
      simp only [List.drop_zero] at h1 h2
      rw [show ((0 : Int)) = ((0 : Nat) : Int) from rfl, h1, h2, List.take_length]
      rfl
  · rw [if_neg (fun h => hg ⟨h.1, h.2.1⟩)]
    have : ((!goodC C) || decide ((es.length : Int) > 200)) = true := by
      simp only [Bool.or_eq_true, Bool.not_eq_true', decide_eq_true_eq]
      cases hc : goodC C with
      | false => exact .inl rfl
      | true => exact .inr (by have : ¬ es.length ≤ 200 := fun h => hg ⟨hc, h⟩; omega)
    unfold goodC at this
    rw [Option.bind_some, this]
    rfl
theorem inR_len {C : T_impl_SessConf} (es : List T_impl_SessEvent) (t : Int) : (inR C es t).length ≤ 200 := by
  unfold inR
  split
  · next h =>
    rw [List.length_map]
    have := List.length_filter_le (live C t) (Run C (H C.Key_) es).2.list
    have := (Inv.run (C := C) (h := H C.Key_) es).1.len
    omega
  · simp
end Go.G36.SX
/- FnExactSignedIn: the law's helpers. -/
namespace Go.G36.SX
set_option linter.all false
open Go Go.G36 Go.Proofs Go.G36.SL

theorem i64n (n : Int) (h1 : -9223372036854775808 ≤ n) (h2 : n ≤ 9223372036854775807) : IntKind.i64.wrap n = n := IntWalk.i64_in n (by omega)
def evT (e : T_laws_SessEvent) : T_impl_SessEvent := ⟨e.Kind_, e.Time_, e.User_, e.Device_, e.Id_⟩
def cfT (c : T_laws_SessConf) : T_impl_SessConf := ⟨c.Key_, c.Idle_, c.Most_⟩
def evSz (e : T_laws_SessEvent) : Nat := e.User_.size + e.Device_.size + e.Id_.size
def evOk (e : T_laws_SessEvent) : Prop := e.User_.size ≤ maxLen ∧ e.Device_.size ≤ maxLen ∧ e.Id_.size ≤ maxLen

theorem szConf_eq (c : T_laws_SessConf) (v0 : Int) (h0 : 0 ≤ v0) (hv : v0 ≤ 1048576) (hl : c.Key_.length ≤ maxLen) :
    ∃ r, laws_szSessConf c v0 = some r ∧ (r < 0 ∨ (0 ≤ r ∧ r ≤ v0 ∧ (c.Key_.length : Int) ≤ v0)) := by
  unfold maxLen at hl
  unfold laws_szSessConf laws_szByteS
  rw [i64n _ (by omega) (by omega)]
  cases hd : decide (v0 - (c.Key_.length : Int) < 0) with
  | true => exact ⟨-1, rfl, .inl (by omega)⟩
  | false =>
    have hd' := of_decide_eq_false hd
    refine ⟨v0 - c.Key_.length, ?_, .inr ⟨by omega, by omega, by omega⟩⟩
    simp only [cond_false, Option.bind_some, hd]
theorem szEvent_eq (e : T_laws_SessEvent) (v : Int) (h0 : 0 ≤ v) (hv : v ≤ 1048576) (hx : evOk e) : laws_szSessEvent e v = cond (decide (v - evSz e < 0)) (some (-1)) (some (v - evSz e)) := by
  unfold evOk maxLen at hx
  unfold laws_szSessEvent evSz
  rw [i64n (v - (e.User_.size : Int)) (by omega) (by omega)]
  by_cases h1 : v - (e.User_.size : Int) < 0
  · rw [decide_eq_true h1, decide_eq_true (show v - ((e.User_.size + e.Device_.size + e.Id_.size : Nat) : Int) < 0 by omega)]; rfl
  rw [decide_eq_false h1, i64n (v - (e.User_.size : Int) - (e.Device_.size : Int)) (by omega) (by omega)]
  by_cases h2 : v - (e.User_.size : Int) - (e.Device_.size : Int) < 0
  · rw [decide_eq_true h2, decide_eq_true (show v - ((e.User_.size + e.Device_.size + e.Id_.size : Nat) : Int) < 0 by omega)]; rfl
  rw [decide_eq_false h2, i64n (v - (e.User_.size : Int) - (e.Device_.size : Int) - (e.Id_.size : Int)) (by omega) (by omega)]
  have e3 : v - (e.User_.size : Int) - (e.Device_.size : Int) - (e.Id_.size : Int) = v - ((e.User_.size + e.Device_.size + e.Id_.size : Nat) : Int) := by omega
  rw [e3]
  rfl
theorem szEvents_eq (xs : List T_laws_SessEvent) (v0 : Int) (h0 : 0 ≤ v0) (hv : v0 ≤ 1048576) (hl : xs.length ≤ maxLen) (hx : ∀ x, x ∈ xs → evOk x) :
    ∃ r, laws_szSessEventS xs v0 = some r ∧ (r < 0 ∨ (0 ≤ r ∧ r ≤ v0 ∧ (xs.length : Int) ≤ v0)) := by
  unfold maxLen at hl
  unfold laws_szSessEventS
  rw [i64n _ (by omega) (by omega)]
  cases hd : decide (v0 - (xs.length : Int) < 0) with
  | true => exact ⟨-1, rfl, .inl (by omega)⟩
  | false =>
    have hd' := of_decide_eq_false hd
    obtain ⟨q, h1, h2⟩ := loop_sz xs (laws_szSessEventS_l1 xs) evSz (v0 - xs.length) (by omega) (fun i a v ha k1 k2 => by
      have hi := (List.getElem?_eq_some_iff.1 ha).1
      simp only [laws_szSessEventS_l1, lt_dec hi, cond_true, idx_nat, ha, Option.bind_some, wrap_succ (i := i) (by omega), szEvent_eq a v k1 (by omega) (hx a (List.mem_of_getElem? ha))]
      cases hc : decide (v - (evSz a : Int) < 0) with
      | true => rfl
      | false => simp only [cond_false, Option.bind_some, hc]) (fun v => by simp [laws_szSessEventS_l1])
    simp only [cond_false, h1, Option.bind_some]
    rcases h2 with rfl | ⟨v, rfl, k1, k2, k3⟩
    · exact ⟨-1, rfl, .inl (by omega)⟩
    · exact ⟨v, rfl, .inr ⟨k1, by omega, by omega⟩⟩

theorem mk_okn {α : Type} (z : α) (n : Nat) (h : n ≤ 4294967296) : mk z (n : Int) = some (List.replicate n z) := by
  unfold mk; rw [if_pos (by omega)]; simp
theorem toByteS_eq (xs : List Int) (hl : xs.length ≤ 4294967296) : laws_toByteS xs = some xs := by
  unfold laws_toByteS
  rw [mk_okn _ _ hl]
  simp only [Option.bind_some]
  rw [loop_to xs (laws_toByteS_l1 xs) (fun x => x) _ (by simp) (fun i a l ha hll => by
    have hi := (List.getElem?_eq_some_iff.1 ha).1
    simp only [laws_toByteS_l1, lt_dec hi, cond_true, idx_nat, ha, Option.bind_some, wrap_succ (i := i) (by omega), Int.toNat_natCast]
    rw [List.getElem?_eq_getElem (by omega)]
    simp) (fun l => by simp [laws_toByteS_l1])]
  simp
theorem toConf_eq (c : T_laws_SessConf) (hl : c.Key_.length ≤ 4294967296) : laws_toSessConf c = some (cfT c) := by
  unfold laws_toSessConf
  rw [toByteS_eq _ hl]
  rfl
theorem toEvents_eq (xs : List T_laws_SessEvent) (hl : xs.length ≤ 4294967296) : laws_toSessEventS xs = some (xs.map evT) := by
  unfold laws_toSessEventS
  rw [mk_okn _ _ hl]
  simp only [Option.bind_some]
  rw [loop_to xs (laws_toSessEventS_l1 xs) evT _ (by simp) (fun i a l ha hll => by
    have hi := (List.getElem?_eq_some_iff.1 ha).1
    simp only [laws_toSessEventS_l1, laws_toSessEvent, lt_dec hi, cond_true, idx_nat, ha, Option.bind_some, wrap_succ (i := i) (by omega), Int.toNat_natCast]
    rw [List.getElem?_eq_getElem (by omega)]
    simp [evT]) (fun l => by simp [laws_toSessEventS_l1])]
  simp

theorem eqReplies_self (xs : List T_impl_SessReply) (hl : xs.length < 9223372036854775807) : laws_eqSessReplyS xs xs = some true := by
  unfold laws_eqSessReplyS
  rw [loop_eq xs (laws_eqSessReplyS_l1 xs xs) (fun i a ha => by
    have hi := (List.getElem?_eq_some_iff.1 ha).1
    simp [laws_eqSessReplyS_l1, laws_eqSessReply, hi, idx_nat, ha, wrap_succ (i := i) (by omega)]) (by simp [laws_eqSessReplyS_l1])]
  simp
theorem eqByteS_self (xs : List Int) (hl : xs.length < 9223372036854775807) : laws_eqByteS xs xs = some true := by
  unfold laws_eqByteS
  rw [loop_eq xs (laws_eqByteS_l1 xs xs) (fun i a ha => by
    have hi := (List.getElem?_eq_some_iff.1 ha).1
    simp [laws_eqByteS_l1, hi, idx_nat, ha, wrap_succ (i := i) (by omega)]) (by simp [laws_eqByteS_l1])]
  simp
theorem eqConf_self (c : T_impl_SessConf) (hl : c.Key_.length < 9223372036854775807) : laws_eqSessConf c c = some true := by
  unfold laws_eqSessConf
  rw [eqByteS_self _ hl]
  simp
theorem eqEvents_self (xs : List T_impl_SessEvent) (hl : xs.length < 9223372036854775807) : laws_eqSessEventS xs xs = some true := by
  unfold laws_eqSessEventS
  rw [loop_eq xs (laws_eqSessEventS_l1 xs xs) (fun i a ha => by
    have hi := (List.getElem?_eq_some_iff.1 ha).1
    simp [laws_eqSessEventS_l1, laws_eqSessEvent, hi, idx_nat, ha, wrap_succ (i := i) (by omega)]) (by simp [laws_eqSessEventS_l1])]
  simp

theorem markText_some (v : Int) (hv : v ≤ 1000000000000) : ∃ t, laws_markText v = some t := by
  unfold laws_markText
  by_cases h0 : v ≤ 0
  · exact ⟨ByteArray.mk #[109, 48], by simp [h0]⟩
  · rw [decide_eq_false h0]
    have hz0 : e0.size = 0 := rfl
    obtain ⟨t, h1, h2⟩ := loop_digits laws_markText_l1 (fun v s k1 k2 k3 => by
      have hc : cat (byS [IntKind.u8.wrap (IntKind.i64.wrap (48 + Int.tmod v 10))]) s = some (byS [IntKind.u8.wrap (IntKind.i64.wrap (48 + Int.tmod v 10))] ++ s) := by
        unfold cat; rw [if_pos (by have hb : (byS [IntKind.u8.wrap (IntKind.i64.wrap (48 + Int.tmod v 10))]).size = 1 := rfl; omega)]
      refine ⟨_, ?_, by simp only [laws_markText_l1, decide_eq_true (show v > 0 from k1), cond_true, hc, Option.bind_some]; rw [i64n]
                        · have := Int.tdiv_eq_ediv_of_nonneg (b := 10) (show 0 ≤ v by omega); omega
                        · have := Int.tdiv_eq_ediv_of_nonneg (b := 10) (show 0 ≤ v by omega); omega⟩
      have hb : (byS [IntKind.u8.wrap (IntKind.i64.wrap (48 + Int.tmod v 10))]).size = 1 := rfl
      rw [ByteArray.size_append]; omega) (fun s => by simp [laws_markText_l1]) v.toNat v e0 (Nat.le_refl _) (by omega) (by omega)
    simp only [cond_false, h1, Option.bind_some]
    have : cat (ByteArray.mk #[109]) t = some (ByteArray.mk #[109] ++ t) := by
      have hz : (ByteArray.mk #[109]).size = 1 := rfl
      unfold cat; rw [if_pos (by omega)]
    exact ⟨_, by rw [this]; rfl⟩

theorem markByteS_eq (xs : List Int) (v0 : Int) (h0 : 0 ≤ v0) (h1 : v0 ≤ 10000000) (hl : (xs.length : Int) ≤ 1048576) : ∃ l, laws_markByteSx v0 xs = some (v0 + xs.length, l) ∧ l.length = xs.length := by
  obtain ⟨l, k1, k2, _⟩ := loop_mark xs laws_markByteSx_l1 1 v0 (fun _ _ => True) (fun i l v hi hll hv => by
    refine ⟨IntKind.u8.wrap v, trivial, ?_⟩
    simp only [laws_markByteSx_l1, hll, lt_dec hi, cond_true, Option.bind_some, idx_nat, Int.toNat_natCast]
    rw [List.getElem?_eq_getElem (by omega), i64n _ (by omega) (by omega), i64n _ (by omega) (by omega)]
    rfl) (fun l v hll => by simp [laws_markByteSx_l1, hll])
  refine ⟨l, ?_, k2⟩
  unfold laws_markByteSx
  rw [k1]; simp
theorem lenEq_of {α β : Type} {l : List α} {m : List β} (h : l.length = m.length) : lenEq l m = some () := by unfold lenEq; rw [if_pos h]
theorem markConf_eq (c : T_impl_SessConf) (v0 : Int) (h0 : 0 ≤ v0) (h1 : v0 ≤ 10000000) (hl : (c.Key_.length : Int) ≤ 1048576) : ∃ l, laws_markSessConfx c v0 = some (v0 + c.Key_.length, l) := by
  obtain ⟨l, a1, a2⟩ := markByteS_eq c.Key_ v0 h0 h1 hl
  refine ⟨l, ?_⟩
  unfold laws_markSessConfx
  rw [a1, Option.bind_some]
  dsimp only
  rw [lenEq_of a2]
  rfl

theorem markEvents_eq (xs : List T_impl_SessEvent) (v0 : Int) (h0 : 0 ≤ v0) (h1 : v0 ≤ 10000000) (hl : (xs.length : Int) ≤ 1048576) : ∃ l, laws_markSessEventSx v0 xs = some (v0 + 5 * xs.length, l) ∧ l.length = xs.length := by
  obtain ⟨l, k1, k2, _⟩ := loop_mark xs laws_markSessEventSx_l1 5 v0 (fun _ _ => True) (fun i l v hi hll hv => by
    obtain ⟨t2, ht2⟩ := markText_some (v + 1 + 1) (by omega)
    obtain ⟨t3, ht3⟩ := markText_some (v + 1 + 1 + 1) (by omega)
    obtain ⟨t4, ht4⟩ := markText_some (v + 1 + 1 + 1 + 1) (by omega)
    refine ⟨⟨v, v + 1, t2, t3, t4⟩, trivial, ?_⟩
    have w1 : IntKind.i64.wrap (v + 1) = v + 1 := i64n _ (by omega) (by omega)
    have w2 : IntKind.i64.wrap (v + 1 + 1) = v + 1 + 1 := i64n _ (by omega) (by omega)
    have w3 : IntKind.i64.wrap (v + 1 + 1 + 1) = v + 1 + 1 + 1 := i64n _ (by omega) (by omega)
    have w4 : IntKind.i64.wrap (v + 1 + 1 + 1 + 1) = v + 1 + 1 + 1 + 1 := i64n _ (by omega) (by omega)
    have w5 : IntKind.i64.wrap (v + 1 + 1 + 1 + 1 + 1) = v + 5 := by rw [i64n _ (by omega) (by omega)]; omega
    simp only [laws_markSessEventSx_l1, hll, lt_dec hi, cond_true, Option.bind_some, idx_nat, Int.toNat_natCast, w1, w2, w3, w4, w5, ht2, ht3, ht4]
    rw [List.getElem?_eq_getElem (by omega), i64n ((i : Int) + 1) (by omega) (by omega)]
    simp [hll, hi]) (fun l v hll => by simp [laws_markSessEventSx_l1, hll])
  refine ⟨l, ?_, k2⟩
  unfold laws_markSessEventSx
  rw [k1]; simp

def markR (v : Int) (b : T_impl_SessReply) : Prop := b.Err_ = v ∧ laws_markText (v + 1) = some b.Id_ ∧ laws_markText (v + 1 + 1) = some b.User_ ∧ b.Level_ = v + 1 + 1 + 1
theorem markReplies_eq (xs : List T_impl_SessReply) (v0 : Int) (h0 : 0 ≤ v0) (h1 : v0 ≤ 10000000) (hl : (xs.length : Int) ≤ 1048576) :
    ∃ l, laws_markSessReplySx v0 xs = some (v0 + 4 * xs.length, l) ∧ l.length = xs.length ∧ ∀ (i : Nat) (b : T_impl_SessReply), l[i]? = some b → markR (v0 + 4 * i) b := by
  obtain ⟨l, k1, k2, k3⟩ := loop_mark xs laws_markSessReplySx_l1 4 v0 markR (fun i l v hi hll hv => by
    obtain ⟨t1, ht1⟩ := markText_some (v + 1) (by omega)
    obtain ⟨t2, ht2⟩ := markText_some (v + 1 + 1) (by omega)
    refine ⟨⟨v, t1, t2, v + 1 + 1 + 1⟩, ⟨rfl, ht1, ht2, rfl⟩, ?_⟩
    have w1 : IntKind.i64.wrap (v + 1) = v + 1 := i64n _ (by omega) (by omega)
    have w2 : IntKind.i64.wrap (v + 1 + 1) = v + 1 + 1 := i64n _ (by omega) (by omega)
    have w3 : IntKind.i64.wrap (v + 1 + 1 + 1) = v + 1 + 1 + 1 := i64n _ (by omega) (by omega)
    have w4 : IntKind.i64.wrap (v + 1 + 1 + 1 + 1) = v + 4 := by rw [i64n _ (by omega) (by omega)]; omega
    simp only [laws_markSessReplySx_l1, hll, lt_dec hi, cond_true, Option.bind_some, idx_nat, Int.toNat_natCast, w1, w2, w3, w4, ht1, ht2]
    rw [List.getElem?_eq_getElem (by omega), i64n ((i : Int) + 1) (by omega) (by omega)]
    simp [hll, hi]) (fun l v hll => by simp [laws_markSessReplySx_l1, hll])
  refine ⟨l, ?_, k2, k3⟩
  unfold laws_markSessReplySx
  rw [k1]; simp
theorem heldReplies_eq (xs : List T_impl_SessReply) (v0 : Int) (h0 : 0 ≤ v0) (h1 : v0 ≤ 10000000) (hl : (xs.length : Int) ≤ 1048576) (hx : ∀ (i : Nat) (b : T_impl_SessReply), xs[i]? = some b → markR (v0 + 4 * i) b) :
    laws_heldSessReplyS xs v0 = some (v0 + 4 * xs.length) := by
  unfold laws_heldSessReplyS
  rw [loop_held xs (laws_heldSessReplyS_l1 xs) 4 v0 (fun i a ha => by
    have hi := (List.getElem?_eq_some_iff.1 ha).1
    obtain ⟨m1, m2, m3, m4⟩ := hx i a ha
    generalize hv : v0 + 4 * (i : Int) = v at *
    have w1 : IntKind.i64.wrap (v + 1) = v + 1 := i64n _ (by omega) (by omega)
    have w2 : IntKind.i64.wrap (v + 1 + 1) = v + 1 + 1 := i64n _ (by omega) (by omega)
    have w3 : IntKind.i64.wrap (v + 1 + 1 + 1) = v + 1 + 1 + 1 := i64n _ (by omega) (by omega)
    have w4 : IntKind.i64.wrap (v + 1 + 1 + 1 + 1) = v + 4 := by rw [i64n _ (by omega) (by omega)]; omega
    simp only [laws_heldSessReplyS_l1, lt_dec hi, cond_true, Option.bind_some, idx_nat, ha, m1, m2, m3, m4, w1, w2, w3, w4, bne_self_eq_false, cond_false, BEq.rfl, Bool.not_true, wrap_succ (i := i) (by omega)]) (fun v => by simp [laws_heldSessReplyS_l1])]
  simp

theorem law (c : T_laws_SessConf) (es : List T_laws_SessEvent) (t : Int) (hk : Bytes c.Key_) (hl : c.Key_.length ≤ maxLen) (hel : es.length ≤ maxLen) (hex : ∀ x, x ∈ es → evOk x) :
    laws_FnExactSignedIn c es t = some true := by
  unfold laws_FnExactSignedIn
  obtain ⟨r1, h1, k1⟩ := szConf_eq c 1048576 (by omega) (by omega) hl
  rw [h1]
  simp only [Option.bind_some]
  rcases k1 with k1 | ⟨k1, k1', k2⟩
  · simp [k1]
  rw [decide_eq_false (by omega : ¬ r1 < 0)]
  obtain ⟨r3, h3, m1⟩ := szEvents_eq es r1 k1 (by omega) hel hex
  rw [h3]
  simp only [cond_false, Option.bind_some]
  rcases m1 with m1 | ⟨m1, m1', m2⟩
  · simp [m1]
  rw [decide_eq_false (by omega : ¬ r3 < 0)]
  have hkC : Bytes (cfT c).Key_ := hk
  have hkl : (cfT c).Key_.length = c.Key_.length := rfl
  have hsi := SignedIn_impl hkC (es.map evT) t
  have hss := SignedIn_spec hkC (es.map evT) t
  have hrl := inR_len (C := cfT c) (es.map evT) t
  generalize hR : inR (cfT c) (es.map evT) t = R at hrl hsi hss
  obtain ⟨l1, a1⟩ := markConf_eq (cfT c) 1 (by omega) (by omega) (by omega)
  obtain ⟨l2, b1, b2⟩ := markEvents_eq (es.map evT) (1 + (cfT c).Key_.length) (by omega) (by omega) (by simp; omega)
  obtain ⟨l3, c1, c2, c3⟩ := markReplies_eq R 1 (by omega) (by omega) (by omega)
  have hh := heldReplies_eq l3 1 (by omega) (by omega) (by omega) c3
  have e1 : decide (1 + ((cfT c).Key_.length : Int) + 5 * ((es.map evT).length : Int) < 0) = false := decide_eq_false (by omega)
  have e2 : decide (1 + 4 * (l3.length : Int) < 0) = false := decide_eq_false (by omega)
  simp only [cond_false, Option.bind_some, toConf_eq c (by omega), toEvents_eq es (by omega), hsi, hss,
    eqReplies_self R (by omega), eqConf_self (cfT c) (by omega), eqEvents_self (es.map evT) (by simp; omega), Bool.not_true, a1, b1, c1, lenEq_of b2, lenEq_of c2, e1, gdO, Bool.not_false, cond_true, Bool.false_or, hh, e2]
  simp [c2]
end Go.G36.SX
