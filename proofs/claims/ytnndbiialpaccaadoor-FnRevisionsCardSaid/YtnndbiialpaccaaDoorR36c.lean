/- The digest: the program's and the reference's are the same. -/
import Derived.Test.YtnndbiialpaccaaDoorR36a
import Derived.Test.YtnndbiialpaccaaDoorRV12
namespace Go.G36.RV1
set_option linter.all false
open Go Go.G36 Go.G36.RV

def Bytes (l : List Int) : Prop := ∀ b, b ∈ l → 0 ≤ b ∧ b ≤ 255
theorem Bytes.app {l m : List Int} (h : Bytes l) (k : Bytes m) : Bytes (l ++ m) := fun b hb => by
  rcases List.mem_append.1 hb with hb | hb
  · exact h b hb
  · exact k b hb
theorem Bytes.take {l : List Int} (h : Bytes l) (n : Nat) : Bytes (l.take n) := fun b hb => h b (List.mem_of_mem_take hb)
theorem Bytes.drop {l : List Int} (h : Bytes l) (n : Nat) : Bytes (l.drop n) := fun b hb => h b (List.mem_of_mem_drop hb)
theorem Bytes.get {l : List Int} (h : Bytes l) {i : Nat} (hi : i < l.length) : 0 ≤ l[i] ∧ l[i] ≤ 255 := h _ (List.getElem_mem hi)
theorem Bytes.nil : Bytes [] := fun b hb => by cases hb

/-- The four numbers. -/
def W4 (b : List Int) : Prop := b.length = 4 ∧ ∀ x, x ∈ b → 0 ≤ x ∧ x < 2147483579
theorem W4.get {b : List Int} (h : W4 b) {i : Nat} (hi : i < b.length) : 0 ≤ b[i] ∧ b[i] < 2147483579 := h.2 _ (List.getElem_mem hi)

abbrev mults : List Int := [1103515245, 69069, 1664525, 22695477]
theorem mults_get {i : Nat} (hi : i < mults.length) : 0 ≤ mults[i] ∧ mults[i] ≤ 1103515245 := by
  have : ∀ x, x ∈ mults → 0 ≤ x ∧ x ≤ 1103515245 := by decide
  exact this _ (List.getElem_mem hi)
theorem mul_small {a b : Int} (h1 : 0 ≤ a) (h2 : a < 2147483579) (h3 : 0 ≤ b) (h4 : b ≤ 1103515245) : 0 ≤ a * b ∧ a * b ≤ 2147483579 * 1103515245 := by
  refine ⟨Int.mul_nonneg h1 h3, Int.mul_le_mul (by omega) h4 h3 (by decide)⟩

theorem mix_eq {x : Int} (h0 : 0 ≤ x) (h1 : x ≤ 255) {b : List Int} (hb : W4 b) : Ok2 (impl_Digest_1 x b mults) (spec_l2Mixx (IntKind.i64.wrap x) b) fun r r' => r = r' ∧ W4 r := by
  unfold impl_Digest_1 spec_l2Mixx
  refine Ok2.bind (Ok2.loop (P := fun r r' => r = r' ∧ W4 r) (fun n s s' => s = s' ∧ n ≤ 4 ∧ s.2 = 4 - (n : Int) ∧ W4 s.1) ?_ (n := 4) ⟨rfl, by omega, by simp, hb⟩) fun r r' h => Ok2.some h
  rintro n ⟨b, v⟩ s' ⟨rfl, hn, hv, hb⟩
  dsimp only at hv
  replace hb : W4 b := hb
  subst hv
  unfold impl_Digest_1_l1 spec_l2Mixx_l1
  dsimp only
  cases n with
  | zero =>
    rw [show decide (4 - ((0 : Nat) : Int) < 4) = false from decide_eq_false (by omega)]
    exact Ok2.some ⟨rfl, hb⟩
  | succ n =>
    rw [show decide (4 - ((n + 1 : Nat) : Int) < 4) = true from decide_eq_true (by omega)]
    have hl := hb.1
    have hi : (4 - ((n + 1 : Nat) : Int)).toNat < b.length := by omega
    have him : (4 - ((n + 1 : Nat) : Int)).toNat < mults.length := by show _ < 4; omega
    have h4 : 0 ≤ 4 - ((n + 1 : Nat) : Int) := by omega
    have hw : IntKind.i64.wrap (4 - ((n + 1 : Nat) : Int) + 1) = 4 - ((n + 1 : Nat) : Int) + 1 := IntWalk.i64_in _ (by omega)
    have hj0 : 0 ≤ Int.tmod (IntKind.i64.wrap (4 - ((n + 1 : Nat) : Int) + 1)) 4 := by
      rw [hw]; exact Int.tmod_nonneg _ (by omega)
    have hj1 : (Int.tmod (IntKind.i64.wrap (4 - ((n + 1 : Nat) : Int) + 1)) 4).toNat < b.length := by
      have := Int.tmod_lt_of_pos (IntKind.i64.wrap (4 - ((n + 1 : Nat) : Int) + 1)) (b := 4) (by omega)
      omega
    simp only [cond_true, ixA_get hl h4 hi, ixA_get (n := 4) (xs := mults) rfl h4 him, ixA_get hl hj0 hj1, idx_get h4 hi, idx_get h4 him, idx_get hj0 hj1, Option.bind_some]
    refine Ok2.some ?_
    refine ⟨n, by omega, ?_, by omega, ?_, ?_⟩
    · rw [show IntKind.i64.wrap x = x from IntWalk.i64_in _ (by omega)]
    · show IntKind.i64.wrap _ = _
      rw [IntWalk.i64_in _ (by omega)]; omega
    · refine ⟨by simp [hl], fun y hy => ?_⟩
      rcases List.mem_or_eq_of_mem_set hy with h | h
      · exact hb.2 y h
      · subst h
        have g1 := hb.get hi
        have g2 := mults_get him
        have g3 := hb.get hj1
        have g4 := mul_small g1.1 g1.2 g2.1 g2.2
        generalize b[(4 - ((n + 1 : Nat) : Int)).toNat] * mults[(4 - ((n + 1 : Nat) : Int)).toNat] = p at g4
        generalize b[(Int.tmod (IntKind.i64.wrap (4 - ((n + 1 : Nat) : Int) + 1)) 4).toNat] = q at g3
        rw [IntWalk.i64_in x (by omega), IntWalk.i64_in p (by omega), IntWalk.i64_in (p + x) (by omega), IntWalk.i64_in (p + x + 1) (by omega), IntWalk.i64_in (p + x + 1 + q) (by omega)]
        exact ⟨Int.tmod_nonneg _ (by omega), Int.tmod_lt_of_pos _ (by omega)⟩

/-- A number's four bytes. -/
def four (e : Int) : List Int := [e % 256, e / 256 % 256, e / 65536 % 256, e / 16777216 % 256]
theorem four_bytes (e : Int) : Bytes (four e) := fun b hb => by
  simp only [four, List.mem_cons, List.not_mem_nil, or_false] at hb
  omega
theorem ybytes_eq {e : Int} (h0 : 0 ≤ e) : impl_ybytes e = some (four e) := by
  unfold impl_ybytes four
  simp only [IntKind.wrap_u8]
  have h8 : (2 : Int) ^ (min (Int.toNat 8) IntKind.i64.bits) = 256 := rfl
  have h16 : (2 : Int) ^ (min (Int.toNat 16) IntKind.i64.bits) = 65536 := rfl
  have h24 : (2 : Int) ^ (min (Int.toNat 24) IntKind.i64.bits) = 16777216 := rfl
  rw [h8, h16, h24, Int.fdiv_eq_ediv_of_nonneg _ (by decide), Int.fdiv_eq_ediv_of_nonneg _ (by decide), Int.fdiv_eq_ediv_of_nonneg _ (by decide)]
theorem l2Bytes_eq {e : Int} (h0 : 0 ≤ e) (h1 : e ≤ 9223372036854775807) : spec_l2Bytes e = some (four e) := by
  unfold spec_l2Bytes
  have hm : mk (0 : Int) 4 = some [0, 0, 0, 0] := rfl
  rw [hm, Option.bind_some]
  have st : ∀ (l : List Int) (v i : Int), l.length = 4 → 0 ≤ v → v ≤ 9223372036854775807 → 0 ≤ i → i < 4 → spec_l2Bytes_l1 [0, 0, 0, 0] (l, v, i) = some (.inl (l.set i.toNat (v % 256), v / 256, i + 1)) := fun l v i hl hv hv1 hi hi1 => by
    unfold spec_l2Bytes_l1
    dsimp only
    rw [show decide (i < (([0, 0, 0, 0] : List Int).length : Int)) = true from decide_eq_true (by simpa using hi1)]
    simp only [cond_true, idx_get hi (show i.toNat < l.length by omega), Option.bind_some]
    rw [IntWalk.rem_in _ _ hv, IntKind.wrap_u8, IntWalk.i64_quo _ _ ⟨hv, hv1, by omega⟩, IntWalk.i64_in _ (by omega)]
    rw [show v % 256 % 256 = v % 256 by omega]
  have en : ∀ (l : List Int) (v : Int), spec_l2Bytes_l1 [0, 0, 0, 0] (l, v, 4) = some (.inr l) := fun l v => rfl
  rw [loopO_go (st _ _ _ rfl h0 h1 (by omega) (by omega))]
  rw [loopO_go (st _ _ _ rfl (by omega) (by omega) (by omega) (by omega))]
  rw [loopO_go (st _ _ _ rfl (by omega) (by omega) (by omega) (by omega))]
  rw [loopO_go (st _ _ _ rfl (by omega) (by omega) (by omega) (by omega))]
  rw [show (0 : Int) + 1 + 1 + 1 + 1 = 4 from rfl, loopO_end (en _ _)]
  show some _ = some _
  unfold four
  congr 1
  show [e % 256, e / 256 % 256, e / 256 / 256 % 256, e / 256 / 256 / 256 % 256] = _
  rw [show e / 256 / 256 = e / 65536 by omega, show e / 65536 / 256 = e / 16777216 by omega]

theorem eat_eq {r : List Int} (hr : Bytes r) (hlen : r.length ≤ 1000000000) {b : List Int} (hb : W4 b) : Ok2 (loopO (impl_Digest_l1 r) (b, 0)) (loopO (spec_l2Digest_l1 r) (b, 0)) fun x y => x = y ∧ W4 x := by
  refine Ok2.loop (fun n s s' => s = s' ∧ n ≤ r.length ∧ s.2 = (r.length : Int) - (n : Int) ∧ W4 s.1) ?_ (n := r.length) ⟨rfl, by omega, by simp, hb⟩
  rintro n ⟨b, v⟩ s' ⟨rfl, hn, hv, hb⟩
  dsimp only at hv
  replace hb : W4 b := hb
  subst hv
  unfold impl_Digest_l1 spec_l2Digest_l1
  dsimp only
  cases n with
  | zero =>
    rw [show decide ((r.length : Int) - ((0 : Nat) : Int) < (r.length : Int)) = false from decide_eq_false (by omega)]
    exact Ok2.some ⟨rfl, hb⟩
  | succ n =>
    rw [show decide ((r.length : Int) - ((n + 1 : Nat) : Int) < (r.length : Int)) = true from decide_eq_true (by omega)]
    have hi : ((r.length : Int) - ((n + 1 : Nat) : Int)).toNat < r.length := by omega
    simp only [cond_true, idx_get (show 0 ≤ (r.length : Int) - ((n + 1 : Nat) : Int) by omega) hi, Option.bind_some]
    have g := hr.get hi
    refine Ok2.bind (mix_eq g.1 g.2 hb) ?_
    rintro x y ⟨rfl, hx⟩
    have hle : lenEq x b = some () := by unfold lenEq; rw [if_pos (by rw [hx.1, hb.1])]
    rw [hle]
    refine Ok2.some ⟨n, by omega, rfl, by omega, ?_, hx⟩
    show IntKind.i64.wrap _ = _
    rw [IntWalk.i64_in _ (by omega)]; omega
theorem eat2_eq {r : List Int} (hr : Bytes r) (hlen : r.length ≤ 1000000000) {b : List Int} (hb : W4 b) : Ok2 (loopO (impl_Digest_l2 r) (b, 0)) (loopO (spec_l2Digest_l2 r) (b, 0)) fun x y => x = y ∧ W4 x := eat_eq hr hlen hb
theorem eat3_eq {b : List Int} (hb : W4 b) : Ok2 (loopO impl_Digest_l3 (b, 0)) (loopO spec_l2Digest_l3 (b, 0)) fun x y => x = y ∧ W4 x := by
  refine Ok2.loop (fun n s s' => s = s' ∧ n ≤ 8 ∧ s.2 = 8 - (n : Int) ∧ W4 s.1) ?_ (n := 8) ⟨rfl, by omega, by simp, hb⟩
  rintro n ⟨b, v⟩ s' ⟨rfl, hn, hv, hb⟩
  dsimp only at hv
  replace hb : W4 b := hb
  subst hv
  unfold impl_Digest_l3 spec_l2Digest_l3
  dsimp only
  cases n with
  | zero =>
    rw [show decide (8 - ((0 : Nat) : Int) < 8) = false from decide_eq_false (by omega)]
    exact Ok2.some ⟨rfl, hb⟩
  | succ n =>
    rw [show decide (8 - ((n + 1 : Nat) : Int) < 8) = true from decide_eq_true (by omega)]
    simp only [cond_true]
    refine Ok2.bind (mix_eq (x := 0) (by omega) (by omega) hb) ?_
    rintro x y ⟨rfl, hx⟩
    have hle : lenEq x b = some () := by unfold lenEq; rw [if_pos (by rw [hx.1, hb.1])]
    rw [hle]
    refine Ok2.some ⟨n, by omega, rfl, by omega, ?_, hx⟩
    show IntKind.i64.wrap _ = _
    rw [IntWalk.i64_in _ (by omega)]; omega
theorem out_eq {b : List Int} (hb : W4 b) : Ok2 (loopO (impl_Digest_l4 b) ([], 0)) (loopO (spec_l2Digest_l4 b) ([], 0)) fun x y => x = y ∧ x.length = 16 ∧ Bytes x := by
  refine Ok2.loop (fun n s s' => s = s' ∧ n ≤ 4 ∧ s.2 = 4 - (n : Int) ∧ s.1.length = 4 * (4 - n) ∧ Bytes s.1) ?_ (n := 4) ⟨rfl, by omega, by simp, rfl, Bytes.nil⟩
  rintro n ⟨l, v⟩ s' ⟨rfl, hn, hv, hl, hbl⟩
  dsimp only at hv hl hbl
  subst hv
  unfold impl_Digest_l4 spec_l2Digest_l4
  dsimp only
  have h4 := hb.1
  rw [h4]
  cases n with
  | zero =>
    rw [show decide (4 - ((0 : Nat) : Int) < 4) = false from decide_eq_false (by omega), show decide (4 - ((0 : Nat) : Int) < ((4 : Nat) : Int)) = false from decide_eq_false (by omega)]
    exact Ok2.some ⟨rfl, by omega, hbl⟩
  | succ n =>
    rw [show decide (4 - ((n + 1 : Nat) : Int) < 4) = true from decide_eq_true (by omega), show decide (4 - ((n + 1 : Nat) : Int) < ((4 : Nat) : Int)) = true from decide_eq_true (by omega)]
    have hi : (4 - ((n + 1 : Nat) : Int)).toNat < b.length := by omega
    have h0 : 0 ≤ 4 - ((n + 1 : Nat) : Int) := by omega
    have g := hb.get hi
    simp only [cond_true, ixA_get h4 h0 hi, idx_get h0 hi, Option.bind_some, ybytes_eq g.1, l2Bytes_eq g.1 (by omega)]
    have ha : app l (four b[(4 - ((n + 1 : Nat) : Int)).toNat]) = some (l ++ four b[(4 - ((n + 1 : Nat) : Int)).toNat]) := app_get (by show l.length + 4 ≤ _; omega)
    rw [ha, Option.bind_some]
    refine Ok2.some ⟨n, by omega, rfl, by omega, ?_, ?_, hbl.app (four_bytes _)⟩
    · show IntKind.i64.wrap _ = _
      rw [IntWalk.i64_in _ (by omega)]; omega
    · show (l ++ four _).length = _
      rw [List.length_append]; show l.length + 4 = _; omega

theorem digest_eq {a : List Int} (ha : Bytes a) (hl : a.length ≤ 20000) : Ok2 (impl_Digest a) (spec_l2Digest a) fun x y => x = y ∧ x.length = 16 ∧ Bytes x := by
  unfold impl_Digest spec_l2Digest
  rw [show decide ((a.length : Int) > 20000) = false from decide_eq_false (by omega)]
  simp only [cond_false]
  refine Ok2.bind (eat_eq ha (by omega) (b := [11, 22, 33, 44]) ⟨rfl, by decide⟩) ?_
  rintro x y ⟨rfl, hx⟩
  try dsimp only
  rw [ybytes_eq (by omega), l2Bytes_eq (by omega) (by omega), Option.bind_some, Option.bind_some]
  refine Ok2.bind (eat2_eq (four_bytes _) (show 4 ≤ 1000000000 by decide) hx) ?_
  rintro x2 y2 ⟨rfl, hx2⟩
  try dsimp only
  refine Ok2.bind (eat3_eq hx2) ?_
  rintro x3 y3 ⟨rfl, hx3⟩
  try dsimp only
  have h4 : lenN 4 x3 = some () := by unfold lenN; rw [if_pos hx3.1]
  rw [h4, Option.bind_some]
  refine Ok2.bind (out_eq hx3) ?_
  rintro x4 y4 h
  exact Ok2.some h
theorem mac_eq {k a : List Int} (hk : Bytes k) (hkl : k.length ≤ 20000) (ha : Bytes a) (hl : a.length ≤ 20000) : Ok2 (impl_Mac k a) (spec_l2Mac k a) fun x y => x = y ∧ x.length = 16 ∧ Bytes x := by
  unfold impl_Mac spec_l2Mac
  rw [show decide ((k.length : Int) > 20000) = false from decide_eq_false (by omega), show decide ((a.length : Int) > 20000) = false from decide_eq_false (by omega)]
  simp only [Bool.or_self, cond_false]
  refine Ok2.bind (digest_eq hk hkl) ?_
  rintro x y ⟨rfl, hx, hxb⟩
  refine Ok2.bind (digest_eq ha hl) ?_
  rintro x2 y2 ⟨rfl, hx2, hxb2⟩
  unfold spec_l2Two
  rw [app_get (by omega), app_get (by simp; omega), Option.bind_some, Option.bind_some, app_get (by simp; omega), Option.bind_some, List.nil_append]
  have := digest_eq (hxb.app hxb2) (by simp; omega)
  obtain ⟨r, r', e, e', h⟩ := this
  rw [e, e']
  exact Ok2.some h
end Go.G36.RV1
