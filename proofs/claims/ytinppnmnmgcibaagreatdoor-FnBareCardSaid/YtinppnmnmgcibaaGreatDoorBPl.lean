/- Plain laws: what surely answers; two computations side by side. -/
import Derived.Test.YtinppnmnmgcibaaGreatDoorKzi
import Derived.IntWalk
import Derived.Test.YtinppnmnmgcibaaGreatDoorBW
namespace Go.G36
set_option linter.all false
open Go
variable [Genv]

/-- o answers, with something that is as P says. -/
def Ok {α : Type} (o : Option α) (P : α → Prop) : Prop := ∃ r, o = some r ∧ P r
theorem Ok.some {α : Type} {x : α} {P : α → Prop} (h : P x) : Ok (some x) P := ⟨x, rfl, h⟩
theorem Ok.bind {α β : Type} {o : Option α} {f : α → Option β} {Q : α → Prop} {P : β → Prop} (h : Ok o Q) (k : ∀ r, Q r → Ok (f r) P) : Ok (o.bind f) P := by
  obtain ⟨r, rfl, hr⟩ := h
  exact k r hr
theorem Ok.cond {α : Type} {b : Bool} {x y : Option α} {P : α → Prop} (ht : b = true → Ok x P) (hf : b = false → Ok y P) : Ok (cond b x y) P := by
  cases b with
  | true => exact ht rfl
  | false => exact hf rfl
theorem Ok.mono {α : Type} {o : Option α} {Q P : α → Prop} (h : Ok o Q) (k : ∀ r, Q r → P r) : Ok o P := by
  obtain ⟨r, e, hr⟩ := h
  exact ⟨r, e, k r hr⟩
theorem Ok.gd {α : Type} [Inhabited α] {c : Bool} {o : Option α} {P : α → Prop} (ht : c = true → Ok o P) (hf : c = false → P default) : Ok (gdO c o) P := Ok.cond ht fun h => Ok.some (hf h)
theorem Ok.eq {α : Type} {o : Option α} {P : α → Prop} {x : α} (h : Ok o P) (e : o = Option.some x) : P x := by
  obtain ⟨r, e', hr⟩ := h
  rw [e] at e'
  injection e' with e'
  exact e' ▸ hr
/-- Rounds, each with less before it. -/
theorem Ok.loop {S R : Type} {step : S → Option (S ⊕ R)} {P : R → Prop} (I : Nat → S → Prop)
    (h : ∀ n s, I n s → Ok (step s) (fun x => match x with | .inl s' => ∃ m, m < n ∧ I m s' | .inr r => P r)) : ∀ {n : Nat} {s : S}, I n s → Ok (loopO step s) P := by
  intro n
  induction n using Nat.strongRecOn with
  | ind n ih =>
    intro s hs
    obtain ⟨x, hx, hp⟩ := h n s hs
    cases x with
    | inl s' =>
      obtain ⟨m, hm, hi⟩ := hp
      rw [loopO_go hx]
      exact ih m hm hi
    | inr r => exact ⟨r, loopO_end hx, hp⟩

/-- Both answer, with things that are as P says. -/
def Ok2 {α β : Type} (o : Option α) (o' : Option β) (P : α → β → Prop) : Prop := ∃ r r', o = some r ∧ o' = some r' ∧ P r r'
theorem Ok2.some {α β : Type} {x : α} {y : β} {P : α → β → Prop} (h : P x y) : Ok2 (some x) (some y) P := ⟨x, y, rfl, rfl, h⟩
theorem Ok2.bind {α α' β β' : Type} {o : Option α} {o' : Option α'} {f : α → Option β} {f' : α' → Option β'} {Q : α → α' → Prop} {P : β → β' → Prop} (h : Ok2 o o' Q) (k : ∀ r r', Q r r' → Ok2 (f r) (f' r') P) : Ok2 (o.bind f) (o'.bind f') P := by
  obtain ⟨r, r', rfl, rfl, hr⟩ := h
  exact k r r' hr
theorem Ok2.bindL {α β β' : Type} {o : Option α} {o' : Option β'} {f : α → Option β} {Q : α → Prop} {P : β → β' → Prop} (h : Ok o Q) (k : ∀ r, Q r → Ok2 (f r) o' P) : Ok2 (o.bind f) o' P := by
  obtain ⟨r, rfl, hr⟩ := h
  exact k r hr
theorem Ok2.bindR {α β β' : Type} {o : Option β} {o' : Option α} {f : α → Option β'} {Q : α → Prop} {P : β → β' → Prop} (h : Ok o' Q) (k : ∀ r, Q r → Ok2 o (f r) P) : Ok2 o (o'.bind f) P := by
  obtain ⟨r, rfl, hr⟩ := h
  exact k r hr
theorem Ok2.mono {α β : Type} {o : Option α} {o' : Option β} {Q P : α → β → Prop} (h : Ok2 o o' Q) (k : ∀ r r', Q r r' → P r r') : Ok2 o o' P := by
  obtain ⟨r, r', e, e', hr⟩ := h
  exact ⟨r, r', e, e', k r r' hr⟩
theorem Ok2.left {α β : Type} {o : Option α} {o' : Option β} {P : α → β → Prop} (h : Ok2 o o' P) : Ok o fun r => ∃ r', o' = Option.some r' ∧ P r r' := by
  obtain ⟨r, r', e, e', hr⟩ := h
  exact ⟨r, e, r', e', hr⟩
/-- Two loops, round by round. -/
theorem Ok2.loop {S S' R R' : Type} {step : S → Option (S ⊕ R)} {step' : S' → Option (S' ⊕ R')} {P : R → R' → Prop} (I : Nat → S → S' → Prop)
    (h : ∀ n s s', I n s s' → Ok2 (step s) (step' s') (fun x y => match x, y with | .inl t, .inl t' => ∃ m, m < n ∧ I m t t' | .inr r, .inr r' => P r r' | _, _ => False)) : ∀ {n : Nat} {s : S} {s' : S'}, I n s s' → Ok2 (loopO step s) (loopO step' s') P := by
  intro n
  induction n using Nat.strongRecOn with
  | ind n ih =>
    intro s s' hs
    obtain ⟨x, y, hx, hy, hp⟩ := h n s s' hs
    cases x with
    | inl t =>
      cases y with
      | inl t' =>
        obtain ⟨m, hm, hi⟩ := hp
        rw [loopO_go hx, loopO_go hy]
        exact ih m hm hi
      | inr r' => exact hp.elim
    | inr r =>
      cases y with
      | inl t' => exact hp.elim
      | inr r' => exact ⟨r, r', loopO_end hx, loopO_end hy, hp⟩

theorem gdO_some {α : Type} [Inhabited α] (c : Bool) (v : α) : gdO c (some v) = some (cond c v default) := by cases c <;> rfl
theorem idx_get {α : Type} {xs : List α} {i : Int} (h0 : 0 ≤ i) (h1 : i.toNat < xs.length) : idx xs i = some xs[i.toNat] := by
  unfold idx
  rw [if_pos h0, List.getElem?_eq_getElem h1]
theorem ixA_get {α : Type} {n : Nat} {xs : List α} {i : Int} (hn : xs.length = n) (h0 : 0 ≤ i) (h1 : i.toNat < xs.length) : ixA n xs i = some xs[i.toNat] := by
  unfold ixA
  rw [if_pos ⟨hn, h0, by omega⟩, List.getElem?_eq_getElem h1]
theorem app_get {α : Type} {xs ys : List α} (h : xs.length + ys.length ≤ 4294967296) : app xs ys = some (xs ++ ys) := by
  unfold app
  rw [if_pos h]
theorem cat_get {r s : ByteArray} (h : r.size + s.size ≤ 9223372036854775807) : cat r s = some (r ++ s) := by
  unfold cat
  rw [if_pos h]
theorem nn_get {i : Int} (h : 0 ≤ i) : nn i = some () := by
  unfold nn
  rw [if_pos h]
theorem i64_and_mod (x : Int) (k : Nat) (hk : k ≤ 62) (h0 : 0 ≤ x) (h1 : x ≤ 9223372036854775807) : IntKind.i64.wrap ((BitVec.ofInt IntKind.i64.bits x &&& BitVec.ofInt IntKind.i64.bits (2 ^ k - 1)).toNat : Int) = x % 2 ^ k := by
  have hk2 : (2 : Nat) ^ k ≤ 2 ^ 62 := Nat.pow_le_pow_right (by decide) hk
  have hpos : 0 < (2 : Nat) ^ k := Nat.pow_pos (by decide)
  obtain ⟨n, rfl⟩ := Int.eq_ofNat_of_zero_le h0
  have e1 : (BitVec.ofInt IntKind.i64.bits (n : Int)).toNat = n := by
    rw [BitVec.ofInt_natCast, BitVec.toNat_ofNat]
    exact Nat.mod_eq_of_lt (by show n < 2 ^ 64; omega)
  have e2 : (BitVec.ofInt IntKind.i64.bits (2 ^ k - 1 : Int)).toNat = 2 ^ k - 1 := by
    rw [show (2 ^ k - 1 : Int) = ((2 ^ k - 1 : Nat) : Int) by rw [Int.ofNat_sub (by omega)]; simp]
    rw [BitVec.ofInt_natCast, BitVec.toNat_ofNat]
    exact Nat.mod_eq_of_lt (by show 2 ^ k - 1 < 2 ^ 64; omega)
  rw [BitVec.toNat_and, e1, e2, Nat.and_two_pow_sub_one_eq_mod]
  have h3 : n % 2 ^ k < 2 ^ k := Nat.mod_lt _ hpos
  rw [IntWalk.i64_in _ (by omega)]
  push_cast
  rfl
end Go.G36
/- The digest: the program's and the reference's are the same. -/
namespace Go.G36.BW
set_option linter.all false
open Go Go.G36 Go.Proofs Go.G36.BD

def Bytes (l : List Int) : Prop := ∀ b, b ∈ l → 0 ≤ b ∧ b ≤ 255
theorem Bytes.app {l m : List Int} (h : Bytes l) (k : Bytes m) : Bytes (l ++ m) := fun b hb => by
  rcases List.mem_append.1 hb with hb | hb
  · exact h b hb
  · exact k b hb
theorem Bytes.take {l : List Int} (h : Bytes l) (n : Nat) : Bytes (l.take n) := fun b hb => h b (List.mem_of_mem_take hb)
theorem Bytes.drop {l : List Int} (h : Bytes l) (n : Nat) : Bytes (l.drop n) := fun b hb => h b (List.mem_of_mem_drop hb)
theorem Bytes.get {l : List Int} (h : Bytes l) {i : Nat} (hi : i < l.length) : 0 ≤ l[i] ∧ l[i] ≤ 255 := h _ (List.getElem_mem hi)
theorem Bytes.nil : Bytes [] := fun b hb => by cases hb

/-- The four numbers. -/
def W4 (b : List Int) : Prop := b.length = 4 ∧ ∀ x, x ∈ b → 0 ≤ x ∧ x < 2147483579
theorem W4.get {b : List Int} (h : W4 b) {i : Nat} (hi : i < b.length) : 0 ≤ b[i] ∧ b[i] < 2147483579 := h.2 _ (List.getElem_mem hi)

abbrev mults : List Int := [1103515245, 69069, 1664525, 22695477]
theorem mults_get {i : Nat} (hi : i < mults.length) : 0 ≤ mults[i] ∧ mults[i] ≤ 1103515245 := by
  have : ∀ x, x ∈ mults → 0 ≤ x ∧ x ≤ 1103515245 := by decide
  exact this _ (List.getElem_mem hi)
theorem mul_small {a b : Int} (h1 : 0 ≤ a) (h2 : a < 2147483579) (h3 : 0 ≤ b) (h4 : b ≤ 1103515245) : 0 ≤ a * b ∧ a * b ≤ 2147483579 * 1103515245 := by
  refine ⟨Int.mul_nonneg h1 h3, Int.mul_le_mul (by omega) h4 h3 (by decide)⟩

theorem mix_eq {x : Int} (h0 : 0 ≤ x) (h1 : x ≤ 255) {b : List Int} (hb : W4 b) : Ok2 (impl_Digest_1 x b mults) (spec_l2Mixx (IntKind.i64.wrap x) b) fun r r' => r = r' ∧ W4 r := by
  unfold impl_Digest_1 spec_l2Mixx
  refine Ok2.bind (Ok2.loop (P := fun r r' => r = r' ∧ W4 r) (fun n s s' => s = s' ∧ n ≤ 4 ∧ s.2 = 4 - (n : Int) ∧ W4 s.1) ?_ (n := 4) ⟨rfl, by omega, by simp, hb⟩) fun r r' h => Ok2.some h
  rintro n ⟨b, v⟩ s' ⟨rfl, hn, hv, hb⟩
  dsimp only at hv
  replace hb : W4 b := hb
  subst hv
  unfold impl_Digest_1_l1 spec_l2Mixx_l1
  dsimp only
  cases n with
  | zero =>
    rw [show decide (4 - ((0 : Nat) : Int) < 4) = false from decide_eq_false (by omega)]
    exact Ok2.some ⟨rfl, hb⟩
  | succ n =>
    rw [show decide (4 - ((n + 1 : Nat) : Int) < 4) = true from decide_eq_true (by omega)]
    have hl := hb.1
    have hi : (4 - ((n + 1 : Nat) : Int)).toNat < b.length := by omega
    have him : (4 - ((n + 1 : Nat) : Int)).toNat < mults.length := by show _ < 4; omega
    have h4 : 0 ≤ 4 - ((n + 1 : Nat) : Int) := by omega
    have hw : IntKind.i64.wrap (4 - ((n + 1 : Nat) : Int) + 1) = 4 - ((n + 1 : Nat) : Int) + 1 := IntWalk.i64_in _ (by omega)
    have hj0 : 0 ≤ Int.tmod (IntKind.i64.wrap (4 - ((n + 1 : Nat) : Int) + 1)) 4 := by
      rw [hw]; exact Int.tmod_nonneg _ (by omega)
    have hj1 : (Int.tmod (IntKind.i64.wrap (4 - ((n + 1 : Nat) : Int) + 1)) 4).toNat < b.length := by
      have := Int.tmod_lt_of_pos (IntKind.i64.wrap (4 - ((n + 1 : Nat) : Int) + 1)) (b := 4) (by omega)
      omega
    simp only [cond_true, ixA_get hl h4 hi, ixA_get (n := 4) (xs := mults) rfl h4 him, ixA_get hl hj0 hj1, idx_get h4 hi, idx_get h4 him, idx_get hj0 hj1, Option.bind_some]
    refine Ok2.some ?_
    refine ⟨n, by omega, ?_, by omega, ?_, ?_⟩
    · rw [show IntKind.i64.wrap x = x from IntWalk.i64_in _ (by omega)]
    · show IntKind.i64.wrap _ = _
      rw [IntWalk.i64_in _ (by omega)]; omega
    · refine ⟨by simp [hl], fun y hy => ?_⟩
      rcases List.mem_or_eq_of_mem_set hy with h | h
      · exact hb.2 y h
      · subst h
        have g1 := hb.get hi
        have g2 := mults_get him
        have g3 := hb.get hj1
        have g4 := mul_small g1.1 g1.2 g2.1 g2.2
        generalize b[(4 - ((n + 1 : Nat) : Int)).toNat] * mults[(4 - ((n + 1 : Nat) : Int)).toNat] = p at g4
        generalize b[(Int.tmod (IntKind.i64.wrap (4 - ((n + 1 : Nat) : Int) + 1)) 4).toNat] = q at g3
        rw [IntWalk.i64_in x (by omega), IntWalk.i64_in p (by omega), IntWalk.i64_in (p + x) (by omega), IntWalk.i64_in (p + x + 1) (by omega), IntWalk.i64_in (p + x + 1 + q) (by omega)]
        exact ⟨Int.tmod_nonneg _ (by omega), Int.tmod_lt_of_pos _ (by omega)⟩

/-- A number's four bytes. -/
def four (e : Int) : List Int := [e % 256, e / 256 % 256, e / 65536 % 256, e / 16777216 % 256]
theorem four_bytes (e : Int) : Bytes (four e) := fun b hb => by
  simp only [four, List.mem_cons, List.not_mem_nil, or_false] at hb
  omega
theorem ybytes_eq {e : Int} (h0 : 0 ≤ e) : impl_ybytes e = some (four e) := by
  unfold impl_ybytes four
  simp only [IntKind.wrap_u8]
  have h8 : (2 : Int) ^ (min (Int.toNat 8) IntKind.i64.bits) = 256 := rfl
  have h16 : (2 : Int) ^ (min (Int.toNat 16) IntKind.i64.bits) = 65536 := rfl
  have h24 : (2 : Int) ^ (min (Int.toNat 24) IntKind.i64.bits) = 16777216 := rfl
  rw [h8, h16, h24, Int.fdiv_eq_ediv_of_nonneg _ (by decide), Int.fdiv_eq_ediv_of_nonneg _ (by decide), Int.fdiv_eq_ediv_of_nonneg _ (by decide)]
theorem l2Bytes_eq {e : Int} (h0 : 0 ≤ e) (h1 : e ≤ 9223372036854775807) : spec_l2Bytes e = some (four e) := by
  unfold spec_l2Bytes
  have hm : mk (0 : Int) 4 = some [0, 0, 0, 0] := rfl
  rw [hm, Option.bind_some]
  have st : ∀ (l : List Int) (v i : Int), l.length = 4 → 0 ≤ v → v ≤ 9223372036854775807 → 0 ≤ i → i < 4 → spec_l2Bytes_l1 [0, 0, 0, 0] (l, v, i) = some (.inl (l.set i.toNat (v % 256), v / 256, i + 1)) := fun l v i hl hv hv1 hi hi1 => by
    unfold spec_l2Bytes_l1
    dsimp only
    rw [show decide (i < (([0, 0, 0, 0] : List Int).length : Int)) = true from decide_eq_true (by simpa using hi1)]
    simp only [cond_true, idx_get hi (show i.toNat < l.length by omega), Option.bind_some]
    rw [IntWalk.rem_in _ _ hv, IntKind.wrap_u8, IntWalk.i64_quo _ _ ⟨hv, hv1, by omega⟩, IntWalk.i64_in _ (by omega)]
    rw [show v % 256 % 256 = v % 256 by omega]
  have en : ∀ (l : List Int) (v : Int), spec_l2Bytes_l1 [0, 0, 0, 0] (l, v, 4) = some (.inr l) := fun l v => rfl
  rw [loopO_go (st _ _ _ rfl h0 h1 (by omega) (by omega))]
  rw [loopO_go (st _ _ _ rfl (by omega) (by omega) (by omega) (by omega))]
  rw [loopO_go (st _ _ _ rfl (by omega) (by omega) (by omega) (by omega))]
  rw [loopO_go (st _ _ _ rfl (by omega) (by omega) (by omega) (by omega))]
  rw [show (0 : Int) + 1 + 1 + 1 + 1 = 4 from rfl, loopO_end (en _ _)]
  show some _ = some _
  unfold four
  congr 1
  show [e % 256, e / 256 % 256, e / 256 / 256 % 256, e / 256 / 256 / 256 % 256] = _
  rw [show e / 256 / 256 = e / 65536 by omega, show e / 65536 / 256 = e / 16777216 by omega]

theorem eat_eq {r : List Int} (hr : Bytes r) (hlen : r.length ≤ 1000000000) {b : List Int} (hb : W4 b) : Ok2 (loopO (impl_Digest_l1 r) (b, 0)) (loopO (spec_l2Digest_l1 r) (b, 0)) fun x y => x = y ∧ W4 x := by
  refine Ok2.loop (fun n s s' => s = s' ∧ n ≤ r.length ∧ s.2 = (r.length : Int) - (n : Int) ∧ W4 s.1) ?_ (n := r.length) ⟨rfl, by omega, by simp, hb⟩
  rintro n ⟨b, v⟩ s' ⟨rfl, hn, hv, hb⟩
  dsimp only at hv
  replace hb : W4 b := hb
  subst hv
  unfold impl_Digest_l1 spec_l2Digest_l1
  dsimp only
  cases n with
  | zero =>
    rw [show decide ((r.length : Int) - ((0 : Nat) : Int) < (r.length : Int)) = false from decide_eq_false (by omega)]
    exact Ok2.some ⟨rfl, hb⟩
  | succ n =>
    rw [show decide ((r.length : Int) - ((n + 1 : Nat) : Int) < (r.length : Int)) = true from decide_eq_true (by omega)]
    have hi : ((r.length : Int) - ((n + 1 : Nat) : Int)).toNat < r.length := by omega
    simp only [cond_true, idx_get (show 0 ≤ (r.length : Int) - ((n + 1 : Nat) : Int) by omega) hi, Option.bind_some]
    have g := hr.get hi
    refine Ok2.bind (mix_eq g.1 g.2 hb) ?_
    rintro x y ⟨rfl, hx⟩
    have hle : lenEq x b = some () := by unfold lenEq; rw [if_pos (by rw [hx.1, hb.1])]
    rw [hle]
    refine Ok2.some ⟨n, by omega, rfl, by omega, ?_, hx⟩
    show IntKind.i64.wrap _ = _
    rw [IntWalk.i64_in _ (by omega)]; omega
theorem eat2_eq {r : List Int} (hr : Bytes r) (hlen : r.length ≤ 1000000000) {b : List Int} (hb : W4 b) : Ok2 (loopO (impl_Digest_l2 r) (b, 0)) (loopO (spec_l2Digest_l2 r) (b, 0)) fun x y => x = y ∧ W4 x := eat_eq hr hlen hb
theorem eat3_eq {b : List Int} (hb : W4 b) : Ok2 (loopO impl_Digest_l3 (b, 0)) (loopO spec_l2Digest_l3 (b, 0)) fun x y => x = y ∧ W4 x := by
  refine Ok2.loop (fun n s s' => s = s' ∧ n ≤ 8 ∧ s.2 = 8 - (n : Int) ∧ W4 s.1) ?_ (n := 8) ⟨rfl, by omega, by simp, hb⟩
  rintro n ⟨b, v⟩ s' ⟨rfl, hn, hv, hb⟩
  dsimp only at hv
  replace hb : W4 b := hb
  subst hv
  unfold impl_Digest_l3 spec_l2Digest_l3
  dsimp only
  cases n with
  | zero =>
    rw [show decide (8 - ((0 : Nat) : Int) < 8) = false from decide_eq_false (by omega)]
    exact Ok2.some ⟨rfl, hb⟩
  | succ n =>
    rw [show decide (8 - ((n + 1 : Nat) : Int) < 8) = true from decide_eq_true (by omega)]
    simp only [cond_true]
    refine Ok2.bind (mix_eq (x := 0) (by omega) (by omega) hb) ?_
    rintro x y ⟨rfl, hx⟩
    have hle : lenEq x b = some () := by unfold lenEq; rw [if_pos (by rw [hx.1, hb.1])]
    rw [hle]
    refine Ok2.some ⟨n, by omega, rfl, by omega, ?_, hx⟩
    show IntKind.i64.wrap _ = _
    rw [IntWalk.i64_in _ (by omega)]; omega
theorem out_eq {b : List Int} (hb : W4 b) : Ok2 (loopO (impl_Digest_l4 b) ([], 0)) (loopO (spec_l2Digest_l4 b) ([], 0)) fun x y => x = y ∧ x.length = 16 ∧ Bytes x := by
  refine Ok2.loop (fun n s s' => s = s' ∧ n ≤ 4 ∧ s.2 = 4 - (n : Int) ∧ s.1.length = 4 * (4 - n) ∧ Bytes s.1) ?_ (n := 4) ⟨rfl, by omega, by simp, rfl, Bytes.nil⟩
  rintro n ⟨l, v⟩ s' ⟨rfl, hn, hv, hl, hbl⟩
  dsimp only at hv hl hbl
  subst hv
  unfold impl_Digest_l4 spec_l2Digest_l4
  dsimp only
  have h4 := hb.1
  rw [h4]
  cases n with
  | zero =>
    rw [show decide (4 - ((0 : Nat) : Int) < 4) = false from decide_eq_false (by omega), show decide (4 - ((0 : Nat) : Int) < ((4 : Nat) : Int)) = false from decide_eq_false (by omega)]
    exact Ok2.some ⟨rfl, by omega, hbl⟩
  | succ n =>
    rw [show decide (4 - ((n + 1 : Nat) : Int) < 4) = true from decide_eq_true (by omega), show decide (4 - ((n + 1 : Nat) : Int) < ((4 : Nat) : Int)) = true from decide_eq_true (by omega)]
    have hi : (4 - ((n + 1 : Nat) : Int)).toNat < b.length := by omega
    have h0 : 0 ≤ 4 - ((n + 1 : Nat) : Int) := by omega
    have g := hb.get hi
    simp only [cond_true, ixA_get h4 h0 hi, idx_get h0 hi, Option.bind_some, ybytes_eq g.1, l2Bytes_eq g.1 (by omega)]
    have ha : app l (four b[(4 - ((n + 1 : Nat) : Int)).toNat]) = some (l ++ four b[(4 - ((n + 1 : Nat) : Int)).toNat]) := app_get (by show l.length + 4 ≤ _; omega)
    rw [ha, Option.bind_some]
    refine Ok2.some ⟨n, by omega, rfl, by omega, ?_, ?_, hbl.app (four_bytes _)⟩
    · show IntKind.i64.wrap _ = _
      rw [IntWalk.i64_in _ (by omega)]; omega
    · show (l ++ four _).length = _
      rw [List.length_append]; show l.length + 4 = _; omega

theorem digest_eq {a : List Int} (ha : Bytes a) (hl : a.length ≤ 20000) : Ok2 (impl_Digest a) (spec_l2Digest a) fun x y => x = y ∧ x.length = 16 ∧ Bytes x := by
  unfold impl_Digest spec_l2Digest
  rw [show decide ((a.length : Int) > 20000) = false from decide_eq_false (by omega)]
  simp only [cond_false]
  refine Ok2.bind (eat_eq ha (by omega) (b := [11, 22, 33, 44]) ⟨rfl, by decide⟩) ?_
  rintro x y ⟨rfl, hx⟩
  try dsimp only
  rw [ybytes_eq (by omega), l2Bytes_eq (by omega) (by omega), Option.bind_some, Option.bind_some]
  refine Ok2.bind (eat2_eq (four_bytes _) (show 4 ≤ 1000000000 by decide) hx) ?_
  rintro x2 y2 ⟨rfl, hx2⟩
  try dsimp only
  refine Ok2.bind (eat3_eq hx2) ?_
  rintro x3 y3 ⟨rfl, hx3⟩
  try dsimp only
  have h4 : lenN 4 x3 = some () := by unfold lenN; rw [if_pos hx3.1]
  rw [h4, Option.bind_some]
  refine Ok2.bind (out_eq hx3) ?_
  rintro x4 y4 h
  exact Ok2.some h
theorem mac_ok {k a : List Int} (hk : Bytes k) (hkl : k.length ≤ 20000) (ha : Bytes a) (hl : a.length ≤ 20000) : Ok (impl_Mac k a) fun x => x.length = 16 ∧ Bytes x := by
  unfold impl_Mac
  rw [show decide ((k.length : Int) > 20000) = false from decide_eq_false (by omega), show decide ((a.length : Int) > 20000) = false from decide_eq_false (by omega)]
  simp only [Bool.or_self, cond_false]
  obtain ⟨x, _, e1, _, rfl, hx, hxb⟩ := digest_eq hk hkl
  obtain ⟨x2, _, e2, _, rfl, hx2, hxb2⟩ := digest_eq ha hl
  rw [e1, e2, Option.bind_some, Option.bind_some, app_get (by omega), Option.bind_some]
  obtain ⟨r, _, e, _, rfl, h⟩ := digest_eq (hxb.app hxb2) (by simp; omega)
  rw [e]
  exact Ok.some h
end Go.G36.BW
/- Armor: the program's and the reference's are the same. -/
namespace Go.G36.BW
set_option linter.all false
open Go Go.G36 Go.Proofs Go.G36.BD

/-! ### The bits of some bytes -/
def bt (d : List Int) (k : Nat) : Int := if k < 8 * d.length then d.getD (k / 8) 0 / 2 ^ (7 - k % 8) % 2 else 0
def val (d : List Int) (k : Nat) : Nat → Int
  | 0 => 0
  | m + 1 => val d k m * 2 + bt d (k + m)
theorem bt_01 (d : List Int) (k : Nat) : 0 ≤ bt d k ∧ bt d k ≤ 1 := by
  unfold bt
  split
  · omega
  · omega
theorem val_lt (d : List Int) (k : Nat) : ∀ m, 0 ≤ val d k m ∧ val d k m < 2 ^ m
  | 0 => by simp [val]
  | m + 1 => by
    have h1 := val_lt d k m
    have h2 := bt_01 d (k + m)
    simp only [val, Int.pow_succ]
    omega
theorem val_add (d : List Int) (k m : Nat) : ∀ r, val d k (m + r) = val d k m * 2 ^ r + val d (k + m) r
  | 0 => by simp [val]
  | r + 1 => by
    show val d k (m + r) * 2 + bt d (k + (m + r)) = _
    rw [val_add d k m r]
    simp only [val, Int.pow_succ]
    rw [Int.add_mul, Int.mul_assoc, Nat.add_assoc]
    omega
theorem val_zero {d : List Int} {k : Nat} (h : 8 * d.length ≤ k) : ∀ m, val d k m = 0
  | 0 => rfl
  | m + 1 => by
    simp only [val, val_zero h m]
    unfold bt
    rw [if_neg (by omega)]
    rfl
theorem val_div (d : List Int) (k m r : Nat) : val d k (m + r) / 2 ^ r = val d k m := by
  have h1 := val_lt d (k + m) r
  rw [val_add, Int.add_comm, Int.add_mul_ediv_right _ _ (by have : (0 : Int) < 2 ^ r := Int.pow_pos (by decide); omega), Int.ediv_eq_zero_of_lt h1.1 h1.2]
  omega
theorem val_mod (d : List Int) (k m r : Nat) : val d k (m + r) % 2 ^ r = val d (k + m) r := by
  have h1 := val_lt d (k + m) r
  rw [val_add, Int.add_comm, Int.add_mul_emod_self_right, Int.emod_eq_of_lt h1.1 h1.2]
theorem val_byte {d : List Int} (hd : Bytes d) {i : Nat} (hi : i < d.length) : val d (8 * i) 8 = d[i] := by
  have hb := hd.get hi
  have e : ∀ j, j < 8 → bt d (8 * i + j) = d[i] / 2 ^ (7 - j) % 2 := fun j hj => by
    unfold bt
    rw [if_pos (by omega), show (8 * i + j) / 8 = i by omega, show (8 * i + j) % 8 = j by omega]
    simp [List.getD, hi]
  simp only [val]
  rw [e 0 (by omega), e 1 (by omega), e 2 (by omega), e 3 (by omega), e 4 (by omega), e 5 (by omega), e 6 (by omega), e 7 (by omega)]
  generalize d[i] = x at hb
  simp only [Nat.sub_zero, Nat.sub_self, show 7 - 1 = 6 from rfl, show 7 - 2 = 5 from rfl, show 7 - 3 = 4 from rfl, show 7 - 4 = 3 from rfl, show 7 - 5 = 2 from rfl, show 7 - 6 = 1 from rfl,
    show (2 : Int) ^ 7 = 128 from rfl, show (2 : Int) ^ 6 = 64 from rfl, show (2 : Int) ^ 5 = 32 from rfl, show (2 : Int) ^ 4 = 16 from rfl, show (2 : Int) ^ 3 = 8 from rfl, show (2 : Int) ^ 2 = 4 from rfl, show (2 : Int) ^ 1 = 2 from rfl, show (2 : Int) ^ 0 = 1 from rfl]
  omega

/-! ### Letters -/
abbrev letB : ByteArray := ByteArray.mk #[48, 49, 50, 51, 52, 53, 54, 55, 56, 57, 97, 98, 99, 100, 101, 102, 103, 104, 105, 106, 107, 108, 109, 110, 111, 112, 113, 114, 115, 116, 117, 118]
def letter (x : Int) : Int := if x < 10 then 48 + x else 87 + x
theorem letter_fin : ∀ x : _root_.Fin 32, idxS letB (x.val : Int) = some (letter (x.val : Int)) := by decide +kernel
theorem letter_idx {x : Int} (h0 : 0 ≤ x) (h1 : x < 32) : idxS letB x = some (letter x) := by
  have := letter_fin ⟨x.toNat, by omega⟩
  simpa [Int.toNat_of_nonneg h0] using this
theorem letter_byte {x : Int} (h0 : 0 ≤ x) (h1 : x < 32) : 0 ≤ letter x ∧ letter x ≤ 255 := by
  unfold letter; split <;> omega
/-- The first c letters. -/
def lets (d : List Int) (c : Nat) : List Int := (List.range c).map fun j => letter (val d (5 * j) 5)
theorem lets_succ (d : List Int) (c : Nat) : lets d (c + 1) = lets d c ++ [letter (val d (5 * c) 5)] := by
  simp [lets, List.range_succ]
theorem lets_length (d : List Int) (c : Nat) : (lets d c).length = c := by simp [lets]
theorem lets_bytes (d : List Int) (c : Nat) : Bytes (lets d c) := fun b hb => by
  simp only [lets, List.mem_map] at hb
  obtain ⟨j, _, rfl⟩ := hb
  have := val_lt d (5 * j) 5
  exact letter_byte this.1 this.2

theorem i64_or_add {v x : Int} (h0 : 0 ≤ v) (h1 : v ≤ 1000000000000) (g0 : 0 ≤ x) (g1 : x ≤ 255) : IntKind.i64.wrap ((BitVec.ofInt IntKind.i64.bits (v * 256) ||| BitVec.ofInt IntKind.i64.bits x).toNat : Int) = v * 256 + x := by
  obtain ⟨n, rfl⟩ := Int.eq_ofNat_of_zero_le h0
  obtain ⟨m, rfl⟩ := Int.eq_ofNat_of_zero_le g0
  have e1 : (BitVec.ofInt IntKind.i64.bits ((n : Int) * 256)).toNat = n * 256 := by
    rw [show (n : Int) * 256 = ((n * 256 : Nat) : Int) by simp, BitVec.ofInt_natCast, BitVec.toNat_ofNat]
    exact Nat.mod_eq_of_lt (by show n * 256 < 2 ^ 64; omega)
  have e2 : (BitVec.ofInt IntKind.i64.bits (m : Int)).toNat = m := by
    rw [BitVec.ofInt_natCast, BitVec.toNat_ofNat]
    exact Nat.mod_eq_of_lt (by show m < 2 ^ 64; omega)
  rw [BitVec.toNat_or, e1, e2]
  have e3 : n * 256 ||| m = n * 256 + m := by
    have := Nat.two_pow_add_eq_or_of_lt (i := 8) (b := m) (by omega) n
    rw [show n * 256 = 2 ^ 8 * n by omega]
    exact this.symm
  rw [e3, IntWalk.i64_in _ (by omega)]
  omega
theorem minpow {x : Int} {k : Nat} (h : x = (k : Int)) (hk : k ≤ 60) : (2 : Int) ^ (min (Int.toNat x) IntKind.i64.bits) = 2 ^ k := by
  subst h
  rw [Int.toNat_natCast, Nat.min_eq_left (by show k ≤ 64; omega)]

/-- How many letters. -/
def many (n : Nat) : Nat := (8 * n + 4) / 5
end Go.G36.BW
/- Armor, the program's. -/
namespace Go.G36.BW
set_option linter.all false
open Go Go.G36 Go.Proofs Go.G36.BD

theorem write_eq {x : Int} {l : List Int} (h : l.length < 4294967296) : strings_Builder_WriteByte x (⟨(), l⟩ : T_strings_Builder) = some ((), (⟨(), l ++ [x]⟩ : T_strings_Builder)) := by
  unfold strings_Builder_WriteByte ccO
  rw [Option.bind_some, app_get (by simp; omega), Option.bind_some]

theorem armor_drain {d : List Int} (hd : Bytes d) (hl : d.length ≤ 20000) {c b i : Nat} (hb : b < 5) (hi : i < d.length) (hcb : 5 * c + b = 8 * i) :
    Ok (loopO (impl_Armor_l2 (val d (5 * c) b) d[i]) ((⟨(), lets d c⟩ : T_strings_Builder), ((b + 8 : Nat) : Int))) fun r => ∃ c' b', b' < 5 ∧ 5 * c' + b' = 8 * (i + 1) ∧ c ≤ c' ∧ r = ((⟨(), lets d c'⟩ : T_strings_Builder), ((b' : Nat) : Int)) := by
  have hx := hd.get hi
  have hv := val_lt d (5 * c) b
  have hp : (2 : Int) ^ b ≤ 2 ^ 5 := by exact_mod_cast Nat.pow_le_pow_right (by decide) (by omega)
  have hV : val d (5 * c) b * 256 + d[i] = val d (5 * c) (b + 8) := by
    rw [val_add, hcb, val_byte hd hi]; rfl
  refine Ok.loop (fun n s => ∃ k, k + n = 3 ∧ 5 * k ≤ b + 8 ∧ s.1 = (⟨(), lets d (c + k)⟩ : T_strings_Builder) ∧ s.2 = ((b + 8 - 5 * k : Nat) : Int)) ?_ (n := 3) ⟨0, by omega, by omega, rfl, rfl⟩
  rintro n ⟨s, v⟩ ⟨k, hk, hk5, h1, h2⟩
  dsimp only at h1 h2
  subst h1; subst h2
  unfold impl_Armor_l2
  dsimp only
  refine Ok.cond (fun h => ?_) (fun h => ?_)
  · have hge : ((b + 8 - 5 * k : Nat) : Int) ≥ 5 := of_decide_eq_true h
    have hw : IntKind.i64.wrap (((b + 8 - 5 * k : Nat) : Int) - 5) = ((b + 8 - 5 * (k + 1) : Nat) : Int) := by
      rw [IntWalk.i64_in _ (by omega)]; omega
    rw [hw, nn_get (by omega), Option.bind_some]
    have h8 : (2 : Int) ^ (min (Int.toNat 8) IntKind.i64.bits) = 256 := rfl
    rw [h8, IntWalk.i64_in (val d (5 * c) b * 256) (by omega), IntWalk.i64_in d[i] (by omega), i64_or_add hv.1 (by omega) hx.1 hx.2, hV, minpow (k := b + 8 - 5 * (k + 1)) rfl (by omega)]
    have hpp : (0 : Int) < 2 ^ (b + 8 - 5 * (k + 1)) := Int.pow_pos (by decide)
    rw [Int.fdiv_eq_ediv_of_nonneg _ (by omega)]
    have hdiv : val d (5 * c) (b + 8) / 2 ^ (b + 8 - 5 * (k + 1)) = val d (5 * c) (5 * (k + 1)) := by
      have := val_div d (5 * c) (5 * (k + 1)) (b + 8 - 5 * (k + 1))
      rwa [show 5 * (k + 1) + (b + 8 - 5 * (k + 1)) = b + 8 by omega] at this
    rw [hdiv]
    have hvl := val_lt d (5 * c) (5 * (k + 1))
    have hpb : (2 : Int) ^ (5 * (k + 1)) ≤ 2 ^ 15 := by exact_mod_cast Nat.pow_le_pow_right (by decide) (by omega)
    have hand := i64_and_mod (val d (5 * c) (5 * (k + 1))) 5 (by omega) hvl.1 (by omega)
    rw [show (2 : Int) ^ 5 - 1 = 31 from rfl] at hand
    have hmod : val d (5 * c) (5 * (k + 1)) % 2 ^ 5 = val d (5 * (c + k)) 5 := by
      have := val_mod d (5 * c) (5 * k) 5
      rwa [show 5 * k + 5 = 5 * (k + 1) by omega, show 5 * c + 5 * k = 5 * (c + k) by omega] at this
    rw [hand, hmod]
    have hlt := val_lt d (5 * (c + k)) 5
    show Ok ((idxS letB (val d (5 * (c + k)) 5)).bind _) _
    rw [letter_idx hlt.1 hlt.2, Option.bind_some, write_eq (by rw [lets_length]; omega), Option.bind_some]
    refine Ok.some ⟨n - 1, by omega, k + 1, by omega, by omega, ?_, rfl⟩
    show (⟨(), _⟩ : T_strings_Builder) = _
    rw [← Nat.add_assoc, lets_succ]
  · have hge : ¬ ((b + 8 - 5 * k : Nat) : Int) ≥ 5 := of_decide_eq_false h
    exact Ok.some ⟨c + k, b + 8 - 5 * k, by omega, by omega, by omega, rfl⟩

theorem armor_impl {d : List Int} (hd : Bytes d) (hl : d.length ≤ 20000) : impl_Armor d = some (byS (lets d (many d.length))) := by
  have : Ok (loopO (impl_Armor_l1 d) ((⟨(), ([] : List Int)⟩ : T_strings_Builder), 0, 0, 0)) fun r => ∃ c b, b < 5 ∧ 5 * c + b = 8 * d.length ∧ r = ((⟨(), lets d c⟩ : T_strings_Builder), val d (5 * c) b, ((b : Nat) : Int)) := by
    refine Ok.loop (fun n s => ∃ i c b, i + n = d.length ∧ b < 5 ∧ 5 * c + b = 8 * i ∧ s = ((⟨(), lets d c⟩ : T_strings_Builder), val d (5 * c) b, ((b : Nat) : Int), ((i : Nat) : Int))) ?_ (n := d.length) ⟨0, 0, 0, by omega, by omega, rfl, rfl⟩
    rintro n s ⟨i, c, b, hi, hb, hcb, rfl⟩
    unfold impl_Armor_l1
    dsimp only
    refine Ok.cond (fun h => ?_) (fun h => ?_)
    · have hlt : ((i : Nat) : Int) < (d.length : Int) := of_decide_eq_true h
      have hil : i < d.length := by omega
      have hg : idx d ((i : Nat) : Int) = some d[i] := idx_get (xs := d) (i := ((i : Nat) : Int)) (by omega) (by omega)
      rw [hg, Option.bind_some]
      have hw : IntKind.i64.wrap (((b : Nat) : Int) + 8) = ((b + 8 : Nat) : Int) := by rw [IntWalk.i64_in _ (by omega)]; omega
      rw [hw]
      refine Ok.bind (armor_drain hd hl hb hil hcb) ?_
      rintro r ⟨c', b', hb', hcb', hcc, rfl⟩
      dsimp only
      rw [nn_get (by omega), Option.bind_some]
      have hx := hd.get hil
      have hv := val_lt d (5 * c) b
      have hp : (2 : Int) ^ b ≤ 2 ^ 5 := by exact_mod_cast Nat.pow_le_pow_right (by decide) (by omega)
      have hV : val d (5 * c) b * 256 + d[i] = val d (5 * c) (b + 8) := by
        rw [val_add, hcb, val_byte hd hil]; rfl
      have h8 : (2 : Int) ^ (min (Int.toNat 8) IntKind.i64.bits) = 256 := rfl
      have hp2 : (2 : Int) ^ b' ≤ 2 ^ 5 := by exact_mod_cast Nat.pow_le_pow_right (by decide) (by omega)
      have hp3 : (0 : Int) < 2 ^ b' := Int.pow_pos (by decide)
      rw [h8, IntWalk.i64_in (val d (5 * c) b * 256) (by omega), IntWalk.i64_in d[i] (by omega), i64_or_add hv.1 (by omega) hx.1 hx.2, hV, minpow (k := b') rfl (by omega), Int.one_mul, IntWalk.i64_in (2 ^ b') (by omega), IntWalk.i64_in (2 ^ b' - 1) (by omega)]
      have hvl := val_lt d (5 * c) (b + 8)
      have hpb : (2 : Int) ^ (b + 8) ≤ 2 ^ 15 := by exact_mod_cast Nat.pow_le_pow_right (by decide) (by omega)
      rw [i64_and_mod _ b' (by omega) hvl.1 (by omega)]
      have hmod : val d (5 * c) (b + 8) % 2 ^ b' = val d (5 * c') b' := by
        have := val_mod d (5 * c) (5 * (c' - c)) b'
        rwa [show 5 * (c' - c) + b' = b + 8 by omega, show 5 * c + 5 * (c' - c) = 5 * c' by omega] at this
      rw [hmod]
      refine Ok.some ⟨n - 1, by omega, i + 1, c', b', by omega, hb', by omega, ?_⟩
      have hw2 : IntKind.i64.wrap (((i : Nat) : Int) + 1) = ((i + 1 : Nat) : Int) := by rw [IntWalk.i64_in _ (by omega)]; omega
      rw [hw2]
    · have hge : ¬ ((i : Nat) : Int) < (d.length : Int) := of_decide_eq_false h
      exact Ok.some ⟨c, b, hb, by omega, rfl⟩
  obtain ⟨r, e, c, b, hb, hcb, rfl⟩ := this
  unfold impl_Armor
  rw [show decide ((d.length : Int) > 20000) = false from decide_eq_false (by omega)]
  simp only [cond_false]
  rw [e, Option.bind_some]
  dsimp only
  unfold many
  have hlen := lets_length d c
  by_cases hb0 : b = 0
  · subst hb0
    rw [show decide (((0 : Nat) : Int) > 0) = false from rfl]
    simp only [cond_false]
    rw [show (8 * d.length + 4) / 5 = c by omega]
    rfl
  · rw [show decide (((b : Nat) : Int) > 0) = true from decide_eq_true (by omega)]
    simp only [cond_true]
    have hw : IntKind.i64.wrap (5 - ((b : Nat) : Int)) = ((5 - b : Nat) : Int) := by rw [IntWalk.i64_in _ (by omega)]; omega
    rw [hw, nn_get (by omega), Option.bind_some, minpow (k := 5 - b) rfl (by omega)]
    have hv5 : val d (5 * c) b * 2 ^ (5 - b) = val d (5 * c) 5 := by
      have := val_add d (5 * c) b (5 - b)
      rw [show b + (5 - b) = 5 by omega, val_zero (d := d) (k := 5 * c + b) (by omega), Int.add_zero] at this
      exact this.symm
    rw [hv5]
    have hv := val_lt d (5 * c) 5
    rw [IntWalk.i64_in (val d (5 * c) 5) (by omega)]
    have hand := i64_and_mod (val d (5 * c) 5) 5 (by omega) hv.1 (by omega)
    rw [show (2 : Int) ^ 5 - 1 = 31 from rfl, Int.emod_eq_of_lt hv.1 hv.2] at hand
    rw [hand]
    show (idxS letB (val d (5 * c) 5)).bind _ = _
    rw [letter_idx hv.1 hv.2, Option.bind_some, write_eq (by rw [hlen]; omega), Option.bind_some]
    rw [show (8 * d.length + 4) / 5 = c + 1 by omega, lets_succ]
    rfl
theorem armor_ok {d : List Int} (hd : Bytes d) (hl : d.length ≤ 20000) : Ok (impl_Armor d) fun s => s.size = many d.length := by
  refine ⟨_, armor_impl hd hl, ?_⟩
  have : ∀ (l : List Int) (b : ByteArray), (l.foldl (fun r n => r.push (UInt8.ofNat n.toNat)) b).size = b.size + l.length := by
    intro l
    induction l with
    | nil => intro b; simp
    | cons a l ih => intro b; rw [List.foldl_cons, ih]; simp [ByteArray.size_push]; omega
  show (byS (lets d (many d.length))).size = _
  unfold byS
  rw [this, lets_length]
  simp
end Go.G36.BW
/- What is drawn: the attack's configuration. -/
namespace Go.G36.BW
set_option linter.all false
open Go Go.G36 Go.Proofs Go.G36.BD

def Cur (n : Nat) (s : T_spec_l1Cur) : Prop := 0 ≤ s.at_ ∧ s.at_ ≤ (n : Int) ∧ ∀ b, b ∈ s.code_ → 0 ≤ b ∧ b ≤ 255
abbrev lim : Nat := 1000000
theorem Cur.mono {n m : Nat} {s : T_spec_l1Cur} (h : Cur n s) (hm : n ≤ m) : Cur m s := ⟨h.1, by have := h.2.1; omega, h.2.2⟩

theorem u64_and (x : BitVec IntKind.u64.bits) : 0 ≤ IntKind.i64.wrap (IntKind.u64.wrap ((x &&& BitVec.ofInt IntKind.u64.bits 255).toNat : Int)) ∧ IntKind.i64.wrap (IntKind.u64.wrap ((x &&& BitVec.ofInt IntKind.u64.bits 255).toNat : Int)) ≤ 255 := by
  have h : (x &&& BitVec.ofInt IntKind.u64.bits 255).toNat ≤ 255 := by
    rw [BitVec.toNat_and]
    exact Nat.le_trans Nat.and_le_right (by decide)
  generalize (x &&& BitVec.ofInt IntKind.u64.bits 255).toNat = y at h
  rw [IntWalk.u64_in _ (by omega), IntWalk.i64_in _ (by omega)]
  omega

theorem next_ok {n : Nat} {s : T_spec_l1Cur} (h : Cur n s) (hn : n < lim) : Ok (spec_l1Cur_next s) fun q => Cur (n + 1) q.2 ∧ 0 ≤ q.1 ∧ q.1 ≤ 255 := by
  obtain ⟨h0, h1, h2⟩ := h
  unfold lim at hn
  have hw : IntKind.i64.wrap (s.at_ + 1) = s.at_ + 1 := IntWalk.i64_in _ (by omega)
  have j : ∀ v, 0 ≤ v → v ≤ 255 → Ok (spec_l1Cur_next_j1 s v) fun q => Cur (n + 1) q.2 ∧ 0 ≤ q.1 ∧ q.1 ≤ 255 := fun v v0 v1 => by
    unfold spec_l1Cur_next_j1
    rw [hw]
    cases decide (s.at_ + 1 ≤ (s.code_.length : Int)) with
    | true => exact ⟨_, rfl, ⟨by show 0 ≤ s.at_ + 1; omega, by show s.at_ + 1 ≤ _; omega, h2⟩, v0, v1⟩
    | false =>
      refine ⟨_, rfl, ⟨by show 0 ≤ s.at_ + 1; omega, by show s.at_ + 1 ≤ _; omega, h2⟩, ?_⟩
      exact u64_and _
  unfold spec_l1Cur_next
  cases hd : decide (s.at_ < (s.code_.length : Int)) with
  | false => exact j 0 (by omega) (by omega)
  | true =>
    have hlt := of_decide_eq_true hd
    have hx : s.code_[s.at_.toNat]? = some s.code_[s.at_.toNat] := by simp
    have hi : idx s.code_ s.at_ = some s.code_[s.at_.toNat] := by unfold idx; rw [if_pos h0, hx]
    have hb := h2 _ (List.getElem_mem (l := s.code_) (n := s.at_.toNat) (by omega))
    simp only [cond_true, hi, Option.bind_some]
    rw [IntWalk.i64_in _ (by omega)]
    exact j _ hb.1 hb.2

theorem pick_ok {n : Nat} {s : T_spec_l1Cur} (a : Int) (h : Cur n s) (hn : n + 1 < lim) : Ok (spec_l1Cur_pick a s) fun q => Cur (n + 2) q.2 ∧ 0 ≤ q.1 ∧ (1 ≤ a → q.1 < a) := by
  unfold spec_l1Cur_pick
  refine Ok.cond (fun ha => Ok.some ⟨h.mono (by omega), Int.le_refl _, fun h1 => h1⟩) fun ha => ?_
  have ha1 : ¬ a ≤ 1 := of_decide_eq_false ha
  have hnz : nz a = some a := by unfold nz; rw [if_neg (by omega)]
  have j : ∀ (v : Int) (o : T_spec_l1Cur), 0 ≤ v → Cur (n + 2) o → Ok (spec_l1Cur_pick_j1 a o v) fun q => Cur (n + 2) q.2 ∧ 0 ≤ q.1 ∧ (1 ≤ a → q.1 < a) := fun v o hv ho => by
    unfold spec_l1Cur_pick_j1
    rw [hnz]
    exact ⟨_, rfl, ho, Int.tmod_nonneg _ hv, fun _ => Int.tmod_lt_of_pos _ (by omega)⟩
  refine Ok.bind (next_ok h (by omega)) ?_
  rintro ⟨r, o⟩ ⟨h2, h3, h4⟩
  refine Ok.cond (fun _ => ?_) (fun _ => j r o h3 (h2.mono (by omega)))
  refine Ok.bind (next_ok h2 (by omega)) ?_
  rintro ⟨r2, o2⟩ ⟨g2, g3, g4⟩
  have h3' : 0 ≤ r := h3
  have h4' : r ≤ 255 := h4
  have g3' : 0 ≤ r2 := g3
  have g4' : r2 ≤ 255 := g4
  show Ok (spec_l1Cur_pick_j1 a o2 (IntKind.i64.wrap (IntKind.i64.wrap (r * 256) + r2))) _
  rw [IntWalk.i64_in (r * 256) (by omega), IntWalk.i64_in _ (by omega)]
  exact j _ o2 (by omega) g2

theorem one_ok {n : Nat} {s : T_spec_l1Cur} (a : Int) (h : Cur n s) (hn : n + 1 < lim) : Ok (spec_l1Cur_one a s) fun q => Cur (n + 2) q.2 := by
  unfold spec_l1Cur_one
  refine Ok.bind (pick_ok a h hn) ?_
  rintro ⟨r, o⟩ ⟨h2, h3, h4⟩
  exact Ok.some h2

theorem bytes_ok {n : Nat} {s : T_spec_l1Cur} (h : Cur n s) (hn : n + 8 < lim) : Ok (spec_l1Cur_bytes 4 s) fun q => Cur (n + 6) q.2 ∧ q.1.length ≤ 3 ∧ Bytes q.1 := by
  unfold spec_l1Cur_bytes
  refine Ok.bind (pick_ok 4 h (by omega)) ?_
  rintro ⟨r, o⟩ ⟨h1, h2, h3⟩
  dsimp only at h1 h2 h3 ⊢
  replace h3 := h3 (by omega)
  have : Ok (loopO spec_l1Cur_bytes_l1 (o, [], r)) fun q => Cur (n + 6) q.1 ∧ q.2.length ≤ 3 ∧ Bytes q.2 := by
    refine Ok.loop (fun k s => ∃ j : Nat, j + k ≤ 3 ∧ s.2.2 = (k : Int) ∧ Cur (n + 2 + j) s.1 ∧ s.2.1.length = j ∧ Bytes s.2.1) ?_ (n := r.toNat) ⟨0, by omega, by simp; omega, h1, rfl, Bytes.nil⟩
    rintro k ⟨b, l, v⟩ ⟨j, hj, hv, hc, hl, hb⟩
    dsimp only at hv hc hl hb
    subst hv
    unfold spec_l1Cur_bytes_l1
    dsimp only
    refine Ok.cond (fun hd => ?_) (fun hd => ?_)
    · have hk : (k : Int) > 0 := of_decide_eq_true hd
      refine Ok.bind (next_ok hc (by omega)) ?_
      rintro ⟨r10, o11⟩ ⟨g1, g2, g3⟩
      dsimp only at g1 g2 g3 ⊢
      rw [IntWalk.u8_in _ (by omega), IntWalk.i64_in _ (by omega), app_get (by simp; omega), Option.bind_some]
      refine Ok.some ⟨k - 1, by omega, j + 1, by omega, by show (k : Int) - 1 = ((k - 1 : Nat) : Int); omega, g1, by show (l ++ [r10]).length = _; simp; omega, hb.app fun b hb => by simp at hb; omega⟩
    · exact Ok.some ⟨hc.mono (by omega), by show l.length ≤ 3; omega, hb⟩
  refine Ok.bind this ?_
  rintro ⟨b, l⟩ ⟨g1, g2, g3⟩
  exact Ok.some ⟨g1, g2, g3⟩

abbrev sApp : ByteArray := ByteArray.mk #[97, 112, 112]
abbrev sSvc : ByteArray := ByteArray.mk #[115, 118, 99]
abbrev sTv : ByteArray := ByteArray.mk #[116, 118]
abbrev sNone : ByteArray := ByteArray.mk #[110, 111, 110, 101]
abbrev sZed : ByteArray := ByteArray.mk #[122, 101, 100]
abbrev sX : ByteArray := ByteArray.mk #[120]
abbrev sSec : ByteArray := ByteArray.mk #[115, 51, 99, 114, 101, 116]
abbrev sE : ByteArray := ByteArray.mk #[]
abbrev sMail : ByteArray := ByteArray.mk #[109, 97, 105, 108]
abbrev sRead : ByteArray := ByteArray.mk #[114, 101, 97, 100]
abbrev sWrite : ByteArray := ByteArray.mk #[119, 114, 105, 116, 101]
abbrev sCb : ByteArray := ByteArray.mk #[104, 116, 116, 112, 115, 58, 47, 47, 97, 112, 112, 47, 99, 98]
abbrev sCb2 : ByteArray := ByteArray.mk #[97, 112, 112, 58, 99, 98]
abbrev sCb3 : ByteArray := ByteArray.mk #[104, 116, 116, 112, 115, 58, 47, 47, 115, 118, 99, 47, 99, 98]
abbrev cApp (id : ByteArray) (ks : List Int) : T_impl_Client := ⟨id, [], [sCb, sCb2], [sMail, sRead, sWrite], ks⟩
abbrev cSvc (d : List Int) : T_impl_Client := ⟨sSvc, d, [sCb3], [sRead, sWrite], [1, 2, 4]⟩
abbrev cTv : T_impl_Client := ⟨sTv, [], [], [sRead], [3]⟩
/-- The clients that are drawn, four kinds of lists. -/
def lists (d : List Int) : Nat → List T_impl_Client
  | 0 => [cApp sApp [1, 2, 3], cSvc d, cTv]
  | 1 => [cApp sZed [1, 2, 3], cSvc d, cTv]
  | 2 => [cApp sApp [1, 2, 3], cSvc [1], cTv]
  | _ => [cApp sApp [5], cSvc d, cTv]
/-- The digest of the secret. -/
noncomputable def dig : List Int := (spec_l2Digest [115, 51, 99, 114, 101, 116]).getD []
theorem dig_ok : spec_l2Digest [115, 51, 99, 114, 101, 116] = some dig ∧ impl_Digest [115, 51, 99, 114, 101, 116] = some dig ∧ dig.length = 16 ∧ Bytes dig := by
  obtain ⟨r, r', e, e', rfl, hl, hb⟩ := digest_eq (a := [115, 51, 99, 114, 101, 116]) (by intro b hb; simp at hb; omega) (by decide)
  have : dig = r := by unfold dig; rw [e']; rfl
  rw [this]
  exact ⟨e', e, hl, hb⟩
def Srv (s : T_impl_Server) : Prop := (∃ k, k < 4 ∧ s.Clients_ = lists dig k) ∧ s.Key_.length ≤ 3 ∧ Bytes s.Key_ ∧ 0 ≤ s.Short_ ∧ s.Short_ ≤ 1000001 ∧ 30 ≤ s.Long_ ∧ s.Long_ ≤ 129
theorem server_ok {n : Nat} {s : T_spec_l1Cur} (h : Cur n s) (hn : n + 20 < lim) : Ok (spec_l1Cur_server s) fun q => Cur (n + 20) q.2 ∧ Srv q.1 := by
  unfold spec_l1Cur_server
  refine Ok.bind (bytes_ok h (by omega)) ?_
  rintro ⟨key, o2⟩ ⟨h1, hk, hkb⟩
  dsimp only at h1 hk hkb ⊢
  refine Ok.bind (pick_ok 30 h1 (by omega)) ?_
  rintro ⟨r4, o5⟩ ⟨h2, a0, a1⟩
  dsimp only at h2 a0 a1 ⊢
  replace a1 := a1 (by omega)
  refine Ok.bind (pick_ok 100 h2 (by omega)) ?_
  rintro ⟨r7, o8⟩ ⟨h3, b0, b1⟩
  dsimp only at h3 b0 b1 ⊢
  replace b1 := b1 (by omega)
  rw [dig_ok.1, Option.bind_some]
  refine Ok.bind (pick_ok 30 h3 (by omega)) ?_
  rintro ⟨r12, o13⟩ ⟨h4, c0, c1⟩
  dsimp only at h4 c0 c1 ⊢
  have e1 : IntKind.i64.wrap (10 + r4) = 10 + r4 := IntWalk.i64_in _ (by omega)
  have e2 : IntKind.i64.wrap (30 + r7) = 30 + r7 := IntWalk.i64_in _ (by omega)
  rw [e1, e2]
  have fin : ∀ (k : Nat) (sh : Int), k < 4 → 0 ≤ sh → sh ≤ 1000001 → ∀ o, Cur (n + 14) o → Ok (some ((⟨lists dig k, key, sh, 30 + r7⟩ : T_impl_Server), o)) fun q => Cur (n + 20) q.2 ∧ Srv q.1 := fun k sh hk' h0 h5 o ho =>
    Ok.some ⟨ho.mono (by omega), ⟨k, hk', rfl⟩, hk, hkb, h0, h5, by show 30 ≤ 30 + r7; omega, by show 30 + r7 ≤ 129; omega⟩
  refine Ok.cond (fun _ => ?_) (fun _ => ?_)
  · refine Ok.bind (pick_ok 3 h4 (by omega)) ?_
    rintro ⟨r15, o16⟩ ⟨h5, d0, d1⟩
    dsimp only at h5 d0 d1 ⊢
    replace d1 := d1 (by omega)
    obtain rfl | rfl | rfl : r15 = 0 ∨ r15 = 1 ∨ r15 = 2 := by omega
    · exact fin 0 0 (by decide) (by decide) (by decide) _ h5
    · exact fin 0 1000000 (by decide) (by decide) (by decide) _ h5
    · exact fin 0 1000001 (by decide) (by decide) (by decide) _ h5
  · refine Ok.cond (fun _ => fin 1 _ (by decide) (by omega) (by omega) _ (h4.mono (by omega))) (fun _ => ?_)
    refine Ok.cond (fun _ => fin 2 _ (by decide) (by omega) (by omega) _ (h4.mono (by omega))) (fun _ => ?_)
    refine Ok.cond (fun _ => fin 3 _ (by decide) (by omega) (by omega) _ (h4.mono (by omega))) (fun _ => ?_)
    exact fin 0 _ (by decide) (by omega) (by omega) _ (h4.mono (by omega))
def Conf (c : T_impl_AttackConf) : Prop := Srv c.Server_ ∧ (c.Client_ = sApp ∨ c.Client_ = sSvc ∨ c.Client_ = sTv ∨ c.Client_ = sNone) ∧ (c.Secret_ = sE ∨ c.Secret_ = sX ∨ c.Secret_ = sSec)
theorem of_ok {n : Nat} {s : T_spec_l1Cur} (l : List ByteArray) (h : Cur n s) (hn : n + 2 < lim) (h0 : 1 ≤ l.length) : Ok (spec_l1Cur_of l s) fun q => Cur (n + 2) q.2 ∧ q.1 ∈ l := by
  unfold spec_l1Cur_of
  refine Ok.bind (pick_ok _ h (by omega)) ?_
  rintro ⟨r, o⟩ ⟨h1, h2, h3⟩
  dsimp only at h1 h2 h3 ⊢
  replace h3 := h3 (by omega)
  rw [idx_get h2 (by omega)]
  exact Ok.some ⟨h1, List.getElem_mem _⟩
theorem attack_j1_ok {n : Nat} {s : T_spec_l1Cur} {c : T_impl_AttackConf} (h : Cur n s) (hn : n + 20 < lim) (hc : Conf c) : Ok (spec_l1Cur_attack_j1 s c) fun q => Conf q.1 := by
  unfold spec_l1Cur_attack_j1
  refine Ok.bind (pick_ok _ h (by omega)) ?_
  rintro ⟨r, o⟩ ⟨h1, h2, h3⟩
  dsimp only at h1 h2 h3 ⊢
  obtain ⟨g1, g2, g3⟩ := hc
  refine Ok.cond (fun _ => ?_) (fun _ => Ok.cond (fun _ => ?_) (fun _ => Ok.some ⟨g1, g2, g3⟩))
  · refine Ok.bind (of_ok _ h1 (by omega) (by decide)) ?_
    rintro ⟨r, o⟩ ⟨h4, h5⟩
    refine Ok.some ⟨g1, ?_, g3⟩
    dsimp only at h5 ⊢
    simp only [List.mem_cons, List.not_mem_nil, or_false] at h5
    rcases h5 with h5 | h5
    · exact .inr (.inr (.inl h5))
    · exact .inr (.inr (.inr h5))
  · refine Ok.bind (of_ok _ h1 (by omega) (by decide)) ?_
    rintro ⟨r, o⟩ ⟨h4, h5⟩
    refine Ok.some ⟨g1, g2, ?_⟩
    dsimp only at h5 ⊢
    simpa only [List.mem_cons, List.not_mem_nil, or_false] using h5
theorem drawAttack_ok {code : List Int} (hc : Bytes code) : Ok (spec_DrawGoodAttack code) Conf := by
  unfold spec_DrawGoodAttack spec_l1Cur_attack
  have h : Cur 0 (⟨code, 0, 0⟩ : T_spec_l1Cur) := ⟨Int.le_refl _, Int.le_refl _, hc⟩
  refine Ok.bind (Q := fun q => Conf q.1) ?_ fun r hr => Ok.some hr
  refine Ok.bind (server_ok h (by decide)) ?_
  rintro ⟨sv, o2⟩ ⟨h1, hs⟩
  dsimp only at h1 hs ⊢
  refine Ok.bind (of_ok _ h1 (by decide) (by decide)) ?_
  rintro ⟨r4, o5⟩ ⟨h2, h3⟩
  dsimp only at h2 h3 ⊢
  have h3' : r4 = sApp ∨ r4 = sSvc ∨ r4 = sTv ∨ r4 = sNone := by
    simp only [List.mem_cons, List.not_mem_nil, or_false] at h3
    rcases h3 with h3 | h3 | h3
    · exact .inl h3
    · exact .inr (.inl h3)
    · exact .inl h3
  refine Ok.bind (one_ok _ h2 (by decide)) ?_
  rintro ⟨r7, o8⟩ h4
  dsimp only at h4 ⊢
  refine Ok.bind (one_ok _ h4 (by decide)) ?_
  rintro ⟨r10, o11⟩ h5
  dsimp only at h5 ⊢
  refine Ok.cond (fun _ => attack_j1_ok h5 (by decide) ⟨hs, h3', .inr (.inr rfl)⟩) (fun _ => attack_j1_ok h5 (by decide) ⟨hs, h3', .inl rfl⟩)
end Go.G36.BW
/- What the drawn servers are worth: the program's word and the reference's. -/
namespace Go.G36.BW
set_option linter.all false
open Go Go.G36 Go.Proofs Go.G36.BD

theorem g_id0 : impl_ygoodId sApp = some true := by unfold impl_ygoodId; rw [loopO_of (n := 60) (r := .inl ()) (by kernel_rfl)]; rfl
theorem h_id0 : spec_l7Id sApp = some true := by unfold spec_l7Id; rw [loopO_of (n := 60) (r := .inl ()) (by kernel_rfl)]; kernel_rfl
theorem g_id1 : impl_ygoodId sSvc = some true := by unfold impl_ygoodId; rw [loopO_of (n := 60) (r := .inl ()) (by kernel_rfl)]; rfl
theorem h_id1 : spec_l7Id sSvc = some true := by unfold spec_l7Id; rw [loopO_of (n := 60) (r := .inl ()) (by kernel_rfl)]; kernel_rfl
theorem g_id2 : impl_ygoodId sTv = some true := by unfold impl_ygoodId; rw [loopO_of (n := 60) (r := .inl ()) (by kernel_rfl)]; rfl
theorem h_id2 : spec_l7Id sTv = some true := by unfold spec_l7Id; rw [loopO_of (n := 60) (r := .inl ()) (by kernel_rfl)]; kernel_rfl
theorem g_id3 : impl_ygoodId sZed = some true := by unfold impl_ygoodId; rw [loopO_of (n := 60) (r := .inl ()) (by kernel_rfl)]; rfl
theorem h_id3 : spec_l7Id sZed = some true := by unfold spec_l7Id; rw [loopO_of (n := 60) (r := .inl ()) (by kernel_rfl)]; kernel_rfl
theorem g_n0 : impl_GoodName sMail = some true := by unfold impl_GoodName; rw [loopO_of (n := 60) (r := .inl ()) (by kernel_rfl)]; kernel_rfl
theorem h_n0 : spec_GoodName sMail = some true := by unfold spec_GoodName; rw [loopO_of (n := 60) (r := .inl ()) (by kernel_rfl)]; kernel_rfl
theorem g_n1 : impl_GoodName sRead = some true := by unfold impl_GoodName; rw [loopO_of (n := 60) (r := .inl ()) (by kernel_rfl)]; kernel_rfl
theorem h_n1 : spec_GoodName sRead = some true := by unfold spec_GoodName; rw [loopO_of (n := 60) (r := .inl ()) (by kernel_rfl)]; kernel_rfl
theorem g_n2 : impl_GoodName sWrite = some true := by unfold impl_GoodName; rw [loopO_of (n := 60) (r := .inl ()) (by kernel_rfl)]; kernel_rfl
theorem h_n2 : spec_GoodName sWrite = some true := by unfold spec_GoodName; rw [loopO_of (n := 60) (r := .inl ()) (by kernel_rfl)]; kernel_rfl
theorem g_p0 : impl_yprinted sCb 1 200 = some true := by unfold impl_yprinted; rw [loopO_of (n := 60) (r := .inl ()) (by kernel_rfl)]; kernel_rfl
theorem h_p0 : spec_l1Printed sCb = some true := by unfold spec_l1Printed; rw [loopO_of (n := 60) (r := .inl ()) (by kernel_rfl)]; rfl
theorem g_p1 : impl_yprinted sCb2 1 200 = some true := by unfold impl_yprinted; rw [loopO_of (n := 60) (r := .inl ()) (by kernel_rfl)]; kernel_rfl
theorem h_p1 : spec_l1Printed sCb2 = some true := by unfold spec_l1Printed; rw [loopO_of (n := 60) (r := .inl ()) (by kernel_rfl)]; rfl
theorem g_p2 : impl_yprinted sCb3 1 200 = some true := by unfold impl_yprinted; rw [loopO_of (n := 60) (r := .inl ()) (by kernel_rfl)]; kernel_rfl
theorem h_p2 : spec_l1Printed sCb3 = some true := by unfold spec_l1Printed; rw [loopO_of (n := 60) (r := .inl ()) (by kernel_rfl)]; rfl
theorem w1 : IntKind.i64.wrap 1 = 1 := rfl
theorem w2 : IntKind.i64.wrap 2 = 2 := rfl
theorem w3 : IntKind.i64.wrap 3 = 3 := rfl
theorem w0 : IntKind.i64.wrap 0 = 0 := rfl
theorem g_r0 : impl_yrising [sMail, sRead, sWrite] = some true := by unfold impl_yrising; rw [loopO_of (n := 60) (r := .inl ()) (by kernel_rfl)]; rfl
theorem g_x0 : slices_IndexFunc [sMail, sRead, sWrite] = some (-1) := by unfold slices_IndexFunc; rw [loopO_go (s' := 1) (by unfold slices_IndexFunc_l1; simp [idx, gdO, w0, w1, w2, w3, impl_yallNames_1, g_n0, g_n1, g_n2]), loopO_go (s' := 2) (by unfold slices_IndexFunc_l1; simp [idx, gdO, w0, w1, w2, w3, impl_yallNames_1, g_n0, g_n1, g_n2]), loopO_go (s' := 3) (by unfold slices_IndexFunc_l1; simp [idx, gdO, w0, w1, w2, w3, impl_yallNames_1, g_n0, g_n1, g_n2]), loopO_end (r := .inl ()) (by unfold slices_IndexFunc_l1; simp [idx, gdO, w0, w1, w2, w3, impl_yallNames_1, g_n0, g_n1, g_n2])]; rfl
theorem g_f0 : impl_yfitScopes [sMail, sRead, sWrite] = some true := by unfold impl_yfitScopes impl_yallNames slices_ContainsFunc; rw [g_r0, g_x0]; rfl
theorem g_r1 : impl_yrising [sRead, sWrite] = some true := by unfold impl_yrising; rw [loopO_of (n := 60) (r := .inl ()) (by kernel_rfl)]; rfl
theorem g_x1 : slices_IndexFunc [sRead, sWrite] = some (-1) := by unfold slices_IndexFunc; rw [loopO_go (s' := 1) (by unfold slices_IndexFunc_l1; simp [idx, gdO, w0, w1, w2, w3, impl_yallNames_1, g_n1, g_n2]), loopO_go (s' := 2) (by unfold slices_IndexFunc_l1; simp [idx, gdO, w0, w1, w2, w3, impl_yallNames_1, g_n1, g_n2]), loopO_end (r := .inl ()) (by unfold slices_IndexFunc_l1; simp [idx, gdO, w0, w1, w2, w3, impl_yallNames_1, g_n1, g_n2])]; rfl
theorem g_f1 : impl_yfitScopes [sRead, sWrite] = some true := by unfold impl_yfitScopes impl_yallNames slices_ContainsFunc; rw [g_r1, g_x1]; rfl
theorem g_r2 : impl_yrising [sRead] = some true := by unfold impl_yrising; rw [loopO_of (n := 60) (r := .inl ()) (by kernel_rfl)]; rfl
theorem g_x2 : slices_IndexFunc [sRead] = some (-1) := by unfold slices_IndexFunc; rw [loopO_go (s' := 1) (by unfold slices_IndexFunc_l1; simp [idx, gdO, w0, w1, w2, w3, impl_yallNames_1, g_n1]), loopO_end (r := .inl ()) (by unfold slices_IndexFunc_l1; simp [idx, gdO, w0, w1, w2, w3, impl_yallNames_1, g_n1])]; rfl
theorem g_f2 : impl_yfitScopes [sRead] = some true := by unfold impl_yfitScopes impl_yallNames slices_ContainsFunc; rw [g_r2, g_x2]; rfl
theorem g_d0 : slices_IndexFuncx [sCb, sCb2] = some (-1) := by unfold slices_IndexFuncx; rw [loopO_go (s' := 1) (by unfold slices_IndexFuncx_l1; simp [idx, gdO, w0, w1, w2, w3, impl_GoodServer_1, g_p0, g_p1]), loopO_go (s' := 2) (by unfold slices_IndexFuncx_l1; simp [idx, gdO, w0, w1, w2, w3, impl_GoodServer_1, g_p0, g_p1]), loopO_end (r := .inl ()) (by unfold slices_IndexFuncx_l1; simp [idx, gdO, w0, w1, w2, w3, impl_GoodServer_1, g_p0, g_p1])]; rfl
theorem g_e0 : slices_ContainsFuncx [sCb, sCb2] = some false := by unfold slices_ContainsFuncx; rw [g_d0]; rfl
theorem g_d1 : slices_IndexFuncx [sCb3] = some (-1) := by unfold slices_IndexFuncx; rw [loopO_go (s' := 1) (by unfold slices_IndexFuncx_l1; simp [idx, gdO, w0, w1, w2, w3, impl_GoodServer_1, g_p2]), loopO_end (r := .inl ()) (by unfold slices_IndexFuncx_l1; simp [idx, gdO, w0, w1, w2, w3, impl_GoodServer_1, g_p2])]; rfl
theorem g_e1 : slices_ContainsFuncx [sCb3] = some false := by unfold slices_ContainsFuncx; rw [g_d1]; rfl
theorem g_d2 : slices_IndexFuncx [] = some (-1) := by unfold slices_IndexFuncx; rw [loopO_end (r := .inl ()) (by unfold slices_IndexFuncx_l1; simp [idx, gdO, w0, w1, w2, w3, impl_GoodServer_1, g_p0])]; rfl
theorem g_e2 : slices_ContainsFuncx [] = some false := by unfold slices_ContainsFuncx; rw [g_d2]; rfl
theorem g_k0 : slices_IndexFuncxx [1, 2, 3] = some (-1) := by unfold slices_IndexFuncxx; rw [loopO_of (n := 60) (r := .inl ()) (by kernel_rfl)]; rfl
theorem g_l0 : slices_ContainsFuncxx [1, 2, 3] = some false := by unfold slices_ContainsFuncxx; rw [g_k0]; rfl
theorem g_c0 : slices_Index [1, 2, 3] 1 = some 0 := by unfold slices_Index; rw [loopO_of (n := 60) (r := .inr 0) (by kernel_rfl)]; rfl
theorem g_o0 : slices_Contains [1, 2, 3] 1 = some true := by unfold slices_Contains; rw [g_c0]; rfl
theorem g_k1 : slices_IndexFuncxx [1, 2, 4] = some (-1) := by unfold slices_IndexFuncxx; rw [loopO_of (n := 60) (r := .inl ()) (by kernel_rfl)]; rfl
theorem g_l1 : slices_ContainsFuncxx [1, 2, 4] = some false := by unfold slices_ContainsFuncxx; rw [g_k1]; rfl
theorem g_c1 : slices_Index [1, 2, 4] 1 = some 0 := by unfold slices_Index; rw [loopO_of (n := 60) (r := .inr 0) (by kernel_rfl)]; rfl
theorem g_o1 : slices_Contains [1, 2, 4] 1 = some true := by unfold slices_Contains; rw [g_c1]; rfl
theorem g_k2 : slices_IndexFuncxx [3] = some (-1) := by unfold slices_IndexFuncxx; rw [loopO_of (n := 60) (r := .inl ()) (by kernel_rfl)]; rfl
theorem g_l2 : slices_ContainsFuncxx [3] = some false := by unfold slices_ContainsFuncxx; rw [g_k2]; rfl
theorem g_c2 : slices_Index [3] 1 = some (-1) := by unfold slices_Index; rw [loopO_of (n := 60) (r := .inl ()) (by kernel_rfl)]; rfl
theorem g_o2 : slices_Contains [3] 1 = some false := by unfold slices_Contains; rw [g_c2]; rfl
theorem g_k3 : slices_IndexFuncxx [5] = some 0 := by unfold slices_IndexFuncxx; rw [loopO_of (n := 60) (r := .inr 0) (by kernel_rfl)]; rfl
theorem g_l3 : slices_ContainsFuncxx [5] = some true := by unfold slices_ContainsFuncxx; rw [g_k3]; rfl
theorem g_c3 : slices_Index [5] 1 = some (-1) := by unfold slices_Index; rw [loopO_of (n := 60) (r := .inl ()) (by kernel_rfl)]; rfl
theorem g_o3 : slices_Contains [5] 1 = some false := by unfold slices_Contains; rw [g_c3]; rfl
end Go.G36.BW
/- The drawn servers: GoodServer, GoodAttack, the program's and the reference's. -/
namespace Go.G36.BW
set_option linter.all false
open Go Go.G36 Go.Proofs Go.G36.BD

/-- A search from the front. -/
theorem scan {α R : Type} (p : α → Bool) (g : Int → α → R) (l : List α) (hl : l.length ≤ 1000000000) :
    Ok (loopO (fun v : Int => cond (decide (v < (l.length : Int))) ((idx l v).bind fun e => cond (p e) (some (Sum.inr (Sum.inr (g v e)))) (some (Sum.inl (IntKind.i64.wrap (v + 1))))) (some (Sum.inr (Sum.inl ())))) (0 : Int)) fun q : Unit ⊕ R =>
      ((q = .inl () ∧ ∀ e, e ∈ l → p e = false) ∨ ∃ (i : Nat) (h : i < l.length), p l[i] = true ∧ q = .inr (g (i : Int) l[i]) ∧ ∀ (j : Nat) (hj : j < i), p (l[j]'(by omega)) = false) := by
  refine Ok.loop (fun k v => ∃ i : Nat, i + k = l.length ∧ v = (i : Int) ∧ ∀ (j : Nat) (hj : j < i) (hj2 : j < l.length), p l[j] = false) ?_ (n := l.length) ⟨0, by omega, rfl, fun j hj => by omega⟩
  rintro k v ⟨i, hi, rfl, hp⟩
  refine Ok.cond (fun h => ?_) (fun h => ?_)
  · have hlt : (i : Int) < (l.length : Int) := of_decide_eq_true h
    have hg : idx l (i : Int) = some (l[i]'(by omega)) := idx_get (xs := l) (i := (i : Int)) (by omega) (by omega)
    rw [hg, Option.bind_some]
    refine Ok.cond (fun hx => ?_) (fun hx => ?_)
    · exact Ok.some (.inr ⟨i, by omega, hx, rfl, fun j hj => hp j hj (by omega)⟩)
    · rw [IntWalk.i64_in _ (by omega)]
      refine Ok.some ⟨k - 1, by omega, i + 1, by omega, by omega, fun j hj hj2 => ?_⟩
      by_cases hji : j = i
      · subst hji; exact hx
      · exact hp j (by omega) hj2
  · have hge : ¬ (i : Int) < (l.length : Int) := of_decide_eq_false h
    refine Ok.some (.inl ⟨rfl, fun e he => ?_⟩)
    obtain ⟨j, hj, rfl⟩ := List.mem_iff_getElem.1 he
    exact hp j (by omega) hj
theorem client_ok (l : List T_impl_Client) (hl : l.length ≤ 1000000000) (id : ByteArray) : Ok (impl_Client_ l id) fun _ => True := by
  obtain ⟨q, e, h⟩ := scan (fun c : T_impl_Client => c.Id_.toList == id.toList) (fun _ c => (c, true)) l hl
  unfold impl_Client_
  have e' : loopO (impl_Client__l1 l id) 0 = some q := e
  rw [e']
  cases q <;> exact ⟨_, rfl, trivial⟩
theorem client22_ok (c : T_impl_AttackConf) (hl : c.Server_.Clients_.length ≤ 1000000000) : Ok (spec_l22Client c) fun _ => True := by
  obtain ⟨q, e, h⟩ := scan (fun x : T_impl_Client => x.Id_.toList == c.Client_.toList) (fun _ x => (x, true)) c.Server_.Clients_ hl
  unfold spec_l22Client
  have e' : loopO (spec_l22Client_l1 c) 0 = some q := e
  rw [e']
  cases q <;> exact ⟨_, rfl, trivial⟩

theorem b1 : Op.bytesLess [97, 112, 112] [115, 118, 99] = true := by kernel_rfl
theorem b2 : Op.bytesLess [115, 118, 99] [116, 118] = true := by kernel_rfl
theorem b3 : Op.bytesLess [122, 101, 100] [115, 118, 99] = false := by kernel_rfl
theorem dig_len : dig.length = 16 := dig_ok.2.2.1

theorem gs0 (key : List Int) (sh lo : Int) : loopO (impl_GoodServer_l1 ⟨lists dig 0, key, sh, lo⟩) 0 = some (.inl ()) := by
  rw [loopO_go (s' := 1) (by unfold impl_GoodServer_l1; simp [idx, gdO, w0, w1, w2, w3, lists, g_id0, g_f0, g_e0, g_l0]),
    loopO_go (s' := 2) (by unfold impl_GoodServer_l1; simp [idx, gdO, w0, w1, w2, w3, lists, g_id1, g_f1, g_e1, g_l1, b1, dig_len]),
    loopO_go (s' := 3) (by unfold impl_GoodServer_l1; simp [idx, gdO, w0, w1, w2, w3, lists, g_id2, g_f2, g_e2, g_l2, b2]),
    loopO_end (r := .inl ()) (by unfold impl_GoodServer_l1; simp [lists])]
theorem gs1 (key : List Int) (sh lo : Int) : loopO (impl_GoodServer_l1 ⟨lists dig 1, key, sh, lo⟩) 0 = some (.inr false) := by
  rw [loopO_go (s' := 1) (by unfold impl_GoodServer_l1; simp [idx, gdO, w0, w1, w2, w3, lists, g_id3, g_f0, g_e0, g_l0]),
    loopO_end (r := .inr false) (by unfold impl_GoodServer_l1; simp [idx, gdO, w0, w1, w2, w3, lists, g_id1, g_f1, g_e1, g_l1, b3, dig_len])]
theorem gs2 (key : List Int) (sh lo : Int) : loopO (impl_GoodServer_l1 ⟨lists dig 2, key, sh, lo⟩) 0 = some (.inr false) := by
  rw [loopO_go (s' := 1) (by unfold impl_GoodServer_l1; simp [idx, gdO, w0, w1, w2, w3, lists, g_id0, g_f0, g_e0, g_l0]),
    loopO_end (r := .inr false) (by unfold impl_GoodServer_l1; simp [idx, gdO, w0, w1, w2, w3, lists, g_id1, g_f1, g_e1, g_l1, b1])]
theorem gs3 (key : List Int) (sh lo : Int) : loopO (impl_GoodServer_l1 ⟨lists dig 3, key, sh, lo⟩) 0 = some (.inr false) := by
  rw [loopO_end (r := .inr false) (by unfold impl_GoodServer_l1; simp [idx, gdO, w0, w1, w2, w3, lists, g_id0, g_f0, g_e0, g_l3])]
end Go.G36.BW
/- The drawn servers by the reference's word. -/
namespace Go.G36.BW
set_option linter.all false
open Go Go.G36 Go.Proofs Go.G36.BD

theorem z0 : sCb.size = 14 := rfl
theorem z1 : sCb2.size = 6 := rfl
theorem z2 : sCb3.size = 14 := rfl
theorem h_t0 : spec_l1CmpText sApp sSvc = some (-1) := by unfold spec_l1CmpText; rw [loopO_of (n := 60) (r := .inr (-1)) (by kernel_rfl)]; rfl
theorem h_t1 : spec_l1CmpText sSvc sTv = some (-1) := by unfold spec_l1CmpText; rw [loopO_of (n := 60) (r := .inr (-1)) (by kernel_rfl)]; rfl
theorem h_t2 : spec_l1CmpText sZed sSvc = some (1) := by unfold spec_l1CmpText; rw [loopO_of (n := 60) (r := .inr (1)) (by kernel_rfl)]; rfl
theorem h_t3 : spec_l1CmpText sMail sRead = some (-1) := by unfold spec_l1CmpText; rw [loopO_of (n := 60) (r := .inr (-1)) (by kernel_rfl)]; rfl
theorem h_t4 : spec_l1CmpText sRead sWrite = some (-1) := by unfold spec_l1CmpText; rw [loopO_of (n := 60) (r := .inr (-1)) (by kernel_rfl)]; rfl
theorem h_r0 : spec_l3Rising [sMail, sRead, sWrite] = some true := by unfold spec_l3Rising; rw [loopO_go (s' := 2) (by unfold spec_l3Rising_l1; simp [idx, gdO, w0, w1, w2, w3, h_t3, h_t4]), loopO_go (s' := 3) (by unfold spec_l3Rising_l1; simp [idx, gdO, w0, w1, w2, w3, h_t3, h_t4]), loopO_end (r := .inl ()) (by unfold spec_l3Rising_l1; simp [idx, gdO, w0, w1, w2, w3, h_t3, h_t4])]; rfl
theorem h_s0 : spec_l18Scopes [sMail, sRead, sWrite] = some true := by unfold spec_l18Scopes; rw [loopO_go (s' := 1) (by unfold spec_l18Scopes_l1; simp [idx, gdO, w0, w1, w2, w3, h_n0, h_n1, h_n2]), loopO_go (s' := 2) (by unfold spec_l18Scopes_l1; simp [idx, gdO, w0, w1, w2, w3, h_n0, h_n1, h_n2]), loopO_go (s' := 3) (by unfold spec_l18Scopes_l1; simp [idx, gdO, w0, w1, w2, w3, h_n0, h_n1, h_n2]), loopO_end (r := .inl ()) (by unfold spec_l18Scopes_l1; simp [idx, gdO, w0, w1, w2, w3])]; simp [gdO, h_r0]
theorem h_r1 : spec_l3Rising [sRead, sWrite] = some true := by unfold spec_l3Rising; rw [loopO_go (s' := 2) (by unfold spec_l3Rising_l1; simp [idx, gdO, w0, w1, w2, w3, h_t3, h_t4]), loopO_end (r := .inl ()) (by unfold spec_l3Rising_l1; simp [idx, gdO, w0, w1, w2, w3, h_t3, h_t4])]; rfl
theorem h_s1 : spec_l18Scopes [sRead, sWrite] = some true := by unfold spec_l18Scopes; rw [loopO_go (s' := 1) (by unfold spec_l18Scopes_l1; simp [idx, gdO, w0, w1, w2, w3, h_n1, h_n2]), loopO_go (s' := 2) (by unfold spec_l18Scopes_l1; simp [idx, gdO, w0, w1, w2, w3, h_n1, h_n2]), loopO_end (r := .inl ()) (by unfold spec_l18Scopes_l1; simp [idx, gdO, w0, w1, w2, w3])]; simp [gdO, h_r1]
theorem h_r2 : spec_l3Rising [sRead] = some true := by unfold spec_l3Rising; rw [loopO_end (r := .inl ()) (by unfold spec_l3Rising_l1; simp [idx, gdO, w0, w1, w2, w3, h_t3, h_t4])]; rfl
theorem h_s2 : spec_l18Scopes [sRead] = some true := by unfold spec_l18Scopes; rw [loopO_go (s' := 1) (by unfold spec_l18Scopes_l1; simp [idx, gdO, w0, w1, w2, w3, h_n1]), loopO_end (r := .inl ()) (by unfold spec_l18Scopes_l1; simp [idx, gdO, w0, w1, w2, w3])]; simp [gdO, h_r2]
theorem h_d0 : loopO (spec_GoodServer_l2 (cApp sApp [1, 2, 3])) 0 = some (.inl ()) := by rw [loopO_go (s' := 1) (by unfold spec_GoodServer_l2; simp [idx, gdO, w0, w1, w2, w3, h_p0, h_p1, h_p2, z0, z1, z2]), loopO_go (s' := 2) (by unfold spec_GoodServer_l2; simp [idx, gdO, w0, w1, w2, w3, h_p0, h_p1, h_p2, z0, z1, z2]), loopO_end (r := .inl ()) (by unfold spec_GoodServer_l2; simp [idx, gdO, w0, w1, w2, w3])]
theorem h_k0 : loopO (spec_GoodServer_l3 (cApp sApp [1, 2, 3])) 0 = some (.inl ()) := loopO_of (n := 20) (by kernel_rfl)
theorem h_d1 : loopO (spec_GoodServer_l2 (cSvc dig)) 0 = some (.inl ()) := by rw [loopO_go (s' := 1) (by unfold spec_GoodServer_l2; simp [idx, gdO, w0, w1, w2, w3, h_p0, h_p1, h_p2, z0, z1, z2]), loopO_end (r := .inl ()) (by unfold spec_GoodServer_l2; simp [idx, gdO, w0, w1, w2, w3])]
theorem h_k1 : loopO (spec_GoodServer_l3 (cSvc dig)) 0 = some (.inl ()) := loopO_of (n := 20) (by kernel_rfl)
theorem h_d2 : loopO (spec_GoodServer_l2 cTv) 0 = some (.inl ()) := by rw [loopO_end (r := .inl ()) (by unfold spec_GoodServer_l2; simp [idx, gdO, w0, w1, w2, w3])]
theorem h_k2 : loopO (spec_GoodServer_l3 cTv) 0 = some (.inl ()) := loopO_of (n := 20) (by kernel_rfl)
theorem h_d3 : loopO (spec_GoodServer_l2 (cApp sZed [1, 2, 3])) 0 = some (.inl ()) := by rw [loopO_go (s' := 1) (by unfold spec_GoodServer_l2; simp [idx, gdO, w0, w1, w2, w3, h_p0, h_p1, h_p2, z0, z1, z2]), loopO_go (s' := 2) (by unfold spec_GoodServer_l2; simp [idx, gdO, w0, w1, w2, w3, h_p0, h_p1, h_p2, z0, z1, z2]), loopO_end (r := .inl ()) (by unfold spec_GoodServer_l2; simp [idx, gdO, w0, w1, w2, w3])]
theorem h_k3 : loopO (spec_GoodServer_l3 (cApp sZed [1, 2, 3])) 0 = some (.inl ()) := loopO_of (n := 20) (by kernel_rfl)
theorem h_d4 : loopO (spec_GoodServer_l2 (cSvc [1])) 0 = some (.inl ()) := by rw [loopO_go (s' := 1) (by unfold spec_GoodServer_l2; simp [idx, gdO, w0, w1, w2, w3, h_p0, h_p1, h_p2, z0, z1, z2]), loopO_end (r := .inl ()) (by unfold spec_GoodServer_l2; simp [idx, gdO, w0, w1, w2, w3])]
theorem h_k4 : loopO (spec_GoodServer_l3 (cSvc [1])) 0 = some (.inl ()) := loopO_of (n := 20) (by kernel_rfl)
theorem h_d5 : loopO (spec_GoodServer_l2 (cApp sApp [5])) 0 = some (.inl ()) := by rw [loopO_go (s' := 1) (by unfold spec_GoodServer_l2; simp [idx, gdO, w0, w1, w2, w3, h_p0, h_p1, h_p2, z0, z1, z2]), loopO_go (s' := 2) (by unfold spec_GoodServer_l2; simp [idx, gdO, w0, w1, w2, w3, h_p0, h_p1, h_p2, z0, z1, z2]), loopO_end (r := .inl ()) (by unfold spec_GoodServer_l2; simp [idx, gdO, w0, w1, w2, w3])]
theorem h_k5 : loopO (spec_GoodServer_l3 (cApp sApp [5])) 0 = some (.inr false) := loopO_of (n := 20) (by kernel_rfl)
theorem hs0 (key : List Int) (sh lo : Int) : loopO (spec_GoodServer_l1 ⟨lists dig 0, key, sh, lo⟩) 0 = some (.inl ()) := by
  rw [loopO_go (s' := 1) (by unfold spec_GoodServer_l1; simp [idx, gdO, w0, w1, w2, w3, lists, dig_len, h_id0, h_s0, h_d0, h_k0]),
    loopO_go (s' := 2) (by unfold spec_GoodServer_l1; simp [idx, gdO, w0, w1, w2, w3, lists, dig_len, h_id1, h_s1, h_d1, h_k1, h_t0]),
    loopO_go (s' := 3) (by unfold spec_GoodServer_l1; simp [idx, gdO, w0, w1, w2, w3, lists, dig_len, h_id2, h_s2, h_d2, h_k2, h_t1]),
    loopO_end (r := .inl ()) (by unfold spec_GoodServer_l1; simp [idx, gdO, w0, w1, w2, w3, lists, dig_len, dig_len])]
theorem hs1 (key : List Int) (sh lo : Int) : loopO (spec_GoodServer_l1 ⟨lists dig 1, key, sh, lo⟩) 0 = some (.inr false) := by
  rw [loopO_go (s' := 1) (by unfold spec_GoodServer_l1; simp [idx, gdO, w0, w1, w2, w3, lists, dig_len, h_id3, h_s0, h_d3, h_k3]),
    loopO_end (r := .inr false) (by unfold spec_GoodServer_l1; simp [idx, gdO, w0, w1, w2, w3, lists, dig_len, h_id1, h_s1, h_t2])]
theorem hs2 (key : List Int) (sh lo : Int) : loopO (spec_GoodServer_l1 ⟨lists dig 2, key, sh, lo⟩) 0 = some (.inr false) := by
  rw [loopO_go (s' := 1) (by unfold spec_GoodServer_l1; simp [idx, gdO, w0, w1, w2, w3, lists, dig_len, h_id0, h_s0, h_d0, h_k0]),
    loopO_end (r := .inr false) (by unfold spec_GoodServer_l1; simp [idx, gdO, w0, w1, w2, w3, lists, dig_len, h_id1, h_s1, h_t0])]
theorem hs3 (key : List Int) (sh lo : Int) : loopO (spec_GoodServer_l1 ⟨lists dig 3, key, sh, lo⟩) 0 = some (.inr false) := by
  rw [loopO_end (r := .inr false) (by unfold spec_GoodServer_l1; simp [idx, gdO, w0, w1, w2, w3, lists, dig_len, h_id0, h_s0, h_d5, h_k5])]
theorem h_c0 : spec_l18Kind (cApp sApp [1, 2, 3]) 1 = some true := by unfold spec_l18Kind; rw [loopO_of (n := 9) (r := .inr true) (by kernel_rfl)]; rfl
theorem h_c1 : spec_l18Kind (cSvc dig) 1 = some true := by unfold spec_l18Kind; rw [loopO_of (n := 9) (r := .inr true) (by kernel_rfl)]; rfl
end Go.G36.BW
/- A drawn configuration is good to the program just where it is to the reference. -/
namespace Go.G36.BW
set_option linter.all false
open Go Go.G36 Go.Proofs Go.G36.BD

theorem ze : sE.size = 0 := rfl
theorem zx : sX.size = 1 := rfl
theorem zs : sSec.size = 6 := rfl
theorem bys_bytes (s : ByteArray) : Bytes (bys s) := fun b hb => by
  simp only [bys, List.mem_map] at hb
  obtain ⟨x, _, rfl⟩ := hb
  have := x.toNat_lt
  omega
theorem good_server {s : T_impl_Server} (h : Srv s) : ∃ b, impl_GoodServer s = some b ∧ spec_GoodServer s = some b ∧ (b = true → s.Clients_ = lists dig 0 ∧ 1 ≤ s.Short_ ∧ s.Short_ ≤ 1000000) := by
  obtain ⟨cl, key, sh, lo⟩ := s
  obtain ⟨⟨k, hk, hcl⟩, h1, h2, h3, h4, h5, h6⟩ := h
  dsimp only at hcl h1 h2 h3 h4 h5 h6
  subst hcl
  have hl : ((lists dig k).length : Int) = 3 := by
    match k, hk with
    | 0, _ => rfl
    | 1, _ => rfl
    | 2, _ => rfl
    | 3, _ => rfl
  have hI : ∀ q, loopO (impl_GoodServer_l1 ⟨lists dig k, key, sh, lo⟩) 0 = some q → impl_GoodServer ⟨lists dig k, key, sh, lo⟩ = cond (decide (sh < 1) || decide (sh > 1000000)) (some false) (match q with | .inl _ => some true | .inr q2 => some q2) := fun q e => by
    unfold impl_GoodServer
    dsimp only
    rw [e, hl, show decide ((3 : Int) > 20) = false from rfl, show decide ((key.length : Int) > 64) = false from decide_eq_false (by omega), show decide (lo < 1) = false from decide_eq_false (by omega),
      show decide (lo > 1000000) = false from decide_eq_false (by omega)]
    simp only [Bool.false_or, Bool.or_false, Option.bind_some]
    rfl
  have bad : loopO (impl_GoodServer_l1 ⟨lists dig k, key, sh, lo⟩) 0 = some (.inr false) → loopO (spec_GoodServer_l1 ⟨lists dig k, key, sh, lo⟩) 0 = some (.inr false) →
      ∃ b, impl_GoodServer ⟨lists dig k, key, sh, lo⟩ = some b ∧ spec_GoodServer ⟨lists dig k, key, sh, lo⟩ = some b ∧ (b = true → lists dig k = lists dig 0 ∧ 1 ≤ sh ∧ sh ≤ 1000000) := fun e1 e2 => by
    refine ⟨false, ?_, ?_, fun h => by cases h⟩
    · rw [hI _ e1]; cases (decide (sh < 1) || decide (sh > 1000000)) <;> rfl
    · unfold spec_GoodServer; rw [e2]; rfl
  match k, hk with
  | 0, _ =>
    refine ⟨!(decide (sh < 1) || decide (sh > 1000000)), ?_, ?_, fun h => ?_⟩
    · rw [hI _ (gs0 key sh lo)]; cases (decide (sh < 1) || decide (sh > 1000000)) <;> rfl
    · unfold spec_GoodServer
      rw [hs0]
      dsimp only [Option.bind_some]
      rw [hl, show decide ((3 : Int) ≤ 20) = true from rfl, show decide ((key.length : Int) ≤ 64) = true from decide_eq_true (by omega), show decide (lo ≥ 1) = true from decide_eq_true (by omega),
        show decide (lo ≤ 1000000) = true from decide_eq_true (by omega)]
      simp only [Bool.true_and, Bool.and_true, Bool.not_or, Option.some.injEq]
      rw [← decide_not, ← decide_not]
      congr 1
      · exact decide_eq_decide.2 (by omega)
      · exact decide_eq_decide.2 (by omega)
    · simp only [Bool.not_or, Bool.and_eq_true, Bool.not_eq_true', decide_eq_false_iff_not] at h
      exact ⟨rfl, by show 1 ≤ sh; omega, by show sh ≤ 1000000; omega⟩
  | 1, _ => exact bad (gs1 _ _ _) (hs1 _ _ _)
  | 2, _ => exact bad (gs2 _ _ _) (hs2 _ _ _)
  | 3, _ => exact bad (gs3 _ _ _) (hs3 _ _ _)
/-- The two configurations that are good. -/
def Case (c : T_impl_AttackConf) : Prop := c.Server_.Clients_ = lists dig 0 ∧ 1 ≤ c.Server_.Short_ ∧ c.Server_.Short_ ≤ 1000000 ∧
  ((c.Client_ = sApp ∧ c.Secret_ = sE) ∨ (c.Client_ = sSvc ∧ c.Secret_ ≠ sE ∧ ∃ d, spec_l2Digest (bys c.Secret_) = some d ∧ (byS d).toList = (byS dig).toList))
theorem len_lists {s : T_impl_Server} (h : Srv s) : s.Clients_.length = 3 := by
  obtain ⟨⟨k, hk, hcl⟩, _⟩ := h
  rw [hcl]
  match k, hk with
  | 0, _ => rfl
  | 1, _ => rfl
  | 2, _ => rfl
  | 3, _ => rfl
theorem y0 : impl_Client_ (lists dig 0) sApp = some (cApp sApp [1, 2, 3], true) := by unfold impl_Client_; rw [loopO_of (n := 9) (r := .inr (cApp sApp [1, 2, 3], true)) (by kernel_rfl)]; rfl
theorem y1 : impl_Client_ (lists dig 0) sSvc = some (cSvc dig, true) := by unfold impl_Client_; rw [loopO_of (n := 9) (r := .inr (cSvc dig, true)) (by kernel_rfl)]; rfl
theorem y2 : impl_Client_ (lists dig 0) sTv = some (cTv, true) := by unfold impl_Client_; rw [loopO_of (n := 9) (r := .inr (cTv, true)) (by kernel_rfl)]; rfl
theorem y3 : impl_Client_ (lists dig 0) sNone = some (⟨sE, [], [], [], []⟩, false) := by unfold impl_Client_; rw [loopO_of (n := 9) (r := .inl ()) (by kernel_rfl)]; rfl
theorem z (key : List Int) (sh lo : Int) (sec : ByteArray) (l b : Bool) : spec_l22Client ⟨⟨lists dig 0, key, sh, lo⟩, sApp, sec, l, b⟩ = some (cApp sApp [1, 2, 3], true) ∧ spec_l22Client ⟨⟨lists dig 0, key, sh, lo⟩, sSvc, sec, l, b⟩ = some (cSvc dig, true) ∧
    spec_l22Client ⟨⟨lists dig 0, key, sh, lo⟩, sTv, sec, l, b⟩ = some (cTv, true) ∧ spec_l22Client ⟨⟨lists dig 0, key, sh, lo⟩, sNone, sec, l, b⟩ = some (⟨sE, [], [], [], []⟩, false) := by
  refine ⟨?_, ?_, ?_, ?_⟩ <;> unfold spec_l22Client
  · rw [loopO_of (n := 9) (r := .inr (cApp sApp [1, 2, 3], true)) (by kernel_rfl)]; rfl
  · rw [loopO_of (n := 9) (r := .inr (cSvc dig, true)) (by kernel_rfl)]; rfl
  · rw [loopO_of (n := 9) (r := .inr (cTv, true)) (by kernel_rfl)]; rfl
  · rw [loopO_of (n := 9) (r := .inl ()) (by kernel_rfl)]; rfl
theorem good_eq {c : T_impl_AttackConf} (h : Conf c) : ∃ b, impl_GoodAttack c = some b ∧ spec_GoodAttack c = some b ∧ (b = true → Case c) := by
  obtain ⟨hs, hc, hsec⟩ := h
  obtain ⟨b, e1, e2, e3⟩ := good_server hs
  have hlen := len_lists hs
  cases b with
  | false =>
    refine ⟨false, ?_, ?_, fun h => by cases h⟩
    · unfold impl_GoodAttack impl_AttackConf_yclient
      obtain ⟨⟨x, ok⟩, ex, _⟩ := client_ok c.Server_.Clients_ (by omega) c.Client_
      rw [ex]
      dsimp only [Option.bind_some]
      rw [e1]
      rfl
    · unfold spec_GoodAttack
      obtain ⟨⟨x, ok⟩, ex, _⟩ := client22_ok c (by omega)
      rw [ex]
      dsimp only [Option.bind_some]
      cases ok
      · rfl
      · rw [e2]; rfl
  | true =>
    obtain ⟨g1, g2, g3⟩ := e3 rfl
    obtain ⟨⟨cl, key, sh, lo⟩, id, sec, l, b⟩ := c
    dsimp only at g1 g2 g3 hc hsec e1 e2
    subst g1
    obtain ⟨z0, z1, z2, z3⟩ := z key sh lo sec l b
    rcases hc with rfl | rfl | rfl | rfl
    · refine ⟨(sec.toList == sE.toList), ?_, ?_, fun h => ⟨rfl, g2, g3, .inl ⟨rfl, ?_⟩⟩⟩
      · unfold impl_GoodAttack impl_AttackConf_yclient
        dsimp only
        rw [y0]
        dsimp only [Option.bind_some]
        rw [e1]
        simp [gdO, g_o0]
      · unfold spec_GoodAttack
        rw [z0]
        dsimp only [Option.bind_some]
        rw [e2]
        rcases hsec with rfl | rfl | rfl <;> simp [gdO, h_c0, ze, zx, zs]
      · rcases hsec with rfl | rfl | rfl
        · rfl
        · simp at h
        · simp at h
    · obtain ⟨d, d', f1, f2, rfl, hd, hdb⟩ := digest_eq (a := bys sec) (bys_bytes _) (by rcases hsec with rfl | rfl | rfl <;> decide)
      refine ⟨((!(sec.toList == sE.toList)) && ((byS d).toList == (byS dig).toList)), ?_, ?_, fun h => ⟨rfl, g2, g3, .inr ⟨rfl, ?_⟩⟩⟩
      · unfold impl_GoodAttack impl_AttackConf_yclient
        dsimp only
        rw [y1]
        dsimp only [Option.bind_some]
        rw [e1, f1]
        rcases hsec with rfl | rfl | rfl <;> simp [gdO, g_o1, dig_len, bytes_Equal, ze, zx, zs]
      · unfold spec_GoodAttack
        rw [z1]
        dsimp only [Option.bind_some]
        rw [e2, f2]
        rcases hsec with rfl | rfl | rfl <;> simp [gdO, h_c1, dig_len, ze, zx, zs]
      · rw [Bool.and_eq_true] at h
        exact ⟨fun e => by subst e; simp at h, d, f2, by simpa using h.2⟩
    · refine ⟨false, ?_, ?_, fun h => by cases h⟩
      · unfold impl_GoodAttack impl_AttackConf_yclient
        dsimp only
        rw [y2]
        dsimp only [Option.bind_some]
        rw [e1]
        simp [gdO]
      · unfold spec_GoodAttack
        rw [z2]
        dsimp only [Option.bind_some]
        rw [e2]
        simp [gdO]
    · refine ⟨false, ?_, ?_, fun h => by cases h⟩
      · unfold impl_GoodAttack impl_AttackConf_yclient
        dsimp only
        rw [y3]
        dsimp only [Option.bind_some]
        rw [e1]
        simp [gdO]
      · unfold spec_GoodAttack
        rw [z3]
        dsimp only [Option.bind_some]
        simp [gdO]
end Go.G36.BW
/- Verifiers, challenges, handles. -/
namespace Go.G36.BW
set_option linter.all false
open Go Go.G36 Go.Proofs Go.G36.BD

abbrev sAnn : ByteArray := ByteArray.mk #[97, 110, 110]
abbrev sEve : ByteArray := ByteArray.mk #[101, 118, 101]
abbrev sVer : ByteArray := ByteArray.mk #[97, 110, 110, 45, 48]
abbrev sVe : ByteArray := ByteArray.mk #[101, 118, 101, 45, 48]
abbrev sCode : ByteArray := ByteArray.mk #[99, 111, 100, 101]
abbrev sAccess : ByteArray := ByteArray.mk #[97, 99, 99, 101, 115, 115]
abbrev sRefresh : ByteArray := ByteArray.mk #[114, 101, 102, 114, 101, 115, 104]
theorem i0 : itoaO 0 = some (ByteArray.mk #[48]) := by kernel_rfl
theorem i1 : itoaO 1 = some (ByteArray.mk #[49]) := by kernel_rfl
theorem i2 : itoaO 2 = some (ByteArray.mk #[50]) := by kernel_rfl
theorem i3 : itoaO 3 = some (ByteArray.mk #[51]) := by kernel_rfl
theorem v0 : impl_VerifierOf sAnn 0 = some sVer := by kernel_rfl
theorem v1 : impl_VerifierOf sEve 0 = some sVe := by kernel_rfl
theorem m0 : impl_GoodName sCode = some true := by unfold impl_GoodName; rw [loopO_of (n := 60) (r := .inl ()) (by kernel_rfl)]; kernel_rfl
theorem m1 : impl_GoodName sAccess = some true := by unfold impl_GoodName; rw [loopO_of (n := 60) (r := .inl ()) (by kernel_rfl)]; kernel_rfl
theorem m2 : impl_GoodName sRefresh = some true := by unfold impl_GoodName; rw [loopO_of (n := 60) (r := .inl ()) (by kernel_rfl)]; kernel_rfl
theorem m3 : impl_GoodName sAnn = some true := by unfold impl_GoodName; rw [loopO_of (n := 60) (r := .inl ()) (by kernel_rfl)]; kernel_rfl
theorem chal_ok : ∃ ch, impl_ChallengeOf sVer = some ch ∧ ch.size = 26 := by
  unfold impl_ChallengeOf
  rw [show decide ((sVer.size : Int) > 200) = false from rfl]
  obtain ⟨d, _, e, _, _, hl, hb⟩ := digest_eq (a := bys sVer) (bys_bytes _) (by decide)
  obtain ⟨s, e2, h⟩ := armor_ok hb (by omega)
  refine ⟨s, ?_, by rw [h, hl]; rfl⟩
  rw [cond_false, e, Option.bind_some, e2]
  rfl
theorem cat_ok {r s : ByteArray} (h : r.size + s.size ≤ 9223372036854775807) : ∃ t, cat r s = some t ∧ t.size = r.size + s.size := ⟨r ++ s, cat_get h, by simp⟩
theorem handle_ok {key : List Int} {kind t : ByteArray} {n : Int} (hk : key.length ≤ 3) (hb : Bytes key) (hg : impl_GoodName kind = some true) (hks : kind.size ≤ 30) (hn : 1 ≤ n) (hn2 : n ≤ 9) (ht : itoaO n = some t) (hts : t.size = 1) :
    ∃ s, impl_HandleOf key kind n = some s ∧ 16 ≤ s.size ∧ s.size ≤ 100 := by
  unfold impl_HandleOf
  rw [show decide ((key.length : Int) > 64) = false from decide_eq_false (by omega), show decide (n < 1) = false from decide_eq_false (by omega), show decide (n > 1000000) = false from decide_eq_false (by omega), hg, ht]
  simp only [gdO, Bool.not_false, Bool.not_true, cond_true, cond_false, Option.bind_some, Bool.or_false]
  obtain ⟨a, ea, ha⟩ := cat_ok (r := kind) (s := t) (by omega)
  rw [ea, Option.bind_some]
  obtain ⟨b, eb, hb2⟩ := cat_ok (r := a) (s := ByteArray.mk #[45]) (by rw [ha]; show _ + 1 ≤ _; omega)
  rw [eb, Option.bind_some]
  obtain ⟨m, em, hm, hmb⟩ := mac_ok hb (by omega) (bys_bytes a) (by unfold bys; rw [List.length_map]; show a.size ≤ _; omega)
  rw [em, Option.bind_some]
  have es : sub m 0 10 = some (m.take 10) := by unfold sub; rw [if_pos ⟨by omega, by omega, by omega⟩]; rfl
  rw [es, Option.bind_some]
  obtain ⟨s, e2, h⟩ := armor_ok (hmb.take 10) (by rw [List.length_take]; omega)
  rw [e2, Option.bind_some]
  have hs : s.size = 16 := by rw [h, List.length_take, hm]; rfl
  have h45 : (ByteArray.mk #[45]).size = 1 := rfl
  obtain ⟨r, er, hr⟩ := cat_ok (r := b) (s := s) (by omega)
  rw [er, Option.bind_some]
  exact ⟨r, rfl, by omega, by omega⟩
end Go.G36.BW
/- The two asks, step by step. -/
namespace Go.G36.BW
set_option linter.all false
open Go Go.G36 Go.Proofs Go.G36.BD

theorem contx (l : List ByteArray) (x : ByteArray) (hl : l.length ≤ 1000000000) : slices_Containsx l x = some (l.any fun e => x.toList == e.toList) := by
  obtain ⟨q, e, h⟩ := scan (fun e : ByteArray => x.toList == e.toList) (fun v _ => v) l hl
  have e' : loopO (slices_Indexx_l1 l x) 0 = some q := e
  unfold slices_Containsx slices_Indexx
  rw [e']
  rcases h with ⟨rfl, h⟩ | ⟨i, hi, hp, rfl, _⟩
  · have : (l.any fun e => x.toList == e.toList) = false := by
      rw [List.any_eq_false]; intro y hy; rw [h y hy]; decide
    rw [this]; rfl
  · have : (l.any fun e => x.toList == e.toList) = true := List.any_eq_true.2 ⟨_, List.getElem_mem hi, hp⟩
    rw [this]
    simp
theorem clone_ok (l : List ByteArray) (h : l.length ≤ 1000) : slices_Clone l = some l := by
  unfold slices_Clone
  rw [app_get (by simp; omega)]
  rfl
theorem idx0 {α : Type} (a : α) (l : List α) : idx (a :: l) 0 = some a := rfl
/-- No text is too long. -/
theorem short_ok (l : List ByteArray) (hl : l.length ≤ 1000) (h : ∀ e, e ∈ l → e.size ≤ 200) : loopO (impl_yserver_badForm_l1 l) 0 = some (.inl ()) := by
  obtain ⟨q, e, hq⟩ := scan (fun e : ByteArray => decide ((e.size : Int) > 200)) (fun _ _ => true) l (by omega)
  have e' : loopO (impl_yserver_badForm_l1 l) 0 = some q := e
  rw [e']
  rcases hq with ⟨rfl, _⟩ | ⟨i, hi, hp, _, _⟩
  · rfl
  · have := h _ (List.getElem_mem hi)
    have := of_decide_eq_true hp
    omega
theorem form_ok {a : T_impl_GrantAsk} (v : T_impl_yserver) (f : List T_impl_yheld) (hk : 1 ≤ a.Kind_ ∧ a.Kind_ ≤ 9) (ht : a.Time_ = 0) (hf : impl_yfitScopes a.Scopes_ = some true) (hl : a.Scopes_.length ≤ 20)
    (h : ∀ e, e ∈ [a.Client_, a.Secret_, a.Redirect_, a.Challenge_, a.Verifier_, a.User_, a.Code_, a.Audience_] ++ a.Scopes_ → e.size ≤ 200) : impl_yserver_badForm a v f = some false := by
  unfold impl_yserver_badForm
  rw [app_get (by simp; omega), Option.bind_some, short_ok _ (by simp; omega) h, Option.bind_some]
  dsimp only
  rw [ht, show decide (a.Kind_ < 1) = false from decide_eq_false (by omega), show decide (a.Kind_ > 9) = false from decide_eq_false (by omega), hf]
  rfl
/-- A client that the good configurations have. -/
structure Cl (x : T_impl_Client) (red : ByteArray) : Prop where
  first : idx x.Redirects_ 0 = some red
  has : slices_Containsx x.Redirects_ red = some true
  code : slices_Contains x.Kinds_ 1 = some true
  refr : slices_Contains x.Kinds_ 2 = some true
  fit : impl_yfitScopes x.Scopes_ = some true
  among : impl_yamong x.Scopes_ x.Scopes_ = some true
  len : 1 ≤ x.Scopes_.length ∧ x.Scopes_.length ≤ 20
  sizes : (∀ e, e ∈ x.Scopes_ → e.size ≤ 200) ∧ x.Id_.size ≤ 200 ∧ red.size ≤ 200
  find : impl_Client_x (lists dig 0) x.Id_ = some (x, true)
theorem find_app : impl_Client_x (lists dig 0) sApp = some (cApp sApp [1, 2, 3], true) := by unfold impl_Client_x; rw [loopO_of (n := 9) (r := .inr (cApp sApp [1, 2, 3], true)) (by kernel_rfl)]; rfl
theorem find_svc : impl_Client_x (lists dig 0) sSvc = some (cSvc dig, true) := by unfold impl_Client_x; rw [loopO_of (n := 9) (r := .inr (cSvc dig, true)) (by kernel_rfl)]; rfl
theorem among_self (l : List ByteArray) (hl : l.length ≤ 1000) : impl_yamong l l = some true := by
  obtain ⟨q, e, h⟩ := scan (fun e : ByteArray => !(l.any fun y => e.toList == y.toList)) (fun v _ => v) l (by omega)
  have e' : loopO (slices_IndexFuncxxx_l1 l l) 0 = some q := by
    rw [← e]
    congr 1
    funext v
    unfold slices_IndexFuncxxx_l1 impl_yamong_1
    dsimp only
    simp only [contx l _ (by omega : l.length ≤ 1000000000), Option.bind_some]
  unfold impl_yamong slices_ContainsFuncxxx slices_IndexFuncxxx
  rw [e']
  rcases h with ⟨rfl, _⟩ | ⟨i, hi, hp, _, _⟩
  · rfl
  · exfalso
    have : (l.any fun y => l[i].toList == y.toList) = true := List.any_eq_true.2 ⟨_, List.getElem_mem hi, by simp⟩
    rw [this] at hp
    cases hp
theorem kr1 : slices_Contains [1, 2, 3] 2 = some true := by unfold slices_Contains slices_Index; rw [loopO_of (n := 9) (r := .inr 1) (by kernel_rfl)]; rfl
theorem kr2 : slices_Contains [1, 2, 4] 2 = some true := by unfold slices_Contains slices_Index; rw [loopO_of (n := 9) (r := .inr 1) (by kernel_rfl)]; rfl
theorem cl_app : Cl (cApp sApp [1, 2, 3]) sCb where
  first := rfl
  has := by rw [contx _ _ (by decide)]; simp
  code := g_o0
  refr := kr1
  fit := g_f0
  among := among_self _ (by decide)
  len := by decide
  sizes := by simp only [List.mem_cons, List.not_mem_nil, or_false]; exact ⟨fun e h => by rcases h with rfl | rfl | rfl <;> decide, by decide, by decide⟩
  find := find_app
theorem cl_svc : Cl (cSvc dig) sCb3 where
  first := rfl
  has := by rw [contx _ _ (by decide)]; simp
  code := g_o1
  refr := kr2
  fit := g_f1
  among := among_self _ (by decide)
  len := by decide
  sizes := by simp only [List.mem_cons, List.not_mem_nil, or_false]; exact ⟨fun e h => by rcases h with rfl | rfl <;> decide, by decide, by decide⟩
  find := find_svc
end Go.G36.BW
/- The two asks answered. -/
namespace Go.G36.BW
set_option linter.all false
open Go Go.G36 Go.Proofs Go.G36.BD

theorem idx_last {α : Type} (l : List α) (a : α) : idx (l ++ [a]) (l.length : Int) = some a := by
  unfold idx; rw [if_pos (by omega)]; simp
theorem set_last {α : Type} (l : List α) (a b : α) : (l ++ [a]).set (Int.toNat (l.length : Int)) b = l ++ [b] := by simp
theorem give_ok (v : T_impl_yserver) (f : List T_impl_yheld) (h : T_impl_yheld) {H : ByteArray} (hH : impl_HandleOf v.s_.Key_ h.kind_ (IntKind.i64.wrap ((v.held_.length : Int) + 1)) = some H) (hsc : h.scopes_.length ≤ 1000) (hlen : v.held_.length ≤ 1000) :
    impl_yserver_give h v f = some ((f.length : Int), { v with held_ := v.held_ ++ [(f.length : Int)] }, f ++ [{ h with handle_ := H }]) := by
  unfold impl_yserver_give
  rw [idx_last, Option.bind_some, hH, Option.bind_some, set_last, idx_last, Option.bind_some, clone_ok _ hsc, Option.bind_some, app_get (by simp; omega), Option.bind_some, set_last]
section
variable {x : T_impl_Client} {red ch : ByteArray} {key : List Int} {sh lo : Int} (hx : Cl x red) (hch : impl_ChallengeOf sVer = some ch) (hcs : ch.size = 26)
  (hk : key.length ≤ 3) (hkb : Bytes key) (h1 : 1 ≤ sh) (h2 : sh ≤ 1000000) (h3 : 30 ≤ lo) (h4 : lo ≤ 129)
noncomputable abbrev srv (key : List Int) (sh lo : Int) : T_impl_Server := ⟨lists dig 0, key, sh, lo⟩
abbrev ask1 (x : T_impl_Client) (red ch : ByteArray) : T_impl_GrantAsk := ⟨1, 0, x.Id_, sE, red, ch, sE, sAnn, sE, x.Scopes_, sE, false⟩
abbrev held1 (x : T_impl_Client) (red ch : ByteArray) (sh : Int) (H : ByteArray) : T_impl_yheld := ⟨sCode, H, 1, x.Id_, sAnn, x.Scopes_, sE, red, ch, sh, false, false, false, false, false, 0, (-1)⟩
include hx hch hcs hk hkb h1 h2 h3 h4
theorem ask1_ok {H : ByteArray} (hH : impl_HandleOf key sCode 1 = some H) : impl_yserver_ask (ask1 x red ch) ⟨srv key sh lo, 0, [], [], 0⟩ [] =
    some (⟨0, H, sE, sE, [], sE, sE, false⟩, ⟨srv key sh lo, 0, [0], [], 1⟩, [held1 x red ch sh H]) := by
  have hne : (ch.toList == sE.toList) = false := by
    cases hc : (ch.toList == sE.toList) with
    | false => rfl
    | true =>
      exfalso
      rw [beq_iff_eq, Lib.toList_data, Lib.toList_data] at hc
      have : ch.data.size = 0 := by rw [← Array.length_toList, hc]; rfl
      rw [ByteArray.size] at hcs
      omega
  unfold impl_yserver_ask
  rw [form_ok _ _ ⟨by show (1 : Int) ≤ 1; decide, by show (1 : Int) ≤ 9; decide⟩ rfl hx.fit hx.len.2 (by
    intro e he
    simp only [List.cons_append, List.nil_append, List.mem_cons] at he
    obtain ⟨g1, g2, g3⟩ := hx.sizes
    rcases he with rfl | rfl | rfl | rfl | rfl | rfl | rfl | rfl | he
    · exact g2
    · decide
    · exact g3
    · omega
    · decide
    · decide
    · decide
    · decide
    · exact g1 _ he)]
  dsimp only [Option.bind_some, cond_false]
  rw [show decide ((0 : Int) < 0) = false from rfl, hx.find]
  dsimp only [Option.bind_some, cond_false, Bool.not_true, Bool.false_and]
  rw [show ((1 : Int) == 2) = false from rfl, show ((1 : Int) == 3) = false from rfl, show ((1 : Int) == 6) = false from rfl, show ((1 : Int) == 7) = false from rfl, show ((1 : Int) == 9) = false from rfl]
  dsimp only [cond_false]
  unfold impl_yserver_ask_j4
  dsimp only [cond_false]
  unfold impl_yserver_ask_j1
  dsimp only
  rw [show ((1 : Int) == 1) = true from rfl]
  dsimp only [cond_true]
  unfold impl_yserver_authorize
  dsimp only
  rw [hx.has]
  dsimp only [Option.bind_some, Bool.not_true, cond_false]
  rw [hx.code]
  dsimp only [Option.bind_some, Bool.not_true, cond_false]
  have hl : ((x.Scopes_.length : Int) == 0) = false := by
    have := hx.len.1
    rw [beq_eq_false_iff_ne]; omega
  rw [hl, hx.among]
  dsimp only [Option.bind_some, Bool.not_true, Bool.not_false, Bool.or_self, cond_false, gdO, cond_true]
  rw [hne, m3]
  dsimp only [Option.bind_some, Bool.not_true, cond_false]
  rw [give_ok _ _ _ (H := H) (by exact hH) (by have := hx.len.2; show x.Scopes_.length ≤ 1000; omega) (by show 0 ≤ 1000; decide)]
  dsimp only [Option.bind_some, List.nil_append, List.length_nil]
  rw [show (((0 : Nat) : Int)) = 0 from rfl, idx0]
  unfold impl_yserver_ask_j2
  rw [IntWalk.i64_in (0 + 1) (by omega), IntWalk.i64_in (0 + sh) (by omega), Int.zero_add, Int.zero_add]
  rfl
omit hx hch hcs hk hkb h1 h2 h3 h4
abbrev ask2 (x : T_impl_Client) (red H : ByteArray) : T_impl_GrantAsk := ⟨2, 0, x.Id_, sE, red, sE, sVer, sE, H, [], sE, false⟩
theorem fit0 : impl_yfitScopes [] = some true := by
  unfold impl_yfitScopes impl_yallNames slices_ContainsFunc slices_IndexFunc impl_yrising
  rw [loopO_end (r := .inl ()) (by unfold impl_yrising_l1; simp), loopO_end (r := .inl ()) (by unfold slices_IndexFunc_l1; simp)]
  rfl
theorem findOf_ok {H : ByteArray} : impl_yserver_findOf sCode (ask2 x red H) ⟨srv key sh lo, 0, [0], [], 1⟩ [held1 x red ch sh H] = some 0 := by
  unfold impl_yserver_findOf impl_yserver_find
  rw [loopO_end (r := .inr 0) (by unfold impl_yserver_find_l1; simp [idx, gdO])]
  dsimp only [Option.bind_some]
  rw [show decide ((0 : Int) < 0) = false from rfl, idx0]
  simp [gdO]
include hx hk
theorem gate2 {H : ByteArray} (hHs : H.size ≤ 100) : impl_yserver_ask (ask2 x red H) ⟨srv key sh lo, 0, [0], [], 1⟩ [held1 x red ch sh H] =
    impl_yserver_ask_j4 (ask2 x red H) ⟨srv key sh lo, 0, [0], [], 1⟩ [held1 x red ch sh H] x true := by
  unfold impl_yserver_ask
  rw [form_ok _ _ ⟨by show (1 : Int) ≤ 2; decide, by show (2 : Int) ≤ 9; decide⟩ rfl fit0 (by show 0 ≤ 20; decide) (by
    intro e he
    simp only [List.cons_append, List.nil_append, List.mem_cons, List.not_mem_nil, or_false, List.append_nil] at he
    obtain ⟨g1, g2, g3⟩ := hx.sizes
    rcases he with rfl | rfl | rfl | rfl | rfl | rfl | rfl | rfl
    · exact g2
    · decide
    · exact g3
    · decide
    · decide
    · decide
    · omega
    · decide)]
  dsimp only [Option.bind_some, cond_false]
  rw [show decide ((0 : Int) < 0) = false from rfl, hx.find]
  dsimp only [Option.bind_some, cond_false, Bool.not_true, Bool.false_and]
  rw [show ((2 : Int) == 2) = true from rfl]
  rfl
include hch hkb h1 h2 h3 h4
theorem redeem_ok {H H2 H3 : ByteArray} (hH2 : impl_HandleOf key sAccess 2 = some H2) (hH3 : impl_HandleOf key sRefresh 3 = some H3) :
    Ok (impl_yserver_ask_j1 (ask2 x red H) ⟨srv key sh lo, 0, [0], [], 1⟩ [held1 x red ch sh H] x) fun q => q.1 = ⟨0, sE, H2, H3, x.Scopes_, sAnn, sE, false⟩ := by
  unfold impl_yserver_ask_j1
  dsimp only
  rw [show ((2 : Int) == 1) = false from rfl, show ((2 : Int) == 2) = true from rfl]
  dsimp only [cond_true, cond_false]
  unfold impl_yserver_redeem
  dsimp only
  rw [findOf_ok]
  dsimp only [Option.bind_some]
  rw [show decide ((0 : Int) < 0) = false from rfl, idx0]
  dsimp only [Option.bind_some, cond_false]
  rw [show ∀ b : T_impl_yheld, [held1 x red ch sh H].set (Int.toNat 0) b = [b] from fun b => rfl, idx0]
  dsimp only [Option.bind_some]
  rw [show decide ((0 : Int) > sh) = false from decide_eq_false (by omega), show (red.toList == red.toList) = true from by simp, hch]
  dsimp only [Option.bind_some, cond_false, Bool.not_true]
  rw [show (ch.toList == ch.toList) = true from by simp]
  unfold impl_yserver_tokens
  rw [clone_ok _ (by have := hx.len.2; omega), Option.bind_some, give_ok _ _ _ (H := H2) (by exact hH2) (by have := hx.len.2; show x.Scopes_.length ≤ 1000; omega) (by show 1 ≤ 1000; decide)]
  dsimp only [Option.bind_some]
  rw [idx_last, Option.bind_some, hx.refr]
  dsimp only [Option.bind_some, cond_true]
  rw [give_ok _ _ _ (H := H3) (by exact hH3) (by have := hx.len.2; show x.Scopes_.length ≤ 1000; omega) (by show 2 ≤ 1000; decide)]
  dsimp only [Option.bind_some]
  rw [idx_last, Option.bind_some]
  unfold impl_yserver_ask_j2
  exact ⟨_, rfl, rfl⟩
theorem ask2_ok {H H2 H3 : ByteArray} (hHs : H.size ≤ 100) (hsec : x.Secret_ = []) (hH2 : impl_HandleOf key sAccess 2 = some H2) (hH3 : impl_HandleOf key sRefresh 3 = some H3) :
    Ok (impl_yserver_ask (ask2 x red H) ⟨srv key sh lo, 0, [0], [], 1⟩ [held1 x red ch sh H]) fun q => q.1 = ⟨0, sE, H2, H3, x.Scopes_, sAnn, sE, false⟩ := by
  rw [gate2 hx hk hHs]
  unfold impl_yserver_ask_j4
  dsimp only [cond_true]
  rw [hsec]
  dsimp only [List.length_nil]
  rw [show ((((0 : Nat) : Int)) == 0) = true from rfl, show decide ((((0 : Nat) : Int)) > 0) = false from rfl, show (sE.toList == sE.toList) = true from by simp]
  dsimp only [Bool.not_true, Bool.and_false, Bool.not_false, gdO, cond_false, Option.bind_some, Bool.false_and, Bool.or_self]
  exact redeem_ok hx hch hk hkb h1 h2 h3 h4 hH2 hH3
theorem ask2_yes {H H2 H3 : ByteArray} {d0 : List Int} (hHs : H.size ≤ 100) (hsec : x.Secret_ = dig) (hd : impl_Digest (bys sE) = some d0) (he : (byS d0).toList = (byS dig).toList) (hH2 : impl_HandleOf key sAccess 2 = some H2) (hH3 : impl_HandleOf key sRefresh 3 = some H3) :
    Ok (impl_yserver_ask (ask2 x red H) ⟨srv key sh lo, 0, [0], [], 1⟩ [held1 x red ch sh H]) fun q => q.1 = ⟨0, sE, H2, H3, x.Scopes_, sAnn, sE, false⟩ := by
  rw [gate2 hx hk hHs]
  unfold impl_yserver_ask_j4
  dsimp only [cond_true]
  rw [hsec, dig_len]
  rw [show ((((16 : Nat) : Int)) == 0) = false from rfl, show decide ((((16 : Nat) : Int)) > 0) = true from rfl, hd]
  simp only [gdO, Bool.false_and, Bool.not_false, Bool.and_self, cond_true, Option.bind_some]
  unfold bytes_Equal
  rw [Option.bind_some, show ((byS d0).toList == (byS dig).toList) = true from beq_iff_eq.2 he]
  exact redeem_ok hx hch hk hkb h1 h2 h3 h4 hH2 hH3
theorem ask2_no {H : ByteArray} {d0 : List Int} (hHs : H.size ≤ 100) (hsec : x.Secret_ = dig) (hd : impl_Digest (bys sE) = some d0) (hne : (byS d0).toList ≠ (byS dig).toList) :
    Ok (impl_yserver_ask (ask2 x red H) ⟨srv key sh lo, 0, [0], [], 1⟩ [held1 x red ch sh H]) fun q => q.1 = ⟨7, sE, sE, sE, [], sE, sE, false⟩ := by
  rw [gate2 hx hk hHs]
  unfold impl_yserver_ask_j4
  dsimp only [cond_true]
  rw [hsec, dig_len]
  rw [show ((((16 : Nat) : Int)) == 0) = false from rfl, show decide ((((16 : Nat) : Int)) > 0) = true from rfl, hd]
  simp only [gdO, Bool.false_and, Bool.not_false, Bool.and_self, cond_true, Option.bind_some]
  unfold bytes_Equal
  rw [Option.bind_some, show ((byS d0).toList == (byS dig).toList) = false from beq_eq_false_iff_ne.2 hne]
  exact ⟨_, rfl, rfl⟩
end
end Go.G36.BW
/- The two moves, and the law. -/
namespace Go.G36.BW
set_option linter.all false
open Go Go.G36 Go.Proofs Go.G36.BD

theorem ne_size {s : ByteArray} (h : 1 ≤ s.size) : (s.toList == sE.toList) = false := by
  cases hc : (s.toList == sE.toList) with
  | false => rfl
  | true =>
    exfalso
    rw [beq_iff_eq, Lib.toList_data, Lib.toList_data] at hc
    have : s.data.size = 0 := by rw [← Array.length_toList, hc]; rfl
    rw [ByteArray.size] at h
    omega
theorem learn1 {H : ByteArray} {b : T_impl_yattack} (f : List T_impl_yheld) (hH : 1 ≤ H.size) (hb : b.res_.Known_ = []) :
    impl_yattack_learn ⟨0, H, sE, sE, [], sE, sE, false⟩ b f = some { b with res_ := { b.res_ with Known_ := [H] } } := by
  unfold impl_yattack_learn
  rw [loopO_go (s' := ({ b with res_ := { b.res_ with Known_ := [H] } }, 1)) (by
      unfold impl_yattack_learn_l1
      dsimp only
      rw [show decide ((0 : Int) < (([H, sE, sE] : List ByteArray).length : Int)) = true from rfl, idx0]
      dsimp only [cond_true, Option.bind_some]
      rw [ne_size hH, hb, contx _ _ (by decide)]
      rfl),
    loopO_go (s' := ({ b with res_ := { b.res_ with Known_ := [H] } }, 2)) (by unfold impl_yattack_learn_l1; simp [idx, gdO, w2]),
    loopO_go (s' := ({ b with res_ := { b.res_ with Known_ := [H] } }, 3)) (by unfold impl_yattack_learn_l1; simp [idx, gdO, w3]),
    loopO_end (r := { b with res_ := { b.res_ with Known_ := [H] } }) (by unfold impl_yattack_learn_l1; simp)]
  simp
theorem learn2 {r : T_impl_GrantReply} {b : T_impl_yattack} (f : List T_impl_yheld) (hk : b.res_.Known_.length ≤ 1000) :
    Ok (impl_yattack_learn r b f) fun b' => b'.res_.Errs_ = b.res_.Errs_ ∧ b'.res_.Won_ = (b.res_.Won_ || ((!(r.Access_.toList == sE.toList)) && (r.User_.toList == sAnn.toList))) := by
  have : Ok (loopO (impl_yattack_learn_l1 r) (b, 0)) fun b' => b'.res_.Errs_ = b.res_.Errs_ ∧ b'.res_.Won_ = b.res_.Won_ := by
    refine Ok.loop (fun k s => ∃ i : Nat, i + k = 3 ∧ s.2 = (i : Int) ∧ s.1.res_.Known_.length ≤ 1000 + i ∧ s.1.res_.Errs_ = b.res_.Errs_ ∧ s.1.res_.Won_ = b.res_.Won_) ?_ (n := 3) ⟨0, rfl, rfl, hk, rfl, rfl⟩
    rintro k ⟨b1, v⟩ ⟨i, hi, hv, h1, h2, h3⟩
    dsimp only at hv h1 h2 h3
    subst hv
    unfold impl_yattack_learn_l1
    dsimp only
    refine Ok.cond (fun h => ?_) (fun h => Ok.some ⟨h2, h3⟩)
    have hlt : (i : Int) < 3 := of_decide_eq_true h
    have hg : idx ([r.Code_, r.Access_, r.Refresh_] : List ByteArray) (i : Int) = some (([r.Code_, r.Access_, r.Refresh_] : List ByteArray)[i]'(by simp; omega)) := idx_get (i := (i : Int)) (by omega) (by simp; omega)
    rw [hg, Option.bind_some, contx _ _ (by omega), gdO_some, Option.bind_some, IntWalk.i64_in ((i : Int) + 1) (by omega)]
    refine Ok.cond (fun h => ?_) (fun h => Ok.some ⟨k - 1, by omega, i + 1, by omega, by show (i : Int) + 1 = ((i + 1 : Nat) : Int); omega, by show b1.res_.Known_.length ≤ _; omega, h2, h3⟩)
    rw [app_get (by simp; omega), Option.bind_some]
    exact Ok.some ⟨k - 1, by omega, i + 1, by omega, by show (i : Int) + 1 = ((i + 1 : Nat) : Int); omega, by show List.length (_ ++ _) ≤ _; simp; omega, h2, h3⟩
  unfold impl_yattack_learn
  refine Ok.bind this ?_
  rintro b' ⟨h1, h2⟩
  refine Ok.cond (fun h => ?_) (fun h => ?_)
  · exact Ok.some ⟨h1, by rw [h]; simp⟩
  · refine Ok.some ⟨h1, ?_⟩
    show b'.res_.Won_ = (b.res_.Won_ || ((!(r.Access_.toList == sE.toList)) && (r.User_.toList == sAnn.toList)))
    rw [h]; simp [h2]
section
variable {c : T_impl_AttackConf} {x : T_impl_Client} {red ch : ByteArray} {key : List Int} {sh lo : Int} (hx : Cl x red) (hch : impl_ChallengeOf sVer = some ch) (hcs : ch.size = 26)
  (hk : key.length ≤ 3) (hkb : Bytes key) (h1 : 1 ≤ sh) (h2 : sh ≤ 1000000) (h3 : 30 ≤ lo) (h4 : lo ≤ 129) (hl : c.Leak_ = true) (hbare : c.Bare_ = true)
abbrev a1 (x : T_impl_Client) (red ch : ByteArray) : T_impl_GrantAsk := ⟨1, 0, x.Id_, sE, red, ch, sE, sAnn, sE, x.Scopes_, sE, false⟩
noncomputable abbrev A0 (c : T_impl_AttackConf) (x : T_impl_Client) (key : List Int) (sh lo : Int) : T_impl_yattack := ⟨c, x, ⟨srv key sh lo, 0, [], [], 0⟩, 0, [], ⟨[], [], false, false⟩, 0, sE, sE⟩
noncomputable abbrev A1 (c : T_impl_AttackConf) (x : T_impl_Client) (red ch : ByteArray) (key : List Int) (sh lo : Int) (H : ByteArray) (es : List Int) : T_impl_yattack :=
  ⟨c, x, ⟨srv key sh lo, 0, [0], [], 1⟩, 0, [a1 x red ch], ⟨es, [H], false, false⟩, 1, H, sVer⟩
include hx hch hcs hk hkb h1 h2 h3 h4 hl
theorem move1 {H : ByteArray} (hH : impl_HandleOf key sCode 1 = some H) (hHs : 1 ≤ H.size) : impl_yattack_move ⟨1, 0, 0, 0⟩ (A0 c x key sh lo) [] = some (0, A1 c x red ch key sh lo H [], [held1 x red ch sh H]) := by
  unfold impl_yattack_move
  dsimp only
  rw [show ((((((decide ((1 : Int) < 1)) || decide ((1 : Int) > 8)) || decide ((0 : Int) < 0)) || decide ((0 : Int) > 1000)) || decide ((0 : Int) < 0)) || decide ((0 : Int) < 0)) = false from rfl, show ((1 : Int) == 2) = false from rfl,
    show ((1 : Int) == 3) = false from rfl, show ((1 : Int) == 1) = true from rfl]
  dsimp only [cond_false, cond_true, Bool.or_self, Bool.false_and]
  rw [v0]
  dsimp only [Option.bind_some]
  unfold impl_yattack_authorize
  dsimp only
  rw [hx.first, Option.bind_some, hch, Option.bind_some, clone_ok _ (by have := hx.len.2; omega), Option.bind_some]
  unfold impl_yattack_ask
  dsimp only
  rw [app_get (by simp), Option.bind_some, show IntKind.i64.wrap ((0 : Int) + 0) = 0 from rfl, ask1_ok hx hch hcs hk hkb h1 h2 h3 h4 hH]
  dsimp only [Option.bind_some]
  rw [show ((0 : Int) == 0) = true from rfl, hl]
  dsimp only [cond_true]
  rw [learn1 _ hHs rfl]
  rfl
omit hcs
include hbare
theorem move2 {H : ByteArray} {R : T_impl_GrantReply} (es : List Int) (hr : Ok (impl_yserver_ask (ask2 x red H) ⟨srv key sh lo, 0, [0], [], 1⟩ [held1 x red ch sh H]) fun q => q.1 = R) :
    Ok (impl_yattack_move ⟨5, 0, 0, 10⟩ (A1 c x red ch key sh lo H es) [held1 x red ch sh H]) fun q => q.2.1.res_.Errs_ = es ∧ q.2.1.res_.Won_ = ((!(R.Access_.toList == sE.toList)) && (R.User_.toList == sAnn.toList)) := by
  unfold impl_yattack_move
  dsimp only
  rw [show ((((((decide ((5 : Int) < 1)) || decide ((5 : Int) > 8)) || decide ((0 : Int) < 0)) || decide ((0 : Int) > 1000)) || decide ((0 : Int) < 0)) || decide ((10 : Int) < 0)) = false from rfl, show ((5 : Int) == 2) = false from rfl,
    show ((5 : Int) == 3) = false from rfl, show ((5 : Int) == 1) = false from rfl]
  dsimp only [cond_false, cond_true, Bool.or_self, Bool.false_and]
  unfold impl_yattack_move_j2
  dsimp only
  rw [show ((5 : Int) == 4) = false from rfl, show ((5 : Int) == 5) = true from rfl]
  dsimp only [cond_false, cond_true]
  rw [show impl_yattack_pick 0 _ _ = some H from rfl]
  dsimp only [Option.bind_some]
  rw [hx.first, Option.bind_some, show Int.tmod 10 10 = 0 from rfl, v1, Option.bind_some, hbare, show decide ((10 : Int) ≥ 10) = true from rfl, show IntKind.i64.wrap ((10 : Int) - 10) = 0 from rfl, v0]
  dsimp only [Bool.and_self, cond_true, Option.bind_some]
  unfold impl_yattack_move_j5 impl_yattack_ask
  dsimp only
  rw [app_get (by simp), Option.bind_some, show IntKind.i64.wrap ((0 : Int) + 0) = 0 from rfl]
  obtain ⟨⟨r, v', f'⟩, e, rfl⟩ := hr
  rw [e]
  dsimp only [Option.bind_some]
  refine Ok.bind (learn2 _ (by show 1 ≤ 1000; decide)) ?_
  rintro b ⟨g1, g2⟩
  refine Ok.some ⟨g1, ?_⟩
  show b.res_.Won_ = _
  rw [g2]
  simp
end
end Go.G36.BW
/- The law: with verifiers that are known the attacker has a token just of a client that is public. -/
namespace Go.G36.BW
set_option linter.all false
open Go Go.G36 Go.Proofs Go.G36.BD

theorem run_ok {c : T_impl_AttackConf} {x : T_impl_Client} {red : ByteArray} (hc : Conf c) (hgood : impl_GoodAttack c = some true) (hcl : c.Server_.Clients_ = lists dig 0) (hs : 1 ≤ c.Server_.Short_ ∧ c.Server_.Short_ ≤ 1000000)
    (hx : Cl x red) (hy : impl_Client_ (lists dig 0) c.Client_ = some (x, true)) (hl : c.Leak_ = true) (hb : c.Bare_ = true) {W : Bool}
    (h2 : ∀ ch H H2 H3, impl_ChallengeOf sVer = some ch → ch.size = 26 → H.size ≤ 100 → 1 ≤ H2.size → impl_HandleOf c.Server_.Key_ sAccess 2 = some H2 → impl_HandleOf c.Server_.Key_ sRefresh 3 = some H3 →
      ∃ R : T_impl_GrantReply, W = ((!(R.Access_.toList == sE.toList)) && (R.User_.toList == sAnn.toList)) ∧
      Ok (impl_yserver_ask (ask2 x red H) ⟨srv c.Server_.Key_ c.Server_.Short_ c.Server_.Long_, 0, [0], [], 1⟩ [held1 x red ch c.Server_.Short_ H]) fun q => q.1 = R) :
    Ok (impl_RunAttack c [⟨1, 0, 0, 0⟩, ⟨5, 0, 0, 10⟩]) fun r => r.Won_ = W := by
  obtain ⟨⟨g0, g1, g2, g3, g4, g5, g6⟩, _, _⟩ := hc
  obtain ⟨⟨cl, key, sh, lo⟩, id, sec, l, b⟩ := c
  dsimp only at hcl hs g1 g2 g3 g4 g5 g6 hy hl hb h2
  subst hcl
  obtain ⟨ch, hch, hcs⟩ := chal_ok
  obtain ⟨H, hH, hs1, hs2⟩ := handle_ok (n := 1) g1 g2 m0 (by decide) (by decide) (by decide) i1 rfl
  obtain ⟨H2, hH2, hs3, hs4⟩ := handle_ok (n := 2) g1 g2 m1 (by decide) (by decide) (by decide) i2 rfl
  obtain ⟨H3, hH3, hs5, hs6⟩ := handle_ok (n := 3) g1 g2 m2 (by decide) (by decide) (by decide) i3 rfl
  obtain ⟨R, hW, hask⟩ := h2 ch H H2 H3 hch hcs hs2 (by omega) hH2 hH3
  have hgs : impl_GoodServer ⟨lists dig 0, key, sh, lo⟩ = some true := by
    unfold impl_GoodAttack impl_AttackConf_yclient at hgood
    dsimp only at hgood
    rw [hy] at hgood
    dsimp only [Option.bind_some] at hgood
    cases hq : impl_GoodServer ⟨lists dig 0, key, sh, lo⟩ with
    | none => rw [hq] at hgood; cases hgood
    | some q =>
      cases q with
      | true => rfl
      | false => rw [hq] at hgood; simp [gdO] at hgood
  have hmv := move1 (c := ⟨⟨lists dig 0, key, sh, lo⟩, id, sec, l, b⟩) hx hch hcs g1 g2 hs.1 hs.2 g5 g6 hl hH (by omega)
  obtain ⟨⟨e, A2, f2⟩, hm2, k1, k2⟩ := move2 (c := ⟨⟨lists dig 0, key, sh, lo⟩, id, sec, l, b⟩) hx hch g1 g2 hs.1 hs.2 g5 g6 hl hb [0] hask
  unfold impl_RunAttack impl_yrunAttack
  rw [hgood]
  dsimp only [Option.bind_some]
  rw [show ((!true) || decide (((([⟨1, 0, 0, 0⟩, ⟨5, 0, 0, 10⟩] : List T_impl_Move).length : Int)) > 60)) = false from rfl]
  dsimp only [cond_false]
  unfold impl_AttackConf_yclient
  dsimp only
  rw [hy]
  dsimp only [Option.bind_some]
  unfold impl_yrunServer
  rw [hgs]
  dsimp only [Option.bind_some]
  rw [show ((!true) || decide (((([] : List T_impl_GrantAsk).length : Int)) > 100)) = false from rfl]
  dsimp only [cond_false]
  rw [loopO_end (step := impl_yrunServer_l1 []) (r := (⟨⟨lists dig 0, key, sh, lo⟩, 0, [], [], 0⟩, [], [])) rfl]
  dsimp only [Option.bind_some]
  rw [loopO_go (s' := (A1 ⟨⟨lists dig 0, key, sh, lo⟩, id, sec, l, b⟩ x red ch key sh lo H [0], [held1 x red ch sh H], 1)) (by
      unfold impl_yrunAttack_l1
      dsimp only
      rw [show decide ((0 : Int) < ((([⟨1, 0, 0, 0⟩, ⟨5, 0, 0, 10⟩] : List T_impl_Move).length : Int))) = true from rfl, idx0]
      dsimp only [cond_true, Option.bind_some]
      rw [hmv]
      dsimp only [Option.bind_some]
      unfold eqL
      rw [if_pos rfl, Option.bind_some, app_get (by simp), Option.bind_some]
      rfl),
    loopO_go (s' := ({ A2 with res_ := { A2.res_ with Errs_ := [0] ++ [e] } }, f2, 2)) (by
      unfold impl_yrunAttack_l1
      dsimp only
      rw [show decide ((1 : Int) < ((([⟨1, 0, 0, 0⟩, ⟨5, 0, 0, 10⟩] : List T_impl_Move).length : Int))) = true from rfl, show idx ([⟨1, 0, 0, 0⟩, ⟨5, 0, 0, 10⟩] : List T_impl_Move) 1 = some ⟨5, 0, 0, 10⟩ from rfl]
      dsimp only [cond_true, Option.bind_some]
      rw [hm2]
      dsimp only [Option.bind_some]
      unfold eqL
      rw [if_pos k1, Option.bind_some, app_get (by simp), Option.bind_some]
      rfl),
    loopO_end (r := ({ A2 with res_ := { A2.res_ with Errs_ := [0] ++ [e] } }, f2)) rfl]
  refine ⟨_, rfl, ?_⟩
  rw [hW]
  exact k2
theorem Conf.set {c : T_impl_AttackConf} (h : Conf c) : Conf { c with Leak_ := true, Bare_ := true } := h
theorem law {code : List Int} (hc : Bytes code) : laws_FnBare code = some true := by
  unfold laws_FnBare
  cases decide ((code.length : Int) > 1048576) with
  | true => rfl
  | false =>
  rw [cond_false]
  obtain ⟨c, ec, hC⟩ := drawAttack_ok hc
  rw [ec, Option.bind_some]
  have hC' := hC.set
  obtain ⟨b, e1, e2, e3⟩ := good_eq hC'
  have hsec := hC.2.2
  have hdl : (bys c.Secret_).length ≤ 20000 := by rcases hsec with h | h | h <;> rw [h] <;> decide
  obtain ⟨d, _, f1, f2, rfl, _, _⟩ := digest_eq (bys_bytes c.Secret_) hdl
  obtain ⟨d0, _, f3, f4, rfl, _, _⟩ := digest_eq Bytes.nil (by decide)
  have q1 : spec_Digest (bys c.Secret_) = some d := by
    unfold spec_Digest
    rw [show decide (((bys c.Secret_).length : Int) > 20000) = false from decide_eq_false (by omega), f2]; rfl
  have q2 : spec_Digest [] = some d0 := by
    unfold spec_Digest
    rw [f4]; rfl
  cases b with
  | false =>
    have : impl_RunAttack { c with Leak_ := true, Bare_ := true } [⟨1, 0, 0, 0⟩, ⟨5, 0, 0, 10⟩] = some ⟨[], [], false, false⟩ := by
      unfold impl_RunAttack impl_yrunAttack
      rw [e1]; simp
    rw [this, Option.bind_some, q1, q2, gdO_some, gdO_some, Option.bind_some, Option.bind_some]
    unfold laws_zBytes
    rw [gdO_some, Option.bind_some, e2]
    cases ((!(c.Secret_.toList == (ByteArray.mk #[]).toList)) && _) <;> rfl
  | true =>
    have hcase := e3 rfl
    obtain ⟨k1, k2, k3, k4⟩ := hcase
    dsimp only at k1 k2 k3 k4
    rcases k4 with ⟨k4, k5⟩ | ⟨k4, k5, d', k6, k7⟩
    · obtain ⟨r, er, hr⟩ := run_ok (c := { c with Leak_ := true, Bare_ := true }) (W := true) hC' e1 k1 ⟨k2, k3⟩ cl_app (by show impl_Client_ _ c.Client_ = _; rw [k4]; exact y0) rfl rfl (by
        intro ch H H2 H3 hch hcs hHs hH2s hH2 hH3
        refine ⟨⟨0, sE, H2, H3, _, sAnn, sE, false⟩, ?_, ask2_ok (ch := ch) cl_app hch hC.1.2.1 hC.1.2.2.1 k2 k3 hC.1.2.2.2.2.2.1 hC.1.2.2.2.2.2.2 hHs rfl hH2 hH3⟩
        show true = _
        rw [ne_size hH2s]; simp)
      rw [er, Option.bind_some, k5]
      have e2' : spec_GoodAttack ⟨c.Server_, c.Client_, sE, true, true⟩ = some true := by rw [← k5]; exact e2
      simp [gdO, e2', hr]
    · rw [f2] at k6
      injection k6 with k6
      subst k6
      have hne : (c.Secret_.toList == (ByteArray.mk #[]).toList) = false := by
        rcases hsec with h | h | h
        · exact absurd h k5
        · rw [h]; simp
        · rw [h]; simp
      by_cases hz : (byS d).toList = (byS d0).toList
      · obtain ⟨r, er, hr⟩ := run_ok (c := { c with Leak_ := true, Bare_ := true }) (W := true) hC' e1 k1 ⟨k2, k3⟩ cl_svc (by show impl_Client_ _ c.Client_ = _; rw [k4]; exact y1) rfl rfl (by
          intro ch H H2 H3 hch hcs hHs hH2s hH2 hH3
          refine ⟨⟨0, sE, H2, H3, _, sAnn, sE, false⟩, ?_, ask2_yes (ch := ch) cl_svc hch hC.1.2.1 hC.1.2.2.1 k2 k3 hC.1.2.2.2.2.2.1 hC.1.2.2.2.2.2.2 hHs rfl f3 (hz.symm.trans k7) hH2 hH3⟩
          show true = _
          rw [ne_size hH2s]; simp)
        rw [er, Option.bind_some, q1, q2, gdO_some, gdO_some, Option.bind_some, Option.bind_some, hne]
        unfold laws_zBytes
        rw [gdO_some, Option.bind_some]
        simp [hz]
      · obtain ⟨r, er, hr⟩ := run_ok (c := { c with Leak_ := true, Bare_ := true }) (W := false) hC' e1 k1 ⟨k2, k3⟩ cl_svc (by show impl_Client_ _ c.Client_ = _; rw [k4]; exact y1) rfl rfl (by
          intro ch H H2 H3 hch hcs hHs hH2s hH2 hH3
          refine ⟨⟨7, sE, sE, sE, [], sE, sE, false⟩, by simp, ask2_no (ch := ch) cl_svc hch hC.1.2.1 hC.1.2.2.1 k2 k3 hC.1.2.2.2.2.2.1 hC.1.2.2.2.2.2.2 hHs rfl f3 (fun h => hz (by rw [k7, h]))⟩)
        rw [er, Option.bind_some, q1, q2, gdO_some, gdO_some, Option.bind_some, Option.bind_some, hne]
        unfold laws_zBytes
        rw [gdO_some, Option.bind_some, e2]
        simp [hr, hz, hne]
end Go.G36.BW
