/- Loops over lists, as lists. -/
import Derived.Test.YtgfpdlebnbpcfabDoorKv
import Derived.IntWalk
import Derived.Test.YtgfpdlebnbpcfabDoorKzi
import Derived.Test.YtgfpdlebnbpcfabDoorKy
namespace Go.G36
set_option linter.all false
open Go
variable [Genv]

def firstG {α R : Type} (g : Nat → α → Option R) : List α → Nat → Option R
  | [], _ => none
  | a :: r, i => match g i a with
    | some x => some x
    | none => firstG g r (i + 1)

theorem loop_firstM {α R Q : Type} (m : Nat) (xs : List α) (step : Int → Option (Int ⊕ Q)) (g : Nat → α → Option R) (out : Option R → Q)
    (hs : ∀ (i : Nat) (a : α), m ≤ i → xs[i]? = some a → step (i : Int) = some (match g i a with | some r => .inr (out (some r)) | none => .inl ((i : Int) + 1)))
    (he : step (xs.length : Int) = some (.inr (out none))) : ∀ (k i : Nat), m ≤ i → i + k = xs.length → loopO step (i : Int) = some (out (firstG g (xs.drop i) i)) := by
  intro k
  induction k with
  | zero =>
    intro i _ hi
    have : i = xs.length := by omega
    subst this
    rw [List.drop_length]
    exact loopO_end he
  | succ k ih =>
    intro i hm hi
    have hlt : i < xs.length := by omega
    have ha : xs[i]? = some xs[i] := by simp
    have hst := hs i xs[i] hm ha
    rw [List.drop_eq_getElem_cons hlt, firstG]
    cases hg : g i xs[i] with
    | some r =>
      rw [hg] at hst
      exact loopO_end hst
    | none =>
      rw [hg] at hst
      rw [loopO_go hst]
      have := ih (i + 1) (by omega) (by omega)
      simpa using this
theorem loop_first {α R Q : Type} (xs : List α) (step : Int → Option (Int ⊕ Q)) (g : Nat → α → Option R) (out : Option R → Q)
    (hs : ∀ (i : Nat) (a : α), xs[i]? = some a → step (i : Int) = some (match g i a with | some r => .inr (out (some r)) | none => .inl ((i : Int) + 1)))
    (he : step (xs.length : Int) = some (.inr (out none))) (k i : Nat) (hi : i + k = xs.length) : loopO step (i : Int) = some (out (firstG g (xs.drop i) i)) :=
  loop_firstM 0 xs step g out (fun i a _ h => hs i a h) he k i (Nat.zero_le _) hi

def foldI {α β : Type} (f : Nat → α → β → β) : List α → Nat → β → β
  | [], _, b => b
  | a :: r, i, b => foldI f r (i + 1) (f i a b)

theorem loop_fold {α β S Q : Type} (xs : List α) (step : S → Option (S ⊕ Q)) (mk : β → Int → S) (f : Nat → α → β → β) (out : β → Q) (Inv : Nat → β → Prop)
    (hs : ∀ (i : Nat) (a : α) (b : β), xs[i]? = some a → Inv i b → step (mk b (i : Int)) = some (.inl (mk (f i a b) ((i : Int) + 1))) ∧ Inv (i + 1) (f i a b))
    (he : ∀ b, Inv xs.length b → step (mk b (xs.length : Int)) = some (.inr (out b))) : ∀ (k i : Nat) (b : β), i + k = xs.length → Inv i b → loopO step (mk b (i : Int)) = some (out (foldI f (xs.drop i) i b)) ∧ Inv xs.length (foldI f (xs.drop i) i b) := by
  intro k
  induction k with
  | zero =>
    intro i b hi hI
    have : i = xs.length := by omega
    subst this
    rw [List.drop_length]
    exact ⟨loopO_end (he b hI), hI⟩
  | succ k ih =>
    intro i b hi hI
    have hlt : i < xs.length := by omega
    have ha : xs[i]? = some xs[i] := by simp
    obtain ⟨h1, h2⟩ := hs i xs[i] b ha hI
    rw [List.drop_eq_getElem_cons hlt, foldI, loopO_go h1]
    have := ih (i + 1) (f i xs[i] b) (by omega) h2
    simpa using this

theorem idx_nat {α : Type} (xs : List α) (i : Nat) : idx xs (i : Int) = xs[i]? := by simp [idx]
theorem wrap_succ {i : Nat} (h : i < 9223372036854775807) : IntKind.i64.wrap ((i : Int) + 1) = (i : Int) + 1 := IntWalk.i64_in _ (by omega)
theorem idxS_nat {s : ByteArray} {i : Nat} {b : UInt8} (h : s.data.toList[i]? = some b) : idxS s (i : Int) = some (b.toNat : Int) := by simp [idxS, h]
end Go.G36
/- Plain laws: what surely answers; two computations side by side. -/
namespace Go.G36
set_option linter.all false
open Go
variable [Genv]

/-- o answers, with something that is as P says. -/
def Ok {α : Type} (o : Option α) (P : α → Prop) : Prop := ∃ r, o = some r ∧ P r
theorem Ok.some {α : Type} {x : α} {P : α → Prop} (h : P x) : Ok (some x) P := ⟨x, rfl, h⟩
theorem Ok.bind {α β : Type} {o : Option α} {f : α → Option β} {Q : α → Prop} {P : β → Prop} (h : Ok o Q) (k : ∀ r, Q r → Ok (f r) P) : Ok (o.bind f) P := by
  obtain ⟨r, rfl, hr⟩ := h
  exact k r hr
theorem Ok.cond {α : Type} {b : Bool} {x y : Option α} {P : α → Prop} (ht : b = true → Ok x P) (hf : b = false → Ok y P) : Ok (cond b x y) P := by
  cases b with
  | true => exact ht rfl
  | false => exact hf rfl
theorem Ok.mono {α : Type} {o : Option α} {Q P : α → Prop} (h : Ok o Q) (k : ∀ r, Q r → P r) : Ok o P := by
  obtain ⟨r, e, hr⟩ := h
  exact ⟨r, e, k r hr⟩
theorem Ok.gd {α : Type} [Inhabited α] {c : Bool} {o : Option α} {P : α → Prop} (ht : c = true → Ok o P) (hf : c = false → P default) : Ok (gdO c o) P := Ok.cond ht fun h => Ok.some (hf h)
theorem Ok.eq {α : Type} {o : Option α} {P : α → Prop} {x : α} (h : Ok o P) (e : o = Option.some x) : P x := by
  obtain ⟨r, e', hr⟩ := h
  rw [e] at e'
  injection e' with e'
  exact e' ▸ hr
/-- Rounds, each with less before it. -/
theorem Ok.loop {S R : Type} {step : S → Option (S ⊕ R)} {P : R → Prop} (I : Nat → S → Prop)
    (h : ∀ n s, I n s → Ok (step s) (fun x => match x with | .inl s' => ∃ m, m < n ∧ I m s' | .inr r => P r)) : ∀ {n : Nat} {s : S}, I n s → Ok (loopO step s) P := by
  intro n
  induction n using Nat.strongRecOn with
  | ind n ih =>
    intro s hs
    obtain ⟨x, hx, hp⟩ := h n s hs
    cases x with
    | inl s' =>
      obtain ⟨m, hm, hi⟩ := hp
      rw [loopO_go hx]
      exact ih m hm hi
    | inr r => exact ⟨r, loopO_end hx, hp⟩

/-- Both answer, with things that are as P says. -/
def Ok2 {α β : Type} (o : Option α) (o' : Option β) (P : α → β → Prop) : Prop := ∃ r r', o = some r ∧ o' = some r' ∧ P r r'
theorem Ok2.some {α β : Type} {x : α} {y : β} {P : α → β → Prop} (h : P x y) : Ok2 (some x) (some y) P := ⟨x, y, rfl, rfl, h⟩
theorem Ok2.bind {α α' β β' : Type} {o : Option α} {o' : Option α'} {f : α → Option β} {f' : α' → Option β'} {Q : α → α' → Prop} {P : β → β' → Prop} (h : Ok2 o o' Q) (k : ∀ r r', Q r r' → Ok2 (f r) (f' r') P) : Ok2 (o.bind f) (o'.bind f') P := by
  obtain ⟨r, r', rfl, rfl, hr⟩ := h
  exact k r r' hr
theorem Ok2.bindL {α β β' : Type} {o : Option α} {o' : Option β'} {f : α → Option β} {Q : α → Prop} {P : β → β' → Prop} (h : Ok o Q) (k : ∀ r, Q r → Ok2 (f r) o' P) : Ok2 (o.bind f) o' P := by
  obtain ⟨r, rfl, hr⟩ := h
  exact k r hr
theorem Ok2.bindR {α β β' : Type} {o : Option β} {o' : Option α} {f : α → Option β'} {Q : α → Prop} {P : β → β' → Prop} (h : Ok o' Q) (k : ∀ r, Q r → Ok2 o (f r) P) : Ok2 o (o'.bind f) P := by
  obtain ⟨r, rfl, hr⟩ := h
  exact k r hr
theorem Ok2.mono {α β : Type} {o : Option α} {o' : Option β} {Q P : α → β → Prop} (h : Ok2 o o' Q) (k : ∀ r r', Q r r' → P r r') : Ok2 o o' P := by
  obtain ⟨r, r', e, e', hr⟩ := h
  exact ⟨r, r', e, e', k r r' hr⟩
theorem Ok2.left {α β : Type} {o : Option α} {o' : Option β} {P : α → β → Prop} (h : Ok2 o o' P) : Ok o fun r => ∃ r', o' = Option.some r' ∧ P r r' := by
  obtain ⟨r, r', e, e', hr⟩ := h
  exact ⟨r, e, r', e', hr⟩
/-- Two loops, round by round. -/
theorem Ok2.loop {S S' R R' : Type} {step : S → Option (S ⊕ R)} {step' : S' → Option (S' ⊕ R')} {P : R → R' → Prop} (I : Nat → S → S' → Prop)
    (h : ∀ n s s', I n s s' → Ok2 (step s) (step' s') (fun x y => match x, y with | .inl t, .inl t' => ∃ m, m < n ∧ I m t t' | .inr r, .inr r' => P r r' | _, _ => False)) : ∀ {n : Nat} {s : S} {s' : S'}, I n s s' → Ok2 (loopO step s) (loopO step' s') P := by
  intro n
  induction n using Nat.strongRecOn with
  | ind n ih =>
    intro s s' hs
    obtain ⟨x, y, hx, hy, hp⟩ := h n s s' hs
    cases x with
    | inl t =>
      cases y with
      | inl t' =>
        obtain ⟨m, hm, hi⟩ := hp
        rw [loopO_go hx, loopO_go hy]
        exact ih m hm hi
      | inr r' => exact hp.elim
    | inr r =>
      cases y with
      | inl t' => exact hp.elim
      | inr r' => exact ⟨r, r', loopO_end hx, loopO_end hy, hp⟩

theorem gdO_some {α : Type} [Inhabited α] (c : Bool) (v : α) : gdO c (some v) = some (cond c v default) := by cases c <;> rfl
theorem idx_get {α : Type} {xs : List α} {i : Int} (h0 : 0 ≤ i) (h1 : i.toNat < xs.length) : idx xs i = some xs[i.toNat] := by
  unfold idx
  rw [if_pos h0, List.getElem?_eq_getElem h1]
theorem ixA_get {α : Type} {n : Nat} {xs : List α} {i : Int} (hn : xs.length = n) (h0 : 0 ≤ i) (h1 : i.toNat < xs.length) : ixA n xs i = some xs[i.toNat] := by
  unfold ixA
  rw [if_pos ⟨hn, h0, by omega⟩, List.getElem?_eq_getElem h1]
theorem app_get {α : Type} {xs ys : List α} (h : xs.length + ys.length ≤ 4294967296) : app xs ys = some (xs ++ ys) := by
  unfold app
  rw [if_pos h]
theorem cat_get {r s : ByteArray} (h : r.size + s.size ≤ 9223372036854775807) : cat r s = some (r ++ s) := by
  unfold cat
  rw [if_pos h]
theorem nn_get {i : Int} (h : 0 ≤ i) : nn i = some () := by
  unfold nn
  rw [if_pos h]
theorem i64_and_mod (x : Int) (k : Nat) (hk : k ≤ 62) (h0 : 0 ≤ x) (h1 : x ≤ 9223372036854775807) : IntKind.i64.wrap ((BitVec.ofInt IntKind.i64.bits x &&& BitVec.ofInt IntKind.i64.bits (2 ^ k - 1)).toNat : Int) = x % 2 ^ k := by
  have hk2 : (2 : Nat) ^ k ≤ 2 ^ 62 := Nat.pow_le_pow_right (by decide) hk
  have hpos : 0 < (2 : Nat) ^ k := Nat.pow_pos (by decide)
  obtain ⟨n, rfl⟩ := Int.eq_ofNat_of_zero_le h0
  have e1 : (BitVec.ofInt IntKind.i64.bits (n : Int)).toNat = n := by
    rw [BitVec.ofInt_natCast, BitVec.toNat_ofNat]
    exact Nat.mod_eq_of_lt (by show n < 2 ^ 64; omega)
  have e2 : (BitVec.ofInt IntKind.i64.bits (2 ^ k - 1 : Int)).toNat = 2 ^ k - 1 := by
    rw [show (2 ^ k - 1 : Int) = ((2 ^ k - 1 : Nat) : Int) by rw [Int.ofNat_sub (by omega)]; simp]
    rw [BitVec.ofInt_natCast, BitVec.toNat_ofNat]
    exact Nat.mod_eq_of_lt (by show 2 ^ k - 1 < 2 ^ 64; omega)
  rw [BitVec.toNat_and, e1, e2, Nat.and_two_pow_sub_one_eq_mod]
  have h3 : n % 2 ^ k < 2 ^ k := Nat.mod_lt _ hpos
  rw [IntWalk.i64_in _ (by omega)]
  push_cast
  rfl
end Go.G36
/- Loops of the laws' helpers, as lists: plain. -/
namespace Go.G36
set_option linter.all false
open Go
variable [Genv]

theorem loop_for {α S Q : Type} (xs : List α) (step : S → Option (S ⊕ Q)) (I : Nat → S → Prop) (O : Q → Prop)
    (hs : ∀ (i : Nat) (a : α) (s : S), xs[i]? = some a → I i s → (∃ s', step s = some (.inl s') ∧ I (i + 1) s') ∨ (∃ q, step s = some (.inr q) ∧ O q))
    (he : ∀ s, I xs.length s → ∃ q, step s = some (.inr q) ∧ O q) : ∀ (k i : Nat) (s : S), i + k = xs.length → I i s → ∃ q, loopO step s = some q ∧ O q := by
  intro k
  induction k with
  | zero =>
    intro i s hi hI
    have : i = xs.length := by omega
    subst this
    obtain ⟨q, h1, h2⟩ := he s hI
    exact ⟨q, loopO_end h1, h2⟩
  | succ k ih =>
    intro i s hi hI
    have hlt : i < xs.length := by omega
    rcases hs i xs[i] s (by simp) hI with ⟨s', h1, h2⟩ | ⟨q, h1, h2⟩
    · rw [loopO_go h1]
      exact ih (i + 1) s' (by omega) h2
    · exact ⟨q, loopO_end h1, h2⟩

theorem lt_dec {i n : Nat} (h : i < n) : decide ((i : Int) < (n : Int)) = true := decide_eq_true (by omega)
theorem ge_dec {n : Nat} : decide ((n : Int) < (n : Int)) = false := decide_eq_false (by omega)

/-- The size of a list, told as what is left. -/
theorem loop_sz {α : Type} (xs : List α) (step : (Int × Int) → Option ((Int × Int) ⊕ (Int ⊕ Int))) (size : α → Nat) (v0 : Int) (hv : 0 ≤ v0)
    (hs : ∀ (i : Nat) (a : α) (v : Int), xs[i]? = some a → 0 ≤ v → v ≤ v0 → step (v, (i : Int)) = cond (decide (v - size a < 0)) (some (.inr (.inr (-1)))) (some (.inl (v - size a, (i : Int) + 1))))
    (he : ∀ v : Int, step (v, (xs.length : Int)) = some (.inr (.inl v))) : ∃ q, loopO step (v0, 0) = some q ∧ (q = .inr (-1) ∨ ∃ v : Int, q = .inl v ∧ 0 ≤ v ∧ v ≤ v0 ∧ ∀ x, x ∈ xs → (size x : Int) ≤ v0) := by
  refine loop_for xs step (fun i s => s.2 = i ∧ 0 ≤ s.1 ∧ s.1 ≤ v0 ∧ ∀ x, x ∈ xs.take i → (size x : Int) ≤ v0) _ ?_ ?_ xs.length 0 (v0, 0) (by omega) ⟨rfl, hv, Int.le_refl _, by simp⟩
  · rintro i a ⟨v, j⟩ ha ⟨rfl, h1, h2, h3⟩
    simp only at h1 h2 h3
    rw [hs i a v ha h1 h2]
    cases hd : decide (v - size a < 0) with
    | true => exact .inr ⟨_, rfl, .inl rfl⟩
    | false =>
      simp at hd
      refine .inl ⟨_, rfl, by simp, by simpa using hd, by simp; omega, fun x hx => ?_⟩
      rw [List.take_add_one, ha] at hx
      simp at hx
      rcases hx with hx | rfl
      · exact h3 x hx
      · omega
  · rintro ⟨v, j⟩ ⟨rfl, h1, h2, h3⟩
    simp only at h1 h2 h3
    exact ⟨_, he v, .inr ⟨v, rfl, h1, h2, by simpa using h3⟩⟩

/-- A list copied, element by element. -/
theorem loop_to {α β : Type} (xs : List α) (step : (List β × Int) → Option ((List β × Int) ⊕ List β)) (g : α → β) (l0 : List β) (hl0 : l0.length = xs.length)
    (hs : ∀ (i : Nat) (a : α) (l : List β), xs[i]? = some a → l.length = xs.length → step (l, (i : Int)) = some (.inl (l.set i (g a), (i : Int) + 1)))
    (he : ∀ l : List β, step (l, (xs.length : Int)) = some (.inr l)) : loopO step (l0, 0) = some (xs.map g) := by
  obtain ⟨q, h1, h2⟩ := loop_for xs step (fun i s => s.2 = i ∧ s.1.length = xs.length ∧ s.1.take i = (xs.take i).map g) (fun q => q = xs.map g) (by
    rintro i a ⟨l, j⟩ ha ⟨rfl, h1, h2⟩
    simp only at h1 h2
    have hi := (List.getElem?_eq_some_iff.1 ha).1
    rw [hs i a l ha h1]
    refine .inl ⟨_, rfl, by simp, by simpa using h1, ?_⟩
    simp only
    rw [List.take_add_one, List.take_add_one, ha, List.take_set_of_le (Nat.le_refl _), h2, List.getElem?_set_self (by omega)]
    simp) (by
    rintro ⟨l, j⟩ ⟨rfl, h1, h2⟩
    simp only at h1 h2
    refine ⟨l, he l, ?_⟩
    rw [List.take_of_length_le (by omega), List.take_of_length_le (by omega)] at h2
    exact h2) xs.length 0 (l0, 0) (by omega) ⟨rfl, hl0, by simp⟩
  rw [h1, h2]

/-- A list is like itself. -/
theorem loop_eq {α : Type} (xs : List α) (step : Int → Option (Int ⊕ (Unit ⊕ Bool))) (hs : ∀ (i : Nat) (a : α), xs[i]? = some a → step (i : Int) = some (.inl ((i : Int) + 1)))
    (he : step (xs.length : Int) = some (.inr (.inl ()))) : loopO step 0 = some (.inl ()) := by
  obtain ⟨q, h1, h2⟩ := loop_for xs step (fun i s => s = i) (fun q => q = .inl ()) (by
    rintro i a s ha rfl
    exact .inl ⟨_, hs i a ha, by simp⟩) (by rintro s rfl; exact ⟨_, he, rfl⟩) xs.length 0 0 (by omega) rfl
  rw [h1, h2]

/-- A list written over, element by element, each a function of what is counted. -/
theorem loop_mark {β : Type} (xs : List β) (step : (List β × Int × Int) → Option ((List β × Int × Int) ⊕ (List β × Int))) (c : Int) (v0 : Int) (G : Int → β → Prop)
    (hs : ∀ (i : Nat) (l : List β) (v : Int), i < xs.length → l.length = xs.length → v = v0 + c * i → ∃ b, G v b ∧ step (l, v, (i : Int)) = some (.inl (l.set i b, v + c, (i : Int) + 1)))
    (he : ∀ (l : List β) (v : Int), l.length = xs.length → step (l, v, (xs.length : Int)) = some (.inr (l, v))) :
    ∃ l, loopO step (xs, v0, 0) = some (l, v0 + c * xs.length) ∧ l.length = xs.length ∧ ∀ (i : Nat) (b : β), l[i]? = some b → G (v0 + c * i) b := by
  obtain ⟨q, h1, h2⟩ := loop_for xs step (fun i s => s.2.2 = i ∧ s.1.length = xs.length ∧ s.2.1 = v0 + c * i ∧ ∀ (j : Nat) (b : β), j < i → s.1[j]? = some b → G (v0 + c * j) b)
    (fun q => q.2 = v0 + c * xs.length ∧ q.1.length = xs.length ∧ ∀ (i : Nat) (b : β), q.1[i]? = some b → G (v0 + c * i) b) (by
    rintro i a ⟨l, v, j⟩ ha ⟨rfl, h1, h2, h3⟩
    simp only at h1 h2 h3
    have hi := (List.getElem?_eq_some_iff.1 ha).1
    obtain ⟨b, hb, hst⟩ := hs i l v hi h1 h2
    refine .inl ⟨_, hst, by simp, by simpa using h1, ?_, fun j b' hj hb' => ?_⟩
    · simp only [h2, Int.natCast_add, Int.natCast_one, Int.mul_add, Int.mul_one]; omega
    · simp only at hb'
      by_cases hji : j = i
      · subst hji
        rw [List.getElem?_set_self (by omega)] at hb'
        injection hb' with hb'; subst hb'
        rw [← h2]; exact hb
      · rw [List.getElem?_set_ne (fun h => hji h.symm)] at hb'
        exact h3 j b' (by omega) hb') (by
    rintro ⟨l, v, j⟩ ⟨rfl, h1, h2, h3⟩
    simp only at h1 h2 h3
    exact ⟨_, he l v h1, h2, h1, fun i b hb => h3 i b (by rw [← h1]; exact (List.getElem?_eq_some_iff.1 hb).1) hb⟩) xs.length 0 (xs, v0, 0) (by omega) ⟨rfl, rfl, by simp, fun j b hj => by omega⟩
  obtain ⟨l, v⟩ := q
  simp only at h2
  exact ⟨l, by rw [h1, h2.1], h2.2⟩

/-- A list that holds what was written. -/
theorem loop_held {β : Type} (xs : List β) (step : (Int × Int) → Option ((Int × Int) ⊕ (Int ⊕ Int))) (c : Int) (v0 : Int)
    (hs : ∀ (i : Nat) (a : β), xs[i]? = some a → step (v0 + c * i, (i : Int)) = some (.inl (v0 + c * i + c, (i : Int) + 1)))
    (he : ∀ v : Int, step (v, (xs.length : Int)) = some (.inr (.inl v))) : loopO step (v0, 0) = some (.inl (v0 + c * xs.length)) := by
  obtain ⟨q, h1, h2⟩ := loop_for xs step (fun i s => s = (v0 + c * i, (i : Int))) (fun q => q = .inl (v0 + c * xs.length)) (by
    rintro i a s ha rfl
    refine .inl ⟨_, hs i a ha, ?_⟩
    simp only [Prod.mk.injEq, Int.natCast_add, Int.natCast_one, Int.mul_add, Int.mul_one]
    exact ⟨by omega, trivial⟩) (by rintro s rfl; exact ⟨_, he _, rfl⟩) xs.length 0 (v0, 0) (by omega) (by simp)
  rw [h1, h2]

theorem byS_one (n : Int) : (byS [n]).size = 1 := rfl

/-- A number written out in digits: some text. -/
theorem loop_digits (step : (Int × ByteArray) → Option ((Int × ByteArray) ⊕ ByteArray)) (hs : ∀ (v : Int) (s : ByteArray), 0 < v → v ≤ 9223372036854775807 → s.size + v ≤ 9223372036854775806 → ∃ t : ByteArray, t.size = s.size + 1 ∧ step (v, s) = some (.inl (Int.tdiv v 10, t)))
    (he : ∀ s, step (0, s) = some (.inr s)) : ∀ (n : Nat) (v : Int) (s : ByteArray), v.toNat ≤ n → 0 ≤ v → s.size + v ≤ 9223372036854775806 → ∃ t, loopO step (v, s) = some t ∧ (t.size : Int) ≤ s.size + v := by
  intro n
  induction n with
  | zero =>
    intro v s hn h0 hb
    have : v = 0 := by omega
    subst this
    exact ⟨s, loopO_end (he s), by omega⟩
  | succ n ih =>
    intro v s hn h0 hb
    by_cases hv : v = 0
    · subst hv; exact ⟨s, loopO_end (he s), by omega⟩
    · obtain ⟨t, h1, h2⟩ := hs v s (by omega) (by omega) hb
      rw [loopO_go h2]
      have e : Int.tdiv v 10 = v / 10 := Int.tdiv_eq_ediv_of_nonneg h0
      rw [e]
      obtain ⟨u, h3, h4⟩ := ih (v / 10) t (by omega) (by omega) (by omega)
      exact ⟨u, h3, by omega⟩
end Go.G36
