/- Loops over lists, as lists. -/
import Derived.Test.YtmlfbendohecmaaKv
import Derived.IntWalk
import Derived.Test.YtmlfbendohecmaaKzi
import Derived.Test.YtmlfbendohecmaaKzr
namespace Go.G36
set_option linter.all false
open Go
variable [Genv]

def firstG {α R : Type} (g : Nat → α → Option R) : List α → Nat → Option R
  | [], _ => none
  | a :: r, i => match g i a with
    | some x => some x
    | none => firstG g r (i + 1)

theorem loop_firstM {α R Q : Type} (m : Nat) (xs : List α) (step : Int → Option (Int ⊕ Q)) (g : Nat → α → Option R) (out : Option R → Q)
    (hs : ∀ (i : Nat) (a : α), m ≤ i → xs[i]? = some a → step (i : Int) = some (match g i a with | some r => .inr (out (some r)) | none => .inl ((i : Int) + 1)))
    (he : step (xs.length : Int) = some (.inr (out none))) : ∀ (k i : Nat), m ≤ i → i + k = xs.length → loopO step (i : Int) = some (out (firstG g (xs.drop i) i)) := by
  intro k
  induction k with
  | zero =>
    intro i _ hi
    have : i = xs.length := by omega
    subst this
    rw [List.drop_length]
    exact loopO_end he
  | succ k ih =>
    intro i hm hi
    have hlt : i < xs.length := by omega
    have ha : xs[i]? = some xs[i] := by simp
    have hst := hs i xs[i] hm ha
    rw [List.drop_eq_getElem_cons hlt, firstG]
    cases hg : g i xs[i] with
    | some r =>
      rw [hg] at hst
      exact loopO_end hst
    | none =>
      rw [hg] at hst
      rw [loopO_go hst]
      have := ih (i + 1) (by omega) (by omega)
      simpa using this
theorem loop_first {α R Q : Type} (xs : List α) (step : Int → Option (Int ⊕ Q)) (g : Nat → α → Option R) (out : Option R → Q)
    (hs : ∀ (i : Nat) (a : α), xs[i]? = some a → step (i : Int) = some (match g i a with | some r => .inr (out (some r)) | none => .inl ((i : Int) + 1)))
    (he : step (xs.length : Int) = some (.inr (out none))) (k i : Nat) (hi : i + k = xs.length) : loopO step (i : Int) = some (out (firstG g (xs.drop i) i)) :=
  loop_firstM 0 xs step g out (fun i a _ h => hs i a h) he k i (Nat.zero_le _) hi

def foldI {α β : Type} (f : Nat → α → β → β) : List α → Nat → β → β
  | [], _, b => b
  | a :: r, i, b => foldI f r (i + 1) (f i a b)

theorem loop_fold {α β S Q : Type} (xs : List α) (step : S → Option (S ⊕ Q)) (mk : β → Int → S) (f : Nat → α → β → β) (out : β → Q) (Inv : Nat → β → Prop)
    (hs : ∀ (i : Nat) (a : α) (b : β), xs[i]? = some a → Inv i b → step (mk b (i : Int)) = some (.inl (mk (f i a b) ((i : Int) + 1))) ∧ Inv (i + 1) (f i a b))
    (he : ∀ b, Inv xs.length b → step (mk b (xs.length : Int)) = some (.inr (out b))) : ∀ (k i : Nat) (b : β), i + k = xs.length → Inv i b → loopO step (mk b (i : Int)) = some (out (foldI f (xs.drop i) i b)) ∧ Inv xs.length (foldI f (xs.drop i) i b) := by
  intro k
  induction k with
  | zero =>
    intro i b hi hI
    have : i = xs.length := by omega
    subst this
    rw [List.drop_length]
    exact ⟨loopO_end (he b hI), hI⟩
  | succ k ih =>
    intro i b hi hI
    have hlt : i < xs.length := by omega
    have ha : xs[i]? = some xs[i] := by simp
    obtain ⟨h1, h2⟩ := hs i xs[i] b ha hI
    rw [List.drop_eq_getElem_cons hlt, foldI, loopO_go h1]
    have := ih (i + 1) (f i xs[i] b) (by omega) h2
    simpa using this

theorem idx_nat {α : Type} (xs : List α) (i : Nat) : idx xs (i : Int) = xs[i]? := by simp [idx]
theorem wrap_succ {i : Nat} (h : i < 9223372036854775807) : IntKind.i64.wrap ((i : Int) + 1) = (i : Int) + 1 := IntWalk.i64_in _ (by omega)
theorem idxS_nat {s : ByteArray} {i : Nat} {b : UInt8} (h : s.data.toList[i]? = some b) : idxS s (i : Int) = some (b.toNat : Int) := by simp [idxS, h]
end Go.G36
/- Plain laws: what surely answers; two computations side by side. -/
namespace Go.G36
set_option linter.all false
open Go
variable [Genv]

/-- o answers, with something that is as P says. -/
def Ok {α : Type} (o : Option α) (P : α → Prop) : Prop := ∃ r, o = some r ∧ P r
theorem Ok.some {α : Type} {x : α} {P : α → Prop} (h : P x) : Ok (some x) P := ⟨x, rfl, h⟩
theorem Ok.bind {α β : Type} {o : Option α} {f : α → Option β} {Q : α → Prop} {P : β → Prop} (h : Ok o Q) (k : ∀ r, Q r → Ok (f r) P) : Ok (o.bind f) P := by
  obtain ⟨r, rfl, hr⟩ := h
  exact k r hr
theorem Ok.cond {α : Type} {b : Bool} {x y : Option α} {P : α → Prop} (ht : b = true → Ok x P) (hf : b = false → Ok y P) : Ok (cond b x y) P := by
  cases b with
  | true => exact ht rfl
  | false => exact hf rfl
theorem Ok.mono {α : Type} {o : Option α} {Q P : α → Prop} (h : Ok o Q) (k : ∀ r, Q r → P r) : Ok o P := by
  obtain ⟨r, e, hr⟩ := h
  exact ⟨r, e, k r hr⟩
theorem Ok.gd {α : Type} [Inhabited α] {c : Bool} {o : Option α} {P : α → Prop} (ht : c = true → Ok o P) (hf : c = false → P default) : Ok (gdO c o) P := Ok.cond ht fun h => Ok.some (hf h)
/-- Rounds, each with less before it. -/
theorem Ok.loop {S R : Type} {step : S → Option (S ⊕ R)} {P : R → Prop} (I : Nat → S → Prop)
    (h : ∀ n s, I n s → Ok (step s) (fun x => match x with | .inl s' => ∃ m, m < n ∧ I m s' | .inr r => P r)) : ∀ {n : Nat} {s : S}, I n s → Ok (loopO step s) P := by
  intro n
  induction n using Nat.strongRecOn with
  | ind n ih =>
    intro s hs
    obtain ⟨x, hx, hp⟩ := h n s hs
    cases x with
    | inl s' =>
      obtain ⟨m, hm, hi⟩ := hp
      rw [loopO_go hx]
      exact ih m hm hi
    | inr r => exact ⟨r, loopO_end hx, hp⟩

/-- Both answer, with things that are as P says. -/
def Ok2 {α β : Type} (o : Option α) (o' : Option β) (P : α → β → Prop) : Prop := ∃ r r', o = some r ∧ o' = some r' ∧ P r r'
theorem Ok2.some {α β : Type} {x : α} {y : β} {P : α → β → Prop} (h : P x y) : Ok2 (some x) (some y) P := ⟨x, y, rfl, rfl, h⟩
theorem Ok2.bind {α α' β β' : Type} {o : Option α} {o' : Option α'} {f : α → Option β} {f' : α' → Option β'} {Q : α → α' → Prop} {P : β → β' → Prop} (h : Ok2 o o' Q) (k : ∀ r r', Q r r' → Ok2 (f r) (f' r') P) : Ok2 (o.bind f) (o'.bind f') P := by
  obtain ⟨r, r', rfl, rfl, hr⟩ := h
  exact k r r' hr
theorem Ok2.mono {α β : Type} {o : Option α} {o' : Option β} {Q P : α → β → Prop} (h : Ok2 o o' Q) (k : ∀ r r', Q r r' → P r r') : Ok2 o o' P := by
  obtain ⟨r, r', e, e', hr⟩ := h
  exact ⟨r, r', e, e', k r r' hr⟩
theorem Ok2.left {α β : Type} {o : Option α} {o' : Option β} {P : α → β → Prop} (h : Ok2 o o' P) : Ok o fun r => ∃ r', o' = Option.some r' ∧ P r r' := by
  obtain ⟨r, r', e, e', hr⟩ := h
  exact ⟨r, e, r', e', hr⟩
/-- Two loops, round by round. -/
theorem Ok2.loop {S S' R R' : Type} {step : S → Option (S ⊕ R)} {step' : S' → Option (S' ⊕ R')} {P : R → R' → Prop} (I : Nat → S → S' → Prop)
    (h : ∀ n s s', I n s s' → Ok2 (step s) (step' s') (fun x y => match x, y with | .inl t, .inl t' => ∃ m, m < n ∧ I m t t' | .inr r, .inr r' => P r r' | _, _ => False)) : ∀ {n : Nat} {s : S} {s' : S'}, I n s s' → Ok2 (loopO step s) (loopO step' s') P := by
  intro n
  induction n using Nat.strongRecOn with
  | ind n ih =>
    intro s s' hs
    obtain ⟨x, y, hx, hy, hp⟩ := h n s s' hs
    cases x with
    | inl t =>
      cases y with
      | inl t' =>
        obtain ⟨m, hm, hi⟩ := hp
        rw [loopO_go hx, loopO_go hy]
        exact ih m hm hi
      | inr r' => exact hp.elim
    | inr r =>
      cases y with
      | inl t' => exact hp.elim
      | inr r' => exact ⟨r, r', loopO_end hx, loopO_end hy, hp⟩

theorem gdO_some {α : Type} [Inhabited α] (c : Bool) (v : α) : gdO c (some v) = some (cond c v default) := by cases c <;> rfl
theorem app_get {α : Type} {xs ys : List α} (h : xs.length + ys.length ≤ 4294967296) : app xs ys = some (xs ++ ys) := by
  unfold app
  rw [if_pos h]
theorem cat_get {r s : ByteArray} (h : r.size + s.size ≤ 9223372036854775807) : cat r s = some (r ++ s) := by
  unfold cat
  rw [if_pos h]
end Go.G36
/- Lists in order, without repeats. -/
namespace Go.G36
set_option linter.all false
open Go

section
variable {α : Type} {l : List α} {x : α}
end

section
variable {α : Type} {lt : α → α → Prop} (hi : ∀ x, ¬ lt x x) (ht : ∀ x y z, lt x y → lt y z → lt x z)
theorem pw_last {l : List α} (h : l.Pairwise lt) {x z : α} (hx : x ∈ l) (hz : l.getLast? = some z) : x = z ∨ lt x z := by
  obtain ⟨m, rfl⟩ : ∃ m, l = m ++ [z] := by
    rcases List.eq_nil_or_concat l with rfl | ⟨m, y, rfl⟩
    · simp at hz
    · simp at hz; exact ⟨m, by simp [hz]⟩
  rw [List.pairwise_append] at h
  rcases List.mem_append.1 hx with h1 | h1
  · exact .inr (h.2.2 x h1 z (by simp))
  · exact .inl (by simpa using h1)
include hi ht in
include hi ht in
theorem strict_eq : ∀ a b : List α, a.Pairwise lt → b.Pairwise lt → (∀ x, x ∈ a ↔ x ∈ b) → a = b
  | [], [], _, _, _ => rfl
  | [], y :: b, _, _, h => by have := (h y).2 (by simp); cases this
  | x :: a, [], _, _, h => by have := (h x).1 (by simp); cases this
  | x :: a, y :: b, ha, hb, h => by
    rw [List.pairwise_cons] at ha hb
    have hxy : x = y := by
      rcases List.mem_cons.1 ((h x).1 (by simp)) with e | h1
      · exact e
      · rcases List.mem_cons.1 ((h y).2 (by simp)) with e | h2
        · exact e.symm
        · exact absurd (ht _ _ _ (ha.1 y h2) (hb.1 x h1)) (hi x)
    subst hxy
    rw [strict_eq a b ha.2 hb.2 fun z => ⟨fun hz => ?_, fun hz => ?_⟩]
    · rcases List.mem_cons.1 ((h z).1 (List.mem_cons_of_mem _ hz)) with e | h1
      · subst e; exact absurd (ha.1 z hz) (hi z)
      · exact h1
    · rcases List.mem_cons.1 ((h z).2 (List.mem_cons_of_mem _ hz)) with e | h1
      · subst e; exact absurd (hb.1 z hz) (hi z)
      · exact h1
theorem ins_strict {A B : List α} {x : α} (h : (A ++ B).Pairwise lt) (ha : ∀ a, a ∈ A → lt a x) (hb : ∀ b, b ∈ B → lt x b) : (A ++ x :: B).Pairwise lt := by
  rw [List.pairwise_append] at h ⊢
  refine ⟨h.1, List.pairwise_cons.2 ⟨hb, h.2.1⟩, fun a h1 b h2 => ?_⟩
  rcases List.mem_cons.1 h2 with rfl | h3
  · exact ha a h1
  · exact h.2.2 a h1 b h3
theorem flat_strict {ρ : Type} (f : ρ → List α) : ∀ rs : List ρ, (∀ r, r ∈ rs → (f r).Pairwise lt) → (rs.Pairwise fun r r' => ∀ a, a ∈ f r → ∀ b, b ∈ f r' → lt a b) → (rs.flatMap f).Pairwise lt
  | [], _, _ => .nil
  | r :: rs, h1, h2 => by
    rw [List.pairwise_cons] at h2
    rw [List.flatMap_cons, List.pairwise_append]
    refine ⟨h1 r (by simp), flat_strict f rs (fun r' hr => h1 r' (by simp [hr])) h2.2, fun a ha b hb => ?_⟩
    obtain ⟨r', hr', hb'⟩ := List.mem_flatMap.1 hb
    exact h2.1 r' hr' a ha b hb'
end

theorem sub_get {α : Type} {xs : List α} {a b : Nat} (h : a ≤ b) (hb : b ≤ xs.length) : sub xs (a : Int) (b : Int) = some ((xs.drop a).take (b - a)) := by
  unfold sub
  rw [if_pos (by omega), Int.toNat_natCast, show ((b : Int) - (a : Int)).toNat = b - a by omega]
end Go.G36
