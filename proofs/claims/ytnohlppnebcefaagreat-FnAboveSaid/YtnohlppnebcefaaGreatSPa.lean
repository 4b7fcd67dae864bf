/- Loops over lists, as lists. -/
import Derived.Test.YtnohlppnebcefaaGreatKv
import Derived.IntWalk
import Derived.Test.YtnohlppnebcefaaGreatKzi
namespace Go.G36
set_option linter.all false
open Go
variable [Genv]

def firstG {α R : Type} (g : Nat → α → Option R) : List α → Nat → Option R
  | [], _ => none
  | a :: r, i => match g i a with
    | some x => some x
    | none => firstG g r (i + 1)

theorem loop_firstM {α R Q : Type} (m : Nat) (xs : List α) (step : Int → Option (Int ⊕ Q)) (g : Nat → α → Option R) (out : Option R → Q)
    (hs : ∀ (i : Nat) (a : α), m ≤ i → xs[i]? = some a → step (i : Int) = some (match g i a with | some r => .inr (out (some r)) | none => .inl ((i : Int) + 1)))
    (he : step (xs.length : Int) = some (.inr (out none))) : ∀ (k i : Nat), m ≤ i → i + k = xs.length → loopO step (i : Int) = some (out (firstG g (xs.drop i) i)) := by
  intro k
  induction k with
  | zero =>
    intro i _ hi
    have : i = xs.length := by omega
    subst this
    rw [List.drop_length]
    exact loopO_end he
  | succ k ih =>
    intro i hm hi
    have hlt : i < xs.length := by omega
    have ha : xs[i]? = some xs[i] := by simp
    have hst := hs i xs[i] hm ha
    rw [List.drop_eq_getElem_cons hlt, firstG]
    cases hg : g i xs[i] with
    | some r =>
      rw [hg] at hst
      exact loopO_end hst
    | none =>
      rw [hg] at hst
      rw [loopO_go hst]
      have := ih (i + 1) (by omega) (by omega)
      simpa using this
theorem loop_first {α R Q : Type} (xs : List α) (step : Int → Option (Int ⊕ Q)) (g : Nat → α → Option R) (out : Option R → Q)
    (hs : ∀ (i : Nat) (a : α), xs[i]? = some a → step (i : Int) = some (match g i a with | some r => .inr (out (some r)) | none => .inl ((i : Int) + 1)))
    (he : step (xs.length : Int) = some (.inr (out none))) (k i : Nat) (hi : i + k = xs.length) : loopO step (i : Int) = some (out (firstG g (xs.drop i) i)) :=
  loop_firstM 0 xs step g out (fun i a _ h => hs i a h) he k i (Nat.zero_le _) hi

theorem idx_nat {α : Type} (xs : List α) (i : Nat) : idx xs (i : Int) = xs[i]? := by simp [idx]
theorem wrap_succ {i : Nat} (h : i < 9223372036854775807) : IntKind.i64.wrap ((i : Int) + 1) = (i : Int) + 1 := IntWalk.i64_in _ (by omega)
theorem idxS_nat {s : ByteArray} {i : Nat} {b : UInt8} (h : s.data.toList[i]? = some b) : idxS s (i : Int) = some (b.toNat : Int) := by simp [idxS, h]
end Go.G36
/- Plain laws: what surely answers; two computations side by side. -/
namespace Go.G36
set_option linter.all false
open Go
variable [Genv]

/-- o answers, with something that is as P says. -/
def Ok {α : Type} (o : Option α) (P : α → Prop) : Prop := ∃ r, o = some r ∧ P r
theorem Ok.some {α : Type} {x : α} {P : α → Prop} (h : P x) : Ok (some x) P := ⟨x, rfl, h⟩
theorem Ok.bind {α β : Type} {o : Option α} {f : α → Option β} {Q : α → Prop} {P : β → Prop} (h : Ok o Q) (k : ∀ r, Q r → Ok (f r) P) : Ok (o.bind f) P := by
  obtain ⟨r, rfl, hr⟩ := h
  exact k r hr
theorem Ok.cond {α : Type} {b : Bool} {x y : Option α} {P : α → Prop} (ht : b = true → Ok x P) (hf : b = false → Ok y P) : Ok (cond b x y) P := by
  cases b with
  | true => exact ht rfl
  | false => exact hf rfl
theorem Ok.mono {α : Type} {o : Option α} {Q P : α → Prop} (h : Ok o Q) (k : ∀ r, Q r → P r) : Ok o P := by
  obtain ⟨r, e, hr⟩ := h
  exact ⟨r, e, k r hr⟩
theorem Ok.gd {α : Type} [Inhabited α] {c : Bool} {o : Option α} {P : α → Prop} (ht : c = true → Ok o P) (hf : c = false → P default) : Ok (gdO c o) P := Ok.cond ht fun h => Ok.some (hf h)
theorem Ok.eq {α : Type} {o : Option α} {P : α → Prop} {x : α} (h : Ok o P) (e : o = Option.some x) : P x := by
  obtain ⟨r, e', hr⟩ := h
  rw [e] at e'
  injection e' with e'
  exact e' ▸ hr
/-- Rounds, each with less before it. -/
theorem Ok.loop {S R : Type} {step : S → Option (S ⊕ R)} {P : R → Prop} (I : Nat → S → Prop)
    (h : ∀ n s, I n s → Ok (step s) (fun x => match x with | .inl s' => ∃ m, m < n ∧ I m s' | .inr r => P r)) : ∀ {n : Nat} {s : S}, I n s → Ok (loopO step s) P := by
  intro n
  induction n using Nat.strongRecOn with
  | ind n ih =>
    intro s hs
    obtain ⟨x, hx, hp⟩ := h n s hs
    cases x with
    | inl s' =>
      obtain ⟨m, hm, hi⟩ := hp
      rw [loopO_go hx]
      exact ih m hm hi
    | inr r => exact ⟨r, loopO_end hx, hp⟩

/-- Both answer, with things that are as P says. -/
def Ok2 {α β : Type} (o : Option α) (o' : Option β) (P : α → β → Prop) : Prop := ∃ r r', o = some r ∧ o' = some r' ∧ P r r'
theorem Ok2.some {α β : Type} {x : α} {y : β} {P : α → β → Prop} (h : P x y) : Ok2 (some x) (some y) P := ⟨x, y, rfl, rfl, h⟩
theorem Ok2.bind {α α' β β' : Type} {o : Option α} {o' : Option α'} {f : α → Option β} {f' : α' → Option β'} {Q : α → α' → Prop} {P : β → β' → Prop} (h : Ok2 o o' Q) (k : ∀ r r', Q r r' → Ok2 (f r) (f' r') P) : Ok2 (o.bind f) (o'.bind f') P := by
  obtain ⟨r, r', rfl, rfl, hr⟩ := h
  exact k r r' hr
theorem Ok2.mono {α β : Type} {o : Option α} {o' : Option β} {Q P : α → β → Prop} (h : Ok2 o o' Q) (k : ∀ r r', Q r r' → P r r') : Ok2 o o' P := by
  obtain ⟨r, r', e, e', hr⟩ := h
  exact ⟨r, r', e, e', k r r' hr⟩
theorem Ok2.left {α β : Type} {o : Option α} {o' : Option β} {P : α → β → Prop} (h : Ok2 o o' P) : Ok o fun r => ∃ r', o' = Option.some r' ∧ P r r' := by
  obtain ⟨r, r', e, e', hr⟩ := h
  exact ⟨r, e, r', e', hr⟩
/-- Two loops, round by round. -/
theorem Ok2.loop {S S' R R' : Type} {step : S → Option (S ⊕ R)} {step' : S' → Option (S' ⊕ R')} {P : R → R' → Prop} (I : Nat → S → S' → Prop)
    (h : ∀ n s s', I n s s' → Ok2 (step s) (step' s') (fun x y => match x, y with | .inl t, .inl t' => ∃ m, m < n ∧ I m t t' | .inr r, .inr r' => P r r' | _, _ => False)) : ∀ {n : Nat} {s : S} {s' : S'}, I n s s' → Ok2 (loopO step s) (loopO step' s') P := by
  intro n
  induction n using Nat.strongRecOn with
  | ind n ih =>
    intro s s' hs
    obtain ⟨x, y, hx, hy, hp⟩ := h n s s' hs
    cases x with
    | inl t =>
      cases y with
      | inl t' =>
        obtain ⟨m, hm, hi⟩ := hp
        rw [loopO_go hx, loopO_go hy]
        exact ih m hm hi
      | inr r' => exact hp.elim
    | inr r =>
      cases y with
      | inl t' => exact hp.elim
      | inr r' => exact ⟨r, r', loopO_end hx, loopO_end hy, hp⟩

theorem gdO_some {α : Type} [Inhabited α] (c : Bool) (v : α) : gdO c (some v) = some (cond c v default) := by cases c <;> rfl
theorem app_get {α : Type} {xs ys : List α} (h : xs.length + ys.length ≤ 4294967296) : app xs ys = some (xs ++ ys) := by
  unfold app
  rw [if_pos h]
theorem cat_get {r s : ByteArray} (h : r.size + s.size ≤ 9223372036854775807) : cat r s = some (r ++ s) := by
  unfold cat
  rw [if_pos h]
end Go.G36
