/- Plain laws: what surely answers. -/
import Derived.Test.YtnndbiialpaccaaGreatDoorKzg
import Derived.IntWalk
namespace Go.G36
set_option linter.unusedVariables false
open Go
local instance dummyG : Genv := ⟨fun _ => none⟩

/-- o answers, with something that is as P says. -/
def Ok {α : Type} (o : Option α) (P : α → Prop) : Prop := ∃ r, o = some r ∧ P r
theorem Ok.some {α : Type} {x : α} {P : α → Prop} (h : P x) : Ok (some x) P := ⟨x, rfl, h⟩
theorem Ok.bind {α β : Type} {o : Option α} {f : α → Option β} {Q : α → Prop} {P : β → Prop} (h : Ok o Q) (k : ∀ r, Q r → Ok (f r) P) : Ok (o.bind f) P := by
  obtain ⟨r, rfl, hr⟩ := h
  exact k r hr
theorem Ok.cond {α : Type} {b : Bool} {x y : Option α} {P : α → Prop} (ht : b = true → Ok x P) (hf : b = false → Ok y P) : Ok (cond b x y) P := by
  cases b with
  | true => exact ht rfl
  | false => exact hf rfl
theorem Ok.mono {α : Type} {o : Option α} {Q P : α → Prop} (h : Ok o Q) (k : ∀ r, Q r → P r) : Ok o P := by
  obtain ⟨r, e, hr⟩ := h
  exact ⟨r, e, k r hr⟩
theorem Ok.gd {α : Type} [Inhabited α] {c : Bool} {o : Option α} {P : α → Prop} (ht : c = true → Ok o P) (hf : c = false → P default) : Ok (gdO c o) P := Ok.cond ht fun h => Ok.some (hf h)
theorem Ok.eq {α : Type} {o : Option α} {P : α → Prop} {x : α} (h : Ok o P) (e : o = Option.some x) : P x := by
  obtain ⟨r, e', hr⟩ := h
  rw [e] at e'
  injection e' with e'
  exact e' ▸ hr
/-- Rounds, each with less before it. -/
theorem Ok.loop {S R : Type} {step : S → Option (S ⊕ R)} {P : R → Prop} (I : Nat → S → Prop)
    (h : ∀ n s, I n s → Ok (step s) (fun x => match x with | .inl s' => ∃ m, m < n ∧ I m s' | .inr r => P r)) : ∀ {n : Nat} {s : S}, I n s → Ok (loopO step s) P := by
  intro n
  induction n using Nat.strongRecOn with
  | ind n ih =>
    intro s hs
    obtain ⟨x, hx, hp⟩ := h n s hs
    cases x with
    | inl s' =>
      obtain ⟨m, hm, hi⟩ := hp
      rw [loopO_go hx]
      exact ih m hm hi
    | inr r => exact ⟨r, loopO_end hx, hp⟩

theorem gdO_some {α : Type} [Inhabited α] (c : Bool) (v : α) : gdO c (some v) = some (cond c v default) := by cases c <;> rfl
theorem cond_none_some {α : Type} (c : Bool) (u v : α) : cond c (some u) (some v) = some (cond c u v) := by cases c <;> rfl

/-- What o tells, o' tells. -/
def Lo {α : Type} (o o' : Option α) : Prop := ∀ r, o = some r → o' = some r
theorem Lo.refl {α : Type} (o : Option α) : Lo o o := fun _ h => h
theorem Lo.bind {α β : Type} {o o' : Option α} {f f' : α → Option β} (h : Lo o o') (k : ∀ r, Lo (f r) (f' r)) : Lo (o.bind f) (o'.bind f') := fun r hr => by
  cases o with
  | none => cases hr
  | some x => rw [h x rfl]; exact k x r hr
theorem Lo.cond {α : Type} {b : Bool} {x y x' y' : Option α} (h1 : Lo x x') (h2 : Lo y y') : Lo (cond b x y) (cond b x' y') := by
  cases b
  · exact h2
  · exact h1
theorem Lo.gd {α : Type} [Inhabited α] {b : Bool} {x x' : Option α} (h1 : Lo x x') : Lo (gdO b x) (gdO b x') := Lo.cond h1 (Lo.refl _)
theorem iterL_lo {S R : Type} {f f' : S → Option (S ⊕ R)} (h : ∀ s, Lo (f s) (f' s)) : ∀ n s, Lo (iterL f n s) (iterL f' n s) := by
  intro n
  induction n with
  | zero => intro s; exact Lo.refl _
  | succ n ih =>
    intro s r hr
    simp only [iterL] at hr ⊢
    cases hs : f s with
    | none => rw [hs] at hr; cases hr
    | some x =>
      rw [hs] at hr
      rw [h s x hs]
      cases x with
      | inl s' => exact ih s' r hr
      | inr q => exact hr
theorem Lo.loop {S R : Type} {f f' : S → Option (S ⊕ R)} (h : ∀ s, Lo (f s) (f' s)) (s : S) : Lo (loopO f s) (loopO f' s) := fun r hr => by
  obtain ⟨n, hn⟩ := loopO_ex hr
  exact loopO_of (iterL_lo h n s r hn)
theorem Ok.fix {A R : Type} {b : (A → Option R) → A → Option R} (mono : ∀ f g : A → Option R, (∀ x, Lo (f x) (g x)) → ∀ x, Lo (b f x) (b g x)) {n : Nat} {x : A} {P : R → Prop} (h : Ok (iterF b n x) P) : Ok (fixO b x) P := by
  obtain ⟨r, hr, hp⟩ := h
  exact ⟨r, fixO_of (fun f g h x r => mono f g (fun x r => h x r) x r) hr, hp⟩
theorem fix_eq {A R : Type} {b : (A → Option R) → A → Option R} (mono : ∀ f g : A → Option R, (∀ x, Lo (f x) (g x)) → ∀ x, Lo (b f x) (b g x)) {n : Nat} {x : A} {r : R} (h : iterF b n x = some r) : fixO b x = some r :=
  fixO_of (fun f g h x r => mono f g (fun x r => h x r) x r) h

theorem Lo.recc {A R : Type} {f g : A → Option R} (h : ∀ x, Lo (f x) (g x)) (x : A) : Lo (f x) (g x) := h x
end Go.G36
