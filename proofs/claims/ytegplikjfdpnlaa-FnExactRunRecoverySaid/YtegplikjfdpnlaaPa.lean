/- Loops over lists, as lists. -/
import Derived.Test.YtegplikjfdpnlaaKv
import Derived.IntWalk
namespace Go.G36
set_option linter.unusedVariables false
open Go

def firstG {α R : Type} (g : Nat → α → Option R) : List α → Nat → Option R
  | [], _ => none
  | a :: r, i => match g i a with
    | some x => some x
    | none => firstG g r (i + 1)

theorem loop_firstM {α R Q : Type} (m : Nat) (xs : List α) (step : Int → Option (Int ⊕ Q)) (g : Nat → α → Option R) (out : Option R → Q)
    (hs : ∀ (i : Nat) (a : α), m ≤ i → xs[i]? = some a → step (i : Int) = some (match g i a with | some r => .inr (out (some r)) | none => .inl ((i : Int) + 1)))
    (he : step (xs.length : Int) = some (.inr (out none))) : ∀ (k i : Nat), m ≤ i → i + k = xs.length → loopO step (i : Int) = some (out (firstG g (xs.drop i) i)) := by
  intro k
  induction k with
  | zero =>
    intro i _ hi
    have : i = xs.length := by omega
    subst this
    rw [List.drop_length]
    exact loopO_end he
  | succ k ih =>
    intro i hm hi
    have hlt : i < xs.length := by omega
    have ha : xs[i]? = some xs[i] := by simp
    have hst := hs i xs[i] hm ha
    rw [List.drop_eq_getElem_cons hlt, firstG]
    cases hg : g i xs[i] with
    | some r =>
      rw [hg] at hst
      exact loopO_end hst
    | none =>
      rw [hg] at hst
      rw [loopO_go hst]
      have := ih (i + 1) (by omega) (by omega)
      simpa using this
theorem loop_first {α R Q : Type} (xs : List α) (step : Int → Option (Int ⊕ Q)) (g : Nat → α → Option R) (out : Option R → Q)
    (hs : ∀ (i : Nat) (a : α), xs[i]? = some a → step (i : Int) = some (match g i a with | some r => .inr (out (some r)) | none => .inl ((i : Int) + 1)))
    (he : step (xs.length : Int) = some (.inr (out none))) (k i : Nat) (hi : i + k = xs.length) : loopO step (i : Int) = some (out (firstG g (xs.drop i) i)) :=
  loop_firstM 0 xs step g out (fun i a _ h => hs i a h) he k i (Nat.zero_le _) hi

def foldI {α β : Type} (f : Nat → α → β → β) : List α → Nat → β → β
  | [], _, b => b
  | a :: r, i, b => foldI f r (i + 1) (f i a b)

theorem loop_fold {α β S Q : Type} (xs : List α) (step : S → Option (S ⊕ Q)) (mk : β → Int → S) (f : Nat → α → β → β) (out : β → Q) (Inv : Nat → β → Prop)
    (hs : ∀ (i : Nat) (a : α) (b : β), xs[i]? = some a → Inv i b → step (mk b (i : Int)) = some (.inl (mk (f i a b) ((i : Int) + 1))) ∧ Inv (i + 1) (f i a b))
    (he : ∀ b, Inv xs.length b → step (mk b (xs.length : Int)) = some (.inr (out b))) : ∀ (k i : Nat) (b : β), i + k = xs.length → Inv i b → loopO step (mk b (i : Int)) = some (out (foldI f (xs.drop i) i b)) ∧ Inv xs.length (foldI f (xs.drop i) i b) := by
  intro k
  induction k with
  | zero =>
    intro i b hi hI
    have : i = xs.length := by omega
    subst this
    rw [List.drop_length]
    exact ⟨loopO_end (he b hI), hI⟩
  | succ k ih =>
    intro i b hi hI
    have hlt : i < xs.length := by omega
    have ha : xs[i]? = some xs[i] := by simp
    obtain ⟨h1, h2⟩ := hs i xs[i] b ha hI
    rw [List.drop_eq_getElem_cons hlt, foldI, loopO_go h1]
    have := ih (i + 1) (f i xs[i] b) (by omega) h2
    simpa using this

theorem idx_nat {α : Type} (xs : List α) (i : Nat) : idx xs (i : Int) = xs[i]? := by simp [idx]
theorem wrap_succ {i : Nat} (h : i < 9223372036854775807) : IntKind.i64.wrap ((i : Int) + 1) = (i : Int) + 1 := IntWalk.i64_in _ (by omega)
theorem idxS_nat {s : ByteArray} {i : Nat} {b : UInt8} (h : s.data.toList[i]? = some b) : idxS s (i : Int) = some (b.toNat : Int) := by simp [idxS, h]
end Go.G36
