/- The plain part of FnRecovered, first: small functions. -/
import Derived.Test.YtegplikjfdpnlaaGWalk
import Derived.Test.YtegplikjfdpnlaaPa
namespace Go.G36
set_option linter.unusedVariables false
open Go Go.G36.GWalk

def big : Nat := 9223372036854775807
def outU {R : Type} : Option R → Unit ⊕ R
  | some r => .inr r
  | none => .inl ()

theorem has_eq (xs : List ByteArray) (w : ByteArray) (hl : xs.length < big) : spec_l3Has xs w = some (xs.any fun e => e.toList == w.toList) := by
  unfold big at hl
  have h := loop_first xs (spec_l3Has_l1 xs w) (fun _ e => cond (e.toList == w.toList) (some true) none) outU (fun i a ha => by
    have hi := (List.getElem?_eq_some_iff.1 ha).1
    simp only [spec_l3Has_l1, idx_nat, ha, Option.bind_some, show decide ((i : Int) < (xs.length : Int)) = true from decide_eq_true (by omega), cond_true]
    cases hb : (a.toList == w.toList) <;> simp [outU, wrap_succ (i := i) (by omega)]) (by simp [spec_l3Has_l1, outU]) xs.length 0 (by omega)
  simp only [List.drop_zero] at h
  have key : ∀ (l : List ByteArray) (i : Nat), firstG (fun _ e => cond (e.toList == w.toList) (some true) none) l i = if l.any (fun e => e.toList == w.toList) then some true else none := by
    intro l
    induction l with
    | nil => intro i; rfl
    | cons a r ih =>
      intro i
      rw [firstG, List.any_cons]
      cases hb : (a.toList == w.toList) with
      | true => simp
      | false => simp [ih]
  rw [key] at h
  unfold spec_l3Has
  rw [show ((0 : Int)) = ((0 : Nat) : Int) from rfl, h]
  cases hany : xs.any (fun e => e.toList == w.toList) <;> simp [outU]

theorem contains_eq (xs : List ByteArray) (w : ByteArray) (hl : xs.length < big) : slices_Contains xs w = some (xs.any fun e => w.toList == e.toList) := by
  unfold big at hl
  have h := loop_first xs (slices_Index_l1 xs w) (fun i e => cond (w.toList == e.toList) (some (i : Int)) none) outU (fun i a ha => by
    have hi := (List.getElem?_eq_some_iff.1 ha).1
    simp only [slices_Index_l1, idx_nat, ha, Option.bind_some, show decide ((i : Int) < (xs.length : Int)) = true from decide_eq_true (by omega), cond_true]
    cases hb : (w.toList == a.toList) <;> simp [outU, wrap_succ (i := i) (by omega)]) (by simp [slices_Index_l1, outU]) xs.length 0 (by omega)
  simp only [List.drop_zero] at h
  have key : ∀ (l : List ByteArray) (i : Nat), (firstG (fun i e => cond (w.toList == e.toList) (some (i : Int)) none) l i = none ∧ l.any (fun e => w.toList == e.toList) = false) ∨
      ∃ j : Nat, firstG (fun i e => cond (w.toList == e.toList) (some (i : Int)) none) l i = some (j : Int) ∧ l.any (fun e => w.toList == e.toList) = true := by
    intro l
    induction l with
    | nil => intro i; exact .inl ⟨rfl, rfl⟩
    | cons a r ih =>
      intro i
      rw [firstG, List.any_cons]
      cases hb : (w.toList == a.toList) with
      | true => exact .inr ⟨i, by simp⟩
      | false => simpa using ih (i + 1)
  unfold slices_Contains slices_Index
  rw [show ((0 : Int)) = ((0 : Nat) : Int) from rfl, h]
  rcases key xs 0 with ⟨k1, k2⟩ | ⟨j, k1, k2⟩
  · rw [k1, k2]; simp [outU]
  · rw [k1, k2]; simp [outU]
end Go.G36
