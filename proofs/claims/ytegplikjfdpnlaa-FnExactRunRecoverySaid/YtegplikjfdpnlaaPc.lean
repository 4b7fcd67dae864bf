/- The plain part of FnRecovered: names. -/
import Derived.Test.YtegplikjfdpnlaaPb
namespace Go.G36
set_option linter.unusedVariables false
open Go Go.G36.GWalk

def digitP (b : Int) : Bool := decide (b ≥ 48) && decide (b ≤ 57)
def letterP (b : Int) : Bool := (decide (b ≥ 97) && decide (b ≤ 122)) || (decide (b ≥ 65) && decide (b ≤ 90))
def wordP (b : Int) : Bool := (letterP b || digitP b) || (b == 95)
def goodP (a : ByteArray) : Bool := !(decide ((a.size : Int) < 1) || decide ((a.size : Int) > 30)) && !(digitP ((a.data.toList.headD 0).toNat : Int)) && a.data.toList.all fun b => wordP (b.toNat : Int)

theorem size_data (a : ByteArray) : a.data.toList.length = a.size := Array.length_toList

theorem first_all {α : Type} (p : α → Bool) : ∀ (l : List α) (i : Nat), firstG (fun _ e => cond (p e) none (some false)) l i = if l.all p then none else some false
  | [], i => rfl
  | a :: r, i => by
    rw [firstG, List.all_cons]
    cases hb : p a with
    | true => simp [first_all p r (i + 1)]
    | false => simp

theorem spec_good (a : ByteArray) : spec_GoodName a = some (goodP a) := by
  by_cases hs : (decide ((a.size : Int) < 1) || decide ((a.size : Int) > 30)) = true
  · unfold spec_GoodName goodP
    simp only [hs, gdO, Bool.not_true, cond_false, Option.bind_some, Bool.true_or, cond_true, Bool.false_and]
  · have hs' : (decide ((a.size : Int) < 1) || decide ((a.size : Int) > 30)) = false := by simpa using hs
    have hsz : 1 ≤ a.size ∧ a.size ≤ 30 := by simp at hs'; omega
    have hlen := size_data a
    obtain ⟨b, r, hbr⟩ : ∃ b r, a.data.toList = b :: r := by
      cases h : a.data.toList with
      | nil => rw [h] at hlen; simp at hlen; omega
      | cons b r => exact ⟨b, r, rfl⟩
    have h0 : idxS a 0 = some (b.toNat : Int) := idxS_nat (i := 0) (by rw [hbr]; rfl)
    have h := loop_first a.data.toList (spec_GoodName_l1 a) (fun _ e => cond (wordP (e.toNat : Int)) none (some false)) outU (fun i c hc => by
      have hi := (List.getElem?_eq_some_iff.1 hc).1
      have hx := idxS_nat hc
      simp only [spec_GoodName_l1, show decide ((i : Int) < (a.size : Int)) = true from decide_eq_true (by omega), cond_true, hx, Option.bind_some, spec_l1Letter, spec_l1Digit, gdO, wrap_succ (i := i) (by omega)]
      unfold wordP letterP digitP
      generalize (decide ((c.toNat : Int) ≥ 97) && decide ((c.toNat : Int) ≤ 122) || decide ((c.toNat : Int) ≥ 65) && decide ((c.toNat : Int) ≤ 90)) = L
      cases L
      · simp only [Bool.not_false, cond_true, Option.bind_some, Bool.true_and, Bool.false_or]
        generalize (decide ((c.toNat : Int) ≥ 48) && decide ((c.toNat : Int) ≤ 57)) = D
        generalize (c.toNat : Int) = z
        cases D <;> cases h95 : (z == 95) <;> simp [h95, bne, outU]
      · simp only [Bool.not_true, cond_false, Option.bind_some, Bool.false_and, Bool.true_or]
        simp [outU]) (by simp [spec_GoodName_l1, hlen, outU]) a.data.toList.length 0 (by omega)
    simp only [List.drop_zero] at h
    rw [first_all (fun e : UInt8 => wordP (e.toNat : Int))] at h
    unfold spec_GoodName goodP
    simp only [hs', gdO, Bool.not_false, cond_true, h0, Option.bind_some, spec_l1Digit, Bool.false_or, Bool.true_and, hbr, List.headD_cons]
    rw [← hbr, show ((0 : Int)) = ((0 : Nat) : Int) from rfl, h]
    unfold digitP
    generalize (decide ((b.toNat : Int) ≥ 48) && decide ((b.toNat : Int) ≤ 57)) = D
    cases D <;> cases hall : (a.data.toList.all fun e => wordP (e.toNat : Int)) <;> simp [outU]

theorem impl_word (b : Int) : impl_ywordByte b = some (wordP b) := by
  unfold impl_ywordByte impl_yletter impl_ydigit wordP letterP digitP gdO
  simp only [Option.bind_some]
  generalize (decide (b ≥ 97) && decide (b ≤ 122) || decide (b ≥ 65) && decide (b ≤ 90)) = L
  generalize (decide (b ≥ 48) && decide (b ≤ 57)) = D
  cases L <;> cases D <;> simp

theorem impl_good (a : ByteArray) : impl_GoodName a = some (goodP a) := by
  have hlen := size_data a
  have he : (a.toList == (ByteArray.mk #[]).toList) = decide ((a.size : Int) < 1) := by
    rw [ByteArray.toList_eq, ByteArray.toList_eq]
    cases h : a.data.toList with
    | nil => rw [h] at hlen; simp at hlen; simp [← hlen]
    | cons b r => rw [h] at hlen; simp at hlen; simp; omega
  by_cases hs : (decide ((a.size : Int) < 1) || decide ((a.size : Int) > 30)) = true
  · unfold impl_GoodName goodP
    rw [he]
    simp only [hs, gdO, Bool.not_true, cond_false, Option.bind_some, Bool.true_or, cond_true, Bool.false_and, impl_ydigit]
  · have hs' : (decide ((a.size : Int) < 1) || decide ((a.size : Int) > 30)) = false := by simpa using hs
    have hsz : 1 ≤ a.size ∧ a.size ≤ 30 := by simp at hs'; omega
    obtain ⟨b, r, hbr⟩ : ∃ b r, a.data.toList = b :: r := by
      cases h : a.data.toList with
      | nil => rw [h] at hlen; simp at hlen; omega
      | cons b r => exact ⟨b, r, rfl⟩
    have h0 : idxS a 0 = some (b.toNat : Int) := idxS_nat (i := 0) (by rw [hbr]; rfl)
    have h := loop_first a.data.toList (impl_GoodName_l1 a) (fun _ e => cond (wordP (e.toNat : Int)) none (some false)) outU (fun i c hc => by
      have hi := (List.getElem?_eq_some_iff.1 hc).1
      have hx := idxS_nat hc
      simp only [impl_GoodName_l1, show decide ((i : Int) < (a.size : Int)) = true from decide_eq_true (by omega), cond_true, hx, Option.bind_some, impl_word, wrap_succ (i := i) (by omega)]
      generalize wordP (c.toNat : Int) = W
      cases W <;> simp [outU]) (by simp [impl_GoodName_l1, hlen, outU]) a.data.toList.length 0 (by omega)
    simp only [List.drop_zero] at h
    rw [first_all (fun e : UInt8 => wordP (e.toNat : Int))] at h
    unfold impl_GoodName goodP
    rw [he]
    simp only [hs', gdO, Bool.not_false, cond_true, h0, Option.bind_some, impl_ydigit, Bool.false_or, Bool.true_and, hbr, List.headD_cons]
    rw [← hbr, show ((0 : Int)) = ((0 : Nat) : Int) from rfl, h]
    unfold digitP
    generalize (decide ((b.toNat : Int) ≥ 48) && decide ((b.toNat : Int) ≤ 57)) = D
    cases D <;> cases hall : (a.data.toList.all fun e => wordP (e.toNat : Int)) <;> simp [outU]

theorem impl_all (xs : List ByteArray) (hl : xs.length < big) : impl_yallNames xs = some (xs.all goodP) := by
  unfold big at hl
  have h := loop_first xs (slices_IndexFunc_l1 xs) (fun i e => cond (goodP e) none (some (i : Int))) outU (fun i a ha => by
    have hi := (List.getElem?_eq_some_iff.1 ha).1
    simp only [slices_IndexFunc_l1, idx_nat, ha, Option.bind_some, show decide ((i : Int) < (xs.length : Int)) = true from decide_eq_true (by omega), cond_true, impl_yallNames_1, impl_good]
    generalize goodP a = g
    cases g <;> simp [outU, wrap_succ (i := i) (by omega)]) (by simp [slices_IndexFunc_l1, outU]) xs.length 0 (by omega)
  simp only [List.drop_zero] at h
  have key : ∀ (l : List ByteArray) (i : Nat), (firstG (fun i e => cond (goodP e) none (some (i : Int))) l i = none ∧ l.all goodP = true) ∨
      ∃ j : Nat, firstG (fun i e => cond (goodP e) none (some (i : Int))) l i = some (j : Int) ∧ l.all goodP = false := by
    intro l
    induction l with
    | nil => intro i; exact .inl ⟨rfl, rfl⟩
    | cons a r ih =>
      intro i
      rw [firstG, List.all_cons]
      cases hb : goodP a with
      | false => exact .inr ⟨i, by simp⟩
      | true => simpa using ih (i + 1)
  unfold impl_yallNames slices_ContainsFunc slices_IndexFunc
  rw [show ((0 : Int)) = ((0 : Nat) : Int) from rfl, h]
  rcases key xs 0 with ⟨k1, k2⟩ | ⟨j, k1, k2⟩
  · rw [k1, k2]; simp [outU]
  · rw [k1, k2]; simp [outU]

theorem spec_all (xs : List ByteArray) (hl : xs.length < big) : loopO (spec_RunRecovery_l1 xs) 0 = some (if xs.all goodP then .inl () else .inr []) := by
  unfold big at hl
  have h := loop_first xs (spec_RunRecovery_l1 xs) (fun _ e => cond (goodP e) none (some ([] : List Int))) outU (fun i a ha => by
    have hi := (List.getElem?_eq_some_iff.1 ha).1
    simp only [spec_RunRecovery_l1, idx_nat, ha, Option.bind_some, show decide ((i : Int) < (xs.length : Int)) = true from decide_eq_true (by omega), cond_true, spec_good]
    generalize goodP a = g
    cases g <;> simp [outU, wrap_succ (i := i) (by omega)]) (by simp [spec_RunRecovery_l1, outU]) xs.length 0 (by omega)
  simp only [List.drop_zero] at h
  have key : ∀ (l : List ByteArray) (i : Nat), firstG (fun _ e => cond (goodP e) none (some ([] : List Int))) l i = if l.all goodP then none else some [] := by
    intro l
    induction l with
    | nil => intro i; rfl
    | cons a r ih =>
      intro i
      rw [firstG, List.all_cons]
      cases hb : goodP a with
      | false => simp
      | true => simpa using ih (i + 1)
  rw [show ((0 : Int)) = ((0 : Nat) : Int) from rfl, h, key]
  cases xs.all goodP <;> simp [outU]
end Go.G36
