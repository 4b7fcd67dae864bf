/- The plain part of FnRecovered: lists that rise. -/
import Derived.Test.YtegplikjfdpnlaaPc
namespace Go.G36
set_option linter.unusedVariables false
open Go Go.G36.GWalk

def sgn (a b : Int) : Int := if a < b then -1 else if a > b then 1 else 0
theorem cmpNum_eq (a b : Int) : spec_l1CmpNum a b = some (sgn a b) := by
  unfold spec_l1CmpNum sgn
  by_cases h : a < b
  · simp [h]
  · by_cases h2 : a > b <;> simp [h, h2]

def cmpB : List UInt8 → List UInt8 → Int
  | a :: x, b :: y => if a = b then cmpB x y else sgn (a.toNat : Int) (b.toNat : Int)
  | x, y => sgn (x.length : Int) (y.length : Int)

theorem cmpB_neg : ∀ (x y : List UInt8), cmpB x y < 0 ↔ Op.bytesLess x y = true
  | [], [] => by simp [cmpB, sgn, Op.bytesLess]
  | [], b :: y => by
    have : (0 : Int) < ((b :: y).length : Int) := by simp
    have e : cmpB [] (b :: y) = -1 := by
      show sgn (([] : List UInt8).length : Int) ((b :: y).length : Int) = -1
      unfold sgn; rw [if_pos (by simp)]
    rw [e]; simp [Op.bytesLess]
  | a :: x, [] => by
    have e : cmpB (a :: x) [] = 1 := by
      show sgn ((a :: x).length : Int) (([] : List UInt8).length : Int) = 1
      unfold sgn
      rw [if_neg (by simp; omega), if_pos (by simp)]
    rw [e]; simp [Op.bytesLess]
  | a :: x, b :: y => by
    have hc : cmpB (a :: x) (b :: y) = if a = b then cmpB x y else sgn (a.toNat : Int) (b.toNat : Int) := by simp only [cmpB]
    rw [hc]
    by_cases h : a = b
    · subst h
      have : ¬ a < a := UInt8.lt_irrefl a
      rw [if_pos rfl, cmpB_neg x y]
      simp [Op.bytesLess, this]
    · rw [if_neg h]
      unfold sgn
      have h2 : (a == b) = false := by simpa using h
      by_cases hl : a < b
      · have : (a.toNat : Int) < (b.toNat : Int) := by have := UInt8.lt_iff_toNat_lt.1 hl; omega
        rw [if_pos this]
        simp [Op.bytesLess, hl]
      · have h1 : ¬ (a.toNat : Int) < (b.toNat : Int) := fun h => hl (UInt8.lt_iff_toNat_lt.2 (by omega))
        rw [if_neg h1]
        simp only [Op.bytesLess, hl, decide_false, h2, Bool.false_and, Bool.or_false]
        split <;> simp
theorem cmpB_less (x y : List UInt8) : decide (cmpB x y ≥ 0) = !(Op.bytesLess x y) := by
  have := cmpB_neg x y
  cases h : Op.bytesLess x y with
  | true => rw [h] at this; have := this.2 rfl; simp; omega
  | false => rw [h] at this; have : ¬ cmpB x y < 0 := fun e => by cases this.1 e
             simp; omega

theorem byte_lt (b : UInt8) : (b.toNat : Int) < 256 := by have := b.toNat_lt; omega

theorem cmpText_eq (a b : ByteArray) (ha : a.size < big) (hb : b.size < big) : spec_l1CmpText a b = some (cmpB a.data.toList b.data.toList) := by
  unfold big at ha hb
  have hla := size_data a
  have hlb := size_data b
  let zs := a.data.toList.zip b.data.toList
  have hz : zs.length = min a.size b.size := by show (List.zip _ _).length = _; rw [List.length_zip, hla, hlb]
  have h := loop_first zs (spec_l1CmpText_l1 a b) (fun _ e => if e.1 = e.2 then none else some (sgn (e.1.toNat : Int) (e.2.toNat : Int))) outU (fun i c hc => by
    have hi := (List.getElem?_eq_some_iff.1 hc).1
    obtain ⟨c1, c2⟩ := c
    have hcc : a.data.toList[i]? = some c1 ∧ b.data.toList[i]? = some c2 := by
      have := hc
      simp only [zs, List.getElem?_zip_eq_some] at this
      exact this
    have hx := idxS_nat hcc.1
    have hy := idxS_nat hcc.2
    simp only [spec_l1CmpText_l1, show decide ((i : Int) < (a.size : Int)) = true from decide_eq_true (by omega), show decide ((i : Int) < (b.size : Int)) = true from decide_eq_true (by omega), Bool.and_self, cond_true, hx, hy, Option.bind_some,
      wrap_succ (i := i) (by omega), IntWalk.i64_in (c1.toNat : Int) (by have := byte_lt c1; omega), IntWalk.i64_in (c2.toNat : Int) (by have := byte_lt c2; omega), cmpNum_eq]
    by_cases e : c1 = c2
    · subst e; simp [outU]
    · have : ((c1.toNat : Int) != (c2.toNat : Int)) = true := by
        simp only [bne_iff_ne, ne_eq]
        intro h
        exact e (UInt8.toNat_inj.1 (by omega))
      simp [e, this, outU]) (by
    simp only [spec_l1CmpText_l1]
    have : (decide ((zs.length : Int) < (a.size : Int)) && decide ((zs.length : Int) < (b.size : Int))) = false := by
      rw [hz]
      simp only [Bool.and_eq_false_iff, decide_eq_false_iff_not]
      omega
    rw [this]; rfl) zs.length 0 (by omega)
  simp only [List.drop_zero] at h
  have key : ∀ (x y : List UInt8) (i : Nat), cmpB x y = (match firstG (fun (_ : Nat) (e : UInt8 × UInt8) => if e.1 = e.2 then none else some (sgn (e.1.toNat : Int) (e.2.toNat : Int))) (x.zip y) i with | some r => r | none => sgn (x.length : Int) (y.length : Int)) := by
    intro x
    induction x with
    | nil => intro y i; cases y <;> simp [cmpB, firstG]
    | cons p x ih =>
      intro y i
      cases y with
      | nil => simp [cmpB, firstG]
      | cons q y =>
        simp only [List.zip_cons_cons, firstG, cmpB]
        by_cases e : p = q
        · rw [if_pos e, if_pos e]
          simp only
          rw [ih y (i + 1)]
          cases firstG _ (x.zip y) (i + 1) with
          | some r => rfl
          | none =>
            simp only [sgn, List.length_cons]
            have e1 : ((x.length : Int) < (y.length : Int)) ↔ (((x.length + 1 : Nat) : Int) < ((y.length + 1 : Nat) : Int)) := by omega
            have e2 : ((x.length : Int) > (y.length : Int)) ↔ (((x.length + 1 : Nat) : Int) > ((y.length + 1 : Nat) : Int)) := by omega
            simp only [e1, e2]
        · rw [if_neg e, if_neg e]
  rw [key a.data.toList b.data.toList 0, hla, hlb]
  unfold spec_l1CmpText
  rw [show ((0 : Int)) = ((0 : Nat) : Int) from rfl, h]
  rw [show a.data.toList.zip b.data.toList = zs from rfl]
  generalize firstG (fun (_ : Nat) (e : UInt8 × UInt8) => if e.1 = e.2 then none else some (sgn (e.1.toNat : Int) (e.2.toNat : Int))) zs 0 = F
  cases F with
  | some r => simp [outU]
  | none => simp [outU, cmpNum_eq]

def gR (xs : List ByteArray) (i : Nat) (e : ByteArray) : Option Bool := cond (Op.bytesLess (xs.getD (i - 1) ByteArray.empty).toList e.toList) none (some false)
/-- Each one is above the one ahead of it. -/
def risesB (xs : List ByteArray) : Bool := (firstG (gR xs) (xs.drop 1) 1).getD true

theorem spec_rises (xs : List ByteArray) (hl : xs.length < big) (hn : ∀ n, n ∈ xs → n.size < big) : spec_l3Rising xs = some (risesB xs) := by
  have hl' : xs.length < 9223372036854775807 := hl
  unfold spec_l3Rising risesB
  by_cases h0 : xs.length = 0
  · have hx : xs = [] := List.eq_nil_of_length_eq_zero h0
    subst hx
    have : loopO (spec_l3Rising_l1 []) 1 = some (.inl ()) := loopO_end (by simp [spec_l3Rising_l1])
    rw [this]; rfl
  · have h := loop_firstM 1 xs (spec_l3Rising_l1 xs) (gR xs) outU (fun i a h1 ha => by
      have hi := (List.getElem?_eq_some_iff.1 ha).1
      have hp : xs[i - 1]? = some xs[i - 1] := by simp
      have hw : IntKind.i64.wrap ((i : Int) - 1) = ((i - 1 : Nat) : Int) := by rw [IntWalk.i64_in _ (by omega)]; omega
      have hq : xs.getD (i - 1) ByteArray.empty = xs[i - 1] := by rw [List.getD_eq_getElem?_getD, hp]; rfl
      simp only [spec_l3Rising_l1, show decide ((i : Int) < (xs.length : Int)) = true from decide_eq_true (by omega), cond_true, hw, idx_nat, hp, ha, Option.bind_some,
        cmpText_eq xs[i - 1] a (hn _ (List.getElem_mem ..)) (hn _ (List.mem_of_getElem? ha)), cmpB_less, wrap_succ (i := i) (by omega), gR, hq, ByteArray.toList_eq]
      cases Op.bytesLess xs[i - 1].data.toList a.data.toList <;> simp [outU]) (by
      simp [spec_l3Rising_l1, outU]) (xs.length - 1) 1 (Nat.le_refl _) (by omega)
    rw [show ((1 : Int)) = ((1 : Nat) : Int) from rfl, h]
    cases firstG (gR xs) (xs.drop 1) 1 <;> simp [outU]

theorem impl_rises (xs : List ByteArray) (hl : xs.length < big) : impl_yrising xs = some (risesB xs) := by
  have hl' : xs.length < 9223372036854775807 := hl
  unfold impl_yrising risesB
  have h := loop_first xs (impl_yrising_l1 xs) (fun i e => if i = 0 then none else gR xs i e) outU (fun i a ha => by
    have hi := (List.getElem?_eq_some_iff.1 ha).1
    by_cases h0 : i = 0
    · subst h0
      simp only [impl_yrising_l1, show decide (((0 : Nat) : Int) < (xs.length : Int)) = true from decide_eq_true (by omega), cond_true, idx_nat, ha, Option.bind_some]
      simp [gdO, outU, IntWalk.i64_in 1 (by omega)]
    · have hp : xs[i - 1]? = some xs[i - 1] := by simp
      have hw : IntKind.i64.wrap ((i : Int) - 1) = ((i - 1 : Nat) : Int) := by rw [IntWalk.i64_in _ (by omega)]; omega
      have hq : xs.getD (i - 1) ByteArray.empty = xs[i - 1] := by rw [List.getD_eq_getElem?_getD, hp]; rfl
      simp only [impl_yrising_l1, show decide ((i : Int) < (xs.length : Int)) = true from decide_eq_true (by omega), show decide ((i : Int) > 0) = true from decide_eq_true (by omega), gdO, cond_true, hw, idx_nat, hp, ha, Option.bind_some,
        wrap_succ (i := i) (by omega), h0, if_false, gR, hq, Bool.true_and]
      cases Op.bytesLess xs[i - 1].toList a.toList <;> simp [outU]) (by
    simp [impl_yrising_l1, outU]) xs.length 0 (by omega)
  have key : firstG (fun i e => if i = 0 then none else gR xs i e) (xs.drop 0) 0 = firstG (gR xs) (xs.drop 1) 1 := by
    have gen : ∀ (l : List ByteArray) (i : Nat), 1 ≤ i → firstG (fun i e => if i = 0 then none else gR xs i e) l i = firstG (gR xs) l i := by
      intro l
      induction l with
      | nil => intro i _; rfl
      | cons a r ih =>
        intro i h1
        rw [firstG, firstG]
        simp only [show ¬ i = 0 by omega, if_false]
        rw [ih (i + 1) (by omega)]
    cases xs with
    | nil => rfl
    | cons a r =>
      rw [List.drop_zero, firstG]
      simp only [if_true, List.drop_succ_cons, List.drop_zero]
      exact gen r 1 (Nat.le_refl _)
  rw [show ((0 : Int)) = ((0 : Nat) : Int) from rfl, h, key]
  cases firstG (gR xs) (xs.drop 1) 1 <;> simp [outU]
end Go.G36
