/- Atoms sorted by their four fields. -/
import Derived.Test.YtnohlppnebcefaaGreatAbCmp
import Derived.Test.YtnohlppnebcefaaGreatKzr
import Derived.Shelf.SlSortCmp.NoneTotal
set_option linter.all false
set_option maxRecDepth 20000
namespace Go.Proofs
open Go.Shelf
def Tryz.sortAtom_ren : Go.Shelf.Ren := ⟨fun | 6 => 19 | 15 => 45 | 14 => 44 | 28 => 80 | 29 => 81 | 20 => 72 | 21 => 73 | 22 => 74 | 23 => 75 | 24 => 76 | 25 => 77 | 26 => 78 | 27 => 79 | 46 => 99 | 47 => 100 | 48 => 101 | 49 => 102 | 50 => 103 | 57 => 108 | n => n, fun | 22 => 28 | 24 => 25 | 25 => 59 | 3 => 3 | 39 => 93 | 0 => 0 | 53 => 119 | 55 => 37 | 4 => 4 | 46 => 112 | 45 => 111 | 50 => 116 | 5 => 5 | 9 => 9 | 66 => 129 | 70 => 133 | 76 => 136 | 77 => 121 | n => n, fun | n => n⟩
theorem Tryz.sortAtom : Go.Proofs.SlLaysF0.n6 Tryz.prog Tryz.sortAtom_ren := {
  mixed := by kernel_rfl
  f6 := ⟨Tryz.f19.name, by decide, Tryz.func19.trans (congrArg some (by kernel_rfl))⟩
  f14 := ⟨Tryz.f44.name, by decide, Tryz.func44.trans (congrArg some (by kernel_rfl))⟩
  f15 := Tryz.func45.trans (congrArg some (by kernel_rfl))
  f20 := ⟨Tryz.f72.name, by decide, Tryz.func72.trans (congrArg some (by kernel_rfl))⟩
  f21 := ⟨Tryz.f73.name, by decide, Tryz.func73.trans (congrArg some (by kernel_rfl))⟩
  f22 := ⟨Tryz.f74.name, by decide, Tryz.func74.trans (congrArg some (by kernel_rfl))⟩
  f23 := ⟨Tryz.f75.name, by decide, Tryz.func75.trans (congrArg some (by kernel_rfl))⟩
  f24 := ⟨Tryz.f76.name, by decide, Tryz.func76.trans (congrArg some (by kernel_rfl))⟩
  f25 := ⟨Tryz.f77.name, by decide, Tryz.func77.trans (congrArg some (by kernel_rfl))⟩
  f26 := ⟨Tryz.f78.name, by decide, Tryz.func78.trans (congrArg some (by kernel_rfl))⟩
  f27 := ⟨Tryz.f79.name, by decide, Tryz.func79.trans (congrArg some (by kernel_rfl))⟩
  f28 := Tryz.func80.trans (congrArg some (by kernel_rfl))
  f29 := Tryz.func81.trans (congrArg some (by kernel_rfl))
  f46 := ⟨Tryz.f99.name, by decide, Tryz.func99.trans (congrArg some (by kernel_rfl))⟩
  f47 := Tryz.func100.trans (congrArg some (by kernel_rfl))
  f48 := Tryz.func101.trans (congrArg some (by kernel_rfl))
  f49 := ⟨Tryz.f102.name, by decide, Tryz.func102.trans (congrArg some (by kernel_rfl))⟩
  f50 := ⟨Tryz.f103.name, by decide, Tryz.func103.trans (congrArg some (by kernel_rfl))⟩
  f57 := ⟨Tryz.f108.name, by decide, Tryz.func108.trans (congrArg some (by kernel_rfl))⟩
  t0 := Tryz.underlying0
  a0 := Tryz.isAgg0
  z0 := Tryz.sizeOf0
  v0 := Tryz.zeroValue0
  t3 := Tryz.underlying3
  a3 := Tryz.isAgg3
  z3 := Tryz.sizeOf3
  v3 := Tryz.zeroValue3
  t4 := Tryz.underlying4
  a4 := Tryz.isAgg4
  z4 := Tryz.sizeOf4
  v4 := Tryz.zeroValue4
  t5 := Tryz.underlying5
  a5 := Tryz.isAgg5
  z5 := Tryz.sizeOf5
  v5 := Tryz.zeroValue5
  t9 := Tryz.underlying9
  a9 := Tryz.isAgg9
  z9 := Tryz.sizeOf9
  v9 := Tryz.zeroValue9
  t22 := Tryz.underlying28
  a22 := Tryz.isAgg28
  z22 := Tryz.sizeOf28
  v22 := Tryz.zeroValue28
  t25 := Tryz.underlying59
  a25 := Tryz.isAgg59
  z25 := Tryz.sizeOf59
  v25 := Tryz.zeroValue59
  t39 := Tryz.underlying93
  a39 := Tryz.isAgg93
  z39 := Tryz.sizeOf93
  v39 := Tryz.zeroValue93
  t45 := Tryz.underlying111
  a45 := Tryz.isAgg111
  z45 := Tryz.sizeOf111
  v45 := Tryz.zeroValue111
  t46 := Tryz.underlying112
  a46 := Tryz.isAgg112
  z46 := Tryz.sizeOf112
  v46 := Tryz.zeroValue112
  t50 := Tryz.underlying116
  a50 := Tryz.isAgg116
  z50 := Tryz.sizeOf116
  v50 := Tryz.zeroValue116
  t53 := Tryz.underlying119
  a53 := Tryz.isAgg119
  z53 := Tryz.sizeOf119
  v53 := Tryz.zeroValue119
  t55 := Tryz.underlying37
  a55 := Tryz.isAgg37
  z55 := Tryz.sizeOf37
  v55 := Tryz.zeroValue37
  t66 := Tryz.underlying129
  a66 := Tryz.isAgg129
  z66 := Tryz.sizeOf129
  v66 := Tryz.zeroValue129
  t70 := Tryz.underlying133
  a70 := Tryz.isAgg133
  z70 := Tryz.sizeOf133
  v70 := Tryz.zeroValue133
  t76 := Tryz.underlying136
  a76 := Tryz.isAgg136
  z76 := Tryz.sizeOf136
  v76 := Tryz.zeroValue136
  t77 := Tryz.underlying121
  a77 := Tryz.isAgg121
  z77 := Tryz.sizeOf121
  v77 := Tryz.zeroValue121 }
end Go.Proofs
namespace Go.G36.AbAnc
open Go Go.Sort Go.Proofs Go.G36 Go.G36.AB

theorem bl_eq : ∀ (x y : List UInt8), Op.bytesLess x y = decide (x < y)
  | [], [] => by simp [Op.bytesLess]
  | _ :: _, [] => by simp [Op.bytesLess]
  | [], _ :: _ => by simp [Op.bytesLess]
  | a :: x, b :: y => by
    rw [Op.bytesLess, bl_eq x y]
    simp only [List.cons_lt_cons_iff]
    by_cases h1 : a < b <;> by_cases h2 : a = b <;> by_cases h3 : x < y <;> simp [h1, h2, h3]
theorem lt3 (a b : List UInt8) : a < b ∨ a = b ∨ b < a := by
  by_cases h1 : a < b
  · exact .inl h1
  · by_cases h2 : b < a
    · exact .inr (.inr h2)
    · exact .inr (.inl (List.le_antisymm (List.not_lt.1 h2) (List.not_lt.1 h1)))
theorem cmpS_neg (a b : ByteArray) : cmpS a b < 0 ↔ a.toList < b.toList := by
  unfold cmpS
  rw [bl_eq]
  by_cases h : a.toList < b.toList
  · simp [h]
  · by_cases h2 : a.toList = b.toList <;> simp [h, h2, List.lt_irrefl]
theorem cmpS_zero (a b : ByteArray) : cmpS a b = 0 ↔ a.toList = b.toList := by
  unfold cmpS
  rw [bl_eq]
  by_cases h : a.toList < b.toList
  · have : a.toList ≠ b.toList := fun e => by rw [e] at h; exact List.lt_irrefl _ h
    simp [h, this]
  · by_cases h2 : a.toList = b.toList <;> simp [h, h2]
theorem bytes_inj {a b : ByteArray} (h : a.toList = b.toList) : a = b := by
  rw [Lib.toList_data, Lib.toList_data] at h
  cases a; cases b
  simpa using h

structure CmpOk {α : Type} (c : α → α → Int) : Prop where
  refl : ∀ x, c x x = 0
  trans : ∀ x y z, c x y < 0 → c y z < 0 → c x z < 0
  anti : ∀ x y, c x y < 0 ↔ 0 < c y x
  zl : ∀ x y z, c x y = 0 → c x z = c y z
  zr : ∀ x y z, c x y = 0 → c z x = c z y
theorem CmpOk.num {α : Type} (f : α → Int) : CmpOk fun x y => cmpN (f x) (f y) := by
  refine ⟨fun x => ?_, fun x y z h k => ?_, fun x y => ?_, fun x y z h => ?_, fun x y z h => ?_⟩ <;> unfold cmpN at * <;> (repeat' split at *) <;> omega
theorem CmpOk.str {α : Type} (f : α → ByteArray) : CmpOk fun x y => cmpS (f x) (f y) := by
  refine ⟨fun x => (cmpS_zero _ _).2 rfl, fun x y z h k => (cmpS_neg _ _).2 (List.lt_trans ((cmpS_neg _ _).1 h) ((cmpS_neg _ _).1 k)), fun x y => ?_, fun x y z h => ?_, fun x y z h => ?_⟩
  · rw [cmpS_neg]
    rcases lt3 (f x).toList (f y).toList with h | h | h
    · have h1 : ¬ cmpS (f y) (f x) < 0 := fun e => List.lt_irrefl _ (List.lt_trans h ((cmpS_neg _ _).1 e))
      have h2 : cmpS (f y) (f x) ≠ 0 := fun e => by rw [(cmpS_zero _ _).1 e] at h; exact List.lt_irrefl _ h
      exact ⟨fun _ => by omega, fun _ => h⟩
    · have h2 : cmpS (f y) (f x) = 0 := (cmpS_zero _ _).2 h.symm
      rw [h2, h]
      exact ⟨fun e => absurd e (List.lt_irrefl _), fun e => absurd e (by omega)⟩
    · have h1 := (cmpS_neg _ _).2 h
      exact ⟨fun e => absurd (List.lt_trans e h) (List.lt_irrefl _), fun e => by omega⟩
  · rw [bytes_inj ((cmpS_zero _ _).1 h)]
  · rw [bytes_inj ((cmpS_zero _ _).1 h)]
theorem CmpOk.lex {α : Type} {c d : α → α → Int} (hc : CmpOk c) (hd : CmpOk d) : CmpOk fun x y => orI (c x y) (d x y) := by
  refine ⟨fun x => by simp [orI, hc.refl, hd.refl], fun x y z h k => ?_, fun x y => ?_, fun x y z h => ?_, fun x y z h => ?_⟩
  · unfold orI at *
    by_cases h1 : c x y = 0 <;> by_cases h2 : c y z = 0
    · rw [if_neg (by simpa using h1)] at h; rw [if_neg (by simpa using h2)] at k
      rw [if_neg (by rw [hc.zl x y z h1, h2]; simp)]; exact hd.trans x y z h k
    · rw [if_pos h2] at k
      rw [hc.zl x y z h1, if_pos h2]; exact k
    · rw [if_pos h1] at h
      rw [← hc.zr y z x h2, if_pos h1]; exact h
    · rw [if_pos h1] at h; rw [if_pos h2] at k
      have := hc.trans x y z h k
      rw [if_pos (by omega)]; exact this
  · have h1 := hc.anti x y
    have h2 := hc.anti y x
    have h3 := hd.anti x y
    unfold orI
    by_cases h4 : c x y = 0
    · have h5 : c y x = 0 := by omega
      rw [if_neg (by simpa using h4), if_neg (by simpa using h5)]; exact h3
    · have h5 : c y x ≠ 0 := by omega
      rw [if_pos h4, if_pos h5]; exact h1
  · have h1 : c x y = 0 ∧ d x y = 0 := by
      unfold orI at h
      by_cases h4 : c x y = 0
      · rw [if_neg (by simpa using h4)] at h; exact ⟨h4, h⟩
      · rw [if_pos h4] at h; exact absurd h h4
    simp only [hc.zl x y z h1.1, hd.zl x y z h1.2]
  · have h1 : c x y = 0 ∧ d x y = 0 := by
      unfold orI at h
      by_cases h4 : c x y = 0
      · rw [if_neg (by simpa using h4)] at h; exact ⟨h4, h⟩
      · rw [if_pos h4] at h; exact absurd h h4
    simp only [hc.zr x y z h1.1, hd.zr x y z h1.2]
theorem orI_zero {a b : Int} (h : orI a b = 0) : a = 0 ∧ b = 0 := by
  unfold orI at h
  by_cases h4 : a = 0
  · rw [if_neg (by simpa using h4)] at h; exact ⟨h4, h⟩
  · rw [if_pos h4] at h; exact absurd h h4
theorem CmpOk.swo {α : Type} {c : α → α → Int} (hc : CmpOk c) : SWO (ltOf c) where
  irrefl x := by simp [ltOf, hc.refl]
  trans x y z h k := by
    simp only [ltOf, decide_eq_true_eq] at *
    exact hc.trans x y z h k
  ntrans x y z h k := by
    simp only [ltOf, decide_eq_false_iff_not] at *
    intro e
    by_cases h1 : c x y = 0
    · rw [hc.zl x y z h1] at e; exact k e
    · have : c y x < 0 := (hc.anti y x).2 (by omega)
      exact k (hc.trans y x z this e)
theorem cmpA_ok : CmpOk cmpA := CmpOk.lex (CmpOk.num _) (CmpOk.lex (CmpOk.num _) (CmpOk.lex (CmpOk.str _) (CmpOk.str _)))
theorem cmpA_zero {a b : T_impl_Atom} (h : cmpA a b = 0) : a = b := by
  obtain ⟨h1, h⟩ := orI_zero h
  obtain ⟨h2, h⟩ := orI_zero h
  obtain ⟨h3, h4⟩ := orI_zero h
  have e1 : a.Kind_ = b.Kind_ := by unfold cmpN at h1; (repeat' split at h1) <;> omega
  have e2 : a.Num_ = b.Num_ := by unfold cmpN at h2; (repeat' split at h2) <;> omega
  have e3 := bytes_inj ((cmpS_zero _ _).1 h3)
  have e4 := bytes_inj ((cmpS_zero _ _).1 h4)
  cases a; cases b; simp_all
theorem leA_iff {a b : T_impl_Atom} : leA a b = true ↔ cmpA a b ≤ 0 := by
  have := cmpA_ok.anti b a
  unfold leA
  simp only [Bool.not_eq_true', decide_eq_false_iff_not]
  omega
theorem leA_trans (a b c : T_impl_Atom) (h : leA a b = true) (k : leA b c = true) : leA a c = true := by
  rw [leA_iff] at *
  by_cases h1 : cmpA a b = 0
  · rw [cmpA_zero h1]; exact k
  · by_cases h2 : cmpA b c = 0
    · rw [← cmpA_zero h2]; exact h
    · have := cmpA_ok.trans a b c (by omega) (by omega)
      omega
theorem leA_total (a b : T_impl_Atom) : (leA a b || leA b a) = true := by
  rw [Bool.or_eq_true, leA_iff, leA_iff]
  have := cmpA_ok.anti b a
  omega
theorem leA_anti (a b : T_impl_Atom) (h : leA a b = true) (k : leA b a = true) : a = b := by
  rw [leA_iff] at *
  have := cmpA_ok.anti a b
  exact cmpA_zero (by omega)
end Go.G36.AbAnc
