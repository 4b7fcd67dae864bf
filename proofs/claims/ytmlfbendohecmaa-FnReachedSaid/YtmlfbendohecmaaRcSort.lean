/- What is reached sorted by group and member. -/
import Derived.Test.YtmlfbendohecmaaRcCmp
import Derived.Test.YtmlfbendohecmaaKzr
import Derived.Shelf.SlSortCmp.NoneTotal
set_option linter.all false
set_option maxRecDepth 20000
namespace Go.Proofs
open Go.Shelf
def Try.sortReach_ren : Go.Shelf.Ren := ⟨fun | 6 => 49 | 15 => 64 | 14 => 63 | 28 => 79 | 29 => 80 | 20 => 71 | 21 => 72 | 22 => 73 | 23 => 74 | 24 => 75 | 25 => 76 | 26 => 77 | 27 => 78 | 46 => 82 | 47 => 83 | 48 => 84 | 49 => 85 | 50 => 86 | 57 => 87 | n => n, fun | 22 => 24 | 24 => 35 | 25 => 71 | 3 => 3 | 39 => 66 | 0 => 0 | 53 => 91 | 55 => 59 | 4 => 4 | 46 => 85 | 45 => 84 | 50 => 48 | 5 => 5 | 9 => 9 | 66 => 94 | 70 => 98 | 76 => 100 | 77 => 101 | n => n, fun | n => n⟩
theorem Try.sortReach : Go.Proofs.SlLaysF0.n6 Try.prog Try.sortReach_ren := {
  mixed := by kernel_rfl
  f6 := ⟨Try.f49.name, by decide, Try.func49.trans (congrArg some (by kernel_rfl))⟩
  f14 := ⟨Try.f63.name, by decide, Try.func63.trans (congrArg some (by kernel_rfl))⟩
  f15 := Try.func64.trans (congrArg some (by kernel_rfl))
  f20 := ⟨Try.f71.name, by decide, Try.func71.trans (congrArg some (by kernel_rfl))⟩
  f21 := ⟨Try.f72.name, by decide, Try.func72.trans (congrArg some (by kernel_rfl))⟩
  f22 := ⟨Try.f73.name, by decide, Try.func73.trans (congrArg some (by kernel_rfl))⟩
  f23 := ⟨Try.f74.name, by decide, Try.func74.trans (congrArg some (by kernel_rfl))⟩
  f24 := ⟨Try.f75.name, by decide, Try.func75.trans (congrArg some (by kernel_rfl))⟩
  f25 := ⟨Try.f76.name, by decide, Try.func76.trans (congrArg some (by kernel_rfl))⟩
  f26 := ⟨Try.f77.name, by decide, Try.func77.trans (congrArg some (by kernel_rfl))⟩
  f27 := ⟨Try.f78.name, by decide, Try.func78.trans (congrArg some (by kernel_rfl))⟩
  f28 := Try.func79.trans (congrArg some (by kernel_rfl))
  f29 := Try.func80.trans (congrArg some (by kernel_rfl))
  f46 := ⟨Try.f82.name, by decide, Try.func82.trans (congrArg some (by kernel_rfl))⟩
  f47 := Try.func83.trans (congrArg some (by kernel_rfl))
  f48 := Try.func84.trans (congrArg some (by kernel_rfl))
  f49 := ⟨Try.f85.name, by decide, Try.func85.trans (congrArg some (by kernel_rfl))⟩
  f50 := ⟨Try.f86.name, by decide, Try.func86.trans (congrArg some (by kernel_rfl))⟩
  f57 := ⟨Try.f87.name, by decide, Try.func87.trans (congrArg some (by kernel_rfl))⟩
  t0 := Try.underlying0
  a0 := Try.isAgg0
  z0 := Try.sizeOf0
  v0 := Try.zeroValue0
  t3 := Try.underlying3
  a3 := Try.isAgg3
  z3 := Try.sizeOf3
  v3 := Try.zeroValue3
  t4 := Try.underlying4
  a4 := Try.isAgg4
  z4 := Try.sizeOf4
  v4 := Try.zeroValue4
  t5 := Try.underlying5
  a5 := Try.isAgg5
  z5 := Try.sizeOf5
  v5 := Try.zeroValue5
  t9 := Try.underlying9
  a9 := Try.isAgg9
  z9 := Try.sizeOf9
  v9 := Try.zeroValue9
  t22 := Try.underlying24
  a22 := Try.isAgg24
  z22 := Try.sizeOf24
  v22 := Try.zeroValue24
  t25 := Try.underlying71
  a25 := Try.isAgg71
  z25 := Try.sizeOf71
  v25 := Try.zeroValue71
  t39 := Try.underlying66
  a39 := Try.isAgg66
  z39 := Try.sizeOf66
  v39 := Try.zeroValue66
  t45 := Try.underlying84
  a45 := Try.isAgg84
  z45 := Try.sizeOf84
  v45 := Try.zeroValue84
  t46 := Try.underlying85
  a46 := Try.isAgg85
  z46 := Try.sizeOf85
  v46 := Try.zeroValue85
  t50 := Try.underlying48
  a50 := Try.isAgg48
  z50 := Try.sizeOf48
  v50 := Try.zeroValue48
  t53 := Try.underlying91
  a53 := Try.isAgg91
  z53 := Try.sizeOf91
  v53 := Try.zeroValue91
  t55 := Try.underlying59
  a55 := Try.isAgg59
  z55 := Try.sizeOf59
  v55 := Try.zeroValue59
  t66 := Try.underlying94
  a66 := Try.isAgg94
  z66 := Try.sizeOf94
  v66 := Try.zeroValue94
  t70 := Try.underlying98
  a70 := Try.isAgg98
  z70 := Try.sizeOf98
  v70 := Try.zeroValue98
  t76 := Try.underlying100
  a76 := Try.isAgg100
  z76 := Try.sizeOf100
  v76 := Try.zeroValue100
  t77 := Try.underlying101
  a77 := Try.isAgg101
  z77 := Try.sizeOf101
  v77 := Try.zeroValue101 }
end Go.Proofs
namespace Go.G36.RcAnc
open Go Go.Sort Go.Proofs Go.G36 Go.G36.RC

theorem bl_eq : ∀ (x y : List UInt8), Op.bytesLess x y = decide (x < y)
  | [], [] => by simp [Op.bytesLess]
  | _ :: _, [] => by simp [Op.bytesLess]
  | [], _ :: _ => by simp [Op.bytesLess]
  | a :: x, b :: y => by
    rw [Op.bytesLess, bl_eq x y]
    simp only [List.cons_lt_cons_iff]
    by_cases h1 : a < b <;> by_cases h2 : a = b <;> by_cases h3 : x < y <;> simp [h1, h2, h3]
theorem lt3 (a b : List UInt8) : a < b ∨ a = b ∨ b < a := by
  by_cases h1 : a < b
  · exact .inl h1
  · by_cases h2 : b < a
    · exact .inr (.inr h2)
    · exact .inr (.inl (List.le_antisymm (List.not_lt.1 h2) (List.not_lt.1 h1)))
theorem cmpS_neg (a b : ByteArray) : cmpS a b < 0 ↔ a.toList < b.toList := by
  unfold cmpS
  rw [bl_eq]
  by_cases h : a.toList < b.toList
  · simp [h]
  · by_cases h2 : a.toList = b.toList <;> simp [h, h2, List.lt_irrefl]
theorem cmpS_zero (a b : ByteArray) : cmpS a b = 0 ↔ a.toList = b.toList := by
  unfold cmpS
  rw [bl_eq]
  by_cases h : a.toList < b.toList
  · have : a.toList ≠ b.toList := fun e => by rw [e] at h; exact List.lt_irrefl _ h
    simp [h, this]
  · by_cases h2 : a.toList = b.toList <;> simp [h, h2]
theorem bytes_inj {a b : ByteArray} (h : a.toList = b.toList) : a = b := by
  rw [Lib.toList_data, Lib.toList_data] at h
  cases a; cases b
  simpa using h

structure CmpOk {α : Type} (c : α → α → Int) : Prop where
  refl : ∀ x, c x x = 0
  trans : ∀ x y z, c x y < 0 → c y z < 0 → c x z < 0
  anti : ∀ x y, c x y < 0 ↔ 0 < c y x
  zl : ∀ x y z, c x y = 0 → c x z = c y z
  zr : ∀ x y z, c x y = 0 → c z x = c z y
theorem CmpOk.str {α : Type} (f : α → ByteArray) : CmpOk fun x y => cmpS (f x) (f y) := by
  refine ⟨fun x => (cmpS_zero _ _).2 rfl, fun x y z h k => (cmpS_neg _ _).2 (List.lt_trans ((cmpS_neg _ _).1 h) ((cmpS_neg _ _).1 k)), fun x y => ?_, fun x y z h => ?_, fun x y z h => ?_⟩
  · rw [cmpS_neg]
    rcases lt3 (f x).toList (f y).toList with h | h | h
    · have h1 : ¬ cmpS (f y) (f x) < 0 := fun e => List.lt_irrefl _ (List.lt_trans h ((cmpS_neg _ _).1 e))
      have h2 : cmpS (f y) (f x) ≠ 0 := fun e => by rw [(cmpS_zero _ _).1 e] at h; exact List.lt_irrefl _ h
      exact ⟨fun _ => by omega, fun _ => h⟩
    · have h2 : cmpS (f y) (f x) = 0 := (cmpS_zero _ _).2 h.symm
      rw [h2, h]
      exact ⟨fun e => absurd e (List.lt_irrefl _), fun e => absurd e (by omega)⟩
    · have h1 := (cmpS_neg _ _).2 h
      exact ⟨fun e => absurd (List.lt_trans e h) (List.lt_irrefl _), fun e => by omega⟩
  · rw [bytes_inj ((cmpS_zero _ _).1 h)]
  · rw [bytes_inj ((cmpS_zero _ _).1 h)]
theorem CmpOk.lex {α : Type} {c d : α → α → Int} (hc : CmpOk c) (hd : CmpOk d) : CmpOk fun x y => orI (c x y) (d x y) := by
  refine ⟨fun x => by simp [orI, hc.refl, hd.refl], fun x y z h k => ?_, fun x y => ?_, fun x y z h => ?_, fun x y z h => ?_⟩
  · unfold orI at *
    by_cases h1 : c x y = 0 <;> by_cases h2 : c y z = 0
    · rw [if_neg (by simpa using h1)] at h; rw [if_neg (by simpa using h2)] at k
      rw [if_neg (by rw [hc.zl x y z h1, h2]; simp)]; exact hd.trans x y z h k
    · rw [if_pos h2] at k
      rw [hc.zl x y z h1, if_pos h2]; exact k
    · rw [if_pos h1] at h
      rw [← hc.zr y z x h2, if_pos h1]; exact h
    · rw [if_pos h1] at h; rw [if_pos h2] at k
      have := hc.trans x y z h k
      rw [if_pos (by omega)]; exact this
  · have h1 := hc.anti x y
    have h2 := hc.anti y x
    have h3 := hd.anti x y
    unfold orI
    by_cases h4 : c x y = 0
    · have h5 : c y x = 0 := by omega
      rw [if_neg (by simpa using h4), if_neg (by simpa using h5)]; exact h3
    · have h5 : c y x ≠ 0 := by omega
      rw [if_pos h4, if_pos h5]; exact h1
  · have h1 : c x y = 0 ∧ d x y = 0 := by
      unfold orI at h
      by_cases h4 : c x y = 0
      · rw [if_neg (by simpa using h4)] at h; exact ⟨h4, h⟩
      · rw [if_pos h4] at h; exact absurd h h4
    simp only [hc.zl x y z h1.1, hd.zl x y z h1.2]
  · have h1 : c x y = 0 ∧ d x y = 0 := by
      unfold orI at h
      by_cases h4 : c x y = 0
      · rw [if_neg (by simpa using h4)] at h; exact ⟨h4, h⟩
      · rw [if_pos h4] at h; exact absurd h h4
    simp only [hc.zr x y z h1.1, hd.zr x y z h1.2]
theorem orI_zero {a b : Int} (h : orI a b = 0) : a = 0 ∧ b = 0 := by
  unfold orI at h
  by_cases h4 : a = 0
  · rw [if_neg (by simpa using h4)] at h; exact ⟨h4, h⟩
  · rw [if_pos h4] at h; exact absurd h h4
theorem CmpOk.swo {α : Type} {c : α → α → Int} (hc : CmpOk c) : SWO (ltOf c) where
  irrefl x := by simp [ltOf, hc.refl]
  trans x y z h k := by
    simp only [ltOf, decide_eq_true_eq] at *
    exact hc.trans x y z h k
  ntrans x y z h k := by
    simp only [ltOf, decide_eq_false_iff_not] at *
    intro e
    by_cases h1 : c x y = 0
    · rw [hc.zl x y z h1] at e; exact k e
    · have : c y x < 0 := (hc.anti y x).2 (by omega)
      exact k (hc.trans y x z this e)
theorem cmpR_ok : CmpOk cmpR := CmpOk.lex (CmpOk.str _) (CmpOk.str _)
theorem cmpR_zero {a b : T_impl_Reach} (h : cmpR a b = 0) : keyR a = keyR b := by
  obtain ⟨h1, h2⟩ := orI_zero h
  have e1 := (cmpS_zero _ _).1 h1
  have e2 := (cmpS_zero _ _).1 h2
  simp [keyR, e1, e2]
theorem leR_iff {a b : T_impl_Reach} : leR a b = true ↔ cmpR a b ≤ 0 := by
  have := cmpR_ok.anti b a
  unfold leR
  simp only [Bool.not_eq_true', decide_eq_false_iff_not]
  omega
theorem leR_trans (a b c : T_impl_Reach) (h : leR a b = true) (k : leR b c = true) : leR a c = true := by
  rw [leR_iff] at *
  by_cases h1 : cmpR a b = 0
  · rw [cmpR_ok.zl a b c h1]; exact k
  · by_cases h2 : cmpR b c = 0
    · rw [← cmpR_ok.zr b c a h2]; exact h
    · have := cmpR_ok.trans a b c (by omega) (by omega)
      omega
theorem leR_total (a b : T_impl_Reach) : (leR a b || leR b a) = true := by
  rw [Bool.or_eq_true, leR_iff, leR_iff]
  have := cmpR_ok.anti b a
  omega
theorem leR_anti {a b : T_impl_Reach} (h : leR a b = true) (k : leR b a = true) : keyR a = keyR b := by
  rw [leR_iff] at *
  have := cmpR_ok.anti a b
  exact cmpR_zero (by omega)
theorem key_inj {xs : List T_impl_Reach} (h : (xs.map keyR).Nodup) : ∀ a, a ∈ xs → ∀ b, b ∈ xs → keyR a = keyR b → a = b := by
  intro a ha b hb hk
  obtain ⟨i, hi, rfl⟩ := List.mem_iff_getElem.1 ha
  obtain ⟨j, hj, rfl⟩ := List.mem_iff_getElem.1 hb
  have hp := List.pairwise_iff_getElem.1 h
  rcases Nat.lt_trichotomy i j with l | l | l
  · exact (hp i j (by simpa using hi) (by simpa using hj) l (by rw [List.getElem_map, List.getElem_map]; exact hk)).elim
  · subst l; rfl
  · exact (hp j i (by simpa using hj) (by simpa using hi) l (by rw [List.getElem_map, List.getElem_map]; exact hk.symm)).elim
/-- What a sort gives hangs on what is sorted alone. -/
theorem sortR_perm {xs ys zs : List T_impl_Reach} (hp : ys.Perm xs) (h : sortR xs = some zs) : sortR ys = some zs := by
  unfold sortR at *
  split at h
  · rename_i hn
    have hn2 : (ys.map keyR).Nodup := ((hp.map keyR).nodup_iff).2 hn
    rw [if_pos hn2]
    obtain ⟨h1, rfl⟩ := sortO_s h
    unfold sortO
    rw [if_pos (by rw [hp.length_eq]; exact h1)]
    congr 1
    have hp2 : (ys.mergeSort leR).Perm (xs.mergeSort leR) := ((List.mergeSort_perm _ _).trans hp).trans (List.mergeSort_perm _ _).symm
    refine List.Perm.eq_of_pairwise (le := fun a b => leR a b = true) (fun a b ha hb h k => key_inj hn a ?_ b ?_ (leR_anti h k)) (List.pairwise_mergeSort leR_trans leR_total _) (List.pairwise_mergeSort leR_trans leR_total _) hp2
    · exact hp.subset ((List.mergeSort_perm _ _).subset ha)
    · exact (List.mergeSort_perm _ _).subset hb
  · cases h
end Go.G36.RcAnc
