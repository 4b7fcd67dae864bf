/- FnReached, plain part: names, texts in order, loops, draws (out of the earlier claims' plain parts). -/
import Derived.Test.YtmlfbendohecmaaRC
import Derived.Test.YtmlfbendohecmaaSPa
namespace Go.G36.RC
set_option maxRecDepth 20000
set_option maxHeartbeats 2000000
set_option linter.all false
open Go Go.G36 Go.Proofs Go.G36.RcAnc
theorem tl_beq (u v : ByteArray) : (u.toList == v.toList) = true ↔ u = v := by
  rw [beq_iff_eq]
  constructor
  · intro h
    rw [Lib.toList_data, Lib.toList_data] at h
    cases u; cases v
    congr 1
    exact Array.toList_inj.1 h
  · rintro rfl; rfl
def big : Nat := 9223372036854775807
def outU {R : Type} : Option R → Unit ⊕ R
  | some r => .inr r
  | none => .inl ()
def digitP (b : Int) : Bool := decide (b ≥ 48) && decide (b ≤ 57)
def letterP (b : Int) : Bool := (decide (b ≥ 97) && decide (b ≤ 122)) || (decide (b ≥ 65) && decide (b ≤ 90))
def wordP (b : Int) : Bool := (letterP b || digitP b) || (b == 95)
def goodP (a : ByteArray) : Bool := !(decide ((a.size : Int) < 1) || decide ((a.size : Int) > 30)) && !(digitP ((a.data.toList.headD 0).toNat : Int)) && a.data.toList.all fun b => wordP (b.toNat : Int)
theorem size_data (a : ByteArray) : a.data.toList.length = a.size := Array.length_toList
theorem first_all {α : Type} (p : α → Bool) : ∀ (l : List α) (i : Nat), firstG (fun _ e => cond (p e) none (some false)) l i = if l.all p then none else some false
  | [], i => rfl
  | a :: r, i => by
    rw [firstG, List.all_cons]
    cases hb : p a with
    | true => simp [first_all p r (i + 1)]
    | false => simp
theorem spec_good (a : ByteArray) : spec_GoodName a = some (goodP a) := by
  by_cases hs : (decide ((a.size : Int) < 1) || decide ((a.size : Int) > 30)) = true
  · unfold spec_GoodName goodP
    simp only [hs, gdO, Bool.not_true, cond_false, Option.bind_some, Bool.true_or, cond_true, Bool.false_and]
  · have hs' : (decide ((a.size : Int) < 1) || decide ((a.size : Int) > 30)) = false := by simpa using hs
    have hsz : 1 ≤ a.size ∧ a.size ≤ 30 := by simp at hs'; omega
    have hlen := size_data a
    obtain ⟨b, r, hbr⟩ : ∃ b r, a.data.toList = b :: r := by
      cases h : a.data.toList with
      | nil => rw [h] at hlen; simp at hlen; omega
      | cons b r => exact ⟨b, r, rfl⟩
    have h0 : idxS a 0 = some (b.toNat : Int) := idxS_nat (i := 0) (by rw [hbr]; rfl)
    have h := loop_first a.data.toList (spec_GoodName_l1 a) (fun _ e => cond (wordP (e.toNat : Int)) none (some false)) outU (fun i c hc => by
      have hi := (List.getElem?_eq_some_iff.1 hc).1
      have hx := idxS_nat hc
      simp only [spec_GoodName_l1, show decide ((i : Int) < (a.size : Int)) = true from decide_eq_true (by omega), cond_true, hx, Option.bind_some, spec_l1Letter, spec_l1Digit, gdO, wrap_succ (i := i) (by omega)]
      unfold wordP letterP digitP
      generalize (decide ((c.toNat : Int) ≥ 97) && decide ((c.toNat : Int) ≤ 122) || decide ((c.toNat : Int) ≥ 65) && decide ((c.toNat : Int) ≤ 90)) = L
      cases L
      · simp only [Bool.not_false, cond_true, Option.bind_some, Bool.true_and, Bool.false_or]
        generalize (decide ((c.toNat : Int) ≥ 48) && decide ((c.toNat : Int) ≤ 57)) = D
        generalize (c.toNat : Int) = z
        cases D <;> cases h95 : (z == 95) <;> simp [h95, bne, outU]
      · simp only [Bool.not_true, cond_false, Option.bind_some, Bool.false_and, Bool.true_or]
        simp [outU]) (by simp [spec_GoodName_l1, hlen, outU]) a.data.toList.length 0 (by omega)
    simp only [List.drop_zero] at h
    rw [first_all (fun e : UInt8 => wordP (e.toNat : Int))] at h
    unfold spec_GoodName goodP
    simp only [hs', gdO, Bool.not_false, cond_true, h0, Option.bind_some, spec_l1Digit, Bool.false_or, Bool.true_and, hbr, List.headD_cons]
    rw [← hbr, show ((0 : Int)) = ((0 : Nat) : Int) from rfl, h]
    unfold digitP
    generalize (decide ((b.toNat : Int) ≥ 48) && decide ((b.toNat : Int) ≤ 57)) = D
    cases D <;> cases hall : (a.data.toList.all fun e => wordP (e.toNat : Int)) <;> simp [outU]
theorem impl_word (b : Int) : impl_ywordByte b = some (wordP b) := by
  unfold impl_ywordByte impl_yletter impl_ydigit wordP letterP digitP gdO
  simp only [Option.bind_some]
  generalize (decide (b ≥ 97) && decide (b ≤ 122) || decide (b ≥ 65) && decide (b ≤ 90)) = L
  generalize (decide (b ≥ 48) && decide (b ≤ 57)) = D
  cases L <;> cases D <;> simp
theorem impl_good (a : ByteArray) : impl_GoodName a = some (goodP a) := by
  have hlen := size_data a
  have he : (a.toList == e0.toList) = decide ((a.size : Int) < 1) := by
    rw [ByteArray.toList_eq, ByteArray.toList_eq]
    cases h : a.data.toList with
    | nil => rw [h] at hlen; simp at hlen; simp [← hlen]
    | cons b r => rw [h] at hlen; simp at hlen; simp; omega
  by_cases hs : (decide ((a.size : Int) < 1) || decide ((a.size : Int) > 30)) = true
  · unfold impl_GoodName goodP
    rw [he]
    simp only [hs, gdO, Bool.not_true, cond_false, Option.bind_some, Bool.true_or, cond_true, Bool.false_and, impl_ydigit]
  · have hs' : (decide ((a.size : Int) < 1) || decide ((a.size : Int) > 30)) = false := by simpa using hs
    have hsz : 1 ≤ a.size ∧ a.size ≤ 30 := by simp at hs'; omega
    obtain ⟨b, r, hbr⟩ : ∃ b r, a.data.toList = b :: r := by
      cases h : a.data.toList with
      | nil => rw [h] at hlen; simp at hlen; omega
      | cons b r => exact ⟨b, r, rfl⟩
    have h0 : idxS a 0 = some (b.toNat : Int) := idxS_nat (i := 0) (by rw [hbr]; rfl)
    have h := loop_first a.data.toList (impl_GoodName_l1 a) (fun _ e => cond (wordP (e.toNat : Int)) none (some false)) outU (fun i c hc => by
      have hi := (List.getElem?_eq_some_iff.1 hc).1
      have hx := idxS_nat hc
      simp only [impl_GoodName_l1, show decide ((i : Int) < (a.size : Int)) = true from decide_eq_true (by omega), cond_true, hx, Option.bind_some, impl_word, wrap_succ (i := i) (by omega)]
      generalize wordP (c.toNat : Int) = W
      cases W <;> simp [outU]) (by simp [impl_GoodName_l1, hlen, outU]) a.data.toList.length 0 (by omega)
    simp only [List.drop_zero] at h
    rw [first_all (fun e : UInt8 => wordP (e.toNat : Int))] at h
    unfold impl_GoodName goodP
    rw [he]
    simp only [hs', gdO, Bool.not_false, cond_true, h0, Option.bind_some, impl_ydigit, Bool.false_or, Bool.true_and, hbr, List.headD_cons]
    rw [← hbr, show ((0 : Int)) = ((0 : Nat) : Int) from rfl, h]
    unfold digitP
    generalize (decide ((b.toNat : Int) ≥ 48) && decide ((b.toNat : Int) ≤ 57)) = D
    cases D <;> cases hall : (a.data.toList.all fun e => wordP (e.toNat : Int)) <;> simp [outU]
def sgn (a b : Int) : Int := if a < b then -1 else if a > b then 1 else 0
theorem cmpNum_eq (a b : Int) : spec_l1CmpNum a b = some (sgn a b) := by
  unfold spec_l1CmpNum sgn
  by_cases h : a < b
  · simp [h]
  · by_cases h2 : a > b <;> simp [h, h2]
def cmpB : List UInt8 → List UInt8 → Int
  | a :: x, b :: y => if a = b then cmpB x y else sgn (a.toNat : Int) (b.toNat : Int)
  | x, y => sgn (x.length : Int) (y.length : Int)
theorem cmpB_neg : ∀ (x y : List UInt8), cmpB x y < 0 ↔ Op.bytesLess x y = true
  | [], [] => by simp [cmpB, sgn, Op.bytesLess]
  | [], b :: y => by
    have : (0 : Int) < ((b :: y).length : Int) := by simp
    have e : cmpB [] (b :: y) = -1 := by
      show sgn (([] : List UInt8).length : Int) ((b :: y).length : Int) = -1
      unfold sgn; rw [if_pos (by simp)]
    rw [e]; simp [Op.bytesLess]
  | a :: x, [] => by
    have e : cmpB (a :: x) [] = 1 := by
      show sgn ((a :: x).length : Int) (([] : List UInt8).length : Int) = 1
      unfold sgn
      rw [if_neg (by simp; omega), if_pos (by simp)]
    rw [e]; simp [Op.bytesLess]
  | a :: x, b :: y => by
    have hc : cmpB (a :: x) (b :: y) = if a = b then cmpB x y else sgn (a.toNat : Int) (b.toNat : Int) := by simp only [cmpB]
    rw [hc]
    by_cases h : a = b
    · subst h
      have : ¬ a < a := UInt8.lt_irrefl a
      rw [if_pos rfl, cmpB_neg x y]
      simp [Op.bytesLess, this]
    · rw [if_neg h]
      unfold sgn
      have h2 : (a == b) = false := by simpa using h
      by_cases hl : a < b
      · have : (a.toNat : Int) < (b.toNat : Int) := by have := UInt8.lt_iff_toNat_lt.1 hl; omega
        rw [if_pos this]
        simp [Op.bytesLess, hl]
      · have h1 : ¬ (a.toNat : Int) < (b.toNat : Int) := fun h => hl (UInt8.lt_iff_toNat_lt.2 (by omega))
        rw [if_neg h1]
        simp only [Op.bytesLess, hl, decide_false, h2, Bool.false_and, Bool.or_false]
        split <;> simp
theorem byte_lt (b : UInt8) : (b.toNat : Int) < 256 := by have := b.toNat_lt; omega
theorem cmpText_eq (a b : ByteArray) (ha : a.size < big) (hb : b.size < big) : spec_l1CmpText a b = some (cmpB a.data.toList b.data.toList) := by
  unfold big at ha hb
  have hla := size_data a
  have hlb := size_data b
  let zs := a.data.toList.zip b.data.toList
  have hz : zs.length = min a.size b.size := by show (List.zip _ _).length = _; rw [List.length_zip, hla, hlb]
  have h := loop_first zs (spec_l1CmpText_l1 a b) (fun _ e => if e.1 = e.2 then none else some (sgn (e.1.toNat : Int) (e.2.toNat : Int))) outU (fun i c hc => by
    have hi := (List.getElem?_eq_some_iff.1 hc).1
    obtain ⟨c1, c2⟩ := c
    have hcc : a.data.toList[i]? = some c1 ∧ b.data.toList[i]? = some c2 := by
      have := hc
      simp only [zs, List.getElem?_zip_eq_some] at this
      exact this
    have hx := idxS_nat hcc.1
    have hy := idxS_nat hcc.2
    simp only [spec_l1CmpText_l1, show decide ((i : Int) < (a.size : Int)) = true from decide_eq_true (by omega), show decide ((i : Int) < (b.size : Int)) = true from decide_eq_true (by omega), Bool.and_self, cond_true, hx, hy, Option.bind_some,
      wrap_succ (i := i) (by omega), IntWalk.i64_in (c1.toNat : Int) (by have := byte_lt c1; omega), IntWalk.i64_in (c2.toNat : Int) (by have := byte_lt c2; omega), cmpNum_eq]
    by_cases e : c1 = c2
    · subst e; simp [outU]
    · have : ((c1.toNat : Int) != (c2.toNat : Int)) = true := by
        simp only [bne_iff_ne, ne_eq]
        intro h
        exact e (UInt8.toNat_inj.1 (by omega))
      simp [e, this, outU]) (by
    simp only [spec_l1CmpText_l1]
    have : (decide ((zs.length : Int) < (a.size : Int)) && decide ((zs.length : Int) < (b.size : Int))) = false := by
      rw [hz]
      simp only [Bool.and_eq_false_iff, decide_eq_false_iff_not]
      omega
    rw [this]; rfl) zs.length 0 (by omega)
  simp only [List.drop_zero] at h
  have key : ∀ (x y : List UInt8) (i : Nat), cmpB x y = (match firstG (fun (_ : Nat) (e : UInt8 × UInt8) => if e.1 = e.2 then none else some (sgn (e.1.toNat : Int) (e.2.toNat : Int))) (x.zip y) i with | some r => r | none => sgn (x.length : Int) (y.length : Int)) := by
    intro x
    induction x with
    | nil => intro y i; cases y <;> simp [cmpB, firstG]
    | cons p x ih =>
      intro y i
      cases y with
      | nil => simp [cmpB, firstG]
      | cons q y =>
        simp only [List.zip_cons_cons, firstG, cmpB]
        by_cases e : p = q
        · rw [if_pos e, if_pos e]
          simp only
          rw [ih y (i + 1)]
          cases firstG _ (x.zip y) (i + 1) with
          | some r => rfl
          | none =>
            simp only [sgn, List.length_cons]
            have e1 : ((x.length : Int) < (y.length : Int)) ↔ (((x.length + 1 : Nat) : Int) < ((y.length + 1 : Nat) : Int)) := by omega
            have e2 : ((x.length : Int) > (y.length : Int)) ↔ (((x.length + 1 : Nat) : Int) > ((y.length + 1 : Nat) : Int)) := by omega
            simp only [e1, e2]
        · rw [if_neg e, if_neg e]
  rw [key a.data.toList b.data.toList 0, hla, hlb]
  unfold spec_l1CmpText
  rw [show ((0 : Int)) = ((0 : Nat) : Int) from rfl, h]
  rw [show a.data.toList.zip b.data.toList = zs from rfl]
  generalize firstG (fun (_ : Nat) (e : UInt8 × UInt8) => if e.1 = e.2 then none else some (sgn (e.1.toNat : Int) (e.2.toNat : Int))) zs 0 = F
  cases F with
  | some r => simp [outU]
  | none => simp [outU, cmpNum_eq]
theorem loop_find {α R : Type} (xs : List α) (step : Int → Option (Int ⊕ (Unit ⊕ R))) (p : α → Bool) (out : α → R)
    (hs : ∀ (i : Nat) (a : α), xs[i]? = some a → step (i : Int) = some (cond (p a) (.inr (.inr (out a))) (.inl ((i : Int) + 1)))) (he : step (xs.length : Int) = some (.inr (.inl ()))) :
    loopO step 0 = some (match xs.find? p with | some a => .inr (out a) | none => .inl ()) := by
  have h := loop_first xs step (fun _ a => cond (p a) (some (out a)) none) (fun o => match o with | some r => .inr r | none => .inl ()) (fun i a ha => by
    rw [hs i a ha]
    cases p a <;> rfl) he xs.length 0 (by omega)
  simp only [List.drop_zero] at h
  have key : ∀ (l : List α) (i : Nat), firstG (fun _ a => cond (p a) (some (out a)) none) l i = (l.find? p).map out := by
    intro l
    induction l with
    | nil => intro i; rfl
    | cons a r ih =>
      intro i
      rw [firstG, List.find?_cons]
      cases hb : p a with
      | true => rfl
      | false => simpa using ih (i + 1)
  rw [show ((0 : Int)) = ((0 : Nat) : Int) from rfl, h, key]
  cases xs.find? p <;> rfl
def allI {α : Type} (b : Nat → α → Bool) : List α → Nat → Bool
  | [], _ => true
  | a :: r, i => b i a && allI b r (i + 1)
theorem loop_allI {α : Type} (xs : List α) (step : Int → Option (Int ⊕ (Unit ⊕ Bool))) (b : Nat → α → Bool)
    (hs : ∀ (i : Nat) (a : α), xs[i]? = some a → step (i : Int) = some (cond (b i a) (.inl ((i : Int) + 1)) (.inr (.inr false)))) (he : step (xs.length : Int) = some (.inr (.inl ()))) :
    loopO step 0 = some (cond (allI b xs 0) (.inl ()) (.inr false)) := by
  have h := loop_first xs step (fun i a => cond (b i a) none (some false)) outU (fun i a ha => by
    rw [hs i a ha]
    cases b i a <;> rfl) he xs.length 0 (by omega)
  simp only [List.drop_zero] at h
  have key : ∀ (l : List α) (i : Nat), firstG (fun i a => cond (b i a) none (some false)) l i = cond (allI b l i) none (some false) := by
    intro l
    induction l with
    | nil => intro i; rfl
    | cons a r ih =>
      intro i
      rw [firstG, allI]
      cases hb : b i a with
      | true => simpa using ih (i + 1)
      | false => rfl
  rw [show ((0 : Int)) = ((0 : Nat) : Int) from rfl, h, key]
  cases allI b xs 0 <;> rfl
theorem allI_congr {α : Type} {b b' : Nat → α → Bool} : ∀ (l : List α) (i : Nat), (∀ (k : Nat) (a : α), l[k]? = some a → b (i + k) a = b' (i + k) a) → allI b l i = allI b' l i
  | [], _, _ => rfl
  | a :: r, i, h => by
    have h1 : b i a = b' i a := h 0 a rfl
    have h2 := allI_congr (b := b) (b' := b') r (i + 1) fun k x hx => by
      have := h (k + 1) x (by simpa using hx)
      rw [show i + (k + 1) = i + 1 + k by omega] at this
      exact this
    rw [allI, allI, h1, h2]
theorem ltn {i n : Nat} (h : i < n) : decide ((i : Int) < (n : Int)) = true := decide_eq_true (by omega)
theorem gtz {i : Nat} (h : 0 < i) : decide ((i : Int) > 0) = true := decide_eq_true (by omega)
theorem pre {i : Nat} (h : 0 < i) (hb : i < 9223372036854775807) : IntKind.i64.wrap ((i : Int) - 1) = ((i - 1 : Nat) : Int) := by rw [IntWalk.i64_in _ (by omega)]; omega
theorem allI_all {α : Type} (p : α → Bool) : ∀ (l : List α) (i : Nat), allI (fun _ a => p a) l i = l.all p
  | [], _ => rfl
  | a :: r, i => by rw [allI, List.all_cons, allI_all p r (i + 1)]
theorem good_le {a : ByteArray} (h : goodP a = true) : 1 ≤ a.size ∧ a.size ≤ 30 := by
  unfold goodP at h
  simp only [Bool.and_eq_true, Bool.not_eq_true', Bool.or_eq_false_iff, decide_eq_false_iff_not] at h
  omega
theorem loop_app {α β : Type} (B : Nat) (xs : List α) (step : (List β × Int) → Option ((List β × Int) ⊕ List β)) (g : α → List β) (l0 : List β) (K : Nat) (hg : ∀ a, a ∈ xs → (g a).length ≤ K) (hb : l0.length + xs.length * K ≤ B)
    (hs : ∀ (i : Nat) (a : α) (l : List β), xs[i]? = some a → l.length ≤ B → step (l, (i : Int)) = some (.inl (l ++ g a, (i : Int) + 1))) (he : ∀ l, step (l, (xs.length : Int)) = some (.inr l)) : loopO step (l0, 0) = some (l0 ++ xs.flatMap g) := by
  have key : Ok (loopO step (l0, 0)) fun q => q = l0 ++ xs.flatMap g := by
    refine Ok.loop (fun k s => ∃ i : Nat, i + k = xs.length ∧ s = (l0 ++ (xs.take i).flatMap g, (i : Int)) ∧ (l0 ++ (xs.take i).flatMap g).length ≤ l0.length + i * K) ?_ (n := xs.length) ⟨0, by omega, by simp, by simp⟩
    rintro k s ⟨i, hi, rfl, hl⟩
    by_cases hil : i < xs.length
    · have hK : i * K ≤ xs.length * K := Nat.mul_le_mul_right _ (Nat.le_of_lt hil)
      have e : (xs.take (i + 1)).flatMap g = (xs.take i).flatMap g ++ g xs[i] := by rw [List.take_succ_eq_append_getElem hil, List.flatMap_append]; simp
      rw [hs i xs[i] _ (by simp [hil]) (by omega)]
      refine Ok.some ⟨k - 1, by omega, i + 1, by omega, ?_, ?_⟩
      · rw [e, List.append_assoc]; rfl
      · rw [e, ← List.append_assoc, List.length_append, Nat.add_mul]
        have := hg xs[i] (List.getElem_mem hil)
        omega
    · have : i = xs.length := by omega
      subst this
      rw [he, List.take_length]
      exact Ok.some rfl
  obtain ⟨q, e, rfl⟩ := key
  exact e
def gB (a : ByteArray) : Bool := goodP a && (decide (((a.data.toList.headD 0).toNat : Int) ≥ 65) && decide (((a.data.toList.headD 0).toNat : Int) ≤ 90))
theorem idxS_head {a : ByteArray} (h : goodP a = true) : idxS a 0 = some ((a.data.toList.headD 0).toNat : Int) := by
  have := (good_le h).1
  rw [← size_data] at this
  cases hl : a.data.toList with
  | nil => rw [hl] at this; simp at this
  | cons b r => exact idxS_nat (i := 0) (by rw [hl]; rfl)
theorem group_impl (a : ByteArray) : impl_ygroupName a = some (gB a) := by
  unfold impl_ygroupName gB
  rw [impl_good, Option.bind_some]
  cases h : goodP a with
  | false => rfl
  | true =>
    simp only [gdO, cond_true, idxS_head h, Option.bind_some, Bool.true_and]
    cases decide (((a.data.toList.headD 0).toNat : Int) ≥ 65) <;> rfl
theorem group_spec (a : ByteArray) : spec_l5Group a = some (gB a) := by
  unfold spec_l5Group gB
  rw [spec_good, Option.bind_some]
  cases h : goodP a with
  | false => rfl
  | true =>
    simp only [gdO, cond_true, idxS_head h, Option.bind_some, Bool.true_and]
    cases decide (((a.data.toList.headD 0).toNat : Int) ≥ 65) <;> rfl
theorem flat_len {α β : Type} (g : α → List β) (K : Nat) : ∀ l : List α, (∀ a, a ∈ l → (g a).length ≤ K) → (l.flatMap g).length ≤ l.length * K
  | [], _ => by simp
  | a :: l, h => by
    rw [List.flatMap_cons, List.length_append, List.length_cons, Nat.add_mul]
    have := h a (by simp)
    have := flat_len g K l fun b hb => h b (by simp [hb])
    omega
theorem rise_pw {α : Type} {R : α → α → Prop} (ht : ∀ a b c, R a b → R b c → R a c) {l : List α} (h : ∀ i (h0 : 0 < i) (hi : i < l.length), R (l[i - 1]'(by omega)) l[i]) : l.Pairwise R := by
  rw [List.pairwise_iff_getElem]
  intro i j hi hj hij
  induction j with
  | zero => omega
  | succ j ih =>
    have h1 := h (j + 1) (by omega) hj
    by_cases hij2 : i = j
    · subst hij2; exact h1
    · exact ht _ _ _ (ih (by omega) (by omega)) h1
theorem allI_at {α : Type} {b : Nat → α → Bool} : ∀ (l : List α) (k : Nat), allI b l k = true → ∀ i a, l[i]? = some a → b (k + i) a = true
  | [], k, _, i, a, ha => by simp at ha
  | x :: l, k, h, i, a, ha => by
    rw [allI, Bool.and_eq_true] at h
    cases i with
    | zero => simp at ha; subst ha; exact h.1
    | succ i =>
      have := allI_at l (k + 1) h.2 i a (by simpa using ha)
      rwa [show k + 1 + i = k + (i + 1) by omega] at this
theorem bin {a b : ByteArray} (h : a.toList = b.toList) : a = b := by
  rw [Lib.toList_data, Lib.toList_data] at h
  cases a; cases b
  simpa using h
theorem nest_eq (x y : T_impl_Nest) : (x == y) = true ↔ x = y := by
  show ((x.Group_.toList == y.Group_.toList) && ((x.Member_.toList == y.Member_.toList) && true)) = true ↔ _
  cases x; cases y
  simp only [Bool.and_true, Bool.and_eq_true, beq_iff_eq, T_impl_Nest.mk.injEq]
  exact ⟨fun h => ⟨bin h.1, bin h.2⟩, fun h => ⟨by rw [h.1], by rw [h.2]⟩⟩
abbrev tlt (a b : ByteArray) : Prop := a.toList < b.toList
theorem tlt_irrefl (a : ByteArray) : ¬ tlt a a := List.lt_irrefl _
theorem tlt_trans (a b c : ByteArray) (h : tlt a b) (k : tlt b c) : tlt a c := List.lt_trans h k
theorem sgn_swap (a b : Int) : sgn b a = - sgn a b := by unfold sgn; repeat' split <;> omega
theorem cmpB_swap : ∀ x y : List UInt8, cmpB y x = - cmpB x y
  | [], [] => by simp [cmpB, sgn]
  | [], b :: y => by
    show sgn _ _ = - sgn _ _
    exact sgn_swap _ _
  | a :: x, [] => by
    show sgn _ _ = - sgn _ _
    exact sgn_swap _ _
  | a :: x, b :: y => by
    simp only [cmpB]
    by_cases h : a = b
    · subst h; rw [if_pos rfl, if_pos rfl]; exact cmpB_swap x y
    · rw [if_neg h, if_neg (Ne.symm h)]; exact sgn_swap _ _
theorem cmpB_lt (a b : ByteArray) : cmpB a.data.toList b.data.toList < 0 ↔ tlt a b := by
  rw [cmpB_neg, bl_eq]
  simp only [decide_eq_true_eq, tlt, Lib.toList_data]
theorem cmpB_gt (a b : ByteArray) : cmpB a.data.toList b.data.toList > 0 ↔ tlt b a := by
  rw [← cmpB_lt, cmpB_swap]
  omega
theorem sorted_l2 {l1 : List ByteArray} {e : ByteArray} (hl : l1.length ≤ 100000) (hs : ∀ a, a ∈ l1 → a.size < big) (he : e.size < big) :
    Ok (loopO (spec_l5Sorted_l2 l1 e) (l1.length : Int)) fun v => ∃ k : Nat, v = (k : Int) ∧ k ≤ l1.length ∧ (∀ j a, l1[j]? = some a → k ≤ j → tlt e a) ∧ ∀ a, l1[k - 1]? = some a → 0 < k → ¬ tlt e a := by
  refine Ok.loop (fun n v => v = (n : Int) ∧ n ≤ l1.length ∧ ∀ j a, l1[j]? = some a → n ≤ j → tlt e a) ?_ (n := l1.length) ⟨rfl, Nat.le_refl _, fun j a ha hj => by
    have := (List.getElem?_eq_some_iff.1 ha).1; omega⟩
  rintro n v ⟨rfl, h1, h2⟩
  unfold spec_l5Sorted_l2
  dsimp only
  by_cases h0 : 0 < n
  · have hw : IntKind.i64.wrap ((n : Int) - 1) = ((n - 1 : Nat) : Int) := by rw [IntWalk.i64_in _ (by omega)]; omega
    have hd : decide ((n : Int) > 0) = true := decide_eq_true (by omega)
    have i1 : idx l1 ((n - 1 : Nat) : Int) = some (l1[n - 1]'(by omega)) := by rw [idx_nat]; exact List.getElem?_eq_getElem (by omega)
    have hm : (l1[n - 1]'(by omega)) ∈ l1 := List.getElem_mem _
    rw [hd, hw]
    simp only [gdO, cond_true, i1, Option.bind_some, cmpText_eq _ _ (hs _ hm) he, Bool.true_and]
    refine Ok.cond (fun hp => ?_) (fun hp => ?_)
    · have hp := (cmpB_gt _ _).1 (of_decide_eq_true hp)
      refine Ok.some ⟨n - 1, by omega, rfl, by omega, fun j a ha hj => ?_⟩
      by_cases hjn : j = n - 1
      · subst hjn
        rw [List.getElem?_eq_getElem (by omega)] at ha
        exact Option.some.inj ha ▸ hp
      · exact h2 j a ha (by omega)
    · have hp := of_decide_eq_false hp
      refine Ok.some ⟨n, rfl, h1, h2, fun a ha _ => ?_⟩
      rw [List.getElem?_eq_getElem (by omega)] at ha
      exact Option.some.inj ha ▸ fun h => hp ((cmpB_gt _ _).2 h)
  · have : n = 0 := by omega
    subst this
    have hd : decide (((0 : Nat) : Int) > 0) = false := by decide
    rw [hd]
    simp only [gdO, cond_false, Option.bind_some, Bool.false_and]
    exact Ok.some ⟨0, rfl, Nat.zero_le _, h2, fun a _ h => absurd h (by omega)⟩
theorem sorted_l3 {l : List ByteArray} {x : ByteArray} (hl : l.length ≤ 100000) {k : Nat} (hk : k ≤ l.length) :
    Ok (loopO (spec_l5Sorted_l3 (k : Int)) (l ++ [x], (l.length : Int))) fun q => q.length = l.length + 1 ∧ (∀ j, j < k → q[j]? = l[j]?) ∧ ∀ j, k ≤ j → j < l.length → q[j + 1]? = l[j]? := by
  refine Ok.loop (fun n st => ∃ m : Nat, st.2 = (m : Int) ∧ m = k + n ∧ m ≤ l.length ∧ st.1.length = l.length + 1 ∧ (∀ j, j < m → st.1[j]? = l[j]?) ∧ ∀ j, m ≤ j → j < l.length → st.1[j + 1]? = l[j]?) ?_ (n := l.length - k)
    ⟨l.length, rfl, by omega, Nat.le_refl _, by simp, fun j hj => by rw [List.getElem?_append_left hj], fun j h1 h2 => by omega⟩
  rintro n ⟨q, v⟩ ⟨m, hv, hm, h1, h2, h3, h4⟩
  dsimp only at hv h2 h3 h4
  subst hv
  unfold spec_l5Sorted_l3
  dsimp only
  refine Ok.cond (fun hd => ?_) (fun hd => ?_)
  · have hd := of_decide_eq_true hd
    have hw : IntKind.i64.wrap ((m : Int) - 1) = ((m - 1 : Nat) : Int) := by rw [IntWalk.i64_in _ (by omega)]; omega
    have i1 : idx q ((m - 1 : Nat) : Int) = some (q[m - 1]'(by omega)) := by rw [idx_nat]; exact List.getElem?_eq_getElem (by omega)
    have i2 : idx q (m : Int) = some (q[m]'(by omega)) := by rw [idx_nat]; exact List.getElem?_eq_getElem (by omega)
    rw [hw, i1, i2, Int.toNat_natCast]
    simp only [Option.bind_some]
    refine Ok.some ⟨n - 1, by omega, m - 1, rfl, by omega, by omega, by simpa using h2, fun j hj => ?_, fun j hj hjl => ?_⟩
    · dsimp only
      rw [List.getElem?_set_ne (by omega)]; exact h3 j (by omega)
    · dsimp only
      by_cases hjm : j + 1 = m
      · rw [hjm, List.getElem?_set_self (by omega), ← List.getElem?_eq_getElem (by omega), h3 (m - 1) (by omega)]
        congr 1; omega
      · rw [List.getElem?_set_ne (by omega)]; exact h4 j (by omega) hjl
  · have hd := of_decide_eq_false hd
    exact Ok.some ⟨h2, fun j hj => h3 j (by omega), fun j h5 h6 => h4 j (by omega) h6⟩
theorem sorted_ok (a0 : List ByteArray) (hl : a0.length ≤ 100000) (hs : ∀ a, a ∈ a0 → a.size < big) : Ok (spec_l5Sorted a0) fun r => r.Pairwise tlt ∧ ∀ x, x ∈ r ↔ x ∈ a0 := by
  unfold spec_l5Sorted
  refine Ok.bind (Q := fun r => r.Pairwise tlt ∧ ∀ x, x ∈ r ↔ x ∈ a0) ?_ fun r hr => Ok.some hr
  refine Ok.loop (fun n st => ∃ i : Nat, st.2 = (i : Int) ∧ i + n = a0.length ∧ st.1.length ≤ i ∧ st.1.Pairwise tlt ∧ ∀ x, x ∈ st.1 ↔ x ∈ a0.take i) ?_ (n := a0.length) ⟨0, rfl, by omega, Nat.le_refl _, .nil, fun x => by simp⟩
  rintro n ⟨l, v⟩ ⟨i, hv, hi, h1, h2, h3⟩
  dsimp only at hv h1 h2 h3
  subst hv
  unfold spec_l5Sorted_l1
  dsimp only
  refine Ok.cond (fun hd => ?_) (fun hd => ?_)
  · have hd := of_decide_eq_true hd
    have hil : i < a0.length := by omega
    have i1 : idx a0 (i : Int) = some a0[i] := by rw [idx_nat]; simp [hil]
    have w2 : IntKind.i64.wrap ((i : Int) + 1) = ((i + 1 : Nat) : Int) := by rw [IntWalk.i64_in _ (by omega)]; rfl
    have hsl : ∀ a, a ∈ l → a.size < big := fun a ha => hs a (List.mem_of_mem_take ((h3 a).1 ha))
    have tk : ∀ x, x ∈ a0.take (i + 1) ↔ (x ∈ l ∨ x = a0[i]) := fun x => by
      rw [List.take_succ, List.getElem?_eq_getElem hil, List.mem_append, h3 x]
      simp
    rw [i1, Option.bind_some]
    refine Ok.bind (sorted_l2 (l1 := l) (e := a0[i]) (by omega) hsl (hs _ (List.getElem_mem _))) ?_
    rintro v' ⟨k, rfl, k1, k2, k3⟩
    try dsimp only
    -- the element ahead of the place
    have hsplit : l = l.take k ++ l.drop k := (List.take_append_drop k l).symm
    have hB : ∀ b, b ∈ l.drop k → tlt a0[i] b := fun b hb => by
      obtain ⟨j, hj, rfl⟩ := List.mem_iff_getElem.1 hb
      rw [List.getElem_drop]
      exact k2 (k + j) _ (List.getElem?_eq_getElem (by simp at hj; omega)) (by omega)
    have hlast : ∀ a, a ∈ l.take k → ∃ p, l[k - 1]? = some p ∧ 0 < k ∧ (a = p ∨ tlt a p) := fun a ha => by
      have h0 : 0 < k := by
        rcases Nat.eq_zero_or_pos k with h | h
        · subst h; simp at ha
        · exact h
      have hp : (l.take k).Pairwise tlt := h2.sublist (List.take_sublist _ _)
      have hz : (l.take k).getLast? = some (l[k - 1]'(by omega)) := by
        rw [List.getLast?_eq_getElem?, List.length_take, Nat.min_eq_left k1, List.getElem?_take, if_pos (by omega)]
        simp
      exact ⟨_, List.getElem?_eq_getElem (by omega), h0, pw_last hp ha hz⟩
    have done : Ok (some ((Sum.inl (l.take k ++ a0[i] :: l.drop k, ((i + 1 : Nat) : Int)) : (List ByteArray × Int) ⊕ List ByteArray))) (fun x => match x with | .inl s' => ∃ m, m < n ∧ ∃ i : Nat, s'.2 = (i : Int) ∧ i + m = a0.length ∧ s'.1.length ≤ i ∧ s'.1.Pairwise tlt ∧ ∀ x, x ∈ s'.1 ↔ x ∈ a0.take i | .inr r => r.Pairwise tlt ∧ ∀ x, x ∈ r ↔ x ∈ a0) ∨ l[k - 1]? = some a0[i] ∧ 0 < k := by
      by_cases hq : l[k - 1]? = some a0[i] ∧ 0 < k
      · exact .inr hq
      · refine .inl (Ok.some ⟨n - 1, by omega, i + 1, rfl, by omega, ?_, ?_, fun x => ?_⟩)
        · simp only [List.length_append, List.length_cons, List.length_take, List.length_drop]; omega
        · refine ins_strict (by rw [← hsplit]; exact h2) (fun a ha => ?_) hB
          obtain ⟨p, p1, p2, p3⟩ := hlast a ha
          have hne : p ≠ a0[i] := fun e => hq ⟨e ▸ p1, p2⟩
          have hnt := k3 p p1 p2
          have hpe : tlt p a0[i] := by
            rcases lt3 p.toList a0[i].toList with h | h | h
            · exact h
            · exact absurd (bin h) hne
            · exact absurd h hnt
          rcases p3 with rfl | p3
          · exact hpe
          · exact tlt_trans _ _ _ p3 hpe
        · rw [tk]
          have hx : x ∈ l ↔ x ∈ l.take k ∨ x ∈ l.drop k := by rw [← List.mem_append, ← hsplit]
          rw [hx]
          simp only [List.mem_append, List.mem_cons]
          constructor
          · rintro (h | h | h)
            · exact .inl (.inl h)
            · exact .inr h
            · exact .inl (.inr h)
          · rintro ((h | h) | h)
            · exact .inl h
            · exact .inr (.inr h)
            · exact .inr (.inl h)
    have stay : l[k - 1]? = some a0[i] ∧ 0 < k → Ok (some ((Sum.inl (l, ((i + 1 : Nat) : Int)) : (List ByteArray × Int) ⊕ List ByteArray))) (fun x => match x with | .inl s' => ∃ m, m < n ∧ ∃ i : Nat, s'.2 = (i : Int) ∧ i + m = a0.length ∧ s'.1.length ≤ i ∧ s'.1.Pairwise tlt ∧ ∀ x, x ∈ s'.1 ↔ x ∈ a0.take i | .inr r => r.Pairwise tlt ∧ ∀ x, x ∈ r ↔ x ∈ a0) := fun hq => by
      refine Ok.some ⟨n - 1, by omega, i + 1, rfl, by omega, by dsimp only; omega, h2, fun x => ?_⟩
      rw [tk]
      exact ⟨.inl, fun h => h.elim id fun e => e ▸ List.mem_of_getElem? hq.1⟩
    have hput : ∀ q : List ByteArray, q.length = l.length + 1 → (∀ j, j < k → q[j]? = l[j]?) → (∀ j, k ≤ j → j < l.length → q[j + 1]? = l[j]?) → q.set k a0[i] = l.take k ++ a0[i] :: l.drop k := fun q q1 q2 q3 => by
      apply List.ext_getElem?
      intro j
      by_cases c1 : j < k
      · rw [List.getElem?_set_ne (by omega), q2 j c1, List.getElem?_append_left (by simp; omega), List.getElem?_take, if_pos c1]
      · rw [List.getElem?_append_right (by simp; omega)]
        simp only [List.length_take, Nat.min_eq_left k1]
        by_cases c2 : j = k
        · subst c2; rw [List.getElem?_set_self (by omega), Nat.sub_self]; rfl
        · obtain ⟨j', rfl⟩ : ∃ j', j = j' + 1 := ⟨j - 1, by omega⟩
          rw [List.getElem?_set_ne (by omega), show j' + 1 - k = (j' - k) + 1 by omega, List.getElem?_cons_succ, List.getElem?_drop, show k + (j' - k) = j' by omega]
          by_cases c3 : j' < l.length
          · exact q3 j' (by omega) c3
          · rw [List.getElem?_eq_none (by omega), List.getElem?_eq_none (by omega)]
    by_cases h0 : 0 < k
    · have hw : IntKind.i64.wrap ((k : Int) - 1) = ((k - 1 : Nat) : Int) := by rw [IntWalk.i64_in _ (by omega)]; omega
      have hdk : decide ((k : Int) > 0) = true := decide_eq_true (by omega)
      have i2 : idx l ((k - 1 : Nat) : Int) = some (l[k - 1]'(by omega)) := by rw [idx_nat]; exact List.getElem?_eq_getElem (by omega)
      rw [hdk, hw, w2]
      simp only [gdO, cond_true, i2, Option.bind_some, Bool.true_and]
      refine Ok.cond (fun hq => ?_) (fun hq => ?_)
      · exact Ok.mono (stay ⟨by rw [List.getElem?_eq_getElem (by omega), (tl_beq _ _).1 hq], h0⟩) fun x hx => by rcases x with x | x <;> exact hx
      · rw [app_get (by simp; omega), Option.bind_some]
        have hw3 : IntKind.i64.wrap (((l ++ [a0[i]]).length : Int) - 1) = (l.length : Int) := by simp only [List.length_append, List.length_singleton]; rw [IntWalk.i64_in _ (by omega)]; omega
        rw [hw3]
        refine Ok.bind (sorted_l3 (x := a0[i]) (by omega) k1) ?_
        rintro q ⟨q1, q2, q3⟩
        try dsimp only
        have i3 : idx q (k : Int) = some (q[k]'(by omega)) := by rw [idx_nat]; exact List.getElem?_eq_getElem (by omega)
        rw [i3, Option.bind_some, Int.toNat_natCast, hput q q1 q2 q3]
        rcases done with h | ⟨h, _⟩
        · exact Ok.mono h fun x hx => by rcases x with x | x <;> exact hx
        · exfalso
          rw [List.getElem?_eq_getElem (by omega)] at h
          rw [Option.some.inj h] at hq
          simp at hq
    · have hk0 : k = 0 := by omega
      subst hk0
      have hdk : decide (((0 : Nat) : Int) > 0) = false := by decide
      rw [hdk, w2]
      simp only [gdO, cond_false, Option.bind_some, Bool.false_and]
      rw [app_get (by simp; omega), Option.bind_some]
      have hw3 : IntKind.i64.wrap (((l ++ [a0[i]]).length : Int) - 1) = (l.length : Int) := by simp only [List.length_append, List.length_singleton]; rw [IntWalk.i64_in _ (by omega)]; omega
      rw [hw3]
      refine Ok.bind (sorted_l3 (x := a0[i]) (by omega) k1) ?_
      rintro q ⟨q1, q2, q3⟩
      try dsimp only
      have i3 : idx q ((0 : Nat) : Int) = some (q[0]'(by omega)) := by rw [idx_nat]; exact List.getElem?_eq_getElem (by omega)
      rw [i3, Option.bind_some, Int.toNat_natCast, hput q q1 q2 q3]
      rcases done with h | ⟨_, h⟩
      · exact Ok.mono h fun x hx => by rcases x with x | x <;> exact hx
      · omega
  · have hd := of_decide_eq_false hd
    refine Ok.some ⟨h2, fun x => ?_⟩
    rw [h3, List.take_of_length_le (by omega)]
def Cur (n : Nat) (s : T_spec_l1Cur) : Prop := 0 ≤ s.at_ ∧ s.at_ ≤ (n : Int) ∧ ∀ b, b ∈ s.code_ → 0 ≤ b ∧ b ≤ 255
abbrev lim : Nat := 1000000
theorem Cur.mono {n m : Nat} {s : T_spec_l1Cur} (h : Cur n s) (hm : n ≤ m) : Cur m s := ⟨h.1, by have := h.2.1; omega, h.2.2⟩
theorem u64_and (x : BitVec IntKind.u64.bits) : 0 ≤ IntKind.i64.wrap (IntKind.u64.wrap ((x &&& BitVec.ofInt IntKind.u64.bits 255).toNat : Int)) ∧ IntKind.i64.wrap (IntKind.u64.wrap ((x &&& BitVec.ofInt IntKind.u64.bits 255).toNat : Int)) ≤ 255 := by
  have h : (x &&& BitVec.ofInt IntKind.u64.bits 255).toNat ≤ 255 := by
    rw [BitVec.toNat_and]
    exact Nat.le_trans Nat.and_le_right (by decide)
  generalize (x &&& BitVec.ofInt IntKind.u64.bits 255).toNat = y at h
  rw [IntWalk.u64_in _ (by omega), IntWalk.i64_in _ (by omega)]
  omega
theorem next_ok {n : Nat} {s : T_spec_l1Cur} (h : Cur n s) (hn : n < lim) : Ok (spec_l1Cur_next s) fun q => Cur (n + 1) q.2 ∧ 0 ≤ q.1 ∧ q.1 ≤ 255 := by
  obtain ⟨h0, h1, h2⟩ := h
  unfold lim at hn
  have hw : IntKind.i64.wrap (s.at_ + 1) = s.at_ + 1 := IntWalk.i64_in _ (by omega)
  have j : ∀ v, 0 ≤ v → v ≤ 255 → Ok (spec_l1Cur_next_j1 s v) fun q => Cur (n + 1) q.2 ∧ 0 ≤ q.1 ∧ q.1 ≤ 255 := fun v v0 v1 => by
    unfold spec_l1Cur_next_j1
    rw [hw]
    cases decide (s.at_ + 1 ≤ (s.code_.length : Int)) with
    | true => exact ⟨_, rfl, ⟨by show 0 ≤ s.at_ + 1; omega, by show s.at_ + 1 ≤ _; omega, h2⟩, v0, v1⟩
    | false =>
      refine ⟨_, rfl, ⟨by show 0 ≤ s.at_ + 1; omega, by show s.at_ + 1 ≤ _; omega, h2⟩, ?_⟩
      exact u64_and _
  unfold spec_l1Cur_next
  cases hd : decide (s.at_ < (s.code_.length : Int)) with
  | false => exact j 0 (by omega) (by omega)
  | true =>
    have hlt := of_decide_eq_true hd
    have hx : s.code_[s.at_.toNat]? = some s.code_[s.at_.toNat] := by simp
    have hi : idx s.code_ s.at_ = some s.code_[s.at_.toNat] := by unfold idx; rw [if_pos h0, hx]
    have hb := h2 _ (List.getElem_mem (l := s.code_) (n := s.at_.toNat) (by omega))
    simp only [cond_true, hi, Option.bind_some]
    rw [IntWalk.i64_in _ (by omega)]
    exact j _ hb.1 hb.2
theorem pick_ok {n : Nat} {s : T_spec_l1Cur} (a : Int) (h : Cur n s) (hn : n + 1 < lim) : Ok (spec_l1Cur_pick a s) fun q => Cur (n + 2) q.2 ∧ 0 ≤ q.1 ∧ (1 ≤ a → q.1 < a) := by
  unfold spec_l1Cur_pick
  refine Ok.cond (fun ha => Ok.some ⟨h.mono (by omega), Int.le_refl _, fun h1 => h1⟩) fun ha => ?_
  have ha1 : ¬ a ≤ 1 := of_decide_eq_false ha
  have hnz : nz a = some a := by unfold nz; rw [if_neg (by omega)]
  have j : ∀ (v : Int) (o : T_spec_l1Cur), 0 ≤ v → Cur (n + 2) o → Ok (spec_l1Cur_pick_j1 a o v) fun q => Cur (n + 2) q.2 ∧ 0 ≤ q.1 ∧ (1 ≤ a → q.1 < a) := fun v o hv ho => by
    unfold spec_l1Cur_pick_j1
    rw [hnz]
    exact ⟨_, rfl, ho, Int.tmod_nonneg _ hv, fun _ => Int.tmod_lt_of_pos _ (by omega)⟩
  refine Ok.bind (next_ok h (by omega)) ?_
  rintro ⟨r, o⟩ ⟨h2, h3, h4⟩
  refine Ok.cond (fun _ => ?_) (fun _ => j r o h3 (h2.mono (by omega)))
  refine Ok.bind (next_ok h2 (by omega)) ?_
  rintro ⟨r2, o2⟩ ⟨g2, g3, g4⟩
  have h3' : 0 ≤ r := h3
  have h4' : r ≤ 255 := h4
  have g3' : 0 ≤ r2 := g3
  have g4' : r2 ≤ 255 := g4
  show Ok (spec_l1Cur_pick_j1 a o2 (IntKind.i64.wrap (IntKind.i64.wrap (r * 256) + r2))) _
  rw [IntWalk.i64_in (r * 256) (by omega), IntWalk.i64_in _ (by omega)]
  exact j _ o2 (by omega) g2
theorem one_ok {n : Nat} {s : T_spec_l1Cur} (a : Int) (h : Cur n s) (hn : n + 1 < lim) : Ok (spec_l1Cur_one a s) fun q => Cur (n + 2) q.2 := by
  unfold spec_l1Cur_one
  refine Ok.bind (pick_ok a h hn) ?_
  rintro ⟨r, o⟩ ⟨h2, h3, h4⟩
  exact Ok.some h2
theorem of_ok {n : Nat} {s : T_spec_l1Cur} (xs : List ByteArray) (hx : (!xs.isEmpty && xs.all fun x => decide (x.size ≤ 1000)) = true) (h : Cur n s) (hn : n + 1 < lim) : Ok (spec_l1Cur_of xs s) fun q => Cur (n + 2) q.2 ∧ q.1.size ≤ 1000 := by
  simp only [Bool.and_eq_true, Bool.not_eq_true', List.all_eq_true, decide_eq_true_eq] at hx
  have hl : 0 < xs.length := by
    cases xs with
    | nil => exact absurd hx.1 (by decide)
    | cons a l => simp
  unfold spec_l1Cur_of
  refine Ok.bind (pick_ok (xs.length : Int) h hn) ?_
  rintro ⟨r, o⟩ ⟨h2, h3, h4⟩
  have h3' : 0 ≤ r := h3
  have h5 : r < (xs.length : Int) := h4 (by omega)
  have hg : xs[r.toNat]? = some xs[r.toNat] := by simp
  have hi : idx xs r = some xs[r.toNat] := by unfold idx; rw [if_pos h3', hg]
  show Ok ((idx xs r).bind _) _
  rw [hi]
  exact Ok.some ⟨h2, hx.2 _ (List.getElem_mem _)⟩
theorem idx_ok {α : Type} {xs : List α} {i : Int} (h0 : 0 ≤ i) (h1 : i < (xs.length : Int)) : Ok (idx xs i) fun a => a ∈ xs := by
  have hl : i.toNat < xs.length := by omega
  unfold idx
  rw [if_pos h0, List.getElem?_eq_getElem hl]
  exact Ok.some (List.getElem_mem _)
theorem decF {p : Prop} [Decidable p] (h : ¬ p) : decide p = false := decide_eq_false h
theorem byS_size (l : List Int) : (byS l).size = l.length := by
  unfold byS
  have : ∀ (l : List Int) (b : ByteArray), (l.foldl (fun r n => r.push (UInt8.ofNat n.toNat)) b).size = b.size + l.length := by
    intro l
    induction l with
    | nil => intro b; simp
    | cons a l ih => intro b; rw [List.foldl_cons, ih]; simp [ByteArray.size_push]; omega
  rw [this]; simp
theorem size_ok {v : Int} (h0 : 0 ≤ v) (h1 : v < 1000000) : Ok (spec_l1Num v) fun s => s.size ≤ 1000 := by
  unfold spec_l1Num
  rw [decF (by omega : ¬ v < 0), cond_false]
  refine Ok.bind (Q := fun s => s.size ≤ 1000) ?_ fun s hs => Ok.some hs
  unfold spec_l1Size
  refine Ok.cond (fun _ => Ok.some (by decide)) fun _ => ?_
  refine Ok.bind (Ok.loop (P := fun s => s.size ≤ 1000) (fun k q => 0 ≤ q.1 ∧ q.1 < 10 ^ k ∧ q.2.size + k ≤ 10) ?_ (n := 6) ⟨h0, h1, by show e0.size + 6 ≤ 10; decide⟩) fun s hs => Ok.some hs
  rintro k ⟨x, s⟩ ⟨g1, g2, g3⟩
  dsimp only at g1 g2 g3
  unfold spec_l1Size_l1
  refine Ok.cond (fun hc => ?_) fun _ => Ok.some (by show s.size ≤ 1000; omega)
  have hx : x ≠ 0 := by simpa using hc
  have hk : 0 < k := by
    rcases Nat.eq_zero_or_pos k with rfl | h
    · simp at g2; omega
    · exact h
  have hm : 0 ≤ Int.tmod x 10 := Int.tmod_nonneg _ g1
  rw [decF (by omega : ¬ Int.tmod x 10 < 0), cond_false]
  unfold spec_l1Size_j1
  have hb : (byS [IntKind.u8.wrap (IntKind.i64.wrap (48 + Int.tmod x 10))]).size = 1 := by rw [byS_size]; rfl
  rw [cat_get (by omega), Option.bind_some]
  have hd : Int.tdiv x 10 = x / 10 := Int.tdiv_eq_ediv_of_nonneg g1
  have hx2 : x < 9223372036854775808 := by
    have : (10 : Int) ^ k ≤ 10 ^ 10 := by
      have : 10 ^ k ≤ 10 ^ 10 := Nat.pow_le_pow_right (by decide) (by omega)
      exact_mod_cast this
    omega
  refine Ok.some ⟨k - 1, by omega, ?_, ?_, ?_⟩
  · show 0 ≤ IntKind.i64.wrap (Int.tdiv x 10)
    rw [hd, IntWalk.i64_in _ (by omega)]; omega
  · show IntKind.i64.wrap (Int.tdiv x 10) < 10 ^ (k - 1)
    rw [hd, IntWalk.i64_in _ (by omega)]
    have : (10 : Int) ^ k = 10 ^ (k - 1) * 10 := by rw [← Int.pow_succ]; congr 1; omega
    omega
  · show (_ ++ s).size + (k - 1) ≤ 10
    rw [ByteArray.size_append, hb]; omega
end Go.G36.RC
/- Nests in order; good nests: both say the same. -/
namespace Go.G36.RC
set_option linter.all false
open Go Go.G36 Go.Proofs Go.G36.RcAnc

/-- One pair of texts ahead of another. -/
def Lt2 (x1 x2 y1 y2 : ByteArray) : Prop := x1.toList < y1.toList ∨ (x1.toList = y1.toList ∧ x2.toList < y2.toList)
def cmpK (x1 x2 y1 y2 : ByteArray) : Int := orI (cmpS x1 y1) (cmpS x2 y2)
theorem cmpK_neg (x1 x2 y1 y2 : ByteArray) : cmpK x1 x2 y1 y2 < 0 ↔ Lt2 x1 x2 y1 y2 := by
  unfold cmpK orI Lt2
  by_cases h : cmpS x1 y1 = 0
  · have h1 := (cmpS_zero _ _).1 h
    have : ¬ x1.toList < y1.toList := fun e => by rw [h1] at e; exact List.lt_irrefl _ e
    simp only [h, ne_eq, not_true_eq_false, if_false, cmpS_neg]
    simp [h1, List.lt_irrefl]
  · have h1 : x1.toList ≠ y1.toList := fun e => h ((cmpS_zero _ _).2 e)
    simp only [h, ne_eq, not_false_eq_true, if_true, cmpS_neg]
    simp [h1]
theorem Lt2.irrefl (x1 x2 : ByteArray) : ¬ Lt2 x1 x2 x1 x2 := fun h => by
  rcases h with h | ⟨_, h⟩ <;> exact List.lt_irrefl _ h
theorem Lt2.trans {x1 x2 y1 y2 z1 z2 : ByteArray} (h : Lt2 x1 x2 y1 y2) (k : Lt2 y1 y2 z1 z2) : Lt2 x1 x2 z1 z2 := by
  rcases h with h | ⟨h, h'⟩ <;> rcases k with k | ⟨k, k'⟩
  · exact .inl (List.lt_trans h k)
  · exact .inl (k ▸ h)
  · exact .inl (h ▸ k)
  · exact .inr ⟨h.trans k, List.lt_trans h' k'⟩
theorem Lt2.tri (x1 x2 y1 y2 : ByteArray) : Lt2 x1 x2 y1 y2 ∨ (x1.toList = y1.toList ∧ x2.toList = y2.toList) ∨ Lt2 y1 y2 x1 x2 := by
  rcases lt3 x1.toList y1.toList with h | h | h
  · exact .inl (.inl h)
  · rcases lt3 x2.toList y2.toList with k | k | k
    · exact .inl (.inr ⟨h, k⟩)
    · exact .inr (.inl ⟨h, k⟩)
    · exact .inr (.inr (.inr ⟨h.symm, k⟩))
  · exact .inr (.inr (.inl h))
/-- One nest ahead of another. -/
abbrev nlt (a b : T_impl_Nest) : Prop := Lt2 a.Group_ a.Member_ b.Group_ b.Member_
theorem nlt_irrefl (a : T_impl_Nest) : ¬ nlt a a := Lt2.irrefl _ _
theorem nlt_trans (a b c : T_impl_Nest) (h : nlt a b) (k : nlt b c) : nlt a c := Lt2.trans h k
theorem nlt_tri (a b : T_impl_Nest) : nlt a b ∨ a = b ∨ nlt b a := by
  rcases Lt2.tri a.Group_ a.Member_ b.Group_ b.Member_ with k | ⟨k1, k2⟩ | k
  · exact .inl k
  · right; left
    cases a; cases b
    simp only [T_impl_Nest.mk.injEq]
    exact ⟨bin k1, bin k2⟩
  · exact .inr (.inr k)
theorem comparex (a b : ByteArray) : cmp_Compare a b = some (cmpS a b) := by
  unfold cmp_Compare cmp_isNaN cmpS
  simp only [beq_self_eq_true, Bool.not_true, Option.bind_some, cond_false]
  cases Op.bytesLess a.toList b.toList <;> cases hq : (a.toList == b.toList) <;> simp
theorem or_two (a b : Int) : cmp_Or [a, b] = some (orI a b) := by
  unfold cmp_Or
  have key : Ok (loopO (cmp_Or_l1 [a, b]) 0) fun q => (match q with | .inl _ => a = 0 ∧ b = 0 | .inr r => r = orI a b) := by
    refine Ok.loop (fun n v => ∃ i : Nat, v = (i : Int) ∧ i + n = 2 ∧ (1 ≤ i → a = 0) ∧ (2 ≤ i → b = 0)) ?_ (n := 2) ⟨0, rfl, rfl, fun h => by omega, fun h => by omega⟩
    rintro n v ⟨i, rfl, hi, ha, hb⟩
    unfold cmp_Or_l1
    dsimp only
    rcases i with _ | _ | _ | i
    · rw [show decide (((0 : Nat) : Int) < (([a, b] : List Int).length : Int)) = true by simp, cond_true, idx_nat]
      simp only [List.getElem?_cons_zero, Option.bind_some]
      refine Ok.cond (fun h => Ok.some ?_) (fun h => ?_)
      · show a = orI a b
        have : a ≠ 0 := by simpa using h
        simp [orI, this]
      · rw [wrap_succ (by omega)]
        exact Ok.some ⟨n - 1, by omega, 1, rfl, by omega, fun _ => by simpa using h, fun h => by omega⟩
    · rw [show decide (((0 + 1 : Nat) : Int) < (([a, b] : List Int).length : Int)) = true by simp, cond_true, idx_nat]
      simp only [List.getElem?_cons_succ, List.getElem?_cons_zero, Option.bind_some]
      refine Ok.cond (fun h => Ok.some ?_) (fun h => ?_)
      · show b = orI a b
        have : a = 0 := ha (by omega)
        simp [orI, this]
      · rw [wrap_succ (by omega)]
        exact Ok.some ⟨n - 1, by omega, 2, rfl, by omega, fun _ => ha (by omega), fun _ => by simpa using h⟩
    · rw [show decide (((0 + 1 + 1 : Nat) : Int) < (([a, b] : List Int).length : Int)) = false by simp, cond_false]
      exact Ok.some ⟨ha (by omega), hb (by omega)⟩
    · omega
  obtain ⟨q, hq, hp⟩ := key
  rw [hq, Option.bind_some]
  rcases q with _ | r
  · obtain ⟨h1, h2⟩ := hp
    show some 0 = _
    rw [h1, h2]; rfl
  · show some r = _
    rw [show r = orI a b from hp]
abbrev cmpNst (a b : T_impl_Nest) : Int := cmpK a.Group_ a.Member_ b.Group_ b.Member_
theorem ycmp (a b : T_impl_Nest) : impl_ycmpNest a b = some (cmpNst a b) := by
  unfold impl_ycmpNest cmpNst cmpK
  rw [comparex, comparex, Option.bind_some, Option.bind_some, or_two, Option.bind_some]
theorem cmpNst_neg (a b : T_impl_Nest) : cmpNst a b < 0 ↔ nlt a b := cmpK_neg _ _ _ _
theorem cmpNst_zero (a b : T_impl_Nest) : cmpNst a b = 0 ↔ a = b := by
  constructor
  · intro h
    obtain ⟨h1, h2⟩ := orI_zero h
    cases a; cases b
    simp only [T_impl_Nest.mk.injEq]
    exact ⟨bin ((cmpS_zero _ _).1 h1), bin ((cmpS_zero _ _).1 h2)⟩
  · rintro rfl
    unfold cmpNst cmpK orI
    rw [(cmpS_zero _ _).2 rfl, (cmpS_zero _ _).2 rfl]; rfl
/-- Short texts. -/
def szN (a : T_impl_Nest) : Prop := a.Group_.size < big ∧ a.Member_.size < big
theorem cmpB_zero (x y : ByteArray) : cmpB x.data.toList y.data.toList = 0 ↔ x = y := by
  constructor
  · intro h
    rcases lt3 x.toList y.toList with k | k | k
    · have := (cmpB_lt _ _).2 k; omega
    · exact bin k
    · have := (cmpB_gt _ _).2 k; omega
  · rintro rfl
    have := cmpB_swap x.data.toList x.data.toList
    omega
theorem scmp {a b : T_impl_Nest} (ha : szN a) (hb : szN b) : ∃ r, spec_l5CmpNest a b = some r ∧ (r < 0 ↔ nlt a b) ∧ (r = 0 ↔ a = b) := by
  unfold spec_l5CmpNest
  rw [cmpText_eq _ _ ha.1 hb.1, Option.bind_some, cmpText_eq _ _ ha.2 hb.2, Option.bind_some]
  by_cases h : a.Group_ = b.Group_
  · have h0 := (cmpB_zero a.Group_ b.Group_).2 h
    rw [h0]
    refine ⟨_, rfl, ?_, ?_⟩
    · rw [cmpB_lt]
      unfold nlt Lt2
      rw [h]
      exact ⟨fun k => .inr ⟨rfl, k⟩, fun k => k.elim (fun k => absurd k (List.lt_irrefl _)) (·.2)⟩
    · rw [cmpB_zero]
      constructor
      · intro k; cases a; cases b; simp_all
      · rintro rfl; rfl
  · have h0 : cmpB a.Group_.data.toList b.Group_.data.toList ≠ 0 := fun k => h ((cmpB_zero _ _).1 k)
    rw [show (cmpB a.Group_.data.toList b.Group_.data.toList != 0) = true by simpa using h0]
    refine ⟨_, rfl, ?_, ?_⟩
    · rw [cmpB_lt]
      unfold nlt Lt2
      exact ⟨.inl, fun k => k.elim id fun k => absurd (bin k.1) h⟩
    · exact ⟨fun k => absurd k h0, fun k => absurd (congrArg _ k) h⟩

/-! ### Nests that are good -/
def goodN (a : T_impl_Nest) : Bool := gB a.Group_ && goodP a.Member_
theorem goodN_impl (a : T_impl_Nest) : impl_ygoodNest a = some (goodN a) := by
  unfold impl_ygoodNest goodN
  rw [group_impl, Option.bind_some, impl_good]
  cases gB a.Group_ <;> rfl
def nestOk (l : List T_impl_Nest) (i : Nat) (a : T_impl_Nest) : Bool := goodN a && (decide (i = 0) || decide (cmpNst (l.getD (i - 1) default) a < 0))
def gNb (l : List T_impl_Nest) : Bool := decide (l.length ≤ 200) && allI (nestOk l) l 0
theorem prevD {l : List T_impl_Nest} {i : Nat} (h0 : 0 < i) (hi : i < l.length) : l[i - 1]? = some (l.getD (i - 1) default) := by
  rw [List.getD_eq_getElem?_getD, List.getElem?_eq_getElem (by omega)]; rfl
theorem good_impl (l : List T_impl_Nest) : impl_GoodNests l = some (gNb l) := by
  unfold impl_GoodNests gNb
  by_cases h : l.length ≤ 200
  · rw [show decide ((l.length : Int) > 200) = false from decide_eq_false (by omega), cond_false, decide_eq_true h, Bool.true_and]
    have := loop_allI l (impl_GoodNests_l1 l) (nestOk l) (fun i a ha => ?_) (by unfold impl_GoodNests_l1; simp)
    · rw [this]; cases allI (nestOk l) l 0 <;> rfl
    · have hil := (List.getElem?_eq_some_iff.1 ha).1
      unfold impl_GoodNests_l1 nestOk
      dsimp only
      rw [ltn hil, cond_true, idx_nat, ha, Option.bind_some, goodN_impl, Option.bind_some, wrap_succ (by omega)]
      by_cases h0 : 0 < i
      · rw [gtz h0, pre h0 (by omega), idx_nat, prevD h0 hil, show decide (i = 0) = false from decide_eq_false (by omega)]
        cases goodN a with
        | false => rfl
        | true =>
          simp only [Bool.not_true, Bool.not_false, Bool.and_true, gdO, cond_true, Option.bind_some, ycmp, Bool.false_or, Bool.true_and]
          by_cases h1 : cmpNst (l.getD (i - 1) default) a < 0
          · rw [decide_eq_true h1, decide_eq_false (show ¬ cmpNst (l.getD (i - 1) default) a ≥ 0 by omega)]; rfl
          · rw [decide_eq_false h1, decide_eq_true (show cmpNst (l.getD (i - 1) default) a ≥ 0 by omega)]; rfl
      · have : i = 0 := by omega
        subst this
        cases goodN a <;> rfl
  · rw [show decide ((l.length : Int) > 200) = true from decide_eq_true (by omega), cond_true, decide_eq_false h]; rfl
theorem good_spec {l : List T_impl_Nest} (hb : ∀ x, x ∈ l → szN x) : spec_GoodNests l = some (gNb l) := by
  unfold spec_GoodNests gNb
  by_cases h : l.length ≤ 200
  · rw [show decide ((l.length : Int) > 200) = false from decide_eq_false (by omega), cond_false, decide_eq_true h, Bool.true_and]
    have := loop_allI l (spec_GoodNests_l1 l) (nestOk l) (fun i a ha => ?_) (by unfold spec_GoodNests_l1; simp)
    · rw [this]; cases allI (nestOk l) l 0 <;> rfl
    · have hil := (List.getElem?_eq_some_iff.1 ha).1
      unfold spec_GoodNests_l1 nestOk goodN
      dsimp only
      rw [ltn hil, cond_true, idx_nat, ha, Option.bind_some, group_spec, Option.bind_some, wrap_succ (by omega), spec_good]
      by_cases h0 : 0 < i
      · rw [gtz h0, pre h0 (by omega), idx_nat, prevD h0 hil, show decide (i = 0) = false from decide_eq_false (by omega)]
        cases gB a.Group_ with
        | false => rfl
        | true =>
          cases goodP a.Member_ with
          | false => rfl
          | true =>
            obtain ⟨r, r1, r2, _⟩ := scmp (a := l.getD (i - 1) default) (b := a) (hb _ (List.mem_of_getElem? (prevD h0 hil))) (hb _ (List.mem_of_getElem? ha))
            simp only [Bool.not_true, Bool.not_false, Bool.and_true, gdO, cond_true, Option.bind_some, r1, Bool.false_or, Bool.true_and, Bool.or_false]
            by_cases h1 : nlt (l.getD (i - 1) default) a
            · rw [decide_eq_true ((cmpNst_neg _ _).2 h1), decide_eq_false (show ¬ r ≥ 0 by have := r2.2 h1; omega)]; rfl
            · rw [decide_eq_false (fun k => h1 ((cmpNst_neg _ _).1 k)), decide_eq_true (show r ≥ 0 by have : ¬ r < 0 := fun k => h1 (r2.1 k); omega)]; rfl
      · have : i = 0 := by omega
        subst this
        cases gB a.Group_ with
        | false => rfl
        | true => cases goodP a.Member_ <;> rfl
  · rw [show decide ((l.length : Int) > 200) = true from decide_eq_true (by omega), cond_true, decide_eq_false h]; rfl
structure Good (l : List T_impl_Nest) : Prop where
  len : l.length ≤ 200
  pw : l.Pairwise nlt
  nm : ∀ x, x ∈ l → goodN x = true
theorem gNb_iff {l : List T_impl_Nest} : gNb l = true ↔ Good l := by
  unfold gNb
  rw [Bool.and_eq_true, decide_eq_true_eq]
  constructor
  · rintro ⟨h1, h2⟩
    have at_ := allI_at l 0 h2
    refine ⟨h1, rise_pw (R := nlt) nlt_trans fun i h0 hi => ?_, fun x hx => ?_⟩
    · have := at_ i l[i] (by simp)
      unfold nestOk at this
      simp only [Bool.and_eq_true, Bool.or_eq_true, decide_eq_true_eq, Nat.zero_add] at this
      rcases this.2 with k | k
      · omega
      · have e : l.getD (i - 1) default = l[i - 1]'(by omega) := by rw [List.getD_eq_getElem?_getD, List.getElem?_eq_getElem (by omega)]; rfl
        rw [e] at k
        exact (cmpNst_neg _ _).1 k
    · obtain ⟨i, hi, rfl⟩ := List.mem_iff_getElem.1 hx
      have := at_ i l[i] (by simp)
      unfold nestOk at this
      rw [Bool.and_eq_true] at this
      exact this.1
  · rintro ⟨h1, h2, h3⟩
    refine ⟨h1, ?_⟩
    rw [allI_congr (b' := fun _ _ => true) l 0 fun k a ha => ?_, allI_all, List.all_eq_true.2 (fun _ _ => rfl)]
    have hil := (List.getElem?_eq_some_iff.1 ha).1
    rw [Nat.zero_add]
    unfold nestOk
    rw [h3 a (List.mem_of_getElem? ha), Bool.true_and]
    by_cases h0 : 0 < k
    · have e : l.getD (k - 1) default = l[k - 1]'(by omega) := by rw [List.getD_eq_getElem?_getD, List.getElem?_eq_getElem (by omega)]; rfl
      rw [e, decide_eq_true ((cmpNst_neg _ _).2 ?_), Bool.or_true]
      rw [List.getElem?_eq_getElem hil] at ha
      have := List.pairwise_iff_getElem.1 h2 (k - 1) k (by omega) hil (by omega)
      rw [Option.some.inj ha] at this
      exact this
    · rw [decide_eq_true (show k = 0 by omega)]; rfl
theorem Good.sz {l : List T_impl_Nest} (h : Good l) : ∀ x, x ∈ l → szN x := fun x hx => by
  have g := h.nm x hx
  unfold goodN gB at g
  rw [Bool.and_eq_true, Bool.and_eq_true] at g
  have := (good_le g.1.1).2
  have := (good_le g.2).2
  unfold szN big
  omega
theorem Good.nodup {l : List T_impl_Nest} (h : Good l) : l.Nodup := List.Pairwise.imp (fun {a b} (hab : nlt a b) (e : a = b) => nlt_irrefl a (by rw [← e] at hab; exact hab)) h.pw
end Go.G36.RC
/- Ways: the least number of steps; what both breadth-first searches find. -/
namespace Go.G36.RC
set_option linter.all false
open Go Go.G36 Go.Proofs Go.G36.RcAnc

/-- A way of so many nests. -/
def Walk (l : List T_impl_Nest) : Nat → ByteArray → ByteArray → Prop
  | 0, a, b => a = b
  | k + 1, a, b => ∃ e, Walk l k a e ∧ (⟨e, b⟩ : T_impl_Nest) ∈ l
theorem Walk.front {l : List T_impl_Nest} : ∀ {k : Nat} {a b : ByteArray}, Walk l (k + 1) a b ↔ ∃ e, (⟨a, e⟩ : T_impl_Nest) ∈ l ∧ Walk l k e b
  | 0, a, b => by
    constructor
    · rintro ⟨e, rfl, h⟩; exact ⟨b, h, rfl⟩
    · rintro ⟨e, h, rfl⟩; exact ⟨a, rfl, h⟩
  | k + 1, a, b => by
    constructor
    · rintro ⟨e, h, h2⟩
      obtain ⟨x, h3, h4⟩ := Walk.front.1 h
      exact ⟨x, h3, e, h4, h2⟩
    · rintro ⟨x, h3, e, h4, h2⟩
      exact ⟨e, Walk.front.2 ⟨x, h3, h4⟩, h2⟩
/-- The least way of one nest at least. -/
def MinW (l : List T_impl_Nest) (g x : ByteArray) (j : Nat) : Prop := 1 ≤ j ∧ Walk l j g x ∧ ∀ i, 1 ≤ i → i < j → ¬ Walk l i g x
theorem MinW.uniq {l : List T_impl_Nest} {g x : ByteArray} {i j : Nat} (h : MinW l g x i) (k : MinW l g x j) : i = j := by
  rcases Nat.lt_trichotomy i j with e | e | e
  · exact absurd h.2.1 (k.2.2 i h.1 e)
  · exact e
  · exact absurd k.2.1 (h.2.2 j k.1 e)
theorem MinW.of {l : List T_impl_Nest} {g x : ByteArray} : ∀ {j : Nat}, 1 ≤ j → Walk l j g x → ∃ i, i ≤ j ∧ MinW l g x i := by
  intro j
  induction j using Nat.strongRecOn with
  | ind j ih =>
    intro h1 h2
    by_cases h : ∃ i, 1 ≤ i ∧ i < j ∧ Walk l i g x
    · obtain ⟨i, a, b, c⟩ := h
      obtain ⟨q, d, e⟩ := ih i b a c
      exact ⟨q, by omega, e⟩
    · exact ⟨j, Nat.le_refl _, h1, h2, fun i a b c => h ⟨i, a, b, c⟩⟩
/-- The last step of a least way. -/
theorem MinW.last {l : List T_impl_Nest} {g x : ByteArray} {k : Nat} (h : MinW l g x (k + 1)) : ∃ e, (⟨e, x⟩ : T_impl_Nest) ∈ l ∧ (k = 0 → e = g) ∧ (1 ≤ k → MinW l g e k) := by
  obtain ⟨h1, ⟨e, h2, h3⟩, h4⟩ := h
  refine ⟨e, h3, fun h0 => ?_, fun hk => ⟨hk, h2, fun i a b c => h4 (i + 1) (by omega) (by omega) ⟨e, c, h3⟩⟩⟩
  subst h0
  exact h2.symm
/-- The first step of a least way. -/
theorem MinW.first {l : List T_impl_Nest} {g x : ByteArray} {k : Nat} (h : MinW l g x (k + 1)) (hk : 1 ≤ k) : ∃ e, (⟨g, e⟩ : T_impl_Nest) ∈ l ∧ MinW l e x k := by
  obtain ⟨h1, h2, h4⟩ := h
  obtain ⟨e, h3, h5⟩ := Walk.front.1 h2
  exact ⟨e, h3, hk, h5, fun i a b c => h4 (i + 1) (by omega) (by omega) (Walk.front.2 ⟨e, h3, c⟩)⟩
open Classical in
theorem pigeon {α : Type} : ∀ {l m : List α}, l.Nodup → (∀ x, x ∈ l → x ∈ m) → l.length ≤ m.length
  | [], m, _, _ => by simp
  | a :: l, m, hn, hs => by
    obtain ⟨h1, h2⟩ := List.nodup_cons.1 hn
    have ha := hs a (by simp)
    have := pigeon (m := m.erase a) h2 fun x hx => (List.mem_erase_of_ne (fun e => h1 (by rw [← e]; exact hx))).2 (hs x (by simp [hx]))
    rw [List.length_erase_of_mem ha] at this
    have hpos : 0 < m.length := List.length_pos_of_mem ha
    simp
    omega

/-! ### One level -/
section
variable (l : List T_impl_Nest)
open Classical in
/-- What one nest adds. -/
noncomputable def s3 (e : ByteArray) (b : List ByteArray × List ByteArray) (n : T_impl_Nest) : List ByteArray × List ByteArray :=
  if n.Group_ = e ∧ n.Member_ ∉ b.1 then (b.1 ++ [n.Member_], b.2 ++ [n.Member_]) else b
noncomputable def f3 (e : ByteArray) (b : List ByteArray × List ByteArray) : List ByteArray × List ByteArray := l.foldl (s3 e) b
noncomputable def f2 (now : List ByteArray) (b : List ByteArray × List ByteArray) : List ByteArray × List ByteArray := now.foldl (fun b e => f3 l e b) b
variable {l}
theorem f3_ok {e : ByteArray} : ∀ (l : List T_impl_Nest) (b : List ByteArray × List ByteArray), b.1.Nodup → ∃ nx, f3 l e b = (b.1 ++ nx, b.2 ++ nx) ∧ (b.1 ++ nx).Nodup ∧ ∀ x, x ∈ nx ↔ x ∉ b.1 ∧ (⟨e, x⟩ : T_impl_Nest) ∈ l
  | [], b, hb => ⟨[], by simp [f3], by simpa using hb, fun x => by simp⟩
  | n :: l, b, hb => by
    show ∃ nx, f3 l e (s3 e b n) = _ ∧ _
    unfold s3
    by_cases h : n.Group_ = e ∧ n.Member_ ∉ b.1
    · rw [if_pos h]
      have hb2 : (b.1 ++ [n.Member_]).Nodup := by
        rw [List.nodup_append]
        exact ⟨hb, by simp, fun x hx y hy hxy => h.2 (by simp at hy; rw [← hy, ← hxy]; exact hx)⟩
      obtain ⟨nx, h1, h2, h3⟩ := f3_ok l (b.1 ++ [n.Member_], b.2 ++ [n.Member_]) hb2
      refine ⟨n.Member_ :: nx, by rw [h1]; simp, by simpa using h2, fun x => ?_⟩
      rw [List.mem_cons, h3]
      simp only [List.mem_append, List.mem_singleton, List.mem_cons, not_or]
      constructor
      · rintro (rfl | ⟨⟨h4, h5⟩, h6⟩)
        · exact ⟨h.2, .inl (by cases n; simp_all)⟩
        · exact ⟨h4, .inr h6⟩
      · rintro ⟨h4, h5 | h5⟩
        · left; rw [← h5]
        · by_cases h6 : x = n.Member_
          · exact .inl h6
          · exact .inr ⟨⟨h4, h6, by simp⟩, h5⟩
    · rw [if_neg h]
      obtain ⟨nx, h1, h2, h3⟩ := f3_ok l b hb
      refine ⟨nx, h1, h2, fun x => ?_⟩
      rw [h3]
      simp only [List.mem_cons]
      constructor
      · rintro ⟨h4, h5⟩; exact ⟨h4, .inr h5⟩
      · rintro ⟨h4, h5 | h5⟩
        · exact absurd ⟨by rw [← h5], by rw [← h5]; exact h4⟩ h
        · exact ⟨h4, h5⟩
theorem f2_ok : ∀ (now : List ByteArray) (b : List ByteArray × List ByteArray), b.1.Nodup → ∃ nx, f2 l now b = (b.1 ++ nx, b.2 ++ nx) ∧ (b.1 ++ nx).Nodup ∧ ∀ x, x ∈ nx ↔ x ∉ b.1 ∧ ∃ e, e ∈ now ∧ (⟨e, x⟩ : T_impl_Nest) ∈ l
  | [], b, hb => ⟨[], by simp [f2], by simpa using hb, fun x => by simp⟩
  | e :: now, b, hb => by
    show ∃ nx, f2 l now (f3 l e b) = _ ∧ _
    obtain ⟨n1, h1, h2, h3⟩ := f3_ok (e := e) l b hb
    obtain ⟨n2, k1, k2, k3⟩ := f2_ok now (f3 l e b) (by rw [h1]; exact h2)
    rw [h1] at k1 k2 k3
    refine ⟨n1 ++ n2, by rw [h1, k1]; simp, by simpa using k2, fun x => ?_⟩
    rw [List.mem_append, h3, k3]
    simp only [List.mem_append, List.mem_cons, not_or, h3]
    constructor
    · rintro (⟨h4, h5⟩ | ⟨⟨h4, _⟩, y, h6, h7⟩)
      · exact ⟨h4, e, .inl rfl, h5⟩
      · exact ⟨h4, y, .inr h6, h7⟩
    · rintro ⟨h4, y, rfl | h6, h7⟩
      · exact .inl ⟨h4, h7⟩
      · by_cases h8 : (⟨e, x⟩ : T_impl_Nest) ∈ l
        · exact .inl ⟨h4, h8⟩
        · exact .inr ⟨⟨h4, fun h9 => h8 h9.2⟩, y, h6, h7⟩

/-- Where a search stands after so many levels. -/
structure Lev (l : List T_impl_Nest) (g : ByteArray) (k : Nat) (seen now : List ByteArray) : Prop where
  nd : seen.Nodup
  mem : ∀ x, x ∈ seen ↔ ∃ j, j ≤ k ∧ MinW l g x j
  now0 : k = 0 → now = [g]
  nowk : 1 ≤ k → ∀ x, x ∈ now ↔ MinW l g x k
theorem Lev.start (g : ByteArray) : Lev l g 0 [] [g] := ⟨.nil, fun x => by
  constructor
  · intro h; cases h
  · rintro ⟨j, h1, h2⟩; have := h2.1; omega, fun _ => rfl, fun h => by omega⟩
theorem Lev.next {g : ByteArray} {k : Nat} {seen now : List ByteArray} (h : Lev l g k seen now) :
    ∃ nx, f2 l now (seen, []) = (seen ++ nx, nx) ∧ Lev l g (k + 1) (seen ++ nx) nx ∧ ∀ x, x ∈ nx ↔ MinW l g x (k + 1) := by
  obtain ⟨nx, h1, h2, h3⟩ := f2_ok (l := l) now (seen, []) h.nd
  have key : ∀ x, x ∈ nx ↔ MinW l g x (k + 1) := fun x => by
    rw [h3]
    constructor
    · rintro ⟨h4, e, h5, h6⟩
      have hw : Walk l (k + 1) g x := by
        refine ⟨e, ?_, h6⟩
        rcases Nat.eq_zero_or_pos k with h0 | h0
        · subst h0
          rw [h.now0 rfl] at h5
          simp at h5
          exact h5.symm
        · exact ((h.nowk h0 e).1 h5).2.1
      refine ⟨by omega, hw, fun i a b c => h4 ?_⟩
      obtain ⟨q, q1, q2⟩ := MinW.of a c
      exact (h.mem x).2 ⟨q, by omega, q2⟩
    · intro hm
      refine ⟨fun hs => ?_, ?_⟩
      · obtain ⟨j, j1, j2⟩ := (h.mem x).1 hs
        have := j2.uniq hm
        omega
      · obtain ⟨e, e1, e2, e3⟩ := hm.last
        refine ⟨e, ?_, e1⟩
        rcases Nat.eq_zero_or_pos k with h0 | h0
        · rw [h.now0 h0, e2 h0]; simp
        · exact (h.nowk h0 e).2 (e3 h0)
  refine ⟨nx, by simpa using h1, ⟨h2, fun x => ?_, fun h => by omega, fun _ => key⟩, key⟩
  rw [List.mem_append, h.mem, key]
  constructor
  · rintro (⟨j, j1, j2⟩ | h)
    · exact ⟨j, by omega, j2⟩
    · exact ⟨k + 1, Nat.le_refl _, h⟩
  · rintro ⟨j, j1, j2⟩
    by_cases hj : j = k + 1
    · subst hj; exact .inr j2
    · exact .inl ⟨j, by omega, j2⟩
/-- The last level. -/
theorem Lev.done {g : ByteArray} {k : Nat} {seen : List ByteArray} (h : Lev l g k seen []) (x : ByteArray) : x ∈ seen ↔ ∃ j, MinW l g x j := by
  rw [h.mem]
  constructor
  · rintro ⟨j, _, h1⟩; exact ⟨j, h1⟩
  · rintro ⟨j, h1⟩
    refine ⟨j, Nat.le_of_not_lt fun hj => ?_, h1⟩
    have hk : 1 ≤ k := by
      rcases Nat.eq_zero_or_pos k with h0 | h0
      · have := h.now0 h0; cases this
      · exact h0
    have down : ∀ d, ∀ y, MinW l g y (k + d) → False := by
      intro d
      induction d with
      | zero => intro y hy; have := (h.nowk hk y).2 hy; cases this
      | succ d ih =>
        intro y hy
        obtain ⟨e, _, _, h3⟩ := MinW.last (k := k + d) hy
        exact ih e (h3 (by omega))
    exact down (j - k) x (by rw [show k + (j - k) = j by omega]; exact h1)
theorem Lev.len {g : ByteArray} {k : Nat} {seen now : List ByteArray} (h : Lev l g k seen now) : seen.length ≤ l.length := by
  have := pigeon (m := l.map (·.Member_)) h.nd fun x hx => by
    obtain ⟨j, _, h1, h2, _⟩ := (h.mem x).1 hx
    obtain ⟨j, rfl⟩ : ∃ q, j = q + 1 := ⟨j - 1, by omega⟩
    obtain ⟨e, _, h3⟩ := h2
    exact List.mem_map.2 ⟨_, h3, rfl⟩
  simpa using this
end

theorem foldI_const {α β : Type} (f : β → α → β) : ∀ (l : List α) (i : Nat) (b : β), foldI (fun _ a b => f b a) l i b = l.foldl f b
  | [], _, _ => rfl
  | a :: l, i, b => by rw [foldI, List.foldl_cons, foldI_const f l]
/-- A range over a list, as a fold. -/
theorem loop_foldl {α β S Q : Type} (xs : List α) (step : S → Option (S ⊕ Q)) (mk : β → Int → S) (f : β → α → β) (out : β → Q) (Inv : Nat → β → Prop)
    (hs : ∀ (i : Nat) (a : α) (b : β), xs[i]? = some a → Inv i b → step (mk b (i : Int)) = some (.inl (mk (f b a) ((i : Int) + 1))) ∧ Inv (i + 1) (f b a))
    (he : ∀ b, Inv xs.length b → step (mk b (xs.length : Int)) = some (.inr (out b))) (b : β) (h0 : Inv 0 b) : loopO step (mk b 0) = some (out (xs.foldl f b)) ∧ Inv xs.length (xs.foldl f b) := by
  have := loop_fold xs step mk (fun _ a b => f b a) out Inv hs he xs.length 0 b (by omega) h0
  rw [List.drop_zero, foldI_const] at this
  exact this
end Go.G36.RC
/- yfrom and l5Rings find the least ways. -/
namespace Go.G36.RC
set_option linter.all false
open Go Go.G36 Go.Proofs Go.G36.RcAnc

theorem ba_beq (a b : ByteArray) : (a == b) = true ↔ a = b := by
  cases a with | mk a => cases b with | mk b =>
  constructor
  · intro h
    congr 1
    exact eq_of_beq (α := Array UInt8) h
  · intro h
    injection h with h
    subst h
    exact beq_self_eq_true (α := Array UInt8) a
instance baLaw : LawfulBEq ByteArray where
  eq_of_beq h := (ba_beq _ _).1 h
  rfl := (ba_beq _ _).2 rfl
theorem mfind_none {κ ε : Type} [BEq κ] [LawfulBEq κ] {k : κ} : ∀ (xs : List (κ × ε)) (i : Nat), mfind k xs i = none ↔ k ∉ xs.map (·.1)
  | [], i => by simp [mfind]
  | e :: r, i => by
    rw [mfind]
    cases hb : (k == e.1) with
    | true => simp [eq_of_beq hb]
    | false => simp [mfind_none r (i + 1), show ¬ k = e.1 from fun h => by simp [h] at hb]
theorem mget_mem {m : List (ByteArray × Int)} {x : ByteArray} {v : Int} (hn : (m.map (·.1)).Nodup) (h : (x, v) ∈ m) : mget m x = some v := by
  unfold mget
  cases hf : mfind x m 0 with
  | none => exact absurd (List.mem_map.2 ⟨_, h, rfl⟩) ((mfind_none m 0).1 hf)
  | some jv =>
    obtain ⟨j, v'⟩ := jv
    obtain ⟨_, k', h1, h2⟩ := mfind_at m 0 j v' hf
    have h3 := (ba_beq _ _).1 h2
    subst h3
    have hm := List.mem_of_getElem? h1
    have : v' = v := by
      obtain ⟨i, hi, e1⟩ := List.mem_iff_getElem.1 h
      obtain ⟨i', hi', e2⟩ := List.mem_iff_getElem.1 hm
      have hp := List.pairwise_iff_getElem.1 hn
      rcases Nat.lt_trichotomy i i' with l | l | l
      · exact (hp i i' (by simpa using hi) (by simpa using hi') l (by simp [e1, e2])).elim
      · subst l; rw [e1] at e2; injection e2 with _ e2; exact e2.symm
      · exact (hp i' i (by simpa using hi') (by simpa using hi) l (by simp [e1, e2])).elim
    subst this
    rfl
/-- All that a map tells is one at least. -/
def Pos (m : List (ByteArray × Int)) : Prop := ∀ e, e ∈ m → 1 ≤ e.2
theorem pos_get {m : List (ByteArray × Int)} (h : Pos m) (k : ByteArray) : (((mget m k).getD 0) == 0) = true ↔ k ∉ m.map (·.1) := by
  rw [beq_iff_eq]
  unfold mget
  cases hf : mfind k m 0 with
  | none => simpa using (mfind_none m 0).1 hf
  | some jv =>
    obtain ⟨j, v⟩ := jv
    obtain ⟨_, k', h1, h2⟩ := mfind_at m 0 j v hf
    have hm := List.mem_of_getElem? h1
    have hv := h _ hm
    have hk : k ∈ m.map (·.1) := List.mem_map.2 ⟨_, hm, ((ba_beq _ _).1 h2).symm⟩
    simp only [Option.map_some, Option.getD_some]
    constructor
    · intro h0; simp at hv; omega
    · intro h0; exact absurd hk h0
theorem new_put {m : List (ByteArray × Int)} {k : ByteArray} {v : Int} (hk : k ∉ m.map (·.1)) : mput m k v = m ++ [(k, v)] := by
  unfold mput
  rw [(mfind_none m 0).2 hk]

section
variable {l : List T_impl_Nest} {g : ByteArray}
theorem s3_len (e : ByteArray) (b : List ByteArray × List ByteArray) (n : T_impl_Nest) : (s3 e b n).2.length ≤ b.2.length + 1 := by
  unfold s3; split <;> simp
theorem f3_len (e : ByteArray) : ∀ (l : List T_impl_Nest) (b : List ByteArray × List ByteArray), (f3 l e b).2.length ≤ b.2.length + l.length
  | [], b => by simp [f3]
  | n :: l, b => by
    have h1 := f3_len e l (s3 e b n)
    have h2 := s3_len e b n
    show (f3 l e (s3 e b n)).2.length ≤ _
    simp only [List.length_cons]; omega
/-- A level's map and its next members. -/
abbrev mkM (m0 : List (ByteArray × Int)) (v : Int) (b : List ByteArray × List ByteArray) (i : Int) : List (ByteArray × Int) × List ByteArray × Int := (m0 ++ b.2.map (fun x => (x, v)), b.2, i)
def InvM (m0 : List (ByteArray × Int)) (b : List ByteArray × List ByteArray) : Prop := b.1 = m0.map (·.1) ++ b.2
theorem mkM_keys {m0 : List (ByteArray × Int)} {v : Int} {b : List ByteArray × List ByteArray} (h : InvM m0 b) : (m0 ++ b.2.map (fun x => (x, v))).map (·.1) = b.1 := by
  rw [h, List.map_append, List.map_map]
  congr 1
  simp [Function.comp_def]
theorem yfrom_l3 {m0 : List (ByteArray × Int)} {v : Int} (e : ByteArray) (hl : l.length ≤ 200) (hm : Pos m0) (hv : 1 ≤ v) (b : List ByteArray × List ByteArray) (hb : InvM m0 b) (hbl : b.2.length ≤ 1000000) :
    loopO (impl_yfrom_l3 l v e) (mkM m0 v b 0) = some (m0 ++ (f3 l e b).2.map (fun x => (x, v)), (f3 l e b).2) ∧ InvM m0 (f3 l e b) := by
  have := loop_foldl l (impl_yfrom_l3 l v e) (mkM m0 v) (s3 e) (fun b => (m0 ++ b.2.map (fun x => (x, v)), b.2)) (fun i c => InvM m0 c ∧ c.2.length ≤ b.2.length + i) (fun i a c ha hI => ?_) (fun c _ => by unfold impl_yfrom_l3; simp) b ⟨hb, by omega⟩
  · exact ⟨this.1, this.2.1⟩
  · have hil := (List.getElem?_eq_some_iff.1 ha).1
    obtain ⟨hI, hIl⟩ := hI
    have hpos : Pos (m0 ++ c.2.map (fun x => (x, v))) := fun q hq => by
      rcases List.mem_append.1 hq with h | h
      · exact hm q h
      · obtain ⟨y, _, rfl⟩ := List.mem_map.1 h; exact hv
    unfold impl_yfrom_l3
    dsimp only
    rw [ltn hil, cond_true, idx_nat, ha, Option.bind_some, wrap_succ (by omega)]
    by_cases h : a.Group_ = e ∧ a.Member_ ∉ c.1
    · have hs : s3 e c a = (c.1 ++ [a.Member_], c.2 ++ [a.Member_]) := by unfold s3; rw [if_pos h]
      have h2 : a.Member_ ∉ (m0 ++ c.2.map (fun x => (x, v))).map (·.1) := by rw [mkM_keys hI]; exact h.2
      rw [(tl_beq _ _).2 h.1, Bool.true_and, (pos_get hpos _).2 h2, cond_true, app_get (by simp; omega), Option.bind_some, new_put h2, hs]
      refine ⟨by simp, ?_, ?_⟩
      · unfold InvM at *; rw [hI]; simp
      · simp; omega
    · have hs : s3 e c a = c := by unfold s3; rw [if_neg h]
      rw [hs]
      have : ((a.Group_.toList == e.toList) && (((mget (m0 ++ c.2.map (fun x => (x, v))) a.Member_).getD 0) == 0)) = false := by
        rw [Bool.eq_false_iff]
        intro hc
        rw [Bool.and_eq_true] at hc
        refine h ⟨(tl_beq _ _).1 hc.1, ?_⟩
        have := (pos_get hpos _).1 hc.2
        rwa [mkM_keys hI] at this
      rw [this, cond_false]
      exact ⟨rfl, hI, by omega⟩
theorem yfrom_l2 {m0 : List (ByteArray × Int)} {v : Int} (now : List ByteArray) (hl : l.length ≤ 200) (hn : now.length ≤ 1000) (hm : Pos m0) (hv : 1 ≤ v) :
    loopO (impl_yfrom_l2 l now v) (m0, [], 0) = some (m0 ++ (f2 l now (m0.map (·.1), [])).2.map (fun x => (x, v)), (f2 l now (m0.map (·.1), [])).2) := by
  have := loop_foldl now (impl_yfrom_l2 l now v) (mkM m0 v) (fun b e => f3 l e b) (fun b => (m0 ++ b.2.map (fun x => (x, v)), b.2)) (fun i c => InvM m0 c ∧ c.2.length ≤ i * 200) (fun i a c ha hI => ?_) (fun c _ => by unfold impl_yfrom_l2; simp) (m0.map (·.1), []) ⟨by simp [InvM], by simp⟩
  · have h := this.1
    rw [show mkM m0 v (m0.map (·.1), []) 0 = (m0, [], 0) by simp [mkM]] at h
    exact h
  · have hil := (List.getElem?_eq_some_iff.1 ha).1
    obtain ⟨h1, h2⟩ := yfrom_l3 (l := l) (m0 := m0) (v := v) a hl hm hv c hI.1 (by have := hI.2; omega)
    unfold impl_yfrom_l2
    dsimp only
    rw [ltn hil, cond_true, idx_nat, ha, Option.bind_some, wrap_succ (by omega)]
    have h1' : loopO (impl_yfrom_l3 l v a) (m0 ++ c.2.map (fun x => (x, v)), c.2, 0) = _ := h1
    rw [h1', Option.bind_some]
    refine ⟨rfl, h2, ?_⟩
    have := f3_len a l c
    have := hI.2
    rw [Nat.add_mul]; omega

/-- What yfrom tells. -/
structure From (l : List T_impl_Nest) (g : ByteArray) (m : List (ByteArray × Int)) : Prop where
  nd : (m.map (·.1)).Nodup
  iff : ∀ x j, (x, j) ∈ m ↔ ∃ q : Nat, j = (q : Int) ∧ MinW l g x q
  len : m.length ≤ l.length
theorem yfrom_ok (hl : l.length ≤ 200) (g : ByteArray) : Ok (impl_yfrom l g) (From l g) := by
  unfold impl_yfrom
  refine Ok.bind (Q := From l g) ?_ fun r hr => Ok.some hr
  refine Ok.loop (fun n st => ∃ (k : Nat) (seen : List ByteArray), n = 2 * (l.length - seen.length) + (if st.2.1 = [] then 0 else 1) ∧ st.2.2 = ((k + 1 : Nat) : Int) ∧ Lev l g k seen st.2.1 ∧ st.1.map (·.1) = seen ∧
    (∀ x j, (x, j) ∈ st.1 ↔ ∃ q : Nat, j = (q : Int) ∧ q ≤ k ∧ MinW l g x q) ∧ st.2.1.length ≤ 1000 ∧ (st.2.1 ≠ [] → k ≤ seen.length) ∧ k ≤ seen.length + 1) ?_ (n := 2 * (l.length - 0) + 1)
    ⟨0, [], by simp, rfl, Lev.start g, rfl, fun x j => ⟨fun h => (by cases h), fun h => (by obtain ⟨q, _, h1, h2⟩ := h; have := h2.1; omega)⟩, by simp, fun _ => Nat.le_refl _, by omega⟩
  rintro n ⟨m, now, v⟩ ⟨k, seen, hnm, hv, hlev, hks, hmm, hnl, hk1, hk2⟩
  dsimp only at hnm hv hlev hks hmm hnl hk1 hk2
  subst hv
  have hpos : Pos m := fun e he => by
    obtain ⟨q, h1, _, h2⟩ := (hmm e.1 e.2).1 he
    have := h2.1
    omega
  have hsl := hlev.len
  unfold impl_yfrom_l1
  dsimp only
  refine Ok.cond (fun hd => ?_) (fun hd => ?_)
  · have hd := of_decide_eq_true hd
    have hne : now ≠ [] := fun h => by rw [h] at hd; simp at hd
    obtain ⟨nx, h1, h2, h3⟩ := hlev.next
    rw [yfrom_l2 now hl hnl hpos (by omega), hks, h1, Option.bind_some]
    have h4 := h2.len
    rw [List.length_append] at h4
    rw [wrap_succ (i := k + 1) (by omega)]
    refine Ok.some ⟨2 * (l.length - (seen ++ nx).length) + (if nx = [] then 0 else 1), ?_, k + 1, seen ++ nx, rfl, by simp, h2, ?_, fun x j => ?_, by dsimp only; omega, fun hx => ?_, ?_⟩
    · rw [hnm, if_neg hne, List.length_append]
      by_cases hx : nx = []
      · subst hx; simp
      · have : 0 < nx.length := List.length_pos_iff.2 hx
        rw [if_neg hx]; omega
    · rw [List.map_append, hks, List.map_map]
      congr 1
      simp [Function.comp_def]
    · dsimp only
      rw [List.mem_append, hmm]
      constructor
      · rintro (⟨q, q1, q2, q3⟩ | h)
        · exact ⟨q, q1, by omega, q3⟩
        · obtain ⟨y, hy, e⟩ := List.mem_map.1 h
          injection e with e1 e2
          subst e1; subst e2
          exact ⟨k + 1, rfl, Nat.le_refl _, (h3 y).1 hy⟩
      · rintro ⟨q, q1, q2, q3⟩
        by_cases hq : q = k + 1
        · subst hq; subst q1
          exact .inr (List.mem_map.2 ⟨x, (h3 x).2 q3, rfl⟩)
        · exact .inl ⟨q, q1, by omega, q3⟩
    · have : 0 < nx.length := List.length_pos_iff.2 hx
      have := hk1 hne
      rw [List.length_append]; omega
    · have := hk1 hne
      rw [List.length_append]; omega
  · have hd := of_decide_eq_false hd
    have hnow : now = [] := List.length_eq_zero_iff.1 (by omega)
    subst hnow
    refine Ok.some ⟨by rw [hks]; exact hlev.nd, fun x j => ?_, ?_⟩
    · rw [hmm]
      constructor
      · rintro ⟨q, q1, _, q3⟩; exact ⟨q, q1, q3⟩
      · rintro ⟨q, q1, q3⟩
        obtain ⟨j', j1, j2⟩ := (hlev.mem x).1 ((hlev.done x).2 ⟨q, q3⟩)
        have := j2.uniq q3
        subst this
        exact ⟨_, q1, j1, q3⟩
    · have : m.length = seen.length := by rw [← hks, List.length_map]
      omega
end
end Go.G36.RC
/- The rings. -/
namespace Go.G36.RC
set_option linter.all false
open Go Go.G36 Go.Proofs Go.G36.RcAnc

open Classical in
theorem has_eq (l : List ByteArray) (x : ByteArray) (hl : l.length ≤ 4000000) : spec_l3Has l x = some (decide (x ∈ l)) := by
  unfold spec_l3Has
  have := loop_find l (spec_l3Has_l1 l x) (fun a => a.toList == x.toList) (fun _ => true) (fun i a ha => ?_) (by unfold spec_l3Has_l1; simp)
  · rw [this, Option.bind_some]
    cases hf : l.find? (fun a => a.toList == x.toList) with
    | none =>
      show some false = _
      rw [decide_eq_false]
      intro hx
      have := List.find?_eq_none.1 hf x hx
      simp at this
    | some a =>
      show some true = _
      have h1 := List.find?_some hf
      have h2 := List.mem_of_find?_eq_some hf
      rw [(tl_beq _ _).1 h1] at h2
      rw [decide_eq_true h2]
  · have hil := (List.getElem?_eq_some_iff.1 ha).1
    unfold spec_l3Has_l1
    dsimp only
    rw [ltn hil, cond_true, idx_nat, ha, Option.bind_some, wrap_succ (by omega)]
    cases (a.toList == x.toList) <;> rfl

section
variable {l : List T_impl_Nest} {g : ByteArray}
theorem s3_len1 (e : ByteArray) (b : List ByteArray × List ByteArray) (n : T_impl_Nest) : (s3 e b n).1.length ≤ b.1.length + 1 := by
  unfold s3; split <;> simp
theorem f3_len1 (e : ByteArray) : ∀ (l : List T_impl_Nest) (b : List ByteArray × List ByteArray), (f3 l e b).1.length ≤ b.1.length + l.length
  | [], b => by simp [f3]
  | n :: l, b => by
    have h1 := f3_len1 e l (s3 e b n)
    have h2 := s3_len1 e b n
    show (f3 l e (s3 e b n)).1.length ≤ _
    simp only [List.length_cons]; omega
abbrev mkS (b : List ByteArray × List ByteArray) (i : Int) : List ByteArray × List ByteArray × Int := (b.1, b.2, i)
theorem rings_l3 (e : ByteArray) (hl : l.length ≤ 200) (b : List ByteArray × List ByteArray) (h1 : b.1.length ≤ 1000000) (h2 : b.2.length ≤ 1000000) : loopO (spec_l5Rings_l3 l e) (b.1, b.2, 0) = some (f3 l e b) := by
  have := loop_foldl l (spec_l5Rings_l3 l e) mkS (s3 e) (fun b => (b.1, b.2)) (fun i c => c.1.length ≤ b.1.length + i ∧ c.2.length ≤ b.2.length + i) (fun i a c ha hI => ?_) (fun c _ => by unfold spec_l5Rings_l3; simp) b ⟨by omega, by omega⟩
  · exact this.1
  · have hil := (List.getElem?_eq_some_iff.1 ha).1
    unfold spec_l5Rings_l3
    dsimp only
    rw [ltn hil, cond_true, idx_nat, ha, Option.bind_some, wrap_succ (by omega), has_eq _ _ (by omega), gdO_some, Option.bind_some]
    have := s3_len e c a
    have := s3_len1 e c a
    by_cases h : a.Group_ = e ∧ a.Member_ ∉ c.1
    · have hs : s3 e c a = (c.1 ++ [a.Member_], c.2 ++ [a.Member_]) := by unfold s3; rw [if_pos h]
      rw [(tl_beq _ _).2 h.1, Bool.true_and, cond_true, decide_eq_false h.2, Bool.not_false, cond_true, app_get (by simp; omega), Option.bind_some, app_get (by simp; omega), Option.bind_some, hs]
      exact ⟨rfl, by simp; omega, by simp; omega⟩
    · have hs : s3 e c a = c := by unfold s3; rw [if_neg h]
      rw [hs]
      cases hg : (a.Group_.toList == e.toList) with
      | false => exact ⟨rfl, by omega, by omega⟩
      | true =>
        have hm : a.Member_ ∈ c.1 := Classical.byContradiction fun k => h ⟨(tl_beq _ _).1 hg, k⟩
        rw [cond_true, decide_eq_true hm]
        exact ⟨rfl, by omega, by omega⟩
theorem rings_l2 (now seen : List ByteArray) (hl : l.length ≤ 200) (hn : now.length ≤ 1000) (hs : seen.length ≤ 200) : loopO (spec_l5Rings_l2 l now) (seen, [], 0) = some (f2 l now (seen, [])) := by
  have := loop_foldl now (spec_l5Rings_l2 l now) mkS (fun b e => f3 l e b) (fun b => (b.1, b.2)) (fun i c => c.1.length ≤ seen.length + i * 200 ∧ c.2.length ≤ i * 200) (fun i a c ha hI => ?_) (fun c _ => by unfold spec_l5Rings_l2; simp) (seen, []) ⟨by simp, by simp⟩
  · exact this.1
  · have hil := (List.getElem?_eq_some_iff.1 ha).1
    unfold spec_l5Rings_l2
    dsimp only
    rw [ltn hil, cond_true, idx_nat, ha, Option.bind_some, wrap_succ (by omega), rings_l3 a hl c (by omega) (by omega), Option.bind_some]
    refine ⟨rfl, ?_, ?_⟩
    · have := f3_len1 a l c
      rw [Nat.add_mul]; omega
    · have := f3_len a l c
      rw [Nat.add_mul]; omega
/-- What the rings tell. -/
structure Rings (l : List T_impl_Nest) (g : ByteArray) (rs : List (List ByteArray)) : Prop where
  iff : ∀ (i : Nat) x, (∃ r, rs[i]? = some r ∧ x ∈ r) ↔ MinW l g x (i + 1)
  len : rs.length ≤ 201
  each : ∀ r, r ∈ rs → r.length ≤ 200
theorem rings_ok (hl : l.length ≤ 200) (g : ByteArray) : Ok (spec_l5Rings l g) (Rings l g) := by
  unfold spec_l5Rings
  refine Ok.bind (Q := fun q => Rings l g q.1) ?_ fun r hr => Ok.some hr
  refine Ok.loop (fun n st => ∃ (k : Nat), n = 2 * (l.length - st.2.1.length) + (if st.2.2 = [] then 0 else 1) ∧ Lev l g k st.2.1 st.2.2 ∧
    (∀ (i : Nat) x, (∃ r, st.1[i]? = some r ∧ x ∈ r) ↔ i < k ∧ MinW l g x (i + 1)) ∧ (st.2.2 ≠ [] → st.1.length = k) ∧ st.1.length ≤ k ∧ (∀ r, r ∈ st.1 → r.length ≤ 200) ∧ st.2.2.length ≤ 1000 ∧ (st.2.2 ≠ [] → k ≤ st.2.1.length) ∧ k ≤ st.2.1.length + 1) ?_ (n := 2 * (l.length - 0) + 1)
    ⟨0, by simp, Lev.start g, fun i x => ⟨fun h => (by obtain ⟨r, h, _⟩ := h; simp at h), fun h => (by have := h.1; omega)⟩, fun _ => rfl, by simp, fun r h => (by cases h), by simp, fun _ => Nat.le_refl _, by omega⟩
  rintro n ⟨rs, seen, now⟩ ⟨k, hnm, hlev, hrs, hr1, hr2, hr3, hnl, hk1, hk2⟩
  dsimp only at hnm hlev hrs hr1 hr2 hr3 hnl hk1 hk2
  have hsl := hlev.len
  unfold spec_l5Rings_l1
  dsimp only
  refine Ok.cond (fun hd => ?_) (fun hd => ?_)
  · have hd := of_decide_eq_true hd
    have hne : now ≠ [] := fun h => by rw [h] at hd; simp at hd
    obtain ⟨nx, h1, h2, h3⟩ := hlev.next
    rw [rings_l2 now seen hl hnl (by omega), h1, Option.bind_some]
    have h4 := h2.len
    rw [List.length_append] at h4
    have hk := hk1 hne
    have hr := hr1 hne
    dsimp only
    refine Ok.cond (fun hx => ?_) (fun hx => ?_)
    · have hx := of_decide_eq_true hx
      have hxn : nx ≠ [] := fun h => by rw [h] at hx; simp at hx
      rw [app_get (by simp; omega), Option.bind_some]
      refine Ok.some ⟨2 * (l.length - (seen ++ nx).length) + (if nx = [] then 0 else 1), ?_, k + 1, rfl, h2, fun i x => ?_, fun _ => by simp [hr], by simp; omega, fun r hm => ?_, by dsimp only; omega, fun _ => ?_, ?_⟩
      · rw [hnm, if_neg hne, List.length_append, if_neg hxn]; omega
      · dsimp only
        by_cases hi : i < k
        · rw [List.getElem?_append_left (by omega), hrs]
          exact ⟨fun h => ⟨by omega, h.2⟩, fun h => ⟨hi, h.2⟩⟩
        · rw [List.getElem?_append_right (by omega)]
          by_cases hi2 : i = k
          · subst hi2
            rw [hr, Nat.sub_self]
            simp only [List.getElem?_cons_zero, Option.some.injEq, exists_eq_left', h3]
            exact ⟨fun h => ⟨by omega, h⟩, fun h => h.2⟩
          · rw [List.getElem?_eq_none (by simp; omega)]
            constructor
            · rintro ⟨r, h, _⟩; cases h
            · rintro ⟨h, _⟩; omega
      · rcases List.mem_append.1 hm with h | h
        · exact hr3 r h
        · rw [List.mem_singleton.1 h]; omega
      · rw [List.length_append]; omega
      · rw [List.length_append]; omega
    · have hx := of_decide_eq_false hx
      have hxn : nx = [] := List.length_eq_zero_iff.1 (by omega)
      subst hxn
      refine Ok.some ⟨2 * (l.length - (seen ++ []).length) + 0, ?_, k + 1, by simp, h2, fun i x => ?_, fun h => absurd rfl h, by dsimp only; omega, hr3, by simp, fun h => absurd rfl h, by simp; omega⟩
      · rw [hnm, if_neg hne]; simp
      · dsimp only
        rw [hrs]
        constructor
        · rintro ⟨a, b⟩; exact ⟨by omega, b⟩
        · rintro ⟨a, b⟩
          by_cases hi : i = k
          · subst hi; have := (h3 x).2 b; cases this
          · exact ⟨by omega, b⟩
  · have hd := of_decide_eq_false hd
    have hnow : now = [] := List.length_eq_zero_iff.1 (by omega)
    subst hnow
    refine Ok.some ⟨fun i x => ?_, by dsimp only; omega, hr3⟩
    dsimp only
    rw [hrs]
    refine ⟨fun h => h.2, fun h => ⟨?_, h⟩⟩
    obtain ⟨j', j1, j2⟩ := (hlev.mem x).1 ((hlev.done x).2 ⟨_, h⟩)
    have := j2.uniq h
    omega
end
end Go.G36.RC
