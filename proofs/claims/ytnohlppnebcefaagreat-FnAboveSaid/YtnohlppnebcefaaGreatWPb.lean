/- FnAbove, plain part: good things: both say the same. -/
import Derived.Test.YtnohlppnebcefaaGreatWPa
import Derived.Test.YtnohlppnebcefaaGreatAB
namespace Go.G36.AB
set_option maxRecDepth 20000
set_option maxHeartbeats 2000000
set_option linter.unusedVariables false
set_option linter.unusedSimpArgs false
open Go Go.G36 Go.G36.AbAnc

noncomputable def gA (a : T_impl_Atom) : Bool := (impl_GoodAtom a).getD false
theorem gA_impl {a : T_impl_Atom} (h : AtomOk a) : impl_GoodAtom a = some (gA a) := by
  obtain ⟨v, h1, h2⟩ := atom_both h
  unfold gA; rw [h1]; rfl
theorem gA_spec {a : T_impl_Atom} (h : AtomOk a) : spec_GoodAtom a = some (gA a) := by
  obtain ⟨v, h1, h2⟩ := atom_both h
  unfold gA; rw [h1]; exact h2
noncomputable def gR (a : T_impl_Atom) : Bool := (a.Kind_ == 4) && gA a
theorem gR_impl {a : T_impl_Atom} (h : AtomOk a) : impl_ygoodRef a = some (gR a) := by
  unfold impl_ygoodRef gR
  rw [gA_impl h, gdO_some, Option.bind_some]
  cases (a.Kind_ == 4) <;> rfl
theorem gR_spec {a : T_impl_Atom} (h : AtomOk a) : spec_l11Ref a = some (gR a) := by
  unfold spec_l11Ref gR
  rw [gA_spec h, gdO_some, Option.bind_some]
  cases (a.Kind_ == 4) <;> rfl
noncomputable def gN (n : ByteArray) : Bool := (impl_GoodName n).getD false
theorem gN_impl {n : ByteArray} (h : n.size ≤ 1000) : impl_GoodName n = some (gN n) := by
  obtain ⟨v, h1, h2⟩ := name_both h
  unfold gN; rw [h1]; rfl
theorem gN_spec {n : ByteArray} (h : n.size ≤ 1000) : spec_GoodName n = some (gN n) := by
  obtain ⟨v, h1, h2⟩ := name_both h
  unfold gN; rw [h1]; exact h2

/-- A look at the element before, where there is one. -/
theorem rise {α R : Type} [Inhabited α] (g : Bool) (i : Nat) (xs : List α) (cmp : α → Option Int) (lt : Bool) (hi : i < xs.length) (hb : xs.length ≤ 4000000) (h : ∀ p, 0 < i → xs[i - 1]? = some p → ∃ c, cmp p = some c ∧ decide (c ≥ 0) = !lt) :
    ∃ c, (∀ K : Int → Option R, ((gdO ((!(!g)) && decide ((i : Int) > 0)) (idx xs (IntKind.i64.wrap ((i : Int) - 1)))).bind fun e => (gdO ((!(!g)) && decide ((i : Int) > 0)) (cmp e)).bind K) = K c) ∧ ((!g) || (decide ((i : Int) > 0) && decide (c ≥ 0))) = !(g && (decide (i = 0) || lt)) := by
  cases g with
  | false => exact ⟨default, fun K => rfl, rfl⟩
  | true =>
    rcases Nat.eq_zero_or_pos i with rfl | h0
    · refine ⟨default, fun K => ?_, by simp⟩
      rw [show decide (((0 : Nat) : Int) > 0) = false from decide_eq_false (by omega)]
      rfl
    · have hp : xs[i - 1]? = some xs[i - 1] := List.getElem?_eq_getElem (by omega)
      obtain ⟨c, h1, h2⟩ := h _ h0 hp
      refine ⟨c, fun K => ?_, ?_⟩
      · rw [gtz h0, pre h0 (by omega), idx_nat, hp]
        show ((some xs[i - 1]).bind fun e => (cmp e).bind K) = K c
        rw [Option.bind_some, h1, Option.bind_some]
      · rw [gtz h0, h2, show decide (i = 0) = false from decide_eq_false (by omega)]
        cases lt <;> rfl
theorem prevG {α : Type} [Inhabited α] {l : List α} {i : Nat} {p : α} (h0 : 0 < i) (h : l[i - 1]? = some p) : l.getD (i - 1) default = p := by
  rw [List.getD_eq_getElem?_getD, h]; rfl
def ltA (l : List T_impl_Atom) (i : Nat) (a : T_impl_Atom) : Bool := decide (cmpA (l.getD (i - 1) default) a < 0)
def ltN (l : List ByteArray) (i : Nat) (a : ByteArray) : Bool := Op.bytesLess (l.getD (i - 1) default).toList a.toList
theorem ltA_impl (l : List T_impl_Atom) (i : Nat) (a : T_impl_Atom) : ∀ p, 0 < i → l[i - 1]? = some p → ∃ c, impl_ycmpAtom p a = some c ∧ decide (c ≥ 0) = !(ltA l i a) := fun p h0 hp => by
  refine ⟨_, impl_cmp p a, ?_⟩
  unfold ltA
  rw [prevG h0 hp]
  by_cases h : cmpA p a < 0
  · rw [decT h, decF (by omega)]; rfl
  · rw [decF h, decT (by omega)]; rfl
theorem ltA_spec {l : List T_impl_Atom} {i : Nat} {a : T_impl_Atom} (hl : ∀ x, x ∈ l → AtomOk x) (ha : AtomOk a) : ∀ p, 0 < i → l[i - 1]? = some p → ∃ c, spec_l1Cmp p a = some c ∧ decide (c ≥ 0) = !(ltA l i a) := fun p h0 hp => by
  obtain ⟨c, h1, h2, h3⟩ := spec_cmp (hl p (List.mem_of_getElem? hp)) ha
  refine ⟨c, h1, ?_⟩
  unfold ltA
  rw [prevG h0 hp]
  by_cases h : cmpA p a < 0
  · rw [decT h, decF (by have := h2.2 h; omega)]; rfl
  · rw [decF h, decT (by have : ¬ c < 0 := fun e => h (h2.1 e); omega)]; rfl
theorem ltN_spec {l : List ByteArray} {i : Nat} {a : ByteArray} (hl : ∀ x, x ∈ l → x.size ≤ 1000) (ha : a.size ≤ 1000) : ∀ p, 0 < i → l[i - 1]? = some p → ∃ c, spec_l1CmpText p a = some c ∧ decide (c ≥ 0) = !(ltN l i a) := fun p h0 hp => by
  have hp1 := hl p (List.mem_of_getElem? hp)
  refine ⟨_, cmpText_eq p a (by unfold big; omega) (by unfold big; omega), ?_⟩
  unfold ltN
  rw [prevG h0 hp, cmpB_less, ByteArray.toList_eq, ByteArray.toList_eq]
/-- Atoms that are good, and rise. -/
noncomputable def bA (l : List T_impl_Atom) (i : Nat) (a : T_impl_Atom) : Bool := gA a && (decide (i = 0) || ltA l i a)
theorem rising_impl {l : List T_impl_Atom} (hl : ∀ x, x ∈ l → AtomOk x) (hb : l.length ≤ 1000) : impl_yrisingAtoms l = some (allI (bA l) l 0) := by
  unfold impl_yrisingAtoms
  rw [loop_allI l _ (bA l) (fun i a ha => by
    have hi := (List.getElem?_eq_some_iff.1 ha).1
    unfold impl_yrisingAtoms_l1
    dsimp only
    rw [ltn hi, cond_true, idx_nat, ha, Option.bind_some, gA_impl (hl a (List.mem_of_getElem? ha)), Option.bind_some, wrap_succ (by omega)]
    obtain ⟨c, h1, h2⟩ := rise (R := Int ⊕ (Unit ⊕ Bool)) (gA a) i l (fun p => impl_ycmpAtom p a) (ltA l i a) hi (by omega) (ltA_impl l i a)
    refine (h1 _).trans ?_
    rw [h2]
    unfold bA
    cases gA a && (decide (i = 0) || ltA l i a) <;> rfl) (by
    unfold impl_yrisingAtoms_l1
    dsimp only
    rw [decF (by omega : ¬ (l.length : Int) < (l.length : Int))]; rfl)]
  cases allI (bA l) l 0 <;> rfl
end Go.G36.AB
/- FnAbove, plain part: good values, fields, things: both say the same. -/
namespace Go.G36.AB
set_option maxRecDepth 20000
set_option maxHeartbeats 2000000
set_option linter.unusedVariables false
set_option linter.unusedSimpArgs false
open Go Go.G36 Go.G36.AbAnc

theorem allI_and {α : Type} (f : Nat → α → Bool) (g : α → Bool) : ∀ (l : List α) (i : Nat), allI (fun i a => f i a && g a) l i = (allI f l i && l.all g)
  | [], _ => rfl
  | a :: r, i => by
    rw [allI, allI, List.all_cons, allI_and f g r]
    cases f i a <;> cases g a <;> cases allI f r (i + 1) <;> rfl
theorem not_any {α : Type} (p : α → Bool) : ∀ l : List α, (!l.any p) = l.all fun a => !p a
  | [] => rfl
  | a :: r => by rw [List.any_cons, List.all_cons, ← not_any p r]; cases p a <;> rfl
theorem kinds_impl (l : List T_impl_Atom) (hb : l.length ≤ 1000) : impl_Atom_ l = some (l.any fun a => a.Kind_ != 4) := by
  unfold impl_Atom_ impl_Atom_x
  exact index_any l _ (fun a => a.Kind_ != 4) (fun i a ha => by
    have hi := (List.getElem?_eq_some_iff.1 ha).1
    unfold impl_Atom_x_l1 impl_ygoodRefs_1
    dsimp only
    rw [ltn hi, cond_true, idx_nat, ha, Option.bind_some, Option.bind_some, wrap_succ (by omega)]
    cases a.Kind_ != 4 <;> rfl) (by
    unfold impl_Atom_x_l1
    dsimp only
    rw [decF (by omega : ¬ (l.length : Int) < (l.length : Int))]; rfl)
noncomputable def bR (l : List T_impl_Atom) (i : Nat) (a : T_impl_Atom) : Bool := gR a && (decide (i = 0) || ltA l i a)
noncomputable def refsOk (l : List T_impl_Atom) : Bool := decide ((l.length : Int) ≤ 50) && allI (bR l) l 0
theorem refs_impl {l : List T_impl_Atom} (hl : ∀ x, x ∈ l → AtomOk x) (hb : l.length ≤ 1000) : impl_ygoodRefs l 50 = some (refsOk l) := by
  unfold impl_ygoodRefs refsOk
  rw [rising_impl hl hb, gdO_some, Option.bind_some, kinds_impl l hb, gdO_some, Option.bind_some]
  have e : allI (bR l) l 0 = (allI (bA l) l 0 && l.all fun a => a.Kind_ == 4) := by
    rw [← allI_and]
    congr 1
    funext i a
    unfold bR bA gR
    cases (a.Kind_ == 4) <;> cases gA a <;> simp
  have e2 : (!l.any fun a => a.Kind_ != 4) = l.all fun a => a.Kind_ == 4 := by
    rw [not_any]
    congr 1
    funext a
    simp [bne]
  rw [e, ← e2]
  cases decide ((l.length : Int) ≤ 50) <;> cases allI (bA l) l 0 <;> rfl
theorem parents_spec {t : T_impl_Thing} (hl : ∀ x, x ∈ t.Parents_ → AtomOk x) (hb : t.Parents_.length ≤ 1000) : loopO (spec_GoodThings_l2 t) 0 = some (cond (allI (bR t.Parents_) t.Parents_ 0) (.inl ()) (.inr false)) :=
  loop_allI t.Parents_ _ (bR t.Parents_) (fun i a ha => by
    have hi := (List.getElem?_eq_some_iff.1 ha).1
    unfold spec_GoodThings_l2
    dsimp only
    rw [ltn hi, cond_true, idx_nat, ha, Option.bind_some, gR_spec (hl a (List.mem_of_getElem? ha)), Option.bind_some, wrap_succ (by omega)]
    obtain ⟨c, h1, h2⟩ := rise (R := Int ⊕ (Unit ⊕ Bool)) (gR a) i t.Parents_ (fun p => spec_l1Cmp p a) (ltA t.Parents_ i a) hi (by omega) (ltA_spec hl (hl a (List.mem_of_getElem? ha)))
    refine (h1 _).trans ?_
    rw [h2]
    unfold bR
    cases gR a && (decide (i = 0) || ltA t.Parents_ i a) <;> rfl) (by
    unfold spec_GoodThings_l2
    dsimp only
    rw [decF (by omega : ¬ (t.Parents_.length : Int) < (t.Parents_.length : Int))]; rfl)

/-! ### Names -/
theorem names_impl {l : List ByteArray} (hl : ∀ x, x ∈ l → x.size ≤ 1000) (hb : l.length ≤ 1000) : impl_yallNames l = some (l.all gN) := by
  unfold impl_yallNames slices_ContainsFunc slices_IndexFunc
  refine (congrArg (fun o => Option.bind o fun r1 => some (!r1)) (index_any l _ (fun a => !gN a) (fun i a ha => by
    have hi := (List.getElem?_eq_some_iff.1 ha).1
    unfold slices_IndexFunc_l1 impl_yallNames_1
    dsimp only
    rw [ltn hi, cond_true, idx_nat, ha, Option.bind_some, gN_impl (hl a (List.mem_of_getElem? ha)), Option.bind_some, Option.bind_some, wrap_succ (by omega)]
    cases gN a <;> rfl) (by
    unfold slices_IndexFunc_l1
    dsimp only
    rw [decF (by omega : ¬ (l.length : Int) < (l.length : Int))]; rfl))).trans ?_
  show some (!l.any fun a => !gN a) = _
  rw [not_any]
  congr 2
  funext a
  simp
noncomputable def bL (l : List ByteArray) (i : Nat) (a : ByteArray) : Bool := decide (i = 0) || ltN l i a
noncomputable def bN (l : List ByteArray) (i : Nat) (a : ByteArray) : Bool := gN a && (decide (i = 0) || ltN l i a)
theorem bN_split (l m : List ByteArray) (i : Nat) : allI (bN l) m i = (allI (bL l) m i && m.all gN) := by
  rw [← allI_and]
  congr 1
  funext i a
  unfold bN bL
  rw [Bool.and_comm]
theorem sorted_impl {l : List ByteArray} (hb : l.length ≤ 1000) : impl_yrising l = some (allI (bL l) l 0) := by
  unfold impl_yrising
  rw [loop_allI l _ (bL l) (fun i a ha => by
    have hi := (List.getElem?_eq_some_iff.1 ha).1
    unfold impl_yrising_l1
    dsimp only
    rw [ltn hi, cond_true, idx_nat, ha, Option.bind_some, wrap_succ (by omega)]
    unfold bL ltN
    rcases Nat.eq_zero_or_pos i with rfl | h0
    · rw [show decide (((0 : Nat) : Int) > 0) = false from decide_eq_false (by omega)]
      rfl
    · have hp : l[i - 1]? = some l[i - 1] := List.getElem?_eq_getElem (by omega)
      rw [gtz h0, pre h0 (by omega), idx_nat, hp, prevG h0 hp, show decide (i = 0) = false from decide_eq_false (by omega)]
      simp only [gdO, cond_true, Option.bind_some, Bool.true_and, Bool.false_or]
      cases Op.bytesLess l[i - 1].toList a.toList <;> rfl) (by
    unfold impl_yrising_l1
    dsimp only
    rw [decF (by omega : ¬ (l.length : Int) < (l.length : Int))]; rfl)]
  cases allI (bL l) l 0 <;> rfl

/-! ### Values -/
structure ValOk (v : T_impl_Value) : Prop where
  atom : AtomOk v.Atom_
  items : ∀ x, x ∈ v.Items_ → AtomOk x
  ilen : v.Items_.length ≤ 1000
  names : ∀ x, x ∈ v.Names_ → x.size ≤ 1000
  nlen : v.Names_.length ≤ 1000
theorem items_spec {v : T_impl_Value} (h : ValOk v) : loopO (spec_GoodValue_l1 v) 0 = some (cond (allI (fun i a => gA a && (!(v.Kind_ == 2) || (decide (i = 0) || ltA v.Items_ i a))) v.Items_ 0) (.inl ()) (.inr false)) :=
  loop_allI v.Items_ _ _ (fun i a ha => by
    have hi := (List.getElem?_eq_some_iff.1 ha).1
    have hb := h.ilen
    unfold spec_GoodValue_l1
    dsimp only
    rw [ltn hi, cond_true, idx_nat, ha, Option.bind_some, gA_spec (h.items a (List.mem_of_getElem? ha)), Option.bind_some, wrap_succ (by omega)]
    cases hk : (v.Kind_ == 2) with
    | true =>
      simp only [Bool.true_and]
      obtain ⟨c, h1, h2⟩ := rise (R := Int ⊕ (Unit ⊕ Bool)) (gA a) i v.Items_ (fun p => spec_l1Cmp p a) (ltA v.Items_ i a) hi (by omega) (ltA_spec h.items (h.items a (List.mem_of_getElem? ha)))
      refine (h1 _).trans ?_
      rw [h2]
      simp only [Bool.not_true, Bool.false_or]
      cases gA a && (decide (i = 0) || ltA v.Items_ i a) <;> rfl
    | false =>
      simp only [Bool.false_and, Bool.and_false, gdO, cond_false, Option.bind_some, Bool.or_false, Bool.not_false, Bool.true_or, Bool.and_true]
      cases gA a <;> rfl) (by
    unfold spec_GoodValue_l1
    dsimp only
    rw [decF (by omega : ¬ (v.Items_.length : Int) < (v.Items_.length : Int))]; rfl)
theorem vnames_spec {v : T_impl_Value} (h : ValOk v) : loopO (spec_GoodValue_l2 v) 0 = some (cond (allI (bN v.Names_) v.Names_ 0) (.inl ()) (.inr false)) :=
  loop_allI v.Names_ _ (bN v.Names_) (fun i a ha => by
    have hi := (List.getElem?_eq_some_iff.1 ha).1
    have hb := h.nlen
    unfold spec_GoodValue_l2
    dsimp only
    rw [ltn hi, cond_true, idx_nat, ha, Option.bind_some, gN_spec (h.names a (List.mem_of_getElem? ha)), Option.bind_some, wrap_succ (by omega)]
    obtain ⟨c, h1, h2⟩ := rise (R := Int ⊕ (Unit ⊕ Bool)) (gN a) i v.Names_ (fun p => spec_l1CmpText p a) (ltN v.Names_ i a) hi (by omega) (ltN_spec h.names (h.names a (List.mem_of_getElem? ha)))
    refine (h1 _).trans ?_
    rw [h2]
    unfold bN
    cases gN a && (decide (i = 0) || ltN v.Names_ i a) <;> rfl) (by
    unfold spec_GoodValue_l2
    dsimp only
    rw [decF (by omega : ¬ (v.Names_.length : Int) < (v.Names_.length : Int))]; rfl)
noncomputable def gV (v : T_impl_Value) : Bool := (spec_GoodValue v).getD false
theorem gV_spec {v : T_impl_Value} (h : ValOk v) : spec_GoodValue v = some (gV v) := by
  have key : Ok (spec_GoodValue v) fun _ => True := by
    unfold spec_GoodValue spec_GoodValue_j1
    rw [gA_spec h.atom, items_spec h, vnames_spec h]
    refine Ok.cond (fun _ => Ok.some trivial) (fun _ => ?_)
    have j : ∀ b : Bool, Ok (cond b (cond ((!(v.Atom_ == (⟨0, 0, e0, e0⟩ : T_impl_Atom))) || decide ((v.Items_.length : Int) > 50)) (some false) ((some (cond (allI (fun i a => gA a && (!(v.Kind_ == 2) || (decide (i = 0) || ltA v.Items_ i a))) v.Items_ 0) (.inl ()) (.inr false)) : Option (Unit ⊕ Bool)).bind fun q28 => (match q28 with | .inl _ => cond (v.Kind_ == 2) (some ((v.Names_.length : Int) == 0)) (cond ((v.Names_.length : Int) != (v.Items_.length : Int)) (some false) ((some (cond (allI (bN v.Names_) v.Names_ 0) (.inl ()) (.inr false)) : Option (Unit ⊕ Bool)).bind fun q17 => (match q17 with | .inl _ => some true | .inr q7 => some q7))) | .inr q5 => some q5))) (some false)) fun _ => True := fun b => by
      refine Ok.cond (fun _ => Ok.cond (fun _ => Ok.some trivial) fun _ => ?_) fun _ => Ok.some trivial
      rw [Option.bind_some]
      cases allI (fun i a => gA a && (!(v.Kind_ == 2) || (decide (i = 0) || ltA v.Items_ i a))) v.Items_ 0 with
      | false => exact Ok.some trivial
      | true =>
        refine Ok.cond (fun _ => Ok.some trivial) fun _ => Ok.cond (fun _ => Ok.some trivial) fun _ => ?_
        rw [Option.bind_some]
        cases allI (bN v.Names_) v.Names_ 0 <;> exact Ok.some trivial
    exact Ok.cond (fun _ => j _) fun _ => j _
  obtain ⟨x, hx, _⟩ := key
  unfold gV
  rw [hx]; rfl
theorem gV_impl {v : T_impl_Value} (h : ValOk v) (hk : (v.Kind_ == 3) = false) : impl_GoodValue v = some (gV v) := by
  have hs := gV_spec h
  rw [← hs]
  unfold impl_GoodValue spec_GoodValue spec_GoodValue_j1 impl_yzeroAtom
  rw [gA_spec h.atom, gA_impl h.atom, items_spec h, vnames_spec h, rising_impl h.items h.ilen, hk]
  cases hk1 : (v.Kind_ == 1) with
  | true => rfl
  | false =>
    cases hk2 : (v.Kind_ == 2) with
    | false => rfl
    | true =>
      simp only [cond_true, cond_false, Option.bind_some, gdO_some, Bool.not_true, Bool.false_or]
      have e : allI (bA v.Items_) v.Items_ 0 = allI (fun i a => gA a && (decide (i = 0) || ltA v.Items_ i a)) v.Items_ 0 := rfl
      have e2 : decide ((v.Items_.length : Int) > 50) = !decide ((v.Items_.length : Int) ≤ 50) := by
        by_cases h : (v.Items_.length : Int) ≤ 50
        · rw [decT h, decF (by omega)]; rfl
        · rw [decF h, decT (by omega)]; rfl
      rw [e, e2]
      cases (v.Atom_ == (⟨0, 0, e0, e0⟩ : T_impl_Atom)) <;> cases decide ((v.Items_.length : Int) ≤ 50) <;> cases allI (fun i a => gA a && (decide (i = 0) || ltA v.Items_ i a)) v.Items_ 0 <;> cases ((v.Names_.length : Int) == 0) <;> rfl
end Go.G36.AB
/- FnAbove, plain part: good fields and things: both say the same. -/
namespace Go.G36.AB
set_option maxRecDepth 20000
set_option maxHeartbeats 2000000
set_option linter.unusedVariables false
set_option linter.unusedSimpArgs false
open Go Go.G36 Go.G36.AbAnc

noncomputable def hV (v : T_impl_Value) : Bool := gV v && !(v.Kind_ == 3)
theorem values_impl {l : List T_impl_Value} (hl : ∀ x, x ∈ l → ValOk x) (hb : l.length ≤ 1000) : impl_Value_ l = some (!l.all hV) := by
  have e : (!l.all hV) = l.any fun v => (v.Kind_ == 3) || !gV v := by
    have := not_any (fun v : T_impl_Value => (v.Kind_ == 3) || !gV v) l
    have e2 : (l.all fun v => !((v.Kind_ == 3) || !gV v)) = l.all hV := by
      congr 1; funext v; unfold hV; cases v.Kind_ == 3 <;> cases gV v <;> rfl
    rw [← e2, ← this, Bool.not_not]
  rw [e]
  unfold impl_Value_ impl_Value_x
  exact index_any l _ (fun v => (v.Kind_ == 3) || !gV v) (fun i a ha => by
    have hi := (List.getElem?_eq_some_iff.1 ha).1
    unfold impl_Value_x_l1 impl_ygoodFields_1
    dsimp only
    rw [ltn hi, cond_true, idx_nat, ha, Option.bind_some, wrap_succ (by omega)]
    cases hk : (a.Kind_ == 3) with
    | true => rfl
    | false =>
      rw [gV_impl (hl a (List.mem_of_getElem? ha)) hk]
      simp only [Bool.not_false, gdO, cond_true, Option.bind_some, Bool.false_or]
      cases gV a <;> rfl) (by
    unfold impl_Value_x_l1
    dsimp only
    rw [decF (by omega : ¬ (l.length : Int) < (l.length : Int))]; rfl)
theorem allI_two {α β : Type} [Inhabited β] (f : Nat → α → Bool) (h : β → Bool) : ∀ (l : List α) (w : List β) (i : Nat) (p : List β), p.length = i → l.length = w.length → allI (fun i a => f i a && h ((p ++ w).getD i default)) l i = (allI f l i && w.all h)
  | [], [], _, _, _, _ => rfl
  | [], _ :: _, _, _, _, hl => by simp at hl
  | _ :: _, [], _, _, _, hl => by simp at hl
  | a :: l, b :: w, i, p, hp, hl => by
    have ih := allI_two f h l w (i + 1) (p ++ [b]) (by simp [hp]) (by simpa using hl)
    rw [List.append_assoc, List.singleton_append] at ih
    rw [allI, allI, List.all_cons, ih]
    have : (p ++ b :: w).getD i default = b := by
      rw [List.getD_eq_getElem?_getD, List.getElem?_append_right (by omega), hp]; simp
    rw [this]
    cases f i a <;> cases h b <;> cases allI f l (i + 1) <;> rfl
noncomputable def fieldsOk (ns : List ByteArray) (vs : List T_impl_Value) : Bool := (decide ((ns.length : Int) ≤ 20) && ((ns.length : Int) == (vs.length : Int))) && allI (fun i n => bN ns i n && hV (vs.getD i default)) ns 0
theorem fields_impl {ns : List ByteArray} {vs : List T_impl_Value} (hn : ∀ x, x ∈ ns → x.size ≤ 1000) (hnl : ns.length ≤ 1000) (hv : ∀ x, x ∈ vs → ValOk x) (hvl : vs.length ≤ 1000) : impl_ygoodFields ns vs = some (fieldsOk ns vs) := by
  unfold impl_ygoodFields fieldsOk
  rw [names_impl hn hnl, sorted_impl hnl, values_impl hv hvl]
  simp only [gdO_some, Option.bind_some]
  cases hc : (decide ((ns.length : Int) ≤ 20) && ((ns.length : Int) == (vs.length : Int))) with
  | false => rfl
  | true =>
    have hle : ns.length = vs.length := by
      rw [Bool.and_eq_true] at hc
      have := eq_of_beq hc.2
      omega
    have := allI_two (bN ns) hV ns vs 0 [] rfl hle
    rw [List.nil_append] at this
    rw [this, bN_split]
    cases ns.all gN <;> cases allI (bL ns) ns 0 <;> cases vs.all hV <;> rfl
theorem fields_spec {ns : List ByteArray} {vs : List T_impl_Value} (hn : ∀ x, x ∈ ns → x.size ≤ 1000) (hnl : ns.length ≤ 1000) (hv : ∀ x, x ∈ vs → ValOk x) (hvl : vs.length ≤ 1000) : spec_l11Fields ns vs = some (fieldsOk ns vs) := by
  unfold spec_l11Fields fieldsOk
  have e1 : (decide ((ns.length : Int) > 20) || ((vs.length : Int) != (ns.length : Int))) = !(decide ((ns.length : Int) ≤ 20) && ((ns.length : Int) == (vs.length : Int))) := by
    have h1 : decide ((ns.length : Int) > 20) = !decide ((ns.length : Int) ≤ 20) := by
      by_cases h : (ns.length : Int) ≤ 20
      · rw [decT h, decF (by omega)]; rfl
      · rw [decF h, decT (by omega)]; rfl
    have h2 : ((vs.length : Int) != (ns.length : Int)) = !((ns.length : Int) == (vs.length : Int)) := by
      rw [bne, Bool.beq_comm]
    rw [h1, h2]
    cases decide ((ns.length : Int) ≤ 20) <;> rfl
  rw [e1]
  cases hc : (decide ((ns.length : Int) ≤ 20) && ((ns.length : Int) == (vs.length : Int))) with
  | false => rfl
  | true =>
    have hle : ns.length = vs.length := by
      rw [Bool.and_eq_true] at hc
      have := eq_of_beq hc.2
      omega
    rw [Bool.not_true, cond_false, loop_allI ns _ (fun i n => bN ns i n && hV (vs.getD i default)) (fun i a ha => by
      have hi := (List.getElem?_eq_some_iff.1 ha).1
      have hvi : vs[i]? = some vs[i] := List.getElem?_eq_getElem (by omega)
      have hvm : vs.getD i default = vs[i] := by rw [List.getD_eq_getElem?_getD, hvi]; rfl
      unfold spec_l11Fields_l1
      dsimp only
      rw [ltn hi, cond_true, idx_nat, ha, Option.bind_some, gN_spec (hn a (List.mem_of_getElem? ha)), Option.bind_some, wrap_succ (by omega), idx_nat, hvi]
      obtain ⟨c, h1, h2⟩ := rise (R := Int ⊕ (Unit ⊕ Bool)) (gN a) i ns (fun p => spec_l1CmpText p a) (ltN ns i a) hi (by omega) (ltN_spec hn (hn a (List.mem_of_getElem? ha)))
      refine (h1 _).trans ?_
      rw [h2, hvm]
      have hb : (gN a && (decide (i = 0) || ltN ns i a)) = bN ns i a := rfl
      rw [hb]
      cases bN ns i a with
      | false => rfl
      | true =>
        simp only [Bool.not_true, Bool.not_false, gdO, cond_true, Option.bind_some, Bool.false_or, Bool.true_and]
        rw [gV_spec (hv _ (List.getElem_mem _)), Option.bind_some]
        unfold hV
        cases gV vs[i] with
        | false => rfl
        | true =>
          simp only [Bool.not_true, Bool.not_false, cond_true, Option.bind_some, Bool.false_or, Bool.true_and]
          cases (vs[i].Kind_ == 3) <;> rfl) (by
      unfold spec_l11Fields_l1
      dsimp only
      rw [decF (by omega : ¬ (ns.length : Int) < (ns.length : Int))]; rfl)]
    cases allI (fun i n => bN ns i n && hV (vs.getD i default)) ns 0 <;> rfl

structure ThingOk (t : T_impl_Thing) : Prop where
  ref : AtomOk t.Ref_
  parents : ∀ x, x ∈ t.Parents_ → AtomOk x
  plen : t.Parents_.length ≤ 1000
  names : ∀ x, x ∈ t.Names_ → x.size ≤ 1000
  nlen : t.Names_.length ≤ 1000
  values : ∀ x, x ∈ t.Values_ → ValOk x
  vlen : t.Values_.length ≤ 1000
def ltR (l : List T_impl_Thing) (i : Nat) (t : T_impl_Thing) : Bool := decide (cmpA (l.getD (i - 1) default).Ref_ t.Ref_ < 0)
noncomputable def tOk (l : List T_impl_Thing) (i : Nat) (t : T_impl_Thing) : Bool := ((gR t.Ref_ && (decide (i = 0) || ltR l i t)) && refsOk t.Parents_) && fieldsOk t.Names_ t.Values_
noncomputable def gT (l : List T_impl_Thing) : Bool := !decide ((l.length : Int) > 100) && allI (tOk l) l 0
theorem things_impl {l : List T_impl_Thing} (hl : ∀ t, t ∈ l → ThingOk t) (hb : l.length ≤ 1000) : impl_GoodThings l = some (gT l) := by
  unfold impl_GoodThings gT
  rw [loop_allI l _ (tOk l) (fun i a ha => by
    have hi := (List.getElem?_eq_some_iff.1 ha).1
    have ht := hl a (List.mem_of_getElem? ha)
    unfold impl_GoodThings_l1
    dsimp only
    rw [ltn hi, cond_true, idx_nat, ha, Option.bind_some, gR_impl ht.ref, Option.bind_some, wrap_succ (by omega), refs_impl ht.parents ht.plen, fields_impl ht.names ht.nlen ht.values ht.vlen]
    obtain ⟨c, h1, h2⟩ := rise (R := Int ⊕ (Unit ⊕ Bool)) (gR a.Ref_) i l (fun p => impl_ycmpAtom p.Ref_ a.Ref_) (ltR l i a) hi (by omega) (fun p h0 hp => by
      refine ⟨_, impl_cmp p.Ref_ a.Ref_, ?_⟩
      unfold ltR
      rw [prevG h0 hp]
      by_cases h : cmpA p.Ref_ a.Ref_ < 0
      · rw [decT h, decF (by omega)]; rfl
      · rw [decF h, decT (by omega)]; rfl)
    refine (h1 _).trans ?_
    rw [h2]
    unfold tOk
    simp only [gdO_some, Option.bind_some]
    cases gR a.Ref_ && (decide (i = 0) || ltR l i a) <;> cases refsOk a.Parents_ <;> cases fieldsOk a.Names_ a.Values_ <;> rfl) (by
    unfold impl_GoodThings_l1
    dsimp only
    rw [decF (by omega : ¬ (l.length : Int) < (l.length : Int))]; rfl)]
  cases decide ((l.length : Int) > 100) <;> cases allI (tOk l) l 0 <;> rfl
theorem things_spec {l : List T_impl_Thing} (hl : ∀ t, t ∈ l → ThingOk t) (hb : l.length ≤ 1000) : spec_GoodThings l = some (gT l) := by
  unfold spec_GoodThings gT
  rw [loop_allI l _ (tOk l) (fun i a ha => by
    have hi := (List.getElem?_eq_some_iff.1 ha).1
    have ht := hl a (List.mem_of_getElem? ha)
    unfold spec_GoodThings_l1
    dsimp only
    rw [ltn hi, cond_true, idx_nat, ha, Option.bind_some, gR_spec ht.ref, Option.bind_some, wrap_succ (by omega), parents_spec ht.parents ht.plen, fields_spec ht.names ht.nlen ht.values ht.vlen]
    obtain ⟨c, h1, h2⟩ := rise (R := Int ⊕ (Unit ⊕ Bool)) (gR a.Ref_) i l (fun p => spec_l1Cmp p.Ref_ a.Ref_) (ltR l i a) hi (by omega) (fun p h0 hp => by
      obtain ⟨c, h1, h2, h3⟩ := spec_cmp (hl p (List.mem_of_getElem? hp)).ref ht.ref
      refine ⟨c, h1, ?_⟩
      unfold ltR
      rw [prevG h0 hp]
      by_cases h : cmpA p.Ref_ a.Ref_ < 0
      · rw [decT h, decF (by have := h2.2 h; omega)]; rfl
      · rw [decF h, decT (by have : ¬ c < 0 := fun e => h (h2.1 e); omega)]; rfl)
    refine (h1 _).trans ?_
    rw [h2]
    have e2 : decide ((a.Parents_.length : Int) > 50) = !decide ((a.Parents_.length : Int) ≤ 50) := by
      by_cases h : (a.Parents_.length : Int) ≤ 50
      · rw [decT h, decF (by omega)]; rfl
      · rw [decF h, decT (by omega)]; rfl
    rw [e2]
    unfold tOk refsOk
    simp only [gdO_some, Option.bind_some]
    cases gR a.Ref_ && (decide (i = 0) || ltR l i a) <;> cases decide ((a.Parents_.length : Int) ≤ 50) <;> cases allI (bR a.Parents_) a.Parents_ 0 <;> cases fieldsOk a.Names_ a.Values_ <;> rfl) (by
    unfold spec_GoodThings_l1
    dsimp only
    rw [decF (by omega : ¬ (l.length : Int) < (l.length : Int))]; rfl)]
  cases decide ((l.length : Int) > 100) <;> cases allI (tOk l) l 0 <;> rfl
theorem allI_mem {α : Type} {b : Nat → α → Bool} : ∀ {l : List α} {i : Nat}, allI b l i = true → ∀ a, a ∈ l → ∃ j, b j a = true
  | [], _, _, _, h => absurd h List.not_mem_nil
  | x :: l, i, h, a, ha => by
    rw [allI, Bool.and_eq_true] at h
    rcases List.mem_cons.1 ha with rfl | ha
    · exact ⟨i, h.1⟩
    · exact allI_mem h.2 a ha
theorem gT_parents {l : List T_impl_Thing} (h : gT l = true) : ∀ t, t ∈ l → ∀ p, p ∈ t.Parents_ → gR p = true := fun t ht p hp => by
  unfold gT at h
  rw [Bool.and_eq_true] at h
  obtain ⟨j, hj⟩ := allI_mem h.2 t ht
  unfold tOk refsOk at hj
  simp only [Bool.and_eq_true] at hj
  obtain ⟨k, hk⟩ := allI_mem hj.1.2.2 p hp
  unfold bR at hk
  rw [Bool.and_eq_true] at hk
  exact hk.1
end Go.G36.AB
/- FnAbove, plain part: values, fields, worlds that are drawn. -/
namespace Go.G36.AB
set_option maxRecDepth 20000
set_option maxHeartbeats 2000000
set_option linter.unusedVariables false
set_option linter.unusedSimpArgs false
open Go Go.G36 Go.G36.AbAnc

theorem size0 : e0.size ≤ 1000 := by decide
theorem zA {k : Int} : AtomOk ⟨k, 0, e0, e0⟩ := ⟨by show -9223372036854775808 ≤ (0 : Int); omega, by show (0 : Int) ≤ 9223372036854775807; omega, size0, size0⟩
theorem num_ok {k n : Int} (h0 : -9223372036854775808 ≤ n) (h1 : n ≤ 9223372036854775807) : AtomOk ⟨k, n, e0, e0⟩ := ⟨h0, h1, size0, size0⟩
theorem txt_ok {k : Int} {t : ByteArray} (h : t.size ≤ 1000) : AtomOk ⟨k, 0, t, e0⟩ := ⟨by show -9223372036854775808 ≤ (0 : Int); omega, by show (0 : Int) ≤ 9223372036854775807; omega, h, size0⟩
theorem rf_ok {k : Int} {t u : ByteArray} (h : t.size ≤ 1000) (hu : u.size ≤ 1000) : AtomOk ⟨k, 0, t, u⟩ := ⟨by show -9223372036854775808 ≤ (0 : Int); omega, by show (0 : Int) ≤ 9223372036854775807; omega, h, hu⟩
theorem kindAtom_ok {n : Nat} {s : T_spec_l1Cur} (k : ByteArray) (h : Cur n s) (hn : n + 20 < lim) : Ok (spec_l1Cur_kindAtom k s) fun q => Cur (n + 16) q.2 ∧ AtomOk q.1 := by
  unfold spec_l1Cur_kindAtom
  refine Ok.cond (fun _ => ?_) (fun _ => Ok.cond (fun _ => ?_) (fun _ => Ok.cond (fun _ => ?_) (fun _ => Ok.cond (fun _ => ?_) (fun _ => Ok.cond (fun _ => ?_) (fun _ => Ok.cond (fun _ => ?_) (fun _ => ?_))))))
  · refine Ok.bind (pick_ok _ h (by omega)) ?_
    rintro ⟨r, o⟩ ⟨h1, h2, h3⟩
    exact Ok.some ⟨h1.mono (by omega), num_ok (wr _).1 (wr _).2⟩
  · refine Ok.bind (of_ok _ (by decide) h (by omega)) ?_
    rintro ⟨r, o⟩ ⟨h1, h2⟩
    exact Ok.some ⟨h1.mono (by omega), txt_ok h2⟩
  · refine Ok.bind (pick_ok _ h (by omega)) ?_
    rintro ⟨r, o⟩ ⟨h1, h2, h3⟩
    have h2 : 0 ≤ r := h2
    have h3 : r < 2 := h3 (by omega)
    exact Ok.some ⟨h1.mono (by omega), num_ok (by omega) (by omega)⟩
  · refine Ok.bind (block_ok h (by omega)) ?_
    rintro ⟨r, o⟩ ⟨h1, h2⟩
    exact Ok.some ⟨h1.mono (by omega), h2⟩
  · refine Ok.bind (pick_ok _ h (by omega)) ?_
    rintro ⟨r, o⟩ ⟨h1, h2, h3⟩
    have h2 : 0 ≤ r := h2
    have h3 : r < 9 := h3 (by omega)
    exact Ok.some ⟨h1.mono (by omega), num_ok (by omega) (by omega)⟩
  · refine Ok.bind (of_ok _ (by decide) h (by omega)) ?_
    rintro ⟨r, o⟩ ⟨h1, h2⟩
    dsimp only
    rw [ref_eq, Option.bind_some]
    exact Ok.some ⟨h1.mono (by omega), rf_ok h2 (by decide)⟩
  · refine Ok.bind (atom_ok h (by omega)) ?_
    rintro ⟨r, o⟩ ⟨h1, h2⟩
    exact Ok.some ⟨h1, h2⟩
theorem v_atom {a : T_impl_Atom} {k : Int} (h : AtomOk a) : ValOk ⟨k, a, [], []⟩ := ⟨h, fun x hx => absurd hx List.not_mem_nil, Nat.zero_le _, fun x hx => absurd hx List.not_mem_nil, Nat.zero_le _⟩
theorem inc_len {xs ys : List T_impl_Atom} (hi : Inc ys) (h : ∀ x, x ∈ ys ↔ x ∈ xs) : ys.length ≤ xs.length :=
  pigeon (List.Pairwise.imp (fun {a b} e k => by subst k; rw [cmpA_ok.refl] at e; omega) hi) fun x hx => (h x).1 hx
theorem v_set {xs ys : List T_impl_Atom} {k : Int} (hx : ∀ x, x ∈ xs → AtomOk x) (hl : xs.length ≤ 1000) (hi : Inc ys) (h : ∀ x, x ∈ ys ↔ x ∈ xs) : ValOk ⟨k, ⟨0, 0, e0, e0⟩, ys, []⟩ :=
  ⟨zA, fun x hxy => hx x ((h x).1 hxy), Nat.le_trans (inc_len hi h) hl, fun x hx => absurd hx List.not_mem_nil, Nat.zero_le _⟩
theorem mem_app {α : Type} {P : α → Prop} {l : List α} {a : α} (h : ∀ x, x ∈ l → P x) (ha : P a) : ∀ x, x ∈ l ++ [a] → P x := fun x hx => by
  rcases List.mem_append.1 hx with h1 | h1
  · exact h x h1
  · simp at h1; subst h1; exact ha
theorem fieldValue_ok {n : Nat} {s : T_spec_l1Cur} {k : ByteArray} (hk : k.size ≤ 1000) (h : Cur n s) (hn : n + 120 < lim) : Ok (spec_l1Cur_fieldValue k s) fun q => Cur (n + 100) q.2 ∧ ValOk q.1 := by
  unfold spec_l1Cur_fieldValue
  refine Ok.bind (kindAtom_ok k h (by omega)) ?_
  rintro ⟨r1, o2⟩ ⟨h1, h2⟩
  have hs4 : (ByteArray.mk #[115, 101, 116, 32]).size = 4 := rfl
  refine Ok.bind (Q := fun b => b = true → 4 < k.size) ?_ fun b hb => ?_
  · unfold spec_l11Head
    rw [hs4]
    by_cases hgt : (k.size : Int) > ((4 : Nat) : Int)
    · rw [decT hgt]
      have : subS k 0 ((4 : Nat) : Int) = some (k.extract 0 4) := by
        unfold subS
        rw [if_pos ⟨by omega, by omega, by omega⟩]
        rfl
      rw [this]
      exact Ok.some fun _ => by omega
    · rw [decF hgt]
      exact Ok.some fun e => by cases e
  refine Ok.cond (fun _ => Ok.some ⟨h1.mono (by omega), v_atom h2⟩) (fun hc => ?_)
  have hb' := hb (by simpa using hc)
  have hsub : subS k 4 (k.size : Int) = some (k.extract 4 k.size) := by
    unfold subS
    rw [if_pos ⟨by omega, by omega, Int.le_refl _⟩]
    rfl
  rw [hsub, Option.bind_some]
  refine Ok.bind (pick_ok _ h1 (by omega)) ?_
  rintro ⟨r8, o9⟩ ⟨h3, h4, h5⟩
  have h4 : 0 ≤ r8 := h4
  have h5 : r8 < 3 := h5 (by omega)
  refine Ok.bind (Ok.loop (P := fun q => Cur (n + 100) q.1 ∧ (∀ x, x ∈ q.2 → AtomOk x) ∧ q.2.length ≤ 1000) (fun i q => i ≤ 3 ∧ q.2.2 = (i : Int) ∧ Cur (n + 20 + 16 * (3 - i)) q.1 ∧ (∀ x, x ∈ q.2.1 → AtomOk x) ∧ q.2.1.length ≤ 3 - i) ?_ (n := r8.toNat) ⟨by omega, by show r8 = _; omega, h3.mono (by omega), fun x hx => absurd hx List.not_mem_nil, Nat.zero_le _⟩) ?_
  · rintro i ⟨b, l, v⟩ ⟨hi, hv, hc, ha, hl⟩
    dsimp only at hv hc ha hl
    unfold spec_l1Cur_fieldValue_l1
    refine Ok.cond (fun hd => ?_) (fun _ => Ok.some ⟨hc.mono (by omega), ha, by show l.length ≤ 1000; omega⟩)
    have hlt := of_decide_eq_true hd
    refine Ok.bind (kindAtom_ok _ hc (by omega)) ?_
    rintro ⟨r, o⟩ ⟨g1, g2⟩
    dsimp only
    rw [app_get (by simp; omega), Option.bind_some]
    refine Ok.some ⟨i - 1, by omega, by omega, ?_, g1.mono (by omega), mem_app ha g2, by show (l ++ [r]).length ≤ _; simp; omega⟩
    show IntKind.i64.wrap (v - 1) = _
    rw [IntWalk.i64_in _ (by omega)]; omega
  · rintro ⟨b, l⟩ ⟨g1, g2, g3⟩
    obtain ⟨ys, k1, k2, k3⟩ := sorted_ok g2 (by have : l.length ≤ 1000 := g3; omega)
    dsimp only
    rw [k1, Option.bind_some]
    exact Ok.some ⟨g1, v_set g2 g3 k2 k3⟩
theorem value_ok {n : Nat} {s : T_spec_l1Cur} (h : Cur n s) (hn : n + 120 < lim) : Ok (spec_l1Cur_value s) fun q => Cur (n + 100) q.2 ∧ ValOk q.1 := by
  unfold spec_l1Cur_value
  refine Ok.bind (pick_ok _ h (by omega)) ?_
  rintro ⟨r1, o2⟩ ⟨h1, h2, h3⟩
  refine Ok.cond (fun _ => ?_) (fun _ => Ok.cond (fun _ => ?_) (fun _ => ?_))
  · refine Ok.bind (pick_ok _ h1 (by omega)) ?_
    rintro ⟨r8, o9⟩ ⟨h3, h4, h5⟩
    have h4 : 0 ≤ r8 := h4
    have h5 : r8 < 5 := h5 (by omega)
    refine Ok.bind (Ok.loop (P := fun q => Cur (n + 100) q.1 ∧ (∀ x, x ∈ q.2 → AtomOk x) ∧ q.2.length ≤ 1000) (fun i q => i ≤ 5 ∧ q.2.2 = (i : Int) ∧ Cur (n + 4 + 16 * (5 - i)) q.1 ∧ (∀ x, x ∈ q.2.1 → AtomOk x) ∧ q.2.1.length ≤ 5 - i) ?_ (n := r8.toNat) ⟨by omega, by show r8 = _; omega, h3.mono (by omega), fun x hx => absurd hx List.not_mem_nil, Nat.zero_le _⟩) ?_
    · rintro i ⟨b, l, v⟩ ⟨hi, hv, hc, ha, hl⟩
      dsimp only at hv hc ha hl
      unfold spec_l1Cur_value_l1
      refine Ok.cond (fun hd => ?_) (fun _ => Ok.some ⟨hc.mono (by omega), ha, by show l.length ≤ 1000; omega⟩)
      have hlt := of_decide_eq_true hd
      refine Ok.bind (atom_ok hc (by omega)) ?_
      rintro ⟨r, o⟩ ⟨g1, g2⟩
      dsimp only
      rw [app_get (by simp; omega), Option.bind_some]
      refine Ok.some ⟨i - 1, by omega, by omega, ?_, g1.mono (by omega), mem_app ha g2, by show (l ++ [r]).length ≤ _; simp; omega⟩
      show IntKind.i64.wrap (v - 1) = _
      rw [IntWalk.i64_in _ (by omega)]; omega
    · rintro ⟨b, l⟩ ⟨g1, g2, g3⟩
      obtain ⟨ys, k1, k2, k3⟩ := sorted_ok g2 (by have : l.length ≤ 1000 := g3; omega)
      dsimp only
      rw [k1, Option.bind_some]
      exact Ok.some ⟨g1, v_set g2 g3 k2 k3⟩
  · refine Ok.bind (Ok.loop (P := fun q => Cur (n + 100) q.1 ∧ ValOk q.2) (fun i q => i ≤ 5 ∧ q.2.2 = ((5 - i : Nat) : Int) ∧ Cur (n + 2 + 18 * (5 - i)) q.1 ∧ ValOk q.2.1 ∧ q.2.1.Items_.length ≤ 5 - i ∧ q.2.1.Names_.length ≤ 5 - i) ?_ (n := 5) ⟨by omega, rfl, h1.mono (by omega), v_atom zA, Nat.zero_le _, Nat.zero_le _⟩) ?_
    · rintro i ⟨b, v, j⟩ ⟨hi, hv, hc, ha, hl, hm⟩
      dsimp only at hv hc ha hl hm
      unfold spec_l1Cur_value_l2
      refine Ok.cond (fun hd => ?_) (fun _ => Ok.some ⟨hc.mono (by omega), ha⟩)
      have hlt := of_decide_eq_true hd
      have hlt : j < 5 := hlt
      refine Ok.bind (idx_ok (by omega) hlt) ?_
      intro e he
      have he : e.size ≤ 1000 := by
        have : (([(ByteArray.mk #[65]), (ByteArray.mk #[95, 98]), (ByteArray.mk #[97, 103, 101]), (ByteArray.mk #[100, 101, 112, 116]), (ByteArray.mk #[122, 111, 110, 101])] : List ByteArray).all fun x => decide (x.size ≤ 1000)) = true := by decide
        exact of_decide_eq_true (List.all_eq_true.1 this e he)
      refine Ok.bind (one_ok _ hc (by omega)) ?_
      rintro ⟨r, o⟩ g1
      have g1 : Cur (n + 2 + 18 * (5 - i) + 2) o := g1
      have hj : IntKind.i64.wrap (j + 1) = ((5 - (i - 1) : Nat) : Int) := by rw [IntWalk.i64_in _ (by omega)]; omega
      refine Ok.cond (fun _ => ?_) (fun _ => Ok.some ⟨i - 1, by omega, by omega, hj, g1.mono (by omega), ha, by show v.Items_.length ≤ _; omega, by show v.Names_.length ≤ _; omega⟩)
      rw [app_get (by simp; omega), Option.bind_some]
      refine Ok.bind (atom_ok g1 (by omega)) ?_
      rintro ⟨r2, o2⟩ ⟨g3, g4⟩
      dsimp only
      rw [app_get (by simp; omega), Option.bind_some]
      refine Ok.some ⟨i - 1, by omega, by omega, hj, g3.mono (by omega), ⟨ha.atom, mem_app ha.items g4, by show (v.Items_ ++ [r2]).length ≤ _; simp; omega, mem_app ha.names he, by show (v.Names_ ++ [e]).length ≤ _; simp; omega⟩, by show (v.Items_ ++ [r2]).length ≤ _; simp; omega, by show (v.Names_ ++ [e]).length ≤ _; simp; omega⟩
    · rintro ⟨b, v⟩ hq
      exact Ok.some hq
  · refine Ok.bind (atom_ok h1 (by omega)) ?_
    rintro ⟨r, o⟩ ⟨g1, g2⟩
    exact Ok.some ⟨g1.mono (by omega), v_atom g2⟩
theorem oddValue_ok {n : Nat} {s : T_spec_l1Cur} {v : T_impl_Value} (hv : ValOk v) (h : Cur n s) (hn : n + 20 < lim) : Ok (spec_l1Cur_oddValuex v s) fun q => Cur (n + 10) q.2 ∧ ValOk q.1 := by
  unfold spec_l1Cur_oddValuex
  refine Ok.bind (pick_ok _ h (by omega)) ?_
  rintro ⟨r1, o2⟩ ⟨h1, h2, h3⟩
  refine Ok.cond (fun _ => ?_) (fun _ => Ok.cond (fun _ => ?_) (fun _ => Ok.cond (fun _ => ?_) (fun _ => Ok.cond (fun _ => ?_) (fun _ => Ok.cond (fun _ => ?_) (fun _ => Ok.some ⟨h1.mono (by omega), hv⟩)))))
  · refine Ok.bind (pick_ok _ h1 (by omega)) ?_
    rintro ⟨r, o⟩ ⟨g1, g2, g3⟩
    exact Ok.some ⟨g1.mono (by omega), hv.atom, hv.items, hv.ilen, hv.names, hv.nlen⟩
  · refine Ok.bind (oddAtom_ok hv.atom h1 (by omega)) ?_
    rintro ⟨r, o⟩ ⟨g1, g2⟩
    exact Ok.some ⟨g1.mono (by omega), g2, hv.items, hv.ilen, hv.names, hv.nlen⟩
  · refine Ok.cond (fun hc => ?_) (fun _ => Ok.some ⟨h1.mono (by omega), hv⟩)
    have hc := of_decide_eq_true hc
    refine Ok.bind (idx_ok (by omega) (by omega)) fun e10 he10 => ?_
    refine Ok.bind (idx_ok (by omega) (by omega)) fun e12 he12 => ?_
    refine Ok.bind (idx_ok (by omega) (by omega)) fun e14 he14 => ?_
    refine Ok.bind (idx_ok (by omega) (by rw [List.length_set]; omega)) fun e16 he16 => ?_
    refine Ok.some ⟨h1.mono (by omega), hv.atom, fun x hx => ?_, by simp; exact hv.ilen, hv.names, hv.nlen⟩
    rcases List.mem_or_eq_of_mem_set hx with h | rfl
    · rcases List.mem_or_eq_of_mem_set h with h | rfl
      · exact hv.items x h
      · exact hv.items _ he12
    · exact hv.items _ he10
  · refine Ok.cond (fun hc => ?_) (fun _ => Ok.some ⟨h1.mono (by omega), hv⟩)
    have hc := of_decide_eq_true hc
    refine Ok.bind (of_ok _ (by decide) h1 (by omega)) ?_
    rintro ⟨r, o⟩ ⟨g1, g2⟩
    refine Ok.bind (idx_ok (by omega) (by omega)) fun e21 he21 => ?_
    refine Ok.some ⟨g1.mono (by omega), hv.atom, hv.items, hv.ilen, fun x hx => ?_, by simp; exact hv.nlen⟩
    rcases List.mem_or_eq_of_mem_set hx with h | rfl
    · exact hv.names x h
    · exact g2
  · refine Ok.bind (pick_ok _ h1 (by omega)) ?_
    rintro ⟨r, o⟩ ⟨g1, g2, g3⟩
    have g2 : 0 ≤ r := g2
    have g3 : r < 3 := g3 (by omega)
    have hw : IntKind.i64.wrap (49 + r) = 49 + r := IntWalk.i64_in _ (by omega)
    refine Ok.bind (Ok.loop (P := fun w => ValOk w) (fun i w => ValOk w ∧ i = 60 - w.Items_.length) ?_ (n := 60 - v.Items_.length) ⟨hv, rfl⟩) fun w hw => Ok.some ⟨g1.mono (by omega), hw⟩
    rintro i w ⟨hw1, hi⟩
    unfold spec_l1Cur_oddValuex_l1
    dsimp only
    rw [hw]
    refine Ok.cond (fun hc => ?_) (fun _ => Ok.some hw1)
    rw [Bool.and_eq_true] at hc
    have hlt := of_decide_eq_true hc.2
    rw [app_get (by simp; omega), Option.bind_some]
    refine Ok.some ⟨i - 1, by omega, ⟨hw1.atom, mem_app hw1.items (num_ok (wr _).1 (wr _).2), by show (w.Items_ ++ [_]).length ≤ _; simp; omega, hw1.names, hw1.nlen⟩, ?_⟩
    show i - 1 = 60 - (w.Items_ ++ [_]).length
    simp; omega
end Go.G36.AB
/- FnAbove, plain part: worlds that are drawn. -/
namespace Go.G36.AB
set_option maxRecDepth 20000
set_option maxHeartbeats 2000000
set_option linter.unusedVariables false
set_option linter.unusedSimpArgs false
open Go Go.G36 Go.G36.AbAnc

def attrsB (l : List T_impl_AttrKind) : Bool := decide (l.length ≤ 10) && l.all fun a => decide (a.Name_.size ≤ 1000) && decide (a.Kind_.size ≤ 1000)
def schB (s : T_impl_PolSchema) : Bool := (decide (s.Things_.length ≤ 10) && s.Things_.all fun t => attrsB t.Attrs_ && decide (t.Ups_.length ≤ 10)) && (decide (s.Actions_.length ≤ 10) && s.Actions_.all fun a => attrsB a.Context_)
theorem schema_ok {n : Nat} {s : T_spec_l1Cur} (h : Cur n s) (hn : n + 20 < lim) : Ok (spec_l1Cur_polSchema s) fun q => Cur (n + 2) q.2 ∧ schB q.1 = true := by
  unfold spec_l1Cur_polSchema
  refine Ok.bind (one_ok _ h (by omega)) ?_
  rintro ⟨r1, o2⟩ h1
  have hs : ∀ x y z : T_impl_AttrKind, sub [x, y, z] 0 1 = some [x] := fun x y z => rfl
  dsimp only
  rw [hs, Option.bind_some]
  refine Ok.some ⟨h1, ?_⟩
  cases r1 <;> rfl
theorem thingType_ok {s : T_impl_PolSchema} (hs : schB s = true) (x : ByteArray) : Ok (spec_l11ThingType s x) fun q => attrsB q.1.Attrs_ = true ∧ q.1.Ups_.length ≤ 10 := by
  unfold schB at hs
  simp only [Bool.and_eq_true, decide_eq_true_eq] at hs
  obtain ⟨⟨hl, ht⟩, _⟩ := hs
  unfold spec_l11ThingType
  rw [loop_find s.Things_ _ (fun t => t.Name_.toList == x.toList) (fun t => (t, true)) (fun i a ha => by
    have hi := (List.getElem?_eq_some_iff.1 ha).1
    unfold spec_l11ThingType_l1
    dsimp only
    rw [ltn hi, cond_true, idx_nat, ha, Option.bind_some, wrap_succ (by omega)]
    cases a.Name_.toList == x.toList <;> rfl) (by
    unfold spec_l11ThingType_l1
    dsimp only
    rw [decF (by omega : ¬ (s.Things_.length : Int) < (s.Things_.length : Int))]; rfl)]
  cases hf : s.Things_.find? (fun t => t.Name_.toList == x.toList) with
  | none => exact Ok.some ⟨rfl, Nat.zero_le _⟩
  | some t =>
    have := List.all_eq_true.1 ht t (List.mem_of_find?_eq_some hf)
    simp only [Bool.and_eq_true, decide_eq_true_eq] at this
    exact Ok.some this
theorem action_ok {s : T_impl_PolSchema} (hs : schB s = true) (x : ByteArray) : Ok (spec_l11Action s x) fun q => attrsB q.1.Context_ = true := by
  unfold schB at hs
  simp only [Bool.and_eq_true, decide_eq_true_eq] at hs
  obtain ⟨_, hl, ht⟩ := hs
  unfold spec_l11Action
  rw [loop_find s.Actions_ _ (fun t => t.Id_.toList == x.toList) (fun t => (t, true)) (fun i a ha => by
    have hi := (List.getElem?_eq_some_iff.1 ha).1
    unfold spec_l11Action_l1
    dsimp only
    rw [ltn hi, cond_true, idx_nat, ha, Option.bind_some, wrap_succ (by omega)]
    cases a.Id_.toList == x.toList <;> rfl) (by
    unfold spec_l11Action_l1
    dsimp only
    rw [decF (by omega : ¬ (s.Actions_.length : Int) < (s.Actions_.length : Int))]; rfl)]
  cases hf : s.Actions_.find? (fun t => t.Id_.toList == x.toList) with
  | none => exact Ok.some rfl
  | some t => exact Ok.some (List.all_eq_true.1 ht t (List.mem_of_find?_eq_some hf))
theorem l3Has_ok {l : List ByteArray} (hl : l.length ≤ 1000) (x : ByteArray) : Ok (spec_l3Has l x) fun _ => True := by
  unfold spec_l3Has
  rw [loop_find l _ (fun t => t.toList == x.toList) (fun _ => true) (fun i a ha => by
    have hi := (List.getElem?_eq_some_iff.1 ha).1
    unfold spec_l3Has_l1
    dsimp only
    rw [ltn hi, cond_true, idx_nat, ha, Option.bind_some, wrap_succ (by omega)]
    cases a.toList == x.toList <;> rfl) (by
    unfold spec_l3Has_l1
    dsimp only
    rw [decF (by omega : ¬ (l.length : Int) < (l.length : Int))]; rfl)]
  cases l.find? (fun t => t.toList == x.toList) <;> exact Ok.some trivial
theorem fields_ok {n : Nat} {s : T_spec_l1Cur} {ks : List T_impl_AttrKind} (has : attrsB ks = true) (h : Cur n s) (hn : n + 3000 < lim) :
    Ok (spec_l1Cur_fields ks s) fun q => Cur (n + 2300) q.2.2 ∧ (∀ x, x ∈ q.1 → x.size ≤ 1000) ∧ q.1.length ≤ 1000 ∧ (∀ x, x ∈ q.2.1 → ValOk x) ∧ q.2.1.length ≤ 1000 := by
  unfold attrsB at has
  simp only [Bool.and_eq_true, decide_eq_true_eq] at has
  obtain ⟨hl, hall⟩ := has
  unfold spec_l1Cur_fields
  refine Ok.bind (Ok.loop (P := fun q => Cur (n + 2300) q.1 ∧ (∀ x, x ∈ q.2.1 → x.size ≤ 1000) ∧ q.2.1.length ≤ 1000 ∧ (∀ x, x ∈ q.2.2 → ValOk x) ∧ q.2.2.length ≤ 1000)
    (fun i q => i ≤ ks.length ∧ q.2.2.2 = ((ks.length - i : Nat) : Int) ∧ Cur (n + 220 * (ks.length - i)) q.1 ∧ (∀ x, x ∈ q.2.1 → x.size ≤ 1000) ∧ q.2.1.length ≤ ks.length - i ∧ (∀ x, x ∈ q.2.2.1 → ValOk x) ∧ q.2.2.1.length ≤ ks.length - i) ?_
    (n := ks.length) ⟨Nat.le_refl _, by simp, h.mono (by omega), fun x hx => absurd hx List.not_mem_nil, Nat.zero_le _, fun x hx => absurd hx List.not_mem_nil, Nat.zero_le _⟩) ?_
  · rintro i ⟨b, l2, l3, v⟩ ⟨hi, hv, hc, a1, a2, a3, a4⟩
    dsimp only at hv hc a1 a2 a3 a4
    subst hv
    unfold spec_l1Cur_fields_l1
    refine Ok.cond (fun hd => ?_) (fun _ => Ok.some ⟨hc.mono (by omega), a1, by show l2.length ≤ 1000; omega, a3, by show l3.length ≤ 1000; omega⟩)
    have hlt := of_decide_eq_true hd
    have hipos : 0 < i := by omega
    refine Ok.bind (idx_ok (by omega) hlt) ?_
    intro e he
    have hel := List.all_eq_true.1 hall e he
    simp only [Bool.and_eq_true, decide_eq_true_eq] at hel
    have hj : IntKind.i64.wrap (((ks.length - i : Nat) : Int) + 1) = ((ks.length - (i - 1) : Nat) : Int) := by rw [IntWalk.i64_in _ (by omega)]; omega
    refine Ok.bind (Q := fun q => Cur (n + 220 * (ks.length - i) + 2) q.2) (Ok.cond (fun _ => one_ok _ hc (by omega)) (fun _ => Ok.some (hc.mono (by omega)))) ?_
    rintro ⟨r11, o12⟩ g1
    refine Ok.bind (Q := fun q => Cur (n + 220 * (ks.length - i) + 4) q.2) (Ok.cond (fun _ => one_ok _ g1 (by omega)) (fun _ => Ok.some (g1.mono (by omega)))) ?_
    rintro ⟨r14, o15⟩ g2
    refine Ok.cond (fun _ => ?_) (fun _ => Ok.some ⟨i - 1, by omega, by omega, hj, g2.mono (by omega), a1, by show l2.length ≤ _; omega, a3, by show l3.length ≤ _; omega⟩)
    rw [app_get (by simp; omega), Option.bind_some]
    refine Ok.bind (fieldValue_ok hel.2 g2 (by omega)) ?_
    rintro ⟨r19, o20⟩ ⟨g3, g4⟩
    refine Ok.bind (one_ok _ g3 (by omega)) ?_
    rintro ⟨r26, o27⟩ g5
    have g5 : Cur (n + 220 * (ks.length - i) + 4 + 100 + 2) o27 := g5
    have j : ∀ (b22 : T_spec_l1Cur) (w : T_impl_Value), Cur (n + 220 * (ks.length - i) + 220) b22 → ValOk w → Ok (spec_l1Cur_fields_j1 l3 ((ks.length - i : Nat) : Int) (l2 ++ [e.Name_]) b22 w) (fun (x : (T_spec_l1Cur × List ByteArray × List T_impl_Value × Int) ⊕ (T_spec_l1Cur × List ByteArray × List T_impl_Value)) => match x with
        | .inl s' => ∃ m, m < i ∧ (m ≤ ks.length ∧ s'.2.2.2 = ((ks.length - m : Nat) : Int) ∧ Cur (n + 220 * (ks.length - m)) s'.1 ∧ (∀ x, x ∈ s'.2.1 → x.size ≤ 1000) ∧ s'.2.1.length ≤ ks.length - m ∧ (∀ x, x ∈ s'.2.2.1 → ValOk x) ∧ s'.2.2.1.length ≤ ks.length - m)
        | .inr q => Cur (n + 2300) q.1 ∧ (∀ x, x ∈ q.2.1 → x.size ≤ 1000) ∧ q.2.1.length ≤ 1000 ∧ (∀ x, x ∈ q.2.2 → ValOk x) ∧ q.2.2.length ≤ 1000) := fun b22 w k1 k2 => by
      unfold spec_l1Cur_fields_j1
      rw [app_get (by simp; omega), Option.bind_some]
      exact Ok.some ⟨i - 1, by omega, by omega, hj, k1.mono (by omega), mem_app a1 hel.1, by show (l2 ++ [_]).length ≤ _; simp; omega, mem_app a3 k2, by show (l3 ++ [w]).length ≤ _; simp; omega⟩
    refine Ok.cond (fun _ => ?_) (fun _ => ?_)
    · refine Ok.bind (value_ok g5 (by omega)) ?_
      rintro ⟨r29, o30⟩ ⟨g6, g7⟩
      exact Ok.mono (j _ _ (g6.mono (by omega)) g7) fun x hx => by cases x <;> exact hx
    · exact Ok.mono (j _ _ (g5.mono (by omega)) g4) fun x hx => by cases x <;> exact hx
  · rintro ⟨b, l6, l7⟩ ⟨q1, q2, q3, q4, q5⟩
    exact Ok.some ⟨q1, q2, q3, q4, q5⟩

theorem size_ok {v : Int} (h0 : 0 ≤ v) (h1 : v < 1000000) : Ok (spec_l1Num v) fun s => s.size ≤ 1000 := by
  unfold spec_l1Num
  rw [decF (by omega : ¬ v < 0), cond_false]
  refine Ok.bind (Q := fun s => s.size ≤ 1000) ?_ fun s hs => Ok.some hs
  unfold spec_l1Size
  refine Ok.cond (fun _ => Ok.some (by decide)) fun _ => ?_
  refine Ok.bind (Ok.loop (P := fun s => s.size ≤ 1000) (fun k q => 0 ≤ q.1 ∧ q.1 < 10 ^ k ∧ q.2.size + k ≤ 10) ?_ (n := 6) ⟨h0, h1, by show e0.size + 6 ≤ 10; decide⟩) fun s hs => Ok.some hs
  rintro k ⟨x, s⟩ ⟨g1, g2, g3⟩
  dsimp only at g1 g2 g3
  unfold spec_l1Size_l1
  refine Ok.cond (fun hc => ?_) fun _ => Ok.some (by show s.size ≤ 1000; omega)
  have hx : x ≠ 0 := by simpa using hc
  have hk : 0 < k := by
    rcases Nat.eq_zero_or_pos k with rfl | h
    · simp at g2; omega
    · exact h
  have hm : 0 ≤ Int.tmod x 10 := Int.tmod_nonneg _ g1
  rw [decF (by omega : ¬ Int.tmod x 10 < 0), cond_false]
  unfold spec_l1Size_j1
  have hb : (byS [IntKind.u8.wrap (IntKind.i64.wrap (48 + Int.tmod x 10))]).size = 1 := by rw [byS_size]; rfl
  rw [cat_get (by omega), Option.bind_some]
  have hd : Int.tdiv x 10 = x / 10 := Int.tdiv_eq_ediv_of_nonneg g1
  have hx2 : x < 9223372036854775808 := by
    have : (10 : Int) ^ k ≤ 10 ^ 10 := by
      have : 10 ^ k ≤ 10 ^ 10 := Nat.pow_le_pow_right (by decide) (by omega)
      exact_mod_cast this
    omega
  refine Ok.some ⟨k - 1, by omega, ?_, ?_, ?_⟩
  · show 0 ≤ IntKind.i64.wrap (Int.tdiv x 10)
    rw [hd, IntWalk.i64_in _ (by omega)]; omega
  · show IntKind.i64.wrap (Int.tdiv x 10) < 10 ^ (k - 1)
    rw [hd, IntWalk.i64_in _ (by omega)]
    have : (10 : Int) ^ k = 10 ^ (k - 1) * 10 := by rw [← Int.pow_succ]; congr 1; omega
    omega
  · show (_ ++ s).size + (k - 1) ≤ 10
    rw [ByteArray.size_append, hb]; omega
end Go.G36.AB
/- FnAbove, plain part: the world, things that are odd, the draw. -/
namespace Go.G36.AB
set_option maxRecDepth 20000
set_option maxHeartbeats 2000000
set_option linter.unusedVariables false
set_option linter.unusedSimpArgs false
open Go Go.G36 Go.G36.AbAnc

theorem world_in {n : Nat} {o : T_spec_l1Cur} {e : T_impl_Atom} {ty : T_impl_ThingType} {a b c : T_impl_Atom} {t : T_impl_Thing} (hty : ty.Ups_.length ≤ 10) (ha : AtomOk a) (hb : AtomOk b) (hc : AtomOk c) (ht : ThingOk t) (hp : t.Parents_ = []) (h : Cur n o) (hn : n + 10 < lim) :
    Ok (loopO (spec_l1Cur_world_l2 e ty a b c) (o, t, 0)) fun q => Cur (n + 6) q.1 ∧ ThingOk q.2 := by
  refine Ok.loop (fun i q => i ≤ 3 ∧ q.2.2 = ((3 - i : Nat) : Int) ∧ Cur (n + 2 * (3 - i)) q.1 ∧ ThingOk q.2.1 ∧ q.2.1.Parents_.length ≤ 3 - i) ?_ (n := 3) ⟨by omega, rfl, h.mono (by omega), ht, by show t.Parents_.length ≤ _; rw [hp]; exact Nat.zero_le _⟩
  rintro i ⟨s, t, v⟩ ⟨hi, hv, hcu, hto, hpl⟩
  dsimp only at hv hcu hto hpl
  subst hv
  unfold spec_l1Cur_world_l2
  refine Ok.cond (fun hd => ?_) (fun _ => Ok.some ⟨hcu.mono (by omega), hto⟩)
  have hlt := of_decide_eq_true hd
  have hlt : ((3 - i : Nat) : Int) < 3 := hlt
  refine Ok.bind (idx_ok (by omega) hlt) ?_
  intro x hx
  have hx : AtomOk x := by
    simp only [List.mem_cons, List.not_mem_nil, or_false] at hx
    rcases hx with rfl | rfl | rfl
    · exact ha
    · exact hb
    · exact hc
  have hj : IntKind.i64.wrap (((3 - i : Nat) : Int) + 1) = ((3 - (i - 1) : Nat) : Int) := by rw [IntWalk.i64_in _ (by omega)]; omega
  refine Ok.bind (l3Has_ok (by omega) _) fun r82 _ => ?_
  refine Ok.bind (Q := fun q => Cur (n + 2 * (3 - i) + 2) q.2) (Ok.cond (fun _ => one_ok _ hcu (by omega)) (fun _ => Ok.some (hcu.mono (by omega)))) ?_
  rintro ⟨r84, o85⟩ g1
  refine Ok.cond (fun _ => ?_) (fun _ => Ok.some ⟨i - 1, by omega, by omega, hj, g1.mono (by omega), hto, by show t.Parents_.length ≤ _; omega⟩)
  rw [app_get (by simp; omega), Option.bind_some]
  exact Ok.some ⟨i - 1, by omega, by omega, hj, g1.mono (by omega), ⟨hto.ref, mem_app hto.parents hx, by show (t.Parents_ ++ [x]).length ≤ _; simp; omega, hto.names, hto.nlen, hto.values, hto.vlen⟩, by show (t.Parents_ ++ [x]).length ≤ _; simp; omega⟩
theorem world_ok {n : Nat} {s : T_spec_l1Cur} {sc : T_impl_PolSchema} (hs : schB sc = true) (h : Cur n s) (hn : n + 30000 < lim) : Ok (spec_l1Cur_world sc s) fun q => Cur (n + 25000) q.2.2 ∧ q.1.length ≤ 7 ∧ ∀ t, t ∈ q.1 → ThingOk t := by
  unfold spec_l1Cur_world
  simp only [ref_eq, Option.bind_some]
  generalize hL : ([⟨4, 0, ByteArray.mk #[100, 49], ByteArray.mk #[68, 111, 99]⟩, ⟨4, 0, ByteArray.mk #[100, 50], ByteArray.mk #[68, 111, 99]⟩, ⟨4, 0, ByteArray.mk #[103, 49], ByteArray.mk #[71, 114, 111, 117, 112]⟩] : List T_impl_Atom) = L0
  refine Ok.bind (Ok.loop (P := fun q => Cur (n + 20000) q.1 ∧ q.2.length ≤ 7 ∧ ∀ t, t ∈ q.2 → ThingOk t) (fun i q => i ≤ 7 ∧ q.2.2 = ((7 - i : Nat) : Int) ∧ Cur (n + 2400 * (7 - i)) q.1 ∧ q.2.1.length ≤ 7 - i ∧ ∀ t, t ∈ q.2.1 → ThingOk t) ?_ (n := 7) ⟨by omega, rfl, h.mono (by omega), Nat.zero_le _, fun x hx => absurd hx List.not_mem_nil⟩) ?_
  · rintro i ⟨b, l, v⟩ ⟨hi, hv, hc, hl, ha⟩
    dsimp only at hv hc hl ha
    subst hv
    unfold spec_l1Cur_world_l1
    refine Ok.cond (fun hd => ?_) (fun _ => Ok.some ⟨hc.mono (by omega), by show l.length ≤ 7; omega, ha⟩)
    have hlt := of_decide_eq_true hd
    have hlt : ((7 - i : Nat) : Int) < 7 := hlt
    refine Ok.bind (idx_ok (by omega) hlt) ?_
    intro e he
    have he : AtomOk e := by
      simp only [List.mem_cons, List.not_mem_nil, or_false] at he
      rcases he with rfl | rfl | rfl | rfl | rfl | rfl | rfl <;> exact rf_ok (by decide) (by decide)
    have hj : IntKind.i64.wrap (((7 - i : Nat) : Int) + 1) = ((7 - (i - 1) : Nat) : Int) := by rw [IntWalk.i64_in _ (by omega)]; omega
    refine Ok.bind (thingType_ok hs _) ?_
    rintro ⟨ty, ok⟩ ⟨t1, t2⟩
    refine Ok.bind (fields_ok t1 hc (by omega)) ?_
    rintro ⟨ns, vs, o⟩ ⟨f1, f2, f3, f4, f5⟩
    simp only [ref_eq, Option.bind_some]
    refine Ok.bind (world_in (n := n + 2400 * (7 - i) + 2300) t2 (rf_ok (by decide) (by decide)) (rf_ok (by decide) (by decide)) (rf_ok (by decide) (by decide)) ⟨he, fun x hx => absurd hx List.not_mem_nil, Nat.zero_le _, f2, f3, f4, f5⟩ rfl f1 (by omega)) ?_
    rintro ⟨b2, t⟩ ⟨g1, g2⟩
    refine Ok.bind (Q := fun q => Cur (n + 2400 * (7 - i) + 2310) q.2) (Ok.cond (fun _ => Ok.mono (one_ok _ g1 (by omega)) fun q hq => hq.mono (by omega)) (fun _ => Ok.some (g1.mono (by omega)))) ?_
    rintro ⟨r74, o75⟩ k1
    refine Ok.cond (fun _ => ?_) (fun _ => Ok.some ⟨i - 1, by omega, by omega, hj, k1.mono (by omega), by show l.length ≤ _; omega, ha⟩)
    rw [app_get (by simp; omega), Option.bind_some]
    exact Ok.some ⟨i - 1, by omega, by omega, hj, k1.mono (by omega), by show (l ++ [t]).length ≤ _; simp; omega, mem_app ha g2⟩
  · rintro ⟨b, l⟩ ⟨h1, h2, h3⟩
    refine Ok.bind (of_ok _ (by decide) h1 (by omega)) ?_
    rintro ⟨r20, o21⟩ ⟨k1, k2⟩
    refine Ok.bind (of_ok _ (by decide) k1 (by omega)) ?_
    rintro ⟨r25, o26⟩ ⟨k3, k4⟩
    refine Ok.bind (of_ok _ (by decide) k3 (by omega)) ?_
    rintro ⟨r30, o31⟩ ⟨k5, k6⟩
    refine Ok.bind (one_ok _ k5 (by omega)) ?_
    rintro ⟨r44, o45⟩ k7
    have k7 : Cur (n + 20000 + 2 + 2 + 2 + 2) o45 := k7
    have j : ∀ (o : T_spec_l1Cur) (r : T_impl_Request), Cur (n + 20020) o → Ok (spec_l1Cur_world_j1 sc l o r) fun q => Cur (n + 25000) q.2.2 ∧ q.1.length ≤ 7 ∧ ∀ t, t ∈ q.1 → ThingOk t := fun o r ho => by
      unfold spec_l1Cur_world_j1
      refine Ok.bind (action_ok hs _) ?_
      rintro ⟨ac, ok⟩ t1
      refine Ok.bind (fields_ok t1 ho (by omega)) ?_
      rintro ⟨ns, vs, o2⟩ ⟨f1, f2, f3, f4, f5⟩
      exact Ok.some ⟨f1.mono (by omega), h2, h3⟩
    refine Ok.cond (fun _ => ?_) (fun _ => j _ _ (k7.mono (by omega)))
    refine Ok.bind (thingRef_ok k7 (by omega)) ?_
    rintro ⟨r47, o48⟩ ⟨k8, k9⟩
    refine Ok.bind (thingRef_ok k8 (by omega)) ?_
    rintro ⟨r50, o51⟩ ⟨k10, k11⟩
    exact j _ _ (k10.mono (by omega))
theorem mem_set {α : Type} {P : α → Prop} {l : List α} {i : Nat} {a : α} (h : ∀ x, x ∈ l → P x) (ha : P a) : ∀ x, x ∈ l.set i a → P x := fun x hx => by
  rcases List.mem_or_eq_of_mem_set hx with h1 | rfl
  · exact h x h1
  · exact ha
theorem oddThings_ok {n : Nat} {s : T_spec_l1Cur} {l : List T_impl_Thing} (hl : l.length ≤ 7) (ht : ∀ t, t ∈ l → ThingOk t) (h : Cur n s) (hn : n + 200 < lim) : Ok (spec_l1Cur_oddThingsx s l) fun q => q.1.length ≤ 1000 ∧ ∀ t, t ∈ q.1 → ThingOk t := by
  unfold spec_l1Cur_oddThingsx
  refine Ok.cond (fun _ => Ok.some ⟨by show l.length ≤ 1000; omega, ht⟩) (fun hc => ?_)
  have hc := of_decide_eq_false hc
  refine Ok.bind (pick_ok _ h (by omega)) ?_
  rintro ⟨r1, o2⟩ ⟨h1, h2, h3⟩
  refine Ok.cond (fun _ => ?_) (fun _ => Ok.cond (fun _ => ?_) (fun _ => Ok.cond (fun _ => ?_) (fun _ => Ok.cond (fun _ => ?_) (fun _ => Ok.cond (fun _ => ?_) (fun _ => Ok.some ⟨by show l.length ≤ 1000; omega, ht⟩)))))
  · refine Ok.bind (idx_ok (by omega) (by omega)) fun e4 he4 => ?_
    refine Ok.bind (idx_ok (by omega) (by omega)) fun e6 he6 => ?_
    refine Ok.bind (idx_ok (by omega) (by omega)) fun e8 he8 => ?_
    refine Ok.bind (idx_ok (by omega) (by rw [List.length_set]; omega)) fun e10 he10 => ?_
    exact Ok.some ⟨by simp; omega, mem_set (mem_set ht (ht _ he6)) (ht _ he4)⟩
  · refine Ok.bind (atom_ok h1 (by omega)) ?_
    rintro ⟨r, o⟩ ⟨g1, g2⟩
    refine Ok.bind (idx_ok (by omega) (by omega)) fun e he => ?_
    have ho := ht e he
    exact Ok.some ⟨by simp; omega, mem_set ht ⟨g2, ho.parents, ho.plen, ho.names, ho.nlen, ho.values, ho.vlen⟩⟩
  · refine Ok.bind (thingRef_ok h1 (by omega)) ?_
    rintro ⟨r17, o18⟩ ⟨g1, g2⟩
    refine Ok.bind (thingRef_ok g1 (by omega)) ?_
    rintro ⟨r20, o21⟩ ⟨g3, g4⟩
    refine Ok.bind (idx_ok (by omega) (by omega)) fun e he => ?_
    have ho := ht e he
    refine Ok.some ⟨by simp; omega, mem_set ht ⟨ho.ref, fun x hx => ?_, by show 2 ≤ 1000; omega, ho.names, ho.nlen, ho.values, ho.vlen⟩⟩
    have hx : x ∈ [r17, r20] := hx
    simp only [List.mem_cons, List.not_mem_nil, or_false] at hx
    rcases hx with rfl | rfl
    · exact g2
    · exact g4
  · refine Ok.bind (idx_ok (by omega) (by omega)) fun e he => ?_
    have ho := ht e he
    refine Ok.bind (value_ok h1 (by omega)) ?_
    rintro ⟨r27, o28⟩ ⟨g1, g2⟩
    refine Ok.bind (oddValue_ok g2 g1 (by omega)) ?_
    rintro ⟨r30, o31⟩ ⟨g3, g4⟩
    have hset : ∀ t, t ∈ l.set (Int.toNat 0) ({ e with Names_ := ([(ByteArray.mk #[97])] : List ByteArray) } : T_impl_Thing) → ThingOk t := mem_set ht ⟨ho.ref, ho.parents, ho.plen, fun x hx => by
      have hx : x ∈ [ByteArray.mk #[97]] := hx
      simp only [List.mem_cons, List.not_mem_nil, or_false] at hx
      subst hx; decide, by show 1 ≤ 1000; omega, ho.values, ho.vlen⟩
    refine Ok.bind (idx_ok (by omega) (by rw [List.length_set]; omega)) fun e33 he33 => ?_
    have ho2 := hset e33 he33
    refine Ok.some ⟨by simp; omega, mem_set hset ⟨ho2.ref, ho2.parents, ho2.plen, ho2.names, ho2.nlen, fun x hx => ?_, by show 1 ≤ 1000; omega⟩⟩
    have hx : x ∈ [r30] := hx
    simp only [List.mem_cons, List.not_mem_nil, or_false] at hx
    subst hx; exact g4
  · refine Ok.bind (pick_ok _ h1 (by omega)) ?_
    rintro ⟨r, o⟩ ⟨g1, g2, g3⟩
    have g2 : 0 ≤ r := g2
    have g3 : r < 3 := g3 (by omega)
    have hw : IntKind.i64.wrap (99 + r) = 99 + r := IntWalk.i64_in _ (by omega)
    refine Ok.bind (Ok.loop (P := fun w => w.length ≤ 1000 ∧ ∀ t, t ∈ w → ThingOk t) (fun i w => w.length ≤ 200 ∧ (∀ t, t ∈ w → ThingOk t) ∧ i = 200 - w.length) ?_ (n := 200 - l.length) ⟨by omega, ht, rfl⟩) fun w hw => Ok.some hw
    rintro i w ⟨hw1, hw2, hi⟩
    unfold spec_l1Cur_oddThingsx_l1
    dsimp only
    rw [hw]
    refine Ok.cond (fun hc => ?_) (fun _ => Ok.some ⟨by omega, hw2⟩)
    have hlt := of_decide_eq_true hc
    rw [IntWalk.i64_in _ (by omega)]
    refine Ok.bind (size_ok (by omega) (by omega)) fun r41 h41 => ?_
    rw [ref_eq, Option.bind_some, app_get (by simp; omega), Option.bind_some]
    refine Ok.some ⟨i - 1, by omega, by show (w ++ [_]).length ≤ _; simp; omega, mem_app hw2 ⟨rf_ok h41 (by decide), fun x hx => absurd hx List.not_mem_nil, Nat.zero_le _, fun x hx => absurd hx List.not_mem_nil, Nat.zero_le _, fun x hx => absurd hx List.not_mem_nil, Nat.zero_le _⟩, ?_⟩
    show i - 1 = 200 - (w ++ [_]).length
    simp; omega
theorem draw_ok {code : List Int} (h : ∀ b, b ∈ code → 0 ≤ b ∧ b ≤ 255) : Ok (spec_DrawAncestors code) fun q => q.1.length ≤ 1000 ∧ (∀ t, t ∈ q.1 → ThingOk t) ∧ AtomOk q.2 := by
  have h0 : Cur 0 (⟨code, 0, 0⟩ : T_spec_l1Cur) := ⟨by show (0 : Int) ≤ 0; omega, by show (0 : Int) ≤ ((0 : Nat) : Int); omega, h⟩
  unfold spec_DrawAncestors
  refine Ok.bind (schema_ok h0 (by unfold lim; omega)) ?_
  rintro ⟨sc, o2⟩ ⟨h1, h2⟩
  refine Ok.bind (world_ok h2 h1 (by unfold lim; omega)) ?_
  rintro ⟨l, r, o6⟩ ⟨h3, h4, h5⟩
  refine Ok.bind (thingRef_ok h3 (by unfold lim; omega)) ?_
  rintro ⟨r8, o9⟩ ⟨h6, h7⟩
  refine Ok.bind (one_ok _ h6 (by unfold lim; omega)) ?_
  rintro ⟨r16, o17⟩ h8
  have j : ∀ (o : T_spec_l1Cur) (a : T_impl_Atom), Cur 30000 o → AtomOk a → Ok (spec_DrawAncestors_j1 l o a) fun q => q.1.length ≤ 1000 ∧ (∀ t, t ∈ q.1 → ThingOk t) ∧ AtomOk q.2 := fun o a ho ha => by
    unfold spec_DrawAncestors_j1
    refine Ok.bind (oddThings_ok h4 h5 ho (by unfold lim; omega)) ?_
    rintro ⟨l2, o2⟩ ⟨k1, k2⟩
    exact Ok.some ⟨k1, k2, ha⟩
  refine Ok.cond (fun _ => ?_) (fun _ => j _ _ (Cur.mono h8 (by omega)) h7)
  refine Ok.bind (atom_ok h8 (by unfold lim; omega)) ?_
  rintro ⟨r19, o20⟩ ⟨k1, k2⟩
  exact j _ _ (k1.mono (by omega)) k2
end Go.G36.AB
/- FnAbove, plain part: the law. -/
namespace Go.G36.AB
set_option maxRecDepth 20000
set_option maxHeartbeats 2000000
set_option linter.unusedVariables false
set_option linter.unusedSimpArgs false
open Go Go.G36 Go.G36.AbAnc

theorem both_anc {l : List T_impl_Thing} {a : T_impl_Atom} (hl : l.length ≤ 1000) (ht : ∀ t, t ∈ l → ThingOk t) (ha : AtomOk a) :
    ∃ ys, ancs l a = some ys ∧ spec_Ancestors l a = some ys ∧ (∀ x, x ∈ ys → Up l a x) ∧ ys.length ≤ 1000001 ∧ (gT l = true → gR a = true → ∀ x, Up l a x → x ∈ ys) ∧ (ys ≠ [] → gT l = true ∧ gR a = true) := by
  obtain ⟨m, ys, h1, h2, h3, h4, h5, h6, h7, h8⟩ := both_up (r := a) hl (fun t h => (ht t h).plen) (fun t h => (ht t h).parents) ha
  unfold ancs spec_Ancestors
  rw [things_impl ht hl, things_spec ht hl]
  simp only [Option.bind_some]
  rw [gR_impl ha, gR_spec ha, h1, h5]
  simp only [gdO_some, Option.bind_some]
  cases hg : gT l with
  | false => exact ⟨[], rfl, rfl, fun x hx => absurd hx List.not_mem_nil, Nat.zero_le _, (fun e => by cases e), fun e => absurd rfl e⟩
  | true =>
    cases hr : gR a with
    | false => exact ⟨[], rfl, rfl, fun x hx => absurd hx List.not_mem_nil, Nat.zero_le _, (fun _ e => by cases e), fun e => absurd rfl e⟩
    | true =>
      refine ⟨ys, ?_, rfl, fun x hx => (h7 x).1 hx, h8, fun _ _ x hx => (h7 x).2 hx, fun _ => ⟨rfl, rfl⟩⟩
      simp only [Bool.not_true, Bool.not_false, Bool.or_false, cond_false, cond_true]
      rw [decT (by omega : m.length ≤ 4294967295), cond_true, h6]
theorem has_ok {l : List T_impl_Atom} {x : T_impl_Atom} (h : x ∈ l) (hl : l.length ≤ 1000001) : spec_HasAtom l x = some true := by
  unfold spec_HasAtom
  rw [has_eq l x (by omega), Option.bind_some, any_mem.2 h]
theorem loop_on {α R : Type} (xs : List α) (step : Int → Option (Int ⊕ (Unit ⊕ R))) (hs : ∀ (i : Nat) (a : α), xs[i]? = some a → step (i : Int) = some (.inl ((i : Int) + 1))) (he : step (xs.length : Int) = some (.inr (.inl ()))) : loopO step 0 = some (.inl ()) := by
  have h : ∀ n : Nat, n ≤ xs.length → loopO step ((xs.length - n : Nat) : Int) = some (.inl ()) := by
    intro n
    induction n with
    | zero => intro _; exact loopO_end he
    | succ n ih =>
      intro hn
      rw [loopO_go (hs (xs.length - (n + 1)) xs[xs.length - (n + 1)] (List.getElem?_eq_getElem (by omega)))]
      have := ih (by omega)
      rwa [show (((xs.length - n : Nat) : Int)) = ((xs.length - (n + 1) : Nat) : Int) + 1 by omega] at this
  have := h xs.length (Nat.le_refl _)
  simpa using this
theorem law {code : List Int} (h : ∀ b, b ∈ code → 0 ≤ b ∧ b ≤ 255) : laws_FnAbove code = some true := by
  unfold laws_FnAbove
  cases decide ((code.length : Int) > 1048576) with
  | true => rfl
  | false =>
    obtain ⟨⟨l, a⟩, hd, hl, ht, ha⟩ := draw_ok h
    have hl : l.length ≤ 1000 := hl
    have ht : ∀ t, t ∈ l → ThingOk t := ht
    have ha : AtomOk a := ha
    obtain ⟨ys, h1, h2, h3, h4, h5, h6⟩ := both_anc hl ht ha
    rw [cond_false, hd]
    simp only [Option.bind_some]
    rw [h1, Option.bind_some, h2, Option.bind_some, zAtoms_same ys (by omega), Option.bind_some]
    simp only [Bool.not_true, cond_false]
    cases ys with
    | nil => rfl
    | cons y0 yr =>
      obtain ⟨hg, hr⟩ := h6 (by simp)
      generalize hY : y0 :: yr = ys at h1 h2 h3 h4 h5
      have hne : ((ys.length : Int) == 0) = false := by rw [← hY]; simp; omega
      have hup := h5 hg hr
      rw [hne, cond_false, has_ok (hup a .me) h4, Option.bind_some]
      simp only [Bool.not_true, cond_false]
      have hok : ∀ x, x ∈ ys → AtomOk x ∧ gR x = true := fun x hx => by
        cases h3 x hx with
        | me => exact ⟨ha, hr⟩
        | up hx2 hp =>
          unfold par findT at hp
          rename_i z
          cases hf : l.find? (fun t => t.Ref_ == z) with
          | none => rw [hf] at hp; simp at hp
          | some t =>
            rw [hf] at hp
            have hm := List.mem_of_find?_eq_some hf
            exact ⟨(ht t hm).parents x hp, gT_parents hg t hm x hp⟩
      rw [loop_on ys (laws_FnAbove_l1 l a ys) (fun i x hx => by
        have hi := (List.getElem?_eq_some_iff.1 hx).1
        have hxm := List.mem_of_getElem? hx
        obtain ⟨hxo, hxr⟩ := hok x hxm
        obtain ⟨zs, k1, k2, k3, k4, k5, k6⟩ := both_anc hl ht hxo
        unfold laws_FnAbove_l1
        dsimp only
        rw [ltn hi, cond_true, idx_nat, hx, Option.bind_some, k1, Option.bind_some, loop_on zs (laws_FnAbove_l2 ys zs) (fun j z hz => by
          have hj := (List.getElem?_eq_some_iff.1 hz).1
          unfold laws_FnAbove_l2
          dsimp only
          rw [ltn hj, cond_true, idx_nat, hz, Option.bind_some, has_ok (hup z ((h3 x hxm).trans (k3 z (List.mem_of_getElem? hz)))) h4, Option.bind_some, wrap_succ (by omega)]
          rfl) (by
          unfold laws_FnAbove_l2
          dsimp only
          rw [decF (by omega : ¬ (zs.length : Int) < (zs.length : Int))]; rfl), Option.bind_some]
        have hh : impl_HeadMatches l ⟨3, x, e0⟩ a = some true := by
          obtain ⟨m, _, m1, m2, m3, m4, _⟩ := both_up (r := a) hl (fun t h => (ht t h).plen) (fun t h => (ht t h).parents) ha
          have n1 : ((3 : Int) == 1) = false := rfl
          have n2 : ((3 : Int) == 2) = false := rfl
          have n3 : ((3 : Int) == 3) = true := rfl
          have hgh : impl_ygoodHead ⟨3, x, e0⟩ false = some true := by
            unfold impl_ygoodHead impl_ygoodHead_j1
            simp only [n1, n2, n3, cond_true, cond_false]
            rw [gR_impl hxo, hxr]
            simp
          have hym : impl_yheadMatches l ⟨3, x, e0⟩ a = some true := by
            unfold impl_yheadMatches
            simp only [n1, n2, n3, cond_true, cond_false]
            rw [m1, Option.bind_some, (yes_get m2 x).2 ((m3 x).2 (h3 x hxm))]
          unfold impl_HeadMatches
          rw [things_impl ht hl, hg, hgh, gR_impl ha, hr, hym]
          rfl
        dsimp only
        rw [hh, Option.bind_some, wrap_succ (by omega)]
        rfl) (by
        unfold laws_FnAbove_l1
        dsimp only
        rw [decF (by omega : ¬ (ys.length : Int) < (ys.length : Int))]; rfl)]
      rfl
end Go.G36.AB
