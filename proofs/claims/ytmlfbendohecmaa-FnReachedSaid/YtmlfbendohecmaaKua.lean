/- Structs compared. -/
import Derived.Test.YtmlfbendohecmaaKt
import Derived.Laws.StructEq
namespace Go.G36
variable [Genv]
set_option linter.all false
open Go

/-- What comparing two plain values comes to: by their cells. The number bounds the nesting. -/
inductive EqT (P : Program) : Bool → Nat → TypeId → List Field → Nat → List V → List V → Bool → Prop where
  | bool {n t : Nat} {a b : Bool} (h : P.underlying t = some .bool) : EqT P true (n + 1) t [] 0 [.bool a] [.bool b] (a == b)
  | int {n t : Nat} {k : IntKind} {a b : Int} (h : P.underlying t = some (.int k)) : EqT P true (n + 1) t [] 0 [.int k a] [.int k b] (a == b)
  | str {n t : Nat} {a b : ByteArray} (h : P.underlying t = some .string) : EqT P true (n + 1) t [] 0 [.str a] [.str b] (a.toList == b.toList)
  | struct {n t : Nat} {fs : Array Field} {cs ds : List V} {b : Bool} (h : P.underlying t = some (.struct fs)) (hs : P.stoodInHeld t = false) (hf : EqT P false n 0 fs.toList 0 cs ds b) : EqT P true (n + 1) t [] 0 cs ds b
  | nil {n o : Nat} : EqT P false n 0 [] o [] [] true
  | cons {n o : Nat} {f : Field} {fs : List Field} {c d cs ds : List V} {b b2 : Bool} {ag : Bool} {sz : Nat} (hn : (f.name == "_") = false) (ho : Nat.beq f.offset o = true) (ht : TyS P f.type ag sz) (hc : c.length = sz) (hd : d.length = sz)
      (hag : ag = false → sz = 1) (hag2 : ag = true → ∃ fs, P.underlying f.type = some (.struct fs)) (hag3 : ag = false → ∀ fs, P.underlying f.type ≠ some (.struct fs)) (h1 : EqT P true n f.type [] 0 c d b) (h2 : EqT P false n 0 fs (o + sz) cs ds b2) : EqT P false n 0 (f :: fs) o (c ++ cs) (d ++ ds) (b && b2)

def CvL (S : Nat → Prop) (w : World) (cs : List V) (us : List Value) : Prop := cs.length = us.length ∧ ∀ (i : Nat) (c : V) (u : Value), cs[i]? = some c → us[i]? = some u → CV S w c u

theorem CvL.one {S : Nat → Prop} {w : World} {c : V} {us : List Value} (h : CvL S w [c] us) : ∃ u, us = [u] ∧ CV S w c u := by
  obtain ⟨h1, h2⟩ := h
  match us, h1 with
  | [u], _ => exact ⟨u, rfl, h2 0 c u rfl rfl⟩

theorem bytes_ext {a b : ByteArray} (h : a.toList = b.toList) : a = b := by
  rw [ByteArray.toList_eq, ByteArray.toList_eq] at h
  obtain ⟨⟨x⟩⟩ := a
  obtain ⟨⟨y⟩⟩ := b
  simp at h
  rw [h]

/-- The value that cells of a type make. -/
def mkVal (P : Program) (t : TypeId) (us : List Value) : Value := match P.underlying t with
  | some (.struct _) => .agg us.toArray
  | _ => us.headD undef

theorem CvL.split {S : Nat → Prop} {w : World} {sz o : Nat} {c cs : List V} {us : List Value} (hc : c.length = sz) (g : CvL S w (c ++ cs) (us.drop o)) (og : o ≤ us.length) : CvL S w c ((us.drop o).take sz) ∧ CvL S w cs (us.drop (o + sz)) ∧ o + sz ≤ us.length := by
  obtain ⟨g1, g2⟩ := g
  rw [List.length_append, List.length_drop] at g1
  refine ⟨⟨by rw [List.length_take, List.length_drop]; omega, fun i x u hx hu => ?_⟩, ⟨by rw [List.length_drop]; omega, fun i x u hx hu => ?_⟩, by omega⟩
  · have hi : i < c.length := (List.getElem?_eq_some_iff.1 hx).1
    rw [List.getElem?_take, if_pos (by omega)] at hu
    exact g2 i x u (by rw [List.getElem?_append_left hi]; exact hx) hu
  · refine g2 (c.length + i) x u (by rw [List.getElem?_append_right (by omega)]; simpa using hx) ?_
    rw [List.getElem?_drop] at hu ⊢
    rw [← hu]; congr 1; omega

theorem part_mk {P : Program} {w : World} {f : Field} {o sz : Nat} {ag : Bool} {us : List Value} (ho : f.offset = o) (ht : TyS P f.type ag sz) (hag : ag = false → sz = 1) (hag2 : ag = true → ∃ fs, P.underlying f.type = some (.struct fs))
    (hag3 : ag = false → ∀ fs, P.underlying f.type ≠ some (.struct fs)) (hl : o + sz ≤ us.length) : (part f.type us.toArray f.offset).run P w = .ok (mkVal P f.type ((us.drop o).take sz)) w := by
  rw [ho]
  cases ag with
  | true =>
    obtain ⟨fs', hu⟩ := hag2 rfl
    rw [run_part_agg w ht]
    simp only [mkVal, hu]
    congr 2
    rw [← Array.toList_inj]
    simp [List.extract_eq_drop_take]
  | false =>
    have hs1 := hag rfl
    subst hs1
    have hlt : o < us.length := by omega
    rw [run_part_one w ht (u := us[o]) (by simp [hlt])]
    have hne := hag3 rfl
    have e : (us.drop o).take 1 = [us[o]] := by rw [List.drop_eq_getElem_cons hlt]; rfl
    rw [e]
    unfold mkVal
    split
    · rename_i fs' hu; exact absurd hu (hne fs')
    · rfl

theorem eqT_run {P : Program} {tb : Bool} {n t : Nat} {fs : List Field} {o : Nat} {cs ds : List V} {b : Bool} (h : EqT P tb n t fs o cs ds b) : ∀ (S : Nat → Prop) (w : World),
    (tb = true → ∀ us vs : List Value, CvL S w cs us → CvL S w ds vs → (Op.equalIn n t (mkVal P t us) (mkVal P t vs)).run P w = .ok b w ∧ (b = true → us = vs)) ∧
    (tb = false → ∀ (us vs : List Value), CvL S w cs (us.drop o) → CvL S w ds (vs.drop o) → o ≤ us.length → o ≤ vs.length → (Op.eqFields n us.toArray vs.toArray fs).run P w = .ok b w ∧ (b = true → us.drop o = vs.drop o)) := by
  induction h with
  | bool h =>
    intro S w
    refine ⟨fun _ us vs h1 h2 => ?_, fun h => by cases h⟩
    obtain ⟨u, rfl, hu⟩ := h1.one
    obtain ⟨v, rfl, hv⟩ := h2.one
    cases hu; cases hv
    refine ⟨by simp only [mkVal, h, List.headD_cons]; exact run_equalIn_bool' w _ _ _ _ h, fun hb => by rw [eq_of_beq hb]⟩
  | int h =>
    intro S w
    refine ⟨fun _ us vs h1 h2 => ?_, fun h => by cases h⟩
    obtain ⟨u, rfl, hu⟩ := h1.one
    obtain ⟨v, rfl, hv⟩ := h2.one
    cases hu; cases hv
    refine ⟨by simp only [mkVal, h, List.headD_cons]; exact run_equalIn_int w _ _ _ _ _ _ h, fun hb => by rw [eq_of_beq hb]⟩
  | str h =>
    intro S w
    refine ⟨fun _ us vs h1 h2 => ?_, fun h => by cases h⟩
    obtain ⟨u, rfl, hu⟩ := h1.one
    obtain ⟨v, rfl, hv⟩ := h2.one
    cases hu; cases hv
    refine ⟨by simp only [mkVal, h, List.headD_cons]; exact run_equalIn_string w _ _ _ _ h, fun hb => by rw [bytes_ext (eq_of_beq hb)]⟩
  | struct h hs hf ih =>
    intro S w
    rename_i n t fs cs ds b
    refine ⟨fun _ us vs h1 h2 => ?_, fun h => by cases h⟩
    obtain ⟨k1, k2⟩ := (ih S w).2 rfl us vs (by simpa using h1) (by simpa using h2) (Nat.zero_le _) (Nat.zero_le _)
    refine ⟨?_, by simpa using k2⟩
    have hfo : P.fieldsOf t = fs := by simp [Program.fieldsOf, h]
    simp only [mkVal, h]
    rw [run_equalIn_struct w n t _ _ (by rw [hfo]; exact h) hs, hfo]
    exact k1
  | nil =>
    intro S w
    refine ⟨fun h => (Bool.noConfusion h), fun _ us vs h1 h2 ho1 ho2 => ⟨by simp [Op.eqFields], fun _ => ?_⟩⟩
    rw [List.length_eq_zero_iff.1 h1.1.symm, List.length_eq_zero_iff.1 h2.1.symm]
  | cons hn ho ht hc hd hag hag2 hag3 h1 h2 ih1 ih2 =>
    intro S w
    rename_i n o f fs c d cs ds b b2 ag sz
    have ho := Nat.eq_of_beq_eq_true ho
    have hn : f.name ≠ "_" := by simpa using hn
    refine ⟨fun h => (Bool.noConfusion h), fun _ us vs g1 g2 o1 o2 => ?_⟩
    obtain ⟨p1, p2, p3⟩ := CvL.split hc g1 o1
    obtain ⟨q1, q2, q3⟩ := CvL.split hd g2 o2
    obtain ⟨e1, e2⟩ := (ih1 S w).1 rfl _ _ p1 q1
    obtain ⟨r1, r2⟩ := (ih2 S w).2 rfl us vs p2 q2 p3 q3
    refine ⟨?_, fun hb => ?_⟩
    · simp only [Op.eqFields, hn, ne_eq, not_false_eq_true, if_true, Sem.run_bind, part_mk ho ht hag hag2 hag3 p3, part_mk ho ht hag hag2 hag3 q3, Result.andThen_ok, e1]
      cases b with
      | true => simpa using r1
      | false => simp
    · simp only [Bool.and_eq_true] at hb
      have a1 := e2 hb.1
      have a2 := r2 hb.2
      rw [← List.take_append_drop sz (us.drop o), ← List.take_append_drop sz (vs.drop o), List.drop_drop, List.drop_drop, a1, a2]

section
variable {P : Program} {o : Oper} {fr : Fr} {σ : ASt}
theorem agg_list {S B : Nat → Prop} {ι : List Loc} {w : World} {cs : List V} {u : Value} (h : Val S B (RefR ι σ) w (.agg cs) u) (hcl : V.cls cs = true) : ∃ us : List Value, u = .agg us.toArray ∧ CvL S w cs us := by
  obtain ⟨us, rfl, h1, h2⟩ := h.inv_agg
  exact ⟨us.toList, by simp, by simpa using h1, fun i c u hc hu => (h2 i c u hc (by simpa using hu)).closed (refOk _ _) (V.cls_get hcl i c hc)⟩

theorem o_eqA {t yt : TypeId} {x y : Operand} {cs ds : List V} {fs : Array Field} {b : Bool} (ho : o.op = .binOp .eql t x y yt) (ht : P.underlying t = some (.struct fs)) (hg : P.eqGuardType P.depth t = false) (hx : evalE fr x = some (.agg cs)) (hy : evalE fr y = some (.agg ds))
    (hc : V.cls cs = true) (hd : V.cls ds = true) (h : EqT P true 10000 t [] 0 cs ds b) : Does P o fr σ (.bool b) σ := quiet fun S B ι a w he hm => by
  obtain ⟨us, h1, k1⟩ := agg_list (he x (by simp [ho, Op.operands]) _ hx) hc
  obtain ⟨vs, h2, k2⟩ := agg_list (he y (by simp [ho, Op.operands]) _ hy) hd
  obtain ⟨e, _⟩ := (eqT_run h S w).1 rfl us vs k1 k2
  simp only [mkVal, ht] at e
  refine ⟨.bool b, ?_, .cv _ _ (by constructor)⟩
  simp only [execOp, ho, h1, h2, Sem.run_bind, run_eqGuard_agg w .eql t x y _ _ hg, Result.andThen_ok, run_eql_struct, e, Sem.run_pure]
theorem o_neA {t yt : TypeId} {x y : Operand} {cs ds : List V} {fs : Array Field} {b : Bool} (ho : o.op = .binOp .neq t x y yt) (ht : P.underlying t = some (.struct fs)) (hg : P.eqGuardType P.depth t = false) (hx : evalE fr x = some (.agg cs)) (hy : evalE fr y = some (.agg ds))
    (hc : V.cls cs = true) (hd : V.cls ds = true) (h : EqT P true 10000 t [] 0 cs ds b) : Does P o fr σ (.bool (!b)) σ := quiet fun S B ι a w he hm => by
  obtain ⟨us, h1, k1⟩ := agg_list (he x (by simp [ho, Op.operands]) _ hx) hc
  obtain ⟨vs, h2, k2⟩ := agg_list (he y (by simp [ho, Op.operands]) _ hy) hd
  obtain ⟨e, _⟩ := (eqT_run h S w).1 rfl us vs k1 k2
  simp only [mkVal, ht] at e
  refine ⟨.bool (!b), ?_, .cv _ _ (by constructor)⟩
  simp only [execOp, ho, h1, h2, Sem.run_bind, run_eqGuard_agg w .neq t x y _ _ hg, Result.andThen_ok, Sem.run_pure]
  simp [binOp, Op.equal, Op.maxDepth, e]
end
end Go.G36
