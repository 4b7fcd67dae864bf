/- FnLinked, plain part: drawn expressions. -/
import Derived.Test.YtnndbiialpaccaaGreatDoorQ36b
import Derived.Test.YtnndbiialpaccaaGreatDoorZC
namespace Go.G36.ZL
set_option linter.unusedVariables false
set_option linter.unusedSimpArgs false
open Go Go.G36

/-- A tree whose kids are told by cells: well formed, and not deeper than that. -/
def Tr : Nat → T_spec_l10E → Prop
  | 0, _ => False
  | d + 1, t => ExprOk t.n_ ∧ t.kids_.length ≤ 3 ∧ ∀ k, k ∈ t.kids_ → ∃ u, k = c_T_spec_l10E false u ∧ Tr d u
theorem Tr.mono {d e : Nat} {t : T_spec_l10E} (h : Tr d t) (he : d ≤ e) : Tr e t := by
  induction d generalizing e t with
  | zero => exact h.elim
  | succ d ih =>
    obtain ⟨e, rfl⟩ : ∃ e', e = e' + 1 := ⟨e - 1, by omega⟩
    obtain ⟨h1, h2, h3⟩ := h
    refine ⟨h1, h2, fun k hk => ?_⟩
    obtain ⟨u, hu, hu2⟩ := h3 k hk
    exact ⟨u, hu, ih hu2 (by omega)⟩
theorem exprOk {k : Int} {t : ByteArray} (h : t.size ≤ 1000) : ExprOk ⟨k, t, ⟨0, 0, ByteArray.mk #[], ByteArray.mk #[]⟩, 0⟩ := ⟨atomOk (by omega) (by omega) size_e size_e, h, by simp, by simp⟩
theorem Tr.n0 {d : Nat} {k : Int} {t : ByteArray} (h : t.size ≤ 1000) : Tr (d + 1) ⟨⟨k, t, ⟨0, 0, ByteArray.mk #[], ByteArray.mk #[]⟩, 0⟩, []⟩ := ⟨exprOk h, by simp, fun k hk => by cases hk⟩
theorem Tr.ren {d : Nat} {k : Int} {t : T_spec_l10E} (h : Tr (d + 1) t) : Tr (d + 1) ⟨⟨k, t.n_.Text_, ⟨0, 0, ByteArray.mk #[], ByteArray.mk #[]⟩, 0⟩, t.kids_⟩ := ⟨exprOk h.1.text, h.2.1, h.2.2⟩
theorem Tr.lit {d : Nat} {a : T_impl_Atom} (h : AtomOk a) : Tr (d + 1) ⟨⟨1, ByteArray.mk #[], a, 0⟩, []⟩ := ⟨⟨h, size_e, by simp, by simp⟩, by simp, fun k hk => by cases hk⟩
theorem Tr.n1 {d : Nat} {k : Int} {t : ByteArray} {u : T_spec_l10E} (h : t.size ≤ 1000) (hu : Tr d u) : Tr (d + 1) ⟨⟨k, t, ⟨0, 0, ByteArray.mk #[], ByteArray.mk #[]⟩, 0⟩, [c_T_spec_l10E false u]⟩ := ⟨exprOk h, by simp, fun k hk => by
  simp only [List.mem_cons, List.not_mem_nil, or_false] at hk
  exact ⟨u, hk, hu⟩⟩
theorem Tr.n2 {d : Nat} {k : Int} {t : ByteArray} {u v : T_spec_l10E} (h : t.size ≤ 1000) (hu : Tr d u) (hv : Tr d v) : Tr (d + 1) ⟨⟨k, t, ⟨0, 0, ByteArray.mk #[], ByteArray.mk #[]⟩, 0⟩, [c_T_spec_l10E false u, c_T_spec_l10E false v]⟩ := ⟨exprOk h, by simp, fun k hk => by
  simp only [List.mem_cons, List.not_mem_nil, or_false] at hk
  rcases hk with hk | hk
  · exact ⟨u, hk, hu⟩
  · exact ⟨v, hk, hv⟩⟩
theorem Tr.n3 {d : Nat} {k : Int} {t : ByteArray} {u v x : T_spec_l10E} (h : t.size ≤ 1000) (hu : Tr d u) (hv : Tr d v) (hx : Tr d x) : Tr (d + 1) ⟨⟨k, t, ⟨0, 0, ByteArray.mk #[], ByteArray.mk #[]⟩, 0⟩, [c_T_spec_l10E false u, c_T_spec_l10E false v, c_T_spec_l10E false x]⟩ := ⟨exprOk h, by simp, fun k hk => by
  simp only [List.mem_cons, List.not_mem_nil, or_false] at hk
  rcases hk with hk | hk | hk
  · exact ⟨u, hk, hu⟩
  · exact ⟨v, hk, hv⟩
  · exact ⟨x, hk, hx⟩⟩

attribute [local irreducible] spec_l1Cur_next spec_l1Cur_pick spec_l1Cur_one spec_l1Cur_of spec_l10Ref spec_l1Cur_thingRef spec_l1Cur_head spec_l10Node spec_l1Cur_path spec_l10Lit spec_l1Cur_wide spec_l1Cur_printed spec_l1Pow2 spec_l1Cur_block spec_l1Cur_atom spec_l1Cur_ofContext spec_l1Cur_numExpr spec_l1Cur_boolExpr Tr


theorem path_ok {n : Nat} {s : T_spec_l1Cur} (h : Cur n s) (hn : n + 8 < lim) : Ok (spec_l1Cur_path s) fun q => Cur (n + 8) q.2 ∧ Tr 3 q.1 := by
  unfold spec_l1Cur_path
  simp only [node_eq, lit_eq, Option.bind_some]
  repeat' (first | (refine Ok.bind (pick_ok _ (by assumption) (by omega)) ?_; rintro ⟨zr, zo⟩ ⟨z1, z2, z3⟩; replace z3 := z3 (by omega); dsimp only at z1 z2 z3) | (refine Ok.bind (one_ok _ (by assumption) (by omega)) ?_; rintro ⟨zr, zo⟩ z1; dsimp only at z1) | (refine Ok.bind (of_ok _ (by decide) (by assumption) (by omega)) ?_; rintro ⟨zr, zo⟩ ⟨z1, z2⟩; dsimp only at z1 z2) | (refine Ok.cond (fun _ => ?_) (fun _ => ?_)))
  all_goals (refine Ok.some ⟨Cur.mono (by assumption) (by omega), ?_⟩; repeat' (first | exact Tr.mono (by assumption) (by omega) | refine Tr.lit ?_ | refine Tr.n0 ?_ | refine Tr.n1 ?_ ?_ | refine Tr.n2 ?_ ?_ ?_ | refine Tr.n3 ?_ ?_ ?_ ?_ | assumption | exact size_e | decide | exact atomOk (by omega) (by omega) (by first | assumption | decide) (by first | assumption | decide) | exact atomOk (wr _).1 (wr _).2 (by first | assumption | decide) (by first | assumption | decide)))
theorem ofContext_ok {n : Nat} {s : T_spec_l1Cur} (h : Cur n s) (hn : n + 10 < lim) : Ok (spec_l1Cur_ofContext s) fun q => Cur (n + 10) q.2 ∧ Tr 3 q.1 := by
  unfold spec_l1Cur_ofContext
  simp only [node_eq, lit_eq, Option.bind_some]
  repeat' (first | (refine Ok.bind (pick_ok _ (by assumption) (by omega)) ?_; rintro ⟨zr, zo⟩ ⟨z1, z2, z3⟩; replace z3 := z3 (by omega); dsimp only at z1 z2 z3) | (refine Ok.bind (one_ok _ (by assumption) (by omega)) ?_; rintro ⟨zr, zo⟩ z1; dsimp only at z1) | (refine Ok.bind (of_ok _ (by decide) (by assumption) (by omega)) ?_; rintro ⟨zr, zo⟩ ⟨z1, z2⟩; dsimp only at z1 z2) | (refine Ok.cond (fun _ => ?_) (fun _ => ?_)))
  all_goals (refine Ok.some ⟨Cur.mono (by assumption) (by omega), ?_⟩; repeat' (first | exact Tr.mono (by assumption) (by omega) | refine Tr.lit ?_ | refine Tr.n0 ?_ | refine Tr.n1 ?_ ?_ | refine Tr.n2 ?_ ?_ ?_ | refine Tr.n3 ?_ ?_ ?_ ?_ | assumption | exact size_e | decide | exact atomOk (by omega) (by omega) (by first | assumption | decide) (by first | assumption | decide) | exact atomOk (wr _).1 (wr _).2 (by first | assumption | decide) (by first | assumption | decide)))

/-! ### Numbers -/
def NumRec (c D : Nat) (a : Int) (rec : (Int × T_spec_l1Cur) → Option (T_spec_l10E × T_spec_l1Cur)) : Prop := 0 < a → ∀ n s, Cur n s → n + c < lim → Ok (rec (a - 1, s)) fun q => Cur (n + c) q.2 ∧ Tr D q.1

theorem num_j3 {c D : Nat} (hD : 3 ≤ D) {n : Nat} {o : T_spec_l1Cur} (h : Cur n o) (hn : n + 10 < lim) (v : Bool) : Ok (spec_l1Cur_numExpr_j3 o v) fun q => Cur (n + 10) q.2 ∧ Tr D q.1 := by
  obtain ⟨D, rfl⟩ : ∃ e, D = e + 3 := ⟨D - 3, by omega⟩
  unfold spec_l1Cur_numExpr_j3
  simp only [node_eq, lit_eq, Option.bind_some]
  repeat' (first | (refine Ok.bind (pick_ok _ (by assumption) (by omega)) ?_; rintro ⟨zr, zo⟩ ⟨z1, z2, z3⟩; replace z3 := z3 (by omega); dsimp only at z1 z2 z3) | (refine Ok.bind (one_ok _ (by assumption) (by omega)) ?_; rintro ⟨zr, zo⟩ z1; dsimp only at z1) | (refine Ok.bind (of_ok _ (by decide) (by assumption) (by omega)) ?_; rintro ⟨zr, zo⟩ ⟨z1, z2⟩; dsimp only at z1 z2) | (refine Ok.cond (fun _ => ?_) (fun _ => ?_)))
  all_goals (refine Ok.some ⟨Cur.mono (by assumption) (by omega), ?_⟩; repeat' (first | exact Tr.mono (by assumption) (by omega) | refine Tr.lit ?_ | refine Tr.n0 ?_ | refine Tr.n1 ?_ ?_ | refine Tr.n2 ?_ ?_ ?_ | refine Tr.n3 ?_ ?_ ?_ ?_ | assumption | exact size_e | decide | exact atomOk (by omega) (by omega) (by first | assumption | decide) (by first | assumption | decide) | exact atomOk (wr _).1 (wr _).2 (by first | assumption | decide) (by first | assumption | decide)))
theorem num_j2 {c D : Nat} (hD : 3 ≤ D) {a : Int} {rec : (Int × T_spec_l1Cur) → Option (T_spec_l10E × T_spec_l1Cur)} (ha : 0 ≤ a ∧ a ≤ 100) (hr : NumRec c D a rec) {n : Nat} {o : T_spec_l1Cur} (h : Cur n o) (hn : n + (2 * c + 12) < lim) (v4 : Int) (v5 : Bool)
    (h5 : v5 = true → 0 < a) (h4 : v4 = 2 → 0 < a) : Ok (spec_l1Cur_numExpr_j2 a rec o v4 v5) fun q => Cur (n + (2 * c + 12)) q.2 ∧ Tr (D + 1) q.1 := by
  unfold spec_l1Cur_numExpr_j2
  simp only [node_eq, lit_eq, Option.bind_some, IntWalk.i64_in (a - 1) (by omega)]
  refine Ok.cond (fun hv => ?_) (fun _ => Ok.cond (fun hv => ?_) (fun _ => Ok.cond (fun _ => ?_) (fun _ => ?_)))
  · have := h5 hv
    (first | (refine Ok.bind (pick_ok _ (by assumption) (by omega)) ?_; rintro ⟨zr, zo⟩ ⟨z1, z2, z3⟩; replace z3 := z3 (by omega); dsimp only at z1 z2 z3) | (refine Ok.bind (one_ok _ (by assumption) (by omega)) ?_; rintro ⟨zr, zo⟩ z1; dsimp only at z1) | (refine Ok.bind (of_ok _ (by decide) (by assumption) (by omega)) ?_; rintro ⟨zr, zo⟩ ⟨z1, z2⟩; dsimp only at z1 z2) | (refine Ok.cond (fun _ => ?_) (fun _ => ?_))); (refine Ok.bind (‹NumRec _ _ _ _› (by omega) _ _ (by assumption) (by omega)) ?_; rintro ⟨zr, zo⟩ ⟨z1, z2⟩; dsimp only at z1 z2); (refine Ok.bind (‹NumRec _ _ _ _› (by omega) _ _ (by assumption) (by omega)) ?_; rintro ⟨zr, zo⟩ ⟨z1, z2⟩; dsimp only at z1 z2); (refine Ok.some ⟨Cur.mono (by assumption) (by omega), ?_⟩; repeat' (first | exact Tr.mono (by assumption) (by omega) | refine Tr.lit ?_ | refine Tr.n0 ?_ | refine Tr.n1 ?_ ?_ | refine Tr.n2 ?_ ?_ ?_ | refine Tr.n3 ?_ ?_ ?_ ?_ | assumption | exact size_e | decide | exact atomOk (by omega) (by omega) (by first | assumption | decide) (by first | assumption | decide) | exact atomOk (wr _).1 (wr _).2 (by first | assumption | decide) (by first | assumption | decide)))
  · have := h4 (by simpa using hv)
    (refine Ok.bind (‹NumRec _ _ _ _› (by omega) _ _ (by assumption) (by omega)) ?_; rintro ⟨zr, zo⟩ ⟨z1, z2⟩; dsimp only at z1 z2); (refine Ok.some ⟨Cur.mono (by assumption) (by omega), ?_⟩; repeat' (first | exact Tr.mono (by assumption) (by omega) | refine Tr.lit ?_ | refine Tr.n0 ?_ | refine Tr.n1 ?_ ?_ | refine Tr.n2 ?_ ?_ ?_ | refine Tr.n3 ?_ ?_ ?_ ?_ | assumption | exact size_e | decide | exact atomOk (by omega) (by omega) (by first | assumption | decide) (by first | assumption | decide) | exact atomOk (wr _).1 (wr _).2 (by first | assumption | decide) (by first | assumption | decide)))
  · exact Ok.mono (num_j3 (c := c) hD h (by omega) _) fun q hq => ⟨hq.1.mono (by omega), hq.2.mono (by omega)⟩
  · exact Ok.mono (num_j3 (c := c) hD h (by omega) _) fun q hq => ⟨hq.1.mono (by omega), hq.2.mono (by omega)⟩
theorem num_step {c D : Nat} (hD : 3 ≤ D) {a : Int} {rec : (Int × T_spec_l1Cur) → Option (T_spec_l10E × T_spec_l1Cur)} (ha : 0 ≤ a ∧ a ≤ 100) (hr : NumRec c D a rec) {n : Nat} {s : T_spec_l1Cur} (h : Cur n s) (hn : n + (2 * c + 14) < lim) :
    Ok (spec_l1Cur_numExpr_b rec a s) fun q => Cur (n + (2 * c + 14)) q.2 ∧ Tr (D + 1) q.1 := by
  have j1 : ∀ o v, Cur (n + 2) o → (a = 0 → 3 ≤ v) → Ok (spec_l1Cur_numExpr_j1 a rec o v) fun q => Cur (n + (2 * c + 14)) q.2 ∧ Tr (D + 1) q.1 := fun o v ho hv => by
    unfold spec_l1Cur_numExpr_j1
    refine Ok.cond (fun e => ?_) (fun _ => ?_)
    · have e' : v = 0 := by simpa using e
      exact Ok.mono (num_j2 hD ha hr ho (by omega) v _ (fun _ => by omega) (fun _ => by omega)) fun q hq => ⟨hq.1.mono (by omega), hq.2⟩
    · exact Ok.mono (num_j2 hD ha hr ho (by omega) v _ (fun e => by have : v = 1 := by simpa using e
                                                                    omega) (fun _ => by omega)) fun q hq => ⟨hq.1.mono (by omega), hq.2⟩
  unfold spec_l1Cur_numExpr_b
  (first | (refine Ok.bind (pick_ok _ (by assumption) (by omega)) ?_; rintro ⟨zr, zo⟩ ⟨z1, z2, z3⟩; replace z3 := z3 (by omega); dsimp only at z1 z2 z3) | (refine Ok.bind (one_ok _ (by assumption) (by omega)) ?_; rintro ⟨zr, zo⟩ z1; dsimp only at z1) | (refine Ok.bind (of_ok _ (by decide) (by assumption) (by omega)) ?_; rintro ⟨zr, zo⟩ ⟨z1, z2⟩; dsimp only at z1 z2) | (refine Ok.cond (fun _ => ?_) (fun _ => ?_)))
  refine Ok.cond (fun e => ?_) (fun e => ?_)
  · simp only [Bool.and_eq_true, decide_eq_true_eq] at e
    refine j1 _ _ (by assumption) fun _ => ?_
    rw [IntWalk.i64_in _ (by omega)]; omega
  · refine j1 _ _ (by assumption) fun e0 => ?_
    simp only [Bool.and_eq_false_imp, decide_eq_true_eq, decide_eq_false_iff_not] at e
    have := e (by omega)
    omega
noncomputable abbrev numB := fun (rec_spec_l1Cur_numExpr : (Int × T_spec_l1Cur) → Option (T_spec_l10E × T_spec_l1Cur)) (x : Int × T_spec_l1Cur) => match x with | (a0, s0) => spec_l1Cur_numExpr_b rec_spec_l1Cur_numExpr a0 s0
theorem num_mono : ∀ f g : (Int × T_spec_l1Cur) → Option (T_spec_l10E × T_spec_l1Cur), (∀ x, Lo (f x) (g x)) → ∀ x, Lo (numB f x) (numB g x) := by
  rintro f g h ⟨a, s⟩
  show Lo (spec_l1Cur_numExpr_b f a s) (spec_l1Cur_numExpr_b g a s)
  unfold spec_l1Cur_numExpr_b spec_l1Cur_numExpr_j1 spec_l1Cur_numExpr_j2
  repeat' (first | exact Lo.refl _ | refine Lo.bind ?_ ?_ | refine Lo.cond ?_ ?_ | refine Lo.gd ?_ | refine Lo.loop ?_ _ | exact Lo.recc (by assumption) _ | (intro x; split) | intro _)
theorem num_ok {n : Nat} {s : T_spec_l1Cur} {a : Int} (ha : 0 ≤ a ∧ a ≤ 2) (h : Cur n s) (hn : n + 200 < lim) : Ok (spec_l1Cur_numExpr a s) fun q => Cur (n + 200) q.2 ∧ Tr 6 q.1 := by
  have r0 : NumRec 0 3 0 (iterF numB 0) := fun h => absurd h (by omega)
  have r1 : NumRec 14 4 1 (iterF numB 1) := fun _ n s h hn => num_step (c := 0) (by omega) (by omega) r0 h (by omega)
  have r2 : NumRec 42 5 2 (iterF numB 2) := fun _ n s h hn => num_step (c := 14) (by omega) (by omega) r1 h (by omega)
  unfold spec_l1Cur_numExpr
  have : a = 0 ∨ a = 1 ∨ a = 2 := by omega
  rcases this with rfl | rfl | rfl
  · exact Ok.fix num_mono (n := 1) (Ok.mono (num_step (c := 0) (D := 3) (by omega) (by omega) r0 h (by omega)) fun q hq => ⟨hq.1.mono (by omega), hq.2.mono (by omega)⟩)
  · exact Ok.fix num_mono (n := 2) (Ok.mono (num_step (c := 14) (D := 4) (by omega) (by omega) r1 h (by omega)) fun q hq => ⟨hq.1.mono (by omega), hq.2.mono (by omega)⟩)
  · exact Ok.fix num_mono (n := 3) (Ok.mono (num_step (c := 42) (D := 5) (by omega) (by omega) r2 h (by omega)) fun q hq => ⟨hq.1.mono (by omega), hq.2.mono (by omega)⟩)
end Go.G36.ZL
