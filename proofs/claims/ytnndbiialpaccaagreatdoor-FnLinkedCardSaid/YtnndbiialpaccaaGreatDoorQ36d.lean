/- FnLinked, plain part: drawn conditions. -/
import Derived.Test.YtnndbiialpaccaaGreatDoorQ36c
namespace Go.G36.ZL
set_option maxRecDepth 20000
set_option maxHeartbeats 2000000
set_option linter.unusedVariables false
set_option linter.unusedSimpArgs false
open Go Go.G36

attribute [local irreducible] spec_l1Cur_next spec_l1Cur_pick spec_l1Cur_one spec_l1Cur_of spec_l10Ref spec_l1Cur_thingRef spec_l1Cur_head spec_l10Node spec_l1Cur_path spec_l10Lit spec_l1Cur_wide spec_l1Cur_printed spec_l1Pow2 spec_l1Cur_block spec_l1Cur_atom spec_l1Cur_ofContext spec_l1Cur_numExpr spec_l1Cur_boolExpr Tr spec_l1Cur_kindNum spec_l1Cur_kindBool

abbrev RecT := (Int × T_spec_l1Cur) → Option (T_spec_l10E × T_spec_l1Cur)
theorem mem3 {α : Type} {a b c x : α} {P : α → Prop} (h : x ∈ [a, b, c]) (ha : P a) (hb : P b) (hc : P c) : P x := by
  simp only [List.mem_cons, List.not_mem_nil, or_false] at h
  rcases h with h | h | h <;> subst h <;> assumption

theorem bool_j3 {c D : Nat} (hD : 8 ≤ D) {a : Int} {rec : RecT} (ha : 0 ≤ a ∧ a ≤ 2) (hr : NumRec c D a rec) {n : Nat} {o : T_spec_l1Cur} (h : Cur n o) (hn : n + (3 * c + 450) < lim) (v4 : Int) (v14 : Bool)
    (h1 : v14 = true → 0 < a) (h4 : v4 = 5 ∨ v4 = 6 → 0 < a) : Ok (spec_l1Cur_boolExpr_j3 a rec o v4 v14) fun q => Cur (n + (3 * c + 450)) q.2 ∧ Tr (D + 1) q.1 := by
  obtain ⟨D, rfl⟩ : ∃ e, D = e + 8 := ⟨D - 8, by omega⟩
  unfold spec_l1Cur_boolExpr_j3
  simp only [node_eq, lit_eq, Option.bind_some, IntWalk.i64_in (a - 1) (by omega)]
  refine Ok.cond (fun hv => ?_) (fun _ => Ok.cond (fun hv => ?_) (fun _ => Ok.cond (fun hv => ?_) (fun _ => ?_)))
  · have := h1 hv
    (refine Ok.bind (‹NumRec _ _ _ _› (by omega) _ _ (by assumption) (by omega)) ?_; rintro ⟨zr, zo⟩ ⟨z1, z2⟩; dsimp only at z1 z2); (refine Ok.bind (‹NumRec _ _ _ _› (by omega) _ _ (by assumption) (by omega)) ?_; rintro ⟨zr, zo⟩ ⟨z1, z2⟩; dsimp only at z1 z2); (refine Ok.some ⟨Cur.mono (by assumption) (by omega), ?_⟩; repeat' (first | exact Tr.mono (by assumption) (by omega) | refine Tr.lit ?_ | refine Tr.n0 ?_ | refine Tr.n1 ?_ ?_ | refine Tr.n2 ?_ ?_ ?_ | refine Tr.n3 ?_ ?_ ?_ ?_ | assumption | exact size_e | decide | exact atomOk (by omega) (by omega) (by first | assumption | decide) (by first | assumption | decide) | exact atomOk (wr _).1 (wr _).2 (by first | assumption | decide) (by first | assumption | decide)))
  · have := h4 (.inl (by simpa using hv))
    (refine Ok.bind (‹NumRec _ _ _ _› (by omega) _ _ (by assumption) (by omega)) ?_; rintro ⟨zr, zo⟩ ⟨z1, z2⟩; dsimp only at z1 z2); (refine Ok.some ⟨Cur.mono (by assumption) (by omega), ?_⟩; repeat' (first | exact Tr.mono (by assumption) (by omega) | refine Tr.lit ?_ | refine Tr.n0 ?_ | refine Tr.n1 ?_ ?_ | refine Tr.n2 ?_ ?_ ?_ | refine Tr.n3 ?_ ?_ ?_ ?_ | assumption | exact size_e | decide | exact atomOk (by omega) (by omega) (by first | assumption | decide) (by first | assumption | decide) | exact atomOk (wr _).1 (wr _).2 (by first | assumption | decide) (by first | assumption | decide)))
  · have := h4 (.inr (by simpa using hv))
    (refine Ok.bind (‹NumRec _ _ _ _› (by omega) _ _ (by assumption) (by omega)) ?_; rintro ⟨zr, zo⟩ ⟨z1, z2⟩; dsimp only at z1 z2); (refine Ok.bind (‹NumRec _ _ _ _› (by omega) _ _ (by assumption) (by omega)) ?_; rintro ⟨zr, zo⟩ ⟨z1, z2⟩; dsimp only at z1 z2); (refine Ok.bind (‹NumRec _ _ _ _› (by omega) _ _ (by assumption) (by omega)) ?_; rintro ⟨zr, zo⟩ ⟨z1, z2⟩; dsimp only at z1 z2); (refine Ok.some ⟨Cur.mono (by assumption) (by omega), ?_⟩; repeat' (first | exact Tr.mono (by assumption) (by omega) | refine Tr.lit ?_ | refine Tr.n0 ?_ | refine Tr.n1 ?_ ?_ | refine Tr.n2 ?_ ?_ ?_ | refine Tr.n3 ?_ ?_ ?_ ?_ | assumption | exact size_e | decide | exact atomOk (by omega) (by omega) (by first | assumption | decide) (by first | assumption | decide) | exact atomOk (wr _).1 (wr _).2 (by first | assumption | decide) (by first | assumption | decide)))
  refine Ok.cond (fun _ => ?_) (fun _ => ?_)
  · -- 7: a path, and the kids of it
    refine Ok.bind (path_ok (by assumption) (by omega)) ?_
    rintro ⟨r, o⟩ ⟨h1, h2⟩
    dsimp only at h1 h2
    (refine Ok.bind (num_ok (by assumption) (by assumption) (by omega)) ?_; rintro ⟨zr, zo⟩ ⟨z1, z2⟩; dsimp only at z1 z2)
    refine Ok.some ⟨Cur.mono (by assumption) (by omega), Tr.n2 size_e ?_ ?_⟩
    · exact (Tr.ren (k := 5) h2).mono (by omega)
    · repeat' (first | exact Tr.mono (by assumption) (by omega) | refine Tr.lit ?_ | refine Tr.n0 ?_ | refine Tr.n1 ?_ ?_ | refine Tr.n2 ?_ ?_ ?_ | refine Tr.n3 ?_ ?_ ?_ ?_ | assumption | exact size_e | decide | exact atomOk (by omega) (by omega) (by first | assumption | decide) (by first | assumption | decide) | exact atomOk (wr _).1 (wr _).2 (by first | assumption | decide) (by first | assumption | decide))
  repeat' (first
    | (first | (refine Ok.bind (pick_ok _ (by assumption) (by omega)) ?_; rintro ⟨zr, zo⟩ ⟨z1, z2, z3⟩; replace z3 := z3 (by omega); dsimp only at z1 z2 z3) | (refine Ok.bind (one_ok _ (by assumption) (by omega)) ?_; rintro ⟨zr, zo⟩ z1; dsimp only at z1) | (refine Ok.bind (of_ok _ (by decide) (by assumption) (by omega)) ?_; rintro ⟨zr, zo⟩ ⟨z1, z2⟩; dsimp only at z1 z2) | (refine Ok.cond (fun _ => ?_) (fun _ => ?_)))
    | (first | (refine Ok.bind (path_ok (by assumption) (by omega)) ?_; rintro ⟨zr, zo⟩ ⟨z1, z2⟩; dsimp only at z1 z2) | (refine Ok.bind (ofContext_ok (by assumption) (by omega)) ?_; rintro ⟨zr, zo⟩ ⟨z1, z2⟩; dsimp only at z1 z2) | (refine Ok.bind (thingRef_ok (by assumption) (by omega)) ?_; rintro ⟨zr, zo⟩ ⟨z1, z2⟩; dsimp only at z1 z2) | (refine Ok.bind (block_ok (by assumption) (by omega)) ?_; rintro ⟨zr, zo⟩ ⟨z1, z2⟩; dsimp only at z1 z2) | (refine Ok.bind (atom_ok (by assumption) (by omega)) ?_; rintro ⟨zr, zo⟩ ⟨z1, z2⟩; dsimp only at z1 z2))
    | (refine Ok.bind (num_ok (by assumption) (by assumption) (by omega)) ?_; rintro ⟨zr, zo⟩ ⟨z1, z2⟩; dsimp only at z1 z2)
    | (refine Ok.bind (idx_ok (by assumption) (by assumption)) ?_; intro e he; have hx := mem3 (P := AtomOk) he (atomOk (by omega) (by omega) (by decide) (by decide)) (by assumption) (by assumption)))
  all_goals (refine Ok.some ⟨Cur.mono (by assumption) (by omega), ?_⟩; repeat' (first | exact Tr.mono (by assumption) (by omega) | refine Tr.lit ?_ | refine Tr.n0 ?_ | refine Tr.n1 ?_ ?_ | refine Tr.n2 ?_ ?_ ?_ | refine Tr.n3 ?_ ?_ ?_ ?_ | assumption | exact size_e | decide | exact atomOk (by omega) (by omega) (by first | assumption | decide) (by first | assumption | decide) | exact atomOk (wr _).1 (wr _).2 (by first | assumption | decide) (by first | assumption | decide)))

theorem bool_j2 {c D : Nat} (hD : 8 ≤ D) {a : Int} {rec : RecT} (ha : 0 ≤ a ∧ a ≤ 2) (hr : NumRec c D a rec) {n : Nat} {o : T_spec_l1Cur} (h : Cur n o) (hn : n + (3 * c + 450) < lim) (v4 : Int) (v5 : Bool)
    (h1 : v5 = true → 0 < a) (h4 : a = 0 → 7 ≤ v4) : Ok (spec_l1Cur_boolExpr_j2 a rec o v4 v5) fun q => Cur (n + (3 * c + 450)) q.2 ∧ Tr (D + 1) q.1 := by
  unfold spec_l1Cur_boolExpr_j2
  simp only [node_eq, lit_eq, Option.bind_some, IntWalk.i64_in (a - 1) (by omega)]
  refine Ok.cond (fun hv => ?_) (fun _ => Ok.cond (fun hv => ?_) (fun hv => ?_))
  · have := h1 hv
    (refine Ok.bind (‹NumRec _ _ _ _› (by omega) _ _ (by assumption) (by omega)) ?_; rintro ⟨zr, zo⟩ ⟨z1, z2⟩; dsimp only at z1 z2); (refine Ok.bind (‹NumRec _ _ _ _› (by omega) _ _ (by assumption) (by omega)) ?_; rintro ⟨zr, zo⟩ ⟨z1, z2⟩; dsimp only at z1 z2); (refine Ok.some ⟨Cur.mono (by assumption) (by omega), ?_⟩; repeat' (first | exact Tr.mono (by assumption) (by omega) | refine Tr.lit ?_ | refine Tr.n0 ?_ | refine Tr.n1 ?_ ?_ | refine Tr.n2 ?_ ?_ ?_ | refine Tr.n3 ?_ ?_ ?_ ?_ | assumption | exact size_e | decide | exact atomOk (by omega) (by omega) (by first | assumption | decide) (by first | assumption | decide) | exact atomOk (wr _).1 (wr _).2 (by first | assumption | decide) (by first | assumption | decide)))
  · have hv' : v4 = 3 := by simpa using hv
    exact bool_j3 hD ha hr h hn v4 _ (fun _ => by omega) (fun _ => by omega)
  · exact bool_j3 hD ha hr h hn v4 _ (fun e => by simp only [beq_iff_eq] at e; omega) (fun _ => by omega)
theorem bool_j1 {c D : Nat} (hD : 8 ≤ D) {a : Int} {rec : RecT} (ha : 0 ≤ a ∧ a ≤ 2) (hr : NumRec c D a rec) {n : Nat} {o : T_spec_l1Cur} (h : Cur n o) (hn : n + (3 * c + 450) < lim) (v4 : Int)
    (h4 : a = 0 → 7 ≤ v4) : Ok (spec_l1Cur_boolExpr_j1 a rec o v4) fun q => Cur (n + (3 * c + 450)) q.2 ∧ Tr (D + 1) q.1 := by
  unfold spec_l1Cur_boolExpr_j1
  refine Ok.cond (fun hv => ?_) (fun _ => Ok.cond (fun hv => ?_) (fun hv => ?_))
  · have hv' : v4 = 0 := by simpa using hv
    exact bool_j2 hD ha hr h hn v4 _ (fun _ => by omega) h4
  · have hv' : v4 = 1 := by simpa using hv
    exact bool_j2 hD ha hr h hn v4 _ (fun _ => by omega) h4
  · exact bool_j2 hD ha hr h hn v4 _ (fun e => by simp only [beq_iff_eq] at e; omega) h4
theorem bool_step {c D : Nat} (hD : 8 ≤ D) {a : Int} {rec : RecT} (ha : 0 ≤ a ∧ a ≤ 2) (hr : NumRec c D a rec) {n : Nat} {s : T_spec_l1Cur} (h : Cur n s) (hn : n + (3 * c + 452) < lim) :
    Ok (spec_l1Cur_boolExpr_b rec a s) fun q => Cur (n + (3 * c + 452)) q.2 ∧ Tr (D + 1) q.1 := by
  have j1 : ∀ o v, Cur (n + 2) o → (a = 0 → 7 ≤ v) → Ok (spec_l1Cur_boolExpr_j1 a rec o v) fun q => Cur (n + (3 * c + 452)) q.2 ∧ Tr (D + 1) q.1 := fun o v ho hv =>
    Ok.mono (bool_j1 hD ha hr ho (by omega) v hv) fun q hq => ⟨hq.1.mono (by omega), hq.2⟩
  unfold spec_l1Cur_boolExpr_b
  (first | (refine Ok.bind (pick_ok _ (by assumption) (by omega)) ?_; rintro ⟨zr, zo⟩ ⟨z1, z2, z3⟩; replace z3 := z3 (by omega); dsimp only at z1 z2 z3) | (refine Ok.bind (one_ok _ (by assumption) (by omega)) ?_; rintro ⟨zr, zo⟩ z1; dsimp only at z1) | (refine Ok.bind (of_ok _ (by decide) (by assumption) (by omega)) ?_; rintro ⟨zr, zo⟩ ⟨z1, z2⟩; dsimp only at z1 z2) | (refine Ok.cond (fun _ => ?_) (fun _ => ?_)))
  refine Ok.cond (fun e => ?_) (fun e => ?_)
  · simp only [Bool.and_eq_true, decide_eq_true_eq] at e
    refine j1 _ _ (by assumption) fun _ => ?_
    rw [IntWalk.i64_in _ (by omega)]; omega
  · refine j1 _ _ (by assumption) fun e0 => ?_
    simp only [Bool.and_eq_false_imp, decide_eq_true_eq, decide_eq_false_iff_not, beq_iff_eq] at e
    have := e (by omega)
    omega
noncomputable abbrev boolB := fun (rec_spec_l1Cur_boolExpr : RecT) (x : Int × T_spec_l1Cur) => match x with | (a0, s0) => spec_l1Cur_boolExpr_b rec_spec_l1Cur_boolExpr a0 s0
theorem bool_j3_lo {f g : RecT} (h : ∀ x, Lo (f x) (g x)) (a o v4 v14) : Lo (spec_l1Cur_boolExpr_j3 a f o v4 v14) (spec_l1Cur_boolExpr_j3 a g o v4 v14) := by
  unfold spec_l1Cur_boolExpr_j3
  repeat' (first | exact Lo.refl _ | refine Lo.bind ?_ ?_ | refine Lo.cond ?_ ?_ | refine Lo.gd ?_ | refine Lo.loop ?_ _ | exact Lo.recc (by assumption) _ | (intro x; split) | intro _)
theorem bool_mono : ∀ f g : RecT, (∀ x, Lo (f x) (g x)) → ∀ x, Lo (boolB f x) (boolB g x) := by
  rintro f g h ⟨a, s⟩
  show Lo (spec_l1Cur_boolExpr_b f a s) (spec_l1Cur_boolExpr_b g a s)
  have h2 : ∀ o v4 v5, Lo (spec_l1Cur_boolExpr_j2 a f o v4 v5) (spec_l1Cur_boolExpr_j2 a g o v4 v5) := fun o v4 v5 => by
    unfold spec_l1Cur_boolExpr_j2
    refine Lo.cond ?_ (Lo.cond (bool_j3_lo h _ _ _ _) (bool_j3_lo h _ _ _ _))
    repeat' (first | exact Lo.refl _ | refine Lo.bind ?_ ?_ | refine Lo.cond ?_ ?_ | refine Lo.gd ?_ | refine Lo.loop ?_ _ | exact Lo.recc (by assumption) _ | (intro x; split) | intro _)
  have h1 : ∀ o v4, Lo (spec_l1Cur_boolExpr_j1 a f o v4) (spec_l1Cur_boolExpr_j1 a g o v4) := fun o v4 => by
    unfold spec_l1Cur_boolExpr_j1
    exact Lo.cond (h2 _ _ _) (Lo.cond (h2 _ _ _) (h2 _ _ _))
  unfold spec_l1Cur_boolExpr_b
  refine Lo.bind (Lo.refl _) ?_
  rintro ⟨r, o⟩
  exact Lo.cond (h1 _ _) (h1 _ _)
theorem bool_ok {n : Nat} {s : T_spec_l1Cur} (h : Cur n s) (hn : n + 10000 < lim) : Ok (spec_l1Cur_boolExpr 2 s) fun q => Cur (n + 10000) q.2 ∧ Tr 11 q.1 := by
  have r0 : NumRec 0 8 0 (iterF boolB 0) := fun h => absurd h (by omega)
  have r1 : NumRec 452 9 1 (iterF boolB 1) := fun _ n s h hn => bool_step (c := 0) (by omega) (by omega) r0 h (by omega)
  have r2 : NumRec 1808 10 2 (iterF boolB 2) := fun _ n s h hn => bool_step (c := 452) (by omega) (by omega) r1 h (by omega)
  unfold spec_l1Cur_boolExpr
  exact Ok.fix bool_mono (n := 3) (Ok.mono (bool_step (c := 1808) (D := 10) (by omega) (by omega) r2 h (by omega)) fun q hq => ⟨hq.1.mono (by omega), hq.2.mono (by omega)⟩)

/-! ### Numbers and conditions with kinds -/
theorem kn_j1 {D : Nat} (hD : 4 ≤ D) {n : Nat} {o : T_spec_l1Cur} (h : Cur n o) : Ok (spec_l1Cur_kindNum_j1 o) fun q => Cur n q.2 ∧ Tr D q.1 := by
  obtain ⟨D, rfl⟩ : ∃ e, D = e + 4 := ⟨D - 4, by omega⟩
  unfold spec_l1Cur_kindNum_j1
  simp only [node_eq, lit_eq, Option.bind_some]
  (refine Ok.some ⟨Cur.mono (by assumption) (by omega), ?_⟩; repeat' (first | exact Tr.mono (by assumption) (by omega) | refine Tr.lit ?_ | refine Tr.n0 ?_ | refine Tr.n1 ?_ ?_ | refine Tr.n2 ?_ ?_ ?_ | refine Tr.n3 ?_ ?_ ?_ ?_ | assumption | exact size_e | decide | exact atomOk (by omega) (by omega) (by first | assumption | decide) (by first | assumption | decide) | exact atomOk (wr _).1 (wr _).2 (by first | assumption | decide) (by first | assumption | decide)))
theorem kn_step {c D : Nat} (hD : 3 ≤ D) {a : Int} {rec : RecT} (ha : 0 ≤ a ∧ a ≤ 2) (hr : NumRec c D a rec) {n : Nat} {s : T_spec_l1Cur} (h : Cur n s) (hn : n + (2 * c + 10) < lim) :
    Ok (spec_l1Cur_kindNum_b rec a s) fun q => Cur (n + (2 * c + 10)) q.2 ∧ Tr (D + 1) q.1 := by
  obtain ⟨D, rfl⟩ : ∃ e, D = e + 3 := ⟨D - 3, by omega⟩
  unfold spec_l1Cur_kindNum_b
  simp only [node_eq, lit_eq, Option.bind_some, IntWalk.i64_in (a - 1) (by omega)]
  (first | (refine Ok.bind (pick_ok _ (by assumption) (by omega)) ?_; rintro ⟨zr, zo⟩ ⟨z1, z2, z3⟩; replace z3 := z3 (by omega); dsimp only at z1 z2 z3) | (refine Ok.bind (one_ok _ (by assumption) (by omega)) ?_; rintro ⟨zr, zo⟩ z1; dsimp only at z1) | (refine Ok.bind (of_ok _ (by decide) (by assumption) (by omega)) ?_; rintro ⟨zr, zo⟩ ⟨z1, z2⟩; dsimp only at z1 z2) | (refine Ok.cond (fun _ => ?_) (fun _ => ?_)))
  refine Ok.cond (fun _ => Ok.cond (fun hv => ?_) (fun _ => ?_)) (fun _ => Ok.cond (fun _ => ?_) (fun _ => Ok.cond (fun _ => ?_) (fun _ => ?_)))
  · have := of_decide_eq_true hv
    (first | (refine Ok.bind (pick_ok _ (by assumption) (by omega)) ?_; rintro ⟨zr, zo⟩ ⟨z1, z2, z3⟩; replace z3 := z3 (by omega); dsimp only at z1 z2 z3) | (refine Ok.bind (one_ok _ (by assumption) (by omega)) ?_; rintro ⟨zr, zo⟩ z1; dsimp only at z1) | (refine Ok.bind (of_ok _ (by decide) (by assumption) (by omega)) ?_; rintro ⟨zr, zo⟩ ⟨z1, z2⟩; dsimp only at z1 z2) | (refine Ok.cond (fun _ => ?_) (fun _ => ?_))); (refine Ok.bind (‹NumRec _ _ _ _› (by omega) _ _ (by assumption) (by omega)) ?_; rintro ⟨zr, zo⟩ ⟨z1, z2⟩; dsimp only at z1 z2); (refine Ok.bind (‹NumRec _ _ _ _› (by omega) _ _ (by assumption) (by omega)) ?_; rintro ⟨zr, zo⟩ ⟨z1, z2⟩; dsimp only at z1 z2); (refine Ok.some ⟨Cur.mono (by assumption) (by omega), ?_⟩; repeat' (first | exact Tr.mono (by assumption) (by omega) | refine Tr.lit ?_ | refine Tr.n0 ?_ | refine Tr.n1 ?_ ?_ | refine Tr.n2 ?_ ?_ ?_ | refine Tr.n3 ?_ ?_ ?_ ?_ | assumption | exact size_e | decide | exact atomOk (by omega) (by omega) (by first | assumption | decide) (by first | assumption | decide) | exact atomOk (wr _).1 (wr _).2 (by first | assumption | decide) (by first | assumption | decide)))
  · exact Ok.mono (kn_j1 (D := D + 4) (by omega) (by assumption)) fun q hq => ⟨hq.1.mono (by omega), hq.2⟩
  · (refine Ok.some ⟨Cur.mono (by assumption) (by omega), ?_⟩; repeat' (first | exact Tr.mono (by assumption) (by omega) | refine Tr.lit ?_ | refine Tr.n0 ?_ | refine Tr.n1 ?_ ?_ | refine Tr.n2 ?_ ?_ ?_ | refine Tr.n3 ?_ ?_ ?_ ?_ | assumption | exact size_e | decide | exact atomOk (by omega) (by omega) (by first | assumption | decide) (by first | assumption | decide) | exact atomOk (wr _).1 (wr _).2 (by first | assumption | decide) (by first | assumption | decide)))
  · (first | (refine Ok.bind (pick_ok _ (by assumption) (by omega)) ?_; rintro ⟨zr, zo⟩ ⟨z1, z2, z3⟩; replace z3 := z3 (by omega); dsimp only at z1 z2 z3) | (refine Ok.bind (one_ok _ (by assumption) (by omega)) ?_; rintro ⟨zr, zo⟩ z1; dsimp only at z1) | (refine Ok.bind (of_ok _ (by decide) (by assumption) (by omega)) ?_; rintro ⟨zr, zo⟩ ⟨z1, z2⟩; dsimp only at z1 z2) | (refine Ok.cond (fun _ => ?_) (fun _ => ?_))); (refine Ok.some ⟨Cur.mono (by assumption) (by omega), ?_⟩; repeat' (first | exact Tr.mono (by assumption) (by omega) | refine Tr.lit ?_ | refine Tr.n0 ?_ | refine Tr.n1 ?_ ?_ | refine Tr.n2 ?_ ?_ ?_ | refine Tr.n3 ?_ ?_ ?_ ?_ | assumption | exact size_e | decide | exact atomOk (by omega) (by omega) (by first | assumption | decide) (by first | assumption | decide) | exact atomOk (wr _).1 (wr _).2 (by first | assumption | decide) (by first | assumption | decide)))
  · exact Ok.mono (kn_j1 (D := D + 4) (by omega) (by assumption)) fun q hq => ⟨hq.1.mono (by omega), hq.2⟩
noncomputable abbrev knB := fun (rec_spec_l1Cur_kindNum : RecT) (x : Int × T_spec_l1Cur) => match x with | (a0, s0) => spec_l1Cur_kindNum_b rec_spec_l1Cur_kindNum a0 s0
theorem kn_mono : ∀ f g : RecT, (∀ x, Lo (f x) (g x)) → ∀ x, Lo (knB f x) (knB g x) := by
  rintro f g h ⟨a, s⟩
  show Lo (spec_l1Cur_kindNum_b f a s) (spec_l1Cur_kindNum_b g a s)
  unfold spec_l1Cur_kindNum_b
  repeat' (first | exact Lo.refl _ | refine Lo.bind ?_ ?_ | refine Lo.cond ?_ ?_ | refine Lo.gd ?_ | refine Lo.loop ?_ _ | exact Lo.recc (by assumption) _ | (intro x; split) | intro _)
theorem kn_ok {n : Nat} {s : T_spec_l1Cur} {a : Int} (ha : 0 ≤ a ∧ a ≤ 2) (h : Cur n s) (hn : n + 100 < lim) : Ok (spec_l1Cur_kindNum a s) fun q => Cur (n + 100) q.2 ∧ Tr 6 q.1 := by
  have r0 : NumRec 0 3 0 (iterF knB 0) := fun h => absurd h (by omega)
  have r1 : NumRec 10 4 1 (iterF knB 1) := fun _ n s h hn => kn_step (c := 0) (by omega) (by omega) r0 h (by omega)
  have r2 : NumRec 30 5 2 (iterF knB 2) := fun _ n s h hn => kn_step (c := 10) (by omega) (by omega) r1 h (by omega)
  unfold spec_l1Cur_kindNum
  have : a = 0 ∨ a = 1 ∨ a = 2 := by omega
  rcases this with rfl | rfl | rfl
  · exact Ok.fix kn_mono (n := 1) (Ok.mono (kn_step (c := 0) (D := 3) (by omega) (by omega) r0 h (by omega)) fun q hq => ⟨hq.1.mono (by omega), hq.2.mono (by omega)⟩)
  · exact Ok.fix kn_mono (n := 2) (Ok.mono (kn_step (c := 10) (D := 4) (by omega) (by omega) r1 h (by omega)) fun q hq => ⟨hq.1.mono (by omega), hq.2.mono (by omega)⟩)
  · exact Ok.fix kn_mono (n := 3) (Ok.mono (kn_step (c := 30) (D := 5) (by omega) (by omega) r2 h (by omega)) fun q hq => ⟨hq.1.mono (by omega), hq.2.mono (by omega)⟩)
theorem kb_j2 {c D : Nat} (hD : 8 ≤ D) {a : Int} {rec : RecT} (ha : 0 ≤ a ∧ a ≤ 2) (hr : NumRec c D a rec) {n : Nat} {o : T_spec_l1Cur} (h : Cur n o) (hn : n + (3 * c + 300) < lim) (v4 : Int) (r5 r7 : T_spec_l10E) (h5 : Tr 1 r5) (h7 : Tr 1 r7) (v9 : Bool)
    (h1 : v9 = true → 0 < a) (h4 : v4 = 2 ∨ v4 = 3 → 0 < a) : Ok (spec_l1Cur_kindBool_j2 a rec o v4 r5 r7 v9) fun q => Cur (n + (3 * c + 300)) q.2 ∧ Tr (D + 1) q.1 := by
  obtain ⟨D, rfl⟩ : ∃ e, D = e + 8 := ⟨D - 8, by omega⟩
  unfold spec_l1Cur_kindBool_j2
  simp only [node_eq, lit_eq, Option.bind_some, IntWalk.i64_in (a - 1) (by omega)]
  refine Ok.cond (fun hv => ?_) (fun _ => Ok.cond (fun hv => ?_) (fun _ => Ok.cond (fun hv => ?_) (fun _ => ?_)))
  · have := h1 hv
    (first | (refine Ok.bind (pick_ok _ (by assumption) (by omega)) ?_; rintro ⟨zr, zo⟩ ⟨z1, z2, z3⟩; replace z3 := z3 (by omega); dsimp only at z1 z2 z3) | (refine Ok.bind (one_ok _ (by assumption) (by omega)) ?_; rintro ⟨zr, zo⟩ z1; dsimp only at z1) | (refine Ok.bind (of_ok _ (by decide) (by assumption) (by omega)) ?_; rintro ⟨zr, zo⟩ ⟨z1, z2⟩; dsimp only at z1 z2) | (refine Ok.cond (fun _ => ?_) (fun _ => ?_))); (refine Ok.bind (‹NumRec _ _ _ _› (by omega) _ _ (by assumption) (by omega)) ?_; rintro ⟨zr, zo⟩ ⟨z1, z2⟩; dsimp only at z1 z2); (refine Ok.bind (‹NumRec _ _ _ _› (by omega) _ _ (by assumption) (by omega)) ?_; rintro ⟨zr, zo⟩ ⟨z1, z2⟩; dsimp only at z1 z2); (refine Ok.some ⟨Cur.mono (by assumption) (by omega), ?_⟩; repeat' (first | exact Tr.mono (by assumption) (by omega) | refine Tr.lit ?_ | refine Tr.n0 ?_ | refine Tr.n1 ?_ ?_ | refine Tr.n2 ?_ ?_ ?_ | refine Tr.n3 ?_ ?_ ?_ ?_ | assumption | exact size_e | decide | exact atomOk (by omega) (by omega) (by first | assumption | decide) (by first | assumption | decide) | exact atomOk (wr _).1 (wr _).2 (by first | assumption | decide) (by first | assumption | decide)))
  · have := h4 (.inl (by simpa using hv))
    (refine Ok.bind (‹NumRec _ _ _ _› (by omega) _ _ (by assumption) (by omega)) ?_; rintro ⟨zr, zo⟩ ⟨z1, z2⟩; dsimp only at z1 z2); (refine Ok.bind (‹NumRec _ _ _ _› (by omega) _ _ (by assumption) (by omega)) ?_; rintro ⟨zr, zo⟩ ⟨z1, z2⟩; dsimp only at z1 z2); (refine Ok.bind (‹NumRec _ _ _ _› (by omega) _ _ (by assumption) (by omega)) ?_; rintro ⟨zr, zo⟩ ⟨z1, z2⟩; dsimp only at z1 z2); (refine Ok.some ⟨Cur.mono (by assumption) (by omega), ?_⟩; repeat' (first | exact Tr.mono (by assumption) (by omega) | refine Tr.lit ?_ | refine Tr.n0 ?_ | refine Tr.n1 ?_ ?_ | refine Tr.n2 ?_ ?_ ?_ | refine Tr.n3 ?_ ?_ ?_ ?_ | assumption | exact size_e | decide | exact atomOk (by omega) (by omega) (by first | assumption | decide) (by first | assumption | decide) | exact atomOk (wr _).1 (wr _).2 (by first | assumption | decide) (by first | assumption | decide)))
  · have := h4 (.inr (by simpa using hv))
    (refine Ok.bind (‹NumRec _ _ _ _› (by omega) _ _ (by assumption) (by omega)) ?_; rintro ⟨zr, zo⟩ ⟨z1, z2⟩; dsimp only at z1 z2); (refine Ok.some ⟨Cur.mono (by assumption) (by omega), ?_⟩; repeat' (first | exact Tr.mono (by assumption) (by omega) | refine Tr.lit ?_ | refine Tr.n0 ?_ | refine Tr.n1 ?_ ?_ | refine Tr.n2 ?_ ?_ ?_ | refine Tr.n3 ?_ ?_ ?_ ?_ | assumption | exact size_e | decide | exact atomOk (by omega) (by omega) (by first | assumption | decide) (by first | assumption | decide) | exact atomOk (wr _).1 (wr _).2 (by first | assumption | decide) (by first | assumption | decide)))
  repeat' (first
    | (first | (refine Ok.bind (pick_ok _ (by assumption) (by omega)) ?_; rintro ⟨zr, zo⟩ ⟨z1, z2, z3⟩; replace z3 := z3 (by omega); dsimp only at z1 z2 z3) | (refine Ok.bind (one_ok _ (by assumption) (by omega)) ?_; rintro ⟨zr, zo⟩ z1; dsimp only at z1) | (refine Ok.bind (of_ok _ (by decide) (by assumption) (by omega)) ?_; rintro ⟨zr, zo⟩ ⟨z1, z2⟩; dsimp only at z1 z2) | (refine Ok.cond (fun _ => ?_) (fun _ => ?_)))
    | (first | (refine Ok.bind (path_ok (by assumption) (by omega)) ?_; rintro ⟨zr, zo⟩ ⟨z1, z2⟩; dsimp only at z1 z2) | (refine Ok.bind (ofContext_ok (by assumption) (by omega)) ?_; rintro ⟨zr, zo⟩ ⟨z1, z2⟩; dsimp only at z1 z2) | (refine Ok.bind (thingRef_ok (by assumption) (by omega)) ?_; rintro ⟨zr, zo⟩ ⟨z1, z2⟩; dsimp only at z1 z2) | (refine Ok.bind (block_ok (by assumption) (by omega)) ?_; rintro ⟨zr, zo⟩ ⟨z1, z2⟩; dsimp only at z1 z2) | (refine Ok.bind (atom_ok (by assumption) (by omega)) ?_; rintro ⟨zr, zo⟩ ⟨z1, z2⟩; dsimp only at z1 z2))
    | (refine Ok.bind (kn_ok (by omega) (by assumption) (by omega)) ?_; rintro ⟨zr, zo⟩ ⟨z1, z2⟩; dsimp only at z1 z2))
  all_goals (refine Ok.some ⟨Cur.mono (by assumption) (by omega), ?_⟩; repeat' (first | exact Tr.mono (by assumption) (by omega) | refine Tr.lit ?_ | refine Tr.n0 ?_ | refine Tr.n1 ?_ ?_ | refine Tr.n2 ?_ ?_ ?_ | refine Tr.n3 ?_ ?_ ?_ ?_ | assumption | exact size_e | decide | exact atomOk (by omega) (by omega) (by first | assumption | decide) (by first | assumption | decide) | exact atomOk (wr _).1 (wr _).2 (by first | assumption | decide) (by first | assumption | decide)))
theorem kb_j1 {c D : Nat} (hD : 8 ≤ D) {a : Int} {rec : RecT} (ha : 0 ≤ a ∧ a ≤ 2) (hr : NumRec c D a rec) {n : Nat} {o : T_spec_l1Cur} (h : Cur n o) (hn : n + (3 * c + 300) < lim) (v4 : Int)
    (h4 : a = 0 → 4 ≤ v4) : Ok (spec_l1Cur_kindBool_j1 a rec o v4) fun q => Cur (n + (3 * c + 300)) q.2 ∧ Tr (D + 1) q.1 := by
  unfold spec_l1Cur_kindBool_j1
  simp only [node_eq, lit_eq, Option.bind_some]
  refine Ok.cond (fun hv => ?_) (fun hv => ?_)
  · have hv' : v4 = 0 := by simpa using hv
    exact kb_j2 hD ha hr h hn v4 _ _ (Tr.n0 (by decide)) (Tr.n0 (by decide)) _ (fun _ => by omega) (fun _ => by omega)
  · exact kb_j2 hD ha hr h hn v4 _ _ (Tr.n0 (by decide)) (Tr.n0 (by decide)) _ (fun e => by simp only [beq_iff_eq] at e; omega) (fun _ => by omega)
theorem kb_step {c D : Nat} (hD : 8 ≤ D) {a : Int} {rec : RecT} (ha : 0 ≤ a ∧ a ≤ 2) (hr : NumRec c D a rec) {n : Nat} {s : T_spec_l1Cur} (h : Cur n s) (hn : n + (3 * c + 302) < lim) :
    Ok (spec_l1Cur_kindBool_b rec a s) fun q => Cur (n + (3 * c + 302)) q.2 ∧ Tr (D + 1) q.1 := by
  have j1 : ∀ o v, Cur (n + 2) o → (a = 0 → 4 ≤ v) → Ok (spec_l1Cur_kindBool_j1 a rec o v) fun q => Cur (n + (3 * c + 302)) q.2 ∧ Tr (D + 1) q.1 := fun o v ho hv =>
    Ok.mono (kb_j1 hD ha hr ho (by omega) v hv) fun q hq => ⟨hq.1.mono (by omega), hq.2⟩
  unfold spec_l1Cur_kindBool_b
  (first | (refine Ok.bind (pick_ok _ (by assumption) (by omega)) ?_; rintro ⟨zr, zo⟩ ⟨z1, z2, z3⟩; replace z3 := z3 (by omega); dsimp only at z1 z2 z3) | (refine Ok.bind (one_ok _ (by assumption) (by omega)) ?_; rintro ⟨zr, zo⟩ z1; dsimp only at z1) | (refine Ok.bind (of_ok _ (by decide) (by assumption) (by omega)) ?_; rintro ⟨zr, zo⟩ ⟨z1, z2⟩; dsimp only at z1 z2) | (refine Ok.cond (fun _ => ?_) (fun _ => ?_)))
  refine Ok.cond (fun e => ?_) (fun e => ?_)
  · simp only [Bool.and_eq_true, decide_eq_true_eq] at e
    refine j1 _ _ (by assumption) fun _ => ?_
    rw [IntWalk.i64_in _ (by omega)]; omega
  · refine j1 _ _ (by assumption) fun e0 => ?_
    simp only [Bool.and_eq_false_imp, decide_eq_true_eq, decide_eq_false_iff_not, beq_iff_eq] at e
    have := e (by omega)
    omega
noncomputable abbrev kbB := fun (rec_spec_l1Cur_kindBool : RecT) (x : Int × T_spec_l1Cur) => match x with | (a0, s0) => spec_l1Cur_kindBool_b rec_spec_l1Cur_kindBool a0 s0
theorem kb_j2_lo {f g : RecT} (h : ∀ x, Lo (f x) (g x)) (a o v4 r5 r7 v9) : Lo (spec_l1Cur_kindBool_j2 a f o v4 r5 r7 v9) (spec_l1Cur_kindBool_j2 a g o v4 r5 r7 v9) := by
  unfold spec_l1Cur_kindBool_j2
  repeat' (first | exact Lo.refl _ | refine Lo.bind ?_ ?_ | refine Lo.cond ?_ ?_ | refine Lo.gd ?_ | refine Lo.loop ?_ _ | exact Lo.recc (by assumption) _ | (intro x; split) | intro _)
theorem kb_mono : ∀ f g : RecT, (∀ x, Lo (f x) (g x)) → ∀ x, Lo (kbB f x) (kbB g x) := by
  rintro f g h ⟨a, s⟩
  show Lo (spec_l1Cur_kindBool_b f a s) (spec_l1Cur_kindBool_b g a s)
  have h1 : ∀ o v4, Lo (spec_l1Cur_kindBool_j1 a f o v4) (spec_l1Cur_kindBool_j1 a g o v4) := fun o v4 => by
    unfold spec_l1Cur_kindBool_j1
    simp only [node_eq, Option.bind_some]
    exact Lo.cond (kb_j2_lo h _ _ _ _ _ _) (kb_j2_lo h _ _ _ _ _ _)
  unfold spec_l1Cur_kindBool_b
  refine Lo.bind (Lo.refl _) ?_
  rintro ⟨r, o⟩
  exact Lo.cond (h1 _ _) (h1 _ _)
theorem kb_ok {n : Nat} {s : T_spec_l1Cur} (h : Cur n s) (hn : n + 10000 < lim) : Ok (spec_l1Cur_kindBool 2 s) fun q => Cur (n + 10000) q.2 ∧ Tr 11 q.1 := by
  have r0 : NumRec 0 8 0 (iterF kbB 0) := fun h => absurd h (by omega)
  have r1 : NumRec 302 9 1 (iterF kbB 1) := fun _ n s h hn => kb_step (c := 0) (by omega) (by omega) r0 h (by omega)
  have r2 : NumRec 1208 10 2 (iterF kbB 2) := fun _ n s h hn => kb_step (c := 302) (by omega) (by omega) r1 h (by omega)
  unfold spec_l1Cur_kindBool
  exact Ok.fix kb_mono (n := 3) (Ok.mono (kb_step (c := 1208) (D := 10) (by omega) (by omega) r2 h (by omega)) fun q hq => ⟨hq.1.mono (by omega), hq.2.mono (by omega)⟩)
end Go.G36.ZL
