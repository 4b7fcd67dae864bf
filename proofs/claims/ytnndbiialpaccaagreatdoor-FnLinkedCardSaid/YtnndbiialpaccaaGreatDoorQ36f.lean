/- FnLinked, plain part: the draw whole. -/
import Derived.Test.YtnndbiialpaccaaGreatDoorQ36e
namespace Go.G36.ZL
set_option maxRecDepth 20000
set_option maxHeartbeats 2000000
set_option linter.unusedVariables false
set_option linter.unusedSimpArgs false
open Go Go.G36
attribute [local irreducible] spec_l1Cur_next spec_l1Cur_pick spec_l1Cur_one spec_l1Cur_of spec_l10Ref spec_l1Cur_thingRef spec_l1Cur_head spec_l10Node spec_l1Cur_path spec_l10Lit spec_l1Cur_wide spec_l1Cur_printed spec_l1Pow2 spec_l1Cur_block spec_l1Cur_atom spec_l1Cur_ofContext spec_l1Cur_numExpr spec_l1Cur_boolExpr Tr spec_l1Cur_kindNum spec_l1Cur_kindBool spec_l10Putx spec_l1Cur_policyo spec_l1Cur_oddAtom

theorem set_all {α : Type} {P : α → Prop} {l : List α} {i : Nat} {a : α} (h : ∀ x, x ∈ l → P x) (ha : P a) : ∀ x, x ∈ l.set i a → P x := fun x hx => by
  rcases List.mem_or_eq_of_mem_set hx with h1 | h1
  · exact h x h1
  · exact h1 ▸ ha
def Exs (l : List T_impl_Expr) : Prop := ∀ e, e ∈ l → ExprOk e
theorem oddExprx_ok {n : Nat} {s : T_spec_l1Cur} {l : List T_impl_Expr} (hl : Exs l) (hlen : l.length ≤ 100000) (h : Cur n s) (hn : n + 30 < lim) : Ok (spec_l1Cur_oddExprx s l) fun q => Cur (n + 30) q.2 ∧ Exs q.1 ∧ q.1.length ≤ 200000 := by
  unfold spec_l1Cur_oddExprx
  refine Ok.cond (fun _ => Ok.some ⟨h.mono (by omega), hl, by dsimp only; omega⟩) (fun h0 => ?_)
  have hpos : 1 ≤ (l.length : Int) := by
    simp only [beq_eq_false_iff_ne, ne_eq] at h0
    omega
  (first | (refine Ok.bind (pick_ok _ (by assumption) (by omega)) ?_; rintro ⟨zr, zo⟩ ⟨z1, z2, z3⟩; replace z3 := z3 (by omega); dsimp only at z1 z2 z3) | (refine Ok.bind (one_ok _ (by assumption) (by omega)) ?_; rintro ⟨zr, zo⟩ z1; dsimp only at z1) | (refine Ok.bind (of_ok _ (by decide) (by assumption) (by omega)) ?_; rintro ⟨zr, zo⟩ ⟨z1, z2⟩; dsimp only at z1 z2) | (refine Ok.cond (fun _ => ?_) (fun _ => ?_)))
  (first | (refine Ok.bind (pick_ok _ (by assumption) (by omega)) ?_; rintro ⟨zr, zo⟩ ⟨z1, z2, z3⟩; replace z3 := z3 (by omega); dsimp only at z1 z2 z3) | (refine Ok.bind (one_ok _ (by assumption) (by omega)) ?_; rintro ⟨zr, zo⟩ z1; dsimp only at z1) | (refine Ok.bind (of_ok _ (by decide) (by assumption) (by omega)) ?_; rintro ⟨zr, zo⟩ ⟨z1, z2⟩; dsimp only at z1 z2) | (refine Ok.cond (fun _ => ?_) (fun _ => ?_)))
  refine Ok.cond (fun _ => ?_) (fun _ => Ok.cond (fun _ => ?_) (fun _ => Ok.cond (fun _ => ?_) (fun _ => Ok.cond (fun _ => ?_) (fun _ => Ok.cond (fun _ => ?_) (fun _ => ?_)))))
  · (first | (refine Ok.bind (pick_ok _ (by assumption) (by omega)) ?_; rintro ⟨zr, zo⟩ ⟨z1, z2, z3⟩; replace z3 := z3 (by omega); dsimp only at z1 z2 z3) | (refine Ok.bind (one_ok _ (by assumption) (by omega)) ?_; rintro ⟨zr, zo⟩ z1; dsimp only at z1) | (refine Ok.bind (of_ok _ (by decide) (by assumption) (by omega)) ?_; rintro ⟨zr, zo⟩ ⟨z1, z2⟩; dsimp only at z1 z2) | (refine Ok.cond (fun _ => ?_) (fun _ => ?_)))
    refine Ok.bind (idx_ok (by assumption) (by assumption)) ?_
    intro e he
    have g := hl e he
    exact Ok.some ⟨Cur.mono (by assumption) (by omega), set_all hl ⟨g.atom, g.text, g.lo, g.hi⟩, by simp; omega⟩
  · refine Ok.bind (idx_ok (by assumption) (by assumption)) ?_
    intro e he
    (first | (refine Ok.bind (pick_ok _ (by assumption) (by omega)) ?_; rintro ⟨zr, zo⟩ ⟨z1, z2, z3⟩; replace z3 := z3 (by omega); dsimp only at z1 z2 z3) | (refine Ok.bind (one_ok _ (by assumption) (by omega)) ?_; rintro ⟨zr, zo⟩ z1; dsimp only at z1) | (refine Ok.bind (of_ok _ (by decide) (by assumption) (by omega)) ?_; rintro ⟨zr, zo⟩ ⟨z1, z2⟩; dsimp only at z1 z2) | (refine Ok.cond (fun _ => ?_) (fun _ => ?_)))
    refine Ok.bind (idx_ok (by assumption) (by assumption)) ?_
    intro e2 he2
    have g := hl e2 he2
    exact Ok.some ⟨Cur.mono (by assumption) (by omega), set_all hl ⟨g.atom, g.text, (wr _).1, (wr _).2⟩, by simp; omega⟩
  · (first | (refine Ok.bind (pick_ok _ (by assumption) (by omega)) ?_; rintro ⟨zr, zo⟩ ⟨z1, z2, z3⟩; replace z3 := z3 (by omega); dsimp only at z1 z2 z3) | (refine Ok.bind (one_ok _ (by assumption) (by omega)) ?_; rintro ⟨zr, zo⟩ z1; dsimp only at z1) | (refine Ok.bind (of_ok _ (by decide) (by assumption) (by omega)) ?_; rintro ⟨zr, zo⟩ ⟨z1, z2⟩; dsimp only at z1 z2) | (refine Ok.cond (fun _ => ?_) (fun _ => ?_)))
    refine Ok.bind (idx_ok (by assumption) (by assumption)) ?_
    intro e he
    have g := hl e he
    exact Ok.some ⟨Cur.mono (by assumption) (by omega), set_all hl ⟨g.atom, by assumption, g.lo, g.hi⟩, by simp; omega⟩
  · refine Ok.bind (atom_ok (by assumption) (by omega)) ?_
    rintro ⟨r, o⟩ ⟨h1, h2⟩
    refine Ok.bind (oddAtom_ok h2 h1 (by omega)) ?_
    rintro ⟨r2, o2⟩ ⟨h3, h4⟩
    refine Ok.bind (idx_ok (by assumption) (by assumption)) ?_
    intro e he
    have g := hl e he
    exact Ok.some ⟨Cur.mono h3 (by omega), set_all hl ⟨h4, g.text, g.lo, g.hi⟩, by simp; omega⟩
  · (first | (refine Ok.bind (pick_ok _ (by assumption) (by omega)) ?_; rintro ⟨zr, zo⟩ ⟨z1, z2, z3⟩; replace z3 := z3 (by omega); dsimp only at z1 z2 z3) | (refine Ok.bind (one_ok _ (by assumption) (by omega)) ?_; rintro ⟨zr, zo⟩ z1; dsimp only at z1) | (refine Ok.bind (of_ok _ (by decide) (by assumption) (by omega)) ?_; rintro ⟨zr, zo⟩ ⟨z1, z2⟩; dsimp only at z1 z2) | (refine Ok.cond (fun _ => ?_) (fun _ => ?_)))
    revert zr zo z1 z2 z3; intro r o h1 h2 h3
    refine Ok.bind (Ok.loop (P := fun q => Exs q ∧ q.length ≤ 200000) (fun k q => k ≤ 12 ∧ q.2 = (k : Int) ∧ Exs q.1 ∧ q.1.length + k ≤ 100012) ?_ (n := (9 + r).toNat) ⟨by omega, ?_, hl, by simp; omega⟩) ?_
    · rintro k ⟨q, v⟩ ⟨hk, hv, hq, hql⟩
      dsimp only at hv hq hql
      unfold spec_l1Cur_oddExprx_l1
      refine Ok.cond (fun hd => ?_) (fun _ => Ok.some ⟨hq, by omega⟩)
      have hlt := of_decide_eq_true hd
      rw [app_some (by simp; omega), Option.bind_some]
      refine Ok.some ⟨k - 1, by omega, by omega, ?_, ?_, ?_⟩
      · show IntKind.i64.wrap (v - 1) = _
        rw [IntWalk.i64_in _ (by omega)]; omega
      · intro e he
        rcases List.mem_append.1 he with he | he
        · simp only [List.mem_cons, List.not_mem_nil, or_false] at he
          subst he
          exact ⟨zAtom, size_e, by simp, by simp⟩
        · exact hq e he
      · simp; omega
    · show IntKind.i64.wrap (9 + r) = _
      rw [IntWalk.i64_in _ (by omega)]; omega
    · rintro q ⟨g1, g2⟩
      exact Ok.some ⟨Cur.mono h1 (by omega), g1, g2⟩
  · exact Ok.some ⟨Cur.mono (by assumption) (by omega), hl, by dsimp only; omega⟩

structure PolOk (p : T_impl_Policy) : Prop where
  pol : PolicyOk p
  when : p.When_.length ≤ 200000
theorem oddPolicyx_ok {n : Nat} {s : T_spec_l1Cur} {p : T_impl_Policy} (hp : PolicyOk p) (hl : p.When_.length ≤ 100000) (h : Cur n s) (hn : n + 40 < lim) : Ok (spec_l1Cur_oddPolicyx p s) fun q => Cur (n + 40) q.2 ∧ PolicyOk q.1 := by
  unfold spec_l1Cur_oddPolicyx
  (first | (refine Ok.bind (pick_ok _ (by assumption) (by omega)) ?_; rintro ⟨zr, zo⟩ ⟨z1, z2, z3⟩; replace z3 := z3 (by omega); dsimp only at z1 z2 z3) | (refine Ok.bind (one_ok _ (by assumption) (by omega)) ?_; rintro ⟨zr, zo⟩ z1; dsimp only at z1) | (refine Ok.bind (of_ok _ (by decide) (by assumption) (by omega)) ?_; rintro ⟨zr, zo⟩ ⟨z1, z2⟩; dsimp only at z1 z2) | (refine Ok.cond (fun _ => ?_) (fun _ => ?_)))
  refine Ok.cond (fun _ => ?_) (fun _ => Ok.cond (fun _ => ?_) (fun _ => Ok.cond (fun _ => ?_) (fun _ => Ok.cond (fun _ => ?_) (fun _ => Ok.cond (fun _ => ?_) (fun _ => ?_)))))
  · (first | (refine Ok.bind (pick_ok _ (by assumption) (by omega)) ?_; rintro ⟨zr, zo⟩ ⟨z1, z2, z3⟩; replace z3 := z3 (by omega); dsimp only at z1 z2 z3) | (refine Ok.bind (one_ok _ (by assumption) (by omega)) ?_; rintro ⟨zr, zo⟩ z1; dsimp only at z1) | (refine Ok.bind (of_ok _ (by decide) (by assumption) (by omega)) ?_; rintro ⟨zr, zo⟩ ⟨z1, z2⟩; dsimp only at z1 z2) | (refine Ok.cond (fun _ => ?_) (fun _ => ?_)))
    exact Ok.some ⟨Cur.mono (by assumption) (by omega), by assumption, hp.pr, hp.ac, hp.re, hp.wh, hp.len⟩
  · (first | (refine Ok.bind (pick_ok _ (by assumption) (by omega)) ?_; rintro ⟨zr, zo⟩ ⟨z1, z2, z3⟩; replace z3 := z3 (by omega); dsimp only at z1 z2 z3) | (refine Ok.bind (one_ok _ (by assumption) (by omega)) ?_; rintro ⟨zr, zo⟩ z1; dsimp only at z1) | (refine Ok.bind (of_ok _ (by decide) (by assumption) (by omega)) ?_; rintro ⟨zr, zo⟩ ⟨z1, z2⟩; dsimp only at z1 z2) | (refine Ok.cond (fun _ => ?_) (fun _ => ?_)))
    exact Ok.some ⟨Cur.mono (by assumption) (by omega), hp.id, headOk hp.pr.atom hp.pr.type, hp.ac, hp.re, hp.wh, hp.len⟩
  · (first | (refine Ok.bind (pick_ok _ (by assumption) (by omega)) ?_; rintro ⟨zr, zo⟩ ⟨z1, z2, z3⟩; replace z3 := z3 (by omega); dsimp only at z1 z2 z3) | (refine Ok.bind (one_ok _ (by assumption) (by omega)) ?_; rintro ⟨zr, zo⟩ z1; dsimp only at z1) | (refine Ok.bind (of_ok _ (by decide) (by assumption) (by omega)) ?_; rintro ⟨zr, zo⟩ ⟨z1, z2⟩; dsimp only at z1 z2) | (refine Ok.cond (fun _ => ?_) (fun _ => ?_)))
    exact Ok.some ⟨Cur.mono (by assumption) (by omega), hp.id, hp.pr, headOk hp.ac.atom hp.ac.type, hp.re, hp.wh, hp.len⟩
  · refine Ok.bind (thingRef_ok (by assumption) (by omega)) ?_
    rintro ⟨r, o⟩ ⟨h1, h2⟩
    refine Ok.bind (oddAtom_ok h2 h1 (by omega)) ?_
    rintro ⟨r2, o2⟩ ⟨h3, h4⟩
    exact Ok.some ⟨Cur.mono h3 (by omega), hp.id, hp.pr, hp.ac, headOk h4 hp.re.type, hp.wh, hp.len⟩
  · refine Ok.bind (oddExprx_ok hp.wh hl (by assumption) (by omega)) ?_
    rintro ⟨r, o⟩ ⟨h1, h2, h3⟩
    exact Ok.some ⟨Cur.mono h1 (by omega), hp.id, hp.pr, hp.ac, hp.re, h2, by show r.length ≤ _; omega⟩
  · exact Ok.some ⟨Cur.mono (by assumption) (by omega), hp⟩
def Drawn (q : T_impl_Policy × ByteArray × T_impl_Atom × T_impl_Atom) : Prop := PolicyOk q.1 ∧ q.2.1.size ≤ 1000 ∧ AtomOk q.2.2.1 ∧ AtomOk q.2.2.2
theorem draw_j2 {n : Nat} {o : T_spec_l1Cur} {p : T_impl_Policy} {r12 b16 : T_impl_Atom} (hp : PolicyOk p) (h1 : AtomOk r12) (h2 : AtomOk b16) (h : Cur n o) (hn : n + 4 < lim) : Ok (spec_DrawLinkPolicy_j2 p r12 o b16) Drawn := by
  unfold spec_DrawLinkPolicy_j2
  (first | (refine Ok.bind (pick_ok _ (by assumption) (by omega)) ?_; rintro ⟨zr, zo⟩ ⟨z1, z2, z3⟩; replace z3 := z3 (by omega); dsimp only at z1 z2 z3) | (refine Ok.bind (one_ok _ (by assumption) (by omega)) ?_; rintro ⟨zr, zo⟩ z1; dsimp only at z1) | (refine Ok.bind (of_ok _ (by decide) (by assumption) (by omega)) ?_; rintro ⟨zr, zo⟩ ⟨z1, z2⟩; dsimp only at z1 z2) | (refine Ok.cond (fun _ => ?_) (fun _ => ?_)))
  exact Ok.some ⟨hp, by assumption, h2, h1⟩
theorem draw_j1 {n : Nat} {o : T_spec_l1Cur} {p : T_impl_Policy} (hp : PolicyOk p) (h : Cur n o) (hn : n + 60 < lim) : Ok (spec_DrawLinkPolicy_j1 o p) Drawn := by
  unfold spec_DrawLinkPolicy_j1
  refine Ok.bind (thingRef_ok (by assumption) (by omega)) ?_
  rintro ⟨r, o⟩ ⟨h1, h2⟩
  refine Ok.bind (thingRef_ok h1 (by omega)) ?_
  rintro ⟨r2, o2⟩ ⟨h3, h4⟩
  dsimp only at h1 h2 h3 h4
  (first | (refine Ok.bind (pick_ok _ (by assumption) (by omega)) ?_; rintro ⟨zr, zo⟩ ⟨z1, z2, z3⟩; replace z3 := z3 (by omega); dsimp only at z1 z2 z3) | (refine Ok.bind (one_ok _ (by assumption) (by omega)) ?_; rintro ⟨zr, zo⟩ z1; dsimp only at z1) | (refine Ok.bind (of_ok _ (by decide) (by assumption) (by omega)) ?_; rintro ⟨zr, zo⟩ ⟨z1, z2⟩; dsimp only at z1 z2) | (refine Ok.cond (fun _ => ?_) (fun _ => ?_)))
  (first | (refine Ok.bind (pick_ok _ (by assumption) (by omega)) ?_; rintro ⟨zr, zo⟩ ⟨z1, z2, z3⟩; replace z3 := z3 (by omega); dsimp only at z1 z2 z3) | (refine Ok.bind (one_ok _ (by assumption) (by omega)) ?_; rintro ⟨zr, zo⟩ z1; dsimp only at z1) | (refine Ok.bind (of_ok _ (by decide) (by assumption) (by omega)) ?_; rintro ⟨zr, zo⟩ ⟨z1, z2⟩; dsimp only at z1 z2) | (refine Ok.cond (fun _ => ?_) (fun _ => ?_)))
  · refine Ok.bind (atom_ok (by assumption) (by omega)) ?_
    rintro ⟨r3, o3⟩ ⟨h5, h6⟩
    exact draw_j2 hp h4 h6 h5 (by omega)
  · exact draw_j2 hp h4 h2 (by assumption) (by omega)
theorem draw_ok {code : List Int} (hb : ∀ b, b ∈ code → 0 ≤ b ∧ b ≤ 255) : Ok (spec_DrawLinkPolicy code) Drawn := by
  have hL : lim = 1000000 := rfl
  unfold spec_DrawLinkPolicy
  have h0 : Cur 0 (⟨code, 0, 0⟩ : T_spec_l1Cur) := ⟨by simp, by simp, hb⟩
  refine Ok.bind (policyo_ok (by decide) h0 (by omega)) ?_
  rintro ⟨r, o⟩ ⟨h1, h2, hw⟩
  refine Ok.bind (oddPolicyx_ok h2 hw h1 (by omega)) ?_
  rintro ⟨r2, o2⟩ ⟨h3, h4⟩
  dsimp only at h1 h2 h3 h4
  (first | (refine Ok.bind (pick_ok _ (by assumption) (by omega)) ?_; rintro ⟨zr, zo⟩ ⟨z1, z2, z3⟩; replace z3 := z3 (by omega); dsimp only at z1 z2 z3) | (refine Ok.bind (one_ok _ (by assumption) (by omega)) ?_; rintro ⟨zr, zo⟩ z1; dsimp only at z1) | (refine Ok.bind (of_ok _ (by decide) (by assumption) (by omega)) ?_; rintro ⟨zr, zo⟩ ⟨z1, z2⟩; dsimp only at z1 z2) | (refine Ok.cond (fun _ => ?_) (fun _ => ?_)))
  (first | (refine Ok.bind (pick_ok _ (by assumption) (by omega)) ?_; rintro ⟨zr, zo⟩ ⟨z1, z2, z3⟩; replace z3 := z3 (by omega); dsimp only at z1 z2 z3) | (refine Ok.bind (one_ok _ (by assumption) (by omega)) ?_; rintro ⟨zr, zo⟩ z1; dsimp only at z1) | (refine Ok.bind (of_ok _ (by decide) (by assumption) (by omega)) ?_; rintro ⟨zr, zo⟩ ⟨z1, z2⟩; dsimp only at z1 z2) | (refine Ok.cond (fun _ => ?_) (fun _ => ?_)))
  · (first | (refine Ok.bind (pick_ok _ (by assumption) (by omega)) ?_; rintro ⟨zr, zo⟩ ⟨z1, z2, z3⟩; replace z3 := z3 (by omega); dsimp only at z1 z2 z3) | (refine Ok.bind (one_ok _ (by assumption) (by omega)) ?_; rintro ⟨zr, zo⟩ z1; dsimp only at z1) | (refine Ok.bind (of_ok _ (by decide) (by assumption) (by omega)) ?_; rintro ⟨zr, zo⟩ ⟨z1, z2⟩; dsimp only at z1 z2) | (refine Ok.cond (fun _ => ?_) (fun _ => ?_)))
    exact draw_j1 ⟨h4.id, headOk zAtom size_e, h4.ac, h4.re, h4.wh, h4.len⟩ (by assumption) (by omega)
  · exact draw_j1 h4 (by assumption) (by omega)
end Go.G36.ZL
