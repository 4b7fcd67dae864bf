/- FnLinked, plain part: what is drawn, to the end. -/
import Derived.Test.YtnndbiialpaccaaGreatDoorQ36d
namespace Go.G36.ZL
set_option maxRecDepth 20000
set_option maxHeartbeats 2000000
set_option linter.unusedVariables false
set_option linter.unusedSimpArgs false
open Go Go.G36

def W : Nat → Nat
  | 0 => 0
  | d + 1 => 1 + 3 * W d
theorem dec_c (u : T_spec_l10E) : dec_T_spec_l10E (c_T_spec_l10E false u) = some u := by
  obtain ⟨⟨k, t, ⟨a, b, c, d⟩, e⟩, f⟩ := u
  show some _ = some _
  simp only [map_raw]
theorem app_some {α : Type} {l m : List α} (h : l.length + m.length ≤ 4294967296) : app l m = some (l ++ m) := by unfold app; rw [if_pos h]

/-- The kids of a tree put behind a list, each by a rule. -/
theorem put_loop {d m0 : Nat} {t : T_spec_l10E} (ht : Tr (d + 1) t) {step : (List T_impl_Expr × Int) → Option ((List T_impl_Expr × Int) ⊕ List T_impl_Expr)} {rec : T_spec_l10E × List T_impl_Expr → Option (List T_impl_Expr)}
    (hrec : ∀ u s, Tr d u → (∀ e, e ∈ s → ExprOk e) → s.length + W d ≤ 4294967296 → Ok (rec (u, s)) fun l => l.length ≤ s.length + W d ∧ ∀ e, e ∈ l → ExprOk e)
    (hs : ∀ l v, step (l, v) = cond (decide (v < (t.kids_.length : Int))) ((idx t.kids_ v).bind fun w8 => (dec_T_spec_l10E w8).bind fun e7 => (rec (e7, l)).bind fun r11 => some (.inl (r11, (IntKind.i64.wrap (v + 1))))) (some (.inr l)))
    {l0 : List T_impl_Expr} (hl : ∀ e, e ∈ l0 → ExprOk e) (hl2 : l0.length = m0) (hb : m0 + 3 * W d ≤ 4294967296) :
    Ok (loopO step (l0, 0)) fun l => l.length ≤ m0 + 3 * W d ∧ ∀ e, e ∈ l → ExprOk e := by
  obtain ⟨h1, h2, h3⟩ := ht
  refine Ok.loop (fun k q => k ≤ t.kids_.length ∧ q.2 = (t.kids_.length : Int) - (k : Int) ∧ q.1.length ≤ m0 + (t.kids_.length - k) * W d ∧ ∀ e, e ∈ q.1 → ExprOk e) ?_ (n := t.kids_.length) ⟨by omega, by simp, by simp; omega, hl⟩
  rintro k ⟨l, v⟩ ⟨hk, hv, hlen, hex⟩
  dsimp only at hv hlen hex
  have hmul : (t.kids_.length - k) * W d ≤ 3 * W d := Nat.mul_le_mul_right _ (by omega)
  rw [hs]
  refine Ok.cond (fun hd => ?_) (fun _ => Ok.some ⟨by omega, hex⟩)
  have hlt := of_decide_eq_true hd
  refine Ok.bind (idx_ok (by omega) hlt) ?_
  intro w hw
  obtain ⟨u, rfl, hu⟩ := h3 w hw
  rw [dec_c, Option.bind_some]
  have hm2 : (t.kids_.length - k) * W d + W d ≤ 3 * W d := by
    have : (t.kids_.length - k + 1) * W d ≤ 3 * W d := Nat.mul_le_mul_right _ (by omega)
    rw [Nat.add_mul, Nat.one_mul] at this
    exact this
  refine Ok.bind (hrec u l hu hex (by omega)) ?_
  rintro r ⟨g1, g2⟩
  refine Ok.some ⟨k - 1, by omega, by omega, ?_, ?_, g2⟩
  · show IntKind.i64.wrap (v + 1) = _
    rw [IntWalk.i64_in _ (by omega)]; omega
  · show r.length ≤ m0 + (t.kids_.length - (k - 1)) * W d
    rw [show t.kids_.length - (k - 1) = (t.kids_.length - k) + 1 by omega, Nat.add_mul, Nat.one_mul]
    omega
noncomputable abbrev putB := fun (rec_spec_l10Putxx : T_spec_l10E × List T_impl_Expr → Option (List T_impl_Expr)) (x : T_spec_l10E × List T_impl_Expr) => match x with | (a0, s0) => spec_l10Putxx_b rec_spec_l10Putxx a0 s0
theorem root_ok {d : Nat} {t : T_spec_l10E} (ht : Tr (d + 1) t) : ExprOk ⟨t.n_.Kind_, t.n_.Text_, t.n_.Atom_, (t.kids_.length : Int)⟩ := ⟨ht.1.atom, ht.1.text, by show _ ≤ (t.kids_.length : Int); omega, by have := ht.2.1; show (t.kids_.length : Int) ≤ _; omega⟩
theorem put_it : ∀ (d : Nat) (t : T_spec_l10E) (s : List T_impl_Expr), Tr d t → (∀ e, e ∈ s → ExprOk e) → s.length + W d ≤ 4294967296 → Ok (iterF putB d (t, s)) fun l => l.length ≤ s.length + W d ∧ ∀ e, e ∈ l → ExprOk e := by
  intro d
  induction d with
  | zero => intro t s h; exact h.elim
  | succ d ih =>
    intro t s h hs hb
    show Ok (spec_l10Putxx_b (iterF putB d) t s) _
    unfold spec_l10Putxx_b
    simp only [W] at hb ⊢
    rw [app_some (by simp; omega), Option.bind_some]
    refine Ok.bind (put_loop h (m0 := s.length + 1) (rec := iterF putB d) ih (fun l v => by unfold spec_l10Putxx_l1; rfl) (fun e he => ?_) (by simp) (by omega)) ?_
    · rcases List.mem_append.1 he with he | he
      · exact hs e he
      · simp only [List.mem_cons, List.not_mem_nil, or_false] at he
        subst he
        exact root_ok h
    · rintro l ⟨g1, g2⟩
      exact Ok.some ⟨by omega, g2⟩
theorem put_mono : ∀ f g : T_spec_l10E × List T_impl_Expr → Option (List T_impl_Expr), (∀ x, Lo (f x) (g x)) → ∀ x, Lo (putB f x) (putB g x) := by
  rintro f g h ⟨a, s⟩
  show Lo (spec_l10Putxx_b f a s) (spec_l10Putxx_b g a s)
  unfold spec_l10Putxx_b
  refine Lo.bind (Lo.refl _) fun r => Lo.bind (Lo.loop ?_ _) fun r => Lo.refl _
  rintro ⟨l, v⟩
  unfold spec_l10Putxx_l1
  exact Lo.cond (Lo.bind (Lo.refl _) fun r => Lo.bind (Lo.refl _) fun r => Lo.bind (h _) fun r => Lo.refl _) (Lo.refl _)
theorem putx_ok {t : T_spec_l10E} (h : Tr 11 t) : Ok (spec_l10Putx t) fun l => l.length ≤ 100000 ∧ ∀ e, e ∈ l → ExprOk e := by
  unfold spec_l10Putx
  rw [app_some (by simp), Option.bind_some]
  refine Ok.bind (put_loop h (m0 := 1) (rec := fun x => spec_l10Putxx x.1 x.2) ?_ (fun l v => by unfold spec_l10Putx_l1; rfl) (fun e he => ?_) (by simp) (by decide)) ?_
  · intro u s hu hs hb
    unfold spec_l10Putxx
    exact Ok.fix put_mono (put_it 10 u s hu hs hb)
  · simp only [List.nil_append, List.mem_cons, List.not_mem_nil, or_false] at he
    subst he
    exact root_ok h
  · rintro l ⟨g1, g2⟩
    have : W 10 = 29524 := by decide
    exact Ok.some ⟨by omega, g2⟩

attribute [local irreducible] spec_l1Cur_next spec_l1Cur_pick spec_l1Cur_one spec_l1Cur_of spec_l10Ref spec_l1Cur_thingRef spec_l1Cur_head spec_l10Node spec_l1Cur_path spec_l10Lit spec_l1Cur_wide spec_l1Cur_printed spec_l1Pow2 spec_l1Cur_block spec_l1Cur_atom spec_l1Cur_ofContext spec_l1Cur_numExpr spec_l1Cur_boolExpr Tr spec_l1Cur_kindNum spec_l1Cur_kindBool spec_l10Putx

theorem headOk {k : Int} {a : T_impl_Atom} {t : ByteArray} (ha : AtomOk a) (ht : t.size ≤ 1000) : HeadOk ⟨k, a, t⟩ := ⟨ha, ht⟩
theorem zAtom {k : Int} : AtomOk ⟨k, 0, ByteArray.mk #[], ByteArray.mk #[]⟩ := atomOk (by omega) (by omega) size_e size_e
theorem policyo_j1_ok {n : Nat} {o : T_spec_l1Cur} {p : T_impl_Policy} (hp : PolicyOk p) (hw : p.When_.length ≤ 100000) (h : Cur n o) (hn : n + 20100 < lim) : Ok (spec_l1Cur_policyo_j1 o p) fun q => Cur (n + 20100) q.2 ∧ PolicyOk q.1 ∧ q.1.When_.length ≤ 100000 := by
  unfold spec_l1Cur_policyo_j1
  (first | (refine Ok.bind (pick_ok _ (by assumption) (by omega)) ?_; rintro ⟨zr, zo⟩ ⟨z1, z2, z3⟩; replace z3 := z3 (by omega); dsimp only at z1 z2 z3) | (refine Ok.bind (one_ok _ (by assumption) (by omega)) ?_; rintro ⟨zr, zo⟩ z1; dsimp only at z1) | (refine Ok.bind (of_ok _ (by decide) (by assumption) (by omega)) ?_; rintro ⟨zr, zo⟩ ⟨z1, z2⟩; dsimp only at z1 z2) | (refine Ok.cond (fun _ => ?_) (fun _ => ?_)))
  (first | (refine Ok.bind (pick_ok _ (by assumption) (by omega)) ?_; rintro ⟨zr, zo⟩ ⟨z1, z2, z3⟩; replace z3 := z3 (by omega); dsimp only at z1 z2 z3) | (refine Ok.bind (one_ok _ (by assumption) (by omega)) ?_; rintro ⟨zr, zo⟩ z1; dsimp only at z1) | (refine Ok.bind (of_ok _ (by decide) (by assumption) (by omega)) ?_; rintro ⟨zr, zo⟩ ⟨z1, z2⟩; dsimp only at z1 z2) | (refine Ok.cond (fun _ => ?_) (fun _ => ?_)))
  · refine Ok.bind (bool_ok (by assumption) (by omega)) ?_
    rintro ⟨r, o⟩ ⟨h1, h2⟩
    refine Ok.bind (putx_ok h2) ?_
    rintro l ⟨g1, g2⟩
    (first | (refine Ok.bind (pick_ok _ (by assumption) (by omega)) ?_; rintro ⟨zr, zo⟩ ⟨z1, z2, z3⟩; replace z3 := z3 (by omega); dsimp only at z1 z2 z3) | (refine Ok.bind (one_ok _ (by assumption) (by omega)) ?_; rintro ⟨zr, zo⟩ z1; dsimp only at z1) | (refine Ok.bind (of_ok _ (by decide) (by assumption) (by omega)) ?_; rintro ⟨zr, zo⟩ ⟨z1, z2⟩; dsimp only at z1 z2) | (refine Ok.cond (fun _ => ?_) (fun _ => ?_)))
    (first | (refine Ok.bind (pick_ok _ (by assumption) (by omega)) ?_; rintro ⟨zr, zo⟩ ⟨z1, z2, z3⟩; replace z3 := z3 (by omega); dsimp only at z1 z2 z3) | (refine Ok.bind (one_ok _ (by assumption) (by omega)) ?_; rintro ⟨zr, zo⟩ z1; dsimp only at z1) | (refine Ok.bind (of_ok _ (by decide) (by assumption) (by omega)) ?_; rintro ⟨zr, zo⟩ ⟨z1, z2⟩; dsimp only at z1 z2) | (refine Ok.cond (fun _ => ?_) (fun _ => ?_)))
    · refine Ok.bind (kb_ok (by assumption) (by omega)) ?_
      rintro ⟨r, o⟩ ⟨h1, h2⟩
      refine Ok.bind (putx_ok h2) ?_
      rintro l ⟨g1, g2⟩
      exact Ok.some ⟨Cur.mono h1 (by omega), ⟨hp.id, hp.pr, hp.ac, hp.re, g2, by show l.length ≤ _; omega⟩, g1⟩
    · exact Ok.some ⟨Cur.mono (by assumption) (by omega), ⟨hp.id, hp.pr, hp.ac, hp.re, g2, by show l.length ≤ _; omega⟩, g1⟩
  · exact Ok.some ⟨Cur.mono (by assumption) (by omega), hp, hw⟩
theorem policyo_ok {n : Nat} {s : T_spec_l1Cur} {a : ByteArray} (ha : a.size ≤ 1000) (h : Cur n s) (hn : n + 20200 < lim) : Ok (spec_l1Cur_policyo a s) fun q => Cur (n + 20200) q.2 ∧ PolicyOk q.1 ∧ q.1.When_.length ≤ 100000 := by
  unfold spec_l1Cur_policyo
  (first | (refine Ok.bind (pick_ok _ (by assumption) (by omega)) ?_; rintro ⟨zr, zo⟩ ⟨z1, z2, z3⟩; replace z3 := z3 (by omega); dsimp only at z1 z2 z3) | (refine Ok.bind (one_ok _ (by assumption) (by omega)) ?_; rintro ⟨zr, zo⟩ z1; dsimp only at z1) | (refine Ok.bind (of_ok _ (by decide) (by assumption) (by omega)) ?_; rintro ⟨zr, zo⟩ ⟨z1, z2⟩; dsimp only at z1 z2) | (refine Ok.cond (fun _ => ?_) (fun _ => ?_)))
  refine Ok.bind (head_ok _ (by assumption) (by omega)) ?_
  rintro ⟨r, o⟩ ⟨h1, h2⟩
  refine Ok.bind (head_ok _ (by assumption) (by omega)) ?_
  rintro ⟨r2, o2⟩ ⟨h3, h4⟩
  (first | (refine Ok.bind (pick_ok _ (by assumption) (by omega)) ?_; rintro ⟨zr, zo⟩ ⟨z1, z2, z3⟩; replace z3 := z3 (by omega); dsimp only at z1 z2 z3) | (refine Ok.bind (one_ok _ (by assumption) (by omega)) ?_; rintro ⟨zr, zo⟩ z1; dsimp only at z1) | (refine Ok.bind (of_ok _ (by decide) (by assumption) (by omega)) ?_; rintro ⟨zr, zo⟩ ⟨z1, z2⟩; dsimp only at z1 z2) | (refine Ok.cond (fun _ => ?_) (fun _ => ?_)))
  (first | (refine Ok.bind (pick_ok _ (by assumption) (by omega)) ?_; rintro ⟨zr, zo⟩ ⟨z1, z2, z3⟩; replace z3 := z3 (by omega); dsimp only at z1 z2 z3) | (refine Ok.bind (one_ok _ (by assumption) (by omega)) ?_; rintro ⟨zr, zo⟩ z1; dsimp only at z1) | (refine Ok.bind (of_ok _ (by decide) (by assumption) (by omega)) ?_; rintro ⟨zr, zo⟩ ⟨z1, z2⟩; dsimp only at z1 z2) | (refine Ok.cond (fun _ => ?_) (fun _ => ?_)))
  · simp only [ref_eq]
    (first | (refine Ok.bind (pick_ok _ (by assumption) (by omega)) ?_; rintro ⟨zr, zo⟩ ⟨z1, z2, z3⟩; replace z3 := z3 (by omega); dsimp only at z1 z2 z3) | (refine Ok.bind (one_ok _ (by assumption) (by omega)) ?_; rintro ⟨zr, zo⟩ z1; dsimp only at z1) | (refine Ok.bind (of_ok _ (by decide) (by assumption) (by omega)) ?_; rintro ⟨zr, zo⟩ ⟨z1, z2⟩; dsimp only at z1 z2) | (refine Ok.cond (fun _ => ?_) (fun _ => ?_)))
    refine Ok.mono (policyo_j1_ok ⟨ha, h2, headOk (atomOk (by omega) (by omega) (by assumption) (by decide)) size_e, h4, (fun e he => absurd he List.not_mem_nil), Nat.zero_le _⟩ (Nat.zero_le _) (by assumption) (by omega)) fun q hq => ⟨hq.1.mono (by omega), hq.2⟩
  · exact Ok.mono (policyo_j1_ok ⟨ha, h2, headOk zAtom size_e, h4, (fun e he => absurd he List.not_mem_nil), Nat.zero_le _⟩ (Nat.zero_le _) (by assumption) (by omega)) fun q hq => ⟨hq.1.mono (by omega), hq.2⟩

theorem oddAtom_ok {n : Nat} {s : T_spec_l1Cur} {a : T_impl_Atom} (ha : AtomOk a) (h : Cur n s) (hn : n + 4 < lim) : Ok (spec_l1Cur_oddAtom a s) fun q => Cur (n + 4) q.2 ∧ AtomOk q.1 := by
  unfold spec_l1Cur_oddAtom
  have hp : spec_l1Pow2 32 = some 4294967296 := by rw [pow2_ok (by decide) (by decide)]; rfl
  simp only [hp, Option.bind_some]
  (first | (refine Ok.bind (pick_ok _ (by assumption) (by omega)) ?_; rintro ⟨zr, zo⟩ ⟨z1, z2, z3⟩; replace z3 := z3 (by omega); dsimp only at z1 z2 z3) | (refine Ok.bind (one_ok _ (by assumption) (by omega)) ?_; rintro ⟨zr, zo⟩ z1; dsimp only at z1) | (refine Ok.bind (of_ok _ (by decide) (by assumption) (by omega)) ?_; rintro ⟨zr, zo⟩ ⟨z1, z2⟩; dsimp only at z1 z2) | (refine Ok.cond (fun _ => ?_) (fun _ => ?_)))
  refine Ok.cond (fun _ => ?_) (fun _ => Ok.cond (fun _ => ?_) (fun _ => Ok.cond (fun _ => ?_) (fun _ => Ok.cond (fun _ => ?_) (fun _ => Ok.cond (fun _ => ?_) (fun _ => ?_)))))
  · (first | (refine Ok.bind (pick_ok _ (by assumption) (by omega)) ?_; rintro ⟨zr, zo⟩ ⟨z1, z2, z3⟩; replace z3 := z3 (by omega); dsimp only at z1 z2 z3) | (refine Ok.bind (one_ok _ (by assumption) (by omega)) ?_; rintro ⟨zr, zo⟩ z1; dsimp only at z1) | (refine Ok.bind (of_ok _ (by decide) (by assumption) (by omega)) ?_; rintro ⟨zr, zo⟩ ⟨z1, z2⟩; dsimp only at z1 z2) | (refine Ok.cond (fun _ => ?_) (fun _ => ?_)))
    exact Ok.some ⟨Cur.mono (by assumption) (by omega), ha.lo, ha.hi, ha.text, ha.type⟩
  · (first | (refine Ok.bind (pick_ok _ (by assumption) (by omega)) ?_; rintro ⟨zr, zo⟩ ⟨z1, z2, z3⟩; replace z3 := z3 (by omega); dsimp only at z1 z2 z3) | (refine Ok.bind (one_ok _ (by assumption) (by omega)) ?_; rintro ⟨zr, zo⟩ z1; dsimp only at z1) | (refine Ok.bind (of_ok _ (by decide) (by assumption) (by omega)) ?_; rintro ⟨zr, zo⟩ ⟨z1, z2⟩; dsimp only at z1 z2) | (refine Ok.cond (fun _ => ?_) (fun _ => ?_)))
    refine Ok.bind (idx_ok (by assumption) (by assumption)) ?_
    intro e he
    have he2 : -9223372036854775808 ≤ e ∧ e ≤ 9223372036854775807 := by
      simp only [List.mem_cons, List.not_mem_nil, or_false] at he
      rcases he with rfl | rfl | rfl | rfl | rfl | rfl | rfl
      all_goals first | omega | exact wr _
    exact Ok.some ⟨Cur.mono (by assumption) (by omega), he2.1, he2.2, ha.text, ha.type⟩
  · (first | (refine Ok.bind (pick_ok _ (by assumption) (by omega)) ?_; rintro ⟨zr, zo⟩ ⟨z1, z2, z3⟩; replace z3 := z3 (by omega); dsimp only at z1 z2 z3) | (refine Ok.bind (one_ok _ (by assumption) (by omega)) ?_; rintro ⟨zr, zo⟩ z1; dsimp only at z1) | (refine Ok.bind (of_ok _ (by decide) (by assumption) (by omega)) ?_; rintro ⟨zr, zo⟩ ⟨z1, z2⟩; dsimp only at z1 z2) | (refine Ok.cond (fun _ => ?_) (fun _ => ?_)))
    exact Ok.some ⟨Cur.mono (by assumption) (by omega), ha.lo, ha.hi, by assumption, ha.type⟩
  · (first | (refine Ok.bind (pick_ok _ (by assumption) (by omega)) ?_; rintro ⟨zr, zo⟩ ⟨z1, z2, z3⟩; replace z3 := z3 (by omega); dsimp only at z1 z2 z3) | (refine Ok.bind (one_ok _ (by assumption) (by omega)) ?_; rintro ⟨zr, zo⟩ z1; dsimp only at z1) | (refine Ok.bind (of_ok _ (by decide) (by assumption) (by omega)) ?_; rintro ⟨zr, zo⟩ ⟨z1, z2⟩; dsimp only at z1 z2) | (refine Ok.cond (fun _ => ?_) (fun _ => ?_)))
    exact Ok.some ⟨Cur.mono (by assumption) (by omega), ha.lo, ha.hi, ha.text, by assumption⟩
  · (first | (refine Ok.bind (pick_ok _ (by assumption) (by omega)) ?_; rintro ⟨zr, zo⟩ ⟨z1, z2, z3⟩; replace z3 := z3 (by omega); dsimp only at z1 z2 z3) | (refine Ok.bind (one_ok _ (by assumption) (by omega)) ?_; rintro ⟨zr, zo⟩ z1; dsimp only at z1) | (refine Ok.bind (of_ok _ (by decide) (by assumption) (by omega)) ?_; rintro ⟨zr, zo⟩ ⟨z1, z2⟩; dsimp only at z1 z2) | (refine Ok.cond (fun _ => ?_) (fun _ => ?_)))
    revert zr zo z1 z2 z3; intro r o h1 h2 h3
    dsimp only
    rw [IntWalk.i64_in _ (by omega)]
    have hmk : mk (0 : Int) (199 + r) = some (List.replicate (199 + r).toNat 0) := by
      unfold mk
      rw [if_pos (by omega)]
    rw [hmk, Option.bind_some]
    refine Ok.bind (Ok.loop (P := fun l => l.length = (199 + r).toNat) (fun k q => q.1.length = (199 + r).toNat ∧ k ≤ (199 + r).toNat ∧ q.2 = ((199 + r).toNat : Int) - (k : Int)) ?_ (n := (199 + r).toNat) ⟨by simp, by omega, by simp⟩) ?_
    · rintro k ⟨l, v⟩ ⟨q1, q2, q3⟩
      dsimp only at q1 q3
      unfold spec_l1Cur_oddAtom_l1
      simp only [List.length_replicate]
      refine Ok.cond (fun hd => ?_) (fun _ => Ok.some q1)
      have hlt := of_decide_eq_true hd
      refine Ok.bind (idx_ok (by omega) (by omega)) ?_
      intro e he
      refine Ok.some ⟨k - 1, by omega, by simp [q1], by omega, ?_⟩
      show IntKind.i64.wrap (v + 1) = _
      rw [IntWalk.i64_in _ (by omega)]; omega
    · intro l hl
      exact Ok.some ⟨Cur.mono (by assumption) (by omega), ha.lo, ha.hi, by show (byS l).size ≤ 1000; rw [byS_size, hl]; omega, ha.type⟩
  · exact Ok.some ⟨Cur.mono (by assumption) (by omega), ha⟩
end Go.G36.ZL
