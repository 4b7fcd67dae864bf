/- FnLinked, plain part: what is drawn. -/
import Derived.Test.YtnndbiialpaccaaGreatDoorQ36a
import Derived.Test.YtnndbiialpaccaaGreatDoorZC
namespace Go.G36.ZL
set_option linter.unusedVariables false
set_option linter.unusedSimpArgs false
open Go Go.G36

def Cur (n : Nat) (s : T_spec_l1Cur) : Prop := 0 ≤ s.at_ ∧ s.at_ ≤ (n : Int) ∧ ∀ b, b ∈ s.code_ → 0 ≤ b ∧ b ≤ 255
abbrev lim : Nat := 1000000
theorem Cur.mono {n m : Nat} {s : T_spec_l1Cur} (h : Cur n s) (hm : n ≤ m) : Cur m s := ⟨h.1, by have := h.2.1; omega, h.2.2⟩

theorem u64_and (x : BitVec IntKind.u64.bits) : 0 ≤ IntKind.i64.wrap (IntKind.u64.wrap ((x &&& BitVec.ofInt IntKind.u64.bits 255).toNat : Int)) ∧ IntKind.i64.wrap (IntKind.u64.wrap ((x &&& BitVec.ofInt IntKind.u64.bits 255).toNat : Int)) ≤ 255 := by
  have h : (x &&& BitVec.ofInt IntKind.u64.bits 255).toNat ≤ 255 := by
    rw [BitVec.toNat_and]
    exact Nat.le_trans Nat.and_le_right (by decide)
  generalize (x &&& BitVec.ofInt IntKind.u64.bits 255).toNat = y at h
  rw [IntWalk.u64_in _ (by omega), IntWalk.i64_in _ (by omega)]
  omega

theorem next_ok {n : Nat} {s : T_spec_l1Cur} (h : Cur n s) (hn : n < lim) : Ok (spec_l1Cur_next s) fun q => Cur (n + 1) q.2 ∧ 0 ≤ q.1 ∧ q.1 ≤ 255 := by
  obtain ⟨h0, h1, h2⟩ := h
  unfold lim at hn
  have hw : IntKind.i64.wrap (s.at_ + 1) = s.at_ + 1 := IntWalk.i64_in _ (by omega)
  have j : ∀ v, 0 ≤ v → v ≤ 255 → Ok (spec_l1Cur_next_j1 s v) fun q => Cur (n + 1) q.2 ∧ 0 ≤ q.1 ∧ q.1 ≤ 255 := fun v v0 v1 => by
    unfold spec_l1Cur_next_j1
    rw [hw]
    cases decide (s.at_ + 1 ≤ (s.code_.length : Int)) with
    | true => exact ⟨_, rfl, ⟨by show 0 ≤ s.at_ + 1; omega, by show s.at_ + 1 ≤ _; omega, h2⟩, v0, v1⟩
    | false =>
      refine ⟨_, rfl, ⟨by show 0 ≤ s.at_ + 1; omega, by show s.at_ + 1 ≤ _; omega, h2⟩, ?_⟩
      exact u64_and _
  unfold spec_l1Cur_next
  cases hd : decide (s.at_ < (s.code_.length : Int)) with
  | false => exact j 0 (by omega) (by omega)
  | true =>
    have hlt := of_decide_eq_true hd
    have hx : s.code_[s.at_.toNat]? = some s.code_[s.at_.toNat] := by simp
    have hi : idx s.code_ s.at_ = some s.code_[s.at_.toNat] := by unfold idx; rw [if_pos h0, hx]
    have hb := h2 _ (List.getElem_mem (l := s.code_) (n := s.at_.toNat) (by omega))
    simp only [cond_true, hi, Option.bind_some]
    rw [IntWalk.i64_in _ (by omega)]
    exact j _ hb.1 hb.2

theorem pick_ok {n : Nat} {s : T_spec_l1Cur} (a : Int) (h : Cur n s) (hn : n + 1 < lim) : Ok (spec_l1Cur_pick a s) fun q => Cur (n + 2) q.2 ∧ 0 ≤ q.1 ∧ (1 ≤ a → q.1 < a) := by
  unfold spec_l1Cur_pick
  refine Ok.cond (fun ha => Ok.some ⟨h.mono (by omega), Int.le_refl _, fun h1 => h1⟩) fun ha => ?_
  have ha1 : ¬ a ≤ 1 := of_decide_eq_false ha
  have hnz : nz a = some a := by unfold nz; rw [if_neg (by omega)]
  have j : ∀ (v : Int) (o : T_spec_l1Cur), 0 ≤ v → Cur (n + 2) o → Ok (spec_l1Cur_pick_j1 a o v) fun q => Cur (n + 2) q.2 ∧ 0 ≤ q.1 ∧ (1 ≤ a → q.1 < a) := fun v o hv ho => by
    unfold spec_l1Cur_pick_j1
    rw [hnz]
    exact ⟨_, rfl, ho, Int.tmod_nonneg _ hv, fun _ => Int.tmod_lt_of_pos _ (by omega)⟩
  refine Ok.bind (next_ok h (by omega)) ?_
  rintro ⟨r, o⟩ ⟨h2, h3, h4⟩
  refine Ok.cond (fun _ => ?_) (fun _ => j r o h3 (h2.mono (by omega)))
  refine Ok.bind (next_ok h2 (by omega)) ?_
  rintro ⟨r2, o2⟩ ⟨g2, g3, g4⟩
  have h3' : 0 ≤ r := h3
  have h4' : r ≤ 255 := h4
  have g3' : 0 ≤ r2 := g3
  have g4' : r2 ≤ 255 := g4
  show Ok (spec_l1Cur_pick_j1 a o2 (IntKind.i64.wrap (IntKind.i64.wrap (r * 256) + r2))) _
  rw [IntWalk.i64_in (r * 256) (by omega), IntWalk.i64_in _ (by omega)]
  exact j _ o2 (by omega) g2

theorem one_ok {n : Nat} {s : T_spec_l1Cur} (a : Int) (h : Cur n s) (hn : n + 1 < lim) : Ok (spec_l1Cur_one a s) fun q => Cur (n + 2) q.2 := by
  unfold spec_l1Cur_one
  refine Ok.bind (pick_ok a h hn) ?_
  rintro ⟨r, o⟩ ⟨h2, h3, h4⟩
  exact Ok.some h2
theorem of_ok {n : Nat} {s : T_spec_l1Cur} (xs : List ByteArray) (hx : (!xs.isEmpty && xs.all fun x => decide (x.size ≤ 1000)) = true) (h : Cur n s) (hn : n + 1 < lim) : Ok (spec_l1Cur_of xs s) fun q => Cur (n + 2) q.2 ∧ q.1.size ≤ 1000 := by
  simp only [Bool.and_eq_true, Bool.not_eq_true', List.all_eq_true, decide_eq_true_eq] at hx
  have hl : 0 < xs.length := by
    cases xs with
    | nil => exact absurd hx.1 (by decide)
    | cons a l => simp
  unfold spec_l1Cur_of
  refine Ok.bind (pick_ok (xs.length : Int) h hn) ?_
  rintro ⟨r, o⟩ ⟨h2, h3, h4⟩
  have h3' : 0 ≤ r := h3
  have h5 : r < (xs.length : Int) := h4 (by omega)
  have hg : xs[r.toNat]? = some xs[r.toNat] := by simp
  have hi : idx xs r = some xs[r.toNat] := by unfold idx; rw [if_pos h3', hg]
  show Ok ((idx xs r).bind _) _
  rw [hi]
  exact Ok.some ⟨h2, hx.2 _ (List.getElem_mem _)⟩

/-! ### What is well formed -/
structure AtomOk (a : T_impl_Atom) : Prop where
  lo : -9223372036854775808 ≤ a.Num_
  hi : a.Num_ ≤ 9223372036854775807
  text : a.Text_.size ≤ 1000
  type : a.Type_.size ≤ 1000
structure ExprOk (e : T_impl_Expr) : Prop where
  atom : AtomOk e.Atom_
  text : e.Text_.size ≤ 1000
  lo : -9223372036854775808 ≤ e.Kids_
  hi : e.Kids_ ≤ 9223372036854775807
structure HeadOk (h : T_impl_Head) : Prop where
  atom : AtomOk h.Atom_
  type : h.Type_.size ≤ 1000
structure PolicyOk (p : T_impl_Policy) : Prop where
  id : p.Id_.size ≤ 1000
  pr : HeadOk p.Principal_
  ac : HeadOk p.Action_
  re : HeadOk p.Resource_
  wh : ∀ e, e ∈ p.When_ → ExprOk e
  len : p.When_.length ≤ 200000

theorem wr (x : Int) : -9223372036854775808 ≤ IntKind.i64.wrap x ∧ IntKind.i64.wrap x ≤ 9223372036854775807 := by
  rw [IntKind.wrap_i64]; omega
theorem atomOk {k n : Int} {t u : ByteArray} (h1 : -9223372036854775808 ≤ n) (h2 : n ≤ 9223372036854775807) (h3 : t.size ≤ 1000) (h4 : u.size ≤ 1000) : AtomOk ⟨k, n, t, u⟩ := ⟨h1, h2, h3, h4⟩
theorem size_e : (ByteArray.mk #[]).size ≤ 1000 := by decide

theorem ref_eq (a b : ByteArray) : spec_l10Ref a b = some ⟨4, 0, b, a⟩ := rfl
theorem node_eq (a : Int) (b : ByteArray) (c : List (List V)) : spec_l10Node a b c = some ⟨⟨a, b, ⟨0, 0, ByteArray.mk #[], ByteArray.mk #[]⟩, 0⟩, c⟩ := rfl
theorem lit_eq (a : T_impl_Atom) : spec_l10Lit a = some ⟨⟨1, ByteArray.mk #[], a, 0⟩, []⟩ := rfl
attribute [local irreducible] spec_l1Cur_next spec_l1Cur_pick spec_l1Cur_one spec_l1Cur_of spec_l10Ref spec_l1Cur_thingRef spec_l1Cur_head spec_l10Node spec_l1Cur_path spec_l10Lit spec_l1Cur_wide spec_l1Cur_printed spec_l1Pow2 spec_l1Cur_block spec_l1Cur_atom spec_l1Cur_ofContext spec_l1Cur_numExpr spec_l1Cur_boolExpr


theorem thingRef_ok {n : Nat} {s : T_spec_l1Cur} (h : Cur n s) (hn : n + 4 < lim) : Ok (spec_l1Cur_thingRef s) fun q => Cur (n + 4) q.2 ∧ AtomOk q.1 := by
  unfold spec_l1Cur_thingRef
  simp only [ref_eq, Option.bind_some]
  repeat' (first | (refine Ok.bind (pick_ok _ (by assumption) (by omega)) ?_; rintro ⟨zr, zo⟩ ⟨z1, z2, z3⟩; replace z3 := z3 (by omega); dsimp only at z1 z2 z3) | (refine Ok.bind (one_ok _ (by assumption) (by omega)) ?_; rintro ⟨zr, zo⟩ z1; dsimp only at z1) | (refine Ok.bind (of_ok _ (by decide) (by assumption) (by omega)) ?_; rintro ⟨zr, zo⟩ ⟨z1, z2⟩; dsimp only at z1 z2) | (refine Ok.cond (fun _ => ?_) (fun _ => ?_)))
  all_goals exact Ok.some ⟨Cur.mono (by assumption) (by omega), atomOk (by omega) (by omega) (by assumption) (by decide)⟩
theorem head_ok {n : Nat} {s : T_spec_l1Cur} (b : Bool) (h : Cur n s) (hn : n + 6 < lim) : Ok (spec_l1Cur_head b s) fun q => Cur (n + 6) q.2 ∧ HeadOk q.1 := by
  unfold spec_l1Cur_head
  (first | (refine Ok.bind (pick_ok _ (by assumption) (by omega)) ?_; rintro ⟨zr, zo⟩ ⟨z1, z2, z3⟩; replace z3 := z3 (by omega); dsimp only at z1 z2 z3) | (refine Ok.bind (one_ok _ (by assumption) (by omega)) ?_; rintro ⟨zr, zo⟩ z1; dsimp only at z1) | (refine Ok.bind (of_ok _ (by decide) (by assumption) (by omega)) ?_; rintro ⟨zr, zo⟩ ⟨z1, z2⟩; dsimp only at z1 z2) | (refine Ok.cond (fun _ => ?_) (fun _ => ?_)))
  refine Ok.cond (fun _ => ?_) (fun _ => ?_)
  · refine Ok.bind (thingRef_ok (by assumption) (by omega)) ?_
    rintro ⟨r, o⟩ ⟨h1, h2⟩
    exact Ok.some ⟨h1, h2, size_e⟩
  refine Ok.cond (fun _ => ?_) (fun _ => ?_)
  · refine Ok.bind (thingRef_ok (by assumption) (by omega)) ?_
    rintro ⟨r, o⟩ ⟨h1, h2⟩
    exact Ok.some ⟨h1, h2, size_e⟩
  refine Ok.cond (fun _ => ?_) (fun _ => ?_)
  · (first | (refine Ok.bind (pick_ok _ (by assumption) (by omega)) ?_; rintro ⟨zr, zo⟩ ⟨z1, z2, z3⟩; replace z3 := z3 (by omega); dsimp only at z1 z2 z3) | (refine Ok.bind (one_ok _ (by assumption) (by omega)) ?_; rintro ⟨zr, zo⟩ z1; dsimp only at z1) | (refine Ok.bind (of_ok _ (by decide) (by assumption) (by omega)) ?_; rintro ⟨zr, zo⟩ ⟨z1, z2⟩; dsimp only at z1 z2) | (refine Ok.cond (fun _ => ?_) (fun _ => ?_)))
    exact Ok.some ⟨Cur.mono (by assumption) (by omega), atomOk (by omega) (by omega) (by decide) (by decide), by assumption⟩
  refine Ok.cond (fun _ => ?_) (fun _ => ?_)
  · refine Ok.bind (Q := fun q => Cur (n + 4) q.2) ?_ ?_
    · exact Ok.cond (fun _ => Ok.mono (one_ok _ (by assumption) (by omega)) fun _ h => h) (fun _ => Ok.some (Cur.mono (by assumption) (by omega)))
    · rintro ⟨r, o⟩ h1
      refine Ok.cond (fun _ => ?_) (fun _ => ?_)
      · (first | (refine Ok.bind (pick_ok _ (by assumption) (by omega)) ?_; rintro ⟨zr, zo⟩ ⟨z1, z2, z3⟩; replace z3 := z3 (by omega); dsimp only at z1 z2 z3) | (refine Ok.bind (one_ok _ (by assumption) (by omega)) ?_; rintro ⟨zr, zo⟩ z1; dsimp only at z1) | (refine Ok.bind (of_ok _ (by decide) (by assumption) (by omega)) ?_; rintro ⟨zr, zo⟩ ⟨z1, z2⟩; dsimp only at z1 z2) | (refine Ok.cond (fun _ => ?_) (fun _ => ?_)))
        exact Ok.some ⟨Cur.mono (by assumption) (by omega), atomOk (by omega) (by omega) (by decide) (by decide), size_e⟩
      · exact Ok.some ⟨Cur.mono h1 (by omega), atomOk (by omega) (by omega) (by decide) (by decide), size_e⟩
  · exact Ok.some ⟨Cur.mono (by assumption) (by omega), atomOk (by omega) (by omega) (by decide) (by decide), size_e⟩

theorem wide_ok {n : Nat} {s : T_spec_l1Cur} (h : Cur n s) (hn : n + 9 < lim) : Ok (spec_l1Cur_wide s) fun q => Cur (n + 8) q.2 ∧ -9223372036854775808 ≤ q.1 ∧ q.1 ≤ 9223372036854775807 := by
  unfold spec_l1Cur_wide
  refine Ok.bind (Ok.loop (P := fun q => Cur (n + 8) q.1 ∧ -9223372036854775808 ≤ q.2 ∧ q.2 ≤ 9223372036854775807) (fun k q => k ≤ 8 ∧ q.2.2 = 8 - (k : Int) ∧ Cur (n + (8 - k)) q.1 ∧ -9223372036854775808 ≤ q.2.1 ∧ q.2.1 ≤ 9223372036854775807) ?_ (n := 8) ⟨by omega, by simp, h.mono (by omega), by simp, by simp⟩) ?_
  · rintro k ⟨b, v, i⟩ ⟨hk, hi, hc, g1, g2⟩
    dsimp only at hi hc g1 g2
    unfold spec_l1Cur_wide_l1
    refine Ok.cond (fun hd => ?_) (fun _ => Ok.some ⟨hc.mono (by omega), g1, g2⟩)
    have hlt := of_decide_eq_true hd
    refine Ok.bind (next_ok hc (by omega)) ?_
    rintro ⟨r, o⟩ ⟨h1, h2, h3⟩
    refine Ok.some ⟨k - 1, by omega, by omega, ?_, ?_, ?_⟩
    · show IntKind.i64.wrap (i + 1) = _
      rw [IntWalk.i64_in _ (by omega)]; omega
    · exact h1.mono (by omega)
    · exact wr _
  · rintro ⟨b, v⟩ hq
    exact Ok.some hq
theorem byS_size (l : List Int) : (byS l).size = l.length := by
  unfold byS
  have : ∀ (l : List Int) (b : ByteArray), (l.foldl (fun r n => r.push (UInt8.ofNat n.toNat)) b).size = b.size + l.length := by
    intro l
    induction l with
    | nil => intro b; simp
    | cons a l ih => intro b; rw [List.foldl_cons, ih]; simp [ByteArray.size_push]; omega
  rw [this]; simp
theorem idxS_ok {s : ByteArray} {i : Int} (h0 : 0 ≤ i) (h1 : i < (s.size : Int)) : Ok (idxS s i) fun b => 0 ≤ b ∧ b ≤ 255 := by
  have hl : i.toNat < s.data.toList.length := by have : s.data.toList.length = s.size := rfl; omega
  unfold idxS
  rw [if_pos h0, List.getElem?_eq_getElem hl]
  have := (s.data.toList[i.toNat]).toNat_lt
  refine Ok.some ⟨by dsimp only; omega, by dsimp only; omega⟩
theorem printed_ok {n : Nat} {s : T_spec_l1Cur} (h : Cur n s) (hn : n + 14 < lim) : Ok (spec_l1Cur_printed s) fun q => Cur (n + 12) q.2 ∧ q.1.size ≤ 1000 := by
  unfold spec_l1Cur_printed
  (first | (refine Ok.bind (pick_ok _ (by assumption) (by omega)) ?_; rintro ⟨zr, zo⟩ ⟨z1, z2, z3⟩; replace z3 := z3 (by omega); dsimp only at z1 z2 z3) | (refine Ok.bind (one_ok _ (by assumption) (by omega)) ?_; rintro ⟨zr, zo⟩ z1; dsimp only at z1) | (refine Ok.bind (of_ok _ (by decide) (by assumption) (by omega)) ?_; rintro ⟨zr, zo⟩ ⟨z1, z2⟩; dsimp only at z1 z2) | (refine Ok.cond (fun _ => ?_) (fun _ => ?_)))
  revert zr zo z1 z2 z3; intro r o h1 h2 h3
  refine Ok.bind (Ok.loop (P := fun q => Cur (n + 12) q.1 ∧ q.2.length ≤ 1000) (fun k q => k ≤ 5 ∧ q.2.2 = (k : Int) ∧ Cur (n + (12 - 2 * k)) q.1 ∧ q.2.1.length + k ≤ 5) ?_ (n := r.toNat) ⟨by omega, by simp; omega, h1.mono (by omega), by simp; omega⟩) ?_
  · rintro k ⟨b, l, i⟩ ⟨hk, hi, hc, g1⟩
    dsimp only at hi hc g1
    unfold spec_l1Cur_printed_l1
    refine Ok.cond (fun hd => ?_) (fun _ => Ok.some ⟨hc.mono (by omega), by dsimp only; omega⟩)
    have hlt := of_decide_eq_true hd
    refine Ok.bind (pick_ok _ hc (by omega)) ?_
    rintro ⟨r, o⟩ ⟨h1, h2, h3⟩
    replace h3 := h3 (by omega)
    dsimp only at h1 h2 h3
    refine Ok.bind (idxS_ok h2 (Int.lt_of_lt_of_le h3 (by decide))) ?_
    rintro b2 ⟨_, _⟩
    have ha : app l [b2] = some (l ++ [b2]) := by unfold app; rw [if_pos (by simp; omega)]
    rw [ha]
    refine Ok.some ⟨k - 1, by omega, by omega, ?_, h1.mono (by omega), by simp; omega⟩
    show IntKind.i64.wrap (i - 1) = _
    rw [IntWalk.i64_in _ (by omega)]; omega
  · rintro ⟨b, l⟩ ⟨q1, q2⟩
    exact Ok.some ⟨q1, by rw [byS_size]; exact q2⟩
theorem pow2_ok {a : Int} (h0 : 0 ≤ a) (h1 : a ≤ 62) : spec_l1Pow2 a = some (2 ^ a.toNat) := by
  have key : ∀ k : Nat, (k : Int) ≤ a → loopO (spec_l1Pow2_l1 a) (2 ^ (a.toNat - k), a - (k : Int)) = some (2 ^ a.toNat) := by
    intro k
    induction k with
    | zero =>
      intro _
      refine loopO_end ?_
      unfold spec_l1Pow2_l1
      dsimp only
      rw [show decide (a - ((0 : Nat) : Int) < a) = false from decide_eq_false (by omega)]
      simp
    | succ k ih =>
      intro hk
      have hp : (2 : Int) ^ (a.toNat - k) ≤ 2 ^ 62 := by exact_mod_cast Nat.pow_le_pow_right (by decide) (by omega)
      have hp0 : (0 : Int) < 2 ^ (a.toNat - k) := Int.pow_pos (by decide)
      have hs : (2 : Int) ^ (a.toNat - (k + 1)) * 2 = 2 ^ (a.toNat - k) := by rw [show a.toNat - k = (a.toNat - (k + 1)) + 1 by omega, Int.pow_succ]
      have hg : spec_l1Pow2_l1 a (2 ^ (a.toNat - (k + 1)), a - ((k + 1 : Nat) : Int)) = some (.inl (2 ^ (a.toNat - k), a - (k : Int))) := by
        unfold spec_l1Pow2_l1
        dsimp only
        rw [show decide (a - ((k + 1 : Nat) : Int) < a) = true from decide_eq_true (by omega)]
        dsimp only [cond_true]
        rw [hs, IntWalk.i64_in _ (by omega), IntWalk.i64_in _ (by omega)]
        rw [show a - ((k + 1 : Nat) : Int) + 1 = a - (k : Int) by omega]
      rw [loopO_go hg]
      exact ih (by omega)
  unfold spec_l1Pow2
  have := key a.toNat (by omega)
  rw [show a.toNat - a.toNat = 0 by omega, show a - (a.toNat : Int) = 0 by omega] at this
  rw [show ((1 : Int), (0 : Int)) = (2 ^ 0, 0) from rfl, this]
  rfl
theorem idx_ok {α : Type} {xs : List α} {i : Int} (h0 : 0 ≤ i) (h1 : i < (xs.length : Int)) : Ok (idx xs i) fun a => a ∈ xs := by
  have hl : i.toNat < xs.length := by omega
  unfold idx
  rw [if_pos h0, List.getElem?_eq_getElem hl]
  exact Ok.some (List.getElem_mem _)
theorem block_ok {n : Nat} {s : T_spec_l1Cur} (h : Cur n s) (hn : n + 10 < lim) : Ok (spec_l1Cur_block s) fun q => Cur (n + 10) q.2 ∧ AtomOk q.1 := by
  unfold spec_l1Cur_block
  (first | (refine Ok.bind (pick_ok _ (by assumption) (by omega)) ?_; rintro ⟨zr, zo⟩ ⟨z1, z2, z3⟩; replace z3 := z3 (by omega); dsimp only at z1 z2 z3) | (refine Ok.bind (one_ok _ (by assumption) (by omega)) ?_; rintro ⟨zr, zo⟩ z1; dsimp only at z1) | (refine Ok.bind (of_ok _ (by decide) (by assumption) (by omega)) ?_; rintro ⟨zr, zo⟩ ⟨z1, z2⟩; dsimp only at z1 z2) | (refine Ok.cond (fun _ => ?_) (fun _ => ?_)))
  refine Ok.bind (idx_ok (by assumption) (by assumption)) ?_
  intro e he
  (first | (refine Ok.bind (pick_ok _ (by assumption) (by omega)) ?_; rintro ⟨zr, zo⟩ ⟨z1, z2, z3⟩; replace z3 := z3 (by omega); dsimp only at z1 z2 z3) | (refine Ok.bind (one_ok _ (by assumption) (by omega)) ?_; rintro ⟨zr, zo⟩ z1; dsimp only at z1) | (refine Ok.bind (of_ok _ (by decide) (by assumption) (by omega)) ?_; rintro ⟨zr, zo⟩ ⟨z1, z2⟩; dsimp only at z1 z2) | (refine Ok.cond (fun _ => ?_) (fun _ => ?_)))
  refine Ok.bind (idx_ok (by assumption) (by assumption)) ?_
  intro e2 he2
  repeat' (first | (refine Ok.bind (pick_ok _ (by assumption) (by omega)) ?_; rintro ⟨zr, zo⟩ ⟨z1, z2, z3⟩; replace z3 := z3 (by omega); dsimp only at z1 z2 z3) | (refine Ok.bind (one_ok _ (by assumption) (by omega)) ?_; rintro ⟨zr, zo⟩ z1; dsimp only at z1) | (refine Ok.bind (of_ok _ (by decide) (by assumption) (by omega)) ?_; rintro ⟨zr, zo⟩ ⟨z1, z2⟩; dsimp only at z1 z2) | (refine Ok.cond (fun _ => ?_) (fun _ => ?_)))
  have hp : spec_l1Pow2 (IntKind.i64.wrap (32 - e)) = some (2 ^ (32 - e).toNat) := by
    have : e ∈ ([0, 8, 16, 24, 31, 32] : List Int) := he
    have he3 : 0 ≤ e ∧ e ≤ 32 := by
      simp only [List.mem_cons, List.not_mem_nil, or_false] at this
      omega
    rw [IntWalk.i64_in _ (by omega)]
    exact pow2_ok (by omega) (by omega)
  dsimp only
  rw [hp, Option.bind_some]
  have hz : nz (2 ^ (32 - e).toNat) = some (2 ^ (32 - e).toNat) := by
    unfold nz
    rw [if_neg (Int.ne_of_gt (Int.pow_pos (by decide)))]
  rw [hz, Option.bind_some]
  exact Ok.some ⟨Cur.mono (by assumption) (by omega), atomOk (wr _).1 (wr _).2 (by decide) (by decide)⟩
theorem atom_ok {n : Nat} {s : T_spec_l1Cur} (h : Cur n s) (hn : n + 20 < lim) : Ok (spec_l1Cur_atom s) fun q => Cur (n + 16) q.2 ∧ AtomOk q.1 := by
  unfold spec_l1Cur_atom
  repeat' (first
    | (first | (refine Ok.bind (pick_ok _ (by assumption) (by omega)) ?_; rintro ⟨zr, zo⟩ ⟨z1, z2, z3⟩; replace z3 := z3 (by omega); dsimp only at z1 z2 z3) | (refine Ok.bind (one_ok _ (by assumption) (by omega)) ?_; rintro ⟨zr, zo⟩ z1; dsimp only at z1) | (refine Ok.bind (of_ok _ (by decide) (by assumption) (by omega)) ?_; rintro ⟨zr, zo⟩ ⟨z1, z2⟩; dsimp only at z1 z2) | (refine Ok.cond (fun _ => ?_) (fun _ => ?_)))
    | (refine Ok.bind (wide_ok (by assumption) (by omega)) ?_; rintro ⟨r, o⟩ ⟨h1, h2, h3⟩; dsimp only at h1 h2 h3)
    | (refine Ok.bind (printed_ok (by assumption) (by omega)) ?_; rintro ⟨r, o⟩ ⟨h1, h2⟩; dsimp only at h1 h2)
    | (refine Ok.bind (block_ok (by assumption) (by omega)) ?_; rintro ⟨r, o⟩ ⟨h1, h2⟩; dsimp only at h1 h2))
  all_goals first
    | exact Ok.some ⟨Cur.mono (by assumption) (by omega), by assumption⟩
    | exact Ok.some ⟨Cur.mono (by assumption) (by omega), atomOk (by omega) (by omega) (by first | assumption | decide) (by first | assumption | decide)⟩
    | exact Ok.some ⟨Cur.mono (by assumption) (by omega), atomOk (wr _).1 (wr _).2 (by first | assumption | decide) (by first | assumption | decide)⟩
end Go.G36.ZL
