/- FnAbove, plain part: what is drawn. -/
import Derived.Test.YtnohlppnebcefaaGreatSPa
import Derived.Test.YtnohlppnebcefaaGreatAB
import Derived.Test.YtnohlppnebcefaaGreatAbAnc
namespace Go.G36.AB
set_option maxRecDepth 20000
set_option maxHeartbeats 2000000
set_option linter.unusedVariables false
set_option linter.unusedSimpArgs false
open Go Go.G36
def Cur (n : Nat) (s : T_spec_l1Cur) : Prop := 0 ≤ s.at_ ∧ s.at_ ≤ (n : Int) ∧ ∀ b, b ∈ s.code_ → 0 ≤ b ∧ b ≤ 255
abbrev lim : Nat := 1000000
theorem Cur.mono {n m : Nat} {s : T_spec_l1Cur} (h : Cur n s) (hm : n ≤ m) : Cur m s := ⟨h.1, by have := h.2.1; omega, h.2.2⟩
theorem u64_and (x : BitVec IntKind.u64.bits) : 0 ≤ IntKind.i64.wrap (IntKind.u64.wrap ((x &&& BitVec.ofInt IntKind.u64.bits 255).toNat : Int)) ∧ IntKind.i64.wrap (IntKind.u64.wrap ((x &&& BitVec.ofInt IntKind.u64.bits 255).toNat : Int)) ≤ 255 := by
  have h : (x &&& BitVec.ofInt IntKind.u64.bits 255).toNat ≤ 255 := by
    rw [BitVec.toNat_and]
    exact Nat.le_trans Nat.and_le_right (by decide)
  generalize (x &&& BitVec.ofInt IntKind.u64.bits 255).toNat = y at h
  rw [IntWalk.u64_in _ (by omega), IntWalk.i64_in _ (by omega)]
  omega
theorem next_ok {n : Nat} {s : T_spec_l1Cur} (h : Cur n s) (hn : n < lim) : Ok (spec_l1Cur_next s) fun q => Cur (n + 1) q.2 ∧ 0 ≤ q.1 ∧ q.1 ≤ 255 := by
  obtain ⟨h0, h1, h2⟩ := h
  unfold lim at hn
  have hw : IntKind.i64.wrap (s.at_ + 1) = s.at_ + 1 := IntWalk.i64_in _ (by omega)
  have j : ∀ v, 0 ≤ v → v ≤ 255 → Ok (spec_l1Cur_next_j1 s v) fun q => Cur (n + 1) q.2 ∧ 0 ≤ q.1 ∧ q.1 ≤ 255 := fun v v0 v1 => by
    unfold spec_l1Cur_next_j1
    rw [hw]
    cases decide (s.at_ + 1 ≤ (s.code_.length : Int)) with
    | true => exact ⟨_, rfl, ⟨by show 0 ≤ s.at_ + 1; omega, by show s.at_ + 1 ≤ _; omega, h2⟩, v0, v1⟩
    | false =>
      refine ⟨_, rfl, ⟨by show 0 ≤ s.at_ + 1; omega, by show s.at_ + 1 ≤ _; omega, h2⟩, ?_⟩
      exact u64_and _
  unfold spec_l1Cur_next
  cases hd : decide (s.at_ < (s.code_.length : Int)) with
  | false => exact j 0 (by omega) (by omega)
  | true =>
    have hlt := of_decide_eq_true hd
    have hx : s.code_[s.at_.toNat]? = some s.code_[s.at_.toNat] := by simp
    have hi : idx s.code_ s.at_ = some s.code_[s.at_.toNat] := by unfold idx; rw [if_pos h0, hx]
    have hb := h2 _ (List.getElem_mem (l := s.code_) (n := s.at_.toNat) (by omega))
    simp only [cond_true, hi, Option.bind_some]
    rw [IntWalk.i64_in _ (by omega)]
    exact j _ hb.1 hb.2
theorem pick_ok {n : Nat} {s : T_spec_l1Cur} (a : Int) (h : Cur n s) (hn : n + 1 < lim) : Ok (spec_l1Cur_pick a s) fun q => Cur (n + 2) q.2 ∧ 0 ≤ q.1 ∧ (1 ≤ a → q.1 < a) := by
  unfold spec_l1Cur_pick
  refine Ok.cond (fun ha => Ok.some ⟨h.mono (by omega), Int.le_refl _, fun h1 => h1⟩) fun ha => ?_
  have ha1 : ¬ a ≤ 1 := of_decide_eq_false ha
  have hnz : nz a = some a := by unfold nz; rw [if_neg (by omega)]
  have j : ∀ (v : Int) (o : T_spec_l1Cur), 0 ≤ v → Cur (n + 2) o → Ok (spec_l1Cur_pick_j1 a o v) fun q => Cur (n + 2) q.2 ∧ 0 ≤ q.1 ∧ (1 ≤ a → q.1 < a) := fun v o hv ho => by
    unfold spec_l1Cur_pick_j1
    rw [hnz]
    exact ⟨_, rfl, ho, Int.tmod_nonneg _ hv, fun _ => Int.tmod_lt_of_pos _ (by omega)⟩
  refine Ok.bind (next_ok h (by omega)) ?_
  rintro ⟨r, o⟩ ⟨h2, h3, h4⟩
  refine Ok.cond (fun _ => ?_) (fun _ => j r o h3 (h2.mono (by omega)))
  refine Ok.bind (next_ok h2 (by omega)) ?_
  rintro ⟨r2, o2⟩ ⟨g2, g3, g4⟩
  have h3' : 0 ≤ r := h3
  have h4' : r ≤ 255 := h4
  have g3' : 0 ≤ r2 := g3
  have g4' : r2 ≤ 255 := g4
  show Ok (spec_l1Cur_pick_j1 a o2 (IntKind.i64.wrap (IntKind.i64.wrap (r * 256) + r2))) _
  rw [IntWalk.i64_in (r * 256) (by omega), IntWalk.i64_in _ (by omega)]
  exact j _ o2 (by omega) g2
theorem one_ok {n : Nat} {s : T_spec_l1Cur} (a : Int) (h : Cur n s) (hn : n + 1 < lim) : Ok (spec_l1Cur_one a s) fun q => Cur (n + 2) q.2 := by
  unfold spec_l1Cur_one
  refine Ok.bind (pick_ok a h hn) ?_
  rintro ⟨r, o⟩ ⟨h2, h3, h4⟩
  exact Ok.some h2
theorem of_ok {n : Nat} {s : T_spec_l1Cur} (xs : List ByteArray) (hx : (!xs.isEmpty && xs.all fun x => decide (x.size ≤ 1000)) = true) (h : Cur n s) (hn : n + 1 < lim) : Ok (spec_l1Cur_of xs s) fun q => Cur (n + 2) q.2 ∧ q.1.size ≤ 1000 := by
  simp only [Bool.and_eq_true, Bool.not_eq_true', List.all_eq_true, decide_eq_true_eq] at hx
  have hl : 0 < xs.length := by
    cases xs with
    | nil => exact absurd hx.1 (by decide)
    | cons a l => simp
  unfold spec_l1Cur_of
  refine Ok.bind (pick_ok (xs.length : Int) h hn) ?_
  rintro ⟨r, o⟩ ⟨h2, h3, h4⟩
  have h3' : 0 ≤ r := h3
  have h5 : r < (xs.length : Int) := h4 (by omega)
  have hg : xs[r.toNat]? = some xs[r.toNat] := by simp
  have hi : idx xs r = some xs[r.toNat] := by unfold idx; rw [if_pos h3', hg]
  show Ok ((idx xs r).bind _) _
  rw [hi]
  exact Ok.some ⟨h2, hx.2 _ (List.getElem_mem _)⟩
structure AtomOk (a : T_impl_Atom) : Prop where
  lo : -9223372036854775808 ≤ a.Num_
  hi : a.Num_ ≤ 9223372036854775807
  text : a.Text_.size ≤ 1000
  type : a.Type_.size ≤ 1000
theorem wr (x : Int) : -9223372036854775808 ≤ IntKind.i64.wrap x ∧ IntKind.i64.wrap x ≤ 9223372036854775807 := by
  rw [IntKind.wrap_i64]; omega
theorem atomOk {k n : Int} {t u : ByteArray} (h1 : -9223372036854775808 ≤ n) (h2 : n ≤ 9223372036854775807) (h3 : t.size ≤ 1000) (h4 : u.size ≤ 1000) : AtomOk ⟨k, n, t, u⟩ := ⟨h1, h2, h3, h4⟩
theorem ref_eq (a b : ByteArray) : spec_l10Ref a b = some ⟨4, 0, b, a⟩ := rfl
attribute [local irreducible] spec_l1Cur_next spec_l1Cur_pick spec_l1Cur_one spec_l1Cur_of spec_l10Ref spec_l1Cur_thingRef spec_l1Cur_wide spec_l1Cur_printed spec_l1Pow2 spec_l1Cur_block spec_l1Cur_atom
theorem thingRef_ok {n : Nat} {s : T_spec_l1Cur} (h : Cur n s) (hn : n + 4 < lim) : Ok (spec_l1Cur_thingRef s) fun q => Cur (n + 4) q.2 ∧ AtomOk q.1 := by
  unfold spec_l1Cur_thingRef
  simp only [ref_eq, Option.bind_some]
  repeat' (first | (refine Ok.bind (pick_ok _ (by assumption) (by omega)) ?_; rintro ⟨zr, zo⟩ ⟨z1, z2, z3⟩; replace z3 := z3 (by omega); dsimp only at z1 z2 z3) | (refine Ok.bind (one_ok _ (by assumption) (by omega)) ?_; rintro ⟨zr, zo⟩ z1; dsimp only at z1) | (refine Ok.bind (of_ok _ (by decide) (by assumption) (by omega)) ?_; rintro ⟨zr, zo⟩ ⟨z1, z2⟩; dsimp only at z1 z2) | (refine Ok.cond (fun _ => ?_) (fun _ => ?_)))
  all_goals exact Ok.some ⟨Cur.mono (by assumption) (by omega), atomOk (by omega) (by omega) (by assumption) (by decide)⟩
theorem wide_ok {n : Nat} {s : T_spec_l1Cur} (h : Cur n s) (hn : n + 9 < lim) : Ok (spec_l1Cur_wide s) fun q => Cur (n + 8) q.2 ∧ -9223372036854775808 ≤ q.1 ∧ q.1 ≤ 9223372036854775807 := by
  unfold spec_l1Cur_wide
  refine Ok.bind (Ok.loop (P := fun q => Cur (n + 8) q.1 ∧ -9223372036854775808 ≤ q.2 ∧ q.2 ≤ 9223372036854775807) (fun k q => k ≤ 8 ∧ q.2.2 = 8 - (k : Int) ∧ Cur (n + (8 - k)) q.1 ∧ -9223372036854775808 ≤ q.2.1 ∧ q.2.1 ≤ 9223372036854775807) ?_ (n := 8) ⟨by omega, by simp, h.mono (by omega), by simp, by simp⟩) ?_
  · rintro k ⟨b, v, i⟩ ⟨hk, hi, hc, g1, g2⟩
    dsimp only at hi hc g1 g2
    unfold spec_l1Cur_wide_l1
    refine Ok.cond (fun hd => ?_) (fun _ => Ok.some ⟨hc.mono (by omega), g1, g2⟩)
    have hlt := of_decide_eq_true hd
    refine Ok.bind (next_ok hc (by omega)) ?_
    rintro ⟨r, o⟩ ⟨h1, h2, h3⟩
    refine Ok.some ⟨k - 1, by omega, by omega, ?_, ?_, ?_⟩
    · show IntKind.i64.wrap (i + 1) = _
      rw [IntWalk.i64_in _ (by omega)]; omega
    · exact h1.mono (by omega)
    · exact wr _
  · rintro ⟨b, v⟩ hq
    exact Ok.some hq
theorem byS_size (l : List Int) : (byS l).size = l.length := by
  unfold byS
  have : ∀ (l : List Int) (b : ByteArray), (l.foldl (fun r n => r.push (UInt8.ofNat n.toNat)) b).size = b.size + l.length := by
    intro l
    induction l with
    | nil => intro b; simp
    | cons a l ih => intro b; rw [List.foldl_cons, ih]; simp [ByteArray.size_push]; omega
  rw [this]; simp
theorem idxS_ok {s : ByteArray} {i : Int} (h0 : 0 ≤ i) (h1 : i < (s.size : Int)) : Ok (idxS s i) fun b => 0 ≤ b ∧ b ≤ 255 := by
  have hl : i.toNat < s.data.toList.length := by have : s.data.toList.length = s.size := rfl; omega
  unfold idxS
  rw [if_pos h0, List.getElem?_eq_getElem hl]
  have := (s.data.toList[i.toNat]).toNat_lt
  refine Ok.some ⟨by dsimp only; omega, by dsimp only; omega⟩
theorem printed_ok {n : Nat} {s : T_spec_l1Cur} (h : Cur n s) (hn : n + 14 < lim) : Ok (spec_l1Cur_printed s) fun q => Cur (n + 12) q.2 ∧ q.1.size ≤ 1000 := by
  unfold spec_l1Cur_printed
  (first | (refine Ok.bind (pick_ok _ (by assumption) (by omega)) ?_; rintro ⟨zr, zo⟩ ⟨z1, z2, z3⟩; replace z3 := z3 (by omega); dsimp only at z1 z2 z3) | (refine Ok.bind (one_ok _ (by assumption) (by omega)) ?_; rintro ⟨zr, zo⟩ z1; dsimp only at z1) | (refine Ok.bind (of_ok _ (by decide) (by assumption) (by omega)) ?_; rintro ⟨zr, zo⟩ ⟨z1, z2⟩; dsimp only at z1 z2) | (refine Ok.cond (fun _ => ?_) (fun _ => ?_)))
  revert zr zo z1 z2 z3; intro r o h1 h2 h3
  refine Ok.bind (Ok.loop (P := fun q => Cur (n + 12) q.1 ∧ q.2.length ≤ 1000) (fun k q => k ≤ 5 ∧ q.2.2 = (k : Int) ∧ Cur (n + (12 - 2 * k)) q.1 ∧ q.2.1.length + k ≤ 5) ?_ (n := r.toNat) ⟨by omega, by simp; omega, h1.mono (by omega), by simp; omega⟩) ?_
  · rintro k ⟨b, l, i⟩ ⟨hk, hi, hc, g1⟩
    dsimp only at hi hc g1
    unfold spec_l1Cur_printed_l1
    refine Ok.cond (fun hd => ?_) (fun _ => Ok.some ⟨hc.mono (by omega), by dsimp only; omega⟩)
    have hlt := of_decide_eq_true hd
    refine Ok.bind (pick_ok _ hc (by omega)) ?_
    rintro ⟨r, o⟩ ⟨h1, h2, h3⟩
    replace h3 := h3 (by omega)
    dsimp only at h1 h2 h3
    refine Ok.bind (idxS_ok h2 (Int.lt_of_lt_of_le h3 (by decide))) ?_
    rintro b2 ⟨_, _⟩
    have ha : app l [b2] = some (l ++ [b2]) := by unfold app; rw [if_pos (by simp; omega)]
    rw [ha]
    refine Ok.some ⟨k - 1, by omega, by omega, ?_, h1.mono (by omega), by simp; omega⟩
    show IntKind.i64.wrap (i - 1) = _
    rw [IntWalk.i64_in _ (by omega)]; omega
  · rintro ⟨b, l⟩ ⟨q1, q2⟩
    exact Ok.some ⟨q1, by rw [byS_size]; exact q2⟩
theorem pow2_ok {a : Int} (h0 : 0 ≤ a) (h1 : a ≤ 62) : spec_l1Pow2 a = some (2 ^ a.toNat) := by
  have key : ∀ k : Nat, (k : Int) ≤ a → loopO (spec_l1Pow2_l1 a) (2 ^ (a.toNat - k), a - (k : Int)) = some (2 ^ a.toNat) := by
    intro k
    induction k with
    | zero =>
      intro _
      refine loopO_end ?_
      unfold spec_l1Pow2_l1
      dsimp only
      rw [show decide (a - ((0 : Nat) : Int) < a) = false from decide_eq_false (by omega)]
      simp
    | succ k ih =>
      intro hk
      have hp : (2 : Int) ^ (a.toNat - k) ≤ 2 ^ 62 := by exact_mod_cast Nat.pow_le_pow_right (by decide) (by omega)
      have hp0 : (0 : Int) < 2 ^ (a.toNat - k) := Int.pow_pos (by decide)
      have hs : (2 : Int) ^ (a.toNat - (k + 1)) * 2 = 2 ^ (a.toNat - k) := by rw [show a.toNat - k = (a.toNat - (k + 1)) + 1 by omega, Int.pow_succ]
      have hg : spec_l1Pow2_l1 a (2 ^ (a.toNat - (k + 1)), a - ((k + 1 : Nat) : Int)) = some (.inl (2 ^ (a.toNat - k), a - (k : Int))) := by
        unfold spec_l1Pow2_l1
        dsimp only
        rw [show decide (a - ((k + 1 : Nat) : Int) < a) = true from decide_eq_true (by omega)]
        dsimp only [cond_true]
        rw [hs, IntWalk.i64_in _ (by omega), IntWalk.i64_in _ (by omega)]
        rw [show a - ((k + 1 : Nat) : Int) + 1 = a - (k : Int) by omega]
      rw [loopO_go hg]
      exact ih (by omega)
  unfold spec_l1Pow2
  have := key a.toNat (by omega)
  rw [show a.toNat - a.toNat = 0 by omega, show a - (a.toNat : Int) = 0 by omega] at this
  rw [show ((1 : Int), (0 : Int)) = (2 ^ 0, 0) from rfl, this]
  rfl
theorem idx_ok {α : Type} {xs : List α} {i : Int} (h0 : 0 ≤ i) (h1 : i < (xs.length : Int)) : Ok (idx xs i) fun a => a ∈ xs := by
  have hl : i.toNat < xs.length := by omega
  unfold idx
  rw [if_pos h0, List.getElem?_eq_getElem hl]
  exact Ok.some (List.getElem_mem _)
theorem block_ok {n : Nat} {s : T_spec_l1Cur} (h : Cur n s) (hn : n + 10 < lim) : Ok (spec_l1Cur_block s) fun q => Cur (n + 10) q.2 ∧ AtomOk q.1 := by
  unfold spec_l1Cur_block
  (first | (refine Ok.bind (pick_ok _ (by assumption) (by omega)) ?_; rintro ⟨zr, zo⟩ ⟨z1, z2, z3⟩; replace z3 := z3 (by omega); dsimp only at z1 z2 z3) | (refine Ok.bind (one_ok _ (by assumption) (by omega)) ?_; rintro ⟨zr, zo⟩ z1; dsimp only at z1) | (refine Ok.bind (of_ok _ (by decide) (by assumption) (by omega)) ?_; rintro ⟨zr, zo⟩ ⟨z1, z2⟩; dsimp only at z1 z2) | (refine Ok.cond (fun _ => ?_) (fun _ => ?_)))
  refine Ok.bind (idx_ok (by assumption) (by assumption)) ?_
  intro e he
  (first | (refine Ok.bind (pick_ok _ (by assumption) (by omega)) ?_; rintro ⟨zr, zo⟩ ⟨z1, z2, z3⟩; replace z3 := z3 (by omega); dsimp only at z1 z2 z3) | (refine Ok.bind (one_ok _ (by assumption) (by omega)) ?_; rintro ⟨zr, zo⟩ z1; dsimp only at z1) | (refine Ok.bind (of_ok _ (by decide) (by assumption) (by omega)) ?_; rintro ⟨zr, zo⟩ ⟨z1, z2⟩; dsimp only at z1 z2) | (refine Ok.cond (fun _ => ?_) (fun _ => ?_)))
  refine Ok.bind (idx_ok (by assumption) (by assumption)) ?_
  intro e2 he2
  repeat' (first | (refine Ok.bind (pick_ok _ (by assumption) (by omega)) ?_; rintro ⟨zr, zo⟩ ⟨z1, z2, z3⟩; replace z3 := z3 (by omega); dsimp only at z1 z2 z3) | (refine Ok.bind (one_ok _ (by assumption) (by omega)) ?_; rintro ⟨zr, zo⟩ z1; dsimp only at z1) | (refine Ok.bind (of_ok _ (by decide) (by assumption) (by omega)) ?_; rintro ⟨zr, zo⟩ ⟨z1, z2⟩; dsimp only at z1 z2) | (refine Ok.cond (fun _ => ?_) (fun _ => ?_)))
  have hp : spec_l1Pow2 (IntKind.i64.wrap (32 - e)) = some (2 ^ (32 - e).toNat) := by
    have : e ∈ ([0, 8, 16, 24, 31, 32] : List Int) := he
    have he3 : 0 ≤ e ∧ e ≤ 32 := by
      simp only [List.mem_cons, List.not_mem_nil, or_false] at this
      omega
    rw [IntWalk.i64_in _ (by omega)]
    exact pow2_ok (by omega) (by omega)
  dsimp only
  rw [hp, Option.bind_some]
  have hz : nz (2 ^ (32 - e).toNat) = some (2 ^ (32 - e).toNat) := by
    unfold nz
    rw [if_neg (Int.ne_of_gt (Int.pow_pos (by decide)))]
  rw [hz, Option.bind_some]
  exact Ok.some ⟨Cur.mono (by assumption) (by omega), atomOk (wr _).1 (wr _).2 (by decide) (by decide)⟩
theorem atom_ok {n : Nat} {s : T_spec_l1Cur} (h : Cur n s) (hn : n + 20 < lim) : Ok (spec_l1Cur_atom s) fun q => Cur (n + 16) q.2 ∧ AtomOk q.1 := by
  unfold spec_l1Cur_atom
  repeat' (first
    | (first | (refine Ok.bind (pick_ok _ (by assumption) (by omega)) ?_; rintro ⟨zr, zo⟩ ⟨z1, z2, z3⟩; replace z3 := z3 (by omega); dsimp only at z1 z2 z3) | (refine Ok.bind (one_ok _ (by assumption) (by omega)) ?_; rintro ⟨zr, zo⟩ z1; dsimp only at z1) | (refine Ok.bind (of_ok _ (by decide) (by assumption) (by omega)) ?_; rintro ⟨zr, zo⟩ ⟨z1, z2⟩; dsimp only at z1 z2) | (refine Ok.cond (fun _ => ?_) (fun _ => ?_)))
    | (refine Ok.bind (wide_ok (by assumption) (by omega)) ?_; rintro ⟨r, o⟩ ⟨h1, h2, h3⟩; dsimp only at h1 h2 h3)
    | (refine Ok.bind (printed_ok (by assumption) (by omega)) ?_; rintro ⟨r, o⟩ ⟨h1, h2⟩; dsimp only at h1 h2)
    | (refine Ok.bind (block_ok (by assumption) (by omega)) ?_; rintro ⟨r, o⟩ ⟨h1, h2⟩; dsimp only at h1 h2))
  all_goals first
    | exact Ok.some ⟨Cur.mono (by assumption) (by omega), by assumption⟩
    | exact Ok.some ⟨Cur.mono (by assumption) (by omega), atomOk (by omega) (by omega) (by first | assumption | decide) (by first | assumption | decide)⟩
    | exact Ok.some ⟨Cur.mono (by assumption) (by omega), atomOk (wr _).1 (wr _).2 (by first | assumption | decide) (by first | assumption | decide)⟩
theorem oddAtom_ok {n : Nat} {s : T_spec_l1Cur} {a : T_impl_Atom} (ha : AtomOk a) (h : Cur n s) (hn : n + 4 < lim) : Ok (spec_l1Cur_oddAtom a s) fun q => Cur (n + 4) q.2 ∧ AtomOk q.1 := by
  unfold spec_l1Cur_oddAtom
  have hp : spec_l1Pow2 32 = some 4294967296 := by rw [pow2_ok (by decide) (by decide)]; rfl
  simp only [hp, Option.bind_some]
  (first | (refine Ok.bind (pick_ok _ (by assumption) (by omega)) ?_; rintro ⟨zr, zo⟩ ⟨z1, z2, z3⟩; replace z3 := z3 (by omega); dsimp only at z1 z2 z3) | (refine Ok.bind (one_ok _ (by assumption) (by omega)) ?_; rintro ⟨zr, zo⟩ z1; dsimp only at z1) | (refine Ok.bind (of_ok _ (by decide) (by assumption) (by omega)) ?_; rintro ⟨zr, zo⟩ ⟨z1, z2⟩; dsimp only at z1 z2) | (refine Ok.cond (fun _ => ?_) (fun _ => ?_)))
  refine Ok.cond (fun _ => ?_) (fun _ => Ok.cond (fun _ => ?_) (fun _ => Ok.cond (fun _ => ?_) (fun _ => Ok.cond (fun _ => ?_) (fun _ => Ok.cond (fun _ => ?_) (fun _ => ?_)))))
  · (first | (refine Ok.bind (pick_ok _ (by assumption) (by omega)) ?_; rintro ⟨zr, zo⟩ ⟨z1, z2, z3⟩; replace z3 := z3 (by omega); dsimp only at z1 z2 z3) | (refine Ok.bind (one_ok _ (by assumption) (by omega)) ?_; rintro ⟨zr, zo⟩ z1; dsimp only at z1) | (refine Ok.bind (of_ok _ (by decide) (by assumption) (by omega)) ?_; rintro ⟨zr, zo⟩ ⟨z1, z2⟩; dsimp only at z1 z2) | (refine Ok.cond (fun _ => ?_) (fun _ => ?_)))
    exact Ok.some ⟨Cur.mono (by assumption) (by omega), ha.lo, ha.hi, ha.text, ha.type⟩
  · (first | (refine Ok.bind (pick_ok _ (by assumption) (by omega)) ?_; rintro ⟨zr, zo⟩ ⟨z1, z2, z3⟩; replace z3 := z3 (by omega); dsimp only at z1 z2 z3) | (refine Ok.bind (one_ok _ (by assumption) (by omega)) ?_; rintro ⟨zr, zo⟩ z1; dsimp only at z1) | (refine Ok.bind (of_ok _ (by decide) (by assumption) (by omega)) ?_; rintro ⟨zr, zo⟩ ⟨z1, z2⟩; dsimp only at z1 z2) | (refine Ok.cond (fun _ => ?_) (fun _ => ?_)))
    refine Ok.bind (idx_ok (by assumption) (by assumption)) ?_
    intro e he
    have he2 : -9223372036854775808 ≤ e ∧ e ≤ 9223372036854775807 := by
      simp only [List.mem_cons, List.not_mem_nil, or_false] at he
      rcases he with rfl | rfl | rfl | rfl | rfl | rfl | rfl
      all_goals first | omega | exact wr _
    exact Ok.some ⟨Cur.mono (by assumption) (by omega), he2.1, he2.2, ha.text, ha.type⟩
  · (first | (refine Ok.bind (pick_ok _ (by assumption) (by omega)) ?_; rintro ⟨zr, zo⟩ ⟨z1, z2, z3⟩; replace z3 := z3 (by omega); dsimp only at z1 z2 z3) | (refine Ok.bind (one_ok _ (by assumption) (by omega)) ?_; rintro ⟨zr, zo⟩ z1; dsimp only at z1) | (refine Ok.bind (of_ok _ (by decide) (by assumption) (by omega)) ?_; rintro ⟨zr, zo⟩ ⟨z1, z2⟩; dsimp only at z1 z2) | (refine Ok.cond (fun _ => ?_) (fun _ => ?_)))
    exact Ok.some ⟨Cur.mono (by assumption) (by omega), ha.lo, ha.hi, by assumption, ha.type⟩
  · (first | (refine Ok.bind (pick_ok _ (by assumption) (by omega)) ?_; rintro ⟨zr, zo⟩ ⟨z1, z2, z3⟩; replace z3 := z3 (by omega); dsimp only at z1 z2 z3) | (refine Ok.bind (one_ok _ (by assumption) (by omega)) ?_; rintro ⟨zr, zo⟩ z1; dsimp only at z1) | (refine Ok.bind (of_ok _ (by decide) (by assumption) (by omega)) ?_; rintro ⟨zr, zo⟩ ⟨z1, z2⟩; dsimp only at z1 z2) | (refine Ok.cond (fun _ => ?_) (fun _ => ?_)))
    exact Ok.some ⟨Cur.mono (by assumption) (by omega), ha.lo, ha.hi, ha.text, by assumption⟩
  · (first | (refine Ok.bind (pick_ok _ (by assumption) (by omega)) ?_; rintro ⟨zr, zo⟩ ⟨z1, z2, z3⟩; replace z3 := z3 (by omega); dsimp only at z1 z2 z3) | (refine Ok.bind (one_ok _ (by assumption) (by omega)) ?_; rintro ⟨zr, zo⟩ z1; dsimp only at z1) | (refine Ok.bind (of_ok _ (by decide) (by assumption) (by omega)) ?_; rintro ⟨zr, zo⟩ ⟨z1, z2⟩; dsimp only at z1 z2) | (refine Ok.cond (fun _ => ?_) (fun _ => ?_)))
    revert zr zo z1 z2 z3; intro r o h1 h2 h3
    dsimp only
    rw [IntWalk.i64_in _ (by omega)]
    have hmk : mk (0 : Int) (199 + r) = some (List.replicate (199 + r).toNat 0) := by
      unfold mk
      rw [if_pos (by omega)]
    rw [hmk, Option.bind_some]
    refine Ok.bind (Ok.loop (P := fun l => l.length = (199 + r).toNat) (fun k q => q.1.length = (199 + r).toNat ∧ k ≤ (199 + r).toNat ∧ q.2 = ((199 + r).toNat : Int) - (k : Int)) ?_ (n := (199 + r).toNat) ⟨by simp, by omega, by simp⟩) ?_
    · rintro k ⟨l, v⟩ ⟨q1, q2, q3⟩
      dsimp only at q1 q3
      unfold spec_l1Cur_oddAtom_l1
      simp only [List.length_replicate]
      refine Ok.cond (fun hd => ?_) (fun _ => Ok.some q1)
      have hlt := of_decide_eq_true hd
      refine Ok.bind (idx_ok (by omega) (by omega)) ?_
      intro e he
      refine Ok.some ⟨k - 1, by omega, by simp [q1], by omega, ?_⟩
      show IntKind.i64.wrap (v + 1) = _
      rw [IntWalk.i64_in _ (by omega)]; omega
    · intro l hl
      exact Ok.some ⟨Cur.mono (by assumption) (by omega), ha.lo, ha.hi, by show (byS l).size ≤ 1000; rw [byS_size, hl]; omega, ha.type⟩
  · exact Ok.some ⟨Cur.mono (by assumption) (by omega), ha⟩
end Go.G36.AB
/- FnAbove, plain part: names, atoms: both say the same. -/
namespace Go.G36.AB
set_option maxRecDepth 20000
set_option maxHeartbeats 2000000
set_option linter.unusedVariables false
set_option linter.unusedSimpArgs false
open Go Go.G36
theorem cond_none_some {α : Type} (c : Bool) (u v : α) : cond c (some u) (some v) = some (cond c u v) := by cases c <;> rfl
def Both {α : Type} (x y : Option α) : Prop := ∃ v, x = some v ∧ y = some v
theorem Both.of {α : Type} {x y : Option α} {P : α → Prop} (h : Ok x P) (e : y = x) : Both x y := by
  obtain ⟨v, hv, _⟩ := h
  exact ⟨v, hv, e.trans hv⟩
theorem idxS_get {s : ByteArray} {v : Nat} (h : v < s.size) : ∃ b : Int, idxS s (v : Int) = some b ∧ 0 ≤ b ∧ b ≤ 255 := by
  obtain ⟨b, h1, h2⟩ := idxS_ok (s := s) (i := (v : Int)) (by omega) (by omega)
  exact ⟨b, h1, h2⟩
theorem text_loop {R : Type} {s : ByteArray} {step : Int → Option (Int ⊕ R)} (hsz : s.size ≤ 1000)
    (h : ∀ (v : Nat), v < s.size → Ok (step (v : Int)) fun x => match x with | .inl s' => s' = (v : Int) + 1 | .inr _ => True) (he : Ok (step (s.size : Int)) fun x => match x with | .inl _ => False | .inr _ => True) : Ok (loopO step 0) fun _ => True := by
  refine Ok.loop (fun k q => k ≤ s.size ∧ q = (s.size : Int) - (k : Int)) ?_ (n := s.size) ⟨by omega, by simp⟩
  rintro k q ⟨hk, rfl⟩
  rcases Nat.eq_zero_or_pos k with rfl | hpos
  · rw [show (s.size : Int) - ((0 : Nat) : Int) = (s.size : Int) by omega]
    refine Ok.mono he fun r hr => ?_
    cases r with
    | inl s' => exact hr.elim
    | inr r => trivial
  · have := h (s.size - k) (by omega)
    rw [show ((s.size - k : Nat) : Int) = (s.size : Int) - (k : Int) by omega] at this
    refine Ok.mono this fun r hr => ?_
    cases r with
    | inl s' => exact ⟨k - 1, by omega, by omega, by rw [hr]; omega⟩
    | inr r => trivial
theorem decT {p : Prop} [Decidable p] (h : p) : decide p = true := decide_eq_true h
theorem decF {p : Prop} [Decidable p] (h : ¬ p) : decide p = false := decide_eq_false h
theorem ws {v n : Nat} (h : v < n) (hn : n ≤ 1000000) : IntKind.i64.wrap ((v : Int) + 1) = (v : Int) + 1 := IntWalk.i64_in _ (by omega)
theorem word_eq (b : Int) : impl_ywordByte b = some ((((decide (b ≥ 97) && decide (b ≤ 122)) || (decide (b ≥ 65) && decide (b ≤ 90))) || (decide (b ≥ 48) && decide (b ≤ 57))) || (b == 95)) := by
  simp only [impl_ywordByte, impl_yletter, impl_ydigit, Option.bind_some, gdO_some]
  cases (decide (b ≥ 97) && decide (b ≤ 122)) || (decide (b ≥ 65) && decide (b ≤ 90)) <;> simp
theorem printed_l1_eq (t : ByteArray) : spec_l1Printed_l1 t = impl_yprinted_l1 t := rfl
theorem printed_loop {t : ByteArray} (h : t.size ≤ 1000) : Ok (loopO (impl_yprinted_l1 t) 0) fun _ => True := by
  refine text_loop h (fun v hv => ?_) ?_
  · obtain ⟨b, hb, h0, h1⟩ := idxS_get hv
    unfold impl_yprinted_l1
    dsimp only
    rw [decT (by omega : (v : Int) < (t.size : Int)), cond_true, hb, Option.bind_some]
    rw [gdO_some, Option.bind_some, ws hv (by omega)]
    exact Ok.cond (fun _ => Ok.some trivial) (fun _ => Ok.some rfl)
  · unfold impl_yprinted_l1
    dsimp only
    rw [decF (by omega : ¬ (t.size : Int) < (t.size : Int)), cond_false]
    exact Ok.some trivial
theorem printed_both {t : ByteArray} (h : t.size ≤ 1000) : ∃ p, spec_l1Printed t = some p ∧ ∀ lo hi, impl_yprinted t lo hi = some (!(decide ((t.size : Int) < lo) || decide ((t.size : Int) > hi)) && p) := by
  obtain ⟨q, hq, _⟩ := printed_loop h
  cases q with
  | inl u =>
    refine ⟨true, by unfold spec_l1Printed; rw [printed_l1_eq, hq]; rfl, fun lo hi => ?_⟩
    unfold impl_yprinted
    rw [hq]
    cases decide ((t.size : Int) < lo) || decide ((t.size : Int) > hi) <;> rfl
  | inr u =>
    refine ⟨u, by unfold spec_l1Printed; rw [printed_l1_eq, hq]; rfl, fun lo hi => ?_⟩
    unfold impl_yprinted
    rw [hq]
    cases decide ((t.size : Int) < lo) || decide ((t.size : Int) > hi) <;> rfl
theorem name_l1_eq (t : ByteArray) : spec_GoodName_l1 t = impl_GoodName_l1 t := by
  funext v
  unfold spec_GoodName_l1 impl_GoodName_l1
  dsimp only
  cases hi : idxS t v with
  | none => rfl
  | some b =>
    simp only [Option.bind_some, gdO_some, spec_l1Letter, spec_l1Digit, word_eq]
    cases (decide (b ≥ 97) && decide (b ≤ 122)) || (decide (b ≥ 65) && decide (b ≤ 90)) <;> cases hb : (decide (b ≥ 48) && decide (b ≤ 57)) <;> cases hc : (b == 95) <;> simp [hb, hc, bne]
theorem empty_iff (t : ByteArray) : (t.toList == (ByteArray.mk #[]).toList) = decide ((t.size : Int) < 1) := by
  have h : (ByteArray.mk #[]).toList = [] := by rw [ByteArray.toList_eq]
  rw [h]
  have h2 : t.toList.length = t.size := by rw [ByteArray.toList_eq]; rfl
  cases ht : t.toList with
  | nil => rw [ht] at h2; simp at h2; simp [← h2]
  | cons a l => rw [ht] at h2; simp at h2; rw [decF (by omega)]; rfl
theorem name_loop {t : ByteArray} (h : t.size ≤ 1000) : Ok (loopO (impl_GoodName_l1 t) 0) fun _ => True := by
  refine text_loop h (fun v hv => ?_) ?_
  · obtain ⟨b, hb, h0, h1⟩ := idxS_get hv
    unfold impl_GoodName_l1
    dsimp only
    rw [decT (by omega : (v : Int) < (t.size : Int)), cond_true, hb, Option.bind_some, word_eq, Option.bind_some, ws hv (by omega)]
    exact Ok.cond (fun _ => Ok.some trivial) (fun _ => Ok.some rfl)
  · unfold impl_GoodName_l1
    dsimp only
    rw [decF (by omega : ¬ (t.size : Int) < (t.size : Int)), cond_false]
    exact Ok.some trivial
theorem name_both {t : ByteArray} (h : t.size ≤ 1000) : Both (impl_GoodName t) (spec_GoodName t) := by
  obtain ⟨q, hq, _⟩ := name_loop h
  unfold Both
  unfold impl_GoodName spec_GoodName
  rw [empty_iff, name_l1_eq, hq]
  cases hc : decide ((t.size : Int) < 1) || decide ((t.size : Int) > 30) with
  | true => exact ⟨false, rfl, rfl⟩
  | false =>
    simp only [Bool.or_eq_false_iff, decide_eq_false_iff_not] at hc
    obtain ⟨b, hb, _⟩ := idxS_get (s := t) (v := 0) (by omega)
    have hb : idxS t 0 = some b := hb
    simp only [hb, Bool.not_false, gdO, cond_true, Option.bind_some, impl_ydigit, spec_l1Digit, Bool.false_or]
    cases (decide (b ≥ 48) && decide (b ≤ 57)) with
    | true => exact ⟨false, rfl, rfl⟩
    | false =>
      cases q with
      | inl u => exact ⟨true, rfl, rfl⟩
      | inr u => exact ⟨u, rfl, rfl⟩
theorem addr_both {a : T_impl_Atom} (h : AtomOk a) (hk : a.Kind_ = 6) : Both (impl_GoodAtom a) (spec_GoodAtom a) := by
  have hlo := h.lo
  have hhi := h.hi
  have hp : spec_l1Pow2 32 = some 4294967296 := by rw [pow2_ok (by decide) (by decide)]; rfl
  unfold Both impl_GoodAtom impl_GoodAtom_j1 spec_GoodAtom spec_GoodAtom_j1
  simp only [hk, hp]
  simp only [show ((6 : Int) == 1) = false from rfl, show ((6 : Int) == 2) = false from rfl, show ((6 : Int) == 3) = false from rfl, show ((6 : Int) == 4) = false from rfl, show ((6 : Int) == 5) = false from rfl, show ((6 : Int) == 6) = true from rfl,
    show ((6 : Int) != 3) = true from rfl, show ((6 : Int) != 4) = true from rfl, cond_true, cond_false, Bool.true_and, Bool.and_true, Bool.true_and]
  cases hte : (a.Text_.toList == (ByteArray.mk #[]).toList) with
  | false => exact ⟨false, rfl, rfl⟩
  | true =>
    cases hty : (a.Type_.toList == (ByteArray.mk #[]).toList) with
    | false => exact ⟨false, rfl, rfl⟩
    | true =>
      simp only [Bool.and_self, Bool.not_true, Bool.or_self, Bool.false_or, cond_false, gdO_some, Option.bind_some]
      cases hn : decide (a.Num_ < 0) with
      | true => exact ⟨false, rfl, rfl⟩
      | false =>
        have hn0 := of_decide_eq_false hn
        have e1 : IntKind.i64.wrap (Int.tdiv a.Num_ 64) = a.Num_ / 64 := by
          rw [Int.tdiv_eq_ediv_of_nonneg (by omega)]
          exact IntWalk.i64_in _ (by omega)
        have e2 : Int.tmod a.Num_ 64 = a.Num_ % 64 := Int.tmod_eq_emod_of_nonneg (by omega)
        have e3 : IntKind.i64.wrap (32 - a.Num_ % 64) = 32 - a.Num_ % 64 := IntWalk.i64_in _ (by omega)
        have e4 : IntKind.i64.wrap ((4294967296 : Int) - 1) = 4294967295 := by decide
        have e5 : cond (!false) (4294967296 : Int) default = 4294967296 := rfl
        simp only [e1, e2, e3, cond_false, Bool.false_or, e5, e4]
        cases hc : (decide (a.Num_ % 64 ≤ 32) && decide (a.Num_ / 64 < 4294967296)) with
        | false =>
          refine ⟨false, rfl, ?_⟩
          have : (decide (a.Num_ / 64 > 4294967295) || decide (a.Num_ % 64 > 32)) = true := by
            simp only [Bool.and_eq_false_iff, decide_eq_false_iff_not] at hc
            simp only [Bool.or_eq_true, decide_eq_true_eq]
            omega
          rw [this]
          rfl
        | true =>
          simp only [Bool.and_eq_true, decide_eq_true_eq] at hc
          have : (decide (a.Num_ / 64 > 4294967295) || decide (a.Num_ % 64 > 32)) = false := by
            simp only [Bool.or_eq_false_iff, decide_eq_false_iff_not]
            omega
          rw [this]
          unfold spec_l1Block
          simp only [e1, e2, e3, cond_false]
          rw [pow2_ok (by omega) (by omega)]
          have hpos : (0 : Int) < 2 ^ (32 - a.Num_ % 64).toNat := Int.pow_pos (by decide)
          have hle : (2 : Int) ^ (32 - a.Num_ % 64).toNat ≤ 2 ^ 32 := by exact_mod_cast Nat.pow_le_pow_right (by decide) (by omega)
          have e6 : IntKind.i64.wrap (1 * 2 ^ (min (Int.toNat (32 - a.Num_ % 64)) IntKind.i64.bits)) = 2 ^ (32 - a.Num_ % 64).toNat := by
            have hb : IntKind.i64.bits = 64 := rfl
            rw [hb, Nat.min_eq_left (by omega), Int.one_mul]
            exact IntWalk.i64_in _ (by omega)
          have hnz : nz ((2 : Int) ^ (32 - a.Num_ % 64).toNat) = some (2 ^ (32 - a.Num_ % 64).toNat) := by unfold nz; rw [if_neg (by omega)]
          have hnn : nn (32 - a.Num_ % 64) = some () := by unfold nn; rw [if_pos (by omega)]
          simp only [e6, hnz, hnn, gdO, cond_true, Option.bind_some, Bool.true_and]
          exact ⟨_, rfl, rfl⟩
theorem atom_both {a : T_impl_Atom} (h : AtomOk a) : Both (impl_GoodAtom a) (spec_GoodAtom a) := by
  by_cases hk6 : a.Kind_ = 6
  · exact addr_both h hk6
  obtain ⟨p, hp1, hp2⟩ := printed_both h.text
  obtain ⟨nv, hn1, hn2⟩ := name_both h.type
  unfold Both impl_GoodAtom impl_GoodAtom_j1 spec_GoodAtom spec_GoodAtom_j1
  rw [show (a.Kind_ == 6) = false from by simpa using hk6]
  simp only [hp1, hp2, hn1, hn2, gdO_some, Option.bind_some, cond_none_some, cond_false, Option.some.injEq, exists_eq_left']
  have g1 : decide ((a.Text_.size : Int) ≥ 1) = !decide ((a.Text_.size : Int) < 1) := by
    by_cases h : (a.Text_.size : Int) < 1
    · rw [decT h, decF (by omega)]; rfl
    · rw [decF h, decT (by omega)]; rfl
  have g2 : decide ((a.Text_.size : Int) ≤ 200) = !decide ((a.Text_.size : Int) > 200) := by
    by_cases h : (a.Text_.size : Int) > 200
    · rw [decT h, decF (by omega)]; rfl
    · rw [decF h, decT (by omega)]; rfl
  have g3 : decide ((a.Text_.size : Int) < 0) = false := decF (by omega)
  rw [g1, g2, g3]
  generalize (a.Text_.toList == (ByteArray.mk #[]).toList) = te
  generalize (a.Type_.toList == (ByteArray.mk #[]).toList) = ty
  generalize decide ((a.Text_.size : Int) < 1) = s1
  generalize decide ((a.Text_.size : Int) > 200) = s2
  generalize decide (a.Num_ ≥ -100000000000) = n1
  generalize decide (a.Num_ ≤ 100000000000) = n2
  generalize (a.Num_ == 0) = z
  generalize (a.Num_ == 1) = z1
  have hd : (default : Bool) = false := rfl
  rw [hd]
  clear hp1 hp2 hn1 hn2 g1 g2 g3 hd
  by_cases k1 : a.Kind_ = 1
  · rw [k1]; revert te ty s1 s2 n1 n2 z z1 p nv; decide
  by_cases k2 : a.Kind_ = 2
  · rw [k2]; revert te ty s1 s2 n1 n2 z z1 p nv; decide
  by_cases k3 : a.Kind_ = 3
  · rw [k3]; revert te ty s1 s2 n1 n2 z z1 p nv; decide
  by_cases k4 : a.Kind_ = 4
  · rw [k4]; revert te ty s1 s2 n1 n2 z z1 p nv; decide
  by_cases k5 : a.Kind_ = 5
  · rw [k5]; revert te ty s1 s2 n1 n2 z z1 p nv; decide
  by_cases k7 : a.Kind_ = 7
  · rw [k7]; revert te ty s1 s2 n1 n2 z z1 p nv; decide
  have bF : ∀ {i : Int}, ¬ a.Kind_ = i → (a.Kind_ == i) = false := fun h => by simpa using h
  simp only [bne, bF k1, bF k2, bF k3, bF k4, bF k5, bF k7]
  cases te <;> cases ty <;> rfl
end Go.G36.AB
/- FnAbove, plain part: loops in closed form; texts in order. -/
namespace Go.G36.AB
set_option maxRecDepth 20000
set_option maxHeartbeats 2000000
set_option linter.unusedVariables false
set_option linter.unusedSimpArgs false
open Go Go.G36
def big : Nat := 9223372036854775807
def outU {R : Type} : Option R → Unit ⊕ R
  | some r => .inr r
  | none => .inl ()
theorem size_data (a : ByteArray) : a.data.toList.length = a.size := Array.length_toList
def sgn (a b : Int) : Int := if a < b then -1 else if a > b then 1 else 0
theorem cmpNum_eq (a b : Int) : spec_l1CmpNum a b = some (sgn a b) := by
  unfold spec_l1CmpNum sgn
  by_cases h : a < b
  · simp [h]
  · by_cases h2 : a > b <;> simp [h, h2]
def cmpB : List UInt8 → List UInt8 → Int
  | a :: x, b :: y => if a = b then cmpB x y else sgn (a.toNat : Int) (b.toNat : Int)
  | x, y => sgn (x.length : Int) (y.length : Int)
theorem cmpB_neg : ∀ (x y : List UInt8), cmpB x y < 0 ↔ Op.bytesLess x y = true
  | [], [] => by simp [cmpB, sgn, Op.bytesLess]
  | [], b :: y => by
    have : (0 : Int) < ((b :: y).length : Int) := by simp
    have e : cmpB [] (b :: y) = -1 := by
      show sgn (([] : List UInt8).length : Int) ((b :: y).length : Int) = -1
      unfold sgn; rw [if_pos (by simp)]
    rw [e]; simp [Op.bytesLess]
  | a :: x, [] => by
    have e : cmpB (a :: x) [] = 1 := by
      show sgn ((a :: x).length : Int) (([] : List UInt8).length : Int) = 1
      unfold sgn
      rw [if_neg (by simp; omega), if_pos (by simp)]
    rw [e]; simp [Op.bytesLess]
  | a :: x, b :: y => by
    have hc : cmpB (a :: x) (b :: y) = if a = b then cmpB x y else sgn (a.toNat : Int) (b.toNat : Int) := by simp only [cmpB]
    rw [hc]
    by_cases h : a = b
    · subst h
      have : ¬ a < a := UInt8.lt_irrefl a
      rw [if_pos rfl, cmpB_neg x y]
      simp [Op.bytesLess, this]
    · rw [if_neg h]
      unfold sgn
      have h2 : (a == b) = false := by simpa using h
      by_cases hl : a < b
      · have : (a.toNat : Int) < (b.toNat : Int) := by have := UInt8.lt_iff_toNat_lt.1 hl; omega
        rw [if_pos this]
        simp [Op.bytesLess, hl]
      · have h1 : ¬ (a.toNat : Int) < (b.toNat : Int) := fun h => hl (UInt8.lt_iff_toNat_lt.2 (by omega))
        rw [if_neg h1]
        simp only [Op.bytesLess, hl, decide_false, h2, Bool.false_and, Bool.or_false]
        split <;> simp
theorem cmpB_less (x y : List UInt8) : decide (cmpB x y ≥ 0) = !(Op.bytesLess x y) := by
  have := cmpB_neg x y
  cases h : Op.bytesLess x y with
  | true => rw [h] at this; have := this.2 rfl; simp; omega
  | false => rw [h] at this; have : ¬ cmpB x y < 0 := fun e => by cases this.1 e
             simp; omega
theorem byte_lt (b : UInt8) : (b.toNat : Int) < 256 := by have := b.toNat_lt; omega
theorem cmpText_eq (a b : ByteArray) (ha : a.size < big) (hb : b.size < big) : spec_l1CmpText a b = some (cmpB a.data.toList b.data.toList) := by
  unfold big at ha hb
  have hla := size_data a
  have hlb := size_data b
  let zs := a.data.toList.zip b.data.toList
  have hz : zs.length = min a.size b.size := by show (List.zip _ _).length = _; rw [List.length_zip, hla, hlb]
  have h := loop_first zs (spec_l1CmpText_l1 a b) (fun _ e => if e.1 = e.2 then none else some (sgn (e.1.toNat : Int) (e.2.toNat : Int))) outU (fun i c hc => by
    have hi := (List.getElem?_eq_some_iff.1 hc).1
    obtain ⟨c1, c2⟩ := c
    have hcc : a.data.toList[i]? = some c1 ∧ b.data.toList[i]? = some c2 := by
      have := hc
      simp only [zs, List.getElem?_zip_eq_some] at this
      exact this
    have hx := idxS_nat hcc.1
    have hy := idxS_nat hcc.2
    simp only [spec_l1CmpText_l1, show decide ((i : Int) < (a.size : Int)) = true from decide_eq_true (by omega), show decide ((i : Int) < (b.size : Int)) = true from decide_eq_true (by omega), Bool.and_self, cond_true, hx, hy, Option.bind_some,
      wrap_succ (i := i) (by omega), IntWalk.i64_in (c1.toNat : Int) (by have := byte_lt c1; omega), IntWalk.i64_in (c2.toNat : Int) (by have := byte_lt c2; omega), cmpNum_eq]
    by_cases e : c1 = c2
    · subst e; simp [outU]
    · have : ((c1.toNat : Int) != (c2.toNat : Int)) = true := by
        simp only [bne_iff_ne, ne_eq]
        intro h
        exact e (UInt8.toNat_inj.1 (by omega))
      simp [e, this, outU]) (by
    simp only [spec_l1CmpText_l1]
    have : (decide ((zs.length : Int) < (a.size : Int)) && decide ((zs.length : Int) < (b.size : Int))) = false := by
      rw [hz]
      simp only [Bool.and_eq_false_iff, decide_eq_false_iff_not]
      omega
    rw [this]; rfl) zs.length 0 (by omega)
  simp only [List.drop_zero] at h
  have key : ∀ (x y : List UInt8) (i : Nat), cmpB x y = (match firstG (fun (_ : Nat) (e : UInt8 × UInt8) => if e.1 = e.2 then none else some (sgn (e.1.toNat : Int) (e.2.toNat : Int))) (x.zip y) i with | some r => r | none => sgn (x.length : Int) (y.length : Int)) := by
    intro x
    induction x with
    | nil => intro y i; cases y <;> simp [cmpB, firstG]
    | cons p x ih =>
      intro y i
      cases y with
      | nil => simp [cmpB, firstG]
      | cons q y =>
        simp only [List.zip_cons_cons, firstG, cmpB]
        by_cases e : p = q
        · rw [if_pos e, if_pos e]
          simp only
          rw [ih y (i + 1)]
          cases firstG _ (x.zip y) (i + 1) with
          | some r => rfl
          | none =>
            simp only [sgn, List.length_cons]
            have e1 : ((x.length : Int) < (y.length : Int)) ↔ (((x.length + 1 : Nat) : Int) < ((y.length + 1 : Nat) : Int)) := by omega
            have e2 : ((x.length : Int) > (y.length : Int)) ↔ (((x.length + 1 : Nat) : Int) > ((y.length + 1 : Nat) : Int)) := by omega
            simp only [e1, e2]
        · rw [if_neg e, if_neg e]
  rw [key a.data.toList b.data.toList 0, hla, hlb]
  unfold spec_l1CmpText
  rw [show ((0 : Int)) = ((0 : Nat) : Int) from rfl, h]
  rw [show a.data.toList.zip b.data.toList = zs from rfl]
  generalize firstG (fun (_ : Nat) (e : UInt8 × UInt8) => if e.1 = e.2 then none else some (sgn (e.1.toNat : Int) (e.2.toNat : Int))) zs 0 = F
  cases F with
  | some r => simp [outU]
  | none => simp [outU, cmpNum_eq]
theorem loop_find {α R : Type} (xs : List α) (step : Int → Option (Int ⊕ (Unit ⊕ R))) (p : α → Bool) (out : α → R)
    (hs : ∀ (i : Nat) (a : α), xs[i]? = some a → step (i : Int) = some (cond (p a) (.inr (.inr (out a))) (.inl ((i : Int) + 1)))) (he : step (xs.length : Int) = some (.inr (.inl ()))) :
    loopO step 0 = some (match xs.find? p with | some a => .inr (out a) | none => .inl ()) := by
  have h := loop_first xs step (fun _ a => cond (p a) (some (out a)) none) (fun o => match o with | some r => .inr r | none => .inl ()) (fun i a ha => by
    rw [hs i a ha]
    cases p a <;> rfl) he xs.length 0 (by omega)
  simp only [List.drop_zero] at h
  have key : ∀ (l : List α) (i : Nat), firstG (fun _ a => cond (p a) (some (out a)) none) l i = (l.find? p).map out := by
    intro l
    induction l with
    | nil => intro i; rfl
    | cons a r ih =>
      intro i
      rw [firstG, List.find?_cons]
      cases hb : p a with
      | true => rfl
      | false => simpa using ih (i + 1)
  rw [show ((0 : Int)) = ((0 : Nat) : Int) from rfl, h, key]
  cases xs.find? p <;> rfl
def allI {α : Type} (b : Nat → α → Bool) : List α → Nat → Bool
  | [], _ => true
  | a :: r, i => b i a && allI b r (i + 1)
theorem loop_allI {α : Type} (xs : List α) (step : Int → Option (Int ⊕ (Unit ⊕ Bool))) (b : Nat → α → Bool)
    (hs : ∀ (i : Nat) (a : α), xs[i]? = some a → step (i : Int) = some (cond (b i a) (.inl ((i : Int) + 1)) (.inr (.inr false)))) (he : step (xs.length : Int) = some (.inr (.inl ()))) :
    loopO step 0 = some (cond (allI b xs 0) (.inl ()) (.inr false)) := by
  have h := loop_first xs step (fun i a => cond (b i a) none (some false)) outU (fun i a ha => by
    rw [hs i a ha]
    cases b i a <;> rfl) he xs.length 0 (by omega)
  simp only [List.drop_zero] at h
  have key : ∀ (l : List α) (i : Nat), firstG (fun i a => cond (b i a) none (some false)) l i = cond (allI b l i) none (some false) := by
    intro l
    induction l with
    | nil => intro i; rfl
    | cons a r ih =>
      intro i
      rw [firstG, allI]
      cases hb : b i a with
      | true => simpa using ih (i + 1)
      | false => rfl
  rw [show ((0 : Int)) = ((0 : Nat) : Int) from rfl, h, key]
  cases allI b xs 0 <;> rfl
theorem ltn {i n : Nat} (h : i < n) : decide ((i : Int) < (n : Int)) = true := decide_eq_true (by omega)
theorem gtz {i : Nat} (h : 0 < i) : decide ((i : Int) > 0) = true := decide_eq_true (by omega)
theorem pre {i : Nat} (h : 0 < i) (hb : i < 9223372036854775807) : IntKind.i64.wrap ((i : Int) - 1) = ((i - 1 : Nat) : Int) := by rw [IntWalk.i64_in _ (by omega)]; omega
theorem index_any {α : Type} (xs : List α) (step : Int → Option (Int ⊕ (Unit ⊕ Int))) (p : α → Bool) (hs : ∀ (i : Nat) (a : α), xs[i]? = some a → step (i : Int) = some (cond (p a) (.inr (.inr (i : Int))) (.inl ((i : Int) + 1))))
    (he : step (xs.length : Int) = some (.inr (.inl ()))) : ((loopO step 0).bind fun q8 => (match q8 with | .inl _ => some (-1) | .inr q2 => some q2)).bind (fun r1 => some (decide (r1 ≥ 0))) = some (xs.any p) := by
  have h := loop_first xs step (fun i a => cond (p a) (some (i : Int)) none) outU (fun i a ha => by
    rw [hs i a ha]
    cases p a <;> rfl) he xs.length 0 (by omega)
  simp only [List.drop_zero] at h
  have key : ∀ (l : List α) (i : Nat), (firstG (fun i a => cond (p a) (some (i : Int)) none) l i = none ∧ l.any p = false) ∨ ∃ j : Nat, firstG (fun i a => cond (p a) (some (i : Int)) none) l i = some (j : Int) ∧ l.any p = true := by
    intro l
    induction l with
    | nil => intro i; exact .inl ⟨rfl, rfl⟩
    | cons a r ih =>
      intro i
      rw [firstG, List.any_cons]
      cases hb : p a with
      | true => exact .inr ⟨i, by simp⟩
      | false => simpa using ih (i + 1)
  rw [show ((0 : Int)) = ((0 : Nat) : Int) from rfl, h]
  rcases key xs 0 with ⟨k1, k2⟩ | ⟨j, k1, k2⟩
  · rw [k1, k2]; simp [outU]
  · rw [k1, k2]; simp [outU]
end Go.G36.AB
/- FnAbove, plain part: atoms in order, both ways told; rows that are strictly in order. -/
namespace Go.G36.AB
set_option maxRecDepth 20000
set_option maxHeartbeats 2000000
set_option linter.unusedVariables false
set_option linter.unusedSimpArgs false
open Go Go.G36 Go.G36.AbAnc

theorem cmp_num (a b : Int) : cmp_Compare a b = some (cmpN a b) := by
  unfold cmp_Compare cmp_isNaN cmpN
  have h : ∀ x : Int, (x != x) = false := fun x => by simp
  simp only [h, Option.bind_some, cond_false]
  by_cases h1 : a < b
  · simp [h1]
  · by_cases h2 : a > b <;> simp [h1, h2]
theorem cmp_str (a b : ByteArray) : cmp_Comparex a b = some (cmpS a b) := by
  unfold cmp_Comparex cmp_isNaNx cmpS
  have h : ∀ x : ByteArray, (!(x.toList == x.toList)) = false := fun x => by simp
  simp only [h, Option.bind_some, cond_false]
  cases h1 : Op.bytesLess a.toList b.toList with
  | true => simp
  | false => cases h2 : (a.toList == b.toList) <;> simp
theorem cmp_or (a b c d : Int) : cmp_Or [a, b, c, d] = some (orI a (orI b (orI c d))) := by
  unfold cmp_Or
  have hl := loop_find (α := Int) (R := Int) [a, b, c, d] (cmp_Or_l1 [a, b, c, d]) (fun x => x != 0) (fun x => x) (fun i x hx => by
    have hi := (List.getElem?_eq_some_iff.1 hx).1
    unfold cmp_Or_l1
    dsimp only
    rw [ltn hi, cond_true, idx_nat, hx, Option.bind_some, wrap_succ (by simp at hi; omega)]
    cases x != 0 <;> rfl) (by
    unfold cmp_Or_l1
    dsimp only
    rw [show decide ((([a, b, c, d] : List Int).length : Int) < (([a, b, c, d] : List Int).length : Int)) = false from decide_eq_false (by omega)]
    rfl)
  rw [hl]
  unfold orI
  simp only [List.find?_cons, List.find?_nil, show ∀ x : Int, (x != 0) = decide (x ≠ 0) from fun x => by by_cases h : x = 0 <;> simp [h]]
  by_cases h1 : a = 0 <;> by_cases h2 : b = 0 <;> by_cases h3 : c = 0 <;> by_cases h4 : d = 0 <;> simp [h1, h2, h3, h4]
theorem impl_cmp (a b : T_impl_Atom) : impl_ycmpAtom a b = some (cmpA a b) := by
  unfold impl_ycmpAtom
  simp only [cmp_num, cmp_str, Option.bind_some, cmp_or]
  rfl

theorem sgn_zero (a b : Int) : sgn a b = 0 ↔ a = b := by unfold sgn; (repeat' split) <;> omega
theorem cmpB_zero : ∀ (x y : List UInt8), cmpB x y = 0 ↔ x = y
  | [], [] => by simp [cmpB, sgn]
  | [], b :: y => by
    have e : cmpB [] (b :: y) = sgn (([] : List UInt8).length : Int) ((b :: y).length : Int) := rfl
    rw [e, sgn_zero]; simp; omega
  | a :: x, [] => by
    have e : cmpB (a :: x) [] = sgn ((a :: x).length : Int) (([] : List UInt8).length : Int) := rfl
    rw [e, sgn_zero]; simp; omega
  | a :: x, b :: y => by
    have hc : cmpB (a :: x) (b :: y) = if a = b then cmpB x y else sgn (a.toNat : Int) (b.toNat : Int) := by simp only [cmpB]
    rw [hc]
    by_cases h : a = b
    · subst h; rw [if_pos rfl, cmpB_zero x y]; simp
    · rw [if_neg h, sgn_zero]
      constructor
      · intro e; exact absurd (UInt8.toNat_inj.1 (by omega)) h
      · intro e; injection e with e _; exact absurd e h
/-- Two numbers of one sign. -/
def Sg (a b : Int) : Prop := (a < 0 ↔ b < 0) ∧ (a = 0 ↔ b = 0)
theorem Sg.or {a b c d : Int} (h : Sg a b) (k : Sg c d) : Sg (orI a c) (orI b d) := by
  unfold orI
  by_cases ha : a = 0
  · rw [if_neg (by simpa using ha), if_neg (by simpa using h.2.1 ha)]; exact k
  · rw [if_pos ha, if_pos (fun e => ha (h.2.2 e))]; exact h
theorem Sg.str {a b : ByteArray} : Sg (cmpB a.data.toList b.data.toList) (cmpS a b) := by
  refine ⟨?_, ?_⟩
  · rw [cmpB_neg, cmpS_neg, bl_eq, decide_eq_true_iff, Lib.toList_data, Lib.toList_data]
  · rw [cmpB_zero, cmpS_zero, Lib.toList_data, Lib.toList_data]
theorem spec_cmp {a b : T_impl_Atom} (ha : AtomOk a) (hb : AtomOk b) : ∃ c, spec_l1Cmp a b = some c ∧ Sg c (cmpA a b) := by
  refine ⟨orI (sgn a.Kind_ b.Kind_) (orI (sgn a.Num_ b.Num_) (orI (cmpB a.Type_.data.toList b.Type_.data.toList) (cmpB a.Text_.data.toList b.Text_.data.toList))), ?_, ?_⟩
  · unfold spec_l1Cmp
    have h1 := ha.text; have h2 := ha.type; have h3 := hb.text; have h4 := hb.type
    rw [cmpNum_eq, cmpNum_eq, cmpText_eq _ _ (by unfold big; omega) (by unfold big; omega), cmpText_eq _ _ (by unfold big; omega) (by unfold big; omega)]
    simp only [Option.bind_some]
    have key : ∀ (x y : Int) (o : Option Int), o = some y → cond (x != 0) (some x) o = some (orI x y) := fun x y o ho => by
      unfold orI
      by_cases hx : x = 0
      · subst hx; simpa using ho
      · rw [if_pos hx, show (x != 0) = true from bne_iff_ne.2 hx]; rfl
    exact key _ _ _ (key _ _ _ (key _ _ _ rfl))
  · exact Sg.or ⟨Iff.rfl, Iff.rfl⟩ (Sg.or ⟨Iff.rfl, Iff.rfl⟩ (Sg.or Sg.str Sg.str))

/-- Strictly in order. -/
def Inc (l : List T_impl_Atom) : Prop := l.Pairwise fun a b => cmpA a b < 0
theorem Inc.eq : ∀ {l m : List T_impl_Atom}, Inc l → Inc m → (∀ x, x ∈ l ↔ x ∈ m) → l = m
  | [], [], _, _, _ => rfl
  | [], b :: m, _, _, h => absurd ((h b).2 List.mem_cons_self) List.not_mem_nil
  | a :: l, [], _, _, h => absurd ((h a).1 List.mem_cons_self) List.not_mem_nil
  | a :: l, b :: m, hl, hm, h => by
    have hl' := List.pairwise_cons.1 hl
    have hm' := List.pairwise_cons.1 hm
    have hne : ∀ x y : T_impl_Atom, cmpA x y < 0 → x ≠ y := fun x y e k => by subst k; rw [cmpA_ok.refl] at e; omega
    have hab : a = b := by
      rcases List.mem_cons.1 ((h a).1 List.mem_cons_self) with e | e
      · exact e
      · rcases List.mem_cons.1 ((h b).2 List.mem_cons_self) with k | k
        · exact k.symm
        · have h1 := hm'.1 a e
          have h2 := hl'.1 b k
          have := (cmpA_ok.anti a b).1 h2
          omega
    subst hab
    congr 1
    refine Inc.eq hl'.2 hm'.2 fun x => ⟨fun hx => ?_, fun hx => ?_⟩
    · rcases List.mem_cons.1 ((h x).1 (List.mem_cons_of_mem _ hx)) with e | e
      · exact absurd e.symm (hne _ _ (hl'.1 x hx))
      · exact e
    · rcases List.mem_cons.1 ((h x).2 (List.mem_cons_of_mem _ hx)) with e | e
      · exact absurd e.symm (hne _ _ (hm'.1 x hx))
      · exact e
theorem inc_sort {xs : List T_impl_Atom} (hn : xs.Nodup) : Inc (xs.mergeSort leA) := by
  have h1 := List.pairwise_mergeSort leA_trans leA_total xs
  have h2 : (xs.mergeSort leA).Nodup := (List.mergeSort_perm xs leA).nodup_iff.2 hn
  refine (List.Pairwise.and h1 h2).imp ?_
  rintro a b ⟨h, k⟩
  have := leA_iff.1 h
  have : cmpA a b ≠ 0 := fun e => k (cmpA_zero e)
  omega
end Go.G36.AB
/- FnAbove, plain part: the reference's sort. -/
namespace Go.G36.AB
set_option maxRecDepth 20000
set_option maxHeartbeats 2000000
set_option linter.unusedVariables false
set_option linter.unusedSimpArgs false
open Go Go.G36 Go.G36.AbAnc

theorem idxN {α : Type} {xs : List α} {i : Nat} (h : i < xs.length) : idx xs (i : Int) = some xs[i] := by rw [idx_nat, List.getElem?_eq_getElem h]
/-- Going down to where an atom belongs. -/
theorem place {l : List T_impl_Atom} {e : T_impl_Atom} (hl : ∀ x, x ∈ l → AtomOk x) (he : AtomOk e) (hb : l.length ≤ 4000000) : Ok (loopO (spec_l1Sorted_l2 l e) (l.length : Int)) fun v => ∃ k : Nat, v = (k : Int) ∧ k ≤ l.length ∧ (∀ (i : Nat) (h : i < l.length), k ≤ i → 0 < cmpA l[i] e) ∧ (∀ h : 0 < k ∧ k - 1 < l.length, cmpA l[k - 1] e ≤ 0) := by
  refine Ok.loop (fun n v => v = (n : Int) ∧ n ≤ l.length ∧ ∀ (i : Nat) (h : i < l.length), n ≤ i → 0 < cmpA l[i] e) ?_ (n := l.length) ⟨rfl, Nat.le_refl _, fun i h1 h2 => by omega⟩
  rintro n v ⟨rfl, hn, hgt⟩
  unfold spec_l1Sorted_l2
  dsimp only
  rcases Nat.eq_zero_or_pos n with rfl | hpos
  · rw [show decide (((0 : Nat) : Int) > 0) = false from decide_eq_false (by omega)]
    refine Ok.some ⟨0, rfl, Nat.zero_le _, hgt, fun h => by omega⟩
  · rw [show decide ((n : Int) > 0) = true from decide_eq_true (by omega), pre hpos (by omega), idxN (show n - 1 < l.length by omega)]
    simp only [gdO, cond_true, Option.bind_some]
    obtain ⟨c, h1, h2, h3⟩ := spec_cmp (hl _ (List.getElem_mem (show n - 1 < l.length by omega))) he
    rw [h1, Option.bind_some, Bool.true_and]
    refine Ok.cond (fun hc => ?_) (fun hc => ?_)
    · have := of_decide_eq_true hc
      refine Ok.some ⟨n - 1, by omega, rfl, by omega, fun i hi hni => ?_⟩
      by_cases hin : i = n - 1
      · subst hin; omega
      · exact hgt i hi (by omega)
    · have := of_decide_eq_false hc
      exact Ok.some ⟨n, rfl, hn, hgt, fun h => by omega⟩
/-- The elements behind are moved up. -/
theorem shift {l : List T_impl_Atom} {e : T_impl_Atom} {k : Nat} (hk : k ≤ l.length) (hb : l.length ≤ 4000000) : Ok (loopO (spec_l1Sorted_l3 (k : Int)) (l ++ [e], (l.length : Int))) fun r => r.length = l.length + 1 ∧ r.set k e = l.take k ++ e :: l.drop k := by
  refine Ok.loop (fun n q => q.2 = ((k + n : Nat) : Int) ∧ k + n ≤ l.length ∧ q.1.length = l.length + 1 ∧ (∀ i, i < k + n → q.1[i]? = l[i]?) ∧ ∀ i, k + n < i → i ≤ l.length → q.1[i]? = l[i - 1]?) ?_ (n := l.length - k) ⟨by show (l.length : Int) = _; omega, by omega, by simp, fun i hi => by rw [List.getElem?_append_left (by omega)], fun i h1 h2 => by omega⟩
  rintro n ⟨r, v⟩ ⟨hv, hn, hr, h1, h2⟩
  dsimp only at hv hr h1 h2
  subst hv
  unfold spec_l1Sorted_l3
  dsimp only
  rcases Nat.eq_zero_or_pos n with rfl | hpos
  · rw [show decide (((k + 0 : Nat) : Int) > (k : Int)) = false from decide_eq_false (by omega)]
    refine Ok.some ⟨hr, ?_⟩
    apply List.ext_getElem?
    intro i
    by_cases hik : i = k
    · subst hik
      rw [List.getElem?_set_self (by omega), List.getElem?_append_right (by simp; omega)]
      simp [Nat.min_eq_left hk]
    · rw [List.getElem?_set_ne (Ne.symm hik)]
      by_cases hlt : i < k
      · rw [h1 i (by omega), List.getElem?_append_left (by simp; omega), List.getElem?_take_of_lt hlt]
      · rw [List.getElem?_append_right (by simp; omega), List.length_take, Nat.min_eq_left hk, show i - k = (i - k - 1) + 1 by omega, List.getElem?_cons_succ, List.getElem?_drop, show k + (i - k - 1) = i - 1 by omega]
        by_cases hil : i ≤ l.length
        · exact h2 i (by omega) hil
        · rw [List.getElem?_eq_none (by omega), List.getElem?_eq_none (by omega)]
  · rw [show decide (((k + n : Nat) : Int) > (k : Int)) = true from decide_eq_true (by omega), cond_true, pre (show 0 < k + n by omega) (by omega), idxN (show k + n - 1 < r.length by omega), Option.bind_some, idxN (show k + n < r.length by omega), Option.bind_some]
    refine Ok.some ⟨n - 1, by omega, by show ((k + n - 1 : Nat) : Int) = _; omega, by omega, by simpa using hr, fun i hi => ?_, fun i hi1 hi2 => ?_⟩
    · show (r.set _ _)[i]? = _
      rw [List.getElem?_set_ne (by omega)]
      exact h1 i (by omega)
    · show (r.set _ _)[i]? = _
      by_cases hin : i = k + n
      · subst hin
        rw [show Int.toNat ((k + n : Nat) : Int) = k + n by omega, List.getElem?_set_self (by omega)]
        rw [← List.getElem?_eq_getElem (show k + n - 1 < r.length by omega)]
        exact h1 _ (by omega)
      · rw [List.getElem?_set_ne (by omega)]
        exact h2 i (by omega) hi2
theorem inc_put {l : List T_impl_Atom} {e : T_impl_Atom} {k : Nat} (hl : Inc l) (hk : k ≤ l.length) (h1 : ∀ (i : Nat) (h : i < l.length), k ≤ i → 0 < cmpA l[i] e) (h2 : ∀ (i : Nat) (h : i < l.length), i < k → cmpA l[i] e < 0) : Inc (l.take k ++ e :: l.drop k) := by
  unfold Inc at *
  rw [List.pairwise_append, List.pairwise_cons]
  refine ⟨hl.sublist (List.take_sublist _ _), ⟨fun x hx => ?_, hl.sublist (List.drop_sublist _ _)⟩, fun x hx y hy => ?_⟩
  · obtain ⟨i, hi, rfl⟩ := List.mem_iff_getElem.1 hx
    rw [List.getElem_drop]
    exact (cmpA_ok.anti _ _).2 (h1 _ (by simp at hi; omega) (by omega))
  · obtain ⟨i, hi, rfl⟩ := List.mem_iff_getElem.1 hx
    have hi : i < k ∧ i < l.length := by simp at hi; omega
    have hxe : cmpA (l.take k)[i] e < 0 := by
      rw [List.getElem_take]
      exact h2 i hi.2 hi.1
    rcases List.mem_cons.1 hy with rfl | hy
    · exact hxe
    · obtain ⟨j, hj, rfl⟩ := List.mem_iff_getElem.1 hy
      rw [List.getElem_drop, List.getElem_take]
      simp at hj
      exact List.pairwise_iff_getElem.1 hl i (k + j) hi.2 (by omega) (by omega)
theorem sorted_ok {xs : List T_impl_Atom} (hx : ∀ x, x ∈ xs → AtomOk x) (hb : xs.length ≤ 2000000) : Ok (spec_l1Sorted xs) fun ys => Inc ys ∧ ∀ x, x ∈ ys ↔ x ∈ xs := by
  unfold spec_l1Sorted
  refine Ok.bind (Ok.loop (P := fun ys => Inc ys ∧ ∀ x, x ∈ ys ↔ x ∈ xs) (fun n q => n ≤ xs.length ∧ q.2 = ((xs.length - n : Nat) : Int) ∧ q.1.length ≤ xs.length - n ∧ Inc q.1 ∧ ∀ x, x ∈ q.1 ↔ x ∈ xs.take (xs.length - n)) ?_ (n := xs.length) ⟨Nat.le_refl _, by simp, by simp, by exact List.Pairwise.nil, by simp⟩) fun ys hys => Ok.some hys
  rintro n ⟨l, v⟩ ⟨hn, hv, hll, hinc, hmem⟩
  dsimp only at hv hll hinc hmem
  subst hv
  unfold spec_l1Sorted_l1
  dsimp only
  rcases Nat.eq_zero_or_pos n with rfl | hpos
  · rw [show decide (((xs.length - 0 : Nat) : Int) < (xs.length : Int)) = false from decide_eq_false (by omega)]
    exact Ok.some ⟨hinc, fun x => by rw [hmem x]; simp⟩
  · have hi : xs.length - n < xs.length := by omega
    rw [ltn hi, cond_true, idxN hi, Option.bind_some]
    generalize he : xs[xs.length - n] = e
    have heo : AtomOk e := he ▸ hx _ (List.getElem_mem hi)
    have hlo : ∀ x, x ∈ l → AtomOk x := fun x h => hx x (List.mem_of_mem_take ((hmem x).1 h))
    have htk : xs.take (xs.length - (n - 1)) = xs.take (xs.length - n) ++ [e] := by
      rw [show xs.length - (n - 1) = (xs.length - n) + 1 by omega, List.take_succ_eq_append_getElem hi, he]
    obtain ⟨v, hv, k, rfl, hk, hgt, hle⟩ := place hlo heo (by omega)
    rw [hv, Option.bind_some]
    have hw : IntKind.i64.wrap (((xs.length - n : Nat) : Int) + 1) = ((xs.length - (n - 1) : Nat) : Int) := by rw [IntWalk.i64_in _ (by omega)]; omega
    have lower : 0 < k → cmpA l[k - 1]! e < 0 → ∀ (i : Nat) (h : i < l.length), i < k → cmpA l[i] e < 0 := fun hk0 hlt i hil hik => by
      rw [getElem!_pos l (k - 1) (by omega)] at hlt
      by_cases hik1 : i = k - 1
      · subst hik1; exact hlt
      · exact cmpA_ok.trans _ _ _ (List.pairwise_iff_getElem.1 hinc i (k - 1) hil (by omega) (by omega)) hlt
    have put : (∀ (i : Nat) (h : i < l.length), i < k → cmpA l[i] e < 0) → Ok ((app l ([e] : List T_impl_Atom)).bind fun l13 => (loopO (spec_l1Sorted_l3 (k : Int)) (l13, (IntKind.i64.wrap ((l13.length : Int) - 1)))).bind fun l17 => ((idx l17 (k : Int)).bind fun e18 => (some (.inl ((l17.set (Int.toNat (k : Int)) e), (IntKind.i64.wrap (((xs.length - n : Nat) : Int) + 1)))) : Option ((List T_impl_Atom × Int) ⊕ List T_impl_Atom))))
        (fun (x : (List T_impl_Atom × Int) ⊕ List T_impl_Atom) => match x with | .inl s' => ∃ m, m < n ∧ (m ≤ xs.length ∧ s'.2 = ((xs.length - m : Nat) : Int) ∧ s'.1.length ≤ xs.length - m ∧ Inc s'.1 ∧ ∀ x, x ∈ s'.1 ↔ x ∈ xs.take (xs.length - m)) | .inr r => Inc r ∧ ∀ x, x ∈ r ↔ x ∈ xs) := fun hlow => by
      rw [app_get (by simp; omega), Option.bind_some]
      have hw2 : IntKind.i64.wrap (((l ++ [e]).length : Int) - 1) = (l.length : Int) := by
        rw [IntWalk.i64_in _ (by simp; omega)]; simp
      rw [hw2]
      obtain ⟨r, hr, hrl, hrs⟩ := shift (e := e) hk (by omega)
      rw [hr, Option.bind_some]
      rw [idxN (show k < r.length by omega), Option.bind_some]
      refine Ok.some ⟨n - 1, by omega, by omega, hw, ?_, ?_, fun x => ?_⟩
      · show (r.set _ _).length ≤ _
        rw [List.length_set]; omega
      · show Inc (r.set (Int.toNat (k : Int)) e)
        rw [Int.toNat_natCast, hrs]
        exact inc_put hinc hk hgt hlow
      · show x ∈ r.set (Int.toNat (k : Int)) e ↔ _
        rw [Int.toNat_natCast, hrs, htk, List.mem_append, List.mem_cons, List.mem_append, ← hmem x, List.mem_singleton]
        have : x ∈ l ↔ x ∈ l.take k ∨ x ∈ l.drop k := by rw [← List.mem_append, List.take_append_drop]
        rw [this]
        constructor
        · rintro (h | h | h)
          · exact .inl (.inl h)
          · exact .inr h
          · exact .inl (.inr h)
        · rintro ((h | h) | h)
          · exact .inl h
          · exact .inr (.inr h)
          · exact .inr (.inl h)
    rcases Nat.eq_zero_or_pos k with rfl | hk0
    · rw [show decide (((0 : Nat) : Int) > 0) = false from decide_eq_false (by omega)]
      simp only [gdO, cond_false, Option.bind_some, Bool.false_and]
      refine Ok.mono (put fun i h hi => by omega) fun x hx => ?_
      cases x <;> exact hx
    · rw [show decide ((k : Int) > 0) = true from decide_eq_true (by omega), pre hk0 (by omega), idxN (show k - 1 < l.length by omega)]
      simp only [gdO, cond_true, Option.bind_some, Bool.true_and]
      obtain ⟨c, c1, c2, c3⟩ := spec_cmp (hlo _ (List.getElem_mem (show k - 1 < l.length by omega))) heo
      rw [c1, Option.bind_some]
      have hle' := hle ⟨hk0, by omega⟩
      refine Ok.cond (fun hc => ?_) (fun hc => ?_)
      · have hz : c = 0 := by simpa using hc
        have hze := cmpA_zero (c3.1 hz)
        refine Ok.some ⟨n - 1, by omega, by omega, hw, by show l.length ≤ _; omega, hinc, fun x => ?_⟩
        show x ∈ l ↔ _
        rw [htk, List.mem_append, ← hmem x, List.mem_singleton]
        constructor
        · exact .inl
        · rintro (h | rfl)
          · exact h
          · rw [← hze]; exact List.getElem_mem _
      · have hz : c ≠ 0 := by simpa using hc
        refine Ok.mono (put (lower hk0 ?_)) fun x hx => by cases x <;> exact hx
        rw [getElem!_pos l (k - 1) (by omega)]
        have : cmpA l[k - 1] e ≠ 0 := fun e => hz (c3.2 e)
        omega
end Go.G36.AB
/- FnAbove, plain part: what is above a ref, both ways told. -/
namespace Go.G36.AB
set_option maxRecDepth 20000
set_option maxHeartbeats 2000000
set_option linter.unusedVariables false
set_option linter.unusedSimpArgs false
open Go Go.G36 Go.G36.AbAnc

theorem atom_beq (a b : T_impl_Atom) : (a == b) = true ↔ a = b := by
  constructor
  · intro h
    have h : ((a.Kind_ == b.Kind_) && ((a.Num_ == b.Num_) && ((a.Text_.toList == b.Text_.toList) && ((a.Type_.toList == b.Type_.toList) && true)))) = true := h
    simp only [Bool.and_eq_true, Bool.and_true, beq_iff_eq] at h
    obtain ⟨h1, h2, h3, h4⟩ := h
    have e3 := bytes_inj h3
    have e4 := bytes_inj h4
    cases a; cases b; simp_all
  · rintro rfl
    show ((a.Kind_ == a.Kind_) && ((a.Num_ == a.Num_) && ((a.Text_.toList == a.Text_.toList) && ((a.Type_.toList == a.Type_.toList) && true)))) = true
    simp
instance : ReflBEq T_impl_Atom := ⟨fun {a} => (atom_beq a a).2 rfl⟩
instance : LawfulBEq T_impl_Atom := { eq_of_beq := fun {a b} h => (atom_beq a b).1 h }
abbrev noThing : T_impl_Thing := ⟨(⟨0, 0, e0, e0⟩ : T_impl_Atom), ([] : List T_impl_Atom), ([] : List ByteArray), ([] : List T_impl_Value)⟩
def findT (l : List T_impl_Thing) (x : T_impl_Atom) : T_impl_Thing × Bool := match l.find? (fun t => t.Ref_ == x) with
  | some t => (t, true)
  | none => (noThing, false)
/-- The parents of a ref. -/
def par (l : List T_impl_Thing) (x : T_impl_Atom) : List T_impl_Atom := (findT l x).1.Parents_
theorem spec_find (l : List T_impl_Thing) (x : T_impl_Atom) (hl : l.length ≤ 1000) : spec_l11Thing l x = some (findT l x) := by
  unfold spec_l11Thing findT
  rw [loop_find l _ (fun t => t.Ref_ == x) (fun t => (t, true)) (fun i a ha => by
    have hi := (List.getElem?_eq_some_iff.1 ha).1
    unfold spec_l11Thing_l1
    dsimp only
    rw [ltn hi, cond_true, idx_nat, ha, Option.bind_some, wrap_succ (by omega)]
    cases a.Ref_ == x <;> rfl) (by
    unfold spec_l11Thing_l1
    dsimp only
    rw [decF (by omega : ¬ (l.length : Int) < (l.length : Int))]; rfl)]
  cases l.find? (fun t => t.Ref_ == x) <;> rfl
theorem impl_find (l : List T_impl_Thing) (x : T_impl_Atom) (hl : l.length ≤ 1000) : impl_yfindThing l x = some (findT l x) := by
  unfold impl_yfindThing impl_Thing_ findT
  have h := loop_first l (impl_Thing__l1 l x) (fun i a => cond (a.Ref_ == x) (some (i : Int)) none) outU (fun i a ha => by
    have hi := (List.getElem?_eq_some_iff.1 ha).1
    unfold impl_Thing__l1 impl_yfindThing_1
    dsimp only
    rw [ltn hi, cond_true, idx_nat, ha, Option.bind_some, Option.bind_some, wrap_succ (by omega)]
    cases a.Ref_ == x <;> rfl) (by
    unfold impl_Thing__l1
    dsimp only
    rw [decF (by omega : ¬ (l.length : Int) < (l.length : Int))]; rfl) l.length 0 (by omega)
  simp only [List.drop_zero] at h
  have key : ∀ (m : List T_impl_Thing) (i : Nat), (firstG (fun i (a : T_impl_Thing) => cond (a.Ref_ == x) (some (i : Int)) none) m i = none ∧ m.find? (fun t => t.Ref_ == x) = none) ∨
      ∃ (j : Nat) (a : T_impl_Thing), firstG (fun i (a : T_impl_Thing) => cond (a.Ref_ == x) (some (i : Int)) none) m i = some ((i + j : Nat) : Int) ∧ m[j]? = some a ∧ m.find? (fun t => t.Ref_ == x) = some a := by
    intro m
    induction m with
    | nil => intro i; exact .inl ⟨rfl, rfl⟩
    | cons a r ih =>
      intro i
      rw [firstG, List.find?_cons]
      cases hb : (a.Ref_ == x) with
      | true => exact .inr ⟨0, a, by simp, rfl, rfl⟩
      | false =>
        rcases ih (i + 1) with ⟨k1, k2⟩ | ⟨j, b, k1, k2, k3⟩
        · exact .inl ⟨by simpa using k1, k2⟩
        · exact .inr ⟨j + 1, b, by simp only [cond_false]; rw [k1]; congr 2; omega, by simpa using k2, k3⟩
  have h : loopO (impl_Thing__l1 l x) 0 = _ := h
  rw [h]
  rcases key l 0 with ⟨k1, k2⟩ | ⟨j, a, k1, k2, k3⟩
  · rw [k1, k2]; rfl
  · rw [k1, k3]
    simp only [outU, Option.bind_some]
    rw [show decide (((0 + j : Nat) : Int) < 0) = false from decide_eq_false (by omega), cond_false, Nat.zero_add, idx_nat, k2]
    rfl
theorem has_eq (l : List T_impl_Atom) (a : T_impl_Atom) (hl : l.length ≤ 4000000) : spec_l12Has l a = some (l.any fun t => t == a) := by
  unfold spec_l12Has
  rw [loop_find l _ (fun t => t == a) (fun _ => true) (fun i e he => by
    have hi := (List.getElem?_eq_some_iff.1 he).1
    unfold spec_l12Has_l1
    dsimp only
    rw [ltn hi, cond_true, idx_nat, he, Option.bind_some, wrap_succ (by omega)]
    cases e == a <;> rfl) (by
    unfold spec_l12Has_l1
    dsimp only
    rw [decF (by omega : ¬ (l.length : Int) < (l.length : Int))]; rfl)]
  have key : ∀ l : List T_impl_Atom, (l.any fun t => t == a) = (l.find? fun t => t == a).isSome := by
    intro l
    induction l with
    | nil => rfl
    | cons b r ih =>
      rw [List.any_cons, List.find?_cons, ih]
      cases b == a <;> rfl
  rw [key]
  cases l.find? fun t => t == a <;> rfl
theorem any_mem {l : List T_impl_Atom} {a : T_impl_Atom} : (l.any fun t => t == a) = true ↔ a ∈ l := by
  rw [List.any_eq_true]
  constructor
  · rintro ⟨x, hx, h⟩
    rw [← (atom_beq _ _).1 h]; exact hx
  · intro h
    exact ⟨a, h, (atom_beq _ _).2 rfl⟩
theorem zAtoms_same (l : List T_impl_Atom) (hl : l.length ≤ 4000000) : laws_zAtoms l l = some true := by
  unfold laws_zAtoms
  rw [show ((l.length : Int) != (l.length : Int)) = false by simp, cond_false, loop_find l _ (fun _ => false) (fun _ => false) (fun i e he => by
    have hi := (List.getElem?_eq_some_iff.1 he).1
    unfold laws_zAtoms_l1
    dsimp only
    rw [ltn hi, cond_true, idx_nat, he, Option.bind_some, Option.bind_some, wrap_succ (by omega), beq_self_eq_true]
    rfl) (by
    unfold laws_zAtoms_l1
    dsimp only
    rw [decF (by omega : ¬ (l.length : Int) < (l.length : Int))]; rfl)]
  have : l.find? (fun _ => false) = none := by simp
  rw [this]
  rfl
end Go.G36.AB
/- FnAbove, plain part: the closure, by a queue and by a row read along. -/
namespace Go.G36.AB
set_option maxRecDepth 20000
set_option maxHeartbeats 2000000
set_option linter.unusedVariables false
set_option linter.unusedSimpArgs false
open Go Go.G36 Go.G36.AbAnc

/-- What is above a ref, and it. -/
inductive Up (l : List T_impl_Thing) (r : T_impl_Atom) : T_impl_Atom → Prop where
  | me : Up l r r
  | up {x p : T_impl_Atom} : Up l r x → p ∈ par l x → Up l r p
theorem Up.trans {l : List T_impl_Thing} {r x y : T_impl_Atom} (h : Up l r x) (k : Up l x y) : Up l r y := by
  induction k with
  | me => exact h
  | up _ hp ih => exact .up ih hp
/-- All that may be told above a ref. -/
def uni (l : List T_impl_Thing) (r : T_impl_Atom) : List T_impl_Atom := r :: l.flatMap (·.Parents_)
theorem par_uni {l : List T_impl_Thing} {r x p : T_impl_Atom} (h : p ∈ par l x) : p ∈ uni l r := by
  unfold par findT at h
  unfold uni
  cases hf : l.find? (fun t => t.Ref_ == x) with
  | none => rw [hf] at h; simp at h
  | some t =>
    rw [hf] at h
    exact List.mem_cons_of_mem _ (List.mem_flatMap.2 ⟨t, List.mem_of_find?_eq_some hf, h⟩)
theorem par_len {l : List T_impl_Thing} (hz : ∀ t, t ∈ l → t.Parents_.length ≤ 1000) (x : T_impl_Atom) : (par l x).length ≤ 1000 := by
  unfold par findT
  cases hf : l.find? (fun t => t.Ref_ == x) with
  | none => simp
  | some t => exact hz t (List.mem_of_find?_eq_some hf)
theorem uni_len {l : List T_impl_Thing} (hl : l.length ≤ 1000) (hz : ∀ t, t ∈ l → t.Parents_.length ≤ 1000) (r : T_impl_Atom) : (uni l r).length ≤ 1000001 := by
  have key : ∀ m : List T_impl_Thing, (∀ t, t ∈ m → t.Parents_.length ≤ 1000) → (m.flatMap (·.Parents_)).length ≤ m.length * 1000 := by
    intro m
    induction m with
    | nil => intro _; simp
    | cons a m ih =>
      intro h
      have h1 := h a List.mem_cons_self
      have h2 := ih fun t ht => h t (List.mem_cons_of_mem _ ht)
      rw [List.flatMap_cons, List.length_append, List.length_cons]
      omega
  have := key l hz
  unfold uni
  rw [List.length_cons]
  omega
theorem pigeon : ∀ {l m : List T_impl_Atom}, l.Nodup → (∀ x, x ∈ l → x ∈ m) → l.length ≤ m.length
  | [], m, _, _ => by simp
  | a :: l, m, hn, hs => by
    obtain ⟨h1, h2⟩ := List.nodup_cons.1 hn
    have ha := hs a (by simp)
    have := pigeon (m := m.erase a) h2 fun x hx => (List.mem_erase_of_ne (fun e => h1 (by rw [← e]; exact hx))).2 (hs x (by simp [hx]))
    rw [List.length_erase_of_mem ha] at this
    have hpos : 0 < m.length := List.length_pos_of_mem ha
    simp
    omega
theorem mfind_none {κ ε : Type} [BEq κ] [LawfulBEq κ] {k : κ} : ∀ (xs : List (κ × ε)) (i : Nat), mfind k xs i = none ↔ k ∉ xs.map (·.1)
  | [], i => by simp [mfind]
  | e :: r, i => by
    rw [mfind]
    cases hb : (k == e.1) with
    | true => simp [eq_of_beq hb]
    | false => simp [mfind_none r (i + 1), show ¬ k = e.1 from fun h => by simp [h] at hb]
/-- A map that says Yes to its keys. -/
def Yes (m : List (T_impl_Atom × Bool)) : Prop := ∀ e, e ∈ m → e.2 = true
theorem yes_get {m : List (T_impl_Atom × Bool)} (h : Yes m) (k : T_impl_Atom) : (mget m k).getD false = true ↔ k ∈ m.map (·.1) := by
  unfold mget
  cases hf : mfind k m 0 with
  | none => simpa using (mfind_none m 0).1 hf
  | some jv =>
    obtain ⟨j, v⟩ := jv
    obtain ⟨_, k', h1, h2⟩ := mfind_at m 0 j v hf
    have hm := List.mem_of_getElem? h1
    have hv : v = true := h _ hm
    subst hv
    simp only [Option.map_some, Option.getD_some, true_iff]
    exact List.mem_map.2 ⟨_, hm, (eq_of_beq h2).symm⟩
theorem yes_put {m : List (T_impl_Atom × Bool)} {k : T_impl_Atom} (hk : k ∉ m.map (·.1)) : mput m k true = m ++ [(k, true)] := by
  unfold mput
  rw [(mfind_none m 0).2 hk]

theorem fstT : ∀ ad : List T_impl_Atom, (ad.map fun p => (p, true)).map (·.1) = ad
  | [] => rfl
  | a :: r => by rw [List.map_cons, List.map_cons, fstT r]
/-- What the parents of one ref add. -/
theorem anc_in {t : T_impl_Thing} {row0 : List T_impl_Atom} {m0 : List (T_impl_Atom × Bool)} {U : List T_impl_Atom} (ht : t.Parents_.length ≤ 1000) (hr : row0 ≠ []) (hr2 : row0.length ≤ 4000000) (hn : (m0.map (·.1)).Nodup) (hy : Yes m0) (hU : U.length ≤ 4000000) (hmU : ∀ x, x ∈ m0.map (·.1) → x ∈ U) (hp : ∀ p, p ∈ t.Parents_ → p ∈ U) :
    Ok (loopO (anc_l2 t) (row0, m0, 0)) fun q => ∃ ad : List T_impl_Atom, q.1 = row0 ++ ad ∧ q.2 = m0 ++ ad.map (fun p => (p, true)) ∧ (q.2.map (·.1)).Nodup ∧ (∀ p, p ∈ ad → p ∈ t.Parents_) ∧ ∀ p, p ∈ t.Parents_ → p ∈ q.2.map (·.1) := by
  refine Ok.loop (fun n q => n ≤ t.Parents_.length ∧ q.2.2 = ((t.Parents_.length - n : Nat) : Int) ∧ ∃ ad : List T_impl_Atom, q.1 = row0 ++ ad ∧ q.2.1 = m0 ++ ad.map (fun p => (p, true)) ∧ (q.2.1.map (·.1)).Nodup ∧ (∀ p, p ∈ ad → p ∈ t.Parents_) ∧ ∀ p, p ∈ t.Parents_.take (t.Parents_.length - n) → p ∈ q.2.1.map (·.1)) ?_ (n := t.Parents_.length) ⟨Nat.le_refl _, by simp, [], by simp, by simp, hn, by simp, by simp⟩
  rintro n ⟨row, m, i⟩ ⟨hnl, hi, ad, h1, h2, h3, h4, h5⟩
  dsimp only at hi h1 h2 h3 h4 h5
  subst hi
  unfold anc_l2
  dsimp only
  rcases Nat.eq_zero_or_pos n with rfl | hpos
  · rw [decF (by omega : ¬ ((t.Parents_.length - 0 : Nat) : Int) < (t.Parents_.length : Int))]
    refine Ok.some ⟨ad, h1, h2, h3, h4, fun p hp => h5 p (by simpa using hp)⟩
  · have hlt : t.Parents_.length - n < t.Parents_.length := by omega
    rw [ltn hlt, cond_true, idxN hlt, Option.bind_some, IntWalk.i64_in _ (by omega)]
    generalize he : t.Parents_[t.Parents_.length - n] = p
    have hpm : p ∈ t.Parents_ := he ▸ List.getElem_mem hlt
    have htk : t.Parents_.take (t.Parents_.length - (n - 1)) = t.Parents_.take (t.Parents_.length - n) ++ [p] := by
      rw [show t.Parents_.length - (n - 1) = (t.Parents_.length - n) + 1 by omega, List.take_succ_eq_append_getElem hlt, he]
    have hy2 : Yes m := by
      rw [h2]
      intro e hem
      rcases List.mem_append.1 hem with h | h
      · exact hy e h
      · obtain ⟨x, _, rfl⟩ := List.mem_map.1 h; rfl
    have hk : m.map (·.1) = m0.map (·.1) ++ ad := by rw [h2, List.map_append, fstT]
    have hi2 : ((t.Parents_.length - n : Nat) : Int) + 1 = ((t.Parents_.length - (n - 1) : Nat) : Int) := by omega
    refine Ok.cond (fun hc => ?_) (fun hc => ?_)
    · have hnot : p ∉ m.map (·.1) := fun h => by rw [(yes_get hy2 p).2 h] at hc; cases hc
      have hlen : (m.map (·.1)).length ≤ U.length := pigeon h3 fun x hx => by
        rw [hk] at hx
        rcases List.mem_append.1 hx with h | h
        · exact hmU x h
        · exact hp x (h4 x h)
      have had : ad.length ≤ U.length := by rw [hk, List.length_append] at hlen; omega
      have hap : apQ row ([p] : List T_impl_Atom) = some (row ++ [p]) := by
        unfold apQ
        rw [if_pos ⟨by rw [h1]; cases row0 with
          | nil => exact absurd rfl hr
          | cons a r => simp, by simp, by rw [h1]; simp; omega⟩]
      rw [hap, Option.bind_some, yes_put hnot, hi2]
      refine Ok.some ⟨n - 1, by omega, by omega, rfl, ad ++ [p], by show row ++ [p] = _; rw [h1, List.append_assoc], by show m ++ [(p, true)] = _; rw [h2]; simp, ?_, fun x hx => ?_, fun x hx => ?_⟩
      · show ((m ++ [(p, true)]).map (·.1)).Nodup
        rw [List.map_append, List.nodup_append]
        exact ⟨h3, by simp, fun x hx y hy e => by simp at hy; subst hy; subst e; exact hnot hx⟩
      · rcases List.mem_append.1 hx with h | h
        · exact h4 x h
        · simp at h; subst h; exact hpm
      · show x ∈ (m ++ [(p, true)]).map (·.1)
        rw [htk] at hx
        rw [List.map_append]
        rcases List.mem_append.1 hx with h | h
        · exact List.mem_append_left _ (h5 x h)
        · exact List.mem_append_right _ (by simpa using h)
    · have hin : p ∈ m.map (·.1) := (yes_get hy2 p).1 (by simpa using hc)
      rw [hi2]
      refine Ok.some ⟨n - 1, by omega, by omega, rfl, ad, h1, h2, h3, h4, fun x hx => ?_⟩
      rw [htk] at hx
      rcases List.mem_append.1 hx with h | h
      · exact h5 x h
      · simp at h; subst h; exact hin

theorem anc_ok {l : List T_impl_Thing} (r : T_impl_Atom) (hl : l.length ≤ 1000) (hz : ∀ t, t ∈ l → t.Parents_.length ≤ 1000) : Ok (anc l r) fun m => (m.map (·.1)).Nodup ∧ Yes m ∧ (∀ x, x ∈ m.map (·.1) ↔ Up l r x) ∧ m.length ≤ 1000001 := by
  have hUl := uni_len hl hz r
  unfold anc
  have hm0 : mput ([] : List (T_impl_Atom × Bool)) r true = [(r, true)] := rfl
  rw [hm0]
  refine Ok.loop (fun n q => n = 2 * ((uni l r).length - q.2.length) + q.1.length ∧ (q.2.map (·.1)).Nodup ∧ Yes q.2 ∧ (∀ x, x ∈ q.2.map (·.1) → Up l r x) ∧ r ∈ q.2.map (·.1) ∧ (∀ x, x ∈ q.1 → x ∈ q.2.map (·.1)) ∧ (∀ x, x ∈ q.2.map (·.1) → x ∈ q.1 ∨ ∀ p, p ∈ par l x → p ∈ q.2.map (·.1)) ∧ q.1.length ≤ q.2.length) ?_
    ⟨rfl, by simp, fun e he => by simp at he; subst he; rfl, fun x hx => by simp at hx; subst hx; exact .me, by simp, by simp, fun x hx => .inl (by simpa using hx), by simp⟩
  rintro n ⟨row, m⟩ ⟨hn, h1, h2, h3, h4, h5, h6, h7⟩
  dsimp only at hn h1 h2 h3 h4 h5 h6 h7
  have upU : ∀ x, Up l r x → x ∈ uni l r := fun x hx => by
    cases hx with
    | me => exact List.mem_cons_self
    | up _ hp => exact par_uni hp
  have hml : m.length ≤ (uni l r).length := by
    have := pigeon h1 (m := uni l r) fun x hx => upU x (h3 x hx)
    simpa using this
  unfold anc_l1
  dsimp only
  cases row with
  | nil =>
    refine Ok.some ⟨h1, h2, fun x => ⟨h3 x, fun hx => ?_⟩, by omega⟩
    induction hx with
    | me => exact h4
    | up _ hp ih =>
      rcases h6 _ ih with h | h
      · exact absurd h List.not_mem_nil
      · exact h _ hp
  | cons a row =>
    rw [show decide (((a :: row).length : Int) > 0) = true from decide_eq_true (by rw [List.length_cons]; omega), cond_true, show idx (a :: row) 0 = some a from rfl, Option.bind_some, impl_find l a hl, Option.bind_some]
    have hpar : (findT l a).1.Parents_ = par l a := rfl
    have hpl : (findT l a).1.Parents_.length ≤ 1000 := par_len hz a
    refine Ok.bind (anc_in (U := uni l r) hpl (by simp) (by show (a :: row).length ≤ _; omega) h1 h2 (by omega) (fun x hx => upU x (h3 x hx)) fun p hp => par_uni hp) ?_
    rintro ⟨row2, m2⟩ ⟨ad, g1, g2, g3, g4, g5⟩
    dsimp only at g1 g2 g3 g5
    have hr2 : row2 = a :: (row ++ ad) := by rw [g1]; rfl
    have hsub : sub row2 1 (row2.length : Int) = some (row ++ ad) := by
      rw [hr2]
      unfold sub
      rw [if_pos ⟨by omega, by simp; omega, Int.le_refl _⟩]
      rw [show Int.toNat 1 = 1 from rfl, List.drop_one, List.tail_cons, List.take_of_length_le (by simp; omega)]
    dsimp only
    rw [hsub, Option.bind_some]
    have hk2 : m2.map (·.1) = m.map (·.1) ++ ad := by rw [g2, List.map_append, fstT]
    have hl2 : m2.length = m.length + ad.length := by rw [g2]; simp
    have ha : a ∈ m.map (·.1) := h5 a List.mem_cons_self
    have up2 : ∀ x, x ∈ m2.map (·.1) → Up l r x := fun x hx => by
      rw [hk2] at hx
      rcases List.mem_append.1 hx with h | h
      · exact h3 x h
      · exact .up (h3 a ha) (g4 x h)
    have hml2 : m2.length ≤ (uni l r).length := by
      have := pigeon g3 (m := uni l r) fun x hx => upU x (up2 x hx)
      simpa using this
    refine Ok.some ⟨_, ?_, rfl, g3, fun e he => ?_, up2, by rw [hk2]; exact List.mem_append_left _ h4, fun x hx => ?_, fun x hx => ?_, ?_⟩
    · show 2 * ((uni l r).length - m2.length) + (row ++ ad).length < n
      rw [hn, List.length_append, hl2, List.length_cons]
      omega
    · rw [g2] at he
      rcases List.mem_append.1 he with h | h
      · exact h2 e h
      · obtain ⟨y, _, rfl⟩ := List.mem_map.1 h; rfl
    · show x ∈ m2.map (·.1)
      rw [hk2]
      rcases List.mem_append.1 hx with h | h
      · exact List.mem_append_left _ (h5 x (List.mem_cons_of_mem _ h))
      · exact List.mem_append_right _ h
    · show x ∈ row ++ ad ∨ ∀ p, p ∈ par l x → p ∈ m2.map (·.1)
      have hx2 := hx
      change x ∈ m2.map (·.1) at hx2
      rw [hk2] at hx2
      rcases List.mem_append.1 hx2 with h | h
      · rcases h6 x h with k | k
        · rcases List.mem_cons.1 k with rfl | k
          · exact .inr fun p hp => g5 p hp
          · exact .inl (List.mem_append_left _ k)
        · exact .inr fun p hp => by rw [hk2]; exact List.mem_append_left _ (k p hp)
      · exact .inl (List.mem_append_right _ h)
    · show (row ++ ad).length ≤ m2.length
      rw [List.length_append, hl2]
      rw [List.length_cons] at h7
      omega
end Go.G36.AB
/- FnAbove, plain part: the reference's closure; both are the same. -/
namespace Go.G36.AB
set_option maxRecDepth 20000
set_option maxHeartbeats 2000000
set_option linter.unusedVariables false
set_option linter.unusedSimpArgs false
open Go Go.G36 Go.G36.AbAnc

theorem up_in {t : T_impl_Thing} {l0 : List T_impl_Atom} {U : List T_impl_Atom} (ht : t.Parents_.length ≤ 1000) (hn : l0.Nodup) (hU : U.length ≤ 4000000) (hmU : ∀ x, x ∈ l0 → x ∈ U) (hp : ∀ p, p ∈ t.Parents_ → p ∈ U) :
    Ok (loopO (spec_l12Up_l2 t) (l0, 0)) fun q => ∃ ad : List T_impl_Atom, q = l0 ++ ad ∧ q.Nodup ∧ (∀ p, p ∈ ad → p ∈ t.Parents_) ∧ ∀ p, p ∈ t.Parents_ → p ∈ q := by
  refine Ok.loop (fun n q => n ≤ t.Parents_.length ∧ q.2 = ((t.Parents_.length - n : Nat) : Int) ∧ ∃ ad : List T_impl_Atom, q.1 = l0 ++ ad ∧ q.1.Nodup ∧ (∀ p, p ∈ ad → p ∈ t.Parents_) ∧ ∀ p, p ∈ t.Parents_.take (t.Parents_.length - n) → p ∈ q.1) ?_ (n := t.Parents_.length) ⟨Nat.le_refl _, by simp, [], by simp, hn, by simp, by simp⟩
  rintro n ⟨m, i⟩ ⟨hnl, hi, ad, h1, h3, h4, h5⟩
  dsimp only at hi h1 h3 h4 h5
  subst hi
  unfold spec_l12Up_l2
  dsimp only
  rcases Nat.eq_zero_or_pos n with rfl | hpos
  · rw [decF (by omega : ¬ ((t.Parents_.length - 0 : Nat) : Int) < (t.Parents_.length : Int))]
    refine Ok.some ⟨ad, h1, h3, h4, fun p hp => h5 p (by simpa using hp)⟩
  · have hlt : t.Parents_.length - n < t.Parents_.length := by omega
    rw [ltn hlt, cond_true, idxN hlt, Option.bind_some, IntWalk.i64_in _ (by omega)]
    generalize he : t.Parents_[t.Parents_.length - n] = p
    have hpm : p ∈ t.Parents_ := he ▸ List.getElem_mem hlt
    have htk : t.Parents_.take (t.Parents_.length - (n - 1)) = t.Parents_.take (t.Parents_.length - n) ++ [p] := by
      rw [show t.Parents_.length - (n - 1) = (t.Parents_.length - n) + 1 by omega, List.take_succ_eq_append_getElem hlt, he]
    have hi2 : ((t.Parents_.length - n : Nat) : Int) + 1 = ((t.Parents_.length - (n - 1) : Nat) : Int) := by omega
    have hlen : m.length ≤ U.length := pigeon h3 fun x hx => by
      rw [h1] at hx
      rcases List.mem_append.1 hx with h | h
      · exact hmU x h
      · exact hp x (h4 x h)
    rw [has_eq m p (by omega), Option.bind_some]
    refine Ok.cond (fun hc => ?_) (fun hc => ?_)
    · have hnot : p ∉ m := fun h => by rw [any_mem.2 h] at hc; cases hc
      rw [app_get (by simp; omega), Option.bind_some, hi2]
      refine Ok.some ⟨n - 1, by omega, by omega, rfl, ad ++ [p], by show m ++ [p] = _; rw [h1, List.append_assoc], ?_, fun x hx => ?_, fun x hx => ?_⟩
      · show (m ++ [p]).Nodup
        rw [List.nodup_append]
        exact ⟨h3, by simp, fun x hx y hy e => by simp at hy; subst hy; subst e; exact hnot hx⟩
      · rcases List.mem_append.1 hx with h | h
        · exact h4 x h
        · simp at h; subst h; exact hpm
      · show x ∈ m ++ [p]
        rw [htk] at hx
        rcases List.mem_append.1 hx with h | h
        · exact List.mem_append_left _ (h5 x h)
        · exact List.mem_append_right _ h
    · have hin : p ∈ m := any_mem.1 (by simpa using hc)
      rw [hi2]
      refine Ok.some ⟨n - 1, by omega, by omega, rfl, ad, h1, h3, h4, fun x hx => ?_⟩
      rw [htk] at hx
      rcases List.mem_append.1 hx with h | h
      · exact h5 x h
      · simp at h; subst h; exact hin

theorem up_ok {l : List T_impl_Thing} {r : T_impl_Atom} (hl : l.length ≤ 1000) (hz : ∀ t, t ∈ l → t.Parents_.length ≤ 1000) (ha : ∀ t, t ∈ l → ∀ p, p ∈ t.Parents_ → AtomOk p) (hr : AtomOk r) :
    Ok (spec_l12Up l r) fun ys => Inc ys ∧ ∀ x, x ∈ ys ↔ Up l r x := by
  have hUl := uni_len hl hz r
  have upU : ∀ x, Up l r x → x ∈ uni l r := fun x hx => by
    cases hx with
    | me => exact List.mem_cons_self
    | up _ hp => exact par_uni hp
  have uniA : ∀ x, x ∈ uni l r → AtomOk x := fun x hx => by
    rcases List.mem_cons.1 hx with rfl | h
    · exact hr
    · obtain ⟨t, ht, hp⟩ := List.mem_flatMap.1 h
      exact ha t ht x hp
  unfold spec_l12Up
  refine Ok.bind (Ok.loop (P := fun all => all.length ≤ (uni l r).length ∧ ∀ x, x ∈ all ↔ Up l r x) (fun n q => ∃ i : Nat, q.2 = (i : Int) ∧ i ≤ q.1.length ∧ n = (uni l r).length - i ∧ q.1.Nodup ∧ (∀ x, x ∈ q.1 → Up l r x) ∧ r ∈ q.1 ∧ ∀ (j : Nat) (h : j < q.1.length), j < i → ∀ p, p ∈ par l q.1[j] → p ∈ q.1) ?_
    (n := (uni l r).length) ⟨0, rfl, Nat.zero_le _, rfl, by simp, fun x hx => by simp at hx; subst hx; exact .me, by simp, fun j h h2 => absurd h2 (Nat.not_lt_zero _)⟩) ?_
  · rintro n ⟨all, v⟩ ⟨i, hi, hil, hn, h1, h3, h4, h6⟩
    dsimp only at hi hil h1 h3 h4 h6
    subst hi
    have hml : all.length ≤ (uni l r).length := pigeon h1 fun x hx => upU x (h3 x hx)
    unfold spec_l12Up_l1
    dsimp only
    by_cases hlt : i < all.length
    · rw [ltn hlt, cond_true, idxN hlt, Option.bind_some, spec_find l _ hl, Option.bind_some]
      have hpl : (findT l all[i]).1.Parents_.length ≤ 1000 := par_len hz _
      refine Ok.bind (up_in (U := uni l r) hpl h1 (by omega) (fun x hx => upU x (h3 x hx)) fun p hp => par_uni hp) ?_
      rintro _ ⟨ad, rfl, g3, g4, g5⟩
      have up2 : ∀ x, x ∈ all ++ ad → Up l r x := fun x hx => by
        rcases List.mem_append.1 hx with h | h
        · exact h3 x h
        · exact .up (h3 _ (List.getElem_mem hlt)) (g4 x h)
      refine Ok.some ⟨n - 1, by omega, i + 1, ?_, ?_, by omega, g3, up2, List.mem_append_left _ h4, fun j hj hji p hp => ?_⟩
      · show IntKind.i64.wrap ((i : Int) + 1) = _
        rw [IntWalk.i64_in _ (by omega)]; omega
      · show i + 1 ≤ (all ++ ad).length
        rw [List.length_append]; omega
      · show p ∈ all ++ ad
        have hja : j < all.length := by omega
        have hp2 : p ∈ par l all[j] := by
          have hp3 : p ∈ par l (all ++ ad)[j] := hp
          rw [List.getElem_append_left hja] at hp3
          exact hp3
        by_cases hje : j = i
        · subst hje; exact g5 p hp2
        · exact List.mem_append_left _ (h6 j hja (by omega) p hp2)
    · rw [decF (by omega : ¬ (i : Int) < (all.length : Int))]
      refine Ok.some ⟨hml, fun x => ⟨h3 x, fun hx => ?_⟩⟩
      induction hx with
      | me => exact h4
      | up _ hp ih =>
        obtain ⟨j, hj, rfl⟩ := List.mem_iff_getElem.1 ih
        exact h6 j hj (by omega) _ hp
  · rintro all ⟨hml, hmem⟩
    obtain ⟨ys, h1, h2, h3⟩ := sorted_ok (xs := all) (fun x hx => uniA x (upU x ((hmem x).1 hx))) (by omega)
    dsimp only
    rw [h1]
    exact Ok.some ⟨h2, fun x => (h3 x).trans (hmem x)⟩
/-- What both tell of all above a ref. -/
theorem both_up {l : List T_impl_Thing} {r : T_impl_Atom} (hl : l.length ≤ 1000) (hz : ∀ t, t ∈ l → t.Parents_.length ≤ 1000) (ha : ∀ t, t ∈ l → ∀ p, p ∈ t.Parents_ → AtomOk p) (hr : AtomOk r) :
    ∃ m ys, anc l r = some m ∧ Yes m ∧ (∀ x, x ∈ m.map (·.1) ↔ Up l r x) ∧ m.length ≤ 1000001 ∧ spec_l12Up l r = some ys ∧ sortO leA (m.map (·.1)) = some ys ∧ (∀ x, x ∈ ys ↔ Up l r x) ∧ ys.length ≤ 1000001 := by
  obtain ⟨m, h1, h2, h3, h4, h5⟩ := anc_ok r hl hz
  obtain ⟨ys, k1, k2, k3⟩ := up_ok hl hz ha hr
  have hs : (m.map (·.1)).mergeSort leA = ys := Inc.eq (inc_sort h2) k2 fun x => by rw [List.mem_mergeSort, h4 x, k3 x]
  refine ⟨m, ys, h1, h3, h4, h5, k1, ?_, k3, ?_⟩
  · unfold sortO
    rw [if_pos (by simp; omega), hs]
  · rw [← hs, List.length_mergeSort, List.length_map]; exact h5
end Go.G36.AB
