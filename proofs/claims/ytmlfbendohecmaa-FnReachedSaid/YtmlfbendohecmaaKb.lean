/- The triple T over abstract states; rules for code. -/
import Derived.Test.YtmlfbendohecmaaKa
import Derived.LoopN
import Derived.Scope
namespace Go.G36
variable [Genv]
set_option linter.all false
open Go

mutual
/-- All references lie below N. -/
def bel (N : Nat) : V → Bool
  | .hd a _ _ _ => Nat.blt a N
  | .bx a _ => Nat.blt a N
  | .el a _ _ _ => Nat.blt a N
  | .px a _ _ _ => Nat.blt a N
  | .mp a => Nat.blt a N
  | .agg cs => bels N cs
  | .tup cs => bels N cs
  | .fn _ cs ds => bels N cs && bels N ds
  | .any => true
  | _ => true
def bels (N : Nat) : List V → Bool
  | [] => true
  | c :: r => bel N c && bels N r
end

/-- From one state to a later one, as far as names below N go. -/
structure FwN (N : Nat) (S : Nat → Prop) (ι : List Loc) (σ : ASt) (w : World) (S' : Nat → Prop) (ι' : List Loc) (σ' : ASt) (w' : World) : Prop where
  os : w'.os = w.os
  tape : w'.tape = w.tape
  output : w'.output = w.output
  size : w.heap.size ≤ w'.heap.size
  grow : ∀ b, S b → S' b
  new : ∀ b, S' b → S b ∨ Lv ι σ b ∨ w.heap.size ≤ b
  keep : ∀ b, b < w.heap.size → ¬ Lv ι σ b → w'.heap[b]? = w.heap[b]?
  lv : ∀ b, Lv ι' σ' b → Lv ι σ b ∨ w.heap.size ≤ b
  ref : ∀ v u, bel N v = true → RefR ι σ v u → RefR ι' σ' v u

theorem Fw.toN {N : Nat} {S S' : Nat → Prop} {ι ι' : List Loc} {σ σ' : ASt} {w w' : World} (h : Fw S ι σ w S' ι' σ' w') : FwN N S ι σ w S' ι' σ' w' :=
  ⟨h.os, h.tape, h.output, h.size, h.grow, h.new, h.keep, h.lv, fun v u _ hr => h.ref v u hr⟩
theorem FwN.refl (N : Nat) (S : Nat → Prop) (ι : List Loc) (σ : ASt) (w : World) : FwN N S ι σ w S ι σ w := (Fw.refl S ι σ w).toN
theorem FwN.trans {N : Nat} {S S' S'' : Nat → Prop} {ι ι' ι'' : List Loc} {σ σ' σ'' : ASt} {w w' w'' : World} (h : FwN N S ι σ w S' ι' σ' w') (k : FwN N S' ι' σ' w' S'' ι'' σ'' w'') : FwN N S ι σ w S'' ι'' σ'' w'' where
  os := k.os.trans h.os
  tape := k.tape.trans h.tape
  output := k.output.trans h.output
  size := Nat.le_trans h.size k.size
  grow := fun b hb => k.grow b (h.grow b hb)
  new := fun b hb => by
    rcases k.new b hb with h1 | h1 | h1
    · exact h.new b h1
    · exact .inr (h.lv b h1)
    · exact .inr (.inr (Nat.le_trans h.size h1))
  keep := fun b hb hn => by
    rw [k.keep b (Nat.lt_of_lt_of_le hb h.size) (fun hl => by rcases h.lv b hl with h1 | h1; exact hn h1; omega), h.keep b hb hn]
  lv := fun b hb => by
    rcases k.lv b hb with h1 | h1
    · exact h.lv b h1
    · exact .inr (Nat.le_trans h.size h1)
  ref := fun v u hb hr => k.ref v u hb (h.ref v u hb hr)

inductive Ex where
  | normal
  | exit (id : Nat)
  | ret

def Ex.to : Ex → Exit
  | .normal => .normal
  | .exit id => .exit id
  | .ret => .ret

abbrev Post := Ex → Fr → ASt → Prop

def QT (N : Nat) (Q : Post) (S B : Nat → Prop) (ι : List Loc) (σ : ASt) (w : World) (n : Nat) : Exit → Act → World → Prop :=
  fun e a' w' => ∃ ex fr' σ' S' ι', e = Ex.to ex ∧ Q ex fr' σ' ∧ Rel S' B ι' n fr' σ' a' w' ∧ FwN N S ι σ w S' ι' σ' w'

def T (P : Program) (N n : Nat) (c : Code) (fr : Fr) (σ : ASt) (Q : Post) : Prop :=
  ∀ (S B : Nat → Prop) (ι : List Loc) (a : Act) (w : World), Rel S B ι n fr σ a w → c.wp P (QT N Q S B ι σ w n) a w

section
variable {P : Program} {N n : Nat} {fr : Fr} {σ : ASt} {Q : Post}

theorem T.mono {c : Code} {Q' : Post} (h : T P N n c fr σ Q) (hq : ∀ ex fr σ, Q ex fr σ → Q' ex fr σ) : T P N n c fr σ Q' := fun S B ι a w hr =>
  wp_mono (h S B ι a w hr) fun e a' w' ⟨ex, fr', σ', S', ι', h1, h2, h3, h4⟩ => ⟨ex, fr', σ', S', ι', h1, hq _ _ _ h2, h3, h4⟩

theorem T.skip (h : Q .normal fr σ) : T P N n .skip fr σ Q := fun S B ι a w hr => wp_skip ⟨.normal, fr, σ, S, ι, rfl, h, hr, FwN.refl _ _ _ _ _⟩
theorem T.exit {id : Nat} (h : Q (.exit id) fr σ) : T P N n (.exit id) fr σ Q := fun S B ι a w hr => wp_exit ⟨.exit id, fr, σ, S, ι, rfl, h, hr, FwN.refl _ _ _ _ _⟩
theorem T.ret (h : Q .ret fr σ) : T P N n .ret fr σ Q := fun S B ι a w hr => wp_ret ⟨.ret, fr, σ, S, ι, rfl, h, hr, FwN.refl _ _ _ _ _⟩

/-- What holds behind the first part of two. -/
def thn (K : Fr → ASt → Prop) (Q : Post) : Post
  | .normal, fr, σ => K fr σ
  | ex, fr, σ => Q ex fr σ

theorem T.seq {x y : Code} (h : T P N n x fr σ (thn (fun fr' σ' => T P N n y fr' σ' Q) Q)) : T P N n (.seq x y) fr σ Q := fun S B ι a w hr => by
  refine wp_seq (wp_mono (h S B ι a w hr) ?_)
  rintro e a' w' ⟨ex, fr', σ', S', ι', rfl, hq, hr', hf⟩
  cases ex with
  | normal =>
    refine wp_mono (hq S' B ι' a' w' hr') ?_
    rintro e2 a2 w2 ⟨ex2, fr2, σ2, S2, ι2, h1, h2, h3, h4⟩
    exact ⟨ex2, fr2, σ2, S2, ι2, h1, h2, h3, hf.trans h4⟩
  | exit id => exact ⟨.exit id, fr', σ', S', ι', rfl, hq, hr', hf⟩
  | ret => exact ⟨.ret, fr', σ', S', ι', rfl, hq, hr', hf⟩

/-- A cut: what holds between two parts. -/
theorem T.cut {x y : Code} (M : Fr → ASt → Prop) (h1 : T P N n x fr σ (thn M Q)) (h2 : ∀ fr' σ', M fr' σ' → T P N n y fr' σ' Q) : T P N n (.seq x y) fr σ Q :=
  .seq (h1.mono fun ex fr' σ' h => by cases ex <;> first | exact h2 _ _ h | exact h)

theorem T.cond {c : Operand} {x y : Code} (t : Bool) (hc : evalE fr c = some (.bool t)) (ht : t = true → T P N n x fr σ Q) (hf : t = false → T P N n y fr σ Q) : T P N n (.cond c x y) fr σ Q := fun S B ι a w hr => by
  have hv := evalE_val hr hc
  have he : a.eval c = .bool t := hv.inv_bool
  exact wp_cond_split he (fun h => ht h S B ι a w hr) (fun h => hf h S B ι a w hr)

def inB (id : Nat) (Q : Post) : Post
  | .exit id', fr, σ => if id' = id then Q .normal fr σ else Q (.exit id') fr σ
  | ex, fr, σ => Q ex fr σ

theorem T.block {id : Nat} {c : Code} (h : T P N n c fr σ (inB id Q)) : T P N n (.block id c) fr σ Q := fun S B ι a w hr => by
  refine wp_block (wp_mono (h S B ι a w hr) ?_)
  rintro e a' w' ⟨ex, fr', σ', S', ι', rfl, hq, hr', hf⟩
  cases ex with
  | normal => exact ⟨.normal, fr', σ', S', ι', rfl, hq, hr', hf⟩
  | ret => exact ⟨.ret, fr', σ', S', ι', rfl, hq, hr', hf⟩
  | exit id' =>
    simp only [Ex.to, Exit.inBlock]
    by_cases e : id' = id
    · simp only [inB, e, if_true] at hq ⊢
      exact ⟨.normal, fr', σ', S', ι', rfl, hq, hr', hf⟩
    · simp only [inB, e, if_false] at hq ⊢
      exact ⟨.exit id', fr', σ', S', ι', rfl, hq, hr', hf⟩

theorem T.scope {c : Code} (h : T P N n c fr σ Q) : T P N n (.scope c) fr σ Q := fun S B ι a w hr => by
  refine wp_scope_straight (wp_mono (h S B ι a w hr) ?_)
  rintro e a' w' ⟨ex, fr', σ', S', ι', rfl, hq, hr', hf⟩
  cases ex <;> exact ⟨_, fr', σ', S', ι', rfl, hq, hr', hf⟩

theorem rounds_mono {c : Code} {Q : Exit → Act → World → Prop} : ∀ {k m : Nat} {a : Act} {w : World}, k ≤ m → Code.rounds P c Q k a w → Code.rounds P c Q m a w
  | 0, _, _, _, _, h => h.elim
  | k + 1, 0, _, _, hm, _ => by omega
  | k + 1, m + 1, a, w, hm, h => wp_mono h fun e a' w' hq => by
    cases e with
    | normal => exact rounds_mono (by omega) hq
    | exit id => exact hq
    | goto l => exact hq
    | ret => exact hq
    | panic ch => exact hq
    | outgrown => exact hq

/-- A loop: what holds at each round's head, by a number that falls. -/
theorem T.loop {c : Code} (I : Nat → Fr → ASt → Prop) (k : Nat) (h0 : I k fr σ)
    (h : ∀ k fr σ, I k fr σ → T P N n c fr σ (thn (fun fr' σ' => ∃ k', k' < k ∧ I k' fr' σ') Q)) : T P N n (.loop c) fr σ Q := fun S B ι a w hr => by
  refine wp_loop_rounds (k + 1) ?_
  have key : ∀ k fr σ S ι a w S0 ι0 σ0 w0, I k fr σ → Rel S B ι n fr σ a w → FwN N S0 ι0 σ0 w0 S ι σ w → Code.rounds P c (QT N Q S0 B ι0 σ0 w0 n) (k + 1) a w := by
    intro k
    induction k using Nat.strongRecOn with
    | _ k ih =>
      intro fr σ S ι a w S0 ι0 σ0 w0 hI hr hf
      refine wp_mono (h k fr σ hI S B ι a w hr) ?_
      rintro e a' w' ⟨ex, fr', σ', S', ι', rfl, hq, hr', hf'⟩
      cases ex with
      | normal =>
        obtain ⟨k', hk, hI'⟩ := hq
        exact rounds_mono (by omega) (ih k' hk fr' σ' S' ι' a' w' S0 ι0 σ0 w0 hI' hr' (hf.trans hf'))
      | exit id => exact ⟨.exit id, fr', σ', S', ι', rfl, hq, hr', hf.trans hf'⟩
      | ret => exact ⟨.ret, fr', σ', S', ι', rfl, hq, hr', hf.trans hf'⟩
  exact key k fr σ S ι a w S ι σ w h0 hr (FwN.refl _ _ _ _ _)

end

/-! ### One operation -/
/-- Operation o, its operands as in fr, the store as in σ, leaves v; the store is then σ'. -/
def Does (P : Program) (o : Oper) (fr : Fr) (σ : ASt) (v : V) (σ' : ASt) : Prop :=
  ∀ (S B : Nat → Prop) (ι : List Loc) (a : Act) (w : World), (∀ x, x ∈ o.op.operands → ∀ y, evalE fr x = some y → Val S B (RefR ι σ) w y (a.eval x)) → Mem S B ι σ w →
    ∀ (next : Act → World → Prop) (Q : Exit → Act → World → Prop),
      (∀ (u : Value) (S' : Nat → Prop) (ι' : List Loc) (w' : World), Val S' B (RefR ι' σ') w' v u → Mem S' B ι' σ' w' → Fw S ι σ w S' ι' σ' w' → next (a.put o.dst u) w') → o.wp P a w next Q

/-- The list of a plain region's operations. -/
def TL (P : Program) (N n : Nat) (ops : Array Oper) (l : List Oper) (fr : Fr) (σ : ASt) (Q : Post) : Prop :=
  ∀ (S B : Nat → Prop) (ι : List Loc) (a : Act) (w : World), Rel S B ι n fr σ a w → wpList P ops (QT N Q S B ι σ w n) l a w

theorem operWp_mono2 {P : Program} {o : Oper} {a : Act} {w : World} {K K' : Act → World → Prop} {Q Q' : Exit → Act → World → Prop} (h : ∀ a w, K a w → K' a w) (hq : ∀ e a w, Q e a w → Q' e a w)
    (hh : o.wp P a w K Q) : o.wp P a w K' Q' := by
  unfold Oper.wp at *
  generalize (execOp a.eval o).run P w = r at *
  cases r with
  | ok x w' =>
    cases x <;> simp only [Oper.upon] at hh ⊢ <;>
      first
        | exact h _ _ hh
        | exact Calls.mono hh (fun e w'' he => by
            cases e with
            | returned v => exact h _ _ he
            | panicked c => exact hq _ _ _ he
            | outgrown => obtain ⟨a0, w0, h0⟩ := he; exact ⟨a0, w0, hq _ _ _ h0⟩)
        | exact Rows.mono hh (fun _ _ he => h _ _ he)
  | halt x w' => cases x <;> simp only [Oper.upon] at hh ⊢ <;> exact hq _ _ _ hh

theorem wpList_mono2 {P : Program} {ops : Array Oper} {Q Q' : Exit → Act → World → Prop} (hq : ∀ e a w, Q e a w → Q' e a w) : ∀ (l : List Oper) (a : Act) (w : World), wpList P ops Q l a w → wpList P ops Q' l a w
  | [], a, w, h => hq _ _ _ h
  | o :: l, a, w, h => by
    unfold wpList at h ⊢
    split
    · rename_i hw
      rw [if_pos hw] at h
      rcases h with h | ⟨h1, a0, w0, h0⟩
      · exact .inl (operWp_mono2 (wpList_mono2 hq l) hq h)
      · exact .inr ⟨h1, a0, w0, hq _ _ _ h0⟩
    · rename_i hw
      rw [if_neg hw] at h
      exact wpList_mono2 hq l _ _ h

theorem QT.fw {Q : Post} {S S' B : Nat → Prop} {ι ι' : List Loc} {σ σ' : ASt} {w w' : World} {N n : Nat} (hf : FwN N S ι σ w S' ι' σ' w') : ∀ e a x, QT N Q S' B ι' σ' w' n e a x → QT N Q S B ι σ w n e a x := by
  rintro e a x ⟨ex, fr2, σ2, S2, ι2, h1, h2, h3, h4⟩
  exact ⟨ex, fr2, σ2, S2, ι2, h1, h2, h3, hf.trans h4⟩

section
variable {P : Program} {N n : Nat} {fr : Fr} {σ : ASt} {Q : Post}

theorem T.region {id : Nat} {l : List Oper} (h : TL P N n l.toArray l fr σ Q) : T P N n (.region id l.toArray false) fr σ Q := fun S B ι a w hr => wp_region_lit (h S B ι a w hr)

theorem TL.nil {ops : Array Oper} (h : Q .normal fr σ) : TL P N n ops [] fr σ Q := fun S B ι _ w hr => wpList_nil ⟨.normal, fr, σ, S, ι, rfl, h, hr, FwN.refl _ _ _ _ _⟩

/-- The destination lies in the frame. -/
def okD (n : Nat) : Option Tmp → Bool
  | some t => Nat.blt t n
  | none => true
theorem okD_lt {d : Option Tmp} (h : okD n d = true) : ∀ t, d = some t → t < n := by
  rintro t rfl
  simpa [okD, Nat.blt_eq] using h

theorem TL.step {ops : Array Oper} {o : Oper} {l : List Oper} (v : V) (σ' : ASt) (hg : o.guard = none) (hd : okD n o.dst = true) (hdo : Does P o fr σ v σ') (h : TL P N n ops l (setF o.dst v fr) σ' Q) :
    TL P N n ops (o :: l) fr σ Q := fun S B ι a w hr => by
  refine wpList_plain hg fun K hK => hdo S B ι a w (fun x _ y hy => evalE_val hr hy) hr.mem K _ ?_
  intro u S' ι' w' hv hm hf
  refine hK _ _ ?_
  have hr' := (hr.fw hf hm).put (okD_lt hd) hv
  exact wpList_mono2 (QT.fw hf.toN) l _ _ (h S' B ι' _ w' hr')

/-- An operation that its guard holds back. -/
theorem TL.held {ops : Array Oper} {o : Oper} {l : List Oper} {g : Nat} {want b : Bool} {t : Nat} (hg : o.guard = some (g, want)) (ht : (ops[g]?).bind (·.dst) = some t) (hv : lk fr t = some (.bool b)) (hb : b ≠ want) (hd : okD n o.dst = true)
    (h : TL P N n ops l (setF o.dst .any fr) σ Q) : TL P N n ops (o :: l) fr σ Q := fun S B ι a w hr => by
  have hx := hr.fr t _ hv
  have hb2 : a.tmps.getD t undef = .bool b := hx.inv_bool
  have ht2 : t < a.tmps.size := by
    rcases Nat.lt_or_ge t a.tmps.size with h1 | h1
    · exact h1
    · rw [Array.getD_eq_getD_getElem?, Array.getElem?_eq_none h1] at hb2
      simp [undef] at hb2
  have hw : Region.wanted o (yielded ops a.tmps) = false := by
    simp only [Region.wanted, hg, yielded, ht]
    rw [Array.getD_eq_getD_getElem?] at hb2
    cases hq : a.tmps[t]? with
    | none => rw [Array.getElem?_eq_none_iff] at hq; omega
    | some u =>
      rw [hq] at hb2
      simp at hb2; subst hb2
      simp [hq, hb]
  unfold wpList
  rw [if_neg (by simp [hw])]
  exact h S B ι _ w (hr.put (okD_lt hd) (.any _))

/-- An operation that its guard lets through. -/
theorem TL.let_ {ops : Array Oper} {o : Oper} {l : List Oper} {g : Nat} {want : Bool} {t : Nat} (v : V) (σ' : ASt) (hg : o.guard = some (g, want)) (ht : (ops[g]?).bind (·.dst) = some t) (hv : lk fr t = some (.bool want)) (hd : okD n o.dst = true)
    (hdo : Does P o fr σ v σ') (h : TL P N n ops l (setF o.dst v fr) σ' Q) : TL P N n ops (o :: l) fr σ Q := fun S B ι a w hr => by
  have hx := hr.fr t _ hv
  have hb2 : a.tmps.getD t undef = .bool want := hx.inv_bool
  have hw : Region.wanted o (yielded ops a.tmps) = true := by
    simp only [Region.wanted, hg, yielded, ht]
    rw [Array.getD_eq_getD_getElem?] at hb2
    cases hq : a.tmps[t]? with
    | none => rw [hq] at hb2; simp [undef] at hb2
    | some u =>
      rw [hq] at hb2
      simp at hb2; subst hb2
      simp [hq]
  refine wpList_step fun K hK => ?_
  rw [if_pos hw]
  refine hdo S B ι a w (fun x _ y hy => evalE_val hr hy) hr.mem K _ ?_
  intro u S' ι' w' hv hm hf
  exact hK _ _ (wpList_mono2 (QT.fw hf.toN) l _ _ (h S' B ι' _ w' ((hr.fw hf hm).put (okD_lt hd) hv)))
end
end Go.G36
