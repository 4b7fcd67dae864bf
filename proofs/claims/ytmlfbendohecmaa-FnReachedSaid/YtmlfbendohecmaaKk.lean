/- Garbage dropped; loops that make garbage; calls. -/
import Derived.Test.YtmlfbendohecmaaKj
namespace Go.G36
variable [Genv]
set_option linter.all false
open Go

theorem bel_mono {N M : Nat} (h : N ≤ M) : (v : V) → bel N v = true → bel M v = true := by
  have lt : ∀ a, Nat.blt a N = true → Nat.blt a M = true := fun a ha => by
    rw [Nat.blt_eq] at ha ⊢; omega
  intro v
  refine V.rec (motive_1 := fun v => bel N v = true → bel M v = true) (motive_2 := fun cs => bels N cs = true → bels M cs = true) (motive_3 := fun _ => True)
    ?_ ?_ ?_ ?_ ?_ ?_ ?_ ?_ ?_ ?_ ?_ ?_ ?_ ?_ ?_ ?_ ?_ ?_ ?_ ?_ ?_ ?_ ?_ v <;> intros <;> simp_all [bel, bels]

theorem belO_mono {N M : Nat} (h : N ≤ M) {o : AO} (ho : belO N o) : belO M o := by
  cases o with
  | arr m size xs =>
    cases m with
    | raw => exact fun row hr c hc => bel_mono h c (ho row hr c hc)
    | clo => trivial
    | tg t0 => trivial
    | frz => trivial
  | box cs => exact fun c hc => bel_mono h c (ho c hc)
  | mp es => exact fun e he => bel_mono h e.2 (ho e he)
  | dead => trivial
  | res => trivial
  | fam xs => exact fun row hr c hc => bel_mono h c (ho row hr c hc)
  | afm size xs => trivial

theorem ObjRep.take {S B : Nat → Prop} {ι : List Loc} {σ g : ASt} {w : World} {o : AO} {l : Loc} (h : ObjRep S B (RefR ι (σ ++ g)) w o l) (hb : belO σ.length o) : ObjRep S B (RefR (ι.take σ.length) σ) w o l := by
  cases o with
  | arr m size xs =>
    cases l with
    | row v =>
      obtain ⟨h1, e, vals, hown, ⟨h2, h3, h4⟩, h5, h6⟩ := h
      refine ⟨h1, e, vals, hown, ⟨h2, h3, fun i j row c hi hj => ?_⟩, h5, h6⟩
      obtain ⟨u, k1, k2⟩ := h4 i j row c hi hj
      refine ⟨u, k1, ?_⟩
      cases m with
      | raw => exact Val.take k2 (hb row (List.mem_of_getElem? hi) c (List.mem_of_getElem? hj))
      | clo => exact k2
      | tg t0 => exact k2
      | frz => exact k2
    | box b => exact h.elim
    | map r => exact h.elim
    | it r9 m9 => exact h.elim
    | fam bs0 => exact h.elim
    | afm vs0 => exact h.elim
  | box cs =>
    cases l with
    | box b =>
      obtain ⟨us, hh, ⟨h1, h2⟩, h3⟩ := h
      exact ⟨us, hh, ⟨h1, fun i c u hc hu => (h2 i c u hc hu).take (hb c (List.mem_of_getElem? hc))⟩, h3⟩
    | row v => exact h.elim
    | map r => exact h.elim
    | it r9 m9 => exact h.elim
    | fam bs0 => exact h.elim
    | afm vs0 => exact h.elim
  | mp es =>
    cases l with
    | map r =>
      obtain ⟨en, clock, hh, h1, hbn, h2⟩ := h
      exact ⟨en, clock, hh, h1, hbn, fun i k x m he hm => ⟨(h2 i k x m he hm).1, (h2 i k x m he hm).2.take (hb (k, x) (List.mem_of_getElem? he))⟩⟩
    | it r m =>
      obtain ⟨hne, en, clock, seen, c0, hh, hi, hbn, hc, h1, h2⟩ := h
      exact ⟨hne, en, clock, seen, c0, hh, hi, hbn, hc, h1, fun i k x e he hm => ⟨(h2 i k x e he hm).1, (h2 i k x e he hm).2.take (hb (k, x) (List.mem_of_getElem? he))⟩⟩
    | row v => exact h.elim
    | box b => exact h.elim
    | fam bs0 => exact h.elim
    | afm vs0 => exact h.elim
  | dead => trivial
  | res => trivial
  | fam xs =>
    cases l with
    | fam bs =>
      obtain ⟨h1, h2, h3⟩ := h
      refine ⟨h1, h2, fun i b cs hib hc => ?_⟩
      obtain ⟨us, e, hh, ⟨k1, k2⟩, k3⟩ := h3 i b cs hib hc
      exact ⟨us, e, hh, ⟨k1, fun j c u hj hu => (k2 j c u hj hu).take (hb cs (List.mem_of_getElem? hc) c (List.mem_of_getElem? hj))⟩, k3⟩
    | row v => exact h.elim
    | box b' => exact h.elim
    | map r => exact h.elim
    | it r9 m9 => exact h.elim
    | afm vs0 => exact h.elim
  | afm size xs =>
    cases l with
    | afm vs => exact h
    | row v => exact h.elim
    | box b' => exact h.elim
    | map r => exact h.elim
    | it r9 m9 => exact h.elim
    | fam bs0 => exact h.elim

theorem Mem.drop {S B : Nat → Prop} {ι : List Loc} {σ g : ASt} {w : World} (h : Mem S B ι (σ ++ g) w) (hb : ∀ (a : Nat) (o : AO), σ[a]? = some o → belO σ.length o) : Mem S B (ι.take σ.length) σ w := by
  have hle : σ.length ≤ ι.length := by rw [h.len]; simp
  have key : ∀ (a : Nat) (o : AO) (l : Loc), σ[a]? = some o → (ι.take σ.length)[a]? = some l → (σ ++ g)[a]? = some o ∧ ι[a]? = some l := fun a o l h1 h2 => by
    have ha := (List.getElem?_eq_some_iff.1 h1).1
    rw [List.getElem?_take, if_pos ha] at h2
    exact ⟨by rw [List.getElem?_append_left ha]; exact h1, h2⟩
  refine ⟨by simp; omega, fun a o l h1 h2 => ?_, fun a o l a' o' l' b h1 h2 h3 h4 h5 h6 => ?_, fun a o l b h1 h2 h3 => ?_, h.ltS, h.gl⟩
  · exact (h.obj a o l (key a o l h1 h2).1 (key a o l h1 h2).2).take (hb a o h1)
  · exact h.apart a o l a' o' l' b (key a o l h1 h2).1 (key a o l h1 h2).2 (key a' o' l' h3 h4).1 (key a' o' l' h3 h4).2 h5 h6
  · exact h.outS a o l b (key a o l h1 h2).1 (key a o l h1 h2).2 h3

theorem Fw.drop {S S' : Nat → Prop} {ι ι' : List Loc} {σ σ' g : ASt} {w w' : World} (h : Fw S ι σ w S' ι' (σ' ++ g) w') (hlen : ι'.length = (σ' ++ g).length) (hle : σ.length ≤ σ'.length) : Fw S ι σ w S' (ι'.take σ'.length) σ' w' :=
  ⟨h.os, h.tape, h.output, h.size, h.grow, h.new, h.keep, fun b ⟨a, o, l, h1, h2, h3⟩ => h.lv b ⟨a, o, l, by
      rw [List.getElem?_append_left (List.getElem?_eq_some_iff.1 h1).1]; exact h1, (by
      rw [List.getElem?_take] at h2
      split at h2
      · exact h2
      · cases h2), h3⟩, fun v u hr => (h.ref v u hr).take (bel_mono hle v hr.lt)⟩

theorem FwN.drop {N : Nat} {S S' : Nat → Prop} {ι ι' : List Loc} {σ σ' g : ASt} {w w' : World} (h : FwN N S ι σ w S' ι' (σ' ++ g) w') (hlen : ι'.length = (σ' ++ g).length) (hle : σ.length ≤ σ'.length) : FwN N S ι σ w S' (ι'.take σ'.length) σ' w' :=
  ⟨h.os, h.tape, h.output, h.size, h.grow, h.new, h.keep, fun b ⟨a, o, l, h1, h2, h3⟩ => h.lv b ⟨a, o, l, by
      rw [List.getElem?_append_left (List.getElem?_eq_some_iff.1 h1).1]; exact h1, (by
      rw [List.getElem?_take] at h2
      split at h2
      · exact h2
      · cases h2), h3⟩, fun v u hb hr => (h.ref v u hb hr).take (bel_mono hle v hr.lt)⟩

theorem FwN.full {N : Nat} {S S' : Nat → Prop} {ι ι' : List Loc} {σ σ' : ASt} {w w' : World} (h : FwN N S ι σ w S' ι' σ' w') (hN : σ.length ≤ N) : Fw S ι σ w S' ι' σ' w' :=
  ⟨h.os, h.tape, h.output, h.size, h.grow, h.new, h.keep, h.lv, fun v u hr => h.ref v u (bel_mono hN v hr.lt) hr⟩

/-- What the abstract state gives up: objects from some number on, slots. -/
structure Shr (N : Nat) (σ0 : ASt) (fr : Fr) (σ : ASt) (fr' : Fr) (σ' : ASt) : Prop where
  pre : ∃ g, σ = σ' ++ g
  len : N ≤ σ'.length
  obj : ∀ (a : Nat) (o : AO), σ'[a]? = some o → belO σ'.length o ∨ σ0[a]? = some o
  fr : ∀ t v, lk fr' t = some v → lk fr t = some v ∧ bel σ'.length v = true

theorem Mem.belO {S B : Nat → Prop} {ι : List Loc} {σ : ASt} {w : World} (h : Mem S B ι σ w) {a : Nat} {o : AO} (ha : σ[a]? = some o) : belO σ.length o := by
  have hlt : a < ι.length := by rw [h.len]; exact (List.getElem?_eq_some_iff.1 ha).1
  have hι : ι[a]? = some ι[a] := by simp [hlt]
  exact (h.obj a o _ ha hι).bel

theorem Rel.shrink {S0 B : Nat → Prop} {ι0 : List Loc} {σ0 : ASt} {w0 : World} (hm0 : Mem S0 B ι0 σ0 w0) {S : Nat → Prop} {ι : List Loc} {n N M : Nat} {fr fr' : Fr} {σ σ' : ASt} {a : Act} {w : World} (h : Rel S B ι n fr σ a w)
    (hf : FwN M S0 ι0 σ0 w0 S ι σ w) (hs : Shr N σ0 fr σ fr' σ') (hN : σ0.length ≤ N) : ∃ ι', Rel S B ι' n fr' σ' a w ∧ FwN M S0 ι0 σ0 w0 S ι' σ' w := by
  obtain ⟨⟨g, rfl⟩, hlen, hobj, hfr⟩ := hs
  refine ⟨ι.take σ'.length, ⟨h.size, h.dfr, fun t v hv => (h.fr t v (hfr t v hv).1).take (hfr t v hv).2, h.mem.drop fun a o ha => ?_⟩, hf.drop h.mem.len (by omega)⟩
  rcases hobj a o ha with h1 | h1
  · exact h1
  · exact belO_mono (by omega) (hm0.belO h1)

/-- A loop whose rounds may leave garbage. -/
theorem T.loopD {N : Nat} {P : Program} {n : Nat} {fr : Fr} {σ : ASt} {Q : Post} {c : Code} (I : Nat → Fr → ASt → Prop) (k : Nat) (h0 : I k fr σ)
    (h : ∀ k fr σ, I k fr σ → T P N n c fr σ (thn (fun fr' σ' => ∃ k' fr2 σ2, k' < k ∧ I k' fr2 σ2 ∧ Shr σ.length σ fr' σ' fr2 σ2) Q)) : T P N n (.loop c) fr σ Q := fun S B ι a w hr => by
  refine wp_loop_rounds (k + 1) ?_
  have key : ∀ k fr σ S ι a w S0 ι0 σ0 w0, I k fr σ → Rel S B ι n fr σ a w → FwN N S0 ι0 σ0 w0 S ι σ w → Code.rounds P c (QT N Q S0 B ι0 σ0 w0 n) (k + 1) a w := by
    intro k
    induction k using Nat.strongRecOn with
    | _ k ih =>
      intro fr σ S ι a w S0 ι0 σ0 w0 hI hr hf
      refine wp_mono (h k fr σ hI S B ι a w hr) ?_
      rintro e a' w' ⟨ex, fr', σ', S', ι', rfl, hq, hr', hf'⟩
      cases ex with
      | normal =>
        obtain ⟨k', fr2, σ2, hk, hI', hs⟩ := hq
        obtain ⟨ι2, hr2, hf2⟩ := hr'.shrink hr.mem hf' hs (Nat.le_refl _)
        exact rounds_mono (by omega) (ih k' hk fr2 σ2 S' ι2 a' w' S0 ι0 σ0 w0 hI' hr2 (hf.trans hf2))
      | exit id => exact ⟨.exit id, fr', σ', S', ι', rfl, hq, hr', hf.trans hf'⟩
      | ret => exact ⟨.ret, fr', σ', S', ι', rfl, hq, hr', hf.trans hf'⟩
  exact key k fr σ S ι a w S ι σ w h0 hr (FwN.refl _ _ _ _ _)

/-! ### Calls -/
def CallT (P : Program) (f : FuncId) (args : List V) (σ : ASt) (Q : V → ASt → Prop) : Prop :=
  ∀ (S B : Nat → Prop) (ι : List Loc) (us : Array Value) (w : World), Mem S B ι σ w → PW (Val S B (RefR ι σ) w) args us →
    Calls P f us w fun e w' => ∃ u v σ' S' ι', e = .returned u ∧ Q v σ' ∧ Val S' B (RefR ι' σ') w' v u ∧ Mem S' B ι' σ' w' ∧ Fw S ι σ w S' ι' σ' w'

theorem CallT.mono {P : Program} {f : FuncId} {args : List V} {σ : ASt} {Q Q' : V → ASt → Prop} (h : CallT P f args σ Q) (hq : ∀ v σ', Q v σ' → Q' v σ') : CallT P f args σ Q' := fun S B ι us w hm ha =>
  (h S B ι us w hm ha).mono fun e w' ⟨u, v, σ', S', ι', h1, h2, h3, h4, h5⟩ => ⟨u, v, σ', S', ι', h1, hq v σ' h2, h3, h4, h5⟩

def argFr : Nat → List V → Fr
  | _, [] => []
  | i, v :: r => (i, v) :: argFr (i + 1) r

theorem argFr_get : ∀ (l : List V) (i t : Nat) (v : V), lk (argFr i l) t = some v → i ≤ t ∧ l[t - i]? = some v
  | [], i, t, v, h => by simp [argFr, lk] at h
  | x :: r, i, t, v, h => by
    simp only [argFr, lk] at h
    split at h
    · rename_i he
      have := Nat.eq_of_beq_eq_true he
      subst this
      exact ⟨Nat.le_refl _, by simpa using h⟩
    · rename_i he
      obtain ⟨h1, h2⟩ := argFr_get r (i + 1) t v h
      refine ⟨by omega, ?_⟩
      rw [show t - i = (t - (i + 1)) + 1 by omega]
      simpa using h2

/-- The results of a function, one by one. -/
inductive Res (P : Program) (fr : Fr) (σ : ASt) : List ResultVar → List V → Prop where
  | nil : Res P fr σ [] []
  | tmp (t : Tmp) (v : V) (l : List ResultVar) (vs : List V) (h : lk fr t = some v) (r : Res P fr σ l vs) : Res P fr σ (.tmp t :: l) (v :: vs)
  | cell (t : Tmp) (ty : TypeId) (p j sz : Nat) (ag : Bool) (cs : List V) (v : V) (l : List ResultVar) (vs : List V) (h : lk fr t = some (.bx p j)) (hs : σ[p]? = some (.box cs)) (ht : TyS P ty ag sz) (hl : j + sz ≤ cs.length)
      (hv : wrapV ag ((cs.drop j).take sz) = some v) (r : Res P fr σ l vs) : Res P fr σ (.cell t ty :: l) (v :: vs)

def resV : List V → V
  | [v] => v
  | vs => .tup vs

def resOne (tmps : Array Value) : ResultVar → Sem Value
  | .tmp t => pure (tmps.getD t undef)
  | .cell c t => do loadVar t (← asAddr (tmps.getD c undef))

theorem Res.run {P : Program} {S B : Nat → Prop} {ι : List Loc} {n : Nat} {fr : Fr} {σ : ASt} {a : Act} {w : World} (h : Rel S B ι n fr σ a w) {l : List ResultVar} {vs : List V} (hr : Res P fr σ l vs) :
    ∃ us : List Value, (l.mapM (resOne a.tmps)).run P w = .ok us w ∧ vs.length = us.length ∧ ∀ (i : Nat) (c : V) (u : Value), vs[i]? = some c → us[i]? = some u → Val S B (RefR ι σ) w c u := by
  induction hr with
  | nil => exact ⟨[], by simp, rfl, fun i c u hc => by simp at hc⟩
  | tmp t v l vs hv _ ih =>
    obtain ⟨us, h1, h2, h3⟩ := ih
    refine ⟨a.tmps.getD t undef :: us, by simp [List.mapM_cons, resOne, h1], by simp [h2], fun i c u hc hu => ?_⟩
    cases i with
    | zero => simp only [List.getElem?_cons_zero, Option.some.injEq] at hc hu; subst hc; subst hu; exact h.fr t _ hv
    | succ i => simp at hc hu; exact h3 i c u hc hu
  | cell t ty p j sz ag cs v l vs hv hs ht hl hw _ ih =>
    obtain ⟨us, h1, h2, h3⟩ := ih
    obtain ⟨b, e0, hb2, hu, _⟩ := RefR.bx (Val.inv_ref (v := .bx p j) rfl trivial (h.fr t _ hv)) hs
    have hload : ∃ u, (loadVar ty ⟨b, j, none⟩).run P w = .ok u w ∧ Val S B (RefR ι σ) w v u := by
      obtain ⟨us, hh, ⟨hcl, hcv⟩, _⟩ := h.mem.obj p _ _ hs hb2
      have hone := wrapV_one (by simp; omega) hw
      have hget : ∀ q, j + q < us.size → us[j + q]? = some (us.toList.getD (j + q) undef) := fun q hq => by simp [hq]
      have hr := run_loadAt_gen (P := P) w b j (fun q => us.toList.getD (j + q) undef) ht hone fun q hq => by
        have : j + q < us.size := by simp at hcl; omega
        simp only [World.cell?, hh, Option.isSome_none, Bool.false_eq_true, if_false]
        exact hget q this
      simp only [Instr.loadAt, Instr.sureAddr, Sem.run_bind, Sem.run_pure, Result.andThen_ok] at hr
      refine ⟨_, hr, load_val (f := fun q => us.toList.getD (j + q) undef) hone (by simp; omega) (fun q c hc => ?_) hw⟩
      rw [List.getElem?_drop] at hc
      have hlt : j + q < us.toList.length := hcl ▸ (List.getElem?_eq_some_iff.1 hc).1
      exact hcv (j + q) c _ hc (by rw [Array.getElem?_toList]; exact hget q (by simpa using hlt))
    obtain ⟨u, k1, k2⟩ := hload
    refine ⟨u :: us, by simp only [List.mapM_cons, resOne, hu, asAddr]; simp [k1, h1], by simp [h2], fun i c u' hc hu' => ?_⟩
    cases i with
    | zero => simp only [List.getElem?_cons_zero, Option.some.injEq] at hc hu'; subst hc; subst hu'; exact k2
    | succ i => simp at hc hu'; exact h3 i c u' hc hu'

end Go.G36
