/- Functions that call themselves. -/
import Derived.Test.YtinppnmnmgcibaaGreatDoorKzc
import Derived.Laws.Cover3
namespace Go.G36
variable [Genv]
set_option linter.all false
open Go

section
variable {A R : Type}
end

/-- nil in a cell, told as a list of nothing. -/
theorem Does.nilc {P : Program} {o : Oper} {fr : Fr} {σ σ' : ASt} {v : V} {p : Nat} {cs : List V} (j : Nat) (h : Does P o fr σ v σ') (hs : σ'[p]? = some (.box cs)) (hj : cs[j]? = some .nilS) :
    Does P o fr σ v (σ'.set p (.box (cs.set j (.im false [])))) := fun S B ι a w he hm next Q hk =>
  h S B ι a w he hm next Q fun u S' ι' w' hv hm' hf' => by
    have hr : Rel S' B ι' 0 [] σ' { tmps := #[], defers := [] } w' := ⟨rfl, rfl, fun t x hx => by simp [lk] at hx, hm'⟩
    obtain ⟨r1, r2⟩ := Rel.cell (N := σ'.length) hr hs hj (v := .im false []) fun u hu => by
      rw [hu.inv_nilS]
      exact .cv _ _ CV.imNil
    have r3 := r2.full (Nat.le_refl _)
    exact hk u S' ι' w' (hv.mono (fun _ h => h) (fun _ h => h) (fun v u hr => r3.ref v u hr) fun _ _ => rfl) r1.mem (hf'.trans r3)

section
variable {P : Program} {o : Oper} {fr : Fr} {σ : ASt}
end

/-- The outcome may name what is left. -/
theorem CallT.finR {P : Program} {f : FuncId} {args : List V} {τ τ1 : ASt} {r : V} (h : CallT P f args τ (Fin τ1 r)) (hr : bel τ1.length r = true) (hl : Nat.ble τ.length τ1.length = true) (ho : belOs τ1.length τ1) : St P f args τ r τ1 := fun S B ι us w hm ha => by
  refine (h S B ι us w hm ha).mono ?_
  rintro e w' ⟨u, v, τ', S', ι', rfl, ⟨rfl, g, rfl⟩, hv, hm', hf⟩
  exact ⟨u, v, τ1, S', ι'.take τ1.length, rfl, ⟨rfl, rfl⟩, hv.take hr, hm'.drop fun a o h => ho.get a o h, hf.drop hm'.len (Nat.le_of_ble_eq_true hl)⟩

theorem LentL.get2 {σ : ASt} {cs ds : List V} (h : LentL σ cs ds) : cs.length = ds.length ∧ ∀ (i : Nat) (c d : V), cs[i]? = some c → ds[i]? = some d → Lent σ c d := by
  induction h with
  | nil => simp
  | cons c d cs ds h _ ih =>
    refine ⟨by simp [ih.1], fun i x y hx hy => ?_⟩
    cases i with
    | zero => simp at hx hy; subst hx; subst hy; exact h
    | succ i => simp at hx hy; exact ih.2 i x y hx hy
theorem Lent.aggL {σ : ASt} {cs ds : List V} (h : LentL σ cs ds) : Lent σ (.agg cs) (.agg ds) := .agg cs ds h.get2.1 h.get2.2

/-! ### Loops gone round by hand -/
def TR (P : Program) (N n : Nat) (c : Code) (Q : Post) : Nat → Fr → ASt → Prop
  | 0, _, _ => False
  | k + 1, fr, σ => T P N n c fr σ fun ex fr' σ' => match ex with
    | .normal => TR P N n c Q k fr' σ'
    | _ => Q ex fr' σ'
def PR (P : Program) (N n : Nat) (c : Code) (Q : Post) (k : Nat) : Post := fun ex fr' σ' => match ex with
    | .normal => TR P N n c Q k fr' σ'
    | _ => Q ex fr' σ'
section
variable {P : Program} {N n : Nat} {c : Code} {Q : Post} {k : Nat} {fr : Fr} {σ : ASt}
theorem TR.go (h : T P N n c fr σ (PR P N n c Q k)) : TR P N n c Q (k + 1) fr σ := h
end

/-! ### Slices compared with nil -/
theorem o_isNilQ {P : Program} {o : Oper} {fr : Fr} {σ : ASt} {t yt : TypeId} {x : Operand} {bor : Bool} {xs : List (List V)} (ho : o.op = .binOp .eql t x (.const (.slice none 0 0)) yt) (ht : ∃ e, P.underlying t = some (.slice e)) (hx : evalE fr x = some (.im bor xs)) :
    DoesQ P o fr σ fun v τ => (∃ b, v = .bool b ∧ (b = true → xs = [])) ∧ τ = σ := fun S B ι a w he hm next Q hk => by
  obtain ⟨A, cap, esz, vals, h1, hc, hA, hv, hone⟩ := (he x (by simp [ho, Op.operands]) _ hx).inv_im
  obtain ⟨e, ht⟩ := ht
  have hr : (execOp a.eval o).run P w = .ok (.value (.bool A.isNone)) w := by
    have h2 : a.eval (.const (.slice none 0 0)) = .slice none 0 0 := rfl
    have hb : (binOp .eql t (.slice A xs.length cap) (.slice none 0 0)).run P w = .ok (.bool A.isNone) w := by
      simp only [binOp]
      simp [run_equal_slice_nil w t e A xs.length cap ht]
    have hg := eqGuard_plain (P := P) (op := .eql) (t := t) (x := x) (y := .const (.slice none 0 0)) (a := .slice A xs.length cap) (b := .slice none 0 0) w trivial
    simp only [execOp, ho, h1, h2, Sem.run_bind, hg, Result.andThen_ok, hb, Sem.run_pure]
  unfold Oper.wp
  rw [hr]
  refine hk _ (.bool A.isNone) σ S ι w ⟨⟨_, rfl, fun hb => ?_⟩, rfl⟩ (.cv _ _ (.bool _)) hm (Fw.refl _ _ _ _)
  cases xs with
  | nil => rfl
  | cons r rs =>
    obtain ⟨b, off, h, _⟩ := hA (by simp)
    rw [h] at hb; cases hb

/-! ### Calls with a map of one's own as outcome -/
end Go.G36
