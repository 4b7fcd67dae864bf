/- Functions that call themselves. -/
import Derived.Test.YtmlfbendohecmaaKzc
import Derived.Laws.Cover3
namespace Go.G36
variable [Genv]
set_option linter.all false
open Go

section
variable {A R : Type}
end

theorem ne_struct {o : Option TypeDesc} {d : TypeDesc} (h : o = some d) (hd : (match d with | .struct _ => false | _ => true) = true) : ∀ fs, o ≠ some (.struct fs) := by
  intro fs hs
  rw [h] at hs
  cases hs
  cases hd

section
variable {P : Program} {o : Oper} {fr : Fr} {σ : ASt}
end

/-- The outcome may name what is left. -/
theorem CallT.finR {P : Program} {f : FuncId} {args : List V} {τ τ1 : ASt} {r : V} (h : CallT P f args τ (Fin τ1 r)) (hr : bel τ1.length r = true) (hl : Nat.ble τ.length τ1.length = true) (ho : belOs τ1.length τ1) : St P f args τ r τ1 := fun S B ι us w hm ha => by
  refine (h S B ι us w hm ha).mono ?_
  rintro e w' ⟨u, v, τ', S', ι', rfl, ⟨rfl, g, rfl⟩, hv, hm', hf⟩
  exact ⟨u, v, τ1, S', ι'.take τ1.length, rfl, ⟨rfl, rfl⟩, hv.take hr, hm'.drop fun a o h => ho.get a o h, hf.drop hm'.len (Nat.le_of_ble_eq_true hl)⟩

/-! ### Loops gone round by hand -/
def TR (P : Program) (N n : Nat) (c : Code) (Q : Post) : Nat → Fr → ASt → Prop
  | 0, _, _ => False
  | k + 1, fr, σ => T P N n c fr σ fun ex fr' σ' => match ex with
    | .normal => TR P N n c Q k fr' σ'
    | _ => Q ex fr' σ'
def PR (P : Program) (N n : Nat) (c : Code) (Q : Post) (k : Nat) : Post := fun ex fr' σ' => match ex with
    | .normal => TR P N n c Q k fr' σ'
    | _ => Q ex fr' σ'
section
variable {P : Program} {N n : Nat} {c : Code} {Q : Post} {k : Nat} {fr : Fr} {σ : ASt}
theorem TR.go (h : T P N n c fr σ (PR P N n c Q k)) : TR P N n c Q (k + 1) fr σ := h
end

/-! ### Slices compared with nil -/
theorem o_isNilQ {P : Program} {o : Oper} {fr : Fr} {σ : ASt} {t yt : TypeId} {x : Operand} {bor : Bool} {xs : List (List V)} (ho : o.op = .binOp .eql t x (.const (.slice none 0 0)) yt) (ht : ∃ e, P.underlying t = some (.slice e)) (hx : evalE fr x = some (.im bor xs)) :
    DoesQ P o fr σ fun v τ => (∃ b, v = .bool b ∧ (b = true → xs = [])) ∧ τ = σ := fun S B ι a w he hm next Q hk => by
  obtain ⟨A, cap, esz, vals, h1, hc, hA, hv, hone⟩ := (he x (by simp [ho, Op.operands]) _ hx).inv_im
  obtain ⟨e, ht⟩ := ht
  have hr : (execOp a.eval o).run P w = .ok (.value (.bool A.isNone)) w := by
    have h2 : a.eval (.const (.slice none 0 0)) = .slice none 0 0 := rfl
    have hb : (binOp .eql t (.slice A xs.length cap) (.slice none 0 0)).run P w = .ok (.bool A.isNone) w := by
      simp only [binOp]
      simp [run_equal_slice_nil w t e A xs.length cap ht]
    have hg := eqGuard_plain (P := P) (op := .eql) (t := t) (x := x) (y := .const (.slice none 0 0)) (a := .slice A xs.length cap) (b := .slice none 0 0) w trivial
    simp only [execOp, ho, h1, h2, Sem.run_bind, hg, Result.andThen_ok, hb, Sem.run_pure]
  unfold Oper.wp
  rw [hr]
  refine hk _ (.bool A.isNone) σ S ι w ⟨⟨_, rfl, fun hb => ?_⟩, rfl⟩ (.cv _ _ (.bool _)) hm (Fw.refl _ _ _ _)
  cases xs with
  | nil => rfl
  | cons r rs =>
    obtain ⟨b, off, h, _⟩ := hA (by simp)
    rw [h] at hb; cases hb

/-! ### Calls with a map of one's own as outcome -/
def OwnM (P : Program) (f : FuncId) (rs : List V) (es : List (V × V)) : Prop := CallT P f rs [] fun v τ => ∃ k, v = .mp k ∧ τ[k]? = some (.mp es)
theorem o_callOwnM {P : Program} {o : Oper} {fr : Fr} {σ : ASt} {x : Operand} {args : Array Operand} {ts : Array TypeId} {f : FuncId} {first caps vs rs : List V} {es : List (V × V)} (ho : o.op = .call { callee := .value x, args := args, argTypes := ts })
    (hcall : ∀ (us : Array Value) (w : World), (callFunc f us).run P w = .ok (.enter f us) w) (hx : evalE fr x = some (.fn f first caps)) (ha : evalL fr args.toList = some vs) (hl : LentL σ (first ++ vs ++ caps) rs) (h : OwnM P f rs es)
    (hcl : ∀ e, e ∈ es → e.2.cl = true) : Does P o fr σ (.mp σ.length) (σ ++ [.mp es]) := fun S B ι a w he hm next Q hk => by
  obtain ⟨us, h1, h2⟩ := call_run ho hcall he hx ha
  unfold Oper.wp
  rw [h1]
  refine (h S (fun b => B b ∨ S b ∨ Lv ι σ b) [] us w hm.none ((hl.pw hm).2 us h2)).mono ?_
  rintro e w' ⟨u, v, τ, S1, ι1, rfl, ⟨k, rfl, h0⟩, hv, hm1, hf⟩
  have g : Grown w w' := ⟨hf.os, hf.tape, hf.output, hf.size, fun b hb => hf.keep b hb Lv_nil⟩
  have hkl := (List.getElem?_eq_some_iff.1 h0).1
  have hι1 : k < ι1.length := by rw [hm1.len]; exact hkl
  obtain ⟨l, hlι⟩ : ∃ l, ι1[k]? = some l := ⟨ι1[k], by simp [hι1]⟩
  have hO := hm1.obj k _ l h0 hlι
  have hnew : ∀ b, S1 b → S b ∨ w.heap.size ≤ b := fun b hb => by
    rcases hf.new b hb with h | h | h
    · exact .inl h
    · exact absurd h Lv_nil
    · exact .inr h
  cases l with
  | box b => exact hO.elim
  | row r => exact hO.elim
  | map r =>
    obtain ⟨en, clock, k2, k3, kB, k4⟩ := hO
    obtain ⟨hm', hf'⟩ := hm.pushN g (fun b => S1 b ∧ w.heap.size ≤ b) (fun b hb => ⟨hb.2, hm1.ltS b (.inl hb.1)⟩) (.mp es) (.map r) (fun b hb => by
      have hlv : Lv ι1 τ b := ⟨k, _, _, h0, hlι, hb⟩
      refine ⟨?_, fun hN => hm1.outS k _ _ b h0 hlι hb (.inl hN.1)⟩
      rcases hf.lv b hlv with h | h
      · exact absurd h Lv_nil
      · exact h) ⟨en, clock, k2, k3, kB, fun i kk x m hi hj => by
        obtain ⟨q1, q2⟩ := k4 i kk x m hi hj
        have up : ∀ b, S1 b → S b ∨ S1 b ∧ w.heap.size ≤ b := fun b hb => by
          rcases hnew b hb with h | h
          · exact .inl h
          · exact .inr ⟨hb, h⟩
        exact ⟨q1.mono up fun _ _ => rfl, .cv _ _ ((q2.closed (refOk _ _) (hcl _ (List.mem_of_getElem? hi))).mono up fun _ _ => rfl)⟩⟩
    refine hk u _ _ w' (.ref _ _ ?_) hm' hf'
    have hr := Val.inv_ref (v := .mp k) rfl trivial hv
    simp only [RefR, h0, hlι] at hr
    have q1 : (σ ++ [AO.mp es])[σ.length]? = some (.mp es) := by simp
    have q2 : (ι ++ [Loc.map r])[σ.length]? = some (.map r) := by simp [hm.len]
    simp only [RefR, q1, q2]
    exact hr
  | it r m =>
    have hr := Val.inv_ref (v := .mp k) rfl trivial hv
    simp only [RefR, h0, hlι] at hr
  | fam bs0 => exact hO.elim
  | afm vs0 => exact hO.elim
end Go.G36
