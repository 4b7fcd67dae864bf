/- Functions that call themselves. -/
import Derived.Test.YtnohlppnebcefaaGreatKzc
import Derived.Laws.Cover3
namespace Go.G36
variable [Genv]
set_option linter.all false
open Go

section
variable {A R : Type}
end

/-- nil in a cell, told as a list of nothing. -/
theorem Does.nilc {P : Program} {o : Oper} {fr : Fr} {σ σ' : ASt} {v : V} {p : Nat} {cs : List V} (j : Nat) (h : Does P o fr σ v σ') (hs : σ'[p]? = some (.box cs)) (hj : cs[j]? = some .nilS) :
    Does P o fr σ v (σ'.set p (.box (cs.set j (.im false [])))) := fun S B ι a w he hm next Q hk =>
  h S B ι a w he hm next Q fun u S' ι' w' hv hm' hf' => by
    have hr : Rel S' B ι' 0 [] σ' { tmps := #[], defers := [] } w' := ⟨rfl, rfl, fun t x hx => by simp [lk] at hx, hm'⟩
    obtain ⟨r1, r2⟩ := Rel.cell (N := σ'.length) hr hs hj (v := .im false []) fun u hu => by
      rw [hu.inv_nilS]
      exact .cv _ _ CV.imNil
    have r3 := r2.full (Nat.le_refl _)
    exact hk u S' ι' w' (hv.mono (fun _ h => h) (fun _ h => h) (fun v u hr => r3.ref v u hr) fun _ _ => rfl) r1.mem (hf'.trans r3)

theorem ne_struct {o : Option TypeDesc} {d : TypeDesc} (h : o = some d) (hd : (match d with | .struct _ => false | _ => true) = true) : ∀ fs, o ≠ some (.struct fs) := by
  intro fs hs
  rw [h] at hs
  cases hs
  cases hd

section
variable {P : Program} {o : Oper} {fr : Fr} {σ : ASt}
end

/-- The outcome may name what is left. -/
theorem CallT.finR {P : Program} {f : FuncId} {args : List V} {τ τ1 : ASt} {r : V} (h : CallT P f args τ (Fin τ1 r)) (hr : bel τ1.length r = true) (hl : Nat.ble τ.length τ1.length = true) (ho : belOs τ1.length τ1) : St P f args τ r τ1 := fun S B ι us w hm ha => by
  refine (h S B ι us w hm ha).mono ?_
  rintro e w' ⟨u, v, τ', S', ι', rfl, ⟨rfl, g, rfl⟩, hv, hm', hf⟩
  exact ⟨u, v, τ1, S', ι'.take τ1.length, rfl, ⟨rfl, rfl⟩, hv.take hr, hm'.drop fun a o h => ho.get a o h, hf.drop hm'.len (Nat.le_of_ble_eq_true hl)⟩

theorem LentL.get2 {σ : ASt} {cs ds : List V} (h : LentL σ cs ds) : cs.length = ds.length ∧ ∀ (i : Nat) (c d : V), cs[i]? = some c → ds[i]? = some d → Lent σ c d := by
  induction h with
  | nil => simp
  | cons c d cs ds h _ ih =>
    refine ⟨by simp [ih.1], fun i x y hx hy => ?_⟩
    cases i with
    | zero => simp at hx hy; subst hx; subst hy; exact h
    | succ i => simp at hx hy; exact ih.2 i x y hx hy
theorem Lent.aggL {σ : ASt} {cs ds : List V} (h : LentL σ cs ds) : Lent σ (.agg cs) (.agg ds) := .agg cs ds h.get2.1 h.get2.2

/-! ### Loops gone round by hand -/
def TR (P : Program) (N n : Nat) (c : Code) (Q : Post) : Nat → Fr → ASt → Prop
  | 0, _, _ => False
  | k + 1, fr, σ => T P N n c fr σ fun ex fr' σ' => match ex with
    | .normal => TR P N n c Q k fr' σ'
    | _ => Q ex fr' σ'
def PR (P : Program) (N n : Nat) (c : Code) (Q : Post) (k : Nat) : Post := fun ex fr' σ' => match ex with
    | .normal => TR P N n c Q k fr' σ'
    | _ => Q ex fr' σ'
section
variable {P : Program} {N n : Nat} {c : Code} {Q : Post} {k : Nat} {fr : Fr} {σ : ASt}
theorem TR.go (h : T P N n c fr σ (PR P N n c Q k)) : TR P N n c Q (k + 1) fr σ := h
end

/-! ### Slices compared with nil -/
/-! ### Calls with a map of one's own as outcome -/
def OwnM (P : Program) (f : FuncId) (rs : List V) (es : List (V × V)) : Prop := CallT P f rs [] fun v τ => ∃ k, v = .mp k ∧ τ[k]? = some (.mp es)
theorem o_callOwnM {P : Program} {o : Oper} {fr : Fr} {σ : ASt} {x : Operand} {args : Array Operand} {ts : Array TypeId} {f : FuncId} {first caps vs rs : List V} {es : List (V × V)} (ho : o.op = .call { callee := .value x, args := args, argTypes := ts })
    (hcall : ∀ (us : Array Value) (w : World), (callFunc f us).run P w = .ok (.enter f us) w) (hx : evalE fr x = some (.fn f first caps)) (ha : evalL fr args.toList = some vs) (hl : LentL σ (first ++ vs ++ caps) rs) (h : OwnM P f rs es)
    (hcl : ∀ e, e ∈ es → e.2.cl = true) : Does P o fr σ (.mp σ.length) (σ ++ [.mp es]) := fun S B ι a w he hm next Q hk => by
  obtain ⟨us, h1, h2⟩ := call_run ho hcall he hx ha
  unfold Oper.wp
  rw [h1]
  refine (h S (fun b => B b ∨ S b ∨ Lv ι σ b) [] us w hm.none ((hl.pw hm).2 us h2)).mono ?_
  rintro e w' ⟨u, v, τ, S1, ι1, rfl, ⟨k, rfl, h0⟩, hv, hm1, hf⟩
  have g : Grown w w' := ⟨hf.os, hf.tape, hf.output, hf.size, fun b hb => hf.keep b hb Lv_nil⟩
  have hkl := (List.getElem?_eq_some_iff.1 h0).1
  have hι1 : k < ι1.length := by rw [hm1.len]; exact hkl
  obtain ⟨l, hlι⟩ : ∃ l, ι1[k]? = some l := ⟨ι1[k], by simp [hι1]⟩
  have hO := hm1.obj k _ l h0 hlι
  have hnew : ∀ b, S1 b → S b ∨ w.heap.size ≤ b := fun b hb => by
    rcases hf.new b hb with h | h | h
    · exact .inl h
    · exact absurd h Lv_nil
    · exact .inr h
  cases l with
  | box b => exact hO.elim
  | row r => exact hO.elim
  | map r =>
    obtain ⟨en, clock, k2, k3, kB, k4⟩ := hO
    obtain ⟨hm', hf'⟩ := hm.pushN g (fun b => S1 b ∧ w.heap.size ≤ b) (fun b hb => ⟨hb.2, hm1.ltS b (.inl hb.1)⟩) (.mp es) (.map r) (fun b hb => by
      have hlv : Lv ι1 τ b := ⟨k, _, _, h0, hlι, hb⟩
      refine ⟨?_, fun hN => hm1.outS k _ _ b h0 hlι hb (.inl hN.1)⟩
      rcases hf.lv b hlv with h | h
      · exact absurd h Lv_nil
      · exact h) ⟨en, clock, k2, k3, kB, fun i kk x m hi hj => by
        obtain ⟨q1, q2⟩ := k4 i kk x m hi hj
        have up : ∀ b, S1 b → S b ∨ S1 b ∧ w.heap.size ≤ b := fun b hb => by
          rcases hnew b hb with h | h
          · exact .inl h
          · exact .inr ⟨hb, h⟩
        exact ⟨q1.mono up fun _ _ => rfl, .cv _ _ ((q2.closed (refOk _ _) (hcl _ (List.mem_of_getElem? hi))).mono up fun _ _ => rfl)⟩⟩
    refine hk u _ _ w' (.ref _ _ ?_) hm' hf'
    have hr := Val.inv_ref (v := .mp k) rfl trivial hv
    simp only [RefR, h0, hlι] at hr
    have q1 : (σ ++ [AO.mp es])[σ.length]? = some (.mp es) := by simp
    have q2 : (ι ++ [Loc.map r])[σ.length]? = some (.map r) := by simp [hm.len]
    simp only [RefR, q1, q2]
    exact hr
  | it r m =>
    have hr := Val.inv_ref (v := .mp k) rfl trivial hv
    simp only [RefR, h0, hlι] at hr
  | fam bs0 => exact hO.elim
  | afm vs0 => exact hO.elim
end Go.G36
