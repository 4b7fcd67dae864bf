/- Forms of the rules that are short to write. -/
import Derived.Test.YtmlfbendohecmaaKm
namespace Go.G36
variable [Genv]
set_option linter.all false
open Go

section
variable {P : Program} {n : Nat} {fr : Fr} {σ : ASt} {Q : Post} {ops : Array Oper} {o : Oper} {l : List Oper}

/-- A step with a destination. -/
theorem TL.st {N : Nat} {t : Nat} {v : V} {σ' : ASt} (hg : o.guard = none) (hd : o.dst = some t) (hb : Nat.blt t n = true) (hdo : Does P o fr σ v σ') (h : TL P N n ops l ((t, v) :: fr) σ' Q) : TL P N n ops (o :: l) fr σ Q :=
  TL.step v σ' hg (by rw [hd]; exact hb) hdo (by rw [hd]; exact h)
/-- A step without. -/
theorem TL.sn {N : Nat} {v : V} {σ' : ASt} (hg : o.guard = none) (hd : o.dst = none) (hdo : Does P o fr σ v σ') (h : TL P N n ops l fr σ' Q) : TL P N n ops (o :: l) fr σ Q :=
  TL.step v σ' hg (by rw [hd]; rfl) hdo (by rw [hd]; exact h)
/-- A step whose guard lets it through. -/
theorem TL.gt {N : Nat} {g t t' : Nat} {want : Bool} {v : V} {σ' : ASt} (hg : o.guard = some (g, want)) (ht : (ops[g]?).bind (·.dst) = some t') (hv : lk fr t' = some (.bool want)) (hd : o.dst = some t) (hb : Nat.blt t n = true) (hdo : Does P o fr σ v σ')
    (h : TL P N n ops l ((t, v) :: fr) σ' Q) : TL P N n ops (o :: l) fr σ Q := TL.let_ v σ' hg ht hv (by rw [hd]; exact hb) hdo (by rw [hd]; exact h)
/-- A step that its guard holds back. -/
theorem TL.gh {N : Nat} {g t t' : Nat} {want b : Bool} (hg : o.guard = some (g, want)) (ht : (ops[g]?).bind (·.dst) = some t') (hv : lk fr t' = some (.bool b)) (hne : (b == want) = false) (hd : o.dst = some t) (hb : Nat.blt t n = true)
    (h : TL P N n ops l ((t, .any) :: fr) σ Q) : TL P N n ops (o :: l) fr σ Q := TL.held hg ht hv (by simpa using hne) (by rw [hd]; exact hb) (by rw [hd]; exact h)
/-- The list's end, in front of more code. -/
theorem TL.nx {N : Nat} {K : Fr → ASt → Prop} (h : K fr σ) : TL P N n ops [] fr σ (thn K Q) := TL.nil h
/-- A call with several outcomes. -/
theorem TL.sq {N : Nat} {t : Nat} (R : V → ASt → Prop) (hg : o.guard = none) (hd : o.dst = some t) (hb : Nat.blt t n = true) (hdo : DoesQ P o fr σ R) (h : ∀ v σ', R v σ' → TL P N n ops l ((t, v) :: fr) σ' Q) : TL P N n ops (o :: l) fr σ Q :=
  TL.stepQ R hg (by rw [hd]; exact hb) hdo fun v σ' hR => by rw [hd]; exact h v σ' hR
end

/-! ### A region of open order, number by number -/
section
variable {P : Program} {fr : Fr} {σ : ASt} {ops : Array Oper} {o : Oper} {l : List Oper}
/-- The trace from here on. -/
def TD (P : Program) (ops : Array Oper) (l : List Oper) (fr : Fr) (σ : ASt) (pre : List Cl) (K : List Cl → Fr → ASt → Prop) : Prop := ∃ R fr' σ', Trc (fun _ => True) P ops l fr σ R fr' σ' ∧ K (pre ++ R.map (·.cl)) fr' σ'

theorem TD.nil {pre : List Cl} {K : List Cl → Fr → ASt → Prop} (h : K pre fr σ) : TD P ops [] fr σ pre K := ⟨[], fr, σ, .nil fr σ, by simpa using h⟩
theorem TD.q {pre : List Cl} {K : List Cl → Fr → ASt → Prop} (v : V) (hd : ∀ τ, DoG P ops o fr τ v τ) (h : TD P ops l (setF o.dst v fr) σ (pre ++ [.q]) K) : TD P ops (o :: l) fr σ pre K := by
  obtain ⟨R, fr', σ', h1, h2⟩ := h
  exact ⟨_, fr', σ', .q o l fr σ v R fr' σ' (fun τ _ => hd τ) h1, by simpa using h2⟩
theorem TD.r {pre : List Cl} {K : List Cl → Fr → ASt → Prop} (v : V) (hd : DoG P ops o fr σ v σ) (h : TD P ops l (setF o.dst v fr) σ (pre ++ [.r]) K) : TD P ops (o :: l) fr σ pre K := by
  obtain ⟨R, fr', σ', h1, h2⟩ := h
  exact ⟨_, fr', σ', .r o l fr σ v R fr' σ' hd h1, by simpa using h2⟩
theorem TD.a {pre : List Cl} {K : List Cl → Fr → ASt → Prop} (v : V) (τ : ASt) (hd : DoG P ops o fr σ v τ) (h : TD P ops l (setF o.dst v fr) τ (pre ++ [.a]) K) : TD P ops (o :: l) fr σ pre K := by
  obtain ⟨R, fr', σ', h1, h2⟩ := h
  exact ⟨_, fr', σ', .a o l fr σ τ v R fr' σ' hd h1, by simpa using h2⟩

/-- quiet, with a destination -/
theorem TD.qs {t : Nat} {v : V} {pre : List Cl} {K : List Cl → Fr → ASt → Prop} (hg : o.guard = none) (hd : o.dst = some t) (hdo : ∀ τ, Does P o fr τ v τ) (h : TD P ops l ((t, v) :: fr) σ (pre ++ [.q]) K) : TD P ops (o :: l) fr σ pre K :=
  TD.q v (fun τ => .inl ⟨hg, hdo τ⟩) (by rw [hd]; exact h)
theorem TD.rs {t : Nat} {v : V} {pre : List Cl} {K : List Cl → Fr → ASt → Prop} (hg : o.guard = none) (hd : o.dst = some t) (hdo : Does P o fr σ v σ) (h : TD P ops l ((t, v) :: fr) σ (pre ++ [.r]) K) : TD P ops (o :: l) fr σ pre K :=
  TD.r v (.inl ⟨hg, hdo⟩) (by rw [hd]; exact h)
theorem TD.as {t : Nat} {v : V} {τ : ASt} {pre : List Cl} {K : List Cl → Fr → ASt → Prop} (hg : o.guard = none) (hd : o.dst = some t) (hdo : Does P o fr σ v τ) (h : TD P ops l ((t, v) :: fr) τ (pre ++ [.a]) K) : TD P ops (o :: l) fr σ pre K :=
  TD.a v τ (.inl ⟨hg, hdo⟩) (by rw [hd]; exact h)
theorem TD.an {v : V} {τ : ASt} {pre : List Cl} {K : List Cl → Fr → ASt → Prop} (hg : o.guard = none) (hd : o.dst = none) (hdo : Does P o fr σ v τ) (h : TD P ops l fr τ (pre ++ [.a]) K) : TD P ops (o :: l) fr σ pre K :=
  TD.a v τ (.inl ⟨hg, hdo⟩) (by rw [hd]; exact h)
theorem TD.ga {g t t' : Nat} {want : Bool} {v : V} {τ : ASt} {pre : List Cl} {K : List Cl → Fr → ASt → Prop} (hg : o.guard = some (g, want)) (ht : (ops[g]?).bind (·.dst) = some t') (hv : lk fr t' = some (.bool want)) (hd : o.dst = some t) (hdo : Does P o fr σ v τ)
    (h : TD P ops l ((t, v) :: fr) τ (pre ++ [.a]) K) : TD P ops (o :: l) fr σ pre K := TD.a v τ (.inr (.inl ⟨g, want, t', hg, ht, hv, hdo⟩)) (by rw [hd]; exact h)
/-- with one that holds it back -/
theorem TD.gh {g t t' : Nat} {want b : Bool} {pre : List Cl} {K : List Cl → Fr → ASt → Prop} (hg : o.guard = some (g, want)) (ht : (ops[g]?).bind (·.dst) = some t') (hv : lk fr t' = some (.bool b)) (hne : (b == want) = false) (hd : o.dst = some t)
    (h : TD P ops l ((t, .any) :: fr) σ (pre ++ [.q]) K) : TD P ops (o :: l) fr σ pre K := TD.q .any (fun τ => .inr (.inr ⟨g, want, t', _, hg, ht, hv, .inr ⟨b, rfl, by simpa using hne⟩, .inl rfl, rfl⟩)) (by rw [hd]; exact h)

theorem T.drawn {N : Nat} {n id : Nat} {Q : Post} (hmix : P.follows .mixedOrders = true) (h : TD P l.toArray l fr σ [] fun cls fr' σ' => regOK n l cls = true ∧ Q .normal fr' σ') : T P N n (.region id l.toArray true) fr σ Q := by
  obtain ⟨R, fr', σ', h1, h2, h3⟩ := h
  exact T.draw hmix h1 trivial (fun _ _ _ => trivial) (by simpa using h2) h3
end

/-! ### Returning -/
def RetN (P : Program) (rs : List ResultVar) (Q : V → ASt → Prop) : Post := fun ex fr' σ' => (match ex with | .exit _ => False | _ => True) ∧ ∃ vs, Res P fr' σ' rs vs ∧ Q (resV vs) σ'

theorem CallT.of_TN {P : Program} {f : FuncId} {fn : Func} {c : Code} {n : Nat} {rs : List ResultVar} {args : List V} {σ : ASt} {Q : V → ASt → Prop} (hf : P.funcs[f]? = some fn) (hb : fn.body = some c) (hn : fn.ntmps = n) (hrs : fn.results.toList = rs) (hle : Nat.ble args.length n = true)
    (h : T P σ.length n c (argFr 0 args) σ (RetN P rs Q)) : CallT P f args σ Q := fun S B ι us w hm ha => by
  subst hrs
  refine calls_of_wp hf hb ?_
  have hle := Nat.le_of_ble_eq_true hle
  have hr : Rel S B ι n (argFr 0 args) σ { tmps := us ++ Array.replicate (fn.ntmps - us.size) undef, defers := [] } w := by
    refine ⟨by simp; have := ha.1; omega, rfl, fun t v hv => ?_, hm⟩
    obtain ⟨_, h2⟩ := argFr_get args 0 t v hv
    have hlt : t < us.size := by rw [← ha.1]; exact (List.getElem?_eq_some_iff.1 h2).1
    have := ha.2 t v us[t] (by simpa using h2) (by simp [hlt])
    rw [Array.getD_eq_getD_getElem?, Array.getElem?_append_left hlt, Array.getElem?_eq_getElem hlt]
    exact this
  refine wp_mono (h S B ι _ w hr) ?_
  rintro e a' w' ⟨ex, fr', σ', S', ι', rfl, hq, hr', hf'⟩
  obtain ⟨hex, vs, hres, hQ⟩ := hq
  obtain ⟨ul, h1, h2, h3⟩ := hres.run hr'
  have hrun : ∃ u, (results fn a'.tmps).run P w' = .ok u w' ∧ Val S' B (RefR ι' σ') w' (resV vs) u := by
    have heq : results fn a'.tmps = (do let vs ← fn.results.mapM (resOne a'.tmps); pure (if h : vs.size = 1 then vs[0] else .tuple vs)) := rfl
    rw [heq, Array.mapM_eq_mapM_toList]
    have : ((List.toArray <$> fn.results.toList.mapM (resOne a'.tmps) : Sem (Array Value))).run P w' = .ok ul.toArray w' := by simp [h1]
    rw [Sem.run_bind, this]
    match vs, ul, h2, h3 with
    | [], [], _, _ => exact ⟨_, rfl, .tup [] #[] rfl (by simp)⟩
    | [v], [u], _, h3 => exact ⟨u, rfl, h3 0 v u rfl rfl⟩
    | v1 :: v2 :: r, u1 :: u2 :: q, h2, h3 =>
      refine ⟨.tuple (u1 :: u2 :: q).toArray, ?_, .tup _ _ (by simpa using h2) fun i c u hc hu => h3 i c u hc (by simpa using hu)⟩
      simp
  obtain ⟨u, hu1, hu2⟩ := hrun
  have hpost : a'.defers = [] ∧ ∃ v, (results fn a'.tmps).run P w' = .ok v w' ∧
      ∃ u v' σ'' S'' ι'', Ending.returned v = .returned u ∧ Q v' σ'' ∧ Val S'' B (RefR ι'' σ'') w' v' u ∧ Mem S'' B ι'' σ'' w' ∧ Fw S ι σ w S'' ι'' σ'' w' :=
    ⟨hr'.dfr, u, hu1, u, resV vs, σ', S', ι', rfl, hQ, hu2, hr'.mem, hf'.full (Nat.le_refl _)⟩
  cases ex with
  | normal => exact hpost
  | ret => exact hpost
  | exit id => exact hex.elim

theorem RetN.t1 {P : Program} {t : Nat} {v : V} {fr : Fr} {σ : ASt} {Q : V → ASt → Prop} (hv : lk fr t = some v) (h : Q v σ) : RetN P [.tmp t] Q .ret fr σ := ⟨trivial, [v], .tmp t v [] [] hv .nil, h⟩
theorem RetN.n1 {P : Program} {t : Nat} {v : V} {fr : Fr} {σ : ASt} {Q : V → ASt → Prop} (hv : lk fr t = some v) (h : Q v σ) : RetN P [.tmp t] Q .normal fr σ := ⟨trivial, [v], .tmp t v [] [] hv .nil, h⟩
theorem RetN.t0 {P : Program} {fr : Fr} {σ : ASt} {Q : V → ASt → Prop} (h : Q (.tup []) σ) : RetN P [] Q .ret fr σ := ⟨trivial, [], .nil, h⟩
theorem RetN.t2 {P : Program} {t s : Nat} {v u : V} {fr : Fr} {σ : ASt} {Q : V → ASt → Prop} (hv : lk fr t = some v) (hu : lk fr s = some u) (h : Q (.tup [v, u]) σ) : RetN P [.tmp t, .tmp s] Q .ret fr σ :=
  ⟨trivial, [v, u], .tmp t v _ _ hv (.tmp s u [] [] hu .nil), h⟩
/-- A result that lies in a variable. -/
theorem RetN.c1 {P : Program} {t ty p j sz : Nat} {ag : Bool} {cs : List V} {v : V} {fr : Fr} {σ : ASt} {Q : V → ASt → Prop} (hv : lk fr t = some (.bx p j)) (hs : σ[p]? = some (.box cs)) (ht : TyS P ty ag sz) (hl : j + sz ≤ cs.length)
    (hw : wrapV ag ((cs.drop j).take sz) = some v) (h : Q v σ) : RetN P [.cell t ty] Q .ret fr σ := ⟨trivial, [v], .cell t ty p j sz ag cs v [] [] hv hs ht hl hw .nil, h⟩

theorem thn_ret {K : Fr → ASt → Prop} {Q : Post} {fr : Fr} {σ : ASt} (h : Q .ret fr σ) : thn K Q .ret fr σ := h
theorem thn_exit {K : Fr → ASt → Prop} {Q : Post} {fr : Fr} {σ : ASt} {id : Nat} (h : Q (.exit id) fr σ) : thn K Q (.exit id) fr σ := h
theorem thn_normal {K : Fr → ASt → Prop} {Q : Post} {fr : Fr} {σ : ASt} (h : K fr σ) : thn K Q .normal fr σ := h
theorem inB_ret {Q : Post} {fr : Fr} {σ : ASt} {id : Nat} (h : Q .ret fr σ) : inB id Q .ret fr σ := h
theorem inB_normal {Q : Post} {fr : Fr} {σ : ASt} {id : Nat} (h : Q .normal fr σ) : inB id Q .normal fr σ := h
theorem inB_here {Q : Post} {fr : Fr} {σ : ASt} {id : Nat} (h : Q .normal fr σ) : inB id Q (.exit id) fr σ := by simp only [inB, if_true]; exact h
theorem inB_other {Q : Post} {fr : Fr} {σ : ASt} {id id' : Nat} (hne : Nat.beq id' id = false) (h : Q (.exit id') fr σ) : inB id Q (.exit id') fr σ := by
  have : id' ≠ id := fun e => by subst e; rw [Nat.beq_refl] at hne; cases hne
  simp only [inB, this, if_false]; exact h
end Go.G36
