/- Drawn regions whose stores depend on what is done: in any order that the program leaves open. -/
import Derived.Test.YtnohlppnebcefaaGreatKzd
namespace Go.G36
variable [Genv]
set_option linter.all false
open Go

def updb (b : Nat → Bool) (k : Nat) : Nat → Bool := fun j => if Nat.beq j k then true else b j

def regS (n : Nat) (l : List Oper) : Bool :=
  nodupD (l.map (·.dst)) && l.all (fun o => okD n o.dst) &&
  (List.range l.length).all fun i => match l[i]? with
    | none => true
    | some o =>
      (o.after.toList.all fun e => !(Region.binds .any e) || Nat.blt e.on i) &&
      ((o.looksAt l.toArray).all fun t => (List.range l.length).all fun j => match l[j]? with
        | none => true
        | some oj => !(hasD oj.dst t) || Nat.beq j i || fixed l i j)

/-- What is shown of an operation: at each store at which it may run. -/
def OpAt (P : Program) (L : List Oper) (st : (Nat → Bool) → ASt) (fr : Fr) (R : List Rc) (k : Nat) (c : Rc) (o : Oper) : Prop :=
  c.dst = o.dst ∧ ∃ fri, (∀ t, t ∈ o.looksAt L.toArray → lk fri t = lkR fr (lt_ k) 0 R t) ∧
    ∀ b : Nat → Bool, (∀ j, ahead L k j = true → b j = true) → (∀ j, ahead L j k = true → b j = false) → b k = false → (∀ i j, Nat.blt i L.length = true → ahead L i j = true → b i = true → b j = true) → DoG P L.toArray o fri (st b) c.v (st (updb b k))
inductive OpsAt (P : Program) (L : List Oper) (st : (Nat → Bool) → ASt) (fr : Fr) (R0 : List Rc) : Nat → List Rc → List Oper → Prop where
  | nil (k : Nat) : OpsAt P L st fr R0 k [] []
  | cons (k : Nat) (c : Rc) (o : Oper) (R : List Rc) (l : List Oper) (h : OpAt P L st fr R0 k c o) (t : OpsAt P L st fr R0 (k + 1) R l) : OpsAt P L st fr R0 k (c :: R) (o :: l)
theorem OpsAt.get {P : Program} {L : List Oper} {st : (Nat → Bool) → ASt} {fr : Fr} {R0 : List Rc} {k : Nat} {R : List Rc} {l : List Oper} (h : OpsAt P L st fr R0 k R l) :
    R.length = l.length ∧ ∀ (i : Nat) (c : Rc) (o : Oper), R[i]? = some c → l[i]? = some o → OpAt P L st fr R0 (k + i) c o := by
  induction h with
  | nil => simp
  | cons k c o R l h _ ih =>
    refine ⟨by simp [ih.1], fun i x y hx hy => ?_⟩
    cases i with
    | zero => simp at hx hy; subst hx; subst hy; exact h
    | succ i => simp at hx hy; have := ih.2 i x y hx hy; rwa [show k + (i + 1) = k + 1 + i by omega]

theorem T.drawS {N : Nat} {P : Program} {n : Nat} {id : Nat} {l : List Oper} {fr fr' : Fr} {σ : ASt} {R : List Rc} {Q : Post} (st : (Nat → Bool) → ASt) (hmix : P.follows .mixedOrders = true) (hops : OpsAt P l st fr R 0 R l)
    (hcg : ∀ b b' : Nat → Bool, (∀ j, j < l.length → b j = b' j) → st b = st b') (h0 : st (fun _ => false) = σ) (hok : regS n l = true) (hfr' : ∀ t v, lk fr' t = some v → lkR fr (fun _ => true) 0 R t = some v) (hQ : Q .normal fr' (st fun _ => true)) :
    T P N n (.region id l.toArray true) fr σ Q := fun S B ι a w hr => by
  simp only [regS, Bool.and_eq_true] at hok
  obtain ⟨⟨hnd, hdn⟩, hall⟩ := hok
  obtain ⟨hlen, hat0⟩ := hops.get
  have hat : ∀ (i : Nat) (c : Rc) (o : Oper), R[i]? = some c → l[i]? = some o → OpAt P l st fr R i c o := fun i c o hc ho => by have := hat0 i c o hc ho; rwa [Nat.zero_add] at this
  have hdst : ∀ (i : Nat) (c : Rc) (o : Oper), R[i]? = some c → l[i]? = some o → c.dst = o.dst := fun i c o hc ho => (hat i c o hc ho).1
  have hw0 : Fw S ι σ w S ι σ { w with drawn := w.drawn + 1 } := ⟨rfl, rfl, rfl, Nat.le_refl _, fun _ h => h, fun _ h => .inl h, fun _ _ _ => rfl, fun _ h => .inl h, fun _ _ h => h⟩
  have hm0 : Mem S B ι σ { w with drawn := w.drawn + 1 } := by
    have := hr.mem.grow (w' := { w with drawn := w.drawn + 1 }) ⟨rfl, rfl, rfl, Nat.le_refl _, fun _ _ => rfl⟩ (fun _ => False) (fun b h => h.elim)
    have e : (fun b => S b ∨ False) = S := by funext b; simp
    rw [e] at this
    exact this.1
  -- what holds while it runs
  let b : Array Bool → Nat → Bool := fun L j => L.getD j false
  let I : Array Bool → Act → World → Prop := fun L a' w' => L.size = l.length ∧ a'.tmps.size = n ∧ a'.defers = [] ∧ Closed l (b L) ∧
    ∃ S' ι', Mem S' B ι' (st (b L)) w' ∧ Fw S ι σ w S' ι' (st (b L)) w' ∧ ∀ t x, lkR fr (b L) 0 R t = some x → Val S' B (RefR ι' (st (b L))) w' x (a'.tmps.getD t undef)
  refine wp_region_any hmix (wpAny_inv I (fun L a w h => by rw [h.1]; simp) ?_ ?_ _ _ _ _ ?_ ?_)
  · -- a step
    intro L a' w' i hI hi
    obtain ⟨hL, hts, hdf, hcl, S', ι', hm, hf, hval⟩ := hI
    obtain ⟨hun, o, ho', hneeds⟩ := mem_ready.1 hi
    have ho : l[i]? = some o := by simpa using ho'
    have hil : i < l.length := (List.getElem?_eq_some_iff.1 ho).1
    have hiR : i < R.length := by omega
    have hc : R[i]? = some R[i] := by simp
    generalize R[i] = c at hc
    have hbi : b L i = false := by
      show L.getD i false = false
      rw [Array.getD_eq_getD_getElem?] at hun ⊢
      rw [Array.getElem?_eq_getElem (by omega)] at hun ⊢
      simpa using hun
    -- what has to be ahead is done, what has to be behind is not
    have done_ : ∀ j, ahead l i j = true → b L j = true := ahead_listed hcl i i o (Nat.le_refl _) ho fun e he hb => hneeds e he hb
    have notyet : ∀ j, j < l.length → ahead l j i = true → b L j = false := fun j hj ha => by
      cases hx : b L j with
      | false => rfl
      | true =>
        have hoj : l[j]? = some l[j] := by simp
        have := ahead_listed hcl j j _ (Nat.le_refl _) hoj (fun e he hb => hcl j _ hoj hx e he hb) i ha
        rw [hbi] at this; cases this
    have hfix : ∀ j, j < l.length → (Nat.beq j i || fixed l i j) = true → b L j = lt_ i j := fun j hj hfx => by
      rw [Bool.or_eq_true] at hfx
      rcases hfx with h | h
      · have := Nat.eq_of_beq_eq_true h
        subst this
        rw [hbi]
        cases hx : lt_ j j with
        | false => rfl
        | true => rw [lt_iff] at hx; omega
      · simp only [fixed, Bool.or_eq_true, Bool.and_eq_true, Nat.blt_eq] at h
        rcases h with ⟨h1, h2⟩ | ⟨h1, h2⟩
        · rw [done_ j h2, lt_iff.2 h1]
        · rw [notyet j hj h2]
          cases hx : lt_ i j with
          | false => rfl
          | true => rw [lt_iff] at hx; omega
    have hrow := List.all_eq_true.1 hall i (List.mem_range.2 hil)
    rw [ho] at hrow
    simp only [Bool.and_eq_true] at hrow
    obtain ⟨_, hlook⟩ := hrow
    obtain ⟨_, fri, hfri, hev⟩ := hat i c o hc ho
    have hlk : ∀ t, t ∈ o.looksAt l.toArray → lk fri t = lkR fr (b L) 0 R t := fun t htm => by
      rw [hfri t htm]
      refine (lkR_congr R 0 fun j cj hcj hdj => ?_).symm
      rw [Nat.zero_add]
      have hj : j < l.length := by rw [← hlen]; exact (List.getElem?_eq_some_iff.1 hcj).1
      have hoj : l[j]? = some l[j] := by simp
      have h1 := List.all_eq_true.1 (List.all_eq_true.1 hlook t htm) j (List.mem_range.2 hj)
      rw [hoj] at h1
      have h2 : hasD l[j].dst t = true := by rw [← hdst j cj _ hcj hoj]; exact hdj
      simp only [h2, Bool.not_true, Bool.false_or] at h1
      exact hfix j hj h1
    -- the state behind it
    have hnext : ∀ (u : Value) (S2 : Nat → Prop) (ι2 : List Loc) (w2 : World), Val S2 B (RefR ι2 (st (b (L.setIfInBounds i true)))) w2 c.v u → Mem S2 B ι2 (st (b (L.setIfInBounds i true))) w2 →
        Fw S' ι' (st (b L)) w' S2 ι2 (st (b (L.setIfInBounds i true))) w2 → I (L.setIfInBounds i true) (a'.put o.dst u) w2 := fun u S2 ι2 w2 hv hm2 hf2 => by
      have hbset : ∀ j, b (L.setIfInBounds i true) j = if j = i then true else b L j := fun j => by
        show (L.setIfInBounds i true).getD j false = _
        by_cases hj : j = i
        · subst hj; rw [if_pos rfl, Array.getD_eq_getD_getElem?]; simp [show j < L.size by omega]
        · rw [if_neg hj, getD_set_ne false (Ne.symm hj)]
      refine ⟨by simpa using hL, by cases hd : o.dst <;> simp [Act.put, hts], by cases hd : o.dst <;> exact hdf, fun j oj hoj hbj e he hb => ?_, S2, ι2, hm2, hf.trans hf2, fun t x hx => ?_⟩
      · rw [hbset]
        by_cases hj : j = i
        · subst hj
          rw [ho] at hoj; injection hoj with hoj; subst hoj
          split
          · rfl
          · exact hneeds e he hb
        · rw [hbset, if_neg hj] at hbj
          split
          · rfl
          · exact hcl j oj hoj hbj e he hb
      · -- the frame
        have hcd : c.dst = o.dst := hdst i c o hc ho
        by_cases hdt : hasD o.dst t = true
        · -- its own destination
          have hdl : o.dst = some t := by
            cases hd : o.dst with
            | none => rw [hd] at hdt; simp [hasD] at hdt
            | some y => rw [hd] at hdt; rw [Nat.eq_of_beq_eq_true hdt]
          have hxv : lkR fr (b (L.setIfInBounds i true)) 0 R t = some c.v := lkR_self R 0 i c hc (by rw [hcd]; exact hdt) (fun j cj hj hdj => by
            have hjl : j < l.length := by rw [← hlen]; exact (List.getElem?_eq_some_iff.1 hj).1
            have hoj : l[j]? = some l[j] := by simp
            exact nodupD_get hnd j i t l[j].dst o.dst (by simp [hjl]) (by simp [ho]) (by rw [← hdst j cj _ hj hoj]; exact hdj) hdt) (by rw [Nat.zero_add, hbset, if_pos rfl])
          rw [hxv] at hx
          injection hx with hx
          subst hx
          have htn : t < n := okD_lt (List.all_eq_true.1 hdn o (List.mem_of_getElem? ho)) t hdl
          rw [hdl]
          have : (a'.put (some t) u).tmps.getD t undef = u := by simp [Act.put, hts, htn]
          rw [this]
          exact hv
        · have hdt' : hasD o.dst t = false := by simpa using hdt
          have heq : lkR fr (b (L.setIfInBounds i true)) 0 R t = lkR fr (b L) 0 R t := lkR_congr R 0 fun j cj hj hdj => by
            rw [Nat.zero_add, hbset]
            by_cases hji : j = i
            · subst hji
              rw [hc] at hj; injection hj with hj; subst hj
              rw [hcd, hdt'] at hdj; cases hdj
            · rw [if_neg hji]
          rw [heq] at hx
          have h1 := hm.val hf2 (hval t x hx)
          have : (a'.put o.dst u).tmps.getD t undef = a'.tmps.getD t undef := by
            cases hd : o.dst with
            | none => rfl
            | some y =>
              have hne : y ≠ t := fun h => by subst h; rw [hd] at hdt'; simp [hasD] at hdt'
              simp [Act.put, Array.getElem?_setIfInBounds_ne hne]
          rw [this]
          exact h1
    -- the operation itself
    have hdoes : ∀ σ1 σ2, σ1 = st (b L) → σ2 = st (b (L.setIfInBounds i true)) → Does P o fri σ1 c.v σ2 →
        ∀ Q', o.wp P a' w' (fun a2 w2 => I (L.setIfInBounds i true) a2 w2) Q' := fun σ1 σ2 h1 h2 hd Q' => by
      subst h1; subst h2
      refine hd S' B ι' a' w' (fun x hx y hy => ?_) hm _ Q' fun u S2 ι2 w2 hv hm2 hf2 => hnext u S2 ι2 w2 hv hm2 hf2
      cases x with
      | tmp t =>
        have htm : t ∈ o.looksAt l.toArray := List.mem_append_left _ (List.mem_filterMap.2 ⟨.tmp t, by simpa using hx, rfl⟩)
        simp only [evalE] at hy
        rw [hlk t htm] at hy
        exact hval t y hy
      | const v => exact .cv _ _ (ofConst_cv hy)
      | global g =>
        simp only [evalE, Option.map_eq_some_iff] at hy
        obtain ⟨cs, hg, rfl⟩ := hy
        exact .cv _ _ (hm.gl.1 g cs hg)
      | func f => simp [evalE] at hy; subst hy; exact .fn f [] [] #[] #[] rfl rfl (by simp) (by simp)
    -- its guard
    have hgo : ∀ σ1 σ2, σ1 = st (b L) → σ2 = st (b (L.setIfInBounds i true)) → DoG P l.toArray o fri σ1 c.v σ2 → wpOp P l.toArray (QT N Q S B ι σ w n) i (fun a2 w2 => I (L.setIfInBounds i true) a2 w2) a' w' := fun σ1 σ2 h1 h2 hd => by
      unfold wpOp
      rw [ho']
      simp only
      have look : ∀ g want t x, o.guard = some (g, want) → ((l.toArray)[g]?).bind (·.dst) = some t → lk fri t = some (.bool x) → a'.tmps.getD t undef = .bool x := fun g want t x hg hgt hx => by
        have htm : t ∈ o.looksAt l.toArray := by
          refine List.mem_append_right _ ?_
          rw [hg]
          simp only [hgt]
          simp
        rw [hlk t htm] at hx
        exact (hval t _ hx).inv_bool
      rcases hd with ⟨hg, hd⟩ | ⟨g, want, t, hg, hgt, hx, hd⟩ | ⟨g, want, t, y, hg, hgt, hx, hne, hv, hs⟩
      · rw [if_pos (by simp [Region.wanted, hg])]
        exact .inl (hdoes σ1 σ2 h1 h2 hd _)
      · rw [if_pos (by rw [guard_let hg hgt (look g want t want hg hgt hx)]; simp)]
        exact .inl (hdoes σ1 σ2 h1 h2 hd _)
      · have hy : Val S' B (RefR ι' (st (b L))) w' y (a'.tmps.getD t undef) := by
          have htm : t ∈ o.looksAt l.toArray := by
            refine List.mem_append_right _ ?_
            rw [hg]
            simp only [hgt]
            simp
          rw [hlk t htm] at hx
          exact hval t _ hx
        rw [if_neg (by rw [hne.wanted hg hgt (refOk _ _) (fun u h => by simp [RefR] at h) hy]; simp)]
        have he : st (b L) = st (b (L.setIfInBounds i true)) := by rw [← h1, ← h2, hs]
        exact hnext undef S' ι' w' (by rcases hv with hv | hv <;> rw [hv]; exact .any _; exact .cv _ _ (.tup [] #[] rfl (by simp))) (he ▸ hm) (he ▸ Fw.refl _ _ _ _)
    refine hgo _ _ rfl ?_ (hev (b L) done_ (fun j ha => ?_) hbi fun p q hp hpq hb => ?_)
    · refine hcg _ _ fun j hj => ?_
      show updb (b L) i j = (L.setIfInBounds i true).getD j false
      unfold updb
      by_cases hji : j = i
      · subst hji; rw [if_pos (Nat.beq_refl j), Array.getD_eq_getD_getElem?]; simp [show j < L.size by omega]
      · rw [if_neg (fun h => hji (Nat.eq_of_beq_eq_true h)), getD_set_ne false (Ne.symm hji)]
    · by_cases hj : j < l.length
      · exact notyet j hj ha
      · show L.getD j false = false
        rw [Array.getD_eq_getD_getElem?, Array.getElem?_eq_none (by omega)]; rfl
    · have hp : p < l.length := by simpa [Nat.blt_eq] using hp
      have hop : l[p]? = some l[p] := by simp
      exact ahead_listed hcl p p _ (Nat.le_refl _) hop (fun e he hbe => hcl p _ hop hb e he hbe) q hpq
  · -- the end
    intro L a' w' hI hready
    obtain ⟨hL, hts, hdf, hcl, S', ι', hm, hf, hval⟩ := hI
    have hallb : ∀ (j : Nat), j < l.length → b L j = true := by
      intro j
      induction j using Nat.strongRecOn with
      | _ j ih =>
        intro hjl
        have hoj : l[j]? = some l[j] := by simp
        have hrow := List.all_eq_true.1 hall j (List.mem_range.2 hjl)
        rw [hoj] at hrow
        simp only [Bool.and_eq_true] at hrow
        cases hx : b L j with
        | true => rfl
        | false =>
          have : j ∈ Region.ready .any l.toArray L := by
            refine mem_ready.2 ⟨?_, l[j], by simp, fun e he hbe => ?_⟩
            · have hx' : L.getD j false = false := hx
              rw [Array.getD_eq_getD_getElem?, Array.getElem?_eq_getElem (by omega)] at hx' ⊢
              simpa using hx'
            · have h1 := List.all_eq_true.1 hrow.1 e (by simpa using he)
              rw [hbe] at h1
              have h2 : e.on < j := by simpa [Nat.blt_eq] using h1
              exact ih e.on h2 (by omega)
          rw [hready] at this
          cases this
    have hb : ∀ (j : Nat), j < R.length → b L j = true := fun j hj => hallb j (by omega)
    have e1 : st (b L) = st fun _ => true := hcg _ _ fun j hj => hallb j hj
    have e2 : ∀ t, lkR fr (b L) 0 R t = lkR fr (fun _ => true) 0 R t := fun t => lkR_congr R 0 fun j cj hj _ => by rw [Nat.zero_add]; exact hb j (List.getElem?_eq_some_iff.1 hj).1
    rw [e1] at hm hf hval
    exact ⟨.normal, fr', _, S', ι', rfl, hQ, ⟨hts, hdf, fun t v hv => hval t v (by rw [e2]; exact hfr' t v hv), hm⟩, hf.toN⟩
  · -- the beginning
    have hb0 : ∀ j, b (Array.replicate l.toArray.size false) j = false := fun j => by
      show (Array.replicate l.toArray.size false).getD j false = false
      rw [Array.getD_eq_getD_getElem?, Array.getElem?_replicate]
      split <;> rfl
    have e1 : st (b (Array.replicate l.toArray.size false)) = σ := by rw [← h0]; exact hcg _ _ fun j _ => hb0 j
    have e2 : ∀ t, lkR fr (b (Array.replicate l.toArray.size false)) 0 R t = lk fr t := fun t => by
      rw [lkR_congr (b' := fun _ => false) R 0 fun j _ _ _ => hb0 _]
      exact lkR_none R 0
    refine ⟨by simp, hr.size, hr.dfr, fun i o ho hb e he hbe => ?_, S, ι, by rw [e1]; exact hm0, by rw [e1]; exact hw0, fun t x hx => ?_⟩
    · rw [hb0] at hb; cases hb
    · rw [e1]
      rw [e2] at hx
      exact (hr.fr t x hx).mono (fun _ h => h) (fun _ h => h) (fun _ _ h => h) fun _ _ => rfl
  · simp [unl]


theorem updb_self {b : Nat → Bool} {k : Nat} : updb b k k = true := by unfold updb; rw [if_pos (Nat.beq_refl k)]
theorem updb_ne {b : Nat → Bool} {k j : Nat} (h : Nat.beq j k = false) : updb b k j = b j := by unfold updb; rw [if_neg (by rw [h]; decide)]
theorem cdt {α : Sort _} {b : Bool} {x y : α} (h : b = true) : cond b x y = x := by rw [h]; rfl
theorem cdf {α : Sort _} {b : Bool} {x y : α} (h : b = false) : cond b x y = y := by rw [h]; rfl
theorem ops_at {P : Program} {ops : Array Oper} {o : Oper} {fr : Fr} {τ1 τ2 : ASt} {v v' : V} {σ1 σ2 : ASt} (h1 : τ1 = σ1) (hg : o.guard = none) (h : Does P o fr σ1 v' σ2) (h2 : τ2 = σ2) (hv : v = v') : DoG P ops o fr τ1 v τ2 := by
  subst h1; subst h2; subst hv; exact .inl ⟨hg, h⟩
inductive FrL (f : Nat → Option V) : Fr → Prop where
  | nil : FrL f []
  | cons {t : Nat} {v : V} {r : Fr} (h : f t = some v) (hr : FrL f r) : FrL f ((t, v) :: r)
theorem FrL.get {f : Nat → Option V} {fr : Fr} (h : FrL f fr) : ∀ t v, lk fr t = some v → f t = some v := by
  induction h with
  | nil => intro t v h; simp [lk] at h
  | cons h _ ih =>
    intro t' x hl
    simp only [lk] at hl
    split at hl
    · rename_i hb
      injection hl with hl; subst hl
      have := Nat.eq_of_beq_eq_true hb
      subst this; exact h
    · exact ih t' x hl
inductive AllN (p : Nat → Prop) : List Nat → Prop where
  | nil : AllN p []
  | cons {t : Nat} {r : List Nat} (h : p t) (hr : AllN p r) : AllN p (t :: r)
theorem AllN.get {p : Nat → Prop} {l l' : List Nat} (e : l = l') (h : AllN p l') : ∀ t, t ∈ l → p t := by
  subst e
  induction h with
  | nil => intro t h; cases h
  | cons h _ ih =>
    intro t ht
    rcases List.mem_cons.1 ht with rfl | ht
    · assumption
    · exact ih t ht

section
variable {P : Program} {o : Oper} {fr : Fr} {σ : ASt}
end
/-- A part of a map's literal. -/
theorem o_insert {P : Program} {o : Oper} {fr : Fr} {σ : ASt} {t kt et : TypeId} {x y z : Operand} {p : Nat} {κ ε : Type} [BEq κ] {fk : κ → V} {fv : ε → V} {xs : List (κ × ε)} {k : κ} {v : ε} (ho : o.op = .insert t x y z) (ht : P.underlying t = some (.map kt et)) (hK : KeyK P kt fk)
    (hx : evalE fr x = some (.mp p)) (hy : evalE fr y = some (fk k)) (hz : evalE fr z = some (fv v)) (hcl : (fk k).cl = true) (hs : σ[p]? = some (mpO fk fv xs)) :
    Does P o fr σ .any (σ.set p (mpO fk fv (mput xs k v))) := fun S B ι a w he hm next Q hkk => by
  have h := o_mapUpdate (P := P) (o := { o with op := .mapUpdate t x y z }) rfl ht hK hx hy hz hcl hs S B ι a w (fun q hq => he q (by rw [ho]; exact hq)) hm next Q hkk
  unfold Oper.wp at h ⊢
  have e : execOp a.eval o = execOp a.eval { o with op := .mapUpdate t x y z } := by simp [execOp, ho]
  rw [e]
  exact h
end Go.G36
