/- Pointers by number in use: loads and stores through them, new blocks told by number, arrays of them. -/
import Derived.Test.YtgfpdlebnbpcfabDoorKzj
namespace Go.G36
variable [Genv]
set_option linter.all false
open Go

/-- The cells of a pointer that is told by its number in family p. -/
def c_px (p : Nat) (k : Int) : List V := [.px p 0 k 0]

/-- Cell by cell: the same, or nil told as what it is. -/
inductive WkP (p : Nat) : List V → List V → Prop where
  | nil : WkP p [] []
  | same (c : V) (r r' : List V) (t : WkP p r r') : WkP p (c :: r) (c :: r')
  | sl (b : Bool) (r r' : List V) (t : WkP p r r') : WkP p (.nilS :: r) (.im b [] :: r')
  | ptr (L j : Nat) (r r' : List V) (t : WkP p r r') : WkP p (.nilP :: r) (.px p L (-1) j :: r')

theorem WkP.length {p : Nat} {cs ds : List V} (h : WkP p cs ds) : cs.length = ds.length := by
  induction h <;> simp [*]
theorem WkP.val {p : Nat} {σ : ASt} {cs ds : List V} {xs : List (List V)} {bs : List Nat} {S B : Nat → Prop} {ι : List Loc} {w : World} (h : WkP p cs ds) (hs : σ[p]? = some (.fam xs)) (hl : ι[p]? = some (.fam bs)) :
    ∀ (i : Nat) (d : V), ds[i]? = some d → ∃ c, cs[i]? = some c ∧ ∀ u, Val S B (RefR ι σ) w c u → Val S B (RefR ι σ) w d u := by
  induction h with
  | nil => intro i d h; simp at h
  | same c r r' _ ih =>
    intro i d h
    cases i with
    | zero => simp at h; subst h; exact ⟨_, rfl, fun _ h => h⟩
    | succ i => simp at h; simpa using ih i d h
  | sl b r r' _ ih =>
    intro i d h
    cases i with
    | zero =>
      simp at h; subst h
      refine ⟨_, rfl, fun u hu => ?_⟩
      rw [hu.inv_nilS]
      cases b with
      | false => exact .cv _ _ (.im [] none 0 1 (fun _ _ => undef) (Nat.le_refl _) (fun h => absurd rfl h) (fun i j row c h => by simp at h) fun i j row c h => by simp at h)
      | true => exact .imB [] none 0 1 (fun _ _ => undef) (Nat.le_refl _) (fun h => absurd rfl h) (fun i j row c h => by simp at h) fun i j row c h => by simp at h
    | succ i => simp at h; simpa using ih i d h
  | ptr L j r r' _ ih =>
    intro i d h
    cases i with
    | zero =>
      simp at h; subst h
      refine ⟨_, rfl, fun u hu => ?_⟩
      rw [hu.inv_nilP]
      refine .ref _ _ ?_
      simp [RefR, hs, hl]
    | succ i => simp at h; simpa using ih i d h

section
variable {P : Program} {o : Oper} {fr : Fr} {σ : ASt}

/-- One more row in a family: the memory. -/
theorem famPush {S B : Nat → Prop} {ι : List Loc} {w : World} (hm : Mem S B ι σ w) {p : Nat} {xs : List (List V)} {cs zs : List V} {us : Array Value} {t : TypeId} (hs : σ[p]? = some (.fam xs)) (hw : WkP p cs zs)
    (hc : cs.length = us.size) (hv : ∀ (i : Nat) (c : V) (u : Value), cs[i]? = some c → us[i]? = some u → Val S B (RefR ι σ) w c u) (h1 : ∀ u, u ∈ us.toList → u.oneCell' = true) :
    ∃ ι', Mem S B ι' (σ.set p (.fam (xs ++ [zs]))) (w.alloc (.cells us t)) ∧ Fw S ι σ w S ι' (σ.set p (.fam (xs ++ [zs]))) (w.alloc (.cells us t)) ∧ ∀ L, RefR ι' (σ.set p (.fam (xs ++ [zs]))) (.px p L xs.length 0) (.pointer (some ⟨w.heap.size, 0, none⟩)) := by
  have hpl : p < ι.length := by rw [hm.len]; exact (List.getElem?_eq_some_iff.1 hs).1
  have hp2 : p < σ.length := (List.getElem?_eq_some_iff.1 hs).1
  obtain ⟨l, hl⟩ : ∃ l, ι[p]? = some l := ⟨ι[p], by simp [hpl]⟩
  have hO := hm.obj p _ _ hs hl
  cases l with
  | row v => exact hO.elim
  | box b => exact hO.elim
  | map r => exact hO.elim
  | afm vs0 => exact hO.elim
  | fam bs =>
    have g := Grown.alloc w (.cells us t)
    have hblt : ∀ b, b ∈ bs → b < w.heap.size := fun b hb => live_lt hO hb
    have hni : w.heap.size ∉ bs := fun h => Nat.lt_irrefl _ (hblt _ h)
    have href : ∀ v u, RefR ι σ v u → RefR (ι.set p (.fam (bs ++ [w.heap.size]))) (σ.set p (.fam (xs ++ [zs]))) v u := fun v u h => h.setF hs hl fun i b hb => by
      rw [List.getElem?_append_left (List.getElem?_eq_some_iff.1 hb).1]; exact hb
    have same : ∀ q, S q ∨ B q → (w.alloc (.cells us t)).heap[q]? = w.heap[q]? := fun q hq => g.block q (hm.ltS q hq)
    have hstep := hm.step (o' := .fam (xs ++ [zs])) (l' := .fam (bs ++ [w.heap.size])) (S' := S) (w' := w.alloc (.cells us t)) hs hl g.os g.tape g.output g.size (fun q hq _ => g.block q hq) (fun _ h => h) (fun _ h => .inl h)
      (fun q hq => Nat.lt_of_lt_of_le (hm.ltS q (.inl hq)) g.size) href
      (by
        refine ⟨by simp [hO.1], ?_, fun i b ds hb hd => ?_⟩
        · rw [List.nodup_append]
          exact ⟨hO.2.1, by simp, fun a ha b hb => by simp at hb; subst hb; exact fun h => hni (h ▸ ha)⟩
        · rcases Nat.lt_or_ge i bs.length with hi | hi
          · rw [List.getElem?_append_left hi] at hb
            rw [List.getElem?_append_left (hO.1 ▸ hi)] at hd
            obtain ⟨us, e, k1, ⟨k2, k3⟩, k4⟩ := hO.2.2 i b ds hb hd
            exact ⟨us, e, by rw [g.block b (hblt b (List.mem_of_getElem? hb))]; exact k1, ⟨k2, fun i c u hc hu => (k3 i c u hc hu).mono (fun _ h => h) (fun _ h => h) href same⟩, k4⟩
          · have : i = bs.length := by
              have := (List.getElem?_eq_some_iff.1 hb).1
              simp at this; omega
            subst this
            rw [List.getElem?_append_right (Nat.le_refl _)] at hb
            rw [List.getElem?_append_right (by rw [hO.1]; exact Nat.le_refl _)] at hd
            simp [hO.1] at hb hd
            subst hb hd
            refine ⟨_, t, heap_alloc_new w _, ⟨by rw [← hw.length]; simpa using hc, fun i d u hd hu => ?_⟩, h1⟩
            obtain ⟨c, h2, h3⟩ := hw.val (S := S) (B := B) (w := w) hs hl i d hd
            exact (h3 u (hv i c u h2 (by simpa using hu))).mono (fun _ h => h) (fun _ h => h) href same)
      (fun b hb => by
        have hb : b ∈ bs ++ [w.heap.size] := hb
        rcases List.mem_append.1 hb with h | h
        · exact ⟨.inl h, fun hS => hm.outS p _ _ b hs hl h (.inl hS)⟩
        · simp at h; subst h
          exact ⟨.inr (Nat.le_refl _), fun hS => Nat.lt_irrefl _ (hm.ltS _ (.inl hS))⟩)
    refine ⟨_, hstep.1, hstep.2, fun L => ?_⟩
    simp only [RefR, List.getElem?_set_self hp2, List.getElem?_set_self hpl]
    exact .inr ⟨by omega, w.heap.size, by simp [hO.1], rfl⟩

/-- The same with what lies in it. -/
theorem o_boxP {t : TypeId} {x : Operand} {p : Nat} {α : Type} {f : α → List V} {xs : List α} {v : V} (a : α) (ho : o.op = .box t x) (hx : evalE fr x = some v) (hsu : V.sures σ v.cells = true) (hw : WkP p v.cells (f a)) (hs : σ[p]? = some (.fam (xs.map f))) :
    Does P o fr σ (.px p 0 xs.length 0) (σ.set p (.fam ((xs ++ [a]).map f))) := fun S B ι ac w he hm next Q hk => by
  obtain ⟨h1, h2, h3⟩ := (he x (by simp [ho, Op.operands]) v hx).cells hsu
  obtain ⟨ι', m1, m2, m3⟩ := famPush hm (t := t) (us := (ac.eval x).cells) hs hw h1 (fun i c u hc hu => h2 i c u hc hu) h3
  have hrun : (execOp ac.eval o).run P w = .ok (.value (.pointer (some ⟨w.heap.size, 0, none⟩))) (w.alloc (.cells (ac.eval x).cells t)) := by
    simp [execOp, ho, Instr.box, newVar, newRow]
  unfold Oper.wp
  rw [hrun]
  rw [show xs.map f ++ [f a] = (xs ++ [a]).map f by simp] at m1 m2 m3
  rw [List.length_map] at m3
  exact hk _ S _ _ (.ref _ _ (m3 0)) m1 m2

theorem px_el {S B : Nat → Prop} {ι : List Loc} {w : World} {p L j : Nat} {k : Int} {u : Value} {xs : List (List V)} (h : Val S B (RefR ι σ) w (.px p L k j) u) (hs : σ[p]? = some (.fam xs)) (h0 : 0 ≤ k) : Val S B (RefR ι σ) w (.el p L k.toNat j) u := by
  rcases px_fam (Val.inv_ref (v := .px p L k j) rfl trivial h) hs with ⟨h, _⟩ | ⟨_, bs, b, h2, h3, h4⟩
  · omega
  · refine .ref _ _ ?_
    simp only [RefR, hs, h2]
    exact ⟨b, h3, h4⟩
theorem o_nilCheckP {x : Operand} {p j : Nat} {k : Int} {α : Type} {f : α → List V} {xs : List α} {a : α} (ho : o.op = .nilCheck x) (hx : evalE fr x = some (.px p 0 k j)) (hs2 : σ[p]? = some (.fam (xs.map f))) (h : idx xs k = some a) : Does P o fr σ (.px p 0 k j) σ := quiet fun S B ι ac w he hm => by
  have hval := he x (by simp [ho, Op.operands]) _ hx
  obtain ⟨bs, b, h2, h3, hu⟩ := RefR.fam (Val.inv_ref (v := .el p 0 k.toNat j) rfl trivial (px_el hval hs2 (idx_s h).1)) hs2
  exact ⟨_, by simp [execOp, ho, hu], hu ▸ hval⟩
theorem o_fieldAddrP {t : TypeId} {x : Operand} {g off ft sz p j : Nat} {k : Int} {ag : Bool} {fs : Array Field} {α : Type} {f : α → List V} {xs : List α} {a : α} (ho : o.op = .fieldAddr t x g) (ht : P.underlying t = some (.struct fs))
    (hf : (fs[g]?).map (fun d => (d.offset, d.type)) = some (off, ft)) (hs : TyS P ft ag sz) (hz : sz ≠ 0) (hx : evalE fr x = some (.px p 0 k j)) (hs2 : σ[p]? = some (.fam (xs.map f))) (h : idx xs k = some a) :
    Does P o fr σ (.px p 0 k (j + off)) σ := quiet fun S B ι ac w he hm => by
  have hval := he x (by simp [ho, Op.operands]) _ hx
  cases hd : fs[g]? with
  | none => simp [hd] at hf
  | some d =>
    simp [hd] at hf
    obtain ⟨rfl, rfl⟩ := hf
    obtain ⟨bs, b, h2, h3, hu⟩ := RefR.fam (Val.inv_ref (v := .el p 0 k.toNat j) rfl trivial (px_el hval hs2 (idx_s h).1)) hs2
    refine ⟨.pointer (some ⟨b, j + d.offset, none⟩), by simp [execOp, ho, hu, Instr.fieldAt, run_underlying ht, hd, Instr.sureAddr, run_fieldPlace w hs hz, Addr.add_mid], .ref _ _ ?_⟩
    simp only [RefR, hs2, h2]
    exact .inr ⟨(idx_s h).1, b, h3, rfl⟩
theorem o_loadP {t : TypeId} {x : Operand} {p j : Nat} {k : Int} {ag : Bool} {sz : Nat} {α : Type} {f : α → List V} {xs : List α} {a : α} {v : V} (ho : o.op = .load t x) (ht : TyS P t ag sz) (hx : evalE fr x = some (.px p 0 k j))
    (hs : σ[p]? = some (.fam (xs.map f))) (h : idx xs k = some a) (hl : j + sz ≤ (f a).length) (hv : wrapV ag (((f a).drop j).take sz) = some v) : Does P o fr σ v σ := quiet fun S B ι ac w he hm => by
  obtain ⟨bs, b, h2, h3, hu⟩ := RefR.fam (Val.inv_ref (v := .el p 0 k.toNat j) rfl trivial (px_el (he x (by simp [ho, Op.operands]) _ hx) hs (idx_s h).1)) hs
  obtain ⟨us, e0, hh, ⟨hcl, hcv⟩, hone1⟩ := (hm.obj p _ _ hs h2).2.2 k.toNat b (f a) h3 (by rw [List.getElem?_map, (idx_s h).2]; rfl)
  have hone := wrapV_one (by simp; omega) hv
  have husz : us.size = (f a).length := by simpa using hcl.symm
  have hget : ∀ q, q < us.size → us[q]? = some (us.getD q undef) := fun q hq => by simp [Array.getElem?_eq_getElem hq, Array.getD, hq]
  have hr := run_loadAt_gen (P := P) w b j (fun q => us.getD (j + q) undef) ht hone fun q hq => by
    simp only [World.cell?, hh]
    have : j + q < us.size := by omega
    simp [Array.getD, this]
  refine ⟨_, by simp only [execOp, ho, hu, hr, Sem.run_bind, Result.andThen_ok, Sem.run_pure], load_val (f := fun q => us.getD (j + q) undef) hone (by simp; omega) (fun q c hc => ?_) hv⟩
  rw [List.getElem?_drop] at hc
  have hlt : j + q < (f a).length := (List.getElem?_eq_some_iff.1 hc).1
  exact hcv (j + q) c _ hc (by rw [Array.getElem?_toList]; exact hget (j + q) (by omega))
/-- A store through a pointer by number. -/
theorem o_storeP {t : TypeId} {x y : Operand} {p j sz : Nat} {k : Int} {ag : Bool} {α : Type} {f : α → List V} {xs : List α} {a a' : α} {v : V} (ho : o.op = .store t x y) (ht : TyS P t ag sz) (hx : evalE fr x = some (.px p 0 k j)) (hy : evalE fr y = some v)
    (hs : σ[p]? = some (.fam (xs.map f))) (h : idx xs k = some a) (hsz : v.cells.length = sz) (hl : j + sz ≤ (f a).length) (hsu : V.sures σ v.cells = true) (hp : putAt j v.cells (f a) = f a') :
    Does P o fr σ .any (σ.set p (.fam ((xs.set k.toNat a').map f))) := fun S B ι ac w he hm next Q hk => by
  obtain ⟨bs, b, h2, h3, hu⟩ := RefR.fam (Val.inv_ref (v := .el p 0 k.toNat j) rfl trivial (px_el (he x (by simp [ho, Op.operands]) _ hx) hs (idx_s h).1)) hs
  obtain ⟨k1, k2, k3⟩ := (he y (by simp [ho, Op.operands]) v hy).cells hsu
  have hO := hm.obj p _ _ hs h2
  have hrow : (xs.map f)[k.toNat]? = some (f a) := by rw [List.getElem?_map, (idx_s h).2]; rfl
  obtain ⟨us, e0, hh, ⟨hcl, hcv⟩, hone⟩ := hO.2.2 k.toNat b (f a) h3 hrow
  have hset : (xs.set k.toNat a').map f = (xs.map f).set k.toNat (putAt j v.cells (f a)) := by rw [List.map_set, hp]
  rw [hset] at hk
  have husz : us.size = (f a).length := by simpa using hcl.symm
  have hrun := run_storeAt_gen (P := P) w b j (ac.eval y) ht (by rw [← k1, hsz]) k3 (fun q hq => by simp [World.cell?, hh]; omega) (fun q hq => by simp [World.frozen?, hh])
  obtain ⟨e1, e2, e3, e4, e5, e6⟩ := heap_setCells w b (ac.eval y).cells.toList j
  obtain ⟨cs', e7, e8, e9⟩ := e6 us e0 (0, 0) hh
  have hlen : (ac.eval y).cells.toList.length = sz := by simp [← k1, hsz]
  have hbb : b ∈ bs := List.mem_of_getElem? h3
  have href : ∀ v' u, RefR ι σ v' u → RefR (ι.set p (.fam bs)) (σ.set p (.fam ((xs.map f).set k.toNat (putAt j v.cells (f a))))) v' u := fun _ _ h => h.setF hs h2 fun _ _ h => h
  have same : ∀ q, S q ∨ B q → (w.setCells b j (ac.eval y).cells.toList).heap[q]? = w.heap[q]? := fun q hq => e2 q fun h => hm.outS p _ _ b hs h2 hbb (h ▸ hq)
  have hstep := hm.step (o' := .fam ((xs.map f).set k.toNat (putAt j v.cells (f a)))) (l' := .fam bs) (S' := S) hs h2 (w' := w.setCells b j (ac.eval y).cells.toList) e3 e4 e5 (by omega)
    (fun q _ hq => e2 q (fun h => hq (h ▸ hbb))) (fun _ h => h) (fun _ h => .inl h) (fun q hq => by rw [e1]; exact hm.ltS q (.inl hq)) href
    (by
      refine ⟨by simpa using hO.1, hO.2.1, fun i' b' cs hb' hc => ?_⟩
      by_cases hii : k.toNat = i'
      · subst hii
        rw [h3] at hb'; injection hb' with hb'; subst hb'
        rw [List.getElem?_set_self (List.getElem?_eq_some_iff.1 hrow).1] at hc
        injection hc with hc; subst hc
        refine ⟨cs', e0, e7, ⟨by rw [putAt_length (by omega)]; simp [e8, husz], fun i c u hc hu2 => ?_⟩, fun x hx => ?_⟩
        · rw [Array.getElem?_toList, e9 i, hlen] at hu2
          rw [putAt_get (by omega), hsz] at hc
          by_cases hi : j ≤ i ∧ i < j + sz
          · rw [if_pos hi] at hc
            rw [if_pos ⟨hi.1, hi.2, by omega⟩] at hu2
            exact (k2 (i - j) c u hc (by simpa using hu2)).mono (fun _ h => h) (fun _ h => h) href same
          · rw [if_neg hi] at hc
            rw [if_neg (fun h => hi ⟨h.1, h.2.1⟩)] at hu2
            exact (hcv i c u hc (by simpa using hu2)).mono (fun _ h => h) (fun _ h => h) href same
        · obtain ⟨i, hi, rfl⟩ := List.mem_iff_getElem.1 hx
          have h9 := e9 i
          rw [hlen] at h9
          simp only [Array.getElem_toList]
          have hi2 : i < cs'.size := by simpa using hi
          rw [Array.getElem?_eq_getElem hi2] at h9
          split at h9
          · exact k3 _ (List.mem_of_getElem? h9.symm)
          · exact hone _ (by rw [← Array.getElem?_toList] at h9; exact List.mem_of_getElem? h9.symm)
      · rw [List.getElem?_set_ne hii] at hc
        obtain ⟨us2, e, c1, ⟨c2, c3⟩, c4⟩ := hO.2.2 i' b' cs hb' hc
        have hbne : b' ≠ b := fun h => hii ((List.getElem?_inj (List.getElem?_eq_some_iff.1 h3).1 hO.2.1).1 (h3.trans (h ▸ hb'.symm)))
        exact ⟨us2, e, by rw [e2 b' hbne]; exact c1, ⟨c2, fun i c u hc hu => (c3 i c u hc hu).mono (fun _ h => h) (fun _ h => h) href same⟩, c4⟩)
    (fun q hq => ⟨.inl hq, fun hS => hm.outS p _ _ q hs h2 hq (.inl hS)⟩)
  have hι : ι.set p (.fam bs) = ι := set_same h2
  unfold Oper.wp
  have : (execOp ac.eval o).run P w = .ok .skip (w.setCells b j (ac.eval y).cells.toList) := by
    simp only [execOp, ho, hu, Sem.run_bind, hrun, Result.andThen_ok, Sem.run_pure]
  rw [this]
  rw [hι] at hstep
  exact hk _ S ι _ (.any _) hstep.1 hstep.2
/-- nil in a cell of a variable: an array of pointers of its own. -/
theorem Cs.ownCellR {N n : Nat} {p : Nat} {cs : List V} (j sz : Nat) (hs : σ[p]? = some (.box cs)) (hj : cs[j]? = some .nilS) (hsz : 0 < sz) :
    Cs N n fr σ fr ((σ ++ [AO.arr .raw sz []]).set p (.box (cs.set j (.hd σ.length 0 0 0)))) := fun S B ι a w hr => by
  have hp := (List.getElem?_eq_some_iff.1 hs).1
  obtain ⟨hm', hf⟩ := hr.mem.push (Grown.refl w) (.arr .raw sz []) (.row (.slice none 0 0)) (fun b hb => by simp [live, Loc.block, Value.ownBlock] at hb)
    ⟨hsz, 0, [], ⟨by simp, .inl ⟨rfl, rfl⟩⟩, ⟨by simp, fun row h => by simp at h, fun i j row c h => by simp at h⟩, fun u h => by simp at h, (fun h => by cases h), fun _ h => by cases h⟩
  obtain ⟨h1, h2⟩ := Rel.cell (N := N) (hr.fw hf hm') (p := p) (j := j) (cs := cs) (c := .nilS) (v := .hd σ.length 0 0 0) (by rw [List.getElem?_append_left hp]; exact hs) hj fun u hu => by
    rw [hu.inv_nilS]
    refine .ref _ _ ?_
    simp [RefR, hr.mem.len]
  exact ⟨S, _, h1, hf.toN.trans h2⟩
/-- append of pointers. -/
theorem o_apR {t e : TypeId} {x y : Operand} {p q r : Nat} {xs ys zs : List Int} (ho : o.op = .call { callee := .builtin .append, args := #[x, y], argTypes := #[t, t] }) (ht : P.underlying t = some (.slice e))
    (hte : TyE P e 1) (hx : evalE fr x = some (.hd p xs.length 0 xs.length)) (hy : evalE fr y = some (.hd q ys.length 0 ys.length)) (hs : σ[p]? = some (.arr .raw 1 (xs.map (c_px r)))) (hr : σ[q]? = some (.arr .raw 1 (ys.map (c_px r))))
    (h : app xs ys = some zs) : Does P o fr σ (.hd p zs.length 0 zs.length) (σ.set p (.arr .raw 1 (zs.map (c_px r)))) := by
  obtain ⟨h1, rfl⟩ := app_s h
  have := o_appendR ho ht hte hx hy hs (List.length_map _) hr (List.length_map _) (fun row hrow => by obtain ⟨k, _, rfl⟩ := List.mem_map.1 hrow; rfl) (by omega)
  rw [← List.length_append, ← List.map_append] at this
  exact this
end
theorem ren_famO {f : Nat → Nat} {α : Type} {g h : α → List V} {xs : List α} (hg : ∀ x, rens f (g x) = h x) : renO f (.fam (xs.map g)) = .fam (xs.map h) := by
  simp only [renO, List.map_map, AO.fam.injEq]
  exact List.map_congr_left fun x _ => hg x
theorem ren_rawO {f : Nat → Nat} {α : Type} {sz : Nat} {g h : α → List V} {xs : List α} (hg : ∀ x, rens f (g x) = h x) : renO f (.arr .raw sz (xs.map g)) = .arr .raw sz (xs.map h) := by
  simp only [renO, List.map_map, AO.arr.injEq, true_and]
  exact List.map_congr_left fun x _ => hg x
theorem ren_at {f : Nat → Nat} {o o' : AO} {σ : ASt} {r : Nat} (hs : σ[r]? = some o') (h : renO f o = o') : σ[r]? = some (renO f o) := by rw [h]; exact hs
theorem belFam {N : Nat} {α : Type} {g : α → List V} {xs : List α} (h : ∀ x, bels N (g x) = true) : belO N (.fam (xs.map g)) := fun row hr c hc => by
  obtain ⟨x, _, rfl⟩ := List.mem_map.1 hr
  exact bels_iff.1 (h x) c hc
theorem belRaw {N : Nat} {α : Type} {sz : Nat} {g : α → List V} {xs : List α} (h : ∀ x, bels N (g x) = true) : belO N (.arr .raw sz (xs.map g)) := fun row hr c hc => by
  obtain ⟨x, _, rfl⟩ := List.mem_map.1 hr
  exact bels_iff.1 (h x) c hc
theorem nomFam {a : Nat} {α : Type} {g : α → List V} {xs : List α} (h : ∀ x, noms a (g x) = true) : nomO a (.fam (xs.map g)) = true := by
  simp only [nomO, List.all_map, List.all_eq_true, Function.comp]
  exact fun x _ => h x
theorem nomRaw {a : Nat} {α : Type} {sz : Nat} {g : α → List V} {xs : List α} (h : ∀ x, noms a (g x) = true) : nomO a (.arr .raw sz (xs.map g)) = true := by
  simp only [nomO, List.all_map, List.all_eq_true, Function.comp]
  exact fun x _ => h x
/-! ### min of two integers -/
theorem o_min2 {P : Program} {o : Oper} {fr : Fr} {σ : ASt} {t t' : TypeId} {x y : Operand} {k : IntKind} {m n : Int} (ho : o.op = .call { callee := .builtin .min, args := #[x, y], argTypes := #[t, t'] }) (hx : evalE fr x = some (.int k m)) (hy : evalE fr y = some (.int k n)) :
    Does P o fr σ (.int k (if n < m then n else m)) σ := quiet fun S B ι a w he _ => by
  have h1 := (he x (by simp [ho, Op.operands, Call.operands]) _ hx).inv_int
  have h2 := (he y (by simp [ho, Op.operands, Call.operands]) _ hy).inv_int
  refine ⟨.int k (if n < m then n else m), ?_, .cv _ _ (by constructor)⟩
  simp only [execOp, ho, resolve, invoke, builtin, Sem.run_bind, Sem.run_pure, Result.andThen_ok, List.map_toArray, List.map_cons, List.map_nil, h1, h2, Builtin.min_, List.foldlM_cons, List.foldlM_nil]
  simp [Builtin.min2]

/-! ### What a call leaves as it was -/
open Classical in
noncomputable def eqL {α : Type} (xs ys : List α) : Option Unit := if xs = ys then some () else none
theorem eqL_s {α : Type} {xs ys : List α} {u : Unit} (h : eqL xs ys = some u) : xs = ys := by
  unfold eqL at h
  split at h
  · assumption
  · cases h
theorem Does.eqS {P : Program} {o : Oper} {fr : Fr} {σ σ1 σ2 : ASt} {v : V} (h : σ1 = σ2) (hd : Does P o fr σ v σ1) : Does P o fr σ v σ2 := by subst h; exact hd
/-! ### A number kept for a variable -/
theorem Cs.pushRes {N n : Nat} {fr : Fr} {σ : ASt} : Cs N n fr σ fr (σ ++ [.res]) := fun S B ι a w hr => by
  obtain ⟨hm', hf⟩ := hr.mem.push (Grown.refl w) .res (.box 0 0) (fun b hb => hb.elim) trivial
  exact ⟨S, _, hr.fw hf hm', hf.toN⟩
theorem RefR.setRes {ι : List Loc} {σ : ASt} {p : Nat} {o : AO} {l : Loc} (hs : σ[p]? = some .res) {v : V} {u : Value} (h : RefR ι σ v u) : RefR (ι.set p l) (σ.set p o) v u := by
  have key : ∀ q, q ≠ p → (σ.set p o)[q]? = σ[q]? ∧ (ι.set p l)[q]? = ι[q]? := fun q hq => ⟨List.getElem?_set_ne (Ne.symm hq), List.getElem?_set_ne (Ne.symm hq)⟩
  cases v with
  | hd q L off len =>
    by_cases hq : q = p
    · subst hq; simp [RefR, hs] at h
    · simp only [RefR, (key q hq).1, (key q hq).2] at h ⊢; exact h
  | bx q j =>
    by_cases hq : q = p
    · subst hq; simp [RefR, hs] at h
    · simp only [RefR, (key q hq).1, (key q hq).2] at h ⊢; exact h
  | el q L i j =>
    by_cases hq : q = p
    · subst hq; simp [RefR, hs] at h
    · simp only [RefR, (key q hq).1, (key q hq).2] at h ⊢; exact h
  | px q L k j =>
    by_cases hq : q = p
    · subst hq; simp [RefR, hs] at h
    · simp only [RefR, (key q hq).1, (key q hq).2] at h ⊢; exact h
  | mp q =>
    by_cases hq : q = p
    · subst hq; simp [RefR, hs] at h
    · simp only [RefR, (key q hq).1, (key q hq).2] at h ⊢; exact h
  | _ => exact h
theorem o_allocAt {P : Program} {o : Oper} {fr : Fr} {σ : ASt} {t : TypeId} {zs : List V} (p : Nat) (ho : o.op = .alloc t) (hz : TyZ P t zs) (hs : σ[p]? = some .res) : Does P o fr σ (.bx p 0) (σ.set p (.box zs)) := fun S B ι a w he hm next Q hk => by
  obtain ⟨z, hrz, hzc⟩ := hz.run w
  obtain ⟨h1, h2⟩ := ofCells_get hzc
  have g := Grown.alloc w (.cells z.cells t)
  have hp2 := (List.getElem?_eq_some_iff.1 hs).1
  have hpl : p < ι.length := by rw [hm.len]; exact hp2
  obtain ⟨l, hl⟩ : ∃ l, ι[p]? = some l := ⟨ι[p], by simp [hpl]⟩
  have hstep := hm.step (o' := .box zs) (l' := .box w.heap.size t) (S' := S) (w' := w.alloc (.cells z.cells t)) hs hl g.os g.tape g.output g.size (fun q hq _ => g.block q hq) (fun _ h => h) (fun _ h => .inl h)
    (fun q hq => Nat.lt_of_lt_of_le (hm.ltS q (.inl hq)) g.size) (fun v u h => h.setRes hs)
    ⟨_, heap_alloc_new w _, ⟨by simpa using h1, fun i c u hc hu => .cv _ _ (ofCell_cv (h2 i c u hc hu))⟩, ofCells_one hzc⟩
    (fun b hb => by
      have hb : some w.heap.size = some b := hb
      injection hb with hb; subst hb
      exact ⟨.inr (Nat.le_refl _), fun hS => Nat.lt_irrefl _ (hm.ltS _ (.inl hS))⟩)
  have hrun : (execOp a.eval o).run P w = .ok (.value (.pointer (some ⟨w.heap.size, 0, Option.none⟩))) (w.alloc (.cells z.cells t)) := by
    simp [execOp, ho, Instr.alloc, newVar, newRow, hrz]
  unfold Oper.wp
  rw [hrun]
  refine hk _ S _ _ (.ref _ _ ?_) hstep.1 hstep.2
  simp [RefR, hp2, hpl]

/-! ### Outcomes that name objects of their own -/
theorem RefR_nil {ι : List Loc} {v : V} {u : Value} (h : RefR ι [] v u) : False := by
  cases v <;> simp [RefR] at h
theorem CallT.sel {P : Program} {f : FuncId} {args : List V} {r : V} {τ1 : ASt} (h : CallT P f args [] fun v τ' => ∃ ρ, Part ρ τ' τ1 ∧ v = ren (rho ρ τ'.length) r) : St P f args [] r τ1 := fun S B ι us w hm ha => by
  refine (h S B ι us w hm ha).mono ?_
  rintro e w' ⟨u, v, τ', S', ι', rfl, ⟨ρ, hp, rfl⟩, hv, hm', hf⟩
  obtain ⟨ιτ, hmτ, down, _, hLv, _⟩ := memPart hm' hp
  exact ⟨u, r, τ1, S', ιτ, rfl, ⟨rfl, rfl⟩, Val.unren down r u hv, hmτ, hf.os, hf.tape, hf.output, hf.size, hf.grow, hf.new, hf.keep, fun b hb => hf.lv b (hLv b hb), fun v u h => (RefR_nil h).elim⟩
theorem Part.of {ρ : List Nat} {σ τ : ASt} (hn : ρ.Nodup) (h : PartL (rho ρ σ.length) σ ρ τ) : Part ρ σ τ := ⟨h.get.1, hn, h.get.2⟩
end Go.G36
