/- Operations that make or write memory. -/
import Derived.Test.YtmlfbendohecmaaKd
import Derived.Laws.Tables
import Derived.Laws.AppendOwnNone
namespace Go.G36
variable [Genv]
set_option linter.all false
open Go

def V.ones : List V → Bool
  | [] => true
  | c :: r => c.one && V.ones r
theorem V.ones_get {cs : List V} (h : V.ones cs = true) : ∀ (i : Nat) (c : V), cs[i]? = some c → c.one = true := by
  induction cs with
  | nil => intro i c hc; simp at hc
  | cons x r ih =>
    simp only [V.ones, Bool.and_eq_true] at h
    intro i c hc
    cases i with
    | zero => simp at hc; subst hc; exact h.1
    | succ i => simp at hc; exact ih h.2 i c hc

theorem RefR.one {ι : List Loc} {σ : ASt} {v : V} {u : Value} {p : Prop} (h : RefR ι σ v u) (hd : v.one = true) (hp : u.oneCell' = true → p) (hq : (match v with | .hd .. | .el .. | .px .. => True | _ => False) → p) : p := by
  cases v with
  | bx a j =>
    simp only [RefR] at h
    split at h
    · obtain ⟨rfl, _⟩ := h; exact hp rfl
    · obtain ⟨rfl, _⟩ := h; exact hp rfl
    · exact h.elim
  | mp a =>
    simp only [RefR] at h
    split at h
    · subst h; exact hp rfl
    · subst h; exact hp rfl
    · exact h.elim
  | hd => exact hq trivial
  | el => exact hq trivial
  | px => exact hq trivial
  | _ => exact h.elim

/-- One cell's value whose reference, if it is one, is sure to be good: no stale ones. -/
def V.sure (σ : ASt) : V → Bool
  | .agg _ | .tup _ | .any => false
  | .hd a L _ _ => match σ[a]? with
    | some (.arr _ _ xs) => Nat.beq xs.length L
    | _ => false
  | .el a L _ _ => match σ[a]? with
    | some (.arr _ _ xs) => Nat.beq xs.length L
    | some (.fam _) => true
    | some (.afm _ _) => true
    | _ => false
  | .px a L _ _ => match σ[a]? with
    | some (.arr _ _ xs) => Nat.beq xs.length L
    | some (.box _) => true
    | some (.fam _) => true
    | some (.afm _ _) => true
    | _ => false
  | _ => true

theorem CV.one {S : Nat → Prop} {w : World} {v : V} {u : Value} (h : CV S w v u) (hs : v.one = true) : u.oneCell' = true := by
  cases h <;> first | rfl | (simp [V.one] at hs)

theorem CV.one' {S : Nat → Prop} {w : World} {v : V} {u : Value} (h : CV S w v u) (hs : u.oneCell' = true) : v.one = true := by
  cases h <;> first | rfl | (simp [Value.oneCell'] at hs)

theorem Val.sure {S B : Nat → Prop} {ι : List Loc} {σ : ASt} {w : World} {v : V} {u : Value} (h : Val S B (RefR ι σ) w v u) (hs : v.sure σ = true) : u.oneCell' = true := by
  cases h with
  | any u => simp [V.sure] at hs
  | cv _ _ h => exact h.one (by cases h <;> first | rfl | (simp [V.sure] at hs))
  | agg => simp [V.sure] at hs
  | tup => simp [V.sure] at hs
  | imB => rfl
  | rfB => rfl
  | fn => rfl
  | ref v u h =>
    cases v with
    | hd a L off len =>
      simp only [V.sure] at hs
      split at hs
      · rename_i m sz xs hσ
        obtain ⟨v0, _, _, hz, hnz⟩ := RefR.hd h hσ (Nat.eq_of_beq_eq_true hs)
        by_cases h0 : off = 0
        · obtain ⟨A, c, _, rfl⟩ := hz h0; rfl
        · obtain ⟨b, c, A, c', _, rfl, _⟩ := hnz h0; rfl
      · cases hs
    | el a L i j =>
      simp only [V.sure] at hs
      split at hs
      · rename_i m sz xs hσ
        obtain ⟨b, c, _, _, rfl⟩ := RefR.el h hσ (Nat.eq_of_beq_eq_true hs)
        rfl
      · rename_i xs hσ
        simp only [RefR, hσ] at h
        split at h
        · rename_i h1 _; cases h1
        · obtain ⟨b, _, rfl⟩ := h; rfl
        · rename_i h1 _; cases h1
        · rename_i h1; cases h1
        · exact h.elim
      · rename_i sz0 xs hσ
        simp only [RefR, hσ] at h
        split at h
        · rename_i h1 _; cases h1
        · rename_i h1 _; cases h1
        · obtain ⟨b, n, c, _, _, rfl⟩ := h; rfl
        · rename_i h1; cases h1
        · exact h.elim
      · cases hs
    | px a L k j =>
      simp only [V.sure] at hs
      split at hs
      · rename_i m sz xs hσ
        have hL := Nat.eq_of_beq_eq_true hs
        simp only [RefR, hσ] at h
        split at h
        · rename_i h1 _; cases h1
        · rename_i h1 _; injection h1 with h1; injection h1 with _ _ h1; subst h1
          rcases h.2 hL with ⟨_, p, rfl⟩ | ⟨_, rfl⟩ | ⟨_, _, b, c, _, rfl⟩ <;> rfl
        · rename_i h1 _; cases h1
        · rename_i h1 _; cases h1
        · rename_i h1; cases h1
        · exact h.elim
      · rename_i cs hσ
        simp only [RefR, hσ] at h
        split at h
        · rcases h.2.2 with ⟨_, rfl⟩ | ⟨_, rfl⟩ | ⟨_, rfl | rfl⟩ <;> rfl
        · rename_i h1 _; cases h1
        · rename_i h1 _; cases h1
        · rename_i h1 _; cases h1
        · rename_i h1; cases h1
        · exact h.elim
      · rename_i xs hσ
        simp only [RefR, hσ] at h
        split at h
        · rename_i h1 _; cases h1
        · rename_i h1 _; cases h1
        · rcases h with ⟨_, rfl⟩ | ⟨_, b, _, rfl⟩ <;> rfl
        · rename_i h1 _; cases h1
        · rename_i h1; cases h1
        · exact h.elim
      · rename_i sz0 xs hσ
        simp only [RefR, hσ] at h
        split at h
        · rename_i h1 _; cases h1
        · rename_i h1 _; cases h1
        · rename_i h1 _; cases h1
        · rcases h with ⟨_, rfl⟩ | ⟨_, _, A, n, c, rfl⟩ <;> rfl
        · rename_i h1; cases h1
        · exact h.elim
      · cases hs
    | bx a j =>
      simp only [RefR] at h
      split at h
      · obtain ⟨rfl, _⟩ := h; rfl
      · obtain ⟨rfl, _⟩ := h; rfl
      · exact h.elim
    | mp a =>
      simp only [RefR] at h
      split at h
      · subst h; rfl
      · subst h; rfl
      · exact h.elim
    | _ => exact h.elim

def V.sures (σ : ASt) : List V → Bool
  | [] => true
  | c :: r => c.sure σ && V.sures σ r
theorem V.sures_get {σ : ASt} {cs : List V} (h : V.sures σ cs = true) : ∀ (i : Nat) (c : V), cs[i]? = some c → c.sure σ = true := by
  induction cs with
  | nil => intro i c hc; simp at hc
  | cons x r ih =>
    simp only [V.sures, Bool.and_eq_true] at h
    intro i c hc
    cases i with
    | zero => simp at hc; subst hc; exact h.1
    | succ i => simp at hc; exact ih h.2 i c hc

/-- The cells of a value. -/
theorem Val.cells {S B : Nat → Prop} {ι : List Loc} {σ : ASt} {w : World} {v : V} {u : Value} (h : Val S B (RefR ι σ) w v u) (hs : V.sures σ v.cells = true) :
    v.cells.length = u.cells.size ∧ (∀ (i : Nat) (c : V) (x : Value), v.cells[i]? = some c → u.cells[i]? = some x → Val S B (RefR ι σ) w c x) ∧ ∀ x, x ∈ u.cells.toList → x.oneCell' = true := by
  have key : ∀ (cs : List V) (us : Array Value), V.sures σ cs = true → cs.length = us.size → (∀ (i : Nat) (c : V) (x : Value), cs[i]? = some c → us[i]? = some x → Val S B (RefR ι σ) w c x) → ∀ x, x ∈ us.toList → x.oneCell' = true := by
    intro cs us h1 h2 h3 x hx
    obtain ⟨i, hi, hxi⟩ := List.mem_iff_getElem.1 hx
    have hi2 : i < cs.length := by rw [h2]; simpa using hi
    have hi3 : i < us.size := by simpa using hi
    have := h3 i cs[i] us[i] (by simp) (by simp)
    have h4 := this.sure (V.sures_get h1 i _ (by simp))
    subst hxi
    simpa using h4
  by_cases hv : ∃ cs, v = .agg cs
  · obtain ⟨cs, rfl⟩ := hv
    obtain ⟨us, rfl, hl, hp⟩ := h.inv_agg
    exact ⟨hl, hp, key cs us hs hl hp⟩
  · have hc : v.cells = [v] := by cases v <;> first | rfl | exact absurd ⟨_, rfl⟩ hv
    rw [hc] at hs ⊢
    have h1 := h.sure (by simpa [V.sures] using hs)
    have h2 : u.cells = #[u] := by cases u <;> first | rfl | (simp [Value.oneCell'] at h1)
    rw [h2]
    refine ⟨rfl, fun i c x hi hx => ?_, by simpa using h1⟩
    cases i with
    | zero => simp at hi hx; subst hi; subst hx; exact h
    | succ i => simp at hi

section
variable {P : Program} {o : Oper} {fr : Fr} {σ : ASt}

/-- A new variable. -/
theorem o_box {t : TypeId} {x : Operand} {v : V} (ho : o.op = .box t x) (hx : evalE fr x = some v) (hs : V.sures σ v.cells = true) : Does P o fr σ (.bx σ.length 0) (σ ++ [.box v.cells]) := fun S B ι a w he hm next Q hk => by
  have hval := he x (by simp [ho, Op.operands]) v hx
  obtain ⟨h1, h2, h3⟩ := hval.cells hs
  have g := Grown.alloc w (.cells (a.eval x).cells t)
  have hobj : ObjRep S B (RefR (ι ++ [.box w.heap.size t]) (σ ++ [.box v.cells])) (w.alloc (.cells (a.eval x).cells t)) (.box v.cells) (.box w.heap.size t) :=
    ⟨_, heap_alloc_new w _, ⟨by simpa using h1, fun i c u hc hu => (h2 i c u hc (by simpa using hu)).mono (fun _ h => h) (fun _ h => h) (fun _ _ hr => hr.append hm.len _ _) fun b hb => g.block b (hm.ltS b hb)⟩, h3⟩
  obtain ⟨hm', hf⟩ := hm.push g (.box v.cells) (.box w.heap.size t) (fun b hb => by simp [live, Loc.block] at hb; omega) hobj
  have hrun : (execOp a.eval o).run P w = .ok (.value (.pointer (some ⟨w.heap.size, 0, none⟩))) (w.alloc (.cells (a.eval x).cells t)) := by
    simp [execOp, ho, Instr.box, newVar, newRow]
  unfold Oper.wp
  rw [hrun]
  refine hk _ S _ _ (.ref _ _ ?_) hm' hf
  simp [RefR, hm.len]

/-- The zero of a type, cell by cell. -/
def TyZ (P : Program) (t : TypeId) (zs : List V) : Prop := ∃ z, (P.info? t).bind (·.zero) = some z ∧ ofCells z.cells.toList = some zs
theorem TyZ.run {P : Program} {t : TypeId} {zs : List V} (h : TyZ P t zs) (w : World) : ∃ z, (zeroValue t).run P w = .ok z w ∧ ofCells z.cells.toList = some zs := by
  obtain ⟨z, h1, h2⟩ := h
  refine ⟨z, ?_, h2⟩
  cases hq : P.info? t with
  | none => simp [hq] at h1
  | some i =>
    simp [hq] at h1
    simp [zeroValue, typeInfo, hq, h1]

theorem ofCell_one {v : Value} {x : V} (h : ofCell v = some x) : v.oneCell' = true ∧ x.one = true := by
  unfold ofCell at h
  split at h <;> first | (injection h with h; subst h; exact ⟨rfl, rfl⟩) | cases h

theorem ofCells_one {vs : List Value} {xs : List V} (h : ofCells vs = some xs) : ∀ v, v ∈ vs → v.oneCell' = true := by
  obtain ⟨h1, h2⟩ := ofCells_get h
  intro v hv
  obtain ⟨i, hi, rfl⟩ := List.mem_iff_getElem.1 hv
  exact (ofCell_one (h2 i xs[i] vs[i] (by simp) (by simp))).1

theorem o_alloc {t : TypeId} {zs : List V} (ho : o.op = .alloc t) (hz : TyZ P t zs) : Does P o fr σ (.bx σ.length 0) (σ ++ [.box zs]) := fun S B ι a w he hm next Q hk => by
  obtain ⟨z, hrz, hzc⟩ := hz.run w
  obtain ⟨h1, h2⟩ := ofCells_get hzc
  have g := Grown.alloc w (.cells z.cells t)
  have hobj : ObjRep S B (RefR (ι ++ [.box w.heap.size t]) (σ ++ [.box zs])) (w.alloc (.cells z.cells t)) (.box zs) (.box w.heap.size t) :=
    ⟨_, heap_alloc_new w _, ⟨by simpa using h1, fun i c u hc hu => .cv _ _ (ofCell_cv (h2 i c u hc hu))⟩, ofCells_one hzc⟩
  obtain ⟨hm', hf⟩ := hm.push g (.box zs) (.box w.heap.size t) (fun b hb => by simp [live, Loc.block] at hb; omega) hobj
  have hrun : (execOp a.eval o).run P w = .ok (.value (.pointer (some ⟨w.heap.size, 0, none⟩))) (w.alloc (.cells z.cells t)) := by
    simp [execOp, ho, Instr.alloc, newVar, newRow, hrz]
  unfold Oper.wp
  rw [hrun]
  refine hk _ S _ _ (.ref _ _ ?_) hm' hf
  simp [RefR, hm.len]

/-- cs with new cells from off on. -/
def putAt (off : Nat) (new cs : List V) : List V := cs.take off ++ new ++ cs.drop (off + new.length)

theorem putAt_length {off : Nat} {new cs : List V} (h : off + new.length ≤ cs.length) : (putAt off new cs).length = cs.length := by
  simp [putAt]; omega
theorem putAt_get {off : Nat} {new cs : List V} (h : off + new.length ≤ cs.length) (i : Nat) : (putAt off new cs)[i]? = if off ≤ i ∧ i < off + new.length then new[i - off]? else cs[i]? := by
  unfold putAt
  by_cases h1 : i < off
  · rw [if_neg (by omega), List.append_assoc, List.getElem?_append_left (by simp; omega), List.getElem?_take, if_pos h1]
  · by_cases h2 : i < off + new.length
    · rw [if_pos ⟨by omega, h2⟩, List.getElem?_append_left (by simp; omega), List.getElem?_append_right (by simp; omega)]
      simp; congr 1; omega
    · rw [if_neg (by omega), List.getElem?_append_right (by simp; omega), List.getElem?_drop]
      congr 1; simp; omega

theorem heap_setCells (w : World) (b : Nat) : ∀ (vs : List Value) (o : Nat), (w.setCells b o vs).heap.size = w.heap.size ∧ (∀ q, q ≠ b → (w.setCells b o vs).heap[q]? = w.heap[q]?) ∧
    (w.setCells b o vs).os = w.os ∧ (w.setCells b o vs).tape = w.tape ∧ (w.setCells b o vs).output = w.output ∧
    ∀ cs e fz, w.heap[b]? = some (.cells cs e fz) → ∃ cs', (w.setCells b o vs).heap[b]? = some (.cells cs' e fz) ∧ cs'.size = cs.size ∧ ∀ i, cs'[i]? = if o ≤ i ∧ i < o + vs.length ∧ i < cs.size then vs[i - o]? else cs[i]? := by
  intro vs
  induction vs generalizing w with
  | nil =>
    intro o
    refine ⟨rfl, fun _ _ => rfl, rfl, rfl, rfl, fun cs e fz h => ⟨cs, h, rfl, fun i => ?_⟩⟩
    rw [if_neg (by simp; omega)]
  | cons v r ih =>
    intro o
    obtain ⟨h1, h2, h3, h4, h5, h6⟩ := ih (w.setCell ⟨b, o, none⟩ v) (o + 1)
    have e1 : (w.setCell ⟨b, o, none⟩ v).heap.size = w.heap.size := by simp [World.setCell]
    refine ⟨h1.trans e1, fun q hq => (h2 q hq).trans (Go.RowKit.Below.heap_setCell w ⟨b, o, none⟩ v q hq), h3, h4, h5, fun cs e fz hb => ?_⟩
    have hb2 : (w.setCell ⟨b, o, none⟩ v).heap[b]? = some (.cells (cs.setIfInBounds o v) e fz) := by
      simp [World.setCell, Array.getElem?_modify, hb]
    obtain ⟨cs', h7, h8, h9⟩ := h6 _ e fz hb2
    refine ⟨cs', h7, by simpa using h8, fun i => ?_⟩
    rw [h9 i]
    simp only [Array.size_setIfInBounds, List.length_cons]
    by_cases hi : i = o
    · subst hi
      by_cases hlt : i < cs.size
      · rw [if_neg (by omega), if_pos ⟨Nat.le_refl _, by omega, hlt⟩]
        simp [hlt]
      · rw [if_neg (by omega), if_neg (by omega)]
        rw [Array.getElem?_eq_none (by simp; omega), Array.getElem?_eq_none (by omega)]
    · by_cases hc : o + 1 ≤ i ∧ i < o + 1 + r.length ∧ i < cs.size
      · rw [if_pos hc, if_pos ⟨by omega, by omega, hc.2.2⟩]
        rw [show i - o = (i - (o + 1)) + 1 by omega]; rfl
      · rw [if_neg hc, if_neg (by omega), Array.getElem?_setIfInBounds_ne (Ne.symm hi)]

theorem run_storeAt_gen {t : TypeId} {ag : Bool} {sz : Nat} (w : World) (b off : Nat) (u : Value) (ht : TyS P t ag sz) (hu : u.cells.size = sz) (h1 : ∀ x, x ∈ u.cells.toList → x.oneCell' = true)
    (hc : ∀ j, j < sz → (w.cell? ⟨b, off + j, none⟩).isSome = true) (hf : ∀ j, j < sz → w.frozen? ⟨b, off + j, none⟩ = false) :
    (Instr.storeAt t (.pointer (some ⟨b, off, none⟩)) u).run P w = .ok () (w.setCells b off u.cells.toList) := by
  have := run_storeCells_cells (P := P) b off u.cells.toList 0 w (fun j hj => by simpa using hc j (by simpa [hu] using hj)) (fun j hj => by simpa using hf j (by simpa [hu] using hj)) h1
  simp only [Nat.add_zero] at this
  simp only [Instr.storeAt, Instr.sureAddr, Sem.run_bind, Sem.run_pure, Result.andThen_ok, storeVar, ht.size w, hu, ne_eq, not_true_eq_false, if_false]
  exact this

def sameForm : AO → AO → Prop
  | .arr _ s1 xs, .arr _ s2 ys => s1 = s2 ∧ xs.length = ys.length
  | .box cs, .box ds => cs.length = ds.length
  | .mp _, .mp _ => True
  | .arr _ _ _, .dead => True
  | .fam _, .fam _ => True
  | .afm s1 _, .afm s2 _ => s1 = s2
  | _, _ => False

/-- The references of a store in which an object is written at its place and keeps its form. -/
theorem RefR.set {ι : List Loc} {σ : ASt} {a : Nat} {o o' : AO} {l : Loc} (ha : σ[a]? = some o) (hl : ι[a]? = some l)
    (hk : sameForm o o') {v : V} {u : Value} (h : RefR ι σ v u) :
    RefR (ι.set a l) (σ.set a o') v u := by
  have hι : ι.set a l = ι := by
    apply List.ext_getElem?
    intro q
    by_cases hq : q = a
    · subst hq
      rw [List.getElem?_set_self (List.getElem?_eq_some_iff.1 hl).1, hl]
    · rw [List.getElem?_set_ne (Ne.symm hq)]
  rw [hι]
  have hlt : a < σ.length := (List.getElem?_eq_some_iff.1 ha).1
  have key : ∀ q, (q = a ∧ (σ.set a o')[q]? = some o' ∧ σ[q]? = some o) ∨ (σ.set a o')[q]? = σ[q]? := fun q => by
    by_cases hq : q = a
    · subst hq; exact .inl ⟨rfl, List.getElem?_set_self hlt, ha⟩
    · exact .inr (List.getElem?_set_ne (Ne.symm hq))
  cases v with
  | hd q L off len =>
    rcases key q with ⟨rfl, h1, h2⟩ | h1
    · simp only [RefR, h1, h2, hl] at h ⊢
      cases o <;> cases o' <;> first | exact False.elim hk | (cases l <;> simp_all [sameForm])
    · simp only [RefR, h1] at h ⊢; exact h
  | bx q j =>
    rcases key q with ⟨rfl, h1, h2⟩ | h1
    · simp only [RefR, h1, h2, hl] at h ⊢
      cases o <;> cases o' <;> first | exact False.elim hk | (cases l <;> simp_all [sameForm])
    · simp only [RefR, h1] at h ⊢; exact h
  | el q L i j =>
    rcases key q with ⟨rfl, h1, h2⟩ | h1
    · simp only [RefR, h1, h2, hl] at h ⊢
      cases o <;> cases o' <;> first | exact False.elim hk | (cases l <;> simp_all [sameForm])
    · simp only [RefR, h1] at h ⊢; exact h
  | px q L k j =>
    rcases key q with ⟨rfl, h1, h2⟩ | h1
    · simp only [RefR, h1, h2, hl] at h ⊢
      cases o <;> cases o' <;> first | exact False.elim hk | (cases l <;> simp_all [sameForm])
    · simp only [RefR, h1] at h ⊢; exact h
  | mp q =>
    rcases key q with ⟨rfl, h1, h2⟩ | h1
    · simp only [RefR, h1, h2, hl] at h ⊢
      cases o <;> cases o' <;> first | exact False.elim hk | (cases l <;> simp_all [sameForm])
    · simp only [RefR, h1] at h ⊢; exact h
  | _ => exact h

/-- A store into a variable. -/
theorem o_storeBx {t : TypeId} {x y : Operand} {p j sz : Nat} {ag : Bool} {cs : List V} {v : V} (ho : o.op = .store t x y) (ht : TyS P t ag sz) (hx : evalE fr x = some (.bx p j)) (hy : evalE fr y = some v) (hs : σ[p]? = some (.box cs))
    (hsz : v.cells.length = sz) (hl : j + sz ≤ cs.length) (hsu : V.sures σ v.cells = true) : Does P o fr σ .any (σ.set p (.box (putAt j v.cells cs))) := fun S B ι a w he hm next Q hk => by
  obtain ⟨b, e0, h2, hu, _⟩ := RefR.bx (Val.inv_ref (v := .bx p j) rfl trivial (he x (by simp [ho, Op.operands]) _ hx)) hs
  obtain ⟨k1, k2, k3⟩ := (he y (by simp [ho, Op.operands]) v hy).cells hsu
  obtain ⟨us, hh, ⟨hcl, hcv⟩, hone⟩ := hm.obj p _ _ hs h2
  have husz : us.size = cs.length := by simpa using hcl.symm
  have hrun := run_storeAt_gen (P := P) w b j (a.eval y) ht (by rw [← k1, hsz]) k3 (fun q hq => by simp [World.cell?, hh]; omega) (fun q hq => by simp [World.frozen?, hh])
  obtain ⟨e1, e2, e3, e4, e5, e6⟩ := heap_setCells w b (a.eval y).cells.toList j
  obtain ⟨cs', e7, e8, e9⟩ := e6 us e0 (0, 0) hh
  have hlen : (a.eval y).cells.toList.length = sz := by simp [← k1, hsz]
  have hsf : sameForm (.box cs) (.box (putAt j v.cells cs)) := (putAt_length (by omega)).symm
  have hstep := hm.step (o' := .box (putAt j v.cells cs)) (l' := .box b e0) (S' := S) hs h2 (w' := w.setCells b j (a.eval y).cells.toList) e3 e4 e5 (by omega)
    (fun q _ hq => e2 q (fun h => hq (by simp [live, Loc.block, h]))) (fun _ h => h) (fun _ h => .inl h) (fun q hq => by rw [e1]; exact hm.ltS q (.inl hq))
    (fun _ _ h => h.set hs h2 hsf)
    (by
      have same : ∀ q, S q ∨ B q → (w.setCells b j (a.eval y).cells.toList).heap[q]? = w.heap[q]? := fun q hq => e2 q fun h => hm.outS p _ _ b hs h2 rfl (h ▸ hq)
      refine ⟨cs', e7, ⟨by rw [putAt_length (by omega)]; simp [e8, husz], fun i c u hc hu2 => ?_⟩, fun x hx => ?_⟩
      · rw [Array.getElem?_toList, e9 i, hlen] at hu2
        rw [putAt_get (by omega), hsz] at hc
        by_cases hi : j ≤ i ∧ i < j + sz
        · rw [if_pos hi] at hc
          rw [if_pos ⟨hi.1, hi.2, by omega⟩] at hu2
          exact (k2 (i - j) c u hc (by simpa using hu2)).mono (fun _ h => h) (fun _ h => h) (fun _ _ h => h.set hs h2 hsf) same
        · rw [if_neg hi] at hc
          rw [if_neg (fun h => hi ⟨h.1, h.2.1⟩)] at hu2
          exact (hcv i c u hc (by simpa using hu2)).mono (fun _ h => h) (fun _ h => h) (fun _ _ h => h.set hs h2 hsf) same
      · obtain ⟨i, hi, rfl⟩ := List.mem_iff_getElem.1 hx
        have h9 := e9 i
        rw [hlen] at h9
        simp only [Array.getElem_toList]
        have hi2 : i < cs'.size := by simpa using hi
        rw [Array.getElem?_eq_getElem hi2] at h9
        split at h9
        · exact k3 _ (List.mem_of_getElem? h9.symm)
        · exact hone _ (by rw [← Array.getElem?_toList] at h9; exact List.mem_of_getElem? h9.symm))
    (fun q hq => by simp [live, Loc.block] at hq; subst hq; exact ⟨.inl rfl, fun hS => hm.outS p _ _ b hs h2 rfl (.inl hS)⟩)
  have hι : ι.set p (.box b e0) = ι := by
    apply List.ext_getElem?
    intro q
    by_cases hq : q = p
    · subst hq; rw [List.getElem?_set_self (List.getElem?_eq_some_iff.1 h2).1, h2]
    · rw [List.getElem?_set_ne (Ne.symm hq)]
  unfold Oper.wp
  have : (execOp a.eval o).run P w = .ok .skip (w.setCells b j (a.eval y).cells.toList) := by
    simp only [execOp, ho, hu, Sem.run_bind, hrun, Result.andThen_ok, Sem.run_pure]
  rw [this]
  rw [hι] at hstep
  exact hk _ S ι _ (.any _) hstep.1 hstep.2
end
end Go.G36
