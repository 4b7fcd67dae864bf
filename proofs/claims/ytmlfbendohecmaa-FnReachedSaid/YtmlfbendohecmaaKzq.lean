/- An array rewritten as a whole; parts of an own array: read, cleared; an own array cut short. -/
import Derived.Test.YtmlfbendohecmaaKzp
namespace Go.G36
variable [Genv]
set_option linter.all false
open Go

section
variable {S B : Nat → Prop} {ι : List Loc} {σ : ASt} {w : World}

theorem arr_at {p sz : Nat} {m : Md} {xs : List (List V)} (hm : Mem S B ι σ w) (hp : σ[p]? = some (.arr m sz xs)) : ∃ v, ι[p]? = some (.row v) ∧ ObjRep S B (RefR ι σ) w (.arr m sz xs) (.row v) := by
  have hlt : p < ι.length := by rw [hm.len]; exact (List.getElem?_eq_some_iff.1 hp).1
  have hι : ι[p]? = some ι[p] := by simp [hlt]
  have hobj := hm.obj p _ _ hp hι
  generalize ι[p] = l at hι hobj
  cases l with
  | row v => exact ⟨v, hι, hobj⟩
  | box b e => exact hobj.elim
  | map r => exact hobj.elim
  | it r9 m9 => exact hobj.elim
  | fam bs => exact hobj.elim
  | afm vs => exact hobj.elim

/-- An array of the store is rewritten as a whole where it lies. -/
theorem Mem.rewrite {p sz : Nat} {xs ys : List (List V)} {v : Value} {w' : World} (hm : Mem S B ι σ w) (hp : σ[p]? = some (.arr .clo sz xs)) (hpl : ι[p]? = some (.row v)) (hl : ys.length = xs.length)
    (os : w'.os = w.os) (tape : w'.tape = w.tape) (output : w'.output = w.output) (size : w.heap.size ≤ w'.heap.size)
    (hk : ∀ b, b < w.heap.size → v.ownBlock ≠ some b → w'.heap[b]? = w.heap[b]?)
    (hown : ∃ e vals, w'.ownsRow 0 e sz v ys.length vals ∧ RowsV (CV S w') sz ys vals ∧ ∀ u, u ∈ vals → u.oneCell' = true) :
    Mem S B ι (σ.set p (.arr .clo sz ys)) w' ∧ Fw S ι σ w S ι (σ.set p (.arr .clo sz ys)) w' := by
  obtain ⟨h0, _⟩ := hm.obj p _ _ hp hpl
  obtain ⟨e, vals, g1, g2, g3⟩ := hown
  have hstep := hm.step (o' := .arr .clo sz ys) (l' := .row v) (S' := S) (w' := w') hp hpl os tape output size (fun b hb hn => hk b hb fun h => hn h) (fun _ h => h) (fun _ h => .inl h)
    (fun b hb => Nat.lt_of_lt_of_le (hm.ltS b (.inl hb)) size) (fun _ _ h => h.set (o' := .arr .clo sz ys) hp hpl ⟨rfl, hl.symm⟩)
    ⟨h0, e, vals, g1, g2, g3, (fun h => by cases h), fun _ h => by cases h⟩
    (fun b hb => ⟨.inl hb, fun hS => hm.outS p _ _ b hp hpl hb (.inl hS)⟩)
  rw [set_same hpl] at hstep
  exact hstep
end

def clearP {α : Type} (z : α) (xs : List α) (l h : Int) : List α := xs.take l.toNat ++ (List.replicate (h - l).toNat z ++ xs.drop (l.toNat + (h - l).toNat))
theorem clearP_len {α : Type} {z : α} {xs : List α} {l h : Int} (h1 : l.toNat + (h - l).toNat ≤ xs.length) : (clearP z xs l h).length = xs.length := by
  simp only [clearP, List.length_append, List.length_take, List.length_replicate, List.length_drop]; omega
theorem clearP_get {α : Type} {z : α} {xs : List α} {l h : Int} (h1 : l.toNat + (h - l).toNat ≤ xs.length) (i : Nat) : (clearP z xs l h)[i]? = if l.toNat ≤ i ∧ i < l.toNat + (h - l).toNat then some z else xs[i]? := by
  unfold clearP
  by_cases c1 : i < l.toNat
  · rw [if_neg (by omega), List.getElem?_append_left (by simp; omega), List.getElem?_take, if_pos c1]
  · rw [List.getElem?_append_right (by simp; omega)]
    simp only [List.length_take, Nat.min_eq_left (show l.toNat ≤ xs.length by omega)]
    by_cases c2 : i < l.toNat + (h - l).toNat
    · rw [if_pos ⟨by omega, c2⟩, List.getElem?_append_left (by simp; omega), List.getElem?_replicate, if_pos (by omega)]
    · rw [if_neg (by omega), List.getElem?_append_right (by simp; omega), List.getElem?_drop]
      congr 1; simp; omega

theorem clearP_lenS {α : Type} {z : α} {xs ys : List α} {l h : Int} (hh : sub xs l h = some ys) : (clearP z xs l h).length = xs.length := by
  obtain ⟨h1, h2, h3, _⟩ := sub_s hh
  exact clearP_len (by omega)
theorem hp_len {α : Type} {f : α → List V} {xs ys : List α} (p a b : Nat) (h : ys.length = xs.length) : V.hd p (xs.map f).length a b = .hd p (ys.map f).length a b := by simp only [List.length_map, h]

section
variable {P : Program} {o : Oper} {fr : Fr} {σ : ASt}

/-- A part of an own array. -/
theorem o_subHd {α : Type} {f : α → List V} {t e : TypeId} {ag : Bool} {sz p L : Nat} {m : Md} {x : Operand} {lo hi : Option Operand} {xs ys : List α} {l h : Int} (ho : o.op = .slice t x lo hi none) (ht : P.underlying t = some (.slice e)) (hs : TyS P e ag sz)
    (hx : evalE fr x = some (.hd p L 0 L)) (hσ : σ[p]? = some (.arr m sz (xs.map f))) (hL : (xs.map f).length = L) (hlo : optE fr lo 0 = some l) (hhi : optE fr hi xs.length = some h) (hs2 : sub xs l h = some ys) : Does P o fr σ (.hd p L l.toNat (h - l).toNat) σ := quiet fun S B ι a w he hm => by
  obtain ⟨v, hι, hle, hz, hnz⟩ := RefR.hd (Val.inv_ref (v := .hd p L 0 L) rfl trivial (he x (by simp [ho, Op.operands]) _ hx)) hσ hL
  obtain ⟨A, c, hv, hu⟩ := hz rfl
  obtain ⟨k0, k1, k2, hys⟩ := sub_s hs2
  have hL2 : xs.length = L := by simpa using hL
  obtain ⟨h0, e2, vals, hown, _⟩ := hm.obj p _ _ hσ hι
  have hc : L ≤ c ∧ (L ≠ 0 → ∃ b, A = some ⟨b, 0, none⟩) ∧ ((∃ b, A = some ⟨b, 0, none⟩) ∨ A = none) := by
    rcases hown.2 with ⟨h3, h4⟩ | ⟨g, cap, cur, h3, _, _, h5, _⟩
    · rw [hv] at h3; injection h3 with q1 q2 q3
      exact ⟨by omega, fun h => absurd q2 h, .inr q1⟩
    · rw [hv] at h3; injection h3 with q1 q2 q3
      exact ⟨by simp at h5; omega, fun _ => ⟨g, q1⟩, .inl ⟨g, q1⟩⟩
  have hl := opt_val he (fun y hy => by simp [ho, Op.operands, hy]) hlo
  have hh := opt_val he (fun y hy => by simp [ho, Op.operands, hy]) hhi
  rw [hL2] at k2 hh
  have hb : (Instr.sliceBounds true L c (lo.map a.eval) (hi.map a.eval) none).run P w = .ok (l.toNat, h.toNat, c) w :=
    run_bounds k0 k1 (by omega) (by rcases hl with ⟨rfl, rfl⟩ | ⟨y, k, rfl, hy⟩; exact .inl ⟨rfl, rfl⟩; exact .inr ⟨k, by simp [hy]⟩) (by rcases hh with ⟨rfl, rfl⟩ | ⟨y, k, rfl, hy⟩; exact .inl ⟨rfl, rfl⟩; exact .inr ⟨k, by simp [hy]⟩)
  have hsz : L ≠ 0 → sz = sz := fun _ => rfl
  refine ⟨.slice (if c = l.toNat then A else A.map (·.add (l.toNat * sz))) (h.toNat - l.toNat) (c - l.toNat), ?_, .ref _ _ ?_⟩
  · simp [execOp, ho, hu, Instr.sliceAt, Instr.slice, run_underlying ht, hb, hs.size w]
  · have hn : h.toNat - l.toNat = (h - l).toNat := by omega
    rw [hn]
    simp only [RefR, hσ, hι]
    refine ⟨by omega, fun _ => ⟨by omega, fun hl0 => ?_, fun hl0 => ?_⟩⟩
    · refine ⟨A, c, hv, ?_⟩
      rw [hl0]
      rcases hc.2.2 with ⟨b, rfl⟩ | rfl
      · simp [Addr.add_mid]
      · simp
    · obtain ⟨b, rfl⟩ := hc.2.1 (by omega)
      refine ⟨b, c, _, _, hv, rfl, ⟨by omega, by omega⟩, fun hne => ?_⟩
      rw [if_neg (by omega)]
      simp [Addr.add_mid]

theorem zeroCells_get (z : Array Value) (n i : Nat) (hi : i < n * z.size) : (Builtin.zeroCells z n).toList[i]? = z.toList[i % z.size]? := by
  have hz : 0 < z.size := by
    rcases Nat.eq_zero_or_pos z.size with h | h
    · rw [h] at hi; omega
    · exact h
  have hm := Nat.mod_lt i hz
  simp [Builtin.zeroCells, hi, hm]

/-- clear of a part of an own array -/
theorem o_clearHp {α : Type} {f : α → List V} {t e : TypeId} {x : Operand} {p L sz : Nat} {xs : List α} {l h : Int} {z : α} (ho : o.op = .call { callee := .builtin .clear, args := #[x], argTypes := #[t] }) (ht : P.underlying t = some (.slice e)) (hz : TyZ P e (f z))
    (hsz : (f z).length = sz) (hx : evalE fr x = some (.hd p L l.toNat (h - l).toNat)) (hσ : σ[p]? = some (.arr .clo sz (xs.map f))) (hL : (xs.map f).length = L) :
    Does P o fr σ .any (σ.set p (.arr .clo sz ((clearP z xs l h).map f))) := fun S B ι a w he hm next Q hk => by
  obtain ⟨v, hι, hle, hz0, hnz⟩ := RefR.hd (Val.inv_ref (v := .hd p L l.toNat (h - l).toNat) rfl trivial (he x (by simp [ho, Op.operands, Call.operands]) _ hx)) hσ hL
  have hL2 : xs.length = L := by simpa using hL
  obtain ⟨h0, e2, vals, hown, ⟨hvl, hrl, hcv⟩, hone, htg⟩ := hm.obj p _ _ hσ hι
  obtain ⟨zv, hrz, hzc⟩ := hz.run w
  obtain ⟨zl, zg⟩ := ofCells_get hzc
  have zone := ofCells_one hzc
  have zsz : zv.cells.size = sz := by rw [← hsz]; simpa using zl.symm
  have hlen : (clearP z xs l h).length = xs.length := clearP_len (by omega)
  by_cases hn : (h - l).toNat = 0
  · have e1 : clearP z xs l h = xs := by
      apply List.ext_getElem?
      intro i
      rw [clearP_get (by omega), if_neg (by omega)]
    have hu : ∃ A c, a.eval x = .slice A 0 c := by
      rw [hn] at hz0 hnz
      by_cases ho0 : l.toNat = 0
      · obtain ⟨A, c, _, hu⟩ := hz0 ho0; exact ⟨A, c, hu⟩
      · obtain ⟨b, c, A, c', _, hu, _⟩ := hnz ho0; exact ⟨A, c', hu⟩
    obtain ⟨A, c, hu⟩ := hu
    have hr : (execOp a.eval o).run P w = .ok (.value (.tuple #[])) w := by
      cases A <;> simp [execOp, ho, hu, resolve, invoke, builtin, Builtin.clear_, run_underlying ht]
    rw [e1, set_same hσ] at hk
    unfold Oper.wp
    rw [hr]
    exact hk _ S ι _ (.any _) hm (Fw.refl _ _ _ _)
  · have hv : ∃ b c c', v = .slice (some ⟨b, 0, none⟩) L c ∧ a.eval x = .slice (some ⟨b, l.toNat * sz, none⟩) (h - l).toNat c' := by
      by_cases ho0 : l.toNat = 0
      · obtain ⟨A, c, hv, hu⟩ := hz0 ho0
        rcases hown.2 with ⟨h3, h4⟩ | ⟨g, cap, cur, h3, _, _, h5, _⟩
        · simp only [List.length_map] at h4; omega
        · rw [hv] at h3; injection h3 with q1 q2 q3
          subst q1
          exact ⟨g, c, c, hv, by rw [hu, ho0]; simp⟩
      · obtain ⟨b, c, A, c', hv, hu, _, hA⟩ := hnz ho0
        obtain rfl := hA hn
        exact ⟨b, c, c', hv, hu⟩
    obtain ⟨b, c, c', rfl, hu⟩ := hv
    let zs := (Builtin.zeroCells zv.cells (h - l).toNat).toList
    have zlen : zs.length = (h - l).toNat * sz := by simp [zs, Builtin.zeroCells, zsz]
    have zget : ∀ i, i < (h - l).toNat * sz → zs[i]? = zv.cells.toList[i % sz]? := fun i hi => by
      have := zeroCells_get zv.cells (h - l).toNat i (by rw [zsz]; exact hi)
      rwa [zsz] at this
    have zone2 : ∀ u, u ∈ zs → u.oneCell' = true := fun u hu => by
      obtain ⟨i, hi, rfl⟩ := List.mem_iff_getElem.1 hu
      have := zget i (by rw [← zlen]; exact hi)
      rw [List.getElem?_eq_getElem hi] at this
      exact zone _ (List.mem_of_getElem? this.symm)
    rw [hL] at hown
    have hin : ∀ j, j < zs.length → l.toNat * sz + j < vals.length := fun j hj => by
      rw [hvl, hL]
      have h1 : (l.toNat + (h - l).toNat) * sz ≤ L * sz := Nat.mul_le_mul_right _ (by omega)
      rw [Nat.add_mul] at h1
      rw [zlen] at hj; omega
    have hst := run_storeCells_cells (P := P) b (l.toNat * sz) zs 0 w (fun j hj => by
        have := hin j hj
        rw [Nat.add_zero, row_cell hown (List.getElem?_eq_getElem this)]; rfl) (fun j hj => hown.frozenAt _) zone2
    rw [Nat.add_zero] at hst
    obtain ⟨e3, e4, e5, e6, e7, _⟩ := heap_setCells w b zs (l.toNat * sz)
    obtain ⟨ys, g1, g2, g3⟩ := ownsRow_setCells zs (l.toNat * sz) w vals hown
    have hlive : live (.arr .clo sz (xs.map f)) (.row (.slice (some ⟨b, 0, none⟩) L c)) b := rfl
    have same : ∀ q, S q ∨ B q → (w.setCells b (l.toNat * sz) zs).heap[q]? = w.heap[q]? := fun q hq => e4 q fun h => hm.outS p _ _ b hσ hι hlive (h ▸ hq)
    have hrun : (execOp a.eval o).run P w = .ok (.value (.tuple #[])) (w.setCells b (l.toNat * sz) zs) := by
      obtain ⟨n, hn'⟩ : ∃ n, (h - l).toNat = n + 1 := ⟨(h - l).toNat - 1, by omega⟩
      simp only [zs, hn'] at hst
      simp [execOp, ho, hu, hn', resolve, invoke, builtin, Builtin.clear_, run_underlying ht, hrz, hst, zs]
    have hstep := hm.rewrite (ys := (clearP z xs l h).map f) (w' := w.setCells b (l.toNat * sz) zs) hσ hι (by simp [hlen]) e5 e6 e7 (by omega) (fun q _ hq => e4 q fun h => hq (by rw [h]; rfl))
      ⟨e2, ys, by simpa [hlen, hL2] using g1, ⟨by rw [g2, hvl]; simp [hlen], fun row hr => ?_, fun i j row cc hr hc => ?_⟩, fun u hu => ?_⟩
    · unfold Oper.wp
      rw [hrun]
      exact hk _ S ι _ (.any _) hstep.1 hstep.2
    · obtain ⟨a0, ha0, rfl⟩ := List.mem_map.1 hr
      simp only [clearP, List.mem_append] at ha0
      rcases ha0 with h9 | h9 | h9
      · exact hrl _ (List.mem_map_of_mem (List.mem_of_mem_take h9))
      · rw [(List.mem_replicate.1 h9).2]; exact hsz
      · exact hrl _ (List.mem_map_of_mem (List.mem_of_mem_drop h9))
    · rw [List.getElem?_map, clearP_get (by omega)] at hr
      by_cases c1 : l.toNat ≤ i ∧ i < l.toNat + (h - l).toNat
      · rw [if_pos c1] at hr
        injection hr with hr; subst hr
        have hj : j < sz := by rw [← hsz]; exact (List.getElem?_eq_some_iff.1 hc).1
        have b1 : (i - l.toNat) * sz + j < (h - l).toNat * sz := by
          have : (i - l.toNat + 1) * sz ≤ (h - l).toNat * sz := Nat.mul_le_mul_right _ (by omega)
          rw [Nat.add_mul] at this; omega
        have b2 : i * sz + j - l.toNat * sz = (i - l.toNat) * sz + j := by rw [Nat.sub_mul]; have := Nat.mul_le_mul_right sz c1.1; omega
        have b3 : ((i - l.toNat) * sz + j) % sz = j := by rw [Nat.mul_comm, Nat.mul_add_mod, Nat.mod_eq_of_lt hj]
        have b4 : l.toNat * sz ≤ i * sz := Nat.mul_le_mul_right _ c1.1
        have hjz : j < zv.cells.toList.length := by simpa [zsz] using hj
        refine ⟨zv.cells.toList[j], ?_, ofCell_cv (zg j cc _ hc (by simp at hjz ⊢))⟩
        rw [g3, if_pos ⟨by omega, by rw [zlen]; omega, by have := hin ((i - l.toNat) * sz + j) (by rw [zlen]; exact b1); omega⟩, b2, zget _ b1, b3]
        simp at hjz ⊢
      · rw [if_neg c1] at hr
        obtain ⟨u, h5, h6⟩ := hcv i j row cc (by rw [List.getElem?_map]; exact hr) hc
        have hj : j < sz := by
          have := (List.getElem?_eq_some_iff.1 hc).1
          rw [hrl row (List.mem_of_getElem? (by rw [List.getElem?_map]; exact hr))] at this
          exact this
        refine ⟨u, ?_, CV.mono h6 (fun _ h => h) fun q hq => same q (.inl hq)⟩
        rw [g3, if_neg]
        · exact h5
        · rintro ⟨q1, q2, _⟩
          rw [zlen] at q2
          apply c1
          rw [← Nat.add_mul] at q2
          constructor
          · apply Nat.le_of_not_lt; intro hlt
            have : (i + 1) * sz ≤ l.toNat * sz := Nat.mul_le_mul_right _ hlt
            rw [Nat.add_mul] at this; omega
          · apply Nat.lt_of_not_le; intro hge
            have : (l.toNat + (h - l).toNat) * sz ≤ i * sz := Nat.mul_le_mul_right _ hge
            omega
    · obtain ⟨q, hq, rfl⟩ := List.mem_iff_getElem.1 hu
      have h9 := g3 q
      rw [List.getElem?_eq_getElem hq] at h9
      split at h9
      · exact zone2 _ (List.mem_of_getElem? h9.symm)
      · exact hone _ (List.mem_of_getElem? h9.symm)
end

section
variable {S B : Nat → Prop} {ι : List Loc} {σ : ASt} {w : World}

/-- The references of a store in which an array is given up and an object is laid behind. -/
theorem RefR.gone {p sz : Nat} {m : Md} {xs : List (List V)} {o : AO} {l : Loc} (hlen : ι.length = σ.length) (hp : σ[p]? = some (.arr m sz xs)) {x : V} {u : Value} (h : RefR ι σ x u) : RefR (ι ++ [l]) (σ.set p .dead ++ [o]) x u := by
  obtain ⟨l0, hl0⟩ : ∃ l, ι[p]? = some l := by
    have : p < ι.length := by rw [hlen]; exact (List.getElem?_eq_some_iff.1 hp).1
    exact ⟨ι[p], by simp [this]⟩
  have := RefR.append (ι := ι.set p l0) (σ := σ.set p .dead) (by simp [hlen]) [l] [o] (h.set hp hl0 (o' := .dead) trivial)
  rwa [set_same hl0] at this

/-- An own array cut short: a new object; what named the old one names nothing. -/
theorem Mem.cut {p sz k : Nat} {xs : List (List V)} {A : Option Addr} {L c : Nat} (hm : Mem S B ι σ w) (hp : σ[p]? = some (.arr .clo sz xs)) (hpl : ι[p]? = some (.row (.slice A L c))) (hk : k ≤ xs.length) :
    Mem S B (ι ++ [.row (.slice A k c)]) (σ.set p .dead ++ [.arr .clo sz (xs.take k)]) w ∧ Fw S ι σ w S (ι ++ [.row (.slice A k c)]) (σ.set p .dead ++ [.arr .clo sz (xs.take k)]) w := by
  obtain ⟨h0, e, vals, hown, ⟨hvl, hrl, hcv⟩, hone, htg⟩ := hm.obj p _ _ hp hpl
  have hpl' : p < σ.length := (List.getElem?_eq_some_iff.1 hp).1
  have href : ∀ x u, RefR ι σ x u → RefR (ι ++ [.row (.slice A k c)]) (σ.set p .dead ++ [.arr .clo sz (xs.take k)]) x u := fun x u h => h.gone hm.len hp
  have hlk : (xs.take k).length = k := by simp; omega
  have split : ∀ (q : Nat) (o2 : AO) (l2 : Loc), (σ.set p .dead ++ [.arr .clo sz (xs.take k)])[q]? = some o2 → (ι ++ [Loc.row (.slice A k c)])[q]? = some l2 →
      (q ≠ p ∧ σ[q]? = some o2 ∧ ι[q]? = some l2) ∨ (q = p ∧ o2 = .dead) ∨ (q = σ.length ∧ o2 = .arr .clo sz (xs.take k) ∧ l2 = .row (.slice A k c)) := fun q o2 l2 h1 h2 => by
    rcases Nat.lt_trichotomy q σ.length with h | h | h
    · rw [List.getElem?_append_left (by simpa using h)] at h1
      rw [List.getElem?_append_left (by rw [hm.len]; exact h)] at h2
      by_cases hq : q = p
      · subst hq
        rw [List.getElem?_set_self hpl'] at h1
        injection h1 with h1
        exact .inr (.inl ⟨rfl, h1.symm⟩)
      · rw [List.getElem?_set_ne (Ne.symm hq)] at h1
        exact .inl ⟨hq, h1, h2⟩
    · subst h
      rw [List.getElem?_append_right (by simp)] at h1
      rw [List.getElem?_append_right (by rw [hm.len]; exact Nat.le_refl _)] at h2
      simp [hm.len] at h1 h2
      exact .inr (.inr ⟨rfl, h1.symm, h2.symm⟩)
    · rw [List.getElem?_eq_none (by simp; omega)] at h1; cases h1
  have hlv : ∀ (q : Nat) (o2 : AO) (l2 : Loc) (b : Nat), (σ.set p .dead ++ [.arr .clo sz (xs.take k)])[q]? = some o2 → (ι ++ [Loc.row (.slice A k c)])[q]? = some l2 → live o2 l2 b →
      ∃ q0 o0 l0, σ[q0]? = some o0 ∧ ι[q0]? = some l0 ∧ live o0 l0 b ∧ ((q = q0 ∧ q ≠ p) ∨ (q = σ.length ∧ q0 = p)) := fun q o2 l2 b h1 h2 h3 => by
    rcases split q o2 l2 h1 h2 with ⟨k1, k2, k3⟩ | ⟨_, rfl⟩ | ⟨rfl, rfl, rfl⟩
    · exact ⟨q, o2, l2, k2, k3, h3, .inl ⟨rfl, k1⟩⟩
    · exact h3.elim
    · refine ⟨p, _, _, hp, hpl, ?_, .inr ⟨rfl, rfl⟩⟩
      cases A with
      | none => cases h3
      | some A => exact h3
  refine ⟨⟨by simp [hm.len], fun q o2 l2 h1 h2 => ?_, fun q o1 l1 q2 o2 l2 b h1 h2 h3 h4 h5 h6 => ?_, fun q o2 l2 b h1 h2 h3 => ?_, hm.ltS, hm.gl⟩,
    ⟨rfl, rfl, rfl, Nat.le_refl _, fun _ h => h, fun b hb => .inl hb, fun _ _ _ => rfl, fun b hb => ?_, href⟩⟩
  · rcases split q o2 l2 h1 h2 with ⟨k1, k2, k3⟩ | ⟨_, rfl⟩ | ⟨rfl, rfl, rfl⟩
    · exact (hm.obj q o2 l2 k2 k3).mono (fun _ h => h) href (fun _ _ => rfl) fun _ _ => rfl
    · trivial
    · refine ⟨h0, e, vals.take (k * sz), ?_, ⟨?_, fun row hr => hrl row (List.mem_of_mem_take hr), fun i j row cc hr hc => ?_⟩, fun u hu => hone u (List.mem_of_mem_take hu), fun h => (by cases h), fun _ h => (by cases h)⟩
      · have hkL : k * sz ≤ xs.length * sz := Nat.mul_le_mul_right _ hk
        refine ⟨by rw [hlk, List.length_take, hvl]; omega, ?_⟩
        rw [hlk]
        rcases hown.2 with ⟨h3, h4⟩ | ⟨g, cap, cur, h3, r1, r2, r3, r4, r5, r6⟩
        · injection h3 with q1 q2 q3
          subst q1; subst q3
          exact .inl ⟨by rw [show k = 0 by omega], by omega⟩
        · injection h3 with q1 q2 q3
          subst q1; subst q3
          refine .inr ⟨g, c, cur, rfl, r1, r2, by omega, r4, r5, ?_⟩
          rw [← r6, List.take_take, Nat.min_eq_left hkL]
      · rw [hlk, List.length_take, hvl]
        have hkL : k * sz ≤ xs.length * sz := Nat.mul_le_mul_right _ hk
        omega
      · rw [List.getElem?_take] at hr
        split at hr
        · rename_i hik
          obtain ⟨u, h5, h6⟩ := hcv i j row cc hr hc
          refine ⟨u, ?_, h6⟩
          have hj : j < sz := by
            have := (List.getElem?_eq_some_iff.1 hc).1
            rw [hrl row (List.mem_of_getElem? hr)] at this
            exact this
          have : (i + 1) * sz ≤ k * sz := Nat.mul_le_mul_right _ hik
          rw [Nat.add_mul] at this
          rw [List.getElem?_take, if_pos (by omega)]
          exact h5
        · cases hr
  · obtain ⟨q0, o0, l0, a1, a2, a3, a4⟩ := hlv q o1 l1 b h1 h2 h5
    obtain ⟨q3, o3, l3, b1, b2, b3, b4⟩ := hlv q2 o2 l2 b h3 h4 h6
    have := hm.apart q0 o0 l0 q3 o3 l3 b a1 a2 b1 b2 a3 b3
    omega
  · obtain ⟨q0, o0, l0, a1, a2, a3, a4⟩ := hlv q o2 l2 b h1 h2 h3
    exact hm.outS q0 o0 l0 b a1 a2 a3
  · obtain ⟨q, o2, l2, h1, h2, h3⟩ := hb
    obtain ⟨q0, o0, l0, a1, a2, a3, a4⟩ := hlv q o2 l2 b h1 h2 h3
    exact .inl ⟨q0, o0, l0, a1, a2, a3⟩
end

theorem Cs.cut {α : Type} {f : α → List V} {N n t p L sz : Nat} {fr : Fr} {σ : ASt} {xs ys : List α} {l h : Int} (ht : lk fr t = some (.hd p L l.toNat (h - l).toNat)) (hp : σ[p]? = some (.arr .clo sz (xs.map f))) (hL : (xs.map f).length = L) (hl : l = 0) (hy : sub xs l h = some ys) :
    Cs N n fr σ ((t, .hd σ.length (ys.map f).length 0 (ys.map f).length) :: fr) (σ.set p .dead ++ [.arr .clo sz (ys.map f)]) := fun S B ι a w hr => by
  subst hl
  obtain ⟨k0, k1, k2, rfl⟩ := sub_s hy
  have hL2 : xs.length = L := by simpa using hL
  obtain ⟨v, hι, hle, hz0, _⟩ := RefR.hd (Val.inv_ref rfl trivial (hr.fr t _ ht)) hp hL
  obtain ⟨A, c, rfl, hu⟩ := hz0 rfl
  have e1 : ((xs.drop (0 : Int).toNat).take (h - 0).toNat).map f = (xs.map f).take (h - 0).toNat := by simp [List.map_take]
  have e2 : ((xs.map f).take (h - 0).toNat).length = (h - 0).toNat := by simp; omega
  obtain ⟨hm', hf⟩ := hr.mem.cut hp hι (k := (h - 0).toNat) (by simp; omega)
  rw [e1]
  refine ⟨S, _, (hr.fw hf hm').retell (.ref _ _ ?_), hf.toN⟩
  have ln : (σ.set p AO.dead ++ [AO.arr .clo sz ((xs.map f).take (h - 0).toNat)])[σ.length]? = some (.arr .clo sz ((xs.map f).take (h - 0).toNat)) := by
    rw [List.getElem?_append_right (by simp)]; simp
  have li : (ι ++ [Loc.row (.slice A (h - 0).toNat c)])[σ.length]? = some (.row (.slice A (h - 0).toNat c)) := by
    rw [List.getElem?_append_right (by rw [hr.mem.len]; exact Nat.le_refl _)]; simp [hr.mem.len]
  simp only [RefR, ln, li, e2]
  exact ⟨Nat.le_refl _, fun _ => ⟨by omega, fun _ => ⟨A, c, rfl, hu⟩, fun h => absurd rfl h⟩⟩
end Go.G36
