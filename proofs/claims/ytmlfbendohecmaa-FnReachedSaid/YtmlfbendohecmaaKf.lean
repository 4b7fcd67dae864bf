/- Arrays: elements written, new slices, appends; parts put together; function values. -/
import Derived.Test.YtmlfbendohecmaaKe
namespace Go.G36
variable [Genv]
set_option linter.all false
open Go

theorem ownsRow_setCells {base e size g cap n : Nat} : ∀ (vs : List Value) (j : Nat) (w : World) (xs : List Value), w.ownsRow base e size (.slice (some ⟨g, 0, none⟩) n cap) n xs →
    ∃ ys, (w.setCells g j vs).ownsRow base e size (.slice (some ⟨g, 0, none⟩) n cap) n ys ∧ ys.length = xs.length ∧ ∀ i, ys[i]? = if j ≤ i ∧ i < j + vs.length ∧ i < xs.length then vs[i - j]? else xs[i]? := by
  intro vs
  induction vs with
  | nil => intro j w xs h; exact ⟨xs, h, rfl, fun i => by rw [if_neg (by simp; omega)]⟩
  | cons v r ih =>
    intro j w xs h
    obtain ⟨ys, h1, h2, h3⟩ := ih (j + 1) _ _ (h.stored j v).1
    refine ⟨ys, h1, by simpa using h2, fun i => ?_⟩
    rw [h3 i]
    simp only [List.length_set, List.length_cons]
    by_cases hi : i = j
    · subst hi
      rw [if_neg (by omega)]
      by_cases hlt : i < xs.length
      · rw [if_pos ⟨Nat.le_refl _, by omega, hlt⟩]; simp [hlt]
      · rw [if_neg (by omega), List.getElem?_eq_none (by simp; omega), List.getElem?_eq_none (by omega)]
    · by_cases hc : j + 1 ≤ i ∧ i < j + 1 + r.length ∧ i < xs.length
      · rw [if_pos hc, if_pos ⟨by omega, by omega, hc.2.2⟩, show i - j = (i - (j + 1)) + 1 by omega]; rfl
      · rw [if_neg hc, if_neg (by omega), List.getElem?_set_ne (Ne.symm hi)]

theorem set_same {α : Type} {l : List α} {p : Nat} {x : α} (h : l[p]? = some x) : l.set p x = l := by
  apply List.ext_getElem?
  intro q
  by_cases hq : q = p
  · subst hq; rw [List.getElem?_set_self (List.getElem?_eq_some_iff.1 h).1, h]
  · rw [List.getElem?_set_ne (Ne.symm hq)]

theorem row_split {i j size k q : Nat} (hj : j < size) (hq : q < size) (h : i * size + j = k * size + q) : i = k ∧ j = q := by
  have h1 : (i * size + j) / size = i := by rw [Nat.mul_comm, Nat.mul_add_div (by omega), Nat.div_eq_of_lt hj]; rfl
  have h2 : (k * size + q) / size = k := by rw [Nat.mul_comm, Nat.mul_add_div (by omega), Nat.div_eq_of_lt hq]; rfl
  have : i = k := by rw [← h1, ← h2, h]
  subst this
  exact ⟨rfl, by omega⟩

section
variable {P : Program} {o : Oper} {fr : Fr} {σ : ASt}

/-- A store into an element of an array of the store. -/
theorem o_storeEl {t : TypeId} {x y : Operand} {p L i j sz : Nat} {ag : Bool} {m : Md} {size : Nat} {xs : List (List V)} {row : List V} {v : V} (ho : o.op = .store t x y) (ht : TyS P t ag sz) (hx : evalE fr x = some (.el p L i j)) (hy : evalE fr y = some v)
    (hs : σ[p]? = some (.arr m size xs)) (hL : xs.length = L) (hm0 : m ≠ .frz) (hrow : xs[i]? = some row) (hsz : v.cells.length = sz) (hl : j + sz ≤ row.length) (hsu : V.sures σ v.cells = true) (hcl : m ≠ .raw → V.cls v.cells = true) :
    Does P o fr σ .any (σ.set p (.arr m size (xs.set i (putAt j v.cells row)))) := fun S B ι a w he hm next Q hk => by
  obtain ⟨b, c, h2, hi, hu⟩ := RefR.el (Val.inv_ref (v := .el p L i j) rfl trivial (he x (by simp [ho, Op.operands]) _ hx)) hs hL
  obtain ⟨k1, k2, k3⟩ := (he y (by simp [ho, Op.operands]) v hy).cells hsu
  obtain ⟨h0, e, vals, hown, ⟨hvl, hrl, hcv⟩, hone, htg⟩ := hm.obj p _ _ hs h2
  rw [hL] at hown
  have hrs : row.length = size := hrl row (List.mem_of_getElem? hrow)
  have hvlen : (a.eval y).cells.toList.length = sz := by simp [← k1, hsz]
  have hin : ∀ q, q < sz → i * size + j + q < vals.length := fun q hq => by
    rw [hvl, hL]
    have h1 : (i + 1) * size ≤ L * size := Nat.mul_le_mul_right _ hi
    rw [Nat.add_mul, Nat.one_mul] at h1
    omega
  have hrun := run_storeAt_gen (P := P) w b (i * size + j) (a.eval y) ht (by rw [← k1, hsz]) k3 (fun q hq => by
      have := hin q hq
      rw [row_cell hown (List.getElem?_eq_getElem this)]; rfl) (fun q hq => hown.frozenAt _)
  obtain ⟨e1, e2, e3, e4, e5, e6⟩ := heap_setCells w b (a.eval y).cells.toList (i * size + j)
  obtain ⟨ys, g1, g2, g3⟩ := ownsRow_setCells (a.eval y).cells.toList (i * size + j) w vals hown
  have hlive : live (.arr m size xs) (.row (.slice (some ⟨b, 0, none⟩) L c)) b := by cases m <;> first | exact absurd rfl hm0 | rfl
  have hlive' : live (.arr m size (xs.set i (putAt j v.cells row))) (.row (.slice (some ⟨b, 0, none⟩) L c)) b := by cases m <;> first | exact absurd rfl hm0 | rfl
  have href : ∀ v u, RefR ι σ v u → RefR (ι.set p (.row (.slice (some ⟨b, 0, none⟩) L c))) (σ.set p (.arr m size (xs.set i (putAt j v.cells row)))) v u := fun _ _ h => h.set hs h2 (by simp [sameForm])
  have href2 : ∀ v' u, RefR ι σ v' u → RefR (ι.set p (.row (.slice (some ⟨b, 0, none⟩) L c))) (σ.set p (.arr m size (xs.set i (putAt j v.cells row)))) v' u := fun _ _ h => h.set hs h2 (by simp [sameForm])
  have same : ∀ q, S q ∨ B q → (w.setCells b (i * size + j) (a.eval y).cells.toList).heap[q]? = w.heap[q]? := fun q hq => e2 q fun h => hm.outS p _ _ b hs h2 hlive (h ▸ hq)
  have hstep := hm.step (o' := .arr m size (xs.set i (putAt j v.cells row))) (l' := .row (.slice (some ⟨b, 0, none⟩) L c)) (S' := S) hs h2 (w' := w.setCells b (i * size + j) (a.eval y).cells.toList) e3 e4 e5 (by omega)
    (fun q _ hq => e2 q (fun h => hq (h ▸ hlive))) (fun _ h => h) (fun _ h => .inl h) (fun q hq => by rw [e1]; exact hm.ltS q (.inl hq)) href2
    (by
      refine ⟨h0, e, ys, by simpa [hL] using g1, ⟨by simp [g2, hvl], fun r hr => ?_, fun i' j' r cc hr hc => ?_⟩, fun u hu => ?_, fun h => absurd h hm0, htg.2⟩
      · rcases List.mem_or_eq_of_mem_set hr with h | h
        · exact hrl r h
        · rw [h, putAt_length (by omega), hrs]
      · have hj' : j' < size := by
          have := (List.getElem?_eq_some_iff.1 hc).1
          have hlen : r.length = size := by
            rcases List.mem_or_eq_of_mem_set (List.mem_of_getElem? hr) with h | h
            · exact hrl r h
            · rw [h, putAt_length (by omega), hrs]
          omega
        have lift : ∀ (cc : V) (u : Value), (match m with | .raw => Val S B (RefR ι σ) w | _ => CV S w) cc u →
            (match m with | .raw => Val S B (RefR (ι.set p (.row (.slice (some ⟨b, 0, none⟩) L c))) (σ.set p (.arr m size (xs.set i (putAt j v.cells row))))) (w.setCells b (i * size + j) (a.eval y).cells.toList) | _ => CV S (w.setCells b (i * size + j) (a.eval y).cells.toList)) cc u := fun cc u h => by
          cases m with
          | raw => exact Val.mono h (fun _ h => h) (fun _ h => h) href2 same
          | clo => exact CV.mono h (fun _ h => h) fun q hq => same q (.inl hq)
          | tg t0 => exact CV.mono h (fun _ h => h) fun q hq => same q (.inl hq)
          | frz => exact absurd rfl hm0
        have old : ∀ r0, xs[i']? = some r0 → r0[j']? = some cc → (¬ (i' = i ∧ j ≤ j' ∧ j' < j + sz)) → ∃ u, ys[i' * size + j']? = some u ∧
            (match m with | .raw => Val S B (RefR (ι.set p (.row (.slice (some ⟨b, 0, none⟩) L c))) (σ.set p (.arr m size (xs.set i (putAt j v.cells row))))) (w.setCells b (i * size + j) (a.eval y).cells.toList) | _ => CV S (w.setCells b (i * size + j) (a.eval y).cells.toList)) cc u := fun r0 hr0 hc0 hno => by
          obtain ⟨u, h5, h6⟩ := hcv i' j' r0 cc hr0 hc0
          refine ⟨u, ?_, lift cc u h6⟩
          rw [g3, hvlen, if_neg]
          · exact h5
          · rintro ⟨q1, q2, _⟩
            obtain ⟨q, hq, hqe⟩ : ∃ q, q < sz ∧ i' * size + j' = i * size + (j + q) := ⟨i' * size + j' - (i * size + j), by omega, by omega⟩
            obtain ⟨rfl, rfl⟩ := row_split hj' (by omega) hqe
            exact hno ⟨rfl, by omega, by omega⟩
        by_cases hii : i' = i
        · subst hii
          have hr' : r = putAt j v.cells row := by
            rw [List.getElem?_set_self (List.getElem?_eq_some_iff.1 hrow).1] at hr
            injection hr with hr; exact hr.symm
          subst hr'
          rw [putAt_get (by omega), hsz] at hc
          by_cases hq : j ≤ j' ∧ j' < j + sz
          · rw [if_pos hq] at hc
            have hlt : j' - j < (a.eval y).cells.size := by rw [← k1, hsz]; omega
            refine ⟨(a.eval y).cells[j' - j], ?_, ?_⟩
            · rw [g3, hvlen, if_pos ⟨by omega, by omega, by have := hin (j' - j) (by omega); omega⟩, show i' * size + j' - (i' * size + j) = j' - j by omega]
              simp [hlt]
            · have hval := k2 (j' - j) cc _ hc (Array.getElem?_eq_getElem hlt)
              cases m with
              | raw => exact Val.mono hval (fun _ h => h) (fun _ h => h) href2 same
              | clo => exact (hval.closed (refOk _ _) (V.cls_get (hcl (fun h => by cases h)) _ _ hc)).mono (fun _ h => h) fun q hq => same q (.inl hq)
              | tg t0 => exact (hval.closed (refOk _ _) (V.cls_get (hcl (fun h => by cases h)) _ _ hc)).mono (fun _ h => h) fun q hq => same q (.inl hq)
              | frz => exact absurd rfl hm0
          · rw [if_neg hq] at hc
            exact old row hrow hc fun h => hq h.2
        · rw [List.getElem?_set_ne (Ne.symm hii)] at hr
          exact old r hr hc fun h => hii h.1
      · obtain ⟨q, hq, rfl⟩ := List.mem_iff_getElem.1 hu
        have h9 := g3 q
        rw [List.getElem?_eq_getElem hq] at h9
        split at h9
        · exact k3 _ (List.mem_of_getElem? h9.symm)
        · exact hone _ (List.mem_of_getElem? h9.symm))
    (fun q hq => by have hq : some b = some q := by (cases m <;> first | exact absurd rfl hm0 | exact hq)
                    injection hq with hq; subst hq; exact ⟨.inl hlive, fun hS => hm.outS p _ _ b hs h2 hlive (.inl hS)⟩)
  unfold Oper.wp
  have : (execOp a.eval o).run P w = .ok .skip (w.setCells b (i * size + j) (a.eval y).cells.toList) := by
    simp only [execOp, ho, hu, Sem.run_bind, hrun, Result.andThen_ok, Sem.run_pure]
  rw [this]
  rw [set_same h2] at hstep
  exact hk _ S ι _ (.any _) hstep.1 hstep.2
end
end Go.G36
