/- Queues: own arrays read from the front and appended to behind; loops whose frame hangs on more than the state. -/
import Derived.Test.YtmlfbendohecmaaKzq
import Derived.ArgAppend
import Derived.Maps.RangeRun
namespace Go.G36
variable [Genv]
set_option linter.all false
open Go

section
variable {S B : Nat → Prop} {ι : List Loc} {σ : ASt} {w : World}
/-- An array is given up. -/
theorem Mem.kill {p sz : Nat} {m : Md} {xs : List (List V)} (hm : Mem S B ι σ w) (hp : σ[p]? = some (.arr m sz xs)) : Mem S B ι (σ.set p .dead) w ∧ Fw S ι σ w S ι (σ.set p .dead) w := by
  obtain ⟨v, hpl, _⟩ := arr_at hm hp
  have hstep := hm.step (o' := .dead) (l' := .row v) (S' := S) (w' := w) hp hpl rfl rfl rfl (Nat.le_refl _) (fun _ _ _ => rfl) (fun _ h => h) (fun _ h => .inl h)
    (fun b hb => hm.ltS b (.inl hb)) (fun _ _ h => h.set (o' := .dead) hp hpl trivial) trivial (fun b hb => hb.elim)
  rw [set_same hpl] at hstep
  exact hstep
end
theorem RowsV_app {C : V → Value → Prop} {sz : Nat} {xs ys : List (List V)} {vs us : List Value} (h : RowsV C sz xs vs) (k : RowsV C sz ys us) : RowsV C sz (xs ++ ys) (vs ++ us) := by
  obtain ⟨h1, h2, h3⟩ := h
  obtain ⟨k1, k2, k3⟩ := k
  refine ⟨by rw [List.length_append, h1, k1, List.length_append, Nat.add_mul], fun row hr => ?_, fun i j row c hi hj => ?_⟩
  · rcases List.mem_append.1 hr with h | h
    · exact h2 row h
    · exact k2 row h
  · by_cases hil : i < xs.length
    · rw [List.getElem?_append_left hil] at hi
      obtain ⟨u, h5, h6⟩ := h3 i j row c hi hj
      exact ⟨u, by rw [List.getElem?_append_left (List.getElem?_eq_some_iff.1 h5).1]; exact h5, h6⟩
    · rw [List.getElem?_append_right (by omega)] at hi
      obtain ⟨u, h5, h6⟩ := k3 (i - xs.length) j row c hi hj
      refine ⟨u, ?_, h6⟩
      have hx : xs.length * sz ≤ i * sz := Nat.mul_le_mul_right _ (by omega)
      have hd : i * sz = xs.length * sz + (i - xs.length) * sz := by rw [← Nat.add_mul]; congr 1; omega
      rw [List.getElem?_append_right (by omega), h1, show i * sz + j - xs.length * sz = (i - xs.length) * sz + j by omega]
      exact h5
theorem RowsV_mono {C C' : V → Value → Prop} {sz : Nat} {xs : List (List V)} {vs : List Value} (h : RowsV C sz xs vs) (k : ∀ c u, C c u → C' c u) : RowsV C' sz xs vs :=
  ⟨h.1, h.2.1, fun i j row c hi hj => by obtain ⟨u, h1, h2⟩ := h.2.2 i j row c hi hj; exact ⟨u, h1, k _ _ h2⟩⟩
section
variable {P : Program} {o : Oper} {fr : Fr} {σ : ASt}

end

theorem Cs.kill {N n p sz : Nat} {fr : Fr} {σ : ASt} {m : Md} {xs : List (List V)} (hs : σ[p]? = some (.arr m sz xs)) : Cs N n fr σ fr (σ.set p .dead) := fun S B ι a w hr => by
  obtain ⟨h1, h2⟩ := hr.mem.kill hs
  exact ⟨S, ι, hr.fw h2 h1, h2.toN⟩
end Go.G36
/- Ranges over maps: the iterator, its steps, the entry it stands at. -/
namespace Go.G36
variable [Genv]
set_option linter.all false
open Go

theorem restOf_nil (en : Array MapEntry) : restOf en #[] = en.toList := by
  unfold restOf
  rw [List.filter_eq_self]
  intro e _
  simp
theorem restOf_leftOf (en : Array MapEntry) (seen : Array Nat) : (leftOf en seen).toList = restOf en seen := by
  simp [leftOf, restOf]
theorem Born.nodup {en : Array MapEntry} {c : Nat} (h : Born en c) : (en.toList.map (·.born)).Nodup := by
  refine List.pairwise_iff_getElem.2 fun i j hi hj hij he => ?_
  simp at hi hj he
  have := h.2 i j en[i] en[j] (by simp) (by simp) he
  omega
theorem erase_filter {α β : Type} [DecidableEq β] (f : α → β) : ∀ (l : List α) (i : Nat) (e : α), l[i]? = some e → (l.map f).Nodup → l.filter (fun x => !(decide (f x = f e))) = l.eraseIdx i
  | [], i, e, h, _ => by simp at h
  | a :: l, 0, e, h, hn => by
    simp at h; subst h
    rw [List.map_cons, List.nodup_cons] at hn
    simp only [List.eraseIdx_cons_zero, List.filter_cons, decide_true, Bool.not_true, Bool.false_eq_true, if_false]
    rw [List.filter_eq_self]
    intro x hx
    simp only [Bool.not_eq_true', decide_eq_false_iff_not]
    intro hxa
    exact hn.1 (List.mem_map.2 ⟨x, hx, hxa⟩)
  | a :: l, i + 1, e, h, hn => by
    simp at h
    rw [List.map_cons, List.nodup_cons] at hn
    have hne : f a ≠ f e := fun hae => hn.1 (List.mem_map.2 ⟨e, List.mem_of_getElem? h, hae.symm⟩)
    rw [List.eraseIdx_cons_succ, List.filter_cons, if_pos (by simpa using hne), erase_filter f l i e h hn.2]
theorem restOf_push {en : Array MapEntry} {c : Nat} (hB : Born en c) {seen : Array Nat} {i : Nat} {e : MapEntry} (h : (restOf en seen)[i]? = some e) : restOf en (seen.push e.born) = (restOf en seen).eraseIdx i := by
  have hn : ((restOf en seen).map (·.born)).Nodup := by
    unfold restOf
    exact (hB.nodup).sublist (List.Sublist.map _ List.filter_sublist)
  rw [← erase_filter (fun x : MapEntry => x.born) _ i e h hn]
  unfold restOf
  rw [List.filter_filter]
  congr 1
  funext x
  by_cases h1 : x.born = e.born
  · simp [h1]
  · simp [h1, Array.contains_push]

section
variable {P : Program} {o : Oper} {fr : Fr} {σ : ASt}

theorem RefR.killM {ι : List Loc} {p r : Nat} {es : List (V × V)} (hs : σ[p]? = some (.mp es)) (hι : ι[p]? = some (.map r)) (v : V) (u : Value) (h : RefR ι σ v u) : RefR ι (σ.set p .dead) v u := by
  have hpl : p < σ.length := (List.getElem?_eq_some_iff.1 hs).1
  have key : ∀ a0, p ≠ a0 → (σ.set p AO.dead)[a0]? = σ[a0]? := fun a0 hq => List.getElem?_set_ne hq
  have kp : (σ.set p AO.dead)[p]? = some .dead := List.getElem?_set_self hpl
  cases v with
  | hd a0 L off len =>
    simp only [RefR] at h ⊢
    by_cases hq : p = a0
    · subst hq; rw [hs] at h; simp at h
    · rw [key a0 hq]; exact h
  | bx a0 j =>
    simp only [RefR] at h ⊢
    by_cases hq : p = a0
    · subst hq; rw [hs, hι] at h; simp at h
    · rw [key a0 hq]; exact h
  | el a0 L i j =>
    simp only [RefR] at h ⊢
    by_cases hq : p = a0
    · subst hq; rw [hs] at h; simp at h
    · rw [key a0 hq]; exact h
  | px a0 L k j =>
    simp only [RefR] at h ⊢
    by_cases hq : p = a0
    · subst hq; rw [hs] at h; simp at h
    · rw [key a0 hq]; exact h
  | mp a0 =>
    simp only [RefR] at h ⊢
    by_cases hq : p = a0
    · subst hq; rw [hs, hι] at h; rw [kp, hι]; exact h
    · rw [key a0 hq]; exact h
  | _ => exact h

/-- range m: the map is given up for its iterator. -/
theorem o_range {t k e : TypeId} {x : Operand} {p : Nat} {es : List (V × V)} (ho : o.op = .range t x) (ht : P.underlying t = some (.map k e)) (hx : evalE fr x = some (.mp p)) (hs : σ[p]? = some (.mp es)) :
    Does P o fr σ (.bx σ.length 0) (σ.set p .dead ++ [.mp ((.nilF, .nilF) :: es)]) := fun S B ι a w he hm next Q hk => by
  obtain ⟨r, en, clock, h1, hι, h3, h4, hB, h5⟩ := mp_of hm (he x (by simp [ho, Op.operands]) _ hx) hs
  have hrl : r < w.heap.size := (Array.getElem?_eq_some_iff.1 h3).1
  have hpl : p < σ.length := (List.getElem?_eq_some_iff.1 hs).1
  have hpι : p < ι.length := (List.getElem?_eq_some_iff.1 hι).1
  generalize hit : Obj.mapIter (some r) clock #[] clock = it
  have hg := Grown.alloc w it
  have hnew : (w.alloc it).heap[w.heap.size]? = some it := heap_alloc_new w it
  have hold : ∀ b, b < w.heap.size → (w.alloc it).heap[b]? = w.heap[b]? := fun b hb => hg.block b hb
  have href : ∀ v u, RefR ι σ v u → RefR (ι ++ [Loc.it w.heap.size r]) (σ.set p .dead ++ [.mp ((.nilF, .nilF) :: es)]) v u := fun v u h =>
    (RefR.killM hs hι v u h).append (by simpa using hm.len) _ _
  have hout := hm.outS p _ _ r hs hι rfl
  have same : ∀ b, S b ∨ B b → (w.alloc it).heap[b]? = w.heap[b]? := fun b hb => hold b (hm.ltS b hb)
  -- the objects of the new store
  have obj : ∀ (q : Nat) (o2 : AO) (l2 : Loc), (σ.set p .dead ++ [.mp ((.nilF, .nilF) :: es)])[q]? = some o2 → (ι ++ [Loc.it w.heap.size r])[q]? = some l2 →
      (q ≠ p ∧ q < σ.length ∧ σ[q]? = some o2 ∧ ι[q]? = some l2) ∨ (q = p ∧ o2 = .dead) ∨ (q = σ.length ∧ o2 = .mp ((.nilF, .nilF) :: es) ∧ l2 = .it w.heap.size r) := fun q o2 l2 g1 g2 => by
    by_cases hq : q < σ.length
    · rw [List.getElem?_append_left (by simpa using hq)] at g1
      rw [List.getElem?_append_left (by rw [hm.len]; exact hq)] at g2
      by_cases hqp : q = p
      · subst hqp
        rw [List.getElem?_set_self hpl] at g1
        injection g1 with g1
        exact .inr (.inl ⟨rfl, g1.symm⟩)
      · rw [List.getElem?_set_ne (Ne.symm hqp)] at g1
        exact .inl ⟨hqp, hq, g1, g2⟩
    · have hq2 : q = σ.length := by
        have := (List.getElem?_eq_some_iff.1 g1).1
        simp at this; omega
      subst hq2
      rw [List.getElem?_append_right (by simp)] at g1
      rw [List.getElem?_append_right (by rw [hm.len]; exact Nat.le_refl _)] at g2
      simp at g1
      simp [hm.len] at g2
      exact .inr (.inr ⟨rfl, g1.symm, g2.symm⟩)
  have hm' : Mem S B (ι ++ [Loc.it w.heap.size r]) (σ.set p .dead ++ [.mp ((.nilF, .nilF) :: es)]) (w.alloc it) := by
    refine ⟨by simp [hm.len], fun q o2 l2 g1 g2 => ?_, fun q o2 l2 q' o2' l2' b g1 g2 g1' g2' hb hb' => ?_, fun q o2 l2 b g1 g2 hb => ?_, fun b hb => Nat.lt_of_lt_of_le (hm.ltS b hb) hg.size, hm.gl.mono (fun _ h => h) fun b hb => same b (.inl hb)⟩
    · rcases obj q o2 l2 g1 g2 with ⟨hne, hq, k1, k2⟩ | ⟨_, rfl⟩ | ⟨_, rfl, rfl⟩
      · exact (hm.obj q o2 l2 k1 k2).mono (fun _ h => h) href same fun b hb => hold b (live_lt (hm.obj q o2 l2 k1 k2) hb)
      · trivial
      · refine ⟨by omega, en, clock, #[], { key := .nilFunc, val := .nilFunc, born := 0 }, (hold r hrl).trans h3, by rw [hnew, ← hit], hB, .inl ⟨rfl, rfl⟩, by simp [restOf_nil]; omega, fun i k0 x0 e0 j1 j2 => ?_⟩
        cases i with
        | zero =>
          simp at j1 j2
          obtain ⟨rfl, rfl⟩ := j1
          subst j2
          exact ⟨.nilF, .cv _ _ .nilF⟩
        | succ i =>
          rw [List.getElem?_cons_succ] at j1 j2
          rw [restOf_nil] at j2
          obtain ⟨g3, g4⟩ := h5 i k0 x0 e0 j1 (by simpa using j2)
          exact ⟨g3.mono (fun _ h => h) fun b hb => same b (.inl hb), g4.mono (fun _ h => h) (fun _ h => h) href same⟩
    · have one : ∀ (q : Nat) (o2 : AO) (l2 : Loc) (b : Nat), (σ.set p .dead ++ [.mp ((.nilF, .nilF) :: es)])[q]? = some o2 → (ι ++ [Loc.it w.heap.size r])[q]? = some l2 → live o2 l2 b →
          (q ≠ p ∧ q < σ.length ∧ σ[q]? = some o2 ∧ ι[q]? = some l2 ∧ b < w.heap.size ∧ b ≠ r) ∨ (q = σ.length ∧ (b = w.heap.size ∨ b = r)) := fun q o2 l2 b g1 g2 hb => by
        rcases obj q o2 l2 g1 g2 with ⟨hne, hq, k1, k2⟩ | ⟨_, rfl⟩ | ⟨hq, rfl, rfl⟩
        · exact .inl ⟨hne, hq, k1, k2, live_lt (hm.obj q o2 l2 k1 k2) hb, fun hbr => hne (hm.apart q o2 l2 p _ _ r k1 k2 hs hι (hbr ▸ hb) rfl)⟩
        · exact hb.elim
        · exact .inr ⟨hq, hb⟩
      rcases one q o2 l2 b g1 g2 hb with ⟨a1, a2, a3, a4, a5, a6⟩ | ⟨a1, a2⟩ <;> rcases one q' o2' l2' b g1' g2' hb' with ⟨b1, b2, b3, b4, b5, b6⟩ | ⟨b1, b2⟩
      · exact hm.apart q o2 l2 q' o2' l2' b a3 a4 b3 b4 hb hb'
      · rcases b2 with b2 | b2 <;> omega
      · rcases a2 with a2 | a2 <;> omega
      · omega
    · rcases obj q o2 l2 g1 g2 with ⟨hne, hq, k1, k2⟩ | ⟨_, rfl⟩ | ⟨hq, rfl, rfl⟩
      · exact hm.outS q o2 l2 b k1 k2 hb
      · exact hb.elim
      · rcases hb with rfl | rfl
        · exact fun h => absurd (hm.ltS _ h) (Nat.lt_irrefl _)
        · exact hout
  have hf : Fw S ι σ w S (ι ++ [Loc.it w.heap.size r]) (σ.set p .dead ++ [.mp ((.nilF, .nilF) :: es)]) (w.alloc it) := by
    refine ⟨hg.os, hg.tape, hg.output, hg.size, fun _ h => h, fun _ h => .inl h, fun b hb _ => hold b hb, fun b ⟨q, o2, l2, g1, g2, hb⟩ => ?_, href⟩
    rcases obj q o2 l2 g1 g2 with ⟨hne, hq, k1, k2⟩ | ⟨_, rfl⟩ | ⟨hq, rfl, rfl⟩
    · exact .inl ⟨q, o2, l2, k1, k2, hb⟩
    · exact hb.elim
    · rcases hb with rfl | rfl
      · exact .inr (Nat.le_refl _)
      · exact .inl ⟨p, _, _, hs, hι, rfl⟩
  have hr : (execOp a.eval o).run P w = .ok (.value (.pointer (some ⟨w.heap.size, 0, none⟩))) (w.alloc it) := by
    simp [execOp, ho, h1, Instr.range, run_underlying ht, MapKept.run_getObj_map h3, newObj, Sem.run, Result.andThen, hit]
  unfold Oper.wp
  rw [hr]
  refine hk _ S _ _ (.ref _ _ ?_) hm' hf
  have k1 : (σ.set p AO.dead ++ [AO.mp ((.nilF, .nilF) :: es)])[σ.length]? = some (.mp ((.nilF, .nilF) :: es)) := by
    rw [List.getElem?_append_right (by simp)]; simp
  have k2 : (ι ++ [Loc.it w.heap.size r])[σ.length]? = some (.it w.heap.size r) := by
    rw [List.getElem?_append_right (by rw [hm.len]; exact Nat.le_refl _)]; simp [hm.len]
  simp [RefR, k1, k2]

theorem it_of {S B : Nat → Prop} {ι : List Loc} {w : World} (hm : Mem S B ι σ w) {q : Nat} {u : Value} {es : List (V × V)} (h : Val S B (RefR ι σ) w (.bx q 0) u) (hs : σ[q]? = some (.mp es)) :
    ∃ r m, ι[q]? = some (.it r m) ∧ u = .pointer (some ⟨r, 0, none⟩) := by
  have h := Val.inv_ref (v := .bx q 0) rfl trivial h
  simp only [RefR, hs] at h
  split at h
  · rename_i h1 _; cases h1
  · rename_i h1 h2; exact ⟨_, _, h2, h.1⟩
  · exact h.elim

/-- A step of an iterator: it is over, or it stands at one of the entries that are left. -/
theorem o_next {x : Operand} {q : Nat} {c : V × V} {es : List (V × V)} (ho : o.op = .next x false) (hx : evalE fr x = some (.bx q 0)) (hs : σ[q]? = some (.mp (c :: es))) :
    DoesQ P o fr σ fun v σ' => (es = [] ∧ v = .tup [.bool false] ∧ σ' = σ) ∨ ∃ (i : Nat) (k y : V), es[i]? = some (k, y) ∧ v = .tup [.bool true, k, y] ∧ σ' = σ.set q (.mp ((k, y) :: es.eraseIdx i)) := fun S B ι a w he hm next Q hk => by
  obtain ⟨r, m, hι, hu⟩ := it_of hm (he x (by simp [ho, Op.operands]) _ hx) hs
  obtain ⟨hne, en, clock, seen, c0, h1, h2, hB, _, h4, h5⟩ := hm.obj q _ _ hs hι
  have hlen : (restOf en seen).length = es.length := by simpa using h4
  unfold Oper.wp
  rcases run_next_at (P := P) w o.type r m clock clock seen en clock h2 h1 (fun z hz => by
    obtain ⟨i, hi, rfl⟩ := List.mem_iff_getElem.1 hz
    exact hB.1 i _ (by simp at hi ⊢)) (Nat.le_refl _) with ⟨h0, hrun⟩ | ⟨e, hmem, w1, hw1, hrun⟩
  · have hr : (execOp a.eval o).run P w = .ok (.value (.tuple #[.bool false])) w := by
      simp [execOp, ho, hu, hrun, Result.andThen]
    rw [hr]
    have hes : es = [] := List.eq_nil_of_length_eq_zero (by rw [← hlen, ← restOf_leftOf]; simpa using h0)
    exact hk _ _ _ S ι w (.inl ⟨hes, rfl, rfl⟩) (.tup _ _ rfl fun i c u hc hu => by
      cases i with
      | zero => simp at hc hu; subst hc; subst hu; exact .cv _ _ (.bool _)
      | succ i => simp at hc) hm (Fw.refl _ _ _ _)
  · rw [restOf_leftOf] at hmem
    obtain ⟨i, hi, rfl⟩ := List.mem_iff_getElem.1 hmem
    generalize hE : (restOf en seen)[i] = e at hrun hmem
    have hei : (restOf en seen)[i]? = some e := by rw [← hE]; simp
    have hil : i < es.length := by rw [← hlen]; exact hi
    obtain ⟨⟨k, y⟩, hky⟩ : ∃ ky, es[i]? = some ky := ⟨es[i], by simp [hil]⟩
    have hcv := h5 (i + 1) k y e (by simpa using hky) (by simpa using hei)
    have hr : (execOp a.eval o).run P w = .ok (.value (.tuple #[.bool true, e.key, e.val])) (ChangeMaps.setBlock w1 r (.mapIter (some m) clock (seen.push e.born) clock)) := by
      simp [execOp, ho, hu, hrun, Result.andThen]
    rw [hr]
    have hw1h : w1.heap = w.heap ∧ w1.os = w.os ∧ w1.tape = w.tape ∧ w1.output = w.output := by rcases hw1 with rfl | rfl <;> exact ⟨rfl, rfl, rfl, rfl⟩
    generalize hW : ChangeMaps.setBlock w1 r (.mapIter (some m) clock (seen.push e.born) clock) = W
    have hrl : r < w.heap.size := (Array.getElem?_eq_some_iff.1 h2).1
    have hWh : W.heap = w.heap.setIfInBounds r (.mapIter (some m) clock (seen.push e.born) clock) := by rw [← hW]; simp [ChangeMaps.setBlock, hw1h.1]
    have kr : W.heap[r]? = some (.mapIter (some m) clock (seen.push e.born) clock) := by rw [hWh]; simp [hrl]
    have kb : ∀ b, b ≠ r → W.heap[b]? = w.heap[b]? := fun b hb => by rw [hWh, Array.getElem?_setIfInBounds_ne (Ne.symm hb)]
    have hιs : ι.set q (.it r m) = ι := set_same hι
    have hql : q < σ.length := (List.getElem?_eq_some_iff.1 hs).1
    have hqι : q < ι.length := (List.getElem?_eq_some_iff.1 hι).1
    have href : ∀ v u, RefR ι σ v u → RefR ι (σ.set q (.mp ((k, y) :: es.eraseIdx i))) v u := fun v u h => by
      have := RefR.set (o' := .mp ((k, y) :: es.eraseIdx i)) hs hι trivial h
      rwa [hιs] at this
    have hlv : live (.mp (c :: es)) (.it r m) r := .inl rfl
    have hout := hm.outS q _ _ r hs hι (.inl rfl)
    have same : ∀ b, S b ∨ B b → W.heap[b]? = w.heap[b]? := fun b hb => kb b fun h => hout (h ▸ hb)
    have hst := hm.step (o' := .mp ((k, y) :: es.eraseIdx i)) (l' := .it r m) (S' := S) (w' := W) hs hι (by rw [← hW]; exact hw1h.2.1) (by rw [← hW]; exact hw1h.2.2.1) (by rw [← hW]; exact hw1h.2.2.2) (by rw [hWh]; simp)
      (fun b _ hb => kb b fun h => hb (.inl h)) (fun _ h => h) (fun _ h => .inl h) (fun b hb => by rw [hWh]; simpa using hm.ltS b (.inl hb)) (fun v u h => by rw [hιs]; exact href v u h)
      ⟨hne, en, clock, seen.push e.born, e, (kb m (Ne.symm hne)).trans h1, kr, hB, .inr ⟨seen, rfl, (List.mem_filter.1 (List.mem_of_getElem? hei)).1⟩, by
        rw [restOf_push hB hei]; simp [List.length_eraseIdx, hlen, hil], fun j k' y' e' j1 j2 => by
        rw [restOf_push hB hei] at j2
        have fin : ∀ {k' y' : V} {e' : MapEntry}, (CV S w k' e'.key ∧ Val S B (RefR ι σ) w y' e'.val) → CV S W k' e'.key ∧ Val S B (RefR (ι.set q (.it r m)) (σ.set q (.mp ((k, y) :: es.eraseIdx i)))) W y' e'.val := fun h =>
          ⟨h.1.mono (fun _ h => h) fun b hb => same b (.inl hb), h.2.mono (fun _ h => h) (fun _ h => h) (fun v u h => by rw [hιs]; exact href v u h) same⟩
        cases j with
        | zero =>
          simp at j1 j2
          obtain ⟨rfl, rfl⟩ := j1
          subst j2
          exact fin hcv
        | succ j =>
          rw [List.getElem?_cons_succ, List.getElem?_eraseIdx] at j1 j2
          split at j1
          · rename_i hj; rw [if_pos hj] at j2
            exact fin (h5 (j + 1) k' y' e' (by simpa using j1) (by simpa using j2))
          · rename_i hj; rw [if_neg hj] at j2
            exact fin (h5 (j + 1 + 1) k' y' e' (by simpa using j1) (by simpa using j2))⟩
      (fun b hb => ⟨.inl hb, fun h => hm.outS q _ _ b hs hι hb (.inl h)⟩)
    rw [hιs] at hst
    refine hk _ _ _ S ι W (.inr ⟨i, k, y, hky, rfl, rfl⟩) (.tup _ _ rfl fun j c u hc hu => ?_) hst.1 hst.2
    rcases j with _ | _ | _ | j
    · simp at hc hu; subst hc; subst hu; exact .cv _ _ (.bool _)
    · simp at hc hu; subst hc; subst hu; exact .cv _ _ (hcv.1.mono (fun _ h => h) fun b hb => same b (.inl hb))
    · simp at hc hu; subst hc; subst hu; exact hcv.2.mono (fun _ h => h) (fun _ h => h) href same
    · simp at hc

/-- The entry that an iterator stands at. -/
theorem o_entry {x : Operand} {q : Nat} {k y : V} {es : List (V × V)} (ho : o.op = .entry x) (hx : evalE fr x = some (.bx q 0)) (hs : σ[q]? = some (.mp ((k, y) :: es))) (hk : k ≠ .nilF) : Does P o fr σ (.tup [k, y]) σ := quiet fun S B ι a w he hm => by
  obtain ⟨r, m, hι, hu⟩ := it_of hm (he x (by simp [ho, Op.operands]) _ hx) hs
  obtain ⟨hne, en, clock, seen, c0, h1, h2, hB, hc, _, h5⟩ := hm.obj q _ _ hs hι
  rcases hc with ⟨_, hc⟩ | ⟨seen', rfl, hmem⟩
  · simp at hc; exact absurd hc hk
  · obtain ⟨g1, g2⟩ := h5 0 k y c0 rfl rfl
    refine ⟨.tuple #[c0.key, c0.val], by simp [execOp, ho, hu, run_entry_at w r m clock seen' en clock c0 h2 h1 hmem hB.nodup, Result.andThen], .tup _ _ rfl fun j c u hc hu => ?_⟩
    rcases j with _ | _ | j
    · simp at hc hu; subst hc; subst hu; exact .cv _ _ g1
    · simp at hc hu; subst hc; subst hu; exact g2
    · simp at hc
end
end Go.G36
/- Loops that go on in any of several ways, with a measure that falls. -/
namespace Go.G36
variable [Genv]
set_option linter.all false
open Go

theorem T.lqX {N : Nat} {P : Program} {n : Nat} {c : Code} {X : Type} (Fs : X → Fr) (σs : X → ASt) (μ : X → Nat) {x0 : X} {Q : Post} (QQ : Post) {fr : Fr} {σ : ASt}
    (hi : ∀ x, T P N n c (Fs x) (σs x) (Pk (σs x).length (thn (fun fr' σ' => ∃ x', μ x' < μ x ∧ fr' = Fs x' ∧ σ' = σs x') QQ)))
    (hq : ∀ ex fr' σ', QQ ex fr' σ' → Q ex fr' σ')
    (hN : ∀ x x', (σs x).length = (σs x').length) (hob : ∀ x, belOs (σs x).length (σs x)) (hfr : ∀ x, Sub (σs x).length (Fs x) (Fs x))
    (hs : σ = σs x0) (hw : WkF σ.length fr (Fs x0)) : T P N n (.loop c) fr σ Q := by
  subst hs
  refine T.to hw (T.mono ?_ hq)
  refine T.loopD (fun k fr σ => ∃ x, fr = Fs x ∧ σ = σs x ∧ μ x = k) (μ x0) ⟨x0, rfl, rfl, rfl⟩ ?_
  rintro k fr σ ⟨x, rfl, rfl, rfl⟩
  refine (T.pk (hi x)).mono fun ex fr' σ' h => ?_
  cases ex with
  | normal =>
    obtain ⟨x', h1, rfl, rfl⟩ := h
    exact ⟨μ x', Fs x', σs x', h1, ⟨x', rfl, rfl, rfl⟩, ⟨[], by simp⟩, by rw [hN x x']; exact Nat.le_refl _, fun a o ho => .inl ((hob x').get a o ho), (hfr x').get⟩
  | ret => exact h
  | exit id => exact h
/-- A frozen array that a slot holds, told by its content. -/
theorem Cs.tellF {N n t p L sz : Nat} {fr : Fr} {σ : ASt} {xs : List (List V)} (ht : lk fr t = some (.hd p L 0 L)) (hs : σ[p]? = some (.arr .frz sz xs)) (hL : xs.length = L) : Cs N n fr σ ((t, .im false xs) :: fr) σ := fun S B ι a w hr => by
  refine ⟨S, ι, hr.retell ?_, FwN.refl _ _ _ _ _⟩
  have := frz_val hr.mem hs hL (hr.fr t _ ht)
  rw [List.drop_zero, List.take_of_length_le (by omega)] at this
  exact this
end Go.G36
/- One element put into an own array by the library (slices.Insert). -/
namespace Go.G36
variable [Genv]
set_option linter.all false
open Go

theorem RowsV_take {C : V → Value → Prop} {sz : Nat} {xs : List (List V)} {vs : List Value} (h : RowsV C sz xs vs) (n : Nat) (hn : n ≤ xs.length) : RowsV C sz (xs.take n) (vs.take (n * sz)) := by
  obtain ⟨h1, h2, h3⟩ := h
  have hm : n * sz ≤ xs.length * sz := Nat.mul_le_mul_right _ hn
  refine ⟨by rw [List.length_take, List.length_take, h1, Nat.min_eq_left hn, Nat.min_eq_left hm], fun row hr => h2 row (List.mem_of_mem_take hr), fun i j row c hi hj => ?_⟩
  rw [List.getElem?_take] at hi
  split at hi
  · rename_i hin
    obtain ⟨u, h5, h6⟩ := h3 i j row c hi hj
    have hjs : j < sz := by rw [← h2 row (List.mem_of_getElem? hi)]; exact (List.getElem?_eq_some_iff.1 hj).1
    have := Nat.mul_le_mul_right sz (show i + 1 ≤ n by omega)
    rw [Nat.add_mul, Nat.one_mul] at this
    exact ⟨u, by rw [List.getElem?_take, if_pos (by omega)]; exact h5, h6⟩
  · cases hi
theorem RowsV_drop {C : V → Value → Prop} {sz : Nat} {xs : List (List V)} {vs : List Value} (h : RowsV C sz xs vs) (n : Nat) (hn : n ≤ xs.length) : RowsV C sz (xs.drop n) (vs.drop (n * sz)) := by
  obtain ⟨h1, h2, h3⟩ := h
  refine ⟨by rw [List.length_drop, List.length_drop, h1, Nat.sub_mul], fun row hr => h2 row (List.mem_of_mem_drop hr), fun i j row c hi hj => ?_⟩
  rw [List.getElem?_drop] at hi
  obtain ⟨u, h5, h6⟩ := h3 (n + i) j row c hi hj
  exact ⟨u, by rw [List.getElem?_drop, ← Nat.add_assoc, ← Nat.add_mul]; exact h5, h6⟩

def insO {α : Type} (xs : List α) (i : Int) (ys : List α) : Option (List α) := if ys.length = 1 ∧ 0 ≤ i ∧ i ≤ (xs.length : Int) ∧ xs.length ≤ 1000000 then some (xs.take i.toNat ++ ys ++ xs.drop i.toNat) else none
theorem insO_s {α : Type} {xs ys zs : List α} {i : Int} (h : insO xs i ys = some zs) : ys.length = 1 ∧ 0 ≤ i ∧ i ≤ (xs.length : Int) ∧ xs.length ≤ 1000000 ∧ zs = xs.take i.toNat ++ ys ++ xs.drop i.toNat := by
  unfold insO at h
  split at h
  · rename_i h1; exact ⟨h1.1, h1.2.1, h1.2.2.1, h1.2.2.2, (Option.some.inj h).symm⟩
  · cases h

section
variable {P : Program} {o : Oper} {fr : Fr} {σ : ASt}

theorem o_ins0 {α : Type} {f : α → List V} {k fid p q : Nat} {xs ys zs : List α} {i : Int} {x y r z : Operand} {ts : Array TypeId}
    (hC : ∀ (n i vb vc e0 e1 : Nat) (v : Value) (cs vs : List Value) (w : World), n ≤ 1000000 → i ≤ n → w.ownsRow 0 e0 k v n cs → w.ownsRow 0 e1 k (.slice (some ⟨vb, 0, none⟩) 1 vc) 1 vs → v.ownBlock ≠ some vb → (∀ u ∈ cs, u.oneCell' = true) → (∀ u ∈ vs, u.oneCell' = true) →
      Calls P fid #[v, .int .i64 i, .slice (some ⟨vb, 0, none⟩) 1 vc] w fun e w' => ∃ v' e1, e = .returned v' ∧ w'.ownsRow 0 e1 k v' (n + 1) (cs.take (i * k) ++ vs ++ cs.drop (i * k)) ∧ w.grownBy w' v.ownBlock ∧ (∀ b, v'.ownBlock = some b → v.ownBlock = some b ∨ w.heap.size ≤ b))
    (ho : o.op = .call { callee := .value z, args := #[x, y, r], argTypes := ts }) (hcall : ∀ (us : Array Value) (w : World), (callFunc fid us).run P w = .ok (.enter fid us) w) (hz : evalE fr z = some (.fn fid [] []))
    (hx : evalE fr x = some (.hd p xs.length 0 xs.length)) (hy : evalE fr y = some (.int .i64 i)) (hr : evalE fr r = some (.hd q ys.length 0 ys.length))
    (hσ : σ[p]? = some (.arr .clo k (xs.map f))) (hτ : σ[q]? = some (.arr .clo k (ys.map f))) (hpq : p ≠ q) (hfl : ∀ a, (f a).length = k) (h : insO xs i ys = some zs) :
    Does P o fr σ (.hd p zs.length 0 zs.length) (σ.set p (.arr .clo k (zs.map f))) := fun S B ι a w he hm next Q hk => by
  obtain ⟨hy1, hi0, hin, hn1, rfl⟩ := insO_s h
  obtain ⟨us, h1, h2⟩ := call_run (vs := [.hd p xs.length 0 xs.length, .int .i64 i, .hd q ys.length 0 ys.length]) ho hcall he hz (by simp [evalL, hx, hy, hr])
  obtain ⟨us1, us2, us3, rfl⟩ : ∃ a b c, us = #[a, b, c] := by
    have := h2.1
    simp at this
    exact ⟨us[0], us[1], us[2], by apply Array.ext <;> simp [← this]; intro i hi _; rcases i with _ | _ | _ | i <;> first | rfl | omega⟩
  have e1 := h2.2 0 (.hd p xs.length 0 xs.length) us1 rfl rfl
  have e2 := h2.2 1 (.int .i64 i) us2 rfl rfl
  have e3 := h2.2 2 (.hd q ys.length 0 ys.length) us3 rfl rfl
  obtain rfl := Val.inv_int e2
  have hlx : (xs.map f).length = xs.length := List.length_map _
  have hly : (ys.map f).length = ys.length := List.length_map _
  obtain ⟨v, hι, hle, hz0, _⟩ := RefR.hd (Val.inv_ref (v := .hd p xs.length 0 xs.length) rfl trivial e1) hσ hlx
  obtain ⟨A, c, rfl, rfl⟩ := hz0 rfl
  obtain ⟨v2, hι2, hle2, hz2, _⟩ := RefR.hd (Val.inv_ref (v := .hd q ys.length 0 ys.length) rfl trivial e3) hτ hly
  obtain ⟨A2, c2, rfl, rfl⟩ := hz2 rfl
  obtain ⟨h0, e, vals, hown, hrows, hone, htg⟩ := hm.obj p _ _ hσ hι
  obtain ⟨h02, e', vals2, hown2, hrows2, hone2, htg2⟩ := hm.obj q _ _ hτ hι2
  rw [hlx] at hown
  rw [hly, hy1] at hown2
  obtain ⟨vb, rfl⟩ : ∃ vb, A2 = some ⟨vb, 0, none⟩ := by
    rcases hown2.2 with ⟨h3, h4⟩ | ⟨g, cap, cur, h3, _⟩
    · cases h4
    · injection h3 with h3; exact ⟨g, h3⟩
  rw [hy1] at h1
  have hne : (Value.slice A xs.length c).ownBlock ≠ some vb := fun hb => hpq (hm.apart p _ _ q _ _ vb hσ hι hτ hι2 hb rfl)
  have hint : i = ((i.toNat : Nat) : Int) := by omega
  have hC2 := hC xs.length i.toNat vb c2 e e' (.slice A xs.length c) vals vals2 w hn1 (by omega) hown hown2 hne hone hone2
  rw [← hint] at hC2
  unfold Oper.wp
  rw [h1]
  refine hC2.mono ?_
  rintro ee w' ⟨v', e1', rfl, k2, k3, k4⟩
  have hlt : p < σ.length := (List.getElem?_eq_some_iff.1 hσ).1
  have hltι : p < ι.length := (List.getElem?_eq_some_iff.1 hι).1
  have hlz : (xs.take i.toNat ++ ys ++ xs.drop i.toNat).length = xs.length + 1 := by
    rw [List.length_append, List.length_append, List.length_take, List.length_drop, hy1]; omega
  have hlz2 : ((xs.take i.toNat ++ ys ++ xs.drop i.toNat).map f).length = xs.length + 1 := by rw [List.length_map, hlz]
  have hkeep : ∀ q, q < w.heap.size → (Value.slice A xs.length c).ownBlock ≠ some q → w'.heap[q]? = w.heap[q]? := fun q hq hne => k3.block q hq fun h => hne h.symm
  have same : ∀ q, S q → w'.heap[q]? = w.heap[q]? := fun q hq => hkeep q (hm.ltS q (.inl hq)) fun h => hm.outS p _ _ q hσ hι h (.inl hq)
  have cvk : ∀ c u, CV S w c u → CV S w' c u := fun c u h => CV.mono h (fun _ h => h) same
  have hstep := hm.step (o' := .arr .clo k ((xs.take i.toNat ++ ys ++ xs.drop i.toNat).map f)) (l' := .row v') (S' := S) (w' := w') hσ hι k3.os k3.tape k3.output k3.size (fun q hq hne => hkeep q hq fun h => hne h) (fun _ h => h) (fun _ h => .inl h)
    (fun q hq => Nat.lt_of_lt_of_le (hm.ltS q (.inl hq)) k3.size)
    (fun _ _ h => h.grow hσ hι ⟨v', rfl⟩ (by rw [hlz2, hlx]; omega) fun h => absurd h (by rw [hlz2, hlx]; omega))
    (by
      refine ⟨h0, e1', _, by rw [hlz2]; exact k2, ?_, fun u hu => ?_, (fun h => by cases h), fun _ h => by cases h⟩
      · rw [List.map_append, List.map_append, List.map_take, List.map_drop]
        have hb : i.toNat ≤ (xs.map f).length := by rw [hlx]; omega
        exact RowsV_mono (RowsV_app (RowsV_app (RowsV_take hrows _ hb) hrows2) (RowsV_drop hrows _ hb)) cvk
      · rcases List.mem_append.1 hu with h | h
        · rcases List.mem_append.1 h with h | h
          · exact hone u (List.mem_of_mem_take h)
          · exact hone2 u h
        · exact hone u (List.mem_of_mem_drop h))
    (fun q hq => ⟨k4 q hq, fun hS => by
      rcases k4 q hq with h | h
      · exact hm.outS p _ _ q hσ hι h (.inl hS)
      · have := hm.ltS q (.inl hS); omega⟩)
  refine hk _ S _ _ (.ref _ _ ?_) hstep.1 hstep.2
  have hv'' : ∃ A' c', v' = .slice A' (xs.length + 1) c' := by
    rcases k2.2 with ⟨h1, h2⟩ | ⟨g, cap', cur, h1, _⟩
    · omega
    · exact ⟨_, _, h1⟩
  obtain ⟨A', c', rfl⟩ := hv''
  simp only [RefR, List.getElem?_set_self hlt, List.getElem?_set_self hltι, hlz, hlz2]
  exact ⟨Nat.le_refl _, fun _ => ⟨by omega, fun _ => ⟨A', c', rfl, rfl⟩, fun h => absurd rfl h⟩⟩
theorem o_ins {α : Type} {f : α → List V} {k fid p q : Nat} {xs ys zs : List α} {i : Int} {x y r z : Operand} {ts : Array TypeId}
    (hC : ∀ (n i vb vc e0 e1 : Nat) (v : Value) (cs vs : List Value) (w : World), n ≤ 1000000 → i ≤ n → w.ownsRow 0 e0 k v n cs → w.ownsRow 0 e1 k (.slice (some ⟨vb, 0, none⟩) 1 vc) 1 vs → v.ownBlock ≠ some vb → (∀ u ∈ cs, u.oneCell' = true) → (∀ u ∈ vs, u.oneCell' = true) →
      Calls P fid #[v, .int .i64 i, .slice (some ⟨vb, 0, none⟩) 1 vc] w fun e w' => ∃ v' e1, e = .returned v' ∧ w'.ownsRow 0 e1 k v' (n + 1) (cs.take (i * k) ++ vs ++ cs.drop (i * k)) ∧ w.grownBy w' v.ownBlock ∧ (∀ b, v'.ownBlock = some b → v.ownBlock = some b ∨ w.heap.size ≤ b))
    (ho : o.op = .call { callee := .value z, args := #[x, y, r], argTypes := ts }) (hcall : ∀ (us : Array Value) (w : World), (callFunc fid us).run P w = .ok (.enter fid us) w) (hz : evalE fr z = some (.fn fid [] []))
    (hx : evalE fr x = some (.hd p (xs.map f).length 0 (xs.map f).length)) (hy : evalE fr y = some (.int .i64 i)) (hr : evalE fr r = some (.hd q (ys.map f).length 0 (ys.map f).length))
    (hσ : σ[p]? = some (.arr .clo k (xs.map f))) (hτ : σ[q]? = some (.arr .clo k (ys.map f))) (hpq : Nat.beq p q = false) (hfl : ∀ a, (f a).length = k) (h : insO xs i ys = some zs) :
    Does P o fr σ (.hd p (zs.map f).length 0 (zs.map f).length) (σ.set p (.arr .clo k (zs.map f))) := by
  rw [List.length_map] at hx hr ⊢
  exact o_ins0 hC ho hcall hz hx hy hr hσ hτ (Nat.ne_of_beq_eq_false hpq) hfl h
end
end Go.G36
