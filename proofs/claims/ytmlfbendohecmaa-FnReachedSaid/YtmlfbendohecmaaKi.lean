/- Slices written out, made; conversions of the abstract state; calls. -/
import Derived.Test.YtmlfbendohecmaaKh
namespace Go.G36
variable [Genv]
set_option linter.all false
open Go

/-- The rows of so many cells. -/
def rowsOf (size : Nat) : Nat → List V → List (List V)
  | 0, _ => []
  | n + 1, cs => cs.take size :: rowsOf size n (cs.drop size)
theorem rowsOf_length (size : Nat) : ∀ (n : Nat) (cs : List V), (rowsOf size n cs).length = n
  | 0, _ => rfl
  | n + 1, cs => by simp [rowsOf, rowsOf_length size n]
theorem rowsOf_get (size : Nat) : ∀ (n : Nat) (cs : List V) (i : Nat), i < n → (rowsOf size n cs)[i]? = some ((cs.drop (i * size)).take size)
  | 0, _, i, h => by omega
  | n + 1, cs, 0, _ => by simp [rowsOf]
  | n + 1, cs, i + 1, h => by
    simp only [rowsOf, List.getElem?_cons_succ]
    rw [rowsOf_get size n _ i (by omega), List.drop_drop]
    congr 3; rw [Nat.add_mul]; omega
theorem rowsOf_cell {size n : Nat} {cs : List V} {i j : Nat} {row : List V} {c : V} (hi : (rowsOf size n cs)[i]? = some row) (hj : row[j]? = some c) : i < n ∧ j < size ∧ cs[i * size + j]? = some c := by
  have hin : i < n := by
    have := (List.getElem?_eq_some_iff.1 hi).1
    rwa [rowsOf_length] at this
  rw [rowsOf_get size n cs i hin] at hi
  injection hi with hi
  subst hi
  rw [List.getElem?_take] at hj
  split at hj
  · rw [List.getElem?_drop] at hj
    exact ⟨hin, by assumption, hj⟩
  · cases hj
theorem rowsOf_row {size n : Nat} {cs : List V} (h : cs.length = n * size) : ∀ row, row ∈ rowsOf size n cs → row.length = size := by
  intro row hrow
  obtain ⟨i, hi, rfl⟩ := List.mem_iff_getElem.1 hrow
  rw [rowsOf_length] at hi
  have := rowsOf_get size n cs i hi
  rw [List.getElem?_eq_getElem (by rw [rowsOf_length]; exact hi)] at this
  injection this with this
  rw [this]
  have h1 : (i + 1) * size ≤ n * size := Nat.mul_le_mul_right _ hi
  rw [Nat.add_mul, Nat.one_mul] at h1
  simp; omega

section
variable {P : Program} {o : Oper} {fr : Fr} {σ : ASt}

theorem buildSlice_run {S B : Nat → Prop} {ι : List Loc} {w : World} {a : Act} {t e : TypeId} {n sz : Nat} {ag : Bool} {parts : Array (Nat × Operand)} {vs : List (Nat × V)} {cs : List V} {zs : List V} (ho : o.op = .buildSlice t n parts)
    (ht : P.underlying t = some (.slice e)) (hs : TyS P e ag sz) (hz : TyZ P e zs) (hn : n * sz ≤ 16777216)
    (he : ∀ x, x ∈ o.op.operands → ∀ y, evalE fr x = some y → Val S B (RefR ι σ) w y (a.eval x)) (hp : evalParts fr parts.toList = some vs) (hsu : suresP σ vs = true)
    (hf : fillV (fun i => some (i * sz, sz)) (List.replicate (n * sz) .any) vs = some cs) (hone : V.ones cs = true) :
    ∃ cells, (execOp a.eval o).run P w = .ok (.value (.slice (some ⟨w.heap.size, 0, none⟩) n n)) (w.alloc (.cells cells e)) ∧ cells.size = n * sz ∧
      PW (fun c u => Val S B (RefR ι σ) w c u ∧ u.oneCell' = true) cs cells := by
  obtain ⟨z, hrz, hzc⟩ := hz.run w
  obtain ⟨k1, k2⟩ := parts_val (S := S) (B := B) (ι := ι) (w := w) (a := a) (fun p hp y hy => he p.2 (by simp only [ho, Op.operands, List.mem_toArray, List.mem_map]; simp; exact ⟨p.1, by simpa using hp⟩) y hy) hp hsu
  have key : ∀ zero : Array Value, ∃ cells, Instr.fill (fun i => some (i * sz, sz)) ((Array.range (n * sz)).map (zero[· % zero.size]!)) (parts.map fun (i, x) => (i, a.eval x)).toList = some cells ∧
      PW (fun c u => Val S B (RefR ι σ) w c u ∧ (c.one = true → u.oneCell' = true)) cs cells := fun zero =>
    fill_val (C := fun c u => Val S B (RefR ι σ) w c u ∧ (c.one = true → u.oneCell' = true)) vs _ _ _ cs ⟨by simp, fun i c u hc hu => by
        rw [List.getElem?_replicate] at hc
        split at hc
        · injection hc with hc; subst hc; exact ⟨.any u, fun h => by simp [V.one] at h⟩
        · cases hc⟩ k1 (fun q x y hx hy => ⟨(k2 q x y hx hy).1, (k2 q x y hx hy).2.1, fun i c u hc hu => ⟨((k2 q x y hx hy).2.2 i c u hc hu).1, fun _ => ((k2 q x y hx hy).2.2 i c u hc hu).2⟩⟩) hf
  have hsz : ∀ (vs : List (Nat × V)) (cs ds : List V), fillV (fun i => some (i * sz, sz)) cs vs = some ds → ds.length = cs.length := by
    intro vs
    induction vs with
    | nil => intro cs ds h; simp [fillV] at h; subst h; rfl
    | cons x r ih =>
      intro cs ds h
      unfold fillV at h
      simp only at h
      split at h
      · rename_i hc
        simp only [Bool.and_eq_true] at hc
        have e1 := Nat.eq_of_beq_eq_true hc.1
        have e2 := Nat.le_of_ble_eq_true hc.2
        rw [ih _ _ h, putAt_length (by omega)]
      · cases h
  have hlen : cs.length = n * sz := by rw [hsz _ _ _ hf]; simp
  obtain ⟨cells, c1, c2, c3⟩ := key (if n * sz = 0 then #[] else z.cells)
  refine ⟨cells, ?_, by rw [← c2, hlen], c2, fun i c u hc hu => ⟨(c3 i c u hc hu).1, (c3 i c u hc hu).2 (V.ones_get hone i c hc)⟩⟩
  have hn' : ¬ (n * sz > 2 ^ 24) := by omega
  by_cases h0 : n * sz = 0
  · rw [if_pos h0] at c1
    have c1' : Instr.fill (fun i => some (i * sz, sz)) (Array.map (fun x => (#[] : Array Value)[x % (#[] : Array Value).size]!) (Array.range (n * sz))) (Array.map (fun x => (x.fst, a.eval x.snd)) parts).toList = some cells := c1
    simp only [execOp, ho, Instr.buildSlice, Sem.run_bind, run_underlying ht, Result.andThen_ok, hs.size w, hn', if_false, Sem.run_pure, Sem.run_ite]
    rw [if_pos h0]
    simp only [c1']
    simp [newRow]
  · rw [if_neg h0] at c1
    have c1' : Instr.fill (fun i => some (i * sz, sz)) (Array.map (fun x => z.cells[x % z.cells.size]!) (Array.range (n * sz))) (Array.map (fun x => (x.fst, a.eval x.snd)) parts).toList = some cells := c1
    simp only [execOp, ho, Instr.buildSlice, Sem.run_bind, run_underlying ht, Result.andThen_ok, hs.size w, hn', if_false, Sem.run_pure, Sem.run_ite]
    rw [if_neg h0]
    simp only [hrz, Result.andThen_ok, c1']
    simp [newRow]

/-- A slice written out, told by its content. -/
theorem o_sliceIm {t e : TypeId} {n sz : Nat} {ag : Bool} {parts : Array (Nat × Operand)} {vs : List (Nat × V)} {cs : List V} {zs : List V} {rows : List (List V)} (ho : o.op = .buildSlice t n parts)
    (ht : P.underlying t = some (.slice e)) (hs : TyS P e ag sz) (hz : TyZ P e zs) (hn : n * sz ≤ 16777216) (hp : evalParts fr parts.toList = some vs) (hsu : suresP σ vs = true)
    (hf : fillV (fun i => some (i * sz, sz)) (List.replicate (n * sz) .any) vs = some cs) (hone : V.ones cs = true) (hcl : V.cls cs = true) (hrows : rowsOf sz n cs = rows) : Does P o fr σ (.im false rows) σ := fun S B ι a w he hm next Q hk => by
  obtain ⟨cells, h1, h2, h3⟩ := buildSlice_run (S := S) (B := B) (ι := ι) (w := w) (a := a) ho ht hs hz hn he hp hsu hf hone
  subst hrows
  have g := Grown.alloc w (.cells cells e)
  obtain ⟨hm', hf'⟩ := hm.grow g (fun b => b = w.heap.size) (fun b hb => by subst hb; simp)
  unfold Oper.wp
  rw [h1]
  refine hk _ _ _ _ (.cv _ _ ?_) hm' hf'
  have hcell : ∀ (i j : Nat) (row : List V) (c : V), (rowsOf sz n cs)[i]? = some row → row[j]? = some c → ∃ u, cells[i * sz + j]? = some u ∧ CV S w c u := fun i j row c hi hj => by
    obtain ⟨q1, q2, q3⟩ := rowsOf_cell hi hj
    have hlt : i * sz + j < cells.size := by rw [← h3.1]; exact (List.getElem?_eq_some_iff.1 q3).1
    exact ⟨cells[i * sz + j], by simp [hlt], (h3.2 _ c _ q3 (by simp [hlt])).1.closed (refOk _ _) (V.cls_get hcl _ c q3)⟩
  have := CV.im (S := fun b => S b ∨ b = w.heap.size) (w := w.alloc (.cells cells e)) (rowsOf sz n cs) (some ⟨w.heap.size, 0, none⟩) n sz (fun i j => cells.getD (i * sz + j) undef) (by rw [rowsOf_length]; exact Nat.le_refl _)
    (fun _ => ⟨w.heap.size, 0, rfl, .inr rfl, rowsOf_row (by rw [h3.1, h2]), fun i j row c hi hj => by
      obtain ⟨u, h4, _⟩ := hcell i j row c hi hj
      have : (w.alloc (.cells cells e)).heap[w.heap.size]? = some (.cells cells e) := heap_alloc_new w _
      simp only [World.cell?, this, Option.isSome_none, Bool.false_eq_true, if_false, Nat.zero_add, Array.getD_eq_getD_getElem?, h4]; rfl⟩)
    (fun i j row c hi hj => by
      obtain ⟨u, h4, h5⟩ := hcell i j row c hi hj
      simp only [Array.getD_eq_getD_getElem?, h4]
      exact h5.mono (fun _ h => .inl h) fun b hb => g.block b (hm.ltS b (.inl hb)))
    (fun i j row c hi hj => V.ones_get hone _ c (rowsOf_cell hi hj).2.2)
  rw [rowsOf_length] at this
  exact this

/-- A slice written out, as an object. -/
theorem o_sliceHd {t e : TypeId} {n sz : Nat} {ag : Bool} {parts : Array (Nat × Operand)} {vs : List (Nat × V)} {cs : List V} {zs : List V} {rows : List (List V)} (m : Md) (ho : o.op = .buildSlice t n parts)
    (ht : P.underlying t = some (.slice e)) (hs : TyS P e ag sz) (hz : TyZ P e zs) (hn : n * sz ≤ 16777216) (hp : evalParts fr parts.toList = some vs) (hsu : suresP σ vs = true)
    (hf : fillV (fun i => some (i * sz, sz)) (List.replicate (n * sz) .any) vs = some cs) (hone : V.ones cs = true) (hmo : m.okA = true) (hcl : m ≠ .raw → V.cls cs = true) (hpos : 0 < sz) (hrows : rowsOf sz n cs = rows) (hmax : n ≤ 16777216) :
    Does P o fr σ (.hd σ.length n 0 n) (σ ++ [.arr m sz rows]) := fun S B ι a w he hm next Q hk => by
  have hm0 := Md.okA_f hmo
  obtain ⟨cells, h1, h2, h3⟩ := buildSlice_run (S := S) (B := B) (ι := ι) (w := w) (a := a) ho ht hs hz hn he hp hsu hf hone
  subst hrows
  have g := Grown.alloc w (.cells cells e)
  have hown := World.ownsRow_lit (e := e) (size := sz) (base := 0) w cells n (Nat.zero_le _) (by simp only [maxLen]; omega) h2
  have hcl2 : cs.length = n * sz := by rw [h3.1, h2]
  have hobj : ObjRep S B (RefR (ι ++ [.row (.slice (some ⟨w.heap.size, 0, none⟩) n n)]) (σ ++ [.arr m sz (rowsOf sz n cs)])) (w.alloc (.cells cells e)) (.arr m sz (rowsOf sz n cs)) (.row (.slice (some ⟨w.heap.size, 0, none⟩) n n)) := by
    refine ⟨hpos, e, cells.toList, by rw [rowsOf_length]; exact hown, ⟨by rw [rowsOf_length]; simpa using h2, rowsOf_row hcl2, fun i j row c hi hj => ?_⟩, fun u hu => ?_, fun h => absurd h hm0, fun e' he' => Md.okA_t hmo he'⟩
    · obtain ⟨q1, q2, q3⟩ := rowsOf_cell hi hj
      have hlt : i * sz + j < cells.size := by rw [h2, ← hcl2]; exact (List.getElem?_eq_some_iff.1 q3).1
      refine ⟨cells[i * sz + j], by simp [hlt], ?_⟩
      have hv := (h3.2 _ c _ q3 (Array.getElem?_eq_getElem hlt)).1
      cases m with
      | raw => exact Val.mono hv (fun _ h => h) (fun _ h => h) (fun _ _ hr => hr.append hm.len _ _) fun b hb => g.block b (hm.ltS b hb)
      | clo => exact (hv.closed (refOk _ _) (V.cls_get (hcl (fun h => by cases h)) _ c q3)).mono (fun _ h => h) fun b hb => g.block b (hm.ltS b (.inl hb))
      | tg t0 => exact (hv.closed (refOk _ _) (V.cls_get (hcl (fun h => by cases h)) _ c q3)).mono (fun _ h => h) fun b hb => g.block b (hm.ltS b (.inl hb))
      | frz => exact absurd rfl hm0
    · obtain ⟨q, hq, rfl⟩ := List.mem_iff_getElem.1 hu
      have hq2 : q < cs.length := by rw [h3.1]; simpa using hq
      have hq3 : q < cells.size := by simpa using hq
      have := (h3.2 q cs[q] cells[q] (by simp) (by simp)).2
      simpa using this
  obtain ⟨hm', hf'⟩ := hm.push g (.arr m sz (rowsOf sz n cs)) (.row (.slice (some ⟨w.heap.size, 0, none⟩) n n)) (fun b hb => by
    cases m <;> simp [live, Loc.block, Value.ownBlock] at hb <;> omega) hobj
  unfold Oper.wp
  rw [h1]
  refine hk _ S _ _ (.ref _ _ ?_) hm' hf'
  simp [RefR, hm.len, rowsOf_length]

theorem TyE.zero {e : TypeId} {sz : Nat} (h : TyE P e sz) : 0 < sz := by obtain ⟨_, _, _, _, _, _, h, _⟩ := h; exact h

end
end Go.G36
