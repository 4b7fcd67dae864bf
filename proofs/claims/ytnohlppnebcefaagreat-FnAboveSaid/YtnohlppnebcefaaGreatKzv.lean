/- Queues: own arrays read from the front and appended to behind; loops whose frame hangs on more than the state. -/
import Derived.Test.YtnohlppnebcefaaGreatKzq
import Derived.ArgAppend
import Derived.Maps.RangeRun
namespace Go.G36
variable [Genv]
set_option linter.all false
open Go

section
variable {S B : Nat → Prop} {ι : List Loc} {σ : ASt} {w : World}
/-- An array is given up. -/
theorem Mem.kill {p sz : Nat} {m : Md} {xs : List (List V)} (hm : Mem S B ι σ w) (hp : σ[p]? = some (.arr m sz xs)) : Mem S B ι (σ.set p .dead) w ∧ Fw S ι σ w S ι (σ.set p .dead) w := by
  obtain ⟨v, hpl, _⟩ := arr_at hm hp
  have hstep := hm.step (o' := .dead) (l' := .row v) (S' := S) (w' := w) hp hpl rfl rfl rfl (Nat.le_refl _) (fun _ _ _ => rfl) (fun _ h => h) (fun _ h => .inl h)
    (fun b hb => hm.ltS b (.inl hb)) (fun _ _ h => h.set (o' := .dead) hp hpl trivial) trivial (fun b hb => hb.elim)
  rw [set_same hpl] at hstep
  exact hstep
end
theorem RowsV_app {C : V → Value → Prop} {sz : Nat} {xs ys : List (List V)} {vs us : List Value} (h : RowsV C sz xs vs) (k : RowsV C sz ys us) : RowsV C sz (xs ++ ys) (vs ++ us) := by
  obtain ⟨h1, h2, h3⟩ := h
  obtain ⟨k1, k2, k3⟩ := k
  refine ⟨by rw [List.length_append, h1, k1, List.length_append, Nat.add_mul], fun row hr => ?_, fun i j row c hi hj => ?_⟩
  · rcases List.mem_append.1 hr with h | h
    · exact h2 row h
    · exact k2 row h
  · by_cases hil : i < xs.length
    · rw [List.getElem?_append_left hil] at hi
      obtain ⟨u, h5, h6⟩ := h3 i j row c hi hj
      exact ⟨u, by rw [List.getElem?_append_left (List.getElem?_eq_some_iff.1 h5).1]; exact h5, h6⟩
    · rw [List.getElem?_append_right (by omega)] at hi
      obtain ⟨u, h5, h6⟩ := k3 (i - xs.length) j row c hi hj
      refine ⟨u, ?_, h6⟩
      have hx : xs.length * sz ≤ i * sz := Nat.mul_le_mul_right _ (by omega)
      have hd : i * sz = xs.length * sz + (i - xs.length) * sz := by rw [← Nat.add_mul]; congr 1; omega
      rw [List.getElem?_append_right (by omega), h1, show i * sz + j - xs.length * sz = (i - xs.length) * sz + j by omega]
      exact h5
theorem RowsV_mono {C C' : V → Value → Prop} {sz : Nat} {xs : List (List V)} {vs : List Value} (h : RowsV C sz xs vs) (k : ∀ c u, C c u → C' c u) : RowsV C' sz xs vs :=
  ⟨h.1, h.2.1, fun i j row c hi hj => by obtain ⟨u, h1, h2⟩ := h.2.2 i j row c hi hj; exact ⟨u, h1, k _ _ h2⟩⟩
theorem RowsV_flat {C : V → Value → Prop} {sz : Nat} {ys : List (List V)} {f : Nat → Nat → Value} (hl : ∀ row, row ∈ ys → row.length = sz) (h : ∀ (i j : Nat) (row : List V) (c : V), ys[i]? = some row → row[j]? = some c → C c (f i j)) : RowsV C sz ys (flatV ys.length sz f) :=
  ⟨flatV_length _ _ _, hl, fun i j row c hi hj => ⟨f i j, flatV_get (List.getElem?_eq_some_iff.1 hi).1 (by rw [← hl row (List.mem_of_getElem? hi)]; exact (List.getElem?_eq_some_iff.1 hj).1), h i j row c hi hj⟩⟩

def apQ {α : Type} (row ys : List α) : Option (List α) := if row.length ≠ 0 ∧ ys.length ≠ 0 ∧ row.length + ys.length ≤ 4294967296 then some (row ++ ys) else none
theorem apQ_s {α : Type} {row ys zs : List α} (h : apQ row ys = some zs) : row.length ≠ 0 ∧ ys.length ≠ 0 ∧ row.length + ys.length ≤ 4294967296 ∧ zs = row ++ ys := by
  unfold apQ at h
  split at h
  · rename_i h1; exact ⟨h1.1, h1.2.1, h1.2.2, (Option.some.inj h).symm⟩
  · cases h

/-- Cells written behind a row that has room. -/
theorem ownsRow_room {w : World} {e sz b L c m : Nat} {vals news : List Value} (h : w.ownsRow 0 e sz (.slice (some ⟨b, 0, none⟩) L c) L vals) (hn : news.length = m * sz) (hc : L + m ≤ c) :
    (w.setCells b (L * sz) news).ownsRow 0 e sz (.slice (some ⟨b, 0, none⟩) (L + m) c) (L + m) (vals ++ news) ∧ (∀ j, j < news.length → (w.cell? ⟨b, L * sz + j, none⟩).isSome = true ∧ w.frozen? ⟨b, L * sz + j, none⟩ = false) := by
  rcases h.2 with ⟨h3, _⟩ | ⟨g, cap, cur, h3, r1, r2, r3, r4, r5, r6⟩
  · cases h3
  · injection h3 with q1 _ q3
    injection q1 with q1
    injection q1 with q1
    subst q1; subst q3
    obtain ⟨e1, e2, e3, e4, e5, e6⟩ := heap_setCells w b news (L * sz)
    obtain ⟨cs', k1, k2, k3⟩ := e6 cur e (0, 0) r2
    have hLm : (L + m) * sz ≤ c * sz := Nat.mul_le_mul_right _ hc
    rw [Nat.add_mul] at hLm
    refine ⟨⟨by rw [List.length_append, h.1, hn, Nat.add_mul], .inr ⟨b, c, cs', rfl, r1, k1, hc, r4, by rw [k2, r5], ?_⟩⟩, fun j hj => ⟨?_, h.frozenAt _⟩⟩
    · apply List.ext_getElem?
      intro q
      by_cases hq : q < (L + m) * sz
      · rw [Nat.add_mul] at hq
        rw [List.getElem?_take, if_pos (by rw [Nat.add_mul]; exact hq), Array.getElem?_toList, k3]
        by_cases hv : q < L * sz
        · rw [if_neg (by omega), List.getElem?_append_left (by rw [h.1]; exact hv), ← r6, List.getElem?_take, if_pos hv, Array.getElem?_toList]
        · rw [if_pos ⟨by omega, by omega, by omega⟩, List.getElem?_append_right (by rw [h.1]; omega), h.1]
      · rw [List.getElem?_take, if_neg hq, List.getElem?_eq_none (by rw [List.length_append, h.1, hn, ← Nat.add_mul]; omega)]
    · have : L * sz + j < cur.size := by omega
      simp [World.cell?, r2, this]

section
variable {P : Program} {o : Oper} {fr : Fr} {σ : ASt}

theorem q_inv {α : Type} {f : α → List V} {S B : Nat → Prop} {ι : List Loc} {w : World} {p sz : Nat} {pre row : List α} {u : Value} (hm : Mem S B ι σ w) (hs : σ[p]? = some (.arr .clo sz ((pre ++ row).map f))) (hne : row.length ≠ 0)
    (hv : Val S B (RefR ι σ) w (.hd p ((pre ++ row).map f).length pre.length row.length) u) :
    ∃ b c c', ι[p]? = some (.row (.slice (some ⟨b, 0, none⟩) ((pre ++ row).map f).length c)) ∧ u = .slice (some ⟨b, pre.length * sz, none⟩) row.length c' ∧ row.length ≤ c' ∧ pre.length + c' ≤ c ∧ (pre.length = 0 → c' = c) := by
  obtain ⟨v, hι, hle, hz0, hnz⟩ := RefR.hd (Val.inv_ref rfl trivial hv) hs rfl
  obtain ⟨h0, e0, vals, hown, _⟩ := hm.obj p _ _ hs hι
  by_cases ho0 : pre.length = 0
  · obtain ⟨A, c, rfl, hu⟩ := hz0 ho0
    rcases hown.2 with ⟨h3, h4⟩ | ⟨g, cap, cur, h3, _, _, h5, _⟩
    · simp at h4; exact absurd (by rw [h4.2]; rfl) hne
    · injection h3 with q1 _ q3
      subst q1; subst q3
      refine ⟨g, c, c, hι, by rw [hu, ho0]; simp, ?_, by omega, fun _ => rfl⟩
      simp at h5; omega
  · obtain ⟨b, c, A, c', rfl, hu, hcc, hA⟩ := hnz ho0
    obtain rfl := hA hne
    exact ⟨b, c, c', hι, hu, hcc.1, hcc.2, fun h => absurd h ho0⟩

theorem o_lenQ {α : Type} {f : α → List V} {t e : TypeId} {x : Operand} {p sz : Nat} {pre row : List α} (ho : o.op = .call { callee := .builtin .len, args := #[x], argTypes := #[t] }) (ht : P.underlying t = some (.slice e))
    (hx : evalE fr x = some (.hd p ((pre ++ row).map f).length pre.length row.length)) (hs2 : σ[p]? = some (.arr .clo sz ((pre ++ row).map f))) : Does P o fr σ (.int .i64 (row.length : Int)) σ := o_lenHd ho ht hx hs2 rfl
theorem o_ixQ {α : Type} {f : α → List V} {t e : TypeId} {x y : Operand} {ag : Bool} {sz p : Nat} {pre row : List α} {k : IntKind} {i : Int} {a : α} (ho : o.op = .indexAddr t x y) (ht : P.underlying t = some (.slice e)) (hs : TyS P e ag sz)
    (hx : evalE fr x = some (.hd p ((pre ++ row).map f).length pre.length row.length)) (hy : evalE fr y = some (.int k i)) (hs2 : σ[p]? = some (.arr .clo sz ((pre ++ row).map f))) (h : idx row i = some a) (hsz : (f a).length = sz) :
    Does P o fr σ (.el p ((pre ++ row).map f).length (Int.toNat ((pre.length : Int) + i)) 0) σ := by
  obtain ⟨h0, h1⟩ := idx_s h
  have hlt := (List.getElem?_eq_some_iff.1 h1).1
  have e1 : Int.toNat ((pre.length : Int) + i) = pre.length + i.toNat := by omega
  rw [e1]
  exact o_indexHd ho ht hs hx hy hs2 rfl h0 (by omega) (row := f a) (by rw [List.getElem?_map, List.getElem?_append_right (by omega), show pre.length + i.toNat - pre.length = i.toNat by omega, h1]; rfl) hsz
theorem idxQ {α : Type} {pre row : List α} {i : Int} {a : α} (h : idx row i = some a) : idx (pre ++ row) ((pre.length : Int) + i) = some a := by
  obtain ⟨h0, h1⟩ := idx_s h
  unfold idx
  rw [if_pos (by omega), show ((pre.length : Int) + i).toNat = pre.length + i.toNat by omega, List.getElem?_append_right (by omega), show pre.length + i.toNat - pre.length = i.toNat by omega, h1]

theorem q_split {α : Type} (pre row : List α) (l : Int) : pre ++ row = (pre ++ row.take l.toNat) ++ row.drop l.toNat := by rw [List.append_assoc, List.take_append_drop]
/-- A queue without its first elements. -/
theorem o_subQ {α : Type} {f : α → List V} {t e : TypeId} {ag : Bool} {sz p : Nat} {x lo : Operand} {pre row row' : List α} {l : Int} (ho : o.op = .slice t x (some lo) none none) (ht : P.underlying t = some (.slice e)) (hs : TyS P e ag sz)
    (hx : evalE fr x = some (.hd p ((pre ++ row).map f).length pre.length row.length)) (hσ : σ[p]? = some (.arr .clo sz ((pre ++ row).map f))) (hlo : optE fr (some lo) 0 = some l) (hs2 : sub row l (row.length : Int) = some row') (hne : row.length ≠ 0) :
    Does P o fr σ (.hd p (((pre ++ row.take l.toNat) ++ row').map f).length (pre ++ row.take l.toNat).length row'.length) (σ.set p (.arr .clo sz (((pre ++ row.take l.toNat) ++ row').map f))) := by
  obtain ⟨k0, k1, _, hr'⟩ := sub_s hs2
  have er : row' = row.drop l.toNat := by rw [hr', List.take_of_length_le (by simp; omega)]
  subst er
  rw [← q_split, set_same hσ]
  refine quiet fun S B ι a w he hm => ?_
  obtain ⟨b, c, c', hι, hu, h1, h2, h3⟩ := q_inv hm hσ hne (he x (by simp [ho, Op.operands]) _ hx)
  have hl := opt_val he (fun y hy => by simp [ho, Op.operands, hy]) hlo
  have hb : (Instr.sliceBounds true row.length c' (some (a.eval lo)) none none).run P w = .ok (l.toNat, row.length, c') w := by
    have := run_bounds (P := P) (w := w) (b := true) (len := row.length) (cap := c') (lo := some (a.eval lo)) (hi := none) (l := l) (h := (row.length : Int)) k0 k1 (by omega) (by
      rcases hl with ⟨h, _⟩ | ⟨y, k, h, hy⟩
      · cases h
      · injection h with h; subst h; exact .inr ⟨k, by rw [hy]⟩) (.inl ⟨rfl, rfl⟩)
    simpa using this
  refine ⟨.slice (if c' = l.toNat then some ⟨b, pre.length * sz, none⟩ else some (Addr.add ⟨b, pre.length * sz, none⟩ (l.toNat * sz))) (row.length - l.toNat) (c' - l.toNat), ?_, .ref _ _ ?_⟩
  · simp [execOp, ho, hu, Instr.sliceAt, Instr.slice, run_underlying ht, hb, hs.size w]
  · have hpl : (pre ++ row.take l.toNat).length = pre.length + l.toNat := by rw [List.length_append, List.length_take]; omega
    have hdl : (row.drop l.toNat).length = row.length - l.toNat := List.length_drop
    rw [hpl, hdl]
    simp only [RefR, hσ, hι]
    refine ⟨Nat.le_refl _, fun _ => ⟨by simp; omega, fun hz => ?_, fun hz => ?_⟩⟩
    · have hp0 : pre.length = 0 := by omega
      have hl0 : l.toNat = 0 := by omega
      refine ⟨_, c, rfl, ?_⟩
      rw [hl0, hp0, h3 hp0]
      simp [Addr.add_mid]
    · refine ⟨b, c, _, _, rfl, rfl, ⟨by omega, by omega⟩, fun hn => ?_⟩
      rw [if_neg (by omega)]
      simp [Addr.add_mid, Nat.add_mul]

/-- append to a queue: what was read may be left behind. -/
theorem o_apQ {α : Type} {f : α → List V} {t e : TypeId} {x y : Operand} {p sz : Nat} {pre row ys zs : List α} {s : V} (ho : o.op = .call { callee := .builtin .append, args := #[x, y], argTypes := #[t, t] }) (ht : P.underlying t = some (.slice e))
    (hte : TyE P e sz) (hx : evalE fr x = some (.hd p ((pre ++ row).map f).length pre.length row.length)) (hy : evalE fr y = some s) (hs : σ[p]? = some (.arr .clo sz ((pre ++ row).map f))) (hr : srcRows σ s = some (ys.map f)) (hrl : ∀ a, (f a).length = sz)
    (h : apQ row ys = some zs) : DoesQ P o fr σ fun v σ' => ∃ pre' : List α, v = .hd σ.length ((pre' ++ zs).map f).length pre'.length zs.length ∧ σ' = σ.set p .dead ++ [.arr .clo sz ((pre' ++ zs).map f)] := fun S B ι a w he hm next Q hk => by
  obtain ⟨n1, n2, n3, rfl⟩ := apQ_s h
  obtain ⟨i, z, hi, hz, hsz, hzs, hpos, hby⟩ := hte
  have hvx := he x (by simp [ho, Op.operands, Call.operands]) _ hx
  have hvy := he y (by simp [ho, Op.operands, Call.operands]) _ hy
  obtain ⟨b, c, c', hι, hu, g1, g2, g3⟩ := q_inv hm hs n1 hvx
  obtain ⟨h0, e0, vals, hown, hrows, hone, _⟩ := hm.obj p _ _ hs hι
  obtain ⟨A, cap, esz, f2, hus, hcap, hsrc, hcv⟩ := src_val hm hvy hr
  have hyl : (ys.map f).length = ys.length := by simp
  rw [hyl] at hus
  obtain ⟨b2, off2, rfl, hblt, hsame, hcell⟩ := hsrc (fun h => n2 (by simpa using congrArg List.length h))
  have hrl' : ∀ row, row ∈ ys.map f → row.length = sz := fun row h => by obtain ⟨a, _, rfl⟩ := List.mem_map.1 h; exact hrl a
  have hes : esz = sz := by
    cases ys with
    | nil => exact absurd rfl n2
    | cons y0 r => rw [← hsame (f y0) (by simp), hrl]
  subst hes
  have hpl : p < σ.length := (List.getElem?_eq_some_iff.1 hs).1
  have hpι : p < ι.length := (List.getElem?_eq_some_iff.1 hι).1
  have hL : ((pre ++ row).map f).length = pre.length + row.length := by simp
  rw [hL] at hι hown
  have hnl : (flatV ys.length esz f2).length = ys.length * esz := flatV_length _ _ _
  have hrow : ∀ i, i < ys.length → ∃ row, (ys.map f)[i]? = some row ∧ row.length = esz := fun i hi => ⟨f ys[i], by simp [hi], hrl _⟩
  have hnews : ∀ j u, (flatV ys.length esz f2)[j]? = some u → w.cell? ((⟨b2, off2, none⟩ : Addr).add j) = some u := fun j u hj => by
    obtain ⟨i', j', h1, h2, rfl, rfl⟩ := flatV_at hj
    obtain ⟨row, h3, h4⟩ := hrow i' h1
    rw [Addr.add_mid, ← Nat.add_assoc]
    exact hcell i' j' row row[j'] h3 (by simp)
  have hn1 : ∀ u, u ∈ flatV ys.length esz f2 → u.oneCell' = true := fun u hu => by
    obtain ⟨i', j', h1, h2, rfl⟩ := flatV_mem hu
    obtain ⟨row, h3, h4⟩ := hrow i' h1
    exact (hcv i' j' row row[j'] h3 (by simp)).2
  have hnr : ∀ (S' : Nat → Prop) (w' : World), (∀ b, S b → S' b) → (∀ b, S b → w'.heap[b]? = w.heap[b]?) → RowsV (CV S' w') esz (ys.map f) (flatV ys.length esz f2) := fun S' w' h1 h2 => by
    have := RowsV_flat (C := CV S' w') (sz := esz) (ys := ys.map f) (f := f2) hrl' (fun i j row c hi hj => (hcv i j row c hi hj).1.mono h1 h2)
    rwa [hyl] at this
  unfold Oper.wp
  by_cases hroom : row.length + ys.length ≤ c'
  · -- room behind
    have hroom2 : pre.length + row.length + ys.length ≤ c := by omega
    obtain ⟨k1, k2⟩ := ownsRow_room (m := ys.length) (news := flatV ys.length esz f2) hown hnl hroom2
    have hoff : pre.length * esz + row.length * esz = (pre.length + row.length) * esz := by rw [Nat.add_mul]
    have hrun := run_append_room_cells (P := P) w t o.type e i ht hi b (pre.length * esz) row.length c' ⟨b2, off2, none⟩ ys.length cap (flatV ys.length esz f2) (by rw [hnl, hsz]) hnews hn1 hroom
      (fun j hj => by rw [hsz, hoff]; exact (k2 j hj).1) (fun j hj => by rw [hsz, hoff]; exact (k2 j hj).2)
    rw [hsz, hoff] at hrun
    obtain ⟨e1, e2, e3, e4, e5, _⟩ := heap_setCells w b (flatV ys.length esz f2) ((pre.length + row.length) * esz)
    have hlive : ∀ q, live (.arr .clo esz ((pre ++ row).map f)) (.row (.slice (some ⟨b, 0, none⟩) (pre.length + row.length) c)) q = (some b = some q) := fun q => rfl
    have hkeep : ∀ q, S q ∨ B q → (w.setCells b ((pre.length + row.length) * esz) (flatV ys.length esz f2)).heap[q]? = w.heap[q]? := fun q hq => e2 q fun h => hm.outS p _ _ b hs hι rfl (h ▸ hq)
    have hstep := hm.step (o' := .arr .clo esz ((pre ++ row).map f ++ ys.map f)) (l' := .row (.slice (some ⟨b, 0, none⟩) (pre.length + row.length + ys.length) c)) (S' := S) (w' := w.setCells b ((pre.length + row.length) * esz) (flatV ys.length esz f2)) hs hι e3 e4 e5 (by omega)
      (fun q _ hne => e2 q fun h => hne (by rw [h]; rfl)) (fun _ h => h) (fun _ h => .inl h) (fun q hq => by rw [e1]; exact hm.ltS q (.inl hq))
      (fun _ _ h => h.grow hs hι ⟨_, rfl⟩ (by simp) fun h => absurd (by simp at h; simp [h]) n2)
      ⟨h0, e0, vals ++ flatV ys.length esz f2, by simpa [hL, Nat.add_assoc] using k1, RowsV_app (RowsV_mono hrows fun c u h => CV.mono h (fun _ h => h) fun q hq => hkeep q (.inl hq)) (hnr S _ (fun _ h => h) fun q hq => hkeep q (.inl hq)),
        fun u hu => (List.mem_append.1 hu).elim (hone u) (hn1 u), (fun h => by cases h), fun _ h => by cases h⟩
      (fun q hq => ⟨.inl hq, fun hS => hm.outS p _ _ q hs hι hq (.inl hS)⟩)
    obtain ⟨m1, m2⟩ := hstep
    have hs' : (σ.set p (.arr .clo esz ((pre ++ row).map f ++ ys.map f)))[p]? = some (.arr .clo esz ((pre ++ row).map f ++ ys.map f)) := List.getElem?_set_self hpl
    have hι' : (ι.set p (.row (.slice (some ⟨b, 0, none⟩) (pre.length + row.length + ys.length) c)))[p]? = some (.row (.slice (some ⟨b, 0, none⟩) (pre.length + row.length + ys.length) c)) := List.getElem?_set_self hpι
    obtain ⟨c1, c2⟩ := m1.cut (k := ((pre ++ row).map f ++ ys.map f).length) hs' hι' (Nat.le_refl _)
    have hr2 : (execOp a.eval o).run P w = .ok (.value (.slice (some ⟨b, pre.length * esz, none⟩) (row.length + ys.length) c')) (w.setCells b ((pre.length + row.length) * esz) (flatV ys.length esz f2)) := by
      simp only [execOp, ho, resolve, invoke, builtin, Sem.run_bind, Sem.run_pure, Result.andThen_ok, List.map_toArray, List.map_cons, List.map_nil, hu, hus, hrun]
    rw [hr2]
    have et : ((pre ++ row).map f ++ ys.map f).take ((pre ++ row).map f ++ ys.map f).length = (pre ++ (row ++ ys)).map f := by rw [List.take_length]; simp
    rw [et] at c1 c2
    have es : (σ.set p (.arr .clo esz ((pre ++ row).map f ++ ys.map f))).set p .dead = σ.set p .dead := by rw [List.set_set]
    rw [es] at c1 c2
    refine hk _ _ _ S _ _ ⟨pre, rfl, rfl⟩ (.ref _ _ ?_) c1 (m2.trans c2)
    have ln : (σ.set p AO.dead ++ [AO.arr .clo esz ((pre ++ (row ++ ys)).map f)])[σ.length]? = some (.arr .clo esz ((pre ++ (row ++ ys)).map f)) := by
      rw [List.getElem?_append_right (by simp)]; simp
    have lk : ((pre ++ row).map f ++ ys.map f).length = ((pre ++ (row ++ ys)).map f).length := by simp
    rw [lk]
    have li : (ι.set p (.row (.slice (some ⟨b, 0, none⟩) (pre.length + row.length + ys.length) c)) ++ [Loc.row (.slice (some ⟨b, 0, none⟩) ((pre ++ (row ++ ys)).map f).length c)])[σ.length]? = some (.row (.slice (some ⟨b, 0, none⟩) ((pre ++ (row ++ ys)).map f).length c)) := by
      rw [List.getElem?_append_right (by simp [hm.len])]; simp [hm.len]
    simp only [RefR, ln, li]
    refine ⟨Nat.le_refl _, fun _ => ⟨by simp, fun hz => ⟨_, c, rfl, ?_⟩, fun hz => ⟨b, c, _, c', rfl, by simp, ⟨by simp; omega, g2⟩, fun _ => rfl⟩⟩⟩
    rw [g3 hz, hz]
    simp
  · -- a new row
    have hLs : vals.length = (pre.length + row.length) * esz := by rw [hrows.1, hL]
    have holds : ∀ j u, ((vals.drop (pre.length * esz)))[j]? = some u → w.cell? ((⟨b, pre.length * esz, none⟩ : Addr).add j) = some u := fun j u hj => by
      rw [List.getElem?_drop] at hj
      rw [Addr.add_mid]
      exact row_cell hown hj
    have hol : (vals.drop (pre.length * esz)).length = row.length * esz := by rw [List.length_drop, hLs, Nat.add_mul]; omega
    obtain ⟨v', w', hrun, r1, r2⟩ := run_append_arg_grows (P := P) w t o.type e i z esz i.bytes ht hi hz hsz rfl hzs hpos ⟨b, pre.length * esz, none⟩ row.length c' (vals.drop (pre.length * esz)) hol holds ⟨b2, off2, none⟩ ys.length cap (flatV ys.length esz f2) hnl hnews (by omega)
      (by simp only [maxLen]; omega) (by
        have : (row.length + ys.length) * i.bytes ≤ 4294967296 * 32768 := Nat.mul_le_mul n3 hby
        omega)
    have hg := Grown.of_grownBy r2
    have hold : RowsV (CV S w') esz (row.map f) (vals.drop (pre.length * esz)) := by
      refine ⟨by rw [hol]; simp, fun r hr => by obtain ⟨a, _, rfl⟩ := List.mem_map.1 hr; exact hrl a, fun i j r cc hi hj => ?_⟩
      have hi' : ((pre ++ row).map f)[pre.length + i]? = some r := by rw [List.map_append, List.getElem?_append_right (by simp)]; simpa using hi
      obtain ⟨u, h5, h6⟩ := hrows.2.2 (pre.length + i) j r cc hi' hj
      refine ⟨u, by rw [List.getElem?_drop, ← Nat.add_assoc, ← Nat.add_mul]; exact h5, CV.mono h6 (fun _ h => h) fun q hq => hg.block q (hm.ltS q (.inl hq))⟩
    obtain ⟨m1, m2⟩ := hm.push hg (.arr .clo esz (row.map f ++ ys.map f)) (.row v') (fun q hq => (r1.lt q hq).1)
      ⟨h0, e, _, by
        have := (show w'.ownsRow 0 e esz v' (row.length + ys.length) _ from ⟨r1.1, r1.2.imp id fun ⟨g, cap, cur, a1, _, a3⟩ => ⟨g, cap, cur, a1, Nat.zero_le _, a3⟩⟩)
        simpa using this, RowsV_app hold (hnr S w' (fun _ h => h) fun q hq => hg.block q (hm.ltS q (.inl hq))),
        fun u hu => (List.mem_append.1 hu).elim (fun h => hone u (List.mem_of_mem_drop h)) (hn1 u), (fun h => by cases h), fun _ h => by cases h⟩
    have hs' : (σ ++ [AO.arr .clo esz (row.map f ++ ys.map f)])[p]? = some (.arr .clo esz ((pre ++ row).map f)) := by rw [List.getElem?_append_left hpl]; exact hs
    obtain ⟨c1, c2⟩ := m1.kill hs'
    have es : (σ ++ [AO.arr .clo esz (row.map f ++ ys.map f)]).set p .dead = σ.set p .dead ++ [AO.arr .clo esz (([] ++ (row ++ ys)).map f)] := by
      rw [List.set_append_left _ _ hpl]; simp
    rw [es] at c1 c2
    have hr2 : (execOp a.eval o).run P w = .ok (.value v') w' := by
      simp only [execOp, ho, resolve, invoke, builtin, Sem.run_bind, Sem.run_pure, Result.andThen_ok, List.map_toArray, List.map_cons, List.map_nil, hu, hus, hrun]
    rw [hr2]
    refine hk _ _ _ S _ _ ⟨[], rfl, rfl⟩ (.ref _ _ ?_) c1 (m2.trans c2)
    have hv'' : ∃ A' c', v' = .slice A' (row.length + ys.length) c' := by
      rcases r1.2 with ⟨h1, h2⟩ | ⟨g, cap', cur, h1, _⟩
      · exact ⟨none, 0, by rw [h1, h2]⟩
      · exact ⟨_, _, h1⟩
    obtain ⟨A', c'', rfl⟩ := hv''
    have ln : (σ.set p AO.dead ++ [AO.arr .clo esz (([] ++ (row ++ ys)).map f)])[σ.length]? = some (.arr .clo esz (([] ++ (row ++ ys)).map f)) := by
      rw [List.getElem?_append_right (by simp)]; simp
    have li : (ι ++ [Loc.row (.slice A' (row.length + ys.length) c'')])[σ.length]? = some (.row (.slice A' (row.length + ys.length) c'')) := by
      rw [List.getElem?_append_right (by rw [hm.len]; exact Nat.le_refl _)]; simp [hm.len]
    simp only [RefR, ln, li]
    exact ⟨Nat.le_refl _, fun _ => ⟨by simp, fun _ => ⟨A', c'', by simp, by simp⟩, fun h => absurd rfl h⟩⟩
end

/-- The loop's rule where the frame hangs on more than the state. -/
theorem T.lqE {N : Nat} {P : Program} {n : Nat} {c : Code} {E S R : Type} {step : S → Option (S ⊕ R)} (Fs : E → S → Fr) (σs : E → S → ASt) {e0 : E} {s0 : S} {r : R} {Q : Post} (QQ : R → Post) {fr : Fr} {σ : ASt} (H : G36.loopO step s0 = some r)
    (hi : ∀ e s x, step s = some x → T P N n c (Fs e s) (σs e s) (Pk (σs e s).length (thn (fun fr' σ' => ∃ e' s', x = .inl s' ∧ fr' = Fs e' s' ∧ σ' = σs e' s') fun ex fr' σ' => ∃ q, x = .inr q ∧ QQ q ex fr' σ')))
    (hq : ∀ ex fr' σ', QQ r ex fr' σ' → Q ex fr' σ')
    (hN : ∀ e s e' s', (σs e s).length = (σs e' s').length := by intros; rfl)
    (hob : ∀ e s, belOs (σs e s).length (σs e s) := by intro _ _; repeat' (first | exact trivial | exact bels_iff.1 rfl | exact belRaw fun _ => rfl | exact belFam fun _ => rfl | exact belMap fun _ => rfl | exact belA fun _ => rfl | refine ⟨?_, ?_⟩))
    (hfr : ∀ e s, Sub (σs e s).length (Fs e s) (Fs e s) := by intro _ _; repeat' (first | exact .nil | refine .cons _ _ _ rfl rfl ?_ | refine .cons _ _ _ rfl (belAg fun _ => rfl) ?_))
    (hs : σ = σs e0 s0 := by exact rfl)
    (hw : WkF σ.length fr (Fs e0 s0) := by repeat' (first | exact .nil | refine .k _ rfl rfl ?_ | refine .k _ rfl (belAg fun _ => rfl) ?_)) : T P N n (.loop c) fr σ Q := by
  subst hs
  refine T.to hw (T.mono ?_ hq)
  obtain ⟨k, hk⟩ := loopO_ex H
  refine T.loopD (fun k fr σ => ∃ e s, fr = Fs e s ∧ σ = σs e s ∧ iterL step k s = some r) k ⟨e0, s0, rfl, rfl, hk⟩ ?_
  rintro k fr σ ⟨e, s, rfl, rfl, hk⟩
  cases k with
  | zero => simp [iterL] at hk
  | succ k =>
    rw [iterL] at hk
    cases hs : step s with
    | none => rw [hs] at hk; cases hk
    | some x =>
      rw [hs] at hk
      refine (T.pk (hi e s x hs)).mono fun ex fr' σ' h => ?_
      cases x with
      | inl s' =>
        cases ex with
        | normal =>
          obtain ⟨e', s2, h1, rfl, rfl⟩ := h
          injection h1 with h1; subst h1
          exact ⟨k, Fs e' s', σs e' s', by omega, ⟨e', s', rfl, rfl, hk⟩, ⟨[], by simp⟩, by rw [hN e s e' s']; exact Nat.le_refl _, fun a o ho => .inl ((hob e' s').get a o ho), (hfr e' s').get⟩
        | ret => obtain ⟨q, h1, _⟩ := h; cases h1
        | exit id => obtain ⟨q, h1, _⟩ := h; cases h1
      | inr q =>
        injection hk with hk
        subst hk
        cases ex with
        | normal => obtain ⟨e', s2, h1, _⟩ := h; cases h1
        | ret => obtain ⟨q2, h1, h2⟩ := h; injection h1 with h1; subst h1; exact h2
        | exit id => obtain ⟨q2, h1, h2⟩ := h; injection h1 with h1; subst h1; exact h2
theorem Cs.kill {N n p sz : Nat} {fr : Fr} {σ : ASt} {m : Md} {xs : List (List V)} (hs : σ[p]? = some (.arr m sz xs)) : Cs N n fr σ fr (σ.set p .dead) := fun S B ι a w hr => by
  obtain ⟨h1, h2⟩ := hr.mem.kill hs
  exact ⟨S, ι, hr.fw h2 h1, h2.toN⟩
/-- A frozen array in a cell of a variable, told by its content. -/
theorem Cs.frzCell2 {N n p q L sz : Nat} {fr : Fr} {σ : ASt} {cs : List V} {xs : List (List V)} (j : Nat) (hq : σ[q]? = some (.box cs)) (hj : cs[j]? = some (.hd p L 0 L)) (hs : σ[p]? = some (.arr .frz sz xs)) (hL : xs.length = L) :
    Cs N n fr σ fr (σ.set q (.box (cs.set j (.im false xs)))) := fun S B ι a w hr => by
  obtain ⟨h1, h2⟩ := Rel.cell (N := N) hr (p := q) (j := j) (cs := cs) (c := .hd p L 0 L) (v := .im false xs) hq hj fun u hu => by
    have := frz_val hr.mem hs hL hu
    rw [List.drop_zero, List.take_of_length_le (by omega)] at this
    exact this
  exact ⟨S, _, h1, h2⟩

end Go.G36
/- Ranges over maps: the iterator, its steps, the entry it stands at. -/
namespace Go.G36
variable [Genv]
set_option linter.all false
open Go

theorem restOf_nil (en : Array MapEntry) : restOf en #[] = en.toList := by
  unfold restOf
  rw [List.filter_eq_self]
  intro e _
  simp
theorem restOf_leftOf (en : Array MapEntry) (seen : Array Nat) : (leftOf en seen).toList = restOf en seen := by
  simp [leftOf, restOf]
theorem Born.eq {en : Array MapEntry} {c : Nat} (h : Born en c) {x y : MapEntry} (hx : x ∈ en.toList) (hy : y ∈ en.toList) (hb : x.born = y.born) : x = y := by
  obtain ⟨i, hi, rfl⟩ := List.mem_iff_getElem.1 hx
  obtain ⟨j, hj, rfl⟩ := List.mem_iff_getElem.1 hy
  have := h.2 i j en.toList[i] en.toList[j] (by simp at hi ⊢) (by simp at hj ⊢) hb
  subst this; rfl
theorem Born.nodup {en : Array MapEntry} {c : Nat} (h : Born en c) : (en.toList.map (·.born)).Nodup := by
  refine List.pairwise_iff_getElem.2 fun i j hi hj hij he => ?_
  simp at hi hj he
  have := h.2 i j en[i] en[j] (by simp) (by simp) he
  omega
theorem erase_filter {α β : Type} [DecidableEq β] (f : α → β) : ∀ (l : List α) (i : Nat) (e : α), l[i]? = some e → (l.map f).Nodup → l.filter (fun x => !(decide (f x = f e))) = l.eraseIdx i
  | [], i, e, h, _ => by simp at h
  | a :: l, 0, e, h, hn => by
    simp at h; subst h
    rw [List.map_cons, List.nodup_cons] at hn
    simp only [List.eraseIdx_cons_zero, List.filter_cons, decide_true, Bool.not_true, Bool.false_eq_true, if_false]
    rw [List.filter_eq_self]
    intro x hx
    simp only [Bool.not_eq_true', decide_eq_false_iff_not]
    intro hxa
    exact hn.1 (List.mem_map.2 ⟨x, hx, hxa⟩)
  | a :: l, i + 1, e, h, hn => by
    simp at h
    rw [List.map_cons, List.nodup_cons] at hn
    have hne : f a ≠ f e := fun hae => hn.1 (List.mem_map.2 ⟨e, List.mem_of_getElem? h, hae.symm⟩)
    rw [List.eraseIdx_cons_succ, List.filter_cons, if_pos (by simpa using hne), erase_filter f l i e h hn.2]
theorem restOf_push {en : Array MapEntry} {c : Nat} (hB : Born en c) {seen : Array Nat} {i : Nat} {e : MapEntry} (h : (restOf en seen)[i]? = some e) : restOf en (seen.push e.born) = (restOf en seen).eraseIdx i := by
  have hn : ((restOf en seen).map (·.born)).Nodup := by
    unfold restOf
    exact (hB.nodup).sublist (List.Sublist.map _ List.filter_sublist)
  rw [← erase_filter (fun x : MapEntry => x.born) _ i e h hn]
  unfold restOf
  rw [List.filter_filter]
  congr 1
  funext x
  by_cases h1 : x.born = e.born
  · simp [h1]
  · simp [h1, Array.contains_push]

section
variable {P : Program} {o : Oper} {fr : Fr} {σ : ASt}

theorem RefR.killM {ι : List Loc} {p r : Nat} {es : List (V × V)} (hs : σ[p]? = some (.mp es)) (hι : ι[p]? = some (.map r)) (v : V) (u : Value) (h : RefR ι σ v u) : RefR ι (σ.set p .dead) v u := by
  have hpl : p < σ.length := (List.getElem?_eq_some_iff.1 hs).1
  have key : ∀ a0, p ≠ a0 → (σ.set p AO.dead)[a0]? = σ[a0]? := fun a0 hq => List.getElem?_set_ne hq
  have kp : (σ.set p AO.dead)[p]? = some .dead := List.getElem?_set_self hpl
  cases v with
  | hd a0 L off len =>
    simp only [RefR] at h ⊢
    by_cases hq : p = a0
    · subst hq; rw [hs] at h; simp at h
    · rw [key a0 hq]; exact h
  | bx a0 j =>
    simp only [RefR] at h ⊢
    by_cases hq : p = a0
    · subst hq; rw [hs, hι] at h; simp at h
    · rw [key a0 hq]; exact h
  | el a0 L i j =>
    simp only [RefR] at h ⊢
    by_cases hq : p = a0
    · subst hq; rw [hs] at h; simp at h
    · rw [key a0 hq]; exact h
  | px a0 L k j =>
    simp only [RefR] at h ⊢
    by_cases hq : p = a0
    · subst hq; rw [hs] at h; simp at h
    · rw [key a0 hq]; exact h
  | mp a0 =>
    simp only [RefR] at h ⊢
    by_cases hq : p = a0
    · subst hq; rw [hs, hι] at h; rw [kp, hι]; exact h
    · rw [key a0 hq]; exact h
  | _ => exact h

/-- range m: the map is given up for its iterator. -/
theorem o_range {t k e : TypeId} {x : Operand} {p : Nat} {es : List (V × V)} (ho : o.op = .range t x) (ht : P.underlying t = some (.map k e)) (hx : evalE fr x = some (.mp p)) (hs : σ[p]? = some (.mp es)) :
    Does P o fr σ (.bx σ.length 0) (σ.set p .dead ++ [.mp ((.nilF, .nilF) :: es)]) := fun S B ι a w he hm next Q hk => by
  obtain ⟨r, en, clock, h1, hι, h3, h4, hB, h5⟩ := mp_of hm (he x (by simp [ho, Op.operands]) _ hx) hs
  have hrl : r < w.heap.size := (Array.getElem?_eq_some_iff.1 h3).1
  have hpl : p < σ.length := (List.getElem?_eq_some_iff.1 hs).1
  have hpι : p < ι.length := (List.getElem?_eq_some_iff.1 hι).1
  generalize hit : Obj.mapIter (some r) clock #[] clock = it
  have hg := Grown.alloc w it
  have hnew : (w.alloc it).heap[w.heap.size]? = some it := heap_alloc_new w it
  have hold : ∀ b, b < w.heap.size → (w.alloc it).heap[b]? = w.heap[b]? := fun b hb => hg.block b hb
  have href : ∀ v u, RefR ι σ v u → RefR (ι ++ [Loc.it w.heap.size r]) (σ.set p .dead ++ [.mp ((.nilF, .nilF) :: es)]) v u := fun v u h =>
    (RefR.killM hs hι v u h).append (by simpa using hm.len) _ _
  have hout := hm.outS p _ _ r hs hι rfl
  have same : ∀ b, S b ∨ B b → (w.alloc it).heap[b]? = w.heap[b]? := fun b hb => hold b (hm.ltS b hb)
  -- the objects of the new store
  have obj : ∀ (q : Nat) (o2 : AO) (l2 : Loc), (σ.set p .dead ++ [.mp ((.nilF, .nilF) :: es)])[q]? = some o2 → (ι ++ [Loc.it w.heap.size r])[q]? = some l2 →
      (q ≠ p ∧ q < σ.length ∧ σ[q]? = some o2 ∧ ι[q]? = some l2) ∨ (q = p ∧ o2 = .dead) ∨ (q = σ.length ∧ o2 = .mp ((.nilF, .nilF) :: es) ∧ l2 = .it w.heap.size r) := fun q o2 l2 g1 g2 => by
    by_cases hq : q < σ.length
    · rw [List.getElem?_append_left (by simpa using hq)] at g1
      rw [List.getElem?_append_left (by rw [hm.len]; exact hq)] at g2
      by_cases hqp : q = p
      · subst hqp
        rw [List.getElem?_set_self hpl] at g1
        injection g1 with g1
        exact .inr (.inl ⟨rfl, g1.symm⟩)
      · rw [List.getElem?_set_ne (Ne.symm hqp)] at g1
        exact .inl ⟨hqp, hq, g1, g2⟩
    · have hq2 : q = σ.length := by
        have := (List.getElem?_eq_some_iff.1 g1).1
        simp at this; omega
      subst hq2
      rw [List.getElem?_append_right (by simp)] at g1
      rw [List.getElem?_append_right (by rw [hm.len]; exact Nat.le_refl _)] at g2
      simp at g1
      simp [hm.len] at g2
      exact .inr (.inr ⟨rfl, g1.symm, g2.symm⟩)
  have hm' : Mem S B (ι ++ [Loc.it w.heap.size r]) (σ.set p .dead ++ [.mp ((.nilF, .nilF) :: es)]) (w.alloc it) := by
    refine ⟨by simp [hm.len], fun q o2 l2 g1 g2 => ?_, fun q o2 l2 q' o2' l2' b g1 g2 g1' g2' hb hb' => ?_, fun q o2 l2 b g1 g2 hb => ?_, fun b hb => Nat.lt_of_lt_of_le (hm.ltS b hb) hg.size, hm.gl.mono (fun _ h => h) fun b hb => same b (.inl hb)⟩
    · rcases obj q o2 l2 g1 g2 with ⟨hne, hq, k1, k2⟩ | ⟨_, rfl⟩ | ⟨_, rfl, rfl⟩
      · exact (hm.obj q o2 l2 k1 k2).mono (fun _ h => h) href same fun b hb => hold b (live_lt (hm.obj q o2 l2 k1 k2) hb)
      · trivial
      · refine ⟨by omega, en, clock, #[], { key := .nilFunc, val := .nilFunc, born := 0 }, (hold r hrl).trans h3, by rw [hnew, ← hit], hB, .inl ⟨rfl, rfl⟩, by simp [restOf_nil]; omega, fun i k0 x0 e0 j1 j2 => ?_⟩
        cases i with
        | zero =>
          simp at j1 j2
          obtain ⟨rfl, rfl⟩ := j1
          subst j2
          exact ⟨.nilF, .cv _ _ .nilF⟩
        | succ i =>
          rw [List.getElem?_cons_succ] at j1 j2
          rw [restOf_nil] at j2
          obtain ⟨g3, g4⟩ := h5 i k0 x0 e0 j1 (by simpa using j2)
          exact ⟨g3.mono (fun _ h => h) fun b hb => same b (.inl hb), g4.mono (fun _ h => h) (fun _ h => h) href same⟩
    · have one : ∀ (q : Nat) (o2 : AO) (l2 : Loc) (b : Nat), (σ.set p .dead ++ [.mp ((.nilF, .nilF) :: es)])[q]? = some o2 → (ι ++ [Loc.it w.heap.size r])[q]? = some l2 → live o2 l2 b →
          (q ≠ p ∧ q < σ.length ∧ σ[q]? = some o2 ∧ ι[q]? = some l2 ∧ b < w.heap.size ∧ b ≠ r) ∨ (q = σ.length ∧ (b = w.heap.size ∨ b = r)) := fun q o2 l2 b g1 g2 hb => by
        rcases obj q o2 l2 g1 g2 with ⟨hne, hq, k1, k2⟩ | ⟨_, rfl⟩ | ⟨hq, rfl, rfl⟩
        · exact .inl ⟨hne, hq, k1, k2, live_lt (hm.obj q o2 l2 k1 k2) hb, fun hbr => hne (hm.apart q o2 l2 p _ _ r k1 k2 hs hι (hbr ▸ hb) rfl)⟩
        · exact hb.elim
        · exact .inr ⟨hq, hb⟩
      rcases one q o2 l2 b g1 g2 hb with ⟨a1, a2, a3, a4, a5, a6⟩ | ⟨a1, a2⟩ <;> rcases one q' o2' l2' b g1' g2' hb' with ⟨b1, b2, b3, b4, b5, b6⟩ | ⟨b1, b2⟩
      · exact hm.apart q o2 l2 q' o2' l2' b a3 a4 b3 b4 hb hb'
      · rcases b2 with b2 | b2 <;> omega
      · rcases a2 with a2 | a2 <;> omega
      · omega
    · rcases obj q o2 l2 g1 g2 with ⟨hne, hq, k1, k2⟩ | ⟨_, rfl⟩ | ⟨hq, rfl, rfl⟩
      · exact hm.outS q o2 l2 b k1 k2 hb
      · exact hb.elim
      · rcases hb with rfl | rfl
        · exact fun h => absurd (hm.ltS _ h) (Nat.lt_irrefl _)
        · exact hout
  have hf : Fw S ι σ w S (ι ++ [Loc.it w.heap.size r]) (σ.set p .dead ++ [.mp ((.nilF, .nilF) :: es)]) (w.alloc it) := by
    refine ⟨hg.os, hg.tape, hg.output, hg.size, fun _ h => h, fun _ h => .inl h, fun b hb _ => hold b hb, fun b ⟨q, o2, l2, g1, g2, hb⟩ => ?_, href⟩
    rcases obj q o2 l2 g1 g2 with ⟨hne, hq, k1, k2⟩ | ⟨_, rfl⟩ | ⟨hq, rfl, rfl⟩
    · exact .inl ⟨q, o2, l2, k1, k2, hb⟩
    · exact hb.elim
    · rcases hb with rfl | rfl
      · exact .inr (Nat.le_refl _)
      · exact .inl ⟨p, _, _, hs, hι, rfl⟩
  have hr : (execOp a.eval o).run P w = .ok (.value (.pointer (some ⟨w.heap.size, 0, none⟩))) (w.alloc it) := by
    simp [execOp, ho, h1, Instr.range, run_underlying ht, MapKept.run_getObj_map h3, newObj, Sem.run, Result.andThen, hit]
  unfold Oper.wp
  rw [hr]
  refine hk _ S _ _ (.ref _ _ ?_) hm' hf
  have k1 : (σ.set p AO.dead ++ [AO.mp ((.nilF, .nilF) :: es)])[σ.length]? = some (.mp ((.nilF, .nilF) :: es)) := by
    rw [List.getElem?_append_right (by simp)]; simp
  have k2 : (ι ++ [Loc.it w.heap.size r])[σ.length]? = some (.it w.heap.size r) := by
    rw [List.getElem?_append_right (by rw [hm.len]; exact Nat.le_refl _)]; simp [hm.len]
  simp [RefR, k1, k2]

theorem it_of {S B : Nat → Prop} {ι : List Loc} {w : World} (hm : Mem S B ι σ w) {q : Nat} {u : Value} {es : List (V × V)} (h : Val S B (RefR ι σ) w (.bx q 0) u) (hs : σ[q]? = some (.mp es)) :
    ∃ r m, ι[q]? = some (.it r m) ∧ u = .pointer (some ⟨r, 0, none⟩) := by
  have h := Val.inv_ref (v := .bx q 0) rfl trivial h
  simp only [RefR, hs] at h
  split at h
  · rename_i h1 _; cases h1
  · rename_i h1 h2; exact ⟨_, _, h2, h.1⟩
  · exact h.elim

/-- A step of an iterator: it is over, or it stands at one of the entries that are left. -/
theorem o_next {x : Operand} {q : Nat} {c : V × V} {es : List (V × V)} (ho : o.op = .next x false) (hx : evalE fr x = some (.bx q 0)) (hs : σ[q]? = some (.mp (c :: es))) :
    DoesQ P o fr σ fun v σ' => (es = [] ∧ v = .tup [.bool false] ∧ σ' = σ) ∨ ∃ (i : Nat) (k y : V), es[i]? = some (k, y) ∧ v = .tup [.bool true, k, y] ∧ σ' = σ.set q (.mp ((k, y) :: es.eraseIdx i)) := fun S B ι a w he hm next Q hk => by
  obtain ⟨r, m, hι, hu⟩ := it_of hm (he x (by simp [ho, Op.operands]) _ hx) hs
  obtain ⟨hne, en, clock, seen, c0, h1, h2, hB, _, h4, h5⟩ := hm.obj q _ _ hs hι
  have hlen : (restOf en seen).length = es.length := by simpa using h4
  unfold Oper.wp
  rcases run_next_at (P := P) w o.type r m clock clock seen en clock h2 h1 (fun z hz => by
    obtain ⟨i, hi, rfl⟩ := List.mem_iff_getElem.1 hz
    exact hB.1 i _ (by simp at hi ⊢)) (Nat.le_refl _) with ⟨h0, hrun⟩ | ⟨e, hmem, w1, hw1, hrun⟩
  · have hr : (execOp a.eval o).run P w = .ok (.value (.tuple #[.bool false])) w := by
      simp [execOp, ho, hu, hrun, Result.andThen]
    rw [hr]
    have hes : es = [] := List.eq_nil_of_length_eq_zero (by rw [← hlen, ← restOf_leftOf]; simpa using h0)
    exact hk _ _ _ S ι w (.inl ⟨hes, rfl, rfl⟩) (.tup _ _ rfl fun i c u hc hu => by
      cases i with
      | zero => simp at hc hu; subst hc; subst hu; exact .cv _ _ (.bool _)
      | succ i => simp at hc) hm (Fw.refl _ _ _ _)
  · rw [restOf_leftOf] at hmem
    obtain ⟨i, hi, rfl⟩ := List.mem_iff_getElem.1 hmem
    generalize hE : (restOf en seen)[i] = e at hrun hmem
    have hei : (restOf en seen)[i]? = some e := by rw [← hE]; simp
    have hil : i < es.length := by rw [← hlen]; exact hi
    obtain ⟨⟨k, y⟩, hky⟩ : ∃ ky, es[i]? = some ky := ⟨es[i], by simp [hil]⟩
    have hcv := h5 (i + 1) k y e (by simpa using hky) (by simpa using hei)
    have hr : (execOp a.eval o).run P w = .ok (.value (.tuple #[.bool true, e.key, e.val])) (ChangeMaps.setBlock w1 r (.mapIter (some m) clock (seen.push e.born) clock)) := by
      simp [execOp, ho, hu, hrun, Result.andThen]
    rw [hr]
    have hw1h : w1.heap = w.heap ∧ w1.os = w.os ∧ w1.tape = w.tape ∧ w1.output = w.output := by rcases hw1 with rfl | rfl <;> exact ⟨rfl, rfl, rfl, rfl⟩
    generalize hW : ChangeMaps.setBlock w1 r (.mapIter (some m) clock (seen.push e.born) clock) = W
    have hrl : r < w.heap.size := (Array.getElem?_eq_some_iff.1 h2).1
    have hWh : W.heap = w.heap.setIfInBounds r (.mapIter (some m) clock (seen.push e.born) clock) := by rw [← hW]; simp [ChangeMaps.setBlock, hw1h.1]
    have kr : W.heap[r]? = some (.mapIter (some m) clock (seen.push e.born) clock) := by rw [hWh]; simp [hrl]
    have kb : ∀ b, b ≠ r → W.heap[b]? = w.heap[b]? := fun b hb => by rw [hWh, Array.getElem?_setIfInBounds_ne (Ne.symm hb)]
    have hιs : ι.set q (.it r m) = ι := set_same hι
    have hql : q < σ.length := (List.getElem?_eq_some_iff.1 hs).1
    have hqι : q < ι.length := (List.getElem?_eq_some_iff.1 hι).1
    have href : ∀ v u, RefR ι σ v u → RefR ι (σ.set q (.mp ((k, y) :: es.eraseIdx i))) v u := fun v u h => by
      have := RefR.set (o' := .mp ((k, y) :: es.eraseIdx i)) hs hι trivial h
      rwa [hιs] at this
    have hlv : live (.mp (c :: es)) (.it r m) r := .inl rfl
    have hout := hm.outS q _ _ r hs hι (.inl rfl)
    have same : ∀ b, S b ∨ B b → W.heap[b]? = w.heap[b]? := fun b hb => kb b fun h => hout (h ▸ hb)
    have hst := hm.step (o' := .mp ((k, y) :: es.eraseIdx i)) (l' := .it r m) (S' := S) (w' := W) hs hι (by rw [← hW]; exact hw1h.2.1) (by rw [← hW]; exact hw1h.2.2.1) (by rw [← hW]; exact hw1h.2.2.2) (by rw [hWh]; simp)
      (fun b _ hb => kb b fun h => hb (.inl h)) (fun _ h => h) (fun _ h => .inl h) (fun b hb => by rw [hWh]; simpa using hm.ltS b (.inl hb)) (fun v u h => by rw [hιs]; exact href v u h)
      ⟨hne, en, clock, seen.push e.born, e, (kb m (Ne.symm hne)).trans h1, kr, hB, .inr ⟨seen, rfl, (List.mem_filter.1 (List.mem_of_getElem? hei)).1⟩, by
        rw [restOf_push hB hei]; simp [List.length_eraseIdx, hlen, hil], fun j k' y' e' j1 j2 => by
        rw [restOf_push hB hei] at j2
        have fin : ∀ {k' y' : V} {e' : MapEntry}, (CV S w k' e'.key ∧ Val S B (RefR ι σ) w y' e'.val) → CV S W k' e'.key ∧ Val S B (RefR (ι.set q (.it r m)) (σ.set q (.mp ((k, y) :: es.eraseIdx i)))) W y' e'.val := fun h =>
          ⟨h.1.mono (fun _ h => h) fun b hb => same b (.inl hb), h.2.mono (fun _ h => h) (fun _ h => h) (fun v u h => by rw [hιs]; exact href v u h) same⟩
        cases j with
        | zero =>
          simp at j1 j2
          obtain ⟨rfl, rfl⟩ := j1
          subst j2
          exact fin hcv
        | succ j =>
          rw [List.getElem?_cons_succ, List.getElem?_eraseIdx] at j1 j2
          split at j1
          · rename_i hj; rw [if_pos hj] at j2
            exact fin (h5 (j + 1) k' y' e' (by simpa using j1) (by simpa using j2))
          · rename_i hj; rw [if_neg hj] at j2
            exact fin (h5 (j + 1 + 1) k' y' e' (by simpa using j1) (by simpa using j2))⟩
      (fun b hb => ⟨.inl hb, fun h => hm.outS q _ _ b hs hι hb (.inl h)⟩)
    rw [hιs] at hst
    refine hk _ _ _ S ι W (.inr ⟨i, k, y, hky, rfl, rfl⟩) (.tup _ _ rfl fun j c u hc hu => ?_) hst.1 hst.2
    rcases j with _ | _ | _ | j
    · simp at hc hu; subst hc; subst hu; exact .cv _ _ (.bool _)
    · simp at hc hu; subst hc; subst hu; exact .cv _ _ (hcv.1.mono (fun _ h => h) fun b hb => same b (.inl hb))
    · simp at hc hu; subst hc; subst hu; exact hcv.2.mono (fun _ h => h) (fun _ h => h) href same
    · simp at hc

/-- The entry that an iterator stands at. -/
theorem o_entry {x : Operand} {q : Nat} {k y : V} {es : List (V × V)} (ho : o.op = .entry x) (hx : evalE fr x = some (.bx q 0)) (hs : σ[q]? = some (.mp ((k, y) :: es))) (hk : k ≠ .nilF) : Does P o fr σ (.tup [k, y]) σ := quiet fun S B ι a w he hm => by
  obtain ⟨r, m, hι, hu⟩ := it_of hm (he x (by simp [ho, Op.operands]) _ hx) hs
  obtain ⟨hne, en, clock, seen, c0, h1, h2, hB, hc, _, h5⟩ := hm.obj q _ _ hs hι
  rcases hc with ⟨_, hc⟩ | ⟨seen', rfl, hmem⟩
  · simp at hc; exact absurd hc hk
  · obtain ⟨g1, g2⟩ := h5 0 k y c0 rfl rfl
    refine ⟨.tuple #[c0.key, c0.val], by simp [execOp, ho, hu, run_entry_at w r m clock seen' en clock c0 h2 h1 hmem hB.nodup, Result.andThen], .tup _ _ rfl fun j c u hc hu => ?_⟩
    rcases j with _ | _ | j
    · simp at hc hu; subst hc; subst hu; exact .cv _ _ g1
    · simp at hc hu; subst hc; subst hu; exact g2
    · simp at hc
end
end Go.G36
/- Loops that go on in any of several ways, with a measure that falls. -/
namespace Go.G36
variable [Genv]
set_option linter.all false
open Go

theorem T.lqX {N : Nat} {P : Program} {n : Nat} {c : Code} {X : Type} (Fs : X → Fr) (σs : X → ASt) (μ : X → Nat) {x0 : X} {Q : Post} (QQ : Post) {fr : Fr} {σ : ASt}
    (hi : ∀ x, T P N n c (Fs x) (σs x) (Pk (σs x).length (thn (fun fr' σ' => ∃ x', μ x' < μ x ∧ fr' = Fs x' ∧ σ' = σs x') QQ)))
    (hq : ∀ ex fr' σ', QQ ex fr' σ' → Q ex fr' σ')
    (hN : ∀ x x', (σs x).length = (σs x').length) (hob : ∀ x, belOs (σs x).length (σs x)) (hfr : ∀ x, Sub (σs x).length (Fs x) (Fs x))
    (hs : σ = σs x0) (hw : WkF σ.length fr (Fs x0)) : T P N n (.loop c) fr σ Q := by
  subst hs
  refine T.to hw (T.mono ?_ hq)
  refine T.loopD (fun k fr σ => ∃ x, fr = Fs x ∧ σ = σs x ∧ μ x = k) (μ x0) ⟨x0, rfl, rfl, rfl⟩ ?_
  rintro k fr σ ⟨x, rfl, rfl, rfl⟩
  refine (T.pk (hi x)).mono fun ex fr' σ' h => ?_
  cases ex with
  | normal =>
    obtain ⟨x', h1, rfl, rfl⟩ := h
    exact ⟨μ x', Fs x', σs x', h1, ⟨x', rfl, rfl, rfl⟩, ⟨[], by simp⟩, by rw [hN x x']; exact Nat.le_refl _, fun a o ho => .inl ((hob x').get a o ho), (hfr x').get⟩
  | ret => exact h
  | exit id => exact h
end Go.G36
