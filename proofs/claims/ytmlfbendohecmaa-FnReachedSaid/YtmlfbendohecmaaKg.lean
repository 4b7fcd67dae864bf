/- What a slice has in it, from wherever it comes; append; make; slices written out. -/
import Derived.Test.YtmlfbendohecmaaKf
import Derived.Laws.OwnMore
namespace Go.G36
variable [Genv]
set_option linter.all false
open Go

section
variable {P : Program} (w : World)

theorem app_zero (t ty e : TypeId) (i : TypeInfo) (ht : P.underlying t = some (.slice e)) (hi : P.info? e = some i) (A A' : Option Addr) (n c c' : Nat) (hc : n ≤ c) :
    (Builtin.append_ #[t, t] ty #[.slice A n c, .slice A' 0 c']).run P w = .ok (.slice A n c) w := by
  have hf : (Builtin.firstCells i.size 0 (.slice A' 0 c')).run P w = .ok #[] w := by
    cases A' <;> simp [Builtin.firstCells, loadCells, loadCellsFrom]
  have hst : ∀ a, (storeCells a ([] : List Value)).run P w = .ok () w := fun a => rfl
  cases A <;> simp [Builtin.append_, run_underlying ht, sizeOf, typeInfo, hi, Builtin.lenOf, hc, hf, hst]

theorem app_room (t ty e : TypeId) (i : TypeInfo) (size e0 : Nat) (ht : P.underlying t = some (.slice e)) (hi : P.info? e = some i) (hsize : i.size = size)
    (g n cap : Nat) (xs : List Value) (hown : w.ownsRow 0 e0 size (.slice (some ⟨g, 0, none⟩) n cap) n xs)
    (a : Addr) (m c : Nat) (news : List Value) (hl : news.length = m * size) (hnews : ∀ j u, news[j]? = some u → w.cell? (a.add j) = some u) (h1 : ∀ u ∈ news, u.oneCell' = true)
    (hroom : n + m ≤ cap) :
    ∃ w', (Builtin.append_ #[t, t] ty #[.slice (some ⟨g, 0, none⟩) n cap, .slice (some a) m c]).run P w = .ok (.slice (some ⟨g, 0, none⟩) (n + m) cap) w' ∧
      w'.ownsRow 0 e0 size (.slice (some ⟨g, 0, none⟩) (n + m) cap) (n + m) (xs ++ news) ∧ w.grownBy w' (some g) := by
  subst hsize
  rcases hown.2 with ⟨h, _⟩ | ⟨g', cap', cur, h, hbg, hg, hnc, hcm, hcs, htake⟩
  · simp at h
  · simp only [Value.slice.injEq, Option.some.injEq, Addr.mk.injEq, and_true, true_and] at h
    obtain ⟨rfl, rfl⟩ := h
    have hfit : n * i.size + news.length ≤ cur.size := by rw [hl, hcs, ← Nat.add_mul]; exact Nat.mul_le_mul_right _ hroom
    have hf := run_firstCells_some (P := P) w i.size m a m c news hl hnews
    have hst := run_storeCells_cells (P := P) g (n * i.size) news 0 w (fun j hj => by simp [World.cell?, hg]; omega) (fun j hj => by simp [World.frozen?, hg]) h1
    simp only [Nat.add_zero] at hst
    obtain ⟨e1, e2, e3, e4, e5, e6⟩ := heap_setCells w g news (n * i.size)
    obtain ⟨cs', e7, e8, e9⟩ := e6 cur e0 (0, 0) hg
    refine ⟨w.setCells g (n * i.size) news, ?_, ⟨by rw [List.length_append, hown.1, hl, Nat.add_mul], .inr ⟨g, cap, cs', rfl, hbg, e7, hroom, hcm, by rw [e8, hcs], ?_⟩⟩, ⟨e3, e4, e5, by omega, fun k hk hne => e2 k fun h => hne (by rw [h])⟩⟩
    · simp [Builtin.append_, run_underlying ht, sizeOf, typeInfo, hi, Builtin.lenOf, hroom, hf, Addr.add_lit, hst]
    · have hlx : xs.length = n * i.size := hown.1
      apply List.ext_getElem?
      intro q
      rw [List.getElem?_take]
      by_cases hq : q < (n + m) * i.size
      · rw [if_pos hq, Array.getElem?_toList, e9 q]
        rw [Nat.add_mul, ← hl] at hq
        by_cases hq2 : q < n * i.size
        · rw [if_neg (by omega), List.getElem?_append_left (by omega), ← htake, List.getElem?_take, if_pos hq2, Array.getElem?_toList]
        · rw [if_pos ⟨by omega, hq, by omega⟩, List.getElem?_append_right (by omega), hlx]
      · rw [if_neg hq, List.getElem?_eq_none]
        rw [List.length_append, hlx, hl, ← Nat.add_mul]; omega

theorem app_own (t ty e : TypeId) (i : TypeInfo) (z : Value) (size e0 : Nat) (ht : P.underlying t = some (.slice e)) (hi : P.info? e = some i) (hz : i.zero = some z)
    (hsize : i.size = size) (hzs : z.cells.size = size) (hsz : 0 < size) (v : Value) (n : Nat) (xs : List Value) (hown : w.ownsRow 0 e0 size v n xs)
    (a : Addr) (m c : Nat) (news : List Value) (hl : news.length = m * size) (hnews : ∀ j u, news[j]? = some u → w.cell? (a.add j) = some u) (h1 : ∀ u ∈ news, u.oneCell' = true)
    (h63 : n + m ≤ maxLen) (hbytes : (n + m) * i.bytes ≤ 140737488355328) :
    ∃ v' e1 w', (Builtin.append_ #[t, t] ty #[v, .slice (some a) m c]).run P w = .ok v' w' ∧ w'.ownsRow 0 e1 size v' (n + m) (xs ++ news) ∧ w.grownBy w' v.ownBlock ∧
      (∀ b, v'.ownBlock = some b → v.ownBlock = some b ∨ w.heap.size ≤ b) ∧ (e1 = e ∨ e1 = e0) := by
  rcases hown.2 with ⟨rfl, rfl⟩ | ⟨g, cap, cur, rfl, hbg, hg, hnc, hcm, hcs, htake⟩
  · have hown' : w.ownsRow w.heap.size e size (.slice none 0 0) 0 xs := ⟨hown.1, .inl ⟨rfl, rfl⟩⟩
    obtain ⟨v', w', h2, h3, h4, _⟩ := run_append_own (P := P) w w.heap.size t ty e i z size i.bytes ht hi hz hsize rfl hzs hsz _ 0 xs hown' a m c news hl hnews h1 h63 hbytes (Nat.le_refl _)
    refine ⟨v', e, w', h2, ⟨h3.1, ?_⟩, h4, fun b hb => .inr (h3.lt b hb).1, .inl rfl⟩
    rcases h3.2 with h | ⟨g, cap, cur, k1, k2, k3⟩
    · exact .inl h
    · exact .inr ⟨g, cap, cur, k1, Nat.zero_le _, k3⟩
  · by_cases hroom : n + m ≤ cap
    · obtain ⟨w', h2, h3, h4⟩ := app_room (P := P) w t ty e i size e0 ht hi hsize g n cap xs hown a m c news hl hnews h1 hroom
      exact ⟨_, e0, w', h2, h3, h4, fun b hb => .inl hb, .inr rfl⟩
    · subst hsize
      have hsmall : n + m ≤ 9223372036854775807 := by simp only [maxLen] at h63; omega
      have holds : ∀ j u, xs[j]? = some u → w.cell? ((⟨g, 0, none⟩ : Addr).add j) = some u := hown.cells (g := g) rfl
      have hr := run_append_grow (P := P) w t ty e i z ht hi hz ⟨g, 0, none⟩ n cap xs hown.1 holds a m c news hl hnews (by omega) (by omega) (growslice_fits (by omega) hbytes)
      have hge := grownCap_ge w (n + m) cap e
      have hcm : grownCap w (n + m) cap e ≤ maxLen := grownCap_le_maxLen w (n + m) cap e h63
      have hlen : (xs ++ news).length = (n + m) * i.size := by rw [List.length_append, hown.1, hl, Nat.add_mul]
      refine ⟨_, e, _, hr, ⟨hlen, .inr ⟨w.heap.size, _, _, rfl, Nat.zero_le _, heap_alloc_new w.drew _, hge, hcm, ?_, ?_⟩⟩, ⟨rfl, rfl, rfl, by simp, fun k hk _ => heap_alloc_old w.drew _ k hk⟩, fun b hb => .inr ?_, .inl rfl⟩
      · simp only [Array.size_append, List.size_toArray, size_zeroCells, hzs, hown.1, hl, ← Nat.add_mul]
        congr 1
        omega
      · simp only [Array.toList_append, List.append_assoc]
        rw [← List.append_assoc, ← hlen]
        exact List.take_left
      · simp [Value.ownBlock] at hb; omega
end

/-- The rows that a slice has in it. -/
def srcRows (σ : ASt) : V → Option (List (List V))
  | .im _ rows => some rows
  | .nilS => some []
  | .hd p L off len => match σ[p]? with
    | some (.arr .raw _ _) => none
    | some (.arr _ _ xs) => match Nat.beq xs.length L with
      | true => some ((xs.drop off).take len)
      | false => none
    | _ => none
  | _ => none

theorem src_val {S B : Nat → Prop} {ι : List Loc} {σ : ASt} {w : World} {x : V} {u : Value} {rows : List (List V)} (hm : Mem S B ι σ w) (h : Val S B (RefR ι σ) w x u) (hr : srcRows σ x = some rows) :
    ∃ (A : Option Addr) (cap esz : Nat) (vals : Nat → Nat → Value), u = .slice A rows.length cap ∧ rows.length ≤ cap ∧
      (rows ≠ [] → ∃ b off, A = some ⟨b, off, none⟩ ∧ b < w.heap.size ∧ (∀ row, row ∈ rows → row.length = esz) ∧
        ∀ (i j : Nat) (row : List V) (c : V), rows[i]? = some row → row[j]? = some c → w.cell? ⟨b, off + i * esz + j, none⟩ = some (vals i j)) ∧
      ∀ (i j : Nat) (row : List V) (c : V), rows[i]? = some row → row[j]? = some c → CV S w c (vals i j) ∧ (vals i j).oneCell' = true := by
  cases x with
  | im bor xs =>
    simp only [srcRows, Option.some.injEq] at hr
    subst hr
    obtain ⟨A, cap, esz, vals, h1, h2, h3, h4, h5⟩ := h.inv_im
    refine ⟨A, cap, esz, vals, h1, h2, fun hne => ?_, fun i j row c hi hj => ⟨h4 i j row c hi hj, (h4 i j row c hi hj).one (h5 i j row c hi hj)⟩⟩
    obtain ⟨b, off, k1, k2, _, _, k3, k4⟩ := h3 hne
    exact ⟨b, off, k1, hm.ltS b k2, k3, k4⟩
  | nilS =>
    simp only [srcRows, Option.some.injEq] at hr
    subst hr
    exact ⟨none, 0, 0, fun _ _ => undef, h.inv_nilS, Nat.le_refl _, fun h => absurd rfl h, fun i j row c hi => by simp at hi⟩
  | hd p L off len =>
    simp only [srcRows] at hr
    split at hr
    · cases hr
    · rename_i m size xs hnr hs
      split at hr
      · rename_i hL
        injection hr with hr
        subst hr
        have hL := Nat.eq_of_beq_eq_true hL
        obtain ⟨v, hι, hle, hz, hnz⟩ := RefR.hd (Val.inv_ref (v := .hd p L off len) rfl trivial h) hs hL
        obtain ⟨h0, e, vals, hown, ⟨hvl, hrl, hcv⟩, hone, _⟩ := hm.obj p _ _ hs hι
        have hlen : ((xs.drop off).take len).length = len := by simp; omega
        have hcv' : ∀ (i j : Nat) (row : List V) (c : V), ((xs.drop off).take len)[i]? = some row → row[j]? = some c →
            ∃ u, vals[(off + i) * size + j]? = some u ∧ CV S w c u ∧ u.oneCell' = true := fun i j row c hi hj => by
          rw [List.getElem?_take] at hi
          split at hi
          · rw [List.getElem?_drop] at hi
            obtain ⟨u, h1, h2⟩ := hcv _ j row c hi hj
            refine ⟨u, h1, ?_, hone u (List.mem_of_getElem? h1)⟩
            cases m with
            | raw => exact (hnr rfl).elim
            | clo => exact h2
            | tg t0 => exact h2
            | frz => exact h2
          · cases hi
        have rest : ∀ b, (∃ c, v = .slice (some ⟨b, 0, none⟩) L c) → (b < w.heap.size ∧ (∀ row, row ∈ (xs.drop off).take len → row.length = size) ∧
            ∀ (i j : Nat) (row : List V) (c : V), ((xs.drop off).take len)[i]? = some row → row[j]? = some c → w.cell? ⟨b, off * size + i * size + j, none⟩ = some (vals.getD ((off + i) * size + j) undef)) := fun b ⟨c, hv⟩ => by
          subst hv
          rw [hL] at hown
          refine ⟨ownsRow_lt hown rfl, fun row hrow => hrl row (List.mem_of_mem_drop (List.mem_of_mem_take hrow)), fun i j row c hi hj => ?_⟩
          obtain ⟨u, h1, _⟩ := hcv' i j row c hi hj
          rw [← Nat.add_mul, row_cell hown h1, List.getD_eq_getElem?_getD, h1]; rfl
        have vals2 : ∀ (i j : Nat) (row : List V) (c : V), ((xs.drop off).take len)[i]? = some row → row[j]? = some c →
            CV S w c (vals.getD ((off + i) * size + j) undef) ∧ (vals.getD ((off + i) * size + j) undef).oneCell' = true := fun i j row c hi hj => by
          obtain ⟨u, h1, h2, h3⟩ := hcv' i j row c hi hj
          rw [List.getD_eq_getElem?_getD, h1]; exact ⟨h2, h3⟩
        by_cases ho : off = 0
        · obtain ⟨A, c, hv, hu⟩ := hz ho
          refine ⟨A, c, size, fun i j => vals.getD ((off + i) * size + j) undef, by rw [hlen]; exact hu, ?_, fun hne => ?_, vals2⟩
          · rw [hlen]
            rcases hown.2 with ⟨h1, h2⟩ | ⟨g, cap, cur, h1, _, _, h2, _⟩
            · omega
            · rw [hv] at h1; injection h1 with _ _ h1; omega
          · have hlen0 : len ≠ 0 := fun h => hne (List.eq_nil_of_length_eq_zero (by rw [hlen, h]))
            obtain ⟨b, hA⟩ : ∃ b, A = some ⟨b, 0, none⟩ := by
              rcases hown.2 with ⟨h3, _⟩ | ⟨g, cap, cur, h3, _⟩
              · rw [hv] at h3; injection h3; omega
              · rw [hv] at h3; injection h3 with h3; exact ⟨g, h3⟩
            obtain ⟨k1, k2, k3⟩ := rest b ⟨c, by rw [hv, hA]⟩
            exact ⟨b, off * size, by rw [hA, ho]; simp, k1, k2, k3⟩
        · obtain ⟨b, c, A, c', hv, hu, hc', hA⟩ := hnz ho
          refine ⟨A, c', size, fun i j => vals.getD ((off + i) * size + j) undef, by rw [hlen]; exact hu, by rw [hlen]; exact hc'.1, fun hne => ?_, vals2⟩
          have hlen0 : len ≠ 0 := fun h => hne (List.eq_nil_of_length_eq_zero (by rw [hlen, h]))
          obtain ⟨k1, k2, k3⟩ := rest b ⟨c, hv⟩
          exact ⟨b, off * size, hA hlen0, k1, k2, k3⟩
      · cases hr
    · cases hr
  | _ => simp [srcRows] at hr

/-- Values row by row, in one list. -/
def flatV (m size : Nat) (f : Nat → Nat → Value) : List Value := (List.range (m * size)).map fun q => f (q / size) (q % size)
theorem flatV_length (m size : Nat) (f : Nat → Nat → Value) : (flatV m size f).length = m * size := by simp [flatV]
theorem flatV_get {m size : Nat} {f : Nat → Nat → Value} {i j : Nat} (hi : i < m) (hj : j < size) : (flatV m size f)[i * size + j]? = some (f i j) := by
  have h1 : i * size + j < m * size := by
    have : (i + 1) * size ≤ m * size := Nat.mul_le_mul_right _ hi
    rw [Nat.add_mul, Nat.one_mul] at this
    omega
  have h2 : (i * size + j) / size = i := by rw [Nat.mul_comm, Nat.mul_add_div (by omega), Nat.div_eq_of_lt hj]; rfl
  have h3 : (i * size + j) % size = j := by rw [Nat.mul_comm, Nat.mul_add_mod, Nat.mod_eq_of_lt hj]
  simp [flatV, List.getElem?_range h1, h2, h3]
theorem flatV_mem {m size : Nat} {f : Nat → Nat → Value} {u : Value} (h : u ∈ flatV m size f) : ∃ i j, i < m ∧ j < size ∧ u = f i j := by
  simp only [flatV, List.mem_map, List.mem_range] at h
  obtain ⟨q, hq, rfl⟩ := h
  have hs : 0 < size := by
    rcases Nat.eq_zero_or_pos size with h | h
    · subst h; simp at hq
    · exact h
  exact ⟨q / size, q % size, by rw [Nat.div_lt_iff_lt_mul hs]; exact hq, Nat.mod_lt _ hs, rfl⟩
theorem flatV_at {m size : Nat} {f : Nat → Nat → Value} {q : Nat} {u : Value} (h : (flatV m size f)[q]? = some u) : ∃ i j, i < m ∧ j < size ∧ q = i * size + j ∧ u = f i j := by
  have hq : q < m * size := by
    have := (List.getElem?_eq_some_iff.1 h).1
    rwa [flatV_length] at this
  have hs : 0 < size := by
    rcases Nat.eq_zero_or_pos size with h | h
    · subst h; simp at hq
    · exact h
  have hi : q / size < m := by rw [Nat.div_lt_iff_lt_mul hs]; exact hq
  have he : q = q / size * size + q % size := by rw [Nat.mul_comm]; exact (Nat.div_add_mod q size).symm
  refine ⟨q / size, q % size, hi, Nat.mod_lt _ hs, he, ?_⟩
  have := flatV_get (f := f) hi (Nat.mod_lt q hs)
  rw [← he, h] at this
  injection this

/-- A type that elements may have: its size, its bytes, its zero. -/
def TyE (P : Program) (t : TypeId) (sz : Nat) : Prop := ∃ i z, P.info? t = some i ∧ i.zero = some z ∧ i.size = sz ∧ z.cells.size = sz ∧ 0 < sz ∧ i.bytes ≤ 32768

section
variable {P : Program} {o : Oper} {fr : Fr} {σ : ASt}

/-- The references of a store in which an array has grown. -/
theorem RefR.grow {ι : List Loc} {a size : Nat} {m m' : Md} {xs ys : List (List V)} {l l' : Loc} (ha : σ[a]? = some (.arr m size xs)) (hl : ι[a]? = some l) (hv : ∃ v', l' = .row v')
    (hlen : xs.length ≤ ys.length) (heq : xs.length = ys.length → l' = l) {v : V} {u : Value} (h : RefR ι σ v u) : RefR (ι.set a l') (σ.set a (.arr m' size ys)) v u := by
  have hlt : a < σ.length := (List.getElem?_eq_some_iff.1 ha).1
  have hlt2 : a < ι.length := (List.getElem?_eq_some_iff.1 hl).1
  obtain ⟨v', rfl⟩ := hv
  have key : ∀ q, (q = a ∧ (σ.set a (.arr m' size ys))[q]? = some (.arr m' size ys) ∧ σ[q]? = some (.arr m size xs) ∧ (ι.set a (.row v'))[q]? = some (.row v') ∧ ι[q]? = some l) ∨
      ((σ.set a (.arr m' size ys))[q]? = σ[q]? ∧ (ι.set a (.row v'))[q]? = ι[q]?) := fun q => by
    by_cases hq : q = a
    · subst hq; exact .inl ⟨rfl, List.getElem?_set_self hlt, ha, List.getElem?_set_self hlt2, hl⟩
    · exact .inr ⟨List.getElem?_set_ne (Ne.symm hq), List.getElem?_set_ne (Ne.symm hq)⟩
  cases v with
  | hd q L off len =>
    rcases key q with ⟨rfl, h1, h2, h3, h4⟩ | ⟨h1, h2⟩
    · simp only [RefR, h2, h4] at h
      simp only [RefR, h1, h3]
      cases l with
      | row v0 =>
        simp only at h ⊢
        refine ⟨Nat.le_trans h.1 hlen, fun hL => ?_⟩
        have hL2 : xs.length = ys.length := by omega
        have := heq hL2
        injection this with this
        subst this
        exact h.2 (by omega)
      | _ => exact h.elim
    · simp only [RefR, h1, h2] at h ⊢; exact h
  | el q L i j =>
    rcases key q with ⟨rfl, h1, h2, h3, h4⟩ | ⟨h1, h2⟩
    · simp only [RefR, h2, h4] at h
      simp only [RefR, h1, h3]
      cases l with
      | row v0 =>
        simp only at h ⊢
        refine ⟨Nat.le_trans h.1 hlen, fun hL => ?_⟩
        have hL2 : xs.length = ys.length := by omega
        have := heq hL2
        injection this with this
        subst this
        exact h.2 (by omega)
      | _ => exact h.elim
    · simp only [RefR, h1, h2] at h ⊢; exact h
  | px q L k' j =>
    rcases key q with ⟨rfl, h1, h2, h3, h4⟩ | ⟨h1, h2⟩
    · simp only [RefR, h2, h4] at h
      simp only [RefR, h1, h3]
      cases l with
      | row v0 =>
        simp only at h ⊢
        refine ⟨Nat.le_trans h.1 hlen, fun hL => ?_⟩
        have hL2 : xs.length = ys.length := by omega
        have := heq hL2
        injection this with this
        subst this
        exact h.2 (by omega)
      | _ => exact h.elim
    · simp only [RefR, h1, h2] at h ⊢; exact h
  | bx q j =>
    rcases key q with ⟨rfl, h1, h2, h3, h4⟩ | ⟨h1, h2⟩
    · simp only [RefR, h2, h4] at h
    · simp only [RefR, h1, h2] at h ⊢; exact h
  | mp q =>
    rcases key q with ⟨rfl, h1, h2, h3, h4⟩ | ⟨h1, h2⟩
    · simp only [RefR, h2, h4] at h
    · simp only [RefR, h1, h2] at h ⊢; exact h
  | _ => exact h

/-- append to an array of the store, all of it. -/
theorem o_appendG {t e : TypeId} {x y : Operand} {p L sz : Nat} {m : Md} {xs rows : List (List V)} {s : V} (ho : o.op = .call { callee := .builtin .append, args := #[x, y], argTypes := #[t, t] }) (ht : P.underlying t = some (.slice e))
    (hte : TyE P e sz) (hx : evalE fr x = some (.hd p L 0 L)) (hy : evalE fr y = some s) (hs : σ[p]? = some (.arr m sz xs)) (hm0 : m ≠ .frz) (hmt : ∀ e', m = .tg e' → e = e') (hL : xs.length = L) (hsv : ∀ (S B : Nat → Prop) (ι : List Loc) (w : World) (u : Value), Mem S B ι σ w → Val S B (RefR ι σ) w s u → ∃ (A : Option Addr) (cap esz : Nat) (vals : Nat → Nat → Value), u = .slice A rows.length cap ∧ rows.length ≤ cap ∧
      (rows ≠ [] → ∃ b off, A = some ⟨b, off, none⟩ ∧ b < w.heap.size ∧ (∀ row, row ∈ rows → row.length = esz) ∧
        ∀ (i j : Nat) (row : List V) (c : V), rows[i]? = some row → row[j]? = some c → w.cell? ⟨b, off + i * esz + j, none⟩ = some (vals i j)) ∧
      ∀ (i j : Nat) (row : List V) (c : V), rows[i]? = some row → row[j]? = some c → (Val S B (RefR ι σ) w c (vals i j) ∧ (m ≠ .raw → CV S w c (vals i j))) ∧ (vals i j).oneCell' = true) (hrl : ∀ row, row ∈ rows → row.length = sz)
    (hb : L + rows.length ≤ 4294967296) : Does P o fr σ (.hd p (L + rows.length) 0 (L + rows.length)) (σ.set p (.arr m sz (xs ++ rows))) := fun S B ι a w he hm next Q hk => by
  obtain ⟨i, z, hi, hz, hsz, hzs, hpos, hby⟩ := hte
  have hvx := he x (by simp [ho, Op.operands, Call.operands]) _ hx
  have hvy := he y (by simp [ho, Op.operands, Call.operands]) _ hy
  obtain ⟨v, hι, _, hz0, _⟩ := RefR.hd (Val.inv_ref (v := .hd p L 0 L) rfl trivial hvx) hs hL
  obtain ⟨A0, c0, hv, hu⟩ := hz0 rfl
  rw [← hv] at hu
  obtain ⟨h0, e0, vals, hown, ⟨hvl, hrl0, hcv0⟩, hone0, hfz⟩ := hm.obj p _ _ hs hι
  obtain ⟨A, cap, esz, f, hus, hcap, hsrc, hcv⟩ := hsv S B ι w _ hm hvy
  rw [hL] at hown
  have hlt : p < σ.length := (List.getElem?_eq_some_iff.1 hs).1
  have hltι : p < ι.length := (List.getElem?_eq_some_iff.1 hι).1
  -- the run
  have hrun : ∃ v' e1 w', (Builtin.append_ #[t, t] o.type #[v, .slice A rows.length cap]).run P w = .ok v' w' ∧ w'.ownsRow 0 e1 sz v' (L + rows.length) (vals ++ flatV rows.length sz f) ∧ w.grownBy w' v.ownBlock ∧
      (∀ b, v'.ownBlock = some b → v.ownBlock = some b ∨ w.heap.size ≤ b) ∧ (rows.length = 0 → v' = v) ∧ (e1 = e ∨ e1 = e0) := by
    by_cases hr0 : rows = []
    · subst hr0
      have hc : L ≤ c0 := by
        rcases hown.2 with ⟨h1, h2⟩ | ⟨g, cap', cur, h1, _, _, h2, _⟩
        · omega
        · rw [hv] at h1; injection h1 with _ _ h1; omega
      have := app_zero (P := P) w t o.type e i ht hi A0 A L c0 cap hc
      refine ⟨v, e0, w, by rw [hv]; exact this, by simpa [flatV] using hown, ⟨rfl, rfl, rfl, Nat.le_refl _, fun _ _ _ => rfl⟩, fun b hb => .inl hb, fun _ => rfl, .inr rfl⟩
    · obtain ⟨b, off, rfl, hblt, hsame, hcell⟩ := hsrc hr0
      have hes : esz = sz := by
        cases hrr : rows with
        | nil => exact absurd hrr hr0
        | cons r0 rest => rw [← hsame r0 (by simp [hrr]), hrl r0 (by simp [hrr])]
      subst hes
      have hrow : ∀ i, i < rows.length → ∃ row, rows[i]? = some row ∧ row.length = esz := fun i hi => ⟨rows[i], by simp [hi], hrl _ (by simp)⟩
      obtain ⟨v', e1, w', k1, k2, k3, k4, k6⟩ := app_own (P := P) w t o.type e i z esz e0 ht hi hz hsz hzs hpos v L vals hown ⟨b, off, none⟩ rows.length cap (flatV rows.length esz f) (flatV_length _ _ _)
        (fun j u hj => by
          obtain ⟨i', j', h1, h2, rfl, rfl⟩ := flatV_at hj
          obtain ⟨row, h3, h4⟩ := hrow i' h1
          rw [Addr.add_mid, ← Nat.add_assoc]
          exact hcell i' j' row row[j'] h3 (by simp))
        (fun u hu => by
          obtain ⟨i', j', h1, h2, rfl⟩ := flatV_mem hu
          obtain ⟨row, h3, h4⟩ := hrow i' h1
          exact (hcv i' j' row row[j'] h3 (by simp)).2)
        (by simp only [maxLen]; omega) (by
          have : (L + rows.length) * i.bytes ≤ 4294967296 * 32768 := Nat.mul_le_mul hb hby
          omega)
      exact ⟨v', e1, w', k1, k2, k3, k4, fun h => absurd (List.eq_nil_of_length_eq_zero h) hr0, k6⟩
  obtain ⟨v', e1, w', k1, k2, k3, k4, k5, k6⟩ := hrun
  have hlive : ∀ q, live (.arr m sz xs) (.row v) q = (v.ownBlock = some q) := fun q => by cases m <;> first | exact absurd rfl hm0 | rfl
  have hlive' : ∀ q, live (.arr m sz (xs ++ rows)) (.row v') q = (v'.ownBlock = some q) := fun q => by cases m <;> first | exact absurd rfl hm0 | rfl
  have hkeep : ∀ q, q < w.heap.size → v.ownBlock ≠ some q → w'.heap[q]? = w.heap[q]? := fun q hq hne => k3.block q hq fun h => hne h.symm
  have same : ∀ q, S q ∨ B q → w'.heap[q]? = w.heap[q]? := fun q hq => hkeep q (hm.ltS q hq) fun h => hm.outS p _ _ q hs hι (by rw [hlive]; exact h) hq
  have href : ∀ v0 u, RefR ι σ v0 u → RefR (ι.set p (.row v')) (σ.set p (.arr m sz (xs ++ rows))) v0 u := fun _ _ h =>
    h.grow hs hι ⟨v', rfl⟩ (by simp) fun h => by rw [k5 (by simp at h; exact List.length_eq_zero_iff.2 h)]
  have hstep := hm.step (o' := .arr m sz (xs ++ rows)) (l' := .row v') (S' := S) (w' := w') hs hι k3.os k3.tape k3.output k3.size (fun q hq hne => hkeep q hq fun h => hne (by rw [hlive]; exact h)) (fun _ h => h) (fun _ h => .inl h)
    (fun q hq => Nat.lt_of_lt_of_le (hm.ltS q (.inl hq)) k3.size) href
    (by
      refine ⟨h0, e1, vals ++ flatV rows.length sz f, by simpa [hL] using k2, ⟨by rw [List.length_append, hvl, flatV_length, List.length_append, Nat.add_mul], fun row hrow => ?_, fun i j row c hi hj => ?_⟩, fun u hu => ?_, fun h => absurd h hm0, fun e' he' => by rcases k6 with h | h <;> rw [h]; exact hmt e' he'; exact hfz.2 e' he'⟩
      · rcases List.mem_append.1 hrow with h | h
        · exact hrl0 row h
        · exact hrl row h
      · by_cases hil : i < xs.length
        · rw [List.getElem?_append_left hil] at hi
          obtain ⟨u, h5, h6⟩ := hcv0 i j row c hi hj
          refine ⟨u, by rw [List.getElem?_append_left (List.getElem?_eq_some_iff.1 h5).1]; exact h5, ?_⟩
          cases m with
          | raw => exact Val.mono h6 (fun _ h => h) (fun _ h => h) href same
          | clo => exact CV.mono h6 (fun _ h => h) fun q hq => same q (.inl hq)
          | tg t0 => exact CV.mono h6 (fun _ h => h) fun q hq => same q (.inl hq)
          | frz => exact absurd rfl hm0
        · rw [List.getElem?_append_right (by omega)] at hi
          have h5 := hcv (i - xs.length) j row c hi hj
          have hj2 : j < sz := by rw [← hrl row (List.mem_of_getElem? hi)]; exact (List.getElem?_eq_some_iff.1 hj).1
          have hi2 : i - xs.length < rows.length := (List.getElem?_eq_some_iff.1 hi).1
          refine ⟨f (i - xs.length) j, ?_, ?_⟩
          · have hix : i * sz = xs.length * sz + (i - xs.length) * sz := by rw [← Nat.add_mul]; congr 1; omega
            rw [List.getElem?_append_right (by rw [hvl]; have := Nat.mul_le_mul_right sz (show xs.length ≤ i by omega); omega), hvl, hix, show xs.length * sz + (i - xs.length) * sz + j - xs.length * sz = (i - xs.length) * sz + j by omega]
            exact flatV_get hi2 hj2
          · cases m with
            | raw => exact h5.1.1.mono (fun _ h => h) (fun _ h => h) href same
            | clo => exact (h5.1.2 (fun h => by cases h)).mono (fun _ h => h) fun q hq => same q (.inl hq)
            | tg t0 => exact (h5.1.2 (fun h => by cases h)).mono (fun _ h => h) fun q hq => same q (.inl hq)
            | frz => exact absurd rfl hm0
      · rcases List.mem_append.1 hu with h | h
        · exact hone0 u h
        · obtain ⟨i', j', h1, h2, rfl⟩ := flatV_mem h
          have h3 : rows[i'].length = sz := hrl _ (List.getElem_mem h1)
          exact (hcv i' j' rows[i'] (rows[i'][j']'(by omega)) (by simp) (by simp)).2)
    (fun q hq => by rw [hlive'] at hq; rw [hlive]; exact ⟨k4 q hq, fun hS => by
      rcases k4 q hq with h | h
      · exact hm.outS p _ _ q hs hι (by rw [hlive]; exact h) (.inl hS)
      · have := hm.ltS q (.inl hS); omega⟩)
  unfold Oper.wp
  have hr2 : (execOp a.eval o).run P w = .ok (.value v') w' := by
    simp only [execOp, ho, resolve, invoke, builtin, Sem.run_bind, Sem.run_pure, Result.andThen_ok, List.map_toArray, List.map_cons, List.map_nil, hu, hus, k1]
  rw [hr2]
  refine hk v' S _ w' (.ref _ _ ?_) hstep.1 hstep.2
  have hv'' : ∃ A' c', v' = .slice A' (L + rows.length) c' := by
    rcases k2.2 with ⟨h1, h2⟩ | ⟨g, cap', cur, h1, _⟩
    · exact ⟨none, 0, by rw [h1, h2]⟩
    · exact ⟨_, _, h1⟩
  simp only [RefR, List.getElem?_set_self hlt, List.getElem?_set_self hltι]
  refine ⟨by simp [hL], fun _ => ⟨by omega, fun _ => ?_, fun h => absurd rfl h⟩⟩
  obtain ⟨A', c', h⟩ := hv''
  exact ⟨A', c', h, h⟩

/-- append to an array of the store, all of it. -/
theorem o_append {t e : TypeId} {x y : Operand} {p L sz : Nat} {m : Md} {xs rows : List (List V)} {s : V} (ho : o.op = .call { callee := .builtin .append, args := #[x, y], argTypes := #[t, t] }) (ht : P.underlying t = some (.slice e))
    (hte : TyE P e sz) (hx : evalE fr x = some (.hd p L 0 L)) (hy : evalE fr y = some s) (hs : σ[p]? = some (.arr m sz xs)) (hm0 : m ≠ .frz) (hmt : ∀ e', m = .tg e' → e = e') (hL : xs.length = L) (hr : srcRows σ s = some rows) (hrl : ∀ row, row ∈ rows → row.length = sz)
    (hb : L + rows.length ≤ 4294967296) : Does P o fr σ (.hd p (L + rows.length) 0 (L + rows.length)) (σ.set p (.arr m sz (xs ++ rows))) :=
  o_appendG ho ht hte hx hy hs hm0 hmt hL (fun S B ι w u hm hv => by
    obtain ⟨A, cap, esz, f, h1, h2, h3, h4⟩ := src_val hm hv hr
    exact ⟨A, cap, esz, f, h1, h2, h3, fun i j row c hi hj => ⟨⟨.cv _ _ (h4 i j row c hi hj).1, fun _ => (h4 i j row c hi hj).1⟩, (h4 i j row c hi hj).2⟩⟩) hrl hb

end
end Go.G36
