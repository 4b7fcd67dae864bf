/- An own array sorted by the library (slices.SortFunc). -/
import Derived.Test.YtmlfbendohecmaaKzq
import Derived.Shelf.SlSortCmp.NoneTotal
namespace Go.G36
variable [Genv]
set_option linter.all false
open Go Go.Sort Go.Proofs

def sortO {α : Type} (le : α → α → Bool) (xs : List α) : Option (List α) := if xs.length < 4611686018427387904 then some (xs.mergeSort le) else none
theorem sortO_s {α : Type} {le : α → α → Bool} {xs ys : List α} (h : sortO le xs = some ys) : xs.length < 4611686018427387904 ∧ ys = xs.mergeSort le := by
  unfold sortO at h
  split at h
  · rename_i h1; exact ⟨h1, (Option.some.inj h).symm⟩
  · cases h
theorem sortO_len {α : Type} {le : α → α → Bool} {xs ys : List α} (h : sortO le xs = some ys) : ys.length = xs.length := by
  obtain ⟨_, rfl⟩ := sortO_s h
  exact List.length_mergeSort _

/-- The cells of a list of rows. -/
theorem flatK_get {α : Type} [Inhabited α] {enc : α → List Value} {k : Nat} (hk : ∀ x, (enc x).length = k) (d : Array α) (i j : Nat) (hi : i < d.size) (hj : j < k) :
    (flatK enc k d)[i * k + j]? = (enc d[i]!)[j]? := by
  have lt : i * k + j < d.size * k := by
    have := Nat.mul_le_mul_right k (show i + 1 ≤ d.size from hi); rw [Nat.add_mul, Nat.one_mul] at this; omega
  have e1 : (i * k + j) / k = i := (blk_iff k i _ (by omega)).1 ⟨by omega, by omega⟩
  have e2 : (i * k + j) % k = j := by rw [Nat.mod_eq_sub_div_mul, e1]; omega
  have h1 := get_flatK enc k d (i * k + j) lt
  rw [e1, e2] at h1
  have hs : i * k + j < (flatK enc k d).size := by rw [size_flatK]; exact lt
  have hl : j < (enc d[i]!).length := by rw [hk]; exact hj
  rw [Array.getElem?_eq_getElem hs, List.getElem?_eq_getElem hl]
  rw [getElem!_pos (flatK enc k d) (i * k + j) hs, getElem!_pos (enc d[i]!) j hl] at h1
  rw [h1]

theorem heap_sortK {α : Type} [Inhabited α] {enc : α → List Value} {k : Nat} {w : World} {g n : Nat} {os : Array Obj} {cur : Array Value} {e : TypeId} {fr : Nat × Nat} (d : Array α) (hb : w.heap[g]? = some (.cells cur e fr)) :
    (sortWorldK enc k w g 0 n d os).heap[g]? = some (.cells (putCells id 0 (flatK enc k d) cur) e fr) := by
  have hg : g < w.heap.size := (Array.getElem?_eq_some_iff.1 hb).1
  unfold sortWorldK
  rw [heap_grow_old _ _ (by simpa [putRowK] using hg)]
  simp [putRowK, putRow, mapBlock, Sort.ahead, Array.getElem?_modify, hb, onCells]

theorem heap_sortK_other {α : Type} [Inhabited α] {enc : α → List Value} {k : Nat} {w : World} {g n : Nat} {os : Array Obj} (d : Array α) {b : Nat} (hb : b < w.heap.size) (hne : g ≠ b) :
    (sortWorldK enc k w g 0 n d os).heap[b]? = w.heap[b]? := by
  unfold sortWorldK
  rw [heap_grow_old _ _ (by simpa [putRowK] using hb)]
  simp [putRowK, putRow, mapBlock, Sort.ahead, Array.getElem?_modify, hne]

theorem take_putK (cur F : Array Value) (n : Nat) (hn : F.size = n) (h : n ≤ cur.size) : (putCells id 0 F cur).toList.take n = F.toList := by
  apply List.ext_getElem?
  intro j
  by_cases hj : j < n
  · rw [List.getElem?_take_of_lt hj, Array.getElem?_toList, Array.getElem?_toList]
    have h1 : j < cur.size := by omega
    have h2 : j < F.size := by omega
    simp [putCells, hn, hj, h1, h2, id]
  · rw [List.getElem?_take_eq_none (by omega), List.getElem?_eq_none (by simp; omega)]

/-- What a row's cells are, of closed elements that their cells tell. -/
structure EncK {α : Type} (f : α → List V) (enc : α → List Value) (k : Nat) : Prop where
  flen : ∀ x, (f x).length = k
  len : ∀ x, (enc x).length = k
  one : ∀ x, ∀ v ∈ enc x, v.oneCell' = true
  to : ∀ (S : Nat → Prop) (w : World) x (j : Nat) (c : V) (u : Value), (f x)[j]? = some c → (enc x)[j]? = some u → CV S w c u
  of : ∀ (S : Nat → Prop) (w : World) x (j : Nat) (c : V) (u : Value), (f x)[j]? = some c → CV S w c u → (enc x)[j]? = some u

section
variable {P : Program} {o : Oper} {fr : Fr} {σ : ASt}

theorem o_sortF {α : Type} [Inhabited α] {f : α → List V} {enc : α → List Value} {le : α → α → Bool} {k fid g p L : Nat} {xs ys : List α} {x y z : Operand} {ts : Array TypeId} (hE : EncK f enc k)
    (hC : ∀ (blk cap : Nat) (d : Array α) (w : World), HoldsK enc k w blk 0 d → blk < w.heap.size → d.size < 4611686018427387904 →
      Calls P fid #[.slice (some ⟨blk, 0, none⟩) d.size cap, .func (.func g) #[] #[]] w fun e w' => e = .returned (.tuple #[]) ∧ ∃ n os, w' = sortWorldK enc k w blk 0 n (d.toList.mergeSort le).toArray os)
    (hN : ∀ (A : Option Addr) (cap : Nat) (w : World), Calls P fid #[.slice A 0 cap, .func (.func g) #[] #[]] w fun e w' => e = .returned (.tuple #[]) ∧ w' = w)
    (ho : o.op = .call { callee := .value z, args := #[x, y], argTypes := ts }) (hcall : ∀ (us : Array Value) (w : World), (callFunc fid us).run P w = .ok (.enter fid us) w) (hz : evalE fr z = some (.fn fid [] []))
    (hx : evalE fr x = some (.hd p L 0 L)) (hy : evalE fr y = some (.fn g [] [])) (hσ : σ[p]? = some (.arr .clo k (xs.map f))) (hL : (xs.map f).length = L) (h : sortO le xs = some ys) :
    Does P o fr σ .any (σ.set p (.arr .clo k (ys.map f))) := fun S B ι a w he hm next Q hk => by
  obtain ⟨us, h1, h2⟩ := call_run (vs := [.hd p L 0 L, .fn g [] []]) ho hcall he hz (by simp [evalL, hx, hy])
  obtain ⟨us1, us2, rfl⟩ : ∃ a b, us = #[a, b] := by
    have := h2.1
    simp at this
    exact ⟨us[0], us[1], by apply Array.ext <;> simp [← this]; intro i hi _; rcases i with _ | _ | i <;> first | rfl | omega⟩
  have e1 := h2.2 0 (.hd p L 0 L) us1 rfl rfl
  have e2 := h2.2 1 (.fn g [] []) us2 rfl rfl
  obtain ⟨u1, u2, rfl, f1, f2, _⟩ := e2.inv_fn
  obtain rfl : u1 = #[] := Array.eq_empty_of_size_eq_zero (by simpa using f1.symm)
  obtain rfl : u2 = #[] := Array.eq_empty_of_size_eq_zero (by simpa using f2.symm)
  obtain ⟨v, hι, hle, hz0, _⟩ := RefR.hd (Val.inv_ref (v := .hd p L 0 L) rfl trivial e1) hσ hL
  obtain ⟨A, c, rfl, rfl⟩ := hz0 rfl
  have hL2 : xs.length = L := by simpa using hL
  obtain ⟨h0, e, vals, hown, ⟨hvl, hrl, hcv⟩, hone, htg⟩ := hm.obj p _ _ hσ hι
  obtain ⟨hlim, rfl⟩ := sortO_s h
  unfold Oper.wp
  rw [h1]
  by_cases hL0 : L = 0
  · have hxs : xs = [] := List.eq_nil_of_length_eq_zero (by omega)
    subst hxs
    subst hL0
    simp only [List.mergeSort_nil] at hk
    rw [set_same hσ] at hk
    refine (hN A c w).mono ?_
    rintro e' w' ⟨rfl, rfl⟩
    exact hk _ S ι _ (.any _) hm (Fw.refl _ _ _ _)
  · rw [hL] at hown
    obtain ⟨b, cap, cur, q1, r1, r2, r3, r4, r5, r6⟩ : ∃ g cap cur, (Value.slice A L c) = .slice (some ⟨g, 0, none⟩) L cap ∧ 0 ≤ g ∧ w.heap[g]? = some (.cells cur e (0, 0)) ∧ L ≤ cap ∧ cap ≤ maxLen ∧ cur.size = cap * k ∧ cur.toList.take (L * k) = vals := by
      rcases hown.2 with ⟨h3, h4⟩ | h3
      · exact absurd h4 hL0
      · exact h3
    injection q1 with q1 _ q3
    subst q1; subst q3
    have hLk : L * k ≤ c * k := Nat.mul_le_mul_right _ r3
    have vget : ∀ t, t < L * k → cur[t]? = vals[t]? := fun t ht => by rw [← r6, List.getElem?_take_of_lt ht, Array.getElem?_toList]
    have hF : ∀ t, t < L * k → vals[t]? = (flatK enc k xs.toArray)[t]? := fun t ht => by
      have hk0 : 0 < k := h0
      have ht1 : t / k < L := Nat.div_lt_of_lt_mul (by rw [Nat.mul_comm]; exact ht)
      have ht2 : t % k < k := Nat.mod_lt _ hk0
      have ht3 : t / k * k + t % k = t := by rw [Nat.mul_comm]; exact Nat.div_add_mod t k
      have hxi : t / k < xs.length := by omega
      have hci : t % k < (f xs[t / k]).length := by rw [hE.flen]; exact ht2
      obtain ⟨u, g1, g2⟩ := hcv (t / k) (t % k) (f xs[t / k]) ((f xs[t / k])[t % k]) (by simp [hxi]) (by simp)
      rw [ht3] at g1
      have := hE.of S w xs[t / k] (t % k) _ u (List.getElem?_eq_getElem hci) g2
      rw [g1, ← ht3, flatK_get hE.len _ _ _ (by simpa using hxi) ht2]
      simp [hxi, this]
    have hH : HoldsK enc k w b 0 xs.toArray := fun t ht => by
      rw [size_flatK] at ht
      have ht' : t < L * k := by simpa [hL2] using ht
      refine ⟨?_, by simp [World.frozen?, r2]⟩
      have hs : t < (flatK enc k xs.toArray).size := by rw [size_flatK]; exact ht
      rw [getElem!_pos (flatK enc k xs.toArray) t hs, Nat.zero_add]
      simp only [World.cell?, r2, Option.isSome_none, Bool.false_eq_true, if_false, id]
      rw [vget t ht', hF t ht', Array.getElem?_eq_getElem hs]
    have hcall2 := hC b c xs.toArray w hH (Array.getElem?_eq_some_iff.1 r2).1 (by simpa using hlim)
    have hsz : xs.toArray.size = L := by simp [hL2]
    rw [hsz] at hcall2
    refine hcall2.mono ?_
    rintro e' w' ⟨rfl, n, os, rfl⟩
    have hd : xs.toArray.toList = xs := rfl
    rw [hd]
    have hyl : (xs.mergeSort le).length = L := by rw [List.length_mergeSort, hL2]
    have hfs : (flatK enc k (xs.mergeSort le).toArray).size = L * k := by rw [size_flatK]; simp [hyl]
    have hheap := heap_sortK (enc := enc) (k := k) (n := n) (os := os) (xs.mergeSort le).toArray r2
    obtain ⟨m1, m2⟩ := hm.rewrite (w' := sortWorldK enc k w b 0 n (xs.mergeSort le).toArray os) (ys := (xs.mergeSort le).map f) hσ hι (by simp [hyl, hL2]) rfl rfl rfl (by simp [sortWorldK, putRowK, putRow, mapBlock, Sort.ahead, grow])
      (fun q hq hne => heap_sortK_other _ hq fun h => hne (by rw [h]; rfl))
      ⟨e, (flatK enc k (xs.mergeSort le).toArray).toList, ⟨by simp [hfs, hyl], .inr ⟨b, c, _, by simp [hyl], r1, hheap, by simp [hyl]; omega, r4, by simp [putCells, r5], by
          simp only [List.length_map, hyl]
          exact take_putK _ _ _ hfs (by omega)⟩⟩,
        ⟨by simp [hfs, hyl], fun row hr => (by obtain ⟨x0, _, rfl⟩ := List.mem_map.1 hr; exact hE.flen x0), fun i j row cc hi hj => by
          rw [List.getElem?_map] at hi
          cases hx0 : (xs.mergeSort le)[i]? with
          | none => rw [hx0] at hi; cases hi
          | some x0 =>
            rw [hx0] at hi
            injection hi with hi; subst hi
            have hjk : j < k := by rw [← hE.flen x0]; exact (List.getElem?_eq_some_iff.1 hj).1
            have hjl : j < (enc x0).length := by rw [hE.len]; exact hjk
            obtain ⟨hil, hix⟩ := List.getElem?_eq_some_iff.1 hx0
            refine ⟨(enc x0)[j], ?_, hE.to S _ x0 j cc _ hj (List.getElem?_eq_getElem hjl)⟩
            rw [Array.getElem?_toList, flatK_get hE.len _ _ _ (by simpa using hil) hjk]
            have : (xs.mergeSort le).toArray[i]! = x0 := by
              have hil2 : i < (xs.mergeSort le).toArray.size := by simpa using hil
              rw [getElem!_pos (xs.mergeSort le).toArray i hil2]
              exact hix
            rw [this, List.getElem?_eq_getElem hjl]⟩,
        fun u hu => by
          obtain ⟨t, ht, rfl⟩ := List.mem_iff_getElem.1 hu
          have ht' : t < L * k := by simpa [hfs] using ht
          have hk0 : 0 < k := h0
          have ht1 : t / k < L := Nat.div_lt_of_lt_mul (by rw [Nat.mul_comm]; exact ht')
          have ht2 : t % k < k := Nat.mod_lt _ hk0
          have ht3 : t / k * k + t % k = t := by rw [Nat.mul_comm]; exact Nat.div_add_mod t k
          have := flatK_get hE.len (xs.mergeSort le).toArray (t / k) (t % k) (by simp [hyl, ht1]) ht2
          rw [ht3, ← Array.getElem?_toList, List.getElem?_eq_getElem ht] at this
          exact hE.one _ _ (List.mem_of_getElem? this.symm)⟩
    exact hk _ S ι _ (.any _) m1 m2
end
end Go.G36
