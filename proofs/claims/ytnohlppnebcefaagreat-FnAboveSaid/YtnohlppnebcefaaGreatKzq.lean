/- An array rewritten as a whole; parts of an own array: read, cleared; an own array cut short. -/
import Derived.Test.YtnohlppnebcefaaGreatKzp
namespace Go.G36
variable [Genv]
set_option linter.all false
open Go

section
variable {S B : Nat → Prop} {ι : List Loc} {σ : ASt} {w : World}

theorem arr_at {p sz : Nat} {m : Md} {xs : List (List V)} (hm : Mem S B ι σ w) (hp : σ[p]? = some (.arr m sz xs)) : ∃ v, ι[p]? = some (.row v) ∧ ObjRep S B (RefR ι σ) w (.arr m sz xs) (.row v) := by
  have hlt : p < ι.length := by rw [hm.len]; exact (List.getElem?_eq_some_iff.1 hp).1
  have hι : ι[p]? = some ι[p] := by simp [hlt]
  have hobj := hm.obj p _ _ hp hι
  generalize ι[p] = l at hι hobj
  cases l with
  | row v => exact ⟨v, hι, hobj⟩
  | box b e => exact hobj.elim
  | map r => exact hobj.elim
  | it r9 m9 => exact hobj.elim
  | fam bs => exact hobj.elim
  | afm vs => exact hobj.elim

/-- An array of the store is rewritten as a whole where it lies. -/
theorem Mem.rewrite {p sz : Nat} {xs ys : List (List V)} {v : Value} {w' : World} (hm : Mem S B ι σ w) (hp : σ[p]? = some (.arr .clo sz xs)) (hpl : ι[p]? = some (.row v)) (hl : ys.length = xs.length)
    (os : w'.os = w.os) (tape : w'.tape = w.tape) (output : w'.output = w.output) (size : w.heap.size ≤ w'.heap.size)
    (hk : ∀ b, b < w.heap.size → v.ownBlock ≠ some b → w'.heap[b]? = w.heap[b]?)
    (hown : ∃ e vals, w'.ownsRow 0 e sz v ys.length vals ∧ RowsV (CV S w') sz ys vals ∧ ∀ u, u ∈ vals → u.oneCell' = true) :
    Mem S B ι (σ.set p (.arr .clo sz ys)) w' ∧ Fw S ι σ w S ι (σ.set p (.arr .clo sz ys)) w' := by
  obtain ⟨h0, _⟩ := hm.obj p _ _ hp hpl
  obtain ⟨e, vals, g1, g2, g3⟩ := hown
  have hstep := hm.step (o' := .arr .clo sz ys) (l' := .row v) (S' := S) (w' := w') hp hpl os tape output size (fun b hb hn => hk b hb fun h => hn h) (fun _ h => h) (fun _ h => .inl h)
    (fun b hb => Nat.lt_of_lt_of_le (hm.ltS b (.inl hb)) size) (fun _ _ h => h.set (o' := .arr .clo sz ys) hp hpl ⟨rfl, hl.symm⟩)
    ⟨h0, e, vals, g1, g2, g3, (fun h => by cases h), fun _ h => by cases h⟩
    (fun b hb => ⟨.inl hb, fun hS => hm.outS p _ _ b hp hpl hb (.inl hS)⟩)
  rw [set_same hpl] at hstep
  exact hstep
end

section
variable {P : Program} {o : Oper} {fr : Fr} {σ : ASt}

end

section
variable {S B : Nat → Prop} {ι : List Loc} {σ : ASt} {w : World}

/-- The references of a store in which an array is given up and an object is laid behind. -/
theorem RefR.gone {p sz : Nat} {m : Md} {xs : List (List V)} {o : AO} {l : Loc} (hlen : ι.length = σ.length) (hp : σ[p]? = some (.arr m sz xs)) {x : V} {u : Value} (h : RefR ι σ x u) : RefR (ι ++ [l]) (σ.set p .dead ++ [o]) x u := by
  obtain ⟨l0, hl0⟩ : ∃ l, ι[p]? = some l := by
    have : p < ι.length := by rw [hlen]; exact (List.getElem?_eq_some_iff.1 hp).1
    exact ⟨ι[p], by simp [this]⟩
  have := RefR.append (ι := ι.set p l0) (σ := σ.set p .dead) (by simp [hlen]) [l] [o] (h.set hp hl0 (o' := .dead) trivial)
  rwa [set_same hl0] at this

/-- An own array cut short: a new object; what named the old one names nothing. -/
theorem Mem.cut {p sz k : Nat} {xs : List (List V)} {A : Option Addr} {L c : Nat} (hm : Mem S B ι σ w) (hp : σ[p]? = some (.arr .clo sz xs)) (hpl : ι[p]? = some (.row (.slice A L c))) (hk : k ≤ xs.length) :
    Mem S B (ι ++ [.row (.slice A k c)]) (σ.set p .dead ++ [.arr .clo sz (xs.take k)]) w ∧ Fw S ι σ w S (ι ++ [.row (.slice A k c)]) (σ.set p .dead ++ [.arr .clo sz (xs.take k)]) w := by
  obtain ⟨h0, e, vals, hown, ⟨hvl, hrl, hcv⟩, hone, htg⟩ := hm.obj p _ _ hp hpl
  have hpl' : p < σ.length := (List.getElem?_eq_some_iff.1 hp).1
  have href : ∀ x u, RefR ι σ x u → RefR (ι ++ [.row (.slice A k c)]) (σ.set p .dead ++ [.arr .clo sz (xs.take k)]) x u := fun x u h => h.gone hm.len hp
  have hlk : (xs.take k).length = k := by simp; omega
  have split : ∀ (q : Nat) (o2 : AO) (l2 : Loc), (σ.set p .dead ++ [.arr .clo sz (xs.take k)])[q]? = some o2 → (ι ++ [Loc.row (.slice A k c)])[q]? = some l2 →
      (q ≠ p ∧ σ[q]? = some o2 ∧ ι[q]? = some l2) ∨ (q = p ∧ o2 = .dead) ∨ (q = σ.length ∧ o2 = .arr .clo sz (xs.take k) ∧ l2 = .row (.slice A k c)) := fun q o2 l2 h1 h2 => by
    rcases Nat.lt_trichotomy q σ.length with h | h | h
    · rw [List.getElem?_append_left (by simpa using h)] at h1
      rw [List.getElem?_append_left (by rw [hm.len]; exact h)] at h2
      by_cases hq : q = p
      · subst hq
        rw [List.getElem?_set_self hpl'] at h1
        injection h1 with h1
        exact .inr (.inl ⟨rfl, h1.symm⟩)
      · rw [List.getElem?_set_ne (Ne.symm hq)] at h1
        exact .inl ⟨hq, h1, h2⟩
    · subst h
      rw [List.getElem?_append_right (by simp)] at h1
      rw [List.getElem?_append_right (by rw [hm.len]; exact Nat.le_refl _)] at h2
      simp [hm.len] at h1 h2
      exact .inr (.inr ⟨rfl, h1.symm, h2.symm⟩)
    · rw [List.getElem?_eq_none (by simp; omega)] at h1; cases h1
  have hlv : ∀ (q : Nat) (o2 : AO) (l2 : Loc) (b : Nat), (σ.set p .dead ++ [.arr .clo sz (xs.take k)])[q]? = some o2 → (ι ++ [Loc.row (.slice A k c)])[q]? = some l2 → live o2 l2 b →
      ∃ q0 o0 l0, σ[q0]? = some o0 ∧ ι[q0]? = some l0 ∧ live o0 l0 b ∧ ((q = q0 ∧ q ≠ p) ∨ (q = σ.length ∧ q0 = p)) := fun q o2 l2 b h1 h2 h3 => by
    rcases split q o2 l2 h1 h2 with ⟨k1, k2, k3⟩ | ⟨_, rfl⟩ | ⟨rfl, rfl, rfl⟩
    · exact ⟨q, o2, l2, k2, k3, h3, .inl ⟨rfl, k1⟩⟩
    · exact h3.elim
    · refine ⟨p, _, _, hp, hpl, ?_, .inr ⟨rfl, rfl⟩⟩
      cases A with
      | none => cases h3
      | some A => exact h3
  refine ⟨⟨by simp [hm.len], fun q o2 l2 h1 h2 => ?_, fun q o1 l1 q2 o2 l2 b h1 h2 h3 h4 h5 h6 => ?_, fun q o2 l2 b h1 h2 h3 => ?_, hm.ltS, hm.gl⟩,
    ⟨rfl, rfl, rfl, Nat.le_refl _, fun _ h => h, fun b hb => .inl hb, fun _ _ _ => rfl, fun b hb => ?_, href⟩⟩
  · rcases split q o2 l2 h1 h2 with ⟨k1, k2, k3⟩ | ⟨_, rfl⟩ | ⟨rfl, rfl, rfl⟩
    · exact (hm.obj q o2 l2 k2 k3).mono (fun _ h => h) href (fun _ _ => rfl) fun _ _ => rfl
    · trivial
    · refine ⟨h0, e, vals.take (k * sz), ?_, ⟨?_, fun row hr => hrl row (List.mem_of_mem_take hr), fun i j row cc hr hc => ?_⟩, fun u hu => hone u (List.mem_of_mem_take hu), fun h => (by cases h), fun _ h => (by cases h)⟩
      · have hkL : k * sz ≤ xs.length * sz := Nat.mul_le_mul_right _ hk
        refine ⟨by rw [hlk, List.length_take, hvl]; omega, ?_⟩
        rw [hlk]
        rcases hown.2 with ⟨h3, h4⟩ | ⟨g, cap, cur, h3, r1, r2, r3, r4, r5, r6⟩
        · injection h3 with q1 q2 q3
          subst q1; subst q3
          exact .inl ⟨by rw [show k = 0 by omega], by omega⟩
        · injection h3 with q1 q2 q3
          subst q1; subst q3
          refine .inr ⟨g, c, cur, rfl, r1, r2, by omega, r4, r5, ?_⟩
          rw [← r6, List.take_take, Nat.min_eq_left hkL]
      · rw [hlk, List.length_take, hvl]
        have hkL : k * sz ≤ xs.length * sz := Nat.mul_le_mul_right _ hk
        omega
      · rw [List.getElem?_take] at hr
        split at hr
        · rename_i hik
          obtain ⟨u, h5, h6⟩ := hcv i j row cc hr hc
          refine ⟨u, ?_, h6⟩
          have hj : j < sz := by
            have := (List.getElem?_eq_some_iff.1 hc).1
            rw [hrl row (List.mem_of_getElem? hr)] at this
            exact this
          have : (i + 1) * sz ≤ k * sz := Nat.mul_le_mul_right _ hik
          rw [Nat.add_mul] at this
          rw [List.getElem?_take, if_pos (by omega)]
          exact h5
        · cases hr
  · obtain ⟨q0, o0, l0, a1, a2, a3, a4⟩ := hlv q o1 l1 b h1 h2 h5
    obtain ⟨q3, o3, l3, b1, b2, b3, b4⟩ := hlv q2 o2 l2 b h3 h4 h6
    have := hm.apart q0 o0 l0 q3 o3 l3 b a1 a2 b1 b2 a3 b3
    omega
  · obtain ⟨q0, o0, l0, a1, a2, a3, a4⟩ := hlv q o2 l2 b h1 h2 h3
    exact hm.outS q0 o0 l0 b a1 a2 a3
  · obtain ⟨q, o2, l2, h1, h2, h3⟩ := hb
    obtain ⟨q0, o0, l0, a1, a2, a3, a4⟩ := hlv q o2 l2 b h1 h2 h3
    exact .inl ⟨q0, o0, l0, a1, a2, a3⟩
end

theorem Cs.cut {α : Type} {f : α → List V} {N n t p L sz : Nat} {fr : Fr} {σ : ASt} {xs ys : List α} {l h : Int} (ht : lk fr t = some (.hd p L l.toNat (h - l).toNat)) (hp : σ[p]? = some (.arr .clo sz (xs.map f))) (hL : (xs.map f).length = L) (hl : l = 0) (hy : sub xs l h = some ys) :
    Cs N n fr σ ((t, .hd σ.length (ys.map f).length 0 (ys.map f).length) :: fr) (σ.set p .dead ++ [.arr .clo sz (ys.map f)]) := fun S B ι a w hr => by
  subst hl
  obtain ⟨k0, k1, k2, rfl⟩ := sub_s hy
  have hL2 : xs.length = L := by simpa using hL
  obtain ⟨v, hι, hle, hz0, _⟩ := RefR.hd (Val.inv_ref rfl trivial (hr.fr t _ ht)) hp hL
  obtain ⟨A, c, rfl, hu⟩ := hz0 rfl
  have e1 : ((xs.drop (0 : Int).toNat).take (h - 0).toNat).map f = (xs.map f).take (h - 0).toNat := by simp [List.map_take]
  have e2 : ((xs.map f).take (h - 0).toNat).length = (h - 0).toNat := by simp; omega
  obtain ⟨hm', hf⟩ := hr.mem.cut hp hι (k := (h - 0).toNat) (by simp; omega)
  rw [e1]
  refine ⟨S, _, (hr.fw hf hm').retell (.ref _ _ ?_), hf.toN⟩
  have ln : (σ.set p AO.dead ++ [AO.arr .clo sz ((xs.map f).take (h - 0).toNat)])[σ.length]? = some (.arr .clo sz ((xs.map f).take (h - 0).toNat)) := by
    rw [List.getElem?_append_right (by simp)]; simp
  have li : (ι ++ [Loc.row (.slice A (h - 0).toNat c)])[σ.length]? = some (.row (.slice A (h - 0).toNat c)) := by
    rw [List.getElem?_append_right (by rw [hr.mem.len]; exact Nat.le_refl _)]; simp [hr.mem.len]
  simp only [RefR, ln, li, e2]
  exact ⟨Nat.le_refl _, fun _ => ⟨by omega, fun _ => ⟨A, c, rfl, hu⟩, fun h => absurd rfl h⟩⟩
end Go.G36
