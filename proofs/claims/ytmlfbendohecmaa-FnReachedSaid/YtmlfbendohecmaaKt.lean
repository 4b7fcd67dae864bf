/- Cells told otherwise; more conversions. -/
import Derived.Test.YtmlfbendohecmaaKs
namespace Go.G36
variable [Genv]
set_option linter.all false
open Go

theorem Cs.wkF {N n M : Nat} {fr fr' : Fr} {σ : ASt} (h : WkF M fr fr') : Cs N n fr σ fr' σ := fun S B ι a w hr => ⟨S, ι, hr.wkF h, FwN.refl _ _ _ _ _⟩

theorem Cs.pushDead {N n : Nat} {fr : Fr} {σ : ASt} : Cs N n fr σ fr (σ ++ [.dead]) := fun S B ι a w hr => by
  obtain ⟨hm', hf⟩ := hr.mem.push (Grown.refl w) .dead (.row (.slice none 0 0)) (fun b hb => by simp [live] at hb) trivial
  exact ⟨S, _, hr.fw hf hm', hf.toN⟩

/-- Array a gets a name of its own at the end; the old one is dead. -/
theorem Cs.fresh {N n : Nat} {fr : Fr} {σ : ASt} (k : Nat) {sz : Nat} {m : Md} {xs : List (List V)} (hN : Nat.ble N σ.length = true) (hk : σ[k]? = some (.arr m sz xs)) (hm0 : m ≠ .raw) (hfr : nomF σ.length fr = true)
    (hσ : ∀ (i : Nat) (o : AO), σ[i]? = some o → nomO σ.length o = true) : Cs N n fr σ (renF (mv k σ.length) fr) (movS σ.length k (σ ++ [.dead]) 0 (σ ++ [.dead])) := by
  have hkl := (List.getElem?_eq_some_iff.1 hk).1
  refine Cs.trans Cs.pushDead (Cs.reloc σ.length k hN (by rw [List.getElem?_append_left hkl]; exact hk) hm0 (by simp [Nat.blt_eq]) (beq_false (by omega)) hfr fun i o ho hi => ?_)
  rcases Nat.lt_or_ge i σ.length with h | h
  · rw [List.getElem?_append_left h] at ho; exact hσ i o ho
  · rw [List.getElem?_append_right h] at ho
    have : i - σ.length = 0 := by
      rcases Nat.eq_zero_or_pos (i - σ.length) with e | e
      · exact e
      · rw [List.getElem?_eq_none (by simp; omega)] at ho; cases ho
    omega

theorem Rel.cell {N n : Nat} {fr : Fr} {σ : ASt} {p j : Nat} {cs : List V} {c v : V} {S B : Nat → Prop} {ι : List Loc} {a : Act} {w : World} (hr : Rel S B ι n fr σ a w) (hs : σ[p]? = some (.box cs)) (hj : cs[j]? = some c)
    (hv : ∀ u, Val S B (RefR ι σ) w c u → Val S B (RefR ι σ) w v u) : Rel S B ι n fr (σ.set p (.box (cs.set j v))) a w ∧ FwN N S ι σ w S ι (σ.set p (.box (cs.set j v))) w := by
  have hm := hr.mem
  have hp := (List.getElem?_eq_some_iff.1 hs).1
  have href : ∀ x u, RefR ι σ x u → RefR ι (σ.set p (.box (cs.set j v))) x u := fun x u h => by
    have key : ∀ q o, σ[q]? = some o → ∃ o', (σ.set p (.box (cs.set j v)))[q]? = some o' ∧ form o = form o' := fun q o ho => by
      by_cases hq : p = q
      · subst hq
        rw [hs] at ho; injection ho with ho; subst ho
        exact ⟨_, List.getElem?_set_self hp, by simp [form]⟩
      · exact ⟨o, by rw [List.getElem?_set_ne hq]; exact ho, rfl⟩
    cases x with
    | hd b L off len =>
      cases ho : σ[b]? with
      | none => simp [RefR, ho] at h
      | some o => cases hx : ι[b]? with
        | none => cases o <;> simp [RefR, ho, hx] at h ⊢; obtain ⟨o', h1, h2⟩ := key b _ ho; cases o' <;> simp_all [form]
        | some l => obtain ⟨o', h1, h2⟩ := key b o ho; exact (RefR.form ho h1 hx hx h2).1 L off len u h
    | bx b j =>
      cases ho : σ[b]? with
      | none => simp [RefR, ho] at h
      | some o => cases hx : ι[b]? with
        | none => cases o <;> simp [RefR, ho, hx] at h
        | some l => obtain ⟨o', h1, h2⟩ := key b o ho; exact (RefR.form ho h1 hx hx h2).2.1 j u h
    | el b L i j =>
      cases ho : σ[b]? with
      | none => simp [RefR, ho] at h
      | some o => cases hx : ι[b]? with
        | none => cases o <;> simp [RefR, ho, hx] at h ⊢; obtain ⟨o', h1, h2⟩ := key b _ ho; cases o' <;> simp_all [form]
        | some l => obtain ⟨o', h1, h2⟩ := key b o ho; exact (RefR.form ho h1 hx hx h2).2.2.1 L i j u h
    | px b L k' j =>
      cases ho : σ[b]? with
      | none => simp [RefR, ho] at h
      | some o => cases hx : ι[b]? with
        | none => cases o <;> simp [RefR, ho, hx] at h ⊢; obtain ⟨o', h1, h2⟩ := key b _ ho; cases o' <;> simp_all [form]
        | some l => obtain ⟨o', h1, h2⟩ := key b o ho; exact (RefR.form ho h1 hx hx h2).2.2.2.2 L k' j u h
    | mp b =>
      cases ho : σ[b]? with
      | none => simp [RefR, ho] at h
      | some o => cases hx : ι[b]? with
        | none => cases o <;> simp [RefR, ho, hx] at h
        | some l => obtain ⟨o', h1, h2⟩ := key b o ho; exact (RefR.form ho h1 hx hx h2).2.2.2.1 u h
    | _ => exact h.elim
  have src : ∀ q o, (σ.set p (.box (cs.set j v)))[q]? = some o → (q = p ∧ o = .box (cs.set j v)) ∨ (q ≠ p ∧ σ[q]? = some o) := fun q o h => by
    by_cases hq : p = q
    · subst hq
      rw [List.getElem?_set_self hp] at h; injection h with h
      exact .inl ⟨rfl, h.symm⟩
    · rw [List.getElem?_set_ne hq] at h
      exact .inr ⟨Ne.symm hq, h⟩
  have hlive : ∀ q o l, (σ.set p (.box (cs.set j v)))[q]? = some o → ∃ o0, σ[q]? = some o0 ∧ live o l = live o0 l := fun q o l h => by
    rcases src q o h with ⟨rfl, rfl⟩ | ⟨_, h⟩
    · exact ⟨_, hs, by cases l <;> rfl⟩
    · exact ⟨o, h, rfl⟩
  have hmem : Mem S B ι (σ.set p (.box (cs.set j v))) w := by
    refine ⟨by simp [hm.len], fun q o l h1 h2 => ?_, fun q o l q' o' l' b h1 h2 h3 h4 h5 h6 => ?_, fun q o l b h1 h2 h3 => ?_, hm.ltS, hm.gl⟩
    · rcases src q o h1 with ⟨rfl, rfl⟩ | ⟨_, h⟩
      · have hO := hm.obj q _ l hs h2
        cases l with
        | box b =>
          obtain ⟨us, c1, ⟨c2, c3⟩, c4⟩ := hO
          refine ⟨us, c1, ⟨by simpa using c2, fun i x u hx hu => ?_⟩, c4⟩
          by_cases hij : j = i
          · subst hij
            rw [List.getElem?_set_self (List.getElem?_eq_some_iff.1 hj).1] at hx
            injection hx with hx; subst hx
            have := hv u (c3 j c u hj hu)
            exact this.mono (fun _ h => h) (fun _ h => h) href fun _ _ => rfl
          · rw [List.getElem?_set_ne hij] at hx
            exact (c3 i x u hx hu).mono (fun _ h => h) (fun _ h => h) href fun _ _ => rfl
        | row v => exact hO.elim
        | map r => exact hO.elim
        | it r9 m9 => exact hO.elim
        | fam bs0 => exact hO.elim
        | afm vs0 => exact hO.elim
      · exact (hm.obj q o l h h2).mono (fun _ h => h) href (fun _ _ => rfl) fun _ _ => rfl
    · obtain ⟨o0, k1, k2⟩ := hlive q o l h1
      obtain ⟨o1, k3, k4⟩ := hlive q' o' l' h3
      exact hm.apart q o0 l q' o1 l' b k1 h2 k3 h4 (by rw [← k2]; exact h5) (by rw [← k4]; exact h6)
    · obtain ⟨o0, k1, k2⟩ := hlive q o l h1
      exact hm.outS q o0 l b k1 h2 (by rw [← k2]; exact h3)
  refine ⟨⟨hr.size, hr.dfr, fun t x hx => (hr.fr t x hx).mono (fun _ h => h) (fun _ h => h) href fun _ _ => rfl, hmem⟩, ⟨rfl, rfl, rfl, Nat.le_refl _, fun _ h => h, fun _ h => .inl h, fun _ _ _ => rfl, fun b ⟨q, o, l, h1, h2, h3⟩ => ?_, fun x u _ h => href x u h⟩⟩
  obtain ⟨o0, k1, k2⟩ := hlive q o l h1
  exact .inl ⟨q, o0, l, k1, h2, by rw [← k2]; exact h3⟩

/-- No object but a itself names a. -/
def nomS (a : Nat) : Nat → ASt → Bool
  | _, [] => true
  | i, o :: r => (Nat.beq i a || nomO a o) && nomS a (i + 1) r
theorem nomS_at {a : Nat} : ∀ {l : ASt} {k : Nat}, nomS a k l = true → ∀ (i : Nat) (o : AO), l[i]? = some o → k + i ≠ a → nomO a o = true
  | [], k, h, i, o, ho, hi => by simp at ho
  | x :: r, k, h, i, o, ho, hi => by
    simp only [nomS, Bool.and_eq_true, Bool.or_eq_true] at h
    cases i with
    | zero =>
      simp at ho; subst ho
      rcases h.1 with h1 | h1
      · exact absurd (Nat.eq_of_beq_eq_true h1) (by omega)
      · exact h1
    | succ i =>
      simp at ho
      exact nomS_at h.2 i o ho (by omega)
theorem nomS_get {a : Nat} {σ : ASt} (h : nomS a 0 σ = true) : ∀ (i : Nat) (o : AO), σ[i]? = some o → i ≠ a → nomO a o = true := fun i o ho hi => nomS_at h i o ho (by omega)
theorem nomS_all {a : Nat} {σ : ASt} (h : nomS a 0 σ = true) (hl : Nat.ble σ.length a = true) : ∀ (i : Nat) (o : AO), σ[i]? = some o → nomO a o = true := fun i o ho =>
  nomS_get h i o ho (by have := (List.getElem?_eq_some_iff.1 ho).1; have := Nat.le_of_ble_eq_true hl; omega)
theorem Cs.eqS {N n : Nat} {fr : Fr} {σ σ' : ASt} (h : σ = σ') : Cs N n fr σ fr σ' := by
  subst h; exact fun S B ι a w hr => ⟨S, ι, hr, FwN.refl _ _ _ _ _⟩
end Go.G36
