/- Regions of open order in which the values are known ahead: the world is told by what is done. -/
import Derived.Test.YtmlfbendohecmaaKzq
import Derived.Deep.Draws
namespace Go.G36
variable [Genv]
set_option linter.all false
open Go

def backE (l : List Oper) : Bool := (List.range l.length).all fun i => match l[i]? with
  | some o => o.guard.isNone && o.after.all fun e => !Region.binds .any e || Nat.blt e.on i
  | none => true

theorem region_det {P : Program} {id : Nat} {l : List Oper} {a : Act} {Q : Exit → Act → World → Prop} (Wd : (Nat → Bool) → World) (Inv : (Nat → Bool) → Act → Prop) (hmix : P.follows .mixedOrders = true) (hb : backE l = true)
    (h0 : Inv (fun _ => false) a)
    (step : ∀ (L : Nat → Bool) (i : Nat) (o : Oper) (a' : Act) (q : Nat), l[i]? = some o → L i = false → (∀ e, e ∈ o.after → Region.binds .any e = true → L e.on = true) → Inv L a' →
      o.wp P a' ((Wd L).drewN q) (fun a2 w2 => Inv (fun j => j == i || L j) a2 ∧ ∃ q', w2 = (Wd fun j => j == i || L j).drewN q') Q)
    (hend : ∀ a' q, Inv (fun j => decide (j < l.length)) a' → Q .normal a' ((Wd fun j => decide (j < l.length)).drewN q)) :
    (Code.region id l.toArray true).wp P Q a (Wd fun _ => false) := by
  let b : Array Bool → Nat → Bool := fun L j => L.getD j false
  have row : ∀ i o, l[i]? = some o → o.guard = none ∧ ∀ e, e ∈ o.after → Region.binds .any e = true → e.on < i := fun i o ho => by
    have h := List.all_eq_true.1 hb i (List.mem_range.2 (List.getElem?_eq_some_iff.1 ho).1)
    rw [ho] at h
    simp only [Bool.and_eq_true, Option.isNone_iff_eq_none] at h
    refine ⟨h.1, fun e he hbe => ?_⟩
    have := Array.all_eq_true_iff_forall_mem.1 h.2 e he
    rw [hbe] at this
    simpa [Nat.blt_eq] using this
  let I : Array Bool → Act → World → Prop := fun L a' w' => L.size = l.length ∧ Inv (b L) a' ∧ ∃ q, w' = (Wd (b L)).drewN q
  refine wp_region_any hmix (wpAny_inv I (fun L a w h => by rw [h.1]; simp) ?_ ?_ _ _ _ _ ?_ ?_)
  · intro L a' w' i hI hi
    obtain ⟨hL, hinv, q, rfl⟩ := hI
    obtain ⟨hun, o, ho', hneeds⟩ := mem_ready.1 hi
    have ho : l[i]? = some o := by simpa using ho'
    have hil : i < l.length := (List.getElem?_eq_some_iff.1 ho).1
    have hbi : b L i = false := by
      show L.getD i false = false
      rw [Array.getD_eq_getD_getElem?] at hun ⊢
      rw [Array.getElem?_eq_getElem (by omega)] at hun ⊢
      simpa using hun
    have hset : b (L.setIfInBounds i true) = fun j => j == i || b L j := by
      funext j
      show (L.setIfInBounds i true).getD j false = _
      by_cases hj : j = i
      · subst hj; rw [Array.getD_eq_getD_getElem?]; simp [show j < L.size by omega]
      · rw [getD_set_ne false (Ne.symm hj)]
        have : (j == i) = false := by simpa using hj
        rw [this]; rfl
    unfold wpOp
    rw [ho']
    simp only
    rw [if_pos (by simp [Region.wanted, (row i o ho).1])]
    refine .inl (Oper.wp_mono ?_ (step (b L) i o a' q ho hbi (fun e he hbe => hneeds e he hbe) hinv))
    rintro a2 w2 ⟨h1, q', h2⟩
    exact ⟨by simpa using hL, by rw [hset]; exact h1, q', by rw [hset]; exact h2⟩
  · intro L a' w' hI hready
    obtain ⟨hL, hinv, q, rfl⟩ := hI
    have hallb : ∀ (j : Nat), j < l.length → b L j = true := by
      intro j
      induction j using Nat.strongRecOn with
      | _ j ih =>
        intro hjl
        have hoj : l[j]? = some l[j] := by simp
        cases hx : b L j with
        | true => rfl
        | false =>
          have : j ∈ Region.ready .any l.toArray L := by
            refine mem_ready.2 ⟨?_, l[j], by simp, fun e he hbe => ?_⟩
            · have hx' : L.getD j false = false := hx
              rw [Array.getD_eq_getD_getElem?, Array.getElem?_eq_getElem (by omega)] at hx' ⊢
              simpa using hx'
            · have h1 := (row j _ hoj).2 e he hbe
              exact ih e.on h1 (by omega)
          rw [hready] at this
          cases this
    have hfun : b L = fun j => decide (j < l.length) := by
      funext j
      by_cases hj : j < l.length
      · rw [hallb j hj]; simp [hj]
      · have : b L j = false := by
          show L.getD j false = false
          rw [Array.getD_eq_getD_getElem?, Array.getElem?_eq_none (by omega)]; rfl
        rw [this]; simp [hj]
    rw [hfun] at hinv ⊢
    exact hend a' q hinv
  · have hrep : b (Array.replicate l.toArray.size false) = fun _ => false := by
      funext j
      show (Array.replicate l.toArray.size false).getD j false = false
      rw [Array.getD_eq_getD_getElem?, Array.getElem?_replicate]
      split <;> rfl
    exact ⟨by simp, by rw [hrep]; exact h0, 1, by rw [hrep]; rfl⟩
  · simp only [unl]; exact Nat.le_trans (List.length_filter_le _ _) (by simp)

/-- The same with the values of the operations in a list, and what was there before. -/
theorem region_vals {P : Program} {id n : Nat} {l : List Oper} {a : Act} {Q : Exit → Act → World → Prop} (Wd : (Nat → Bool) → World) (dks : List Nat) (vls : List Value) (base : List (Nat × Value)) (hmix : P.follows .mixedOrders = true) (hb : backE l = true)
    (hl1 : dks.length = l.length) (hl2 : vls.length = l.length) (hnd : dks.Nodup) (hn : ∀ t, t ∈ dks → t < n) (hbn : ∀ x, x ∈ base → x.1 ∉ dks) (hsz : a.tmps.size = n) (hdf : a.defers = []) (h0 : ∀ x, x ∈ base → a.tmps.getD x.1 undef = x.2)
    (step : ∀ (L : Nat → Bool) (i : Nat) (o : Oper) (a' : Act) (q : Nat), l[i]? = some o → L i = false → (∀ e, e ∈ o.after → Region.binds .any e = true → L e.on = true) → (∀ k t v, L k = true → dks[k]? = some t → vls[k]? = some v → a'.tmps.getD t undef = v) →
      (∀ x, x ∈ base → a'.tmps.getD x.1 undef = x.2) → ∀ (K : Act → World → Prop), (∀ t v q', dks[i]? = some t → vls[i]? = some v → K (a'.put (some t) v) ((Wd fun j => j == i || L j).drewN q')) → o.wp P a' ((Wd L).drewN q) K Q)
    (hend : ∀ (a' : Act) (q : Nat), a'.tmps.size = n → a'.defers = [] → (∀ (k t : Nat) (v : Value), dks[k]? = some t → vls[k]? = some v → a'.tmps.getD t undef = v) → (∀ x, x ∈ base → a'.tmps.getD x.1 undef = x.2) → Q .normal a' ((Wd fun j => decide (j < l.length)).drewN q)) :
    (Code.region id l.toArray true).wp P Q a (Wd fun _ => false) := by
  refine region_det Wd (fun L a' => a'.tmps.size = n ∧ a'.defers = [] ∧ (∀ k t v, L k = true → dks[k]? = some t → vls[k]? = some v → a'.tmps.getD t undef = v) ∧ ∀ x, x ∈ base → a'.tmps.getD x.1 undef = x.2) hmix hb
    ⟨hsz, hdf, (fun k t v h => by cases h), h0⟩ (fun L i o a' q ho hi hneeds hI => ?_) (fun a' q hI => ?_)
  rotate_left
  · exact hend a' q hI.1 hI.2.1 (fun (k t : Nat) (v : Value) (ht : dks[k]? = some t) hv => hI.2.2.1 k t v (by
      have := (List.getElem?_eq_some_iff.1 ht).1
      simp; omega) ht hv) hI.2.2.2
  obtain ⟨i1, i2, i3, i4⟩ := hI
  refine step L i o a' q ho hi hneeds i3 i4 _ fun t v q' ht hv => ⟨⟨by simp [Act.put, i1], i2, fun k t' v' hk ht' hv' => ?_, fun x hx => ?_⟩, q', rfl⟩
  · have htn := hn t (List.mem_of_getElem? ht)
    by_cases hki : k = i
    · subst hki
      rw [ht] at ht'; rw [hv] at hv'
      injection ht' with ht'; injection hv' with hv'
      subst ht'; subst hv'
      simp [Act.put, i1, htn]
    · have hne : t ≠ t' := fun h => by
        subst h
        have h1 := List.getElem?_eq_some_iff.1 ht
        have h2 := List.getElem?_eq_some_iff.1 ht'
        rcases Nat.lt_or_gt_of_ne hki with h | h
        · exact List.pairwise_iff_getElem.1 hnd k i h2.1 h1.1 h (h2.2.trans h1.2.symm)
        · exact List.pairwise_iff_getElem.1 hnd i k h1.1 h2.1 h (h1.2.trans h2.2.symm)
      have hk' : L k = true := by
        have : (k == i) = false := by simpa using hki
        simpa [this] using hk
      have : (a'.put (some t) v).tmps.getD t' undef = a'.tmps.getD t' undef := by simp [Act.put, Array.getElem?_setIfInBounds_ne hne]
      rw [this]
      exact i3 k t' v' hk' ht' hv'
  · have hne : t ≠ x.1 := fun h => hbn x hx (h ▸ List.mem_of_getElem? ht)
    have : (a'.put (some t) v).tmps.getD x.1 undef = a'.tmps.getD x.1 undef := by simp [Act.put, Array.getElem?_setIfInBounds_ne hne]
    rw [this]
    exact i4 x hx
end Go.G36
