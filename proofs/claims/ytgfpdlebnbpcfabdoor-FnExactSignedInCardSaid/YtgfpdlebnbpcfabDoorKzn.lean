/- Families of arrays: slices that lie in other things, by number. -/
import Derived.Test.YtgfpdlebnbpcfabDoorKzm
namespace Go.G36
variable [Genv]
set_option linter.all false
open Go

/-- A family without an array. -/
theorem Cs.afm {N n : Nat} {fr : Fr} {σ : ASt} (sz : Nat) (hs : Nat.blt 0 sz = true) : Cs N n fr σ fr (σ ++ [.afm sz []]) := fun S B ι a w hr => by
  obtain ⟨hm', hf⟩ := hr.mem.push (Grown.refl w) (.afm sz []) (.afm []) (fun b hb => by obtain ⟨k, v, rows, h, _⟩ := hb; simp at h)
    ⟨by simpa [Nat.blt_eq] using hs, rfl, fun k k' v v' r r' b _ h => by simp at h, fun k v rows h => by simp at h⟩
  exact ⟨S, _, hr.fw hf hm', hf.toN⟩

section
variable {S B : Nat → Prop} {ι : List Loc} {σ : ASt} {w : World} {p q sz : Nat} {xs : List (List V)} {ys : List (Option (List (List V)))} {v : Value} {vs : List Value}
/-- An array goes into a family: the references stay. -/
theorem absorb_ref (hp : σ[p]? = some (.arr .clo sz xs)) (hq : σ[q]? = some (.afm sz ys)) (hpl : ι[p]? = some (.row v)) (hql : ι[q]? = some (.afm vs)) {x : V} {u : Value} (h : RefR ι σ x u) :
    RefR (ι.set q (.afm (vs ++ [v]))) ((σ.set p .dead).set q (.afm sz (ys ++ [some xs]))) x u := by
  have hne : p ≠ q := fun e => by subst e; rw [hp] at hq; cases hq
  have lp := (List.getElem?_eq_some_iff.1 hp).1
  have lq := (List.getElem?_eq_some_iff.1 hq).1
  have lq' := (List.getElem?_eq_some_iff.1 hql).1
  have eo : ∀ a, a ≠ p → a ≠ q → ((σ.set p .dead).set q (.afm sz (ys ++ [some xs])))[a]? = σ[a]? := fun a h1 h2 => by
    rw [List.getElem?_set_ne (Ne.symm h2), List.getElem?_set_ne (Ne.symm h1)]
  have eι : ∀ a, a ≠ q → (ι.set q (Loc.afm (vs ++ [v])))[a]? = ι[a]? := fun a h2 => by rw [List.getElem?_set_ne (Ne.symm h2)]
  have ep : ((σ.set p .dead).set q (.afm sz (ys ++ [some xs])))[p]? = some .dead := by
    rw [List.getElem?_set_ne (Ne.symm hne), List.getElem?_set_self lp]
  have eq : ((σ.set p .dead).set q (.afm sz (ys ++ [some xs])))[q]? = some (.afm sz (ys ++ [some xs])) := by rw [List.getElem?_set_self (by simpa using lq)]
  have eq' : (ι.set q (Loc.afm (vs ++ [v])))[q]? = some (.afm (vs ++ [v])) := by rw [List.getElem?_set_self lq']
  have app : ∀ (k : Nat) (y : Value), vs[k]? = some y → (vs ++ [v])[k]? = some y := fun k y h => by
    rw [List.getElem?_append_left (List.getElem?_eq_some_iff.1 h).1]; exact h
  cases x with
  | hd a L off len =>
    by_cases h1 : a = p
    · subst h1; simp only [RefR, ep]
    · by_cases h2 : a = q
      · subst h2; simp [RefR, hq, hql] at h
      · simp only [RefR, eo a h1 h2, eι a h2] at h ⊢; exact h
  | bx a j =>
    by_cases h1 : a = p
    · subst h1; simp [RefR, hp, hpl] at h
    · by_cases h2 : a = q
      · subst h2; simp [RefR, hq, hql] at h
      · simp only [RefR, eo a h1 h2, eι a h2] at h ⊢; exact h
  | el a L i j =>
    by_cases h1 : a = p
    · subst h1; simp only [RefR, ep]
    · by_cases h2 : a = q
      · subst h2
        simp only [RefR, hq, hql] at h
        simp only [RefR, eq, eq']
        obtain ⟨b, n, c, h3, h4⟩ := h
        exact ⟨b, n, c, app _ _ h3, h4⟩
      · simp only [RefR, eo a h1 h2, eι a h2] at h ⊢; exact h
  | px a L k j =>
    by_cases h1 : a = p
    · subst h1; simp only [RefR, ep]
    · by_cases h2 : a = q
      · subst h2
        simp only [RefR, hq, hql] at h
        simp only [RefR, eq, eq']
        rcases h with h | ⟨h3, h4, h5⟩
        · exact .inl h
        · exact .inr ⟨h3, app _ _ h4, h5⟩
      · simp only [RefR, eo a h1 h2, eι a h2] at h ⊢; exact h
  | mp a =>
    by_cases h1 : a = p
    · subst h1; simp [RefR, hp, hpl] at h
    · by_cases h2 : a = q
      · subst h2; simp [RefR, hq, hql] at h
      · simp only [RefR, eo a h1 h2, eι a h2] at h ⊢; exact h
  | _ => exact h

theorem memAbsorb (hm : Mem S B ι σ w) (hp : σ[p]? = some (.arr .clo sz xs)) (hq : σ[q]? = some (.afm sz ys)) (hpl : ι[p]? = some (.row v)) (hql : ι[q]? = some (.afm vs)) :
    Mem S B (ι.set q (.afm (vs ++ [v]))) ((σ.set p .dead).set q (.afm sz (ys ++ [some xs]))) w ∧ Fw S ι σ w S (ι.set q (.afm (vs ++ [v]))) ((σ.set p .dead).set q (.afm sz (ys ++ [some xs]))) w := by
  have hne : p ≠ q := fun e => by subst e; rw [hp] at hq; cases hq
  have lp := (List.getElem?_eq_some_iff.1 hp).1
  have lq := (List.getElem?_eq_some_iff.1 hq).1
  have lq' := (List.getElem?_eq_some_iff.1 hql).1
  have hP := hm.obj p _ _ hp hpl
  have hQ := hm.obj q _ _ hq hql
  obtain ⟨_, e0, vals0, hown0, hrows0, hone0, _⟩ := hP
  obtain ⟨hsz, hlen, hdis, hrep⟩ := hQ
  have eq : ((σ.set p .dead).set q (.afm sz (ys ++ [some xs])))[q]? = some (.afm sz (ys ++ [some xs])) := by rw [List.getElem?_set_self (by simpa using lq)]
  have eq' : (ι.set q (Loc.afm (vs ++ [v])))[q]? = some (.afm (vs ++ [v])) := by rw [List.getElem?_set_self lq']
  have src : ∀ (a : Nat) (o : AO) (l : Loc), ((σ.set p .dead).set q (.afm sz (ys ++ [some xs])))[a]? = some o → (ι.set q (Loc.afm (vs ++ [v])))[a]? = some l →
      (a = q ∧ o = .afm sz (ys ++ [some xs]) ∧ l = .afm (vs ++ [v])) ∨ (a = p ∧ o = .dead) ∨ (a ≠ p ∧ a ≠ q ∧ σ[a]? = some o ∧ ι[a]? = some l) := fun a o l h1 h2 => by
    by_cases ha : a = q
    · subst ha
      rw [eq] at h1; rw [eq'] at h2
      injection h1 with h1; injection h2 with h2
      exact .inl ⟨rfl, h1.symm, h2.symm⟩
    · rw [List.getElem?_set_ne (Ne.symm ha)] at h1 h2
      by_cases hb : a = p
      · subst hb
        rw [List.getElem?_set_self lp] at h1
        injection h1 with h1
        exact .inr (.inl ⟨rfl, h1.symm⟩)
      · rw [List.getElem?_set_ne (Ne.symm hb)] at h1
        exact .inr (.inr ⟨hb, ha, h1, h2⟩)
  have ent : ∀ (k : Nat) (y : Value) (r : List (List V)), (vs ++ [v])[k]? = some y → (ys ++ [some xs])[k]? = some (some r) → (vs[k]? = some y ∧ ys[k]? = some (some r)) ∨ (k = vs.length ∧ y = v ∧ r = xs) := fun k y r h1 h2 => by
    rcases Nat.lt_or_ge k vs.length with h | h
    · rw [List.getElem?_append_left h] at h1
      rw [List.getElem?_append_left (hlen ▸ h)] at h2
      exact .inl ⟨h1, h2⟩
    · have hk : k = vs.length := by
        have := (List.getElem?_eq_some_iff.1 h1).1
        simp at this; omega
      subst hk
      rw [List.getElem?_append_right (Nat.le_refl _)] at h1
      rw [hlen, List.getElem?_append_right (Nat.le_refl _)] at h2
      simp at h1 h2
      exact .inr ⟨rfl, h1.symm, h2.symm⟩
  have hlv : ∀ (a : Nat) (o : AO) (l : Loc) (b : Nat), ((σ.set p .dead).set q (.afm sz (ys ++ [some xs])))[a]? = some o → (ι.set q (Loc.afm (vs ++ [v])))[a]? = some l → live o l b →
      (∃ o0 l0, a ≠ p ∧ σ[a]? = some o0 ∧ ι[a]? = some l0 ∧ live o0 l0 b) ∨ (a = q ∧ v.ownBlock = some b) := fun a o l b h1 h2 h3 => by
    rcases src a o l h1 h2 with ⟨rfl, rfl, rfl⟩ | ⟨rfl, rfl⟩ | ⟨ha, _, h4, h5⟩
    · obtain ⟨k, y, r, k1, k2, k3⟩ := h3
      rcases ent k y r k1 k2 with ⟨k4, k5⟩ | ⟨_, rfl, _⟩
      · exact .inl ⟨_, _, fun e => hne e.symm, hq, hql, k, y, r, k4, k5, k3⟩
      · exact .inr ⟨rfl, k3⟩
    · exact h3.elim
    · exact .inl ⟨o, l, ha, h4, h5, h3⟩
  have href : ∀ x u, RefR ι σ x u → RefR (ι.set q (.afm (vs ++ [v]))) ((σ.set p .dead).set q (.afm sz (ys ++ [some xs]))) x u := fun x u h => absorb_ref hp hq hpl hql h
  have plive : ∀ b, v.ownBlock = some b → live (.arr .clo sz xs) (.row v) b := fun b hb => hb
  refine ⟨⟨by simp [hm.len], fun a o l h1 h2 => ?_, fun a o l a' o' l' b h1 h2 h3 h4 h5 h6 => ?_, fun a o l b h1 h2 h3 => ?_, hm.ltS, hm.gl⟩, ⟨rfl, rfl, rfl, Nat.le_refl _, fun _ h => h, fun _ h => .inl h, fun _ _ _ => rfl, fun b hb => ?_, href⟩⟩
  · rcases src a o l h1 h2 with ⟨rfl, rfl, rfl⟩ | ⟨rfl, rfl⟩ | ⟨_, _, h3, h4⟩
    · refine ⟨hsz, by simp [hlen], fun k k' y y' r r' b hk g1 g2 g3 g4 g5 g6 => ?_, fun k y r g1 g2 => ?_⟩
      · rcases ent k y r g1 g3 with ⟨j1, j2⟩ | ⟨j0, rfl, rfl⟩ <;> rcases ent k' y' r' g2 g4 with ⟨i1, i2⟩ | ⟨i0, rfl, rfl⟩
        · exact hdis k k' y y' r r' b hk j1 i1 j2 i2 g5 g6
        · exact hne (hm.apart p _ _ a _ _ b hp hpl hq hql (plive b g6) ⟨k, y, r, j1, j2, g5⟩)
        · exact hne (hm.apart p _ _ a _ _ b hp hpl hq hql (plive b g5) ⟨k', y', r', i1, i2, g6⟩)
        · exact hk (j0.trans i0.symm)
      · rcases ent k y r g1 g2 with ⟨j1, j2⟩ | ⟨_, rfl, rfl⟩
        · exact hrep k y r j1 j2
        · exact ⟨e0, vals0, hown0, hrows0, hone0⟩
    · trivial
    · exact (hm.obj a o l h3 h4).mono (fun _ h => h) href (fun _ _ => rfl) fun _ _ => rfl
  · rcases hlv a o l b h1 h2 h5 with ⟨o0, l0, ha, k1, k2, k3⟩ | ⟨rfl, k1⟩ <;> rcases hlv a' o' l' b h3 h4 h6 with ⟨o1, l1, ha', i1, i2, i3⟩ | ⟨rfl, i1⟩
    · exact hm.apart a o0 l0 a' o1 l1 b k1 k2 i1 i2 k3 i3
    · exact absurd (hm.apart a o0 l0 p _ _ b k1 k2 hp hpl k3 (plive b i1)) ha
    · exact absurd (hm.apart a' o1 l1 p _ _ b i1 i2 hp hpl i3 (plive b k1)) ha'
    · rfl
  · rcases hlv a o l b h1 h2 h3 with ⟨o0, l0, _, k1, k2, k3⟩ | ⟨_, k1⟩
    · exact hm.outS a o0 l0 b k1 k2 k3
    · exact hm.outS p _ _ b hp hpl (plive b k1)
  · obtain ⟨a, o, l, h1, h2, h3⟩ := hb
    rcases hlv a o l b h1 h2 h3 with ⟨o0, l0, _, k1, k2, k3⟩ | ⟨_, k1⟩
    · exact .inl ⟨a, o0, l0, k1, k2, k3⟩
    · exact .inl ⟨p, _, _, hp, hpl, plive b k1⟩
end
/-- An own array is put into a family, at a new number. -/
theorem Cs.absorb {N n t p L : Nat} {fr : Fr} {σ : ASt} (q : Nat) {sz : Nat} {xs : List (List V)} {ys : List (Option (List (List V)))} (ht : lk fr t = some (.hd p L 0 L)) (hp : σ[p]? = some (.arr .clo sz xs)) (hL : xs.length = L) (hq : σ[q]? = some (.afm sz ys)) :
    Cs N n fr σ ((t, .px q 0 (ys.length : Int) 0) :: fr) ((σ.set p .dead).set q (.afm sz (ys ++ [some xs]))) := fun S B ι a w hr => by
  have hm := hr.mem
  have lp := (List.getElem?_eq_some_iff.1 hp).1
  have lq := (List.getElem?_eq_some_iff.1 hq).1
  obtain ⟨v, hpl, _, hz, _⟩ := RefR.hd (Val.inv_ref (v := .hd p L 0 L) rfl trivial (hr.fr t _ ht)) hp hL
  obtain ⟨A, c, hv, hu⟩ := hz rfl
  obtain ⟨l, hql⟩ : ∃ l, ι[q]? = some l := ⟨ι[q]'(by rw [hm.len]; exact lq), by simp⟩
  have hO := hm.obj q _ _ hq hql
  cases l with
  | row v => exact hO.elim
  | box b => exact hO.elim
  | map r => exact hO.elim
  | fam bs => exact hO.elim
  | afm vs =>
    obtain ⟨hm', hf⟩ := memAbsorb hm hp hq hpl hql
    refine ⟨S, _, (hr.fw hf hm').retell (.ref _ _ ?_), hf.toN⟩
    have lq' := (List.getElem?_eq_some_iff.1 hql).1
    simp only [RefR, List.getElem?_set_self (show q < (σ.set p AO.dead).length by simpa using lq), List.getElem?_set_self lq']
    refine .inr ⟨by omega, ?_, A, L, c, by rw [hu]⟩
    rw [Int.toNat_natCast, ← hO.2.1, List.getElem?_append_right (Nat.le_refl _), hu]
    simp [hv]

section
variable {S B : Nat → Prop} {ι : List Loc} {σ : ASt} {w : World} {q sz k : Nat} {xs : List (List V)} {ys : List (Option (List (List V)))} {v : Value} {vs : List Value}
theorem memExtract (hm : Mem S B ι σ w) (hq : σ[q]? = some (.afm sz ys)) (hql : ι[q]? = some (.afm vs)) (hk : ys[k]? = some (some xs)) (hv : vs[k]? = some v) :
    Mem S B (ι ++ [.row v]) (σ.set q (.afm sz (ys.set k none)) ++ [.arr .clo sz xs]) w ∧ Fw S ι σ w S (ι ++ [.row v]) (σ.set q (.afm sz (ys.set k none)) ++ [.arr .clo sz xs]) w := by
  have lq := (List.getElem?_eq_some_iff.1 hq).1
  have lq' := (List.getElem?_eq_some_iff.1 hql).1
  have lk := (List.getElem?_eq_some_iff.1 hk).1
  obtain ⟨hsz, hlen, hdis, hrep⟩ := hm.obj q _ _ hq hql
  obtain ⟨e0, vals0, hown0, hrows0, hone0⟩ := hrep k v xs hv hk
  have src : ∀ (a : Nat) (o : AO) (l : Loc), (σ.set q (.afm sz (ys.set k none)) ++ [.arr .clo sz xs])[a]? = some o → (ι ++ [.row v])[a]? = some l →
      (a = q ∧ o = .afm sz (ys.set k none) ∧ l = .afm vs) ∨ (a = σ.length ∧ o = .arr .clo sz xs ∧ l = .row v) ∨ (a ≠ q ∧ a < σ.length ∧ σ[a]? = some o ∧ ι[a]? = some l) := fun a o l h1 h2 => by
    rcases Nat.lt_or_ge a σ.length with h | h
    · rw [List.getElem?_append_left (by simpa using h)] at h1
      rw [List.getElem?_append_left (by rw [hm.len]; exact h)] at h2
      by_cases ha : a = q
      · subst ha
        rw [List.getElem?_set_self lq] at h1
        rw [hql] at h2
        injection h1 with h1; injection h2 with h2
        exact .inl ⟨rfl, h1.symm, h2.symm⟩
      · rw [List.getElem?_set_ne (Ne.symm ha)] at h1
        exact .inr (.inr ⟨ha, h, h1, h2⟩)
    · have ha : a = σ.length := by
        have := (List.getElem?_eq_some_iff.1 h1).1
        simp at this; omega
      subst ha
      rw [List.getElem?_append_right (by simp)] at h1
      rw [List.getElem?_append_right (by rw [hm.len]; exact Nat.le_refl _)] at h2
      simp [hm.len] at h1 h2
      exact .inr (.inl ⟨rfl, h1.symm, h2.symm⟩)
  have ent : ∀ (k' : Nat) (r : List (List V)), (ys.set k none)[k']? = some (some r) → k' ≠ k ∧ ys[k']? = some (some r) := fun k' r h => by
    by_cases hkk : k' = k
    · subst hkk
      rw [List.getElem?_set_self lk] at h
      cases h
    · rw [List.getElem?_set_ne (Ne.symm hkk)] at h
      exact ⟨hkk, h⟩
  have qlive : ∀ b, v.ownBlock = some b → live (.afm sz ys) (.afm vs) b := fun b hb => ⟨k, v, xs, hv, hk, hb⟩
  have hι : ι.set q (.afm vs) = ι := by
    apply List.ext_getElem?
    intro i
    by_cases hi : i = q
    · subst hi; rw [List.getElem?_set_self lq', hql]
    · rw [List.getElem?_set_ne (Ne.symm hi)]
  have href : ∀ x u, RefR ι σ x u → RefR (ι ++ [.row v]) (σ.set q (.afm sz (ys.set k none)) ++ [.arr .clo sz xs]) x u := fun x u h => by
    have h2 := RefR.set (o' := .afm sz (ys.set k none)) hq hql rfl h
    rw [hι] at h2
    exact h2.append (by simp [hm.len]) _ _
  have hlv : ∀ (a : Nat) (o : AO) (l : Loc) (b : Nat), (σ.set q (.afm sz (ys.set k none)) ++ [.arr .clo sz xs])[a]? = some o → (ι ++ [.row v])[a]? = some l → live o l b →
      (a = q ∧ ∃ k' y r, k' ≠ k ∧ vs[k']? = some y ∧ ys[k']? = some (some r) ∧ y.ownBlock = some b) ∨ (a = σ.length ∧ v.ownBlock = some b) ∨ (a ≠ q ∧ a < σ.length ∧ ∃ o0 l0, σ[a]? = some o0 ∧ ι[a]? = some l0 ∧ live o0 l0 b) := fun a o l b h1 h2 h3 => by
    rcases src a o l h1 h2 with ⟨rfl, rfl, rfl⟩ | ⟨rfl, rfl, rfl⟩ | ⟨ha, hb, h4, h5⟩
    · obtain ⟨k', y, r, k1, k2, k3⟩ := h3
      obtain ⟨k4, k5⟩ := ent k' r k2
      exact .inl ⟨rfl, k', y, r, k4, k1, k5, k3⟩
    · exact .inr (.inl ⟨rfl, h3⟩)
    · exact .inr (.inr ⟨ha, hb, o, l, h4, h5, h3⟩)
  refine ⟨⟨by simp [hm.len], fun a o l h1 h2 => ?_, fun a o l a' o' l' b h1 h2 h3 h4 h5 h6 => ?_, fun a o l b h1 h2 h3 => ?_, hm.ltS, hm.gl⟩, ⟨rfl, rfl, rfl, Nat.le_refl _, fun _ h => h, fun _ h => .inl h, fun _ _ _ => rfl, fun b hb => ?_, href⟩⟩
  · rcases src a o l h1 h2 with ⟨rfl, rfl, rfl⟩ | ⟨rfl, rfl, rfl⟩ | ⟨_, _, h3, h4⟩
    · refine ⟨hsz, by simp [hlen], fun i i' y y' r r' b hi g1 g2 g3 g4 g5 g6 => ?_, fun i y r g1 g2 => hrep i y r g1 (ent i r g2).2⟩
      exact hdis i i' y y' r r' b hi g1 g2 (ent i r g3).2 (ent i' r' g4).2 g5 g6
    · exact ⟨hsz, e0, vals0, hown0, hrows0, hone0, (fun h => by cases h), fun _ h => by cases h⟩
    · exact (hm.obj a o l h3 h4).mono (fun _ h => h) href (fun _ _ => rfl) fun _ _ => rfl
  · rcases hlv a o l b h1 h2 h5 with ⟨rfl, k', y, r, j1, j2, j3, j4⟩ | ⟨rfl, j1⟩ | ⟨j0, j1, o0, l0, j2, j3, j4⟩ <;>
    rcases hlv a' o' l' b h3 h4 h6 with ⟨rfl, k2, y2, r2, i1, i2, i3, i4⟩ | ⟨rfl, i1⟩ | ⟨i0, i1, o1, l1, i2, i3, i4⟩
    · rfl
    · exact (hdis k' k y v r xs b j1 j2 hv j3 hk j4 i1).elim
    · exact (i0 (hm.apart a _ _ a' o1 l1 b hq hql i2 i3 ⟨k', y, r, j2, j3, j4⟩ i4).symm).elim
    · exact (hdis k2 k y2 v r2 xs b i1 i2 hv i3 hk i4 j1).elim
    · rfl
    · exact (i0 (hm.apart q _ _ a' o1 l1 b hq hql i2 i3 (qlive b j1) i4).symm).elim
    · exact (j0 (hm.apart a' _ _ a o0 l0 b hq hql j2 j3 ⟨k2, y2, r2, i2, i3, i4⟩ j4).symm).elim
    · exact (j0 (hm.apart q _ _ a o0 l0 b hq hql j2 j3 (qlive b i1) j4).symm).elim
    · exact hm.apart a o0 l0 a' o1 l1 b j2 j3 i2 i3 j4 i4
  · rcases hlv a o l b h1 h2 h3 with ⟨rfl, k', y, r, j1, j2, j3, j4⟩ | ⟨rfl, j1⟩ | ⟨j0, j1, o0, l0, j2, j3, j4⟩
    · exact hm.outS a _ _ b hq hql ⟨k', y, r, j2, j3, j4⟩
    · exact hm.outS q _ _ b hq hql (qlive b j1)
    · exact hm.outS a o0 l0 b j2 j3 j4
  · obtain ⟨a, o, l, h1, h2, h3⟩ := hb
    rcases hlv a o l b h1 h2 h3 with ⟨rfl, k', y, r, j1, j2, j3, j4⟩ | ⟨rfl, j1⟩ | ⟨j0, j1, o0, l0, j2, j3, j4⟩
    · exact .inl ⟨a, _, _, hq, hql, k', y, r, j2, j3, j4⟩
    · exact .inl ⟨q, _, _, hq, hql, qlive b j1⟩
    · exact .inl ⟨a, o0, l0, j2, j3, j4⟩
/-- What a number of a family of arrays says. -/
theorem afm_at (hm : Mem S B ι σ w) {L j : Nat} {i : Int} {u : Value} (hq : σ[q]? = some (.afm sz ys)) (h0 : 0 ≤ i) (hk : ys[i.toNat]? = some (some xs)) (h : Val S B (RefR ι σ) w (.px q L i j) u) :
    ∃ vs A c, ι[q]? = some (.afm vs) ∧ vs[i.toNat]? = some u ∧ u = .slice A xs.length c := by
  have lq := (List.getElem?_eq_some_iff.1 hq).1
  obtain ⟨l, hql⟩ : ∃ l, ι[q]? = some l := ⟨ι[q]'(by rw [hm.len]; exact lq), by simp⟩
  have hO := hm.obj q _ _ hq hql
  cases l with
  | row v => exact hO.elim
  | box b => exact hO.elim
  | map r => exact hO.elim
  | fam bs => exact hO.elim
  | afm vs =>
    have hr := Val.inv_ref (v := .px q L i j) rfl trivial h
    simp only [RefR, hq, hql] at hr
    rcases hr with ⟨h1, _⟩ | ⟨_, h2, _⟩
    · omega
    · obtain ⟨e, vals, hown, _⟩ := hO.2.2.2 _ u xs h2 hk
      rcases hown.2 with ⟨rfl, hn⟩ | ⟨g, cap, cur, rfl, _⟩
      · exact ⟨vs, none, 0, hql, h2, by rw [hn]⟩
      · exact ⟨vs, _, cap, hql, h2, rfl⟩
end
/-- An array is taken out of a family. -/
theorem Cs.extract {N n t q L j : Nat} {fr : Fr} {σ : ASt} {sz : Nat} {i : Int} {xs : List (List V)} {ys : List (Option (List (List V)))} (ht : lk fr t = some (.px q L i j)) (hq : σ[q]? = some (.afm sz ys)) (h0 : 0 ≤ i) (hk : ys[i.toNat]? = some (some xs)) :
    Cs N n fr σ ((t, .hd σ.length xs.length 0 xs.length) :: fr) (σ.set q (.afm sz (ys.set i.toNat none)) ++ [.arr .clo sz xs]) := fun S B ι a w hr => by
  have hm := hr.mem
  obtain ⟨vs, A, c, hql, hv, hu⟩ := afm_at hm hq h0 hk (hr.fr t _ ht)
  obtain ⟨hm', hf⟩ := memExtract hm hq hql hk hv
  refine ⟨S, _, (hr.fw hf hm').retell (.ref _ _ ?_), hf.toN⟩
  have e1 : (σ.set q (.afm sz (ys.set i.toNat none)) ++ [AO.arr .clo sz xs])[σ.length]? = some (.arr .clo sz xs) := by rw [List.getElem?_append_right (by simp)]; simp
  have e2 : (ι ++ [Loc.row (a.tmps.getD t undef)])[σ.length]? = some (.row (a.tmps.getD t undef)) := by rw [List.getElem?_append_right (by rw [hm.len]; exact Nat.le_refl _)]; simp [hm.len]
  simp only [RefR, e1, e2]
  exact ⟨Nat.le_refl _, fun _ => ⟨by omega, fun _ => ⟨A, c, hu, hu⟩, fun h => absurd rfl h⟩⟩

section
variable {P : Program} {o : Oper} {fr : Fr} {σ : ASt}
theorem o_lenAx {t e : TypeId} {x : Operand} {q L j sz : Nat} {i : Int} {α : Type} {f : α → List V} {xs : List α} {ys : List (Option (List (List V)))} (ho : o.op = .call { callee := .builtin .len, args := #[x], argTypes := #[t] }) (ht : P.underlying t = some (.slice e))
    (hx : evalE fr x = some (.px q L i j)) (hs : σ[q]? = some (.afm sz ys)) (h0 : 0 ≤ i) (hk : ys[i.toNat]? = some (some (xs.map f))) : Does P o fr σ (.int .i64 (xs.length : Int)) σ := quiet fun S B ι a w he hm => by
  obtain ⟨vs, A, c, _, _, hu⟩ := afm_at hm hs h0 hk (he x (by simp [ho, Op.operands, Call.operands]) _ hx)
  rw [List.length_map] at hu
  exact ⟨_, by simp [execOp, ho, hu, resolve, invoke, builtin, Builtin.len_, run_underlying ht, goInt]; rfl, .cv _ _ (by constructor)⟩
theorem o_ixAx {t e : TypeId} {x y : Operand} {ag : Bool} {q L j sz : Nat} {i m : Int} {k : IntKind} {α : Type} {f : α → List V} {xs : List α} {a0 : α} {ys : List (Option (List (List V)))} (ho : o.op = .indexAddr t x y) (ht : P.underlying t = some (.slice e)) (hs : TyS P e ag sz)
    (hx : evalE fr x = some (.px q L i j)) (hy : evalE fr y = some (.int k m)) (hq : σ[q]? = some (.afm sz ys)) (h0 : 0 ≤ i) (hk : ys[i.toNat]? = some (some (xs.map f))) (h : idx xs m = some a0) :
    Does P o fr σ (.el q i.toNat m.toNat 0) σ := quiet fun S B ι a w he hm => by
  obtain ⟨vs, A, c, hql, hv, hu⟩ := afm_at hm hq h0 hk (he x (by simp [ho, Op.operands]) _ hx)
  have h2 := (he y (by simp [ho, Op.operands]) _ hy).inv_int
  obtain ⟨g0, g1⟩ := idx_s h
  have hlt := (List.getElem?_eq_some_iff.1 g1).1
  rw [List.length_map] at hu
  have hO := hm.obj q _ _ hq hql
  obtain ⟨e2, vals, hown, _⟩ := hO.2.2.2 _ _ _ hv hk
  obtain ⟨b, hA⟩ : ∃ b, A = some ⟨b, 0, none⟩ := by
    rw [hu] at hown
    rcases hown.2 with ⟨h3, hn⟩ | ⟨g, cap, cur, h3, _⟩
    · rw [List.length_map] at hn; omega
    · injection h3 with h3; exact ⟨g, h3⟩
  subst hA
  refine ⟨.pointer (some ⟨b, m.toNat * sz, none⟩), ?_, .ref _ _ ?_⟩
  · have hm1 : m < (xs.length : Int) := by omega
    simp [execOp, ho, hu, h2, Instr.indexAt, asIntOf, run_underlying ht, g0, hm1, hs.size w, Addr.add_mid]
  · simp only [RefR, hq, hql]
    exact ⟨b, xs.length, c, by rw [hv, hu], hlt, by simp⟩
theorem o_loadAx {t : TypeId} {x : Operand} {q L i j : Nat} {ag : Bool} {sz size : Nat} {xs : List (List V)} {row : List V} {v : V} {ys : List (Option (List (List V)))} (ho : o.op = .load t x) (ht : TyS P t ag sz) (hx : evalE fr x = some (.el q L i j))
    (hs : σ[q]? = some (.afm size ys)) (hk : ys[L]? = some (some xs)) (hrow : xs[i]? = some row) (hl : j + sz ≤ row.length) (hv : wrapV ag ((row.drop j).take sz) = some v) : Does P o fr σ v σ := quiet fun S B ι a w he hm => by
  have hr := Val.inv_ref (v := .el q L i j) rfl trivial (he x (by simp [ho, Op.operands]) _ hx)
  have lq := (List.getElem?_eq_some_iff.1 hs).1
  obtain ⟨l, hql⟩ : ∃ l, ι[q]? = some l := ⟨ι[q]'(by rw [hm.len]; exact lq), by simp⟩
  have hO := hm.obj q _ _ hs hql
  cases l with
  | row v => exact hO.elim
  | box b => exact hO.elim
  | map r => exact hO.elim
  | fam bs => exact hO.elim
  | afm vs =>
    simp only [RefR, hs, hql] at hr
    obtain ⟨b, n, c, h2, hi, hu⟩ := hr
    obtain ⟨e, vals, hown, ⟨hvl, hrl, hcv⟩, hone1⟩ := hO.2.2.2 L _ xs h2 hk
    have hf : ∀ p cc, row[p]? = some cc → w.cell? ⟨b, i * size + p, none⟩ = some (vals.getD (i * size + p) undef) ∧ Val S B (RefR ι σ) w cc (vals.getD (i * size + p) undef) := fun p cc hp => by
      obtain ⟨u, h5, h6⟩ := hcv i p row cc hrow hp
      have hg : vals.getD (i * size + p) undef = u := by rw [List.getD_eq_getElem?_getD, h5]; rfl
      rw [hg]
      have hown2 : w.ownsRow 0 e size (.slice (some ⟨b, 0, none⟩) n c) n vals := by
        rcases id hown.2 with ⟨h3, _⟩ | ⟨g, cap, cur, h3, rest⟩
        · cases h3
        · injection h3 with h3 h4 h5
          rw [← h4] at hown
          exact hown
      exact ⟨row_cell hown2 h5, .cv _ _ h6⟩
    have hone := wrapV_one (by simp; omega) hv
    have hr := run_loadAt_gen (P := P) w b (i * size + j) (fun q => vals.getD (i * size + (j + q)) undef) ht hone fun q hq => by
      have hlt : j + q < row.length := by omega
      rw [Nat.add_assoc]
      exact (hf (j + q) row[j + q] (by simp [hlt])).1
    refine ⟨_, by simp only [execOp, ho, hu, hr, Sem.run_bind, Result.andThen_ok, Sem.run_pure], load_val (f := fun q => vals.getD (i * size + (j + q)) undef) hone (by simp; omega) (fun q cc hc => ?_) hv⟩
    rw [List.getElem?_drop] at hc
    exact (hf (j + q) cc hc).2
end

/-! ### In operations -/
section
variable {P : Program} {o : Oper} {fr : Fr} {σ τ : ASt}
theorem Does.absorb {p L sz : Nat} {xs : List (List V)} {ys : List (Option (List (List V)))} (q : Nat) (h : Does P o fr σ (.hd p L 0 L) τ) (hp : τ[p]? = some (.arr .clo sz xs)) (hL : xs.length = L) (hq : τ[q]? = some (.afm sz ys)) :
    Does P o fr σ (.px q 0 (ys.length : Int) 0) ((τ.set p .dead).set q (.afm sz (ys ++ [some xs]))) := fun S B ι a w he hm next Q hk =>
  h S B ι a w he hm next Q fun u S' ι' w' hv hm' hf => by
    have lq := (List.getElem?_eq_some_iff.1 hq).1
    obtain ⟨v, hpl, _, hz, _⟩ := RefR.hd (Val.inv_ref (v := .hd p L 0 L) rfl trivial hv) hp hL
    obtain ⟨A, c, hv0, hu⟩ := hz rfl
    obtain ⟨l, hql⟩ : ∃ l, ι'[q]? = some l := ⟨ι'[q]'(by rw [hm'.len]; exact lq), by simp⟩
    have hO := hm'.obj q _ _ hq hql
    cases l with
    | row v => exact hO.elim
    | box b => exact hO.elim
    | map r => exact hO.elim
    | fam bs => exact hO.elim
    | afm vs =>
      obtain ⟨hm2, hf2⟩ := memAbsorb hm' hp hq hpl hql
      refine hk u S' _ w' (.ref _ _ ?_) hm2 (hf.trans hf2)
      have lq' := (List.getElem?_eq_some_iff.1 hql).1
      simp only [RefR, List.getElem?_set_self (show q < (τ.set p AO.dead).length by simpa using lq), List.getElem?_set_self lq']
      refine .inr ⟨by omega, ?_, A, L, c, hu⟩
      rw [Int.toNat_natCast, ← hO.2.1, List.getElem?_append_right (Nat.le_refl _), hu]
      simp [hv0]
theorem Does.extract {t q L j sz : Nat} {i : Int} {xs : List (List V)} {ys : List (Option (List (List V)))} {v : V} (ht : lk fr t = some (.px q L i j)) (hop : (Operand.tmp t) ∈ o.op.operands) (hq : σ[q]? = some (.afm sz ys)) (h0 : 0 ≤ i) (hk : ys[i.toNat]? = some (some xs))
    (h : Does P o ((t, .hd σ.length xs.length 0 xs.length) :: fr) (σ.set q (.afm sz (ys.set i.toNat none)) ++ [.arr .clo sz xs]) v τ) : Does P o fr σ v τ := fun S B ι a w he hm next Q hk' => by
  obtain ⟨vs, A, c, hql, hv, hu⟩ := afm_at hm hq h0 hk (he _ hop _ (by simpa [evalE] using ht))
  obtain ⟨hm1, hf1⟩ := memExtract hm hq hql hk hv
  refine h S B _ a w (fun z hz y hy => ?_) hm1 next Q fun u S' ι' w' hv hm' hf' => hk' u S' ι' w' hv hm' (hf1.trans hf')
  have old : ∀ y, evalE fr z = some y → Val S B (RefR (ι ++ [.row (a.eval (.tmp t))]) (σ.set q (.afm sz (ys.set i.toNat none)) ++ [.arr .clo sz xs])) w y (a.eval z) := fun y hy => (he z hz y hy).mono (fun _ h => h) (fun _ h => h) hf1.ref fun _ _ => rfl
  by_cases hzt : z = .tmp t
  · subst hzt
    have hy' : y = .hd σ.length xs.length 0 xs.length := by
      simp [evalE, lk] at hy; exact hy.symm
    subst hy'
    refine .ref _ _ ?_
    have e1 : (σ.set q (.afm sz (ys.set i.toNat none)) ++ [AO.arr .clo sz xs])[σ.length]? = some (.arr .clo sz xs) := by rw [List.getElem?_append_right (by simp)]; simp
    have e2 : (ι ++ [Loc.row (a.eval (.tmp t))])[σ.length]? = some (.row (a.eval (.tmp t))) := by rw [List.getElem?_append_right (by rw [hm.len]; exact Nat.le_refl _)]; simp [hm.len]
    simp only [RefR, e1, e2]
    exact ⟨Nat.le_refl _, fun _ => ⟨by omega, fun _ => ⟨A, c, hu, hu⟩, fun h => absurd rfl h⟩⟩
  · refine old y ?_
    rw [← hy]
    cases z with
    | tmp t' =>
      have : t' ≠ t := fun e => hzt (by rw [e])
      have hb : Nat.beq t t' = false := by
        cases hx : Nat.beq t t' with
        | false => rfl
        | true => exact absurd (Nat.eq_of_beq_eq_true hx).symm this
      simp only [evalE, lk, hb]
    | _ => rfl
end

/-! ### With content told by functions -/
def c_ax {α : Type} (f : α → List V) (x : Option (List α)) : Option (List (List V)) := x.map (List.map f)
/-- What lies at a number. -/
def axg {α : Type} (L : List (Option (List α))) (i : Int) : Option (List α) := if 0 ≤ i then (L[i.toNat]?).bind id else none
theorem axg_s {α : Type} {f : α → List V} {L : List (Option (List α))} {i : Int} {xs : List α} (h : axg L i = some xs) : 0 ≤ i ∧ (L.map (c_ax f))[i.toNat]? = some (some (xs.map f)) := by
  unfold axg at h
  split at h
  · rename_i h0
    refine ⟨h0, ?_⟩
    rw [List.getElem?_map]
    cases hx : L[i.toNat]? with
    | none => rw [hx] at h; cases h
    | some y =>
      rw [hx] at h
      simp only [Option.bind_some, id] at h
      rw [h]; rfl
  · cases h
section
variable {P : Program} {o : Oper} {fr : Fr} {σ τ : ASt} {α : Type} {f : α → List V} {L : List (Option (List α))} {xs : List α} {q sz : Nat}
theorem o_lenX {t e : TypeId} {x : Operand} {l j : Nat} {i : Int} (ho : o.op = .call { callee := .builtin .len, args := #[x], argTypes := #[t] }) (ht : P.underlying t = some (.slice e))
    (hx : evalE fr x = some (.px q l i j)) (hs : σ[q]? = some (.afm sz (L.map (c_ax f)))) (h : axg L i = some xs) : Does P o fr σ (.int .i64 (xs.length : Int)) σ := o_lenAx ho ht hx hs (axg_s (f := f) h).1 (axg_s h).2
theorem o_ixX {t e : TypeId} {x y : Operand} {ag : Bool} {l j : Nat} {i m : Int} {k : IntKind} {a0 : α} (ho : o.op = .indexAddr t x y) (ht : P.underlying t = some (.slice e)) (hs : TyS P e ag sz)
    (hx : evalE fr x = some (.px q l i j)) (hy : evalE fr y = some (.int k m)) (hq : σ[q]? = some (.afm sz (L.map (c_ax f)))) (h1 : axg L i = some xs) (h : idx xs m = some a0) :
    Does P o fr σ (.el q i.toNat m.toNat 0) σ := o_ixAx ho ht hs hx hy hq (axg_s (f := f) h1).1 (axg_s h1).2 h
theorem o_loadX {t : TypeId} {x : Operand} {i m : Int} {ag : Bool} {s : Nat} {a0 : α} {v : V} (ho : o.op = .load t x) (ht : TyS P t ag s) (hx : evalE fr x = some (.el q i.toNat m.toNat 0))
    (hs : σ[q]? = some (.afm sz (L.map (c_ax f)))) (h1 : axg L i = some xs) (h : idx xs m = some a0) (hl : s ≤ (f a0).length) (hv : wrapV ag ((f a0).take s) = some v) : Does P o fr σ v σ :=
  o_loadAx ho ht hx hs (axg_s h1).2 (row := f a0) (by rw [List.getElem?_map, (idx_s h).2]; rfl) (by omega) (by simpa using hv)
/-- A new array, by its number. -/
theorem Does.newX {p n : Nat} (q : Nat) (h : Does P o fr σ (.hd p n 0 n) τ) (hp : τ[p]? = some (.arr .clo sz (xs.map f))) (hL : (xs.map f).length = n) (hq : τ[q]? = some (.afm sz (L.map (c_ax f)))) :
    Does P o fr σ (.px q 0 (L.length : Int) 0) ((τ.set p .dead).set q (.afm sz ((L ++ [some xs]).map (c_ax f)))) := by
  have := Does.absorb q h hp hL hq
  rw [List.length_map] at this
  rw [List.map_append]
  exact this
/-- An operation on an array at a number: the array is taken out for it. -/
theorem Does.outX {t l j : Nat} {i : Int} {v : V} (h1 : axg L i = some xs) (ht : lk fr t = some (.px q l i j)) (hop : (Operand.tmp t) ∈ o.op.operands) (hq : σ[q]? = some (.afm sz (L.map (c_ax f))))
    (h : Does P o ((t, .hd σ.length (xs.map f).length 0 (xs.map f).length) :: fr) (σ.set q (.afm sz ((L.set i.toNat none).map (c_ax f))) ++ [.arr .clo sz (xs.map f)]) v τ) : Does P o fr σ v τ := by
  refine Does.extract ht hop hq (axg_s (f := f) h1).1 (axg_s h1).2 ?_
  rw [List.map_set] at h
  exact h
theorem Lent.ax {l j : Nat} {i : Int} (h : axg L i = some xs) (hq : σ[q]? = some (.afm sz (L.map (c_ax f)))) : Lent σ (.px q l i j) (.im true (xs.map f)) := .afm q l j sz i _ _ hq (axg_s (f := f) h).1 (axg_s h).2
theorem Told.ax {l j : Nat} {i : Int} (h : axg L i = some xs) (hq : σ[q]? = some (.afm sz (L.map (c_ax f)))) : Told σ (.px q l i j) (.im false (xs.map f)) := .afm q l j sz i _ _ hq (axg_s (f := f) h).1 (axg_s h).2
end
theorem el_len {α : Type} {f : α → List V} {xs ys : List α} (p i j : Nat) (h : ys.length = xs.length) : V.el p (xs.map f).length i j = .el p (ys.map f).length i j := by simp only [List.length_map, h]
theorem idx_set {α : Type} {xs : List α} {i : Int} {x y : α} (h : idx xs i = some x) : idx (xs.set i.toNat y) i = some y := by
  obtain ⟨h0, h1⟩ := idx_s h
  unfold idx
  rw [if_pos h0, List.getElem?_set_self (List.getElem?_eq_some_iff.1 h1).1]
theorem Wk.ofEq {v v' : V} (h : v = v') : Wk v v' := h ▸ .same v
noncomputable def eqX {α : Type} (x y : α) : Option Unit := by classical exact if x = y then some () else none
theorem eqX_s {α : Type} {x y : α} {u : Unit} (h : eqX x y = some u) : x = y := by
  unfold eqX at h
  split at h
  · assumption
  · cases h
/-- append of rows that name things. -/
theorem o_apX {P : Program} {o : Oper} {fr : Fr} {σ : ASt} {α : Type} {f : α → List V} {t e : TypeId} {x y : Operand} {p q sz : Nat} {xs ys zs : List α} (ho : o.op = .call { callee := .builtin .append, args := #[x, y], argTypes := #[t, t] }) (ht : P.underlying t = some (.slice e))
    (hte : TyE P e sz) (hx : evalE fr x = some (.hd p xs.length 0 xs.length)) (hy : evalE fr y = some (.hd q ys.length 0 ys.length)) (hs : σ[p]? = some (.arr .raw sz (xs.map f))) (hr : σ[q]? = some (.arr .raw sz (ys.map f)))
    (hrl : ∀ a, (f a).length = sz) (h : app xs ys = some zs) : Does P o fr σ (.hd p zs.length 0 zs.length) (σ.set p (.arr .raw sz (zs.map f))) := by
  obtain ⟨h1, rfl⟩ := app_s h
  have := o_appendR ho ht hte hx hy hs (List.length_map _) hr (List.length_map _) (fun row hrow => by obtain ⟨k, _, rfl⟩ := List.mem_map.1 hrow; exact hrl k) (by omega)
  rw [← List.length_append, ← List.map_append] at this
  exact this
theorem hd_lenR {α β : Type} {xs : List α} {ys : List β} (p : Nat) (h : ys.length = xs.length) : V.hd p xs.length 0 xs.length = .hd p ys.length 0 ys.length := by rw [h]
theorem el_lenR {α β : Type} {xs : List α} {ys : List β} (p i j : Nat) (h : ys.length = xs.length) : V.el p xs.length i j = .el p ys.length i j := by rw [h]
theorem eqAtS {a : AO} {l m : ASt} (h : l = m) : a :: l = a :: m := by rw [h]
theorem eqAtB {a b : AO} {l m : ASt} (h : a = b) (k : l = m) : a :: l = b :: m := by rw [h, k]
theorem Does.to {P : Program} {o : Oper} {fr : Fr} {σ σ1 σ2 : ASt} {v : V} (hd : Does P o fr σ v σ1) (h : σ1 = σ2) : Does P o fr σ v σ2 := h ▸ hd
/-! ### Short words -/
abbrev e0 : ByteArray := ByteArray.mk #[]
theorem nb {n m : Nat} (h : Nat.ble n m = true) : n ≤ m := Nat.le_of_ble_eq_true h
def En (P : Program) (f : FuncId) : Prop := ∀ (us : Array Value) (w : World), (callFunc f us).run P w = .ok (.enter f us) w
theorem En.of {P : Program} {f : FuncId} {fn : Func} {c : Code} (hf : P.funcs[f]? = some fn) (hname : (fn.name == "runtime.NumGoroutine") = false) (hb : fn.body = some c) : En P f := enters hf hname hb
end Go.G36
