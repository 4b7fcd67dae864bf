/- An array takes another one's name. -/
import Derived.Test.YtmlfbendohecmaaKr
namespace Go.G36
variable [Genv]
set_option linter.all false
open Go

mutual
/-- a is not named. -/
def nom (a : Nat) : V → Bool
  | .hd b _ _ _ => !(Nat.beq b a)
  | .bx b _ => !(Nat.beq b a)
  | .el b _ _ _ => !(Nat.beq b a)
  | .px b _ _ _ => !(Nat.beq b a)
  | .mp b => !(Nat.beq b a)
  | .agg cs => noms a cs
  | .tup cs => noms a cs
  | .fn _ cs ds => noms a cs && noms a ds
  | _ => true
def noms (a : Nat) : List V → Bool
  | [] => true
  | c :: r => nom a c && noms a r
end
theorem noms_iff {a : Nat} {cs : List V} : noms a cs = true ↔ ∀ c, c ∈ cs → nom a c = true := by
  induction cs with
  | nil => simp [noms]
  | cons c r ih => simp [noms, ih]

theorem CV.nom {S : Nat → Prop} {w : World} {v : V} {u : Value} (h : CV S w v u) (a : Nat) : G36.nom a v = true := by
  induction h with
  | agg cs us hl _ ih =>
    simp only [G36.nom]
    rw [noms_iff]
    intro c hc
    obtain ⟨i, hi, rfl⟩ := List.mem_iff_getElem.1 hc
    exact ih i _ us[i] (by simp) (by simp)
  | tup cs us hl _ ih =>
    simp only [G36.nom]
    rw [noms_iff]
    intro c hc
    obtain ⟨i, hi, rfl⟩ := List.mem_iff_getElem.1 hc
    exact ih i _ us[i] (by simp) (by simp)
  | _ => simp [G36.nom]

theorem Val.renN {S B : Nat → Prop} {ι ι' : List Loc} {σ σ' : ASt} {w : World} {f : Nat → Nat} {a : Nat} (hr : ∀ v u, G36.nom a v = true → RefR ι σ v u → RefR ι' σ' (G36.ren f v) u) {v : V} {u : Value} (h : Val S B (RefR ι σ) w v u) (hn : G36.nom a v = true) :
    Val S B (RefR ι' σ') w (G36.ren f v) u := by
  induction h with
  | any u => exact .any u
  | cv v u h => rw [h.ren_eq]; exact .cv _ _ h
  | agg cs us hl _ ih =>
    simp only [G36.nom] at hn
    rw [noms_iff] at hn
    simp only [G36.ren, rens_map]
    exact .agg _ us (by simpa using hl) fun i c u hc hu => by
      rw [List.getElem?_map] at hc
      cases hx : cs[i]? with
      | none => simp [hx] at hc
      | some x => simp [hx] at hc; subst hc; exact ih i x u hx hu (hn x (List.mem_of_getElem? hx))
  | tup cs us hl _ ih =>
    simp only [G36.nom] at hn
    rw [noms_iff] at hn
    simp only [G36.ren, rens_map]
    exact .tup _ us (by simpa using hl) fun i c u hc hu => by
      rw [List.getElem?_map] at hc
      cases hx : cs[i]? with
      | none => simp [hx] at hc
      | some x => simp [hx] at hc; subst hc; exact ih i x u hx hu (hn x (List.mem_of_getElem? hx))
  | fn g cs ds us ws h1 h2 _ _ ih1 ih2 =>
    simp only [G36.nom, Bool.and_eq_true] at hn
    rw [noms_iff, noms_iff] at hn
    simp only [G36.ren, rens_map]
    exact .fn g _ _ us ws (by simpa using h1) (by simpa using h2) (fun i c u hc hu => by
      rw [List.getElem?_map] at hc
      cases hx : cs[i]? with
      | none => simp [hx] at hc
      | some x => simp [hx] at hc; subst hc; exact ih1 i x u hx hu (hn.1 x (List.mem_of_getElem? hx))) fun i c u hc hu => by
      rw [List.getElem?_map] at hc
      cases hx : ds[i]? with
      | none => simp [hx] at hc
      | some x => simp [hx] at hc; subst hc; exact ih2 i x u hx hu (hn.2 x (List.mem_of_getElem? hx))
  | imB xs A cap esz vals hc hA hv ho => exact .imB xs A cap esz vals hc hA hv ho
  | rfB cells b off vals hb hc hv ho => exact .rfB cells b off vals hb hc hv ho
  | ref v u h => exact .ref _ _ (hr _ _ hn h)

def mv (k a : Nat) (x : Nat) : Nat := bif Nat.beq x k then a else x
theorem mv_k (k a : Nat) : mv k a k = a := by simp [mv]
theorem mv_o {k a x : Nat} (h : x ≠ k) : mv k a x = x := by
  have : Nat.beq x k = false := by
    cases hb : Nat.beq x k with
    | false => rfl
    | true => exact absurd (Nat.eq_of_beq_eq_true hb) h
  simp [mv, this]

def nomO (a : Nat) : AO → Bool
  | .arr .raw _ xs => xs.all fun r => noms a r
  | .box cs => noms a cs
  | .mp es => es.all fun e => nom a e.2
  | .fam xs => xs.all fun r => noms a r
  | _ => true
def nomF (a : Nat) : Fr → Bool
  | [] => true
  | (_, v) :: r => nom a v && nomF a r
theorem nomF_get {a : Nat} : ∀ {fr : Fr}, nomF a fr = true → ∀ t v, lk fr t = some v → nom a v = true
  | [], _, t, v, h => by simp [lk] at h
  | (s, x) :: r, h, t, v, hl => by
    simp only [nomF, Bool.and_eq_true] at h
    simp only [lk] at hl
    split at hl
    · injection hl with hl; subst hl; exact h.1
    · exact nomF_get h.2 t v hl
def renF (f : Nat → Nat) (fr : Fr) : Fr := fr.map fun p => (p.1, ren f p.2)
theorem lk_renF {f : Nat → Nat} : ∀ {fr : Fr} {t : Nat} {v : V}, lk (renF f fr) t = some v → ∃ x, lk fr t = some x ∧ v = ren f x
  | [], t, v, h => by simp [renF, lk] at h
  | (s, x) :: r, t, v, hl => by
    have ih := lk_renF (f := f) (fr := r) (t := t) (v := v)
    simp only [renF, List.map_cons, lk] at hl ih ⊢
    split at hl
    · rename_i hh
      injection hl with hl
      exact ⟨x, rfl, hl.symm⟩
    · rename_i hh
      obtain ⟨y, h1, h2⟩ := ih hl
      exact ⟨y, h1, h2⟩

/-- The store in which array k has become a. -/
def movO (a k : Nat) (σ : ASt) (i : Nat) (o : AO) : AO := bif Nat.beq i a then (match σ[k]? with | some x => x | none => .dead) else bif Nat.beq i k then .dead else renO (mv k a) o
def movS (a k : Nat) (σ : ASt) : Nat → ASt → ASt
  | _, [] => []
  | i, o :: r => movO a k σ i o :: movS a k σ (i + 1) r
theorem movS_length (a k : Nat) (σ : ASt) : ∀ (i : Nat) (l : ASt), (movS a k σ i l).length = l.length
  | _, [] => rfl
  | i, o :: r => by simp [movS, movS_length a k σ (i + 1) r]
theorem movS_get (a k : Nat) (σ : ASt) : ∀ (i : Nat) (l : ASt) (q : Nat), (movS a k σ i l)[q]? = (l[q]?).map (movO a k σ (i + q))
  | _, [], q => by simp [movS]
  | i, o :: r, 0 => by simp [movS]
  | i, o :: r, q + 1 => by
    simp only [movS, List.getElem?_cons_succ]
    rw [movS_get a k σ (i + 1) r q]
    congr 2; omega

theorem beq_false {x y : Nat} (h : x ≠ y) : Nat.beq x y = false := by
  cases hb : Nat.beq x y with
  | false => rfl
  | true => exact absurd (Nat.eq_of_beq_eq_true hb) h

theorem Cs.reloc {N n : Nat} {fr : Fr} {σ : ASt} (a k : Nat) {sz : Nat} {m : Md} {xs : List (List V)} (hN : Nat.ble N a = true) (hk : σ[k]? = some (.arr m sz xs)) (hm0 : m ≠ .raw) (ha : Nat.blt a σ.length = true) (hak : Nat.beq a k = false)
    (hfr : nomF a fr = true) (hσ : ∀ (i : Nat) (o : AO), σ[i]? = some o → i ≠ a → nomO a o = true) : Cs N n fr σ (renF (mv k a) fr) (movS a k σ 0 σ) := fun S B ι ac w hr => by
  have hN := Nat.le_of_ble_eq_true hN
  have ha : a < σ.length := by simpa [Nat.blt_eq] using ha
  have hak : a ≠ k := fun e => by rw [e, Nat.beq_refl] at hak; cases hak
  have hkl : k < σ.length := (List.getElem?_eq_some_iff.1 hk).1
  have hm := hr.mem
  have hkι : k < ι.length := by rw [hm.len]; exact hkl
  have haι : a < ι.length := by rw [hm.len]; exact ha
  obtain ⟨lk0, hlk⟩ : ∃ l, ι[k]? = some l := ⟨ι[k], by simp [hkι]⟩
  let ι' : List Loc := ι.set a lk0
  have get : ∀ q, (movS a k σ 0 σ)[q]? = (σ[q]?).map (movO a k σ q) := fun q => by rw [movS_get, Nat.zero_add]
  have ga : (movS a k σ 0 σ)[a]? = some (.arr m sz xs) := by
    rw [get]
    have : σ[a]? = some σ[a] := by simp [ha]
    rw [this]
    simp only [Option.map_some, movO, Nat.beq_refl, cond_true, hk]
  have gk : (movS a k σ 0 σ)[k]? = some .dead := by
    rw [get, hk]
    simp only [Option.map_some, movO, beq_false (Ne.symm hak), cond_false, Nat.beq_refl, cond_true]
  have go : ∀ q o, q ≠ a → q ≠ k → σ[q]? = some o → (movS a k σ 0 σ)[q]? = some (renO (mv k a) o) := fun q o h1 h2 h3 => by
    rw [get, h3]
    simp only [Option.map_some, movO, beq_false h1, beq_false h2, cond_false]
  have go' : ∀ q o', q ≠ a → q ≠ k → (movS a k σ 0 σ)[q]? = some o' → ∃ o, σ[q]? = some o ∧ o' = renO (mv k a) o := fun q o' h1 h2 h3 => by
    rw [get] at h3
    cases hq : σ[q]? with
    | none => rw [hq] at h3; cases h3
    | some o =>
      rw [hq] at h3
      simp only [Option.map_some, movO, beq_false h1, beq_false h2, cond_false, Option.some.injEq] at h3
      exact ⟨o, rfl, h3.symm⟩
  have ιa : ι'[a]? = some lk0 := by show (ι.set a lk0)[a]? = _; rw [List.getElem?_set_self haι]
  have ιo : ∀ q, q ≠ a → ι'[q]? = ι[q]? := fun q h => by show (ι.set a lk0)[q]? = _; rw [List.getElem?_set_ne (Ne.symm h)]
  -- references
  have href : ∀ v u, nom a v = true → RefR ι σ v u → RefR ι' (movS a k σ 0 σ) (ren (mv k a) v) u := fun v u hn h => by
    have key : ∀ b o, Nat.beq b a = false → σ[b]? = some o → ∃ o', (movS a k σ 0 σ)[mv k a b]? = some o' ∧ form o' = form o ∧ ι'[mv k a b]? = ι[b]? := fun b o hb ho => by
      have hba : b ≠ a := fun e => by rw [e, Nat.beq_refl] at hb; cases hb
      by_cases hbk : b = k
      · subst hbk
        rw [hk] at ho; injection ho with ho; subst ho
        exact ⟨_, by rw [mv_k]; exact ga, rfl, by rw [mv_k, ιa, hlk]⟩
      · exact ⟨_, by rw [mv_o hbk]; exact go b o hba hbk ho, form_renO _ _, by rw [mv_o hbk]; exact ιo b hba⟩
    cases v with
    | hd b L off len =>
      simp only [nom, Bool.not_eq_true'] at hn
      cases ho : σ[b]? with
      | none => simp [RefR, ho] at h
      | some o =>
        obtain ⟨o', k1, k2, k3⟩ := key b o hn ho
        cases hx : ι[b]? with
        | none =>
          have : b < ι.length := by rw [hm.len]; exact (List.getElem?_eq_some_iff.1 ho).1
          simp [this] at hx
        | some l => exact (RefR.form ho k1 hx (by rw [k3, hx]) k2.symm).1 L off len u h
    | bx b j =>
      simp only [nom, Bool.not_eq_true'] at hn
      cases ho : σ[b]? with
      | none => simp [RefR, ho] at h
      | some o =>
        obtain ⟨o', k1, k2, k3⟩ := key b o hn ho
        cases hx : ι[b]? with
        | none =>
          have : b < ι.length := by rw [hm.len]; exact (List.getElem?_eq_some_iff.1 ho).1
          simp [this] at hx
        | some l => exact (RefR.form ho k1 hx (by rw [k3, hx]) k2.symm).2.1 j u h
    | el b L i j =>
      simp only [nom, Bool.not_eq_true'] at hn
      cases ho : σ[b]? with
      | none => simp [RefR, ho] at h
      | some o =>
        obtain ⟨o', k1, k2, k3⟩ := key b o hn ho
        cases hx : ι[b]? with
        | none =>
          have : b < ι.length := by rw [hm.len]; exact (List.getElem?_eq_some_iff.1 ho).1
          simp [this] at hx
        | some l => exact (RefR.form ho k1 hx (by rw [k3, hx]) k2.symm).2.2.1 L i j u h
    | px b L k' j =>
      simp only [nom, Bool.not_eq_true'] at hn
      cases ho : σ[b]? with
      | none => simp [RefR, ho] at h
      | some o =>
        obtain ⟨o', k1, k2, k3⟩ := key b o hn ho
        cases hx : ι[b]? with
        | none =>
          have : b < ι.length := by rw [hm.len]; exact (List.getElem?_eq_some_iff.1 ho).1
          simp [this] at hx
        | some l => exact (RefR.form ho k1 hx (by rw [k3, hx]) k2.symm).2.2.2.2 L k' j u h
    | mp b =>
      simp only [nom, Bool.not_eq_true'] at hn
      cases ho : σ[b]? with
      | none => simp [RefR, ho] at h
      | some o =>
        obtain ⟨o', k1, k2, k3⟩ := key b o hn ho
        cases hx : ι[b]? with
        | none =>
          have : b < ι.length := by rw [hm.len]; exact (List.getElem?_eq_some_iff.1 ho).1
          simp [this] at hx
        | some l => exact (RefR.form ho k1 hx (by rw [k3, hx]) k2.symm).2.2.2.1 u h
    | _ => exact h.elim
  -- an object's own place among the old ones
  have src : ∀ q o' l, (movS a k σ 0 σ)[q]? = some o' → ι'[q]? = some l → (q = a ∧ o' = .arr m sz xs ∧ l = lk0) ∨ o' = .dead ∨ (q ≠ a ∧ q ≠ k ∧ ∃ o, σ[q]? = some o ∧ ι[q]? = some l ∧ o' = renO (mv k a) o) := fun q o' l h1 h2 => by
    by_cases hqa : q = a
    · subst hqa
      rw [ga] at h1; rw [ιa] at h2
      injection h1 with h1; injection h2 with h2
      exact .inl ⟨rfl, h1.symm, h2.symm⟩
    · by_cases hqk : q = k
      · subst hqk
        rw [gk] at h1; injection h1 with h1
        exact .inr (.inl h1.symm)
      · obtain ⟨o, h3, h4⟩ := go' q o' hqa hqk h1
        exact .inr (.inr ⟨hqa, hqk, o, h3, by rw [← ιo q hqa]; exact h2, h4⟩)
  have hlive : ∀ q o' l b, (movS a k σ 0 σ)[q]? = some o' → ι'[q]? = some l → live o' l b → ∃ q0 o, q0 ≠ a ∧ σ[q0]? = some o ∧ ι[q0]? = some l ∧ live o l b ∧ q = mv k a q0 := fun q o' l b h1 h2 h3 => by
    rcases src q o' l h1 h2 with ⟨rfl, rfl, rfl⟩ | rfl | ⟨k1, k2, o, k3, k4, rfl⟩
    · exact ⟨k, _, Ne.symm hak, hk, hlk, h3, (mv_k k q).symm⟩
    · simp [live] at h3
    · exact ⟨q, o, k1, k3, k4, by rw [live_renO] at h3; exact h3, (mv_o k2).symm⟩
  have hmem : Mem S B ι' (movS a k σ 0 σ) w := by
    refine ⟨by rw [movS_length]; show (ι.set a lk0).length = _; simp [hm.len], fun q o' l h1 h2 => ?_, fun q o' l q' o2 l' b h1 h2 h3 h4 h5 h6 => ?_, fun q o' l b h1 h2 h3 => ?_, hm.ltS, hm.gl⟩
    · rcases src q o' l h1 h2 with ⟨rfl, rfl, rfl⟩ | rfl | ⟨k1, k2, o, k3, k4, rfl⟩
      · have hO := hm.obj k _ _ hk hlk
        cases l with
        | row v =>
          cases m with
          | raw => exact absurd rfl hm0
          | clo => exact hO
          | tg t0 => exact hO
          | frz => exact hO
        | box b => exact hO.elim
        | map r => exact hO.elim
        | it r9 m9 => exact hO.elim
        | fam bs0 => exact hO.elim
        | afm vs0 => exact hO.elim
      · trivial
      · have hO := hm.obj q o l k3 k4
        have hno := hσ q o k3 k1
        cases o with
        | arr m' sz' xs' =>
          cases m' with
          | raw =>
            simp only [nomO, List.all_eq_true] at hno
            cases l with
            | row v =>
              obtain ⟨c1, e, vals, c2, ⟨c3, c4, c5⟩, c6, c7⟩ := hO
              refine ⟨c1, e, vals, by simpa using c2, ⟨by simpa using c3, fun row hrow => ?_, fun x y row c hx hy => ?_⟩, c6, (fun h => by cases h), fun _ h => by cases h⟩
              · obtain ⟨r0, hr0, rfl⟩ := List.mem_map.1 hrow
                rw [rens_map]; simpa using c4 r0 hr0
              · rw [List.getElem?_map] at hx
                cases hxx : xs'[x]? with
                | none => rw [hxx] at hx; cases hx
                | some r0 =>
                  rw [hxx] at hx
                  simp only [Option.map_some, Option.some.injEq] at hx
                  subst hx
                  rw [rens_map, List.getElem?_map] at hy
                  cases hyy : r0[y]? with
                  | none => rw [hyy] at hy; cases hy
                  | some c0 =>
                    rw [hyy] at hy
                    simp only [Option.map_some, Option.some.injEq] at hy
                    subst hy
                    obtain ⟨u', e1, e2⟩ := c5 x y r0 c0 hxx hyy
                    exact ⟨u', e1, e2.renN href ((noms_iff.1 (hno r0 (List.mem_of_getElem? hxx))) c0 (List.mem_of_getElem? hyy))⟩
            | box b => exact hO.elim
            | map r => exact hO.elim
            | it r9 m9 => exact hO.elim
            | fam bs0 => exact hO.elim
            | afm vs0 => exact hO.elim
          | clo => cases l with
            | row v => exact hO
            | box b => exact hO.elim
            | map r => exact hO.elim
            | it r9 m9 => exact hO.elim
            | fam bs0 => exact hO.elim
            | afm vs0 => exact hO.elim
          | tg t0 => cases l with
            | row v => exact hO
            | box b => exact hO.elim
            | map r => exact hO.elim
            | it r9 m9 => exact hO.elim
            | fam bs0 => exact hO.elim
            | afm vs0 => exact hO.elim
          | frz => cases l with
            | row v => exact hO
            | box b => exact hO.elim
            | map r => exact hO.elim
            | it r9 m9 => exact hO.elim
            | fam bs0 => exact hO.elim
            | afm vs0 => exact hO.elim
        | box cs =>
          simp only [nomO] at hno
          rw [noms_iff] at hno
          cases l with
          | box b =>
            obtain ⟨us, c1, ⟨c2, c3⟩, c4⟩ := hO
            refine ⟨us, c1, ⟨by rw [rens_map]; simpa using c2, fun i c u hc hu => ?_⟩, c4⟩
            rw [rens_map, List.getElem?_map] at hc
            cases hx : cs[i]? with
            | none => rw [hx] at hc; cases hc
            | some c0 =>
              rw [hx] at hc
              simp only [Option.map_some, Option.some.injEq] at hc
              subst hc
              exact (c3 i c0 u hx hu).renN href (hno c0 (List.mem_of_getElem? hx))
          | row v => exact hO.elim
          | map r => exact hO.elim
          | it r9 m9 => exact hO.elim
          | fam bs0 => exact hO.elim
          | afm vs0 => exact hO.elim
        | mp es =>
          simp only [nomO, List.all_eq_true] at hno
          cases l with
          | map r0 =>
            obtain ⟨en, clock, c1, c2, cb, c3⟩ := hO
            refine ⟨en, clock, c1, by simpa using c2, cb, fun i kk x mm he hme => ?_⟩
            rw [List.getElem?_map] at he
            cases hx : es[i]? with
            | none => rw [hx] at he; cases he
            | some e0 =>
              rw [hx] at he
              simp only [Option.map_some, Option.some.injEq] at he
              obtain ⟨rfl, rfl⟩ := Prod.mk.injEq .. ▸ he
              exact ⟨(c3 i e0.1 e0.2 mm hx hme).1, (c3 i e0.1 e0.2 mm hx hme).2.renN href (hno e0 (List.mem_of_getElem? hx))⟩
          | it r0 m0 =>
            obtain ⟨hne, en, clock, seen, c0, c1, c1', cb, cc, c2, c3⟩ := hO
            refine ⟨hne, en, clock, seen, c0, c1, c1', cb, by simpa [List.map_map] using cc, by simpa using c2, fun i kk x mm he hme => ?_⟩
            rw [List.getElem?_map] at he
            cases hx : es[i]? with
            | none => rw [hx] at he; cases he
            | some e0 =>
              rw [hx] at he
              simp only [Option.map_some, Option.some.injEq] at he
              obtain ⟨rfl, rfl⟩ := Prod.mk.injEq .. ▸ he
              exact ⟨(c3 i e0.1 e0.2 mm hx hme).1, (c3 i e0.1 e0.2 mm hx hme).2.renN href (hno e0 (List.mem_of_getElem? hx))⟩
          | row v => exact hO.elim
          | box b => exact hO.elim
          | fam bs0 => exact hO.elim
          | afm vs0 => exact hO.elim
        | dead => trivial
        | res => trivial
        | fam xs =>
          simp only [nomO, List.all_eq_true] at hno
          cases l with
          | fam bs =>
            obtain ⟨c0, c1, c2⟩ := hO
            refine ⟨by simpa using c0, c1, fun a b cs ha hc => ?_⟩
            rw [List.getElem?_map] at hc
            cases hx : xs[a]? with
            | none => rw [hx] at hc; cases hc
            | some cs0 =>
              rw [hx] at hc
              simp only [Option.map_some, Option.some.injEq] at hc
              subst hc
              obtain ⟨us', e, e1, ⟨e2, e3⟩, e4⟩ := c2 a b cs0 ha hx
              refine ⟨us', e, e1, ⟨by rw [rens_map]; simpa using e2, fun i c u' hc hu => ?_⟩, e4⟩
              rw [rens_map, List.getElem?_map] at hc
              cases hy : cs0[i]? with
              | none => rw [hy] at hc; cases hc
              | some c0 =>
                rw [hy] at hc
                simp only [Option.map_some, Option.some.injEq] at hc
                subst hc
                exact (e3 i c0 u' hy hu).renN href ((noms_iff.1 (hno cs0 (List.mem_of_getElem? hx))) c0 (List.mem_of_getElem? hy))
          | row v => exact hO.elim
          | box b => exact hO.elim
          | map r => exact hO.elim
          | it r9 m9 => exact hO.elim
          | afm vs0 => exact hO.elim
        | afm size xs =>
          cases l with
          | afm vs => exact hO
          | row v => exact hO.elim
          | box b => exact hO.elim
          | map r => exact hO.elim
          | it r9 m9 => exact hO.elim
          | fam bs0 => exact hO.elim
    · obtain ⟨q0, o, k0, k1, k2, k3, k4⟩ := hlive q o' l b h1 h2 h5
      obtain ⟨q1, o3, k5, k6, k7, k8, k9⟩ := hlive q' o2 l' b h3 h4 h6
      rw [k4, k9, hm.apart q0 o l q1 o3 l' b k1 k2 k6 k7 k3 k8]
    · obtain ⟨q0, o, k0, k1, k2, k3, k4⟩ := hlive q o' l b h1 h2 h3
      exact hm.outS q0 o l b k1 k2 k3
  refine ⟨S, ι', ⟨hr.size, hr.dfr, fun t v hv => ?_, hmem⟩, ⟨rfl, rfl, rfl, Nat.le_refl _, fun _ h => h, fun _ h => .inl h, fun _ _ _ => rfl, fun b ⟨q, o', l, h1, h2, h3⟩ => ?_, fun v u hb hrr => ?_⟩⟩
  · obtain ⟨x, h1, rfl⟩ := lk_renF hv
    exact (hr.fr t x h1).renN href (nomF_get hfr t x h1)
  · obtain ⟨q0, o, k0, k1, k2, k3, k4⟩ := hlive q o' l b h1 h2 h3
    exact .inl ⟨q0, o, l, k1, k2, k3⟩
  · -- a value named below N
    have key : ∀ b, Nat.blt b N = true → b ≠ a := fun b hb => by
      have : b < N := by simpa [Nat.blt_eq] using hb
      omega
    cases v with
    | hd b L off len =>
      simp only [bel] at hb
      have hba := key b hb
      by_cases hbk : b = k
      · subst hbk
        simp only [RefR, gk, ιo b hba, hlk]
      · have := href (.hd b L off len) u (by simp [nom, beq_false hba]) hrr
        simpa only [ren, mv_o hbk] using this
    | bx b j =>
      simp only [bel] at hb
      have hba := key b hb
      have hbk : b ≠ k := fun e => by subst e; simp [RefR, hk] at hrr
      have := href (.bx b j) u (by simp [nom, beq_false hba]) hrr
      simpa only [ren, mv_o hbk] using this
    | el b L i j =>
      simp only [bel] at hb
      have hba := key b hb
      by_cases hbk : b = k
      · subst hbk
        simp only [RefR, gk, ιo b hba, hlk]
      · have := href (.el b L i j) u (by simp [nom, beq_false hba]) hrr
        simpa only [ren, mv_o hbk] using this
    | px b L k' j =>
      simp only [bel] at hb
      have hba := key b hb
      by_cases hbk : b = k
      · subst hbk
        simp only [RefR, gk, ιo b hba, hlk]
      · have := href (.px b L k' j) u (by simp [nom, beq_false hba]) hrr
        simpa only [ren, mv_o hbk] using this
    | mp b =>
      simp only [bel] at hb
      have hba := key b hb
      have hbk : b ≠ k := fun e => by subst e; simp [RefR, hk] at hrr
      have := href (.mp b) u (by simp [nom, beq_false hba]) hrr
      simpa only [ren, mv_o hbk] using this
    | _ => exact hrr.elim
end Go.G36
