/- A call that is handed a part of the store: the callee's own numbers. -/
import Derived.Test.YtmlfbendohecmaaKo
namespace Go.G36
variable [Genv]
set_option linter.all false
open Go

mutual
def ren (f : Nat → Nat) : V → V
  | .hd a L off len => .hd (f a) L off len
  | .bx a j => .bx (f a) j
  | .el a L i j => .el (f a) L i j
  | .px a L k j => .px (f a) L k j
  | .mp a => .mp (f a)
  | .agg cs => .agg (rens f cs)
  | .tup cs => .tup (rens f cs)
  | .fn g cs ds => .fn g (rens f cs) (rens f ds)
  | v => v
def rens (f : Nat → Nat) : List V → List V
  | [] => []
  | c :: r => ren f c :: rens f r
end
theorem rens_map (f : Nat → Nat) : ∀ cs : List V, rens f cs = cs.map (ren f)
  | [] => rfl
  | c :: r => by simp [rens, rens_map f r]

def renO (f : Nat → Nat) : AO → AO
  | .arr .raw sz xs => .arr .raw sz (xs.map (rens f))
  | .box cs => .box (rens f cs)
  | .mp es => .mp (es.map fun e => (e.1, ren f e.2))
  | .fam xs => .fam (xs.map (rens f))
  | o => o

theorem live_renO (f : Nat → Nat) (o : AO) (l : Loc) : live (renO f o) l = live o l := by
  cases o with
  | arr m sz xs => cases m <;> rfl
  | fam xs => cases l <;> rfl
  | afm sz xs => cases l <;> rfl
  | mp es => cases l <;> rfl
  | _ => rfl

/-- The form of an object, as references ask it. -/
def form : AO → Option (Option (Nat × Nat) × Option Nat × Bool)
  | .arr _ sz xs => some (some (sz, xs.length), none, false)
  | .box cs => some (none, some cs.length, false)
  | .mp _ => some (none, none, true)
  | .dead => none
  | .res => some (some (0, 0), none, true)
  | .fam _ => some (none, none, false)
  | .afm sz _ => some (some (sz, 0), some 0, true)
theorem form_renO (f : Nat → Nat) (o : AO) : form (renO f o) = form o := by
  cases o with
  | arr m sz xs => cases m <;> simp [renO, form]
  | box cs => simp [renO, form, rens_map]
  | mp es => rfl
  | dead => rfl
  | res => rfl
  | fam xs => rfl
  | afm sz xs => rfl

theorem RefR.form {ι ι' : List Loc} {σ σ' : ASt} {a a' : Nat} {o o' : AO} {l : Loc} (h1 : σ[a]? = some o) (h2 : σ'[a']? = some o') (h3 : ι[a]? = some l) (h4 : ι'[a']? = some l) (hf : G36.form o = G36.form o') :
    (∀ L off len u, RefR ι σ (.hd a L off len) u → RefR ι' σ' (.hd a' L off len) u) ∧ (∀ j u, RefR ι σ (.bx a j) u → RefR ι' σ' (.bx a' j) u) ∧
    (∀ L i j u, RefR ι σ (.el a L i j) u → RefR ι' σ' (.el a' L i j) u) ∧ (∀ u, RefR ι σ (.mp a) u → RefR ι' σ' (.mp a') u) ∧ ∀ L k j u, RefR ι σ (.px a L k j) u → RefR ι' σ' (.px a' L k j) u := by
  simp only [RefR, h1, h2, h3, h4]
  cases o <;> cases o' <;> first | (exfalso; simp [G36.form] at hf; done) | (simp_all [G36.form] <;> cases l <;> simp_all)

/-- A value without a reference at its head, under other references. -/
theorem Val.noref {S B : Nat → Prop} {ι ι' : List Loc} {σ σ' : ASt} {w : World} {v : V} {u : Value} (hv : match v with | .hd .. | .bx .. | .el .. | .px .. | .mp _ | .agg _ | .tup _ | .fn .. => False | _ => True) (h : Val S B (RefR ι σ) w v u) : Val S B (RefR ι' σ') w v u := by
  cases h with
  | any u => exact .any u
  | cv v u h => exact .cv _ _ h
  | imB xs A cap esz vals hc hA hcv ho => exact .imB xs A cap esz vals hc hA hcv ho
  | rfB cells b off vals hb hc hcv ho => exact .rfB cells b off vals hb hc hcv ho
  | ref v u h => cases v <;> simp_all [RefR]
  | agg => exact hv.elim
  | tup => exact hv.elim
  | fn => exact hv.elim

theorem Val.unren {S B : Nat → Prop} {ι ι' : List Loc} {σ σ' : ASt} {w : World} {f : Nat → Nat} (hr : ∀ v u, RefR ι σ (ren f v) u → RefR ι' σ' v u) (v : V) : ∀ u, Val S B (RefR ι σ) w (ren f v) u → Val S B (RefR ι' σ') w v u := by
  refine V.rec (motive_1 := fun v => ∀ u, Val S B (RefR ι σ) w (ren f v) u → Val S B (RefR ι' σ') w v u)
    (motive_2 := fun cs => ∀ (i : Nat) (c : V), cs[i]? = some c → ∀ u, Val S B (RefR ι σ) w (ren f c) u → Val S B (RefR ι' σ') w c u) (motive_3 := fun _ => True)
    ?_ ?_ ?_ ?_ ?_ ?_ ?_ ?_ ?_ ?_ ?_ ?_ ?_ ?_ ?_ ?_ ?_ ?_ ?_ ?_ ?_ ?_ ?_ v
  · exact fun k n u h => h.noref trivial
  · exact fun b u h => h.noref trivial
  · exact fun s u h => h.noref trivial
  · intro cs ih u h
    simp only [ren] at h
    obtain ⟨us, rfl, h1, h2⟩ := h.inv_agg
    rw [rens_map] at h1 h2
    exact .agg cs us (by simpa using h1) fun i c u hc hu => ih i c hc u (h2 i _ u (by simp [hc]) hu)
  · intro cs ih u h
    simp only [ren] at h
    obtain ⟨us, rfl, h1, h2⟩ := h.inv_tup
    rw [rens_map] at h1 h2
    exact .tup cs us (by simpa using h1) fun i c u hc hu => ih i c hc u (h2 i _ u (by simp [hc]) hu)
  · exact fun b xs _ u h => h.noref trivial
  · exact fun u h => h.noref trivial
  · exact fun a L off len u h => .ref _ _ (hr _ _ (Val.inv_ref rfl trivial h))
  · exact fun a j u h => .ref _ _ (hr _ _ (Val.inv_ref rfl trivial h))
  · exact fun a L i j u h => .ref _ _ (hr _ _ (Val.inv_ref rfl trivial h))
  · exact fun a L k j u h => .ref _ _ (hr _ _ (Val.inv_ref rfl trivial h))
  · exact fun b cells _ u h => h.noref trivial
  · exact fun u h => h.noref trivial
  · exact fun a u h => .ref _ _ (hr _ _ (Val.inv_ref rfl trivial h))
  · exact fun u h => h.noref trivial
  · intro g cs ds ih1 ih2 u h
    simp only [ren] at h
    obtain ⟨us, ws, rfl, h1, h2, h3, h4⟩ := h.inv_fn
    rw [rens_map] at h1 h2 h3 h4
    exact .fn g cs ds us ws (by simpa using h1) (by simpa using h2) (fun i c u hc hu => ih1 i c hc u (h3 i _ u (by simp [hc]) hu)) fun i c u hc hu => ih2 i c hc u (h4 i _ u (by simp [hc]) hu)
  · exact fun u h => h.noref trivial
  · exact fun u h => h.noref trivial
  · exact fun u h => .any u
  · intro i c h; simp at h
  · intro c r ih1 ih2 i x hx
    cases i with
    | zero => simp at hx; subst hx; exact ih1
    | succ i => simp at hx; exact ih2 i x hx
  · trivial
  · intros; trivial

theorem CV.ren_eq {S : Nat → Prop} {w : World} {v : V} {u : Value} (h : CV S w v u) (f : Nat → Nat) : G36.ren f v = v := by
  induction h with
  | agg cs us hl _ ih =>
    simp only [G36.ren, rens_map]
    congr 1
    apply List.ext_getElem?
    intro i
    rw [List.getElem?_map]
    cases hx : cs[i]? with
    | none => rfl
    | some x =>
      have hi : i < us.size := by rw [← hl]; exact (List.getElem?_eq_some_iff.1 hx).1
      simp only [Option.map_some]
      rw [ih i x us[i] hx (by simp)]
  | tup cs us hl _ ih =>
    simp only [G36.ren, rens_map]
    congr 1
    apply List.ext_getElem?
    intro i
    rw [List.getElem?_map]
    cases hx : cs[i]? with
    | none => rfl
    | some x =>
      have hi : i < us.size := by rw [← hl]; exact (List.getElem?_eq_some_iff.1 hx).1
      simp only [Option.map_some]
      rw [ih i x us[i] hx (by simp)]
  | _ => simp [G36.ren]

theorem Val.ren {S B : Nat → Prop} {ι ι' : List Loc} {σ σ' : ASt} {w : World} {f : Nat → Nat} (hr : ∀ v u, RefR ι σ v u → RefR ι' σ' (G36.ren f v) u) {v : V} {u : Value} (h : Val S B (RefR ι σ) w v u) : Val S B (RefR ι' σ') w (G36.ren f v) u := by
  induction h with
  | any u => exact .any u
  | cv v u h => rw [h.ren_eq]; exact .cv _ _ h
  | agg cs us hl _ ih =>
    simp only [G36.ren, rens_map]
    exact .agg _ us (by simpa using hl) fun i c u hc hu => by
      rw [List.getElem?_map] at hc
      cases hx : cs[i]? with
      | none => simp [hx] at hc
      | some x => simp [hx] at hc; subst hc; exact ih i x u hx hu
  | tup cs us hl _ ih =>
    simp only [G36.ren, rens_map]
    exact .tup _ us (by simpa using hl) fun i c u hc hu => by
      rw [List.getElem?_map] at hc
      cases hx : cs[i]? with
      | none => simp [hx] at hc
      | some x => simp [hx] at hc; subst hc; exact ih i x u hx hu
  | fn g cs ds us ws h1 h2 _ _ ih1 ih2 =>
    simp only [G36.ren, rens_map]
    exact .fn g _ _ us ws (by simpa using h1) (by simpa using h2) (fun i c u hc hu => by
      rw [List.getElem?_map] at hc
      cases hx : cs[i]? with
      | none => simp [hx] at hc
      | some x => simp [hx] at hc; subst hc; exact ih1 i x u hx hu) fun i c u hc hu => by
      rw [List.getElem?_map] at hc
      cases hx : ds[i]? with
      | none => simp [hx] at hc
      | some x => simp [hx] at hc; subst hc; exact ih2 i x u hx hu
  | imB xs A cap esz vals hc hA hv ho => exact .imB xs A cap esz vals hc hA hv ho
  | rfB cells b off vals hb hc hv ho => exact .rfB cells b off vals hb hc hv ho
  | ref v u h => exact .ref _ _ (hr _ _ h)

/-! ### Put back -/
def setAll {α : Type} : List Nat → List α → List α → List α
  | r :: ρ, x :: τ, σ => setAll ρ τ (σ.set r x)
  | _, τ, σ => σ ++ τ

/-- The caller's number for the callee's. -/
def rho (ρ : List Nat) (N : Nat) (i : Nat) : Nat := match ρ[i]? with
  | some r => r
  | none => N + (i - ρ.length)

theorem setAll_length {α : Type} : ∀ (ρ : List Nat) (τ σ : List α), ρ.length ≤ τ.length → (setAll ρ τ σ).length = σ.length + (τ.length - ρ.length)
  | [], τ, σ, h => by simp [setAll]
  | r :: ρ, [], σ, h => by simp at h
  | r :: ρ, x :: τ, σ, h => by
    simp only [setAll]
    rw [setAll_length ρ τ _ (by simpa using h)]
    simp

theorem setAll_other {α : Type} : ∀ (ρ : List Nat) (τ σ : List α) (q : Nat), q < σ.length → (∀ i : Nat, ρ[i]? ≠ some q) → (setAll ρ τ σ)[q]? = σ[q]?
  | [], τ, σ, q, hq, h => by simp [setAll, List.getElem?_append_left hq]
  | r :: ρ, [], σ, q, hq, h => by simp [setAll]
  | r :: ρ, x :: τ, σ, q, hq, h => by
    simp only [setAll]
    rw [setAll_other ρ τ _ q (by simpa using hq) fun i => by have := h (i + 1); simpa using this]
    have h0 := h 0
    simp at h0
    rw [List.getElem?_set_ne h0]

theorem setAll_at {α : Type} : ∀ (ρ : List Nat) (τ σ : List α), ρ.length ≤ τ.length → ρ.Nodup → (∀ i r : Nat, ρ[i]? = some r → r < σ.length) → ∀ i, (setAll ρ τ σ)[rho ρ σ.length i]? = τ[i]?
  | [], τ, σ, hl, hn, hlt, i => by
    simp only [setAll, rho, List.getElem?_nil, List.length_nil, Nat.sub_zero]
    rw [List.getElem?_append_right (by omega)]
    congr 1; omega
  | r :: ρ, [], σ, hl, hn, hlt, i => by simp at hl
  | r :: ρ, x :: τ, σ, hl, hn, hlt, i => by
    simp only [setAll]
    have hn' := List.nodup_cons.1 hn
    cases i with
    | zero =>
      have hr : r < σ.length := hlt 0 r rfl
      show (setAll ρ τ (σ.set r x))[r]? = some x
      rw [setAll_other ρ τ _ r (by simpa using hr) fun i h => hn'.1 (List.mem_of_getElem? h)]
      simp [hr]
    | succ i =>
      have := setAll_at ρ τ (σ.set r x) (by simpa using hl) hn'.2 (fun i q h => by simpa using hlt (i + 1) q (by simpa using h)) i
      simp only [List.length_set] at this
      have he : rho (r :: ρ) σ.length (i + 1) = rho ρ σ.length i := by
        simp only [rho, List.getElem?_cons_succ, List.length_cons]
        split
        · rfl
        · congr 1; omega
      rw [he]
      simpa using this

/-- Each number of what was put back. -/
theorem setAll_cases {α : Type} {ρ : List Nat} {τ σ : List α} (hl : ρ.length ≤ τ.length) (q : Nat) (hq : q < (setAll ρ τ σ).length) : (∃ i, i < τ.length ∧ q = rho ρ σ.length i) ∨ (q < σ.length ∧ ∀ i : Nat, ρ[i]? ≠ some q) := by
  rw [setAll_length ρ τ σ hl] at hq
  by_cases hm : ∃ i : Nat, ρ[i]? = some q
  · obtain ⟨i, hi⟩ := hm
    have := (List.getElem?_eq_some_iff.1 hi).1
    exact .inl ⟨i, by omega, by simp [rho, hi]⟩
  · rcases Nat.lt_or_ge q σ.length with h | h
    · exact .inr ⟨h, fun i hi => hm ⟨i, hi⟩⟩
    · refine .inl ⟨ρ.length + (q - σ.length), by omega, ?_⟩
      simp only [rho]
      rw [List.getElem?_eq_none (by omega)]
      simp; omega

/-- The part of the store that is handed over: its objects by the callee's numbers. -/
structure Part (ρ : List Nat) (σ τ : ASt) : Prop where
  len : τ.length = ρ.length
  nodup : ρ.Nodup
  obj : ∀ (i : Nat) (o : AO), τ[i]? = some o → ∃ r, ρ[i]? = some r ∧ σ[r]? = some (renO (rho ρ σ.length) o)

/-- The part, as memory of its own. -/
theorem memPart {S B : Nat → Prop} {ι : List Loc} {σ τ : ASt} {ρ : List Nat} {w : World} (hm : Mem S B ι σ w) (hp : Part ρ σ τ) : ∃ ιτ, Mem S B ιτ τ w ∧ (∀ v u, RefR ι σ (ren (rho ρ σ.length) v) u → RefR ιτ τ v u) ∧
    (∀ (i : Nat) (o : AO) (l : Loc), τ[i]? = some o → ιτ[i]? = some l → ∃ r, ρ[i]? = some r ∧ σ[r]? = some (renO (rho ρ σ.length) o) ∧ ι[r]? = some l) ∧ (∀ b, Lv ιτ τ b → Lv ι σ b) ∧
    (∀ i r : Nat, ρ[i]? = some r → r < σ.length) := by
  have hρlt : ∀ i r : Nat, ρ[i]? = some r → r < σ.length := fun i r hi => by
    have hiτ : i < τ.length := by rw [hp.len]; exact (List.getElem?_eq_some_iff.1 hi).1
    obtain ⟨r', h1, h2⟩ := hp.obj i τ[i] (by simp)
    rw [hi] at h1; injection h1 with h1; subst h1
    exact (List.getElem?_eq_some_iff.1 h2).1
  generalize hf : rho ρ σ.length = f at *
  have fρ : ∀ i r : Nat, ρ[i]? = some r → f i = r := fun i r hi => by rw [← hf]; simp [rho, hi]
  -- the callee's places
  let ιτ : List Loc := ρ.map fun r => ι.getD r (.box 0 0)
  have hιτ : ∀ i r : Nat, ρ[i]? = some r → ιτ[i]? = ι[r]? := fun i r hi => by
    have hr := hρlt i r hi
    have hr2 : r < ι.length := by rw [hm.len]; exact hr
    show (ρ.map _)[i]? = _
    rw [List.getElem?_map, hi]
    simp [List.getD_eq_getElem?_getD, hr2]
  have objτ : ∀ (i : Nat) (o : AO), τ[i]? = some o → ∃ r l, ρ[i]? = some r ∧ σ[r]? = some (renO f o) ∧ ι[r]? = some l ∧ ιτ[i]? = some l ∧ f i = r := fun i o ho => by
    obtain ⟨r, h1, h2⟩ := hp.obj i o ho
    have hr2 : r < ι.length := by rw [hm.len]; exact hρlt i r h1
    exact ⟨r, ι[r], h1, hf ▸ h2, by simp [hr2], by rw [hιτ i r h1]; simp [hr2], fρ i r h1⟩
  have big : ∀ i, ¬ i < τ.length → σ[f i]? = none := fun i hi => by
    rw [← hf]
    have : ρ[i]? = none := List.getElem?_eq_none (by rw [← hp.len]; omega)
    refine List.getElem?_eq_none ?_
    simp only [rho, this]
    omega
  -- references, down and up
  have down : ∀ v u, RefR ι σ (ren f v) u → RefR ιτ τ v u := fun v u h => by
    have key : ∀ a, (∃ o, τ[a]? = some o) ∨ σ[f a]? = none := fun a => by
      by_cases ha : a < τ.length
      · exact .inl ⟨τ[a], by simp [ha]⟩
      · exact .inr (big a ha)
    cases v with
    | hd a L off len =>
      rcases key a with ⟨o, ho⟩ | hn
      · obtain ⟨r, l, h1, h2, h3, h4, h5⟩ := objτ a o ho
        simp only [ren, h5] at h
        exact (RefR.form h2 ho h3 h4 (form_renO f o)).1 L off len u h
      · simp [ren, RefR, hn] at h
    | bx a j =>
      rcases key a with ⟨o, ho⟩ | hn
      · obtain ⟨r, l, h1, h2, h3, h4, h5⟩ := objτ a o ho
        simp only [ren, h5] at h
        exact (RefR.form h2 ho h3 h4 (form_renO f o)).2.1 j u h
      · simp [ren, RefR, hn] at h
    | el a L i j =>
      rcases key a with ⟨o, ho⟩ | hn
      · obtain ⟨r, l, h1, h2, h3, h4, h5⟩ := objτ a o ho
        simp only [ren, h5] at h
        exact (RefR.form h2 ho h3 h4 (form_renO f o)).2.2.1 L i j u h
      · simp [ren, RefR, hn] at h
    | px a L k' j =>
      rcases key a with ⟨o, ho⟩ | hn
      · obtain ⟨r, l, h1, h2, h3, h4, h5⟩ := objτ a o ho
        simp only [ren, h5] at h
        exact (RefR.form h2 ho h3 h4 (form_renO f o)).2.2.2.2 L k' j u h
      · simp [ren, RefR, hn] at h
    | mp a =>
      rcases key a with ⟨o, ho⟩ | hn
      · obtain ⟨r, l, h1, h2, h3, h4, h5⟩ := objτ a o ho
        simp only [ren, h5] at h
        exact (RefR.form h2 ho h3 h4 (form_renO f o)).2.2.2.1 u h
      · simp [ren, RefR, hn] at h
    | _ => exact h.elim
  have hobj : ∀ (i : Nat) (o : AO) (l : Loc), τ[i]? = some o → ιτ[i]? = some l → ∃ r, ρ[i]? = some r ∧ σ[r]? = some (renO f o) ∧ ι[r]? = some l := fun i o l ho hl => by
    obtain ⟨r, l', h1, h2, h3, h4, h5⟩ := objτ i o ho
    rw [hl] at h4; injection h4 with h4; subst h4
    exact ⟨r, h1, h2, h3⟩
  have hmτ : Mem S B ιτ τ w := by
    refine ⟨by show (ρ.map _).length = _; simp [hp.len], fun i o l ho hl => ?_, fun i o l i' o' l' b h1 h2 h3 h4 h5 h6 => ?_, fun i o l b h1 h2 h3 => ?_, hm.ltS, hm.gl⟩
    · obtain ⟨r, h1, h2, h3⟩ := hobj i o l ho hl
      have hO := hm.obj r _ l h2 h3
      cases o with
      | arr m sz xs =>
        cases l with
        | row v =>
          cases m with
          | raw =>
            obtain ⟨k1, e, vals, k2, ⟨k3, k4, k5⟩, k6, k7⟩ := hO
            refine ⟨k1, e, vals, by simpa using k2, ⟨by simpa using k3, fun row hrow => ?_, fun a b row c ha hb => ?_⟩, k6, (fun h => by cases h), fun _ h => by cases h⟩
            · have := k4 (rens f row) (List.mem_map.2 ⟨row, hrow, rfl⟩)
              simpa [rens_map] using this
            · obtain ⟨u, e1, e2⟩ := k5 a b (rens f row) (ren f c) (by simp [ha]) (by rw [rens_map, List.getElem?_map, hb]; rfl)
              exact ⟨u, e1, Val.unren down c u e2⟩
          | clo => exact hO
          | tg t0 => exact hO
          | frz => exact hO
        | box b => cases m <;> exact hO.elim
        | map r => cases m <;> exact hO.elim
        | it r9 m9 => cases m <;> exact hO.elim
        | fam bs0 => cases m <;> exact hO.elim
        | afm vs0 => cases m <;> exact hO.elim
      | box cs =>
        cases l with
        | box b =>
          obtain ⟨us', k1, ⟨k2, k3⟩, k4⟩ := hO
          rw [rens_map] at k2 k3
          exact ⟨us', k1, ⟨by simpa using k2, fun a c u hc hu => Val.unren down c u (k3 a _ u (by simp [hc]) hu)⟩, k4⟩
        | row v => exact hO.elim
        | map r => exact hO.elim
        | it r9 m9 => exact hO.elim
        | fam bs0 => exact hO.elim
        | afm vs0 => exact hO.elim
      | mp es =>
        cases l with
        | map r0 =>
          obtain ⟨en, clock, k1, k2, kb, k3⟩ := hO
          refine ⟨en, clock, k1, by simpa using k2, kb, fun a k x m he hm' => ?_⟩
          have := k3 a k (ren f x) m (by simp [he]) hm'
          exact ⟨this.1, Val.unren down x _ this.2⟩
        | it r0 m0 =>
          obtain ⟨hne, en, clock, seen, c0, k1, k1', kb, kc, k2, k3⟩ := hO
          refine ⟨hne, en, clock, seen, c0, k1, k1', kb, by simpa [List.map_map] using kc, by simpa using k2, fun a k x m he hm' => ?_⟩
          have := k3 a k (ren f x) m (by simp [he]) hm'
          exact ⟨this.1, Val.unren down x _ this.2⟩
        | row v => exact hO.elim
        | box b => exact hO.elim
        | fam bs0 => exact hO.elim
        | afm vs0 => exact hO.elim
      | dead => trivial
      | res => trivial
      | fam xs =>
        cases l with
        | fam bs =>
          obtain ⟨k1, k2, k3⟩ := hO
          refine ⟨by simpa using k1, k2, fun a b cs ha hc => ?_⟩
          obtain ⟨us', e, e1, ⟨e2, e3⟩, e4⟩ := k3 a b (rens f cs) ha (by simp [hc])
          rw [rens_map] at e2 e3
          exact ⟨us', e, e1, ⟨by simpa using e2, fun a c u hc hu => Val.unren down c u (e3 a _ u (by simp [hc]) hu)⟩, e4⟩
        | row v => exact hO.elim
        | box b => exact hO.elim
        | map r => exact hO.elim
        | it r9 m9 => exact hO.elim
        | afm vs0 => exact hO.elim
      | afm size xs =>
        cases l with
        | afm vs => exact hO
        | row v => exact hO.elim
        | box b => exact hO.elim
        | map r => exact hO.elim
        | it r9 m9 => exact hO.elim
        | fam bs0 => exact hO.elim
    · obtain ⟨r, k1, k2, k3⟩ := hobj i o l h1 h2
      obtain ⟨r', k4, k5, k6⟩ := hobj i' o' l' h3 h4
      have := hm.apart r _ l r' _ l' b k2 k3 k5 k6 (by rw [live_renO]; exact h5) (by rw [live_renO]; exact h6)
      subst this
      have hi := (List.getElem?_eq_some_iff.1 k1)
      have hi' := (List.getElem?_eq_some_iff.1 k4)
      obtain ⟨q1, q2⟩ := hi
      obtain ⟨q3, q4⟩ := hi'
      exact (List.getElem?_inj q1 hp.nodup).1 (k1.trans k4.symm)
    · obtain ⟨r, k1, k2, k3⟩ := hobj i o l h1 h2
      exact hm.outS r _ l b k2 k3 (by rw [live_renO]; exact h3)
  have hLv : ∀ b, Lv ιτ τ b → Lv ι σ b := fun b ⟨i, o, l, h1, h2, h3⟩ => by
    obtain ⟨r, k1, k2, k3⟩ := hobj i o l h1 h2
    exact ⟨r, _, l, k2, k3, by rw [live_renO]; exact h3⟩
  exact ⟨ιτ, hmτ, down, hobj, hLv, hρlt⟩

theorem CallT.part {P : Program} {g : FuncId} {args : List V} {τ σ : ASt} {ρ : List Nat} {Q : V → ASt → Prop} (h : CallT P g args τ Q) (hp : Part ρ σ τ) (hQ : ∀ v τ', Q v τ' → τ.length ≤ τ'.length) :
    CallT P g (rens (rho ρ σ.length) args) σ fun v σ' => ∃ v0 τ', Q v0 τ' ∧ v = ren (rho ρ σ.length) v0 ∧ σ' = setAll ρ (τ'.map (renO (rho ρ σ.length))) σ := fun S B ι us w hm hargs => by
  obtain ⟨ιτ, hmτ, down, hobj, hLv, hρlt⟩ := memPart hm hp
  generalize hf : rho ρ σ.length = f at *
  have fρ : ∀ i r : Nat, ρ[i]? = some r → f i = r := fun i r hi => by rw [← hf]; simp [rho, hi]
  have hargs' : PW (Val S B (RefR ιτ τ) w) args us := by
    rw [rens_map] at hargs
    exact ⟨by simpa using hargs.1, fun i c u hc hu => Val.unren down c u (hargs.2 i _ u (by simp [hc]) hu)⟩
  refine (h S B ιτ us w hmτ hargs').mono ?_
  rintro e w' ⟨u, v0, τ', S', ι', rfl, hQv, hv, hm', hfw⟩
  have hle : ρ.length ≤ τ'.length := by rw [← hp.len]; exact hQ v0 τ' hQv
  have hleι : ρ.length ≤ ι'.length := by rw [hm'.len]; exact hle
  have hρι : ∀ i r : Nat, ρ[i]? = some r → r < ι.length := fun i r hi => by rw [hm.len]; exact hρlt i r hi
  have hff : ∀ i, rho ρ ι.length i = f i := fun i => by rw [hm.len, ← hf]
  -- what was put back
  have atσ : ∀ i, (setAll ρ (τ'.map (renO f)) σ)[f i]? = (τ'[i]?).map (renO f) := fun i => by
    have := setAll_at ρ (τ'.map (renO f)) σ (by simpa using hle) hp.nodup hρlt i
    rw [hf] at this
    rw [this, List.getElem?_map]
  have atι : ∀ i, (setAll ρ ι' ι)[f i]? = ι'[i]? := fun i => by
    have := setAll_at ρ ι' ι hleι hp.nodup hρι i
    rwa [hff] at this
  have othσ : ∀ q, q < σ.length → (∀ i : Nat, ρ[i]? ≠ some q) → (setAll ρ (τ'.map (renO f)) σ)[q]? = σ[q]? ∧ (setAll ρ ι' ι)[q]? = ι[q]? := fun q hq hn =>
    ⟨setAll_other ρ _ σ q hq hn, setAll_other ρ _ ι q (by rw [hm.len]; exact hq) hn⟩
  have lenσ : (setAll ρ (τ'.map (renO f)) σ).length = σ.length + (τ'.length - ρ.length) := by rw [setAll_length _ _ _ (by simpa using hle)]; simp
  have lenι : (setAll ρ ι' ι).length = ι.length + (ι'.length - ρ.length) := setAll_length _ _ _ hleι
  -- an object of what was put back: the callee's, or an old one
  have split : ∀ (q : Nat) (o : AO) (l : Loc), (setAll ρ (τ'.map (renO f)) σ)[q]? = some o → (setAll ρ ι' ι)[q]? = some l →
      (∃ i o', q = f i ∧ τ'[i]? = some o' ∧ o = renO f o' ∧ ι'[i]? = some l) ∨ (σ[q]? = some o ∧ ι[q]? = some l ∧ ∀ i : Nat, ρ[i]? ≠ some q) := fun q o l h1 h2 => by
    rcases setAll_cases (ρ := ρ) (τ := τ'.map (renO f)) (σ := σ) (by simpa using hle) q (List.getElem?_eq_some_iff.1 h1).1 with ⟨i, hi, rfl⟩ | ⟨hq, hn⟩
    · rw [hf] at h1 h2 ⊢
      rw [atσ] at h1
      rw [atι] at h2
      cases hx : τ'[i]? with
      | none => rw [hx] at h1; cases h1
      | some o' =>
        rw [hx] at h1
        simp only [Option.map_some, Option.some.injEq] at h1
        exact .inl ⟨i, o', rfl, hx, h1.symm, h2⟩
    · rw [(othσ q hq hn).1] at h1
      rw [(othσ q hq hn).2] at h2
      exact .inr ⟨h1, h2, hn⟩
  have up' : ∀ v u, RefR ι' τ' v u → RefR (setAll ρ ι' ι) (setAll ρ (τ'.map (renO f)) σ) (ren f v) u := fun v u h => by
    have key : ∀ a o, τ'[a]? = some o → ∃ l, ι'[a]? = some l ∧ (setAll ρ (τ'.map (renO f)) σ)[f a]? = some (renO f o) ∧ (setAll ρ ι' ι)[f a]? = some l := fun a o ho => by
      have hal : a < ι'.length := by rw [hm'.len]; exact (List.getElem?_eq_some_iff.1 ho).1
      exact ⟨ι'[a], by simp [hal], by rw [atσ, ho]; rfl, by rw [atι]; simp [hal]⟩
    cases v with
    | hd a L off len =>
      cases hx : τ'[a]? with
      | none => simp [RefR, hx] at h
      | some o =>
        obtain ⟨l, k1, k2, k3⟩ := key a o hx
        exact (RefR.form hx k2 k1 k3 (form_renO f o).symm).1 L off len u h
    | bx a j =>
      cases hx : τ'[a]? with
      | none => simp [RefR, hx] at h
      | some o =>
        obtain ⟨l, k1, k2, k3⟩ := key a o hx
        exact (RefR.form hx k2 k1 k3 (form_renO f o).symm).2.1 j u h
    | el a L i j =>
      cases hx : τ'[a]? with
      | none => simp [RefR, hx] at h
      | some o =>
        obtain ⟨l, k1, k2, k3⟩ := key a o hx
        exact (RefR.form hx k2 k1 k3 (form_renO f o).symm).2.2.1 L i j u h
    | px a L k' j =>
      cases hx : τ'[a]? with
      | none => simp [RefR, hx] at h
      | some o =>
        obtain ⟨l, k1, k2, k3⟩ := key a o hx
        exact (RefR.form hx k2 k1 k3 (form_renO f o).symm).2.2.2.2 L k' j u h
    | mp a =>
      cases hx : τ'[a]? with
      | none => simp [RefR, hx] at h
      | some o =>
        obtain ⟨l, k1, k2, k3⟩ := key a o hx
        exact (RefR.form hx k2 k1 k3 (form_renO f o).symm).2.2.2.1 u h
    | _ => exact h.elim
  have href : ∀ v u, RefR ι σ v u → RefR (setAll ρ ι' ι) (setAll ρ (τ'.map (renO f)) σ) v u := fun v u h => by
    have key : ∀ a o, σ[a]? = some o → (∃ i, f i = a ∧ ρ[i]? = some a) ∨ ((setAll ρ (τ'.map (renO f)) σ)[a]? = some o ∧ ∃ l, ι[a]? = some l ∧ (setAll ρ ι' ι)[a]? = some l) := fun a o ho => by
      by_cases hx : ∃ i : Nat, ρ[i]? = some a
      · obtain ⟨i, hi⟩ := hx
        exact .inl ⟨i, fρ i a hi, hi⟩
      · have hal : a < σ.length := (List.getElem?_eq_some_iff.1 ho).1
        have hal2 : a < ι.length := by rw [hm.len]; exact hal
        obtain ⟨k1, k2⟩ := othσ a hal fun i hi => hx ⟨i, hi⟩
        exact .inr ⟨by rw [k1]; exact ho, ι[a], by simp [hal2], by rw [k2]; simp [hal2]⟩
    cases v with
    | hd a L off len =>
      cases hx : σ[a]? with
      | none => simp [RefR, hx] at h
      | some o =>
        rcases key a o hx with ⟨i, h1, h2⟩ | ⟨k1, l, k2, k3⟩
        · have := up' _ _ (hfw.ref _ _ (down (.hd i L off len) u (by simp only [ren, h1]; exact h)))
          simpa only [ren, h1] using this
        · exact (RefR.form hx k1 k2 k3 rfl).1 L off len u h
    | bx a j =>
      cases hx : σ[a]? with
      | none => simp [RefR, hx] at h
      | some o =>
        rcases key a o hx with ⟨i, h1, h2⟩ | ⟨k1, l, k2, k3⟩
        · have := up' _ _ (hfw.ref _ _ (down (.bx i j) u (by simp only [ren, h1]; exact h)))
          simpa only [ren, h1] using this
        · exact (RefR.form hx k1 k2 k3 rfl).2.1 j u h
    | el a L i' j =>
      cases hx : σ[a]? with
      | none => simp [RefR, hx] at h
      | some o =>
        rcases key a o hx with ⟨i, h1, h2⟩ | ⟨k1, l, k2, k3⟩
        · have := up' _ _ (hfw.ref _ _ (down (.el i L i' j) u (by simp only [ren, h1]; exact h)))
          simpa only [ren, h1] using this
        · exact (RefR.form hx k1 k2 k3 rfl).2.2.1 L i' j u h
    | px a L k' j =>
      cases hx : σ[a]? with
      | none => simp [RefR, hx] at h
      | some o =>
        rcases key a o hx with ⟨i, h1, h2⟩ | ⟨k1, l, k2, k3⟩
        · have := up' _ _ (hfw.ref _ _ (down (.px i L k' j) u (by simp only [ren, h1]; exact h)))
          simpa only [ren, h1] using this
        · exact (RefR.form hx k1 k2 k3 rfl).2.2.2.2 L k' j u h
    | mp a =>
      cases hx : σ[a]? with
      | none => simp [RefR, hx] at h
      | some o =>
        rcases key a o hx with ⟨i, h1, h2⟩ | ⟨k1, l, k2, k3⟩
        · have := up' _ _ (hfw.ref _ _ (down (.mp i) u (by simp only [ren, h1]; exact h)))
          simpa only [ren, h1] using this
        · exact (RefR.form hx k1 k2 k3 rfl).2.2.2.1 u h
    | _ => exact h.elim
  have same : ∀ b, S b ∨ B b → w'.heap[b]? = w.heap[b]? := hmτ.same hfw
  -- an old object that was not handed over
  have oldlive : ∀ (q : Nat) (o : AO) (l : Loc) (b : Nat), σ[q]? = some o → ι[q]? = some l → (∀ i : Nat, ρ[i]? ≠ some q) → live o l b → b < w.heap.size ∧ ¬ Lv ιτ τ b := fun q o l b h1 h2 h3 h4 => by
    refine ⟨live_lt (hm.obj q o l h1 h2) h4, fun ⟨i, o', l', k1, k2, k3⟩ => ?_⟩
    obtain ⟨r, e1, e2, e3⟩ := hobj i o' l' k1 k2
    have := hm.apart q o l r _ l' b h1 h2 e2 e3 h4 (by rw [live_renO]; exact k3)
    exact h3 i (by rw [e1, this])
  refine ⟨u, ren f v0, _, S', setAll ρ ι' ι, rfl, ⟨v0, τ', hQv, rfl, rfl⟩, hv.ren up', ⟨?_, fun q o l h1 h2 => ?_, fun q o l q' o' l' b h1 h2 h3 h4 h5 h6 => ?_, fun q o l b h1 h2 h3 => ?_, hm'.ltS, hm'.gl⟩,
    ⟨hfw.os, hfw.tape, hfw.output, hfw.size, hfw.grow, fun b hb => ?_, fun b hb hn => hfw.keep b hb fun h => hn (hLv b h), fun b ⟨q, o, l, h1, h2, h3⟩ => ?_, href⟩⟩
  · rw [lenσ, lenι, hm.len, hm'.len]
  · rcases split q o l h1 h2 with ⟨i, o', rfl, k1, rfl, k2⟩ | ⟨k1, k2, k3⟩
    · have hO := hm'.obj i o' l k1 k2
      cases o' with
      | arr m sz xs =>
        cases l with
        | row v =>
          cases m with
          | raw =>
            obtain ⟨c1, e, vals, c2, ⟨c3, c4, c5⟩, c6, c7⟩ := hO
            refine ⟨c1, e, vals, by simpa using c2, ⟨by simpa using c3, fun row hrow => ?_, fun a b row c ha hb => ?_⟩, c6, (fun h => by cases h), fun _ h => by cases h⟩
            · obtain ⟨r0, hr0, rfl⟩ := List.mem_map.1 hrow
              rw [rens_map]; simpa using c4 r0 hr0
            · rw [List.getElem?_map] at ha
              cases hx : xs[a]? with
              | none => rw [hx] at ha; cases ha
              | some r0 =>
                rw [hx] at ha
                simp only [Option.map_some, Option.some.injEq] at ha
                subst ha
                rw [rens_map, List.getElem?_map] at hb
                cases hy : r0[b]? with
                | none => rw [hy] at hb; cases hb
                | some c0 =>
                  rw [hy] at hb
                  simp only [Option.map_some, Option.some.injEq] at hb
                  subst hb
                  obtain ⟨u', e1, e2⟩ := c5 a b r0 c0 hx hy
                  exact ⟨u', e1, Val.ren up' e2⟩
          | clo => exact hO
          | tg t0 => exact hO
          | frz => exact hO
        | box b => cases m <;> exact hO.elim
        | map r => cases m <;> exact hO.elim
        | it r9 m9 => cases m <;> exact hO.elim
        | fam bs0 => cases m <;> exact hO.elim
        | afm vs0 => cases m <;> exact hO.elim
      | box cs =>
        cases l with
        | box b =>
          obtain ⟨us', c1, ⟨c2, c3⟩, c4⟩ := hO
          refine ⟨us', c1, ⟨by rw [rens_map]; simpa using c2, fun a c u' hc hu => ?_⟩, c4⟩
          rw [rens_map, List.getElem?_map] at hc
          cases hx : cs[a]? with
          | none => rw [hx] at hc; cases hc
          | some c0 =>
            rw [hx] at hc
            simp only [Option.map_some, Option.some.injEq] at hc
            subst hc
            exact (c3 a c0 u' hx hu).ren up'
        | row v => exact hO.elim
        | map r => exact hO.elim
        | it r9 m9 => exact hO.elim
        | fam bs0 => exact hO.elim
        | afm vs0 => exact hO.elim
      | mp es =>
        cases l with
        | map r0 =>
          obtain ⟨en, clock, c1, c2, cb, c3⟩ := hO
          refine ⟨en, clock, c1, by simpa using c2, cb, fun a k x m he hme => ?_⟩
          rw [List.getElem?_map] at he
          cases hx : es[a]? with
          | none => rw [hx] at he; cases he
          | some e0 =>
            rw [hx] at he
            simp only [Option.map_some, Option.some.injEq] at he
            obtain ⟨rfl, rfl⟩ := Prod.mk.injEq .. ▸ he
            exact ⟨(c3 a e0.1 e0.2 m hx hme).1, (c3 a e0.1 e0.2 m hx hme).2.ren up'⟩
        | it r0 m0 =>
          obtain ⟨hne, en, clock, seen, c0, c1, c1', cb, cc, c2, c3⟩ := hO
          refine ⟨hne, en, clock, seen, c0, c1, c1', cb, by simpa [List.map_map] using cc, by simpa using c2, fun a k x m he hme => ?_⟩
          rw [List.getElem?_map] at he
          cases hx : es[a]? with
          | none => rw [hx] at he; cases he
          | some e0 =>
            rw [hx] at he
            simp only [Option.map_some, Option.some.injEq] at he
            obtain ⟨rfl, rfl⟩ := Prod.mk.injEq .. ▸ he
            exact ⟨(c3 a e0.1 e0.2 m hx hme).1, (c3 a e0.1 e0.2 m hx hme).2.ren up'⟩
        | row v => exact hO.elim
        | box b => exact hO.elim
        | fam bs0 => exact hO.elim
        | afm vs0 => exact hO.elim
      | dead => trivial
      | res => trivial
      | fam xs =>
        cases l with
        | fam bs =>
          obtain ⟨c0, c1, c2⟩ := hO
          refine ⟨by simpa using c0, c1, fun a b cs ha hc => ?_⟩
          rw [List.getElem?_map] at hc
          cases hx : xs[a]? with
          | none => rw [hx] at hc; cases hc
          | some cs0 =>
            rw [hx] at hc
            simp only [Option.map_some, Option.some.injEq] at hc
            subst hc
            obtain ⟨us', e, e1, ⟨e2, e3⟩, e4⟩ := c2 a b cs0 ha hx
            refine ⟨us', e, e1, ⟨by rw [rens_map]; simpa using e2, fun i c u' hc hu => ?_⟩, e4⟩
            rw [rens_map, List.getElem?_map] at hc
            cases hy : cs0[i]? with
            | none => rw [hy] at hc; cases hc
            | some c0 =>
              rw [hy] at hc
              simp only [Option.map_some, Option.some.injEq] at hc
              subst hc
              exact (e3 i c0 u' hy hu).ren up'
        | row v => exact hO.elim
        | box b => exact hO.elim
        | map r => exact hO.elim
        | it r9 m9 => exact hO.elim
        | afm vs0 => exact hO.elim
      | afm size xs =>
        cases l with
        | afm vs => exact hO
        | row v => exact hO.elim
        | box b => exact hO.elim
        | map r => exact hO.elim
        | it r9 m9 => exact hO.elim
        | fam bs0 => exact hO.elim
    · exact (hm.obj q o l k1 k2).mono hfw.grow href same fun b hb => hfw.keep b (oldlive q o l b k1 k2 k3 hb).1 (oldlive q o l b k1 k2 k3 hb).2
  · rcases split q o l h1 h2 with ⟨i, o1, rfl, k1, rfl, k2⟩ | ⟨k1, k2, k3⟩ <;> rcases split q' o' l' h3 h4 with ⟨i', o2, rfl, k4, rfl, k5⟩ | ⟨k4, k5, k6⟩
    · rw [live_renO] at h5 h6
      rw [hm'.apart i o1 l i' o2 l' b k1 k2 k4 k5 h5 h6]
    · rw [live_renO] at h5
      have ho := oldlive q' o' l' b k4 k5 k6 h6
      rcases hfw.lv b ⟨i, o1, l, k1, k2, h5⟩ with h | h
      · exact absurd h ho.2
      · omega
    · rw [live_renO] at h6
      have ho := oldlive q o l b k1 k2 k3 h5
      rcases hfw.lv b ⟨i', o2, l', k4, k5, h6⟩ with h | h
      · exact absurd h ho.2
      · omega
    · exact hm.apart q o l q' o' l' b k1 k2 k4 k5 h5 h6
  · rcases split q o l h1 h2 with ⟨i, o1, rfl, k1, rfl, k2⟩ | ⟨k1, k2, k3⟩
    · rw [live_renO] at h3
      exact hm'.outS i o1 l b k1 k2 h3
    · have ho := oldlive q o l b k1 k2 k3 h3
      have hn := hm.outS q o l b k1 k2 h3
      rintro (hs | hb)
      · rcases hfw.new b hs with h | h | h
        · exact hn (.inl h)
        · exact ho.2 h
        · omega
      · exact hn (.inr hb)
  · rcases hfw.new b hb with h | h | h
    · exact .inl h
    · exact .inr (.inl (hLv b h))
    · exact .inr (.inr h)
  · rcases split q o l h1 h2 with ⟨i, o1, rfl, k1, rfl, k2⟩ | ⟨k1, k2, k3⟩
    · rw [live_renO] at h3
      rcases hfw.lv b ⟨i, o1, l, k1, k2, h3⟩ with h | h
      · exact .inl (hLv b h)
      · exact .inr h
    · exact .inl ⟨q, o, l, k1, k2, h3⟩
end Go.G36
