/- Pointers by number in use: loads and stores through them, new blocks told by number, arrays of them. -/
import Derived.Test.YtmlfbendohecmaaKzj
namespace Go.G36
variable [Genv]
set_option linter.all false
open Go

/-- Cell by cell: the same, or nil told as what it is. -/
inductive WkP (p : Nat) : List V → List V → Prop where
  | nil : WkP p [] []
  | same (c : V) (r r' : List V) (t : WkP p r r') : WkP p (c :: r) (c :: r')
  | sl (b : Bool) (r r' : List V) (t : WkP p r r') : WkP p (.nilS :: r) (.im b [] :: r')
  | ptr (L j : Nat) (r r' : List V) (t : WkP p r r') : WkP p (.nilP :: r) (.px p L (-1) j :: r')

theorem WkP.length {p : Nat} {cs ds : List V} (h : WkP p cs ds) : cs.length = ds.length := by
  induction h <;> simp [*]
theorem WkP.val {p : Nat} {σ : ASt} {cs ds : List V} {xs : List (List V)} {bs : List Nat} {S B : Nat → Prop} {ι : List Loc} {w : World} (h : WkP p cs ds) (hs : σ[p]? = some (.fam xs)) (hl : ι[p]? = some (.fam bs)) :
    ∀ (i : Nat) (d : V), ds[i]? = some d → ∃ c, cs[i]? = some c ∧ ∀ u, Val S B (RefR ι σ) w c u → Val S B (RefR ι σ) w d u := by
  induction h with
  | nil => intro i d h; simp at h
  | same c r r' _ ih =>
    intro i d h
    cases i with
    | zero => simp at h; subst h; exact ⟨_, rfl, fun _ h => h⟩
    | succ i => simp at h; simpa using ih i d h
  | sl b r r' _ ih =>
    intro i d h
    cases i with
    | zero =>
      simp at h; subst h
      refine ⟨_, rfl, fun u hu => ?_⟩
      rw [hu.inv_nilS]
      cases b with
      | false => exact .cv _ _ (.im [] none 0 1 (fun _ _ => undef) (Nat.le_refl _) (fun h => absurd rfl h) (fun i j row c h => by simp at h) fun i j row c h => by simp at h)
      | true => exact .imB [] none 0 1 (fun _ _ => undef) (Nat.le_refl _) (fun h => absurd rfl h) (fun i j row c h => by simp at h) fun i j row c h => by simp at h
    | succ i => simp at h; simpa using ih i d h
  | ptr L j r r' _ ih =>
    intro i d h
    cases i with
    | zero =>
      simp at h; subst h
      refine ⟨_, rfl, fun u hu => ?_⟩
      rw [hu.inv_nilP]
      refine .ref _ _ ?_
      simp [RefR, hs, hl]
    | succ i => simp at h; simpa using ih i d h

section
variable {P : Program} {o : Oper} {fr : Fr} {σ : ASt}

end
theorem belFam {N : Nat} {α : Type} {g : α → List V} {xs : List α} (h : ∀ x, bels N (g x) = true) : belO N (.fam (xs.map g)) := fun row hr c hc => by
  obtain ⟨x, _, rfl⟩ := List.mem_map.1 hr
  exact bels_iff.1 (h x) c hc
theorem belRaw {N : Nat} {α : Type} {sz : Nat} {g : α → List V} {xs : List α} (h : ∀ x, bels N (g x) = true) : belO N (.arr .raw sz (xs.map g)) := fun row hr c hc => by
  obtain ⟨x, _, rfl⟩ := List.mem_map.1 hr
  exact bels_iff.1 (h x) c hc
/-! ### min of two integers -/
/-! ### What a call leaves as it was -/
theorem Does.eqS {P : Program} {o : Oper} {fr : Fr} {σ σ1 σ2 : ASt} {v : V} (h : σ1 = σ2) (hd : Does P o fr σ v σ1) : Does P o fr σ v σ2 := by subst h; exact hd
/-! ### A number kept for a variable -/
/-! ### Outcomes that name objects of their own -/
theorem Part.of {ρ : List Nat} {σ τ : ASt} (hn : ρ.Nodup) (h : PartL (rho ρ σ.length) σ ρ τ) : Part ρ σ τ := ⟨h.get.1, hn, h.get.2⟩
end Go.G36
