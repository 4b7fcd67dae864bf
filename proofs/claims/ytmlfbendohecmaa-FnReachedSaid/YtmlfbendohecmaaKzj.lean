/- Families: blocks that are made one by one and named by number. -/
import Derived.Test.YtmlfbendohecmaaKzi
import Derived.Laws.Pointers
namespace Go.G36
variable [Genv]
set_option linter.all false
open Go
section
variable {P : Program} {o : Oper} {fr : Fr} {σ : ASt}

/-- A family without a block. -/
theorem Cs.fam {N n : Nat} {fr : Fr} {σ : ASt} : Cs N n fr σ fr (σ ++ [.fam []]) := fun S B ι a w hr => by
  obtain ⟨hm', hf⟩ := hr.mem.push (Grown.refl w) (.fam []) (.fam []) (fun b hb => by simp [live] at hb) ⟨rfl, List.nodup_nil, fun i b cs h => by simp at h⟩
  exact ⟨S, _, hr.fw hf hm', hf.toN⟩

theorem RefR.fam {ι : List Loc} {p L i j : Nat} {xs : List (List V)} {u : Value} (h : RefR ι σ (.el p L i j) u) (hs : σ[p]? = some (.fam xs)) : ∃ bs b, ι[p]? = some (.fam bs) ∧ bs[i]? = some b ∧ u = .pointer (some ⟨b, j, none⟩) := by
  simp only [RefR, hs] at h
  split at h
  · rename_i h1 _; cases h1
  · rename_i h1 h2
    obtain ⟨b, h3, h4⟩ := h
    exact ⟨_, b, h2, h3, h4⟩
  · rename_i h1 _; cases h1
  · rename_i h1; cases h1
  · exact h.elim

theorem RefR.setF {ι : List Loc} {p : Nat} {xs ys : List (List V)} {bs cs : List Nat} (hs : σ[p]? = some (.fam xs)) (hl : ι[p]? = some (.fam bs)) (hb : ∀ (i b : Nat), bs[i]? = some b → cs[i]? = some b) {v : V} {u : Value} (h : RefR ι σ v u) :
    RefR (ι.set p (.fam cs)) (σ.set p (.fam ys)) v u := by
  have hσ : p < σ.length := (List.getElem?_eq_some_iff.1 hs).1
  have hι : p < ι.length := (List.getElem?_eq_some_iff.1 hl).1
  have key : ∀ q, q ≠ p → (σ.set p (.fam ys))[q]? = σ[q]? ∧ (ι.set p (.fam cs))[q]? = ι[q]? := fun q hq => ⟨List.getElem?_set_ne (Ne.symm hq), List.getElem?_set_ne (Ne.symm hq)⟩
  have e1 : (σ.set p (.fam ys))[p]? = some (.fam ys) := List.getElem?_set_self hσ
  have e2 : (ι.set p (Loc.fam cs))[p]? = some (.fam cs) := List.getElem?_set_self hι
  cases v with
  | hd q L off len =>
    by_cases hq : q = p
    · subst hq; simp [RefR, hs, hl] at h
    · simp only [RefR, (key q hq).1, (key q hq).2] at h ⊢; exact h
  | bx q j =>
    by_cases hq : q = p
    · subst hq; simp [RefR, hs, hl] at h
    · simp only [RefR, (key q hq).1, (key q hq).2] at h ⊢; exact h
  | el q L i j =>
    by_cases hq : q = p
    · subst hq
      simp only [RefR, hs, hl] at h
      simp only [RefR, e1, e2]
      obtain ⟨b, h1, h2⟩ := h
      exact ⟨b, hb _ _ h1, h2⟩
    · simp only [RefR, (key q hq).1, (key q hq).2] at h ⊢; exact h
  | px q L k j =>
    by_cases hq : q = p
    · subst hq
      simp only [RefR, hs, hl] at h
      simp only [RefR, e1, e2]
      rcases h with h | ⟨h0, b, h1, h2⟩
      · exact .inl h
      · exact .inr ⟨h0, b, hb _ _ h1, h2⟩
    · simp only [RefR, (key q hq).1, (key q hq).2] at h ⊢; exact h
  | mp q =>
    by_cases hq : q = p
    · subst hq; simp [RefR, hs, hl] at h
    · simp only [RefR, (key q hq).1, (key q hq).2] at h ⊢; exact h
  | _ => exact h

/-! ### Pointers by number -/
end
end Go.G36
