/- Drawn regions in which what is read is told at each store that there is. -/
import Derived.Test.YtmlfbendohecmaaKu
namespace Go.G36
variable [Genv]
set_option linter.all false
open Go

def TE (G : ASt → Prop) (P : Program) (ops : Array Oper) (l : List Oper) (fr : Fr) (σ : ASt) (pre : List Cl) (K : List Cl → Fr → ASt → Prop) : Prop := ∃ R fr' σ', Trc G P ops l fr σ R fr' σ' ∧ (∀ c, c ∈ R → c.cl = .a → G c.σ) ∧ K (pre ++ R.map (·.cl)) fr' σ'
section
variable {G : ASt → Prop} {P : Program} {fr : Fr} {σ : ASt} {ops : Array Oper} {o : Oper} {l : List Oper} {pre : List Cl} {K : List Cl → Fr → ASt → Prop}
theorem TE.nil (h : K pre fr σ) : TE G P ops [] fr σ pre K := ⟨[], fr, σ, .nil fr σ, by simp, by simpa using h⟩
theorem TE.ls {t : Nat} {v : V} (hg : o.guard = none) (hd : o.dst = some t) (hdo : ∀ τ, G τ → Does P o fr τ v τ) (h : TE G P ops l ((t, v) :: fr) σ (pre ++ [.q]) K) : TE G P ops (o :: l) fr σ pre K := by
  obtain ⟨R, fr', σ', h1, h2, h3⟩ := h
  refine ⟨_, fr', σ', .q o l fr σ v R fr' σ' (fun τ hτ => .inl ⟨hg, hdo τ hτ⟩) (by rw [hd]; exact h1), fun c hc hcl => ?_, by simpa using h3⟩
  rcases List.mem_cons.1 hc with rfl | hc
  · cases hcl
  · exact h2 c hc hcl
theorem TE.qs {t : Nat} {v : V} (hg : o.guard = none) (hd : o.dst = some t) (hdo : ∀ τ, Does P o fr τ v τ) (h : TE G P ops l ((t, v) :: fr) σ (pre ++ [.q]) K) : TE G P ops (o :: l) fr σ pre K := TE.ls hg hd (fun τ _ => hdo τ) h
theorem TE.as {t : Nat} {v : V} {τ : ASt} (hg : o.guard = none) (hd : o.dst = some t) (hdo : Does P o fr σ v τ) (hG : G τ) (h : TE G P ops l ((t, v) :: fr) τ (pre ++ [.a]) K) : TE G P ops (o :: l) fr σ pre K := by
  obtain ⟨R, fr', σ', h1, h2, h3⟩ := h
  refine ⟨_, fr', σ', .a o l fr σ τ v R fr' σ' (.inl ⟨hg, hdo⟩) (by rw [hd]; exact h1), fun c hc hcl => ?_, by simpa using h3⟩
  rcases List.mem_cons.1 hc with rfl | hc
  · exact hG
  · exact h2 c hc hcl
theorem TE.an {v : V} {τ : ASt} (hg : o.guard = none) (hd : o.dst = none) (hdo : Does P o fr σ v τ) (hG : G τ) (h : TE G P ops l fr τ (pre ++ [.a]) K) : TE G P ops (o :: l) fr σ pre K := by
  obtain ⟨R, fr', σ', h1, h2, h3⟩ := h
  refine ⟨_, fr', σ', .a o l fr σ τ v R fr' σ' (.inl ⟨hg, hdo⟩) (by rw [hd]; exact h1), fun c hc hcl => ?_, by simpa using h3⟩
  rcases List.mem_cons.1 hc with rfl | hc
  · exact hG
  · exact h2 c hc hcl
end
end Go.G36
