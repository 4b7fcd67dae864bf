/- Shorter forms of rules, with the plain obligations found by themselves. -/
import Derived.Test.YtmlfbendohecmaaKzk
namespace Go.G36
variable [Genv]
set_option linter.all false
open Go

theorem WkF.k {N : Nat} {fr : Fr} (t : Nat) {v : V} {r : Fr} (h : lk fr t = some v) (hb : bel N v = true) (hr : WkF N fr r) : WkF N fr ((t, v) :: r) := .cons t v v r h (.same _) hb hr
theorem Pk.of {N : Nat} {Q : Post} {ex : Ex} {fr fr' : Fr} {σ σ' : ASt} (h : Q ex fr' σ') (hp : ∃ g, σ = σ' ++ g := by exact ⟨_, rfl⟩) (hl : Nat.ble N σ'.length = true := by exact rfl)
    (ho : belOs σ'.length σ' := by repeat' (first | exact trivial | exact bels_iff.1 rfl | exact belRaw fun _ => rfl | exact belFam fun _ => rfl | exact belMap fun _ => rfl | exact belA fun _ => rfl | refine ⟨?_, ?_⟩))
    (hf : WkF σ'.length fr fr' := by repeat' (first | exact .nil | refine .k _ rfl rfl ?_ | refine .k _ rfl (belAg fun _ => rfl) ?_)) : Pk N Q ex fr σ := by
  obtain ⟨g, hp⟩ := hp
  exact .go g hp hl ho hf h
theorem T.lq {N : Nat} {P : Program} {n : Nat} {c : Code} {S R : Type} {step : S → Option (S ⊕ R)} (Fs : S → Fr) (σs : S → ASt) {s0 : S} {r : R} {Q : Post} (QQ : R → Post) {fr : Fr} {σ : ASt} (H : G36.loopO step s0 = some r)
    (hi : ∀ s x, step s = some x → T P N n c (Fs s) (σs s) (Pk (σs s).length (thn (fun fr' σ' => ∃ s', x = .inl s' ∧ fr' = Fs s' ∧ σ' = σs s') fun ex fr' σ' => ∃ q, x = .inr q ∧ QQ q ex fr' σ')))
    (hq : ∀ ex fr' σ', QQ r ex fr' σ' → Q ex fr' σ')
    (hN : ∀ s s', (σs s).length = (σs s').length := by intros; rfl)
    (hob : ∀ s, belOs (σs s).length (σs s) := by intro; repeat' (first | exact trivial | exact bels_iff.1 rfl | exact belRaw fun _ => rfl | exact belFam fun _ => rfl | exact belMap fun _ => rfl | exact belA fun _ => rfl | refine ⟨?_, ?_⟩))
    (hfr : ∀ s, Sub (σs s).length (Fs s) (Fs s) := by intro; repeat' (first | exact .nil | refine .cons _ _ _ rfl rfl ?_ | refine .cons _ _ _ rfl (belAg fun _ => rfl) ?_))
    (hs : σ = σs s0 := by exact rfl)
    (hw : WkF σ.length fr (Fs s0) := by repeat' (first | exact .nil | refine .k _ rfl rfl ?_ | refine .k _ rfl (belAg fun _ => rfl) ?_)) : T P N n (.loop c) fr σ Q := by
  subst hs
  exact T.to hw (T.lp Fs σs QQ H hi hN hob hfr hq)
end Go.G36
