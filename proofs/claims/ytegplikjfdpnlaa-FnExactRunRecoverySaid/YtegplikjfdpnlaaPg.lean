/- The plain part of FnRecovered: the runs. -/
import Derived.Test.YtegplikjfdpnlaaPf
namespace Go.G36
set_option linter.unusedVariables false
open Go Go.G36.GWalk

theorem loop_rel {α β S Q : Type} (xs : List α) (step : S → Option (S ⊕ Q)) (f : Nat → α → β → β) (Rl : Nat → β → S → Prop) (out : β → Q → Prop)
    (hs : ∀ (i : Nat) (a : α) (b : β) (s : S), xs[i]? = some a → Rl i b s → ∃ s', step s = some (.inl s') ∧ Rl (i + 1) (f i a b) s')
    (he : ∀ b s, Rl xs.length b s → ∃ q, step s = some (.inr q) ∧ out b q) : ∀ (k i : Nat) (b : β) (s : S), i + k = xs.length → Rl i b s → ∃ q, loopO step s = some q ∧ out (foldI f (xs.drop i) i b) q := by
  intro k
  induction k with
  | zero =>
    intro i b s hi hR
    have : i = xs.length := by omega
    subst this
    rw [List.drop_length]
    obtain ⟨q, h1, h2⟩ := he b s hR
    exact ⟨q, loopO_end h1, h2⟩
  | succ k ih =>
    intro i b s hi hR
    have hlt : i < xs.length := by omega
    have ha : xs[i]? = some xs[i] := by simp
    obtain ⟨s', h1, h2⟩ := hs i xs[i] b s ha hR
    rw [List.drop_eq_getElem_cons hlt, foldI, loopO_go h1]
    exact ih (i + 1) _ s' (by omega) h2

def mrun (need delay : Int) (hs : List ByteArray) (_ : Nat) (e : Ev) (b : Rs × List Int) : Rs × List Int := ((mstep need delay hs e b.1).2, b.2 ++ [(mstep need delay hs e b.1).1])
def m0 : Rs := ⟨0, false, 0, []⟩
def outs (need delay : Int) (hs : List ByteArray) (es : List Ev) : List Int := (foldI (mrun need delay hs) es 0 (m0, [])).2

theorem mstep_votes (need delay : Int) (hs : List ByteArray) (e : Ev) (m : Rs) : (mstep need delay hs e m).2.votes_.length ≤ m.votes_.length + 1 := by
  unfold mstep
  cases badE e
  · cases decide (e.Time_ < m.now_)
    · cases m.under_ == (e.Kind_ == 1)
      · cases e.Kind_ == 1
        · cases e.Kind_ == 2
          · cases e.Kind_ == 4
            · simp
            · cases decide ((m.votes_.length : Int) < need)
              · cases decide (e.Time_ < m.ready_) <;> simp
              · simp
          · cases hasB hs e.Who_
            · simp
            · cases hasB m.votes_ e.Who_ <;> simp
        · simp
      · simp
    · simp
  · simp

theorem spec_loop (need delay : Int) (hs : List ByteArray) (es : List Ev) (hl : hs.length < big) (he : es.length ≤ 200) :
    ∃ q : Rs × List Int, loopO (spec_RunRecovery_l2 need delay hs es) ((m0, ([] : List Int), (0 : Int))) = some q ∧ q.2 = outs need delay hs es := by
  have := loop_rel es (spec_RunRecovery_l2 need delay hs es) (mrun need delay hs) (fun i b s => s = (b.1, b.2, (i : Int)) ∧ b.1.votes_.length ≤ i ∧ b.2.length = i) (fun b q => q = b) (fun i e b s ha hR => by
    obtain ⟨rfl, h1, h2⟩ := hR
    have hi := (List.getElem?_eq_some_iff.1 ha).1
    refine ⟨((mrun need delay hs i e b).1, (mrun need delay hs i e b).2, (i : Int) + 1), ?_, by simp, ?_, by simp [mrun, h2]⟩
    · simp only [spec_RunRecovery_l2, show decide ((i : Int) < (es.length : Int)) = true from decide_eq_true (by omega), cond_true, idx_nat, ha, Option.bind_some, spec_do need delay hs e b.1 hl (by omega),
        app_ok (xs := b.2) (ys := [(mstep need delay hs e b.1).1]) (by simp; omega), wrap_succ (i := i) (by omega)]
      rfl
    · have := mstep_votes need delay hs e b.1
      show (mstep need delay hs e b.1).2.votes_.length ≤ i + 1
      omega) (fun b s hR => by
    obtain ⟨rfl, h1, h2⟩ := hR
    exact ⟨(b.1, b.2), by simp [spec_RunRecovery_l2], rfl⟩) es.length 0 (m0, []) (m0, [], 0) (by omega) ⟨rfl, by simp [m0], rfl⟩
  obtain ⟨q, h1, h2⟩ := this
  exact ⟨q, h1, by rw [h2]; rfl⟩

theorem impl_loop (need delay : Int) (hs : List ByteArray) (es : List Ev) (hl : hs.length < big) (he : es.length ≤ 200) :
    ∃ q : Int × Int × Bool × List (ByteArray × Bool) × List Int, loopO (impl_RunRecovery_l1 need delay hs es) (0, 0, false, ([] : List (ByteArray × Bool)), ([] : List Int), 0) = some q ∧ q.2.2.2.2 = outs need delay hs es := by
  have := loop_rel es (impl_RunRecovery_l1 need delay hs es) (mrun need delay hs) (fun i b s => ∃ t, s = (b.1.now_, b.1.ready_, b.1.under_, t, b.2, (i : Int)) ∧ votesOf t = b.1.votes_ ∧ allT t ∧ b.2.length = i) (fun b q => q.2.2.2.2 = b.2) (fun i e b s ha hR => by
    obtain ⟨t, rfl, h1, h2, h3⟩ := hR
    have hi := (List.getElem?_eq_some_iff.1 ha).1
    obtain ⟨t', k1, k2, k3⟩ := impl_do need delay hs e b.1 t hl h1 h2
    refine ⟨((mstep need delay hs e b.1).2.now_, (mstep need delay hs e b.1).2.ready_, (mstep need delay hs e b.1).2.under_, t', b.2 ++ [(mstep need delay hs e b.1).1], (i : Int) + 1), ?_, t', by simp [mrun], k2, k3, by simp [mrun, h3]⟩
    simp only [impl_RunRecovery_l1, show decide ((i : Int) < (es.length : Int)) = true from decide_eq_true (by omega), cond_true, idx_nat, ha, Option.bind_some, k1, impl_RunRecovery_j1,
      app_ok (xs := b.2) (ys := [(mstep need delay hs e b.1).1]) (by simp; omega), wrap_succ (i := i) (by omega)]
    rcases mstep_keep (need := need) (delay := delay) (hs := hs) (e := e) (m := b.1) with ⟨g1, g2⟩ | ⟨g1, g2⟩
    · rw [g1, g2]; simp
    · have : ((mstep need delay hs e b.1).1 == 0) = false := by simpa using g1
      rw [this, g2]; simp) (fun b s hR => by
    obtain ⟨t, rfl, h1, h2, h3⟩ := hR
    exact ⟨(b.1.now_, b.1.ready_, b.1.under_, t, b.2), by simp [impl_RunRecovery_l1], rfl⟩) es.length 0 (m0, []) (0, 0, false, [], [], 0) (by omega) ⟨[], rfl, rfl, (fun x hx => by cases hx), rfl⟩
  obtain ⟨q, h1, h2⟩ := this
  exact ⟨q, h1, h2⟩

def runs (need delay : Int) (hs : List ByteArray) (es : List Ev) : List Int :=
  if ((((((decide (need < 1) || decide (need > 10)) || decide (delay < 0)) || decide (delay > 100000000000)) || decide ((hs.length : Int) > 10)) || (!risesB hs)) || (!hs.all goodP)) || decide ((es.length : Int) > 200) then [] else outs need delay hs es

theorem impl_run (need delay : Int) (hs : List ByteArray) (es : List Ev) (hl : hs.length < big) : impl_RunRecovery need delay hs es = some (runs need delay hs es) := by
  unfold impl_RunRecovery runs
  rw [impl_rises hs hl, impl_all hs hl]
  generalize ((((decide (need < 1) || decide (need > 10)) || decide (delay < 0)) || decide (delay > 100000000000)) || decide ((hs.length : Int) > 10)) = A
  cases A <;> cases hr : risesB hs <;> cases hg : hs.all goodP <;> cases he : decide ((es.length : Int) > 200) <;> simp [gdO]
  have he2 : es.length ≤ 200 := by simp at he; omega
  obtain ⟨q, h1, h2⟩ := impl_loop need delay hs es hl he2
  rw [h1]
  simp [h2]

theorem spec_run (need delay : Int) (hs : List ByteArray) (es : List Ev) (hl : hs.length < big) (hn : ∀ n, n ∈ hs → n.size < big) : spec_RunRecovery need delay hs es = some (runs need delay hs es) := by
  unfold spec_RunRecovery runs
  rw [spec_rises hs hl hn, spec_all hs hl]
  generalize ((((decide (need < 1) || decide (need > 10)) || decide (delay < 0)) || decide (delay > 100000000000)) || decide ((hs.length : Int) > 10)) = A
  cases A <;> cases hr : risesB hs <;> cases hg : hs.all goodP <;> cases he : decide ((es.length : Int) > 200) <;> simp [gdO]
  have he2 : es.length ≤ 200 := by simp at he; omega
  obtain ⟨q, h1, h2⟩ := spec_loop need delay hs es hl he2
  unfold m0 at h1
  rw [h1]
  simp [h2]
end Go.G36
