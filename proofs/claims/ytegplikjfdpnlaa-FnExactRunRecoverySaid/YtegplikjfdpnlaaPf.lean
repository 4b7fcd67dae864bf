/- The plain part of FnRecovered: one event, the program's. -/
import Derived.Test.YtegplikjfdpnlaaPe
namespace Go.G36
set_option linter.unusedVariables false
open Go Go.G36.GWalk

theorem contains_has (xs : List ByteArray) (w : ByteArray) (hl : xs.length < big) : slices_Contains xs w = some (hasB xs w) := by
  rw [contains_eq xs w hl]
  congr 1
  unfold hasB
  congr 1
  funext e
  exact Bool.beq_comm ..

theorem kind_in {e : Ev} (h : badE e = false) : e.Kind_ = 1 ∨ e.Kind_ = 2 ∨ e.Kind_ = 3 ∨ e.Kind_ = 4 := by
  unfold badE at h
  simp only [Bool.or_eq_false_iff, decide_eq_false_iff_not] at h
  omega

/-- What an event's outcome says of the state. -/
theorem mstep_keep {need delay : Int} {hs : List ByteArray} {e : Ev} {m : Rs} : ((mstep need delay hs e m).1 = 0 ∧ (mstep need delay hs e m).2.now_ = e.Time_) ∨ ((mstep need delay hs e m).1 ≠ 0 ∧ (mstep need delay hs e m).2 = m) := by
  unfold mstep
  cases badE e
  · cases decide (e.Time_ < m.now_)
    · cases m.under_ == (e.Kind_ == 1)
      · cases e.Kind_ == 1
        · cases e.Kind_ == 2
          · cases e.Kind_ == 4
            · simp
            · cases decide ((m.votes_.length : Int) < need)
              · cases decide (e.Time_ < m.ready_) <;> simp
              · simp
          · cases hasB hs e.Who_
            · simp
            · cases hasB m.votes_ e.Who_ <;> simp
        · simp
      · simp
    · simp
  · simp

theorem impl_do (need delay : Int) (hs : List ByteArray) (e : Ev) (m : Rs) (s : List (ByteArray × Bool)) (hl : hs.length < big) (hv : votesOf s = m.votes_) (ht : allT s) :
    ∃ s', impl_RunRecovery_1 e m.now_ m.under_ delay m.ready_ s hs need = some ((mstep need delay hs e m).1, (mstep need delay hs e m).2.under_, (mstep need delay hs e m).2.ready_, s') ∧
      votesOf s' = (mstep need delay hs e m).2.votes_ ∧ allT s' := by
  have hlen : s.length = m.votes_.length := by rw [← hv]; simp [votesOf]
  unfold impl_RunRecovery_1 mstep
  rw [contains_has hs e.Who_ hl, hlen]
  simp only [Option.bind_some]
  show ∃ s', cond (badE e) _ _ = _ ∧ _
  cases hb : badE e
  · have hk := kind_in hb
    cases decide (e.Time_ < m.now_)
    · cases m.under_ == (e.Kind_ == 1)
      · cases h1 : e.Kind_ == 1
        · cases h2 : e.Kind_ == 2
          · cases h4 : e.Kind_ == 4
            · have h3 : (e.Kind_ == 3) = true := by
                simp only [beq_eq_false_iff_ne, ne_eq] at h1 h2 h4
                rw [beq_iff_eq]
                omega
              simp only [h3, cond_false, cond_true]
              exact ⟨s, rfl, hv, ht⟩
            · have h3 : (e.Kind_ == 3) = false := by
                simp only [beq_iff_eq] at h4
                rw [h4]; rfl
              simp only [h3, cond_false, cond_true]
              cases decide ((m.votes_.length : Int) < need)
              · cases decide (e.Time_ < m.ready_)
                · exact ⟨s, rfl, hv, ht⟩
                · exact ⟨s, rfl, hv, ht⟩
              · exact ⟨s, rfl, hv, ht⟩
          · cases hasB hs e.Who_
            · exact ⟨s, rfl, hv, ht⟩
            · simp only [Bool.not_true, cond_false, cond_true]
              rcases mfind_votes e.Who_ s 0 ht with ⟨k1, k2⟩ | ⟨j, k1, k2⟩
              · rw [hv] at k2
                have g : (mget s e.Who_).getD false = false := by simp [mget, k1]
                rw [g, k2]
                refine ⟨s ++ [(e.Who_, true)], ?_, ?_, ?_⟩
                · simp [mput, k1]
                · simp [votesOf] at hv ⊢; exact hv
                · intro x hx
                  rcases List.mem_append.1 hx with hx | hx
                  · exact ht x hx
                  · simp at hx; rw [hx]
              · rw [hv] at k2
                have g : (mget s e.Who_).getD false = true := by simp [mget, k1]
                rw [g, k2]
                exact ⟨s, rfl, hv, ht⟩
        · exact ⟨[], rfl, rfl, by intro x hx; cases hx⟩
      · exact ⟨s, rfl, hv, ht⟩
    · exact ⟨s, rfl, hv, ht⟩
  · exact ⟨s, rfl, hv, ht⟩
end Go.G36
