/- The plain part of FnRecovered: looking back. -/
import Derived.Test.YtegplikjfdpnlaaPg
namespace Go.G36
set_option linter.unusedVariables false
open Go Go.G36.GWalk

/-- Back over what was done, the latest first. -/
def scanR : List (Int × Ev) → Int → Option (Int × Int)
  | [], v => some (v, -1)
  | (c, e) :: r, v => cond (c != 0) (scanR r v) (cond (e.Kind_ == 2) (scanR r (v + 1)) (cond (e.Kind_ == 1) (some (v, e.Time_)) none))

theorem scanR_add : ∀ (l : List (Int × Ev)) (v k : Int), scanR l (v + k) = (scanR l v).map fun p => (p.1 + k, p.2)
  | [], v, k => rfl
  | (c, e) :: r, v, k => by
    simp only [scanR]
    cases c != 0
    · cases e.Kind_ == 2
      · cases e.Kind_ == 1 <;> simp
      · simp only [cond_true, cond_false]
        rw [← scanR_add r (v + 1) k]
        congr 1; omega
    · exact scanR_add r v k

def Iv (delay : Int) (m : Rs) (hist : List (Int × Ev)) : Prop := m.under_ = true → ∃ t, scanR hist 0 = some ((m.votes_.length : Int), t) ∧ 0 ≤ t ∧ m.ready_ = IntKind.i64.wrap (t + delay)

theorem time_in {e : Ev} (h : badE e = false) : 0 ≤ e.Time_ := by
  unfold badE at h
  simp only [Bool.or_eq_false_iff, decide_eq_false_iff_not] at h
  omega

theorem Iv.step {need delay : Int} {hs : List ByteArray} {m : Rs} {hist : List (Int × Ev)} (e : Ev) (h : Iv delay m hist) : Iv delay (mstep need delay hs e m).2 (((mstep need delay hs e m).1, e) :: hist) := by
  have skip : ∀ c : Int, c ≠ 0 → Iv delay m ((c, e) :: hist) := fun c hc hu => by
    obtain ⟨t, h1, h2⟩ := h hu
    have : (c != 0) = true := by simpa using hc
    exact ⟨t, by simp only [scanR, this, cond_true]; exact h1, h2⟩
  unfold mstep
  cases hb : badE e
  · cases decide (e.Time_ < m.now_)
    · cases hu : m.under_ == (e.Kind_ == 1)
      · cases h1 : e.Kind_ == 1
        · cases h2 : e.Kind_ == 2
          · cases e.Kind_ == 4
            · intro hx; simp at hx
            · cases decide ((m.votes_.length : Int) < need)
              · cases decide (e.Time_ < m.ready_)
                · intro hx; simp at hx
                · exact skip 7 (by decide)
              · exact skip 6 (by decide)
          · cases hasB hs e.Who_
            · exact skip 4 (by decide)
            · cases hasB m.votes_ e.Who_
              · intro hx
                obtain ⟨t, k1, k2, k3⟩ := h hx
                refine ⟨t, ?_, k2, k3⟩
                simp only [scanR, h2]
                have := scanR_add hist 0 1
                rw [k1] at this
                simp at this ⊢
                exact this
              · exact skip 5 (by decide)
        · intro _
          refine ⟨e.Time_, ?_, time_in hb, rfl⟩
          have h2 : (e.Kind_ == 2) = false := by rw [eq_of_beq h1]; rfl
          simp [scanR, h1, h2]
      · exact skip 3 (by decide)
    · exact skip 2 (by decide)
  · exact skip 1 (by decide)

/-- What a taking over asks for. -/
theorem took {need delay : Int} {hs : List ByteArray} {e : Ev} {m : Rs} (h0 : (mstep need delay hs e m).1 = 0) (h4 : e.Kind_ = 4) : m.under_ = true ∧ need ≤ (m.votes_.length : Int) ∧ m.ready_ ≤ e.Time_ := by
  unfold mstep at h0
  have k1 : (e.Kind_ == 1) = false := by rw [h4]; rfl
  have k2 : (e.Kind_ == 2) = false := by rw [h4]; rfl
  have k4 : (e.Kind_ == 4) = true := by rw [h4]; rfl
  simp only [k1, k2, k4, cond_false, cond_true] at h0
  cases hb : badE e
  · cases ht : decide (e.Time_ < m.now_)
    · cases hu : m.under_ == false
      · cases hv : decide ((m.votes_.length : Int) < need)
        · cases hr : decide (e.Time_ < m.ready_)
          · refine ⟨by cases hm : m.under_ <;> simp [hm] at hu ⊢, ?_, ?_⟩
            · simp at hv; omega
            · simp at hr; omega
          · simp [hb, ht, hu, hv, hr] at h0
        · simp [hb, ht, hu, hv] at h0
      · simp [hb, ht, hu] at h0
    · simp [hb, ht] at h0
  · simp [hb] at h0
end Go.G36
