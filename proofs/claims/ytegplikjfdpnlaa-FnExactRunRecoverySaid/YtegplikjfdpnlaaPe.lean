/- The plain part of FnRecovered: one event. -/
import Derived.Test.YtegplikjfdpnlaaPd
namespace Go.G36
set_option linter.unusedVariables false
open Go Go.G36.GWalk

abbrev Ev := T_impl_RecoverEvent
abbrev Rs := T_spec_l16R
def badE (e : Ev) : Bool := (((decide (e.Kind_ < 1) || decide (e.Kind_ > 4)) || decide (e.Time_ < 0)) || decide (e.Time_ > 100000000000)) || ((!(e.Who_.toList == (ByteArray.mk #[]).toList)) && (e.Kind_ != 2))
def hasB (xs : List ByteArray) (w : ByteArray) : Bool := xs.any fun e => e.toList == w.toList
def mstep (need delay : Int) (hs : List ByteArray) (e : Ev) (m : Rs) : Int × Rs :=
  cond (badE e) (1, m) (cond (decide (e.Time_ < m.now_)) (2, m) (cond (m.under_ == (e.Kind_ == 1)) (3, m)
    (cond (e.Kind_ == 1) (0, ⟨e.Time_, true, IntKind.i64.wrap (e.Time_ + delay), []⟩)
      (cond (e.Kind_ == 2) (cond (!(hasB hs e.Who_)) (4, m) (cond (hasB m.votes_ e.Who_) (5, m) (0, ⟨e.Time_, m.under_, m.ready_, m.votes_ ++ [e.Who_]⟩)))
        (cond (e.Kind_ == 4) (cond (decide ((m.votes_.length : Int) < need)) (6, m) (cond (decide (e.Time_ < m.ready_)) (7, m) (0, ⟨e.Time_, false, m.ready_, m.votes_⟩)))
          (0, ⟨e.Time_, false, m.ready_, m.votes_⟩))))))

theorem app_ok {α : Type} {xs ys : List α} (h : xs.length + ys.length ≤ 4294967296) : app xs ys = some (xs ++ ys) := by unfold app; rw [if_pos h]

theorem spec_do (need delay : Int) (hs : List ByteArray) (e : Ev) (m : Rs) (hl : hs.length < big) (hv : m.votes_.length < 4294967296) : spec_l16R_do need delay hs e m = some (mstep need delay hs e m) := by
  have h2 : m.votes_.length < big := Nat.lt_trans hv (by decide)
  unfold spec_l16R_do mstep
  rw [has_eq hs e.Who_ hl, has_eq m.votes_ e.Who_ h2, app_ok (by simp; omega)]
  simp only [Option.bind_some, spec_l16R_do_j1]
  show cond (badE e) _ _ = _
  unfold hasB
  cases badE e
  · cases decide (e.Time_ < m.now_)
    · cases m.under_ == (e.Kind_ == 1)
      · cases e.Kind_ == 1
        · cases e.Kind_ == 2
          · cases e.Kind_ == 4
            · rfl
            · cases decide ((m.votes_.length : Int) < need)
              · cases decide (e.Time_ < m.ready_) <;> rfl
              · rfl
          · cases hs.any fun x => x.toList == e.Who_.toList
            · rfl
            · cases m.votes_.any fun x => x.toList == e.Who_.toList <;> rfl
        · rfl
      · rfl
    · rfl
  · rfl

/-- The votes in the map. -/
def votesOf (s : List (ByteArray × Bool)) : List ByteArray := s.map (·.1)
def allT (s : List (ByteArray × Bool)) : Prop := ∀ x, x ∈ s → x.2 = true

theorem bytes_beq_list (a b : ByteArray) : (a == b) = (a.toList == b.toList) := by
  have h1 := MapKept.bytes_beq a b
  rw [ByteArray.toList_eq, ByteArray.toList_eq]
  cases h : (a.data.toList == b.data.toList) with
  | true =>
    have : a = b := by
      have h := eq_of_beq h
      cases a; cases b
      congr 1
      exact Array.ext' h
    rw [h1.2 this]
  | false =>
    cases h3 : (a == b) with
    | false => rfl
    | true => rw [h1.1 h3] at h; simp at h

theorem mfind_votes (w : ByteArray) : ∀ (s : List (ByteArray × Bool)) (i : Nat), allT s → (mfind w s i = none ∧ hasB (votesOf s) w = false) ∨ (∃ j, mfind w s i = some (j, true) ∧ hasB (votesOf s) w = true)
  | [], i, _ => .inl ⟨rfl, rfl⟩
  | x :: s, i, h => by
    have hx := h x (List.mem_cons_self ..)
    have hr : allT s := fun y hy => h y (List.mem_cons_of_mem _ hy)
    have hb : (w == x.1) = (x.1.toList == w.toList) := by rw [bytes_beq_list]; exact Bool.beq_comm ..
    simp only [mfind, hasB, votesOf, List.map_cons, List.any_cons]
    cases hc : (w == x.1) with
    | true => rw [hb] at hc; exact .inr ⟨i, by simp [hx], by simp [hc]⟩
    | false =>
      rw [hb] at hc
      have := mfind_votes w s (i + 1) hr
      simp only [hasB, votesOf] at this
      simpa [hc] using this
end Go.G36
