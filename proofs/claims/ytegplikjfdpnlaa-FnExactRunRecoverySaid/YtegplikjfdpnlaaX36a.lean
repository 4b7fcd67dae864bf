/- Loops of the laws' helpers, as lists: plain. -/
import Derived.Test.YtegplikjfdpnlaaPa
import Derived.Test.YtegplikjfdpnlaaKy
namespace Go.G36
set_option linter.unusedVariables false
open Go

theorem loop_for {α S Q : Type} (xs : List α) (step : S → Option (S ⊕ Q)) (I : Nat → S → Prop) (O : Q → Prop)
    (hs : ∀ (i : Nat) (a : α) (s : S), xs[i]? = some a → I i s → (∃ s', step s = some (.inl s') ∧ I (i + 1) s') ∨ (∃ q, step s = some (.inr q) ∧ O q))
    (he : ∀ s, I xs.length s → ∃ q, step s = some (.inr q) ∧ O q) : ∀ (k i : Nat) (s : S), i + k = xs.length → I i s → ∃ q, loopO step s = some q ∧ O q := by
  intro k
  induction k with
  | zero =>
    intro i s hi hI
    have : i = xs.length := by omega
    subst this
    obtain ⟨q, h1, h2⟩ := he s hI
    exact ⟨q, loopO_end h1, h2⟩
  | succ k ih =>
    intro i s hi hI
    have hlt : i < xs.length := by omega
    rcases hs i xs[i] s (by simp) hI with ⟨s', h1, h2⟩ | ⟨q, h1, h2⟩
    · rw [loopO_go h1]
      exact ih (i + 1) s' (by omega) h2
    · exact ⟨q, loopO_end h1, h2⟩

theorem lt_dec {i n : Nat} (h : i < n) : decide ((i : Int) < (n : Int)) = true := decide_eq_true (by omega)
theorem ge_dec {n : Nat} : decide ((n : Int) < (n : Int)) = false := decide_eq_false (by omega)

/-- The size of a list, told as what is left. -/
theorem loop_sz {α : Type} (xs : List α) (step : (Int × Int) → Option ((Int × Int) ⊕ (Int ⊕ Int))) (size : α → Nat) (v0 : Int) (hv : 0 ≤ v0)
    (hs : ∀ (i : Nat) (a : α) (v : Int), xs[i]? = some a → 0 ≤ v → v ≤ v0 → step (v, (i : Int)) = cond (decide (v - size a < 0)) (some (.inr (.inr (-1)))) (some (.inl (v - size a, (i : Int) + 1))))
    (he : ∀ v : Int, step (v, (xs.length : Int)) = some (.inr (.inl v))) : ∃ q, loopO step (v0, 0) = some q ∧ (q = .inr (-1) ∨ ∃ v : Int, q = .inl v ∧ 0 ≤ v ∧ v ≤ v0 ∧ ∀ x, x ∈ xs → (size x : Int) ≤ v0) := by
  refine loop_for xs step (fun i s => s.2 = i ∧ 0 ≤ s.1 ∧ s.1 ≤ v0 ∧ ∀ x, x ∈ xs.take i → (size x : Int) ≤ v0) _ ?_ ?_ xs.length 0 (v0, 0) (by omega) ⟨rfl, hv, Int.le_refl _, by simp⟩
  · rintro i a ⟨v, j⟩ ha ⟨rfl, h1, h2, h3⟩
    simp only at h1 h2 h3
    rw [hs i a v ha h1 h2]
    cases hd : decide (v - size a < 0) with
    | true => exact .inr ⟨_, rfl, .inl rfl⟩
    | false =>
      simp at hd
      refine .inl ⟨_, rfl, by simp, by simpa using hd, by simp; omega, fun x hx => ?_⟩
      rw [List.take_add_one, ha] at hx
      simp at hx
      rcases hx with hx | rfl
      · exact h3 x hx
      · omega
  · rintro ⟨v, j⟩ ⟨rfl, h1, h2, h3⟩
    simp only at h1 h2 h3
    exact ⟨_, he v, .inr ⟨v, rfl, h1, h2, by simpa using h3⟩⟩

/-- A list copied, element by element. -/
theorem loop_to {α β : Type} (xs : List α) (step : (List β × Int) → Option ((List β × Int) ⊕ List β)) (g : α → β) (l0 : List β) (hl0 : l0.length = xs.length)
    (hs : ∀ (i : Nat) (a : α) (l : List β), xs[i]? = some a → l.length = xs.length → step (l, (i : Int)) = some (.inl (l.set i (g a), (i : Int) + 1)))
    (he : ∀ l : List β, step (l, (xs.length : Int)) = some (.inr l)) : loopO step (l0, 0) = some (xs.map g) := by
  obtain ⟨q, h1, h2⟩ := loop_for xs step (fun i s => s.2 = i ∧ s.1.length = xs.length ∧ s.1.take i = (xs.take i).map g) (fun q => q = xs.map g) (by
    rintro i a ⟨l, j⟩ ha ⟨rfl, h1, h2⟩
    simp only at h1 h2
    have hi := (List.getElem?_eq_some_iff.1 ha).1
    rw [hs i a l ha h1]
    refine .inl ⟨_, rfl, by simp, by simpa using h1, ?_⟩
    simp only
    rw [List.take_add_one, List.take_add_one, ha, List.take_set_of_le (Nat.le_refl _), h2, List.getElem?_set_self (by omega)]
    simp) (by
    rintro ⟨l, j⟩ ⟨rfl, h1, h2⟩
    simp only at h1 h2
    refine ⟨l, he l, ?_⟩
    rw [List.take_of_length_le (by omega), List.take_of_length_le (by omega)] at h2
    exact h2) xs.length 0 (l0, 0) (by omega) ⟨rfl, hl0, by simp⟩
  rw [h1, h2]

/-- A list is like itself. -/
theorem loop_eq {α : Type} (xs : List α) (step : Int → Option (Int ⊕ (Unit ⊕ Bool))) (hs : ∀ (i : Nat) (a : α), xs[i]? = some a → step (i : Int) = some (.inl ((i : Int) + 1)))
    (he : step (xs.length : Int) = some (.inr (.inl ()))) : loopO step 0 = some (.inl ()) := by
  obtain ⟨q, h1, h2⟩ := loop_for xs step (fun i s => s = i) (fun q => q = .inl ()) (by
    rintro i a s ha rfl
    exact .inl ⟨_, hs i a ha, by simp⟩) (by rintro s rfl; exact ⟨_, he, rfl⟩) xs.length 0 0 (by omega) rfl
  rw [h1, h2]

/-- A list written over, element by element, each a function of what is counted. -/
theorem loop_mark {β : Type} (xs : List β) (step : (List β × Int × Int) → Option ((List β × Int × Int) ⊕ (List β × Int))) (c : Int) (v0 : Int) (G : Int → β → Prop)
    (hs : ∀ (i : Nat) (l : List β) (v : Int), i < xs.length → l.length = xs.length → v = v0 + c * i → ∃ b, G v b ∧ step (l, v, (i : Int)) = some (.inl (l.set i b, v + c, (i : Int) + 1)))
    (he : ∀ (l : List β) (v : Int), l.length = xs.length → step (l, v, (xs.length : Int)) = some (.inr (l, v))) :
    ∃ l, loopO step (xs, v0, 0) = some (l, v0 + c * xs.length) ∧ l.length = xs.length ∧ ∀ (i : Nat) (b : β), l[i]? = some b → G (v0 + c * i) b := by
  obtain ⟨q, h1, h2⟩ := loop_for xs step (fun i s => s.2.2 = i ∧ s.1.length = xs.length ∧ s.2.1 = v0 + c * i ∧ ∀ (j : Nat) (b : β), j < i → s.1[j]? = some b → G (v0 + c * j) b)
    (fun q => q.2 = v0 + c * xs.length ∧ q.1.length = xs.length ∧ ∀ (i : Nat) (b : β), q.1[i]? = some b → G (v0 + c * i) b) (by
    rintro i a ⟨l, v, j⟩ ha ⟨rfl, h1, h2, h3⟩
    simp only at h1 h2 h3
    have hi := (List.getElem?_eq_some_iff.1 ha).1
    obtain ⟨b, hb, hst⟩ := hs i l v hi h1 h2
    refine .inl ⟨_, hst, by simp, by simpa using h1, ?_, fun j b' hj hb' => ?_⟩
    · simp only [h2, Int.natCast_add, Int.natCast_one, Int.mul_add, Int.mul_one]; omega
    · simp only at hb'
      by_cases hji : j = i
      · subst hji
        rw [List.getElem?_set_self (by omega)] at hb'
        injection hb' with hb'; subst hb'
        rw [← h2]; exact hb
      · rw [List.getElem?_set_ne (fun h => hji h.symm)] at hb'
        exact h3 j b' (by omega) hb') (by
    rintro ⟨l, v, j⟩ ⟨rfl, h1, h2, h3⟩
    simp only at h1 h2 h3
    exact ⟨_, he l v h1, h2, h1, fun i b hb => h3 i b (by rw [← h1]; exact (List.getElem?_eq_some_iff.1 hb).1) hb⟩) xs.length 0 (xs, v0, 0) (by omega) ⟨rfl, rfl, by simp, fun j b hj => by omega⟩
  obtain ⟨l, v⟩ := q
  simp only at h2
  exact ⟨l, by rw [h1, h2.1], h2.2⟩

/-- A list that holds what was written. -/
theorem loop_held {β : Type} (xs : List β) (step : (Int × Int) → Option ((Int × Int) ⊕ (Int ⊕ Int))) (c : Int) (v0 : Int)
    (hs : ∀ (i : Nat) (a : β), xs[i]? = some a → step (v0 + c * i, (i : Int)) = some (.inl (v0 + c * i + c, (i : Int) + 1)))
    (he : ∀ v : Int, step (v, (xs.length : Int)) = some (.inr (.inl v))) : loopO step (v0, 0) = some (.inl (v0 + c * xs.length)) := by
  obtain ⟨q, h1, h2⟩ := loop_for xs step (fun i s => s = (v0 + c * i, (i : Int))) (fun q => q = .inl (v0 + c * xs.length)) (by
    rintro i a s ha rfl
    refine .inl ⟨_, hs i a ha, ?_⟩
    simp only [Prod.mk.injEq, Int.natCast_add, Int.natCast_one, Int.mul_add, Int.mul_one]
    exact ⟨by omega, trivial⟩) (by rintro s rfl; exact ⟨_, he _, rfl⟩) xs.length 0 (v0, 0) (by omega) (by simp)
  rw [h1, h2]

theorem byS_one (n : Int) : (byS [n]).size = 1 := rfl

/-- A number written out in digits: some text. -/
theorem loop_digits (step : (Int × ByteArray) → Option ((Int × ByteArray) ⊕ ByteArray)) (hs : ∀ (v : Int) (s : ByteArray), 0 < v → v ≤ 9223372036854775807 → s.size + v ≤ 9223372036854775806 → ∃ t : ByteArray, t.size = s.size + 1 ∧ step (v, s) = some (.inl (Int.tdiv v 10, t)))
    (he : ∀ s, step (0, s) = some (.inr s)) : ∀ (n : Nat) (v : Int) (s : ByteArray), v.toNat ≤ n → 0 ≤ v → s.size + v ≤ 9223372036854775806 → ∃ t, loopO step (v, s) = some t ∧ (t.size : Int) ≤ s.size + v := by
  intro n
  induction n with
  | zero =>
    intro v s hn h0 hb
    have : v = 0 := by omega
    subst this
    exact ⟨s, loopO_end (he s), by omega⟩
  | succ n ih =>
    intro v s hn h0 hb
    by_cases hv : v = 0
    · subst hv; exact ⟨s, loopO_end (he s), by omega⟩
    · obtain ⟨t, h1, h2⟩ := hs v s (by omega) (by omega) hb
      rw [loopO_go h2]
      have e : Int.tdiv v 10 = v / 10 := Int.tdiv_eq_ediv_of_nonneg h0
      rw [e]
      obtain ⟨u, h3, h4⟩ := ih (v / 10) t (by omega) (by omega) (by omega)
      exact ⟨u, h3, by omega⟩
end Go.G36
