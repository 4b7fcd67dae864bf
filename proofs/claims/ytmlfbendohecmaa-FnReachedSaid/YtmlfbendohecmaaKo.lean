/- Loops as functions without fuel; values told more weakly; appends in one form. -/
import Derived.Test.YtmlfbendohecmaaKn
namespace Go.G36
variable [Genv]
set_option linter.all false
open Go

/-! ### A loop as a function -/
def iterL {S R : Type} (step : S → Option (S ⊕ R)) : Nat → S → Option R
  | 0, _ => none
  | n + 1, s => match step s with
    | none => none
    | some (.inl s') => iterL step n s'
    | some (.inr r) => some r

theorem iterL_succ {S R : Type} {step : S → Option (S ⊕ R)} : ∀ (n : Nat) (s : S) (r : R), iterL step n s = some r → iterL step (n + 1) s = some r
  | 0, s, r, h => by simp [iterL] at h
  | n + 1, s, r, h => by
    rw [iterL] at h ⊢
    cases hs : step s with
    | none => rw [hs] at h; cases h
    | some x =>
      rw [hs] at h
      cases x with
      | inl s' => exact iterL_succ n s' r h
      | inr q => exact h
theorem iterL_le {S R : Type} {step : S → Option (S ⊕ R)} {n m : Nat} (h : n ≤ m) {s : S} {r : R} (hr : iterL step n s = some r) : iterL step m s = some r := by
  induction h with
  | refl => exact hr
  | step _ ih => exact iterL_succ _ s r ih

open Classical in
/-- What the rounds come to; none where they don't end, or one of them fails. -/
noncomputable def loopO {S R : Type} (step : S → Option (S ⊕ R)) (s : S) : Option R :=
  if h : ∃ n r, iterL step n s = some r then iterL step (Classical.choose h) s else none

theorem loopO_of {S R : Type} {step : S → Option (S ⊕ R)} {n : Nat} {s : S} {r : R} (h : iterL step n s = some r) : loopO step s = some r := by
  have hx : ∃ n r, iterL step n s = some r := ⟨n, r, h⟩
  unfold loopO
  rw [dif_pos hx]
  obtain ⟨r', hr'⟩ := Classical.choose_spec hx
  rw [hr']
  have h1 := iterL_le (Nat.le_max_left n (Classical.choose hx)) h
  have h2 := iterL_le (Nat.le_max_right n (Classical.choose hx)) hr'
  rw [h1] at h2
  exact h2.symm
theorem loopO_ex {S R : Type} {step : S → Option (S ⊕ R)} {s : S} {r : R} (h : loopO step s = some r) : ∃ n, iterL step n s = some r := by
  unfold loopO at h
  split at h
  · exact ⟨_, h⟩
  · cases h

theorem loopO_eq {S R : Type} (step : S → Option (S ⊕ R)) (s : S) : loopO step s = match step s with
    | none => none
    | some (.inl s') => loopO step s'
    | some (.inr r) => some r := by
  cases hs : step s with
  | none =>
    unfold loopO
    rw [dif_neg]
    rintro ⟨n, r, h⟩
    cases n with
    | zero => simp [iterL] at h
    | succ n => rw [iterL, hs] at h; cases h
  | some x =>
    cases x with
    | inr r => exact loopO_of (n := 1) (by rw [iterL, hs])
    | inl s' =>
      simp only
      cases h : loopO step s' with
      | some r =>
        obtain ⟨n, hn⟩ := loopO_ex h
        exact loopO_of (n := n + 1) (by rw [iterL, hs]; exact hn)
      | none =>
        unfold loopO
        rw [dif_neg]
        rintro ⟨n, r, hn⟩
        cases n with
        | zero => simp [iterL] at hn
        | succ n =>
          rw [iterL, hs] at hn
          rw [loopO_of hn] at h
          cases h

theorem loopO_go {S R : Type} {step : S → Option (S ⊕ R)} {s s' : S} (h : step s = some (.inl s')) : loopO step s = loopO step s' := by rw [loopO_eq, h]
theorem loopO_end {S R : Type} {step : S → Option (S ⊕ R)} {s : S} {r : R} (h : step s = some (.inr r)) : loopO step s = some r := by rw [loopO_eq, h]

/-! ### Frames, slot by slot -/
inductive Sub (N : Nat) (fr : Fr) : Fr → Prop where
  | nil : Sub N fr []
  | cons (t : Nat) (v : V) (r : Fr) (h : lk fr t = some v) (hb : bel N v = true) (hr : Sub N fr r) : Sub N fr ((t, v) :: r)

theorem Sub.get {N : Nat} {fr fr' : Fr} (h : Sub N fr fr') : ∀ t v, lk fr' t = some v → lk fr t = some v ∧ bel N v = true := by
  induction h with
  | nil => intro t v h; simp [lk] at h
  | cons t v r h hb _ ih =>
    intro t' v' hl
    simp only [lk] at hl
    split at hl
    · rename_i he
      injection hl with hl; subst hl
      rw [← Nat.eq_of_beq_eq_true he]
      exact ⟨h, hb⟩
    · exact ih t' v' hl

theorem Shr.of {N : Nat} {σ0 : ASt} {fr : Fr} {σ : ASt} {fr' : Fr} {σ' : ASt} (g : ASt) (hp : σ = σ' ++ g) (hl : N ≤ σ'.length) (ho : ∀ (a : Nat) (o : AO), σ'[a]? = some o → belO σ'.length o ∨ σ0[a]? = some o) (hf : Sub σ'.length fr fr') : Shr N σ0 fr σ fr' σ' :=
  ⟨⟨g, hp⟩, hl, ho, hf.get⟩

/-- A round's end: no garbage. -/
theorem Shr.same {P : Program} {S B : Nat → Prop} {N : Nat} {σ0 : ASt} {fr fr' : Fr} {σ : ASt} (hl : N ≤ σ.length) (ho : ∀ (a : Nat) (o : AO), σ[a]? = some o → belO σ.length o) (hf : Sub σ.length fr fr') : Shr N σ0 fr σ fr' σ :=
  ⟨⟨[], by simp⟩, hl, fun a o h => .inl (ho a o h), hf.get⟩

/-- The loop's rule: rounds as step says. -/
theorem T.loopO {N : Nat} {P : Program} {n : Nat} {c : Code} {S R : Type} {step : S → Option (S ⊕ R)} (Fs : S → Fr) (σs : S → ASt) {s0 : S} {r : R} (QQ : R → Post) (H : G36.loopO step s0 = some r)
    (hi : ∀ s s', step s = some (.inl s') → T P N n c (Fs s) (σs s) (thn (fun fr' σ' => Shr (σs s).length (σs s) fr' σ' (Fs s') (σs s')) fun _ _ _ => False))
    (hr : ∀ s q, step s = some (.inr q) → T P N n c (Fs s) (σs s) (thn (fun _ _ => False) (QQ q))) : T P N n (.loop c) (Fs s0) (σs s0) (QQ r) := by
  obtain ⟨k, hk⟩ := loopO_ex H
  refine T.loopD (fun k fr σ => ∃ s, fr = Fs s ∧ σ = σs s ∧ iterL step k s = some r) k ⟨s0, rfl, rfl, hk⟩ ?_
  rintro k fr σ ⟨s, rfl, rfl, hk⟩
  cases k with
  | zero => simp [iterL] at hk
  | succ k =>
    rw [iterL] at hk
    cases hs : step s with
    | none => rw [hs] at hk; cases hk
    | some x =>
      rw [hs] at hk
      cases x with
      | inl s' =>
        refine (hi s s' hs).mono fun ex fr' σ' h => ?_
        cases ex with
        | normal => exact ⟨k, Fs s', σs s', by omega, ⟨s', rfl, rfl, hk⟩, h⟩
        | ret => exact h.elim
        | exit id => exact h.elim
      | inr q =>
        injection hk with hk
        subst hk
        refine (hr s q hs).mono fun ex fr' σ' h => ?_
        cases ex with
        | normal => exact h.elim
        | ret => exact h
        | exit id => exact h

/-! ### Values told more weakly -/
inductive Wk : V → V → Prop where
  | same (v : V) : Wk v v
  | nil : Wk .nilS (.im false [])
  | any (v : V) : Wk v .any
  | agg (cs ds : List V) (hl : cs.length = ds.length) (h : ∀ (i : Nat) (c d : V), cs[i]? = some c → ds[i]? = some d → Wk c d) : Wk (.agg cs) (.agg ds)
  | tup (cs ds : List V) (hl : cs.length = ds.length) (h : ∀ (i : Nat) (c d : V), cs[i]? = some c → ds[i]? = some d → Wk c d) : Wk (.tup cs) (.tup ds)

inductive WkL : List V → List V → Prop where
  | nil : WkL [] []
  | cons (c d : V) (cs ds : List V) (h : Wk c d) (t : WkL cs ds) : WkL (c :: cs) (d :: ds)
theorem WkL.get {cs ds : List V} (h : WkL cs ds) : cs.length = ds.length ∧ ∀ (i : Nat) (c d : V), cs[i]? = some c → ds[i]? = some d → Wk c d := by
  induction h with
  | nil => simp
  | cons c d cs ds h _ ih =>
    refine ⟨by simp [ih.1], fun i x y hx hy => ?_⟩
    cases i with
    | zero => simp at hx hy; subst hx; subst hy; exact h
    | succ i => simp at hx hy; exact ih.2 i x y hx hy
theorem WkL.refl : (cs : List V) → WkL cs cs
  | [] => .nil
  | c :: r => .cons c c r r (.same c) (WkL.refl r)
theorem Wk.tupL {cs ds : List V} (h : WkL cs ds) : Wk (.tup cs) (.tup ds) := .tup cs ds h.get.1 h.get.2

theorem Wk.val {S B : Nat → Prop} {ι : List Loc} {σ : ASt} {w : World} {v v' : V} (h : Wk v v') : ∀ {u : Value}, Val S B (RefR ι σ) w v u → Val S B (RefR ι σ) w v' u := by
  induction h with
  | same v => exact fun h => h
  | nil =>
    intro u h
    rw [h.inv_nilS]
    exact .cv _ _ (.im [] none 0 1 (fun _ _ => undef) (Nat.le_refl _) (fun h => absurd rfl h) (fun i j row c h => by simp at h) fun i j row c h => by simp at h)
  | any v => exact fun _ => .any _
  | agg cs ds hl _ ih =>
    intro u h
    obtain ⟨us, rfl, h1, h2⟩ := h.inv_agg
    refine .agg ds us (by omega) fun i d u hd hu => ?_
    have hi : i < cs.length := by rw [hl]; exact (List.getElem?_eq_some_iff.1 hd).1
    exact ih i cs[i] d (by simp) hd (h2 i cs[i] u (by simp) hu)
  | tup cs ds hl _ ih =>
    intro u h
    obtain ⟨us, rfl, h1, h2⟩ := h.inv_tup
    refine .tup ds us (by omega) fun i d u hd hu => ?_
    have hi : i < cs.length := by rw [hl]; exact (List.getElem?_eq_some_iff.1 hd).1
    exact ih i cs[i] d (by simp) hd (h2 i cs[i] u (by simp) hu)

theorem Cs.wk {N : Nat} {n t : Nat} {fr : Fr} {σ : ASt} {v v' : V} (ht : lk fr t = some v) (h : Wk v v') : Cs N n fr σ ((t, v') :: fr) σ := fun S B ι a w hr => ⟨S, ι, hr.retell (h.val (hr.fr t _ ht)), (Fw.refl _ _ _ _).toN⟩

theorem Does.wk {P : Program} {o : Oper} {fr : Fr} {σ σ' : ASt} {v v' : V} (h : Does P o fr σ v σ') (hw : Wk v v') : Does P o fr σ v' σ' := fun S B ι a w he hm next Q hk =>
  h S B ι a w he hm next Q fun u S' ι' w' hv hm' hf => hk u S' ι' w' (hw.val hv) hm' hf

section
variable {P : Program} {o : Oper} {fr : Fr} {σ : ASt}
/-- append, its outcome in a form of one's own. -/
theorem o_app {t e : TypeId} {x y : Operand} {p sz : Nat} {m : Md} {xs rows : List (List V)} {s : V} (ys : List (List V)) (ho : o.op = .call { callee := .builtin .append, args := #[x, y], argTypes := #[t, t] }) (ht : P.underlying t = some (.slice e))
    (hte : TyE P e sz) (hx : evalE fr x = some (.hd p xs.length 0 xs.length)) (hy : evalE fr y = some s) (hs : σ[p]? = some (.arr m sz xs)) (hm0 : m.okT e = true) (hr : srcRows σ s = some rows) (hys : xs ++ rows = ys) (hrl : ∀ row, row ∈ rows → row.length = sz)
    (hb : ys.length ≤ 4294967296) : Does P o fr σ (.hd p ys.length 0 ys.length) (σ.set p (.arr m sz ys)) := by
  subst hys
  rw [List.length_append] at hb ⊢
  exact o_append ho ht hte hx hy hs (Md.okT_f hm0) (Md.okT_t hm0) rfl hr hrl hb
end
end Go.G36
