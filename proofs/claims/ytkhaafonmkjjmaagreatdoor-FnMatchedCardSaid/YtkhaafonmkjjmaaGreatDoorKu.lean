/- Maps with plain keys. -/
import Derived.Test.YtkhaafonmkjjmaaGreatDoorKua
import Derived.MapKept
namespace Go.G36
variable [Genv]
set_option linter.all false
open Go

/-! ### As lists -/
def mfind {κ ε : Type} [BEq κ] (k : κ) : List (κ × ε) → Nat → Option (Nat × ε)
  | [], _ => none
  | e :: r, i => bif k == e.1 then some (i, e.2) else mfind k r (i + 1)
theorem mfind_at {κ ε : Type} [BEq κ] {k : κ} : ∀ (xs : List (κ × ε)) (i j : Nat) (v : ε), mfind k xs i = some (j, v) → i ≤ j ∧ ∃ k', xs[j - i]? = some (k', v) ∧ (k == k') = true
  | [], i, j, v, h => by simp [mfind] at h
  | e :: r, i, j, v, h => by
    rw [mfind] at h
    cases hb : (k == e.1) with
    | true =>
      rw [hb] at h
      simp only [cond_true, Option.some.injEq, Prod.mk.injEq] at h
      obtain ⟨rfl, rfl⟩ := h
      exact ⟨Nat.le_refl _, e.1, by simp, hb⟩
    | false =>
      rw [hb] at h
      simp only [cond_false] at h
      obtain ⟨h1, k', h2, h3⟩ := mfind_at r (i + 1) j v h
      refine ⟨by omega, k', ?_, h3⟩
      have : j - i = (j - (i + 1)) + 1 := by omega
      rw [this, List.getElem?_cons_succ]
      exact h2

/-- Keys of one plain kind. -/
structure KeyP (P : Program) (kt : TypeId) {κ : Type} [BEq κ] (fk : κ → V) : Prop where
  ex : ∃ d, P.underlying kt = some d ∧ ∀ (a b : κ) (S : Nat → Prop) (w : World) (ua ub : Value), CV S w (fk a) ua → CV S w (fk b) ub → MapKept.IsKey d ua ∧ Instr.sameNow d ua ub = some (a == b) ∧ ((a == b) = true → ua = ub)
/-- Keys: checked, found, and alike just where they are the same. -/
structure KeyK (P : Program) (kt : TypeId) {κ : Type} [BEq κ] (fk : κ → V) : Prop where
  chk : ∀ (a : κ) (S : Nat → Prop) (w : World) (ua : Value), CV S w (fk a) ua → ∀ e, (Instr.checkKey e 10000 kt ua).run P w = .ok () w
  fnd : ∀ (k : κ) (S : Nat → Prop) (w : World) (uk : Value), CV S w (fk k) uk → ∀ (ε : Type) (xs : List (κ × ε)) (l : List MapEntry), l.length = xs.length →
    (∀ (q : Nat) (x : κ × ε) (m : MapEntry), xs[q]? = some x → l[q]? = some m → CV S w (fk x.1) m.key) →
    (Instr.findKey kt uk l).run P w = .ok (match mfind k xs 0 with | none => none | some (j, _) => (l[j - 0]?).map fun m => (j, m.val)) w
  eqv : ∀ (a b : κ) (S : Nat → Prop) (w : World) (ua ub : Value), CV S w (fk a) ua → CV S w (fk b) ub → (a == b) = true → ua = ub
  sty : ∀ (a : κ) (S : Nat → Prop) (w : World) (ua : Value), CV S w (fk a) ua → (Instr.keyThatStays ua ua).run P w = .ok ua w

def mpO {κ ε : Type} (fk : κ → V) (fv : ε → V) (xs : List (κ × ε)) : AO := .mp (xs.map fun e => (fk e.1, fv e.2))

theorem findNow_of {κ ε : Type} [BEq κ] {fk : κ → V} {d : TypeDesc} {S : Nat → Prop} {w : World} {k : κ} {uk : Value} (hk : CV S w (fk k) uk)
    (hd : ∀ (a b : κ) (S : Nat → Prop) (w : World) (ua ub : Value), CV S w (fk a) ua → CV S w (fk b) ub → MapKept.IsKey d ua ∧ Instr.sameNow d ua ub = some (a == b) ∧ ((a == b) = true → ua = ub)) :
    ∀ (xs : List (κ × ε)) (l : List MapEntry) (i : Nat), l.length = xs.length → (∀ (q : Nat) (x : κ × ε) (m : MapEntry), xs[q]? = some x → l[q]? = some m → CV S w (fk x.1) m.key) →
      Instr.findNow d uk l i = some (match mfind k xs i with | none => none | some (j, _) => (l[j - i]?).map fun m => (j, m.val))
  | [], [], i, _, _ => rfl
  | [], m :: l, i, h, _ => by simp at h
  | x :: xs, [], i, h, _ => by simp at h
  | x :: xs, m :: l, i, h, hc => by
    have h1 := (hd k x.1 S w uk m.key hk (hc 0 x m rfl rfl)).2.1
    rw [Instr.findNow, h1, mfind]
    cases hb : (k == x.1) with
    | true => simp
    | false =>
      simp only [cond_false]
      rw [findNow_of hk hd xs l (i + 1) (by simpa using h) fun q y m' hy hm => hc (q + 1) y m' (by simpa using hy) (by simpa using hm)]
      cases hf : mfind k xs (i + 1) with
      | none => rfl
      | some z =>
        obtain ⟨j, v⟩ := z
        have := (mfind_at xs (i + 1) j v hf).1
        have e : j - i = (j - (i + 1)) + 1 := by omega
        simp only [e, List.getElem?_cons_succ]

theorem KeyP.key {P : Program} {kt : TypeId} {κ : Type} [BEq κ] {fk : κ → V} (h : KeyP P kt fk) : KeyK P kt fk := by
  obtain ⟨d, hd, hK⟩ := h
  refine ⟨fun a S w ua ha e => MapKept.run_checkKey hd (hK a a S w _ _ ha ha).1 e 9999, fun k S w uk hk ε xs l hl hc => MapKept.run_findKey hd (findNow_of hk hK xs l 0 hl hc), fun a b S w ua ub ha hb => (hK a b S w _ _ ha hb).2.2, fun a S w ua ha => MapKept.run_keyThatStays (hK a a S w _ _ ha ha).1⟩
section
variable {P : Program} {o : Oper} {fr : Fr} {σ : ASt}

end

theorem belMap {N : Nat} {κ ε : Type} {fk : κ → V} {fv : ε → V} {xs : List (κ × ε)} (h : ∀ e, bel N (fv e) = true) : belO N (mpO fk fv xs) := by
  intro e he
  obtain ⟨x, _, rfl⟩ := List.mem_map.1 he
  exact h x.2
inductive RenL (f : Nat → Nat) : ASt → ASt → Prop where
  | nil : RenL f [] []
  | cons (o o' : AO) (r r' : ASt) (h : renO f o = o') (t : RenL f r r') : RenL f (o :: r) (o' :: r')
theorem RenL.map {f : Nat → Nat} {a b : ASt} (h : RenL f a b) : a.map (renO f) = b := by
  induction h with
  | nil => rfl
  | cons o o' r r' h _ ih => simp [h, ih]
theorem CV.imNil {S : Nat → Prop} {w : World} : CV S w (.im false []) (.slice none 0 0) :=
  .im [] none 0 1 (fun _ _ => undef) (Nat.le_refl _) (fun h => absurd rfl h) (fun i j row c h => by simp at h) fun i j row c h => by simp at h
end Go.G36
