/- Drawn regions whose stores depend on what is done: in any order that the program leaves open. -/
import Derived.Test.YtmlfbendohecmaaKzd
namespace Go.G36
variable [Genv]
set_option linter.all false
open Go

def updb (b : Nat → Bool) (k : Nat) : Nat → Bool := fun j => if Nat.beq j k then true else b j

/-- What is shown of an operation: at each store at which it may run. -/
def OpAt (P : Program) (L : List Oper) (st : (Nat → Bool) → ASt) (fr : Fr) (R : List Rc) (k : Nat) (c : Rc) (o : Oper) : Prop :=
  c.dst = o.dst ∧ ∃ fri, (∀ t, t ∈ o.looksAt L.toArray → lk fri t = lkR fr (lt_ k) 0 R t) ∧
    ∀ b : Nat → Bool, (∀ j, ahead L k j = true → b j = true) → (∀ j, ahead L j k = true → b j = false) → b k = false → (∀ i j, Nat.blt i L.length = true → ahead L i j = true → b i = true → b j = true) → DoG P L.toArray o fri (st b) c.v (st (updb b k))
inductive OpsAt (P : Program) (L : List Oper) (st : (Nat → Bool) → ASt) (fr : Fr) (R0 : List Rc) : Nat → List Rc → List Oper → Prop where
  | nil (k : Nat) : OpsAt P L st fr R0 k [] []
  | cons (k : Nat) (c : Rc) (o : Oper) (R : List Rc) (l : List Oper) (h : OpAt P L st fr R0 k c o) (t : OpsAt P L st fr R0 (k + 1) R l) : OpsAt P L st fr R0 k (c :: R) (o :: l)
theorem OpsAt.get {P : Program} {L : List Oper} {st : (Nat → Bool) → ASt} {fr : Fr} {R0 : List Rc} {k : Nat} {R : List Rc} {l : List Oper} (h : OpsAt P L st fr R0 k R l) :
    R.length = l.length ∧ ∀ (i : Nat) (c : Rc) (o : Oper), R[i]? = some c → l[i]? = some o → OpAt P L st fr R0 (k + i) c o := by
  induction h with
  | nil => simp
  | cons k c o R l h _ ih =>
    refine ⟨by simp [ih.1], fun i x y hx hy => ?_⟩
    cases i with
    | zero => simp at hx hy; subst hx; subst hy; exact h
    | succ i => simp at hx hy; have := ih.2 i x y hx hy; rwa [show k + (i + 1) = k + 1 + i by omega]

inductive FrL (f : Nat → Option V) : Fr → Prop where
  | nil : FrL f []
  | cons {t : Nat} {v : V} {r : Fr} (h : f t = some v) (hr : FrL f r) : FrL f ((t, v) :: r)
theorem FrL.get {f : Nat → Option V} {fr : Fr} (h : FrL f fr) : ∀ t v, lk fr t = some v → f t = some v := by
  induction h with
  | nil => intro t v h; simp [lk] at h
  | cons h _ ih =>
    intro t' x hl
    simp only [lk] at hl
    split at hl
    · rename_i hb
      injection hl with hl; subst hl
      have := Nat.eq_of_beq_eq_true hb
      subst this; exact h
    · exact ih t' x hl
inductive AllN (p : Nat → Prop) : List Nat → Prop where
  | nil : AllN p []
  | cons {t : Nat} {r : List Nat} (h : p t) (hr : AllN p r) : AllN p (t :: r)
theorem AllN.get {p : Nat → Prop} {l l' : List Nat} (e : l = l') (h : AllN p l') : ∀ t, t ∈ l → p t := by
  subst e
  induction h with
  | nil => intro t h; cases h
  | cons h _ ih =>
    intro t ht
    rcases List.mem_cons.1 ht with rfl | ht
    · assumption
    · exact ih t ht

section
variable {P : Program} {o : Oper} {fr : Fr} {σ : ASt}
end
end Go.G36
