/- Arrays of one's own, told whole; small forms for the printer. -/
import Derived.Test.YtmlfbendohecmaaKq
namespace Go.G36
variable [Genv]
set_option linter.all false
open Go

inductive ToldL (τ : ASt) : List V → List V → Prop where
  | nil : ToldL τ [] []
  | cons (c d : V) (cs ds : List V) (h : Told τ c d) (t : ToldL τ cs ds) : ToldL τ (c :: cs) (d :: ds)
theorem ToldL.get {τ : ASt} {cs ds : List V} (h : ToldL τ cs ds) : cs.length = ds.length ∧ ∀ (i : Nat) (c d : V), cs[i]? = some c → ds[i]? = some d → Told τ c d := by
  induction h with
  | nil => simp
  | cons c d cs ds h _ ih =>
    refine ⟨by simp [ih.1], fun i x y hx hy => ?_⟩
    cases i with
    | zero => simp at hx hy; subst hx; subst hy; exact h
    | succ i => simp at hx hy; exact ih.2 i x y hx hy
theorem Told.tupL {τ : ASt} {cs ds : List V} (h : ToldL τ cs ds) : Told τ (.tup cs) (.tup ds) := .tup cs ds h.get.1 h.get.2
theorem Told.own {τ : ASt} {a L sz : Nat} {m : Md} {xs : List (List V)} (h : τ[a]? = some (.arr m sz xs)) (hm : m ≠ .raw) (hL : xs.length = L) : Told τ (.hd a L 0 L) (.im false xs) := by
  have := Told.hd (τ := τ) a L 0 L sz m xs h hm hL
  rw [List.drop_zero, ← hL, List.take_length] at this
  rw [hL] at this
  exact this
/-- nil, told as an empty list. -/
theorem Lent.own {σ : ASt} {a L sz : Nat} {m : Md} {xs : List (List V)} (h : σ[a]? = some (.arr m sz xs)) (hm : m ≠ .raw) (hL : xs.length = L) : Lent σ (.hd a L 0 L) (.im true xs) := by
  have := Lent.hd (σ := σ) a L 0 L sz m xs h hm hL
  rw [List.drop_zero, ← hL, List.take_length] at this
  rw [hL] at this
  exact this
theorem Lent.imv {σ : ASt} (b : Bool) (xs : List (List V)) : Lent σ (.im b xs) (.im b xs) := by
  cases b with
  | true => exact .im xs
  | false => exact .cl _ rfl

section
variable {P : Program} {o : Oper} {fr : Fr} {σ : ASt}
theorem o_lenL {α : Type} {f : α → List V} {t e : TypeId} {x : Operand} {b : Bool} {xs : List α} (ho : o.op = .call { callee := .builtin .len, args := #[x], argTypes := #[t] }) (ht : P.underlying t = some (.slice e))
    (hx : evalE fr x = some (.im b (xs.map f))) : Does P o fr σ (.int .i64 (xs.length : Int)) σ := by
  have := o_lenIm (σ := σ) ho ht hx
  rwa [List.length_map] at this
theorem o_lenOwn {α : Type} {f : α → List V} {t e : TypeId} {x : Operand} {p L sz : Nat} {m : Md} {xs : List α} (ho : o.op = .call { callee := .builtin .len, args := #[x], argTypes := #[t] }) (ht : P.underlying t = some (.slice e))
    (hx : evalE fr x = some (.hd p L 0 L)) (hs : σ[p]? = some (.arr m sz (xs.map f))) (hL : (xs.map f).length = L) : Does P o fr σ (.int .i64 (xs.length : Int)) σ := by
  have := o_lenHd ho ht hx hs hL
  rw [← hL, List.length_map] at this
  exact this
end
theorem Cs.frzOwn {N : Nat} {n t p L sz : Nat} {fr : Fr} {σ : ASt} {xs : List (List V)} (ht : lk fr t = some (.hd p L 0 L)) (hs : σ[p]? = some (.arr .clo sz xs)) (hL : xs.length = L) : Cs N n fr σ ((t, .im false xs) :: fr) (σ.set p (.arr .frz sz xs)) := by
  have := Cs.freeze (N := N) (n := n) ht hs hL
  rw [List.drop_zero, ← hL, List.take_length] at this
  exact this
theorem evl_1 {fr : Fr} {x : Operand} {a : V} (h : evalE fr x = some a) : evalL fr [x] = some [a] := by simp [evalL, h]
theorem evl_2 {fr : Fr} {x y : Operand} {a b : V} (h : evalE fr x = some a) (k : evalE fr y = some b) : evalL fr [x, y] = some [a, b] := by simp [evalL, h, k]
end Go.G36
