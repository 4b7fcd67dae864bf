/- Elements written; slices made; typed. -/
import Derived.Test.YtmlfbendohecmaaKw
namespace Go.G36
variable [Genv]
set_option linter.all false
open Go

def mk {α : Type} (z : α) (n : Int) : Option (List α) := if 0 ≤ n ∧ n ≤ 4294967296 then some (List.replicate n.toNat z) else none
theorem Cs.eqV {N n t : Nat} {fr : Fr} {σ : ASt} {v v' : V} (ht : lk fr t = some v) (h : v = v') : Cs N n fr σ ((t, v') :: fr) σ := by subst h; exact Cs.wk ht (.same _)
section
variable {P : Program} {o : Oper} {fr : Fr} {σ : ASt}
/-- An element, or a part of it, is written. -/
theorem o_stEl {α : Type} {f : α → List V} {t : TypeId} {x y : Operand} {p L j sz : Nat} {ag : Bool} {m : Md} {size : Nat} {xs : List α} {k : Int} {a : α} {v : V} (a' : α) (ho : o.op = .store t x y) (ht : TyS P t ag sz) (hx : evalE fr x = some (.el p L k.toNat j)) (hy : evalE fr y = some v)
    (hs : σ[p]? = some (.arr m size (xs.map f))) (hL : (xs.map f).length = L) (hm0 : m ≠ .frz) (h : idx xs k = some a) (hsz : v.cells.length = sz) (hl : Nat.ble (j + sz) (f a).length = true) (hsu : V.sures σ v.cells = true) (hcl : m ≠ .raw → V.cls v.cells = true)
    (hput : putAt j v.cells (f a) = f a') : Does P o fr σ .any (σ.set p (.arr m size ((xs.set k.toNat a').map f))) := by
  obtain ⟨h0, h1⟩ := idx_s h
  have := o_storeEl (row := f a) ho ht hx hy hs hL hm0 (by rw [List.getElem?_map, h1]; rfl) hsz (Nat.le_of_ble_eq_true hl) hsu hcl
  rw [hput] at this
  rw [List.map_set]
  exact this
end
end Go.G36
