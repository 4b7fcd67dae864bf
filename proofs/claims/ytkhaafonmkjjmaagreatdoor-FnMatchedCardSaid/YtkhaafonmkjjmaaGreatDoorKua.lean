/- Structs compared. -/
import Derived.Test.YtkhaafonmkjjmaaGreatDoorKt
import Derived.Laws.StructEq
namespace Go.G36
variable [Genv]
set_option linter.all false
open Go

/-- What comparing two plain values comes to: by their cells. The number bounds the nesting. -/
inductive EqT (P : Program) : Bool → Nat → TypeId → List Field → Nat → List V → List V → Bool → Prop where
  | bool {n t : Nat} {a b : Bool} (h : P.underlying t = some .bool) : EqT P true (n + 1) t [] 0 [.bool a] [.bool b] (a == b)
  | int {n t : Nat} {k : IntKind} {a b : Int} (h : P.underlying t = some (.int k)) : EqT P true (n + 1) t [] 0 [.int k a] [.int k b] (a == b)
  | str {n t : Nat} {a b : ByteArray} (h : P.underlying t = some .string) : EqT P true (n + 1) t [] 0 [.str a] [.str b] (a.toList == b.toList)
  | struct {n t : Nat} {fs : Array Field} {cs ds : List V} {b : Bool} (h : P.underlying t = some (.struct fs)) (hs : P.stoodInHeld t = false) (hf : EqT P false n 0 fs.toList 0 cs ds b) : EqT P true (n + 1) t [] 0 cs ds b
  | nil {n o : Nat} : EqT P false n 0 [] o [] [] true
  | cons {n o : Nat} {f : Field} {fs : List Field} {c d cs ds : List V} {b b2 : Bool} {ag : Bool} {sz : Nat} (hn : (f.name == "_") = false) (ho : Nat.beq f.offset o = true) (ht : TyS P f.type ag sz) (hc : c.length = sz) (hd : d.length = sz)
      (hag : ag = false → sz = 1) (hag2 : ag = true → ∃ fs, P.underlying f.type = some (.struct fs)) (hag3 : ag = false → ∀ fs, P.underlying f.type ≠ some (.struct fs)) (h1 : EqT P true n f.type [] 0 c d b) (h2 : EqT P false n 0 fs (o + sz) cs ds b2) : EqT P false n 0 (f :: fs) o (c ++ cs) (d ++ ds) (b && b2)

def CvL (S : Nat → Prop) (w : World) (cs : List V) (us : List Value) : Prop := cs.length = us.length ∧ ∀ (i : Nat) (c : V) (u : Value), cs[i]? = some c → us[i]? = some u → CV S w c u

theorem CvL.one {S : Nat → Prop} {w : World} {c : V} {us : List Value} (h : CvL S w [c] us) : ∃ u, us = [u] ∧ CV S w c u := by
  obtain ⟨h1, h2⟩ := h
  match us, h1 with
  | [u], _ => exact ⟨u, rfl, h2 0 c u rfl rfl⟩

theorem CvL.split {S : Nat → Prop} {w : World} {sz o : Nat} {c cs : List V} {us : List Value} (hc : c.length = sz) (g : CvL S w (c ++ cs) (us.drop o)) (og : o ≤ us.length) : CvL S w c ((us.drop o).take sz) ∧ CvL S w cs (us.drop (o + sz)) ∧ o + sz ≤ us.length := by
  obtain ⟨g1, g2⟩ := g
  rw [List.length_append, List.length_drop] at g1
  refine ⟨⟨by rw [List.length_take, List.length_drop]; omega, fun i x u hx hu => ?_⟩, ⟨by rw [List.length_drop]; omega, fun i x u hx hu => ?_⟩, by omega⟩
  · have hi : i < c.length := (List.getElem?_eq_some_iff.1 hx).1
    rw [List.getElem?_take, if_pos (by omega)] at hu
    exact g2 i x u (by rw [List.getElem?_append_left hi]; exact hx) hu
  · refine g2 (c.length + i) x u (by rw [List.getElem?_append_right (by omega)]; simpa using hx) ?_
    rw [List.getElem?_drop] at hu ⊢
    rw [← hu]; congr 1; omega

section
variable {P : Program} {o : Oper} {fr : Fr} {σ : ASt}
end
end Go.G36
