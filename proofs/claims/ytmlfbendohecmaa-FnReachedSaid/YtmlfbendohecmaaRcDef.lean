/- What AddNest, DropNest, yreach and WayOf compute. -/
import Derived.Test.YtmlfbendohecmaaRC1
import Derived.Test.YtmlfbendohecmaaKzr
set_option linter.all false
namespace Go.G36.RcAnc
open Go Go.Proofs Go.G36 Go.G36.RC

def cmpS (a b : ByteArray) : Int := if Op.bytesLess a.toList b.toList then -1 else if (!(Op.bytesLess a.toList b.toList) && !(a.toList == b.toList)) then 1 else 0
def orI (a b : Int) : Int := if a ≠ 0 then a else b
def cmpR (a b : T_impl_Reach) : Int := orI (cmpS a.Group_ b.Group_) (cmpS a.Member_ b.Member_)
def leR (a b : T_impl_Reach) : Bool := !decide (cmpR b a < 0)
/-- What one nest's group tells, if it is the first of its group. -/
noncomputable def rowsAt (a0 : List T_impl_Nest) (i : Nat) : Option (List T_impl_Reach) :=
  (idx a0 (i : Int)).bind fun n => (gdO (decide ((i : Int) > 0)) (idx a0 ((i : Int) - 1))).bind fun p => cond (decide ((i : Int) > 0) && (p.Group_.toList == n.Group_.toList)) (some []) ((impl_yfrom a0 n.Group_).bind fun m => some (m.map fun e => (⟨n.Group_, e.1, e.2⟩ : T_impl_Reach)))
noncomputable def gathN (a0 : List T_impl_Nest) : Nat → Option (List T_impl_Reach)
  | 0 => some []
  | i + 1 => (gathN a0 i).bind fun l => (rowsAt a0 i).bind fun r => cond (decide (l.length + r.length ≤ 4294967295)) (some (l ++ r)) none
def keyR (x : T_impl_Reach) : List UInt8 × List UInt8 := (x.Group_.toList, x.Member_.toList)
noncomputable def sortR (xs : List T_impl_Reach) : Option (List T_impl_Reach) := open Classical in if (xs.map keyR).Nodup then sortO leR xs else none
noncomputable def reach (a0 : List T_impl_Nest) : Option (List T_impl_Reach) := cond (decide (a0.length ≤ 4294967295)) ((gathN a0 a0.length).bind sortR) none
noncomputable def way_l2 (a0 : List T_impl_Nest) (m : ByteArray) (left : Int) (at_ : ByteArray) : Int → Option (Int ⊕ (Unit ⊕ ByteArray)) := fun i =>
  cond (decide (i < (a0.length : Int))) ((idx a0 i).bind fun n => cond (n.Group_.toList == at_.toList) ((impl_yfrom a0 n.Member_).bind fun s => cond (((mget s m).getD 0) == (IntKind.i64.wrap (left - 1))) (some (.inr (.inr n.Member_))) (some (.inl (IntKind.i64.wrap (i + 1))))) (some (.inl (IntKind.i64.wrap (i + 1))))) (some (.inr (.inl ())))
def pickAt (at_ : ByteArray) (q : Unit ⊕ ByteArray) : ByteArray := match q with | .inl _ => at_ | .inr x => x
noncomputable def way_l1 (a0 : List T_impl_Nest) (m : ByteArray) : (List ByteArray × ByteArray × Int) → Option ((List ByteArray × ByteArray × Int) ⊕ List ByteArray) := fun s => match s with
  | (way, at_, left) => cond (decide (left > 1)) ((loopO (way_l2 a0 m left at_) 0).bind fun q => (app way ([(pickAt at_ q)] : List ByteArray)).bind fun way2 => some (.inl (way2, (pickAt at_ q), (IntKind.i64.wrap (left - 1))))) (some (.inr way))
noncomputable def wayOf (a0 : List T_impl_Nest) (a1 a2 : ByteArray) : Option (List ByteArray) :=
  (impl_GoodNests a0).bind fun r1 => cond (!r1) (some []) ((impl_yfrom a0 a1).bind fun s => cond (((mget s a2).getD 0) == 0) (some []) ((loopO (way_l1 a0 a2) (([a1] : List ByteArray), a1, (mget s a2).getD 0)).bind fun way => app way ([a2] : List ByteArray)))
end Go.G36.RcAnc
