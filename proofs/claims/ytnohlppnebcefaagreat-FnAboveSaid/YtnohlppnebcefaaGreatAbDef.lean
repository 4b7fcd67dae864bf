/- What yancestors and Ancestors compute. -/
import Derived.Test.YtnohlppnebcefaaGreatAB1
import Derived.Test.YtnohlppnebcefaaGreatKzr
import Derived.Test.YtnohlppnebcefaaGreatKzv
set_option linter.all false
namespace Go.G36.AbAnc
open Go Go.Proofs Go.G36 Go.G36.AB

/-- One parent of the thing whose row is told. -/
noncomputable def anc_l2 (r : T_impl_Thing) : (List T_impl_Atom × List (T_impl_Atom × Bool) × Int) → Option ((List T_impl_Atom × List (T_impl_Atom × Bool) × Int) ⊕ (List T_impl_Atom × List (T_impl_Atom × Bool))) := fun s => match s with
  | (row, m, i) => cond (decide (i < (r.Parents_.length : Int))) ((idx r.Parents_ i).bind fun p => cond (!((mget m p).getD false)) ((apQ row ([p] : List T_impl_Atom)).bind fun row2 => some (.inl (row2, mput m p true, (IntKind.i64.wrap (i + 1))))) (some (.inl (row, m, (IntKind.i64.wrap (i + 1)))))) (some (.inr (row, m)))
noncomputable def anc_l1 (a0 : List T_impl_Thing) : (List T_impl_Atom × List (T_impl_Atom × Bool)) → Option ((List T_impl_Atom × List (T_impl_Atom × Bool)) ⊕ List (T_impl_Atom × Bool)) := fun s => match s with
  | (row, m) => cond (decide ((row.length : Int) > 0)) ((idx row 0).bind fun x => (impl_yfindThing a0 x).bind fun q => (match q with | (r, ok) => (loopO (anc_l2 r) (row, m, 0)).bind fun q2 => (match q2 with | (row2, m2) => (sub row2 1 (row2.length : Int)).bind fun row3 => some (.inl (row3, m2))))) (some (.inr m))
noncomputable def anc (a0 : List T_impl_Thing) (a1 : T_impl_Atom) : Option (List (T_impl_Atom × Bool)) :=
  loopO (anc_l1 a0) (([a1] : List T_impl_Atom), mput ([] : List (T_impl_Atom × Bool)) a1 true)

def cmpN (a b : Int) : Int := if a < b then -1 else if a > b then 1 else 0
def cmpS (a b : ByteArray) : Int := if Op.bytesLess a.toList b.toList then -1 else if (!(Op.bytesLess a.toList b.toList) && !(a.toList == b.toList)) then 1 else 0
def orI (a b : Int) : Int := if a ≠ 0 then a else b
def cmpA (a b : T_impl_Atom) : Int := orI (cmpN a.Kind_ b.Kind_) (orI (cmpN a.Num_ b.Num_) (orI (cmpS a.Type_ b.Type_) (cmpS a.Text_ b.Text_)))
def leA (a b : T_impl_Atom) : Bool := !decide (cmpA b a < 0)
/-- All above a ref, and it, in order. -/
noncomputable def ancs (a0 : List T_impl_Thing) (a1 : T_impl_Atom) : Option (List T_impl_Atom) :=
  (impl_GoodThings a0).bind fun r1 => (gdO (!(!r1)) (impl_ygoodRef a1)).bind fun r3 => cond ((!r1) || (!r3)) (some ([] : List T_impl_Atom)) ((anc a0 a1).bind fun m => cond (decide (m.length ≤ 4294967295)) (sortO leA (m.map (·.1))) none)
end Go.G36.AbAnc
