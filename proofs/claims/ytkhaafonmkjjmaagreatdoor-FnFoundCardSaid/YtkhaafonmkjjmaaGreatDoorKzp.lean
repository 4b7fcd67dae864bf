/- Guards in drawn regions of any order; bounds that are guarded. -/
import Derived.Test.YtkhaafonmkjjmaaGreatDoorKzo
namespace Go.G36
variable [Genv]
set_option linter.all false
open Go

theorem ops_atG {P : Program} {ops : Array Oper} {o : Oper} {fr : Fr} {τ1 τ2 : ASt} {v v' : V} {σ1 σ2 : ASt} {g t' : Nat} {want c : Bool} {y : V} (h1 : τ1 = σ1) (hg : o.guard = some (g,want)) (ht : (ops[g]?).bind (·.dst) = some t') (hv : lk fr t' = some y) (hu : Gu want y c)
    (h : c = true → Does P o fr σ1 v' σ2) (h2 : τ2 = σ2) (hs : c = false → σ2 = σ1) (hvv : v = Gd c v') : DoG P ops o fr τ1 v τ2:=by
  subst h1; subst h2; subst hvv
  exact DoG.gc hg ht hv hu h hs
theorem opt_of {fr : Fr} {x : Operand} {d v : Int} {k : IntKind} (h : evalE fr x = some (.int k v)) : optE fr (some x) d = some v:=by simp [optE,h]
end Go.G36
