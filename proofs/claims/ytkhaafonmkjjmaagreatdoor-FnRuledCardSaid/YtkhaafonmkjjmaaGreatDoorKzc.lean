/- Arrays in boxes: single cells each; shifts by what is told. -/
import Derived.Test.YtkhaafonmkjjmaaGreatDoorKzb
namespace Go.G36
variable [Genv]
set_option linter.all false
open Go

def ixA{α:Type}(n:Nat)(xs:List α)(i:Int):Option α:=if xs.length=n∧0≤i∧i<n then xs[i.toNat]? else none
theorem ixA_s{α:Type}{n:Nat}{xs:List α}{i:Int}{a:α}(h:ixA n xs i=some a):xs.length=n∧0≤i∧i<n∧xs[i.toNat]? = some a:=by
  unfold ixA at h
  split at h
  · rename_i hh;exact⟨hh.1,hh.2.1,hh.2.2,h⟩
  · cases h
section
variable {P:Program} {o:Oper} {fr:Fr} {σ:ASt}
theorem o_ixA{α:Type}{f:α→V}{t e:TypeId}{x y:Operand}{p n:Nat}{xs:List α}{k:IntKind}{i:Int}{a:α}(ho:o.op = .indexAddr t x y)(ht:P.underlying t=some (.array n e))(hs:TyS P e false 1)
    (hx:Bi fr x=some (.bx p 0)) (hy:Bi fr y=some (.int k i)) (hσ:σ[p]? = some (.box (xs.map f))) (h:ixA n xs i=some a) (hn:1<n):B1 P o fr σ (.bx p i.toNat) σ:=C6 fun S B ι ac w he hm=>by
  obtain⟨h1,h2,h3,h4⟩:=ixA_s h
  have hval:=he x (by simp[ho,Op.operands]) _ hx
  obtain⟨b,e0,q1,hu,q2⟩:=A1.bx (Val.inv_ref (v:=.bx p 0) rfl trivial hval) hσ
  have hi:=(he y (by simp[ho,Op.operands]) _ hy).inv_int
  have hlt:=(List.getElem?_eq_some_iff.1 h4).1
  refine⟨.pointer (some ⟨b,i.toNat,none⟩),?_,.ref _ _ ?_⟩
  · simp[execOp,ho,hu,hi,Instr.indexAt,asIntOf,run_underlying ht,Instr.sureAddr,h2,h3,hs.size w,Addr.add_mid]
  · simp[A1,hσ,q1];omega
theorem o_ldA{α:Type}{f:α→V}{t:TypeId}{x:Operand}{p n:Nat}{xs:List α}{i:Int}{a:α}(ho:o.op = .load t x)(ht:TyS P t false 1)(hx:Bi fr x=some (.bx p i.toNat))(hσ:σ[p]? = some (.box (xs.map f)))
    (h:ixA n xs i=some a):B1 P o fr σ (f a) σ:=by
  obtain⟨h1,h2,h3,h4⟩:=ixA_s h
  have hlt:=(List.getElem?_eq_some_iff.1 h4).1
  have he:xs[i.toNat]=a:=by rw[List.getElem?_eq_getElem hlt]at h4;injection h4
  refine Bs ho ht hx hσ (by simp;omega) ?_
  rw[List.drop_eq_getElem_cons (by simpa using hlt)]
  simp[he,wrapV]
theorem o_stA{α:Type}{f:α→V}{t:TypeId}{x y:Operand}{p n:Nat}{xs:List α}{i:Int}{a b:α}(ho:o.op = .store t x y)(ht:TyS P t false 1)(hx:Bi fr x=some (.bx p i.toNat))(hy:Bi fr y=some (f b))(hσ:σ[p]? = some (.box (xs.map f)))
    (h:ixA n xs i=some a) (hc:(f b).cells = [f b]) (hsu:V.sures σ (f b).cells=true):B1 P o fr σ .any (σ.set p (.box ((xs.set i.toNat b).map f))):=by
  obtain⟨h1,h2,h3,h4⟩:=ixA_s h
  have hlt:=(List.getElem?_eq_some_iff.1 h4).1
  have:=Cm (cs:=xs.map f) (v:=f b) (sz:=1) ho ht hx hy hσ (by rw[hc];rfl) (by simp;omega) hsu
  have e:Fa i.toNat (f b).cells (xs.map f)=(xs.set i.toNat b).map f:=by
    rw[hc]
    apply List.ext_getElem?
    intro j
    rw[putAt_get (by simp;omega)]
    rw[List.map_set]
    by_cases hj:i.toNat=j
    · subst hj;rw[List.getElem?_set_self (by simpa using hlt)];simp
    · rw[List.getElem?_set_ne hj]
      simp only[List.length_cons,List.length_nil]
      rw[if_neg (by omega)]
  rw[e]at this
  exact this
end
end Go.G36
