/- Pointers by number in use: loads and stores through them,new blocks told by number,arrays of them. -/
import Derived.Test.YtkhaafonmkjjmaaGreatDoorKzj
namespace Go.G36
variable [Genv]
set_option linter.all false
open Go

inductive WkP (p:Nat):List V→List V→Prop where
  | nil:WkP p [] []
  | same (c:V) (r r':List V) (t:WkP p r r'):WkP p (c :: r) (c :: r')
  | sl (b:Bool) (r r':List V) (t:WkP p r r'):WkP p (.nilS :: r) (.im b [] :: r')
  | ptr (L j:Nat) (r r':List V) (t:WkP p r r'):WkP p (.nilP :: r) (.px p L (-1) j :: r')

section
variable {P:Program} {o:Oper} {fr:Fr} {σ:ASt}

theorem Cs.frzCell{N n p q L sz:Nat}{cs:List V}{xs:List (List V)}(j:Nat)(hq:σ[q]? = some (.box cs))(hj:cs[j]? = some (.hd p L 0 L))(hs:σ[p]? = some (.arr .clo sz xs))(hL:xs.length=L)(hne:Nat.beq p q=false) :
    Cs N n fr σ fr ((σ.set p (.arr .frz sz xs)).set q (.box (cs.set j (.im false xs)))):=fun S B ι a w hr=>by
  obtain⟨S',hm',hf⟩:=hr.mem.freeze hs
  have hr':=hr.fw hf hm'
  have hpq:p≠q:=fun e=>by rw[e,Nat.beq_refl]at hne;cases hne
  have hp:=(List.getElem?_eq_some_iff.1 hs).1
  obtain⟨h1,h2⟩:=Rel.cell (N:=N) hr' (p:=q) (j:=j) (cs:=cs) (c:=.hd p L 0 L) (v:=.im false xs) (by rw[List.getElem?_set_ne hpq];exact hq) hj fun u hu=>by
    have:=frz_val hm' (List.getElem?_set_self hp) hL hu
    rw[List.drop_zero,List.take_of_length_le (by omega)]at this
    exact this
  exact⟨S',_,h1,hf.toN.trans h2⟩
end
theorem belFam{N:Nat}{α:Type}{g:α→List V}{xs:List α}(h:∀ x,bels N (g x)=true):belO N (.fam (xs.map g)):=fun row hr c hc=>by
  obtain⟨x,_,rfl⟩:=List.mem_map.1 hr
  exact Bt.1 (h x) c hc
theorem belRaw{N:Nat}{α:Type}{sz:Nat}{g:α→List V}{xs:List α}(h:∀ x,bels N (g x)=true):belO N (.arr .raw sz (xs.map g)):=fun row hr c hc=>by
  obtain⟨x,_,rfl⟩:=List.mem_map.1 hr
  exact Bt.1 (h x) c hc
end Go.G36
