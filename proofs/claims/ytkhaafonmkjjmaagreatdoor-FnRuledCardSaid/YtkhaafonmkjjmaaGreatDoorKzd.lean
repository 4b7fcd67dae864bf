/- Functions that call themselves. -/
import Derived.Test.YtkhaafonmkjjmaaGreatDoorKzc
import Derived.Laws.Cover3
namespace Go.G36
variable [Genv]
set_option linter.all false
open Go

section
variable {A R:Type}
def Dk(b:(A→Option R)→A→Option R):Nat→A→Option R
  | 0,_=>none
  | n+1,x=>b (Dk b n) x
open Classical in
noncomputable def fixO(b:(A→Option R)→A→Option R)(x:A):Option R :=
  if h:∃ n r,Dk b n x=some r then some (Classical.choose (Classical.choose_spec h)) else none
theorem fixO_ex{b:(A→Option R)→A→Option R}{x:A}{r:R}(h:fixO b x=some r):∃ n,Dk b n x=some r:=by
  unfold fixO at h
  split at h
  · rename_i hh
    injection h with h
    exact⟨_,h▸Classical.choose_spec (Classical.choose_spec hh)⟩
  · cases h
theorem fixO_ind{b:(A→Option R)→A→Option R}(Pr:A→R→Prop)(h:∀ rec:A→Option R,(∀ x r,rec x=some r→Pr x r)→∀ x r,b rec x=some r→Pr x r){x:A}{r:R}(hx:fixO b x=some r):Pr x r:=by
  obtain⟨n,hn⟩:=fixO_ex hx
  have:∀ n x r,Dk b n x=some r→Pr x r:=by
    intro n
    induction n with
    | zero=>intro x r h;cases h
    | succ n ih=>intro x r hx;exact h (Dk b n) ih x r hx
  exact this n x r hn
theorem fixO_of{b:(A→Option R)→A→Option R}(mono:∀ (f g:A→Option R),(∀ x r,f x=some r→g x=some r)→∀ x r,b f x=some r→b g x=some r){n:Nat}{x:A}{r:R}(h:Dk b n x=some r):fixO b x=some r:=by
  have up:∀ n m x r,Dk b n x=some r→Dk b (n+m) x=some r:=by
    intro n
    induction n with
    | zero=>intro m x r h;cases h
    | succ n ih =>
      intro m x r h
      rw[show n+1+m=(n+m)+1 by omega]
      exact mono _ _ (fun x r h=>ih m x r h) x r h
  unfold fixO
  have hh:∃ n r,Dk b n x=some r:=⟨n,r,h⟩
  rw[dif_pos hh]
  have h2:=Classical.choose_spec (Classical.choose_spec hh)
  have a1:=up _ n _ _ h2
  have a2:=up n (Classical.choose hh) _ _ h
  rw[Nat.add_comm]at a2
  rw[a2]at a1
  rw[← Option.some.inj a1]
end

theorem ne_struct{o:Option TypeDesc}{d:TypeDesc}(h:o=some d)(hd:(match d with | .struct _=>false | _=>true)=true):∀ fs,o≠some (.struct fs):=by
  intro fs hs
  rw[h]at hs
  cases hs
  cases hd

section
variable {P:Program} {o:Oper} {fr:Fr} {σ:ASt}
theorem o_ixR{t e:TypeId}{x y:Operand}{bor ag:Bool}{sz:Nat}{xs:List (List V)}{f:List V→List V}{k:IntKind}{i:Int}{a g:List V}(ho:o.op = .indexAddr t x y)(ht:P.underlying t=some (.slice e))(hs:TyS P e ag sz)
    (hx:Bi fr x=some (.im bor (xs.map f))) (hy:Bi fr y=some (.int k i)) (h:idx xs i=some a) (hg:f a=g) (hsz:g.length=sz):B1 P o fr σ (.rf bor g) σ:=by
  subst hg
  exact B7 ho ht hs hx hy h hsz
end

theorem Ba.finR{P:Program}{f:FuncId}{args:List V}{τ τ1:ASt}{r:V}(h:Ba P f args τ (Fin τ1 r))(hr:bel τ1.length r=true)(hl:Nat.ble τ.length τ1.length=true)(ho:belOs τ1.length τ1):St P f args τ r τ1:=fun S B ι us w hm ha=>by
  refine (h S B ι us w hm ha).mono ?_
  rintro e w' ⟨u,v,τ',S',ι',rfl,⟨rfl,g,rfl⟩,hv,hm',hf⟩
  exact⟨u,v,τ1,S',ι'.take τ1.length,rfl,⟨rfl,rfl⟩,hv.take hr,hm'.drop fun a o h=>ho.get a o h,hf.drop hm'.len (Nat.le_of_ble_eq_true hl)⟩

theorem LentL.get2{σ:ASt}{cs ds:List V}(h:LentL σ cs ds):cs.length=ds.length∧∀ (i:Nat) (c d:V),cs[i]? = some c→ds[i]? = some d→Lent σ c d:=by
  induction h with
  | nil=>simp
  | cons c d cs ds h _ ih =>
    refine⟨by simp[ih.1],fun i x y hx hy=>?_⟩
    cases i with
    | zero=>simp at hx hy;subst hx;subst hy;exact h
    | succ i=>simp at hx hy;exact ih.2 i x y hx hy
theorem Lent.aggL{σ:ASt}{cs ds:List V}(h:LentL σ cs ds):Lent σ (.agg cs) (.agg ds):=.agg cs ds h.get2.1 h.get2.2

section
variable {P:Program} {N n:Nat} {c:Code} {Q:D5} {k:Nat} {fr:Fr} {σ:ASt}
end

end Go.G36
