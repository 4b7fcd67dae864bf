/- Loops over lists,as lists. -/
import Derived.Test.YtkhaafonmkjjmaaGreatDoorKv
import Derived.IntWalk
import Derived.Test.YtkhaafonmkjjmaaGreatDoorKzi
namespace Go.G36
set_option linter.all false
open Go
variable [Genv]

def     C1 {α R : Type} (g : Nat → α → Option R) : List α → Nat → Option R
  | [],_=>none
  | a :: r,i=>match g i a with
    | some x=>some x
    | none=>C1 g r (i+1)

theorem loop_firstM{α R Q:Type}(m:Nat)(xs:List α)(step:Int→Option (Int⊕Q))(g:Nat→α→Option R)(out:Option R→Q)
    (hs:∀ (i:Nat) (a:α),m≤i→xs[i]? = some a→step (i:Int)=some (match g i a with | some r=>.inr (out (some r)) | none=>.inl ((i:Int)+1)))
    (he:step (xs.length:Int)=some (.inr (out none))):∀ (k i:Nat),m≤i→i+k=xs.length→loopO step (i:Int)=some (out (C1 g (xs.drop i) i)):=by
  intro k
  induction k with
  | zero =>
    intro i _ hi
    have:i=xs.length:=by omega
    subst this
    rw[List.drop_length]
    exact Cc he
  | succ k ih =>
    intro i hm hi
    have hlt:i<xs.length:=by omega
    have ha:xs[i]? = some xs[i]:=by simp
    have hst:=hs i xs[i] hm ha
    rw[List.drop_eq_getElem_cons hlt,C1]
    cases hg:g i xs[i] with
    | some r =>
      rw[hg]at hst
      exact Cc hst
    | none =>
      rw[hg]at hst
      rw[D1 hst]
      have:=ih (i+1) (by omega) (by omega)
      simpa using this
theorem loop_first{α R Q:Type}(xs:List α)(step:Int→Option (Int⊕Q))(g:Nat→α→Option R)(out:Option R→Q)
    (hs:∀ (i:Nat) (a:α),xs[i]? = some a→step (i:Int)=some (match g i a with | some r=>.inr (out (some r)) | none=>.inl ((i:Int)+1)))
    (he:step (xs.length:Int)=some (.inr (out none))) (k i:Nat) (hi:i+k=xs.length):loopO step (i:Int)=some (out (C1 g (xs.drop i) i)) :=
  loop_firstM 0 xs step g out (fun i a _ h=>hs i a h) he k i (Nat.zero_le _) hi

theorem Bk{α:Type}(xs:List α)(i:Nat):idx xs (i:Int)=xs[i]?:=by simp[idx]
theorem Az{i:Nat}(h:i<9223372036854775807):IntKind.i64.wrap ((i:Int)+1)=(i:Int)+1:=IntWalk.i64_in _ (by omega)
theorem idxS_nat{s:ByteArray}{i:Nat}{b:UInt8}(h:s.data.toList[i]? = some b):Cr s (i:Int)=some (b.toNat:Int):=by simp[Cr,h]
end Go.G36
namespace Go.G36
set_option linter.all false
open Go
variable [Genv]

def Ok{α:Type}(o:Option α)(P:α→Prop):Prop:=∃ r,o=some r∧P r
theorem Ok.some{α:Type}{x:α}{P:α→Prop}(h:P x):Ok (some x) P:=⟨x,rfl,h⟩
theorem Ok.bind{α β:Type}{o:Option α}{f:α→Option β}{Q:α→Prop}{P:β→Prop}(h:Ok o Q)(k:∀ r,Q r→Ok (f r) P):Ok (o.bind f) P:=by
  obtain⟨r,rfl,hr⟩:=h
  exact k r hr
theorem Ok.cond{α:Type}{b:Bool}{x y:Option α}{P:α→Prop}(ht:b=true→Ok x P)(hf:b=false→Ok y P):Ok (cond b x y) P:=by
  cases b with
  | true=>exact ht rfl
  | false=>exact hf rfl
theorem Ok.mono{α:Type}{o:Option α}{Q P:α→Prop}(h:Ok o Q)(k:∀ r,Q r→P r):Ok o P:=by
  obtain⟨r,e,hr⟩:=h
  exact⟨r,e,k r hr⟩
theorem Ok.gd{α:Type}[Inhabited α]{c:Bool}{o:Option α}{P:α→Prop}(ht:c=true→Ok o P)(hf:c=false→P default):Ok (gdO c o) P:=Ok.cond ht fun h=>Ok.some (hf h)
theorem Ok.loop{S R:Type}{step:S→Option (S⊕R)}{P:R→Prop}(I:Nat→S→Prop)
    (h:∀ n s,I n s→Ok (step s) (fun x=>match x with | .inl s'=>∃ m,m<n∧I m s' | .inr r=>P r)):∀ {n:Nat} {s:S},I n s→Ok (loopO step s) P:=by
  intro n
  induction n using Nat.strongRecOn with
  | ind n ih =>
    intro s hs
    obtain⟨x,hx,hp⟩:=h n s hs
    cases x with
    | inl s' =>
      obtain⟨m,hm,hi⟩:=hp
      rw[D1 hx]
      exact ih m hm hi
    | inr r=>exact⟨r,Cc hx,hp⟩

theorem C3{α:Type}[Inhabited α](c:Bool)(v:α):gdO c (some v)=some (cond c v default):=by cases c <;> rfl
theorem Dx{α:Type}{xs:List α}{i:Int}(h0:0≤i)(h1:i.toNat<xs.length):idx xs i=some xs[i.toNat]:=by
  unfold idx
  rw[if_pos h0,List.getElem?_eq_getElem h1]
theorem B4{α:Type}{xs ys:List α}(h:xs.length+ys.length≤4294967296):app xs ys=some (xs++ys):=by
  unfold app
  rw[if_pos h]
theorem cat_get{r s:ByteArray}(h:r.size+s.size≤9223372036854775807):cat r s=some (r++s):=by
  unfold cat
  rw[if_pos h]
end Go.G36
