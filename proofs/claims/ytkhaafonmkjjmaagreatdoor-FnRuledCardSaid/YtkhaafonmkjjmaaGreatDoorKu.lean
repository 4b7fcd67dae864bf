/- Maps with plain keys. -/
import Derived.Test.YtkhaafonmkjjmaaGreatDoorKua
import Derived.MapKept
namespace Go.G36
variable [Genv]
set_option linter.all false
open Go

def mfind{κ ε:Type}[BEq κ](k:κ):List (κ×ε)→Nat→Option (Nat×ε)
  | [],_=>none
  | e :: r,i=>bif k==e.1 then some (i,e.2) else mfind k r (i+1)
structure KeyP (P:Program) (kt:TypeId) {κ:Type} [BEq κ] (fk:κ→V):Prop where
  ex:∃ d,P.underlying kt=some d∧∀ (a b:κ) (S:Nat→Prop) (w:World) (ua ub:Value),CV S w (fk a) ua→CV S w (fk b) ub→MapKept.IsKey d ua∧Instr.sameNow d ua ub=some (a==b)∧((a==b)=true→ua=ub)
structure KeyK (P:Program) (kt:TypeId) {κ:Type} [BEq κ] (fk:κ→V):Prop where
  chk:∀ (a:κ) (S:Nat→Prop) (w:World) (ua:Value),CV S w (fk a) ua→∀ e,(Instr.checkKey e 10000 kt ua).run P w = .ok () w
  fnd:∀ (k:κ) (S:Nat→Prop) (w:World) (uk:Value),CV S w (fk k) uk→∀ (ε:Type) (xs:List (κ×ε)) (l:List MapEntry),l.length=xs.length →
    (∀ (q:Nat) (x:κ×ε) (m:MapEntry),xs[q]? = some x→l[q]? = some m→CV S w (fk x.1) m.key) →
    (Instr.findKey kt uk l).run P w = .ok (match mfind k xs 0 with | none=>none | some (j,_)=>(l[j - 0]?).map fun m=>(j,m.val)) w
  eqv:∀ (a b:κ) (S:Nat→Prop) (w:World) (ua ub:Value),CV S w (fk a) ua→CV S w (fk b) ub→(a==b)=true→ua=ub
  sty:∀ (a:κ) (S:Nat→Prop) (w:World) (ua:Value),CV S w (fk a) ua→(Instr.keyThatStays ua ua).run P w = .ok ua w

def mpO{κ ε:Type}(fk:κ→V)(fv:ε→V)(xs:List (κ×ε)):AO:=.mp (xs.map fun e=>(fk e.1,fv e.2))

section
variable {P:Program} {o:Oper} {fr:Fr} {σ:ASt}

end

theorem belMap{N:Nat}{κ ε:Type}{fk:κ→V}{fv:ε→V}{xs:List (κ×ε)}(h:∀ e,bel N (fv e)=true):belO N (mpO fk fv xs):=by
  intro e he
  obtain⟨x,_,rfl⟩:=List.mem_map.1 he
  exact h x.2
inductive RenL (f:Nat→Nat):ASt→ASt→Prop where
  | nil:RenL f [] []
  | cons (o o':AO) (r r':ASt) (h:E8 f o=o') (t:RenL f r r'):RenL f (o :: r) (o' :: r')
theorem CV.imNil{S:Nat→Prop}{w:World}:CV S w (.im false []) (.slice none 0 0) :=
  .im [] none 0 1 (fun _ _=>undef) (Nat.le_refl _) (fun h=>absurd rfl h) (fun i j row c h=>by simp at h) fun i j row c h=>by simp at h
end Go.G36
