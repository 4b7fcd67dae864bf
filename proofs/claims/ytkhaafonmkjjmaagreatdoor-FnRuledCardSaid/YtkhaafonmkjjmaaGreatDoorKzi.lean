/- Functions of the library,met by what is known of their calls. -/
import Derived.Test.YtkhaafonmkjjmaaGreatDoorKzh
import Derived.Sort.Grow
import Derived.Lib.LaidTab
import Derived.Lib.ItoaNum
import Derived.Deep.Draws
import Derived.Below
import Derived.Lib.Strings
import Derived.Lib.IndexMore
import Derived.Lib.AtoiAll
namespace Go.G36
variable [Genv]
set_option linter.all false
open Go Go.RowKit

def Sole(a:V)(u:Value):Prop:=∀ (S B:Nat→Prop) (ι:List Loc) (σ:ASt) (w:World) (u':Value),Val S B (A1 ι σ) w a u'→u' = u
theorem sole_str(s:ByteArray):Sole (.str s) (.string s):=fun _ _ _ _ _ _ h=>h.inv_str
theorem sole_int(k:IntKind)(n:Int):Sole (.int k n) (.int k n):=fun _ _ _ _ _ _ h=>h.inv_int

theorem arr1{us:Array Value}(h:us.size=1):us = #[us[0]]:=Array.ext (h.trans rfl) fun i h1 h2=>by
  have hi:i=0:=by omega
  subst hi
  rfl
theorem arr2{us:Array Value}(h:us.size=2):us = #[us[0],us[1]]:=Array.ext (h.trans rfl) fun i h1 h2=>by
  have hi:i=0∨i=1:=by omega
  rcases hi with rfl | rfl <;> rfl

theorem pure1{P:Program}{f:FuncId}{a r:V}{u x:Value}(ha:Sole a u)(hcl:r.cl=true)(hC:∀ (S:Nat→Prop) (w:World),Eg S w→Calls P f #[u] w fun e w'=>e = .returned x∧Cy w w')
    (hx:∀ S w,CV S w r x):Bu P f [a] r:=fun S B ι us w hm hp=>by
  obtain⟨u0,rfl⟩:∃ u0,us = #[u0]:=⟨_,arr1 hp.1.symm⟩
  obtain rfl:=ha _ _ _ _ _ _ (hp.2 0 a u0 rfl rfl)
  refine (hC S w hm.gl).mono ?_
  rintro e w' ⟨rfl,hg⟩
  obtain⟨hm',hf'⟩:=hm.grow hg (fun _=>False) (fun b hb=>hb.elim)
  exact⟨x,r,_,_,ι,rfl,.cl _ hcl,.cv _ _ (hx _ _),hm',hf'⟩
theorem pure2{P:Program}{f:FuncId}{a b r:V}{u v x:Value}(ha:Sole a u)(hb:Sole b v)(hcl:r.cl=true)(hC:∀ (S:Nat→Prop) (w:World),Eg S w→Calls P f #[u,v] w fun e w'=>e = .returned x∧Cy w w')
    (hx:∀ S w,CV S w r x):Bu P f [a,b] r:=fun S B ι us w hm hp=>by
  obtain⟨u0,u1,rfl⟩:∃ u0 u1,us = #[u0,u1]:=⟨_,_,arr2 hp.1.symm⟩
  obtain rfl:=ha _ _ _ _ _ _ (hp.2 0 a u0 rfl rfl)
  obtain rfl:=hb _ _ _ _ _ _ (hp.2 1 b u1 rfl rfl)
  refine (hC S w hm.gl).mono ?_
  rintro e w' ⟨rfl,hg⟩
  obtain⟨hm',hf'⟩:=hm.grow hg (fun _=>False) (fun b hb=>hb.elim)
  exact⟨x,r,_,_,ι,rfl,.cl _ hcl,.cv _ _ (hx _ _),hm',hf'⟩

theorem grown_grow(w:World)(k:Nat)(os:Array Obj):Cy w (Sort.grow (w.drewN k) os) :=
  ⟨rfl,rfl,rfl,by simp[Sort.grow,World.drewN],fun b hb=>by simp[Sort.grow,World.drewN,Array.getElem?_append,hb]⟩
theorem grown_drewN(w:World)(k:Nat):Cy w (w.drewN k):=⟨rfl,rfl,rfl,Nat.le_refl _,fun _ _=>rfl⟩
theorem grown_below{w w':World}(h:Below w.heap.size w w'):Cy w w':=⟨h.os,h.tape,h.output,h.size,fun b hb=>h.block b hb⟩
theorem grown_bytes(w:World)(e:TypeId)(s:ByteArray):Cy w (Lib.bytesWorld w e s):=⟨rfl,rfl,rfl,by rw[Lib.bytesWorld_size];omega,fun b hb=>Lib.bytesWorld_at_old w e s b hb⟩

def cutO(s p:ByteArray):Option (ByteArray×ByteArray×Bool):=if s.size<4294967281 then
  some (⟨(Lib.cut s.data.toList p.data.toList).1.toArray⟩,⟨(Lib.cut s.data.toList p.data.toList).2.1.toArray⟩,(Lib.cut s.data.toList p.data.toList).2.2) else none
theorem cut_c {P : Program} {f : FuncId} (hC : ∀ (s p : ByteArray) (S : Nat → Prop) (w : World),     Eg S w → s.size < 4294967281 → Calls P f #[.string s, .string p] w fun e w' => e = .returned (.tuple #[.string ⟨(Lib.cut s.data.toList p.data.toList).1.toArray⟩, .string ⟨(Lib.cut s.data.toList p.data.toList).2.1.toArray⟩, .bool (Lib.cut s.data.toList p.data.toList).2.2]) ∧ ∃ n, w' = w.drewN n)
    {s p r1 r2:ByteArray} {r3:Bool} (H:cutO s p=some (r1,r2,r3)):Bu P f [.str s,.str p] (.tup [.str r1,.str r2,.bool r3]):=by
  unfold cutO at H
  split at H
  · rename_i h
    injection H with H;injection H with H1 H;injection H with H2 H3;subst H1;subst H2;subst H3
    refine pure2 (x:=.tuple #[.string ⟨(Lib.cut s.data.toList p.data.toList).1.toArray⟩,.string ⟨(Lib.cut s.data.toList p.data.toList).2.1.toArray⟩,.bool (Lib.cut s.data.toList p.data.toList).2.2]) (sole_str _) (sole_str _) rfl (fun S w hG=>(hC s p S w hG h).mono ?_) fun S w=>?_
    · rintro e w' ⟨rfl,n,rfl⟩
      exact⟨rfl,grown_drewN w n⟩
    · exact .tup _ _ rfl fun i c u h1 h2=>by
        match i,h1,h2 with
        | 0,h1,h2=>simp at h1 h2;subst h1;subst h2;exact .str _
        | 1,h1,h2=>simp at h1 h2;subst h1;subst h2;exact .str _
        | 2,h1,h2=>simp at h1 h2;subst h1;subst h2;exact .bool _
        | i+3,h1,h2=>simp at h1
  · cases H

def E9(s:ByteArray):Int×Bool:=match Lib.atoiAll s.data.toList with
  | .ok v=>(v,(Lib.itoa v)==s.toList)
  | .range=>(Lib.atoiSat s.data.toList,false)
  | _=>(0,false)
def wholeO(s:ByteArray):Option (Int×Bool):=if s.size≤281474976710656 then some (E9 s) else none
theorem whole_c{P:Program}{f:FuncId}(hC:∀ (s:ByteArray) (S:Nat→Prop) (w:World),Eg S w→s.size≤281474976710656→Calls P f #[.string s] w fun e w'=>e = .returned (.tuple #[.int .i64 (E9 s).1,.bool (E9 s).2])∧Cy w w')
    {s:ByteArray} {n:Int} {ok:Bool} (H:wholeO s=some (n,ok)):Bu P f [.str s] (.tup [.int .i64 n,.bool ok]):=by
  unfold wholeO at H
  split at H
  · rename_i h
    injection H with H
    have h1:n=(E9 s).1:=by rw[H]
    have h2:ok=(E9 s).2:=by rw[H]
    rw[h1,h2]
    refine pure1 (sole_str _) rfl (fun S w hG=>hC s S w hG h) fun S w=>?_
    exact .tup _ _ rfl fun i c u h1 h2=>by
      match i,h1,h2 with
      | 0,h1,h2=>simp at h1 h2;subst h1;subst h2;exact .int _ _
      | 1,h1,h2=>simp at h1 h2;subst h1;subst h2;exact .bool _
      | i+2,h1,h2=>simp at h1
  · cases H
theorem Eg.kept{S:Nat→Prop}{w:World}(h:Eg S w)(i:Nat){x:Nat×(Obj→Prop)}(hx:Genv.gk[i]? = some x):∃ o,w.heap[x.1]? = some o∧x.2 o:=(h.2 x (List.mem_of_getElem? hx)).2
theorem Eg.keptg{S:Nat→Prop}{w w':World}(h:Eg S w)(g:Cy w w')(i:Nat){x:Nat×(Obj→Prop)}(hx:Genv.gk[i]? = some x):∃ o,w'.heap[x.1]? = some o∧x.2 o:=by
  obtain⟨o,h1,h2⟩:=h.kept i hx
  exact⟨o,by rw[g.block _ (Array.getElem?_eq_some_iff.1 h1).1];exact h1,h2⟩
def holdsT(k:IntKind)(zs:List Int)(o:Obj):Prop:=∃ e fz,o = .cells (zs.map fun z=>Value.int k z).toArray e fz
def holdsI(o:Obj):Prop:=∃ tp p e fz,o = .cells #[.iface tp p] e fz
def holdsN(o:Obj):Prop:=∃ cs n e fz,o = .cells cs e fz∧cs[0]? = some (.int .i64 n)
theorem var_of{P:Program}{w:World}{name:String}{g:Nat}{cs:Array Value}{e:TypeId}{fz:Nat×Nat}(hg:P.globalNamed name=some g)(h:w.heap[g]? = some (.cells cs e fz)):w.var? P name=some cs:=by
  simp[World.var?,hg,h]
end Go.G36
