/- Runs of plain steps,counted; the rule of each is found by its form. -/
import Derived.Test.YtkhaafonmkjjmaaGreatDoorKzl
import Derived.Lib.Join
import Derived.Lib.Bytealg
namespace Go.G36
variable [Genv]
set_option linter.all false
open Go

structure Cnt (n:Nat) (Q:Prop):Prop where
  go:Q
theorem Cnt.z{Q:Prop}(h:Q):Cnt 0 Q:=⟨h⟩
theorem Cnt.s{n:Nat}{Q R:Prop}(r:Q→R)(h:Cnt n Q):Cnt (n+1) R:=⟨r h.go⟩
theorem au (n : Nat) {P Q : Prop} (h : P) (s : P → Cnt n Q := by
  intro hh
  repeat (first
    | exact .z hh
    | with_reducible first
      | refine .s TL.nil ?_
      | refine .s T.seq ?_
      | refine .s T.region ?_
      | refine .s T.skip ?_
      | refine .s T.block ?_
      | refine .s T.ret ?_
      | refine .s T.exit ?_
      | refine .s T.scope ?_
    | refine .s (fun h=>TL.st rfl rfl rfl (by first
        | exact Bp rfl rfl
        | exact Dm rfl rfl
        | exact Bb rfl rfl rfl ⟨rfl,rfl⟩ (by decide) rfl rfl ⟨_,rfl,Nat.le_of_ble_eq_true rfl⟩
        | exact Bs rfl ⟨rfl,rfl⟩ rfl rfl (Nat.le_of_ble_eq_true rfl) rfl
        | exact B3 rfl rfl rfl rfl
        | exact o_or rfl rfl rfl rfl (fun k=>Ed k)
        | exact Eq rfl rfl rfl (fun k=>Ed k) rfl
        | exact Es rfl ⟨_,fun _=>rfl,rfl⟩ rfl rfl rfl
        | exact o_alloc rfl ⟨_,rfl,rfl⟩
        | exact o_box rfl rfl rfl
        | exact o_nilCheck rfl rfl rfl
        | exact Bx rfl ⟨rfl,rfl⟩ rfl (Nat.le_of_ble_eq_true rfl) rfl
        | exact o_not rfl rfl
        | exact E4 rfl rfl rfl rfl
        | exact Fb rfl rfl rfl
        | exact o_extract rfl rfl rfl) h) ?_
    | refine .s (fun h=>TL.gcq rfl rfl rfl (.bool _) rfl rfl (fun h=>by first
        | exact Bp rfl rfl
        | exact B3 rfl (gv h rfl) rfl rfl
        | exact Bs rfl ⟨rfl,rfl⟩ (gv h rfl) rfl (Nat.le_of_ble_eq_true rfl) rfl
        | exact Bb rfl rfl rfl ⟨rfl,rfl⟩ (by decide) rfl rfl ⟨_,rfl,Nat.le_of_ble_eq_true rfl⟩
        | exact o_not rfl (gv h rfl)) h) ?_
    | refine .s (fun h=>TL.sn rfl rfl (Cm rfl ⟨rfl,rfl⟩ rfl rfl rfl rfl (Nat.le_of_ble_eq_true rfl) rfl) h) ?_
    | refine .s T.region ?_
    | refine .s T.seq ?_
    | refine .s T.skip ?_
    | refine .s T.block ?_
    | refine .s T.ret ?_
    | refine .s T.exit ?_)):Q:=(s h).go
theorem ad (n : Nat) {P Q : Prop} (h : P) (s : P → Cnt n Q := by
  intro hh
  repeat (first
    | exact .z hh
    | refine .s (fun h=>TD.qs rfl rfl (fun _=>by first
        | exact Bp rfl rfl
        | exact o_nilCheck rfl rfl rfl
        | exact B3 rfl rfl rfl rfl
        | exact Dm rfl rfl
        | exact o_or rfl rfl rfl rfl (fun k=>Ed k)
        | exact Eq rfl rfl rfl (fun k=>Ed k) rfl
        | exact o_not rfl rfl
        | exact o_extract rfl rfl rfl) h) ?_
    | refine .s (fun h=>TD.rs rfl rfl (by first
        | exact Bb rfl rfl rfl ⟨rfl,rfl⟩ (by decide) rfl rfl ⟨_,rfl,Nat.le_of_ble_eq_true rfl⟩
        | exact Bs rfl ⟨rfl,rfl⟩ rfl rfl (Nat.le_of_ble_eq_true rfl) rfl) h) ?_
    | refine .s (fun h=>TD.cr rfl rfl rfl (.bool _) rfl (fun h=>by first
        | exact Bs rfl ⟨rfl,rfl⟩ (gv h rfl) rfl (Nat.le_of_ble_eq_true rfl) rfl
        | exact Bb rfl rfl rfl ⟨rfl,rfl⟩ (by decide) rfl rfl ⟨_,rfl,Nat.le_of_ble_eq_true rfl⟩) h) ?_
    | refine .s (fun h=>TD.cq rfl rfl rfl (.bool _) rfl (fun h _=>Bp rfl rfl) h) ?_
    | refine .s (fun h=>TD.an rfl rfl (Cm rfl ⟨rfl,rfl⟩ rfl rfl rfl rfl (Nat.le_of_ble_eq_true rfl) rfl) h) ?_
    | refine .s (fun h=>TD.nil h) ?_)):Q:=(s h).go
theorem T.cH{N:Nat}{P:Program}{n:Nat}{fr:Fr}{σ:ASt}{Q:D5}{c:Operand}{x y:Code}{α:Type}{b:Bool}{u v:Option α}{r:α}(H:_root_.cond b u v=some r)
    (ht:u=some r→b=true→T P N n x fr σ Q) (hf:v=some r→b=false→T P N n y fr σ Q) (hc:Bi fr c=some (.bool b):=by exact rfl):T P N n (.cond c x y) fr σ Q :=
  T.cond b hc (fun h=>ht (cond_t h H) h) (fun h=>hf (cond_f h H) h)
end Go.G36
namespace Go.G36
variable [Genv]
set_option linter.all false
open Go

section
variable {S B:Nat→Prop} {ι:List Loc} {σ:ASt} {w:World} {p q sz:Nat} {xs:List (List V)} {ys:List (Option (List (List V)))} {v:Value} {vs:List Value}
end
section
variable {S B:Nat→Prop} {ι:List Loc} {σ:ASt} {w:World} {q sz k:Nat} {xs:List (List V)} {ys:List (Option (List (List V)))} {v:Value} {vs:List Value}
end
section
variable {P:Program} {o:Oper} {fr:Fr} {σ:ASt}
end

section
variable {P:Program} {o:Oper} {fr:Fr} {σ τ:ASt}
end

section
variable {P:Program} {o:Oper} {fr:Fr} {σ τ:ASt} {α:Type} {f:α→List V} {L:List (Option (List α))} {xs:List α} {q sz:Nat}
end
theorem Dv{α:Type}{f:α→List V}{xs ys:List α}(p i j:Nat)(h:ys.length=xs.length):V.el p (xs.map f).length i j = .el p (ys.map f).length i j:=by simp only[List.length_map,h]
theorem Dq{a:AO}{l m:ASt}(h:l=m):a :: l=a :: m:=by rw[h]
theorem eqAtB{a b:AO}{l m:ASt}(h:a=b)(k:l=m):a :: l=b :: m:=by rw[h,k]
theorem B1.to{P:Program}{o:Oper}{fr:Fr}{σ σ1 σ2:ASt}{v:V}(hd:B1 P o fr σ v σ1)(h:σ1 = σ2):B1 P o fr σ v σ2:=h▸hd
abbrev e0:ByteArray:=ByteArray.mk #[]
theorem nb{n m:Nat}(h:Nat.ble n m=true):n≤m:=Nat.le_of_ble_eq_true h
def En(P:Program)(f:FuncId):Prop:=∀ (us:Array Value) (w:World),(callFunc f us).run P w = .ok (.enter f us) w
theorem En.of{P:Program}{f:FuncId}{fn:Func}{c:Code}(hf:P.funcs[f]? = some fn)(hname:(fn.name == "runtime.NumGoroutine")=false) (hb:fn.body=some c):En P f:=enters hf hname hb
end Go.G36
namespace Go.G36
set_option linter.all false
open Go Go.RowKit
variable [Genv]
theorem Cs.frzAgg{N:Nat}{n t p L sz:Nat}{fr:Fr}{σ:ASt}{cs:List V}{xs:List (List V)}(j:Nat)(ht:lk fr t=some (.agg cs))(hj:cs[j]? = some (.hd p L 0 L))(hs:σ[p]? = some (.arr .clo sz xs))(hL:xs.length=L) :
    Cs N n fr σ ((t,.agg (cs.set j (.im false xs))) :: fr) (σ.set p (.arr .frz sz xs)):=fun S B ι a w hr=>by
  obtain⟨S',hm',hf⟩:=hr.mem.freeze hs
  have hr':=hr.fw hf hm'
  obtain⟨us,hus,hl,hv⟩:=Val.inv_agg (hr'.fr t _ ht)
  refine⟨S',ι,hr'.retell ?_,hf.toN⟩
  rw[hus]
  refine .agg _ _ (by simpa using hl) fun i c u hc hu=>?_
  by_cases hij:j=i
  · subst hij
    have hlt:j<cs.length:=(List.getElem?_eq_some_iff.1 hj).1
    rw[List.getElem?_set_self hlt]at hc
    cases hc
    have:=frz_val hm' (List.getElem?_set_self (List.getElem?_eq_some_iff.1 hs).1) hL (hv j _ u hj hu)
    rw[List.drop_zero,List.take_of_length_le (by omega)]at this
    exact this
  · rw[List.getElem?_set_ne hij]at hc
    exact hv i c u hc hu

theorem sureP{σ:ASt}{i:Nat}{v:V}{r:List (Nat×V)}(h:V.sures σ v.cells=true)(hr:suresP σ r=true):suresP σ ((i,v) :: r)=true:=by
  simp only[suresP,h,hr,Bool.and_self]
def indexByteO(s:ByteArray)(c:Int):Option Int:=some (Lib.indexByte s.data.toList c.toNat.toUInt8)
theorem indexByte_c{P:Program}{f:FuncId}(hC:∀ (s:ByteArray) (c:Int) (w:World),Calls P f #[.string s,.int .u8 c] w fun e w'=>e = .returned (.int .i64 (Lib.indexByte s.data.toList c.toNat.toUInt8))∧w' = w)
    {s:ByteArray} {c r:Int} (H:indexByteO s c=some r):Bu P f [.str s,.int .u8 c] (.int .i64 r):=by
  injection H with H;subst H
  refine pure2 (sole_str _) (sole_int _ _) rfl (fun S w hG=>(hC s c w).mono ?_) fun S w=>.int _ _
  rintro e w' ⟨rfl,rfl⟩
  exact⟨rfl,Cy.refl _⟩
def compareO(a b:ByteArray):Option Int:=some (Lib.compareBytes a.data.toList b.data.toList)
theorem compare_c{P:Program}{f:FuncId}(hC:∀ (a b:ByteArray) (w:World),Calls P f #[.string a,.string b] w fun e w'=>e = .returned (.int .i64 (Lib.compareBytes a.data.toList b.data.toList))∧w' = w)
    {a b:ByteArray} {r:Int} (H:compareO a b=some r):Bu P f [.str a,.str b] (.int .i64 r):=by
  injection H with H;subst H
  refine pure2 (sole_str _) (sole_str _) rfl (fun S w hG=>(hC a b w).mono ?_) fun S w=>.int _ _
  rintro e w' ⟨rfl,rfl⟩
  exact⟨rfl,Cy.refl _⟩
def capB(b:UInt8):UInt8:=if 97≤b.toNat∧b.toNat≤122 then UInt8.ofNat (b.toNat - 32) else b
def E6(s:ByteArray):Option ByteArray:=if s.size≤281474976710656 then some ⟨(s.data.toList.map capB).toArray⟩ else none
theorem caps_c{P:Program}{f:FuncId}(hC:∀ (s:ByteArray) (w:World),s.size≤281474976710656→Calls P f #[.string s] w fun e w'=>e = .returned (.string ⟨(s.data.toList.map capB).toArray⟩)∧Cy w w')
    {s r:ByteArray} (H:E6 s=some r):Bu P f [.str s] (.str r):=by
  unfold E6 at H
  split at H
  · rename_i h
    injection H with H;subst H
    exact pure1 (sole_str _) rfl (fun S w hG=>hC s w h) fun S w=>.str _
  · cases H
def joinL(xs:List ByteArray)(sep:ByteArray):List UInt8:=Lib.join (xs.map (·.data.toList)) sep.data.toList
def joinO(xs:List ByteArray)(sep:ByteArray):Option ByteArray:=if decide (xs.length≤140737488355328)&&decide ((joinL xs sep).length≤140737488355328) then some ⟨(joinL xs sep).toArray⟩ else none
theorem join_c {P : Program} {f : FuncId} (hN : ∀ (a : Option Addr) (c : Nat) (sep : ByteArray) (w : World), Calls P f #[.slice a 0 c, .string sep] w fun e w' => e = .returned (.string ⟨#[]⟩) ∧ w' = w)
    (hC:∀ (bk o c:Nat) (xs:List ByteArray) (sep:ByteArray) (w:World),(∀ (j:Nat) x,xs[j]? = some x→w.cell? ⟨bk,o+j,none⟩=some (.string x))→bk<w.heap.size→xs.length≤140737488355328→xs.length≤c→(Lib.join (xs.map (·.data.toList)) sep.data.toList).length≤140737488355328 →
      Calls P f #[.slice (some ⟨bk,o,none⟩) xs.length c,.string sep] w fun e w'=>e = .returned (.string ⟨(Lib.join (xs.map (·.data.toList)) sep.data.toList).toArray⟩)∧Below w.heap.size w w')
    (b:Bool) {xs:List ByteArray} {sep r:ByteArray} (H:joinO xs sep=some r):Bu P f [.im b (xs.map fun x=>[V.str x]),.str sep] (.str r):=fun S B ι us w hm hp=>by
  unfold joinO at H
  split at H
  · rename_i h
    rw[Bool.and_eq_true,decide_eq_true_eq,decide_eq_true_eq]at h
    injection H with H;subst H
    obtain⟨u0,u1,rfl⟩:∃ u0 u1,us = #[u0,u1]:=⟨_,_,arr2 hp.1.symm⟩
    obtain rfl:=(hp.2 1 _ u1 rfl rfl).inv_str
    obtain⟨A,cap,esz,vals,rfl,hc,hA,hv,ho⟩:=(hp.2 0 _ u0 rfl rfl).inv_im
    rw[List.length_map]at hc
    suffices hh:Calls P f #[.slice A (xs.map fun x=>[V.str x]).length cap,.string sep] w (fun e w'=>e = .returned (.string ⟨(joinL xs sep).toArray⟩)∧Cy w w') by
      refine hh.mono ?_
      rintro e w' ⟨rfl,hg⟩
      obtain⟨hm',hf'⟩:=hm.grow hg (fun _=>False) (fun b hb=>hb.elim)
      exact⟨.string ⟨(joinL xs sep).toArray⟩,.str ⟨(joinL xs sep).toArray⟩,_,_,ι,rfl,.cl _ rfl,.cv _ _ (.str _),hm',hf'⟩
    cases xs with
    | nil =>
      refine (hN A cap sep w).mono fun e w' hh=>?_
      obtain⟨rfl,rfl⟩:=hh
      exact⟨rfl,Cy.refl _⟩
    | cons x xs =>
      obtain⟨bk,o,rfl,hb,_,_,hrow,hcell⟩:=hA (by simp)
      have hesz:esz=1:=by have:=hrow [V.str x] (by simp);simpa using this.symm
      subst hesz
      have hlt:bk<w.heap.size:=hm.ltS bk (by rcases hb with hb | hb;exact .inl hb;exact .inr hb)
      rw[List.length_map]
      refine (hC bk o cap (x :: xs) sep w (fun j y hy=>?_) hlt h.1 (by simpa using hc) h.2).mono fun e w' hh=>?_
      · have hr:((x :: xs).map fun x=>[V.str x])[j]? = some [V.str y]:=by rw[List.getElem?_map,hy];rfl
        have h1:=hcell j 0 [V.str y] (V.str y) hr rfl
        have h2:=hv j 0 [V.str y] (V.str y) hr rfl
        rw[Nat.mul_one,Nat.add_zero]at h1
        rw[h1]
        generalize vals j 0=z at h2
        cases h2
        rfl
      · obtain⟨rfl,hbl⟩:=hh
        exact⟨rfl,grown_below hbl⟩
  · cases H
end Go.G36
namespace Go.G36
variable [Genv]
set_option linter.all false
open Go

theorem ops_atG{P:Program}{ops:Array Oper}{o:Oper}{fr:Fr}{τ1 τ2:ASt}{v v':V}{σ1 σ2:ASt}{g t':Nat}{want c:Bool}{y:V}(h1:τ1 = σ1)(hg:o.guard=some (g,want))(ht:(ops[g]?).bind (·.dst)=some t')(hv:lk fr t' = some y)(hu:Gu want y c)
    (h:c=true→B1 P o fr σ1 v' σ2) (h2:τ2 = σ2) (hs:c=false→σ2 = σ1) (hvv:v=Gd c v'):DoG P ops o fr τ1 v τ2:=by
  subst h1;subst h2;subst hvv
  exact DoG.gc hg ht hv hu h hs
end Go.G36
