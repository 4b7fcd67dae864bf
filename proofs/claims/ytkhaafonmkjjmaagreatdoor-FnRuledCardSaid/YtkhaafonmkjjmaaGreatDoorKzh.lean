/- Bytes of texts; elements of arrays told by content; strings.Builder. -/
import Derived.Test.YtkhaafonmkjjmaaGreatDoorKzg
import Derived.Lib.ConvBytes
import Derived.Lib.UnsafeStr
namespace Go.G36
variable [Genv]
set_option linter.all false
open Go
section
variable {P:Program} {o:Oper} {fr:Fr} {σ:ASt}
theorem o_allocB {t : TypeId} (ho : o.op = .alloc t) (hz : TyZ P t [.nilP, .nilS]) :   B1 P o fr σ (.bx σ.length 0) (σ ++ [.box [.px σ.length t 1 0, .nilS]]) := fun S B ι a w he hm next Q hk => by
  obtain⟨z,hrz,hzc⟩:=hz.run w
  obtain⟨h1,h2⟩:=ofCells_get hzc
  have g:=Cy.alloc w (.cells z.cells t)
  have hobj:Er S B (A1 (ι ++ [.box w.heap.size t]) (σ ++ [.box [.px σ.length t 1 0,.nilS]])) (w.alloc (.cells z.cells t)) (.box [.px σ.length t 1 0,.nilS]) (.box w.heap.size t) :=
    ⟨_, heap_alloc_new w _, ⟨by simpa using h1, fun i c u hc hu => by
      cases i with
      | zero =>
        simp only[List.getElem?_cons_zero,Option.some.injEq]at hc
        subst hc
        have:=h2 0 _ u rfl hu
        have hu2:u = .pointer none:=by
          unfold ofCell at this
          split at this <;> first | rfl | (injection this with this;cases this) | cases this
        subst hu2
        refine .ref _ _ ?_
        simp[A1,hm.len]
      | succ i =>
        exact .cv _ _ (ofCell_cv (h2 (i+1) c u (by cases i <;> simp_all) hu))⟩,ofCells_one hzc⟩
  obtain⟨hm',hf⟩:=hm.push g (.box [.px σ.length t 1 0,.nilS]) (.box w.heap.size t) (fun b hb=>by simp[C7,Loc.block]at hb;omega) hobj
  have hrun:(execOp a.eval o).run P w = .ok (.value (.pointer (some ⟨w.heap.size,0,none⟩))) (w.alloc (.cells z.cells t)):=by
    simp[execOp,ho,Instr.alloc,newVar,newRow,hrz]
  unfold Oper.wp
  rw[hrun]
  refine hk _ S _ _ (.ref _ _ ?_) hm' hf
  simp[A1,hm.len]
end
theorem Cs.ownCellT{N n:Nat}{fr:Fr}{σ:ASt}{p:Nat}{cs:List V}(e:TypeId)(j sz:Nat)(hs:σ[p]? = some (.box cs))(hj:cs[j]? = some .nilS)(hsz:0<sz) :
    Cs N n fr σ fr ((σ ++ [AO.arr (.tg e) sz []]).set p (.box (cs.set j (.hd σ.length 0 0 0)))):=fun S B ι a w hr=>by
  have hp:=(List.getElem?_eq_some_iff.1 hs).1
  obtain⟨hm',hf⟩:=hr.mem.push (Cy.refl w) (.arr (.tg e) sz []) (.row (.slice none 0 0)) (fun b hb=>by simp[C7,Loc.block,Value.ownBlock]at hb)
    ⟨hsz,e,[],⟨by simp,.inl ⟨rfl,rfl⟩⟩,⟨by simp,fun row h=>by simp at h,fun i j row c h=>by simp at h⟩,fun u h=>by simp at h,(fun h=>by cases h),fun e' h=>by injection h⟩
  obtain⟨h1,h2⟩:=Rel.cell (N:=N) (hr.fw hf hm') (p:=p) (j:=j) (cs:=cs) (c:=.nilS) (v:=.hd σ.length 0 0 0) (by rw[List.getElem?_append_left hp];exact hs) hj fun u hu=>by
    rw[hu.inv_nilS]
    refine .ref _ _ ?_
    simp[A1,hr.mem.len]
  exact⟨S,_,h1,hf.toN.trans h2⟩

theorem Mem.putCell {S B : Nat → Prop} {ι : List Loc} {σ : ASt} {w : World} (hm : Mem S B ι σ w) {p j b : Nat} {e0 : TypeId} {cs : List V} {v : V} {u : Value} (hs : σ[p]? = some (.box cs)) (h2 : ι[p]? = some (.box b e0)) (hj : j < cs.length)
    (hv:Val S B (A1 ι σ) w v u) (h1:u.oneCell' = true):Mem S B ι (σ.set p (.box (cs.set j v))) (w.setCell ⟨b,j,Option.none⟩ u)∧Fw S ι σ w S ι (σ.set p (.box (cs.set j v))) (w.setCell ⟨b,j,Option.none⟩ u):=by
  obtain⟨us,hh,⟨hcl,hcv⟩,hone⟩:=hm.obj p _ _ hs h2
  have husz:us.size=cs.length:=by simpa using hcl.symm
  have hw:w.setCell ⟨b,j,Option.none⟩ u = { w with heap:=w.heap.modify b fun | .cells c elem frozen=>.cells (c.setIfInBounds j u) elem frozen | o=>o }:=rfl
  have hb:b<w.heap.size:=(Array.getElem?_eq_some_iff.1 hh).1
  have e1:(w.setCell ⟨b,j,Option.none⟩ u).heap.size=w.heap.size:=by rw[hw];simp
  have e2:∀ q,q≠b→(w.setCell ⟨b,j,Option.none⟩ u).heap[q]? = w.heap[q]?:=fun q hq=>by rw[hw];simp[Array.getElem?_modify,Ne.symm hq]
  have e7:(w.setCell ⟨b,j,Option.none⟩ u).heap[b]? = some (.cells (us.setIfInBounds j u) e0 (0,0)):=by rw[hw];simp[Array.getElem?_modify,hh]
  have hsf:Ea (.box cs) (.box (cs.set j v)):=by simp[Ea]
  have hι:ι.set p (.box b e0) = ι:=by
    apply List.ext_getElem?
    intro q
    by_cases hq:q=p
    · subst hq;rw[List.getElem?_set_self (List.getElem?_eq_some_iff.1 h2).1,h2]
    · rw[List.getElem?_set_ne (Ne.symm hq)]
  have same:∀ q,S q∨B q→(w.setCell ⟨b,j,Option.none⟩ u).heap[q]? = w.heap[q]?:=fun q hq=>e2 q fun h=>hm.outS p _ _ b hs h2 rfl (h▸hq)
  have hstep:=hm.step (o':=.box (cs.set j v)) (l':=.box b e0) (S':=S) hs h2 (w':=w.setCell ⟨b,j,Option.none⟩ u) rfl rfl rfl (by omega)
    (fun q _ hq=>e2 q (fun h=>hq (by simp[C7,Loc.block,h]))) (fun _ h=>h) (fun _ h=>.inl h) (fun q hq=>by rw[e1];exact hm.ltS q (.inl hq))
    (fun _ _ h=>h.set hs h2 hsf)
    (by
      refine⟨_,e7,⟨by simp[husz],fun i c x hc hx=>?_⟩,fun x hx=>?_⟩
      · rw[Array.getElem?_toList]at hx
        by_cases hi:i=j
        · subst hi
          rw[List.getElem?_set_self hj]at hc
          injection hc with hc;subst hc
          rw[Array.getElem?_setIfInBounds_self_of_lt (by omega)]at hx
          injection hx with hx;subst hx
          exact hv.mono (fun _ h=>h) (fun _ h=>h) (fun _ _ h=>h.set hs h2 hsf) same
        · rw[List.getElem?_set_ne (Ne.symm hi)]at hc
          rw[Array.getElem?_setIfInBounds_ne (Ne.symm hi)]at hx
          exact (hcv i c x hc (by simpa using hx)).mono (fun _ h=>h) (fun _ h=>h) (fun _ _ h=>h.set hs h2 hsf) same
      · obtain⟨i,hi,rfl⟩:=List.mem_iff_getElem.1 hx
        simp only[Array.getElem_toList]
        rw[Array.getElem_setIfInBounds (by simpa using hi)]
        split
        · exact h1
        · exact hone _ (by rw[Array.mem_toList_iff];exact Array.getElem_mem _))
    (fun q hq=>by simp[C7,Loc.block]at hq;subst hq;exact⟨.inl rfl,fun hS=>hm.outS p _ _ _ hs h2 rfl (.inl hS)⟩)
  rw[hι]at hstep
  exact hstep

theorem copyCheck_c{P:Program}{f T:Nat}
    (k1:∀ (b:Nat) (w:World),w.cell? ⟨b,0,none⟩=some (.pointer none)→w.shape? b=some (T,2)→w.frozen? ⟨b,0,none⟩=false→Calls P f #[.pointer (some ⟨b,0,none⟩)] w fun e w'=>e = .returned (.tuple #[])∧w' = w.setCell ⟨b,0,none⟩ (.pointer (some ⟨b,0,none⟩)))
    (k2:∀ (b:Nat) (w:World),w.cell? ⟨b,0,none⟩=some (.pointer (some ⟨b,0,none⟩))→Calls P f #[.pointer (some ⟨b,0,none⟩)] w fun e w'=>e = .returned (.tuple #[])∧w' = w) {X:V} {r:ASt} :
    St P f [.bx 0 0] (.box [.px 0 T 1 0,X] :: r) (.tup []) (.box [.px 0 T 1 0,X] :: r):=fun S B ι us w hm ha=>by
  obtain⟨hl,hv⟩:=ha
  obtain⟨u0,rfl⟩:∃ u0,us = #[u0]:=by
    have:us.size=1:=by simpa using hl.symm
    refine⟨us[0],Array.ext (this.trans rfl) fun i h1 h2=>?_⟩
    have hi:i=0:=by omega
    subst hi
    rfl
  have hv0:=hv 0 _ u0 rfl rfl
  obtain⟨b,e0,h2,rfl,_⟩:=A1.bx (Val.inv_ref (v:=.bx 0 0) rfl trivial hv0) (cs:=[.px 0 T 1 0,X]) rfl
  obtain⟨cells,hh,⟨hcl,hcv⟩,hone⟩:=hm.obj 0 _ _ rfl h2
  have hsz:cells.size=2:=by simpa using hcl.symm
  have hc0:=hcv 0 _ (cells[0]'(by omega)) rfl (by simp)
  have hp:=Val.inv_ref (v:=.px 0 T 1 0) rfl trivial hc0
  simp only[A1,List.getElem?_cons_zero,h2]at hp
  obtain⟨_,rfl,hp⟩:=hp
  have hcell:w.cell? ⟨b,0,none⟩=some (cells[0]'(by omega)):=by simp[World.cell?,hh,hsz]
  have hret:Val S B (A1 ι (.box [.px 0 T 1 0,X] :: r)) w (.tup []) (.tuple #[]):=.cv _ _ (.tup _ _ rfl fun i c u h _=>by simp at h)
  rcases hp with ⟨h,_⟩ | ⟨h,_⟩ | ⟨_,h | h⟩
  · cases h
  · cases h
  · rw[h]at hcell
    refine (k1 b w hcell (by simp[World.shape?,hh,hsz]) (by simp[World.frozen?,hh])).mono ?_
    rintro e w' ⟨rfl,rfl⟩
    have hself:Val S B (A1 ι (.box [.px 0 T 1 0,X] :: r)) w (.px 0 T 1 0) (.pointer (some ⟨b,0,none⟩)):=.ref _ _ (by simp[A1,h2])
    obtain⟨m1,m2⟩:=hm.putCell (p:=0) (j:=0) rfl h2 (by simp) hself rfl
    exact⟨_,_,_,S,ι,rfl,⟨rfl,rfl⟩,.cv _ _ (.tup _ _ rfl fun i c u h _=>by simp at h),m1,m2⟩
  · rw[h]at hcell
    refine (k2 b w hcell).mono ?_
    rintro e w' ⟨rfl,rfl⟩
    exact⟨_,_,_,S,ι,rfl,⟨rfl,rfl⟩,hret,hm,Fw.refl _ _ _ _⟩

def dataP(k:Nat)(rows:List (List V)):V:=match rows with
  | []=>.px k 0 (-2) 0
  | _ :: _=>.el k rows.length 0 0
section
variable {P:Program} {o:Oper} {fr:Fr} {σ:ASt}
theorem o_sliceData {t e : TypeId} {x : Operand} {p L : Nat} {m : Md} {rows : List (List V)} (ho : o.op = .call { callee := .builtin .unsafeSliceData, args := #[x], argTypes := #[t] }) (ht : P.underlying o.type = some (.pointer e))
    (hx:Bi fr x=some (.hd p L 0 L)) (hs:σ[p]? = some (.arr m 1 rows)) (hL:rows.length=L):B1 P o fr σ (dataP p rows) σ:=fun S B ι a w he hm next Q hk=>by
  have hvx:=he x (by simp[ho,Op.operands,Call.operands]) _ hx
  obtain⟨v,hι,_,hz0,_⟩:=A1.hd (Val.inv_ref (v:=.hd p L 0 L) rfl trivial hvx) hs hL
  obtain⟨A0,c0,hv,hu⟩:=hz0 rfl
  obtain⟨h0,e0,vals,hown,_,_,_⟩:=hm.obj p _ _ hs hι
  have hop:∀ (u:Value) (w':World),(Builtin.unsafeSliceData_ #[t] o.type #[.slice A0 L c0]).run P w = .ok u w'→(execOp a.eval o).run P w = .ok (.value u) w':=fun u w' h=>by
    simp only[execOp,ho,resolve,invoke,builtin,Sem.run_bind,Sem.run_pure,Result.andThen_ok,List.map_toArray,List.map_cons,List.map_nil,hu,h]
  have hempty:∀ (p':Option Addr),rows = []→Val S B (A1 ι σ) w (dataP p rows) (.pointer p'):=fun p' hr=>by
    subst hr
    refine .ref _ _ ?_
    simp[dataP,A1,hs,hι]
  unfold Oper.wp
  rcases hown.2 with ⟨hn,h1⟩ | ⟨g,cap,cur,hg0,_,hg,hnc,_,hcs,_⟩
  · rw[hv]at hn
    injection hn with hA hL0 hc
    subst hA;subst hc;subst hL0
    rw[hop _ _ (Lib.run_unsafeSliceData_nil (P:=P) w #[t] o.type 0 0)]
    exact hk _ S ι w (hempty _ (List.eq_nil_of_length_eq_zero hL)) hm (Fw.refl _ _ _ _)
  · rw[hv]at hg0
    injection hg0 with hA hL0 hc
    subst hA;subst hc
    by_cases hc0:c0=0
    · subst hc0
      have hr:rows = []:=List.eq_nil_of_length_eq_zero (by omega)
      rw[hop _ _ (Lib.run_unsafeSliceData_zero (P:=P) w #[t] o.type e ht ⟨g,0,none⟩ L (e0,cur.size) (by simp[World.shape?,hg]))]
      have gr:=Cy.alloc w (.view ⟨g,0,none⟩ e)
      obtain⟨hm',hf'⟩:=hm.grow gr (fun _=>False) (fun b hb=>hb.elim)
      refine hk _ _ ι _ ?_ hm' hf'
      exact (hempty _ hr).mono (fun _ h=>.inl h) (fun _ h=>h) (fun _ _ h=>h) fun b hb=>gr.block b (hm.ltS b hb)
    · rw[hop _ _ (Lib.run_unsafeSliceData_row (P:=P) w #[t] o.type ⟨g,0,none⟩ L c0 hc0)]
      refine hk _ S ι w ?_ hm (Fw.refl _ _ _ _)
      cases hrr:rows with
      | nil=>rw[← hrr];exact hempty _ hrr
      | cons r0 rest =>
        rw[← hrr]
        have:dataP p rows = .el p rows.length 0 0:=by rw[hrr];rfl
        rw[this]
        refine .ref _ _ ?_
        simp only[A1,hs,hι,hv]
        exact⟨Nat.le_refl _,fun _=>⟨by rw[hrr];simp,g,c0,by rw[hL],by simp⟩⟩
end
theorem run_loadBytesI {P : Program} {w : World} : ∀ (l : List Int) (a : Addr) (acc : ByteArray), (∀ j x, l[j]? = some x → w.cell? (a.add j) = some (.int .u8 x)) →
    (loadBytes a acc l.length).run P w = .ok (l.foldl (fun r n=>r.push (UInt8.ofNat n.toNat)) acc) w
  | [],a,acc,_=>by simp[loadBytes]
  | x :: l, a, acc, h => by
    have h0:w.cell? a=some (.int .u8 x):=by
      have:=h 0 x rfl
      simpa[Addr.add]using this
    have ih:=run_loadBytesI (P:=P) (w:=w) l (a.add 1) (acc.push (UInt8.ofNat x.toNat)) (fun j y hy=>by
      have:=h (j+1) y (by simpa using hy)
      have e:(a.add 1).add j=a.add (j+1):=by
        unfold Addr.add
        by_cases hj:j=0
        · subst hj;simp
        · simp[hj];omega
      rw[e];exact this)
    simp only[List.length_cons,loadBytes,Sem.run_bind,run_load,h0,Result.andThen]
    exact ih
theorem run_unsafeStringI{P:Program}{w:World}(pt it ty e:TypeId)(hp:P.underlying pt=some (.pointer e))(hc:P.cellsOf e=1)(g cells:Nat)(hsh:w.shape? g=some (e,cells))(l:List Int)(h0:l≠[])(hn:l.length≤cells)(h63:l.length≤9223372036854775807)
    (hcell:∀ j x,l[j]? = some x→w.cell? ((⟨g,0,none⟩:Addr).add j)=some (.int .u8 x)) :
    (Builtin.unsafeString_ #[pt,it] ty #[.pointer (some ⟨g,0,none⟩),.int .i64 l.length]).run P w = .ok (.string (byS l)) (w.freeze ⟨g,0,none⟩ l.length):=by
  have hl:l.length≠0:=by simpa using h0
  have hlb:=run_loadBytesI (P:=P) (w:=w) l ⟨g,0,none⟩ .empty hcell
  have hlies:=Lib.liesAt_bytes (P:=P) hc (cells / P.cellsOf e) l.length (by rw[hc];simpa using hn)
  have h63':¬ (9223372036854775807:Int)<(l.length:Int):=by omega
  have hmax:IntKind.i64.max=9223372036854775807:=rfl
  have hneg:¬ (l.length:Int)<0:=by omega
  change (asInt (.int .i64 (l.length:Int)) >>= _).run P w=_
  simp[asInt,asIntOf,hmax,h63',hneg,hl,variablesAt,hsh,elemOf,run_underlying hp,hlies,hlb,byS]
section
variable {P:Program} {o:Oper} {fr:Fr} {σ:ASt}
theorem o_unsafeString {f : Int → List V} {t it e : TypeId} {x y : Operand} {p : Nat} {ns : List Int} (ho : o.op = .call { callee := .builtin .unsafeString, args := #[x, y], argTypes := #[t, it] }) (ht : P.underlying t = some (.pointer e)) (hc : P.cellsOf e = 1)
    (hf:∀ n,f n = [.int .u8 n]) (hx:Bi fr x=some (dataP p (ns.map f))) (hy:Bi fr y=some (.int .i64 ns.length)) (hs:σ[p]? = some (.arr (.tg e) 1 (ns.map f))):B1 P o fr σ (.str (byS ns)) (σ.set p .dead):=fun S B ι a w he hm next Q hk=>by
  have hvx:=he x (by simp[ho,Op.operands,Call.operands]) _ hx
  have hvy:=(he y (by simp[ho,Op.operands,Call.operands]) _ hy).inv_int
  have hpl:p < ι.length:=by rw[hm.len];exact (List.getElem?_eq_some_iff.1 hs).1
  have hι:ι[p]? = some ι[p]:=by simp[hpl]
  generalize ι[p]=l at hι
  have hobj:=hm.obj p _ _ hs hι
  have hιs:ι.set p l = ι:=by
    apply List.ext_getElem?
    intro q
    by_cases hq:q=p
    · subst hq;rw[List.getElem?_set_self hpl,hι]
    · rw[List.getElem?_set_ne (Ne.symm hq)]
  cases l with
  | box b e=>exact hobj.elim
  | map r=>exact hobj.elim
  | row v =>
    obtain⟨h0,e0,vals,hown,⟨hvl,hrl,hcv⟩,hone,_,htg⟩:=hobj
    have he0:=htg e rfl
    subst he0
    have hop:∀ (p':Option Addr) (s:ByteArray) (w':World),a.eval x = .pointer p'→(Builtin.unsafeString_ #[t,it] o.type #[.pointer p',.int .i64 ns.length]).run P w = .ok (.string s) w'→(execOp a.eval o).run P w = .ok (.value (.string s)) w':=fun p' s w' h1 h=>by
      simp only[execOp,ho,resolve,invoke,builtin,Sem.run_bind,Sem.run_pure,Result.andThen_ok,List.map_toArray,List.map_cons,List.map_nil,h1,hvy,h]
    have kill:∀ (w':World),w'.os=w.os→w'.tape=w.tape→w'.output=w.output→w'.heap.size=w.heap.size→(∀ b,b<w.heap.size→v.ownBlock≠some b→w'.heap[b]? = w.heap[b]?) →
        Mem S B ι (σ.set p .dead) w'∧Fw S ι σ w S ι (σ.set p .dead) w':=fun w' k1 k2 k3 k4 k5=>by
      have hstep:=hm.step (o':=.dead) (l':=.row v) (S':=S) hs hι (w':=w') k1 k2 k3 (by omega) (fun b hb hne=>k5 b hb hne) (fun _ h=>h) (fun _ h=>.inl h) (fun b hb=>by rw[k4];exact hm.ltS b (.inl hb))
        (fun v u hr=>A1.set (o':=.dead) hs hι (show True from trivial) hr) trivial (fun b hb=>by simp[C7]at hb)
      rw[hιs]at hstep
      exact hstep
    unfold Oper.wp
    cases ns with
    | nil =>
      have hp:=Val.inv_ref (v:=.px p 0 (-2) 0) rfl trivial hvx
      simp only[A1,hs,hι]at hp
      rcases hp.2 rfl with ⟨_,p',hp'⟩ | ⟨h,_⟩ | ⟨h,_⟩
      · rw[hop p' _ w hp' (Lib.run_unsafeString_none (P:=P) w t it o.type p')]
        obtain⟨m1,m2⟩:=kill w rfl rfl rfl rfl fun _ _ _=>rfl
        exact hk _ S ι w (.cv _ _ (.str _)) m1 m2
      · cases h
      · omega
    | cons n0 rest =>
      have hp:=Val.inv_ref (v:=.el p ((n0 :: rest).map f).length 0 0) rfl trivial hvx
      obtain⟨b,c,hι2,_,hux⟩:=A1.el hp hs rfl
      rw[hι]at hι2
      injection hι2 with hι2
      injection hι2 with hι2
      subst hι2
      rcases hown.2 with ⟨hn,_⟩ | ⟨g,cap,cur,hg0,_,hg,hnc,hcm,hcs,htk⟩
      · cases hn
      · injection hg0 with hA hL0 hc0
        injection hA with hA
        injection hA with hA
        subst hA
        have hux':a.eval x = .pointer (some ⟨b,0,none⟩):=by simpa using hux
        have hlen:((n0 :: rest).map f).length=(n0 :: rest).length:=by simp
        have hcell:∀ j y,(n0 :: rest)[j]? = some y→w.cell? ((⟨b,0,none⟩:Addr).add j)=some (.int .u8 y):=fun j y hj=>by
          have hrow:((n0 :: rest).map f)[j]? = some [.int .u8 y]:=by rw[List.getElem?_map,hj];simp[hf]
          obtain⟨u,h1,h2⟩:=hcv j 0 _ _ hrow rfl
          have h3:u = .int .u8 y:=(Val.cv (S:=S) (B:=B) (R:=A1 ι σ) _ _ h2).inv_int
          have:=hown.cells (g:=b) rfl (j*1+0) u h1
          rw[h3]at this
          simpa using this
        have hrun:=run_unsafeStringI (P:=P) (w:=w) t it o.type e0 ht hc b cur.size (by simp[World.shape?,hg]) (n0 :: rest) (by simp) (by rw[hcs];rw[hlen]at hnc;omega) (by simp only[maxLen]at hcm;rw[hlen]at hnc;omega) hcell
        rw[hop _ _ _ hux' hrun]
        have hfz:∃ F,w.freeze ⟨b,0,none⟩ (n0 :: rest).length = { w with heap:=w.heap.modify b F }:=⟨_,by unfold World.freeze;rw[if_neg (by simp)]⟩
        obtain⟨F,hfz⟩:=hfz
        obtain⟨m1,m2⟩:=kill (w.freeze ⟨b,0,none⟩ (n0 :: rest).length) (by rw[hfz]) (by rw[hfz]) (by rw[hfz]) (by rw[hfz];simp) fun q hq hne=>by
          rw[hfz]
          have:b≠q:=fun h=>hne (by simp[Value.ownBlock,h])
          simp[Array.getElem?_modify,this]
        exact hk _ S ι _ (.cv _ _ (.str _)) m1 m2
  | fam bs0=>exact hobj.elim
  | afm vs0=>exact hobj.elim
end
theorem belA{N:Nat}{α:Type}{f:α→V}{xs:List α}(h:∀ x,bel N (f x)=true):belO N (.box (xs.map f)):=fun c hc=>by
  obtain⟨x,_,rfl⟩:=List.mem_map.1 hc
  exact h x
theorem belAg{N:Nat}{α:Type}{f:α→V}{xs:List α}(h:∀ x,bel N (f x)=true):bel N (.agg (xs.map f))=true:=by
  simp only[bel]
  rw[Bt]
  exact belA h
def ccO{α:Type}(_:α):Option Unit:=some ()
end Go.G36
