/- What comes in,opened: any tree of numbers,texts,structs and slices. -/
import Derived.Test.YtkhaafonmkjjmaaGreatDoorKy
import Derived.Carry
import Derived.WideShapes
import Derived.RowKit
namespace Go.G36
variable [Genv]
set_option linter.all false
open Go

inductive Shp (P:Program):TypeId→List V→Prop where
  | bool {t:TypeId} {b:Bool} (h:P.underlying t=some .bool):Shp P t [.bool b]
  | int {t:TypeId} {k:IntKind} {n:Int} (h:P.underlying t=some (.int k)) (hw:(Lit.int k n).wf=true):Shp P t [.int k n]
  | str {t:TypeId} {s:ByteArray} (h:P.underlying t=some .string) (hs:s.size≤maxLen):Shp P t [.str s]
  | slice {t e:TypeId} {rows:List (List V)} (h:P.underlying t=some (.slice e)) (hl:rows.length≤maxLen) (hr:∀ row,row∈rows→Shp P e row):Shp P t [.im false rows]
  | struct {t:TypeId} {fs:Array Field} {css:List (List V)} (h:P.underlying t=some (.struct fs)) (hl:css.length=fs.toList.length)
      (hf:∀ (i:Nat) (f:Field) (cs:List V),fs.toList[i]? = some f→css[i]? = some cs→Shp P f.type cs):Shp P t css.flatten

def tiles(P:Program)(n:Nat):Nat→List Field→Bool
  | o,[]=>Nat.beq o n
  | o,f :: r=>Nat.beq f.offset o&&tiles P n (o+P.cellsOf f.type) r

def plainB(P:Program)(L:List TypeId)(t:TypeId):Bool :=
  match P.underlying t with
  | some .bool=>Nat.beq (P.cellsOf t) 1
  | some (.int _)=>Nat.beq (P.cellsOf t) 1
  | some .string=>Nat.beq (P.cellsOf t) 1
  | some (.slice e)=>L.contains e&&Nat.blt 0 (P.cellsOf e)&&Nat.beq (P.cellsOf t) 1
  | some (.struct fs)=>tiles P (P.cellsOf t) 0 fs.toList&&fs.toList.all fun f=>L.contains f.type
  | _=>false

def Cvs(S:Nat→Prop)(w:World)(vs:List V)(cs:List Value):Prop:=vs.length=cs.length∧∀ (i:Nat) (v:V) (u:Value),vs[i]? = some v→cs[i]? = some u→CV S w v u

theorem mapM_get {α β : Type} {f : α → Option β} : ∀ {l : List α} {r : List β}, l.mapM f = some r → r.length = l.length ∧ ∀ (i : Nat) (x : α), l[i]? = some x → ∃ y, f x = some y ∧ r[i]? = some y
  | [],r,h=>by
    simp at h;subst h;simp
  | a :: l, r, h => by
    rw[List.mapM_cons]at h
    cases hf:f a with
    | none=>simp[hf]at h
    | some b =>
      cases hl:l.mapM f with
      | none=>simp[hf,hl]at h
      | some bs =>
        simp[hf,hl]at h
        subst h
        obtain⟨h1,h2⟩:=mapM_get hl
        refine⟨by simp[h1],fun i x hx=>?_⟩
        cases i with
        | zero=>simp at hx;subst hx;exact⟨b,hf,rfl⟩
        | succ i=>simp at hx;simpa using h2 i x hx

theorem Cvs.append{S:Nat→Prop}{w:World}{vs us:List V}{cs ds:List Value}(h:Cvs S w vs cs)(k:Cvs S w us ds):Cvs S w (vs++us) (cs++ds):=by
  refine⟨by simp[h.1,k.1],fun i v u hv hu=>?_⟩
  rcases Nat.lt_or_ge i vs.length with hi | hi
  · rw[List.getElem?_append_left hi]at hv
    rw[List.getElem?_append_left (by rw[← h.1];exact hi)]at hu
    exact h.2 i v u hv hu
  · rw[List.getElem?_append_right hi]at hv
    rw[List.getElem?_append_right (by rw[← h.1];exact hi),← h.1]at hu
    exact k.2 _ v u hv hu

theorem Shp.one{P:Program}{t:TypeId}{vs:List V}(h:Shp P t vs):∀ v,v∈vs→v.one=true:=by
  induction h with
  | bool h=>intro v hv;simp at hv;subst hv;rfl
  | int h hw=>intro v hv;simp at hv;subst hv;rfl
  | str h hs=>intro v hv;simp at hv;subst hv;rfl
  | slice h hl hr=>intro v hv;simp at hv;subst hv;rfl
  | struct h hl hf ih =>
    intro v hv
    rename_i fs css
    obtain⟨cs,hcs,hv⟩:=List.mem_flatten.1 hv
    obtain⟨i,hi,rfl⟩:=List.mem_iff_getElem.1 hcs
    exact ih i (fs.toList[i]'(by rw[← hl];exact hi)) css[i] (by simp) (by simp) v hv

theorem fields_open{P:Program}{S:Nat→Prop}{w:World}{cs:List Value}:∀ (fs:List Field) (o:Nat),tiles P cs.length o fs=true→o≤cs.length →
    (∀ f,f∈fs→∃ vs,Shp P f.type vs∧Cvs S w vs ((cs.drop f.offset).take (P.cellsOf f.type)))→(∀ f,f∈fs→((cs.drop f.offset).take (P.cellsOf f.type)).length=P.cellsOf f.type) →
    ∃ css:List (List V),css.length=fs.length∧(∀ (i:Nat) (f:Field) (c:List V),fs[i]? = some f→css[i]? = some c→Shp P f.type c)∧Cvs S w css.flatten (cs.drop o)
  | [],o,ht,ho,h,hl=>by
    simp only[tiles]at ht
    have:=Nat.eq_of_beq_eq_true ht
    subst this
    exact⟨[],rfl,by simp,by simp[Cvs]⟩
  | f :: fs, o, ht, ho, h, hl => by
    simp only[tiles,Bool.and_eq_true]at ht
    have e:=Nat.eq_of_beq_eq_true ht.1
    obtain⟨vs,h1,h2⟩:=h f (by simp)
    have h3:=hl f (by simp)
    rw[e]at h2 h3
    have hle:o+P.cellsOf f.type≤cs.length:=by
      rw[List.length_take,List.length_drop]at h3
      omega
    obtain⟨css,k1,k2,k3⟩:=fields_open fs (o+P.cellsOf f.type) ht.2 hle (fun g hg=>h g (by simp[hg])) fun g hg=>hl g (by simp[hg])
    refine⟨vs :: css,by simp[k1],fun i g c hg hc=>?_,?_⟩
    · cases i with
      | zero=>simp at hg hc;subst hg;subst hc;exact h1
      | succ i=>simp at hg hc;exact k2 i g c hg hc
    · have:=h2.append k3
      rw[← List.drop_drop,List.take_append_drop]at this
      simpa using this

theorem cells_get{w:World}{base:Nat}{a:Addr}{n:Nat}{cs:List Value}(h:w.cells? base a n=some cs):cs.length=n∧∀ j u,cs[j]? = some u→w.cell? (a.add j)=some u:=by
  unfold World.cells? at h
  split at h
  · obtain⟨h1,h2⟩:=mapM_get h
    simp at h1
    refine⟨h1,fun j u hu=>?_⟩
    have hj:j<n:=by rw[← h1];exact (List.getElem?_eq_some_iff.1 hu).1
    obtain⟨y,h3,h4⟩:=h2 j j (List.getElem?_range hj)
    rw[hu]at h4;injection h4 with h4;subst h4;exact h3
  · cases h

theorem cell_lt{w:World}{a:Addr}{u:Value}(h:w.cell? a=some u):a.block<w.heap.size:=by
  unfold World.cell? at h
  cases hh:w.heap[a.block]? with
  | none=>simp[hh]at h
  | some o=>exact (Array.getElem?_eq_some_iff.1 hh).1

theorem open_plain {H : Type} {enc : TypeId × Value → H} {P : Program} {w : World} {base : Nat} {sp : Nat → Bool} {hd : Bool} {L : List TypeId} (hL : L.all (plainB P L) = true) :
    ∀ (fuel:Nat) (t:TypeId) (cs:List Value) (x:DataW H×List MemPlace),t∈L→DataW.trod enc P w base sp hd fuel t cs=some x→∃ vs,Shp P t vs∧cs.length=P.cellsOf t∧Cvs (fun b=>b<w.heap.size) w vs cs
  | 0,t,cs,x,_,h=>by simp[DataW.trod]at h
  | fuel + 1, t, cs, x, ht, h => by
    have hp:=List.all_eq_true.1 hL t ht
    unfold plainB at hp
    have one:∀ {v:V} {u:Value},CV (fun b=>b<w.heap.size) w v u→Cvs (fun b=>b<w.heap.size) w [v] [u]:=fun hv=>⟨rfl,fun i v u h1 h2=>by
      cases i with
      | zero=>simp at h1 h2;subst h1;subst h2;exact hv
      | succ i=>simp at h1⟩
    unfold DataW.trod at h
    cases hu:P.underlying t with
    | none=>rw[hu]at hp;cases hp
    | some d =>
      rw[hu]at hp h
      cases d <;> try (cases hp;done)
      case bool =>
        have hp:=Nat.eq_of_beq_eq_true hp
        split at h <;> simp_all
        exact⟨_,.bool hu,one (.bool _)⟩
      case int k =>
        have hp:=Nat.eq_of_beq_eq_true hp
        split at h <;> simp_all
        obtain⟨⟨rfl,hw⟩,_⟩:=h
        exact⟨_,.int hu hw,one (.int _ _)⟩
      case string =>
        have hp:=Nat.eq_of_beq_eq_true hp
        split at h <;> simp_all
        exact⟨_,.str hu h.1,one (.str _)⟩
      case slice e =>
        simp only[Bool.and_eq_true]at hp
        obtain⟨⟨he,hpos⟩,hsz⟩:=hp
        have hsz:=Nat.eq_of_beq_eq_true hsz
        have hpos:0<P.cellsOf e:=by simpa[Nat.blt_eq]using hpos
        have he:e∈L:=by simpa using he
        split at h <;> try (simp at *;done)
        · exact⟨_,.slice (rows:=[]) hu (Nat.zero_le _) (by simp),hsz.symm,one CV.imNil⟩
        · rename_i e1 a len cap heq
          cases heq
          simp only at h
          split at h
          · rename_i hc
            cases hm:(List.range len).mapM fun i=>(w.cells? base (a.add (i*P.cellsOf e)) (P.cellsOf e)).bind (DataW.trod enc P w base sp hd fuel e) with
            | none=>rw[hm]at h;simp at h
            | some elems =>
              clear h
              obtain⟨h1,h2⟩:=mapM_get hm
              have key:∀ i:Nat,∃ row:List V,i<len→Shp P e row∧row.length=P.cellsOf e∧∃ us:List Value,Cvs (fun b=>b<w.heap.size) w row us∧∀ j u,us[j]? = some u→w.cell? ((a.add (i*P.cellsOf e)).add j)=some u:=fun i=>by
                by_cases hi:i<len
                · obtain⟨y,h3,_⟩:=h2 i i (List.getElem?_range hi)
                  cases hcs:w.cells? base (a.add (i*P.cellsOf e)) (P.cellsOf e) with
                  | none=>rw[hcs]at h3;simp at h3
                  | some us =>
                    rw[hcs]at h3
                    simp only[Option.bind_some]at h3
                    obtain⟨vs,k1,k2,k3⟩:=open_plain hL fuel e us y he h3
                    exact⟨vs,fun _=>⟨k1,by rw[k3.1,k2],us,k3,(cells_get hcs).2⟩⟩
                · exact⟨[],fun h=>absurd h hi⟩
              obtain⟨row,hrow⟩:∃ row:Nat→List V,∀ i,i<len→Shp P e (row i)∧(row i).length=P.cellsOf e∧∃ us:List Value,Cvs (fun b=>b<w.heap.size) w (row i) us∧∀ j u,us[j]? = some u→w.cell? ((a.add (i*P.cellsOf e)).add j)=some u :=
                ⟨fun i=>Classical.choose (key i),fun i=>Classical.choose_spec (key i)⟩
              have hget:∀ i r,((List.range len).map row)[i]? = some r→i<len∧r=row i:=fun i r hr=>by
                rw[List.getElem?_map]at hr
                cases hx:(List.range len)[i]? with
                | none=>rw[hx]at hr;cases hr
                | some q =>
                  rw[hx]at hr
                  simp only[Option.map_some,Option.some.injEq]at hr
                  have hi:i<len:=by have:=(List.getElem?_eq_some_iff.1 hx).1;simpa using this
                  rw[List.getElem?_range hi]at hx
                  injection hx with hx;subst hx
                  exact⟨hi,hr.symm⟩
              have hmem:∀ r,r∈(List.range len).map row→∃ i,i<len∧r=row i:=fun r hr=>by
                obtain⟨i,hi,rfl⟩:=List.mem_map.1 hr
                exact⟨i,by simpa using hi,rfl⟩
              refine⟨_,.slice (rows:=(List.range len).map row) hu (by simp;omega) (fun r hr=>by obtain⟨i,hi,rfl⟩:=hmem r hr;exact (hrow i hi).1),by simpa using hsz.symm,one ?_⟩
              have hlen:((List.range len).map row).length=len:=by simp
              have:=CV.im (S:=fun b=>b<w.heap.size) (w:=w) ((List.range len).map row) (some a) cap (P.cellsOf e) (fun i j=>(w.cell? ((a.add (i*P.cellsOf e)).add j)).getD undef) (by rw[hlen];exact hc.2.1)
                (fun hne=>by
                  have hl0:0<len:=by
                    rcases Nat.eq_zero_or_pos len with h0 | h0
                    · subst h0;simp at hne
                    · exact h0
                  obtain⟨q1,q2,us,q3,q4⟩:=hrow 0 hl0
                  have hus:0<us.length:=by rw[← q3.1,q2];exact hpos
                  have hc0:=q4 0 us[0] (by simp[hus])
                  have hspot:a.spot=none:=by simpa[Addr.add]using World.cell?_spot hc0
                  obtain⟨b,off,spot⟩:=a
                  subst hspot
                  have hb:=cell_lt hc0
                  refine⟨b,off,rfl,by simpa[Addr.add]using hb,fun r hr=>by obtain⟨i,hi,rfl⟩:=hmem r hr;exact (hrow i hi).2.1,fun i j r c hr hc2=>?_⟩
                  obtain⟨hi,rfl⟩:=hget i r hr
                  obtain⟨_,_,us,q3,q4⟩:=hrow i hi
                  have hj:j<us.length:=by rw[← q3.1];exact (List.getElem?_eq_some_iff.1 hc2).1
                  have:=q4 j us[j] (by simp[hj])
                  rw[this]
                  rw[Addr.add_mid,Addr.add_mid]at this
                  simpa using this)
                (fun i j r c hr hc2=>by
                  obtain⟨hi,rfl⟩:=hget i r hr
                  obtain⟨_,_,us,q3,q4⟩:=hrow i hi
                  have hj:j<us.length:=by rw[← q3.1];exact (List.getElem?_eq_some_iff.1 hc2).1
                  rw[q4 j us[j] (by simp[hj])]
                  exact q3.2 j c us[j] hc2 (by simp[hj]))
                (fun i j r c hr hc2=>by
                  obtain⟨hi,rfl⟩:=hget i r hr
                  exact (hrow i hi).1.one c (List.mem_of_getElem? hc2))
              rw[hlen]at this
              exact this
          · cases h
      case struct fs =>
        simp only[Bool.and_eq_true]at hp
        obtain⟨htl,hall⟩:=hp
        simp only at h
        split at h
        · rename_i hlen
          cases hm:fs.toList.mapM fun f=>DataW.trod enc P w base sp hd fuel f.type ((cs.drop f.offset).take (P.cellsOf f.type)) with
          | none=>rw[hm]at h;simp at h
          | some xs =>
            clear h
            obtain⟨h1,h2⟩:=mapM_get hm
            have hin:∀ f,f∈fs.toList→f.type∈L:=fun f hf=>by
              have:=List.all_eq_true.1 hall f hf
              simpa using this
            have hf:∀ f,f∈fs.toList→∃ vs,Shp P f.type vs∧((cs.drop f.offset).take (P.cellsOf f.type)).length=P.cellsOf f.type∧Cvs (fun b=>b<w.heap.size) w vs ((cs.drop f.offset).take (P.cellsOf f.type)):=fun f hf=>by
              obtain⟨i,hi,rfl⟩:=List.mem_iff_getElem.1 hf
              obtain⟨y,h3,_⟩:=h2 i _ (List.getElem?_eq_getElem hi)
              exact open_plain hL fuel _ _ y (hin _ (List.getElem_mem hi)) h3
            rw[← hlen]at htl
            obtain⟨css,k1,k2,k3⟩:=fields_open fs.toList 0 htl (Nat.zero_le _) (fun f h=>by obtain⟨vs,q1,_,q3⟩:=hf f h;exact⟨vs,q1,q3⟩) (fun f h=>by obtain⟨vs,_,q2,_⟩:=hf f h;exact q2)
            exact⟨css.flatten,.struct hu k1 k2,hlen,by simpa using k3⟩
        · cases h
end Go.G36
