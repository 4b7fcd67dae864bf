/- Arguments,opened and handed on; what they are told as,typed. -/
import Derived.Test.YtkhaafonmkjjmaaGreatDoorKz
import Derived.WalkKit
import Derived.ProofKit
import Derived.OpenShut
import Derived.ShutString
import Derived.ChangeOld
import Derived.Below
namespace Go.G36
variable [Genv]
set_option linter.all false
open Go Go.ChangeShapes Go.WideShapes Go.ChangeAt Go.RowKit

theorem shp_int{P:Program}{t:TypeId}{k:IntKind}(ht:P.underlying t=some (.int k)){vs:List V}(h:Shp P t vs):∃ n,vs = [.int k n]∧(Lit.int k n).wf=true:=by
  cases h <;> simp_all
theorem shp_bool{P:Program}{t:TypeId}(ht:P.underlying t=some .bool){vs:List V}(h:Shp P t vs):∃ b,vs = [.bool b]:=by
  cases h <;> simp_all
theorem shp_str{P:Program}{t:TypeId}(ht:P.underlying t=some .string){vs:List V}(h:Shp P t vs):∃ s,vs = [.str s]∧s.size≤maxLen:=by
  cases h <;> simp_all
theorem shp_slice {P : Program} {t e : TypeId} {α : Type} {f : α → List V} {ok : α → Prop} (ht : P.underlying t = some (.slice e)) (he : ∀ vs, Shp P e vs → ∃ x, vs = f x ∧ ok x) {vs : List V} (h : Shp P t vs) :
    ∃ xs:List α,vs = [.im false (xs.map f)]∧xs.length≤maxLen∧∀ x,x∈xs→ok x:=by
  cases h with
  | slice h hl hr =>
    rename_i e' rows
    rw[ht]at h;cases h
    clear ht
    have:∀ rows:List (List V),(∀ row,row∈rows→Shp P e row)→∃ xs:List α,rows=xs.map f∧∀ x,x∈xs→ok x:=by
      intro rows
      induction rows with
      | nil=>intro _;exact⟨[],rfl,by simp⟩
      | cons r rows ih =>
        intro hr
        obtain⟨x,rfl,hx⟩:=he r (hr r (by simp))
        obtain⟨xs,rfl,hxs⟩:=ih fun q hq=>hr q (by simp[hq])
        exact⟨x :: xs,rfl,by simpa using ⟨hx,hxs⟩⟩
    obtain⟨xs,rfl,hxs⟩:=this rows hr
    exact⟨xs,rfl,by simpa using hl,hxs⟩
  | bool h=>simp_all
  | int h=>simp_all
  | str h=>simp_all
  | struct h=>simp_all
def argV(P:Program)(t:TypeId)(vs:List V):V:=match P.underlying t with
  | some (.struct _)=>.agg vs
  | _=>vs.headD .any

theorem arg_cv{H:Type}{enc:TypeId×Value→H}{P:Program}{w:World}{base b0:Nat}{sp:Nat→Bool}{hd:Bool}{L:List TypeId}(hL:L.all (plainB P L)=true){t:TypeId}(ht:L.contains t=true){v:Value}{r:Reach}{d:DataW H}{ps:List MemPlace}
    (hok:Value.okWide P w r b0 t v) (h:DataW.Trod enc P w base sp hd t v d ps):∃ vs,Shp P t vs∧CV (fun b=>b<w.heap.size) w (argV P t vs) v:=by
  obtain⟨fuel,h⟩:=h
  have ht:t∈L:=by simpa using ht
  obtain⟨vs,h1,h2,h3⟩:=open_plain hL fuel t _ _ ht h
  refine⟨vs,h1,?_⟩
  have hp:=List.all_eq_true.1 hL t ht
  unfold plainB at hp
  unfold argV
  cases hu:P.underlying t with
  | none=>rw[hu]at hp;cases hp
  | some d =>
    rw[hu]at hp
    have single:v.cells = #[v]→∀ x,vs = [x]→CV (fun b=>b<w.heap.size) w (vs.headD .any) v:=fun hv x hx=>by
      subst hx
      exact h3.2 0 x v rfl (by rw[hv];rfl)
    cases d <;> try (cases hp;done)
    case bool=>obtain⟨b,rfl⟩:=okWide_bool hu hok;obtain⟨b',rfl⟩:=shp_bool hu h1;exact single rfl _ rfl
    case int k=>obtain⟨b,rfl⟩:=okWide_int hu hok;obtain⟨b',rfl,_⟩:=shp_int hu h1;exact single rfl _ rfl
    case string=>obtain⟨b,rfl⟩:=okWide_string hu hok;obtain⟨b',rfl,_⟩:=shp_str hu h1;exact single rfl _ rfl
    case slice e =>
      obtain⟨a,l,c,rfl⟩:=okWide_slice hu hok
      cases h1 <;> simp_all
      exact single rfl
    case struct fs =>
      obtain⟨cs,rfl,_⟩:=okWide_struct hu hok
      exact .agg _ _ (by simpa[Value.cells]using h3.1) fun i c u hc hu=>h3.2 i c u hc (by simpa[Value.cells]using hu)

theorem walk_any{P:Program}{f:FuncId}{avs:List V}{us:Array Value}{w:World}{r:Bool}(hP:Bu P f avs (.bool r))(hG:Eg (fun b=>b<w.heap.size) w)(hl:avs.length=us.size)(hcv:∀ (i:Nat) (c:V) (u:Value),avs[i]? = some c→us[i]? = some u→CV (fun b=>b<w.heap.size) w c u) :
    Calls P f us w fun e w'=>e = .returned (.bool r)∧Below w.heap.size w w':=by
  have hm:Mem (fun b=>b<w.heap.size) (fun _=>False) [] [] w:=⟨rfl,fun a o l h=>by simp at h,fun a o l a' o' l' b h=>by simp at h,fun a o l b h=>by simp at h,fun b hb=>by
    rcases hb with hb | hb
    · exact hb
    · exact hb.elim,hG⟩
  refine (hP (fun b=>b<w.heap.size) (fun _=>False) [] us w hm ⟨hl,fun i c u hc hu=>.cv _ _ (hcv i c u hc hu)⟩).mono ?_
  rintro e w' ⟨u,v,τ,S',ι',rfl,hT,hv,hm',hf⟩
  have hu:=Told.val hm' hT hv
  cases hu
  exact⟨rfl,hf.os,hf.tape,hf.output,hf.size,fun k hk=>hf.keep k hk Lv_nil⟩

theorem trodAll_stays{H:Type}{enc:TypeId×Value→H}{P:Program}(hl:laidOutB P=true){W W':World}(hb:Below W.heap.size W W'):∀ (ts:List TypeId) (vs:List Value) (ds:List (DataW H)) (ps:List MemPlace),
    (ts.all fun t=>P.readableRec t&&decide (t<P.types.size))=true→DataW.TrodAll enc P W 0 (fun _=>true) true ts vs ds ps→DataW.TrodAll enc P W' 0 (fun b=>decide (b<W.heap.size)) true ts vs ds ps
  | [],[],[],ps,_,h=>h
  | t :: ts,v :: vs,d :: ds,ps,ht,h=>by
    obtain⟨p,q,h1,h2,rfl⟩:=h
    simp only[List.all_cons,Bool.and_eq_true,decide_eq_true_eq]at ht
    have lt:∀ x∈p,x.block<W.heap.size:=by obtain⟨m,hm⟩:=h1;exact DataW.trod_lt m _ _ _ hm
    exact⟨p,q,Below.trod hl ht.1.1 ht.1.2 h1 hb lt,trodAll_stays hl hb ts vs ds q ht.2 h2,rfl⟩
  | [],_ :: _,_,_,_,h=>by cases h
  | [],[],_ :: _,_,_,h=>by cases h
  | _ :: _,[],_,_,_,h=>by cases h
  | _ :: _,_ :: _,[],_,_,h=>by cases h

theorem trodAll_len{H:Type}{enc:TypeId×Value→H}{P:Program}{W:World}{base:Nat}{sp:Nat→Bool}{hd:Bool}:∀ {ts:List TypeId} {vs:List Value} {ds:List (DataW H)} {ps:List MemPlace},
    DataW.TrodAll enc P W base sp hd ts vs ds ps→ds.length=ts.length∧vs.length=ts.length
  | [],[],[],_,_=>⟨rfl,rfl⟩
  | _ :: _,_ :: _,_ :: _,_,⟨_,_,_,h,_⟩=>by simp[trodAll_len h]
  | [],_ :: _,_,_,h=>by cases h
  | [],[],_ :: _,_,h=>by cases h
  | _ :: _,[],_,_,h=>by cases h
  | _ :: _,_ :: _,[],_,h=>by cases h

inductive Opened (P:Program) (w:World):List TypeId→List Value→List V→Prop where
  | nil:Opened P w [] [] []
  | cons {t:TypeId} {v:Value} {vs:List V} {ts:List TypeId} {us:List Value} {cs:List V} (h1:Shp P t vs) (h2:CV (fun b=>b<w.heap.size) w (argV P t vs) v) (h:Opened P w ts us cs):Opened P w (t :: ts) (v :: us) (argV P t vs :: cs)

theorem Opened.get{P:Program}{w:World}{ts:List TypeId}{us:List Value}{cs:List V}(h:Opened P w ts us cs):cs.length=us.length∧∀ (i:Nat) (c:V) (u:Value),cs[i]? = some c→us[i]? = some u→CV (fun b=>b<w.heap.size) w c u:=by
  induction h with
  | nil=>simp
  | cons h1 h2 _ ih =>
    refine⟨by simp[ih.1],fun i c u hc hu=>?_⟩
    cases i with
    | zero=>simp at hc hu;subst hc;subst hu;exact h2
    | succ i=>simp at hc hu;exact ih.2 i c u hc hu

theorem opened{H:Type}{enc:TypeId×Value→H}{P:Program}{w:World}{base b0:Nat}{sp:Nat→Bool}{hd:Bool}{L:List TypeId}(hL:L.all (plainB P L)=true){r:Reach}:∀ (ts:List TypeId) (us:List Value) (ds:List (DataW H)) (ps:List MemPlace),
    (ts.all fun t=>L.contains t)=true→(∀ (j:Nat) t v,ts[j]? = some t→us[j]? = some v→Value.okWide P w r b0 t v)→DataW.TrodAll enc P w base sp hd ts us ds ps→∃ cs,Opened P w ts us cs
  | [],[],[],ps,_,_,h=>⟨[],.nil⟩
  | t :: ts,v :: vs,d :: ds,ps,ht,hok,h=>by
    obtain⟨p,q,h1,h2,rfl⟩:=h
    simp only[List.all_cons,Bool.and_eq_true]at ht
    obtain⟨cs,k1,k2⟩:=arg_cv hL ht.1 (hok 0 t v rfl rfl) h1
    obtain⟨r,hr⟩:=opened hL ts vs ds q ht.2 (fun j t v h1 h2=>hok (j+1) t v h1 h2) h2
    exact⟨_,.cons k1 k2 hr⟩
  | [],_ :: _,_,_,_,_,h=>by cases h
  | [],[],_ :: _,_,_,_,h=>by cases h
  | _ :: _,[],_,_,_,_,h=>by cases h
  | _ :: _,_ :: _,[],_,_,_,h=>by cases h
end Go.G36
