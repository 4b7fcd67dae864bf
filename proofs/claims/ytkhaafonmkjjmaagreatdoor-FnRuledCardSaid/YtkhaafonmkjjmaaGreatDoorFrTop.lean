/- FnRuled returns true,whatever the bytes: conditions: the library's tables and errors start as the program's text lays them (the card ties it). -/
import Derived.Test.YtkhaafonmkjjmaaGreatDoorRows
import Derived.Test.YtkhaafonmkjjmaaGreatDoorCards
import Derived.Test.YtkhaafonmkjjmaaGreatDoorTie
import Derived.Test.YtkhaafonmkjjmaaGreatDoorVPa
import Derived.Test.YtkhaafonmkjjmaaGreatDoorKza
import Derived.SliceStrings
import Derived.ChangeVars
import Derived.ChangeBears2
import Derived.LaidLaws
import Derived.LaidHandle
import Derived.Lib.LaidU8
import Derived.SevenTiedAt
import Derived.Lib.LaidIn
import Derived.Lay
import Derived.Stop.Joined
import Derived.Stop.LaidErr
import Derived.Handed
import Derived.Shelf.Vars
namespace Go.Proofs.YtkhaafonmkjjmaaGreatDoor.fnRuled
open Go.ChangeShapes Go.WideShapes Go.ChangeAt Go.RowKit
open Go.G36 Go.G36.MT Go.G36.FR
set_option linter.all false

theorem own:ownKnob Tryz.prog.godebug=none:=by kernel_rfl
theorem laidOut:laidOutB Tryz.prog=true:=by kernel_rfl
def tys:List TypeId:=[5,22]
theorem tysOk:tys.all (plainB Tryz.prog tys)=true:=by kernel_rfl
abbrev named:List String:=Rows.fnRuledRow.named
abbrev laid:List (String×DataW Unit):=Rows.fnRuledRow.laid
theorem heap_of{W:World}{n:String}{g:Nat}{cs:Array Value}(hg:Tryz.prog.globalNamed n=some g)(h:W.var? Tryz.prog n=some cs):g<W.heap.size∧∃ e fz,W.heap[g]? = some (.cells cs e fz):=by
  simp only[World.var?,hg,Option.bind_some]at h
  cases hb:W.heap[g]? with
  | none=>rw[hb]at h;cases h
  | some o =>
    rw[hb]at h
    refine⟨(Array.getElem?_eq_some_iff.1 hb).1,?_⟩
    cases o with
    | cells c e fz=>exact⟨e,fz,by injection h with h;rw[h]⟩
    | _=>cases h

theorem both{H:Type}{enc:TypeId×Value→H}{a:Assume}{C:Checked}{os:Os}{f:FuncId}{fn:Func}{s:ChangeSpec}{conds:List PathCond}{apart fresh handsOn again:Bool}{X:World→Array Value→Prop}
    (hX:∀ (w w':World) (args:Array Value),w.heap=w'.heap→X w args→X w' args)
    (own:ownKnob C.prog.godebug=none) (started:os.Started) (noInit:C.prog.inits.idxOf? f=none) (hfn:C.prog.funcs[f]? = some fn)
    (witness:∃ (w:World) (tape:Tape) (i:Input),w.os=os∧(w.forCall tape i).Shaped C.prog∧i.vars = []∧Input.okWide C.prog (w.forCall tape i) .any w.heap.size f i ∧
      ((s.pre enc C.prog fn conds apart (w.forCall tape i).memory i.args∧X (w.forCall tape i).memory i.args)∧sizedMet enc C.prog fn (OpenSpec.ofChange s) apart (w.forCall tape i).memory i.args)∧a.holds C.prog (lone (Frame.enter C.prog f i.args .normal) [] (w.forCall tape i)))
    (contract:∀ (W:World) (base:Nat) (args:Array Value) (ds gs:List (DataW H)) (before:List MemPlace),
      (∀ (j:Nat) t v,fn.params[j]? = some t→args[j]? = some v→Value.okWide C.prog W .any base t v) →
      DataW.Whole enc C.prog fn.params.toList s.vars apart W args.toList ds gs before →
      conds.all (PathCond.test C.prog ⟨fn.params.toList,ds,s.plain.varTypes C.prog,gs⟩)=true →
      (DataW.weightsEach C.prog (fn.params.toList++s.plain.varTypes C.prog) (ds++gs)).all (·≤reachBytes)=true→X W args→W.ShapedOpen C.prog →
      a.holds C.prog (lone (Frame.enter C.prog f args .normal) [] W) →
      Calls C.prog f args W fun e W'=>∃ v,e = .returned v∧s.post enc C.prog fn apart fresh handsOn again W args v W') :
    ReturnsInHanded a C os f .any (fun w args=>(s.pre enc C.prog fn conds apart w args∧X w args)∧sizedMet enc C.prog fn (OpenSpec.ofChange s) apart w args) (s.post enc C.prog fn apart fresh handsOn again):=by
  refine returnsInHanded_of_calls own started noInit witness ?_
  intro w tape i _ hsh _ hok hpre hholds
  obtain⟨_,_,_,fn',hfn',_,_,_,_,hval⟩:=hok
  have e:fn' = fn:=Option.some.inj (hfn'.symm.trans hfn)
  subst e
  obtain⟨⟨⟨ds,gs,before,hw,hc⟩,hx⟩,hz⟩:=hpre
  have hw':=DataW.Whole.of_heap (w':=w.forCall tape i) (by rfl) hw
  refine (contract (w.forCall tape i) w.heap.size i.args ds gs before hval hw' hc (hz.weights hw) (hX _ _ _ (by rfl) hx) hsh hholds).mono fun e W' ⟨v,he,hp⟩=>?_
  subst he
  exact ChangeSpec.post_blind hp

theorem glob{W:World}(h:laidMetH Tryz.prog laid W)(hsh:W.ShapedOpen Tryz.prog):Eg (fun b=>b<W.heap.size) W:=by
  have h':laidMet Tryz.prog laid W:=h
  have f0:(0:Nat)<W.heap.size∧∃ o,W.heap[0]? = some o∧holdsN o:=by
    obtain⟨m,hc⟩:=cell_of_shapedOpen_int (P:=Tryz.prog) (g:=0) (t:=3) (zero:=#[.int .i64 0]) (k:=.i64) hsh (of_decide_eq_true (by kernel_rfl)) (by kernel_rfl) rfl (by kernel_rfl) (by kernel_rfl) Tryz.underlying3
    unfold World.cell? at hc
    cases hb:W.heap[0]? with
    | none=>rw[hb]at hc;cases hc
    | some o =>
      refine⟨(Array.getElem?_eq_some_iff.1 hb).1,o,rfl,?_⟩
      rw[hb]at hc
      cases o with
      | cells cs e fz=>exact⟨cs,m,e,fz,rfl,by simpa using hc⟩
      | _=>cases hc
  have f1:(3:Nat)<W.heap.size∧∃ o,W.heap[3]? = some o∧holdsT .u64 Lib.pow10Tab o:=by
    have ht:laidMet Tryz.prog (laid.drop 2) W:=h'.tail.tail
    have hg:Tryz.prog.globalNamed named[2]=some 3:=by kernel_rfl
    have hT:Lib.TabIs Tryz.prog W named[2] .u64 Lib.pow10Tab:=Lib.tabIs_of_head (rest:=laid.drop 3) (n:=20) hg (t:=226) (e:=63) (by kernel_rfl) (by kernel_rfl) (by kernel_rfl) (by kernel_rfl) (by kernel_rfl) (by
      have e:(laid.drop 2)=(named[2],Lib.tabData .u64 Lib.pow10Tab) :: laid.drop 3:=by rfl
      rw[← e];exact ht)
    obtain⟨k1,e,fz,k2⟩:=heap_of hg hT
    exact⟨k1,_,k2,e,fz,rfl⟩
  have sent:∀ (i g:Nat),(hi:i<named.length)→Tryz.prog.globalNamed named[i]=some g→(∃ text:List UInt8,(named[i],DataW.iface "*errors.errorString" (.ptr (.agg [.lit (.string text)])))∈laid)→(Tryz.prog.globals[g]?).map (·.type)=some 173 →
      g<W.heap.size∧∃ o,W.heap[g]? = some o∧holdsI o:=fun i g hi hg hl htt=>by
    obtain⟨text,hmem⟩:=hl
    obtain⟨g',t,cs,fuel,p,h1,h2,h3,h4⟩:=Lib.laidMet.reads h' hmem
    obtain rfl:=Option.some.inj (h1.symm.trans hg)
    obtain rfl:=Option.some.inj (h2.symm.trans htt)
    obtain⟨k1,e,fz,k2⟩:=heap_of h1 h3
    obtain⟨_,u,v,hcs,_⟩:=iface_of_trod Tryz.underlying173 h4
    exact⟨k1,_,k2,u,v,e,fz,by rw[Array.eq_one_of_toList hcs]⟩
  have f2:=sent 0 1 (by decide) (by kernel_rfl) ⟨_,.tail _ (.tail _ (.tail _ (.tail _ (.head _))))⟩ (by kernel_rfl)
  have f3:=sent 1 2 (by decide) (by kernel_rfl) ⟨_,.tail _ (.tail _ (.tail _ (.head _)))⟩ (by kernel_rfl)
  refine And.intro (fun g cs hg=>?_) (fun x hx=>?_)
  · exact absurd hg (by intro hh;cases hh)
  have hx':x∈[((0:Nat),holdsN),(1,holdsI),(2,holdsI),(3,holdsT .u64 Lib.pow10Tab)]:=hx
  simp only[List.mem_cons,List.not_mem_nil,or_false]at hx'
  rcases hx' with rfl | rfl | rfl | rfl
  · exact f0
  · exact f2
  · exact f3
  · exact f1

theorem byte_shp(vs:List V)(h:Shp Tryz.prog 5 vs):∃ x:Int,vs=FR.c_int .u8 x∧0≤x∧x≤255:=by
  obtain⟨n,rfl,hw⟩:=shp_int Tryz.underlying5 h
  refine⟨n,rfl,?_⟩
  have:=hw
  simp[Lit.wf,IntKind.min,IntKind.max,IntKind.bits,IntKind.signed]at this
  omega
theorem walk(w:World)(us:Array Value)(cs:List V)(hG:Eg (fun b=>b<w.heap.size) w)(h:Opened Tryz.prog w [22] us.toList cs) :
    Calls Tryz.prog 5 us w fun e w'=>e = .returned (.bool true)∧Below w.heap.size w w':=by
  obtain⟨ul⟩:=us
  change Opened Tryz.prog w [22] ul cs at h
  have hg:=h.get
  cases h with | cons s0 _ h =>
  cases h
  obtain⟨bs,rfl,l0,k0⟩:=shp_slice (f:=FR.c_int .u8) (ok:=fun x=>0≤x∧x≤255) Tryz.underlying22 byte_shp s0
  refine walk_any (avs:=[.im false (bs.map (FR.c_int .u8))]) (FR.laws_FnRuled_p false (FR.law (c:=bs) k0)) hG (by simp) fun i c u hc hu=>?_
  refine hg.2 i c u ?_ (by simpa using hu)
  rw[← hc]
  simp[argV,Tryz.underlying22]

def T32:List Int:=[0,1,28,2,29,14,24,3,30,22,20,15,25,17,4,8,31,27,13,23,21,19,16,7,26,12,18,6,11,5,10,9]
def T64:List Int:=[0,1,56,2,57,49,28,3,61,58,42,50,38,29,17,4,62,47,59,36,45,43,51,22,53,39,33,30,24,18,12,5,63,55,48,27,60,41,37,16,46,35,44,21,52,32,23,11,54,26,40,15,34,20,31,10,25,14,19,9,13,8,7,6]
noncomputable abbrev N0:Nat:=(World.settled Tryz.prog default).heap.size
noncomputable def laidWorld(os:Os):World :=
  let N:=(World.settled Tryz.prog os).heap.size
  let w0:=World.holding Tryz.prog os ⟨#[.cells #[.string (ByteArray.mk #[105,110,118,97,108,105,100,32,115,121,110,116,97,120])] 225 (0,0),.cells #[.string (ByteArray.mk #[118,97,108,117,101,32,111,117,116,32,111,102,32,114,97,110,103,101])] 225 (0,0)],#[],[]⟩
  let put := fun (g : Nat) (cs : Array Value) (h : Array Obj) => h.modify g fun
      | .cells _ t frozen=>.cells cs t frozen
      | o=>o
  { w0 with heap:=put 5 (T64.map fun n=>.int .u8 n).toArray (put 4 (T32.map fun n=>.int .u8 n).toArray (put 2 #[.iface 223 (.pointer (some ⟨N+1,0,none⟩))] (put 1 #[.iface 223 (.pointer (some ⟨N,0,none⟩))] (put 3 (Lib.pow10Tab.map fun n=>.int .u64 n).toArray w0.heap)))) }
theorem laid_met(os:Os)(args:Array Value):laidMetH Tryz.prog Rows.fnRuledRow.laid ((laidWorld os).forCall (fun _ _=>0) ⟨#[],args,[]⟩).memory:=by
  have h:LaidIn Tryz.prog ((laidWorld os).forCall (fun _ _=>0) ⟨#[],args,[]⟩).memory Rows.fnRuledRow.laid [4,5,3,2,N0+1,1,N0] :=
    LaidIn.of_run [4,5,3,2,N0+1,1,N0] 8 (by kernel_rfl) (by kernel_rfl) (by kernel_rfl) (by kernel_rfl)
  exact h.met

set_option maxRecDepth 100000 in
theorem witness(os:Os){H:Type}(enc:TypeId×Value→H):∃ (w:World) (tape:Tape) (i:Input),w.os=os∧(w.forCall tape i).Shaped Tryz.checked.prog∧i.vars = []∧Input.okWide Tryz.checked.prog (w.forCall tape i) .any w.heap.size 5 i ∧
      ((Rows.fnRuledSpec.pre enc Tryz.checked.prog Tryz.f5 Rows.fnRuledRow.domain false (w.forCall tape i).memory i.args∧laidMetH Tryz.prog Rows.fnRuledRow.laid (w.forCall tape i).memory)∧sizedMet enc Tryz.checked.prog Tryz.f5 (OpenSpec.ofChange Rows.fnRuledSpec) false (w.forCall tape i).memory i.args) ∧
      ({ }:Assume).holds Tryz.checked.prog (lone (Frame.enter Tryz.checked.prog 5 i.args .normal) [] (w.forCall tape i)):=by
  have hok:Input.okWideB Tryz.checked.prog ((laidWorld os).forCall (fun _ _=>0) ⟨#[],#[.slice none 0 0],[]⟩) 5 ⟨#[],#[.slice none 0 0],[]⟩=true:=by kernel_rfl
  have hpre:Rows.fnRuledSpec.preB enc Tryz.checked.prog Tryz.f5 Rows.fnRuledRow.domain false ((laidWorld os).forCall (fun _ _=>0) ⟨#[],#[.slice none 0 0],[]⟩).memory #[.slice none 0 0] 8=true:=by kernel_rfl
  have hsz:Rows.fnRuledSpec.sizedB enc Tryz.checked.prog Tryz.f5 false ((laidWorld os).forCall (fun _ _=>0) ⟨#[],#[.slice none 0 0],[]⟩).memory #[.slice none 0 0] 8=true:=by kernel_rfl
  exact⟨laidWorld os,fun _ _=>0,⟨#[],#[.slice none 0 0],[]⟩,rfl,World.shaped_of_RefB (by kernel_rfl) (by kernel_rfl),(Input.okWide_of_okWideB (base:=0) hok).1,(Input.okWide_of_okWideB hok).2,⟨⟨ChangeSpec.pre_of_preB hpre,laid_met os _⟩,sizedMet_of_sizedB hsz⟩,by
    simp only[Assume.holds]
    exact⟨by simp,by simp,fun _=>Modest.zero,by simp,by simp⟩⟩
set_option maxRecDepth 100000 in
theorem lifted(os:Os)(started:os.Started)(H:Type)(enc:TypeId×Value→H) :
    ReturnsInHanded {} Tryz.checked os 5 .any (fun w args=>(Rows.fnRuledSpec.pre enc Tryz.prog Tryz.f5 Rows.fnRuledRow.domain false w args∧laidMetH Tryz.prog Rows.fnRuledRow.laid w)∧sizedMet enc Tryz.prog Tryz.f5 (OpenSpec.ofChange Rows.fnRuledSpec) false w args)
      (Rows.fnRuledSpec.post enc Tryz.prog Tryz.f5 false true false false):=by
  refine both (C:=Tryz.checked) (X:=fun w _=>laidMetH Tryz.prog Rows.fnRuledRow.laid w) (fun _ _ _ hh h=>h.of_heap hh) own started (by kernel_rfl) Tryz.func5
    (witness os enc) ?_
  intro W base args ds gs before hval0 hW hcnd _ hL hsh _
  have hval:∀ (j:Nat) t v,Tryz.f5.params[j]? = some t→args[j]? = some v→Value.okWide Tryz.prog W .any base t v:=hval0
  have hW':=hW
  obtain⟨p,q,hA0,hV,rfl,hfz,hnd⟩:=hW
  have hA:DataW.TrodAll enc Tryz.prog W 0 (fun _=>true) true Tryz.f5.params.toList args.toList ds p:=hA0
  obtain⟨cs,ho⟩:=opened (H:=H) (enc:=enc) tysOk Tryz.f5.params.toList args.toList ds p (by kernel_rfl) (fun j t v h1 h2=>hval j t v (by simpa using h1) (by simpa using h2)) hA
  have hw:=walk W args cs (glob hL hsh) ho
  have hlen:=(trodAll_len hA).1
  match ds,hlen with
  | [d0],_ =>
  refine hw.mono fun e W' ⟨he,bel⟩=>?_
  subst he
  obtain⟨rfl,rfl⟩:=trodVars_none hV
  exact⟨_,rfl,_,_,_,[],_,_,hW',trodAll_mk1 (shut_bool Tryz.underlying4 _),(trodAll_stays laidOut bel _ _ _ _ (by kernel_rfl) hA),rfl,bel.frame _,fun h=>by cases h⟩

theorem proved:Rows.FnRuledSaid :=
  OpenClaim.holds_of_wide 5 Tryz.f5 rfl rfl rfl rfl rfl rfl rfl ⟨rfl,rfl,rfl,rfl,rfl⟩ rfl rfl rfl rfl rfl (by kernel_rfl) Tryz.func5 (by kernel_rfl)
    (of_decide_eq_true (by kernel_rfl)) (by unfold Func.isWrapper;first | (rw[if_pos (by decide +kernel)];kernel_rfl) | (rw[if_neg (by decide +kernel)];exact⟨rfl,rfl⟩))
    (fun os started H enc _=>lifted os started H enc)

theorem card : Rows.FnRuledCardSaid :=
  Claim7.holds_tied_plain_at .later [] [.data,.data,.data,.sentinel,.sentinel] true (true,"c99bd44b53ead8106e75f2e13399971a6dd76a00ee3cd00e9166cd04a503d2c1") true
    proved (fun _ h=>by cases h) (by kernel_rfl) (fun _ h=>by cases h) fnRuled_row_tie rfl ⟨rfl,rfl⟩ (by kernel_rfl) rfl
    (fun f fn hf hfn=>by
      obtain rfl:f=5:=Option.some.inj ((show Tryz.prog.funcNamed "loop.example/g00036/laws.FnRuled" = some 5 by kernel_rfl).symm.trans hf) |>.symm
      obtain rfl:fn=Tryz.f5:=(Option.some.inj (Tryz.func5.symm.trans hfn)).symm
      exact⟨by kernel_rfl,fun j t ht=>by
        rw[Tryz.params5]at ht
        have h22:t=22:=by
          rcases j with _ | j
          · simpa using ht.symm
          · simp at ht
        subst h22
        exact (show Tryz.prog.wantsStandIn 22=false by kernel_rfl)⟩)
    (by kernel_rfl)
#print axioms card
end Go.Proofs.YtkhaafonmkjjmaaGreatDoor.fnRuled
