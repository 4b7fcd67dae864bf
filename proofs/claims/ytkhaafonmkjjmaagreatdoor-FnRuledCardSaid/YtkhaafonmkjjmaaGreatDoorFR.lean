import Derived.Test.YtkhaafonmkjjmaaGreatDoorFR2
set_option linter.all false
set_option maxRecDepth 20000
set_option maxHeartbeats 4000000
namespace Go.G36.FR
open Go Go.Proofs Go.G36.MT
theorem spec_l3Take_pb{rec_spec_l3Take:((List Aa)×Int×Int)→Option (A3×Int)}(Hrec_spec_l3Take:∀ (b0:Bool) {a0:(List Aa)} {a1:Int} {a2:Int} {R0:A3} {R1:Int},rec_spec_l3Take (a0,a1,a2)=some (R0,R1)→Bu Tryz.prog 78 [.im b0 (a0.map (Ab false)),.int .i64 a1,.int .i64 a2] (.tup [.agg (A7 false R0),.int .i64 R1]))(b0:Bool){a0:(List Aa)}{a1:Int}{a2:Int}{R0:A3}{R1:Int}(H:Cj rec_spec_l3Take a0 a1 a2=some (R0,R1)):Bu Tryz.prog 78 [.im b0 (a0.map (Ab false)),.int .i64 a1,.int .i64 a2] (.tup [.agg (A7 false R0),.int .i64 R1]):=by
 refine Ba.of_TN (n:=71) Tryz.func78 rfl rfl rfl rfl ?_
 refine au 10 ?_
 refine TL.st rfl rfl rfl (Bf (f:=Ab false) rfl rfl rfl) ?_
 refine au 8 ?_
 obtain⟨e1,h2,H⟩:=Ac H
 refine TL.gcq rfl rfl rfl (.bool _) rfl rfl (fun h=>B7 (f:=Ab false) rfl rfl C4 (gv h rfl) (gv h rfl) (Bq h2 h) rfl) ?_
 refine TL.gcq rfl rfl rfl (.bool _) rfl rfl (fun h=>Bb rfl rfl rfl Dj (by decide) (gv h rfl) rfl trivial) ?_
 refine TL.gcq rfl rfl rfl (.bool _) rfl rfl (fun h=>Bx rfl Dj (gv h rfl) (nb rfl) rfl) ?_
 refine au 5 ?_
 obtain⟨e3,h4,H⟩:=Ac H
 refine TL.gcq rfl rfl rfl (.bool _) rfl rfl (fun h=>B7 (f:=Ab false) rfl rfl C4 (gv h rfl) (gv h rfl) (Bq h4 h) rfl) ?_
 refine TL.gcq rfl rfl rfl (.bool _) rfl rfl (fun h=>Bb rfl rfl rfl Dj (by decide) (gv h rfl) rfl trivial) ?_
 refine TL.gcq rfl rfl rfl (.bool _) rfl rfl (fun h=>Bx rfl Dj (gv h rfl) (nb rfl) rfl) ?_
 refine au 3 ?_
 refine T.cH H ?_ ?_<;>intro H h
 ·refine au 7 ?_
  refine Aj ?_
  cases Ad H
  exact⟨trivial,_,(.cell _ _ _ _ _ _ _ _ _ _ rfl rfl tyS_80 (nb rfl) rfl (.tmp _ _ _ _ rfl .nil)),(.tupL (.cons _ _ _ _ (.aggL (.cons _ _ _ _ (.cl _ rfl) (.cons _ _ _ _ (.cl _ rfl) (.cons _ _ _ _ (.cl _ rfl) (.cons _ _ _ _ (.cl _ rfl) (.cons _ _ _ _ .nil .nil)))))) (.cons _ _ _ _ (.cl _ rfl) .nil)))⟩
 ·refine au 5 ?_
  obtain⟨e5,h6,H⟩:=Ac H
  refine TL.st rfl rfl rfl (B7 (f:=Ab false) rfl rfl C4 rfl rfl h6 rfl) ?_
  refine au 6 ?_
  refine T.conv (Cs.eqS (σ':=[.box [.int .i64 0,.str e0,.str e0,.int .i64 0,.nilS],.box ((Ab false e5) ++ [.nilS])]) rfl) ?_
  refine au 11 ?_
  refine T.conv (Cs.ownCell (p:=1) 4 5 rfl rfl (by decide)) ?_
  obtain⟨q19,h20,H⟩:=Ac H
  refine T.lq (fun s=>match s with | (b7,v8,v9)=>[(0,.im b0 (a0.map (Ab false))),(1,.int .i64 v8),(2,.int .i64 a2),(6,.bx 0 0),(8,.bx 1 0),(9,.int .i64 v9)]) (fun s=>match s with | (b7,v8,v9)=>[.box [.int .i64 0,.str e0,.str e0,.int .i64 0,.nilS],.box (k_spec_l3F 2 false b7),.arr .clo 5 (b7.kids_.map (Ek))]) (fun q ex fr σ=>match q with | .inl (b10,v11)=>ex = .exit 0∧fr = [(1,.int .i64 v11),(6,.bx 0 0),(8,.bx 1 0)]∧σ = [.box [.int .i64 0,.str e0,.str e0,.int .i64 0,.nilS],.box (k_spec_l3F 2 false b10),.arr .clo 5 (b10.kids_.map (Ek))] | .inr q12=>ex = .ret∧C5 Tryz.prog [.cell 6 80,.tmp 7] (fun v τ=>Told τ v (.tup [.agg (A7 false q12.1),.int .i64 q12.2])) .ret fr σ) h20 ?_ ?_
  ·rintro⟨b7,v8,v9⟩ y13 H
   refine au 9 ?_
   refine T.cH H ?_ ?_<;>intro H h
   ·refine au 9 ?_
    obtain⟨⟨r14,r15⟩,h16,H⟩:=Ac H
    refine TL.st rfl rfl rfl (Aq rfl en_78 rfl rfl (.cons _ _ _ _ (.imv _ _) (.cons _ _ _ _ (.cl _ rfl) (.cons _ _ _ _ (.cl _ rfl) .nil))) (Hrec_spec_l3Take b0 h16)) ?_
    refine au 13 ?_
    refine T.cH H ?_ ?_<;>intro H h
    ·refine au 6 ?_
     refine T.conv (Cs.eqS (σ':=[_,_,_,.box (A7 false r14)]) rfl) ?_
     refine T.ret ?_
     refine Aj (Av (Aj ?_))
     exact Pk.id (Aj ⟨.inr ((⟨(⟨0,e0,e0,0⟩:Aa),([]:List (List V))⟩:A3),(-1)),(Ad H).symm,rfl,⟨trivial,_,(.cell _ _ _ _ _ _ _ _ _ _ rfl rfl tyS_80 (nb rfl) rfl (.tmp _ _ _ _ rfl .nil)),(.tupL (.cons _ _ _ _ (.aggL (.cons _ _ _ _ (.cl _ rfl) (.cons _ _ _ _ (.cl _ rfl) (.cons _ _ _ _ (.cl _ rfl) (.cons _ _ _ _ (.cl _ rfl) (.cons _ _ _ _ .nil .nil)))))) (.cons _ _ _ _ (.cl _ rfl) .nil)))⟩⟩)
    ·refine au 6 ?_
     refine TL.st rfl rfl rfl (A8 (rows:=([(A7 false r14)]:List (List V)).map (Ek)) rfl rfl tyS_80 ⟨_,rfl,rfl⟩ (by decide) rfl rfl rfl rfl rfl rfl) ?_
     obtain⟨l17,h18,H⟩:=Ac H
     refine TL.st rfl rfl rfl (o_apM (f:=Ek) (xs:=b7.kids_) (ys:=([(A7 false r14)]:List (List V))) rfl rfl tyE_80 rfl rfl rfl rfl (by decide) rfl (mem1 rfl) h18) ?_
     refine TL.st rfl rfl rfl (Bb rfl rfl rfl tyS_78 (by decide) rfl rfl ⟨_,rfl,Nat.le_of_ble_eq_true rfl⟩) ?_
     refine TL.sn rfl rfl (Cm rfl tyS_78 rfl rfl rfl rfl (nb rfl) (Ci rfl rfl rfl)) ?_
     refine TL.nil ?_
     refine T.conv (Cs.eqS (σ':=[_,.box (k_spec_l3F 2 false (⟨b7.n_,l17⟩:A3)),.arr .clo 5 (l17.map (Ek)),.box (A7 false r14)]) rfl) ?_
     refine au 9 ?_
     exact Pk.of (Af ⟨((⟨b7.n_,l17⟩:A3),r15,(IntKind.i64.wrap (v9+1))),(Ad H).symm,rfl,rfl⟩)
   ·refine T.exit ?_
    refine Am ?_
    exact Pk.of (Am ⟨.inl (b7,v8),(Ad H).symm,rfl,rfl,rfl⟩)
  ·rcases q19 with ⟨b10,v11⟩ | q12
   ·rintro _ _ _ ⟨rfl,rfl,rfl⟩
    refine A6 ?_
    refine au 4 ?_
    refine TL.sn rfl rfl (Cm rfl tyS_80 rfl rfl rfl rfl (nb rfl) (sure_c rfl (sure_c rfl (sure_c rfl (sure_c rfl (Ci rfl rfl rfl)))))) ?_
    refine au 3 ?_
    cases Ad H
    exact⟨trivial,_,(.cell _ _ _ _ _ _ _ _ _ _ rfl rfl tyS_80 (nb rfl) rfl (.tmp _ _ _ _ rfl .nil)),(.tupL (.cons _ _ _ _ (.aggL (.cons _ _ _ _ (.cl _ rfl) (.cons _ _ _ _ (.cl _ rfl) (.cons _ _ _ _ (.cl _ rfl) (.cons _ _ _ _ (.cl _ rfl) (.cons _ _ _ _ (.own rfl (by decide) rfl) .nil)))))) (.cons _ _ _ _ (.cl _ rfl) .nil)))⟩
   ·rintro _ fr1 σ1 ⟨rfl,hr⟩
    refine Av (Aj ?_)
    cases Ad H
    exact hr
theorem spec_l3Take_p(b0:Bool){a0:(List Aa)}{a1:Int}{a2:Int}{R0:A3}{R1:Int}(H:spec_l3Take a0 a1 a2=some (R0,R1)):Bu Tryz.prog 78 [.im b0 (a0.map (Ab false)),.int .i64 a1,.int .i64 a2] (.tup [.agg (A7 false R0),.int .i64 R1]) :=
 fixO_ind (fun x r=>match x,r with | (a0,a1,a2),(R0,R1)=>∀ (b0:Bool),Bu Tryz.prog 78 [.im b0 (a0.map (Ab false)),.int .i64 a1,.int .i64 a2] (.tup [.agg (A7 false R0),.int .i64 R1])) (fun rec_spec_l3Take Hrec x r h=>match x,r,h with | (a0,a1,a2),(R0,R1),h=>fun b0=>spec_l3Take_pb (fun b0 {a0} {a1} {a2} {R0} {R1} h=>Hrec (a0,a1,a2) (R0,R1) h b0) b0 h) H b0
noncomputable def spec_l1Tokens_j1(l6:List Int)(v7:Int):Option ((List Int×Int)⊕(List Int⊕((List Int)×Bool))) :=
  some (.inl (l6,(IntKind.i64.wrap (v7+1))))
noncomputable def spec_l1Tokens_l1(a0:ByteArray):(List Int×Int)→Option ((List Int×Int)⊕(List Int⊕((List Int)×Bool))):=fun s=>match s with
  | (l1,v2)=>cond (decide (v2<(a0.size:Int))) ((Cr a0 v2).bind fun b8=>cond (b8==42) ((app l1 ([256]:List Int)).bind fun l10=>spec_l1Tokens_j1 l10 v2) (cond (b8==92) ((gdO (!((IntKind.i64.wrap (v2+1))==(a0.size:Int))) (Cr a0 (IntKind.i64.wrap (v2+1)))).bind fun b12=>(gdO ((!((IntKind.i64.wrap (v2+1))==(a0.size:Int)))&&(b12 != 42)) (Cr a0 (IntKind.i64.wrap (v2+1)))).bind fun b14=>cond (((IntKind.i64.wrap (v2+1))==(a0.size:Int))||((b12 != 42)&&(b14 != 92))) (some (.inr (.inr (([]:List Int),false)))) ((Cr a0 (IntKind.i64.wrap (v2+1))).bind fun b16=>(app l1 ([(IntKind.i64.wrap b16)]:List Int)).bind fun l18=>spec_l1Tokens_j1 l18 (IntKind.i64.wrap (v2+1)))) ((Cr a0 v2).bind fun b20=>(app l1 ([(IntKind.i64.wrap b20)]:List Int)).bind fun l22=>spec_l1Tokens_j1 l22 v2))) (some (.inr (.inl l1)))
noncomputable def spec_l1Tokens(a0:ByteArray):Option ((List Int)×Bool) :=
  (loopO (spec_l1Tokens_l1 a0) (([]:List Int),0)).bind fun q24=>(match q24 with | .inl l3=>some (l3,true) | .inr q4=>some q4)
theorem spec_l1Tokens_p {a0:ByteArray} {R0:(List Int)} {R1:Bool} (H:spec_l1Tokens a0=some (R0,R1)):Bu Tryz.prog 128 [.str a0] (.tup [.im false (R0.map (c_int .i64)),.bool R1]):=by
 refine Ba.of_TN (n:=55) Tryz.func128 rfl rfl rfl rfl ?_
 refine au 15 ?_
 refine T.conv (Cs.own (t:=4) 1 rfl (by decide)) ?_
 obtain⟨q24,h25,H⟩:=Ac H
 refine T.lq (fun s=>match s with | (l1,v2)=>[(0,.str a0),(4,.hd 0 (l1.map (c_int .i64)).length 0 (l1.map (c_int .i64)).length),(5,.int .i64 v2)]) (fun s=>match s with | (l1,v2)=>[.arr .clo 1 (l1.map (c_int .i64))]) (fun q ex fr σ=>match q with | .inl l3=>ex = .exit 0∧fr = [(4,.hd 0 (l3.map (c_int .i64)).length 0 (l3.map (c_int .i64)).length)]∧σ = [.arr .clo 1 (l3.map (c_int .i64))] | .inr q4=>ex = .ret∧C5 Tryz.prog [.tmp 2,.tmp 3] (fun v τ=>Told τ v (.tup [.im false (q4.1.map (c_int .i64)),.bool q4.2])) .ret fr σ) h25 ?_ ?_
 ·rintro⟨l1,v2⟩ y5 H
  refine au 8 ?_
  refine T.cH H ?_ ?_<;>intro H h
  ·refine T.skip ?_
   refine T.cut (fun fr' σ'=>∃ (l6:List Int) (v7:Int),fr' = [(0,.str a0),(4,.hd 0 (l6.map (c_int .i64)).length 0 (l6.map (c_int .i64)).length),(5,.int .i64 v7)]∧σ' = [.arr .clo 1 (l6.map (c_int .i64))]∧spec_l1Tokens_j1 l6 v7=some y5) (T.pk ?_) ?_
   ·skip
    refine au 5 ?_
    obtain⟨b8,h9,H⟩:=Ac H
    refine TL.st rfl rfl rfl (Ct rfl rfl rfl rfl h9) ?_
    refine au 7 ?_
    refine T.cH H ?_ ?_<;>intro H h
    ·refine au 2 ?_
     refine TL.st rfl rfl rfl (A8 (rows:=([256]:List Int).map (c_int .i64)) rfl rfl Dj ⟨_,rfl,rfl⟩ (by decide) rfl rfl rfl rfl rfl rfl) ?_
     obtain⟨l10,h11,H⟩:=Ac H
     refine TL.st rfl rfl rfl (Ee (f:=c_int .i64) (xs:=l1) (ys:=([256]:List Int)) rfl rfl tyE_3 rfl rfl rfl rfl (by decide) rfl (fun _=>rfl) h11) ?_
     refine au 2 ?_
     refine Bh (Bh ?_)
     exact Pk.of (Af ⟨l10,v2,rfl,rfl,H⟩)
    ·refine au 5 ?_
     refine T.cH H ?_ ?_<;>intro H h
     ·refine au 16 ?_
      obtain⟨b12,h13,H⟩:=Ac H
      refine TL.gcq rfl rfl rfl (.bool _) rfl rfl (fun h=>Ct rfl rfl (gv h rfl) (gv h rfl) (Bq h13 h)) ?_
      refine TL.gcq rfl rfl rfl (.bool _) rfl rfl (fun h=>B3 rfl (gv h rfl) rfl rfl) ?_
      refine TL.gcq rfl rfl rfl (.bool _) rfl rfl (fun h=>Bp rfl (gv h rfl)) ?_
      refine TL.gcq rfl rfl rfl (.gd _ _) rfl rfl (fun h=>Bp rfl rfl) ?_
      refine TL.gcq rfl rfl rfl (.gd _ _) rfl rfl (fun h=>Bp rfl rfl) ?_
      obtain⟨b14,h15,H⟩:=Ac H
      refine TL.gcq rfl rfl rfl (.gd _ _) rfl rfl (fun h=>Ct rfl rfl (gv h rfl) (gv h rfl) (Bq h15 h)) ?_
      refine TL.gcq rfl rfl rfl (.gd _ _) rfl rfl (fun h=>B3 rfl (gv h rfl) rfl rfl) ?_
      refine TL.gcq rfl rfl rfl (.bool _) rfl rfl (fun h=>Eq rfl (gv h rfl) rfl (fun k=>Ed (andi h k)) rfl) ?_
      refine au 2 ?_
      refine T.cH H ?_ ?_<;>intro H h
      ·refine au 6 ?_
       refine Aj (Av (Av ?_))
       refine Pk.id (Aj ?_)
       exact Pk.id (Aj ⟨.inr (([]:List Int),false),(Ad H).symm,rfl,⟨trivial,_,(.tmp _ _ _ _ rfl (.tmp _ _ _ _ rfl .nil)),(.tupL (.cons _ _ _ _ .nil (.cons _ _ _ _ (.cl _ rfl) .nil)))⟩⟩)
      ·refine au 5 ?_
       obtain⟨b16,h17,H⟩:=Ac H
       refine TL.st rfl rfl rfl (Ct rfl rfl rfl rfl h17) ?_
       refine TL.st rfl rfl rfl (o_conv rfl rfl ⟨_,rfl⟩ rfl) ?_
       refine TL.st rfl rfl rfl (A8 (rows:=([(IntKind.i64.wrap b16)]:List Int).map (c_int .i64)) rfl rfl Dj ⟨_,rfl,rfl⟩ (by decide) rfl rfl rfl rfl rfl rfl) ?_
       obtain⟨l18,h19,H⟩:=Ac H
       refine TL.st rfl rfl rfl (Ee (f:=c_int .i64) (xs:=l1) (ys:=([(IntKind.i64.wrap b16)]:List Int)) rfl rfl tyE_3 rfl rfl rfl rfl (by decide) rfl (fun _=>rfl) h19) ?_
       refine au 2 ?_
       refine Bh (Bh ?_)
       exact Pk.of (Af ⟨l18,(IntKind.i64.wrap (v2+1)),rfl,rfl,H⟩)
     ·refine au 4 ?_
      obtain⟨b20,h21,H⟩:=Ac H
      refine TL.st rfl rfl rfl (Ct rfl rfl rfl rfl h21) ?_
      refine TL.st rfl rfl rfl (o_conv rfl rfl ⟨_,rfl⟩ rfl) ?_
      refine TL.st rfl rfl rfl (A8 (rows:=([(IntKind.i64.wrap b20)]:List Int).map (c_int .i64)) rfl rfl Dj ⟨_,rfl,rfl⟩ (by decide) rfl rfl rfl rfl rfl rfl) ?_
      obtain⟨l22,h23,H⟩:=Ac H
      refine TL.st rfl rfl rfl (Ee (f:=c_int .i64) (xs:=l1) (ys:=([(IntKind.i64.wrap b20)]:List Int)) rfl rfl tyE_3 rfl rfl rfl rfl (by decide) rfl (fun _=>rfl) h23) ?_
      refine au 2 ?_
      refine Bh (Bh ?_)
      exact Pk.of (Af ⟨l22,v2,rfl,rfl,H⟩)
   ·rintro _ _ ⟨l6,v7,rfl,rfl,H⟩
    refine au 5 ?_
    exact Pk.of (Af ⟨(l6,(IntKind.i64.wrap (v7+1))),(Ad H).symm,rfl,rfl⟩)
  ·refine T.exit ?_
   refine Am ?_
   exact Pk.of (Am ⟨.inl l1,(Ad H).symm,rfl,rfl,rfl⟩)
 ·rcases q24 with l3 | q4
  ·rintro _ _ _ ⟨rfl,rfl,rfl⟩
   refine A6 ?_
   refine au 7 ?_
   cases Ad H
   exact⟨trivial,_,(.tmp _ _ _ _ rfl (.tmp _ _ _ _ rfl .nil)),(.tupL (.cons _ _ _ _ (.own rfl (by decide) rfl) (.cons _ _ _ _ (.cl _ rfl) .nil)))⟩
  ·rintro _ fr1 σ1 ⟨rfl,hr⟩
   refine Av (Aj ?_)
   cases Ad H
   exact hr
theorem en_128:En Tryz.prog 128:=.of Tryz.func128 rfl rfl
theorem en_79:En Tryz.prog 79:=.of Tryz.func79 rfl rfl
noncomputable def spec_l3Right_l1(a0:A3)(rec_spec_l3Right:A3→Option Bool):(Bool×Int)→Option ((Bool×Int)⊕Bool):=fun s=>match s with
  | (v2,v3)=>cond (decide (v3<(a0.kids_.length:Int))) ((idx a0.kids_ v3).bind fun w7=>(dec_T_spec_l3F w7).bind fun e6=>(gdO v2 (rec_spec_l3Right e6)).bind fun r10=>some (.inl ((v2&&r10),(IntKind.i64.wrap (v3+1))))) (some (.inr v2))
noncomputable def Bz(a0:A3)(rec_spec_l3Right:A3→Option Bool)(v1:Bool):Option Bool :=
  (loopO (spec_l3Right_l1 a0 rec_spec_l3Right) (v1,0)).bind fun v4=>(match v4 with | v4=>some v4)
noncomputable def B9(a0:A3)(rec_spec_l3Right:A3→Option Bool)(v17:Bool):Option Bool :=
  cond v17 ((Cb a0.n_.Attr_).bind fun r18=>(gdO ((r18&&decide ((a0.n_.Text_.size:Int)≥1))&&decide ((a0.n_.Text_.size:Int)≤200)) (spec_l1Printed a0.n_.Text_)).bind fun r20=>(spec_l1Tokens a0.n_.Text_).bind fun q=>(match q with | (r22,r23)=>cond ((a0.n_.Kind_==8)&&(!r23)) (Bz a0 rec_spec_l3Right false) (Bz a0 rec_spec_l3Right ((((r18&&decide ((a0.n_.Text_.size:Int)≥1))&&decide ((a0.n_.Text_.size:Int)≤200))&&r20)&&((a0.kids_.length:Int)==0))))) (Bz a0 rec_spec_l3Right false)
noncomputable def spec_l3Right_j2(a0:A3)(rec_spec_l3Right:A3→Option Bool)(v14:Bool):Option Bool :=
  cond v14 (Bz a0 rec_spec_l3Right ((a0.n_.Attr_.toList==e0.toList)&&(a0.n_.Text_.toList==e0.toList))) (cond (a0.n_.Kind_==3) (Bz a0 rec_spec_l3Right (((a0.n_.Attr_.toList==e0.toList)&&(a0.n_.Text_.toList==e0.toList))&&((a0.kids_.length:Int)==1))) (cond (a0.n_.Kind_==7) ((Cb a0.n_.Attr_).bind fun r15=>Bz a0 rec_spec_l3Right ((r15&&(a0.n_.Text_.toList==e0.toList))&&((a0.kids_.length:Int)==0))) (cond (a0.n_.Kind_==4) (B9 a0 rec_spec_l3Right (a0.n_.Kind_==4)) (cond (a0.n_.Kind_==5) (B9 a0 rec_spec_l3Right (a0.n_.Kind_==5)) (cond (a0.n_.Kind_==6) (B9 a0 rec_spec_l3Right (a0.n_.Kind_==6)) (B9 a0 rec_spec_l3Right (a0.n_.Kind_==8)))))))
noncomputable def Ce(rec_spec_l3Right:A3→Option Bool)(a0:A3):Option Bool :=
  cond (a0.n_.Kind_==1) (spec_l3Right_j2 a0 rec_spec_l3Right (a0.n_.Kind_==1)) (spec_l3Right_j2 a0 rec_spec_l3Right (a0.n_.Kind_==2))
noncomputable def spec_l3Right(a0:A3):Option Bool:=fixO (fun rec_spec_l3Right x=>match x with | a0=>Ce rec_spec_l3Right a0) a0
theorem spec_l3Right_pb {rec_spec_l3Right :         A3 → Option Bool} (Hrec_spec_l3Right : ∀ (b0 : Bool) {a0 :         A3} {R0 : Bool}, rec_spec_l3Right a0 = some R0 →   Bu Tryz.prog 79 [.agg (          A7 b0 a0)] (.bool R0)) (b0 : Bool) {a0 :         A3} {R0 : Bool} (H :             Ce rec_spec_l3Right a0 = some R0) :   Bu Tryz.prog 79 [.agg (          A7 b0 a0)] (.bool R0) := by
 refine Ba.of_TN (n:=112) Tryz.func79 rfl rfl rfl rfl ?_
 refine au 13 ?_
 refine T.conv (Cs.eqS (σ':=[.box (A7 b0 a0),.box (Ab b0 a0.n_)]) rfl) ?_
 refine au 3 ?_
 refine TL.st rfl rfl rfl (Bf (f:=Ek) rfl rfl rfl) ?_
 refine au 6 ?_
 refine T.cut (fun fr' σ'=>∃ (v1:Bool),fr' = [(1,.bx 0 0),(5,.bool v1)]∧σ' = [.box (A7 b0 a0),.box (Ab b0 a0.n_)]∧Bz a0 rec_spec_l3Right v1=some R0) (T.pk ?_) ?_
 ·skip
  refine au 6 ?_
  refine T.cut (fun fr' σ'=>∃ (v14:Bool),fr' = [(1,.bx 0 0),(3,.bx 1 0),(4,.int .i64 (a0.kids_.length:Int)),(5,.bool false),(16,.int .i64 a0.n_.Kind_),(17,.bool v14)]∧σ' = [.box (A7 b0 a0),.box (Ab b0 a0.n_)]∧spec_l3Right_j2 a0 rec_spec_l3Right v14=some R0) (T.pk ?_) ?_
  ·skip
   refine au 5 ?_
   refine T.cH H ?_ ?_<;>intro H h
   ·refine T.skip ?_
    exact Pk.of (Af ⟨(a0.n_.Kind_==1),rfl,rfl,H⟩)
   ·refine au 4 ?_
    exact Pk.of (Af ⟨(a0.n_.Kind_==2),rfl,rfl,H⟩)
  ·rintro _ _ ⟨v14, rfl, rfl, H⟩
   refine T.cH H ?_ ?_<;>intro H h
   ·refine au 7 ?_
    refine TL.gcq rfl rfl rfl (.bool _) rfl rfl (fun h=>E4 rfl (gv h rfl) rfl rfl) ?_
    refine au 3 ?_
    refine Bh ?_
    exact Pk.of (Af ⟨((a0.n_.Attr_.toList==e0.toList)&&(a0.n_.Text_.toList==e0.toList)),rfl,rfl,H⟩)
   ·refine au 5 ?_
    refine T.cH H ?_ ?_<;>intro H h
    ·refine au 7 ?_
     refine TL.gcq rfl rfl rfl (.bool _) rfl rfl (fun h=>E4 rfl (gv h rfl) rfl rfl) ?_
     refine au 7 ?_
     refine Bh ?_
     exact Pk.of (Af ⟨(((a0.n_.Attr_.toList==e0.toList)&&(a0.n_.Text_.toList==e0.toList))&&((a0.kids_.length:Int)==1)),rfl,rfl,H⟩)
    ·refine au 5 ?_
     refine T.cH H ?_ ?_<;>intro H h
     ·refine au 3 ?_
      obtain⟨r15,h16,H⟩:=Ac H
      refine TL.st rfl rfl rfl (Aq rfl en_62 rfl rfl (.cons _ _ _ _ (.cl _ rfl) .nil) (spec_GoodName_p  h16)) ?_
      refine au 3 ?_
      refine TL.gcq rfl rfl rfl (.bool _) rfl rfl (fun h=>E4 rfl (gv h rfl) rfl rfl) ?_
      refine au 7 ?_
      refine Bh ?_
      exact Pk.of (Af ⟨((r15&&(a0.n_.Text_.toList==e0.toList))&&((a0.kids_.length:Int)==0)),rfl,rfl,H⟩)
     ·refine T.cut (fun fr' σ'=>∃ (v17:Bool),fr' = [(1,.bx 0 0),(3,.bx 1 0),(4,.int .i64 (a0.kids_.length:Int)),(5,.bool false),(56,.bool v17)]∧σ' = [.box (A7 b0 a0),.box (Ab b0 a0.n_)]∧B9 a0 rec_spec_l3Right v17=some R0) (T.pk ?_) ?_
      ·skip
       refine au 5 ?_
       refine T.cH H ?_ ?_<;>intro H h
       ·refine T.skip ?_
        exact Pk.of (Af ⟨(a0.n_.Kind_==4),rfl,rfl,H⟩)
       ·refine au 5 ?_
        refine T.cH H ?_ ?_<;>intro H h
        ·refine T.skip ?_
         exact Pk.of (Af ⟨(a0.n_.Kind_==5),rfl,rfl,H⟩)
        ·refine au 5 ?_
         refine T.cH H ?_ ?_<;>intro H h
         ·refine T.skip ?_
          exact Pk.of (Af ⟨(a0.n_.Kind_==6),rfl,rfl,H⟩)
         ·refine au 4 ?_
          exact Pk.of (Af ⟨(a0.n_.Kind_==8),rfl,rfl,H⟩)
      ·rintro _ _ ⟨v17,rfl,rfl,H⟩
       refine T.cH H ?_ ?_<;>intro H h
       ·refine au 4 ?_
        obtain⟨r18,h19,H⟩:=Ac H
        refine TL.st rfl rfl rfl (Aq rfl en_62 rfl rfl (.cons _ _ _ _ (.cl _ rfl) .nil) (spec_GoodName_p  h19)) ?_
        refine au 3 ?_
        refine TL.gcq rfl rfl rfl (.bool _) rfl rfl (fun h=>Fb rfl rfl (gv h rfl)) ?_
        refine au 5 ?_
        refine TL.gcq rfl rfl rfl (.bool _) rfl rfl (fun h=>Fb rfl rfl (gv h rfl)) ?_
        refine au 5 ?_
        obtain⟨r20,h21,H⟩:=Ac H
        refine TL.gcq rfl rfl rfl (.bool _) rfl rfl (fun h=>Aq rfl en_82 rfl (Dc (gv h rfl)) (.cons _ _ _ _ (.cl _ rfl) .nil) (spec_l1Printed_p  (Bq h21 h))) ?_
        refine au 11 ?_
        obtain⟨⟨r22,r23⟩,h24,H⟩:=Ac H
        refine TL.st rfl rfl rfl (Aq rfl en_128 rfl rfl (.cons _ _ _ _ (.cl _ rfl) .nil) (spec_l1Tokens_p  h24)) ?_
        refine au 16 ?_
        refine T.cH H ?_ ?_<;>intro H h
        ·refine au 3 ?_
         refine Bh ?_
         exact Pk.of (Af ⟨false,rfl,rfl,H⟩)
        ·refine T.skip ?_
         refine Bh ?_
         exact Pk.of (Af ⟨((((r18&&decide ((a0.n_.Text_.size:Int)≥1))&&decide ((a0.n_.Text_.size:Int)≤200))&&r20)&&((a0.kids_.length:Int)==0)),rfl,rfl,H⟩)
       ·refine T.skip ?_
        refine Bh ?_
        exact Pk.of (Af ⟨false,rfl,rfl,H⟩)
 ·rintro _ _ ⟨v1,rfl,rfl,H⟩
  refine au 5 ?_
  refine TL.st rfl rfl rfl (Bf (f:=Ek) rfl rfl rfl) ?_
  refine au 3 ?_
  obtain⟨v4,h13,H⟩:=Ac H
  refine T.lq (fun s=>match s with | (v2,v3)=>[(5,.bool v2),(99,.im b0 (a0.kids_.map (Ek))),(100,.int .i64 (a0.kids_.length:Int)),(101,.int .i64 v3)]) (fun s=>match s with | (v2,v3)=>[.box (A7 b0 a0),.box (Ab b0 a0.n_)]) (fun q ex fr σ=>match q with | v4=>ex = .exit 1∧fr = [(5,.bool v4)]∧σ = [.box (A7 b0 a0),.box (Ab b0 a0.n_)]) h13 ?_ ?_
  ·rintro⟨v2,v3⟩ y5 H
   refine au 5 ?_
   refine T.cH H ?_ ?_<;>intro H h
   ·refine au 5 ?_
    obtain⟨w7,h8,H⟩:=Ac H
    obtain⟨e6,h9,H⟩:=Ac H
    refine TL.st rfl rfl rfl (o_ixR (f:=Ek) rfl rfl tyS_80 rfl rfl h8 (dec_T_spec_l3F_s h9) rfl) ?_
    refine au 7 ?_
    refine TL.gcq rfl rfl rfl (.bool _) rfl rfl (fun h=>Bs rfl tyS_80 rfl rfl (nb rfl) rfl) ?_
    obtain⟨r10,h11,H⟩:=Ac H
    refine TL.gcq rfl rfl rfl (.bool _) rfl rfl (fun h=>Aq rfl en_79 rfl (Dc (gv h rfl)) (.cons _ _ _ _ (.cl _ rfl) .nil) (Hrec_spec_l3Right false (Bq h11 h))) ?_
    refine au 7 ?_
    exact Pk.of (Af ⟨((v2&&r10),(IntKind.i64.wrap (v3+1))),(Ad H).symm,rfl,rfl⟩)
   ·refine T.exit ?_
    refine Am ?_
    exact Pk.of (Am ⟨v2,(Ad H).symm,rfl,rfl,rfl⟩)
  ·rintro _ _ _ ⟨rfl,rfl,rfl⟩
   refine A6 ?_
   refine au 6 ?_
   cases Ad H
   exact⟨trivial,_,(.tmp _ _ _ _ rfl .nil),(.cl _ rfl)⟩
theorem spec_l3Right_p(b0:Bool){a0:A3}{R0:Bool}(H:spec_l3Right a0=some R0):Bu Tryz.prog 79 [.agg (A7 b0 a0)] (.bool R0) :=
 fixO_ind (fun x r=>match x,r with | a0,R0=>∀ (b0:Bool),Bu Tryz.prog 79 [.agg (A7 b0 a0)] (.bool R0)) (fun rec_spec_l3Right Hrec x r h=>match x,r,h with | a0,R0,h=>fun b0=>spec_l3Right_pb (fun b0 {a0} {R0} h=>Hrec a0 R0 h b0) b0 h) H b0
noncomputable def spec_l3Tree(a0:(List Aa)):Option (A3×Bool) :=
  cond (((a0.length:Int)==0)||decide ((a0.length:Int) > 60)) (some ((⟨(⟨0,e0,e0,0⟩:Aa),([]:List (List V))⟩:A3),false)) ((spec_l3Take a0 0 1).bind fun q=>(match q with | (r1,r2)=>(gdO (r2==(a0.length:Int)) (spec_l3Right r1)).bind fun r4=>some (r1,((r2==(a0.length:Int))&&r4))))
theorem spec_l3Tree_p(b0:Bool){a0:(List Aa)}{R0:A3}{R1:Bool}(H:spec_l3Tree a0=some (R0,R1)):Bu Tryz.prog 34 [.im b0 (a0.map (Ab false))] (.tup [.agg (A7 false R0),.bool R1]):=by
 refine Ba.of_TN (n:=29) Tryz.func34 rfl rfl rfl rfl ?_
 refine au 9 ?_
 refine TL.st rfl rfl rfl (Bf (f:=Ab false) rfl rfl rfl) ?_
 refine au 3 ?_
 refine TL.gcq rfl rfl rfl (.bool _) rfl rfl (fun h=>Bf (f:=Ab false) rfl rfl (gv h rfl)) ?_
 refine au 3 ?_
 refine T.cH H ?_ ?_<;>intro H h
 ·refine au 7 ?_
  refine Aj ?_
  cases Ad H
  exact⟨trivial,_,(.cell _ _ _ _ _ _ _ _ _ _ rfl rfl tyS_80 (nb rfl) rfl (.tmp _ _ _ _ rfl .nil)),(.tupL (.cons _ _ _ _ (.aggL (.cons _ _ _ _ (.cl _ rfl) (.cons _ _ _ _ (.cl _ rfl) (.cons _ _ _ _ (.cl _ rfl) (.cons _ _ _ _ (.cl _ rfl) (.cons _ _ _ _ .nil .nil)))))) (.cons _ _ _ _ (.cl _ rfl) .nil)))⟩
 ·refine au 4 ?_
  obtain⟨⟨r1,r2⟩,h3,H⟩:=Ac H
  refine TL.st rfl rfl rfl (Aq rfl en_78 rfl rfl (.cons _ _ _ _ (.imv _ _) (.cons _ _ _ _ (.cl _ rfl) (.cons _ _ _ _ (.cl _ rfl) .nil))) (spec_l3Take_p b0 h3)) ?_
  refine au 8 ?_
  refine T.conv (Cs.eqS (σ':=[.box [.int .i64 0,.str e0,.str e0,.int .i64 0,.nilS],.box (A7 false r1)]) rfl) ?_
  refine T.drawn rfl ?_
  refine ad 3 ?_
  refine TD.qs rfl rfl (fun _=>Bf (f:=Ab false) rfl rfl rfl) ?_
  refine ad 2 ?_
  refine TD.cr rfl rfl rfl (.bool _) rfl (fun h=>Bs rfl tyS_80 rfl rfl (nb rfl) rfl) ?_
  obtain⟨r4,h5,H⟩:=Ac H
  refine TD.cq rfl rfl rfl (.bool _) rfl (fun h _=>Aq rfl en_79 rfl (Dc (gv h rfl)) (.cons _ _ _ _ (.cl _ rfl) .nil) (spec_l3Right_p false (Bq h5 h))) ?_
  refine ad 3 ?_
  refine TD.nil ⟨rfl,?_⟩
  refine T.ret ?_
  cases Ad H
  exact⟨trivial,_,(.cell _ _ _ _ _ _ _ _ _ _ rfl rfl tyS_80 (nb rfl) rfl (.tmp _ _ _ _ rfl .nil)),(.tupL (.cons _ _ _ _ (.cl _ rfl) (.cons _ _ _ _ (.cl _ rfl) .nil)))⟩
theorem en_34:En Tryz.prog 34:=.of Tryz.func34 rfl rfl
noncomputable def spec_GoodFilter(a0:(List Aa)):Option Bool :=
  (spec_l3Tree a0).bind fun q=>(match q with | (r1,r2)=>some r2)
theorem spec_GoodFilter_p(b0:Bool){a0:(List Aa)}{R0:Bool}(H:spec_GoodFilter a0=some R0):Bu Tryz.prog 10 [.im b0 (a0.map (Ab false))] (.bool R0):=by
 refine Ba.of_TN (n:=11) Tryz.func10 rfl rfl rfl rfl ?_
 refine au 7 ?_
 obtain⟨⟨r1,r2⟩,h3,H⟩:=Ac H
 refine TL.st rfl rfl rfl (Aq rfl en_34 rfl rfl (.cons _ _ _ _ (.imv _ _) .nil) (spec_l3Tree_p b0 h3)) ?_
 refine au 13 ?_
 cases Ad H
 exact⟨trivial,_,(.tmp _ _ _ _ rfl .nil),(.cl _ rfl)⟩
theorem en_10:En Tryz.prog 10:=.of Tryz.func10 rfl rfl
noncomputable def spec_l3Values_l1(a0:Ay)(a1:ByteArray):Int→Option (Int⊕(Unit⊕(List ByteArray))):=fun s=>match s with
  | v1=>cond (decide (v1<(a0.Attrs_.length:Int))) ((idx a0.Attrs_ v1).bind fun e4=>cond (e4.Name_.toList==a1.toList) (some (.inr (.inr e4.Values_))) (some (.inl (IntKind.i64.wrap (v1+1))))) (some (.inr (.inl ())))
noncomputable def spec_l3Values(a0:Ay)(a1:ByteArray):Option (List ByteArray) :=
  (loopO (spec_l3Values_l1 a0 a1) 0).bind fun q6=>(match q6 with | .inl _=>some ([]:List ByteArray) | .inr q2=>some q2)
theorem spec_l3Values_p(b0:Bool){a0:Ay}{a1:ByteArray}{R0:(List ByteArray)}(H:spec_l3Values a0 a1=some R0):Bu Tryz.prog 50 [.agg (An b0 a0),.str a1] (.im false (R0.map (Aw))):=by
 refine Ba.of_TN (n:=21) Tryz.func50 rfl rfl rfl rfl ?_
 refine au 10 ?_
 refine TL.st rfl rfl rfl (Bf (f:=Bj false) rfl rfl rfl) ?_
 refine au 3 ?_
 obtain⟨q6,h7,H⟩:=Ac H
 refine T.lq (fun s=>match s with | v1=>[(1,.str a1),(8,.im b0 (a0.Attrs_.map (Bj false))),(9,.int .i64 (a0.Attrs_.length:Int)),(10,.int .i64 v1)]) (fun s=>match s with | v1=>[.box (An b0 a0)]) (fun q ex fr σ=>match q with | .inl _=>ex = .exit 0∧fr = []∧σ = [.box (An b0 a0)] | .inr q2=>ex = .ret∧C5 Tryz.prog [.tmp 4] (fun v τ=>Told τ v (.im false (q2.map (Aw)))) .ret fr σ) h7 ?_ ?_
 ·rintro v1 y3 H
  refine au 5 ?_
  refine T.cH H ?_ ?_<;>intro H h
  ·refine au 5 ?_
   obtain⟨e4,h5,H⟩:=Ac H
   refine TL.st rfl rfl rfl (B7 (f:=Bj false) rfl rfl Ez rfl rfl h5 rfl) ?_
   refine au 11 ?_
   refine T.cH H ?_ ?_<;>intro H h
   ·refine au 7 ?_
    refine Av (Aj ?_)
    exact Pk.id (Aj ⟨.inr e4.Values_,(Ad H).symm,rfl,⟨trivial,_,(.tmp _ _ _ _ rfl .nil),(.cl _ rfl)⟩⟩)
   ·refine au 5 ?_
    exact Pk.of (Af ⟨(IntKind.i64.wrap (v1+1)),(Ad H).symm,rfl,rfl⟩)
  ·refine T.exit ?_
   refine Am ?_
   exact Pk.of (Am ⟨.inl (),(Ad H).symm,rfl,rfl,rfl⟩)
 ·rcases q6 with ⟨⟩ | q2
  ·rintro _ _ _ ⟨rfl,rfl,rfl⟩
   refine A6 ?_
   refine au 5 ?_
   cases Ad H
   exact⟨trivial,_,(.tmp _ _ _ _ rfl .nil),.nil⟩
  ·rintro _ fr1 σ1 ⟨rfl,hr⟩
   refine Av (Aj ?_)
   cases Ad H
   exact hr
theorem en_50:En Tryz.prog 50:=.of Tryz.func50 rfl rfl
theorem en_37:En Tryz.prog 37:=.of Tryz.func37 rfl rfl
noncomputable def spec_l3Said(a0:Bool):Option Int :=
  cond a0 (some 1) (some 0)
theorem spec_l3Said_p {a0:Bool} {R0:Int} (H:spec_l3Said a0=some R0):Bu Tryz.prog 83 [.bool a0] (.int .i64 R0):=by
 refine Ba.of_TN (n:=4) Tryz.func83 rfl rfl rfl rfl ?_
 refine au 9 ?_
 refine T.cH H ?_ ?_<;>intro H h
 ·refine au 5 ?_
  refine Aj ?_
  cases Ad H
  exact⟨trivial,_,(.tmp _ _ _ _ rfl .nil),(.cl _ rfl)⟩
 ·refine au 6 ?_
  cases Ad H
  exact⟨trivial,_,(.tmp _ _ _ _ rfl .nil),(.cl _ rfl)⟩
theorem en_83:En Tryz.prog 83:=.of Tryz.func83 rfl rfl
theorem en_85:En Tryz.prog 85:=.of Tryz.func85 rfl rfl
noncomputable def spec_Like_l3(a0:ByteArray)(r1:(List Int))(l11:List Bool)(v12:Int):(List Bool×Int)→Option ((List Bool×Int)⊕List Bool):=fun s=>match s with
  | (l19,v20)=>cond (decide (v20<(r1.length:Int))) ((idx r1 v20).bind fun e23=>cond (e23==256) ((idx l11 (IntKind.i64.wrap (v20+1))).bind fun e25=>(gdO (!e25) (idx l19 v20)).bind fun e27=>(idx l19 (IntKind.i64.wrap (v20+1))).bind fun e29=>some (.inl ((l19.set (Int.toNat (IntKind.i64.wrap (v20+1))) (e25||e27)),(IntKind.i64.wrap (v20+1))))) ((idx l11 v20).bind fun e31=>(gdO e31 (Cr a0 v12)).bind fun b33=>(idx l19 (IntKind.i64.wrap (v20+1))).bind fun e35=>some (.inl ((l19.set (Int.toNat (IntKind.i64.wrap (v20+1))) (e31&&(e23==(IntKind.i64.wrap b33)))),(IntKind.i64.wrap (v20+1)))))) (some (.inr l19))
noncomputable def spec_Like_l2(a0:ByteArray)(r1:(List Int)):(List Bool×Int)→Option ((List Bool×Int)⊕List Bool):=fun s=>match s with
  | (l11,v12)=>cond (decide (v12<(a0.size:Int))) ((mk false (IntKind.i64.wrap ((r1.length:Int)+1))).bind fun l17=>(loopO (spec_Like_l3 a0 r1 l11 v12) (l17,0)).bind fun l21=>(match l21 with | l21=>some (.inl (l21,(IntKind.i64.wrap (v12+1)))))) (some (.inr l11))
noncomputable def spec_Like_l1(r1:(List Int)):(List Bool×Int)→Option ((List Bool×Int)⊕List Bool):=fun s=>match s with
  | (l8,v9)=>cond (decide (v9<(r1.length:Int))) ((idx r1 v9).bind fun e42=>(idx l8 v9).bind fun e44=>(idx l8 (IntKind.i64.wrap (v9+1))).bind fun e46=>some (.inl ((l8.set (Int.toNat (IntKind.i64.wrap (v9+1))) (e44&&(e42==256))),(IntKind.i64.wrap (v9+1))))) (some (.inr l8))
noncomputable def spec_Like(a0:ByteArray)(a1:ByteArray):Option Bool :=
  cond (decide ((a0.size:Int) > 200)||decide ((a1.size:Int) > 200)) (some false) ((spec_l1Tokens a1).bind fun q=>(match q with | (r1,r2)=>cond (!r2) (some false) ((mk false (IntKind.i64.wrap ((r1.length:Int)+1))).bind fun l4=>(idx l4 0).bind fun e6=>(loopO (spec_Like_l1 r1) ((l4.set (Int.toNat 0) true),0)).bind fun l10=>(match l10 with | l10=>(loopO (spec_Like_l2 a0 r1) (l10,0)).bind fun l13=>(match l13 with | l13=>(idx l13 (r1.length:Int)).bind fun e14=>some e14)))))
theorem spec_Like_p  {a0 : ByteArray} {a1 : ByteArray} {R0 : Bool} (H : spec_Like a0 a1 = some R0) :   Bu Tryz.prog 84 [.str a0, .str a1] (.bool R0) := by
 refine Ba.of_TN (n:=112) Tryz.func84 rfl rfl rfl rfl ?_
 refine au 12 ?_
 refine TL.gcq rfl rfl rfl (.bool _) rfl rfl (fun h=>Fb rfl rfl (gv h rfl)) ?_
 refine au 3 ?_
 refine T.cH H ?_ ?_<;>intro H h
 ·refine au 5 ?_
  refine Aj ?_
  cases Ad H
  exact⟨trivial,_,(.tmp _ _ _ _ rfl .nil),(.cl _ rfl)⟩
 ·refine au 4 ?_
  obtain⟨⟨r1,r2⟩,h3,H⟩:=Ac H
  refine TL.st rfl rfl rfl (Aq rfl en_128 rfl rfl (.cons _ _ _ _ (.cl _ rfl) .nil) (spec_l1Tokens_p  h3)) ?_
  refine au 12 ?_
  refine T.cH H ?_ ?_<;>intro H h
  ·refine au 5 ?_
   refine Aj ?_
   cases Ad H
   exact⟨trivial,_,(.tmp _ _ _ _ rfl .nil),(.cl _ rfl)⟩
  ·refine au 4 ?_
   refine TL.st rfl rfl rfl (Bf (f:=c_int .i64) rfl rfl rfl) ?_
   refine TL.st rfl rfl rfl (B3 rfl rfl rfl rfl) ?_
   obtain⟨l4,h5,H⟩:=Ac H
   refine TL.st rfl rfl rfl (o_mk (f:=Be) (z:=false) rfl rfl tyE_4 ⟨_,rfl,rfl⟩ rfl rfl h5) ?_
   refine au 5 ?_
   obtain⟨e6,h7,H⟩:=Ac H
   refine TL.st rfl rfl rfl (C2 (f:=Be) rfl rfl Cz rfl rfl rfl rfl h7 rfl) ?_
   refine TL.sn rfl rfl (Dz (f:=Be) (xs:=l4) (k:=0) (a:=e6) true rfl Cz rfl rfl rfl rfl (by decide) h7 rfl rfl rfl (fun _=>rfl) rfl) ?_
   refine TL.conv (Cs.eqV (t:=7) (v':=.hd 0 ((l4.set (Int.toNat 0) true).map (Be)).length 0 ((l4.set (Int.toNat 0) true).map (Be)).length) rfl (B2 _ (List.length_set ..))) ?_
   refine TL.conv (Cs.eqV (t:=32) (v':=.hd 0 ((l4.set (Int.toNat 0) true).map (Be)).length 0 ((l4.set (Int.toNat 0) true).map (Be)).length) rfl (B2 _ (List.length_set ..))) ?_
   refine TL.conv (Cs.eqV (t:=33) (v':=.hd 0 ((l4.set (Int.toNat 0) true).map (Be)).length 0 ((l4.set (Int.toNat 0) true).map (Be)).length) rfl (B2 _ (List.length_set ..))) ?_
   refine TL.conv (Cs.eqV (t:=34) (v':=.el 0 ((l4.set (Int.toNat 0) true).map (Be)).length (Int.toNat 0) 0) rfl (Dv _ _ _ (List.length_set ..))) ?_
   refine au 5 ?_
   refine TL.st rfl rfl rfl (Bf (f:=c_int .i64) rfl rfl rfl) ?_
   refine au 3 ?_
   obtain⟨l10,h49,H⟩:=Ac H
   refine T.lq (fun s=>match s with | (l8,v9)=>[(0,.str a0),(5,.im false (r1.map (c_int .i64))),(7,.hd 0 (l8.map (Be)).length 0 (l8.map (Be)).length),(35,.im false (r1.map (c_int .i64))),(36,.int .i64 (r1.length:Int)),(37,.int .i64 v9)]) (fun s=>match s with | (l8,v9)=>[.arr .clo 1 (l8.map (Be))]) (fun q ex fr σ=>match q with | l10=>ex = .exit 0∧fr = [(0,.str a0),(5,.im false (r1.map (c_int .i64))),(7,.hd 0 (l10.map (Be)).length 0 (l10.map (Be)).length)]∧σ = [.arr .clo 1 (l10.map (Be))]) h49 ?_ ?_
   ·rintro⟨l8,v9⟩ y41 H
    refine au 5 ?_
    refine T.cH H ?_ ?_<;>intro H h
    ·refine au 6 ?_
     obtain⟨e42,h43,H⟩:=Ac H
     refine TL.st rfl rfl rfl (B7 (f:=c_int .i64) rfl rfl Dj rfl rfl h43 rfl) ?_
     refine au 10 ?_
     obtain⟨e44,h45,H⟩:=Ac H
     refine TL.st rfl rfl rfl (C2 (f:=Be) rfl rfl Cz rfl rfl rfl rfl h45 rfl) ?_
     refine TL.st rfl rfl rfl (Cx rfl Cz rfl rfl rfl (by rw[List.getElem?_map,(Ej h45).2];rfl) (nb rfl) rfl) ?_
     refine au 4 ?_
     obtain⟨e46,h47,H⟩:=Ac H
     refine TL.st rfl rfl rfl (C2 (f:=Be) rfl rfl Cz rfl rfl rfl rfl h47 rfl) ?_
     refine TL.sn rfl rfl (Dz (f:=Be) (xs:=l8) (k:=(IntKind.i64.wrap (v9+1))) (a:=e46) (e44&&(e42==256)) rfl Cz rfl rfl rfl rfl (by decide) h47 rfl rfl rfl (fun _=>rfl) rfl) ?_
     refine TL.conv (Cs.eqV (t:=7) (v':=.hd 0 ((l8.set (Int.toNat (IntKind.i64.wrap (v9+1))) (e44&&(e42==256))).map (Be)).length 0 ((l8.set (Int.toNat (IntKind.i64.wrap (v9+1))) (e44&&(e42==256))).map (Be)).length) rfl (B2 _ (List.length_set ..))) ?_
     refine TL.conv (Cs.eqV (t:=42) (v':=.hd 0 ((l8.set (Int.toNat (IntKind.i64.wrap (v9+1))) (e44&&(e42==256))).map (Be)).length 0 ((l8.set (Int.toNat (IntKind.i64.wrap (v9+1))) (e44&&(e42==256))).map (Be)).length) rfl (B2 _ (List.length_set ..))) ?_
     refine TL.conv (Cs.eqV (t:=45) (v':=.hd 0 ((l8.set (Int.toNat (IntKind.i64.wrap (v9+1))) (e44&&(e42==256))).map (Be)).length 0 ((l8.set (Int.toNat (IntKind.i64.wrap (v9+1))) (e44&&(e42==256))).map (Be)).length) rfl (B2 _ (List.length_set ..))) ?_
     refine TL.conv (Cs.eqV (t:=53) (v':=.el 0 ((l8.set (Int.toNat (IntKind.i64.wrap (v9+1))) (e44&&(e42==256))).map (Be)).length (Int.toNat (IntKind.i64.wrap (v9+1))) 0) rfl (Dv _ _ _ (List.length_set ..))) ?_
     refine au 5 ?_
     exact Pk.of (Af ⟨((l8.set (Int.toNat (IntKind.i64.wrap (v9+1))) (e44&&(e42==256))),(IntKind.i64.wrap (v9+1))),(Ad H).symm,rfl,rfl⟩)
    ·refine T.exit ?_
     refine Am ?_
     exact Pk.of (Am ⟨l8,(Ad H).symm,rfl,rfl,rfl⟩)
   ·rintro _ _ _ ⟨rfl,rfl,rfl⟩
    refine A6 ?_
    refine au 6 ?_
    obtain⟨l13,h40,H⟩:=Ac H
    refine T.lq (fun s=>match s with | (l11,v12)=>[(0,.str a0),(5,.im false (r1.map (c_int .i64))),(7,.hd 0 (l11.map (Be)).length 0 (l11.map (Be)).length),(10,.int .i64 v12)]) (fun s=>match s with | (l11,v12)=>[.arr .clo 1 (l11.map (Be))]) (fun q ex fr σ=>match q with | l13=>ex = .exit 2∧fr = [(5,.im false (r1.map (c_int .i64))),(7,.hd 0 (l13.map (Be)).length 0 (l13.map (Be)).length)]∧σ = [.arr .clo 1 (l13.map (Be))]) h40 ?_ ?_
    ·rintro⟨l11,v12⟩ y16 H
     refine au 8 ?_
     refine T.cH H ?_ ?_<;>intro H h
     ·refine au 6 ?_
      refine TL.st rfl rfl rfl (Bf (f:=c_int .i64) rfl rfl rfl) ?_
      refine TL.st rfl rfl rfl (B3 rfl rfl rfl rfl) ?_
      obtain⟨l17,h18,H⟩:=Ac H
      refine TL.st rfl rfl rfl (o_mk (f:=Be) (z:=false) rfl rfl tyE_4 ⟨_,rfl,rfl⟩ rfl rfl h18) ?_
      refine au 6 ?_
      refine TL.st rfl rfl rfl (Bf (f:=c_int .i64) rfl rfl rfl) ?_
      refine au 3 ?_
      obtain⟨l21,h38,H⟩:=Ac H
      refine T.lq (fun s=>match s with | (l19,v20)=>[(0,.str a0),(5,.im false (r1.map (c_int .i64))),(7,.hd 0 (l11.map (Be)).length 0 (l11.map (Be)).length),(10,.int .i64 v12),(11,.hd 1 (l19.map (Be)).length 0 (l19.map (Be)).length),(65,.im false (r1.map (c_int .i64))),(66,.int .i64 (r1.length:Int)),(67,.int .i64 v20)]) (fun s=>match s with | (l19,v20)=>[.arr .clo 1 (l11.map (Be)),.arr .clo 1 (l19.map (Be))]) (fun q ex fr σ=>match q with | l21=>ex = .exit 4∧fr = [(0,.str a0),(5,.im false (r1.map (c_int .i64))),(10,.int .i64 v12),(11,.hd 1 (l21.map (Be)).length 0 (l21.map (Be)).length)]∧σ = [.arr .clo 1 (l11.map (Be)),.arr .clo 1 (l21.map (Be))]) h38 ?_ ?_
      ·rintro⟨l19,v20⟩ y22 H
       refine au 5 ?_
       refine T.cH H ?_ ?_<;>intro H h
       ·refine au 6 ?_
        obtain⟨e23,h24,H⟩:=Ac H
        refine TL.st rfl rfl rfl (B7 (f:=c_int .i64) rfl rfl Dj rfl rfl h24 rfl) ?_
        refine au 9 ?_
        refine T.cH H ?_ ?_<;>intro H h
        ·refine au 7 ?_
         obtain⟨e25,h26,H⟩:=Ac H
         refine TL.st rfl rfl rfl (C2 (f:=Be) rfl rfl Cz rfl rfl rfl rfl h26 rfl) ?_
         refine TL.st rfl rfl rfl (Cx rfl Cz rfl rfl rfl (by rw[List.getElem?_map,(Ej h26).2];rfl) (nb rfl) rfl) ?_
         refine au 3 ?_
         obtain⟨e27,h28,H⟩:=Ac H
         refine TL.gcq rfl rfl rfl (.bool _) rfl rfl (fun h=>C2 (f:=Be) rfl rfl Cz (gv h rfl) (gv h rfl) rfl rfl (Bq h28 h) rfl) ?_
         refine TL.gcq rfl rfl rfl (.bool _) rfl rfl (fun h=>Cx rfl Cz (gv h rfl) rfl rfl (by rw[List.getElem?_map,(Ej (Bq h28 h)).2];rfl) (nb rfl) rfl) ?_
         refine TL.st rfl rfl rfl (o_or rfl rfl rfl rfl (fun k=>Ed k)) ?_
         obtain⟨e29,h30,H⟩:=Ac H
         refine TL.st rfl rfl rfl (C2 (f:=Be) rfl rfl Cz rfl rfl rfl rfl h30 rfl) ?_
         refine TL.sn rfl rfl (Dz (f:=Be) (xs:=l19) (k:=(IntKind.i64.wrap (v20+1))) (a:=e29) (e25||e27) rfl Cz rfl rfl rfl rfl (by decide) h30 rfl rfl rfl (fun _=>rfl) rfl) ?_
         refine TL.conv (Cs.eqV (t:=11) (v':=.hd 1 ((l19.set (Int.toNat (IntKind.i64.wrap (v20+1))) (e25||e27)).map (Be)).length 0 ((l19.set (Int.toNat (IntKind.i64.wrap (v20+1))) (e25||e27)).map (Be)).length) rfl (B2 _ (List.length_set ..))) ?_
         refine TL.conv (Cs.eqV (t:=74) (v':=.hd 1 ((l19.set (Int.toNat (IntKind.i64.wrap (v20+1))) (e25||e27)).map (Be)).length 0 ((l19.set (Int.toNat (IntKind.i64.wrap (v20+1))) (e25||e27)).map (Be)).length) rfl (B2 _ (List.length_set ..))) ?_
         refine TL.conv (Cs.eqV (t:=88) (v':=.el 1 ((l19.set (Int.toNat (IntKind.i64.wrap (v20+1))) (e25||e27)).map (Be)).length (Int.toNat (IntKind.i64.wrap (v20+1))) 0) rfl (Dv _ _ _ (List.length_set ..))) ?_
         refine au 5 ?_
         exact Pk.of (Af ⟨((l19.set (Int.toNat (IntKind.i64.wrap (v20+1))) (e25||e27)),(IntKind.i64.wrap (v20+1))),(Ad H).symm,rfl,rfl⟩)
        ·refine au 6 ?_
         obtain⟨e31,h32,H⟩:=Ac H
         refine TL.st rfl rfl rfl (C2 (f:=Be) rfl rfl Cz rfl rfl rfl rfl h32 rfl) ?_
         refine TL.st rfl rfl rfl (Cx rfl Cz rfl rfl rfl (by rw[List.getElem?_map,(Ej h32).2];rfl) (nb rfl) rfl) ?_
         refine au 4 ?_
         obtain⟨b33,h34,H⟩:=Ac H
         refine TL.gcq rfl rfl rfl (.bool _) rfl rfl (fun h=>Ct rfl rfl (gv h rfl) (gv h rfl) (Bq h34 h)) ?_
         refine TL.gcq rfl rfl rfl (.bool _) rfl rfl (fun h=>o_conv rfl (gv h rfl) ⟨_,rfl⟩ rfl) ?_
         refine TL.gcq rfl rfl rfl (.bool _) rfl rfl (fun h=>B3 rfl (gv h rfl) (gv h rfl) rfl) ?_
         refine TL.st rfl rfl rfl (Eq rfl rfl rfl (fun k=>Ed k) rfl) ?_
         obtain⟨e35,h36,H⟩:=Ac H
         refine TL.st rfl rfl rfl (C2 (f:=Be) rfl rfl Cz rfl rfl rfl rfl h36 rfl) ?_
         refine TL.sn rfl rfl (Dz (f:=Be) (xs:=l19) (k:=(IntKind.i64.wrap (v20+1))) (a:=e35) (e31&&(e23==(IntKind.i64.wrap b33))) rfl Cz rfl rfl rfl rfl (by decide) h36 rfl rfl rfl (fun _=>rfl) rfl) ?_
         refine TL.conv (Cs.eqV (t:=11) (v':=.hd 1 ((l19.set (Int.toNat (IntKind.i64.wrap (v20+1))) (e31&&(e23==(IntKind.i64.wrap b33)))).map (Be)).length 0 ((l19.set (Int.toNat (IntKind.i64.wrap (v20+1))) (e31&&(e23==(IntKind.i64.wrap b33)))).map (Be)).length) rfl (B2 _ (List.length_set ..))) ?_
         refine TL.conv (Cs.eqV (t:=89) (v':=.hd 1 ((l19.set (Int.toNat (IntKind.i64.wrap (v20+1))) (e31&&(e23==(IntKind.i64.wrap b33)))).map (Be)).length 0 ((l19.set (Int.toNat (IntKind.i64.wrap (v20+1))) (e31&&(e23==(IntKind.i64.wrap b33)))).map (Be)).length) rfl (B2 _ (List.length_set ..))) ?_
         refine TL.conv (Cs.eqV (t:=104) (v':=.el 1 ((l19.set (Int.toNat (IntKind.i64.wrap (v20+1))) (e31&&(e23==(IntKind.i64.wrap b33)))).map (Be)).length (Int.toNat (IntKind.i64.wrap (v20+1))) 0) rfl (Dv _ _ _ (List.length_set ..))) ?_
         refine au 5 ?_
         exact Pk.of (Af ⟨((l19.set (Int.toNat (IntKind.i64.wrap (v20+1))) (e31&&(e23==(IntKind.i64.wrap b33)))),(IntKind.i64.wrap (v20+1))),(Ad H).symm,rfl,rfl⟩)
       ·refine T.exit ?_
        refine Am ?_
        exact Pk.of (Am ⟨l19,(Ad H).symm,rfl,rfl,rfl⟩)
      ·rintro _ _ _ ⟨rfl,rfl,rfl⟩
       refine A6 ?_
       refine au 3 ?_
       refine TL.conv (Cs.wkF (M:=2) (.k 0 rfl rfl (.k 5 rfl rfl (.k 7 rfl rfl (.k 10 rfl rfl (.k 11 rfl rfl (.k 106 rfl rfl .nil))))))) ?_
       refine TL.conv (Cs.reloc 0 1 rfl rfl (by decide) rfl rfl rfl (Bv rfl)) ?_
       refine TL.conv (Cs.wkF (M:=2) (.k 0 rfl rfl (.k 5 rfl rfl (.k 7 rfl rfl (.k 10 rfl rfl (.k 11 rfl rfl (.k 106 rfl rfl .nil))))))) ?_
       refine TL.conv (Cs.eqS (σ':=[.arr .clo 1 (l21.map (Be)),.dead]) rfl) ?_
       refine au 6 ?_
       exact Pk.of (Af ⟨(l21,(IntKind.i64.wrap (v12+1))),(Ad H).symm,rfl,rfl⟩)
     ·refine T.exit ?_
      refine Am ?_
      exact Pk.of (Am ⟨l11,(Ad H).symm,rfl,rfl,rfl⟩)
    ·rintro _ _ _ ⟨rfl,rfl,rfl⟩
     refine A6 ?_
     refine au 4 ?_
     refine TL.st rfl rfl rfl (Bf (f:=c_int .i64) rfl rfl rfl) ?_
     obtain⟨e14,h15,H⟩:=Ac H
     refine TL.st rfl rfl rfl (C2 (f:=Be) rfl rfl Cz rfl rfl rfl rfl h15 rfl) ?_
     refine TL.st rfl rfl rfl (Cx rfl Cz rfl rfl rfl (by rw[List.getElem?_map,(Ej h15).2];rfl) (nb rfl) rfl) ?_
     refine au 3 ?_
     cases Ad H
     exact⟨trivial,_,(.tmp _ _ _ _ rfl .nil),(.cl _ rfl)⟩
theorem en_84:En Tryz.prog 84:=.of Tryz.func84 rfl rfl
noncomputable def spec_l1Size_j1(v1:Int)(v2:ByteArray)(v5:Int):Option ((Int×ByteArray)⊕ByteArray) :=
  (cat (byS ([(IntKind.u8.wrap (IntKind.i64.wrap (48+v5)))]:List Int)) v2).bind fun s6=>some (.inl ((IntKind.i64.wrap (Int.tdiv v1 10)),s6))
noncomputable def spec_l1Size_l1 : (Int×ByteArray)→Option ((Int×ByteArray)⊕ByteArray):=fun s=>match s with
  | (v1,v2)=>cond (v1 != 0) (cond (decide ((Int.tmod v1 10)<0)) (spec_l1Size_j1 v1 v2 (IntKind.i64.wrap (-(Int.tmod v1 10)))) (spec_l1Size_j1 v1 v2 (Int.tmod v1 10))) (some (.inr v2))
noncomputable def spec_l1Size(a0:Int):Option ByteArray :=
  cond (a0==0) (some (ByteArray.mk #[48])) ((loopO (spec_l1Size_l1) (a0,e0)).bind fun v3=>(match v3 with | v3=>some v3))
theorem spec_l1Size_p {a0:Int} {R0:ByteArray} (H:spec_l1Size a0=some R0):Bu Tryz.prog 170 [.int .i64 a0] (.str R0):=by
 refine Ba.of_TN (n:=25) Tryz.func170 rfl rfl rfl rfl ?_
 refine au 10 ?_
 refine T.cH H ?_ ?_<;>intro H h
 ·refine au 5 ?_
  refine Aj ?_
  cases Ad H
  exact⟨trivial,_,(.tmp _ _ _ _ rfl .nil),(.cl _ rfl)⟩
 ·refine au 7 ?_
  obtain⟨v3,h9,H⟩:=Ac H
  refine T.lq (fun s=>match s with | (v1,v2)=>[(0,.int .i64 v1),(3,.str v2)]) (fun s=>match s with | (v1,v2)=>[]) (fun q ex fr σ=>match q with | v3=>ex = .exit 0∧fr = [(3,.str v3)]∧σ = []) h9 ?_ ?_
  ·rintro⟨v1,v2⟩ y4 H
   refine au 6 ?_
   refine T.cH H ?_ ?_<;>intro H h
   ·refine au 5 ?_
    refine TL.st rfl rfl rfl (o_rem rfl rfl rfl (by decide)) ?_
    refine au 2 ?_
    refine T.cut (fun fr' σ'=>∃ (v5:Int),fr' = [(0,.int .i64 v1),(3,.str v2),(4,.int .i64 v5)]∧σ' = []∧spec_l1Size_j1 v1 v2 v5=some y4) (T.pk ?_) ?_
    ·skip
     refine au 5 ?_
     refine T.cH H ?_ ?_<;>intro H h
     ·refine au 2 ?_
      refine TL.st rfl rfl rfl (o_neg rfl rfl) ?_
      refine au 2 ?_
      exact Pk.of (Af ⟨(IntKind.i64.wrap (-(Int.tmod v1 10))),rfl,rfl,H⟩)
     ·refine T.skip ?_
      exact Pk.of (Af ⟨(Int.tmod v1 10),rfl,rfl,H⟩)
    ·rintro _ _ ⟨v5,rfl,rfl,H⟩
     refine au 4 ?_
     refine TL.st rfl rfl rfl (o_conv rfl rfl ⟨_,rfl⟩ rfl) ?_
     refine TL.st rfl rfl rfl (A8 (rows:=([(IntKind.u8.wrap (IntKind.i64.wrap (48+v5)))]:List Int).map (c_int .u8)) rfl rfl tyS_5 ⟨_,rfl,rfl⟩ (by decide) rfl rfl rfl rfl rfl rfl) ?_
     refine TL.st rfl rfl rfl (o_bs (f:=c_int .u8) (ns:=([(IntKind.u8.wrap (IntKind.i64.wrap (48+v5)))]:List Int)) rfl rfl rfl rfl (fun _=>rfl) rfl) ?_
     refine TL.st rfl rfl rfl (Bp rfl rfl) ?_
     obtain⟨s6,h7,H⟩:=Ac H
     refine TL.st rfl rfl rfl (o_ct rfl rfl rfl h7) ?_
     refine au 4 ?_
     refine TL.st rfl rfl rfl (o_quo rfl rfl rfl (by decide)) ?_
     refine au 2 ?_
     refine Bh ?_
     exact Pk.of (Af ⟨((IntKind.i64.wrap (Int.tdiv v1 10)),s6),(Ad H).symm,rfl,rfl⟩)
   ·refine T.exit ?_
    refine Am ?_
    exact Pk.of (Am ⟨v2,(Ad H).symm,rfl,rfl,rfl⟩)
  ·rintro _ _ _ ⟨rfl,rfl,rfl⟩
   refine A6 ?_
   refine au 6 ?_
   cases Ad H
   exact⟨trivial,_,(.tmp _ _ _ _ rfl .nil),(.cl _ rfl)⟩
theorem en_170:En Tryz.prog 170:=.of Tryz.func170 rfl rfl
noncomputable def spec_l1Num(a0:Int):Option ByteArray :=
  cond (decide (a0<0)) ((spec_l1Size a0).bind fun r1=>(cat (ByteArray.mk #[45]) r1).bind fun s3=>some s3) ((spec_l1Size a0).bind fun r5=>some r5)
theorem spec_l1Num_p {a0:Int} {R0:ByteArray} (H:spec_l1Num a0=some R0):Bu Tryz.prog 155 [.int .i64 a0] (.str R0):=by
 refine Ba.of_TN (n:=10) Tryz.func155 rfl rfl rfl rfl ?_
 refine au 10 ?_
 refine T.cH H ?_ ?_<;>intro H h
 ·refine au 3 ?_
  obtain⟨r1,h2,H⟩:=Ac H
  refine TL.st rfl rfl rfl (Aq rfl en_170 rfl rfl (.cons _ _ _ _ (.cl _ rfl) .nil) (spec_l1Size_p  h2)) ?_
  obtain⟨s3,h4,H⟩:=Ac H
  refine TL.st rfl rfl rfl (o_ct rfl rfl rfl h4) ?_
  refine au 3 ?_
  refine Aj ?_
  cases Ad H
  exact⟨trivial,_,(.tmp _ _ _ _ rfl .nil),(.cl _ rfl)⟩
 ·refine au 4 ?_
  obtain⟨r5,h6,H⟩:=Ac H
  refine TL.st rfl rfl rfl (Aq rfl en_170 rfl rfl (.cons _ _ _ _ (.cl _ rfl) .nil) (spec_l1Size_p  h6)) ?_
  refine au 3 ?_
  cases Ad H
  exact⟨trivial,_,(.tmp _ _ _ _ rfl .nil),(.cl _ rfl)⟩
theorem en_155:En Tryz.prog 155:=.of Tryz.func155 rfl rfl
noncomputable def spec_l1Whole_j1(a0:ByteArray)(v5:Int):Option (Int×Bool) :=
  (spec_l1Num v5).bind fun r6=>some (v5,(r6.toList==a0.toList))
noncomputable def spec_l1Whole_j2(v2:Int)(v11:Int):Option ((Int×Int)⊕(Int⊕(Int×Bool))) :=
  some (.inl (v11,(IntKind.i64.wrap (v2+1))))
noncomputable def spec_l1Whole_l1(a0:ByteArray):(Int×Int)→Option ((Int×Int)⊕(Int⊕(Int×Bool))):=fun s=>match s with
  | (v1,v2)=>cond (decide (v2<(a0.size:Int))) ((gdO (v2==0) (Cr a0 0)).bind fun b12=>cond ((v2==0)&&(b12==45)) (spec_l1Whole_j2 v2 v1) ((Cr a0 v2).bind fun b14=>(spec_l1Digit b14).bind fun r16=>cond (!r16) (some (.inr (.inr (0,false)))) ((Cr a0 v2).bind fun b18=>spec_l1Whole_j2 v2 (IntKind.i64.wrap ((IntKind.i64.wrap (v1*10)) - (IntKind.i64.wrap (IntKind.u8.wrap (b18 - 48)))))))) (some (.inr (.inl v1)))
noncomputable def spec_l1Whole(a0:ByteArray):Option (Int×Bool) :=
  cond (decide ((a0.size:Int)<1)||decide ((a0.size:Int) > 20)) (some (0,false)) ((loopO (spec_l1Whole_l1 a0) (0,0)).bind fun q20=>(match q20 with | .inl v3=>(Cr a0 0).bind fun b8=>cond (b8 != 45) (spec_l1Whole_j1 a0 (IntKind.i64.wrap (-v3))) (spec_l1Whole_j1 a0 v3) | .inr q4=>some q4))
theorem spec_l1Whole_p {a0:ByteArray} {R0:Int} {R1:Bool} (H:spec_l1Whole a0=some (R0,R1)):Bu Tryz.prog 129 [.str a0] (.tup [.int .i64 R0,.bool R1]):=by
 refine Ba.of_TN (n:=50) Tryz.func129 rfl rfl rfl rfl ?_
 refine au 13 ?_
 refine TL.gcq rfl rfl rfl (.bool _) rfl rfl (fun h=>Fb rfl rfl (gv h rfl)) ?_
 refine au 3 ?_
 refine T.cH H ?_ ?_<;>intro H h
 ·refine au 6 ?_
  refine Aj ?_
  cases Ad H
  exact⟨trivial,_,(.tmp _ _ _ _ rfl (.tmp _ _ _ _ rfl .nil)),(.tupL (.cons _ _ _ _ (.cl _ rfl) (.cons _ _ _ _ (.cl _ rfl) .nil)))⟩
 ·refine au 11 ?_
  obtain⟨q20,h21,H⟩:=Ac H
  refine T.lq (fun s=>match s with | (v1,v2)=>[(0,.str a0),(4,.int .i64 v1),(5,.int .i64 v2)]) (fun s=>match s with | (v1,v2)=>[]) (fun q ex fr σ=>match q with | .inl v3=>ex = .exit 0∧fr = [(0,.str a0),(4,.int .i64 v3)]∧σ = [] | .inr q4=>ex = .ret∧C5 Tryz.prog [.tmp 2,.tmp 3] (fun v τ=>Told τ v (.tup [.int .i64 q4.1,.bool q4.2])) .ret fr σ) h21 ?_ ?_
  ·rintro⟨v1,v2⟩ y10 H
   refine au 8 ?_
   refine T.cH H ?_ ?_<;>intro H h
   ·refine T.skip ?_
    refine T.cut (fun fr' σ'=>∃ (v11:Int),fr' = [(0,.str a0),(4,.int .i64 v11),(5,.int .i64 v2)]∧σ' = []∧spec_l1Whole_j2 v2 v11=some y10) (T.pk ?_) ?_
    ·skip
     refine au 8 ?_
     obtain⟨b12,h13,H⟩:=Ac H
     refine TL.gcq rfl rfl rfl (.bool _) rfl rfl (fun h=>Ct rfl rfl (gv h rfl) rfl (Bq h13 h)) ?_
     refine au 3 ?_
     refine T.cH H ?_ ?_<;>intro H h
     ·refine T.exit ?_
      refine Am ?_
      refine A6 ?_
      exact Pk.of (Af ⟨v1,rfl,rfl,H⟩)
     ·refine au 6 ?_
      obtain⟨b14,h15,H⟩:=Ac H
      refine TL.st rfl rfl rfl (Ct rfl rfl rfl rfl h15) ?_
      obtain⟨r16,h17,H⟩:=Ac H
      refine TL.st rfl rfl rfl (Aq rfl en_107 rfl rfl (.cons _ _ _ _ (.cl _ rfl) .nil) (spec_l1Digit_p  h17)) ?_
      refine au 2 ?_
      refine T.cH H ?_ ?_<;>intro H h
      ·refine au 6 ?_
       refine Aj (Av ?_)
       refine Pk.id (Aj ?_)
       exact Pk.id (Aj ⟨.inr (0,false),(Ad H).symm,rfl,⟨trivial,_,(.tmp _ _ _ _ rfl (.tmp _ _ _ _ rfl .nil)),(.tupL (.cons _ _ _ _ (.cl _ rfl) (.cons _ _ _ _ (.cl _ rfl) .nil)))⟩⟩)
      ·refine au 6 ?_
       obtain⟨b18,h19,H⟩:=Ac H
       refine TL.st rfl rfl rfl (Ct rfl rfl rfl rfl h19) ?_
       refine TL.st rfl rfl rfl (B3 rfl rfl rfl rfl) ?_
       refine TL.st rfl rfl rfl (o_conv rfl rfl ⟨_,rfl⟩ rfl) ?_
       refine au 3 ?_
       refine Bh ?_
       exact Pk.of (Af ⟨(IntKind.i64.wrap ((IntKind.i64.wrap (v1*10)) - (IntKind.i64.wrap (IntKind.u8.wrap (b18 - 48))))),rfl,rfl,H⟩)
    ·rintro _ _ ⟨v11,rfl,rfl,H⟩
     refine au 5 ?_
     exact Pk.of (Af ⟨(v11,(IntKind.i64.wrap (v2+1))),(Ad H).symm,rfl,rfl⟩)
   ·refine T.exit ?_
    refine Am ?_
    exact Pk.of (Am ⟨.inl v1,(Ad H).symm,rfl,rfl,rfl⟩)
  ·rcases q20 with v3 | q4
   ·rintro _ _ _ ⟨rfl,rfl,rfl⟩
    refine A6 ?_
    refine Af ?_
    refine T.cut (fun fr' σ'=>∃ (v5:Int),fr' = [(0,.str a0),(4,.int .i64 v5)]∧σ' = []∧spec_l1Whole_j1 a0 v5=some (R0,R1)) (T.pk ?_) ?_
    ·skip
     refine au 3 ?_
     obtain⟨b8,h9,H⟩:=Ac H
     refine TL.st rfl rfl rfl (Ct rfl rfl rfl rfl h9) ?_
     refine au 2 ?_
     refine T.cH H ?_ ?_<;>intro H h
     ·refine au 2 ?_
      refine TL.st rfl rfl rfl (o_neg rfl rfl) ?_
      refine au 2 ?_
      exact Pk.of (Af ⟨(IntKind.i64.wrap (-v3)),rfl,rfl,H⟩)
     ·refine T.skip ?_
      exact Pk.of (Af ⟨v3,rfl,rfl,H⟩)
    ·rintro _ _ ⟨v5,rfl,rfl,H⟩
     refine au 4 ?_
     obtain⟨r6,h7,H⟩:=Ac H
     refine TL.st rfl rfl rfl (Aq rfl en_155 rfl rfl (.cons _ _ _ _ (.cl _ rfl) .nil) (spec_l1Num_p  h7)) ?_
     refine au 6 ?_
     cases Ad H
     exact⟨trivial,_,(.tmp _ _ _ _ rfl (.tmp _ _ _ _ rfl .nil)),(.tupL (.cons _ _ _ _ (.cl _ rfl) (.cons _ _ _ _ (.cl _ rfl) .nil)))⟩
   ·rintro _ fr1 σ1 ⟨rfl,hr⟩
    refine Av (Aj ?_)
    cases Ad H
    exact hr
theorem en_129:En Tryz.prog 129:=.of Tryz.func129 rfl rfl
noncomputable def spec_l3Escaped_j1(v6:Int)(l13:List Int):Option ((List Int×Int)⊕List Int) :=
  some (.inl (l13,(IntKind.i64.wrap (v6+1))))
noncomputable def spec_l3Escaped_l2(a0:ByteArray)(a1:ByteArray)(v2:Int):(List Int×Int)→Option ((List Int×Int)⊕List Int):=fun s=>match s with
  | (l5,v6)=>cond (decide (v6<(a1.size:Int))) ((Cr a0 v2).bind fun b14=>(Cr a1 v6).bind fun b16=>cond (b14==b16) ((app l5 ([92]:List Int)).bind fun l18=>spec_l3Escaped_j1 v6 l18) (spec_l3Escaped_j1 v6 l5)) (some (.inr l5))
noncomputable def spec_l3Escaped_l1(a0:ByteArray)(a1:ByteArray):(List Int×Int)→Option ((List Int×Int)⊕List Int):=fun s=>match s with
  | (l1,v2)=>cond (decide (v2<(a0.size:Int))) ((loopO (spec_l3Escaped_l2 a0 a1 v2) (l1,0)).bind fun l7=>(match l7 with | l7=>(Cr a0 v2).bind fun b8=>(app l7 ([b8]:List Int)).bind fun l10=>some (.inl (l10,(IntKind.i64.wrap (v2+1)))))) (some (.inr l1))
noncomputable def spec_l3Escaped(a0:ByteArray)(a1:ByteArray):Option ByteArray :=
  (loopO (spec_l3Escaped_l1 a0 a1) (([]:List Int),0)).bind fun l3=>(match l3 with | l3=>some (byS l3))
theorem spec_l3Escaped_p {a0:ByteArray} {a1:ByteArray} {R0:ByteArray} (H:spec_l3Escaped a0 a1=some R0):Bu Tryz.prog 171 [.str a0,.str a1] (.str R0):=by
 refine Ba.of_TN (n:=38) Tryz.func171 rfl rfl rfl rfl ?_
 refine au 14 ?_
 refine T.conv (Cs.own (t:=5) 1 rfl (by decide)) ?_
 obtain⟨l3,h23,H⟩:=Ac H
 refine T.lq (fun s=>match s with | (l1,v2)=>[(0,.str a0),(1,.str a1),(5,.hd 0 (l1.map (c_int .u8)).length 0 (l1.map (c_int .u8)).length),(6,.int .i64 v2)]) (fun s=>match s with | (l1,v2)=>[.arr .clo 1 (l1.map (c_int .u8))]) (fun q ex fr σ=>match q with | l3=>ex = .exit 0∧fr = [(5,.hd 0 (l3.map (c_int .u8)).length 0 (l3.map (c_int .u8)).length)]∧σ = [.arr .clo 1 (l3.map (c_int .u8))]) h23 ?_ ?_
 ·rintro⟨l1,v2⟩ y4 H
  refine au 8 ?_
  refine T.cH H ?_ ?_<;>intro H h
  ·refine au 9 ?_
   obtain⟨l7,h21,H⟩:=Ac H
   refine T.lq (fun s=>match s with | (l5,v6)=>[(0,.str a0),(1,.str a1),(5,.hd 0 (l5.map (c_int .u8)).length 0 (l5.map (c_int .u8)).length),(6,.int .i64 v2),(7,.int .i64 v6)]) (fun s=>match s with | (l5,v6)=>[.arr .clo 1 (l5.map (c_int .u8))]) (fun q ex fr σ=>match q with | l7=>ex = .exit 2∧fr = [(0,.str a0),(1,.str a1),(5,.hd 0 (l7.map (c_int .u8)).length 0 (l7.map (c_int .u8)).length),(6,.int .i64 v2)]∧σ = [.arr .clo 1 (l7.map (c_int .u8))]) h21 ?_ ?_
   ·rintro⟨l5,v6⟩ y12 H
    refine au 8 ?_
    refine T.cH H ?_ ?_<;>intro H h
    ·refine T.skip ?_
     refine T.cut (fun fr' σ'=>∃ (l13:List Int),fr' = [(0,.str a0),(1,.str a1),(5,.hd 0 (l13.map (c_int .u8)).length 0 (l13.map (c_int .u8)).length),(6,.int .i64 v2),(7,.int .i64 v6)]∧σ' = [.arr .clo 1 (l13.map (c_int .u8))]∧spec_l3Escaped_j1 v6 l13=some y12) (T.pk ?_) ?_
     ·skip
      refine au 2 ?_
      refine T.drawn rfl ?_
      refine ad 2 ?_
      obtain⟨b14,h15,H⟩:=Ac H
      refine TD.qs rfl rfl (fun _=>Ct rfl rfl rfl rfl h15) ?_
      refine ad 2 ?_
      obtain⟨b16,h17,H⟩:=Ac H
      refine TD.qs rfl rfl (fun _=>Ct rfl rfl rfl rfl h17) ?_
      refine TD.qs rfl rfl (fun _=>B3 rfl rfl rfl rfl) ?_
      refine TD.nil ⟨rfl,?_⟩
      refine Af ?_
      refine T.cH H ?_ ?_<;>intro H h
      ·refine au 2 ?_
       refine TL.st rfl rfl rfl (A8 (rows:=([92]:List Int).map (c_int .u8)) rfl rfl tyS_5 ⟨_,rfl,rfl⟩ (by decide) rfl rfl rfl rfl rfl rfl) ?_
       obtain⟨l18,h19,H⟩:=Ac H
       refine TL.st rfl rfl rfl (Ee (f:=c_int .u8) (xs:=l5) (ys:=([92]:List Int)) rfl rfl tyE_5 rfl rfl rfl rfl (by decide) rfl (fun _=>rfl) h19) ?_
       refine au 2 ?_
       refine Bh ?_
       exact Pk.of (Af ⟨l18,rfl,rfl,H⟩)
      ·refine T.skip ?_
       refine Bh ?_
       exact Pk.of (Af ⟨l5,rfl,rfl,H⟩)
     ·rintro _ _ ⟨l13,rfl,rfl,H⟩
      refine au 5 ?_
      exact Pk.of (Af ⟨(l13,(IntKind.i64.wrap (v6+1))),(Ad H).symm,rfl,rfl⟩)
    ·refine T.exit ?_
     refine Am ?_
     exact Pk.of (Am ⟨l5,(Ad H).symm,rfl,rfl,rfl⟩)
   ·rintro _ _ _ ⟨rfl,rfl,rfl⟩
    refine A6 ?_
    refine au 4 ?_
    obtain⟨b8,h9,H⟩:=Ac H
    refine TL.st rfl rfl rfl (Ct rfl rfl rfl rfl h9) ?_
    refine TL.st rfl rfl rfl (A8 (rows:=([b8]:List Int).map (c_int .u8)) rfl rfl tyS_5 ⟨_,rfl,rfl⟩ (by decide) rfl rfl rfl rfl rfl rfl) ?_
    obtain⟨l10,h11,H⟩:=Ac H
    refine TL.st rfl rfl rfl (Ee (f:=c_int .u8) (xs:=l7) (ys:=([b8]:List Int)) rfl rfl tyE_5 rfl rfl rfl rfl (by decide) rfl (fun _=>rfl) h11) ?_
    refine au 7 ?_
    exact Pk.of (Af ⟨(l10,(IntKind.i64.wrap (v2+1))),(Ad H).symm,rfl,rfl⟩)
  ·refine T.exit ?_
   refine Am ?_
   exact Pk.of (Am ⟨l1,(Ad H).symm,rfl,rfl,rfl⟩)
 ·rintro _ _ _ ⟨rfl,rfl,rfl⟩
  refine A6 ?_
  refine au 3 ?_
  refine TL.st rfl rfl rfl (o_bsOwn (f:=c_int .u8) rfl rfl rfl rfl (fun _=>rfl) rfl rfl rfl) ?_
  refine au 3 ?_
  cases Ad H
  exact⟨trivial,_,(.tmp _ _ _ _ rfl .nil),(.cl _ rfl)⟩
theorem en_171:En Tryz.prog 171:=.of Tryz.func171 rfl rfl
noncomputable def spec_NameText_j1(v4:Int)(e7:A4)(v9:ByteArray):Option ((ByteArray×Int)⊕ByteArray) :=
  (cat e7.Attr_ (ByteArray.mk #[61])).bind fun s10=>(spec_l3Escaped e7.Text_ (ByteArray.mk #[44,92])).bind fun r12=>(cat s10 r12).bind fun s14=>(cat v9 s14).bind fun s16=>some (.inl (s16,(IntKind.i64.wrap (v4+1))))
noncomputable def spec_NameText_l1(a0:(List A4)):(ByteArray×Int)→Option ((ByteArray×Int)⊕ByteArray):=fun s=>match s with
  | (v3,v4)=>cond (decide (v4<(a0.length:Int))) ((idx a0 v4).bind fun e7=>cond (decide (v4 > 0)) ((cat v3 (ByteArray.mk #[44])).bind fun s18=>spec_NameText_j1 v4 e7 s18) (spec_NameText_j1 v4 e7 v3)) (some (.inr v3))
noncomputable def spec_NameText(a0:(List A4)):Option ByteArray :=
  (spec_GoodDirName a0).bind fun r1=>cond (!r1) (some e0) ((loopO (spec_NameText_l1 a0) (e0,0)).bind fun v5=>(match v5 with | v5=>some v5))
theorem spec_NameText_p(b0:Bool){a0:(List A4)}{R0:ByteArray}(H:spec_NameText a0=some R0):Bu Tryz.prog 156 [.im b0 (a0.map (A5 false))] (.str R0):=by
 refine Ba.of_TN (n:=31) Tryz.func156 rfl rfl rfl rfl ?_
 refine au 8 ?_
 obtain⟨r1,h2,H⟩:=Ac H
 refine TL.st rfl rfl rfl (Aq rfl en_47 rfl rfl (.cons _ _ _ _ (.imv _ _) .nil) (spec_GoodDirName_p b0 h2)) ?_
 refine au 2 ?_
 refine T.cH H ?_ ?_<;>intro H h
 ·refine au 5 ?_
  refine Aj ?_
  cases Ad H
  exact⟨trivial,_,(.tmp _ _ _ _ rfl .nil),(.cl _ rfl)⟩
 ·refine au 9 ?_
  refine TL.st rfl rfl rfl (Bf (f:=A5 false) rfl rfl rfl) ?_
  refine au 3 ?_
  obtain⟨v5,h21,H⟩:=Ac H
  refine T.lq (fun s=>match s with | (v3,v4)=>[(3,.str v3),(9,.im b0 (a0.map (A5 false))),(10,.int .i64 (a0.length:Int)),(11,.int .i64 v4)]) (fun s=>match s with | (v3,v4)=>[]) (fun q ex fr σ=>match q with | v5=>ex = .exit 0∧fr = [(3,.str v5)]∧σ = []) h21 ?_ ?_
  ·rintro⟨v3,v4⟩ y6 H
   refine au 5 ?_
   refine T.cH H ?_ ?_<;>intro H h
   ·refine au 6 ?_
    obtain⟨e7,h8,H⟩:=Ac H
    refine TL.st rfl rfl rfl (B7 (f:=A5 false) rfl rfl Em rfl rfl h8 rfl) ?_
    refine au 5 ?_
    refine T.cut (fun fr' σ'=>∃ (v9:ByteArray),fr' = [(3,.str v9),(5,.bx 0 0),(9,.im b0 (a0.map (A5 false))),(10,.int .i64 (a0.length:Int)),(11,.int .i64 v4)]∧σ' = [.box (A5 false e7)]∧spec_NameText_j1 v4 e7 v9=some y6) (T.pk ?_) ?_
    ·skip
     refine au 5 ?_
     refine T.cH H ?_ ?_<;>intro H h
     ·refine au 2 ?_
      obtain⟨s18,h19,H⟩:=Ac H
      refine TL.st rfl rfl rfl (o_ct rfl rfl rfl h19) ?_
      refine au 2 ?_
      exact Pk.of (Af ⟨s18,rfl,rfl,H⟩)
     ·refine T.skip ?_
      exact Pk.of (Af ⟨v3,rfl,rfl,H⟩)
    ·rintro _ _ ⟨v9,rfl,rfl,H⟩
     refine T.drawn rfl ?_
     refine ad 3 ?_
     obtain⟨s10,h11,H⟩:=Ac H
     refine TD.qs rfl rfl (fun _=>o_ct rfl rfl rfl h11) ?_
     refine ad 2 ?_
     obtain⟨r12,h13,H⟩:=Ac H
     refine TD.qs rfl rfl (fun _=>Aq rfl en_171 rfl rfl (.cons _ _ _ _ (.cl _ rfl) (.cons _ _ _ _ (.cl _ rfl) .nil)) (spec_l3Escaped_p  h13)) ?_
     obtain⟨s14,h15,H⟩:=Ac H
     refine TD.qs rfl rfl (fun _=>o_ct rfl rfl rfl h15) ?_
     obtain⟨s16,h17,H⟩:=Ac H
     refine TD.qs rfl rfl (fun _=>o_ct rfl rfl rfl h17) ?_
     refine TD.qs rfl rfl (fun _=>Dm rfl rfl) ?_
     refine TD.nil ⟨rfl,?_⟩
     refine au 4 ?_
     exact Pk.of (Af ⟨(s16,(IntKind.i64.wrap (v4+1))),(Ad H).symm,rfl,rfl⟩)
   ·refine T.exit ?_
    refine Am ?_
    exact Pk.of (Am ⟨v3,(Ad H).symm,rfl,rfl,rfl⟩)
  ·rintro _ _ _ ⟨rfl,rfl,rfl⟩
   refine A6 ?_
   refine au 6 ?_
   cases Ad H
   exact⟨trivial,_,(.tmp _ _ _ _ rfl .nil),(.cl _ rfl)⟩
theorem en_156:En Tryz.prog 156:=.of Tryz.func156 rfl rfl
noncomputable def spec_ReadName_j1(b16:A4)(l17:List A4)(l18:List Int)(v19:Bool)(v20:Int):Option ((A4×List A4×List Int×Bool×Int)⊕((A4×List A4×List Int×Bool)⊕((List A4)×Bool))) :=
  some (.inl (b16,l17,l18,v19,(IntKind.i64.wrap (v20+1))))
noncomputable def spec_ReadName_l1(a0:ByteArray):(A4×List A4×List Int×Bool×Int)→Option ((A4×List A4×List Int×Bool×Int)⊕((A4×List A4×List Int×Bool)⊕((List A4)×Bool))):=fun s=>match s with
  | (b1,l2,l3,v4,v5)=>cond (decide (v5<(a0.size:Int))) ((Cr a0 v5).bind fun b21=>cond ((!v4)&&(b21==61)) (spec_ReadName_j1 (⟨(byS l3),b1.Text_⟩:A4) l2 ([]:List Int) true v5) (cond (v4&&(b21==44)) ((app l2 ([(⟨b1.Attr_,(byS l3)⟩:A4)]:List A4)).bind fun l23=>spec_ReadName_j1 (⟨b1.Attr_,(byS l3)⟩:A4) l23 ([]:List Int) false v5) (cond (v4&&(b21==92)) (cond ((IntKind.i64.wrap (v5+1))==(a0.size:Int)) (some (.inr (.inr (([]:List A4),false)))) ((Cr a0 (IntKind.i64.wrap (v5+1))).bind fun b25=>(app l3 ([b25]:List Int)).bind fun l27=>spec_ReadName_j1 b1 l2 l27 v4 (IntKind.i64.wrap (v5+1)))) ((app l3 ([b21]:List Int)).bind fun l29=>spec_ReadName_j1 b1 l2 l29 v4 v5)))) (some (.inr (.inl (b1,l2,l3,v4))))
noncomputable def spec_ReadName(a0:ByteArray):Option ((List A4)×Bool) :=
  cond (a0.toList==e0.toList) (some (([]:List A4),true)) (cond (decide ((a0.size:Int) > 2000)) (some (([]:List A4),false)) ((loopO (spec_ReadName_l1 a0) ((⟨e0,e0⟩:A4),([]:List A4),([]:List Int),false,0)).bind fun q31=>(match q31 with | .inl (b6,l7,l8,v9)=>(app l7 ([(⟨b6.Attr_,(byS l8)⟩:A4)]:List A4)).bind fun l11=>(gdO (!(!v9)) (spec_NameText l11)).bind fun r13=>cond ((!v9)||(!(r13.toList==a0.toList))) (some (([]:List A4),false)) (some (l11,true)) | .inr q10=>some q10)))
theorem spec_ReadName_p  {a0 : ByteArray} {R0 : (List     A4)} {R1 : Bool} (H : spec_ReadName a0 = some (R0, R1)) :   Bu Tryz.prog 130 [.str a0] (.tup [.im false (R0.map (      A5 false)), .bool R1]) := by
 refine Ba.of_TN (n:=86) Tryz.func130 rfl rfl rfl rfl ?_
 refine au 11 ?_
 refine T.cH H ?_ ?_<;>intro H h
 ·refine au 6 ?_
  refine Aj ?_
  cases Ad H
  exact⟨trivial,_,(.tmp _ _ _ _ rfl (.tmp _ _ _ _ rfl .nil)),(.tupL (.cons _ _ _ _ .nil (.cons _ _ _ _ (.cl _ rfl) .nil)))⟩
 ·refine au 8 ?_
  refine T.cH H ?_ ?_<;>intro H h
  ·refine au 6 ?_
   refine Aj ?_
   cases Ad H
   exact⟨trivial,_,(.tmp _ _ _ _ rfl (.tmp _ _ _ _ rfl .nil)),(.tupL (.cons _ _ _ _ .nil (.cons _ _ _ _ (.cl _ rfl) .nil)))⟩
  ·refine au 25 ?_
   refine T.conv (Cs.own (t:=4) 2 rfl (by decide)) ?_
   refine T.conv (Cs.own (t:=6) 1 rfl (by decide)) ?_
   obtain⟨q31,h32,H⟩:=Ac H
   refine T.lq (fun s=>match s with | (b1,l2,l3,v4,v5)=>[(0,.str a0),(4,.hd 1 (l2.map (A5 false)).length 0 (l2.map (A5 false)).length),(5,.bx 0 0),(6,.hd 2 (l3.map (c_int .u8)).length 0 (l3.map (c_int .u8)).length),(7,.bool v4),(8,.int .i64 v5)]) (fun s=>match s with | (b1,l2,l3,v4,v5)=>[.box (A5 false b1),.arr .clo 2 (l2.map (A5 false)),.arr .clo 1 (l3.map (c_int .u8))]) (fun q ex fr σ=>match q with | .inl (b6,l7,l8,v9)=>ex = .exit 0∧fr = [(0,.str a0),(4,.hd 1 (l7.map (A5 false)).length 0 (l7.map (A5 false)).length),(5,.bx 0 0),(6,.hd 2 (l8.map (c_int .u8)).length 0 (l8.map (c_int .u8)).length),(7,.bool v9)]∧σ = [.box (A5 false b6),.arr .clo 2 (l7.map (A5 false)),.arr .clo 1 (l8.map (c_int .u8))] | .inr q10=>ex = .ret∧C5 Tryz.prog [.tmp 2,.tmp 3] (fun v τ=>Told τ v (.tup [.im false (q10.1.map (A5 false)),.bool q10.2])) .ret fr σ) h32 ?_ ?_
   ·rintro⟨b1,l2,l3,v4,v5⟩ y15 H
    refine au 8 ?_
    refine T.cH H ?_ ?_<;>intro H h
    ·refine T.skip ?_
     refine T.cut (fun fr' σ'=>∃ (b16:A4) (l17:List A4) (l18:List Int) (v19:Bool) (v20:Int),fr' = [(0,.str a0),(4,.hd 1 (l17.map (A5 false)).length 0 (l17.map (A5 false)).length),(5,.bx 0 0),(6,.hd 2 (l18.map (c_int .u8)).length 0 (l18.map (c_int .u8)).length),(7,.bool v19),(8,.int .i64 v20)]∧σ' = [.box (A5 false b16),.arr .clo 2 (l17.map (A5 false)),.arr .clo 1 (l18.map (c_int .u8))]∧spec_ReadName_j1 b16 l17 l18 v19 v20=some y15) (T.pk ?_) ?_
     ·skip
      refine au 5 ?_
      obtain⟨b21,h22,H⟩:=Ac H
      refine TL.st rfl rfl rfl (Ct rfl rfl rfl rfl h22) ?_
      refine au 13 ?_
      refine T.cH H ?_ ?_<;>intro H h
      ·refine au 3 ?_
       refine TL.st rfl rfl rfl (o_bsOwn (f:=c_int .u8) rfl rfl rfl rfl (fun _=>rfl) rfl rfl rfl) ?_
       refine au 6 ?_
       refine TL.conv (Cs.own (t:=6) 1 rfl (by decide)) ?_
       refine TL.conv (Cs.wkF (M:=4) (.k 0 rfl rfl (.k 4 rfl rfl (.k 5 rfl rfl (.k 6 rfl rfl (.k 7 rfl rfl (.k 8 rfl rfl (.k 9 rfl rfl (.k 16 rfl rfl (.k 17 rfl rfl (.k 18 rfl rfl (.k 19 rfl rfl (.k 22 rfl rfl (.k 23 rfl rfl (.k 24 rfl rfl (.k 29 rfl rfl (.k 30 rfl rfl (.k 31 rfl rfl (.k 32 rfl rfl (.k 35 rfl rfl (.k 37 rfl rfl (.k 38 rfl rfl .nil)))))))))))))))))))))) ?_
       refine TL.conv (Cs.reloc 2 3 rfl rfl (by decide) rfl rfl rfl (Bv rfl)) ?_
       refine TL.conv (Cs.wkF (M:=4) (.k 0 rfl rfl (.k 4 rfl rfl (.k 5 rfl rfl (.k 6 rfl rfl (.k 7 rfl rfl (.k 8 rfl rfl (.k 9 rfl rfl (.k 16 rfl rfl (.k 17 rfl rfl (.k 18 rfl rfl (.k 19 rfl rfl (.k 22 rfl rfl (.k 23 rfl rfl (.k 24 rfl rfl (.k 29 rfl rfl (.k 30 rfl rfl (.k 31 rfl rfl (.k 32 rfl rfl (.k 35 rfl rfl (.k 37 rfl rfl (.k 38 rfl rfl .nil)))))))))))))))))))))) ?_
       refine TL.conv (Cs.eqS (σ':=[.box [.str (byS l3),.str b1.Text_],_,.arr .clo 1 (([]:List Int).map (c_int .u8)),.dead]) rfl) ?_
       refine au 4 ?_
       refine Bh (Bh ?_)
       exact Pk.of (Af ⟨(⟨(byS l3),b1.Text_⟩:A4),l2,([]:List Int),true,v5,rfl,rfl,H⟩)
      ·refine au 9 ?_
       refine T.cH H ?_ ?_<;>intro H h
       ·refine au 3 ?_
        refine TL.st rfl rfl rfl (o_bsOwn (f:=c_int .u8) rfl rfl rfl rfl (fun _=>rfl) rfl rfl rfl) ?_
        refine au 7 ?_
        refine TL.st rfl rfl rfl (A8 (rows:=([(⟨b1.Attr_,(byS l3)⟩:A4)]:List A4).map (A5 false)) rfl rfl Em ⟨_,rfl,rfl⟩ (by decide) rfl rfl rfl rfl rfl rfl) ?_
        obtain⟨l23,h24,H⟩:=Ac H
        refine TL.st rfl rfl rfl (Ee (f:=A5 false) (xs:=l2) (ys:=([(⟨b1.Attr_,(byS l3)⟩:A4)]:List A4)) rfl rfl tyE_96 rfl rfl rfl rfl (by decide) rfl (fun _=>rfl) h24) ?_
        refine au 5 ?_
        refine TL.conv (Cs.own (t:=6) 1 rfl (by decide)) ?_
        refine TL.conv (Cs.wkF (M:=4) (.k 0 rfl rfl (.k 4 rfl rfl (.k 5 rfl rfl (.k 6 rfl rfl (.k 7 rfl rfl (.k 8 rfl rfl (.k 9 rfl rfl (.k 16 rfl rfl (.k 17 rfl rfl (.k 18 rfl rfl (.k 19 rfl rfl (.k 22 rfl rfl (.k 23 rfl rfl (.k 24 rfl rfl (.k 29 rfl rfl (.k 30 rfl rfl (.k 31 rfl rfl (.k 32 rfl rfl (.k 35 rfl rfl (.k 39 rfl rfl (.k 40 rfl rfl (.k 41 rfl rfl (.k 44 rfl rfl (.k 46 rfl rfl (.k 47 rfl rfl (.k 48 rfl rfl (.k 49 rfl rfl (.k 50 rfl rfl (.k 51 rfl rfl .nil)))))))))))))))))))))))))))))) ?_
        refine TL.conv (Cs.reloc 2 3 rfl rfl (by decide) rfl rfl rfl (Bv rfl)) ?_
        refine TL.conv (Cs.wkF (M:=4) (.k 0 rfl rfl (.k 4 rfl rfl (.k 5 rfl rfl (.k 6 rfl rfl (.k 7 rfl rfl (.k 8 rfl rfl (.k 9 rfl rfl (.k 16 rfl rfl (.k 17 rfl rfl (.k 18 rfl rfl (.k 19 rfl rfl (.k 22 rfl rfl (.k 23 rfl rfl (.k 24 rfl rfl (.k 29 rfl rfl (.k 30 rfl rfl (.k 31 rfl rfl (.k 32 rfl rfl (.k 35 rfl rfl (.k 39 rfl rfl (.k 40 rfl rfl (.k 41 rfl rfl (.k 44 rfl rfl (.k 46 rfl rfl (.k 47 rfl rfl (.k 48 rfl rfl (.k 49 rfl rfl (.k 50 rfl rfl (.k 51 rfl rfl .nil)))))))))))))))))))))))))))))) ?_
        refine TL.conv (Cs.eqS (σ':=[.box [.str b1.Attr_,.str (byS l3)],.arr .clo 2 (l23.map (A5 false)),.arr .clo 1 (([]:List Int).map (c_int .u8)),.dead]) rfl) ?_
        refine au 4 ?_
        refine Bh (Bh ?_)
        exact Pk.of (Af ⟨(⟨b1.Attr_,(byS l3)⟩:A4),l23,([]:List Int),false,v5,rfl,rfl,H⟩)
       ·refine au 9 ?_
        refine T.cH H ?_ ?_<;>intro H h
        ·refine au 14 ?_
         refine T.cH H ?_ ?_<;>intro H h
         ·refine au 6 ?_
          refine Aj (Av (Av ?_))
          refine Pk.id (Aj ?_)
          exact Pk.id (Aj ⟨.inr (([]:List A4),false),(Ad H).symm,rfl,⟨trivial,_,(.tmp _ _ _ _ rfl (.tmp _ _ _ _ rfl .nil)),(.tupL (.cons _ _ _ _ .nil (.cons _ _ _ _ (.cl _ rfl) .nil)))⟩⟩)
         ·refine au 5 ?_
          obtain⟨b25,h26,H⟩:=Ac H
          refine TL.st rfl rfl rfl (Ct rfl rfl rfl rfl h26) ?_
          refine TL.st rfl rfl rfl (A8 (rows:=([b25]:List Int).map (c_int .u8)) rfl rfl tyS_5 ⟨_,rfl,rfl⟩ (by decide) rfl rfl rfl rfl rfl rfl) ?_
          obtain⟨l27,h28,H⟩:=Ac H
          refine TL.st rfl rfl rfl (Ee (f:=c_int .u8) (xs:=l3) (ys:=([b25]:List Int)) rfl rfl tyE_5 rfl rfl rfl rfl (by decide) rfl (fun _=>rfl) h28) ?_
          refine au 2 ?_
          refine Bh (Bh ?_)
          exact Pk.of (Af ⟨b1,l2,l27,v4,(IntKind.i64.wrap (v5+1)),rfl,rfl,H⟩)
        ·refine au 3 ?_
         refine TL.st rfl rfl rfl (A8 (rows:=([b21]:List Int).map (c_int .u8)) rfl rfl tyS_5 ⟨_,rfl,rfl⟩ (by decide) rfl rfl rfl rfl rfl rfl) ?_
         obtain⟨l29,h30,H⟩:=Ac H
         refine TL.st rfl rfl rfl (Ee (f:=c_int .u8) (xs:=l3) (ys:=([b21]:List Int)) rfl rfl tyE_5 rfl rfl rfl rfl (by decide) rfl (fun _=>rfl) h30) ?_
         refine au 2 ?_
         refine Bh (Bh ?_)
         exact Pk.of (Af ⟨b1,l2,l29,v4,v5,rfl,rfl,H⟩)
     ·rintro _ _ ⟨b16,l17,l18,v19,v20,rfl,rfl,H⟩
      refine au 5 ?_
      exact Pk.of (Af ⟨(b16,l17,l18,v19,(IntKind.i64.wrap (v20+1))),(Ad H).symm,rfl,rfl⟩)
    ·refine T.exit ?_
     refine Am ?_
     exact Pk.of (Am ⟨.inl (b1,l2,l3,v4),(Ad H).symm,rfl,rfl,rfl⟩)
   ·rcases q31 with ⟨b6,l7,l8,v9⟩ | q10
    ·rintro _ _ _ ⟨rfl,rfl,rfl⟩
     refine A6 ?_
     refine au 3 ?_
     refine TL.st rfl rfl rfl (o_bsOwn (f:=c_int .u8) rfl rfl rfl rfl (fun _=>rfl) rfl rfl rfl) ?_
     refine au 7 ?_
     refine TL.st rfl rfl rfl (A8 (rows:=([(⟨b6.Attr_,(byS l8)⟩:A4)]:List A4).map (A5 false)) rfl rfl Em ⟨_,rfl,rfl⟩ (by decide) rfl rfl rfl rfl rfl rfl) ?_
     obtain⟨l11,h12,H⟩:=Ac H
     refine TL.st rfl rfl rfl (Ee (f:=A5 false) (xs:=l7) (ys:=([(⟨b6.Attr_,(byS l8)⟩:A4)]:List A4)) rfl rfl tyE_96 rfl rfl rfl rfl (by decide) rfl (fun _=>rfl) h12) ?_
     refine au 9 ?_
     obtain⟨r13,h14,H⟩:=Ac H
     refine TL.gcq rfl rfl rfl (.bool _) rfl rfl (fun h=>Aq rfl en_156 rfl (Dc (gv h rfl)) (.cons _ _ _ _ (.own rfl (by decide) rfl) .nil) (spec_NameText_p true (Bq h14 h))) ?_
     refine TL.gcq rfl rfl rfl (.bool _) rfl rfl (fun h=>Bp rfl rfl) ?_
     refine TL.gcq rfl rfl rfl (.bool _) rfl rfl (fun h=>E4 rfl (gv h rfl) (gv h rfl) rfl) ?_
     refine au 2 ?_
     refine T.cH H ?_ ?_<;>intro H h
     ·refine au 6 ?_
      refine Aj ?_
      cases Ad H
      exact⟨trivial,_,(.tmp _ _ _ _ rfl (.tmp _ _ _ _ rfl .nil)),(.tupL (.cons _ _ _ _ .nil (.cons _ _ _ _ (.cl _ rfl) .nil)))⟩
     ·refine au 8 ?_
      cases Ad H
      exact⟨trivial,_,(.tmp _ _ _ _ rfl (.tmp _ _ _ _ rfl .nil)),(.tupL (.cons _ _ _ _ (.own rfl (by decide) rfl) (.cons _ _ _ _ (.cl _ rfl) .nil)))⟩
    ·rintro _ fr1 σ1 ⟨rfl,hr⟩
     refine Av (Aj ?_)
     cases Ad H
     exact hr
theorem en_130:En Tryz.prog 130:=.of Tryz.func130 rfl rfl
noncomputable def spec_l3Of(a0:Int)(a1:ByteArray):Option Bool :=
  cond (a0==3) ((spec_l1Whole a1).bind fun q=>(match q with | (r1,r2)=>some r2)) (cond (a0==4) ((spec_ReadName a1).bind fun q=>(match q with | (r4,r5)=>some r5)) (some true))
theorem spec_l3Of_p {a0:Int} {a1:ByteArray} {R0:Bool} (H:spec_l3Of a0 a1=some R0):Bu Tryz.prog 86 [.int .i64 a0,.str a1] (.bool R0):=by
 refine Ba.of_TN (n:=26) Tryz.func86 rfl rfl rfl rfl ?_
 refine au 15 ?_
 refine T.cH H ?_ ?_<;>intro H h
 ·refine au 3 ?_
  obtain⟨⟨r1,r2⟩,h3,H⟩:=Ac H
  refine TL.st rfl rfl rfl (Aq rfl en_129 rfl rfl (.cons _ _ _ _ (.cl _ rfl) .nil) (spec_l1Whole_p  h3)) ?_
  refine au 12 ?_
  refine Av (Aj ?_)
  cases Ad H
  exact⟨trivial,_,(.tmp _ _ _ _ rfl .nil),(.cl _ rfl)⟩
 ·refine au 5 ?_
  refine T.cH H ?_ ?_<;>intro H h
  ·refine au 3 ?_
   obtain⟨⟨r4,r5⟩,h6,H⟩:=Ac H
   refine TL.st rfl rfl rfl (Aq rfl en_130 rfl rfl (.cons _ _ _ _ (.cl _ rfl) .nil) (spec_ReadName_p  h6)) ?_
   refine au 12 ?_
   refine Av (Aj ?_)
   cases Ad H
   exact⟨trivial,_,(.tmp _ _ _ _ rfl .nil),(.cl _ rfl)⟩
  ·refine au 6 ?_
   cases Ad H
   exact⟨trivial,_,(.tmp _ _ _ _ rfl .nil),(.cl _ rfl)⟩
theorem en_86:En Tryz.prog 86:=.of Tryz.func86 rfl rfl
noncomputable def spec_l3Same(a0:Int)(a1:ByteArray)(a2:ByteArray):Option Bool :=
  cond (a0==1) ((E6 a1).bind fun r1=>(E6 a2).bind fun r3=>some (r1.toList==r3.toList)) ((gdO (a0==3) (spec_l3Of a0 a1)).bind fun r5=>cond ((a0==3)&&(!r5)) (some false) (some (a1.toList==a2.toList)))
theorem spec_l3Same_p {a0:Int} {a1:ByteArray} {a2:ByteArray} {R0:Bool} (H:spec_l3Same a0 a1 a2=some R0):Bu Tryz.prog 87 [.int .i64 a0,.str a1,.str a2] (.bool R0):=by
 refine Ba.of_TN (n:=25) Tryz.func87 rfl rfl rfl rfl ?_
 refine au 10 ?_
 refine T.cH H ?_ ?_<;>intro H h
 ·refine au 3 ?_
  obtain⟨r1,h2,H⟩:=Ac H
  refine TL.st rfl rfl rfl (Aq rfl en_85 rfl rfl (.cons _ _ _ _ (.cl _ rfl) .nil) (MT.lib_85  h2)) ?_
  refine TL.st rfl rfl rfl (Bp rfl rfl) ?_
  obtain⟨r3,h4,H⟩:=Ac H
  refine TL.st rfl rfl rfl (Aq rfl en_85 rfl rfl (.cons _ _ _ _ (.cl _ rfl) .nil) (MT.lib_85  h4)) ?_
  refine au 4 ?_
  refine Aj ?_
  cases Ad H
  exact⟨trivial,_,(.tmp _ _ _ _ rfl .nil),(.cl _ rfl)⟩
 ·refine au 9 ?_
  obtain⟨r5,h6,H⟩:=Ac H
  refine TL.gcq rfl rfl rfl (.bool _) rfl rfl (fun h=>Aq rfl en_86 rfl (E5 (gv h rfl) (gv h rfl)) (.cons _ _ _ _ (.cl _ rfl) (.cons _ _ _ _ (.cl _ rfl) .nil)) (spec_l3Of_p  (Bq h6 h))) ?_
  refine au 3 ?_
  refine T.cH H ?_ ?_<;>intro H h
  ·refine au 5 ?_
   refine Aj ?_
   cases Ad H
   exact⟨trivial,_,(.tmp _ _ _ _ rfl .nil),(.cl _ rfl)⟩
  ·refine au 9 ?_
   cases Ad H
   exact⟨trivial,_,(.tmp _ _ _ _ rfl .nil),(.cl _ rfl)⟩
theorem en_87:En Tryz.prog 87:=.of Tryz.func87 rfl rfl
noncomputable def spec_l3Below(a0:Int)(a1:ByteArray)(a2:ByteArray):Option Int :=
  cond (a0==3) ((spec_l1Whole a1).bind fun q=>(match q with | (r1,r2)=>(spec_l1Whole a2).bind fun q=>(match q with | (r4,r5)=>(spec_l1CmpNum r1 r4).bind fun r7=>some r7))) (cond (a0==1) ((E6 a1).bind fun r9=>(E6 a2).bind fun r11=>(B0 r9 r11).bind fun r13=>some r13) ((B0 a1 a2).bind fun r15=>some r15))
theorem spec_l3Below_p {a0:Int} {a1:ByteArray} {a2:ByteArray} {R0:Int} (H:spec_l3Below a0 a1 a2=some R0):Bu Tryz.prog 88 [.int .i64 a0,.str a1,.str a2] (.int .i64 R0):=by
 refine Ba.of_TN (n:=37) Tryz.func88 rfl rfl rfl rfl ?_
 refine au 15 ?_
 refine T.cH H ?_ ?_<;>intro H h
 ·refine au 3 ?_
  obtain⟨⟨r1,r2⟩,h3,H⟩:=Ac H
  refine TL.st rfl rfl rfl (Aq rfl en_129 rfl rfl (.cons _ _ _ _ (.cl _ rfl) .nil) (spec_l1Whole_p  h3)) ?_
  refine au 9 ?_
  obtain⟨⟨r4,r5⟩,h6,H⟩:=Ac H
  refine TL.st rfl rfl rfl (Aq rfl en_129 rfl rfl (.cons _ _ _ _ (.cl _ rfl) .nil) (spec_l1Whole_p  h6)) ?_
  refine au 10 ?_
  obtain⟨r7,h8,H⟩:=Ac H
  refine TL.st rfl rfl rfl (Aq rfl en_106 rfl rfl (.cons _ _ _ _ (.cl _ rfl) (.cons _ _ _ _ (.cl _ rfl) .nil)) (spec_l1CmpNum_p  h8)) ?_
  refine au 3 ?_
  refine Av (Aj ?_)
  cases Ad H
  exact⟨trivial,_,(.tmp _ _ _ _ rfl .nil),(.cl _ rfl)⟩
 ·refine au 5 ?_
  refine T.cH H ?_ ?_<;>intro H h
  ·refine au 3 ?_
   obtain⟨r9,h10,H⟩:=Ac H
   refine TL.st rfl rfl rfl (Aq rfl en_85 rfl rfl (.cons _ _ _ _ (.cl _ rfl) .nil) (MT.lib_85  h10)) ?_
   refine TL.st rfl rfl rfl (Bp rfl rfl) ?_
   obtain⟨r11,h12,H⟩:=Ac H
   refine TL.st rfl rfl rfl (Aq rfl en_85 rfl rfl (.cons _ _ _ _ (.cl _ rfl) .nil) (MT.lib_85  h12)) ?_
   obtain⟨r13,h14,H⟩:=Ac H
   refine TL.st rfl rfl rfl (Aq rfl en_61 rfl rfl (.cons _ _ _ _ (.cl _ rfl) (.cons _ _ _ _ (.cl _ rfl) .nil)) (spec_l1CmpText_p  h14)) ?_
   refine au 3 ?_
   refine Av (Aj ?_)
   cases Ad H
   exact⟨trivial,_,(.tmp _ _ _ _ rfl .nil),(.cl _ rfl)⟩
  ·refine au 5 ?_
   obtain⟨r15,h16,H⟩:=Ac H
   refine TL.st rfl rfl rfl (Aq rfl en_61 rfl rfl (.cons _ _ _ _ (.cl _ rfl) (.cons _ _ _ _ (.cl _ rfl) .nil)) (spec_l1CmpText_p  h16)) ?_
   refine au 3 ?_
   cases Ad H
   exact⟨trivial,_,(.tmp _ _ _ _ rfl .nil),(.cl _ rfl)⟩
theorem en_88:En Tryz.prog 88:=.of Tryz.func88 rfl rfl
noncomputable def spec_l3Match_j2(v2:Int)(v3:Int)(v12:Int):Option ((Int×Int)⊕Int) :=
  cond ((v12==0)||((v12==2)&&(v2==1))) (some (.inl (v12,(IntKind.i64.wrap (v3+1))))) (some (.inl (v2,(IntKind.i64.wrap (v3+1)))))
noncomputable def spec_l3Match_l1(a0:Ah)(a1:Ay)(a2:A3)(rec_spec_l3Match:(Ah×Ay×A3)→Option Int):(Int×Int)→Option ((Int×Int)⊕Int):=fun s=>match s with
  | (v2,v3)=>cond (decide (v3<(a2.kids_.length:Int))) ((idx a2.kids_ v3).bind fun w7=>(dec_T_spec_l3F w7).bind fun e6=>(rec_spec_l3Match (a0,a1,e6)).bind fun r10=>cond ((a2.n_.Kind_==2)&&(r10 != 2)) (spec_l3Match_j2 v2 v3 (IntKind.i64.wrap (1 - r10))) (spec_l3Match_j2 v2 v3 r10)) (some (.inr v2))
noncomputable def spec_l3Match_l2(a2:A3)(r21:Ar)(r24:(List ByteArray)):(Bool×Int)→Option ((Bool×Int)⊕Bool):=fun s=>match s with
  | (v28,v29)=>cond (decide (v29<(r24.length:Int))) ((idx r24 v29).bind fun e34=>cond (r21.Syntax_==1) ((gdO (!v28) (E6 e34)).bind fun r36=>(gdO (!v28) (E6 a2.n_.Text_)).bind fun r38=>(gdO (!v28) (spec_Like r36 r38)).bind fun r40=>some (.inl ((v28||r40),(IntKind.i64.wrap (v29+1))))) ((gdO (!v28) (spec_Like e34 a2.n_.Text_)).bind fun r42=>some (.inl ((v28||r42),(IntKind.i64.wrap (v29+1)))))) (some (.inr v28))
noncomputable def spec_l3Match_l3(a2:A3)(r21:Ar)(r24:(List ByteArray)):(Bool×Int)→Option ((Bool×Int)⊕Bool):=fun s=>match s with
  | (v48,v49)=>cond (decide (v49<(r24.length:Int))) ((idx r24 v49).bind fun e54=>cond (a2.n_.Kind_==4) ((gdO (!v48) (spec_l3Same r21.Syntax_ e54 a2.n_.Text_)).bind fun r56=>some (.inl ((v48||r56),(IntKind.i64.wrap (v49+1))))) ((spec_l3Of r21.Syntax_ e54).bind fun r58=>cond (!r58) (some (.inl (v48,(IntKind.i64.wrap (v49+1))))) (cond (a2.n_.Kind_==5) ((gdO (!v48) (spec_l3Below r21.Syntax_ e54 a2.n_.Text_)).bind fun r60=>some (.inl ((v48||decide (r60≥0)),(IntKind.i64.wrap (v49+1))))) ((gdO (!v48) (spec_l3Below r21.Syntax_ e54 a2.n_.Text_)).bind fun r62=>some (.inl ((v48||decide (r62≤0)),(IntKind.i64.wrap (v49+1)))))))) (some (.inr v48))
noncomputable def Cf(a0:Ah)(a1:Ay)(a2:A3)(rec_spec_l3Match:(Ah×Ay×A3)→Option Int)(v1:Bool):Option Int :=
  cond v1 ((loopO (spec_l3Match_l1 a0 a1 a2 rec_spec_l3Match) (1,0)).bind fun v4=>(match v4 with | v4=>cond ((a2.n_.Kind_==2)&&(v4 != 2)) (some (IntKind.i64.wrap (1 - v4))) (some v4))) (cond (a2.n_.Kind_==3) ((idx a2.kids_ 0).bind fun w16=>(dec_T_spec_l3F w16).bind fun e15=>(rec_spec_l3Match (a0,a1,e15)).bind fun r19=>cond (r19==2) (some r19) (some (IntKind.i64.wrap (1 - r19)))) ((spec_l3Type a0 a2.n_.Attr_).bind fun q=>(match q with | (r21,r22)=>cond (!r22) (some 2) ((spec_l3Values a1 a2.n_.Attr_).bind fun r24=>cond (a2.n_.Kind_==7) ((spec_l3Said (decide ((r24.length:Int) > 0))).bind fun r26=>some r26) (cond (a2.n_.Kind_==8) (cond (decide (r21.Syntax_ > 2)) (some 2) ((loopO (spec_l3Match_l2 a2 r21 r24) (false,0)).bind fun v30=>(match v30 with | v30=>(spec_l3Said v30).bind fun r31=>some r31))) ((spec_l3Of r21.Syntax_ a2.n_.Text_).bind fun r46=>cond ((!r46)||((a2.n_.Kind_ != 4)&&(r21.Syntax_==4))) (some 2) ((loopO (spec_l3Match_l3 a2 r21 r24) (false,0)).bind fun v50=>(match v50 with | v50=>(spec_l3Said v50).bind fun r51=>some r51))))))))
noncomputable def Ca(rec_spec_l3Match:(Ah×Ay×A3)→Option Int)(a0:Ah)(a1:Ay)(a2:A3):Option Int :=
  cond (a2.n_.Kind_==1) (Cf a0 a1 a2 rec_spec_l3Match (a2.n_.Kind_==1)) (Cf a0 a1 a2 rec_spec_l3Match (a2.n_.Kind_==2))
noncomputable def spec_l3Match(a0:Ah)(a1:Ay)(a2:A3):Option Int:=fixO (fun rec_spec_l3Match x=>match x with | (a0,a1,a2)=>Ca rec_spec_l3Match a0 a1 a2) (a0,a1,a2)
theorem spec_l3Match_pb {rec_spec_l3Match : (         Ah ×      Ay ×         A3) → Option Int} (Hrec_spec_l3Match : ∀ (b0 : Bool) (b1 : Bool) (b2 : Bool) {a0 :          Ah} {a1 :      Ay} {a2 :         A3} {R0 : Int}, rec_spec_l3Match (a0, a1, a2) = some R0 →   Bu Tryz.prog 37 [.agg (           At b0 a0), .agg (       An b1 a1), .agg (          A7 b2 a2)] (.int .i64 R0)) (b0 : Bool) (b1 : Bool) (b2 : Bool) {a0 :          Ah} {a1 :      Ay} {a2 :         A3} {R0 : Int} (H :             Ca rec_spec_l3Match a0 a1 a2 = some R0) :   Bu Tryz.prog 37 [.agg (           At b0 a0), .agg (       An b1 a1), .agg (          A7 b2 a2)] (.int .i64 R0) := by
 refine Ba.of_TN (n:=206) Tryz.func37 rfl rfl rfl rfl ?_
 refine au 8 ?_
 refine T.conv (Cs.eqS (σ':=[.box (At b0 a0),.box (An b1 a1),.box (A7 b2 a2)]) rfl) ?_
 refine au 13 ?_
 refine T.cut (fun fr' σ'=>∃ (v1:Bool),fr' = [(3,.bx 0 0),(4,.bx 1 0),(5,.bx 2 0),(7,.bx 3 0),(24,.int .i64 a2.n_.Kind_),(25,.bool v1)]∧σ' = [.box (At b0 a0),.box (An b1 a1),.box (A7 b2 a2),.box (Ab b2 a2.n_)]∧Cf a0 a1 a2 rec_spec_l3Match v1=some R0) (T.pk ?_) ?_
 ·skip
  refine au 5 ?_
  refine T.cH H ?_ ?_<;>intro H h
  ·refine T.skip ?_
   exact Pk.of (Af ⟨(a2.n_.Kind_==1),rfl,rfl,H⟩)
  ·refine au 4 ?_
   exact Pk.of (Af ⟨(a2.n_.Kind_==2),rfl,rfl,H⟩)
 ·rintro _ _ ⟨v1, rfl, rfl, H⟩
  refine T.cH H ?_ ?_<;>intro H h
  ·refine au 9 ?_
   refine TL.st rfl rfl rfl (Bf (f:=Ek) rfl rfl rfl) ?_
   refine au 3 ?_
   obtain⟨v4,h14,H⟩:=Ac H
   refine T.lq (fun s=>match s with | (v2,v3)=>[(3,.bx 0 0),(4,.bx 1 0),(7,.bx 3 0),(8,.int .i64 v2),(29,.im b2 (a2.kids_.map (Ek))),(30,.int .i64 (a2.kids_.length:Int)),(31,.int .i64 v3)]) (fun s=>match s with | (v2,v3)=>[.box (At b0 a0),.box (An b1 a1),.box (A7 b2 a2),.box (Ab b2 a2.n_)]) (fun q ex fr σ=>match q with | v4=>ex = .exit 1∧fr = [(7,.bx 3 0),(8,.int .i64 v4)]∧σ = [.box (At b0 a0),.box (An b1 a1),.box (A7 b2 a2),.box (Ab b2 a2.n_)]) h14 ?_ ?_
   ·rintro⟨v2,v3⟩ y5 H
    refine au 5 ?_
    refine T.cH H ?_ ?_<;>intro H h
    ·refine au 5 ?_
     obtain⟨w7,h8,H⟩:=Ac H
     obtain⟨e6,h9,H⟩:=Ac H
     refine TL.st rfl rfl rfl (o_ixR (f:=Ek) rfl rfl tyS_80 rfl rfl h8 (dec_T_spec_l3F_s h9) rfl) ?_
     refine au 9 ?_
     obtain⟨r10,h11,H⟩:=Ac H
     refine TL.st rfl rfl rfl (Aq rfl en_37 rfl rfl (.cons _ _ _ _ (Lent.aggL (.cons _ _ _ _ (.imv _ _) (.cons _ _ _ _ (.imv _ _) .nil))) (.cons _ _ _ _ (Lent.aggL (.cons _ _ _ _ (.imv _ _) (.cons _ _ _ _ (.imv _ _) .nil))) (.cons _ _ _ _ (.cl _ rfl) .nil))) (Hrec_spec_l3Match b0 b1 false h11)) ?_
     refine au 2 ?_
     refine T.cut (fun fr' σ'=>∃ (v12:Int),fr' = [(3,.bx 0 0),(4,.bx 1 0),(7,.bx 3 0),(8,.int .i64 v2),(11,.int .i64 v12),(29,.im b2 (a2.kids_.map (Ek))),(30,.int .i64 (a2.kids_.length:Int)),(31,.int .i64 v3)]∧σ' = [.box (At b0 a0),.box (An b1 a1),.box (A7 b2 a2),.box (Ab b2 a2.n_),.box (A7 false e6)]∧spec_l3Match_j2 v2 v3 v12=some y5) (T.pk ?_) ?_
     ·skip
      refine au 10 ?_
      refine T.cH H ?_ ?_<;>intro H h
      ·refine au 5 ?_
       exact Pk.of (Af ⟨(IntKind.i64.wrap (1 - r10)),rfl,rfl,H⟩)
      ·refine T.skip ?_
       exact Pk.of (Af ⟨r10,rfl,rfl,H⟩)
     ·rintro _ _ ⟨v12,rfl,rfl,H⟩
      refine au 7 ?_
      refine TL.gcq rfl rfl rfl (.bool _) rfl rfl (fun h=>Bp rfl (gv h rfl)) ?_
      refine TL.gcq rfl rfl rfl (.gd _ _) rfl rfl (fun h=>Bp rfl rfl) ?_
      refine TL.gcq rfl rfl rfl (.gd _ _) rfl rfl (fun h=>B3 rfl (gv h rfl) rfl rfl) ?_
      refine TL.gcq rfl rfl rfl (.bool _) rfl rfl (fun h=>Eq rfl (gv h rfl) rfl (fun k=>Ed (andi h k)) rfl) ?_
      refine au 2 ?_
      refine T.cH H ?_ ?_<;>intro H h
      ·refine au 8 ?_
       exact Pk.of (Af ⟨(v12,(IntKind.i64.wrap (v3+1))),(Ad H).symm,rfl,rfl⟩)
      ·refine au 5 ?_
       exact Pk.of (Af ⟨(v2,(IntKind.i64.wrap (v3+1))),(Ad H).symm,rfl,rfl⟩)
    ·refine T.exit ?_
     refine Am ?_
     exact Pk.of (Am ⟨v2,(Ad H).symm,rfl,rfl,rfl⟩)
   ·rintro _ _ _ ⟨rfl,rfl,rfl⟩
    refine A6 ?_
    refine au 11 ?_
    refine T.cH H ?_ ?_<;>intro H h
    ·refine au 11 ?_
     refine Av (Aj ?_)
     cases Ad H
     exact⟨trivial,_,(.tmp _ _ _ _ rfl .nil),(.cl _ rfl)⟩
    ·refine au 7 ?_
     refine Av (Aj ?_)
     cases Ad H
     exact⟨trivial,_,(.tmp _ _ _ _ rfl .nil),(.cl _ rfl)⟩
  ·refine au 5 ?_
   refine T.cH H ?_ ?_<;>intro H h
   ·refine T.seq ?_
    refine T.drawn rfl ?_
    refine ad 4 ?_
    obtain⟨w16,h17,H⟩:=Ac H
    obtain⟨e15,h18,H⟩:=Ac H
    refine TD.qs rfl rfl (fun _=>o_ixR (f:=Ek) rfl rfl tyS_80 rfl rfl h17 (dec_T_spec_l3F_s h18) rfl) ?_
    refine TD.qs rfl rfl (fun _=>Bx rfl tyS_80 rfl (nb rfl) rfl) ?_
    obtain⟨r19,h20,H⟩:=Ac H
    refine TD.qs rfl rfl (fun _=>Aq rfl en_37 rfl rfl (.cons _ _ _ _ (Lent.aggL (.cons _ _ _ _ (.imv _ _) (.cons _ _ _ _ (.imv _ _) .nil))) (.cons _ _ _ _ (Lent.aggL (.cons _ _ _ _ (.imv _ _) (.cons _ _ _ _ (.imv _ _) .nil))) (.cons _ _ _ _ (.cl _ rfl) .nil))) (Hrec_spec_l3Match b0 b1 false h20)) ?_
    refine TD.qs rfl rfl (fun _=>Dm rfl rfl) ?_
    refine TD.nil ⟨rfl,?_⟩
    refine au 6 ?_
    refine T.cH H ?_ ?_<;>intro H h
    ·refine au 6 ?_
     refine Aj (Av (Aj ?_))
     cases Ad H
     exact⟨trivial,_,(.tmp _ _ _ _ rfl .nil),(.cl _ rfl)⟩
    ·refine au 8 ?_
     refine Av (Aj ?_)
     cases Ad H
     exact⟨trivial,_,(.tmp _ _ _ _ rfl .nil),(.cl _ rfl)⟩
   ·refine au 6 ?_
    obtain⟨⟨r21,r22⟩,h23,H⟩:=Ac H
    refine TL.st rfl rfl rfl (Aq rfl en_65 rfl rfl (.cons _ _ _ _ (Lent.aggL (.cons _ _ _ _ (.imv _ _) (.cons _ _ _ _ (.imv _ _) .nil))) (.cons _ _ _ _ (.cl _ rfl) .nil)) (spec_l3Type_p b0 h23)) ?_
    refine au 13 ?_
    refine T.cH H ?_ ?_<;>intro H h
    ·refine au 5 ?_
     refine Aj ?_
     cases Ad H
     exact⟨trivial,_,(.tmp _ _ _ _ rfl .nil),(.cl _ rfl)⟩
    ·refine au 6 ?_
     obtain⟨r24,h25,H⟩:=Ac H
     refine TL.st rfl rfl rfl (Aq rfl en_50 rfl rfl (.cons _ _ _ _ (Lent.aggL (.cons _ _ _ _ (.imv _ _) (.cons _ _ _ _ (.imv _ _) .nil))) (.cons _ _ _ _ (.cl _ rfl) .nil)) (spec_l3Values_p b1 h25)) ?_
     refine au 18 ?_
     refine T.cH H ?_ ?_<;>intro H h
     ·refine au 3 ?_
      refine TL.st rfl rfl rfl (Bf (f:=Aw) rfl rfl rfl) ?_
      refine TL.st rfl rfl rfl (B3 rfl rfl rfl rfl) ?_
      obtain⟨r26,h27,H⟩:=Ac H
      refine TL.st rfl rfl rfl (Aq rfl en_83 rfl rfl (.cons _ _ _ _ (.cl _ rfl) .nil) (spec_l3Said_p  h27)) ?_
      refine au 3 ?_
      refine Av (Aj ?_)
      cases Ad H
      exact⟨trivial,_,(.tmp _ _ _ _ rfl .nil),(.cl _ rfl)⟩
     ·refine au 5 ?_
      refine T.cH H ?_ ?_<;>intro H h
      ·refine au 7 ?_
       refine T.cH H ?_ ?_<;>intro H h
       ·refine au 5 ?_
        refine Aj (Av (Aj ?_))
        cases Ad H
        exact⟨trivial,_,(.tmp _ _ _ _ rfl .nil),(.cl _ rfl)⟩
       ·refine au 5 ?_
        refine TL.st rfl rfl rfl (Bf (f:=Aw) rfl rfl rfl) ?_
        refine au 3 ?_
        obtain⟨v30,h45,H⟩:=Ac H
        refine T.lq (fun s=>match s with | (v28,v29)=>[(7,.bx 3 0),(13,.bx 4 0),(16,.bool v28),(110,.im false (r24.map (Aw))),(111,.int .i64 (r24.length:Int)),(112,.int .i64 v29)]) (fun s=>match s with | (v28,v29)=>[.box (At b0 a0),.box (An b1 a1),.box (A7 b2 a2),.box (Ab b2 a2.n_),.box (Ae false r21)]) (fun q ex fr σ=>match q with | v30=>ex = .exit 4∧fr = [(16,.bool v30)]∧σ = [.box (At b0 a0),.box (An b1 a1),.box (A7 b2 a2),.box (Ab b2 a2.n_),.box (Ae false r21)]) h45 ?_ ?_
        ·rintro⟨v28,v29⟩ y33 H
         refine au 5 ?_
         refine T.cH H ?_ ?_<;>intro H h
         ·refine au 5 ?_
          obtain⟨e34,h35,H⟩:=Ac H
          refine TL.st rfl rfl rfl (B7 (f:=Aw) rfl rfl Bm rfl rfl h35 rfl) ?_
          refine au 9 ?_
          refine T.cH H ?_ ?_<;>intro H h
          ·refine T.drawn rfl ?_
           refine ad 3 ?_
           obtain⟨r36,h37,H⟩:=Ac H
           refine TD.cq rfl rfl rfl (.bool _) rfl (fun h _=>Aq rfl en_85 rfl (Dc (gv h rfl)) (.cons _ _ _ _ (.cl _ rfl) .nil) (MT.lib_85  (Bq h37 h))) ?_
           refine ad 2 ?_
           obtain⟨r38,h39,H⟩:=Ac H
           refine TD.cq rfl rfl rfl (.bool _) rfl (fun h _=>Aq rfl en_85 rfl (Dc (gv h rfl)) (.cons _ _ _ _ (.cl _ rfl) .nil) (MT.lib_85  (Bq h39 h))) ?_
           obtain⟨r40,h41,H⟩:=Ac H
           refine TD.cq rfl rfl rfl (.bool _) rfl (fun h _=>Aq rfl en_84 rfl (E5 (gv h rfl) (gv h rfl)) (.cons _ _ _ _ (.cl _ rfl) (.cons _ _ _ _ (.cl _ rfl) .nil)) (spec_Like_p  (Bq h41 h))) ?_
           refine ad 2 ?_
           refine TD.nil ⟨rfl,?_⟩
           refine au 4 ?_
           exact Pk.of (Af ⟨((v28||r40),(IntKind.i64.wrap (v29+1))),(Ad H).symm,rfl,rfl⟩)
          ·refine au 6 ?_
           obtain⟨r42,h43,H⟩:=Ac H
           refine TL.gcq rfl rfl rfl (.bool _) rfl rfl (fun h=>Aq rfl en_84 rfl (E5 (gv h rfl) (gv h rfl)) (.cons _ _ _ _ (.cl _ rfl) (.cons _ _ _ _ (.cl _ rfl) .nil)) (spec_Like_p  (Bq h43 h))) ?_
           refine au 7 ?_
           exact Pk.of (Af ⟨((v28||r42),(IntKind.i64.wrap (v29+1))),(Ad H).symm,rfl,rfl⟩)
         ·refine T.exit ?_
          refine Am ?_
          exact Pk.of (Am ⟨v28,(Ad H).symm,rfl,rfl,rfl⟩)
        ·rintro _ _ _ ⟨rfl,rfl,rfl⟩
         refine A6 ?_
         refine au 3 ?_
         obtain⟨r31,h32,H⟩:=Ac H
         refine TL.st rfl rfl rfl (Aq rfl en_83 rfl rfl (.cons _ _ _ _ (.cl _ rfl) .nil) (spec_l3Said_p  h32)) ?_
         refine au 3 ?_
         refine Av (Aj ?_)
         cases Ad H
         exact⟨trivial,_,(.tmp _ _ _ _ rfl .nil),(.cl _ rfl)⟩
      ·refine au 8 ?_
       obtain⟨r46,h47,H⟩:=Ac H
       refine TL.st rfl rfl rfl (Aq rfl en_86 rfl rfl (.cons _ _ _ _ (.cl _ rfl) (.cons _ _ _ _ (.cl _ rfl) .nil)) (spec_l3Of_p  h47)) ?_
       refine au 5 ?_
       refine TL.gcq rfl rfl rfl (.bool _) rfl rfl (fun h=>Bp rfl (gv h rfl)) ?_
       refine TL.gcq rfl rfl rfl (.gd _ _) rfl rfl (fun h=>Bb rfl rfl rfl Dj (by decide) rfl rfl ⟨_,rfl,Nat.le_of_ble_eq_true rfl⟩) ?_
       refine TL.gcq rfl rfl rfl (.gd _ _) rfl rfl (fun h=>Bs rfl Dj (gv h rfl) rfl (nb rfl) rfl) ?_
       refine TL.gcq rfl rfl rfl (.gd _ _) rfl rfl (fun h=>B3 rfl (gv h rfl) rfl rfl) ?_
       refine TL.gcq rfl rfl rfl (.bool _) rfl rfl (fun h=>Eq rfl (gv h rfl) rfl (fun k=>Ed (andi h k)) rfl) ?_
       refine au 2 ?_
       refine T.cH H ?_ ?_<;>intro H h
       ·refine au 5 ?_
        refine Aj ?_
        cases Ad H
        exact⟨trivial,_,(.tmp _ _ _ _ rfl .nil),(.cl _ rfl)⟩
       ·refine au 5 ?_
        refine TL.st rfl rfl rfl (Bf (f:=Aw) rfl rfl rfl) ?_
        refine au 3 ?_
        obtain⟨v50,h65,H⟩:=Ac H
        refine T.lq (fun s=>match s with | (v48,v49)=>[(7,.bx 3 0),(13,.bx 4 0),(16,.bool v48),(154,.im false (r24.map (Aw))),(155,.int .i64 (r24.length:Int)),(156,.int .i64 v49)]) (fun s=>match s with | (v48,v49)=>[.box (At b0 a0),.box (An b1 a1),.box (A7 b2 a2),.box (Ab b2 a2.n_),.box (Ae false r21)]) (fun q ex fr σ=>match q with | v50=>ex = .exit 6∧fr = [(16,.bool v50)]∧σ = [.box (At b0 a0),.box (An b1 a1),.box (A7 b2 a2),.box (Ab b2 a2.n_),.box (Ae false r21)]) h65 ?_ ?_
        ·rintro⟨v48,v49⟩ y53 H
         refine au 5 ?_
         refine T.cH H ?_ ?_<;>intro H h
         ·refine au 5 ?_
          obtain⟨e54,h55,H⟩:=Ac H
          refine TL.st rfl rfl rfl (B7 (f:=Aw) rfl rfl Bm rfl rfl h55 rfl) ?_
          refine au 11 ?_
          refine T.cH H ?_ ?_<;>intro H h
          ·refine au 8 ?_
           obtain⟨r56,h57,H⟩:=Ac H
           refine TL.gcq rfl rfl rfl (.bool _) rfl rfl (fun h=>Aq rfl en_87 rfl (evl_3 (gv h rfl) (gv h rfl) (gv h rfl)) (.cons _ _ _ _ (.cl _ rfl) (.cons _ _ _ _ (.cl _ rfl) (.cons _ _ _ _ (.cl _ rfl) .nil))) (spec_l3Same_p  (Bq h57 h))) ?_
           refine au 7 ?_
           exact Pk.of (Af ⟨((v48||r56),(IntKind.i64.wrap (v49+1))),(Ad H).symm,rfl,rfl⟩)
          ·refine au 5 ?_
           obtain⟨r58,h59,H⟩:=Ac H
           refine TL.st rfl rfl rfl (Aq rfl en_86 rfl rfl (.cons _ _ _ _ (.cl _ rfl) (.cons _ _ _ _ (.cl _ rfl) .nil)) (spec_l3Of_p  h59)) ?_
           refine au 3 ?_
           refine T.cH H ?_ ?_<;>intro H h
           ·refine au 5 ?_
            exact Pk.of (Af ⟨(v48,(IntKind.i64.wrap (v49+1))),(Ad H).symm,rfl,rfl⟩)
           ·refine au 7 ?_
            refine T.cH H ?_ ?_<;>intro H h
            ·refine au 8 ?_
             obtain⟨r60,h61,H⟩:=Ac H
             refine TL.gcq rfl rfl rfl (.bool _) rfl rfl (fun h=>Aq rfl en_88 rfl (evl_3 (gv h rfl) (gv h rfl) (gv h rfl)) (.cons _ _ _ _ (.cl _ rfl) (.cons _ _ _ _ (.cl _ rfl) (.cons _ _ _ _ (.cl _ rfl) .nil))) (spec_l3Below_p  (Bq h61 h))) ?_
             refine au 8 ?_
             exact Pk.of (Af ⟨((v48||decide (r60≥0)),(IntKind.i64.wrap (v49+1))),(Ad H).symm,rfl,rfl⟩)
            ·refine au 8 ?_
             obtain⟨r62,h63,H⟩:=Ac H
             refine TL.gcq rfl rfl rfl (.bool _) rfl rfl (fun h=>Aq rfl en_88 rfl (evl_3 (gv h rfl) (gv h rfl) (gv h rfl)) (.cons _ _ _ _ (.cl _ rfl) (.cons _ _ _ _ (.cl _ rfl) (.cons _ _ _ _ (.cl _ rfl) .nil))) (spec_l3Below_p  (Bq h63 h))) ?_
             refine au 8 ?_
             exact Pk.of (Af ⟨((v48||decide (r62≤0)),(IntKind.i64.wrap (v49+1))),(Ad H).symm,rfl,rfl⟩)
         ·refine T.exit ?_
          refine Am ?_
          exact Pk.of (Am ⟨v48,(Ad H).symm,rfl,rfl,rfl⟩)
        ·rintro _ _ _ ⟨rfl,rfl,rfl⟩
         refine A6 ?_
         refine au 3 ?_
         obtain⟨r51,h52,H⟩:=Ac H
         refine TL.st rfl rfl rfl (Aq rfl en_83 rfl rfl (.cons _ _ _ _ (.cl _ rfl) .nil) (spec_l3Said_p  h52)) ?_
         refine au 3 ?_
         cases Ad H
         exact⟨trivial,_,(.tmp _ _ _ _ rfl .nil),(.cl _ rfl)⟩
theorem spec_l3Match_p(b0:Bool)(b1:Bool)(b2:Bool){a0:Ah}{a1:Ay}{a2:A3}{R0:Int}(H:spec_l3Match a0 a1 a2=some R0):Bu Tryz.prog 37 [.agg (At b0 a0),.agg (An b1 a1),.agg (A7 b2 a2)] (.int .i64 R0) :=
 fixO_ind (fun x r=>match x,r with | (a0,a1,a2),R0=>∀ (b0:Bool) (b1:Bool) (b2:Bool),Bu Tryz.prog 37 [.agg (At b0 a0),.agg (An b1 a1),.agg (A7 b2 a2)] (.int .i64 R0)) (fun rec_spec_l3Match Hrec x r h=>match x,r,h with | (a0,a1,a2),R0,h=>fun b0 b1 b2=>spec_l3Match_pb (fun b0 b1 b2 {a0} {a1} {a2} {R0} h=>Hrec (a0,a1,a2) R0 h b0 b1 b2) b0 b1 b2 h) H b0 b1 b2
noncomputable def spec_MatchFilter(a0:Ah)(a1:Ay)(a2:(List Aa)):Option Int :=
  (spec_l3Tree a2).bind fun q=>(match q with | (r1,r2)=>(gdO (!(!r2)) (spec_GoodDirSchema a0)).bind fun r4=>(gdO (!((!r2)||(!r4))) (spec_GoodEntry a1)).bind fun r6=>cond (((!r2)||(!r4))||(!r6)) (some (-1)) ((spec_l3Match a0 a1 r1).bind fun r8=>some r8))
theorem spec_MatchFilter_p(b0:Bool)(b1:Bool)(b2:Bool){a0:Ah}{a1:Ay}{a2:(List Aa)}{R0:Int}(H:spec_MatchFilter a0 a1 a2=some R0):Bu Tryz.prog 8 [.agg (At b0 a0),.agg (An b1 a1),.im b2 (a2.map (Ab false))] (.int .i64 R0):=by
 refine Ba.of_TN (n:=30) Tryz.func8 rfl rfl rfl rfl ?_
 refine au 9 ?_
 obtain⟨⟨r1,r2⟩,h3,H⟩:=Ac H
 refine TL.st rfl rfl rfl (Aq rfl en_34 rfl rfl (.cons _ _ _ _ (.imv _ _) .nil) (spec_l3Tree_p b2 h3)) ?_
 refine au 9 ?_
 refine T.conv (Cs.eqS (σ':=[.box (At b0 a0),.box (An b1 a1),.box (A7 false r1)]) rfl) ?_
 refine au 4 ?_
 refine TL.gcq rfl rfl rfl (.bool _) rfl rfl (fun h=>Bs rfl Dy rfl rfl (nb rfl) rfl) ?_
 obtain⟨r4,h5,H⟩:=Ac H
 refine TL.gcq rfl rfl rfl (.bool _) rfl rfl (fun h=>Aq rfl en_35 rfl (Dc (gv h rfl)) (.cons _ _ _ _ (Lent.aggL (.cons _ _ _ _ (.imv _ _) (.cons _ _ _ _ (.imv _ _) .nil))) .nil) (spec_GoodDirSchema_p b0 (Bq h5 h))) ?_
 refine au 3 ?_
 refine TL.gcq rfl rfl rfl (.bool _) rfl rfl (fun h=>Bs rfl De rfl rfl (nb rfl) rfl) ?_
 obtain⟨r6,h7,H⟩:=Ac H
 refine TL.gcq rfl rfl rfl (.bool _) rfl rfl (fun h=>Aq rfl en_36 rfl (Dc (gv h rfl)) (.cons _ _ _ _ (Lent.aggL (.cons _ _ _ _ (.imv _ _) (.cons _ _ _ _ (.imv _ _) .nil))) .nil) (spec_GoodEntry_p b1 (Bq h7 h))) ?_
 refine au 3 ?_
 refine T.cH H ?_ ?_<;>intro H h
 ·refine au 5 ?_
  refine Aj ?_
  cases Ad H
  exact⟨trivial,_,(.tmp _ _ _ _ rfl .nil),(.cl _ rfl)⟩
 ·refine au 6 ?_
  obtain⟨r8,h9,H⟩:=Ac H
  refine TL.st rfl rfl rfl (Aq rfl en_37 rfl rfl (.cons _ _ _ _ (Lent.aggL (.cons _ _ _ _ (.imv _ _) (.cons _ _ _ _ (.imv _ _) .nil))) (.cons _ _ _ _ (Lent.aggL (.cons _ _ _ _ (.imv _ _) (.cons _ _ _ _ (.imv _ _) .nil))) (.cons _ _ _ _ (.cl _ rfl) .nil))) (spec_l3Match_p b0 b1 false h9)) ?_
  refine au 3 ?_
  cases Ad H
  exact⟨trivial,_,(.tmp _ _ _ _ rfl .nil),(.cl _ rfl)⟩
theorem en_8:En Tryz.prog 8:=.of Tryz.func8 rfl rfl
noncomputable def spec_l5Sorted_l3(v8:Int):(List ByteArray×Int)→Option ((List ByteArray×Int)⊕List ByteArray):=fun s=>match s with
  | (l13,v14)=>cond (decide (v14 > v8)) ((idx l13 (IntKind.i64.wrap (v14 - 1))).bind fun e19=>(idx l13 v14).bind fun e21=>some (.inl ((l13.set (Int.toNat v14) e19),(IntKind.i64.wrap (v14 - 1))))) (some (.inr l13))
noncomputable def spec_l5Sorted_l2(l1:List ByteArray)(e5:ByteArray):Int→Option (Int⊕Int):=fun s=>match s with
  | v7=>(gdO (decide (v7 > 0)) (idx l1 (IntKind.i64.wrap (v7 - 1)))).bind fun e26=>(gdO (decide (v7 > 0)) (B0 e26 e5)).bind fun r28=>cond (decide (v7 > 0)&&decide (r28 > 0)) (some (.inl (IntKind.i64.wrap (v7 - 1)))) (some (.inr v7))
noncomputable def spec_l5Sorted_l1(a0:(List ByteArray)):(List ByteArray×Int)→Option ((List ByteArray×Int)⊕List ByteArray):=fun s=>match s with
  | (l1,v2)=>cond (decide (v2<(a0.length:Int))) ((idx a0 v2).bind fun e5=>(loopO (spec_l5Sorted_l2 l1 e5) (l1.length:Int)).bind fun v8=>(match v8 with | v8=>(gdO (decide (v8 > 0)) (idx l1 (IntKind.i64.wrap (v8 - 1)))).bind fun e9=>cond (decide (v8 > 0)&&(e9.toList==e5.toList)) (some (.inl (l1,(IntKind.i64.wrap (v2+1))))) ((app l1 ([e5]:List ByteArray)).bind fun l11=>(loopO (spec_l5Sorted_l3 v8) (l11,(IntKind.i64.wrap ((l11.length:Int) - 1)))).bind fun l15=>(match l15 with | l15=>(idx l15 v8).bind fun e16=>some (.inl ((l15.set (Int.toNat v8) e5),(IntKind.i64.wrap (v2+1)))))))) (some (.inr l1))
noncomputable def spec_l5Sorted(a0:(List ByteArray)):Option (List ByteArray) :=
  (loopO (spec_l5Sorted_l1 a0) (([]:List ByteArray),0)).bind fun l3=>(match l3 with | l3=>some l3)
theorem spec_l5Sorted_p(b0:Bool){a0:(List ByteArray)}{R0:(List ByteArray)}(H:spec_l5Sorted a0=some R0):Bu Tryz.prog 63 [.im b0 (a0.map (Aw))] (.im false (R0.map (Aw))):=by
 refine Ba.of_TN (n:=67) Tryz.func63 rfl rfl rfl rfl ?_
 refine au 12 ?_
 refine TL.st rfl rfl rfl (Bf (f:=Aw) rfl rfl rfl) ?_
 refine au 3 ?_
 refine T.conv (Cs.own (t:=3) 1 rfl (by decide)) ?_
 obtain⟨l3,h33,H⟩:=Ac H
 refine T.lq (fun s=>match s with | (l1,v2)=>[(3,.hd 0 (l1.map (Aw)).length 0 (l1.map (Aw)).length),(8,.im b0 (a0.map (Aw))),(9,.int .i64 (a0.length:Int)),(10,.int .i64 v2)]) (fun s=>match s with | (l1,v2)=>[.arr .clo 1 (l1.map (Aw))]) (fun q ex fr σ=>match q with | l3=>ex = .exit 0∧fr = [(3,.hd 0 (l3.map (Aw)).length 0 (l3.map (Aw)).length)]∧σ = [.arr .clo 1 (l3.map (Aw))]) h33 ?_ ?_
 ·rintro⟨l1,v2⟩ y4 H
  refine au 5 ?_
  refine T.cH H ?_ ?_<;>intro H h
  ·refine au 5 ?_
   obtain⟨e5,h6,H⟩:=Ac H
   refine TL.st rfl rfl rfl (B7 (f:=Aw) rfl rfl Bm rfl rfl h6 rfl) ?_
   refine au 6 ?_
   refine TL.st rfl rfl rfl (Dt (f:=Aw) rfl rfl rfl rfl rfl) ?_
   refine au 4 ?_
   obtain⟨v8,h31,H⟩:=Ac H
   refine T.lq (fun s=>match s with | v7=>[(3,.hd 0 (l1.map (Aw)).length 0 (l1.map (Aw)).length),(5,.str e5),(6,.int .i64 v7),(8,.im b0 (a0.map (Aw))),(9,.int .i64 (a0.length:Int)),(10,.int .i64 v2)]) (fun s=>match s with | v7=>[.arr .clo 1 (l1.map (Aw))]) (fun q ex fr σ=>match q with | v8=>ex = .exit 2∧fr = [(3,.hd 0 (l1.map (Aw)).length 0 (l1.map (Aw)).length),(5,.str e5),(6,.int .i64 v8),(8,.im b0 (a0.map (Aw))),(9,.int .i64 (a0.length:Int)),(10,.int .i64 v2)]∧σ = [.arr .clo 1 (l1.map (Aw))]) h31 ?_ ?_
   ·rintro v7 y25 H
    refine au 9 ?_
    obtain⟨e26,h27,H⟩:=Ac H
    refine TL.gcq rfl rfl rfl (.bool _) rfl rfl (fun h=>C2 (f:=Aw) rfl rfl Bm (gv h rfl) (gv h rfl) rfl rfl (Bq h27 h) rfl) ?_
    refine TL.gcq rfl rfl rfl (.bool _) rfl rfl (fun h=>Cx rfl Bm (gv h rfl) rfl rfl (by rw[List.getElem?_map,(Ej (Bq h27 h)).2];rfl) (nb rfl) rfl) ?_
    refine TL.gcq rfl rfl rfl (.bool _) rfl rfl (fun h=>Bp rfl rfl) ?_
    obtain⟨r28,h29,H⟩:=Ac H
    refine TL.gcq rfl rfl rfl (.bool _) rfl rfl (fun h=>Aq rfl en_61 rfl (E5 (gv h rfl) (gv h rfl)) (.cons _ _ _ _ (.cl _ rfl) (.cons _ _ _ _ (.cl _ rfl) .nil)) (spec_l1CmpText_p  (Bq h29 h))) ?_
    refine au 3 ?_
    refine T.cH H ?_ ?_<;>intro H h
    ·refine au 7 ?_
     refine Bh ?_
     exact Pk.of (Af ⟨(IntKind.i64.wrap (v7 - 1)),(Ad H).symm,rfl,rfl⟩)
    ·refine T.exit ?_
     refine Am ?_
     exact Pk.of (Am ⟨v7,(Ad H).symm,rfl,rfl,rfl⟩)
   ·rintro _ _ _ ⟨rfl,rfl,rfl⟩
    refine A6 ?_
    refine au 9 ?_
    obtain⟨e9,h10,H⟩:=Ac H
    refine TL.gcq rfl rfl rfl (.bool _) rfl rfl (fun h=>C2 (f:=Aw) rfl rfl Bm (gv h rfl) (gv h rfl) rfl rfl (Bq h10 h) rfl) ?_
    refine TL.gcq rfl rfl rfl (.bool _) rfl rfl (fun h=>Cx rfl Bm (gv h rfl) rfl rfl (by rw[List.getElem?_map,(Ej (Bq h10 h)).2];rfl) (nb rfl) rfl) ?_
    refine TL.gcq rfl rfl rfl (.bool _) rfl rfl (fun h=>Bp rfl rfl) ?_
    refine TL.gcq rfl rfl rfl (.bool _) rfl rfl (fun h=>E4 rfl (gv h rfl) (gv h rfl) rfl) ?_
    refine au 2 ?_
    refine T.cH H ?_ ?_<;>intro H h
    ·refine T.exit ?_
     refine Am ?_
     refine A6 ?_
     refine au 4 ?_
     exact Pk.of (Af ⟨(l1,(IntKind.i64.wrap (v2+1))),(Ad H).symm,rfl,rfl⟩)
    ·refine au 5 ?_
     refine TL.st rfl rfl rfl (A8 (rows:=([e5]:List ByteArray).map (Aw)) rfl rfl Bm ⟨_,rfl,rfl⟩ (by decide) rfl rfl rfl rfl rfl rfl) ?_
     obtain⟨l11,h12,H⟩:=Ac H
     refine TL.st rfl rfl rfl (Ee (f:=Aw) (xs:=l1) (ys:=([e5]:List ByteArray)) rfl rfl tyE_9 rfl rfl rfl rfl (by decide) rfl (fun _=>rfl) h12) ?_
     refine au 6 ?_
     refine TL.st rfl rfl rfl (Dt (f:=Aw) rfl rfl rfl rfl rfl) ?_
     refine au 4 ?_
     obtain⟨l15,h24,H⟩:=Ac H
     refine T.lq (fun s=>match s with | (l13,v14)=>[(3,.hd 0 (l13.map (Aw)).length 0 (l13.map (Aw)).length),(5,.str e5),(6,.int .i64 v8),(7,.int .i64 v14),(8,.im b0 (a0.map (Aw))),(9,.int .i64 (a0.length:Int)),(10,.int .i64 v2)]) (fun s=>match s with | (l13,v14)=>[.arr .clo 1 (l13.map (Aw))]) (fun q ex fr σ=>match q with | l15=>ex = .exit 4∧fr = [(3,.hd 0 (l15.map (Aw)).length 0 (l15.map (Aw)).length),(5,.str e5),(6,.int .i64 v8),(8,.im b0 (a0.map (Aw))),(9,.int .i64 (a0.length:Int)),(10,.int .i64 v2)]∧σ = [.arr .clo 1 (l15.map (Aw))]) h24 ?_ ?_
     ·rintro⟨l13,v14⟩ y18 H
      refine au 7 ?_
      refine T.cH H ?_ ?_<;>intro H h
      ·refine au 9 ?_
       obtain⟨e19,h20,H⟩:=Ac H
       refine TL.st rfl rfl rfl (C2 (f:=Aw) rfl rfl Bm rfl rfl rfl rfl h20 rfl) ?_
       refine TL.st rfl rfl rfl (Cx rfl Bm rfl rfl rfl (by rw[List.getElem?_map,(Ej h20).2];rfl) (nb rfl) rfl) ?_
       obtain⟨e21,h22,H⟩:=Ac H
       refine TL.st rfl rfl rfl (C2 (f:=Aw) rfl rfl Bm rfl rfl rfl rfl h22 rfl) ?_
       refine TL.sn rfl rfl (Dz (f:=Aw) (xs:=l13) (k:=v14) (a:=e21) e19 rfl Bm rfl rfl rfl rfl (by decide) h22 rfl rfl rfl (fun _=>rfl) rfl) ?_
       refine TL.conv (Cs.eqV (t:=3) (v':=.hd 0 ((l13.set (Int.toNat v14) e19).map (Aw)).length 0 ((l13.set (Int.toNat v14) e19).map (Aw)).length) rfl (B2 _ (List.length_set ..))) ?_
       refine TL.conv (Cs.eqV (t:=53) (v':=.hd 0 ((l13.set (Int.toNat v14) e19).map (Aw)).length 0 ((l13.set (Int.toNat v14) e19).map (Aw)).length) rfl (B2 _ (List.length_set ..))) ?_
       refine TL.conv (Cs.eqV (t:=55) (v':=.hd 0 ((l13.set (Int.toNat v14) e19).map (Aw)).length 0 ((l13.set (Int.toNat v14) e19).map (Aw)).length) rfl (B2 _ (List.length_set ..))) ?_
       refine TL.conv (Cs.eqV (t:=60) (v':=.el 0 ((l13.set (Int.toNat v14) e19).map (Aw)).length (Int.toNat v14) 0) rfl (Dv _ _ _ (List.length_set ..))) ?_
       refine au 6 ?_
       exact Pk.of (Af ⟨((l13.set (Int.toNat v14) e19),(IntKind.i64.wrap (v14 - 1))),(Ad H).symm,rfl,rfl⟩)
      ·refine T.exit ?_
       refine Am ?_
       exact Pk.of (Am ⟨l13,(Ad H).symm,rfl,rfl,rfl⟩)
     ·rintro _ _ _ ⟨rfl,rfl,rfl⟩
      refine A6 ?_
      refine au 4 ?_
      obtain⟨e16,h17,H⟩:=Ac H
      refine TL.st rfl rfl rfl (C2 (f:=Aw) rfl rfl Bm rfl rfl rfl rfl h17 rfl) ?_
      refine TL.sn rfl rfl (Dz (f:=Aw) (xs:=l15) (k:=v8) (a:=e16) e5 rfl Bm rfl rfl rfl rfl (by decide) h17 rfl rfl rfl (fun _=>rfl) rfl) ?_
      refine TL.conv (Cs.eqV (t:=3) (v':=.hd 0 ((l15.set (Int.toNat v8) e5).map (Aw)).length 0 ((l15.set (Int.toNat v8) e5).map (Aw)).length) rfl (B2 _ (List.length_set ..))) ?_
      refine TL.conv (Cs.eqV (t:=61) (v':=.hd 0 ((l15.set (Int.toNat v8) e5).map (Aw)).length 0 ((l15.set (Int.toNat v8) e5).map (Aw)).length) rfl (B2 _ (List.length_set ..))) ?_
      refine TL.conv (Cs.eqV (t:=64) (v':=.el 0 ((l15.set (Int.toNat v8) e5).map (Aw)).length (Int.toNat v8) 0) rfl (Dv _ _ _ (List.length_set ..))) ?_
      refine au 5 ?_
      exact Pk.of (Af ⟨((l15.set (Int.toNat v8) e5),(IntKind.i64.wrap (v2+1))),(Ad H).symm,rfl,rfl⟩)
  ·refine T.exit ?_
   refine Am ?_
   exact Pk.of (Am ⟨l1,(Ad H).symm,rfl,rfl,rfl⟩)
 ·rintro _ _ _ ⟨rfl,rfl,rfl⟩
  refine A6 ?_
  refine au 6 ?_
  cases Ad H
  exact⟨trivial,_,(.tmp _ _ _ _ rfl .nil),(.own rfl (by decide) rfl)⟩
theorem en_63:En Tryz.prog 63:=.of Tryz.func63 rfl rfl
noncomputable def spec_l5CmpNest(a0:Bc)(a1:Bc):Option Int :=
  (B0 a0.Group_ a1.Group_).bind fun r1=>cond (r1 != 0) (some r1) ((B0 a0.Member_ a1.Member_).bind fun r3=>some r3)
theorem spec_l5CmpNest_p {a0:Bc} {a1:Bc} {R0:Int} (H:spec_l5CmpNest a0 a1=some R0):Bu Tryz.prog 109 [.agg (Au false a0),.agg (Au false a1)] (.int .i64 R0):=by
 refine Ba.of_TN (n:=19) Tryz.func109 rfl rfl rfl rfl ?_
 refine au 13 ?_
 obtain⟨r1,h2,H⟩:=Ac H
 refine TL.st rfl rfl rfl (Aq rfl en_61 rfl rfl (.cons _ _ _ _ (.cl _ rfl) (.cons _ _ _ _ (.cl _ rfl) .nil)) (spec_l1CmpText_p  h2)) ?_
 refine au 7 ?_
 refine T.cH H ?_ ?_<;>intro H h
 ·refine au 6 ?_
  refine Aj ?_
  cases Ad H
  exact⟨trivial,_,(.tmp _ _ _ _ rfl .nil),(.cl _ rfl)⟩
 ·refine au 7 ?_
  obtain⟨r3,h4,H⟩:=Ac H
  refine TL.st rfl rfl rfl (Aq rfl en_61 rfl rfl (.cons _ _ _ _ (.cl _ rfl) (.cons _ _ _ _ (.cl _ rfl) .nil)) (spec_l1CmpText_p  h4)) ?_
  refine au 3 ?_
  cases Ad H
  exact⟨trivial,_,(.tmp _ _ _ _ rfl .nil),(.cl _ rfl)⟩
theorem en_109:En Tryz.prog 109:=.of Tryz.func109 rfl rfl
noncomputable def spec_GoodNests_l1(a0:(List Bc)):Int→Option (Int⊕(Unit⊕Bool)):=fun s=>match s with
  | v1=>cond (decide (v1<(a0.length:Int))) ((idx a0 v1).bind fun e4=>(spec_l5Group e4.Group_).bind fun r6=>(gdO (!(!r6)) (Cb e4.Member_)).bind fun r8=>(gdO ((!((!r6)||(!r8)))&&decide (v1 > 0)) (idx a0 (IntKind.i64.wrap (v1 - 1)))).bind fun e10=>(gdO ((!((!r6)||(!r8)))&&decide (v1 > 0)) (spec_l5CmpNest e10 e4)).bind fun r12=>cond (((!r6)||(!r8))||(decide (v1 > 0)&&decide (r12≥0))) (some (.inr (.inr false))) (some (.inl (IntKind.i64.wrap (v1+1))))) (some (.inr (.inl ())))
noncomputable def spec_GoodNests(a0:(List Bc)):Option Bool :=
  cond (decide ((a0.length:Int) > 200)) (some false) ((loopO (spec_GoodNests_l1 a0) 0).bind fun q14=>(match q14 with | .inl _=>some true | .inr q2=>some q2))
theorem spec_GoodNests_p(b0:Bool){a0:(List Bc)}{R0:Bool}(H:spec_GoodNests a0=some R0):Bu Tryz.prog 64 [.im b0 (a0.map (Au false))] (.bool R0):=by
 refine Ba.of_TN (n:=40) Tryz.func64 rfl rfl rfl rfl ?_
 refine au 8 ?_
 refine TL.st rfl rfl rfl (Bf (f:=Au false) rfl rfl rfl) ?_
 refine au 2 ?_
 refine T.cH H ?_ ?_<;>intro H h
 ·refine au 5 ?_
  refine Aj ?_
  cases Ad H
  exact⟨trivial,_,(.tmp _ _ _ _ rfl .nil),(.cl _ rfl)⟩
 ·refine au 5 ?_
  refine TL.st rfl rfl rfl (Bf (f:=Au false) rfl rfl rfl) ?_
  refine au 3 ?_
  obtain⟨q14,h15,H⟩:=Ac H
  refine T.lq (fun s=>match s with | v1=>[(0,.im b0 (a0.map (Au false))),(8,.im b0 (a0.map (Au false))),(9,.int .i64 (a0.length:Int)),(10,.int .i64 v1)]) (fun s=>match s with | v1=>[]) (fun q ex fr σ=>match q with | .inl _=>ex = .exit 0∧fr = []∧σ = [] | .inr q2=>ex = .ret∧C5 Tryz.prog [.tmp 2] (fun v τ=>Told τ v (.bool q2)) .ret fr σ) h15 ?_ ?_
  ·rintro v1 y3 H
   refine au 5 ?_
   refine T.cH H ?_ ?_<;>intro H h
   ·refine au 6 ?_
    obtain⟨e4,h5,H⟩:=Ac H
    refine TL.st rfl rfl rfl (B7 (f:=Au false) rfl rfl C0 rfl rfl h5 rfl) ?_
    refine au 6 ?_
    refine T.drawn rfl ?_
    refine ad 2 ?_
    obtain⟨r6,h7,H⟩:=Ac H
    refine TD.qs rfl rfl (fun _=>Aq rfl en_60 rfl rfl (.cons _ _ _ _ (.cl _ rfl) .nil) (spec_l5Group_p  h7)) ?_
    refine ad 4 ?_
    obtain⟨r8,h9,H⟩:=Ac H
    refine TD.cq rfl rfl rfl (.bool _) rfl (fun h _=>Aq rfl en_62 rfl (Dc (gv h rfl)) (.cons _ _ _ _ (.cl _ rfl) .nil) (spec_GoodName_p  (Bq h9 h))) ?_
    refine TD.cq rfl rfl rfl (.bool _) rfl (fun h _=>o_not rfl (gv h rfl)) ?_
    refine ad 3 ?_
    refine TD.cq rfl rfl rfl (.bool _) rfl (fun h _=>B3 rfl (gv h rfl) rfl rfl) ?_
    refine TD.cq rfl rfl rfl (.bool _) rfl (fun h _=>Bp rfl (gv h rfl)) ?_
    refine TD.cq rfl rfl rfl (.gd _ _) rfl (fun h _=>Bp rfl rfl) ?_
    refine TD.cq rfl rfl rfl (.gd _ _) rfl (fun h _=>Bp rfl rfl) ?_
    refine TD.cq rfl rfl rfl (.gd _ _) rfl (fun h _=>B3 rfl (gv h rfl) rfl rfl) ?_
    obtain⟨e10,h11,H⟩:=Ac H
    refine TD.cq rfl rfl rfl (.gd _ _) rfl (fun h _=>B7 (f:=Au false) rfl rfl C0 (gv h rfl) (gv h rfl) (Bq h11 h) rfl) ?_
    refine TD.cq rfl rfl rfl (.gd _ _) rfl (fun h _=>Bx rfl C0 (gv h rfl) (nb rfl) rfl) ?_
    refine TD.cr rfl rfl rfl (.gd _ _) rfl (fun h=>Bs rfl C0 rfl rfl (nb rfl) rfl) ?_
    obtain⟨r12,h13,H⟩:=Ac H
    refine TD.cq rfl rfl rfl (.gd _ _) rfl (fun h _=>Aq rfl en_109 rfl (E5 (gv h rfl) (gv h rfl)) (.cons _ _ _ _ (.cl _ rfl) (.cons _ _ _ _ (.cl _ rfl) .nil)) (spec_l5CmpNest_p  (Bq h13 h))) ?_
    refine TD.cq rfl rfl rfl (.gd _ _) rfl (fun h _=>B3 rfl (gv h rfl) rfl rfl) ?_
    refine TD.cq rfl rfl rfl (.bool _) rfl (fun h _=>Eq rfl (gv h rfl) rfl (fun k=>Ed (andi h k)) rfl) ?_
    refine TD.qs rfl rfl (fun _=>o_or rfl rfl rfl rfl (fun k=>Ed k)) ?_
    refine TD.nil ⟨rfl,?_⟩
    refine Af ?_
    refine T.cH H ?_ ?_<;>intro H h
    ·refine au 5 ?_
     refine Av (Aj ?_)
     exact Pk.id (Aj ⟨.inr false,(Ad H).symm,rfl,⟨trivial,_,(.tmp _ _ _ _ rfl .nil),(.cl _ rfl)⟩⟩)
    ·refine au 5 ?_
     exact Pk.of (Af ⟨(IntKind.i64.wrap (v1+1)),(Ad H).symm,rfl,rfl⟩)
   ·refine T.exit ?_
    refine Am ?_
    exact Pk.of (Am ⟨.inl (),(Ad H).symm,rfl,rfl,rfl⟩)
  ·rcases q14 with ⟨⟩ | q2
   ·rintro _ _ _ ⟨rfl,rfl,rfl⟩
    refine A6 ?_
    refine au 5 ?_
    cases Ad H
    exact⟨trivial,_,(.tmp _ _ _ _ rfl .nil),(.cl _ rfl)⟩
   ·rintro _ fr1 σ1 ⟨rfl,hr⟩
    refine Av (Aj ?_)
    cases Ad H
    exact hr
theorem en_64:En Tryz.prog 64:=.of Tryz.func64 rfl rfl
noncomputable def spec_RuleNests_l5(e13:A9)(r18:(List ByteArray)):(List Bc×Int)→Option ((List Bc×Int)⊕List Bc):=fun s=>match s with
  | (l20,v21)=>cond (decide (v21<(r18.length:Int))) ((idx r18 v21).bind fun e24=>(app l20 ([(⟨e13.Group_,e24⟩:Bc)]:List Bc)).bind fun l26=>some (.inl (l26,(IntKind.i64.wrap (v21+1))))) (some (.inr l20))
noncomputable def spec_RuleNests_l4(a0:Ah)(a1:(List Ay))(e13:A9):(List ByteArray×Int)→Option ((List ByteArray×Int)⊕List ByteArray):=fun s=>match s with
  | (l15,v16)=>cond (decide (v16<(a1.length:Int))) ((idx a1 v16).bind fun e31=>(spec_l3Values e31 (ByteArray.mk #[99,110])).bind fun r33=>(gdO (decide ((r33.length:Int) > 0)) (idx r33 0)).bind fun e35=>(gdO (decide ((r33.length:Int) > 0)) (Cb e35)).bind fun r37=>(gdO (decide ((r33.length:Int) > 0)&&r37) (idx r33 0)).bind fun e39=>(gdO (decide ((r33.length:Int) > 0)&&r37) (spec_l5Group e39)).bind fun r41=>(gdO ((decide ((r33.length:Int) > 0)&&r37)&&(!r41)) (spec_MatchFilter a0 e31 e13.Filter_)).bind fun r43=>cond (((decide ((r33.length:Int) > 0)&&r37)&&(!r41))&&(r43==1)) ((idx r33 0).bind fun e45=>(app l15 ([e45]:List ByteArray)).bind fun l47=>some (.inl (l47,(IntKind.i64.wrap (v16+1))))) (some (.inl (l15,(IntKind.i64.wrap (v16+1)))))) (some (.inr l15))
noncomputable def spec_RuleNests_l3(a0:Ah)(a1:(List Ay))(a2:(List A9)):(List Bc×Int)→Option ((List Bc×Int)⊕List Bc):=fun s=>match s with
  | (l7,v8)=>cond (decide (v8<(a2.length:Int))) ((idx a2 v8).bind fun e13=>(loopO (spec_RuleNests_l4 a0 a1 e13) (([]:List ByteArray),0)).bind fun l17=>(match l17 with | l17=>(spec_l5Sorted l17).bind fun r18=>(loopO (spec_RuleNests_l5 e13 r18) (l7,0)).bind fun l22=>(match l22 with | l22=>some (.inl (l22,(IntKind.i64.wrap (v8+1))))))) (some (.inr l7))
noncomputable def spec_RuleNests_l2(a2:(List A9)):Int→Option (Int⊕(Unit⊕(List Bc))):=fun s=>match s with
  | v5=>cond (decide (v5<(a2.length:Int))) ((idx a2 v5).bind fun e54=>(spec_l5Group e54.Group_).bind fun r56=>(gdO (!(!r56)) (spec_GoodFilter e54.Filter_)).bind fun r58=>(gdO ((!((!r56)||(!r58)))&&decide (v5 > 0)) (idx a2 (IntKind.i64.wrap (v5 - 1)))).bind fun e60=>(gdO ((!((!r56)||(!r58)))&&decide (v5 > 0)) (B0 e60.Group_ e54.Group_)).bind fun r62=>cond (((!r56)||(!r58))||(decide (v5 > 0)&&decide (r62≥0))) (some (.inr (.inr ([]:List Bc)))) (some (.inl (IntKind.i64.wrap (v5+1))))) (some (.inr (.inl ())))
noncomputable def spec_RuleNests_l1(a1:(List Ay)):Int→Option (Int⊕(Unit⊕(List Bc))):=fun s=>match s with
  | v3=>cond (decide (v3<(a1.length:Int))) ((idx a1 v3).bind fun e67=>(spec_GoodEntry e67).bind fun r69=>cond (!r69) (some (.inr (.inr ([]:List Bc)))) (some (.inl (IntKind.i64.wrap (v3+1))))) (some (.inr (.inl ())))
noncomputable def spec_RuleNests(a0:Ah)(a1:(List Ay))(a2:(List A9)):Option (List Bc) :=
  (spec_GoodDirSchema a0).bind fun r1=>cond (((!r1)||decide ((a1.length:Int) > 200))||decide ((a2.length:Int) > 20)) (some ([]:List Bc)) ((loopO (spec_RuleNests_l1 a1) 0).bind fun q71=>(match q71 with | .inl _=>(loopO (spec_RuleNests_l2 a2) 0).bind fun q64=>(match q64 with | .inl _=>(loopO (spec_RuleNests_l3 a0 a1 a2) (([]:List Bc),0)).bind fun l9=>(match l9 with | l9=>(spec_GoodNests l9).bind fun r10=>cond (!r10) (some ([]:List Bc)) (some l9)) | .inr q6=>some q6) | .inr q4=>some q4))
theorem spec_RuleNests_p (b0 : Bool) (b1 : Bool) (b2 : Bool) {a0 :          Ah} {a1 : (List      Ay)} {a2 : (List          A9)} {R0 : (List     Bc)} (H : spec_RuleNests a0 a1 a2 = some R0) :   Bu Tryz.prog 22 [.agg (           At b0 a0), .im b1 (a1.map (       An false)), .im b2 (a2.map (           A2 false))] (.im false (R0.map (      Au false))) := by
 refine Ba.of_TN (n:=142) Tryz.func22 rfl rfl rfl rfl ?_
 refine au 9 ?_
 obtain⟨r1,h2,H⟩:=Ac H
 refine TL.st rfl rfl rfl (Aq rfl en_35 rfl rfl (.cons _ _ _ _ (Lent.aggL (.cons _ _ _ _ (.imv _ _) (.cons _ _ _ _ (.imv _ _) .nil))) .nil) (spec_GoodDirSchema_p b0 h2)) ?_
 refine au 3 ?_
 refine TL.gcq rfl rfl rfl (.bool _) rfl rfl (fun h=>Bf (f:=An false) rfl rfl (gv h rfl)) ?_
 refine au 4 ?_
 refine TL.gcq rfl rfl rfl (.bool _) rfl rfl (fun h=>Bf (f:=A2 false) rfl rfl (gv h rfl)) ?_
 refine au 3 ?_
 refine T.cH H ?_ ?_<;>intro H h
 ·refine au 5 ?_
  refine Aj ?_
  cases Ad H
  exact⟨trivial,_,(.tmp _ _ _ _ rfl .nil),.nil⟩
 ·refine au 5 ?_
  refine TL.st rfl rfl rfl (Bf (f:=An false) rfl rfl rfl) ?_
  refine au 3 ?_
  obtain⟨q71,h72,H⟩:=Ac H
  refine T.lq (fun s=>match s with | v3=>[(1,.im b1 (a1.map (An false))),(2,.im b2 (a2.map (A2 false))),(3,.bx 0 0),(33,.im b1 (a1.map (An false))),(34,.int .i64 (a1.length:Int)),(35,.int .i64 v3)]) (fun s=>match s with | v3=>[.box (At b0 a0)]) (fun q ex fr σ=>match q with | .inl _=>ex = .exit 0∧fr = [(1,.im b1 (a1.map (An false))),(2,.im b2 (a2.map (A2 false))),(3,.bx 0 0)]∧σ = [.box (At b0 a0)] | .inr q4=>ex = .ret∧C5 Tryz.prog [.tmp 6] (fun v τ=>Told τ v (.im false (q4.map (Au false)))) .ret fr σ) h72 ?_ ?_
  ·rintro v3 y66 H
   refine au 5 ?_
   refine T.cH H ?_ ?_<;>intro H h
   ·refine au 5 ?_
    obtain⟨e67,h68,H⟩:=Ac H
    refine TL.st rfl rfl rfl (B7 (f:=An false) rfl rfl De rfl rfl h68 rfl) ?_
    refine au 7 ?_
    obtain⟨r69,h70,H⟩:=Ac H
    refine TL.st rfl rfl rfl (Aq rfl en_36 rfl rfl (.cons _ _ _ _ (.cl _ rfl) .nil) (spec_GoodEntry_p false h70)) ?_
    refine au 2 ?_
    refine T.cH H ?_ ?_<;>intro H h
    ·refine au 5 ?_
     refine Av (Aj ?_)
     exact Pk.id (Aj ⟨.inr ([]:List Bc),(Ad H).symm,rfl,⟨trivial,_,(.tmp _ _ _ _ rfl .nil),.nil⟩⟩)
    ·refine au 5 ?_
     exact Pk.of (Af ⟨(IntKind.i64.wrap (v3+1)),(Ad H).symm,rfl,rfl⟩)
   ·refine T.exit ?_
    refine Am ?_
    exact Pk.of (Am ⟨.inl (),(Ad H).symm,rfl,rfl,rfl⟩)
  ·rcases q71 with ⟨⟩ | q4
   ·rintro _ _ _ ⟨rfl, rfl, rfl⟩
    refine A6 ?_
    refine au 4 ?_
    refine TL.st rfl rfl rfl (Bf (f:=A2 false) rfl rfl rfl) ?_
    refine au 3 ?_
    obtain⟨q64,h65,H⟩:=Ac H
    refine T.lq (fun s=>match s with | v5=>[(1,.im b1 (a1.map (An false))),(2,.im b2 (a2.map (A2 false))),(3,.bx 0 0),(43,.im b2 (a2.map (A2 false))),(44,.int .i64 (a2.length:Int)),(45,.int .i64 v5)]) (fun s=>match s with | v5=>[.box (At b0 a0)]) (fun q ex fr σ=>match q with | .inl _=>ex = .exit 2∧fr = [(1,.im b1 (a1.map (An false))),(2,.im b2 (a2.map (A2 false))),(3,.bx 0 0)]∧σ = [.box (At b0 a0)] | .inr q6=>ex = .ret∧C5 Tryz.prog [.tmp 6] (fun v τ=>Told τ v (.im false (q6.map (Au false)))) .ret fr σ) h65 ?_ ?_
    ·rintro v5 y53 H
     refine au 5 ?_
     refine T.cH H ?_ ?_<;>intro H h
     ·refine au 6 ?_
      obtain⟨e54,h55,H⟩:=Ac H
      refine TL.st rfl rfl rfl (B7 (f:=A2 false) rfl rfl tyS_60 rfl rfl h55 rfl) ?_
      refine au 6 ?_
      refine T.drawn rfl ?_
      refine ad 2 ?_
      obtain⟨r56,h57,H⟩:=Ac H
      refine TD.qs rfl rfl (fun _=>Aq rfl en_60 rfl rfl (.cons _ _ _ _ (.cl _ rfl) .nil) (spec_l5Group_p  h57)) ?_
      refine ad 4 ?_
      obtain⟨r58,h59,H⟩:=Ac H
      refine TD.cq rfl rfl rfl (.bool _) rfl (fun h _=>Aq rfl en_10 rfl (Dc (gv h rfl)) (.cons _ _ _ _ (.cl _ rfl) .nil) (spec_GoodFilter_p false (Bq h59 h))) ?_
      refine TD.cq rfl rfl rfl (.bool _) rfl (fun h _=>o_not rfl (gv h rfl)) ?_
      refine ad 3 ?_
      refine TD.cq rfl rfl rfl (.bool _) rfl (fun h _=>B3 rfl (gv h rfl) rfl rfl) ?_
      refine TD.cq rfl rfl rfl (.bool _) rfl (fun h _=>Bp rfl (gv h rfl)) ?_
      refine TD.cq rfl rfl rfl (.gd _ _) rfl (fun h _=>Bp rfl rfl) ?_
      refine TD.cq rfl rfl rfl (.gd _ _) rfl (fun h _=>Bp rfl rfl) ?_
      refine TD.cq rfl rfl rfl (.gd _ _) rfl (fun h _=>B3 rfl (gv h rfl) rfl rfl) ?_
      obtain⟨e60,h61,H⟩:=Ac H
      refine TD.cq rfl rfl rfl (.gd _ _) rfl (fun h _=>B7 (f:=A2 false) rfl rfl tyS_60 (gv h rfl) (gv h rfl) (Bq h61 h) rfl) ?_
      refine TD.cq rfl rfl rfl (.gd _ _) rfl (fun h _=>Bb rfl rfl rfl Bm (by decide) (gv h rfl) rfl trivial) ?_
      refine TD.cq rfl rfl rfl (.gd _ _) rfl (fun h _=>Bx rfl Bm (gv h rfl) (nb rfl) rfl) ?_
      refine TD.cr rfl rfl rfl (.gd _ _) rfl (fun h=>Bb rfl rfl rfl Bm (by decide) rfl rfl ⟨_,rfl,Nat.le_of_ble_eq_true rfl⟩) ?_
      refine TD.cr rfl rfl rfl (.gd _ _) rfl (fun h=>Bs rfl Bm (gv h rfl) rfl (nb rfl) rfl) ?_
      obtain⟨r62,h63,H⟩:=Ac H
      refine TD.cq rfl rfl rfl (.gd _ _) rfl (fun h _=>Aq rfl en_61 rfl (E5 (gv h rfl) (gv h rfl)) (.cons _ _ _ _ (.cl _ rfl) (.cons _ _ _ _ (.cl _ rfl) .nil)) (spec_l1CmpText_p  (Bq h63 h))) ?_
      refine TD.cq rfl rfl rfl (.gd _ _) rfl (fun h _=>B3 rfl (gv h rfl) rfl rfl) ?_
      refine TD.cq rfl rfl rfl (.bool _) rfl (fun h _=>Eq rfl (gv h rfl) rfl (fun k=>Ed (andi h k)) rfl) ?_
      refine TD.qs rfl rfl (fun _=>o_or rfl rfl rfl rfl (fun k=>Ed k)) ?_
      refine TD.nil ⟨rfl,?_⟩
      refine Af ?_
      refine T.cH H ?_ ?_<;>intro H h
      ·refine au 5 ?_
       refine Av (Aj ?_)
       exact Pk.id (Aj ⟨.inr ([]:List Bc),(Ad H).symm,rfl,⟨trivial,_,(.tmp _ _ _ _ rfl .nil),.nil⟩⟩)
      ·refine au 5 ?_
       exact Pk.of (Af ⟨(IntKind.i64.wrap (v5+1)),(Ad H).symm,rfl,rfl⟩)
     ·refine T.exit ?_
      refine Am ?_
      exact Pk.of (Am ⟨.inl (),(Ad H).symm,rfl,rfl,rfl⟩)
    ·rcases q64 with ⟨⟩ | q6
     ·rintro _ _ _ ⟨rfl,rfl,rfl⟩
      refine A6 ?_
      refine au 8 ?_
      refine TL.st rfl rfl rfl (Bf (f:=A2 false) rfl rfl rfl) ?_
      refine au 3 ?_
      refine T.conv (Cs.own (t:=11) 2 rfl (by decide)) ?_
      obtain⟨l9,h52,H⟩:=Ac H
      refine T.lq (fun s=>match s with | (l7,v8)=>[(1,.im b1 (a1.map (An false))),(3,.bx 0 0),(11,.hd 1 (l7.map (Au false)).length 0 (l7.map (Au false)).length),(77,.im b2 (a2.map (A2 false))),(78,.int .i64 (a2.length:Int)),(79,.int .i64 v8)]) (fun s=>match s with | (l7,v8)=>[.box (At b0 a0),.arr .clo 2 (l7.map (Au false))]) (fun q ex fr σ=>match q with | l9=>ex = .exit 4∧fr = [(11,.hd 1 (l9.map (Au false)).length 0 (l9.map (Au false)).length)]∧σ = [.box (At b0 a0),.arr .clo 2 (l9.map (Au false))]) h52 ?_ ?_
      ·rintro⟨l7,v8⟩ y12 H
       refine au 5 ?_
       refine T.cH H ?_ ?_<;>intro H h
       ·refine au 5 ?_
        obtain⟨e13,h14,H⟩:=Ac H
        refine TL.st rfl rfl rfl (B7 (f:=A2 false) rfl rfl tyS_60 rfl rfl h14 rfl) ?_
        refine au 12 ?_
        refine TL.st rfl rfl rfl (Bf (f:=An false) rfl rfl rfl) ?_
        refine au 3 ?_
        refine T.conv (Cs.own (t:=14) 1 rfl (by decide)) ?_
        obtain⟨l17,h50,H⟩:=Ac H
        refine T.lq (fun s=>match s with | (l15,v16)=>[(1,.im b1 (a1.map (An false))),(3,.bx 0 0),(11,.hd 1 (l7.map (Au false)).length 0 (l7.map (Au false)).length),(13,.bx 2 0),(14,.hd 3 (l15.map (Aw)).length 0 (l15.map (Aw)).length),(77,.im b2 (a2.map (A2 false))),(78,.int .i64 (a2.length:Int)),(79,.int .i64 v8),(83,.im b1 (a1.map (An false))),(84,.int .i64 (a1.length:Int)),(85,.int .i64 v16)]) (fun s=>match s with | (l15,v16)=>[.box (At b0 a0),.arr .clo 2 (l7.map (Au false)),.box (A2 false e13),.arr .clo 1 (l15.map (Aw))]) (fun q ex fr σ=>match q with | l17=>ex = .exit 6∧fr = [(1,.im b1 (a1.map (An false))),(3,.bx 0 0),(11,.hd 1 (l7.map (Au false)).length 0 (l7.map (Au false)).length),(13,.bx 2 0),(14,.hd 3 (l17.map (Aw)).length 0 (l17.map (Aw)).length),(77,.im b2 (a2.map (A2 false))),(78,.int .i64 (a2.length:Int)),(79,.int .i64 v8)]∧σ = [.box (At b0 a0),.arr .clo 2 (l7.map (Au false)),.box (A2 false e13),.arr .clo 1 (l17.map (Aw))]) h50 ?_ ?_
        ·rintro⟨l15,v16⟩ y30 H
         refine au 5 ?_
         refine T.cH H ?_ ?_<;>intro H h
         ·refine au 5 ?_
          obtain⟨e31,h32,H⟩:=Ac H
          refine TL.st rfl rfl rfl (B7 (f:=An false) rfl rfl De rfl rfl h32 rfl) ?_
          refine au 7 ?_
          obtain⟨r33,h34,H⟩:=Ac H
          refine TL.st rfl rfl rfl (Aq rfl en_50 rfl rfl (.cons _ _ _ _ (.cl _ rfl) (.cons _ _ _ _ (.cl _ rfl) .nil)) (spec_l3Values_p false h34)) ?_
          refine au 5 ?_
          refine TL.st rfl rfl rfl (Bf (f:=Aw) rfl rfl rfl) ?_
          refine au 3 ?_
          obtain⟨e35,h36,H⟩:=Ac H
          refine TL.gcq rfl rfl rfl (.bool _) rfl rfl (fun h=>B7 (f:=Aw) rfl rfl Bm (gv h rfl) rfl (Bq h36 h) rfl) ?_
          refine TL.gcq rfl rfl rfl (.bool _) rfl rfl (fun h=>Bx rfl Bm (gv h rfl) (nb rfl) rfl) ?_
          obtain⟨r37,h38,H⟩:=Ac H
          refine TL.gcq rfl rfl rfl (.bool _) rfl rfl (fun h=>Aq rfl en_62 rfl (Dc (gv h rfl)) (.cons _ _ _ _ (.cl _ rfl) .nil) (spec_GoodName_p  (Bq h38 h))) ?_
          refine au 3 ?_
          obtain⟨e39,h40,H⟩:=Ac H
          refine TL.gcq rfl rfl rfl (.bool _) rfl rfl (fun h=>B7 (f:=Aw) rfl rfl Bm (gv h rfl) rfl (Bq h40 h) rfl) ?_
          refine TL.gcq rfl rfl rfl (.bool _) rfl rfl (fun h=>Bx rfl Bm (gv h rfl) (nb rfl) rfl) ?_
          obtain⟨r41,h42,H⟩:=Ac H
          refine TL.gcq rfl rfl rfl (.bool _) rfl rfl (fun h=>Aq rfl en_60 rfl (Dc (gv h rfl)) (.cons _ _ _ _ (.cl _ rfl) .nil) (spec_l5Group_p  (Bq h42 h))) ?_
          refine au 3 ?_
          refine TL.gcq rfl rfl rfl (.bool _) rfl rfl (fun h=>Bs rfl Dy rfl rfl (nb rfl) rfl) ?_
          refine TL.gcq rfl rfl rfl (.bool _) rfl rfl (fun h=>Bs rfl De rfl rfl (nb rfl) rfl) ?_
          refine au 2 ?_
          obtain⟨r43,h44,H⟩:=Ac H
          refine TL.gcq rfl rfl rfl (.bool _) rfl rfl (fun h=>Aq rfl en_8 rfl (evl_3 (gv h rfl) (gv h rfl) (gv h rfl)) (.cons _ _ _ _ (Lent.aggL (.cons _ _ _ _ (.imv _ _) (.cons _ _ _ _ (.imv _ _) .nil))) (.cons _ _ _ _ (.cl _ rfl) (.cons _ _ _ _ (.cl _ rfl) .nil))) (spec_MatchFilter_p b0 false false (Bq h44 h))) ?_
          refine au 3 ?_
          refine T.cH H ?_ ?_<;>intro H h
          ·refine au 3 ?_
           obtain⟨e45,h46,H⟩:=Ac H
           refine TL.st rfl rfl rfl (B7 (f:=Aw) rfl rfl Bm rfl rfl h46 rfl) ?_
           refine TL.st rfl rfl rfl (Bx rfl Bm rfl (nb rfl) rfl) ?_
           refine TL.st rfl rfl rfl (A8 (rows:=([e45]:List ByteArray).map (Aw)) rfl rfl Bm ⟨_,rfl,rfl⟩ (by decide) rfl rfl rfl rfl rfl rfl) ?_
           obtain⟨l47,h48,H⟩:=Ac H
           refine TL.st rfl rfl rfl (Ee (f:=Aw) (xs:=l15) (ys:=([e45]:List ByteArray)) rfl rfl tyE_9 rfl rfl rfl rfl (by decide) rfl (fun _=>rfl) h48) ?_
           refine au 2 ?_
           refine T.conv (Cs.eqS (σ':=[_,_,_,.arr .clo 1 (l47.map (Aw)),.box (An false e31)]) rfl) ?_
           refine au 4 ?_
           exact Pk.of (Af ⟨(l47,(IntKind.i64.wrap (v16+1))),(Ad H).symm,rfl,rfl⟩)
          ·refine au 5 ?_
           exact Pk.of (Af ⟨(l15,(IntKind.i64.wrap (v16+1))),(Ad H).symm,rfl,rfl⟩)
         ·refine T.exit ?_
          refine Am ?_
          exact Pk.of (Am ⟨l15,(Ad H).symm,rfl,rfl,rfl⟩)
        ·rintro _ _ _ ⟨rfl,rfl,rfl⟩
         refine A6 ?_
         refine au 3 ?_
         obtain⟨r18,h19,H⟩:=Ac H
         refine TL.st rfl rfl rfl (Aq rfl en_63 rfl rfl (.cons _ _ _ _ (.own rfl (by decide) rfl) .nil) (spec_l5Sorted_p true h19)) ?_
         refine TL.st rfl rfl rfl (Bf (f:=Aw) rfl rfl rfl) ?_
         refine au 3 ?_
         obtain⟨l22,h29,H⟩:=Ac H
         refine T.lq (fun s=>match s with | (l20,v21)=>[(1,.im b1 (a1.map (An false))),(3,.bx 0 0),(11,.hd 1 (l20.map (Au false)).length 0 (l20.map (Au false)).length),(13,.bx 2 0),(77,.im b2 (a2.map (A2 false))),(78,.int .i64 (a2.length:Int)),(79,.int .i64 v8),(123,.im false (r18.map (Aw))),(124,.int .i64 (r18.length:Int)),(125,.int .i64 v21)]) (fun s=>match s with | (l20,v21)=>[.box (At b0 a0),.arr .clo 2 (l20.map (Au false)),.box (A2 false e13),.arr .clo 1 (l17.map (Aw))]) (fun q ex fr σ=>match q with | l22=>ex = .exit 8∧fr = [(1,.im b1 (a1.map (An false))),(3,.bx 0 0),(11,.hd 1 (l22.map (Au false)).length 0 (l22.map (Au false)).length),(77,.im b2 (a2.map (A2 false))),(78,.int .i64 (a2.length:Int)),(79,.int .i64 v8)]∧σ = [.box (At b0 a0),.arr .clo 2 (l22.map (Au false)),.box (A2 false e13),.arr .clo 1 (l17.map (Aw))]) h29 ?_ ?_
         ·rintro⟨l20,v21⟩ y23 H
          refine au 5 ?_
          refine T.cH H ?_ ?_<;>intro H h
          ·refine au 5 ?_
           obtain⟨e24,h25,H⟩:=Ac H
           refine TL.st rfl rfl rfl (B7 (f:=Aw) rfl rfl Bm rfl rfl h25 rfl) ?_
           refine au 9 ?_
           refine TL.st rfl rfl rfl (A8 (rows:=([(⟨e13.Group_,e24⟩:Bc)]:List Bc).map (Au false)) rfl rfl C0 ⟨_,rfl,rfl⟩ (by decide) rfl rfl rfl rfl rfl rfl) ?_
           obtain⟨l26,h27,H⟩:=Ac H
           refine TL.st rfl rfl rfl (Ee (f:=Au false) (xs:=l20) (ys:=([(⟨e13.Group_,e24⟩:Bc)]:List Bc)) rfl rfl tyE_58 rfl rfl rfl rfl (by decide) rfl (fun _=>rfl) h27) ?_
           refine au 6 ?_
           exact Pk.of (Af ⟨(l26,(IntKind.i64.wrap (v21+1))),(Ad H).symm,rfl,rfl⟩)
          ·refine T.exit ?_
           refine Am ?_
           exact Pk.of (Am ⟨l20,(Ad H).symm,rfl,rfl,rfl⟩)
         ·rintro _ _ _ ⟨rfl,rfl,rfl⟩
          refine A6 ?_
          refine au 4 ?_
          exact Pk.of (Af ⟨(l22,(IntKind.i64.wrap (v8+1))),(Ad H).symm,rfl,rfl⟩)
       ·refine T.exit ?_
        refine Am ?_
        exact Pk.of (Am ⟨l7,(Ad H).symm,rfl,rfl,rfl⟩)
      ·rintro _ _ _ ⟨rfl,rfl,rfl⟩
       refine A6 ?_
       refine au 4 ?_
       obtain⟨r10,h11,H⟩:=Ac H
       refine TL.st rfl rfl rfl (Aq rfl en_64 rfl rfl (.cons _ _ _ _ (.own rfl (by decide) rfl) .nil) (spec_GoodNests_p true h11)) ?_
       refine au 2 ?_
       refine T.cH H ?_ ?_<;>intro H h
       ·refine au 5 ?_
        refine Aj ?_
        cases Ad H
        exact⟨trivial,_,(.tmp _ _ _ _ rfl .nil),.nil⟩
       ·refine au 7 ?_
        cases Ad H
        exact⟨trivial,_,(.tmp _ _ _ _ rfl .nil),(.own rfl (by decide) rfl)⟩
     ·rintro _ fr1 σ1 ⟨rfl,hr⟩
      refine Av (Aj ?_)
      cases Ad H
      exact hr
   ·rintro _ fr1 σ1 ⟨rfl,hr⟩
    refine Av (Aj ?_)
    cases Ad H
    exact hr
theorem en_22:En Tryz.prog 22:=.of Tryz.func22 rfl rfl
noncomputable def laws_zNests_l1(a0:(List Bc))(a1:(List Bc)):Int→Option (Int⊕(Unit⊕Bool)):=fun s=>match s with
  | v1=>cond (decide (v1<(a0.length:Int))) ((idx a0 v1).bind fun e4=>(idx a1 v1).bind fun e6=>cond (!(e4==e6)) (some (.inr (.inr false))) (some (.inl (IntKind.i64.wrap (v1+1))))) (some (.inr (.inl ())))
noncomputable def laws_zNests(a0:(List Bc))(a1:(List Bc)):Option Bool :=
  cond ((a0.length:Int) != (a1.length:Int)) (some false) ((loopO (laws_zNests_l1 a0 a1) 0).bind fun q8=>(match q8 with | .inl _=>some true | .inr q2=>some q2))
theorem laws_zNests_p(b0:Bool)(b1:Bool){a0:(List Bc)}{a1:(List Bc)}{R0:Bool}(H:laws_zNests a0 a1=some R0):Bu Tryz.prog 21 [.im b0 (a0.map (Au false)),.im b1 (a1.map (Au false))] (.bool R0):=by
 refine Ba.of_TN (n:=26) Tryz.func21 rfl rfl rfl rfl ?_
 refine au 8 ?_
 refine TL.st rfl rfl rfl (Bf (f:=Au false) rfl rfl rfl) ?_
 refine TL.st rfl rfl rfl (Bp rfl rfl) ?_
 refine TL.st rfl rfl rfl (Bf (f:=Au false) rfl rfl rfl) ?_
 refine au 2 ?_
 refine T.cH H ?_ ?_<;>intro H h
 ·refine au 5 ?_
  refine Aj ?_
  cases Ad H
  exact⟨trivial,_,(.tmp _ _ _ _ rfl .nil),(.cl _ rfl)⟩
 ·refine au 5 ?_
  refine TL.st rfl rfl rfl (Bf (f:=Au false) rfl rfl rfl) ?_
  refine au 3 ?_
  obtain⟨q8,h9,H⟩:=Ac H
  refine T.lq (fun s=>match s with | v1=>[(0,.im b0 (a0.map (Au false))),(1,.im b1 (a1.map (Au false))),(12,.int .i64 (a0.length:Int)),(13,.int .i64 v1)]) (fun s=>match s with | v1=>[]) (fun q ex fr σ=>match q with | .inl _=>ex = .exit 0∧fr = []∧σ = [] | .inr q2=>ex = .ret∧C5 Tryz.prog [.tmp 4] (fun v τ=>Told τ v (.bool q2)) .ret fr σ) h9 ?_ ?_
  ·rintro v1 y3 H
   refine au 5 ?_
   refine T.cH H ?_ ?_<;>intro H h
   ·refine au 9 ?_
    refine T.drawn rfl ?_
    refine ad 2 ?_
    obtain⟨e4,h5,H⟩:=Ac H
    refine TD.qs rfl rfl (fun _=>B7 (f:=Au false) rfl rfl C0 rfl rfl h5 rfl) ?_
    refine TD.qs rfl rfl (fun _=>Bx rfl C0 rfl (nb rfl) rfl) ?_
    refine ad 2 ?_
    obtain⟨e6,h7,H⟩:=Ac H
    refine TD.qs rfl rfl (fun _=>B7 (f:=Au false) rfl rfl C0 rfl rfl h7 rfl) ?_
    refine TD.qs rfl rfl (fun _=>Bx rfl C0 rfl (nb rfl) rfl) ?_
    refine TD.qs rfl rfl (fun _=>o_neA rfl rfl eqG_58 rfl rfl rfl rfl (eqT_58 e4 e6)) ?_
    refine TD.nil ⟨rfl,?_⟩
    refine Af ?_
    refine T.cH H ?_ ?_<;>intro H h
    ·refine au 5 ?_
     refine Av (Aj ?_)
     exact Pk.id (Aj ⟨.inr false,(Ad H).symm,rfl,⟨trivial,_,(.tmp _ _ _ _ rfl .nil),(.cl _ rfl)⟩⟩)
    ·refine au 5 ?_
     exact Pk.of (Af ⟨(IntKind.i64.wrap (v1+1)),(Ad H).symm,rfl,rfl⟩)
   ·refine T.exit ?_
    refine Am ?_
    exact Pk.of (Am ⟨.inl (),(Ad H).symm,rfl,rfl,rfl⟩)
  ·rcases q8 with ⟨⟩ | q2
   ·rintro _ _ _ ⟨rfl,rfl,rfl⟩
    refine A6 ?_
    refine au 5 ?_
    cases Ad H
    exact⟨trivial,_,(.tmp _ _ _ _ rfl .nil),(.cl _ rfl)⟩
   ·rintro _ fr1 σ1 ⟨rfl,hr⟩
    refine Av (Aj ?_)
    cases Ad H
    exact hr
theorem en_21:En Tryz.prog 21:=.of Tryz.func21 rfl rfl
noncomputable def spec_FirstOf(a0:Ay)(a1:ByteArray):Option ByteArray :=
  (spec_l3Values a0 a1).bind fun r1=>cond ((r1.length:Int)==0) (some e0) ((idx r1 0).bind fun e3=>some e3)
theorem spec_FirstOf_p(b0:Bool){a0:Ay}{a1:ByteArray}{R0:ByteArray}(H:spec_FirstOf a0 a1=some R0):Bu Tryz.prog 23 [.agg (An b0 a0),.str a1] (.str R0):=by
 refine Ba.of_TN (n:=15) Tryz.func23 rfl rfl rfl rfl ?_
 refine au 9 ?_
 obtain⟨r1,h2,H⟩:=Ac H
 refine TL.st rfl rfl rfl (Aq rfl en_50 rfl rfl (.cons _ _ _ _ (Lent.aggL (.cons _ _ _ _ (.imv _ _) (.cons _ _ _ _ (.imv _ _) .nil))) (.cons _ _ _ _ (.cl _ rfl) .nil)) (spec_l3Values_p b0 h2)) ?_
 refine au 6 ?_
 refine TL.st rfl rfl rfl (Bf (f:=Aw) rfl rfl rfl) ?_
 refine au 2 ?_
 refine T.cH H ?_ ?_<;>intro H h
 ·refine au 5 ?_
  refine Aj ?_
  cases Ad H
  exact⟨trivial,_,(.tmp _ _ _ _ rfl .nil),(.cl _ rfl)⟩
 ·refine au 4 ?_
  obtain⟨e3,h4,H⟩:=Ac H
  refine TL.st rfl rfl rfl (B7 (f:=Aw) rfl rfl Bm rfl rfl h4 rfl) ?_
  refine au 4 ?_
  cases Ad H
  exact⟨trivial,_,(.tmp _ _ _ _ rfl .nil),(.cl _ rfl)⟩
theorem en_23:En Tryz.prog 23:=.of Tryz.func23 rfl rfl
noncomputable def impl_MatchFilter(a0:Ah)(a1:Ay)(a2:(List Aa)):Option Int :=
  (impl_GoodDirSchema a0).bind fun r1=>(gdO (!(!r1)) (impl_GoodEntry a1)).bind fun r3=>(gdO (!((!r1)||(!r3))) (impl_GoodFilter a2)).bind fun r5=>cond (((!r1)||(!r3))||(!r5)) (some (-1)) ((impl_DirSchema_ymeets a0 a1 a2 0).bind fun q=>(match q with | (r7,r8)=>some r7))
theorem impl_MatchFilter_p(b0:Bool)(b1:Bool)(b2:Bool){a0:Ah}{a1:Ay}{a2:(List Aa)}{R0:Int}(H:impl_MatchFilter a0 a1 a2=some R0):Bu Tryz.prog 7 [.agg (At b0 a0),.agg (An b1 a1),.im b2 (a2.map (Ab false))] (.int .i64 R0):=by
 refine Ba.of_TN (n:=30) Tryz.func7 rfl rfl rfl rfl ?_
 refine au 10 ?_
 obtain⟨r1,h2,H⟩:=Ac H
 refine TL.st rfl rfl rfl (Aq rfl en_30 rfl rfl (.cons _ _ _ _ (Lent.aggL (.cons _ _ _ _ (.imv _ _) (.cons _ _ _ _ (.imv _ _) .nil))) .nil) (impl_GoodDirSchema_p b0 h2)) ?_
 refine au 2 ?_
 refine TL.gcq rfl rfl rfl (.bool _) rfl rfl (fun h=>Bs rfl De rfl rfl (nb rfl) rfl) ?_
 obtain⟨r3,h4,H⟩:=Ac H
 refine TL.gcq rfl rfl rfl (.bool _) rfl rfl (fun h=>Aq rfl en_31 rfl (Dc (gv h rfl)) (.cons _ _ _ _ (Lent.aggL (.cons _ _ _ _ (.imv _ _) (.cons _ _ _ _ (.imv _ _) .nil))) .nil) (impl_GoodEntry_p b1 (Bq h4 h))) ?_
 refine au 4 ?_
 obtain⟨r5,h6,H⟩:=Ac H
 refine TL.gcq rfl rfl rfl (.bool _) rfl rfl (fun h=>Aq rfl en_32 rfl (Dc (gv h rfl)) (.cons _ _ _ _ (.imv _ _) .nil) (impl_GoodFilter_p b2 (Bq h6 h))) ?_
 refine au 3 ?_
 refine T.cH H ?_ ?_<;>intro H h
 ·refine au 5 ?_
  refine Aj ?_
  cases Ad H
  exact⟨trivial,_,(.tmp _ _ _ _ rfl .nil),(.cl _ rfl)⟩
 ·refine au 6 ?_
  obtain⟨⟨r7,r8⟩,h9,H⟩:=Ac H
  refine TL.st rfl rfl rfl (Aq rfl en_33 rfl rfl (.cons _ _ _ _ (Lent.aggL (.cons _ _ _ _ (.imv _ _) (.cons _ _ _ _ (.imv _ _) .nil))) (.cons _ _ _ _ (Lent.aggL (.cons _ _ _ _ (.imv _ _) (.cons _ _ _ _ (.imv _ _) .nil))) (.cons _ _ _ _ (.imv _ _) (.cons _ _ _ _ (.cl _ rfl) .nil)))) (impl_DirSchema_ymeets_p b0 b1 b2 h9)) ?_
  refine au 12 ?_
  cases Ad H
  exact⟨trivial,_,(.tmp _ _ _ _ rfl .nil),(.cl _ rfl)⟩
theorem en_7:En Tryz.prog 7:=.of Tryz.func7 rfl rfl
noncomputable def laws_FnRuled_l3(r1:Ah)(r2:(List Ay))(e14:Bc)(e20:A9):(Bool×Int)→Option ((Bool×Int)⊕Bool):=fun s=>match s with
  | (v22,v23)=>cond (decide (v23<(r2.length:Int))) ((idx r2 v23).bind fun e26=>(spec_FirstOf e26 (ByteArray.mk #[99,110])).bind fun r28=>(gdO ((!v22)&&((e20.Group_.toList==e14.Group_.toList)&&(r28.toList==e14.Member_.toList))) (impl_MatchFilter r1 e26 e20.Filter_)).bind fun r30=>some (.inl ((v22||(((e20.Group_.toList==e14.Group_.toList)&&(r28.toList==e14.Member_.toList))&&(r30==1))),(IntKind.i64.wrap (v23+1))))) (some (.inr v22))
noncomputable def laws_FnRuled_l2(r1:Ah)(r2:(List Ay))(r3:(List A9))(e14:Bc):(Bool×Int)→Option ((Bool×Int)⊕Bool):=fun s=>match s with
  | (v16,v17)=>cond (decide (v17<(r3.length:Int))) ((idx r3 v17).bind fun e20=>(loopO (laws_FnRuled_l3 r1 r2 e14 e20) (v16,0)).bind fun v24=>(match v24 with | v24=>some (.inl (v24,(IntKind.i64.wrap (v17+1)))))) (some (.inr v16))
noncomputable def laws_FnRuled_l1(r1:Ah)(r2:(List Ay))(r3:(List A9))(r5:(List Bc)):Int→Option (Int⊕(Unit⊕Bool)):=fun s=>match s with
  | v11=>cond (decide (v11<(r5.length:Int))) ((idx r5 v11).bind fun e14=>(loopO (laws_FnRuled_l2 r1 r2 r3 e14) (false,0)).bind fun v18=>(match v18 with | v18=>cond (!v18) (some (.inr (.inr false))) (some (.inl (IntKind.i64.wrap (v11+1)))))) (some (.inr (.inl ())))
noncomputable def laws_FnRuled(a0:(List Int)):Option Bool :=
  cond (decide ((a0.length:Int) > 1048576)) (some true) ((spec_DrawRuleNests a0).bind fun q=>(match q with | (r1,r2,r3)=>(impl_RuleNests r1 r2 r3).bind fun r5=>(spec_RuleNests r1 r2 r3).bind fun r7=>(laws_zNests r5 r7).bind fun r9=>cond (!r9) (some false) ((loopO (laws_FnRuled_l1 r1 r2 r3 r5) 0).bind fun q36=>(match q36 with | .inl _=>some true | .inr q12=>some q12))))
theorem laws_FnRuled_p (b0 : Bool) {a0 : (List Int)} {R0 : Bool} (H : laws_FnRuled a0 = some R0) :   Bu Tryz.prog 5 [.im b0 (a0.map (c_int .u8))] (.bool R0) := by
 refine Ba.of_TN (n:=82) Tryz.func5 rfl rfl rfl rfl ?_
 refine au 8 ?_
 refine TL.st rfl rfl rfl (Bf (f:=c_int .u8) rfl rfl rfl) ?_
 refine au 2 ?_
 refine T.cH H ?_ ?_<;>intro H h
 ·refine au 5 ?_
  refine Aj ?_
  cases Ad H
  exact⟨trivial,_,(.tmp _ _ _ _ rfl .nil),(.cl _ rfl)⟩
 ·refine au 4 ?_
  obtain⟨⟨r1,r2,r3⟩,h4,H⟩:=Ac H
  refine TL.st rfl rfl rfl (Aq rfl en_19 rfl rfl (.cons _ _ _ _ (.imv _ _) .nil) (spec_DrawRuleNests_p b0 h4)) ?_
  refine au 14 ?_
  obtain⟨r5,h6,H⟩:=Ac H
  refine TL.st rfl rfl rfl (Aq rfl en_20 rfl rfl (.cons _ _ _ _ (.cl _ rfl) (.cons _ _ _ _ (.cl _ rfl) (.cons _ _ _ _ (.cl _ rfl) .nil))) (impl_RuleNests_p false false false h6)) ?_
  refine au 9 ?_
  obtain⟨r7,h8,H⟩:=Ac H
  refine TL.st rfl rfl rfl (Aq rfl en_22 rfl rfl (.cons _ _ _ _ (.cl _ rfl) (.cons _ _ _ _ (.cl _ rfl) (.cons _ _ _ _ (.cl _ rfl) .nil))) (spec_RuleNests_p false false false h8)) ?_
  obtain⟨r9,h10,H⟩:=Ac H
  refine TL.st rfl rfl rfl (Aq rfl en_21 rfl rfl (.cons _ _ _ _ (.cl _ rfl) (.cons _ _ _ _ (.cl _ rfl) .nil)) (laws_zNests_p false false h10)) ?_
  refine au 2 ?_
  refine T.cH H ?_ ?_<;>intro H h
  ·refine au 5 ?_
   refine Aj ?_
   cases Ad H
   exact⟨trivial,_,(.tmp _ _ _ _ rfl .nil),(.cl _ rfl)⟩
  ·refine au 5 ?_
   refine TL.st rfl rfl rfl (Bf (f:=Au false) rfl rfl rfl) ?_
   refine au 3 ?_
   obtain⟨q36,h37,H⟩:=Ac H
   refine T.lq (fun s=>match s with | v11=>[(3,.bx 0 0),(4,.im false (r2.map (An false))),(5,.im false (r3.map (A2 false))),(35,.im false (r5.map (Au false))),(36,.int .i64 (r5.length:Int)),(37,.int .i64 v11)]) (fun s=>match s with | v11=>[.box (At false r1)]) (fun q ex fr σ=>match q with | .inl _=>ex = .exit 0∧fr = []∧σ = [.box (At false r1)] | .inr q12=>ex = .ret∧C5 Tryz.prog [.tmp 2] (fun v τ=>Told τ v (.bool q12)) .ret fr σ) h37 ?_ ?_
   ·rintro v11 y13 H
    refine au 5 ?_
    refine T.cH H ?_ ?_<;>intro H h
    ·refine au 5 ?_
     obtain⟨e14,h15,H⟩:=Ac H
     refine TL.st rfl rfl rfl (B7 (f:=Au false) rfl rfl C0 rfl rfl h15 rfl) ?_
     refine au 12 ?_
     refine TL.st rfl rfl rfl (Bf (f:=A2 false) rfl rfl rfl) ?_
     refine au 3 ?_
     obtain⟨v18,h35,H⟩:=Ac H
     refine T.lq (fun s=>match s with | (v16,v17)=>[(3,.bx 0 0),(4,.im false (r2.map (An false))),(5,.im false (r3.map (A2 false))),(8,.bx 1 0),(9,.bool v16),(35,.im false (r5.map (Au false))),(36,.int .i64 (r5.length:Int)),(37,.int .i64 v11),(41,.im false (r3.map (A2 false))),(42,.int .i64 (r3.length:Int)),(43,.int .i64 v17)]) (fun s=>match s with | (v16,v17)=>[.box (At false r1),.box (Au false e14)]) (fun q ex fr σ=>match q with | v18=>ex = .exit 2∧fr = [(3,.bx 0 0),(4,.im false (r2.map (An false))),(5,.im false (r3.map (A2 false))),(9,.bool v18),(35,.im false (r5.map (Au false))),(36,.int .i64 (r5.length:Int)),(37,.int .i64 v11)]∧σ = [.box (At false r1),.box (Au false e14)]) h35 ?_ ?_
     ·rintro⟨v16,v17⟩ y19 H
      refine au 5 ?_
      refine T.cH H ?_ ?_<;>intro H h
      ·refine au 5 ?_
       obtain⟨e20,h21,H⟩:=Ac H
       refine TL.st rfl rfl rfl (B7 (f:=A2 false) rfl rfl tyS_60 rfl rfl h21 rfl) ?_
       refine au 7 ?_
       refine TL.st rfl rfl rfl (Bf (f:=An false) rfl rfl rfl) ?_
       refine au 3 ?_
       obtain⟨v24,h33,H⟩:=Ac H
       refine T.lq (fun s=>match s with | (v22,v23)=>[(3,.bx 0 0),(4,.im false (r2.map (An false))),(5,.im false (r3.map (A2 false))),(8,.bx 1 0),(9,.bool v22),(11,.bx 2 0),(35,.im false (r5.map (Au false))),(36,.int .i64 (r5.length:Int)),(37,.int .i64 v11),(41,.im false (r3.map (A2 false))),(42,.int .i64 (r3.length:Int)),(43,.int .i64 v17),(47,.im false (r2.map (An false))),(48,.int .i64 (r2.length:Int)),(49,.int .i64 v23)]) (fun s=>match s with | (v22,v23)=>[.box (At false r1),.box (Au false e14),.box (A2 false e20)]) (fun q ex fr σ=>match q with | v24=>ex = .exit 4∧fr = [(3,.bx 0 0),(4,.im false (r2.map (An false))),(5,.im false (r3.map (A2 false))),(8,.bx 1 0),(9,.bool v24),(35,.im false (r5.map (Au false))),(36,.int .i64 (r5.length:Int)),(37,.int .i64 v11),(41,.im false (r3.map (A2 false))),(42,.int .i64 (r3.length:Int)),(43,.int .i64 v17)]∧σ = [.box (At false r1),.box (Au false e14),.box (A2 false e20)]) h33 ?_ ?_
       ·rintro⟨v22,v23⟩ y25 H
        refine au 5 ?_
        refine T.cH H ?_ ?_<;>intro H h
        ·refine au 5 ?_
         obtain⟨e26,h27,H⟩:=Ac H
         refine TL.st rfl rfl rfl (B7 (f:=An false) rfl rfl De rfl rfl h27 rfl) ?_
         refine au 7 ?_
         obtain⟨r28,h29,H⟩:=Ac H
         refine TL.st rfl rfl rfl (Aq rfl en_23 rfl rfl (.cons _ _ _ _ (.cl _ rfl) (.cons _ _ _ _ (.cl _ rfl) .nil)) (spec_FirstOf_p false h29)) ?_
         refine au 9 ?_
         refine TL.gcq rfl rfl rfl (.bool _) rfl rfl (fun h=>E4 rfl (gv h rfl) (gv h rfl) rfl) ?_
         refine TL.gcq rfl rfl rfl (.bool _) rfl rfl (fun h=>Bp rfl (gv h rfl)) ?_
         refine TL.gcq rfl rfl rfl (.gd _ _) rfl rfl (fun h=>Bp rfl rfl) ?_
         refine TL.gcq rfl rfl rfl (.gd _ _) rfl rfl (fun h=>Bb rfl rfl rfl Bm (by decide) rfl rfl ⟨_,rfl,Nat.le_of_ble_eq_true rfl⟩) ?_
         refine TL.gcq rfl rfl rfl (.gd _ _) rfl rfl (fun h=>Bs rfl Bm (gv h rfl) rfl (nb rfl) rfl) ?_
         refine TL.gcq rfl rfl rfl (.gd _ _) rfl rfl (fun h=>E4 rfl (gv h rfl) (gv h rfl) rfl) ?_
         refine TL.gcq rfl rfl rfl (.bool _) rfl rfl (fun h=>Eq rfl (gv h rfl) rfl (fun k=>Ed (andi h k)) rfl) ?_
         refine TL.gcq rfl rfl rfl (.bool _) rfl rfl (fun h=>Bp rfl (gv h rfl)) ?_
         refine TL.gcq rfl rfl rfl (.gd _ _) rfl rfl (fun h=>Bs rfl Dy rfl rfl (nb rfl) rfl) ?_
         refine TL.gcq rfl rfl rfl (.gd _ _) rfl rfl (fun h=>Bs rfl De rfl rfl (nb rfl) rfl) ?_
         refine TL.gcq rfl rfl rfl (.gd _ _) rfl rfl (fun h=>Bb rfl rfl rfl tyS_31 (by decide) rfl rfl ⟨_,rfl,Nat.le_of_ble_eq_true rfl⟩) ?_
         refine TL.gcq rfl rfl rfl (.gd _ _) rfl rfl (fun h=>Bs rfl tyS_31 (gv h rfl) rfl (nb rfl) rfl) ?_
         obtain⟨r30,h31,H⟩:=Ac H
         refine TL.gcq rfl rfl rfl (.gd _ _) rfl rfl (fun h=>Aq rfl en_7 rfl (evl_3 (gv h rfl) (gv h rfl) (gv h rfl)) (.cons _ _ _ _ (.cl _ rfl) (.cons _ _ _ _ (.cl _ rfl) (.cons _ _ _ _ (.cl _ rfl) .nil))) (impl_MatchFilter_p false false false (Bq h31 h))) ?_
         refine TL.gcq rfl rfl rfl (.gd _ _) rfl rfl (fun h=>B3 rfl (gv h rfl) rfl rfl) ?_
         refine TL.gcq rfl rfl rfl (.bool _) rfl rfl (fun h=>Eq rfl (gv h rfl) rfl (fun k=>Ed (andi h k)) rfl) ?_
         refine au 7 ?_
         exact Pk.of (Af ⟨((v22||(((e20.Group_.toList==e14.Group_.toList)&&(r28.toList==e14.Member_.toList))&&(r30==1))),(IntKind.i64.wrap (v23+1))),(Ad H).symm,rfl,rfl⟩)
        ·refine T.exit ?_
         refine Am ?_
         exact Pk.of (Am ⟨v22,(Ad H).symm,rfl,rfl,rfl⟩)
       ·rintro _ _ _ ⟨rfl,rfl,rfl⟩
        refine A6 ?_
        refine au 4 ?_
        exact Pk.of (Af ⟨(v24,(IntKind.i64.wrap (v17+1))),(Ad H).symm,rfl,rfl⟩)
      ·refine T.exit ?_
       refine Am ?_
       exact Pk.of (Am ⟨v16,(Ad H).symm,rfl,rfl,rfl⟩)
     ·rintro _ _ _ ⟨rfl,rfl,rfl⟩
      refine A6 ?_
      refine au 5 ?_
      refine T.cH H ?_ ?_<;>intro H h
      ·refine au 5 ?_
       refine Av (Aj ?_)
       exact Pk.id (Aj ⟨.inr false,(Ad H).symm,rfl,⟨trivial,_,(.tmp _ _ _ _ rfl .nil),(.cl _ rfl)⟩⟩)
      ·refine au 5 ?_
       exact Pk.of (Af ⟨(IntKind.i64.wrap (v11+1)),(Ad H).symm,rfl,rfl⟩)
    ·refine T.exit ?_
     refine Am ?_
     exact Pk.of (Am ⟨.inl (),(Ad H).symm,rfl,rfl,rfl⟩)
   ·rcases q36 with ⟨⟩ | q12
    ·rintro _ _ _ ⟨rfl,rfl,rfl⟩
     refine A6 ?_
     refine au 5 ?_
     cases Ad H
     exact⟨trivial,_,(.tmp _ _ _ _ rfl .nil),(.cl _ rfl)⟩
    ·rintro _ fr1 σ1 ⟨rfl,hr⟩
     refine Av (Aj ?_)
     cases Ad H
     exact hr
end Go.G36.FR
