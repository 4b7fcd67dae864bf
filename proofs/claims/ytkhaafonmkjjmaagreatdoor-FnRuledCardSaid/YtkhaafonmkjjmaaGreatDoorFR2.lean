import Derived.Test.YtkhaafonmkjjmaaGreatDoorFR1
set_option linter.all false
set_option maxRecDepth 20000
set_option maxHeartbeats 4000000
namespace Go.G36.FR
open Go Go.Proofs Go.G36.MT
theorem spec_DrawRuleNests_p(b0:Bool){a0:(List Int)}{R0:Ah}{R1:(List Ay)}{R2:(List A9)}(H:spec_DrawRuleNests a0=some (R0,R1,R2)):Bu Tryz.prog 19 [.im b0 (a0.map (c_int .u8))] (.tup [.agg (At false R0),.im false (R1.map (An false)),.im false (R2.map (A2 false))]):=by
 refine Ba.of_TN (n:=52) Tryz.func19 rfl rfl rfl rfl ?_
 refine au 17 ?_
 obtain⟨⟨r1,o2⟩,h3,H⟩:=Ac H
 refine TL.st rfl rfl rfl (Bn [1] rfl en_25 rfl rfl (spec_l1Cur_dirSchema_o b0 h3) rfl (by decide) (.cons _ _ _ _ rfl .nil) rfl rfl rfl) ?_
 obtain⟨⟨r4,o5⟩,h6,H⟩:=Ac H
 refine TL.st rfl rfl rfl (Bn [1,2,3] rfl en_24 rfl rfl (spec_l1Cur_oddDirSchemax_o b0 h6) rfl (by decide) (.cons _ _ _ _ rfl (.cons _ _ _ _ rfl (.cons _ _ _ _ rfl .nil))) rfl rfl rfl) ?_
 refine TL.st rfl rfl rfl (o_alloc rfl ⟨_,rfl,rfl⟩) ?_
 refine TL.sn rfl rfl (Cm rfl Dy rfl rfl rfl rfl (nb rfl) (Ci rfl rfl (Ci rfl rfl rfl))) ?_
 refine au 2 ?_
 refine T.conv (Cs.eqS (σ':=[.box [.nilS,.nilS],.box (Ai b0 o5),.dead,.dead,.dead,.dead,.arr .clo 3 (r4.Types_.map (Ae false)),.arr .clo 4 (r4.Classes_.map (Ak false)),.box (As 6 7 false r4)]) rfl) ?_
 refine au 2 ?_
 obtain⟨⟨r7,o8⟩,h9,H⟩:=Ac H
 refine TL.st rfl rfl rfl (Bn [1] rfl en_39 rfl rfl (spec_l1Cur_entries_p b0 h9) rfl (by decide) (.cons _ _ _ _ rfl .nil) rfl rfl rfl) ?_
 refine au 9 ?_
 refine TL.st rfl rfl rfl (A8 (rows:=([(ByteArray.mk #[65,100,117,108,116]),(ByteArray.mk #[66,111,115,115]),(ByteArray.mk #[78,97,109,101,100])]:List ByteArray).map (Aw)) rfl rfl Bm ⟨_,rfl,rfl⟩ (by decide) rfl rfl rfl rfl rfl rfl) ?_
 refine TL.st rfl rfl rfl (Bf (f:=Aw) rfl rfl rfl) ?_
 refine au 3 ?_
 refine T.conv (Cs.own (t:=8) 2 rfl (by decide)) ?_
 obtain⟨q41,h42,H⟩:=Ac H
 refine T.lq (fun s=>match s with | (b10,l11,v12)=>[(2,.bx 0 0),(5,.bx 1 0),(6,.bx 8 0),(7,.im false (r7.map (An false))),(8,.hd 9 (l11.map (A2 false)).length 0 (l11.map (A2 false)).length),(21,.im false (([(ByteArray.mk #[65,100,117,108,116]),(ByteArray.mk #[66,111,115,115]),(ByteArray.mk #[78,97,109,101,100])]:List ByteArray).map (Aw))),(22,.int .i64 (([(ByteArray.mk #[65,100,117,108,116]),(ByteArray.mk #[66,111,115,115]),(ByteArray.mk #[78,97,109,101,100])]:List ByteArray).length:Int)),(23,.int .i64 v12)]) (fun s=>match s with | (b10,l11,v12)=>[.box [.nilS,.nilS],.box (Ai b0 b10),.dead,.dead,.dead,.dead,.arr .clo 3 (r4.Types_.map (Ae false)),.arr .clo 4 (r4.Classes_.map (Ak false)),.box (As 6 7 false r4),.arr .clo 2 (l11.map (A2 false))]) (fun q ex fr σ=>match q with | (b13,l14)=>ex = .exit 0∧fr = [(2,.bx 0 0),(6,.bx 8 0),(7,.im false (r7.map (An false))),(8,.hd 9 (l14.map (A2 false)).length 0 (l14.map (A2 false)).length)]∧σ = [.box [.nilS,.nilS],.box (Ai b0 b13),.dead,.dead,.dead,.dead,.arr .clo 3 (r4.Types_.map (Ae false)),.arr .clo 4 (r4.Classes_.map (Ak false)),.box (As 6 7 false r4),.arr .clo 2 (l14.map (A2 false))]) h42 ?_ ?_
 ·rintro⟨b10,l11,v12⟩ y15 H
  refine au 5 ?_
  refine T.cH H ?_ ?_<;>intro H h
  ·refine au 5 ?_
   obtain⟨e16,h17,H⟩:=Ac H
   refine TL.st rfl rfl rfl (B7 (f:=Aw) rfl rfl Bm rfl rfl h17 rfl) ?_
   refine au 6 ?_
   obtain⟨⟨r18,o19⟩,h20,H⟩:=Ac H
   refine TL.st rfl rfl rfl (Bn [1] rfl en_29 rfl rfl (spec_l1Cur_filterOfo_o b0 h20) rfl (by decide) (.cons _ _ _ _ rfl .nil) rfl rfl rfl) ?_
   refine au 2 ?_
   refine T.cut (fun fr' σ'=>∃ (b22:Ag) (l23:List Aa),fr' = [(2,.bx 0 0),(5,.bx 1 0),(6,.bx 8 0),(7,.im false (r7.map (An false))),(8,.hd 9 (l11.map (A2 false)).length 0 (l11.map (A2 false)).length),(10,.str e16),(11,.hd 10 (l23.map (Ab false)).length 0 (l23.map (Ab false)).length),(21,.im false (([(ByteArray.mk #[65,100,117,108,116]),(ByteArray.mk #[66,111,115,115]),(ByteArray.mk #[78,97,109,101,100])]:List ByteArray).map (Aw))),(22,.int .i64 (([(ByteArray.mk #[65,100,117,108,116]),(ByteArray.mk #[66,111,115,115]),(ByteArray.mk #[78,97,109,101,100])]:List ByteArray).length:Int)),(23,.int .i64 v12)]∧σ' = [.box [.nilS,.nilS],.box (Ai b0 b22),.dead,.dead,.dead,.dead,.arr .clo 3 (r4.Types_.map (Ae false)),.arr .clo 4 (r4.Classes_.map (Ak false)),.box (As 6 7 false r4),.arr .clo 2 (l11.map (A2 false)),.arr .clo 4 (l23.map (Ab false))]∧spec_DrawRuleNests_j1 l11 v12 e16 b22 l23=some y15) (T.pk ?_) ?_
   ·skip
    refine au 3 ?_
    obtain⟨⟨r35,o36⟩,h37,H⟩:=Ac H
    refine TL.st rfl rfl rfl (Bn [1] rfl en_41 rfl rfl (spec_l1Cur_one_p b0 h37) rfl (by decide) (.cons _ _ _ _ rfl .nil) rfl rfl rfl) ?_
    refine au 2 ?_
    refine T.cH H ?_ ?_<;>intro H h
    ·refine au 2 ?_
     refine TL.st rfl rfl rfl (A8 (rows:=([(ByteArray.mk #[99,110]),(ByteArray.mk #[99,108,97,115,115]),(ByteArray.mk #[97,103,101])]:List ByteArray).map (Aw)) rfl rfl Bm ⟨_,rfl,rfl⟩ (by decide) rfl rfl rfl rfl rfl rfl) ?_
     obtain⟨⟨r38,o39⟩,h40,H⟩:=Ac H
     refine TL.st rfl rfl rfl (Bn [1] rfl en_43 rfl rfl (spec_l1Cur_of_p false b0 h40) rfl (by decide) (.cons _ _ _ _ rfl .nil) rfl rfl rfl) ?_
     refine TL.st rfl rfl rfl (Es rfl ⟨_,fun _=>rfl,rfl⟩ rfl rfl rfl) ?_
     refine TL.st rfl rfl rfl (D0 (rows:=([(⟨7,r38,e0,0⟩:Aa)]:List Aa).map (Ab false)) .clo rfl rfl C4 ⟨_,rfl,rfl⟩ (by decide) rfl rfl rfl rfl (by decide) (fun _=>rfl) (by decide) rfl (by decide)) ?_
     refine TL.st rfl rfl rfl (Dm rfl rfl) ?_
     refine TL.conv (Cs.wkF (M:=12) (.k 2 rfl rfl (.k 5 rfl rfl (.k 6 rfl rfl (.k 7 rfl rfl (.k 8 rfl rfl (.k 10 rfl rfl (.k 11 rfl rfl (.k 21 rfl rfl (.k 22 rfl rfl (.k 23 rfl rfl (.k 24 rfl rfl (.k 26 rfl rfl (.k 27 rfl rfl (.k 29 rfl rfl (.k 30 rfl rfl (.k 31 rfl rfl (.k 32 rfl rfl (.k 33 rfl rfl (.k 34 rfl rfl (.k 35 rfl rfl (.k 36 rfl rfl .nil)))))))))))))))))))))) ?_
     refine TL.conv (Cs.reloc 10 11 rfl rfl (by decide) rfl rfl rfl (Bv rfl)) ?_
     refine TL.conv (Cs.wkF (M:=12) (.k 2 rfl rfl (.k 5 rfl rfl (.k 6 rfl rfl (.k 7 rfl rfl (.k 8 rfl rfl (.k 10 rfl rfl (.k 11 rfl rfl (.k 21 rfl rfl (.k 22 rfl rfl (.k 23 rfl rfl (.k 24 rfl rfl (.k 26 rfl rfl (.k 27 rfl rfl (.k 29 rfl rfl (.k 30 rfl rfl (.k 31 rfl rfl (.k 32 rfl rfl (.k 33 rfl rfl (.k 34 rfl rfl (.k 35 rfl rfl (.k 36 rfl rfl .nil)))))))))))))))))))))) ?_
     refine TL.conv (Cs.eqS (σ':=[_,.box (Ai b0 o39),_,_,_,_,_,_,_,_,.arr .clo 4 (([(⟨7,r38,e0,0⟩:Aa)]:List Aa).map (Ab false)),.dead]) rfl) ?_
     refine TL.nil ?_
     exact Pk.of (Af ⟨o39,([(⟨7,r38,e0,0⟩:Aa)]:List Aa),rfl,rfl,H⟩)
    ·refine T.skip ?_
     exact Pk.of (Af ⟨o36,r18,rfl,rfl,H⟩)
   ·rintro _ _ ⟨b22,l23,rfl,rfl,H⟩
    refine T.cut (fun fr' σ'=>∃ (b25:Ag) (l26:List Aa),fr' = [(2,.bx 0 0),(5,.bx 1 0),(6,.bx 8 0),(7,.im false (r7.map (An false))),(8,.hd 9 (l11.map (A2 false)).length 0 (l11.map (A2 false)).length),(10,.str e16),(11,.hd 10 (l26.map (Ab false)).length 0 (l26.map (Ab false)).length),(21,.im false (([(ByteArray.mk #[65,100,117,108,116]),(ByteArray.mk #[66,111,115,115]),(ByteArray.mk #[78,97,109,101,100])]:List ByteArray).map (Aw))),(22,.int .i64 (([(ByteArray.mk #[65,100,117,108,116]),(ByteArray.mk #[66,111,115,115]),(ByteArray.mk #[78,97,109,101,100])]:List ByteArray).length:Int)),(23,.int .i64 v12)]∧σ' = [.box [.nilS,.nilS],.box (Ai b0 b25),.dead,.dead,.dead,.dead,.arr .clo 3 (r4.Types_.map (Ae false)),.arr .clo 4 (r4.Classes_.map (Ak false)),.box (As 6 7 false r4),.arr .clo 2 (l11.map (A2 false)),.arr .clo 4 (l26.map (Ab false))]∧spec_DrawRuleNests_j2 l11 v12 e16 b25 l26=some y15) (T.pk ?_) ?_
    ·skip
     refine au 3 ?_
     obtain⟨⟨r29,o30⟩,h31,H⟩:=Ac H
     refine TL.st rfl rfl rfl (Bn [1] rfl en_41 rfl rfl (spec_l1Cur_one_p b0 h31) rfl (by decide) (.cons _ _ _ _ rfl .nil) rfl rfl rfl) ?_
     refine TL.nil ?_
     refine T.cH H ?_ ?_<;>intro H h
     ·refine au 3 ?_
      obtain⟨⟨r32,o33⟩,h34,H⟩:=Ac H
      refine TL.st rfl rfl rfl (Bn [1,10] rfl en_28 rfl rfl (spec_l1Cur_oddFilterx_o b0 h34) rfl (by decide) (.cons _ _ _ _ rfl (.cons _ _ _ _ rfl .nil)) rfl rfl rfl) ?_
      refine TL.st rfl rfl rfl (Dm rfl rfl) ?_
      refine TL.conv (Cs.wkF (M:=13) (.k 2 rfl rfl (.k 5 rfl rfl (.k 6 rfl rfl (.k 7 rfl rfl (.k 8 rfl rfl (.k 10 rfl rfl (.k 11 rfl rfl (.k 21 rfl rfl (.k 22 rfl rfl (.k 23 rfl rfl (.k 37 rfl rfl (.k 38 rfl rfl (.k 39 rfl rfl (.k 41 rfl rfl .nil))))))))))))))) ?_
      refine TL.conv (Cs.reloc 10 12 rfl rfl (by decide) rfl rfl rfl (Bv rfl)) ?_
      refine TL.conv (Cs.wkF (M:=13) (.k 2 rfl rfl (.k 5 rfl rfl (.k 6 rfl rfl (.k 7 rfl rfl (.k 8 rfl rfl (.k 10 rfl rfl (.k 11 rfl rfl (.k 21 rfl rfl (.k 22 rfl rfl (.k 23 rfl rfl (.k 37 rfl rfl (.k 38 rfl rfl (.k 39 rfl rfl (.k 41 rfl rfl .nil))))))))))))))) ?_
      refine TL.conv (Cs.eqS (σ':=[_,.box (Ai b0 o33),_,_,_,_,_,_,_,_,.arr .clo 4 (r32.map (Ab false)),.dead,.dead]) rfl) ?_
      refine TL.nil ?_
      exact Pk.of (Af ⟨o33,r32,rfl,rfl,H⟩)
     ·refine T.skip ?_
      exact Pk.of (Af ⟨o30,l23,rfl,rfl,H⟩)
    ·rintro _ _ ⟨b25,l26,rfl,rfl,H⟩
     refine au 4 ?_
     refine TL.st rfl rfl rfl (Es rfl ⟨_,fun _=>rfl,rfl⟩ rfl (sureP rfl (sureP (Ci rfl rfl rfl) rfl)) rfl) ?_
     refine TL.conv (Cs.frzAgg (t:=45) 1 rfl rfl rfl rfl) ?_
     refine TL.st rfl rfl rfl (A8 (rows:=([(⟨e16,l26⟩:A9)]:List A9).map (A2 false)) rfl rfl tyS_60 ⟨_,rfl,rfl⟩ (by decide) rfl rfl rfl rfl rfl rfl) ?_
     obtain⟨l27,h28,H⟩:=Ac H
     refine TL.st rfl rfl rfl (Ee (f:=A2 false) (xs:=l11) (ys:=([(⟨e16,l26⟩:A9)]:List A9)) rfl rfl tyE_60 rfl rfl rfl rfl (by decide) rfl (fun _=>rfl) h28) ?_
     refine au 6 ?_
     exact Pk.of (Af ⟨(b25,l27,(IntKind.i64.wrap (v12+1))),(Ad H).symm,rfl,rfl⟩)
  ·refine T.exit ?_
   refine Am ?_
   exact Pk.of (Am ⟨(b10,l11),(Ad H).symm,rfl,rfl,rfl⟩)
 ·rcases q41 with ⟨b13,l14⟩
  rintro _ _ _ ⟨rfl,rfl,rfl⟩
  refine A6 ?_
  refine au 5 ?_
  refine TL.sn rfl rfl (Cm rfl Dy rfl rfl rfl rfl (nb rfl) (Ci rfl rfl (Ci rfl rfl rfl))) ?_
  refine au 4 ?_
  cases Ad H
  exact⟨trivial,_,(.cell _ _ _ _ _ _ _ _ _ _ rfl rfl Dy (nb rfl) rfl (.tmp _ _ _ _ rfl (.tmp _ _ _ _ rfl .nil))),(.tupL (.cons _ _ _ _ (.aggL (.cons _ _ _ _ (.own rfl (by decide) rfl) (.cons _ _ _ _ (.own rfl (by decide) rfl) .nil))) (.cons _ _ _ _ (.cl _ rfl) (.cons _ _ _ _ (.own rfl (by decide) rfl) .nil))))⟩
theorem en_19:En Tryz.prog 19:=.of Tryz.func19 rfl rfl
noncomputable def impl_ydigit(a0:Int):Option Bool :=
  some (decide (a0≥48)&&decide (a0≤57))
theorem impl_ydigit_p {a0:Int} {R0:Bool} (H:impl_ydigit a0=some R0):Bu Tryz.prog 99 [.int .u8 a0] (.bool R0):=by
 refine Ba.of_TN (n:=9) Tryz.func99 rfl rfl rfl rfl ?_
 refine au 15 ?_
 cases Ad H
 exact⟨trivial,_,(.tmp _ _ _ _ rfl .nil),(.cl _ rfl)⟩
theorem en_99:En Tryz.prog 99:=.of Tryz.func99 rfl rfl
noncomputable def impl_yletter(a0:Int):Option Bool :=
  some ((decide (a0≥97)&&decide (a0≤122))||(decide (a0≥65)&&decide (a0≤90)))
theorem impl_yletter_p {a0:Int} {R0:Bool} (H:impl_yletter a0=some R0):Bu Tryz.prog 137 [.int .u8 a0] (.bool R0):=by
 refine Ba.of_TN (n:=17) Tryz.func137 rfl rfl rfl rfl ?_
 refine au 15 ?_
 refine TL.gcq rfl rfl rfl (.bool _) rfl rfl (fun h=>Bp rfl (gv h rfl)) ?_
 refine TL.gcq rfl rfl rfl (.gd _ _) rfl rfl (fun h=>Bp rfl rfl) ?_
 refine TL.gcq rfl rfl rfl (.gd _ _) rfl rfl (fun h=>B3 rfl (gv h rfl) rfl rfl) ?_
 refine TL.gcq rfl rfl rfl (.bool _) rfl rfl (fun h=>Eq rfl (gv h rfl) rfl (fun k=>Ed (andi h k)) rfl) ?_
 refine au 4 ?_
 cases Ad H
 exact⟨trivial,_,(.tmp _ _ _ _ rfl .nil),(.cl _ rfl)⟩
theorem en_137:En Tryz.prog 137:=.of Tryz.func137 rfl rfl
noncomputable def impl_ywordByte(a0:Int):Option Bool :=
  (impl_yletter a0).bind fun r1=>(gdO (!r1) (impl_ydigit a0)).bind fun r3=>some ((r1||r3)||(a0==95))
theorem impl_ywordByte_p {a0:Int} {R0:Bool} (H:impl_ywordByte a0=some R0):Bu Tryz.prog 100 [.int .u8 a0] (.bool R0):=by
 refine Ba.of_TN (n:=13) Tryz.func100 rfl rfl rfl rfl ?_
 refine au 7 ?_
 obtain⟨r1,h2,H⟩:=Ac H
 refine TL.st rfl rfl rfl (Aq rfl en_137 rfl rfl (.cons _ _ _ _ (.cl _ rfl) .nil) (impl_yletter_p  h2)) ?_
 refine au 2 ?_
 obtain⟨r3,h4,H⟩:=Ac H
 refine TL.gcq rfl rfl rfl (.bool _) rfl rfl (fun h=>Aq rfl en_99 rfl (Dc (gv h rfl)) (.cons _ _ _ _ (.cl _ rfl) .nil) (impl_ydigit_p  (Bq h4 h))) ?_
 refine au 8 ?_
 cases Ad H
 exact⟨trivial,_,(.tmp _ _ _ _ rfl .nil),(.cl _ rfl)⟩
theorem en_100:En Tryz.prog 100:=.of Tryz.func100 rfl rfl
noncomputable def impl_GoodName_l1(a0:ByteArray):Int→Option (Int⊕(Unit⊕Bool)):=fun s=>match s with
  | v5=>cond (decide (v5<(a0.size:Int))) ((Cr a0 v5).bind fun b8=>(impl_ywordByte b8).bind fun r10=>cond (!r10) (some (.inr (.inr false))) (some (.inl (IntKind.i64.wrap (v5+1))))) (some (.inr (.inl ())))
noncomputable def B5(a0:ByteArray):Option Bool :=
  (gdO (!((a0.toList==e0.toList)||decide ((a0.size:Int) > 30))) (Cr a0 0)).bind fun b1=>(gdO (!((a0.toList==e0.toList)||decide ((a0.size:Int) > 30))) (impl_ydigit b1)).bind fun r3=>cond (((a0.toList==e0.toList)||decide ((a0.size:Int) > 30))||r3) (some false) ((loopO (impl_GoodName_l1 a0) 0).bind fun q12=>(match q12 with | .inl _=>some true | .inr q6=>some q6))
theorem impl_GoodName_p {a0:ByteArray} {R0:Bool} (H:B5 a0=some R0):Bu Tryz.prog 55 [.str a0] (.bool R0):=by
 refine Ba.of_TN (n:=27) Tryz.func55 rfl rfl rfl rfl ?_
 refine au 11 ?_
 refine TL.gcq rfl rfl rfl (.bool _) rfl rfl (fun h=>Fb rfl rfl (gv h rfl)) ?_
 refine au 4 ?_
 obtain⟨b1,h2,H⟩:=Ac H
 refine TL.gcq rfl rfl rfl (.bool _) rfl rfl (fun h=>Ct rfl rfl (gv h rfl) rfl (Bq h2 h)) ?_
 obtain⟨r3,h4,H⟩:=Ac H
 refine TL.gcq rfl rfl rfl (.bool _) rfl rfl (fun h=>Aq rfl en_99 rfl (Dc (gv h rfl)) (.cons _ _ _ _ (.cl _ rfl) .nil) (impl_ydigit_p  (Bq h4 h))) ?_
 refine au 2 ?_
 refine T.cH H ?_ ?_<;>intro H h
 ·refine au 5 ?_
  refine Aj ?_
  cases Ad H
  exact⟨trivial,_,(.tmp _ _ _ _ rfl .nil),(.cl _ rfl)⟩
 ·refine au 9 ?_
  obtain⟨q12,h13,H⟩:=Ac H
  refine T.lq (fun s=>match s with | v5=>[(0,.str a0),(17,.int .i64 (a0.size:Int)),(18,.int .i64 v5)]) (fun s=>match s with | v5=>[]) (fun q ex fr σ=>match q with | .inl _=>ex = .exit 0∧fr = []∧σ = [] | .inr q6=>ex = .ret∧C5 Tryz.prog [.tmp 2] (fun v τ=>Told τ v (.bool q6)) .ret fr σ) h13 ?_ ?_
  ·rintro v5 y7 H
   refine au 5 ?_
   refine T.cH H ?_ ?_<;>intro H h
   ·refine au 12 ?_
    obtain⟨b8,h9,H⟩:=Ac H
    refine TL.st rfl rfl rfl (Ct rfl rfl rfl rfl h9) ?_
    obtain⟨r10,h11,H⟩:=Ac H
    refine TL.st rfl rfl rfl (Aq rfl en_100 rfl rfl (.cons _ _ _ _ (.cl _ rfl) .nil) (impl_ywordByte_p  h11)) ?_
    refine au 2 ?_
    refine T.cH H ?_ ?_<;>intro H h
    ·refine au 5 ?_
     refine Av (Aj ?_)
     exact Pk.id (Aj ⟨.inr false,(Ad H).symm,rfl,⟨trivial,_,(.tmp _ _ _ _ rfl .nil),(.cl _ rfl)⟩⟩)
    ·refine au 5 ?_
     exact Pk.of (Af ⟨(IntKind.i64.wrap (v5+1)),(Ad H).symm,rfl,rfl⟩)
   ·refine T.exit ?_
    refine Am ?_
    exact Pk.of (Am ⟨.inl (),(Ad H).symm,rfl,rfl,rfl⟩)
  ·rcases q12 with ⟨⟩ | q6
   ·rintro _ _ _ ⟨rfl,rfl,rfl⟩
    refine A6 ?_
    refine au 5 ?_
    cases Ad H
    exact⟨trivial,_,(.tmp _ _ _ _ rfl .nil),(.cl _ rfl)⟩
   ·rintro _ fr1 σ1 ⟨rfl,hr⟩
    refine Av (Aj ?_)
    cases Ad H
    exact hr
theorem en_55:En Tryz.prog 55:=.of Tryz.func55 rfl rfl
noncomputable def impl_DirSchema_yattrType_1(a0:Ar):Option ByteArray :=
  some a0.Name_
theorem impl_DirSchema_yattrType_1_p {a0:Ar} {R0:ByteArray} (H:impl_DirSchema_yattrType_1 a0=some R0):Bu Tryz.prog 111 [.agg (Ae false a0)] (.str R0):=by
 refine Ba.of_TN (n:=5) Tryz.func111 rfl rfl rfl rfl ?_
 refine au 12 ?_
 cases Ad H
 exact⟨trivial,_,(.tmp _ _ _ _ rfl .nil),(.cl _ rfl)⟩
theorem en_111:En Tryz.prog 111:=.of Tryz.func111 rfl rfl
noncomputable def impl_AttrType__l1(a0:(List Ar))(a1:ByteArray):Int→Option (Int⊕(Unit⊕(Ar×Bool))):=fun s=>match s with
  | v1=>cond (decide (v1<(a0.length:Int))) ((idx a0 v1).bind fun e4=>(impl_DirSchema_yattrType_1 e4).bind fun r6=>cond (r6.toList==a1.toList) (some (.inr (.inr (e4,true)))) (some (.inl (IntKind.i64.wrap (v1+1))))) (some (.inr (.inl ())))
noncomputable def impl_AttrType_(a0:(List Ar))(a1:ByteArray):Option (Ar×Bool) :=
  (loopO (impl_AttrType__l1 a0 a1) 0).bind fun q8=>(match q8 with | .inl _=>some ((⟨e0,0,false⟩:Ar),false) | .inr q2=>some q2)
theorem impl_AttrType__p(b0:Bool){a0:(List Ar)}{a1:ByteArray}{R0:Ar}{R1:Bool}(H:impl_AttrType_ a0 a1=some (R0,R1)):Bu Tryz.prog 110 [.im b0 (a0.map (Ae false)),.fn 111 [] [],.str a1] (.tup [.agg (Ae false R0),.bool R1]):=by
 refine Ba.of_TN (n:=25) Tryz.func110 rfl rfl rfl rfl ?_
 refine au 9 ?_
 refine TL.st rfl rfl rfl (Bf (f:=Ae false) rfl rfl rfl) ?_
 refine au 3 ?_
 obtain⟨q8,h9,H⟩:=Ac H
 refine T.lq (fun s=>match s with | v1=>[(1,.fn 111 [] []),(2,.str a1),(6,.bx 0 0),(11,.im b0 (a0.map (Ae false))),(12,.int .i64 (a0.length:Int)),(13,.int .i64 v1)]) (fun s=>match s with | v1=>[.box [.str e0,.int .i64 0,.bool false]]) (fun q ex fr σ=>match q with | .inl _=>ex = .exit 0∧fr = [(6,.bx 0 0)]∧σ = [.box [.str e0,.int .i64 0,.bool false]] | .inr q2=>ex = .ret∧C5 Tryz.prog [.cell 6 106,.tmp 7] (fun v τ=>Told τ v (.tup [.agg (Ae false q2.1),.bool q2.2])) .ret fr σ) h9 ?_ ?_
 ·rintro v1 y3 H
  refine au 5 ?_
  refine T.cH H ?_ ?_<;>intro H h
  ·refine au 5 ?_
   obtain⟨e4,h5,H⟩:=Ac H
   refine TL.st rfl rfl rfl (B7 (f:=Ae false) rfl rfl D6 rfl rfl h5 rfl) ?_
   refine au 8 ?_
   obtain⟨r6,h7,H⟩:=Ac H
   refine TL.st rfl rfl rfl (Aq rfl en_111 rfl rfl (.cons _ _ _ _ (.cl _ rfl) .nil) (impl_DirSchema_yattrType_1_p  h7)) ?_
   refine au 3 ?_
   refine T.cH H ?_ ?_<;>intro H h
   ·refine au 6 ?_
    refine T.conv (Cs.eqS (σ':=[.box (Ae false e4),.box (Ae false e4)]) rfl) ?_
    refine T.ret ?_
    refine Av (Aj ?_)
    exact Pk.id (Aj ⟨.inr (e4,true),(Ad H).symm,rfl,⟨trivial,_,(.cell _ _ _ _ _ _ _ _ _ _ rfl rfl D6 (nb rfl) rfl (.tmp _ _ _ _ rfl .nil)),(.tupL (.cons _ _ _ _ (.cl _ rfl) (.cons _ _ _ _ (.cl _ rfl) .nil)))⟩⟩)
   ·refine au 5 ?_
    exact Pk.of (Af ⟨(IntKind.i64.wrap (v1+1)),(Ad H).symm,rfl,rfl⟩)
  ·refine T.exit ?_
   refine Am ?_
   exact Pk.of (Am ⟨.inl (),(Ad H).symm,rfl,rfl,rfl⟩)
 ·rcases q8 with ⟨⟩ | q2
  ·rintro _ _ _ ⟨rfl,rfl,rfl⟩
   refine A6 ?_
   refine au 11 ?_
   cases Ad H
   exact⟨trivial,_,(.cell _ _ _ _ _ _ _ _ _ _ rfl rfl D6 (nb rfl) rfl (.tmp _ _ _ _ rfl .nil)),(.tupL (.cons _ _ _ _ (.cl _ rfl) (.cons _ _ _ _ (.cl _ rfl) .nil)))⟩
  ·rintro _ fr1 σ1 ⟨rfl,hr⟩
   refine Av (Aj ?_)
   cases Ad H
   exact hr
theorem en_110:En Tryz.prog 110:=.of Tryz.func110 rfl rfl
noncomputable def impl_DirSchema_yattrType(a0:Ah)(a1:ByteArray):Option (Ar×Bool) :=
  (impl_AttrType_ a0.Types_ a1).bind fun q=>(match q with | (r1,r2)=>some (r1,r2))
theorem impl_DirSchema_yattrType_p(b0:Bool){a0:Ah}{a1:ByteArray}{R0:Ar}{R1:Bool}(H:impl_DirSchema_yattrType a0 a1=some (R0,R1)):Bu Tryz.prog 68 [.agg (At b0 a0),.str a1] (.tup [.agg (Ae false R0),.bool R1]):=by
 refine Ba.of_TN (n:=12) Tryz.func68 rfl rfl rfl rfl ?_
 refine au 11 ?_
 obtain⟨⟨r1,r2⟩,h3,H⟩:=Ac H
 refine TL.st rfl rfl rfl (Aq rfl en_110 rfl rfl (.cons _ _ _ _ (.imv _ _) (.cons _ _ _ _ (.fn _ _ _ _ _ rfl rfl (fun i c d h=>by simp at h) (fun i c d h=>by simp at h)) (.cons _ _ _ _ (.cl _ rfl) .nil))) (impl_AttrType__p b0 h3)) ?_
 refine au 5 ?_
 refine T.conv (Cs.eqS (σ':=[.box (At b0 a0),.box (Ae false r1)]) rfl) ?_
 refine T.ret ?_
 cases Ad H
 exact⟨trivial,_,(.cell _ _ _ _ _ _ _ _ _ _ rfl rfl D6 (nb rfl) rfl (.tmp _ _ _ _ rfl .nil)),(.tupL (.cons _ _ _ _ (.cl _ rfl) (.cons _ _ _ _ (.cl _ rfl) .nil)))⟩
theorem en_68:En Tryz.prog 68:=.of Tryz.func68 rfl rfl
noncomputable def impl_yrising_l1(a0:(List ByteArray)):Int→Option (Int⊕(Unit⊕Bool)):=fun s=>match s with
  | v1=>cond (decide (v1<(a0.length:Int))) ((idx a0 v1).bind fun e4=>(gdO (decide (v1 > 0)) (idx a0 (IntKind.i64.wrap (v1 - 1)))).bind fun e6=>cond (decide (v1 > 0)&&(!(Op.bytesLess e6.toList e4.toList))) (some (.inr (.inr false))) (some (.inl (IntKind.i64.wrap (v1+1))))) (some (.inr (.inl ())))
noncomputable def impl_yrising(a0:(List ByteArray)):Option Bool :=
  (loopO (impl_yrising_l1 a0) 0).bind fun q8=>(match q8 with | .inl _=>some true | .inr q2=>some q2)
theorem impl_yrising_p(b0:Bool){a0:(List ByteArray)}{R0:Bool}(H:impl_yrising a0=some R0):Bu Tryz.prog 69 [.im b0 (a0.map (Aw))] (.bool R0):=by
 refine Ba.of_TN (n:=24) Tryz.func69 rfl rfl rfl rfl ?_
 refine au 8 ?_
 refine TL.st rfl rfl rfl (Bf (f:=Aw) rfl rfl rfl) ?_
 refine au 3 ?_
 obtain⟨q8,h9,H⟩:=Ac H
 refine T.lq (fun s=>match s with | v1=>[(0,.im b0 (a0.map (Aw))),(5,.im b0 (a0.map (Aw))),(6,.int .i64 (a0.length:Int)),(7,.int .i64 v1)]) (fun s=>match s with | v1=>[]) (fun q ex fr σ=>match q with | .inl _=>ex = .exit 0∧fr = []∧σ = [] | .inr q2=>ex = .ret∧C5 Tryz.prog [.tmp 2] (fun v τ=>Told τ v (.bool q2)) .ret fr σ) h9 ?_ ?_
 ·rintro v1 y3 H
  refine au 5 ?_
  refine T.cH H ?_ ?_<;>intro H h
  ·refine au 6 ?_
   obtain⟨e4,h5,H⟩:=Ac H
   refine TL.st rfl rfl rfl (B7 (f:=Aw) rfl rfl Bm rfl rfl h5 rfl) ?_
   refine au 12 ?_
   obtain⟨e6,h7,H⟩:=Ac H
   refine TL.gcq rfl rfl rfl (.bool _) rfl rfl (fun h=>B7 (f:=Aw) rfl rfl Bm (gv h rfl) (gv h rfl) (Bq h7 h) rfl) ?_
   refine TL.gcq rfl rfl rfl (.bool _) rfl rfl (fun h=>Bx rfl Bm (gv h rfl) (nb rfl) rfl) ?_
   refine TL.gcq rfl rfl rfl (.bool _) rfl rfl (fun h=>Bp rfl rfl) ?_
   refine TL.gcq rfl rfl rfl (.bool _) rfl rfl (fun h=>E4 rfl (gv h rfl) (gv h rfl) rfl) ?_
   refine au 2 ?_
   refine T.cH H ?_ ?_<;>intro H h
   ·refine au 5 ?_
    refine Av (Aj ?_)
    exact Pk.id (Aj ⟨.inr false,(Ad H).symm,rfl,⟨trivial,_,(.tmp _ _ _ _ rfl .nil),(.cl _ rfl)⟩⟩)
   ·refine au 5 ?_
    exact Pk.of (Af ⟨(IntKind.i64.wrap (v1+1)),(Ad H).symm,rfl,rfl⟩)
  ·refine T.exit ?_
   refine Am ?_
   exact Pk.of (Am ⟨.inl (),(Ad H).symm,rfl,rfl,rfl⟩)
 ·rcases q8 with ⟨⟩ | q2
  ·rintro _ _ _ ⟨rfl,rfl,rfl⟩
   refine A6 ?_
   refine au 5 ?_
   cases Ad H
   exact⟨trivial,_,(.tmp _ _ _ _ rfl .nil),(.cl _ rfl)⟩
  ·rintro _ fr1 σ1 ⟨rfl,hr⟩
   refine Av (Aj ?_)
   cases Ad H
   exact hr
theorem en_69:En Tryz.prog 69:=.of Tryz.func69 rfl rfl
noncomputable def impl_DirSchema_yclass_1(a0:Ax):Option ByteArray :=
  some a0.Name_
theorem impl_DirSchema_yclass_1_p(b0:Bool){a0:Ax}{R0:ByteArray}(H:impl_DirSchema_yclass_1 a0=some R0):Bu Tryz.prog 113 [.agg (Ak b0 a0)] (.str R0):=by
 refine Ba.of_TN (n:=5) Tryz.func113 rfl rfl rfl rfl ?_
 refine au 12 ?_
 cases Ad H
 exact⟨trivial,_,(.tmp _ _ _ _ rfl .nil),(.cl _ rfl)⟩
theorem en_113:En Tryz.prog 113:=.of Tryz.func113 rfl rfl
noncomputable def impl_Class__l1(a0:(List Ax))(a1:ByteArray):Int→Option (Int⊕(Unit⊕(Ax×Bool))):=fun s=>match s with
  | v1=>cond (decide (v1<(a0.length:Int))) ((idx a0 v1).bind fun e4=>(impl_DirSchema_yclass_1 e4).bind fun r6=>cond (r6.toList==a1.toList) (some (.inr (.inr (e4,true)))) (some (.inl (IntKind.i64.wrap (v1+1))))) (some (.inr (.inl ())))
noncomputable def impl_Class_(a0:(List Ax))(a1:ByteArray):Option (Ax×Bool) :=
  (loopO (impl_Class__l1 a0 a1) 0).bind fun q8=>(match q8 with | .inl _=>some ((⟨e0,e0,([]:List ByteArray),([]:List ByteArray)⟩:Ax),false) | .inr q2=>some q2)
theorem impl_Class__p(b0:Bool){a0:(List Ax)}{a1:ByteArray}{R0:Ax}{R1:Bool}(H:impl_Class_ a0 a1=some (R0,R1)):Bu Tryz.prog 112 [.im b0 (a0.map (Ak false)),.fn 113 [] [],.str a1] (.tup [.agg (Ak false R0),.bool R1]):=by
 refine Ba.of_TN (n:=25) Tryz.func112 rfl rfl rfl rfl ?_
 refine au 9 ?_
 refine TL.st rfl rfl rfl (Bf (f:=Ak false) rfl rfl rfl) ?_
 refine au 3 ?_
 obtain⟨q8,h9,H⟩:=Ac H
 refine T.lq (fun s=>match s with | v1=>[(1,.fn 113 [] []),(2,.str a1),(6,.bx 0 0),(11,.im b0 (a0.map (Ak false))),(12,.int .i64 (a0.length:Int)),(13,.int .i64 v1)]) (fun s=>match s with | v1=>[.box [.str e0,.str e0,.nilS,.nilS]]) (fun q ex fr σ=>match q with | .inl _=>ex = .exit 0∧fr = [(6,.bx 0 0)]∧σ = [.box [.str e0,.str e0,.nilS,.nilS]] | .inr q2=>ex = .ret∧C5 Tryz.prog [.cell 6 108,.tmp 7] (fun v τ=>Told τ v (.tup [.agg (Ak false q2.1),.bool q2.2])) .ret fr σ) h9 ?_ ?_
 ·rintro v1 y3 H
  refine au 5 ?_
  refine T.cH H ?_ ?_<;>intro H h
  ·refine au 5 ?_
   obtain⟨e4,h5,H⟩:=Ac H
   refine TL.st rfl rfl rfl (B7 (f:=Ak false) rfl rfl Dw rfl rfl h5 rfl) ?_
   refine au 8 ?_
   obtain⟨r6,h7,H⟩:=Ac H
   refine TL.st rfl rfl rfl (Aq rfl en_113 rfl rfl (.cons _ _ _ _ (.cl _ rfl) .nil) (impl_DirSchema_yclass_1_p false h7)) ?_
   refine au 3 ?_
   refine T.cH H ?_ ?_<;>intro H h
   ·refine au 6 ?_
    refine T.conv (Cs.eqS (σ':=[.box (Ak false e4),.box (Ak false e4)]) rfl) ?_
    refine T.ret ?_
    refine Av (Aj ?_)
    exact Pk.id (Aj ⟨.inr (e4,true),(Ad H).symm,rfl,⟨trivial,_,(.cell _ _ _ _ _ _ _ _ _ _ rfl rfl Dw (nb rfl) rfl (.tmp _ _ _ _ rfl .nil)),(.tupL (.cons _ _ _ _ (.cl _ rfl) (.cons _ _ _ _ (.cl _ rfl) .nil)))⟩⟩)
   ·refine au 5 ?_
    exact Pk.of (Af ⟨(IntKind.i64.wrap (v1+1)),(Ad H).symm,rfl,rfl⟩)
  ·refine T.exit ?_
   refine Am ?_
   exact Pk.of (Am ⟨.inl (),(Ad H).symm,rfl,rfl,rfl⟩)
 ·rcases q8 with ⟨⟩ | q2
  ·rintro _ _ _ ⟨rfl,rfl,rfl⟩
   refine A6 ?_
   refine au 11 ?_
   cases Ad H
   exact⟨trivial,_,(.cell _ _ _ _ _ _ _ _ _ _ rfl rfl Dw (nb rfl) rfl (.tmp _ _ _ _ rfl .nil)),(.tupL (.cons _ _ _ _ (.aggL (.cons _ _ _ _ (.cl _ rfl) (.cons _ _ _ _ (.cl _ rfl) (.cons _ _ _ _ .nil (.cons _ _ _ _ .nil .nil))))) (.cons _ _ _ _ (.cl _ rfl) .nil)))⟩
  ·rintro _ fr1 σ1 ⟨rfl,hr⟩
   refine Av (Aj ?_)
   cases Ad H
   exact hr
theorem en_112:En Tryz.prog 112:=.of Tryz.func112 rfl rfl
noncomputable def impl_DirSchema_yclass(a0:Ah)(a1:ByteArray):Option (Ax×Bool) :=
  (impl_Class_ a0.Classes_ a1).bind fun q=>(match q with | (r1,r2)=>some (r1,r2))
theorem impl_DirSchema_yclass_p(b0:Bool){a0:Ah}{a1:ByteArray}{R0:Ax}{R1:Bool}(H:impl_DirSchema_yclass a0 a1=some (R0,R1)):Bu Tryz.prog 70 [.agg (At b0 a0),.str a1] (.tup [.agg (Ak false R0),.bool R1]):=by
 refine Ba.of_TN (n:=12) Tryz.func70 rfl rfl rfl rfl ?_
 refine au 11 ?_
 obtain⟨⟨r1,r2⟩,h3,H⟩:=Ac H
 refine TL.st rfl rfl rfl (Aq rfl en_112 rfl rfl (.cons _ _ _ _ (.imv _ _) (.cons _ _ _ _ (.fn _ _ _ _ _ rfl rfl (fun i c d h=>by simp at h) (fun i c d h=>by simp at h)) (.cons _ _ _ _ (.cl _ rfl) .nil))) (impl_Class__p b0 h3)) ?_
 refine au 5 ?_
 refine T.conv (Cs.eqS (σ':=[.box (At b0 a0),.box (Ak false r1)]) rfl) ?_
 refine T.ret ?_
 cases Ad H
 exact⟨trivial,_,(.cell _ _ _ _ _ _ _ _ _ _ rfl rfl Dw (nb rfl) rfl (.tmp _ _ _ _ rfl .nil)),(.tupL (.cons _ _ _ _ (.cl _ rfl) (.cons _ _ _ _ (.cl _ rfl) .nil)))⟩
theorem en_70:En Tryz.prog 70:=.of Tryz.func70 rfl rfl
noncomputable def By(a0:Ah):(Ax×Int)→Option ((Ax×Int)⊕(Ax⊕Bool)):=fun s=>match s with
  | (b17,v18)=>cond (!(b17.Up_.toList==e0.toList)) ((impl_DirSchema_yclass a0 b17.Up_).bind fun q=>(match q with | (r22,r23)=>cond ((!r23)||decide (v18 > 20)) (some (.inr (.inr false))) (some (.inl (r22,(IntKind.i64.wrap (v18+1))))))) (some (.inr (.inl b17)))
noncomputable def impl_GoodDirSchema_l5(a0:Ah)(e28:(List ByteArray)):Int→Option (Int⊕(Unit⊕Bool)):=fun s=>match s with
  | v32=>cond (decide (v32<(e28.length:Int))) ((idx e28 v32).bind fun e35=>(impl_DirSchema_yattrType a0 e35).bind fun q=>(match q with | (r37,r38)=>cond (!r38) (some (.inr (.inr false))) (some (.inl (IntKind.i64.wrap (v32+1)))))) (some (.inr (.inl ())))
noncomputable def impl_GoodDirSchema_l3(a0:Ah)(e9:Ax):Int→Option (Int⊕(Unit⊕Bool)):=fun s=>match s with
  | v15=>cond (decide (v15<(([e9.Must_,e9.May_]:List (List ByteArray)).length:Int))) ((idx ([e9.Must_,e9.May_]:List (List ByteArray)) v15).bind fun e28=>(gdO (!(decide ((e28.length:Int) > 30))) (impl_yrising e28)).bind fun r30=>cond (decide ((e28.length:Int) > 30)||(!r30)) (some (.inr (.inr false))) ((loopO (impl_GoodDirSchema_l5 a0 e28) 0).bind fun q40=>(match q40 with | .inl _=>some (.inl (IntKind.i64.wrap (v15+1))) | .inr q33=>some (.inr (.inr q33))))) (some (.inr (.inl ())))
noncomputable def impl_GoodDirSchema_l2(a0:Ah):Int→Option (Int⊕(Unit⊕Bool)):=fun s=>match s with
  | v6=>cond (decide (v6<(a0.Classes_.length:Int))) ((idx a0.Classes_ v6).bind fun e9=>(B5 e9.Name_).bind fun r11=>(gdO ((!(!r11))&&decide (v6 > 0)) (idx a0.Classes_ (IntKind.i64.wrap (v6 - 1)))).bind fun e13=>cond ((!r11)||(decide (v6 > 0)&&(!(Op.bytesLess e13.Name_.toList e9.Name_.toList)))) (some (.inr (.inr false))) ((loopO (impl_GoodDirSchema_l3 a0 e9) 0).bind fun q42=>(match q42 with | .inl _=>(loopO (By a0) (e9,0)).bind fun q25=>(match q25 with | .inl b19=>some (.inl (IntKind.i64.wrap (v6+1))) | .inr q20=>some (.inr (.inr q20))) | .inr q16=>some (.inr (.inr q16))))) (some (.inr (.inl ())))
noncomputable def impl_GoodDirSchema_l1(a0:Ah):Int→Option (Int⊕(Unit⊕Bool)):=fun s=>match s with
  | v1=>cond (decide (v1<(a0.Types_.length:Int))) ((idx a0.Types_ v1).bind fun e47=>(B5 e47.Name_).bind fun r49=>(gdO ((!(!r49))&&decide (v1 > 0)) (idx a0.Types_ (IntKind.i64.wrap (v1 - 1)))).bind fun e51=>cond ((((!r49)||(decide (v1 > 0)&&(!(Op.bytesLess e51.Name_.toList e47.Name_.toList))))||decide (e47.Syntax_<1))||decide (e47.Syntax_ > 4)) (some (.inr (.inr false))) (some (.inl (IntKind.i64.wrap (v1+1))))) (some (.inr (.inl ())))
noncomputable def impl_GoodDirSchema(a0:Ah):Option Bool :=
  cond (decide ((a0.Types_.length:Int) > 40)||decide ((a0.Classes_.length:Int) > 20)) (some false) ((loopO (impl_GoodDirSchema_l1 a0) 0).bind fun q53=>(match q53 with | .inl _=>(impl_DirSchema_yattrType a0 (ByteArray.mk #[99,108,97,115,115])).bind fun q=>(match q with | (r3,r4)=>cond (((!r4)||(r3.Syntax_ != 2))||r3.Single_) (some false) ((loopO (impl_GoodDirSchema_l2 a0) 0).bind fun q44=>(match q44 with | .inl _=>some true | .inr q7=>some q7))) | .inr q2=>some q2))
theorem impl_GoodDirSchema_p (b0 : Bool) {a0 :          Ah} {R0 : Bool} (H : impl_GoodDirSchema a0 = some R0) :   Bu Tryz.prog 30 [.agg (           At b0 a0)] (.bool R0) := by
 refine Ba.of_TN (n:=165) Tryz.func30 rfl rfl rfl rfl ?_
 refine au 10 ?_
 refine TL.st rfl rfl rfl (Bf (f:=Ae false) rfl rfl rfl) ?_
 refine au 4 ?_
 refine TL.gcq rfl rfl rfl (.bool _) rfl rfl (fun h=>Bf (f:=Ak false) rfl rfl (gv h rfl)) ?_
 refine au 3 ?_
 refine T.cH H ?_ ?_<;>intro H h
 ·refine au 5 ?_
  refine Aj ?_
  cases Ad H
  exact⟨trivial,_,(.tmp _ _ _ _ rfl .nil),(.cl _ rfl)⟩
 ·refine au 6 ?_
  refine TL.st rfl rfl rfl (Bf (f:=Ae false) rfl rfl rfl) ?_
  refine au 3 ?_
  obtain⟨q53,h54,H⟩:=Ac H
  refine T.lq (fun s=>match s with | v1=>[(1,.bx 0 0),(29,.im b0 (a0.Types_.map (Ae false))),(30,.int .i64 (a0.Types_.length:Int)),(31,.int .i64 v1)]) (fun s=>match s with | v1=>[.box (At b0 a0)]) (fun q ex fr σ=>match q with | .inl _=>ex = .exit 0∧fr = [(1,.bx 0 0)]∧σ = [.box (At b0 a0)] | .inr q2=>ex = .ret∧C5 Tryz.prog [.tmp 2] (fun v τ=>Told τ v (.bool q2)) .ret fr σ) h54 ?_ ?_
  ·rintro v1 y46 H
   refine au 5 ?_
   refine T.cH H ?_ ?_<;>intro H h
   ·refine au 6 ?_
    obtain⟨e47,h48,H⟩:=Ac H
    refine TL.st rfl rfl rfl (B7 (f:=Ae false) rfl rfl D6 rfl rfl h48 rfl) ?_
    refine au 6 ?_
    refine T.drawn rfl ?_
    refine ad 2 ?_
    obtain⟨r49,h50,H⟩:=Ac H
    refine TD.qs rfl rfl (fun _=>Aq rfl en_55 rfl rfl (.cons _ _ _ _ (.cl _ rfl) .nil) (impl_GoodName_p  h50)) ?_
    refine ad 3 ?_
    refine TD.cq rfl rfl rfl (.bool _) rfl (fun h _=>B3 rfl (gv h rfl) rfl rfl) ?_
    refine TD.cq rfl rfl rfl (.bool _) rfl (fun h _=>Bp rfl (gv h rfl)) ?_
    refine TD.cr rfl rfl rfl (.gd _ _) rfl (fun h=>Bb rfl rfl rfl Ds (by decide) rfl rfl ⟨_,rfl,Nat.le_of_ble_eq_true rfl⟩) ?_
    refine TD.cr rfl rfl rfl (.gd _ _) rfl (fun h=>Bs rfl Ds (gv h rfl) rfl (nb rfl) rfl) ?_
    refine TD.cq rfl rfl rfl (.gd _ _) rfl (fun h _=>Bp rfl rfl) ?_
    refine TD.cq rfl rfl rfl (.gd _ _) rfl (fun h _=>B3 rfl (gv h rfl) rfl rfl) ?_
    obtain⟨e51,h52,H⟩:=Ac H
    refine TD.cq rfl rfl rfl (.gd _ _) rfl (fun h _=>B7 (f:=Ae false) rfl rfl D6 (gv h rfl) (gv h rfl) (Bq h52 h) rfl) ?_
    refine TD.cq rfl rfl rfl (.gd _ _) rfl (fun h _=>Bb rfl rfl rfl Bm (by decide) (gv h rfl) rfl trivial) ?_
    refine TD.cq rfl rfl rfl (.gd _ _) rfl (fun h _=>Bx rfl Bm (gv h rfl) (nb rfl) rfl) ?_
    refine TD.cr rfl rfl rfl (.gd _ _) rfl (fun h=>Bb rfl rfl rfl Bm (by decide) rfl rfl ⟨_,rfl,Nat.le_of_ble_eq_true rfl⟩) ?_
    refine TD.cr rfl rfl rfl (.gd _ _) rfl (fun h=>Bs rfl Bm (gv h rfl) rfl (nb rfl) rfl) ?_
    refine TD.cq rfl rfl rfl (.gd _ _) rfl (fun h _=>E4 rfl (gv h rfl) (gv h rfl) rfl) ?_
    refine TD.cq rfl rfl rfl (.bool _) rfl (fun h _=>Eq rfl (gv h rfl) rfl (fun k=>Ed (andi h k)) rfl) ?_
    refine ad 4 ?_
    refine TD.cq rfl rfl rfl (.bool _) rfl (fun h _=>B3 rfl (gv h rfl) rfl rfl) ?_
    refine ad 4 ?_
    refine TD.cq rfl rfl rfl (.bool _) rfl (fun h _=>B3 rfl (gv h rfl) rfl rfl) ?_
    refine TD.qs rfl rfl (fun _=>o_or rfl rfl rfl rfl (fun k=>Ed k)) ?_
    refine TD.nil ⟨rfl,?_⟩
    refine Af ?_
    refine T.cH H ?_ ?_<;>intro H h
    ·refine au 5 ?_
     refine Av (Aj ?_)
     exact Pk.id (Aj ⟨.inr false,(Ad H).symm,rfl,⟨trivial,_,(.tmp _ _ _ _ rfl .nil),(.cl _ rfl)⟩⟩)
    ·refine au 5 ?_
     exact Pk.of (Af ⟨(IntKind.i64.wrap (v1+1)),(Ad H).symm,rfl,rfl⟩)
   ·refine T.exit ?_
    refine Am ?_
    exact Pk.of (Am ⟨.inl (),(Ad H).symm,rfl,rfl,rfl⟩)
  ·rcases q53 with ⟨⟩ | q2
   ·rintro _ _ _ ⟨rfl, rfl, rfl⟩
    refine A6 ?_
    refine au 4 ?_
    obtain⟨⟨r3,r4⟩,h5,H⟩:=Ac H
    refine TL.st rfl rfl rfl (Aq rfl en_68 rfl rfl (.cons _ _ _ _ (Lent.aggL (.cons _ _ _ _ (.imv _ _) (.cons _ _ _ _ (.imv _ _) .nil))) (.cons _ _ _ _ (.cl _ rfl) .nil)) (impl_DirSchema_yattrType_p b0 h5)) ?_
    refine au 21 ?_
    refine T.cH H ?_ ?_<;>intro H h
    ·refine au 5 ?_
     refine Aj ?_
     cases Ad H
     exact⟨trivial,_,(.tmp _ _ _ _ rfl .nil),(.cl _ rfl)⟩
    ·refine au 6 ?_
     refine TL.st rfl rfl rfl (Bf (f:=Ak false) rfl rfl rfl) ?_
     refine au 3 ?_
     obtain⟨q44,h45,H⟩:=Ac H
     refine T.lq (fun s=>match s with | v6=>[(1,.bx 0 0),(84,.im b0 (a0.Classes_.map (Ak false))),(85,.int .i64 (a0.Classes_.length:Int)),(86,.int .i64 v6)]) (fun s=>match s with | v6=>[.box (At b0 a0),.box (Ae false r3)]) (fun q ex fr σ=>match q with | .inl _=>ex = .exit 2∧fr = []∧σ = [.box (At b0 a0),.box (Ae false r3)] | .inr q7=>ex = .ret∧C5 Tryz.prog [.tmp 2] (fun v τ=>Told τ v (.bool q7)) .ret fr σ) h45 ?_ ?_
     ·rintro v6 y8 H
      refine au 5 ?_
      refine T.cH H ?_ ?_<;>intro H h
      ·refine au 6 ?_
       obtain⟨e9,h10,H⟩:=Ac H
       refine TL.st rfl rfl rfl (B7 (f:=Ak false) rfl rfl Dw rfl rfl h10 rfl) ?_
       refine au 7 ?_
       refine T.drawn rfl ?_
       refine ad 2 ?_
       obtain⟨r11,h12,H⟩:=Ac H
       refine TD.qs rfl rfl (fun _=>Aq rfl en_55 rfl rfl (.cons _ _ _ _ (.cl _ rfl) .nil) (impl_GoodName_p  h12)) ?_
       refine ad 3 ?_
       refine TD.cq rfl rfl rfl (.bool _) rfl (fun h _=>B3 rfl (gv h rfl) rfl rfl) ?_
       refine TD.cq rfl rfl rfl (.bool _) rfl (fun h _=>Bp rfl (gv h rfl)) ?_
       refine TD.cr rfl rfl rfl (.gd _ _) rfl (fun h=>Bb rfl rfl rfl Dr (by decide) rfl rfl ⟨_,rfl,Nat.le_of_ble_eq_true rfl⟩) ?_
       refine TD.cr rfl rfl rfl (.gd _ _) rfl (fun h=>Bs rfl Dr (gv h rfl) rfl (nb rfl) rfl) ?_
       refine TD.cq rfl rfl rfl (.gd _ _) rfl (fun h _=>Bp rfl rfl) ?_
       refine TD.cq rfl rfl rfl (.gd _ _) rfl (fun h _=>B3 rfl (gv h rfl) rfl rfl) ?_
       obtain⟨e13,h14,H⟩:=Ac H
       refine TD.cq rfl rfl rfl (.gd _ _) rfl (fun h _=>B7 (f:=Ak false) rfl rfl Dw (gv h rfl) (gv h rfl) (Bq h14 h) rfl) ?_
       refine TD.cq rfl rfl rfl (.gd _ _) rfl (fun h _=>Bb rfl rfl rfl Bm (by decide) (gv h rfl) rfl trivial) ?_
       refine TD.cq rfl rfl rfl (.gd _ _) rfl (fun h _=>Bx rfl Bm (gv h rfl) (nb rfl) rfl) ?_
       refine TD.cr rfl rfl rfl (.gd _ _) rfl (fun h=>Bb rfl rfl rfl Bm (by decide) rfl rfl ⟨_,rfl,Nat.le_of_ble_eq_true rfl⟩) ?_
       refine TD.cr rfl rfl rfl (.gd _ _) rfl (fun h=>Bs rfl Bm (gv h rfl) rfl (nb rfl) rfl) ?_
       refine TD.cq rfl rfl rfl (.gd _ _) rfl (fun h _=>E4 rfl (gv h rfl) (gv h rfl) rfl) ?_
       refine TD.cq rfl rfl rfl (.bool _) rfl (fun h _=>Eq rfl (gv h rfl) rfl (fun k=>Ed (andi h k)) rfl) ?_
       refine TD.qs rfl rfl (fun _=>o_or rfl rfl rfl rfl (fun k=>Ed k)) ?_
       refine TD.nil ⟨rfl,?_⟩
       refine Af ?_
       refine T.cH H ?_ ?_<;>intro H h
       ·refine au 5 ?_
        refine Aj (Av (Aj ?_))
        exact Pk.id (Aj ⟨.inr false,(Ad H).symm,rfl,⟨trivial,_,(.tmp _ _ _ _ rfl .nil),(.cl _ rfl)⟩⟩)
       ·refine au 8 ?_
        refine TL.st rfl rfl rfl (A8 (rows:=([e9.Must_,e9.May_]:List (List ByteArray)).map (Et (Aw))) rfl rfl E0 ⟨_,rfl,rfl⟩ (by decide) rfl rfl rfl rfl rfl rfl) ?_
        refine TL.st rfl rfl rfl (Bf (f:=Et (Aw)) rfl rfl rfl) ?_
        refine au 3 ?_
        obtain⟨q42,h43,H⟩:=Ac H
        refine T.lq (fun s=>match s with | v15=>[(1,.bx 0 0),(8,.bx 2 0),(84,.im b0 (a0.Classes_.map (Ak false))),(85,.int .i64 (a0.Classes_.length:Int)),(86,.int .i64 v6),(115,.im false (([e9.Must_,e9.May_]:List (List ByteArray)).map (Et (Aw)))),(116,.int .i64 (([e9.Must_,e9.May_]:List (List ByteArray)).length:Int)),(117,.int .i64 v15)]) (fun s=>match s with | v15=>[.box (At b0 a0),.box (Ae false r3),.box (Ak false e9)]) (fun q ex fr σ=>match q with | .inl _=>ex = .exit 4∧fr = [(1,.bx 0 0),(8,.bx 2 0),(84,.im b0 (a0.Classes_.map (Ak false))),(85,.int .i64 (a0.Classes_.length:Int)),(86,.int .i64 v6)]∧σ = [.box (At b0 a0),.box (Ae false r3),.box (Ak false e9)] | .inr q16=>ex = .ret∧C5 Tryz.prog [.tmp 2] (fun v τ=>Told τ v (.bool q16)) .ret fr σ) h43 ?_ ?_
        ·rintro v15 y27 H
         refine au 5 ?_
         refine T.cH H ?_ ?_<;>intro H h
         ·refine au 5 ?_
          obtain⟨e28,h29,H⟩:=Ac H
          refine TL.st rfl rfl rfl (B7 (f:=Et (Aw)) rfl rfl E0 rfl rfl h29 rfl) ?_
          refine au 7 ?_
          refine TL.st rfl rfl rfl (Bf (f:=Aw) rfl rfl rfl) ?_
          refine au 3 ?_
          obtain⟨r30,h31,H⟩:=Ac H
          refine TL.gcq rfl rfl rfl (.bool _) rfl rfl (fun h=>Aq rfl en_69 rfl (Dc (gv h rfl)) (.cons _ _ _ _ (.cl _ rfl) .nil) (impl_yrising_p false (Bq h31 h))) ?_
          refine au 3 ?_
          refine T.cH H ?_ ?_<;>intro H h
          ·refine au 5 ?_
           refine Aj (Av (Aj ?_))
           exact Pk.id (Aj ⟨.inr false,(Ad H).symm,rfl,⟨trivial,_,(.tmp _ _ _ _ rfl .nil),(.cl _ rfl)⟩⟩)
          ·refine au 4 ?_
           refine TL.st rfl rfl rfl (Bf (f:=Aw) rfl rfl rfl) ?_
           refine au 3 ?_
           obtain⟨q40,h41,H⟩:=Ac H
           refine T.lq (fun s=>match s with | v32=>[(1,.bx 0 0),(8,.bx 2 0),(84,.im b0 (a0.Classes_.map (Ak false))),(85,.int .i64 (a0.Classes_.length:Int)),(86,.int .i64 v6),(115,.im false (([e9.Must_,e9.May_]:List (List ByteArray)).map (Et (Aw)))),(116,.int .i64 (([e9.Must_,e9.May_]:List (List ByteArray)).length:Int)),(117,.int .i64 v15),(129,.im false (e28.map (Aw))),(130,.int .i64 (e28.length:Int)),(131,.int .i64 v32)]) (fun s=>match s with | v32=>[.box (At b0 a0),.box (Ae false r3),.box (Ak false e9)]) (fun q ex fr σ=>match q with | .inl _=>ex = .exit 6∧fr = [(1,.bx 0 0),(8,.bx 2 0),(84,.im b0 (a0.Classes_.map (Ak false))),(85,.int .i64 (a0.Classes_.length:Int)),(86,.int .i64 v6),(115,.im false (([e9.Must_,e9.May_]:List (List ByteArray)).map (Et (Aw)))),(116,.int .i64 (([e9.Must_,e9.May_]:List (List ByteArray)).length:Int)),(117,.int .i64 v15)]∧σ = [.box (At b0 a0),.box (Ae false r3),.box (Ak false e9)] | .inr q33=>ex = .ret∧C5 Tryz.prog [.tmp 2] (fun v τ=>Told τ v (.bool q33)) .ret fr σ) h41 ?_ ?_
           ·rintro v32 y34 H
            refine au 5 ?_
            refine T.cH H ?_ ?_<;>intro H h
            ·refine au 5 ?_
             obtain⟨e35,h36,H⟩:=Ac H
             refine TL.st rfl rfl rfl (B7 (f:=Aw) rfl rfl Bm rfl rfl h36 rfl) ?_
             refine au 7 ?_
             obtain⟨⟨r37,r38⟩,h39,H⟩:=Ac H
             refine TL.st rfl rfl rfl (Aq rfl en_68 rfl rfl (.cons _ _ _ _ (Lent.aggL (.cons _ _ _ _ (.imv _ _) (.cons _ _ _ _ (.imv _ _) .nil))) (.cons _ _ _ _ (.cl _ rfl) .nil)) (impl_DirSchema_yattrType_p b0 h39)) ?_
             refine au 12 ?_
             refine T.cH H ?_ ?_<;>intro H h
             ·refine au 5 ?_
              refine Av (Aj ?_)
              exact Pk.id (Aj ⟨.inr false,(Ad H).symm,rfl,⟨trivial,_,(.tmp _ _ _ _ rfl .nil),(.cl _ rfl)⟩⟩)
             ·refine au 5 ?_
              exact Pk.of (Af ⟨(IntKind.i64.wrap (v32+1)),(Ad H).symm,rfl,rfl⟩)
            ·refine T.exit ?_
             refine Am ?_
             exact Pk.of (Am ⟨.inl (),(Ad H).symm,rfl,rfl,rfl⟩)
           ·rcases q40 with ⟨⟩ | q33
            ·rintro _ _ _ ⟨rfl,rfl,rfl⟩
             refine A6 ?_
             refine au 4 ?_
             exact Pk.of (Af ⟨(IntKind.i64.wrap (v15+1)),(Ad H).symm,rfl,rfl⟩)
            ·rintro _ fr1 σ1 ⟨rfl,hr⟩
             refine Av (Av (Aj ?_))
             exact Pk.id (Aj ⟨.inr q33,(Ad H).symm,rfl,hr⟩)
         ·refine T.exit ?_
          refine Am ?_
          exact Pk.of (Am ⟨.inl (),(Ad H).symm,rfl,rfl,rfl⟩)
        ·rcases q42 with ⟨⟩ | q16
         ·rintro _ _ _ ⟨rfl,rfl,rfl⟩
          refine A6 ?_
          refine au 11 ?_
          obtain⟨q25,h26,H⟩:=Ac H
          refine T.lq (fun s=>match s with | (b17,v18)=>[(1,.bx 0 0),(15,.bx 3 0),(16,.int .i64 v18),(84,.im b0 (a0.Classes_.map (Ak false))),(85,.int .i64 (a0.Classes_.length:Int)),(86,.int .i64 v6)]) (fun s=>match s with | (b17,v18)=>[.box (At b0 a0),.box (Ae false r3),.box (Ak false e9),.box (Ak false b17)]) (fun q ex fr σ=>match q with | .inl b19=>ex = .exit 8∧fr = [(1,.bx 0 0),(84,.im b0 (a0.Classes_.map (Ak false))),(85,.int .i64 (a0.Classes_.length:Int)),(86,.int .i64 v6)]∧σ = [.box (At b0 a0),.box (Ae false r3),.box (Ak false e9),.box (Ak false b19)] | .inr q20=>ex = .ret∧C5 Tryz.prog [.tmp 2] (fun v τ=>Told τ v (.bool q20)) .ret fr σ) h26 ?_ ?_
          ·rintro⟨b17,v18⟩ y21 H
           refine au 7 ?_
           refine T.cH H ?_ ?_<;>intro H h
           ·refine au 12 ?_
            obtain⟨⟨r22,r23⟩,h24,H⟩:=Ac H
            refine TL.st rfl rfl rfl (Aq rfl en_70 rfl rfl (.cons _ _ _ _ (Lent.aggL (.cons _ _ _ _ (.imv _ _) (.cons _ _ _ _ (.imv _ _) .nil))) (.cons _ _ _ _ (.cl _ rfl) .nil)) (impl_DirSchema_yclass_p b0 h24)) ?_
            refine au 15 ?_
            refine T.cH H ?_ ?_<;>intro H h
            ·refine au 5 ?_
             refine Av (Aj ?_)
             exact Pk.id (Aj ⟨.inr false,(Ad H).symm,rfl,⟨trivial,_,(.tmp _ _ _ _ rfl .nil),(.cl _ rfl)⟩⟩)
            ·refine au 6 ?_
             exact Pk.of (Af ⟨(r22,(IntKind.i64.wrap (v18+1))),(Ad H).symm,rfl,rfl⟩)
           ·refine T.exit ?_
            refine Am ?_
            exact Pk.of (Am ⟨.inl b17,(Ad H).symm,rfl,rfl,rfl⟩)
          ·rcases q25 with b19 | q20
           ·rintro _ _ _ ⟨rfl,rfl,rfl⟩
            refine A6 ?_
            refine au 4 ?_
            exact Pk.of (Af ⟨(IntKind.i64.wrap (v6+1)),(Ad H).symm,rfl,rfl⟩)
           ·rintro _ fr1 σ1 ⟨rfl,hr⟩
            refine Av (Av (Aj ?_))
            exact Pk.id (Aj ⟨.inr q20,(Ad H).symm,rfl,hr⟩)
         ·rintro _ fr1 σ1 ⟨rfl,hr⟩
          refine Av (Aj (Av (Aj ?_)))
          exact Pk.id (Aj ⟨.inr q16,(Ad H).symm,rfl,hr⟩)
      ·refine T.exit ?_
       refine Am ?_
       exact Pk.of (Am ⟨.inl (),(Ad H).symm,rfl,rfl,rfl⟩)
     ·rcases q44 with ⟨⟩ | q7
      ·rintro _ _ _ ⟨rfl,rfl,rfl⟩
       refine A6 ?_
       refine au 5 ?_
       cases Ad H
       exact⟨trivial,_,(.tmp _ _ _ _ rfl .nil),(.cl _ rfl)⟩
      ·rintro _ fr1 σ1 ⟨rfl,hr⟩
       refine Av (Aj ?_)
       cases Ad H
       exact hr
   ·rintro _ fr1 σ1 ⟨rfl,hr⟩
    refine Av (Aj ?_)
    cases Ad H
    exact hr
theorem en_30:En Tryz.prog 30:=.of Tryz.func30 rfl rfl
noncomputable def impl_yprinted_l1(a0:ByteArray):Int→Option (Int⊕(Unit⊕Bool)):=fun s=>match s with
  | v1=>cond (decide (v1<(a0.size:Int))) ((Cr a0 v1).bind fun b4=>(gdO (!(decide (b4<32))) (Cr a0 v1)).bind fun b6=>cond (decide (b4<32)||decide (b6 > 126)) (some (.inr (.inr false))) (some (.inl (IntKind.i64.wrap (v1+1))))) (some (.inr (.inl ())))
noncomputable def impl_yprinted(a0:ByteArray)(a1:Int)(a2:Int):Option Bool :=
  cond (decide ((a0.size:Int)<a1)||decide ((a0.size:Int) > a2)) (some false) ((loopO (impl_yprinted_l1 a0) 0).bind fun q8=>(match q8 with | .inl _=>some true | .inr q2=>some q2))
theorem impl_yprinted_p {a0:ByteArray} {a1:Int} {a2:Int} {R0:Bool} (H:impl_yprinted a0 a1 a2=some R0):Bu Tryz.prog 114 [.str a0,.int .i64 a1,.int .i64 a2] (.bool R0):=by
 refine Ba.of_TN (n:=34) Tryz.func114 rfl rfl rfl rfl ?_
 refine au 13 ?_
 refine TL.gcq rfl rfl rfl (.bool _) rfl rfl (fun h=>Fb rfl rfl (gv h rfl)) ?_
 refine TL.gcq rfl rfl rfl (.bool _) rfl rfl (fun h=>Bp rfl rfl) ?_
 refine TL.gcq rfl rfl rfl (.bool _) rfl rfl (fun h=>B3 rfl (gv h rfl) (gv h rfl) rfl) ?_
 refine au 2 ?_
 refine T.cH H ?_ ?_<;>intro H h
 ·refine au 5 ?_
  refine Aj ?_
  cases Ad H
  exact⟨trivial,_,(.tmp _ _ _ _ rfl .nil),(.cl _ rfl)⟩
 ·refine au 9 ?_
  obtain⟨q8,h9,H⟩:=Ac H
  refine T.lq (fun s=>match s with | v1=>[(0,.str a0),(19,.int .i64 (a0.size:Int)),(20,.int .i64 v1)]) (fun s=>match s with | v1=>[]) (fun q ex fr σ=>match q with | .inl _=>ex = .exit 0∧fr = []∧σ = [] | .inr q2=>ex = .ret∧C5 Tryz.prog [.tmp 6] (fun v τ=>Told τ v (.bool q2)) .ret fr σ) h9 ?_ ?_
  ·rintro v1 y3 H
   refine au 5 ?_
   refine T.cH H ?_ ?_<;>intro H h
   ·refine au 12 ?_
    obtain⟨b4,h5,H⟩:=Ac H
    refine TL.st rfl rfl rfl (Ct rfl rfl rfl rfl h5) ?_
    refine au 4 ?_
    obtain⟨b6,h7,H⟩:=Ac H
    refine TL.gcq rfl rfl rfl (.bool _) rfl rfl (fun h=>Ct rfl rfl (gv h rfl) (gv h rfl) (Bq h7 h)) ?_
    refine au 3 ?_
    refine T.cH H ?_ ?_<;>intro H h
    ·refine au 5 ?_
     refine Av (Aj ?_)
     exact Pk.id (Aj ⟨.inr false,(Ad H).symm,rfl,⟨trivial,_,(.tmp _ _ _ _ rfl .nil),(.cl _ rfl)⟩⟩)
    ·refine au 5 ?_
     exact Pk.of (Af ⟨(IntKind.i64.wrap (v1+1)),(Ad H).symm,rfl,rfl⟩)
   ·refine T.exit ?_
    refine Am ?_
    exact Pk.of (Am ⟨.inl (),(Ad H).symm,rfl,rfl,rfl⟩)
  ·rcases q8 with ⟨⟩ | q2
   ·rintro _ _ _ ⟨rfl,rfl,rfl⟩
    refine A6 ?_
    refine au 5 ?_
    cases Ad H
    exact⟨trivial,_,(.tmp _ _ _ _ rfl .nil),(.cl _ rfl)⟩
   ·rintro _ fr1 σ1 ⟨rfl,hr⟩
    refine Av (Aj ?_)
    cases Ad H
    exact hr
theorem en_114:En Tryz.prog 114:=.of Tryz.func114 rfl rfl
noncomputable def impl_ygoodPart(a0:A4)(a1:Int):Option Bool :=
  (B5 a0.Attr_).bind fun r1=>(gdO r1 (impl_yprinted a0.Text_ 1 a1)).bind fun r3=>some (r1&&r3)
theorem impl_ygoodPart_p {a0:A4} {a1:Int} {R0:Bool} (H:impl_ygoodPart a0 a1=some R0):Bu Tryz.prog 92 [.agg (A5 false a0),.int .i64 a1] (.bool R0):=by
 refine Ba.of_TN (n:=14) Tryz.func92 rfl rfl rfl rfl ?_
 refine au 9 ?_
 obtain⟨r1,h2,H⟩:=Ac H
 refine TL.st rfl rfl rfl (Aq rfl en_55 rfl rfl (.cons _ _ _ _ (.cl _ rfl) .nil) (impl_GoodName_p  h2)) ?_
 refine au 4 ?_
 obtain⟨r3,h4,H⟩:=Ac H
 refine TL.gcq rfl rfl rfl (.bool _) rfl rfl (fun h=>Aq rfl en_114 rfl (evl_3 (gv h rfl) rfl (gv h rfl)) (.cons _ _ _ _ (.cl _ rfl) (.cons _ _ _ _ (.cl _ rfl) (.cons _ _ _ _ (.cl _ rfl) .nil))) (impl_yprinted_p  (Bq h4 h))) ?_
 refine au 4 ?_
 cases Ad H
 exact⟨trivial,_,(.tmp _ _ _ _ rfl .nil),(.cl _ rfl)⟩
theorem en_92:En Tryz.prog 92:=.of Tryz.func92 rfl rfl
noncomputable def impl_GoodDirName_1(a0:A4):Option Bool :=
  (impl_ygoodPart a0 60).bind fun r1=>some (!r1)
theorem impl_GoodDirName_1_p {a0:A4} {R0:Bool} (H:impl_GoodDirName_1 a0=some R0):Bu Tryz.prog 91 [.agg (A5 false a0)] (.bool R0):=by
 refine Ba.of_TN (n:=6) Tryz.func91 rfl rfl rfl rfl ?_
 refine au 8 ?_
 obtain⟨r1,h2,H⟩:=Ac H
 refine TL.st rfl rfl rfl (Aq rfl en_92 rfl rfl (.cons _ _ _ _ (.cl _ rfl) (.cons _ _ _ _ (.cl _ rfl) .nil)) (impl_ygoodPart_p  h2)) ?_
 refine au 4 ?_
 cases Ad H
 exact⟨trivial,_,(.tmp _ _ _ _ rfl .nil),(.cl _ rfl)⟩
theorem en_91:En Tryz.prog 91:=.of Tryz.func91 rfl rfl
noncomputable def impl_Part_x_l1(a0:(List A4)):Int→Option (Int⊕(Unit⊕Int)):=fun s=>match s with
  | v1=>cond (decide (v1<(a0.length:Int))) ((idx a0 v1).bind fun e4=>(impl_GoodDirName_1 e4).bind fun r6=>cond r6 (some (.inr (.inr v1))) (some (.inl (IntKind.i64.wrap (v1+1))))) (some (.inr (.inl ())))
noncomputable def impl_Part_x(a0:(List A4)):Option Int :=
  (loopO (impl_Part_x_l1 a0) 0).bind fun q8=>(match q8 with | .inl _=>some (-1) | .inr q2=>some q2)
theorem impl_Part_x_p(b0:Bool){a0:(List A4)}{R0:Int}(H:impl_Part_x a0=some R0):Bu Tryz.prog 131 [.im b0 (a0.map (A5 false)),.fn 91 [] []] (.int .i64 R0):=by
 refine Ba.of_TN (n:=19) Tryz.func131 rfl rfl rfl rfl ?_
 refine au 8 ?_
 refine TL.st rfl rfl rfl (Bf (f:=A5 false) rfl rfl rfl) ?_
 refine au 3 ?_
 obtain⟨q8,h9,H⟩:=Ac H
 refine T.lq (fun s=>match s with | v1=>[(0,.im b0 (a0.map (A5 false))),(1,.fn 91 [] []),(7,.int .i64 (a0.length:Int)),(8,.int .i64 v1)]) (fun s=>match s with | v1=>[]) (fun q ex fr σ=>match q with | .inl _=>ex = .exit 0∧fr = []∧σ = [] | .inr q2=>ex = .ret∧C5 Tryz.prog [.tmp 4] (fun v τ=>Told τ v (.int .i64 q2)) .ret fr σ) h9 ?_ ?_
 ·rintro v1 y3 H
  refine au 5 ?_
  refine T.cH H ?_ ?_<;>intro H h
  ·refine au 13 ?_
   obtain⟨e4,h5,H⟩:=Ac H
   refine TL.st rfl rfl rfl (B7 (f:=A5 false) rfl rfl Em rfl rfl h5 rfl) ?_
   refine TL.st rfl rfl rfl (Bx rfl Em rfl (nb rfl) rfl) ?_
   obtain⟨r6,h7,H⟩:=Ac H
   refine TL.st rfl rfl rfl (Aq rfl en_91 rfl rfl (.cons _ _ _ _ (.cl _ rfl) .nil) (impl_GoodDirName_1_p  h7)) ?_
   refine TL.nil ?_
   refine T.cH H ?_ ?_<;>intro H h
   ·refine au 6 ?_
    refine Av (Aj ?_)
    exact Pk.id (Aj ⟨.inr v1,(Ad H).symm,rfl,⟨trivial,_,(.tmp _ _ _ _ rfl .nil),(.cl _ rfl)⟩⟩)
   ·refine au 5 ?_
    exact Pk.of (Af ⟨(IntKind.i64.wrap (v1+1)),(Ad H).symm,rfl,rfl⟩)
  ·refine T.exit ?_
   refine Am ?_
   exact Pk.of (Am ⟨.inl (),(Ad H).symm,rfl,rfl,rfl⟩)
 ·rcases q8 with ⟨⟩ | q2
  ·rintro _ _ _ ⟨rfl,rfl,rfl⟩
   refine A6 ?_
   refine au 5 ?_
   cases Ad H
   exact⟨trivial,_,(.tmp _ _ _ _ rfl .nil),(.cl _ rfl)⟩
  ·rintro _ fr1 σ1 ⟨rfl,hr⟩
   refine Av (Aj ?_)
   cases Ad H
   exact hr
theorem en_131:En Tryz.prog 131:=.of Tryz.func131 rfl rfl
noncomputable def impl_Part_(a0:(List A4)):Option Bool :=
  (impl_Part_x a0).bind fun r1=>some (decide (r1≥0))
theorem impl_Part__p(b0:Bool){a0:(List A4)}{R0:Bool}(H:impl_Part_ a0=some R0):Bu Tryz.prog 90 [.im b0 (a0.map (A5 false)),.fn 91 [] []] (.bool R0):=by
 refine Ba.of_TN (n:=9) Tryz.func90 rfl rfl rfl rfl ?_
 refine au 8 ?_
 obtain⟨r1,h2,H⟩:=Ac H
 refine TL.st rfl rfl rfl (Aq rfl en_131 rfl rfl (.cons _ _ _ _ (.imv _ _) (.cons _ _ _ _ (.fn _ _ _ _ _ rfl rfl (fun i c d h=>by simp at h) (fun i c d h=>by simp at h)) .nil)) (impl_Part_x_p b0 h2)) ?_
 refine au 4 ?_
 cases Ad H
 exact⟨trivial,_,(.tmp _ _ _ _ rfl .nil),(.cl _ rfl)⟩
theorem en_90:En Tryz.prog 90:=.of Tryz.func90 rfl rfl
noncomputable def impl_GoodDirName(a0:(List A4)):Option Bool :=
  (gdO (decide ((a0.length:Int)≤8)) (impl_Part_ a0)).bind fun r1=>some (decide ((a0.length:Int)≤8)&&(!r1))
theorem impl_GoodDirName_p(b0:Bool){a0:(List A4)}{R0:Bool}(H:impl_GoodDirName a0=some R0):Bu Tryz.prog 44 [.im b0 (a0.map (A5 false))] (.bool R0):=by
 refine Ba.of_TN (n:=11) Tryz.func44 rfl rfl rfl rfl ?_
 refine au 7 ?_
 refine TL.st rfl rfl rfl (Bf (f:=A5 false) rfl rfl rfl) ?_
 refine au 3 ?_
 obtain⟨r1,h2,H⟩:=Ac H
 refine TL.gcq rfl rfl rfl (.bool _) rfl rfl (fun h=>Aq rfl en_90 rfl (E5 (gv h rfl) rfl) (.cons _ _ _ _ (.imv _ _) (.cons _ _ _ _ (.fn _ _ _ _ _ rfl rfl (fun i c d h=>by simp at h) (fun i c d h=>by simp at h)) .nil)) (impl_Part__p b0 (Bq h2 h))) ?_
 refine au 5 ?_
 cases Ad H
 exact⟨trivial,_,(.tmp _ _ _ _ rfl .nil),(.cl _ rfl)⟩
theorem en_44:En Tryz.prog 44:=.of Tryz.func44 rfl rfl
noncomputable def impl_ygoodAttrs_l2(e4:B8):Int→Option (Int⊕(Unit⊕Bool)):=fun s=>match s with
  | v12=>cond (decide (v12<(e4.Values_.length:Int))) ((idx e4.Values_ v12).bind fun e15=>(impl_yprinted e15 1 200).bind fun r17=>cond (!r17) (some (.inr (.inr false))) (some (.inl (IntKind.i64.wrap (v12+1))))) (some (.inr (.inl ())))
noncomputable def impl_ygoodAttrs_l1(a0:(List B8)):Int→Option (Int⊕(Unit⊕Bool)):=fun s=>match s with
  | v1=>cond (decide (v1<(a0.length:Int))) ((idx a0 v1).bind fun e4=>(B5 e4.Name_).bind fun r6=>(gdO ((!(!r6))&&decide (v1 > 0)) (idx a0 (IntKind.i64.wrap (v1 - 1)))).bind fun e8=>(gdO (!((((!r6)||(decide (v1 > 0)&&(!(Op.bytesLess e8.Name_.toList e4.Name_.toList))))||decide ((e4.Values_.length:Int)<1))||decide ((e4.Values_.length:Int) > 30))) (impl_yrising e4.Values_)).bind fun r10=>cond (((((!r6)||(decide (v1 > 0)&&(!(Op.bytesLess e8.Name_.toList e4.Name_.toList))))||decide ((e4.Values_.length:Int)<1))||decide ((e4.Values_.length:Int) > 30))||(!r10)) (some (.inr (.inr false))) ((loopO (impl_ygoodAttrs_l2 e4) 0).bind fun q19=>(match q19 with | .inl _=>some (.inl (IntKind.i64.wrap (v1+1))) | .inr q13=>some (.inr (.inr q13))))) (some (.inr (.inl ())))
noncomputable def impl_ygoodAttrs(a0:(List B8)):Option Bool :=
  (loopO (impl_ygoodAttrs_l1 a0) 0).bind fun q21=>(match q21 with | .inl _=>some true | .inr q2=>some q2)
theorem impl_ygoodAttrs_p(b0:Bool){a0:(List B8)}{R0:Bool}(H:impl_ygoodAttrs a0=some R0):Bu Tryz.prog 71 [.im b0 (a0.map (Bj false))] (.bool R0):=by
 refine Ba.of_TN (n:=63) Tryz.func71 rfl rfl rfl rfl ?_
 refine au 8 ?_
 refine TL.st rfl rfl rfl (Bf (f:=Bj false) rfl rfl rfl) ?_
 refine au 3 ?_
 obtain⟨q21,h22,H⟩:=Ac H
 refine T.lq (fun s=>match s with | v1=>[(0,.im b0 (a0.map (Bj false))),(7,.im b0 (a0.map (Bj false))),(8,.int .i64 (a0.length:Int)),(9,.int .i64 v1)]) (fun s=>match s with | v1=>[]) (fun q ex fr σ=>match q with | .inl _=>ex = .exit 0∧fr = []∧σ = [] | .inr q2=>ex = .ret∧C5 Tryz.prog [.tmp 2] (fun v τ=>Told τ v (.bool q2)) .ret fr σ) h22 ?_ ?_
 ·rintro v1 y3 H
  refine au 5 ?_
  refine T.cH H ?_ ?_<;>intro H h
  ·refine au 6 ?_
   obtain⟨e4,h5,H⟩:=Ac H
   refine TL.st rfl rfl rfl (B7 (f:=Bj false) rfl rfl Ez rfl rfl h5 rfl) ?_
   refine au 7 ?_
   refine T.drawn rfl ?_
   refine ad 2 ?_
   obtain⟨r6,h7,H⟩:=Ac H
   refine TD.qs rfl rfl (fun _=>Aq rfl en_55 rfl rfl (.cons _ _ _ _ (.cl _ rfl) .nil) (impl_GoodName_p  h7)) ?_
   refine ad 3 ?_
   refine TD.cq rfl rfl rfl (.bool _) rfl (fun h _=>B3 rfl (gv h rfl) rfl rfl) ?_
   refine TD.cq rfl rfl rfl (.bool _) rfl (fun h _=>Bp rfl (gv h rfl)) ?_
   refine TD.cq rfl rfl rfl (.gd _ _) rfl (fun h _=>Bp rfl rfl) ?_
   refine TD.cq rfl rfl rfl (.gd _ _) rfl (fun h _=>Bp rfl rfl) ?_
   refine TD.cq rfl rfl rfl (.gd _ _) rfl (fun h _=>B3 rfl (gv h rfl) rfl rfl) ?_
   obtain⟨e8,h9,H⟩:=Ac H
   refine TD.cq rfl rfl rfl (.gd _ _) rfl (fun h _=>B7 (f:=Bj false) rfl rfl Ez (gv h rfl) (gv h rfl) (Bq h9 h) rfl) ?_
   refine TD.cq rfl rfl rfl (.gd _ _) rfl (fun h _=>Bb rfl rfl rfl Bm (by decide) (gv h rfl) rfl trivial) ?_
   refine TD.cq rfl rfl rfl (.gd _ _) rfl (fun h _=>Bx rfl Bm (gv h rfl) (nb rfl) rfl) ?_
   refine TD.cr rfl rfl rfl (.gd _ _) rfl (fun h=>Bb rfl rfl rfl Bm (by decide) rfl rfl ⟨_,rfl,Nat.le_of_ble_eq_true rfl⟩) ?_
   refine TD.cr rfl rfl rfl (.gd _ _) rfl (fun h=>Bs rfl Bm (gv h rfl) rfl (nb rfl) rfl) ?_
   refine TD.cq rfl rfl rfl (.gd _ _) rfl (fun h _=>E4 rfl (gv h rfl) (gv h rfl) rfl) ?_
   refine TD.cq rfl rfl rfl (.bool _) rfl (fun h _=>Eq rfl (gv h rfl) rfl (fun k=>Ed (andi h k)) rfl) ?_
   refine ad 4 ?_
   refine TD.cq rfl rfl rfl (.bool _) rfl (fun h _=>Bf (f:=Aw) rfl rfl (gv h rfl)) ?_
   refine TD.cq rfl rfl rfl (.bool _) rfl (fun h _=>B3 rfl (gv h rfl) rfl rfl) ?_
   refine ad 4 ?_
   refine TD.cq rfl rfl rfl (.bool _) rfl (fun h _=>Bf (f:=Aw) rfl rfl (gv h rfl)) ?_
   refine TD.cq rfl rfl rfl (.bool _) rfl (fun h _=>B3 rfl (gv h rfl) rfl rfl) ?_
   refine ad 4 ?_
   obtain⟨r10,h11,H⟩:=Ac H
   refine TD.cq rfl rfl rfl (.bool _) rfl (fun h _=>Aq rfl en_69 rfl (Dc (gv h rfl)) (.cons _ _ _ _ (.cl _ rfl) .nil) (impl_yrising_p false (Bq h11 h))) ?_
   refine TD.cq rfl rfl rfl (.bool _) rfl (fun h _=>o_not rfl (gv h rfl)) ?_
   refine TD.qs rfl rfl (fun _=>o_or rfl rfl rfl rfl (fun k=>Ed k)) ?_
   refine TD.nil ⟨rfl,?_⟩
   refine Af ?_
   refine T.cH H ?_ ?_<;>intro H h
   ·refine au 5 ?_
    refine Aj (Av (Aj ?_))
    exact Pk.id (Aj ⟨.inr false,(Ad H).symm,rfl,⟨trivial,_,(.tmp _ _ _ _ rfl .nil),(.cl _ rfl)⟩⟩)
   ·refine au 5 ?_
    refine TL.st rfl rfl rfl (Bf (f:=Aw) rfl rfl rfl) ?_
    refine au 3 ?_
    obtain⟨q19,h20,H⟩:=Ac H
    refine T.lq (fun s=>match s with | v12=>[(0,.im b0 (a0.map (Bj false))),(7,.im b0 (a0.map (Bj false))),(8,.int .i64 (a0.length:Int)),(9,.int .i64 v1),(52,.im false (e4.Values_.map (Aw))),(53,.int .i64 (e4.Values_.length:Int)),(54,.int .i64 v12)]) (fun s=>match s with | v12=>[.box (Bj false e4)]) (fun q ex fr σ=>match q with | .inl _=>ex = .exit 2∧fr = [(0,.im b0 (a0.map (Bj false))),(7,.im b0 (a0.map (Bj false))),(8,.int .i64 (a0.length:Int)),(9,.int .i64 v1)]∧σ = [.box (Bj false e4)] | .inr q13=>ex = .ret∧C5 Tryz.prog [.tmp 2] (fun v τ=>Told τ v (.bool q13)) .ret fr σ) h20 ?_ ?_
    ·rintro v12 y14 H
     refine au 5 ?_
     refine T.cH H ?_ ?_<;>intro H h
     ·refine au 5 ?_
      obtain⟨e15,h16,H⟩:=Ac H
      refine TL.st rfl rfl rfl (B7 (f:=Aw) rfl rfl Bm rfl rfl h16 rfl) ?_
      refine au 6 ?_
      obtain⟨r17,h18,H⟩:=Ac H
      refine TL.st rfl rfl rfl (Aq rfl en_114 rfl rfl (.cons _ _ _ _ (.cl _ rfl) (.cons _ _ _ _ (.cl _ rfl) (.cons _ _ _ _ (.cl _ rfl) .nil))) (impl_yprinted_p  h18)) ?_
      refine au 2 ?_
      refine T.cH H ?_ ?_<;>intro H h
      ·refine au 5 ?_
       refine Av (Aj ?_)
       exact Pk.id (Aj ⟨.inr false,(Ad H).symm,rfl,⟨trivial,_,(.tmp _ _ _ _ rfl .nil),(.cl _ rfl)⟩⟩)
      ·refine au 5 ?_
       exact Pk.of (Af ⟨(IntKind.i64.wrap (v12+1)),(Ad H).symm,rfl,rfl⟩)
     ·refine T.exit ?_
      refine Am ?_
      exact Pk.of (Am ⟨.inl (),(Ad H).symm,rfl,rfl,rfl⟩)
    ·rcases q19 with ⟨⟩ | q13
     ·rintro _ _ _ ⟨rfl,rfl,rfl⟩
      refine A6 ?_
      refine au 4 ?_
      exact Pk.of (Af ⟨(IntKind.i64.wrap (v1+1)),(Ad H).symm,rfl,rfl⟩)
     ·rintro _ fr1 σ1 ⟨rfl,hr⟩
      refine Av (Av (Aj ?_))
      exact Pk.id (Aj ⟨.inr q13,(Ad H).symm,rfl,hr⟩)
  ·refine T.exit ?_
   refine Am ?_
   exact Pk.of (Am ⟨.inl (),(Ad H).symm,rfl,rfl,rfl⟩)
 ·rcases q21 with ⟨⟩ | q2
  ·rintro _ _ _ ⟨rfl,rfl,rfl⟩
   refine A6 ?_
   refine au 5 ?_
   cases Ad H
   exact⟨trivial,_,(.tmp _ _ _ _ rfl .nil),(.cl _ rfl)⟩
  ·rintro _ fr1 σ1 ⟨rfl,hr⟩
   refine Av (Aj ?_)
   cases Ad H
   exact hr
theorem en_71:En Tryz.prog 71:=.of Tryz.func71 rfl rfl
noncomputable def impl_GoodEntry(a0:Ay):Option Bool :=
  (impl_GoodDirName a0.Name_).bind fun r1=>(gdO (((r1&&decide ((a0.Name_.length:Int) > 0))&&decide ((a0.Attrs_.length:Int)≥1))&&decide ((a0.Attrs_.length:Int)≤30)) (impl_ygoodAttrs a0.Attrs_)).bind fun r3=>some ((((r1&&decide ((a0.Name_.length:Int) > 0))&&decide ((a0.Attrs_.length:Int)≥1))&&decide ((a0.Attrs_.length:Int)≤30))&&r3)
theorem impl_GoodEntry_p(b0:Bool){a0:Ay}{R0:Bool}(H:impl_GoodEntry a0=some R0):Bu Tryz.prog 31 [.agg (An b0 a0)] (.bool R0):=by
 refine Ba.of_TN (n:=29) Tryz.func31 rfl rfl rfl rfl ?_
 refine au 9 ?_
 obtain⟨r1,h2,H⟩:=Ac H
 refine TL.st rfl rfl rfl (Aq rfl en_44 rfl rfl (.cons _ _ _ _ (.imv _ _) .nil) (impl_GoodDirName_p b0 h2)) ?_
 refine au 3 ?_
 refine TL.gcq rfl rfl rfl (.bool _) rfl rfl (fun h=>Bf (f:=A5 false) rfl rfl (gv h rfl)) ?_
 refine au 5 ?_
 refine TL.gcq rfl rfl rfl (.bool _) rfl rfl (fun h=>Bf (f:=Bj false) rfl rfl (gv h rfl)) ?_
 refine au 5 ?_
 refine TL.gcq rfl rfl rfl (.bool _) rfl rfl (fun h=>Bf (f:=Bj false) rfl rfl (gv h rfl)) ?_
 refine au 5 ?_
 obtain⟨r3,h4,H⟩:=Ac H
 refine TL.gcq rfl rfl rfl (.bool _) rfl rfl (fun h=>Aq rfl en_71 rfl (Dc (gv h rfl)) (.cons _ _ _ _ (.imv _ _) .nil) (impl_ygoodAttrs_p b0 (Bq h4 h))) ?_
 refine au 4 ?_
 cases Ad H
 exact⟨trivial,_,(.tmp _ _ _ _ rfl .nil),(.cl _ rfl)⟩
theorem en_31:En Tryz.prog 31:=.of Tryz.func31 rfl rfl
noncomputable def impl_RuleNests_1(a0:Ay):Option Bool :=
  (impl_GoodEntry a0).bind fun r1=>some (!r1)
theorem impl_RuleNests_1_p(b0:Bool){a0:Ay}{R0:Bool}(H:impl_RuleNests_1 a0=some R0):Bu Tryz.prog 53 [.agg (An b0 a0)] (.bool R0):=by
 refine Ba.of_TN (n:=6) Tryz.func53 rfl rfl rfl rfl ?_
 refine au 8 ?_
 obtain⟨r1,h2,H⟩:=Ac H
 refine TL.st rfl rfl rfl (Aq rfl en_31 rfl rfl (.cons _ _ _ _ (Lent.aggL (.cons _ _ _ _ (.imv _ _) (.cons _ _ _ _ (.imv _ _) .nil))) .nil) (impl_GoodEntry_p b0 h2)) ?_
 refine au 4 ?_
 cases Ad H
 exact⟨trivial,_,(.tmp _ _ _ _ rfl .nil),(.cl _ rfl)⟩
theorem en_53:En Tryz.prog 53:=.of Tryz.func53 rfl rfl
noncomputable def impl_Entry_x_l1(a0:(List Ay)):Int→Option (Int⊕(Unit⊕Int)):=fun s=>match s with
  | v1=>cond (decide (v1<(a0.length:Int))) ((idx a0 v1).bind fun e4=>(impl_RuleNests_1 e4).bind fun r6=>cond r6 (some (.inr (.inr v1))) (some (.inl (IntKind.i64.wrap (v1+1))))) (some (.inr (.inl ())))
noncomputable def impl_Entry_x(a0:(List Ay)):Option Int :=
  (loopO (impl_Entry_x_l1 a0) 0).bind fun q8=>(match q8 with | .inl _=>some (-1) | .inr q2=>some q2)
theorem impl_Entry_x_p(b0:Bool){a0:(List Ay)}{R0:Int}(H:impl_Entry_x a0=some R0):Bu Tryz.prog 98 [.im b0 (a0.map (An false)),.fn 53 [] []] (.int .i64 R0):=by
 refine Ba.of_TN (n:=19) Tryz.func98 rfl rfl rfl rfl ?_
 refine au 8 ?_
 refine TL.st rfl rfl rfl (Bf (f:=An false) rfl rfl rfl) ?_
 refine au 3 ?_
 obtain⟨q8,h9,H⟩:=Ac H
 refine T.lq (fun s=>match s with | v1=>[(0,.im b0 (a0.map (An false))),(1,.fn 53 [] []),(7,.int .i64 (a0.length:Int)),(8,.int .i64 v1)]) (fun s=>match s with | v1=>[]) (fun q ex fr σ=>match q with | .inl _=>ex = .exit 0∧fr = []∧σ = [] | .inr q2=>ex = .ret∧C5 Tryz.prog [.tmp 4] (fun v τ=>Told τ v (.int .i64 q2)) .ret fr σ) h9 ?_ ?_
 ·rintro v1 y3 H
  refine au 5 ?_
  refine T.cH H ?_ ?_<;>intro H h
  ·refine au 13 ?_
   obtain⟨e4,h5,H⟩:=Ac H
   refine TL.st rfl rfl rfl (B7 (f:=An false) rfl rfl De rfl rfl h5 rfl) ?_
   refine TL.st rfl rfl rfl (Bx rfl De rfl (nb rfl) rfl) ?_
   obtain⟨r6,h7,H⟩:=Ac H
   refine TL.st rfl rfl rfl (Aq rfl en_53 rfl rfl (.cons _ _ _ _ (.cl _ rfl) .nil) (impl_RuleNests_1_p false h7)) ?_
   refine TL.nil ?_
   refine T.cH H ?_ ?_<;>intro H h
   ·refine au 6 ?_
    refine Av (Aj ?_)
    exact Pk.id (Aj ⟨.inr v1,(Ad H).symm,rfl,⟨trivial,_,(.tmp _ _ _ _ rfl .nil),(.cl _ rfl)⟩⟩)
   ·refine au 5 ?_
    exact Pk.of (Af ⟨(IntKind.i64.wrap (v1+1)),(Ad H).symm,rfl,rfl⟩)
  ·refine T.exit ?_
   refine Am ?_
   exact Pk.of (Am ⟨.inl (),(Ad H).symm,rfl,rfl,rfl⟩)
 ·rcases q8 with ⟨⟩ | q2
  ·rintro _ _ _ ⟨rfl,rfl,rfl⟩
   refine A6 ?_
   refine au 5 ?_
   cases Ad H
   exact⟨trivial,_,(.tmp _ _ _ _ rfl .nil),(.cl _ rfl)⟩
  ·rintro _ fr1 σ1 ⟨rfl,hr⟩
   refine Av (Aj ?_)
   cases Ad H
   exact hr
theorem en_98:En Tryz.prog 98:=.of Tryz.func98 rfl rfl
noncomputable def impl_Entry_(a0:(List Ay)):Option Bool :=
  (impl_Entry_x a0).bind fun r1=>some (decide (r1≥0))
theorem impl_Entry__p(b0:Bool){a0:(List Ay)}{R0:Bool}(H:impl_Entry_ a0=some R0):Bu Tryz.prog 52 [.im b0 (a0.map (An false)),.fn 53 [] []] (.bool R0):=by
 refine Ba.of_TN (n:=9) Tryz.func52 rfl rfl rfl rfl ?_
 refine au 8 ?_
 obtain⟨r1,h2,H⟩:=Ac H
 refine TL.st rfl rfl rfl (Aq rfl en_98 rfl rfl (.cons _ _ _ _ (.imv _ _) (.cons _ _ _ _ (.fn _ _ _ _ _ rfl rfl (fun i c d h=>by simp at h) (fun i c d h=>by simp at h)) .nil)) (impl_Entry_x_p b0 h2)) ?_
 refine au 4 ?_
 cases Ad H
 exact⟨trivial,_,(.tmp _ _ _ _ rfl .nil),(.cl _ rfl)⟩
theorem en_52:En Tryz.prog 52:=.of Tryz.func52 rfl rfl
noncomputable def impl_ygroupName(a0:ByteArray):Option Bool :=
  (B5 a0).bind fun r1=>(gdO r1 (Cr a0 0)).bind fun b3=>(gdO (r1&&decide (b3≥65)) (Cr a0 0)).bind fun b5=>some ((r1&&decide (b3≥65))&&decide (b5≤90))
theorem impl_ygroupName_p {a0:ByteArray} {R0:Bool} (H:impl_ygroupName a0=some R0):Bu Tryz.prog 54 [.str a0] (.bool R0):=by
 refine Ba.of_TN (n:=15) Tryz.func54 rfl rfl rfl rfl ?_
 refine au 7 ?_
 obtain⟨r1,h2,H⟩:=Ac H
 refine TL.st rfl rfl rfl (Aq rfl en_55 rfl rfl (.cons _ _ _ _ (.cl _ rfl) .nil) (impl_GoodName_p  h2)) ?_
 refine au 2 ?_
 obtain⟨b3,h4,H⟩:=Ac H
 refine TL.gcq rfl rfl rfl (.bool _) rfl rfl (fun h=>Ct rfl rfl (gv h rfl) rfl (Bq h4 h)) ?_
 refine au 4 ?_
 obtain⟨b5,h6,H⟩:=Ac H
 refine TL.gcq rfl rfl rfl (.bool _) rfl rfl (fun h=>Ct rfl rfl (gv h rfl) rfl (Bq h6 h)) ?_
 refine au 5 ?_
 cases Ad H
 exact⟨trivial,_,(.tmp _ _ _ _ rfl .nil),(.cl _ rfl)⟩
theorem en_54:En Tryz.prog 54:=.of Tryz.func54 rfl rfl
theorem tyS_31:TyS Tryz.prog 31 false 1:=⟨rfl,rfl⟩
theorem tyE_3:TyE Tryz.prog 3 1:=⟨_,_,rfl,rfl,rfl,rfl,by decide,by decide⟩
noncomputable def impl_ypattern_j1(l6:List Int)(v7:Int):Option ((List Int×Int)⊕(List Int⊕((List Int)×Bool))) :=
  some (.inl (l6,(IntKind.i64.wrap (v7+1))))
noncomputable def impl_ypattern_l1(a0:ByteArray):(List Int×Int)→Option ((List Int×Int)⊕(List Int⊕((List Int)×Bool))):=fun s=>match s with
  | (l1,v2)=>cond (decide (v2<(a0.size:Int))) ((Cr a0 v2).bind fun b8=>cond (b8==42) ((app l1 ([(-1)]:List Int)).bind fun l10=>impl_ypattern_j1 l10 v2) ((Cr a0 v2).bind fun b12=>cond (b12==92) ((gdO (!(decide ((IntKind.i64.wrap (v2+1))≥(a0.size:Int)))) (Cr a0 (IntKind.i64.wrap (v2+1)))).bind fun b14=>(gdO ((!(decide ((IntKind.i64.wrap (v2+1))≥(a0.size:Int))))&&(b14 != 42)) (Cr a0 (IntKind.i64.wrap (v2+1)))).bind fun b16=>cond (decide ((IntKind.i64.wrap (v2+1))≥(a0.size:Int))||((b14 != 42)&&(b16 != 92))) (some (.inr (.inr (([]:List Int),false)))) ((Cr a0 (IntKind.i64.wrap (v2+1))).bind fun b18=>(app l1 ([(IntKind.i64.wrap b18)]:List Int)).bind fun l20=>impl_ypattern_j1 l20 (IntKind.i64.wrap (v2+1)))) ((Cr a0 v2).bind fun b22=>(app l1 ([(IntKind.i64.wrap b22)]:List Int)).bind fun l24=>impl_ypattern_j1 l24 v2))) (some (.inr (.inl l1)))
noncomputable def impl_ypattern(a0:ByteArray):Option ((List Int)×Bool) :=
  (loopO (impl_ypattern_l1 a0) (([]:List Int),0)).bind fun q26=>(match q26 with | .inl l3=>some (l3,true) | .inr q4=>some q4)
theorem impl_ypattern_p {a0:ByteArray} {R0:(List Int)} {R1:Bool} (H:impl_ypattern a0=some (R0,R1)):Bu Tryz.prog 116 [.str a0] (.tup [.im false (R0.map (c_int .i64)),.bool R1]):=by
 refine Ba.of_TN (n:=58) Tryz.func116 rfl rfl rfl rfl ?_
 refine au 15 ?_
 refine T.conv (Cs.own (t:=4) 1 rfl (by decide)) ?_
 obtain⟨q26,h27,H⟩:=Ac H
 refine T.lq (fun s=>match s with | (l1,v2)=>[(0,.str a0),(4,.hd 0 (l1.map (c_int .i64)).length 0 (l1.map (c_int .i64)).length),(5,.int .i64 v2)]) (fun s=>match s with | (l1,v2)=>[.arr .clo 1 (l1.map (c_int .i64))]) (fun q ex fr σ=>match q with | .inl l3=>ex = .exit 0∧fr = [(4,.hd 0 (l3.map (c_int .i64)).length 0 (l3.map (c_int .i64)).length)]∧σ = [.arr .clo 1 (l3.map (c_int .i64))] | .inr q4=>ex = .ret∧C5 Tryz.prog [.tmp 2,.tmp 3] (fun v τ=>Told τ v (.tup [.im false (q4.1.map (c_int .i64)),.bool q4.2])) .ret fr σ) h27 ?_ ?_
 ·rintro⟨l1,v2⟩ y5 H
  refine au 8 ?_
  refine T.cH H ?_ ?_<;>intro H h
  ·refine T.skip ?_
   refine T.cut (fun fr' σ'=>∃ (l6:List Int) (v7:Int),fr' = [(0,.str a0),(4,.hd 0 (l6.map (c_int .i64)).length 0 (l6.map (c_int .i64)).length),(5,.int .i64 v7)]∧σ' = [.arr .clo 1 (l6.map (c_int .i64))]∧impl_ypattern_j1 l6 v7=some y5) (T.pk ?_) ?_
   ·skip
    refine au 6 ?_
    obtain⟨b8,h9,H⟩:=Ac H
    refine TL.st rfl rfl rfl (Ct rfl rfl rfl rfl h9) ?_
    refine au 3 ?_
    refine T.cH H ?_ ?_<;>intro H h
    ·refine au 2 ?_
     refine TL.st rfl rfl rfl (A8 (rows:=([(-1)]:List Int).map (c_int .i64)) rfl rfl Dj ⟨_,rfl,rfl⟩ (by decide) rfl rfl rfl rfl rfl rfl) ?_
     obtain⟨l10,h11,H⟩:=Ac H
     refine TL.st rfl rfl rfl (Ee (f:=c_int .i64) (xs:=l1) (ys:=([(-1)]:List Int)) rfl rfl tyE_3 rfl rfl rfl rfl (by decide) rfl (fun _=>rfl) h11) ?_
     refine au 2 ?_
     refine Bh (Bh ?_)
     exact Pk.of (Af ⟨l10,v2,rfl,rfl,H⟩)
    ·refine au 4 ?_
     obtain⟨b12,h13,H⟩:=Ac H
     refine TL.st rfl rfl rfl (Ct rfl rfl rfl rfl h13) ?_
     refine au 3 ?_
     refine T.cH H ?_ ?_<;>intro H h
     ·refine au 16 ?_
      obtain⟨b14,h15,H⟩:=Ac H
      refine TL.gcq rfl rfl rfl (.bool _) rfl rfl (fun h=>Ct rfl rfl (gv h rfl) (gv h rfl) (Bq h15 h)) ?_
      refine TL.gcq rfl rfl rfl (.bool _) rfl rfl (fun h=>B3 rfl (gv h rfl) rfl rfl) ?_
      refine TL.gcq rfl rfl rfl (.bool _) rfl rfl (fun h=>Bp rfl (gv h rfl)) ?_
      refine TL.gcq rfl rfl rfl (.gd _ _) rfl rfl (fun h=>Bp rfl rfl) ?_
      refine TL.gcq rfl rfl rfl (.gd _ _) rfl rfl (fun h=>Bp rfl rfl) ?_
      obtain⟨b16,h17,H⟩:=Ac H
      refine TL.gcq rfl rfl rfl (.gd _ _) rfl rfl (fun h=>Ct rfl rfl (gv h rfl) (gv h rfl) (Bq h17 h)) ?_
      refine TL.gcq rfl rfl rfl (.gd _ _) rfl rfl (fun h=>B3 rfl (gv h rfl) rfl rfl) ?_
      refine TL.gcq rfl rfl rfl (.bool _) rfl rfl (fun h=>Eq rfl (gv h rfl) rfl (fun k=>Ed (andi h k)) rfl) ?_
      refine au 2 ?_
      refine T.cH H ?_ ?_<;>intro H h
      ·refine au 6 ?_
       refine Aj (Av (Av ?_))
       refine Pk.id (Aj ?_)
       exact Pk.id (Aj ⟨.inr (([]:List Int),false),(Ad H).symm,rfl,⟨trivial,_,(.tmp _ _ _ _ rfl (.tmp _ _ _ _ rfl .nil)),(.tupL (.cons _ _ _ _ .nil (.cons _ _ _ _ (.cl _ rfl) .nil)))⟩⟩)
      ·refine au 5 ?_
       obtain⟨b18,h19,H⟩:=Ac H
       refine TL.st rfl rfl rfl (Ct rfl rfl rfl rfl h19) ?_
       refine TL.st rfl rfl rfl (o_conv rfl rfl ⟨_,rfl⟩ rfl) ?_
       refine TL.st rfl rfl rfl (A8 (rows:=([(IntKind.i64.wrap b18)]:List Int).map (c_int .i64)) rfl rfl Dj ⟨_,rfl,rfl⟩ (by decide) rfl rfl rfl rfl rfl rfl) ?_
       obtain⟨l20,h21,H⟩:=Ac H
       refine TL.st rfl rfl rfl (Ee (f:=c_int .i64) (xs:=l1) (ys:=([(IntKind.i64.wrap b18)]:List Int)) rfl rfl tyE_3 rfl rfl rfl rfl (by decide) rfl (fun _=>rfl) h21) ?_
       refine au 2 ?_
       refine Bh (Bh ?_)
       exact Pk.of (Af ⟨l20,(IntKind.i64.wrap (v2+1)),rfl,rfl,H⟩)
     ·refine au 4 ?_
      obtain⟨b22,h23,H⟩:=Ac H
      refine TL.st rfl rfl rfl (Ct rfl rfl rfl rfl h23) ?_
      refine TL.st rfl rfl rfl (o_conv rfl rfl ⟨_,rfl⟩ rfl) ?_
      refine TL.st rfl rfl rfl (A8 (rows:=([(IntKind.i64.wrap b22)]:List Int).map (c_int .i64)) rfl rfl Dj ⟨_,rfl,rfl⟩ (by decide) rfl rfl rfl rfl rfl rfl) ?_
      obtain⟨l24,h25,H⟩:=Ac H
      refine TL.st rfl rfl rfl (Ee (f:=c_int .i64) (xs:=l1) (ys:=([(IntKind.i64.wrap b22)]:List Int)) rfl rfl tyE_3 rfl rfl rfl rfl (by decide) rfl (fun _=>rfl) h25) ?_
      refine au 2 ?_
      refine Bh (Bh ?_)
      exact Pk.of (Af ⟨l24,v2,rfl,rfl,H⟩)
   ·rintro _ _ ⟨l6,v7,rfl,rfl,H⟩
    refine au 5 ?_
    exact Pk.of (Af ⟨(l6,(IntKind.i64.wrap (v7+1))),(Ad H).symm,rfl,rfl⟩)
  ·refine T.exit ?_
   refine Am ?_
   exact Pk.of (Am ⟨.inl l1,(Ad H).symm,rfl,rfl,rfl⟩)
 ·rcases q26 with l3 | q4
  ·rintro _ _ _ ⟨rfl,rfl,rfl⟩
   refine A6 ?_
   refine au 7 ?_
   cases Ad H
   exact⟨trivial,_,(.tmp _ _ _ _ rfl (.tmp _ _ _ _ rfl .nil)),(.tupL (.cons _ _ _ _ (.own rfl (by decide) rfl) (.cons _ _ _ _ (.cl _ rfl) .nil)))⟩
  ·rintro _ fr1 σ1 ⟨rfl,hr⟩
   refine Av (Aj ?_)
   cases Ad H
   exact hr
theorem en_116:En Tryz.prog 116:=.of Tryz.func116 rfl rfl
noncomputable def impl_ygoodNode_j2(a0:Aa)(v2:Bool):Option Bool :=
  cond v2 ((gdO (a0.Kids_==0) (B5 a0.Attr_)).bind fun r3=>(gdO ((a0.Kids_==0)&&r3) (impl_yprinted a0.Text_ 1 200)).bind fun r5=>some (((a0.Kids_==0)&&r3)&&r5)) (cond (a0.Kind_==7) ((gdO (a0.Kids_==0) (B5 a0.Attr_)).bind fun r7=>some (((a0.Kids_==0)&&r7)&&(a0.Text_.toList==e0.toList))) (cond (a0.Kind_==8) ((impl_ypattern a0.Text_).bind fun q=>(match q with | (r9,r10)=>(gdO (a0.Kids_==0) (B5 a0.Attr_)).bind fun r12=>(gdO ((a0.Kids_==0)&&r12) (impl_yprinted a0.Text_ 1 200)).bind fun r14=>some ((((a0.Kids_==0)&&r12)&&r14)&&r10))) (some false)))
noncomputable def impl_ygoodNode_j1(a0:Aa)(v1:Bool):Option Bool :=
  cond v1 (some ((((a0.Attr_.toList==e0.toList)&&(a0.Text_.toList==e0.toList))&&decide (a0.Kids_≥0))&&decide (a0.Kids_≤20))) (cond (a0.Kind_==3) (some (((a0.Attr_.toList==e0.toList)&&(a0.Text_.toList==e0.toList))&&(a0.Kids_==1))) (cond (a0.Kind_==4) (impl_ygoodNode_j2 a0 (a0.Kind_==4)) (cond (a0.Kind_==5) (impl_ygoodNode_j2 a0 (a0.Kind_==5)) (impl_ygoodNode_j2 a0 (a0.Kind_==6)))))
noncomputable def impl_ygoodNode(a0:Aa):Option Bool :=
  cond (a0.Kind_==1) (impl_ygoodNode_j1 a0 (a0.Kind_==1)) (impl_ygoodNode_j1 a0 (a0.Kind_==2))
theorem impl_ygoodNode_p  {a0 :           Aa} {R0 : Bool} (H : impl_ygoodNode a0 = some R0) :   Bu Tryz.prog 74 [.agg (            Ab false a0)] (.bool R0) := by
 refine Ba.of_TN (n:=99) Tryz.func74 rfl rfl rfl rfl ?_
 refine au 12 ?_
 refine T.cut (fun fr' σ'=>∃ (v1:Bool),fr' = [(1,.bx 0 0),(6,.int .i64 a0.Kind_),(7,.bool v1)]∧σ' = [.box (Ab false a0)]∧impl_ygoodNode_j1 a0 v1=some R0) (T.pk ?_) ?_
 ·skip
  refine au 5 ?_
  refine T.cH H ?_ ?_<;>intro H h
  ·refine T.skip ?_
   exact Pk.of (Af ⟨(a0.Kind_==1),rfl,rfl,H⟩)
  ·refine au 4 ?_
   exact Pk.of (Af ⟨(a0.Kind_==2),rfl,rfl,H⟩)
 ·rintro _ _ ⟨v1,rfl,rfl,H⟩
  refine T.cH H ?_ ?_<;>intro H h
  ·refine au 8 ?_
   refine TL.gcq rfl rfl rfl (.bool _) rfl rfl (fun h=>E4 rfl (gv h rfl) rfl rfl) ?_
   refine au 14 ?_
   refine Av (Aj ?_)
   cases Ad H
   exact⟨trivial,_,(.tmp _ _ _ _ rfl .nil),(.cl _ rfl)⟩
  ·refine au 5 ?_
   refine T.cH H ?_ ?_<;>intro H h
   ·refine au 8 ?_
    refine TL.gcq rfl rfl rfl (.bool _) rfl rfl (fun h=>E4 rfl (gv h rfl) rfl rfl) ?_
    refine au 9 ?_
    refine Av (Aj ?_)
    cases Ad H
    exact⟨trivial,_,(.tmp _ _ _ _ rfl .nil),(.cl _ rfl)⟩
   ·refine T.cut (fun fr' σ'=>∃ (v2:Bool),fr' = [(1,.bx 0 0),(6,.int .i64 a0.Kind_),(43,.bool v2)]∧σ' = [.box (Ab false a0)]∧impl_ygoodNode_j2 a0 v2=some R0) (T.pk ?_) ?_
    ·skip
     refine au 5 ?_
     refine T.cH H ?_ ?_<;>intro H h
     ·refine T.skip ?_
      exact Pk.of (Af ⟨(a0.Kind_==4),rfl,rfl,H⟩)
     ·refine au 5 ?_
      refine T.cH H ?_ ?_<;>intro H h
      ·refine T.skip ?_
       exact Pk.of (Af ⟨(a0.Kind_==5),rfl,rfl,H⟩)
      ·refine au 4 ?_
       exact Pk.of (Af ⟨(a0.Kind_==6),rfl,rfl,H⟩)
    ·rintro _ _ ⟨v2,rfl,rfl,H⟩
     refine T.cH H ?_ ?_<;>intro H h
     ·refine au 8 ?_
      obtain⟨r3,h4,H⟩:=Ac H
      refine TL.gcq rfl rfl rfl (.bool _) rfl rfl (fun h=>Aq rfl en_55 rfl (Dc (gv h rfl)) (.cons _ _ _ _ (.cl _ rfl) .nil) (impl_GoodName_p  (Bq h4 h))) ?_
      refine au 4 ?_
      obtain⟨r5,h6,H⟩:=Ac H
      refine TL.gcq rfl rfl rfl (.bool _) rfl rfl (fun h=>Aq rfl en_114 rfl (evl_3 (gv h rfl) rfl rfl) (.cons _ _ _ _ (.cl _ rfl) (.cons _ _ _ _ (.cl _ rfl) (.cons _ _ _ _ (.cl _ rfl) .nil))) (impl_yprinted_p  (Bq h6 h))) ?_
      refine au 4 ?_
      refine Av (Aj ?_)
      cases Ad H
      exact⟨trivial,_,(.tmp _ _ _ _ rfl .nil),(.cl _ rfl)⟩
     ·refine au 5 ?_
      refine T.cH H ?_ ?_<;>intro H h
      ·refine au 8 ?_
       obtain⟨r7,h8,H⟩:=Ac H
       refine TL.gcq rfl rfl rfl (.bool _) rfl rfl (fun h=>Aq rfl en_55 rfl (Dc (gv h rfl)) (.cons _ _ _ _ (.cl _ rfl) .nil) (impl_GoodName_p  (Bq h8 h))) ?_
       refine au 4 ?_
       refine TL.gcq rfl rfl rfl (.bool _) rfl rfl (fun h=>E4 rfl (gv h rfl) rfl rfl) ?_
       refine au 4 ?_
       refine Av (Aj ?_)
       cases Ad H
       exact⟨trivial,_,(.tmp _ _ _ _ rfl .nil),(.cl _ rfl)⟩
      ·refine au 5 ?_
       refine T.cH H ?_ ?_<;>intro H h
       ·refine au 4 ?_
        obtain⟨⟨r9,r10⟩,h11,H⟩:=Ac H
        refine TL.st rfl rfl rfl (Aq rfl en_116 rfl rfl (.cons _ _ _ _ (.cl _ rfl) .nil) (impl_ypattern_p  h11)) ?_
        refine au 14 ?_
        obtain⟨r12,h13,H⟩:=Ac H
        refine TL.gcq rfl rfl rfl (.bool _) rfl rfl (fun h=>Aq rfl en_55 rfl (Dc (gv h rfl)) (.cons _ _ _ _ (.cl _ rfl) .nil) (impl_GoodName_p  (Bq h13 h))) ?_
        refine au 4 ?_
        obtain⟨r14,h15,H⟩:=Ac H
        refine TL.gcq rfl rfl rfl (.bool _) rfl rfl (fun h=>Aq rfl en_114 rfl (evl_3 (gv h rfl) rfl rfl) (.cons _ _ _ _ (.cl _ rfl) (.cons _ _ _ _ (.cl _ rfl) (.cons _ _ _ _ (.cl _ rfl) .nil))) (impl_yprinted_p  (Bq h15 h))) ?_
        refine au 7 ?_
        refine Av (Aj ?_)
        cases Ad H
        exact⟨trivial,_,(.tmp _ _ _ _ rfl .nil),(.cl _ rfl)⟩
       ·refine au 6 ?_
        cases Ad H
        exact⟨trivial,_,(.tmp _ _ _ _ rfl .nil),(.cl _ rfl)⟩
theorem en_74:En Tryz.prog 74:=.of Tryz.func74 rfl rfl
noncomputable def impl_GoodFilter_1(a0:Aa):Option Bool :=
  (impl_ygoodNode a0).bind fun r1=>some (!r1)
theorem impl_GoodFilter_1_p {a0:Aa} {R0:Bool} (H:impl_GoodFilter_1 a0=some R0):Bu Tryz.prog 73 [.agg (Ab false a0)] (.bool R0):=by
 refine Ba.of_TN (n:=6) Tryz.func73 rfl rfl rfl rfl ?_
 refine au 8 ?_
 obtain⟨r1,h2,H⟩:=Ac H
 refine TL.st rfl rfl rfl (Aq rfl en_74 rfl rfl (.cons _ _ _ _ (.cl _ rfl) .nil) (impl_ygoodNode_p  h2)) ?_
 refine au 4 ?_
 cases Ad H
 exact⟨trivial,_,(.tmp _ _ _ _ rfl .nil),(.cl _ rfl)⟩
theorem en_73:En Tryz.prog 73:=.of Tryz.func73 rfl rfl
noncomputable def impl_FilterNode_x_l1(a0:(List Aa)):Int→Option (Int⊕(Unit⊕Int)):=fun s=>match s with
  | v1=>cond (decide (v1<(a0.length:Int))) ((idx a0 v1).bind fun e4=>(impl_GoodFilter_1 e4).bind fun r6=>cond r6 (some (.inr (.inr v1))) (some (.inl (IntKind.i64.wrap (v1+1))))) (some (.inr (.inl ())))
noncomputable def impl_FilterNode_x(a0:(List Aa)):Option Int :=
  (loopO (impl_FilterNode_x_l1 a0) 0).bind fun q8=>(match q8 with | .inl _=>some (-1) | .inr q2=>some q2)
theorem impl_FilterNode_x_p(b0:Bool){a0:(List Aa)}{R0:Int}(H:impl_FilterNode_x a0=some R0):Bu Tryz.prog 115 [.im b0 (a0.map (Ab false)),.fn 73 [] []] (.int .i64 R0):=by
 refine Ba.of_TN (n:=19) Tryz.func115 rfl rfl rfl rfl ?_
 refine au 8 ?_
 refine TL.st rfl rfl rfl (Bf (f:=Ab false) rfl rfl rfl) ?_
 refine au 3 ?_
 obtain⟨q8,h9,H⟩:=Ac H
 refine T.lq (fun s=>match s with | v1=>[(0,.im b0 (a0.map (Ab false))),(1,.fn 73 [] []),(7,.int .i64 (a0.length:Int)),(8,.int .i64 v1)]) (fun s=>match s with | v1=>[]) (fun q ex fr σ=>match q with | .inl _=>ex = .exit 0∧fr = []∧σ = [] | .inr q2=>ex = .ret∧C5 Tryz.prog [.tmp 4] (fun v τ=>Told τ v (.int .i64 q2)) .ret fr σ) h9 ?_ ?_
 ·rintro v1 y3 H
  refine au 5 ?_
  refine T.cH H ?_ ?_<;>intro H h
  ·refine au 13 ?_
   obtain⟨e4,h5,H⟩:=Ac H
   refine TL.st rfl rfl rfl (B7 (f:=Ab false) rfl rfl C4 rfl rfl h5 rfl) ?_
   refine TL.st rfl rfl rfl (Bx rfl C4 rfl (nb rfl) rfl) ?_
   obtain⟨r6,h7,H⟩:=Ac H
   refine TL.st rfl rfl rfl (Aq rfl en_73 rfl rfl (.cons _ _ _ _ (.cl _ rfl) .nil) (impl_GoodFilter_1_p  h7)) ?_
   refine TL.nil ?_
   refine T.cH H ?_ ?_<;>intro H h
   ·refine au 6 ?_
    refine Av (Aj ?_)
    exact Pk.id (Aj ⟨.inr v1,(Ad H).symm,rfl,⟨trivial,_,(.tmp _ _ _ _ rfl .nil),(.cl _ rfl)⟩⟩)
   ·refine au 5 ?_
    exact Pk.of (Af ⟨(IntKind.i64.wrap (v1+1)),(Ad H).symm,rfl,rfl⟩)
  ·refine T.exit ?_
   refine Am ?_
   exact Pk.of (Am ⟨.inl (),(Ad H).symm,rfl,rfl,rfl⟩)
 ·rcases q8 with ⟨⟩ | q2
  ·rintro _ _ _ ⟨rfl,rfl,rfl⟩
   refine A6 ?_
   refine au 5 ?_
   cases Ad H
   exact⟨trivial,_,(.tmp _ _ _ _ rfl .nil),(.cl _ rfl)⟩
  ·rintro _ fr1 σ1 ⟨rfl,hr⟩
   refine Av (Aj ?_)
   cases Ad H
   exact hr
theorem en_115:En Tryz.prog 115:=.of Tryz.func115 rfl rfl
noncomputable def impl_FilterNode_(a0:(List Aa)):Option Bool :=
  (impl_FilterNode_x a0).bind fun r1=>some (decide (r1≥0))
theorem impl_FilterNode__p(b0:Bool){a0:(List Aa)}{R0:Bool}(H:impl_FilterNode_ a0=some R0):Bu Tryz.prog 72 [.im b0 (a0.map (Ab false)),.fn 73 [] []] (.bool R0):=by
 refine Ba.of_TN (n:=9) Tryz.func72 rfl rfl rfl rfl ?_
 refine au 8 ?_
 obtain⟨r1,h2,H⟩:=Ac H
 refine TL.st rfl rfl rfl (Aq rfl en_115 rfl rfl (.cons _ _ _ _ (.imv _ _) (.cons _ _ _ _ (.fn _ _ _ _ _ rfl rfl (fun i c d h=>by simp at h) (fun i c d h=>by simp at h)) .nil)) (impl_FilterNode_x_p b0 h2)) ?_
 refine au 4 ?_
 cases Ad H
 exact⟨trivial,_,(.tmp _ _ _ _ rfl .nil),(.cl _ rfl)⟩
theorem en_72:En Tryz.prog 72:=.of Tryz.func72 rfl rfl
theorem en_75:En Tryz.prog 75:=.of Tryz.func75 rfl rfl
noncomputable def impl_ytree_l1(a0:(List Aa))(a2:Int)(rec_impl_ytree:((List Aa)×Int×Int)→Option Int)(e1:Aa):(Int×Int)→Option ((Int×Int)⊕(Int⊕Int)):=fun s=>match s with
  | (v3,v4)=>cond (decide (v4<e1.Kids_)) ((rec_impl_ytree (a0,(IntKind.i64.wrap (v3+1)),(IntKind.i64.wrap (a2+1)))).bind fun r8=>cond (decide ((IntKind.i64.wrap (r8 - 1))<0)) (some (.inr (.inr (-1)))) (some (.inl ((IntKind.i64.wrap (r8 - 1)),(IntKind.i64.wrap (v4+1)))))) (some (.inr (.inl v3)))
noncomputable def Cq(rec_impl_ytree:((List Aa)×Int×Int)→Option Int)(a0:(List Aa))(a1:Int)(a2:Int):Option Int :=
  cond (decide (a1≥(a0.length:Int))||decide (a2 > 20)) (some (-1)) ((idx a0 a1).bind fun e1=>(loopO (impl_ytree_l1 a0 a2 rec_impl_ytree e1) (a1,0)).bind fun q10=>(match q10 with | .inl v5=>some (IntKind.i64.wrap (v5+1)) | .inr q6=>some q6))
noncomputable def impl_ytree(a0:(List Aa))(a1:Int)(a2:Int):Option Int:=fixO (fun rec_impl_ytree x=>match x with | (a0,a1,a2)=>Cq rec_impl_ytree a0 a1 a2) (a0,a1,a2)
theorem impl_ytree_pb{rec_impl_ytree:((List Aa)×Int×Int)→Option Int}(Hrec_impl_ytree:∀ (b0:Bool) {a0:(List Aa)} {a1:Int} {a2:Int} {R0:Int},rec_impl_ytree (a0,a1,a2)=some R0→Bu Tryz.prog 75 [.im b0 (a0.map (Ab false)),.int .i64 a1,.int .i64 a2] (.int .i64 R0))(b0:Bool){a0:(List Aa)}{a1:Int}{a2:Int}{R0:Int}(H:Cq rec_impl_ytree a0 a1 a2=some R0):Bu Tryz.prog 75 [.im b0 (a0.map (Ab false)),.int .i64 a1,.int .i64 a2] (.int .i64 R0):=by
 refine Ba.of_TN (n:=36) Tryz.func75 rfl rfl rfl rfl ?_
 refine au 9 ?_
 refine TL.st rfl rfl rfl (Bf (f:=Ab false) rfl rfl rfl) ?_
 refine au 6 ?_
 refine T.cH H ?_ ?_<;>intro H h
 ·refine au 5 ?_
  refine Aj ?_
  cases Ad H
  exact⟨trivial,_,(.tmp _ _ _ _ rfl .nil),(.cl _ rfl)⟩
 ·refine au 5 ?_
  obtain⟨e1,h2,H⟩:=Ac H
  refine TL.st rfl rfl rfl (B7 (f:=Ab false) rfl rfl C4 rfl rfl h2 rfl) ?_
  refine au 12 ?_
  obtain⟨q10,h11,H⟩:=Ac H
  refine T.lq (fun s=>match s with | (v3,v4)=>[(0,.im b0 (a0.map (Ab false))),(1,.int .i64 v3),(2,.int .i64 a2),(21,.int .i64 e1.Kids_),(22,.int .i64 v4)]) (fun s=>match s with | (v3,v4)=>[.box (Ab false e1)]) (fun q ex fr σ=>match q with | .inl v5=>ex = .exit 0∧fr = [(1,.int .i64 v5)]∧σ = [.box (Ab false e1)] | .inr q6=>ex = .ret∧C5 Tryz.prog [.tmp 6] (fun v τ=>Told τ v (.int .i64 q6)) .ret fr σ) h11 ?_ ?_
  ·rintro⟨v3,v4⟩ y7 H
   refine au 5 ?_
   refine T.cH H ?_ ?_<;>intro H h
   ·refine au 10 ?_
    obtain⟨r8,h9,H⟩:=Ac H
    refine TL.st rfl rfl rfl (Aq rfl en_75 rfl rfl (.cons _ _ _ _ (.imv _ _) (.cons _ _ _ _ (.cl _ rfl) (.cons _ _ _ _ (.cl _ rfl) .nil))) (Hrec_impl_ytree b0 h9)) ?_
    refine au 8 ?_
    refine T.cH H ?_ ?_<;>intro H h
    ·refine au 5 ?_
     refine Av (Aj ?_)
     exact Pk.id (Aj ⟨.inr (-1),(Ad H).symm,rfl,⟨trivial,_,(.tmp _ _ _ _ rfl .nil),(.cl _ rfl)⟩⟩)
    ·refine au 5 ?_
     exact Pk.of (Af ⟨((IntKind.i64.wrap (r8 - 1)),(IntKind.i64.wrap (v4+1))),(Ad H).symm,rfl,rfl⟩)
   ·refine T.exit ?_
    refine Am ?_
    exact Pk.of (Am ⟨.inl v3,(Ad H).symm,rfl,rfl,rfl⟩)
  ·rcases q10 with v5 | q6
   ·rintro _ _ _ ⟨rfl,rfl,rfl⟩
    refine A6 ?_
    refine au 7 ?_
    cases Ad H
    exact⟨trivial,_,(.tmp _ _ _ _ rfl .nil),(.cl _ rfl)⟩
   ·rintro _ fr1 σ1 ⟨rfl,hr⟩
    refine Av (Aj ?_)
    cases Ad H
    exact hr
theorem impl_ytree_p(b0:Bool){a0:(List Aa)}{a1:Int}{a2:Int}{R0:Int}(H:impl_ytree a0 a1 a2=some R0):Bu Tryz.prog 75 [.im b0 (a0.map (Ab false)),.int .i64 a1,.int .i64 a2] (.int .i64 R0) :=
 fixO_ind (fun x r=>match x,r with | (a0,a1,a2),R0=>∀ (b0:Bool),Bu Tryz.prog 75 [.im b0 (a0.map (Ab false)),.int .i64 a1,.int .i64 a2] (.int .i64 R0)) (fun rec_impl_ytree Hrec x r h=>match x,r,h with | (a0,a1,a2),R0,h=>fun b0=>impl_ytree_pb (fun b0 {a0} {a1} {a2} {R0} h=>Hrec (a0,a1,a2) R0 h b0) b0 h) H b0
noncomputable def impl_GoodFilter(a0:(List Aa)):Option Bool :=
  (gdO (!(((a0.length:Int)==0)||decide ((a0.length:Int) > 60))) (impl_FilterNode_ a0)).bind fun r1=>cond ((((a0.length:Int)==0)||decide ((a0.length:Int) > 60))||r1) (some false) ((impl_ytree a0 0 1).bind fun r3=>some (r3==(a0.length:Int)))
theorem impl_GoodFilter_p(b0:Bool){a0:(List Aa)}{R0:Bool}(H:impl_GoodFilter a0=some R0):Bu Tryz.prog 32 [.im b0 (a0.map (Ab false))] (.bool R0):=by
 refine Ba.of_TN (n:=20) Tryz.func32 rfl rfl rfl rfl ?_
 refine au 8 ?_
 refine TL.st rfl rfl rfl (Bf (f:=Ab false) rfl rfl rfl) ?_
 refine au 3 ?_
 refine TL.gcq rfl rfl rfl (.bool _) rfl rfl (fun h=>Bf (f:=Ab false) rfl rfl (gv h rfl)) ?_
 refine au 4 ?_
 obtain⟨r1,h2,H⟩:=Ac H
 refine TL.gcq rfl rfl rfl (.bool _) rfl rfl (fun h=>Aq rfl en_72 rfl (E5 (gv h rfl) rfl) (.cons _ _ _ _ (.imv _ _) (.cons _ _ _ _ (.fn _ _ _ _ _ rfl rfl (fun i c d h=>by simp at h) (fun i c d h=>by simp at h)) .nil)) (impl_FilterNode__p b0 (Bq h2 h))) ?_
 refine au 2 ?_
 refine T.cH H ?_ ?_<;>intro H h
 ·refine au 5 ?_
  refine Aj ?_
  cases Ad H
  exact⟨trivial,_,(.tmp _ _ _ _ rfl .nil),(.cl _ rfl)⟩
 ·refine au 4 ?_
  obtain⟨r3,h4,H⟩:=Ac H
  refine TL.st rfl rfl rfl (Aq rfl en_75 rfl rfl (.cons _ _ _ _ (.imv _ _) (.cons _ _ _ _ (.cl _ rfl) (.cons _ _ _ _ (.cl _ rfl) .nil))) (impl_ytree_p b0 h4)) ?_
  refine TL.st rfl rfl rfl (Bp rfl rfl) ?_
  refine TL.st rfl rfl rfl (Bf (f:=Ab false) rfl rfl rfl) ?_
  refine au 4 ?_
  cases Ad H
  exact⟨trivial,_,(.tmp _ _ _ _ rfl .nil),(.cl _ rfl)⟩
theorem en_32:En Tryz.prog 32:=.of Tryz.func32 rfl rfl
noncomputable def impl_Entry_yvalues_1(a0:B8):Option ByteArray :=
  some a0.Name_
theorem impl_Entry_yvalues_1_p(b0:Bool){a0:B8}{R0:ByteArray}(H:impl_Entry_yvalues_1 a0=some R0):Bu Tryz.prog 96 [.agg (Bj b0 a0)] (.str R0):=by
 refine Ba.of_TN (n:=5) Tryz.func96 rfl rfl rfl rfl ?_
 refine au 12 ?_
 cases Ad H
 exact⟨trivial,_,(.tmp _ _ _ _ rfl .nil),(.cl _ rfl)⟩
theorem en_96:En Tryz.prog 96:=.of Tryz.func96 rfl rfl
noncomputable def impl_Attr__l1(a0:(List B8))(a1:ByteArray):Int→Option (Int⊕(Unit⊕(B8×Bool))):=fun s=>match s with
  | v1=>cond (decide (v1<(a0.length:Int))) ((idx a0 v1).bind fun e4=>(impl_Entry_yvalues_1 e4).bind fun r6=>cond (r6.toList==a1.toList) (some (.inr (.inr (e4,true)))) (some (.inl (IntKind.i64.wrap (v1+1))))) (some (.inr (.inl ())))
noncomputable def impl_Attr_(a0:(List B8))(a1:ByteArray):Option (B8×Bool) :=
  (loopO (impl_Attr__l1 a0 a1) 0).bind fun q8=>(match q8 with | .inl _=>some ((⟨e0,([]:List ByteArray)⟩:B8),false) | .inr q2=>some q2)
theorem impl_Attr__p(b0:Bool){a0:(List B8)}{a1:ByteArray}{R0:B8}{R1:Bool}(H:impl_Attr_ a0 a1=some (R0,R1)):Bu Tryz.prog 95 [.im b0 (a0.map (Bj false)),.fn 96 [] [],.str a1] (.tup [.agg (Bj false R0),.bool R1]):=by
 refine Ba.of_TN (n:=25) Tryz.func95 rfl rfl rfl rfl ?_
 refine au 9 ?_
 refine TL.st rfl rfl rfl (Bf (f:=Bj false) rfl rfl rfl) ?_
 refine au 3 ?_
 obtain⟨q8,h9,H⟩:=Ac H
 refine T.lq (fun s=>match s with | v1=>[(1,.fn 96 [] []),(2,.str a1),(6,.bx 0 0),(11,.im b0 (a0.map (Bj false))),(12,.int .i64 (a0.length:Int)),(13,.int .i64 v1)]) (fun s=>match s with | v1=>[.box [.str e0,.nilS]]) (fun q ex fr σ=>match q with | .inl _=>ex = .exit 0∧fr = [(6,.bx 0 0)]∧σ = [.box [.str e0,.nilS]] | .inr q2=>ex = .ret∧C5 Tryz.prog [.cell 6 114,.tmp 7] (fun v τ=>Told τ v (.tup [.agg (Bj false q2.1),.bool q2.2])) .ret fr σ) h9 ?_ ?_
 ·rintro v1 y3 H
  refine au 5 ?_
  refine T.cH H ?_ ?_<;>intro H h
  ·refine au 5 ?_
   obtain⟨e4,h5,H⟩:=Ac H
   refine TL.st rfl rfl rfl (B7 (f:=Bj false) rfl rfl Ez rfl rfl h5 rfl) ?_
   refine au 8 ?_
   obtain⟨r6,h7,H⟩:=Ac H
   refine TL.st rfl rfl rfl (Aq rfl en_96 rfl rfl (.cons _ _ _ _ (.cl _ rfl) .nil) (impl_Entry_yvalues_1_p false h7)) ?_
   refine au 3 ?_
   refine T.cH H ?_ ?_<;>intro H h
   ·refine au 6 ?_
    refine T.conv (Cs.eqS (σ':=[.box (Bj false e4),.box (Bj false e4)]) rfl) ?_
    refine T.ret ?_
    refine Av (Aj ?_)
    exact Pk.id (Aj ⟨.inr (e4,true),(Ad H).symm,rfl,⟨trivial,_,(.cell _ _ _ _ _ _ _ _ _ _ rfl rfl Ez (nb rfl) rfl (.tmp _ _ _ _ rfl .nil)),(.tupL (.cons _ _ _ _ (.cl _ rfl) (.cons _ _ _ _ (.cl _ rfl) .nil)))⟩⟩)
   ·refine au 5 ?_
    exact Pk.of (Af ⟨(IntKind.i64.wrap (v1+1)),(Ad H).symm,rfl,rfl⟩)
  ·refine T.exit ?_
   refine Am ?_
   exact Pk.of (Am ⟨.inl (),(Ad H).symm,rfl,rfl,rfl⟩)
 ·rcases q8 with ⟨⟩ | q2
  ·rintro _ _ _ ⟨rfl,rfl,rfl⟩
   refine A6 ?_
   refine au 11 ?_
   cases Ad H
   exact⟨trivial,_,(.cell _ _ _ _ _ _ _ _ _ _ rfl rfl Ez (nb rfl) rfl (.tmp _ _ _ _ rfl .nil)),(.tupL (.cons _ _ _ _ (.aggL (.cons _ _ _ _ (.cl _ rfl) (.cons _ _ _ _ .nil .nil))) (.cons _ _ _ _ (.cl _ rfl) .nil)))⟩
  ·rintro _ fr1 σ1 ⟨rfl,hr⟩
   refine Av (Aj ?_)
   cases Ad H
   exact hr
theorem en_95:En Tryz.prog 95:=.of Tryz.func95 rfl rfl
noncomputable def impl_Entry_yvalues(a0:Ay)(a1:ByteArray):Option (List ByteArray) :=
  (impl_Attr_ a0.Attrs_ a1).bind fun q=>(match q with | (r1,r2)=>some r1.Values_)
theorem impl_Entry_yvalues_p(b0:Bool){a0:Ay}{a1:ByteArray}{R0:(List ByteArray)}(H:impl_Entry_yvalues a0 a1=some R0):Bu Tryz.prog 46 [.agg (An b0 a0),.str a1] (.im false (R0.map (Aw))):=by
 refine Ba.of_TN (n:=16) Tryz.func46 rfl rfl rfl rfl ?_
 refine au 10 ?_
 obtain⟨⟨r1,r2⟩,h3,H⟩:=Ac H
 refine TL.st rfl rfl rfl (Aq rfl en_95 rfl rfl (.cons _ _ _ _ (.imv _ _) (.cons _ _ _ _ (.fn _ _ _ _ _ rfl rfl (fun i c d h=>by simp at h) (fun i c d h=>by simp at h)) (.cons _ _ _ _ (.cl _ rfl) .nil))) (impl_Attr__p b0 h3)) ?_
 refine au 8 ?_
 refine T.conv (Cs.eqS (σ':=[.box (An b0 a0),.box (Bj false r1)]) rfl) ?_
 refine au 6 ?_
 cases Ad H
 exact⟨trivial,_,(.tmp _ _ _ _ rfl .nil),(.cl _ rfl)⟩
theorem en_46:En Tryz.prog 46:=.of Tryz.func46 rfl rfl
noncomputable def impl_ysure(a0:Bool):Option Int :=
  cond a0 (some 1) (some 0)
theorem impl_ysure_p {a0:Bool} {R0:Int} (H:impl_ysure a0=some R0):Bu Tryz.prog 77 [.bool a0] (.int .i64 R0):=by
 refine Ba.of_TN (n:=4) Tryz.func77 rfl rfl rfl rfl ?_
 refine au 9 ?_
 refine T.cH H ?_ ?_<;>intro H h
 ·refine au 5 ?_
  refine Aj ?_
  cases Ad H
  exact⟨trivial,_,(.tmp _ _ _ _ rfl .nil),(.cl _ rfl)⟩
 ·refine au 6 ?_
  cases Ad H
  exact⟨trivial,_,(.tmp _ _ _ _ rfl .nil),(.cl _ rfl)⟩
theorem en_77:En Tryz.prog 77:=.of Tryz.func77 rfl rfl
theorem en_126:En Tryz.prog 126:=.of Tryz.func126 rfl rfl
theorem en_165:En Tryz.prog 165:=.of Tryz.func165 rfl rfl
theorem en_132:En Tryz.prog 132:=.of Tryz.func132 rfl rfl
theorem en_158:En Tryz.prog 158:=.of Tryz.func158 rfl rfl
theorem tyE_5:TyE Tryz.prog 5 1:=⟨_,_,rfl,rfl,rfl,rfl,by decide,by decide⟩
noncomputable def strings_Builder_WriteByte(a0:Int)(s0:Bd):Option (Unit×Bd) :=
  (ccO (⟨(),s0.buf_⟩:Bd).buf_).bind fun u1=>(app s0.buf_ ([a0]:List Int)).bind fun l3=>some ((),(⟨(),l3⟩:Bd))
theorem strings_Builder_WriteByte_p {a0:Int} {s0:Bd} {R0:Unit} {U0:Bd} (H:strings_Builder_WriteByte a0 s0=some (R0,U0)):St Tryz.prog 133 [.bx 0 0,.int .u8 a0] [.box [.px 0 170 1 0,.hd 1 (s0.buf_.map (c_int .u8)).length 0 (s0.buf_.map (c_int .u8)).length],.arr (.tg 5) 1 (s0.buf_.map (c_int .u8))] (.nilI) [.box [.px 0 170 1 0,.hd 2 (U0.buf_.map (c_int .u8)).length 0 (U0.buf_.map (c_int .u8)).length],.dead,.arr (.tg 5) 1 (U0.buf_.map (c_int .u8))]:=by
 refine Ba.fin (Ba.of_TN (n:=17) Tryz.func133 rfl rfl rfl rfl ?_) rfl rfl ⟨(Bt.1 rfl),⟨trivial,⟨trivial,trivial⟩⟩⟩
 refine T.conv (Cs.fresh 1 rfl rfl (by decide) rfl (nomS_all rfl rfl)) ?_
 refine T.conv (Cs.wkF (M:=3) (.k 0 rfl rfl (.k 1 rfl rfl .nil))) ?_
 refine T.conv (Cs.eqS (σ':=[.box [.px 0 170 1 0,.hd 2 (s0.buf_.map (c_int .u8)).length 0 (s0.buf_.map (c_int .u8)).length],.dead,.arr (.tg 5) 1 (s0.buf_.map (c_int .u8))]) rfl) ?_
 refine au 7 ?_
 obtain⟨u1,h2,H⟩:=Ac H
 refine TL.st rfl rfl rfl (Bn [0,2] rfl en_158 rfl rfl (MT.lib_158  h2) rfl (by decide) (.cons _ _ _ _ rfl (.cons _ _ _ _ rfl .nil)) rfl rfl rfl) ?_
 refine au 9 ?_
 refine TL.st rfl rfl rfl (A8 (rows:=([a0]:List Int).map (c_int .u8)) rfl rfl tyS_5 ⟨_,rfl,rfl⟩ (by decide) rfl rfl rfl rfl rfl rfl) ?_
 obtain⟨l3,h4,H⟩:=Ac H
 refine TL.st rfl rfl rfl (Ee (f:=c_int .u8) (xs:=s0.buf_) (ys:=([a0]:List Int)) rfl rfl tyE_5 rfl rfl rfl rfl (by decide) rfl (fun _=>rfl) h4) ?_
 refine au 2 ?_
 refine TL.sn rfl rfl (Cm rfl tyS_22 rfl rfl rfl rfl (nb rfl) (Ci rfl rfl rfl)) ?_
 refine au 2 ?_
 refine T.conv (Cs.eqS (σ':=[.box [.px 0 170 1 0,.hd 2 (l3.map (c_int .u8)).length 0 (l3.map (c_int .u8)).length],_,.arr (.tg 5) 1 (l3.map (c_int .u8))]) rfl) ?_
 refine au 4 ?_
 cases Ad H
 exact⟨trivial,_,(.tmp _ _ _ _ rfl .nil),⟨rfl,_,rfl⟩⟩
theorem en_133:En Tryz.prog 133:=.of Tryz.func133 rfl rfl
noncomputable def strings_Builder_String(s0:Bd):Option ByteArray :=
  some (byS s0.buf_)
theorem strings_Builder_String_p {s0:Bd} {R0:ByteArray} (H:strings_Builder_String s0=some R0):St Tryz.prog 134 [.bx 0 0] [.box [.px 0 170 1 0,.hd 1 (s0.buf_.map (c_int .u8)).length 0 (s0.buf_.map (c_int .u8)).length],.arr (.tg 5) 1 (s0.buf_.map (c_int .u8))] (.str R0) [.box [.px 0 170 1 0,.hd 2 (s0.buf_.map (c_int .u8)).length 0 (s0.buf_.map (c_int .u8)).length],.dead,.dead]:=by
 refine Ba.fin (Ba.of_TN (n:=14) Tryz.func134 rfl rfl rfl rfl ?_) rfl rfl ⟨(Bt.1 rfl),⟨trivial,⟨trivial,trivial⟩⟩⟩
 refine T.conv (Cs.fresh 1 rfl rfl (by decide) rfl (nomS_all rfl rfl)) ?_
 refine T.conv (Cs.wkF (M:=3) (.k 0 rfl rfl .nil)) ?_
 refine T.conv (Cs.eqS (σ':=[.box [.px 0 170 1 0,.hd 2 (s0.buf_.map (c_int .u8)).length 0 (s0.buf_.map (c_int .u8)).length],.dead,.arr (.tg 5) 1 (s0.buf_.map (c_int .u8))]) rfl) ?_
 refine au 5 ?_
 refine T.drawn rfl ?_
 refine ad 4 ?_
 refine TD.rs rfl rfl (o_sliceData rfl rfl rfl rfl rfl) ?_
 refine ad 4 ?_
 refine TD.rs rfl rfl (Dt (f:=c_int .u8) rfl rfl rfl rfl rfl) ?_
 refine TD.as rfl rfl (o_unsafeString (f:=c_int .u8) (ns:=s0.buf_) rfl rfl rfl (fun _=>rfl) rfl rfl rfl) ?_
 refine TD.qs rfl rfl (fun _=>Dm rfl rfl) ?_
 refine TD.nil ⟨rfl,?_⟩
 refine T.ret ?_
 cases Ad H
 exact⟨trivial,_,(.tmp _ _ _ _ rfl .nil),⟨rfl,_,rfl⟩⟩
theorem en_134:En Tryz.prog 134:=.of Tryz.func134 rfl rfl
noncomputable def impl_yescape_j1(a0:ByteArray)(v2:Int)(b7:Bd):Option ((Bd×Int)⊕Bd) :=
  (Cr a0 v2).bind fun b8=>(strings_Builder_WriteByte b8 (⟨(),b7.buf_⟩:Bd)).bind fun q=>(match q with | (r10,o11)=>some (.inl ((⟨(),o11.buf_⟩:Bd),(IntKind.i64.wrap (v2+1)))))
noncomputable def impl_yescape_l1(a0:ByteArray)(a1:ByteArray):(Bd×Int)→Option ((Bd×Int)⊕Bd):=fun s=>match s with
  | (b1,v2)=>cond (decide (v2<(a0.size:Int))) ((Cr a0 v2).bind fun b13=>(indexByteO a1 b13).bind fun r15=>cond (decide (r15≥0)) ((strings_Builder_WriteByte 92 (⟨(),b1.buf_⟩:Bd)).bind fun q=>(match q with | (r17,o18)=>impl_yescape_j1 a0 v2 (⟨(),o18.buf_⟩:Bd))) (impl_yescape_j1 a0 v2 (⟨(),b1.buf_⟩:Bd))) (some (.inr (⟨(),b1.buf_⟩:Bd)))
noncomputable def impl_yescape(a0:ByteArray)(a1:ByteArray):Option ByteArray :=
  (loopO (impl_yescape_l1 a0 a1) ((⟨(),([]:List Int)⟩:Bd),0)).bind fun b3=>(match b3 with | b3=>(strings_Builder_String (⟨(),b3.buf_⟩:Bd)).bind fun r4=>some r4)
theorem impl_yescape_p {a0:ByteArray} {a1:ByteArray} {R0:ByteArray} (H:impl_yescape a0 a1=some R0):Bu Tryz.prog 93 [.str a0,.str a1] (.str R0):=by
 refine Ba.of_TN (n:=25) Tryz.func93 rfl rfl rfl rfl ?_
 refine au 6 ?_
 refine TL.st rfl rfl rfl (o_allocB rfl ⟨_,rfl,rfl⟩) ?_
 refine au 9 ?_
 refine T.conv (Cs.ownCellT (p:=0) 5 1 1 rfl rfl (by decide)) ?_
 obtain⟨b3,h21,H⟩:=Ac H
 refine T.lq (fun s=>match s with | (b1,v2)=>[(0,.str a0),(1,.str a1),(5,.bx 0 0),(8,.int .i64 (a0.size:Int)),(9,.int .i64 v2)]) (fun s=>match s with | (b1,v2)=>[.box [.px 0 170 1 0,.hd 1 (b1.buf_.map (c_int .u8)).length 0 (b1.buf_.map (c_int .u8)).length],.arr (.tg 5) 1 (b1.buf_.map (c_int .u8))]) (fun q ex fr σ=>match q with | b3=>ex = .exit 0∧fr = [(5,.bx 0 0)]∧σ = [.box [.px 0 170 1 0,.hd 1 (b3.buf_.map (c_int .u8)).length 0 (b3.buf_.map (c_int .u8)).length],.arr (.tg 5) 1 (b3.buf_.map (c_int .u8))]) h21 ?_ ?_
 ·rintro⟨b1,v2⟩ y6 H
  refine au 5 ?_
  refine T.cH H ?_ ?_<;>intro H h
  ·refine au 8 ?_
   refine T.cut (fun fr' σ'=>∃ (b7:Bd),fr' = [(0,.str a0),(1,.str a1),(5,.bx 0 0),(6,.int .i64 v2),(8,.int .i64 (a0.size:Int)),(9,.int .i64 v2)]∧σ' = [.box [.px 0 170 1 0,.hd 1 (b7.buf_.map (c_int .u8)).length 0 (b7.buf_.map (c_int .u8)).length],.arr (.tg 5) 1 (b7.buf_.map (c_int .u8))]∧impl_yescape_j1 a0 v2 b7=some y6) (T.pk ?_) ?_
   ·skip
    refine au 5 ?_
    obtain⟨b13,h14,H⟩:=Ac H
    refine TL.st rfl rfl rfl (Ct rfl rfl rfl rfl h14) ?_
    obtain⟨r15,h16,H⟩:=Ac H
    refine TL.st rfl rfl rfl (Aq rfl en_132 rfl rfl (.cons _ _ _ _ (.cl _ rfl) (.cons _ _ _ _ (.cl _ rfl) .nil)) (MT.lib_132  h16)) ?_
    refine au 2 ?_
    refine T.cH H ?_ ?_<;>intro H h
    ·refine T.region ?_
     obtain⟨⟨r17,o18⟩,h19,H⟩:=Ac H
     refine TL.st rfl rfl rfl (Bn [0,1] rfl en_133 rfl rfl (strings_Builder_WriteByte_p  h19) rfl (by decide) (.cons _ _ _ _ rfl (.cons _ _ _ _ rfl .nil)) rfl rfl rfl) ?_
     refine TL.conv (Cs.wkF (M:=3) (.k 0 rfl rfl (.k 1 rfl rfl (.k 5 rfl rfl (.k 6 rfl rfl (.k 8 rfl rfl (.k 9 rfl rfl (.k 10 rfl rfl (.k 11 rfl rfl (.k 12 rfl rfl (.k 13 rfl rfl (.k 14 rfl rfl (.k 15 rfl rfl (.k 16 rfl rfl (.k 17 rfl rfl (.k 18 rfl rfl .nil)))))))))))))))) ?_
     refine TL.conv (Cs.reloc 1 2 rfl rfl (by decide) rfl rfl rfl (Bv rfl)) ?_
     refine TL.conv (Cs.wkF (M:=3) (.k 0 rfl rfl (.k 1 rfl rfl (.k 5 rfl rfl (.k 6 rfl rfl (.k 8 rfl rfl (.k 9 rfl rfl (.k 10 rfl rfl (.k 11 rfl rfl (.k 12 rfl rfl (.k 13 rfl rfl (.k 14 rfl rfl (.k 15 rfl rfl (.k 16 rfl rfl (.k 17 rfl rfl (.k 18 rfl rfl .nil)))))))))))))))) ?_
     refine TL.conv (Cs.eqS (σ':=[.box [.px 0 170 1 0,.hd 1 (o18.buf_.map (c_int .u8)).length 0 (o18.buf_.map (c_int .u8)).length],.arr (.tg 5) 1 (o18.buf_.map (c_int .u8)),.dead]) rfl) ?_
     refine TL.nil ?_
     exact Pk.of (Af ⟨(⟨(),o18.buf_⟩:Bd),rfl,rfl,H⟩)
    ·refine T.skip ?_
     exact Pk.of (Af ⟨(⟨(),b1.buf_⟩:Bd),rfl,rfl,H⟩)
   ·rintro _ _ ⟨b7,rfl,rfl,H⟩
    refine au 3 ?_
    obtain⟨b8,h9,H⟩:=Ac H
    refine TL.st rfl rfl rfl (Ct rfl rfl rfl rfl h9) ?_
    obtain⟨⟨r10,o11⟩,h12,H⟩:=Ac H
    refine TL.st rfl rfl rfl (Bn [0,1] rfl en_133 rfl rfl (strings_Builder_WriteByte_p  h12) rfl (by decide) (.cons _ _ _ _ rfl (.cons _ _ _ _ rfl .nil)) rfl rfl rfl) ?_
    refine TL.conv (Cs.wkF (M:=3) (.k 0 rfl rfl (.k 1 rfl rfl (.k 5 rfl rfl (.k 6 rfl rfl (.k 8 rfl rfl (.k 9 rfl rfl (.k 19 rfl rfl (.k 20 rfl rfl (.k 21 rfl rfl (.k 22 rfl rfl .nil))))))))))) ?_
    refine TL.conv (Cs.reloc 1 2 rfl rfl (by decide) rfl rfl rfl (Bv rfl)) ?_
    refine TL.conv (Cs.wkF (M:=3) (.k 0 rfl rfl (.k 1 rfl rfl (.k 5 rfl rfl (.k 6 rfl rfl (.k 8 rfl rfl (.k 9 rfl rfl (.k 19 rfl rfl (.k 20 rfl rfl (.k 21 rfl rfl (.k 22 rfl rfl .nil))))))))))) ?_
    refine TL.conv (Cs.eqS (σ':=[.box [.px 0 170 1 0,.hd 1 (o11.buf_.map (c_int .u8)).length 0 (o11.buf_.map (c_int .u8)).length],.arr (.tg 5) 1 (o11.buf_.map (c_int .u8)),.dead]) rfl) ?_
    refine au 5 ?_
    exact Pk.of (Af ⟨((⟨(),o11.buf_⟩:Bd),(IntKind.i64.wrap (v2+1))),(Ad H).symm,rfl,rfl⟩)
  ·refine T.exit ?_
   refine Am ?_
   exact Pk.of (Am ⟨(⟨(),b1.buf_⟩:Bd),(Ad H).symm,rfl,rfl,rfl⟩)
 ·rintro _ _ _ ⟨rfl,rfl,rfl⟩
  refine A6 ?_
  refine au 2 ?_
  obtain⟨r4,h5,H⟩:=Ac H
  refine TL.st rfl rfl rfl (Bn [0,1] rfl en_134 rfl rfl (strings_Builder_String_p  h5) rfl (by decide) (.cons _ _ _ _ rfl (.cons _ _ _ _ rfl .nil)) rfl rfl rfl) ?_
  refine au 3 ?_
  cases Ad H
  exact⟨trivial,_,(.tmp _ _ _ _ rfl .nil),(.cl _ rfl)⟩
theorem en_93:En Tryz.prog 93:=.of Tryz.func93 rfl rfl
theorem en_94:En Tryz.prog 94:=.of Tryz.func94 rfl rfl
noncomputable def impl_NameText_l1(a0:(List A4)):(List ByteArray×Int)→Option ((List ByteArray×Int)⊕List ByteArray):=fun s=>match s with
  | (l3,v4)=>cond (decide (v4<(a0.length:Int))) ((idx a0 v4).bind fun e9=>(cat e9.Attr_ (ByteArray.mk #[61])).bind fun s11=>(impl_yescape e9.Text_ (ByteArray.mk #[44,92])).bind fun r13=>(cat s11 r13).bind fun s15=>(app l3 ([s15]:List ByteArray)).bind fun l17=>some (.inl (l17,(IntKind.i64.wrap (v4+1))))) (some (.inr l3))
noncomputable def impl_NameText(a0:(List A4)):Option ByteArray :=
  (impl_GoodDirName a0).bind fun r1=>cond (!r1) (some e0) ((loopO (impl_NameText_l1 a0) (([]:List ByteArray),0)).bind fun l5=>(match l5 with | l5=>(joinO l5 (ByteArray.mk #[44])).bind fun r6=>some r6))
theorem impl_NameText_p(b0:Bool){a0:(List A4)}{R0:ByteArray}(H:impl_NameText a0=some R0):Bu Tryz.prog 45 [.im b0 (a0.map (A5 false))] (.str R0):=by
 refine Ba.of_TN (n:=28) Tryz.func45 rfl rfl rfl rfl ?_
 refine au 8 ?_
 obtain⟨r1,h2,H⟩:=Ac H
 refine TL.st rfl rfl rfl (Aq rfl en_44 rfl rfl (.cons _ _ _ _ (.imv _ _) .nil) (impl_GoodDirName_p b0 h2)) ?_
 refine au 2 ?_
 refine T.cH H ?_ ?_<;>intro H h
 ·refine au 5 ?_
  refine Aj ?_
  cases Ad H
  exact⟨trivial,_,(.tmp _ _ _ _ rfl .nil),(.cl _ rfl)⟩
 ·refine au 9 ?_
  refine TL.st rfl rfl rfl (Bf (f:=A5 false) rfl rfl rfl) ?_
  refine au 3 ?_
  refine T.conv (Cs.own (t:=3) 1 rfl (by decide)) ?_
  obtain⟨l5,h20,H⟩:=Ac H
  refine T.lq (fun s=>match s with | (l3,v4)=>[(3,.hd 0 (l3.map (Aw)).length 0 (l3.map (Aw)).length),(9,.im b0 (a0.map (A5 false))),(10,.int .i64 (a0.length:Int)),(11,.int .i64 v4)]) (fun s=>match s with | (l3,v4)=>[.arr .clo 1 (l3.map (Aw))]) (fun q ex fr σ=>match q with | l5=>ex = .exit 0∧fr = [(3,.hd 0 (l5.map (Aw)).length 0 (l5.map (Aw)).length)]∧σ = [.arr .clo 1 (l5.map (Aw))]) h20 ?_ ?_
  ·rintro⟨l3,v4⟩ y8 H
   refine au 5 ?_
   refine T.cH H ?_ ?_<;>intro H h
   ·refine au 5 ?_
    obtain⟨e9,h10,H⟩:=Ac H
    refine TL.st rfl rfl rfl (B7 (f:=A5 false) rfl rfl Em rfl rfl h10 rfl) ?_
    refine au 4 ?_
    refine T.drawn rfl ?_
    refine ad 3 ?_
    obtain⟨s11,h12,H⟩:=Ac H
    refine TD.qs rfl rfl (fun _=>o_ct rfl rfl rfl h12) ?_
    refine ad 2 ?_
    obtain⟨r13,h14,H⟩:=Ac H
    refine TD.qs rfl rfl (fun _=>Aq rfl en_93 rfl rfl (.cons _ _ _ _ (.cl _ rfl) (.cons _ _ _ _ (.cl _ rfl) .nil)) (impl_yescape_p  h14)) ?_
    obtain⟨s15,h16,H⟩:=Ac H
    refine TD.qs rfl rfl (fun _=>o_ct rfl rfl rfl h16) ?_
    refine TD.qs rfl rfl (fun _=>A8 (rows:=([s15]:List ByteArray).map (Aw)) rfl rfl Bm ⟨_,rfl,rfl⟩ (by decide) rfl rfl rfl rfl rfl rfl) ?_
    obtain⟨l17,h18,H⟩:=Ac H
    refine TD.as rfl rfl (Ee (f:=Aw) (xs:=l3) (ys:=([s15]:List ByteArray)) rfl rfl tyE_9 rfl rfl rfl rfl (by decide) rfl (fun _=>rfl) h18) ?_
    refine TD.qs rfl rfl (fun _=>Dm rfl rfl) ?_
    refine TD.nil ⟨rfl,?_⟩
    refine Bh (Af ?_)
    refine T.conv (Cs.eqS (σ':=[.arr .clo 1 (l17.map (Aw)),.box (A5 false e9)]) rfl) ?_
    refine au 4 ?_
    exact Pk.of (Af ⟨(l17,(IntKind.i64.wrap (v4+1))),(Ad H).symm,rfl,rfl⟩)
   ·refine T.exit ?_
    refine Am ?_
    exact Pk.of (Am ⟨l3,(Ad H).symm,rfl,rfl,rfl⟩)
  ·rintro _ _ _ ⟨rfl,rfl,rfl⟩
   refine A6 ?_
   refine au 3 ?_
   obtain⟨r6,h7,H⟩:=Ac H
   refine TL.st rfl rfl rfl (Aq rfl en_94 rfl rfl (.cons _ _ _ _ (.own rfl (by decide) rfl) (.cons _ _ _ _ (.cl _ rfl) .nil)) (MT.lib_94 true h7)) ?_
   refine au 3 ?_
   cases Ad H
   exact⟨trivial,_,(.tmp _ _ _ _ rfl .nil),(.cl _ rfl)⟩
theorem en_45:En Tryz.prog 45:=.of Tryz.func45 rfl rfl
noncomputable def impl_ReadName_j1(r12:ByteArray)(b15:A4)(v28:Int):Option ((A4×Int)⊕((A4×Bool×Int)⊕((List A4)×Bool))) :=
  (subS r12 v28 (IntKind.i64.wrap (v28+1))).bind fun s29=>(cat b15.Text_ s29).bind fun s31=>some (.inl ((⟨b15.Attr_,s31⟩:A4),(IntKind.i64.wrap (v28+1))))
noncomputable def impl_ReadName_l2(r12:ByteArray):(A4×Int)→Option ((A4×Int)⊕((A4×Bool×Int)⊕((List A4)×Bool))):=fun s=>match s with
  | (b15,v16)=>cond (decide (v16<(r12.size:Int))) ((Cr r12 v16).bind fun b26=>cond (b26==44) (some (.inr (.inl (b15,true,v16)))) ((Cr r12 v16).bind fun b33=>cond (b33==92) (cond ((IntKind.i64.wrap (v16+1))==(r12.size:Int)) (some (.inr (.inr (([]:List A4),false)))) (impl_ReadName_j1 r12 b15 (IntKind.i64.wrap (v16+1)))) (impl_ReadName_j1 r12 b15 v16))) (some (.inr (.inl (b15,false,v16))))
noncomputable def impl_ReadName_l1 : (List A4×ByteArray×Bool)→Option ((List A4×ByteArray×Bool)⊕(List A4⊕((List A4)×Bool))):=fun s=>match s with
  | (l1,v2,v3)=>cond v3 ((cutO v2 (ByteArray.mk #[61])).bind fun q=>(match q with | (r11,r12,r13)=>cond (!r13) (some (.inr (.inr (([]:List A4),false)))) ((loopO (impl_ReadName_l2 r12) ((⟨r11,e0⟩:A4),0)).bind fun q35=>(match q35 with | .inl (b17,v18,v19)=>(app l1 ([b17]:List A4)).bind fun l21=>cond v18 ((subS r12 (IntKind.i64.wrap (v19+1)) (r12.size:Int)).bind fun s23=>some (.inl (l21,s23,v18))) (some (.inl (l21,v2,v18))) | .inr q20=>some (.inr (.inr q20)))))) (some (.inr (.inl l1)))
noncomputable def impl_ReadName(a0:ByteArray):Option ((List A4)×Bool) :=
  cond (a0.toList==e0.toList) (some (([]:List A4),true)) (cond (decide ((a0.size:Int) > 2000)) (some (([]:List A4),false)) ((loopO (impl_ReadName_l1) (([]:List A4),a0,true)).bind fun q37=>(match q37 with | .inl l4=>(impl_GoodDirName l4).bind fun r6=>(gdO (!(!r6)) (impl_NameText l4)).bind fun r8=>cond ((!r6)||(!(r8.toList==a0.toList))) (some (([]:List A4),false)) (some (l4,true)) | .inr q5=>some q5)))
theorem impl_ReadName_p  {a0 : ByteArray} {R0 : (List     A4)} {R1 : Bool} (H : impl_ReadName a0 = some (R0, R1)) :   Bu Tryz.prog 149 [.str a0] (.tup [.im false (R0.map (      A5 false)), .bool R1]) := by
 refine Ba.of_TN (n:=77) Tryz.func149 rfl rfl rfl rfl ?_
 refine au 11 ?_
 refine T.cH H ?_ ?_<;>intro H h
 ·refine au 6 ?_
  refine Aj ?_
  cases Ad H
  exact⟨trivial,_,(.tmp _ _ _ _ rfl (.tmp _ _ _ _ rfl .nil)),(.tupL (.cons _ _ _ _ .nil (.cons _ _ _ _ (.cl _ rfl) .nil)))⟩
 ·refine au 8 ?_
  refine T.cH H ?_ ?_<;>intro H h
  ·refine au 6 ?_
   refine Aj ?_
   cases Ad H
   exact⟨trivial,_,(.tmp _ _ _ _ rfl (.tmp _ _ _ _ rfl .nil)),(.tupL (.cons _ _ _ _ .nil (.cons _ _ _ _ (.cl _ rfl) .nil)))⟩
  ·refine au 13 ?_
   refine T.conv (Cs.own (t:=4) 2 rfl (by decide)) ?_
   obtain⟨q37,h38,H⟩:=Ac H
   refine T.lq (fun s=>match s with | (l1,v2,v3)=>[(0,.str a0),(4,.hd 0 (l1.map (A5 false)).length 0 (l1.map (A5 false)).length),(5,.str v2),(6,.bool v3)]) (fun s=>match s with | (l1,v2,v3)=>[.arr .clo 2 (l1.map (A5 false))]) (fun q ex fr σ=>match q with | .inl l4=>ex = .exit 0∧fr = [(0,.str a0),(4,.hd 0 (l4.map (A5 false)).length 0 (l4.map (A5 false)).length)]∧σ = [.arr .clo 2 (l4.map (A5 false))] | .inr q5=>ex = .ret∧C5 Tryz.prog [.tmp 2,.tmp 3] (fun v τ=>Told τ v (.tup [.im false (q5.1.map (A5 false)),.bool q5.2])) .ret fr σ) h38 ?_ ?_
   ·rintro ⟨l1, v2, v3⟩ y10 H
    refine au 5 ?_
    refine T.cH H ?_ ?_<;>intro H h
    ·refine au 5 ?_
     obtain⟨⟨r11,r12,r13⟩,h14,H⟩:=Ac H
     refine TL.st rfl rfl rfl (Aq rfl en_165 rfl rfl (.cons _ _ _ _ (.cl _ rfl) (.cons _ _ _ _ (.cl _ rfl) .nil)) (MT.lib_165  h14)) ?_
     refine au 14 ?_
     refine T.cH H ?_ ?_<;>intro H h
     ·refine au 6 ?_
      refine Aj (Av ?_)
      exact Pk.id (Aj ⟨.inr (([]:List A4),false),(Ad H).symm,rfl,⟨trivial,_,(.tmp _ _ _ _ rfl (.tmp _ _ _ _ rfl .nil)),(.tupL (.cons _ _ _ _ .nil (.cons _ _ _ _ (.cl _ rfl) .nil)))⟩⟩)
     ·refine au 18 ?_
      obtain⟨q35,h36,H⟩:=Ac H
      refine T.lq (fun s=>match s with | (b15,v16)=>[(0,.str a0),(4,.hd 0 (l1.map (A5 false)).length 0 (l1.map (A5 false)).length),(5,.str v2),(6,.bool false),(8,.str r12),(10,.bx 1 0),(11,.int .i64 v16)]) (fun s=>match s with | (b15,v16)=>[.arr .clo 2 (l1.map (A5 false)),.box (A5 false b15)]) (fun q ex fr σ=>match q with | .inl (b17,v18,v19)=>ex = .exit 2∧fr = [(0,.str a0),(4,.hd 0 (l1.map (A5 false)).length 0 (l1.map (A5 false)).length),(5,.str v2),(6,.bool v18),(8,.str r12),(10,.bx 1 0),(11,.int .i64 v19)]∧σ = [.arr .clo 2 (l1.map (A5 false)),.box (A5 false b17)] | .inr q20=>ex = .ret∧C5 Tryz.prog [.tmp 2,.tmp 3] (fun v τ=>Told τ v (.tup [.im false (q20.1.map (A5 false)),.bool q20.2])) .ret fr σ) h36 ?_ ?_
      ·rintro⟨b15,v16⟩ y25 H
       refine au 8 ?_
       refine T.cH H ?_ ?_<;>intro H h
       ·refine au 8 ?_
        obtain⟨b26,h27,H⟩:=Ac H
        refine TL.st rfl rfl rfl (Ct rfl rfl rfl rfl h27) ?_
        refine au 2 ?_
        refine T.cH H ?_ ?_<;>intro H h
        ·refine au 5 ?_
         refine Am ?_
         refine inB_other rfl ?_
         refine Am ?_
         exact Pk.of (Am ⟨.inl (b15,true,v16),(Ad H).symm,rfl,rfl,rfl⟩)
        ·refine T.skip ?_
         refine T.cut (fun fr' σ'=>∃ (v28:Int),fr' = [(0,.str a0),(4,.hd 0 (l1.map (A5 false)).length 0 (l1.map (A5 false)).length),(5,.str v2),(6,.bool false),(8,.str r12),(10,.bx 1 0),(11,.int .i64 v28)]∧σ' = [.arr .clo 2 (l1.map (A5 false)),.box (A5 false b15)]∧impl_ReadName_j1 r12 b15 v28=some y25) (T.pk ?_) ?_
         ·skip
          refine au 4 ?_
          obtain⟨b33,h34,H⟩:=Ac H
          refine TL.st rfl rfl rfl (Ct rfl rfl rfl rfl h34) ?_
          refine au 2 ?_
          refine T.cH H ?_ ?_<;>intro H h
          ·refine au 13 ?_
           refine T.cH H ?_ ?_<;>intro H h
           ·refine au 6 ?_
            refine Pk.id (Aj ?_)
            refine Av (Aj ?_)
            exact Pk.id (Aj ⟨.inr (([]:List A4),false),(Ad H).symm,rfl,⟨trivial,_,(.tmp _ _ _ _ rfl (.tmp _ _ _ _ rfl .nil)),(.tupL (.cons _ _ _ _ .nil (.cons _ _ _ _ (.cl _ rfl) .nil)))⟩⟩)
           ·refine T.skip ?_
            exact Pk.of (Af ⟨(IntKind.i64.wrap (v16+1)),rfl,rfl,H⟩)
          ·refine T.skip ?_
           exact Pk.of (Af ⟨v16,rfl,rfl,H⟩)
         ·rintro _ _ ⟨v28,rfl,rfl,H⟩
          refine T.drawn rfl ?_
          refine ad 6 ?_
          obtain⟨s29,h30,H⟩:=Ac H
          refine TD.qs rfl rfl (fun _=>o_subS rfl rfl rfl rfl rfl h30) ?_
          obtain⟨s31,h32,H⟩:=Ac H
          refine TD.qs rfl rfl (fun _=>o_ct rfl rfl rfl h32) ?_
          refine ad 2 ?_
          refine TD.nil ⟨rfl,?_⟩
          refine au 5 ?_
          exact Pk.of (Af ⟨((⟨b15.Attr_,s31⟩:A4),(IntKind.i64.wrap (v28+1))),(Ad H).symm,rfl,rfl⟩)
       ·refine T.exit ?_
        refine Am ?_
        exact Pk.of (Am ⟨.inl (b15,false,v16),(Ad H).symm,rfl,rfl,rfl⟩)
      ·rcases q35 with ⟨b17,v18,v19⟩ | q20
       ·rintro _ _ _ ⟨rfl,rfl,rfl⟩
        refine A6 ?_
        refine au 4 ?_
        refine TL.st rfl rfl rfl (A8 (rows:=([b17]:List A4).map (A5 false)) rfl rfl Em ⟨_,rfl,rfl⟩ (by decide) rfl rfl rfl rfl rfl rfl) ?_
        obtain⟨l21,h22,H⟩:=Ac H
        refine TL.st rfl rfl rfl (Ee (f:=A5 false) (xs:=l1) (ys:=([b17]:List A4)) rfl rfl tyE_96 rfl rfl rfl rfl (by decide) rfl (fun _=>rfl) h22) ?_
        refine au 6 ?_
        refine T.cH H ?_ ?_<;>intro H h
        ·refine au 4 ?_
         obtain⟨s23,h24,H⟩:=Ac H
         refine TL.st rfl rfl rfl (o_subS rfl rfl rfl rfl rfl h24) ?_
         refine au 2 ?_
         refine Bh ?_
         exact Pk.of (Af ⟨(l21,s23,v18),(Ad H).symm,rfl,rfl⟩)
        ·refine T.skip ?_
         refine Bh ?_
         exact Pk.of (Af ⟨(l21,v2,v18),(Ad H).symm,rfl,rfl⟩)
       ·rintro _ fr1 σ1 ⟨rfl,hr⟩
        refine Av (Aj (Av ?_))
        exact Pk.id (Aj ⟨.inr q20,(Ad H).symm,rfl,hr⟩)
    ·refine T.exit ?_
     refine Am ?_
     exact Pk.of (Am ⟨.inl l1,(Ad H).symm,rfl,rfl,rfl⟩)
   ·rcases q37 with l4 | q5
    ·rintro _ _ _ ⟨rfl,rfl,rfl⟩
     refine A6 ?_
     refine au 4 ?_
     obtain⟨r6,h7,H⟩:=Ac H
     refine TL.st rfl rfl rfl (Aq rfl en_44 rfl rfl (.cons _ _ _ _ (.own rfl (by decide) rfl) .nil) (impl_GoodDirName_p true h7)) ?_
     refine au 3 ?_
     obtain⟨r8,h9,H⟩:=Ac H
     refine TL.gcq rfl rfl rfl (.bool _) rfl rfl (fun h=>Aq rfl en_45 rfl (Dc (gv h rfl)) (.cons _ _ _ _ (.own rfl (by decide) rfl) .nil) (impl_NameText_p true (Bq h9 h))) ?_
     refine TL.gcq rfl rfl rfl (.bool _) rfl rfl (fun h=>Bp rfl rfl) ?_
     refine TL.gcq rfl rfl rfl (.bool _) rfl rfl (fun h=>E4 rfl (gv h rfl) (gv h rfl) rfl) ?_
     refine au 2 ?_
     refine T.cH H ?_ ?_<;>intro H h
     ·refine au 6 ?_
      refine Aj ?_
      cases Ad H
      exact⟨trivial,_,(.tmp _ _ _ _ rfl (.tmp _ _ _ _ rfl .nil)),(.tupL (.cons _ _ _ _ .nil (.cons _ _ _ _ (.cl _ rfl) .nil)))⟩
     ·refine au 8 ?_
      cases Ad H
      exact⟨trivial,_,(.tmp _ _ _ _ rfl (.tmp _ _ _ _ rfl .nil)),(.tupL (.cons _ _ _ _ (.own rfl (by decide) rfl) (.cons _ _ _ _ (.cl _ rfl) .nil)))⟩
    ·rintro _ fr1 σ1 ⟨rfl,hr⟩
     refine Av (Aj ?_)
     cases Ad H
     exact hr
theorem en_149:En Tryz.prog 149:=.of Tryz.func149 rfl rfl
noncomputable def impl_yofSyntax(a0:Int)(a1:ByteArray):Option Bool :=
  cond (a0==3) ((wholeO a1).bind fun q=>(match q with | (r1,r2)=>some r2)) (cond (a0==4) ((impl_ReadName a1).bind fun q=>(match q with | (r4,r5)=>some r5)) (some true))
theorem impl_yofSyntax_p {a0:Int} {a1:ByteArray} {R0:Bool} (H:impl_yofSyntax a0 a1=some R0):Bu Tryz.prog 117 [.int .i64 a0,.str a1] (.bool R0):=by
 refine Ba.of_TN (n:=26) Tryz.func117 rfl rfl rfl rfl ?_
 refine au 15 ?_
 refine T.cH H ?_ ?_<;>intro H h
 ·refine au 3 ?_
  obtain⟨⟨r1,r2⟩,h3,H⟩:=Ac H
  refine TL.st rfl rfl rfl (Aq rfl en_126 rfl rfl (.cons _ _ _ _ (.cl _ rfl) .nil) (MT.lib_126  h3)) ?_
  refine au 12 ?_
  refine Av (Aj ?_)
  cases Ad H
  exact⟨trivial,_,(.tmp _ _ _ _ rfl .nil),(.cl _ rfl)⟩
 ·refine au 5 ?_
  refine T.cH H ?_ ?_<;>intro H h
  ·refine au 3 ?_
   obtain⟨⟨r4,r5⟩,h6,H⟩:=Ac H
   refine TL.st rfl rfl rfl (Aq rfl en_149 rfl rfl (.cons _ _ _ _ (.cl _ rfl) .nil) (impl_ReadName_p  h6)) ?_
   refine au 12 ?_
   refine Av (Aj ?_)
   cases Ad H
   exact⟨trivial,_,(.tmp _ _ _ _ rfl .nil),(.cl _ rfl)⟩
  ·refine au 6 ?_
   cases Ad H
   exact⟨trivial,_,(.tmp _ _ _ _ rfl .nil),(.cl _ rfl)⟩
theorem en_117:En Tryz.prog 117:=.of Tryz.func117 rfl rfl
theorem en_123:En Tryz.prog 123:=.of Tryz.func123 rfl rfl
noncomputable def impl_ysame(a0:Ar)(a1:Bool)(a2:ByteArray)(a3:ByteArray):Option Bool :=
  cond (a1&&(a0.Syntax_==1)) ((E6 a2).bind fun r1=>(E6 a3).bind fun r3=>some (r1.toList==r3.toList)) (cond (a1&&(a0.Syntax_==3)) ((gdO (a2.toList==a3.toList) (impl_yofSyntax 3 a2)).bind fun r5=>some ((a2.toList==a3.toList)&&r5)) (some (a2.toList==a3.toList)))
theorem impl_ysame_p {a0:Ar} {a1:Bool} {a2:ByteArray} {a3:ByteArray} {R0:Bool} (H:impl_ysame a0 a1 a2 a3=some R0):Bu Tryz.prog 120 [.agg (Ae false a0),.bool a1,.str a2,.str a3] (.bool R0):=by
 refine Ba.of_TN (n:=38) Tryz.func120 rfl rfl rfl rfl ?_
 refine au 17 ?_
 refine T.cH H ?_ ?_<;>intro H h
 ·refine au 3 ?_
  obtain⟨r1,h2,H⟩:=Ac H
  refine TL.st rfl rfl rfl (Aq rfl en_123 rfl rfl (.cons _ _ _ _ (.cl _ rfl) .nil) (MT.lib_123  h2)) ?_
  refine TL.st rfl rfl rfl (Bp rfl rfl) ?_
  obtain⟨r3,h4,H⟩:=Ac H
  refine TL.st rfl rfl rfl (Aq rfl en_123 rfl rfl (.cons _ _ _ _ (.cl _ rfl) .nil) (MT.lib_123  h4)) ?_
  refine au 4 ?_
  refine Av (Aj ?_)
  cases Ad H
  exact⟨trivial,_,(.tmp _ _ _ _ rfl .nil),(.cl _ rfl)⟩
 ·refine au 10 ?_
  refine T.cH H ?_ ?_<;>intro H h
  ·refine au 7 ?_
   obtain⟨r5,h6,H⟩:=Ac H
   refine TL.gcq rfl rfl rfl (.bool _) rfl rfl (fun h=>Aq rfl en_117 rfl (E5 rfl (gv h rfl)) (.cons _ _ _ _ (.cl _ rfl) (.cons _ _ _ _ (.cl _ rfl) .nil)) (impl_yofSyntax_p  (Bq h6 h))) ?_
   refine au 4 ?_
   refine Av (Aj ?_)
   cases Ad H
   exact⟨trivial,_,(.tmp _ _ _ _ rfl .nil),(.cl _ rfl)⟩
  ·refine au 9 ?_
   cases Ad H
   exact⟨trivial,_,(.tmp _ _ _ _ rfl .nil),(.cl _ rfl)⟩
theorem en_120:En Tryz.prog 120:=.of Tryz.func120 rfl rfl
noncomputable def impl_DirSchema_yleaf_1(a0:ByteArray)(s0:Ar)(s1:Aa):Option Bool :=
  (impl_ysame s0 true a0 s1.Text_).bind fun r1=>some r1
theorem impl_DirSchema_yleaf_1_p {a0:ByteArray} {s0:Ar} {s1:Aa} {R0:Bool} (H:impl_DirSchema_yleaf_1 a0 s0 s1=some R0):St Tryz.prog 119 [.str a0,.bx 0 0,.bx 1 0] [.box (Ae false s0),.box (Ab false s1)] (.bool R0) [.box (Ae false s0),.box (Ab false s1)]:=by
 refine Ba.fin (Ba.of_TN (n:=10) Tryz.func119 rfl rfl rfl rfl ?_) rfl rfl ⟨(Bt.1 rfl),⟨(Bt.1 rfl),trivial⟩⟩
 refine au 10 ?_
 obtain⟨r1,h2,H⟩:=Ac H
 refine TL.st rfl rfl rfl (Aq rfl en_120 rfl rfl (.cons _ _ _ _ (.cl _ rfl) (.cons _ _ _ _ (.cl _ rfl) (.cons _ _ _ _ (.cl _ rfl) (.cons _ _ _ _ (.cl _ rfl) .nil)))) (impl_ysame_p  h2)) ?_
 refine au 3 ?_
 cases Ad H
 exact⟨trivial,_,(.tmp _ _ _ _ rfl .nil),⟨rfl,_,rfl⟩⟩
theorem en_119:En Tryz.prog 119:=.of Tryz.func119 rfl rfl
noncomputable def slices_IndexFunc_l1(a0:(List ByteArray))(s0:Ar)(s1:Aa):Int→Option (Int⊕(Unit⊕Int)):=fun s=>match s with
  | v1=>cond (decide (v1<(a0.length:Int))) ((idx a0 v1).bind fun e4=>(impl_DirSchema_yleaf_1 e4 s0 s1).bind fun r6=>cond r6 (some (.inr (.inr v1))) (some (.inl (IntKind.i64.wrap (v1+1))))) (some (.inr (.inl ())))
noncomputable def slices_IndexFunc(a0:(List ByteArray))(s0:Ar)(s1:Aa):Option Int :=
  (loopO (slices_IndexFunc_l1 a0 s0 s1) 0).bind fun q8=>(match q8 with | .inl _=>some (-1) | .inr q2=>some q2)
theorem slices_IndexFunc_p(b0:Bool){a0:(List ByteArray)}{s0:Ar}{s1:Aa}{R0:Int}(H:slices_IndexFunc a0 s0 s1=some R0):St Tryz.prog 150 [.im b0 (a0.map (Aw)),.fn 119 [] [.bx 0 0,.bx 1 0]] [.box (Ae false s0),.box (Ab false s1)] (.int .i64 R0) [.box (Ae false s0),.box (Ab false s1)]:=by
 refine Ba.fin (Ba.of_TN (n:=19) Tryz.func150 rfl rfl rfl rfl ?_) rfl rfl ⟨(Bt.1 rfl),⟨(Bt.1 rfl),trivial⟩⟩
 refine au 8 ?_
 refine TL.st rfl rfl rfl (Bf (f:=Aw) rfl rfl rfl) ?_
 refine au 3 ?_
 obtain⟨q8,h9,H⟩:=Ac H
 refine T.lq (fun s=>match s with | v1=>[(0,.im b0 (a0.map (Aw))),(1,.fn 119 [] [.bx 0 0,.bx 1 0]),(7,.int .i64 (a0.length:Int)),(8,.int .i64 v1)]) (fun s=>match s with | v1=>[.box (Ae false s0),.box (Ab false s1)]) (fun q ex fr σ=>match q with | .inl _=>ex = .exit 0∧fr = []∧σ = [.box (Ae false s0),.box (Ab false s1)] | .inr q2=>ex = .ret∧C5 Tryz.prog [.tmp 4] (Fin [.box (Ae false s0),.box (Ab false s1)] (.int .i64 q2)) .ret fr σ) h9 ?_ ?_
 ·rintro v1 y3 H
  refine au 5 ?_
  refine T.cH H ?_ ?_<;>intro H h
  ·refine au 13 ?_
   obtain⟨e4,h5,H⟩:=Ac H
   refine TL.st rfl rfl rfl (B7 (f:=Aw) rfl rfl Bm rfl rfl h5 rfl) ?_
   refine TL.st rfl rfl rfl (Bx rfl Bm rfl (nb rfl) rfl) ?_
   obtain⟨r6,h7,H⟩:=Ac H
   refine TL.st rfl rfl rfl (Bn [0,1] rfl en_119 rfl rfl (impl_DirSchema_yleaf_1_p  h7) rfl (by decide) (.cons _ _ _ _ rfl (.cons _ _ _ _ rfl .nil)) rfl rfl rfl) ?_
   refine TL.nil ?_
   refine T.cH H ?_ ?_<;>intro H h
   ·refine au 6 ?_
    refine Av (Aj ?_)
    exact Pk.id (Aj ⟨.inr v1,(Ad H).symm,rfl,⟨trivial,_,(.tmp _ _ _ _ rfl .nil),⟨rfl,_,rfl⟩⟩⟩)
   ·refine au 5 ?_
    exact Pk.of (Af ⟨(IntKind.i64.wrap (v1+1)),(Ad H).symm,rfl,rfl⟩)
  ·refine T.exit ?_
   refine Am ?_
   exact Pk.of (Am ⟨.inl (),(Ad H).symm,rfl,rfl,rfl⟩)
 ·rcases q8 with ⟨⟩ | q2
  ·rintro _ _ _ ⟨rfl,rfl,rfl⟩
   refine A6 ?_
   refine au 5 ?_
   cases Ad H
   exact⟨trivial,_,(.tmp _ _ _ _ rfl .nil),⟨rfl,_,rfl⟩⟩
  ·rintro _ fr1 σ1 ⟨rfl,hr⟩
   refine Av (Aj ?_)
   cases Ad H
   exact hr
theorem en_150:En Tryz.prog 150:=.of Tryz.func150 rfl rfl
noncomputable def slices_ContainsFunc(a0:(List ByteArray))(s0:Ar)(s1:Aa):Option Bool :=
  (slices_IndexFunc a0 s0 s1).bind fun r1=>some (decide (r1≥0))
theorem slices_ContainsFunc_p(b0:Bool){a0:(List ByteArray)}{s0:Ar}{s1:Aa}{R0:Bool}(H:slices_ContainsFunc a0 s0 s1=some R0):St Tryz.prog 118 [.im b0 (a0.map (Aw)),.fn 119 [] [.bx 0 0,.bx 1 0]] [.box (Ae false s0),.box (Ab false s1)] (.bool R0) [.box (Ae false s0),.box (Ab false s1)]:=by
 refine Ba.fin (Ba.of_TN (n:=9) Tryz.func118 rfl rfl rfl rfl ?_) rfl rfl ⟨(Bt.1 rfl),⟨(Bt.1 rfl),trivial⟩⟩
 refine au 8 ?_
 obtain⟨r1,h2,H⟩:=Ac H
 refine TL.st rfl rfl rfl (Bn [0,1] rfl en_150 rfl rfl (slices_IndexFunc_p b0 h2) rfl (by decide) (.cons _ _ _ _ rfl (.cons _ _ _ _ rfl .nil)) rfl rfl rfl) ?_
 refine au 4 ?_
 cases Ad H
 exact⟨trivial,_,(.tmp _ _ _ _ rfl .nil),⟨rfl,_,rfl⟩⟩
theorem en_118:En Tryz.prog 118:=.of Tryz.func118 rfl rfl
theorem tyE_4:TyE Tryz.prog 4 1:=⟨_,_,rfl,rfl,rfl,rfl,by decide,by decide⟩
noncomputable def impl_Like_l3(a0:ByteArray):(List Bool×Int)→Option ((List Bool×Int)⊕List Bool):=fun s=>match s with
  | (l24,v25)=>cond (decide (v25≤(a0.size:Int))) ((idx l24 v25).bind fun e28=>some (.inl ((l24.set (Int.toNat v25) true),(IntKind.i64.wrap (v25+1))))) (some (.inr l24))
noncomputable def impl_Like_l2(a0:ByteArray)(l8:List Bool)(e14:Int):(List Bool×Int)→Option ((List Bool×Int)⊕List Bool):=fun s=>match s with
  | (l18,v19)=>cond (decide (v19<(l8.length:Int))) ((idx l8 v19).bind fun e22=>cond (!e22) (some (.inl (l18,(IntKind.i64.wrap (v19+1))))) (cond (decide (e14<0)) ((loopO (impl_Like_l3 a0) (l18,v19)).bind fun l26=>(match l26 with | l26=>some (.inr l26))) ((gdO (decide (v19<(a0.size:Int))) (Cr a0 v19)).bind fun b32=>cond (decide (v19<(a0.size:Int))&&((IntKind.i64.wrap b32)==e14)) ((idx l18 (IntKind.i64.wrap (v19+1))).bind fun e34=>some (.inl ((l18.set (Int.toNat (IntKind.i64.wrap (v19+1))) true),(IntKind.i64.wrap (v19+1))))) (some (.inl (l18,(IntKind.i64.wrap (v19+1)))))))) (some (.inr l18))
noncomputable def impl_Like_l1(a0:ByteArray)(r1:(List Int)):(List Bool×Int)→Option ((List Bool×Int)⊕List Bool):=fun s=>match s with
  | (l8,v9)=>cond (decide (v9<(r1.length:Int))) ((idx r1 v9).bind fun e14=>(mk false (IntKind.i64.wrap ((a0.size:Int)+1))).bind fun l16=>(loopO (impl_Like_l2 a0 l8 e14) (l16,0)).bind fun l20=>(match l20 with | l20=>some (.inl (l20,(IntKind.i64.wrap (v9+1)))))) (some (.inr l8))
noncomputable def impl_Like(a0:ByteArray)(a1:ByteArray):Option Bool :=
  (impl_ypattern a1).bind fun q=>(match q with | (r1,r2)=>cond (((!r2)||decide ((a0.size:Int) > 200))||decide ((a1.size:Int) > 200)) (some false) ((mk false (IntKind.i64.wrap ((a0.size:Int)+1))).bind fun l4=>(idx l4 0).bind fun e6=>(loopO (impl_Like_l1 a0 r1) ((l4.set (Int.toNat 0) true),0)).bind fun l10=>(match l10 with | l10=>(idx l10 (a0.size:Int)).bind fun e11=>some e11)))
theorem impl_Like_p  {a0 : ByteArray} {a1 : ByteArray} {R0 : Bool} (H : impl_Like a0 a1 = some R0) :   Bu Tryz.prog 122 [.str a0, .str a1] (.bool R0) := by
 refine Ba.of_TN (n:=92) Tryz.func122 rfl rfl rfl rfl ?_
 refine au 7 ?_
 obtain⟨⟨r1,r2⟩,h3,H⟩:=Ac H
 refine TL.st rfl rfl rfl (Aq rfl en_116 rfl rfl (.cons _ _ _ _ (.cl _ rfl) .nil) (impl_ypattern_p  h3)) ?_
 refine au 13 ?_
 refine TL.gcq rfl rfl rfl (.bool _) rfl rfl (fun h=>Fb rfl rfl (gv h rfl)) ?_
 refine au 4 ?_
 refine TL.gcq rfl rfl rfl (.bool _) rfl rfl (fun h=>Fb rfl rfl (gv h rfl)) ?_
 refine au 3 ?_
 refine T.cH H ?_ ?_<;>intro H h
 ·refine au 5 ?_
  refine Aj ?_
  cases Ad H
  exact⟨trivial,_,(.tmp _ _ _ _ rfl .nil),(.cl _ rfl)⟩
 ·refine au 6 ?_
  obtain⟨l4,h5,H⟩:=Ac H
  refine TL.st rfl rfl rfl (o_mk (f:=Be) (z:=false) rfl rfl tyE_4 ⟨_,rfl,rfl⟩ rfl rfl h5) ?_
  refine au 5 ?_
  obtain⟨e6,h7,H⟩:=Ac H
  refine TL.st rfl rfl rfl (C2 (f:=Be) rfl rfl Cz rfl rfl rfl rfl h7 rfl) ?_
  refine TL.sn rfl rfl (Dz (f:=Be) (xs:=l4) (k:=0) (a:=e6) true rfl Cz rfl rfl rfl rfl (by decide) h7 rfl rfl rfl (fun _=>rfl) rfl) ?_
  refine TL.conv (Cs.eqV (t:=7) (v':=.hd 0 ((l4.set (Int.toNat 0) true).map (Be)).length 0 ((l4.set (Int.toNat 0) true).map (Be)).length) rfl (B2 _ (List.length_set ..))) ?_
  refine TL.conv (Cs.eqV (t:=33) (v':=.hd 0 ((l4.set (Int.toNat 0) true).map (Be)).length 0 ((l4.set (Int.toNat 0) true).map (Be)).length) rfl (B2 _ (List.length_set ..))) ?_
  refine TL.conv (Cs.eqV (t:=34) (v':=.hd 0 ((l4.set (Int.toNat 0) true).map (Be)).length 0 ((l4.set (Int.toNat 0) true).map (Be)).length) rfl (B2 _ (List.length_set ..))) ?_
  refine TL.conv (Cs.eqV (t:=35) (v':=.el 0 ((l4.set (Int.toNat 0) true).map (Be)).length (Int.toNat 0) 0) rfl (Dv _ _ _ (List.length_set ..))) ?_
  refine au 5 ?_
  refine TL.st rfl rfl rfl (Bf (f:=c_int .i64) rfl rfl rfl) ?_
  refine au 3 ?_
  obtain⟨l10,h39,H⟩:=Ac H
  refine T.lq (fun s=>match s with | (l8,v9)=>[(0,.str a0),(7,.hd 0 (l8.map (Be)).length 0 (l8.map (Be)).length),(36,.im false (r1.map (c_int .i64))),(37,.int .i64 (r1.length:Int)),(38,.int .i64 v9)]) (fun s=>match s with | (l8,v9)=>[.arr .clo 1 (l8.map (Be))]) (fun q ex fr σ=>match q with | l10=>ex = .exit 0∧fr = [(0,.str a0),(7,.hd 0 (l10.map (Be)).length 0 (l10.map (Be)).length)]∧σ = [.arr .clo 1 (l10.map (Be))]) h39 ?_ ?_
  ·rintro ⟨l8, v9⟩ y13 H
   refine au 5 ?_
   refine T.cH H ?_ ?_<;>intro H h
   ·refine au 5 ?_
    obtain⟨e14,h15,H⟩:=Ac H
    refine TL.st rfl rfl rfl (B7 (f:=c_int .i64) rfl rfl Dj rfl rfl h15 rfl) ?_
    refine au 8 ?_
    obtain⟨l16,h17,H⟩:=Ac H
    refine TL.st rfl rfl rfl (o_mk (f:=Be) (z:=false) rfl rfl tyE_4 ⟨_,rfl,rfl⟩ rfl rfl h17) ?_
    refine au 6 ?_
    refine TL.st rfl rfl rfl (Dt (f:=Be) rfl rfl rfl rfl rfl) ?_
    refine au 3 ?_
    obtain⟨l20,h37,H⟩:=Ac H
    refine T.lq (fun s=>match s with | (l18,v19)=>[(0,.str a0),(7,.hd 0 (l8.map (Be)).length 0 (l8.map (Be)).length),(9,.int .i64 e14),(10,.hd 1 (l18.map (Be)).length 0 (l18.map (Be)).length),(36,.im false (r1.map (c_int .i64))),(37,.int .i64 (r1.length:Int)),(38,.int .i64 v9),(47,.int .i64 (l8.length:Int)),(48,.int .i64 v19)]) (fun s=>match s with | (l18,v19)=>[.arr .clo 1 (l8.map (Be)),.arr .clo 1 (l18.map (Be))]) (fun q ex fr σ=>match q with | l20=>ex = .exit 2∧fr = [(0,.str a0),(10,.hd 1 (l20.map (Be)).length 0 (l20.map (Be)).length),(36,.im false (r1.map (c_int .i64))),(37,.int .i64 (r1.length:Int)),(38,.int .i64 v9)]∧σ = [.arr .clo 1 (l8.map (Be)),.arr .clo 1 (l20.map (Be))]) h37 ?_ ?_
    ·rintro⟨l18,v19⟩ y21 H
     refine au 5 ?_
     refine T.cH H ?_ ?_<;>intro H h
     ·refine au 13 ?_
      obtain⟨e22,h23,H⟩:=Ac H
      refine TL.st rfl rfl rfl (C2 (f:=Be) rfl rfl Cz rfl rfl rfl rfl h23 rfl) ?_
      refine TL.st rfl rfl rfl (Cx rfl Cz rfl rfl rfl (by rw[List.getElem?_map,(Ej h23).2];rfl) (nb rfl) rfl) ?_
      refine au 2 ?_
      refine T.cH H ?_ ?_<;>intro H h
      ·refine T.exit ?_
       refine Am ?_
       refine A6 ?_
       refine au 4 ?_
       exact Pk.of (Af ⟨(l18,(IntKind.i64.wrap (v19+1))),(Ad H).symm,rfl,rfl⟩)
      ·refine au 7 ?_
       refine T.cH H ?_ ?_<;>intro H h
       ·refine au 7 ?_
        obtain⟨l26,h31,H⟩:=Ac H
        refine T.lq (fun s=>match s with | (l24,v25)=>[(0,.str a0),(10,.hd 1 (l24.map (Be)).length 0 (l24.map (Be)).length),(12,.int .i64 v25),(36,.im false (r1.map (c_int .i64))),(37,.int .i64 (r1.length:Int)),(38,.int .i64 v9)]) (fun s=>match s with | (l24,v25)=>[.arr .clo 1 (l8.map (Be)),.arr .clo 1 (l24.map (Be))]) (fun q ex fr σ=>match q with | l26=>ex = .exit 4∧fr = [(0,.str a0),(10,.hd 1 (l26.map (Be)).length 0 (l26.map (Be)).length),(36,.im false (r1.map (c_int .i64))),(37,.int .i64 (r1.length:Int)),(38,.int .i64 v9)]∧σ = [.arr .clo 1 (l8.map (Be)),.arr .clo 1 (l26.map (Be))]) h31 ?_ ?_
        ·rintro⟨l24,v25⟩ y27 H
         refine au 8 ?_
         refine T.cH H ?_ ?_<;>intro H h
         ·refine au 6 ?_
          obtain⟨e28,h29,H⟩:=Ac H
          refine TL.st rfl rfl rfl (C2 (f:=Be) rfl rfl Cz rfl rfl rfl rfl h29 rfl) ?_
          refine TL.sn rfl rfl (Dz (f:=Be) (xs:=l24) (k:=v25) (a:=e28) true rfl Cz rfl rfl rfl rfl (by decide) h29 rfl rfl rfl (fun _=>rfl) rfl) ?_
          refine TL.conv (Cs.eqV (t:=10) (v':=.hd 1 ((l24.set (Int.toNat v25) true).map (Be)).length 0 ((l24.set (Int.toNat v25) true).map (Be)).length) rfl (B2 _ (List.length_set ..))) ?_
          refine TL.conv (Cs.eqV (t:=65) (v':=.hd 1 ((l24.set (Int.toNat v25) true).map (Be)).length 0 ((l24.set (Int.toNat v25) true).map (Be)).length) rfl (B2 _ (List.length_set ..))) ?_
          refine TL.conv (Cs.eqV (t:=67) (v':=.el 1 ((l24.set (Int.toNat v25) true).map (Be)).length (Int.toNat v25) 0) rfl (Dv _ _ _ (List.length_set ..))) ?_
          refine au 6 ?_
          exact Pk.of (Af ⟨((l24.set (Int.toNat v25) true),(IntKind.i64.wrap (v25+1))),(Ad H).symm,rfl,rfl⟩)
         ·refine T.exit ?_
          refine Am ?_
          exact Pk.of (Am ⟨l24,(Ad H).symm,rfl,rfl,rfl⟩)
        ·rintro _ _ _ ⟨rfl,rfl,rfl⟩
         refine A6 ?_
         refine T.exit ?_
         refine Am ?_
         refine inB_other rfl ?_
         refine Am ?_
         exact Pk.of (Am ⟨l26,(Ad H).symm,rfl,rfl,rfl⟩)
       ·refine au 10 ?_
        obtain⟨b32,h33,H⟩:=Ac H
        refine TL.gcq rfl rfl rfl (.bool _) rfl rfl (fun h=>Ct rfl rfl (gv h rfl) (gv h rfl) (Bq h33 h)) ?_
        refine TL.gcq rfl rfl rfl (.bool _) rfl rfl (fun h=>o_conv rfl (gv h rfl) ⟨_,rfl⟩ rfl) ?_
        refine TL.gcq rfl rfl rfl (.bool _) rfl rfl (fun h=>Bp rfl rfl) ?_
        refine TL.gcq rfl rfl rfl (.bool _) rfl rfl (fun h=>B3 rfl (gv h rfl) (gv h rfl) rfl) ?_
        refine au 2 ?_
        refine T.cH H ?_ ?_<;>intro H h
        ·refine au 4 ?_
         obtain⟨e34,h35,H⟩:=Ac H
         refine TL.st rfl rfl rfl (C2 (f:=Be) rfl rfl Cz rfl rfl rfl rfl h35 rfl) ?_
         refine TL.sn rfl rfl (Dz (f:=Be) (xs:=l18) (k:=(IntKind.i64.wrap (v19+1))) (a:=e34) true rfl Cz rfl rfl rfl rfl (by decide) h35 rfl rfl rfl (fun _=>rfl) rfl) ?_
         refine TL.conv (Cs.eqV (t:=10) (v':=.hd 1 ((l18.set (Int.toNat (IntKind.i64.wrap (v19+1))) true).map (Be)).length 0 ((l18.set (Int.toNat (IntKind.i64.wrap (v19+1))) true).map (Be)).length) rfl (B2 _ (List.length_set ..))) ?_
         refine TL.conv (Cs.eqV (t:=80) (v':=.hd 1 ((l18.set (Int.toNat (IntKind.i64.wrap (v19+1))) true).map (Be)).length 0 ((l18.set (Int.toNat (IntKind.i64.wrap (v19+1))) true).map (Be)).length) rfl (B2 _ (List.length_set ..))) ?_
         refine TL.conv (Cs.eqV (t:=83) (v':=.el 1 ((l18.set (Int.toNat (IntKind.i64.wrap (v19+1))) true).map (Be)).length (Int.toNat (IntKind.i64.wrap (v19+1))) 0) rfl (Dv _ _ _ (List.length_set ..))) ?_
         refine au 5 ?_
         exact Pk.of (Af ⟨((l18.set (Int.toNat (IntKind.i64.wrap (v19+1))) true),(IntKind.i64.wrap (v19+1))),(Ad H).symm,rfl,rfl⟩)
        ·refine au 5 ?_
         exact Pk.of (Af ⟨(l18,(IntKind.i64.wrap (v19+1))),(Ad H).symm,rfl,rfl⟩)
     ·refine T.exit ?_
      refine Am ?_
      exact Pk.of (Am ⟨l18,(Ad H).symm,rfl,rfl,rfl⟩)
    ·rintro _ _ _ ⟨rfl,rfl,rfl⟩
     refine A6 ?_
     refine au 3 ?_
     refine TL.conv (Cs.wkF (M:=2) (.k 0 rfl rfl (.k 7 rfl rfl (.k 10 rfl rfl (.k 36 rfl rfl (.k 37 rfl rfl (.k 38 rfl rfl (.k 85 rfl rfl .nil)))))))) ?_
     refine TL.conv (Cs.reloc 0 1 rfl rfl (by decide) rfl rfl rfl (Bv rfl)) ?_
     refine TL.conv (Cs.wkF (M:=2) (.k 0 rfl rfl (.k 7 rfl rfl (.k 10 rfl rfl (.k 36 rfl rfl (.k 37 rfl rfl (.k 38 rfl rfl (.k 85 rfl rfl .nil)))))))) ?_
     refine TL.conv (Cs.eqS (σ':=[.arr .clo 1 (l20.map (Be)),.dead]) rfl) ?_
     refine au 5 ?_
     exact Pk.of (Af ⟨(l20,(IntKind.i64.wrap (v9+1))),(Ad H).symm,rfl,rfl⟩)
   ·refine T.exit ?_
    refine Am ?_
    exact Pk.of (Am ⟨l8,(Ad H).symm,rfl,rfl,rfl⟩)
  ·rintro _ _ _ ⟨rfl,rfl,rfl⟩
   refine A6 ?_
   refine au 5 ?_
   obtain⟨e11,h12,H⟩:=Ac H
   refine TL.st rfl rfl rfl (C2 (f:=Be) rfl rfl Cz rfl rfl rfl rfl h12 rfl) ?_
   refine TL.st rfl rfl rfl (Cx rfl Cz rfl rfl rfl (by rw[List.getElem?_map,(Ej h12).2];rfl) (nb rfl) rfl) ?_
   refine au 3 ?_
   cases Ad H
   exact⟨trivial,_,(.tmp _ _ _ _ rfl .nil),(.cl _ rfl)⟩
theorem en_122:En Tryz.prog 122:=.of Tryz.func122 rfl rfl
noncomputable def impl_DirSchema_yleaf_2(a0:ByteArray)(s0:Ar)(s1:Aa):Option Bool :=
  cond (s0.Syntax_==1) ((E6 a0).bind fun r1=>(E6 s1.Text_).bind fun r3=>(impl_Like r1 r3).bind fun r5=>some r5) ((impl_Like a0 s1.Text_).bind fun r7=>some r7)
theorem impl_DirSchema_yleaf_2_p {a0:ByteArray} {s0:Ar} {s1:Aa} {R0:Bool} (H:impl_DirSchema_yleaf_2 a0 s0 s1=some R0):St Tryz.prog 121 [.str a0,.bx 0 0,.bx 1 0] [.box (Ae false s0),.box (Ab false s1)] (.bool R0) [.box (Ae false s0),.box (Ab false s1)]:=by
 refine Ba.fin (Ba.of_TN (n:=18) Tryz.func121 rfl rfl rfl rfl ?_) rfl rfl ⟨(Bt.1 rfl),⟨(Bt.1 rfl),trivial⟩⟩
 refine au 11 ?_
 refine T.cH H ?_ ?_<;>intro H h
 ·refine T.seq ?_
  refine T.drawn rfl ?_
  refine TD.qs rfl rfl (fun _=>Bp rfl rfl) ?_
  obtain⟨r1,h2,H⟩:=Ac H
  refine TD.qs rfl rfl (fun _=>Aq rfl en_123 rfl rfl (.cons _ _ _ _ (.cl _ rfl) .nil) (MT.lib_123  h2)) ?_
  refine ad 2 ?_
  obtain⟨r3,h4,H⟩:=Ac H
  refine TD.qs rfl rfl (fun _=>Aq rfl en_123 rfl rfl (.cons _ _ _ _ (.cl _ rfl) .nil) (MT.lib_123  h4)) ?_
  obtain⟨r5,h6,H⟩:=Ac H
  refine TD.qs rfl rfl (fun _=>Aq rfl en_122 rfl rfl (.cons _ _ _ _ (.cl _ rfl) (.cons _ _ _ _ (.cl _ rfl) .nil)) (impl_Like_p  h6)) ?_
  refine TD.qs rfl rfl (fun _=>Dm rfl rfl) ?_
  refine TD.nil ⟨rfl,?_⟩
  refine T.ret ?_
  refine Aj ?_
  cases Ad H
  exact⟨trivial,_,(.tmp _ _ _ _ rfl .nil),⟨rfl,_,rfl⟩⟩
 ·refine au 6 ?_
  obtain⟨r7,h8,H⟩:=Ac H
  refine TL.st rfl rfl rfl (Aq rfl en_122 rfl rfl (.cons _ _ _ _ (.cl _ rfl) (.cons _ _ _ _ (.cl _ rfl) .nil)) (impl_Like_p  h8)) ?_
  refine au 3 ?_
  cases Ad H
  exact⟨trivial,_,(.tmp _ _ _ _ rfl .nil),⟨rfl,_,rfl⟩⟩
theorem en_121:En Tryz.prog 121:=.of Tryz.func121 rfl rfl
noncomputable def slices_IndexFuncx_l1(a0:(List ByteArray))(s0:Ar)(s1:Aa):Int→Option (Int⊕(Unit⊕Int)):=fun s=>match s with
  | v1=>cond (decide (v1<(a0.length:Int))) ((idx a0 v1).bind fun e4=>(impl_DirSchema_yleaf_2 e4 s0 s1).bind fun r6=>cond r6 (some (.inr (.inr v1))) (some (.inl (IntKind.i64.wrap (v1+1))))) (some (.inr (.inl ())))
noncomputable def slices_IndexFuncx(a0:(List ByteArray))(s0:Ar)(s1:Aa):Option Int :=
  (loopO (slices_IndexFuncx_l1 a0 s0 s1) 0).bind fun q8=>(match q8 with | .inl _=>some (-1) | .inr q2=>some q2)
theorem slices_IndexFuncx_p(b0:Bool){a0:(List ByteArray)}{s0:Ar}{s1:Aa}{R0:Int}(H:slices_IndexFuncx a0 s0 s1=some R0):St Tryz.prog 150 [.im b0 (a0.map (Aw)),.fn 121 [] [.bx 0 0,.bx 1 0]] [.box (Ae false s0),.box (Ab false s1)] (.int .i64 R0) [.box (Ae false s0),.box (Ab false s1)]:=by
 refine Ba.fin (Ba.of_TN (n:=19) Tryz.func150 rfl rfl rfl rfl ?_) rfl rfl ⟨(Bt.1 rfl),⟨(Bt.1 rfl),trivial⟩⟩
 refine au 8 ?_
 refine TL.st rfl rfl rfl (Bf (f:=Aw) rfl rfl rfl) ?_
 refine au 3 ?_
 obtain⟨q8,h9,H⟩:=Ac H
 refine T.lq (fun s=>match s with | v1=>[(0,.im b0 (a0.map (Aw))),(1,.fn 121 [] [.bx 0 0,.bx 1 0]),(7,.int .i64 (a0.length:Int)),(8,.int .i64 v1)]) (fun s=>match s with | v1=>[.box (Ae false s0),.box (Ab false s1)]) (fun q ex fr σ=>match q with | .inl _=>ex = .exit 0∧fr = []∧σ = [.box (Ae false s0),.box (Ab false s1)] | .inr q2=>ex = .ret∧C5 Tryz.prog [.tmp 4] (Fin [.box (Ae false s0),.box (Ab false s1)] (.int .i64 q2)) .ret fr σ) h9 ?_ ?_
 ·rintro v1 y3 H
  refine au 5 ?_
  refine T.cH H ?_ ?_<;>intro H h
  ·refine au 13 ?_
   obtain⟨e4,h5,H⟩:=Ac H
   refine TL.st rfl rfl rfl (B7 (f:=Aw) rfl rfl Bm rfl rfl h5 rfl) ?_
   refine TL.st rfl rfl rfl (Bx rfl Bm rfl (nb rfl) rfl) ?_
   obtain⟨r6,h7,H⟩:=Ac H
   refine TL.st rfl rfl rfl (Bn [0,1] rfl en_121 rfl rfl (impl_DirSchema_yleaf_2_p  h7) rfl (by decide) (.cons _ _ _ _ rfl (.cons _ _ _ _ rfl .nil)) rfl rfl rfl) ?_
   refine TL.nil ?_
   refine T.cH H ?_ ?_<;>intro H h
   ·refine au 6 ?_
    refine Av (Aj ?_)
    exact Pk.id (Aj ⟨.inr v1,(Ad H).symm,rfl,⟨trivial,_,(.tmp _ _ _ _ rfl .nil),⟨rfl,_,rfl⟩⟩⟩)
   ·refine au 5 ?_
    exact Pk.of (Af ⟨(IntKind.i64.wrap (v1+1)),(Ad H).symm,rfl,rfl⟩)
  ·refine T.exit ?_
   refine Am ?_
   exact Pk.of (Am ⟨.inl (),(Ad H).symm,rfl,rfl,rfl⟩)
 ·rcases q8 with ⟨⟩ | q2
  ·rintro _ _ _ ⟨rfl,rfl,rfl⟩
   refine A6 ?_
   refine au 5 ?_
   cases Ad H
   exact⟨trivial,_,(.tmp _ _ _ _ rfl .nil),⟨rfl,_,rfl⟩⟩
  ·rintro _ fr1 σ1 ⟨rfl,hr⟩
   refine Av (Aj ?_)
   cases Ad H
   exact hr
noncomputable def slices_ContainsFuncx(a0:(List ByteArray))(s0:Ar)(s1:Aa):Option Bool :=
  (slices_IndexFuncx a0 s0 s1).bind fun r1=>some (decide (r1≥0))
theorem slices_ContainsFuncx_p(b0:Bool){a0:(List ByteArray)}{s0:Ar}{s1:Aa}{R0:Bool}(H:slices_ContainsFuncx a0 s0 s1=some R0):St Tryz.prog 118 [.im b0 (a0.map (Aw)),.fn 121 [] [.bx 0 0,.bx 1 0]] [.box (Ae false s0),.box (Ab false s1)] (.bool R0) [.box (Ae false s0),.box (Ab false s1)]:=by
 refine Ba.fin (Ba.of_TN (n:=9) Tryz.func118 rfl rfl rfl rfl ?_) rfl rfl ⟨(Bt.1 rfl),⟨(Bt.1 rfl),trivial⟩⟩
 refine au 8 ?_
 obtain⟨r1,h2,H⟩:=Ac H
 refine TL.st rfl rfl rfl (Bn [0,1] rfl en_150 rfl rfl (slices_IndexFuncx_p b0 h2) rfl (by decide) (.cons _ _ _ _ rfl (.cons _ _ _ _ rfl .nil)) rfl rfl rfl) ?_
 refine au 4 ?_
 cases Ad H
 exact⟨trivial,_,(.tmp _ _ _ _ rfl .nil),⟨rfl,_,rfl⟩⟩
theorem en_125:En Tryz.prog 125:=.of Tryz.func125 rfl rfl
noncomputable def cmp_isNaN(a0:Int):Option Bool :=
  some (a0 != a0)
theorem cmp_isNaN_p {a0:Int} {R0:Bool} (H:cmp_isNaN a0=some R0):Bu Tryz.prog 154 [.int .i64 a0] (.bool R0):=by
 refine Ba.of_TN (n:=6) Tryz.func154 rfl rfl rfl rfl ?_
 refine au 12 ?_
 cases Ad H
 exact⟨trivial,_,(.tmp _ _ _ _ rfl .nil),(.cl _ rfl)⟩
theorem en_154:En Tryz.prog 154:=.of Tryz.func154 rfl rfl
noncomputable def cmp_Compare(a0:Int)(a1:Int):Option Int :=
  (cmp_isNaN a0).bind fun r1=>(cmp_isNaN a1).bind fun r3=>cond r1 (cond r3 (some 0) (some (-1))) (cond r3 (some 1) (cond (decide (a0<a1)) (some (-1)) (cond (decide (a0 > a1)) (some 1) (some 0))))
theorem cmp_Compare_p {a0:Int} {a1:Int} {R0:Int} (H:cmp_Compare a0 a1=some R0):Bu Tryz.prog 127 [.int .i64 a0,.int .i64 a1] (.int .i64 R0):=by
 refine Ba.of_TN (n:=20) Tryz.func127 rfl rfl rfl rfl ?_
 refine au 7 ?_
 obtain⟨r1,h2,H⟩:=Ac H
 refine TL.st rfl rfl rfl (Aq rfl en_154 rfl rfl (.cons _ _ _ _ (.cl _ rfl) .nil) (cmp_isNaN_p  h2)) ?_
 refine au 5 ?_
 obtain⟨r3,h4,H⟩:=Ac H
 refine TL.st rfl rfl rfl (Aq rfl en_154 rfl rfl (.cons _ _ _ _ (.cl _ rfl) .nil) (cmp_isNaN_p  h4)) ?_
 refine au 7 ?_
 refine T.cH H ?_ ?_<;>intro H h
 ·refine au 5 ?_
  refine T.cH H ?_ ?_<;>intro H h
  ·refine au 5 ?_
   refine Aj (Aj ?_)
   cases Ad H
   exact⟨trivial,_,(.tmp _ _ _ _ rfl .nil),(.cl _ rfl)⟩
  ·refine au 6 ?_
   refine Aj ?_
   cases Ad H
   exact⟨trivial,_,(.tmp _ _ _ _ rfl .nil),(.cl _ rfl)⟩
 ·refine au 6 ?_
  refine T.cH H ?_ ?_<;>intro H h
  ·refine au 5 ?_
   refine Aj ?_
   cases Ad H
   exact⟨trivial,_,(.tmp _ _ _ _ rfl .nil),(.cl _ rfl)⟩
  ·refine au 8 ?_
   refine T.cH H ?_ ?_<;>intro H h
   ·refine au 5 ?_
    refine Aj ?_
    cases Ad H
    exact⟨trivial,_,(.tmp _ _ _ _ rfl .nil),(.cl _ rfl)⟩
   ·refine au 8 ?_
    refine T.cH H ?_ ?_<;>intro H h
    ·refine au 5 ?_
     refine Aj ?_
     cases Ad H
     exact⟨trivial,_,(.tmp _ _ _ _ rfl .nil),(.cl _ rfl)⟩
    ·refine au 6 ?_
     cases Ad H
     exact⟨trivial,_,(.tmp _ _ _ _ rfl .nil),(.cl _ rfl)⟩
theorem en_127:En Tryz.prog 127:=.of Tryz.func127 rfl rfl
noncomputable def impl_DirSchema_yleaf_3_j1(s0:Aa)(v3:Int):Option Bool :=
  some (((s0.Kind_==5)&&decide (v3≥0))||((s0.Kind_==6)&&decide (v3≤0)))
noncomputable def impl_DirSchema_yleaf_3(a0:ByteArray)(s0:Aa)(s1:Ar):Option Bool :=
  (compareO a0 s0.Text_).bind fun r1=>cond (s1.Syntax_==1) ((E6 a0).bind fun r4=>(E6 s0.Text_).bind fun r6=>(compareO r4 r6).bind fun r8=>impl_DirSchema_yleaf_3_j1 s0 r8) (cond (s1.Syntax_==3) ((wholeO a0).bind fun q=>(match q with | (r10,r11)=>(wholeO s0.Text_).bind fun q=>(match q with | (r13,r14)=>cond (!r11) (some false) ((cmp_Compare r10 r13).bind fun r16=>impl_DirSchema_yleaf_3_j1 s0 r16)))) (impl_DirSchema_yleaf_3_j1 s0 r1))
theorem impl_DirSchema_yleaf_3_p {a0:ByteArray} {s0:Aa} {s1:Ar} {R0:Bool} (H:impl_DirSchema_yleaf_3 a0 s0 s1=some R0):St Tryz.prog 124 [.str a0,.bx 0 0,.bx 1 0] [.box (Ab false s0),.box (Ae false s1)] (.bool R0) [.box (Ab false s0),.box (Ae false s1)]:=by
 refine Ba.fin (Ba.of_TN (n:=58) Tryz.func124 rfl rfl rfl rfl ?_) rfl rfl ⟨(Bt.1 rfl),⟨(Bt.1 rfl),trivial⟩⟩
 refine au 9 ?_
 obtain⟨r1,h2,H⟩:=Ac H
 refine TL.st rfl rfl rfl (Aq rfl en_125 rfl rfl (.cons _ _ _ _ (.cl _ rfl) (.cons _ _ _ _ (.cl _ rfl) .nil)) (MT.lib_125  h2)) ?_
 refine au 2 ?_
 refine T.cut (fun fr' σ'=>∃ (v3:Int),fr' = [(1,.bx 0 0),(5,.int .i64 v3)]∧σ' = [.box (Ab false s0),.box (Ae false s1)]∧impl_DirSchema_yleaf_3_j1 s0 v3=some R0) (T.pk ?_) ?_
 ·skip
  refine au 11 ?_
  refine T.cH H ?_ ?_<;>intro H h
  ·refine T.drawn rfl ?_
   refine TD.qs rfl rfl (fun _=>Bp rfl rfl) ?_
   obtain⟨r4,h5,H⟩:=Ac H
   refine TD.qs rfl rfl (fun _=>Aq rfl en_123 rfl rfl (.cons _ _ _ _ (.cl _ rfl) .nil) (MT.lib_123  h5)) ?_
   refine ad 2 ?_
   obtain⟨r6,h7,H⟩:=Ac H
   refine TD.qs rfl rfl (fun _=>Aq rfl en_123 rfl rfl (.cons _ _ _ _ (.cl _ rfl) .nil) (MT.lib_123  h7)) ?_
   obtain⟨r8,h9,H⟩:=Ac H
   refine TD.qs rfl rfl (fun _=>Aq rfl en_125 rfl rfl (.cons _ _ _ _ (.cl _ rfl) (.cons _ _ _ _ (.cl _ rfl) .nil)) (MT.lib_125  h9)) ?_
   refine TD.qs rfl rfl (fun _=>Dm rfl rfl) ?_
   refine TD.nil ⟨rfl,?_⟩
   refine Bh ?_
   exact Pk.of (Af ⟨r8,rfl,rfl,H⟩)
  ·refine au 5 ?_
   refine T.cH H ?_ ?_<;>intro H h
   ·refine au 3 ?_
    obtain⟨⟨r10,r11⟩,h12,H⟩:=Ac H
    refine TL.st rfl rfl rfl (Aq rfl en_126 rfl rfl (.cons _ _ _ _ (.cl _ rfl) .nil) (MT.lib_126  h12)) ?_
    refine au 10 ?_
    obtain⟨⟨r13,r14⟩,h15,H⟩:=Ac H
    refine TL.st rfl rfl rfl (Aq rfl en_126 rfl rfl (.cons _ _ _ _ (.cl _ rfl) .nil) (MT.lib_126  h15)) ?_
    refine au 12 ?_
    refine T.cH H ?_ ?_<;>intro H h
    ·refine au 5 ?_
     refine Aj (Av ?_)
     refine Pk.id (Aj ?_)
     cases Ad H
     exact⟨trivial,_,(.tmp _ _ _ _ rfl .nil),⟨rfl,_,rfl⟩⟩
    ·refine au 4 ?_
     obtain⟨r16,h17,H⟩:=Ac H
     refine TL.st rfl rfl rfl (Aq rfl en_127 rfl rfl (.cons _ _ _ _ (.cl _ rfl) (.cons _ _ _ _ (.cl _ rfl) .nil)) (cmp_Compare_p  h17)) ?_
     refine au 2 ?_
     refine Bh ?_
     exact Pk.of (Af ⟨r16,rfl,rfl,H⟩)
   ·refine T.skip ?_
    refine Bh ?_
    exact Pk.of (Af ⟨r1,rfl,rfl,H⟩)
 ·rintro _ _ ⟨v3,rfl,rfl,H⟩
  refine au 13 ?_
  refine TL.gcq rfl rfl rfl (.bool _) rfl rfl (fun h=>Bp rfl (gv h rfl)) ?_
  refine TL.gcq rfl rfl rfl (.gd _ _) rfl rfl (fun h=>Bp rfl rfl) ?_
  refine TL.gcq rfl rfl rfl (.gd _ _) rfl rfl (fun h=>B3 rfl (gv h rfl) rfl rfl) ?_
  refine TL.gcq rfl rfl rfl (.bool _) rfl rfl (fun h=>Eq rfl (gv h rfl) rfl (fun k=>Ed (andi h k)) rfl) ?_
  refine au 4 ?_
  cases Ad H
  exact⟨trivial,_,(.tmp _ _ _ _ rfl .nil),⟨rfl,_,rfl⟩⟩
theorem en_124:En Tryz.prog 124:=.of Tryz.func124 rfl rfl
noncomputable def slices_IndexFuncxx_l1(a0:(List ByteArray))(s0:Aa)(s1:Ar):Int→Option (Int⊕(Unit⊕Int)):=fun s=>match s with
  | v1=>cond (decide (v1<(a0.length:Int))) ((idx a0 v1).bind fun e4=>(impl_DirSchema_yleaf_3 e4 s0 s1).bind fun r6=>cond r6 (some (.inr (.inr v1))) (some (.inl (IntKind.i64.wrap (v1+1))))) (some (.inr (.inl ())))
noncomputable def slices_IndexFuncxx(a0:(List ByteArray))(s0:Aa)(s1:Ar):Option Int :=
  (loopO (slices_IndexFuncxx_l1 a0 s0 s1) 0).bind fun q8=>(match q8 with | .inl _=>some (-1) | .inr q2=>some q2)
theorem slices_IndexFuncxx_p(b0:Bool){a0:(List ByteArray)}{s0:Aa}{s1:Ar}{R0:Int}(H:slices_IndexFuncxx a0 s0 s1=some R0):St Tryz.prog 150 [.im b0 (a0.map (Aw)),.fn 124 [] [.bx 0 0,.bx 1 0]] [.box (Ab false s0),.box (Ae false s1)] (.int .i64 R0) [.box (Ab false s0),.box (Ae false s1)]:=by
 refine Ba.fin (Ba.of_TN (n:=19) Tryz.func150 rfl rfl rfl rfl ?_) rfl rfl ⟨(Bt.1 rfl),⟨(Bt.1 rfl),trivial⟩⟩
 refine au 8 ?_
 refine TL.st rfl rfl rfl (Bf (f:=Aw) rfl rfl rfl) ?_
 refine au 3 ?_
 obtain⟨q8,h9,H⟩:=Ac H
 refine T.lq (fun s=>match s with | v1=>[(0,.im b0 (a0.map (Aw))),(1,.fn 124 [] [.bx 0 0,.bx 1 0]),(7,.int .i64 (a0.length:Int)),(8,.int .i64 v1)]) (fun s=>match s with | v1=>[.box (Ab false s0),.box (Ae false s1)]) (fun q ex fr σ=>match q with | .inl _=>ex = .exit 0∧fr = []∧σ = [.box (Ab false s0),.box (Ae false s1)] | .inr q2=>ex = .ret∧C5 Tryz.prog [.tmp 4] (Fin [.box (Ab false s0),.box (Ae false s1)] (.int .i64 q2)) .ret fr σ) h9 ?_ ?_
 ·rintro v1 y3 H
  refine au 5 ?_
  refine T.cH H ?_ ?_<;>intro H h
  ·refine au 13 ?_
   obtain⟨e4,h5,H⟩:=Ac H
   refine TL.st rfl rfl rfl (B7 (f:=Aw) rfl rfl Bm rfl rfl h5 rfl) ?_
   refine TL.st rfl rfl rfl (Bx rfl Bm rfl (nb rfl) rfl) ?_
   obtain⟨r6,h7,H⟩:=Ac H
   refine TL.st rfl rfl rfl (Bn [0,1] rfl en_124 rfl rfl (impl_DirSchema_yleaf_3_p  h7) rfl (by decide) (.cons _ _ _ _ rfl (.cons _ _ _ _ rfl .nil)) rfl rfl rfl) ?_
   refine TL.nil ?_
   refine T.cH H ?_ ?_<;>intro H h
   ·refine au 6 ?_
    refine Av (Aj ?_)
    exact Pk.id (Aj ⟨.inr v1,(Ad H).symm,rfl,⟨trivial,_,(.tmp _ _ _ _ rfl .nil),⟨rfl,_,rfl⟩⟩⟩)
   ·refine au 5 ?_
    exact Pk.of (Af ⟨(IntKind.i64.wrap (v1+1)),(Ad H).symm,rfl,rfl⟩)
  ·refine T.exit ?_
   refine Am ?_
   exact Pk.of (Am ⟨.inl (),(Ad H).symm,rfl,rfl,rfl⟩)
 ·rcases q8 with ⟨⟩ | q2
  ·rintro _ _ _ ⟨rfl,rfl,rfl⟩
   refine A6 ?_
   refine au 5 ?_
   cases Ad H
   exact⟨trivial,_,(.tmp _ _ _ _ rfl .nil),⟨rfl,_,rfl⟩⟩
  ·rintro _ fr1 σ1 ⟨rfl,hr⟩
   refine Av (Aj ?_)
   cases Ad H
   exact hr
noncomputable def slices_ContainsFuncxx(a0:(List ByteArray))(s0:Aa)(s1:Ar):Option Bool :=
  (slices_IndexFuncxx a0 s0 s1).bind fun r1=>some (decide (r1≥0))
theorem slices_ContainsFuncxx_p(b0:Bool){a0:(List ByteArray)}{s0:Aa}{s1:Ar}{R0:Bool}(H:slices_ContainsFuncxx a0 s0 s1=some R0):St Tryz.prog 118 [.im b0 (a0.map (Aw)),.fn 124 [] [.bx 0 0,.bx 1 0]] [.box (Ab false s0),.box (Ae false s1)] (.bool R0) [.box (Ab false s0),.box (Ae false s1)]:=by
 refine Ba.fin (Ba.of_TN (n:=9) Tryz.func118 rfl rfl rfl rfl ?_) rfl rfl ⟨(Bt.1 rfl),⟨(Bt.1 rfl),trivial⟩⟩
 refine au 8 ?_
 obtain⟨r1,h2,H⟩:=Ac H
 refine TL.st rfl rfl rfl (Bn [0,1] rfl en_150 rfl rfl (slices_IndexFuncxx_p b0 h2) rfl (by decide) (.cons _ _ _ _ rfl (.cons _ _ _ _ rfl .nil)) rfl rfl rfl) ?_
 refine au 4 ?_
 cases Ad H
 exact⟨trivial,_,(.tmp _ _ _ _ rfl .nil),⟨rfl,_,rfl⟩⟩
noncomputable def impl_DirSchema_yleaf(a0:Ah)(a1:Ay)(a2:Aa):Option Int :=
  (impl_DirSchema_yattrType a0 a2.Attr_).bind fun q=>(match q with | (r1,r2)=>cond (!r2) (some 2) ((impl_Entry_yvalues a1 a2.Attr_).bind fun r4=>cond (a2.Kind_==7) ((impl_ysure (decide ((r4.length:Int) > 0))).bind fun r6=>some r6) (cond (a2.Kind_==4) ((impl_yofSyntax r1.Syntax_ a2.Text_).bind fun r8=>cond (!r8) (some 2) ((slices_ContainsFunc r4 r1 a2).bind fun r10=>(impl_ysure r10).bind fun r12=>some r12)) (cond (a2.Kind_==8) (cond ((r1.Syntax_==3)||(r1.Syntax_==4)) (some 2) ((slices_ContainsFuncx r4 r1 a2).bind fun r14=>(impl_ysure r14).bind fun r16=>some r16)) ((gdO (!(r1.Syntax_==4)) (impl_yofSyntax r1.Syntax_ a2.Text_)).bind fun r18=>cond ((r1.Syntax_==4)||(!r18)) (some 2) ((slices_ContainsFuncxx r4 a2 r1).bind fun r20=>(impl_ysure r20).bind fun r22=>some r22))))))
theorem impl_DirSchema_yleaf_p(b0:Bool)(b1:Bool){a0:Ah}{a1:Ay}{a2:Aa}{R0:Int}(H:impl_DirSchema_yleaf a0 a1 a2=some R0):Bu Tryz.prog 76 [.agg (At b0 a0),.agg (An b1 a1),.agg (Ab false a2)] (.int .i64 R0):=by
 refine Ba.of_TN (n:=72) Tryz.func76 rfl rfl rfl rfl ?_
 refine au 8 ?_
 refine T.conv (Cs.eqS (σ':=[.box (At b0 a0),.box (An b1 a1),.box (Ab false a2)]) rfl) ?_
 refine au 4 ?_
 obtain⟨⟨r1,r2⟩,h3,H⟩:=Ac H
 refine TL.st rfl rfl rfl (Aq rfl en_68 rfl rfl (.cons _ _ _ _ (Lent.aggL (.cons _ _ _ _ (.imv _ _) (.cons _ _ _ _ (.imv _ _) .nil))) (.cons _ _ _ _ (.cl _ rfl) .nil)) (impl_DirSchema_yattrType_p b0 h3)) ?_
 refine au 13 ?_
 refine T.cH H ?_ ?_<;>intro H h
 ·refine au 5 ?_
  refine Aj ?_
  cases Ad H
  exact⟨trivial,_,(.tmp _ _ _ _ rfl .nil),(.cl _ rfl)⟩
 ·refine au 6 ?_
  obtain⟨r4,h5,H⟩:=Ac H
  refine TL.st rfl rfl rfl (Aq rfl en_46 rfl rfl (.cons _ _ _ _ (Lent.aggL (.cons _ _ _ _ (.imv _ _) (.cons _ _ _ _ (.imv _ _) .nil))) (.cons _ _ _ _ (.cl _ rfl) .nil)) (impl_Entry_yvalues_p b1 h5)) ?_
  refine au 14 ?_
  refine T.cH H ?_ ?_<;>intro H h
  ·refine au 3 ?_
   refine TL.st rfl rfl rfl (Bf (f:=Aw) rfl rfl rfl) ?_
   refine TL.st rfl rfl rfl (B3 rfl rfl rfl rfl) ?_
   obtain⟨r6,h7,H⟩:=Ac H
   refine TL.st rfl rfl rfl (Aq rfl en_77 rfl rfl (.cons _ _ _ _ (.cl _ rfl) .nil) (impl_ysure_p  h7)) ?_
   refine au 3 ?_
   refine Av (Aj ?_)
   cases Ad H
   exact⟨trivial,_,(.tmp _ _ _ _ rfl .nil),(.cl _ rfl)⟩
  ·refine au 5 ?_
   refine T.cH H ?_ ?_<;>intro H h
   ·refine au 7 ?_
    obtain⟨r8,h9,H⟩:=Ac H
    refine TL.st rfl rfl rfl (Aq rfl en_117 rfl rfl (.cons _ _ _ _ (.cl _ rfl) (.cons _ _ _ _ (.cl _ rfl) .nil)) (impl_yofSyntax_p  h9)) ?_
    refine au 2 ?_
    refine T.cH H ?_ ?_<;>intro H h
    ·refine au 5 ?_
     refine Aj (Av (Aj ?_))
     cases Ad H
     exact⟨trivial,_,(.tmp _ _ _ _ rfl .nil),(.cl _ rfl)⟩
    ·refine au 4 ?_
     refine TL.st rfl rfl rfl (o_makeFunc rfl rfl rfl) ?_
     obtain⟨r10,h11,H⟩:=Ac H
     refine TL.st rfl rfl rfl (Bn [3,2] rfl en_118 rfl rfl (slices_ContainsFunc_p false h11) rfl (by decide) (.cons _ _ _ _ rfl (.cons _ _ _ _ rfl .nil)) rfl rfl rfl) ?_
     obtain⟨r12,h13,H⟩:=Ac H
     refine TL.st rfl rfl rfl (Aq rfl en_77 rfl rfl (.cons _ _ _ _ (.cl _ rfl) .nil) (impl_ysure_p  h13)) ?_
     refine au 2 ?_
     refine T.conv (Cs.eqS (σ':=[_,_,_,.box (Ae false r1)]) rfl) ?_
     refine T.ret ?_
     refine Av (Aj ?_)
     cases Ad H
     exact⟨trivial,_,(.tmp _ _ _ _ rfl .nil),(.cl _ rfl)⟩
   ·refine au 5 ?_
    refine T.cH H ?_ ?_<;>intro H h
    ·refine au 12 ?_
     refine T.cH H ?_ ?_<;>intro H h
     ·refine au 5 ?_
      refine Aj (Av (Aj ?_))
      cases Ad H
      exact⟨trivial,_,(.tmp _ _ _ _ rfl .nil),(.cl _ rfl)⟩
     ·refine au 4 ?_
      refine TL.st rfl rfl rfl (o_makeFunc rfl rfl rfl) ?_
      obtain⟨r14,h15,H⟩:=Ac H
      refine TL.st rfl rfl rfl (Bn [3,2] rfl en_118 rfl rfl (slices_ContainsFuncx_p false h15) rfl (by decide) (.cons _ _ _ _ rfl (.cons _ _ _ _ rfl .nil)) rfl rfl rfl) ?_
      obtain⟨r16,h17,H⟩:=Ac H
      refine TL.st rfl rfl rfl (Aq rfl en_77 rfl rfl (.cons _ _ _ _ (.cl _ rfl) .nil) (impl_ysure_p  h17)) ?_
      refine au 2 ?_
      refine T.conv (Cs.eqS (σ':=[_,_,_,.box (Ae false r1)]) rfl) ?_
      refine T.ret ?_
      refine Av (Aj ?_)
      cases Ad H
      exact⟨trivial,_,(.tmp _ _ _ _ rfl .nil),(.cl _ rfl)⟩
    ·refine au 12 ?_
     obtain⟨r18,h19,H⟩:=Ac H
     refine TL.gcq rfl rfl rfl (.bool _) rfl rfl (fun h=>Aq rfl en_117 rfl (E5 (gv h rfl) (gv h rfl)) (.cons _ _ _ _ (.cl _ rfl) (.cons _ _ _ _ (.cl _ rfl) .nil)) (impl_yofSyntax_p  (Bq h19 h))) ?_
     refine au 3 ?_
     refine T.cH H ?_ ?_<;>intro H h
     ·refine au 5 ?_
      refine Aj ?_
      cases Ad H
      exact⟨trivial,_,(.tmp _ _ _ _ rfl .nil),(.cl _ rfl)⟩
     ·refine au 4 ?_
      refine TL.st rfl rfl rfl (o_makeFunc rfl rfl rfl) ?_
      obtain⟨r20,h21,H⟩:=Ac H
      refine TL.st rfl rfl rfl (Bn [2,3] rfl en_118 rfl rfl (slices_ContainsFuncxx_p false h21) rfl (by decide) (.cons _ _ _ _ rfl (.cons _ _ _ _ rfl .nil)) rfl rfl rfl) ?_
      obtain⟨r22,h23,H⟩:=Ac H
      refine TL.st rfl rfl rfl (Aq rfl en_77 rfl rfl (.cons _ _ _ _ (.cl _ rfl) .nil) (impl_ysure_p  h23)) ?_
      refine au 2 ?_
      refine T.conv (Cs.eqS (σ':=[_,_,_,.box (Ae false r1)]) rfl) ?_
      refine T.ret ?_
      cases Ad H
      exact⟨trivial,_,(.tmp _ _ _ _ rfl .nil),(.cl _ rfl)⟩
theorem en_76:En Tryz.prog 76:=.of Tryz.func76 rfl rfl
theorem en_33:En Tryz.prog 33:=.of Tryz.func33 rfl rfl
noncomputable def impl_DirSchema_ymeets_l1(a0:Ah)(a1:Ay)(a2:(List Aa))(rec_impl_DirSchema_ymeets:(Ah×Ay×(List Aa)×Int)→Option (Int×Int))(e1:Aa):((List Bool)×Int×Int)→Option (((List Bool)×Int×Int)⊕((List Bool)×Int)):=fun s=>match s with
  | (b5,v6,v7)=>cond (decide (v7<e1.Kids_)) ((rec_impl_DirSchema_ymeets (a0,a1,a2,v6)).bind fun q=>(match q with | (r23,r24)=>(ixA 3 b5 r23).bind fun e26=>some (.inl ((b5.set (Int.toNat r23) true),r24,(IntKind.i64.wrap (v7+1)))))) (some (.inr (b5,v6)))
noncomputable def impl_DirSchema_ymeets_b(rec_impl_DirSchema_ymeets:(Ah×Ay×(List Aa)×Int)→Option (Int×Int))(a0:Ah)(a1:Ay)(a2:(List Aa))(a3:Int):Option (Int×Int) :=
  (idx a2 a3).bind fun e1=>cond (decide (e1.Kind_ > 3)) ((impl_DirSchema_yleaf a0 a1 e1).bind fun r3=>some (r3,(IntKind.i64.wrap (a3+1)))) ((loopO (impl_DirSchema_ymeets_l1 a0 a1 a2 rec_impl_DirSchema_ymeets e1) (([false,false,false]:List Bool),(IntKind.i64.wrap (a3+1)),0)).bind fun q28=>(match q28 with | (b8,v9)=>(gdO (e1.Kind_==3) (ixA 3 b8 1)).bind fun e10=>cond ((e1.Kind_==3)&&e10) (some (0,v9)) ((gdO (e1.Kind_==3) (ixA 3 b8 0)).bind fun e12=>cond ((e1.Kind_==3)&&e12) (some (1,v9)) (cond (e1.Kind_==3) (some (2,v9)) ((gdO (e1.Kind_==1) (ixA 3 b8 0)).bind fun e14=>cond ((e1.Kind_==1)&&e14) (some (0,v9)) ((gdO (e1.Kind_==2) (ixA 3 b8 1)).bind fun e16=>cond ((e1.Kind_==2)&&e16) (some (1,v9)) ((ixA 3 b8 2).bind fun e18=>cond e18 (some (2,v9)) ((impl_ysure (e1.Kind_==1)).bind fun r20=>some (r20,v9)))))))))
noncomputable def impl_DirSchema_ymeets(a0:Ah)(a1:Ay)(a2:(List Aa))(a3:Int):Option (Int×Int):=fixO (fun rec_impl_DirSchema_ymeets x=>match x with | (a0,a1,a2,a3)=>impl_DirSchema_ymeets_b rec_impl_DirSchema_ymeets a0 a1 a2 a3) (a0,a1,a2,a3)
theorem impl_DirSchema_ymeets_pb {rec_impl_DirSchema_ymeets : (         Ah ×      Ay × (List           Aa) × Int) → Option (Int × Int)} (Hrec_impl_DirSchema_ymeets : ∀ (b0 : Bool) (b1 : Bool) (b2 : Bool) {a0 :          Ah} {a1 :      Ay} {a2 : (List           Aa)} {a3 : Int} {R0 : Int} {R1 : Int}, rec_impl_DirSchema_ymeets (a0, a1, a2, a3) = some (R0, R1) →   Bu Tryz.prog 33 [.agg (           At b0 a0), .agg (       An b1 a1), .im b2 (a2.map (            Ab false)), .int .i64 a3] (.tup [.int .i64 R0, .int .i64 R1])) (b0 : Bool) (b1 : Bool) (b2 : Bool) {a0 :          Ah} {a1 :      Ay} {a2 : (List           Aa)} {a3 : Int} {R0 : Int} {R1 : Int} (H : impl_DirSchema_ymeets_b rec_impl_DirSchema_ymeets a0 a1 a2 a3 = some (R0, R1)) :   Bu Tryz.prog 33 [.agg (           At b0 a0), .agg (       An b1 a1), .im b2 (a2.map (            Ab false)), .int .i64 a3] (.tup [.int .i64 R0, .int .i64 R1]) := by
 refine Ba.of_TN (n:=93) Tryz.func33 rfl rfl rfl rfl ?_
 refine au 11 ?_
 obtain⟨e1,h2,H⟩:=Ac H
 refine TL.st rfl rfl rfl (B7 (f:=Ab false) rfl rfl C4 rfl rfl h2 rfl) ?_
 refine au 6 ?_
 refine T.conv (Cs.eqS (σ':=[.box (At b0 a0),.box (An b1 a1),.box (Ab false e1)]) rfl) ?_
 refine au 5 ?_
 refine T.cH H ?_ ?_<;>intro H h
 ·refine au 5 ?_
  obtain⟨r3,h4,H⟩:=Ac H
  refine TL.st rfl rfl rfl (Aq rfl en_76 rfl rfl (.cons _ _ _ _ (Lent.aggL (.cons _ _ _ _ (.imv _ _) (.cons _ _ _ _ (.imv _ _) .nil))) (.cons _ _ _ _ (Lent.aggL (.cons _ _ _ _ (.imv _ _) (.cons _ _ _ _ (.imv _ _) .nil))) (.cons _ _ _ _ (.cl _ rfl) .nil))) (impl_DirSchema_yleaf_p b0 b1 h4)) ?_
  refine au 6 ?_
  refine Aj ?_
  cases Ad H
  exact⟨trivial,_,(.tmp _ _ _ _ rfl (.tmp _ _ _ _ rfl .nil)),(.tupL (.cons _ _ _ _ (.cl _ rfl) (.cons _ _ _ _ (.cl _ rfl) .nil)))⟩
 ·refine au 19 ?_
  obtain⟨q28,h29,H⟩:=Ac H
  refine T.lq (fun s=>match s with | (b5,v6,v7)=>[(2,.im b2 (a2.map (Ab false))),(3,.int .i64 v6),(4,.bx 0 0),(5,.bx 1 0),(10,.bx 2 0),(11,.bx 3 0),(29,.int .i64 e1.Kids_),(30,.int .i64 v7)]) (fun s=>match s with | (b5,v6,v7)=>[.box (At b0 a0),.box (An b1 a1),.box (Ab false e1),.box (b5.map (V.bool))]) (fun q ex fr σ=>match q with | (b8,v9)=>ex = .exit 0∧fr = [(3,.int .i64 v9),(10,.bx 2 0),(11,.bx 3 0)]∧σ = [.box (At b0 a0),.box (An b1 a1),.box (Ab false e1),.box (b8.map (V.bool))]) h29 ?_ ?_
  ·rintro⟨b5,v6,v7⟩ y22 H
   refine au 5 ?_
   refine T.cH H ?_ ?_<;>intro H h
   ·refine au 13 ?_
    obtain⟨⟨r23,r24⟩,h25,H⟩:=Ac H
    refine TL.st rfl rfl rfl (Aq rfl en_33 rfl rfl (.cons _ _ _ _ (Lent.aggL (.cons _ _ _ _ (.imv _ _) (.cons _ _ _ _ (.imv _ _) .nil))) (.cons _ _ _ _ (Lent.aggL (.cons _ _ _ _ (.imv _ _) (.cons _ _ _ _ (.imv _ _) .nil))) (.cons _ _ _ _ (.imv _ _) (.cons _ _ _ _ (.cl _ rfl) .nil)))) (Hrec_impl_DirSchema_ymeets b0 b1 b2 h25)) ?_
    refine au 8 ?_
    obtain⟨e26,h27,H⟩:=Ac H
    refine TL.st rfl rfl rfl (o_ixA (f:=V.bool) (xs:=b5) rfl rfl Cz rfl rfl rfl h27 (by decide)) ?_
    refine TL.sn rfl rfl (o_stA (f:=V.bool) (xs:=b5) (a:=e26) (b:=true) rfl Cz rfl rfl rfl h27 rfl rfl) ?_
    refine au 5 ?_
    exact Pk.of (Af ⟨((b5.set (Int.toNat r23) true),r24,(IntKind.i64.wrap (v7+1))),(Ad H).symm,rfl,rfl⟩)
   ·refine T.exit ?_
    refine Am ?_
    exact Pk.of (Am ⟨(b5,v6),(Ad H).symm,rfl,rfl,rfl⟩)
  ·rcases q28 with ⟨b8,v9⟩
   rintro _ _ _ ⟨rfl,rfl,rfl⟩
   refine A6 ?_
   refine au 8 ?_
   obtain⟨e10,h11,H⟩:=Ac H
   refine TL.gcq rfl rfl rfl (.bool _) rfl rfl (fun h=>o_ixA (f:=V.bool) (xs:=b8) rfl rfl Cz rfl rfl rfl (Bq h11 h) (by decide)) ?_
   refine TL.gcq rfl rfl rfl (.bool _) rfl rfl (fun h=>o_ldA (f:=V.bool) (xs:=b8) (a:=e10) rfl Cz (gv h rfl) rfl (Bq h11 h)) ?_
   refine au 3 ?_
   refine T.cH H ?_ ?_<;>intro H h
   ·refine au 7 ?_
    refine Av (Aj ?_)
    cases Ad H
    exact⟨trivial,_,(.tmp _ _ _ _ rfl (.tmp _ _ _ _ rfl .nil)),(.tupL (.cons _ _ _ _ (.cl _ rfl) (.cons _ _ _ _ (.cl _ rfl) .nil)))⟩
   ·refine au 6 ?_
    obtain⟨e12,h13,H⟩:=Ac H
    refine TL.gcq rfl rfl rfl (.bool _) rfl rfl (fun h=>o_ixA (f:=V.bool) (xs:=b8) rfl rfl Cz rfl rfl rfl (Bq h13 h) (by decide)) ?_
    refine TL.gcq rfl rfl rfl (.bool _) rfl rfl (fun h=>o_ldA (f:=V.bool) (xs:=b8) (a:=e12) rfl Cz (gv h rfl) rfl (Bq h13 h)) ?_
    refine au 3 ?_
    refine T.cH H ?_ ?_<;>intro H h
    ·refine au 7 ?_
     refine Av (Aj ?_)
     cases Ad H
     exact⟨trivial,_,(.tmp _ _ _ _ rfl (.tmp _ _ _ _ rfl .nil)),(.tupL (.cons _ _ _ _ (.cl _ rfl) (.cons _ _ _ _ (.cl _ rfl) .nil)))⟩
    ·refine au 7 ?_
     refine T.cH H ?_ ?_<;>intro H h
     ·refine au 7 ?_
      refine Av (Aj ?_)
      cases Ad H
      exact⟨trivial,_,(.tmp _ _ _ _ rfl (.tmp _ _ _ _ rfl .nil)),(.tupL (.cons _ _ _ _ (.cl _ rfl) (.cons _ _ _ _ (.cl _ rfl) .nil)))⟩
     ·refine au 6 ?_
      obtain⟨e14,h15,H⟩:=Ac H
      refine TL.gcq rfl rfl rfl (.bool _) rfl rfl (fun h=>o_ixA (f:=V.bool) (xs:=b8) rfl rfl Cz rfl rfl rfl (Bq h15 h) (by decide)) ?_
      refine TL.gcq rfl rfl rfl (.bool _) rfl rfl (fun h=>o_ldA (f:=V.bool) (xs:=b8) (a:=e14) rfl Cz (gv h rfl) rfl (Bq h15 h)) ?_
      refine au 3 ?_
      refine T.cH H ?_ ?_<;>intro H h
      ·refine au 7 ?_
       refine Av (Aj ?_)
       cases Ad H
       exact⟨trivial,_,(.tmp _ _ _ _ rfl (.tmp _ _ _ _ rfl .nil)),(.tupL (.cons _ _ _ _ (.cl _ rfl) (.cons _ _ _ _ (.cl _ rfl) .nil)))⟩
      ·refine au 6 ?_
       obtain⟨e16,h17,H⟩:=Ac H
       refine TL.gcq rfl rfl rfl (.bool _) rfl rfl (fun h=>o_ixA (f:=V.bool) (xs:=b8) rfl rfl Cz rfl rfl rfl (Bq h17 h) (by decide)) ?_
       refine TL.gcq rfl rfl rfl (.bool _) rfl rfl (fun h=>o_ldA (f:=V.bool) (xs:=b8) (a:=e16) rfl Cz (gv h rfl) rfl (Bq h17 h)) ?_
       refine au 3 ?_
       refine T.cH H ?_ ?_<;>intro H h
       ·refine au 7 ?_
        refine Av (Aj ?_)
        cases Ad H
        exact⟨trivial,_,(.tmp _ _ _ _ rfl (.tmp _ _ _ _ rfl .nil)),(.tupL (.cons _ _ _ _ (.cl _ rfl) (.cons _ _ _ _ (.cl _ rfl) .nil)))⟩
       ·refine au 2 ?_
        obtain⟨e18,h19,H⟩:=Ac H
        refine TL.st rfl rfl rfl (o_ixA (f:=V.bool) (xs:=b8) rfl rfl Cz rfl rfl rfl h19 (by decide)) ?_
        refine TL.st rfl rfl rfl (o_ldA (f:=V.bool) (xs:=b8) (a:=e18) rfl Cz rfl rfl h19) ?_
        refine au 2 ?_
        refine T.cH H ?_ ?_<;>intro H h
        ·refine au 7 ?_
         refine Av (Aj ?_)
         cases Ad H
         exact⟨trivial,_,(.tmp _ _ _ _ rfl (.tmp _ _ _ _ rfl .nil)),(.tupL (.cons _ _ _ _ (.cl _ rfl) (.cons _ _ _ _ (.cl _ rfl) .nil)))⟩
        ·refine au 6 ?_
         obtain⟨r20,h21,H⟩:=Ac H
         refine TL.st rfl rfl rfl (Aq rfl en_77 rfl rfl (.cons _ _ _ _ (.cl _ rfl) .nil) (impl_ysure_p  h21)) ?_
         refine au 5 ?_
         cases Ad H
         exact⟨trivial,_,(.tmp _ _ _ _ rfl (.tmp _ _ _ _ rfl .nil)),(.tupL (.cons _ _ _ _ (.cl _ rfl) (.cons _ _ _ _ (.cl _ rfl) .nil)))⟩
theorem impl_DirSchema_ymeets_p(b0:Bool)(b1:Bool)(b2:Bool){a0:Ah}{a1:Ay}{a2:(List Aa)}{a3:Int}{R0:Int}{R1:Int}(H:impl_DirSchema_ymeets a0 a1 a2 a3=some (R0,R1)):Bu Tryz.prog 33 [.agg (At b0 a0),.agg (An b1 a1),.im b2 (a2.map (Ab false)),.int .i64 a3] (.tup [.int .i64 R0,.int .i64 R1]) :=
 fixO_ind (fun x r=>match x,r with | (a0,a1,a2,a3),(R0,R1)=>∀ (b0:Bool) (b1:Bool) (b2:Bool),Bu Tryz.prog 33 [.agg (At b0 a0),.agg (An b1 a1),.im b2 (a2.map (Ab false)),.int .i64 a3] (.tup [.int .i64 R0,.int .i64 R1])) (fun rec_impl_DirSchema_ymeets Hrec x r h=>match x,r,h with | (a0,a1,a2,a3),(R0,R1),h=>fun b0 b1 b2=>impl_DirSchema_ymeets_pb (fun b0 b1 b2 {a0} {a1} {a2} {a3} {R0} {R1} h=>Hrec (a0,a1,a2,a3) (R0,R1) h b0 b1 b2) b0 b1 b2 h) H b0 b1 b2
theorem C0:TyS Tryz.prog 58 true 2:=⟨rfl,rfl⟩
theorem tyE_58:TyE Tryz.prog 58 2:=⟨_,_,rfl,rfl,rfl,rfl,by decide,by decide⟩
theorem en_56:En Tryz.prog 56:=.of Tryz.func56 rfl rfl
theorem eqT_58:∀ a b:Bc,EqT Tryz.prog true 10000 58 [] 0 (Au false a) (Au false b) (a==b):=fun a b=>.struct rfl (by kernel_rfl) (.cons (c:=[.str a.Group_]) (d:=[.str b.Group_]) rfl rfl Bm rfl rfl (fun _=>rfl) (fun h=>Bool.noConfusion h) (fun _=>ne_struct rfl rfl) (.str rfl) (.cons (c:=[.str a.Member_]) (d:=[.str b.Member_]) rfl rfl Bm rfl rfl (fun _=>rfl) (fun h=>Bool.noConfusion h) (fun _=>ne_struct rfl rfl) (.str rfl) .nil))
theorem eqG_58:Program.eqGuardType Tryz.prog Tryz.prog.depth 58=false:=by kernel_rfl
noncomputable def impl_Nest_x_j1(v12:Int)(l20:List Bc)(v21:Int):Option ((List Bc×Int×Int)⊕(List Bc×Int)) :=
  some (.inl (l20,v21,(IntKind.i64.wrap (v12+1))))
noncomputable def impl_Nest_x_l2(s0:List Bc)(v1:Int):(List Bc×Int×Int)→Option ((List Bc×Int×Int)⊕(List Bc×Int)):=fun s=>match s with
  | (l10,v11,v12)=>cond (decide (v12<(Int.ofNat (Int.toNat ((s0.length:Int) - v1))))) ((idxP l10 v1 (s0.length:Int) v12).bind fun e22=>(idxP l10 v1 (s0.length:Int) (IntKind.i64.wrap (v12 - 1))).bind fun e24=>cond (!(e22==e24)) ((idxP l10 v1 (s0.length:Int) v12).bind fun e26=>(idx l10 v11).bind fun e28=>impl_Nest_x_j1 v12 (l10.set (Int.toNat v11) e26) (IntKind.i64.wrap (v11+1))) (impl_Nest_x_j1 v12 l10 v11)) (some (.inr (l10,v11)))
noncomputable def impl_Nest_x_l1(s0:List Bc):Int→Option (Int⊕(Unit⊕(List Bc))):=fun s=>match s with
  | v1=>cond (decide (v1<(s0.length:Int))) ((idx s0 v1).bind fun e4=>(idx s0 (IntKind.i64.wrap (v1 - 1))).bind fun e6=>cond (e4==e6) ((sub s0 v1 (s0.length:Int)).bind fun l8=>(loopO (impl_Nest_x_l2 s0 v1) (s0,v1,1)).bind fun q30=>(match q30 with | (l13,v14)=>(sub l13 v14 (l13.length:Int)).bind fun l15=>(sub (D9 (⟨e0,e0⟩:Bc) l13 v14 (l13.length:Int)) 0 v14).bind fun l17=>some (.inr (.inr l17)))) (some (.inl (IntKind.i64.wrap (v1+1))))) (some (.inr (.inl ())))
noncomputable def impl_Nest_x(s0:List Bc):Option (List Bc) :=
  cond (decide ((s0.length:Int)<2)) (some s0) ((loopO (impl_Nest_x_l1 s0) 1).bind fun q32=>(match q32 with | .inl _=>some s0 | .inr q2=>some q2))
theorem impl_Nest_x_o  {s0 : List     Bc} {R0 : (List     Bc)} (H : impl_Nest_x s0 = some R0) : St Tryz.prog 58 [.hd 0 (s0.map (      Au false)).length 0 (s0.map (      Au false)).length] [.arr .clo 2 (s0.map (      Au false))] (.hd 2 (R0.map (      Au false)).length 0 (R0.map (      Au false)).length) [.dead, .dead, .arr .clo 2 (R0.map (      Au false))] := by
 refine Ba.finR (Ba.of_TN (n:=61) Tryz.func58 rfl rfl rfl rfl ?_) rfl rfl ⟨trivial,⟨trivial,⟨trivial,trivial⟩⟩⟩
 refine T.conv (Cs.fresh 0 rfl rfl (by decide) rfl (nomS_all rfl rfl)) ?_
 refine T.conv Cs.pushDead ?_
 refine T.conv (Cs.wkF (M:=3) (.k 0 rfl rfl .nil)) ?_
 refine T.conv (Cs.eqS (σ':=[.dead,.arr .clo 2 (s0.map (Au false)),.dead]) rfl) ?_
 refine au 8 ?_
 refine TL.st rfl rfl rfl (Dt (f:=Au false) rfl rfl rfl rfl rfl) ?_
 refine au 2 ?_
 refine T.cH H ?_ ?_<;>intro H h
 ·refine au 5 ?_
  refine T.conv (Cs.wkF (M:=3) (.k 2 rfl rfl .nil)) ?_
  refine T.conv (Cs.reloc 2 1 rfl rfl (by decide) rfl rfl rfl (Bv rfl)) ?_
  refine T.conv (Cs.wkF (M:=3) (.k 2 rfl rfl .nil)) ?_
  refine T.conv (Cs.eqS (σ':=[_,.dead,.arr .clo 2 (s0.map (Au false))]) rfl) ?_
  refine T.ret ?_
  refine Aj ?_
  cases Ad H
  exact⟨trivial,_,(.tmp _ _ _ _ rfl .nil),⟨rfl,_,rfl⟩⟩
 ·refine au 7 ?_
  obtain⟨q32,h33,H⟩:=Ac H
  refine T.lq (fun s=>match s with | v1=>[(0,.hd 1 (s0.map (Au false)).length 0 (s0.map (Au false)).length),(3,.int .i64 v1)]) (fun s=>match s with | v1=>[.dead,.arr .clo 2 (s0.map (Au false)),.dead]) (fun q ex fr σ=>match q with | .inl _=>ex = .exit 0∧fr = [(0,.hd 1 (s0.map (Au false)).length 0 (s0.map (Au false)).length)]∧σ = [.dead,.arr .clo 2 (s0.map (Au false)),.dead] | .inr q2=>ex = .ret∧C5 Tryz.prog [.tmp 2] (Fin [.dead,.dead,.arr .clo 2 (q2.map (Au false))] (.hd 2 (q2.map (Au false)).length 0 (q2.map (Au false)).length)) .ret fr σ) h33 ?_ ?_
  ·rintro v1 y3 H
   refine au 5 ?_
   refine TL.st rfl rfl rfl (Dt (f:=Au false) rfl rfl rfl rfl rfl) ?_
   refine au 2 ?_
   refine T.cH H ?_ ?_<;>intro H h
   ·refine au 4 ?_
    refine T.drawn rfl ?_
    refine ad 2 ?_
    obtain⟨e4,h5,H⟩:=Ac H
    refine TD.rs rfl rfl (C2 (f:=Au false) rfl rfl C0 rfl rfl rfl rfl h5 rfl) ?_
    refine TD.rs rfl rfl (Cx rfl C0 rfl rfl rfl (by rw[List.getElem?_map,(Ej h5).2];rfl) (nb rfl) rfl) ?_
    refine ad 3 ?_
    obtain⟨e6,h7,H⟩:=Ac H
    refine TD.rs rfl rfl (C2 (f:=Au false) rfl rfl C0 rfl rfl rfl rfl h7 rfl) ?_
    refine TD.rs rfl rfl (Cx rfl C0 rfl rfl rfl (by rw[List.getElem?_map,(Ej h7).2];rfl) (nb rfl) rfl) ?_
    refine TD.qs rfl rfl (fun _=>o_eqA rfl rfl eqG_58 rfl rfl rfl rfl (eqT_58 e4 e6)) ?_
    refine TD.nil ⟨rfl,?_⟩
    refine Af ?_
    refine T.cH H ?_ ?_<;>intro H h
    ·refine au 4 ?_
     obtain⟨l8,h9,H⟩:=Ac H
     refine TL.st rfl rfl rfl (o_subHd (f:=Au false) (xs:=s0) rfl rfl C0 rfl rfl rfl rfl rfl h9) ?_
     refine au 8 ?_
     obtain⟨q30,h31,H⟩:=Ac H
     refine T.lq (fun s=>match s with | (l10,v11,v12)=>[(0,.hd 1 (l10.map (Au false)).length 0 (l10.map (Au false)).length),(3,.int .i64 v11),(4,.hd 1 (l10.map (Au false)).length (Int.toNat v1) (Int.toNat ((s0.length:Int) - v1))),(5,.int .i64 v12)]) (fun s=>match s with | (l10,v11,v12)=>[.dead,.arr .clo 2 (l10.map (Au false)),.dead]) (fun q ex fr σ=>match q with | (l13,v14)=>ex = .exit 2∧fr = [(0,.hd 1 (l13.map (Au false)).length 0 (l13.map (Au false)).length),(3,.int .i64 v14)]∧σ = [.dead,.arr .clo 2 (l13.map (Au false)),.dead]) h31 ?_ ?_
     ·rintro⟨l10,v11,v12⟩ y19 H
      refine au 5 ?_
      refine TL.st rfl rfl rfl (o_lenHp (f:=Au false) (xs:=l10) rfl rfl rfl rfl rfl) ?_
      refine au 2 ?_
      refine T.cH H ?_ ?_<;>intro H h
      ·refine T.skip ?_
       refine T.cut (fun fr' σ'=>∃ (l20:List Bc) (v21:Int),fr' = [(0,.hd 1 (l20.map (Au false)).length 0 (l20.map (Au false)).length),(3,.int .i64 v21),(4,.hd 1 (l20.map (Au false)).length (Int.toNat v1) (Int.toNat ((s0.length:Int) - v1))),(5,.int .i64 v12)]∧σ' = [.dead,.arr .clo 2 (l20.map (Au false)),.dead]∧impl_Nest_x_j1 v12 l20 v21=some y19) (T.pk ?_) ?_
       ·skip
        refine au 2 ?_
        refine T.drawn rfl ?_
        refine ad 2 ?_
        obtain⟨e22,h23,H⟩:=Ac H
        refine TD.rs rfl rfl (o_ixHp (f:=Au false) (xs:=l10) rfl rfl C0 rfl rfl rfl rfl h23 rfl) ?_
        refine TD.rs rfl rfl (Cx rfl C0 rfl rfl rfl (by rw[List.getElem?_map,(Ej (idxP_idx h23)).2];rfl) (nb rfl) rfl) ?_
        refine ad 3 ?_
        obtain⟨e24,h25,H⟩:=Ac H
        refine TD.rs rfl rfl (o_ixHp (f:=Au false) (xs:=l10) rfl rfl C0 rfl rfl rfl rfl h25 rfl) ?_
        refine TD.rs rfl rfl (Cx rfl C0 rfl rfl rfl (by rw[List.getElem?_map,(Ej (idxP_idx h25)).2];rfl) (nb rfl) rfl) ?_
        refine TD.qs rfl rfl (fun _=>o_neA rfl rfl eqG_58 rfl rfl rfl rfl (eqT_58 e22 e24)) ?_
        refine TD.nil ⟨rfl,?_⟩
        refine Af ?_
        refine T.cH H ?_ ?_<;>intro H h
        ·refine au 6 ?_
         obtain⟨e26,h27,H⟩:=Ac H
         refine TL.st rfl rfl rfl (o_ixHp (f:=Au false) (xs:=l10) rfl rfl C0 rfl rfl rfl rfl h27 rfl) ?_
         refine TL.st rfl rfl rfl (Cx rfl C0 rfl rfl rfl (by rw[List.getElem?_map,(Ej (idxP_idx h27)).2];rfl) (nb rfl) rfl) ?_
         obtain⟨e28,h29,H⟩:=Ac H
         refine TL.st rfl rfl rfl (C2 (f:=Au false) rfl rfl C0 rfl rfl rfl rfl h29 rfl) ?_
         refine TL.sn rfl rfl (Dz (f:=Au false) (xs:=l10) (k:=v11) (a:=e28) e26 rfl C0 rfl rfl rfl rfl (by decide) h29 rfl rfl rfl (fun _=>rfl) rfl) ?_
         refine TL.conv (Cs.eqV (t:=0) (v':=.hd 1 ((l10.set (Int.toNat v11) e26).map (Au false)).length 0 ((l10.set (Int.toNat v11) e26).map (Au false)).length) rfl (B2 _ (List.length_set ..))) ?_
         refine TL.conv (Cs.eqV (t:=4) (v':=.hd 1 ((l10.set (Int.toNat v11) e26).map (Au false)).length (Int.toNat v1) (Int.toNat ((s0.length:Int) - v1))) rfl (hp_len _ _ _ (List.length_set ..))) ?_
         refine TL.conv (Cs.eqV (t:=30) (v':=.hd 1 ((l10.set (Int.toNat v11) e26).map (Au false)).length (Int.toNat v1) (Int.toNat ((s0.length:Int) - v1))) rfl (hp_len _ _ _ (List.length_set ..))) ?_
         refine TL.conv (Cs.eqV (t:=35) (v':=.hd 1 ((l10.set (Int.toNat v11) e26).map (Au false)).length (Int.toNat v1) (Int.toNat ((s0.length:Int) - v1))) rfl (hp_len _ _ _ (List.length_set ..))) ?_
         refine TL.conv (Cs.eqV (t:=39) (v':=.hd 1 ((l10.set (Int.toNat v11) e26).map (Au false)).length (Int.toNat v1) (Int.toNat ((s0.length:Int) - v1))) rfl (hp_len _ _ _ (List.length_set ..))) ?_
         refine TL.conv (Cs.eqV (t:=45) (v':=.hd 1 ((l10.set (Int.toNat v11) e26).map (Au false)).length 0 ((l10.set (Int.toNat v11) e26).map (Au false)).length) rfl (B2 _ (List.length_set ..))) ?_
         refine TL.conv (Cs.eqV (t:=47) (v':=.hd 1 ((l10.set (Int.toNat v11) e26).map (Au false)).length (Int.toNat v1) (Int.toNat ((s0.length:Int) - v1))) rfl (hp_len _ _ _ (List.length_set ..))) ?_
         refine TL.conv (Cs.eqV (t:=51) (v':=.el 1 ((l10.set (Int.toNat v11) e26).map (Au false)).length (Int.toNat v11) 0) rfl (Dv _ _ _ (List.length_set ..))) ?_
         refine au 6 ?_
         refine Bh ?_
         exact Pk.of (Af ⟨(l10.set (Int.toNat v11) e26),(IntKind.i64.wrap (v11+1)),rfl,rfl,H⟩)
        ·refine T.skip ?_
         refine Bh ?_
         exact Pk.of (Af ⟨l10,v11,rfl,rfl,H⟩)
       ·rintro _ _ ⟨l20,v21,rfl,rfl,H⟩
        refine au 5 ?_
        exact Pk.of (Af ⟨(l20,v21,(IntKind.i64.wrap (v12+1))),(Ad H).symm,rfl,rfl⟩)
      ·refine T.exit ?_
       refine Am ?_
       exact Pk.of (Am ⟨(l10,v11),(Ad H).symm,rfl,rfl,rfl⟩)
     ·rcases q30 with ⟨l13,v14⟩
      rintro _ _ _ ⟨rfl,rfl,rfl⟩
      refine A6 ?_
      refine au 4 ?_
      obtain⟨l15,h16,H⟩:=Ac H
      refine TL.st rfl rfl rfl (o_subHd (f:=Au false) (xs:=l13) rfl rfl C0 rfl rfl rfl rfl rfl h16) ?_
      refine TL.sn rfl rfl (o_clearHp (f:=Au false) (z:=(⟨e0,e0⟩:Bc)) (xs:=l13) rfl rfl ⟨_,rfl,rfl⟩ rfl rfl rfl rfl) ?_
      refine TL.conv (Cs.eqV (t:=0) (v':=.hd 1 ((D9 (⟨e0,e0⟩:Bc) l13 v14 (l13.length:Int)).map (Au false)).length 0 ((D9 (⟨e0,e0⟩:Bc) l13 v14 (l13.length:Int)).map (Au false)).length) rfl (B2 _ (clearP_lenS h16))) ?_
      refine TL.conv (Cs.eqV (t:=54) (v':=.hd 1 ((D9 (⟨e0,e0⟩:Bc) l13 v14 (l13.length:Int)).map (Au false)).length 0 ((D9 (⟨e0,e0⟩:Bc) l13 v14 (l13.length:Int)).map (Au false)).length) rfl (B2 _ (clearP_lenS h16))) ?_
      refine TL.conv (Cs.eqV (t:=56) (v':=.hd 1 ((D9 (⟨e0,e0⟩:Bc) l13 v14 (l13.length:Int)).map (Au false)).length (Int.toNat v14) (Int.toNat ((l13.length:Int) - v14))) rfl (hp_len _ _ _ (clearP_lenS h16))) ?_
      refine au 5 ?_
      obtain⟨l17,h18,H⟩:=Ac H
      refine TL.st rfl rfl rfl (o_subHd (f:=Au false) (xs:=(D9 (⟨e0,e0⟩:Bc) l13 v14 (l13.length:Int))) rfl rfl C0 rfl rfl rfl rfl rfl h18) ?_
      refine au 2 ?_
      refine T.conv (Cs.cut (t:=2) rfl rfl rfl rfl h18) ?_
      refine T.conv (Cs.wkF (M:=4) (.k 2 rfl rfl .nil)) ?_
      refine T.conv (Cs.reloc 2 3 rfl rfl (by decide) rfl rfl rfl (Bv rfl)) ?_
      refine T.conv (Cs.wkF (M:=4) (.k 2 rfl rfl .nil)) ?_
      refine T.conv (Cs.eqS (σ':=[_,.dead,.arr .clo 2 (l17.map (Au false)),.dead]) rfl) ?_
      refine T.ret ?_
      refine Av (Aj ?_)
      exact Pk.id (Aj ⟨.inr l17,(Ad H).symm,rfl,⟨trivial,_,(.tmp _ _ _ _ rfl .nil),⟨rfl,_,rfl⟩⟩⟩)
    ·refine au 6 ?_
     exact Pk.of (Af ⟨(IntKind.i64.wrap (v1+1)),(Ad H).symm,rfl,rfl⟩)
   ·refine T.exit ?_
    refine Am ?_
    exact Pk.of (Am ⟨.inl (),(Ad H).symm,rfl,rfl,rfl⟩)
  ·rcases q32 with ⟨⟩ | q2
   ·rintro _ _ _ ⟨rfl,rfl,rfl⟩
    refine A6 ?_
    refine au 5 ?_
    refine T.conv (Cs.wkF (M:=3) (.k 2 rfl rfl .nil)) ?_
    refine T.conv (Cs.reloc 2 1 rfl rfl (by decide) rfl rfl rfl (Bv rfl)) ?_
    refine T.conv (Cs.wkF (M:=3) (.k 2 rfl rfl .nil)) ?_
    refine T.conv (Cs.eqS (σ':=[_,.dead,.arr .clo 2 (s0.map (Au false))]) rfl) ?_
    refine T.ret ?_
    cases Ad H
    exact⟨trivial,_,(.tmp _ _ _ _ rfl .nil),⟨rfl,_,rfl⟩⟩
   ·rintro _ fr1 σ1 ⟨rfl,hr⟩
    refine Av (Aj ?_)
    cases Ad H
    exact hr
theorem en_58:En Tryz.prog 58:=.of Tryz.func58 rfl rfl
noncomputable def impl_ygoodNest(a0:Bc):Option Bool :=
  (impl_ygroupName a0.Group_).bind fun r1=>(gdO r1 (B5 a0.Member_)).bind fun r3=>some (r1&&r3)
theorem impl_ygoodNest_p {a0:Bc} {R0:Bool} (H:impl_ygoodNest a0=some R0):Bu Tryz.prog 105 [.agg (Au false a0)] (.bool R0):=by
 refine Ba.of_TN (n:=11) Tryz.func105 rfl rfl rfl rfl ?_
 refine au 9 ?_
 obtain⟨r1,h2,H⟩:=Ac H
 refine TL.st rfl rfl rfl (Aq rfl en_54 rfl rfl (.cons _ _ _ _ (.cl _ rfl) .nil) (impl_ygroupName_p  h2)) ?_
 refine au 3 ?_
 obtain⟨r3,h4,H⟩:=Ac H
 refine TL.gcq rfl rfl rfl (.bool _) rfl rfl (fun h=>Aq rfl en_55 rfl (Dc (gv h rfl)) (.cons _ _ _ _ (.cl _ rfl) .nil) (impl_GoodName_p  (Bq h4 h))) ?_
 refine au 4 ?_
 cases Ad H
 exact⟨trivial,_,(.tmp _ _ _ _ rfl .nil),(.cl _ rfl)⟩
theorem en_105:En Tryz.prog 105:=.of Tryz.func105 rfl rfl
noncomputable def cmp_isNaNx(a0:ByteArray):Option Bool :=
  some (!(a0.toList==a0.toList))
theorem cmp_isNaNx_p {a0:ByteArray} {R0:Bool} (H:cmp_isNaNx a0=some R0):Bu Tryz.prog 148 [.str a0] (.bool R0):=by
 refine Ba.of_TN (n:=6) Tryz.func148 rfl rfl rfl rfl ?_
 refine au 12 ?_
 cases Ad H
 exact⟨trivial,_,(.tmp _ _ _ _ rfl .nil),(.cl _ rfl)⟩
theorem en_148:En Tryz.prog 148:=.of Tryz.func148 rfl rfl
noncomputable def cmp_Comparex(a0:ByteArray)(a1:ByteArray):Option Int :=
  (cmp_isNaNx a0).bind fun r1=>(cmp_isNaNx a1).bind fun r3=>cond r1 (cond r3 (some 0) (some (-1))) (cond r3 (some 1) (cond (Op.bytesLess a0.toList a1.toList) (some (-1)) (cond (!(Op.bytesLess a0.toList a1.toList) && !(a0.toList==a1.toList)) (some 1) (some 0))))
theorem cmp_Comparex_p {a0:ByteArray} {a1:ByteArray} {R0:Int} (H:cmp_Comparex a0 a1=some R0):Bu Tryz.prog 104 [.str a0,.str a1] (.int .i64 R0):=by
 refine Ba.of_TN (n:=20) Tryz.func104 rfl rfl rfl rfl ?_
 refine au 7 ?_
 obtain⟨r1,h2,H⟩:=Ac H
 refine TL.st rfl rfl rfl (Aq rfl en_148 rfl rfl (.cons _ _ _ _ (.cl _ rfl) .nil) (cmp_isNaNx_p  h2)) ?_
 refine au 5 ?_
 obtain⟨r3,h4,H⟩:=Ac H
 refine TL.st rfl rfl rfl (Aq rfl en_148 rfl rfl (.cons _ _ _ _ (.cl _ rfl) .nil) (cmp_isNaNx_p  h4)) ?_
 refine au 7 ?_
 refine T.cH H ?_ ?_<;>intro H h
 ·refine au 5 ?_
  refine T.cH H ?_ ?_<;>intro H h
  ·refine au 5 ?_
   refine Aj (Aj ?_)
   cases Ad H
   exact⟨trivial,_,(.tmp _ _ _ _ rfl .nil),(.cl _ rfl)⟩
  ·refine au 6 ?_
   refine Aj ?_
   cases Ad H
   exact⟨trivial,_,(.tmp _ _ _ _ rfl .nil),(.cl _ rfl)⟩
 ·refine au 6 ?_
  refine T.cH H ?_ ?_<;>intro H h
  ·refine au 5 ?_
   refine Aj ?_
   cases Ad H
   exact⟨trivial,_,(.tmp _ _ _ _ rfl .nil),(.cl _ rfl)⟩
  ·refine au 8 ?_
   refine T.cH H ?_ ?_<;>intro H h
   ·refine au 5 ?_
    refine Aj ?_
    cases Ad H
    exact⟨trivial,_,(.tmp _ _ _ _ rfl .nil),(.cl _ rfl)⟩
   ·refine au 8 ?_
    refine T.cH H ?_ ?_<;>intro H h
    ·refine au 5 ?_
     refine Aj ?_
     cases Ad H
     exact⟨trivial,_,(.tmp _ _ _ _ rfl .nil),(.cl _ rfl)⟩
    ·refine au 6 ?_
     cases Ad H
     exact⟨trivial,_,(.tmp _ _ _ _ rfl .nil),(.cl _ rfl)⟩
theorem en_104:En Tryz.prog 104:=.of Tryz.func104 rfl rfl
noncomputable def cmp_Or_l1(a0:(List Int)):Int→Option (Int⊕(Unit⊕Int)):=fun s=>match s with
  | v1=>cond (decide (v1<(a0.length:Int))) ((idx a0 v1).bind fun e4=>cond (e4 != 0) (some (.inr (.inr e4))) (some (.inl (IntKind.i64.wrap (v1+1))))) (some (.inr (.inl ())))
noncomputable def cmp_Or(a0:(List Int)):Option Int :=
  (loopO (cmp_Or_l1 a0) 0).bind fun q6=>(match q6 with | .inl _=>some 0 | .inr q2=>some q2)
theorem cmp_Or_p(b0:Bool){a0:(List Int)}{R0:Int}(H:cmp_Or a0=some R0):Bu Tryz.prog 103 [.im b0 (a0.map (c_int .i64))] (.int .i64 R0):=by
 refine Ba.of_TN (n:=18) Tryz.func103 rfl rfl rfl rfl ?_
 refine au 12 ?_
 refine TL.st rfl rfl rfl (Bf (f:=c_int .i64) rfl rfl rfl) ?_
 refine au 3 ?_
 obtain⟨q6,h7,H⟩:=Ac H
 refine T.lq (fun s=>match s with | v1=>[(3,.int .i64 0),(6,.im b0 (a0.map (c_int .i64))),(7,.int .i64 (a0.length:Int)),(8,.int .i64 v1)]) (fun s=>match s with | v1=>[]) (fun q ex fr σ=>match q with | .inl _=>ex = .exit 0∧fr = [(3,.int .i64 0)]∧σ = [] | .inr q2=>ex = .ret∧C5 Tryz.prog [.tmp 2] (fun v τ=>Told τ v (.int .i64 q2)) .ret fr σ) h7 ?_ ?_
 ·rintro v1 y3 H
  refine au 5 ?_
  refine T.cH H ?_ ?_<;>intro H h
  ·refine au 5 ?_
   obtain⟨e4,h5,H⟩:=Ac H
   refine TL.st rfl rfl rfl (B7 (f:=c_int .i64) rfl rfl Dj rfl rfl h5 rfl) ?_
   refine au 9 ?_
   refine T.cH H ?_ ?_<;>intro H h
   ·refine au 6 ?_
    refine Av (Aj ?_)
    exact Pk.id (Aj ⟨.inr e4,(Ad H).symm,rfl,⟨trivial,_,(.tmp _ _ _ _ rfl .nil),(.cl _ rfl)⟩⟩)
   ·refine au 5 ?_
    exact Pk.of (Af ⟨(IntKind.i64.wrap (v1+1)),(Ad H).symm,rfl,rfl⟩)
  ·refine T.exit ?_
   refine Am ?_
   exact Pk.of (Am ⟨.inl (),(Ad H).symm,rfl,rfl,rfl⟩)
 ·rcases q6 with ⟨⟩ | q2
  ·rintro _ _ _ ⟨rfl,rfl,rfl⟩
   refine A6 ?_
   refine au 6 ?_
   cases Ad H
   exact⟨trivial,_,(.tmp _ _ _ _ rfl .nil),(.cl _ rfl)⟩
  ·rintro _ fr1 σ1 ⟨rfl,hr⟩
   refine Av (Aj ?_)
   cases Ad H
   exact hr
theorem en_103:En Tryz.prog 103:=.of Tryz.func103 rfl rfl
noncomputable def impl_ycmpNest(a0:Bc)(a1:Bc):Option Int :=
  (cmp_Comparex a0.Group_ a1.Group_).bind fun r1=>(cmp_Comparex a0.Member_ a1.Member_).bind fun r3=>(cmp_Or ([r1,r3]:List Int)).bind fun r5=>some r5
theorem impl_ycmpNest_p {a0:Bc} {a1:Bc} {R0:Int} (H:impl_ycmpNest a0 a1=some R0):Bu Tryz.prog 57 [.agg (Au false a0),.agg (Au false a1)] (.int .i64 R0):=by
 refine Ba.of_TN (n:=17) Tryz.func57 rfl rfl rfl rfl ?_
 refine au 7 ?_
 refine T.drawn rfl ?_
 refine ad 4 ?_
 obtain⟨r1,h2,H⟩:=Ac H
 refine TD.qs rfl rfl (fun _=>Aq rfl en_104 rfl rfl (.cons _ _ _ _ (.cl _ rfl) (.cons _ _ _ _ (.cl _ rfl) .nil)) (cmp_Comparex_p  h2)) ?_
 refine ad 4 ?_
 obtain⟨r3,h4,H⟩:=Ac H
 refine TD.qs rfl rfl (fun _=>Aq rfl en_104 rfl rfl (.cons _ _ _ _ (.cl _ rfl) (.cons _ _ _ _ (.cl _ rfl) .nil)) (cmp_Comparex_p  h4)) ?_
 refine TD.qs rfl rfl (fun _=>A8 (rows:=([r1,r3]:List Int).map (c_int .i64)) rfl rfl Dj ⟨_,rfl,rfl⟩ (by decide) rfl rfl rfl rfl rfl rfl) ?_
 obtain⟨r5,h6,H⟩:=Ac H
 refine TD.qs rfl rfl (fun _=>Aq rfl en_103 rfl rfl (.cons _ _ _ _ (.cl _ rfl) .nil) (cmp_Or_p false h6)) ?_
 refine TD.qs rfl rfl (fun _=>Dm rfl rfl) ?_
 refine TD.nil ⟨rfl,?_⟩
 refine T.ret ?_
 cases Ad H
 exact⟨trivial,_,(.tmp _ _ _ _ rfl .nil),(.cl _ rfl)⟩
theorem en_57:En Tryz.prog 57:=.of Tryz.func57 rfl rfl
noncomputable def impl_GoodNests_l1(a0:(List Bc)):Int→Option (Int⊕(Unit⊕Bool)):=fun s=>match s with
  | v1=>cond (decide (v1<(a0.length:Int))) ((idx a0 v1).bind fun e4=>(impl_ygoodNest e4).bind fun r6=>(gdO ((!(!r6))&&decide (v1 > 0)) (idx a0 (IntKind.i64.wrap (v1 - 1)))).bind fun e8=>(gdO ((!(!r6))&&decide (v1 > 0)) (impl_ycmpNest e8 e4)).bind fun r10=>cond ((!r6)||(decide (v1 > 0)&&decide (r10≥0))) (some (.inr (.inr false))) (some (.inl (IntKind.i64.wrap (v1+1))))) (some (.inr (.inl ())))
noncomputable def impl_GoodNests(a0:(List Bc)):Option Bool :=
  cond (decide ((a0.length:Int) > 200)) (some false) ((loopO (impl_GoodNests_l1 a0) 0).bind fun q12=>(match q12 with | .inl _=>some true | .inr q2=>some q2))
theorem impl_GoodNests_p(b0:Bool){a0:(List Bc)}{R0:Bool}(H:impl_GoodNests a0=some R0):Bu Tryz.prog 59 [.im b0 (a0.map (Au false))] (.bool R0):=by
 refine Ba.of_TN (n:=33) Tryz.func59 rfl rfl rfl rfl ?_
 refine au 8 ?_
 refine TL.st rfl rfl rfl (Bf (f:=Au false) rfl rfl rfl) ?_
 refine au 2 ?_
 refine T.cH H ?_ ?_<;>intro H h
 ·refine au 5 ?_
  refine Aj ?_
  cases Ad H
  exact⟨trivial,_,(.tmp _ _ _ _ rfl .nil),(.cl _ rfl)⟩
 ·refine au 5 ?_
  refine TL.st rfl rfl rfl (Bf (f:=Au false) rfl rfl rfl) ?_
  refine au 3 ?_
  obtain⟨q12,h13,H⟩:=Ac H
  refine T.lq (fun s=>match s with | v1=>[(0,.im b0 (a0.map (Au false))),(8,.im b0 (a0.map (Au false))),(9,.int .i64 (a0.length:Int)),(10,.int .i64 v1)]) (fun s=>match s with | v1=>[]) (fun q ex fr σ=>match q with | .inl _=>ex = .exit 0∧fr = []∧σ = [] | .inr q2=>ex = .ret∧C5 Tryz.prog [.tmp 2] (fun v τ=>Told τ v (.bool q2)) .ret fr σ) h13 ?_ ?_
  ·rintro v1 y3 H
   refine au 5 ?_
   refine T.cH H ?_ ?_<;>intro H h
   ·refine au 6 ?_
    obtain⟨e4,h5,H⟩:=Ac H
    refine TL.st rfl rfl rfl (B7 (f:=Au false) rfl rfl C0 rfl rfl h5 rfl) ?_
    refine au 6 ?_
    refine T.drawn rfl ?_
    refine TD.rs rfl rfl (Bs rfl C0 rfl rfl (nb rfl) rfl) ?_
    obtain⟨r6,h7,H⟩:=Ac H
    refine TD.qs rfl rfl (fun _=>Aq rfl en_105 rfl rfl (.cons _ _ _ _ (.cl _ rfl) .nil) (impl_ygoodNest_p  h7)) ?_
    refine ad 3 ?_
    refine TD.cq rfl rfl rfl (.bool _) rfl (fun h _=>B3 rfl (gv h rfl) rfl rfl) ?_
    refine TD.cq rfl rfl rfl (.bool _) rfl (fun h _=>Bp rfl (gv h rfl)) ?_
    refine TD.cq rfl rfl rfl (.gd _ _) rfl (fun h _=>Bp rfl rfl) ?_
    refine TD.cq rfl rfl rfl (.gd _ _) rfl (fun h _=>Bp rfl rfl) ?_
    refine TD.cq rfl rfl rfl (.gd _ _) rfl (fun h _=>B3 rfl (gv h rfl) rfl rfl) ?_
    obtain⟨e8,h9,H⟩:=Ac H
    refine TD.cq rfl rfl rfl (.gd _ _) rfl (fun h _=>B7 (f:=Au false) rfl rfl C0 (gv h rfl) (gv h rfl) (Bq h9 h) rfl) ?_
    refine TD.cq rfl rfl rfl (.gd _ _) rfl (fun h _=>Bx rfl C0 (gv h rfl) (nb rfl) rfl) ?_
    refine TD.cr rfl rfl rfl (.gd _ _) rfl (fun h=>Bs rfl C0 rfl rfl (nb rfl) rfl) ?_
    obtain⟨r10,h11,H⟩:=Ac H
    refine TD.cq rfl rfl rfl (.gd _ _) rfl (fun h _=>Aq rfl en_57 rfl (E5 (gv h rfl) (gv h rfl)) (.cons _ _ _ _ (.cl _ rfl) (.cons _ _ _ _ (.cl _ rfl) .nil)) (impl_ycmpNest_p  (Bq h11 h))) ?_
    refine TD.cq rfl rfl rfl (.gd _ _) rfl (fun h _=>B3 rfl (gv h rfl) rfl rfl) ?_
    refine TD.cq rfl rfl rfl (.bool _) rfl (fun h _=>Eq rfl (gv h rfl) rfl (fun k=>Ed (andi h k)) rfl) ?_
    refine TD.qs rfl rfl (fun _=>o_or rfl rfl rfl rfl (fun k=>Ed k)) ?_
    refine TD.nil ⟨rfl,?_⟩
    refine Af ?_
    refine T.cH H ?_ ?_<;>intro H h
    ·refine au 5 ?_
     refine Av (Aj ?_)
     exact Pk.id (Aj ⟨.inr false,(Ad H).symm,rfl,⟨trivial,_,(.tmp _ _ _ _ rfl .nil),(.cl _ rfl)⟩⟩)
    ·refine au 5 ?_
     exact Pk.of (Af ⟨(IntKind.i64.wrap (v1+1)),(Ad H).symm,rfl,rfl⟩)
   ·refine T.exit ?_
    refine Am ?_
    exact Pk.of (Am ⟨.inl (),(Ad H).symm,rfl,rfl,rfl⟩)
  ·rcases q12 with ⟨⟩ | q2
   ·rintro _ _ _ ⟨rfl,rfl,rfl⟩
    refine A6 ?_
    refine au 5 ?_
    cases Ad H
    exact⟨trivial,_,(.tmp _ _ _ _ rfl .nil),(.cl _ rfl)⟩
   ·rintro _ fr1 σ1 ⟨rfl,hr⟩
    refine Av (Aj ?_)
    cases Ad H
    exact hr
theorem en_59:En Tryz.prog 59:=.of Tryz.func59 rfl rfl
noncomputable def impl_RuleNests_l3(a0:Ah)(a1:(List Ay))(e17:A9):(List Bc×Int)→Option ((List Bc×Int)⊕List Bc):=fun s=>match s with
  | (l19,v20)=>cond (decide (v20<(a1.length:Int))) ((idx a1 v20).bind fun e23=>(impl_Entry_yvalues e23 (ByteArray.mk #[99,110])).bind fun r25=>(gdO (!((r25.length:Int)==0)) (idx r25 0)).bind fun e27=>(gdO (!((r25.length:Int)==0)) (B5 e27)).bind fun r29=>(gdO (!(((r25.length:Int)==0)||(!r29))) (idx r25 0)).bind fun e31=>(gdO (!(((r25.length:Int)==0)||(!r29))) (impl_ygroupName e31)).bind fun r33=>cond ((((r25.length:Int)==0)||(!r29))||r33) (some (.inl (l19,(IntKind.i64.wrap (v20+1))))) ((impl_DirSchema_ymeets a0 e23 e17.Filter_ 0).bind fun q=>(match q with | (r35,r36)=>cond (r35==1) ((idx r25 0).bind fun e38=>(app l19 ([(⟨e17.Group_,e38⟩:Bc)]:List Bc)).bind fun l40=>some (.inl (l40,(IntKind.i64.wrap (v20+1))))) (some (.inl (l19,(IntKind.i64.wrap (v20+1)))))))) (some (.inr l19))
noncomputable def impl_RuleNests_l2(a0:Ah)(a1:(List Ay))(a2:(List A9)):(List Bc×Int)→Option ((List Bc×Int)⊕List Bc):=fun s=>match s with
  | (l7,v8)=>cond (decide (v8<(a2.length:Int))) ((idx a2 v8).bind fun e17=>(loopO (impl_RuleNests_l3 a0 a1 e17) (l7,0)).bind fun l21=>(match l21 with | l21=>some (.inl (l21,(IntKind.i64.wrap (v8+1)))))) (some (.inr l7))
noncomputable def impl_RuleNests_l1(a2:(List A9)):Int→Option (Int⊕(Unit⊕(List Bc))):=fun s=>match s with
  | v5=>cond (decide (v5<(a2.length:Int))) ((idx a2 v5).bind fun e47=>(impl_ygroupName e47.Group_).bind fun r49=>(gdO ((!(!r49))&&decide (v5 > 0)) (idx a2 (IntKind.i64.wrap (v5 - 1)))).bind fun e51=>(gdO (!((!r49)||(decide (v5 > 0)&&(!(Op.bytesLess e51.Group_.toList e47.Group_.toList))))) (impl_GoodFilter e47.Filter_)).bind fun r53=>cond (((!r49)||(decide (v5 > 0)&&(!(Op.bytesLess e51.Group_.toList e47.Group_.toList))))||(!r53)) (some (.inr (.inr ([]:List Bc)))) (some (.inl (IntKind.i64.wrap (v5+1))))) (some (.inr (.inl ())))
noncomputable def impl_RuleNests(a0:Ah)(a1:(List Ay))(a2:(List A9)):Option (List Bc) :=
  (impl_GoodDirSchema a0).bind fun r1=>(gdO (!(((!r1)||decide ((a1.length:Int) > 200))||decide ((a2.length:Int) > 20))) (impl_Entry_ a1)).bind fun r3=>cond ((((!r1)||decide ((a1.length:Int) > 200))||decide ((a2.length:Int) > 20))||r3) (some ([]:List Bc)) ((loopO (impl_RuleNests_l1 a2) 0).bind fun q55=>(match q55 with | .inl _=>(loopO (impl_RuleNests_l2 a0 a1 a2) (([]:List Bc),0)).bind fun l9=>(match l9 with | l9=>(sortO (fun x y=>le57 x.Group_ x.Member_ y.Group_ y.Member_) l9).bind fun l10=>(impl_Nest_x l10).bind fun r12=>(impl_GoodNests r12).bind fun r14=>cond (!r14) (some ([]:List Bc)) (some r12)) | .inr q6=>some q6))
theorem impl_RuleNests_p (b0 : Bool) (b1 : Bool) (b2 : Bool) {a0 :          Ah} {a1 : (List      Ay)} {a2 : (List          A9)} {R0 : (List     Bc)} (H : impl_RuleNests a0 a1 a2 = some R0) :   Bu Tryz.prog 20 [.agg (           At b0 a0), .im b1 (a1.map (       An false)), .im b2 (a2.map (           A2 false))] (.im false (R0.map (      Au false))) := by
 refine Ba.of_TN (n:=126) Tryz.func20 rfl rfl rfl rfl ?_
 refine au 9 ?_
 obtain⟨r1,h2,H⟩:=Ac H
 refine TL.st rfl rfl rfl (Aq rfl en_30 rfl rfl (.cons _ _ _ _ (Lent.aggL (.cons _ _ _ _ (.imv _ _) (.cons _ _ _ _ (.imv _ _) .nil))) .nil) (impl_GoodDirSchema_p b0 h2)) ?_
 refine au 3 ?_
 refine TL.gcq rfl rfl rfl (.bool _) rfl rfl (fun h=>Bf (f:=An false) rfl rfl (gv h rfl)) ?_
 refine au 4 ?_
 refine TL.gcq rfl rfl rfl (.bool _) rfl rfl (fun h=>Bf (f:=A2 false) rfl rfl (gv h rfl)) ?_
 refine au 4 ?_
 obtain⟨r3,h4,H⟩:=Ac H
 refine TL.gcq rfl rfl rfl (.bool _) rfl rfl (fun h=>Aq rfl en_52 rfl (E5 (gv h rfl) rfl) (.cons _ _ _ _ (.imv _ _) (.cons _ _ _ _ (.fn _ _ _ _ _ rfl rfl (fun i c d h=>by simp at h) (fun i c d h=>by simp at h)) .nil)) (impl_Entry__p b1 (Bq h4 h))) ?_
 refine au 2 ?_
 refine T.cH H ?_ ?_<;>intro H h
 ·refine au 5 ?_
  refine Aj ?_
  cases Ad H
  exact⟨trivial,_,(.tmp _ _ _ _ rfl .nil),.nil⟩
 ·refine au 5 ?_
  refine TL.st rfl rfl rfl (Bf (f:=A2 false) rfl rfl rfl) ?_
  refine au 3 ?_
  obtain⟨q55,h56,H⟩:=Ac H
  refine T.lq (fun s=>match s with | v5=>[(1,.im b1 (a1.map (An false))),(2,.im b2 (a2.map (A2 false))),(3,.bx 0 0),(34,.im b2 (a2.map (A2 false))),(35,.int .i64 (a2.length:Int)),(36,.int .i64 v5)]) (fun s=>match s with | v5=>[.box (At b0 a0)]) (fun q ex fr σ=>match q with | .inl _=>ex = .exit 0∧fr = [(1,.im b1 (a1.map (An false))),(2,.im b2 (a2.map (A2 false))),(3,.bx 0 0)]∧σ = [.box (At b0 a0)] | .inr q6=>ex = .ret∧C5 Tryz.prog [.tmp 6] (fun v τ=>Told τ v (.im false (q6.map (Au false)))) .ret fr σ) h56 ?_ ?_
  ·rintro v5 y46 H
   refine au 5 ?_
   refine T.cH H ?_ ?_<;>intro H h
   ·refine au 6 ?_
    obtain⟨e47,h48,H⟩:=Ac H
    refine TL.st rfl rfl rfl (B7 (f:=A2 false) rfl rfl tyS_60 rfl rfl h48 rfl) ?_
    refine au 6 ?_
    refine T.drawn rfl ?_
    refine ad 2 ?_
    obtain⟨r49,h50,H⟩:=Ac H
    refine TD.qs rfl rfl (fun _=>Aq rfl en_54 rfl rfl (.cons _ _ _ _ (.cl _ rfl) .nil) (impl_ygroupName_p  h50)) ?_
    refine ad 3 ?_
    refine TD.cq rfl rfl rfl (.bool _) rfl (fun h _=>B3 rfl (gv h rfl) rfl rfl) ?_
    refine TD.cq rfl rfl rfl (.bool _) rfl (fun h _=>Bp rfl (gv h rfl)) ?_
    refine TD.cq rfl rfl rfl (.gd _ _) rfl (fun h _=>Bp rfl rfl) ?_
    refine TD.cq rfl rfl rfl (.gd _ _) rfl (fun h _=>Bp rfl rfl) ?_
    refine TD.cq rfl rfl rfl (.gd _ _) rfl (fun h _=>B3 rfl (gv h rfl) rfl rfl) ?_
    obtain⟨e51,h52,H⟩:=Ac H
    refine TD.cq rfl rfl rfl (.gd _ _) rfl (fun h _=>B7 (f:=A2 false) rfl rfl tyS_60 (gv h rfl) (gv h rfl) (Bq h52 h) rfl) ?_
    refine TD.cq rfl rfl rfl (.gd _ _) rfl (fun h _=>Bb rfl rfl rfl Bm (by decide) (gv h rfl) rfl trivial) ?_
    refine TD.cq rfl rfl rfl (.gd _ _) rfl (fun h _=>Bx rfl Bm (gv h rfl) (nb rfl) rfl) ?_
    refine TD.cr rfl rfl rfl (.gd _ _) rfl (fun h=>Bb rfl rfl rfl Bm (by decide) rfl rfl ⟨_,rfl,Nat.le_of_ble_eq_true rfl⟩) ?_
    refine TD.cr rfl rfl rfl (.gd _ _) rfl (fun h=>Bs rfl Bm (gv h rfl) rfl (nb rfl) rfl) ?_
    refine TD.cq rfl rfl rfl (.gd _ _) rfl (fun h _=>E4 rfl (gv h rfl) (gv h rfl) rfl) ?_
    refine TD.cq rfl rfl rfl (.bool _) rfl (fun h _=>Eq rfl (gv h rfl) rfl (fun k=>Ed (andi h k)) rfl) ?_
    refine ad 4 ?_
    obtain⟨r53,h54,H⟩:=Ac H
    refine TD.cq rfl rfl rfl (.bool _) rfl (fun h _=>Aq rfl en_32 rfl (Dc (gv h rfl)) (.cons _ _ _ _ (.cl _ rfl) .nil) (impl_GoodFilter_p false (Bq h54 h))) ?_
    refine TD.cq rfl rfl rfl (.bool _) rfl (fun h _=>o_not rfl (gv h rfl)) ?_
    refine TD.qs rfl rfl (fun _=>o_or rfl rfl rfl rfl (fun k=>Ed k)) ?_
    refine TD.nil ⟨rfl,?_⟩
    refine Af ?_
    refine T.cH H ?_ ?_<;>intro H h
    ·refine au 5 ?_
     refine Av (Aj ?_)
     exact Pk.id (Aj ⟨.inr ([]:List Bc),(Ad H).symm,rfl,⟨trivial,_,(.tmp _ _ _ _ rfl .nil),.nil⟩⟩)
    ·refine au 5 ?_
     exact Pk.of (Af ⟨(IntKind.i64.wrap (v5+1)),(Ad H).symm,rfl,rfl⟩)
   ·refine T.exit ?_
    refine Am ?_
    exact Pk.of (Am ⟨.inl (),(Ad H).symm,rfl,rfl,rfl⟩)
  ·rcases q55 with ⟨⟩ | q6
   ·rintro _ _ _ ⟨rfl,rfl,rfl⟩
    refine A6 ?_
    refine au 8 ?_
    refine TL.st rfl rfl rfl (Bf (f:=A2 false) rfl rfl rfl) ?_
    refine au 3 ?_
    refine T.conv (Cs.own (t:=9) 2 rfl (by decide)) ?_
    obtain⟨l9,h45,H⟩:=Ac H
    refine T.lq (fun s=>match s with | (l7,v8)=>[(1,.im b1 (a1.map (An false))),(3,.bx 0 0),(9,.hd 1 (l7.map (Au false)).length 0 (l7.map (Au false)).length),(67,.im b2 (a2.map (A2 false))),(68,.int .i64 (a2.length:Int)),(69,.int .i64 v8)]) (fun s=>match s with | (l7,v8)=>[.box (At b0 a0),.arr .clo 2 (l7.map (Au false))]) (fun q ex fr σ=>match q with | l9=>ex = .exit 2∧fr = [(9,.hd 1 (l9.map (Au false)).length 0 (l9.map (Au false)).length)]∧σ = [.box (At b0 a0),.arr .clo 2 (l9.map (Au false))]) h45 ?_ ?_
    ·rintro⟨l7,v8⟩ y16 H
     refine au 5 ?_
     refine T.cH H ?_ ?_<;>intro H h
     ·refine au 5 ?_
      obtain⟨e17,h18,H⟩:=Ac H
      refine TL.st rfl rfl rfl (B7 (f:=A2 false) rfl rfl tyS_60 rfl rfl h18 rfl) ?_
      refine au 7 ?_
      refine TL.st rfl rfl rfl (Bf (f:=An false) rfl rfl rfl) ?_
      refine au 3 ?_
      obtain⟨l21,h43,H⟩:=Ac H
      refine T.lq (fun s=>match s with | (l19,v20)=>[(1,.im b1 (a1.map (An false))),(3,.bx 0 0),(9,.hd 1 (l19.map (Au false)).length 0 (l19.map (Au false)).length),(11,.bx 2 0),(67,.im b2 (a2.map (A2 false))),(68,.int .i64 (a2.length:Int)),(69,.int .i64 v8),(73,.im b1 (a1.map (An false))),(74,.int .i64 (a1.length:Int)),(75,.int .i64 v20)]) (fun s=>match s with | (l19,v20)=>[.box (At b0 a0),.arr .clo 2 (l19.map (Au false)),.box (A2 false e17)]) (fun q ex fr σ=>match q with | l21=>ex = .exit 4∧fr = [(1,.im b1 (a1.map (An false))),(3,.bx 0 0),(9,.hd 1 (l21.map (Au false)).length 0 (l21.map (Au false)).length),(67,.im b2 (a2.map (A2 false))),(68,.int .i64 (a2.length:Int)),(69,.int .i64 v8)]∧σ = [.box (At b0 a0),.arr .clo 2 (l21.map (Au false)),.box (A2 false e17)]) h43 ?_ ?_
      ·rintro⟨l19,v20⟩ y22 H
       refine au 5 ?_
       refine T.cH H ?_ ?_<;>intro H h
       ·refine au 5 ?_
        obtain⟨e23,h24,H⟩:=Ac H
        refine TL.st rfl rfl rfl (B7 (f:=An false) rfl rfl De rfl rfl h24 rfl) ?_
        refine au 7 ?_
        obtain⟨r25,h26,H⟩:=Ac H
        refine TL.st rfl rfl rfl (Aq rfl en_46 rfl rfl (.cons _ _ _ _ (.cl _ rfl) (.cons _ _ _ _ (.cl _ rfl) .nil)) (impl_Entry_yvalues_p false h26)) ?_
        refine au 6 ?_
        refine TL.st rfl rfl rfl (Bf (f:=Aw) rfl rfl rfl) ?_
        refine au 3 ?_
        obtain⟨e27,h28,H⟩:=Ac H
        refine TL.gcq rfl rfl rfl (.bool _) rfl rfl (fun h=>B7 (f:=Aw) rfl rfl Bm (gv h rfl) rfl (Bq h28 h) rfl) ?_
        refine TL.gcq rfl rfl rfl (.bool _) rfl rfl (fun h=>Bx rfl Bm (gv h rfl) (nb rfl) rfl) ?_
        obtain⟨r29,h30,H⟩:=Ac H
        refine TL.gcq rfl rfl rfl (.bool _) rfl rfl (fun h=>Aq rfl en_55 rfl (Dc (gv h rfl)) (.cons _ _ _ _ (.cl _ rfl) .nil) (impl_GoodName_p  (Bq h30 h))) ?_
        refine au 4 ?_
        obtain⟨e31,h32,H⟩:=Ac H
        refine TL.gcq rfl rfl rfl (.bool _) rfl rfl (fun h=>B7 (f:=Aw) rfl rfl Bm (gv h rfl) rfl (Bq h32 h) rfl) ?_
        refine TL.gcq rfl rfl rfl (.bool _) rfl rfl (fun h=>Bx rfl Bm (gv h rfl) (nb rfl) rfl) ?_
        obtain⟨r33,h34,H⟩:=Ac H
        refine TL.gcq rfl rfl rfl (.bool _) rfl rfl (fun h=>Aq rfl en_54 rfl (Dc (gv h rfl)) (.cons _ _ _ _ (.cl _ rfl) .nil) (impl_ygroupName_p  (Bq h34 h))) ?_
        refine au 2 ?_
        refine T.cH H ?_ ?_<;>intro H h
        ·refine T.exit ?_
         refine Am ?_
         refine A6 ?_
         refine au 4 ?_
         exact Pk.of (Af ⟨(l19,(IntKind.i64.wrap (v20+1))),(Ad H).symm,rfl,rfl⟩)
        ·refine au 7 ?_
         obtain⟨⟨r35,r36⟩,h37,H⟩:=Ac H
         refine TL.st rfl rfl rfl (Aq rfl en_33 rfl rfl (.cons _ _ _ _ (Lent.aggL (.cons _ _ _ _ (.imv _ _) (.cons _ _ _ _ (.imv _ _) .nil))) (.cons _ _ _ _ (.cl _ rfl) (.cons _ _ _ _ (.cl _ rfl) (.cons _ _ _ _ (.cl _ rfl) .nil)))) (impl_DirSchema_ymeets_p b0 false false h37)) ?_
         refine au 11 ?_
         refine T.cH H ?_ ?_<;>intro H h
         ·refine T.drawn rfl ?_
          refine ad 4 ?_
          obtain⟨e38,h39,H⟩:=Ac H
          refine TD.qs rfl rfl (fun _=>B7 (f:=Aw) rfl rfl Bm rfl rfl h39 rfl) ?_
          refine TD.qs rfl rfl (fun _=>Bx rfl Bm rfl (nb rfl) rfl) ?_
          refine TD.qs rfl rfl (fun _=>Es rfl ⟨_,fun _=>rfl,rfl⟩ rfl rfl rfl) ?_
          refine TD.qs rfl rfl (fun _=>A8 (rows:=([(⟨e17.Group_,e38⟩:Bc)]:List Bc).map (Au false)) rfl rfl C0 ⟨_,rfl,rfl⟩ (by decide) rfl rfl rfl rfl rfl rfl) ?_
          obtain⟨l40,h41,H⟩:=Ac H
          refine TD.as rfl rfl (Ee (f:=Au false) (xs:=l19) (ys:=([(⟨e17.Group_,e38⟩:Bc)]:List Bc)) rfl rfl tyE_58 rfl rfl rfl rfl (by decide) rfl (fun _=>rfl) h41) ?_
          refine TD.qs rfl rfl (fun _=>Dm rfl rfl) ?_
          refine TD.nil ⟨rfl,?_⟩
          refine Bh (Af ?_)
          refine T.conv (Cs.eqS (σ':=[_,.arr .clo 2 (l40.map (Au false)),_,.box (An false e23)]) rfl) ?_
          refine au 4 ?_
          exact Pk.of (Af ⟨(l40,(IntKind.i64.wrap (v20+1))),(Ad H).symm,rfl,rfl⟩)
         ·refine au 5 ?_
          exact Pk.of (Af ⟨(l19,(IntKind.i64.wrap (v20+1))),(Ad H).symm,rfl,rfl⟩)
       ·refine T.exit ?_
        refine Am ?_
        exact Pk.of (Am ⟨l19,(Ad H).symm,rfl,rfl,rfl⟩)
      ·rintro _ _ _ ⟨rfl,rfl,rfl⟩
       refine A6 ?_
       refine au 4 ?_
       exact Pk.of (Af ⟨(l21,(IntKind.i64.wrap (v8+1))),(Ad H).symm,rfl,rfl⟩)
     ·refine T.exit ?_
      refine Am ?_
      exact Pk.of (Am ⟨l7,(Ad H).symm,rfl,rfl,rfl⟩)
    ·rintro _ _ _ ⟨rfl,rfl,rfl⟩
     refine A6 ?_
     refine au 3 ?_
     obtain⟨l10,h11,H⟩:=Ac H
     refine TL.st rfl rfl rfl (lib_56 (g:=fun x=>x.Group_) (m:=fun x=>x.Member_) (fun _=>rfl) (fun x y h1 h2=>by cases x;cases y;simp_all) (f:=Au false) (xs:=l9) rfl en_56 rfl rfl rfl rfl rfl h11) ?_
     refine TL.conv (Cs.eqV (t:=9) (v':=.hd 1 (l10.map (Au false)).length 0 (l10.map (Au false)).length) rfl (B2 _ (sortO_len h11))) ?_
     refine TL.conv (Cs.eqV (t:=118) (v':=.hd 1 (l10.map (Au false)).length 0 (l10.map (Au false)).length) rfl (B2 _ (sortO_len h11))) ?_
     refine au 4 ?_
     obtain⟨r12,h13,H⟩:=Ac H
     refine TL.st rfl rfl rfl (Bn [1] rfl en_58 rfl rfl (impl_Nest_x_o  h13) rfl (by decide) (.cons _ _ _ _ rfl .nil) rfl rfl rfl) ?_
     refine au 6 ?_
     obtain⟨r14,h15,H⟩:=Ac H
     refine TL.st rfl rfl rfl (Aq rfl en_59 rfl rfl (.cons _ _ _ _ (.own rfl (by decide) rfl) .nil) (impl_GoodNests_p true h15)) ?_
     refine au 2 ?_
     refine T.cH H ?_ ?_<;>intro H h
     ·refine au 5 ?_
      refine Aj ?_
      cases Ad H
      exact⟨trivial,_,(.tmp _ _ _ _ rfl .nil),.nil⟩
     ·refine au 7 ?_
      cases Ad H
      exact⟨trivial,_,(.tmp _ _ _ _ rfl .nil),(.own rfl (by decide) rfl)⟩
   ·rintro _ fr1 σ1 ⟨rfl,hr⟩
    refine Av (Aj ?_)
    cases Ad H
    exact hr
theorem en_20:En Tryz.prog 20:=.of Tryz.func20 rfl rfl
noncomputable def spec_l1Digit(a0:Int):Option Bool :=
  some (decide (a0≥48)&&decide (a0≤57))
theorem spec_l1Digit_p {a0:Int} {R0:Bool} (H:spec_l1Digit a0=some R0):Bu Tryz.prog 107 [.int .u8 a0] (.bool R0):=by
 refine Ba.of_TN (n:=9) Tryz.func107 rfl rfl rfl rfl ?_
 refine au 15 ?_
 cases Ad H
 exact⟨trivial,_,(.tmp _ _ _ _ rfl .nil),(.cl _ rfl)⟩
theorem en_107:En Tryz.prog 107:=.of Tryz.func107 rfl rfl
noncomputable def spec_l1Letter(a0:Int):Option Bool :=
  some ((decide (a0≥97)&&decide (a0≤122))||(decide (a0≥65)&&decide (a0≤90)))
theorem spec_l1Letter_p {a0:Int} {R0:Bool} (H:spec_l1Letter a0=some R0):Bu Tryz.prog 108 [.int .u8 a0] (.bool R0):=by
 refine Ba.of_TN (n:=17) Tryz.func108 rfl rfl rfl rfl ?_
 refine au 15 ?_
 refine TL.gcq rfl rfl rfl (.bool _) rfl rfl (fun h=>Bp rfl (gv h rfl)) ?_
 refine TL.gcq rfl rfl rfl (.gd _ _) rfl rfl (fun h=>Bp rfl rfl) ?_
 refine TL.gcq rfl rfl rfl (.gd _ _) rfl rfl (fun h=>B3 rfl (gv h rfl) rfl rfl) ?_
 refine TL.gcq rfl rfl rfl (.bool _) rfl rfl (fun h=>Eq rfl (gv h rfl) rfl (fun k=>Ed (andi h k)) rfl) ?_
 refine au 4 ?_
 cases Ad H
 exact⟨trivial,_,(.tmp _ _ _ _ rfl .nil),(.cl _ rfl)⟩
theorem en_108:En Tryz.prog 108:=.of Tryz.func108 rfl rfl
noncomputable def spec_GoodName_l1(a0:ByteArray):Int→Option (Int⊕(Unit⊕Bool)):=fun s=>match s with
  | v5=>cond (decide (v5<(a0.size:Int))) ((Cr a0 v5).bind fun b8=>(spec_l1Letter b8).bind fun r10=>(gdO (!r10) (Cr a0 v5)).bind fun b12=>(gdO (!r10) (spec_l1Digit b12)).bind fun r14=>(gdO ((!r10)&&(!r14)) (Cr a0 v5)).bind fun b16=>cond (((!r10)&&(!r14))&&(b16 != 95)) (some (.inr (.inr false))) (some (.inl (IntKind.i64.wrap (v5+1))))) (some (.inr (.inl ())))
noncomputable def Cb(a0:ByteArray):Option Bool :=
  (gdO (!(decide ((a0.size:Int)<1)||decide ((a0.size:Int) > 30))) (Cr a0 0)).bind fun b1=>(gdO (!(decide ((a0.size:Int)<1)||decide ((a0.size:Int) > 30))) (spec_l1Digit b1)).bind fun r3=>cond ((decide ((a0.size:Int)<1)||decide ((a0.size:Int) > 30))||r3) (some false) ((loopO (spec_GoodName_l1 a0) 0).bind fun q18=>(match q18 with | .inl _=>some true | .inr q6=>some q6))
theorem spec_GoodName_p {a0:ByteArray} {R0:Bool} (H:Cb a0=some R0):Bu Tryz.prog 62 [.str a0] (.bool R0):=by
 refine Ba.of_TN (n:=41) Tryz.func62 rfl rfl rfl rfl ?_
 refine au 12 ?_
 refine TL.gcq rfl rfl rfl (.bool _) rfl rfl (fun h=>Fb rfl rfl (gv h rfl)) ?_
 refine au 4 ?_
 obtain⟨b1,h2,H⟩:=Ac H
 refine TL.gcq rfl rfl rfl (.bool _) rfl rfl (fun h=>Ct rfl rfl (gv h rfl) rfl (Bq h2 h)) ?_
 obtain⟨r3,h4,H⟩:=Ac H
 refine TL.gcq rfl rfl rfl (.bool _) rfl rfl (fun h=>Aq rfl en_107 rfl (Dc (gv h rfl)) (.cons _ _ _ _ (.cl _ rfl) .nil) (spec_l1Digit_p  (Bq h4 h))) ?_
 refine au 2 ?_
 refine T.cH H ?_ ?_<;>intro H h
 ·refine au 5 ?_
  refine Aj ?_
  cases Ad H
  exact⟨trivial,_,(.tmp _ _ _ _ rfl .nil),(.cl _ rfl)⟩
 ·refine au 7 ?_
  obtain⟨q18,h19,H⟩:=Ac H
  refine T.lq (fun s=>match s with | v5=>[(0,.str a0),(3,.int .i64 v5)]) (fun s=>match s with | v5=>[]) (fun q ex fr σ=>match q with | .inl _=>ex = .exit 0∧fr = []∧σ = [] | .inr q6=>ex = .ret∧C5 Tryz.prog [.tmp 2] (fun v τ=>Told τ v (.bool q6)) .ret fr σ) h19 ?_ ?_
  ·rintro v5 y7 H
   refine au 8 ?_
   refine T.cH H ?_ ?_<;>intro H h
   ·refine au 7 ?_
    obtain⟨b8,h9,H⟩:=Ac H
    refine TL.st rfl rfl rfl (Ct rfl rfl rfl rfl h9) ?_
    obtain⟨r10,h11,H⟩:=Ac H
    refine TL.st rfl rfl rfl (Aq rfl en_108 rfl rfl (.cons _ _ _ _ (.cl _ rfl) .nil) (spec_l1Letter_p  h11)) ?_
    refine au 4 ?_
    obtain⟨b12,h13,H⟩:=Ac H
    refine TL.gcq rfl rfl rfl (.bool _) rfl rfl (fun h=>Ct rfl rfl (gv h rfl) (gv h rfl) (Bq h13 h)) ?_
    obtain⟨r14,h15,H⟩:=Ac H
    refine TL.gcq rfl rfl rfl (.bool _) rfl rfl (fun h=>Aq rfl en_107 rfl (Dc (gv h rfl)) (.cons _ _ _ _ (.cl _ rfl) .nil) (spec_l1Digit_p  (Bq h15 h))) ?_
    refine au 5 ?_
    obtain⟨b16,h17,H⟩:=Ac H
    refine TL.gcq rfl rfl rfl (.bool _) rfl rfl (fun h=>Ct rfl rfl (gv h rfl) (gv h rfl) (Bq h17 h)) ?_
    refine au 3 ?_
    refine T.cH H ?_ ?_<;>intro H h
    ·refine au 5 ?_
     refine Av (Aj ?_)
     exact Pk.id (Aj ⟨.inr false,(Ad H).symm,rfl,⟨trivial,_,(.tmp _ _ _ _ rfl .nil),(.cl _ rfl)⟩⟩)
    ·refine au 6 ?_
     exact Pk.of (Af ⟨(IntKind.i64.wrap (v5+1)),(Ad H).symm,rfl,rfl⟩)
   ·refine T.exit ?_
    refine Am ?_
    exact Pk.of (Am ⟨.inl (),(Ad H).symm,rfl,rfl,rfl⟩)
  ·rcases q18 with ⟨⟩ | q6
   ·rintro _ _ _ ⟨rfl,rfl,rfl⟩
    refine A6 ?_
    refine au 5 ?_
    cases Ad H
    exact⟨trivial,_,(.tmp _ _ _ _ rfl .nil),(.cl _ rfl)⟩
   ·rintro _ fr1 σ1 ⟨rfl,hr⟩
    refine Av (Aj ?_)
    cases Ad H
    exact hr
theorem en_62:En Tryz.prog 62:=.of Tryz.func62 rfl rfl
noncomputable def spec_l3Rising_l1(a0:(List ByteArray)):Int→Option (Int⊕(Unit⊕Bool)):=fun s=>match s with
  | v1=>cond (decide (v1<(a0.length:Int))) ((idx a0 (IntKind.i64.wrap (v1 - 1))).bind fun e4=>(idx a0 v1).bind fun e6=>(B0 e4 e6).bind fun r8=>cond (decide (r8≥0)) (some (.inr (.inr false))) (some (.inl (IntKind.i64.wrap (v1+1))))) (some (.inr (.inl ())))
noncomputable def spec_l3Rising(a0:(List ByteArray)):Option Bool :=
  (loopO (spec_l3Rising_l1 a0) 1).bind fun q10=>(match q10 with | .inl _=>some true | .inr q2=>some q2)
theorem spec_l3Rising_p(b0:Bool){a0:(List ByteArray)}{R0:Bool}(H:spec_l3Rising a0=some R0):Bu Tryz.prog 80 [.im b0 (a0.map (Aw))] (.bool R0):=by
 refine Ba.of_TN (n:=21) Tryz.func80 rfl rfl rfl rfl ?_
 refine au 10 ?_
 obtain⟨q10,h11,H⟩:=Ac H
 refine T.lq (fun s=>match s with | v1=>[(0,.im b0 (a0.map (Aw))),(3,.int .i64 v1)]) (fun s=>match s with | v1=>[]) (fun q ex fr σ=>match q with | .inl _=>ex = .exit 0∧fr = []∧σ = [] | .inr q2=>ex = .ret∧C5 Tryz.prog [.tmp 2] (fun v τ=>Told τ v (.bool q2)) .ret fr σ) h11 ?_ ?_
 ·rintro v1 y3 H
  refine au 5 ?_
  refine TL.st rfl rfl rfl (Bf (f:=Aw) rfl rfl rfl) ?_
  refine au 2 ?_
  refine T.cH H ?_ ?_<;>intro H h
  ·refine au 4 ?_
   refine T.drawn rfl ?_
   refine ad 3 ?_
   obtain⟨e4,h5,H⟩:=Ac H
   refine TD.qs rfl rfl (fun _=>B7 (f:=Aw) rfl rfl Bm rfl rfl h5 rfl) ?_
   refine TD.qs rfl rfl (fun _=>Bx rfl Bm rfl (nb rfl) rfl) ?_
   refine ad 2 ?_
   obtain⟨e6,h7,H⟩:=Ac H
   refine TD.qs rfl rfl (fun _=>B7 (f:=Aw) rfl rfl Bm rfl rfl h7 rfl) ?_
   refine TD.qs rfl rfl (fun _=>Bx rfl Bm rfl (nb rfl) rfl) ?_
   obtain⟨r8,h9,H⟩:=Ac H
   refine TD.qs rfl rfl (fun _=>Aq rfl en_61 rfl rfl (.cons _ _ _ _ (.cl _ rfl) (.cons _ _ _ _ (.cl _ rfl) .nil)) (spec_l1CmpText_p  h9)) ?_
   refine TD.qs rfl rfl (fun _=>B3 rfl rfl rfl rfl) ?_
   refine TD.nil ⟨rfl,?_⟩
   refine Af ?_
   refine T.cH H ?_ ?_<;>intro H h
   ·refine au 5 ?_
    refine Av (Aj ?_)
    exact Pk.id (Aj ⟨.inr false,(Ad H).symm,rfl,⟨trivial,_,(.tmp _ _ _ _ rfl .nil),(.cl _ rfl)⟩⟩)
   ·refine au 6 ?_
    exact Pk.of (Af ⟨(IntKind.i64.wrap (v1+1)),(Ad H).symm,rfl,rfl⟩)
  ·refine T.exit ?_
   refine Am ?_
   exact Pk.of (Am ⟨.inl (),(Ad H).symm,rfl,rfl,rfl⟩)
 ·rcases q10 with ⟨⟩ | q2
  ·rintro _ _ _ ⟨rfl,rfl,rfl⟩
   refine A6 ?_
   refine au 5 ?_
   cases Ad H
   exact⟨trivial,_,(.tmp _ _ _ _ rfl .nil),(.cl _ rfl)⟩
  ·rintro _ fr1 σ1 ⟨rfl,hr⟩
   refine Av (Aj ?_)
   cases Ad H
   exact hr
theorem en_80:En Tryz.prog 80:=.of Tryz.func80 rfl rfl
noncomputable def spec_l3Class_l1(a0:Ah)(a1:ByteArray):Int→Option (Int⊕(Unit⊕(Ax×Bool))):=fun s=>match s with
  | v1=>cond (decide (v1<(a0.Classes_.length:Int))) ((idx a0.Classes_ v1).bind fun e4=>cond (e4.Name_.toList==a1.toList) (some (.inr (.inr (e4,true)))) (some (.inl (IntKind.i64.wrap (v1+1))))) (some (.inr (.inl ())))
noncomputable def spec_l3Class(a0:Ah)(a1:ByteArray):Option (Ax×Bool) :=
  (loopO (spec_l3Class_l1 a0 a1) 0).bind fun q6=>(match q6 with | .inl _=>some ((⟨e0,e0,([]:List ByteArray),([]:List ByteArray)⟩:Ax),false) | .inr q2=>some q2)
theorem spec_l3Class_p(b0:Bool){a0:Ah}{a1:ByteArray}{R0:Ax}{R1:Bool}(H:spec_l3Class a0 a1=some (R0,R1)):Bu Tryz.prog 81 [.agg (At b0 a0),.str a1] (.tup [.agg (Ak false R0),.bool R1]):=by
 refine Ba.of_TN (n:=22) Tryz.func81 rfl rfl rfl rfl ?_
 refine au 11 ?_
 refine TL.st rfl rfl rfl (Bf (f:=Ak false) rfl rfl rfl) ?_
 refine au 3 ?_
 obtain⟨q6,h7,H⟩:=Ac H
 refine T.lq (fun s=>match s with | v1=>[(1,.str a1),(4,.bx 1 0),(9,.im b0 (a0.Classes_.map (Ak false))),(10,.int .i64 (a0.Classes_.length:Int)),(11,.int .i64 v1)]) (fun s=>match s with | v1=>[.box (At b0 a0),.box [.str e0,.str e0,.nilS,.nilS]]) (fun q ex fr σ=>match q with | .inl _=>ex = .exit 0∧fr = [(4,.bx 1 0)]∧σ = [.box (At b0 a0),.box [.str e0,.str e0,.nilS,.nilS]] | .inr q2=>ex = .ret∧C5 Tryz.prog [.cell 4 108,.tmp 5] (fun v τ=>Told τ v (.tup [.agg (Ak false q2.1),.bool q2.2])) .ret fr σ) h7 ?_ ?_
 ·rintro v1 y3 H
  refine au 5 ?_
  refine T.cH H ?_ ?_<;>intro H h
  ·refine au 5 ?_
   obtain⟨e4,h5,H⟩:=Ac H
   refine TL.st rfl rfl rfl (B7 (f:=Ak false) rfl rfl Dw rfl rfl h5 rfl) ?_
   refine au 11 ?_
   refine T.cH H ?_ ?_<;>intro H h
   ·refine au 6 ?_
    refine T.conv (Cs.eqS (σ':=[_,.box (Ak false e4),.box (Ak false e4)]) rfl) ?_
    refine T.ret ?_
    refine Av (Aj ?_)
    exact Pk.id (Aj ⟨.inr (e4,true),(Ad H).symm,rfl,⟨trivial,_,(.cell _ _ _ _ _ _ _ _ _ _ rfl rfl Dw (nb rfl) rfl (.tmp _ _ _ _ rfl .nil)),(.tupL (.cons _ _ _ _ (.cl _ rfl) (.cons _ _ _ _ (.cl _ rfl) .nil)))⟩⟩)
   ·refine au 5 ?_
    exact Pk.of (Af ⟨(IntKind.i64.wrap (v1+1)),(Ad H).symm,rfl,rfl⟩)
  ·refine T.exit ?_
   refine Am ?_
   exact Pk.of (Am ⟨.inl (),(Ad H).symm,rfl,rfl,rfl⟩)
 ·rcases q6 with ⟨⟩ | q2
  ·rintro _ _ _ ⟨rfl,rfl,rfl⟩
   refine A6 ?_
   refine au 7 ?_
   cases Ad H
   exact⟨trivial,_,(.cell _ _ _ _ _ _ _ _ _ _ rfl rfl Dw (nb rfl) rfl (.tmp _ _ _ _ rfl .nil)),(.tupL (.cons _ _ _ _ (.aggL (.cons _ _ _ _ (.cl _ rfl) (.cons _ _ _ _ (.cl _ rfl) (.cons _ _ _ _ .nil (.cons _ _ _ _ .nil .nil))))) (.cons _ _ _ _ (.cl _ rfl) .nil)))⟩
  ·rintro _ fr1 σ1 ⟨rfl,hr⟩
   refine Av (Aj ?_)
   cases Ad H
   exact hr
theorem en_81:En Tryz.prog 81:=.of Tryz.func81 rfl rfl
noncomputable def spec_GoodDirSchema_l4(a0:Ah):(ByteArray×Int)→Option ((ByteArray×Int)⊕(Unit⊕Bool)):=fun s=>match s with
  | (v23,v24)=>cond (!(v23.toList==e0.toList)) ((spec_l3Class a0 v23).bind fun q=>(match q with | (r27,r28)=>cond ((!r28)||decide (v24 > (a0.Classes_.length:Int))) (some (.inr (.inr false))) (some (.inl (r27.Up_,(IntKind.i64.wrap (v24+1))))))) (some (.inr (.inl ())))
noncomputable def spec_GoodDirSchema_l5(a0:Ah)(e33:(List ByteArray)):Int→Option (Int⊕(Unit⊕Bool)):=fun s=>match s with
  | v35=>cond (decide (v35<(e33.length:Int))) ((idx e33 v35).bind fun e38=>(spec_l3Type a0 e38).bind fun q=>(match q with | (r40,r41)=>cond (!r41) (some (.inr (.inr false))) (some (.inl (IntKind.i64.wrap (v35+1)))))) (some (.inr (.inl ())))
noncomputable def spec_GoodDirSchema_l3(a0:Ah)(e9:Ax):Int→Option (Int⊕(Unit⊕Bool)):=fun s=>match s with
  | v21=>cond (decide (v21<(([e9.Must_,e9.May_]:List (List ByteArray)).length:Int))) ((idx ([e9.Must_,e9.May_]:List (List ByteArray)) v21).bind fun e33=>(loopO (spec_GoodDirSchema_l5 a0 e33) 0).bind fun q43=>(match q43 with | .inl _=>some (.inl (IntKind.i64.wrap (v21+1))) | .inr q36=>some (.inr (.inr q36)))) (some (.inr (.inl ())))
noncomputable def spec_GoodDirSchema_l2(a0:Ah):Int→Option (Int⊕(Unit⊕Bool)):=fun s=>match s with
  | v6=>cond (decide (v6<(a0.Classes_.length:Int))) ((idx a0.Classes_ v6).bind fun e9=>(Cb e9.Name_).bind fun r11=>(gdO ((!(!r11))&&decide (v6 > 0)) (idx a0.Classes_ (IntKind.i64.wrap (v6 - 1)))).bind fun e13=>(gdO ((!(!r11))&&decide (v6 > 0)) (B0 e13.Name_ e9.Name_)).bind fun r15=>(gdO (!((((!r11)||(decide (v6 > 0)&&decide (r15≥0)))||decide ((e9.Must_.length:Int) > 30))||decide ((e9.May_.length:Int) > 30))) (spec_l3Rising e9.Must_)).bind fun r17=>(gdO (!(((((!r11)||(decide (v6 > 0)&&decide (r15≥0)))||decide ((e9.Must_.length:Int) > 30))||decide ((e9.May_.length:Int) > 30))||(!r17))) (spec_l3Rising e9.May_)).bind fun r19=>cond ((((((!r11)||(decide (v6 > 0)&&decide (r15≥0)))||decide ((e9.Must_.length:Int) > 30))||decide ((e9.May_.length:Int) > 30))||(!r17))||(!r19)) (some (.inr (.inr false))) ((loopO (spec_GoodDirSchema_l3 a0 e9) 0).bind fun q45=>(match q45 with | .inl _=>(loopO (spec_GoodDirSchema_l4 a0) (e9.Up_,0)).bind fun q30=>(match q30 with | .inl _=>some (.inl (IntKind.i64.wrap (v6+1))) | .inr q25=>some (.inr (.inr q25))) | .inr q22=>some (.inr (.inr q22))))) (some (.inr (.inl ())))
noncomputable def spec_GoodDirSchema_l1(a0:Ah):Int→Option (Int⊕(Unit⊕Bool)):=fun s=>match s with
  | v1=>cond (decide (v1<(a0.Types_.length:Int))) ((idx a0.Types_ v1).bind fun e50=>(Cb e50.Name_).bind fun r52=>(gdO ((!(((!r52)||decide (e50.Syntax_<1))||decide (e50.Syntax_ > 4)))&&decide (v1 > 0)) (idx a0.Types_ (IntKind.i64.wrap (v1 - 1)))).bind fun e54=>(gdO ((!(((!r52)||decide (e50.Syntax_<1))||decide (e50.Syntax_ > 4)))&&decide (v1 > 0)) (B0 e54.Name_ e50.Name_)).bind fun r56=>cond ((((!r52)||decide (e50.Syntax_<1))||decide (e50.Syntax_ > 4))||(decide (v1 > 0)&&decide (r56≥0))) (some (.inr (.inr false))) (some (.inl (IntKind.i64.wrap (v1+1))))) (some (.inr (.inl ())))
noncomputable def spec_GoodDirSchema(a0:Ah):Option Bool :=
  cond (decide ((a0.Types_.length:Int) > 40)||decide ((a0.Classes_.length:Int) > 20)) (some false) ((loopO (spec_GoodDirSchema_l1 a0) 0).bind fun q58=>(match q58 with | .inl _=>(spec_l3Type a0 (ByteArray.mk #[99,108,97,115,115])).bind fun q=>(match q with | (r3,r4)=>cond (((!r4)||(r3.Syntax_ != 2))||r3.Single_) (some false) ((loopO (spec_GoodDirSchema_l2 a0) 0).bind fun q47=>(match q47 with | .inl _=>some true | .inr q7=>some q7))) | .inr q2=>some q2))
theorem spec_GoodDirSchema_p (b0 : Bool) {a0 :          Ah} {R0 : Bool} (H : spec_GoodDirSchema a0 = some R0) :   Bu Tryz.prog 35 [.agg (           At b0 a0)] (.bool R0) := by
 refine Ba.of_TN (n:=188) Tryz.func35 rfl rfl rfl rfl ?_
 refine au 10 ?_
 refine TL.st rfl rfl rfl (Bf (f:=Ae false) rfl rfl rfl) ?_
 refine au 4 ?_
 refine TL.gcq rfl rfl rfl (.bool _) rfl rfl (fun h=>Bf (f:=Ak false) rfl rfl (gv h rfl)) ?_
 refine au 3 ?_
 refine T.cH H ?_ ?_<;>intro H h
 ·refine au 5 ?_
  refine Aj ?_
  cases Ad H
  exact⟨trivial,_,(.tmp _ _ _ _ rfl .nil),(.cl _ rfl)⟩
 ·refine au 6 ?_
  refine TL.st rfl rfl rfl (Bf (f:=Ae false) rfl rfl rfl) ?_
  refine au 3 ?_
  obtain⟨q58,h59,H⟩:=Ac H
  refine T.lq (fun s=>match s with | v1=>[(1,.bx 0 0),(30,.im b0 (a0.Types_.map (Ae false))),(31,.int .i64 (a0.Types_.length:Int)),(32,.int .i64 v1)]) (fun s=>match s with | v1=>[.box (At b0 a0)]) (fun q ex fr σ=>match q with | .inl _=>ex = .exit 0∧fr = [(1,.bx 0 0)]∧σ = [.box (At b0 a0)] | .inr q2=>ex = .ret∧C5 Tryz.prog [.tmp 2] (fun v τ=>Told τ v (.bool q2)) .ret fr σ) h59 ?_ ?_
  ·rintro v1 y49 H
   refine au 5 ?_
   refine T.cH H ?_ ?_<;>intro H h
   ·refine au 6 ?_
    obtain⟨e50,h51,H⟩:=Ac H
    refine TL.st rfl rfl rfl (B7 (f:=Ae false) rfl rfl D6 rfl rfl h51 rfl) ?_
    refine au 6 ?_
    refine T.drawn rfl ?_
    refine ad 2 ?_
    obtain⟨r52,h53,H⟩:=Ac H
    refine TD.qs rfl rfl (fun _=>Aq rfl en_62 rfl rfl (.cons _ _ _ _ (.cl _ rfl) .nil) (spec_GoodName_p  h53)) ?_
    refine ad 4 ?_
    refine TD.cq rfl rfl rfl (.bool _) rfl (fun h _=>B3 rfl (gv h rfl) rfl rfl) ?_
    refine ad 4 ?_
    refine TD.cq rfl rfl rfl (.bool _) rfl (fun h _=>B3 rfl (gv h rfl) rfl rfl) ?_
    refine ad 3 ?_
    refine TD.cq rfl rfl rfl (.bool _) rfl (fun h _=>B3 rfl (gv h rfl) rfl rfl) ?_
    refine TD.cq rfl rfl rfl (.bool _) rfl (fun h _=>Bp rfl (gv h rfl)) ?_
    refine TD.cr rfl rfl rfl (.gd _ _) rfl (fun h=>Bb rfl rfl rfl Ds (by decide) rfl rfl ⟨_,rfl,Nat.le_of_ble_eq_true rfl⟩) ?_
    refine TD.cr rfl rfl rfl (.gd _ _) rfl (fun h=>Bs rfl Ds (gv h rfl) rfl (nb rfl) rfl) ?_
    refine TD.cq rfl rfl rfl (.gd _ _) rfl (fun h _=>Bp rfl rfl) ?_
    refine TD.cq rfl rfl rfl (.gd _ _) rfl (fun h _=>B3 rfl (gv h rfl) rfl rfl) ?_
    obtain⟨e54,h55,H⟩:=Ac H
    refine TD.cq rfl rfl rfl (.gd _ _) rfl (fun h _=>B7 (f:=Ae false) rfl rfl D6 (gv h rfl) (gv h rfl) (Bq h55 h) rfl) ?_
    refine TD.cq rfl rfl rfl (.gd _ _) rfl (fun h _=>Bb rfl rfl rfl Bm (by decide) (gv h rfl) rfl trivial) ?_
    refine TD.cq rfl rfl rfl (.gd _ _) rfl (fun h _=>Bx rfl Bm (gv h rfl) (nb rfl) rfl) ?_
    refine TD.cr rfl rfl rfl (.gd _ _) rfl (fun h=>Bb rfl rfl rfl Bm (by decide) rfl rfl ⟨_,rfl,Nat.le_of_ble_eq_true rfl⟩) ?_
    refine TD.cr rfl rfl rfl (.gd _ _) rfl (fun h=>Bs rfl Bm (gv h rfl) rfl (nb rfl) rfl) ?_
    obtain⟨r56,h57,H⟩:=Ac H
    refine TD.cq rfl rfl rfl (.gd _ _) rfl (fun h _=>Aq rfl en_61 rfl (E5 (gv h rfl) (gv h rfl)) (.cons _ _ _ _ (.cl _ rfl) (.cons _ _ _ _ (.cl _ rfl) .nil)) (spec_l1CmpText_p  (Bq h57 h))) ?_
    refine TD.cq rfl rfl rfl (.gd _ _) rfl (fun h _=>B3 rfl (gv h rfl) rfl rfl) ?_
    refine TD.cq rfl rfl rfl (.bool _) rfl (fun h _=>Eq rfl (gv h rfl) rfl (fun k=>Ed (andi h k)) rfl) ?_
    refine TD.qs rfl rfl (fun _=>o_or rfl rfl rfl rfl (fun k=>Ed k)) ?_
    refine TD.nil ⟨rfl,?_⟩
    refine Af ?_
    refine T.cH H ?_ ?_<;>intro H h
    ·refine au 5 ?_
     refine Av (Aj ?_)
     exact Pk.id (Aj ⟨.inr false,(Ad H).symm,rfl,⟨trivial,_,(.tmp _ _ _ _ rfl .nil),(.cl _ rfl)⟩⟩)
    ·refine au 5 ?_
     exact Pk.of (Af ⟨(IntKind.i64.wrap (v1+1)),(Ad H).symm,rfl,rfl⟩)
   ·refine T.exit ?_
    refine Am ?_
    exact Pk.of (Am ⟨.inl (),(Ad H).symm,rfl,rfl,rfl⟩)
  ·rcases q58 with ⟨⟩ | q2
   ·rintro _ _ _ ⟨rfl, rfl, rfl⟩
    refine A6 ?_
    refine au 4 ?_
    obtain⟨⟨r3,r4⟩,h5,H⟩:=Ac H
    refine TL.st rfl rfl rfl (Aq rfl en_65 rfl rfl (.cons _ _ _ _ (Lent.aggL (.cons _ _ _ _ (.imv _ _) (.cons _ _ _ _ (.imv _ _) .nil))) (.cons _ _ _ _ (.cl _ rfl) .nil)) (spec_l3Type_p b0 h5)) ?_
    refine au 21 ?_
    refine T.cH H ?_ ?_<;>intro H h
    ·refine au 5 ?_
     refine Aj ?_
     cases Ad H
     exact⟨trivial,_,(.tmp _ _ _ _ rfl .nil),(.cl _ rfl)⟩
    ·refine au 6 ?_
     refine TL.st rfl rfl rfl (Bf (f:=Ak false) rfl rfl rfl) ?_
     refine au 3 ?_
     obtain⟨q47,h48,H⟩:=Ac H
     refine T.lq (fun s=>match s with | v6=>[(1,.bx 0 0),(86,.im b0 (a0.Classes_.map (Ak false))),(87,.int .i64 (a0.Classes_.length:Int)),(88,.int .i64 v6)]) (fun s=>match s with | v6=>[.box (At b0 a0),.box (Ae false r3)]) (fun q ex fr σ=>match q with | .inl _=>ex = .exit 2∧fr = []∧σ = [.box (At b0 a0),.box (Ae false r3)] | .inr q7=>ex = .ret∧C5 Tryz.prog [.tmp 2] (fun v τ=>Told τ v (.bool q7)) .ret fr σ) h48 ?_ ?_
     ·rintro v6 y8 H
      refine au 5 ?_
      refine T.cH H ?_ ?_<;>intro H h
      ·refine au 6 ?_
       obtain⟨e9,h10,H⟩:=Ac H
       refine TL.st rfl rfl rfl (B7 (f:=Ak false) rfl rfl Dw rfl rfl h10 rfl) ?_
       refine au 7 ?_
       refine T.drawn rfl ?_
       refine ad 2 ?_
       obtain⟨r11,h12,H⟩:=Ac H
       refine TD.qs rfl rfl (fun _=>Aq rfl en_62 rfl rfl (.cons _ _ _ _ (.cl _ rfl) .nil) (spec_GoodName_p  h12)) ?_
       refine ad 3 ?_
       refine TD.cq rfl rfl rfl (.bool _) rfl (fun h _=>B3 rfl (gv h rfl) rfl rfl) ?_
       refine TD.cq rfl rfl rfl (.bool _) rfl (fun h _=>Bp rfl (gv h rfl)) ?_
       refine TD.cr rfl rfl rfl (.gd _ _) rfl (fun h=>Bb rfl rfl rfl Dr (by decide) rfl rfl ⟨_,rfl,Nat.le_of_ble_eq_true rfl⟩) ?_
       refine TD.cr rfl rfl rfl (.gd _ _) rfl (fun h=>Bs rfl Dr (gv h rfl) rfl (nb rfl) rfl) ?_
       refine TD.cq rfl rfl rfl (.gd _ _) rfl (fun h _=>Bp rfl rfl) ?_
       refine TD.cq rfl rfl rfl (.gd _ _) rfl (fun h _=>B3 rfl (gv h rfl) rfl rfl) ?_
       obtain⟨e13,h14,H⟩:=Ac H
       refine TD.cq rfl rfl rfl (.gd _ _) rfl (fun h _=>B7 (f:=Ak false) rfl rfl Dw (gv h rfl) (gv h rfl) (Bq h14 h) rfl) ?_
       refine TD.cq rfl rfl rfl (.gd _ _) rfl (fun h _=>Bb rfl rfl rfl Bm (by decide) (gv h rfl) rfl trivial) ?_
       refine TD.cq rfl rfl rfl (.gd _ _) rfl (fun h _=>Bx rfl Bm (gv h rfl) (nb rfl) rfl) ?_
       refine TD.cr rfl rfl rfl (.gd _ _) rfl (fun h=>Bb rfl rfl rfl Bm (by decide) rfl rfl ⟨_,rfl,Nat.le_of_ble_eq_true rfl⟩) ?_
       refine TD.cr rfl rfl rfl (.gd _ _) rfl (fun h=>Bs rfl Bm (gv h rfl) rfl (nb rfl) rfl) ?_
       obtain⟨r15,h16,H⟩:=Ac H
       refine TD.cq rfl rfl rfl (.gd _ _) rfl (fun h _=>Aq rfl en_61 rfl (E5 (gv h rfl) (gv h rfl)) (.cons _ _ _ _ (.cl _ rfl) (.cons _ _ _ _ (.cl _ rfl) .nil)) (spec_l1CmpText_p  (Bq h16 h))) ?_
       refine TD.cq rfl rfl rfl (.gd _ _) rfl (fun h _=>B3 rfl (gv h rfl) rfl rfl) ?_
       refine TD.cq rfl rfl rfl (.bool _) rfl (fun h _=>Eq rfl (gv h rfl) rfl (fun k=>Ed (andi h k)) rfl) ?_
       refine ad 4 ?_
       refine TD.cq rfl rfl rfl (.bool _) rfl (fun h _=>Bf (f:=Aw) rfl rfl (gv h rfl)) ?_
       refine TD.cq rfl rfl rfl (.bool _) rfl (fun h _=>B3 rfl (gv h rfl) rfl rfl) ?_
       refine ad 4 ?_
       refine TD.cq rfl rfl rfl (.bool _) rfl (fun h _=>Bf (f:=Aw) rfl rfl (gv h rfl)) ?_
       refine TD.cq rfl rfl rfl (.bool _) rfl (fun h _=>B3 rfl (gv h rfl) rfl rfl) ?_
       refine ad 4 ?_
       obtain⟨r17,h18,H⟩:=Ac H
       refine TD.cq rfl rfl rfl (.bool _) rfl (fun h _=>Aq rfl en_80 rfl (Dc (gv h rfl)) (.cons _ _ _ _ (.cl _ rfl) .nil) (spec_l3Rising_p false (Bq h18 h))) ?_
       refine TD.cq rfl rfl rfl (.bool _) rfl (fun h _=>o_not rfl (gv h rfl)) ?_
       refine ad 4 ?_
       obtain⟨r19,h20,H⟩:=Ac H
       refine TD.cq rfl rfl rfl (.bool _) rfl (fun h _=>Aq rfl en_80 rfl (Dc (gv h rfl)) (.cons _ _ _ _ (.cl _ rfl) .nil) (spec_l3Rising_p false (Bq h20 h))) ?_
       refine TD.cq rfl rfl rfl (.bool _) rfl (fun h _=>o_not rfl (gv h rfl)) ?_
       refine TD.qs rfl rfl (fun _=>o_or rfl rfl rfl rfl (fun k=>Ed k)) ?_
       refine TD.nil ⟨rfl,?_⟩
       refine Af ?_
       refine T.cH H ?_ ?_<;>intro H h
       ·refine au 5 ?_
        refine Aj (Av (Aj ?_))
        exact Pk.id (Aj ⟨.inr false,(Ad H).symm,rfl,⟨trivial,_,(.tmp _ _ _ _ rfl .nil),(.cl _ rfl)⟩⟩)
       ·refine au 8 ?_
        refine TL.st rfl rfl rfl (A8 (rows:=([e9.Must_,e9.May_]:List (List ByteArray)).map (Et (Aw))) rfl rfl E0 ⟨_,rfl,rfl⟩ (by decide) rfl rfl rfl rfl rfl rfl) ?_
        refine TL.st rfl rfl rfl (Bf (f:=Et (Aw)) rfl rfl rfl) ?_
        refine au 3 ?_
        obtain⟨q45,h46,H⟩:=Ac H
        refine T.lq (fun s=>match s with | v21=>[(1,.bx 0 0),(8,.bx 2 0),(86,.im b0 (a0.Classes_.map (Ak false))),(87,.int .i64 (a0.Classes_.length:Int)),(88,.int .i64 v6),(142,.im false (([e9.Must_,e9.May_]:List (List ByteArray)).map (Et (Aw)))),(143,.int .i64 (([e9.Must_,e9.May_]:List (List ByteArray)).length:Int)),(144,.int .i64 v21)]) (fun s=>match s with | v21=>[.box (At b0 a0),.box (Ae false r3),.box (Ak false e9)]) (fun q ex fr σ=>match q with | .inl _=>ex = .exit 4∧fr = [(1,.bx 0 0),(8,.bx 2 0),(86,.im b0 (a0.Classes_.map (Ak false))),(87,.int .i64 (a0.Classes_.length:Int)),(88,.int .i64 v6)]∧σ = [.box (At b0 a0),.box (Ae false r3),.box (Ak false e9)] | .inr q22=>ex = .ret∧C5 Tryz.prog [.tmp 2] (fun v τ=>Told τ v (.bool q22)) .ret fr σ) h46 ?_ ?_
        ·rintro v21 y32 H
         refine au 5 ?_
         refine T.cH H ?_ ?_<;>intro H h
         ·refine au 5 ?_
          obtain⟨e33,h34,H⟩:=Ac H
          refine TL.st rfl rfl rfl (B7 (f:=Et (Aw)) rfl rfl E0 rfl rfl h34 rfl) ?_
          refine au 6 ?_
          refine TL.st rfl rfl rfl (Bf (f:=Aw) rfl rfl rfl) ?_
          refine au 3 ?_
          obtain⟨q43,h44,H⟩:=Ac H
          refine T.lq (fun s=>match s with | v35=>[(1,.bx 0 0),(8,.bx 2 0),(86,.im b0 (a0.Classes_.map (Ak false))),(87,.int .i64 (a0.Classes_.length:Int)),(88,.int .i64 v6),(142,.im false (([e9.Must_,e9.May_]:List (List ByteArray)).map (Et (Aw)))),(143,.int .i64 (([e9.Must_,e9.May_]:List (List ByteArray)).length:Int)),(144,.int .i64 v21),(148,.im false (e33.map (Aw))),(149,.int .i64 (e33.length:Int)),(150,.int .i64 v35)]) (fun s=>match s with | v35=>[.box (At b0 a0),.box (Ae false r3),.box (Ak false e9)]) (fun q ex fr σ=>match q with | .inl _=>ex = .exit 6∧fr = [(1,.bx 0 0),(8,.bx 2 0),(86,.im b0 (a0.Classes_.map (Ak false))),(87,.int .i64 (a0.Classes_.length:Int)),(88,.int .i64 v6),(142,.im false (([e9.Must_,e9.May_]:List (List ByteArray)).map (Et (Aw)))),(143,.int .i64 (([e9.Must_,e9.May_]:List (List ByteArray)).length:Int)),(144,.int .i64 v21)]∧σ = [.box (At b0 a0),.box (Ae false r3),.box (Ak false e9)] | .inr q36=>ex = .ret∧C5 Tryz.prog [.tmp 2] (fun v τ=>Told τ v (.bool q36)) .ret fr σ) h44 ?_ ?_
          ·rintro v35 y37 H
           refine au 5 ?_
           refine T.cH H ?_ ?_<;>intro H h
           ·refine au 5 ?_
            obtain⟨e38,h39,H⟩:=Ac H
            refine TL.st rfl rfl rfl (B7 (f:=Aw) rfl rfl Bm rfl rfl h39 rfl) ?_
            refine au 7 ?_
            obtain⟨⟨r40,r41⟩,h42,H⟩:=Ac H
            refine TL.st rfl rfl rfl (Aq rfl en_65 rfl rfl (.cons _ _ _ _ (Lent.aggL (.cons _ _ _ _ (.imv _ _) (.cons _ _ _ _ (.imv _ _) .nil))) (.cons _ _ _ _ (.cl _ rfl) .nil)) (spec_l3Type_p b0 h42)) ?_
            refine au 12 ?_
            refine T.cH H ?_ ?_<;>intro H h
            ·refine au 5 ?_
             refine Av (Aj ?_)
             exact Pk.id (Aj ⟨.inr false,(Ad H).symm,rfl,⟨trivial,_,(.tmp _ _ _ _ rfl .nil),(.cl _ rfl)⟩⟩)
            ·refine au 5 ?_
             exact Pk.of (Af ⟨(IntKind.i64.wrap (v35+1)),(Ad H).symm,rfl,rfl⟩)
           ·refine T.exit ?_
            refine Am ?_
            exact Pk.of (Am ⟨.inl (),(Ad H).symm,rfl,rfl,rfl⟩)
          ·rcases q43 with ⟨⟩ | q36
           ·rintro _ _ _ ⟨rfl,rfl,rfl⟩
            refine A6 ?_
            refine au 4 ?_
            exact Pk.of (Af ⟨(IntKind.i64.wrap (v21+1)),(Ad H).symm,rfl,rfl⟩)
           ·rintro _ fr1 σ1 ⟨rfl,hr⟩
            refine Av (Av (Aj ?_))
            exact Pk.id (Aj ⟨.inr q36,(Ad H).symm,rfl,hr⟩)
         ·refine T.exit ?_
          refine Am ?_
          exact Pk.of (Am ⟨.inl (),(Ad H).symm,rfl,rfl,rfl⟩)
        ·rcases q45 with ⟨⟩ | q22
         ·rintro _ _ _ ⟨rfl,rfl,rfl⟩
          refine A6 ?_
          refine au 11 ?_
          obtain⟨q30,h31,H⟩:=Ac H
          refine T.lq (fun s=>match s with | (v23,v24)=>[(1,.bx 0 0),(15,.str v23),(16,.int .i64 v24),(86,.im b0 (a0.Classes_.map (Ak false))),(87,.int .i64 (a0.Classes_.length:Int)),(88,.int .i64 v6)]) (fun s=>match s with | (v23,v24)=>[.box (At b0 a0),.box (Ae false r3),.box (Ak false e9)]) (fun q ex fr σ=>match q with | .inl _=>ex = .exit 8∧fr = [(1,.bx 0 0),(86,.im b0 (a0.Classes_.map (Ak false))),(87,.int .i64 (a0.Classes_.length:Int)),(88,.int .i64 v6)]∧σ = [.box (At b0 a0),.box (Ae false r3),.box (Ak false e9)] | .inr q25=>ex = .ret∧C5 Tryz.prog [.tmp 2] (fun v τ=>Told τ v (.bool q25)) .ret fr σ) h31 ?_ ?_
          ·rintro⟨v23,v24⟩ y26 H
           refine au 6 ?_
           refine T.cH H ?_ ?_<;>intro H h
           ·refine au 7 ?_
            obtain⟨⟨r27,r28⟩,h29,H⟩:=Ac H
            refine TL.st rfl rfl rfl (Aq rfl en_81 rfl rfl (.cons _ _ _ _ (Lent.aggL (.cons _ _ _ _ (.imv _ _) (.cons _ _ _ _ (.imv _ _) .nil))) (.cons _ _ _ _ (.cl _ rfl) .nil)) (spec_l3Class_p b0 h29)) ?_
            refine au 16 ?_
            refine TL.gcq rfl rfl rfl (.bool _) rfl rfl (fun h=>Bf (f:=Ak false) rfl rfl (gv h rfl)) ?_
            refine TL.gcq rfl rfl rfl (.bool _) rfl rfl (fun h=>B3 rfl (gv h rfl) (gv h rfl) rfl) ?_
            refine au 2 ?_
            refine T.cH H ?_ ?_<;>intro H h
            ·refine au 5 ?_
             refine Aj (Av (Aj ?_))
             exact Pk.id (Aj ⟨.inr false,(Ad H).symm,rfl,⟨trivial,_,(.tmp _ _ _ _ rfl .nil),(.cl _ rfl)⟩⟩)
            ·refine au 11 ?_
             exact Pk.of (Af ⟨(r27.Up_,(IntKind.i64.wrap (v24+1))),(Ad H).symm,rfl,rfl⟩)
           ·refine T.exit ?_
            refine Am ?_
            exact Pk.of (Am ⟨.inl (),(Ad H).symm,rfl,rfl,rfl⟩)
          ·rcases q30 with ⟨⟩ | q25
           ·rintro _ _ _ ⟨rfl,rfl,rfl⟩
            refine A6 ?_
            refine au 4 ?_
            exact Pk.of (Af ⟨(IntKind.i64.wrap (v6+1)),(Ad H).symm,rfl,rfl⟩)
           ·rintro _ fr1 σ1 ⟨rfl,hr⟩
            refine Av (Av (Aj ?_))
            exact Pk.id (Aj ⟨.inr q25,(Ad H).symm,rfl,hr⟩)
         ·rintro _ fr1 σ1 ⟨rfl,hr⟩
          refine Av (Aj (Av (Aj ?_)))
          exact Pk.id (Aj ⟨.inr q22,(Ad H).symm,rfl,hr⟩)
      ·refine T.exit ?_
       refine Am ?_
       exact Pk.of (Am ⟨.inl (),(Ad H).symm,rfl,rfl,rfl⟩)
     ·rcases q47 with ⟨⟩ | q7
      ·rintro _ _ _ ⟨rfl,rfl,rfl⟩
       refine A6 ?_
       refine au 5 ?_
       cases Ad H
       exact⟨trivial,_,(.tmp _ _ _ _ rfl .nil),(.cl _ rfl)⟩
      ·rintro _ fr1 σ1 ⟨rfl,hr⟩
       refine Av (Aj ?_)
       cases Ad H
       exact hr
   ·rintro _ fr1 σ1 ⟨rfl,hr⟩
    refine Av (Aj ?_)
    cases Ad H
    exact hr
theorem en_35:En Tryz.prog 35:=.of Tryz.func35 rfl rfl
noncomputable def spec_l1Printed_l1(a0:ByteArray):Int→Option (Int⊕(Unit⊕Bool)):=fun s=>match s with
  | v1=>cond (decide (v1<(a0.size:Int))) ((Cr a0 v1).bind fun b4=>(gdO (!(decide (b4<32))) (Cr a0 v1)).bind fun b6=>cond (decide (b4<32)||decide (b6 > 126)) (some (.inr (.inr false))) (some (.inl (IntKind.i64.wrap (v1+1))))) (some (.inr (.inl ())))
noncomputable def spec_l1Printed(a0:ByteArray):Option Bool :=
  (loopO (spec_l1Printed_l1 a0) 0).bind fun q8=>(match q8 with | .inl _=>some true | .inr q2=>some q2)
theorem spec_l1Printed_p {a0:ByteArray} {R0:Bool} (H:spec_l1Printed a0=some R0):Bu Tryz.prog 82 [.str a0] (.bool R0):=by
 refine Ba.of_TN (n:=20) Tryz.func82 rfl rfl rfl rfl ?_
 refine au 10 ?_
 obtain⟨q8,h9,H⟩:=Ac H
 refine T.lq (fun s=>match s with | v1=>[(0,.str a0),(3,.int .i64 v1)]) (fun s=>match s with | v1=>[]) (fun q ex fr σ=>match q with | .inl _=>ex = .exit 0∧fr = []∧σ = [] | .inr q2=>ex = .ret∧C5 Tryz.prog [.tmp 2] (fun v τ=>Told τ v (.bool q2)) .ret fr σ) h9 ?_ ?_
 ·rintro v1 y3 H
  refine au 8 ?_
  refine T.cH H ?_ ?_<;>intro H h
  ·refine au 7 ?_
   obtain⟨b4,h5,H⟩:=Ac H
   refine TL.st rfl rfl rfl (Ct rfl rfl rfl rfl h5) ?_
   refine au 4 ?_
   obtain⟨b6,h7,H⟩:=Ac H
   refine TL.gcq rfl rfl rfl (.bool _) rfl rfl (fun h=>Ct rfl rfl (gv h rfl) (gv h rfl) (Bq h7 h)) ?_
   refine au 3 ?_
   refine T.cH H ?_ ?_<;>intro H h
   ·refine au 5 ?_
    refine Av (Aj ?_)
    exact Pk.id (Aj ⟨.inr false,(Ad H).symm,rfl,⟨trivial,_,(.tmp _ _ _ _ rfl .nil),(.cl _ rfl)⟩⟩)
   ·refine au 6 ?_
    exact Pk.of (Af ⟨(IntKind.i64.wrap (v1+1)),(Ad H).symm,rfl,rfl⟩)
  ·refine T.exit ?_
   refine Am ?_
   exact Pk.of (Am ⟨.inl (),(Ad H).symm,rfl,rfl,rfl⟩)
 ·rcases q8 with ⟨⟩ | q2
  ·rintro _ _ _ ⟨rfl,rfl,rfl⟩
   refine A6 ?_
   refine au 5 ?_
   cases Ad H
   exact⟨trivial,_,(.tmp _ _ _ _ rfl .nil),(.cl _ rfl)⟩
  ·rintro _ fr1 σ1 ⟨rfl,hr⟩
   refine Av (Aj ?_)
   cases Ad H
   exact hr
theorem en_82:En Tryz.prog 82:=.of Tryz.func82 rfl rfl
noncomputable def spec_GoodDirName_l1(a0:(List A4)):Int→Option (Int⊕(Unit⊕Bool)):=fun s=>match s with
  | v1=>cond (decide (v1<(a0.length:Int))) ((idx a0 v1).bind fun e4=>(Cb e4.Attr_).bind fun r6=>(gdO (!(((!r6)||decide ((e4.Text_.size:Int)<1))||decide ((e4.Text_.size:Int) > 60))) (spec_l1Printed e4.Text_)).bind fun r8=>cond ((((!r6)||decide ((e4.Text_.size:Int)<1))||decide ((e4.Text_.size:Int) > 60))||(!r8)) (some (.inr (.inr false))) (some (.inl (IntKind.i64.wrap (v1+1))))) (some (.inr (.inl ())))
noncomputable def spec_GoodDirName(a0:(List A4)):Option Bool :=
  (loopO (spec_GoodDirName_l1 a0) 0).bind fun q10=>(match q10 with | .inl _=>some (decide ((a0.length:Int)≤8)) | .inr q2=>some q2)
theorem spec_GoodDirName_p(b0:Bool){a0:(List A4)}{R0:Bool}(H:spec_GoodDirName a0=some R0):Bu Tryz.prog 47 [.im b0 (a0.map (A5 false))] (.bool R0):=by
 refine Ba.of_TN (n:=37) Tryz.func47 rfl rfl rfl rfl ?_
 refine au 8 ?_
 refine TL.st rfl rfl rfl (Bf (f:=A5 false) rfl rfl rfl) ?_
 refine au 3 ?_
 obtain⟨q10,h11,H⟩:=Ac H
 refine T.lq (fun s=>match s with | v1=>[(0,.im b0 (a0.map (A5 false))),(5,.im b0 (a0.map (A5 false))),(6,.int .i64 (a0.length:Int)),(7,.int .i64 v1)]) (fun s=>match s with | v1=>[]) (fun q ex fr σ=>match q with | .inl _=>ex = .exit 0∧fr = [(0,.im b0 (a0.map (A5 false)))]∧σ = [] | .inr q2=>ex = .ret∧C5 Tryz.prog [.tmp 2] (fun v τ=>Told τ v (.bool q2)) .ret fr σ) h11 ?_ ?_
 ·rintro v1 y3 H
  refine au 5 ?_
  refine T.cH H ?_ ?_<;>intro H h
  ·refine au 5 ?_
   obtain⟨e4,h5,H⟩:=Ac H
   refine TL.st rfl rfl rfl (B7 (f:=A5 false) rfl rfl Em rfl rfl h5 rfl) ?_
   refine au 8 ?_
   obtain⟨r6,h7,H⟩:=Ac H
   refine TL.st rfl rfl rfl (Aq rfl en_62 rfl rfl (.cons _ _ _ _ (.cl _ rfl) .nil) (spec_GoodName_p  h7)) ?_
   refine au 4 ?_
   refine TL.gcq rfl rfl rfl (.bool _) rfl rfl (fun h=>Fb rfl rfl (gv h rfl)) ?_
   refine au 5 ?_
   refine TL.gcq rfl rfl rfl (.bool _) rfl rfl (fun h=>Fb rfl rfl (gv h rfl)) ?_
   refine au 5 ?_
   obtain⟨r8,h9,H⟩:=Ac H
   refine TL.gcq rfl rfl rfl (.bool _) rfl rfl (fun h=>Aq rfl en_82 rfl (Dc (gv h rfl)) (.cons _ _ _ _ (.cl _ rfl) .nil) (spec_l1Printed_p  (Bq h9 h))) ?_
   refine au 3 ?_
   refine T.cH H ?_ ?_<;>intro H h
   ·refine au 5 ?_
    refine Av (Aj ?_)
    exact Pk.id (Aj ⟨.inr false,(Ad H).symm,rfl,⟨trivial,_,(.tmp _ _ _ _ rfl .nil),(.cl _ rfl)⟩⟩)
   ·refine au 5 ?_
    exact Pk.of (Af ⟨(IntKind.i64.wrap (v1+1)),(Ad H).symm,rfl,rfl⟩)
  ·refine T.exit ?_
   refine Am ?_
   exact Pk.of (Am ⟨.inl (),(Ad H).symm,rfl,rfl,rfl⟩)
 ·rcases q10 with ⟨⟩ | q2
  ·rintro _ _ _ ⟨rfl,rfl,rfl⟩
   refine A6 ?_
   refine au 3 ?_
   refine TL.st rfl rfl rfl (Bf (f:=A5 false) rfl rfl rfl) ?_
   refine au 4 ?_
   cases Ad H
   exact⟨trivial,_,(.tmp _ _ _ _ rfl .nil),(.cl _ rfl)⟩
  ·rintro _ fr1 σ1 ⟨rfl,hr⟩
   refine Av (Aj ?_)
   cases Ad H
   exact hr
theorem en_47:En Tryz.prog 47:=.of Tryz.func47 rfl rfl
noncomputable def spec_GoodEntry_l2(e6:B8):Int→Option (Int⊕(Unit⊕Bool)):=fun s=>match s with
  | v16=>cond (decide (v16<(e6.Values_.length:Int))) ((idx e6.Values_ v16).bind fun e19=>(gdO (!(decide ((e19.size:Int)<1)||decide ((e19.size:Int) > 200))) (spec_l1Printed e19)).bind fun r21=>cond ((decide ((e19.size:Int)<1)||decide ((e19.size:Int) > 200))||(!r21)) (some (.inr (.inr false))) (some (.inl (IntKind.i64.wrap (v16+1))))) (some (.inr (.inl ())))
noncomputable def spec_GoodEntry_l1(a0:Ay):Int→Option (Int⊕(Unit⊕Bool)):=fun s=>match s with
  | v3=>cond (decide (v3<(a0.Attrs_.length:Int))) ((idx a0.Attrs_ v3).bind fun e6=>(Cb e6.Name_).bind fun r8=>(gdO ((!(!r8))&&decide (v3 > 0)) (idx a0.Attrs_ (IntKind.i64.wrap (v3 - 1)))).bind fun e10=>(gdO ((!(!r8))&&decide (v3 > 0)) (B0 e10.Name_ e6.Name_)).bind fun r12=>(gdO (!((((!r8)||(decide (v3 > 0)&&decide (r12≥0)))||decide ((e6.Values_.length:Int)<1))||decide ((e6.Values_.length:Int) > 30))) (spec_l3Rising e6.Values_)).bind fun r14=>cond (((((!r8)||(decide (v3 > 0)&&decide (r12≥0)))||decide ((e6.Values_.length:Int)<1))||decide ((e6.Values_.length:Int) > 30))||(!r14)) (some (.inr (.inr false))) ((loopO (spec_GoodEntry_l2 e6) 0).bind fun q23=>(match q23 with | .inl _=>some (.inl (IntKind.i64.wrap (v3+1))) | .inr q17=>some (.inr (.inr q17))))) (some (.inr (.inl ())))
noncomputable def spec_GoodEntry(a0:Ay):Option Bool :=
  (spec_GoodDirName a0.Name_).bind fun r1=>cond ((((!r1)||((a0.Name_.length:Int)==0))||decide ((a0.Attrs_.length:Int)<1))||decide ((a0.Attrs_.length:Int) > 30)) (some false) ((loopO (spec_GoodEntry_l1 a0) 0).bind fun q25=>(match q25 with | .inl _=>some true | .inr q4=>some q4))
theorem spec_GoodEntry_p (b0 : Bool) {a0 :      Ay} {R0 : Bool} (H : spec_GoodEntry a0 = some R0) :   Bu Tryz.prog 36 [.agg (       An b0 a0)] (.bool R0) := by
 refine Ba.of_TN (n:=98) Tryz.func36 rfl rfl rfl rfl ?_
 refine au 10 ?_
 obtain⟨r1,h2,H⟩:=Ac H
 refine TL.st rfl rfl rfl (Aq rfl en_47 rfl rfl (.cons _ _ _ _ (.imv _ _) .nil) (spec_GoodDirName_p b0 h2)) ?_
 refine au 4 ?_
 refine TL.gcq rfl rfl rfl (.bool _) rfl rfl (fun h=>Bf (f:=A5 false) rfl rfl (gv h rfl)) ?_
 refine au 5 ?_
 refine TL.gcq rfl rfl rfl (.bool _) rfl rfl (fun h=>Bf (f:=Bj false) rfl rfl (gv h rfl)) ?_
 refine au 5 ?_
 refine TL.gcq rfl rfl rfl (.bool _) rfl rfl (fun h=>Bf (f:=Bj false) rfl rfl (gv h rfl)) ?_
 refine au 3 ?_
 refine T.cH H ?_ ?_<;>intro H h
 ·refine au 5 ?_
  refine Aj ?_
  cases Ad H
  exact⟨trivial,_,(.tmp _ _ _ _ rfl .nil),(.cl _ rfl)⟩
 ·refine au 6 ?_
  refine TL.st rfl rfl rfl (Bf (f:=Bj false) rfl rfl rfl) ?_
  refine au 3 ?_
  obtain⟨q25,h26,H⟩:=Ac H
  refine T.lq (fun s=>match s with | v3=>[(1,.bx 0 0),(30,.im b0 (a0.Attrs_.map (Bj false))),(31,.int .i64 (a0.Attrs_.length:Int)),(32,.int .i64 v3)]) (fun s=>match s with | v3=>[.box (An b0 a0)]) (fun q ex fr σ=>match q with | .inl _=>ex = .exit 0∧fr = []∧σ = [.box (An b0 a0)] | .inr q4=>ex = .ret∧C5 Tryz.prog [.tmp 2] (fun v τ=>Told τ v (.bool q4)) .ret fr σ) h26 ?_ ?_
  ·rintro v3 y5 H
   refine au 5 ?_
   refine T.cH H ?_ ?_<;>intro H h
   ·refine au 6 ?_
    obtain⟨e6,h7,H⟩:=Ac H
    refine TL.st rfl rfl rfl (B7 (f:=Bj false) rfl rfl Ez rfl rfl h7 rfl) ?_
    refine au 7 ?_
    refine T.drawn rfl ?_
    refine ad 2 ?_
    obtain⟨r8,h9,H⟩:=Ac H
    refine TD.qs rfl rfl (fun _=>Aq rfl en_62 rfl rfl (.cons _ _ _ _ (.cl _ rfl) .nil) (spec_GoodName_p  h9)) ?_
    refine ad 3 ?_
    refine TD.cq rfl rfl rfl (.bool _) rfl (fun h _=>B3 rfl (gv h rfl) rfl rfl) ?_
    refine TD.cq rfl rfl rfl (.bool _) rfl (fun h _=>Bp rfl (gv h rfl)) ?_
    refine TD.cr rfl rfl rfl (.gd _ _) rfl (fun h=>Bb rfl rfl rfl tyS_28 (by decide) rfl rfl ⟨_,rfl,Nat.le_of_ble_eq_true rfl⟩) ?_
    refine TD.cr rfl rfl rfl (.gd _ _) rfl (fun h=>Bs rfl tyS_28 (gv h rfl) rfl (nb rfl) rfl) ?_
    refine TD.cq rfl rfl rfl (.gd _ _) rfl (fun h _=>Bp rfl rfl) ?_
    refine TD.cq rfl rfl rfl (.gd _ _) rfl (fun h _=>B3 rfl (gv h rfl) rfl rfl) ?_
    obtain⟨e10,h11,H⟩:=Ac H
    refine TD.cq rfl rfl rfl (.gd _ _) rfl (fun h _=>B7 (f:=Bj false) rfl rfl Ez (gv h rfl) (gv h rfl) (Bq h11 h) rfl) ?_
    refine TD.cq rfl rfl rfl (.gd _ _) rfl (fun h _=>Bb rfl rfl rfl Bm (by decide) (gv h rfl) rfl trivial) ?_
    refine TD.cq rfl rfl rfl (.gd _ _) rfl (fun h _=>Bx rfl Bm (gv h rfl) (nb rfl) rfl) ?_
    refine TD.cr rfl rfl rfl (.gd _ _) rfl (fun h=>Bb rfl rfl rfl Bm (by decide) rfl rfl ⟨_,rfl,Nat.le_of_ble_eq_true rfl⟩) ?_
    refine TD.cr rfl rfl rfl (.gd _ _) rfl (fun h=>Bs rfl Bm (gv h rfl) rfl (nb rfl) rfl) ?_
    obtain⟨r12,h13,H⟩:=Ac H
    refine TD.cq rfl rfl rfl (.gd _ _) rfl (fun h _=>Aq rfl en_61 rfl (E5 (gv h rfl) (gv h rfl)) (.cons _ _ _ _ (.cl _ rfl) (.cons _ _ _ _ (.cl _ rfl) .nil)) (spec_l1CmpText_p  (Bq h13 h))) ?_
    refine TD.cq rfl rfl rfl (.gd _ _) rfl (fun h _=>B3 rfl (gv h rfl) rfl rfl) ?_
    refine TD.cq rfl rfl rfl (.bool _) rfl (fun h _=>Eq rfl (gv h rfl) rfl (fun k=>Ed (andi h k)) rfl) ?_
    refine ad 4 ?_
    refine TD.cq rfl rfl rfl (.bool _) rfl (fun h _=>Bf (f:=Aw) rfl rfl (gv h rfl)) ?_
    refine TD.cq rfl rfl rfl (.bool _) rfl (fun h _=>B3 rfl (gv h rfl) rfl rfl) ?_
    refine ad 4 ?_
    refine TD.cq rfl rfl rfl (.bool _) rfl (fun h _=>Bf (f:=Aw) rfl rfl (gv h rfl)) ?_
    refine TD.cq rfl rfl rfl (.bool _) rfl (fun h _=>B3 rfl (gv h rfl) rfl rfl) ?_
    refine ad 4 ?_
    obtain⟨r14,h15,H⟩:=Ac H
    refine TD.cq rfl rfl rfl (.bool _) rfl (fun h _=>Aq rfl en_80 rfl (Dc (gv h rfl)) (.cons _ _ _ _ (.cl _ rfl) .nil) (spec_l3Rising_p false (Bq h15 h))) ?_
    refine TD.cq rfl rfl rfl (.bool _) rfl (fun h _=>o_not rfl (gv h rfl)) ?_
    refine TD.qs rfl rfl (fun _=>o_or rfl rfl rfl rfl (fun k=>Ed k)) ?_
    refine TD.nil ⟨rfl,?_⟩
    refine Af ?_
    refine T.cH H ?_ ?_<;>intro H h
    ·refine au 5 ?_
     refine Aj (Av (Aj ?_))
     exact Pk.id (Aj ⟨.inr false,(Ad H).symm,rfl,⟨trivial,_,(.tmp _ _ _ _ rfl .nil),(.cl _ rfl)⟩⟩)
    ·refine au 5 ?_
     refine TL.st rfl rfl rfl (Bf (f:=Aw) rfl rfl rfl) ?_
     refine au 3 ?_
     obtain⟨q23,h24,H⟩:=Ac H
     refine T.lq (fun s=>match s with | v16=>[(1,.bx 0 0),(30,.im b0 (a0.Attrs_.map (Bj false))),(31,.int .i64 (a0.Attrs_.length:Int)),(32,.int .i64 v3),(77,.im false (e6.Values_.map (Aw))),(78,.int .i64 (e6.Values_.length:Int)),(79,.int .i64 v16)]) (fun s=>match s with | v16=>[.box (An b0 a0),.box (Bj false e6)]) (fun q ex fr σ=>match q with | .inl _=>ex = .exit 2∧fr = [(1,.bx 0 0),(30,.im b0 (a0.Attrs_.map (Bj false))),(31,.int .i64 (a0.Attrs_.length:Int)),(32,.int .i64 v3)]∧σ = [.box (An b0 a0),.box (Bj false e6)] | .inr q17=>ex = .ret∧C5 Tryz.prog [.tmp 2] (fun v τ=>Told τ v (.bool q17)) .ret fr σ) h24 ?_ ?_
     ·rintro v16 y18 H
      refine au 5 ?_
      refine T.cH H ?_ ?_<;>intro H h
      ·refine au 5 ?_
       obtain⟨e19,h20,H⟩:=Ac H
       refine TL.st rfl rfl rfl (B7 (f:=Aw) rfl rfl Bm rfl rfl h20 rfl) ?_
       refine au 10 ?_
       refine TL.gcq rfl rfl rfl (.bool _) rfl rfl (fun h=>Fb rfl rfl (gv h rfl)) ?_
       refine au 4 ?_
       obtain⟨r21,h22,H⟩:=Ac H
       refine TL.gcq rfl rfl rfl (.bool _) rfl rfl (fun h=>Aq rfl en_82 rfl (Dc (gv h rfl)) (.cons _ _ _ _ (.cl _ rfl) .nil) (spec_l1Printed_p  (Bq h22 h))) ?_
       refine au 3 ?_
       refine T.cH H ?_ ?_<;>intro H h
       ·refine au 5 ?_
        refine Av (Aj ?_)
        exact Pk.id (Aj ⟨.inr false,(Ad H).symm,rfl,⟨trivial,_,(.tmp _ _ _ _ rfl .nil),(.cl _ rfl)⟩⟩)
       ·refine au 5 ?_
        exact Pk.of (Af ⟨(IntKind.i64.wrap (v16+1)),(Ad H).symm,rfl,rfl⟩)
      ·refine T.exit ?_
       refine Am ?_
       exact Pk.of (Am ⟨.inl (),(Ad H).symm,rfl,rfl,rfl⟩)
     ·rcases q23 with ⟨⟩ | q17
      ·rintro _ _ _ ⟨rfl,rfl,rfl⟩
       refine A6 ?_
       refine au 4 ?_
       exact Pk.of (Af ⟨(IntKind.i64.wrap (v3+1)),(Ad H).symm,rfl,rfl⟩)
      ·rintro _ fr1 σ1 ⟨rfl,hr⟩
       refine Av (Av (Aj ?_))
       exact Pk.id (Aj ⟨.inr q17,(Ad H).symm,rfl,hr⟩)
   ·refine T.exit ?_
    refine Am ?_
    exact Pk.of (Am ⟨.inl (),(Ad H).symm,rfl,rfl,rfl⟩)
  ·rcases q25 with ⟨⟩ | q4
   ·rintro _ _ _ ⟨rfl,rfl,rfl⟩
    refine A6 ?_
    refine au 5 ?_
    cases Ad H
    exact⟨trivial,_,(.tmp _ _ _ _ rfl .nil),(.cl _ rfl)⟩
   ·rintro _ fr1 σ1 ⟨rfl,hr⟩
    refine Av (Aj ?_)
    cases Ad H
    exact hr
theorem en_36:En Tryz.prog 36:=.of Tryz.func36 rfl rfl
noncomputable def spec_l5Group(a0:ByteArray):Option Bool :=
  (Cb a0).bind fun r1=>(gdO r1 (Cr a0 0)).bind fun b3=>(gdO (r1&&decide (b3≥65)) (Cr a0 0)).bind fun b5=>some ((r1&&decide (b3≥65))&&decide (b5≤90))
theorem spec_l5Group_p {a0:ByteArray} {R0:Bool} (H:spec_l5Group a0=some R0):Bu Tryz.prog 60 [.str a0] (.bool R0):=by
 refine Ba.of_TN (n:=15) Tryz.func60 rfl rfl rfl rfl ?_
 refine au 7 ?_
 obtain⟨r1,h2,H⟩:=Ac H
 refine TL.st rfl rfl rfl (Aq rfl en_62 rfl rfl (.cons _ _ _ _ (.cl _ rfl) .nil) (spec_GoodName_p  h2)) ?_
 refine au 2 ?_
 obtain⟨b3,h4,H⟩:=Ac H
 refine TL.gcq rfl rfl rfl (.bool _) rfl rfl (fun h=>Ct rfl rfl (gv h rfl) rfl (Bq h4 h)) ?_
 refine au 4 ?_
 obtain⟨b5,h6,H⟩:=Ac H
 refine TL.gcq rfl rfl rfl (.bool _) rfl rfl (fun h=>Ct rfl rfl (gv h rfl) rfl (Bq h6 h)) ?_
 refine au 5 ?_
 cases Ad H
 exact⟨trivial,_,(.tmp _ _ _ _ rfl .nil),(.cl _ rfl)⟩
theorem en_60:En Tryz.prog 60:=.of Tryz.func60 rfl rfl
theorem tyS_80:TyS Tryz.prog 80 true 5:=⟨rfl,rfl⟩
theorem en_78:En Tryz.prog 78:=.of Tryz.func78 rfl rfl
theorem tyS_78:TyS Tryz.prog 78 false 1:=⟨rfl,rfl⟩
theorem tyE_80:TyE Tryz.prog 80 5:=⟨_,_,rfl,rfl,rfl,rfl,by decide,by decide⟩
def k_spec_l3F(a1:Nat)(b:Bool)(x:A3):List V:=((Ab b x.n_) ++ [.hd a1 (x.kids_.map (Ek)).length 0 (x.kids_.map (Ek)).length])
noncomputable def spec_l3Take_l1(a0:(List Aa))(a2:Int)(rec_spec_l3Take:((List Aa)×Int×Int)→Option (A3×Int)):(A3×Int×Int)→Option ((A3×Int×Int)⊕((A3×Int)⊕(A3×Int))):=fun s=>match s with
  | (b7,v8,v9)=>cond (decide (v9<b7.n_.Kids_)) ((rec_spec_l3Take (a0,v8,(IntKind.i64.wrap (a2+1)))).bind fun q=>(match q with | (r14,r15)=>cond (decide (r15<0)) (some (.inr (.inr ((⟨(⟨0,e0,e0,0⟩:Aa),([]:List (List V))⟩:A3),(-1))))) ((app b7.kids_ ([(A7 false r14)]:List (List V))).bind fun l17=>some (.inl ((⟨b7.n_,l17⟩:A3),r15,(IntKind.i64.wrap (v9+1))))))) (some (.inr (.inl (b7,v8))))
noncomputable def Cj(rec_spec_l3Take:((List Aa)×Int×Int)→Option (A3×Int))(a0:(List Aa))(a1:Int)(a2:Int):Option (A3×Int) :=
  (gdO (!(decide (a1≥(a0.length:Int))||decide (a2 > 20))) (idx a0 a1)).bind fun e1=>(gdO (!((decide (a1≥(a0.length:Int))||decide (a2 > 20))||decide (e1.Kids_<0))) (idx a0 a1)).bind fun e3=>cond (((decide (a1≥(a0.length:Int))||decide (a2 > 20))||decide (e1.Kids_<0))||decide (e3.Kids_ > 20)) (some ((⟨(⟨0,e0,e0,0⟩:Aa),([]:List (List V))⟩:A3),(-1))) ((idx a0 a1).bind fun e5=>(loopO (spec_l3Take_l1 a0 a2 rec_spec_l3Take) ((⟨e5,([]:List (List V))⟩:A3),(IntKind.i64.wrap (a1+1)),0)).bind fun q19=>(match q19 with | .inl (b10,v11)=>some (b10,v11) | .inr q12=>some q12))
noncomputable def spec_l3Take(a0:(List Aa))(a1:Int)(a2:Int):Option (A3×Int):=fixO (fun rec_spec_l3Take x=>match x with | (a0,a1,a2)=>Cj rec_spec_l3Take a0 a1 a2) (a0,a1,a2)
end Go.G36.FR
