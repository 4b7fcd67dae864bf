import Derived.Test.YtkhaafonmkjjmaaGreatDoorFT2
set_option linter.all false
set_option maxRecDepth 20000
set_option maxHeartbeats 4000000
namespace Go.G36.FT
open Go Go.Proofs Go.G36.MT
theorem spec_NameText_p (b0 : Bool) {a0 : (List I_Part)} {R0 : ByteArray} (H : spec_NameText a0 = some R0) : Pure Tryz.prog 156 [.im b0 (a0.map (c_I_Part false))] (.str R0):=by
 refine CallT.of_TN (n:=31) Tryz.func156 rfl rfl rfl rfl ?_
 refine au 8 ?_
 obtain ⟨r1,h2,H⟩:=bind_s H
 refine TL.st rfl rfl rfl (o_callP rfl en_47 rfl rfl (.cons _ _ _ _ (.imv _ _) .nil) (spec_GoodDirName_p b0 h2)) ?_
 refine au 2 ?_
 refine T.cH H ?_ ?_<;>intro H h
 ·refine au 5 ?_
  refine thn_ret ?_
  cases some_i H
  exact ⟨trivial,_,(.tmp _ _ _ _ rfl .nil),(.cl _ rfl)⟩
 ·refine au 9 ?_
  refine TL.st rfl rfl rfl (o_lenL (f:=c_I_Part false) rfl rfl rfl) ?_
  refine au 3 ?_
  obtain ⟨v5,h21,H⟩:=bind_s H
  refine T.lq (fun s=>match s with | (v3,v4)=>[(3,.str v3),(9,.im b0 (a0.map (c_I_Part false))),(10,.int .i64 (a0.length : Int)),(11,.int .i64 v4)]) (fun s=>match s with | (v3,v4)=>[]) (fun q ex fr σ=>match q with | v5=>ex = .exit 0 ∧ fr = [(3,.str v5)] ∧ σ = []) h21 ?_ ?_
  ·rintro ⟨v3,v4⟩ y6 H
   refine au 5 ?_
   refine T.cH H ?_ ?_<;>intro H h
   ·refine au 6 ?_
    obtain ⟨e7,h8,H⟩:=bind_s H
    refine TL.st rfl rfl rfl (o_ix (f:=c_I_Part false) rfl rfl tyS_96 rfl rfl h8 rfl) ?_
    refine au 5 ?_
    refine T.cut (fun fr' σ'=>∃ (v9 : ByteArray),fr' = [(3,.str v9),(5,.bx 0 0),(9,.im b0 (a0.map (c_I_Part false))),(10,.int .i64 (a0.length : Int)),(11,.int .i64 v4)] ∧ σ' = [.box (c_I_Part false e7)] ∧ spec_NameText_j1 v4 e7 v9 = some y6) (T.pk ?_) ?_
    ·skip
     refine au 5 ?_
     refine T.cH H ?_ ?_<;>intro H h
     ·refine au 2 ?_
      obtain ⟨s18,h19,H⟩:=bind_s H
      refine TL.st rfl rfl rfl (o_ct rfl rfl rfl h19) ?_
      refine au 2 ?_
      exact Pk.of (thn_normal ⟨s18,rfl,rfl,H⟩)
     ·refine T.skip ?_
      exact Pk.of (thn_normal ⟨v3,rfl,rfl,H⟩)
    ·rintro _ _ ⟨v9,rfl,rfl,H⟩
     refine T.drawn rfl ?_
     refine ad 3 ?_
     obtain ⟨s10,h11,H⟩:=bind_s H
     refine TD.qs rfl rfl (fun _=>o_ct rfl rfl rfl h11) ?_
     refine ad 2 ?_
     obtain ⟨r12,h13,H⟩:=bind_s H
     refine TD.qs rfl rfl (fun _=>o_callP rfl en_171 rfl rfl (.cons _ _ _ _ (.cl _ rfl) (.cons _ _ _ _ (.cl _ rfl) .nil)) (spec_l3Escaped_p  h13)) ?_
     obtain ⟨s14,h15,H⟩:=bind_s H
     refine TD.qs rfl rfl (fun _=>o_ct rfl rfl rfl h15) ?_
     obtain ⟨s16,h17,H⟩:=bind_s H
     refine TD.qs rfl rfl (fun _=>o_ct rfl rfl rfl h17) ?_
     refine TD.qs rfl rfl (fun _=>o_assign rfl rfl) ?_
     refine TD.nil ⟨rfl,?_⟩
     refine au 4 ?_
     exact Pk.of (thn_normal ⟨(s16,(IntKind.i64.wrap (v4 + 1))),(some_i H).symm,rfl,rfl⟩)
   ·refine T.exit ?_
    refine thn_exit ?_
    exact Pk.of (thn_exit ⟨v3,(some_i H).symm,rfl,rfl,rfl⟩)
  ·rintro _ _ _ ⟨rfl,rfl,rfl⟩
   refine inB_here ?_
   refine au 6 ?_
   cases some_i H
   exact ⟨trivial,_,(.tmp _ _ _ _ rfl .nil),(.cl _ rfl)⟩
theorem en_156 : En Tryz.prog 156:=.of Tryz.func156 rfl rfl
noncomputable def spec_ReadName_j1 (b16 : I_Part) (l17 : List I_Part) (l18 : List Int) (v19 : Bool) (v20 : Int) : Option ((I_Part × List I_Part × List Int × Bool × Int) ⊕ ((I_Part × List I_Part × List Int × Bool) ⊕ ((List I_Part) × Bool))) :=
  some (.inl (b16,l17,l18,v19,(IntKind.i64.wrap (v20 + 1))))
noncomputable def spec_ReadName_l1 (a0 : ByteArray) : (I_Part × List I_Part × List Int × Bool × Int) → Option ((I_Part × List I_Part × List Int × Bool × Int) ⊕ ((I_Part × List I_Part × List Int × Bool) ⊕ ((List I_Part) × Bool))):=fun s=>match s with
  | (b1,l2,l3,v4,v5)=>cond (decide (v5 < (a0.size : Int))) ((idxS a0 v5).bind fun b21=>cond ((!v4) && (b21 == 61)) (spec_ReadName_j1 (⟨(byS l3),b1.Text_⟩ : I_Part) l2 ([] : List Int) true v5) (cond (v4 && (b21 == 44)) ((app l2 ([(⟨b1.Attr_,(byS l3)⟩ : I_Part)] : List I_Part)).bind fun l23=>spec_ReadName_j1 (⟨b1.Attr_,(byS l3)⟩ : I_Part) l23 ([] : List Int) false v5) (cond (v4 && (b21 == 92)) (cond ((IntKind.i64.wrap (v5 + 1)) == (a0.size : Int)) (some (.inr (.inr (([] : List I_Part),false)))) ((idxS a0 (IntKind.i64.wrap (v5 + 1))).bind fun b25=>(app l3 ([b25] : List Int)).bind fun l27=>spec_ReadName_j1 b1 l2 l27 v4 (IntKind.i64.wrap (v5 + 1)))) ((app l3 ([b21] : List Int)).bind fun l29=>spec_ReadName_j1 b1 l2 l29 v4 v5)))) (some (.inr (.inl (b1,l2,l3,v4))))
noncomputable def spec_ReadName (a0 : ByteArray) : Option ((List I_Part) × Bool) :=
  cond (a0.toList == e0.toList) (some (([] : List I_Part),true)) (cond (decide ((a0.size : Int) > 2000)) (some (([] : List I_Part),false)) ((loopO (spec_ReadName_l1 a0) ((⟨e0,e0⟩ : I_Part),([] : List I_Part),([] : List Int),false,0)).bind fun q31=>(match q31 with | .inl (b6,l7,l8,v9)=>(app l7 ([(⟨b6.Attr_,(byS l8)⟩ : I_Part)] : List I_Part)).bind fun l11=>(gdO (!(!v9)) (spec_NameText l11)).bind fun r13=>cond ((!v9) || (!(r13.toList == a0.toList))) (some (([] : List I_Part),false)) (some (l11,true)) | .inr q10=>some q10)))
theorem spec_ReadName_p  {a0 : ByteArray} {R0 : (List I_Part)} {R1 : Bool} (H : spec_ReadName a0 = some (R0, R1)) : Pure Tryz.prog 130 [.str a0] (.tup [.im false (R0.map (c_I_Part false)), .bool R1]) := by
 refine CallT.of_TN (n:=86) Tryz.func130 rfl rfl rfl rfl ?_
 refine au 11 ?_
 refine T.cH H ?_ ?_<;>intro H h
 ·refine au 6 ?_
  refine thn_ret ?_
  cases some_i H
  exact ⟨trivial,_,(.tmp _ _ _ _ rfl (.tmp _ _ _ _ rfl .nil)),(.tupL (.cons _ _ _ _ .nil (.cons _ _ _ _ (.cl _ rfl) .nil)))⟩
 ·refine au 8 ?_
  refine T.cH H ?_ ?_<;>intro H h
  ·refine au 6 ?_
   refine thn_ret ?_
   cases some_i H
   exact ⟨trivial,_,(.tmp _ _ _ _ rfl (.tmp _ _ _ _ rfl .nil)),(.tupL (.cons _ _ _ _ .nil (.cons _ _ _ _ (.cl _ rfl) .nil)))⟩
  ·refine au 25 ?_
   refine T.conv (Cs.own (t:=4) 2 rfl (by decide)) ?_
   refine T.conv (Cs.own (t:=6) 1 rfl (by decide)) ?_
   obtain ⟨q31,h32,H⟩:=bind_s H
   refine T.lq (fun s=>match s with | (b1,l2,l3,v4,v5)=>[(0,.str a0),(4,.hd 1 (l2.map (c_I_Part false)).length 0 (l2.map (c_I_Part false)).length),(5,.bx 0 0),(6,.hd 2 (l3.map (c_int .u8)).length 0 (l3.map (c_int .u8)).length),(7,.bool v4),(8,.int .i64 v5)]) (fun s=>match s with | (b1,l2,l3,v4,v5)=>[.box (c_I_Part false b1),.arr .clo 2 (l2.map (c_I_Part false)),.arr .clo 1 (l3.map (c_int .u8))]) (fun q ex fr σ=>match q with | .inl (b6,l7,l8,v9)=>ex = .exit 0 ∧ fr = [(0,.str a0),(4,.hd 1 (l7.map (c_I_Part false)).length 0 (l7.map (c_I_Part false)).length),(5,.bx 0 0),(6,.hd 2 (l8.map (c_int .u8)).length 0 (l8.map (c_int .u8)).length),(7,.bool v9)] ∧ σ = [.box (c_I_Part false b6),.arr .clo 2 (l7.map (c_I_Part false)),.arr .clo 1 (l8.map (c_int .u8))] | .inr q10=>ex = .ret ∧ RetN Tryz.prog [.tmp 2,.tmp 3] (fun v τ=>Told τ v (.tup [.im false (q10.1.map (c_I_Part false)),.bool q10.2])) .ret fr σ) h32 ?_ ?_
   ·rintro ⟨b1,l2,l3,v4,v5⟩ y15 H
    refine au 8 ?_
    refine T.cH H ?_ ?_<;>intro H h
    ·refine T.skip ?_
     refine T.cut (fun fr' σ'=>∃ (b16 : I_Part) (l17 : List I_Part) (l18 : List Int) (v19 : Bool) (v20 : Int),fr' = [(0,.str a0),(4,.hd 1 (l17.map (c_I_Part false)).length 0 (l17.map (c_I_Part false)).length),(5,.bx 0 0),(6,.hd 2 (l18.map (c_int .u8)).length 0 (l18.map (c_int .u8)).length),(7,.bool v19),(8,.int .i64 v20)] ∧ σ' = [.box (c_I_Part false b16),.arr .clo 2 (l17.map (c_I_Part false)),.arr .clo 1 (l18.map (c_int .u8))] ∧ spec_ReadName_j1 b16 l17 l18 v19 v20 = some y15) (T.pk ?_) ?_
     ·skip
      refine au 5 ?_
      obtain ⟨b21,h22,H⟩:=bind_s H
      refine TL.st rfl rfl rfl (o_ixs rfl rfl rfl rfl h22) ?_
      refine au 13 ?_
      refine T.cH H ?_ ?_<;>intro H h
      ·refine au 3 ?_
       refine TL.st rfl rfl rfl (o_bsOwn (f:=c_int .u8) rfl rfl rfl rfl (fun _=>rfl) rfl rfl rfl) ?_
       refine au 6 ?_
       refine TL.conv (Cs.own (t:=6) 1 rfl (by decide)) ?_
       refine TL.conv (Cs.wkF (M:=4) (.k 0 rfl rfl (.k 4 rfl rfl (.k 5 rfl rfl (.k 6 rfl rfl (.k 7 rfl rfl (.k 8 rfl rfl (.k 9 rfl rfl (.k 16 rfl rfl (.k 17 rfl rfl (.k 18 rfl rfl (.k 19 rfl rfl (.k 22 rfl rfl (.k 23 rfl rfl (.k 24 rfl rfl (.k 29 rfl rfl (.k 30 rfl rfl (.k 31 rfl rfl (.k 32 rfl rfl (.k 35 rfl rfl (.k 37 rfl rfl (.k 38 rfl rfl .nil)))))))))))))))))))))) ?_
       refine TL.conv (Cs.reloc 2 3 rfl rfl (by decide) rfl rfl rfl (nomS_get rfl)) ?_
       refine TL.conv (Cs.wkF (M:=4) (.k 0 rfl rfl (.k 4 rfl rfl (.k 5 rfl rfl (.k 6 rfl rfl (.k 7 rfl rfl (.k 8 rfl rfl (.k 9 rfl rfl (.k 16 rfl rfl (.k 17 rfl rfl (.k 18 rfl rfl (.k 19 rfl rfl (.k 22 rfl rfl (.k 23 rfl rfl (.k 24 rfl rfl (.k 29 rfl rfl (.k 30 rfl rfl (.k 31 rfl rfl (.k 32 rfl rfl (.k 35 rfl rfl (.k 37 rfl rfl (.k 38 rfl rfl .nil)))))))))))))))))))))) ?_
       refine TL.conv (Cs.eqS (σ':=[.box [.str (byS l3),.str b1.Text_],_,.arr .clo 1 (([] : List Int).map (c_int .u8)),.dead]) rfl) ?_
       refine au 4 ?_
       refine inB_normal (inB_normal ?_)
       exact Pk.of (thn_normal ⟨(⟨(byS l3),b1.Text_⟩ : I_Part),l2,([] : List Int),true,v5,rfl,rfl,H⟩)
      ·refine au 9 ?_
       refine T.cH H ?_ ?_<;>intro H h
       ·refine au 3 ?_
        refine TL.st rfl rfl rfl (o_bsOwn (f:=c_int .u8) rfl rfl rfl rfl (fun _=>rfl) rfl rfl rfl) ?_
        refine au 7 ?_
        refine TL.st rfl rfl rfl (o_sliceIm (rows:=([(⟨b1.Attr_,(byS l3)⟩ : I_Part)] : List I_Part).map (c_I_Part false)) rfl rfl tyS_96 ⟨_,rfl,rfl⟩ (by decide) rfl rfl rfl rfl rfl rfl) ?_
        obtain ⟨l23,h24,H⟩:=bind_s H
        refine TL.st rfl rfl rfl (o_ap (f:=c_I_Part false) (xs:=l2) (ys:=([(⟨b1.Attr_,(byS l3)⟩ : I_Part)] : List I_Part)) rfl rfl tyE_96 rfl rfl rfl rfl (by decide) rfl (fun _=>rfl) h24) ?_
        refine au 5 ?_
        refine TL.conv (Cs.own (t:=6) 1 rfl (by decide)) ?_
        refine TL.conv (Cs.wkF (M:=4) (.k 0 rfl rfl (.k 4 rfl rfl (.k 5 rfl rfl (.k 6 rfl rfl (.k 7 rfl rfl (.k 8 rfl rfl (.k 9 rfl rfl (.k 16 rfl rfl (.k 17 rfl rfl (.k 18 rfl rfl (.k 19 rfl rfl (.k 22 rfl rfl (.k 23 rfl rfl (.k 24 rfl rfl (.k 29 rfl rfl (.k 30 rfl rfl (.k 31 rfl rfl (.k 32 rfl rfl (.k 35 rfl rfl (.k 39 rfl rfl (.k 40 rfl rfl (.k 41 rfl rfl (.k 44 rfl rfl (.k 46 rfl rfl (.k 47 rfl rfl (.k 48 rfl rfl (.k 49 rfl rfl (.k 50 rfl rfl (.k 51 rfl rfl .nil)))))))))))))))))))))))))))))) ?_
        refine TL.conv (Cs.reloc 2 3 rfl rfl (by decide) rfl rfl rfl (nomS_get rfl)) ?_
        refine TL.conv (Cs.wkF (M:=4) (.k 0 rfl rfl (.k 4 rfl rfl (.k 5 rfl rfl (.k 6 rfl rfl (.k 7 rfl rfl (.k 8 rfl rfl (.k 9 rfl rfl (.k 16 rfl rfl (.k 17 rfl rfl (.k 18 rfl rfl (.k 19 rfl rfl (.k 22 rfl rfl (.k 23 rfl rfl (.k 24 rfl rfl (.k 29 rfl rfl (.k 30 rfl rfl (.k 31 rfl rfl (.k 32 rfl rfl (.k 35 rfl rfl (.k 39 rfl rfl (.k 40 rfl rfl (.k 41 rfl rfl (.k 44 rfl rfl (.k 46 rfl rfl (.k 47 rfl rfl (.k 48 rfl rfl (.k 49 rfl rfl (.k 50 rfl rfl (.k 51 rfl rfl .nil)))))))))))))))))))))))))))))) ?_
        refine TL.conv (Cs.eqS (σ':=[.box [.str b1.Attr_,.str (byS l3)],.arr .clo 2 (l23.map (c_I_Part false)),.arr .clo 1 (([] : List Int).map (c_int .u8)),.dead]) rfl) ?_
        refine au 4 ?_
        refine inB_normal (inB_normal ?_)
        exact Pk.of (thn_normal ⟨(⟨b1.Attr_,(byS l3)⟩ : I_Part),l23,([] : List Int),false,v5,rfl,rfl,H⟩)
       ·refine au 9 ?_
        refine T.cH H ?_ ?_<;>intro H h
        ·refine au 14 ?_
         refine T.cH H ?_ ?_<;>intro H h
         ·refine au 6 ?_
          refine thn_ret (inB_ret (inB_ret ?_))
          refine Pk.id (thn_ret ?_)
          exact Pk.id (thn_ret ⟨.inr (([] : List I_Part),false),(some_i H).symm,rfl,⟨trivial,_,(.tmp _ _ _ _ rfl (.tmp _ _ _ _ rfl .nil)),(.tupL (.cons _ _ _ _ .nil (.cons _ _ _ _ (.cl _ rfl) .nil)))⟩⟩)
         ·refine au 5 ?_
          obtain ⟨b25,h26,H⟩:=bind_s H
          refine TL.st rfl rfl rfl (o_ixs rfl rfl rfl rfl h26) ?_
          refine TL.st rfl rfl rfl (o_sliceIm (rows:=([b25] : List Int).map (c_int .u8)) rfl rfl tyS_5 ⟨_,rfl,rfl⟩ (by decide) rfl rfl rfl rfl rfl rfl) ?_
          obtain ⟨l27,h28,H⟩:=bind_s H
          refine TL.st rfl rfl rfl (o_ap (f:=c_int .u8) (xs:=l3) (ys:=([b25] : List Int)) rfl rfl tyE_5 rfl rfl rfl rfl (by decide) rfl (fun _=>rfl) h28) ?_
          refine au 2 ?_
          refine inB_normal (inB_normal ?_)
          exact Pk.of (thn_normal ⟨b1,l2,l27,v4,(IntKind.i64.wrap (v5 + 1)),rfl,rfl,H⟩)
        ·refine au 3 ?_
         refine TL.st rfl rfl rfl (o_sliceIm (rows:=([b21] : List Int).map (c_int .u8)) rfl rfl tyS_5 ⟨_,rfl,rfl⟩ (by decide) rfl rfl rfl rfl rfl rfl) ?_
         obtain ⟨l29,h30,H⟩:=bind_s H
         refine TL.st rfl rfl rfl (o_ap (f:=c_int .u8) (xs:=l3) (ys:=([b21] : List Int)) rfl rfl tyE_5 rfl rfl rfl rfl (by decide) rfl (fun _=>rfl) h30) ?_
         refine au 2 ?_
         refine inB_normal (inB_normal ?_)
         exact Pk.of (thn_normal ⟨b1,l2,l29,v4,v5,rfl,rfl,H⟩)
     ·rintro _ _ ⟨b16,l17,l18,v19,v20,rfl,rfl,H⟩
      refine au 5 ?_
      exact Pk.of (thn_normal ⟨(b16,l17,l18,v19,(IntKind.i64.wrap (v20 + 1))),(some_i H).symm,rfl,rfl⟩)
    ·refine T.exit ?_
     refine thn_exit ?_
     exact Pk.of (thn_exit ⟨.inl (b1,l2,l3,v4),(some_i H).symm,rfl,rfl,rfl⟩)
   ·rcases q31 with ⟨b6,l7,l8,v9⟩ | q10
    ·rintro _ _ _ ⟨rfl,rfl,rfl⟩
     refine inB_here ?_
     refine au 3 ?_
     refine TL.st rfl rfl rfl (o_bsOwn (f:=c_int .u8) rfl rfl rfl rfl (fun _=>rfl) rfl rfl rfl) ?_
     refine au 7 ?_
     refine TL.st rfl rfl rfl (o_sliceIm (rows:=([(⟨b6.Attr_,(byS l8)⟩ : I_Part)] : List I_Part).map (c_I_Part false)) rfl rfl tyS_96 ⟨_,rfl,rfl⟩ (by decide) rfl rfl rfl rfl rfl rfl) ?_
     obtain ⟨l11,h12,H⟩:=bind_s H
     refine TL.st rfl rfl rfl (o_ap (f:=c_I_Part false) (xs:=l7) (ys:=([(⟨b6.Attr_,(byS l8)⟩ : I_Part)] : List I_Part)) rfl rfl tyE_96 rfl rfl rfl rfl (by decide) rfl (fun _=>rfl) h12) ?_
     refine au 9 ?_
     obtain ⟨r13,h14,H⟩:=bind_s H
     refine TL.gcq rfl rfl rfl (.bool _) rfl rfl (fun h=>o_callP rfl en_156 rfl (evl_1 (gv h rfl)) (.cons _ _ _ _ (.own rfl (by decide) rfl) .nil) (spec_NameText_p true (gdO_t h14 h))) ?_
     refine TL.gcq rfl rfl rfl (.bool _) rfl rfl (fun h=>o_move rfl rfl) ?_
     refine TL.gcq rfl rfl rfl (.bool _) rfl rfl (fun h=>o_str rfl (gv h rfl) (gv h rfl) rfl) ?_
     refine au 2 ?_
     refine T.cH H ?_ ?_<;>intro H h
     ·refine au 6 ?_
      refine thn_ret ?_
      cases some_i H
      exact ⟨trivial,_,(.tmp _ _ _ _ rfl (.tmp _ _ _ _ rfl .nil)),(.tupL (.cons _ _ _ _ .nil (.cons _ _ _ _ (.cl _ rfl) .nil)))⟩
     ·refine au 8 ?_
      cases some_i H
      exact ⟨trivial,_,(.tmp _ _ _ _ rfl (.tmp _ _ _ _ rfl .nil)),(.tupL (.cons _ _ _ _ (.own rfl (by decide) rfl) (.cons _ _ _ _ (.cl _ rfl) .nil)))⟩
    ·rintro _ fr1 σ1 ⟨rfl,hr⟩
     refine inB_ret (thn_ret ?_)
     cases some_i H
     exact hr
theorem en_130 : En Tryz.prog 130:=.of Tryz.func130 rfl rfl
noncomputable def spec_l3Of (a0 : Int) (a1 : ByteArray) : Option Bool :=
  cond (a0 == 3) ((spec_l1Whole a1).bind fun q=>(match q with | (r1,r2)=>some r2)) (cond (a0 == 4) ((spec_ReadName a1).bind fun q=>(match q with | (r4,r5)=>some r5)) (some true))
theorem spec_l3Of_p  {a0 : Int} {a1 : ByteArray} {R0 : Bool} (H : spec_l3Of a0 a1 = some R0) : Pure Tryz.prog 86 [.int .i64 a0,.str a1] (.bool R0):=by
 refine CallT.of_TN (n:=26) Tryz.func86 rfl rfl rfl rfl ?_
 refine au 15 ?_
 refine T.cH H ?_ ?_<;>intro H h
 ·refine au 3 ?_
  obtain ⟨⟨r1,r2⟩,h3,H⟩:=bind_s H
  refine TL.st rfl rfl rfl (o_callP rfl en_129 rfl rfl (.cons _ _ _ _ (.cl _ rfl) .nil) (spec_l1Whole_p  h3)) ?_
  refine au 12 ?_
  refine inB_ret (thn_ret ?_)
  cases some_i H
  exact ⟨trivial,_,(.tmp _ _ _ _ rfl .nil),(.cl _ rfl)⟩
 ·refine au 5 ?_
  refine T.cH H ?_ ?_<;>intro H h
  ·refine au 3 ?_
   obtain ⟨⟨r4,r5⟩,h6,H⟩:=bind_s H
   refine TL.st rfl rfl rfl (o_callP rfl en_130 rfl rfl (.cons _ _ _ _ (.cl _ rfl) .nil) (spec_ReadName_p  h6)) ?_
   refine au 12 ?_
   refine inB_ret (thn_ret ?_)
   cases some_i H
   exact ⟨trivial,_,(.tmp _ _ _ _ rfl .nil),(.cl _ rfl)⟩
  ·refine au 6 ?_
   cases some_i H
   exact ⟨trivial,_,(.tmp _ _ _ _ rfl .nil),(.cl _ rfl)⟩
theorem en_86 : En Tryz.prog 86:=.of Tryz.func86 rfl rfl
noncomputable def spec_l3Same (a0 : Int) (a1 : ByteArray) (a2 : ByteArray) : Option Bool :=
  cond (a0 == 1) ((capsO a1).bind fun r1=>(capsO a2).bind fun r3=>some (r1.toList == r3.toList)) ((gdO (a0 == 3) (spec_l3Of a0 a1)).bind fun r5=>cond ((a0 == 3) && (!r5)) (some false) (some (a1.toList == a2.toList)))
theorem spec_l3Same_p  {a0 : Int} {a1 : ByteArray} {a2 : ByteArray} {R0 : Bool} (H : spec_l3Same a0 a1 a2 = some R0) : Pure Tryz.prog 87 [.int .i64 a0,.str a1,.str a2] (.bool R0):=by
 refine CallT.of_TN (n:=25) Tryz.func87 rfl rfl rfl rfl ?_
 refine au 10 ?_
 refine T.cH H ?_ ?_<;>intro H h
 ·refine au 3 ?_
  obtain ⟨r1,h2,H⟩:=bind_s H
  refine TL.st rfl rfl rfl (o_callP rfl en_85 rfl rfl (.cons _ _ _ _ (.cl _ rfl) .nil) (MT.lib_85  h2)) ?_
  refine TL.st rfl rfl rfl (o_move rfl rfl) ?_
  obtain ⟨r3,h4,H⟩:=bind_s H
  refine TL.st rfl rfl rfl (o_callP rfl en_85 rfl rfl (.cons _ _ _ _ (.cl _ rfl) .nil) (MT.lib_85  h4)) ?_
  refine au 4 ?_
  refine thn_ret ?_
  cases some_i H
  exact ⟨trivial,_,(.tmp _ _ _ _ rfl .nil),(.cl _ rfl)⟩
 ·refine au 9 ?_
  obtain ⟨r5,h6,H⟩:=bind_s H
  refine TL.gcq rfl rfl rfl (.bool _) rfl rfl (fun h=>o_callP rfl en_86 rfl (evl_2 (gv h rfl) (gv h rfl)) (.cons _ _ _ _ (.cl _ rfl) (.cons _ _ _ _ (.cl _ rfl) .nil)) (spec_l3Of_p  (gdO_t h6 h))) ?_
  refine au 3 ?_
  refine T.cH H ?_ ?_<;>intro H h
  ·refine au 5 ?_
   refine thn_ret ?_
   cases some_i H
   exact ⟨trivial,_,(.tmp _ _ _ _ rfl .nil),(.cl _ rfl)⟩
  ·refine au 9 ?_
   cases some_i H
   exact ⟨trivial,_,(.tmp _ _ _ _ rfl .nil),(.cl _ rfl)⟩
theorem en_87 : En Tryz.prog 87:=.of Tryz.func87 rfl rfl
noncomputable def spec_l3Below (a0 : Int) (a1 : ByteArray) (a2 : ByteArray) : Option Int :=
  cond (a0 == 3) ((spec_l1Whole a1).bind fun q=>(match q with | (r1,r2)=>(spec_l1Whole a2).bind fun q=>(match q with | (r4,r5)=>(spec_l1CmpNum r1 r4).bind fun r7=>some r7))) (cond (a0 == 1) ((capsO a1).bind fun r9=>(capsO a2).bind fun r11=>(spec_l1CmpText r9 r11).bind fun r13=>some r13) ((spec_l1CmpText a1 a2).bind fun r15=>some r15))
theorem spec_l3Below_p  {a0 : Int} {a1 : ByteArray} {a2 : ByteArray} {R0 : Int} (H : spec_l3Below a0 a1 a2 = some R0) : Pure Tryz.prog 88 [.int .i64 a0,.str a1,.str a2] (.int .i64 R0):=by
 refine CallT.of_TN (n:=37) Tryz.func88 rfl rfl rfl rfl ?_
 refine au 15 ?_
 refine T.cH H ?_ ?_<;>intro H h
 ·refine au 3 ?_
  obtain ⟨⟨r1,r2⟩,h3,H⟩:=bind_s H
  refine TL.st rfl rfl rfl (o_callP rfl en_129 rfl rfl (.cons _ _ _ _ (.cl _ rfl) .nil) (spec_l1Whole_p  h3)) ?_
  refine au 9 ?_
  obtain ⟨⟨r4,r5⟩,h6,H⟩:=bind_s H
  refine TL.st rfl rfl rfl (o_callP rfl en_129 rfl rfl (.cons _ _ _ _ (.cl _ rfl) .nil) (spec_l1Whole_p  h6)) ?_
  refine au 10 ?_
  obtain ⟨r7,h8,H⟩:=bind_s H
  refine TL.st rfl rfl rfl (o_callP rfl en_106 rfl rfl (.cons _ _ _ _ (.cl _ rfl) (.cons _ _ _ _ (.cl _ rfl) .nil)) (spec_l1CmpNum_p  h8)) ?_
  refine au 3 ?_
  refine inB_ret (thn_ret ?_)
  cases some_i H
  exact ⟨trivial,_,(.tmp _ _ _ _ rfl .nil),(.cl _ rfl)⟩
 ·refine au 5 ?_
  refine T.cH H ?_ ?_<;>intro H h
  ·refine au 3 ?_
   obtain ⟨r9,h10,H⟩:=bind_s H
   refine TL.st rfl rfl rfl (o_callP rfl en_85 rfl rfl (.cons _ _ _ _ (.cl _ rfl) .nil) (MT.lib_85  h10)) ?_
   refine TL.st rfl rfl rfl (o_move rfl rfl) ?_
   obtain ⟨r11,h12,H⟩:=bind_s H
   refine TL.st rfl rfl rfl (o_callP rfl en_85 rfl rfl (.cons _ _ _ _ (.cl _ rfl) .nil) (MT.lib_85  h12)) ?_
   obtain ⟨r13,h14,H⟩:=bind_s H
   refine TL.st rfl rfl rfl (o_callP rfl en_61 rfl rfl (.cons _ _ _ _ (.cl _ rfl) (.cons _ _ _ _ (.cl _ rfl) .nil)) (spec_l1CmpText_p  h14)) ?_
   refine au 3 ?_
   refine inB_ret (thn_ret ?_)
   cases some_i H
   exact ⟨trivial,_,(.tmp _ _ _ _ rfl .nil),(.cl _ rfl)⟩
  ·refine au 5 ?_
   obtain ⟨r15,h16,H⟩:=bind_s H
   refine TL.st rfl rfl rfl (o_callP rfl en_61 rfl rfl (.cons _ _ _ _ (.cl _ rfl) (.cons _ _ _ _ (.cl _ rfl) .nil)) (spec_l1CmpText_p  h16)) ?_
   refine au 3 ?_
   cases some_i H
   exact ⟨trivial,_,(.tmp _ _ _ _ rfl .nil),(.cl _ rfl)⟩
theorem en_88 : En Tryz.prog 88:=.of Tryz.func88 rfl rfl
noncomputable def spec_l3Match_j2 (v2 : Int) (v3 : Int) (v12 : Int) : Option ((Int × Int) ⊕ Int) :=
  cond ((v12 == 0) || ((v12 == 2) && (v2 == 1))) (some (.inl (v12,(IntKind.i64.wrap (v3 + 1))))) (some (.inl (v2,(IntKind.i64.wrap (v3 + 1)))))
noncomputable def spec_l3Match_l1 (a0 : I_DirSchema) (a1 : I_Entry) (a2 : T_spec_l3F) (rec_spec_l3Match : (I_DirSchema × I_Entry × T_spec_l3F) → Option Int) : (Int × Int) → Option ((Int × Int) ⊕ Int):=fun s=>match s with
  | (v2,v3)=>cond (decide (v3 < (a2.kids_.length : Int))) ((idx a2.kids_ v3).bind fun w7=>(dec_T_spec_l3F w7).bind fun e6=>(rec_spec_l3Match (a0,a1,e6)).bind fun r10=>cond ((a2.n_.Kind_ == 2) && (r10 != 2)) (spec_l3Match_j2 v2 v3 (IntKind.i64.wrap (1 - r10))) (spec_l3Match_j2 v2 v3 r10)) (some (.inr v2))
noncomputable def spec_l3Match_l2 (a2 : T_spec_l3F) (r21 : I_AttrType) (r24 : (List ByteArray)) : (Bool × Int) → Option ((Bool × Int) ⊕ Bool):=fun s=>match s with
  | (v28,v29)=>cond (decide (v29 < (r24.length : Int))) ((idx r24 v29).bind fun e34=>cond (r21.Syntax_ == 1) ((gdO (!v28) (capsO e34)).bind fun r36=>(gdO (!v28) (capsO a2.n_.Text_)).bind fun r38=>(gdO (!v28) (spec_Like r36 r38)).bind fun r40=>some (.inl ((v28 || r40),(IntKind.i64.wrap (v29 + 1))))) ((gdO (!v28) (spec_Like e34 a2.n_.Text_)).bind fun r42=>some (.inl ((v28 || r42),(IntKind.i64.wrap (v29 + 1)))))) (some (.inr v28))
noncomputable def spec_l3Match_l3 (a2 : T_spec_l3F) (r21 : I_AttrType) (r24 : (List ByteArray)) : (Bool × Int) → Option ((Bool × Int) ⊕ Bool):=fun s=>match s with
  | (v48,v49)=>cond (decide (v49 < (r24.length : Int))) ((idx r24 v49).bind fun e54=>cond (a2.n_.Kind_ == 4) ((gdO (!v48) (spec_l3Same r21.Syntax_ e54 a2.n_.Text_)).bind fun r56=>some (.inl ((v48 || r56),(IntKind.i64.wrap (v49 + 1))))) ((spec_l3Of r21.Syntax_ e54).bind fun r58=>cond (!r58) (some (.inl (v48,(IntKind.i64.wrap (v49 + 1))))) (cond (a2.n_.Kind_ == 5) ((gdO (!v48) (spec_l3Below r21.Syntax_ e54 a2.n_.Text_)).bind fun r60=>some (.inl ((v48 || decide (r60 ≥ 0)),(IntKind.i64.wrap (v49 + 1))))) ((gdO (!v48) (spec_l3Below r21.Syntax_ e54 a2.n_.Text_)).bind fun r62=>some (.inl ((v48 || decide (r62 ≤ 0)),(IntKind.i64.wrap (v49 + 1)))))))) (some (.inr v48))
noncomputable def spec_l3Match_j1 (a0 : I_DirSchema) (a1 : I_Entry) (a2 : T_spec_l3F) (rec_spec_l3Match : (I_DirSchema × I_Entry × T_spec_l3F) → Option Int) (v1 : Bool) : Option Int :=
  cond v1 ((loopO (spec_l3Match_l1 a0 a1 a2 rec_spec_l3Match) (1,0)).bind fun v4=>(match v4 with | v4=>cond ((a2.n_.Kind_ == 2) && (v4 != 2)) (some (IntKind.i64.wrap (1 - v4))) (some v4))) (cond (a2.n_.Kind_ == 3) ((idx a2.kids_ 0).bind fun w16=>(dec_T_spec_l3F w16).bind fun e15=>(rec_spec_l3Match (a0,a1,e15)).bind fun r19=>cond (r19 == 2) (some r19) (some (IntKind.i64.wrap (1 - r19)))) ((spec_l3Type a0 a2.n_.Attr_).bind fun q=>(match q with | (r21,r22)=>cond (!r22) (some 2) ((spec_l3Values a1 a2.n_.Attr_).bind fun r24=>cond (a2.n_.Kind_ == 7) ((spec_l3Said (decide ((r24.length : Int) > 0))).bind fun r26=>some r26) (cond (a2.n_.Kind_ == 8) (cond (decide (r21.Syntax_ > 2)) (some 2) ((loopO (spec_l3Match_l2 a2 r21 r24) (false,0)).bind fun v30=>(match v30 with | v30=>(spec_l3Said v30).bind fun r31=>some r31))) ((spec_l3Of r21.Syntax_ a2.n_.Text_).bind fun r46=>cond ((!r46) || ((a2.n_.Kind_ != 4) && (r21.Syntax_ == 4))) (some 2) ((loopO (spec_l3Match_l3 a2 r21 r24) (false,0)).bind fun v50=>(match v50 with | v50=>(spec_l3Said v50).bind fun r51=>some r51))))))))
noncomputable def spec_l3Match_b (rec_spec_l3Match : (I_DirSchema × I_Entry × T_spec_l3F) → Option Int) (a0 : I_DirSchema) (a1 : I_Entry) (a2 : T_spec_l3F) : Option Int :=
  cond (a2.n_.Kind_ == 1) (spec_l3Match_j1 a0 a1 a2 rec_spec_l3Match (a2.n_.Kind_ == 1)) (spec_l3Match_j1 a0 a1 a2 rec_spec_l3Match (a2.n_.Kind_ == 2))
noncomputable def spec_l3Match (a0 : I_DirSchema) (a1 : I_Entry) (a2 : T_spec_l3F) : Option Int:=fixO (fun rec_spec_l3Match x=>match x with | (a0,a1,a2)=>spec_l3Match_b rec_spec_l3Match a0 a1 a2) (a0,a1,a2)
theorem spec_l3Match_pb {rec_spec_l3Match : (I_DirSchema × I_Entry × T_spec_l3F) → Option Int} (Hrec_spec_l3Match : ∀ (b0 : Bool) (b1 : Bool) (b2 : Bool) {a0 : I_DirSchema} {a1 : I_Entry} {a2 : T_spec_l3F} {R0 : Int}, rec_spec_l3Match (a0, a1, a2) = some R0 → Pure Tryz.prog 37 [.agg (c_I_DirSchema b0 a0), .agg (c_I_Entry b1 a1), .agg (c_T_spec_l3F b2 a2)] (.int .i64 R0)) (b0 : Bool) (b1 : Bool) (b2 : Bool) {a0 : I_DirSchema} {a1 : I_Entry} {a2 : T_spec_l3F} {R0 : Int} (H : spec_l3Match_b rec_spec_l3Match a0 a1 a2 = some R0) : Pure Tryz.prog 37 [.agg (c_I_DirSchema b0 a0), .agg (c_I_Entry b1 a1), .agg (c_T_spec_l3F b2 a2)] (.int .i64 R0) := by
 refine CallT.of_TN (n:=206) Tryz.func37 rfl rfl rfl rfl ?_
 refine au 8 ?_
 refine T.conv (Cs.eqS (σ':=[.box (c_I_DirSchema b0 a0),.box (c_I_Entry b1 a1),.box (c_T_spec_l3F b2 a2)]) rfl) ?_
 refine au 13 ?_
 refine T.cut (fun fr' σ'=>∃ (v1 : Bool),fr' = [(3,.bx 0 0),(4,.bx 1 0),(5,.bx 2 0),(7,.bx 3 0),(24,.int .i64 a2.n_.Kind_),(25,.bool v1)] ∧ σ' = [.box (c_I_DirSchema b0 a0),.box (c_I_Entry b1 a1),.box (c_T_spec_l3F b2 a2),.box (c_I_FilterNode b2 a2.n_)] ∧ spec_l3Match_j1 a0 a1 a2 rec_spec_l3Match v1 = some R0) (T.pk ?_) ?_
 ·skip
  refine au 5 ?_
  refine T.cH H ?_ ?_<;>intro H h
  ·refine T.skip ?_
   exact Pk.of (thn_normal ⟨(a2.n_.Kind_ == 1),rfl,rfl,H⟩)
  ·refine au 4 ?_
   exact Pk.of (thn_normal ⟨(a2.n_.Kind_ == 2),rfl,rfl,H⟩)
 ·rintro _ _ ⟨v1, rfl, rfl, H⟩
  refine T.cH H ?_ ?_<;>intro H h
  ·refine au 9 ?_
   refine TL.st rfl rfl rfl (o_lenL (f:=c_raw) rfl rfl rfl) ?_
   refine au 3 ?_
   obtain ⟨v4,h14,H⟩:=bind_s H
   refine T.lq (fun s=>match s with | (v2,v3)=>[(3,.bx 0 0),(4,.bx 1 0),(7,.bx 3 0),(8,.int .i64 v2),(29,.im b2 (a2.kids_.map (c_raw))),(30,.int .i64 (a2.kids_.length : Int)),(31,.int .i64 v3)]) (fun s=>match s with | (v2,v3)=>[.box (c_I_DirSchema b0 a0),.box (c_I_Entry b1 a1),.box (c_T_spec_l3F b2 a2),.box (c_I_FilterNode b2 a2.n_)]) (fun q ex fr σ=>match q with | v4=>ex = .exit 1 ∧ fr = [(7,.bx 3 0),(8,.int .i64 v4)] ∧ σ = [.box (c_I_DirSchema b0 a0),.box (c_I_Entry b1 a1),.box (c_T_spec_l3F b2 a2),.box (c_I_FilterNode b2 a2.n_)]) h14 ?_ ?_
   ·rintro ⟨v2,v3⟩ y5 H
    refine au 5 ?_
    refine T.cH H ?_ ?_<;>intro H h
    ·refine au 5 ?_
     obtain ⟨w7,h8,H⟩:=bind_s H
     obtain ⟨e6,h9,H⟩:=bind_s H
     refine TL.st rfl rfl rfl (o_ixR (f:=c_raw) rfl rfl tyS_80 rfl rfl h8 (dec_T_spec_l3F_s h9) rfl) ?_
     refine au 9 ?_
     obtain ⟨r10,h11,H⟩:=bind_s H
     refine TL.st rfl rfl rfl (o_callP rfl en_37 rfl rfl (.cons _ _ _ _ (Lent.aggL (.cons _ _ _ _ (.imv _ _) (.cons _ _ _ _ (.imv _ _) .nil))) (.cons _ _ _ _ (Lent.aggL (.cons _ _ _ _ (.imv _ _) (.cons _ _ _ _ (.imv _ _) .nil))) (.cons _ _ _ _ (.cl _ rfl) .nil))) (Hrec_spec_l3Match b0 b1 false h11)) ?_
     refine au 2 ?_
     refine T.cut (fun fr' σ'=>∃ (v12 : Int),fr' = [(3,.bx 0 0),(4,.bx 1 0),(7,.bx 3 0),(8,.int .i64 v2),(11,.int .i64 v12),(29,.im b2 (a2.kids_.map (c_raw))),(30,.int .i64 (a2.kids_.length : Int)),(31,.int .i64 v3)] ∧ σ' = [.box (c_I_DirSchema b0 a0),.box (c_I_Entry b1 a1),.box (c_T_spec_l3F b2 a2),.box (c_I_FilterNode b2 a2.n_),.box (c_T_spec_l3F false e6)] ∧ spec_l3Match_j2 v2 v3 v12 = some y5) (T.pk ?_) ?_
     ·skip
      refine au 10 ?_
      refine T.cH H ?_ ?_<;>intro H h
      ·refine au 5 ?_
       exact Pk.of (thn_normal ⟨(IntKind.i64.wrap (1 - r10)),rfl,rfl,H⟩)
      ·refine T.skip ?_
       exact Pk.of (thn_normal ⟨r10,rfl,rfl,H⟩)
     ·rintro _ _ ⟨v12,rfl,rfl,H⟩
      refine au 7 ?_
      refine TL.gcq rfl rfl rfl (.bool _) rfl rfl (fun h=>o_move rfl (gv h rfl)) ?_
      refine TL.gcq rfl rfl rfl (.gd _ _) rfl rfl (fun h=>o_move rfl rfl) ?_
      refine TL.gcq rfl rfl rfl (.gd _ _) rfl rfl (fun h=>o_ari rfl (gv h rfl) rfl rfl) ?_
      refine TL.gcq rfl rfl rfl (.bool _) rfl rfl (fun h=>o_and rfl (gv h rfl) rfl (fun k=>Gd_t (andi h k)) rfl) ?_
      refine au 2 ?_
      refine T.cH H ?_ ?_<;>intro H h
      ·refine au 8 ?_
       exact Pk.of (thn_normal ⟨(v12,(IntKind.i64.wrap (v3 + 1))),(some_i H).symm,rfl,rfl⟩)
      ·refine au 5 ?_
       exact Pk.of (thn_normal ⟨(v2,(IntKind.i64.wrap (v3 + 1))),(some_i H).symm,rfl,rfl⟩)
    ·refine T.exit ?_
     refine thn_exit ?_
     exact Pk.of (thn_exit ⟨v2,(some_i H).symm,rfl,rfl,rfl⟩)
   ·rintro _ _ _ ⟨rfl,rfl,rfl⟩
    refine inB_here ?_
    refine au 11 ?_
    refine T.cH H ?_ ?_<;>intro H h
    ·refine au 11 ?_
     refine inB_ret (thn_ret ?_)
     cases some_i H
     exact ⟨trivial,_,(.tmp _ _ _ _ rfl .nil),(.cl _ rfl)⟩
    ·refine au 7 ?_
     refine inB_ret (thn_ret ?_)
     cases some_i H
     exact ⟨trivial,_,(.tmp _ _ _ _ rfl .nil),(.cl _ rfl)⟩
  ·refine au 5 ?_
   refine T.cH H ?_ ?_<;>intro H h
   ·refine T.seq ?_
    refine T.drawn rfl ?_
    refine ad 4 ?_
    obtain ⟨w16,h17,H⟩:=bind_s H
    obtain ⟨e15,h18,H⟩:=bind_s H
    refine TD.qs rfl rfl (fun _=>o_ixR (f:=c_raw) rfl rfl tyS_80 rfl rfl h17 (dec_T_spec_l3F_s h18) rfl) ?_
    refine TD.qs rfl rfl (fun _=>o_loadRf rfl tyS_80 rfl (nb rfl) rfl) ?_
    obtain ⟨r19,h20,H⟩:=bind_s H
    refine TD.qs rfl rfl (fun _=>o_callP rfl en_37 rfl rfl (.cons _ _ _ _ (Lent.aggL (.cons _ _ _ _ (.imv _ _) (.cons _ _ _ _ (.imv _ _) .nil))) (.cons _ _ _ _ (Lent.aggL (.cons _ _ _ _ (.imv _ _) (.cons _ _ _ _ (.imv _ _) .nil))) (.cons _ _ _ _ (.cl _ rfl) .nil))) (Hrec_spec_l3Match b0 b1 false h20)) ?_
    refine TD.qs rfl rfl (fun _=>o_assign rfl rfl) ?_
    refine TD.nil ⟨rfl,?_⟩
    refine au 6 ?_
    refine T.cH H ?_ ?_<;>intro H h
    ·refine au 6 ?_
     refine thn_ret (inB_ret (thn_ret ?_))
     cases some_i H
     exact ⟨trivial,_,(.tmp _ _ _ _ rfl .nil),(.cl _ rfl)⟩
    ·refine au 8 ?_
     refine inB_ret (thn_ret ?_)
     cases some_i H
     exact ⟨trivial,_,(.tmp _ _ _ _ rfl .nil),(.cl _ rfl)⟩
   ·refine au 6 ?_
    obtain ⟨⟨r21,r22⟩,h23,H⟩:=bind_s H
    refine TL.st rfl rfl rfl (o_callP rfl en_65 rfl rfl (.cons _ _ _ _ (Lent.aggL (.cons _ _ _ _ (.imv _ _) (.cons _ _ _ _ (.imv _ _) .nil))) (.cons _ _ _ _ (.cl _ rfl) .nil)) (spec_l3Type_p b0 h23)) ?_
    refine au 13 ?_
    refine T.cH H ?_ ?_<;>intro H h
    ·refine au 5 ?_
     refine thn_ret ?_
     cases some_i H
     exact ⟨trivial,_,(.tmp _ _ _ _ rfl .nil),(.cl _ rfl)⟩
    ·refine au 6 ?_
     obtain ⟨r24,h25,H⟩:=bind_s H
     refine TL.st rfl rfl rfl (o_callP rfl en_50 rfl rfl (.cons _ _ _ _ (Lent.aggL (.cons _ _ _ _ (.imv _ _) (.cons _ _ _ _ (.imv _ _) .nil))) (.cons _ _ _ _ (.cl _ rfl) .nil)) (spec_l3Values_p b1 h25)) ?_
     refine au 18 ?_
     refine T.cH H ?_ ?_<;>intro H h
     ·refine au 3 ?_
      refine TL.st rfl rfl rfl (o_lenL (f:=c_str) rfl rfl rfl) ?_
      refine TL.st rfl rfl rfl (o_ari rfl rfl rfl rfl) ?_
      obtain ⟨r26,h27,H⟩:=bind_s H
      refine TL.st rfl rfl rfl (o_callP rfl en_83 rfl rfl (.cons _ _ _ _ (.cl _ rfl) .nil) (spec_l3Said_p  h27)) ?_
      refine au 3 ?_
      refine inB_ret (thn_ret ?_)
      cases some_i H
      exact ⟨trivial,_,(.tmp _ _ _ _ rfl .nil),(.cl _ rfl)⟩
     ·refine au 5 ?_
      refine T.cH H ?_ ?_<;>intro H h
      ·refine au 7 ?_
       refine T.cH H ?_ ?_<;>intro H h
       ·refine au 5 ?_
        refine thn_ret (inB_ret (thn_ret ?_))
        cases some_i H
        exact ⟨trivial,_,(.tmp _ _ _ _ rfl .nil),(.cl _ rfl)⟩
       ·refine au 5 ?_
        refine TL.st rfl rfl rfl (o_lenL (f:=c_str) rfl rfl rfl) ?_
        refine au 3 ?_
        obtain ⟨v30,h45,H⟩:=bind_s H
        refine T.lq (fun s=>match s with | (v28,v29)=>[(7,.bx 3 0),(13,.bx 4 0),(16,.bool v28),(110,.im false (r24.map (c_str))),(111,.int .i64 (r24.length : Int)),(112,.int .i64 v29)]) (fun s=>match s with | (v28,v29)=>[.box (c_I_DirSchema b0 a0),.box (c_I_Entry b1 a1),.box (c_T_spec_l3F b2 a2),.box (c_I_FilterNode b2 a2.n_),.box (c_I_AttrType false r21)]) (fun q ex fr σ=>match q with | v30=>ex = .exit 4 ∧ fr = [(16,.bool v30)] ∧ σ = [.box (c_I_DirSchema b0 a0),.box (c_I_Entry b1 a1),.box (c_T_spec_l3F b2 a2),.box (c_I_FilterNode b2 a2.n_),.box (c_I_AttrType false r21)]) h45 ?_ ?_
        ·rintro ⟨v28,v29⟩ y33 H
         refine au 5 ?_
         refine T.cH H ?_ ?_<;>intro H h
         ·refine au 5 ?_
          obtain ⟨e34,h35,H⟩:=bind_s H
          refine TL.st rfl rfl rfl (o_ix (f:=c_str) rfl rfl tyS_9 rfl rfl h35 rfl) ?_
          refine au 9 ?_
          refine T.cH H ?_ ?_<;>intro H h
          ·refine T.drawn rfl ?_
           refine ad 3 ?_
           obtain ⟨r36,h37,H⟩:=bind_s H
           refine TD.cq rfl rfl rfl (.bool _) rfl (fun h _=>o_callP rfl en_85 rfl (evl_1 (gv h rfl)) (.cons _ _ _ _ (.cl _ rfl) .nil) (MT.lib_85  (gdO_t h37 h))) ?_
           refine ad 2 ?_
           obtain ⟨r38,h39,H⟩:=bind_s H
           refine TD.cq rfl rfl rfl (.bool _) rfl (fun h _=>o_callP rfl en_85 rfl (evl_1 (gv h rfl)) (.cons _ _ _ _ (.cl _ rfl) .nil) (MT.lib_85  (gdO_t h39 h))) ?_
           obtain ⟨r40,h41,H⟩:=bind_s H
           refine TD.cq rfl rfl rfl (.bool _) rfl (fun h _=>o_callP rfl en_84 rfl (evl_2 (gv h rfl) (gv h rfl)) (.cons _ _ _ _ (.cl _ rfl) (.cons _ _ _ _ (.cl _ rfl) .nil)) (spec_Like_p  (gdO_t h41 h))) ?_
           refine ad 2 ?_
           refine TD.nil ⟨rfl,?_⟩
           refine au 4 ?_
           exact Pk.of (thn_normal ⟨((v28 || r40),(IntKind.i64.wrap (v29 + 1))),(some_i H).symm,rfl,rfl⟩)
          ·refine au 6 ?_
           obtain ⟨r42,h43,H⟩:=bind_s H
           refine TL.gcq rfl rfl rfl (.bool _) rfl rfl (fun h=>o_callP rfl en_84 rfl (evl_2 (gv h rfl) (gv h rfl)) (.cons _ _ _ _ (.cl _ rfl) (.cons _ _ _ _ (.cl _ rfl) .nil)) (spec_Like_p  (gdO_t h43 h))) ?_
           refine au 7 ?_
           exact Pk.of (thn_normal ⟨((v28 || r42),(IntKind.i64.wrap (v29 + 1))),(some_i H).symm,rfl,rfl⟩)
         ·refine T.exit ?_
          refine thn_exit ?_
          exact Pk.of (thn_exit ⟨v28,(some_i H).symm,rfl,rfl,rfl⟩)
        ·rintro _ _ _ ⟨rfl,rfl,rfl⟩
         refine inB_here ?_
         refine au 3 ?_
         obtain ⟨r31,h32,H⟩:=bind_s H
         refine TL.st rfl rfl rfl (o_callP rfl en_83 rfl rfl (.cons _ _ _ _ (.cl _ rfl) .nil) (spec_l3Said_p  h32)) ?_
         refine au 3 ?_
         refine inB_ret (thn_ret ?_)
         cases some_i H
         exact ⟨trivial,_,(.tmp _ _ _ _ rfl .nil),(.cl _ rfl)⟩
      ·refine au 8 ?_
       obtain ⟨r46,h47,H⟩:=bind_s H
       refine TL.st rfl rfl rfl (o_callP rfl en_86 rfl rfl (.cons _ _ _ _ (.cl _ rfl) (.cons _ _ _ _ (.cl _ rfl) .nil)) (spec_l3Of_p  h47)) ?_
       refine au 5 ?_
       refine TL.gcq rfl rfl rfl (.bool _) rfl rfl (fun h=>o_move rfl (gv h rfl)) ?_
       refine TL.gcq rfl rfl rfl (.gd _ _) rfl rfl (fun h=>o_fieldAddr rfl rfl rfl tyS_3 (by decide) rfl rfl ⟨_,rfl,Nat.le_of_ble_eq_true rfl⟩) ?_
       refine TL.gcq rfl rfl rfl (.gd _ _) rfl rfl (fun h=>o_loadBx rfl tyS_3 (gv h rfl) rfl (nb rfl) rfl) ?_
       refine TL.gcq rfl rfl rfl (.gd _ _) rfl rfl (fun h=>o_ari rfl (gv h rfl) rfl rfl) ?_
       refine TL.gcq rfl rfl rfl (.bool _) rfl rfl (fun h=>o_and rfl (gv h rfl) rfl (fun k=>Gd_t (andi h k)) rfl) ?_
       refine au 2 ?_
       refine T.cH H ?_ ?_<;>intro H h
       ·refine au 5 ?_
        refine thn_ret ?_
        cases some_i H
        exact ⟨trivial,_,(.tmp _ _ _ _ rfl .nil),(.cl _ rfl)⟩
       ·refine au 5 ?_
        refine TL.st rfl rfl rfl (o_lenL (f:=c_str) rfl rfl rfl) ?_
        refine au 3 ?_
        obtain ⟨v50,h65,H⟩:=bind_s H
        refine T.lq (fun s=>match s with | (v48,v49)=>[(7,.bx 3 0),(13,.bx 4 0),(16,.bool v48),(154,.im false (r24.map (c_str))),(155,.int .i64 (r24.length : Int)),(156,.int .i64 v49)]) (fun s=>match s with | (v48,v49)=>[.box (c_I_DirSchema b0 a0),.box (c_I_Entry b1 a1),.box (c_T_spec_l3F b2 a2),.box (c_I_FilterNode b2 a2.n_),.box (c_I_AttrType false r21)]) (fun q ex fr σ=>match q with | v50=>ex = .exit 6 ∧ fr = [(16,.bool v50)] ∧ σ = [.box (c_I_DirSchema b0 a0),.box (c_I_Entry b1 a1),.box (c_T_spec_l3F b2 a2),.box (c_I_FilterNode b2 a2.n_),.box (c_I_AttrType false r21)]) h65 ?_ ?_
        ·rintro ⟨v48,v49⟩ y53 H
         refine au 5 ?_
         refine T.cH H ?_ ?_<;>intro H h
         ·refine au 5 ?_
          obtain ⟨e54,h55,H⟩:=bind_s H
          refine TL.st rfl rfl rfl (o_ix (f:=c_str) rfl rfl tyS_9 rfl rfl h55 rfl) ?_
          refine au 11 ?_
          refine T.cH H ?_ ?_<;>intro H h
          ·refine au 8 ?_
           obtain ⟨r56,h57,H⟩:=bind_s H
           refine TL.gcq rfl rfl rfl (.bool _) rfl rfl (fun h=>o_callP rfl en_87 rfl (evl_3 (gv h rfl) (gv h rfl) (gv h rfl)) (.cons _ _ _ _ (.cl _ rfl) (.cons _ _ _ _ (.cl _ rfl) (.cons _ _ _ _ (.cl _ rfl) .nil))) (spec_l3Same_p  (gdO_t h57 h))) ?_
           refine au 7 ?_
           exact Pk.of (thn_normal ⟨((v48 || r56),(IntKind.i64.wrap (v49 + 1))),(some_i H).symm,rfl,rfl⟩)
          ·refine au 5 ?_
           obtain ⟨r58,h59,H⟩:=bind_s H
           refine TL.st rfl rfl rfl (o_callP rfl en_86 rfl rfl (.cons _ _ _ _ (.cl _ rfl) (.cons _ _ _ _ (.cl _ rfl) .nil)) (spec_l3Of_p  h59)) ?_
           refine au 3 ?_
           refine T.cH H ?_ ?_<;>intro H h
           ·refine au 5 ?_
            exact Pk.of (thn_normal ⟨(v48,(IntKind.i64.wrap (v49 + 1))),(some_i H).symm,rfl,rfl⟩)
           ·refine au 7 ?_
            refine T.cH H ?_ ?_<;>intro H h
            ·refine au 8 ?_
             obtain ⟨r60,h61,H⟩:=bind_s H
             refine TL.gcq rfl rfl rfl (.bool _) rfl rfl (fun h=>o_callP rfl en_88 rfl (evl_3 (gv h rfl) (gv h rfl) (gv h rfl)) (.cons _ _ _ _ (.cl _ rfl) (.cons _ _ _ _ (.cl _ rfl) (.cons _ _ _ _ (.cl _ rfl) .nil))) (spec_l3Below_p  (gdO_t h61 h))) ?_
             refine au 8 ?_
             exact Pk.of (thn_normal ⟨((v48 || decide (r60 ≥ 0)),(IntKind.i64.wrap (v49 + 1))),(some_i H).symm,rfl,rfl⟩)
            ·refine au 8 ?_
             obtain ⟨r62,h63,H⟩:=bind_s H
             refine TL.gcq rfl rfl rfl (.bool _) rfl rfl (fun h=>o_callP rfl en_88 rfl (evl_3 (gv h rfl) (gv h rfl) (gv h rfl)) (.cons _ _ _ _ (.cl _ rfl) (.cons _ _ _ _ (.cl _ rfl) (.cons _ _ _ _ (.cl _ rfl) .nil))) (spec_l3Below_p  (gdO_t h63 h))) ?_
             refine au 8 ?_
             exact Pk.of (thn_normal ⟨((v48 || decide (r62 ≤ 0)),(IntKind.i64.wrap (v49 + 1))),(some_i H).symm,rfl,rfl⟩)
         ·refine T.exit ?_
          refine thn_exit ?_
          exact Pk.of (thn_exit ⟨v48,(some_i H).symm,rfl,rfl,rfl⟩)
        ·rintro _ _ _ ⟨rfl,rfl,rfl⟩
         refine inB_here ?_
         refine au 3 ?_
         obtain ⟨r51,h52,H⟩:=bind_s H
         refine TL.st rfl rfl rfl (o_callP rfl en_83 rfl rfl (.cons _ _ _ _ (.cl _ rfl) .nil) (spec_l3Said_p  h52)) ?_
         refine au 3 ?_
         cases some_i H
         exact ⟨trivial,_,(.tmp _ _ _ _ rfl .nil),(.cl _ rfl)⟩
theorem spec_l3Match_p (b0 : Bool) (b1 : Bool) (b2 : Bool) {a0 : I_DirSchema} {a1 : I_Entry} {a2 : T_spec_l3F} {R0 : Int} (H : spec_l3Match a0 a1 a2 = some R0) : Pure Tryz.prog 37 [.agg (c_I_DirSchema b0 a0),.agg (c_I_Entry b1 a1),.agg (c_T_spec_l3F b2 a2)] (.int .i64 R0) :=
 fixO_ind (fun x r=>match x,r with | (a0,a1,a2),R0=>∀ (b0 : Bool) (b1 : Bool) (b2 : Bool),Pure Tryz.prog 37 [.agg (c_I_DirSchema b0 a0),.agg (c_I_Entry b1 a1),.agg (c_T_spec_l3F b2 a2)] (.int .i64 R0)) (fun rec_spec_l3Match Hrec x r h=>match x,r,h with | (a0,a1,a2),R0,h=>fun b0 b1 b2=>spec_l3Match_pb (fun b0 b1 b2 {a0} {a1} {a2} {R0} h=>Hrec (a0,a1,a2) R0 h b0 b1 b2) b0 b1 b2 h) H b0 b1 b2
noncomputable def spec_Search_l2 (a0 : I_DirSchema) (a1 : (List I_Entry)) (a2 : (List I_Part)) (a3 : Int) (r1 : T_spec_l3F) : (List ByteArray × List Int × Int) → Option ((List ByteArray × List Int × Int) ⊕ (List ByteArray × List Int)):=fun s=>match s with
  | (l12,l13,v14)=>cond (decide (v14 < (a1.length : Int))) ((idx a1 v14).bind fun e18=>(spec_l3Under e18.Name_ a2).bind fun r20=>cond (((!r20) || ((a3 == 1) && ((IntKind.i64.wrap ((e18.Name_.length : Int) - (a2.length : Int))) != 0))) || ((a3 == 2) && ((IntKind.i64.wrap ((e18.Name_.length : Int) - (a2.length : Int))) != 1))) (some (.inl (l12,l13,(IntKind.i64.wrap (v14 + 1))))) ((spec_l3Values e18 (ByteArray.mk #[114,101,102])).bind fun r22=>cond (decide ((r22.length : Int) > 0)) ((idx r22 0).bind fun e24=>(app l12 ([e24] : List ByteArray)).bind fun l26=>some (.inl (l26,l13,(IntKind.i64.wrap (v14 + 1))))) ((spec_l3Match a0 e18 r1).bind fun r28=>cond (r28 == 1) ((app l13 ([v14] : List Int)).bind fun l30=>some (.inl (l12,l30,(IntKind.i64.wrap (v14 + 1))))) (some (.inl (l12,l13,(IntKind.i64.wrap (v14 + 1)))))))) (some (.inr (l12,l13)))
noncomputable def spec_Search_l1 (a1 : (List I_Entry)) : Int → Option (Int ⊕ (Unit ⊕ ((List Int) × (List ByteArray)))):=fun s=>match s with
  | v8=>cond (decide (v8 < (a1.length : Int))) ((idx a1 v8).bind fun e35=>(spec_GoodEntry e35).bind fun r37=>cond (!r37) (some (.inr (.inr (([] : List Int),([] : List ByteArray))))) (some (.inl (IntKind.i64.wrap (v8 + 1))))) (some (.inr (.inl ())))
noncomputable def spec_Search (a0 : I_DirSchema) (a1 : (List I_Entry)) (a2 : (List I_Part)) (a3 : Int) (a4 : (List I_FilterNode)) : Option ((List Int) × (List ByteArray)) :=
  (spec_l3Tree a4).bind fun q=>(match q with | (r1,r2)=>(gdO (!(!r2)) (spec_GoodDirSchema a0)).bind fun r4=>(gdO (!((!r2) || (!r4))) (spec_GoodDirName a2)).bind fun r6=>cond ((((((!r2) || (!r4)) || (!r6)) || decide (a3 < 1)) || decide (a3 > 3)) || decide ((a1.length : Int) > 200)) (some (([] : List Int),([] : List ByteArray))) ((loopO (spec_Search_l1 a1) 0).bind fun q39=>(match q39 with | .inl _=>(spec_l3Unlike a1).bind fun r10=>cond (!r10) (some (([] : List Int),([] : List ByteArray))) ((loopO (spec_Search_l2 a0 a1 a2 a3 r1) (([] : List ByteArray),([] : List Int),0)).bind fun q32=>(match q32 with | (l15,l16)=>some (l16,l15))) | .inr q9=>some q9)))
theorem spec_Search_p (b0 : Bool) (b1 : Bool) (b2 : Bool) (b3 : Bool) {a0 : I_DirSchema} {a1 : (List I_Entry)} {a2 : (List I_Part)} {a3 : Int} {a4 : (List I_FilterNode)} {R0 : (List Int)} {R1 : (List ByteArray)} (H : spec_Search a0 a1 a2 a3 a4 = some (R0, R1)) : Pure Tryz.prog 14 [.agg (c_I_DirSchema b0 a0), .im b1 (a1.map (c_I_Entry false)), .im b2 (a2.map (c_I_Part false)), .int .i64 a3, .im b3 (a4.map (c_I_FilterNode false))] (.tup [.im false (R0.map (c_int .i64)), .im false (R1.map (c_str))]) := by
 refine CallT.of_TN (n:=122) Tryz.func14 rfl rfl rfl rfl ?_
 refine au 9 ?_
 obtain ⟨⟨r1,r2⟩,h3,H⟩:=bind_s H
 refine TL.st rfl rfl rfl (o_callP rfl en_34 rfl rfl (.cons _ _ _ _ (.imv _ _) .nil) (spec_l3Tree_p b3 h3)) ?_
 refine au 9 ?_
 refine T.conv (Cs.eqS (σ':=[.box (c_I_DirSchema b0 a0),.box (c_T_spec_l3F false r1)]) rfl) ?_
 refine au 4 ?_
 refine TL.gcq rfl rfl rfl (.bool _) rfl rfl (fun h=>o_loadBx rfl tyS_26 rfl rfl (nb rfl) rfl) ?_
 obtain ⟨r4,h5,H⟩:=bind_s H
 refine TL.gcq rfl rfl rfl (.bool _) rfl rfl (fun h=>o_callP rfl en_35 rfl (evl_1 (gv h rfl)) (.cons _ _ _ _ (Lent.aggL (.cons _ _ _ _ (.imv _ _) (.cons _ _ _ _ (.imv _ _) .nil))) .nil) (spec_GoodDirSchema_p b0 (gdO_t h5 h))) ?_
 refine au 4 ?_
 obtain ⟨r6,h7,H⟩:=bind_s H
 refine TL.gcq rfl rfl rfl (.bool _) rfl rfl (fun h=>o_callP rfl en_47 rfl (evl_1 (gv h rfl)) (.cons _ _ _ _ (.imv _ _) .nil) (spec_GoodDirName_p b2 (gdO_t h7 h))) ?_
 refine au 12 ?_
 refine TL.gcq rfl rfl rfl (.bool _) rfl rfl (fun h=>o_lenL (f:=c_I_Entry false) rfl rfl (gv h rfl)) ?_
 refine au 3 ?_
 refine T.cH H ?_ ?_<;>intro H h
 ·refine au 6 ?_
  refine thn_ret ?_
  cases some_i H
  exact ⟨trivial,_,(.tmp _ _ _ _ rfl (.tmp _ _ _ _ rfl .nil)),(.tupL (.cons _ _ _ _ .nil (.cons _ _ _ _ .nil .nil)))⟩
 ·refine au 5 ?_
  refine TL.st rfl rfl rfl (o_lenL (f:=c_I_Entry false) rfl rfl rfl) ?_
  refine au 3 ?_
  obtain ⟨q39,h40,H⟩:=bind_s H
  refine T.lq (fun s=>match s with | v8=>[(1,.im b1 (a1.map (c_I_Entry false))),(2,.im b2 (a2.map (c_I_Part false))),(3,.int .i64 a3),(5,.bx 0 0),(12,.bx 1 0),(52,.im b1 (a1.map (c_I_Entry false))),(53,.int .i64 (a1.length : Int)),(54,.int .i64 v8)]) (fun s=>match s with | v8=>[.box (c_I_DirSchema b0 a0),.box (c_T_spec_l3F false r1)]) (fun q ex fr σ=>match q with | .inl _=>ex = .exit 0 ∧ fr = [(1,.im b1 (a1.map (c_I_Entry false))),(2,.im b2 (a2.map (c_I_Part false))),(3,.int .i64 a3),(5,.bx 0 0),(12,.bx 1 0)] ∧ σ = [.box (c_I_DirSchema b0 a0),.box (c_T_spec_l3F false r1)] | .inr q9=>ex = .ret ∧ RetN Tryz.prog [.tmp 10,.tmp 11] (fun v τ=>Told τ v (.tup [.im false (q9.1.map (c_int .i64)),.im false (q9.2.map (c_str))])) .ret fr σ) h40 ?_ ?_
  ·rintro v8 y34 H
   refine au 5 ?_
   refine T.cH H ?_ ?_<;>intro H h
   ·refine au 5 ?_
    obtain ⟨e35,h36,H⟩:=bind_s H
    refine TL.st rfl rfl rfl (o_ix (f:=c_I_Entry false) rfl rfl tyS_30 rfl rfl h36 rfl) ?_
    refine au 7 ?_
    obtain ⟨r37,h38,H⟩:=bind_s H
    refine TL.st rfl rfl rfl (o_callP rfl en_36 rfl rfl (.cons _ _ _ _ (.cl _ rfl) .nil) (spec_GoodEntry_p false h38)) ?_
    refine au 2 ?_
    refine T.cH H ?_ ?_<;>intro H h
    ·refine au 6 ?_
     refine inB_ret (thn_ret ?_)
     exact Pk.id (thn_ret ⟨.inr (([] : List Int),([] : List ByteArray)),(some_i H).symm,rfl,⟨trivial,_,(.tmp _ _ _ _ rfl (.tmp _ _ _ _ rfl .nil)),(.tupL (.cons _ _ _ _ .nil (.cons _ _ _ _ .nil .nil)))⟩⟩)
    ·refine au 5 ?_
     exact Pk.of (thn_normal ⟨(IntKind.i64.wrap (v8 + 1)),(some_i H).symm,rfl,rfl⟩)
   ·refine T.exit ?_
    refine thn_exit ?_
    exact Pk.of (thn_exit ⟨.inl (),(some_i H).symm,rfl,rfl,rfl⟩)
  ·rcases q39 with ⟨⟩ | q9
   ·rintro _ _ _ ⟨rfl,rfl,rfl⟩
    refine inB_here ?_
    refine au 4 ?_
    obtain ⟨r10,h11,H⟩:=bind_s H
    refine TL.st rfl rfl rfl (o_callP rfl en_48 rfl rfl (.cons _ _ _ _ (.imv _ _) .nil) (spec_l3Unlike_p b1 h11)) ?_
    refine au 2 ?_
    refine T.cH H ?_ ?_<;>intro H h
    ·refine au 6 ?_
     refine thn_ret ?_
     cases some_i H
     exact ⟨trivial,_,(.tmp _ _ _ _ rfl (.tmp _ _ _ _ rfl .nil)),(.tupL (.cons _ _ _ _ .nil (.cons _ _ _ _ .nil .nil)))⟩
    ·refine au 13 ?_
     refine TL.st rfl rfl rfl (o_lenL (f:=c_I_Entry false) rfl rfl rfl) ?_
     refine au 3 ?_
     refine T.conv (Cs.own (t:=17) 1 rfl (by decide)) ?_
     refine T.conv (Cs.own (t:=16) 1 rfl (by decide)) ?_
     obtain ⟨q32,h33,H⟩:=bind_s H
     refine T.lq (fun s=>match s with | (l12,l13,v14)=>[(2,.im b2 (a2.map (c_I_Part false))),(3,.int .i64 a3),(5,.bx 0 0),(12,.bx 1 0),(16,.hd 3 (l13.map (c_int .i64)).length 0 (l13.map (c_int .i64)).length),(17,.hd 2 (l12.map (c_str)).length 0 (l12.map (c_str)).length),(65,.im b1 (a1.map (c_I_Entry false))),(66,.int .i64 (a1.length : Int)),(67,.int .i64 v14)]) (fun s=>match s with | (l12,l13,v14)=>[.box (c_I_DirSchema b0 a0),.box (c_T_spec_l3F false r1),.arr .clo 1 (l12.map (c_str)),.arr .clo 1 (l13.map (c_int .i64))]) (fun q ex fr σ=>match q with | (l15,l16)=>ex = .exit 2 ∧ fr = [(16,.hd 3 (l16.map (c_int .i64)).length 0 (l16.map (c_int .i64)).length),(17,.hd 2 (l15.map (c_str)).length 0 (l15.map (c_str)).length)] ∧ σ = [.box (c_I_DirSchema b0 a0),.box (c_T_spec_l3F false r1),.arr .clo 1 (l15.map (c_str)),.arr .clo 1 (l16.map (c_int .i64))]) h33 ?_ ?_
     ·rintro ⟨l12,l13,v14⟩ y17 H
      refine au 5 ?_
      refine T.cH H ?_ ?_<;>intro H h
      ·refine au 6 ?_
       obtain ⟨e18,h19,H⟩:=bind_s H
       refine TL.st rfl rfl rfl (o_ix (f:=c_I_Entry false) rfl rfl tyS_30 rfl rfl h19 rfl) ?_
       refine au 9 ?_
       refine TL.st rfl rfl rfl (o_lenL (f:=c_I_Part false) rfl rfl rfl) ?_
       refine TL.st rfl rfl rfl (o_move rfl rfl) ?_
       refine TL.st rfl rfl rfl (o_lenL (f:=c_I_Part false) rfl rfl rfl) ?_
       refine au 9 ?_
       obtain ⟨r20,h21,H⟩:=bind_s H
       refine TL.st rfl rfl rfl (o_callP rfl en_49 rfl rfl (.cons _ _ _ _ (.cl _ rfl) (.cons _ _ _ _ (.imv _ _) .nil)) (spec_l3Under_p false b2 h21)) ?_
       refine au 4 ?_
       refine TL.gcq rfl rfl rfl (.bool _) rfl rfl (fun h=>o_move rfl (gv h rfl)) ?_
       refine TL.gcq rfl rfl rfl (.gd _ _) rfl rfl (fun h=>o_move rfl rfl) ?_
       refine TL.gcq rfl rfl rfl (.gd _ _) rfl rfl (fun h=>o_ari rfl (gv h rfl) rfl rfl) ?_
       refine TL.gcq rfl rfl rfl (.bool _) rfl rfl (fun h=>o_and rfl (gv h rfl) rfl (fun k=>Gd_t (andi h k)) rfl) ?_
       refine au 4 ?_
       refine TL.gcq rfl rfl rfl (.bool _) rfl rfl (fun h=>o_move rfl (gv h rfl)) ?_
       refine TL.gcq rfl rfl rfl (.gd _ _) rfl rfl (fun h=>o_move rfl rfl) ?_
       refine TL.gcq rfl rfl rfl (.gd _ _) rfl rfl (fun h=>o_ari rfl (gv h rfl) rfl rfl) ?_
       refine TL.gcq rfl rfl rfl (.bool _) rfl rfl (fun h=>o_and rfl (gv h rfl) rfl (fun k=>Gd_t (andi h k)) rfl) ?_
       refine au 2 ?_
       refine T.cH H ?_ ?_<;>intro H h
       ·refine T.exit ?_
        refine thn_exit ?_
        refine inB_here ?_
        refine au 4 ?_
        exact Pk.of (thn_normal ⟨(l12,l13,(IntKind.i64.wrap (v14 + 1))),(some_i H).symm,rfl,rfl⟩)
       ·refine au 5 ?_
        obtain ⟨r22,h23,H⟩:=bind_s H
        refine TL.st rfl rfl rfl (o_callP rfl en_50 rfl rfl (.cons _ _ _ _ (.cl _ rfl) (.cons _ _ _ _ (.cl _ rfl) .nil)) (spec_l3Values_p false h23)) ?_
        refine au 5 ?_
        refine TL.st rfl rfl rfl (o_lenL (f:=c_str) rfl rfl rfl) ?_
        refine au 2 ?_
        refine T.cH H ?_ ?_<;>intro H h
        ·refine au 4 ?_
         obtain ⟨e24,h25,H⟩:=bind_s H
         refine TL.st rfl rfl rfl (o_ix (f:=c_str) rfl rfl tyS_9 rfl rfl h25 rfl) ?_
         refine TL.st rfl rfl rfl (o_loadRf rfl tyS_9 rfl (nb rfl) rfl) ?_
         refine TL.st rfl rfl rfl (o_sliceIm (rows:=([e24] : List ByteArray).map (c_str)) rfl rfl tyS_9 ⟨_,rfl,rfl⟩ (by decide) rfl rfl rfl rfl rfl rfl) ?_
         obtain ⟨l26,h27,H⟩:=bind_s H
         refine TL.st rfl rfl rfl (o_ap (f:=c_str) (xs:=l12) (ys:=([e24] : List ByteArray)) rfl rfl tyE_9 rfl rfl rfl rfl (by decide) rfl (fun _=>rfl) h27) ?_
         refine au 2 ?_
         refine T.conv (Cs.eqS (σ':=[_,_,.arr .clo 1 (l26.map (c_str)),_,.box (c_I_Entry false e18)]) rfl) ?_
         refine T.exit ?_
         refine thn_exit ?_
         refine inB_here ?_
         refine au 4 ?_
         exact Pk.of (thn_normal ⟨(l26,l13,(IntKind.i64.wrap (v14 + 1))),(some_i H).symm,rfl,rfl⟩)
        ·refine au 6 ?_
         obtain ⟨r28,h29,H⟩:=bind_s H
         refine TL.st rfl rfl rfl (o_callP rfl en_37 rfl rfl (.cons _ _ _ _ (Lent.aggL (.cons _ _ _ _ (.imv _ _) (.cons _ _ _ _ (.imv _ _) .nil))) (.cons _ _ _ _ (.cl _ rfl) (.cons _ _ _ _ (.cl _ rfl) .nil))) (spec_l3Match_p b0 false false h29)) ?_
         refine au 2 ?_
         refine T.cH H ?_ ?_<;>intro H h
         ·refine au 3 ?_
          refine TL.st rfl rfl rfl (o_sliceIm (rows:=([v14] : List Int).map (c_int .i64)) rfl rfl tyS_3 ⟨_,rfl,rfl⟩ (by decide) rfl rfl rfl rfl rfl rfl) ?_
          obtain ⟨l30,h31,H⟩:=bind_s H
          refine TL.st rfl rfl rfl (o_ap (f:=c_int .i64) (xs:=l13) (ys:=([v14] : List Int)) rfl rfl tyE_3 rfl rfl rfl rfl (by decide) rfl (fun _=>rfl) h31) ?_
          refine au 2 ?_
          refine T.conv (Cs.eqS (σ':=[_,_,_,.arr .clo 1 (l30.map (c_int .i64)),.box (c_I_Entry false e18)]) rfl) ?_
          refine au 4 ?_
          exact Pk.of (thn_normal ⟨(l12,l30,(IntKind.i64.wrap (v14 + 1))),(some_i H).symm,rfl,rfl⟩)
         ·refine au 5 ?_
          exact Pk.of (thn_normal ⟨(l12,l13,(IntKind.i64.wrap (v14 + 1))),(some_i H).symm,rfl,rfl⟩)
      ·refine T.exit ?_
       refine thn_exit ?_
       exact Pk.of (thn_exit ⟨(l12,l13),(some_i H).symm,rfl,rfl,rfl⟩)
     ·rcases q32 with ⟨l15,l16⟩
      rintro _ _ _ ⟨rfl,rfl,rfl⟩
      refine inB_here ?_
      refine au 8 ?_
      cases some_i H
      exact ⟨trivial,_,(.tmp _ _ _ _ rfl (.tmp _ _ _ _ rfl .nil)),(.tupL (.cons _ _ _ _ (.own rfl (by decide) rfl) (.cons _ _ _ _ (.own rfl (by decide) rfl) .nil)))⟩
   ·rintro _ fr1 σ1 ⟨rfl,hr⟩
    refine inB_ret (thn_ret ?_)
    cases some_i H
    exact hr
theorem en_14 : En Tryz.prog 14:=.of Tryz.func14 rfl rfl
noncomputable def laws_zInts_l1 (a0 : (List Int)) (a1 : (List Int)) : Int → Option (Int ⊕ (Unit ⊕ Bool)):=fun s=>match s with
  | v1=>cond (decide (v1 < (a0.length : Int))) ((idx a0 v1).bind fun e4=>(idx a1 v1).bind fun e6=>cond (e4 != e6) (some (.inr (.inr false))) (some (.inl (IntKind.i64.wrap (v1 + 1))))) (some (.inr (.inl ())))
noncomputable def laws_zInts (a0 : (List Int)) (a1 : (List Int)) : Option Bool :=
  cond ((a0.length : Int) != (a1.length : Int)) (some false) ((loopO (laws_zInts_l1 a0 a1) 0).bind fun q8=>(match q8 with | .inl _=>some true | .inr q2=>some q2))
theorem laws_zInts_p (b0 : Bool) (b1 : Bool) {a0 : (List Int)} {a1 : (List Int)} {R0 : Bool} (H : laws_zInts a0 a1 = some R0) : Pure Tryz.prog 15 [.im b0 (a0.map (c_int .i64)),.im b1 (a1.map (c_int .i64))] (.bool R0):=by
 refine CallT.of_TN (n:=26) Tryz.func15 rfl rfl rfl rfl ?_
 refine au 8 ?_
 refine TL.st rfl rfl rfl (o_lenL (f:=c_int .i64) rfl rfl rfl) ?_
 refine TL.st rfl rfl rfl (o_move rfl rfl) ?_
 refine TL.st rfl rfl rfl (o_lenL (f:=c_int .i64) rfl rfl rfl) ?_
 refine au 2 ?_
 refine T.cH H ?_ ?_<;>intro H h
 ·refine au 5 ?_
  refine thn_ret ?_
  cases some_i H
  exact ⟨trivial,_,(.tmp _ _ _ _ rfl .nil),(.cl _ rfl)⟩
 ·refine au 5 ?_
  refine TL.st rfl rfl rfl (o_lenL (f:=c_int .i64) rfl rfl rfl) ?_
  refine au 3 ?_
  obtain ⟨q8,h9,H⟩:=bind_s H
  refine T.lq (fun s=>match s with | v1=>[(0,.im b0 (a0.map (c_int .i64))),(1,.im b1 (a1.map (c_int .i64))),(12,.int .i64 (a0.length : Int)),(13,.int .i64 v1)]) (fun s=>match s with | v1=>[]) (fun q ex fr σ=>match q with | .inl _=>ex = .exit 0 ∧ fr = [] ∧ σ = [] | .inr q2=>ex = .ret ∧ RetN Tryz.prog [.tmp 4] (fun v τ=>Told τ v (.bool q2)) .ret fr σ) h9 ?_ ?_
  ·rintro v1 y3 H
   refine au 5 ?_
   refine T.cH H ?_ ?_<;>intro H h
   ·refine au 9 ?_
    refine T.drawn rfl ?_
    refine ad 2 ?_
    obtain ⟨e4,h5,H⟩:=bind_s H
    refine TD.qs rfl rfl (fun _=>o_ix (f:=c_int .i64) rfl rfl tyS_3 rfl rfl h5 rfl) ?_
    refine TD.qs rfl rfl (fun _=>o_loadRf rfl tyS_3 rfl (nb rfl) rfl) ?_
    refine ad 2 ?_
    obtain ⟨e6,h7,H⟩:=bind_s H
    refine TD.qs rfl rfl (fun _=>o_ix (f:=c_int .i64) rfl rfl tyS_3 rfl rfl h7 rfl) ?_
    refine TD.qs rfl rfl (fun _=>o_loadRf rfl tyS_3 rfl (nb rfl) rfl) ?_
    refine TD.qs rfl rfl (fun _=>o_ari rfl rfl rfl rfl) ?_
    refine TD.nil ⟨rfl,?_⟩
    refine thn_normal ?_
    refine T.cH H ?_ ?_<;>intro H h
    ·refine au 5 ?_
     refine inB_ret (thn_ret ?_)
     exact Pk.id (thn_ret ⟨.inr false,(some_i H).symm,rfl,⟨trivial,_,(.tmp _ _ _ _ rfl .nil),(.cl _ rfl)⟩⟩)
    ·refine au 5 ?_
     exact Pk.of (thn_normal ⟨(IntKind.i64.wrap (v1 + 1)),(some_i H).symm,rfl,rfl⟩)
   ·refine T.exit ?_
    refine thn_exit ?_
    exact Pk.of (thn_exit ⟨.inl (),(some_i H).symm,rfl,rfl,rfl⟩)
  ·rcases q8 with ⟨⟩ | q2
   ·rintro _ _ _ ⟨rfl,rfl,rfl⟩
    refine inB_here ?_
    refine au 5 ?_
    cases some_i H
    exact ⟨trivial,_,(.tmp _ _ _ _ rfl .nil),(.cl _ rfl)⟩
   ·rintro _ fr1 σ1 ⟨rfl,hr⟩
    refine inB_ret (thn_ret ?_)
    cases some_i H
    exact hr
theorem en_15 : En Tryz.prog 15:=.of Tryz.func15 rfl rfl
noncomputable def laws_zTexts_l1 (a0 : (List ByteArray)) (a1 : (List ByteArray)) : Int → Option (Int ⊕ (Unit ⊕ Bool)):=fun s=>match s with
  | v1=>cond (decide (v1 < (a0.length : Int))) ((idx a0 v1).bind fun e4=>(idx a1 v1).bind fun e6=>cond (!(e4.toList == e6.toList)) (some (.inr (.inr false))) (some (.inl (IntKind.i64.wrap (v1 + 1))))) (some (.inr (.inl ())))
noncomputable def laws_zTexts (a0 : (List ByteArray)) (a1 : (List ByteArray)) : Option Bool :=
  cond ((a0.length : Int) != (a1.length : Int)) (some false) ((loopO (laws_zTexts_l1 a0 a1) 0).bind fun q8=>(match q8 with | .inl _=>some true | .inr q2=>some q2))
theorem laws_zTexts_p (b0 : Bool) (b1 : Bool) {a0 : (List ByteArray)} {a1 : (List ByteArray)} {R0 : Bool} (H : laws_zTexts a0 a1 = some R0) : Pure Tryz.prog 16 [.im b0 (a0.map (c_str)),.im b1 (a1.map (c_str))] (.bool R0):=by
 refine CallT.of_TN (n:=26) Tryz.func16 rfl rfl rfl rfl ?_
 refine au 8 ?_
 refine TL.st rfl rfl rfl (o_lenL (f:=c_str) rfl rfl rfl) ?_
 refine TL.st rfl rfl rfl (o_move rfl rfl) ?_
 refine TL.st rfl rfl rfl (o_lenL (f:=c_str) rfl rfl rfl) ?_
 refine au 2 ?_
 refine T.cH H ?_ ?_<;>intro H h
 ·refine au 5 ?_
  refine thn_ret ?_
  cases some_i H
  exact ⟨trivial,_,(.tmp _ _ _ _ rfl .nil),(.cl _ rfl)⟩
 ·refine au 5 ?_
  refine TL.st rfl rfl rfl (o_lenL (f:=c_str) rfl rfl rfl) ?_
  refine au 3 ?_
  obtain ⟨q8,h9,H⟩:=bind_s H
  refine T.lq (fun s=>match s with | v1=>[(0,.im b0 (a0.map (c_str))),(1,.im b1 (a1.map (c_str))),(12,.int .i64 (a0.length : Int)),(13,.int .i64 v1)]) (fun s=>match s with | v1=>[]) (fun q ex fr σ=>match q with | .inl _=>ex = .exit 0 ∧ fr = [] ∧ σ = [] | .inr q2=>ex = .ret ∧ RetN Tryz.prog [.tmp 4] (fun v τ=>Told τ v (.bool q2)) .ret fr σ) h9 ?_ ?_
  ·rintro v1 y3 H
   refine au 5 ?_
   refine T.cH H ?_ ?_<;>intro H h
   ·refine au 9 ?_
    refine T.drawn rfl ?_
    refine ad 2 ?_
    obtain ⟨e4,h5,H⟩:=bind_s H
    refine TD.qs rfl rfl (fun _=>o_ix (f:=c_str) rfl rfl tyS_9 rfl rfl h5 rfl) ?_
    refine TD.qs rfl rfl (fun _=>o_loadRf rfl tyS_9 rfl (nb rfl) rfl) ?_
    refine ad 2 ?_
    obtain ⟨e6,h7,H⟩:=bind_s H
    refine TD.qs rfl rfl (fun _=>o_ix (f:=c_str) rfl rfl tyS_9 rfl rfl h7 rfl) ?_
    refine TD.qs rfl rfl (fun _=>o_loadRf rfl tyS_9 rfl (nb rfl) rfl) ?_
    refine TD.qs rfl rfl (fun _=>o_str rfl rfl rfl rfl) ?_
    refine TD.nil ⟨rfl,?_⟩
    refine thn_normal ?_
    refine T.cH H ?_ ?_<;>intro H h
    ·refine au 5 ?_
     refine inB_ret (thn_ret ?_)
     exact Pk.id (thn_ret ⟨.inr false,(some_i H).symm,rfl,⟨trivial,_,(.tmp _ _ _ _ rfl .nil),(.cl _ rfl)⟩⟩)
    ·refine au 5 ?_
     exact Pk.of (thn_normal ⟨(IntKind.i64.wrap (v1 + 1)),(some_i H).symm,rfl,rfl⟩)
   ·refine T.exit ?_
    refine thn_exit ?_
    exact Pk.of (thn_exit ⟨.inl (),(some_i H).symm,rfl,rfl,rfl⟩)
  ·rcases q8 with ⟨⟩ | q2
   ·rintro _ _ _ ⟨rfl,rfl,rfl⟩
    refine inB_here ?_
    refine au 5 ?_
    cases some_i H
    exact ⟨trivial,_,(.tmp _ _ _ _ rfl .nil),(.cl _ rfl)⟩
   ·rintro _ fr1 σ1 ⟨rfl,hr⟩
    refine inB_ret (thn_ret ?_)
    cases some_i H
    exact hr
theorem en_16 : En Tryz.prog 16:=.of Tryz.func16 rfl rfl
noncomputable def impl_MatchFilter (a0 : I_DirSchema) (a1 : I_Entry) (a2 : (List I_FilterNode)) : Option Int :=
  (impl_GoodDirSchema a0).bind fun r1=>(gdO (!(!r1)) (impl_GoodEntry a1)).bind fun r3=>(gdO (!((!r1) || (!r3))) (impl_GoodFilter a2)).bind fun r5=>cond (((!r1) || (!r3)) || (!r5)) (some (-1)) ((impl_DirSchema_ymeets a0 a1 a2 0).bind fun q=>(match q with | (r7,r8)=>some r7))
theorem impl_MatchFilter_p (b0 : Bool) (b1 : Bool) (b2 : Bool) {a0 : I_DirSchema} {a1 : I_Entry} {a2 : (List I_FilterNode)} {R0 : Int} (H : impl_MatchFilter a0 a1 a2 = some R0) : Pure Tryz.prog 7 [.agg (c_I_DirSchema b0 a0),.agg (c_I_Entry b1 a1),.im b2 (a2.map (c_I_FilterNode false))] (.int .i64 R0):=by
 refine CallT.of_TN (n:=30) Tryz.func7 rfl rfl rfl rfl ?_
 refine au 10 ?_
 obtain ⟨r1,h2,H⟩:=bind_s H
 refine TL.st rfl rfl rfl (o_callP rfl en_30 rfl rfl (.cons _ _ _ _ (Lent.aggL (.cons _ _ _ _ (.imv _ _) (.cons _ _ _ _ (.imv _ _) .nil))) .nil) (impl_GoodDirSchema_p b0 h2)) ?_
 refine au 2 ?_
 refine TL.gcq rfl rfl rfl (.bool _) rfl rfl (fun h=>o_loadBx rfl tyS_30 rfl rfl (nb rfl) rfl) ?_
 obtain ⟨r3,h4,H⟩:=bind_s H
 refine TL.gcq rfl rfl rfl (.bool _) rfl rfl (fun h=>o_callP rfl en_31 rfl (evl_1 (gv h rfl)) (.cons _ _ _ _ (Lent.aggL (.cons _ _ _ _ (.imv _ _) (.cons _ _ _ _ (.imv _ _) .nil))) .nil) (impl_GoodEntry_p b1 (gdO_t h4 h))) ?_
 refine au 4 ?_
 obtain ⟨r5,h6,H⟩:=bind_s H
 refine TL.gcq rfl rfl rfl (.bool _) rfl rfl (fun h=>o_callP rfl en_32 rfl (evl_1 (gv h rfl)) (.cons _ _ _ _ (.imv _ _) .nil) (impl_GoodFilter_p b2 (gdO_t h6 h))) ?_
 refine au 3 ?_
 refine T.cH H ?_ ?_<;>intro H h
 ·refine au 5 ?_
  refine thn_ret ?_
  cases some_i H
  exact ⟨trivial,_,(.tmp _ _ _ _ rfl .nil),(.cl _ rfl)⟩
 ·refine au 6 ?_
  obtain ⟨⟨r7,r8⟩,h9,H⟩:=bind_s H
  refine TL.st rfl rfl rfl (o_callP rfl en_33 rfl rfl (.cons _ _ _ _ (Lent.aggL (.cons _ _ _ _ (.imv _ _) (.cons _ _ _ _ (.imv _ _) .nil))) (.cons _ _ _ _ (Lent.aggL (.cons _ _ _ _ (.imv _ _) (.cons _ _ _ _ (.imv _ _) .nil))) (.cons _ _ _ _ (.imv _ _) (.cons _ _ _ _ (.cl _ rfl) .nil)))) (impl_DirSchema_ymeets_p b0 b1 b2 h9)) ?_
  refine au 12 ?_
  cases some_i H
  exact ⟨trivial,_,(.tmp _ _ _ _ rfl .nil),(.cl _ rfl)⟩
theorem en_7 : En Tryz.prog 7:=.of Tryz.func7 rfl rfl
noncomputable def spec_HasInt_l1 (a0 : (List Int)) (a1 : Int) : Int → Option (Int ⊕ (Unit ⊕ Bool)):=fun s=>match s with
  | v1=>cond (decide (v1 < (a0.length : Int))) ((idx a0 v1).bind fun e4=>cond (e4 == a1) (some (.inr (.inr true))) (some (.inl (IntKind.i64.wrap (v1 + 1))))) (some (.inr (.inl ())))
noncomputable def spec_HasInt (a0 : (List Int)) (a1 : Int) : Option Bool :=
  (loopO (spec_HasInt_l1 a0 a1) 0).bind fun q6=>(match q6 with | .inl _=>some false | .inr q2=>some q2)
theorem spec_HasInt_p (b0 : Bool) {a0 : (List Int)} {a1 : Int} {R0 : Bool} (H : spec_HasInt a0 a1 = some R0) : Pure Tryz.prog 18 [.im b0 (a0.map (c_int .i64)),.int .i64 a1] (.bool R0):=by
 refine CallT.of_TN (n:=17) Tryz.func18 rfl rfl rfl rfl ?_
 refine au 8 ?_
 refine TL.st rfl rfl rfl (o_lenL (f:=c_int .i64) rfl rfl rfl) ?_
 refine au 3 ?_
 obtain ⟨q6,h7,H⟩:=bind_s H
 refine T.lq (fun s=>match s with | v1=>[(1,.int .i64 a1),(7,.im b0 (a0.map (c_int .i64))),(8,.int .i64 (a0.length : Int)),(9,.int .i64 v1)]) (fun s=>match s with | v1=>[]) (fun q ex fr σ=>match q with | .inl _=>ex = .exit 0 ∧ fr = [] ∧ σ = [] | .inr q2=>ex = .ret ∧ RetN Tryz.prog [.tmp 4] (fun v τ=>Told τ v (.bool q2)) .ret fr σ) h7 ?_ ?_
 ·rintro v1 y3 H
  refine au 5 ?_
  refine T.cH H ?_ ?_<;>intro H h
  ·refine au 5 ?_
   obtain ⟨e4,h5,H⟩:=bind_s H
   refine TL.st rfl rfl rfl (o_ix (f:=c_int .i64) rfl rfl tyS_3 rfl rfl h5 rfl) ?_
   refine au 9 ?_
   refine T.cH H ?_ ?_<;>intro H h
   ·refine au 5 ?_
    refine inB_ret (thn_ret ?_)
    exact Pk.id (thn_ret ⟨.inr true,(some_i H).symm,rfl,⟨trivial,_,(.tmp _ _ _ _ rfl .nil),(.cl _ rfl)⟩⟩)
   ·refine au 5 ?_
    exact Pk.of (thn_normal ⟨(IntKind.i64.wrap (v1 + 1)),(some_i H).symm,rfl,rfl⟩)
  ·refine T.exit ?_
   refine thn_exit ?_
   exact Pk.of (thn_exit ⟨.inl (),(some_i H).symm,rfl,rfl,rfl⟩)
 ·rcases q6 with ⟨⟩ | q2
  ·rintro _ _ _ ⟨rfl,rfl,rfl⟩
   refine inB_here ?_
   refine au 5 ?_
   cases some_i H
   exact ⟨trivial,_,(.tmp _ _ _ _ rfl .nil),(.cl _ rfl)⟩
  ·rintro _ fr1 σ1 ⟨rfl,hr⟩
   refine inB_ret (thn_ret ?_)
   cases some_i H
   exact hr
theorem en_18 : En Tryz.prog 18:=.of Tryz.func18 rfl rfl
noncomputable def laws_FnFound_l2 (r19 : (List Int)) (l30 : (List Int)) : Int → Option (Int ⊕ (Unit ⊕ Bool)):=fun s=>match s with
  | v32=>cond (decide (v32 < (l30.length : Int))) ((idx l30 v32).bind fun e35=>(spec_HasInt r19 e35).bind fun r37=>cond (!r37) (some (.inr (.inr false))) (some (.inl (IntKind.i64.wrap (v32 + 1))))) (some (.inr (.inl ())))
noncomputable def laws_FnFound_l1 (r1 : I_DirSchema) (r2 : (List I_Entry)) (r3 : (List I_Part)) (r5 : (List I_FilterNode)) (r7 : (List Int)) : Int → Option (Int ⊕ (Unit ⊕ Bool)):=fun s=>match s with
  | v17=>cond (decide (v17 < (r7.length : Int))) ((idx r7 v17).bind fun e42=>(gdO (!(decide (e42 < 0) || decide (e42 ≥ (r2.length : Int)))) (idx r2 e42)).bind fun e44=>(gdO (!(decide (e42 < 0) || decide (e42 ≥ (r2.length : Int)))) (impl_MatchFilter r1 e44 r5)).bind fun r46=>(gdO (!((decide (e42 < 0) || decide (e42 ≥ (r2.length : Int))) || (r46 != 1))) (idx r2 e42)).bind fun e48=>(gdO (!((decide (e42 < 0) || decide (e42 ≥ (r2.length : Int))) || (r46 != 1))) (impl_Under e48.Name_ r3)).bind fun r50=>cond (((decide (e42 < 0) || decide (e42 ≥ (r2.length : Int))) || (r46 != 1)) || (!r50)) (some (.inr (.inr false))) (some (.inl (IntKind.i64.wrap (v17 + 1))))) (some (.inr (.inl ())))
noncomputable def laws_FnFound (a0 : (List Int)) : Option Bool :=
  cond (decide ((a0.length : Int) > 1048576)) (some true) ((spec_DrawSearch a0).bind fun q=>(match q with | (r1,r2,r3,r4,r5)=>(impl_Search r1 r2 r3 r4 r5).bind fun q=>(match q with | (r7,r8)=>(spec_Search r1 r2 r3 r4 r5).bind fun q=>(match q with | (r10,r11)=>(laws_zInts r7 r10).bind fun r13=>(gdO (!(!r13)) (laws_zTexts r8 r11)).bind fun r15=>cond ((!r13) || (!r15)) (some false) ((loopO (laws_FnFound_l1 r1 r2 r3 r5 r7) 0).bind fun q52=>(match q52 with | .inl _=>(impl_Search r1 r2 r3 3 r5).bind fun q=>(match q with | (r19,r20)=>(impl_Search r1 r2 r3 2 r5).bind fun q=>(match q with | (r22,r23)=>(impl_Search r1 r2 r3 1 r5).bind fun q=>(match q with | (r25,r26)=>(app ([] : List Int) r22).bind fun l28=>(app l28 r25).bind fun l30=>(loopO (laws_FnFound_l2 r19 l30) 0).bind fun q39=>(match q39 with | .inl _=>some (decide ((IntKind.i64.wrap ((r22.length : Int) + (r25.length : Int))) ≤ (r19.length : Int))) | .inr q33=>some q33)))) | .inr q18=>some q18))))))
theorem laws_FnFound_p (b0 : Bool) {a0 : (List Int)} {R0 : Bool} (H : laws_FnFound a0 = some R0) : Pure Tryz.prog 4 [.im b0 (a0.map (c_int .u8))] (.bool R0) := by
 refine CallT.of_TN (n:=143) Tryz.func4 rfl rfl rfl rfl ?_
 refine au 8 ?_
 refine TL.st rfl rfl rfl (o_lenL (f:=c_int .u8) rfl rfl rfl) ?_
 refine au 2 ?_
 refine T.cH H ?_ ?_<;>intro H h
 ·refine au 5 ?_
  refine thn_ret ?_
  cases some_i H
  exact ⟨trivial,_,(.tmp _ _ _ _ rfl .nil),(.cl _ rfl)⟩
 ·refine au 4 ?_
  obtain ⟨⟨r1,r2,r3,r4,r5⟩,h6,H⟩:=bind_s H
  refine TL.st rfl rfl rfl (o_callP rfl en_12 rfl rfl (.cons _ _ _ _ (.imv _ _) .nil) (spec_DrawSearch_p b0 h6)) ?_
  refine au 20 ?_
  obtain ⟨⟨r7,r8⟩,h9,H⟩:=bind_s H
  refine TL.st rfl rfl rfl (o_callP rfl en_13 rfl rfl (.cons _ _ _ _ (.cl _ rfl) (.cons _ _ _ _ (.cl _ rfl) (.cons _ _ _ _ (.cl _ rfl) (.cons _ _ _ _ (.cl _ rfl) (.cons _ _ _ _ (.cl _ rfl) .nil))))) (impl_Search_p false false false false h9)) ?_
  refine au 13 ?_
  obtain ⟨⟨r10,r11⟩,h12,H⟩:=bind_s H
  refine TL.st rfl rfl rfl (o_callP rfl en_14 rfl rfl (.cons _ _ _ _ (.cl _ rfl) (.cons _ _ _ _ (.cl _ rfl) (.cons _ _ _ _ (.cl _ rfl) (.cons _ _ _ _ (.cl _ rfl) (.cons _ _ _ _ (.cl _ rfl) .nil))))) (spec_Search_p false false false false h12)) ?_
  refine au 11 ?_
  obtain ⟨r13,h14,H⟩:=bind_s H
  refine TL.st rfl rfl rfl (o_callP rfl en_15 rfl rfl (.cons _ _ _ _ (.cl _ rfl) (.cons _ _ _ _ (.cl _ rfl) .nil)) (laws_zInts_p false false h14)) ?_
  refine au 4 ?_
  obtain ⟨r15,h16,H⟩:=bind_s H
  refine TL.gcq rfl rfl rfl (.bool _) rfl rfl (fun h=>o_callP rfl en_16 rfl (evl_2 (gv h rfl) (gv h rfl)) (.cons _ _ _ _ (.cl _ rfl) (.cons _ _ _ _ (.cl _ rfl) .nil)) (laws_zTexts_p false false (gdO_t h16 h))) ?_
  refine au 3 ?_
  refine T.cH H ?_ ?_<;>intro H h
  ·refine au 5 ?_
   refine thn_ret ?_
   cases some_i H
   exact ⟨trivial,_,(.tmp _ _ _ _ rfl .nil),(.cl _ rfl)⟩
  ·refine au 5 ?_
   refine TL.st rfl rfl rfl (o_lenL (f:=c_int .i64) rfl rfl rfl) ?_
   refine au 3 ?_
   obtain ⟨q52,h53,H⟩:=bind_s H
   refine T.lq (fun s=>match s with | v17=>[(3,.bx 0 0),(4,.im false (r2.map (c_I_Entry false))),(5,.im false (r3.map (c_I_Part false))),(7,.im false (r5.map (c_I_FilterNode false))),(61,.im false (r7.map (c_int .i64))),(62,.int .i64 (r7.length : Int)),(63,.int .i64 v17)]) (fun s=>match s with | v17=>[.box (c_I_DirSchema false r1)]) (fun q ex fr σ=>match q with | .inl _=>ex = .exit 0 ∧ fr = [(3,.bx 0 0),(4,.im false (r2.map (c_I_Entry false))),(5,.im false (r3.map (c_I_Part false))),(7,.im false (r5.map (c_I_FilterNode false)))] ∧ σ = [.box (c_I_DirSchema false r1)] | .inr q18=>ex = .ret ∧ RetN Tryz.prog [.tmp 2] (fun v τ=>Told τ v (.bool q18)) .ret fr σ) h53 ?_ ?_
   ·rintro v17 y41 H
    refine au 5 ?_
    refine T.cH H ?_ ?_<;>intro H h
    ·refine au 5 ?_
     obtain ⟨e42,h43,H⟩:=bind_s H
     refine TL.st rfl rfl rfl (o_ix (f:=c_int .i64) rfl rfl tyS_3 rfl rfl h43 rfl) ?_
     refine au 4 ?_
     refine T.drawn rfl ?_
     refine ad 5 ?_
     refine TD.cq rfl rfl rfl (.bool _) rfl (fun h _=>o_lenL (f:=c_I_Entry false) rfl rfl (gv h rfl)) ?_
     refine TD.cq rfl rfl rfl (.bool _) rfl (fun h _=>o_ari rfl (gv h rfl) (gv h rfl) rfl) ?_
     refine ad 2 ?_
     refine TD.cr rfl rfl rfl (.bool _) rfl (fun h=>o_loadBx rfl tyS_26 rfl rfl (nb rfl) rfl) ?_
     refine ad 2 ?_
     obtain ⟨e44,h45,H⟩:=bind_s H
     refine TD.cq rfl rfl rfl (.bool _) rfl (fun h _=>o_ix (f:=c_I_Entry false) rfl rfl tyS_30 (gv h rfl) (gv h rfl) (gdO_t h45 h) rfl) ?_
     refine TD.cq rfl rfl rfl (.bool _) rfl (fun h _=>o_loadRf rfl tyS_30 (gv h rfl) (nb rfl) rfl) ?_
     refine TD.cq rfl rfl rfl (.bool _) rfl (fun h _=>o_move rfl rfl) ?_
     obtain ⟨r46,h47,H⟩:=bind_s H
     refine TD.cq rfl rfl rfl (.bool _) rfl (fun h _=>o_callP rfl en_7 rfl (evl_3 (gv h rfl) (gv h rfl) (gv h rfl)) (.cons _ _ _ _ (.cl _ rfl) (.cons _ _ _ _ (.cl _ rfl) (.cons _ _ _ _ (.cl _ rfl) .nil))) (impl_MatchFilter_p false false false (gdO_t h47 h))) ?_
     refine TD.cq rfl rfl rfl (.bool _) rfl (fun h _=>o_ari rfl (gv h rfl) rfl rfl) ?_
     refine ad 4 ?_
     obtain ⟨e48,h49,H⟩:=bind_s H
     refine TD.cq rfl rfl rfl (.bool _) rfl (fun h _=>o_ix (f:=c_I_Entry false) rfl rfl tyS_30 (gv h rfl) (gv h rfl) (gdO_t h49 h) rfl) ?_
     refine TD.cq rfl rfl rfl (.bool _) rfl (fun h _=>o_fieldAddr rfl rfl rfl tyS_27 (by decide) (gv h rfl) rfl trivial) ?_
     refine TD.cq rfl rfl rfl (.bool _) rfl (fun h _=>o_loadRf rfl tyS_27 (gv h rfl) (nb rfl) rfl) ?_
     refine TD.cq rfl rfl rfl (.bool _) rfl (fun h _=>o_move rfl rfl) ?_
     obtain ⟨r50,h51,H⟩:=bind_s H
     refine TD.cq rfl rfl rfl (.bool _) rfl (fun h _=>o_callP rfl en_17 rfl (evl_2 (gv h rfl) (gv h rfl)) (.cons _ _ _ _ (.cl _ rfl) (.cons _ _ _ _ (.cl _ rfl) .nil)) (impl_Under_p false false (gdO_t h51 h))) ?_
     refine TD.cq rfl rfl rfl (.bool _) rfl (fun h _=>o_not rfl (gv h rfl)) ?_
     refine TD.qs rfl rfl (fun _=>o_or rfl rfl rfl rfl (fun k=>Gd_t k)) ?_
     refine TD.nil ⟨rfl,?_⟩
     refine thn_normal ?_
     refine T.cH H ?_ ?_<;>intro H h
     ·refine au 5 ?_
      refine inB_ret (thn_ret ?_)
      exact Pk.id (thn_ret ⟨.inr false,(some_i H).symm,rfl,⟨trivial,_,(.tmp _ _ _ _ rfl .nil),(.cl _ rfl)⟩⟩)
     ·refine au 5 ?_
      exact Pk.of (thn_normal ⟨(IntKind.i64.wrap (v17 + 1)),(some_i H).symm,rfl,rfl⟩)
    ·refine T.exit ?_
     refine thn_exit ?_
     exact Pk.of (thn_exit ⟨.inl (),(some_i H).symm,rfl,rfl,rfl⟩)
   ·rcases q52 with ⟨⟩ | q18
    ·rintro _ _ _ ⟨rfl,rfl,rfl⟩
     refine inB_here ?_
     refine au 6 ?_
     obtain ⟨⟨r19,r20⟩,h21,H⟩:=bind_s H
     refine TL.st rfl rfl rfl (o_callP rfl en_13 rfl rfl (.cons _ _ _ _ (.cl _ rfl) (.cons _ _ _ _ (.cl _ rfl) (.cons _ _ _ _ (.cl _ rfl) (.cons _ _ _ _ (.cl _ rfl) (.cons _ _ _ _ (.cl _ rfl) .nil))))) (impl_Search_p false false false false h21)) ?_
     refine au 12 ?_
     obtain ⟨⟨r22,r23⟩,h24,H⟩:=bind_s H
     refine TL.st rfl rfl rfl (o_callP rfl en_13 rfl rfl (.cons _ _ _ _ (.cl _ rfl) (.cons _ _ _ _ (.cl _ rfl) (.cons _ _ _ _ (.cl _ rfl) (.cons _ _ _ _ (.cl _ rfl) (.cons _ _ _ _ (.cl _ rfl) .nil))))) (impl_Search_p false false false false h24)) ?_
     refine au 12 ?_
     obtain ⟨⟨r25,r26⟩,h27,H⟩:=bind_s H
     refine TL.st rfl rfl rfl (o_callP rfl en_13 rfl rfl (.cons _ _ _ _ (.cl _ rfl) (.cons _ _ _ _ (.cl _ rfl) (.cons _ _ _ _ (.cl _ rfl) (.cons _ _ _ _ (.cl _ rfl) (.cons _ _ _ _ (.cl _ rfl) .nil))))) (impl_Search_p false false false false h27)) ?_
     refine au 9 ?_
     refine TL.st rfl rfl rfl (o_sliceHd (rows:=([] : List Int).map (c_int .i64)) .clo rfl rfl tyS_3 ⟨_,rfl,rfl⟩ (by decide) rfl rfl rfl rfl (by decide) (fun _=>rfl) (by decide) rfl (by decide)) ?_
     refine TL.st rfl rfl rfl (o_move rfl rfl) ?_
     obtain ⟨l28,h29,H⟩:=bind_s H
     refine TL.st rfl rfl rfl (o_ap (f:=c_int .i64) (xs:=([] : List Int)) (ys:=r22) rfl rfl tyE_3 rfl rfl rfl rfl (by decide) rfl (fun _=>rfl) h29) ?_
     refine TL.st rfl rfl rfl (o_move rfl rfl) ?_
     obtain ⟨l30,h31,H⟩:=bind_s H
     refine TL.st rfl rfl rfl (o_ap (f:=c_int .i64) (xs:=l28) (ys:=r25) rfl rfl tyE_3 rfl rfl rfl rfl (by decide) rfl (fun _=>rfl) h31) ?_
     refine TL.st rfl rfl rfl (o_lenOwn (f:=c_int .i64) rfl rfl rfl rfl rfl) ?_
     refine au 2 ?_
     refine T.conv (Cs.eqS (σ':=[_,.arr .clo 1 (l30.map (c_int .i64))]) rfl) ?_
     refine T.block ?_
     obtain ⟨q39,h40,H⟩:=bind_s H
     refine T.lq (fun s=>match s with | v32=>[(14,.im false (r19.map (c_int .i64))),(16,.im false (r22.map (c_int .i64))),(18,.im false (r25.map (c_int .i64))),(124,.hd 1 (l30.map (c_int .i64)).length 0 (l30.map (c_int .i64)).length),(125,.int .i64 (l30.length : Int)),(126,.int .i64 v32)]) (fun s=>match s with | v32=>[.box (c_I_DirSchema false r1),.arr .clo 1 (l30.map (c_int .i64))]) (fun q ex fr σ=>match q with | .inl _=>ex = .exit 2 ∧ fr = [(14,.im false (r19.map (c_int .i64))),(16,.im false (r22.map (c_int .i64))),(18,.im false (r25.map (c_int .i64)))] ∧ σ = [.box (c_I_DirSchema false r1),.arr .clo 1 (l30.map (c_int .i64))] | .inr q33=>ex = .ret ∧ RetN Tryz.prog [.tmp 2] (fun v τ=>Told τ v (.bool q33)) .ret fr σ) h40 ?_ ?_
     ·rintro v32 y34 H
      refine au 5 ?_
      refine T.cH H ?_ ?_<;>intro H h
      ·refine au 5 ?_
       obtain ⟨e35,h36,H⟩:=bind_s H
       refine TL.st rfl rfl rfl (o_ixh (f:=c_int .i64) rfl rfl tyS_3 rfl rfl rfl rfl h36 rfl) ?_
       refine TL.st rfl rfl rfl (o_loadEl rfl tyS_3 rfl rfl rfl (by rw [List.getElem?_map,(idx_s h36).2]; rfl) (nb rfl) rfl) ?_
       refine au 6 ?_
       obtain ⟨r37,h38,H⟩:=bind_s H
       refine TL.st rfl rfl rfl (o_callP rfl en_18 rfl rfl (.cons _ _ _ _ (.cl _ rfl) (.cons _ _ _ _ (.cl _ rfl) .nil)) (spec_HasInt_p false h38)) ?_
       refine au 2 ?_
       refine T.cH H ?_ ?_<;>intro H h
       ·refine au 5 ?_
        refine inB_ret (thn_ret ?_)
        exact Pk.id (thn_ret ⟨.inr false,(some_i H).symm,rfl,⟨trivial,_,(.tmp _ _ _ _ rfl .nil),(.cl _ rfl)⟩⟩)
       ·refine au 5 ?_
        exact Pk.of (thn_normal ⟨(IntKind.i64.wrap (v32 + 1)),(some_i H).symm,rfl,rfl⟩)
      ·refine T.exit ?_
       refine thn_exit ?_
       exact Pk.of (thn_exit ⟨.inl (),(some_i H).symm,rfl,rfl,rfl⟩)
     ·rcases q39 with ⟨⟩ | q33
      ·rintro _ _ _ ⟨rfl,rfl,rfl⟩
       refine inB_here ?_
       refine au 3 ?_
       refine TL.st rfl rfl rfl (o_lenL (f:=c_int .i64) rfl rfl rfl) ?_
       refine TL.st rfl rfl rfl (o_move rfl rfl) ?_
       refine TL.st rfl rfl rfl (o_lenL (f:=c_int .i64) rfl rfl rfl) ?_
       refine au 2 ?_
       refine TL.st rfl rfl rfl (o_lenL (f:=c_int .i64) rfl rfl rfl) ?_
       refine au 4 ?_
       cases some_i H
       exact ⟨trivial,_,(.tmp _ _ _ _ rfl .nil),(.cl _ rfl)⟩
      ·rintro _ fr1 σ1 ⟨rfl,hr⟩
       refine inB_ret (thn_ret ?_)
       cases some_i H
       exact hr
    ·rintro _ fr1 σ1 ⟨rfl,hr⟩
     refine inB_ret (thn_ret ?_)
     cases some_i H
     exact hr
end Go.G36.FT
