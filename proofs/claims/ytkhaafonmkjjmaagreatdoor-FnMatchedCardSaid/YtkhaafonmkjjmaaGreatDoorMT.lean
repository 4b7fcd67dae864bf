import Derived.Test.YtkhaafonmkjjmaaGreatDoorMT2
set_option linter.all false
set_option maxRecDepth 20000
set_option maxHeartbeats 4000000
namespace Go.G36.MT
open Go Go.Proofs Go.G36.MT
theorem spec_l3Class_p (b0 : Bool) {a0 : I_DirSchema} {a1 : ByteArray} {R0 : I_Class} {R1 : Bool} (H : spec_l3Class a0 a1 = some (R0,R1)) : Pure Tryz.prog 81 [.agg (c_I_DirSchema b0 a0),.str a1] (.tup [.agg (c_I_Class false R0),.bool R1]):=by
 refine CallT.of_TN (n:=22) Tryz.func81 rfl rfl rfl rfl ?_
 refine au 11 ?_
 refine TL.st rfl rfl rfl (o_lenL (f:=c_I_Class false) rfl rfl rfl) ?_
 refine au 3 ?_
 obtain ⟨q6,h7,H⟩:=bind_s H
 refine T.lq (fun s=>match s with | v1=>[(1,.str a1),(4,.bx 1 0),(9,.im b0 (a0.Classes_.map (c_I_Class false))),(10,.int .i64 (a0.Classes_.length : Int)),(11,.int .i64 v1)]) (fun s=>match s with | v1=>[.box (c_I_DirSchema b0 a0),.box [.str e0,.str e0,.nilS,.nilS]]) (fun q ex fr σ=>match q with | .inl _=>ex = .exit 0 ∧ fr = [(4,.bx 1 0)] ∧ σ = [.box (c_I_DirSchema b0 a0),.box [.str e0,.str e0,.nilS,.nilS]] | .inr q2=>ex = .ret ∧ RetN Tryz.prog [.cell 4 108,.tmp 5] (fun v τ=>Told τ v (.tup [.agg (c_I_Class false q2.1),.bool q2.2])) .ret fr σ) h7 ?_ ?_
 ·rintro v1 y3 H
  refine au 5 ?_
  refine T.cH H ?_ ?_<;>intro H h
  ·refine au 5 ?_
   obtain ⟨e4,h5,H⟩:=bind_s H
   refine TL.st rfl rfl rfl (o_ix (f:=c_I_Class false) rfl rfl tyS_108 rfl rfl h5 rfl) ?_
   refine au 11 ?_
   refine T.cH H ?_ ?_<;>intro H h
   ·refine au 6 ?_
    refine T.conv (Cs.eqS (σ':=[_,.box (c_I_Class false e4),.box (c_I_Class false e4)]) rfl) ?_
    refine T.ret ?_
    refine inB_ret (thn_ret ?_)
    exact Pk.id (thn_ret ⟨.inr (e4,true),(some_i H).symm,rfl,⟨trivial,_,(.cell _ _ _ _ _ _ _ _ _ _ rfl rfl tyS_108 (nb rfl) rfl (.tmp _ _ _ _ rfl .nil)),(.tupL (.cons _ _ _ _ (.cl _ rfl) (.cons _ _ _ _ (.cl _ rfl) .nil)))⟩⟩)
   ·refine au 5 ?_
    exact Pk.of (thn_normal ⟨(IntKind.i64.wrap (v1 + 1)),(some_i H).symm,rfl,rfl⟩)
  ·refine T.exit ?_
   refine thn_exit ?_
   exact Pk.of (thn_exit ⟨.inl (),(some_i H).symm,rfl,rfl,rfl⟩)
 ·rcases q6 with ⟨⟩ | q2
  ·rintro _ _ _ ⟨rfl,rfl,rfl⟩
   refine inB_here ?_
   refine au 7 ?_
   cases some_i H
   exact ⟨trivial,_,(.cell _ _ _ _ _ _ _ _ _ _ rfl rfl tyS_108 (nb rfl) rfl (.tmp _ _ _ _ rfl .nil)),(.tupL (.cons _ _ _ _ (.aggL (.cons _ _ _ _ (.cl _ rfl) (.cons _ _ _ _ (.cl _ rfl) (.cons _ _ _ _ .nil (.cons _ _ _ _ .nil .nil))))) (.cons _ _ _ _ (.cl _ rfl) .nil)))⟩
  ·rintro _ fr1 σ1 ⟨rfl,hr⟩
   refine inB_ret (thn_ret ?_)
   cases some_i H
   exact hr
theorem en_81 : En Tryz.prog 81:=.of Tryz.func81 rfl rfl
noncomputable def spec_GoodDirSchema_l4 (a0 : I_DirSchema) : (ByteArray × Int) → Option ((ByteArray × Int) ⊕ (Unit ⊕ Bool)):=fun s=>match s with
  | (v23,v24)=>cond (!(v23.toList == e0.toList)) ((spec_l3Class a0 v23).bind fun q=>(match q with | (r27,r28)=>cond ((!r28) || decide (v24 > (a0.Classes_.length : Int))) (some (.inr (.inr false))) (some (.inl (r27.Up_,(IntKind.i64.wrap (v24 + 1))))))) (some (.inr (.inl ())))
noncomputable def spec_GoodDirSchema_l5 (a0 : I_DirSchema) (e33 : (List ByteArray)) : Int → Option (Int ⊕ (Unit ⊕ Bool)):=fun s=>match s with
  | v35=>cond (decide (v35 < (e33.length : Int))) ((idx e33 v35).bind fun e38=>(spec_l3Type a0 e38).bind fun q=>(match q with | (r40,r41)=>cond (!r41) (some (.inr (.inr false))) (some (.inl (IntKind.i64.wrap (v35 + 1)))))) (some (.inr (.inl ())))
noncomputable def spec_GoodDirSchema_l3 (a0 : I_DirSchema) (e9 : I_Class) : Int → Option (Int ⊕ (Unit ⊕ Bool)):=fun s=>match s with
  | v21=>cond (decide (v21 < (([e9.Must_,e9.May_] : List (List ByteArray)).length : Int))) ((idx ([e9.Must_,e9.May_] : List (List ByteArray)) v21).bind fun e33=>(loopO (spec_GoodDirSchema_l5 a0 e33) 0).bind fun q43=>(match q43 with | .inl _=>some (.inl (IntKind.i64.wrap (v21 + 1))) | .inr q36=>some (.inr (.inr q36)))) (some (.inr (.inl ())))
noncomputable def spec_GoodDirSchema_l2 (a0 : I_DirSchema) : Int → Option (Int ⊕ (Unit ⊕ Bool)):=fun s=>match s with
  | v6=>cond (decide (v6 < (a0.Classes_.length : Int))) ((idx a0.Classes_ v6).bind fun e9=>(spec_GoodName e9.Name_).bind fun r11=>(gdO ((!(!r11)) && decide (v6 > 0)) (idx a0.Classes_ (IntKind.i64.wrap (v6 - 1)))).bind fun e13=>(gdO ((!(!r11)) && decide (v6 > 0)) (spec_l1CmpText e13.Name_ e9.Name_)).bind fun r15=>(gdO (!((((!r11) || (decide (v6 > 0) && decide (r15 ≥ 0))) || decide ((e9.Must_.length : Int) > 30)) || decide ((e9.May_.length : Int) > 30))) (spec_l3Rising e9.Must_)).bind fun r17=>(gdO (!(((((!r11) || (decide (v6 > 0) && decide (r15 ≥ 0))) || decide ((e9.Must_.length : Int) > 30)) || decide ((e9.May_.length : Int) > 30)) || (!r17))) (spec_l3Rising e9.May_)).bind fun r19=>cond ((((((!r11) || (decide (v6 > 0) && decide (r15 ≥ 0))) || decide ((e9.Must_.length : Int) > 30)) || decide ((e9.May_.length : Int) > 30)) || (!r17)) || (!r19)) (some (.inr (.inr false))) ((loopO (spec_GoodDirSchema_l3 a0 e9) 0).bind fun q45=>(match q45 with | .inl _=>(loopO (spec_GoodDirSchema_l4 a0) (e9.Up_,0)).bind fun q30=>(match q30 with | .inl _=>some (.inl (IntKind.i64.wrap (v6 + 1))) | .inr q25=>some (.inr (.inr q25))) | .inr q22=>some (.inr (.inr q22))))) (some (.inr (.inl ())))
noncomputable def spec_GoodDirSchema_l1 (a0 : I_DirSchema) : Int → Option (Int ⊕ (Unit ⊕ Bool)):=fun s=>match s with
  | v1=>cond (decide (v1 < (a0.Types_.length : Int))) ((idx a0.Types_ v1).bind fun e50=>(spec_GoodName e50.Name_).bind fun r52=>(gdO ((!(((!r52) || decide (e50.Syntax_ < 1)) || decide (e50.Syntax_ > 4))) && decide (v1 > 0)) (idx a0.Types_ (IntKind.i64.wrap (v1 - 1)))).bind fun e54=>(gdO ((!(((!r52) || decide (e50.Syntax_ < 1)) || decide (e50.Syntax_ > 4))) && decide (v1 > 0)) (spec_l1CmpText e54.Name_ e50.Name_)).bind fun r56=>cond ((((!r52) || decide (e50.Syntax_ < 1)) || decide (e50.Syntax_ > 4)) || (decide (v1 > 0) && decide (r56 ≥ 0))) (some (.inr (.inr false))) (some (.inl (IntKind.i64.wrap (v1 + 1))))) (some (.inr (.inl ())))
noncomputable def spec_GoodDirSchema (a0 : I_DirSchema) : Option Bool :=
  cond (decide ((a0.Types_.length : Int) > 40) || decide ((a0.Classes_.length : Int) > 20)) (some false) ((loopO (spec_GoodDirSchema_l1 a0) 0).bind fun q58=>(match q58 with | .inl _=>(spec_l3Type a0 (ByteArray.mk #[99,108,97,115,115])).bind fun q=>(match q with | (r3,r4)=>cond (((!r4) || (r3.Syntax_ != 2)) || r3.Single_) (some false) ((loopO (spec_GoodDirSchema_l2 a0) 0).bind fun q47=>(match q47 with | .inl _=>some true | .inr q7=>some q7))) | .inr q2=>some q2))
theorem spec_GoodDirSchema_p (b0 : Bool) {a0 : I_DirSchema} {R0 : Bool} (H : spec_GoodDirSchema a0 = some R0) : Pure Tryz.prog 35 [.agg (c_I_DirSchema b0 a0)] (.bool R0) := by
 refine CallT.of_TN (n:=188) Tryz.func35 rfl rfl rfl rfl ?_
 refine au 10 ?_
 refine TL.st rfl rfl rfl (o_lenL (f:=c_I_AttrType false) rfl rfl rfl) ?_
 refine au 4 ?_
 refine TL.gcq rfl rfl rfl (.bool _) rfl rfl (fun h=>o_lenL (f:=c_I_Class false) rfl rfl (gv h rfl)) ?_
 refine au 3 ?_
 refine T.cH H ?_ ?_<;>intro H h
 ·refine au 5 ?_
  refine thn_ret ?_
  cases some_i H
  exact ⟨trivial,_,(.tmp _ _ _ _ rfl .nil),(.cl _ rfl)⟩
 ·refine au 6 ?_
  refine TL.st rfl rfl rfl (o_lenL (f:=c_I_AttrType false) rfl rfl rfl) ?_
  refine au 3 ?_
  obtain ⟨q58,h59,H⟩:=bind_s H
  refine T.lq (fun s=>match s with | v1=>[(1,.bx 0 0),(30,.im b0 (a0.Types_.map (c_I_AttrType false))),(31,.int .i64 (a0.Types_.length : Int)),(32,.int .i64 v1)]) (fun s=>match s with | v1=>[.box (c_I_DirSchema b0 a0)]) (fun q ex fr σ=>match q with | .inl _=>ex = .exit 0 ∧ fr = [(1,.bx 0 0)] ∧ σ = [.box (c_I_DirSchema b0 a0)] | .inr q2=>ex = .ret ∧ RetN Tryz.prog [.tmp 2] (fun v τ=>Told τ v (.bool q2)) .ret fr σ) h59 ?_ ?_
  ·rintro v1 y49 H
   refine au 5 ?_
   refine T.cH H ?_ ?_<;>intro H h
   ·refine au 6 ?_
    obtain ⟨e50,h51,H⟩:=bind_s H
    refine TL.st rfl rfl rfl (o_ix (f:=c_I_AttrType false) rfl rfl tyS_106 rfl rfl h51 rfl) ?_
    refine au 6 ?_
    refine T.drawn rfl ?_
    refine ad 2 ?_
    obtain ⟨r52,h53,H⟩:=bind_s H
    refine TD.qs rfl rfl (fun _=>o_callP rfl en_62 rfl rfl (.cons _ _ _ _ (.cl _ rfl) .nil) (spec_GoodName_p  h53)) ?_
    refine ad 4 ?_
    refine TD.cq rfl rfl rfl (.bool _) rfl (fun h _=>o_ari rfl (gv h rfl) rfl rfl) ?_
    refine ad 4 ?_
    refine TD.cq rfl rfl rfl (.bool _) rfl (fun h _=>o_ari rfl (gv h rfl) rfl rfl) ?_
    refine ad 3 ?_
    refine TD.cq rfl rfl rfl (.bool _) rfl (fun h _=>o_ari rfl (gv h rfl) rfl rfl) ?_
    refine TD.cq rfl rfl rfl (.bool _) rfl (fun h _=>o_move rfl (gv h rfl)) ?_
    refine TD.cr rfl rfl rfl (.gd _ _) rfl (fun h=>o_fieldAddr rfl rfl rfl tyS_23 (by decide) rfl rfl ⟨_,rfl,Nat.le_of_ble_eq_true rfl⟩) ?_
    refine TD.cr rfl rfl rfl (.gd _ _) rfl (fun h=>o_loadBx rfl tyS_23 (gv h rfl) rfl (nb rfl) rfl) ?_
    refine TD.cq rfl rfl rfl (.gd _ _) rfl (fun h _=>o_move rfl rfl) ?_
    refine TD.cq rfl rfl rfl (.gd _ _) rfl (fun h _=>o_ari rfl (gv h rfl) rfl rfl) ?_
    obtain ⟨e54,h55,H⟩:=bind_s H
    refine TD.cq rfl rfl rfl (.gd _ _) rfl (fun h _=>o_ix (f:=c_I_AttrType false) rfl rfl tyS_106 (gv h rfl) (gv h rfl) (gdO_t h55 h) rfl) ?_
    refine TD.cq rfl rfl rfl (.gd _ _) rfl (fun h _=>o_fieldAddr rfl rfl rfl tyS_9 (by decide) (gv h rfl) rfl trivial) ?_
    refine TD.cq rfl rfl rfl (.gd _ _) rfl (fun h _=>o_loadRf rfl tyS_9 (gv h rfl) (nb rfl) rfl) ?_
    refine TD.cr rfl rfl rfl (.gd _ _) rfl (fun h=>o_fieldAddr rfl rfl rfl tyS_9 (by decide) rfl rfl ⟨_,rfl,Nat.le_of_ble_eq_true rfl⟩) ?_
    refine TD.cr rfl rfl rfl (.gd _ _) rfl (fun h=>o_loadBx rfl tyS_9 (gv h rfl) rfl (nb rfl) rfl) ?_
    obtain ⟨r56,h57,H⟩:=bind_s H
    refine TD.cq rfl rfl rfl (.gd _ _) rfl (fun h _=>o_callP rfl en_61 rfl (evl_2 (gv h rfl) (gv h rfl)) (.cons _ _ _ _ (.cl _ rfl) (.cons _ _ _ _ (.cl _ rfl) .nil)) (spec_l1CmpText_p  (gdO_t h57 h))) ?_
    refine TD.cq rfl rfl rfl (.gd _ _) rfl (fun h _=>o_ari rfl (gv h rfl) rfl rfl) ?_
    refine TD.cq rfl rfl rfl (.bool _) rfl (fun h _=>o_and rfl (gv h rfl) rfl (fun k=>Gd_t (andi h k)) rfl) ?_
    refine TD.qs rfl rfl (fun _=>o_or rfl rfl rfl rfl (fun k=>Gd_t k)) ?_
    refine TD.nil ⟨rfl,?_⟩
    refine thn_normal ?_
    refine T.cH H ?_ ?_<;>intro H h
    ·refine au 5 ?_
     refine inB_ret (thn_ret ?_)
     exact Pk.id (thn_ret ⟨.inr false,(some_i H).symm,rfl,⟨trivial,_,(.tmp _ _ _ _ rfl .nil),(.cl _ rfl)⟩⟩)
    ·refine au 5 ?_
     exact Pk.of (thn_normal ⟨(IntKind.i64.wrap (v1 + 1)),(some_i H).symm,rfl,rfl⟩)
   ·refine T.exit ?_
    refine thn_exit ?_
    exact Pk.of (thn_exit ⟨.inl (),(some_i H).symm,rfl,rfl,rfl⟩)
  ·rcases q58 with ⟨⟩ | q2
   ·rintro _ _ _ ⟨rfl, rfl, rfl⟩
    refine inB_here ?_
    refine au 4 ?_
    obtain ⟨⟨r3,r4⟩,h5,H⟩:=bind_s H
    refine TL.st rfl rfl rfl (o_callP rfl en_65 rfl rfl (.cons _ _ _ _ (Lent.aggL (.cons _ _ _ _ (.imv _ _) (.cons _ _ _ _ (.imv _ _) .nil))) (.cons _ _ _ _ (.cl _ rfl) .nil)) (spec_l3Type_p b0 h5)) ?_
    refine au 21 ?_
    refine T.cH H ?_ ?_<;>intro H h
    ·refine au 5 ?_
     refine thn_ret ?_
     cases some_i H
     exact ⟨trivial,_,(.tmp _ _ _ _ rfl .nil),(.cl _ rfl)⟩
    ·refine au 6 ?_
     refine TL.st rfl rfl rfl (o_lenL (f:=c_I_Class false) rfl rfl rfl) ?_
     refine au 3 ?_
     obtain ⟨q47,h48,H⟩:=bind_s H
     refine T.lq (fun s=>match s with | v6=>[(1,.bx 0 0),(86,.im b0 (a0.Classes_.map (c_I_Class false))),(87,.int .i64 (a0.Classes_.length : Int)),(88,.int .i64 v6)]) (fun s=>match s with | v6=>[.box (c_I_DirSchema b0 a0),.box (c_I_AttrType false r3)]) (fun q ex fr σ=>match q with | .inl _=>ex = .exit 2 ∧ fr = [] ∧ σ = [.box (c_I_DirSchema b0 a0),.box (c_I_AttrType false r3)] | .inr q7=>ex = .ret ∧ RetN Tryz.prog [.tmp 2] (fun v τ=>Told τ v (.bool q7)) .ret fr σ) h48 ?_ ?_
     ·rintro v6 y8 H
      refine au 5 ?_
      refine T.cH H ?_ ?_<;>intro H h
      ·refine au 6 ?_
       obtain ⟨e9,h10,H⟩:=bind_s H
       refine TL.st rfl rfl rfl (o_ix (f:=c_I_Class false) rfl rfl tyS_108 rfl rfl h10 rfl) ?_
       refine au 7 ?_
       refine T.drawn rfl ?_
       refine ad 2 ?_
       obtain ⟨r11,h12,H⟩:=bind_s H
       refine TD.qs rfl rfl (fun _=>o_callP rfl en_62 rfl rfl (.cons _ _ _ _ (.cl _ rfl) .nil) (spec_GoodName_p  h12)) ?_
       refine ad 3 ?_
       refine TD.cq rfl rfl rfl (.bool _) rfl (fun h _=>o_ari rfl (gv h rfl) rfl rfl) ?_
       refine TD.cq rfl rfl rfl (.bool _) rfl (fun h _=>o_move rfl (gv h rfl)) ?_
       refine TD.cr rfl rfl rfl (.gd _ _) rfl (fun h=>o_fieldAddr rfl rfl rfl tyS_24 (by decide) rfl rfl ⟨_,rfl,Nat.le_of_ble_eq_true rfl⟩) ?_
       refine TD.cr rfl rfl rfl (.gd _ _) rfl (fun h=>o_loadBx rfl tyS_24 (gv h rfl) rfl (nb rfl) rfl) ?_
       refine TD.cq rfl rfl rfl (.gd _ _) rfl (fun h _=>o_move rfl rfl) ?_
       refine TD.cq rfl rfl rfl (.gd _ _) rfl (fun h _=>o_ari rfl (gv h rfl) rfl rfl) ?_
       obtain ⟨e13,h14,H⟩:=bind_s H
       refine TD.cq rfl rfl rfl (.gd _ _) rfl (fun h _=>o_ix (f:=c_I_Class false) rfl rfl tyS_108 (gv h rfl) (gv h rfl) (gdO_t h14 h) rfl) ?_
       refine TD.cq rfl rfl rfl (.gd _ _) rfl (fun h _=>o_fieldAddr rfl rfl rfl tyS_9 (by decide) (gv h rfl) rfl trivial) ?_
       refine TD.cq rfl rfl rfl (.gd _ _) rfl (fun h _=>o_loadRf rfl tyS_9 (gv h rfl) (nb rfl) rfl) ?_
       refine TD.cr rfl rfl rfl (.gd _ _) rfl (fun h=>o_fieldAddr rfl rfl rfl tyS_9 (by decide) rfl rfl ⟨_,rfl,Nat.le_of_ble_eq_true rfl⟩) ?_
       refine TD.cr rfl rfl rfl (.gd _ _) rfl (fun h=>o_loadBx rfl tyS_9 (gv h rfl) rfl (nb rfl) rfl) ?_
       obtain ⟨r15,h16,H⟩:=bind_s H
       refine TD.cq rfl rfl rfl (.gd _ _) rfl (fun h _=>o_callP rfl en_61 rfl (evl_2 (gv h rfl) (gv h rfl)) (.cons _ _ _ _ (.cl _ rfl) (.cons _ _ _ _ (.cl _ rfl) .nil)) (spec_l1CmpText_p  (gdO_t h16 h))) ?_
       refine TD.cq rfl rfl rfl (.gd _ _) rfl (fun h _=>o_ari rfl (gv h rfl) rfl rfl) ?_
       refine TD.cq rfl rfl rfl (.bool _) rfl (fun h _=>o_and rfl (gv h rfl) rfl (fun k=>Gd_t (andi h k)) rfl) ?_
       refine ad 4 ?_
       refine TD.cq rfl rfl rfl (.bool _) rfl (fun h _=>o_lenL (f:=c_str) rfl rfl (gv h rfl)) ?_
       refine TD.cq rfl rfl rfl (.bool _) rfl (fun h _=>o_ari rfl (gv h rfl) rfl rfl) ?_
       refine ad 4 ?_
       refine TD.cq rfl rfl rfl (.bool _) rfl (fun h _=>o_lenL (f:=c_str) rfl rfl (gv h rfl)) ?_
       refine TD.cq rfl rfl rfl (.bool _) rfl (fun h _=>o_ari rfl (gv h rfl) rfl rfl) ?_
       refine ad 4 ?_
       obtain ⟨r17,h18,H⟩:=bind_s H
       refine TD.cq rfl rfl rfl (.bool _) rfl (fun h _=>o_callP rfl en_80 rfl (evl_1 (gv h rfl)) (.cons _ _ _ _ (.cl _ rfl) .nil) (spec_l3Rising_p false (gdO_t h18 h))) ?_
       refine TD.cq rfl rfl rfl (.bool _) rfl (fun h _=>o_not rfl (gv h rfl)) ?_
       refine ad 4 ?_
       obtain ⟨r19,h20,H⟩:=bind_s H
       refine TD.cq rfl rfl rfl (.bool _) rfl (fun h _=>o_callP rfl en_80 rfl (evl_1 (gv h rfl)) (.cons _ _ _ _ (.cl _ rfl) .nil) (spec_l3Rising_p false (gdO_t h20 h))) ?_
       refine TD.cq rfl rfl rfl (.bool _) rfl (fun h _=>o_not rfl (gv h rfl)) ?_
       refine TD.qs rfl rfl (fun _=>o_or rfl rfl rfl rfl (fun k=>Gd_t k)) ?_
       refine TD.nil ⟨rfl,?_⟩
       refine thn_normal ?_
       refine T.cH H ?_ ?_<;>intro H h
       ·refine au 5 ?_
        refine thn_ret (inB_ret (thn_ret ?_))
        exact Pk.id (thn_ret ⟨.inr false,(some_i H).symm,rfl,⟨trivial,_,(.tmp _ _ _ _ rfl .nil),(.cl _ rfl)⟩⟩)
       ·refine au 8 ?_
        refine TL.st rfl rfl rfl (o_sliceIm (rows:=([e9.Must_,e9.May_] : List (List ByteArray)).map (c_sl (c_str))) rfl rfl tyS_43 ⟨_,rfl,rfl⟩ (by decide) rfl rfl rfl rfl rfl rfl) ?_
        refine TL.st rfl rfl rfl (o_lenL (f:=c_sl (c_str)) rfl rfl rfl) ?_
        refine au 3 ?_
        obtain ⟨q45,h46,H⟩:=bind_s H
        refine T.lq (fun s=>match s with | v21=>[(1,.bx 0 0),(8,.bx 2 0),(86,.im b0 (a0.Classes_.map (c_I_Class false))),(87,.int .i64 (a0.Classes_.length : Int)),(88,.int .i64 v6),(142,.im false (([e9.Must_,e9.May_] : List (List ByteArray)).map (c_sl (c_str)))),(143,.int .i64 (([e9.Must_,e9.May_] : List (List ByteArray)).length : Int)),(144,.int .i64 v21)]) (fun s=>match s with | v21=>[.box (c_I_DirSchema b0 a0),.box (c_I_AttrType false r3),.box (c_I_Class false e9)]) (fun q ex fr σ=>match q with | .inl _=>ex = .exit 4 ∧ fr = [(1,.bx 0 0),(8,.bx 2 0),(86,.im b0 (a0.Classes_.map (c_I_Class false))),(87,.int .i64 (a0.Classes_.length : Int)),(88,.int .i64 v6)] ∧ σ = [.box (c_I_DirSchema b0 a0),.box (c_I_AttrType false r3),.box (c_I_Class false e9)] | .inr q22=>ex = .ret ∧ RetN Tryz.prog [.tmp 2] (fun v τ=>Told τ v (.bool q22)) .ret fr σ) h46 ?_ ?_
        ·rintro v21 y32 H
         refine au 5 ?_
         refine T.cH H ?_ ?_<;>intro H h
         ·refine au 5 ?_
          obtain ⟨e33,h34,H⟩:=bind_s H
          refine TL.st rfl rfl rfl (o_ix (f:=c_sl (c_str)) rfl rfl tyS_43 rfl rfl h34 rfl) ?_
          refine au 6 ?_
          refine TL.st rfl rfl rfl (o_lenL (f:=c_str) rfl rfl rfl) ?_
          refine au 3 ?_
          obtain ⟨q43,h44,H⟩:=bind_s H
          refine T.lq (fun s=>match s with | v35=>[(1,.bx 0 0),(8,.bx 2 0),(86,.im b0 (a0.Classes_.map (c_I_Class false))),(87,.int .i64 (a0.Classes_.length : Int)),(88,.int .i64 v6),(142,.im false (([e9.Must_,e9.May_] : List (List ByteArray)).map (c_sl (c_str)))),(143,.int .i64 (([e9.Must_,e9.May_] : List (List ByteArray)).length : Int)),(144,.int .i64 v21),(148,.im false (e33.map (c_str))),(149,.int .i64 (e33.length : Int)),(150,.int .i64 v35)]) (fun s=>match s with | v35=>[.box (c_I_DirSchema b0 a0),.box (c_I_AttrType false r3),.box (c_I_Class false e9)]) (fun q ex fr σ=>match q with | .inl _=>ex = .exit 6 ∧ fr = [(1,.bx 0 0),(8,.bx 2 0),(86,.im b0 (a0.Classes_.map (c_I_Class false))),(87,.int .i64 (a0.Classes_.length : Int)),(88,.int .i64 v6),(142,.im false (([e9.Must_,e9.May_] : List (List ByteArray)).map (c_sl (c_str)))),(143,.int .i64 (([e9.Must_,e9.May_] : List (List ByteArray)).length : Int)),(144,.int .i64 v21)] ∧ σ = [.box (c_I_DirSchema b0 a0),.box (c_I_AttrType false r3),.box (c_I_Class false e9)] | .inr q36=>ex = .ret ∧ RetN Tryz.prog [.tmp 2] (fun v τ=>Told τ v (.bool q36)) .ret fr σ) h44 ?_ ?_
          ·rintro v35 y37 H
           refine au 5 ?_
           refine T.cH H ?_ ?_<;>intro H h
           ·refine au 5 ?_
            obtain ⟨e38,h39,H⟩:=bind_s H
            refine TL.st rfl rfl rfl (o_ix (f:=c_str) rfl rfl tyS_9 rfl rfl h39 rfl) ?_
            refine au 7 ?_
            obtain ⟨⟨r40,r41⟩,h42,H⟩:=bind_s H
            refine TL.st rfl rfl rfl (o_callP rfl en_65 rfl rfl (.cons _ _ _ _ (Lent.aggL (.cons _ _ _ _ (.imv _ _) (.cons _ _ _ _ (.imv _ _) .nil))) (.cons _ _ _ _ (.cl _ rfl) .nil)) (spec_l3Type_p b0 h42)) ?_
            refine au 12 ?_
            refine T.cH H ?_ ?_<;>intro H h
            ·refine au 5 ?_
             refine inB_ret (thn_ret ?_)
             exact Pk.id (thn_ret ⟨.inr false,(some_i H).symm,rfl,⟨trivial,_,(.tmp _ _ _ _ rfl .nil),(.cl _ rfl)⟩⟩)
            ·refine au 5 ?_
             exact Pk.of (thn_normal ⟨(IntKind.i64.wrap (v35 + 1)),(some_i H).symm,rfl,rfl⟩)
           ·refine T.exit ?_
            refine thn_exit ?_
            exact Pk.of (thn_exit ⟨.inl (),(some_i H).symm,rfl,rfl,rfl⟩)
          ·rcases q43 with ⟨⟩ | q36
           ·rintro _ _ _ ⟨rfl,rfl,rfl⟩
            refine inB_here ?_
            refine au 4 ?_
            exact Pk.of (thn_normal ⟨(IntKind.i64.wrap (v21 + 1)),(some_i H).symm,rfl,rfl⟩)
           ·rintro _ fr1 σ1 ⟨rfl,hr⟩
            refine inB_ret (inB_ret (thn_ret ?_))
            exact Pk.id (thn_ret ⟨.inr q36,(some_i H).symm,rfl,hr⟩)
         ·refine T.exit ?_
          refine thn_exit ?_
          exact Pk.of (thn_exit ⟨.inl (),(some_i H).symm,rfl,rfl,rfl⟩)
        ·rcases q45 with ⟨⟩ | q22
         ·rintro _ _ _ ⟨rfl,rfl,rfl⟩
          refine inB_here ?_
          refine au 11 ?_
          obtain ⟨q30,h31,H⟩:=bind_s H
          refine T.lq (fun s=>match s with | (v23,v24)=>[(1,.bx 0 0),(15,.str v23),(16,.int .i64 v24),(86,.im b0 (a0.Classes_.map (c_I_Class false))),(87,.int .i64 (a0.Classes_.length : Int)),(88,.int .i64 v6)]) (fun s=>match s with | (v23,v24)=>[.box (c_I_DirSchema b0 a0),.box (c_I_AttrType false r3),.box (c_I_Class false e9)]) (fun q ex fr σ=>match q with | .inl _=>ex = .exit 8 ∧ fr = [(1,.bx 0 0),(86,.im b0 (a0.Classes_.map (c_I_Class false))),(87,.int .i64 (a0.Classes_.length : Int)),(88,.int .i64 v6)] ∧ σ = [.box (c_I_DirSchema b0 a0),.box (c_I_AttrType false r3),.box (c_I_Class false e9)] | .inr q25=>ex = .ret ∧ RetN Tryz.prog [.tmp 2] (fun v τ=>Told τ v (.bool q25)) .ret fr σ) h31 ?_ ?_
          ·rintro ⟨v23,v24⟩ y26 H
           refine au 6 ?_
           refine T.cH H ?_ ?_<;>intro H h
           ·refine au 7 ?_
            obtain ⟨⟨r27,r28⟩,h29,H⟩:=bind_s H
            refine TL.st rfl rfl rfl (o_callP rfl en_81 rfl rfl (.cons _ _ _ _ (Lent.aggL (.cons _ _ _ _ (.imv _ _) (.cons _ _ _ _ (.imv _ _) .nil))) (.cons _ _ _ _ (.cl _ rfl) .nil)) (spec_l3Class_p b0 h29)) ?_
            refine au 16 ?_
            refine TL.gcq rfl rfl rfl (.bool _) rfl rfl (fun h=>o_lenL (f:=c_I_Class false) rfl rfl (gv h rfl)) ?_
            refine TL.gcq rfl rfl rfl (.bool _) rfl rfl (fun h=>o_ari rfl (gv h rfl) (gv h rfl) rfl) ?_
            refine au 2 ?_
            refine T.cH H ?_ ?_<;>intro H h
            ·refine au 5 ?_
             refine thn_ret (inB_ret (thn_ret ?_))
             exact Pk.id (thn_ret ⟨.inr false,(some_i H).symm,rfl,⟨trivial,_,(.tmp _ _ _ _ rfl .nil),(.cl _ rfl)⟩⟩)
            ·refine au 11 ?_
             exact Pk.of (thn_normal ⟨(r27.Up_,(IntKind.i64.wrap (v24 + 1))),(some_i H).symm,rfl,rfl⟩)
           ·refine T.exit ?_
            refine thn_exit ?_
            exact Pk.of (thn_exit ⟨.inl (),(some_i H).symm,rfl,rfl,rfl⟩)
          ·rcases q30 with ⟨⟩ | q25
           ·rintro _ _ _ ⟨rfl,rfl,rfl⟩
            refine inB_here ?_
            refine au 4 ?_
            exact Pk.of (thn_normal ⟨(IntKind.i64.wrap (v6 + 1)),(some_i H).symm,rfl,rfl⟩)
           ·rintro _ fr1 σ1 ⟨rfl,hr⟩
            refine inB_ret (inB_ret (thn_ret ?_))
            exact Pk.id (thn_ret ⟨.inr q25,(some_i H).symm,rfl,hr⟩)
         ·rintro _ fr1 σ1 ⟨rfl,hr⟩
          refine inB_ret (thn_ret (inB_ret (thn_ret ?_)))
          exact Pk.id (thn_ret ⟨.inr q22,(some_i H).symm,rfl,hr⟩)
      ·refine T.exit ?_
       refine thn_exit ?_
       exact Pk.of (thn_exit ⟨.inl (),(some_i H).symm,rfl,rfl,rfl⟩)
     ·rcases q47 with ⟨⟩ | q7
      ·rintro _ _ _ ⟨rfl,rfl,rfl⟩
       refine inB_here ?_
       refine au 5 ?_
       cases some_i H
       exact ⟨trivial,_,(.tmp _ _ _ _ rfl .nil),(.cl _ rfl)⟩
      ·rintro _ fr1 σ1 ⟨rfl,hr⟩
       refine inB_ret (thn_ret ?_)
       cases some_i H
       exact hr
   ·rintro _ fr1 σ1 ⟨rfl,hr⟩
    refine inB_ret (thn_ret ?_)
    cases some_i H
    exact hr
theorem en_35 : En Tryz.prog 35:=.of Tryz.func35 rfl rfl
noncomputable def spec_GoodDirName_l1 (a0 : (List I_Part)) : Int → Option (Int ⊕ (Unit ⊕ Bool)):=fun s=>match s with
  | v1=>cond (decide (v1 < (a0.length : Int))) ((idx a0 v1).bind fun e4=>(spec_GoodName e4.Attr_).bind fun r6=>(gdO (!(((!r6) || decide ((e4.Text_.size : Int) < 1)) || decide ((e4.Text_.size : Int) > 60))) (spec_l1Printed e4.Text_)).bind fun r8=>cond ((((!r6) || decide ((e4.Text_.size : Int) < 1)) || decide ((e4.Text_.size : Int) > 60)) || (!r8)) (some (.inr (.inr false))) (some (.inl (IntKind.i64.wrap (v1 + 1))))) (some (.inr (.inl ())))
noncomputable def spec_GoodDirName (a0 : (List I_Part)) : Option Bool :=
  (loopO (spec_GoodDirName_l1 a0) 0).bind fun q10=>(match q10 with | .inl _=>some (decide ((a0.length : Int) ≤ 8)) | .inr q2=>some q2)
theorem spec_GoodDirName_p (b0 : Bool) {a0 : (List I_Part)} {R0 : Bool} (H : spec_GoodDirName a0 = some R0) : Pure Tryz.prog 47 [.im b0 (a0.map (c_I_Part false))] (.bool R0):=by
 refine CallT.of_TN (n:=37) Tryz.func47 rfl rfl rfl rfl ?_
 refine au 8 ?_
 refine TL.st rfl rfl rfl (o_lenL (f:=c_I_Part false) rfl rfl rfl) ?_
 refine au 3 ?_
 obtain ⟨q10,h11,H⟩:=bind_s H
 refine T.lq (fun s=>match s with | v1=>[(0,.im b0 (a0.map (c_I_Part false))),(5,.im b0 (a0.map (c_I_Part false))),(6,.int .i64 (a0.length : Int)),(7,.int .i64 v1)]) (fun s=>match s with | v1=>[]) (fun q ex fr σ=>match q with | .inl _=>ex = .exit 0 ∧ fr = [(0,.im b0 (a0.map (c_I_Part false)))] ∧ σ = [] | .inr q2=>ex = .ret ∧ RetN Tryz.prog [.tmp 2] (fun v τ=>Told τ v (.bool q2)) .ret fr σ) h11 ?_ ?_
 ·rintro v1 y3 H
  refine au 5 ?_
  refine T.cH H ?_ ?_<;>intro H h
  ·refine au 5 ?_
   obtain ⟨e4,h5,H⟩:=bind_s H
   refine TL.st rfl rfl rfl (o_ix (f:=c_I_Part false) rfl rfl tyS_96 rfl rfl h5 rfl) ?_
   refine au 8 ?_
   obtain ⟨r6,h7,H⟩:=bind_s H
   refine TL.st rfl rfl rfl (o_callP rfl en_62 rfl rfl (.cons _ _ _ _ (.cl _ rfl) .nil) (spec_GoodName_p  h7)) ?_
   refine au 4 ?_
   refine TL.gcq rfl rfl rfl (.bool _) rfl rfl (fun h=>o_lenS rfl rfl (gv h rfl)) ?_
   refine au 5 ?_
   refine TL.gcq rfl rfl rfl (.bool _) rfl rfl (fun h=>o_lenS rfl rfl (gv h rfl)) ?_
   refine au 5 ?_
   obtain ⟨r8,h9,H⟩:=bind_s H
   refine TL.gcq rfl rfl rfl (.bool _) rfl rfl (fun h=>o_callP rfl en_82 rfl (evl_1 (gv h rfl)) (.cons _ _ _ _ (.cl _ rfl) .nil) (spec_l1Printed_p  (gdO_t h9 h))) ?_
   refine au 3 ?_
   refine T.cH H ?_ ?_<;>intro H h
   ·refine au 5 ?_
    refine inB_ret (thn_ret ?_)
    exact Pk.id (thn_ret ⟨.inr false,(some_i H).symm,rfl,⟨trivial,_,(.tmp _ _ _ _ rfl .nil),(.cl _ rfl)⟩⟩)
   ·refine au 5 ?_
    exact Pk.of (thn_normal ⟨(IntKind.i64.wrap (v1 + 1)),(some_i H).symm,rfl,rfl⟩)
  ·refine T.exit ?_
   refine thn_exit ?_
   exact Pk.of (thn_exit ⟨.inl (),(some_i H).symm,rfl,rfl,rfl⟩)
 ·rcases q10 with ⟨⟩ | q2
  ·rintro _ _ _ ⟨rfl,rfl,rfl⟩
   refine inB_here ?_
   refine au 3 ?_
   refine TL.st rfl rfl rfl (o_lenL (f:=c_I_Part false) rfl rfl rfl) ?_
   refine au 4 ?_
   cases some_i H
   exact ⟨trivial,_,(.tmp _ _ _ _ rfl .nil),(.cl _ rfl)⟩
  ·rintro _ fr1 σ1 ⟨rfl,hr⟩
   refine inB_ret (thn_ret ?_)
   cases some_i H
   exact hr
theorem en_47 : En Tryz.prog 47:=.of Tryz.func47 rfl rfl
noncomputable def spec_GoodEntry_l2 (e6 : I_Attr) : Int → Option (Int ⊕ (Unit ⊕ Bool)):=fun s=>match s with
  | v16=>cond (decide (v16 < (e6.Values_.length : Int))) ((idx e6.Values_ v16).bind fun e19=>(gdO (!(decide ((e19.size : Int) < 1) || decide ((e19.size : Int) > 200))) (spec_l1Printed e19)).bind fun r21=>cond ((decide ((e19.size : Int) < 1) || decide ((e19.size : Int) > 200)) || (!r21)) (some (.inr (.inr false))) (some (.inl (IntKind.i64.wrap (v16 + 1))))) (some (.inr (.inl ())))
noncomputable def spec_GoodEntry_l1 (a0 : I_Entry) : Int → Option (Int ⊕ (Unit ⊕ Bool)):=fun s=>match s with
  | v3=>cond (decide (v3 < (a0.Attrs_.length : Int))) ((idx a0.Attrs_ v3).bind fun e6=>(spec_GoodName e6.Name_).bind fun r8=>(gdO ((!(!r8)) && decide (v3 > 0)) (idx a0.Attrs_ (IntKind.i64.wrap (v3 - 1)))).bind fun e10=>(gdO ((!(!r8)) && decide (v3 > 0)) (spec_l1CmpText e10.Name_ e6.Name_)).bind fun r12=>(gdO (!((((!r8) || (decide (v3 > 0) && decide (r12 ≥ 0))) || decide ((e6.Values_.length : Int) < 1)) || decide ((e6.Values_.length : Int) > 30))) (spec_l3Rising e6.Values_)).bind fun r14=>cond (((((!r8) || (decide (v3 > 0) && decide (r12 ≥ 0))) || decide ((e6.Values_.length : Int) < 1)) || decide ((e6.Values_.length : Int) > 30)) || (!r14)) (some (.inr (.inr false))) ((loopO (spec_GoodEntry_l2 e6) 0).bind fun q23=>(match q23 with | .inl _=>some (.inl (IntKind.i64.wrap (v3 + 1))) | .inr q17=>some (.inr (.inr q17))))) (some (.inr (.inl ())))
noncomputable def spec_GoodEntry (a0 : I_Entry) : Option Bool :=
  (spec_GoodDirName a0.Name_).bind fun r1=>cond ((((!r1) || ((a0.Name_.length : Int) == 0)) || decide ((a0.Attrs_.length : Int) < 1)) || decide ((a0.Attrs_.length : Int) > 30)) (some false) ((loopO (spec_GoodEntry_l1 a0) 0).bind fun q25=>(match q25 with | .inl _=>some true | .inr q4=>some q4))
theorem spec_GoodEntry_p (b0 : Bool) {a0 : I_Entry} {R0 : Bool} (H : spec_GoodEntry a0 = some R0) : Pure Tryz.prog 36 [.agg (c_I_Entry b0 a0)] (.bool R0) := by
 refine CallT.of_TN (n:=98) Tryz.func36 rfl rfl rfl rfl ?_
 refine au 10 ?_
 obtain ⟨r1,h2,H⟩:=bind_s H
 refine TL.st rfl rfl rfl (o_callP rfl en_47 rfl rfl (.cons _ _ _ _ (.imv _ _) .nil) (spec_GoodDirName_p b0 h2)) ?_
 refine au 4 ?_
 refine TL.gcq rfl rfl rfl (.bool _) rfl rfl (fun h=>o_lenL (f:=c_I_Part false) rfl rfl (gv h rfl)) ?_
 refine au 5 ?_
 refine TL.gcq rfl rfl rfl (.bool _) rfl rfl (fun h=>o_lenL (f:=c_I_Attr false) rfl rfl (gv h rfl)) ?_
 refine au 5 ?_
 refine TL.gcq rfl rfl rfl (.bool _) rfl rfl (fun h=>o_lenL (f:=c_I_Attr false) rfl rfl (gv h rfl)) ?_
 refine au 3 ?_
 refine T.cH H ?_ ?_<;>intro H h
 ·refine au 5 ?_
  refine thn_ret ?_
  cases some_i H
  exact ⟨trivial,_,(.tmp _ _ _ _ rfl .nil),(.cl _ rfl)⟩
 ·refine au 6 ?_
  refine TL.st rfl rfl rfl (o_lenL (f:=c_I_Attr false) rfl rfl rfl) ?_
  refine au 3 ?_
  obtain ⟨q25,h26,H⟩:=bind_s H
  refine T.lq (fun s=>match s with | v3=>[(1,.bx 0 0),(30,.im b0 (a0.Attrs_.map (c_I_Attr false))),(31,.int .i64 (a0.Attrs_.length : Int)),(32,.int .i64 v3)]) (fun s=>match s with | v3=>[.box (c_I_Entry b0 a0)]) (fun q ex fr σ=>match q with | .inl _=>ex = .exit 0 ∧ fr = [] ∧ σ = [.box (c_I_Entry b0 a0)] | .inr q4=>ex = .ret ∧ RetN Tryz.prog [.tmp 2] (fun v τ=>Told τ v (.bool q4)) .ret fr σ) h26 ?_ ?_
  ·rintro v3 y5 H
   refine au 5 ?_
   refine T.cH H ?_ ?_<;>intro H h
   ·refine au 6 ?_
    obtain ⟨e6,h7,H⟩:=bind_s H
    refine TL.st rfl rfl rfl (o_ix (f:=c_I_Attr false) rfl rfl tyS_114 rfl rfl h7 rfl) ?_
    refine au 7 ?_
    refine T.drawn rfl ?_
    refine ad 2 ?_
    obtain ⟨r8,h9,H⟩:=bind_s H
    refine TD.qs rfl rfl (fun _=>o_callP rfl en_62 rfl rfl (.cons _ _ _ _ (.cl _ rfl) .nil) (spec_GoodName_p  h9)) ?_
    refine ad 3 ?_
    refine TD.cq rfl rfl rfl (.bool _) rfl (fun h _=>o_ari rfl (gv h rfl) rfl rfl) ?_
    refine TD.cq rfl rfl rfl (.bool _) rfl (fun h _=>o_move rfl (gv h rfl)) ?_
    refine TD.cr rfl rfl rfl (.gd _ _) rfl (fun h=>o_fieldAddr rfl rfl rfl tyS_28 (by decide) rfl rfl ⟨_,rfl,Nat.le_of_ble_eq_true rfl⟩) ?_
    refine TD.cr rfl rfl rfl (.gd _ _) rfl (fun h=>o_loadBx rfl tyS_28 (gv h rfl) rfl (nb rfl) rfl) ?_
    refine TD.cq rfl rfl rfl (.gd _ _) rfl (fun h _=>o_move rfl rfl) ?_
    refine TD.cq rfl rfl rfl (.gd _ _) rfl (fun h _=>o_ari rfl (gv h rfl) rfl rfl) ?_
    obtain ⟨e10,h11,H⟩:=bind_s H
    refine TD.cq rfl rfl rfl (.gd _ _) rfl (fun h _=>o_ix (f:=c_I_Attr false) rfl rfl tyS_114 (gv h rfl) (gv h rfl) (gdO_t h11 h) rfl) ?_
    refine TD.cq rfl rfl rfl (.gd _ _) rfl (fun h _=>o_fieldAddr rfl rfl rfl tyS_9 (by decide) (gv h rfl) rfl trivial) ?_
    refine TD.cq rfl rfl rfl (.gd _ _) rfl (fun h _=>o_loadRf rfl tyS_9 (gv h rfl) (nb rfl) rfl) ?_
    refine TD.cr rfl rfl rfl (.gd _ _) rfl (fun h=>o_fieldAddr rfl rfl rfl tyS_9 (by decide) rfl rfl ⟨_,rfl,Nat.le_of_ble_eq_true rfl⟩) ?_
    refine TD.cr rfl rfl rfl (.gd _ _) rfl (fun h=>o_loadBx rfl tyS_9 (gv h rfl) rfl (nb rfl) rfl) ?_
    obtain ⟨r12,h13,H⟩:=bind_s H
    refine TD.cq rfl rfl rfl (.gd _ _) rfl (fun h _=>o_callP rfl en_61 rfl (evl_2 (gv h rfl) (gv h rfl)) (.cons _ _ _ _ (.cl _ rfl) (.cons _ _ _ _ (.cl _ rfl) .nil)) (spec_l1CmpText_p  (gdO_t h13 h))) ?_
    refine TD.cq rfl rfl rfl (.gd _ _) rfl (fun h _=>o_ari rfl (gv h rfl) rfl rfl) ?_
    refine TD.cq rfl rfl rfl (.bool _) rfl (fun h _=>o_and rfl (gv h rfl) rfl (fun k=>Gd_t (andi h k)) rfl) ?_
    refine ad 4 ?_
    refine TD.cq rfl rfl rfl (.bool _) rfl (fun h _=>o_lenL (f:=c_str) rfl rfl (gv h rfl)) ?_
    refine TD.cq rfl rfl rfl (.bool _) rfl (fun h _=>o_ari rfl (gv h rfl) rfl rfl) ?_
    refine ad 4 ?_
    refine TD.cq rfl rfl rfl (.bool _) rfl (fun h _=>o_lenL (f:=c_str) rfl rfl (gv h rfl)) ?_
    refine TD.cq rfl rfl rfl (.bool _) rfl (fun h _=>o_ari rfl (gv h rfl) rfl rfl) ?_
    refine ad 4 ?_
    obtain ⟨r14,h15,H⟩:=bind_s H
    refine TD.cq rfl rfl rfl (.bool _) rfl (fun h _=>o_callP rfl en_80 rfl (evl_1 (gv h rfl)) (.cons _ _ _ _ (.cl _ rfl) .nil) (spec_l3Rising_p false (gdO_t h15 h))) ?_
    refine TD.cq rfl rfl rfl (.bool _) rfl (fun h _=>o_not rfl (gv h rfl)) ?_
    refine TD.qs rfl rfl (fun _=>o_or rfl rfl rfl rfl (fun k=>Gd_t k)) ?_
    refine TD.nil ⟨rfl,?_⟩
    refine thn_normal ?_
    refine T.cH H ?_ ?_<;>intro H h
    ·refine au 5 ?_
     refine thn_ret (inB_ret (thn_ret ?_))
     exact Pk.id (thn_ret ⟨.inr false,(some_i H).symm,rfl,⟨trivial,_,(.tmp _ _ _ _ rfl .nil),(.cl _ rfl)⟩⟩)
    ·refine au 5 ?_
     refine TL.st rfl rfl rfl (o_lenL (f:=c_str) rfl rfl rfl) ?_
     refine au 3 ?_
     obtain ⟨q23,h24,H⟩:=bind_s H
     refine T.lq (fun s=>match s with | v16=>[(1,.bx 0 0),(30,.im b0 (a0.Attrs_.map (c_I_Attr false))),(31,.int .i64 (a0.Attrs_.length : Int)),(32,.int .i64 v3),(77,.im false (e6.Values_.map (c_str))),(78,.int .i64 (e6.Values_.length : Int)),(79,.int .i64 v16)]) (fun s=>match s with | v16=>[.box (c_I_Entry b0 a0),.box (c_I_Attr false e6)]) (fun q ex fr σ=>match q with | .inl _=>ex = .exit 2 ∧ fr = [(1,.bx 0 0),(30,.im b0 (a0.Attrs_.map (c_I_Attr false))),(31,.int .i64 (a0.Attrs_.length : Int)),(32,.int .i64 v3)] ∧ σ = [.box (c_I_Entry b0 a0),.box (c_I_Attr false e6)] | .inr q17=>ex = .ret ∧ RetN Tryz.prog [.tmp 2] (fun v τ=>Told τ v (.bool q17)) .ret fr σ) h24 ?_ ?_
     ·rintro v16 y18 H
      refine au 5 ?_
      refine T.cH H ?_ ?_<;>intro H h
      ·refine au 5 ?_
       obtain ⟨e19,h20,H⟩:=bind_s H
       refine TL.st rfl rfl rfl (o_ix (f:=c_str) rfl rfl tyS_9 rfl rfl h20 rfl) ?_
       refine au 10 ?_
       refine TL.gcq rfl rfl rfl (.bool _) rfl rfl (fun h=>o_lenS rfl rfl (gv h rfl)) ?_
       refine au 4 ?_
       obtain ⟨r21,h22,H⟩:=bind_s H
       refine TL.gcq rfl rfl rfl (.bool _) rfl rfl (fun h=>o_callP rfl en_82 rfl (evl_1 (gv h rfl)) (.cons _ _ _ _ (.cl _ rfl) .nil) (spec_l1Printed_p  (gdO_t h22 h))) ?_
       refine au 3 ?_
       refine T.cH H ?_ ?_<;>intro H h
       ·refine au 5 ?_
        refine inB_ret (thn_ret ?_)
        exact Pk.id (thn_ret ⟨.inr false,(some_i H).symm,rfl,⟨trivial,_,(.tmp _ _ _ _ rfl .nil),(.cl _ rfl)⟩⟩)
       ·refine au 5 ?_
        exact Pk.of (thn_normal ⟨(IntKind.i64.wrap (v16 + 1)),(some_i H).symm,rfl,rfl⟩)
      ·refine T.exit ?_
       refine thn_exit ?_
       exact Pk.of (thn_exit ⟨.inl (),(some_i H).symm,rfl,rfl,rfl⟩)
     ·rcases q23 with ⟨⟩ | q17
      ·rintro _ _ _ ⟨rfl,rfl,rfl⟩
       refine inB_here ?_
       refine au 4 ?_
       exact Pk.of (thn_normal ⟨(IntKind.i64.wrap (v3 + 1)),(some_i H).symm,rfl,rfl⟩)
      ·rintro _ fr1 σ1 ⟨rfl,hr⟩
       refine inB_ret (inB_ret (thn_ret ?_))
       exact Pk.id (thn_ret ⟨.inr q17,(some_i H).symm,rfl,hr⟩)
   ·refine T.exit ?_
    refine thn_exit ?_
    exact Pk.of (thn_exit ⟨.inl (),(some_i H).symm,rfl,rfl,rfl⟩)
  ·rcases q25 with ⟨⟩ | q4
   ·rintro _ _ _ ⟨rfl,rfl,rfl⟩
    refine inB_here ?_
    refine au 5 ?_
    cases some_i H
    exact ⟨trivial,_,(.tmp _ _ _ _ rfl .nil),(.cl _ rfl)⟩
   ·rintro _ fr1 σ1 ⟨rfl,hr⟩
    refine inB_ret (thn_ret ?_)
    cases some_i H
    exact hr
theorem en_36 : En Tryz.prog 36:=.of Tryz.func36 rfl rfl
theorem en_37 : En Tryz.prog 37:=.of Tryz.func37 rfl rfl
noncomputable def spec_l3Values_l1 (a0 : I_Entry) (a1 : ByteArray) : Int → Option (Int ⊕ (Unit ⊕ (List ByteArray))):=fun s=>match s with
  | v1=>cond (decide (v1 < (a0.Attrs_.length : Int))) ((idx a0.Attrs_ v1).bind fun e4=>cond (e4.Name_.toList == a1.toList) (some (.inr (.inr e4.Values_))) (some (.inl (IntKind.i64.wrap (v1 + 1))))) (some (.inr (.inl ())))
noncomputable def spec_l3Values (a0 : I_Entry) (a1 : ByteArray) : Option (List ByteArray) :=
  (loopO (spec_l3Values_l1 a0 a1) 0).bind fun q6=>(match q6 with | .inl _=>some ([] : List ByteArray) | .inr q2=>some q2)
theorem spec_l3Values_p (b0 : Bool) {a0 : I_Entry} {a1 : ByteArray} {R0 : (List ByteArray)} (H : spec_l3Values a0 a1 = some R0) : Pure Tryz.prog 50 [.agg (c_I_Entry b0 a0),.str a1] (.im false (R0.map (c_str))):=by
 refine CallT.of_TN (n:=21) Tryz.func50 rfl rfl rfl rfl ?_
 refine au 10 ?_
 refine TL.st rfl rfl rfl (o_lenL (f:=c_I_Attr false) rfl rfl rfl) ?_
 refine au 3 ?_
 obtain ⟨q6,h7,H⟩:=bind_s H
 refine T.lq (fun s=>match s with | v1=>[(1,.str a1),(8,.im b0 (a0.Attrs_.map (c_I_Attr false))),(9,.int .i64 (a0.Attrs_.length : Int)),(10,.int .i64 v1)]) (fun s=>match s with | v1=>[.box (c_I_Entry b0 a0)]) (fun q ex fr σ=>match q with | .inl _=>ex = .exit 0 ∧ fr = [] ∧ σ = [.box (c_I_Entry b0 a0)] | .inr q2=>ex = .ret ∧ RetN Tryz.prog [.tmp 4] (fun v τ=>Told τ v (.im false (q2.map (c_str)))) .ret fr σ) h7 ?_ ?_
 ·rintro v1 y3 H
  refine au 5 ?_
  refine T.cH H ?_ ?_<;>intro H h
  ·refine au 5 ?_
   obtain ⟨e4,h5,H⟩:=bind_s H
   refine TL.st rfl rfl rfl (o_ix (f:=c_I_Attr false) rfl rfl tyS_114 rfl rfl h5 rfl) ?_
   refine au 11 ?_
   refine T.cH H ?_ ?_<;>intro H h
   ·refine au 7 ?_
    refine inB_ret (thn_ret ?_)
    exact Pk.id (thn_ret ⟨.inr e4.Values_,(some_i H).symm,rfl,⟨trivial,_,(.tmp _ _ _ _ rfl .nil),(.cl _ rfl)⟩⟩)
   ·refine au 5 ?_
    exact Pk.of (thn_normal ⟨(IntKind.i64.wrap (v1 + 1)),(some_i H).symm,rfl,rfl⟩)
  ·refine T.exit ?_
   refine thn_exit ?_
   exact Pk.of (thn_exit ⟨.inl (),(some_i H).symm,rfl,rfl,rfl⟩)
 ·rcases q6 with ⟨⟩ | q2
  ·rintro _ _ _ ⟨rfl,rfl,rfl⟩
   refine inB_here ?_
   refine au 5 ?_
   cases some_i H
   exact ⟨trivial,_,(.tmp _ _ _ _ rfl .nil),.nil⟩
  ·rintro _ fr1 σ1 ⟨rfl,hr⟩
   refine inB_ret (thn_ret ?_)
   cases some_i H
   exact hr
theorem en_50 : En Tryz.prog 50:=.of Tryz.func50 rfl rfl
noncomputable def spec_l3Said (a0 : Bool) : Option Int :=
  cond a0 (some 1) (some 0)
theorem spec_l3Said_p  {a0 : Bool} {R0 : Int} (H : spec_l3Said a0 = some R0) : Pure Tryz.prog 83 [.bool a0] (.int .i64 R0):=by
 refine CallT.of_TN (n:=4) Tryz.func83 rfl rfl rfl rfl ?_
 refine au 9 ?_
 refine T.cH H ?_ ?_<;>intro H h
 ·refine au 5 ?_
  refine thn_ret ?_
  cases some_i H
  exact ⟨trivial,_,(.tmp _ _ _ _ rfl .nil),(.cl _ rfl)⟩
 ·refine au 6 ?_
  cases some_i H
  exact ⟨trivial,_,(.tmp _ _ _ _ rfl .nil),(.cl _ rfl)⟩
theorem en_83 : En Tryz.prog 83:=.of Tryz.func83 rfl rfl
theorem en_85 : En Tryz.prog 85:=.of Tryz.func85 rfl rfl
noncomputable def spec_Like_l3 (a0 : ByteArray) (r1 : (List Int)) (l11 : List Bool) (v12 : Int) : (List Bool × Int) → Option ((List Bool × Int) ⊕ List Bool):=fun s=>match s with
  | (l19,v20)=>cond (decide (v20 < (r1.length : Int))) ((idx r1 v20).bind fun e23=>cond (e23 == 256) ((idx l11 (IntKind.i64.wrap (v20 + 1))).bind fun e25=>(gdO (!e25) (idx l19 v20)).bind fun e27=>(idx l19 (IntKind.i64.wrap (v20 + 1))).bind fun e29=>some (.inl ((l19.set (Int.toNat (IntKind.i64.wrap (v20 + 1))) (e25 || e27)),(IntKind.i64.wrap (v20 + 1))))) ((idx l11 v20).bind fun e31=>(gdO e31 (idxS a0 v12)).bind fun b33=>(idx l19 (IntKind.i64.wrap (v20 + 1))).bind fun e35=>some (.inl ((l19.set (Int.toNat (IntKind.i64.wrap (v20 + 1))) (e31 && (e23 == (IntKind.i64.wrap b33)))),(IntKind.i64.wrap (v20 + 1)))))) (some (.inr l19))
noncomputable def spec_Like_l2 (a0 : ByteArray) (r1 : (List Int)) : (List Bool × Int) → Option ((List Bool × Int) ⊕ List Bool):=fun s=>match s with
  | (l11,v12)=>cond (decide (v12 < (a0.size : Int))) ((mk false (IntKind.i64.wrap ((r1.length : Int) + 1))).bind fun l17=>(loopO (spec_Like_l3 a0 r1 l11 v12) (l17,0)).bind fun l21=>(match l21 with | l21=>some (.inl (l21,(IntKind.i64.wrap (v12 + 1)))))) (some (.inr l11))
noncomputable def spec_Like_l1 (r1 : (List Int)) : (List Bool × Int) → Option ((List Bool × Int) ⊕ List Bool):=fun s=>match s with
  | (l8,v9)=>cond (decide (v9 < (r1.length : Int))) ((idx r1 v9).bind fun e42=>(idx l8 v9).bind fun e44=>(idx l8 (IntKind.i64.wrap (v9 + 1))).bind fun e46=>some (.inl ((l8.set (Int.toNat (IntKind.i64.wrap (v9 + 1))) (e44 && (e42 == 256))),(IntKind.i64.wrap (v9 + 1))))) (some (.inr l8))
noncomputable def spec_Like (a0 : ByteArray) (a1 : ByteArray) : Option Bool :=
  cond (decide ((a0.size : Int) > 200) || decide ((a1.size : Int) > 200)) (some false) ((spec_l1Tokens a1).bind fun q=>(match q with | (r1,r2)=>cond (!r2) (some false) ((mk false (IntKind.i64.wrap ((r1.length : Int) + 1))).bind fun l4=>(idx l4 0).bind fun e6=>(loopO (spec_Like_l1 r1) ((l4.set (Int.toNat 0) true),0)).bind fun l10=>(match l10 with | l10=>(loopO (spec_Like_l2 a0 r1) (l10,0)).bind fun l13=>(match l13 with | l13=>(idx l13 (r1.length : Int)).bind fun e14=>some e14)))))
theorem spec_Like_p  {a0 : ByteArray} {a1 : ByteArray} {R0 : Bool} (H : spec_Like a0 a1 = some R0) : Pure Tryz.prog 84 [.str a0, .str a1] (.bool R0) := by
 refine CallT.of_TN (n:=112) Tryz.func84 rfl rfl rfl rfl ?_
 refine au 12 ?_
 refine TL.gcq rfl rfl rfl (.bool _) rfl rfl (fun h=>o_lenS rfl rfl (gv h rfl)) ?_
 refine au 3 ?_
 refine T.cH H ?_ ?_<;>intro H h
 ·refine au 5 ?_
  refine thn_ret ?_
  cases some_i H
  exact ⟨trivial,_,(.tmp _ _ _ _ rfl .nil),(.cl _ rfl)⟩
 ·refine au 4 ?_
  obtain ⟨⟨r1,r2⟩,h3,H⟩:=bind_s H
  refine TL.st rfl rfl rfl (o_callP rfl en_128 rfl rfl (.cons _ _ _ _ (.cl _ rfl) .nil) (spec_l1Tokens_p  h3)) ?_
  refine au 12 ?_
  refine T.cH H ?_ ?_<;>intro H h
  ·refine au 5 ?_
   refine thn_ret ?_
   cases some_i H
   exact ⟨trivial,_,(.tmp _ _ _ _ rfl .nil),(.cl _ rfl)⟩
  ·refine au 4 ?_
   refine TL.st rfl rfl rfl (o_lenL (f:=c_int .i64) rfl rfl rfl) ?_
   refine TL.st rfl rfl rfl (o_ari rfl rfl rfl rfl) ?_
   obtain ⟨l4,h5,H⟩:=bind_s H
   refine TL.st rfl rfl rfl (o_mk (f:=c_bool) (z:=false) rfl rfl tyE_4 ⟨_,rfl,rfl⟩ rfl rfl h5) ?_
   refine au 5 ?_
   obtain ⟨e6,h7,H⟩:=bind_s H
   refine TL.st rfl rfl rfl (o_ixh (f:=c_bool) rfl rfl tyS_4 rfl rfl rfl rfl h7 rfl) ?_
   refine TL.sn rfl rfl (o_stEl (f:=c_bool) (xs:=l4) (k:=0) (a:=e6) true rfl tyS_4 rfl rfl rfl rfl (by decide) h7 rfl rfl rfl (fun _=>rfl) rfl) ?_
   refine TL.conv (Cs.eqV (t:=7) (v':=.hd 0 ((l4.set (Int.toNat 0) true).map (c_bool)).length 0 ((l4.set (Int.toNat 0) true).map (c_bool)).length) rfl (hd_len _ (List.length_set ..))) ?_
   refine TL.conv (Cs.eqV (t:=32) (v':=.hd 0 ((l4.set (Int.toNat 0) true).map (c_bool)).length 0 ((l4.set (Int.toNat 0) true).map (c_bool)).length) rfl (hd_len _ (List.length_set ..))) ?_
   refine TL.conv (Cs.eqV (t:=33) (v':=.hd 0 ((l4.set (Int.toNat 0) true).map (c_bool)).length 0 ((l4.set (Int.toNat 0) true).map (c_bool)).length) rfl (hd_len _ (List.length_set ..))) ?_
   refine TL.conv (Cs.eqV (t:=34) (v':=.el 0 ((l4.set (Int.toNat 0) true).map (c_bool)).length (Int.toNat 0) 0) rfl (el_len _ _ _ (List.length_set ..))) ?_
   refine au 5 ?_
   refine TL.st rfl rfl rfl (o_lenL (f:=c_int .i64) rfl rfl rfl) ?_
   refine au 3 ?_
   obtain ⟨l10,h49,H⟩:=bind_s H
   refine T.lq (fun s=>match s with | (l8,v9)=>[(0,.str a0),(5,.im false (r1.map (c_int .i64))),(7,.hd 0 (l8.map (c_bool)).length 0 (l8.map (c_bool)).length),(35,.im false (r1.map (c_int .i64))),(36,.int .i64 (r1.length : Int)),(37,.int .i64 v9)]) (fun s=>match s with | (l8,v9)=>[.arr .clo 1 (l8.map (c_bool))]) (fun q ex fr σ=>match q with | l10=>ex = .exit 0 ∧ fr = [(0,.str a0),(5,.im false (r1.map (c_int .i64))),(7,.hd 0 (l10.map (c_bool)).length 0 (l10.map (c_bool)).length)] ∧ σ = [.arr .clo 1 (l10.map (c_bool))]) h49 ?_ ?_
   ·rintro ⟨l8,v9⟩ y41 H
    refine au 5 ?_
    refine T.cH H ?_ ?_<;>intro H h
    ·refine au 6 ?_
     obtain ⟨e42,h43,H⟩:=bind_s H
     refine TL.st rfl rfl rfl (o_ix (f:=c_int .i64) rfl rfl tyS_3 rfl rfl h43 rfl) ?_
     refine au 10 ?_
     obtain ⟨e44,h45,H⟩:=bind_s H
     refine TL.st rfl rfl rfl (o_ixh (f:=c_bool) rfl rfl tyS_4 rfl rfl rfl rfl h45 rfl) ?_
     refine TL.st rfl rfl rfl (o_loadEl rfl tyS_4 rfl rfl rfl (by rw [List.getElem?_map,(idx_s h45).2]; rfl) (nb rfl) rfl) ?_
     refine au 4 ?_
     obtain ⟨e46,h47,H⟩:=bind_s H
     refine TL.st rfl rfl rfl (o_ixh (f:=c_bool) rfl rfl tyS_4 rfl rfl rfl rfl h47 rfl) ?_
     refine TL.sn rfl rfl (o_stEl (f:=c_bool) (xs:=l8) (k:=(IntKind.i64.wrap (v9 + 1))) (a:=e46) (e44 && (e42 == 256)) rfl tyS_4 rfl rfl rfl rfl (by decide) h47 rfl rfl rfl (fun _=>rfl) rfl) ?_
     refine TL.conv (Cs.eqV (t:=7) (v':=.hd 0 ((l8.set (Int.toNat (IntKind.i64.wrap (v9 + 1))) (e44 && (e42 == 256))).map (c_bool)).length 0 ((l8.set (Int.toNat (IntKind.i64.wrap (v9 + 1))) (e44 && (e42 == 256))).map (c_bool)).length) rfl (hd_len _ (List.length_set ..))) ?_
     refine TL.conv (Cs.eqV (t:=42) (v':=.hd 0 ((l8.set (Int.toNat (IntKind.i64.wrap (v9 + 1))) (e44 && (e42 == 256))).map (c_bool)).length 0 ((l8.set (Int.toNat (IntKind.i64.wrap (v9 + 1))) (e44 && (e42 == 256))).map (c_bool)).length) rfl (hd_len _ (List.length_set ..))) ?_
     refine TL.conv (Cs.eqV (t:=45) (v':=.hd 0 ((l8.set (Int.toNat (IntKind.i64.wrap (v9 + 1))) (e44 && (e42 == 256))).map (c_bool)).length 0 ((l8.set (Int.toNat (IntKind.i64.wrap (v9 + 1))) (e44 && (e42 == 256))).map (c_bool)).length) rfl (hd_len _ (List.length_set ..))) ?_
     refine TL.conv (Cs.eqV (t:=53) (v':=.el 0 ((l8.set (Int.toNat (IntKind.i64.wrap (v9 + 1))) (e44 && (e42 == 256))).map (c_bool)).length (Int.toNat (IntKind.i64.wrap (v9 + 1))) 0) rfl (el_len _ _ _ (List.length_set ..))) ?_
     refine au 5 ?_
     exact Pk.of (thn_normal ⟨((l8.set (Int.toNat (IntKind.i64.wrap (v9 + 1))) (e44 && (e42 == 256))),(IntKind.i64.wrap (v9 + 1))),(some_i H).symm,rfl,rfl⟩)
    ·refine T.exit ?_
     refine thn_exit ?_
     exact Pk.of (thn_exit ⟨l8,(some_i H).symm,rfl,rfl,rfl⟩)
   ·rintro _ _ _ ⟨rfl,rfl,rfl⟩
    refine inB_here ?_
    refine au 6 ?_
    obtain ⟨l13,h40,H⟩:=bind_s H
    refine T.lq (fun s=>match s with | (l11,v12)=>[(0,.str a0),(5,.im false (r1.map (c_int .i64))),(7,.hd 0 (l11.map (c_bool)).length 0 (l11.map (c_bool)).length),(10,.int .i64 v12)]) (fun s=>match s with | (l11,v12)=>[.arr .clo 1 (l11.map (c_bool))]) (fun q ex fr σ=>match q with | l13=>ex = .exit 2 ∧ fr = [(5,.im false (r1.map (c_int .i64))),(7,.hd 0 (l13.map (c_bool)).length 0 (l13.map (c_bool)).length)] ∧ σ = [.arr .clo 1 (l13.map (c_bool))]) h40 ?_ ?_
    ·rintro ⟨l11,v12⟩ y16 H
     refine au 8 ?_
     refine T.cH H ?_ ?_<;>intro H h
     ·refine au 6 ?_
      refine TL.st rfl rfl rfl (o_lenL (f:=c_int .i64) rfl rfl rfl) ?_
      refine TL.st rfl rfl rfl (o_ari rfl rfl rfl rfl) ?_
      obtain ⟨l17,h18,H⟩:=bind_s H
      refine TL.st rfl rfl rfl (o_mk (f:=c_bool) (z:=false) rfl rfl tyE_4 ⟨_,rfl,rfl⟩ rfl rfl h18) ?_
      refine au 6 ?_
      refine TL.st rfl rfl rfl (o_lenL (f:=c_int .i64) rfl rfl rfl) ?_
      refine au 3 ?_
      obtain ⟨l21,h38,H⟩:=bind_s H
      refine T.lq (fun s=>match s with | (l19,v20)=>[(0,.str a0),(5,.im false (r1.map (c_int .i64))),(7,.hd 0 (l11.map (c_bool)).length 0 (l11.map (c_bool)).length),(10,.int .i64 v12),(11,.hd 1 (l19.map (c_bool)).length 0 (l19.map (c_bool)).length),(65,.im false (r1.map (c_int .i64))),(66,.int .i64 (r1.length : Int)),(67,.int .i64 v20)]) (fun s=>match s with | (l19,v20)=>[.arr .clo 1 (l11.map (c_bool)),.arr .clo 1 (l19.map (c_bool))]) (fun q ex fr σ=>match q with | l21=>ex = .exit 4 ∧ fr = [(0,.str a0),(5,.im false (r1.map (c_int .i64))),(10,.int .i64 v12),(11,.hd 1 (l21.map (c_bool)).length 0 (l21.map (c_bool)).length)] ∧ σ = [.arr .clo 1 (l11.map (c_bool)),.arr .clo 1 (l21.map (c_bool))]) h38 ?_ ?_
      ·rintro ⟨l19,v20⟩ y22 H
       refine au 5 ?_
       refine T.cH H ?_ ?_<;>intro H h
       ·refine au 6 ?_
        obtain ⟨e23,h24,H⟩:=bind_s H
        refine TL.st rfl rfl rfl (o_ix (f:=c_int .i64) rfl rfl tyS_3 rfl rfl h24 rfl) ?_
        refine au 9 ?_
        refine T.cH H ?_ ?_<;>intro H h
        ·refine au 7 ?_
         obtain ⟨e25,h26,H⟩:=bind_s H
         refine TL.st rfl rfl rfl (o_ixh (f:=c_bool) rfl rfl tyS_4 rfl rfl rfl rfl h26 rfl) ?_
         refine TL.st rfl rfl rfl (o_loadEl rfl tyS_4 rfl rfl rfl (by rw [List.getElem?_map,(idx_s h26).2]; rfl) (nb rfl) rfl) ?_
         refine au 3 ?_
         obtain ⟨e27,h28,H⟩:=bind_s H
         refine TL.gcq rfl rfl rfl (.bool _) rfl rfl (fun h=>o_ixh (f:=c_bool) rfl rfl tyS_4 (gv h rfl) (gv h rfl) rfl rfl (gdO_t h28 h) rfl) ?_
         refine TL.gcq rfl rfl rfl (.bool _) rfl rfl (fun h=>o_loadEl rfl tyS_4 (gv h rfl) rfl rfl (by rw [List.getElem?_map,(idx_s (gdO_t h28 h)).2]; rfl) (nb rfl) rfl) ?_
         refine TL.st rfl rfl rfl (o_or rfl rfl rfl rfl (fun k=>Gd_t k)) ?_
         obtain ⟨e29,h30,H⟩:=bind_s H
         refine TL.st rfl rfl rfl (o_ixh (f:=c_bool) rfl rfl tyS_4 rfl rfl rfl rfl h30 rfl) ?_
         refine TL.sn rfl rfl (o_stEl (f:=c_bool) (xs:=l19) (k:=(IntKind.i64.wrap (v20 + 1))) (a:=e29) (e25 || e27) rfl tyS_4 rfl rfl rfl rfl (by decide) h30 rfl rfl rfl (fun _=>rfl) rfl) ?_
         refine TL.conv (Cs.eqV (t:=11) (v':=.hd 1 ((l19.set (Int.toNat (IntKind.i64.wrap (v20 + 1))) (e25 || e27)).map (c_bool)).length 0 ((l19.set (Int.toNat (IntKind.i64.wrap (v20 + 1))) (e25 || e27)).map (c_bool)).length) rfl (hd_len _ (List.length_set ..))) ?_
         refine TL.conv (Cs.eqV (t:=74) (v':=.hd 1 ((l19.set (Int.toNat (IntKind.i64.wrap (v20 + 1))) (e25 || e27)).map (c_bool)).length 0 ((l19.set (Int.toNat (IntKind.i64.wrap (v20 + 1))) (e25 || e27)).map (c_bool)).length) rfl (hd_len _ (List.length_set ..))) ?_
         refine TL.conv (Cs.eqV (t:=88) (v':=.el 1 ((l19.set (Int.toNat (IntKind.i64.wrap (v20 + 1))) (e25 || e27)).map (c_bool)).length (Int.toNat (IntKind.i64.wrap (v20 + 1))) 0) rfl (el_len _ _ _ (List.length_set ..))) ?_
         refine au 5 ?_
         exact Pk.of (thn_normal ⟨((l19.set (Int.toNat (IntKind.i64.wrap (v20 + 1))) (e25 || e27)),(IntKind.i64.wrap (v20 + 1))),(some_i H).symm,rfl,rfl⟩)
        ·refine au 6 ?_
         obtain ⟨e31,h32,H⟩:=bind_s H
         refine TL.st rfl rfl rfl (o_ixh (f:=c_bool) rfl rfl tyS_4 rfl rfl rfl rfl h32 rfl) ?_
         refine TL.st rfl rfl rfl (o_loadEl rfl tyS_4 rfl rfl rfl (by rw [List.getElem?_map,(idx_s h32).2]; rfl) (nb rfl) rfl) ?_
         refine au 4 ?_
         obtain ⟨b33,h34,H⟩:=bind_s H
         refine TL.gcq rfl rfl rfl (.bool _) rfl rfl (fun h=>o_ixs rfl rfl (gv h rfl) (gv h rfl) (gdO_t h34 h)) ?_
         refine TL.gcq rfl rfl rfl (.bool _) rfl rfl (fun h=>o_conv rfl (gv h rfl) ⟨_,rfl⟩ rfl) ?_
         refine TL.gcq rfl rfl rfl (.bool _) rfl rfl (fun h=>o_ari rfl (gv h rfl) (gv h rfl) rfl) ?_
         refine TL.st rfl rfl rfl (o_and rfl rfl rfl (fun k=>Gd_t k) rfl) ?_
         obtain ⟨e35,h36,H⟩:=bind_s H
         refine TL.st rfl rfl rfl (o_ixh (f:=c_bool) rfl rfl tyS_4 rfl rfl rfl rfl h36 rfl) ?_
         refine TL.sn rfl rfl (o_stEl (f:=c_bool) (xs:=l19) (k:=(IntKind.i64.wrap (v20 + 1))) (a:=e35) (e31 && (e23 == (IntKind.i64.wrap b33))) rfl tyS_4 rfl rfl rfl rfl (by decide) h36 rfl rfl rfl (fun _=>rfl) rfl) ?_
         refine TL.conv (Cs.eqV (t:=11) (v':=.hd 1 ((l19.set (Int.toNat (IntKind.i64.wrap (v20 + 1))) (e31 && (e23 == (IntKind.i64.wrap b33)))).map (c_bool)).length 0 ((l19.set (Int.toNat (IntKind.i64.wrap (v20 + 1))) (e31 && (e23 == (IntKind.i64.wrap b33)))).map (c_bool)).length) rfl (hd_len _ (List.length_set ..))) ?_
         refine TL.conv (Cs.eqV (t:=89) (v':=.hd 1 ((l19.set (Int.toNat (IntKind.i64.wrap (v20 + 1))) (e31 && (e23 == (IntKind.i64.wrap b33)))).map (c_bool)).length 0 ((l19.set (Int.toNat (IntKind.i64.wrap (v20 + 1))) (e31 && (e23 == (IntKind.i64.wrap b33)))).map (c_bool)).length) rfl (hd_len _ (List.length_set ..))) ?_
         refine TL.conv (Cs.eqV (t:=104) (v':=.el 1 ((l19.set (Int.toNat (IntKind.i64.wrap (v20 + 1))) (e31 && (e23 == (IntKind.i64.wrap b33)))).map (c_bool)).length (Int.toNat (IntKind.i64.wrap (v20 + 1))) 0) rfl (el_len _ _ _ (List.length_set ..))) ?_
         refine au 5 ?_
         exact Pk.of (thn_normal ⟨((l19.set (Int.toNat (IntKind.i64.wrap (v20 + 1))) (e31 && (e23 == (IntKind.i64.wrap b33)))),(IntKind.i64.wrap (v20 + 1))),(some_i H).symm,rfl,rfl⟩)
       ·refine T.exit ?_
        refine thn_exit ?_
        exact Pk.of (thn_exit ⟨l19,(some_i H).symm,rfl,rfl,rfl⟩)
      ·rintro _ _ _ ⟨rfl,rfl,rfl⟩
       refine inB_here ?_
       refine au 3 ?_
       refine TL.conv (Cs.wkF (M:=2) (.k 0 rfl rfl (.k 5 rfl rfl (.k 7 rfl rfl (.k 10 rfl rfl (.k 11 rfl rfl (.k 106 rfl rfl .nil))))))) ?_
       refine TL.conv (Cs.reloc 0 1 rfl rfl (by decide) rfl rfl rfl (nomS_get rfl)) ?_
       refine TL.conv (Cs.wkF (M:=2) (.k 0 rfl rfl (.k 5 rfl rfl (.k 7 rfl rfl (.k 10 rfl rfl (.k 11 rfl rfl (.k 106 rfl rfl .nil))))))) ?_
       refine TL.conv (Cs.eqS (σ':=[.arr .clo 1 (l21.map (c_bool)),.dead]) rfl) ?_
       refine au 6 ?_
       exact Pk.of (thn_normal ⟨(l21,(IntKind.i64.wrap (v12 + 1))),(some_i H).symm,rfl,rfl⟩)
     ·refine T.exit ?_
      refine thn_exit ?_
      exact Pk.of (thn_exit ⟨l11,(some_i H).symm,rfl,rfl,rfl⟩)
    ·rintro _ _ _ ⟨rfl,rfl,rfl⟩
     refine inB_here ?_
     refine au 4 ?_
     refine TL.st rfl rfl rfl (o_lenL (f:=c_int .i64) rfl rfl rfl) ?_
     obtain ⟨e14,h15,H⟩:=bind_s H
     refine TL.st rfl rfl rfl (o_ixh (f:=c_bool) rfl rfl tyS_4 rfl rfl rfl rfl h15 rfl) ?_
     refine TL.st rfl rfl rfl (o_loadEl rfl tyS_4 rfl rfl rfl (by rw [List.getElem?_map,(idx_s h15).2]; rfl) (nb rfl) rfl) ?_
     refine au 3 ?_
     cases some_i H
     exact ⟨trivial,_,(.tmp _ _ _ _ rfl .nil),(.cl _ rfl)⟩
theorem en_84 : En Tryz.prog 84:=.of Tryz.func84 rfl rfl
noncomputable def spec_l1Size_j1 (v1 : Int) (v2 : ByteArray) (v5 : Int) : Option ((Int × ByteArray) ⊕ ByteArray) :=
  (cat (byS ([(IntKind.u8.wrap (IntKind.i64.wrap (48 + v5)))] : List Int)) v2).bind fun s6=>some (.inl ((IntKind.i64.wrap (Int.tdiv v1 10)),s6))
noncomputable def spec_l1Size_l1  : (Int × ByteArray) → Option ((Int × ByteArray) ⊕ ByteArray):=fun s=>match s with
  | (v1,v2)=>cond (v1 != 0) (cond (decide ((Int.tmod v1 10) < 0)) (spec_l1Size_j1 v1 v2 (IntKind.i64.wrap (-(Int.tmod v1 10)))) (spec_l1Size_j1 v1 v2 (Int.tmod v1 10))) (some (.inr v2))
noncomputable def spec_l1Size (a0 : Int) : Option ByteArray :=
  cond (a0 == 0) (some (ByteArray.mk #[48])) ((loopO (spec_l1Size_l1) (a0,e0)).bind fun v3=>(match v3 with | v3=>some v3))
theorem spec_l1Size_p  {a0 : Int} {R0 : ByteArray} (H : spec_l1Size a0 = some R0) : Pure Tryz.prog 170 [.int .i64 a0] (.str R0):=by
 refine CallT.of_TN (n:=25) Tryz.func170 rfl rfl rfl rfl ?_
 refine au 10 ?_
 refine T.cH H ?_ ?_<;>intro H h
 ·refine au 5 ?_
  refine thn_ret ?_
  cases some_i H
  exact ⟨trivial,_,(.tmp _ _ _ _ rfl .nil),(.cl _ rfl)⟩
 ·refine au 7 ?_
  obtain ⟨v3,h9,H⟩:=bind_s H
  refine T.lq (fun s=>match s with | (v1,v2)=>[(0,.int .i64 v1),(3,.str v2)]) (fun s=>match s with | (v1,v2)=>[]) (fun q ex fr σ=>match q with | v3=>ex = .exit 0 ∧ fr = [(3,.str v3)] ∧ σ = []) h9 ?_ ?_
  ·rintro ⟨v1,v2⟩ y4 H
   refine au 6 ?_
   refine T.cH H ?_ ?_<;>intro H h
   ·refine au 5 ?_
    refine TL.st rfl rfl rfl (o_rem rfl rfl rfl (by decide)) ?_
    refine au 2 ?_
    refine T.cut (fun fr' σ'=>∃ (v5 : Int),fr' = [(0,.int .i64 v1),(3,.str v2),(4,.int .i64 v5)] ∧ σ' = [] ∧ spec_l1Size_j1 v1 v2 v5 = some y4) (T.pk ?_) ?_
    ·skip
     refine au 5 ?_
     refine T.cH H ?_ ?_<;>intro H h
     ·refine au 2 ?_
      refine TL.st rfl rfl rfl (o_neg rfl rfl) ?_
      refine au 2 ?_
      exact Pk.of (thn_normal ⟨(IntKind.i64.wrap (-(Int.tmod v1 10))),rfl,rfl,H⟩)
     ·refine T.skip ?_
      exact Pk.of (thn_normal ⟨(Int.tmod v1 10),rfl,rfl,H⟩)
    ·rintro _ _ ⟨v5,rfl,rfl,H⟩
     refine au 4 ?_
     refine TL.st rfl rfl rfl (o_conv rfl rfl ⟨_,rfl⟩ rfl) ?_
     refine TL.st rfl rfl rfl (o_sliceIm (rows:=([(IntKind.u8.wrap (IntKind.i64.wrap (48 + v5)))] : List Int).map (c_int .u8)) rfl rfl tyS_5 ⟨_,rfl,rfl⟩ (by decide) rfl rfl rfl rfl rfl rfl) ?_
     refine TL.st rfl rfl rfl (o_bs (f:=c_int .u8) (ns:=([(IntKind.u8.wrap (IntKind.i64.wrap (48 + v5)))] : List Int)) rfl rfl rfl rfl (fun _=>rfl) rfl) ?_
     refine TL.st rfl rfl rfl (o_move rfl rfl) ?_
     obtain ⟨s6,h7,H⟩:=bind_s H
     refine TL.st rfl rfl rfl (o_ct rfl rfl rfl h7) ?_
     refine au 4 ?_
     refine TL.st rfl rfl rfl (o_quo rfl rfl rfl (by decide)) ?_
     refine au 2 ?_
     refine inB_normal ?_
     exact Pk.of (thn_normal ⟨((IntKind.i64.wrap (Int.tdiv v1 10)),s6),(some_i H).symm,rfl,rfl⟩)
   ·refine T.exit ?_
    refine thn_exit ?_
    exact Pk.of (thn_exit ⟨v2,(some_i H).symm,rfl,rfl,rfl⟩)
  ·rintro _ _ _ ⟨rfl,rfl,rfl⟩
   refine inB_here ?_
   refine au 6 ?_
   cases some_i H
   exact ⟨trivial,_,(.tmp _ _ _ _ rfl .nil),(.cl _ rfl)⟩
theorem en_170 : En Tryz.prog 170:=.of Tryz.func170 rfl rfl
noncomputable def spec_l1Num (a0 : Int) : Option ByteArray :=
  cond (decide (a0 < 0)) ((spec_l1Size a0).bind fun r1=>(cat (ByteArray.mk #[45]) r1).bind fun s3=>some s3) ((spec_l1Size a0).bind fun r5=>some r5)
theorem spec_l1Num_p  {a0 : Int} {R0 : ByteArray} (H : spec_l1Num a0 = some R0) : Pure Tryz.prog 155 [.int .i64 a0] (.str R0):=by
 refine CallT.of_TN (n:=10) Tryz.func155 rfl rfl rfl rfl ?_
 refine au 10 ?_
 refine T.cH H ?_ ?_<;>intro H h
 ·refine au 3 ?_
  obtain ⟨r1,h2,H⟩:=bind_s H
  refine TL.st rfl rfl rfl (o_callP rfl en_170 rfl rfl (.cons _ _ _ _ (.cl _ rfl) .nil) (spec_l1Size_p  h2)) ?_
  obtain ⟨s3,h4,H⟩:=bind_s H
  refine TL.st rfl rfl rfl (o_ct rfl rfl rfl h4) ?_
  refine au 3 ?_
  refine thn_ret ?_
  cases some_i H
  exact ⟨trivial,_,(.tmp _ _ _ _ rfl .nil),(.cl _ rfl)⟩
 ·refine au 4 ?_
  obtain ⟨r5,h6,H⟩:=bind_s H
  refine TL.st rfl rfl rfl (o_callP rfl en_170 rfl rfl (.cons _ _ _ _ (.cl _ rfl) .nil) (spec_l1Size_p  h6)) ?_
  refine au 3 ?_
  cases some_i H
  exact ⟨trivial,_,(.tmp _ _ _ _ rfl .nil),(.cl _ rfl)⟩
theorem en_155 : En Tryz.prog 155:=.of Tryz.func155 rfl rfl
noncomputable def spec_l1Whole_j1 (a0 : ByteArray) (v5 : Int) : Option (Int × Bool) :=
  (spec_l1Num v5).bind fun r6=>some (v5,(r6.toList == a0.toList))
noncomputable def spec_l1Whole_j2 (v2 : Int) (v11 : Int) : Option ((Int × Int) ⊕ (Int ⊕ (Int × Bool))) :=
  some (.inl (v11,(IntKind.i64.wrap (v2 + 1))))
noncomputable def spec_l1Whole_l1 (a0 : ByteArray) : (Int × Int) → Option ((Int × Int) ⊕ (Int ⊕ (Int × Bool))):=fun s=>match s with
  | (v1,v2)=>cond (decide (v2 < (a0.size : Int))) ((gdO (v2 == 0) (idxS a0 0)).bind fun b12=>cond ((v2 == 0) && (b12 == 45)) (spec_l1Whole_j2 v2 v1) ((idxS a0 v2).bind fun b14=>(spec_l1Digit b14).bind fun r16=>cond (!r16) (some (.inr (.inr (0,false)))) ((idxS a0 v2).bind fun b18=>spec_l1Whole_j2 v2 (IntKind.i64.wrap ((IntKind.i64.wrap (v1 * 10)) - (IntKind.i64.wrap (IntKind.u8.wrap (b18 - 48)))))))) (some (.inr (.inl v1)))
noncomputable def spec_l1Whole (a0 : ByteArray) : Option (Int × Bool) :=
  cond (decide ((a0.size : Int) < 1) || decide ((a0.size : Int) > 20)) (some (0,false)) ((loopO (spec_l1Whole_l1 a0) (0,0)).bind fun q20=>(match q20 with | .inl v3=>(idxS a0 0).bind fun b8=>cond (b8 != 45) (spec_l1Whole_j1 a0 (IntKind.i64.wrap (-v3))) (spec_l1Whole_j1 a0 v3) | .inr q4=>some q4))
theorem spec_l1Whole_p  {a0 : ByteArray} {R0 : Int} {R1 : Bool} (H : spec_l1Whole a0 = some (R0,R1)) : Pure Tryz.prog 129 [.str a0] (.tup [.int .i64 R0,.bool R1]):=by
 refine CallT.of_TN (n:=50) Tryz.func129 rfl rfl rfl rfl ?_
 refine au 13 ?_
 refine TL.gcq rfl rfl rfl (.bool _) rfl rfl (fun h=>o_lenS rfl rfl (gv h rfl)) ?_
 refine au 3 ?_
 refine T.cH H ?_ ?_<;>intro H h
 ·refine au 6 ?_
  refine thn_ret ?_
  cases some_i H
  exact ⟨trivial,_,(.tmp _ _ _ _ rfl (.tmp _ _ _ _ rfl .nil)),(.tupL (.cons _ _ _ _ (.cl _ rfl) (.cons _ _ _ _ (.cl _ rfl) .nil)))⟩
 ·refine au 11 ?_
  obtain ⟨q20,h21,H⟩:=bind_s H
  refine T.lq (fun s=>match s with | (v1,v2)=>[(0,.str a0),(4,.int .i64 v1),(5,.int .i64 v2)]) (fun s=>match s with | (v1,v2)=>[]) (fun q ex fr σ=>match q with | .inl v3=>ex = .exit 0 ∧ fr = [(0,.str a0),(4,.int .i64 v3)] ∧ σ = [] | .inr q4=>ex = .ret ∧ RetN Tryz.prog [.tmp 2,.tmp 3] (fun v τ=>Told τ v (.tup [.int .i64 q4.1,.bool q4.2])) .ret fr σ) h21 ?_ ?_
  ·rintro ⟨v1,v2⟩ y10 H
   refine au 8 ?_
   refine T.cH H ?_ ?_<;>intro H h
   ·refine T.skip ?_
    refine T.cut (fun fr' σ'=>∃ (v11 : Int),fr' = [(0,.str a0),(4,.int .i64 v11),(5,.int .i64 v2)] ∧ σ' = [] ∧ spec_l1Whole_j2 v2 v11 = some y10) (T.pk ?_) ?_
    ·skip
     refine au 8 ?_
     obtain ⟨b12,h13,H⟩:=bind_s H
     refine TL.gcq rfl rfl rfl (.bool _) rfl rfl (fun h=>o_ixs rfl rfl (gv h rfl) rfl (gdO_t h13 h)) ?_
     refine au 3 ?_
     refine T.cH H ?_ ?_<;>intro H h
     ·refine T.exit ?_
      refine thn_exit ?_
      refine inB_here ?_
      exact Pk.of (thn_normal ⟨v1,rfl,rfl,H⟩)
     ·refine au 6 ?_
      obtain ⟨b14,h15,H⟩:=bind_s H
      refine TL.st rfl rfl rfl (o_ixs rfl rfl rfl rfl h15) ?_
      obtain ⟨r16,h17,H⟩:=bind_s H
      refine TL.st rfl rfl rfl (o_callP rfl en_107 rfl rfl (.cons _ _ _ _ (.cl _ rfl) .nil) (spec_l1Digit_p  h17)) ?_
      refine au 2 ?_
      refine T.cH H ?_ ?_<;>intro H h
      ·refine au 6 ?_
       refine thn_ret (inB_ret ?_)
       refine Pk.id (thn_ret ?_)
       exact Pk.id (thn_ret ⟨.inr (0,false),(some_i H).symm,rfl,⟨trivial,_,(.tmp _ _ _ _ rfl (.tmp _ _ _ _ rfl .nil)),(.tupL (.cons _ _ _ _ (.cl _ rfl) (.cons _ _ _ _ (.cl _ rfl) .nil)))⟩⟩)
      ·refine au 6 ?_
       obtain ⟨b18,h19,H⟩:=bind_s H
       refine TL.st rfl rfl rfl (o_ixs rfl rfl rfl rfl h19) ?_
       refine TL.st rfl rfl rfl (o_ari rfl rfl rfl rfl) ?_
       refine TL.st rfl rfl rfl (o_conv rfl rfl ⟨_,rfl⟩ rfl) ?_
       refine au 3 ?_
       refine inB_normal ?_
       exact Pk.of (thn_normal ⟨(IntKind.i64.wrap ((IntKind.i64.wrap (v1 * 10)) - (IntKind.i64.wrap (IntKind.u8.wrap (b18 - 48))))),rfl,rfl,H⟩)
    ·rintro _ _ ⟨v11,rfl,rfl,H⟩
     refine au 5 ?_
     exact Pk.of (thn_normal ⟨(v11,(IntKind.i64.wrap (v2 + 1))),(some_i H).symm,rfl,rfl⟩)
   ·refine T.exit ?_
    refine thn_exit ?_
    exact Pk.of (thn_exit ⟨.inl v1,(some_i H).symm,rfl,rfl,rfl⟩)
  ·rcases q20 with v3 | q4
   ·rintro _ _ _ ⟨rfl,rfl,rfl⟩
    refine inB_here ?_
    refine thn_normal ?_
    refine T.cut (fun fr' σ'=>∃ (v5 : Int),fr' = [(0,.str a0),(4,.int .i64 v5)] ∧ σ' = [] ∧ spec_l1Whole_j1 a0 v5 = some (R0,R1)) (T.pk ?_) ?_
    ·skip
     refine au 3 ?_
     obtain ⟨b8,h9,H⟩:=bind_s H
     refine TL.st rfl rfl rfl (o_ixs rfl rfl rfl rfl h9) ?_
     refine au 2 ?_
     refine T.cH H ?_ ?_<;>intro H h
     ·refine au 2 ?_
      refine TL.st rfl rfl rfl (o_neg rfl rfl) ?_
      refine au 2 ?_
      exact Pk.of (thn_normal ⟨(IntKind.i64.wrap (-v3)),rfl,rfl,H⟩)
     ·refine T.skip ?_
      exact Pk.of (thn_normal ⟨v3,rfl,rfl,H⟩)
    ·rintro _ _ ⟨v5,rfl,rfl,H⟩
     refine au 4 ?_
     obtain ⟨r6,h7,H⟩:=bind_s H
     refine TL.st rfl rfl rfl (o_callP rfl en_155 rfl rfl (.cons _ _ _ _ (.cl _ rfl) .nil) (spec_l1Num_p  h7)) ?_
     refine au 6 ?_
     cases some_i H
     exact ⟨trivial,_,(.tmp _ _ _ _ rfl (.tmp _ _ _ _ rfl .nil)),(.tupL (.cons _ _ _ _ (.cl _ rfl) (.cons _ _ _ _ (.cl _ rfl) .nil)))⟩
   ·rintro _ fr1 σ1 ⟨rfl,hr⟩
    refine inB_ret (thn_ret ?_)
    cases some_i H
    exact hr
theorem en_129 : En Tryz.prog 129:=.of Tryz.func129 rfl rfl
noncomputable def spec_l3Escaped_j1 (v6 : Int) (l13 : List Int) : Option ((List Int × Int) ⊕ List Int) :=
  some (.inl (l13,(IntKind.i64.wrap (v6 + 1))))
noncomputable def spec_l3Escaped_l2 (a0 : ByteArray) (a1 : ByteArray) (v2 : Int) : (List Int × Int) → Option ((List Int × Int) ⊕ List Int):=fun s=>match s with
  | (l5,v6)=>cond (decide (v6 < (a1.size : Int))) ((idxS a0 v2).bind fun b14=>(idxS a1 v6).bind fun b16=>cond (b14 == b16) ((app l5 ([92] : List Int)).bind fun l18=>spec_l3Escaped_j1 v6 l18) (spec_l3Escaped_j1 v6 l5)) (some (.inr l5))
noncomputable def spec_l3Escaped_l1 (a0 : ByteArray) (a1 : ByteArray) : (List Int × Int) → Option ((List Int × Int) ⊕ List Int):=fun s=>match s with
  | (l1,v2)=>cond (decide (v2 < (a0.size : Int))) ((loopO (spec_l3Escaped_l2 a0 a1 v2) (l1,0)).bind fun l7=>(match l7 with | l7=>(idxS a0 v2).bind fun b8=>(app l7 ([b8] : List Int)).bind fun l10=>some (.inl (l10,(IntKind.i64.wrap (v2 + 1)))))) (some (.inr l1))
noncomputable def spec_l3Escaped (a0 : ByteArray) (a1 : ByteArray) : Option ByteArray :=
  (loopO (spec_l3Escaped_l1 a0 a1) (([] : List Int),0)).bind fun l3=>(match l3 with | l3=>some (byS l3))
theorem spec_l3Escaped_p  {a0 : ByteArray} {a1 : ByteArray} {R0 : ByteArray} (H : spec_l3Escaped a0 a1 = some R0) : Pure Tryz.prog 171 [.str a0,.str a1] (.str R0):=by
 refine CallT.of_TN (n:=38) Tryz.func171 rfl rfl rfl rfl ?_
 refine au 14 ?_
 refine T.conv (Cs.own (t:=5) 1 rfl (by decide)) ?_
 obtain ⟨l3,h23,H⟩:=bind_s H
 refine T.lq (fun s=>match s with | (l1,v2)=>[(0,.str a0),(1,.str a1),(5,.hd 0 (l1.map (c_int .u8)).length 0 (l1.map (c_int .u8)).length),(6,.int .i64 v2)]) (fun s=>match s with | (l1,v2)=>[.arr .clo 1 (l1.map (c_int .u8))]) (fun q ex fr σ=>match q with | l3=>ex = .exit 0 ∧ fr = [(5,.hd 0 (l3.map (c_int .u8)).length 0 (l3.map (c_int .u8)).length)] ∧ σ = [.arr .clo 1 (l3.map (c_int .u8))]) h23 ?_ ?_
 ·rintro ⟨l1,v2⟩ y4 H
  refine au 8 ?_
  refine T.cH H ?_ ?_<;>intro H h
  ·refine au 9 ?_
   obtain ⟨l7,h21,H⟩:=bind_s H
   refine T.lq (fun s=>match s with | (l5,v6)=>[(0,.str a0),(1,.str a1),(5,.hd 0 (l5.map (c_int .u8)).length 0 (l5.map (c_int .u8)).length),(6,.int .i64 v2),(7,.int .i64 v6)]) (fun s=>match s with | (l5,v6)=>[.arr .clo 1 (l5.map (c_int .u8))]) (fun q ex fr σ=>match q with | l7=>ex = .exit 2 ∧ fr = [(0,.str a0),(1,.str a1),(5,.hd 0 (l7.map (c_int .u8)).length 0 (l7.map (c_int .u8)).length),(6,.int .i64 v2)] ∧ σ = [.arr .clo 1 (l7.map (c_int .u8))]) h21 ?_ ?_
   ·rintro ⟨l5,v6⟩ y12 H
    refine au 8 ?_
    refine T.cH H ?_ ?_<;>intro H h
    ·refine T.skip ?_
     refine T.cut (fun fr' σ'=>∃ (l13 : List Int),fr' = [(0,.str a0),(1,.str a1),(5,.hd 0 (l13.map (c_int .u8)).length 0 (l13.map (c_int .u8)).length),(6,.int .i64 v2),(7,.int .i64 v6)] ∧ σ' = [.arr .clo 1 (l13.map (c_int .u8))] ∧ spec_l3Escaped_j1 v6 l13 = some y12) (T.pk ?_) ?_
     ·skip
      refine au 2 ?_
      refine T.drawn rfl ?_
      refine ad 2 ?_
      obtain ⟨b14,h15,H⟩:=bind_s H
      refine TD.qs rfl rfl (fun _=>o_ixs rfl rfl rfl rfl h15) ?_
      refine ad 2 ?_
      obtain ⟨b16,h17,H⟩:=bind_s H
      refine TD.qs rfl rfl (fun _=>o_ixs rfl rfl rfl rfl h17) ?_
      refine TD.qs rfl rfl (fun _=>o_ari rfl rfl rfl rfl) ?_
      refine TD.nil ⟨rfl,?_⟩
      refine thn_normal ?_
      refine T.cH H ?_ ?_<;>intro H h
      ·refine au 2 ?_
       refine TL.st rfl rfl rfl (o_sliceIm (rows:=([92] : List Int).map (c_int .u8)) rfl rfl tyS_5 ⟨_,rfl,rfl⟩ (by decide) rfl rfl rfl rfl rfl rfl) ?_
       obtain ⟨l18,h19,H⟩:=bind_s H
       refine TL.st rfl rfl rfl (o_ap (f:=c_int .u8) (xs:=l5) (ys:=([92] : List Int)) rfl rfl tyE_5 rfl rfl rfl rfl (by decide) rfl (fun _=>rfl) h19) ?_
       refine au 2 ?_
       refine inB_normal ?_
       exact Pk.of (thn_normal ⟨l18,rfl,rfl,H⟩)
      ·refine T.skip ?_
       refine inB_normal ?_
       exact Pk.of (thn_normal ⟨l5,rfl,rfl,H⟩)
     ·rintro _ _ ⟨l13,rfl,rfl,H⟩
      refine au 5 ?_
      exact Pk.of (thn_normal ⟨(l13,(IntKind.i64.wrap (v6 + 1))),(some_i H).symm,rfl,rfl⟩)
    ·refine T.exit ?_
     refine thn_exit ?_
     exact Pk.of (thn_exit ⟨l5,(some_i H).symm,rfl,rfl,rfl⟩)
   ·rintro _ _ _ ⟨rfl,rfl,rfl⟩
    refine inB_here ?_
    refine au 4 ?_
    obtain ⟨b8,h9,H⟩:=bind_s H
    refine TL.st rfl rfl rfl (o_ixs rfl rfl rfl rfl h9) ?_
    refine TL.st rfl rfl rfl (o_sliceIm (rows:=([b8] : List Int).map (c_int .u8)) rfl rfl tyS_5 ⟨_,rfl,rfl⟩ (by decide) rfl rfl rfl rfl rfl rfl) ?_
    obtain ⟨l10,h11,H⟩:=bind_s H
    refine TL.st rfl rfl rfl (o_ap (f:=c_int .u8) (xs:=l7) (ys:=([b8] : List Int)) rfl rfl tyE_5 rfl rfl rfl rfl (by decide) rfl (fun _=>rfl) h11) ?_
    refine au 7 ?_
    exact Pk.of (thn_normal ⟨(l10,(IntKind.i64.wrap (v2 + 1))),(some_i H).symm,rfl,rfl⟩)
  ·refine T.exit ?_
   refine thn_exit ?_
   exact Pk.of (thn_exit ⟨l1,(some_i H).symm,rfl,rfl,rfl⟩)
 ·rintro _ _ _ ⟨rfl,rfl,rfl⟩
  refine inB_here ?_
  refine au 3 ?_
  refine TL.st rfl rfl rfl (o_bsOwn (f:=c_int .u8) rfl rfl rfl rfl (fun _=>rfl) rfl rfl rfl) ?_
  refine au 3 ?_
  cases some_i H
  exact ⟨trivial,_,(.tmp _ _ _ _ rfl .nil),(.cl _ rfl)⟩
theorem en_171 : En Tryz.prog 171:=.of Tryz.func171 rfl rfl
noncomputable def spec_NameText_j1 (v4 : Int) (e7 : I_Part) (v9 : ByteArray) : Option ((ByteArray × Int) ⊕ ByteArray) :=
  (cat e7.Attr_ (ByteArray.mk #[61])).bind fun s10=>(spec_l3Escaped e7.Text_ (ByteArray.mk #[44,92])).bind fun r12=>(cat s10 r12).bind fun s14=>(cat v9 s14).bind fun s16=>some (.inl (s16,(IntKind.i64.wrap (v4 + 1))))
noncomputable def spec_NameText_l1 (a0 : (List I_Part)) : (ByteArray × Int) → Option ((ByteArray × Int) ⊕ ByteArray):=fun s=>match s with
  | (v3,v4)=>cond (decide (v4 < (a0.length : Int))) ((idx a0 v4).bind fun e7=>cond (decide (v4 > 0)) ((cat v3 (ByteArray.mk #[44])).bind fun s18=>spec_NameText_j1 v4 e7 s18) (spec_NameText_j1 v4 e7 v3)) (some (.inr v3))
noncomputable def spec_NameText (a0 : (List I_Part)) : Option ByteArray :=
  (spec_GoodDirName a0).bind fun r1=>cond (!r1) (some e0) ((loopO (spec_NameText_l1 a0) (e0,0)).bind fun v5=>(match v5 with | v5=>some v5))
theorem spec_NameText_p (b0 : Bool) {a0 : (List I_Part)} {R0 : ByteArray} (H : spec_NameText a0 = some R0) : Pure Tryz.prog 156 [.im b0 (a0.map (c_I_Part false))] (.str R0):=by
 refine CallT.of_TN (n:=31) Tryz.func156 rfl rfl rfl rfl ?_
 refine au 8 ?_
 obtain ⟨r1,h2,H⟩:=bind_s H
 refine TL.st rfl rfl rfl (o_callP rfl en_47 rfl rfl (.cons _ _ _ _ (.imv _ _) .nil) (spec_GoodDirName_p b0 h2)) ?_
 refine au 2 ?_
 refine T.cH H ?_ ?_<;>intro H h
 ·refine au 5 ?_
  refine thn_ret ?_
  cases some_i H
  exact ⟨trivial,_,(.tmp _ _ _ _ rfl .nil),(.cl _ rfl)⟩
 ·refine au 9 ?_
  refine TL.st rfl rfl rfl (o_lenL (f:=c_I_Part false) rfl rfl rfl) ?_
  refine au 3 ?_
  obtain ⟨v5,h21,H⟩:=bind_s H
  refine T.lq (fun s=>match s with | (v3,v4)=>[(3,.str v3),(9,.im b0 (a0.map (c_I_Part false))),(10,.int .i64 (a0.length : Int)),(11,.int .i64 v4)]) (fun s=>match s with | (v3,v4)=>[]) (fun q ex fr σ=>match q with | v5=>ex = .exit 0 ∧ fr = [(3,.str v5)] ∧ σ = []) h21 ?_ ?_
  ·rintro ⟨v3,v4⟩ y6 H
   refine au 5 ?_
   refine T.cH H ?_ ?_<;>intro H h
   ·refine au 6 ?_
    obtain ⟨e7,h8,H⟩:=bind_s H
    refine TL.st rfl rfl rfl (o_ix (f:=c_I_Part false) rfl rfl tyS_96 rfl rfl h8 rfl) ?_
    refine au 5 ?_
    refine T.cut (fun fr' σ'=>∃ (v9 : ByteArray),fr' = [(3,.str v9),(5,.bx 0 0),(9,.im b0 (a0.map (c_I_Part false))),(10,.int .i64 (a0.length : Int)),(11,.int .i64 v4)] ∧ σ' = [.box (c_I_Part false e7)] ∧ spec_NameText_j1 v4 e7 v9 = some y6) (T.pk ?_) ?_
    ·skip
     refine au 5 ?_
     refine T.cH H ?_ ?_<;>intro H h
     ·refine au 2 ?_
      obtain ⟨s18,h19,H⟩:=bind_s H
      refine TL.st rfl rfl rfl (o_ct rfl rfl rfl h19) ?_
      refine au 2 ?_
      exact Pk.of (thn_normal ⟨s18,rfl,rfl,H⟩)
     ·refine T.skip ?_
      exact Pk.of (thn_normal ⟨v3,rfl,rfl,H⟩)
    ·rintro _ _ ⟨v9,rfl,rfl,H⟩
     refine T.drawn rfl ?_
     refine ad 3 ?_
     obtain ⟨s10,h11,H⟩:=bind_s H
     refine TD.qs rfl rfl (fun _=>o_ct rfl rfl rfl h11) ?_
     refine ad 2 ?_
     obtain ⟨r12,h13,H⟩:=bind_s H
     refine TD.qs rfl rfl (fun _=>o_callP rfl en_171 rfl rfl (.cons _ _ _ _ (.cl _ rfl) (.cons _ _ _ _ (.cl _ rfl) .nil)) (spec_l3Escaped_p  h13)) ?_
     obtain ⟨s14,h15,H⟩:=bind_s H
     refine TD.qs rfl rfl (fun _=>o_ct rfl rfl rfl h15) ?_
     obtain ⟨s16,h17,H⟩:=bind_s H
     refine TD.qs rfl rfl (fun _=>o_ct rfl rfl rfl h17) ?_
     refine TD.qs rfl rfl (fun _=>o_assign rfl rfl) ?_
     refine TD.nil ⟨rfl,?_⟩
     refine au 4 ?_
     exact Pk.of (thn_normal ⟨(s16,(IntKind.i64.wrap (v4 + 1))),(some_i H).symm,rfl,rfl⟩)
   ·refine T.exit ?_
    refine thn_exit ?_
    exact Pk.of (thn_exit ⟨v3,(some_i H).symm,rfl,rfl,rfl⟩)
  ·rintro _ _ _ ⟨rfl,rfl,rfl⟩
   refine inB_here ?_
   refine au 6 ?_
   cases some_i H
   exact ⟨trivial,_,(.tmp _ _ _ _ rfl .nil),(.cl _ rfl)⟩
theorem en_156 : En Tryz.prog 156:=.of Tryz.func156 rfl rfl
noncomputable def spec_ReadName_j1 (b16 : I_Part) (l17 : List I_Part) (l18 : List Int) (v19 : Bool) (v20 : Int) : Option ((I_Part × List I_Part × List Int × Bool × Int) ⊕ ((I_Part × List I_Part × List Int × Bool) ⊕ ((List I_Part) × Bool))) :=
  some (.inl (b16,l17,l18,v19,(IntKind.i64.wrap (v20 + 1))))
noncomputable def spec_ReadName_l1 (a0 : ByteArray) : (I_Part × List I_Part × List Int × Bool × Int) → Option ((I_Part × List I_Part × List Int × Bool × Int) ⊕ ((I_Part × List I_Part × List Int × Bool) ⊕ ((List I_Part) × Bool))):=fun s=>match s with
  | (b1,l2,l3,v4,v5)=>cond (decide (v5 < (a0.size : Int))) ((idxS a0 v5).bind fun b21=>cond ((!v4) && (b21 == 61)) (spec_ReadName_j1 (⟨(byS l3),b1.Text_⟩ : I_Part) l2 ([] : List Int) true v5) (cond (v4 && (b21 == 44)) ((app l2 ([(⟨b1.Attr_,(byS l3)⟩ : I_Part)] : List I_Part)).bind fun l23=>spec_ReadName_j1 (⟨b1.Attr_,(byS l3)⟩ : I_Part) l23 ([] : List Int) false v5) (cond (v4 && (b21 == 92)) (cond ((IntKind.i64.wrap (v5 + 1)) == (a0.size : Int)) (some (.inr (.inr (([] : List I_Part),false)))) ((idxS a0 (IntKind.i64.wrap (v5 + 1))).bind fun b25=>(app l3 ([b25] : List Int)).bind fun l27=>spec_ReadName_j1 b1 l2 l27 v4 (IntKind.i64.wrap (v5 + 1)))) ((app l3 ([b21] : List Int)).bind fun l29=>spec_ReadName_j1 b1 l2 l29 v4 v5)))) (some (.inr (.inl (b1,l2,l3,v4))))
noncomputable def spec_ReadName (a0 : ByteArray) : Option ((List I_Part) × Bool) :=
  cond (a0.toList == e0.toList) (some (([] : List I_Part),true)) (cond (decide ((a0.size : Int) > 2000)) (some (([] : List I_Part),false)) ((loopO (spec_ReadName_l1 a0) ((⟨e0,e0⟩ : I_Part),([] : List I_Part),([] : List Int),false,0)).bind fun q31=>(match q31 with | .inl (b6,l7,l8,v9)=>(app l7 ([(⟨b6.Attr_,(byS l8)⟩ : I_Part)] : List I_Part)).bind fun l11=>(gdO (!(!v9)) (spec_NameText l11)).bind fun r13=>cond ((!v9) || (!(r13.toList == a0.toList))) (some (([] : List I_Part),false)) (some (l11,true)) | .inr q10=>some q10)))
theorem spec_ReadName_p  {a0 : ByteArray} {R0 : (List I_Part)} {R1 : Bool} (H : spec_ReadName a0 = some (R0, R1)) : Pure Tryz.prog 130 [.str a0] (.tup [.im false (R0.map (c_I_Part false)), .bool R1]) := by
 refine CallT.of_TN (n:=86) Tryz.func130 rfl rfl rfl rfl ?_
 refine au 11 ?_
 refine T.cH H ?_ ?_<;>intro H h
 ·refine au 6 ?_
  refine thn_ret ?_
  cases some_i H
  exact ⟨trivial,_,(.tmp _ _ _ _ rfl (.tmp _ _ _ _ rfl .nil)),(.tupL (.cons _ _ _ _ .nil (.cons _ _ _ _ (.cl _ rfl) .nil)))⟩
 ·refine au 8 ?_
  refine T.cH H ?_ ?_<;>intro H h
  ·refine au 6 ?_
   refine thn_ret ?_
   cases some_i H
   exact ⟨trivial,_,(.tmp _ _ _ _ rfl (.tmp _ _ _ _ rfl .nil)),(.tupL (.cons _ _ _ _ .nil (.cons _ _ _ _ (.cl _ rfl) .nil)))⟩
  ·refine au 25 ?_
   refine T.conv (Cs.own (t:=4) 2 rfl (by decide)) ?_
   refine T.conv (Cs.own (t:=6) 1 rfl (by decide)) ?_
   obtain ⟨q31,h32,H⟩:=bind_s H
   refine T.lq (fun s=>match s with | (b1,l2,l3,v4,v5)=>[(0,.str a0),(4,.hd 1 (l2.map (c_I_Part false)).length 0 (l2.map (c_I_Part false)).length),(5,.bx 0 0),(6,.hd 2 (l3.map (c_int .u8)).length 0 (l3.map (c_int .u8)).length),(7,.bool v4),(8,.int .i64 v5)]) (fun s=>match s with | (b1,l2,l3,v4,v5)=>[.box (c_I_Part false b1),.arr .clo 2 (l2.map (c_I_Part false)),.arr .clo 1 (l3.map (c_int .u8))]) (fun q ex fr σ=>match q with | .inl (b6,l7,l8,v9)=>ex = .exit 0 ∧ fr = [(0,.str a0),(4,.hd 1 (l7.map (c_I_Part false)).length 0 (l7.map (c_I_Part false)).length),(5,.bx 0 0),(6,.hd 2 (l8.map (c_int .u8)).length 0 (l8.map (c_int .u8)).length),(7,.bool v9)] ∧ σ = [.box (c_I_Part false b6),.arr .clo 2 (l7.map (c_I_Part false)),.arr .clo 1 (l8.map (c_int .u8))] | .inr q10=>ex = .ret ∧ RetN Tryz.prog [.tmp 2,.tmp 3] (fun v τ=>Told τ v (.tup [.im false (q10.1.map (c_I_Part false)),.bool q10.2])) .ret fr σ) h32 ?_ ?_
   ·rintro ⟨b1,l2,l3,v4,v5⟩ y15 H
    refine au 8 ?_
    refine T.cH H ?_ ?_<;>intro H h
    ·refine T.skip ?_
     refine T.cut (fun fr' σ'=>∃ (b16 : I_Part) (l17 : List I_Part) (l18 : List Int) (v19 : Bool) (v20 : Int),fr' = [(0,.str a0),(4,.hd 1 (l17.map (c_I_Part false)).length 0 (l17.map (c_I_Part false)).length),(5,.bx 0 0),(6,.hd 2 (l18.map (c_int .u8)).length 0 (l18.map (c_int .u8)).length),(7,.bool v19),(8,.int .i64 v20)] ∧ σ' = [.box (c_I_Part false b16),.arr .clo 2 (l17.map (c_I_Part false)),.arr .clo 1 (l18.map (c_int .u8))] ∧ spec_ReadName_j1 b16 l17 l18 v19 v20 = some y15) (T.pk ?_) ?_
     ·skip
      refine au 5 ?_
      obtain ⟨b21,h22,H⟩:=bind_s H
      refine TL.st rfl rfl rfl (o_ixs rfl rfl rfl rfl h22) ?_
      refine au 13 ?_
      refine T.cH H ?_ ?_<;>intro H h
      ·refine au 3 ?_
       refine TL.st rfl rfl rfl (o_bsOwn (f:=c_int .u8) rfl rfl rfl rfl (fun _=>rfl) rfl rfl rfl) ?_
       refine au 6 ?_
       refine TL.conv (Cs.own (t:=6) 1 rfl (by decide)) ?_
       refine TL.conv (Cs.wkF (M:=4) (.k 0 rfl rfl (.k 4 rfl rfl (.k 5 rfl rfl (.k 6 rfl rfl (.k 7 rfl rfl (.k 8 rfl rfl (.k 9 rfl rfl (.k 16 rfl rfl (.k 17 rfl rfl (.k 18 rfl rfl (.k 19 rfl rfl (.k 22 rfl rfl (.k 23 rfl rfl (.k 24 rfl rfl (.k 29 rfl rfl (.k 30 rfl rfl (.k 31 rfl rfl (.k 32 rfl rfl (.k 35 rfl rfl (.k 37 rfl rfl (.k 38 rfl rfl .nil)))))))))))))))))))))) ?_
       refine TL.conv (Cs.reloc 2 3 rfl rfl (by decide) rfl rfl rfl (nomS_get rfl)) ?_
       refine TL.conv (Cs.wkF (M:=4) (.k 0 rfl rfl (.k 4 rfl rfl (.k 5 rfl rfl (.k 6 rfl rfl (.k 7 rfl rfl (.k 8 rfl rfl (.k 9 rfl rfl (.k 16 rfl rfl (.k 17 rfl rfl (.k 18 rfl rfl (.k 19 rfl rfl (.k 22 rfl rfl (.k 23 rfl rfl (.k 24 rfl rfl (.k 29 rfl rfl (.k 30 rfl rfl (.k 31 rfl rfl (.k 32 rfl rfl (.k 35 rfl rfl (.k 37 rfl rfl (.k 38 rfl rfl .nil)))))))))))))))))))))) ?_
       refine TL.conv (Cs.eqS (σ':=[.box [.str (byS l3),.str b1.Text_],_,.arr .clo 1 (([] : List Int).map (c_int .u8)),.dead]) rfl) ?_
       refine au 4 ?_
       refine inB_normal (inB_normal ?_)
       exact Pk.of (thn_normal ⟨(⟨(byS l3),b1.Text_⟩ : I_Part),l2,([] : List Int),true,v5,rfl,rfl,H⟩)
      ·refine au 9 ?_
       refine T.cH H ?_ ?_<;>intro H h
       ·refine au 3 ?_
        refine TL.st rfl rfl rfl (o_bsOwn (f:=c_int .u8) rfl rfl rfl rfl (fun _=>rfl) rfl rfl rfl) ?_
        refine au 7 ?_
        refine TL.st rfl rfl rfl (o_sliceIm (rows:=([(⟨b1.Attr_,(byS l3)⟩ : I_Part)] : List I_Part).map (c_I_Part false)) rfl rfl tyS_96 ⟨_,rfl,rfl⟩ (by decide) rfl rfl rfl rfl rfl rfl) ?_
        obtain ⟨l23,h24,H⟩:=bind_s H
        refine TL.st rfl rfl rfl (o_ap (f:=c_I_Part false) (xs:=l2) (ys:=([(⟨b1.Attr_,(byS l3)⟩ : I_Part)] : List I_Part)) rfl rfl tyE_96 rfl rfl rfl rfl (by decide) rfl (fun _=>rfl) h24) ?_
        refine au 5 ?_
        refine TL.conv (Cs.own (t:=6) 1 rfl (by decide)) ?_
        refine TL.conv (Cs.wkF (M:=4) (.k 0 rfl rfl (.k 4 rfl rfl (.k 5 rfl rfl (.k 6 rfl rfl (.k 7 rfl rfl (.k 8 rfl rfl (.k 9 rfl rfl (.k 16 rfl rfl (.k 17 rfl rfl (.k 18 rfl rfl (.k 19 rfl rfl (.k 22 rfl rfl (.k 23 rfl rfl (.k 24 rfl rfl (.k 29 rfl rfl (.k 30 rfl rfl (.k 31 rfl rfl (.k 32 rfl rfl (.k 35 rfl rfl (.k 39 rfl rfl (.k 40 rfl rfl (.k 41 rfl rfl (.k 44 rfl rfl (.k 46 rfl rfl (.k 47 rfl rfl (.k 48 rfl rfl (.k 49 rfl rfl (.k 50 rfl rfl (.k 51 rfl rfl .nil)))))))))))))))))))))))))))))) ?_
        refine TL.conv (Cs.reloc 2 3 rfl rfl (by decide) rfl rfl rfl (nomS_get rfl)) ?_
        refine TL.conv (Cs.wkF (M:=4) (.k 0 rfl rfl (.k 4 rfl rfl (.k 5 rfl rfl (.k 6 rfl rfl (.k 7 rfl rfl (.k 8 rfl rfl (.k 9 rfl rfl (.k 16 rfl rfl (.k 17 rfl rfl (.k 18 rfl rfl (.k 19 rfl rfl (.k 22 rfl rfl (.k 23 rfl rfl (.k 24 rfl rfl (.k 29 rfl rfl (.k 30 rfl rfl (.k 31 rfl rfl (.k 32 rfl rfl (.k 35 rfl rfl (.k 39 rfl rfl (.k 40 rfl rfl (.k 41 rfl rfl (.k 44 rfl rfl (.k 46 rfl rfl (.k 47 rfl rfl (.k 48 rfl rfl (.k 49 rfl rfl (.k 50 rfl rfl (.k 51 rfl rfl .nil)))))))))))))))))))))))))))))) ?_
        refine TL.conv (Cs.eqS (σ':=[.box [.str b1.Attr_,.str (byS l3)],.arr .clo 2 (l23.map (c_I_Part false)),.arr .clo 1 (([] : List Int).map (c_int .u8)),.dead]) rfl) ?_
        refine au 4 ?_
        refine inB_normal (inB_normal ?_)
        exact Pk.of (thn_normal ⟨(⟨b1.Attr_,(byS l3)⟩ : I_Part),l23,([] : List Int),false,v5,rfl,rfl,H⟩)
       ·refine au 9 ?_
        refine T.cH H ?_ ?_<;>intro H h
        ·refine au 14 ?_
         refine T.cH H ?_ ?_<;>intro H h
         ·refine au 6 ?_
          refine thn_ret (inB_ret (inB_ret ?_))
          refine Pk.id (thn_ret ?_)
          exact Pk.id (thn_ret ⟨.inr (([] : List I_Part),false),(some_i H).symm,rfl,⟨trivial,_,(.tmp _ _ _ _ rfl (.tmp _ _ _ _ rfl .nil)),(.tupL (.cons _ _ _ _ .nil (.cons _ _ _ _ (.cl _ rfl) .nil)))⟩⟩)
         ·refine au 5 ?_
          obtain ⟨b25,h26,H⟩:=bind_s H
          refine TL.st rfl rfl rfl (o_ixs rfl rfl rfl rfl h26) ?_
          refine TL.st rfl rfl rfl (o_sliceIm (rows:=([b25] : List Int).map (c_int .u8)) rfl rfl tyS_5 ⟨_,rfl,rfl⟩ (by decide) rfl rfl rfl rfl rfl rfl) ?_
          obtain ⟨l27,h28,H⟩:=bind_s H
          refine TL.st rfl rfl rfl (o_ap (f:=c_int .u8) (xs:=l3) (ys:=([b25] : List Int)) rfl rfl tyE_5 rfl rfl rfl rfl (by decide) rfl (fun _=>rfl) h28) ?_
          refine au 2 ?_
          refine inB_normal (inB_normal ?_)
          exact Pk.of (thn_normal ⟨b1,l2,l27,v4,(IntKind.i64.wrap (v5 + 1)),rfl,rfl,H⟩)
        ·refine au 3 ?_
         refine TL.st rfl rfl rfl (o_sliceIm (rows:=([b21] : List Int).map (c_int .u8)) rfl rfl tyS_5 ⟨_,rfl,rfl⟩ (by decide) rfl rfl rfl rfl rfl rfl) ?_
         obtain ⟨l29,h30,H⟩:=bind_s H
         refine TL.st rfl rfl rfl (o_ap (f:=c_int .u8) (xs:=l3) (ys:=([b21] : List Int)) rfl rfl tyE_5 rfl rfl rfl rfl (by decide) rfl (fun _=>rfl) h30) ?_
         refine au 2 ?_
         refine inB_normal (inB_normal ?_)
         exact Pk.of (thn_normal ⟨b1,l2,l29,v4,v5,rfl,rfl,H⟩)
     ·rintro _ _ ⟨b16,l17,l18,v19,v20,rfl,rfl,H⟩
      refine au 5 ?_
      exact Pk.of (thn_normal ⟨(b16,l17,l18,v19,(IntKind.i64.wrap (v20 + 1))),(some_i H).symm,rfl,rfl⟩)
    ·refine T.exit ?_
     refine thn_exit ?_
     exact Pk.of (thn_exit ⟨.inl (b1,l2,l3,v4),(some_i H).symm,rfl,rfl,rfl⟩)
   ·rcases q31 with ⟨b6,l7,l8,v9⟩ | q10
    ·rintro _ _ _ ⟨rfl,rfl,rfl⟩
     refine inB_here ?_
     refine au 3 ?_
     refine TL.st rfl rfl rfl (o_bsOwn (f:=c_int .u8) rfl rfl rfl rfl (fun _=>rfl) rfl rfl rfl) ?_
     refine au 7 ?_
     refine TL.st rfl rfl rfl (o_sliceIm (rows:=([(⟨b6.Attr_,(byS l8)⟩ : I_Part)] : List I_Part).map (c_I_Part false)) rfl rfl tyS_96 ⟨_,rfl,rfl⟩ (by decide) rfl rfl rfl rfl rfl rfl) ?_
     obtain ⟨l11,h12,H⟩:=bind_s H
     refine TL.st rfl rfl rfl (o_ap (f:=c_I_Part false) (xs:=l7) (ys:=([(⟨b6.Attr_,(byS l8)⟩ : I_Part)] : List I_Part)) rfl rfl tyE_96 rfl rfl rfl rfl (by decide) rfl (fun _=>rfl) h12) ?_
     refine au 9 ?_
     obtain ⟨r13,h14,H⟩:=bind_s H
     refine TL.gcq rfl rfl rfl (.bool _) rfl rfl (fun h=>o_callP rfl en_156 rfl (evl_1 (gv h rfl)) (.cons _ _ _ _ (.own rfl (by decide) rfl) .nil) (spec_NameText_p true (gdO_t h14 h))) ?_
     refine TL.gcq rfl rfl rfl (.bool _) rfl rfl (fun h=>o_move rfl rfl) ?_
     refine TL.gcq rfl rfl rfl (.bool _) rfl rfl (fun h=>o_str rfl (gv h rfl) (gv h rfl) rfl) ?_
     refine au 2 ?_
     refine T.cH H ?_ ?_<;>intro H h
     ·refine au 6 ?_
      refine thn_ret ?_
      cases some_i H
      exact ⟨trivial,_,(.tmp _ _ _ _ rfl (.tmp _ _ _ _ rfl .nil)),(.tupL (.cons _ _ _ _ .nil (.cons _ _ _ _ (.cl _ rfl) .nil)))⟩
     ·refine au 8 ?_
      cases some_i H
      exact ⟨trivial,_,(.tmp _ _ _ _ rfl (.tmp _ _ _ _ rfl .nil)),(.tupL (.cons _ _ _ _ (.own rfl (by decide) rfl) (.cons _ _ _ _ (.cl _ rfl) .nil)))⟩
    ·rintro _ fr1 σ1 ⟨rfl,hr⟩
     refine inB_ret (thn_ret ?_)
     cases some_i H
     exact hr
theorem en_130 : En Tryz.prog 130:=.of Tryz.func130 rfl rfl
noncomputable def spec_l3Of (a0 : Int) (a1 : ByteArray) : Option Bool :=
  cond (a0 == 3) ((spec_l1Whole a1).bind fun q=>(match q with | (r1,r2)=>some r2)) (cond (a0 == 4) ((spec_ReadName a1).bind fun q=>(match q with | (r4,r5)=>some r5)) (some true))
theorem spec_l3Of_p  {a0 : Int} {a1 : ByteArray} {R0 : Bool} (H : spec_l3Of a0 a1 = some R0) : Pure Tryz.prog 86 [.int .i64 a0,.str a1] (.bool R0):=by
 refine CallT.of_TN (n:=26) Tryz.func86 rfl rfl rfl rfl ?_
 refine au 15 ?_
 refine T.cH H ?_ ?_<;>intro H h
 ·refine au 3 ?_
  obtain ⟨⟨r1,r2⟩,h3,H⟩:=bind_s H
  refine TL.st rfl rfl rfl (o_callP rfl en_129 rfl rfl (.cons _ _ _ _ (.cl _ rfl) .nil) (spec_l1Whole_p  h3)) ?_
  refine au 12 ?_
  refine inB_ret (thn_ret ?_)
  cases some_i H
  exact ⟨trivial,_,(.tmp _ _ _ _ rfl .nil),(.cl _ rfl)⟩
 ·refine au 5 ?_
  refine T.cH H ?_ ?_<;>intro H h
  ·refine au 3 ?_
   obtain ⟨⟨r4,r5⟩,h6,H⟩:=bind_s H
   refine TL.st rfl rfl rfl (o_callP rfl en_130 rfl rfl (.cons _ _ _ _ (.cl _ rfl) .nil) (spec_ReadName_p  h6)) ?_
   refine au 12 ?_
   refine inB_ret (thn_ret ?_)
   cases some_i H
   exact ⟨trivial,_,(.tmp _ _ _ _ rfl .nil),(.cl _ rfl)⟩
  ·refine au 6 ?_
   cases some_i H
   exact ⟨trivial,_,(.tmp _ _ _ _ rfl .nil),(.cl _ rfl)⟩
theorem en_86 : En Tryz.prog 86:=.of Tryz.func86 rfl rfl
noncomputable def spec_l3Same (a0 : Int) (a1 : ByteArray) (a2 : ByteArray) : Option Bool :=
  cond (a0 == 1) ((capsO a1).bind fun r1=>(capsO a2).bind fun r3=>some (r1.toList == r3.toList)) ((gdO (a0 == 3) (spec_l3Of a0 a1)).bind fun r5=>cond ((a0 == 3) && (!r5)) (some false) (some (a1.toList == a2.toList)))
theorem spec_l3Same_p  {a0 : Int} {a1 : ByteArray} {a2 : ByteArray} {R0 : Bool} (H : spec_l3Same a0 a1 a2 = some R0) : Pure Tryz.prog 87 [.int .i64 a0,.str a1,.str a2] (.bool R0):=by
 refine CallT.of_TN (n:=25) Tryz.func87 rfl rfl rfl rfl ?_
 refine au 10 ?_
 refine T.cH H ?_ ?_<;>intro H h
 ·refine au 3 ?_
  obtain ⟨r1,h2,H⟩:=bind_s H
  refine TL.st rfl rfl rfl (o_callP rfl en_85 rfl rfl (.cons _ _ _ _ (.cl _ rfl) .nil) (MT.lib_85  h2)) ?_
  refine TL.st rfl rfl rfl (o_move rfl rfl) ?_
  obtain ⟨r3,h4,H⟩:=bind_s H
  refine TL.st rfl rfl rfl (o_callP rfl en_85 rfl rfl (.cons _ _ _ _ (.cl _ rfl) .nil) (MT.lib_85  h4)) ?_
  refine au 4 ?_
  refine thn_ret ?_
  cases some_i H
  exact ⟨trivial,_,(.tmp _ _ _ _ rfl .nil),(.cl _ rfl)⟩
 ·refine au 9 ?_
  obtain ⟨r5,h6,H⟩:=bind_s H
  refine TL.gcq rfl rfl rfl (.bool _) rfl rfl (fun h=>o_callP rfl en_86 rfl (evl_2 (gv h rfl) (gv h rfl)) (.cons _ _ _ _ (.cl _ rfl) (.cons _ _ _ _ (.cl _ rfl) .nil)) (spec_l3Of_p  (gdO_t h6 h))) ?_
  refine au 3 ?_
  refine T.cH H ?_ ?_<;>intro H h
  ·refine au 5 ?_
   refine thn_ret ?_
   cases some_i H
   exact ⟨trivial,_,(.tmp _ _ _ _ rfl .nil),(.cl _ rfl)⟩
  ·refine au 9 ?_
   cases some_i H
   exact ⟨trivial,_,(.tmp _ _ _ _ rfl .nil),(.cl _ rfl)⟩
theorem en_87 : En Tryz.prog 87:=.of Tryz.func87 rfl rfl
noncomputable def spec_l3Below (a0 : Int) (a1 : ByteArray) (a2 : ByteArray) : Option Int :=
  cond (a0 == 3) ((spec_l1Whole a1).bind fun q=>(match q with | (r1,r2)=>(spec_l1Whole a2).bind fun q=>(match q with | (r4,r5)=>(spec_l1CmpNum r1 r4).bind fun r7=>some r7))) (cond (a0 == 1) ((capsO a1).bind fun r9=>(capsO a2).bind fun r11=>(spec_l1CmpText r9 r11).bind fun r13=>some r13) ((spec_l1CmpText a1 a2).bind fun r15=>some r15))
theorem spec_l3Below_p  {a0 : Int} {a1 : ByteArray} {a2 : ByteArray} {R0 : Int} (H : spec_l3Below a0 a1 a2 = some R0) : Pure Tryz.prog 88 [.int .i64 a0,.str a1,.str a2] (.int .i64 R0):=by
 refine CallT.of_TN (n:=37) Tryz.func88 rfl rfl rfl rfl ?_
 refine au 15 ?_
 refine T.cH H ?_ ?_<;>intro H h
 ·refine au 3 ?_
  obtain ⟨⟨r1,r2⟩,h3,H⟩:=bind_s H
  refine TL.st rfl rfl rfl (o_callP rfl en_129 rfl rfl (.cons _ _ _ _ (.cl _ rfl) .nil) (spec_l1Whole_p  h3)) ?_
  refine au 9 ?_
  obtain ⟨⟨r4,r5⟩,h6,H⟩:=bind_s H
  refine TL.st rfl rfl rfl (o_callP rfl en_129 rfl rfl (.cons _ _ _ _ (.cl _ rfl) .nil) (spec_l1Whole_p  h6)) ?_
  refine au 10 ?_
  obtain ⟨r7,h8,H⟩:=bind_s H
  refine TL.st rfl rfl rfl (o_callP rfl en_106 rfl rfl (.cons _ _ _ _ (.cl _ rfl) (.cons _ _ _ _ (.cl _ rfl) .nil)) (spec_l1CmpNum_p  h8)) ?_
  refine au 3 ?_
  refine inB_ret (thn_ret ?_)
  cases some_i H
  exact ⟨trivial,_,(.tmp _ _ _ _ rfl .nil),(.cl _ rfl)⟩
 ·refine au 5 ?_
  refine T.cH H ?_ ?_<;>intro H h
  ·refine au 3 ?_
   obtain ⟨r9,h10,H⟩:=bind_s H
   refine TL.st rfl rfl rfl (o_callP rfl en_85 rfl rfl (.cons _ _ _ _ (.cl _ rfl) .nil) (MT.lib_85  h10)) ?_
   refine TL.st rfl rfl rfl (o_move rfl rfl) ?_
   obtain ⟨r11,h12,H⟩:=bind_s H
   refine TL.st rfl rfl rfl (o_callP rfl en_85 rfl rfl (.cons _ _ _ _ (.cl _ rfl) .nil) (MT.lib_85  h12)) ?_
   obtain ⟨r13,h14,H⟩:=bind_s H
   refine TL.st rfl rfl rfl (o_callP rfl en_61 rfl rfl (.cons _ _ _ _ (.cl _ rfl) (.cons _ _ _ _ (.cl _ rfl) .nil)) (spec_l1CmpText_p  h14)) ?_
   refine au 3 ?_
   refine inB_ret (thn_ret ?_)
   cases some_i H
   exact ⟨trivial,_,(.tmp _ _ _ _ rfl .nil),(.cl _ rfl)⟩
  ·refine au 5 ?_
   obtain ⟨r15,h16,H⟩:=bind_s H
   refine TL.st rfl rfl rfl (o_callP rfl en_61 rfl rfl (.cons _ _ _ _ (.cl _ rfl) (.cons _ _ _ _ (.cl _ rfl) .nil)) (spec_l1CmpText_p  h16)) ?_
   refine au 3 ?_
   cases some_i H
   exact ⟨trivial,_,(.tmp _ _ _ _ rfl .nil),(.cl _ rfl)⟩
theorem en_88 : En Tryz.prog 88:=.of Tryz.func88 rfl rfl
noncomputable def spec_l3Match_j2 (v2 : Int) (v3 : Int) (v12 : Int) : Option ((Int × Int) ⊕ Int) :=
  cond ((v12 == 0) || ((v12 == 2) && (v2 == 1))) (some (.inl (v12,(IntKind.i64.wrap (v3 + 1))))) (some (.inl (v2,(IntKind.i64.wrap (v3 + 1)))))
noncomputable def spec_l3Match_l1 (a0 : I_DirSchema) (a1 : I_Entry) (a2 : T_spec_l3F) (rec_spec_l3Match : (I_DirSchema × I_Entry × T_spec_l3F) → Option Int) : (Int × Int) → Option ((Int × Int) ⊕ Int):=fun s=>match s with
  | (v2,v3)=>cond (decide (v3 < (a2.kids_.length : Int))) ((idx a2.kids_ v3).bind fun w7=>(dec_T_spec_l3F w7).bind fun e6=>(rec_spec_l3Match (a0,a1,e6)).bind fun r10=>cond ((a2.n_.Kind_ == 2) && (r10 != 2)) (spec_l3Match_j2 v2 v3 (IntKind.i64.wrap (1 - r10))) (spec_l3Match_j2 v2 v3 r10)) (some (.inr v2))
noncomputable def spec_l3Match_l2 (a2 : T_spec_l3F) (r21 : I_AttrType) (r24 : (List ByteArray)) : (Bool × Int) → Option ((Bool × Int) ⊕ Bool):=fun s=>match s with
  | (v28,v29)=>cond (decide (v29 < (r24.length : Int))) ((idx r24 v29).bind fun e34=>cond (r21.Syntax_ == 1) ((gdO (!v28) (capsO e34)).bind fun r36=>(gdO (!v28) (capsO a2.n_.Text_)).bind fun r38=>(gdO (!v28) (spec_Like r36 r38)).bind fun r40=>some (.inl ((v28 || r40),(IntKind.i64.wrap (v29 + 1))))) ((gdO (!v28) (spec_Like e34 a2.n_.Text_)).bind fun r42=>some (.inl ((v28 || r42),(IntKind.i64.wrap (v29 + 1)))))) (some (.inr v28))
noncomputable def spec_l3Match_l3 (a2 : T_spec_l3F) (r21 : I_AttrType) (r24 : (List ByteArray)) : (Bool × Int) → Option ((Bool × Int) ⊕ Bool):=fun s=>match s with
  | (v48,v49)=>cond (decide (v49 < (r24.length : Int))) ((idx r24 v49).bind fun e54=>cond (a2.n_.Kind_ == 4) ((gdO (!v48) (spec_l3Same r21.Syntax_ e54 a2.n_.Text_)).bind fun r56=>some (.inl ((v48 || r56),(IntKind.i64.wrap (v49 + 1))))) ((spec_l3Of r21.Syntax_ e54).bind fun r58=>cond (!r58) (some (.inl (v48,(IntKind.i64.wrap (v49 + 1))))) (cond (a2.n_.Kind_ == 5) ((gdO (!v48) (spec_l3Below r21.Syntax_ e54 a2.n_.Text_)).bind fun r60=>some (.inl ((v48 || decide (r60 ≥ 0)),(IntKind.i64.wrap (v49 + 1))))) ((gdO (!v48) (spec_l3Below r21.Syntax_ e54 a2.n_.Text_)).bind fun r62=>some (.inl ((v48 || decide (r62 ≤ 0)),(IntKind.i64.wrap (v49 + 1)))))))) (some (.inr v48))
noncomputable def spec_l3Match_j1 (a0 : I_DirSchema) (a1 : I_Entry) (a2 : T_spec_l3F) (rec_spec_l3Match : (I_DirSchema × I_Entry × T_spec_l3F) → Option Int) (v1 : Bool) : Option Int :=
  cond v1 ((loopO (spec_l3Match_l1 a0 a1 a2 rec_spec_l3Match) (1,0)).bind fun v4=>(match v4 with | v4=>cond ((a2.n_.Kind_ == 2) && (v4 != 2)) (some (IntKind.i64.wrap (1 - v4))) (some v4))) (cond (a2.n_.Kind_ == 3) ((idx a2.kids_ 0).bind fun w16=>(dec_T_spec_l3F w16).bind fun e15=>(rec_spec_l3Match (a0,a1,e15)).bind fun r19=>cond (r19 == 2) (some r19) (some (IntKind.i64.wrap (1 - r19)))) ((spec_l3Type a0 a2.n_.Attr_).bind fun q=>(match q with | (r21,r22)=>cond (!r22) (some 2) ((spec_l3Values a1 a2.n_.Attr_).bind fun r24=>cond (a2.n_.Kind_ == 7) ((spec_l3Said (decide ((r24.length : Int) > 0))).bind fun r26=>some r26) (cond (a2.n_.Kind_ == 8) (cond (decide (r21.Syntax_ > 2)) (some 2) ((loopO (spec_l3Match_l2 a2 r21 r24) (false,0)).bind fun v30=>(match v30 with | v30=>(spec_l3Said v30).bind fun r31=>some r31))) ((spec_l3Of r21.Syntax_ a2.n_.Text_).bind fun r46=>cond ((!r46) || ((a2.n_.Kind_ != 4) && (r21.Syntax_ == 4))) (some 2) ((loopO (spec_l3Match_l3 a2 r21 r24) (false,0)).bind fun v50=>(match v50 with | v50=>(spec_l3Said v50).bind fun r51=>some r51))))))))
noncomputable def spec_l3Match_b (rec_spec_l3Match : (I_DirSchema × I_Entry × T_spec_l3F) → Option Int) (a0 : I_DirSchema) (a1 : I_Entry) (a2 : T_spec_l3F) : Option Int :=
  cond (a2.n_.Kind_ == 1) (spec_l3Match_j1 a0 a1 a2 rec_spec_l3Match (a2.n_.Kind_ == 1)) (spec_l3Match_j1 a0 a1 a2 rec_spec_l3Match (a2.n_.Kind_ == 2))
noncomputable def spec_l3Match (a0 : I_DirSchema) (a1 : I_Entry) (a2 : T_spec_l3F) : Option Int:=fixO (fun rec_spec_l3Match x=>match x with | (a0,a1,a2)=>spec_l3Match_b rec_spec_l3Match a0 a1 a2) (a0,a1,a2)
theorem spec_l3Match_pb {rec_spec_l3Match : (I_DirSchema × I_Entry × T_spec_l3F) → Option Int} (Hrec_spec_l3Match : ∀ (b0 : Bool) (b1 : Bool) (b2 : Bool) {a0 : I_DirSchema} {a1 : I_Entry} {a2 : T_spec_l3F} {R0 : Int}, rec_spec_l3Match (a0, a1, a2) = some R0 → Pure Tryz.prog 37 [.agg (c_I_DirSchema b0 a0), .agg (c_I_Entry b1 a1), .agg (c_T_spec_l3F b2 a2)] (.int .i64 R0)) (b0 : Bool) (b1 : Bool) (b2 : Bool) {a0 : I_DirSchema} {a1 : I_Entry} {a2 : T_spec_l3F} {R0 : Int} (H : spec_l3Match_b rec_spec_l3Match a0 a1 a2 = some R0) : Pure Tryz.prog 37 [.agg (c_I_DirSchema b0 a0), .agg (c_I_Entry b1 a1), .agg (c_T_spec_l3F b2 a2)] (.int .i64 R0) := by
 refine CallT.of_TN (n:=206) Tryz.func37 rfl rfl rfl rfl ?_
 refine au 8 ?_
 refine T.conv (Cs.eqS (σ':=[.box (c_I_DirSchema b0 a0),.box (c_I_Entry b1 a1),.box (c_T_spec_l3F b2 a2)]) rfl) ?_
 refine au 13 ?_
 refine T.cut (fun fr' σ'=>∃ (v1 : Bool),fr' = [(3,.bx 0 0),(4,.bx 1 0),(5,.bx 2 0),(7,.bx 3 0),(24,.int .i64 a2.n_.Kind_),(25,.bool v1)] ∧ σ' = [.box (c_I_DirSchema b0 a0),.box (c_I_Entry b1 a1),.box (c_T_spec_l3F b2 a2),.box (c_I_FilterNode b2 a2.n_)] ∧ spec_l3Match_j1 a0 a1 a2 rec_spec_l3Match v1 = some R0) (T.pk ?_) ?_
 ·skip
  refine au 5 ?_
  refine T.cH H ?_ ?_<;>intro H h
  ·refine T.skip ?_
   exact Pk.of (thn_normal ⟨(a2.n_.Kind_ == 1),rfl,rfl,H⟩)
  ·refine au 4 ?_
   exact Pk.of (thn_normal ⟨(a2.n_.Kind_ == 2),rfl,rfl,H⟩)
 ·rintro _ _ ⟨v1, rfl, rfl, H⟩
  refine T.cH H ?_ ?_<;>intro H h
  ·refine au 9 ?_
   refine TL.st rfl rfl rfl (o_lenL (f:=c_raw) rfl rfl rfl) ?_
   refine au 3 ?_
   obtain ⟨v4,h14,H⟩:=bind_s H
   refine T.lq (fun s=>match s with | (v2,v3)=>[(3,.bx 0 0),(4,.bx 1 0),(7,.bx 3 0),(8,.int .i64 v2),(29,.im b2 (a2.kids_.map (c_raw))),(30,.int .i64 (a2.kids_.length : Int)),(31,.int .i64 v3)]) (fun s=>match s with | (v2,v3)=>[.box (c_I_DirSchema b0 a0),.box (c_I_Entry b1 a1),.box (c_T_spec_l3F b2 a2),.box (c_I_FilterNode b2 a2.n_)]) (fun q ex fr σ=>match q with | v4=>ex = .exit 1 ∧ fr = [(7,.bx 3 0),(8,.int .i64 v4)] ∧ σ = [.box (c_I_DirSchema b0 a0),.box (c_I_Entry b1 a1),.box (c_T_spec_l3F b2 a2),.box (c_I_FilterNode b2 a2.n_)]) h14 ?_ ?_
   ·rintro ⟨v2,v3⟩ y5 H
    refine au 5 ?_
    refine T.cH H ?_ ?_<;>intro H h
    ·refine au 5 ?_
     obtain ⟨w7,h8,H⟩:=bind_s H
     obtain ⟨e6,h9,H⟩:=bind_s H
     refine TL.st rfl rfl rfl (o_ixR (f:=c_raw) rfl rfl tyS_80 rfl rfl h8 (dec_T_spec_l3F_s h9) rfl) ?_
     refine au 9 ?_
     obtain ⟨r10,h11,H⟩:=bind_s H
     refine TL.st rfl rfl rfl (o_callP rfl en_37 rfl rfl (.cons _ _ _ _ (Lent.aggL (.cons _ _ _ _ (.imv _ _) (.cons _ _ _ _ (.imv _ _) .nil))) (.cons _ _ _ _ (Lent.aggL (.cons _ _ _ _ (.imv _ _) (.cons _ _ _ _ (.imv _ _) .nil))) (.cons _ _ _ _ (.cl _ rfl) .nil))) (Hrec_spec_l3Match b0 b1 false h11)) ?_
     refine au 2 ?_
     refine T.cut (fun fr' σ'=>∃ (v12 : Int),fr' = [(3,.bx 0 0),(4,.bx 1 0),(7,.bx 3 0),(8,.int .i64 v2),(11,.int .i64 v12),(29,.im b2 (a2.kids_.map (c_raw))),(30,.int .i64 (a2.kids_.length : Int)),(31,.int .i64 v3)] ∧ σ' = [.box (c_I_DirSchema b0 a0),.box (c_I_Entry b1 a1),.box (c_T_spec_l3F b2 a2),.box (c_I_FilterNode b2 a2.n_),.box (c_T_spec_l3F false e6)] ∧ spec_l3Match_j2 v2 v3 v12 = some y5) (T.pk ?_) ?_
     ·skip
      refine au 10 ?_
      refine T.cH H ?_ ?_<;>intro H h
      ·refine au 5 ?_
       exact Pk.of (thn_normal ⟨(IntKind.i64.wrap (1 - r10)),rfl,rfl,H⟩)
      ·refine T.skip ?_
       exact Pk.of (thn_normal ⟨r10,rfl,rfl,H⟩)
     ·rintro _ _ ⟨v12,rfl,rfl,H⟩
      refine au 7 ?_
      refine TL.gcq rfl rfl rfl (.bool _) rfl rfl (fun h=>o_move rfl (gv h rfl)) ?_
      refine TL.gcq rfl rfl rfl (.gd _ _) rfl rfl (fun h=>o_move rfl rfl) ?_
      refine TL.gcq rfl rfl rfl (.gd _ _) rfl rfl (fun h=>o_ari rfl (gv h rfl) rfl rfl) ?_
      refine TL.gcq rfl rfl rfl (.bool _) rfl rfl (fun h=>o_and rfl (gv h rfl) rfl (fun k=>Gd_t (andi h k)) rfl) ?_
      refine au 2 ?_
      refine T.cH H ?_ ?_<;>intro H h
      ·refine au 8 ?_
       exact Pk.of (thn_normal ⟨(v12,(IntKind.i64.wrap (v3 + 1))),(some_i H).symm,rfl,rfl⟩)
      ·refine au 5 ?_
       exact Pk.of (thn_normal ⟨(v2,(IntKind.i64.wrap (v3 + 1))),(some_i H).symm,rfl,rfl⟩)
    ·refine T.exit ?_
     refine thn_exit ?_
     exact Pk.of (thn_exit ⟨v2,(some_i H).symm,rfl,rfl,rfl⟩)
   ·rintro _ _ _ ⟨rfl,rfl,rfl⟩
    refine inB_here ?_
    refine au 11 ?_
    refine T.cH H ?_ ?_<;>intro H h
    ·refine au 11 ?_
     refine inB_ret (thn_ret ?_)
     cases some_i H
     exact ⟨trivial,_,(.tmp _ _ _ _ rfl .nil),(.cl _ rfl)⟩
    ·refine au 7 ?_
     refine inB_ret (thn_ret ?_)
     cases some_i H
     exact ⟨trivial,_,(.tmp _ _ _ _ rfl .nil),(.cl _ rfl)⟩
  ·refine au 5 ?_
   refine T.cH H ?_ ?_<;>intro H h
   ·refine T.seq ?_
    refine T.drawn rfl ?_
    refine ad 4 ?_
    obtain ⟨w16,h17,H⟩:=bind_s H
    obtain ⟨e15,h18,H⟩:=bind_s H
    refine TD.qs rfl rfl (fun _=>o_ixR (f:=c_raw) rfl rfl tyS_80 rfl rfl h17 (dec_T_spec_l3F_s h18) rfl) ?_
    refine TD.qs rfl rfl (fun _=>o_loadRf rfl tyS_80 rfl (nb rfl) rfl) ?_
    obtain ⟨r19,h20,H⟩:=bind_s H
    refine TD.qs rfl rfl (fun _=>o_callP rfl en_37 rfl rfl (.cons _ _ _ _ (Lent.aggL (.cons _ _ _ _ (.imv _ _) (.cons _ _ _ _ (.imv _ _) .nil))) (.cons _ _ _ _ (Lent.aggL (.cons _ _ _ _ (.imv _ _) (.cons _ _ _ _ (.imv _ _) .nil))) (.cons _ _ _ _ (.cl _ rfl) .nil))) (Hrec_spec_l3Match b0 b1 false h20)) ?_
    refine TD.qs rfl rfl (fun _=>o_assign rfl rfl) ?_
    refine TD.nil ⟨rfl,?_⟩
    refine au 6 ?_
    refine T.cH H ?_ ?_<;>intro H h
    ·refine au 6 ?_
     refine thn_ret (inB_ret (thn_ret ?_))
     cases some_i H
     exact ⟨trivial,_,(.tmp _ _ _ _ rfl .nil),(.cl _ rfl)⟩
    ·refine au 8 ?_
     refine inB_ret (thn_ret ?_)
     cases some_i H
     exact ⟨trivial,_,(.tmp _ _ _ _ rfl .nil),(.cl _ rfl)⟩
   ·refine au 6 ?_
    obtain ⟨⟨r21,r22⟩,h23,H⟩:=bind_s H
    refine TL.st rfl rfl rfl (o_callP rfl en_65 rfl rfl (.cons _ _ _ _ (Lent.aggL (.cons _ _ _ _ (.imv _ _) (.cons _ _ _ _ (.imv _ _) .nil))) (.cons _ _ _ _ (.cl _ rfl) .nil)) (spec_l3Type_p b0 h23)) ?_
    refine au 13 ?_
    refine T.cH H ?_ ?_<;>intro H h
    ·refine au 5 ?_
     refine thn_ret ?_
     cases some_i H
     exact ⟨trivial,_,(.tmp _ _ _ _ rfl .nil),(.cl _ rfl)⟩
    ·refine au 6 ?_
     obtain ⟨r24,h25,H⟩:=bind_s H
     refine TL.st rfl rfl rfl (o_callP rfl en_50 rfl rfl (.cons _ _ _ _ (Lent.aggL (.cons _ _ _ _ (.imv _ _) (.cons _ _ _ _ (.imv _ _) .nil))) (.cons _ _ _ _ (.cl _ rfl) .nil)) (spec_l3Values_p b1 h25)) ?_
     refine au 18 ?_
     refine T.cH H ?_ ?_<;>intro H h
     ·refine au 3 ?_
      refine TL.st rfl rfl rfl (o_lenL (f:=c_str) rfl rfl rfl) ?_
      refine TL.st rfl rfl rfl (o_ari rfl rfl rfl rfl) ?_
      obtain ⟨r26,h27,H⟩:=bind_s H
      refine TL.st rfl rfl rfl (o_callP rfl en_83 rfl rfl (.cons _ _ _ _ (.cl _ rfl) .nil) (spec_l3Said_p  h27)) ?_
      refine au 3 ?_
      refine inB_ret (thn_ret ?_)
      cases some_i H
      exact ⟨trivial,_,(.tmp _ _ _ _ rfl .nil),(.cl _ rfl)⟩
     ·refine au 5 ?_
      refine T.cH H ?_ ?_<;>intro H h
      ·refine au 7 ?_
       refine T.cH H ?_ ?_<;>intro H h
       ·refine au 5 ?_
        refine thn_ret (inB_ret (thn_ret ?_))
        cases some_i H
        exact ⟨trivial,_,(.tmp _ _ _ _ rfl .nil),(.cl _ rfl)⟩
       ·refine au 5 ?_
        refine TL.st rfl rfl rfl (o_lenL (f:=c_str) rfl rfl rfl) ?_
        refine au 3 ?_
        obtain ⟨v30,h45,H⟩:=bind_s H
        refine T.lq (fun s=>match s with | (v28,v29)=>[(7,.bx 3 0),(13,.bx 4 0),(16,.bool v28),(110,.im false (r24.map (c_str))),(111,.int .i64 (r24.length : Int)),(112,.int .i64 v29)]) (fun s=>match s with | (v28,v29)=>[.box (c_I_DirSchema b0 a0),.box (c_I_Entry b1 a1),.box (c_T_spec_l3F b2 a2),.box (c_I_FilterNode b2 a2.n_),.box (c_I_AttrType false r21)]) (fun q ex fr σ=>match q with | v30=>ex = .exit 4 ∧ fr = [(16,.bool v30)] ∧ σ = [.box (c_I_DirSchema b0 a0),.box (c_I_Entry b1 a1),.box (c_T_spec_l3F b2 a2),.box (c_I_FilterNode b2 a2.n_),.box (c_I_AttrType false r21)]) h45 ?_ ?_
        ·rintro ⟨v28,v29⟩ y33 H
         refine au 5 ?_
         refine T.cH H ?_ ?_<;>intro H h
         ·refine au 5 ?_
          obtain ⟨e34,h35,H⟩:=bind_s H
          refine TL.st rfl rfl rfl (o_ix (f:=c_str) rfl rfl tyS_9 rfl rfl h35 rfl) ?_
          refine au 9 ?_
          refine T.cH H ?_ ?_<;>intro H h
          ·refine T.drawn rfl ?_
           refine ad 3 ?_
           obtain ⟨r36,h37,H⟩:=bind_s H
           refine TD.cq rfl rfl rfl (.bool _) rfl (fun h _=>o_callP rfl en_85 rfl (evl_1 (gv h rfl)) (.cons _ _ _ _ (.cl _ rfl) .nil) (MT.lib_85  (gdO_t h37 h))) ?_
           refine ad 2 ?_
           obtain ⟨r38,h39,H⟩:=bind_s H
           refine TD.cq rfl rfl rfl (.bool _) rfl (fun h _=>o_callP rfl en_85 rfl (evl_1 (gv h rfl)) (.cons _ _ _ _ (.cl _ rfl) .nil) (MT.lib_85  (gdO_t h39 h))) ?_
           obtain ⟨r40,h41,H⟩:=bind_s H
           refine TD.cq rfl rfl rfl (.bool _) rfl (fun h _=>o_callP rfl en_84 rfl (evl_2 (gv h rfl) (gv h rfl)) (.cons _ _ _ _ (.cl _ rfl) (.cons _ _ _ _ (.cl _ rfl) .nil)) (spec_Like_p  (gdO_t h41 h))) ?_
           refine ad 2 ?_
           refine TD.nil ⟨rfl,?_⟩
           refine au 4 ?_
           exact Pk.of (thn_normal ⟨((v28 || r40),(IntKind.i64.wrap (v29 + 1))),(some_i H).symm,rfl,rfl⟩)
          ·refine au 6 ?_
           obtain ⟨r42,h43,H⟩:=bind_s H
           refine TL.gcq rfl rfl rfl (.bool _) rfl rfl (fun h=>o_callP rfl en_84 rfl (evl_2 (gv h rfl) (gv h rfl)) (.cons _ _ _ _ (.cl _ rfl) (.cons _ _ _ _ (.cl _ rfl) .nil)) (spec_Like_p  (gdO_t h43 h))) ?_
           refine au 7 ?_
           exact Pk.of (thn_normal ⟨((v28 || r42),(IntKind.i64.wrap (v29 + 1))),(some_i H).symm,rfl,rfl⟩)
         ·refine T.exit ?_
          refine thn_exit ?_
          exact Pk.of (thn_exit ⟨v28,(some_i H).symm,rfl,rfl,rfl⟩)
        ·rintro _ _ _ ⟨rfl,rfl,rfl⟩
         refine inB_here ?_
         refine au 3 ?_
         obtain ⟨r31,h32,H⟩:=bind_s H
         refine TL.st rfl rfl rfl (o_callP rfl en_83 rfl rfl (.cons _ _ _ _ (.cl _ rfl) .nil) (spec_l3Said_p  h32)) ?_
         refine au 3 ?_
         refine inB_ret (thn_ret ?_)
         cases some_i H
         exact ⟨trivial,_,(.tmp _ _ _ _ rfl .nil),(.cl _ rfl)⟩
      ·refine au 8 ?_
       obtain ⟨r46,h47,H⟩:=bind_s H
       refine TL.st rfl rfl rfl (o_callP rfl en_86 rfl rfl (.cons _ _ _ _ (.cl _ rfl) (.cons _ _ _ _ (.cl _ rfl) .nil)) (spec_l3Of_p  h47)) ?_
       refine au 5 ?_
       refine TL.gcq rfl rfl rfl (.bool _) rfl rfl (fun h=>o_move rfl (gv h rfl)) ?_
       refine TL.gcq rfl rfl rfl (.gd _ _) rfl rfl (fun h=>o_fieldAddr rfl rfl rfl tyS_3 (by decide) rfl rfl ⟨_,rfl,Nat.le_of_ble_eq_true rfl⟩) ?_
       refine TL.gcq rfl rfl rfl (.gd _ _) rfl rfl (fun h=>o_loadBx rfl tyS_3 (gv h rfl) rfl (nb rfl) rfl) ?_
       refine TL.gcq rfl rfl rfl (.gd _ _) rfl rfl (fun h=>o_ari rfl (gv h rfl) rfl rfl) ?_
       refine TL.gcq rfl rfl rfl (.bool _) rfl rfl (fun h=>o_and rfl (gv h rfl) rfl (fun k=>Gd_t (andi h k)) rfl) ?_
       refine au 2 ?_
       refine T.cH H ?_ ?_<;>intro H h
       ·refine au 5 ?_
        refine thn_ret ?_
        cases some_i H
        exact ⟨trivial,_,(.tmp _ _ _ _ rfl .nil),(.cl _ rfl)⟩
       ·refine au 5 ?_
        refine TL.st rfl rfl rfl (o_lenL (f:=c_str) rfl rfl rfl) ?_
        refine au 3 ?_
        obtain ⟨v50,h65,H⟩:=bind_s H
        refine T.lq (fun s=>match s with | (v48,v49)=>[(7,.bx 3 0),(13,.bx 4 0),(16,.bool v48),(154,.im false (r24.map (c_str))),(155,.int .i64 (r24.length : Int)),(156,.int .i64 v49)]) (fun s=>match s with | (v48,v49)=>[.box (c_I_DirSchema b0 a0),.box (c_I_Entry b1 a1),.box (c_T_spec_l3F b2 a2),.box (c_I_FilterNode b2 a2.n_),.box (c_I_AttrType false r21)]) (fun q ex fr σ=>match q with | v50=>ex = .exit 6 ∧ fr = [(16,.bool v50)] ∧ σ = [.box (c_I_DirSchema b0 a0),.box (c_I_Entry b1 a1),.box (c_T_spec_l3F b2 a2),.box (c_I_FilterNode b2 a2.n_),.box (c_I_AttrType false r21)]) h65 ?_ ?_
        ·rintro ⟨v48,v49⟩ y53 H
         refine au 5 ?_
         refine T.cH H ?_ ?_<;>intro H h
         ·refine au 5 ?_
          obtain ⟨e54,h55,H⟩:=bind_s H
          refine TL.st rfl rfl rfl (o_ix (f:=c_str) rfl rfl tyS_9 rfl rfl h55 rfl) ?_
          refine au 11 ?_
          refine T.cH H ?_ ?_<;>intro H h
          ·refine au 8 ?_
           obtain ⟨r56,h57,H⟩:=bind_s H
           refine TL.gcq rfl rfl rfl (.bool _) rfl rfl (fun h=>o_callP rfl en_87 rfl (evl_3 (gv h rfl) (gv h rfl) (gv h rfl)) (.cons _ _ _ _ (.cl _ rfl) (.cons _ _ _ _ (.cl _ rfl) (.cons _ _ _ _ (.cl _ rfl) .nil))) (spec_l3Same_p  (gdO_t h57 h))) ?_
           refine au 7 ?_
           exact Pk.of (thn_normal ⟨((v48 || r56),(IntKind.i64.wrap (v49 + 1))),(some_i H).symm,rfl,rfl⟩)
          ·refine au 5 ?_
           obtain ⟨r58,h59,H⟩:=bind_s H
           refine TL.st rfl rfl rfl (o_callP rfl en_86 rfl rfl (.cons _ _ _ _ (.cl _ rfl) (.cons _ _ _ _ (.cl _ rfl) .nil)) (spec_l3Of_p  h59)) ?_
           refine au 3 ?_
           refine T.cH H ?_ ?_<;>intro H h
           ·refine au 5 ?_
            exact Pk.of (thn_normal ⟨(v48,(IntKind.i64.wrap (v49 + 1))),(some_i H).symm,rfl,rfl⟩)
           ·refine au 7 ?_
            refine T.cH H ?_ ?_<;>intro H h
            ·refine au 8 ?_
             obtain ⟨r60,h61,H⟩:=bind_s H
             refine TL.gcq rfl rfl rfl (.bool _) rfl rfl (fun h=>o_callP rfl en_88 rfl (evl_3 (gv h rfl) (gv h rfl) (gv h rfl)) (.cons _ _ _ _ (.cl _ rfl) (.cons _ _ _ _ (.cl _ rfl) (.cons _ _ _ _ (.cl _ rfl) .nil))) (spec_l3Below_p  (gdO_t h61 h))) ?_
             refine au 8 ?_
             exact Pk.of (thn_normal ⟨((v48 || decide (r60 ≥ 0)),(IntKind.i64.wrap (v49 + 1))),(some_i H).symm,rfl,rfl⟩)
            ·refine au 8 ?_
             obtain ⟨r62,h63,H⟩:=bind_s H
             refine TL.gcq rfl rfl rfl (.bool _) rfl rfl (fun h=>o_callP rfl en_88 rfl (evl_3 (gv h rfl) (gv h rfl) (gv h rfl)) (.cons _ _ _ _ (.cl _ rfl) (.cons _ _ _ _ (.cl _ rfl) (.cons _ _ _ _ (.cl _ rfl) .nil))) (spec_l3Below_p  (gdO_t h63 h))) ?_
             refine au 8 ?_
             exact Pk.of (thn_normal ⟨((v48 || decide (r62 ≤ 0)),(IntKind.i64.wrap (v49 + 1))),(some_i H).symm,rfl,rfl⟩)
         ·refine T.exit ?_
          refine thn_exit ?_
          exact Pk.of (thn_exit ⟨v48,(some_i H).symm,rfl,rfl,rfl⟩)
        ·rintro _ _ _ ⟨rfl,rfl,rfl⟩
         refine inB_here ?_
         refine au 3 ?_
         obtain ⟨r51,h52,H⟩:=bind_s H
         refine TL.st rfl rfl rfl (o_callP rfl en_83 rfl rfl (.cons _ _ _ _ (.cl _ rfl) .nil) (spec_l3Said_p  h52)) ?_
         refine au 3 ?_
         cases some_i H
         exact ⟨trivial,_,(.tmp _ _ _ _ rfl .nil),(.cl _ rfl)⟩
theorem spec_l3Match_p (b0 : Bool) (b1 : Bool) (b2 : Bool) {a0 : I_DirSchema} {a1 : I_Entry} {a2 : T_spec_l3F} {R0 : Int} (H : spec_l3Match a0 a1 a2 = some R0) : Pure Tryz.prog 37 [.agg (c_I_DirSchema b0 a0),.agg (c_I_Entry b1 a1),.agg (c_T_spec_l3F b2 a2)] (.int .i64 R0) :=
 fixO_ind (fun x r=>match x,r with | (a0,a1,a2),R0=>∀ (b0 : Bool) (b1 : Bool) (b2 : Bool),Pure Tryz.prog 37 [.agg (c_I_DirSchema b0 a0),.agg (c_I_Entry b1 a1),.agg (c_T_spec_l3F b2 a2)] (.int .i64 R0)) (fun rec_spec_l3Match Hrec x r h=>match x,r,h with | (a0,a1,a2),R0,h=>fun b0 b1 b2=>spec_l3Match_pb (fun b0 b1 b2 {a0} {a1} {a2} {R0} h=>Hrec (a0,a1,a2) R0 h b0 b1 b2) b0 b1 b2 h) H b0 b1 b2
noncomputable def spec_MatchFilter (a0 : I_DirSchema) (a1 : I_Entry) (a2 : (List I_FilterNode)) : Option Int :=
  (spec_l3Tree a2).bind fun q=>(match q with | (r1,r2)=>(gdO (!(!r2)) (spec_GoodDirSchema a0)).bind fun r4=>(gdO (!((!r2) || (!r4))) (spec_GoodEntry a1)).bind fun r6=>cond (((!r2) || (!r4)) || (!r6)) (some (-1)) ((spec_l3Match a0 a1 r1).bind fun r8=>some r8))
theorem spec_MatchFilter_p (b0 : Bool) (b1 : Bool) (b2 : Bool) {a0 : I_DirSchema} {a1 : I_Entry} {a2 : (List I_FilterNode)} {R0 : Int} (H : spec_MatchFilter a0 a1 a2 = some R0) : Pure Tryz.prog 8 [.agg (c_I_DirSchema b0 a0),.agg (c_I_Entry b1 a1),.im b2 (a2.map (c_I_FilterNode false))] (.int .i64 R0):=by
 refine CallT.of_TN (n:=30) Tryz.func8 rfl rfl rfl rfl ?_
 refine au 9 ?_
 obtain ⟨⟨r1,r2⟩,h3,H⟩:=bind_s H
 refine TL.st rfl rfl rfl (o_callP rfl en_34 rfl rfl (.cons _ _ _ _ (.imv _ _) .nil) (spec_l3Tree_p b2 h3)) ?_
 refine au 9 ?_
 refine T.conv (Cs.eqS (σ':=[.box (c_I_DirSchema b0 a0),.box (c_I_Entry b1 a1),.box (c_T_spec_l3F false r1)]) rfl) ?_
 refine au 4 ?_
 refine TL.gcq rfl rfl rfl (.bool _) rfl rfl (fun h=>o_loadBx rfl tyS_26 rfl rfl (nb rfl) rfl) ?_
 obtain ⟨r4,h5,H⟩:=bind_s H
 refine TL.gcq rfl rfl rfl (.bool _) rfl rfl (fun h=>o_callP rfl en_35 rfl (evl_1 (gv h rfl)) (.cons _ _ _ _ (Lent.aggL (.cons _ _ _ _ (.imv _ _) (.cons _ _ _ _ (.imv _ _) .nil))) .nil) (spec_GoodDirSchema_p b0 (gdO_t h5 h))) ?_
 refine au 3 ?_
 refine TL.gcq rfl rfl rfl (.bool _) rfl rfl (fun h=>o_loadBx rfl tyS_30 rfl rfl (nb rfl) rfl) ?_
 obtain ⟨r6,h7,H⟩:=bind_s H
 refine TL.gcq rfl rfl rfl (.bool _) rfl rfl (fun h=>o_callP rfl en_36 rfl (evl_1 (gv h rfl)) (.cons _ _ _ _ (Lent.aggL (.cons _ _ _ _ (.imv _ _) (.cons _ _ _ _ (.imv _ _) .nil))) .nil) (spec_GoodEntry_p b1 (gdO_t h7 h))) ?_
 refine au 3 ?_
 refine T.cH H ?_ ?_<;>intro H h
 ·refine au 5 ?_
  refine thn_ret ?_
  cases some_i H
  exact ⟨trivial,_,(.tmp _ _ _ _ rfl .nil),(.cl _ rfl)⟩
 ·refine au 6 ?_
  obtain ⟨r8,h9,H⟩:=bind_s H
  refine TL.st rfl rfl rfl (o_callP rfl en_37 rfl rfl (.cons _ _ _ _ (Lent.aggL (.cons _ _ _ _ (.imv _ _) (.cons _ _ _ _ (.imv _ _) .nil))) (.cons _ _ _ _ (Lent.aggL (.cons _ _ _ _ (.imv _ _) (.cons _ _ _ _ (.imv _ _) .nil))) (.cons _ _ _ _ (.cl _ rfl) .nil))) (spec_l3Match_p b0 b1 false h9)) ?_
  refine au 3 ?_
  cases some_i H
  exact ⟨trivial,_,(.tmp _ _ _ _ rfl .nil),(.cl _ rfl)⟩
theorem en_8 : En Tryz.prog 8:=.of Tryz.func8 rfl rfl
theorem tyS_31 : TyS Tryz.prog 31 false 1:=⟨rfl,rfl⟩
noncomputable def spec_FilterOf_l1 (a1 : (List (List I_FilterNode))) : (List I_FilterNode × Int) → Option ((List I_FilterNode × Int) ⊕ List I_FilterNode):=fun s=>match s with
  | (l1,v2)=>cond (decide (v2 < (a1.length : Int))) ((idx a1 v2).bind fun e5=>(app l1 e5).bind fun l7=>some (.inl (l7,(IntKind.i64.wrap (v2 + 1))))) (some (.inr l1))
noncomputable def spec_FilterOf (a0 : Int) (a1 : (List (List I_FilterNode))) : Option (List I_FilterNode) :=
  (loopO (spec_FilterOf_l1 a1) (([(⟨a0,e0,e0,(a1.length : Int)⟩ : I_FilterNode)] : List I_FilterNode),0)).bind fun l3=>(match l3 with | l3=>some l3)
theorem spec_FilterOf_p (b0 : Bool) {a0 : Int} {a1 : (List (List I_FilterNode))} {R0 : (List I_FilterNode)} (H : spec_FilterOf a0 a1 = some R0) : Pure Tryz.prog 9 [.int .i64 a0,.im b0 (a1.map (c_sl (c_I_FilterNode false)))] (.im false (R0.map (c_I_FilterNode false))):=by
 refine CallT.of_TN (n:=24) Tryz.func9 rfl rfl rfl rfl ?_
 refine au 8 ?_
 refine TL.st rfl rfl rfl (o_lenL (f:=c_sl (c_I_FilterNode false)) rfl rfl rfl) ?_
 refine TL.st rfl rfl rfl (o_build rfl ⟨_,fun _=>rfl,rfl⟩ rfl rfl rfl) ?_
 refine TL.st rfl rfl rfl (o_sliceHd (rows:=([(⟨a0,e0,e0,(a1.length : Int)⟩ : I_FilterNode)] : List I_FilterNode).map (c_I_FilterNode false)) .clo rfl rfl tyS_77 ⟨_,rfl,rfl⟩ (by decide) rfl rfl rfl rfl (by decide) (fun _=>rfl) (by decide) rfl (by decide)) ?_
 refine au 6 ?_
 refine TL.st rfl rfl rfl (o_lenL (f:=c_sl (c_I_FilterNode false)) rfl rfl rfl) ?_
 refine au 3 ?_
 obtain ⟨l3,h10,H⟩:=bind_s H
 refine T.lq (fun s=>match s with | (l1,v2)=>[(5,.hd 0 (l1.map (c_I_FilterNode false)).length 0 (l1.map (c_I_FilterNode false)).length),(13,.im b0 (a1.map (c_sl (c_I_FilterNode false)))),(14,.int .i64 (a1.length : Int)),(15,.int .i64 v2)]) (fun s=>match s with | (l1,v2)=>[.arr .clo 4 (l1.map (c_I_FilterNode false))]) (fun q ex fr σ=>match q with | l3=>ex = .exit 0 ∧ fr = [(5,.hd 0 (l3.map (c_I_FilterNode false)).length 0 (l3.map (c_I_FilterNode false)).length)] ∧ σ = [.arr .clo 4 (l3.map (c_I_FilterNode false))]) h10 ?_ ?_
 ·rintro ⟨l1,v2⟩ y4 H
  refine au 5 ?_
  refine T.cH H ?_ ?_<;>intro H h
  ·refine au 5 ?_
   obtain ⟨e5,h6,H⟩:=bind_s H
   refine TL.st rfl rfl rfl (o_ix (f:=c_sl (c_I_FilterNode false)) rfl rfl tyS_31 rfl rfl h6 rfl) ?_
   refine au 6 ?_
   obtain ⟨l7,h8,H⟩:=bind_s H
   refine TL.st rfl rfl rfl (o_ap (f:=c_I_FilterNode false) (xs:=l1) (ys:=e5) rfl rfl tyE_77 rfl rfl rfl rfl (by decide) rfl (fun _=>rfl) h8) ?_
   refine au 6 ?_
   exact Pk.of (thn_normal ⟨(l7,(IntKind.i64.wrap (v2 + 1))),(some_i H).symm,rfl,rfl⟩)
  ·refine T.exit ?_
   refine thn_exit ?_
   exact Pk.of (thn_exit ⟨l1,(some_i H).symm,rfl,rfl,rfl⟩)
 ·rintro _ _ _ ⟨rfl,rfl,rfl⟩
  refine inB_here ?_
  refine au 6 ?_
  cases some_i H
  exact ⟨trivial,_,(.tmp _ _ _ _ rfl .nil),(.own rfl (by decide) rfl)⟩
theorem en_9 : En Tryz.prog 9:=.of Tryz.func9 rfl rfl
noncomputable def spec_GoodFilter (a0 : (List I_FilterNode)) : Option Bool :=
  (spec_l3Tree a0).bind fun q=>(match q with | (r1,r2)=>some r2)
theorem spec_GoodFilter_p (b0 : Bool) {a0 : (List I_FilterNode)} {R0 : Bool} (H : spec_GoodFilter a0 = some R0) : Pure Tryz.prog 10 [.im b0 (a0.map (c_I_FilterNode false))] (.bool R0):=by
 refine CallT.of_TN (n:=11) Tryz.func10 rfl rfl rfl rfl ?_
 refine au 7 ?_
 obtain ⟨⟨r1,r2⟩,h3,H⟩:=bind_s H
 refine TL.st rfl rfl rfl (o_callP rfl en_34 rfl rfl (.cons _ _ _ _ (.imv _ _) .nil) (spec_l3Tree_p b0 h3)) ?_
 refine au 13 ?_
 cases some_i H
 exact ⟨trivial,_,(.tmp _ _ _ _ rfl .nil),(.cl _ rfl)⟩
theorem en_10 : En Tryz.prog 10:=.of Tryz.func10 rfl rfl
noncomputable def spec_l8Not (a0 : Int) : Option Int :=
  cond (a0 == 1) (some 0) (cond (a0 == 0) (some 1) (some a0))
theorem spec_l8Not_p  {a0 : Int} {R0 : Int} (H : spec_l8Not a0 = some R0) : Pure Tryz.prog 38 [.int .i64 a0] (.int .i64 R0):=by
 refine CallT.of_TN (n:=9) Tryz.func38 rfl rfl rfl rfl ?_
 refine au 15 ?_
 refine T.cH H ?_ ?_<;>intro H h
 ·refine au 5 ?_
  refine inB_ret (thn_ret ?_)
  cases some_i H
  exact ⟨trivial,_,(.tmp _ _ _ _ rfl .nil),(.cl _ rfl)⟩
 ·refine au 5 ?_
  refine T.cH H ?_ ?_<;>intro H h
  ·refine au 5 ?_
   refine inB_ret (thn_ret ?_)
   cases some_i H
   exact ⟨trivial,_,(.tmp _ _ _ _ rfl .nil),(.cl _ rfl)⟩
  ·refine au 7 ?_
   cases some_i H
   exact ⟨trivial,_,(.tmp _ _ _ _ rfl .nil),(.cl _ rfl)⟩
theorem en_38 : En Tryz.prog 38:=.of Tryz.func38 rfl rfl
noncomputable def spec_Turned (a0 : Int) : Option Int :=
  (spec_l8Not a0).bind fun r1=>some r1
theorem spec_Turned_p  {a0 : Int} {R0 : Int} (H : spec_Turned a0 = some R0) : Pure Tryz.prog 11 [.int .i64 a0] (.int .i64 R0):=by
 refine CallT.of_TN (n:=5) Tryz.func11 rfl rfl rfl rfl ?_
 refine au 7 ?_
 obtain ⟨r1,h2,H⟩:=bind_s H
 refine TL.st rfl rfl rfl (o_callP rfl en_38 rfl rfl (.cons _ _ _ _ (.cl _ rfl) .nil) (spec_l8Not_p  h2)) ?_
 refine au 3 ?_
 cases some_i H
 exact ⟨trivial,_,(.tmp _ _ _ _ rfl .nil),(.cl _ rfl)⟩
theorem en_11 : En Tryz.prog 11:=.of Tryz.func11 rfl rfl
noncomputable def laws_FnMatched (a0 : (List Int)) (a1 : (List Int)) : Option Bool :=
  cond (decide ((a0.length : Int) > 1048576) || decide ((a1.length : Int) > 1048576)) (some true) ((spec_DrawMatchFilter a0).bind fun q=>(match q with | (r1,r2,r3)=>(spec_DrawMatchFilter a1).bind fun q=>(match q with | (r5,r6,r7)=>(impl_MatchFilter r1 r2 r3).bind fun r9=>(spec_MatchFilter r1 r2 r3).bind fun r11=>cond (r9 != r11) (some false) ((spec_FilterOf 3 ([r3] : List (List I_FilterNode))).bind fun r13=>(gdO (decide (r9 ≥ 0)) (spec_GoodFilter r13)).bind fun r15=>(gdO (decide (r9 ≥ 0) && r15) (impl_MatchFilter r1 r2 r13)).bind fun r17=>(gdO (decide (r9 ≥ 0) && r15) (spec_Turned r9)).bind fun r19=>cond ((decide (r9 ≥ 0) && r15) && (r17 != r19)) (some false) ((spec_FilterOf 1 ([r3,r7] : List (List I_FilterNode))).bind fun r21=>(spec_FilterOf 3 ([r21] : List (List I_FilterNode))).bind fun r23=>(spec_FilterOf 3 ([r7] : List (List I_FilterNode))).bind fun r25=>(spec_FilterOf 2 ([r13,r25] : List (List I_FilterNode))).bind fun r27=>(spec_GoodFilter r3).bind fun r29=>(gdO (!(!r29)) (spec_GoodFilter r7)).bind fun r31=>(gdO (!((!r29) || (!r31))) (spec_GoodFilter r23)).bind fun r33=>(gdO (!(((!r29) || (!r31)) || (!r33))) (spec_GoodFilter r27)).bind fun r35=>cond ((((!r29) || (!r31)) || (!r33)) || (!r35)) (some true) ((impl_MatchFilter r1 r2 r23).bind fun r37=>(impl_MatchFilter r1 r2 r27).bind fun r39=>some (r37 == r39)))))))
theorem laws_FnMatched_p (b0 : Bool) (b1 : Bool) {a0 : (List Int)} {a1 : (List Int)} {R0 : Bool} (H : laws_FnMatched a0 a1 = some R0) : Pure Tryz.prog 3 [.im b0 (a0.map (c_int .u8)),.im b1 (a1.map (c_int .u8))] (.bool R0):=by
 refine CallT.of_TN (n:=102) Tryz.func3 rfl rfl rfl rfl ?_
 refine au 8 ?_
 refine TL.st rfl rfl rfl (o_lenL (f:=c_int .u8) rfl rfl rfl) ?_
 refine au 3 ?_
 refine TL.gcq rfl rfl rfl (.bool _) rfl rfl (fun h=>o_lenL (f:=c_int .u8) rfl rfl (gv h rfl)) ?_
 refine au 3 ?_
 refine T.cH H ?_ ?_<;>intro H h
 ·refine au 5 ?_
  refine thn_ret ?_
  cases some_i H
  exact ⟨trivial,_,(.tmp _ _ _ _ rfl .nil),(.cl _ rfl)⟩
 ·refine au 4 ?_
  obtain ⟨⟨r1,r2,r3⟩,h4,H⟩:=bind_s H
  refine TL.st rfl rfl rfl (o_callP rfl en_6 rfl rfl (.cons _ _ _ _ (.imv _ _) .nil) (spec_DrawMatchFilter_p b0 h4)) ?_
  refine au 11 ?_
  refine T.conv (Cs.eqS (σ':=[.box (c_I_DirSchema false r1),.box (c_I_Entry false r2)]) rfl) ?_
  refine au 2 ?_
  obtain ⟨⟨r5,r6,r7⟩,h8,H⟩:=bind_s H
  refine TL.st rfl rfl rfl (o_callP rfl en_6 rfl rfl (.cons _ _ _ _ (.imv _ _) .nil) (spec_DrawMatchFilter_p b1 h8)) ?_
  refine au 11 ?_
  refine T.conv (Cs.eqS (σ':=[_,_,.box (c_I_DirSchema false r5),.box (c_I_Entry false r6)]) rfl) ?_
  refine au 4 ?_
  obtain ⟨r9,h10,H⟩:=bind_s H
  refine TL.st rfl rfl rfl (o_callP rfl en_7 rfl rfl (.cons _ _ _ _ (.cl _ rfl) (.cons _ _ _ _ (.cl _ rfl) (.cons _ _ _ _ (.cl _ rfl) .nil))) (impl_MatchFilter_p false false false h10)) ?_
  refine au 9 ?_
  obtain ⟨r11,h12,H⟩:=bind_s H
  refine TL.st rfl rfl rfl (o_callP rfl en_8 rfl rfl (.cons _ _ _ _ (.cl _ rfl) (.cons _ _ _ _ (.cl _ rfl) (.cons _ _ _ _ (.cl _ rfl) .nil))) (spec_MatchFilter_p false false false h12)) ?_
  refine au 2 ?_
  refine T.cH H ?_ ?_<;>intro H h
  ·refine au 5 ?_
   refine thn_ret ?_
   cases some_i H
   exact ⟨trivial,_,(.tmp _ _ _ _ rfl .nil),(.cl _ rfl)⟩
  ·refine au 4 ?_
   refine TL.st rfl rfl rfl (o_sliceIm (rows:=([r3] : List (List I_FilterNode)).map (c_sl (c_I_FilterNode false))) rfl rfl tyS_31 ⟨_,rfl,rfl⟩ (by decide) rfl rfl rfl rfl rfl rfl) ?_
   obtain ⟨r13,h14,H⟩:=bind_s H
   refine TL.st rfl rfl rfl (o_callP rfl en_9 rfl rfl (.cons _ _ _ _ (.cl _ rfl) (.cons _ _ _ _ (.cl _ rfl) .nil)) (spec_FilterOf_p false h14)) ?_
   refine au 9 ?_
   obtain ⟨r15,h16,H⟩:=bind_s H
   refine TL.gcq rfl rfl rfl (.bool _) rfl rfl (fun h=>o_callP rfl en_10 rfl (evl_1 (gv h rfl)) (.cons _ _ _ _ (.cl _ rfl) .nil) (spec_GoodFilter_p false (gdO_t h16 h))) ?_
   refine au 2 ?_
   refine TL.gcq rfl rfl rfl (.bool _) rfl rfl (fun h=>o_loadBx rfl tyS_26 rfl rfl (nb rfl) rfl) ?_
   refine TL.gcq rfl rfl rfl (.bool _) rfl rfl (fun h=>o_loadBx rfl tyS_30 rfl rfl (nb rfl) rfl) ?_
   refine TL.gcq rfl rfl rfl (.bool _) rfl rfl (fun h=>o_move rfl rfl) ?_
   obtain ⟨r17,h18,H⟩:=bind_s H
   refine TL.gcq rfl rfl rfl (.bool _) rfl rfl (fun h=>o_callP rfl en_7 rfl (evl_3 (gv h rfl) (gv h rfl) (gv h rfl)) (.cons _ _ _ _ (.cl _ rfl) (.cons _ _ _ _ (.cl _ rfl) (.cons _ _ _ _ (.cl _ rfl) .nil))) (impl_MatchFilter_p false false false (gdO_t h18 h))) ?_
   refine TL.gcq rfl rfl rfl (.bool _) rfl rfl (fun h=>o_move rfl rfl) ?_
   obtain ⟨r19,h20,H⟩:=bind_s H
   refine TL.gcq rfl rfl rfl (.bool _) rfl rfl (fun h=>o_callP rfl en_11 rfl (evl_1 (gv h rfl)) (.cons _ _ _ _ (.cl _ rfl) .nil) (spec_Turned_p  (gdO_t h20 h))) ?_
   refine TL.gcq rfl rfl rfl (.bool _) rfl rfl (fun h=>o_ari rfl (gv h rfl) (gv h rfl) rfl) ?_
   refine au 2 ?_
   refine T.cH H ?_ ?_<;>intro H h
   ·refine au 5 ?_
    refine thn_ret ?_
    cases some_i H
    exact ⟨trivial,_,(.tmp _ _ _ _ rfl .nil),(.cl _ rfl)⟩
   ·refine au 5 ?_
    refine TL.st rfl rfl rfl (o_sliceIm (rows:=([r3,r7] : List (List I_FilterNode)).map (c_sl (c_I_FilterNode false))) rfl rfl tyS_31 ⟨_,rfl,rfl⟩ (by decide) rfl rfl rfl rfl rfl rfl) ?_
    obtain ⟨r21,h22,H⟩:=bind_s H
    refine TL.st rfl rfl rfl (o_callP rfl en_9 rfl rfl (.cons _ _ _ _ (.cl _ rfl) (.cons _ _ _ _ (.cl _ rfl) .nil)) (spec_FilterOf_p false h22)) ?_
    refine TL.st rfl rfl rfl (o_sliceIm (rows:=([r21] : List (List I_FilterNode)).map (c_sl (c_I_FilterNode false))) rfl rfl tyS_31 ⟨_,rfl,rfl⟩ (by decide) rfl rfl rfl rfl rfl rfl) ?_
    obtain ⟨r23,h24,H⟩:=bind_s H
    refine TL.st rfl rfl rfl (o_callP rfl en_9 rfl rfl (.cons _ _ _ _ (.cl _ rfl) (.cons _ _ _ _ (.cl _ rfl) .nil)) (spec_FilterOf_p false h24)) ?_
    refine au 6 ?_
    refine TL.st rfl rfl rfl (o_sliceIm (rows:=([r7] : List (List I_FilterNode)).map (c_sl (c_I_FilterNode false))) rfl rfl tyS_31 ⟨_,rfl,rfl⟩ (by decide) rfl rfl rfl rfl rfl rfl) ?_
    obtain ⟨r25,h26,H⟩:=bind_s H
    refine TL.st rfl rfl rfl (o_callP rfl en_9 rfl rfl (.cons _ _ _ _ (.cl _ rfl) (.cons _ _ _ _ (.cl _ rfl) .nil)) (spec_FilterOf_p false h26)) ?_
    refine TL.st rfl rfl rfl (o_sliceIm (rows:=([r13,r25] : List (List I_FilterNode)).map (c_sl (c_I_FilterNode false))) rfl rfl tyS_31 ⟨_,rfl,rfl⟩ (by decide) rfl rfl rfl rfl rfl rfl) ?_
    obtain ⟨r27,h28,H⟩:=bind_s H
    refine TL.st rfl rfl rfl (o_callP rfl en_9 rfl rfl (.cons _ _ _ _ (.cl _ rfl) (.cons _ _ _ _ (.cl _ rfl) .nil)) (spec_FilterOf_p false h28)) ?_
    refine au 6 ?_
    obtain ⟨r29,h30,H⟩:=bind_s H
    refine TL.st rfl rfl rfl (o_callP rfl en_10 rfl rfl (.cons _ _ _ _ (.cl _ rfl) .nil) (spec_GoodFilter_p false h30)) ?_
    refine au 3 ?_
    obtain ⟨r31,h32,H⟩:=bind_s H
    refine TL.gcq rfl rfl rfl (.bool _) rfl rfl (fun h=>o_callP rfl en_10 rfl (evl_1 (gv h rfl)) (.cons _ _ _ _ (.cl _ rfl) .nil) (spec_GoodFilter_p false (gdO_t h32 h))) ?_
    refine au 4 ?_
    obtain ⟨r33,h34,H⟩:=bind_s H
    refine TL.gcq rfl rfl rfl (.bool _) rfl rfl (fun h=>o_callP rfl en_10 rfl (evl_1 (gv h rfl)) (.cons _ _ _ _ (.cl _ rfl) .nil) (spec_GoodFilter_p false (gdO_t h34 h))) ?_
    refine au 4 ?_
    obtain ⟨r35,h36,H⟩:=bind_s H
    refine TL.gcq rfl rfl rfl (.bool _) rfl rfl (fun h=>o_callP rfl en_10 rfl (evl_1 (gv h rfl)) (.cons _ _ _ _ (.cl _ rfl) .nil) (spec_GoodFilter_p false (gdO_t h36 h))) ?_
    refine au 3 ?_
    refine T.cH H ?_ ?_<;>intro H h
    ·refine au 5 ?_
     refine thn_ret ?_
     cases some_i H
     exact ⟨trivial,_,(.tmp _ _ _ _ rfl .nil),(.cl _ rfl)⟩
    ·refine au 2 ?_
     refine T.drawn rfl ?_
     refine ad 3 ?_
     obtain ⟨r37,h38,H⟩:=bind_s H
     refine TD.qs rfl rfl (fun _=>o_callP rfl en_7 rfl rfl (.cons _ _ _ _ (.cl _ rfl) (.cons _ _ _ _ (.cl _ rfl) (.cons _ _ _ _ (.cl _ rfl) .nil))) (impl_MatchFilter_p false false false h38)) ?_
     refine ad 3 ?_
     obtain ⟨r39,h40,H⟩:=bind_s H
     refine TD.qs rfl rfl (fun _=>o_callP rfl en_7 rfl rfl (.cons _ _ _ _ (.cl _ rfl) (.cons _ _ _ _ (.cl _ rfl) (.cons _ _ _ _ (.cl _ rfl) .nil))) (impl_MatchFilter_p false false false h40)) ?_
     refine ad 2 ?_
     refine TD.nil ⟨rfl,?_⟩
     refine T.ret ?_
     cases some_i H
     exact ⟨trivial,_,(.tmp _ _ _ _ rfl .nil),(.cl _ rfl)⟩
end Go.G36.MT
