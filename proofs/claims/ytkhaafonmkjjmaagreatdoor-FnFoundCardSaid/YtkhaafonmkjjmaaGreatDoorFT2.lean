import Derived.Test.YtkhaafonmkjjmaaGreatDoorFT1
set_option linter.all false
set_option maxRecDepth 20000
set_option maxHeartbeats 4000000
namespace Go.G36.FT
open Go Go.Proofs Go.G36.MT
theorem impl_GoodDirSchema_p (b0 : Bool) {a0 : I_DirSchema} {R0 : Bool} (H : impl_GoodDirSchema a0 = some R0) : Pure Tryz.prog 30 [.agg (c_I_DirSchema b0 a0)] (.bool R0) := by
 refine CallT.of_TN (n:=165) Tryz.func30 rfl rfl rfl rfl ?_
 refine au 10 ?_
 refine TL.st rfl rfl rfl (o_lenL (f:=c_I_AttrType false) rfl rfl rfl) ?_
 refine au 4 ?_
 refine TL.gcq rfl rfl rfl (.bool _) rfl rfl (fun h=>o_lenL (f:=c_I_Class false) rfl rfl (gv h rfl)) ?_
 refine au 3 ?_
 refine T.cH H ?_ ?_<;>intro H h
 ·refine au 5 ?_
  refine thn_ret ?_
  cases some_i H
  exact ⟨trivial,_,(.tmp _ _ _ _ rfl .nil),(.cl _ rfl)⟩
 ·refine au 6 ?_
  refine TL.st rfl rfl rfl (o_lenL (f:=c_I_AttrType false) rfl rfl rfl) ?_
  refine au 3 ?_
  obtain ⟨q53,h54,H⟩:=bind_s H
  refine T.lq (fun s=>match s with | v1=>[(1,.bx 0 0),(29,.im b0 (a0.Types_.map (c_I_AttrType false))),(30,.int .i64 (a0.Types_.length : Int)),(31,.int .i64 v1)]) (fun s=>match s with | v1=>[.box (c_I_DirSchema b0 a0)]) (fun q ex fr σ=>match q with | .inl _=>ex = .exit 0 ∧ fr = [(1,.bx 0 0)] ∧ σ = [.box (c_I_DirSchema b0 a0)] | .inr q2=>ex = .ret ∧ RetN Tryz.prog [.tmp 2] (fun v τ=>Told τ v (.bool q2)) .ret fr σ) h54 ?_ ?_
  ·rintro v1 y46 H
   refine au 5 ?_
   refine T.cH H ?_ ?_<;>intro H h
   ·refine au 6 ?_
    obtain ⟨e47,h48,H⟩:=bind_s H
    refine TL.st rfl rfl rfl (o_ix (f:=c_I_AttrType false) rfl rfl tyS_106 rfl rfl h48 rfl) ?_
    refine au 6 ?_
    refine T.drawn rfl ?_
    refine ad 2 ?_
    obtain ⟨r49,h50,H⟩:=bind_s H
    refine TD.qs rfl rfl (fun _=>o_callP rfl en_55 rfl rfl (.cons _ _ _ _ (.cl _ rfl) .nil) (impl_GoodName_p  h50)) ?_
    refine ad 3 ?_
    refine TD.cq rfl rfl rfl (.bool _) rfl (fun h _=>o_ari rfl (gv h rfl) rfl rfl) ?_
    refine TD.cq rfl rfl rfl (.bool _) rfl (fun h _=>o_move rfl (gv h rfl)) ?_
    refine TD.cr rfl rfl rfl (.gd _ _) rfl (fun h=>o_fieldAddr rfl rfl rfl tyS_23 (by decide) rfl rfl ⟨_,rfl,Nat.le_of_ble_eq_true rfl⟩) ?_
    refine TD.cr rfl rfl rfl (.gd _ _) rfl (fun h=>o_loadBx rfl tyS_23 (gv h rfl) rfl (nb rfl) rfl) ?_
    refine TD.cq rfl rfl rfl (.gd _ _) rfl (fun h _=>o_move rfl rfl) ?_
    refine TD.cq rfl rfl rfl (.gd _ _) rfl (fun h _=>o_ari rfl (gv h rfl) rfl rfl) ?_
    obtain ⟨e51,h52,H⟩:=bind_s H
    refine TD.cq rfl rfl rfl (.gd _ _) rfl (fun h _=>o_ix (f:=c_I_AttrType false) rfl rfl tyS_106 (gv h rfl) (gv h rfl) (gdO_t h52 h) rfl) ?_
    refine TD.cq rfl rfl rfl (.gd _ _) rfl (fun h _=>o_fieldAddr rfl rfl rfl tyS_9 (by decide) (gv h rfl) rfl trivial) ?_
    refine TD.cq rfl rfl rfl (.gd _ _) rfl (fun h _=>o_loadRf rfl tyS_9 (gv h rfl) (nb rfl) rfl) ?_
    refine TD.cr rfl rfl rfl (.gd _ _) rfl (fun h=>o_fieldAddr rfl rfl rfl tyS_9 (by decide) rfl rfl ⟨_,rfl,Nat.le_of_ble_eq_true rfl⟩) ?_
    refine TD.cr rfl rfl rfl (.gd _ _) rfl (fun h=>o_loadBx rfl tyS_9 (gv h rfl) rfl (nb rfl) rfl) ?_
    refine TD.cq rfl rfl rfl (.gd _ _) rfl (fun h _=>o_str rfl (gv h rfl) (gv h rfl) rfl) ?_
    refine TD.cq rfl rfl rfl (.bool _) rfl (fun h _=>o_and rfl (gv h rfl) rfl (fun k=>Gd_t (andi h k)) rfl) ?_
    refine ad 4 ?_
    refine TD.cq rfl rfl rfl (.bool _) rfl (fun h _=>o_ari rfl (gv h rfl) rfl rfl) ?_
    refine ad 4 ?_
    refine TD.cq rfl rfl rfl (.bool _) rfl (fun h _=>o_ari rfl (gv h rfl) rfl rfl) ?_
    refine TD.qs rfl rfl (fun _=>o_or rfl rfl rfl rfl (fun k=>Gd_t k)) ?_
    refine TD.nil ⟨rfl,?_⟩
    refine thn_normal ?_
    refine T.cH H ?_ ?_<;>intro H h
    ·refine au 5 ?_
     refine inB_ret (thn_ret ?_)
     exact Pk.id (thn_ret ⟨.inr false,(some_i H).symm,rfl,⟨trivial,_,(.tmp _ _ _ _ rfl .nil),(.cl _ rfl)⟩⟩)
    ·refine au 5 ?_
     exact Pk.of (thn_normal ⟨(IntKind.i64.wrap (v1 + 1)),(some_i H).symm,rfl,rfl⟩)
   ·refine T.exit ?_
    refine thn_exit ?_
    exact Pk.of (thn_exit ⟨.inl (),(some_i H).symm,rfl,rfl,rfl⟩)
  ·rcases q53 with ⟨⟩ | q2
   ·rintro _ _ _ ⟨rfl, rfl, rfl⟩
    refine inB_here ?_
    refine au 4 ?_
    obtain ⟨⟨r3,r4⟩,h5,H⟩:=bind_s H
    refine TL.st rfl rfl rfl (o_callP rfl en_68 rfl rfl (.cons _ _ _ _ (Lent.aggL (.cons _ _ _ _ (.imv _ _) (.cons _ _ _ _ (.imv _ _) .nil))) (.cons _ _ _ _ (.cl _ rfl) .nil)) (impl_DirSchema_yattrType_p b0 h5)) ?_
    refine au 21 ?_
    refine T.cH H ?_ ?_<;>intro H h
    ·refine au 5 ?_
     refine thn_ret ?_
     cases some_i H
     exact ⟨trivial,_,(.tmp _ _ _ _ rfl .nil),(.cl _ rfl)⟩
    ·refine au 6 ?_
     refine TL.st rfl rfl rfl (o_lenL (f:=c_I_Class false) rfl rfl rfl) ?_
     refine au 3 ?_
     obtain ⟨q44,h45,H⟩:=bind_s H
     refine T.lq (fun s=>match s with | v6=>[(1,.bx 0 0),(84,.im b0 (a0.Classes_.map (c_I_Class false))),(85,.int .i64 (a0.Classes_.length : Int)),(86,.int .i64 v6)]) (fun s=>match s with | v6=>[.box (c_I_DirSchema b0 a0),.box (c_I_AttrType false r3)]) (fun q ex fr σ=>match q with | .inl _=>ex = .exit 2 ∧ fr = [] ∧ σ = [.box (c_I_DirSchema b0 a0),.box (c_I_AttrType false r3)] | .inr q7=>ex = .ret ∧ RetN Tryz.prog [.tmp 2] (fun v τ=>Told τ v (.bool q7)) .ret fr σ) h45 ?_ ?_
     ·rintro v6 y8 H
      refine au 5 ?_
      refine T.cH H ?_ ?_<;>intro H h
      ·refine au 6 ?_
       obtain ⟨e9,h10,H⟩:=bind_s H
       refine TL.st rfl rfl rfl (o_ix (f:=c_I_Class false) rfl rfl tyS_108 rfl rfl h10 rfl) ?_
       refine au 7 ?_
       refine T.drawn rfl ?_
       refine ad 2 ?_
       obtain ⟨r11,h12,H⟩:=bind_s H
       refine TD.qs rfl rfl (fun _=>o_callP rfl en_55 rfl rfl (.cons _ _ _ _ (.cl _ rfl) .nil) (impl_GoodName_p  h12)) ?_
       refine ad 3 ?_
       refine TD.cq rfl rfl rfl (.bool _) rfl (fun h _=>o_ari rfl (gv h rfl) rfl rfl) ?_
       refine TD.cq rfl rfl rfl (.bool _) rfl (fun h _=>o_move rfl (gv h rfl)) ?_
       refine TD.cr rfl rfl rfl (.gd _ _) rfl (fun h=>o_fieldAddr rfl rfl rfl tyS_24 (by decide) rfl rfl ⟨_,rfl,Nat.le_of_ble_eq_true rfl⟩) ?_
       refine TD.cr rfl rfl rfl (.gd _ _) rfl (fun h=>o_loadBx rfl tyS_24 (gv h rfl) rfl (nb rfl) rfl) ?_
       refine TD.cq rfl rfl rfl (.gd _ _) rfl (fun h _=>o_move rfl rfl) ?_
       refine TD.cq rfl rfl rfl (.gd _ _) rfl (fun h _=>o_ari rfl (gv h rfl) rfl rfl) ?_
       obtain ⟨e13,h14,H⟩:=bind_s H
       refine TD.cq rfl rfl rfl (.gd _ _) rfl (fun h _=>o_ix (f:=c_I_Class false) rfl rfl tyS_108 (gv h rfl) (gv h rfl) (gdO_t h14 h) rfl) ?_
       refine TD.cq rfl rfl rfl (.gd _ _) rfl (fun h _=>o_fieldAddr rfl rfl rfl tyS_9 (by decide) (gv h rfl) rfl trivial) ?_
       refine TD.cq rfl rfl rfl (.gd _ _) rfl (fun h _=>o_loadRf rfl tyS_9 (gv h rfl) (nb rfl) rfl) ?_
       refine TD.cr rfl rfl rfl (.gd _ _) rfl (fun h=>o_fieldAddr rfl rfl rfl tyS_9 (by decide) rfl rfl ⟨_,rfl,Nat.le_of_ble_eq_true rfl⟩) ?_
       refine TD.cr rfl rfl rfl (.gd _ _) rfl (fun h=>o_loadBx rfl tyS_9 (gv h rfl) rfl (nb rfl) rfl) ?_
       refine TD.cq rfl rfl rfl (.gd _ _) rfl (fun h _=>o_str rfl (gv h rfl) (gv h rfl) rfl) ?_
       refine TD.cq rfl rfl rfl (.bool _) rfl (fun h _=>o_and rfl (gv h rfl) rfl (fun k=>Gd_t (andi h k)) rfl) ?_
       refine TD.qs rfl rfl (fun _=>o_or rfl rfl rfl rfl (fun k=>Gd_t k)) ?_
       refine TD.nil ⟨rfl,?_⟩
       refine thn_normal ?_
       refine T.cH H ?_ ?_<;>intro H h
       ·refine au 5 ?_
        refine thn_ret (inB_ret (thn_ret ?_))
        exact Pk.id (thn_ret ⟨.inr false,(some_i H).symm,rfl,⟨trivial,_,(.tmp _ _ _ _ rfl .nil),(.cl _ rfl)⟩⟩)
       ·refine au 8 ?_
        refine TL.st rfl rfl rfl (o_sliceIm (rows:=([e9.Must_,e9.May_] : List (List ByteArray)).map (c_sl (c_str))) rfl rfl tyS_43 ⟨_,rfl,rfl⟩ (by decide) rfl rfl rfl rfl rfl rfl) ?_
        refine TL.st rfl rfl rfl (o_lenL (f:=c_sl (c_str)) rfl rfl rfl) ?_
        refine au 3 ?_
        obtain ⟨q42,h43,H⟩:=bind_s H
        refine T.lq (fun s=>match s with | v15=>[(1,.bx 0 0),(8,.bx 2 0),(84,.im b0 (a0.Classes_.map (c_I_Class false))),(85,.int .i64 (a0.Classes_.length : Int)),(86,.int .i64 v6),(115,.im false (([e9.Must_,e9.May_] : List (List ByteArray)).map (c_sl (c_str)))),(116,.int .i64 (([e9.Must_,e9.May_] : List (List ByteArray)).length : Int)),(117,.int .i64 v15)]) (fun s=>match s with | v15=>[.box (c_I_DirSchema b0 a0),.box (c_I_AttrType false r3),.box (c_I_Class false e9)]) (fun q ex fr σ=>match q with | .inl _=>ex = .exit 4 ∧ fr = [(1,.bx 0 0),(8,.bx 2 0),(84,.im b0 (a0.Classes_.map (c_I_Class false))),(85,.int .i64 (a0.Classes_.length : Int)),(86,.int .i64 v6)] ∧ σ = [.box (c_I_DirSchema b0 a0),.box (c_I_AttrType false r3),.box (c_I_Class false e9)] | .inr q16=>ex = .ret ∧ RetN Tryz.prog [.tmp 2] (fun v τ=>Told τ v (.bool q16)) .ret fr σ) h43 ?_ ?_
        ·rintro v15 y27 H
         refine au 5 ?_
         refine T.cH H ?_ ?_<;>intro H h
         ·refine au 5 ?_
          obtain ⟨e28,h29,H⟩:=bind_s H
          refine TL.st rfl rfl rfl (o_ix (f:=c_sl (c_str)) rfl rfl tyS_43 rfl rfl h29 rfl) ?_
          refine au 7 ?_
          refine TL.st rfl rfl rfl (o_lenL (f:=c_str) rfl rfl rfl) ?_
          refine au 3 ?_
          obtain ⟨r30,h31,H⟩:=bind_s H
          refine TL.gcq rfl rfl rfl (.bool _) rfl rfl (fun h=>o_callP rfl en_69 rfl (evl_1 (gv h rfl)) (.cons _ _ _ _ (.cl _ rfl) .nil) (impl_yrising_p false (gdO_t h31 h))) ?_
          refine au 3 ?_
          refine T.cH H ?_ ?_<;>intro H h
          ·refine au 5 ?_
           refine thn_ret (inB_ret (thn_ret ?_))
           exact Pk.id (thn_ret ⟨.inr false,(some_i H).symm,rfl,⟨trivial,_,(.tmp _ _ _ _ rfl .nil),(.cl _ rfl)⟩⟩)
          ·refine au 4 ?_
           refine TL.st rfl rfl rfl (o_lenL (f:=c_str) rfl rfl rfl) ?_
           refine au 3 ?_
           obtain ⟨q40,h41,H⟩:=bind_s H
           refine T.lq (fun s=>match s with | v32=>[(1,.bx 0 0),(8,.bx 2 0),(84,.im b0 (a0.Classes_.map (c_I_Class false))),(85,.int .i64 (a0.Classes_.length : Int)),(86,.int .i64 v6),(115,.im false (([e9.Must_,e9.May_] : List (List ByteArray)).map (c_sl (c_str)))),(116,.int .i64 (([e9.Must_,e9.May_] : List (List ByteArray)).length : Int)),(117,.int .i64 v15),(129,.im false (e28.map (c_str))),(130,.int .i64 (e28.length : Int)),(131,.int .i64 v32)]) (fun s=>match s with | v32=>[.box (c_I_DirSchema b0 a0),.box (c_I_AttrType false r3),.box (c_I_Class false e9)]) (fun q ex fr σ=>match q with | .inl _=>ex = .exit 6 ∧ fr = [(1,.bx 0 0),(8,.bx 2 0),(84,.im b0 (a0.Classes_.map (c_I_Class false))),(85,.int .i64 (a0.Classes_.length : Int)),(86,.int .i64 v6),(115,.im false (([e9.Must_,e9.May_] : List (List ByteArray)).map (c_sl (c_str)))),(116,.int .i64 (([e9.Must_,e9.May_] : List (List ByteArray)).length : Int)),(117,.int .i64 v15)] ∧ σ = [.box (c_I_DirSchema b0 a0),.box (c_I_AttrType false r3),.box (c_I_Class false e9)] | .inr q33=>ex = .ret ∧ RetN Tryz.prog [.tmp 2] (fun v τ=>Told τ v (.bool q33)) .ret fr σ) h41 ?_ ?_
           ·rintro v32 y34 H
            refine au 5 ?_
            refine T.cH H ?_ ?_<;>intro H h
            ·refine au 5 ?_
             obtain ⟨e35,h36,H⟩:=bind_s H
             refine TL.st rfl rfl rfl (o_ix (f:=c_str) rfl rfl tyS_9 rfl rfl h36 rfl) ?_
             refine au 7 ?_
             obtain ⟨⟨r37,r38⟩,h39,H⟩:=bind_s H
             refine TL.st rfl rfl rfl (o_callP rfl en_68 rfl rfl (.cons _ _ _ _ (Lent.aggL (.cons _ _ _ _ (.imv _ _) (.cons _ _ _ _ (.imv _ _) .nil))) (.cons _ _ _ _ (.cl _ rfl) .nil)) (impl_DirSchema_yattrType_p b0 h39)) ?_
             refine au 12 ?_
             refine T.cH H ?_ ?_<;>intro H h
             ·refine au 5 ?_
              refine inB_ret (thn_ret ?_)
              exact Pk.id (thn_ret ⟨.inr false,(some_i H).symm,rfl,⟨trivial,_,(.tmp _ _ _ _ rfl .nil),(.cl _ rfl)⟩⟩)
             ·refine au 5 ?_
              exact Pk.of (thn_normal ⟨(IntKind.i64.wrap (v32 + 1)),(some_i H).symm,rfl,rfl⟩)
            ·refine T.exit ?_
             refine thn_exit ?_
             exact Pk.of (thn_exit ⟨.inl (),(some_i H).symm,rfl,rfl,rfl⟩)
           ·rcases q40 with ⟨⟩ | q33
            ·rintro _ _ _ ⟨rfl,rfl,rfl⟩
             refine inB_here ?_
             refine au 4 ?_
             exact Pk.of (thn_normal ⟨(IntKind.i64.wrap (v15 + 1)),(some_i H).symm,rfl,rfl⟩)
            ·rintro _ fr1 σ1 ⟨rfl,hr⟩
             refine inB_ret (inB_ret (thn_ret ?_))
             exact Pk.id (thn_ret ⟨.inr q33,(some_i H).symm,rfl,hr⟩)
         ·refine T.exit ?_
          refine thn_exit ?_
          exact Pk.of (thn_exit ⟨.inl (),(some_i H).symm,rfl,rfl,rfl⟩)
        ·rcases q42 with ⟨⟩ | q16
         ·rintro _ _ _ ⟨rfl,rfl,rfl⟩
          refine inB_here ?_
          refine au 11 ?_
          obtain ⟨q25,h26,H⟩:=bind_s H
          refine T.lq (fun s=>match s with | (b17,v18)=>[(1,.bx 0 0),(15,.bx 3 0),(16,.int .i64 v18),(84,.im b0 (a0.Classes_.map (c_I_Class false))),(85,.int .i64 (a0.Classes_.length : Int)),(86,.int .i64 v6)]) (fun s=>match s with | (b17,v18)=>[.box (c_I_DirSchema b0 a0),.box (c_I_AttrType false r3),.box (c_I_Class false e9),.box (c_I_Class false b17)]) (fun q ex fr σ=>match q with | .inl b19=>ex = .exit 8 ∧ fr = [(1,.bx 0 0),(84,.im b0 (a0.Classes_.map (c_I_Class false))),(85,.int .i64 (a0.Classes_.length : Int)),(86,.int .i64 v6)] ∧ σ = [.box (c_I_DirSchema b0 a0),.box (c_I_AttrType false r3),.box (c_I_Class false e9),.box (c_I_Class false b19)] | .inr q20=>ex = .ret ∧ RetN Tryz.prog [.tmp 2] (fun v τ=>Told τ v (.bool q20)) .ret fr σ) h26 ?_ ?_
          ·rintro ⟨b17,v18⟩ y21 H
           refine au 7 ?_
           refine T.cH H ?_ ?_<;>intro H h
           ·refine au 12 ?_
            obtain ⟨⟨r22,r23⟩,h24,H⟩:=bind_s H
            refine TL.st rfl rfl rfl (o_callP rfl en_70 rfl rfl (.cons _ _ _ _ (Lent.aggL (.cons _ _ _ _ (.imv _ _) (.cons _ _ _ _ (.imv _ _) .nil))) (.cons _ _ _ _ (.cl _ rfl) .nil)) (impl_DirSchema_yclass_p b0 h24)) ?_
            refine au 15 ?_
            refine T.cH H ?_ ?_<;>intro H h
            ·refine au 5 ?_
             refine inB_ret (thn_ret ?_)
             exact Pk.id (thn_ret ⟨.inr false,(some_i H).symm,rfl,⟨trivial,_,(.tmp _ _ _ _ rfl .nil),(.cl _ rfl)⟩⟩)
            ·refine au 6 ?_
             exact Pk.of (thn_normal ⟨(r22,(IntKind.i64.wrap (v18 + 1))),(some_i H).symm,rfl,rfl⟩)
           ·refine T.exit ?_
            refine thn_exit ?_
            exact Pk.of (thn_exit ⟨.inl b17,(some_i H).symm,rfl,rfl,rfl⟩)
          ·rcases q25 with b19 | q20
           ·rintro _ _ _ ⟨rfl,rfl,rfl⟩
            refine inB_here ?_
            refine au 4 ?_
            exact Pk.of (thn_normal ⟨(IntKind.i64.wrap (v6 + 1)),(some_i H).symm,rfl,rfl⟩)
           ·rintro _ fr1 σ1 ⟨rfl,hr⟩
            refine inB_ret (inB_ret (thn_ret ?_))
            exact Pk.id (thn_ret ⟨.inr q20,(some_i H).symm,rfl,hr⟩)
         ·rintro _ fr1 σ1 ⟨rfl,hr⟩
          refine inB_ret (thn_ret (inB_ret (thn_ret ?_)))
          exact Pk.id (thn_ret ⟨.inr q16,(some_i H).symm,rfl,hr⟩)
      ·refine T.exit ?_
       refine thn_exit ?_
       exact Pk.of (thn_exit ⟨.inl (),(some_i H).symm,rfl,rfl,rfl⟩)
     ·rcases q44 with ⟨⟩ | q7
      ·rintro _ _ _ ⟨rfl,rfl,rfl⟩
       refine inB_here ?_
       refine au 5 ?_
       cases some_i H
       exact ⟨trivial,_,(.tmp _ _ _ _ rfl .nil),(.cl _ rfl)⟩
      ·rintro _ fr1 σ1 ⟨rfl,hr⟩
       refine inB_ret (thn_ret ?_)
       cases some_i H
       exact hr
   ·rintro _ fr1 σ1 ⟨rfl,hr⟩
    refine inB_ret (thn_ret ?_)
    cases some_i H
    exact hr
theorem en_30 : En Tryz.prog 30:=.of Tryz.func30 rfl rfl
noncomputable def impl_yprinted_l1 (a0 : ByteArray) : Int → Option (Int ⊕ (Unit ⊕ Bool)):=fun s=>match s with
  | v1=>cond (decide (v1 < (a0.size : Int))) ((idxS a0 v1).bind fun b4=>(gdO (!(decide (b4 < 32))) (idxS a0 v1)).bind fun b6=>cond (decide (b4 < 32) || decide (b6 > 126)) (some (.inr (.inr false))) (some (.inl (IntKind.i64.wrap (v1 + 1))))) (some (.inr (.inl ())))
noncomputable def impl_yprinted (a0 : ByteArray) (a1 : Int) (a2 : Int) : Option Bool :=
  cond (decide ((a0.size : Int) < a1) || decide ((a0.size : Int) > a2)) (some false) ((loopO (impl_yprinted_l1 a0) 0).bind fun q8=>(match q8 with | .inl _=>some true | .inr q2=>some q2))
theorem impl_yprinted_p  {a0 : ByteArray} {a1 : Int} {a2 : Int} {R0 : Bool} (H : impl_yprinted a0 a1 a2 = some R0) : Pure Tryz.prog 114 [.str a0,.int .i64 a1,.int .i64 a2] (.bool R0):=by
 refine CallT.of_TN (n:=34) Tryz.func114 rfl rfl rfl rfl ?_
 refine au 13 ?_
 refine TL.gcq rfl rfl rfl (.bool _) rfl rfl (fun h=>o_lenS rfl rfl (gv h rfl)) ?_
 refine TL.gcq rfl rfl rfl (.bool _) rfl rfl (fun h=>o_move rfl rfl) ?_
 refine TL.gcq rfl rfl rfl (.bool _) rfl rfl (fun h=>o_ari rfl (gv h rfl) (gv h rfl) rfl) ?_
 refine au 2 ?_
 refine T.cH H ?_ ?_<;>intro H h
 ·refine au 5 ?_
  refine thn_ret ?_
  cases some_i H
  exact ⟨trivial,_,(.tmp _ _ _ _ rfl .nil),(.cl _ rfl)⟩
 ·refine au 9 ?_
  obtain ⟨q8,h9,H⟩:=bind_s H
  refine T.lq (fun s=>match s with | v1=>[(0,.str a0),(19,.int .i64 (a0.size : Int)),(20,.int .i64 v1)]) (fun s=>match s with | v1=>[]) (fun q ex fr σ=>match q with | .inl _=>ex = .exit 0 ∧ fr = [] ∧ σ = [] | .inr q2=>ex = .ret ∧ RetN Tryz.prog [.tmp 6] (fun v τ=>Told τ v (.bool q2)) .ret fr σ) h9 ?_ ?_
  ·rintro v1 y3 H
   refine au 5 ?_
   refine T.cH H ?_ ?_<;>intro H h
   ·refine au 12 ?_
    obtain ⟨b4,h5,H⟩:=bind_s H
    refine TL.st rfl rfl rfl (o_ixs rfl rfl rfl rfl h5) ?_
    refine au 4 ?_
    obtain ⟨b6,h7,H⟩:=bind_s H
    refine TL.gcq rfl rfl rfl (.bool _) rfl rfl (fun h=>o_ixs rfl rfl (gv h rfl) (gv h rfl) (gdO_t h7 h)) ?_
    refine au 3 ?_
    refine T.cH H ?_ ?_<;>intro H h
    ·refine au 5 ?_
     refine inB_ret (thn_ret ?_)
     exact Pk.id (thn_ret ⟨.inr false,(some_i H).symm,rfl,⟨trivial,_,(.tmp _ _ _ _ rfl .nil),(.cl _ rfl)⟩⟩)
    ·refine au 5 ?_
     exact Pk.of (thn_normal ⟨(IntKind.i64.wrap (v1 + 1)),(some_i H).symm,rfl,rfl⟩)
   ·refine T.exit ?_
    refine thn_exit ?_
    exact Pk.of (thn_exit ⟨.inl (),(some_i H).symm,rfl,rfl,rfl⟩)
  ·rcases q8 with ⟨⟩ | q2
   ·rintro _ _ _ ⟨rfl,rfl,rfl⟩
    refine inB_here ?_
    refine au 5 ?_
    cases some_i H
    exact ⟨trivial,_,(.tmp _ _ _ _ rfl .nil),(.cl _ rfl)⟩
   ·rintro _ fr1 σ1 ⟨rfl,hr⟩
    refine inB_ret (thn_ret ?_)
    cases some_i H
    exact hr
theorem en_114 : En Tryz.prog 114:=.of Tryz.func114 rfl rfl
noncomputable def impl_ygoodPart (a0 : I_Part) (a1 : Int) : Option Bool :=
  (impl_GoodName a0.Attr_).bind fun r1=>(gdO r1 (impl_yprinted a0.Text_ 1 a1)).bind fun r3=>some (r1 && r3)
theorem impl_ygoodPart_p  {a0 : I_Part} {a1 : Int} {R0 : Bool} (H : impl_ygoodPart a0 a1 = some R0) : Pure Tryz.prog 92 [.agg (c_I_Part false a0),.int .i64 a1] (.bool R0):=by
 refine CallT.of_TN (n:=14) Tryz.func92 rfl rfl rfl rfl ?_
 refine au 9 ?_
 obtain ⟨r1,h2,H⟩:=bind_s H
 refine TL.st rfl rfl rfl (o_callP rfl en_55 rfl rfl (.cons _ _ _ _ (.cl _ rfl) .nil) (impl_GoodName_p  h2)) ?_
 refine au 4 ?_
 obtain ⟨r3,h4,H⟩:=bind_s H
 refine TL.gcq rfl rfl rfl (.bool _) rfl rfl (fun h=>o_callP rfl en_114 rfl (evl_3 (gv h rfl) rfl (gv h rfl)) (.cons _ _ _ _ (.cl _ rfl) (.cons _ _ _ _ (.cl _ rfl) (.cons _ _ _ _ (.cl _ rfl) .nil))) (impl_yprinted_p  (gdO_t h4 h))) ?_
 refine au 4 ?_
 cases some_i H
 exact ⟨trivial,_,(.tmp _ _ _ _ rfl .nil),(.cl _ rfl)⟩
theorem en_92 : En Tryz.prog 92:=.of Tryz.func92 rfl rfl
noncomputable def impl_GoodDirName_1 (a0 : I_Part) : Option Bool :=
  (impl_ygoodPart a0 60).bind fun r1=>some (!r1)
theorem impl_GoodDirName_1_p  {a0 : I_Part} {R0 : Bool} (H : impl_GoodDirName_1 a0 = some R0) : Pure Tryz.prog 91 [.agg (c_I_Part false a0)] (.bool R0):=by
 refine CallT.of_TN (n:=6) Tryz.func91 rfl rfl rfl rfl ?_
 refine au 8 ?_
 obtain ⟨r1,h2,H⟩:=bind_s H
 refine TL.st rfl rfl rfl (o_callP rfl en_92 rfl rfl (.cons _ _ _ _ (.cl _ rfl) (.cons _ _ _ _ (.cl _ rfl) .nil)) (impl_ygoodPart_p  h2)) ?_
 refine au 4 ?_
 cases some_i H
 exact ⟨trivial,_,(.tmp _ _ _ _ rfl .nil),(.cl _ rfl)⟩
theorem en_91 : En Tryz.prog 91:=.of Tryz.func91 rfl rfl
noncomputable def impl_Part_x_l1 (a0 : (List I_Part)) : Int → Option (Int ⊕ (Unit ⊕ Int)):=fun s=>match s with
  | v1=>cond (decide (v1 < (a0.length : Int))) ((idx a0 v1).bind fun e4=>(impl_GoodDirName_1 e4).bind fun r6=>cond r6 (some (.inr (.inr v1))) (some (.inl (IntKind.i64.wrap (v1 + 1))))) (some (.inr (.inl ())))
noncomputable def impl_Part_x (a0 : (List I_Part)) : Option Int :=
  (loopO (impl_Part_x_l1 a0) 0).bind fun q8=>(match q8 with | .inl _=>some (-1) | .inr q2=>some q2)
theorem impl_Part_x_p (b0 : Bool) {a0 : (List I_Part)} {R0 : Int} (H : impl_Part_x a0 = some R0) : Pure Tryz.prog 131 [.im b0 (a0.map (c_I_Part false)),.fn 91 [] []] (.int .i64 R0):=by
 refine CallT.of_TN (n:=19) Tryz.func131 rfl rfl rfl rfl ?_
 refine au 8 ?_
 refine TL.st rfl rfl rfl (o_lenL (f:=c_I_Part false) rfl rfl rfl) ?_
 refine au 3 ?_
 obtain ⟨q8,h9,H⟩:=bind_s H
 refine T.lq (fun s=>match s with | v1=>[(0,.im b0 (a0.map (c_I_Part false))),(1,.fn 91 [] []),(7,.int .i64 (a0.length : Int)),(8,.int .i64 v1)]) (fun s=>match s with | v1=>[]) (fun q ex fr σ=>match q with | .inl _=>ex = .exit 0 ∧ fr = [] ∧ σ = [] | .inr q2=>ex = .ret ∧ RetN Tryz.prog [.tmp 4] (fun v τ=>Told τ v (.int .i64 q2)) .ret fr σ) h9 ?_ ?_
 ·rintro v1 y3 H
  refine au 5 ?_
  refine T.cH H ?_ ?_<;>intro H h
  ·refine au 13 ?_
   obtain ⟨e4,h5,H⟩:=bind_s H
   refine TL.st rfl rfl rfl (o_ix (f:=c_I_Part false) rfl rfl tyS_96 rfl rfl h5 rfl) ?_
   refine TL.st rfl rfl rfl (o_loadRf rfl tyS_96 rfl (nb rfl) rfl) ?_
   obtain ⟨r6,h7,H⟩:=bind_s H
   refine TL.st rfl rfl rfl (o_callP rfl en_91 rfl rfl (.cons _ _ _ _ (.cl _ rfl) .nil) (impl_GoodDirName_1_p  h7)) ?_
   refine TL.nil ?_
   refine T.cH H ?_ ?_<;>intro H h
   ·refine au 6 ?_
    refine inB_ret (thn_ret ?_)
    exact Pk.id (thn_ret ⟨.inr v1,(some_i H).symm,rfl,⟨trivial,_,(.tmp _ _ _ _ rfl .nil),(.cl _ rfl)⟩⟩)
   ·refine au 5 ?_
    exact Pk.of (thn_normal ⟨(IntKind.i64.wrap (v1 + 1)),(some_i H).symm,rfl,rfl⟩)
  ·refine T.exit ?_
   refine thn_exit ?_
   exact Pk.of (thn_exit ⟨.inl (),(some_i H).symm,rfl,rfl,rfl⟩)
 ·rcases q8 with ⟨⟩ | q2
  ·rintro _ _ _ ⟨rfl,rfl,rfl⟩
   refine inB_here ?_
   refine au 5 ?_
   cases some_i H
   exact ⟨trivial,_,(.tmp _ _ _ _ rfl .nil),(.cl _ rfl)⟩
  ·rintro _ fr1 σ1 ⟨rfl,hr⟩
   refine inB_ret (thn_ret ?_)
   cases some_i H
   exact hr
theorem en_131 : En Tryz.prog 131:=.of Tryz.func131 rfl rfl
noncomputable def impl_Part_ (a0 : (List I_Part)) : Option Bool :=
  (impl_Part_x a0).bind fun r1=>some (decide (r1 ≥ 0))
theorem impl_Part__p (b0 : Bool) {a0 : (List I_Part)} {R0 : Bool} (H : impl_Part_ a0 = some R0) : Pure Tryz.prog 90 [.im b0 (a0.map (c_I_Part false)),.fn 91 [] []] (.bool R0):=by
 refine CallT.of_TN (n:=9) Tryz.func90 rfl rfl rfl rfl ?_
 refine au 8 ?_
 obtain ⟨r1,h2,H⟩:=bind_s H
 refine TL.st rfl rfl rfl (o_callP rfl en_131 rfl rfl (.cons _ _ _ _ (.imv _ _) (.cons _ _ _ _ (.fn _ _ _ _ _ rfl rfl (fun i c d h=>by simp at h) (fun i c d h=>by simp at h)) .nil)) (impl_Part_x_p b0 h2)) ?_
 refine au 4 ?_
 cases some_i H
 exact ⟨trivial,_,(.tmp _ _ _ _ rfl .nil),(.cl _ rfl)⟩
theorem en_90 : En Tryz.prog 90:=.of Tryz.func90 rfl rfl
noncomputable def impl_GoodDirName (a0 : (List I_Part)) : Option Bool :=
  (gdO (decide ((a0.length : Int) ≤ 8)) (impl_Part_ a0)).bind fun r1=>some (decide ((a0.length : Int) ≤ 8) && (!r1))
theorem impl_GoodDirName_p (b0 : Bool) {a0 : (List I_Part)} {R0 : Bool} (H : impl_GoodDirName a0 = some R0) : Pure Tryz.prog 44 [.im b0 (a0.map (c_I_Part false))] (.bool R0):=by
 refine CallT.of_TN (n:=11) Tryz.func44 rfl rfl rfl rfl ?_
 refine au 7 ?_
 refine TL.st rfl rfl rfl (o_lenL (f:=c_I_Part false) rfl rfl rfl) ?_
 refine au 3 ?_
 obtain ⟨r1,h2,H⟩:=bind_s H
 refine TL.gcq rfl rfl rfl (.bool _) rfl rfl (fun h=>o_callP rfl en_90 rfl (evl_2 (gv h rfl) rfl) (.cons _ _ _ _ (.imv _ _) (.cons _ _ _ _ (.fn _ _ _ _ _ rfl rfl (fun i c d h=>by simp at h) (fun i c d h=>by simp at h)) .nil)) (impl_Part__p b0 (gdO_t h2 h))) ?_
 refine au 5 ?_
 cases some_i H
 exact ⟨trivial,_,(.tmp _ _ _ _ rfl .nil),(.cl _ rfl)⟩
theorem en_44 : En Tryz.prog 44:=.of Tryz.func44 rfl rfl
theorem tyE_3 : TyE Tryz.prog 3 1:=⟨_,_,rfl,rfl,rfl,rfl,by decide,by decide⟩
noncomputable def impl_ypattern_j1 (l6 : List Int) (v7 : Int) : Option ((List Int × Int) ⊕ (List Int ⊕ ((List Int) × Bool))) :=
  some (.inl (l6,(IntKind.i64.wrap (v7 + 1))))
noncomputable def impl_ypattern_l1 (a0 : ByteArray) : (List Int × Int) → Option ((List Int × Int) ⊕ (List Int ⊕ ((List Int) × Bool))):=fun s=>match s with
  | (l1,v2)=>cond (decide (v2 < (a0.size : Int))) ((idxS a0 v2).bind fun b8=>cond (b8 == 42) ((app l1 ([(-1)] : List Int)).bind fun l10=>impl_ypattern_j1 l10 v2) ((idxS a0 v2).bind fun b12=>cond (b12 == 92) ((gdO (!(decide ((IntKind.i64.wrap (v2 + 1)) ≥ (a0.size : Int)))) (idxS a0 (IntKind.i64.wrap (v2 + 1)))).bind fun b14=>(gdO ((!(decide ((IntKind.i64.wrap (v2 + 1)) ≥ (a0.size : Int)))) && (b14 != 42)) (idxS a0 (IntKind.i64.wrap (v2 + 1)))).bind fun b16=>cond (decide ((IntKind.i64.wrap (v2 + 1)) ≥ (a0.size : Int)) || ((b14 != 42) && (b16 != 92))) (some (.inr (.inr (([] : List Int),false)))) ((idxS a0 (IntKind.i64.wrap (v2 + 1))).bind fun b18=>(app l1 ([(IntKind.i64.wrap b18)] : List Int)).bind fun l20=>impl_ypattern_j1 l20 (IntKind.i64.wrap (v2 + 1)))) ((idxS a0 v2).bind fun b22=>(app l1 ([(IntKind.i64.wrap b22)] : List Int)).bind fun l24=>impl_ypattern_j1 l24 v2))) (some (.inr (.inl l1)))
noncomputable def impl_ypattern (a0 : ByteArray) : Option ((List Int) × Bool) :=
  (loopO (impl_ypattern_l1 a0) (([] : List Int),0)).bind fun q26=>(match q26 with | .inl l3=>some (l3,true) | .inr q4=>some q4)
theorem impl_ypattern_p  {a0 : ByteArray} {R0 : (List Int)} {R1 : Bool} (H : impl_ypattern a0 = some (R0,R1)) : Pure Tryz.prog 116 [.str a0] (.tup [.im false (R0.map (c_int .i64)),.bool R1]):=by
 refine CallT.of_TN (n:=58) Tryz.func116 rfl rfl rfl rfl ?_
 refine au 15 ?_
 refine T.conv (Cs.own (t:=4) 1 rfl (by decide)) ?_
 obtain ⟨q26,h27,H⟩:=bind_s H
 refine T.lq (fun s=>match s with | (l1,v2)=>[(0,.str a0),(4,.hd 0 (l1.map (c_int .i64)).length 0 (l1.map (c_int .i64)).length),(5,.int .i64 v2)]) (fun s=>match s with | (l1,v2)=>[.arr .clo 1 (l1.map (c_int .i64))]) (fun q ex fr σ=>match q with | .inl l3=>ex = .exit 0 ∧ fr = [(4,.hd 0 (l3.map (c_int .i64)).length 0 (l3.map (c_int .i64)).length)] ∧ σ = [.arr .clo 1 (l3.map (c_int .i64))] | .inr q4=>ex = .ret ∧ RetN Tryz.prog [.tmp 2,.tmp 3] (fun v τ=>Told τ v (.tup [.im false (q4.1.map (c_int .i64)),.bool q4.2])) .ret fr σ) h27 ?_ ?_
 ·rintro ⟨l1,v2⟩ y5 H
  refine au 8 ?_
  refine T.cH H ?_ ?_<;>intro H h
  ·refine T.skip ?_
   refine T.cut (fun fr' σ'=>∃ (l6 : List Int) (v7 : Int),fr' = [(0,.str a0),(4,.hd 0 (l6.map (c_int .i64)).length 0 (l6.map (c_int .i64)).length),(5,.int .i64 v7)] ∧ σ' = [.arr .clo 1 (l6.map (c_int .i64))] ∧ impl_ypattern_j1 l6 v7 = some y5) (T.pk ?_) ?_
   ·skip
    refine au 6 ?_
    obtain ⟨b8,h9,H⟩:=bind_s H
    refine TL.st rfl rfl rfl (o_ixs rfl rfl rfl rfl h9) ?_
    refine au 3 ?_
    refine T.cH H ?_ ?_<;>intro H h
    ·refine au 2 ?_
     refine TL.st rfl rfl rfl (o_sliceIm (rows:=([(-1)] : List Int).map (c_int .i64)) rfl rfl tyS_3 ⟨_,rfl,rfl⟩ (by decide) rfl rfl rfl rfl rfl rfl) ?_
     obtain ⟨l10,h11,H⟩:=bind_s H
     refine TL.st rfl rfl rfl (o_ap (f:=c_int .i64) (xs:=l1) (ys:=([(-1)] : List Int)) rfl rfl tyE_3 rfl rfl rfl rfl (by decide) rfl (fun _=>rfl) h11) ?_
     refine au 2 ?_
     refine inB_normal (inB_normal ?_)
     exact Pk.of (thn_normal ⟨l10,v2,rfl,rfl,H⟩)
    ·refine au 4 ?_
     obtain ⟨b12,h13,H⟩:=bind_s H
     refine TL.st rfl rfl rfl (o_ixs rfl rfl rfl rfl h13) ?_
     refine au 3 ?_
     refine T.cH H ?_ ?_<;>intro H h
     ·refine au 16 ?_
      obtain ⟨b14,h15,H⟩:=bind_s H
      refine TL.gcq rfl rfl rfl (.bool _) rfl rfl (fun h=>o_ixs rfl rfl (gv h rfl) (gv h rfl) (gdO_t h15 h)) ?_
      refine TL.gcq rfl rfl rfl (.bool _) rfl rfl (fun h=>o_ari rfl (gv h rfl) rfl rfl) ?_
      refine TL.gcq rfl rfl rfl (.bool _) rfl rfl (fun h=>o_move rfl (gv h rfl)) ?_
      refine TL.gcq rfl rfl rfl (.gd _ _) rfl rfl (fun h=>o_move rfl rfl) ?_
      refine TL.gcq rfl rfl rfl (.gd _ _) rfl rfl (fun h=>o_move rfl rfl) ?_
      obtain ⟨b16,h17,H⟩:=bind_s H
      refine TL.gcq rfl rfl rfl (.gd _ _) rfl rfl (fun h=>o_ixs rfl rfl (gv h rfl) (gv h rfl) (gdO_t h17 h)) ?_
      refine TL.gcq rfl rfl rfl (.gd _ _) rfl rfl (fun h=>o_ari rfl (gv h rfl) rfl rfl) ?_
      refine TL.gcq rfl rfl rfl (.bool _) rfl rfl (fun h=>o_and rfl (gv h rfl) rfl (fun k=>Gd_t (andi h k)) rfl) ?_
      refine au 2 ?_
      refine T.cH H ?_ ?_<;>intro H h
      ·refine au 6 ?_
       refine thn_ret (inB_ret (inB_ret ?_))
       refine Pk.id (thn_ret ?_)
       exact Pk.id (thn_ret ⟨.inr (([] : List Int),false),(some_i H).symm,rfl,⟨trivial,_,(.tmp _ _ _ _ rfl (.tmp _ _ _ _ rfl .nil)),(.tupL (.cons _ _ _ _ .nil (.cons _ _ _ _ (.cl _ rfl) .nil)))⟩⟩)
      ·refine au 5 ?_
       obtain ⟨b18,h19,H⟩:=bind_s H
       refine TL.st rfl rfl rfl (o_ixs rfl rfl rfl rfl h19) ?_
       refine TL.st rfl rfl rfl (o_conv rfl rfl ⟨_,rfl⟩ rfl) ?_
       refine TL.st rfl rfl rfl (o_sliceIm (rows:=([(IntKind.i64.wrap b18)] : List Int).map (c_int .i64)) rfl rfl tyS_3 ⟨_,rfl,rfl⟩ (by decide) rfl rfl rfl rfl rfl rfl) ?_
       obtain ⟨l20,h21,H⟩:=bind_s H
       refine TL.st rfl rfl rfl (o_ap (f:=c_int .i64) (xs:=l1) (ys:=([(IntKind.i64.wrap b18)] : List Int)) rfl rfl tyE_3 rfl rfl rfl rfl (by decide) rfl (fun _=>rfl) h21) ?_
       refine au 2 ?_
       refine inB_normal (inB_normal ?_)
       exact Pk.of (thn_normal ⟨l20,(IntKind.i64.wrap (v2 + 1)),rfl,rfl,H⟩)
     ·refine au 4 ?_
      obtain ⟨b22,h23,H⟩:=bind_s H
      refine TL.st rfl rfl rfl (o_ixs rfl rfl rfl rfl h23) ?_
      refine TL.st rfl rfl rfl (o_conv rfl rfl ⟨_,rfl⟩ rfl) ?_
      refine TL.st rfl rfl rfl (o_sliceIm (rows:=([(IntKind.i64.wrap b22)] : List Int).map (c_int .i64)) rfl rfl tyS_3 ⟨_,rfl,rfl⟩ (by decide) rfl rfl rfl rfl rfl rfl) ?_
      obtain ⟨l24,h25,H⟩:=bind_s H
      refine TL.st rfl rfl rfl (o_ap (f:=c_int .i64) (xs:=l1) (ys:=([(IntKind.i64.wrap b22)] : List Int)) rfl rfl tyE_3 rfl rfl rfl rfl (by decide) rfl (fun _=>rfl) h25) ?_
      refine au 2 ?_
      refine inB_normal (inB_normal ?_)
      exact Pk.of (thn_normal ⟨l24,v2,rfl,rfl,H⟩)
   ·rintro _ _ ⟨l6,v7,rfl,rfl,H⟩
    refine au 5 ?_
    exact Pk.of (thn_normal ⟨(l6,(IntKind.i64.wrap (v7 + 1))),(some_i H).symm,rfl,rfl⟩)
  ·refine T.exit ?_
   refine thn_exit ?_
   exact Pk.of (thn_exit ⟨.inl l1,(some_i H).symm,rfl,rfl,rfl⟩)
 ·rcases q26 with l3 | q4
  ·rintro _ _ _ ⟨rfl,rfl,rfl⟩
   refine inB_here ?_
   refine au 7 ?_
   cases some_i H
   exact ⟨trivial,_,(.tmp _ _ _ _ rfl (.tmp _ _ _ _ rfl .nil)),(.tupL (.cons _ _ _ _ (.own rfl (by decide) rfl) (.cons _ _ _ _ (.cl _ rfl) .nil)))⟩
  ·rintro _ fr1 σ1 ⟨rfl,hr⟩
   refine inB_ret (thn_ret ?_)
   cases some_i H
   exact hr
theorem en_116 : En Tryz.prog 116:=.of Tryz.func116 rfl rfl
noncomputable def impl_ygoodNode_j2 (a0 : I_FilterNode) (v2 : Bool) : Option Bool :=
  cond v2 ((gdO (a0.Kids_ == 0) (impl_GoodName a0.Attr_)).bind fun r3=>(gdO ((a0.Kids_ == 0) && r3) (impl_yprinted a0.Text_ 1 200)).bind fun r5=>some (((a0.Kids_ == 0) && r3) && r5)) (cond (a0.Kind_ == 7) ((gdO (a0.Kids_ == 0) (impl_GoodName a0.Attr_)).bind fun r7=>some (((a0.Kids_ == 0) && r7) && (a0.Text_.toList == e0.toList))) (cond (a0.Kind_ == 8) ((impl_ypattern a0.Text_).bind fun q=>(match q with | (r9,r10)=>(gdO (a0.Kids_ == 0) (impl_GoodName a0.Attr_)).bind fun r12=>(gdO ((a0.Kids_ == 0) && r12) (impl_yprinted a0.Text_ 1 200)).bind fun r14=>some ((((a0.Kids_ == 0) && r12) && r14) && r10))) (some false)))
noncomputable def impl_ygoodNode_j1 (a0 : I_FilterNode) (v1 : Bool) : Option Bool :=
  cond v1 (some ((((a0.Attr_.toList == e0.toList) && (a0.Text_.toList == e0.toList)) && decide (a0.Kids_ ≥ 0)) && decide (a0.Kids_ ≤ 20))) (cond (a0.Kind_ == 3) (some (((a0.Attr_.toList == e0.toList) && (a0.Text_.toList == e0.toList)) && (a0.Kids_ == 1))) (cond (a0.Kind_ == 4) (impl_ygoodNode_j2 a0 (a0.Kind_ == 4)) (cond (a0.Kind_ == 5) (impl_ygoodNode_j2 a0 (a0.Kind_ == 5)) (impl_ygoodNode_j2 a0 (a0.Kind_ == 6)))))
noncomputable def impl_ygoodNode (a0 : I_FilterNode) : Option Bool :=
  cond (a0.Kind_ == 1) (impl_ygoodNode_j1 a0 (a0.Kind_ == 1)) (impl_ygoodNode_j1 a0 (a0.Kind_ == 2))
theorem impl_ygoodNode_p  {a0 : I_FilterNode} {R0 : Bool} (H : impl_ygoodNode a0 = some R0) : Pure Tryz.prog 74 [.agg (c_I_FilterNode false a0)] (.bool R0) := by
 refine CallT.of_TN (n:=99) Tryz.func74 rfl rfl rfl rfl ?_
 refine au 12 ?_
 refine T.cut (fun fr' σ'=>∃ (v1 : Bool),fr' = [(1,.bx 0 0),(6,.int .i64 a0.Kind_),(7,.bool v1)] ∧ σ' = [.box (c_I_FilterNode false a0)] ∧ impl_ygoodNode_j1 a0 v1 = some R0) (T.pk ?_) ?_
 ·skip
  refine au 5 ?_
  refine T.cH H ?_ ?_<;>intro H h
  ·refine T.skip ?_
   exact Pk.of (thn_normal ⟨(a0.Kind_ == 1),rfl,rfl,H⟩)
  ·refine au 4 ?_
   exact Pk.of (thn_normal ⟨(a0.Kind_ == 2),rfl,rfl,H⟩)
 ·rintro _ _ ⟨v1,rfl,rfl,H⟩
  refine T.cH H ?_ ?_<;>intro H h
  ·refine au 8 ?_
   refine TL.gcq rfl rfl rfl (.bool _) rfl rfl (fun h=>o_str rfl (gv h rfl) rfl rfl) ?_
   refine au 14 ?_
   refine inB_ret (thn_ret ?_)
   cases some_i H
   exact ⟨trivial,_,(.tmp _ _ _ _ rfl .nil),(.cl _ rfl)⟩
  ·refine au 5 ?_
   refine T.cH H ?_ ?_<;>intro H h
   ·refine au 8 ?_
    refine TL.gcq rfl rfl rfl (.bool _) rfl rfl (fun h=>o_str rfl (gv h rfl) rfl rfl) ?_
    refine au 9 ?_
    refine inB_ret (thn_ret ?_)
    cases some_i H
    exact ⟨trivial,_,(.tmp _ _ _ _ rfl .nil),(.cl _ rfl)⟩
   ·refine T.cut (fun fr' σ'=>∃ (v2 : Bool),fr' = [(1,.bx 0 0),(6,.int .i64 a0.Kind_),(43,.bool v2)] ∧ σ' = [.box (c_I_FilterNode false a0)] ∧ impl_ygoodNode_j2 a0 v2 = some R0) (T.pk ?_) ?_
    ·skip
     refine au 5 ?_
     refine T.cH H ?_ ?_<;>intro H h
     ·refine T.skip ?_
      exact Pk.of (thn_normal ⟨(a0.Kind_ == 4),rfl,rfl,H⟩)
     ·refine au 5 ?_
      refine T.cH H ?_ ?_<;>intro H h
      ·refine T.skip ?_
       exact Pk.of (thn_normal ⟨(a0.Kind_ == 5),rfl,rfl,H⟩)
      ·refine au 4 ?_
       exact Pk.of (thn_normal ⟨(a0.Kind_ == 6),rfl,rfl,H⟩)
    ·rintro _ _ ⟨v2,rfl,rfl,H⟩
     refine T.cH H ?_ ?_<;>intro H h
     ·refine au 8 ?_
      obtain ⟨r3,h4,H⟩:=bind_s H
      refine TL.gcq rfl rfl rfl (.bool _) rfl rfl (fun h=>o_callP rfl en_55 rfl (evl_1 (gv h rfl)) (.cons _ _ _ _ (.cl _ rfl) .nil) (impl_GoodName_p  (gdO_t h4 h))) ?_
      refine au 4 ?_
      obtain ⟨r5,h6,H⟩:=bind_s H
      refine TL.gcq rfl rfl rfl (.bool _) rfl rfl (fun h=>o_callP rfl en_114 rfl (evl_3 (gv h rfl) rfl rfl) (.cons _ _ _ _ (.cl _ rfl) (.cons _ _ _ _ (.cl _ rfl) (.cons _ _ _ _ (.cl _ rfl) .nil))) (impl_yprinted_p  (gdO_t h6 h))) ?_
      refine au 4 ?_
      refine inB_ret (thn_ret ?_)
      cases some_i H
      exact ⟨trivial,_,(.tmp _ _ _ _ rfl .nil),(.cl _ rfl)⟩
     ·refine au 5 ?_
      refine T.cH H ?_ ?_<;>intro H h
      ·refine au 8 ?_
       obtain ⟨r7,h8,H⟩:=bind_s H
       refine TL.gcq rfl rfl rfl (.bool _) rfl rfl (fun h=>o_callP rfl en_55 rfl (evl_1 (gv h rfl)) (.cons _ _ _ _ (.cl _ rfl) .nil) (impl_GoodName_p  (gdO_t h8 h))) ?_
       refine au 4 ?_
       refine TL.gcq rfl rfl rfl (.bool _) rfl rfl (fun h=>o_str rfl (gv h rfl) rfl rfl) ?_
       refine au 4 ?_
       refine inB_ret (thn_ret ?_)
       cases some_i H
       exact ⟨trivial,_,(.tmp _ _ _ _ rfl .nil),(.cl _ rfl)⟩
      ·refine au 5 ?_
       refine T.cH H ?_ ?_<;>intro H h
       ·refine au 4 ?_
        obtain ⟨⟨r9,r10⟩,h11,H⟩:=bind_s H
        refine TL.st rfl rfl rfl (o_callP rfl en_116 rfl rfl (.cons _ _ _ _ (.cl _ rfl) .nil) (impl_ypattern_p  h11)) ?_
        refine au 14 ?_
        obtain ⟨r12,h13,H⟩:=bind_s H
        refine TL.gcq rfl rfl rfl (.bool _) rfl rfl (fun h=>o_callP rfl en_55 rfl (evl_1 (gv h rfl)) (.cons _ _ _ _ (.cl _ rfl) .nil) (impl_GoodName_p  (gdO_t h13 h))) ?_
        refine au 4 ?_
        obtain ⟨r14,h15,H⟩:=bind_s H
        refine TL.gcq rfl rfl rfl (.bool _) rfl rfl (fun h=>o_callP rfl en_114 rfl (evl_3 (gv h rfl) rfl rfl) (.cons _ _ _ _ (.cl _ rfl) (.cons _ _ _ _ (.cl _ rfl) (.cons _ _ _ _ (.cl _ rfl) .nil))) (impl_yprinted_p  (gdO_t h15 h))) ?_
        refine au 7 ?_
        refine inB_ret (thn_ret ?_)
        cases some_i H
        exact ⟨trivial,_,(.tmp _ _ _ _ rfl .nil),(.cl _ rfl)⟩
       ·refine au 6 ?_
        cases some_i H
        exact ⟨trivial,_,(.tmp _ _ _ _ rfl .nil),(.cl _ rfl)⟩
theorem en_74 : En Tryz.prog 74:=.of Tryz.func74 rfl rfl
noncomputable def impl_GoodFilter_1 (a0 : I_FilterNode) : Option Bool :=
  (impl_ygoodNode a0).bind fun r1=>some (!r1)
theorem impl_GoodFilter_1_p  {a0 : I_FilterNode} {R0 : Bool} (H : impl_GoodFilter_1 a0 = some R0) : Pure Tryz.prog 73 [.agg (c_I_FilterNode false a0)] (.bool R0):=by
 refine CallT.of_TN (n:=6) Tryz.func73 rfl rfl rfl rfl ?_
 refine au 8 ?_
 obtain ⟨r1,h2,H⟩:=bind_s H
 refine TL.st rfl rfl rfl (o_callP rfl en_74 rfl rfl (.cons _ _ _ _ (.cl _ rfl) .nil) (impl_ygoodNode_p  h2)) ?_
 refine au 4 ?_
 cases some_i H
 exact ⟨trivial,_,(.tmp _ _ _ _ rfl .nil),(.cl _ rfl)⟩
theorem en_73 : En Tryz.prog 73:=.of Tryz.func73 rfl rfl
noncomputable def impl_FilterNode_x_l1 (a0 : (List I_FilterNode)) : Int → Option (Int ⊕ (Unit ⊕ Int)):=fun s=>match s with
  | v1=>cond (decide (v1 < (a0.length : Int))) ((idx a0 v1).bind fun e4=>(impl_GoodFilter_1 e4).bind fun r6=>cond r6 (some (.inr (.inr v1))) (some (.inl (IntKind.i64.wrap (v1 + 1))))) (some (.inr (.inl ())))
noncomputable def impl_FilterNode_x (a0 : (List I_FilterNode)) : Option Int :=
  (loopO (impl_FilterNode_x_l1 a0) 0).bind fun q8=>(match q8 with | .inl _=>some (-1) | .inr q2=>some q2)
theorem impl_FilterNode_x_p (b0 : Bool) {a0 : (List I_FilterNode)} {R0 : Int} (H : impl_FilterNode_x a0 = some R0) : Pure Tryz.prog 115 [.im b0 (a0.map (c_I_FilterNode false)),.fn 73 [] []] (.int .i64 R0):=by
 refine CallT.of_TN (n:=19) Tryz.func115 rfl rfl rfl rfl ?_
 refine au 8 ?_
 refine TL.st rfl rfl rfl (o_lenL (f:=c_I_FilterNode false) rfl rfl rfl) ?_
 refine au 3 ?_
 obtain ⟨q8,h9,H⟩:=bind_s H
 refine T.lq (fun s=>match s with | v1=>[(0,.im b0 (a0.map (c_I_FilterNode false))),(1,.fn 73 [] []),(7,.int .i64 (a0.length : Int)),(8,.int .i64 v1)]) (fun s=>match s with | v1=>[]) (fun q ex fr σ=>match q with | .inl _=>ex = .exit 0 ∧ fr = [] ∧ σ = [] | .inr q2=>ex = .ret ∧ RetN Tryz.prog [.tmp 4] (fun v τ=>Told τ v (.int .i64 q2)) .ret fr σ) h9 ?_ ?_
 ·rintro v1 y3 H
  refine au 5 ?_
  refine T.cH H ?_ ?_<;>intro H h
  ·refine au 13 ?_
   obtain ⟨e4,h5,H⟩:=bind_s H
   refine TL.st rfl rfl rfl (o_ix (f:=c_I_FilterNode false) rfl rfl tyS_77 rfl rfl h5 rfl) ?_
   refine TL.st rfl rfl rfl (o_loadRf rfl tyS_77 rfl (nb rfl) rfl) ?_
   obtain ⟨r6,h7,H⟩:=bind_s H
   refine TL.st rfl rfl rfl (o_callP rfl en_73 rfl rfl (.cons _ _ _ _ (.cl _ rfl) .nil) (impl_GoodFilter_1_p  h7)) ?_
   refine TL.nil ?_
   refine T.cH H ?_ ?_<;>intro H h
   ·refine au 6 ?_
    refine inB_ret (thn_ret ?_)
    exact Pk.id (thn_ret ⟨.inr v1,(some_i H).symm,rfl,⟨trivial,_,(.tmp _ _ _ _ rfl .nil),(.cl _ rfl)⟩⟩)
   ·refine au 5 ?_
    exact Pk.of (thn_normal ⟨(IntKind.i64.wrap (v1 + 1)),(some_i H).symm,rfl,rfl⟩)
  ·refine T.exit ?_
   refine thn_exit ?_
   exact Pk.of (thn_exit ⟨.inl (),(some_i H).symm,rfl,rfl,rfl⟩)
 ·rcases q8 with ⟨⟩ | q2
  ·rintro _ _ _ ⟨rfl,rfl,rfl⟩
   refine inB_here ?_
   refine au 5 ?_
   cases some_i H
   exact ⟨trivial,_,(.tmp _ _ _ _ rfl .nil),(.cl _ rfl)⟩
  ·rintro _ fr1 σ1 ⟨rfl,hr⟩
   refine inB_ret (thn_ret ?_)
   cases some_i H
   exact hr
theorem en_115 : En Tryz.prog 115:=.of Tryz.func115 rfl rfl
noncomputable def impl_FilterNode_ (a0 : (List I_FilterNode)) : Option Bool :=
  (impl_FilterNode_x a0).bind fun r1=>some (decide (r1 ≥ 0))
theorem impl_FilterNode__p (b0 : Bool) {a0 : (List I_FilterNode)} {R0 : Bool} (H : impl_FilterNode_ a0 = some R0) : Pure Tryz.prog 72 [.im b0 (a0.map (c_I_FilterNode false)),.fn 73 [] []] (.bool R0):=by
 refine CallT.of_TN (n:=9) Tryz.func72 rfl rfl rfl rfl ?_
 refine au 8 ?_
 obtain ⟨r1,h2,H⟩:=bind_s H
 refine TL.st rfl rfl rfl (o_callP rfl en_115 rfl rfl (.cons _ _ _ _ (.imv _ _) (.cons _ _ _ _ (.fn _ _ _ _ _ rfl rfl (fun i c d h=>by simp at h) (fun i c d h=>by simp at h)) .nil)) (impl_FilterNode_x_p b0 h2)) ?_
 refine au 4 ?_
 cases some_i H
 exact ⟨trivial,_,(.tmp _ _ _ _ rfl .nil),(.cl _ rfl)⟩
theorem en_72 : En Tryz.prog 72:=.of Tryz.func72 rfl rfl
theorem en_75 : En Tryz.prog 75:=.of Tryz.func75 rfl rfl
noncomputable def impl_ytree_l1 (a0 : (List I_FilterNode)) (a2 : Int) (rec_impl_ytree : ((List I_FilterNode) × Int × Int) → Option Int) (e1 : I_FilterNode) : (Int × Int) → Option ((Int × Int) ⊕ (Int ⊕ Int)):=fun s=>match s with
  | (v3,v4)=>cond (decide (v4 < e1.Kids_)) ((rec_impl_ytree (a0,(IntKind.i64.wrap (v3 + 1)),(IntKind.i64.wrap (a2 + 1)))).bind fun r8=>cond (decide ((IntKind.i64.wrap (r8 - 1)) < 0)) (some (.inr (.inr (-1)))) (some (.inl ((IntKind.i64.wrap (r8 - 1)),(IntKind.i64.wrap (v4 + 1)))))) (some (.inr (.inl v3)))
noncomputable def impl_ytree_b (rec_impl_ytree : ((List I_FilterNode) × Int × Int) → Option Int) (a0 : (List I_FilterNode)) (a1 : Int) (a2 : Int) : Option Int :=
  cond (decide (a1 ≥ (a0.length : Int)) || decide (a2 > 20)) (some (-1)) ((idx a0 a1).bind fun e1=>(loopO (impl_ytree_l1 a0 a2 rec_impl_ytree e1) (a1,0)).bind fun q10=>(match q10 with | .inl v5=>some (IntKind.i64.wrap (v5 + 1)) | .inr q6=>some q6))
noncomputable def impl_ytree (a0 : (List I_FilterNode)) (a1 : Int) (a2 : Int) : Option Int:=fixO (fun rec_impl_ytree x=>match x with | (a0,a1,a2)=>impl_ytree_b rec_impl_ytree a0 a1 a2) (a0,a1,a2)
theorem impl_ytree_pb {rec_impl_ytree : ((List I_FilterNode) × Int × Int) → Option Int} (Hrec_impl_ytree : ∀ (b0 : Bool) {a0 : (List I_FilterNode)} {a1 : Int} {a2 : Int} {R0 : Int},rec_impl_ytree (a0,a1,a2) = some R0 → Pure Tryz.prog 75 [.im b0 (a0.map (c_I_FilterNode false)),.int .i64 a1,.int .i64 a2] (.int .i64 R0)) (b0 : Bool) {a0 : (List I_FilterNode)} {a1 : Int} {a2 : Int} {R0 : Int} (H : impl_ytree_b rec_impl_ytree a0 a1 a2 = some R0) : Pure Tryz.prog 75 [.im b0 (a0.map (c_I_FilterNode false)),.int .i64 a1,.int .i64 a2] (.int .i64 R0):=by
 refine CallT.of_TN (n:=36) Tryz.func75 rfl rfl rfl rfl ?_
 refine au 9 ?_
 refine TL.st rfl rfl rfl (o_lenL (f:=c_I_FilterNode false) rfl rfl rfl) ?_
 refine au 6 ?_
 refine T.cH H ?_ ?_<;>intro H h
 ·refine au 5 ?_
  refine thn_ret ?_
  cases some_i H
  exact ⟨trivial,_,(.tmp _ _ _ _ rfl .nil),(.cl _ rfl)⟩
 ·refine au 5 ?_
  obtain ⟨e1,h2,H⟩:=bind_s H
  refine TL.st rfl rfl rfl (o_ix (f:=c_I_FilterNode false) rfl rfl tyS_77 rfl rfl h2 rfl) ?_
  refine au 12 ?_
  obtain ⟨q10,h11,H⟩:=bind_s H
  refine T.lq (fun s=>match s with | (v3,v4)=>[(0,.im b0 (a0.map (c_I_FilterNode false))),(1,.int .i64 v3),(2,.int .i64 a2),(21,.int .i64 e1.Kids_),(22,.int .i64 v4)]) (fun s=>match s with | (v3,v4)=>[.box (c_I_FilterNode false e1)]) (fun q ex fr σ=>match q with | .inl v5=>ex = .exit 0 ∧ fr = [(1,.int .i64 v5)] ∧ σ = [.box (c_I_FilterNode false e1)] | .inr q6=>ex = .ret ∧ RetN Tryz.prog [.tmp 6] (fun v τ=>Told τ v (.int .i64 q6)) .ret fr σ) h11 ?_ ?_
  ·rintro ⟨v3,v4⟩ y7 H
   refine au 5 ?_
   refine T.cH H ?_ ?_<;>intro H h
   ·refine au 10 ?_
    obtain ⟨r8,h9,H⟩:=bind_s H
    refine TL.st rfl rfl rfl (o_callP rfl en_75 rfl rfl (.cons _ _ _ _ (.imv _ _) (.cons _ _ _ _ (.cl _ rfl) (.cons _ _ _ _ (.cl _ rfl) .nil))) (Hrec_impl_ytree b0 h9)) ?_
    refine au 8 ?_
    refine T.cH H ?_ ?_<;>intro H h
    ·refine au 5 ?_
     refine inB_ret (thn_ret ?_)
     exact Pk.id (thn_ret ⟨.inr (-1),(some_i H).symm,rfl,⟨trivial,_,(.tmp _ _ _ _ rfl .nil),(.cl _ rfl)⟩⟩)
    ·refine au 5 ?_
     exact Pk.of (thn_normal ⟨((IntKind.i64.wrap (r8 - 1)),(IntKind.i64.wrap (v4 + 1))),(some_i H).symm,rfl,rfl⟩)
   ·refine T.exit ?_
    refine thn_exit ?_
    exact Pk.of (thn_exit ⟨.inl v3,(some_i H).symm,rfl,rfl,rfl⟩)
  ·rcases q10 with v5 | q6
   ·rintro _ _ _ ⟨rfl,rfl,rfl⟩
    refine inB_here ?_
    refine au 7 ?_
    cases some_i H
    exact ⟨trivial,_,(.tmp _ _ _ _ rfl .nil),(.cl _ rfl)⟩
   ·rintro _ fr1 σ1 ⟨rfl,hr⟩
    refine inB_ret (thn_ret ?_)
    cases some_i H
    exact hr
theorem impl_ytree_p (b0 : Bool) {a0 : (List I_FilterNode)} {a1 : Int} {a2 : Int} {R0 : Int} (H : impl_ytree a0 a1 a2 = some R0) : Pure Tryz.prog 75 [.im b0 (a0.map (c_I_FilterNode false)),.int .i64 a1,.int .i64 a2] (.int .i64 R0) :=
 fixO_ind (fun x r=>match x,r with | (a0,a1,a2),R0=>∀ (b0 : Bool),Pure Tryz.prog 75 [.im b0 (a0.map (c_I_FilterNode false)),.int .i64 a1,.int .i64 a2] (.int .i64 R0)) (fun rec_impl_ytree Hrec x r h=>match x,r,h with | (a0,a1,a2),R0,h=>fun b0=>impl_ytree_pb (fun b0 {a0} {a1} {a2} {R0} h=>Hrec (a0,a1,a2) R0 h b0) b0 h) H b0
noncomputable def impl_GoodFilter (a0 : (List I_FilterNode)) : Option Bool :=
  (gdO (!(((a0.length : Int) == 0) || decide ((a0.length : Int) > 60))) (impl_FilterNode_ a0)).bind fun r1=>cond ((((a0.length : Int) == 0) || decide ((a0.length : Int) > 60)) || r1) (some false) ((impl_ytree a0 0 1).bind fun r3=>some (r3 == (a0.length : Int)))
theorem impl_GoodFilter_p (b0 : Bool) {a0 : (List I_FilterNode)} {R0 : Bool} (H : impl_GoodFilter a0 = some R0) : Pure Tryz.prog 32 [.im b0 (a0.map (c_I_FilterNode false))] (.bool R0):=by
 refine CallT.of_TN (n:=20) Tryz.func32 rfl rfl rfl rfl ?_
 refine au 8 ?_
 refine TL.st rfl rfl rfl (o_lenL (f:=c_I_FilterNode false) rfl rfl rfl) ?_
 refine au 3 ?_
 refine TL.gcq rfl rfl rfl (.bool _) rfl rfl (fun h=>o_lenL (f:=c_I_FilterNode false) rfl rfl (gv h rfl)) ?_
 refine au 4 ?_
 obtain ⟨r1,h2,H⟩:=bind_s H
 refine TL.gcq rfl rfl rfl (.bool _) rfl rfl (fun h=>o_callP rfl en_72 rfl (evl_2 (gv h rfl) rfl) (.cons _ _ _ _ (.imv _ _) (.cons _ _ _ _ (.fn _ _ _ _ _ rfl rfl (fun i c d h=>by simp at h) (fun i c d h=>by simp at h)) .nil)) (impl_FilterNode__p b0 (gdO_t h2 h))) ?_
 refine au 2 ?_
 refine T.cH H ?_ ?_<;>intro H h
 ·refine au 5 ?_
  refine thn_ret ?_
  cases some_i H
  exact ⟨trivial,_,(.tmp _ _ _ _ rfl .nil),(.cl _ rfl)⟩
 ·refine au 4 ?_
  obtain ⟨r3,h4,H⟩:=bind_s H
  refine TL.st rfl rfl rfl (o_callP rfl en_75 rfl rfl (.cons _ _ _ _ (.imv _ _) (.cons _ _ _ _ (.cl _ rfl) (.cons _ _ _ _ (.cl _ rfl) .nil))) (impl_ytree_p b0 h4)) ?_
  refine TL.st rfl rfl rfl (o_move rfl rfl) ?_
  refine TL.st rfl rfl rfl (o_lenL (f:=c_I_FilterNode false) rfl rfl rfl) ?_
  refine au 4 ?_
  cases some_i H
  exact ⟨trivial,_,(.tmp _ _ _ _ rfl .nil),(.cl _ rfl)⟩
theorem en_32 : En Tryz.prog 32:=.of Tryz.func32 rfl rfl
noncomputable def impl_ygoodAttrs_l2 (e4 : I_Attr) : Int → Option (Int ⊕ (Unit ⊕ Bool)):=fun s=>match s with
  | v12=>cond (decide (v12 < (e4.Values_.length : Int))) ((idx e4.Values_ v12).bind fun e15=>(impl_yprinted e15 1 200).bind fun r17=>cond (!r17) (some (.inr (.inr false))) (some (.inl (IntKind.i64.wrap (v12 + 1))))) (some (.inr (.inl ())))
noncomputable def impl_ygoodAttrs_l1 (a0 : (List I_Attr)) : Int → Option (Int ⊕ (Unit ⊕ Bool)):=fun s=>match s with
  | v1=>cond (decide (v1 < (a0.length : Int))) ((idx a0 v1).bind fun e4=>(impl_GoodName e4.Name_).bind fun r6=>(gdO ((!(!r6)) && decide (v1 > 0)) (idx a0 (IntKind.i64.wrap (v1 - 1)))).bind fun e8=>(gdO (!((((!r6) || (decide (v1 > 0) && (!(Op.bytesLess e8.Name_.toList e4.Name_.toList)))) || decide ((e4.Values_.length : Int) < 1)) || decide ((e4.Values_.length : Int) > 30))) (impl_yrising e4.Values_)).bind fun r10=>cond (((((!r6) || (decide (v1 > 0) && (!(Op.bytesLess e8.Name_.toList e4.Name_.toList)))) || decide ((e4.Values_.length : Int) < 1)) || decide ((e4.Values_.length : Int) > 30)) || (!r10)) (some (.inr (.inr false))) ((loopO (impl_ygoodAttrs_l2 e4) 0).bind fun q19=>(match q19 with | .inl _=>some (.inl (IntKind.i64.wrap (v1 + 1))) | .inr q13=>some (.inr (.inr q13))))) (some (.inr (.inl ())))
noncomputable def impl_ygoodAttrs (a0 : (List I_Attr)) : Option Bool :=
  (loopO (impl_ygoodAttrs_l1 a0) 0).bind fun q21=>(match q21 with | .inl _=>some true | .inr q2=>some q2)
theorem impl_ygoodAttrs_p (b0 : Bool) {a0 : (List I_Attr)} {R0 : Bool} (H : impl_ygoodAttrs a0 = some R0) : Pure Tryz.prog 71 [.im b0 (a0.map (c_I_Attr false))] (.bool R0):=by
 refine CallT.of_TN (n:=63) Tryz.func71 rfl rfl rfl rfl ?_
 refine au 8 ?_
 refine TL.st rfl rfl rfl (o_lenL (f:=c_I_Attr false) rfl rfl rfl) ?_
 refine au 3 ?_
 obtain ⟨q21,h22,H⟩:=bind_s H
 refine T.lq (fun s=>match s with | v1=>[(0,.im b0 (a0.map (c_I_Attr false))),(7,.im b0 (a0.map (c_I_Attr false))),(8,.int .i64 (a0.length : Int)),(9,.int .i64 v1)]) (fun s=>match s with | v1=>[]) (fun q ex fr σ=>match q with | .inl _=>ex = .exit 0 ∧ fr = [] ∧ σ = [] | .inr q2=>ex = .ret ∧ RetN Tryz.prog [.tmp 2] (fun v τ=>Told τ v (.bool q2)) .ret fr σ) h22 ?_ ?_
 ·rintro v1 y3 H
  refine au 5 ?_
  refine T.cH H ?_ ?_<;>intro H h
  ·refine au 6 ?_
   obtain ⟨e4,h5,H⟩:=bind_s H
   refine TL.st rfl rfl rfl (o_ix (f:=c_I_Attr false) rfl rfl tyS_114 rfl rfl h5 rfl) ?_
   refine au 7 ?_
   refine T.drawn rfl ?_
   refine ad 2 ?_
   obtain ⟨r6,h7,H⟩:=bind_s H
   refine TD.qs rfl rfl (fun _=>o_callP rfl en_55 rfl rfl (.cons _ _ _ _ (.cl _ rfl) .nil) (impl_GoodName_p  h7)) ?_
   refine ad 3 ?_
   refine TD.cq rfl rfl rfl (.bool _) rfl (fun h _=>o_ari rfl (gv h rfl) rfl rfl) ?_
   refine TD.cq rfl rfl rfl (.bool _) rfl (fun h _=>o_move rfl (gv h rfl)) ?_
   refine TD.cq rfl rfl rfl (.gd _ _) rfl (fun h _=>o_move rfl rfl) ?_
   refine TD.cq rfl rfl rfl (.gd _ _) rfl (fun h _=>o_move rfl rfl) ?_
   refine TD.cq rfl rfl rfl (.gd _ _) rfl (fun h _=>o_ari rfl (gv h rfl) rfl rfl) ?_
   obtain ⟨e8,h9,H⟩:=bind_s H
   refine TD.cq rfl rfl rfl (.gd _ _) rfl (fun h _=>o_ix (f:=c_I_Attr false) rfl rfl tyS_114 (gv h rfl) (gv h rfl) (gdO_t h9 h) rfl) ?_
   refine TD.cq rfl rfl rfl (.gd _ _) rfl (fun h _=>o_fieldAddr rfl rfl rfl tyS_9 (by decide) (gv h rfl) rfl trivial) ?_
   refine TD.cq rfl rfl rfl (.gd _ _) rfl (fun h _=>o_loadRf rfl tyS_9 (gv h rfl) (nb rfl) rfl) ?_
   refine TD.cr rfl rfl rfl (.gd _ _) rfl (fun h=>o_fieldAddr rfl rfl rfl tyS_9 (by decide) rfl rfl ⟨_,rfl,Nat.le_of_ble_eq_true rfl⟩) ?_
   refine TD.cr rfl rfl rfl (.gd _ _) rfl (fun h=>o_loadBx rfl tyS_9 (gv h rfl) rfl (nb rfl) rfl) ?_
   refine TD.cq rfl rfl rfl (.gd _ _) rfl (fun h _=>o_str rfl (gv h rfl) (gv h rfl) rfl) ?_
   refine TD.cq rfl rfl rfl (.bool _) rfl (fun h _=>o_and rfl (gv h rfl) rfl (fun k=>Gd_t (andi h k)) rfl) ?_
   refine ad 4 ?_
   refine TD.cq rfl rfl rfl (.bool _) rfl (fun h _=>o_lenL (f:=c_str) rfl rfl (gv h rfl)) ?_
   refine TD.cq rfl rfl rfl (.bool _) rfl (fun h _=>o_ari rfl (gv h rfl) rfl rfl) ?_
   refine ad 4 ?_
   refine TD.cq rfl rfl rfl (.bool _) rfl (fun h _=>o_lenL (f:=c_str) rfl rfl (gv h rfl)) ?_
   refine TD.cq rfl rfl rfl (.bool _) rfl (fun h _=>o_ari rfl (gv h rfl) rfl rfl) ?_
   refine ad 4 ?_
   obtain ⟨r10,h11,H⟩:=bind_s H
   refine TD.cq rfl rfl rfl (.bool _) rfl (fun h _=>o_callP rfl en_69 rfl (evl_1 (gv h rfl)) (.cons _ _ _ _ (.cl _ rfl) .nil) (impl_yrising_p false (gdO_t h11 h))) ?_
   refine TD.cq rfl rfl rfl (.bool _) rfl (fun h _=>o_not rfl (gv h rfl)) ?_
   refine TD.qs rfl rfl (fun _=>o_or rfl rfl rfl rfl (fun k=>Gd_t k)) ?_
   refine TD.nil ⟨rfl,?_⟩
   refine thn_normal ?_
   refine T.cH H ?_ ?_<;>intro H h
   ·refine au 5 ?_
    refine thn_ret (inB_ret (thn_ret ?_))
    exact Pk.id (thn_ret ⟨.inr false,(some_i H).symm,rfl,⟨trivial,_,(.tmp _ _ _ _ rfl .nil),(.cl _ rfl)⟩⟩)
   ·refine au 5 ?_
    refine TL.st rfl rfl rfl (o_lenL (f:=c_str) rfl rfl rfl) ?_
    refine au 3 ?_
    obtain ⟨q19,h20,H⟩:=bind_s H
    refine T.lq (fun s=>match s with | v12=>[(0,.im b0 (a0.map (c_I_Attr false))),(7,.im b0 (a0.map (c_I_Attr false))),(8,.int .i64 (a0.length : Int)),(9,.int .i64 v1),(52,.im false (e4.Values_.map (c_str))),(53,.int .i64 (e4.Values_.length : Int)),(54,.int .i64 v12)]) (fun s=>match s with | v12=>[.box (c_I_Attr false e4)]) (fun q ex fr σ=>match q with | .inl _=>ex = .exit 2 ∧ fr = [(0,.im b0 (a0.map (c_I_Attr false))),(7,.im b0 (a0.map (c_I_Attr false))),(8,.int .i64 (a0.length : Int)),(9,.int .i64 v1)] ∧ σ = [.box (c_I_Attr false e4)] | .inr q13=>ex = .ret ∧ RetN Tryz.prog [.tmp 2] (fun v τ=>Told τ v (.bool q13)) .ret fr σ) h20 ?_ ?_
    ·rintro v12 y14 H
     refine au 5 ?_
     refine T.cH H ?_ ?_<;>intro H h
     ·refine au 5 ?_
      obtain ⟨e15,h16,H⟩:=bind_s H
      refine TL.st rfl rfl rfl (o_ix (f:=c_str) rfl rfl tyS_9 rfl rfl h16 rfl) ?_
      refine au 6 ?_
      obtain ⟨r17,h18,H⟩:=bind_s H
      refine TL.st rfl rfl rfl (o_callP rfl en_114 rfl rfl (.cons _ _ _ _ (.cl _ rfl) (.cons _ _ _ _ (.cl _ rfl) (.cons _ _ _ _ (.cl _ rfl) .nil))) (impl_yprinted_p  h18)) ?_
      refine au 2 ?_
      refine T.cH H ?_ ?_<;>intro H h
      ·refine au 5 ?_
       refine inB_ret (thn_ret ?_)
       exact Pk.id (thn_ret ⟨.inr false,(some_i H).symm,rfl,⟨trivial,_,(.tmp _ _ _ _ rfl .nil),(.cl _ rfl)⟩⟩)
      ·refine au 5 ?_
       exact Pk.of (thn_normal ⟨(IntKind.i64.wrap (v12 + 1)),(some_i H).symm,rfl,rfl⟩)
     ·refine T.exit ?_
      refine thn_exit ?_
      exact Pk.of (thn_exit ⟨.inl (),(some_i H).symm,rfl,rfl,rfl⟩)
    ·rcases q19 with ⟨⟩ | q13
     ·rintro _ _ _ ⟨rfl,rfl,rfl⟩
      refine inB_here ?_
      refine au 4 ?_
      exact Pk.of (thn_normal ⟨(IntKind.i64.wrap (v1 + 1)),(some_i H).symm,rfl,rfl⟩)
     ·rintro _ fr1 σ1 ⟨rfl,hr⟩
      refine inB_ret (inB_ret (thn_ret ?_))
      exact Pk.id (thn_ret ⟨.inr q13,(some_i H).symm,rfl,hr⟩)
  ·refine T.exit ?_
   refine thn_exit ?_
   exact Pk.of (thn_exit ⟨.inl (),(some_i H).symm,rfl,rfl,rfl⟩)
 ·rcases q21 with ⟨⟩ | q2
  ·rintro _ _ _ ⟨rfl,rfl,rfl⟩
   refine inB_here ?_
   refine au 5 ?_
   cases some_i H
   exact ⟨trivial,_,(.tmp _ _ _ _ rfl .nil),(.cl _ rfl)⟩
  ·rintro _ fr1 σ1 ⟨rfl,hr⟩
   refine inB_ret (thn_ret ?_)
   cases some_i H
   exact hr
theorem en_71 : En Tryz.prog 71:=.of Tryz.func71 rfl rfl
noncomputable def impl_GoodEntry (a0 : I_Entry) : Option Bool :=
  (impl_GoodDirName a0.Name_).bind fun r1=>(gdO (((r1 && decide ((a0.Name_.length : Int) > 0)) && decide ((a0.Attrs_.length : Int) ≥ 1)) && decide ((a0.Attrs_.length : Int) ≤ 30)) (impl_ygoodAttrs a0.Attrs_)).bind fun r3=>some ((((r1 && decide ((a0.Name_.length : Int) > 0)) && decide ((a0.Attrs_.length : Int) ≥ 1)) && decide ((a0.Attrs_.length : Int) ≤ 30)) && r3)
theorem impl_GoodEntry_p (b0 : Bool) {a0 : I_Entry} {R0 : Bool} (H : impl_GoodEntry a0 = some R0) : Pure Tryz.prog 31 [.agg (c_I_Entry b0 a0)] (.bool R0):=by
 refine CallT.of_TN (n:=29) Tryz.func31 rfl rfl rfl rfl ?_
 refine au 9 ?_
 obtain ⟨r1,h2,H⟩:=bind_s H
 refine TL.st rfl rfl rfl (o_callP rfl en_44 rfl rfl (.cons _ _ _ _ (.imv _ _) .nil) (impl_GoodDirName_p b0 h2)) ?_
 refine au 3 ?_
 refine TL.gcq rfl rfl rfl (.bool _) rfl rfl (fun h=>o_lenL (f:=c_I_Part false) rfl rfl (gv h rfl)) ?_
 refine au 5 ?_
 refine TL.gcq rfl rfl rfl (.bool _) rfl rfl (fun h=>o_lenL (f:=c_I_Attr false) rfl rfl (gv h rfl)) ?_
 refine au 5 ?_
 refine TL.gcq rfl rfl rfl (.bool _) rfl rfl (fun h=>o_lenL (f:=c_I_Attr false) rfl rfl (gv h rfl)) ?_
 refine au 5 ?_
 obtain ⟨r3,h4,H⟩:=bind_s H
 refine TL.gcq rfl rfl rfl (.bool _) rfl rfl (fun h=>o_callP rfl en_71 rfl (evl_1 (gv h rfl)) (.cons _ _ _ _ (.imv _ _) .nil) (impl_ygoodAttrs_p b0 (gdO_t h4 h))) ?_
 refine au 4 ?_
 cases some_i H
 exact ⟨trivial,_,(.tmp _ _ _ _ rfl .nil),(.cl _ rfl)⟩
theorem en_31 : En Tryz.prog 31:=.of Tryz.func31 rfl rfl
theorem en_132 : En Tryz.prog 132:=.of Tryz.func132 rfl rfl
theorem en_158 : En Tryz.prog 158:=.of Tryz.func158 rfl rfl
theorem tyE_5 : TyE Tryz.prog 5 1:=⟨_,_,rfl,rfl,rfl,rfl,by decide,by decide⟩
noncomputable def strings_Builder_WriteByte (a0 : Int) (s0 : T_strings_Builder) : Option (Unit × T_strings_Builder) :=
  (ccO (⟨(),s0.buf_⟩ : T_strings_Builder).buf_).bind fun u1=>(app s0.buf_ ([a0] : List Int)).bind fun l3=>some ((),(⟨(),l3⟩ : T_strings_Builder))
theorem strings_Builder_WriteByte_p  {a0 : Int} {s0 : T_strings_Builder} {R0 : Unit} {U0 : T_strings_Builder} (H : strings_Builder_WriteByte a0 s0 = some (R0,U0)) : St Tryz.prog 133 [.bx 0 0,.int .u8 a0] [.box [.px 0 170 1 0,.hd 1 (s0.buf_.map (c_int .u8)).length 0 (s0.buf_.map (c_int .u8)).length],.arr (.tg 5) 1 (s0.buf_.map (c_int .u8))] (.nilI) [.box [.px 0 170 1 0,.hd 2 (U0.buf_.map (c_int .u8)).length 0 (U0.buf_.map (c_int .u8)).length],.dead,.arr (.tg 5) 1 (U0.buf_.map (c_int .u8))]:=by
 refine CallT.fin (CallT.of_TN (n:=17) Tryz.func133 rfl rfl rfl rfl ?_) rfl rfl ⟨(bels_iff.1 rfl),⟨trivial,⟨trivial,trivial⟩⟩⟩
 refine T.conv (Cs.fresh 1 rfl rfl (by decide) rfl (nomS_all rfl rfl)) ?_
 refine T.conv (Cs.wkF (M:=3) (.k 0 rfl rfl (.k 1 rfl rfl .nil))) ?_
 refine T.conv (Cs.eqS (σ':=[.box [.px 0 170 1 0,.hd 2 (s0.buf_.map (c_int .u8)).length 0 (s0.buf_.map (c_int .u8)).length],.dead,.arr (.tg 5) 1 (s0.buf_.map (c_int .u8))]) rfl) ?_
 refine au 7 ?_
 obtain ⟨u1,h2,H⟩:=bind_s H
 refine TL.st rfl rfl rfl (o_callS [0,2] rfl en_158 rfl rfl (MT.lib_158  h2) rfl (by decide) (.cons _ _ _ _ rfl (.cons _ _ _ _ rfl .nil)) rfl rfl rfl) ?_
 refine au 9 ?_
 refine TL.st rfl rfl rfl (o_sliceIm (rows:=([a0] : List Int).map (c_int .u8)) rfl rfl tyS_5 ⟨_,rfl,rfl⟩ (by decide) rfl rfl rfl rfl rfl rfl) ?_
 obtain ⟨l3,h4,H⟩:=bind_s H
 refine TL.st rfl rfl rfl (o_ap (f:=c_int .u8) (xs:=s0.buf_) (ys:=([a0] : List Int)) rfl rfl tyE_5 rfl rfl rfl rfl (by decide) rfl (fun _=>rfl) h4) ?_
 refine au 2 ?_
 refine TL.sn rfl rfl (o_storeBx rfl tyS_22 rfl rfl rfl rfl (nb rfl) (sure_hd rfl rfl rfl)) ?_
 refine au 2 ?_
 refine T.conv (Cs.eqS (σ':=[.box [.px 0 170 1 0,.hd 2 (l3.map (c_int .u8)).length 0 (l3.map (c_int .u8)).length],_,.arr (.tg 5) 1 (l3.map (c_int .u8))]) rfl) ?_
 refine au 4 ?_
 cases some_i H
 exact ⟨trivial,_,(.tmp _ _ _ _ rfl .nil),⟨rfl,_,rfl⟩⟩
theorem en_133 : En Tryz.prog 133:=.of Tryz.func133 rfl rfl
noncomputable def strings_Builder_String (s0 : T_strings_Builder) : Option ByteArray :=
  some (byS s0.buf_)
theorem strings_Builder_String_p  {s0 : T_strings_Builder} {R0 : ByteArray} (H : strings_Builder_String s0 = some R0) : St Tryz.prog 134 [.bx 0 0] [.box [.px 0 170 1 0,.hd 1 (s0.buf_.map (c_int .u8)).length 0 (s0.buf_.map (c_int .u8)).length],.arr (.tg 5) 1 (s0.buf_.map (c_int .u8))] (.str R0) [.box [.px 0 170 1 0,.hd 2 (s0.buf_.map (c_int .u8)).length 0 (s0.buf_.map (c_int .u8)).length],.dead,.dead]:=by
 refine CallT.fin (CallT.of_TN (n:=14) Tryz.func134 rfl rfl rfl rfl ?_) rfl rfl ⟨(bels_iff.1 rfl),⟨trivial,⟨trivial,trivial⟩⟩⟩
 refine T.conv (Cs.fresh 1 rfl rfl (by decide) rfl (nomS_all rfl rfl)) ?_
 refine T.conv (Cs.wkF (M:=3) (.k 0 rfl rfl .nil)) ?_
 refine T.conv (Cs.eqS (σ':=[.box [.px 0 170 1 0,.hd 2 (s0.buf_.map (c_int .u8)).length 0 (s0.buf_.map (c_int .u8)).length],.dead,.arr (.tg 5) 1 (s0.buf_.map (c_int .u8))]) rfl) ?_
 refine au 5 ?_
 refine T.drawn rfl ?_
 refine ad 4 ?_
 refine TD.rs rfl rfl (o_sliceData rfl rfl rfl rfl rfl) ?_
 refine ad 4 ?_
 refine TD.rs rfl rfl (o_lenOwn (f:=c_int .u8) rfl rfl rfl rfl rfl) ?_
 refine TD.as rfl rfl (o_unsafeString (f:=c_int .u8) (ns:=s0.buf_) rfl rfl rfl (fun _=>rfl) rfl rfl rfl) ?_
 refine TD.qs rfl rfl (fun _=>o_assign rfl rfl) ?_
 refine TD.nil ⟨rfl,?_⟩
 refine T.ret ?_
 cases some_i H
 exact ⟨trivial,_,(.tmp _ _ _ _ rfl .nil),⟨rfl,_,rfl⟩⟩
theorem en_134 : En Tryz.prog 134:=.of Tryz.func134 rfl rfl
noncomputable def impl_yescape_j1 (a0 : ByteArray) (v2 : Int) (b7 : T_strings_Builder) : Option ((T_strings_Builder × Int) ⊕ T_strings_Builder) :=
  (idxS a0 v2).bind fun b8=>(strings_Builder_WriteByte b8 (⟨(),b7.buf_⟩ : T_strings_Builder)).bind fun q=>(match q with | (r10,o11)=>some (.inl ((⟨(),o11.buf_⟩ : T_strings_Builder),(IntKind.i64.wrap (v2 + 1)))))
noncomputable def impl_yescape_l1 (a0 : ByteArray) (a1 : ByteArray) : (T_strings_Builder × Int) → Option ((T_strings_Builder × Int) ⊕ T_strings_Builder):=fun s=>match s with
  | (b1,v2)=>cond (decide (v2 < (a0.size : Int))) ((idxS a0 v2).bind fun b13=>(indexByteO a1 b13).bind fun r15=>cond (decide (r15 ≥ 0)) ((strings_Builder_WriteByte 92 (⟨(),b1.buf_⟩ : T_strings_Builder)).bind fun q=>(match q with | (r17,o18)=>impl_yescape_j1 a0 v2 (⟨(),o18.buf_⟩ : T_strings_Builder))) (impl_yescape_j1 a0 v2 (⟨(),b1.buf_⟩ : T_strings_Builder))) (some (.inr (⟨(),b1.buf_⟩ : T_strings_Builder)))
noncomputable def impl_yescape (a0 : ByteArray) (a1 : ByteArray) : Option ByteArray :=
  (loopO (impl_yescape_l1 a0 a1) ((⟨(),([] : List Int)⟩ : T_strings_Builder),0)).bind fun b3=>(match b3 with | b3=>(strings_Builder_String (⟨(),b3.buf_⟩ : T_strings_Builder)).bind fun r4=>some r4)
theorem impl_yescape_p  {a0 : ByteArray} {a1 : ByteArray} {R0 : ByteArray} (H : impl_yescape a0 a1 = some R0) : Pure Tryz.prog 93 [.str a0,.str a1] (.str R0):=by
 refine CallT.of_TN (n:=25) Tryz.func93 rfl rfl rfl rfl ?_
 refine au 6 ?_
 refine TL.st rfl rfl rfl (o_allocB rfl ⟨_,rfl,rfl⟩) ?_
 refine au 9 ?_
 refine T.conv (Cs.ownCellT (p:=0) 5 1 1 rfl rfl (by decide)) ?_
 obtain ⟨b3,h21,H⟩:=bind_s H
 refine T.lq (fun s=>match s with | (b1,v2)=>[(0,.str a0),(1,.str a1),(5,.bx 0 0),(8,.int .i64 (a0.size : Int)),(9,.int .i64 v2)]) (fun s=>match s with | (b1,v2)=>[.box [.px 0 170 1 0,.hd 1 (b1.buf_.map (c_int .u8)).length 0 (b1.buf_.map (c_int .u8)).length],.arr (.tg 5) 1 (b1.buf_.map (c_int .u8))]) (fun q ex fr σ=>match q with | b3=>ex = .exit 0 ∧ fr = [(5,.bx 0 0)] ∧ σ = [.box [.px 0 170 1 0,.hd 1 (b3.buf_.map (c_int .u8)).length 0 (b3.buf_.map (c_int .u8)).length],.arr (.tg 5) 1 (b3.buf_.map (c_int .u8))]) h21 ?_ ?_
 ·rintro ⟨b1,v2⟩ y6 H
  refine au 5 ?_
  refine T.cH H ?_ ?_<;>intro H h
  ·refine au 8 ?_
   refine T.cut (fun fr' σ'=>∃ (b7 : T_strings_Builder),fr' = [(0,.str a0),(1,.str a1),(5,.bx 0 0),(6,.int .i64 v2),(8,.int .i64 (a0.size : Int)),(9,.int .i64 v2)] ∧ σ' = [.box [.px 0 170 1 0,.hd 1 (b7.buf_.map (c_int .u8)).length 0 (b7.buf_.map (c_int .u8)).length],.arr (.tg 5) 1 (b7.buf_.map (c_int .u8))] ∧ impl_yescape_j1 a0 v2 b7 = some y6) (T.pk ?_) ?_
   ·skip
    refine au 5 ?_
    obtain ⟨b13,h14,H⟩:=bind_s H
    refine TL.st rfl rfl rfl (o_ixs rfl rfl rfl rfl h14) ?_
    obtain ⟨r15,h16,H⟩:=bind_s H
    refine TL.st rfl rfl rfl (o_callP rfl en_132 rfl rfl (.cons _ _ _ _ (.cl _ rfl) (.cons _ _ _ _ (.cl _ rfl) .nil)) (MT.lib_132  h16)) ?_
    refine au 2 ?_
    refine T.cH H ?_ ?_<;>intro H h
    ·refine T.region ?_
     obtain ⟨⟨r17,o18⟩,h19,H⟩:=bind_s H
     refine TL.st rfl rfl rfl (o_callS [0,1] rfl en_133 rfl rfl (strings_Builder_WriteByte_p  h19) rfl (by decide) (.cons _ _ _ _ rfl (.cons _ _ _ _ rfl .nil)) rfl rfl rfl) ?_
     refine TL.conv (Cs.wkF (M:=3) (.k 0 rfl rfl (.k 1 rfl rfl (.k 5 rfl rfl (.k 6 rfl rfl (.k 8 rfl rfl (.k 9 rfl rfl (.k 10 rfl rfl (.k 11 rfl rfl (.k 12 rfl rfl (.k 13 rfl rfl (.k 14 rfl rfl (.k 15 rfl rfl (.k 16 rfl rfl (.k 17 rfl rfl (.k 18 rfl rfl .nil)))))))))))))))) ?_
     refine TL.conv (Cs.reloc 1 2 rfl rfl (by decide) rfl rfl rfl (nomS_get rfl)) ?_
     refine TL.conv (Cs.wkF (M:=3) (.k 0 rfl rfl (.k 1 rfl rfl (.k 5 rfl rfl (.k 6 rfl rfl (.k 8 rfl rfl (.k 9 rfl rfl (.k 10 rfl rfl (.k 11 rfl rfl (.k 12 rfl rfl (.k 13 rfl rfl (.k 14 rfl rfl (.k 15 rfl rfl (.k 16 rfl rfl (.k 17 rfl rfl (.k 18 rfl rfl .nil)))))))))))))))) ?_
     refine TL.conv (Cs.eqS (σ':=[.box [.px 0 170 1 0,.hd 1 (o18.buf_.map (c_int .u8)).length 0 (o18.buf_.map (c_int .u8)).length],.arr (.tg 5) 1 (o18.buf_.map (c_int .u8)),.dead]) rfl) ?_
     refine TL.nil ?_
     exact Pk.of (thn_normal ⟨(⟨(),o18.buf_⟩ : T_strings_Builder),rfl,rfl,H⟩)
    ·refine T.skip ?_
     exact Pk.of (thn_normal ⟨(⟨(),b1.buf_⟩ : T_strings_Builder),rfl,rfl,H⟩)
   ·rintro _ _ ⟨b7,rfl,rfl,H⟩
    refine au 3 ?_
    obtain ⟨b8,h9,H⟩:=bind_s H
    refine TL.st rfl rfl rfl (o_ixs rfl rfl rfl rfl h9) ?_
    obtain ⟨⟨r10,o11⟩,h12,H⟩:=bind_s H
    refine TL.st rfl rfl rfl (o_callS [0,1] rfl en_133 rfl rfl (strings_Builder_WriteByte_p  h12) rfl (by decide) (.cons _ _ _ _ rfl (.cons _ _ _ _ rfl .nil)) rfl rfl rfl) ?_
    refine TL.conv (Cs.wkF (M:=3) (.k 0 rfl rfl (.k 1 rfl rfl (.k 5 rfl rfl (.k 6 rfl rfl (.k 8 rfl rfl (.k 9 rfl rfl (.k 19 rfl rfl (.k 20 rfl rfl (.k 21 rfl rfl (.k 22 rfl rfl .nil))))))))))) ?_
    refine TL.conv (Cs.reloc 1 2 rfl rfl (by decide) rfl rfl rfl (nomS_get rfl)) ?_
    refine TL.conv (Cs.wkF (M:=3) (.k 0 rfl rfl (.k 1 rfl rfl (.k 5 rfl rfl (.k 6 rfl rfl (.k 8 rfl rfl (.k 9 rfl rfl (.k 19 rfl rfl (.k 20 rfl rfl (.k 21 rfl rfl (.k 22 rfl rfl .nil))))))))))) ?_
    refine TL.conv (Cs.eqS (σ':=[.box [.px 0 170 1 0,.hd 1 (o11.buf_.map (c_int .u8)).length 0 (o11.buf_.map (c_int .u8)).length],.arr (.tg 5) 1 (o11.buf_.map (c_int .u8)),.dead]) rfl) ?_
    refine au 5 ?_
    exact Pk.of (thn_normal ⟨((⟨(),o11.buf_⟩ : T_strings_Builder),(IntKind.i64.wrap (v2 + 1))),(some_i H).symm,rfl,rfl⟩)
  ·refine T.exit ?_
   refine thn_exit ?_
   exact Pk.of (thn_exit ⟨(⟨(),b1.buf_⟩ : T_strings_Builder),(some_i H).symm,rfl,rfl,rfl⟩)
 ·rintro _ _ _ ⟨rfl,rfl,rfl⟩
  refine inB_here ?_
  refine au 2 ?_
  obtain ⟨r4,h5,H⟩:=bind_s H
  refine TL.st rfl rfl rfl (o_callS [0,1] rfl en_134 rfl rfl (strings_Builder_String_p  h5) rfl (by decide) (.cons _ _ _ _ rfl (.cons _ _ _ _ rfl .nil)) rfl rfl rfl) ?_
  refine au 3 ?_
  cases some_i H
  exact ⟨trivial,_,(.tmp _ _ _ _ rfl .nil),(.cl _ rfl)⟩
theorem en_93 : En Tryz.prog 93:=.of Tryz.func93 rfl rfl
theorem en_94 : En Tryz.prog 94:=.of Tryz.func94 rfl rfl
noncomputable def impl_NameText_l1 (a0 : (List I_Part)) : (List ByteArray × Int) → Option ((List ByteArray × Int) ⊕ List ByteArray):=fun s=>match s with
  | (l3,v4)=>cond (decide (v4 < (a0.length : Int))) ((idx a0 v4).bind fun e9=>(cat e9.Attr_ (ByteArray.mk #[61])).bind fun s11=>(impl_yescape e9.Text_ (ByteArray.mk #[44,92])).bind fun r13=>(cat s11 r13).bind fun s15=>(app l3 ([s15] : List ByteArray)).bind fun l17=>some (.inl (l17,(IntKind.i64.wrap (v4 + 1))))) (some (.inr l3))
noncomputable def impl_NameText (a0 : (List I_Part)) : Option ByteArray :=
  (impl_GoodDirName a0).bind fun r1=>cond (!r1) (some e0) ((loopO (impl_NameText_l1 a0) (([] : List ByteArray),0)).bind fun l5=>(match l5 with | l5=>(joinO l5 (ByteArray.mk #[44])).bind fun r6=>some r6))
theorem impl_NameText_p (b0 : Bool) {a0 : (List I_Part)} {R0 : ByteArray} (H : impl_NameText a0 = some R0) : Pure Tryz.prog 45 [.im b0 (a0.map (c_I_Part false))] (.str R0):=by
 refine CallT.of_TN (n:=28) Tryz.func45 rfl rfl rfl rfl ?_
 refine au 8 ?_
 obtain ⟨r1,h2,H⟩:=bind_s H
 refine TL.st rfl rfl rfl (o_callP rfl en_44 rfl rfl (.cons _ _ _ _ (.imv _ _) .nil) (impl_GoodDirName_p b0 h2)) ?_
 refine au 2 ?_
 refine T.cH H ?_ ?_<;>intro H h
 ·refine au 5 ?_
  refine thn_ret ?_
  cases some_i H
  exact ⟨trivial,_,(.tmp _ _ _ _ rfl .nil),(.cl _ rfl)⟩
 ·refine au 9 ?_
  refine TL.st rfl rfl rfl (o_lenL (f:=c_I_Part false) rfl rfl rfl) ?_
  refine au 3 ?_
  refine T.conv (Cs.own (t:=3) 1 rfl (by decide)) ?_
  obtain ⟨l5,h20,H⟩:=bind_s H
  refine T.lq (fun s=>match s with | (l3,v4)=>[(3,.hd 0 (l3.map (c_str)).length 0 (l3.map (c_str)).length),(9,.im b0 (a0.map (c_I_Part false))),(10,.int .i64 (a0.length : Int)),(11,.int .i64 v4)]) (fun s=>match s with | (l3,v4)=>[.arr .clo 1 (l3.map (c_str))]) (fun q ex fr σ=>match q with | l5=>ex = .exit 0 ∧ fr = [(3,.hd 0 (l5.map (c_str)).length 0 (l5.map (c_str)).length)] ∧ σ = [.arr .clo 1 (l5.map (c_str))]) h20 ?_ ?_
  ·rintro ⟨l3,v4⟩ y8 H
   refine au 5 ?_
   refine T.cH H ?_ ?_<;>intro H h
   ·refine au 5 ?_
    obtain ⟨e9,h10,H⟩:=bind_s H
    refine TL.st rfl rfl rfl (o_ix (f:=c_I_Part false) rfl rfl tyS_96 rfl rfl h10 rfl) ?_
    refine au 4 ?_
    refine T.drawn rfl ?_
    refine ad 3 ?_
    obtain ⟨s11,h12,H⟩:=bind_s H
    refine TD.qs rfl rfl (fun _=>o_ct rfl rfl rfl h12) ?_
    refine ad 2 ?_
    obtain ⟨r13,h14,H⟩:=bind_s H
    refine TD.qs rfl rfl (fun _=>o_callP rfl en_93 rfl rfl (.cons _ _ _ _ (.cl _ rfl) (.cons _ _ _ _ (.cl _ rfl) .nil)) (impl_yescape_p  h14)) ?_
    obtain ⟨s15,h16,H⟩:=bind_s H
    refine TD.qs rfl rfl (fun _=>o_ct rfl rfl rfl h16) ?_
    refine TD.qs rfl rfl (fun _=>o_sliceIm (rows:=([s15] : List ByteArray).map (c_str)) rfl rfl tyS_9 ⟨_,rfl,rfl⟩ (by decide) rfl rfl rfl rfl rfl rfl) ?_
    obtain ⟨l17,h18,H⟩:=bind_s H
    refine TD.as rfl rfl (o_ap (f:=c_str) (xs:=l3) (ys:=([s15] : List ByteArray)) rfl rfl tyE_9 rfl rfl rfl rfl (by decide) rfl (fun _=>rfl) h18) ?_
    refine TD.qs rfl rfl (fun _=>o_assign rfl rfl) ?_
    refine TD.nil ⟨rfl,?_⟩
    refine inB_normal (thn_normal ?_)
    refine T.conv (Cs.eqS (σ':=[.arr .clo 1 (l17.map (c_str)),.box (c_I_Part false e9)]) rfl) ?_
    refine au 4 ?_
    exact Pk.of (thn_normal ⟨(l17,(IntKind.i64.wrap (v4 + 1))),(some_i H).symm,rfl,rfl⟩)
   ·refine T.exit ?_
    refine thn_exit ?_
    exact Pk.of (thn_exit ⟨l3,(some_i H).symm,rfl,rfl,rfl⟩)
  ·rintro _ _ _ ⟨rfl,rfl,rfl⟩
   refine inB_here ?_
   refine au 3 ?_
   obtain ⟨r6,h7,H⟩:=bind_s H
   refine TL.st rfl rfl rfl (o_callP rfl en_94 rfl rfl (.cons _ _ _ _ (.own rfl (by decide) rfl) (.cons _ _ _ _ (.cl _ rfl) .nil)) (MT.lib_94 true h7)) ?_
   refine au 3 ?_
   cases some_i H
   exact ⟨trivial,_,(.tmp _ _ _ _ rfl .nil),(.cl _ rfl)⟩
theorem en_45 : En Tryz.prog 45:=.of Tryz.func45 rfl rfl
noncomputable def impl_Part_xx_l1 (a0 : (List I_Part)) (a1 : (List I_Part)) : Int → Option (Int ⊕ (Unit ⊕ Bool)):=fun s=>match s with
  | v1=>cond (decide (v1 < (a0.length : Int))) ((idx a0 v1).bind fun e4=>(idx a1 v1).bind fun e6=>cond (!(e4 == e6)) (some (.inr (.inr false))) (some (.inl (IntKind.i64.wrap (v1 + 1))))) (some (.inr (.inl ())))
noncomputable def impl_Part_xx (a0 : (List I_Part)) (a1 : (List I_Part)) : Option Bool :=
  cond ((a0.length : Int) != (a1.length : Int)) (some false) ((loopO (impl_Part_xx_l1 a0 a1) 0).bind fun q8=>(match q8 with | .inl _=>some true | .inr q2=>some q2))
theorem impl_Part_xx_p (b0 : Bool) (b1 : Bool) {a0 : (List I_Part)} {a1 : (List I_Part)} {R0 : Bool} (H : impl_Part_xx a0 a1 = some R0) : Pure Tryz.prog 51 [.im b0 (a0.map (c_I_Part false)),.im b1 (a1.map (c_I_Part false))] (.bool R0):=by
 refine CallT.of_TN (n:=26) Tryz.func51 rfl rfl rfl rfl ?_
 refine au 8 ?_
 refine TL.st rfl rfl rfl (o_lenL (f:=c_I_Part false) rfl rfl rfl) ?_
 refine TL.st rfl rfl rfl (o_move rfl rfl) ?_
 refine TL.st rfl rfl rfl (o_lenL (f:=c_I_Part false) rfl rfl rfl) ?_
 refine au 2 ?_
 refine T.cH H ?_ ?_<;>intro H h
 ·refine au 5 ?_
  refine thn_ret ?_
  cases some_i H
  exact ⟨trivial,_,(.tmp _ _ _ _ rfl .nil),(.cl _ rfl)⟩
 ·refine au 5 ?_
  refine TL.st rfl rfl rfl (o_lenL (f:=c_I_Part false) rfl rfl rfl) ?_
  refine au 3 ?_
  obtain ⟨q8,h9,H⟩:=bind_s H
  refine T.lq (fun s=>match s with | v1=>[(0,.im b0 (a0.map (c_I_Part false))),(1,.im b1 (a1.map (c_I_Part false))),(12,.int .i64 (a0.length : Int)),(13,.int .i64 v1)]) (fun s=>match s with | v1=>[]) (fun q ex fr σ=>match q with | .inl _=>ex = .exit 0 ∧ fr = [] ∧ σ = [] | .inr q2=>ex = .ret ∧ RetN Tryz.prog [.tmp 4] (fun v τ=>Told τ v (.bool q2)) .ret fr σ) h9 ?_ ?_
  ·rintro v1 y3 H
   refine au 5 ?_
   refine T.cH H ?_ ?_<;>intro H h
   ·refine au 9 ?_
    refine T.drawn rfl ?_
    refine ad 2 ?_
    obtain ⟨e4,h5,H⟩:=bind_s H
    refine TD.qs rfl rfl (fun _=>o_ix (f:=c_I_Part false) rfl rfl tyS_96 rfl rfl h5 rfl) ?_
    refine TD.qs rfl rfl (fun _=>o_loadRf rfl tyS_96 rfl (nb rfl) rfl) ?_
    refine ad 2 ?_
    obtain ⟨e6,h7,H⟩:=bind_s H
    refine TD.qs rfl rfl (fun _=>o_ix (f:=c_I_Part false) rfl rfl tyS_96 rfl rfl h7 rfl) ?_
    refine TD.qs rfl rfl (fun _=>o_loadRf rfl tyS_96 rfl (nb rfl) rfl) ?_
    refine TD.qs rfl rfl (fun _=>o_neA rfl rfl eqG_96 rfl rfl rfl rfl (eqT_96 e4 e6)) ?_
    refine TD.nil ⟨rfl,?_⟩
    refine thn_normal ?_
    refine T.cH H ?_ ?_<;>intro H h
    ·refine au 5 ?_
     refine inB_ret (thn_ret ?_)
     exact Pk.id (thn_ret ⟨.inr false,(some_i H).symm,rfl,⟨trivial,_,(.tmp _ _ _ _ rfl .nil),(.cl _ rfl)⟩⟩)
    ·refine au 5 ?_
     exact Pk.of (thn_normal ⟨(IntKind.i64.wrap (v1 + 1)),(some_i H).symm,rfl,rfl⟩)
   ·refine T.exit ?_
    refine thn_exit ?_
    exact Pk.of (thn_exit ⟨.inl (),(some_i H).symm,rfl,rfl,rfl⟩)
  ·rcases q8 with ⟨⟩ | q2
   ·rintro _ _ _ ⟨rfl,rfl,rfl⟩
    refine inB_here ?_
    refine au 5 ?_
    cases some_i H
    exact ⟨trivial,_,(.tmp _ _ _ _ rfl .nil),(.cl _ rfl)⟩
   ·rintro _ fr1 σ1 ⟨rfl,hr⟩
    refine inB_ret (thn_ret ?_)
    cases some_i H
    exact hr
theorem en_51 : En Tryz.prog 51:=.of Tryz.func51 rfl rfl
noncomputable def impl_Under (a0 : (List I_Part)) (a1 : (List I_Part)) : Option Bool :=
  (impl_GoodDirName a0).bind fun r1=>(gdO r1 (impl_GoodDirName a1)).bind fun r3=>(gdO ((r1 && r3) && decide ((a0.length : Int) ≥ (a1.length : Int))) (sub a0 (IntKind.i64.wrap ((a0.length : Int) - (a1.length : Int))) (a0.length : Int))).bind fun l5=>(gdO ((r1 && r3) && decide ((a0.length : Int) ≥ (a1.length : Int))) (impl_Part_xx l5 a1)).bind fun r7=>some (((r1 && r3) && decide ((a0.length : Int) ≥ (a1.length : Int))) && r7)
theorem impl_Under_p (b0 : Bool) (b1 : Bool) {a0 : (List I_Part)} {a1 : (List I_Part)} {R0 : Bool} (H : impl_Under a0 a1 = some R0) : Pure Tryz.prog 17 [.im b0 (a0.map (c_I_Part false)),.im b1 (a1.map (c_I_Part false))] (.bool R0):=by
 refine CallT.of_TN (n:=29) Tryz.func17 rfl rfl rfl rfl ?_
 refine au 7 ?_
 obtain ⟨r1,h2,H⟩:=bind_s H
 refine TL.st rfl rfl rfl (o_callP rfl en_44 rfl rfl (.cons _ _ _ _ (.imv _ _) .nil) (impl_GoodDirName_p b0 h2)) ?_
 refine au 2 ?_
 obtain ⟨r3,h4,H⟩:=bind_s H
 refine TL.gcq rfl rfl rfl (.bool _) rfl rfl (fun h=>o_callP rfl en_44 rfl (evl_1 (gv h rfl)) (.cons _ _ _ _ (.imv _ _) .nil) (impl_GoodDirName_p b1 (gdO_t h4 h))) ?_
 refine au 3 ?_
 refine TL.gcq rfl rfl rfl (.bool _) rfl rfl (fun h=>o_lenL (f:=c_I_Part false) rfl rfl (gv h rfl)) ?_
 refine TL.gcq rfl rfl rfl (.bool _) rfl rfl (fun h=>o_move rfl rfl) ?_
 refine TL.gcq rfl rfl rfl (.bool _) rfl rfl (fun h=>o_lenL (f:=c_I_Part false) rfl rfl (gv h rfl)) ?_
 refine TL.gcq rfl rfl rfl (.bool _) rfl rfl (fun h=>o_ari rfl (gv h rfl) (gv h rfl) rfl) ?_
 refine au 4 ?_
 refine TL.gcq rfl rfl rfl (.bool _) rfl rfl (fun h=>o_lenL (f:=c_I_Part false) rfl rfl (gv h rfl)) ?_
 refine TL.gcq rfl rfl rfl (.bool _) rfl rfl (fun h=>o_move rfl rfl) ?_
 refine TL.gcq rfl rfl rfl (.bool _) rfl rfl (fun h=>o_lenL (f:=c_I_Part false) rfl rfl (gv h rfl)) ?_
 refine TL.gcq rfl rfl rfl (.bool _) rfl rfl (fun h=>o_ari rfl (gv h rfl) (gv h rfl) rfl) ?_
 obtain ⟨l5,h6,H⟩:=bind_s H
 refine TL.gcq rfl rfl rfl (.bool _) rfl rfl (fun h=>o_subL (f:=c_I_Part false) (xs:=a0) rfl rfl tyS_96 (gv h rfl) (opt_of (gv h rfl)) rfl (fun _=>rfl) (gdO_t h6 h)) ?_
 refine TL.gcq rfl rfl rfl (.bool _) rfl rfl (fun h=>o_move rfl rfl) ?_
 obtain ⟨r7,h8,H⟩:=bind_s H
 refine TL.gcq rfl rfl rfl (.bool _) rfl rfl (fun h=>o_callP rfl en_51 rfl (evl_2 (gv h rfl) (gv h rfl)) (.cons _ _ _ _ (.imv _ _) (.cons _ _ _ _ (.imv _ _) .nil)) (impl_Part_xx_p b0 b1 (gdO_t h8 h))) ?_
 refine au 4 ?_
 cases some_i H
 exact ⟨trivial,_,(.tmp _ _ _ _ rfl .nil),(.cl _ rfl)⟩
theorem en_17 : En Tryz.prog 17:=.of Tryz.func17 rfl rfl
noncomputable def impl_Entry_yvalues_1 (a0 : I_Attr) : Option ByteArray :=
  some a0.Name_
theorem impl_Entry_yvalues_1_p (b0 : Bool) {a0 : I_Attr} {R0 : ByteArray} (H : impl_Entry_yvalues_1 a0 = some R0) : Pure Tryz.prog 96 [.agg (c_I_Attr b0 a0)] (.str R0):=by
 refine CallT.of_TN (n:=5) Tryz.func96 rfl rfl rfl rfl ?_
 refine au 12 ?_
 cases some_i H
 exact ⟨trivial,_,(.tmp _ _ _ _ rfl .nil),(.cl _ rfl)⟩
theorem en_96 : En Tryz.prog 96:=.of Tryz.func96 rfl rfl
noncomputable def impl_Attr__l1 (a0 : (List I_Attr)) (a1 : ByteArray) : Int → Option (Int ⊕ (Unit ⊕ (I_Attr × Bool))):=fun s=>match s with
  | v1=>cond (decide (v1 < (a0.length : Int))) ((idx a0 v1).bind fun e4=>(impl_Entry_yvalues_1 e4).bind fun r6=>cond (r6.toList == a1.toList) (some (.inr (.inr (e4,true)))) (some (.inl (IntKind.i64.wrap (v1 + 1))))) (some (.inr (.inl ())))
noncomputable def impl_Attr_ (a0 : (List I_Attr)) (a1 : ByteArray) : Option (I_Attr × Bool) :=
  (loopO (impl_Attr__l1 a0 a1) 0).bind fun q8=>(match q8 with | .inl _=>some ((⟨e0,([] : List ByteArray)⟩ : I_Attr),false) | .inr q2=>some q2)
theorem impl_Attr__p (b0 : Bool) {a0 : (List I_Attr)} {a1 : ByteArray} {R0 : I_Attr} {R1 : Bool} (H : impl_Attr_ a0 a1 = some (R0,R1)) : Pure Tryz.prog 95 [.im b0 (a0.map (c_I_Attr false)),.fn 96 [] [],.str a1] (.tup [.agg (c_I_Attr false R0),.bool R1]):=by
 refine CallT.of_TN (n:=25) Tryz.func95 rfl rfl rfl rfl ?_
 refine au 9 ?_
 refine TL.st rfl rfl rfl (o_lenL (f:=c_I_Attr false) rfl rfl rfl) ?_
 refine au 3 ?_
 obtain ⟨q8,h9,H⟩:=bind_s H
 refine T.lq (fun s=>match s with | v1=>[(1,.fn 96 [] []),(2,.str a1),(6,.bx 0 0),(11,.im b0 (a0.map (c_I_Attr false))),(12,.int .i64 (a0.length : Int)),(13,.int .i64 v1)]) (fun s=>match s with | v1=>[.box [.str e0,.nilS]]) (fun q ex fr σ=>match q with | .inl _=>ex = .exit 0 ∧ fr = [(6,.bx 0 0)] ∧ σ = [.box [.str e0,.nilS]] | .inr q2=>ex = .ret ∧ RetN Tryz.prog [.cell 6 114,.tmp 7] (fun v τ=>Told τ v (.tup [.agg (c_I_Attr false q2.1),.bool q2.2])) .ret fr σ) h9 ?_ ?_
 ·rintro v1 y3 H
  refine au 5 ?_
  refine T.cH H ?_ ?_<;>intro H h
  ·refine au 5 ?_
   obtain ⟨e4,h5,H⟩:=bind_s H
   refine TL.st rfl rfl rfl (o_ix (f:=c_I_Attr false) rfl rfl tyS_114 rfl rfl h5 rfl) ?_
   refine au 8 ?_
   obtain ⟨r6,h7,H⟩:=bind_s H
   refine TL.st rfl rfl rfl (o_callP rfl en_96 rfl rfl (.cons _ _ _ _ (.cl _ rfl) .nil) (impl_Entry_yvalues_1_p false h7)) ?_
   refine au 3 ?_
   refine T.cH H ?_ ?_<;>intro H h
   ·refine au 6 ?_
    refine T.conv (Cs.eqS (σ':=[.box (c_I_Attr false e4),.box (c_I_Attr false e4)]) rfl) ?_
    refine T.ret ?_
    refine inB_ret (thn_ret ?_)
    exact Pk.id (thn_ret ⟨.inr (e4,true),(some_i H).symm,rfl,⟨trivial,_,(.cell _ _ _ _ _ _ _ _ _ _ rfl rfl tyS_114 (nb rfl) rfl (.tmp _ _ _ _ rfl .nil)),(.tupL (.cons _ _ _ _ (.cl _ rfl) (.cons _ _ _ _ (.cl _ rfl) .nil)))⟩⟩)
   ·refine au 5 ?_
    exact Pk.of (thn_normal ⟨(IntKind.i64.wrap (v1 + 1)),(some_i H).symm,rfl,rfl⟩)
  ·refine T.exit ?_
   refine thn_exit ?_
   exact Pk.of (thn_exit ⟨.inl (),(some_i H).symm,rfl,rfl,rfl⟩)
 ·rcases q8 with ⟨⟩ | q2
  ·rintro _ _ _ ⟨rfl,rfl,rfl⟩
   refine inB_here ?_
   refine au 11 ?_
   cases some_i H
   exact ⟨trivial,_,(.cell _ _ _ _ _ _ _ _ _ _ rfl rfl tyS_114 (nb rfl) rfl (.tmp _ _ _ _ rfl .nil)),(.tupL (.cons _ _ _ _ (.aggL (.cons _ _ _ _ (.cl _ rfl) (.cons _ _ _ _ .nil .nil))) (.cons _ _ _ _ (.cl _ rfl) .nil)))⟩
  ·rintro _ fr1 σ1 ⟨rfl,hr⟩
   refine inB_ret (thn_ret ?_)
   cases some_i H
   exact hr
theorem en_95 : En Tryz.prog 95:=.of Tryz.func95 rfl rfl
noncomputable def impl_Entry_yvalues (a0 : I_Entry) (a1 : ByteArray) : Option (List ByteArray) :=
  (impl_Attr_ a0.Attrs_ a1).bind fun q=>(match q with | (r1,r2)=>some r1.Values_)
theorem impl_Entry_yvalues_p (b0 : Bool) {a0 : I_Entry} {a1 : ByteArray} {R0 : (List ByteArray)} (H : impl_Entry_yvalues a0 a1 = some R0) : Pure Tryz.prog 46 [.agg (c_I_Entry b0 a0),.str a1] (.im false (R0.map (c_str))):=by
 refine CallT.of_TN (n:=16) Tryz.func46 rfl rfl rfl rfl ?_
 refine au 10 ?_
 obtain ⟨⟨r1,r2⟩,h3,H⟩:=bind_s H
 refine TL.st rfl rfl rfl (o_callP rfl en_95 rfl rfl (.cons _ _ _ _ (.imv _ _) (.cons _ _ _ _ (.fn _ _ _ _ _ rfl rfl (fun i c d h=>by simp at h) (fun i c d h=>by simp at h)) (.cons _ _ _ _ (.cl _ rfl) .nil))) (impl_Attr__p b0 h3)) ?_
 refine au 8 ?_
 refine T.conv (Cs.eqS (σ':=[.box (c_I_Entry b0 a0),.box (c_I_Attr false r1)]) rfl) ?_
 refine au 6 ?_
 cases some_i H
 exact ⟨trivial,_,(.tmp _ _ _ _ rfl .nil),(.cl _ rfl)⟩
theorem en_46 : En Tryz.prog 46:=.of Tryz.func46 rfl rfl
noncomputable def impl_ysure (a0 : Bool) : Option Int :=
  cond a0 (some 1) (some 0)
theorem impl_ysure_p  {a0 : Bool} {R0 : Int} (H : impl_ysure a0 = some R0) : Pure Tryz.prog 77 [.bool a0] (.int .i64 R0):=by
 refine CallT.of_TN (n:=4) Tryz.func77 rfl rfl rfl rfl ?_
 refine au 9 ?_
 refine T.cH H ?_ ?_<;>intro H h
 ·refine au 5 ?_
  refine thn_ret ?_
  cases some_i H
  exact ⟨trivial,_,(.tmp _ _ _ _ rfl .nil),(.cl _ rfl)⟩
 ·refine au 6 ?_
  cases some_i H
  exact ⟨trivial,_,(.tmp _ _ _ _ rfl .nil),(.cl _ rfl)⟩
theorem en_77 : En Tryz.prog 77:=.of Tryz.func77 rfl rfl
theorem en_126 : En Tryz.prog 126:=.of Tryz.func126 rfl rfl
theorem en_165 : En Tryz.prog 165:=.of Tryz.func165 rfl rfl
noncomputable def impl_ReadName_j1 (r12 : ByteArray) (b15 : I_Part) (v28 : Int) : Option ((I_Part × Int) ⊕ ((I_Part × Bool × Int) ⊕ ((List I_Part) × Bool))) :=
  (subS r12 v28 (IntKind.i64.wrap (v28 + 1))).bind fun s29=>(cat b15.Text_ s29).bind fun s31=>some (.inl ((⟨b15.Attr_,s31⟩ : I_Part),(IntKind.i64.wrap (v28 + 1))))
noncomputable def impl_ReadName_l2 (r12 : ByteArray) : (I_Part × Int) → Option ((I_Part × Int) ⊕ ((I_Part × Bool × Int) ⊕ ((List I_Part) × Bool))):=fun s=>match s with
  | (b15,v16)=>cond (decide (v16 < (r12.size : Int))) ((idxS r12 v16).bind fun b26=>cond (b26 == 44) (some (.inr (.inl (b15,true,v16)))) ((idxS r12 v16).bind fun b33=>cond (b33 == 92) (cond ((IntKind.i64.wrap (v16 + 1)) == (r12.size : Int)) (some (.inr (.inr (([] : List I_Part),false)))) (impl_ReadName_j1 r12 b15 (IntKind.i64.wrap (v16 + 1)))) (impl_ReadName_j1 r12 b15 v16))) (some (.inr (.inl (b15,false,v16))))
noncomputable def impl_ReadName_l1  : (List I_Part × ByteArray × Bool) → Option ((List I_Part × ByteArray × Bool) ⊕ (List I_Part ⊕ ((List I_Part) × Bool))):=fun s=>match s with
  | (l1,v2,v3)=>cond v3 ((cutO v2 (ByteArray.mk #[61])).bind fun q=>(match q with | (r11,r12,r13)=>cond (!r13) (some (.inr (.inr (([] : List I_Part),false)))) ((loopO (impl_ReadName_l2 r12) ((⟨r11,e0⟩ : I_Part),0)).bind fun q35=>(match q35 with | .inl (b17,v18,v19)=>(app l1 ([b17] : List I_Part)).bind fun l21=>cond v18 ((subS r12 (IntKind.i64.wrap (v19 + 1)) (r12.size : Int)).bind fun s23=>some (.inl (l21,s23,v18))) (some (.inl (l21,v2,v18))) | .inr q20=>some (.inr (.inr q20)))))) (some (.inr (.inl l1)))
noncomputable def impl_ReadName (a0 : ByteArray) : Option ((List I_Part) × Bool) :=
  cond (a0.toList == e0.toList) (some (([] : List I_Part),true)) (cond (decide ((a0.size : Int) > 2000)) (some (([] : List I_Part),false)) ((loopO (impl_ReadName_l1) (([] : List I_Part),a0,true)).bind fun q37=>(match q37 with | .inl l4=>(impl_GoodDirName l4).bind fun r6=>(gdO (!(!r6)) (impl_NameText l4)).bind fun r8=>cond ((!r6) || (!(r8.toList == a0.toList))) (some (([] : List I_Part),false)) (some (l4,true)) | .inr q5=>some q5)))
theorem impl_ReadName_p  {a0 : ByteArray} {R0 : (List I_Part)} {R1 : Bool} (H : impl_ReadName a0 = some (R0, R1)) : Pure Tryz.prog 149 [.str a0] (.tup [.im false (R0.map (c_I_Part false)), .bool R1]) := by
 refine CallT.of_TN (n:=77) Tryz.func149 rfl rfl rfl rfl ?_
 refine au 11 ?_
 refine T.cH H ?_ ?_<;>intro H h
 ·refine au 6 ?_
  refine thn_ret ?_
  cases some_i H
  exact ⟨trivial,_,(.tmp _ _ _ _ rfl (.tmp _ _ _ _ rfl .nil)),(.tupL (.cons _ _ _ _ .nil (.cons _ _ _ _ (.cl _ rfl) .nil)))⟩
 ·refine au 8 ?_
  refine T.cH H ?_ ?_<;>intro H h
  ·refine au 6 ?_
   refine thn_ret ?_
   cases some_i H
   exact ⟨trivial,_,(.tmp _ _ _ _ rfl (.tmp _ _ _ _ rfl .nil)),(.tupL (.cons _ _ _ _ .nil (.cons _ _ _ _ (.cl _ rfl) .nil)))⟩
  ·refine au 13 ?_
   refine T.conv (Cs.own (t:=4) 2 rfl (by decide)) ?_
   obtain ⟨q37,h38,H⟩:=bind_s H
   refine T.lq (fun s=>match s with | (l1,v2,v3)=>[(0,.str a0),(4,.hd 0 (l1.map (c_I_Part false)).length 0 (l1.map (c_I_Part false)).length),(5,.str v2),(6,.bool v3)]) (fun s=>match s with | (l1,v2,v3)=>[.arr .clo 2 (l1.map (c_I_Part false))]) (fun q ex fr σ=>match q with | .inl l4=>ex = .exit 0 ∧ fr = [(0,.str a0),(4,.hd 0 (l4.map (c_I_Part false)).length 0 (l4.map (c_I_Part false)).length)] ∧ σ = [.arr .clo 2 (l4.map (c_I_Part false))] | .inr q5=>ex = .ret ∧ RetN Tryz.prog [.tmp 2,.tmp 3] (fun v τ=>Told τ v (.tup [.im false (q5.1.map (c_I_Part false)),.bool q5.2])) .ret fr σ) h38 ?_ ?_
   ·rintro ⟨l1, v2, v3⟩ y10 H
    refine au 5 ?_
    refine T.cH H ?_ ?_<;>intro H h
    ·refine au 5 ?_
     obtain ⟨⟨r11,r12,r13⟩,h14,H⟩:=bind_s H
     refine TL.st rfl rfl rfl (o_callP rfl en_165 rfl rfl (.cons _ _ _ _ (.cl _ rfl) (.cons _ _ _ _ (.cl _ rfl) .nil)) (MT.lib_165  h14)) ?_
     refine au 14 ?_
     refine T.cH H ?_ ?_<;>intro H h
     ·refine au 6 ?_
      refine thn_ret (inB_ret ?_)
      exact Pk.id (thn_ret ⟨.inr (([] : List I_Part),false),(some_i H).symm,rfl,⟨trivial,_,(.tmp _ _ _ _ rfl (.tmp _ _ _ _ rfl .nil)),(.tupL (.cons _ _ _ _ .nil (.cons _ _ _ _ (.cl _ rfl) .nil)))⟩⟩)
     ·refine au 18 ?_
      obtain ⟨q35,h36,H⟩:=bind_s H
      refine T.lq (fun s=>match s with | (b15,v16)=>[(0,.str a0),(4,.hd 0 (l1.map (c_I_Part false)).length 0 (l1.map (c_I_Part false)).length),(5,.str v2),(6,.bool false),(8,.str r12),(10,.bx 1 0),(11,.int .i64 v16)]) (fun s=>match s with | (b15,v16)=>[.arr .clo 2 (l1.map (c_I_Part false)),.box (c_I_Part false b15)]) (fun q ex fr σ=>match q with | .inl (b17,v18,v19)=>ex = .exit 2 ∧ fr = [(0,.str a0),(4,.hd 0 (l1.map (c_I_Part false)).length 0 (l1.map (c_I_Part false)).length),(5,.str v2),(6,.bool v18),(8,.str r12),(10,.bx 1 0),(11,.int .i64 v19)] ∧ σ = [.arr .clo 2 (l1.map (c_I_Part false)),.box (c_I_Part false b17)] | .inr q20=>ex = .ret ∧ RetN Tryz.prog [.tmp 2,.tmp 3] (fun v τ=>Told τ v (.tup [.im false (q20.1.map (c_I_Part false)),.bool q20.2])) .ret fr σ) h36 ?_ ?_
      ·rintro ⟨b15,v16⟩ y25 H
       refine au 8 ?_
       refine T.cH H ?_ ?_<;>intro H h
       ·refine au 8 ?_
        obtain ⟨b26,h27,H⟩:=bind_s H
        refine TL.st rfl rfl rfl (o_ixs rfl rfl rfl rfl h27) ?_
        refine au 2 ?_
        refine T.cH H ?_ ?_<;>intro H h
        ·refine au 5 ?_
         refine thn_exit ?_
         refine inB_other rfl ?_
         refine thn_exit ?_
         exact Pk.of (thn_exit ⟨.inl (b15,true,v16),(some_i H).symm,rfl,rfl,rfl⟩)
        ·refine T.skip ?_
         refine T.cut (fun fr' σ'=>∃ (v28 : Int),fr' = [(0,.str a0),(4,.hd 0 (l1.map (c_I_Part false)).length 0 (l1.map (c_I_Part false)).length),(5,.str v2),(6,.bool false),(8,.str r12),(10,.bx 1 0),(11,.int .i64 v28)] ∧ σ' = [.arr .clo 2 (l1.map (c_I_Part false)),.box (c_I_Part false b15)] ∧ impl_ReadName_j1 r12 b15 v28 = some y25) (T.pk ?_) ?_
         ·skip
          refine au 4 ?_
          obtain ⟨b33,h34,H⟩:=bind_s H
          refine TL.st rfl rfl rfl (o_ixs rfl rfl rfl rfl h34) ?_
          refine au 2 ?_
          refine T.cH H ?_ ?_<;>intro H h
          ·refine au 13 ?_
           refine T.cH H ?_ ?_<;>intro H h
           ·refine au 6 ?_
            refine Pk.id (thn_ret ?_)
            refine inB_ret (thn_ret ?_)
            exact Pk.id (thn_ret ⟨.inr (([] : List I_Part),false),(some_i H).symm,rfl,⟨trivial,_,(.tmp _ _ _ _ rfl (.tmp _ _ _ _ rfl .nil)),(.tupL (.cons _ _ _ _ .nil (.cons _ _ _ _ (.cl _ rfl) .nil)))⟩⟩)
           ·refine T.skip ?_
            exact Pk.of (thn_normal ⟨(IntKind.i64.wrap (v16 + 1)),rfl,rfl,H⟩)
          ·refine T.skip ?_
           exact Pk.of (thn_normal ⟨v16,rfl,rfl,H⟩)
         ·rintro _ _ ⟨v28,rfl,rfl,H⟩
          refine T.drawn rfl ?_
          refine ad 6 ?_
          obtain ⟨s29,h30,H⟩:=bind_s H
          refine TD.qs rfl rfl (fun _=>o_subS rfl rfl rfl rfl rfl h30) ?_
          obtain ⟨s31,h32,H⟩:=bind_s H
          refine TD.qs rfl rfl (fun _=>o_ct rfl rfl rfl h32) ?_
          refine ad 2 ?_
          refine TD.nil ⟨rfl,?_⟩
          refine au 5 ?_
          exact Pk.of (thn_normal ⟨((⟨b15.Attr_,s31⟩ : I_Part),(IntKind.i64.wrap (v28 + 1))),(some_i H).symm,rfl,rfl⟩)
       ·refine T.exit ?_
        refine thn_exit ?_
        exact Pk.of (thn_exit ⟨.inl (b15,false,v16),(some_i H).symm,rfl,rfl,rfl⟩)
      ·rcases q35 with ⟨b17,v18,v19⟩ | q20
       ·rintro _ _ _ ⟨rfl,rfl,rfl⟩
        refine inB_here ?_
        refine au 4 ?_
        refine TL.st rfl rfl rfl (o_sliceIm (rows:=([b17] : List I_Part).map (c_I_Part false)) rfl rfl tyS_96 ⟨_,rfl,rfl⟩ (by decide) rfl rfl rfl rfl rfl rfl) ?_
        obtain ⟨l21,h22,H⟩:=bind_s H
        refine TL.st rfl rfl rfl (o_ap (f:=c_I_Part false) (xs:=l1) (ys:=([b17] : List I_Part)) rfl rfl tyE_96 rfl rfl rfl rfl (by decide) rfl (fun _=>rfl) h22) ?_
        refine au 6 ?_
        refine T.cH H ?_ ?_<;>intro H h
        ·refine au 4 ?_
         obtain ⟨s23,h24,H⟩:=bind_s H
         refine TL.st rfl rfl rfl (o_subS rfl rfl rfl rfl rfl h24) ?_
         refine au 2 ?_
         refine inB_normal ?_
         exact Pk.of (thn_normal ⟨(l21,s23,v18),(some_i H).symm,rfl,rfl⟩)
        ·refine T.skip ?_
         refine inB_normal ?_
         exact Pk.of (thn_normal ⟨(l21,v2,v18),(some_i H).symm,rfl,rfl⟩)
       ·rintro _ fr1 σ1 ⟨rfl,hr⟩
        refine inB_ret (thn_ret (inB_ret ?_))
        exact Pk.id (thn_ret ⟨.inr q20,(some_i H).symm,rfl,hr⟩)
    ·refine T.exit ?_
     refine thn_exit ?_
     exact Pk.of (thn_exit ⟨.inl l1,(some_i H).symm,rfl,rfl,rfl⟩)
   ·rcases q37 with l4 | q5
    ·rintro _ _ _ ⟨rfl,rfl,rfl⟩
     refine inB_here ?_
     refine au 4 ?_
     obtain ⟨r6,h7,H⟩:=bind_s H
     refine TL.st rfl rfl rfl (o_callP rfl en_44 rfl rfl (.cons _ _ _ _ (.own rfl (by decide) rfl) .nil) (impl_GoodDirName_p true h7)) ?_
     refine au 3 ?_
     obtain ⟨r8,h9,H⟩:=bind_s H
     refine TL.gcq rfl rfl rfl (.bool _) rfl rfl (fun h=>o_callP rfl en_45 rfl (evl_1 (gv h rfl)) (.cons _ _ _ _ (.own rfl (by decide) rfl) .nil) (impl_NameText_p true (gdO_t h9 h))) ?_
     refine TL.gcq rfl rfl rfl (.bool _) rfl rfl (fun h=>o_move rfl rfl) ?_
     refine TL.gcq rfl rfl rfl (.bool _) rfl rfl (fun h=>o_str rfl (gv h rfl) (gv h rfl) rfl) ?_
     refine au 2 ?_
     refine T.cH H ?_ ?_<;>intro H h
     ·refine au 6 ?_
      refine thn_ret ?_
      cases some_i H
      exact ⟨trivial,_,(.tmp _ _ _ _ rfl (.tmp _ _ _ _ rfl .nil)),(.tupL (.cons _ _ _ _ .nil (.cons _ _ _ _ (.cl _ rfl) .nil)))⟩
     ·refine au 8 ?_
      cases some_i H
      exact ⟨trivial,_,(.tmp _ _ _ _ rfl (.tmp _ _ _ _ rfl .nil)),(.tupL (.cons _ _ _ _ (.own rfl (by decide) rfl) (.cons _ _ _ _ (.cl _ rfl) .nil)))⟩
    ·rintro _ fr1 σ1 ⟨rfl,hr⟩
     refine inB_ret (thn_ret ?_)
     cases some_i H
     exact hr
theorem en_149 : En Tryz.prog 149:=.of Tryz.func149 rfl rfl
noncomputable def impl_yofSyntax (a0 : Int) (a1 : ByteArray) : Option Bool :=
  cond (a0 == 3) ((wholeO a1).bind fun q=>(match q with | (r1,r2)=>some r2)) (cond (a0 == 4) ((impl_ReadName a1).bind fun q=>(match q with | (r4,r5)=>some r5)) (some true))
theorem impl_yofSyntax_p  {a0 : Int} {a1 : ByteArray} {R0 : Bool} (H : impl_yofSyntax a0 a1 = some R0) : Pure Tryz.prog 117 [.int .i64 a0,.str a1] (.bool R0):=by
 refine CallT.of_TN (n:=26) Tryz.func117 rfl rfl rfl rfl ?_
 refine au 15 ?_
 refine T.cH H ?_ ?_<;>intro H h
 ·refine au 3 ?_
  obtain ⟨⟨r1,r2⟩,h3,H⟩:=bind_s H
  refine TL.st rfl rfl rfl (o_callP rfl en_126 rfl rfl (.cons _ _ _ _ (.cl _ rfl) .nil) (MT.lib_126  h3)) ?_
  refine au 12 ?_
  refine inB_ret (thn_ret ?_)
  cases some_i H
  exact ⟨trivial,_,(.tmp _ _ _ _ rfl .nil),(.cl _ rfl)⟩
 ·refine au 5 ?_
  refine T.cH H ?_ ?_<;>intro H h
  ·refine au 3 ?_
   obtain ⟨⟨r4,r5⟩,h6,H⟩:=bind_s H
   refine TL.st rfl rfl rfl (o_callP rfl en_149 rfl rfl (.cons _ _ _ _ (.cl _ rfl) .nil) (impl_ReadName_p  h6)) ?_
   refine au 12 ?_
   refine inB_ret (thn_ret ?_)
   cases some_i H
   exact ⟨trivial,_,(.tmp _ _ _ _ rfl .nil),(.cl _ rfl)⟩
  ·refine au 6 ?_
   cases some_i H
   exact ⟨trivial,_,(.tmp _ _ _ _ rfl .nil),(.cl _ rfl)⟩
theorem en_117 : En Tryz.prog 117:=.of Tryz.func117 rfl rfl
theorem en_123 : En Tryz.prog 123:=.of Tryz.func123 rfl rfl
noncomputable def impl_ysame (a0 : I_AttrType) (a1 : Bool) (a2 : ByteArray) (a3 : ByteArray) : Option Bool :=
  cond (a1 && (a0.Syntax_ == 1)) ((capsO a2).bind fun r1=>(capsO a3).bind fun r3=>some (r1.toList == r3.toList)) (cond (a1 && (a0.Syntax_ == 3)) ((gdO (a2.toList == a3.toList) (impl_yofSyntax 3 a2)).bind fun r5=>some ((a2.toList == a3.toList) && r5)) (some (a2.toList == a3.toList)))
theorem impl_ysame_p  {a0 : I_AttrType} {a1 : Bool} {a2 : ByteArray} {a3 : ByteArray} {R0 : Bool} (H : impl_ysame a0 a1 a2 a3 = some R0) : Pure Tryz.prog 120 [.agg (c_I_AttrType false a0),.bool a1,.str a2,.str a3] (.bool R0):=by
 refine CallT.of_TN (n:=38) Tryz.func120 rfl rfl rfl rfl ?_
 refine au 17 ?_
 refine T.cH H ?_ ?_<;>intro H h
 ·refine au 3 ?_
  obtain ⟨r1,h2,H⟩:=bind_s H
  refine TL.st rfl rfl rfl (o_callP rfl en_123 rfl rfl (.cons _ _ _ _ (.cl _ rfl) .nil) (MT.lib_123  h2)) ?_
  refine TL.st rfl rfl rfl (o_move rfl rfl) ?_
  obtain ⟨r3,h4,H⟩:=bind_s H
  refine TL.st rfl rfl rfl (o_callP rfl en_123 rfl rfl (.cons _ _ _ _ (.cl _ rfl) .nil) (MT.lib_123  h4)) ?_
  refine au 4 ?_
  refine inB_ret (thn_ret ?_)
  cases some_i H
  exact ⟨trivial,_,(.tmp _ _ _ _ rfl .nil),(.cl _ rfl)⟩
 ·refine au 10 ?_
  refine T.cH H ?_ ?_<;>intro H h
  ·refine au 7 ?_
   obtain ⟨r5,h6,H⟩:=bind_s H
   refine TL.gcq rfl rfl rfl (.bool _) rfl rfl (fun h=>o_callP rfl en_117 rfl (evl_2 rfl (gv h rfl)) (.cons _ _ _ _ (.cl _ rfl) (.cons _ _ _ _ (.cl _ rfl) .nil)) (impl_yofSyntax_p  (gdO_t h6 h))) ?_
   refine au 4 ?_
   refine inB_ret (thn_ret ?_)
   cases some_i H
   exact ⟨trivial,_,(.tmp _ _ _ _ rfl .nil),(.cl _ rfl)⟩
  ·refine au 9 ?_
   cases some_i H
   exact ⟨trivial,_,(.tmp _ _ _ _ rfl .nil),(.cl _ rfl)⟩
theorem en_120 : En Tryz.prog 120:=.of Tryz.func120 rfl rfl
noncomputable def impl_DirSchema_yleaf_1 (a0 : ByteArray) (s0 : I_AttrType) (s1 : I_FilterNode) : Option Bool :=
  (impl_ysame s0 true a0 s1.Text_).bind fun r1=>some r1
theorem impl_DirSchema_yleaf_1_p  {a0 : ByteArray} {s0 : I_AttrType} {s1 : I_FilterNode} {R0 : Bool} (H : impl_DirSchema_yleaf_1 a0 s0 s1 = some R0) : St Tryz.prog 119 [.str a0,.bx 0 0,.bx 1 0] [.box (c_I_AttrType false s0),.box (c_I_FilterNode false s1)] (.bool R0) [.box (c_I_AttrType false s0),.box (c_I_FilterNode false s1)]:=by
 refine CallT.fin (CallT.of_TN (n:=10) Tryz.func119 rfl rfl rfl rfl ?_) rfl rfl ⟨(bels_iff.1 rfl),⟨(bels_iff.1 rfl),trivial⟩⟩
 refine au 10 ?_
 obtain ⟨r1,h2,H⟩:=bind_s H
 refine TL.st rfl rfl rfl (o_callP rfl en_120 rfl rfl (.cons _ _ _ _ (.cl _ rfl) (.cons _ _ _ _ (.cl _ rfl) (.cons _ _ _ _ (.cl _ rfl) (.cons _ _ _ _ (.cl _ rfl) .nil)))) (impl_ysame_p  h2)) ?_
 refine au 3 ?_
 cases some_i H
 exact ⟨trivial,_,(.tmp _ _ _ _ rfl .nil),⟨rfl,_,rfl⟩⟩
theorem en_119 : En Tryz.prog 119:=.of Tryz.func119 rfl rfl
noncomputable def slices_IndexFunc_l1 (a0 : (List ByteArray)) (s0 : I_AttrType) (s1 : I_FilterNode) : Int → Option (Int ⊕ (Unit ⊕ Int)):=fun s=>match s with
  | v1=>cond (decide (v1 < (a0.length : Int))) ((idx a0 v1).bind fun e4=>(impl_DirSchema_yleaf_1 e4 s0 s1).bind fun r6=>cond r6 (some (.inr (.inr v1))) (some (.inl (IntKind.i64.wrap (v1 + 1))))) (some (.inr (.inl ())))
noncomputable def slices_IndexFunc (a0 : (List ByteArray)) (s0 : I_AttrType) (s1 : I_FilterNode) : Option Int :=
  (loopO (slices_IndexFunc_l1 a0 s0 s1) 0).bind fun q8=>(match q8 with | .inl _=>some (-1) | .inr q2=>some q2)
theorem slices_IndexFunc_p (b0 : Bool) {a0 : (List ByteArray)} {s0 : I_AttrType} {s1 : I_FilterNode} {R0 : Int} (H : slices_IndexFunc a0 s0 s1 = some R0) : St Tryz.prog 150 [.im b0 (a0.map (c_str)),.fn 119 [] [.bx 0 0,.bx 1 0]] [.box (c_I_AttrType false s0),.box (c_I_FilterNode false s1)] (.int .i64 R0) [.box (c_I_AttrType false s0),.box (c_I_FilterNode false s1)]:=by
 refine CallT.fin (CallT.of_TN (n:=19) Tryz.func150 rfl rfl rfl rfl ?_) rfl rfl ⟨(bels_iff.1 rfl),⟨(bels_iff.1 rfl),trivial⟩⟩
 refine au 8 ?_
 refine TL.st rfl rfl rfl (o_lenL (f:=c_str) rfl rfl rfl) ?_
 refine au 3 ?_
 obtain ⟨q8,h9,H⟩:=bind_s H
 refine T.lq (fun s=>match s with | v1=>[(0,.im b0 (a0.map (c_str))),(1,.fn 119 [] [.bx 0 0,.bx 1 0]),(7,.int .i64 (a0.length : Int)),(8,.int .i64 v1)]) (fun s=>match s with | v1=>[.box (c_I_AttrType false s0),.box (c_I_FilterNode false s1)]) (fun q ex fr σ=>match q with | .inl _=>ex = .exit 0 ∧ fr = [] ∧ σ = [.box (c_I_AttrType false s0),.box (c_I_FilterNode false s1)] | .inr q2=>ex = .ret ∧ RetN Tryz.prog [.tmp 4] (Fin [.box (c_I_AttrType false s0),.box (c_I_FilterNode false s1)] (.int .i64 q2)) .ret fr σ) h9 ?_ ?_
 ·rintro v1 y3 H
  refine au 5 ?_
  refine T.cH H ?_ ?_<;>intro H h
  ·refine au 13 ?_
   obtain ⟨e4,h5,H⟩:=bind_s H
   refine TL.st rfl rfl rfl (o_ix (f:=c_str) rfl rfl tyS_9 rfl rfl h5 rfl) ?_
   refine TL.st rfl rfl rfl (o_loadRf rfl tyS_9 rfl (nb rfl) rfl) ?_
   obtain ⟨r6,h7,H⟩:=bind_s H
   refine TL.st rfl rfl rfl (o_callS [0,1] rfl en_119 rfl rfl (impl_DirSchema_yleaf_1_p  h7) rfl (by decide) (.cons _ _ _ _ rfl (.cons _ _ _ _ rfl .nil)) rfl rfl rfl) ?_
   refine TL.nil ?_
   refine T.cH H ?_ ?_<;>intro H h
   ·refine au 6 ?_
    refine inB_ret (thn_ret ?_)
    exact Pk.id (thn_ret ⟨.inr v1,(some_i H).symm,rfl,⟨trivial,_,(.tmp _ _ _ _ rfl .nil),⟨rfl,_,rfl⟩⟩⟩)
   ·refine au 5 ?_
    exact Pk.of (thn_normal ⟨(IntKind.i64.wrap (v1 + 1)),(some_i H).symm,rfl,rfl⟩)
  ·refine T.exit ?_
   refine thn_exit ?_
   exact Pk.of (thn_exit ⟨.inl (),(some_i H).symm,rfl,rfl,rfl⟩)
 ·rcases q8 with ⟨⟩ | q2
  ·rintro _ _ _ ⟨rfl,rfl,rfl⟩
   refine inB_here ?_
   refine au 5 ?_
   cases some_i H
   exact ⟨trivial,_,(.tmp _ _ _ _ rfl .nil),⟨rfl,_,rfl⟩⟩
  ·rintro _ fr1 σ1 ⟨rfl,hr⟩
   refine inB_ret (thn_ret ?_)
   cases some_i H
   exact hr
theorem en_150 : En Tryz.prog 150:=.of Tryz.func150 rfl rfl
noncomputable def slices_ContainsFunc (a0 : (List ByteArray)) (s0 : I_AttrType) (s1 : I_FilterNode) : Option Bool :=
  (slices_IndexFunc a0 s0 s1).bind fun r1=>some (decide (r1 ≥ 0))
theorem slices_ContainsFunc_p (b0 : Bool) {a0 : (List ByteArray)} {s0 : I_AttrType} {s1 : I_FilterNode} {R0 : Bool} (H : slices_ContainsFunc a0 s0 s1 = some R0) : St Tryz.prog 118 [.im b0 (a0.map (c_str)),.fn 119 [] [.bx 0 0,.bx 1 0]] [.box (c_I_AttrType false s0),.box (c_I_FilterNode false s1)] (.bool R0) [.box (c_I_AttrType false s0),.box (c_I_FilterNode false s1)]:=by
 refine CallT.fin (CallT.of_TN (n:=9) Tryz.func118 rfl rfl rfl rfl ?_) rfl rfl ⟨(bels_iff.1 rfl),⟨(bels_iff.1 rfl),trivial⟩⟩
 refine au 8 ?_
 obtain ⟨r1,h2,H⟩:=bind_s H
 refine TL.st rfl rfl rfl (o_callS [0,1] rfl en_150 rfl rfl (slices_IndexFunc_p b0 h2) rfl (by decide) (.cons _ _ _ _ rfl (.cons _ _ _ _ rfl .nil)) rfl rfl rfl) ?_
 refine au 4 ?_
 cases some_i H
 exact ⟨trivial,_,(.tmp _ _ _ _ rfl .nil),⟨rfl,_,rfl⟩⟩
theorem en_118 : En Tryz.prog 118:=.of Tryz.func118 rfl rfl
theorem tyE_4 : TyE Tryz.prog 4 1:=⟨_,_,rfl,rfl,rfl,rfl,by decide,by decide⟩
noncomputable def impl_Like_l3 (a0 : ByteArray) : (List Bool × Int) → Option ((List Bool × Int) ⊕ List Bool):=fun s=>match s with
  | (l24,v25)=>cond (decide (v25 ≤ (a0.size : Int))) ((idx l24 v25).bind fun e28=>some (.inl ((l24.set (Int.toNat v25) true),(IntKind.i64.wrap (v25 + 1))))) (some (.inr l24))
noncomputable def impl_Like_l2 (a0 : ByteArray) (l8 : List Bool) (e14 : Int) : (List Bool × Int) → Option ((List Bool × Int) ⊕ List Bool):=fun s=>match s with
  | (l18,v19)=>cond (decide (v19 < (l8.length : Int))) ((idx l8 v19).bind fun e22=>cond (!e22) (some (.inl (l18,(IntKind.i64.wrap (v19 + 1))))) (cond (decide (e14 < 0)) ((loopO (impl_Like_l3 a0) (l18,v19)).bind fun l26=>(match l26 with | l26=>some (.inr l26))) ((gdO (decide (v19 < (a0.size : Int))) (idxS a0 v19)).bind fun b32=>cond (decide (v19 < (a0.size : Int)) && ((IntKind.i64.wrap b32) == e14)) ((idx l18 (IntKind.i64.wrap (v19 + 1))).bind fun e34=>some (.inl ((l18.set (Int.toNat (IntKind.i64.wrap (v19 + 1))) true),(IntKind.i64.wrap (v19 + 1))))) (some (.inl (l18,(IntKind.i64.wrap (v19 + 1)))))))) (some (.inr l18))
noncomputable def impl_Like_l1 (a0 : ByteArray) (r1 : (List Int)) : (List Bool × Int) → Option ((List Bool × Int) ⊕ List Bool):=fun s=>match s with
  | (l8,v9)=>cond (decide (v9 < (r1.length : Int))) ((idx r1 v9).bind fun e14=>(mk false (IntKind.i64.wrap ((a0.size : Int) + 1))).bind fun l16=>(loopO (impl_Like_l2 a0 l8 e14) (l16,0)).bind fun l20=>(match l20 with | l20=>some (.inl (l20,(IntKind.i64.wrap (v9 + 1)))))) (some (.inr l8))
noncomputable def impl_Like (a0 : ByteArray) (a1 : ByteArray) : Option Bool :=
  (impl_ypattern a1).bind fun q=>(match q with | (r1,r2)=>cond (((!r2) || decide ((a0.size : Int) > 200)) || decide ((a1.size : Int) > 200)) (some false) ((mk false (IntKind.i64.wrap ((a0.size : Int) + 1))).bind fun l4=>(idx l4 0).bind fun e6=>(loopO (impl_Like_l1 a0 r1) ((l4.set (Int.toNat 0) true),0)).bind fun l10=>(match l10 with | l10=>(idx l10 (a0.size : Int)).bind fun e11=>some e11)))
theorem impl_Like_p  {a0 : ByteArray} {a1 : ByteArray} {R0 : Bool} (H : impl_Like a0 a1 = some R0) : Pure Tryz.prog 122 [.str a0, .str a1] (.bool R0) := by
 refine CallT.of_TN (n:=92) Tryz.func122 rfl rfl rfl rfl ?_
 refine au 7 ?_
 obtain ⟨⟨r1,r2⟩,h3,H⟩:=bind_s H
 refine TL.st rfl rfl rfl (o_callP rfl en_116 rfl rfl (.cons _ _ _ _ (.cl _ rfl) .nil) (impl_ypattern_p  h3)) ?_
 refine au 13 ?_
 refine TL.gcq rfl rfl rfl (.bool _) rfl rfl (fun h=>o_lenS rfl rfl (gv h rfl)) ?_
 refine au 4 ?_
 refine TL.gcq rfl rfl rfl (.bool _) rfl rfl (fun h=>o_lenS rfl rfl (gv h rfl)) ?_
 refine au 3 ?_
 refine T.cH H ?_ ?_<;>intro H h
 ·refine au 5 ?_
  refine thn_ret ?_
  cases some_i H
  exact ⟨trivial,_,(.tmp _ _ _ _ rfl .nil),(.cl _ rfl)⟩
 ·refine au 6 ?_
  obtain ⟨l4,h5,H⟩:=bind_s H
  refine TL.st rfl rfl rfl (o_mk (f:=c_bool) (z:=false) rfl rfl tyE_4 ⟨_,rfl,rfl⟩ rfl rfl h5) ?_
  refine au 5 ?_
  obtain ⟨e6,h7,H⟩:=bind_s H
  refine TL.st rfl rfl rfl (o_ixh (f:=c_bool) rfl rfl tyS_4 rfl rfl rfl rfl h7 rfl) ?_
  refine TL.sn rfl rfl (o_stEl (f:=c_bool) (xs:=l4) (k:=0) (a:=e6) true rfl tyS_4 rfl rfl rfl rfl (by decide) h7 rfl rfl rfl (fun _=>rfl) rfl) ?_
  refine TL.conv (Cs.eqV (t:=7) (v':=.hd 0 ((l4.set (Int.toNat 0) true).map (c_bool)).length 0 ((l4.set (Int.toNat 0) true).map (c_bool)).length) rfl (hd_len _ (List.length_set ..))) ?_
  refine TL.conv (Cs.eqV (t:=33) (v':=.hd 0 ((l4.set (Int.toNat 0) true).map (c_bool)).length 0 ((l4.set (Int.toNat 0) true).map (c_bool)).length) rfl (hd_len _ (List.length_set ..))) ?_
  refine TL.conv (Cs.eqV (t:=34) (v':=.hd 0 ((l4.set (Int.toNat 0) true).map (c_bool)).length 0 ((l4.set (Int.toNat 0) true).map (c_bool)).length) rfl (hd_len _ (List.length_set ..))) ?_
  refine TL.conv (Cs.eqV (t:=35) (v':=.el 0 ((l4.set (Int.toNat 0) true).map (c_bool)).length (Int.toNat 0) 0) rfl (el_len _ _ _ (List.length_set ..))) ?_
  refine au 5 ?_
  refine TL.st rfl rfl rfl (o_lenL (f:=c_int .i64) rfl rfl rfl) ?_
  refine au 3 ?_
  obtain ⟨l10,h39,H⟩:=bind_s H
  refine T.lq (fun s=>match s with | (l8,v9)=>[(0,.str a0),(7,.hd 0 (l8.map (c_bool)).length 0 (l8.map (c_bool)).length),(36,.im false (r1.map (c_int .i64))),(37,.int .i64 (r1.length : Int)),(38,.int .i64 v9)]) (fun s=>match s with | (l8,v9)=>[.arr .clo 1 (l8.map (c_bool))]) (fun q ex fr σ=>match q with | l10=>ex = .exit 0 ∧ fr = [(0,.str a0),(7,.hd 0 (l10.map (c_bool)).length 0 (l10.map (c_bool)).length)] ∧ σ = [.arr .clo 1 (l10.map (c_bool))]) h39 ?_ ?_
  ·rintro ⟨l8, v9⟩ y13 H
   refine au 5 ?_
   refine T.cH H ?_ ?_<;>intro H h
   ·refine au 5 ?_
    obtain ⟨e14,h15,H⟩:=bind_s H
    refine TL.st rfl rfl rfl (o_ix (f:=c_int .i64) rfl rfl tyS_3 rfl rfl h15 rfl) ?_
    refine au 8 ?_
    obtain ⟨l16,h17,H⟩:=bind_s H
    refine TL.st rfl rfl rfl (o_mk (f:=c_bool) (z:=false) rfl rfl tyE_4 ⟨_,rfl,rfl⟩ rfl rfl h17) ?_
    refine au 6 ?_
    refine TL.st rfl rfl rfl (o_lenOwn (f:=c_bool) rfl rfl rfl rfl rfl) ?_
    refine au 3 ?_
    obtain ⟨l20,h37,H⟩:=bind_s H
    refine T.lq (fun s=>match s with | (l18,v19)=>[(0,.str a0),(7,.hd 0 (l8.map (c_bool)).length 0 (l8.map (c_bool)).length),(9,.int .i64 e14),(10,.hd 1 (l18.map (c_bool)).length 0 (l18.map (c_bool)).length),(36,.im false (r1.map (c_int .i64))),(37,.int .i64 (r1.length : Int)),(38,.int .i64 v9),(47,.int .i64 (l8.length : Int)),(48,.int .i64 v19)]) (fun s=>match s with | (l18,v19)=>[.arr .clo 1 (l8.map (c_bool)),.arr .clo 1 (l18.map (c_bool))]) (fun q ex fr σ=>match q with | l20=>ex = .exit 2 ∧ fr = [(0,.str a0),(10,.hd 1 (l20.map (c_bool)).length 0 (l20.map (c_bool)).length),(36,.im false (r1.map (c_int .i64))),(37,.int .i64 (r1.length : Int)),(38,.int .i64 v9)] ∧ σ = [.arr .clo 1 (l8.map (c_bool)),.arr .clo 1 (l20.map (c_bool))]) h37 ?_ ?_
    ·rintro ⟨l18,v19⟩ y21 H
     refine au 5 ?_
     refine T.cH H ?_ ?_<;>intro H h
     ·refine au 13 ?_
      obtain ⟨e22,h23,H⟩:=bind_s H
      refine TL.st rfl rfl rfl (o_ixh (f:=c_bool) rfl rfl tyS_4 rfl rfl rfl rfl h23 rfl) ?_
      refine TL.st rfl rfl rfl (o_loadEl rfl tyS_4 rfl rfl rfl (by rw [List.getElem?_map,(idx_s h23).2]; rfl) (nb rfl) rfl) ?_
      refine au 2 ?_
      refine T.cH H ?_ ?_<;>intro H h
      ·refine T.exit ?_
       refine thn_exit ?_
       refine inB_here ?_
       refine au 4 ?_
       exact Pk.of (thn_normal ⟨(l18,(IntKind.i64.wrap (v19 + 1))),(some_i H).symm,rfl,rfl⟩)
      ·refine au 7 ?_
       refine T.cH H ?_ ?_<;>intro H h
       ·refine au 7 ?_
        obtain ⟨l26,h31,H⟩:=bind_s H
        refine T.lq (fun s=>match s with | (l24,v25)=>[(0,.str a0),(10,.hd 1 (l24.map (c_bool)).length 0 (l24.map (c_bool)).length),(12,.int .i64 v25),(36,.im false (r1.map (c_int .i64))),(37,.int .i64 (r1.length : Int)),(38,.int .i64 v9)]) (fun s=>match s with | (l24,v25)=>[.arr .clo 1 (l8.map (c_bool)),.arr .clo 1 (l24.map (c_bool))]) (fun q ex fr σ=>match q with | l26=>ex = .exit 4 ∧ fr = [(0,.str a0),(10,.hd 1 (l26.map (c_bool)).length 0 (l26.map (c_bool)).length),(36,.im false (r1.map (c_int .i64))),(37,.int .i64 (r1.length : Int)),(38,.int .i64 v9)] ∧ σ = [.arr .clo 1 (l8.map (c_bool)),.arr .clo 1 (l26.map (c_bool))]) h31 ?_ ?_
        ·rintro ⟨l24,v25⟩ y27 H
         refine au 8 ?_
         refine T.cH H ?_ ?_<;>intro H h
         ·refine au 6 ?_
          obtain ⟨e28,h29,H⟩:=bind_s H
          refine TL.st rfl rfl rfl (o_ixh (f:=c_bool) rfl rfl tyS_4 rfl rfl rfl rfl h29 rfl) ?_
          refine TL.sn rfl rfl (o_stEl (f:=c_bool) (xs:=l24) (k:=v25) (a:=e28) true rfl tyS_4 rfl rfl rfl rfl (by decide) h29 rfl rfl rfl (fun _=>rfl) rfl) ?_
          refine TL.conv (Cs.eqV (t:=10) (v':=.hd 1 ((l24.set (Int.toNat v25) true).map (c_bool)).length 0 ((l24.set (Int.toNat v25) true).map (c_bool)).length) rfl (hd_len _ (List.length_set ..))) ?_
          refine TL.conv (Cs.eqV (t:=65) (v':=.hd 1 ((l24.set (Int.toNat v25) true).map (c_bool)).length 0 ((l24.set (Int.toNat v25) true).map (c_bool)).length) rfl (hd_len _ (List.length_set ..))) ?_
          refine TL.conv (Cs.eqV (t:=67) (v':=.el 1 ((l24.set (Int.toNat v25) true).map (c_bool)).length (Int.toNat v25) 0) rfl (el_len _ _ _ (List.length_set ..))) ?_
          refine au 6 ?_
          exact Pk.of (thn_normal ⟨((l24.set (Int.toNat v25) true),(IntKind.i64.wrap (v25 + 1))),(some_i H).symm,rfl,rfl⟩)
         ·refine T.exit ?_
          refine thn_exit ?_
          exact Pk.of (thn_exit ⟨l24,(some_i H).symm,rfl,rfl,rfl⟩)
        ·rintro _ _ _ ⟨rfl,rfl,rfl⟩
         refine inB_here ?_
         refine T.exit ?_
         refine thn_exit ?_
         refine inB_other rfl ?_
         refine thn_exit ?_
         exact Pk.of (thn_exit ⟨l26,(some_i H).symm,rfl,rfl,rfl⟩)
       ·refine au 10 ?_
        obtain ⟨b32,h33,H⟩:=bind_s H
        refine TL.gcq rfl rfl rfl (.bool _) rfl rfl (fun h=>o_ixs rfl rfl (gv h rfl) (gv h rfl) (gdO_t h33 h)) ?_
        refine TL.gcq rfl rfl rfl (.bool _) rfl rfl (fun h=>o_conv rfl (gv h rfl) ⟨_,rfl⟩ rfl) ?_
        refine TL.gcq rfl rfl rfl (.bool _) rfl rfl (fun h=>o_move rfl rfl) ?_
        refine TL.gcq rfl rfl rfl (.bool _) rfl rfl (fun h=>o_ari rfl (gv h rfl) (gv h rfl) rfl) ?_
        refine au 2 ?_
        refine T.cH H ?_ ?_<;>intro H h
        ·refine au 4 ?_
         obtain ⟨e34,h35,H⟩:=bind_s H
         refine TL.st rfl rfl rfl (o_ixh (f:=c_bool) rfl rfl tyS_4 rfl rfl rfl rfl h35 rfl) ?_
         refine TL.sn rfl rfl (o_stEl (f:=c_bool) (xs:=l18) (k:=(IntKind.i64.wrap (v19 + 1))) (a:=e34) true rfl tyS_4 rfl rfl rfl rfl (by decide) h35 rfl rfl rfl (fun _=>rfl) rfl) ?_
         refine TL.conv (Cs.eqV (t:=10) (v':=.hd 1 ((l18.set (Int.toNat (IntKind.i64.wrap (v19 + 1))) true).map (c_bool)).length 0 ((l18.set (Int.toNat (IntKind.i64.wrap (v19 + 1))) true).map (c_bool)).length) rfl (hd_len _ (List.length_set ..))) ?_
         refine TL.conv (Cs.eqV (t:=80) (v':=.hd 1 ((l18.set (Int.toNat (IntKind.i64.wrap (v19 + 1))) true).map (c_bool)).length 0 ((l18.set (Int.toNat (IntKind.i64.wrap (v19 + 1))) true).map (c_bool)).length) rfl (hd_len _ (List.length_set ..))) ?_
         refine TL.conv (Cs.eqV (t:=83) (v':=.el 1 ((l18.set (Int.toNat (IntKind.i64.wrap (v19 + 1))) true).map (c_bool)).length (Int.toNat (IntKind.i64.wrap (v19 + 1))) 0) rfl (el_len _ _ _ (List.length_set ..))) ?_
         refine au 5 ?_
         exact Pk.of (thn_normal ⟨((l18.set (Int.toNat (IntKind.i64.wrap (v19 + 1))) true),(IntKind.i64.wrap (v19 + 1))),(some_i H).symm,rfl,rfl⟩)
        ·refine au 5 ?_
         exact Pk.of (thn_normal ⟨(l18,(IntKind.i64.wrap (v19 + 1))),(some_i H).symm,rfl,rfl⟩)
     ·refine T.exit ?_
      refine thn_exit ?_
      exact Pk.of (thn_exit ⟨l18,(some_i H).symm,rfl,rfl,rfl⟩)
    ·rintro _ _ _ ⟨rfl,rfl,rfl⟩
     refine inB_here ?_
     refine au 3 ?_
     refine TL.conv (Cs.wkF (M:=2) (.k 0 rfl rfl (.k 7 rfl rfl (.k 10 rfl rfl (.k 36 rfl rfl (.k 37 rfl rfl (.k 38 rfl rfl (.k 85 rfl rfl .nil)))))))) ?_
     refine TL.conv (Cs.reloc 0 1 rfl rfl (by decide) rfl rfl rfl (nomS_get rfl)) ?_
     refine TL.conv (Cs.wkF (M:=2) (.k 0 rfl rfl (.k 7 rfl rfl (.k 10 rfl rfl (.k 36 rfl rfl (.k 37 rfl rfl (.k 38 rfl rfl (.k 85 rfl rfl .nil)))))))) ?_
     refine TL.conv (Cs.eqS (σ':=[.arr .clo 1 (l20.map (c_bool)),.dead]) rfl) ?_
     refine au 5 ?_
     exact Pk.of (thn_normal ⟨(l20,(IntKind.i64.wrap (v9 + 1))),(some_i H).symm,rfl,rfl⟩)
   ·refine T.exit ?_
    refine thn_exit ?_
    exact Pk.of (thn_exit ⟨l8,(some_i H).symm,rfl,rfl,rfl⟩)
  ·rintro _ _ _ ⟨rfl,rfl,rfl⟩
   refine inB_here ?_
   refine au 5 ?_
   obtain ⟨e11,h12,H⟩:=bind_s H
   refine TL.st rfl rfl rfl (o_ixh (f:=c_bool) rfl rfl tyS_4 rfl rfl rfl rfl h12 rfl) ?_
   refine TL.st rfl rfl rfl (o_loadEl rfl tyS_4 rfl rfl rfl (by rw [List.getElem?_map,(idx_s h12).2]; rfl) (nb rfl) rfl) ?_
   refine au 3 ?_
   cases some_i H
   exact ⟨trivial,_,(.tmp _ _ _ _ rfl .nil),(.cl _ rfl)⟩
theorem en_122 : En Tryz.prog 122:=.of Tryz.func122 rfl rfl
noncomputable def impl_DirSchema_yleaf_2 (a0 : ByteArray) (s0 : I_AttrType) (s1 : I_FilterNode) : Option Bool :=
  cond (s0.Syntax_ == 1) ((capsO a0).bind fun r1=>(capsO s1.Text_).bind fun r3=>(impl_Like r1 r3).bind fun r5=>some r5) ((impl_Like a0 s1.Text_).bind fun r7=>some r7)
theorem impl_DirSchema_yleaf_2_p  {a0 : ByteArray} {s0 : I_AttrType} {s1 : I_FilterNode} {R0 : Bool} (H : impl_DirSchema_yleaf_2 a0 s0 s1 = some R0) : St Tryz.prog 121 [.str a0,.bx 0 0,.bx 1 0] [.box (c_I_AttrType false s0),.box (c_I_FilterNode false s1)] (.bool R0) [.box (c_I_AttrType false s0),.box (c_I_FilterNode false s1)]:=by
 refine CallT.fin (CallT.of_TN (n:=18) Tryz.func121 rfl rfl rfl rfl ?_) rfl rfl ⟨(bels_iff.1 rfl),⟨(bels_iff.1 rfl),trivial⟩⟩
 refine au 11 ?_
 refine T.cH H ?_ ?_<;>intro H h
 ·refine T.seq ?_
  refine T.drawn rfl ?_
  refine TD.qs rfl rfl (fun _=>o_move rfl rfl) ?_
  obtain ⟨r1,h2,H⟩:=bind_s H
  refine TD.qs rfl rfl (fun _=>o_callP rfl en_123 rfl rfl (.cons _ _ _ _ (.cl _ rfl) .nil) (MT.lib_123  h2)) ?_
  refine ad 2 ?_
  obtain ⟨r3,h4,H⟩:=bind_s H
  refine TD.qs rfl rfl (fun _=>o_callP rfl en_123 rfl rfl (.cons _ _ _ _ (.cl _ rfl) .nil) (MT.lib_123  h4)) ?_
  obtain ⟨r5,h6,H⟩:=bind_s H
  refine TD.qs rfl rfl (fun _=>o_callP rfl en_122 rfl rfl (.cons _ _ _ _ (.cl _ rfl) (.cons _ _ _ _ (.cl _ rfl) .nil)) (impl_Like_p  h6)) ?_
  refine TD.qs rfl rfl (fun _=>o_assign rfl rfl) ?_
  refine TD.nil ⟨rfl,?_⟩
  refine T.ret ?_
  refine thn_ret ?_
  cases some_i H
  exact ⟨trivial,_,(.tmp _ _ _ _ rfl .nil),⟨rfl,_,rfl⟩⟩
 ·refine au 6 ?_
  obtain ⟨r7,h8,H⟩:=bind_s H
  refine TL.st rfl rfl rfl (o_callP rfl en_122 rfl rfl (.cons _ _ _ _ (.cl _ rfl) (.cons _ _ _ _ (.cl _ rfl) .nil)) (impl_Like_p  h8)) ?_
  refine au 3 ?_
  cases some_i H
  exact ⟨trivial,_,(.tmp _ _ _ _ rfl .nil),⟨rfl,_,rfl⟩⟩
theorem en_121 : En Tryz.prog 121:=.of Tryz.func121 rfl rfl
noncomputable def slices_IndexFuncx_l1 (a0 : (List ByteArray)) (s0 : I_AttrType) (s1 : I_FilterNode) : Int → Option (Int ⊕ (Unit ⊕ Int)):=fun s=>match s with
  | v1=>cond (decide (v1 < (a0.length : Int))) ((idx a0 v1).bind fun e4=>(impl_DirSchema_yleaf_2 e4 s0 s1).bind fun r6=>cond r6 (some (.inr (.inr v1))) (some (.inl (IntKind.i64.wrap (v1 + 1))))) (some (.inr (.inl ())))
noncomputable def slices_IndexFuncx (a0 : (List ByteArray)) (s0 : I_AttrType) (s1 : I_FilterNode) : Option Int :=
  (loopO (slices_IndexFuncx_l1 a0 s0 s1) 0).bind fun q8=>(match q8 with | .inl _=>some (-1) | .inr q2=>some q2)
theorem slices_IndexFuncx_p (b0 : Bool) {a0 : (List ByteArray)} {s0 : I_AttrType} {s1 : I_FilterNode} {R0 : Int} (H : slices_IndexFuncx a0 s0 s1 = some R0) : St Tryz.prog 150 [.im b0 (a0.map (c_str)),.fn 121 [] [.bx 0 0,.bx 1 0]] [.box (c_I_AttrType false s0),.box (c_I_FilterNode false s1)] (.int .i64 R0) [.box (c_I_AttrType false s0),.box (c_I_FilterNode false s1)]:=by
 refine CallT.fin (CallT.of_TN (n:=19) Tryz.func150 rfl rfl rfl rfl ?_) rfl rfl ⟨(bels_iff.1 rfl),⟨(bels_iff.1 rfl),trivial⟩⟩
 refine au 8 ?_
 refine TL.st rfl rfl rfl (o_lenL (f:=c_str) rfl rfl rfl) ?_
 refine au 3 ?_
 obtain ⟨q8,h9,H⟩:=bind_s H
 refine T.lq (fun s=>match s with | v1=>[(0,.im b0 (a0.map (c_str))),(1,.fn 121 [] [.bx 0 0,.bx 1 0]),(7,.int .i64 (a0.length : Int)),(8,.int .i64 v1)]) (fun s=>match s with | v1=>[.box (c_I_AttrType false s0),.box (c_I_FilterNode false s1)]) (fun q ex fr σ=>match q with | .inl _=>ex = .exit 0 ∧ fr = [] ∧ σ = [.box (c_I_AttrType false s0),.box (c_I_FilterNode false s1)] | .inr q2=>ex = .ret ∧ RetN Tryz.prog [.tmp 4] (Fin [.box (c_I_AttrType false s0),.box (c_I_FilterNode false s1)] (.int .i64 q2)) .ret fr σ) h9 ?_ ?_
 ·rintro v1 y3 H
  refine au 5 ?_
  refine T.cH H ?_ ?_<;>intro H h
  ·refine au 13 ?_
   obtain ⟨e4,h5,H⟩:=bind_s H
   refine TL.st rfl rfl rfl (o_ix (f:=c_str) rfl rfl tyS_9 rfl rfl h5 rfl) ?_
   refine TL.st rfl rfl rfl (o_loadRf rfl tyS_9 rfl (nb rfl) rfl) ?_
   obtain ⟨r6,h7,H⟩:=bind_s H
   refine TL.st rfl rfl rfl (o_callS [0,1] rfl en_121 rfl rfl (impl_DirSchema_yleaf_2_p  h7) rfl (by decide) (.cons _ _ _ _ rfl (.cons _ _ _ _ rfl .nil)) rfl rfl rfl) ?_
   refine TL.nil ?_
   refine T.cH H ?_ ?_<;>intro H h
   ·refine au 6 ?_
    refine inB_ret (thn_ret ?_)
    exact Pk.id (thn_ret ⟨.inr v1,(some_i H).symm,rfl,⟨trivial,_,(.tmp _ _ _ _ rfl .nil),⟨rfl,_,rfl⟩⟩⟩)
   ·refine au 5 ?_
    exact Pk.of (thn_normal ⟨(IntKind.i64.wrap (v1 + 1)),(some_i H).symm,rfl,rfl⟩)
  ·refine T.exit ?_
   refine thn_exit ?_
   exact Pk.of (thn_exit ⟨.inl (),(some_i H).symm,rfl,rfl,rfl⟩)
 ·rcases q8 with ⟨⟩ | q2
  ·rintro _ _ _ ⟨rfl,rfl,rfl⟩
   refine inB_here ?_
   refine au 5 ?_
   cases some_i H
   exact ⟨trivial,_,(.tmp _ _ _ _ rfl .nil),⟨rfl,_,rfl⟩⟩
  ·rintro _ fr1 σ1 ⟨rfl,hr⟩
   refine inB_ret (thn_ret ?_)
   cases some_i H
   exact hr
noncomputable def slices_ContainsFuncx (a0 : (List ByteArray)) (s0 : I_AttrType) (s1 : I_FilterNode) : Option Bool :=
  (slices_IndexFuncx a0 s0 s1).bind fun r1=>some (decide (r1 ≥ 0))
theorem slices_ContainsFuncx_p (b0 : Bool) {a0 : (List ByteArray)} {s0 : I_AttrType} {s1 : I_FilterNode} {R0 : Bool} (H : slices_ContainsFuncx a0 s0 s1 = some R0) : St Tryz.prog 118 [.im b0 (a0.map (c_str)),.fn 121 [] [.bx 0 0,.bx 1 0]] [.box (c_I_AttrType false s0),.box (c_I_FilterNode false s1)] (.bool R0) [.box (c_I_AttrType false s0),.box (c_I_FilterNode false s1)]:=by
 refine CallT.fin (CallT.of_TN (n:=9) Tryz.func118 rfl rfl rfl rfl ?_) rfl rfl ⟨(bels_iff.1 rfl),⟨(bels_iff.1 rfl),trivial⟩⟩
 refine au 8 ?_
 obtain ⟨r1,h2,H⟩:=bind_s H
 refine TL.st rfl rfl rfl (o_callS [0,1] rfl en_150 rfl rfl (slices_IndexFuncx_p b0 h2) rfl (by decide) (.cons _ _ _ _ rfl (.cons _ _ _ _ rfl .nil)) rfl rfl rfl) ?_
 refine au 4 ?_
 cases some_i H
 exact ⟨trivial,_,(.tmp _ _ _ _ rfl .nil),⟨rfl,_,rfl⟩⟩
theorem en_125 : En Tryz.prog 125:=.of Tryz.func125 rfl rfl
noncomputable def cmp_isNaN (a0 : Int) : Option Bool :=
  some (a0 != a0)
theorem cmp_isNaN_p  {a0 : Int} {R0 : Bool} (H : cmp_isNaN a0 = some R0) : Pure Tryz.prog 154 [.int .i64 a0] (.bool R0):=by
 refine CallT.of_TN (n:=6) Tryz.func154 rfl rfl rfl rfl ?_
 refine au 12 ?_
 cases some_i H
 exact ⟨trivial,_,(.tmp _ _ _ _ rfl .nil),(.cl _ rfl)⟩
theorem en_154 : En Tryz.prog 154:=.of Tryz.func154 rfl rfl
noncomputable def cmp_Compare (a0 : Int) (a1 : Int) : Option Int :=
  (cmp_isNaN a0).bind fun r1=>(cmp_isNaN a1).bind fun r3=>cond r1 (cond r3 (some 0) (some (-1))) (cond r3 (some 1) (cond (decide (a0 < a1)) (some (-1)) (cond (decide (a0 > a1)) (some 1) (some 0))))
theorem cmp_Compare_p  {a0 : Int} {a1 : Int} {R0 : Int} (H : cmp_Compare a0 a1 = some R0) : Pure Tryz.prog 127 [.int .i64 a0,.int .i64 a1] (.int .i64 R0):=by
 refine CallT.of_TN (n:=20) Tryz.func127 rfl rfl rfl rfl ?_
 refine au 7 ?_
 obtain ⟨r1,h2,H⟩:=bind_s H
 refine TL.st rfl rfl rfl (o_callP rfl en_154 rfl rfl (.cons _ _ _ _ (.cl _ rfl) .nil) (cmp_isNaN_p  h2)) ?_
 refine au 5 ?_
 obtain ⟨r3,h4,H⟩:=bind_s H
 refine TL.st rfl rfl rfl (o_callP rfl en_154 rfl rfl (.cons _ _ _ _ (.cl _ rfl) .nil) (cmp_isNaN_p  h4)) ?_
 refine au 7 ?_
 refine T.cH H ?_ ?_<;>intro H h
 ·refine au 5 ?_
  refine T.cH H ?_ ?_<;>intro H h
  ·refine au 5 ?_
   refine thn_ret (thn_ret ?_)
   cases some_i H
   exact ⟨trivial,_,(.tmp _ _ _ _ rfl .nil),(.cl _ rfl)⟩
  ·refine au 6 ?_
   refine thn_ret ?_
   cases some_i H
   exact ⟨trivial,_,(.tmp _ _ _ _ rfl .nil),(.cl _ rfl)⟩
 ·refine au 6 ?_
  refine T.cH H ?_ ?_<;>intro H h
  ·refine au 5 ?_
   refine thn_ret ?_
   cases some_i H
   exact ⟨trivial,_,(.tmp _ _ _ _ rfl .nil),(.cl _ rfl)⟩
  ·refine au 8 ?_
   refine T.cH H ?_ ?_<;>intro H h
   ·refine au 5 ?_
    refine thn_ret ?_
    cases some_i H
    exact ⟨trivial,_,(.tmp _ _ _ _ rfl .nil),(.cl _ rfl)⟩
   ·refine au 8 ?_
    refine T.cH H ?_ ?_<;>intro H h
    ·refine au 5 ?_
     refine thn_ret ?_
     cases some_i H
     exact ⟨trivial,_,(.tmp _ _ _ _ rfl .nil),(.cl _ rfl)⟩
    ·refine au 6 ?_
     cases some_i H
     exact ⟨trivial,_,(.tmp _ _ _ _ rfl .nil),(.cl _ rfl)⟩
theorem en_127 : En Tryz.prog 127:=.of Tryz.func127 rfl rfl
noncomputable def impl_DirSchema_yleaf_3_j1 (s0 : I_FilterNode) (v3 : Int) : Option Bool :=
  some (((s0.Kind_ == 5) && decide (v3 ≥ 0)) || ((s0.Kind_ == 6) && decide (v3 ≤ 0)))
noncomputable def impl_DirSchema_yleaf_3 (a0 : ByteArray) (s0 : I_FilterNode) (s1 : I_AttrType) : Option Bool :=
  (compareO a0 s0.Text_).bind fun r1=>cond (s1.Syntax_ == 1) ((capsO a0).bind fun r4=>(capsO s0.Text_).bind fun r6=>(compareO r4 r6).bind fun r8=>impl_DirSchema_yleaf_3_j1 s0 r8) (cond (s1.Syntax_ == 3) ((wholeO a0).bind fun q=>(match q with | (r10,r11)=>(wholeO s0.Text_).bind fun q=>(match q with | (r13,r14)=>cond (!r11) (some false) ((cmp_Compare r10 r13).bind fun r16=>impl_DirSchema_yleaf_3_j1 s0 r16)))) (impl_DirSchema_yleaf_3_j1 s0 r1))
theorem impl_DirSchema_yleaf_3_p  {a0 : ByteArray} {s0 : I_FilterNode} {s1 : I_AttrType} {R0 : Bool} (H : impl_DirSchema_yleaf_3 a0 s0 s1 = some R0) : St Tryz.prog 124 [.str a0,.bx 0 0,.bx 1 0] [.box (c_I_FilterNode false s0),.box (c_I_AttrType false s1)] (.bool R0) [.box (c_I_FilterNode false s0),.box (c_I_AttrType false s1)]:=by
 refine CallT.fin (CallT.of_TN (n:=58) Tryz.func124 rfl rfl rfl rfl ?_) rfl rfl ⟨(bels_iff.1 rfl),⟨(bels_iff.1 rfl),trivial⟩⟩
 refine au 9 ?_
 obtain ⟨r1,h2,H⟩:=bind_s H
 refine TL.st rfl rfl rfl (o_callP rfl en_125 rfl rfl (.cons _ _ _ _ (.cl _ rfl) (.cons _ _ _ _ (.cl _ rfl) .nil)) (MT.lib_125  h2)) ?_
 refine au 2 ?_
 refine T.cut (fun fr' σ'=>∃ (v3 : Int),fr' = [(1,.bx 0 0),(5,.int .i64 v3)] ∧ σ' = [.box (c_I_FilterNode false s0),.box (c_I_AttrType false s1)] ∧ impl_DirSchema_yleaf_3_j1 s0 v3 = some R0) (T.pk ?_) ?_
 ·skip
  refine au 11 ?_
  refine T.cH H ?_ ?_<;>intro H h
  ·refine T.drawn rfl ?_
   refine TD.qs rfl rfl (fun _=>o_move rfl rfl) ?_
   obtain ⟨r4,h5,H⟩:=bind_s H
   refine TD.qs rfl rfl (fun _=>o_callP rfl en_123 rfl rfl (.cons _ _ _ _ (.cl _ rfl) .nil) (MT.lib_123  h5)) ?_
   refine ad 2 ?_
   obtain ⟨r6,h7,H⟩:=bind_s H
   refine TD.qs rfl rfl (fun _=>o_callP rfl en_123 rfl rfl (.cons _ _ _ _ (.cl _ rfl) .nil) (MT.lib_123  h7)) ?_
   obtain ⟨r8,h9,H⟩:=bind_s H
   refine TD.qs rfl rfl (fun _=>o_callP rfl en_125 rfl rfl (.cons _ _ _ _ (.cl _ rfl) (.cons _ _ _ _ (.cl _ rfl) .nil)) (MT.lib_125  h9)) ?_
   refine TD.qs rfl rfl (fun _=>o_assign rfl rfl) ?_
   refine TD.nil ⟨rfl,?_⟩
   refine inB_normal ?_
   exact Pk.of (thn_normal ⟨r8,rfl,rfl,H⟩)
  ·refine au 5 ?_
   refine T.cH H ?_ ?_<;>intro H h
   ·refine au 3 ?_
    obtain ⟨⟨r10,r11⟩,h12,H⟩:=bind_s H
    refine TL.st rfl rfl rfl (o_callP rfl en_126 rfl rfl (.cons _ _ _ _ (.cl _ rfl) .nil) (MT.lib_126  h12)) ?_
    refine au 10 ?_
    obtain ⟨⟨r13,r14⟩,h15,H⟩:=bind_s H
    refine TL.st rfl rfl rfl (o_callP rfl en_126 rfl rfl (.cons _ _ _ _ (.cl _ rfl) .nil) (MT.lib_126  h15)) ?_
    refine au 12 ?_
    refine T.cH H ?_ ?_<;>intro H h
    ·refine au 5 ?_
     refine thn_ret (inB_ret ?_)
     refine Pk.id (thn_ret ?_)
     cases some_i H
     exact ⟨trivial,_,(.tmp _ _ _ _ rfl .nil),⟨rfl,_,rfl⟩⟩
    ·refine au 4 ?_
     obtain ⟨r16,h17,H⟩:=bind_s H
     refine TL.st rfl rfl rfl (o_callP rfl en_127 rfl rfl (.cons _ _ _ _ (.cl _ rfl) (.cons _ _ _ _ (.cl _ rfl) .nil)) (cmp_Compare_p  h17)) ?_
     refine au 2 ?_
     refine inB_normal ?_
     exact Pk.of (thn_normal ⟨r16,rfl,rfl,H⟩)
   ·refine T.skip ?_
    refine inB_normal ?_
    exact Pk.of (thn_normal ⟨r1,rfl,rfl,H⟩)
 ·rintro _ _ ⟨v3,rfl,rfl,H⟩
  refine au 13 ?_
  refine TL.gcq rfl rfl rfl (.bool _) rfl rfl (fun h=>o_move rfl (gv h rfl)) ?_
  refine TL.gcq rfl rfl rfl (.gd _ _) rfl rfl (fun h=>o_move rfl rfl) ?_
  refine TL.gcq rfl rfl rfl (.gd _ _) rfl rfl (fun h=>o_ari rfl (gv h rfl) rfl rfl) ?_
  refine TL.gcq rfl rfl rfl (.bool _) rfl rfl (fun h=>o_and rfl (gv h rfl) rfl (fun k=>Gd_t (andi h k)) rfl) ?_
  refine au 4 ?_
  cases some_i H
  exact ⟨trivial,_,(.tmp _ _ _ _ rfl .nil),⟨rfl,_,rfl⟩⟩
theorem en_124 : En Tryz.prog 124:=.of Tryz.func124 rfl rfl
noncomputable def slices_IndexFuncxx_l1 (a0 : (List ByteArray)) (s0 : I_FilterNode) (s1 : I_AttrType) : Int → Option (Int ⊕ (Unit ⊕ Int)):=fun s=>match s with
  | v1=>cond (decide (v1 < (a0.length : Int))) ((idx a0 v1).bind fun e4=>(impl_DirSchema_yleaf_3 e4 s0 s1).bind fun r6=>cond r6 (some (.inr (.inr v1))) (some (.inl (IntKind.i64.wrap (v1 + 1))))) (some (.inr (.inl ())))
noncomputable def slices_IndexFuncxx (a0 : (List ByteArray)) (s0 : I_FilterNode) (s1 : I_AttrType) : Option Int :=
  (loopO (slices_IndexFuncxx_l1 a0 s0 s1) 0).bind fun q8=>(match q8 with | .inl _=>some (-1) | .inr q2=>some q2)
theorem slices_IndexFuncxx_p (b0 : Bool) {a0 : (List ByteArray)} {s0 : I_FilterNode} {s1 : I_AttrType} {R0 : Int} (H : slices_IndexFuncxx a0 s0 s1 = some R0) : St Tryz.prog 150 [.im b0 (a0.map (c_str)),.fn 124 [] [.bx 0 0,.bx 1 0]] [.box (c_I_FilterNode false s0),.box (c_I_AttrType false s1)] (.int .i64 R0) [.box (c_I_FilterNode false s0),.box (c_I_AttrType false s1)]:=by
 refine CallT.fin (CallT.of_TN (n:=19) Tryz.func150 rfl rfl rfl rfl ?_) rfl rfl ⟨(bels_iff.1 rfl),⟨(bels_iff.1 rfl),trivial⟩⟩
 refine au 8 ?_
 refine TL.st rfl rfl rfl (o_lenL (f:=c_str) rfl rfl rfl) ?_
 refine au 3 ?_
 obtain ⟨q8,h9,H⟩:=bind_s H
 refine T.lq (fun s=>match s with | v1=>[(0,.im b0 (a0.map (c_str))),(1,.fn 124 [] [.bx 0 0,.bx 1 0]),(7,.int .i64 (a0.length : Int)),(8,.int .i64 v1)]) (fun s=>match s with | v1=>[.box (c_I_FilterNode false s0),.box (c_I_AttrType false s1)]) (fun q ex fr σ=>match q with | .inl _=>ex = .exit 0 ∧ fr = [] ∧ σ = [.box (c_I_FilterNode false s0),.box (c_I_AttrType false s1)] | .inr q2=>ex = .ret ∧ RetN Tryz.prog [.tmp 4] (Fin [.box (c_I_FilterNode false s0),.box (c_I_AttrType false s1)] (.int .i64 q2)) .ret fr σ) h9 ?_ ?_
 ·rintro v1 y3 H
  refine au 5 ?_
  refine T.cH H ?_ ?_<;>intro H h
  ·refine au 13 ?_
   obtain ⟨e4,h5,H⟩:=bind_s H
   refine TL.st rfl rfl rfl (o_ix (f:=c_str) rfl rfl tyS_9 rfl rfl h5 rfl) ?_
   refine TL.st rfl rfl rfl (o_loadRf rfl tyS_9 rfl (nb rfl) rfl) ?_
   obtain ⟨r6,h7,H⟩:=bind_s H
   refine TL.st rfl rfl rfl (o_callS [0,1] rfl en_124 rfl rfl (impl_DirSchema_yleaf_3_p  h7) rfl (by decide) (.cons _ _ _ _ rfl (.cons _ _ _ _ rfl .nil)) rfl rfl rfl) ?_
   refine TL.nil ?_
   refine T.cH H ?_ ?_<;>intro H h
   ·refine au 6 ?_
    refine inB_ret (thn_ret ?_)
    exact Pk.id (thn_ret ⟨.inr v1,(some_i H).symm,rfl,⟨trivial,_,(.tmp _ _ _ _ rfl .nil),⟨rfl,_,rfl⟩⟩⟩)
   ·refine au 5 ?_
    exact Pk.of (thn_normal ⟨(IntKind.i64.wrap (v1 + 1)),(some_i H).symm,rfl,rfl⟩)
  ·refine T.exit ?_
   refine thn_exit ?_
   exact Pk.of (thn_exit ⟨.inl (),(some_i H).symm,rfl,rfl,rfl⟩)
 ·rcases q8 with ⟨⟩ | q2
  ·rintro _ _ _ ⟨rfl,rfl,rfl⟩
   refine inB_here ?_
   refine au 5 ?_
   cases some_i H
   exact ⟨trivial,_,(.tmp _ _ _ _ rfl .nil),⟨rfl,_,rfl⟩⟩
  ·rintro _ fr1 σ1 ⟨rfl,hr⟩
   refine inB_ret (thn_ret ?_)
   cases some_i H
   exact hr
noncomputable def slices_ContainsFuncxx (a0 : (List ByteArray)) (s0 : I_FilterNode) (s1 : I_AttrType) : Option Bool :=
  (slices_IndexFuncxx a0 s0 s1).bind fun r1=>some (decide (r1 ≥ 0))
theorem slices_ContainsFuncxx_p (b0 : Bool) {a0 : (List ByteArray)} {s0 : I_FilterNode} {s1 : I_AttrType} {R0 : Bool} (H : slices_ContainsFuncxx a0 s0 s1 = some R0) : St Tryz.prog 118 [.im b0 (a0.map (c_str)),.fn 124 [] [.bx 0 0,.bx 1 0]] [.box (c_I_FilterNode false s0),.box (c_I_AttrType false s1)] (.bool R0) [.box (c_I_FilterNode false s0),.box (c_I_AttrType false s1)]:=by
 refine CallT.fin (CallT.of_TN (n:=9) Tryz.func118 rfl rfl rfl rfl ?_) rfl rfl ⟨(bels_iff.1 rfl),⟨(bels_iff.1 rfl),trivial⟩⟩
 refine au 8 ?_
 obtain ⟨r1,h2,H⟩:=bind_s H
 refine TL.st rfl rfl rfl (o_callS [0,1] rfl en_150 rfl rfl (slices_IndexFuncxx_p b0 h2) rfl (by decide) (.cons _ _ _ _ rfl (.cons _ _ _ _ rfl .nil)) rfl rfl rfl) ?_
 refine au 4 ?_
 cases some_i H
 exact ⟨trivial,_,(.tmp _ _ _ _ rfl .nil),⟨rfl,_,rfl⟩⟩
noncomputable def impl_DirSchema_yleaf (a0 : I_DirSchema) (a1 : I_Entry) (a2 : I_FilterNode) : Option Int :=
  (impl_DirSchema_yattrType a0 a2.Attr_).bind fun q=>(match q with | (r1,r2)=>cond (!r2) (some 2) ((impl_Entry_yvalues a1 a2.Attr_).bind fun r4=>cond (a2.Kind_ == 7) ((impl_ysure (decide ((r4.length : Int) > 0))).bind fun r6=>some r6) (cond (a2.Kind_ == 4) ((impl_yofSyntax r1.Syntax_ a2.Text_).bind fun r8=>cond (!r8) (some 2) ((slices_ContainsFunc r4 r1 a2).bind fun r10=>(impl_ysure r10).bind fun r12=>some r12)) (cond (a2.Kind_ == 8) (cond ((r1.Syntax_ == 3) || (r1.Syntax_ == 4)) (some 2) ((slices_ContainsFuncx r4 r1 a2).bind fun r14=>(impl_ysure r14).bind fun r16=>some r16)) ((gdO (!(r1.Syntax_ == 4)) (impl_yofSyntax r1.Syntax_ a2.Text_)).bind fun r18=>cond ((r1.Syntax_ == 4) || (!r18)) (some 2) ((slices_ContainsFuncxx r4 a2 r1).bind fun r20=>(impl_ysure r20).bind fun r22=>some r22))))))
theorem impl_DirSchema_yleaf_p (b0 : Bool) (b1 : Bool) {a0 : I_DirSchema} {a1 : I_Entry} {a2 : I_FilterNode} {R0 : Int} (H : impl_DirSchema_yleaf a0 a1 a2 = some R0) : Pure Tryz.prog 76 [.agg (c_I_DirSchema b0 a0),.agg (c_I_Entry b1 a1),.agg (c_I_FilterNode false a2)] (.int .i64 R0):=by
 refine CallT.of_TN (n:=72) Tryz.func76 rfl rfl rfl rfl ?_
 refine au 8 ?_
 refine T.conv (Cs.eqS (σ':=[.box (c_I_DirSchema b0 a0),.box (c_I_Entry b1 a1),.box (c_I_FilterNode false a2)]) rfl) ?_
 refine au 4 ?_
 obtain ⟨⟨r1,r2⟩,h3,H⟩:=bind_s H
 refine TL.st rfl rfl rfl (o_callP rfl en_68 rfl rfl (.cons _ _ _ _ (Lent.aggL (.cons _ _ _ _ (.imv _ _) (.cons _ _ _ _ (.imv _ _) .nil))) (.cons _ _ _ _ (.cl _ rfl) .nil)) (impl_DirSchema_yattrType_p b0 h3)) ?_
 refine au 13 ?_
 refine T.cH H ?_ ?_<;>intro H h
 ·refine au 5 ?_
  refine thn_ret ?_
  cases some_i H
  exact ⟨trivial,_,(.tmp _ _ _ _ rfl .nil),(.cl _ rfl)⟩
 ·refine au 6 ?_
  obtain ⟨r4,h5,H⟩:=bind_s H
  refine TL.st rfl rfl rfl (o_callP rfl en_46 rfl rfl (.cons _ _ _ _ (Lent.aggL (.cons _ _ _ _ (.imv _ _) (.cons _ _ _ _ (.imv _ _) .nil))) (.cons _ _ _ _ (.cl _ rfl) .nil)) (impl_Entry_yvalues_p b1 h5)) ?_
  refine au 14 ?_
  refine T.cH H ?_ ?_<;>intro H h
  ·refine au 3 ?_
   refine TL.st rfl rfl rfl (o_lenL (f:=c_str) rfl rfl rfl) ?_
   refine TL.st rfl rfl rfl (o_ari rfl rfl rfl rfl) ?_
   obtain ⟨r6,h7,H⟩:=bind_s H
   refine TL.st rfl rfl rfl (o_callP rfl en_77 rfl rfl (.cons _ _ _ _ (.cl _ rfl) .nil) (impl_ysure_p  h7)) ?_
   refine au 3 ?_
   refine inB_ret (thn_ret ?_)
   cases some_i H
   exact ⟨trivial,_,(.tmp _ _ _ _ rfl .nil),(.cl _ rfl)⟩
  ·refine au 5 ?_
   refine T.cH H ?_ ?_<;>intro H h
   ·refine au 7 ?_
    obtain ⟨r8,h9,H⟩:=bind_s H
    refine TL.st rfl rfl rfl (o_callP rfl en_117 rfl rfl (.cons _ _ _ _ (.cl _ rfl) (.cons _ _ _ _ (.cl _ rfl) .nil)) (impl_yofSyntax_p  h9)) ?_
    refine au 2 ?_
    refine T.cH H ?_ ?_<;>intro H h
    ·refine au 5 ?_
     refine thn_ret (inB_ret (thn_ret ?_))
     cases some_i H
     exact ⟨trivial,_,(.tmp _ _ _ _ rfl .nil),(.cl _ rfl)⟩
    ·refine au 4 ?_
     refine TL.st rfl rfl rfl (o_makeFunc rfl rfl rfl) ?_
     obtain ⟨r10,h11,H⟩:=bind_s H
     refine TL.st rfl rfl rfl (o_callS [3,2] rfl en_118 rfl rfl (slices_ContainsFunc_p false h11) rfl (by decide) (.cons _ _ _ _ rfl (.cons _ _ _ _ rfl .nil)) rfl rfl rfl) ?_
     obtain ⟨r12,h13,H⟩:=bind_s H
     refine TL.st rfl rfl rfl (o_callP rfl en_77 rfl rfl (.cons _ _ _ _ (.cl _ rfl) .nil) (impl_ysure_p  h13)) ?_
     refine au 2 ?_
     refine T.conv (Cs.eqS (σ':=[_,_,_,.box (c_I_AttrType false r1)]) rfl) ?_
     refine T.ret ?_
     refine inB_ret (thn_ret ?_)
     cases some_i H
     exact ⟨trivial,_,(.tmp _ _ _ _ rfl .nil),(.cl _ rfl)⟩
   ·refine au 5 ?_
    refine T.cH H ?_ ?_<;>intro H h
    ·refine au 12 ?_
     refine T.cH H ?_ ?_<;>intro H h
     ·refine au 5 ?_
      refine thn_ret (inB_ret (thn_ret ?_))
      cases some_i H
      exact ⟨trivial,_,(.tmp _ _ _ _ rfl .nil),(.cl _ rfl)⟩
     ·refine au 4 ?_
      refine TL.st rfl rfl rfl (o_makeFunc rfl rfl rfl) ?_
      obtain ⟨r14,h15,H⟩:=bind_s H
      refine TL.st rfl rfl rfl (o_callS [3,2] rfl en_118 rfl rfl (slices_ContainsFuncx_p false h15) rfl (by decide) (.cons _ _ _ _ rfl (.cons _ _ _ _ rfl .nil)) rfl rfl rfl) ?_
      obtain ⟨r16,h17,H⟩:=bind_s H
      refine TL.st rfl rfl rfl (o_callP rfl en_77 rfl rfl (.cons _ _ _ _ (.cl _ rfl) .nil) (impl_ysure_p  h17)) ?_
      refine au 2 ?_
      refine T.conv (Cs.eqS (σ':=[_,_,_,.box (c_I_AttrType false r1)]) rfl) ?_
      refine T.ret ?_
      refine inB_ret (thn_ret ?_)
      cases some_i H
      exact ⟨trivial,_,(.tmp _ _ _ _ rfl .nil),(.cl _ rfl)⟩
    ·refine au 12 ?_
     obtain ⟨r18,h19,H⟩:=bind_s H
     refine TL.gcq rfl rfl rfl (.bool _) rfl rfl (fun h=>o_callP rfl en_117 rfl (evl_2 (gv h rfl) (gv h rfl)) (.cons _ _ _ _ (.cl _ rfl) (.cons _ _ _ _ (.cl _ rfl) .nil)) (impl_yofSyntax_p  (gdO_t h19 h))) ?_
     refine au 3 ?_
     refine T.cH H ?_ ?_<;>intro H h
     ·refine au 5 ?_
      refine thn_ret ?_
      cases some_i H
      exact ⟨trivial,_,(.tmp _ _ _ _ rfl .nil),(.cl _ rfl)⟩
     ·refine au 4 ?_
      refine TL.st rfl rfl rfl (o_makeFunc rfl rfl rfl) ?_
      obtain ⟨r20,h21,H⟩:=bind_s H
      refine TL.st rfl rfl rfl (o_callS [2,3] rfl en_118 rfl rfl (slices_ContainsFuncxx_p false h21) rfl (by decide) (.cons _ _ _ _ rfl (.cons _ _ _ _ rfl .nil)) rfl rfl rfl) ?_
      obtain ⟨r22,h23,H⟩:=bind_s H
      refine TL.st rfl rfl rfl (o_callP rfl en_77 rfl rfl (.cons _ _ _ _ (.cl _ rfl) .nil) (impl_ysure_p  h23)) ?_
      refine au 2 ?_
      refine T.conv (Cs.eqS (σ':=[_,_,_,.box (c_I_AttrType false r1)]) rfl) ?_
      refine T.ret ?_
      cases some_i H
      exact ⟨trivial,_,(.tmp _ _ _ _ rfl .nil),(.cl _ rfl)⟩
theorem en_76 : En Tryz.prog 76:=.of Tryz.func76 rfl rfl
theorem en_33 : En Tryz.prog 33:=.of Tryz.func33 rfl rfl
noncomputable def impl_DirSchema_ymeets_l1 (a0 : I_DirSchema) (a1 : I_Entry) (a2 : (List I_FilterNode)) (rec_impl_DirSchema_ymeets : (I_DirSchema × I_Entry × (List I_FilterNode) × Int) → Option (Int × Int)) (e1 : I_FilterNode) : ((List Bool) × Int × Int) → Option (((List Bool) × Int × Int) ⊕ ((List Bool) × Int)):=fun s=>match s with
  | (b5,v6,v7)=>cond (decide (v7 < e1.Kids_)) ((rec_impl_DirSchema_ymeets (a0,a1,a2,v6)).bind fun q=>(match q with | (r23,r24)=>(ixA 3 b5 r23).bind fun e26=>some (.inl ((b5.set (Int.toNat r23) true),r24,(IntKind.i64.wrap (v7 + 1)))))) (some (.inr (b5,v6)))
noncomputable def impl_DirSchema_ymeets_b (rec_impl_DirSchema_ymeets : (I_DirSchema × I_Entry × (List I_FilterNode) × Int) → Option (Int × Int)) (a0 : I_DirSchema) (a1 : I_Entry) (a2 : (List I_FilterNode)) (a3 : Int) : Option (Int × Int) :=
  (idx a2 a3).bind fun e1=>cond (decide (e1.Kind_ > 3)) ((impl_DirSchema_yleaf a0 a1 e1).bind fun r3=>some (r3,(IntKind.i64.wrap (a3 + 1)))) ((loopO (impl_DirSchema_ymeets_l1 a0 a1 a2 rec_impl_DirSchema_ymeets e1) (([false,false,false] : List Bool),(IntKind.i64.wrap (a3 + 1)),0)).bind fun q28=>(match q28 with | (b8,v9)=>(gdO (e1.Kind_ == 3) (ixA 3 b8 1)).bind fun e10=>cond ((e1.Kind_ == 3) && e10) (some (0,v9)) ((gdO (e1.Kind_ == 3) (ixA 3 b8 0)).bind fun e12=>cond ((e1.Kind_ == 3) && e12) (some (1,v9)) (cond (e1.Kind_ == 3) (some (2,v9)) ((gdO (e1.Kind_ == 1) (ixA 3 b8 0)).bind fun e14=>cond ((e1.Kind_ == 1) && e14) (some (0,v9)) ((gdO (e1.Kind_ == 2) (ixA 3 b8 1)).bind fun e16=>cond ((e1.Kind_ == 2) && e16) (some (1,v9)) ((ixA 3 b8 2).bind fun e18=>cond e18 (some (2,v9)) ((impl_ysure (e1.Kind_ == 1)).bind fun r20=>some (r20,v9)))))))))
noncomputable def impl_DirSchema_ymeets (a0 : I_DirSchema) (a1 : I_Entry) (a2 : (List I_FilterNode)) (a3 : Int) : Option (Int × Int):=fixO (fun rec_impl_DirSchema_ymeets x=>match x with | (a0,a1,a2,a3)=>impl_DirSchema_ymeets_b rec_impl_DirSchema_ymeets a0 a1 a2 a3) (a0,a1,a2,a3)
theorem impl_DirSchema_ymeets_pb {rec_impl_DirSchema_ymeets : (I_DirSchema × I_Entry × (List I_FilterNode) × Int) → Option (Int × Int)} (Hrec_impl_DirSchema_ymeets : ∀ (b0 : Bool) (b1 : Bool) (b2 : Bool) {a0 : I_DirSchema} {a1 : I_Entry} {a2 : (List I_FilterNode)} {a3 : Int} {R0 : Int} {R1 : Int}, rec_impl_DirSchema_ymeets (a0, a1, a2, a3) = some (R0, R1) → Pure Tryz.prog 33 [.agg (c_I_DirSchema b0 a0), .agg (c_I_Entry b1 a1), .im b2 (a2.map (c_I_FilterNode false)), .int .i64 a3] (.tup [.int .i64 R0, .int .i64 R1])) (b0 : Bool) (b1 : Bool) (b2 : Bool) {a0 : I_DirSchema} {a1 : I_Entry} {a2 : (List I_FilterNode)} {a3 : Int} {R0 : Int} {R1 : Int} (H : impl_DirSchema_ymeets_b rec_impl_DirSchema_ymeets a0 a1 a2 a3 = some (R0, R1)) : Pure Tryz.prog 33 [.agg (c_I_DirSchema b0 a0), .agg (c_I_Entry b1 a1), .im b2 (a2.map (c_I_FilterNode false)), .int .i64 a3] (.tup [.int .i64 R0, .int .i64 R1]) := by
 refine CallT.of_TN (n:=93) Tryz.func33 rfl rfl rfl rfl ?_
 refine au 11 ?_
 obtain ⟨e1,h2,H⟩:=bind_s H
 refine TL.st rfl rfl rfl (o_ix (f:=c_I_FilterNode false) rfl rfl tyS_77 rfl rfl h2 rfl) ?_
 refine au 6 ?_
 refine T.conv (Cs.eqS (σ':=[.box (c_I_DirSchema b0 a0),.box (c_I_Entry b1 a1),.box (c_I_FilterNode false e1)]) rfl) ?_
 refine au 5 ?_
 refine T.cH H ?_ ?_<;>intro H h
 ·refine au 5 ?_
  obtain ⟨r3,h4,H⟩:=bind_s H
  refine TL.st rfl rfl rfl (o_callP rfl en_76 rfl rfl (.cons _ _ _ _ (Lent.aggL (.cons _ _ _ _ (.imv _ _) (.cons _ _ _ _ (.imv _ _) .nil))) (.cons _ _ _ _ (Lent.aggL (.cons _ _ _ _ (.imv _ _) (.cons _ _ _ _ (.imv _ _) .nil))) (.cons _ _ _ _ (.cl _ rfl) .nil))) (impl_DirSchema_yleaf_p b0 b1 h4)) ?_
  refine au 6 ?_
  refine thn_ret ?_
  cases some_i H
  exact ⟨trivial,_,(.tmp _ _ _ _ rfl (.tmp _ _ _ _ rfl .nil)),(.tupL (.cons _ _ _ _ (.cl _ rfl) (.cons _ _ _ _ (.cl _ rfl) .nil)))⟩
 ·refine au 19 ?_
  obtain ⟨q28,h29,H⟩:=bind_s H
  refine T.lq (fun s=>match s with | (b5,v6,v7)=>[(2,.im b2 (a2.map (c_I_FilterNode false))),(3,.int .i64 v6),(4,.bx 0 0),(5,.bx 1 0),(10,.bx 2 0),(11,.bx 3 0),(29,.int .i64 e1.Kids_),(30,.int .i64 v7)]) (fun s=>match s with | (b5,v6,v7)=>[.box (c_I_DirSchema b0 a0),.box (c_I_Entry b1 a1),.box (c_I_FilterNode false e1),.box (b5.map (V.bool))]) (fun q ex fr σ=>match q with | (b8,v9)=>ex = .exit 0 ∧ fr = [(3,.int .i64 v9),(10,.bx 2 0),(11,.bx 3 0)] ∧ σ = [.box (c_I_DirSchema b0 a0),.box (c_I_Entry b1 a1),.box (c_I_FilterNode false e1),.box (b8.map (V.bool))]) h29 ?_ ?_
  ·rintro ⟨b5,v6,v7⟩ y22 H
   refine au 5 ?_
   refine T.cH H ?_ ?_<;>intro H h
   ·refine au 13 ?_
    obtain ⟨⟨r23,r24⟩,h25,H⟩:=bind_s H
    refine TL.st rfl rfl rfl (o_callP rfl en_33 rfl rfl (.cons _ _ _ _ (Lent.aggL (.cons _ _ _ _ (.imv _ _) (.cons _ _ _ _ (.imv _ _) .nil))) (.cons _ _ _ _ (Lent.aggL (.cons _ _ _ _ (.imv _ _) (.cons _ _ _ _ (.imv _ _) .nil))) (.cons _ _ _ _ (.imv _ _) (.cons _ _ _ _ (.cl _ rfl) .nil)))) (Hrec_impl_DirSchema_ymeets b0 b1 b2 h25)) ?_
    refine au 8 ?_
    obtain ⟨e26,h27,H⟩:=bind_s H
    refine TL.st rfl rfl rfl (o_ixA (f:=V.bool) (xs:=b5) rfl rfl tyS_4 rfl rfl rfl h27 (by decide)) ?_
    refine TL.sn rfl rfl (o_stA (f:=V.bool) (xs:=b5) (a:=e26) (b:=true) rfl tyS_4 rfl rfl rfl h27 rfl rfl) ?_
    refine au 5 ?_
    exact Pk.of (thn_normal ⟨((b5.set (Int.toNat r23) true),r24,(IntKind.i64.wrap (v7 + 1))),(some_i H).symm,rfl,rfl⟩)
   ·refine T.exit ?_
    refine thn_exit ?_
    exact Pk.of (thn_exit ⟨(b5,v6),(some_i H).symm,rfl,rfl,rfl⟩)
  ·rcases q28 with ⟨b8,v9⟩
   rintro _ _ _ ⟨rfl,rfl,rfl⟩
   refine inB_here ?_
   refine au 8 ?_
   obtain ⟨e10,h11,H⟩:=bind_s H
   refine TL.gcq rfl rfl rfl (.bool _) rfl rfl (fun h=>o_ixA (f:=V.bool) (xs:=b8) rfl rfl tyS_4 rfl rfl rfl (gdO_t h11 h) (by decide)) ?_
   refine TL.gcq rfl rfl rfl (.bool _) rfl rfl (fun h=>o_ldA (f:=V.bool) (xs:=b8) (a:=e10) rfl tyS_4 (gv h rfl) rfl (gdO_t h11 h)) ?_
   refine au 3 ?_
   refine T.cH H ?_ ?_<;>intro H h
   ·refine au 7 ?_
    refine inB_ret (thn_ret ?_)
    cases some_i H
    exact ⟨trivial,_,(.tmp _ _ _ _ rfl (.tmp _ _ _ _ rfl .nil)),(.tupL (.cons _ _ _ _ (.cl _ rfl) (.cons _ _ _ _ (.cl _ rfl) .nil)))⟩
   ·refine au 6 ?_
    obtain ⟨e12,h13,H⟩:=bind_s H
    refine TL.gcq rfl rfl rfl (.bool _) rfl rfl (fun h=>o_ixA (f:=V.bool) (xs:=b8) rfl rfl tyS_4 rfl rfl rfl (gdO_t h13 h) (by decide)) ?_
    refine TL.gcq rfl rfl rfl (.bool _) rfl rfl (fun h=>o_ldA (f:=V.bool) (xs:=b8) (a:=e12) rfl tyS_4 (gv h rfl) rfl (gdO_t h13 h)) ?_
    refine au 3 ?_
    refine T.cH H ?_ ?_<;>intro H h
    ·refine au 7 ?_
     refine inB_ret (thn_ret ?_)
     cases some_i H
     exact ⟨trivial,_,(.tmp _ _ _ _ rfl (.tmp _ _ _ _ rfl .nil)),(.tupL (.cons _ _ _ _ (.cl _ rfl) (.cons _ _ _ _ (.cl _ rfl) .nil)))⟩
    ·refine au 7 ?_
     refine T.cH H ?_ ?_<;>intro H h
     ·refine au 7 ?_
      refine inB_ret (thn_ret ?_)
      cases some_i H
      exact ⟨trivial,_,(.tmp _ _ _ _ rfl (.tmp _ _ _ _ rfl .nil)),(.tupL (.cons _ _ _ _ (.cl _ rfl) (.cons _ _ _ _ (.cl _ rfl) .nil)))⟩
     ·refine au 6 ?_
      obtain ⟨e14,h15,H⟩:=bind_s H
      refine TL.gcq rfl rfl rfl (.bool _) rfl rfl (fun h=>o_ixA (f:=V.bool) (xs:=b8) rfl rfl tyS_4 rfl rfl rfl (gdO_t h15 h) (by decide)) ?_
      refine TL.gcq rfl rfl rfl (.bool _) rfl rfl (fun h=>o_ldA (f:=V.bool) (xs:=b8) (a:=e14) rfl tyS_4 (gv h rfl) rfl (gdO_t h15 h)) ?_
      refine au 3 ?_
      refine T.cH H ?_ ?_<;>intro H h
      ·refine au 7 ?_
       refine inB_ret (thn_ret ?_)
       cases some_i H
       exact ⟨trivial,_,(.tmp _ _ _ _ rfl (.tmp _ _ _ _ rfl .nil)),(.tupL (.cons _ _ _ _ (.cl _ rfl) (.cons _ _ _ _ (.cl _ rfl) .nil)))⟩
      ·refine au 6 ?_
       obtain ⟨e16,h17,H⟩:=bind_s H
       refine TL.gcq rfl rfl rfl (.bool _) rfl rfl (fun h=>o_ixA (f:=V.bool) (xs:=b8) rfl rfl tyS_4 rfl rfl rfl (gdO_t h17 h) (by decide)) ?_
       refine TL.gcq rfl rfl rfl (.bool _) rfl rfl (fun h=>o_ldA (f:=V.bool) (xs:=b8) (a:=e16) rfl tyS_4 (gv h rfl) rfl (gdO_t h17 h)) ?_
       refine au 3 ?_
       refine T.cH H ?_ ?_<;>intro H h
       ·refine au 7 ?_
        refine inB_ret (thn_ret ?_)
        cases some_i H
        exact ⟨trivial,_,(.tmp _ _ _ _ rfl (.tmp _ _ _ _ rfl .nil)),(.tupL (.cons _ _ _ _ (.cl _ rfl) (.cons _ _ _ _ (.cl _ rfl) .nil)))⟩
       ·refine au 2 ?_
        obtain ⟨e18,h19,H⟩:=bind_s H
        refine TL.st rfl rfl rfl (o_ixA (f:=V.bool) (xs:=b8) rfl rfl tyS_4 rfl rfl rfl h19 (by decide)) ?_
        refine TL.st rfl rfl rfl (o_ldA (f:=V.bool) (xs:=b8) (a:=e18) rfl tyS_4 rfl rfl h19) ?_
        refine au 2 ?_
        refine T.cH H ?_ ?_<;>intro H h
        ·refine au 7 ?_
         refine inB_ret (thn_ret ?_)
         cases some_i H
         exact ⟨trivial,_,(.tmp _ _ _ _ rfl (.tmp _ _ _ _ rfl .nil)),(.tupL (.cons _ _ _ _ (.cl _ rfl) (.cons _ _ _ _ (.cl _ rfl) .nil)))⟩
        ·refine au 6 ?_
         obtain ⟨r20,h21,H⟩:=bind_s H
         refine TL.st rfl rfl rfl (o_callP rfl en_77 rfl rfl (.cons _ _ _ _ (.cl _ rfl) .nil) (impl_ysure_p  h21)) ?_
         refine au 5 ?_
         cases some_i H
         exact ⟨trivial,_,(.tmp _ _ _ _ rfl (.tmp _ _ _ _ rfl .nil)),(.tupL (.cons _ _ _ _ (.cl _ rfl) (.cons _ _ _ _ (.cl _ rfl) .nil)))⟩
theorem impl_DirSchema_ymeets_p (b0 : Bool) (b1 : Bool) (b2 : Bool) {a0 : I_DirSchema} {a1 : I_Entry} {a2 : (List I_FilterNode)} {a3 : Int} {R0 : Int} {R1 : Int} (H : impl_DirSchema_ymeets a0 a1 a2 a3 = some (R0,R1)) : Pure Tryz.prog 33 [.agg (c_I_DirSchema b0 a0),.agg (c_I_Entry b1 a1),.im b2 (a2.map (c_I_FilterNode false)),.int .i64 a3] (.tup [.int .i64 R0,.int .i64 R1]) :=
 fixO_ind (fun x r=>match x,r with | (a0,a1,a2,a3),(R0,R1)=>∀ (b0 : Bool) (b1 : Bool) (b2 : Bool),Pure Tryz.prog 33 [.agg (c_I_DirSchema b0 a0),.agg (c_I_Entry b1 a1),.im b2 (a2.map (c_I_FilterNode false)),.int .i64 a3] (.tup [.int .i64 R0,.int .i64 R1])) (fun rec_impl_DirSchema_ymeets Hrec x r h=>match x,r,h with | (a0,a1,a2,a3),(R0,R1),h=>fun b0 b1 b2=>impl_DirSchema_ymeets_pb (fun b0 b1 b2 {a0} {a1} {a2} {a3} {R0} {R1} h=>Hrec (a0,a1,a2,a3) (R0,R1) h b0 b1 b2) b0 b1 b2 h) H b0 b1 b2
noncomputable def impl_Search_l2 (a0 : I_DirSchema) (a1 : (List I_Entry)) (a2 : (List I_Part)) (a3 : Int) (a4 : (List I_FilterNode)) : (List ByteArray × List Int × Int) → Option ((List ByteArray × List Int × Int) ⊕ (List ByteArray × List Int)):=fun s=>match s with
  | (l11,l12,v13)=>cond (decide (v13 < (a1.length : Int))) ((idx a1 v13).bind fun e17=>(impl_Under e17.Name_ a2).bind fun r19=>cond (((!r19) || ((a3 == 1) && ((IntKind.i64.wrap ((e17.Name_.length : Int) - (a2.length : Int))) != 0))) || ((a3 == 2) && ((IntKind.i64.wrap ((e17.Name_.length : Int) - (a2.length : Int))) != 1))) (some (.inl (l11,l12,(IntKind.i64.wrap (v13 + 1))))) ((impl_Entry_yvalues e17 (ByteArray.mk #[114,101,102])).bind fun r21=>cond (decide ((r21.length : Int) > 0)) ((idx r21 0).bind fun e23=>(app l11 ([e23] : List ByteArray)).bind fun l25=>some (.inl (l25,l12,(IntKind.i64.wrap (v13 + 1))))) ((impl_DirSchema_ymeets a0 e17 a4 0).bind fun q=>(match q with | (r27,r28)=>cond (r27 == 1) ((app l12 ([v13] : List Int)).bind fun l30=>some (.inl (l11,l30,(IntKind.i64.wrap (v13 + 1))))) (some (.inl (l11,l12,(IntKind.i64.wrap (v13 + 1))))))))) (some (.inr (l11,l12)))
noncomputable def impl_Search_l1 (a1 : (List I_Entry)) : (List (ByteArray × Bool) × Int) → Option ((List (ByteArray × Bool) × Int) ⊕ (List (ByteArray × Bool) ⊕ ((List Int) × (List ByteArray)))):=fun s=>match s with
  | (m7,v8)=>cond (decide (v8 < (a1.length : Int))) ((idx a1 v8).bind fun e35=>(impl_GoodEntry e35).bind fun r37=>(gdO (!(!r37)) (impl_NameText e35.Name_)).bind fun r39=>cond ((!r37) || ((mget m7 r39).getD false)) (some (.inr (.inr (([] : List Int),([] : List ByteArray))))) ((impl_NameText e35.Name_).bind fun r41=>some (.inl ((mput m7 r41 true),(IntKind.i64.wrap (v8 + 1)))))) (some (.inr (.inl m7)))
noncomputable def impl_Search (a0 : I_DirSchema) (a1 : (List I_Entry)) (a2 : (List I_Part)) (a3 : Int) (a4 : (List I_FilterNode)) : Option ((List Int) × (List ByteArray)) :=
  (impl_GoodDirSchema a0).bind fun r1=>(gdO (!((!r1) || decide ((a1.length : Int) > 200))) (impl_GoodDirName a2)).bind fun r3=>(gdO (!(((!r1) || decide ((a1.length : Int) > 200)) || (!r3))) (impl_GoodFilter a4)).bind fun r5=>cond ((((((!r1) || decide ((a1.length : Int) > 200)) || (!r3)) || (!r5)) || decide (a3 < 1)) || decide (a3 > 3)) (some (([] : List Int),([] : List ByteArray))) ((loopO (impl_Search_l1 a1) (([] : List (ByteArray × Bool)),0)).bind fun q43=>(match q43 with | .inl m9=>(loopO (impl_Search_l2 a0 a1 a2 a3 a4) (([] : List ByteArray),([] : List Int),0)).bind fun q32=>(match q32 with | (l14,l15)=>some (l15,l14)) | .inr q10=>some q10))
theorem impl_Search_p (b0 : Bool) (b1 : Bool) (b2 : Bool) (b3 : Bool) {a0 : I_DirSchema} {a1 : (List I_Entry)} {a2 : (List I_Part)} {a3 : Int} {a4 : (List I_FilterNode)} {R0 : (List Int)} {R1 : (List ByteArray)} (H : impl_Search a0 a1 a2 a3 a4 = some (R0, R1)) : Pure Tryz.prog 13 [.agg (c_I_DirSchema b0 a0), .im b1 (a1.map (c_I_Entry false)), .im b2 (a2.map (c_I_Part false)), .int .i64 a3, .im b3 (a4.map (c_I_FilterNode false))] (.tup [.im false (R0.map (c_int .i64)), .im false (R1.map (c_str))]) := by
 refine CallT.of_TN (n:=132) Tryz.func13 rfl rfl rfl rfl ?_
 refine au 10 ?_
 obtain ⟨r1,h2,H⟩:=bind_s H
 refine TL.st rfl rfl rfl (o_callP rfl en_30 rfl rfl (.cons _ _ _ _ (Lent.aggL (.cons _ _ _ _ (.imv _ _) (.cons _ _ _ _ (.imv _ _) .nil))) .nil) (impl_GoodDirSchema_p b0 h2)) ?_
 refine au 3 ?_
 refine TL.gcq rfl rfl rfl (.bool _) rfl rfl (fun h=>o_lenL (f:=c_I_Entry false) rfl rfl (gv h rfl)) ?_
 refine au 4 ?_
 obtain ⟨r3,h4,H⟩:=bind_s H
 refine TL.gcq rfl rfl rfl (.bool _) rfl rfl (fun h=>o_callP rfl en_44 rfl (evl_1 (gv h rfl)) (.cons _ _ _ _ (.imv _ _) .nil) (impl_GoodDirName_p b2 (gdO_t h4 h))) ?_
 refine au 4 ?_
 obtain ⟨r5,h6,H⟩:=bind_s H
 refine TL.gcq rfl rfl rfl (.bool _) rfl rfl (fun h=>o_callP rfl en_32 rfl (evl_1 (gv h rfl)) (.cons _ _ _ _ (.imv _ _) .nil) (impl_GoodFilter_p b3 (gdO_t h6 h))) ?_
 refine au 11 ?_
 refine T.cH H ?_ ?_<;>intro H h
 ·refine au 6 ?_
  refine thn_ret ?_
  cases some_i H
  exact ⟨trivial,_,(.tmp _ _ _ _ rfl (.tmp _ _ _ _ rfl .nil)),(.tupL (.cons _ _ _ _ .nil (.cons _ _ _ _ .nil .nil)))⟩
 ·refine au 3 ?_
  refine TL.st rfl rfl rfl (o_makeMap rfl) ?_
  refine au 6 ?_
  refine TL.st rfl rfl rfl (o_lenL (f:=c_I_Entry false) rfl rfl rfl) ?_
  refine au 3 ?_
  obtain ⟨q43,h44,H⟩:=bind_s H
  refine T.lq (fun s=>match s with | (m7,v8)=>[(1,.im b1 (a1.map (c_I_Entry false))),(2,.im b2 (a2.map (c_I_Part false))),(3,.int .i64 a3),(4,.im b3 (a4.map (c_I_FilterNode false))),(5,.bx 0 0),(12,.mp 1),(50,.im b1 (a1.map (c_I_Entry false))),(51,.int .i64 (a1.length : Int)),(52,.int .i64 v8)]) (fun s=>match s with | (m7,v8)=>[.box (c_I_DirSchema b0 a0),mpO (V.str) (V.bool) m7]) (fun q ex fr σ=>match q with | .inl m9=>ex = .exit 0 ∧ fr = [(1,.im b1 (a1.map (c_I_Entry false))),(2,.im b2 (a2.map (c_I_Part false))),(3,.int .i64 a3),(4,.im b3 (a4.map (c_I_FilterNode false))),(5,.bx 0 0)] ∧ σ = [.box (c_I_DirSchema b0 a0),mpO (V.str) (V.bool) m9] | .inr q10=>ex = .ret ∧ RetN Tryz.prog [.tmp 10,.tmp 11] (fun v τ=>Told τ v (.tup [.im false (q10.1.map (c_int .i64)),.im false (q10.2.map (c_str))])) .ret fr σ) h44 ?_ ?_
  ·rintro ⟨m7,v8⟩ y34 H
   refine au 5 ?_
   refine T.cH H ?_ ?_<;>intro H h
   ·refine au 5 ?_
    obtain ⟨e35,h36,H⟩:=bind_s H
    refine TL.st rfl rfl rfl (o_ix (f:=c_I_Entry false) rfl rfl tyS_30 rfl rfl h36 rfl) ?_
    refine au 8 ?_
    obtain ⟨r37,h38,H⟩:=bind_s H
    refine TL.st rfl rfl rfl (o_callP rfl en_31 rfl rfl (.cons _ _ _ _ (.cl _ rfl) .nil) (impl_GoodEntry_p false h38)) ?_
    refine au 5 ?_
    obtain ⟨r39,h40,H⟩:=bind_s H
    refine TL.gcq rfl rfl rfl (.bool _) rfl rfl (fun h=>o_callP rfl en_45 rfl (evl_1 (gv h rfl)) (.cons _ _ _ _ (.cl _ rfl) .nil) (impl_NameText_p false (gdO_t h40 h))) ?_
    refine TL.gcq rfl rfl rfl (.bool _) rfl rfl (fun h=>o_lookup (fk:=V.str) (fv:=V.bool) (xs:=m7) (z:=false) rfl rfl (key_str rfl) (gv h rfl) (gv h rfl) rfl rfl (fun S w=>⟨_,rfl,.bool _⟩)) ?_
    refine au 2 ?_
    refine T.cH H ?_ ?_<;>intro H h
    ·refine au 6 ?_
     refine thn_ret (inB_ret (thn_ret ?_))
     exact Pk.id (thn_ret ⟨.inr (([] : List Int),([] : List ByteArray)),(some_i H).symm,rfl,⟨trivial,_,(.tmp _ _ _ _ rfl (.tmp _ _ _ _ rfl .nil)),(.tupL (.cons _ _ _ _ .nil (.cons _ _ _ _ .nil .nil)))⟩⟩)
    ·refine au 5 ?_
     obtain ⟨r41,h42,H⟩:=bind_s H
     refine TL.st rfl rfl rfl (o_callP rfl en_45 rfl rfl (.cons _ _ _ _ (.cl _ rfl) .nil) (impl_NameText_p false h42)) ?_
     refine TL.sn rfl rfl (o_mapUpdate (p:=1) (fk:=V.str) (fv:=V.bool) (xs:=m7) rfl rfl (key_str rfl) rfl rfl rfl rfl rfl) ?_
     refine TL.nil ?_
     refine T.conv (Cs.eqS (σ':=[_,mpO (V.str) (V.bool) (mput m7 r41 true),.box (c_I_Entry false e35)]) rfl) ?_
     refine au 4 ?_
     exact Pk.of (thn_normal ⟨((mput m7 r41 true),(IntKind.i64.wrap (v8 + 1))),(some_i H).symm,rfl,rfl⟩)
   ·refine T.exit ?_
    refine thn_exit ?_
    exact Pk.of (thn_exit ⟨.inl m7,(some_i H).symm,rfl,rfl,rfl⟩)
  ·rcases q43 with m9 | q10
   ·rintro _ _ _ ⟨rfl,rfl,rfl⟩
    refine inB_here ?_
    refine au 12 ?_
    refine TL.st rfl rfl rfl (o_lenL (f:=c_I_Entry false) rfl rfl rfl) ?_
    refine au 3 ?_
    refine T.conv (Cs.own (t:=16) 1 rfl (by decide)) ?_
    refine T.conv (Cs.own (t:=15) 1 rfl (by decide)) ?_
    obtain ⟨q32,h33,H⟩:=bind_s H
    refine T.lq (fun s=>match s with | (l11,l12,v13)=>[(2,.im b2 (a2.map (c_I_Part false))),(3,.int .i64 a3),(4,.im b3 (a4.map (c_I_FilterNode false))),(5,.bx 0 0),(15,.hd 3 (l12.map (c_int .i64)).length 0 (l12.map (c_int .i64)).length),(16,.hd 2 (l11.map (c_str)).length 0 (l11.map (c_str)).length),(71,.im b1 (a1.map (c_I_Entry false))),(72,.int .i64 (a1.length : Int)),(73,.int .i64 v13)]) (fun s=>match s with | (l11,l12,v13)=>[.box (c_I_DirSchema b0 a0),mpO (V.str) (V.bool) m9,.arr .clo 1 (l11.map (c_str)),.arr .clo 1 (l12.map (c_int .i64))]) (fun q ex fr σ=>match q with | (l14,l15)=>ex = .exit 2 ∧ fr = [(15,.hd 3 (l15.map (c_int .i64)).length 0 (l15.map (c_int .i64)).length),(16,.hd 2 (l14.map (c_str)).length 0 (l14.map (c_str)).length)] ∧ σ = [.box (c_I_DirSchema b0 a0),mpO (V.str) (V.bool) m9,.arr .clo 1 (l14.map (c_str)),.arr .clo 1 (l15.map (c_int .i64))]) h33 ?_ ?_
    ·rintro ⟨l11,l12,v13⟩ y16 H
     refine au 5 ?_
     refine T.cH H ?_ ?_<;>intro H h
     ·refine au 6 ?_
      obtain ⟨e17,h18,H⟩:=bind_s H
      refine TL.st rfl rfl rfl (o_ix (f:=c_I_Entry false) rfl rfl tyS_30 rfl rfl h18 rfl) ?_
      refine au 9 ?_
      refine TL.st rfl rfl rfl (o_lenL (f:=c_I_Part false) rfl rfl rfl) ?_
      refine TL.st rfl rfl rfl (o_move rfl rfl) ?_
      refine TL.st rfl rfl rfl (o_lenL (f:=c_I_Part false) rfl rfl rfl) ?_
      refine au 9 ?_
      obtain ⟨r19,h20,H⟩:=bind_s H
      refine TL.st rfl rfl rfl (o_callP rfl en_17 rfl rfl (.cons _ _ _ _ (.cl _ rfl) (.cons _ _ _ _ (.imv _ _) .nil)) (impl_Under_p false b2 h20)) ?_
      refine au 4 ?_
      refine TL.gcq rfl rfl rfl (.bool _) rfl rfl (fun h=>o_move rfl (gv h rfl)) ?_
      refine TL.gcq rfl rfl rfl (.gd _ _) rfl rfl (fun h=>o_move rfl rfl) ?_
      refine TL.gcq rfl rfl rfl (.gd _ _) rfl rfl (fun h=>o_ari rfl (gv h rfl) rfl rfl) ?_
      refine TL.gcq rfl rfl rfl (.bool _) rfl rfl (fun h=>o_and rfl (gv h rfl) rfl (fun k=>Gd_t (andi h k)) rfl) ?_
      refine au 4 ?_
      refine TL.gcq rfl rfl rfl (.bool _) rfl rfl (fun h=>o_move rfl (gv h rfl)) ?_
      refine TL.gcq rfl rfl rfl (.gd _ _) rfl rfl (fun h=>o_move rfl rfl) ?_
      refine TL.gcq rfl rfl rfl (.gd _ _) rfl rfl (fun h=>o_ari rfl (gv h rfl) rfl rfl) ?_
      refine TL.gcq rfl rfl rfl (.bool _) rfl rfl (fun h=>o_and rfl (gv h rfl) rfl (fun k=>Gd_t (andi h k)) rfl) ?_
      refine au 2 ?_
      refine T.cH H ?_ ?_<;>intro H h
      ·refine T.exit ?_
       refine thn_exit ?_
       refine inB_here ?_
       refine au 4 ?_
       exact Pk.of (thn_normal ⟨(l11,l12,(IntKind.i64.wrap (v13 + 1))),(some_i H).symm,rfl,rfl⟩)
      ·refine au 5 ?_
       obtain ⟨r21,h22,H⟩:=bind_s H
       refine TL.st rfl rfl rfl (o_callP rfl en_46 rfl rfl (.cons _ _ _ _ (.cl _ rfl) (.cons _ _ _ _ (.cl _ rfl) .nil)) (impl_Entry_yvalues_p false h22)) ?_
       refine au 5 ?_
       refine TL.st rfl rfl rfl (o_lenL (f:=c_str) rfl rfl rfl) ?_
       refine au 2 ?_
       refine T.cH H ?_ ?_<;>intro H h
       ·refine au 4 ?_
        obtain ⟨e23,h24,H⟩:=bind_s H
        refine TL.st rfl rfl rfl (o_ix (f:=c_str) rfl rfl tyS_9 rfl rfl h24 rfl) ?_
        refine TL.st rfl rfl rfl (o_loadRf rfl tyS_9 rfl (nb rfl) rfl) ?_
        refine TL.st rfl rfl rfl (o_sliceIm (rows:=([e23] : List ByteArray).map (c_str)) rfl rfl tyS_9 ⟨_,rfl,rfl⟩ (by decide) rfl rfl rfl rfl rfl rfl) ?_
        obtain ⟨l25,h26,H⟩:=bind_s H
        refine TL.st rfl rfl rfl (o_ap (f:=c_str) (xs:=l11) (ys:=([e23] : List ByteArray)) rfl rfl tyE_9 rfl rfl rfl rfl (by decide) rfl (fun _=>rfl) h26) ?_
        refine au 2 ?_
        refine T.conv (Cs.eqS (σ':=[_,_,.arr .clo 1 (l25.map (c_str)),_,.box (c_I_Entry false e17)]) rfl) ?_
        refine T.exit ?_
        refine thn_exit ?_
        refine inB_here ?_
        refine au 4 ?_
        exact Pk.of (thn_normal ⟨(l25,l12,(IntKind.i64.wrap (v13 + 1))),(some_i H).symm,rfl,rfl⟩)
       ·refine au 6 ?_
        obtain ⟨⟨r27,r28⟩,h29,H⟩:=bind_s H
        refine TL.st rfl rfl rfl (o_callP rfl en_33 rfl rfl (.cons _ _ _ _ (Lent.aggL (.cons _ _ _ _ (.imv _ _) (.cons _ _ _ _ (.imv _ _) .nil))) (.cons _ _ _ _ (.cl _ rfl) (.cons _ _ _ _ (.imv _ _) (.cons _ _ _ _ (.cl _ rfl) .nil)))) (impl_DirSchema_ymeets_p b0 false b3 h29)) ?_
        refine au 11 ?_
        refine T.cH H ?_ ?_<;>intro H h
        ·refine au 3 ?_
         refine TL.st rfl rfl rfl (o_sliceIm (rows:=([v13] : List Int).map (c_int .i64)) rfl rfl tyS_3 ⟨_,rfl,rfl⟩ (by decide) rfl rfl rfl rfl rfl rfl) ?_
         obtain ⟨l30,h31,H⟩:=bind_s H
         refine TL.st rfl rfl rfl (o_ap (f:=c_int .i64) (xs:=l12) (ys:=([v13] : List Int)) rfl rfl tyE_3 rfl rfl rfl rfl (by decide) rfl (fun _=>rfl) h31) ?_
         refine au 2 ?_
         refine T.conv (Cs.eqS (σ':=[_,_,_,.arr .clo 1 (l30.map (c_int .i64)),.box (c_I_Entry false e17)]) rfl) ?_
         refine au 4 ?_
         exact Pk.of (thn_normal ⟨(l11,l30,(IntKind.i64.wrap (v13 + 1))),(some_i H).symm,rfl,rfl⟩)
        ·refine au 5 ?_
         exact Pk.of (thn_normal ⟨(l11,l12,(IntKind.i64.wrap (v13 + 1))),(some_i H).symm,rfl,rfl⟩)
     ·refine T.exit ?_
      refine thn_exit ?_
      exact Pk.of (thn_exit ⟨(l11,l12),(some_i H).symm,rfl,rfl,rfl⟩)
    ·rcases q32 with ⟨l14,l15⟩
     rintro _ _ _ ⟨rfl,rfl,rfl⟩
     refine inB_here ?_
     refine au 8 ?_
     cases some_i H
     exact ⟨trivial,_,(.tmp _ _ _ _ rfl (.tmp _ _ _ _ rfl .nil)),(.tupL (.cons _ _ _ _ (.own rfl (by decide) rfl) (.cons _ _ _ _ (.own rfl (by decide) rfl) .nil)))⟩
   ·rintro _ fr1 σ1 ⟨rfl,hr⟩
    refine inB_ret (thn_ret ?_)
    cases some_i H
    exact hr
theorem en_13 : En Tryz.prog 13:=.of Tryz.func13 rfl rfl
theorem tyS_80 : TyS Tryz.prog 80 true 5:=⟨rfl,rfl⟩
theorem en_78 : En Tryz.prog 78:=.of Tryz.func78 rfl rfl
theorem tyS_78 : TyS Tryz.prog 78 false 1:=⟨rfl,rfl⟩
theorem tyE_80 : TyE Tryz.prog 80 5:=⟨_,_,rfl,rfl,rfl,rfl,by decide,by decide⟩
def k_spec_l3F (a1 : Nat) (b : Bool) (x : T_spec_l3F) : List V:=((c_I_FilterNode b x.n_) ++ [.hd a1 (x.kids_.map (c_raw)).length 0 (x.kids_.map (c_raw)).length])
noncomputable def spec_l3Take_l1 (a0 : (List I_FilterNode)) (a2 : Int) (rec_spec_l3Take : ((List I_FilterNode) × Int × Int) → Option (T_spec_l3F × Int)) : (T_spec_l3F × Int × Int) → Option ((T_spec_l3F × Int × Int) ⊕ ((T_spec_l3F × Int) ⊕ (T_spec_l3F × Int))):=fun s=>match s with
  | (b7,v8,v9)=>cond (decide (v9 < b7.n_.Kids_)) ((rec_spec_l3Take (a0,v8,(IntKind.i64.wrap (a2 + 1)))).bind fun q=>(match q with | (r14,r15)=>cond (decide (r15 < 0)) (some (.inr (.inr ((⟨(⟨0,e0,e0,0⟩ : I_FilterNode),([] : List (List V))⟩ : T_spec_l3F),(-1))))) ((app b7.kids_ ([(c_T_spec_l3F false r14)] : List (List V))).bind fun l17=>some (.inl ((⟨b7.n_,l17⟩ : T_spec_l3F),r15,(IntKind.i64.wrap (v9 + 1))))))) (some (.inr (.inl (b7,v8))))
noncomputable def spec_l3Take_b (rec_spec_l3Take : ((List I_FilterNode) × Int × Int) → Option (T_spec_l3F × Int)) (a0 : (List I_FilterNode)) (a1 : Int) (a2 : Int) : Option (T_spec_l3F × Int) :=
  (gdO (!(decide (a1 ≥ (a0.length : Int)) || decide (a2 > 20))) (idx a0 a1)).bind fun e1=>(gdO (!((decide (a1 ≥ (a0.length : Int)) || decide (a2 > 20)) || decide (e1.Kids_ < 0))) (idx a0 a1)).bind fun e3=>cond (((decide (a1 ≥ (a0.length : Int)) || decide (a2 > 20)) || decide (e1.Kids_ < 0)) || decide (e3.Kids_ > 20)) (some ((⟨(⟨0,e0,e0,0⟩ : I_FilterNode),([] : List (List V))⟩ : T_spec_l3F),(-1))) ((idx a0 a1).bind fun e5=>(loopO (spec_l3Take_l1 a0 a2 rec_spec_l3Take) ((⟨e5,([] : List (List V))⟩ : T_spec_l3F),(IntKind.i64.wrap (a1 + 1)),0)).bind fun q19=>(match q19 with | .inl (b10,v11)=>some (b10,v11) | .inr q12=>some q12))
noncomputable def spec_l3Take (a0 : (List I_FilterNode)) (a1 : Int) (a2 : Int) : Option (T_spec_l3F × Int):=fixO (fun rec_spec_l3Take x=>match x with | (a0,a1,a2)=>spec_l3Take_b rec_spec_l3Take a0 a1 a2) (a0,a1,a2)
theorem spec_l3Take_pb {rec_spec_l3Take : ((List I_FilterNode) × Int × Int) → Option (T_spec_l3F × Int)} (Hrec_spec_l3Take : ∀ (b0 : Bool) {a0 : (List I_FilterNode)} {a1 : Int} {a2 : Int} {R0 : T_spec_l3F} {R1 : Int},rec_spec_l3Take (a0,a1,a2) = some (R0,R1) → Pure Tryz.prog 78 [.im b0 (a0.map (c_I_FilterNode false)),.int .i64 a1,.int .i64 a2] (.tup [.agg (c_T_spec_l3F false R0),.int .i64 R1])) (b0 : Bool) {a0 : (List I_FilterNode)} {a1 : Int} {a2 : Int} {R0 : T_spec_l3F} {R1 : Int} (H : spec_l3Take_b rec_spec_l3Take a0 a1 a2 = some (R0,R1)) : Pure Tryz.prog 78 [.im b0 (a0.map (c_I_FilterNode false)),.int .i64 a1,.int .i64 a2] (.tup [.agg (c_T_spec_l3F false R0),.int .i64 R1]):=by
 refine CallT.of_TN (n:=71) Tryz.func78 rfl rfl rfl rfl ?_
 refine au 10 ?_
 refine TL.st rfl rfl rfl (o_lenL (f:=c_I_FilterNode false) rfl rfl rfl) ?_
 refine au 8 ?_
 obtain ⟨e1,h2,H⟩:=bind_s H
 refine TL.gcq rfl rfl rfl (.bool _) rfl rfl (fun h=>o_ix (f:=c_I_FilterNode false) rfl rfl tyS_77 (gv h rfl) (gv h rfl) (gdO_t h2 h) rfl) ?_
 refine TL.gcq rfl rfl rfl (.bool _) rfl rfl (fun h=>o_fieldAddr rfl rfl rfl tyS_3 (by decide) (gv h rfl) rfl trivial) ?_
 refine TL.gcq rfl rfl rfl (.bool _) rfl rfl (fun h=>o_loadRf rfl tyS_3 (gv h rfl) (nb rfl) rfl) ?_
 refine au 5 ?_
 obtain ⟨e3,h4,H⟩:=bind_s H
 refine TL.gcq rfl rfl rfl (.bool _) rfl rfl (fun h=>o_ix (f:=c_I_FilterNode false) rfl rfl tyS_77 (gv h rfl) (gv h rfl) (gdO_t h4 h) rfl) ?_
 refine TL.gcq rfl rfl rfl (.bool _) rfl rfl (fun h=>o_fieldAddr rfl rfl rfl tyS_3 (by decide) (gv h rfl) rfl trivial) ?_
 refine TL.gcq rfl rfl rfl (.bool _) rfl rfl (fun h=>o_loadRf rfl tyS_3 (gv h rfl) (nb rfl) rfl) ?_
 refine au 3 ?_
 refine T.cH H ?_ ?_<;>intro H h
 ·refine au 7 ?_
  refine thn_ret ?_
  cases some_i H
  exact ⟨trivial,_,(.cell _ _ _ _ _ _ _ _ _ _ rfl rfl tyS_80 (nb rfl) rfl (.tmp _ _ _ _ rfl .nil)),(.tupL (.cons _ _ _ _ (.aggL (.cons _ _ _ _ (.cl _ rfl) (.cons _ _ _ _ (.cl _ rfl) (.cons _ _ _ _ (.cl _ rfl) (.cons _ _ _ _ (.cl _ rfl) (.cons _ _ _ _ .nil .nil)))))) (.cons _ _ _ _ (.cl _ rfl) .nil)))⟩
 ·refine au 5 ?_
  obtain ⟨e5,h6,H⟩:=bind_s H
  refine TL.st rfl rfl rfl (o_ix (f:=c_I_FilterNode false) rfl rfl tyS_77 rfl rfl h6 rfl) ?_
  refine au 6 ?_
  refine T.conv (Cs.eqS (σ':=[.box [.int .i64 0,.str e0,.str e0,.int .i64 0,.nilS],.box ((c_I_FilterNode false e5) ++ [.nilS])]) rfl) ?_
  refine au 11 ?_
  refine T.conv (Cs.ownCell (p:=1) 4 5 rfl rfl (by decide)) ?_
  obtain ⟨q19,h20,H⟩:=bind_s H
  refine T.lq (fun s=>match s with | (b7,v8,v9)=>[(0,.im b0 (a0.map (c_I_FilterNode false))),(1,.int .i64 v8),(2,.int .i64 a2),(6,.bx 0 0),(8,.bx 1 0),(9,.int .i64 v9)]) (fun s=>match s with | (b7,v8,v9)=>[.box [.int .i64 0,.str e0,.str e0,.int .i64 0,.nilS],.box (k_spec_l3F 2 false b7),.arr .clo 5 (b7.kids_.map (c_raw))]) (fun q ex fr σ=>match q with | .inl (b10,v11)=>ex = .exit 0 ∧ fr = [(1,.int .i64 v11),(6,.bx 0 0),(8,.bx 1 0)] ∧ σ = [.box [.int .i64 0,.str e0,.str e0,.int .i64 0,.nilS],.box (k_spec_l3F 2 false b10),.arr .clo 5 (b10.kids_.map (c_raw))] | .inr q12=>ex = .ret ∧ RetN Tryz.prog [.cell 6 80,.tmp 7] (fun v τ=>Told τ v (.tup [.agg (c_T_spec_l3F false q12.1),.int .i64 q12.2])) .ret fr σ) h20 ?_ ?_
  ·rintro ⟨b7,v8,v9⟩ y13 H
   refine au 9 ?_
   refine T.cH H ?_ ?_<;>intro H h
   ·refine au 9 ?_
    obtain ⟨⟨r14,r15⟩,h16,H⟩:=bind_s H
    refine TL.st rfl rfl rfl (o_callP rfl en_78 rfl rfl (.cons _ _ _ _ (.imv _ _) (.cons _ _ _ _ (.cl _ rfl) (.cons _ _ _ _ (.cl _ rfl) .nil))) (Hrec_spec_l3Take b0 h16)) ?_
    refine au 13 ?_
    refine T.cH H ?_ ?_<;>intro H h
    ·refine au 6 ?_
     refine T.conv (Cs.eqS (σ':=[_,_,_,.box (c_T_spec_l3F false r14)]) rfl) ?_
     refine T.ret ?_
     refine thn_ret (inB_ret (thn_ret ?_))
     exact Pk.id (thn_ret ⟨.inr ((⟨(⟨0,e0,e0,0⟩ : I_FilterNode),([] : List (List V))⟩ : T_spec_l3F),(-1)),(some_i H).symm,rfl,⟨trivial,_,(.cell _ _ _ _ _ _ _ _ _ _ rfl rfl tyS_80 (nb rfl) rfl (.tmp _ _ _ _ rfl .nil)),(.tupL (.cons _ _ _ _ (.aggL (.cons _ _ _ _ (.cl _ rfl) (.cons _ _ _ _ (.cl _ rfl) (.cons _ _ _ _ (.cl _ rfl) (.cons _ _ _ _ (.cl _ rfl) (.cons _ _ _ _ .nil .nil)))))) (.cons _ _ _ _ (.cl _ rfl) .nil)))⟩⟩)
    ·refine au 6 ?_
     refine TL.st rfl rfl rfl (o_sliceIm (rows:=([(c_T_spec_l3F false r14)] : List (List V)).map (c_raw)) rfl rfl tyS_80 ⟨_,rfl,rfl⟩ (by decide) rfl rfl rfl rfl rfl rfl) ?_
     obtain ⟨l17,h18,H⟩:=bind_s H
     refine TL.st rfl rfl rfl (o_apM (f:=c_raw) (xs:=b7.kids_) (ys:=([(c_T_spec_l3F false r14)] : List (List V))) rfl rfl tyE_80 rfl rfl rfl rfl (by decide) rfl (mem1 rfl) h18) ?_
     refine TL.st rfl rfl rfl (o_fieldAddr rfl rfl rfl tyS_78 (by decide) rfl rfl ⟨_,rfl,Nat.le_of_ble_eq_true rfl⟩) ?_
     refine TL.sn rfl rfl (o_storeBx rfl tyS_78 rfl rfl rfl rfl (nb rfl) (sure_hd rfl rfl rfl)) ?_
     refine TL.nil ?_
     refine T.conv (Cs.eqS (σ':=[_,.box (k_spec_l3F 2 false (⟨b7.n_,l17⟩ : T_spec_l3F)),.arr .clo 5 (l17.map (c_raw)),.box (c_T_spec_l3F false r14)]) rfl) ?_
     refine au 9 ?_
     exact Pk.of (thn_normal ⟨((⟨b7.n_,l17⟩ : T_spec_l3F),r15,(IntKind.i64.wrap (v9 + 1))),(some_i H).symm,rfl,rfl⟩)
   ·refine T.exit ?_
    refine thn_exit ?_
    exact Pk.of (thn_exit ⟨.inl (b7,v8),(some_i H).symm,rfl,rfl,rfl⟩)
  ·rcases q19 with ⟨b10,v11⟩ | q12
   ·rintro _ _ _ ⟨rfl,rfl,rfl⟩
    refine inB_here ?_
    refine au 4 ?_
    refine TL.sn rfl rfl (o_storeBx rfl tyS_80 rfl rfl rfl rfl (nb rfl) (sure_c rfl (sure_c rfl (sure_c rfl (sure_c rfl (sure_hd rfl rfl rfl)))))) ?_
    refine au 3 ?_
    cases some_i H
    exact ⟨trivial,_,(.cell _ _ _ _ _ _ _ _ _ _ rfl rfl tyS_80 (nb rfl) rfl (.tmp _ _ _ _ rfl .nil)),(.tupL (.cons _ _ _ _ (.aggL (.cons _ _ _ _ (.cl _ rfl) (.cons _ _ _ _ (.cl _ rfl) (.cons _ _ _ _ (.cl _ rfl) (.cons _ _ _ _ (.cl _ rfl) (.cons _ _ _ _ (.own rfl (by decide) rfl) .nil)))))) (.cons _ _ _ _ (.cl _ rfl) .nil)))⟩
   ·rintro _ fr1 σ1 ⟨rfl,hr⟩
    refine inB_ret (thn_ret ?_)
    cases some_i H
    exact hr
theorem spec_l3Take_p (b0 : Bool) {a0 : (List I_FilterNode)} {a1 : Int} {a2 : Int} {R0 : T_spec_l3F} {R1 : Int} (H : spec_l3Take a0 a1 a2 = some (R0,R1)) : Pure Tryz.prog 78 [.im b0 (a0.map (c_I_FilterNode false)),.int .i64 a1,.int .i64 a2] (.tup [.agg (c_T_spec_l3F false R0),.int .i64 R1]) :=
 fixO_ind (fun x r=>match x,r with | (a0,a1,a2),(R0,R1)=>∀ (b0 : Bool),Pure Tryz.prog 78 [.im b0 (a0.map (c_I_FilterNode false)),.int .i64 a1,.int .i64 a2] (.tup [.agg (c_T_spec_l3F false R0),.int .i64 R1])) (fun rec_spec_l3Take Hrec x r h=>match x,r,h with | (a0,a1,a2),(R0,R1),h=>fun b0=>spec_l3Take_pb (fun b0 {a0} {a1} {a2} {R0} {R1} h=>Hrec (a0,a1,a2) (R0,R1) h b0) b0 h) H b0
noncomputable def spec_l1Digit (a0 : Int) : Option Bool :=
  some (decide (a0 ≥ 48) && decide (a0 ≤ 57))
theorem spec_l1Digit_p  {a0 : Int} {R0 : Bool} (H : spec_l1Digit a0 = some R0) : Pure Tryz.prog 107 [.int .u8 a0] (.bool R0):=by
 refine CallT.of_TN (n:=9) Tryz.func107 rfl rfl rfl rfl ?_
 refine au 15 ?_
 cases some_i H
 exact ⟨trivial,_,(.tmp _ _ _ _ rfl .nil),(.cl _ rfl)⟩
theorem en_107 : En Tryz.prog 107:=.of Tryz.func107 rfl rfl
noncomputable def spec_l1Letter (a0 : Int) : Option Bool :=
  some ((decide (a0 ≥ 97) && decide (a0 ≤ 122)) || (decide (a0 ≥ 65) && decide (a0 ≤ 90)))
theorem spec_l1Letter_p  {a0 : Int} {R0 : Bool} (H : spec_l1Letter a0 = some R0) : Pure Tryz.prog 108 [.int .u8 a0] (.bool R0):=by
 refine CallT.of_TN (n:=17) Tryz.func108 rfl rfl rfl rfl ?_
 refine au 15 ?_
 refine TL.gcq rfl rfl rfl (.bool _) rfl rfl (fun h=>o_move rfl (gv h rfl)) ?_
 refine TL.gcq rfl rfl rfl (.gd _ _) rfl rfl (fun h=>o_move rfl rfl) ?_
 refine TL.gcq rfl rfl rfl (.gd _ _) rfl rfl (fun h=>o_ari rfl (gv h rfl) rfl rfl) ?_
 refine TL.gcq rfl rfl rfl (.bool _) rfl rfl (fun h=>o_and rfl (gv h rfl) rfl (fun k=>Gd_t (andi h k)) rfl) ?_
 refine au 4 ?_
 cases some_i H
 exact ⟨trivial,_,(.tmp _ _ _ _ rfl .nil),(.cl _ rfl)⟩
theorem en_108 : En Tryz.prog 108:=.of Tryz.func108 rfl rfl
noncomputable def spec_GoodName_l1 (a0 : ByteArray) : Int → Option (Int ⊕ (Unit ⊕ Bool)):=fun s=>match s with
  | v5=>cond (decide (v5 < (a0.size : Int))) ((idxS a0 v5).bind fun b8=>(spec_l1Letter b8).bind fun r10=>(gdO (!r10) (idxS a0 v5)).bind fun b12=>(gdO (!r10) (spec_l1Digit b12)).bind fun r14=>(gdO ((!r10) && (!r14)) (idxS a0 v5)).bind fun b16=>cond (((!r10) && (!r14)) && (b16 != 95)) (some (.inr (.inr false))) (some (.inl (IntKind.i64.wrap (v5 + 1))))) (some (.inr (.inl ())))
noncomputable def spec_GoodName (a0 : ByteArray) : Option Bool :=
  (gdO (!(decide ((a0.size : Int) < 1) || decide ((a0.size : Int) > 30))) (idxS a0 0)).bind fun b1=>(gdO (!(decide ((a0.size : Int) < 1) || decide ((a0.size : Int) > 30))) (spec_l1Digit b1)).bind fun r3=>cond ((decide ((a0.size : Int) < 1) || decide ((a0.size : Int) > 30)) || r3) (some false) ((loopO (spec_GoodName_l1 a0) 0).bind fun q18=>(match q18 with | .inl _=>some true | .inr q6=>some q6))
theorem spec_GoodName_p  {a0 : ByteArray} {R0 : Bool} (H : spec_GoodName a0 = some R0) : Pure Tryz.prog 62 [.str a0] (.bool R0):=by
 refine CallT.of_TN (n:=41) Tryz.func62 rfl rfl rfl rfl ?_
 refine au 12 ?_
 refine TL.gcq rfl rfl rfl (.bool _) rfl rfl (fun h=>o_lenS rfl rfl (gv h rfl)) ?_
 refine au 4 ?_
 obtain ⟨b1,h2,H⟩:=bind_s H
 refine TL.gcq rfl rfl rfl (.bool _) rfl rfl (fun h=>o_ixs rfl rfl (gv h rfl) rfl (gdO_t h2 h)) ?_
 obtain ⟨r3,h4,H⟩:=bind_s H
 refine TL.gcq rfl rfl rfl (.bool _) rfl rfl (fun h=>o_callP rfl en_107 rfl (evl_1 (gv h rfl)) (.cons _ _ _ _ (.cl _ rfl) .nil) (spec_l1Digit_p  (gdO_t h4 h))) ?_
 refine au 2 ?_
 refine T.cH H ?_ ?_<;>intro H h
 ·refine au 5 ?_
  refine thn_ret ?_
  cases some_i H
  exact ⟨trivial,_,(.tmp _ _ _ _ rfl .nil),(.cl _ rfl)⟩
 ·refine au 7 ?_
  obtain ⟨q18,h19,H⟩:=bind_s H
  refine T.lq (fun s=>match s with | v5=>[(0,.str a0),(3,.int .i64 v5)]) (fun s=>match s with | v5=>[]) (fun q ex fr σ=>match q with | .inl _=>ex = .exit 0 ∧ fr = [] ∧ σ = [] | .inr q6=>ex = .ret ∧ RetN Tryz.prog [.tmp 2] (fun v τ=>Told τ v (.bool q6)) .ret fr σ) h19 ?_ ?_
  ·rintro v5 y7 H
   refine au 8 ?_
   refine T.cH H ?_ ?_<;>intro H h
   ·refine au 7 ?_
    obtain ⟨b8,h9,H⟩:=bind_s H
    refine TL.st rfl rfl rfl (o_ixs rfl rfl rfl rfl h9) ?_
    obtain ⟨r10,h11,H⟩:=bind_s H
    refine TL.st rfl rfl rfl (o_callP rfl en_108 rfl rfl (.cons _ _ _ _ (.cl _ rfl) .nil) (spec_l1Letter_p  h11)) ?_
    refine au 4 ?_
    obtain ⟨b12,h13,H⟩:=bind_s H
    refine TL.gcq rfl rfl rfl (.bool _) rfl rfl (fun h=>o_ixs rfl rfl (gv h rfl) (gv h rfl) (gdO_t h13 h)) ?_
    obtain ⟨r14,h15,H⟩:=bind_s H
    refine TL.gcq rfl rfl rfl (.bool _) rfl rfl (fun h=>o_callP rfl en_107 rfl (evl_1 (gv h rfl)) (.cons _ _ _ _ (.cl _ rfl) .nil) (spec_l1Digit_p  (gdO_t h15 h))) ?_
    refine au 5 ?_
    obtain ⟨b16,h17,H⟩:=bind_s H
    refine TL.gcq rfl rfl rfl (.bool _) rfl rfl (fun h=>o_ixs rfl rfl (gv h rfl) (gv h rfl) (gdO_t h17 h)) ?_
    refine au 3 ?_
    refine T.cH H ?_ ?_<;>intro H h
    ·refine au 5 ?_
     refine inB_ret (thn_ret ?_)
     exact Pk.id (thn_ret ⟨.inr false,(some_i H).symm,rfl,⟨trivial,_,(.tmp _ _ _ _ rfl .nil),(.cl _ rfl)⟩⟩)
    ·refine au 6 ?_
     exact Pk.of (thn_normal ⟨(IntKind.i64.wrap (v5 + 1)),(some_i H).symm,rfl,rfl⟩)
   ·refine T.exit ?_
    refine thn_exit ?_
    exact Pk.of (thn_exit ⟨.inl (),(some_i H).symm,rfl,rfl,rfl⟩)
  ·rcases q18 with ⟨⟩ | q6
   ·rintro _ _ _ ⟨rfl,rfl,rfl⟩
    refine inB_here ?_
    refine au 5 ?_
    cases some_i H
    exact ⟨trivial,_,(.tmp _ _ _ _ rfl .nil),(.cl _ rfl)⟩
   ·rintro _ fr1 σ1 ⟨rfl,hr⟩
    refine inB_ret (thn_ret ?_)
    cases some_i H
    exact hr
theorem en_62 : En Tryz.prog 62:=.of Tryz.func62 rfl rfl
noncomputable def spec_l1Printed_l1 (a0 : ByteArray) : Int → Option (Int ⊕ (Unit ⊕ Bool)):=fun s=>match s with
  | v1=>cond (decide (v1 < (a0.size : Int))) ((idxS a0 v1).bind fun b4=>(gdO (!(decide (b4 < 32))) (idxS a0 v1)).bind fun b6=>cond (decide (b4 < 32) || decide (b6 > 126)) (some (.inr (.inr false))) (some (.inl (IntKind.i64.wrap (v1 + 1))))) (some (.inr (.inl ())))
noncomputable def spec_l1Printed (a0 : ByteArray) : Option Bool :=
  (loopO (spec_l1Printed_l1 a0) 0).bind fun q8=>(match q8 with | .inl _=>some true | .inr q2=>some q2)
theorem spec_l1Printed_p  {a0 : ByteArray} {R0 : Bool} (H : spec_l1Printed a0 = some R0) : Pure Tryz.prog 82 [.str a0] (.bool R0):=by
 refine CallT.of_TN (n:=20) Tryz.func82 rfl rfl rfl rfl ?_
 refine au 10 ?_
 obtain ⟨q8,h9,H⟩:=bind_s H
 refine T.lq (fun s=>match s with | v1=>[(0,.str a0),(3,.int .i64 v1)]) (fun s=>match s with | v1=>[]) (fun q ex fr σ=>match q with | .inl _=>ex = .exit 0 ∧ fr = [] ∧ σ = [] | .inr q2=>ex = .ret ∧ RetN Tryz.prog [.tmp 2] (fun v τ=>Told τ v (.bool q2)) .ret fr σ) h9 ?_ ?_
 ·rintro v1 y3 H
  refine au 8 ?_
  refine T.cH H ?_ ?_<;>intro H h
  ·refine au 7 ?_
   obtain ⟨b4,h5,H⟩:=bind_s H
   refine TL.st rfl rfl rfl (o_ixs rfl rfl rfl rfl h5) ?_
   refine au 4 ?_
   obtain ⟨b6,h7,H⟩:=bind_s H
   refine TL.gcq rfl rfl rfl (.bool _) rfl rfl (fun h=>o_ixs rfl rfl (gv h rfl) (gv h rfl) (gdO_t h7 h)) ?_
   refine au 3 ?_
   refine T.cH H ?_ ?_<;>intro H h
   ·refine au 5 ?_
    refine inB_ret (thn_ret ?_)
    exact Pk.id (thn_ret ⟨.inr false,(some_i H).symm,rfl,⟨trivial,_,(.tmp _ _ _ _ rfl .nil),(.cl _ rfl)⟩⟩)
   ·refine au 6 ?_
    exact Pk.of (thn_normal ⟨(IntKind.i64.wrap (v1 + 1)),(some_i H).symm,rfl,rfl⟩)
  ·refine T.exit ?_
   refine thn_exit ?_
   exact Pk.of (thn_exit ⟨.inl (),(some_i H).symm,rfl,rfl,rfl⟩)
 ·rcases q8 with ⟨⟩ | q2
  ·rintro _ _ _ ⟨rfl,rfl,rfl⟩
   refine inB_here ?_
   refine au 5 ?_
   cases some_i H
   exact ⟨trivial,_,(.tmp _ _ _ _ rfl .nil),(.cl _ rfl)⟩
  ·rintro _ fr1 σ1 ⟨rfl,hr⟩
   refine inB_ret (thn_ret ?_)
   cases some_i H
   exact hr
theorem en_82 : En Tryz.prog 82:=.of Tryz.func82 rfl rfl
noncomputable def spec_l1Tokens_j1 (l6 : List Int) (v7 : Int) : Option ((List Int × Int) ⊕ (List Int ⊕ ((List Int) × Bool))) :=
  some (.inl (l6,(IntKind.i64.wrap (v7 + 1))))
noncomputable def spec_l1Tokens_l1 (a0 : ByteArray) : (List Int × Int) → Option ((List Int × Int) ⊕ (List Int ⊕ ((List Int) × Bool))):=fun s=>match s with
  | (l1,v2)=>cond (decide (v2 < (a0.size : Int))) ((idxS a0 v2).bind fun b8=>cond (b8 == 42) ((app l1 ([256] : List Int)).bind fun l10=>spec_l1Tokens_j1 l10 v2) (cond (b8 == 92) ((gdO (!((IntKind.i64.wrap (v2 + 1)) == (a0.size : Int))) (idxS a0 (IntKind.i64.wrap (v2 + 1)))).bind fun b12=>(gdO ((!((IntKind.i64.wrap (v2 + 1)) == (a0.size : Int))) && (b12 != 42)) (idxS a0 (IntKind.i64.wrap (v2 + 1)))).bind fun b14=>cond (((IntKind.i64.wrap (v2 + 1)) == (a0.size : Int)) || ((b12 != 42) && (b14 != 92))) (some (.inr (.inr (([] : List Int),false)))) ((idxS a0 (IntKind.i64.wrap (v2 + 1))).bind fun b16=>(app l1 ([(IntKind.i64.wrap b16)] : List Int)).bind fun l18=>spec_l1Tokens_j1 l18 (IntKind.i64.wrap (v2 + 1)))) ((idxS a0 v2).bind fun b20=>(app l1 ([(IntKind.i64.wrap b20)] : List Int)).bind fun l22=>spec_l1Tokens_j1 l22 v2))) (some (.inr (.inl l1)))
noncomputable def spec_l1Tokens (a0 : ByteArray) : Option ((List Int) × Bool) :=
  (loopO (spec_l1Tokens_l1 a0) (([] : List Int),0)).bind fun q24=>(match q24 with | .inl l3=>some (l3,true) | .inr q4=>some q4)
theorem spec_l1Tokens_p  {a0 : ByteArray} {R0 : (List Int)} {R1 : Bool} (H : spec_l1Tokens a0 = some (R0,R1)) : Pure Tryz.prog 128 [.str a0] (.tup [.im false (R0.map (c_int .i64)),.bool R1]):=by
 refine CallT.of_TN (n:=55) Tryz.func128 rfl rfl rfl rfl ?_
 refine au 15 ?_
 refine T.conv (Cs.own (t:=4) 1 rfl (by decide)) ?_
 obtain ⟨q24,h25,H⟩:=bind_s H
 refine T.lq (fun s=>match s with | (l1,v2)=>[(0,.str a0),(4,.hd 0 (l1.map (c_int .i64)).length 0 (l1.map (c_int .i64)).length),(5,.int .i64 v2)]) (fun s=>match s with | (l1,v2)=>[.arr .clo 1 (l1.map (c_int .i64))]) (fun q ex fr σ=>match q with | .inl l3=>ex = .exit 0 ∧ fr = [(4,.hd 0 (l3.map (c_int .i64)).length 0 (l3.map (c_int .i64)).length)] ∧ σ = [.arr .clo 1 (l3.map (c_int .i64))] | .inr q4=>ex = .ret ∧ RetN Tryz.prog [.tmp 2,.tmp 3] (fun v τ=>Told τ v (.tup [.im false (q4.1.map (c_int .i64)),.bool q4.2])) .ret fr σ) h25 ?_ ?_
 ·rintro ⟨l1,v2⟩ y5 H
  refine au 8 ?_
  refine T.cH H ?_ ?_<;>intro H h
  ·refine T.skip ?_
   refine T.cut (fun fr' σ'=>∃ (l6 : List Int) (v7 : Int),fr' = [(0,.str a0),(4,.hd 0 (l6.map (c_int .i64)).length 0 (l6.map (c_int .i64)).length),(5,.int .i64 v7)] ∧ σ' = [.arr .clo 1 (l6.map (c_int .i64))] ∧ spec_l1Tokens_j1 l6 v7 = some y5) (T.pk ?_) ?_
   ·skip
    refine au 5 ?_
    obtain ⟨b8,h9,H⟩:=bind_s H
    refine TL.st rfl rfl rfl (o_ixs rfl rfl rfl rfl h9) ?_
    refine au 7 ?_
    refine T.cH H ?_ ?_<;>intro H h
    ·refine au 2 ?_
     refine TL.st rfl rfl rfl (o_sliceIm (rows:=([256] : List Int).map (c_int .i64)) rfl rfl tyS_3 ⟨_,rfl,rfl⟩ (by decide) rfl rfl rfl rfl rfl rfl) ?_
     obtain ⟨l10,h11,H⟩:=bind_s H
     refine TL.st rfl rfl rfl (o_ap (f:=c_int .i64) (xs:=l1) (ys:=([256] : List Int)) rfl rfl tyE_3 rfl rfl rfl rfl (by decide) rfl (fun _=>rfl) h11) ?_
     refine au 2 ?_
     refine inB_normal (inB_normal ?_)
     exact Pk.of (thn_normal ⟨l10,v2,rfl,rfl,H⟩)
    ·refine au 5 ?_
     refine T.cH H ?_ ?_<;>intro H h
     ·refine au 16 ?_
      obtain ⟨b12,h13,H⟩:=bind_s H
      refine TL.gcq rfl rfl rfl (.bool _) rfl rfl (fun h=>o_ixs rfl rfl (gv h rfl) (gv h rfl) (gdO_t h13 h)) ?_
      refine TL.gcq rfl rfl rfl (.bool _) rfl rfl (fun h=>o_ari rfl (gv h rfl) rfl rfl) ?_
      refine TL.gcq rfl rfl rfl (.bool _) rfl rfl (fun h=>o_move rfl (gv h rfl)) ?_
      refine TL.gcq rfl rfl rfl (.gd _ _) rfl rfl (fun h=>o_move rfl rfl) ?_
      refine TL.gcq rfl rfl rfl (.gd _ _) rfl rfl (fun h=>o_move rfl rfl) ?_
      obtain ⟨b14,h15,H⟩:=bind_s H
      refine TL.gcq rfl rfl rfl (.gd _ _) rfl rfl (fun h=>o_ixs rfl rfl (gv h rfl) (gv h rfl) (gdO_t h15 h)) ?_
      refine TL.gcq rfl rfl rfl (.gd _ _) rfl rfl (fun h=>o_ari rfl (gv h rfl) rfl rfl) ?_
      refine TL.gcq rfl rfl rfl (.bool _) rfl rfl (fun h=>o_and rfl (gv h rfl) rfl (fun k=>Gd_t (andi h k)) rfl) ?_
      refine au 2 ?_
      refine T.cH H ?_ ?_<;>intro H h
      ·refine au 6 ?_
       refine thn_ret (inB_ret (inB_ret ?_))
       refine Pk.id (thn_ret ?_)
       exact Pk.id (thn_ret ⟨.inr (([] : List Int),false),(some_i H).symm,rfl,⟨trivial,_,(.tmp _ _ _ _ rfl (.tmp _ _ _ _ rfl .nil)),(.tupL (.cons _ _ _ _ .nil (.cons _ _ _ _ (.cl _ rfl) .nil)))⟩⟩)
      ·refine au 5 ?_
       obtain ⟨b16,h17,H⟩:=bind_s H
       refine TL.st rfl rfl rfl (o_ixs rfl rfl rfl rfl h17) ?_
       refine TL.st rfl rfl rfl (o_conv rfl rfl ⟨_,rfl⟩ rfl) ?_
       refine TL.st rfl rfl rfl (o_sliceIm (rows:=([(IntKind.i64.wrap b16)] : List Int).map (c_int .i64)) rfl rfl tyS_3 ⟨_,rfl,rfl⟩ (by decide) rfl rfl rfl rfl rfl rfl) ?_
       obtain ⟨l18,h19,H⟩:=bind_s H
       refine TL.st rfl rfl rfl (o_ap (f:=c_int .i64) (xs:=l1) (ys:=([(IntKind.i64.wrap b16)] : List Int)) rfl rfl tyE_3 rfl rfl rfl rfl (by decide) rfl (fun _=>rfl) h19) ?_
       refine au 2 ?_
       refine inB_normal (inB_normal ?_)
       exact Pk.of (thn_normal ⟨l18,(IntKind.i64.wrap (v2 + 1)),rfl,rfl,H⟩)
     ·refine au 4 ?_
      obtain ⟨b20,h21,H⟩:=bind_s H
      refine TL.st rfl rfl rfl (o_ixs rfl rfl rfl rfl h21) ?_
      refine TL.st rfl rfl rfl (o_conv rfl rfl ⟨_,rfl⟩ rfl) ?_
      refine TL.st rfl rfl rfl (o_sliceIm (rows:=([(IntKind.i64.wrap b20)] : List Int).map (c_int .i64)) rfl rfl tyS_3 ⟨_,rfl,rfl⟩ (by decide) rfl rfl rfl rfl rfl rfl) ?_
      obtain ⟨l22,h23,H⟩:=bind_s H
      refine TL.st rfl rfl rfl (o_ap (f:=c_int .i64) (xs:=l1) (ys:=([(IntKind.i64.wrap b20)] : List Int)) rfl rfl tyE_3 rfl rfl rfl rfl (by decide) rfl (fun _=>rfl) h23) ?_
      refine au 2 ?_
      refine inB_normal (inB_normal ?_)
      exact Pk.of (thn_normal ⟨l22,v2,rfl,rfl,H⟩)
   ·rintro _ _ ⟨l6,v7,rfl,rfl,H⟩
    refine au 5 ?_
    exact Pk.of (thn_normal ⟨(l6,(IntKind.i64.wrap (v7 + 1))),(some_i H).symm,rfl,rfl⟩)
  ·refine T.exit ?_
   refine thn_exit ?_
   exact Pk.of (thn_exit ⟨.inl l1,(some_i H).symm,rfl,rfl,rfl⟩)
 ·rcases q24 with l3 | q4
  ·rintro _ _ _ ⟨rfl,rfl,rfl⟩
   refine inB_here ?_
   refine au 7 ?_
   cases some_i H
   exact ⟨trivial,_,(.tmp _ _ _ _ rfl (.tmp _ _ _ _ rfl .nil)),(.tupL (.cons _ _ _ _ (.own rfl (by decide) rfl) (.cons _ _ _ _ (.cl _ rfl) .nil)))⟩
  ·rintro _ fr1 σ1 ⟨rfl,hr⟩
   refine inB_ret (thn_ret ?_)
   cases some_i H
   exact hr
theorem en_128 : En Tryz.prog 128:=.of Tryz.func128 rfl rfl
theorem en_79 : En Tryz.prog 79:=.of Tryz.func79 rfl rfl
noncomputable def spec_l3Right_l1 (a0 : T_spec_l3F) (rec_spec_l3Right : T_spec_l3F → Option Bool) : (Bool × Int) → Option ((Bool × Int) ⊕ Bool):=fun s=>match s with
  | (v2,v3)=>cond (decide (v3 < (a0.kids_.length : Int))) ((idx a0.kids_ v3).bind fun w7=>(dec_T_spec_l3F w7).bind fun e6=>(gdO v2 (rec_spec_l3Right e6)).bind fun r10=>some (.inl ((v2 && r10),(IntKind.i64.wrap (v3 + 1))))) (some (.inr v2))
noncomputable def spec_l3Right_j1 (a0 : T_spec_l3F) (rec_spec_l3Right : T_spec_l3F → Option Bool) (v1 : Bool) : Option Bool :=
  (loopO (spec_l3Right_l1 a0 rec_spec_l3Right) (v1,0)).bind fun v4=>(match v4 with | v4=>some v4)
noncomputable def spec_l3Right_j3 (a0 : T_spec_l3F) (rec_spec_l3Right : T_spec_l3F → Option Bool) (v17 : Bool) : Option Bool :=
  cond v17 ((spec_GoodName a0.n_.Attr_).bind fun r18=>(gdO ((r18 && decide ((a0.n_.Text_.size : Int) ≥ 1)) && decide ((a0.n_.Text_.size : Int) ≤ 200)) (spec_l1Printed a0.n_.Text_)).bind fun r20=>(spec_l1Tokens a0.n_.Text_).bind fun q=>(match q with | (r22,r23)=>cond ((a0.n_.Kind_ == 8) && (!r23)) (spec_l3Right_j1 a0 rec_spec_l3Right false) (spec_l3Right_j1 a0 rec_spec_l3Right ((((r18 && decide ((a0.n_.Text_.size : Int) ≥ 1)) && decide ((a0.n_.Text_.size : Int) ≤ 200)) && r20) && ((a0.kids_.length : Int) == 0))))) (spec_l3Right_j1 a0 rec_spec_l3Right false)
noncomputable def spec_l3Right_j2 (a0 : T_spec_l3F) (rec_spec_l3Right : T_spec_l3F → Option Bool) (v14 : Bool) : Option Bool :=
  cond v14 (spec_l3Right_j1 a0 rec_spec_l3Right ((a0.n_.Attr_.toList == e0.toList) && (a0.n_.Text_.toList == e0.toList))) (cond (a0.n_.Kind_ == 3) (spec_l3Right_j1 a0 rec_spec_l3Right (((a0.n_.Attr_.toList == e0.toList) && (a0.n_.Text_.toList == e0.toList)) && ((a0.kids_.length : Int) == 1))) (cond (a0.n_.Kind_ == 7) ((spec_GoodName a0.n_.Attr_).bind fun r15=>spec_l3Right_j1 a0 rec_spec_l3Right ((r15 && (a0.n_.Text_.toList == e0.toList)) && ((a0.kids_.length : Int) == 0))) (cond (a0.n_.Kind_ == 4) (spec_l3Right_j3 a0 rec_spec_l3Right (a0.n_.Kind_ == 4)) (cond (a0.n_.Kind_ == 5) (spec_l3Right_j3 a0 rec_spec_l3Right (a0.n_.Kind_ == 5)) (cond (a0.n_.Kind_ == 6) (spec_l3Right_j3 a0 rec_spec_l3Right (a0.n_.Kind_ == 6)) (spec_l3Right_j3 a0 rec_spec_l3Right (a0.n_.Kind_ == 8)))))))
noncomputable def spec_l3Right_b (rec_spec_l3Right : T_spec_l3F → Option Bool) (a0 : T_spec_l3F) : Option Bool :=
  cond (a0.n_.Kind_ == 1) (spec_l3Right_j2 a0 rec_spec_l3Right (a0.n_.Kind_ == 1)) (spec_l3Right_j2 a0 rec_spec_l3Right (a0.n_.Kind_ == 2))
noncomputable def spec_l3Right (a0 : T_spec_l3F) : Option Bool:=fixO (fun rec_spec_l3Right x=>match x with | a0=>spec_l3Right_b rec_spec_l3Right a0) a0
theorem spec_l3Right_pb {rec_spec_l3Right : T_spec_l3F → Option Bool} (Hrec_spec_l3Right : ∀ (b0 : Bool) {a0 : T_spec_l3F} {R0 : Bool}, rec_spec_l3Right a0 = some R0 → Pure Tryz.prog 79 [.agg (c_T_spec_l3F b0 a0)] (.bool R0)) (b0 : Bool) {a0 : T_spec_l3F} {R0 : Bool} (H : spec_l3Right_b rec_spec_l3Right a0 = some R0) : Pure Tryz.prog 79 [.agg (c_T_spec_l3F b0 a0)] (.bool R0) := by
 refine CallT.of_TN (n:=112) Tryz.func79 rfl rfl rfl rfl ?_
 refine au 13 ?_
 refine T.conv (Cs.eqS (σ':=[.box (c_T_spec_l3F b0 a0),.box (c_I_FilterNode b0 a0.n_)]) rfl) ?_
 refine au 3 ?_
 refine TL.st rfl rfl rfl (o_lenL (f:=c_raw) rfl rfl rfl) ?_
 refine au 6 ?_
 refine T.cut (fun fr' σ'=>∃ (v1 : Bool),fr' = [(1,.bx 0 0),(5,.bool v1)] ∧ σ' = [.box (c_T_spec_l3F b0 a0),.box (c_I_FilterNode b0 a0.n_)] ∧ spec_l3Right_j1 a0 rec_spec_l3Right v1 = some R0) (T.pk ?_) ?_
 ·skip
  refine au 6 ?_
  refine T.cut (fun fr' σ'=>∃ (v14 : Bool),fr' = [(1,.bx 0 0),(3,.bx 1 0),(4,.int .i64 (a0.kids_.length : Int)),(5,.bool false),(16,.int .i64 a0.n_.Kind_),(17,.bool v14)] ∧ σ' = [.box (c_T_spec_l3F b0 a0),.box (c_I_FilterNode b0 a0.n_)] ∧ spec_l3Right_j2 a0 rec_spec_l3Right v14 = some R0) (T.pk ?_) ?_
  ·skip
   refine au 5 ?_
   refine T.cH H ?_ ?_<;>intro H h
   ·refine T.skip ?_
    exact Pk.of (thn_normal ⟨(a0.n_.Kind_ == 1),rfl,rfl,H⟩)
   ·refine au 4 ?_
    exact Pk.of (thn_normal ⟨(a0.n_.Kind_ == 2),rfl,rfl,H⟩)
  ·rintro _ _ ⟨v14, rfl, rfl, H⟩
   refine T.cH H ?_ ?_<;>intro H h
   ·refine au 7 ?_
    refine TL.gcq rfl rfl rfl (.bool _) rfl rfl (fun h=>o_str rfl (gv h rfl) rfl rfl) ?_
    refine au 3 ?_
    refine inB_normal ?_
    exact Pk.of (thn_normal ⟨((a0.n_.Attr_.toList == e0.toList) && (a0.n_.Text_.toList == e0.toList)),rfl,rfl,H⟩)
   ·refine au 5 ?_
    refine T.cH H ?_ ?_<;>intro H h
    ·refine au 7 ?_
     refine TL.gcq rfl rfl rfl (.bool _) rfl rfl (fun h=>o_str rfl (gv h rfl) rfl rfl) ?_
     refine au 7 ?_
     refine inB_normal ?_
     exact Pk.of (thn_normal ⟨(((a0.n_.Attr_.toList == e0.toList) && (a0.n_.Text_.toList == e0.toList)) && ((a0.kids_.length : Int) == 1)),rfl,rfl,H⟩)
    ·refine au 5 ?_
     refine T.cH H ?_ ?_<;>intro H h
     ·refine au 3 ?_
      obtain ⟨r15,h16,H⟩:=bind_s H
      refine TL.st rfl rfl rfl (o_callP rfl en_62 rfl rfl (.cons _ _ _ _ (.cl _ rfl) .nil) (spec_GoodName_p  h16)) ?_
      refine au 3 ?_
      refine TL.gcq rfl rfl rfl (.bool _) rfl rfl (fun h=>o_str rfl (gv h rfl) rfl rfl) ?_
      refine au 7 ?_
      refine inB_normal ?_
      exact Pk.of (thn_normal ⟨((r15 && (a0.n_.Text_.toList == e0.toList)) && ((a0.kids_.length : Int) == 0)),rfl,rfl,H⟩)
     ·refine T.cut (fun fr' σ'=>∃ (v17 : Bool),fr' = [(1,.bx 0 0),(3,.bx 1 0),(4,.int .i64 (a0.kids_.length : Int)),(5,.bool false),(56,.bool v17)] ∧ σ' = [.box (c_T_spec_l3F b0 a0),.box (c_I_FilterNode b0 a0.n_)] ∧ spec_l3Right_j3 a0 rec_spec_l3Right v17 = some R0) (T.pk ?_) ?_
      ·skip
       refine au 5 ?_
       refine T.cH H ?_ ?_<;>intro H h
       ·refine T.skip ?_
        exact Pk.of (thn_normal ⟨(a0.n_.Kind_ == 4),rfl,rfl,H⟩)
       ·refine au 5 ?_
        refine T.cH H ?_ ?_<;>intro H h
        ·refine T.skip ?_
         exact Pk.of (thn_normal ⟨(a0.n_.Kind_ == 5),rfl,rfl,H⟩)
        ·refine au 5 ?_
         refine T.cH H ?_ ?_<;>intro H h
         ·refine T.skip ?_
          exact Pk.of (thn_normal ⟨(a0.n_.Kind_ == 6),rfl,rfl,H⟩)
         ·refine au 4 ?_
          exact Pk.of (thn_normal ⟨(a0.n_.Kind_ == 8),rfl,rfl,H⟩)
      ·rintro _ _ ⟨v17,rfl,rfl,H⟩
       refine T.cH H ?_ ?_<;>intro H h
       ·refine au 4 ?_
        obtain ⟨r18,h19,H⟩:=bind_s H
        refine TL.st rfl rfl rfl (o_callP rfl en_62 rfl rfl (.cons _ _ _ _ (.cl _ rfl) .nil) (spec_GoodName_p  h19)) ?_
        refine au 3 ?_
        refine TL.gcq rfl rfl rfl (.bool _) rfl rfl (fun h=>o_lenS rfl rfl (gv h rfl)) ?_
        refine au 5 ?_
        refine TL.gcq rfl rfl rfl (.bool _) rfl rfl (fun h=>o_lenS rfl rfl (gv h rfl)) ?_
        refine au 5 ?_
        obtain ⟨r20,h21,H⟩:=bind_s H
        refine TL.gcq rfl rfl rfl (.bool _) rfl rfl (fun h=>o_callP rfl en_82 rfl (evl_1 (gv h rfl)) (.cons _ _ _ _ (.cl _ rfl) .nil) (spec_l1Printed_p  (gdO_t h21 h))) ?_
        refine au 11 ?_
        obtain ⟨⟨r22,r23⟩,h24,H⟩:=bind_s H
        refine TL.st rfl rfl rfl (o_callP rfl en_128 rfl rfl (.cons _ _ _ _ (.cl _ rfl) .nil) (spec_l1Tokens_p  h24)) ?_
        refine au 16 ?_
        refine T.cH H ?_ ?_<;>intro H h
        ·refine au 3 ?_
         refine inB_normal ?_
         exact Pk.of (thn_normal ⟨false,rfl,rfl,H⟩)
        ·refine T.skip ?_
         refine inB_normal ?_
         exact Pk.of (thn_normal ⟨((((r18 && decide ((a0.n_.Text_.size : Int) ≥ 1)) && decide ((a0.n_.Text_.size : Int) ≤ 200)) && r20) && ((a0.kids_.length : Int) == 0)),rfl,rfl,H⟩)
       ·refine T.skip ?_
        refine inB_normal ?_
        exact Pk.of (thn_normal ⟨false,rfl,rfl,H⟩)
 ·rintro _ _ ⟨v1,rfl,rfl,H⟩
  refine au 5 ?_
  refine TL.st rfl rfl rfl (o_lenL (f:=c_raw) rfl rfl rfl) ?_
  refine au 3 ?_
  obtain ⟨v4,h13,H⟩:=bind_s H
  refine T.lq (fun s=>match s with | (v2,v3)=>[(5,.bool v2),(99,.im b0 (a0.kids_.map (c_raw))),(100,.int .i64 (a0.kids_.length : Int)),(101,.int .i64 v3)]) (fun s=>match s with | (v2,v3)=>[.box (c_T_spec_l3F b0 a0),.box (c_I_FilterNode b0 a0.n_)]) (fun q ex fr σ=>match q with | v4=>ex = .exit 1 ∧ fr = [(5,.bool v4)] ∧ σ = [.box (c_T_spec_l3F b0 a0),.box (c_I_FilterNode b0 a0.n_)]) h13 ?_ ?_
  ·rintro ⟨v2,v3⟩ y5 H
   refine au 5 ?_
   refine T.cH H ?_ ?_<;>intro H h
   ·refine au 5 ?_
    obtain ⟨w7,h8,H⟩:=bind_s H
    obtain ⟨e6,h9,H⟩:=bind_s H
    refine TL.st rfl rfl rfl (o_ixR (f:=c_raw) rfl rfl tyS_80 rfl rfl h8 (dec_T_spec_l3F_s h9) rfl) ?_
    refine au 7 ?_
    refine TL.gcq rfl rfl rfl (.bool _) rfl rfl (fun h=>o_loadBx rfl tyS_80 rfl rfl (nb rfl) rfl) ?_
    obtain ⟨r10,h11,H⟩:=bind_s H
    refine TL.gcq rfl rfl rfl (.bool _) rfl rfl (fun h=>o_callP rfl en_79 rfl (evl_1 (gv h rfl)) (.cons _ _ _ _ (.cl _ rfl) .nil) (Hrec_spec_l3Right false (gdO_t h11 h))) ?_
    refine au 7 ?_
    exact Pk.of (thn_normal ⟨((v2 && r10),(IntKind.i64.wrap (v3 + 1))),(some_i H).symm,rfl,rfl⟩)
   ·refine T.exit ?_
    refine thn_exit ?_
    exact Pk.of (thn_exit ⟨v2,(some_i H).symm,rfl,rfl,rfl⟩)
  ·rintro _ _ _ ⟨rfl,rfl,rfl⟩
   refine inB_here ?_
   refine au 6 ?_
   cases some_i H
   exact ⟨trivial,_,(.tmp _ _ _ _ rfl .nil),(.cl _ rfl)⟩
theorem spec_l3Right_p (b0 : Bool) {a0 : T_spec_l3F} {R0 : Bool} (H : spec_l3Right a0 = some R0) : Pure Tryz.prog 79 [.agg (c_T_spec_l3F b0 a0)] (.bool R0) :=
 fixO_ind (fun x r=>match x,r with | a0,R0=>∀ (b0 : Bool),Pure Tryz.prog 79 [.agg (c_T_spec_l3F b0 a0)] (.bool R0)) (fun rec_spec_l3Right Hrec x r h=>match x,r,h with | a0,R0,h=>fun b0=>spec_l3Right_pb (fun b0 {a0} {R0} h=>Hrec a0 R0 h b0) b0 h) H b0
noncomputable def spec_l3Tree (a0 : (List I_FilterNode)) : Option (T_spec_l3F × Bool) :=
  cond (((a0.length : Int) == 0) || decide ((a0.length : Int) > 60)) (some ((⟨(⟨0,e0,e0,0⟩ : I_FilterNode),([] : List (List V))⟩ : T_spec_l3F),false)) ((spec_l3Take a0 0 1).bind fun q=>(match q with | (r1,r2)=>(gdO (r2 == (a0.length : Int)) (spec_l3Right r1)).bind fun r4=>some (r1,((r2 == (a0.length : Int)) && r4))))
theorem spec_l3Tree_p (b0 : Bool) {a0 : (List I_FilterNode)} {R0 : T_spec_l3F} {R1 : Bool} (H : spec_l3Tree a0 = some (R0,R1)) : Pure Tryz.prog 34 [.im b0 (a0.map (c_I_FilterNode false))] (.tup [.agg (c_T_spec_l3F false R0),.bool R1]):=by
 refine CallT.of_TN (n:=29) Tryz.func34 rfl rfl rfl rfl ?_
 refine au 9 ?_
 refine TL.st rfl rfl rfl (o_lenL (f:=c_I_FilterNode false) rfl rfl rfl) ?_
 refine au 3 ?_
 refine TL.gcq rfl rfl rfl (.bool _) rfl rfl (fun h=>o_lenL (f:=c_I_FilterNode false) rfl rfl (gv h rfl)) ?_
 refine au 3 ?_
 refine T.cH H ?_ ?_<;>intro H h
 ·refine au 7 ?_
  refine thn_ret ?_
  cases some_i H
  exact ⟨trivial,_,(.cell _ _ _ _ _ _ _ _ _ _ rfl rfl tyS_80 (nb rfl) rfl (.tmp _ _ _ _ rfl .nil)),(.tupL (.cons _ _ _ _ (.aggL (.cons _ _ _ _ (.cl _ rfl) (.cons _ _ _ _ (.cl _ rfl) (.cons _ _ _ _ (.cl _ rfl) (.cons _ _ _ _ (.cl _ rfl) (.cons _ _ _ _ .nil .nil)))))) (.cons _ _ _ _ (.cl _ rfl) .nil)))⟩
 ·refine au 4 ?_
  obtain ⟨⟨r1,r2⟩,h3,H⟩:=bind_s H
  refine TL.st rfl rfl rfl (o_callP rfl en_78 rfl rfl (.cons _ _ _ _ (.imv _ _) (.cons _ _ _ _ (.cl _ rfl) (.cons _ _ _ _ (.cl _ rfl) .nil))) (spec_l3Take_p b0 h3)) ?_
  refine au 8 ?_
  refine T.conv (Cs.eqS (σ':=[.box [.int .i64 0,.str e0,.str e0,.int .i64 0,.nilS],.box (c_T_spec_l3F false r1)]) rfl) ?_
  refine T.drawn rfl ?_
  refine ad 3 ?_
  refine TD.qs rfl rfl (fun _=>o_lenL (f:=c_I_FilterNode false) rfl rfl rfl) ?_
  refine ad 2 ?_
  refine TD.cr rfl rfl rfl (.bool _) rfl (fun h=>o_loadBx rfl tyS_80 rfl rfl (nb rfl) rfl) ?_
  obtain ⟨r4,h5,H⟩:=bind_s H
  refine TD.cq rfl rfl rfl (.bool _) rfl (fun h _=>o_callP rfl en_79 rfl (evl_1 (gv h rfl)) (.cons _ _ _ _ (.cl _ rfl) .nil) (spec_l3Right_p false (gdO_t h5 h))) ?_
  refine ad 3 ?_
  refine TD.nil ⟨rfl,?_⟩
  refine T.ret ?_
  cases some_i H
  exact ⟨trivial,_,(.cell _ _ _ _ _ _ _ _ _ _ rfl rfl tyS_80 (nb rfl) rfl (.tmp _ _ _ _ rfl .nil)),(.tupL (.cons _ _ _ _ (.cl _ rfl) (.cons _ _ _ _ (.cl _ rfl) .nil)))⟩
theorem en_34 : En Tryz.prog 34:=.of Tryz.func34 rfl rfl
noncomputable def spec_l3Rising_l1 (a0 : (List ByteArray)) : Int → Option (Int ⊕ (Unit ⊕ Bool)):=fun s=>match s with
  | v1=>cond (decide (v1 < (a0.length : Int))) ((idx a0 (IntKind.i64.wrap (v1 - 1))).bind fun e4=>(idx a0 v1).bind fun e6=>(spec_l1CmpText e4 e6).bind fun r8=>cond (decide (r8 ≥ 0)) (some (.inr (.inr false))) (some (.inl (IntKind.i64.wrap (v1 + 1))))) (some (.inr (.inl ())))
noncomputable def spec_l3Rising (a0 : (List ByteArray)) : Option Bool :=
  (loopO (spec_l3Rising_l1 a0) 1).bind fun q10=>(match q10 with | .inl _=>some true | .inr q2=>some q2)
theorem spec_l3Rising_p (b0 : Bool) {a0 : (List ByteArray)} {R0 : Bool} (H : spec_l3Rising a0 = some R0) : Pure Tryz.prog 80 [.im b0 (a0.map (c_str))] (.bool R0):=by
 refine CallT.of_TN (n:=21) Tryz.func80 rfl rfl rfl rfl ?_
 refine au 10 ?_
 obtain ⟨q10,h11,H⟩:=bind_s H
 refine T.lq (fun s=>match s with | v1=>[(0,.im b0 (a0.map (c_str))),(3,.int .i64 v1)]) (fun s=>match s with | v1=>[]) (fun q ex fr σ=>match q with | .inl _=>ex = .exit 0 ∧ fr = [] ∧ σ = [] | .inr q2=>ex = .ret ∧ RetN Tryz.prog [.tmp 2] (fun v τ=>Told τ v (.bool q2)) .ret fr σ) h11 ?_ ?_
 ·rintro v1 y3 H
  refine au 5 ?_
  refine TL.st rfl rfl rfl (o_lenL (f:=c_str) rfl rfl rfl) ?_
  refine au 2 ?_
  refine T.cH H ?_ ?_<;>intro H h
  ·refine au 4 ?_
   refine T.drawn rfl ?_
   refine ad 3 ?_
   obtain ⟨e4,h5,H⟩:=bind_s H
   refine TD.qs rfl rfl (fun _=>o_ix (f:=c_str) rfl rfl tyS_9 rfl rfl h5 rfl) ?_
   refine TD.qs rfl rfl (fun _=>o_loadRf rfl tyS_9 rfl (nb rfl) rfl) ?_
   refine ad 2 ?_
   obtain ⟨e6,h7,H⟩:=bind_s H
   refine TD.qs rfl rfl (fun _=>o_ix (f:=c_str) rfl rfl tyS_9 rfl rfl h7 rfl) ?_
   refine TD.qs rfl rfl (fun _=>o_loadRf rfl tyS_9 rfl (nb rfl) rfl) ?_
   obtain ⟨r8,h9,H⟩:=bind_s H
   refine TD.qs rfl rfl (fun _=>o_callP rfl en_61 rfl rfl (.cons _ _ _ _ (.cl _ rfl) (.cons _ _ _ _ (.cl _ rfl) .nil)) (spec_l1CmpText_p  h9)) ?_
   refine TD.qs rfl rfl (fun _=>o_ari rfl rfl rfl rfl) ?_
   refine TD.nil ⟨rfl,?_⟩
   refine thn_normal ?_
   refine T.cH H ?_ ?_<;>intro H h
   ·refine au 5 ?_
    refine inB_ret (thn_ret ?_)
    exact Pk.id (thn_ret ⟨.inr false,(some_i H).symm,rfl,⟨trivial,_,(.tmp _ _ _ _ rfl .nil),(.cl _ rfl)⟩⟩)
   ·refine au 6 ?_
    exact Pk.of (thn_normal ⟨(IntKind.i64.wrap (v1 + 1)),(some_i H).symm,rfl,rfl⟩)
  ·refine T.exit ?_
   refine thn_exit ?_
   exact Pk.of (thn_exit ⟨.inl (),(some_i H).symm,rfl,rfl,rfl⟩)
 ·rcases q10 with ⟨⟩ | q2
  ·rintro _ _ _ ⟨rfl,rfl,rfl⟩
   refine inB_here ?_
   refine au 5 ?_
   cases some_i H
   exact ⟨trivial,_,(.tmp _ _ _ _ rfl .nil),(.cl _ rfl)⟩
  ·rintro _ fr1 σ1 ⟨rfl,hr⟩
   refine inB_ret (thn_ret ?_)
   cases some_i H
   exact hr
theorem en_80 : En Tryz.prog 80:=.of Tryz.func80 rfl rfl
noncomputable def spec_l3Class_l1 (a0 : I_DirSchema) (a1 : ByteArray) : Int → Option (Int ⊕ (Unit ⊕ (I_Class × Bool))):=fun s=>match s with
  | v1=>cond (decide (v1 < (a0.Classes_.length : Int))) ((idx a0.Classes_ v1).bind fun e4=>cond (e4.Name_.toList == a1.toList) (some (.inr (.inr (e4,true)))) (some (.inl (IntKind.i64.wrap (v1 + 1))))) (some (.inr (.inl ())))
noncomputable def spec_l3Class (a0 : I_DirSchema) (a1 : ByteArray) : Option (I_Class × Bool) :=
  (loopO (spec_l3Class_l1 a0 a1) 0).bind fun q6=>(match q6 with | .inl _=>some ((⟨e0,e0,([] : List ByteArray),([] : List ByteArray)⟩ : I_Class),false) | .inr q2=>some q2)
theorem spec_l3Class_p (b0 : Bool) {a0 : I_DirSchema} {a1 : ByteArray} {R0 : I_Class} {R1 : Bool} (H : spec_l3Class a0 a1 = some (R0,R1)) : Pure Tryz.prog 81 [.agg (c_I_DirSchema b0 a0),.str a1] (.tup [.agg (c_I_Class false R0),.bool R1]):=by
 refine CallT.of_TN (n:=22) Tryz.func81 rfl rfl rfl rfl ?_
 refine au 11 ?_
 refine TL.st rfl rfl rfl (o_lenL (f:=c_I_Class false) rfl rfl rfl) ?_
 refine au 3 ?_
 obtain ⟨q6,h7,H⟩:=bind_s H
 refine T.lq (fun s=>match s with | v1=>[(1,.str a1),(4,.bx 1 0),(9,.im b0 (a0.Classes_.map (c_I_Class false))),(10,.int .i64 (a0.Classes_.length : Int)),(11,.int .i64 v1)]) (fun s=>match s with | v1=>[.box (c_I_DirSchema b0 a0),.box [.str e0,.str e0,.nilS,.nilS]]) (fun q ex fr σ=>match q with | .inl _=>ex = .exit 0 ∧ fr = [(4,.bx 1 0)] ∧ σ = [.box (c_I_DirSchema b0 a0),.box [.str e0,.str e0,.nilS,.nilS]] | .inr q2=>ex = .ret ∧ RetN Tryz.prog [.cell 4 108,.tmp 5] (fun v τ=>Told τ v (.tup [.agg (c_I_Class false q2.1),.bool q2.2])) .ret fr σ) h7 ?_ ?_
 ·rintro v1 y3 H
  refine au 5 ?_
  refine T.cH H ?_ ?_<;>intro H h
  ·refine au 5 ?_
   obtain ⟨e4,h5,H⟩:=bind_s H
   refine TL.st rfl rfl rfl (o_ix (f:=c_I_Class false) rfl rfl tyS_108 rfl rfl h5 rfl) ?_
   refine au 11 ?_
   refine T.cH H ?_ ?_<;>intro H h
   ·refine au 6 ?_
    refine T.conv (Cs.eqS (σ':=[_,.box (c_I_Class false e4),.box (c_I_Class false e4)]) rfl) ?_
    refine T.ret ?_
    refine inB_ret (thn_ret ?_)
    exact Pk.id (thn_ret ⟨.inr (e4,true),(some_i H).symm,rfl,⟨trivial,_,(.cell _ _ _ _ _ _ _ _ _ _ rfl rfl tyS_108 (nb rfl) rfl (.tmp _ _ _ _ rfl .nil)),(.tupL (.cons _ _ _ _ (.cl _ rfl) (.cons _ _ _ _ (.cl _ rfl) .nil)))⟩⟩)
   ·refine au 5 ?_
    exact Pk.of (thn_normal ⟨(IntKind.i64.wrap (v1 + 1)),(some_i H).symm,rfl,rfl⟩)
  ·refine T.exit ?_
   refine thn_exit ?_
   exact Pk.of (thn_exit ⟨.inl (),(some_i H).symm,rfl,rfl,rfl⟩)
 ·rcases q6 with ⟨⟩ | q2
  ·rintro _ _ _ ⟨rfl,rfl,rfl⟩
   refine inB_here ?_
   refine au 7 ?_
   cases some_i H
   exact ⟨trivial,_,(.cell _ _ _ _ _ _ _ _ _ _ rfl rfl tyS_108 (nb rfl) rfl (.tmp _ _ _ _ rfl .nil)),(.tupL (.cons _ _ _ _ (.aggL (.cons _ _ _ _ (.cl _ rfl) (.cons _ _ _ _ (.cl _ rfl) (.cons _ _ _ _ .nil (.cons _ _ _ _ .nil .nil))))) (.cons _ _ _ _ (.cl _ rfl) .nil)))⟩
  ·rintro _ fr1 σ1 ⟨rfl,hr⟩
   refine inB_ret (thn_ret ?_)
   cases some_i H
   exact hr
theorem en_81 : En Tryz.prog 81:=.of Tryz.func81 rfl rfl
noncomputable def spec_GoodDirSchema_l4 (a0 : I_DirSchema) : (ByteArray × Int) → Option ((ByteArray × Int) ⊕ (Unit ⊕ Bool)):=fun s=>match s with
  | (v23,v24)=>cond (!(v23.toList == e0.toList)) ((spec_l3Class a0 v23).bind fun q=>(match q with | (r27,r28)=>cond ((!r28) || decide (v24 > (a0.Classes_.length : Int))) (some (.inr (.inr false))) (some (.inl (r27.Up_,(IntKind.i64.wrap (v24 + 1))))))) (some (.inr (.inl ())))
noncomputable def spec_GoodDirSchema_l5 (a0 : I_DirSchema) (e33 : (List ByteArray)) : Int → Option (Int ⊕ (Unit ⊕ Bool)):=fun s=>match s with
  | v35=>cond (decide (v35 < (e33.length : Int))) ((idx e33 v35).bind fun e38=>(spec_l3Type a0 e38).bind fun q=>(match q with | (r40,r41)=>cond (!r41) (some (.inr (.inr false))) (some (.inl (IntKind.i64.wrap (v35 + 1)))))) (some (.inr (.inl ())))
noncomputable def spec_GoodDirSchema_l3 (a0 : I_DirSchema) (e9 : I_Class) : Int → Option (Int ⊕ (Unit ⊕ Bool)):=fun s=>match s with
  | v21=>cond (decide (v21 < (([e9.Must_,e9.May_] : List (List ByteArray)).length : Int))) ((idx ([e9.Must_,e9.May_] : List (List ByteArray)) v21).bind fun e33=>(loopO (spec_GoodDirSchema_l5 a0 e33) 0).bind fun q43=>(match q43 with | .inl _=>some (.inl (IntKind.i64.wrap (v21 + 1))) | .inr q36=>some (.inr (.inr q36)))) (some (.inr (.inl ())))
noncomputable def spec_GoodDirSchema_l2 (a0 : I_DirSchema) : Int → Option (Int ⊕ (Unit ⊕ Bool)):=fun s=>match s with
  | v6=>cond (decide (v6 < (a0.Classes_.length : Int))) ((idx a0.Classes_ v6).bind fun e9=>(spec_GoodName e9.Name_).bind fun r11=>(gdO ((!(!r11)) && decide (v6 > 0)) (idx a0.Classes_ (IntKind.i64.wrap (v6 - 1)))).bind fun e13=>(gdO ((!(!r11)) && decide (v6 > 0)) (spec_l1CmpText e13.Name_ e9.Name_)).bind fun r15=>(gdO (!((((!r11) || (decide (v6 > 0) && decide (r15 ≥ 0))) || decide ((e9.Must_.length : Int) > 30)) || decide ((e9.May_.length : Int) > 30))) (spec_l3Rising e9.Must_)).bind fun r17=>(gdO (!(((((!r11) || (decide (v6 > 0) && decide (r15 ≥ 0))) || decide ((e9.Must_.length : Int) > 30)) || decide ((e9.May_.length : Int) > 30)) || (!r17))) (spec_l3Rising e9.May_)).bind fun r19=>cond ((((((!r11) || (decide (v6 > 0) && decide (r15 ≥ 0))) || decide ((e9.Must_.length : Int) > 30)) || decide ((e9.May_.length : Int) > 30)) || (!r17)) || (!r19)) (some (.inr (.inr false))) ((loopO (spec_GoodDirSchema_l3 a0 e9) 0).bind fun q45=>(match q45 with | .inl _=>(loopO (spec_GoodDirSchema_l4 a0) (e9.Up_,0)).bind fun q30=>(match q30 with | .inl _=>some (.inl (IntKind.i64.wrap (v6 + 1))) | .inr q25=>some (.inr (.inr q25))) | .inr q22=>some (.inr (.inr q22))))) (some (.inr (.inl ())))
noncomputable def spec_GoodDirSchema_l1 (a0 : I_DirSchema) : Int → Option (Int ⊕ (Unit ⊕ Bool)):=fun s=>match s with
  | v1=>cond (decide (v1 < (a0.Types_.length : Int))) ((idx a0.Types_ v1).bind fun e50=>(spec_GoodName e50.Name_).bind fun r52=>(gdO ((!(((!r52) || decide (e50.Syntax_ < 1)) || decide (e50.Syntax_ > 4))) && decide (v1 > 0)) (idx a0.Types_ (IntKind.i64.wrap (v1 - 1)))).bind fun e54=>(gdO ((!(((!r52) || decide (e50.Syntax_ < 1)) || decide (e50.Syntax_ > 4))) && decide (v1 > 0)) (spec_l1CmpText e54.Name_ e50.Name_)).bind fun r56=>cond ((((!r52) || decide (e50.Syntax_ < 1)) || decide (e50.Syntax_ > 4)) || (decide (v1 > 0) && decide (r56 ≥ 0))) (some (.inr (.inr false))) (some (.inl (IntKind.i64.wrap (v1 + 1))))) (some (.inr (.inl ())))
noncomputable def spec_GoodDirSchema (a0 : I_DirSchema) : Option Bool :=
  cond (decide ((a0.Types_.length : Int) > 40) || decide ((a0.Classes_.length : Int) > 20)) (some false) ((loopO (spec_GoodDirSchema_l1 a0) 0).bind fun q58=>(match q58 with | .inl _=>(spec_l3Type a0 (ByteArray.mk #[99,108,97,115,115])).bind fun q=>(match q with | (r3,r4)=>cond (((!r4) || (r3.Syntax_ != 2)) || r3.Single_) (some false) ((loopO (spec_GoodDirSchema_l2 a0) 0).bind fun q47=>(match q47 with | .inl _=>some true | .inr q7=>some q7))) | .inr q2=>some q2))
theorem spec_GoodDirSchema_p (b0 : Bool) {a0 : I_DirSchema} {R0 : Bool} (H : spec_GoodDirSchema a0 = some R0) : Pure Tryz.prog 35 [.agg (c_I_DirSchema b0 a0)] (.bool R0) := by
 refine CallT.of_TN (n:=188) Tryz.func35 rfl rfl rfl rfl ?_
 refine au 10 ?_
 refine TL.st rfl rfl rfl (o_lenL (f:=c_I_AttrType false) rfl rfl rfl) ?_
 refine au 4 ?_
 refine TL.gcq rfl rfl rfl (.bool _) rfl rfl (fun h=>o_lenL (f:=c_I_Class false) rfl rfl (gv h rfl)) ?_
 refine au 3 ?_
 refine T.cH H ?_ ?_<;>intro H h
 ·refine au 5 ?_
  refine thn_ret ?_
  cases some_i H
  exact ⟨trivial,_,(.tmp _ _ _ _ rfl .nil),(.cl _ rfl)⟩
 ·refine au 6 ?_
  refine TL.st rfl rfl rfl (o_lenL (f:=c_I_AttrType false) rfl rfl rfl) ?_
  refine au 3 ?_
  obtain ⟨q58,h59,H⟩:=bind_s H
  refine T.lq (fun s=>match s with | v1=>[(1,.bx 0 0),(30,.im b0 (a0.Types_.map (c_I_AttrType false))),(31,.int .i64 (a0.Types_.length : Int)),(32,.int .i64 v1)]) (fun s=>match s with | v1=>[.box (c_I_DirSchema b0 a0)]) (fun q ex fr σ=>match q with | .inl _=>ex = .exit 0 ∧ fr = [(1,.bx 0 0)] ∧ σ = [.box (c_I_DirSchema b0 a0)] | .inr q2=>ex = .ret ∧ RetN Tryz.prog [.tmp 2] (fun v τ=>Told τ v (.bool q2)) .ret fr σ) h59 ?_ ?_
  ·rintro v1 y49 H
   refine au 5 ?_
   refine T.cH H ?_ ?_<;>intro H h
   ·refine au 6 ?_
    obtain ⟨e50,h51,H⟩:=bind_s H
    refine TL.st rfl rfl rfl (o_ix (f:=c_I_AttrType false) rfl rfl tyS_106 rfl rfl h51 rfl) ?_
    refine au 6 ?_
    refine T.drawn rfl ?_
    refine ad 2 ?_
    obtain ⟨r52,h53,H⟩:=bind_s H
    refine TD.qs rfl rfl (fun _=>o_callP rfl en_62 rfl rfl (.cons _ _ _ _ (.cl _ rfl) .nil) (spec_GoodName_p  h53)) ?_
    refine ad 4 ?_
    refine TD.cq rfl rfl rfl (.bool _) rfl (fun h _=>o_ari rfl (gv h rfl) rfl rfl) ?_
    refine ad 4 ?_
    refine TD.cq rfl rfl rfl (.bool _) rfl (fun h _=>o_ari rfl (gv h rfl) rfl rfl) ?_
    refine ad 3 ?_
    refine TD.cq rfl rfl rfl (.bool _) rfl (fun h _=>o_ari rfl (gv h rfl) rfl rfl) ?_
    refine TD.cq rfl rfl rfl (.bool _) rfl (fun h _=>o_move rfl (gv h rfl)) ?_
    refine TD.cr rfl rfl rfl (.gd _ _) rfl (fun h=>o_fieldAddr rfl rfl rfl tyS_23 (by decide) rfl rfl ⟨_,rfl,Nat.le_of_ble_eq_true rfl⟩) ?_
    refine TD.cr rfl rfl rfl (.gd _ _) rfl (fun h=>o_loadBx rfl tyS_23 (gv h rfl) rfl (nb rfl) rfl) ?_
    refine TD.cq rfl rfl rfl (.gd _ _) rfl (fun h _=>o_move rfl rfl) ?_
    refine TD.cq rfl rfl rfl (.gd _ _) rfl (fun h _=>o_ari rfl (gv h rfl) rfl rfl) ?_
    obtain ⟨e54,h55,H⟩:=bind_s H
    refine TD.cq rfl rfl rfl (.gd _ _) rfl (fun h _=>o_ix (f:=c_I_AttrType false) rfl rfl tyS_106 (gv h rfl) (gv h rfl) (gdO_t h55 h) rfl) ?_
    refine TD.cq rfl rfl rfl (.gd _ _) rfl (fun h _=>o_fieldAddr rfl rfl rfl tyS_9 (by decide) (gv h rfl) rfl trivial) ?_
    refine TD.cq rfl rfl rfl (.gd _ _) rfl (fun h _=>o_loadRf rfl tyS_9 (gv h rfl) (nb rfl) rfl) ?_
    refine TD.cr rfl rfl rfl (.gd _ _) rfl (fun h=>o_fieldAddr rfl rfl rfl tyS_9 (by decide) rfl rfl ⟨_,rfl,Nat.le_of_ble_eq_true rfl⟩) ?_
    refine TD.cr rfl rfl rfl (.gd _ _) rfl (fun h=>o_loadBx rfl tyS_9 (gv h rfl) rfl (nb rfl) rfl) ?_
    obtain ⟨r56,h57,H⟩:=bind_s H
    refine TD.cq rfl rfl rfl (.gd _ _) rfl (fun h _=>o_callP rfl en_61 rfl (evl_2 (gv h rfl) (gv h rfl)) (.cons _ _ _ _ (.cl _ rfl) (.cons _ _ _ _ (.cl _ rfl) .nil)) (spec_l1CmpText_p  (gdO_t h57 h))) ?_
    refine TD.cq rfl rfl rfl (.gd _ _) rfl (fun h _=>o_ari rfl (gv h rfl) rfl rfl) ?_
    refine TD.cq rfl rfl rfl (.bool _) rfl (fun h _=>o_and rfl (gv h rfl) rfl (fun k=>Gd_t (andi h k)) rfl) ?_
    refine TD.qs rfl rfl (fun _=>o_or rfl rfl rfl rfl (fun k=>Gd_t k)) ?_
    refine TD.nil ⟨rfl,?_⟩
    refine thn_normal ?_
    refine T.cH H ?_ ?_<;>intro H h
    ·refine au 5 ?_
     refine inB_ret (thn_ret ?_)
     exact Pk.id (thn_ret ⟨.inr false,(some_i H).symm,rfl,⟨trivial,_,(.tmp _ _ _ _ rfl .nil),(.cl _ rfl)⟩⟩)
    ·refine au 5 ?_
     exact Pk.of (thn_normal ⟨(IntKind.i64.wrap (v1 + 1)),(some_i H).symm,rfl,rfl⟩)
   ·refine T.exit ?_
    refine thn_exit ?_
    exact Pk.of (thn_exit ⟨.inl (),(some_i H).symm,rfl,rfl,rfl⟩)
  ·rcases q58 with ⟨⟩ | q2
   ·rintro _ _ _ ⟨rfl, rfl, rfl⟩
    refine inB_here ?_
    refine au 4 ?_
    obtain ⟨⟨r3,r4⟩,h5,H⟩:=bind_s H
    refine TL.st rfl rfl rfl (o_callP rfl en_65 rfl rfl (.cons _ _ _ _ (Lent.aggL (.cons _ _ _ _ (.imv _ _) (.cons _ _ _ _ (.imv _ _) .nil))) (.cons _ _ _ _ (.cl _ rfl) .nil)) (spec_l3Type_p b0 h5)) ?_
    refine au 21 ?_
    refine T.cH H ?_ ?_<;>intro H h
    ·refine au 5 ?_
     refine thn_ret ?_
     cases some_i H
     exact ⟨trivial,_,(.tmp _ _ _ _ rfl .nil),(.cl _ rfl)⟩
    ·refine au 6 ?_
     refine TL.st rfl rfl rfl (o_lenL (f:=c_I_Class false) rfl rfl rfl) ?_
     refine au 3 ?_
     obtain ⟨q47,h48,H⟩:=bind_s H
     refine T.lq (fun s=>match s with | v6=>[(1,.bx 0 0),(86,.im b0 (a0.Classes_.map (c_I_Class false))),(87,.int .i64 (a0.Classes_.length : Int)),(88,.int .i64 v6)]) (fun s=>match s with | v6=>[.box (c_I_DirSchema b0 a0),.box (c_I_AttrType false r3)]) (fun q ex fr σ=>match q with | .inl _=>ex = .exit 2 ∧ fr = [] ∧ σ = [.box (c_I_DirSchema b0 a0),.box (c_I_AttrType false r3)] | .inr q7=>ex = .ret ∧ RetN Tryz.prog [.tmp 2] (fun v τ=>Told τ v (.bool q7)) .ret fr σ) h48 ?_ ?_
     ·rintro v6 y8 H
      refine au 5 ?_
      refine T.cH H ?_ ?_<;>intro H h
      ·refine au 6 ?_
       obtain ⟨e9,h10,H⟩:=bind_s H
       refine TL.st rfl rfl rfl (o_ix (f:=c_I_Class false) rfl rfl tyS_108 rfl rfl h10 rfl) ?_
       refine au 7 ?_
       refine T.drawn rfl ?_
       refine ad 2 ?_
       obtain ⟨r11,h12,H⟩:=bind_s H
       refine TD.qs rfl rfl (fun _=>o_callP rfl en_62 rfl rfl (.cons _ _ _ _ (.cl _ rfl) .nil) (spec_GoodName_p  h12)) ?_
       refine ad 3 ?_
       refine TD.cq rfl rfl rfl (.bool _) rfl (fun h _=>o_ari rfl (gv h rfl) rfl rfl) ?_
       refine TD.cq rfl rfl rfl (.bool _) rfl (fun h _=>o_move rfl (gv h rfl)) ?_
       refine TD.cr rfl rfl rfl (.gd _ _) rfl (fun h=>o_fieldAddr rfl rfl rfl tyS_24 (by decide) rfl rfl ⟨_,rfl,Nat.le_of_ble_eq_true rfl⟩) ?_
       refine TD.cr rfl rfl rfl (.gd _ _) rfl (fun h=>o_loadBx rfl tyS_24 (gv h rfl) rfl (nb rfl) rfl) ?_
       refine TD.cq rfl rfl rfl (.gd _ _) rfl (fun h _=>o_move rfl rfl) ?_
       refine TD.cq rfl rfl rfl (.gd _ _) rfl (fun h _=>o_ari rfl (gv h rfl) rfl rfl) ?_
       obtain ⟨e13,h14,H⟩:=bind_s H
       refine TD.cq rfl rfl rfl (.gd _ _) rfl (fun h _=>o_ix (f:=c_I_Class false) rfl rfl tyS_108 (gv h rfl) (gv h rfl) (gdO_t h14 h) rfl) ?_
       refine TD.cq rfl rfl rfl (.gd _ _) rfl (fun h _=>o_fieldAddr rfl rfl rfl tyS_9 (by decide) (gv h rfl) rfl trivial) ?_
       refine TD.cq rfl rfl rfl (.gd _ _) rfl (fun h _=>o_loadRf rfl tyS_9 (gv h rfl) (nb rfl) rfl) ?_
       refine TD.cr rfl rfl rfl (.gd _ _) rfl (fun h=>o_fieldAddr rfl rfl rfl tyS_9 (by decide) rfl rfl ⟨_,rfl,Nat.le_of_ble_eq_true rfl⟩) ?_
       refine TD.cr rfl rfl rfl (.gd _ _) rfl (fun h=>o_loadBx rfl tyS_9 (gv h rfl) rfl (nb rfl) rfl) ?_
       obtain ⟨r15,h16,H⟩:=bind_s H
       refine TD.cq rfl rfl rfl (.gd _ _) rfl (fun h _=>o_callP rfl en_61 rfl (evl_2 (gv h rfl) (gv h rfl)) (.cons _ _ _ _ (.cl _ rfl) (.cons _ _ _ _ (.cl _ rfl) .nil)) (spec_l1CmpText_p  (gdO_t h16 h))) ?_
       refine TD.cq rfl rfl rfl (.gd _ _) rfl (fun h _=>o_ari rfl (gv h rfl) rfl rfl) ?_
       refine TD.cq rfl rfl rfl (.bool _) rfl (fun h _=>o_and rfl (gv h rfl) rfl (fun k=>Gd_t (andi h k)) rfl) ?_
       refine ad 4 ?_
       refine TD.cq rfl rfl rfl (.bool _) rfl (fun h _=>o_lenL (f:=c_str) rfl rfl (gv h rfl)) ?_
       refine TD.cq rfl rfl rfl (.bool _) rfl (fun h _=>o_ari rfl (gv h rfl) rfl rfl) ?_
       refine ad 4 ?_
       refine TD.cq rfl rfl rfl (.bool _) rfl (fun h _=>o_lenL (f:=c_str) rfl rfl (gv h rfl)) ?_
       refine TD.cq rfl rfl rfl (.bool _) rfl (fun h _=>o_ari rfl (gv h rfl) rfl rfl) ?_
       refine ad 4 ?_
       obtain ⟨r17,h18,H⟩:=bind_s H
       refine TD.cq rfl rfl rfl (.bool _) rfl (fun h _=>o_callP rfl en_80 rfl (evl_1 (gv h rfl)) (.cons _ _ _ _ (.cl _ rfl) .nil) (spec_l3Rising_p false (gdO_t h18 h))) ?_
       refine TD.cq rfl rfl rfl (.bool _) rfl (fun h _=>o_not rfl (gv h rfl)) ?_
       refine ad 4 ?_
       obtain ⟨r19,h20,H⟩:=bind_s H
       refine TD.cq rfl rfl rfl (.bool _) rfl (fun h _=>o_callP rfl en_80 rfl (evl_1 (gv h rfl)) (.cons _ _ _ _ (.cl _ rfl) .nil) (spec_l3Rising_p false (gdO_t h20 h))) ?_
       refine TD.cq rfl rfl rfl (.bool _) rfl (fun h _=>o_not rfl (gv h rfl)) ?_
       refine TD.qs rfl rfl (fun _=>o_or rfl rfl rfl rfl (fun k=>Gd_t k)) ?_
       refine TD.nil ⟨rfl,?_⟩
       refine thn_normal ?_
       refine T.cH H ?_ ?_<;>intro H h
       ·refine au 5 ?_
        refine thn_ret (inB_ret (thn_ret ?_))
        exact Pk.id (thn_ret ⟨.inr false,(some_i H).symm,rfl,⟨trivial,_,(.tmp _ _ _ _ rfl .nil),(.cl _ rfl)⟩⟩)
       ·refine au 8 ?_
        refine TL.st rfl rfl rfl (o_sliceIm (rows:=([e9.Must_,e9.May_] : List (List ByteArray)).map (c_sl (c_str))) rfl rfl tyS_43 ⟨_,rfl,rfl⟩ (by decide) rfl rfl rfl rfl rfl rfl) ?_
        refine TL.st rfl rfl rfl (o_lenL (f:=c_sl (c_str)) rfl rfl rfl) ?_
        refine au 3 ?_
        obtain ⟨q45,h46,H⟩:=bind_s H
        refine T.lq (fun s=>match s with | v21=>[(1,.bx 0 0),(8,.bx 2 0),(86,.im b0 (a0.Classes_.map (c_I_Class false))),(87,.int .i64 (a0.Classes_.length : Int)),(88,.int .i64 v6),(142,.im false (([e9.Must_,e9.May_] : List (List ByteArray)).map (c_sl (c_str)))),(143,.int .i64 (([e9.Must_,e9.May_] : List (List ByteArray)).length : Int)),(144,.int .i64 v21)]) (fun s=>match s with | v21=>[.box (c_I_DirSchema b0 a0),.box (c_I_AttrType false r3),.box (c_I_Class false e9)]) (fun q ex fr σ=>match q with | .inl _=>ex = .exit 4 ∧ fr = [(1,.bx 0 0),(8,.bx 2 0),(86,.im b0 (a0.Classes_.map (c_I_Class false))),(87,.int .i64 (a0.Classes_.length : Int)),(88,.int .i64 v6)] ∧ σ = [.box (c_I_DirSchema b0 a0),.box (c_I_AttrType false r3),.box (c_I_Class false e9)] | .inr q22=>ex = .ret ∧ RetN Tryz.prog [.tmp 2] (fun v τ=>Told τ v (.bool q22)) .ret fr σ) h46 ?_ ?_
        ·rintro v21 y32 H
         refine au 5 ?_
         refine T.cH H ?_ ?_<;>intro H h
         ·refine au 5 ?_
          obtain ⟨e33,h34,H⟩:=bind_s H
          refine TL.st rfl rfl rfl (o_ix (f:=c_sl (c_str)) rfl rfl tyS_43 rfl rfl h34 rfl) ?_
          refine au 6 ?_
          refine TL.st rfl rfl rfl (o_lenL (f:=c_str) rfl rfl rfl) ?_
          refine au 3 ?_
          obtain ⟨q43,h44,H⟩:=bind_s H
          refine T.lq (fun s=>match s with | v35=>[(1,.bx 0 0),(8,.bx 2 0),(86,.im b0 (a0.Classes_.map (c_I_Class false))),(87,.int .i64 (a0.Classes_.length : Int)),(88,.int .i64 v6),(142,.im false (([e9.Must_,e9.May_] : List (List ByteArray)).map (c_sl (c_str)))),(143,.int .i64 (([e9.Must_,e9.May_] : List (List ByteArray)).length : Int)),(144,.int .i64 v21),(148,.im false (e33.map (c_str))),(149,.int .i64 (e33.length : Int)),(150,.int .i64 v35)]) (fun s=>match s with | v35=>[.box (c_I_DirSchema b0 a0),.box (c_I_AttrType false r3),.box (c_I_Class false e9)]) (fun q ex fr σ=>match q with | .inl _=>ex = .exit 6 ∧ fr = [(1,.bx 0 0),(8,.bx 2 0),(86,.im b0 (a0.Classes_.map (c_I_Class false))),(87,.int .i64 (a0.Classes_.length : Int)),(88,.int .i64 v6),(142,.im false (([e9.Must_,e9.May_] : List (List ByteArray)).map (c_sl (c_str)))),(143,.int .i64 (([e9.Must_,e9.May_] : List (List ByteArray)).length : Int)),(144,.int .i64 v21)] ∧ σ = [.box (c_I_DirSchema b0 a0),.box (c_I_AttrType false r3),.box (c_I_Class false e9)] | .inr q36=>ex = .ret ∧ RetN Tryz.prog [.tmp 2] (fun v τ=>Told τ v (.bool q36)) .ret fr σ) h44 ?_ ?_
          ·rintro v35 y37 H
           refine au 5 ?_
           refine T.cH H ?_ ?_<;>intro H h
           ·refine au 5 ?_
            obtain ⟨e38,h39,H⟩:=bind_s H
            refine TL.st rfl rfl rfl (o_ix (f:=c_str) rfl rfl tyS_9 rfl rfl h39 rfl) ?_
            refine au 7 ?_
            obtain ⟨⟨r40,r41⟩,h42,H⟩:=bind_s H
            refine TL.st rfl rfl rfl (o_callP rfl en_65 rfl rfl (.cons _ _ _ _ (Lent.aggL (.cons _ _ _ _ (.imv _ _) (.cons _ _ _ _ (.imv _ _) .nil))) (.cons _ _ _ _ (.cl _ rfl) .nil)) (spec_l3Type_p b0 h42)) ?_
            refine au 12 ?_
            refine T.cH H ?_ ?_<;>intro H h
            ·refine au 5 ?_
             refine inB_ret (thn_ret ?_)
             exact Pk.id (thn_ret ⟨.inr false,(some_i H).symm,rfl,⟨trivial,_,(.tmp _ _ _ _ rfl .nil),(.cl _ rfl)⟩⟩)
            ·refine au 5 ?_
             exact Pk.of (thn_normal ⟨(IntKind.i64.wrap (v35 + 1)),(some_i H).symm,rfl,rfl⟩)
           ·refine T.exit ?_
            refine thn_exit ?_
            exact Pk.of (thn_exit ⟨.inl (),(some_i H).symm,rfl,rfl,rfl⟩)
          ·rcases q43 with ⟨⟩ | q36
           ·rintro _ _ _ ⟨rfl,rfl,rfl⟩
            refine inB_here ?_
            refine au 4 ?_
            exact Pk.of (thn_normal ⟨(IntKind.i64.wrap (v21 + 1)),(some_i H).symm,rfl,rfl⟩)
           ·rintro _ fr1 σ1 ⟨rfl,hr⟩
            refine inB_ret (inB_ret (thn_ret ?_))
            exact Pk.id (thn_ret ⟨.inr q36,(some_i H).symm,rfl,hr⟩)
         ·refine T.exit ?_
          refine thn_exit ?_
          exact Pk.of (thn_exit ⟨.inl (),(some_i H).symm,rfl,rfl,rfl⟩)
        ·rcases q45 with ⟨⟩ | q22
         ·rintro _ _ _ ⟨rfl,rfl,rfl⟩
          refine inB_here ?_
          refine au 11 ?_
          obtain ⟨q30,h31,H⟩:=bind_s H
          refine T.lq (fun s=>match s with | (v23,v24)=>[(1,.bx 0 0),(15,.str v23),(16,.int .i64 v24),(86,.im b0 (a0.Classes_.map (c_I_Class false))),(87,.int .i64 (a0.Classes_.length : Int)),(88,.int .i64 v6)]) (fun s=>match s with | (v23,v24)=>[.box (c_I_DirSchema b0 a0),.box (c_I_AttrType false r3),.box (c_I_Class false e9)]) (fun q ex fr σ=>match q with | .inl _=>ex = .exit 8 ∧ fr = [(1,.bx 0 0),(86,.im b0 (a0.Classes_.map (c_I_Class false))),(87,.int .i64 (a0.Classes_.length : Int)),(88,.int .i64 v6)] ∧ σ = [.box (c_I_DirSchema b0 a0),.box (c_I_AttrType false r3),.box (c_I_Class false e9)] | .inr q25=>ex = .ret ∧ RetN Tryz.prog [.tmp 2] (fun v τ=>Told τ v (.bool q25)) .ret fr σ) h31 ?_ ?_
          ·rintro ⟨v23,v24⟩ y26 H
           refine au 6 ?_
           refine T.cH H ?_ ?_<;>intro H h
           ·refine au 7 ?_
            obtain ⟨⟨r27,r28⟩,h29,H⟩:=bind_s H
            refine TL.st rfl rfl rfl (o_callP rfl en_81 rfl rfl (.cons _ _ _ _ (Lent.aggL (.cons _ _ _ _ (.imv _ _) (.cons _ _ _ _ (.imv _ _) .nil))) (.cons _ _ _ _ (.cl _ rfl) .nil)) (spec_l3Class_p b0 h29)) ?_
            refine au 16 ?_
            refine TL.gcq rfl rfl rfl (.bool _) rfl rfl (fun h=>o_lenL (f:=c_I_Class false) rfl rfl (gv h rfl)) ?_
            refine TL.gcq rfl rfl rfl (.bool _) rfl rfl (fun h=>o_ari rfl (gv h rfl) (gv h rfl) rfl) ?_
            refine au 2 ?_
            refine T.cH H ?_ ?_<;>intro H h
            ·refine au 5 ?_
             refine thn_ret (inB_ret (thn_ret ?_))
             exact Pk.id (thn_ret ⟨.inr false,(some_i H).symm,rfl,⟨trivial,_,(.tmp _ _ _ _ rfl .nil),(.cl _ rfl)⟩⟩)
            ·refine au 11 ?_
             exact Pk.of (thn_normal ⟨(r27.Up_,(IntKind.i64.wrap (v24 + 1))),(some_i H).symm,rfl,rfl⟩)
           ·refine T.exit ?_
            refine thn_exit ?_
            exact Pk.of (thn_exit ⟨.inl (),(some_i H).symm,rfl,rfl,rfl⟩)
          ·rcases q30 with ⟨⟩ | q25
           ·rintro _ _ _ ⟨rfl,rfl,rfl⟩
            refine inB_here ?_
            refine au 4 ?_
            exact Pk.of (thn_normal ⟨(IntKind.i64.wrap (v6 + 1)),(some_i H).symm,rfl,rfl⟩)
           ·rintro _ fr1 σ1 ⟨rfl,hr⟩
            refine inB_ret (inB_ret (thn_ret ?_))
            exact Pk.id (thn_ret ⟨.inr q25,(some_i H).symm,rfl,hr⟩)
         ·rintro _ fr1 σ1 ⟨rfl,hr⟩
          refine inB_ret (thn_ret (inB_ret (thn_ret ?_)))
          exact Pk.id (thn_ret ⟨.inr q22,(some_i H).symm,rfl,hr⟩)
      ·refine T.exit ?_
       refine thn_exit ?_
       exact Pk.of (thn_exit ⟨.inl (),(some_i H).symm,rfl,rfl,rfl⟩)
     ·rcases q47 with ⟨⟩ | q7
      ·rintro _ _ _ ⟨rfl,rfl,rfl⟩
       refine inB_here ?_
       refine au 5 ?_
       cases some_i H
       exact ⟨trivial,_,(.tmp _ _ _ _ rfl .nil),(.cl _ rfl)⟩
      ·rintro _ fr1 σ1 ⟨rfl,hr⟩
       refine inB_ret (thn_ret ?_)
       cases some_i H
       exact hr
   ·rintro _ fr1 σ1 ⟨rfl,hr⟩
    refine inB_ret (thn_ret ?_)
    cases some_i H
    exact hr
theorem en_35 : En Tryz.prog 35:=.of Tryz.func35 rfl rfl
noncomputable def spec_GoodDirName_l1 (a0 : (List I_Part)) : Int → Option (Int ⊕ (Unit ⊕ Bool)):=fun s=>match s with
  | v1=>cond (decide (v1 < (a0.length : Int))) ((idx a0 v1).bind fun e4=>(spec_GoodName e4.Attr_).bind fun r6=>(gdO (!(((!r6) || decide ((e4.Text_.size : Int) < 1)) || decide ((e4.Text_.size : Int) > 60))) (spec_l1Printed e4.Text_)).bind fun r8=>cond ((((!r6) || decide ((e4.Text_.size : Int) < 1)) || decide ((e4.Text_.size : Int) > 60)) || (!r8)) (some (.inr (.inr false))) (some (.inl (IntKind.i64.wrap (v1 + 1))))) (some (.inr (.inl ())))
noncomputable def spec_GoodDirName (a0 : (List I_Part)) : Option Bool :=
  (loopO (spec_GoodDirName_l1 a0) 0).bind fun q10=>(match q10 with | .inl _=>some (decide ((a0.length : Int) ≤ 8)) | .inr q2=>some q2)
theorem spec_GoodDirName_p (b0 : Bool) {a0 : (List I_Part)} {R0 : Bool} (H : spec_GoodDirName a0 = some R0) : Pure Tryz.prog 47 [.im b0 (a0.map (c_I_Part false))] (.bool R0):=by
 refine CallT.of_TN (n:=37) Tryz.func47 rfl rfl rfl rfl ?_
 refine au 8 ?_
 refine TL.st rfl rfl rfl (o_lenL (f:=c_I_Part false) rfl rfl rfl) ?_
 refine au 3 ?_
 obtain ⟨q10,h11,H⟩:=bind_s H
 refine T.lq (fun s=>match s with | v1=>[(0,.im b0 (a0.map (c_I_Part false))),(5,.im b0 (a0.map (c_I_Part false))),(6,.int .i64 (a0.length : Int)),(7,.int .i64 v1)]) (fun s=>match s with | v1=>[]) (fun q ex fr σ=>match q with | .inl _=>ex = .exit 0 ∧ fr = [(0,.im b0 (a0.map (c_I_Part false)))] ∧ σ = [] | .inr q2=>ex = .ret ∧ RetN Tryz.prog [.tmp 2] (fun v τ=>Told τ v (.bool q2)) .ret fr σ) h11 ?_ ?_
 ·rintro v1 y3 H
  refine au 5 ?_
  refine T.cH H ?_ ?_<;>intro H h
  ·refine au 5 ?_
   obtain ⟨e4,h5,H⟩:=bind_s H
   refine TL.st rfl rfl rfl (o_ix (f:=c_I_Part false) rfl rfl tyS_96 rfl rfl h5 rfl) ?_
   refine au 8 ?_
   obtain ⟨r6,h7,H⟩:=bind_s H
   refine TL.st rfl rfl rfl (o_callP rfl en_62 rfl rfl (.cons _ _ _ _ (.cl _ rfl) .nil) (spec_GoodName_p  h7)) ?_
   refine au 4 ?_
   refine TL.gcq rfl rfl rfl (.bool _) rfl rfl (fun h=>o_lenS rfl rfl (gv h rfl)) ?_
   refine au 5 ?_
   refine TL.gcq rfl rfl rfl (.bool _) rfl rfl (fun h=>o_lenS rfl rfl (gv h rfl)) ?_
   refine au 5 ?_
   obtain ⟨r8,h9,H⟩:=bind_s H
   refine TL.gcq rfl rfl rfl (.bool _) rfl rfl (fun h=>o_callP rfl en_82 rfl (evl_1 (gv h rfl)) (.cons _ _ _ _ (.cl _ rfl) .nil) (spec_l1Printed_p  (gdO_t h9 h))) ?_
   refine au 3 ?_
   refine T.cH H ?_ ?_<;>intro H h
   ·refine au 5 ?_
    refine inB_ret (thn_ret ?_)
    exact Pk.id (thn_ret ⟨.inr false,(some_i H).symm,rfl,⟨trivial,_,(.tmp _ _ _ _ rfl .nil),(.cl _ rfl)⟩⟩)
   ·refine au 5 ?_
    exact Pk.of (thn_normal ⟨(IntKind.i64.wrap (v1 + 1)),(some_i H).symm,rfl,rfl⟩)
  ·refine T.exit ?_
   refine thn_exit ?_
   exact Pk.of (thn_exit ⟨.inl (),(some_i H).symm,rfl,rfl,rfl⟩)
 ·rcases q10 with ⟨⟩ | q2
  ·rintro _ _ _ ⟨rfl,rfl,rfl⟩
   refine inB_here ?_
   refine au 3 ?_
   refine TL.st rfl rfl rfl (o_lenL (f:=c_I_Part false) rfl rfl rfl) ?_
   refine au 4 ?_
   cases some_i H
   exact ⟨trivial,_,(.tmp _ _ _ _ rfl .nil),(.cl _ rfl)⟩
  ·rintro _ fr1 σ1 ⟨rfl,hr⟩
   refine inB_ret (thn_ret ?_)
   cases some_i H
   exact hr
theorem en_47 : En Tryz.prog 47:=.of Tryz.func47 rfl rfl
noncomputable def spec_GoodEntry_l2 (e6 : I_Attr) : Int → Option (Int ⊕ (Unit ⊕ Bool)):=fun s=>match s with
  | v16=>cond (decide (v16 < (e6.Values_.length : Int))) ((idx e6.Values_ v16).bind fun e19=>(gdO (!(decide ((e19.size : Int) < 1) || decide ((e19.size : Int) > 200))) (spec_l1Printed e19)).bind fun r21=>cond ((decide ((e19.size : Int) < 1) || decide ((e19.size : Int) > 200)) || (!r21)) (some (.inr (.inr false))) (some (.inl (IntKind.i64.wrap (v16 + 1))))) (some (.inr (.inl ())))
noncomputable def spec_GoodEntry_l1 (a0 : I_Entry) : Int → Option (Int ⊕ (Unit ⊕ Bool)):=fun s=>match s with
  | v3=>cond (decide (v3 < (a0.Attrs_.length : Int))) ((idx a0.Attrs_ v3).bind fun e6=>(spec_GoodName e6.Name_).bind fun r8=>(gdO ((!(!r8)) && decide (v3 > 0)) (idx a0.Attrs_ (IntKind.i64.wrap (v3 - 1)))).bind fun e10=>(gdO ((!(!r8)) && decide (v3 > 0)) (spec_l1CmpText e10.Name_ e6.Name_)).bind fun r12=>(gdO (!((((!r8) || (decide (v3 > 0) && decide (r12 ≥ 0))) || decide ((e6.Values_.length : Int) < 1)) || decide ((e6.Values_.length : Int) > 30))) (spec_l3Rising e6.Values_)).bind fun r14=>cond (((((!r8) || (decide (v3 > 0) && decide (r12 ≥ 0))) || decide ((e6.Values_.length : Int) < 1)) || decide ((e6.Values_.length : Int) > 30)) || (!r14)) (some (.inr (.inr false))) ((loopO (spec_GoodEntry_l2 e6) 0).bind fun q23=>(match q23 with | .inl _=>some (.inl (IntKind.i64.wrap (v3 + 1))) | .inr q17=>some (.inr (.inr q17))))) (some (.inr (.inl ())))
noncomputable def spec_GoodEntry (a0 : I_Entry) : Option Bool :=
  (spec_GoodDirName a0.Name_).bind fun r1=>cond ((((!r1) || ((a0.Name_.length : Int) == 0)) || decide ((a0.Attrs_.length : Int) < 1)) || decide ((a0.Attrs_.length : Int) > 30)) (some false) ((loopO (spec_GoodEntry_l1 a0) 0).bind fun q25=>(match q25 with | .inl _=>some true | .inr q4=>some q4))
theorem spec_GoodEntry_p (b0 : Bool) {a0 : I_Entry} {R0 : Bool} (H : spec_GoodEntry a0 = some R0) : Pure Tryz.prog 36 [.agg (c_I_Entry b0 a0)] (.bool R0) := by
 refine CallT.of_TN (n:=98) Tryz.func36 rfl rfl rfl rfl ?_
 refine au 10 ?_
 obtain ⟨r1,h2,H⟩:=bind_s H
 refine TL.st rfl rfl rfl (o_callP rfl en_47 rfl rfl (.cons _ _ _ _ (.imv _ _) .nil) (spec_GoodDirName_p b0 h2)) ?_
 refine au 4 ?_
 refine TL.gcq rfl rfl rfl (.bool _) rfl rfl (fun h=>o_lenL (f:=c_I_Part false) rfl rfl (gv h rfl)) ?_
 refine au 5 ?_
 refine TL.gcq rfl rfl rfl (.bool _) rfl rfl (fun h=>o_lenL (f:=c_I_Attr false) rfl rfl (gv h rfl)) ?_
 refine au 5 ?_
 refine TL.gcq rfl rfl rfl (.bool _) rfl rfl (fun h=>o_lenL (f:=c_I_Attr false) rfl rfl (gv h rfl)) ?_
 refine au 3 ?_
 refine T.cH H ?_ ?_<;>intro H h
 ·refine au 5 ?_
  refine thn_ret ?_
  cases some_i H
  exact ⟨trivial,_,(.tmp _ _ _ _ rfl .nil),(.cl _ rfl)⟩
 ·refine au 6 ?_
  refine TL.st rfl rfl rfl (o_lenL (f:=c_I_Attr false) rfl rfl rfl) ?_
  refine au 3 ?_
  obtain ⟨q25,h26,H⟩:=bind_s H
  refine T.lq (fun s=>match s with | v3=>[(1,.bx 0 0),(30,.im b0 (a0.Attrs_.map (c_I_Attr false))),(31,.int .i64 (a0.Attrs_.length : Int)),(32,.int .i64 v3)]) (fun s=>match s with | v3=>[.box (c_I_Entry b0 a0)]) (fun q ex fr σ=>match q with | .inl _=>ex = .exit 0 ∧ fr = [] ∧ σ = [.box (c_I_Entry b0 a0)] | .inr q4=>ex = .ret ∧ RetN Tryz.prog [.tmp 2] (fun v τ=>Told τ v (.bool q4)) .ret fr σ) h26 ?_ ?_
  ·rintro v3 y5 H
   refine au 5 ?_
   refine T.cH H ?_ ?_<;>intro H h
   ·refine au 6 ?_
    obtain ⟨e6,h7,H⟩:=bind_s H
    refine TL.st rfl rfl rfl (o_ix (f:=c_I_Attr false) rfl rfl tyS_114 rfl rfl h7 rfl) ?_
    refine au 7 ?_
    refine T.drawn rfl ?_
    refine ad 2 ?_
    obtain ⟨r8,h9,H⟩:=bind_s H
    refine TD.qs rfl rfl (fun _=>o_callP rfl en_62 rfl rfl (.cons _ _ _ _ (.cl _ rfl) .nil) (spec_GoodName_p  h9)) ?_
    refine ad 3 ?_
    refine TD.cq rfl rfl rfl (.bool _) rfl (fun h _=>o_ari rfl (gv h rfl) rfl rfl) ?_
    refine TD.cq rfl rfl rfl (.bool _) rfl (fun h _=>o_move rfl (gv h rfl)) ?_
    refine TD.cr rfl rfl rfl (.gd _ _) rfl (fun h=>o_fieldAddr rfl rfl rfl tyS_28 (by decide) rfl rfl ⟨_,rfl,Nat.le_of_ble_eq_true rfl⟩) ?_
    refine TD.cr rfl rfl rfl (.gd _ _) rfl (fun h=>o_loadBx rfl tyS_28 (gv h rfl) rfl (nb rfl) rfl) ?_
    refine TD.cq rfl rfl rfl (.gd _ _) rfl (fun h _=>o_move rfl rfl) ?_
    refine TD.cq rfl rfl rfl (.gd _ _) rfl (fun h _=>o_ari rfl (gv h rfl) rfl rfl) ?_
    obtain ⟨e10,h11,H⟩:=bind_s H
    refine TD.cq rfl rfl rfl (.gd _ _) rfl (fun h _=>o_ix (f:=c_I_Attr false) rfl rfl tyS_114 (gv h rfl) (gv h rfl) (gdO_t h11 h) rfl) ?_
    refine TD.cq rfl rfl rfl (.gd _ _) rfl (fun h _=>o_fieldAddr rfl rfl rfl tyS_9 (by decide) (gv h rfl) rfl trivial) ?_
    refine TD.cq rfl rfl rfl (.gd _ _) rfl (fun h _=>o_loadRf rfl tyS_9 (gv h rfl) (nb rfl) rfl) ?_
    refine TD.cr rfl rfl rfl (.gd _ _) rfl (fun h=>o_fieldAddr rfl rfl rfl tyS_9 (by decide) rfl rfl ⟨_,rfl,Nat.le_of_ble_eq_true rfl⟩) ?_
    refine TD.cr rfl rfl rfl (.gd _ _) rfl (fun h=>o_loadBx rfl tyS_9 (gv h rfl) rfl (nb rfl) rfl) ?_
    obtain ⟨r12,h13,H⟩:=bind_s H
    refine TD.cq rfl rfl rfl (.gd _ _) rfl (fun h _=>o_callP rfl en_61 rfl (evl_2 (gv h rfl) (gv h rfl)) (.cons _ _ _ _ (.cl _ rfl) (.cons _ _ _ _ (.cl _ rfl) .nil)) (spec_l1CmpText_p  (gdO_t h13 h))) ?_
    refine TD.cq rfl rfl rfl (.gd _ _) rfl (fun h _=>o_ari rfl (gv h rfl) rfl rfl) ?_
    refine TD.cq rfl rfl rfl (.bool _) rfl (fun h _=>o_and rfl (gv h rfl) rfl (fun k=>Gd_t (andi h k)) rfl) ?_
    refine ad 4 ?_
    refine TD.cq rfl rfl rfl (.bool _) rfl (fun h _=>o_lenL (f:=c_str) rfl rfl (gv h rfl)) ?_
    refine TD.cq rfl rfl rfl (.bool _) rfl (fun h _=>o_ari rfl (gv h rfl) rfl rfl) ?_
    refine ad 4 ?_
    refine TD.cq rfl rfl rfl (.bool _) rfl (fun h _=>o_lenL (f:=c_str) rfl rfl (gv h rfl)) ?_
    refine TD.cq rfl rfl rfl (.bool _) rfl (fun h _=>o_ari rfl (gv h rfl) rfl rfl) ?_
    refine ad 4 ?_
    obtain ⟨r14,h15,H⟩:=bind_s H
    refine TD.cq rfl rfl rfl (.bool _) rfl (fun h _=>o_callP rfl en_80 rfl (evl_1 (gv h rfl)) (.cons _ _ _ _ (.cl _ rfl) .nil) (spec_l3Rising_p false (gdO_t h15 h))) ?_
    refine TD.cq rfl rfl rfl (.bool _) rfl (fun h _=>o_not rfl (gv h rfl)) ?_
    refine TD.qs rfl rfl (fun _=>o_or rfl rfl rfl rfl (fun k=>Gd_t k)) ?_
    refine TD.nil ⟨rfl,?_⟩
    refine thn_normal ?_
    refine T.cH H ?_ ?_<;>intro H h
    ·refine au 5 ?_
     refine thn_ret (inB_ret (thn_ret ?_))
     exact Pk.id (thn_ret ⟨.inr false,(some_i H).symm,rfl,⟨trivial,_,(.tmp _ _ _ _ rfl .nil),(.cl _ rfl)⟩⟩)
    ·refine au 5 ?_
     refine TL.st rfl rfl rfl (o_lenL (f:=c_str) rfl rfl rfl) ?_
     refine au 3 ?_
     obtain ⟨q23,h24,H⟩:=bind_s H
     refine T.lq (fun s=>match s with | v16=>[(1,.bx 0 0),(30,.im b0 (a0.Attrs_.map (c_I_Attr false))),(31,.int .i64 (a0.Attrs_.length : Int)),(32,.int .i64 v3),(77,.im false (e6.Values_.map (c_str))),(78,.int .i64 (e6.Values_.length : Int)),(79,.int .i64 v16)]) (fun s=>match s with | v16=>[.box (c_I_Entry b0 a0),.box (c_I_Attr false e6)]) (fun q ex fr σ=>match q with | .inl _=>ex = .exit 2 ∧ fr = [(1,.bx 0 0),(30,.im b0 (a0.Attrs_.map (c_I_Attr false))),(31,.int .i64 (a0.Attrs_.length : Int)),(32,.int .i64 v3)] ∧ σ = [.box (c_I_Entry b0 a0),.box (c_I_Attr false e6)] | .inr q17=>ex = .ret ∧ RetN Tryz.prog [.tmp 2] (fun v τ=>Told τ v (.bool q17)) .ret fr σ) h24 ?_ ?_
     ·rintro v16 y18 H
      refine au 5 ?_
      refine T.cH H ?_ ?_<;>intro H h
      ·refine au 5 ?_
       obtain ⟨e19,h20,H⟩:=bind_s H
       refine TL.st rfl rfl rfl (o_ix (f:=c_str) rfl rfl tyS_9 rfl rfl h20 rfl) ?_
       refine au 10 ?_
       refine TL.gcq rfl rfl rfl (.bool _) rfl rfl (fun h=>o_lenS rfl rfl (gv h rfl)) ?_
       refine au 4 ?_
       obtain ⟨r21,h22,H⟩:=bind_s H
       refine TL.gcq rfl rfl rfl (.bool _) rfl rfl (fun h=>o_callP rfl en_82 rfl (evl_1 (gv h rfl)) (.cons _ _ _ _ (.cl _ rfl) .nil) (spec_l1Printed_p  (gdO_t h22 h))) ?_
       refine au 3 ?_
       refine T.cH H ?_ ?_<;>intro H h
       ·refine au 5 ?_
        refine inB_ret (thn_ret ?_)
        exact Pk.id (thn_ret ⟨.inr false,(some_i H).symm,rfl,⟨trivial,_,(.tmp _ _ _ _ rfl .nil),(.cl _ rfl)⟩⟩)
       ·refine au 5 ?_
        exact Pk.of (thn_normal ⟨(IntKind.i64.wrap (v16 + 1)),(some_i H).symm,rfl,rfl⟩)
      ·refine T.exit ?_
       refine thn_exit ?_
       exact Pk.of (thn_exit ⟨.inl (),(some_i H).symm,rfl,rfl,rfl⟩)
     ·rcases q23 with ⟨⟩ | q17
      ·rintro _ _ _ ⟨rfl,rfl,rfl⟩
       refine inB_here ?_
       refine au 4 ?_
       exact Pk.of (thn_normal ⟨(IntKind.i64.wrap (v3 + 1)),(some_i H).symm,rfl,rfl⟩)
      ·rintro _ fr1 σ1 ⟨rfl,hr⟩
       refine inB_ret (inB_ret (thn_ret ?_))
       exact Pk.id (thn_ret ⟨.inr q17,(some_i H).symm,rfl,hr⟩)
   ·refine T.exit ?_
    refine thn_exit ?_
    exact Pk.of (thn_exit ⟨.inl (),(some_i H).symm,rfl,rfl,rfl⟩)
  ·rcases q25 with ⟨⟩ | q4
   ·rintro _ _ _ ⟨rfl,rfl,rfl⟩
    refine inB_here ?_
    refine au 5 ?_
    cases some_i H
    exact ⟨trivial,_,(.tmp _ _ _ _ rfl .nil),(.cl _ rfl)⟩
   ·rintro _ fr1 σ1 ⟨rfl,hr⟩
    refine inB_ret (thn_ret ?_)
    cases some_i H
    exact hr
theorem en_36 : En Tryz.prog 36:=.of Tryz.func36 rfl rfl
noncomputable def spec_l3Under (a0 : (List I_Part)) (a1 : (List I_Part)) : Option Bool :=
  (gdO (decide ((a0.length : Int) ≥ (a1.length : Int))) (sub a0 (IntKind.i64.wrap ((a0.length : Int) - (a1.length : Int))) (a0.length : Int))).bind fun l1=>(gdO (decide ((a0.length : Int) ≥ (a1.length : Int))) (spec_l3SameName l1 a1)).bind fun r3=>some (decide ((a0.length : Int) ≥ (a1.length : Int)) && r3)
theorem spec_l3Under_p (b0 : Bool) (b1 : Bool) {a0 : (List I_Part)} {a1 : (List I_Part)} {R0 : Bool} (H : spec_l3Under a0 a1 = some R0) : Pure Tryz.prog 49 [.im b0 (a0.map (c_I_Part false)),.im b1 (a1.map (c_I_Part false))] (.bool R0):=by
 refine CallT.of_TN (n:=21) Tryz.func49 rfl rfl rfl rfl ?_
 refine au 7 ?_
 refine TL.st rfl rfl rfl (o_lenL (f:=c_I_Part false) rfl rfl rfl) ?_
 refine TL.st rfl rfl rfl (o_move rfl rfl) ?_
 refine TL.st rfl rfl rfl (o_lenL (f:=c_I_Part false) rfl rfl rfl) ?_
 refine au 4 ?_
 refine TL.gcq rfl rfl rfl (.bool _) rfl rfl (fun h=>o_lenL (f:=c_I_Part false) rfl rfl (gv h rfl)) ?_
 refine TL.gcq rfl rfl rfl (.bool _) rfl rfl (fun h=>o_move rfl rfl) ?_
 refine TL.gcq rfl rfl rfl (.bool _) rfl rfl (fun h=>o_lenL (f:=c_I_Part false) rfl rfl (gv h rfl)) ?_
 refine TL.gcq rfl rfl rfl (.bool _) rfl rfl (fun h=>o_ari rfl (gv h rfl) (gv h rfl) rfl) ?_
 obtain ⟨l1,h2,H⟩:=bind_s H
 refine TL.gcq rfl rfl rfl (.bool _) rfl rfl (fun h=>o_subL (f:=c_I_Part false) (xs:=a0) rfl rfl tyS_96 (gv h rfl) (opt_of (gv h rfl)) rfl (fun _=>rfl) (gdO_t h2 h)) ?_
 refine TL.gcq rfl rfl rfl (.bool _) rfl rfl (fun h=>o_move rfl rfl) ?_
 obtain ⟨r3,h4,H⟩:=bind_s H
 refine TL.gcq rfl rfl rfl (.bool _) rfl rfl (fun h=>o_callP rfl en_97 rfl (evl_2 (gv h rfl) (gv h rfl)) (.cons _ _ _ _ (.imv _ _) (.cons _ _ _ _ (.imv _ _) .nil)) (spec_l3SameName_p b0 b1 (gdO_t h4 h))) ?_
 refine au 4 ?_
 cases some_i H
 exact ⟨trivial,_,(.tmp _ _ _ _ rfl .nil),(.cl _ rfl)⟩
theorem en_49 : En Tryz.prog 49:=.of Tryz.func49 rfl rfl
noncomputable def spec_l3Values_l1 (a0 : I_Entry) (a1 : ByteArray) : Int → Option (Int ⊕ (Unit ⊕ (List ByteArray))):=fun s=>match s with
  | v1=>cond (decide (v1 < (a0.Attrs_.length : Int))) ((idx a0.Attrs_ v1).bind fun e4=>cond (e4.Name_.toList == a1.toList) (some (.inr (.inr e4.Values_))) (some (.inl (IntKind.i64.wrap (v1 + 1))))) (some (.inr (.inl ())))
noncomputable def spec_l3Values (a0 : I_Entry) (a1 : ByteArray) : Option (List ByteArray) :=
  (loopO (spec_l3Values_l1 a0 a1) 0).bind fun q6=>(match q6 with | .inl _=>some ([] : List ByteArray) | .inr q2=>some q2)
theorem spec_l3Values_p (b0 : Bool) {a0 : I_Entry} {a1 : ByteArray} {R0 : (List ByteArray)} (H : spec_l3Values a0 a1 = some R0) : Pure Tryz.prog 50 [.agg (c_I_Entry b0 a0),.str a1] (.im false (R0.map (c_str))):=by
 refine CallT.of_TN (n:=21) Tryz.func50 rfl rfl rfl rfl ?_
 refine au 10 ?_
 refine TL.st rfl rfl rfl (o_lenL (f:=c_I_Attr false) rfl rfl rfl) ?_
 refine au 3 ?_
 obtain ⟨q6,h7,H⟩:=bind_s H
 refine T.lq (fun s=>match s with | v1=>[(1,.str a1),(8,.im b0 (a0.Attrs_.map (c_I_Attr false))),(9,.int .i64 (a0.Attrs_.length : Int)),(10,.int .i64 v1)]) (fun s=>match s with | v1=>[.box (c_I_Entry b0 a0)]) (fun q ex fr σ=>match q with | .inl _=>ex = .exit 0 ∧ fr = [] ∧ σ = [.box (c_I_Entry b0 a0)] | .inr q2=>ex = .ret ∧ RetN Tryz.prog [.tmp 4] (fun v τ=>Told τ v (.im false (q2.map (c_str)))) .ret fr σ) h7 ?_ ?_
 ·rintro v1 y3 H
  refine au 5 ?_
  refine T.cH H ?_ ?_<;>intro H h
  ·refine au 5 ?_
   obtain ⟨e4,h5,H⟩:=bind_s H
   refine TL.st rfl rfl rfl (o_ix (f:=c_I_Attr false) rfl rfl tyS_114 rfl rfl h5 rfl) ?_
   refine au 11 ?_
   refine T.cH H ?_ ?_<;>intro H h
   ·refine au 7 ?_
    refine inB_ret (thn_ret ?_)
    exact Pk.id (thn_ret ⟨.inr e4.Values_,(some_i H).symm,rfl,⟨trivial,_,(.tmp _ _ _ _ rfl .nil),(.cl _ rfl)⟩⟩)
   ·refine au 5 ?_
    exact Pk.of (thn_normal ⟨(IntKind.i64.wrap (v1 + 1)),(some_i H).symm,rfl,rfl⟩)
  ·refine T.exit ?_
   refine thn_exit ?_
   exact Pk.of (thn_exit ⟨.inl (),(some_i H).symm,rfl,rfl,rfl⟩)
 ·rcases q6 with ⟨⟩ | q2
  ·rintro _ _ _ ⟨rfl,rfl,rfl⟩
   refine inB_here ?_
   refine au 5 ?_
   cases some_i H
   exact ⟨trivial,_,(.tmp _ _ _ _ rfl .nil),.nil⟩
  ·rintro _ fr1 σ1 ⟨rfl,hr⟩
   refine inB_ret (thn_ret ?_)
   cases some_i H
   exact hr
theorem en_50 : En Tryz.prog 50:=.of Tryz.func50 rfl rfl
theorem en_37 : En Tryz.prog 37:=.of Tryz.func37 rfl rfl
noncomputable def spec_l3Said (a0 : Bool) : Option Int :=
  cond a0 (some 1) (some 0)
theorem spec_l3Said_p  {a0 : Bool} {R0 : Int} (H : spec_l3Said a0 = some R0) : Pure Tryz.prog 83 [.bool a0] (.int .i64 R0):=by
 refine CallT.of_TN (n:=4) Tryz.func83 rfl rfl rfl rfl ?_
 refine au 9 ?_
 refine T.cH H ?_ ?_<;>intro H h
 ·refine au 5 ?_
  refine thn_ret ?_
  cases some_i H
  exact ⟨trivial,_,(.tmp _ _ _ _ rfl .nil),(.cl _ rfl)⟩
 ·refine au 6 ?_
  cases some_i H
  exact ⟨trivial,_,(.tmp _ _ _ _ rfl .nil),(.cl _ rfl)⟩
theorem en_83 : En Tryz.prog 83:=.of Tryz.func83 rfl rfl
theorem en_85 : En Tryz.prog 85:=.of Tryz.func85 rfl rfl
noncomputable def spec_Like_l3 (a0 : ByteArray) (r1 : (List Int)) (l11 : List Bool) (v12 : Int) : (List Bool × Int) → Option ((List Bool × Int) ⊕ List Bool):=fun s=>match s with
  | (l19,v20)=>cond (decide (v20 < (r1.length : Int))) ((idx r1 v20).bind fun e23=>cond (e23 == 256) ((idx l11 (IntKind.i64.wrap (v20 + 1))).bind fun e25=>(gdO (!e25) (idx l19 v20)).bind fun e27=>(idx l19 (IntKind.i64.wrap (v20 + 1))).bind fun e29=>some (.inl ((l19.set (Int.toNat (IntKind.i64.wrap (v20 + 1))) (e25 || e27)),(IntKind.i64.wrap (v20 + 1))))) ((idx l11 v20).bind fun e31=>(gdO e31 (idxS a0 v12)).bind fun b33=>(idx l19 (IntKind.i64.wrap (v20 + 1))).bind fun e35=>some (.inl ((l19.set (Int.toNat (IntKind.i64.wrap (v20 + 1))) (e31 && (e23 == (IntKind.i64.wrap b33)))),(IntKind.i64.wrap (v20 + 1)))))) (some (.inr l19))
noncomputable def spec_Like_l2 (a0 : ByteArray) (r1 : (List Int)) : (List Bool × Int) → Option ((List Bool × Int) ⊕ List Bool):=fun s=>match s with
  | (l11,v12)=>cond (decide (v12 < (a0.size : Int))) ((mk false (IntKind.i64.wrap ((r1.length : Int) + 1))).bind fun l17=>(loopO (spec_Like_l3 a0 r1 l11 v12) (l17,0)).bind fun l21=>(match l21 with | l21=>some (.inl (l21,(IntKind.i64.wrap (v12 + 1)))))) (some (.inr l11))
noncomputable def spec_Like_l1 (r1 : (List Int)) : (List Bool × Int) → Option ((List Bool × Int) ⊕ List Bool):=fun s=>match s with
  | (l8,v9)=>cond (decide (v9 < (r1.length : Int))) ((idx r1 v9).bind fun e42=>(idx l8 v9).bind fun e44=>(idx l8 (IntKind.i64.wrap (v9 + 1))).bind fun e46=>some (.inl ((l8.set (Int.toNat (IntKind.i64.wrap (v9 + 1))) (e44 && (e42 == 256))),(IntKind.i64.wrap (v9 + 1))))) (some (.inr l8))
noncomputable def spec_Like (a0 : ByteArray) (a1 : ByteArray) : Option Bool :=
  cond (decide ((a0.size : Int) > 200) || decide ((a1.size : Int) > 200)) (some false) ((spec_l1Tokens a1).bind fun q=>(match q with | (r1,r2)=>cond (!r2) (some false) ((mk false (IntKind.i64.wrap ((r1.length : Int) + 1))).bind fun l4=>(idx l4 0).bind fun e6=>(loopO (spec_Like_l1 r1) ((l4.set (Int.toNat 0) true),0)).bind fun l10=>(match l10 with | l10=>(loopO (spec_Like_l2 a0 r1) (l10,0)).bind fun l13=>(match l13 with | l13=>(idx l13 (r1.length : Int)).bind fun e14=>some e14)))))
theorem spec_Like_p  {a0 : ByteArray} {a1 : ByteArray} {R0 : Bool} (H : spec_Like a0 a1 = some R0) : Pure Tryz.prog 84 [.str a0, .str a1] (.bool R0) := by
 refine CallT.of_TN (n:=112) Tryz.func84 rfl rfl rfl rfl ?_
 refine au 12 ?_
 refine TL.gcq rfl rfl rfl (.bool _) rfl rfl (fun h=>o_lenS rfl rfl (gv h rfl)) ?_
 refine au 3 ?_
 refine T.cH H ?_ ?_<;>intro H h
 ·refine au 5 ?_
  refine thn_ret ?_
  cases some_i H
  exact ⟨trivial,_,(.tmp _ _ _ _ rfl .nil),(.cl _ rfl)⟩
 ·refine au 4 ?_
  obtain ⟨⟨r1,r2⟩,h3,H⟩:=bind_s H
  refine TL.st rfl rfl rfl (o_callP rfl en_128 rfl rfl (.cons _ _ _ _ (.cl _ rfl) .nil) (spec_l1Tokens_p  h3)) ?_
  refine au 12 ?_
  refine T.cH H ?_ ?_<;>intro H h
  ·refine au 5 ?_
   refine thn_ret ?_
   cases some_i H
   exact ⟨trivial,_,(.tmp _ _ _ _ rfl .nil),(.cl _ rfl)⟩
  ·refine au 4 ?_
   refine TL.st rfl rfl rfl (o_lenL (f:=c_int .i64) rfl rfl rfl) ?_
   refine TL.st rfl rfl rfl (o_ari rfl rfl rfl rfl) ?_
   obtain ⟨l4,h5,H⟩:=bind_s H
   refine TL.st rfl rfl rfl (o_mk (f:=c_bool) (z:=false) rfl rfl tyE_4 ⟨_,rfl,rfl⟩ rfl rfl h5) ?_
   refine au 5 ?_
   obtain ⟨e6,h7,H⟩:=bind_s H
   refine TL.st rfl rfl rfl (o_ixh (f:=c_bool) rfl rfl tyS_4 rfl rfl rfl rfl h7 rfl) ?_
   refine TL.sn rfl rfl (o_stEl (f:=c_bool) (xs:=l4) (k:=0) (a:=e6) true rfl tyS_4 rfl rfl rfl rfl (by decide) h7 rfl rfl rfl (fun _=>rfl) rfl) ?_
   refine TL.conv (Cs.eqV (t:=7) (v':=.hd 0 ((l4.set (Int.toNat 0) true).map (c_bool)).length 0 ((l4.set (Int.toNat 0) true).map (c_bool)).length) rfl (hd_len _ (List.length_set ..))) ?_
   refine TL.conv (Cs.eqV (t:=32) (v':=.hd 0 ((l4.set (Int.toNat 0) true).map (c_bool)).length 0 ((l4.set (Int.toNat 0) true).map (c_bool)).length) rfl (hd_len _ (List.length_set ..))) ?_
   refine TL.conv (Cs.eqV (t:=33) (v':=.hd 0 ((l4.set (Int.toNat 0) true).map (c_bool)).length 0 ((l4.set (Int.toNat 0) true).map (c_bool)).length) rfl (hd_len _ (List.length_set ..))) ?_
   refine TL.conv (Cs.eqV (t:=34) (v':=.el 0 ((l4.set (Int.toNat 0) true).map (c_bool)).length (Int.toNat 0) 0) rfl (el_len _ _ _ (List.length_set ..))) ?_
   refine au 5 ?_
   refine TL.st rfl rfl rfl (o_lenL (f:=c_int .i64) rfl rfl rfl) ?_
   refine au 3 ?_
   obtain ⟨l10,h49,H⟩:=bind_s H
   refine T.lq (fun s=>match s with | (l8,v9)=>[(0,.str a0),(5,.im false (r1.map (c_int .i64))),(7,.hd 0 (l8.map (c_bool)).length 0 (l8.map (c_bool)).length),(35,.im false (r1.map (c_int .i64))),(36,.int .i64 (r1.length : Int)),(37,.int .i64 v9)]) (fun s=>match s with | (l8,v9)=>[.arr .clo 1 (l8.map (c_bool))]) (fun q ex fr σ=>match q with | l10=>ex = .exit 0 ∧ fr = [(0,.str a0),(5,.im false (r1.map (c_int .i64))),(7,.hd 0 (l10.map (c_bool)).length 0 (l10.map (c_bool)).length)] ∧ σ = [.arr .clo 1 (l10.map (c_bool))]) h49 ?_ ?_
   ·rintro ⟨l8,v9⟩ y41 H
    refine au 5 ?_
    refine T.cH H ?_ ?_<;>intro H h
    ·refine au 6 ?_
     obtain ⟨e42,h43,H⟩:=bind_s H
     refine TL.st rfl rfl rfl (o_ix (f:=c_int .i64) rfl rfl tyS_3 rfl rfl h43 rfl) ?_
     refine au 10 ?_
     obtain ⟨e44,h45,H⟩:=bind_s H
     refine TL.st rfl rfl rfl (o_ixh (f:=c_bool) rfl rfl tyS_4 rfl rfl rfl rfl h45 rfl) ?_
     refine TL.st rfl rfl rfl (o_loadEl rfl tyS_4 rfl rfl rfl (by rw [List.getElem?_map,(idx_s h45).2]; rfl) (nb rfl) rfl) ?_
     refine au 4 ?_
     obtain ⟨e46,h47,H⟩:=bind_s H
     refine TL.st rfl rfl rfl (o_ixh (f:=c_bool) rfl rfl tyS_4 rfl rfl rfl rfl h47 rfl) ?_
     refine TL.sn rfl rfl (o_stEl (f:=c_bool) (xs:=l8) (k:=(IntKind.i64.wrap (v9 + 1))) (a:=e46) (e44 && (e42 == 256)) rfl tyS_4 rfl rfl rfl rfl (by decide) h47 rfl rfl rfl (fun _=>rfl) rfl) ?_
     refine TL.conv (Cs.eqV (t:=7) (v':=.hd 0 ((l8.set (Int.toNat (IntKind.i64.wrap (v9 + 1))) (e44 && (e42 == 256))).map (c_bool)).length 0 ((l8.set (Int.toNat (IntKind.i64.wrap (v9 + 1))) (e44 && (e42 == 256))).map (c_bool)).length) rfl (hd_len _ (List.length_set ..))) ?_
     refine TL.conv (Cs.eqV (t:=42) (v':=.hd 0 ((l8.set (Int.toNat (IntKind.i64.wrap (v9 + 1))) (e44 && (e42 == 256))).map (c_bool)).length 0 ((l8.set (Int.toNat (IntKind.i64.wrap (v9 + 1))) (e44 && (e42 == 256))).map (c_bool)).length) rfl (hd_len _ (List.length_set ..))) ?_
     refine TL.conv (Cs.eqV (t:=45) (v':=.hd 0 ((l8.set (Int.toNat (IntKind.i64.wrap (v9 + 1))) (e44 && (e42 == 256))).map (c_bool)).length 0 ((l8.set (Int.toNat (IntKind.i64.wrap (v9 + 1))) (e44 && (e42 == 256))).map (c_bool)).length) rfl (hd_len _ (List.length_set ..))) ?_
     refine TL.conv (Cs.eqV (t:=53) (v':=.el 0 ((l8.set (Int.toNat (IntKind.i64.wrap (v9 + 1))) (e44 && (e42 == 256))).map (c_bool)).length (Int.toNat (IntKind.i64.wrap (v9 + 1))) 0) rfl (el_len _ _ _ (List.length_set ..))) ?_
     refine au 5 ?_
     exact Pk.of (thn_normal ⟨((l8.set (Int.toNat (IntKind.i64.wrap (v9 + 1))) (e44 && (e42 == 256))),(IntKind.i64.wrap (v9 + 1))),(some_i H).symm,rfl,rfl⟩)
    ·refine T.exit ?_
     refine thn_exit ?_
     exact Pk.of (thn_exit ⟨l8,(some_i H).symm,rfl,rfl,rfl⟩)
   ·rintro _ _ _ ⟨rfl,rfl,rfl⟩
    refine inB_here ?_
    refine au 6 ?_
    obtain ⟨l13,h40,H⟩:=bind_s H
    refine T.lq (fun s=>match s with | (l11,v12)=>[(0,.str a0),(5,.im false (r1.map (c_int .i64))),(7,.hd 0 (l11.map (c_bool)).length 0 (l11.map (c_bool)).length),(10,.int .i64 v12)]) (fun s=>match s with | (l11,v12)=>[.arr .clo 1 (l11.map (c_bool))]) (fun q ex fr σ=>match q with | l13=>ex = .exit 2 ∧ fr = [(5,.im false (r1.map (c_int .i64))),(7,.hd 0 (l13.map (c_bool)).length 0 (l13.map (c_bool)).length)] ∧ σ = [.arr .clo 1 (l13.map (c_bool))]) h40 ?_ ?_
    ·rintro ⟨l11,v12⟩ y16 H
     refine au 8 ?_
     refine T.cH H ?_ ?_<;>intro H h
     ·refine au 6 ?_
      refine TL.st rfl rfl rfl (o_lenL (f:=c_int .i64) rfl rfl rfl) ?_
      refine TL.st rfl rfl rfl (o_ari rfl rfl rfl rfl) ?_
      obtain ⟨l17,h18,H⟩:=bind_s H
      refine TL.st rfl rfl rfl (o_mk (f:=c_bool) (z:=false) rfl rfl tyE_4 ⟨_,rfl,rfl⟩ rfl rfl h18) ?_
      refine au 6 ?_
      refine TL.st rfl rfl rfl (o_lenL (f:=c_int .i64) rfl rfl rfl) ?_
      refine au 3 ?_
      obtain ⟨l21,h38,H⟩:=bind_s H
      refine T.lq (fun s=>match s with | (l19,v20)=>[(0,.str a0),(5,.im false (r1.map (c_int .i64))),(7,.hd 0 (l11.map (c_bool)).length 0 (l11.map (c_bool)).length),(10,.int .i64 v12),(11,.hd 1 (l19.map (c_bool)).length 0 (l19.map (c_bool)).length),(65,.im false (r1.map (c_int .i64))),(66,.int .i64 (r1.length : Int)),(67,.int .i64 v20)]) (fun s=>match s with | (l19,v20)=>[.arr .clo 1 (l11.map (c_bool)),.arr .clo 1 (l19.map (c_bool))]) (fun q ex fr σ=>match q with | l21=>ex = .exit 4 ∧ fr = [(0,.str a0),(5,.im false (r1.map (c_int .i64))),(10,.int .i64 v12),(11,.hd 1 (l21.map (c_bool)).length 0 (l21.map (c_bool)).length)] ∧ σ = [.arr .clo 1 (l11.map (c_bool)),.arr .clo 1 (l21.map (c_bool))]) h38 ?_ ?_
      ·rintro ⟨l19,v20⟩ y22 H
       refine au 5 ?_
       refine T.cH H ?_ ?_<;>intro H h
       ·refine au 6 ?_
        obtain ⟨e23,h24,H⟩:=bind_s H
        refine TL.st rfl rfl rfl (o_ix (f:=c_int .i64) rfl rfl tyS_3 rfl rfl h24 rfl) ?_
        refine au 9 ?_
        refine T.cH H ?_ ?_<;>intro H h
        ·refine au 7 ?_
         obtain ⟨e25,h26,H⟩:=bind_s H
         refine TL.st rfl rfl rfl (o_ixh (f:=c_bool) rfl rfl tyS_4 rfl rfl rfl rfl h26 rfl) ?_
         refine TL.st rfl rfl rfl (o_loadEl rfl tyS_4 rfl rfl rfl (by rw [List.getElem?_map,(idx_s h26).2]; rfl) (nb rfl) rfl) ?_
         refine au 3 ?_
         obtain ⟨e27,h28,H⟩:=bind_s H
         refine TL.gcq rfl rfl rfl (.bool _) rfl rfl (fun h=>o_ixh (f:=c_bool) rfl rfl tyS_4 (gv h rfl) (gv h rfl) rfl rfl (gdO_t h28 h) rfl) ?_
         refine TL.gcq rfl rfl rfl (.bool _) rfl rfl (fun h=>o_loadEl rfl tyS_4 (gv h rfl) rfl rfl (by rw [List.getElem?_map,(idx_s (gdO_t h28 h)).2]; rfl) (nb rfl) rfl) ?_
         refine TL.st rfl rfl rfl (o_or rfl rfl rfl rfl (fun k=>Gd_t k)) ?_
         obtain ⟨e29,h30,H⟩:=bind_s H
         refine TL.st rfl rfl rfl (o_ixh (f:=c_bool) rfl rfl tyS_4 rfl rfl rfl rfl h30 rfl) ?_
         refine TL.sn rfl rfl (o_stEl (f:=c_bool) (xs:=l19) (k:=(IntKind.i64.wrap (v20 + 1))) (a:=e29) (e25 || e27) rfl tyS_4 rfl rfl rfl rfl (by decide) h30 rfl rfl rfl (fun _=>rfl) rfl) ?_
         refine TL.conv (Cs.eqV (t:=11) (v':=.hd 1 ((l19.set (Int.toNat (IntKind.i64.wrap (v20 + 1))) (e25 || e27)).map (c_bool)).length 0 ((l19.set (Int.toNat (IntKind.i64.wrap (v20 + 1))) (e25 || e27)).map (c_bool)).length) rfl (hd_len _ (List.length_set ..))) ?_
         refine TL.conv (Cs.eqV (t:=74) (v':=.hd 1 ((l19.set (Int.toNat (IntKind.i64.wrap (v20 + 1))) (e25 || e27)).map (c_bool)).length 0 ((l19.set (Int.toNat (IntKind.i64.wrap (v20 + 1))) (e25 || e27)).map (c_bool)).length) rfl (hd_len _ (List.length_set ..))) ?_
         refine TL.conv (Cs.eqV (t:=88) (v':=.el 1 ((l19.set (Int.toNat (IntKind.i64.wrap (v20 + 1))) (e25 || e27)).map (c_bool)).length (Int.toNat (IntKind.i64.wrap (v20 + 1))) 0) rfl (el_len _ _ _ (List.length_set ..))) ?_
         refine au 5 ?_
         exact Pk.of (thn_normal ⟨((l19.set (Int.toNat (IntKind.i64.wrap (v20 + 1))) (e25 || e27)),(IntKind.i64.wrap (v20 + 1))),(some_i H).symm,rfl,rfl⟩)
        ·refine au 6 ?_
         obtain ⟨e31,h32,H⟩:=bind_s H
         refine TL.st rfl rfl rfl (o_ixh (f:=c_bool) rfl rfl tyS_4 rfl rfl rfl rfl h32 rfl) ?_
         refine TL.st rfl rfl rfl (o_loadEl rfl tyS_4 rfl rfl rfl (by rw [List.getElem?_map,(idx_s h32).2]; rfl) (nb rfl) rfl) ?_
         refine au 4 ?_
         obtain ⟨b33,h34,H⟩:=bind_s H
         refine TL.gcq rfl rfl rfl (.bool _) rfl rfl (fun h=>o_ixs rfl rfl (gv h rfl) (gv h rfl) (gdO_t h34 h)) ?_
         refine TL.gcq rfl rfl rfl (.bool _) rfl rfl (fun h=>o_conv rfl (gv h rfl) ⟨_,rfl⟩ rfl) ?_
         refine TL.gcq rfl rfl rfl (.bool _) rfl rfl (fun h=>o_ari rfl (gv h rfl) (gv h rfl) rfl) ?_
         refine TL.st rfl rfl rfl (o_and rfl rfl rfl (fun k=>Gd_t k) rfl) ?_
         obtain ⟨e35,h36,H⟩:=bind_s H
         refine TL.st rfl rfl rfl (o_ixh (f:=c_bool) rfl rfl tyS_4 rfl rfl rfl rfl h36 rfl) ?_
         refine TL.sn rfl rfl (o_stEl (f:=c_bool) (xs:=l19) (k:=(IntKind.i64.wrap (v20 + 1))) (a:=e35) (e31 && (e23 == (IntKind.i64.wrap b33))) rfl tyS_4 rfl rfl rfl rfl (by decide) h36 rfl rfl rfl (fun _=>rfl) rfl) ?_
         refine TL.conv (Cs.eqV (t:=11) (v':=.hd 1 ((l19.set (Int.toNat (IntKind.i64.wrap (v20 + 1))) (e31 && (e23 == (IntKind.i64.wrap b33)))).map (c_bool)).length 0 ((l19.set (Int.toNat (IntKind.i64.wrap (v20 + 1))) (e31 && (e23 == (IntKind.i64.wrap b33)))).map (c_bool)).length) rfl (hd_len _ (List.length_set ..))) ?_
         refine TL.conv (Cs.eqV (t:=89) (v':=.hd 1 ((l19.set (Int.toNat (IntKind.i64.wrap (v20 + 1))) (e31 && (e23 == (IntKind.i64.wrap b33)))).map (c_bool)).length 0 ((l19.set (Int.toNat (IntKind.i64.wrap (v20 + 1))) (e31 && (e23 == (IntKind.i64.wrap b33)))).map (c_bool)).length) rfl (hd_len _ (List.length_set ..))) ?_
         refine TL.conv (Cs.eqV (t:=104) (v':=.el 1 ((l19.set (Int.toNat (IntKind.i64.wrap (v20 + 1))) (e31 && (e23 == (IntKind.i64.wrap b33)))).map (c_bool)).length (Int.toNat (IntKind.i64.wrap (v20 + 1))) 0) rfl (el_len _ _ _ (List.length_set ..))) ?_
         refine au 5 ?_
         exact Pk.of (thn_normal ⟨((l19.set (Int.toNat (IntKind.i64.wrap (v20 + 1))) (e31 && (e23 == (IntKind.i64.wrap b33)))),(IntKind.i64.wrap (v20 + 1))),(some_i H).symm,rfl,rfl⟩)
       ·refine T.exit ?_
        refine thn_exit ?_
        exact Pk.of (thn_exit ⟨l19,(some_i H).symm,rfl,rfl,rfl⟩)
      ·rintro _ _ _ ⟨rfl,rfl,rfl⟩
       refine inB_here ?_
       refine au 3 ?_
       refine TL.conv (Cs.wkF (M:=2) (.k 0 rfl rfl (.k 5 rfl rfl (.k 7 rfl rfl (.k 10 rfl rfl (.k 11 rfl rfl (.k 106 rfl rfl .nil))))))) ?_
       refine TL.conv (Cs.reloc 0 1 rfl rfl (by decide) rfl rfl rfl (nomS_get rfl)) ?_
       refine TL.conv (Cs.wkF (M:=2) (.k 0 rfl rfl (.k 5 rfl rfl (.k 7 rfl rfl (.k 10 rfl rfl (.k 11 rfl rfl (.k 106 rfl rfl .nil))))))) ?_
       refine TL.conv (Cs.eqS (σ':=[.arr .clo 1 (l21.map (c_bool)),.dead]) rfl) ?_
       refine au 6 ?_
       exact Pk.of (thn_normal ⟨(l21,(IntKind.i64.wrap (v12 + 1))),(some_i H).symm,rfl,rfl⟩)
     ·refine T.exit ?_
      refine thn_exit ?_
      exact Pk.of (thn_exit ⟨l11,(some_i H).symm,rfl,rfl,rfl⟩)
    ·rintro _ _ _ ⟨rfl,rfl,rfl⟩
     refine inB_here ?_
     refine au 4 ?_
     refine TL.st rfl rfl rfl (o_lenL (f:=c_int .i64) rfl rfl rfl) ?_
     obtain ⟨e14,h15,H⟩:=bind_s H
     refine TL.st rfl rfl rfl (o_ixh (f:=c_bool) rfl rfl tyS_4 rfl rfl rfl rfl h15 rfl) ?_
     refine TL.st rfl rfl rfl (o_loadEl rfl tyS_4 rfl rfl rfl (by rw [List.getElem?_map,(idx_s h15).2]; rfl) (nb rfl) rfl) ?_
     refine au 3 ?_
     cases some_i H
     exact ⟨trivial,_,(.tmp _ _ _ _ rfl .nil),(.cl _ rfl)⟩
theorem en_84 : En Tryz.prog 84:=.of Tryz.func84 rfl rfl
noncomputable def spec_l1Size_j1 (v1 : Int) (v2 : ByteArray) (v5 : Int) : Option ((Int × ByteArray) ⊕ ByteArray) :=
  (cat (byS ([(IntKind.u8.wrap (IntKind.i64.wrap (48 + v5)))] : List Int)) v2).bind fun s6=>some (.inl ((IntKind.i64.wrap (Int.tdiv v1 10)),s6))
noncomputable def spec_l1Size_l1  : (Int × ByteArray) → Option ((Int × ByteArray) ⊕ ByteArray):=fun s=>match s with
  | (v1,v2)=>cond (v1 != 0) (cond (decide ((Int.tmod v1 10) < 0)) (spec_l1Size_j1 v1 v2 (IntKind.i64.wrap (-(Int.tmod v1 10)))) (spec_l1Size_j1 v1 v2 (Int.tmod v1 10))) (some (.inr v2))
noncomputable def spec_l1Size (a0 : Int) : Option ByteArray :=
  cond (a0 == 0) (some (ByteArray.mk #[48])) ((loopO (spec_l1Size_l1) (a0,e0)).bind fun v3=>(match v3 with | v3=>some v3))
theorem spec_l1Size_p  {a0 : Int} {R0 : ByteArray} (H : spec_l1Size a0 = some R0) : Pure Tryz.prog 170 [.int .i64 a0] (.str R0):=by
 refine CallT.of_TN (n:=25) Tryz.func170 rfl rfl rfl rfl ?_
 refine au 10 ?_
 refine T.cH H ?_ ?_<;>intro H h
 ·refine au 5 ?_
  refine thn_ret ?_
  cases some_i H
  exact ⟨trivial,_,(.tmp _ _ _ _ rfl .nil),(.cl _ rfl)⟩
 ·refine au 7 ?_
  obtain ⟨v3,h9,H⟩:=bind_s H
  refine T.lq (fun s=>match s with | (v1,v2)=>[(0,.int .i64 v1),(3,.str v2)]) (fun s=>match s with | (v1,v2)=>[]) (fun q ex fr σ=>match q with | v3=>ex = .exit 0 ∧ fr = [(3,.str v3)] ∧ σ = []) h9 ?_ ?_
  ·rintro ⟨v1,v2⟩ y4 H
   refine au 6 ?_
   refine T.cH H ?_ ?_<;>intro H h
   ·refine au 5 ?_
    refine TL.st rfl rfl rfl (o_rem rfl rfl rfl (by decide)) ?_
    refine au 2 ?_
    refine T.cut (fun fr' σ'=>∃ (v5 : Int),fr' = [(0,.int .i64 v1),(3,.str v2),(4,.int .i64 v5)] ∧ σ' = [] ∧ spec_l1Size_j1 v1 v2 v5 = some y4) (T.pk ?_) ?_
    ·skip
     refine au 5 ?_
     refine T.cH H ?_ ?_<;>intro H h
     ·refine au 2 ?_
      refine TL.st rfl rfl rfl (o_neg rfl rfl) ?_
      refine au 2 ?_
      exact Pk.of (thn_normal ⟨(IntKind.i64.wrap (-(Int.tmod v1 10))),rfl,rfl,H⟩)
     ·refine T.skip ?_
      exact Pk.of (thn_normal ⟨(Int.tmod v1 10),rfl,rfl,H⟩)
    ·rintro _ _ ⟨v5,rfl,rfl,H⟩
     refine au 4 ?_
     refine TL.st rfl rfl rfl (o_conv rfl rfl ⟨_,rfl⟩ rfl) ?_
     refine TL.st rfl rfl rfl (o_sliceIm (rows:=([(IntKind.u8.wrap (IntKind.i64.wrap (48 + v5)))] : List Int).map (c_int .u8)) rfl rfl tyS_5 ⟨_,rfl,rfl⟩ (by decide) rfl rfl rfl rfl rfl rfl) ?_
     refine TL.st rfl rfl rfl (o_bs (f:=c_int .u8) (ns:=([(IntKind.u8.wrap (IntKind.i64.wrap (48 + v5)))] : List Int)) rfl rfl rfl rfl (fun _=>rfl) rfl) ?_
     refine TL.st rfl rfl rfl (o_move rfl rfl) ?_
     obtain ⟨s6,h7,H⟩:=bind_s H
     refine TL.st rfl rfl rfl (o_ct rfl rfl rfl h7) ?_
     refine au 4 ?_
     refine TL.st rfl rfl rfl (o_quo rfl rfl rfl (by decide)) ?_
     refine au 2 ?_
     refine inB_normal ?_
     exact Pk.of (thn_normal ⟨((IntKind.i64.wrap (Int.tdiv v1 10)),s6),(some_i H).symm,rfl,rfl⟩)
   ·refine T.exit ?_
    refine thn_exit ?_
    exact Pk.of (thn_exit ⟨v2,(some_i H).symm,rfl,rfl,rfl⟩)
  ·rintro _ _ _ ⟨rfl,rfl,rfl⟩
   refine inB_here ?_
   refine au 6 ?_
   cases some_i H
   exact ⟨trivial,_,(.tmp _ _ _ _ rfl .nil),(.cl _ rfl)⟩
theorem en_170 : En Tryz.prog 170:=.of Tryz.func170 rfl rfl
noncomputable def spec_l1Num (a0 : Int) : Option ByteArray :=
  cond (decide (a0 < 0)) ((spec_l1Size a0).bind fun r1=>(cat (ByteArray.mk #[45]) r1).bind fun s3=>some s3) ((spec_l1Size a0).bind fun r5=>some r5)
theorem spec_l1Num_p  {a0 : Int} {R0 : ByteArray} (H : spec_l1Num a0 = some R0) : Pure Tryz.prog 155 [.int .i64 a0] (.str R0):=by
 refine CallT.of_TN (n:=10) Tryz.func155 rfl rfl rfl rfl ?_
 refine au 10 ?_
 refine T.cH H ?_ ?_<;>intro H h
 ·refine au 3 ?_
  obtain ⟨r1,h2,H⟩:=bind_s H
  refine TL.st rfl rfl rfl (o_callP rfl en_170 rfl rfl (.cons _ _ _ _ (.cl _ rfl) .nil) (spec_l1Size_p  h2)) ?_
  obtain ⟨s3,h4,H⟩:=bind_s H
  refine TL.st rfl rfl rfl (o_ct rfl rfl rfl h4) ?_
  refine au 3 ?_
  refine thn_ret ?_
  cases some_i H
  exact ⟨trivial,_,(.tmp _ _ _ _ rfl .nil),(.cl _ rfl)⟩
 ·refine au 4 ?_
  obtain ⟨r5,h6,H⟩:=bind_s H
  refine TL.st rfl rfl rfl (o_callP rfl en_170 rfl rfl (.cons _ _ _ _ (.cl _ rfl) .nil) (spec_l1Size_p  h6)) ?_
  refine au 3 ?_
  cases some_i H
  exact ⟨trivial,_,(.tmp _ _ _ _ rfl .nil),(.cl _ rfl)⟩
theorem en_155 : En Tryz.prog 155:=.of Tryz.func155 rfl rfl
noncomputable def spec_l1Whole_j1 (a0 : ByteArray) (v5 : Int) : Option (Int × Bool) :=
  (spec_l1Num v5).bind fun r6=>some (v5,(r6.toList == a0.toList))
noncomputable def spec_l1Whole_j2 (v2 : Int) (v11 : Int) : Option ((Int × Int) ⊕ (Int ⊕ (Int × Bool))) :=
  some (.inl (v11,(IntKind.i64.wrap (v2 + 1))))
noncomputable def spec_l1Whole_l1 (a0 : ByteArray) : (Int × Int) → Option ((Int × Int) ⊕ (Int ⊕ (Int × Bool))):=fun s=>match s with
  | (v1,v2)=>cond (decide (v2 < (a0.size : Int))) ((gdO (v2 == 0) (idxS a0 0)).bind fun b12=>cond ((v2 == 0) && (b12 == 45)) (spec_l1Whole_j2 v2 v1) ((idxS a0 v2).bind fun b14=>(spec_l1Digit b14).bind fun r16=>cond (!r16) (some (.inr (.inr (0,false)))) ((idxS a0 v2).bind fun b18=>spec_l1Whole_j2 v2 (IntKind.i64.wrap ((IntKind.i64.wrap (v1 * 10)) - (IntKind.i64.wrap (IntKind.u8.wrap (b18 - 48)))))))) (some (.inr (.inl v1)))
noncomputable def spec_l1Whole (a0 : ByteArray) : Option (Int × Bool) :=
  cond (decide ((a0.size : Int) < 1) || decide ((a0.size : Int) > 20)) (some (0,false)) ((loopO (spec_l1Whole_l1 a0) (0,0)).bind fun q20=>(match q20 with | .inl v3=>(idxS a0 0).bind fun b8=>cond (b8 != 45) (spec_l1Whole_j1 a0 (IntKind.i64.wrap (-v3))) (spec_l1Whole_j1 a0 v3) | .inr q4=>some q4))
theorem spec_l1Whole_p  {a0 : ByteArray} {R0 : Int} {R1 : Bool} (H : spec_l1Whole a0 = some (R0,R1)) : Pure Tryz.prog 129 [.str a0] (.tup [.int .i64 R0,.bool R1]):=by
 refine CallT.of_TN (n:=50) Tryz.func129 rfl rfl rfl rfl ?_
 refine au 13 ?_
 refine TL.gcq rfl rfl rfl (.bool _) rfl rfl (fun h=>o_lenS rfl rfl (gv h rfl)) ?_
 refine au 3 ?_
 refine T.cH H ?_ ?_<;>intro H h
 ·refine au 6 ?_
  refine thn_ret ?_
  cases some_i H
  exact ⟨trivial,_,(.tmp _ _ _ _ rfl (.tmp _ _ _ _ rfl .nil)),(.tupL (.cons _ _ _ _ (.cl _ rfl) (.cons _ _ _ _ (.cl _ rfl) .nil)))⟩
 ·refine au 11 ?_
  obtain ⟨q20,h21,H⟩:=bind_s H
  refine T.lq (fun s=>match s with | (v1,v2)=>[(0,.str a0),(4,.int .i64 v1),(5,.int .i64 v2)]) (fun s=>match s with | (v1,v2)=>[]) (fun q ex fr σ=>match q with | .inl v3=>ex = .exit 0 ∧ fr = [(0,.str a0),(4,.int .i64 v3)] ∧ σ = [] | .inr q4=>ex = .ret ∧ RetN Tryz.prog [.tmp 2,.tmp 3] (fun v τ=>Told τ v (.tup [.int .i64 q4.1,.bool q4.2])) .ret fr σ) h21 ?_ ?_
  ·rintro ⟨v1,v2⟩ y10 H
   refine au 8 ?_
   refine T.cH H ?_ ?_<;>intro H h
   ·refine T.skip ?_
    refine T.cut (fun fr' σ'=>∃ (v11 : Int),fr' = [(0,.str a0),(4,.int .i64 v11),(5,.int .i64 v2)] ∧ σ' = [] ∧ spec_l1Whole_j2 v2 v11 = some y10) (T.pk ?_) ?_
    ·skip
     refine au 8 ?_
     obtain ⟨b12,h13,H⟩:=bind_s H
     refine TL.gcq rfl rfl rfl (.bool _) rfl rfl (fun h=>o_ixs rfl rfl (gv h rfl) rfl (gdO_t h13 h)) ?_
     refine au 3 ?_
     refine T.cH H ?_ ?_<;>intro H h
     ·refine T.exit ?_
      refine thn_exit ?_
      refine inB_here ?_
      exact Pk.of (thn_normal ⟨v1,rfl,rfl,H⟩)
     ·refine au 6 ?_
      obtain ⟨b14,h15,H⟩:=bind_s H
      refine TL.st rfl rfl rfl (o_ixs rfl rfl rfl rfl h15) ?_
      obtain ⟨r16,h17,H⟩:=bind_s H
      refine TL.st rfl rfl rfl (o_callP rfl en_107 rfl rfl (.cons _ _ _ _ (.cl _ rfl) .nil) (spec_l1Digit_p  h17)) ?_
      refine au 2 ?_
      refine T.cH H ?_ ?_<;>intro H h
      ·refine au 6 ?_
       refine thn_ret (inB_ret ?_)
       refine Pk.id (thn_ret ?_)
       exact Pk.id (thn_ret ⟨.inr (0,false),(some_i H).symm,rfl,⟨trivial,_,(.tmp _ _ _ _ rfl (.tmp _ _ _ _ rfl .nil)),(.tupL (.cons _ _ _ _ (.cl _ rfl) (.cons _ _ _ _ (.cl _ rfl) .nil)))⟩⟩)
      ·refine au 6 ?_
       obtain ⟨b18,h19,H⟩:=bind_s H
       refine TL.st rfl rfl rfl (o_ixs rfl rfl rfl rfl h19) ?_
       refine TL.st rfl rfl rfl (o_ari rfl rfl rfl rfl) ?_
       refine TL.st rfl rfl rfl (o_conv rfl rfl ⟨_,rfl⟩ rfl) ?_
       refine au 3 ?_
       refine inB_normal ?_
       exact Pk.of (thn_normal ⟨(IntKind.i64.wrap ((IntKind.i64.wrap (v1 * 10)) - (IntKind.i64.wrap (IntKind.u8.wrap (b18 - 48))))),rfl,rfl,H⟩)
    ·rintro _ _ ⟨v11,rfl,rfl,H⟩
     refine au 5 ?_
     exact Pk.of (thn_normal ⟨(v11,(IntKind.i64.wrap (v2 + 1))),(some_i H).symm,rfl,rfl⟩)
   ·refine T.exit ?_
    refine thn_exit ?_
    exact Pk.of (thn_exit ⟨.inl v1,(some_i H).symm,rfl,rfl,rfl⟩)
  ·rcases q20 with v3 | q4
   ·rintro _ _ _ ⟨rfl,rfl,rfl⟩
    refine inB_here ?_
    refine thn_normal ?_
    refine T.cut (fun fr' σ'=>∃ (v5 : Int),fr' = [(0,.str a0),(4,.int .i64 v5)] ∧ σ' = [] ∧ spec_l1Whole_j1 a0 v5 = some (R0,R1)) (T.pk ?_) ?_
    ·skip
     refine au 3 ?_
     obtain ⟨b8,h9,H⟩:=bind_s H
     refine TL.st rfl rfl rfl (o_ixs rfl rfl rfl rfl h9) ?_
     refine au 2 ?_
     refine T.cH H ?_ ?_<;>intro H h
     ·refine au 2 ?_
      refine TL.st rfl rfl rfl (o_neg rfl rfl) ?_
      refine au 2 ?_
      exact Pk.of (thn_normal ⟨(IntKind.i64.wrap (-v3)),rfl,rfl,H⟩)
     ·refine T.skip ?_
      exact Pk.of (thn_normal ⟨v3,rfl,rfl,H⟩)
    ·rintro _ _ ⟨v5,rfl,rfl,H⟩
     refine au 4 ?_
     obtain ⟨r6,h7,H⟩:=bind_s H
     refine TL.st rfl rfl rfl (o_callP rfl en_155 rfl rfl (.cons _ _ _ _ (.cl _ rfl) .nil) (spec_l1Num_p  h7)) ?_
     refine au 6 ?_
     cases some_i H
     exact ⟨trivial,_,(.tmp _ _ _ _ rfl (.tmp _ _ _ _ rfl .nil)),(.tupL (.cons _ _ _ _ (.cl _ rfl) (.cons _ _ _ _ (.cl _ rfl) .nil)))⟩
   ·rintro _ fr1 σ1 ⟨rfl,hr⟩
    refine inB_ret (thn_ret ?_)
    cases some_i H
    exact hr
theorem en_129 : En Tryz.prog 129:=.of Tryz.func129 rfl rfl
noncomputable def spec_l3Escaped_j1 (v6 : Int) (l13 : List Int) : Option ((List Int × Int) ⊕ List Int) :=
  some (.inl (l13,(IntKind.i64.wrap (v6 + 1))))
noncomputable def spec_l3Escaped_l2 (a0 : ByteArray) (a1 : ByteArray) (v2 : Int) : (List Int × Int) → Option ((List Int × Int) ⊕ List Int):=fun s=>match s with
  | (l5,v6)=>cond (decide (v6 < (a1.size : Int))) ((idxS a0 v2).bind fun b14=>(idxS a1 v6).bind fun b16=>cond (b14 == b16) ((app l5 ([92] : List Int)).bind fun l18=>spec_l3Escaped_j1 v6 l18) (spec_l3Escaped_j1 v6 l5)) (some (.inr l5))
noncomputable def spec_l3Escaped_l1 (a0 : ByteArray) (a1 : ByteArray) : (List Int × Int) → Option ((List Int × Int) ⊕ List Int):=fun s=>match s with
  | (l1,v2)=>cond (decide (v2 < (a0.size : Int))) ((loopO (spec_l3Escaped_l2 a0 a1 v2) (l1,0)).bind fun l7=>(match l7 with | l7=>(idxS a0 v2).bind fun b8=>(app l7 ([b8] : List Int)).bind fun l10=>some (.inl (l10,(IntKind.i64.wrap (v2 + 1)))))) (some (.inr l1))
noncomputable def spec_l3Escaped (a0 : ByteArray) (a1 : ByteArray) : Option ByteArray :=
  (loopO (spec_l3Escaped_l1 a0 a1) (([] : List Int),0)).bind fun l3=>(match l3 with | l3=>some (byS l3))
theorem spec_l3Escaped_p  {a0 : ByteArray} {a1 : ByteArray} {R0 : ByteArray} (H : spec_l3Escaped a0 a1 = some R0) : Pure Tryz.prog 171 [.str a0,.str a1] (.str R0):=by
 refine CallT.of_TN (n:=38) Tryz.func171 rfl rfl rfl rfl ?_
 refine au 14 ?_
 refine T.conv (Cs.own (t:=5) 1 rfl (by decide)) ?_
 obtain ⟨l3,h23,H⟩:=bind_s H
 refine T.lq (fun s=>match s with | (l1,v2)=>[(0,.str a0),(1,.str a1),(5,.hd 0 (l1.map (c_int .u8)).length 0 (l1.map (c_int .u8)).length),(6,.int .i64 v2)]) (fun s=>match s with | (l1,v2)=>[.arr .clo 1 (l1.map (c_int .u8))]) (fun q ex fr σ=>match q with | l3=>ex = .exit 0 ∧ fr = [(5,.hd 0 (l3.map (c_int .u8)).length 0 (l3.map (c_int .u8)).length)] ∧ σ = [.arr .clo 1 (l3.map (c_int .u8))]) h23 ?_ ?_
 ·rintro ⟨l1,v2⟩ y4 H
  refine au 8 ?_
  refine T.cH H ?_ ?_<;>intro H h
  ·refine au 9 ?_
   obtain ⟨l7,h21,H⟩:=bind_s H
   refine T.lq (fun s=>match s with | (l5,v6)=>[(0,.str a0),(1,.str a1),(5,.hd 0 (l5.map (c_int .u8)).length 0 (l5.map (c_int .u8)).length),(6,.int .i64 v2),(7,.int .i64 v6)]) (fun s=>match s with | (l5,v6)=>[.arr .clo 1 (l5.map (c_int .u8))]) (fun q ex fr σ=>match q with | l7=>ex = .exit 2 ∧ fr = [(0,.str a0),(1,.str a1),(5,.hd 0 (l7.map (c_int .u8)).length 0 (l7.map (c_int .u8)).length),(6,.int .i64 v2)] ∧ σ = [.arr .clo 1 (l7.map (c_int .u8))]) h21 ?_ ?_
   ·rintro ⟨l5,v6⟩ y12 H
    refine au 8 ?_
    refine T.cH H ?_ ?_<;>intro H h
    ·refine T.skip ?_
     refine T.cut (fun fr' σ'=>∃ (l13 : List Int),fr' = [(0,.str a0),(1,.str a1),(5,.hd 0 (l13.map (c_int .u8)).length 0 (l13.map (c_int .u8)).length),(6,.int .i64 v2),(7,.int .i64 v6)] ∧ σ' = [.arr .clo 1 (l13.map (c_int .u8))] ∧ spec_l3Escaped_j1 v6 l13 = some y12) (T.pk ?_) ?_
     ·skip
      refine au 2 ?_
      refine T.drawn rfl ?_
      refine ad 2 ?_
      obtain ⟨b14,h15,H⟩:=bind_s H
      refine TD.qs rfl rfl (fun _=>o_ixs rfl rfl rfl rfl h15) ?_
      refine ad 2 ?_
      obtain ⟨b16,h17,H⟩:=bind_s H
      refine TD.qs rfl rfl (fun _=>o_ixs rfl rfl rfl rfl h17) ?_
      refine TD.qs rfl rfl (fun _=>o_ari rfl rfl rfl rfl) ?_
      refine TD.nil ⟨rfl,?_⟩
      refine thn_normal ?_
      refine T.cH H ?_ ?_<;>intro H h
      ·refine au 2 ?_
       refine TL.st rfl rfl rfl (o_sliceIm (rows:=([92] : List Int).map (c_int .u8)) rfl rfl tyS_5 ⟨_,rfl,rfl⟩ (by decide) rfl rfl rfl rfl rfl rfl) ?_
       obtain ⟨l18,h19,H⟩:=bind_s H
       refine TL.st rfl rfl rfl (o_ap (f:=c_int .u8) (xs:=l5) (ys:=([92] : List Int)) rfl rfl tyE_5 rfl rfl rfl rfl (by decide) rfl (fun _=>rfl) h19) ?_
       refine au 2 ?_
       refine inB_normal ?_
       exact Pk.of (thn_normal ⟨l18,rfl,rfl,H⟩)
      ·refine T.skip ?_
       refine inB_normal ?_
       exact Pk.of (thn_normal ⟨l5,rfl,rfl,H⟩)
     ·rintro _ _ ⟨l13,rfl,rfl,H⟩
      refine au 5 ?_
      exact Pk.of (thn_normal ⟨(l13,(IntKind.i64.wrap (v6 + 1))),(some_i H).symm,rfl,rfl⟩)
    ·refine T.exit ?_
     refine thn_exit ?_
     exact Pk.of (thn_exit ⟨l5,(some_i H).symm,rfl,rfl,rfl⟩)
   ·rintro _ _ _ ⟨rfl,rfl,rfl⟩
    refine inB_here ?_
    refine au 4 ?_
    obtain ⟨b8,h9,H⟩:=bind_s H
    refine TL.st rfl rfl rfl (o_ixs rfl rfl rfl rfl h9) ?_
    refine TL.st rfl rfl rfl (o_sliceIm (rows:=([b8] : List Int).map (c_int .u8)) rfl rfl tyS_5 ⟨_,rfl,rfl⟩ (by decide) rfl rfl rfl rfl rfl rfl) ?_
    obtain ⟨l10,h11,H⟩:=bind_s H
    refine TL.st rfl rfl rfl (o_ap (f:=c_int .u8) (xs:=l7) (ys:=([b8] : List Int)) rfl rfl tyE_5 rfl rfl rfl rfl (by decide) rfl (fun _=>rfl) h11) ?_
    refine au 7 ?_
    exact Pk.of (thn_normal ⟨(l10,(IntKind.i64.wrap (v2 + 1))),(some_i H).symm,rfl,rfl⟩)
  ·refine T.exit ?_
   refine thn_exit ?_
   exact Pk.of (thn_exit ⟨l1,(some_i H).symm,rfl,rfl,rfl⟩)
 ·rintro _ _ _ ⟨rfl,rfl,rfl⟩
  refine inB_here ?_
  refine au 3 ?_
  refine TL.st rfl rfl rfl (o_bsOwn (f:=c_int .u8) rfl rfl rfl rfl (fun _=>rfl) rfl rfl rfl) ?_
  refine au 3 ?_
  cases some_i H
  exact ⟨trivial,_,(.tmp _ _ _ _ rfl .nil),(.cl _ rfl)⟩
theorem en_171 : En Tryz.prog 171:=.of Tryz.func171 rfl rfl
noncomputable def spec_NameText_j1 (v4 : Int) (e7 : I_Part) (v9 : ByteArray) : Option ((ByteArray × Int) ⊕ ByteArray) :=
  (cat e7.Attr_ (ByteArray.mk #[61])).bind fun s10=>(spec_l3Escaped e7.Text_ (ByteArray.mk #[44,92])).bind fun r12=>(cat s10 r12).bind fun s14=>(cat v9 s14).bind fun s16=>some (.inl (s16,(IntKind.i64.wrap (v4 + 1))))
noncomputable def spec_NameText_l1 (a0 : (List I_Part)) : (ByteArray × Int) → Option ((ByteArray × Int) ⊕ ByteArray):=fun s=>match s with
  | (v3,v4)=>cond (decide (v4 < (a0.length : Int))) ((idx a0 v4).bind fun e7=>cond (decide (v4 > 0)) ((cat v3 (ByteArray.mk #[44])).bind fun s18=>spec_NameText_j1 v4 e7 s18) (spec_NameText_j1 v4 e7 v3)) (some (.inr v3))
noncomputable def spec_NameText (a0 : (List I_Part)) : Option ByteArray :=
  (spec_GoodDirName a0).bind fun r1=>cond (!r1) (some e0) ((loopO (spec_NameText_l1 a0) (e0,0)).bind fun v5=>(match v5 with | v5=>some v5))
end Go.G36.FT
