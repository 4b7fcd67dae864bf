import Derived.Test.YtnohlppnebcefaaGreatAB2
set_option linter.all false
set_option maxRecDepth 20000
set_option maxHeartbeats 4000000
namespace Go.G36.AB
open Go Go.Proofs
theorem spec_l1Cur_value_o (c0 : Bool) {s0 : T_spec_l1Cur} {R0 : T_impl_Value} {U0 : T_spec_l1Cur} (H : spec_l1Cur_value s0 = some (R0, U0)) : St Tryz.prog 38 [.bx 0 0] [.box (c_T_spec_l1Cur c0 s0)] (.agg ([.int .i64 R0.Kind_] ++ (c_T_impl_Atom false R0.Atom_) ++ [.hd 1 (R0.Items_.map (c_T_impl_Atom false)).length 0 (R0.Items_.map (c_T_impl_Atom false)).length, .hd 2 (R0.Names_.map (c_str)).length 0 (R0.Names_.map (c_str)).length])) [.box (c_T_spec_l1Cur c0 U0), .arr .clo 4 (R0.Items_.map (c_T_impl_Atom false)), .arr .clo 1 (R0.Names_.map (c_str))] := by
 refine CallT.finR (CallT.of_TN (n := 55) Tryz.func38 rfl rfl rfl rfl ?_) rfl rfl ⟨(bels_iff.1 rfl), ⟨trivial, ⟨trivial, trivial⟩⟩⟩
 refine T.conv Cs.pushDead ?_
 refine T.conv Cs.pushDead ?_
 refine T.conv (Cs.wkF (M := 3) (.k 0 rfl rfl .nil)) ?_
 refine T.conv (Cs.eqS (σ' := [.box (c_T_spec_l1Cur c0 s0), .dead, .dead]) rfl) ?_
 refine au 8 ?_
 obtain ⟨⟨r1, o2⟩, h3, H⟩ := bind_s H
 refine TL.st rfl rfl rfl (o_callS [0] rfl en_33 rfl rfl (spec_l1Cur_pick_p c0 h3) rfl (by decide) (.cons _ _ _ _ rfl .nil) rfl rfl rfl) ?_
 refine au 7 ?_
 refine T.cH H (fun H h => ?_) (fun H h => ?_)
 ·refine au 8 ?_
  obtain ⟨⟨r4, o5⟩, h6, H⟩ := bind_s H
  refine TL.st rfl rfl rfl (o_callS [0] rfl en_33 rfl rfl (spec_l1Cur_pick_p c0 h6) rfl (by decide) (.cons _ _ _ _ rfl .nil) rfl rfl rfl) ?_
  refine au 2 ?_
  refine T.conv (Cs.eqS (σ' := [.box (c_T_spec_l1Cur c0 o5), _, _, .box [.int .i64 0, .int .i64 0, .int .i64 0, .str e0, .str e0, .nilS, .nilS]]) rfl) ?_
  refine T.block ?_
  refine T.conv (Cs.own (t := 3) 4 rfl (by decide)) ?_
  obtain ⟨q20, h21, H⟩ := bind_s H
  refine T.lq (fun s => match s with | (b7, l8, v9) => [(0, .bx 0 0), (2, .bx 3 0), (3, .hd 4 (l8.map (c_T_impl_Atom false)).length 0 (l8.map (c_T_impl_Atom false)).length), (4, .int .i64 v9)]) (fun s => match s with | (b7, l8, v9) => [.box (c_T_spec_l1Cur c0 b7), .dead, .dead, .box [.int .i64 0, .int .i64 0, .int .i64 0, .str e0, .str e0, .nilS, .nilS], .arr .clo 4 (l8.map (c_T_impl_Atom false))]) (fun q ex fr σ => match q with | (b10, l11) => ex = .exit 1 ∧ fr = [(2, .bx 3 0), (3, .hd 4 (l11.map (c_T_impl_Atom false)).length 0 (l11.map (c_T_impl_Atom false)).length)] ∧ σ = [.box (c_T_spec_l1Cur c0 b10), .dead, .dead, .box [.int .i64 0, .int .i64 0, .int .i64 0, .str e0, .str e0, .nilS, .nilS], .arr .clo 4 (l11.map (c_T_impl_Atom false))]) h21 ?_ ?_
  ·rintro ⟨b7, l8, v9⟩ y14 H
   refine au 6 ?_
   refine T.cH H (fun H h => ?_) (fun H h => ?_)
   ·refine au 6 ?_
    obtain ⟨⟨r15, o16⟩, h17, H⟩ := bind_s H
    refine TL.st rfl rfl rfl (o_callS [0] rfl en_14 rfl rfl (spec_l1Cur_atom_p c0 h17) rfl (by decide) (.cons _ _ _ _ rfl .nil) rfl rfl rfl) ?_
    refine TL.st rfl rfl rfl (o_sliceIm (rows := ([r15] : List T_impl_Atom).map (c_T_impl_Atom false)) rfl rfl tyS_25 ⟨_, rfl, rfl⟩ (by decide) rfl rfl rfl rfl rfl rfl) ?_
    obtain ⟨l18, h19, H⟩ := bind_s H
    refine TL.st rfl rfl rfl (o_ap (f := c_T_impl_Atom false) (xs := l8) (ys := ([r15] : List T_impl_Atom)) rfl rfl tyE_25 rfl rfl rfl rfl (by decide) rfl (fun _ => rfl) h19) ?_
    refine au 7 ?_
    exact Pk.of (thn_normal ⟨(o16, l18, (IntKind.i64.wrap (v9 - 1))), (some_i H).symm, rfl, rfl⟩)
   ·refine T.exit ?_
    refine thn_exit ?_
    exact Pk.of (thn_exit ⟨(b7, l8), (some_i H).symm, rfl, rfl, rfl⟩)
  ·rcases q20 with ⟨b10, l11⟩
   rintro _ _ _ ⟨rfl, rfl, rfl⟩
   refine inB_here ?_
   refine au 3 ?_
   obtain ⟨r12, h13, H⟩ := bind_s H
   refine TL.st rfl rfl rfl (o_callOwn rfl en_53 rfl rfl (.cons _ _ _ _ (.own rfl (by decide) rfl) .nil) (spec_l1Sorted_o true h13)) ?_
   refine TL.st rfl rfl rfl (o_build rfl ⟨_, fun _ => rfl, rfl⟩ rfl (sureP rfl (sureP (sure_hd rfl rfl rfl) rfl)) rfl) ?_
   refine TL.sn rfl rfl (o_storeBx rfl tyS_83 rfl rfl rfl rfl (nb rfl) (sure_c rfl (sure_c rfl (sure_c rfl (sure_c rfl (sure_c rfl (sure_hd rfl rfl (sure_c rfl rfl)))))))) ?_
   refine TL.nil ?_
   refine T.conv (Cs.ownCell (p := 3) 6 1 rfl rfl (by decide)) ?_
   refine T.conv (Cs.wkF (M := 7) (.k 2 rfl rfl .nil)) ?_
   refine T.conv (Cs.reloc 1 5 rfl rfl (by decide) rfl rfl rfl (nomS_get rfl)) ?_
   refine T.conv (Cs.wkF (M := 7) (.k 2 rfl rfl .nil)) ?_
   refine T.conv (Cs.eqS (σ' := [_, .arr .clo 4 (r12.map (c_T_impl_Atom false)), _, .box (k_impl_Value 1 6 false (⟨2, (⟨0, 0, e0, e0⟩ : T_impl_Atom), r12, ([] : List ByteArray)⟩ : T_impl_Value)), _, .dead, .arr .clo 1 (([] : List ByteArray).map (c_str))]) rfl) ?_
   refine T.conv (Cs.reloc 2 6 rfl rfl (by decide) rfl rfl rfl (nomS_get rfl)) ?_
   refine T.conv (Cs.wkF (M := 7) (.k 2 rfl rfl .nil)) ?_
   refine T.conv (Cs.eqS (σ' := [_, _, .arr .clo 1 (([] : List ByteArray).map (c_str)), .box (k_impl_Value 1 2 false (⟨2, (⟨0, 0, e0, e0⟩ : T_impl_Atom), r12, ([] : List ByteArray)⟩ : T_impl_Value)), _, _, .dead]) rfl) ?_
   refine T.ret ?_
   refine inB_ret (thn_ret ?_)
   cases some_i H
   exact ⟨trivial, _, (.cell _ _ _ _ _ _ _ _ _ _ rfl rfl tyS_83 (nb rfl) rfl .nil), ⟨rfl, _, rfl⟩⟩
 ·refine au 5 ?_
  refine T.cH H (fun H h => ?_) (fun H h => ?_)
  ·refine au 8 ?_
   refine T.conv (Cs.eqS (σ' := [.box (c_T_spec_l1Cur c0 o2), _, _, .box [.int .i64 0, .int .i64 0, .int .i64 0, .str e0, .str e0, .nilS, .nilS], .box [.int .i64 3, .int .i64 0, .int .i64 0, .str e0, .str e0, .nilS, .nilS]]) rfl) ?_
   refine T.region ?_
   refine TL.st rfl rfl rfl (o_sliceIm (rows := ([(ByteArray.mk #[65]), (ByteArray.mk #[95, 98]), (ByteArray.mk #[97, 103, 101]), (ByteArray.mk #[100, 101, 112, 116]), (ByteArray.mk #[122, 111, 110, 101])] : List ByteArray).map (c_str)) rfl rfl tyS_9 ⟨_, rfl, rfl⟩ (by decide) rfl rfl rfl rfl rfl rfl) ?_
   refine TL.st rfl rfl rfl (o_lenL (f := c_str) rfl rfl rfl) ?_
   refine au 3 ?_
   refine T.conv (Cs.ownCell (p := 4) 5 4 rfl rfl (by decide)) (T.conv (Cs.ownCell (p := 4) 6 1 rfl rfl (by decide)) ?_)
   obtain ⟨q40, h41, H⟩ := bind_s H
   refine T.lq (fun s => match s with | (b22, b23, v24) => [(0, .bx 0 0), (2, .bx 3 0), (5, .bx 4 0), (29, .im false (([(ByteArray.mk #[65]), (ByteArray.mk #[95, 98]), (ByteArray.mk #[97, 103, 101]), (ByteArray.mk #[100, 101, 112, 116]), (ByteArray.mk #[122, 111, 110, 101])] : List ByteArray).map (c_str))), (30, .int .i64 (([(ByteArray.mk #[65]), (ByteArray.mk #[95, 98]), (ByteArray.mk #[97, 103, 101]), (ByteArray.mk #[100, 101, 112, 116]), (ByteArray.mk #[122, 111, 110, 101])] : List ByteArray).length : Int)), (31, .int .i64 v24)]) (fun s => match s with | (b22, b23, v24) => [.box (c_T_spec_l1Cur c0 b22), .dead, .dead, .box [.int .i64 0, .int .i64 0, .int .i64 0, .str e0, .str e0, .nilS, .nilS], .box (k_impl_Value 5 6 false b23), .arr .clo 4 (b23.Items_.map (c_T_impl_Atom false)), .arr .clo 1 (b23.Names_.map (c_str))]) (fun q ex fr σ => match q with | (b25, b26) => ex = .exit 3 ∧ fr = [(2, .bx 3 0), (5, .bx 4 0)] ∧ σ = [.box (c_T_spec_l1Cur c0 b25), .dead, .dead, .box [.int .i64 0, .int .i64 0, .int .i64 0, .str e0, .str e0, .nilS, .nilS], .box (k_impl_Value 5 6 false b26), .arr .clo 4 (b26.Items_.map (c_T_impl_Atom false)), .arr .clo 1 (b26.Names_.map (c_str))]) h41 ?_ ?_
   ·rintro ⟨b22, b23, v24⟩ y27 H
    refine au 5 ?_
    refine T.cH H (fun H h => ?_) (fun H h => ?_)
    ·refine au 5 ?_
     obtain ⟨e28, h29, H⟩ := bind_s H
     refine TL.st rfl rfl rfl (o_ix (f := c_str) rfl rfl tyS_9 rfl rfl h29 rfl) ?_
     refine au 6 ?_
     obtain ⟨⟨r30, o31⟩, h32, H⟩ := bind_s H
     refine TL.st rfl rfl rfl (o_callS [0] rfl en_13 rfl rfl (spec_l1Cur_one_p c0 h32) rfl (by decide) (.cons _ _ _ _ rfl .nil) rfl rfl rfl) ?_
     refine TL.nil ?_
     refine T.cH H (fun H h => ?_) (fun H h => ?_)
     ·refine au 5 ?_
      refine TL.st rfl rfl rfl (o_sliceIm (rows := ([e28] : List ByteArray).map (c_str)) rfl rfl tyS_9 ⟨_, rfl, rfl⟩ (by decide) rfl rfl rfl rfl rfl rfl) ?_
      obtain ⟨l33, h34, H⟩ := bind_s H
      refine TL.st rfl rfl rfl (o_ap (f := c_str) (xs := b23.Names_) (ys := ([e28] : List ByteArray)) rfl rfl tyE_9 rfl rfl rfl rfl (by decide) rfl (fun _ => rfl) h34) ?_
      refine TL.st rfl rfl rfl (o_fieldAddr rfl rfl rfl tyS_40 (by decide) rfl rfl ⟨_, rfl, Nat.le_of_ble_eq_true rfl⟩) ?_
      refine TL.sn rfl rfl (o_storeBx rfl tyS_40 rfl rfl rfl rfl (nb rfl) (sure_hd rfl rfl rfl)) ?_
      refine TL.nil ?_
      refine T.conv (Cs.eqS (σ' := [.box (c_T_spec_l1Cur c0 o31), _, _, _, .box (k_impl_Value 5 6 false ({ b23 with Names_ := l33 } : T_impl_Value)), _, .arr .clo 1 (l33.map (c_str))]) rfl) ?_
      obtain ⟨⟨r35, o36⟩, h37, H⟩ := bind_s H
      obtain ⟨l38, h39, H⟩ := bind_s H
      refine T.drawS (fr' := [(0, .bx 0 0), (2, .bx 3 0), (5, .bx 4 0), (7, .str e28), (29, .im false (([(ByteArray.mk #[65]), (ByteArray.mk #[95, 98]), (ByteArray.mk #[97, 103, 101]), (ByteArray.mk #[100, 101, 112, 116]), (ByteArray.mk #[122, 111, 110, 101])] : List ByteArray).map (c_str))), (30, .int .i64 (([(ByteArray.mk #[65]), (ByteArray.mk #[95, 98]), (ByteArray.mk #[97, 103, 101]), (ByteArray.mk #[100, 101, 112, 116]), (ByteArray.mk #[122, 111, 110, 101])] : List ByteArray).length : Int)), (31, .int .i64 v24), (32, .bool (decide (v24 < (([(ByteArray.mk #[65]), (ByteArray.mk #[95, 98]), (ByteArray.mk #[97, 103, 101]), (ByteArray.mk #[100, 101, 112, 116]), (ByteArray.mk #[122, 111, 110, 101])] : List ByteArray).length : Int)))), (34, .str e28), (35, .bx 0 0), (36, .bool r30), (37, .bx 4 6), (38, .hd 6 (b23.Names_.map (c_str)).length 0 (b23.Names_.map (c_str)).length), (39, .str e28), (40, .im false (([e28] : List ByteArray).map (c_str))), (41, .hd 6 (l33.map (c_str)).length 0 (l33.map (c_str)).length), (42, .bx 4 6), (43, .bx 4 5), (44, .hd 5 (b23.Items_.map (c_T_impl_Atom false)).length 0 (b23.Items_.map (c_T_impl_Atom false)).length), (45, .bx 0 0), (46, .agg (c_T_impl_Atom false r35)), (47, .im false (([r35] : List T_impl_Atom).map (c_T_impl_Atom false))), (48, .hd 5 (l38.map (c_T_impl_Atom false)).length 0 (l38.map (c_T_impl_Atom false)).length), (49, .bx 4 5)]) (R := [⟨some 43, .bx 4 5, .q, []⟩, ⟨some 44, .hd 5 (b23.Items_.map (c_T_impl_Atom false)).length 0 (b23.Items_.map (c_T_impl_Atom false)).length, .q, []⟩, ⟨some 45, .bx 0 0, .q, []⟩, ⟨some 46, .agg (c_T_impl_Atom false r35), .q, []⟩, ⟨some 47, .im false (([r35] : List T_impl_Atom).map (c_T_impl_Atom false)), .q, []⟩, ⟨some 48, .hd 5 (l38.map (c_T_impl_Atom false)).length 0 (l38.map (c_T_impl_Atom false)).length, .q, []⟩, ⟨some 49, .bx 4 5, .q, []⟩, ⟨none, .any, .q, []⟩]) (fun b => cond (b 3) (cond (b 5) (cond (b 7) ([.box (c_T_spec_l1Cur c0 o36), .dead, .dead, .box [.int .i64 0, .int .i64 0, .int .i64 0, .str e0, .str e0, .nilS, .nilS], .box (k_impl_Value 5 6 false (⟨b23.Kind_, b23.Atom_, l38, l33⟩ : T_impl_Value)), .arr .clo 4 (l38.map (c_T_impl_Atom false)), .arr .clo 1 (l33.map (c_str))]) ([.box (c_T_spec_l1Cur c0 o36), .dead, .dead, .box [.int .i64 0, .int .i64 0, .int .i64 0, .str e0, .str e0, .nilS, .nilS], .box (k_impl_Value 5 6 false ({ b23 with Names_ := l33 } : T_impl_Value)), .arr .clo 4 (l38.map (c_T_impl_Atom false)), .arr .clo 1 (l33.map (c_str))])) ([.box (c_T_spec_l1Cur c0 o36), .dead, .dead, .box [.int .i64 0, .int .i64 0, .int .i64 0, .str e0, .str e0, .nilS, .nilS], .box (k_impl_Value 5 6 false ({ b23 with Names_ := l33 } : T_impl_Value)), .arr .clo 4 (b23.Items_.map (c_T_impl_Atom false)), .arr .clo 1 (l33.map (c_str))])) ([.box (c_T_spec_l1Cur c0 o31), .dead, .dead, .box [.int .i64 0, .int .i64 0, .int .i64 0, .str e0, .str e0, .nilS, .nilS], .box (k_impl_Value 5 6 false ({ b23 with Names_ := l33 } : T_impl_Value)), .arr .clo 4 (b23.Items_.map (c_T_impl_Atom false)), .arr .clo 1 (l33.map (c_str))])) rfl ?_ ?_ rfl rfl (FrL.get (.cons rfl (.cons rfl (.cons rfl (.cons rfl (.cons rfl (.cons rfl (.cons rfl (.cons rfl (.cons rfl (.cons rfl (.cons rfl (.cons rfl (.cons rfl (.cons rfl (.cons rfl (.cons rfl (.cons rfl (.cons rfl (.cons rfl (.cons rfl (.cons rfl (.cons rfl (.cons rfl (.cons rfl .nil))))))))))))))))))))))))) ?_
      ·refine .cons _ _ _ _ _ ⟨rfl, [(5, .bx 4 0)], AllN.get rfl (.cons rfl .nil), fun b hd hn hk hc => ?_⟩ ?_
       ·cases e3 : b 3
        ·exact ops_at (cdf e3) rfl (o_fieldAddr rfl rfl rfl tyS_28 (by decide) rfl rfl ⟨_, rfl, Nat.le_of_ble_eq_true rfl⟩) (cdf ((updb_ne rfl).trans e3)) rfl
        ·exact ops_at ((cdt e3).trans (cdf (hn 5 rfl))) rfl (o_fieldAddr rfl rfl rfl tyS_28 (by decide) rfl rfl ⟨_, rfl, Nat.le_of_ble_eq_true rfl⟩) ((cdt ((updb_ne rfl).trans e3)).trans (cdf ((updb_ne rfl).trans (hn 5 rfl)))) rfl
       refine .cons _ _ _ _ _ ⟨rfl, [(43, .bx 4 5)], AllN.get rfl (.cons rfl .nil), fun b hd hn hk hc => ?_⟩ ?_
       ·cases e3 : b 3
        ·exact ops_at (cdf e3) rfl (o_loadBx rfl tyS_28 rfl rfl (nb rfl) rfl) (cdf ((updb_ne rfl).trans e3)) rfl
        ·exact ops_at ((cdt e3).trans (cdf (hn 5 rfl))) rfl (o_loadBx rfl tyS_28 rfl rfl (nb rfl) rfl) ((cdt ((updb_ne rfl).trans e3)).trans (cdf ((updb_ne rfl).trans (hn 5 rfl)))) rfl
       refine .cons _ _ _ _ _ ⟨rfl, [(0, .bx 0 0)], AllN.get rfl (.cons rfl .nil), fun b hd hn hk hc => ?_⟩ ?_
       ·exact ops_at (cdf (hn 3 rfl)) rfl (o_move rfl rfl) (cdf ((updb_ne rfl).trans (hn 3 rfl))) rfl
       refine .cons _ _ _ _ _ ⟨rfl, [(45, .bx 0 0)], AllN.get rfl (.cons rfl .nil), fun b hd hn hk hc => ?_⟩ ?_
       ·exact ops_at (cdf hk) rfl (o_callS [0] rfl en_14 rfl rfl (spec_l1Cur_atom_p c0 h37) rfl (by decide) (.cons _ _ _ _ rfl .nil) rfl rfl rfl) (((cdt updb_self).trans (cdf ((updb_ne rfl).trans (hn 5 rfl)))).trans rfl) rfl
       refine .cons _ _ _ _ _ ⟨rfl, [(46, .agg (c_T_impl_Atom false r35))], AllN.get rfl (.cons rfl .nil), fun b hd hn hk hc => ?_⟩ ?_
       ·exact ops_at ((cdt (hd 3 rfl)).trans (cdf (hn 5 rfl))) rfl (o_sliceIm (rows := ([r35] : List T_impl_Atom).map (c_T_impl_Atom false)) rfl rfl tyS_25 ⟨_, rfl, rfl⟩ (by decide) rfl rfl rfl rfl rfl rfl) ((cdt ((updb_ne rfl).trans (hd 3 rfl))).trans (cdf ((updb_ne rfl).trans (hn 5 rfl)))) rfl
       refine .cons _ _ _ _ _ ⟨rfl, [(44, .hd 5 (b23.Items_.map (c_T_impl_Atom false)).length 0 (b23.Items_.map (c_T_impl_Atom false)).length), (47, .im false (([r35] : List T_impl_Atom).map (c_T_impl_Atom false)))], AllN.get rfl (.cons rfl (.cons rfl .nil)), fun b hd hn hk hc => ?_⟩ ?_
       ·exact ops_at ((cdt (hd 3 rfl)).trans (cdf hk)) rfl (o_ap (f := c_T_impl_Atom false) (xs := b23.Items_) (ys := ([r35] : List T_impl_Atom)) rfl rfl tyE_25 rfl rfl rfl rfl (by decide) rfl (fun _ => rfl) h39) ((((cdt ((updb_ne rfl).trans (hd 3 rfl))).trans (cdt updb_self)).trans (cdf ((updb_ne rfl).trans (hn 7 rfl)))).trans rfl) rfl
       refine .cons _ _ _ _ _ ⟨rfl, [(5, .bx 4 0)], AllN.get rfl (.cons rfl .nil), fun b hd hn hk hc => ?_⟩ ?_
       ·exact ops_at (((cdt (hd 3 rfl)).trans (cdt (hd 5 rfl))).trans (cdf (hn 7 rfl))) rfl (o_fieldAddr rfl rfl rfl tyS_28 (by decide) rfl rfl ⟨_, rfl, Nat.le_of_ble_eq_true rfl⟩) (((cdt ((updb_ne rfl).trans (hd 3 rfl))).trans (cdt ((updb_ne rfl).trans (hd 5 rfl)))).trans (cdf ((updb_ne rfl).trans (hn 7 rfl)))) rfl
       refine .cons _ _ _ _ _ ⟨rfl, [(48, .hd 5 (l38.map (c_T_impl_Atom false)).length 0 (l38.map (c_T_impl_Atom false)).length), (49, .bx 4 5)], AllN.get rfl (.cons rfl (.cons rfl .nil)), fun b hd hn hk hc => ?_⟩ ?_
       ·exact ops_at (((cdt (hd 3 rfl)).trans (cdt (hd 5 rfl))).trans (cdf hk)) rfl (o_storeBx rfl tyS_28 rfl rfl rfl rfl (nb rfl) (sure_hd rfl rfl rfl)) ((((cdt ((updb_ne rfl).trans (hd 3 rfl))).trans (cdt ((updb_ne rfl).trans (hd 5 rfl)))).trans (cdt updb_self)).trans rfl) rfl
       exact .nil _
      ·intro b b' h; simp only [h 3 (by decide), h 5 (by decide), h 7 (by decide)]
      refine inB_normal (thn_normal ?_)
      refine T.conv (Cs.eqS (σ' := [.box (c_T_spec_l1Cur c0 o36), _, _, _, .box (k_impl_Value 5 6 false (⟨b23.Kind_, b23.Atom_, l38, l33⟩ : T_impl_Value)), .arr .clo 4 (l38.map (c_T_impl_Atom false)), _]) rfl) ?_
      refine au 4 ?_
      exact Pk.of (thn_normal ⟨(o36, (⟨b23.Kind_, b23.Atom_, l38, l33⟩ : T_impl_Value), (IntKind.i64.wrap (v24 + 1))), (some_i H).symm, rfl, rfl⟩)
     ·refine au 5 ?_
      exact Pk.of (thn_normal ⟨(o31, b23, (IntKind.i64.wrap (v24 + 1))), (some_i H).symm, rfl, rfl⟩)
    ·refine T.exit ?_
     refine thn_exit ?_
     exact Pk.of (thn_exit ⟨(b22, b23), (some_i H).symm, rfl, rfl, rfl⟩)
   ·rcases q40 with ⟨b25, b26⟩
    rintro _ _ _ ⟨rfl, rfl, rfl⟩
    refine inB_here ?_
    refine au 3 ?_
    refine TL.sn rfl rfl (o_storeBx rfl tyS_83 rfl rfl rfl rfl (nb rfl) (sure_c rfl (sure_c rfl (sure_c rfl (sure_c rfl (sure_c rfl (sure_hd rfl rfl (sure_hd rfl rfl rfl)))))))) ?_
    refine TL.nil ?_
    refine T.conv (Cs.wkF (M := 7) (.k 2 rfl rfl .nil)) ?_
    refine T.conv (Cs.reloc 1 5 rfl rfl (by decide) rfl rfl rfl (nomS_get rfl)) ?_
    refine T.conv (Cs.wkF (M := 7) (.k 2 rfl rfl .nil)) ?_
    refine T.conv (Cs.eqS (σ' := [_, .arr .clo 4 (b26.Items_.map (c_T_impl_Atom false)), _, .box (k_impl_Value 1 6 false b26), .box (k_impl_Value 1 6 false b26), .dead, _]) rfl) ?_
    refine T.conv (Cs.reloc 2 6 rfl rfl (by decide) rfl rfl rfl (nomS_get rfl)) ?_
    refine T.conv (Cs.wkF (M := 7) (.k 2 rfl rfl .nil)) ?_
    refine T.conv (Cs.eqS (σ' := [_, _, .arr .clo 1 (b26.Names_.map (c_str)), .box (k_impl_Value 1 2 false b26), .box (k_impl_Value 1 2 false b26), _, .dead]) rfl) ?_
    refine T.ret ?_
    refine inB_ret (thn_ret ?_)
    cases some_i H
    exact ⟨trivial, _, (.cell _ _ _ _ _ _ _ _ _ _ rfl rfl tyS_83 (nb rfl) rfl .nil), ⟨rfl, _, rfl⟩⟩
  ·refine au 4 ?_
   obtain ⟨⟨r42, o43⟩, h44, H⟩ := bind_s H
   refine TL.st rfl rfl rfl (o_callS [0] rfl en_14 rfl rfl (spec_l1Cur_atom_p c0 h44) rfl (by decide) (.cons _ _ _ _ rfl .nil) rfl rfl rfl) ?_
   refine au 3 ?_
   refine T.conv (Cs.eqS (σ' := [.box (c_T_spec_l1Cur c0 o43), _, _, .box ([.int .i64 1] ++ (c_T_impl_Atom false r42) ++ [.nilS, .nilS])]) rfl) ?_
   refine T.conv (Cs.ownCell (p := 3) 5 4 rfl rfl (by decide)) (T.conv (Cs.ownCell (p := 3) 6 1 rfl rfl (by decide)) ?_)
   refine T.conv (Cs.wkF (M := 6) (.k 2 rfl rfl .nil)) ?_
   refine T.conv (Cs.reloc 1 4 rfl rfl (by decide) rfl rfl rfl (nomS_get rfl)) ?_
   refine T.conv (Cs.wkF (M := 6) (.k 2 rfl rfl .nil)) ?_
   refine T.conv (Cs.eqS (σ' := [_, .arr .clo 4 (([] : List T_impl_Atom).map (c_T_impl_Atom false)), _, .box (k_impl_Value 1 5 false (⟨1, r42, ([] : List T_impl_Atom), ([] : List ByteArray)⟩ : T_impl_Value)), .dead, .arr .clo 1 (([] : List ByteArray).map (c_str))]) rfl) ?_
   refine T.conv (Cs.reloc 2 5 rfl rfl (by decide) rfl rfl rfl (nomS_get rfl)) ?_
   refine T.conv (Cs.wkF (M := 6) (.k 2 rfl rfl .nil)) ?_
   refine T.conv (Cs.eqS (σ' := [_, _, .arr .clo 1 (([] : List ByteArray).map (c_str)), .box (k_impl_Value 1 2 false (⟨1, r42, ([] : List T_impl_Atom), ([] : List ByteArray)⟩ : T_impl_Value)), _, .dead]) rfl) ?_
   refine T.ret ?_
   cases some_i H
   exact ⟨trivial, _, (.cell _ _ _ _ _ _ _ _ _ _ rfl rfl tyS_83 (nb rfl) rfl .nil), ⟨rfl, _, rfl⟩⟩
noncomputable def spec_l1Cur_oddValuex_l1 (r23 : Int) : T_impl_Value → Option (T_impl_Value ⊕ T_impl_Value) := fun s => match s with
  | b26 => cond ((b26.Kind_ == 2) && decide ((b26.Items_.length : Int) < (IntKind.i64.wrap (49 + r23)))) ((app b26.Items_ ([(⟨7, (IntKind.i64.wrap (2000 + (b26.Items_.length : Int))), e0, e0⟩ : T_impl_Atom)] : List T_impl_Atom)).bind fun l29 => some (.inl ({ b26 with Items_ := l29 } : T_impl_Value))) (some (.inr b26))
noncomputable def spec_l1Cur_oddValuex (a0 : T_impl_Value) (s0 : T_spec_l1Cur) : Option (T_impl_Value × T_spec_l1Cur) :=
  (spec_l1Cur_pick 12 s0).bind fun q => (match q with | (r1, o2) => cond (r1 == 0) ((spec_l1Cur_pick 5 o2).bind fun q => (match q with | (r4, o5) => some (({ a0 with Kind_ := r4 } : T_impl_Value), o5))) (cond (r1 == 1) ((spec_l1Cur_oddAtom a0.Atom_ o2).bind fun q => (match q with | (r7, o8) => some (({ a0 with Atom_ := r7 } : T_impl_Value), o8))) (cond (r1 == 2) (cond (decide ((a0.Items_.length : Int) > 1)) ((idx a0.Items_ 0).bind fun e10 => (idx a0.Items_ 1).bind fun e12 => (idx a0.Items_ 0).bind fun e14 => (idx (a0.Items_.set (Int.toNat 0) e12) 1).bind fun e16 => some (({ a0 with Items_ := ((a0.Items_.set (Int.toNat 0) e12).set (Int.toNat 1) e10) } : T_impl_Value), o2)) (some (a0, o2))) (cond (r1 == 3) (cond (decide ((a0.Names_.length : Int) > 0)) ((spec_l1Cur_of ([e0, (ByteArray.mk #[122, 122]), (ByteArray.mk #[49])] : List ByteArray) o2).bind fun q => (match q with | (r18, o19) => (idx a0.Names_ 0).bind fun e21 => some (({ a0 with Names_ := (a0.Names_.set (Int.toNat 0) r18) } : T_impl_Value), o19))) (some (a0, o2))) (cond (r1 == 4) ((spec_l1Cur_pick 3 o2).bind fun q => (match q with | (r23, o24) => (loopO (spec_l1Cur_oddValuex_l1 r23) a0).bind fun b27 => (match b27 with | b27 => some (b27, o24)))) (some (a0, o2)))))))
theorem spec_l1Cur_oddValuex_o (c0 : Bool) {a0 : T_impl_Value} {s0 : T_spec_l1Cur} {R0 : T_impl_Value} {U0 : T_spec_l1Cur} (H : spec_l1Cur_oddValuex a0 s0 = some (R0, U0)) : St Tryz.prog 37 [.bx 0 0, .agg ([.int .i64 a0.Kind_] ++ (c_T_impl_Atom false a0.Atom_) ++ [.hd 1 (a0.Items_.map (c_T_impl_Atom false)).length 0 (a0.Items_.map (c_T_impl_Atom false)).length, .hd 2 (a0.Names_.map (c_str)).length 0 (a0.Names_.map (c_str)).length])] [.box (c_T_spec_l1Cur c0 s0), .arr .clo 4 (a0.Items_.map (c_T_impl_Atom false)), .arr .clo 1 (a0.Names_.map (c_str))] (.agg ([.int .i64 R0.Kind_] ++ (c_T_impl_Atom false R0.Atom_) ++ [.hd 5 (R0.Items_.map (c_T_impl_Atom false)).length 0 (R0.Items_.map (c_T_impl_Atom false)).length, .hd 6 (R0.Names_.map (c_str)).length 0 (R0.Names_.map (c_str)).length])) [.box (c_T_spec_l1Cur c0 U0), .dead, .dead, .dead, .dead, .arr .clo 4 (R0.Items_.map (c_T_impl_Atom false)), .arr .clo 1 (R0.Names_.map (c_str))] := by
 refine CallT.finR (CallT.of_TN (n := 80) Tryz.func37 rfl rfl rfl rfl ?_) rfl rfl ⟨(bels_iff.1 rfl), ⟨trivial, ⟨trivial, ⟨trivial, ⟨trivial, ⟨trivial, ⟨trivial, trivial⟩⟩⟩⟩⟩⟩⟩
 refine T.conv (Cs.fresh 1 rfl rfl (by decide) rfl (nomS_all rfl rfl)) ?_
 refine T.conv (Cs.fresh 2 rfl rfl (by decide) rfl (nomS_all rfl rfl)) ?_
 refine T.conv Cs.pushDead ?_
 refine T.conv Cs.pushDead ?_
 refine T.conv (Cs.wkF (M := 7) (.k 0 rfl rfl (.k 1 rfl rfl .nil))) ?_
 refine T.conv (Cs.eqS (σ' := [.box (c_T_spec_l1Cur c0 s0), .dead, .dead, .arr .clo 4 (a0.Items_.map (c_T_impl_Atom false)), .arr .clo 1 (a0.Names_.map (c_str)), .dead, .dead]) rfl) ?_
 refine au 2 ?_
 refine TL.st rfl rfl rfl (o_box rfl rfl (sure_c rfl (sure_c rfl (sure_c rfl (sure_c rfl (sure_c rfl (sure_hd rfl rfl (sure_hd rfl rfl rfl)))))))) ?_
 refine au 6 ?_
 obtain ⟨⟨r1, o2⟩, h3, H⟩ := bind_s H
 refine TL.st rfl rfl rfl (o_callS [0] rfl en_33 rfl rfl (spec_l1Cur_pick_p c0 h3) rfl (by decide) (.cons _ _ _ _ rfl .nil) rfl rfl rfl) ?_
 refine TL.nil ?_
 refine T.conv (Cs.eqS (σ' := [.box (c_T_spec_l1Cur c0 o2), _, _, _, _, _, _, .box (k_impl_Value 3 4 false a0), .box [.int .i64 0, .int .i64 0, .int .i64 0, .str e0, .str e0, .nilS, .nilS]]) rfl) ?_
 refine au 6 ?_
 refine T.cH H (fun H h => ?_) (fun H h => ?_)
 ·refine au 2 ?_
  obtain ⟨⟨r4, o5⟩, h6, H⟩ := bind_s H
  refine TL.st rfl rfl rfl (o_callS [0] rfl en_33 rfl rfl (spec_l1Cur_pick_p c0 h6) rfl (by decide) (.cons _ _ _ _ rfl .nil) rfl rfl rfl) ?_
  refine au 6 ?_
  refine TL.sn rfl rfl (o_storeBx rfl tyS_83 rfl rfl rfl rfl (nb rfl) (sure_c rfl (sure_c rfl (sure_c rfl (sure_c rfl (sure_c rfl (sure_hd rfl rfl (sure_hd rfl rfl rfl)))))))) ?_
  refine TL.nil ?_
  refine T.conv (Cs.eqS (σ' := [.box (c_T_spec_l1Cur c0 o5), _, _, _, _, _, _, .box (k_impl_Value 3 4 false ({ a0 with Kind_ := r4 } : T_impl_Value)), .box (k_impl_Value 3 4 false ({ a0 with Kind_ := r4 } : T_impl_Value))]) rfl) ?_
  refine T.conv (Cs.wkF (M := 9) (.k 4 rfl rfl .nil)) ?_
  refine T.conv (Cs.reloc 5 3 rfl rfl (by decide) rfl rfl rfl (nomS_get rfl)) ?_
  refine T.conv (Cs.wkF (M := 9) (.k 4 rfl rfl .nil)) ?_
  refine T.conv (Cs.eqS (σ' := [_, _, _, .dead, _, .arr .clo 4 (a0.Items_.map (c_T_impl_Atom false)), _, .box (k_impl_Value 5 4 false ({ a0 with Kind_ := r4 } : T_impl_Value)), .box (k_impl_Value 5 4 false ({ a0 with Kind_ := r4 } : T_impl_Value))]) rfl) ?_
  refine T.conv (Cs.reloc 6 4 rfl rfl (by decide) rfl rfl rfl (nomS_get rfl)) ?_
  refine T.conv (Cs.wkF (M := 9) (.k 4 rfl rfl .nil)) ?_
  refine T.conv (Cs.eqS (σ' := [_, _, _, _, .dead, _, .arr .clo 1 (a0.Names_.map (c_str)), .box (k_impl_Value 5 6 false ({ a0 with Kind_ := r4 } : T_impl_Value)), .box (k_impl_Value 5 6 false ({ a0 with Kind_ := r4 } : T_impl_Value))]) rfl) ?_
  refine T.ret ?_
  cases some_i H
  exact ⟨trivial, _, (.cell _ _ _ _ _ _ _ _ _ _ rfl rfl tyS_83 (nb rfl) rfl .nil), ⟨rfl, _, rfl⟩⟩
 ·refine au 5 ?_
  refine T.cH H (fun H h => ?_) (fun H h => ?_)
  ·refine au 4 ?_
   obtain ⟨⟨r7, o8⟩, h9, H⟩ := bind_s H
   refine TL.st rfl rfl rfl (o_callS [0] rfl en_59 rfl rfl (spec_l1Cur_oddAtom_p c0 h9) rfl (by decide) (.cons _ _ _ _ rfl .nil) rfl rfl rfl) ?_
   refine au 6 ?_
   refine TL.sn rfl rfl (o_storeBx rfl tyS_83 rfl rfl rfl rfl (nb rfl) (sure_c rfl (sure_c rfl (sure_c rfl (sure_c rfl (sure_c rfl (sure_hd rfl rfl (sure_hd rfl rfl rfl)))))))) ?_
   refine TL.nil ?_
   refine T.conv (Cs.eqS (σ' := [.box (c_T_spec_l1Cur c0 o8), _, _, _, _, _, _, .box (k_impl_Value 3 4 false ({ a0 with Atom_ := r7 } : T_impl_Value)), .box (k_impl_Value 3 4 false ({ a0 with Atom_ := r7 } : T_impl_Value))]) rfl) ?_
   refine T.conv (Cs.wkF (M := 9) (.k 4 rfl rfl .nil)) ?_
   refine T.conv (Cs.reloc 5 3 rfl rfl (by decide) rfl rfl rfl (nomS_get rfl)) ?_
   refine T.conv (Cs.wkF (M := 9) (.k 4 rfl rfl .nil)) ?_
   refine T.conv (Cs.eqS (σ' := [_, _, _, .dead, _, .arr .clo 4 (a0.Items_.map (c_T_impl_Atom false)), _, .box (k_impl_Value 5 4 false ({ a0 with Atom_ := r7 } : T_impl_Value)), .box (k_impl_Value 5 4 false ({ a0 with Atom_ := r7 } : T_impl_Value))]) rfl) ?_
   refine T.conv (Cs.reloc 6 4 rfl rfl (by decide) rfl rfl rfl (nomS_get rfl)) ?_
   refine T.conv (Cs.wkF (M := 9) (.k 4 rfl rfl .nil)) ?_
   refine T.conv (Cs.eqS (σ' := [_, _, _, _, .dead, _, .arr .clo 1 (a0.Names_.map (c_str)), .box (k_impl_Value 5 6 false ({ a0 with Atom_ := r7 } : T_impl_Value)), .box (k_impl_Value 5 6 false ({ a0 with Atom_ := r7 } : T_impl_Value))]) rfl) ?_
   refine T.ret ?_
   cases some_i H
   exact ⟨trivial, _, (.cell _ _ _ _ _ _ _ _ _ _ rfl rfl tyS_83 (nb rfl) rfl .nil), ⟨rfl, _, rfl⟩⟩
  ·refine au 5 ?_
   refine T.cH H (fun H h => ?_) (fun H h => ?_)
   ·refine au 4 ?_
    refine TL.st rfl rfl rfl (o_lenOwn (f := c_T_impl_Atom false) rfl rfl rfl rfl rfl) ?_
    refine au 2 ?_
    refine T.cH H (fun H h => ?_) (fun H h => ?_)
    ·refine au 4 ?_
     obtain ⟨e10, h11, H⟩ := bind_s H
     refine TL.st rfl rfl rfl (o_ixh (f := c_T_impl_Atom false) rfl rfl tyS_25 rfl rfl rfl rfl h11 rfl) ?_
     refine TL.st rfl rfl rfl (o_loadEl rfl tyS_25 rfl rfl rfl (by rw [List.getElem?_map, (idx_s h11).2]; rfl) (nb rfl) rfl) ?_
     refine au 4 ?_
     refine T.drawn rfl ?_
     refine ad 4 ?_
     obtain ⟨e12, h13, H⟩ := bind_s H
     refine TD.rs rfl rfl (o_ixh (f := c_T_impl_Atom false) rfl rfl tyS_25 rfl rfl rfl rfl h13 rfl) ?_
     refine TD.rs rfl rfl (o_loadEl rfl tyS_25 rfl rfl rfl (by rw [List.getElem?_map, (idx_s h13).2]; rfl) (nb rfl) rfl) ?_
     obtain ⟨e14, h15, H⟩ := bind_s H
     refine TD.rs rfl rfl (o_ixh (f := c_T_impl_Atom false) rfl rfl tyS_25 rfl rfl rfl rfl h15 rfl) ?_
     refine TD.an rfl rfl (Does.to (o_stEl (f := c_T_impl_Atom false) (xs := a0.Items_) (k := 0) (a := e14) e12 rfl tyS_25 rfl rfl rfl rfl (by decide) h15 rfl rfl rfl (fun _ => rfl) rfl) (eqAtS (eqAtS (eqAtS (eqAtS (eqAtS (eqAtS (eqAtS (eqAtB (show (.box ([.int .i64 a0.Kind_] ++ (c_T_impl_Atom false a0.Atom_) ++ [.hd 3 (a0.Items_.map (c_T_impl_Atom false)).length 0 (a0.Items_.map (c_T_impl_Atom false)).length, .hd 4 (a0.Names_.map (c_str)).length 0 (a0.Names_.map (c_str)).length]) : AO) = .box ([.int .i64 a0.Kind_] ++ (c_T_impl_Atom false a0.Atom_) ++ [.hd 3 ((a0.Items_.set (Int.toNat 0) e12).map (c_T_impl_Atom false)).length 0 ((a0.Items_.set (Int.toNat 0) e12).map (c_T_impl_Atom false)).length, .hd 4 (a0.Names_.map (c_str)).length 0 (a0.Names_.map (c_str)).length]) by simp only [List.length_map, List.length_set]) rfl))))))))) ?_
     refine TD.nil ⟨rfl, ?_⟩
     refine thn_normal ?_
     refine T.conv (Cs.eqV (t := 24) (v' := .hd 3 ((a0.Items_.set (Int.toNat 0) e12).map (c_T_impl_Atom false)).length 0 ((a0.Items_.set (Int.toNat 0) e12).map (c_T_impl_Atom false)).length) rfl (hd_len _ (List.length_set ..))) ?_
     refine T.conv (Cs.eqV (t := 28) (v' := .hd 3 ((a0.Items_.set (Int.toNat 0) e12).map (c_T_impl_Atom false)).length 0 ((a0.Items_.set (Int.toNat 0) e12).map (c_T_impl_Atom false)).length) rfl (hd_len _ (List.length_set ..))) ?_
     refine T.conv (Cs.eqV (t := 29) (v' := .el 3 ((a0.Items_.set (Int.toNat 0) e12).map (c_T_impl_Atom false)).length (Int.toNat 0) 0) rfl (el_len _ _ _ (List.length_set ..))) ?_
     refine T.conv (Cs.eqV (t := 32) (v' := .hd 3 ((a0.Items_.set (Int.toNat 0) e12).map (c_T_impl_Atom false)).length 0 ((a0.Items_.set (Int.toNat 0) e12).map (c_T_impl_Atom false)).length) rfl (hd_len _ (List.length_set ..))) ?_
     refine T.conv (Cs.eqV (t := 34) (v' := .hd 3 ((a0.Items_.set (Int.toNat 0) e12).map (c_T_impl_Atom false)).length 0 ((a0.Items_.set (Int.toNat 0) e12).map (c_T_impl_Atom false)).length) rfl (hd_len _ (List.length_set ..))) ?_
     refine T.conv (Cs.eqV (t := 37) (v' := .el 3 ((a0.Items_.set (Int.toNat 0) e12).map (c_T_impl_Atom false)).length (Int.toNat 0) 0) rfl (el_len _ _ _ (List.length_set ..))) ?_
     refine T.conv (Cs.eqS (σ' := [_, _, _, .arr .clo 4 ((a0.Items_.set (Int.toNat 0) e12).map (c_T_impl_Atom false)), _, _, _, .box (k_impl_Value 3 4 false ({ a0 with Items_ := (a0.Items_.set (Int.toNat 0) e12) } : T_impl_Value)), _, .box (c_T_impl_Atom false e10)]) rfl) ?_
     refine au 4 ?_
     obtain ⟨e16, h17, H⟩ := bind_s H
     refine TL.st rfl rfl rfl (o_ixh (f := c_T_impl_Atom false) rfl rfl tyS_25 rfl rfl rfl rfl h17 rfl) ?_
     refine TL.sn rfl rfl (o_stEl (f := c_T_impl_Atom false) (xs := (a0.Items_.set (Int.toNat 0) e12)) (k := 1) (a := e16) e10 rfl tyS_25 rfl rfl rfl rfl (by decide) h17 rfl rfl rfl (fun _ => rfl) rfl) ?_
     refine TL.conv (Cs.eqS (σ := [.box (c_T_spec_l1Cur c0 o2), .dead, .dead, .arr .clo 4 (((a0.Items_.set (Int.toNat 0) e12).set (Int.toNat 1) e10).map (c_T_impl_Atom false)), .arr .clo 1 (a0.Names_.map (c_str)), .dead, .dead, .box ([.int .i64 a0.Kind_] ++ (c_T_impl_Atom false a0.Atom_) ++ [.hd 3 ((a0.Items_.set (Int.toNat 0) e12).map (c_T_impl_Atom false)).length 0 ((a0.Items_.set (Int.toNat 0) e12).map (c_T_impl_Atom false)).length, .hd 4 (a0.Names_.map (c_str)).length 0 (a0.Names_.map (c_str)).length]), .box [.int .i64 0, .int .i64 0, .int .i64 0, .str e0, .str e0, .nilS, .nilS], .box (c_T_impl_Atom false e10)]) (σ' := [.box (c_T_spec_l1Cur c0 o2), .dead, .dead, .arr .clo 4 (((a0.Items_.set (Int.toNat 0) e12).set (Int.toNat 1) e10).map (c_T_impl_Atom false)), .arr .clo 1 (a0.Names_.map (c_str)), .dead, .dead, .box ([.int .i64 a0.Kind_] ++ (c_T_impl_Atom false a0.Atom_) ++ [.hd 3 (((a0.Items_.set (Int.toNat 0) e12).set (Int.toNat 1) e10).map (c_T_impl_Atom false)).length 0 (((a0.Items_.set (Int.toNat 0) e12).set (Int.toNat 1) e10).map (c_T_impl_Atom false)).length, .hd 4 (a0.Names_.map (c_str)).length 0 (a0.Names_.map (c_str)).length]), .box [.int .i64 0, .int .i64 0, .int .i64 0, .str e0, .str e0, .nilS, .nilS], .box (c_T_impl_Atom false e10)]) (by simp only [List.length_map, List.length_set])) ?_
     refine TL.conv (Cs.eqV (t := 24) (v' := .hd 3 (((a0.Items_.set (Int.toNat 0) e12).set (Int.toNat 1) e10).map (c_T_impl_Atom false)).length 0 (((a0.Items_.set (Int.toNat 0) e12).set (Int.toNat 1) e10).map (c_T_impl_Atom false)).length) rfl (hd_len _ (List.length_set ..))) ?_
     refine TL.conv (Cs.eqV (t := 28) (v' := .hd 3 (((a0.Items_.set (Int.toNat 0) e12).set (Int.toNat 1) e10).map (c_T_impl_Atom false)).length 0 (((a0.Items_.set (Int.toNat 0) e12).set (Int.toNat 1) e10).map (c_T_impl_Atom false)).length) rfl (hd_len _ (List.length_set ..))) ?_
     refine TL.conv (Cs.eqV (t := 32) (v' := .hd 3 (((a0.Items_.set (Int.toNat 0) e12).set (Int.toNat 1) e10).map (c_T_impl_Atom false)).length 0 (((a0.Items_.set (Int.toNat 0) e12).set (Int.toNat 1) e10).map (c_T_impl_Atom false)).length) rfl (hd_len _ (List.length_set ..))) ?_
     refine TL.conv (Cs.eqV (t := 34) (v' := .hd 3 (((a0.Items_.set (Int.toNat 0) e12).set (Int.toNat 1) e10).map (c_T_impl_Atom false)).length 0 (((a0.Items_.set (Int.toNat 0) e12).set (Int.toNat 1) e10).map (c_T_impl_Atom false)).length) rfl (hd_len _ (List.length_set ..))) ?_
     refine TL.conv (Cs.eqV (t := 39) (v' := .hd 3 (((a0.Items_.set (Int.toNat 0) e12).set (Int.toNat 1) e10).map (c_T_impl_Atom false)).length 0 (((a0.Items_.set (Int.toNat 0) e12).set (Int.toNat 1) e10).map (c_T_impl_Atom false)).length) rfl (hd_len _ (List.length_set ..))) ?_
     refine TL.conv (Cs.eqV (t := 41) (v' := .el 3 (((a0.Items_.set (Int.toNat 0) e12).set (Int.toNat 1) e10).map (c_T_impl_Atom false)).length (Int.toNat 1) 0) rfl (el_len _ _ _ (List.length_set ..))) ?_
     refine au 4 ?_
     refine TL.sn rfl rfl (o_storeBx rfl tyS_83 rfl rfl rfl rfl (nb rfl) (sure_c rfl (sure_c rfl (sure_c rfl (sure_c rfl (sure_c rfl (sure_hd rfl rfl (sure_hd rfl rfl rfl)))))))) ?_
     refine TL.nil ?_
     refine T.conv (Cs.wkF (M := 10) (.k 4 rfl rfl .nil)) ?_
     refine T.conv (Cs.reloc 5 3 rfl rfl (by decide) rfl rfl rfl (nomS_get rfl)) ?_
     refine T.conv (Cs.wkF (M := 10) (.k 4 rfl rfl .nil)) ?_
     refine T.conv (Cs.eqS (σ' := [_, _, _, .dead, _, .arr .clo 4 (((a0.Items_.set (Int.toNat 0) e12).set (Int.toNat 1) e10).map (c_T_impl_Atom false)), _, .box (k_impl_Value 5 4 false ({ a0 with Items_ := ((a0.Items_.set (Int.toNat 0) e12).set (Int.toNat 1) e10) } : T_impl_Value)), .box (k_impl_Value 5 4 false ({ a0 with Items_ := ((a0.Items_.set (Int.toNat 0) e12).set (Int.toNat 1) e10) } : T_impl_Value)), _]) rfl) ?_
     refine T.conv (Cs.reloc 6 4 rfl rfl (by decide) rfl rfl rfl (nomS_get rfl)) ?_
     refine T.conv (Cs.wkF (M := 10) (.k 4 rfl rfl .nil)) ?_
     refine T.conv (Cs.eqS (σ' := [_, _, _, _, .dead, _, .arr .clo 1 (a0.Names_.map (c_str)), .box (k_impl_Value 5 6 false ({ a0 with Items_ := ((a0.Items_.set (Int.toNat 0) e12).set (Int.toNat 1) e10) } : T_impl_Value)), .box (k_impl_Value 5 6 false ({ a0 with Items_ := ((a0.Items_.set (Int.toNat 0) e12).set (Int.toNat 1) e10) } : T_impl_Value)), _]) rfl) ?_
     refine T.ret ?_
     cases some_i H
     exact ⟨trivial, _, (.cell _ _ _ _ _ _ _ _ _ _ rfl rfl tyS_83 (nb rfl) rfl .nil), ⟨rfl, _, rfl⟩⟩
    ·refine au 4 ?_
     refine TL.sn rfl rfl (o_storeBx rfl tyS_83 rfl rfl rfl rfl (nb rfl) (sure_c rfl (sure_c rfl (sure_c rfl (sure_c rfl (sure_c rfl (sure_hd rfl rfl (sure_hd rfl rfl rfl)))))))) ?_
     refine TL.nil ?_
     refine T.conv (Cs.wkF (M := 9) (.k 4 rfl rfl .nil)) ?_
     refine T.conv (Cs.reloc 5 3 rfl rfl (by decide) rfl rfl rfl (nomS_get rfl)) ?_
     refine T.conv (Cs.wkF (M := 9) (.k 4 rfl rfl .nil)) ?_
     refine T.conv (Cs.eqS (σ' := [_, _, _, .dead, _, .arr .clo 4 (a0.Items_.map (c_T_impl_Atom false)), _, .box (k_impl_Value 5 4 false a0), .box (k_impl_Value 5 4 false a0)]) rfl) ?_
     refine T.conv (Cs.reloc 6 4 rfl rfl (by decide) rfl rfl rfl (nomS_get rfl)) ?_
     refine T.conv (Cs.wkF (M := 9) (.k 4 rfl rfl .nil)) ?_
     refine T.conv (Cs.eqS (σ' := [_, _, _, _, .dead, _, .arr .clo 1 (a0.Names_.map (c_str)), .box (k_impl_Value 5 6 false a0), .box (k_impl_Value 5 6 false a0)]) rfl) ?_
     refine T.ret ?_
     cases some_i H
     exact ⟨trivial, _, (.cell _ _ _ _ _ _ _ _ _ _ rfl rfl tyS_83 (nb rfl) rfl .nil), ⟨rfl, _, rfl⟩⟩
   ·refine au 5 ?_
    refine T.cH H (fun H h => ?_) (fun H h => ?_)
    ·refine au 4 ?_
     refine TL.st rfl rfl rfl (o_lenOwn (f := c_str) rfl rfl rfl rfl rfl) ?_
     refine au 2 ?_
     refine T.cH H (fun H h => ?_) (fun H h => ?_)
     ·obtain ⟨⟨r18, o19⟩, h20, H⟩ := bind_s H
      obtain ⟨e21, h22, H⟩ := bind_s H
      refine T.drawS (fr' := [(0, .bx 0 0), (1, .agg ([.int .i64 a0.Kind_] ++ (c_T_impl_Atom false a0.Atom_) ++ [.hd 3 (a0.Items_.map (c_T_impl_Atom false)).length 0 (a0.Items_.map (c_T_impl_Atom false)).length, .hd 4 (a0.Names_.map (c_str)).length 0 (a0.Names_.map (c_str)).length])), (3, .bx 7 0), (4, .bx 8 0), (7, .bx 0 0), (8, .int .i64 r1), (9, .bool (r1 == 0)), (10, .bool (r1 == 0)), (14, .bool (r1 == 1)), (15, .bool (r1 == 1)), (21, .bool (r1 == 2)), (22, .bool (r1 == 2)), (42, .bool (r1 == 3)), (43, .bool (r1 == 3)), (44, .bx 7 6), (45, .hd 4 (a0.Names_.map (c_str)).length 0 (a0.Names_.map (c_str)).length), (46, .int .i64 (a0.Names_.length : Int)), (47, .bool (decide ((a0.Names_.length : Int) > 0))), (48, .bx 7 6), (49, .hd 4 (a0.Names_.map (c_str)).length 0 (a0.Names_.map (c_str)).length), (50, .bx 0 0), (51, .im false (([e0, (ByteArray.mk #[122, 122]), (ByteArray.mk #[49])] : List ByteArray).map (c_str))), (52, .str r18)]) (R := [⟨some 48, .bx 7 6, .q, []⟩, ⟨some 49, .hd 4 (a0.Names_.map (c_str)).length 0 (a0.Names_.map (c_str)).length, .q, []⟩, ⟨some 50, .bx 0 0, .q, []⟩, ⟨some 51, .im false (([e0, (ByteArray.mk #[122, 122]), (ByteArray.mk #[49])] : List ByteArray).map (c_str)), .q, []⟩, ⟨some 52, .str r18, .q, []⟩, ⟨some 53, .el 4 (a0.Names_.map (c_str)).length (Int.toNat 0) 0, .q, []⟩, ⟨none, .any, .q, []⟩]) (fun b => cond (b 4) (cond (b 6) ([.box (c_T_spec_l1Cur c0 o19), .dead, .dead, .arr .clo 4 (a0.Items_.map (c_T_impl_Atom false)), .arr .clo 1 ((a0.Names_.set (Int.toNat 0) r18).map (c_str)), .dead, .dead, .box (k_impl_Value 3 4 false ({ a0 with Names_ := (a0.Names_.set (Int.toNat 0) r18) } : T_impl_Value)), .box [.int .i64 0, .int .i64 0, .int .i64 0, .str e0, .str e0, .nilS, .nilS]]) ([.box (c_T_spec_l1Cur c0 o19), .dead, .dead, .arr .clo 4 (a0.Items_.map (c_T_impl_Atom false)), .arr .clo 1 (a0.Names_.map (c_str)), .dead, .dead, .box (k_impl_Value 3 4 false a0), .box [.int .i64 0, .int .i64 0, .int .i64 0, .str e0, .str e0, .nilS, .nilS]])) ([.box (c_T_spec_l1Cur c0 o2), .dead, .dead, .arr .clo 4 (a0.Items_.map (c_T_impl_Atom false)), .arr .clo 1 (a0.Names_.map (c_str)), .dead, .dead, .box (k_impl_Value 3 4 false a0), .box [.int .i64 0, .int .i64 0, .int .i64 0, .str e0, .str e0, .nilS, .nilS]])) rfl ?_ ?_ rfl rfl (FrL.get (.cons rfl (.cons rfl (.cons rfl (.cons rfl (.cons rfl (.cons rfl (.cons rfl (.cons rfl (.cons rfl (.cons rfl (.cons rfl (.cons rfl (.cons rfl (.cons rfl (.cons rfl (.cons rfl (.cons rfl (.cons rfl (.cons rfl (.cons rfl (.cons rfl (.cons rfl (.cons rfl .nil)))))))))))))))))))))))) ?_
      ·refine .cons _ _ _ _ _ ⟨rfl, [(3, .bx 7 0)], AllN.get rfl (.cons rfl .nil), fun b hd hn hk hc => ?_⟩ ?_
       ·cases e4 : b 4
        ·exact ops_at (cdf e4) rfl (o_fieldAddr rfl rfl rfl tyS_40 (by decide) rfl rfl ⟨_, rfl, Nat.le_of_ble_eq_true rfl⟩) (cdf ((updb_ne rfl).trans e4)) rfl
        ·exact ops_at ((cdt e4).trans (cdf (hn 6 rfl))) rfl (o_fieldAddr rfl rfl rfl tyS_40 (by decide) rfl rfl ⟨_, rfl, Nat.le_of_ble_eq_true rfl⟩) ((cdt ((updb_ne rfl).trans e4)).trans (cdf ((updb_ne rfl).trans (hn 6 rfl)))) rfl
       refine .cons _ _ _ _ _ ⟨rfl, [(48, .bx 7 6)], AllN.get rfl (.cons rfl .nil), fun b hd hn hk hc => ?_⟩ ?_
       ·cases e4 : b 4
        ·exact ops_at (cdf e4) rfl (o_loadBx rfl tyS_40 rfl rfl (nb rfl) rfl) (cdf ((updb_ne rfl).trans e4)) rfl
        ·exact ops_at ((cdt e4).trans (cdf (hn 6 rfl))) rfl (o_loadBx rfl tyS_40 rfl rfl (nb rfl) rfl) ((cdt ((updb_ne rfl).trans e4)).trans (cdf ((updb_ne rfl).trans (hn 6 rfl)))) rfl
       refine .cons _ _ _ _ _ ⟨rfl, [(0, .bx 0 0)], AllN.get rfl (.cons rfl .nil), fun b hd hn hk hc => ?_⟩ ?_
       ·exact ops_at (cdf (hn 4 rfl)) rfl (o_move rfl rfl) (cdf ((updb_ne rfl).trans (hn 4 rfl))) rfl
       refine .cons _ _ _ _ _ ⟨rfl, [], AllN.get rfl .nil, fun b hd hn hk hc => ?_⟩ ?_
       ·exact ops_at (cdf (hn 4 rfl)) rfl (o_sliceIm (rows := ([e0, (ByteArray.mk #[122, 122]), (ByteArray.mk #[49])] : List ByteArray).map (c_str)) rfl rfl tyS_9 ⟨_, rfl, rfl⟩ (by decide) rfl rfl rfl rfl rfl rfl) (cdf ((updb_ne rfl).trans (hn 4 rfl))) rfl
       refine .cons _ _ _ _ _ ⟨rfl, [(50, .bx 0 0), (51, .im false (([e0, (ByteArray.mk #[122, 122]), (ByteArray.mk #[49])] : List ByteArray).map (c_str)))], AllN.get rfl (.cons rfl (.cons rfl .nil)), fun b hd hn hk hc => ?_⟩ ?_
       ·exact ops_at (cdf hk) rfl (o_callS [0] rfl en_31 rfl rfl (spec_l1Cur_of_p false c0 h20) rfl (by decide) (.cons _ _ _ _ rfl .nil) rfl rfl rfl) (((cdt updb_self).trans (cdf ((updb_ne rfl).trans (hn 6 rfl)))).trans rfl) rfl
       refine .cons _ _ _ _ _ ⟨rfl, [(49, .hd 4 (a0.Names_.map (c_str)).length 0 (a0.Names_.map (c_str)).length)], AllN.get rfl (.cons rfl .nil), fun b hd hn hk hc => ?_⟩ ?_
       ·exact ops_at ((cdt (hd 4 rfl)).trans (cdf (hn 6 rfl))) rfl (o_ixh (f := c_str) rfl rfl tyS_9 rfl rfl rfl rfl h22 rfl) ((cdt ((updb_ne rfl).trans (hd 4 rfl))).trans (cdf ((updb_ne rfl).trans (hn 6 rfl)))) rfl
       refine .cons _ _ _ _ _ ⟨rfl, [(52, .str r18), (53, .el 4 (a0.Names_.map (c_str)).length (Int.toNat 0) 0)], AllN.get rfl (.cons rfl (.cons rfl .nil)), fun b hd hn hk hc => ?_⟩ ?_
       ·exact ops_at ((cdt (hd 4 rfl)).trans (cdf hk)) rfl (Does.to (o_stEl (f := c_str) (xs := a0.Names_) (k := 0) (a := e21) r18 rfl tyS_9 rfl rfl rfl rfl (by decide) h22 rfl rfl rfl (fun _ => rfl) rfl) (eqAtS (eqAtS (eqAtS (eqAtS (eqAtS (eqAtS (eqAtS (eqAtB (show (.box ([.int .i64 a0.Kind_] ++ (c_T_impl_Atom false a0.Atom_) ++ [.hd 3 (a0.Items_.map (c_T_impl_Atom false)).length 0 (a0.Items_.map (c_T_impl_Atom false)).length, .hd 4 (a0.Names_.map (c_str)).length 0 (a0.Names_.map (c_str)).length]) : AO) = .box ([.int .i64 a0.Kind_] ++ (c_T_impl_Atom false a0.Atom_) ++ [.hd 3 (a0.Items_.map (c_T_impl_Atom false)).length 0 (a0.Items_.map (c_T_impl_Atom false)).length, .hd 4 ((a0.Names_.set (Int.toNat 0) r18).map (c_str)).length 0 ((a0.Names_.set (Int.toNat 0) r18).map (c_str)).length]) by simp only [List.length_map, List.length_set]) rfl))))))))) (((cdt ((updb_ne rfl).trans (hd 4 rfl))).trans (cdt updb_self)).trans rfl) rfl
       exact .nil _
      ·intro b b' h; simp only [h 4 (by decide), h 6 (by decide)]
      refine inB_normal (thn_normal ?_)
      refine T.conv (Cs.eqV (t := 45) (v' := .hd 4 ((a0.Names_.set (Int.toNat 0) r18).map (c_str)).length 0 ((a0.Names_.set (Int.toNat 0) r18).map (c_str)).length) rfl (hd_len _ (List.length_set ..))) ?_
      refine T.conv (Cs.eqV (t := 49) (v' := .hd 4 ((a0.Names_.set (Int.toNat 0) r18).map (c_str)).length 0 ((a0.Names_.set (Int.toNat 0) r18).map (c_str)).length) rfl (hd_len _ (List.length_set ..))) ?_
      refine au 3 ?_
      refine TL.sn rfl rfl (o_storeBx rfl tyS_83 rfl rfl rfl rfl (nb rfl) (sure_c rfl (sure_c rfl (sure_c rfl (sure_c rfl (sure_c rfl (sure_hd rfl rfl (sure_hd rfl rfl rfl)))))))) ?_
      refine TL.nil ?_
      refine T.conv (Cs.eqS (σ' := [.box (c_T_spec_l1Cur c0 o19), _, _, _, .arr .clo 1 ((a0.Names_.set (Int.toNat 0) r18).map (c_str)), _, _, .box (k_impl_Value 3 4 false ({ a0 with Names_ := (a0.Names_.set (Int.toNat 0) r18) } : T_impl_Value)), .box (k_impl_Value 3 4 false ({ a0 with Names_ := (a0.Names_.set (Int.toNat 0) r18) } : T_impl_Value))]) rfl) ?_
      refine T.conv (Cs.wkF (M := 9) (.k 4 rfl rfl .nil)) ?_
      refine T.conv (Cs.reloc 5 3 rfl rfl (by decide) rfl rfl rfl (nomS_get rfl)) ?_
      refine T.conv (Cs.wkF (M := 9) (.k 4 rfl rfl .nil)) ?_
      refine T.conv (Cs.eqS (σ' := [_, _, _, .dead, _, .arr .clo 4 (a0.Items_.map (c_T_impl_Atom false)), _, .box (k_impl_Value 5 4 false ({ a0 with Names_ := (a0.Names_.set (Int.toNat 0) r18) } : T_impl_Value)), .box (k_impl_Value 5 4 false ({ a0 with Names_ := (a0.Names_.set (Int.toNat 0) r18) } : T_impl_Value))]) rfl) ?_
      refine T.conv (Cs.reloc 6 4 rfl rfl (by decide) rfl rfl rfl (nomS_get rfl)) ?_
      refine T.conv (Cs.wkF (M := 9) (.k 4 rfl rfl .nil)) ?_
      refine T.conv (Cs.eqS (σ' := [_, _, _, _, .dead, _, .arr .clo 1 ((a0.Names_.set (Int.toNat 0) r18).map (c_str)), .box (k_impl_Value 5 6 false ({ a0 with Names_ := (a0.Names_.set (Int.toNat 0) r18) } : T_impl_Value)), .box (k_impl_Value 5 6 false ({ a0 with Names_ := (a0.Names_.set (Int.toNat 0) r18) } : T_impl_Value))]) rfl) ?_
      refine T.ret ?_
      cases some_i H
      exact ⟨trivial, _, (.cell _ _ _ _ _ _ _ _ _ _ rfl rfl tyS_83 (nb rfl) rfl .nil), ⟨rfl, _, rfl⟩⟩
     ·refine au 4 ?_
      refine TL.sn rfl rfl (o_storeBx rfl tyS_83 rfl rfl rfl rfl (nb rfl) (sure_c rfl (sure_c rfl (sure_c rfl (sure_c rfl (sure_c rfl (sure_hd rfl rfl (sure_hd rfl rfl rfl)))))))) ?_
      refine TL.nil ?_
      refine T.conv (Cs.wkF (M := 9) (.k 4 rfl rfl .nil)) ?_
      refine T.conv (Cs.reloc 5 3 rfl rfl (by decide) rfl rfl rfl (nomS_get rfl)) ?_
      refine T.conv (Cs.wkF (M := 9) (.k 4 rfl rfl .nil)) ?_
      refine T.conv (Cs.eqS (σ' := [_, _, _, .dead, _, .arr .clo 4 (a0.Items_.map (c_T_impl_Atom false)), _, .box (k_impl_Value 5 4 false a0), .box (k_impl_Value 5 4 false a0)]) rfl) ?_
      refine T.conv (Cs.reloc 6 4 rfl rfl (by decide) rfl rfl rfl (nomS_get rfl)) ?_
      refine T.conv (Cs.wkF (M := 9) (.k 4 rfl rfl .nil)) ?_
      refine T.conv (Cs.eqS (σ' := [_, _, _, _, .dead, _, .arr .clo 1 (a0.Names_.map (c_str)), .box (k_impl_Value 5 6 false a0), .box (k_impl_Value 5 6 false a0)]) rfl) ?_
      refine T.ret ?_
      cases some_i H
      exact ⟨trivial, _, (.cell _ _ _ _ _ _ _ _ _ _ rfl rfl tyS_83 (nb rfl) rfl .nil), ⟨rfl, _, rfl⟩⟩
    ·refine au 5 ?_
     refine T.cH H (fun H h => ?_) (fun H h => ?_)
     ·refine au 3 ?_
      obtain ⟨⟨r23, o24⟩, h25, H⟩ := bind_s H
      refine TL.st rfl rfl rfl (o_callS [0] rfl en_33 rfl rfl (spec_l1Cur_pick_p c0 h25) rfl (by decide) (.cons _ _ _ _ rfl .nil) rfl rfl rfl) ?_
      refine au 4 ?_
      obtain ⟨b27, h32, H⟩ := bind_s H
      refine T.lq (fun s => match s with | b26 => [(3, .bx 7 0), (4, .bx 8 0), (6, .int .i64 (IntKind.i64.wrap (49 + r23)))]) (fun s => match s with | b26 => [.box (c_T_spec_l1Cur c0 o24), .dead, .dead, .arr .clo 4 (b26.Items_.map (c_T_impl_Atom false)), .arr .clo 1 (b26.Names_.map (c_str)), .dead, .dead, .box (k_impl_Value 3 4 false b26), .box [.int .i64 0, .int .i64 0, .int .i64 0, .str e0, .str e0, .nilS, .nilS]]) (fun q ex fr σ => match q with | b27 => ex = .exit 1 ∧ fr = [(3, .bx 7 0), (4, .bx 8 0)] ∧ σ = [.box (c_T_spec_l1Cur c0 o24), .dead, .dead, .arr .clo 4 (b27.Items_.map (c_T_impl_Atom false)), .arr .clo 1 (b27.Names_.map (c_str)), .dead, .dead, .box (k_impl_Value 3 4 false b27), .box [.int .i64 0, .int .i64 0, .int .i64 0, .str e0, .str e0, .nilS, .nilS]]) h32 ?_ ?_
      ·rintro b26 y28 H
       refine au 9 ?_
       refine TL.gcq rfl rfl rfl (.bool _) rfl rfl (fun h => o_lenOwn (f := c_T_impl_Atom false) rfl rfl (gv h rfl) rfl rfl) ?_
       refine TL.gcq rfl rfl rfl (.bool _) rfl rfl (fun h => o_move rfl rfl) ?_
       refine TL.gcq rfl rfl rfl (.bool _) rfl rfl (fun h => o_ari rfl (gv h rfl) (gv h rfl) rfl) ?_
       refine au 2 ?_
       refine T.cH H (fun H h => ?_) (fun H h => ?_)
       ·refine au 7 ?_
        refine TL.st rfl rfl rfl (o_lenOwn (f := c_T_impl_Atom false) rfl rfl rfl rfl rfl) ?_
        refine au 2 ?_
        refine TL.st rfl rfl rfl (o_sliceIm (rows := ([(⟨7, (IntKind.i64.wrap (2000 + (b26.Items_.length : Int))), e0, e0⟩ : T_impl_Atom)] : List T_impl_Atom).map (c_T_impl_Atom false)) rfl rfl tyS_25 ⟨_, rfl, rfl⟩ (by decide) rfl rfl rfl rfl rfl rfl) ?_
        obtain ⟨l29, h30, H⟩ := bind_s H
        refine TL.st rfl rfl rfl (o_ap (f := c_T_impl_Atom false) (xs := b26.Items_) (ys := ([(⟨7, (IntKind.i64.wrap (2000 + (b26.Items_.length : Int))), e0, e0⟩ : T_impl_Atom)] : List T_impl_Atom)) rfl rfl tyE_25 rfl rfl rfl rfl (by decide) rfl (fun _ => rfl) h30) ?_
        refine TL.st rfl rfl rfl (o_fieldAddr rfl rfl rfl tyS_28 (by decide) rfl rfl ⟨_, rfl, Nat.le_of_ble_eq_true rfl⟩) ?_
        refine TL.sn rfl rfl (o_storeBx rfl tyS_28 rfl rfl rfl rfl (nb rfl) (sure_hd rfl rfl rfl)) ?_
        refine TL.nil ?_
        refine inB_normal ?_
        exact Pk.of (thn_normal ⟨({ b26 with Items_ := l29 } : T_impl_Value), (some_i H).symm, rfl, rfl⟩)
       ·refine T.exit ?_
        refine thn_exit ?_
        exact Pk.of (thn_exit ⟨b26, (some_i H).symm, rfl, rfl, rfl⟩)
      ·rintro _ _ _ ⟨rfl, rfl, rfl⟩
       refine inB_here ?_
       refine au 3 ?_
       refine TL.sn rfl rfl (o_storeBx rfl tyS_83 rfl rfl rfl rfl (nb rfl) (sure_c rfl (sure_c rfl (sure_c rfl (sure_c rfl (sure_c rfl (sure_hd rfl rfl (sure_hd rfl rfl rfl)))))))) ?_
       refine TL.nil ?_
       refine T.conv (Cs.wkF (M := 9) (.k 4 rfl rfl .nil)) ?_
       refine T.conv (Cs.reloc 5 3 rfl rfl (by decide) rfl rfl rfl (nomS_get rfl)) ?_
       refine T.conv (Cs.wkF (M := 9) (.k 4 rfl rfl .nil)) ?_
       refine T.conv (Cs.eqS (σ' := [_, _, _, .dead, _, .arr .clo 4 (b27.Items_.map (c_T_impl_Atom false)), _, .box (k_impl_Value 5 4 false b27), .box (k_impl_Value 5 4 false b27)]) rfl) ?_
       refine T.conv (Cs.reloc 6 4 rfl rfl (by decide) rfl rfl rfl (nomS_get rfl)) ?_
       refine T.conv (Cs.wkF (M := 9) (.k 4 rfl rfl .nil)) ?_
       refine T.conv (Cs.eqS (σ' := [_, _, _, _, .dead, _, .arr .clo 1 (b27.Names_.map (c_str)), .box (k_impl_Value 5 6 false b27), .box (k_impl_Value 5 6 false b27)]) rfl) ?_
       refine T.ret ?_
       cases some_i H
       exact ⟨trivial, _, (.cell _ _ _ _ _ _ _ _ _ _ rfl rfl tyS_83 (nb rfl) rfl .nil), ⟨rfl, _, rfl⟩⟩
     ·refine au 4 ?_
      refine TL.sn rfl rfl (o_storeBx rfl tyS_83 rfl rfl rfl rfl (nb rfl) (sure_c rfl (sure_c rfl (sure_c rfl (sure_c rfl (sure_c rfl (sure_hd rfl rfl (sure_hd rfl rfl rfl)))))))) ?_
      refine TL.nil ?_
      refine T.conv (Cs.wkF (M := 9) (.k 4 rfl rfl .nil)) ?_
      refine T.conv (Cs.reloc 5 3 rfl rfl (by decide) rfl rfl rfl (nomS_get rfl)) ?_
      refine T.conv (Cs.wkF (M := 9) (.k 4 rfl rfl .nil)) ?_
      refine T.conv (Cs.eqS (σ' := [_, _, _, .dead, _, .arr .clo 4 (a0.Items_.map (c_T_impl_Atom false)), _, .box (k_impl_Value 5 4 false a0), .box (k_impl_Value 5 4 false a0)]) rfl) ?_
      refine T.conv (Cs.reloc 6 4 rfl rfl (by decide) rfl rfl rfl (nomS_get rfl)) ?_
      refine T.conv (Cs.wkF (M := 9) (.k 4 rfl rfl .nil)) ?_
      refine T.conv (Cs.eqS (σ' := [_, _, _, _, .dead, _, .arr .clo 1 (a0.Names_.map (c_str)), .box (k_impl_Value 5 6 false a0), .box (k_impl_Value 5 6 false a0)]) rfl) ?_
      refine T.ret ?_
      cases some_i H
      exact ⟨trivial, _, (.cell _ _ _ _ _ _ _ _ _ _ rfl rfl tyS_83 (nb rfl) rfl .nil), ⟨rfl, _, rfl⟩⟩
theorem en_37 : En Tryz.prog 37 := .of Tryz.func37 rfl rfl
noncomputable def spec_l1Size_j1 (v1 : Int) (v2 : ByteArray) (v5 : Int) : Option ((Int × ByteArray) ⊕ ByteArray) :=
  (cat (byS ([(IntKind.u8.wrap (IntKind.i64.wrap (48 + v5)))] : List Int)) v2).bind fun s6 => some (.inl ((IntKind.i64.wrap (Int.tdiv v1 10)), s6))
noncomputable def spec_l1Size_l1  : (Int × ByteArray) → Option ((Int × ByteArray) ⊕ ByteArray) := fun s => match s with
  | (v1, v2) => cond (v1 != 0) (cond (decide ((Int.tmod v1 10) < 0)) (spec_l1Size_j1 v1 v2 (IntKind.i64.wrap (-(Int.tmod v1 10)))) (spec_l1Size_j1 v1 v2 (Int.tmod v1 10))) (some (.inr v2))
noncomputable def spec_l1Size (a0 : Int) : Option ByteArray :=
  cond (a0 == 0) (some (ByteArray.mk #[48])) ((loopO (spec_l1Size_l1) (a0, e0)).bind fun v3 => (match v3 with | v3 => some v3))
theorem spec_l1Size_p  {a0 : Int} {R0 : ByteArray} (H : spec_l1Size a0 = some R0) : Pure Tryz.prog 60 [.int .i64 a0] (.str R0) := by
 refine CallT.of_TN (n := 25) Tryz.func60 rfl rfl rfl rfl ?_
 refine au 10 ?_
 refine T.cH H (fun H h => ?_) (fun H h => ?_)
 ·refine au 5 ?_
  refine thn_ret ?_
  cases some_i H
  exact ⟨trivial, _, (.tmp _ _ _ _ rfl .nil), (.cl _ rfl)⟩
 ·refine au 7 ?_
  obtain ⟨v3, h9, H⟩ := bind_s H
  refine T.lq (fun s => match s with | (v1, v2) => [(0, .int .i64 v1), (3, .str v2)]) (fun s => match s with | (v1, v2) => []) (fun q ex fr σ => match q with | v3 => ex = .exit 0 ∧ fr = [(3, .str v3)] ∧ σ = []) h9 ?_ ?_
  ·rintro ⟨v1, v2⟩ y4 H
   refine au 6 ?_
   refine T.cH H (fun H h => ?_) (fun H h => ?_)
   ·refine au 5 ?_
    refine TL.st rfl rfl rfl (o_rem rfl rfl rfl (by decide)) ?_
    refine au 2 ?_
    refine T.cut (fun fr' σ' => ∃ (v5 : Int), fr' = [(0, .int .i64 v1), (3, .str v2), (4, .int .i64 v5)] ∧ σ' = [] ∧ spec_l1Size_j1 v1 v2 v5 = some y4) (T.pk ?_) ?_
    ·skip
     refine au 5 ?_
     refine T.cH H (fun H h => ?_) (fun H h => ?_)
     ·refine au 2 ?_
      refine TL.st rfl rfl rfl (o_neg rfl rfl) ?_
      refine au 2 ?_
      exact Pk.of (thn_normal ⟨(IntKind.i64.wrap (-(Int.tmod v1 10))), rfl, rfl, H⟩)
     ·refine T.skip ?_
      exact Pk.of (thn_normal ⟨(Int.tmod v1 10), rfl, rfl, H⟩)
    ·rintro _ _ ⟨v5, rfl, rfl, H⟩
     refine au 4 ?_
     refine TL.st rfl rfl rfl (o_conv rfl rfl ⟨_, rfl⟩ rfl) ?_
     refine TL.st rfl rfl rfl (o_sliceIm (rows := ([(IntKind.u8.wrap (IntKind.i64.wrap (48 + v5)))] : List Int).map (c_int .u8)) rfl rfl tyS_5 ⟨_, rfl, rfl⟩ (by decide) rfl rfl rfl rfl rfl rfl) ?_
     refine TL.st rfl rfl rfl (o_bs (f := c_int .u8) (ns := ([(IntKind.u8.wrap (IntKind.i64.wrap (48 + v5)))] : List Int)) rfl rfl rfl rfl (fun _ => rfl) rfl) ?_
     refine TL.st rfl rfl rfl (o_move rfl rfl) ?_
     obtain ⟨s6, h7, H⟩ := bind_s H
     refine TL.st rfl rfl rfl (o_ct rfl rfl rfl h7) ?_
     refine au 4 ?_
     refine TL.st rfl rfl rfl (o_quo rfl rfl rfl (by decide)) ?_
     refine au 2 ?_
     refine inB_normal ?_
     exact Pk.of (thn_normal ⟨((IntKind.i64.wrap (Int.tdiv v1 10)), s6), (some_i H).symm, rfl, rfl⟩)
   ·refine T.exit ?_
    refine thn_exit ?_
    exact Pk.of (thn_exit ⟨v2, (some_i H).symm, rfl, rfl, rfl⟩)
  ·rintro _ _ _ ⟨rfl, rfl, rfl⟩
   refine inB_here ?_
   refine au 6 ?_
   cases some_i H
   exact ⟨trivial, _, (.tmp _ _ _ _ rfl .nil), (.cl _ rfl)⟩
theorem en_60 : En Tryz.prog 60 := .of Tryz.func60 rfl rfl
noncomputable def spec_l1Num (a0 : Int) : Option ByteArray :=
  cond (decide (a0 < 0)) ((spec_l1Size a0).bind fun r1 => (cat (ByteArray.mk #[45]) r1).bind fun s3 => some s3) ((spec_l1Size a0).bind fun r5 => some r5)
theorem spec_l1Num_p  {a0 : Int} {R0 : ByteArray} (H : spec_l1Num a0 = some R0) : Pure Tryz.prog 39 [.int .i64 a0] (.str R0) := by
 refine CallT.of_TN (n := 10) Tryz.func39 rfl rfl rfl rfl ?_
 refine au 10 ?_
 refine T.cH H (fun H h => ?_) (fun H h => ?_)
 ·refine au 3 ?_
  obtain ⟨r1, h2, H⟩ := bind_s H
  refine TL.st rfl rfl rfl (o_callP rfl en_60 rfl rfl (.cons _ _ _ _ (.cl _ rfl) .nil) (spec_l1Size_p  h2)) ?_
  obtain ⟨s3, h4, H⟩ := bind_s H
  refine TL.st rfl rfl rfl (o_ct rfl rfl rfl h4) ?_
  refine au 3 ?_
  refine thn_ret ?_
  cases some_i H
  exact ⟨trivial, _, (.tmp _ _ _ _ rfl .nil), (.cl _ rfl)⟩
 ·refine au 4 ?_
  obtain ⟨r5, h6, H⟩ := bind_s H
  refine TL.st rfl rfl rfl (o_callP rfl en_60 rfl rfl (.cons _ _ _ _ (.cl _ rfl) .nil) (spec_l1Size_p  h6)) ?_
  refine au 3 ?_
  cases some_i H
  exact ⟨trivial, _, (.tmp _ _ _ _ rfl .nil), (.cl _ rfl)⟩
theorem en_39 : En Tryz.prog 39 := .of Tryz.func39 rfl rfl
noncomputable def spec_l1Cur_oddThingsx_l1 (r35 : Int) : List T_impl_Thing → Option (List T_impl_Thing ⊕ List T_impl_Thing) := fun s => match s with
  | l38 => cond (decide ((l38.length : Int) < (IntKind.i64.wrap (99 + r35)))) ((spec_l1Num (IntKind.i64.wrap (1000 + (l38.length : Int)))).bind fun r41 => (spec_l10Ref (ByteArray.mk #[90, 101, 100]) r41).bind fun r43 => (app l38 ([(⟨r43, ([] : List T_impl_Atom), ([] : List ByteArray), ([] : List T_impl_Value)⟩ : T_impl_Thing)] : List T_impl_Thing)).bind fun l45 => some (.inl l45)) (some (.inr l38))
noncomputable def spec_l1Cur_oddThingsx (s0 : T_spec_l1Cur) (s1 : List T_impl_Thing) : Option ((List T_impl_Thing) × T_spec_l1Cur) :=
  cond (decide ((s1.length : Int) < 2)) (some (s1, s0)) ((spec_l1Cur_pick 20 s0).bind fun q => (match q with | (r1, o2) => cond (r1 == 0) ((idx s1 0).bind fun e4 => (idx s1 1).bind fun e6 => (idx s1 0).bind fun e8 => (idx (s1.set (Int.toNat 0) e6) 1).bind fun e10 => some (((s1.set (Int.toNat 0) e6).set (Int.toNat 1) e4), o2)) (cond (r1 == 1) ((spec_l1Cur_atom o2).bind fun q => (match q with | (r12, o13) => (idx s1 0).bind fun e15 => some ((s1.set (Int.toNat 0) ({ e15 with Ref_ := r12 } : T_impl_Thing)), o13))) (cond (r1 == 2) ((spec_l1Cur_thingRef o2).bind fun q => (match q with | (r17, o18) => (spec_l1Cur_thingRef o18).bind fun q => (match q with | (r20, o21) => (idx s1 1).bind fun e23 => some ((s1.set (Int.toNat 1) ({ e23 with Parents_ := ([r17, r20] : List T_impl_Atom) } : T_impl_Thing)), o21)))) (cond (r1 == 3) ((idx s1 0).bind fun e25 => (spec_l1Cur_value o2).bind fun q => (match q with | (r27, o28) => (spec_l1Cur_oddValuex r27 o28).bind fun q => (match q with | (r30, o31) => (idx (s1.set (Int.toNat 0) ({ e25 with Names_ := ([(ByteArray.mk #[97])] : List ByteArray) } : T_impl_Thing)) 0).bind fun e33 => some (((s1.set (Int.toNat 0) ({ e25 with Names_ := ([(ByteArray.mk #[97])] : List ByteArray) } : T_impl_Thing)).set (Int.toNat 0) ({ e33 with Values_ := ([r30] : List T_impl_Value) } : T_impl_Thing)), o31)))) (cond (r1 == 4) ((spec_l1Cur_pick 3 o2).bind fun q => (match q with | (r35, o36) => (loopO (spec_l1Cur_oddThingsx_l1 r35) s1).bind fun l39 => (match l39 with | l39 => some (l39, o36)))) (some (s1, o2))))))))
theorem spec_l1Cur_oddThingsx_o (c0 : Bool) {s0 : T_spec_l1Cur} {s1 : List T_impl_Thing} {R0 : (List T_impl_Thing)} {U0 : T_spec_l1Cur} (H : spec_l1Cur_oddThingsx s0 s1 = some (R0, U0)) : St Tryz.prog 15 [.bx 0 0, .hd 1 (s1.map (c_T_impl_Thing false)).length 0 (s1.map (c_T_impl_Thing false)).length] [.box (c_T_spec_l1Cur c0 s0), .arr .clo 7 (s1.map (c_T_impl_Thing false))] (.hd 3 (R0.map (c_T_impl_Thing false)).length 0 (R0.map (c_T_impl_Thing false)).length) [.box (c_T_spec_l1Cur c0 U0), .dead, .dead, .arr .clo 7 (R0.map (c_T_impl_Thing false))] := by
 refine CallT.finR (CallT.of_TN (n := 76) Tryz.func15 rfl rfl rfl rfl ?_) rfl rfl ⟨(bels_iff.1 rfl), ⟨trivial, ⟨trivial, ⟨trivial, trivial⟩⟩⟩⟩
 refine T.conv (Cs.fresh 1 rfl rfl (by decide) rfl (nomS_all rfl rfl)) ?_
 refine T.conv Cs.pushDead ?_
 refine T.conv (Cs.wkF (M := 4) (.k 0 rfl rfl (.k 1 rfl rfl .nil))) ?_
 refine T.conv (Cs.eqS (σ' := [.box (c_T_spec_l1Cur c0 s0), .dead, .arr .clo 7 (s1.map (c_T_impl_Thing false)), .dead]) rfl) ?_
 refine au 8 ?_
 refine TL.st rfl rfl rfl (o_lenOwn (f := c_T_impl_Thing false) rfl rfl rfl rfl rfl) ?_
 refine au 2 ?_
 refine T.cH H (fun H h => ?_) (fun H h => ?_)
 ·refine au 5 ?_
  refine T.conv (Cs.wkF (M := 4) (.k 4 rfl rfl .nil)) ?_
  refine T.conv (Cs.reloc 3 2 rfl rfl (by decide) rfl rfl rfl (nomS_get rfl)) ?_
  refine T.conv (Cs.wkF (M := 4) (.k 4 rfl rfl .nil)) ?_
  refine T.conv (Cs.eqS (σ' := [_, _, .dead, .arr .clo 7 (s1.map (c_T_impl_Thing false))]) rfl) ?_
  refine T.ret ?_
  refine thn_ret ?_
  cases some_i H
  exact ⟨trivial, _, (.tmp _ _ _ _ rfl .nil), ⟨rfl, _, rfl⟩⟩
 ·refine au 5 ?_
  obtain ⟨⟨r1, o2⟩, h3, H⟩ := bind_s H
  refine TL.st rfl rfl rfl (o_callS [0] rfl en_33 rfl rfl (spec_l1Cur_pick_p c0 h3) rfl (by decide) (.cons _ _ _ _ rfl .nil) rfl rfl rfl) ?_
  refine au 7 ?_
  refine T.cH H (fun H h => ?_) (fun H h => ?_)
  ·refine au 3 ?_
   obtain ⟨e4, h5, H⟩ := bind_s H
   refine TL.st rfl rfl rfl (o_ixh (f := c_T_impl_Thing false) rfl rfl tyS_63 rfl rfl rfl rfl h5 rfl) ?_
   refine TL.st rfl rfl rfl (o_loadEl rfl tyS_63 rfl rfl rfl (by rw [List.getElem?_map, (idx_s h5).2]; rfl) (nb rfl) rfl) ?_
   refine au 4 ?_
   refine T.conv (Cs.eqS (σ' := [.box (c_T_spec_l1Cur c0 o2), _, _, _, .box (c_T_impl_Thing false e4)]) rfl) ?_
   refine au 3 ?_
   obtain ⟨e6, h7, H⟩ := bind_s H
   refine TL.st rfl rfl rfl (o_ixh (f := c_T_impl_Thing false) rfl rfl tyS_63 rfl rfl rfl rfl h7 rfl) ?_
   refine TL.st rfl rfl rfl (o_loadEl rfl tyS_63 rfl rfl rfl (by rw [List.getElem?_map, (idx_s h7).2]; rfl) (nb rfl) rfl) ?_
   obtain ⟨e8, h9, H⟩ := bind_s H
   refine TL.st rfl rfl rfl (o_ixh (f := c_T_impl_Thing false) rfl rfl tyS_63 rfl rfl rfl rfl h9 rfl) ?_
   refine TL.sn rfl rfl (o_stEl (f := c_T_impl_Thing false) (xs := s1) (k := 0) (a := e8) e6 rfl tyS_63 rfl rfl rfl rfl (by decide) h9 rfl rfl rfl (fun _ => rfl) rfl) ?_
   refine TL.conv (Cs.eqV (t := 1) (v' := .hd 2 ((s1.set (Int.toNat 0) e6).map (c_T_impl_Thing false)).length 0 ((s1.set (Int.toNat 0) e6).map (c_T_impl_Thing false)).length) rfl (hd_len _ (List.length_set ..))) ?_
   refine TL.conv (Cs.eqV (t := 7) (v' := .hd 2 ((s1.set (Int.toNat 0) e6).map (c_T_impl_Thing false)).length 0 ((s1.set (Int.toNat 0) e6).map (c_T_impl_Thing false)).length) rfl (hd_len _ (List.length_set ..))) ?_
   refine TL.conv (Cs.eqV (t := 15) (v' := .hd 2 ((s1.set (Int.toNat 0) e6).map (c_T_impl_Thing false)).length 0 ((s1.set (Int.toNat 0) e6).map (c_T_impl_Thing false)).length) rfl (hd_len _ (List.length_set ..))) ?_
   refine TL.conv (Cs.eqV (t := 16) (v' := .el 2 ((s1.set (Int.toNat 0) e6).map (c_T_impl_Thing false)).length (Int.toNat 0) 0) rfl (el_len _ _ _ (List.length_set ..))) ?_
   refine TL.conv (Cs.eqV (t := 18) (v' := .hd 2 ((s1.set (Int.toNat 0) e6).map (c_T_impl_Thing false)).length 0 ((s1.set (Int.toNat 0) e6).map (c_T_impl_Thing false)).length) rfl (hd_len _ (List.length_set ..))) ?_
   refine TL.conv (Cs.eqV (t := 19) (v' := .hd 2 ((s1.set (Int.toNat 0) e6).map (c_T_impl_Thing false)).length 0 ((s1.set (Int.toNat 0) e6).map (c_T_impl_Thing false)).length) rfl (hd_len _ (List.length_set ..))) ?_
   refine TL.conv (Cs.eqV (t := 22) (v' := .el 2 ((s1.set (Int.toNat 0) e6).map (c_T_impl_Thing false)).length (Int.toNat 0) 0) rfl (el_len _ _ _ (List.length_set ..))) ?_
   refine au 4 ?_
   obtain ⟨e10, h11, H⟩ := bind_s H
   refine TL.st rfl rfl rfl (o_ixh (f := c_T_impl_Thing false) rfl rfl tyS_63 rfl rfl rfl rfl h11 rfl) ?_
   refine TL.sn rfl rfl (o_stEl (f := c_T_impl_Thing false) (xs := (s1.set (Int.toNat 0) e6)) (k := 1) (a := e10) e4 rfl tyS_63 rfl rfl rfl rfl (by decide) h11 rfl rfl rfl (fun _ => rfl) rfl) ?_
   refine TL.conv (Cs.eqV (t := 1) (v' := .hd 2 (((s1.set (Int.toNat 0) e6).set (Int.toNat 1) e4).map (c_T_impl_Thing false)).length 0 (((s1.set (Int.toNat 0) e6).set (Int.toNat 1) e4).map (c_T_impl_Thing false)).length) rfl (hd_len _ (List.length_set ..))) ?_
   refine TL.conv (Cs.eqV (t := 7) (v' := .hd 2 (((s1.set (Int.toNat 0) e6).set (Int.toNat 1) e4).map (c_T_impl_Thing false)).length 0 (((s1.set (Int.toNat 0) e6).set (Int.toNat 1) e4).map (c_T_impl_Thing false)).length) rfl (hd_len _ (List.length_set ..))) ?_
   refine TL.conv (Cs.eqV (t := 15) (v' := .hd 2 (((s1.set (Int.toNat 0) e6).set (Int.toNat 1) e4).map (c_T_impl_Thing false)).length 0 (((s1.set (Int.toNat 0) e6).set (Int.toNat 1) e4).map (c_T_impl_Thing false)).length) rfl (hd_len _ (List.length_set ..))) ?_
   refine TL.conv (Cs.eqV (t := 18) (v' := .hd 2 (((s1.set (Int.toNat 0) e6).set (Int.toNat 1) e4).map (c_T_impl_Thing false)).length 0 (((s1.set (Int.toNat 0) e6).set (Int.toNat 1) e4).map (c_T_impl_Thing false)).length) rfl (hd_len _ (List.length_set ..))) ?_
   refine TL.conv (Cs.eqV (t := 19) (v' := .hd 2 (((s1.set (Int.toNat 0) e6).set (Int.toNat 1) e4).map (c_T_impl_Thing false)).length 0 (((s1.set (Int.toNat 0) e6).set (Int.toNat 1) e4).map (c_T_impl_Thing false)).length) rfl (hd_len _ (List.length_set ..))) ?_
   refine TL.conv (Cs.eqV (t := 23) (v' := .hd 2 (((s1.set (Int.toNat 0) e6).set (Int.toNat 1) e4).map (c_T_impl_Thing false)).length 0 (((s1.set (Int.toNat 0) e6).set (Int.toNat 1) e4).map (c_T_impl_Thing false)).length) rfl (hd_len _ (List.length_set ..))) ?_
   refine TL.conv (Cs.eqV (t := 25) (v' := .el 2 (((s1.set (Int.toNat 0) e6).set (Int.toNat 1) e4).map (c_T_impl_Thing false)).length (Int.toNat 1) 0) rfl (el_len _ _ _ (List.length_set ..))) ?_
   refine au 6 ?_
   refine T.conv (Cs.wkF (M := 5) (.k 4 rfl rfl .nil)) ?_
   refine T.conv (Cs.reloc 3 2 rfl rfl (by decide) rfl rfl rfl (nomS_get rfl)) ?_
   refine T.conv (Cs.wkF (M := 5) (.k 4 rfl rfl .nil)) ?_
   refine T.conv (Cs.eqS (σ' := [_, _, .dead, .arr .clo 7 (((s1.set (Int.toNat 0) e6).set (Int.toNat 1) e4).map (c_T_impl_Thing false)), _]) rfl) ?_
   refine T.ret ?_
   cases some_i H
   exact ⟨trivial, _, (.tmp _ _ _ _ rfl .nil), ⟨rfl, _, rfl⟩⟩
  ·refine au 5 ?_
   refine T.cH H (fun H h => ?_) (fun H h => ?_)
   ·refine au 3 ?_
    obtain ⟨⟨r12, o13⟩, h14, H⟩ := bind_s H
    refine TL.st rfl rfl rfl (o_callS [0] rfl en_14 rfl rfl (spec_l1Cur_atom_p c0 h14) rfl (by decide) (.cons _ _ _ _ rfl .nil) rfl rfl rfl) ?_
    obtain ⟨e15, h16, H⟩ := bind_s H
    refine TL.st rfl rfl rfl (o_ixh (f := c_T_impl_Thing false) rfl rfl tyS_63 rfl rfl rfl rfl h16 rfl) ?_
    refine TL.st rfl rfl rfl (o_fieldAddrEl rfl rfl rfl tyS_25 (by decide) rfl rfl rfl) ?_
    refine TL.sn rfl rfl (o_stEl (f := c_T_impl_Thing false) (xs := s1) (k := 0) (a := e15) ({ e15 with Ref_ := r12 } : T_impl_Thing) rfl tyS_25 rfl rfl rfl rfl (by decide) h16 rfl rfl rfl (fun _ => rfl) rfl) ?_
    refine TL.conv (Cs.eqV (t := 1) (v' := .hd 2 ((s1.set (Int.toNat 0) ({ e15 with Ref_ := r12 } : T_impl_Thing)).map (c_T_impl_Thing false)).length 0 ((s1.set (Int.toNat 0) ({ e15 with Ref_ := r12 } : T_impl_Thing)).map (c_T_impl_Thing false)).length) rfl (hd_len _ (List.length_set ..))) ?_
    refine TL.conv (Cs.eqV (t := 7) (v' := .hd 2 ((s1.set (Int.toNat 0) ({ e15 with Ref_ := r12 } : T_impl_Thing)).map (c_T_impl_Thing false)).length 0 ((s1.set (Int.toNat 0) ({ e15 with Ref_ := r12 } : T_impl_Thing)).map (c_T_impl_Thing false)).length) rfl (hd_len _ (List.length_set ..))) ?_
    refine TL.conv (Cs.eqV (t := 28) (v' := .hd 2 ((s1.set (Int.toNat 0) ({ e15 with Ref_ := r12 } : T_impl_Thing)).map (c_T_impl_Thing false)).length 0 ((s1.set (Int.toNat 0) ({ e15 with Ref_ := r12 } : T_impl_Thing)).map (c_T_impl_Thing false)).length) rfl (hd_len _ (List.length_set ..))) ?_
    refine TL.conv (Cs.eqV (t := 31) (v' := .el 2 ((s1.set (Int.toNat 0) ({ e15 with Ref_ := r12 } : T_impl_Thing)).map (c_T_impl_Thing false)).length (Int.toNat 0) 0) rfl (el_len _ _ _ (List.length_set ..))) ?_
    refine TL.conv (Cs.eqV (t := 32) (v' := .el 2 ((s1.set (Int.toNat 0) ({ e15 with Ref_ := r12 } : T_impl_Thing)).map (c_T_impl_Thing false)).length (Int.toNat 0) 0) rfl (el_len _ _ _ (List.length_set ..))) ?_
    refine au 2 ?_
    refine T.conv (Cs.eqS (σ' := [.box (c_T_spec_l1Cur c0 o13), _, .arr .clo 7 ((s1.set (Int.toNat 0) ({ e15 with Ref_ := r12 } : T_impl_Thing)).map (c_T_impl_Thing false)), _]) rfl) ?_
    refine au 4 ?_
    refine T.conv (Cs.wkF (M := 4) (.k 4 rfl rfl .nil)) ?_
    refine T.conv (Cs.reloc 3 2 rfl rfl (by decide) rfl rfl rfl (nomS_get rfl)) ?_
    refine T.conv (Cs.wkF (M := 4) (.k 4 rfl rfl .nil)) ?_
    refine T.conv (Cs.eqS (σ' := [_, _, .dead, .arr .clo 7 ((s1.set (Int.toNat 0) ({ e15 with Ref_ := r12 } : T_impl_Thing)).map (c_T_impl_Thing false))]) rfl) ?_
    refine T.ret ?_
    cases some_i H
    exact ⟨trivial, _, (.tmp _ _ _ _ rfl .nil), ⟨rfl, _, rfl⟩⟩
   ·refine au 5 ?_
    refine T.cH H (fun H h => ?_) (fun H h => ?_)
    ·refine au 3 ?_
     obtain ⟨⟨r17, o18⟩, h19, H⟩ := bind_s H
     refine TL.st rfl rfl rfl (o_callS [0] rfl en_12 rfl rfl (spec_l1Cur_thingRef_p c0 h19) rfl (by decide) (.cons _ _ _ _ rfl .nil) rfl rfl rfl) ?_
     refine TL.st rfl rfl rfl (o_move rfl rfl) ?_
     obtain ⟨⟨r20, o21⟩, h22, H⟩ := bind_s H
     refine TL.st rfl rfl rfl (o_callS [0] rfl en_12 rfl rfl (spec_l1Cur_thingRef_p c0 h22) rfl (by decide) (.cons _ _ _ _ rfl .nil) rfl rfl rfl) ?_
     refine TL.st rfl rfl rfl (o_sliceIm (rows := ([r17, r20] : List T_impl_Atom).map (c_T_impl_Atom false)) rfl rfl tyS_25 ⟨_, rfl, rfl⟩ (by decide) rfl rfl rfl rfl rfl rfl) ?_
     obtain ⟨e23, h24, H⟩ := bind_s H
     refine TL.st rfl rfl rfl (o_ixh (f := c_T_impl_Thing false) rfl rfl tyS_63 rfl rfl rfl rfl h24 rfl) ?_
     refine TL.st rfl rfl rfl (o_fieldAddrEl rfl rfl rfl tyS_28 (by decide) rfl rfl rfl) ?_
     refine TL.sn rfl rfl (o_stEl (f := c_T_impl_Thing false) (xs := s1) (k := 1) (a := e23) ({ e23 with Parents_ := ([r17, r20] : List T_impl_Atom) } : T_impl_Thing) rfl tyS_28 rfl rfl rfl rfl (by decide) h24 rfl rfl rfl (fun _ => rfl) rfl) ?_
     refine TL.conv (Cs.eqV (t := 1) (v' := .hd 2 ((s1.set (Int.toNat 1) ({ e23 with Parents_ := ([r17, r20] : List T_impl_Atom) } : T_impl_Thing)).map (c_T_impl_Thing false)).length 0 ((s1.set (Int.toNat 1) ({ e23 with Parents_ := ([r17, r20] : List T_impl_Atom) } : T_impl_Thing)).map (c_T_impl_Thing false)).length) rfl (hd_len _ (List.length_set ..))) ?_
     refine TL.conv (Cs.eqV (t := 7) (v' := .hd 2 ((s1.set (Int.toNat 1) ({ e23 with Parents_ := ([r17, r20] : List T_impl_Atom) } : T_impl_Thing)).map (c_T_impl_Thing false)).length 0 ((s1.set (Int.toNat 1) ({ e23 with Parents_ := ([r17, r20] : List T_impl_Atom) } : T_impl_Thing)).map (c_T_impl_Thing false)).length) rfl (hd_len _ (List.length_set ..))) ?_
     refine TL.conv (Cs.eqV (t := 35) (v' := .hd 2 ((s1.set (Int.toNat 1) ({ e23 with Parents_ := ([r17, r20] : List T_impl_Atom) } : T_impl_Thing)).map (c_T_impl_Thing false)).length 0 ((s1.set (Int.toNat 1) ({ e23 with Parents_ := ([r17, r20] : List T_impl_Atom) } : T_impl_Thing)).map (c_T_impl_Thing false)).length) rfl (hd_len _ (List.length_set ..))) ?_
     refine TL.conv (Cs.eqV (t := 41) (v' := .el 2 ((s1.set (Int.toNat 1) ({ e23 with Parents_ := ([r17, r20] : List T_impl_Atom) } : T_impl_Thing)).map (c_T_impl_Thing false)).length (Int.toNat 1) 0) rfl (el_len _ _ _ (List.length_set ..))) ?_
     refine TL.conv (Cs.eqV (t := 42) (v' := .el 2 ((s1.set (Int.toNat 1) ({ e23 with Parents_ := ([r17, r20] : List T_impl_Atom) } : T_impl_Thing)).map (c_T_impl_Thing false)).length (Int.toNat 1) 4) rfl (el_len _ _ _ (List.length_set ..))) ?_
     refine au 2 ?_
     refine T.conv (Cs.eqS (σ' := [.box (c_T_spec_l1Cur c0 o21), _, .arr .clo 7 ((s1.set (Int.toNat 1) ({ e23 with Parents_ := ([r17, r20] : List T_impl_Atom) } : T_impl_Thing)).map (c_T_impl_Thing false)), _]) rfl) ?_
     refine au 4 ?_
     refine T.conv (Cs.wkF (M := 4) (.k 4 rfl rfl .nil)) ?_
     refine T.conv (Cs.reloc 3 2 rfl rfl (by decide) rfl rfl rfl (nomS_get rfl)) ?_
     refine T.conv (Cs.wkF (M := 4) (.k 4 rfl rfl .nil)) ?_
     refine T.conv (Cs.eqS (σ' := [_, _, .dead, .arr .clo 7 ((s1.set (Int.toNat 1) ({ e23 with Parents_ := ([r17, r20] : List T_impl_Atom) } : T_impl_Thing)).map (c_T_impl_Thing false))]) rfl) ?_
     refine T.ret ?_
     cases some_i H
     exact ⟨trivial, _, (.tmp _ _ _ _ rfl .nil), ⟨rfl, _, rfl⟩⟩
    ·refine au 5 ?_
     refine T.cH H (fun H h => ?_) (fun H h => ?_)
     ·refine au 3 ?_
      refine TL.st rfl rfl rfl (o_sliceIm (rows := ([(ByteArray.mk #[97])] : List ByteArray).map (c_str)) rfl rfl tyS_9 ⟨_, rfl, rfl⟩ (by decide) rfl rfl rfl rfl rfl rfl) ?_
      obtain ⟨e25, h26, H⟩ := bind_s H
      refine TL.st rfl rfl rfl (o_ixh (f := c_T_impl_Thing false) rfl rfl tyS_63 rfl rfl rfl rfl h26 rfl) ?_
      refine TL.st rfl rfl rfl (o_fieldAddrEl rfl rfl rfl tyS_40 (by decide) rfl rfl rfl) ?_
      refine TL.sn rfl rfl (o_stEl (f := c_T_impl_Thing false) (xs := s1) (k := 0) (a := e25) ({ e25 with Names_ := ([(ByteArray.mk #[97])] : List ByteArray) } : T_impl_Thing) rfl tyS_40 rfl rfl rfl rfl (by decide) h26 rfl rfl rfl (fun _ => rfl) rfl) ?_
      refine TL.conv (Cs.eqV (t := 1) (v' := .hd 2 ((s1.set (Int.toNat 0) ({ e25 with Names_ := ([(ByteArray.mk #[97])] : List ByteArray) } : T_impl_Thing)).map (c_T_impl_Thing false)).length 0 ((s1.set (Int.toNat 0) ({ e25 with Names_ := ([(ByteArray.mk #[97])] : List ByteArray) } : T_impl_Thing)).map (c_T_impl_Thing false)).length) rfl (hd_len _ (List.length_set ..))) ?_
      refine TL.conv (Cs.eqV (t := 7) (v' := .hd 2 ((s1.set (Int.toNat 0) ({ e25 with Names_ := ([(ByteArray.mk #[97])] : List ByteArray) } : T_impl_Thing)).map (c_T_impl_Thing false)).length 0 ((s1.set (Int.toNat 0) ({ e25 with Names_ := ([(ByteArray.mk #[97])] : List ByteArray) } : T_impl_Thing)).map (c_T_impl_Thing false)).length) rfl (hd_len _ (List.length_set ..))) ?_
      refine TL.conv (Cs.eqV (t := 45) (v' := .hd 2 ((s1.set (Int.toNat 0) ({ e25 with Names_ := ([(ByteArray.mk #[97])] : List ByteArray) } : T_impl_Thing)).map (c_T_impl_Thing false)).length 0 ((s1.set (Int.toNat 0) ({ e25 with Names_ := ([(ByteArray.mk #[97])] : List ByteArray) } : T_impl_Thing)).map (c_T_impl_Thing false)).length) rfl (hd_len _ (List.length_set ..))) ?_
      refine TL.conv (Cs.eqV (t := 47) (v' := .el 2 ((s1.set (Int.toNat 0) ({ e25 with Names_ := ([(ByteArray.mk #[97])] : List ByteArray) } : T_impl_Thing)).map (c_T_impl_Thing false)).length (Int.toNat 0) 0) rfl (el_len _ _ _ (List.length_set ..))) ?_
      refine TL.conv (Cs.eqV (t := 48) (v' := .el 2 ((s1.set (Int.toNat 0) ({ e25 with Names_ := ([(ByteArray.mk #[97])] : List ByteArray) } : T_impl_Thing)).map (c_T_impl_Thing false)).length (Int.toNat 0) 5) rfl (el_len _ _ _ (List.length_set ..))) ?_
      refine au 5 ?_
      obtain ⟨⟨r27, o28⟩, h29, H⟩ := bind_s H
      refine TL.st rfl rfl rfl (o_callS [0] rfl en_38 rfl rfl (spec_l1Cur_value_o c0 h29) rfl (by decide) (.cons _ _ _ _ rfl .nil) rfl rfl rfl) ?_
      obtain ⟨⟨r30, o31⟩, h32, H⟩ := bind_s H
      refine TL.st rfl rfl rfl (o_callS [0, 4, 5] rfl en_37 rfl rfl (spec_l1Cur_oddValuex_o c0 h32) rfl (by decide) (.cons _ _ _ _ rfl (.cons _ _ _ _ rfl (.cons _ _ _ _ rfl .nil))) rfl rfl rfl) ?_
      refine TL.conv (Cs.frzAgg (t := 53) 5 rfl rfl rfl rfl) ?_
      refine TL.conv (Cs.kill (p := 8) rfl) ?_
      refine TL.conv (Cs.frzAgg (t := 53) 6 rfl rfl rfl rfl) ?_
      refine TL.conv (Cs.kill (p := 9) rfl) ?_
      refine TL.st rfl rfl rfl (o_sliceIm (rows := ([r30] : List T_impl_Value).map (c_T_impl_Value false)) rfl rfl tyS_83 ⟨_, rfl, rfl⟩ (by decide) rfl rfl rfl rfl rfl rfl) ?_
      obtain ⟨e33, h34, H⟩ := bind_s H
      refine TL.st rfl rfl rfl (o_ixh (f := c_T_impl_Thing false) rfl rfl tyS_63 rfl rfl rfl rfl h34 rfl) ?_
      refine TL.st rfl rfl rfl (o_fieldAddrEl rfl rfl rfl tyS_41 (by decide) rfl rfl rfl) ?_
      refine TL.sn rfl rfl (o_stEl (f := c_T_impl_Thing false) (xs := (s1.set (Int.toNat 0) ({ e25 with Names_ := ([(ByteArray.mk #[97])] : List ByteArray) } : T_impl_Thing))) (k := 0) (a := e33) ({ e33 with Values_ := ([r30] : List T_impl_Value) } : T_impl_Thing) rfl tyS_41 rfl rfl rfl rfl (by decide) h34 rfl rfl rfl (fun _ => rfl) rfl) ?_
      refine TL.conv (Cs.eqV (t := 1) (v' := .hd 2 (((s1.set (Int.toNat 0) ({ e25 with Names_ := ([(ByteArray.mk #[97])] : List ByteArray) } : T_impl_Thing)).set (Int.toNat 0) ({ e33 with Values_ := ([r30] : List T_impl_Value) } : T_impl_Thing)).map (c_T_impl_Thing false)).length 0 (((s1.set (Int.toNat 0) ({ e25 with Names_ := ([(ByteArray.mk #[97])] : List ByteArray) } : T_impl_Thing)).set (Int.toNat 0) ({ e33 with Values_ := ([r30] : List T_impl_Value) } : T_impl_Thing)).map (c_T_impl_Thing false)).length) rfl (hd_len _ (List.length_set ..))) ?_
      refine TL.conv (Cs.eqV (t := 7) (v' := .hd 2 (((s1.set (Int.toNat 0) ({ e25 with Names_ := ([(ByteArray.mk #[97])] : List ByteArray) } : T_impl_Thing)).set (Int.toNat 0) ({ e33 with Values_ := ([r30] : List T_impl_Value) } : T_impl_Thing)).map (c_T_impl_Thing false)).length 0 (((s1.set (Int.toNat 0) ({ e25 with Names_ := ([(ByteArray.mk #[97])] : List ByteArray) } : T_impl_Thing)).set (Int.toNat 0) ({ e33 with Values_ := ([r30] : List T_impl_Value) } : T_impl_Thing)).map (c_T_impl_Thing false)).length) rfl (hd_len _ (List.length_set ..))) ?_
      refine TL.conv (Cs.eqV (t := 45) (v' := .hd 2 (((s1.set (Int.toNat 0) ({ e25 with Names_ := ([(ByteArray.mk #[97])] : List ByteArray) } : T_impl_Thing)).set (Int.toNat 0) ({ e33 with Values_ := ([r30] : List T_impl_Value) } : T_impl_Thing)).map (c_T_impl_Thing false)).length 0 (((s1.set (Int.toNat 0) ({ e25 with Names_ := ([(ByteArray.mk #[97])] : List ByteArray) } : T_impl_Thing)).set (Int.toNat 0) ({ e33 with Values_ := ([r30] : List T_impl_Value) } : T_impl_Thing)).map (c_T_impl_Thing false)).length) rfl (hd_len _ (List.length_set ..))) ?_
      refine TL.conv (Cs.eqV (t := 47) (v' := .el 2 (((s1.set (Int.toNat 0) ({ e25 with Names_ := ([(ByteArray.mk #[97])] : List ByteArray) } : T_impl_Thing)).set (Int.toNat 0) ({ e33 with Values_ := ([r30] : List T_impl_Value) } : T_impl_Thing)).map (c_T_impl_Thing false)).length (Int.toNat 0) 0) rfl (el_len _ _ _ (List.length_set ..))) ?_
      refine TL.conv (Cs.eqV (t := 48) (v' := .el 2 (((s1.set (Int.toNat 0) ({ e25 with Names_ := ([(ByteArray.mk #[97])] : List ByteArray) } : T_impl_Thing)).set (Int.toNat 0) ({ e33 with Values_ := ([r30] : List T_impl_Value) } : T_impl_Thing)).map (c_T_impl_Thing false)).length (Int.toNat 0) 5) rfl (el_len _ _ _ (List.length_set ..))) ?_
      refine TL.conv (Cs.eqV (t := 49) (v' := .hd 2 (((s1.set (Int.toNat 0) ({ e25 with Names_ := ([(ByteArray.mk #[97])] : List ByteArray) } : T_impl_Thing)).set (Int.toNat 0) ({ e33 with Values_ := ([r30] : List T_impl_Value) } : T_impl_Thing)).map (c_T_impl_Thing false)).length 0 (((s1.set (Int.toNat 0) ({ e25 with Names_ := ([(ByteArray.mk #[97])] : List ByteArray) } : T_impl_Thing)).set (Int.toNat 0) ({ e33 with Values_ := ([r30] : List T_impl_Value) } : T_impl_Thing)).map (c_T_impl_Thing false)).length) rfl (hd_len _ (List.length_set ..))) ?_
      refine TL.conv (Cs.eqV (t := 55) (v' := .el 2 (((s1.set (Int.toNat 0) ({ e25 with Names_ := ([(ByteArray.mk #[97])] : List ByteArray) } : T_impl_Thing)).set (Int.toNat 0) ({ e33 with Values_ := ([r30] : List T_impl_Value) } : T_impl_Thing)).map (c_T_impl_Thing false)).length (Int.toNat 0) 0) rfl (el_len _ _ _ (List.length_set ..))) ?_
      refine TL.conv (Cs.eqV (t := 56) (v' := .el 2 (((s1.set (Int.toNat 0) ({ e25 with Names_ := ([(ByteArray.mk #[97])] : List ByteArray) } : T_impl_Thing)).set (Int.toNat 0) ({ e33 with Values_ := ([r30] : List T_impl_Value) } : T_impl_Thing)).map (c_T_impl_Thing false)).length (Int.toNat 0) 6) rfl (el_len _ _ _ (List.length_set ..))) ?_
      refine au 2 ?_
      refine T.conv (Cs.eqS (σ' := [.box (c_T_spec_l1Cur c0 o31), _, .arr .clo 7 (((s1.set (Int.toNat 0) ({ e25 with Names_ := ([(ByteArray.mk #[97])] : List ByteArray) } : T_impl_Thing)).set (Int.toNat 0) ({ e33 with Values_ := ([r30] : List T_impl_Value) } : T_impl_Thing)).map (c_T_impl_Thing false)), _, .dead, .dead, .dead, .dead, .dead, .dead]) rfl) ?_
      refine au 4 ?_
      refine T.conv (Cs.wkF (M := 10) (.k 4 rfl rfl .nil)) ?_
      refine T.conv (Cs.reloc 3 2 rfl rfl (by decide) rfl rfl rfl (nomS_get rfl)) ?_
      refine T.conv (Cs.wkF (M := 10) (.k 4 rfl rfl .nil)) ?_
      refine T.conv (Cs.eqS (σ' := [_, _, .dead, .arr .clo 7 (((s1.set (Int.toNat 0) ({ e25 with Names_ := ([(ByteArray.mk #[97])] : List ByteArray) } : T_impl_Thing)).set (Int.toNat 0) ({ e33 with Values_ := ([r30] : List T_impl_Value) } : T_impl_Thing)).map (c_T_impl_Thing false)), _, _, _, _, _, _]) rfl) ?_
      refine T.ret ?_
      cases some_i H
      exact ⟨trivial, _, (.tmp _ _ _ _ rfl .nil), ⟨rfl, _, rfl⟩⟩
     ·refine au 5 ?_
      refine T.cH H (fun H h => ?_) (fun H h => ?_)
      ·refine au 3 ?_
       obtain ⟨⟨r35, o36⟩, h37, H⟩ := bind_s H
       refine TL.st rfl rfl rfl (o_callS [0] rfl en_33 rfl rfl (spec_l1Cur_pick_p c0 h37) rfl (by decide) (.cons _ _ _ _ rfl .nil) rfl rfl rfl) ?_
       refine au 4 ?_
       obtain ⟨l39, h48, H⟩ := bind_s H
       refine T.lq (fun s => match s with | l38 => [(1, .hd 2 (l38.map (c_T_impl_Thing false)).length 0 (l38.map (c_T_impl_Thing false)).length), (6, .int .i64 (IntKind.i64.wrap (99 + r35)))]) (fun s => match s with | l38 => [.box (c_T_spec_l1Cur c0 o36), .dead, .arr .clo 7 (l38.map (c_T_impl_Thing false)), .dead]) (fun q ex fr σ => match q with | l39 => ex = .exit 1 ∧ fr = [(1, .hd 2 (l39.map (c_T_impl_Thing false)).length 0 (l39.map (c_T_impl_Thing false)).length)] ∧ σ = [.box (c_T_spec_l1Cur c0 o36), .dead, .arr .clo 7 (l39.map (c_T_impl_Thing false)), .dead]) h48 ?_ ?_
       ·rintro l38 y40 H
        refine au 4 ?_
        refine TL.st rfl rfl rfl (o_lenOwn (f := c_T_impl_Thing false) rfl rfl rfl rfl rfl) ?_
        refine au 3 ?_
        refine T.cH H (fun H h => ?_) (fun H h => ?_)
        ·refine au 5 ?_
         refine TL.st rfl rfl rfl (o_lenOwn (f := c_T_impl_Thing false) rfl rfl rfl rfl rfl) ?_
         refine TL.st rfl rfl rfl (o_ari rfl rfl rfl rfl) ?_
         obtain ⟨r41, h42, H⟩ := bind_s H
         refine TL.st rfl rfl rfl (o_callP rfl en_39 rfl rfl (.cons _ _ _ _ (.cl _ rfl) .nil) (spec_l1Num_p  h42)) ?_
         obtain ⟨r43, h44, H⟩ := bind_s H
         refine TL.st rfl rfl rfl (o_callP rfl en_27 rfl rfl (.cons _ _ _ _ (.cl _ rfl) (.cons _ _ _ _ (.cl _ rfl) .nil)) (spec_l10Ref_p  h44)) ?_
         refine TL.st rfl rfl rfl (Does.wk (o_build rfl ⟨_, fun _ => rfl, rfl⟩ rfl rfl rfl) (.aggL (.cons _ _ _ _ (.same _) (.cons _ _ _ _ (.same _) (.cons _ _ _ _ (.same _) (.cons _ _ _ _ (.same _) (.cons _ _ _ _ .nil (.cons _ _ _ _ .nil (.cons _ _ _ _ .nil .nil))))))))) ?_
         refine TL.st rfl rfl rfl (o_sliceIm (rows := ([(⟨r43, ([] : List T_impl_Atom), ([] : List ByteArray), ([] : List T_impl_Value)⟩ : T_impl_Thing)] : List T_impl_Thing).map (c_T_impl_Thing false)) rfl rfl tyS_63 ⟨_, rfl, rfl⟩ (by decide) rfl rfl rfl rfl rfl rfl) ?_
         obtain ⟨l45, h46, H⟩ := bind_s H
         refine TL.st rfl rfl rfl (o_ap (f := c_T_impl_Thing false) (xs := l38) (ys := ([(⟨r43, ([] : List T_impl_Atom), ([] : List ByteArray), ([] : List T_impl_Value)⟩ : T_impl_Thing)] : List T_impl_Thing)) rfl rfl tyE_63 rfl rfl rfl rfl (by decide) rfl (fun _ => rfl) h46) ?_
         refine au 2 ?_
         refine inB_normal ?_
         exact Pk.of (thn_normal ⟨l45, (some_i H).symm, rfl, rfl⟩)
        ·refine T.exit ?_
         refine thn_exit ?_
         exact Pk.of (thn_exit ⟨l38, (some_i H).symm, rfl, rfl, rfl⟩)
       ·rintro _ _ _ ⟨rfl, rfl, rfl⟩
        refine inB_here ?_
        refine au 5 ?_
        refine T.conv (Cs.wkF (M := 4) (.k 4 rfl rfl .nil)) ?_
        refine T.conv (Cs.reloc 3 2 rfl rfl (by decide) rfl rfl rfl (nomS_get rfl)) ?_
        refine T.conv (Cs.wkF (M := 4) (.k 4 rfl rfl .nil)) ?_
        refine T.conv (Cs.eqS (σ' := [_, _, .dead, .arr .clo 7 (l39.map (c_T_impl_Thing false))]) rfl) ?_
        refine T.ret ?_
        cases some_i H
        exact ⟨trivial, _, (.tmp _ _ _ _ rfl .nil), ⟨rfl, _, rfl⟩⟩
      ·refine au 6 ?_
       refine T.conv (Cs.wkF (M := 4) (.k 4 rfl rfl .nil)) ?_
       refine T.conv (Cs.reloc 3 2 rfl rfl (by decide) rfl rfl rfl (nomS_get rfl)) ?_
       refine T.conv (Cs.wkF (M := 4) (.k 4 rfl rfl .nil)) ?_
       refine T.conv (Cs.eqS (σ' := [.box (c_T_spec_l1Cur c0 o2), _, .dead, .arr .clo 7 (s1.map (c_T_impl_Thing false))]) rfl) ?_
       refine T.ret ?_
       cases some_i H
       exact ⟨trivial, _, (.tmp _ _ _ _ rfl .nil), ⟨rfl, _, rfl⟩⟩
theorem en_15 : En Tryz.prog 15 := .of Tryz.func15 rfl rfl
noncomputable def spec_DrawAncestors_j1 (r4 : (List T_impl_Thing)) (b11 : T_spec_l1Cur) (b12 : T_impl_Atom) : Option ((List T_impl_Thing) × T_impl_Atom) :=
  (spec_l1Cur_oddThingsx b11 r4).bind fun q => (match q with | (r13, o14) => some (r13, b12))
noncomputable def spec_DrawAncestors (a0 : (List Int)) : Option ((List T_impl_Thing) × T_impl_Atom) :=
  (spec_l1Cur_polSchema (⟨a0, 0, 0⟩ : T_spec_l1Cur)).bind fun q => (match q with | (r1, o2) => (spec_l1Cur_world r1 o2).bind fun q => (match q with | (r4, r5, o6) => (spec_l1Cur_thingRef o6).bind fun q => (match q with | (r8, o9) => (spec_l1Cur_one 20 o9).bind fun q => (match q with | (r16, o17) => cond r16 ((spec_l1Cur_atom o17).bind fun q => (match q with | (r19, o20) => spec_DrawAncestors_j1 r4 o20 r19)) (spec_DrawAncestors_j1 r4 o17 r8)))))
theorem spec_DrawAncestors_p (b0 : Bool) {a0 : (List Int)} {R0 : (List T_impl_Thing)} {R1 : T_impl_Atom} (H : spec_DrawAncestors a0 = some (R0, R1)) : Pure Tryz.prog 4 [.im b0 (a0.map (c_int .u8))] (.tup [.im false (R0.map (c_T_impl_Thing false)), .agg (c_T_impl_Atom false R1)]) := by
 refine CallT.of_TN (n := 28) Tryz.func4 rfl rfl rfl rfl ?_
 refine au 16 ?_
 obtain ⟨⟨r1, o2⟩, h3, H⟩ := bind_s H
 refine TL.st rfl rfl rfl (o_callS [1] rfl en_11 rfl rfl (spec_l1Cur_polSchema_p b0 h3) rfl (by decide) (.cons _ _ _ _ rfl .nil) rfl rfl rfl) ?_
 obtain ⟨⟨r4, r5, o6⟩, h7, H⟩ := bind_s H
 refine TL.st rfl rfl rfl (o_callS [1] rfl en_10 rfl rfl (spec_l1Cur_world_o false b0 h7) rfl (by decide) (.cons _ _ _ _ rfl .nil) rfl rfl rfl) ?_
 refine au 5 ?_
 refine TL.sn rfl rfl (o_storeBx rfl tyS_43 rfl rfl rfl rfl (nb rfl) (sure_c rfl (sure_c rfl (sure_c rfl (sure_c rfl (sure_c rfl (sure_c rfl (sure_c rfl (sure_c rfl (sure_c rfl (sure_c rfl (sure_c rfl (sure_c rfl (sure_hd rfl rfl (sure_hd rfl rfl rfl))))))))))))))) ?_
 refine au 2 ?_
 refine T.conv (Cs.eqS (σ' := [.box [.int .i64 0, .int .i64 0, .str e0, .str e0], .box (c_T_spec_l1Cur b0 o6), .arr .clo 7 (r4.map (c_T_impl_Thing false)), .arr .clo 1 (r5.Names_.map (c_str)), .arr .clo 7 (r5.Values_.map (c_T_impl_Value false)), .box (k_impl_Request 3 4 false r5)]) rfl) ?_
 refine au 2 ?_
 obtain ⟨⟨r8, o9⟩, h10, H⟩ := bind_s H
 refine TL.st rfl rfl rfl (o_callS [1] rfl en_12 rfl rfl (spec_l1Cur_thingRef_p b0 h10) rfl (by decide) (.cons _ _ _ _ rfl .nil) rfl rfl rfl) ?_
 refine au 3 ?_
 refine T.cut (fun fr' σ' => ∃ (b11 : T_spec_l1Cur) (b12 : T_impl_Atom), fr' = [(3, .bx 0 0), (4, .bx 1 0), (5, .hd 2 (r4.map (c_T_impl_Thing false)).length 0 (r4.map (c_T_impl_Thing false)).length), (7, .bx 6 0)] ∧ σ' = [.box [.int .i64 0, .int .i64 0, .str e0, .str e0], .box (c_T_spec_l1Cur b0 b11), .arr .clo 7 (r4.map (c_T_impl_Thing false)), .arr .clo 1 (r5.Names_.map (c_str)), .arr .clo 7 (r5.Values_.map (c_T_impl_Value false)), .box (k_impl_Request 3 4 false r5), .box (c_T_impl_Atom false b12)] ∧ spec_DrawAncestors_j1 r4 b11 b12 = some (R0, R1)) (T.pk ?_) ?_
 ·skip
  refine T.seq ?_
  refine T.conv (Cs.eqS (σ' := [_, .box (c_T_spec_l1Cur b0 o9), _, _, _, _, .box (c_T_impl_Atom false r8)]) rfl) ?_
  refine au 2 ?_
  obtain ⟨⟨r16, o17⟩, h18, H⟩ := bind_s H
  refine TL.st rfl rfl rfl (o_callS [1] rfl en_13 rfl rfl (spec_l1Cur_one_p b0 h18) rfl (by decide) (.cons _ _ _ _ rfl .nil) rfl rfl rfl) ?_
  refine TL.nil ?_
  refine T.cH H (fun H h => ?_) (fun H h => ?_)
  ·refine au 2 ?_
   obtain ⟨⟨r19, o20⟩, h21, H⟩ := bind_s H
   refine TL.st rfl rfl rfl (o_callS [1] rfl en_14 rfl rfl (spec_l1Cur_atom_p b0 h21) rfl (by decide) (.cons _ _ _ _ rfl .nil) rfl rfl rfl) ?_
   refine au 2 ?_
   exact Pk.of (thn_normal ⟨o20, r19, rfl, rfl, H⟩)
  ·refine T.skip ?_
   exact Pk.of (thn_normal ⟨o17, r8, rfl, rfl, H⟩)
 ·rintro _ _ ⟨b11, b12, rfl, rfl, H⟩
  refine T.seq ?_
  obtain ⟨⟨r13, o14⟩, h15, H⟩ := bind_s H
  refine T.drawS (fr' := [(2, .hd 8 (r13.map (c_T_impl_Thing false)).length 0 (r13.map (c_T_impl_Thing false)).length), (3, .bx 0 0), (4, .bx 1 0), (5, .hd 2 (r4.map (c_T_impl_Thing false)).length 0 (r4.map (c_T_impl_Thing false)).length), (7, .bx 6 0), (24, .bx 1 0), (25, .hd 2 (r4.map (c_T_impl_Thing false)).length 0 (r4.map (c_T_impl_Thing false)).length), (26, .hd 8 (r13.map (c_T_impl_Thing false)).length 0 (r13.map (c_T_impl_Thing false)).length), (27, .agg (c_T_impl_Atom false b12))]) (R := [⟨some 24, .bx 1 0, .q, []⟩, ⟨some 25, .hd 2 (r4.map (c_T_impl_Thing false)).length 0 (r4.map (c_T_impl_Thing false)).length, .q, []⟩, ⟨some 26, .hd 8 (r13.map (c_T_impl_Thing false)).length 0 (r13.map (c_T_impl_Thing false)).length, .q, []⟩, ⟨some 27, .agg (c_T_impl_Atom false b12), .q, []⟩, ⟨some 2, .hd 8 (r13.map (c_T_impl_Thing false)).length 0 (r13.map (c_T_impl_Thing false)).length, .q, []⟩, ⟨none, .any, .q, []⟩]) (fun b => cond (b 2) (cond (b 5) ([.box (c_T_impl_Atom false b12), .box (c_T_spec_l1Cur b0 o14), .dead, .arr .clo 1 (r5.Names_.map (c_str)), .arr .clo 7 (r5.Values_.map (c_T_impl_Value false)), .box (k_impl_Request 3 4 false r5), .box (c_T_impl_Atom false b12), .dead, .arr .clo 7 (r13.map (c_T_impl_Thing false))]) ([.box [.int .i64 0, .int .i64 0, .str e0, .str e0], .box (c_T_spec_l1Cur b0 o14), .dead, .arr .clo 1 (r5.Names_.map (c_str)), .arr .clo 7 (r5.Values_.map (c_T_impl_Value false)), .box (k_impl_Request 3 4 false r5), .box (c_T_impl_Atom false b12), .dead, .arr .clo 7 (r13.map (c_T_impl_Thing false))])) ([.box [.int .i64 0, .int .i64 0, .str e0, .str e0], .box (c_T_spec_l1Cur b0 b11), .arr .clo 7 (r4.map (c_T_impl_Thing false)), .arr .clo 1 (r5.Names_.map (c_str)), .arr .clo 7 (r5.Values_.map (c_T_impl_Value false)), .box (k_impl_Request 3 4 false r5), .box (c_T_impl_Atom false b12)])) rfl ?_ ?_ rfl rfl (FrL.get (.cons rfl (.cons rfl (.cons rfl (.cons rfl (.cons rfl (.cons rfl (.cons rfl (.cons rfl (.cons rfl .nil)))))))))) ?_
  ·refine .cons _ _ _ _ _ ⟨rfl, [(4, .bx 1 0)], AllN.get rfl (.cons rfl .nil), fun b hd hn hk hc => ?_⟩ ?_
   ·exact ops_at (cdf (hn 2 rfl)) rfl (o_move rfl rfl) (cdf ((updb_ne rfl).trans (hn 2 rfl))) rfl
   refine .cons _ _ _ _ _ ⟨rfl, [(5, .hd 2 (r4.map (c_T_impl_Thing false)).length 0 (r4.map (c_T_impl_Thing false)).length)], AllN.get rfl (.cons rfl .nil), fun b hd hn hk hc => ?_⟩ ?_
   ·exact ops_at (cdf (hn 2 rfl)) rfl (o_move rfl rfl) (cdf ((updb_ne rfl).trans (hn 2 rfl))) rfl
   refine .cons _ _ _ _ _ ⟨rfl, [(24, .bx 1 0), (25, .hd 2 (r4.map (c_T_impl_Thing false)).length 0 (r4.map (c_T_impl_Thing false)).length)], AllN.get rfl (.cons rfl (.cons rfl .nil)), fun b hd hn hk hc => ?_⟩ ?_
   ·exact ops_at (cdf hk) rfl (o_callS [1, 2] rfl en_15 rfl rfl (spec_l1Cur_oddThingsx_o b0 h15) rfl (by decide) (.cons _ _ _ _ rfl (.cons _ _ _ _ rfl .nil)) rfl rfl rfl) (((cdt updb_self).trans (cdf ((updb_ne rfl).trans (hn 5 rfl)))).trans rfl) rfl
   refine .cons _ _ _ _ _ ⟨rfl, [(7, .bx 6 0)], AllN.get rfl (.cons rfl .nil), fun b hd hn hk hc => ?_⟩ ?_
   ·cases e2 : b 2
    ·exact ops_at (cdf e2) rfl (o_loadBx rfl tyS_25 rfl rfl (nb rfl) rfl) (cdf ((updb_ne rfl).trans e2)) rfl
    ·exact ops_at ((cdt e2).trans (cdf (hn 5 rfl))) rfl (o_loadBx rfl tyS_25 rfl rfl (nb rfl) rfl) ((cdt ((updb_ne rfl).trans e2)).trans (cdf ((updb_ne rfl).trans (hn 5 rfl)))) rfl
   refine .cons _ _ _ _ _ ⟨rfl, [(26, .hd 8 (r13.map (c_T_impl_Thing false)).length 0 (r13.map (c_T_impl_Thing false)).length)], AllN.get rfl (.cons rfl .nil), fun b hd hn hk hc => ?_⟩ ?_
   ·exact ops_at ((cdt (hd 2 rfl)).trans (cdf (hn 5 rfl))) rfl (o_assign rfl rfl) ((cdt ((updb_ne rfl).trans (hd 2 rfl))).trans (cdf ((updb_ne rfl).trans (hn 5 rfl)))) rfl
   refine .cons _ _ _ _ _ ⟨rfl, [(3, .bx 0 0), (27, .agg (c_T_impl_Atom false b12))], AllN.get rfl (.cons rfl (.cons rfl .nil)), fun b hd hn hk hc => ?_⟩ ?_
   ·exact ops_at ((cdt (hd 2 rfl)).trans (cdf hk)) rfl (o_storeBx rfl tyS_25 rfl rfl rfl rfl (nb rfl) rfl) (((cdt ((updb_ne rfl).trans (hd 2 rfl))).trans (cdt updb_self)).trans rfl) rfl
   exact .nil _
  ·intro b b' h; simp only [h 2 (by decide), h 5 (by decide)]
  refine T.ret ?_
  cases some_i H
  exact ⟨trivial, _, (.tmp _ _ _ _ rfl (.cell _ _ _ _ _ _ _ _ _ _ rfl rfl tyS_25 (nb rfl) rfl .nil)), (.tupL (.cons _ _ _ _ (.own rfl (by decide) rfl) (.cons _ _ _ _ (.cl _ rfl) .nil)))⟩
theorem en_4 : En Tryz.prog 4 := .of Tryz.func4 rfl rfl
theorem en_5 : En Tryz.prog 5 := .of Tryz.func5 rfl rfl
noncomputable def spec_l1Printed_l1 (a0 : ByteArray) : Int → Option (Int ⊕ (Unit ⊕ Bool)) := fun s => match s with
  | v1 => cond (decide (v1 < (a0.size : Int))) ((idxS a0 v1).bind fun b4 => (gdO (!(decide (b4 < 32))) (idxS a0 v1)).bind fun b6 => cond (decide (b4 < 32) || decide (b6 > 126)) (some (.inr (.inr false))) (some (.inl (IntKind.i64.wrap (v1 + 1))))) (some (.inr (.inl ())))
noncomputable def spec_l1Printed (a0 : ByteArray) : Option Bool :=
  (loopO (spec_l1Printed_l1 a0) 0).bind fun q8 => (match q8 with | .inl _ => some true | .inr q2 => some q2)
theorem spec_l1Printed_p  {a0 : ByteArray} {R0 : Bool} (H : spec_l1Printed a0 = some R0) : Pure Tryz.prog 88 [.str a0] (.bool R0) := by
 refine CallT.of_TN (n := 20) Tryz.func88 rfl rfl rfl rfl ?_
 refine au 10 ?_
 obtain ⟨q8, h9, H⟩ := bind_s H
 refine T.lq (fun s => match s with | v1 => [(0, .str a0), (3, .int .i64 v1)]) (fun s => match s with | v1 => []) (fun q ex fr σ => match q with | .inl _ => ex = .exit 0 ∧ fr = [] ∧ σ = [] | .inr q2 => ex = .ret ∧ RetN Tryz.prog [.tmp 2] (fun v τ => Told τ v (.bool q2)) .ret fr σ) h9 ?_ ?_
 ·rintro v1 y3 H
  refine au 8 ?_
  refine T.cH H (fun H h => ?_) (fun H h => ?_)
  ·refine au 7 ?_
   obtain ⟨b4, h5, H⟩ := bind_s H
   refine TL.st rfl rfl rfl (o_ixs rfl rfl rfl rfl h5) ?_
   refine au 4 ?_
   obtain ⟨b6, h7, H⟩ := bind_s H
   refine TL.gcq rfl rfl rfl (.bool _) rfl rfl (fun h => o_ixs rfl rfl (gv h rfl) (gv h rfl) (gdO_t h7 h)) ?_
   refine au 3 ?_
   refine T.cH H (fun H h => ?_) (fun H h => ?_)
   ·refine au 5 ?_
    refine inB_ret (thn_ret ?_)
    exact Pk.id (thn_ret ⟨.inr false, (some_i H).symm, rfl, ⟨trivial, _, (.tmp _ _ _ _ rfl .nil), (.cl _ rfl)⟩⟩)
   ·refine au 6 ?_
    exact Pk.of (thn_normal ⟨(IntKind.i64.wrap (v1 + 1)), (some_i H).symm, rfl, rfl⟩)
  ·refine T.exit ?_
   refine thn_exit ?_
   exact Pk.of (thn_exit ⟨.inl (), (some_i H).symm, rfl, rfl, rfl⟩)
 ·rcases q8 with ⟨⟩ | q2
  ·rintro _ _ _ ⟨rfl, rfl, rfl⟩
   refine inB_here ?_
   refine au 5 ?_
   cases some_i H
   exact ⟨trivial, _, (.tmp _ _ _ _ rfl .nil), (.cl _ rfl)⟩
  ·rintro _ fr1 σ1 ⟨rfl, hr⟩
   refine inB_ret (thn_ret ?_)
   cases some_i H
   exact hr
theorem en_88 : En Tryz.prog 88 := .of Tryz.func88 rfl rfl
noncomputable def spec_l1Digit (a0 : Int) : Option Bool :=
  some (decide (a0 ≥ 48) && decide (a0 ≤ 57))
theorem spec_l1Digit_p  {a0 : Int} {R0 : Bool} (H : spec_l1Digit a0 = some R0) : Pure Tryz.prog 104 [.int .u8 a0] (.bool R0) := by
 refine CallT.of_TN (n := 9) Tryz.func104 rfl rfl rfl rfl ?_
 refine au 15 ?_
 cases some_i H
 exact ⟨trivial, _, (.tmp _ _ _ _ rfl .nil), (.cl _ rfl)⟩
theorem en_104 : En Tryz.prog 104 := .of Tryz.func104 rfl rfl
noncomputable def spec_l1Letter (a0 : Int) : Option Bool :=
  some ((decide (a0 ≥ 97) && decide (a0 ≤ 122)) || (decide (a0 ≥ 65) && decide (a0 ≤ 90)))
theorem spec_l1Letter_p  {a0 : Int} {R0 : Bool} (H : spec_l1Letter a0 = some R0) : Pure Tryz.prog 105 [.int .u8 a0] (.bool R0) := by
 refine CallT.of_TN (n := 17) Tryz.func105 rfl rfl rfl rfl ?_
 refine au 15 ?_
 refine TL.gcq rfl rfl rfl (.bool _) rfl rfl (fun h => o_move rfl (gv h rfl)) ?_
 refine TL.gcq rfl rfl rfl (.gd _ _) rfl rfl (fun h => o_move rfl rfl) ?_
 refine TL.gcq rfl rfl rfl (.gd _ _) rfl rfl (fun h => o_ari rfl (gv h rfl) rfl rfl) ?_
 refine TL.gcq rfl rfl rfl (.bool _) rfl rfl (fun h => o_and rfl (gv h rfl) rfl (fun k => Gd_t (andi h k)) rfl) ?_
 refine au 4 ?_
 cases some_i H
 exact ⟨trivial, _, (.tmp _ _ _ _ rfl .nil), (.cl _ rfl)⟩
theorem en_105 : En Tryz.prog 105 := .of Tryz.func105 rfl rfl
noncomputable def spec_GoodName_l1 (a0 : ByteArray) : Int → Option (Int ⊕ (Unit ⊕ Bool)) := fun s => match s with
  | v5 => cond (decide (v5 < (a0.size : Int))) ((idxS a0 v5).bind fun b8 => (spec_l1Letter b8).bind fun r10 => (gdO (!r10) (idxS a0 v5)).bind fun b12 => (gdO (!r10) (spec_l1Digit b12)).bind fun r14 => (gdO ((!r10) && (!r14)) (idxS a0 v5)).bind fun b16 => cond (((!r10) && (!r14)) && (b16 != 95)) (some (.inr (.inr false))) (some (.inl (IntKind.i64.wrap (v5 + 1))))) (some (.inr (.inl ())))
noncomputable def spec_GoodName (a0 : ByteArray) : Option Bool :=
  (gdO (!(decide ((a0.size : Int) < 1) || decide ((a0.size : Int) > 30))) (idxS a0 0)).bind fun b1 => (gdO (!(decide ((a0.size : Int) < 1) || decide ((a0.size : Int) > 30))) (spec_l1Digit b1)).bind fun r3 => cond ((decide ((a0.size : Int) < 1) || decide ((a0.size : Int) > 30)) || r3) (some false) ((loopO (spec_GoodName_l1 a0) 0).bind fun q18 => (match q18 with | .inl _ => some true | .inr q6 => some q6))
theorem spec_GoodName_p  {a0 : ByteArray} {R0 : Bool} (H : spec_GoodName a0 = some R0) : Pure Tryz.prog 86 [.str a0] (.bool R0) := by
 refine CallT.of_TN (n := 41) Tryz.func86 rfl rfl rfl rfl ?_
 refine au 12 ?_
 refine TL.gcq rfl rfl rfl (.bool _) rfl rfl (fun h => o_lenS rfl rfl (gv h rfl)) ?_
 refine au 4 ?_
 obtain ⟨b1, h2, H⟩ := bind_s H
 refine TL.gcq rfl rfl rfl (.bool _) rfl rfl (fun h => o_ixs rfl rfl (gv h rfl) rfl (gdO_t h2 h)) ?_
 obtain ⟨r3, h4, H⟩ := bind_s H
 refine TL.gcq rfl rfl rfl (.bool _) rfl rfl (fun h => o_callP rfl en_104 rfl (evl_1 (gv h rfl)) (.cons _ _ _ _ (.cl _ rfl) .nil) (spec_l1Digit_p  (gdO_t h4 h))) ?_
 refine au 2 ?_
 refine T.cH H (fun H h => ?_) (fun H h => ?_)
 ·refine au 5 ?_
  refine thn_ret ?_
  cases some_i H
  exact ⟨trivial, _, (.tmp _ _ _ _ rfl .nil), (.cl _ rfl)⟩
 ·refine au 7 ?_
  obtain ⟨q18, h19, H⟩ := bind_s H
  refine T.lq (fun s => match s with | v5 => [(0, .str a0), (3, .int .i64 v5)]) (fun s => match s with | v5 => []) (fun q ex fr σ => match q with | .inl _ => ex = .exit 0 ∧ fr = [] ∧ σ = [] | .inr q6 => ex = .ret ∧ RetN Tryz.prog [.tmp 2] (fun v τ => Told τ v (.bool q6)) .ret fr σ) h19 ?_ ?_
  ·rintro v5 y7 H
   refine au 8 ?_
   refine T.cH H (fun H h => ?_) (fun H h => ?_)
   ·refine au 7 ?_
    obtain ⟨b8, h9, H⟩ := bind_s H
    refine TL.st rfl rfl rfl (o_ixs rfl rfl rfl rfl h9) ?_
    obtain ⟨r10, h11, H⟩ := bind_s H
    refine TL.st rfl rfl rfl (o_callP rfl en_105 rfl rfl (.cons _ _ _ _ (.cl _ rfl) .nil) (spec_l1Letter_p  h11)) ?_
    refine au 4 ?_
    obtain ⟨b12, h13, H⟩ := bind_s H
    refine TL.gcq rfl rfl rfl (.bool _) rfl rfl (fun h => o_ixs rfl rfl (gv h rfl) (gv h rfl) (gdO_t h13 h)) ?_
    obtain ⟨r14, h15, H⟩ := bind_s H
    refine TL.gcq rfl rfl rfl (.bool _) rfl rfl (fun h => o_callP rfl en_104 rfl (evl_1 (gv h rfl)) (.cons _ _ _ _ (.cl _ rfl) .nil) (spec_l1Digit_p  (gdO_t h15 h))) ?_
    refine au 5 ?_
    obtain ⟨b16, h17, H⟩ := bind_s H
    refine TL.gcq rfl rfl rfl (.bool _) rfl rfl (fun h => o_ixs rfl rfl (gv h rfl) (gv h rfl) (gdO_t h17 h)) ?_
    refine au 3 ?_
    refine T.cH H (fun H h => ?_) (fun H h => ?_)
    ·refine au 5 ?_
     refine inB_ret (thn_ret ?_)
     exact Pk.id (thn_ret ⟨.inr false, (some_i H).symm, rfl, ⟨trivial, _, (.tmp _ _ _ _ rfl .nil), (.cl _ rfl)⟩⟩)
    ·refine au 6 ?_
     exact Pk.of (thn_normal ⟨(IntKind.i64.wrap (v5 + 1)), (some_i H).symm, rfl, rfl⟩)
   ·refine T.exit ?_
    refine thn_exit ?_
    exact Pk.of (thn_exit ⟨.inl (), (some_i H).symm, rfl, rfl, rfl⟩)
  ·rcases q18 with ⟨⟩ | q6
   ·rintro _ _ _ ⟨rfl, rfl, rfl⟩
    refine inB_here ?_
    refine au 5 ?_
    cases some_i H
    exact ⟨trivial, _, (.tmp _ _ _ _ rfl .nil), (.cl _ rfl)⟩
   ·rintro _ fr1 σ1 ⟨rfl, hr⟩
    refine inB_ret (thn_ret ?_)
    cases some_i H
    exact hr
theorem en_86 : En Tryz.prog 86 := .of Tryz.func86 rfl rfl
noncomputable def spec_l1Block (a0 : T_impl_Atom) : Option (Int × Int) :=
  (spec_l1Pow2 (IntKind.i64.wrap (32 - (Int.tmod a0.Num_ 64)))).bind fun r1 => some ((IntKind.i64.wrap (Int.tdiv a0.Num_ 64)), r1)
theorem spec_l1Block_p  {a0 : T_impl_Atom} {R0 : Int} {R1 : Int} (H : spec_l1Block a0 = some (R0, R1)) : Pure Tryz.prog 89 [.agg (c_T_impl_Atom false a0)] (.tup [.int .i64 R0, .int .i64 R1]) := by
 refine CallT.of_TN (n := 12) Tryz.func89 rfl rfl rfl rfl ?_
 refine au 7 ?_
 refine T.drawn rfl ?_
 refine ad 2 ?_
 refine TD.qs rfl rfl (fun _ => o_quo rfl rfl rfl (by decide)) ?_
 refine ad 2 ?_
 refine TD.qs rfl rfl (fun _ => o_rem rfl rfl rfl (by decide)) ?_
 refine TD.qs rfl rfl (fun _ => o_ari rfl rfl rfl rfl) ?_
 obtain ⟨r1, h2, H⟩ := bind_s H
 refine TD.qs rfl rfl (fun _ => o_callP rfl en_58 rfl rfl (.cons _ _ _ _ (.cl _ rfl) .nil) (spec_l1Pow2_p  h2)) ?_
 refine ad 2 ?_
 refine TD.nil ⟨rfl, ?_⟩
 refine T.ret ?_
 cases some_i H
 exact ⟨trivial, _, (.tmp _ _ _ _ rfl (.tmp _ _ _ _ rfl .nil)), (.tupL (.cons _ _ _ _ (.cl _ rfl) (.cons _ _ _ _ (.cl _ rfl) .nil)))⟩
theorem en_89 : En Tryz.prog 89 := .of Tryz.func89 rfl rfl
noncomputable def spec_GoodAtom_j1 (a0 : T_impl_Atom) (v1 : Bool) : Option Bool :=
  cond v1 (some true) (cond (a0.Kind_ == 3) ((gdO ((a0.Num_ == 0) && decide ((a0.Text_.size : Int) ≤ 200)) (spec_l1Printed a0.Text_)).bind fun r2 => some (((a0.Num_ == 0) && decide ((a0.Text_.size : Int) ≤ 200)) && r2)) (cond (a0.Kind_ == 4) ((gdO (a0.Num_ == 0) (spec_GoodName a0.Type_)).bind fun r4 => (gdO ((((a0.Num_ == 0) && r4) && decide ((a0.Text_.size : Int) ≥ 1)) && decide ((a0.Text_.size : Int) ≤ 200)) (spec_l1Printed a0.Text_)).bind fun r6 => some (((((a0.Num_ == 0) && r4) && decide ((a0.Text_.size : Int) ≥ 1)) && decide ((a0.Text_.size : Int) ≤ 200)) && r6)) (cond (a0.Kind_ == 6) ((gdO (!(decide (a0.Num_ < 0))) (spec_l1Pow2 32)).bind fun r8 => cond ((decide (a0.Num_ < 0) || decide ((IntKind.i64.wrap (Int.tdiv a0.Num_ 64)) > (IntKind.i64.wrap (r8 - 1)))) || decide ((Int.tmod a0.Num_ 64) > 32)) (some false) ((spec_l1Block a0).bind fun q => (match q with | (r10, r11) => (nz r11).bind fun z13 => some ((Int.tmod r10 r11) == 0)))) (cond (a0.Kind_ == 7) (some (decide (a0.Num_ ≥ (-100000000000)) && decide (a0.Num_ ≤ 100000000000))) (some false)))))
noncomputable def spec_GoodAtom (a0 : T_impl_Atom) : Option Bool :=
  cond ((((a0.Kind_ != 3) && (a0.Kind_ != 4)) && (!(a0.Text_.toList == e0.toList))) || ((a0.Kind_ != 4) && (!(a0.Type_.toList == e0.toList)))) (some false) (cond (a0.Kind_ == 1) (some ((a0.Num_ == 0) || (a0.Num_ == 1))) (cond (a0.Kind_ == 2) (spec_GoodAtom_j1 a0 (a0.Kind_ == 2)) (spec_GoodAtom_j1 a0 (a0.Kind_ == 5))))
theorem spec_GoodAtom_p  {a0 : T_impl_Atom} {R0 : Bool} (H : spec_GoodAtom a0 = some R0) : Pure Tryz.prog 51 [.agg (c_T_impl_Atom false a0)] (.bool R0) := by
 refine CallT.of_TN (n := 124) Tryz.func51 rfl rfl rfl rfl ?_
 refine au 19 ?_
 refine TL.gcq rfl rfl rfl (.bool _) rfl rfl (fun h => o_str rfl (gv h rfl) rfl rfl) ?_
 refine au 5 ?_
 refine TL.gcq rfl rfl rfl (.bool _) rfl rfl (fun h => o_move rfl (gv h rfl)) ?_
 refine TL.gcq rfl rfl rfl (.gd _ _) rfl rfl (fun h => o_fieldAddr rfl rfl rfl tyS_9 (by decide) rfl rfl ⟨_, rfl, Nat.le_of_ble_eq_true rfl⟩) ?_
 refine TL.gcq rfl rfl rfl (.gd _ _) rfl rfl (fun h => o_loadBx rfl tyS_9 (gv h rfl) rfl (nb rfl) rfl) ?_
 refine TL.gcq rfl rfl rfl (.gd _ _) rfl rfl (fun h => o_str rfl (gv h rfl) rfl rfl) ?_
 refine TL.gcq rfl rfl rfl (.bool _) rfl rfl (fun h => o_and rfl (gv h rfl) rfl (fun k => Gd_t (andi h k)) rfl) ?_
 refine au 2 ?_
 refine T.cH H (fun H h => ?_) (fun H h => ?_)
 ·refine au 5 ?_
  refine thn_ret ?_
  cases some_i H
  exact ⟨trivial, _, (.tmp _ _ _ _ rfl .nil), (.cl _ rfl)⟩
 ·refine au 13 ?_
  refine T.cH H (fun H h => ?_) (fun H h => ?_)
  ·refine au 13 ?_
   refine inB_ret (thn_ret ?_)
   cases some_i H
   exact ⟨trivial, _, (.tmp _ _ _ _ rfl .nil), (.cl _ rfl)⟩
  ·refine T.cut (fun fr' σ' => ∃ (v1 : Bool), fr' = [(1, .bx 0 0), (29, .int .i64 a0.Kind_), (40, .bool v1)] ∧ σ' = [.box (c_T_impl_Atom false a0)] ∧ spec_GoodAtom_j1 a0 v1 = some R0) (T.pk ?_) ?_
   ·skip
    refine au 5 ?_
    refine T.cH H (fun H h => ?_) (fun H h => ?_)
    ·refine T.skip ?_
     exact Pk.of (thn_normal ⟨(a0.Kind_ == 2), rfl, rfl, H⟩)
    ·refine au 4 ?_
     exact Pk.of (thn_normal ⟨(a0.Kind_ == 5), rfl, rfl, H⟩)
   ·rintro _ _ ⟨v1, rfl, rfl, H⟩
    refine T.cH H (fun H h => ?_) (fun H h => ?_)
    ·refine au 5 ?_
     refine inB_ret (thn_ret ?_)
     cases some_i H
     exact ⟨trivial, _, (.tmp _ _ _ _ rfl .nil), (.cl _ rfl)⟩
    ·refine au 5 ?_
     refine T.cH H (fun H h => ?_) (fun H h => ?_)
     ·refine au 8 ?_
      refine TL.gcq rfl rfl rfl (.bool _) rfl rfl (fun h => o_lenS rfl rfl (gv h rfl)) ?_
      refine au 5 ?_
      obtain ⟨r2, h3, H⟩ := bind_s H
      refine TL.gcq rfl rfl rfl (.bool _) rfl rfl (fun h => o_callP rfl en_88 rfl (evl_1 (gv h rfl)) (.cons _ _ _ _ (.cl _ rfl) .nil) (spec_l1Printed_p  (gdO_t h3 h))) ?_
      refine au 4 ?_
      refine inB_ret (thn_ret ?_)
      cases some_i H
      exact ⟨trivial, _, (.tmp _ _ _ _ rfl .nil), (.cl _ rfl)⟩
     ·refine au 5 ?_
      refine T.cH H (fun H h => ?_) (fun H h => ?_)
      ·refine au 8 ?_
       obtain ⟨r4, h5, H⟩ := bind_s H
       refine TL.gcq rfl rfl rfl (.bool _) rfl rfl (fun h => o_callP rfl en_86 rfl (evl_1 (gv h rfl)) (.cons _ _ _ _ (.cl _ rfl) .nil) (spec_GoodName_p  (gdO_t h5 h))) ?_
       refine au 4 ?_
       refine TL.gcq rfl rfl rfl (.bool _) rfl rfl (fun h => o_lenS rfl rfl (gv h rfl)) ?_
       refine au 5 ?_
       refine TL.gcq rfl rfl rfl (.bool _) rfl rfl (fun h => o_lenS rfl rfl (gv h rfl)) ?_
       refine au 5 ?_
       obtain ⟨r6, h7, H⟩ := bind_s H
       refine TL.gcq rfl rfl rfl (.bool _) rfl rfl (fun h => o_callP rfl en_88 rfl (evl_1 (gv h rfl)) (.cons _ _ _ _ (.cl _ rfl) .nil) (spec_l1Printed_p  (gdO_t h7 h))) ?_
       refine au 4 ?_
       refine inB_ret (thn_ret ?_)
       cases some_i H
       exact ⟨trivial, _, (.tmp _ _ _ _ rfl .nil), (.cl _ rfl)⟩
      ·refine au 5 ?_
       refine T.cH H (fun H h => ?_) (fun H h => ?_)
       ·refine au 2 ?_
        refine T.drawn rfl ?_
        refine ad 6 ?_
        refine TD.cq rfl rfl rfl (.bool _) rfl (fun h _ => o_quo rfl (gv h rfl) rfl (by decide)) ?_
        obtain ⟨r8, h9, H⟩ := bind_s H
        refine TD.cq rfl rfl rfl (.bool _) rfl (fun h _ => o_callP rfl en_58 rfl rfl (.cons _ _ _ _ (.cl _ rfl) .nil) (spec_l1Pow2_p  (gdO_t h9 h))) ?_
        refine TD.cq rfl rfl rfl (.bool _) rfl (fun h _ => o_ari rfl (gv h rfl) rfl rfl) ?_
        refine TD.cq rfl rfl rfl (.bool _) rfl (fun h _ => o_ari rfl (gv h rfl) (gv h rfl) rfl) ?_
        refine ad 4 ?_
        refine TD.cq rfl rfl rfl (.bool _) rfl (fun h _ => o_rem rfl (gv h rfl) rfl (by decide)) ?_
        refine TD.cq rfl rfl rfl (.bool _) rfl (fun h _ => o_ari rfl (gv h rfl) rfl rfl) ?_
        refine TD.qs rfl rfl (fun _ => o_or rfl rfl rfl rfl (fun k => Gd_t k)) ?_
        refine TD.nil ⟨rfl, ?_⟩
        refine thn_normal ?_
        refine T.cH H (fun H h => ?_) (fun H h => ?_)
        ·refine au 5 ?_
         refine thn_ret (inB_ret (thn_ret ?_))
         cases some_i H
         exact ⟨trivial, _, (.tmp _ _ _ _ rfl .nil), (.cl _ rfl)⟩
        ·refine au 4 ?_
         obtain ⟨⟨r10, r11⟩, h12, H⟩ := bind_s H
         refine TL.st rfl rfl rfl (o_callP rfl en_89 rfl rfl (.cons _ _ _ _ (.cl _ rfl) .nil) (spec_l1Block_p  h12)) ?_
         refine au 10 ?_
         obtain ⟨z13, h14, H⟩ := bind_s H
         refine TL.st rfl rfl rfl (o_rem rfl rfl rfl (nz_s h14).1) ?_
         refine au 4 ?_
         refine inB_ret (thn_ret ?_)
         cases some_i H
         exact ⟨trivial, _, (.tmp _ _ _ _ rfl .nil), (.cl _ rfl)⟩
       ·refine au 5 ?_
        refine T.cH H (fun H h => ?_) (fun H h => ?_)
        ·refine au 13 ?_
         refine inB_ret (thn_ret ?_)
         cases some_i H
         exact ⟨trivial, _, (.tmp _ _ _ _ rfl .nil), (.cl _ rfl)⟩
        ·refine au 6 ?_
         cases some_i H
         exact ⟨trivial, _, (.tmp _ _ _ _ rfl .nil), (.cl _ rfl)⟩
theorem en_51 : En Tryz.prog 51 := .of Tryz.func51 rfl rfl
noncomputable def spec_l11Ref (a0 : T_impl_Atom) : Option Bool :=
  (gdO (a0.Kind_ == 4) (spec_GoodAtom a0)).bind fun r1 => some ((a0.Kind_ == 4) && r1)
theorem spec_l11Ref_p  {a0 : T_impl_Atom} {R0 : Bool} (H : spec_l11Ref a0 = some R0) : Pure Tryz.prog 22 [.agg (c_T_impl_Atom false a0)] (.bool R0) := by
 refine CallT.of_TN (n := 10) Tryz.func22 rfl rfl rfl rfl ?_
 refine au 11 ?_
 refine TL.gcq rfl rfl rfl (.bool _) rfl rfl (fun h => o_loadBx rfl tyS_25 rfl rfl (nb rfl) rfl) ?_
 obtain ⟨r1, h2, H⟩ := bind_s H
 refine TL.gcq rfl rfl rfl (.bool _) rfl rfl (fun h => o_callP rfl en_51 rfl (evl_1 (gv h rfl)) (.cons _ _ _ _ (.cl _ rfl) .nil) (spec_GoodAtom_p  (gdO_t h2 h))) ?_
 refine au 4 ?_
 cases some_i H
 exact ⟨trivial, _, (.tmp _ _ _ _ rfl .nil), (.cl _ rfl)⟩
theorem en_22 : En Tryz.prog 22 := .of Tryz.func22 rfl rfl
noncomputable def spec_GoodValue_l2 (a0 : T_impl_Value) : Int → Option (Int ⊕ (Unit ⊕ Bool)) := fun s => match s with
  | v6 => cond (decide (v6 < (a0.Names_.length : Int))) ((idx a0.Names_ v6).bind fun e9 => (spec_GoodName e9).bind fun r11 => (gdO ((!(!r11)) && decide (v6 > 0)) (idx a0.Names_ (IntKind.i64.wrap (v6 - 1)))).bind fun e13 => (gdO ((!(!r11)) && decide (v6 > 0)) (spec_l1CmpText e13 e9)).bind fun r15 => cond ((!r11) || (decide (v6 > 0) && decide (r15 ≥ 0))) (some (.inr (.inr false))) (some (.inl (IntKind.i64.wrap (v6 + 1))))) (some (.inr (.inl ())))
noncomputable def spec_GoodValue_l1 (a0 : T_impl_Value) : Int → Option (Int ⊕ (Unit ⊕ Bool)) := fun s => match s with
  | v4 => cond (decide (v4 < (a0.Items_.length : Int))) ((idx a0.Items_ v4).bind fun e20 => (spec_GoodAtom e20).bind fun r22 => (gdO ((!(!r22)) && ((a0.Kind_ == 2) && decide (v4 > 0))) (idx a0.Items_ (IntKind.i64.wrap (v4 - 1)))).bind fun e24 => (gdO ((!(!r22)) && ((a0.Kind_ == 2) && decide (v4 > 0))) (spec_l1Cmp e24 e20)).bind fun r26 => cond ((!r22) || (((a0.Kind_ == 2) && decide (v4 > 0)) && decide (r26 ≥ 0))) (some (.inr (.inr false))) (some (.inl (IntKind.i64.wrap (v4 + 1))))) (some (.inr (.inl ())))
noncomputable def spec_GoodValue_j1 (a0 : T_impl_Value) (v3 : Bool) : Option Bool :=
  cond v3 (cond ((!(a0.Atom_ == (⟨0, 0, e0, e0⟩ : T_impl_Atom))) || decide ((a0.Items_.length : Int) > 50)) (some false) ((loopO (spec_GoodValue_l1 a0) 0).bind fun q28 => (match q28 with | .inl _ => cond (a0.Kind_ == 2) (some ((a0.Names_.length : Int) == 0)) (cond ((a0.Names_.length : Int) != (a0.Items_.length : Int)) (some false) ((loopO (spec_GoodValue_l2 a0) 0).bind fun q17 => (match q17 with | .inl _ => some true | .inr q7 => some q7))) | .inr q5 => some q5))) (some false)
noncomputable def spec_GoodValue (a0 : T_impl_Value) : Option Bool :=
  cond (a0.Kind_ == 1) ((spec_GoodAtom a0.Atom_).bind fun r1 => some ((r1 && ((a0.Items_.length : Int) == 0)) && ((a0.Names_.length : Int) == 0))) (cond (a0.Kind_ == 2) (spec_GoodValue_j1 a0 (a0.Kind_ == 2)) (spec_GoodValue_j1 a0 (a0.Kind_ == 3)))
theorem spec_GoodValue_p (b0 : Bool) {a0 : T_impl_Value} {R0 : Bool} (H : spec_GoodValue a0 = some R0) : Pure Tryz.prog 87 [.agg (c_T_impl_Value b0 a0)] (.bool R0) := by
 refine CallT.of_TN (n := 112) Tryz.func87 rfl rfl rfl rfl ?_
 refine au 17 ?_
 refine T.cH H (fun H h => ?_) (fun H h => ?_)
 ·refine au 4 ?_
  obtain ⟨r1, h2, H⟩ := bind_s H
  refine TL.st rfl rfl rfl (o_callP rfl en_51 rfl rfl (.cons _ _ _ _ (.cl _ rfl) .nil) (spec_GoodAtom_p  h2)) ?_
  refine au 3 ?_
  refine TL.gcq rfl rfl rfl (.bool _) rfl rfl (fun h => o_lenL (f := c_T_impl_Atom false) rfl rfl (gv h rfl)) ?_
  refine au 5 ?_
  refine TL.gcq rfl rfl rfl (.bool _) rfl rfl (fun h => o_lenL (f := c_str) rfl rfl (gv h rfl)) ?_
  refine au 5 ?_
  refine inB_ret (thn_ret ?_)
  cases some_i H
  exact ⟨trivial, _, (.tmp _ _ _ _ rfl .nil), (.cl _ rfl)⟩
 ·refine T.cut (fun fr' σ' => ∃ (v3 : Bool), fr' = [(1, .bx 0 0), (26, .bool v3)] ∧ σ' = [.box (c_T_impl_Value b0 a0)] ∧ spec_GoodValue_j1 a0 v3 = some R0) (T.pk ?_) ?_
  ·skip
   refine au 5 ?_
   refine T.cH H (fun H h => ?_) (fun H h => ?_)
   ·refine T.skip ?_
    exact Pk.of (thn_normal ⟨(a0.Kind_ == 2), rfl, rfl, H⟩)
   ·refine au 4 ?_
    exact Pk.of (thn_normal ⟨(a0.Kind_ == 3), rfl, rfl, H⟩)
  ·rintro _ _ ⟨v3, rfl, rfl, H⟩
   refine T.cH H (fun H h => ?_) (fun H h => ?_)
   ·refine au 6 ?_
    refine TL.st rfl rfl rfl (o_neA rfl rfl eqG_25 rfl rfl rfl rfl (eqT_25 a0.Atom_ (⟨0, 0, e0, e0⟩ : T_impl_Atom))) ?_
    refine au 3 ?_
    refine TL.gcq rfl rfl rfl (.bool _) rfl rfl (fun h => o_lenL (f := c_T_impl_Atom false) rfl rfl (gv h rfl)) ?_
    refine au 3 ?_
    refine T.cH H (fun H h => ?_) (fun H h => ?_)
    ·refine au 5 ?_
     refine thn_ret (inB_ret (thn_ret ?_))
     cases some_i H
     exact ⟨trivial, _, (.tmp _ _ _ _ rfl .nil), (.cl _ rfl)⟩
    ·refine au 6 ?_
     refine TL.st rfl rfl rfl (o_lenL (f := c_T_impl_Atom false) rfl rfl rfl) ?_
     refine au 3 ?_
     obtain ⟨q28, h29, H⟩ := bind_s H
     refine T.lq (fun s => match s with | v4 => [(1, .bx 0 0), (40, .im b0 (a0.Items_.map (c_T_impl_Atom false))), (41, .int .i64 (a0.Items_.length : Int)), (42, .int .i64 v4)]) (fun s => match s with | v4 => [.box (c_T_impl_Value b0 a0)]) (fun q ex fr σ => match q with | .inl _ => ex = .exit 1 ∧ fr = [(1, .bx 0 0)] ∧ σ = [.box (c_T_impl_Value b0 a0)] | .inr q5 => ex = .ret ∧ RetN Tryz.prog [.tmp 2] (fun v τ => Told τ v (.bool q5)) .ret fr σ) h29 ?_ ?_
     ·rintro v4 y19 H
      refine au 5 ?_
      refine T.cH H (fun H h => ?_) (fun H h => ?_)
      ·refine au 6 ?_
       obtain ⟨e20, h21, H⟩ := bind_s H
       refine TL.st rfl rfl rfl (o_ix (f := c_T_impl_Atom false) rfl rfl tyS_25 rfl rfl h21 rfl) ?_
       refine au 6 ?_
       refine T.drawn rfl ?_
       refine TD.rs rfl rfl (o_loadBx rfl tyS_25 rfl rfl (nb rfl) rfl) ?_
       obtain ⟨r22, h23, H⟩ := bind_s H
       refine TD.qs rfl rfl (fun _ => o_callP rfl en_51 rfl rfl (.cons _ _ _ _ (.cl _ rfl) .nil) (spec_GoodAtom_p  h23)) ?_
       refine ad 4 ?_
       refine TD.cq rfl rfl rfl (.bool _) rfl (fun h _ => o_ari rfl (gv h rfl) rfl rfl) ?_
       refine TD.cq rfl rfl rfl (.bool _) rfl (fun h _ => o_move rfl (gv h rfl)) ?_
       refine TD.cq rfl rfl rfl (.gd _ _) rfl (fun h _ => o_move rfl rfl) ?_
       refine TD.cq rfl rfl rfl (.gd _ _) rfl (fun h _ => o_ari rfl (gv h rfl) rfl rfl) ?_
       refine TD.cq rfl rfl rfl (.bool _) rfl (fun h _ => o_and rfl (gv h rfl) rfl (fun k => Gd_t (andi h k)) rfl) ?_
       refine TD.cq rfl rfl rfl (.bool _) rfl (fun h _ => o_move rfl (gv h rfl)) ?_
       refine TD.cr rfl rfl rfl (.gd _ _) rfl (fun h => o_fieldAddr rfl rfl rfl tyS_28 (by decide) rfl rfl ⟨_, rfl, Nat.le_of_ble_eq_true rfl⟩) ?_
       refine TD.cr rfl rfl rfl (.gd _ _) rfl (fun h => o_loadBx rfl tyS_28 (gv h rfl) rfl (nb rfl) rfl) ?_
       refine TD.cq rfl rfl rfl (.gd _ _) rfl (fun h _ => o_move rfl rfl) ?_
       refine TD.cq rfl rfl rfl (.gd _ _) rfl (fun h _ => o_ari rfl (gv h rfl) rfl rfl) ?_
       obtain ⟨e24, h25, H⟩ := bind_s H
       refine TD.cq rfl rfl rfl (.gd _ _) rfl (fun h _ => o_ix (f := c_T_impl_Atom false) rfl rfl tyS_25 (gv h rfl) (gv h rfl) (gdO_t h25 h) rfl) ?_
       refine TD.cq rfl rfl rfl (.gd _ _) rfl (fun h _ => o_loadRf rfl tyS_25 (gv h rfl) (nb rfl) rfl) ?_
       refine TD.cr rfl rfl rfl (.gd _ _) rfl (fun h => o_loadBx rfl tyS_25 rfl rfl (nb rfl) rfl) ?_
       obtain ⟨r26, h27, H⟩ := bind_s H
       refine TD.cq rfl rfl rfl (.gd _ _) rfl (fun h _ => o_callP rfl en_49 rfl (evl_2 (gv h rfl) (gv h rfl)) (.cons _ _ _ _ (.cl _ rfl) (.cons _ _ _ _ (.cl _ rfl) .nil)) (spec_l1Cmp_p  (gdO_t h27 h))) ?_
       refine TD.cq rfl rfl rfl (.gd _ _) rfl (fun h _ => o_ari rfl (gv h rfl) rfl rfl) ?_
       refine TD.cq rfl rfl rfl (.bool _) rfl (fun h _ => o_and rfl (gv h rfl) rfl (fun k => Gd_t (andi h k)) rfl) ?_
       refine TD.qs rfl rfl (fun _ => o_or rfl rfl rfl rfl (fun k => Gd_t k)) ?_
       refine TD.nil ⟨rfl, ?_⟩
       refine thn_normal ?_
       refine T.cH H (fun H h => ?_) (fun H h => ?_)
       ·refine au 5 ?_
        refine inB_ret (thn_ret ?_)
        exact Pk.id (thn_ret ⟨.inr false, (some_i H).symm, rfl, ⟨trivial, _, (.tmp _ _ _ _ rfl .nil), (.cl _ rfl)⟩⟩)
       ·refine au 5 ?_
        exact Pk.of (thn_normal ⟨(IntKind.i64.wrap (v4 + 1)), (some_i H).symm, rfl, rfl⟩)
      ·refine T.exit ?_
       refine thn_exit ?_
       exact Pk.of (thn_exit ⟨.inl (), (some_i H).symm, rfl, rfl, rfl⟩)
     ·rcases q28 with ⟨⟩ | q5
      ·rintro _ _ _ ⟨rfl, rfl, rfl⟩
       refine inB_here ?_
       refine au 7 ?_
       refine T.cH H (fun H h => ?_) (fun H h => ?_)
       ·refine au 4 ?_
        refine TL.st rfl rfl rfl (o_lenL (f := c_str) rfl rfl rfl) ?_
        refine au 4 ?_
        refine thn_ret (inB_ret (thn_ret ?_))
        cases some_i H
        exact ⟨trivial, _, (.tmp _ _ _ _ rfl .nil), (.cl _ rfl)⟩
       ·refine au 6 ?_
        refine TL.st rfl rfl rfl (o_lenL (f := c_str) rfl rfl rfl) ?_
        refine au 2 ?_
        refine TL.st rfl rfl rfl (o_lenL (f := c_T_impl_Atom false) rfl rfl rfl) ?_
        refine au 2 ?_
        refine T.cH H (fun H h => ?_) (fun H h => ?_)
        ·refine au 5 ?_
         refine thn_ret (inB_ret (thn_ret ?_))
         cases some_i H
         exact ⟨trivial, _, (.tmp _ _ _ _ rfl .nil), (.cl _ rfl)⟩
        ·refine au 6 ?_
         refine TL.st rfl rfl rfl (o_lenL (f := c_str) rfl rfl rfl) ?_
         refine au 3 ?_
         obtain ⟨q17, h18, H⟩ := bind_s H
         refine T.lq (fun s => match s with | v6 => [(1, .bx 0 0), (86, .im b0 (a0.Names_.map (c_str))), (87, .int .i64 (a0.Names_.length : Int)), (88, .int .i64 v6)]) (fun s => match s with | v6 => [.box (c_T_impl_Value b0 a0)]) (fun q ex fr σ => match q with | .inl _ => ex = .exit 3 ∧ fr = [] ∧ σ = [.box (c_T_impl_Value b0 a0)] | .inr q7 => ex = .ret ∧ RetN Tryz.prog [.tmp 2] (fun v τ => Told τ v (.bool q7)) .ret fr σ) h18 ?_ ?_
         ·rintro v6 y8 H
          refine au 5 ?_
          refine T.cH H (fun H h => ?_) (fun H h => ?_)
          ·refine au 6 ?_
           obtain ⟨e9, h10, H⟩ := bind_s H
           refine TL.st rfl rfl rfl (o_ix (f := c_str) rfl rfl tyS_9 rfl rfl h10 rfl) ?_
           refine au 7 ?_
           obtain ⟨r11, h12, H⟩ := bind_s H
           refine TL.st rfl rfl rfl (o_callP rfl en_86 rfl rfl (.cons _ _ _ _ (.cl _ rfl) .nil) (spec_GoodName_p  h12)) ?_
           refine au 4 ?_
           refine TL.gcq rfl rfl rfl (.bool _) rfl rfl (fun h => o_move rfl (gv h rfl)) ?_
           refine TL.gcq rfl rfl rfl (.gd _ _) rfl rfl (fun h => o_fieldAddr rfl rfl rfl tyS_40 (by decide) rfl rfl ⟨_, rfl, Nat.le_of_ble_eq_true rfl⟩) ?_
           refine TL.gcq rfl rfl rfl (.gd _ _) rfl rfl (fun h => o_loadBx rfl tyS_40 (gv h rfl) rfl (nb rfl) rfl) ?_
           refine TL.gcq rfl rfl rfl (.gd _ _) rfl rfl (fun h => o_move rfl rfl) ?_
           refine TL.gcq rfl rfl rfl (.gd _ _) rfl rfl (fun h => o_ari rfl (gv h rfl) rfl rfl) ?_
           obtain ⟨e13, h14, H⟩ := bind_s H
           refine TL.gcq rfl rfl rfl (.gd _ _) rfl rfl (fun h => o_ix (f := c_str) rfl rfl tyS_9 (gv h rfl) (gv h rfl) (gdO_t h14 h) rfl) ?_
           refine TL.gcq rfl rfl rfl (.gd _ _) rfl rfl (fun h => o_loadRf rfl tyS_9 (gv h rfl) (nb rfl) rfl) ?_
           refine TL.gcq rfl rfl rfl (.gd _ _) rfl rfl (fun h => o_move rfl rfl) ?_
           obtain ⟨r15, h16, H⟩ := bind_s H
           refine TL.gcq rfl rfl rfl (.gd _ _) rfl rfl (fun h => o_callP rfl en_85 rfl (evl_2 (gv h rfl) (gv h rfl)) (.cons _ _ _ _ (.cl _ rfl) (.cons _ _ _ _ (.cl _ rfl) .nil)) (spec_l1CmpText_p  (gdO_t h16 h))) ?_
           refine TL.gcq rfl rfl rfl (.gd _ _) rfl rfl (fun h => o_ari rfl (gv h rfl) rfl rfl) ?_
           refine TL.gcq rfl rfl rfl (.bool _) rfl rfl (fun h => o_and rfl (gv h rfl) rfl (fun k => Gd_t (andi h k)) rfl) ?_
           refine au 2 ?_
           refine T.cH H (fun H h => ?_) (fun H h => ?_)
           ·refine au 5 ?_
            refine inB_ret (thn_ret ?_)
            exact Pk.id (thn_ret ⟨.inr false, (some_i H).symm, rfl, ⟨trivial, _, (.tmp _ _ _ _ rfl .nil), (.cl _ rfl)⟩⟩)
           ·refine au 5 ?_
            exact Pk.of (thn_normal ⟨(IntKind.i64.wrap (v6 + 1)), (some_i H).symm, rfl, rfl⟩)
          ·refine T.exit ?_
           refine thn_exit ?_
           exact Pk.of (thn_exit ⟨.inl (), (some_i H).symm, rfl, rfl, rfl⟩)
         ·rcases q17 with ⟨⟩ | q7
          ·rintro _ _ _ ⟨rfl, rfl, rfl⟩
           refine inB_here ?_
           refine au 5 ?_
           refine inB_ret (thn_ret ?_)
           cases some_i H
           exact ⟨trivial, _, (.tmp _ _ _ _ rfl .nil), (.cl _ rfl)⟩
          ·rintro _ fr1 σ1 ⟨rfl, hr⟩
           refine inB_ret (thn_ret (inB_ret (thn_ret ?_)))
           cases some_i H
           exact hr
      ·rintro _ fr1 σ1 ⟨rfl, hr⟩
       refine inB_ret (thn_ret (inB_ret (thn_ret ?_)))
       cases some_i H
       exact hr
   ·refine au 6 ?_
    cases some_i H
    exact ⟨trivial, _, (.tmp _ _ _ _ rfl .nil), (.cl _ rfl)⟩
theorem en_87 : En Tryz.prog 87 := .of Tryz.func87 rfl rfl
noncomputable def spec_l11Fields_l1 (a0 : (List ByteArray)) (a1 : (List T_impl_Value)) : Int → Option (Int ⊕ (Unit ⊕ Bool)) := fun s => match s with
  | v1 => cond (decide (v1 < (a0.length : Int))) ((idx a0 v1).bind fun e4 => (spec_GoodName e4).bind fun r6 => (gdO ((!(!r6)) && decide (v1 > 0)) (idx a0 (IntKind.i64.wrap (v1 - 1)))).bind fun e8 => (gdO ((!(!r6)) && decide (v1 > 0)) (spec_l1CmpText e8 e4)).bind fun r10 => (gdO (!((!r6) || (decide (v1 > 0) && decide (r10 ≥ 0)))) (idx a1 v1)).bind fun e12 => (gdO (!((!r6) || (decide (v1 > 0) && decide (r10 ≥ 0)))) (spec_GoodValue e12)).bind fun r14 => (gdO (!(((!r6) || (decide (v1 > 0) && decide (r10 ≥ 0))) || (!r14))) (idx a1 v1)).bind fun e16 => cond ((((!r6) || (decide (v1 > 0) && decide (r10 ≥ 0))) || (!r14)) || (e16.Kind_ == 3)) (some (.inr (.inr false))) (some (.inl (IntKind.i64.wrap (v1 + 1))))) (some (.inr (.inl ())))
noncomputable def spec_l11Fields (a0 : (List ByteArray)) (a1 : (List T_impl_Value)) : Option Bool :=
  cond (decide ((a0.length : Int) > 20) || ((a1.length : Int) != (a0.length : Int))) (some false) ((loopO (spec_l11Fields_l1 a0 a1) 0).bind fun q18 => (match q18 with | .inl _ => some true | .inr q2 => some q2))
theorem spec_l11Fields_p (b0 : Bool) (b1 : Bool) {a0 : (List ByteArray)} {a1 : (List T_impl_Value)} {R0 : Bool} (H : spec_l11Fields a0 a1 = some R0) : Pure Tryz.prog 50 [.im b0 (a0.map (c_str)), .im b1 (a1.map (c_T_impl_Value false))] (.bool R0) := by
 refine CallT.of_TN (n := 58) Tryz.func50 rfl rfl rfl rfl ?_
 refine au 8 ?_
 refine TL.st rfl rfl rfl (o_lenL (f := c_str) rfl rfl rfl) ?_
 refine au 3 ?_
 refine TL.gcq rfl rfl rfl (.bool _) rfl rfl (fun h => o_lenL (f := c_T_impl_Value false) rfl rfl (gv h rfl)) ?_
 refine TL.gcq rfl rfl rfl (.bool _) rfl rfl (fun h => o_move rfl rfl) ?_
 refine TL.gcq rfl rfl rfl (.bool _) rfl rfl (fun h => o_lenL (f := c_str) rfl rfl (gv h rfl)) ?_
 refine TL.gcq rfl rfl rfl (.bool _) rfl rfl (fun h => o_ari rfl (gv h rfl) (gv h rfl) rfl) ?_
 refine au 2 ?_
 refine T.cH H (fun H h => ?_) (fun H h => ?_)
 ·refine au 5 ?_
  refine thn_ret ?_
  cases some_i H
  exact ⟨trivial, _, (.tmp _ _ _ _ rfl .nil), (.cl _ rfl)⟩
 ·refine au 5 ?_
  refine TL.st rfl rfl rfl (o_lenL (f := c_str) rfl rfl rfl) ?_
  refine au 3 ?_
  obtain ⟨q18, h19, H⟩ := bind_s H
  refine T.lq (fun s => match s with | v1 => [(0, .im b0 (a0.map (c_str))), (1, .im b1 (a1.map (c_T_impl_Value false))), (17, .im b0 (a0.map (c_str))), (18, .int .i64 (a0.length : Int)), (19, .int .i64 v1)]) (fun s => match s with | v1 => []) (fun q ex fr σ => match q with | .inl _ => ex = .exit 0 ∧ fr = [] ∧ σ = [] | .inr q2 => ex = .ret ∧ RetN Tryz.prog [.tmp 4] (fun v τ => Told τ v (.bool q2)) .ret fr σ) h19 ?_ ?_
  ·rintro v1 y3 H
   refine au 5 ?_
   refine T.cH H (fun H h => ?_) (fun H h => ?_)
   ·refine au 6 ?_
    obtain ⟨e4, h5, H⟩ := bind_s H
    refine TL.st rfl rfl rfl (o_ix (f := c_str) rfl rfl tyS_9 rfl rfl h5 rfl) ?_
    refine au 7 ?_
    obtain ⟨r6, h7, H⟩ := bind_s H
    refine TL.st rfl rfl rfl (o_callP rfl en_86 rfl rfl (.cons _ _ _ _ (.cl _ rfl) .nil) (spec_GoodName_p  h7)) ?_
    refine au 4 ?_
    refine TL.gcq rfl rfl rfl (.bool _) rfl rfl (fun h => o_move rfl (gv h rfl)) ?_
    refine TL.gcq rfl rfl rfl (.gd _ _) rfl rfl (fun h => o_move rfl rfl) ?_
    refine TL.gcq rfl rfl rfl (.gd _ _) rfl rfl (fun h => o_move rfl rfl) ?_
    refine TL.gcq rfl rfl rfl (.gd _ _) rfl rfl (fun h => o_ari rfl (gv h rfl) rfl rfl) ?_
    obtain ⟨e8, h9, H⟩ := bind_s H
    refine TL.gcq rfl rfl rfl (.gd _ _) rfl rfl (fun h => o_ix (f := c_str) rfl rfl tyS_9 (gv h rfl) (gv h rfl) (gdO_t h9 h) rfl) ?_
    refine TL.gcq rfl rfl rfl (.gd _ _) rfl rfl (fun h => o_loadRf rfl tyS_9 (gv h rfl) (nb rfl) rfl) ?_
    refine TL.gcq rfl rfl rfl (.gd _ _) rfl rfl (fun h => o_move rfl rfl) ?_
    obtain ⟨r10, h11, H⟩ := bind_s H
    refine TL.gcq rfl rfl rfl (.gd _ _) rfl rfl (fun h => o_callP rfl en_85 rfl (evl_2 (gv h rfl) (gv h rfl)) (.cons _ _ _ _ (.cl _ rfl) (.cons _ _ _ _ (.cl _ rfl) .nil)) (spec_l1CmpText_p  (gdO_t h11 h))) ?_
    refine TL.gcq rfl rfl rfl (.gd _ _) rfl rfl (fun h => o_ari rfl (gv h rfl) rfl rfl) ?_
    refine TL.gcq rfl rfl rfl (.bool _) rfl rfl (fun h => o_and rfl (gv h rfl) rfl (fun k => Gd_t (andi h k)) rfl) ?_
    refine au 4 ?_
    obtain ⟨e12, h13, H⟩ := bind_s H
    refine TL.gcq rfl rfl rfl (.bool _) rfl rfl (fun h => o_ix (f := c_T_impl_Value false) rfl rfl tyS_83 (gv h rfl) (gv h rfl) (gdO_t h13 h) rfl) ?_
    refine TL.gcq rfl rfl rfl (.bool _) rfl rfl (fun h => o_loadRf rfl tyS_83 (gv h rfl) (nb rfl) rfl) ?_
    obtain ⟨r14, h15, H⟩ := bind_s H
    refine TL.gcq rfl rfl rfl (.bool _) rfl rfl (fun h => o_callP rfl en_87 rfl (evl_1 (gv h rfl)) (.cons _ _ _ _ (.cl _ rfl) .nil) (spec_GoodValue_p false (gdO_t h15 h))) ?_
    refine au 5 ?_
    obtain ⟨e16, h17, H⟩ := bind_s H
    refine TL.gcq rfl rfl rfl (.bool _) rfl rfl (fun h => o_ix (f := c_T_impl_Value false) rfl rfl tyS_83 (gv h rfl) (gv h rfl) (gdO_t h17 h) rfl) ?_
    refine TL.gcq rfl rfl rfl (.bool _) rfl rfl (fun h => o_fieldAddr rfl rfl rfl tyS_3 (by decide) (gv h rfl) rfl trivial) ?_
    refine TL.gcq rfl rfl rfl (.bool _) rfl rfl (fun h => o_loadRf rfl tyS_3 (gv h rfl) (nb rfl) rfl) ?_
    refine au 3 ?_
    refine T.cH H (fun H h => ?_) (fun H h => ?_)
    ·refine au 5 ?_
     refine inB_ret (thn_ret ?_)
     exact Pk.id (thn_ret ⟨.inr false, (some_i H).symm, rfl, ⟨trivial, _, (.tmp _ _ _ _ rfl .nil), (.cl _ rfl)⟩⟩)
    ·refine au 5 ?_
     exact Pk.of (thn_normal ⟨(IntKind.i64.wrap (v1 + 1)), (some_i H).symm, rfl, rfl⟩)
   ·refine T.exit ?_
    refine thn_exit ?_
    exact Pk.of (thn_exit ⟨.inl (), (some_i H).symm, rfl, rfl, rfl⟩)
  ·rcases q18 with ⟨⟩ | q2
   ·rintro _ _ _ ⟨rfl, rfl, rfl⟩
    refine inB_here ?_
    refine au 5 ?_
    cases some_i H
    exact ⟨trivial, _, (.tmp _ _ _ _ rfl .nil), (.cl _ rfl)⟩
   ·rintro _ fr1 σ1 ⟨rfl, hr⟩
    refine inB_ret (thn_ret ?_)
    cases some_i H
    exact hr
theorem en_50 : En Tryz.prog 50 := .of Tryz.func50 rfl rfl
noncomputable def spec_GoodThings_l2 (e4 : T_impl_Thing) : Int → Option (Int ⊕ (Unit ⊕ Bool)) := fun s => match s with
  | v14 => cond (decide (v14 < (e4.Parents_.length : Int))) ((idx e4.Parents_ v14).bind fun e17 => (spec_l11Ref e17).bind fun r19 => (gdO ((!(!r19)) && decide (v14 > 0)) (idx e4.Parents_ (IntKind.i64.wrap (v14 - 1)))).bind fun e21 => (gdO ((!(!r19)) && decide (v14 > 0)) (spec_l1Cmp e21 e17)).bind fun r23 => cond ((!r19) || (decide (v14 > 0) && decide (r23 ≥ 0))) (some (.inr (.inr false))) (some (.inl (IntKind.i64.wrap (v14 + 1))))) (some (.inr (.inl ())))
noncomputable def spec_GoodThings_l1 (a0 : (List T_impl_Thing)) : Int → Option (Int ⊕ (Unit ⊕ Bool)) := fun s => match s with
  | v1 => cond (decide (v1 < (a0.length : Int))) ((idx a0 v1).bind fun e4 => (spec_l11Ref e4.Ref_).bind fun r6 => (gdO ((!(!r6)) && decide (v1 > 0)) (idx a0 (IntKind.i64.wrap (v1 - 1)))).bind fun e8 => (gdO ((!(!r6)) && decide (v1 > 0)) (spec_l1Cmp e8.Ref_ e4.Ref_)).bind fun r10 => (gdO (!(((!r6) || (decide (v1 > 0) && decide (r10 ≥ 0))) || decide ((e4.Parents_.length : Int) > 50))) (spec_l11Fields e4.Names_ e4.Values_)).bind fun r12 => cond ((((!r6) || (decide (v1 > 0) && decide (r10 ≥ 0))) || decide ((e4.Parents_.length : Int) > 50)) || (!r12)) (some (.inr (.inr false))) ((loopO (spec_GoodThings_l2 e4) 0).bind fun q25 => (match q25 with | .inl _ => some (.inl (IntKind.i64.wrap (v1 + 1))) | .inr q15 => some (.inr (.inr q15))))) (some (.inr (.inl ())))
noncomputable def spec_GoodThings (a0 : (List T_impl_Thing)) : Option Bool :=
  cond (decide ((a0.length : Int) > 100)) (some false) ((loopO (spec_GoodThings_l1 a0) 0).bind fun q27 => (match q27 with | .inl _ => some true | .inr q2 => some q2))
theorem spec_GoodThings_p (b0 : Bool) {a0 : (List T_impl_Thing)} {R0 : Bool} (H : spec_GoodThings a0 = some R0) : Pure Tryz.prog 21 [.im b0 (a0.map (c_T_impl_Thing false))] (.bool R0) := by
 refine CallT.of_TN (n := 79) Tryz.func21 rfl rfl rfl rfl ?_
 refine au 8 ?_
 refine TL.st rfl rfl rfl (o_lenL (f := c_T_impl_Thing false) rfl rfl rfl) ?_
 refine au 2 ?_
 refine T.cH H (fun H h => ?_) (fun H h => ?_)
 ·refine au 5 ?_
  refine thn_ret ?_
  cases some_i H
  exact ⟨trivial, _, (.tmp _ _ _ _ rfl .nil), (.cl _ rfl)⟩
 ·refine au 5 ?_
  refine TL.st rfl rfl rfl (o_lenL (f := c_T_impl_Thing false) rfl rfl rfl) ?_
  refine au 3 ?_
  obtain ⟨q27, h28, H⟩ := bind_s H
  refine T.lq (fun s => match s with | v1 => [(0, .im b0 (a0.map (c_T_impl_Thing false))), (10, .im b0 (a0.map (c_T_impl_Thing false))), (11, .int .i64 (a0.length : Int)), (12, .int .i64 v1)]) (fun s => match s with | v1 => []) (fun q ex fr σ => match q with | .inl _ => ex = .exit 0 ∧ fr = [] ∧ σ = [] | .inr q2 => ex = .ret ∧ RetN Tryz.prog [.tmp 2] (fun v τ => Told τ v (.bool q2)) .ret fr σ) h28 ?_ ?_
  ·rintro v1 y3 H
   refine au 5 ?_
   refine T.cH H (fun H h => ?_) (fun H h => ?_)
   ·refine au 6 ?_
    obtain ⟨e4, h5, H⟩ := bind_s H
    refine TL.st rfl rfl rfl (o_ix (f := c_T_impl_Thing false) rfl rfl tyS_63 rfl rfl h5 rfl) ?_
    refine au 7 ?_
    refine T.drawn rfl ?_
    refine ad 2 ?_
    obtain ⟨r6, h7, H⟩ := bind_s H
    refine TD.qs rfl rfl (fun _ => o_callP rfl en_22 rfl rfl (.cons _ _ _ _ (.cl _ rfl) .nil) (spec_l11Ref_p  h7)) ?_
    refine ad 3 ?_
    refine TD.cq rfl rfl rfl (.bool _) rfl (fun h _ => o_ari rfl (gv h rfl) rfl rfl) ?_
    refine TD.cq rfl rfl rfl (.bool _) rfl (fun h _ => o_move rfl (gv h rfl)) ?_
    refine TD.cq rfl rfl rfl (.gd _ _) rfl (fun h _ => o_move rfl rfl) ?_
    refine TD.cq rfl rfl rfl (.gd _ _) rfl (fun h _ => o_move rfl rfl) ?_
    refine TD.cq rfl rfl rfl (.gd _ _) rfl (fun h _ => o_ari rfl (gv h rfl) rfl rfl) ?_
    obtain ⟨e8, h9, H⟩ := bind_s H
    refine TD.cq rfl rfl rfl (.gd _ _) rfl (fun h _ => o_ix (f := c_T_impl_Thing false) rfl rfl tyS_63 (gv h rfl) (gv h rfl) (gdO_t h9 h) rfl) ?_
    refine TD.cq rfl rfl rfl (.gd _ _) rfl (fun h _ => o_fieldAddr rfl rfl rfl tyS_25 (by decide) (gv h rfl) rfl trivial) ?_
    refine TD.cq rfl rfl rfl (.gd _ _) rfl (fun h _ => o_loadRf rfl tyS_25 (gv h rfl) (nb rfl) rfl) ?_
    refine TD.cr rfl rfl rfl (.gd _ _) rfl (fun h => o_fieldAddr rfl rfl rfl tyS_25 (by decide) rfl rfl ⟨_, rfl, Nat.le_of_ble_eq_true rfl⟩) ?_
    refine TD.cr rfl rfl rfl (.gd _ _) rfl (fun h => o_loadBx rfl tyS_25 (gv h rfl) rfl (nb rfl) rfl) ?_
    obtain ⟨r10, h11, H⟩ := bind_s H
    refine TD.cq rfl rfl rfl (.gd _ _) rfl (fun h _ => o_callP rfl en_49 rfl (evl_2 (gv h rfl) (gv h rfl)) (.cons _ _ _ _ (.cl _ rfl) (.cons _ _ _ _ (.cl _ rfl) .nil)) (spec_l1Cmp_p  (gdO_t h11 h))) ?_
    refine TD.cq rfl rfl rfl (.gd _ _) rfl (fun h _ => o_ari rfl (gv h rfl) rfl rfl) ?_
    refine TD.cq rfl rfl rfl (.bool _) rfl (fun h _ => o_and rfl (gv h rfl) rfl (fun k => Gd_t (andi h k)) rfl) ?_
    refine ad 4 ?_
    refine TD.cq rfl rfl rfl (.bool _) rfl (fun h _ => o_lenL (f := c_T_impl_Atom false) rfl rfl (gv h rfl)) ?_
    refine TD.cq rfl rfl rfl (.bool _) rfl (fun h _ => o_ari rfl (gv h rfl) rfl rfl) ?_
    refine ad 6 ?_
    obtain ⟨r12, h13, H⟩ := bind_s H
    refine TD.cq rfl rfl rfl (.bool _) rfl (fun h _ => o_callP rfl en_50 rfl (evl_2 (gv h rfl) (gv h rfl)) (.cons _ _ _ _ (.cl _ rfl) (.cons _ _ _ _ (.cl _ rfl) .nil)) (spec_l11Fields_p false false (gdO_t h13 h))) ?_
    refine TD.cq rfl rfl rfl (.bool _) rfl (fun h _ => o_not rfl (gv h rfl)) ?_
    refine TD.qs rfl rfl (fun _ => o_or rfl rfl rfl rfl (fun k => Gd_t k)) ?_
    refine TD.nil ⟨rfl, ?_⟩
    refine thn_normal ?_
    refine T.cH H (fun H h => ?_) (fun H h => ?_)
    ·refine au 5 ?_
     refine thn_ret (inB_ret (thn_ret ?_))
     exact Pk.id (thn_ret ⟨.inr false, (some_i H).symm, rfl, ⟨trivial, _, (.tmp _ _ _ _ rfl .nil), (.cl _ rfl)⟩⟩)
    ·refine au 5 ?_
     refine TL.st rfl rfl rfl (o_lenL (f := c_T_impl_Atom false) rfl rfl rfl) ?_
     refine au 3 ?_
     obtain ⟨q25, h26, H⟩ := bind_s H
     refine T.lq (fun s => match s with | v14 => [(0, .im b0 (a0.map (c_T_impl_Thing false))), (4, .bx 0 0), (10, .im b0 (a0.map (c_T_impl_Thing false))), (11, .int .i64 (a0.length : Int)), (12, .int .i64 v1), (52, .im false (e4.Parents_.map (c_T_impl_Atom false))), (53, .int .i64 (e4.Parents_.length : Int)), (54, .int .i64 v14)]) (fun s => match s with | v14 => [.box (c_T_impl_Thing false e4)]) (fun q ex fr σ => match q with | .inl _ => ex = .exit 2 ∧ fr = [(0, .im b0 (a0.map (c_T_impl_Thing false))), (10, .im b0 (a0.map (c_T_impl_Thing false))), (11, .int .i64 (a0.length : Int)), (12, .int .i64 v1)] ∧ σ = [.box (c_T_impl_Thing false e4)] | .inr q15 => ex = .ret ∧ RetN Tryz.prog [.tmp 2] (fun v τ => Told τ v (.bool q15)) .ret fr σ) h26 ?_ ?_
     ·rintro v14 y16 H
      refine au 5 ?_
      refine T.cH H (fun H h => ?_) (fun H h => ?_)
      ·refine au 6 ?_
       obtain ⟨e17, h18, H⟩ := bind_s H
       refine TL.st rfl rfl rfl (o_ix (f := c_T_impl_Atom false) rfl rfl tyS_25 rfl rfl h18 rfl) ?_
       refine au 6 ?_
       refine T.drawn rfl ?_
       refine TD.rs rfl rfl (o_loadBx rfl tyS_25 rfl rfl (nb rfl) rfl) ?_
       obtain ⟨r19, h20, H⟩ := bind_s H
       refine TD.qs rfl rfl (fun _ => o_callP rfl en_22 rfl rfl (.cons _ _ _ _ (.cl _ rfl) .nil) (spec_l11Ref_p  h20)) ?_
       refine ad 3 ?_
       refine TD.cq rfl rfl rfl (.bool _) rfl (fun h _ => o_ari rfl (gv h rfl) rfl rfl) ?_
       refine TD.cq rfl rfl rfl (.bool _) rfl (fun h _ => o_move rfl (gv h rfl)) ?_
       refine TD.cr rfl rfl rfl (.gd _ _) rfl (fun h => o_fieldAddr rfl rfl rfl tyS_28 (by decide) rfl rfl ⟨_, rfl, Nat.le_of_ble_eq_true rfl⟩) ?_
       refine TD.cr rfl rfl rfl (.gd _ _) rfl (fun h => o_loadBx rfl tyS_28 (gv h rfl) rfl (nb rfl) rfl) ?_
       refine TD.cq rfl rfl rfl (.gd _ _) rfl (fun h _ => o_move rfl rfl) ?_
       refine TD.cq rfl rfl rfl (.gd _ _) rfl (fun h _ => o_ari rfl (gv h rfl) rfl rfl) ?_
       obtain ⟨e21, h22, H⟩ := bind_s H
       refine TD.cq rfl rfl rfl (.gd _ _) rfl (fun h _ => o_ix (f := c_T_impl_Atom false) rfl rfl tyS_25 (gv h rfl) (gv h rfl) (gdO_t h22 h) rfl) ?_
       refine TD.cq rfl rfl rfl (.gd _ _) rfl (fun h _ => o_loadRf rfl tyS_25 (gv h rfl) (nb rfl) rfl) ?_
       refine TD.cr rfl rfl rfl (.gd _ _) rfl (fun h => o_loadBx rfl tyS_25 rfl rfl (nb rfl) rfl) ?_
       obtain ⟨r23, h24, H⟩ := bind_s H
       refine TD.cq rfl rfl rfl (.gd _ _) rfl (fun h _ => o_callP rfl en_49 rfl (evl_2 (gv h rfl) (gv h rfl)) (.cons _ _ _ _ (.cl _ rfl) (.cons _ _ _ _ (.cl _ rfl) .nil)) (spec_l1Cmp_p  (gdO_t h24 h))) ?_
       refine TD.cq rfl rfl rfl (.gd _ _) rfl (fun h _ => o_ari rfl (gv h rfl) rfl rfl) ?_
       refine TD.cq rfl rfl rfl (.bool _) rfl (fun h _ => o_and rfl (gv h rfl) rfl (fun k => Gd_t (andi h k)) rfl) ?_
       refine TD.qs rfl rfl (fun _ => o_or rfl rfl rfl rfl (fun k => Gd_t k)) ?_
       refine TD.nil ⟨rfl, ?_⟩
       refine thn_normal ?_
       refine T.cH H (fun H h => ?_) (fun H h => ?_)
       ·refine au 5 ?_
        refine inB_ret (thn_ret ?_)
        exact Pk.id (thn_ret ⟨.inr false, (some_i H).symm, rfl, ⟨trivial, _, (.tmp _ _ _ _ rfl .nil), (.cl _ rfl)⟩⟩)
       ·refine au 5 ?_
        exact Pk.of (thn_normal ⟨(IntKind.i64.wrap (v14 + 1)), (some_i H).symm, rfl, rfl⟩)
      ·refine T.exit ?_
       refine thn_exit ?_
       exact Pk.of (thn_exit ⟨.inl (), (some_i H).symm, rfl, rfl, rfl⟩)
     ·rcases q25 with ⟨⟩ | q15
      ·rintro _ _ _ ⟨rfl, rfl, rfl⟩
       refine inB_here ?_
       refine au 4 ?_
       exact Pk.of (thn_normal ⟨(IntKind.i64.wrap (v1 + 1)), (some_i H).symm, rfl, rfl⟩)
      ·rintro _ fr1 σ1 ⟨rfl, hr⟩
       refine inB_ret (inB_ret (thn_ret ?_))
       exact Pk.id (thn_ret ⟨.inr q15, (some_i H).symm, rfl, hr⟩)
   ·refine T.exit ?_
    refine thn_exit ?_
    exact Pk.of (thn_exit ⟨.inl (), (some_i H).symm, rfl, rfl, rfl⟩)
  ·rcases q27 with ⟨⟩ | q2
   ·rintro _ _ _ ⟨rfl, rfl, rfl⟩
    refine inB_here ?_
    refine au 5 ?_
    cases some_i H
    exact ⟨trivial, _, (.tmp _ _ _ _ rfl .nil), (.cl _ rfl)⟩
   ·rintro _ fr1 σ1 ⟨rfl, hr⟩
    refine inB_ret (thn_ret ?_)
    cases some_i H
    exact hr
theorem en_21 : En Tryz.prog 21 := .of Tryz.func21 rfl rfl
noncomputable def spec_l11Thing_l1 (a0 : (List T_impl_Thing)) (a1 : T_impl_Atom) : Int → Option (Int ⊕ (Unit ⊕ (T_impl_Thing × Bool))) := fun s => match s with
  | v1 => cond (decide (v1 < (a0.length : Int))) ((idx a0 v1).bind fun e4 => cond (e4.Ref_ == a1) (some (.inr (.inr (e4, true)))) (some (.inl (IntKind.i64.wrap (v1 + 1))))) (some (.inr (.inl ())))
noncomputable def spec_l11Thing (a0 : (List T_impl_Thing)) (a1 : T_impl_Atom) : Option (T_impl_Thing × Bool) :=
  (loopO (spec_l11Thing_l1 a0 a1) 0).bind fun q6 => (match q6 with | .inl _ => some ((⟨(⟨0, 0, e0, e0⟩ : T_impl_Atom), ([] : List T_impl_Atom), ([] : List ByteArray), ([] : List T_impl_Value)⟩ : T_impl_Thing), false) | .inr q2 => some q2)
theorem spec_l11Thing_p (b0 : Bool) {a0 : (List T_impl_Thing)} {a1 : T_impl_Atom} {R0 : T_impl_Thing} {R1 : Bool} (H : spec_l11Thing a0 a1 = some (R0, R1)) : Pure Tryz.prog 52 [.im b0 (a0.map (c_T_impl_Thing false)), .agg (c_T_impl_Atom false a1)] (.tup [.agg (c_T_impl_Thing false R0), .bool R1]) := by
 refine CallT.of_TN (n := 21) Tryz.func52 rfl rfl rfl rfl ?_
 refine au 10 ?_
 refine TL.st rfl rfl rfl (o_lenL (f := c_T_impl_Thing false) rfl rfl rfl) ?_
 refine au 3 ?_
 obtain ⟨q6, h7, H⟩ := bind_s H
 refine T.lq (fun s => match s with | v1 => [(3, .bx 0 0), (4, .bx 1 0), (8, .im b0 (a0.map (c_T_impl_Thing false))), (9, .int .i64 (a0.length : Int)), (10, .int .i64 v1)]) (fun s => match s with | v1 => [.box (c_T_impl_Atom false a1), .box [.int .i64 0, .int .i64 0, .str e0, .str e0, .nilS, .nilS, .nilS]]) (fun q ex fr σ => match q with | .inl _ => ex = .exit 0 ∧ fr = [(4, .bx 1 0)] ∧ σ = [.box (c_T_impl_Atom false a1), .box [.int .i64 0, .int .i64 0, .str e0, .str e0, .nilS, .nilS, .nilS]] | .inr q2 => ex = .ret ∧ RetN Tryz.prog [.cell 4 63, .tmp 5] (fun v τ => Told τ v (.tup [.agg (c_T_impl_Thing false q2.1), .bool q2.2])) .ret fr σ) h7 ?_ ?_
 ·rintro v1 y3 H
  refine au 5 ?_
  refine T.cH H (fun H h => ?_) (fun H h => ?_)
  ·refine au 5 ?_
   obtain ⟨e4, h5, H⟩ := bind_s H
   refine TL.st rfl rfl rfl (o_ix (f := c_T_impl_Thing false) rfl rfl tyS_63 rfl rfl h5 rfl) ?_
   refine au 9 ?_
   refine TL.st rfl rfl rfl (o_eqA rfl rfl eqG_25 rfl rfl rfl rfl (eqT_25 e4.Ref_ a1)) ?_
   refine TL.nil ?_
   refine T.cH H (fun H h => ?_) (fun H h => ?_)
   ·refine au 6 ?_
    refine T.conv (Cs.eqS (σ' := [_, .box (c_T_impl_Thing false e4), .box (c_T_impl_Thing false e4)]) rfl) ?_
    refine T.ret ?_
    refine inB_ret (thn_ret ?_)
    exact Pk.id (thn_ret ⟨.inr (e4, true), (some_i H).symm, rfl, ⟨trivial, _, (.cell _ _ _ _ _ _ _ _ _ _ rfl rfl tyS_63 (nb rfl) rfl (.tmp _ _ _ _ rfl .nil)), (.tupL (.cons _ _ _ _ (.cl _ rfl) (.cons _ _ _ _ (.cl _ rfl) .nil)))⟩⟩)
   ·refine au 5 ?_
    exact Pk.of (thn_normal ⟨(IntKind.i64.wrap (v1 + 1)), (some_i H).symm, rfl, rfl⟩)
  ·refine T.exit ?_
   refine thn_exit ?_
   exact Pk.of (thn_exit ⟨.inl (), (some_i H).symm, rfl, rfl, rfl⟩)
 ·rcases q6 with ⟨⟩ | q2
  ·rintro _ _ _ ⟨rfl, rfl, rfl⟩
   refine inB_here ?_
   refine au 7 ?_
   cases some_i H
   exact ⟨trivial, _, (.cell _ _ _ _ _ _ _ _ _ _ rfl rfl tyS_63 (nb rfl) rfl (.tmp _ _ _ _ rfl .nil)), (.tupL (.cons _ _ _ _ (.aggL (.cons _ _ _ _ (.cl _ rfl) (.cons _ _ _ _ (.cl _ rfl) (.cons _ _ _ _ (.cl _ rfl) (.cons _ _ _ _ (.cl _ rfl) (.cons _ _ _ _ .nil (.cons _ _ _ _ .nil (.cons _ _ _ _ .nil .nil)))))))) (.cons _ _ _ _ (.cl _ rfl) .nil)))⟩
  ·rintro _ fr1 σ1 ⟨rfl, hr⟩
   refine inB_ret (thn_ret ?_)
   cases some_i H
   exact hr
theorem en_52 : En Tryz.prog 52 := .of Tryz.func52 rfl rfl
noncomputable def spec_l12Has_l1 (a0 : (List T_impl_Atom)) (a1 : T_impl_Atom) : Int → Option (Int ⊕ (Unit ⊕ Bool)) := fun s => match s with
  | v1 => cond (decide (v1 < (a0.length : Int))) ((idx a0 v1).bind fun e4 => cond (e4 == a1) (some (.inr (.inr true))) (some (.inl (IntKind.i64.wrap (v1 + 1))))) (some (.inr (.inl ())))
noncomputable def spec_l12Has (a0 : (List T_impl_Atom)) (a1 : T_impl_Atom) : Option Bool :=
  (loopO (spec_l12Has_l1 a0 a1) 0).bind fun q6 => (match q6 with | .inl _ => some false | .inr q2 => some q2)
theorem spec_l12Has_p (b0 : Bool) {a0 : (List T_impl_Atom)} {a1 : T_impl_Atom} {R0 : Bool} (H : spec_l12Has a0 a1 = some R0) : Pure Tryz.prog 24 [.im b0 (a0.map (c_T_impl_Atom false)), .agg (c_T_impl_Atom false a1)] (.bool R0) := by
 refine CallT.of_TN (n := 17) Tryz.func24 rfl rfl rfl rfl ?_
 refine au 9 ?_
 refine TL.st rfl rfl rfl (o_lenL (f := c_T_impl_Atom false) rfl rfl rfl) ?_
 refine au 3 ?_
 obtain ⟨q6, h7, H⟩ := bind_s H
 refine T.lq (fun s => match s with | v1 => [(3, .bx 0 0), (7, .im b0 (a0.map (c_T_impl_Atom false))), (8, .int .i64 (a0.length : Int)), (9, .int .i64 v1)]) (fun s => match s with | v1 => [.box (c_T_impl_Atom false a1)]) (fun q ex fr σ => match q with | .inl _ => ex = .exit 0 ∧ fr = [] ∧ σ = [.box (c_T_impl_Atom false a1)] | .inr q2 => ex = .ret ∧ RetN Tryz.prog [.tmp 4] (fun v τ => Told τ v (.bool q2)) .ret fr σ) h7 ?_ ?_
 ·rintro v1 y3 H
  refine au 5 ?_
  refine T.cH H (fun H h => ?_) (fun H h => ?_)
  ·refine au 5 ?_
   obtain ⟨e4, h5, H⟩ := bind_s H
   refine TL.st rfl rfl rfl (o_ix (f := c_T_impl_Atom false) rfl rfl tyS_25 rfl rfl h5 rfl) ?_
   refine au 8 ?_
   refine TL.st rfl rfl rfl (o_eqA rfl rfl eqG_25 rfl rfl rfl rfl (eqT_25 e4 a1)) ?_
   refine TL.nil ?_
   refine T.cH H (fun H h => ?_) (fun H h => ?_)
   ·refine au 5 ?_
    refine inB_ret (thn_ret ?_)
    exact Pk.id (thn_ret ⟨.inr true, (some_i H).symm, rfl, ⟨trivial, _, (.tmp _ _ _ _ rfl .nil), (.cl _ rfl)⟩⟩)
   ·refine au 5 ?_
    exact Pk.of (thn_normal ⟨(IntKind.i64.wrap (v1 + 1)), (some_i H).symm, rfl, rfl⟩)
  ·refine T.exit ?_
   refine thn_exit ?_
   exact Pk.of (thn_exit ⟨.inl (), (some_i H).symm, rfl, rfl, rfl⟩)
 ·rcases q6 with ⟨⟩ | q2
  ·rintro _ _ _ ⟨rfl, rfl, rfl⟩
   refine inB_here ?_
   refine au 5 ?_
   cases some_i H
   exact ⟨trivial, _, (.tmp _ _ _ _ rfl .nil), (.cl _ rfl)⟩
  ·rintro _ fr1 σ1 ⟨rfl, hr⟩
   refine inB_ret (thn_ret ?_)
   cases some_i H
   exact hr
theorem en_24 : En Tryz.prog 24 := .of Tryz.func24 rfl rfl
noncomputable def spec_l12Up_l2 (r9 : T_impl_Thing) : (List T_impl_Atom × Int) → Option ((List T_impl_Atom × Int) ⊕ List T_impl_Atom) := fun s => match s with
  | (l12, v13) => cond (decide (v13 < (r9.Parents_.length : Int))) ((idx r9.Parents_ v13).bind fun e16 => (spec_l12Has l12 e16).bind fun r18 => cond (!r18) ((app l12 ([e16] : List T_impl_Atom)).bind fun l20 => some (.inl (l20, (IntKind.i64.wrap (v13 + 1))))) (some (.inl (l12, (IntKind.i64.wrap (v13 + 1)))))) (some (.inr l12))
noncomputable def spec_l12Up_l1 (a0 : (List T_impl_Thing)) : (List T_impl_Atom × Int) → Option ((List T_impl_Atom × Int) ⊕ List T_impl_Atom) := fun s => match s with
  | (l1, v2) => cond (decide (v2 < (l1.length : Int))) ((idx l1 v2).bind fun e7 => (spec_l11Thing a0 e7).bind fun q => (match q with | (r9, r10) => (loopO (spec_l12Up_l2 r9) (l1, 0)).bind fun l14 => (match l14 with | l14 => some (.inl (l14, (IntKind.i64.wrap (v2 + 1))))))) (some (.inr l1))
noncomputable def spec_l12Up (a0 : (List T_impl_Thing)) (a1 : T_impl_Atom) : Option (List T_impl_Atom) :=
  (loopO (spec_l12Up_l1 a0) (([a1] : List T_impl_Atom), 0)).bind fun l3 => (match l3 with | l3 => (spec_l1Sorted l3).bind fun r4 => some r4)
theorem spec_l12Up_p (b0 : Bool) {a0 : (List T_impl_Thing)} {a1 : T_impl_Atom} {R0 : (List T_impl_Atom)} (H : spec_l12Up a0 a1 = some R0) : Pure Tryz.prog 23 [.im b0 (a0.map (c_T_impl_Thing false)), .agg (c_T_impl_Atom false a1)] (.im false (R0.map (c_T_impl_Atom false))) := by
 refine CallT.of_TN (n := 46) Tryz.func23 rfl rfl rfl rfl ?_
 refine au 8 ?_
 refine TL.st rfl rfl rfl (o_sliceHd (rows := ([a1] : List T_impl_Atom).map (c_T_impl_Atom false)) .clo rfl rfl tyS_25 ⟨_, rfl, rfl⟩ (by decide) rfl rfl rfl rfl (by decide) (fun _ => rfl) (by decide) rfl (by decide)) ?_
 refine au 8 ?_
 obtain ⟨l3, h25, H⟩ := bind_s H
 refine T.lq (fun s => match s with | (l1, v2) => [(0, .im b0 (a0.map (c_T_impl_Thing false))), (5, .hd 1 (l1.map (c_T_impl_Atom false)).length 0 (l1.map (c_T_impl_Atom false)).length), (6, .int .i64 v2)]) (fun s => match s with | (l1, v2) => [.box (c_T_impl_Atom false a1), .arr .clo 4 (l1.map (c_T_impl_Atom false))]) (fun q ex fr σ => match q with | l3 => ex = .exit 0 ∧ fr = [(5, .hd 1 (l3.map (c_T_impl_Atom false)).length 0 (l3.map (c_T_impl_Atom false)).length)] ∧ σ = [.box (c_T_impl_Atom false a1), .arr .clo 4 (l3.map (c_T_impl_Atom false))]) h25 ?_ ?_
 ·rintro ⟨l1, v2⟩ y6 H
  refine au 5 ?_
  refine TL.st rfl rfl rfl (o_lenOwn (f := c_T_impl_Atom false) rfl rfl rfl rfl rfl) ?_
  refine au 2 ?_
  refine T.cH H (fun H h => ?_) (fun H h => ?_)
  ·refine au 8 ?_
   obtain ⟨e7, h8, H⟩ := bind_s H
   refine TL.st rfl rfl rfl (o_ixh (f := c_T_impl_Atom false) rfl rfl tyS_25 rfl rfl rfl rfl h8 rfl) ?_
   refine TL.st rfl rfl rfl (o_loadEl rfl tyS_25 rfl rfl rfl (by rw [List.getElem?_map, (idx_s h8).2]; rfl) (nb rfl) rfl) ?_
   obtain ⟨⟨r9, r10⟩, h11, H⟩ := bind_s H
   refine TL.st rfl rfl rfl (o_callP rfl en_52 rfl rfl (.cons _ _ _ _ (.imv _ _) (.cons _ _ _ _ (.cl _ rfl) .nil)) (spec_l11Thing_p b0 h11)) ?_
   refine au 11 ?_
   refine TL.st rfl rfl rfl (o_lenL (f := c_T_impl_Atom false) rfl rfl rfl) ?_
   refine au 3 ?_
   obtain ⟨l14, h23, H⟩ := bind_s H
   refine T.lq (fun s => match s with | (l12, v13) => [(0, .im b0 (a0.map (c_T_impl_Thing false))), (5, .hd 1 (l12.map (c_T_impl_Atom false)).length 0 (l12.map (c_T_impl_Atom false)).length), (6, .int .i64 v2), (29, .im false (r9.Parents_.map (c_T_impl_Atom false))), (30, .int .i64 (r9.Parents_.length : Int)), (31, .int .i64 v13)]) (fun s => match s with | (l12, v13) => [.box (c_T_impl_Atom false a1), .arr .clo 4 (l12.map (c_T_impl_Atom false)), .box (c_T_impl_Thing false r9)]) (fun q ex fr σ => match q with | l14 => ex = .exit 2 ∧ fr = [(0, .im b0 (a0.map (c_T_impl_Thing false))), (5, .hd 1 (l14.map (c_T_impl_Atom false)).length 0 (l14.map (c_T_impl_Atom false)).length), (6, .int .i64 v2)] ∧ σ = [.box (c_T_impl_Atom false a1), .arr .clo 4 (l14.map (c_T_impl_Atom false)), .box (c_T_impl_Thing false r9)]) h23 ?_ ?_
   ·rintro ⟨l12, v13⟩ y15 H
    refine au 5 ?_
    refine T.cH H (fun H h => ?_) (fun H h => ?_)
    ·refine au 5 ?_
     obtain ⟨e16, h17, H⟩ := bind_s H
     refine TL.st rfl rfl rfl (o_ix (f := c_T_impl_Atom false) rfl rfl tyS_25 rfl rfl h17 rfl) ?_
     refine au 8 ?_
     obtain ⟨r18, h19, H⟩ := bind_s H
     refine TL.st rfl rfl rfl (o_callP rfl en_24 rfl rfl (.cons _ _ _ _ (.own rfl (by decide) rfl) (.cons _ _ _ _ (.cl _ rfl) .nil)) (spec_l12Has_p true h19)) ?_
     refine au 2 ?_
     refine T.cH H (fun H h => ?_) (fun H h => ?_)
     ·refine au 3 ?_
      refine TL.st rfl rfl rfl (o_sliceIm (rows := ([e16] : List T_impl_Atom).map (c_T_impl_Atom false)) rfl rfl tyS_25 ⟨_, rfl, rfl⟩ (by decide) rfl rfl rfl rfl rfl rfl) ?_
      obtain ⟨l20, h21, H⟩ := bind_s H
      refine TL.st rfl rfl rfl (o_ap (f := c_T_impl_Atom false) (xs := l12) (ys := ([e16] : List T_impl_Atom)) rfl rfl tyE_25 rfl rfl rfl rfl (by decide) rfl (fun _ => rfl) h21) ?_
      refine au 2 ?_
      refine T.conv (Cs.eqS (σ' := [_, .arr .clo 4 (l20.map (c_T_impl_Atom false)), _, .box (c_T_impl_Atom false e16)]) rfl) ?_
      refine au 4 ?_
      exact Pk.of (thn_normal ⟨(l20, (IntKind.i64.wrap (v13 + 1))), (some_i H).symm, rfl, rfl⟩)
     ·refine au 5 ?_
      exact Pk.of (thn_normal ⟨(l12, (IntKind.i64.wrap (v13 + 1))), (some_i H).symm, rfl, rfl⟩)
    ·refine T.exit ?_
     refine thn_exit ?_
     exact Pk.of (thn_exit ⟨l12, (some_i H).symm, rfl, rfl, rfl⟩)
   ·rintro _ _ _ ⟨rfl, rfl, rfl⟩
    refine inB_here ?_
    refine au 5 ?_
    exact Pk.of (thn_normal ⟨(l14, (IntKind.i64.wrap (v2 + 1))), (some_i H).symm, rfl, rfl⟩)
  ·refine T.exit ?_
   refine thn_exit ?_
   exact Pk.of (thn_exit ⟨l1, (some_i H).symm, rfl, rfl, rfl⟩)
 ·rintro _ _ _ ⟨rfl, rfl, rfl⟩
  refine inB_here ?_
  refine au 3 ?_
  obtain ⟨r4, h5, H⟩ := bind_s H
  refine TL.st rfl rfl rfl (o_callP rfl en_53 rfl rfl (.cons _ _ _ _ (.own rfl (by decide) rfl) .nil) (spec_l1Sorted_p true h5)) ?_
  refine au 3 ?_
  cases some_i H
  exact ⟨trivial, _, (.tmp _ _ _ _ rfl .nil), (.cl _ rfl)⟩
theorem en_23 : En Tryz.prog 23 := .of Tryz.func23 rfl rfl
noncomputable def spec_Ancestors (a0 : (List T_impl_Thing)) (a1 : T_impl_Atom) : Option (List T_impl_Atom) :=
  (spec_GoodThings a0).bind fun r1 => (gdO (!(!r1)) (spec_l11Ref a1)).bind fun r3 => cond ((!r1) || (!r3)) (some ([] : List T_impl_Atom)) ((spec_l12Up a0 a1).bind fun r5 => some r5)
theorem spec_Ancestors_p (b0 : Bool) {a0 : (List T_impl_Thing)} {a1 : T_impl_Atom} {R0 : (List T_impl_Atom)} (H : spec_Ancestors a0 a1 = some R0) : Pure Tryz.prog 7 [.im b0 (a0.map (c_T_impl_Thing false)), .agg (c_T_impl_Atom false a1)] (.im false (R0.map (c_T_impl_Atom false))) := by
 refine CallT.of_TN (n := 16) Tryz.func7 rfl rfl rfl rfl ?_
 refine au 9 ?_
 obtain ⟨r1, h2, H⟩ := bind_s H
 refine TL.st rfl rfl rfl (o_callP rfl en_21 rfl rfl (.cons _ _ _ _ (.imv _ _) .nil) (spec_GoodThings_p b0 h2)) ?_
 refine au 2 ?_
 refine TL.gcq rfl rfl rfl (.bool _) rfl rfl (fun h => o_loadBx rfl tyS_25 rfl rfl (nb rfl) rfl) ?_
 obtain ⟨r3, h4, H⟩ := bind_s H
 refine TL.gcq rfl rfl rfl (.bool _) rfl rfl (fun h => o_callP rfl en_22 rfl (evl_1 (gv h rfl)) (.cons _ _ _ _ (.cl _ rfl) .nil) (spec_l11Ref_p  (gdO_t h4 h))) ?_
 refine au 3 ?_
 refine T.cH H (fun H h => ?_) (fun H h => ?_)
 ·refine au 5 ?_
  refine thn_ret ?_
  cases some_i H
  exact ⟨trivial, _, (.tmp _ _ _ _ rfl .nil), .nil⟩
 ·refine au 5 ?_
  obtain ⟨r5, h6, H⟩ := bind_s H
  refine TL.st rfl rfl rfl (o_callP rfl en_23 rfl rfl (.cons _ _ _ _ (.imv _ _) (.cons _ _ _ _ (.cl _ rfl) .nil)) (spec_l12Up_p b0 h6)) ?_
  refine au 3 ?_
  cases some_i H
  exact ⟨trivial, _, (.tmp _ _ _ _ rfl .nil), (.cl _ rfl)⟩
theorem en_7 : En Tryz.prog 7 := .of Tryz.func7 rfl rfl
noncomputable def laws_zAtoms_l1 (a0 : (List T_impl_Atom)) (a1 : (List T_impl_Atom)) : Int → Option (Int ⊕ (Unit ⊕ Bool)) := fun s => match s with
  | v1 => cond (decide (v1 < (a0.length : Int))) ((idx a0 v1).bind fun e4 => (idx a1 v1).bind fun e6 => cond (!(e4 == e6)) (some (.inr (.inr false))) (some (.inl (IntKind.i64.wrap (v1 + 1))))) (some (.inr (.inl ())))
noncomputable def laws_zAtoms (a0 : (List T_impl_Atom)) (a1 : (List T_impl_Atom)) : Option Bool :=
  cond ((a0.length : Int) != (a1.length : Int)) (some false) ((loopO (laws_zAtoms_l1 a0 a1) 0).bind fun q8 => (match q8 with | .inl _ => some true | .inr q2 => some q2))
theorem laws_zAtoms_p (b0 : Bool) (b1 : Bool) {a0 : (List T_impl_Atom)} {a1 : (List T_impl_Atom)} {R0 : Bool} (H : laws_zAtoms a0 a1 = some R0) : Pure Tryz.prog 6 [.im b0 (a0.map (c_T_impl_Atom false)), .im b1 (a1.map (c_T_impl_Atom false))] (.bool R0) := by
 refine CallT.of_TN (n := 26) Tryz.func6 rfl rfl rfl rfl ?_
 refine au 8 ?_
 refine TL.st rfl rfl rfl (o_lenL (f := c_T_impl_Atom false) rfl rfl rfl) ?_
 refine TL.st rfl rfl rfl (o_move rfl rfl) ?_
 refine TL.st rfl rfl rfl (o_lenL (f := c_T_impl_Atom false) rfl rfl rfl) ?_
 refine au 2 ?_
 refine T.cH H (fun H h => ?_) (fun H h => ?_)
 ·refine au 5 ?_
  refine thn_ret ?_
  cases some_i H
  exact ⟨trivial, _, (.tmp _ _ _ _ rfl .nil), (.cl _ rfl)⟩
 ·refine au 5 ?_
  refine TL.st rfl rfl rfl (o_lenL (f := c_T_impl_Atom false) rfl rfl rfl) ?_
  refine au 3 ?_
  obtain ⟨q8, h9, H⟩ := bind_s H
  refine T.lq (fun s => match s with | v1 => [(0, .im b0 (a0.map (c_T_impl_Atom false))), (1, .im b1 (a1.map (c_T_impl_Atom false))), (12, .int .i64 (a0.length : Int)), (13, .int .i64 v1)]) (fun s => match s with | v1 => []) (fun q ex fr σ => match q with | .inl _ => ex = .exit 0 ∧ fr = [] ∧ σ = [] | .inr q2 => ex = .ret ∧ RetN Tryz.prog [.tmp 4] (fun v τ => Told τ v (.bool q2)) .ret fr σ) h9 ?_ ?_
  ·rintro v1 y3 H
   refine au 5 ?_
   refine T.cH H (fun H h => ?_) (fun H h => ?_)
   ·refine au 9 ?_
    refine T.drawn rfl ?_
    refine ad 2 ?_
    obtain ⟨e4, h5, H⟩ := bind_s H
    refine TD.qs rfl rfl (fun _ => o_ix (f := c_T_impl_Atom false) rfl rfl tyS_25 rfl rfl h5 rfl) ?_
    refine TD.qs rfl rfl (fun _ => o_loadRf rfl tyS_25 rfl (nb rfl) rfl) ?_
    refine ad 2 ?_
    obtain ⟨e6, h7, H⟩ := bind_s H
    refine TD.qs rfl rfl (fun _ => o_ix (f := c_T_impl_Atom false) rfl rfl tyS_25 rfl rfl h7 rfl) ?_
    refine TD.qs rfl rfl (fun _ => o_loadRf rfl tyS_25 rfl (nb rfl) rfl) ?_
    refine TD.qs rfl rfl (fun _ => o_neA rfl rfl eqG_25 rfl rfl rfl rfl (eqT_25 e4 e6)) ?_
    refine TD.nil ⟨rfl, ?_⟩
    refine thn_normal ?_
    refine T.cH H (fun H h => ?_) (fun H h => ?_)
    ·refine au 5 ?_
     refine inB_ret (thn_ret ?_)
     exact Pk.id (thn_ret ⟨.inr false, (some_i H).symm, rfl, ⟨trivial, _, (.tmp _ _ _ _ rfl .nil), (.cl _ rfl)⟩⟩)
    ·refine au 5 ?_
     exact Pk.of (thn_normal ⟨(IntKind.i64.wrap (v1 + 1)), (some_i H).symm, rfl, rfl⟩)
   ·refine T.exit ?_
    refine thn_exit ?_
    exact Pk.of (thn_exit ⟨.inl (), (some_i H).symm, rfl, rfl, rfl⟩)
  ·rcases q8 with ⟨⟩ | q2
   ·rintro _ _ _ ⟨rfl, rfl, rfl⟩
    refine inB_here ?_
    refine au 5 ?_
    cases some_i H
    exact ⟨trivial, _, (.tmp _ _ _ _ rfl .nil), (.cl _ rfl)⟩
   ·rintro _ fr1 σ1 ⟨rfl, hr⟩
    refine inB_ret (thn_ret ?_)
    cases some_i H
    exact hr
theorem en_6 : En Tryz.prog 6 := .of Tryz.func6 rfl rfl
noncomputable def spec_HasAtom (a0 : (List T_impl_Atom)) (a1 : T_impl_Atom) : Option Bool :=
  (spec_l12Has a0 a1).bind fun r1 => some r1
theorem spec_HasAtom_p (b0 : Bool) {a0 : (List T_impl_Atom)} {a1 : T_impl_Atom} {R0 : Bool} (H : spec_HasAtom a0 a1 = some R0) : Pure Tryz.prog 8 [.im b0 (a0.map (c_T_impl_Atom false)), .agg (c_T_impl_Atom false a1)] (.bool R0) := by
 refine CallT.of_TN (n := 8) Tryz.func8 rfl rfl rfl rfl ?_
 refine au 9 ?_
 obtain ⟨r1, h2, H⟩ := bind_s H
 refine TL.st rfl rfl rfl (o_callP rfl en_24 rfl rfl (.cons _ _ _ _ (.imv _ _) (.cons _ _ _ _ (.cl _ rfl) .nil)) (spec_l12Has_p b0 h2)) ?_
 refine au 3 ?_
 cases some_i H
 exact ⟨trivial, _, (.tmp _ _ _ _ rfl .nil), (.cl _ rfl)⟩
theorem en_8 : En Tryz.prog 8 := .of Tryz.func8 rfl rfl
theorem en_16 : En Tryz.prog 16 := .of Tryz.func16 rfl rfl
theorem tyS_34 : TyS Tryz.prog 34 true 6 := ⟨rfl, rfl⟩
noncomputable def impl_ygoodHead_j2 (a0 : T_impl_Head) (a1 : Bool) (v10 : Bool) : Option Bool :=
  cond v10 ((impl_yzeroAtom a0.Atom_).bind fun r11 => some ((r11 && (a0.Type_.toList == e0.toList)) && (!a1))) (some false)
noncomputable def impl_ygoodHead_j1 (a0 : T_impl_Head) (a1 : Bool) (v3 : Bool) : Option Bool :=
  cond v3 ((impl_ygoodRef a0.Atom_).bind fun r4 => some (r4 && (a0.Type_.toList == e0.toList))) (cond (a0.Kind_ == 4) ((impl_yzeroAtom a0.Atom_).bind fun r6 => (gdO r6 (impl_GoodName a0.Type_)).bind fun r8 => some (r6 && r8)) (cond (a0.Kind_ == 5) (impl_ygoodHead_j2 a0 a1 (a0.Kind_ == 5)) (impl_ygoodHead_j2 a0 a1 (a0.Kind_ == 6))))
noncomputable def impl_ygoodHead (a0 : T_impl_Head) (a1 : Bool) : Option Bool :=
  cond (a0.Kind_ == 1) ((impl_yzeroAtom a0.Atom_).bind fun r1 => some (r1 && (a0.Type_.toList == e0.toList))) (cond (a0.Kind_ == 2) (impl_ygoodHead_j1 a0 a1 (a0.Kind_ == 2)) (impl_ygoodHead_j1 a0 a1 (a0.Kind_ == 3)))
theorem impl_ygoodHead_p  {a0 : T_impl_Head} {a1 : Bool} {R0 : Bool} (H : impl_ygoodHead a0 a1 = some R0) : Pure Tryz.prog 25 [.agg (c_T_impl_Head false a0), .bool a1] (.bool R0) := by
 refine CallT.of_TN (n := 53) Tryz.func25 rfl rfl rfl rfl ?_
 refine au 17 ?_
 refine T.cH H (fun H h => ?_) (fun H h => ?_)
 ·refine au 4 ?_
  obtain ⟨r1, h2, H⟩ := bind_s H
  refine TL.st rfl rfl rfl (o_callP rfl en_54 rfl rfl (.cons _ _ _ _ (.cl _ rfl) .nil) (impl_yzeroAtom_p  h2)) ?_
  refine au 3 ?_
  refine TL.gcq rfl rfl rfl (.bool _) rfl rfl (fun h => o_str rfl (gv h rfl) rfl rfl) ?_
  refine au 4 ?_
  refine inB_ret (thn_ret ?_)
  cases some_i H
  exact ⟨trivial, _, (.tmp _ _ _ _ rfl .nil), (.cl _ rfl)⟩
 ·refine T.cut (fun fr' σ' => ∃ (v3 : Bool), fr' = [(1, .bool a1), (2, .bx 0 0), (6, .int .i64 a0.Kind_), (17, .bool v3)] ∧ σ' = [.box (c_T_impl_Head false a0)] ∧ impl_ygoodHead_j1 a0 a1 v3 = some R0) (T.pk ?_) ?_
  ·skip
   refine au 5 ?_
   refine T.cH H (fun H h => ?_) (fun H h => ?_)
   ·refine T.skip ?_
    exact Pk.of (thn_normal ⟨(a0.Kind_ == 2), rfl, rfl, H⟩)
   ·refine au 4 ?_
    exact Pk.of (thn_normal ⟨(a0.Kind_ == 3), rfl, rfl, H⟩)
  ·rintro _ _ ⟨v3, rfl, rfl, H⟩
   refine T.cH H (fun H h => ?_) (fun H h => ?_)
   ·refine au 4 ?_
    obtain ⟨r4, h5, H⟩ := bind_s H
    refine TL.st rfl rfl rfl (o_callP rfl en_17 rfl rfl (.cons _ _ _ _ (.cl _ rfl) .nil) (impl_ygoodRef_p  h5)) ?_
    refine au 3 ?_
    refine TL.gcq rfl rfl rfl (.bool _) rfl rfl (fun h => o_str rfl (gv h rfl) rfl rfl) ?_
    refine au 4 ?_
    refine inB_ret (thn_ret ?_)
    cases some_i H
    exact ⟨trivial, _, (.tmp _ _ _ _ rfl .nil), (.cl _ rfl)⟩
   ·refine au 5 ?_
    refine T.cH H (fun H h => ?_) (fun H h => ?_)
    ·refine au 4 ?_
     obtain ⟨r6, h7, H⟩ := bind_s H
     refine TL.st rfl rfl rfl (o_callP rfl en_54 rfl rfl (.cons _ _ _ _ (.cl _ rfl) .nil) (impl_yzeroAtom_p  h7)) ?_
     refine au 3 ?_
     obtain ⟨r8, h9, H⟩ := bind_s H
     refine TL.gcq rfl rfl rfl (.bool _) rfl rfl (fun h => o_callP rfl en_55 rfl (evl_1 (gv h rfl)) (.cons _ _ _ _ (.cl _ rfl) .nil) (impl_GoodName_p  (gdO_t h9 h))) ?_
     refine au 4 ?_
     refine inB_ret (thn_ret ?_)
     cases some_i H
     exact ⟨trivial, _, (.tmp _ _ _ _ rfl .nil), (.cl _ rfl)⟩
    ·refine T.cut (fun fr' σ' => ∃ (v10 : Bool), fr' = [(1, .bool a1), (2, .bx 0 0), (38, .bool v10)] ∧ σ' = [.box (c_T_impl_Head false a0)] ∧ impl_ygoodHead_j2 a0 a1 v10 = some R0) (T.pk ?_) ?_
     ·skip
      refine au 5 ?_
      refine T.cH H (fun H h => ?_) (fun H h => ?_)
      ·refine T.skip ?_
       exact Pk.of (thn_normal ⟨(a0.Kind_ == 5), rfl, rfl, H⟩)
      ·refine au 4 ?_
       exact Pk.of (thn_normal ⟨(a0.Kind_ == 6), rfl, rfl, H⟩)
     ·rintro _ _ ⟨v10, rfl, rfl, H⟩
      refine T.cH H (fun H h => ?_) (fun H h => ?_)
      ·refine au 4 ?_
       obtain ⟨r11, h12, H⟩ := bind_s H
       refine TL.st rfl rfl rfl (o_callP rfl en_54 rfl rfl (.cons _ _ _ _ (.cl _ rfl) .nil) (impl_yzeroAtom_p  h12)) ?_
       refine au 3 ?_
       refine TL.gcq rfl rfl rfl (.bool _) rfl rfl (fun h => o_str rfl (gv h rfl) rfl rfl) ?_
       refine au 8 ?_
       refine inB_ret (thn_ret ?_)
       cases some_i H
       exact ⟨trivial, _, (.tmp _ _ _ _ rfl .nil), (.cl _ rfl)⟩
      ·refine au 6 ?_
       cases some_i H
       exact ⟨trivial, _, (.tmp _ _ _ _ rfl .nil), (.cl _ rfl)⟩
theorem en_25 : En Tryz.prog 25 := .of Tryz.func25 rfl rfl
theorem en_18 : En Tryz.prog 18 := .of Tryz.func18 rfl rfl
noncomputable def impl_yheadMatches (a0 : (List T_impl_Thing)) (a1 : T_impl_Head) (a2 : T_impl_Atom) : Option Bool :=
  cond (a1.Kind_ == 1) (some true) (cond (a1.Kind_ == 2) (some (a1.Atom_ == a2)) (cond (a1.Kind_ == 3) ((AbAnc.anc a0 a2).bind fun r1 => some ((mget r1 a1.Atom_).getD false)) (cond (a1.Kind_ == 4) (some (a1.Type_.toList == a2.Type_.toList)) (some false))))
theorem impl_yheadMatches_p (b0 : Bool) {a0 : (List T_impl_Thing)} {a1 : T_impl_Head} {a2 : T_impl_Atom} {R0 : Bool} (H : impl_yheadMatches a0 a1 a2 = some R0) : Pure Tryz.prog 26 [.im b0 (a0.map (c_T_impl_Thing false)), .agg (c_T_impl_Head false a1), .agg (c_T_impl_Atom false a2)] (.bool R0) := by
 refine CallT.of_TN (n := 32) Tryz.func26 rfl rfl rfl rfl ?_
 refine au 18 ?_
 refine T.cH H (fun H h => ?_) (fun H h => ?_)
 ·refine au 5 ?_
  refine inB_ret (thn_ret ?_)
  cases some_i H
  exact ⟨trivial, _, (.tmp _ _ _ _ rfl .nil), (.cl _ rfl)⟩
 ·refine au 5 ?_
  refine T.cH H (fun H h => ?_) (fun H h => ?_)
  ·refine au 5 ?_
   refine TL.st rfl rfl rfl (o_eqA rfl rfl eqG_25 rfl rfl rfl rfl (eqT_25 a1.Atom_ a2)) ?_
   refine au 3 ?_
   refine inB_ret (thn_ret ?_)
   cases some_i H
   exact ⟨trivial, _, (.tmp _ _ _ _ rfl .nil), (.cl _ rfl)⟩
  ·refine au 5 ?_
   refine T.cH H (fun H h => ?_) (fun H h => ?_)
   ·refine T.seq ?_
    obtain ⟨r1, h2, H⟩ := bind_s H
    refine T.drawS (fr' := [(0, .im b0 (a0.map (c_T_impl_Thing false))), (1, .agg (c_T_impl_Head false a1)), (2, .agg (c_T_impl_Atom false a2)), (4, .bx 0 0), (5, .bx 1 0), (6, .bool ((mget r1 a1.Atom_).getD false)), (7, .bx 0 0), (8, .int .i64 a1.Kind_), (9, .bool (a1.Kind_ == 1)), (10, .bool (a1.Kind_ == 1)), (11, .bool (a1.Kind_ == 2)), (12, .bool (a1.Kind_ == 2)), (17, .bool (a1.Kind_ == 3)), (18, .bool (a1.Kind_ == 3)), (19, .im b0 (a0.map (c_T_impl_Thing false))), (20, .agg (c_T_impl_Atom false a2)), (21, .mp 2), (22, .bx 0 1), (23, .agg (c_T_impl_Atom false a1.Atom_)), (24, .bool ((mget r1 a1.Atom_).getD false))]) (R := [⟨some 19, .im b0 (a0.map (c_T_impl_Thing false)), .q, []⟩, ⟨some 20, .agg (c_T_impl_Atom false a2), .q, []⟩, ⟨some 21, .mp 2, .q, []⟩, ⟨some 22, .bx 0 1, .q, []⟩, ⟨some 23, .agg (c_T_impl_Atom false a1.Atom_), .q, []⟩, ⟨some 24, .bool ((mget r1 a1.Atom_).getD false), .q, []⟩, ⟨some 6, .bool ((mget r1 a1.Atom_).getD false), .q, []⟩]) (fun b => cond (b 2) ([.box (c_T_impl_Head false a1), .box (c_T_impl_Atom false a2), mpO (fun e => .agg (c_T_impl_Atom false e)) (V.bool) r1]) ([.box (c_T_impl_Head false a1), .box (c_T_impl_Atom false a2)])) rfl ?_ ?_ rfl rfl (FrL.get (.cons rfl (.cons rfl (.cons rfl (.cons rfl (.cons rfl (.cons rfl (.cons rfl (.cons rfl (.cons rfl (.cons rfl (.cons rfl (.cons rfl (.cons rfl (.cons rfl (.cons rfl (.cons rfl (.cons rfl (.cons rfl (.cons rfl (.cons rfl .nil))))))))))))))))))))) ?_
    ·refine .cons _ _ _ _ _ ⟨rfl, [(0, .im b0 (a0.map (c_T_impl_Thing false)))], AllN.get rfl (.cons rfl .nil), fun b hd hn hk hc => ?_⟩ ?_
     ·exact ops_at (cdf (hn 2 rfl)) rfl (o_move rfl rfl) (cdf ((updb_ne rfl).trans (hn 2 rfl))) rfl
     refine .cons _ _ _ _ _ ⟨rfl, [(5, .bx 1 0)], AllN.get rfl (.cons rfl .nil), fun b hd hn hk hc => ?_⟩ ?_
     ·exact ops_at (cdf (hn 2 rfl)) rfl (o_loadBx rfl tyS_25 rfl rfl (nb rfl) rfl) (cdf ((updb_ne rfl).trans (hn 2 rfl))) rfl
     refine .cons _ _ _ _ _ ⟨rfl, [(19, .im b0 (a0.map (c_T_impl_Thing false))), (20, .agg (c_T_impl_Atom false a2))], AllN.get rfl (.cons rfl (.cons rfl .nil)), fun b hd hn hk hc => ?_⟩ ?_
     ·exact ops_at (cdf hk) rfl (o_callOwnM rfl en_18 rfl rfl (.cons _ _ _ _ (.imv _ _) (.cons _ _ _ _ (.cl _ rfl) .nil)) (AbAnc.lib_18 b0 h2) (fun e he => by obtain ⟨x, _, rfl⟩ := List.mem_map.1 he; rfl)) ((cdt updb_self).trans rfl) rfl
     refine .cons _ _ _ _ _ ⟨rfl, [(4, .bx 0 0)], AllN.get rfl (.cons rfl .nil), fun b hd hn hk hc => ?_⟩ ?_
     ·cases e2 : b 2
      ·exact ops_at (cdf e2) rfl (o_fieldAddr rfl rfl rfl tyS_25 (by decide) rfl rfl ⟨_, rfl, Nat.le_of_ble_eq_true rfl⟩) (cdf ((updb_ne rfl).trans e2)) rfl
      ·exact ops_at (cdt e2) rfl (o_fieldAddr rfl rfl rfl tyS_25 (by decide) rfl rfl ⟨_, rfl, Nat.le_of_ble_eq_true rfl⟩) (cdt ((updb_ne rfl).trans e2)) rfl
     refine .cons _ _ _ _ _ ⟨rfl, [(22, .bx 0 1)], AllN.get rfl (.cons rfl .nil), fun b hd hn hk hc => ?_⟩ ?_
     ·cases e2 : b 2
      ·exact ops_at (cdf e2) rfl (o_loadBx rfl tyS_25 rfl rfl (nb rfl) rfl) (cdf ((updb_ne rfl).trans e2)) rfl
      ·exact ops_at (cdt e2) rfl (o_loadBx rfl tyS_25 rfl rfl (nb rfl) rfl) (cdt ((updb_ne rfl).trans e2)) rfl
     refine .cons _ _ _ _ _ ⟨rfl, [(21, .mp 2), (23, .agg (c_T_impl_Atom false a1.Atom_))], AllN.get rfl (.cons rfl (.cons rfl .nil)), fun b hd hn hk hc => ?_⟩ ?_
     ·exact ops_at (cdt (hd 2 rfl)) rfl (o_lookup (fk := fun e => .agg (c_T_impl_Atom false e)) (fv := V.bool) (xs := r1) (z := false) rfl rfl (key_agg rfl eqT_25) rfl rfl rfl rfl (fun S w => ⟨_, rfl, .bool _⟩)) (cdt ((updb_ne rfl).trans (hd 2 rfl))) rfl
     refine .cons _ _ _ _ _ ⟨rfl, [(24, .bool ((mget r1 a1.Atom_).getD false))], AllN.get rfl (.cons rfl .nil), fun b hd hn hk hc => ?_⟩ ?_
     ·exact ops_at (cdt (hd 2 rfl)) rfl (o_assign rfl rfl) (cdt ((updb_ne rfl).trans (hd 2 rfl))) rfl
     exact .nil _
    ·intro b b' h; simp only [h 2 (by decide)]
    refine thn_normal ?_
    refine T.conv (Cs.eqS (σ' := [.box (c_T_impl_Head false a1), .box (c_T_impl_Atom false a2), mpO (fun e => .agg (c_T_impl_Atom false e)) (V.bool) r1]) rfl) ?_
    refine T.ret ?_
    refine inB_ret (thn_ret ?_)
    cases some_i H
    exact ⟨trivial, _, (.tmp _ _ _ _ rfl .nil), (.cl _ rfl)⟩
   ·refine au 5 ?_
    refine T.cH H (fun H h => ?_) (fun H h => ?_)
    ·refine au 10 ?_
     refine inB_ret (thn_ret ?_)
     cases some_i H
     exact ⟨trivial, _, (.tmp _ _ _ _ rfl .nil), (.cl _ rfl)⟩
    ·refine au 6 ?_
     cases some_i H
     exact ⟨trivial, _, (.tmp _ _ _ _ rfl .nil), (.cl _ rfl)⟩
theorem en_26 : En Tryz.prog 26 := .of Tryz.func26 rfl rfl
noncomputable def impl_HeadMatches (a0 : (List T_impl_Thing)) (a1 : T_impl_Head) (a2 : T_impl_Atom) : Option Bool :=
  (impl_GoodThings a0).bind fun r1 => (gdO r1 (impl_ygoodHead a1 false)).bind fun r3 => (gdO (r1 && r3) (impl_ygoodRef a2)).bind fun r5 => (gdO ((r1 && r3) && r5) (impl_yheadMatches a0 a1 a2)).bind fun r7 => some (((r1 && r3) && r5) && r7)
theorem impl_HeadMatches_p (b0 : Bool) {a0 : (List T_impl_Thing)} {a1 : T_impl_Head} {a2 : T_impl_Atom} {R0 : Bool} (H : impl_HeadMatches a0 a1 a2 = some R0) : Pure Tryz.prog 9 [.im b0 (a0.map (c_T_impl_Thing false)), .agg (c_T_impl_Head false a1), .agg (c_T_impl_Atom false a2)] (.bool R0) := by
 refine CallT.of_TN (n := 23) Tryz.func9 rfl rfl rfl rfl ?_
 refine au 9 ?_
 obtain ⟨r1, h2, H⟩ := bind_s H
 refine TL.st rfl rfl rfl (o_callP rfl en_16 rfl rfl (.cons _ _ _ _ (.imv _ _) .nil) (impl_GoodThings_p b0 h2)) ?_
 refine TL.st rfl rfl rfl (o_move rfl rfl) ?_
 refine TL.gcq rfl rfl rfl (.bool _) rfl rfl (fun h => o_loadBx rfl tyS_34 rfl rfl (nb rfl) rfl) ?_
 obtain ⟨r3, h4, H⟩ := bind_s H
 refine TL.gcq rfl rfl rfl (.bool _) rfl rfl (fun h => o_callP rfl en_25 rfl (evl_2 (gv h rfl) rfl) (.cons _ _ _ _ (.cl _ rfl) (.cons _ _ _ _ (.cl _ rfl) .nil)) (impl_ygoodHead_p  (gdO_t h4 h))) ?_
 refine au 2 ?_
 refine TL.gcq rfl rfl rfl (.bool _) rfl rfl (fun h => o_loadBx rfl tyS_25 rfl rfl (nb rfl) rfl) ?_
 obtain ⟨r5, h6, H⟩ := bind_s H
 refine TL.gcq rfl rfl rfl (.bool _) rfl rfl (fun h => o_callP rfl en_17 rfl (evl_1 (gv h rfl)) (.cons _ _ _ _ (.cl _ rfl) .nil) (impl_ygoodRef_p  (gdO_t h6 h))) ?_
 refine au 3 ?_
 refine TL.gcq rfl rfl rfl (.bool _) rfl rfl (fun h => o_loadBx rfl tyS_34 rfl rfl (nb rfl) rfl) ?_
 refine TL.gcq rfl rfl rfl (.bool _) rfl rfl (fun h => o_loadBx rfl tyS_25 rfl rfl (nb rfl) rfl) ?_
 obtain ⟨r7, h8, H⟩ := bind_s H
 refine TL.gcq rfl rfl rfl (.bool _) rfl rfl (fun h => o_callP rfl en_26 rfl (evl_3 (gv h rfl) (gv h rfl) (gv h rfl)) (.cons _ _ _ _ (.imv _ _) (.cons _ _ _ _ (.cl _ rfl) (.cons _ _ _ _ (.cl _ rfl) .nil))) (impl_yheadMatches_p b0 (gdO_t h8 h))) ?_
 refine au 4 ?_
 cases some_i H
 exact ⟨trivial, _, (.tmp _ _ _ _ rfl .nil), (.cl _ rfl)⟩
theorem en_9 : En Tryz.prog 9 := .of Tryz.func9 rfl rfl
noncomputable def laws_FnAbove_l2 (r4 : (List T_impl_Atom)) (r17 : (List T_impl_Atom)) : Int → Option (Int ⊕ (Unit ⊕ Bool)) := fun s => match s with
  | v19 => cond (decide (v19 < (r17.length : Int))) ((idx r17 v19).bind fun e24 => (spec_HasAtom r4 e24).bind fun r26 => cond (!r26) (some (.inr (.inr false))) (some (.inl (IntKind.i64.wrap (v19 + 1))))) (some (.inr (.inl ())))
noncomputable def laws_FnAbove_l1 (r1 : (List T_impl_Thing)) (r2 : T_impl_Atom) (r4 : (List T_impl_Atom)) : Int → Option (Int ⊕ (Unit ⊕ Bool)) := fun s => match s with
  | v12 => cond (decide (v12 < (r4.length : Int))) ((idx r4 v12).bind fun e15 => (AbAnc.ancs r1 e15).bind fun r17 => (loopO (laws_FnAbove_l2 r4 r17) 0).bind fun q28 => (match q28 with | .inl _ => (impl_HeadMatches r1 (⟨3, e15, e0⟩ : T_impl_Head) r2).bind fun r21 => cond (!r21) (some (.inr (.inr false))) (some (.inl (IntKind.i64.wrap (v12 + 1)))) | .inr q20 => some (.inr (.inr q20)))) (some (.inr (.inl ())))
noncomputable def laws_FnAbove (a0 : (List Int)) : Option Bool :=
  cond (decide ((a0.length : Int) > 1048576)) (some true) ((spec_DrawAncestors a0).bind fun q => (match q with | (r1, r2) => (AbAnc.ancs r1 r2).bind fun r4 => (spec_Ancestors r1 r2).bind fun r6 => (laws_zAtoms r4 r6).bind fun r8 => cond (!r8) (some false) (cond ((r4.length : Int) == 0) (some true) ((spec_HasAtom r4 r2).bind fun r10 => cond (!r10) (some false) ((loopO (laws_FnAbove_l1 r1 r2 r4) 0).bind fun q30 => (match q30 with | .inl _ => some true | .inr q13 => some q13))))))
theorem laws_FnAbove_p (b0 : Bool) {a0 : (List Int)} {R0 : Bool} (H : laws_FnAbove a0 = some R0) : Pure Tryz.prog 3 [.im b0 (a0.map (c_int .u8))] (.bool R0) := by
 refine CallT.of_TN (n := 60) Tryz.func3 rfl rfl rfl rfl ?_
 refine au 8 ?_
 refine TL.st rfl rfl rfl (o_lenL (f := c_int .u8) rfl rfl rfl) ?_
 refine au 2 ?_
 refine T.cH H (fun H h => ?_) (fun H h => ?_)
 ·refine au 5 ?_
  refine thn_ret ?_
  cases some_i H
  exact ⟨trivial, _, (.tmp _ _ _ _ rfl .nil), (.cl _ rfl)⟩
 ·refine au 4 ?_
  obtain ⟨⟨r1, r2⟩, h3, H⟩ := bind_s H
  refine TL.st rfl rfl rfl (o_callP rfl en_4 rfl rfl (.cons _ _ _ _ (.imv _ _) .nil) (spec_DrawAncestors_p b0 h3)) ?_
  refine au 11 ?_
  obtain ⟨r4, h5, H⟩ := bind_s H
  refine TL.st rfl rfl rfl (o_callP rfl en_5 rfl rfl (.cons _ _ _ _ (.cl _ rfl) (.cons _ _ _ _ (.cl _ rfl) .nil)) (AbAnc.lib_5 false h5)) ?_
  refine au 8 ?_
  obtain ⟨r6, h7, H⟩ := bind_s H
  refine TL.st rfl rfl rfl (o_callP rfl en_7 rfl rfl (.cons _ _ _ _ (.cl _ rfl) (.cons _ _ _ _ (.cl _ rfl) .nil)) (spec_Ancestors_p false h7)) ?_
  obtain ⟨r8, h9, H⟩ := bind_s H
  refine TL.st rfl rfl rfl (o_callP rfl en_6 rfl rfl (.cons _ _ _ _ (.cl _ rfl) (.cons _ _ _ _ (.cl _ rfl) .nil)) (laws_zAtoms_p false false h9)) ?_
  refine au 2 ?_
  refine T.cH H (fun H h => ?_) (fun H h => ?_)
  ·refine au 5 ?_
   refine thn_ret ?_
   cases some_i H
   exact ⟨trivial, _, (.tmp _ _ _ _ rfl .nil), (.cl _ rfl)⟩
  ·refine au 5 ?_
   refine TL.st rfl rfl rfl (o_lenL (f := c_T_impl_Atom false) rfl rfl rfl) ?_
   refine au 2 ?_
   refine T.cH H (fun H h => ?_) (fun H h => ?_)
   ·refine au 5 ?_
    refine thn_ret ?_
    cases some_i H
    exact ⟨trivial, _, (.tmp _ _ _ _ rfl .nil), (.cl _ rfl)⟩
   ·refine au 6 ?_
    obtain ⟨r10, h11, H⟩ := bind_s H
    refine TL.st rfl rfl rfl (o_callP rfl en_8 rfl rfl (.cons _ _ _ _ (.cl _ rfl) (.cons _ _ _ _ (.cl _ rfl) .nil)) (spec_HasAtom_p false h11)) ?_
    refine au 2 ?_
    refine T.cH H (fun H h => ?_) (fun H h => ?_)
    ·refine au 5 ?_
     refine thn_ret ?_
     cases some_i H
     exact ⟨trivial, _, (.tmp _ _ _ _ rfl .nil), (.cl _ rfl)⟩
    ·refine au 5 ?_
     refine TL.st rfl rfl rfl (o_lenL (f := c_T_impl_Atom false) rfl rfl rfl) ?_
     refine au 3 ?_
     obtain ⟨q30, h31, H⟩ := bind_s H
     refine T.lq (fun s => match s with | v12 => [(3, .im false (r1.map (c_T_impl_Thing false))), (4, .bx 0 0), (5, .im false (r4.map (c_T_impl_Atom false))), (34, .im false (r4.map (c_T_impl_Atom false))), (35, .int .i64 (r4.length : Int)), (36, .int .i64 v12)]) (fun s => match s with | v12 => [.box (c_T_impl_Atom false r2)]) (fun q ex fr σ => match q with | .inl _ => ex = .exit 0 ∧ fr = [] ∧ σ = [.box (c_T_impl_Atom false r2)] | .inr q13 => ex = .ret ∧ RetN Tryz.prog [.tmp 2] (fun v τ => Told τ v (.bool q13)) .ret fr σ) h31 ?_ ?_
     ·rintro v12 y14 H
      refine au 5 ?_
      refine T.cH H (fun H h => ?_) (fun H h => ?_)
      ·refine au 5 ?_
       obtain ⟨e15, h16, H⟩ := bind_s H
       refine TL.st rfl rfl rfl (o_ix (f := c_T_impl_Atom false) rfl rfl tyS_25 rfl rfl h16 rfl) ?_
       refine au 9 ?_
       obtain ⟨r17, h18, H⟩ := bind_s H
       refine TL.st rfl rfl rfl (o_callP rfl en_5 rfl rfl (.cons _ _ _ _ (.cl _ rfl) (.cons _ _ _ _ (.cl _ rfl) .nil)) (AbAnc.lib_5 false h18)) ?_
       refine TL.st rfl rfl rfl (o_lenL (f := c_T_impl_Atom false) rfl rfl rfl) ?_
       refine au 3 ?_
       obtain ⟨q28, h29, H⟩ := bind_s H
       refine T.lq (fun s => match s with | v19 => [(3, .im false (r1.map (c_T_impl_Thing false))), (4, .bx 0 0), (5, .im false (r4.map (c_T_impl_Atom false))), (7, .bx 1 0), (34, .im false (r4.map (c_T_impl_Atom false))), (35, .int .i64 (r4.length : Int)), (36, .int .i64 v12), (42, .im false (r17.map (c_T_impl_Atom false))), (43, .int .i64 (r17.length : Int)), (44, .int .i64 v19)]) (fun s => match s with | v19 => [.box (c_T_impl_Atom false r2), .box (c_T_impl_Atom false e15)]) (fun q ex fr σ => match q with | .inl _ => ex = .exit 2 ∧ fr = [(3, .im false (r1.map (c_T_impl_Thing false))), (4, .bx 0 0), (5, .im false (r4.map (c_T_impl_Atom false))), (7, .bx 1 0), (34, .im false (r4.map (c_T_impl_Atom false))), (35, .int .i64 (r4.length : Int)), (36, .int .i64 v12)] ∧ σ = [.box (c_T_impl_Atom false r2), .box (c_T_impl_Atom false e15)] | .inr q20 => ex = .ret ∧ RetN Tryz.prog [.tmp 2] (fun v τ => Told τ v (.bool q20)) .ret fr σ) h29 ?_ ?_
       ·rintro v19 y23 H
        refine au 5 ?_
        refine T.cH H (fun H h => ?_) (fun H h => ?_)
        ·refine au 5 ?_
         obtain ⟨e24, h25, H⟩ := bind_s H
         refine TL.st rfl rfl rfl (o_ix (f := c_T_impl_Atom false) rfl rfl tyS_25 rfl rfl h25 rfl) ?_
         refine au 8 ?_
         obtain ⟨r26, h27, H⟩ := bind_s H
         refine TL.st rfl rfl rfl (o_callP rfl en_8 rfl rfl (.cons _ _ _ _ (.cl _ rfl) (.cons _ _ _ _ (.cl _ rfl) .nil)) (spec_HasAtom_p false h27)) ?_
         refine au 2 ?_
         refine T.cH H (fun H h => ?_) (fun H h => ?_)
         ·refine au 5 ?_
          refine inB_ret (thn_ret ?_)
          exact Pk.id (thn_ret ⟨.inr false, (some_i H).symm, rfl, ⟨trivial, _, (.tmp _ _ _ _ rfl .nil), (.cl _ rfl)⟩⟩)
         ·refine au 5 ?_
          exact Pk.of (thn_normal ⟨(IntKind.i64.wrap (v19 + 1)), (some_i H).symm, rfl, rfl⟩)
        ·refine T.exit ?_
         refine thn_exit ?_
         exact Pk.of (thn_exit ⟨.inl (), (some_i H).symm, rfl, rfl, rfl⟩)
       ·rcases q28 with ⟨⟩ | q20
        ·rintro _ _ _ ⟨rfl, rfl, rfl⟩
         refine inB_here ?_
         refine au 6 ?_
         obtain ⟨r21, h22, H⟩ := bind_s H
         refine TL.st rfl rfl rfl (o_callP rfl en_9 rfl rfl (.cons _ _ _ _ (.cl _ rfl) (.cons _ _ _ _ (.cl _ rfl) (.cons _ _ _ _ (.cl _ rfl) .nil))) (impl_HeadMatches_p false h22)) ?_
         refine au 2 ?_
         refine T.cH H (fun H h => ?_) (fun H h => ?_)
         ·refine au 5 ?_
          refine inB_ret (thn_ret ?_)
          exact Pk.id (thn_ret ⟨.inr false, (some_i H).symm, rfl, ⟨trivial, _, (.tmp _ _ _ _ rfl .nil), (.cl _ rfl)⟩⟩)
         ·refine au 5 ?_
          exact Pk.of (thn_normal ⟨(IntKind.i64.wrap (v12 + 1)), (some_i H).symm, rfl, rfl⟩)
        ·rintro _ fr1 σ1 ⟨rfl, hr⟩
         refine inB_ret (thn_ret (inB_ret (thn_ret ?_)))
         exact Pk.id (thn_ret ⟨.inr q20, (some_i H).symm, rfl, hr⟩)
      ·refine T.exit ?_
       refine thn_exit ?_
       exact Pk.of (thn_exit ⟨.inl (), (some_i H).symm, rfl, rfl, rfl⟩)
     ·rcases q30 with ⟨⟩ | q13
      ·rintro _ _ _ ⟨rfl, rfl, rfl⟩
       refine inB_here ?_
       refine au 5 ?_
       cases some_i H
       exact ⟨trivial, _, (.tmp _ _ _ _ rfl .nil), (.cl _ rfl)⟩
      ·rintro _ fr1 σ1 ⟨rfl, hr⟩
       refine inB_ret (thn_ret ?_)
       cases some_i H
       exact hr
end Go.G36.AB
