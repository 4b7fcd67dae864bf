import Derived.Test.YtgfpdlebnbpcfabDoorSX1
set_option linter.all false
set_option maxRecDepth 20000
set_option maxHeartbeats 4000000
namespace Go.G36.SX
open Go Go.Proofs Go.G36.SL
theorem impl_ysessions_do_p (c0 : Bool) {a0 : T_impl_SessEvent} {s0 : T_impl_ysessions} {s2 : List T_impl_ysession} {s3 : List (Option (List ByteArray))} {R0 : T_impl_SessReply} {U0 : T_impl_ysessions} {U2 : List T_impl_ysession} {U3 : List (Option (List ByteArray))} (H : impl_ysessions_do a0 s0 s2 s3 = some (R0, U0, U2, U3)) : St Tryd.prog 35 [.bx 0 0, .agg (c_T_impl_SessEvent false a0)] [.box (k_impl_ysessions 1 4 2 c0 s0), .arr .raw 1 (s0.list_.map (c_px 2)), .fam (s2.map (c_T_impl_ysession 3 false)), .afm 1 (s3.map (c_ax (c_str))), .arr .clo 4 (s0.reply_.map (c_T_impl_SessReply false))] (.agg (c_T_impl_SessReply false R0)) [.box (k_impl_ysessions 1 4 2 c0 (⟨U0.c_, U0.now_, U0.ids_, U0.list_, U0.reply_⟩ : T_impl_ysessions)), .arr .raw 1 (U0.list_.map (c_px 2)), .fam (U2.map (c_T_impl_ysession 3 false)), .afm 1 (U3.map (c_ax (c_str))), .arr .clo 4 (U0.reply_.map (c_T_impl_SessReply false))] := by
 refine CallT.fin (CallT.of_TN (n := 272) Tryd.func35 rfl rfl rfl rfl ?_) rfl rfl ⟨(bels_iff.1 rfl), ⟨(belRaw fun _ => rfl), ⟨(belFam fun _ => rfl), ⟨trivial, ⟨trivial, trivial⟩⟩⟩⟩⟩
 refine au 51 ?_
 refine TL.gcq rfl rfl rfl (.bool _) rfl rfl (fun h => o_move rfl (gv h rfl)) ?_
 refine TL.gcq rfl rfl rfl (.gd _ _) rfl rfl (fun h => o_fieldAddr rfl rfl rfl tyS_9 (by decide) rfl rfl ⟨_, rfl, Nat.le_of_ble_eq_true rfl⟩) ?_
 refine TL.gcq rfl rfl rfl (.gd _ _) rfl rfl (fun h => o_loadBx rfl tyS_9 (gv h rfl) rfl (nb rfl) rfl) ?_
 obtain ⟨r1, h2, H⟩ := bind_s H
 refine TL.gcq rfl rfl rfl (.gd _ _) rfl rfl (fun h => o_callP rfl en_41 rfl (evl_1 (gv h rfl)) (.cons _ _ _ _ (.cl _ rfl) .nil) (impl_GoodName_p  (gdO_t h2 h))) ?_
 refine TL.gcq rfl rfl rfl (.gd _ _) rfl rfl (fun h => o_not rfl (gv h rfl)) ?_
 refine TL.gcq rfl rfl rfl (.bool _) rfl rfl (fun h => o_and rfl (gv h rfl) rfl (fun k => Gd_t (andi h k)) rfl) ?_
 refine au 4 ?_
 refine TL.gcq rfl rfl rfl (.bool _) rfl rfl (fun h => o_move rfl (gv h rfl)) ?_
 refine TL.gcq rfl rfl rfl (.gd _ _) rfl rfl (fun h => o_fieldAddr rfl rfl rfl tyS_9 (by decide) rfl rfl ⟨_, rfl, Nat.le_of_ble_eq_true rfl⟩) ?_
 refine TL.gcq rfl rfl rfl (.gd _ _) rfl rfl (fun h => o_loadBx rfl tyS_9 (gv h rfl) rfl (nb rfl) rfl) ?_
 refine TL.gcq rfl rfl rfl (.gd _ _) rfl rfl (fun h => o_str rfl (gv h rfl) rfl rfl) ?_
 refine TL.gcq rfl rfl rfl (.bool _) rfl rfl (fun h => o_and rfl (gv h rfl) rfl (fun k => Gd_t (andi h k)) rfl) ?_
 refine au 3 ?_
 refine TL.gcq rfl rfl rfl (.bool _) rfl rfl (fun h => o_move rfl (gv h rfl)) ?_
 refine TL.gcq rfl rfl rfl (.gd _ _) rfl rfl (fun h => o_fieldAddr rfl rfl rfl tyS_9 (by decide) rfl rfl ⟨_, rfl, Nat.le_of_ble_eq_true rfl⟩) ?_
 refine TL.gcq rfl rfl rfl (.gd _ _) rfl rfl (fun h => o_loadBx rfl tyS_9 (gv h rfl) rfl (nb rfl) rfl) ?_
 obtain ⟨r3, h4, H⟩ := bind_s H
 refine TL.gcq rfl rfl rfl (.gd _ _) rfl rfl (fun h => o_callP rfl en_41 rfl (evl_1 (gv h rfl)) (.cons _ _ _ _ (.cl _ rfl) .nil) (impl_GoodName_p  (gdO_t h4 h))) ?_
 refine TL.gcq rfl rfl rfl (.gd _ _) rfl rfl (fun h => o_not rfl (gv h rfl)) ?_
 refine TL.gcq rfl rfl rfl (.bool _) rfl rfl (fun h => o_and rfl (gv h rfl) rfl (fun k => Gd_t (andi h k)) rfl) ?_
 refine au 4 ?_
 refine TL.gcq rfl rfl rfl (.bool _) rfl rfl (fun h => o_move rfl (gv h rfl)) ?_
 refine TL.gcq rfl rfl rfl (.gd _ _) rfl rfl (fun h => o_fieldAddr rfl rfl rfl tyS_9 (by decide) rfl rfl ⟨_, rfl, Nat.le_of_ble_eq_true rfl⟩) ?_
 refine TL.gcq rfl rfl rfl (.gd _ _) rfl rfl (fun h => o_loadBx rfl tyS_9 (gv h rfl) rfl (nb rfl) rfl) ?_
 refine TL.gcq rfl rfl rfl (.gd _ _) rfl rfl (fun h => o_str rfl (gv h rfl) rfl rfl) ?_
 refine TL.gcq rfl rfl rfl (.bool _) rfl rfl (fun h => o_and rfl (gv h rfl) rfl (fun k => Gd_t (andi h k)) rfl) ?_
 refine au 3 ?_
 refine TL.gcq rfl rfl rfl (.bool _) rfl rfl (fun h => o_move rfl (gv h rfl)) ?_
 refine TL.gcq rfl rfl rfl (.gd _ _) rfl rfl (fun h => o_fieldAddr rfl rfl rfl tyS_9 (by decide) rfl rfl ⟨_, rfl, Nat.le_of_ble_eq_true rfl⟩) ?_
 refine TL.gcq rfl rfl rfl (.gd _ _) rfl rfl (fun h => o_loadBx rfl tyS_9 (gv h rfl) rfl (nb rfl) rfl) ?_
 refine TL.gcq rfl rfl rfl (.gd _ _) rfl rfl (fun h => o_str rfl (gv h rfl) rfl rfl) ?_
 refine TL.gcq rfl rfl rfl (.bool _) rfl rfl (fun h => o_and rfl (gv h rfl) rfl (fun k => Gd_t (andi h k)) rfl) ?_
 refine au 8 ?_
 refine T.cH H (fun H h => ?_) (fun H h => ?_)
 ·refine au 5 ?_
  refine T.conv (Cs.eqS (σ' := [_, _, _, _, _, .box (c_T_impl_SessEvent false a0), .box [.int .i64 1, .str e0, .str e0, .int .i64 0]]) rfl) ?_
  refine T.ret ?_
  refine thn_ret ?_
  cases some_i H
  exact ⟨trivial, _, (.cell _ _ _ _ _ _ _ _ _ _ rfl rfl tyS_57 (nb rfl) rfl .nil), ⟨rfl, _, rfl⟩⟩
 ·refine au 3 ?_
  refine T.drawn rfl ?_
  refine ad 7 ?_
  refine TD.nil ⟨rfl, ?_⟩
  refine thn_normal ?_
  refine T.cH H (fun H h => ?_) (fun H h => ?_)
  ·refine au 5 ?_
   refine T.conv (Cs.eqS (σ' := [_, _, _, _, _, .box (c_T_impl_SessEvent false a0), .box [.int .i64 2, .str e0, .str e0, .int .i64 0]]) rfl) ?_
   refine T.ret ?_
   refine thn_ret ?_
   cases some_i H
   exact ⟨trivial, _, (.cell _ _ _ _ _ _ _ _ _ _ rfl rfl tyS_57 (nb rfl) rfl .nil), ⟨rfl, _, rfl⟩⟩
  ·refine au 12 ?_
   refine T.conv (Cs.eqS (σ' := [.box (k_impl_ysessions 1 4 2 c0 ({ s0 with now_ := a0.Time_ } : T_impl_ysessions)), _, _, _, _, .box (c_T_impl_SessEvent false a0), .box [.int .i64 0, .str e0, .str e0, .int .i64 0]]) rfl) ?_
   refine au 10 ?_
   refine T.cH H (fun H h => ?_) (fun H h => ?_)
   ·refine T.seq ?_
    obtain ⟨⟨r5, o6⟩, h7, H⟩ := bind_s H
    obtain ⟨u8, h9, H⟩ := bind_s H
    refine T.drawS (fr' := [(0, .bx 0 0), (1, .agg (c_T_impl_SessEvent false a0)), (3, .bx 5 0), (4, .bx 6 0), (5, .bool ((a0.Kind_ == 1) || (a0.Kind_ == 5))), (6, .bool (a0.Kind_ != 5)), (7, .bool ((((((((decide (a0.Kind_ < 1) || decide (a0.Kind_ > 5)) || decide (a0.Time_ < 0)) || decide (a0.Time_ > 100000000000)) || (((a0.Kind_ == 1) || (a0.Kind_ == 5)) && (!r1))) || ((!((a0.Kind_ == 1) || (a0.Kind_ == 5))) && (!(a0.User_.toList == e0.toList)))) || ((a0.Kind_ != 5) && (!r3))) || ((!(a0.Kind_ != 5)) && (!(a0.Device_.toList == e0.toList)))) || (((a0.Kind_ == 1) || (a0.Kind_ == 5)) && (!(a0.Id_.toList == e0.toList))))), (8, .px 2 0 (s2.length : Int) 0), (13, .bx 5 0), (14, .int .i64 a0.Kind_), (15, .bool (a0.Kind_ == 1)), (16, .bool (a0.Kind_ == 1)), (20, .bool ((a0.Kind_ == 1) || (a0.Kind_ == 5))), (21, .bx 5 0), (22, .int .i64 a0.Kind_), (23, .bool (a0.Kind_ != 5)), (24, .bx 5 0), (25, .int .i64 a0.Kind_), (26, .bool (decide (a0.Kind_ < 1))), (27, .bool (decide (a0.Kind_ < 1))), (31, .bool (decide (a0.Kind_ < 1) || decide (a0.Kind_ > 5))), (32, .bool (decide (a0.Kind_ < 1) || decide (a0.Kind_ > 5))), (36, .bool ((decide (a0.Kind_ < 1) || decide (a0.Kind_ > 5)) || decide (a0.Time_ < 0))), (37, .bool ((decide (a0.Kind_ < 1) || decide (a0.Kind_ > 5)) || decide (a0.Time_ < 0))), (41, .bool (((decide (a0.Kind_ < 1) || decide (a0.Kind_ > 5)) || decide (a0.Time_ < 0)) || decide (a0.Time_ > 100000000000))), (42, .bool (((decide (a0.Kind_ < 1) || decide (a0.Kind_ > 5)) || decide (a0.Time_ < 0)) || decide (a0.Time_ > 100000000000))), (43, .bool (((decide (a0.Kind_ < 1) || decide (a0.Kind_ > 5)) || decide (a0.Time_ < 0)) || decide (a0.Time_ > 100000000000))), (51, .bool ((((decide (a0.Kind_ < 1) || decide (a0.Kind_ > 5)) || decide (a0.Time_ < 0)) || decide (a0.Time_ > 100000000000)) || (((a0.Kind_ == 1) || (a0.Kind_ == 5)) && (!r1)))), (52, .bool ((((decide (a0.Kind_ < 1) || decide (a0.Kind_ > 5)) || decide (a0.Time_ < 0)) || decide (a0.Time_ > 100000000000)) || (((a0.Kind_ == 1) || (a0.Kind_ == 5)) && (!r1)))), (60, .bool (((((decide (a0.Kind_ < 1) || decide (a0.Kind_ > 5)) || decide (a0.Time_ < 0)) || decide (a0.Time_ > 100000000000)) || (((a0.Kind_ == 1) || (a0.Kind_ == 5)) && (!r1))) || ((!((a0.Kind_ == 1) || (a0.Kind_ == 5))) && (!(a0.User_.toList == e0.toList))))), (61, .bool (((((decide (a0.Kind_ < 1) || decide (a0.Kind_ > 5)) || decide (a0.Time_ < 0)) || decide (a0.Time_ > 100000000000)) || (((a0.Kind_ == 1) || (a0.Kind_ == 5)) && (!r1))) || ((!((a0.Kind_ == 1) || (a0.Kind_ == 5))) && (!(a0.User_.toList == e0.toList))))), (69, .bool ((((((decide (a0.Kind_ < 1) || decide (a0.Kind_ > 5)) || decide (a0.Time_ < 0)) || decide (a0.Time_ > 100000000000)) || (((a0.Kind_ == 1) || (a0.Kind_ == 5)) && (!r1))) || ((!((a0.Kind_ == 1) || (a0.Kind_ == 5))) && (!(a0.User_.toList == e0.toList)))) || ((a0.Kind_ != 5) && (!r3)))), (70, .bool ((((((decide (a0.Kind_ < 1) || decide (a0.Kind_ > 5)) || decide (a0.Time_ < 0)) || decide (a0.Time_ > 100000000000)) || (((a0.Kind_ == 1) || (a0.Kind_ == 5)) && (!r1))) || ((!((a0.Kind_ == 1) || (a0.Kind_ == 5))) && (!(a0.User_.toList == e0.toList)))) || ((a0.Kind_ != 5) && (!r3)))), (78, .bool (((((((decide (a0.Kind_ < 1) || decide (a0.Kind_ > 5)) || decide (a0.Time_ < 0)) || decide (a0.Time_ > 100000000000)) || (((a0.Kind_ == 1) || (a0.Kind_ == 5)) && (!r1))) || ((!((a0.Kind_ == 1) || (a0.Kind_ == 5))) && (!(a0.User_.toList == e0.toList)))) || ((a0.Kind_ != 5) && (!r3))) || ((!(a0.Kind_ != 5)) && (!(a0.Device_.toList == e0.toList))))), (79, .bool (((((((decide (a0.Kind_ < 1) || decide (a0.Kind_ > 5)) || decide (a0.Time_ < 0)) || decide (a0.Time_ > 100000000000)) || (((a0.Kind_ == 1) || (a0.Kind_ == 5)) && (!r1))) || ((!((a0.Kind_ == 1) || (a0.Kind_ == 5))) && (!(a0.User_.toList == e0.toList)))) || ((a0.Kind_ != 5) && (!r3))) || ((!(a0.Kind_ != 5)) && (!(a0.Device_.toList == e0.toList))))), (86, .bool ((((((((decide (a0.Kind_ < 1) || decide (a0.Kind_ > 5)) || decide (a0.Time_ < 0)) || decide (a0.Time_ > 100000000000)) || (((a0.Kind_ == 1) || (a0.Kind_ == 5)) && (!r1))) || ((!((a0.Kind_ == 1) || (a0.Kind_ == 5))) && (!(a0.User_.toList == e0.toList)))) || ((a0.Kind_ != 5) && (!r3))) || ((!(a0.Kind_ != 5)) && (!(a0.Device_.toList == e0.toList)))) || (((a0.Kind_ == 1) || (a0.Kind_ == 5)) && (!(a0.Id_.toList == e0.toList))))), (87, .bool ((((((((decide (a0.Kind_ < 1) || decide (a0.Kind_ > 5)) || decide (a0.Time_ < 0)) || decide (a0.Time_ > 100000000000)) || (((a0.Kind_ == 1) || (a0.Kind_ == 5)) && (!r1))) || ((!((a0.Kind_ == 1) || (a0.Kind_ == 5))) && (!(a0.User_.toList == e0.toList)))) || ((a0.Kind_ != 5) && (!r3))) || ((!(a0.Kind_ != 5)) && (!(a0.Device_.toList == e0.toList)))) || (((a0.Kind_ == 1) || (a0.Kind_ == 5)) && (!(a0.Id_.toList == e0.toList))))), (89, .bx 5 1), (90, .int .i64 a0.Time_), (91, .bx 0 0), (92, .bx 0 0), (93, .bx 0 3), (94, .int .i64 s0.now_), (95, .bool (decide (a0.Time_ < s0.now_))), (97, .bx 0 0), (98, .bx 5 1), (99, .int .i64 a0.Time_), (100, .bx 0 0), (101, .bx 0 3), (102, .bx 5 0), (103, .int .i64 a0.Kind_), (104, .bool (a0.Kind_ == 1)), (105, .bool (a0.Kind_ == 1)), (106, .bx 0 0), (107, .str r5), (108, .px 3 0 (s3.length : Int) 0), (109, .bx 5 2), (110, .str a0.User_), (111, .bx 5 3), (112, .str a0.Device_), (113, .bx 0 0), (114, .bx 0 0), (115, .bx 0 3), (116, .int .i64 a0.Time_), (117, .bx 0 0), (118, .bx 0 0), (119, .bx 0 3), (120, .int .i64 a0.Time_), (121, .agg [.px 3 0 (s3.length : Int) 0, .str a0.User_, .str a0.Device_, .int .i64 1, .int .i64 a0.Time_, .int .i64 a0.Time_, .bool false]), (122, .px 2 0 (s2.length : Int) 0)]) (R := [⟨some 106, .bx 0 0, .q, []⟩, ⟨some 107, .str r5, .q, []⟩, ⟨some 108, .px 3 0 (s3.length : Int) 0, .q, []⟩, ⟨some 109, .bx 5 2, .q, []⟩, ⟨some 110, .str a0.User_, .q, []⟩, ⟨some 111, .bx 5 3, .q, []⟩, ⟨some 112, .str a0.Device_, .q, []⟩, ⟨some 113, .bx 0 0, .q, []⟩, ⟨some 114, .bx 0 0, .q, []⟩, ⟨some 115, .bx 0 3, .q, []⟩, ⟨some 116, .int .i64 a0.Time_, .q, []⟩, ⟨some 117, .bx 0 0, .q, []⟩, ⟨some 118, .bx 0 0, .q, []⟩, ⟨some 119, .bx 0 3, .q, []⟩, ⟨some 120, .int .i64 a0.Time_, .q, []⟩, ⟨some 121, .agg [.px 3 0 (s3.length : Int) 0, .str a0.User_, .str a0.Device_, .int .i64 1, .int .i64 a0.Time_, .int .i64 a0.Time_, .bool false], .q, []⟩, ⟨some 122, .px 2 0 (s2.length : Int) 0, .q, []⟩, ⟨some 8, .px 2 0 (s2.length : Int) 0, .q, []⟩]) (fun b => cond (b 1) (cond (b 2) (cond (b 16) ([.box (k_impl_ysessions 1 4 2 c0 ({ o6 with now_ := a0.Time_ } : T_impl_ysessions)), .arr .raw 1 (o6.list_.map (c_px 2)), .fam ((s2 ++ [(⟨(s3.length : Int), a0.User_, a0.Device_, 1, a0.Time_, a0.Time_, false⟩ : T_impl_ysession)]).map (c_T_impl_ysession 3 false)), .afm 1 ((s3 ++ [some ([r5] : List ByteArray)]).map (c_ax (c_str))), .arr .clo 4 (o6.reply_.map (c_T_impl_SessReply false)), .box (c_T_impl_SessEvent false a0), .box [.int .i64 0, .str e0, .str e0, .int .i64 0], .dead]) ([.box (k_impl_ysessions 1 4 2 c0 ({ o6 with now_ := a0.Time_ } : T_impl_ysessions)), .arr .raw 1 (o6.list_.map (c_px 2)), .fam (s2.map (c_T_impl_ysession 3 false)), .afm 1 ((s3 ++ [some ([r5] : List ByteArray)]).map (c_ax (c_str))), .arr .clo 4 (o6.reply_.map (c_T_impl_SessReply false)), .box (c_T_impl_SessEvent false a0), .box [.int .i64 0, .str e0, .str e0, .int .i64 0], .dead])) ([.box (k_impl_ysessions 1 4 2 c0 ({ o6 with now_ := a0.Time_ } : T_impl_ysessions)), .arr .raw 1 (o6.list_.map (c_px 2)), .fam (s2.map (c_T_impl_ysession 3 false)), .afm 1 (s3.map (c_ax (c_str))), .arr .clo 4 (o6.reply_.map (c_T_impl_SessReply false)), .box (c_T_impl_SessEvent false a0), .box [.int .i64 0, .str e0, .str e0, .int .i64 0]])) ([.box (k_impl_ysessions 1 4 2 c0 ({ s0 with now_ := a0.Time_ } : T_impl_ysessions)), .arr .raw 1 (s0.list_.map (c_px 2)), .fam (s2.map (c_T_impl_ysession 3 false)), .afm 1 (s3.map (c_ax (c_str))), .arr .clo 4 (s0.reply_.map (c_T_impl_SessReply false)), .box (c_T_impl_SessEvent false a0), .box [.int .i64 0, .str e0, .str e0, .int .i64 0]])) rfl ?_ ?_ rfl rfl (FrL.get (.cons rfl (.cons rfl (.cons rfl (.cons rfl (.cons rfl (.cons rfl (.cons rfl (.cons rfl (.cons rfl (.cons rfl (.cons rfl (.cons rfl (.cons rfl (.cons rfl (.cons rfl (.cons rfl (.cons rfl (.cons rfl (.cons rfl (.cons rfl (.cons rfl (.cons rfl (.cons rfl (.cons rfl (.cons rfl (.cons rfl (.cons rfl (.cons rfl (.cons rfl (.cons rfl (.cons rfl (.cons rfl (.cons rfl (.cons rfl (.cons rfl (.cons rfl (.cons rfl (.cons rfl (.cons rfl (.cons rfl (.cons rfl (.cons rfl (.cons rfl (.cons rfl (.cons rfl (.cons rfl (.cons rfl (.cons rfl (.cons rfl (.cons rfl (.cons rfl (.cons rfl (.cons rfl (.cons rfl (.cons rfl (.cons rfl (.cons rfl (.cons rfl (.cons rfl (.cons rfl (.cons rfl (.cons rfl (.cons rfl (.cons rfl (.cons rfl (.cons rfl (.cons rfl (.cons rfl (.cons rfl (.cons rfl .nil))))))))))))))))))))))))))))))))))))))))))))))))))))))))))))))))))))))) ?_
    ·refine .cons _ _ _ _ _ ⟨rfl, [(0, .bx 0 0)], AllN.get rfl (.cons rfl .nil), fun b hd hn hk hc => ?_⟩ ?_
     ·exact ops_at (cdf (hn 1 rfl)) rfl (o_move rfl rfl) (cdf ((updb_ne rfl).trans (hn 1 rfl))) rfl
     refine .cons _ _ _ _ _ ⟨rfl, [(106, .bx 0 0)], AllN.get rfl (.cons rfl .nil), fun b hd hn hk hc => ?_⟩ ?_
     ·exact ops_at (cdf hk) rfl (Does.eqS (eqAtB (show (.box ((c_T_impl_SessConf c0 o6.c_) ++ [.int .i64 o6.now_, .int .i64 o6.ids_, .hd 1 o6.list_.length 0 o6.list_.length, .hd 4 (o6.reply_.map (c_T_impl_SessReply false)).length 0 (o6.reply_.map (c_T_impl_SessReply false)).length]) : AO) = .box ((c_T_impl_SessConf c0 o6.c_) ++ [.int .i64 a0.Time_, .int .i64 o6.ids_, .hd 1 o6.list_.length 0 o6.list_.length, .hd 4 (o6.reply_.map (c_T_impl_SessReply false)).length 0 (o6.reply_.map (c_T_impl_SessReply false)).length]) by simp only [eqX_s h9]) rfl) (o_callM [0, 1, 2, 3, 4] rfl en_42 rfl rfl (impl_ysessions_next_p c0 h7) rfl (by decide) (.cons _ _ _ _ rfl (.cons _ _ _ _ (ren_at rfl (ren_rawO fun _ => rfl)) (.cons _ _ _ _ (ren_at rfl (ren_famO fun _ => rfl)) (.cons _ _ _ _ rfl (.cons _ _ _ _ rfl .nil))))) rfl rfl (.cons _ _ _ _ rfl (.cons _ _ _ _ (ren_rawO fun _ => rfl) (.cons _ _ _ _ (ren_famO fun _ => rfl) (.cons _ _ _ _ rfl (.cons _ _ _ _ rfl .nil))))) rfl)) (((cdt updb_self).trans (cdf ((updb_ne rfl).trans (hn 2 rfl)))).trans rfl) rfl
     refine .cons _ _ _ _ _ ⟨rfl, [(107, .str r5)], AllN.get rfl (.cons rfl .nil), fun b hd hn hk hc => ?_⟩ ?_
     ·exact ops_at ((cdt (hd 1 rfl)).trans (cdf hk)) rfl (Does.newX (f := c_str) (L := s3) (xs := ([r5] : List ByteArray)) 3 (o_sliceHd (rows := ([r5] : List ByteArray).map (c_str)) .clo rfl rfl tyS_9 ⟨_, rfl, rfl⟩ (by decide) rfl rfl rfl rfl (by decide) (fun _ => rfl) (by decide) rfl (by decide)) rfl rfl rfl) ((((cdt ((updb_ne rfl).trans (hd 1 rfl))).trans (cdt updb_self)).trans (cdf ((updb_ne rfl).trans (hn 16 rfl)))).trans rfl) rfl
     refine .cons _ _ _ _ _ ⟨rfl, [(3, .bx 5 0)], AllN.get rfl (.cons rfl .nil), fun b hd hn hk hc => ?_⟩ ?_
     ·cases e1 : b 1
      ·cases e2 : b 2
       ·exact ops_at (cdf e1) rfl (o_fieldAddr rfl rfl rfl tyS_9 (by decide) rfl rfl ⟨_, rfl, Nat.le_of_ble_eq_true rfl⟩) (cdf ((updb_ne rfl).trans e1)) rfl
       ·exact absurd (hc 2 1 rfl rfl e2) (by rw [e1]; decide)
      ·cases e2 : b 2
       ·exact ops_at ((cdt e1).trans (cdf e2)) rfl (o_fieldAddr rfl rfl rfl tyS_9 (by decide) rfl rfl ⟨_, rfl, Nat.le_of_ble_eq_true rfl⟩) ((cdt ((updb_ne rfl).trans e1)).trans (cdf ((updb_ne rfl).trans e2))) rfl
       ·exact ops_at (((cdt e1).trans (cdt e2)).trans (cdf (hn 16 rfl))) rfl (o_fieldAddr rfl rfl rfl tyS_9 (by decide) rfl rfl ⟨_, rfl, Nat.le_of_ble_eq_true rfl⟩) (((cdt ((updb_ne rfl).trans e1)).trans (cdt ((updb_ne rfl).trans e2))).trans (cdf ((updb_ne rfl).trans (hn 16 rfl)))) rfl
     refine .cons _ _ _ _ _ ⟨rfl, [(109, .bx 5 2)], AllN.get rfl (.cons rfl .nil), fun b hd hn hk hc => ?_⟩ ?_
     ·cases e1 : b 1
      ·cases e2 : b 2
       ·exact ops_at (cdf e1) rfl (o_loadBx rfl tyS_9 rfl rfl (nb rfl) rfl) (cdf ((updb_ne rfl).trans e1)) rfl
       ·exact absurd (hc 2 1 rfl rfl e2) (by rw [e1]; decide)
      ·cases e2 : b 2
       ·exact ops_at ((cdt e1).trans (cdf e2)) rfl (o_loadBx rfl tyS_9 rfl rfl (nb rfl) rfl) ((cdt ((updb_ne rfl).trans e1)).trans (cdf ((updb_ne rfl).trans e2))) rfl
       ·exact ops_at (((cdt e1).trans (cdt e2)).trans (cdf (hn 16 rfl))) rfl (o_loadBx rfl tyS_9 rfl rfl (nb rfl) rfl) (((cdt ((updb_ne rfl).trans e1)).trans (cdt ((updb_ne rfl).trans e2))).trans (cdf ((updb_ne rfl).trans (hn 16 rfl)))) rfl
     refine .cons _ _ _ _ _ ⟨rfl, [(3, .bx 5 0)], AllN.get rfl (.cons rfl .nil), fun b hd hn hk hc => ?_⟩ ?_
     ·cases e1 : b 1
      ·cases e2 : b 2
       ·exact ops_at (cdf e1) rfl (o_fieldAddr rfl rfl rfl tyS_9 (by decide) rfl rfl ⟨_, rfl, Nat.le_of_ble_eq_true rfl⟩) (cdf ((updb_ne rfl).trans e1)) rfl
       ·exact absurd (hc 2 1 rfl rfl e2) (by rw [e1]; decide)
      ·cases e2 : b 2
       ·exact ops_at ((cdt e1).trans (cdf e2)) rfl (o_fieldAddr rfl rfl rfl tyS_9 (by decide) rfl rfl ⟨_, rfl, Nat.le_of_ble_eq_true rfl⟩) ((cdt ((updb_ne rfl).trans e1)).trans (cdf ((updb_ne rfl).trans e2))) rfl
       ·exact ops_at (((cdt e1).trans (cdt e2)).trans (cdf (hn 16 rfl))) rfl (o_fieldAddr rfl rfl rfl tyS_9 (by decide) rfl rfl ⟨_, rfl, Nat.le_of_ble_eq_true rfl⟩) (((cdt ((updb_ne rfl).trans e1)).trans (cdt ((updb_ne rfl).trans e2))).trans (cdf ((updb_ne rfl).trans (hn 16 rfl)))) rfl
     refine .cons _ _ _ _ _ ⟨rfl, [(111, .bx 5 3)], AllN.get rfl (.cons rfl .nil), fun b hd hn hk hc => ?_⟩ ?_
     ·cases e1 : b 1
      ·cases e2 : b 2
       ·exact ops_at (cdf e1) rfl (o_loadBx rfl tyS_9 rfl rfl (nb rfl) rfl) (cdf ((updb_ne rfl).trans e1)) rfl
       ·exact absurd (hc 2 1 rfl rfl e2) (by rw [e1]; decide)
      ·cases e2 : b 2
       ·exact ops_at ((cdt e1).trans (cdf e2)) rfl (o_loadBx rfl tyS_9 rfl rfl (nb rfl) rfl) ((cdt ((updb_ne rfl).trans e1)).trans (cdf ((updb_ne rfl).trans e2))) rfl
       ·exact ops_at (((cdt e1).trans (cdt e2)).trans (cdf (hn 16 rfl))) rfl (o_loadBx rfl tyS_9 rfl rfl (nb rfl) rfl) (((cdt ((updb_ne rfl).trans e1)).trans (cdt ((updb_ne rfl).trans e2))).trans (cdf ((updb_ne rfl).trans (hn 16 rfl)))) rfl
     refine .cons _ _ _ _ _ ⟨rfl, [(0, .bx 0 0)], AllN.get rfl (.cons rfl .nil), fun b hd hn hk hc => ?_⟩ ?_
     ·cases e1 : b 1
      ·cases e2 : b 2
       ·exact ops_at (cdf e1) rfl (o_move rfl rfl) (cdf ((updb_ne rfl).trans e1)) rfl
       ·exact absurd (hc 2 1 rfl rfl e2) (by rw [e1]; decide)
      ·cases e2 : b 2
       ·exact ops_at ((cdt e1).trans (cdf e2)) rfl (o_move rfl rfl) ((cdt ((updb_ne rfl).trans e1)).trans (cdf ((updb_ne rfl).trans e2))) rfl
       ·exact ops_at (((cdt e1).trans (cdt e2)).trans (cdf (hn 16 rfl))) rfl (o_move rfl rfl) (((cdt ((updb_ne rfl).trans e1)).trans (cdt ((updb_ne rfl).trans e2))).trans (cdf ((updb_ne rfl).trans (hn 16 rfl)))) rfl
     refine .cons _ _ _ _ _ ⟨rfl, [(113, .bx 0 0)], AllN.get rfl (.cons rfl .nil), fun b hd hn hk hc => ?_⟩ ?_
     ·cases e1 : b 1
      ·cases e2 : b 2
       ·exact ops_at (cdf e1) rfl (o_nilCheck rfl rfl rfl) (cdf ((updb_ne rfl).trans e1)) rfl
       ·exact absurd (hc 2 1 rfl rfl e2) (by rw [e1]; decide)
      ·cases e2 : b 2
       ·exact ops_at ((cdt e1).trans (cdf e2)) rfl (o_nilCheck rfl rfl rfl) ((cdt ((updb_ne rfl).trans e1)).trans (cdf ((updb_ne rfl).trans e2))) rfl
       ·exact ops_at (((cdt e1).trans (cdt e2)).trans (cdf (hn 16 rfl))) rfl (o_nilCheck rfl rfl rfl) (((cdt ((updb_ne rfl).trans e1)).trans (cdt ((updb_ne rfl).trans e2))).trans (cdf ((updb_ne rfl).trans (hn 16 rfl)))) rfl
     refine .cons _ _ _ _ _ ⟨rfl, [(114, .bx 0 0)], AllN.get rfl (.cons rfl .nil), fun b hd hn hk hc => ?_⟩ ?_
     ·cases e1 : b 1
      ·cases e2 : b 2
       ·exact ops_at (cdf e1) rfl (o_fieldAddr rfl rfl rfl tyS_3 (by decide) rfl rfl ⟨_, rfl, Nat.le_of_ble_eq_true rfl⟩) (cdf ((updb_ne rfl).trans e1)) rfl
       ·exact absurd (hc 2 1 rfl rfl e2) (by rw [e1]; decide)
      ·cases e2 : b 2
       ·exact ops_at ((cdt e1).trans (cdf e2)) rfl (o_fieldAddr rfl rfl rfl tyS_3 (by decide) rfl rfl ⟨_, rfl, Nat.le_of_ble_eq_true rfl⟩) ((cdt ((updb_ne rfl).trans e1)).trans (cdf ((updb_ne rfl).trans e2))) rfl
       ·exact ops_at (((cdt e1).trans (cdt e2)).trans (cdf (hn 16 rfl))) rfl (o_fieldAddr rfl rfl rfl tyS_3 (by decide) rfl rfl ⟨_, rfl, Nat.le_of_ble_eq_true rfl⟩) (((cdt ((updb_ne rfl).trans e1)).trans (cdt ((updb_ne rfl).trans e2))).trans (cdf ((updb_ne rfl).trans (hn 16 rfl)))) rfl
     refine .cons _ _ _ _ _ ⟨rfl, [(115, .bx 0 3)], AllN.get rfl (.cons rfl .nil), fun b hd hn hk hc => ?_⟩ ?_
     ·cases e1 : b 1
      ·cases e2 : b 2
       ·exact ops_at (cdf e1) rfl (o_loadBx rfl tyS_3 rfl rfl (nb rfl) rfl) (cdf ((updb_ne rfl).trans e1)) rfl
       ·exact absurd (hc 2 1 rfl rfl e2) (by rw [e1]; decide)
      ·cases e2 : b 2
       ·exact ops_at ((cdt e1).trans (cdf e2)) rfl (o_loadBx rfl tyS_3 rfl rfl (nb rfl) rfl) ((cdt ((updb_ne rfl).trans e1)).trans (cdf ((updb_ne rfl).trans e2))) rfl
       ·exact ops_at (((cdt e1).trans (cdt e2)).trans (cdf (hn 16 rfl))) rfl (o_loadBx rfl tyS_3 rfl rfl (nb rfl) rfl) (((cdt ((updb_ne rfl).trans e1)).trans (cdt ((updb_ne rfl).trans e2))).trans (cdf ((updb_ne rfl).trans (hn 16 rfl)))) rfl
     refine .cons _ _ _ _ _ ⟨rfl, [(0, .bx 0 0)], AllN.get rfl (.cons rfl .nil), fun b hd hn hk hc => ?_⟩ ?_
     ·cases e1 : b 1
      ·cases e2 : b 2
       ·exact ops_at (cdf e1) rfl (o_move rfl rfl) (cdf ((updb_ne rfl).trans e1)) rfl
       ·exact absurd (hc 2 1 rfl rfl e2) (by rw [e1]; decide)
      ·cases e2 : b 2
       ·exact ops_at ((cdt e1).trans (cdf e2)) rfl (o_move rfl rfl) ((cdt ((updb_ne rfl).trans e1)).trans (cdf ((updb_ne rfl).trans e2))) rfl
       ·exact ops_at (((cdt e1).trans (cdt e2)).trans (cdf (hn 16 rfl))) rfl (o_move rfl rfl) (((cdt ((updb_ne rfl).trans e1)).trans (cdt ((updb_ne rfl).trans e2))).trans (cdf ((updb_ne rfl).trans (hn 16 rfl)))) rfl
     refine .cons _ _ _ _ _ ⟨rfl, [(117, .bx 0 0)], AllN.get rfl (.cons rfl .nil), fun b hd hn hk hc => ?_⟩ ?_
     ·cases e1 : b 1
      ·cases e2 : b 2
       ·exact ops_at (cdf e1) rfl (o_nilCheck rfl rfl rfl) (cdf ((updb_ne rfl).trans e1)) rfl
       ·exact absurd (hc 2 1 rfl rfl e2) (by rw [e1]; decide)
      ·cases e2 : b 2
       ·exact ops_at ((cdt e1).trans (cdf e2)) rfl (o_nilCheck rfl rfl rfl) ((cdt ((updb_ne rfl).trans e1)).trans (cdf ((updb_ne rfl).trans e2))) rfl
       ·exact ops_at (((cdt e1).trans (cdt e2)).trans (cdf (hn 16 rfl))) rfl (o_nilCheck rfl rfl rfl) (((cdt ((updb_ne rfl).trans e1)).trans (cdt ((updb_ne rfl).trans e2))).trans (cdf ((updb_ne rfl).trans (hn 16 rfl)))) rfl
     refine .cons _ _ _ _ _ ⟨rfl, [(118, .bx 0 0)], AllN.get rfl (.cons rfl .nil), fun b hd hn hk hc => ?_⟩ ?_
     ·cases e1 : b 1
      ·cases e2 : b 2
       ·exact ops_at (cdf e1) rfl (o_fieldAddr rfl rfl rfl tyS_3 (by decide) rfl rfl ⟨_, rfl, Nat.le_of_ble_eq_true rfl⟩) (cdf ((updb_ne rfl).trans e1)) rfl
       ·exact absurd (hc 2 1 rfl rfl e2) (by rw [e1]; decide)
      ·cases e2 : b 2
       ·exact ops_at ((cdt e1).trans (cdf e2)) rfl (o_fieldAddr rfl rfl rfl tyS_3 (by decide) rfl rfl ⟨_, rfl, Nat.le_of_ble_eq_true rfl⟩) ((cdt ((updb_ne rfl).trans e1)).trans (cdf ((updb_ne rfl).trans e2))) rfl
       ·exact ops_at (((cdt e1).trans (cdt e2)).trans (cdf (hn 16 rfl))) rfl (o_fieldAddr rfl rfl rfl tyS_3 (by decide) rfl rfl ⟨_, rfl, Nat.le_of_ble_eq_true rfl⟩) (((cdt ((updb_ne rfl).trans e1)).trans (cdt ((updb_ne rfl).trans e2))).trans (cdf ((updb_ne rfl).trans (hn 16 rfl)))) rfl
     refine .cons _ _ _ _ _ ⟨rfl, [(119, .bx 0 3)], AllN.get rfl (.cons rfl .nil), fun b hd hn hk hc => ?_⟩ ?_
     ·cases e1 : b 1
      ·cases e2 : b 2
       ·exact ops_at (cdf e1) rfl (o_loadBx rfl tyS_3 rfl rfl (nb rfl) rfl) (cdf ((updb_ne rfl).trans e1)) rfl
       ·exact absurd (hc 2 1 rfl rfl e2) (by rw [e1]; decide)
      ·cases e2 : b 2
       ·exact ops_at ((cdt e1).trans (cdf e2)) rfl (o_loadBx rfl tyS_3 rfl rfl (nb rfl) rfl) ((cdt ((updb_ne rfl).trans e1)).trans (cdf ((updb_ne rfl).trans e2))) rfl
       ·exact ops_at (((cdt e1).trans (cdt e2)).trans (cdf (hn 16 rfl))) rfl (o_loadBx rfl tyS_3 rfl rfl (nb rfl) rfl) (((cdt ((updb_ne rfl).trans e1)).trans (cdt ((updb_ne rfl).trans e2))).trans (cdf ((updb_ne rfl).trans (hn 16 rfl)))) rfl
     refine .cons _ _ _ _ _ ⟨rfl, [(108, .px 3 0 (s3.length : Int) 0), (110, .str a0.User_), (112, .str a0.Device_), (116, .int .i64 a0.Time_), (120, .int .i64 a0.Time_)], AllN.get rfl (.cons rfl (.cons rfl (.cons rfl (.cons rfl (.cons rfl .nil))))), fun b hd hn hk hc => ?_⟩ ?_
     ·exact ops_at (((cdt (hd 1 rfl)).trans (cdt (hd 2 rfl))).trans (cdf (hn 16 rfl))) rfl (o_build rfl ⟨_, fun _ => rfl, rfl⟩ rfl rfl rfl) (((cdt ((updb_ne rfl).trans (hd 1 rfl))).trans (cdt ((updb_ne rfl).trans (hd 2 rfl)))).trans (cdf ((updb_ne rfl).trans (hn 16 rfl)))) rfl
     refine .cons _ _ _ _ _ ⟨rfl, [(121, .agg [.px 3 0 (s3.length : Int) 0, .str a0.User_, .str a0.Device_, .int .i64 1, .int .i64 a0.Time_, .int .i64 a0.Time_, .bool false])], AllN.get rfl (.cons rfl .nil), fun b hd hn hk hc => ?_⟩ ?_
     ·exact ops_at (((cdt (hd 1 rfl)).trans (cdt (hd 2 rfl))).trans (cdf hk)) rfl (o_boxP (p := 2) (f := c_T_impl_ysession 3 false) (xs := s2) (⟨(s3.length : Int), a0.User_, a0.Device_, 1, a0.Time_, a0.Time_, false⟩ : T_impl_ysession) rfl rfl rfl (.same _ _ _ (.same _ _ _ (.same _ _ _ (.same _ _ _ (.same _ _ _ (.same _ _ _ (.same _ _ _ .nil))))))) rfl) ((((cdt ((updb_ne rfl).trans (hd 1 rfl))).trans (cdt ((updb_ne rfl).trans (hd 2 rfl)))).trans (cdt updb_self)).trans rfl) rfl
     refine .cons _ _ _ _ _ ⟨rfl, [(122, .px 2 0 (s2.length : Int) 0)], AllN.get rfl (.cons rfl .nil), fun b hd hn hk hc => ?_⟩ ?_
     ·exact ops_at (((cdt (hd 1 rfl)).trans (cdt (hd 2 rfl))).trans (cdt (hd 16 rfl))) rfl (o_assign rfl rfl) (((cdt ((updb_ne rfl).trans (hd 1 rfl))).trans (cdt ((updb_ne rfl).trans (hd 2 rfl)))).trans (cdt ((updb_ne rfl).trans (hd 16 rfl)))) rfl
     exact .nil _
    ·intro b b' h; simp only [h 1 (by decide), h 2 (by decide), h 16 (by decide)]
    refine T.seq ?_
    refine T.conv (Cs.eqS (σ' := [.box (k_impl_ysessions 1 4 2 c0 ({ o6 with now_ := a0.Time_ } : T_impl_ysessions)), .arr .raw 1 (o6.list_.map (c_px 2)), .fam ((s2 ++ [(⟨(s3.length : Int), a0.User_, a0.Device_, 1, a0.Time_, a0.Time_, false⟩ : T_impl_ysession)]).map (c_T_impl_ysession 3 false)), .afm 1 ((s3 ++ [some ([r5] : List ByteArray)]).map (c_ax (c_str))), .arr .clo 4 (o6.reply_.map (c_T_impl_SessReply false)), _, _, .dead]) rfl) ?_
    refine au 7 ?_
    refine TL.st rfl rfl rfl (o_sliceHd .raw rfl rfl tyS_68 ⟨_, rfl, rfl⟩ (by decide) rfl rfl rfl rfl rfl (fun h => absurd rfl h) (by decide) rfl (by decide)) ?_
    obtain ⟨l10, h11, H⟩ := bind_s H
    refine TL.st rfl rfl rfl (o_apR rfl rfl tyE_68 rfl rfl rfl rfl h11) ?_
    refine au 2 ?_
    refine TL.sn rfl rfl (o_storeBx rfl tyS_65 rfl rfl rfl rfl (nb rfl) (sure_hd rfl (List.length_map ..) rfl)) ?_
    refine au 2 ?_
    refine T.conv (Cs.eqS (σ' := [.box (k_impl_ysessions 1 4 2 c0 ({ o6 with now_ := a0.Time_, list_ := l10 } : T_impl_ysessions)), .arr .raw 1 (l10.map (c_px 2)), _, _, _, _, _, _, .arr .raw 1 (([(s2.length : Int)] : List Int).map (c_px 2))]) rfl) ?_
    refine T.drawn rfl ?_
    refine TD.qs rfl rfl (fun _ => o_move rfl rfl) ?_
    obtain ⟨r12, h13, H⟩ := bind_s H
    refine TD.rs rfl rfl (o_callM [2, 3] rfl en_27 rfl rfl (impl_ysession_id_p  h13) rfl (by decide) (.cons _ _ _ _ (ren_at rfl (ren_famO fun _ => rfl)) (.cons _ _ _ _ rfl .nil)) rfl rfl (.cons _ _ _ _ (ren_famO fun _ => rfl) (.cons _ _ _ _ rfl .nil)) rfl) ?_
    refine TD.qs rfl rfl (fun _ => o_move rfl rfl) ?_
    obtain ⟨w14, h15, H⟩ := bind_s H
    refine TD.rs rfl rfl (o_nilCheckP rfl rfl rfl h15) ?_
    refine TD.rs rfl rfl (o_fieldAddrP (a := w14) rfl rfl rfl tyS_9 (by decide) rfl rfl h15) ?_
    refine TD.rs rfl rfl (o_loadP (a := w14) rfl tyS_9 rfl rfl h15 (nb rfl) rfl) ?_
    refine TD.qs rfl rfl (fun _ => o_move rfl rfl) ?_
    refine TD.rs rfl rfl (o_nilCheckP rfl rfl rfl h15) ?_
    refine TD.rs rfl rfl (o_fieldAddrP (a := w14) rfl rfl rfl tyS_3 (by decide) rfl rfl h15) ?_
    refine TD.rs rfl rfl (o_loadP (a := w14) rfl tyS_3 rfl rfl h15 (nb rfl) rfl) ?_
    refine TD.qs rfl rfl (fun _ => o_build rfl ⟨_, fun _ => rfl, rfl⟩ rfl rfl rfl) ?_
    refine TD.an rfl rfl (o_storeBx rfl tyS_57 rfl rfl rfl rfl (nb rfl) rfl) ?_
    refine TD.nil ⟨rfl, ?_⟩
    refine T.ret ?_
    refine inB_ret (thn_ret ?_)
    cases some_i H
    exact ⟨trivial, _, (.cell _ _ _ _ _ _ _ _ _ _ rfl rfl tyS_57 (nb rfl) rfl .nil), ⟨rfl, _, rfl⟩⟩
   ·refine au 5 ?_
    refine T.cH H (fun H h => ?_) (fun H h => ?_)
    ·refine au 7 ?_
     refine TL.st rfl rfl rfl (o_lenOwn (f := c_px 2) rfl rfl rfl rfl (List.length_map ..)) ?_
     refine au 3 ?_
     obtain ⟨f18, h31, H⟩ := bind_s H
     refine T.lq (fun s => match s with | (f16, v17) => [(3, .bx 5 0), (4, .bx 6 0), (149, .hd 1 s0.list_.length 0 s0.list_.length), (150, .int .i64 (s0.list_.length : Int)), (151, .int .i64 v17)]) (fun s => match s with | (f16, v17) => [.box (k_impl_ysessions 1 4 2 c0 ({ s0 with now_ := a0.Time_ } : T_impl_ysessions)), .arr .raw 1 (s0.list_.map (c_px 2)), .fam (f16.map (c_T_impl_ysession 3 false)), .afm 1 (s3.map (c_ax (c_str))), .arr .clo 4 (s0.reply_.map (c_T_impl_SessReply false)), .box (c_T_impl_SessEvent false a0), .box [.int .i64 0, .str e0, .str e0, .int .i64 0]]) (fun q ex fr σ => match q with | f18 => ex = .exit 1 ∧ fr = [(3, .bx 5 0), (4, .bx 6 0)] ∧ σ = [.box (k_impl_ysessions 1 4 2 c0 ({ s0 with now_ := a0.Time_ } : T_impl_ysessions)), .arr .raw 1 (s0.list_.map (c_px 2)), .fam (f18.map (c_T_impl_ysession 3 false)), .afm 1 (s3.map (c_ax (c_str))), .arr .clo 4 (s0.reply_.map (c_T_impl_SessReply false)), .box (c_T_impl_SessEvent false a0), .box [.int .i64 0, .str e0, .str e0, .int .i64 0]]) h31 ?_ ?_
     ·rintro ⟨f16, v17⟩ y19 H
      refine au 5 ?_
      refine T.cH H (fun H h => ?_) (fun H h => ?_)
      ·refine au 5 ?_
       obtain ⟨e20, h21, H⟩ := bind_s H
       refine TL.st rfl rfl rfl (o_ixh (f := c_px 2) rfl rfl tyS_68 rfl rfl rfl (List.length_map ..) h21 rfl) ?_
       refine TL.st rfl rfl rfl (o_loadEl rfl tyS_68 rfl rfl (List.length_map ..) (by rw [List.getElem?_map, (idx_s h21).2]; rfl) (nb rfl) rfl) ?_
       refine au 2 ?_
       refine T.drawn rfl ?_
       refine ad 2 ?_
       obtain ⟨w22, h23, H⟩ := bind_s H
       refine TD.rs rfl rfl (o_nilCheckP rfl rfl rfl h23) ?_
       refine TD.rs rfl rfl (o_fieldAddrP (a := w22) rfl rfl rfl tyS_4 (by decide) rfl rfl h23) ?_
       refine TD.rs rfl rfl (o_loadP (a := w22) rfl tyS_4 rfl rfl h23 (nb rfl) rfl) ?_
       refine ad 2 ?_
       obtain ⟨w24, h25, H⟩ := bind_s H
       refine TD.cr rfl rfl rfl (.bool _) rfl (fun h => o_nilCheckP rfl (gv h rfl) rfl (gdO_t h25 h)) ?_
       obtain ⟨w26, h27, H⟩ := bind_s H
       refine TD.cr rfl rfl rfl (.bool _) rfl (fun h => o_fieldAddrP (a := w26) rfl rfl rfl tyS_9 (by decide) (gv h rfl) rfl (gdO_t h27 h)) ?_
       obtain ⟨w28, h29, H⟩ := bind_s H
       refine TD.cr rfl rfl rfl (.bool _) rfl (fun h => o_loadP (a := w28) rfl tyS_9 (gv h rfl) rfl (gdO_t h29 h) (nb rfl) rfl) ?_
       refine ad 2 ?_
       refine TD.cq rfl rfl rfl (.bool _) rfl (fun h _ => o_str rfl (gv h rfl) (gv h rfl) rfl) ?_
       refine TD.qs rfl rfl (fun _ => o_or rfl rfl rfl rfl (fun k => Gd_t k)) ?_
       refine TD.rs rfl rfl (o_nilCheckP rfl rfl rfl h23) ?_
       refine TD.rs rfl rfl (o_fieldAddrP (a := w22) rfl rfl rfl tyS_4 (by decide) rfl rfl h23) ?_
       refine TD.an rfl rfl (o_storeP (a := w22) (a' := ({ w22 with dead_ := (w22.dead_ || (w28.user_.toList == a0.User_.toList)) } : T_impl_ysession)) rfl tyS_4 rfl rfl rfl h23 rfl (nb rfl) rfl rfl) ?_
       refine TD.nil ⟨rfl, ?_⟩
       refine au 4 ?_
       exact Pk.of (thn_normal ⟨((f16.set (Int.toNat e20) ({ w22 with dead_ := (w22.dead_ || (w28.user_.toList == a0.User_.toList)) } : T_impl_ysession)), (IntKind.i64.wrap (v17 + 1))), (some_i H).symm, rfl, rfl⟩)
      ·refine T.exit ?_
       refine thn_exit ?_
       exact Pk.of (thn_exit ⟨f16, (some_i H).symm, rfl, rfl, rfl⟩)
     ·rintro _ _ _ ⟨rfl, rfl, rfl⟩
      refine inB_here ?_
      refine au 8 ?_
      refine inB_ret (thn_ret ?_)
      cases some_i H
      exact ⟨trivial, _, (.cell _ _ _ _ _ _ _ _ _ _ rfl rfl tyS_57 (nb rfl) rfl .nil), ⟨rfl, _, rfl⟩⟩
    ·refine au 7 ?_
     refine TL.st rfl rfl rfl (o_makeFunc rfl rfl rfl) ?_
     obtain ⟨r32, h33, H⟩ := bind_s H
     refine TL.st rfl rfl rfl (o_callM [1, 2, 3, 5] rfl en_43 rfl rfl (impl_ysession__p  h33) rfl (by decide) (.cons _ _ _ _ (ren_at rfl (ren_rawO fun _ => rfl)) (.cons _ _ _ _ (ren_at rfl (ren_famO fun _ => rfl)) (.cons _ _ _ _ rfl (.cons _ _ _ _ rfl .nil)))) rfl rfl (.cons _ _ _ _ (ren_rawO fun _ => rfl) (.cons _ _ _ _ (ren_famO fun _ => rfl) (.cons _ _ _ _ rfl (.cons _ _ _ _ rfl .nil)))) rfl) ?_
     refine au 8 ?_
     refine T.cH H (fun H h => ?_) (fun H h => ?_)
     ·refine au 6 ?_
      refine thn_ret ?_
      cases some_i H
      exact ⟨trivial, _, (.cell _ _ _ _ _ _ _ _ _ _ rfl rfl tyS_57 (nb rfl) rfl .nil), ⟨rfl, _, rfl⟩⟩
     ·refine au 8 ?_
      obtain ⟨e34, h35, H⟩ := bind_s H
      refine TL.st rfl rfl rfl (o_ixh (f := c_px 2) rfl rfl tyS_68 rfl rfl rfl (List.length_map ..) h35 rfl) ?_
      refine TL.st rfl rfl rfl (o_loadEl rfl tyS_68 rfl rfl (List.length_map ..) (by rw [List.getElem?_map, (idx_s h35).2]; rfl) (nb rfl) rfl) ?_
      refine au 5 ?_
      refine T.drawn rfl ?_
      refine TD.qs rfl rfl (fun _ => o_move rfl rfl) ?_
      obtain ⟨r36, h37, H⟩ := bind_s H
      refine TD.rs rfl rfl (o_callM [2, 3] rfl en_27 rfl rfl (impl_ysession_id_p  h37) rfl (by decide) (.cons _ _ _ _ (ren_at rfl (ren_famO fun _ => rfl)) (.cons _ _ _ _ rfl .nil)) rfl rfl (.cons _ _ _ _ (ren_famO fun _ => rfl) (.cons _ _ _ _ rfl .nil)) rfl) ?_
      refine ad 2 ?_
      refine TD.qs rfl rfl (fun _ => o_str rfl rfl rfl rfl) ?_
      refine ad 2 ?_
      obtain ⟨w38, h39, H⟩ := bind_s H
      refine TD.cr rfl rfl rfl (.bool _) rfl (fun h => o_nilCheckP rfl (gv h rfl) rfl (gdO_t h39 h)) ?_
      obtain ⟨w40, h41, H⟩ := bind_s H
      refine TD.cr rfl rfl rfl (.bool _) rfl (fun h => o_fieldAddrP (a := w40) rfl rfl rfl tyS_9 (by decide) (gv h rfl) rfl (gdO_t h41 h)) ?_
      obtain ⟨w42, h43, H⟩ := bind_s H
      refine TD.cr rfl rfl rfl (.bool _) rfl (fun h => o_loadP (a := w42) rfl tyS_9 (gv h rfl) rfl (gdO_t h43 h) (nb rfl) rfl) ?_
      refine ad 2 ?_
      refine TD.cq rfl rfl rfl (.bool _) rfl (fun h _ => o_str rfl (gv h rfl) (gv h rfl) rfl) ?_
      refine ad 2 ?_
      refine TD.nil ⟨rfl, ?_⟩
      refine thn_normal ?_
      refine T.cH H (fun H h => ?_) (fun H h => ?_)
      ·refine au 3 ?_
       obtain ⟨w44, h45, H⟩ := bind_s H
       refine TL.st rfl rfl rfl (o_nilCheckP rfl rfl rfl h45) ?_
       refine TL.st rfl rfl rfl (o_fieldAddrP (a := w44) rfl rfl rfl tyS_4 (by decide) rfl rfl h45) ?_
       refine TL.sn rfl rfl (o_storeP (a := w44) (a' := ({ w44 with dead_ := true } : T_impl_ysession)) rfl tyS_4 rfl rfl rfl h45 rfl (nb rfl) rfl rfl) ?_
       refine au 6 ?_
       refine T.conv (Cs.eqS (σ' := [_, _, .fam ((s2.set (Int.toNat e34) ({ w44 with dead_ := true } : T_impl_ysession)).map (c_T_impl_ysession 3 false)), _, _, _, .box [.int .i64 4, .str e0, .str e0, .int .i64 0]]) rfl) ?_
       refine T.ret ?_
       refine inB_ret (thn_ret ?_)
       cases some_i H
       exact ⟨trivial, _, (.cell _ _ _ _ _ _ _ _ _ _ rfl rfl tyS_57 (nb rfl) rfl .nil), ⟨rfl, _, rfl⟩⟩
      ·refine au 3 ?_
       obtain ⟨w46, h47, H⟩ := bind_s H
       refine TL.st rfl rfl rfl (o_nilCheckP rfl rfl rfl h47) ?_
       refine TL.st rfl rfl rfl (o_fieldAddrP (a := w46) rfl rfl rfl tyS_4 (by decide) rfl rfl h47) ?_
       refine TL.st rfl rfl rfl (o_loadP (a := w46) rfl tyS_4 rfl rfl h47 (nb rfl) rfl) ?_
       refine au 2 ?_
       refine T.cH H (fun H h => ?_) (fun H h => ?_)
       ·refine au 6 ?_
        refine inB_ret (thn_ret ?_)
        cases some_i H
        exact ⟨trivial, _, (.cell _ _ _ _ _ _ _ _ _ _ rfl rfl tyS_57 (nb rfl) rfl .nil), ⟨rfl, _, rfl⟩⟩
       ·refine au 8 ?_
        obtain ⟨r48, h49, H⟩ := bind_s H
        refine TL.st rfl rfl rfl (o_callM [0, 1, 2, 3, 4] rfl en_26 rfl rfl (impl_ysessions_over_p c0 h49) rfl (by decide) (.cons _ _ _ _ rfl (.cons _ _ _ _ (ren_at rfl (ren_rawO fun _ => rfl)) (.cons _ _ _ _ (ren_at rfl (ren_famO fun _ => rfl)) (.cons _ _ _ _ rfl (.cons _ _ _ _ rfl .nil))))) rfl rfl (.cons _ _ _ _ rfl (.cons _ _ _ _ (ren_rawO fun _ => rfl) (.cons _ _ _ _ (ren_famO fun _ => rfl) (.cons _ _ _ _ rfl (.cons _ _ _ _ rfl .nil))))) rfl) ?_
        refine au 2 ?_
        refine T.cH H (fun H h => ?_) (fun H h => ?_)
        ·refine au 5 ?_
         refine T.conv (Cs.eqS (σ' := [_, _, _, _, _, _, .box [.int .i64 6, .str e0, .str e0, .int .i64 0]]) rfl) ?_
         refine T.ret ?_
         refine inB_ret (thn_ret ?_)
         cases some_i H
         exact ⟨trivial, _, (.cell _ _ _ _ _ _ _ _ _ _ rfl rfl tyS_57 (nb rfl) rfl .nil), ⟨rfl, _, rfl⟩⟩
        ·refine au 8 ?_
         refine TL.st rfl rfl rfl (o_nilCheckP rfl rfl rfl h47) ?_
         refine TL.st rfl rfl rfl (o_fieldAddrP (a := w46) rfl rfl rfl tyS_3 (by decide) rfl rfl h47) ?_
         refine TL.sn rfl rfl (o_storeP (a := w46) (a' := ({ w46 with last_ := a0.Time_ } : T_impl_ysession)) rfl tyS_3 rfl rfl rfl h47 rfl (nb rfl) rfl rfl) ?_
         refine TL.nil ?_
         refine T.cut (fun fr' σ' => ∃ (b50 : T_impl_ysessions) (f51 : List T_impl_ysession) (f52 : List (Option (List ByteArray))), fr' = [(4, .bx 6 0), (12, .px 2 0 e34 0)] ∧ σ' = [.box (k_impl_ysessions 1 4 2 c0 b50), .arr .raw 1 (b50.list_.map (c_px 2)), .fam (f51.map (c_T_impl_ysession 3 false)), .afm 1 (f52.map (c_ax (c_str))), .arr .clo 4 (b50.reply_.map (c_T_impl_SessReply false)), .box (c_T_impl_SessEvent false a0), .box [.int .i64 0, .str e0, .str e0, .int .i64 0]] ∧ impl_ysessions_do_j1 e34 b50 f51 f52 = some (R0, U0, U2, U3)) (T.pk ?_) ?_
         ·skip
          refine T.seq ?_
          refine T.conv (Cs.eqS (σ' := [_, _, .fam ((s2.set (Int.toNat e34) ({ w46 with last_ := a0.Time_ } : T_impl_ysession)).map (c_T_impl_ysession 3 false)), _, _, _, _]) rfl) ?_
          refine au 10 ?_
          refine T.cH H (fun H h => ?_) (fun H h => ?_)
          ·refine au 4 ?_
           obtain ⟨w57, h58, H⟩ := bind_s H
           refine TL.st rfl rfl rfl (o_nilCheckP rfl rfl rfl h58) ?_
           refine TL.st rfl rfl rfl (o_fieldAddrP (a := w57) rfl rfl rfl tyS_3 (by decide) rfl rfl h58) ?_
           refine TL.st rfl rfl rfl (o_loadP (a := w57) rfl tyS_3 rfl rfl h58 (nb rfl) rfl) ?_
           refine TL.st rfl rfl rfl (o_ari rfl rfl rfl rfl) ?_
           refine TL.st rfl rfl rfl (o_min2 rfl rfl rfl) ?_
           refine TL.st rfl rfl rfl (o_nilCheckP rfl rfl rfl h58) ?_
           refine TL.st rfl rfl rfl (o_fieldAddrP (a := w57) rfl rfl rfl tyS_3 (by decide) rfl rfl h58) ?_
           refine TL.sn rfl rfl (o_storeP (a := w57) (a' := ({ w57 with level_ := (if (IntKind.i64.wrap (w57.level_ + 1)) < 9 then (IntKind.i64.wrap (w57.level_ + 1)) else 9) } : T_impl_ysession)) rfl tyS_3 rfl rfl rfl h58 rfl (nb rfl) rfl rfl) ?_
           refine TL.nil ?_
           refine thn_normal ?_
           obtain ⟨w59, h60, H⟩ := bind_s H
           obtain ⟨⟨r61, o62⟩, h63, H⟩ := bind_s H
           obtain ⟨x64, h65, H⟩ := bind_s H
           obtain ⟨l66, h67, H⟩ := bind_s H
           refine T.drawS (fr' := [(0, .bx 0 0), (1, .agg (c_T_impl_SessEvent false a0)), (3, .bx 5 0), (4, .bx 6 0), (5, .bool ((a0.Kind_ == 1) || (a0.Kind_ == 5))), (6, .bool (a0.Kind_ != 5)), (7, .bool ((((((((decide (a0.Kind_ < 1) || decide (a0.Kind_ > 5)) || decide (a0.Time_ < 0)) || decide (a0.Time_ > 100000000000)) || (((a0.Kind_ == 1) || (a0.Kind_ == 5)) && (!r1))) || ((!((a0.Kind_ == 1) || (a0.Kind_ == 5))) && (!(a0.User_.toList == e0.toList)))) || ((a0.Kind_ != 5) && (!r3))) || ((!(a0.Kind_ != 5)) && (!(a0.Device_.toList == e0.toList)))) || (((a0.Kind_ == 1) || (a0.Kind_ == 5)) && (!(a0.Id_.toList == e0.toList))))), (11, .int .i64 r32), (12, .px 2 0 e34 0), (13, .bx 5 0), (14, .int .i64 a0.Kind_), (15, .bool (a0.Kind_ == 1)), (16, .bool (a0.Kind_ == 1)), (20, .bool ((a0.Kind_ == 1) || (a0.Kind_ == 5))), (21, .bx 5 0), (22, .int .i64 a0.Kind_), (23, .bool (a0.Kind_ != 5)), (24, .bx 5 0), (25, .int .i64 a0.Kind_), (26, .bool (decide (a0.Kind_ < 1))), (27, .bool (decide (a0.Kind_ < 1))), (31, .bool (decide (a0.Kind_ < 1) || decide (a0.Kind_ > 5))), (32, .bool (decide (a0.Kind_ < 1) || decide (a0.Kind_ > 5))), (36, .bool ((decide (a0.Kind_ < 1) || decide (a0.Kind_ > 5)) || decide (a0.Time_ < 0))), (37, .bool ((decide (a0.Kind_ < 1) || decide (a0.Kind_ > 5)) || decide (a0.Time_ < 0))), (41, .bool (((decide (a0.Kind_ < 1) || decide (a0.Kind_ > 5)) || decide (a0.Time_ < 0)) || decide (a0.Time_ > 100000000000))), (42, .bool (((decide (a0.Kind_ < 1) || decide (a0.Kind_ > 5)) || decide (a0.Time_ < 0)) || decide (a0.Time_ > 100000000000))), (43, .bool (((decide (a0.Kind_ < 1) || decide (a0.Kind_ > 5)) || decide (a0.Time_ < 0)) || decide (a0.Time_ > 100000000000))), (51, .bool ((((decide (a0.Kind_ < 1) || decide (a0.Kind_ > 5)) || decide (a0.Time_ < 0)) || decide (a0.Time_ > 100000000000)) || (((a0.Kind_ == 1) || (a0.Kind_ == 5)) && (!r1)))), (52, .bool ((((decide (a0.Kind_ < 1) || decide (a0.Kind_ > 5)) || decide (a0.Time_ < 0)) || decide (a0.Time_ > 100000000000)) || (((a0.Kind_ == 1) || (a0.Kind_ == 5)) && (!r1)))), (60, .bool (((((decide (a0.Kind_ < 1) || decide (a0.Kind_ > 5)) || decide (a0.Time_ < 0)) || decide (a0.Time_ > 100000000000)) || (((a0.Kind_ == 1) || (a0.Kind_ == 5)) && (!r1))) || ((!((a0.Kind_ == 1) || (a0.Kind_ == 5))) && (!(a0.User_.toList == e0.toList))))), (61, .bool (((((decide (a0.Kind_ < 1) || decide (a0.Kind_ > 5)) || decide (a0.Time_ < 0)) || decide (a0.Time_ > 100000000000)) || (((a0.Kind_ == 1) || (a0.Kind_ == 5)) && (!r1))) || ((!((a0.Kind_ == 1) || (a0.Kind_ == 5))) && (!(a0.User_.toList == e0.toList))))), (69, .bool ((((((decide (a0.Kind_ < 1) || decide (a0.Kind_ > 5)) || decide (a0.Time_ < 0)) || decide (a0.Time_ > 100000000000)) || (((a0.Kind_ == 1) || (a0.Kind_ == 5)) && (!r1))) || ((!((a0.Kind_ == 1) || (a0.Kind_ == 5))) && (!(a0.User_.toList == e0.toList)))) || ((a0.Kind_ != 5) && (!r3)))), (70, .bool ((((((decide (a0.Kind_ < 1) || decide (a0.Kind_ > 5)) || decide (a0.Time_ < 0)) || decide (a0.Time_ > 100000000000)) || (((a0.Kind_ == 1) || (a0.Kind_ == 5)) && (!r1))) || ((!((a0.Kind_ == 1) || (a0.Kind_ == 5))) && (!(a0.User_.toList == e0.toList)))) || ((a0.Kind_ != 5) && (!r3)))), (78, .bool (((((((decide (a0.Kind_ < 1) || decide (a0.Kind_ > 5)) || decide (a0.Time_ < 0)) || decide (a0.Time_ > 100000000000)) || (((a0.Kind_ == 1) || (a0.Kind_ == 5)) && (!r1))) || ((!((a0.Kind_ == 1) || (a0.Kind_ == 5))) && (!(a0.User_.toList == e0.toList)))) || ((a0.Kind_ != 5) && (!r3))) || ((!(a0.Kind_ != 5)) && (!(a0.Device_.toList == e0.toList))))), (79, .bool (((((((decide (a0.Kind_ < 1) || decide (a0.Kind_ > 5)) || decide (a0.Time_ < 0)) || decide (a0.Time_ > 100000000000)) || (((a0.Kind_ == 1) || (a0.Kind_ == 5)) && (!r1))) || ((!((a0.Kind_ == 1) || (a0.Kind_ == 5))) && (!(a0.User_.toList == e0.toList)))) || ((a0.Kind_ != 5) && (!r3))) || ((!(a0.Kind_ != 5)) && (!(a0.Device_.toList == e0.toList))))), (86, .bool ((((((((decide (a0.Kind_ < 1) || decide (a0.Kind_ > 5)) || decide (a0.Time_ < 0)) || decide (a0.Time_ > 100000000000)) || (((a0.Kind_ == 1) || (a0.Kind_ == 5)) && (!r1))) || ((!((a0.Kind_ == 1) || (a0.Kind_ == 5))) && (!(a0.User_.toList == e0.toList)))) || ((a0.Kind_ != 5) && (!r3))) || ((!(a0.Kind_ != 5)) && (!(a0.Device_.toList == e0.toList)))) || (((a0.Kind_ == 1) || (a0.Kind_ == 5)) && (!(a0.Id_.toList == e0.toList))))), (87, .bool ((((((((decide (a0.Kind_ < 1) || decide (a0.Kind_ > 5)) || decide (a0.Time_ < 0)) || decide (a0.Time_ > 100000000000)) || (((a0.Kind_ == 1) || (a0.Kind_ == 5)) && (!r1))) || ((!((a0.Kind_ == 1) || (a0.Kind_ == 5))) && (!(a0.User_.toList == e0.toList)))) || ((a0.Kind_ != 5) && (!r3))) || ((!(a0.Kind_ != 5)) && (!(a0.Device_.toList == e0.toList)))) || (((a0.Kind_ == 1) || (a0.Kind_ == 5)) && (!(a0.Id_.toList == e0.toList))))), (89, .bx 5 1), (90, .int .i64 a0.Time_), (91, .bx 0 0), (92, .bx 0 0), (93, .bx 0 3), (94, .int .i64 s0.now_), (95, .bool (decide (a0.Time_ < s0.now_))), (97, .bx 0 0), (98, .bx 5 1), (99, .int .i64 a0.Time_), (100, .bx 0 0), (101, .bx 0 3), (102, .bx 5 0), (103, .int .i64 a0.Kind_), (104, .bool (a0.Kind_ == 1)), (105, .bool (a0.Kind_ == 1)), (144, .bool (a0.Kind_ == 5)), (145, .bool (a0.Kind_ == 5)), (175, .bx 0 0), (176, .bx 0 0), (177, .bx 0 5), (179, .fn 44 [] [.bx 5 0]), (180, .int .i64 r32), (181, .int .i64 r32), (182, .bool (decide (r32 < 0))), (184, .bx 0 0), (185, .bx 0 0), (186, .bx 0 5), (188, .int .i64 r32), (190, .px 2 0 e34 0), (191, .bool ((!(r36.toList == a0.Id_.toList)) || (!(w42.device_.toList == a0.Device_.toList)))), (192, .px 2 0 e34 0), (193, .str r36), (194, .bx 5 4), (195, .str a0.Id_), (196, .bool (!(r36.toList == a0.Id_.toList))), (197, .bool (!(r36.toList == a0.Id_.toList))), (205, .bool ((!(r36.toList == a0.Id_.toList)) || (!(w42.device_.toList == a0.Device_.toList)))), (210, .bool w46.dead_), (211, .px 2 0 e34 0), (212, .px 2 0 e34 0), (213, .px 2 0 e34 6), (214, .bool w46.dead_), (216, .bool r48), (217, .bx 0 0), (218, .px 2 0 e34 0), (219, .bx 0 0), (220, .bx 0 0), (221, .bx 0 3), (222, .int .i64 a0.Time_), (223, .bool r48), (225, .px 2 0 e34 0), (226, .bx 0 0), (227, .bx 0 0), (228, .bx 0 3), (229, .int .i64 a0.Time_), (230, .px 2 0 e34 0), (231, .px 2 0 e34 5), (232, .bx 5 0), (233, .int .i64 a0.Kind_), (234, .bool (a0.Kind_ == 3)), (235, .bool (a0.Kind_ == 3)), (236, .px 2 0 e34 0), (237, .px 2 0 e34 0), (238, .px 2 0 e34 0), (239, .px 2 0 e34 3), (240, .int .i64 w57.level_), (241, .int .i64 (IntKind.i64.wrap (w57.level_ + 1))), (242, .int .i64 (if (IntKind.i64.wrap (w57.level_ + 1)) < 9 then (IntKind.i64.wrap (w57.level_ + 1)) else 9)), (243, .px 2 0 e34 0), (244, .px 2 0 e34 3), (245, .px 2 0 e34 0), (246, .px 2 0 e34 0), (247, .px 2 0 e34 0), (248, .px 2 0 e34 0), (249, .px 3 0 w59.ids_ 0), (250, .bx 0 0), (251, .str r61), (252, .im false (([r61] : List ByteArray).map (c_str))), (253, .px 3 0 ((s3.set (Int.toNat w59.ids_) none).length : Int) 0), (254, .px 2 0 e34 0), (255, .px 2 0 e34 0)]) (R := [⟨some 245, .px 2 0 e34 0, .q, []⟩, ⟨some 246, .px 2 0 e34 0, .q, []⟩, ⟨some 247, .px 2 0 e34 0, .q, []⟩, ⟨some 248, .px 2 0 e34 0, .q, []⟩, ⟨some 249, .px 3 0 w59.ids_ 0, .q, []⟩, ⟨some 250, .bx 0 0, .q, []⟩, ⟨some 251, .str r61, .q, []⟩, ⟨some 252, .im false (([r61] : List ByteArray).map (c_str)), .q, []⟩, ⟨some 253, .px 3 0 ((s3.set (Int.toNat w59.ids_) none).length : Int) 0, .q, []⟩, ⟨some 254, .px 2 0 e34 0, .q, []⟩, ⟨some 255, .px 2 0 e34 0, .q, []⟩, ⟨none, .any, .q, []⟩]) (fun b => cond (b 6) (cond (b 8) (cond (b 11) ([.box (k_impl_ysessions 1 4 2 c0 o62), .arr .raw 1 (o62.list_.map (c_px 2)), .fam ((((s2.set (Int.toNat e34) ({ w46 with last_ := a0.Time_ } : T_impl_ysession)).set (Int.toNat e34) ({ w57 with level_ := (if (IntKind.i64.wrap (w57.level_ + 1)) < 9 then (IntKind.i64.wrap (w57.level_ + 1)) else 9) } : T_impl_ysession)).set (Int.toNat e34) ({ w59 with ids_ := ((s3.set (Int.toNat w59.ids_) none).length : Int) } : T_impl_ysession)).map (c_T_impl_ysession 3 false)), .afm 1 (((s3.set (Int.toNat w59.ids_) none) ++ [some l66]).map (c_ax (c_str))), .arr .clo 4 (o62.reply_.map (c_T_impl_SessReply false)), .box (c_T_impl_SessEvent false a0), .box [.int .i64 0, .str e0, .str e0, .int .i64 0], .dead]) ([.box (k_impl_ysessions 1 4 2 c0 o62), .arr .raw 1 (o62.list_.map (c_px 2)), .fam (((s2.set (Int.toNat e34) ({ w46 with last_ := a0.Time_ } : T_impl_ysession)).set (Int.toNat e34) ({ w57 with level_ := (if (IntKind.i64.wrap (w57.level_ + 1)) < 9 then (IntKind.i64.wrap (w57.level_ + 1)) else 9) } : T_impl_ysession)).map (c_T_impl_ysession 3 false)), .afm 1 (((s3.set (Int.toNat w59.ids_) none) ++ [some l66]).map (c_ax (c_str))), .arr .clo 4 (o62.reply_.map (c_T_impl_SessReply false)), .box (c_T_impl_SessEvent false a0), .box [.int .i64 0, .str e0, .str e0, .int .i64 0], .dead])) ([.box (k_impl_ysessions 1 4 2 c0 o62), .arr .raw 1 (o62.list_.map (c_px 2)), .fam (((s2.set (Int.toNat e34) ({ w46 with last_ := a0.Time_ } : T_impl_ysession)).set (Int.toNat e34) ({ w57 with level_ := (if (IntKind.i64.wrap (w57.level_ + 1)) < 9 then (IntKind.i64.wrap (w57.level_ + 1)) else 9) } : T_impl_ysession)).map (c_T_impl_ysession 3 false)), .afm 1 (s3.map (c_ax (c_str))), .arr .clo 4 (o62.reply_.map (c_T_impl_SessReply false)), .box (c_T_impl_SessEvent false a0), .box [.int .i64 0, .str e0, .str e0, .int .i64 0]])) ([.box (k_impl_ysessions 1 4 2 c0 ({ s0 with now_ := a0.Time_ } : T_impl_ysessions)), .arr .raw 1 (s0.list_.map (c_px 2)), .fam (((s2.set (Int.toNat e34) ({ w46 with last_ := a0.Time_ } : T_impl_ysession)).set (Int.toNat e34) ({ w57 with level_ := (if (IntKind.i64.wrap (w57.level_ + 1)) < 9 then (IntKind.i64.wrap (w57.level_ + 1)) else 9) } : T_impl_ysession)).map (c_T_impl_ysession 3 false)), .afm 1 (s3.map (c_ax (c_str))), .arr .clo 4 (s0.reply_.map (c_T_impl_SessReply false)), .box (c_T_impl_SessEvent false a0), .box [.int .i64 0, .str e0, .str e0, .int .i64 0]])) rfl ?_ ?_ rfl rfl (FrL.get (.cons rfl (.cons rfl (.cons rfl (.cons rfl (.cons rfl (.cons rfl (.cons rfl (.cons rfl (.cons rfl (.cons rfl (.cons rfl (.cons rfl (.cons rfl (.cons rfl (.cons rfl (.cons rfl (.cons rfl (.cons rfl (.cons rfl (.cons rfl (.cons rfl (.cons rfl (.cons rfl (.cons rfl (.cons rfl (.cons rfl (.cons rfl (.cons rfl (.cons rfl (.cons rfl (.cons rfl (.cons rfl (.cons rfl (.cons rfl (.cons rfl (.cons rfl (.cons rfl (.cons rfl (.cons rfl (.cons rfl (.cons rfl (.cons rfl (.cons rfl (.cons rfl (.cons rfl (.cons rfl (.cons rfl (.cons rfl (.cons rfl (.cons rfl (.cons rfl (.cons rfl (.cons rfl (.cons rfl (.cons rfl (.cons rfl (.cons rfl (.cons rfl (.cons rfl (.cons rfl (.cons rfl (.cons rfl (.cons rfl (.cons rfl (.cons rfl (.cons rfl (.cons rfl (.cons rfl (.cons rfl (.cons rfl (.cons rfl (.cons rfl (.cons rfl (.cons rfl (.cons rfl (.cons rfl (.cons rfl (.cons rfl (.cons rfl (.cons rfl (.cons rfl (.cons rfl (.cons rfl (.cons rfl (.cons rfl (.cons rfl (.cons rfl (.cons rfl (.cons rfl (.cons rfl (.cons rfl (.cons rfl (.cons rfl (.cons rfl (.cons rfl (.cons rfl (.cons rfl (.cons rfl (.cons rfl (.cons rfl (.cons rfl (.cons rfl (.cons rfl (.cons rfl (.cons rfl (.cons rfl (.cons rfl (.cons rfl (.cons rfl (.cons rfl (.cons rfl (.cons rfl (.cons rfl (.cons rfl (.cons rfl (.cons rfl (.cons rfl (.cons rfl (.cons rfl (.cons rfl .nil))))))))))))))))))))))))))))))))))))))))))))))))))))))))))))))))))))))))))))))))))))))))))))))))))))))))))))))))))))))))) ?_
           ·refine .cons _ _ _ _ _ ⟨rfl, [(12, .px 2 0 e34 0)], AllN.get rfl (.cons rfl .nil), fun b hd hn hk hc => ?_⟩ ?_
            ·cases e6 : b 6
             ·cases e8 : b 8
              ·exact ops_at (cdf e6) rfl (o_move rfl rfl) (cdf ((updb_ne rfl).trans e6)) rfl
              ·exact absurd (hc 8 6 rfl rfl e8) (by rw [e6]; decide)
             ·cases e8 : b 8
              ·exact ops_at ((cdt e6).trans (cdf e8)) rfl (o_move rfl rfl) ((cdt ((updb_ne rfl).trans e6)).trans (cdf ((updb_ne rfl).trans e8))) rfl
              ·exact ops_at (((cdt e6).trans (cdt e8)).trans (cdf (hn 11 rfl))) rfl (o_move rfl rfl) (((cdt ((updb_ne rfl).trans e6)).trans (cdt ((updb_ne rfl).trans e8))).trans (cdf ((updb_ne rfl).trans (hn 11 rfl)))) rfl
            refine .cons _ _ _ _ _ ⟨rfl, [(12, .px 2 0 e34 0)], AllN.get rfl (.cons rfl .nil), fun b hd hn hk hc => ?_⟩ ?_
            ·cases e6 : b 6
             ·exact ops_at (cdf e6) rfl (o_move rfl rfl) (cdf ((updb_ne rfl).trans e6)) rfl
             ·exact ops_at ((cdt e6).trans (cdf (hn 8 rfl))) rfl (o_move rfl rfl) ((cdt ((updb_ne rfl).trans e6)).trans (cdf ((updb_ne rfl).trans (hn 8 rfl)))) rfl
            refine .cons _ _ _ _ _ ⟨rfl, [(246, .px 2 0 e34 0)], AllN.get rfl (.cons rfl .nil), fun b hd hn hk hc => ?_⟩ ?_
            ·cases e6 : b 6
             ·exact ops_at (cdf e6) rfl (o_nilCheckP rfl rfl rfl h60) (cdf ((updb_ne rfl).trans e6)) rfl
             ·exact ops_at ((cdt e6).trans (cdf (hn 8 rfl))) rfl (o_nilCheckP rfl rfl rfl h60) ((cdt ((updb_ne rfl).trans e6)).trans (cdf ((updb_ne rfl).trans (hn 8 rfl)))) rfl
            refine .cons _ _ _ _ _ ⟨rfl, [(247, .px 2 0 e34 0)], AllN.get rfl (.cons rfl .nil), fun b hd hn hk hc => ?_⟩ ?_
            ·cases e6 : b 6
             ·exact ops_at (cdf e6) rfl (o_fieldAddrP (a := w59) rfl rfl rfl tyS_52 (by decide) rfl rfl h60) (cdf ((updb_ne rfl).trans e6)) rfl
             ·exact ops_at ((cdt e6).trans (cdf (hn 8 rfl))) rfl (o_fieldAddrP (a := w59) rfl rfl rfl tyS_52 (by decide) rfl rfl h60) ((cdt ((updb_ne rfl).trans e6)).trans (cdf ((updb_ne rfl).trans (hn 8 rfl)))) rfl
            refine .cons _ _ _ _ _ ⟨rfl, [(248, .px 2 0 e34 0)], AllN.get rfl (.cons rfl .nil), fun b hd hn hk hc => ?_⟩ ?_
            ·cases e6 : b 6
             ·exact ops_at (cdf e6) rfl (o_loadP (a := w59) rfl tyS_52 rfl rfl h60 (nb rfl) rfl) (cdf ((updb_ne rfl).trans e6)) rfl
             ·exact ops_at ((cdt e6).trans (cdf (hn 8 rfl))) rfl (o_loadP (a := w59) rfl tyS_52 rfl rfl h60 (nb rfl) rfl) ((cdt ((updb_ne rfl).trans e6)).trans (cdf ((updb_ne rfl).trans (hn 8 rfl)))) rfl
            refine .cons _ _ _ _ _ ⟨rfl, [(0, .bx 0 0)], AllN.get rfl (.cons rfl .nil), fun b hd hn hk hc => ?_⟩ ?_
            ·exact ops_at (cdf (hn 6 rfl)) rfl (o_move rfl rfl) (cdf ((updb_ne rfl).trans (hn 6 rfl))) rfl
            refine .cons _ _ _ _ _ ⟨rfl, [(250, .bx 0 0)], AllN.get rfl (.cons rfl .nil), fun b hd hn hk hc => ?_⟩ ?_
            ·exact ops_at (cdf hk) rfl (o_callM [0, 1, 2, 3, 4] rfl en_42 rfl rfl (impl_ysessions_next_p c0 h63) rfl (by decide) (.cons _ _ _ _ rfl (.cons _ _ _ _ (ren_at rfl (ren_rawO fun _ => rfl)) (.cons _ _ _ _ (ren_at rfl (ren_famO fun _ => rfl)) (.cons _ _ _ _ rfl (.cons _ _ _ _ rfl .nil))))) rfl rfl (.cons _ _ _ _ rfl (.cons _ _ _ _ (ren_rawO fun _ => rfl) (.cons _ _ _ _ (ren_famO fun _ => rfl) (.cons _ _ _ _ rfl (.cons _ _ _ _ rfl .nil))))) rfl) (((cdt updb_self).trans (cdf ((updb_ne rfl).trans (hn 8 rfl)))).trans rfl) rfl
            refine .cons _ _ _ _ _ ⟨rfl, [(251, .str r61)], AllN.get rfl (.cons rfl .nil), fun b hd hn hk hc => ?_⟩ ?_
            ·exact ops_at ((cdt (hd 6 rfl)).trans (cdf (hn 8 rfl))) rfl (o_sliceIm (rows := ([r61] : List ByteArray).map (c_str)) rfl rfl tyS_9 ⟨_, rfl, rfl⟩ (by decide) rfl rfl rfl rfl rfl rfl) ((cdt ((updb_ne rfl).trans (hd 6 rfl))).trans (cdf ((updb_ne rfl).trans (hn 8 rfl)))) rfl
            refine .cons _ _ _ _ _ ⟨rfl, [(249, .px 3 0 w59.ids_ 0), (252, .im false (([r61] : List ByteArray).map (c_str)))], AllN.get rfl (.cons rfl (.cons rfl .nil)), fun b hd hn hk hc => ?_⟩ ?_
            ·exact ops_at ((cdt (hd 6 rfl)).trans (cdf hk)) rfl (Does.newX (f := c_str) (L := (s3.set (Int.toNat w59.ids_) none)) (xs := l66) 3 (Does.outX (t := 249) (f := c_str) (L := s3) (xs := x64) h65 rfl (by simp [Op.operands, Call.operands]) rfl (o_ap (f := c_str) (xs := x64) (ys := ([r61] : List ByteArray)) rfl rfl tyE_9 rfl rfl rfl rfl (by decide) rfl (fun _ => rfl) h67)) rfl rfl rfl) ((((cdt ((updb_ne rfl).trans (hd 6 rfl))).trans (cdt updb_self)).trans (cdf ((updb_ne rfl).trans (hn 11 rfl)))).trans rfl) rfl
            refine .cons _ _ _ _ _ ⟨rfl, [(245, .px 2 0 e34 0)], AllN.get rfl (.cons rfl .nil), fun b hd hn hk hc => ?_⟩ ?_
            ·exact ops_at (((cdt (hd 6 rfl)).trans (cdt (hd 8 rfl))).trans (cdf (hn 11 rfl))) rfl (o_nilCheckP rfl rfl rfl h60) (((cdt ((updb_ne rfl).trans (hd 6 rfl))).trans (cdt ((updb_ne rfl).trans (hd 8 rfl)))).trans (cdf ((updb_ne rfl).trans (hn 11 rfl)))) rfl
            refine .cons _ _ _ _ _ ⟨rfl, [(254, .px 2 0 e34 0)], AllN.get rfl (.cons rfl .nil), fun b hd hn hk hc => ?_⟩ ?_
            ·exact ops_at (((cdt (hd 6 rfl)).trans (cdt (hd 8 rfl))).trans (cdf (hn 11 rfl))) rfl (o_fieldAddrP (a := w59) rfl rfl rfl tyS_52 (by decide) rfl rfl h60) (((cdt ((updb_ne rfl).trans (hd 6 rfl))).trans (cdt ((updb_ne rfl).trans (hd 8 rfl)))).trans (cdf ((updb_ne rfl).trans (hn 11 rfl)))) rfl
            refine .cons _ _ _ _ _ ⟨rfl, [(253, .px 3 0 ((s3.set (Int.toNat w59.ids_) none).length : Int) 0), (255, .px 2 0 e34 0)], AllN.get rfl (.cons rfl (.cons rfl .nil)), fun b hd hn hk hc => ?_⟩ ?_
            ·exact ops_at (((cdt (hd 6 rfl)).trans (cdt (hd 8 rfl))).trans (cdf hk)) rfl (o_storeP (a := w59) (a' := ({ w59 with ids_ := ((s3.set (Int.toNat w59.ids_) none).length : Int) } : T_impl_ysession)) rfl tyS_52 rfl rfl rfl h60 rfl (nb rfl) rfl rfl) ((((cdt ((updb_ne rfl).trans (hd 6 rfl))).trans (cdt ((updb_ne rfl).trans (hd 8 rfl)))).trans (cdt updb_self)).trans rfl) rfl
            exact .nil _
           ·intro b b' h; simp only [h 6 (by decide), h 8 (by decide), h 11 (by decide)]
           refine inB_normal ?_
           exact Pk.of (thn_normal ⟨o62, (((s2.set (Int.toNat e34) ({ w46 with last_ := a0.Time_ } : T_impl_ysession)).set (Int.toNat e34) ({ w57 with level_ := (if (IntKind.i64.wrap (w57.level_ + 1)) < 9 then (IntKind.i64.wrap (w57.level_ + 1)) else 9) } : T_impl_ysession)).set (Int.toNat e34) ({ w59 with ids_ := ((s3.set (Int.toNat w59.ids_) none).length : Int) } : T_impl_ysession)), ((s3.set (Int.toNat w59.ids_) none) ++ [some l66]), rfl, rfl, H⟩)
          ·refine au 5 ?_
           refine T.cH H (fun H h => ?_) (fun H h => ?_)
           ·refine au 2 ?_
            obtain ⟨w68, h69, H⟩ := bind_s H
            refine TL.st rfl rfl rfl (o_nilCheckP rfl rfl rfl h69) ?_
            refine TL.st rfl rfl rfl (o_fieldAddrP (a := w68) rfl rfl rfl tyS_4 (by decide) rfl rfl h69) ?_
            refine TL.sn rfl rfl (o_storeP (a := w68) (a' := ({ w68 with dead_ := true } : T_impl_ysession)) rfl tyS_4 rfl rfl rfl h69 rfl (nb rfl) rfl rfl) ?_
            refine TL.nil ?_
            refine inB_normal ?_
            exact Pk.of (thn_normal ⟨({ s0 with now_ := a0.Time_ } : T_impl_ysessions), ((s2.set (Int.toNat e34) ({ w46 with last_ := a0.Time_ } : T_impl_ysession)).set (Int.toNat e34) ({ w68 with dead_ := true } : T_impl_ysession)), s3, rfl, rfl, H⟩)
           ·refine T.skip ?_
            refine inB_normal ?_
            exact Pk.of (thn_normal ⟨({ s0 with now_ := a0.Time_ } : T_impl_ysessions), (s2.set (Int.toNat e34) ({ w46 with last_ := a0.Time_ } : T_impl_ysession)), s3, rfl, rfl, H⟩)
         ·rintro _ _ ⟨b50, f51, f52, rfl, rfl, H⟩
          refine T.seq ?_
          refine T.drawn rfl ?_
          refine TD.qs rfl rfl (fun _ => o_move rfl rfl) ?_
          obtain ⟨r53, h54, H⟩ := bind_s H
          refine TD.rs rfl rfl (o_callM [2, 3] rfl en_27 rfl rfl (impl_ysession_id_p  h54) rfl (by decide) (.cons _ _ _ _ (ren_at rfl (ren_famO fun _ => rfl)) (.cons _ _ _ _ rfl .nil)) rfl rfl (.cons _ _ _ _ (ren_famO fun _ => rfl) (.cons _ _ _ _ rfl .nil)) rfl) ?_
          refine TD.qs rfl rfl (fun _ => o_move rfl rfl) ?_
          obtain ⟨w55, h56, H⟩ := bind_s H
          refine TD.rs rfl rfl (o_nilCheckP rfl rfl rfl h56) ?_
          refine TD.rs rfl rfl (o_fieldAddrP (a := w55) rfl rfl rfl tyS_9 (by decide) rfl rfl h56) ?_
          refine TD.rs rfl rfl (o_loadP (a := w55) rfl tyS_9 rfl rfl h56 (nb rfl) rfl) ?_
          refine TD.qs rfl rfl (fun _ => o_move rfl rfl) ?_
          refine TD.rs rfl rfl (o_nilCheckP rfl rfl rfl h56) ?_
          refine TD.rs rfl rfl (o_fieldAddrP (a := w55) rfl rfl rfl tyS_3 (by decide) rfl rfl h56) ?_
          refine TD.rs rfl rfl (o_loadP (a := w55) rfl tyS_3 rfl rfl h56 (nb rfl) rfl) ?_
          refine TD.qs rfl rfl (fun _ => o_build rfl ⟨_, fun _ => rfl, rfl⟩ rfl rfl rfl) ?_
          refine TD.an rfl rfl (o_storeBx rfl tyS_57 rfl rfl rfl rfl (nb rfl) rfl) ?_
          refine TD.nil ⟨rfl, ?_⟩
          refine T.ret ?_
          cases some_i H
          exact ⟨trivial, _, (.cell _ _ _ _ _ _ _ _ _ _ rfl rfl tyS_57 (nb rfl) rfl .nil), ⟨rfl, _, rfl⟩⟩
theorem en_35 : En Tryd.prog 35 := .of Tryd.func35 rfl rfl
noncomputable def impl_yrunSessions_l1 (a1 : (List T_impl_SessEvent)) : (T_impl_ysessions × List T_impl_ysession × List (Option (List ByteArray)) × Int) → Option ((T_impl_ysessions × List T_impl_ysession × List (Option (List ByteArray)) × Int) ⊕ (T_impl_ysessions × List T_impl_ysession × List (Option (List ByteArray)))) := fun s => match s with
  | (b3, f4, f5, v6) => cond (decide (v6 < (a1.length : Int))) ((idx a1 v6).bind fun e11 => (impl_ysessions_do e11 b3 f4 f5).bind fun q => (match q with | (r13, o14, o15, o16) => (eqL o14.reply_ b3.reply_).bind fun u18 => (app b3.reply_ ([r13] : List T_impl_SessReply)).bind fun l20 => some (.inl (({ o14 with reply_ := l20 } : T_impl_ysessions), o15, o16, (IntKind.i64.wrap (v6 + 1)))))) (some (.inr (b3, f4, f5)))
noncomputable def impl_yrunSessions (a0 : T_impl_SessConf) (a1 : (List T_impl_SessEvent)) : Option ((T_impl_ysessions × (List T_impl_ysession) × (List (Option (List ByteArray)))) ⊕ Unit) :=
  (impl_GoodSessConf a0).bind fun r1 => cond ((!r1) || decide ((a1.length : Int) > 200)) (some (.inr ())) ((loopO (impl_yrunSessions_l1 a1) ((⟨a0, 0, 0, ([] : List Int), ([] : List T_impl_SessReply)⟩ : T_impl_ysessions), ([] : List T_impl_ysession), ([] : List (Option (List ByteArray))), 0)).bind fun q22 => (match q22 with | (b7, f8, f9) => some (.inl (b7, f8, f9))))
theorem impl_yrunSessions_p (b0 : Bool) (b1 : Bool) {a0 : T_impl_SessConf} {a1 : (List T_impl_SessEvent)} {R : ((T_impl_ysessions × (List T_impl_ysession) × (List (Option (List ByteArray)))) ⊕ Unit)} (H : impl_yrunSessions a0 a1 = some R) : CallT Tryd.prog 25 [.agg (c_T_impl_SessConf b0 a0), .im b1 (a1.map (c_T_impl_SessEvent false))] [] (match R with | .inl (x0', x1', x2') => fun v τ' => ∃ ρ, Part ρ τ' [.box (k_impl_ysessions 1 2 3 b0 (⟨x0'.c_, x0'.now_, x0'.ids_, x0'.list_, x0'.reply_⟩ : T_impl_ysessions)), .arr .raw 1 (x0'.list_.map (c_px 3)), .arr .clo 4 (x0'.reply_.map (c_T_impl_SessReply false)), .fam (x1'.map (c_T_impl_ysession 4 false)), .afm 1 (x2'.map (c_ax (c_str)))] ∧ v = ren (rho ρ τ'.length) (.tup [.bx 0 0, .bool true]) | .inr _ => fun v τ' => ∃ ρ, Part ρ τ' [] ∧ v = ren (rho ρ τ'.length) (.tup [.nilP, .bool false])) := by
 refine CallT.of_TN (n := 40) Tryd.func25 rfl rfl rfl rfl ?_
 refine T.conv Cs.fam ?_
 refine T.conv (Cs.afm 1 rfl) ?_
 refine T.conv (Cs.wkF (M := 2) (.k 0 rfl rfl (.k 1 rfl rfl .nil))) ?_
 refine T.conv (Cs.eqS (σ' := [.fam (([] : List T_impl_ysession).map (c_T_impl_ysession 1 false)), .afm 1 (([] : List (Option (List ByteArray))).map (c_ax (c_str)))]) rfl) ?_
 refine au 10 ?_
 obtain ⟨r1, h2, H⟩ := bind_s H
 refine TL.st rfl rfl rfl (o_callP rfl en_34 rfl rfl (.cons _ _ _ _ (Lent.aggL (.cons _ _ _ _ (.imv _ _) (.cons _ _ _ _ (.cl _ rfl) (.cons _ _ _ _ (.cl _ rfl) .nil)))) .nil) (impl_GoodSessConf_p b0 h2)) ?_
 refine au 3 ?_
 refine TL.gcq rfl rfl rfl (.bool _) rfl rfl (fun h => o_lenL (f := c_T_impl_SessEvent false) rfl rfl (gv h rfl)) ?_
 refine au 3 ?_
 refine T.cH H (fun H h => ?_) (fun H h => ?_)
 ·refine au 6 ?_
  refine thn_ret ?_
  cases some_i H
  exact ⟨trivial, _, (.tmp _ _ _ _ rfl (.tmp _ _ _ _ rfl .nil)), ⟨[], Part.of (by decide) .nil, rfl⟩⟩
 ·refine au 12 ?_
  refine TL.st rfl rfl rfl (o_lenL (f := c_T_impl_SessEvent false) rfl rfl rfl) ?_
  refine au 3 ?_
  refine T.conv (Cs.ownCellR (p := 3) 5 1 rfl rfl (by decide)) ?_
  refine T.conv (Cs.ownCell (p := 3) 6 4 rfl rfl (by decide)) ?_
  obtain ⟨q22, h23, H⟩ := bind_s H
  refine T.lq (fun s => match s with | (b3, f4, f5, v6) => [(6, .bx 3 0), (20, .im b1 (a1.map (c_T_impl_SessEvent false))), (21, .int .i64 (a1.length : Int)), (22, .int .i64 v6)]) (fun s => match s with | (b3, f4, f5, v6) => [.fam (f4.map (c_T_impl_ysession 1 false)), .afm 1 (f5.map (c_ax (c_str))), .box (c_T_impl_SessConf b0 a0), .box (k_impl_ysessions 4 5 0 b0 b3), .arr .raw 1 (b3.list_.map (c_px 0)), .arr .clo 4 (b3.reply_.map (c_T_impl_SessReply false))]) (fun q ex fr σ => match q with | (b7, f8, f9) => ex = .exit 0 ∧ fr = [(6, .bx 3 0)] ∧ σ = [.fam (f8.map (c_T_impl_ysession 1 false)), .afm 1 (f9.map (c_ax (c_str))), .box (c_T_impl_SessConf b0 a0), .box (k_impl_ysessions 4 5 0 b0 b7), .arr .raw 1 (b7.list_.map (c_px 0)), .arr .clo 4 (b7.reply_.map (c_T_impl_SessReply false))]) h23 ?_ ?_
  ·rintro ⟨b3, f4, f5, v6⟩ y10 H
   refine au 5 ?_
   refine T.cH H (fun H h => ?_) (fun H h => ?_)
   ·refine au 5 ?_
    obtain ⟨e11, h12, H⟩ := bind_s H
    refine TL.st rfl rfl rfl (o_ix (f := c_T_impl_SessEvent false) rfl rfl tyS_60 rfl rfl h12 rfl) ?_
    refine au 4 ?_
    refine thn_normal ?_
    obtain ⟨⟨r13, o14, o15, o16⟩, h17, H⟩ := bind_s H
    obtain ⟨u18, h19, H⟩ := bind_s H
    obtain ⟨l20, h21, H⟩ := bind_s H
    refine T.drawS (fr' := [(6, .bx 3 0), (8, .bx 6 0), (20, .im b1 (a1.map (c_T_impl_SessEvent false))), (21, .int .i64 (a1.length : Int)), (22, .int .i64 v6), (23, .bool (decide (v6 < (a1.length : Int)))), (25, .agg (c_T_impl_SessEvent false e11)), (26, .bx 3 0), (27, .bx 3 0), (28, .bx 3 0), (29, .bx 3 6), (30, .hd 5 (b3.reply_.map (c_T_impl_SessReply false)).length 0 (b3.reply_.map (c_T_impl_SessReply false)).length), (31, .bx 3 0), (32, .agg (c_T_impl_SessEvent false e11)), (33, .agg (c_T_impl_SessReply false r13)), (34, .im false (([r13] : List T_impl_SessReply).map (c_T_impl_SessReply false))), (35, .hd 5 (l20.map (c_T_impl_SessReply false)).length 0 (l20.map (c_T_impl_SessReply false)).length), (36, .bx 3 0), (37, .bx 3 6)]) (R := [⟨some 26, .bx 3 0, .q, []⟩, ⟨some 27, .bx 3 0, .q, []⟩, ⟨some 28, .bx 3 0, .q, []⟩, ⟨some 29, .bx 3 6, .q, []⟩, ⟨some 30, .hd 5 (b3.reply_.map (c_T_impl_SessReply false)).length 0 (b3.reply_.map (c_T_impl_SessReply false)).length, .q, []⟩, ⟨some 31, .bx 3 0, .q, []⟩, ⟨some 32, .agg (c_T_impl_SessEvent false e11), .q, []⟩, ⟨some 33, .agg (c_T_impl_SessReply false r13), .q, []⟩, ⟨some 34, .im false (([r13] : List T_impl_SessReply).map (c_T_impl_SessReply false)), .q, []⟩, ⟨some 35, .hd 5 (l20.map (c_T_impl_SessReply false)).length 0 (l20.map (c_T_impl_SessReply false)).length, .q, []⟩, ⟨some 36, .bx 3 0, .q, []⟩, ⟨some 37, .bx 3 6, .q, []⟩, ⟨none, .any, .q, []⟩]) (fun b => cond (b 7) (cond (b 9) (cond (b 12) ([.fam (o15.map (c_T_impl_ysession 1 false)), .afm 1 (o16.map (c_ax (c_str))), .box (c_T_impl_SessConf b0 a0), .box (k_impl_ysessions 4 5 0 b0 ({ o14 with reply_ := l20 } : T_impl_ysessions)), .arr .raw 1 (o14.list_.map (c_px 0)), .arr .clo 4 (l20.map (c_T_impl_SessReply false)), .box (c_T_impl_SessEvent false e11)]) ([.fam (o15.map (c_T_impl_ysession 1 false)), .afm 1 (o16.map (c_ax (c_str))), .box (c_T_impl_SessConf b0 a0), .box (k_impl_ysessions 4 5 0 b0 ({ o14 with reply_ := b3.reply_ } : T_impl_ysessions)), .arr .raw 1 (o14.list_.map (c_px 0)), .arr .clo 4 (l20.map (c_T_impl_SessReply false)), .box (c_T_impl_SessEvent false e11)])) ([.fam (o15.map (c_T_impl_ysession 1 false)), .afm 1 (o16.map (c_ax (c_str))), .box (c_T_impl_SessConf b0 a0), .box (k_impl_ysessions 4 5 0 b0 ({ o14 with reply_ := b3.reply_ } : T_impl_ysessions)), .arr .raw 1 (o14.list_.map (c_px 0)), .arr .clo 4 (b3.reply_.map (c_T_impl_SessReply false)), .box (c_T_impl_SessEvent false e11)])) ([.fam (f4.map (c_T_impl_ysession 1 false)), .afm 1 (f5.map (c_ax (c_str))), .box (c_T_impl_SessConf b0 a0), .box (k_impl_ysessions 4 5 0 b0 b3), .arr .raw 1 (b3.list_.map (c_px 0)), .arr .clo 4 (b3.reply_.map (c_T_impl_SessReply false)), .box (c_T_impl_SessEvent false e11)])) rfl ?_ ?_ rfl rfl (FrL.get (.cons rfl (.cons rfl (.cons rfl (.cons rfl (.cons rfl (.cons rfl (.cons rfl (.cons rfl (.cons rfl (.cons rfl (.cons rfl (.cons rfl (.cons rfl (.cons rfl (.cons rfl (.cons rfl (.cons rfl (.cons rfl (.cons rfl .nil)))))))))))))))))))) ?_
    ·refine .cons _ _ _ _ _ ⟨rfl, [(6, .bx 3 0)], AllN.get rfl (.cons rfl .nil), fun b hd hn hk hc => ?_⟩ ?_
     ·cases e7 : b 7
      ·cases e9 : b 9
       ·exact ops_at (cdf e7) rfl (o_move rfl rfl) (cdf ((updb_ne rfl).trans e7)) rfl
       ·exact absurd (hc 9 7 rfl rfl e9) (by rw [e7]; decide)
      ·cases e9 : b 9
       ·exact ops_at ((cdt e7).trans (cdf e9)) rfl (o_move rfl rfl) ((cdt ((updb_ne rfl).trans e7)).trans (cdf ((updb_ne rfl).trans e9))) rfl
       ·exact ops_at (((cdt e7).trans (cdt e9)).trans (cdf (hn 12 rfl))) rfl (o_move rfl rfl) (((cdt ((updb_ne rfl).trans e7)).trans (cdt ((updb_ne rfl).trans e9))).trans (cdf ((updb_ne rfl).trans (hn 12 rfl)))) rfl
     refine .cons _ _ _ _ _ ⟨rfl, [(6, .bx 3 0)], AllN.get rfl (.cons rfl .nil), fun b hd hn hk hc => ?_⟩ ?_
     ·cases e7 : b 7
      ·exact ops_at (cdf e7) rfl (o_move rfl rfl) (cdf ((updb_ne rfl).trans e7)) rfl
      ·exact ops_at ((cdt e7).trans (cdf (hn 9 rfl))) rfl (o_move rfl rfl) ((cdt ((updb_ne rfl).trans e7)).trans (cdf ((updb_ne rfl).trans (hn 9 rfl)))) rfl
     refine .cons _ _ _ _ _ ⟨rfl, [(27, .bx 3 0)], AllN.get rfl (.cons rfl .nil), fun b hd hn hk hc => ?_⟩ ?_
     ·cases e7 : b 7
      ·exact ops_at (cdf e7) rfl (o_nilCheck rfl rfl rfl) (cdf ((updb_ne rfl).trans e7)) rfl
      ·exact ops_at ((cdt e7).trans (cdf (hn 9 rfl))) rfl (o_nilCheck rfl rfl rfl) ((cdt ((updb_ne rfl).trans e7)).trans (cdf ((updb_ne rfl).trans (hn 9 rfl)))) rfl
     refine .cons _ _ _ _ _ ⟨rfl, [(28, .bx 3 0)], AllN.get rfl (.cons rfl .nil), fun b hd hn hk hc => ?_⟩ ?_
     ·cases e7 : b 7
      ·exact ops_at (cdf e7) rfl (o_fieldAddr rfl rfl rfl tyS_28 (by decide) rfl rfl ⟨_, rfl, Nat.le_of_ble_eq_true rfl⟩) (cdf ((updb_ne rfl).trans e7)) rfl
      ·exact ops_at ((cdt e7).trans (cdf (hn 9 rfl))) rfl (o_fieldAddr rfl rfl rfl tyS_28 (by decide) rfl rfl ⟨_, rfl, Nat.le_of_ble_eq_true rfl⟩) ((cdt ((updb_ne rfl).trans e7)).trans (cdf ((updb_ne rfl).trans (hn 9 rfl)))) rfl
     refine .cons _ _ _ _ _ ⟨rfl, [(29, .bx 3 6)], AllN.get rfl (.cons rfl .nil), fun b hd hn hk hc => ?_⟩ ?_
     ·cases e7 : b 7
      ·exact ops_at (cdf e7) rfl (o_loadBx rfl tyS_28 rfl rfl (nb rfl) rfl) (cdf ((updb_ne rfl).trans e7)) rfl
      ·exact ops_at ((cdt e7).trans (cdf (hn 9 rfl))) rfl (o_loadBx rfl tyS_28 rfl rfl (nb rfl) rfl) ((cdt ((updb_ne rfl).trans e7)).trans (cdf ((updb_ne rfl).trans (hn 9 rfl)))) rfl
     refine .cons _ _ _ _ _ ⟨rfl, [(6, .bx 3 0)], AllN.get rfl (.cons rfl .nil), fun b hd hn hk hc => ?_⟩ ?_
     ·exact ops_at (cdf (hn 7 rfl)) rfl (o_move rfl rfl) (cdf ((updb_ne rfl).trans (hn 7 rfl))) rfl
     refine .cons _ _ _ _ _ ⟨rfl, [(8, .bx 6 0)], AllN.get rfl (.cons rfl .nil), fun b hd hn hk hc => ?_⟩ ?_
     ·exact ops_at (cdf (hn 7 rfl)) rfl (o_loadBx rfl tyS_60 rfl rfl (nb rfl) rfl) (cdf ((updb_ne rfl).trans (hn 7 rfl))) rfl
     refine .cons _ _ _ _ _ ⟨rfl, [(31, .bx 3 0), (32, .agg (c_T_impl_SessEvent false e11))], AllN.get rfl (.cons rfl (.cons rfl .nil)), fun b hd hn hk hc => ?_⟩ ?_
     ·exact ops_at (cdf hk) rfl (Does.eqS (eqAtS (eqAtS (eqAtS (eqAtB (show (.box ((c_T_impl_SessConf b0 o14.c_) ++ [.int .i64 o14.now_, .int .i64 o14.ids_, .hd 4 o14.list_.length 0 o14.list_.length, .hd 5 (o14.reply_.map (c_T_impl_SessReply false)).length 0 (o14.reply_.map (c_T_impl_SessReply false)).length]) : AO) = .box ((c_T_impl_SessConf b0 o14.c_) ++ [.int .i64 o14.now_, .int .i64 o14.ids_, .hd 4 o14.list_.length 0 o14.list_.length, .hd 5 (b3.reply_.map (c_T_impl_SessReply false)).length 0 (b3.reply_.map (c_T_impl_SessReply false)).length]) by simp only [eqL_s h19]) (eqAtS (eqAtB (show (.arr .clo 4 (o14.reply_.map (c_T_impl_SessReply false)) : AO) = .arr .clo 4 (b3.reply_.map (c_T_impl_SessReply false)) by simp only [eqL_s h19]) rfl)))))) (o_callM [3, 4, 0, 1, 5] rfl en_35 rfl rfl (impl_ysessions_do_p b0 h17) rfl (by decide) (.cons _ _ _ _ rfl (.cons _ _ _ _ (ren_at rfl (ren_rawO fun _ => rfl)) (.cons _ _ _ _ (ren_at rfl (ren_famO fun _ => rfl)) (.cons _ _ _ _ rfl (.cons _ _ _ _ rfl .nil))))) rfl rfl (.cons _ _ _ _ rfl (.cons _ _ _ _ (ren_rawO fun _ => rfl) (.cons _ _ _ _ (ren_famO fun _ => rfl) (.cons _ _ _ _ rfl (.cons _ _ _ _ rfl .nil))))) rfl)) (((cdt updb_self).trans (cdf ((updb_ne rfl).trans (hn 9 rfl)))).trans rfl) rfl
     refine .cons _ _ _ _ _ ⟨rfl, [(33, .agg (c_T_impl_SessReply false r13))], AllN.get rfl (.cons rfl .nil), fun b hd hn hk hc => ?_⟩ ?_
     ·exact ops_at ((cdt (hd 7 rfl)).trans (cdf (hn 9 rfl))) rfl (o_sliceIm (rows := ([r13] : List T_impl_SessReply).map (c_T_impl_SessReply false)) rfl rfl tyS_57 ⟨_, rfl, rfl⟩ (by decide) rfl rfl rfl rfl rfl rfl) ((cdt ((updb_ne rfl).trans (hd 7 rfl))).trans (cdf ((updb_ne rfl).trans (hn 9 rfl)))) rfl
     refine .cons _ _ _ _ _ ⟨rfl, [(30, .hd 5 (b3.reply_.map (c_T_impl_SessReply false)).length 0 (b3.reply_.map (c_T_impl_SessReply false)).length), (34, .im false (([r13] : List T_impl_SessReply).map (c_T_impl_SessReply false)))], AllN.get rfl (.cons rfl (.cons rfl .nil)), fun b hd hn hk hc => ?_⟩ ?_
     ·exact ops_at ((cdt (hd 7 rfl)).trans (cdf hk)) rfl (o_ap (f := c_T_impl_SessReply false) (xs := b3.reply_) (ys := ([r13] : List T_impl_SessReply)) rfl rfl tyE_57 rfl rfl rfl rfl (by decide) rfl (fun _ => rfl) h21) ((((cdt ((updb_ne rfl).trans (hd 7 rfl))).trans (cdt updb_self)).trans (cdf ((updb_ne rfl).trans (hn 12 rfl)))).trans rfl) rfl
     refine .cons _ _ _ _ _ ⟨rfl, [(26, .bx 3 0)], AllN.get rfl (.cons rfl .nil), fun b hd hn hk hc => ?_⟩ ?_
     ·exact ops_at (((cdt (hd 7 rfl)).trans (cdt (hd 9 rfl))).trans (cdf (hn 12 rfl))) rfl (o_nilCheck rfl rfl rfl) (((cdt ((updb_ne rfl).trans (hd 7 rfl))).trans (cdt ((updb_ne rfl).trans (hd 9 rfl)))).trans (cdf ((updb_ne rfl).trans (hn 12 rfl)))) rfl
     refine .cons _ _ _ _ _ ⟨rfl, [(36, .bx 3 0)], AllN.get rfl (.cons rfl .nil), fun b hd hn hk hc => ?_⟩ ?_
     ·exact ops_at (((cdt (hd 7 rfl)).trans (cdt (hd 9 rfl))).trans (cdf (hn 12 rfl))) rfl (o_fieldAddr rfl rfl rfl tyS_28 (by decide) rfl rfl ⟨_, rfl, Nat.le_of_ble_eq_true rfl⟩) (((cdt ((updb_ne rfl).trans (hd 7 rfl))).trans (cdt ((updb_ne rfl).trans (hd 9 rfl)))).trans (cdf ((updb_ne rfl).trans (hn 12 rfl)))) rfl
     refine .cons _ _ _ _ _ ⟨rfl, [(35, .hd 5 (l20.map (c_T_impl_SessReply false)).length 0 (l20.map (c_T_impl_SessReply false)).length), (37, .bx 3 6)], AllN.get rfl (.cons rfl (.cons rfl .nil)), fun b hd hn hk hc => ?_⟩ ?_
     ·exact ops_at (((cdt (hd 7 rfl)).trans (cdt (hd 9 rfl))).trans (cdf hk)) rfl (o_storeBx rfl tyS_28 rfl rfl rfl rfl (nb rfl) (sure_hd rfl rfl rfl)) ((((cdt ((updb_ne rfl).trans (hd 7 rfl))).trans (cdt ((updb_ne rfl).trans (hd 9 rfl)))).trans (cdt updb_self)).trans rfl) rfl
     exact .nil _
    ·intro b b' h; simp only [h 7 (by decide), h 9 (by decide), h 12 (by decide)]
    refine inB_normal (thn_normal ?_)
    refine T.conv (Cs.eqS (σ' := [.fam (o15.map (c_T_impl_ysession 1 false)), .afm 1 (o16.map (c_ax (c_str))), _, .box (k_impl_ysessions 4 5 0 b0 ({ o14 with reply_ := l20 } : T_impl_ysessions)), .arr .raw 1 (o14.list_.map (c_px 0)), .arr .clo 4 (l20.map (c_T_impl_SessReply false)), .box (c_T_impl_SessEvent false e11)]) rfl) ?_
    refine au 4 ?_
    exact Pk.of (thn_normal ⟨(({ o14 with reply_ := l20 } : T_impl_ysessions), o15, o16, (IntKind.i64.wrap (v6 + 1))), (some_i H).symm, rfl, rfl⟩)
   ·refine T.exit ?_
    refine thn_exit ?_
    exact Pk.of (thn_exit ⟨(b3, f4, f5), (some_i H).symm, rfl, rfl, rfl⟩)
  ·rcases q22 with ⟨b7, f8, f9⟩
   rintro _ _ _ ⟨rfl, rfl, rfl⟩
   refine inB_here ?_
   refine au 7 ?_
   cases some_i H
   exact ⟨trivial, _, (.tmp _ _ _ _ rfl (.tmp _ _ _ _ rfl .nil)), ⟨[3, 4, 5, 0, 1], Part.of (by decide) (.cons _ _ _ _ rfl (.cons _ _ _ _ (ren_at rfl (ren_rawO fun _ => rfl)) (.cons _ _ _ _ rfl (.cons _ _ _ _ (ren_at rfl (ren_famO fun _ => rfl)) (.cons _ _ _ _ rfl .nil))))), rfl⟩⟩
theorem impl_yrunSessions_p0 (b0 : Bool) (b1 : Bool) {a0 : T_impl_SessConf} {a1 : (List T_impl_SessEvent)} {x0' : T_impl_ysessions} {x1' : (List T_impl_ysession)} {x2' : (List (Option (List ByteArray)))} (H : impl_yrunSessions a0 a1 = some (.inl (x0', x1', x2'))) : St Tryd.prog 25 [.agg (c_T_impl_SessConf b0 a0), .im b1 (a1.map (c_T_impl_SessEvent false))] [] (.tup [.bx 0 0, .bool true]) [.box (k_impl_ysessions 1 2 3 b0 (⟨x0'.c_, x0'.now_, x0'.ids_, x0'.list_, x0'.reply_⟩ : T_impl_ysessions)), .arr .raw 1 (x0'.list_.map (c_px 3)), .arr .clo 4 (x0'.reply_.map (c_T_impl_SessReply false)), .fam (x1'.map (c_T_impl_ysession 4 false)), .afm 1 (x2'.map (c_ax (c_str)))] :=
 CallT.sel (impl_yrunSessions_p b0 b1 H)
theorem impl_yrunSessions_p1 (b0 : Bool) (b1 : Bool) {a0 : T_impl_SessConf} {a1 : (List T_impl_SessEvent)}  (H : impl_yrunSessions a0 a1 = some (.inr ())) : St Tryd.prog 25 [.agg (c_T_impl_SessConf b0 a0), .im b1 (a1.map (c_T_impl_SessEvent false))] [] (.tup [.nilP, .bool false]) [] :=
 CallT.sel (impl_yrunSessions_p b0 b1 H)
theorem en_25 : En Tryd.prog 25 := .of Tryd.func25 rfl rfl
noncomputable def impl_SignedIn_l1 (a2 : Int) (o3 : T_impl_ysessions) (o4 : (List T_impl_ysession)) (o5 : (List (Option (List ByteArray)))) : (List T_impl_SessReply × Int) → Option ((List T_impl_SessReply × Int) ⊕ List T_impl_SessReply) := fun s => match s with
  | (l6, v7) => cond (decide (v7 < (o3.list_.length : Int))) ((idx o3.list_ v7).bind fun e10 => (idx o4 e10).bind fun w12 => (cond (!w12.dead_) (impl_ysessions_over e10 a2 o3 o4 o5) (some (default))).bind fun r14 => cond ((!w12.dead_) && (!r14)) ((impl_ysession_id e10 o4 o5).bind fun r16 => (app l6 ([(⟨0, r16, w12.user_, w12.level_⟩ : T_impl_SessReply)] : List T_impl_SessReply)).bind fun l18 => some (.inl (l18, (IntKind.i64.wrap (v7 + 1))))) (some (.inl (l6, (IntKind.i64.wrap (v7 + 1)))))) (some (.inr l6))
noncomputable def impl_SignedIn (a0 : T_impl_SessConf) (a1 : (List T_impl_SessEvent)) (a2 : Int) : Option (List T_impl_SessReply) :=
  (impl_yrunSessions a0 a1).bind fun r1 => (match r1 with | .inl (o3, o4, o5) => cond ((!true) || decide (a2 < o3.now_)) (some ([] : List T_impl_SessReply)) ((loopO (impl_SignedIn_l1 a2 o3 o4 o5) (([] : List T_impl_SessReply), 0)).bind fun l8 => (match l8 with | l8 => some l8)) | .inr _ => cond ((!false) || false) (some ([] : List T_impl_SessReply)) (none))
theorem impl_SignedIn_p (b0 : Bool) (b1 : Bool) {a0 : T_impl_SessConf} {a1 : (List T_impl_SessEvent)} {a2 : Int} {R0 : (List T_impl_SessReply)} (H : impl_SignedIn a0 a1 a2 = some R0) : Pure Tryd.prog 9 [.agg (c_T_impl_SessConf b0 a0), .im b1 (a1.map (c_T_impl_SessEvent false)), .int .i64 a2] (.im false (R0.map (c_T_impl_SessReply false))) := by
 refine CallT.of_TN (n := 65) Tryd.func9 rfl rfl rfl rfl ?_
 refine au 9 ?_
 obtain ⟨r1, h2, H⟩ := bind_s H
 rcases r1 with ⟨o3, o4, o5⟩ | ⟨⟩
 ·refine TL.st rfl rfl rfl (o_callM [] rfl en_25 rfl rfl (impl_yrunSessions_p0  b0 b1 h2) rfl (by decide) .nil rfl rfl (.cons _ _ _ _ rfl (.cons _ _ _ _ (ren_rawO fun _ => rfl) (.cons _ _ _ _ rfl (.cons _ _ _ _ (ren_famO fun _ => rfl) (.cons _ _ _ _ rfl .nil))))) rfl) ?_
  refine au 14 ?_
  refine TL.gcq rfl rfl rfl (.bool _) rfl rfl (fun h => o_nilCheck rfl (gv h rfl) rfl) ?_
  refine TL.gcq rfl rfl rfl (.bool _) rfl rfl (fun h => o_fieldAddr rfl rfl rfl tyS_3 (by decide) (gv h rfl) rfl ⟨_, rfl, Nat.le_of_ble_eq_true rfl⟩) ?_
  refine TL.gcq rfl rfl rfl (.bool _) rfl rfl (fun h => o_loadBx rfl tyS_3 (gv h rfl) rfl (nb rfl) rfl) ?_
  refine TL.gcq rfl rfl rfl (.bool _) rfl rfl (fun h => o_ari rfl (gv h rfl) (gv h rfl) rfl) ?_
  refine au 2 ?_
  refine T.cH H (fun H h => ?_) (fun H h => ?_)
  ·refine au 5 ?_
   refine thn_ret ?_
   cases some_i H
   exact ⟨trivial, _, (.tmp _ _ _ _ rfl .nil), .nil⟩
  ·refine au 12 ?_
   refine TL.st rfl rfl rfl (o_lenOwn (f := c_px 4) rfl rfl rfl rfl (List.length_map ..)) ?_
   refine au 3 ?_
   refine T.conv (Cs.own (t := 9) 4 rfl (by decide)) ?_
   obtain ⟨l8, h21, H⟩ := bind_s H
   refine T.lq (fun s => match s with | (l6, v7) => [(2, .int .i64 a2), (7, .bx 1 0), (9, .hd 6 (l6.map (c_T_impl_SessReply false)).length 0 (l6.map (c_T_impl_SessReply false)).length), (31, .hd 2 o3.list_.length 0 o3.list_.length), (32, .int .i64 (o3.list_.length : Int)), (33, .int .i64 v7)]) (fun s => match s with | (l6, v7) => [.box (c_T_impl_SessConf b0 a0), .box (k_impl_ysessions 2 3 4 b0 o3), .arr .raw 1 (o3.list_.map (c_px 4)), .arr .clo 4 (o3.reply_.map (c_T_impl_SessReply false)), .fam (o4.map (c_T_impl_ysession 5 false)), .afm 1 (o5.map (c_ax (c_str))), .arr .clo 4 (l6.map (c_T_impl_SessReply false))]) (fun q ex fr σ => match q with | l8 => ex = .exit 0 ∧ fr = [(9, .hd 6 (l8.map (c_T_impl_SessReply false)).length 0 (l8.map (c_T_impl_SessReply false)).length)] ∧ σ = [.box (c_T_impl_SessConf b0 a0), .box (k_impl_ysessions 2 3 4 b0 o3), .arr .raw 1 (o3.list_.map (c_px 4)), .arr .clo 4 (o3.reply_.map (c_T_impl_SessReply false)), .fam (o4.map (c_T_impl_ysession 5 false)), .afm 1 (o5.map (c_ax (c_str))), .arr .clo 4 (l8.map (c_T_impl_SessReply false))]) h21 ?_ ?_
   ·rintro ⟨l6, v7⟩ y9 H
    refine au 5 ?_
    refine T.cH H (fun H h => ?_) (fun H h => ?_)
    ·refine au 5 ?_
     obtain ⟨e10, h11, H⟩ := bind_s H
     refine TL.st rfl rfl rfl (o_ixh (f := c_px 4) rfl rfl tyS_68 rfl rfl rfl (List.length_map ..) h11 rfl) ?_
     refine TL.st rfl rfl rfl (o_loadEl rfl tyS_68 rfl rfl (List.length_map ..) (by rw [List.getElem?_map, (idx_s h11).2]; rfl) (nb rfl) rfl) ?_
     refine au 5 ?_
     obtain ⟨w12, h13, H⟩ := bind_s H
     refine TL.st rfl rfl rfl (o_nilCheckP rfl rfl rfl h13) ?_
     refine TL.st rfl rfl rfl (o_fieldAddrP (a := w12) rfl rfl rfl tyS_4 (by decide) rfl rfl h13) ?_
     refine TL.st rfl rfl rfl (o_loadP (a := w12) rfl tyS_4 rfl rfl h13 (nb rfl) rfl) ?_
     refine au 5 ?_
     obtain ⟨r14, h15, H⟩ := bind_s H
     refine TL.gc rfl rfl rfl (.bool _) rfl rfl (fun h => o_callM [1, 2, 4, 5, 3] rfl en_26 rfl (evl_3 (gv h rfl) (gv h rfl) (gv h rfl)) (impl_ysessions_over_p b0 (cond_t h h15)) rfl (by decide) (.cons _ _ _ _ rfl (.cons _ _ _ _ (ren_at rfl (ren_rawO fun _ => rfl)) (.cons _ _ _ _ (ren_at rfl (ren_famO fun _ => rfl)) (.cons _ _ _ _ rfl (.cons _ _ _ _ rfl .nil))))) rfl rfl (.cons _ _ _ _ rfl (.cons _ _ _ _ (ren_rawO fun _ => rfl) (.cons _ _ _ _ (ren_famO fun _ => rfl) (.cons _ _ _ _ rfl (.cons _ _ _ _ rfl .nil))))) rfl) (fun h => by cases cond_f h h15; rfl) ?_
     refine au 3 ?_
     refine T.cH H (fun H h => ?_) (fun H h => ?_)
     ·refine T.drawn rfl ?_
      refine ad 2 ?_
      obtain ⟨r16, h17, H⟩ := bind_s H
      refine TD.rs rfl rfl (o_callM [4, 5] rfl en_27 rfl rfl (impl_ysession_id_p  h17) rfl (by decide) (.cons _ _ _ _ (ren_at rfl (ren_famO fun _ => rfl)) (.cons _ _ _ _ rfl .nil)) rfl rfl (.cons _ _ _ _ (ren_famO fun _ => rfl) (.cons _ _ _ _ rfl .nil)) rfl) ?_
      refine TD.qs rfl rfl (fun _ => o_move rfl rfl) ?_
      refine TD.rs rfl rfl (o_nilCheckP rfl rfl rfl h13) ?_
      refine TD.rs rfl rfl (o_fieldAddrP (a := w12) rfl rfl rfl tyS_9 (by decide) rfl rfl h13) ?_
      refine TD.rs rfl rfl (o_loadP (a := w12) rfl tyS_9 rfl rfl h13 (nb rfl) rfl) ?_
      refine TD.qs rfl rfl (fun _ => o_move rfl rfl) ?_
      refine TD.rs rfl rfl (o_nilCheckP rfl rfl rfl h13) ?_
      refine TD.rs rfl rfl (o_fieldAddrP (a := w12) rfl rfl rfl tyS_3 (by decide) rfl rfl h13) ?_
      refine TD.rs rfl rfl (o_loadP (a := w12) rfl tyS_3 rfl rfl h13 (nb rfl) rfl) ?_
      refine TD.qs rfl rfl (fun _ => o_build rfl ⟨_, fun _ => rfl, rfl⟩ rfl rfl rfl) ?_
      refine TD.qs rfl rfl (fun _ => o_sliceIm (rows := ([(⟨0, r16, w12.user_, w12.level_⟩ : T_impl_SessReply)] : List T_impl_SessReply).map (c_T_impl_SessReply false)) rfl rfl tyS_57 ⟨_, rfl, rfl⟩ (by decide) rfl rfl rfl rfl rfl rfl) ?_
      obtain ⟨l18, h19, H⟩ := bind_s H
      refine TD.as rfl rfl (o_ap (f := c_T_impl_SessReply false) (xs := l6) (ys := ([(⟨0, r16, w12.user_, w12.level_⟩ : T_impl_SessReply)] : List T_impl_SessReply)) rfl rfl tyE_57 rfl rfl rfl rfl (by decide) rfl (fun _ => rfl) h19) ?_
      refine TD.qs rfl rfl (fun _ => o_assign rfl rfl) ?_
      refine TD.nil ⟨rfl, ?_⟩
      refine au 4 ?_
      exact Pk.of (thn_normal ⟨(l18, (IntKind.i64.wrap (v7 + 1))), (some_i H).symm, rfl, rfl⟩)
     ·refine au 5 ?_
      exact Pk.of (thn_normal ⟨(l6, (IntKind.i64.wrap (v7 + 1))), (some_i H).symm, rfl, rfl⟩)
    ·refine T.exit ?_
     refine thn_exit ?_
     exact Pk.of (thn_exit ⟨l6, (some_i H).symm, rfl, rfl, rfl⟩)
   ·rintro _ _ _ ⟨rfl, rfl, rfl⟩
    refine inB_here ?_
    refine au 6 ?_
    cases some_i H
    exact ⟨trivial, _, (.tmp _ _ _ _ rfl .nil), (.own rfl (by decide) rfl)⟩
 ·refine TL.st rfl rfl rfl (o_callM [] rfl en_25 rfl rfl (impl_yrunSessions_p1  b0 b1 h2) rfl (by decide) .nil rfl rfl .nil rfl) ?_
  refine au 12 ?_
  refine TL.gcq rfl rfl rfl (.bool _) rfl rfl (fun h => show Does _ _ _ _ (.int .i64 0) _ from absurd h (by decide)) ?_
  refine TL.gcq rfl rfl rfl (.bool _) rfl rfl (fun h => show Does _ _ _ _ (.any) _ from absurd h (by decide)) ?_
  refine TL.gcq rfl rfl rfl (.bool _) rfl rfl (fun h => show Does _ _ _ _ (.any) _ from absurd h (by decide)) ?_
  refine TL.gcq rfl rfl rfl (.bool _) rfl rfl (fun h => show Does _ _ _ _ (.any) _ from absurd h (by decide)) ?_
  refine TL.gcq rfl rfl rfl (.bool _) rfl rfl (fun h => show Does _ _ _ _ (.int .i64 0) _ from absurd h (by decide)) ?_
  refine TL.gcq rfl rfl rfl (.bool _) rfl rfl (fun h => show Does _ _ _ _ (.bool false) _ from absurd h (by decide)) ?_
  refine au 2 ?_
  refine T.cH H (fun H h => ?_) (fun H h => ?_)
  ·refine au 5 ?_
   refine thn_ret ?_
   cases some_i H
   exact ⟨trivial, _, (.tmp _ _ _ _ rfl .nil), .nil⟩
  ·cases H
theorem en_9 : En Tryd.prog 9 := .of Tryd.func9 rfl rfl
noncomputable def laws_eqSessReply (a0 : T_impl_SessReply) (a1 : T_impl_SessReply) : Option Bool :=
  cond (a0.Err_ != a1.Err_) (some false) (cond (!(a0.Id_.toList == a1.Id_.toList)) (some false) (cond (!(a0.User_.toList == a1.User_.toList)) (some false) (cond (a0.Level_ != a1.Level_) (some false) (some true))))
theorem laws_eqSessReply_p  {a0 : T_impl_SessReply} {a1 : T_impl_SessReply} {R0 : Bool} (H : laws_eqSessReply a0 a1 = some R0) : Pure Tryd.prog 28 [.agg (c_T_impl_SessReply false a0), .agg (c_T_impl_SessReply false a1)] (.bool R0) := by
 refine CallT.of_TN (n := 25) Tryd.func28 rfl rfl rfl rfl ?_
 refine au 15 ?_
 refine T.cH H (fun H h => ?_) (fun H h => ?_)
 ·refine au 5 ?_
  refine thn_ret ?_
  cases some_i H
  exact ⟨trivial, _, (.tmp _ _ _ _ rfl .nil), (.cl _ rfl)⟩
 ·refine au 10 ?_
  refine T.cH H (fun H h => ?_) (fun H h => ?_)
  ·refine au 5 ?_
   refine thn_ret ?_
   cases some_i H
   exact ⟨trivial, _, (.tmp _ _ _ _ rfl .nil), (.cl _ rfl)⟩
  ·refine au 10 ?_
   refine T.cH H (fun H h => ?_) (fun H h => ?_)
   ·refine au 5 ?_
    refine thn_ret ?_
    cases some_i H
    exact ⟨trivial, _, (.tmp _ _ _ _ rfl .nil), (.cl _ rfl)⟩
   ·refine au 10 ?_
    refine T.cH H (fun H h => ?_) (fun H h => ?_)
    ·refine au 5 ?_
     refine thn_ret ?_
     cases some_i H
     exact ⟨trivial, _, (.tmp _ _ _ _ rfl .nil), (.cl _ rfl)⟩
    ·refine au 6 ?_
     cases some_i H
     exact ⟨trivial, _, (.tmp _ _ _ _ rfl .nil), (.cl _ rfl)⟩
theorem en_28 : En Tryd.prog 28 := .of Tryd.func28 rfl rfl
noncomputable def laws_eqSessReplyS_l1 (a0 : (List T_impl_SessReply)) (a1 : (List T_impl_SessReply)) : Int → Option (Int ⊕ (Unit ⊕ Bool)) := fun s => match s with
  | v1 => cond (decide (v1 < (a0.length : Int))) ((idx a0 v1).bind fun e4 => (idx a1 v1).bind fun e6 => (laws_eqSessReply e4 e6).bind fun r8 => cond (!r8) (some (.inr (.inr false))) (some (.inl (IntKind.i64.wrap (v1 + 1))))) (some (.inr (.inl ())))
noncomputable def laws_eqSessReplyS (a0 : (List T_impl_SessReply)) (a1 : (List T_impl_SessReply)) : Option Bool :=
  cond ((a0.length : Int) != (a1.length : Int)) (some false) ((loopO (laws_eqSessReplyS_l1 a0 a1) 0).bind fun q10 => (match q10 with | .inl _ => some true | .inr q2 => some q2))
theorem laws_eqSessReplyS_p (b0 : Bool) (b1 : Bool) {a0 : (List T_impl_SessReply)} {a1 : (List T_impl_SessReply)} {R0 : Bool} (H : laws_eqSessReplyS a0 a1 = some R0) : Pure Tryd.prog 10 [.im b0 (a0.map (c_T_impl_SessReply false)), .im b1 (a1.map (c_T_impl_SessReply false))] (.bool R0) := by
 refine CallT.of_TN (n := 27) Tryd.func10 rfl rfl rfl rfl ?_
 refine au 8 ?_
 refine TL.st rfl rfl rfl (o_lenL (f := c_T_impl_SessReply false) rfl rfl rfl) ?_
 refine TL.st rfl rfl rfl (o_move rfl rfl) ?_
 refine TL.st rfl rfl rfl (o_lenL (f := c_T_impl_SessReply false) rfl rfl rfl) ?_
 refine au 2 ?_
 refine T.cH H (fun H h => ?_) (fun H h => ?_)
 ·refine au 5 ?_
  refine thn_ret ?_
  cases some_i H
  exact ⟨trivial, _, (.tmp _ _ _ _ rfl .nil), (.cl _ rfl)⟩
 ·refine au 7 ?_
  obtain ⟨q10, h11, H⟩ := bind_s H
  refine T.lq (fun s => match s with | v1 => [(0, .im b0 (a0.map (c_T_impl_SessReply false))), (1, .im b1 (a1.map (c_T_impl_SessReply false))), (5, .int .i64 v1)]) (fun s => match s with | v1 => []) (fun q ex fr σ => match q with | .inl _ => ex = .exit 0 ∧ fr = [] ∧ σ = [] | .inr q2 => ex = .ret ∧ RetN Tryd.prog [.tmp 4] (fun v τ => Told τ v (.bool q2)) .ret fr σ) h11 ?_ ?_
  ·rintro v1 y3 H
   refine au 5 ?_
   refine TL.st rfl rfl rfl (o_lenL (f := c_T_impl_SessReply false) rfl rfl rfl) ?_
   refine au 2 ?_
   refine T.cH H (fun H h => ?_) (fun H h => ?_)
   ·refine au 4 ?_
    refine T.drawn rfl ?_
    refine ad 2 ?_
    obtain ⟨e4, h5, H⟩ := bind_s H
    refine TD.qs rfl rfl (fun _ => o_ix (f := c_T_impl_SessReply false) rfl rfl tyS_57 rfl rfl h5 rfl) ?_
    refine TD.qs rfl rfl (fun _ => o_loadRf rfl tyS_57 rfl (nb rfl) rfl) ?_
    refine ad 2 ?_
    obtain ⟨e6, h7, H⟩ := bind_s H
    refine TD.qs rfl rfl (fun _ => o_ix (f := c_T_impl_SessReply false) rfl rfl tyS_57 rfl rfl h7 rfl) ?_
    refine TD.qs rfl rfl (fun _ => o_loadRf rfl tyS_57 rfl (nb rfl) rfl) ?_
    obtain ⟨r8, h9, H⟩ := bind_s H
    refine TD.qs rfl rfl (fun _ => o_callP rfl en_28 rfl rfl (.cons _ _ _ _ (.cl _ rfl) (.cons _ _ _ _ (.cl _ rfl) .nil)) (laws_eqSessReply_p  h9)) ?_
    refine TD.qs rfl rfl (fun _ => o_not rfl rfl) ?_
    refine TD.nil ⟨rfl, ?_⟩
    refine thn_normal ?_
    refine T.cH H (fun H h => ?_) (fun H h => ?_)
    ·refine au 5 ?_
     refine inB_ret (thn_ret ?_)
     exact Pk.id (thn_ret ⟨.inr false, (some_i H).symm, rfl, ⟨trivial, _, (.tmp _ _ _ _ rfl .nil), (.cl _ rfl)⟩⟩)
    ·refine au 6 ?_
     exact Pk.of (thn_normal ⟨(IntKind.i64.wrap (v1 + 1)), (some_i H).symm, rfl, rfl⟩)
   ·refine T.exit ?_
    refine thn_exit ?_
    exact Pk.of (thn_exit ⟨.inl (), (some_i H).symm, rfl, rfl, rfl⟩)
  ·rcases q10 with ⟨⟩ | q2
   ·rintro _ _ _ ⟨rfl, rfl, rfl⟩
    refine inB_here ?_
    refine au 5 ?_
    cases some_i H
    exact ⟨trivial, _, (.tmp _ _ _ _ rfl .nil), (.cl _ rfl)⟩
   ·rintro _ fr1 σ1 ⟨rfl, hr⟩
    refine inB_ret (thn_ret ?_)
    cases some_i H
    exact hr
theorem en_10 : En Tryd.prog 10 := .of Tryd.func10 rfl rfl
noncomputable def laws_eqByteS_l1 (a0 : (List Int)) (a1 : (List Int)) : Int → Option (Int ⊕ (Unit ⊕ Bool)) := fun s => match s with
  | v1 => cond (decide (v1 < (a0.length : Int))) ((idx a0 v1).bind fun e4 => (idx a1 v1).bind fun e6 => cond (e4 != e6) (some (.inr (.inr false))) (some (.inl (IntKind.i64.wrap (v1 + 1))))) (some (.inr (.inl ())))
noncomputable def laws_eqByteS (a0 : (List Int)) (a1 : (List Int)) : Option Bool :=
  cond ((a0.length : Int) != (a1.length : Int)) (some false) ((loopO (laws_eqByteS_l1 a0 a1) 0).bind fun q8 => (match q8 with | .inl _ => some true | .inr q2 => some q2))
theorem laws_eqByteS_p (b0 : Bool) (b1 : Bool) {a0 : (List Int)} {a1 : (List Int)} {R0 : Bool} (H : laws_eqByteS a0 a1 = some R0) : Pure Tryd.prog 29 [.im b0 (a0.map (c_int .u8)), .im b1 (a1.map (c_int .u8))] (.bool R0) := by
 refine CallT.of_TN (n := 26) Tryd.func29 rfl rfl rfl rfl ?_
 refine au 8 ?_
 refine TL.st rfl rfl rfl (o_lenL (f := c_int .u8) rfl rfl rfl) ?_
 refine TL.st rfl rfl rfl (o_move rfl rfl) ?_
 refine TL.st rfl rfl rfl (o_lenL (f := c_int .u8) rfl rfl rfl) ?_
 refine au 2 ?_
 refine T.cH H (fun H h => ?_) (fun H h => ?_)
 ·refine au 5 ?_
  refine thn_ret ?_
  cases some_i H
  exact ⟨trivial, _, (.tmp _ _ _ _ rfl .nil), (.cl _ rfl)⟩
 ·refine au 7 ?_
  obtain ⟨q8, h9, H⟩ := bind_s H
  refine T.lq (fun s => match s with | v1 => [(0, .im b0 (a0.map (c_int .u8))), (1, .im b1 (a1.map (c_int .u8))), (5, .int .i64 v1)]) (fun s => match s with | v1 => []) (fun q ex fr σ => match q with | .inl _ => ex = .exit 0 ∧ fr = [] ∧ σ = [] | .inr q2 => ex = .ret ∧ RetN Tryd.prog [.tmp 4] (fun v τ => Told τ v (.bool q2)) .ret fr σ) h9 ?_ ?_
  ·rintro v1 y3 H
   refine au 5 ?_
   refine TL.st rfl rfl rfl (o_lenL (f := c_int .u8) rfl rfl rfl) ?_
   refine au 2 ?_
   refine T.cH H (fun H h => ?_) (fun H h => ?_)
   ·refine au 4 ?_
    refine T.drawn rfl ?_
    refine ad 2 ?_
    obtain ⟨e4, h5, H⟩ := bind_s H
    refine TD.qs rfl rfl (fun _ => o_ix (f := c_int .u8) rfl rfl tyS_5 rfl rfl h5 rfl) ?_
    refine TD.qs rfl rfl (fun _ => o_loadRf rfl tyS_5 rfl (nb rfl) rfl) ?_
    refine ad 2 ?_
    obtain ⟨e6, h7, H⟩ := bind_s H
    refine TD.qs rfl rfl (fun _ => o_ix (f := c_int .u8) rfl rfl tyS_5 rfl rfl h7 rfl) ?_
    refine TD.qs rfl rfl (fun _ => o_loadRf rfl tyS_5 rfl (nb rfl) rfl) ?_
    refine TD.qs rfl rfl (fun _ => o_ari rfl rfl rfl rfl) ?_
    refine TD.nil ⟨rfl, ?_⟩
    refine thn_normal ?_
    refine T.cH H (fun H h => ?_) (fun H h => ?_)
    ·refine au 5 ?_
     refine inB_ret (thn_ret ?_)
     exact Pk.id (thn_ret ⟨.inr false, (some_i H).symm, rfl, ⟨trivial, _, (.tmp _ _ _ _ rfl .nil), (.cl _ rfl)⟩⟩)
    ·refine au 6 ?_
     exact Pk.of (thn_normal ⟨(IntKind.i64.wrap (v1 + 1)), (some_i H).symm, rfl, rfl⟩)
   ·refine T.exit ?_
    refine thn_exit ?_
    exact Pk.of (thn_exit ⟨.inl (), (some_i H).symm, rfl, rfl, rfl⟩)
  ·rcases q8 with ⟨⟩ | q2
   ·rintro _ _ _ ⟨rfl, rfl, rfl⟩
    refine inB_here ?_
    refine au 5 ?_
    cases some_i H
    exact ⟨trivial, _, (.tmp _ _ _ _ rfl .nil), (.cl _ rfl)⟩
   ·rintro _ fr1 σ1 ⟨rfl, hr⟩
    refine inB_ret (thn_ret ?_)
    cases some_i H
    exact hr
theorem en_29 : En Tryd.prog 29 := .of Tryd.func29 rfl rfl
noncomputable def laws_eqSessConf (a0 : T_impl_SessConf) (a1 : T_impl_SessConf) : Option Bool :=
  (laws_eqByteS a0.Key_ a1.Key_).bind fun r1 => cond (!r1) (some false) (cond (a0.Idle_ != a1.Idle_) (some false) (cond (a0.Most_ != a1.Most_) (some false) (some true)))
theorem laws_eqSessConf_p (b0 : Bool) (b1 : Bool) {a0 : T_impl_SessConf} {a1 : T_impl_SessConf} {R0 : Bool} (H : laws_eqSessConf a0 a1 = some R0) : Pure Tryd.prog 11 [.agg (c_T_impl_SessConf b0 a0), .agg (c_T_impl_SessConf b1 a1)] (.bool R0) := by
 refine CallT.of_TN (n := 21) Tryd.func11 rfl rfl rfl rfl ?_
 refine au 13 ?_
 obtain ⟨r1, h2, H⟩ := bind_s H
 refine TL.st rfl rfl rfl (o_callP rfl en_29 rfl rfl (.cons _ _ _ _ (.imv _ _) (.cons _ _ _ _ (.imv _ _) .nil)) (laws_eqByteS_p b0 b1 h2)) ?_
 refine au 2 ?_
 refine T.cH H (fun H h => ?_) (fun H h => ?_)
 ·refine au 5 ?_
  refine thn_ret ?_
  cases some_i H
  exact ⟨trivial, _, (.tmp _ _ _ _ rfl .nil), (.cl _ rfl)⟩
 ·refine au 10 ?_
  refine T.cH H (fun H h => ?_) (fun H h => ?_)
  ·refine au 5 ?_
   refine thn_ret ?_
   cases some_i H
   exact ⟨trivial, _, (.tmp _ _ _ _ rfl .nil), (.cl _ rfl)⟩
  ·refine au 10 ?_
   refine T.cH H (fun H h => ?_) (fun H h => ?_)
   ·refine au 5 ?_
    refine thn_ret ?_
    cases some_i H
    exact ⟨trivial, _, (.tmp _ _ _ _ rfl .nil), (.cl _ rfl)⟩
   ·refine au 6 ?_
    cases some_i H
    exact ⟨trivial, _, (.tmp _ _ _ _ rfl .nil), (.cl _ rfl)⟩
theorem en_11 : En Tryd.prog 11 := .of Tryd.func11 rfl rfl
noncomputable def laws_eqSessEvent (a0 : T_impl_SessEvent) (a1 : T_impl_SessEvent) : Option Bool :=
  cond (a0.Kind_ != a1.Kind_) (some false) (cond (a0.Time_ != a1.Time_) (some false) (cond (!(a0.User_.toList == a1.User_.toList)) (some false) (cond (!(a0.Device_.toList == a1.Device_.toList)) (some false) (cond (!(a0.Id_.toList == a1.Id_.toList)) (some false) (some true)))))
theorem laws_eqSessEvent_p  {a0 : T_impl_SessEvent} {a1 : T_impl_SessEvent} {R0 : Bool} (H : laws_eqSessEvent a0 a1 = some R0) : Pure Tryd.prog 30 [.agg (c_T_impl_SessEvent false a0), .agg (c_T_impl_SessEvent false a1)] (.bool R0) := by
 refine CallT.of_TN (n := 30) Tryd.func30 rfl rfl rfl rfl ?_
 refine au 15 ?_
 refine T.cH H (fun H h => ?_) (fun H h => ?_)
 ·refine au 5 ?_
  refine thn_ret ?_
  cases some_i H
  exact ⟨trivial, _, (.tmp _ _ _ _ rfl .nil), (.cl _ rfl)⟩
 ·refine au 10 ?_
  refine T.cH H (fun H h => ?_) (fun H h => ?_)
  ·refine au 5 ?_
   refine thn_ret ?_
   cases some_i H
   exact ⟨trivial, _, (.tmp _ _ _ _ rfl .nil), (.cl _ rfl)⟩
  ·refine au 10 ?_
   refine T.cH H (fun H h => ?_) (fun H h => ?_)
   ·refine au 5 ?_
    refine thn_ret ?_
    cases some_i H
    exact ⟨trivial, _, (.tmp _ _ _ _ rfl .nil), (.cl _ rfl)⟩
   ·refine au 10 ?_
    refine T.cH H (fun H h => ?_) (fun H h => ?_)
    ·refine au 5 ?_
     refine thn_ret ?_
     cases some_i H
     exact ⟨trivial, _, (.tmp _ _ _ _ rfl .nil), (.cl _ rfl)⟩
    ·refine au 10 ?_
     refine T.cH H (fun H h => ?_) (fun H h => ?_)
     ·refine au 5 ?_
      refine thn_ret ?_
      cases some_i H
      exact ⟨trivial, _, (.tmp _ _ _ _ rfl .nil), (.cl _ rfl)⟩
     ·refine au 6 ?_
      cases some_i H
      exact ⟨trivial, _, (.tmp _ _ _ _ rfl .nil), (.cl _ rfl)⟩
theorem en_30 : En Tryd.prog 30 := .of Tryd.func30 rfl rfl
noncomputable def laws_eqSessEventS_l1 (a0 : (List T_impl_SessEvent)) (a1 : (List T_impl_SessEvent)) : Int → Option (Int ⊕ (Unit ⊕ Bool)) := fun s => match s with
  | v1 => cond (decide (v1 < (a0.length : Int))) ((idx a0 v1).bind fun e4 => (idx a1 v1).bind fun e6 => (laws_eqSessEvent e4 e6).bind fun r8 => cond (!r8) (some (.inr (.inr false))) (some (.inl (IntKind.i64.wrap (v1 + 1))))) (some (.inr (.inl ())))
noncomputable def laws_eqSessEventS (a0 : (List T_impl_SessEvent)) (a1 : (List T_impl_SessEvent)) : Option Bool :=
  cond ((a0.length : Int) != (a1.length : Int)) (some false) ((loopO (laws_eqSessEventS_l1 a0 a1) 0).bind fun q10 => (match q10 with | .inl _ => some true | .inr q2 => some q2))
theorem laws_eqSessEventS_p (b0 : Bool) (b1 : Bool) {a0 : (List T_impl_SessEvent)} {a1 : (List T_impl_SessEvent)} {R0 : Bool} (H : laws_eqSessEventS a0 a1 = some R0) : Pure Tryd.prog 12 [.im b0 (a0.map (c_T_impl_SessEvent false)), .im b1 (a1.map (c_T_impl_SessEvent false))] (.bool R0) := by
 refine CallT.of_TN (n := 27) Tryd.func12 rfl rfl rfl rfl ?_
 refine au 8 ?_
 refine TL.st rfl rfl rfl (o_lenL (f := c_T_impl_SessEvent false) rfl rfl rfl) ?_
 refine TL.st rfl rfl rfl (o_move rfl rfl) ?_
 refine TL.st rfl rfl rfl (o_lenL (f := c_T_impl_SessEvent false) rfl rfl rfl) ?_
 refine au 2 ?_
 refine T.cH H (fun H h => ?_) (fun H h => ?_)
 ·refine au 5 ?_
  refine thn_ret ?_
  cases some_i H
  exact ⟨trivial, _, (.tmp _ _ _ _ rfl .nil), (.cl _ rfl)⟩
 ·refine au 7 ?_
  obtain ⟨q10, h11, H⟩ := bind_s H
  refine T.lq (fun s => match s with | v1 => [(0, .im b0 (a0.map (c_T_impl_SessEvent false))), (1, .im b1 (a1.map (c_T_impl_SessEvent false))), (5, .int .i64 v1)]) (fun s => match s with | v1 => []) (fun q ex fr σ => match q with | .inl _ => ex = .exit 0 ∧ fr = [] ∧ σ = [] | .inr q2 => ex = .ret ∧ RetN Tryd.prog [.tmp 4] (fun v τ => Told τ v (.bool q2)) .ret fr σ) h11 ?_ ?_
  ·rintro v1 y3 H
   refine au 5 ?_
   refine TL.st rfl rfl rfl (o_lenL (f := c_T_impl_SessEvent false) rfl rfl rfl) ?_
   refine au 2 ?_
   refine T.cH H (fun H h => ?_) (fun H h => ?_)
   ·refine au 4 ?_
    refine T.drawn rfl ?_
    refine ad 2 ?_
    obtain ⟨e4, h5, H⟩ := bind_s H
    refine TD.qs rfl rfl (fun _ => o_ix (f := c_T_impl_SessEvent false) rfl rfl tyS_60 rfl rfl h5 rfl) ?_
    refine TD.qs rfl rfl (fun _ => o_loadRf rfl tyS_60 rfl (nb rfl) rfl) ?_
    refine ad 2 ?_
    obtain ⟨e6, h7, H⟩ := bind_s H
    refine TD.qs rfl rfl (fun _ => o_ix (f := c_T_impl_SessEvent false) rfl rfl tyS_60 rfl rfl h7 rfl) ?_
    refine TD.qs rfl rfl (fun _ => o_loadRf rfl tyS_60 rfl (nb rfl) rfl) ?_
    obtain ⟨r8, h9, H⟩ := bind_s H
    refine TD.qs rfl rfl (fun _ => o_callP rfl en_30 rfl rfl (.cons _ _ _ _ (.cl _ rfl) (.cons _ _ _ _ (.cl _ rfl) .nil)) (laws_eqSessEvent_p  h9)) ?_
    refine TD.qs rfl rfl (fun _ => o_not rfl rfl) ?_
    refine TD.nil ⟨rfl, ?_⟩
    refine thn_normal ?_
    refine T.cH H (fun H h => ?_) (fun H h => ?_)
    ·refine au 5 ?_
     refine inB_ret (thn_ret ?_)
     exact Pk.id (thn_ret ⟨.inr false, (some_i H).symm, rfl, ⟨trivial, _, (.tmp _ _ _ _ rfl .nil), (.cl _ rfl)⟩⟩)
    ·refine au 6 ?_
     exact Pk.of (thn_normal ⟨(IntKind.i64.wrap (v1 + 1)), (some_i H).symm, rfl, rfl⟩)
   ·refine T.exit ?_
    refine thn_exit ?_
    exact Pk.of (thn_exit ⟨.inl (), (some_i H).symm, rfl, rfl, rfl⟩)
  ·rcases q10 with ⟨⟩ | q2
   ·rintro _ _ _ ⟨rfl, rfl, rfl⟩
    refine inB_here ?_
    refine au 5 ?_
    cases some_i H
    exact ⟨trivial, _, (.tmp _ _ _ _ rfl .nil), (.cl _ rfl)⟩
   ·rintro _ fr1 σ1 ⟨rfl, hr⟩
    refine inB_ret (thn_ret ?_)
    cases some_i H
    exact hr
theorem en_12 : En Tryd.prog 12 := .of Tryd.func12 rfl rfl
theorem laws_toByteS_o (b0 : Bool) {a0 : (List Int)} {R0 : (List Int)} (H : laws_toByteS a0 = some R0) : OwnC Tryd.prog 23 [.im b0 (a0.map (c_int .u8))] 1 (R0.map (c_int .u8)) := by
 refine CallT.of_TN (n := 22) Tryd.func23 rfl rfl rfl rfl ?_
 refine au 7 ?_
 refine TL.st rfl rfl rfl (o_lenL (f := c_int .u8) rfl rfl rfl) ?_
 obtain ⟨l1, h2, H⟩ := bind_s H
 refine TL.st rfl rfl rfl (o_mk (f := c_int .u8) (z := 0) rfl rfl tyE_5 ⟨_, rfl, rfl⟩ rfl rfl h2) ?_
 refine au 8 ?_
 obtain ⟨l5, h12, H⟩ := bind_s H
 refine T.lq (fun s => match s with | (l3, v4) => [(0, .im b0 (a0.map (c_int .u8))), (3, .hd 0 (l3.map (c_int .u8)).length 0 (l3.map (c_int .u8)).length), (4, .int .i64 v4)]) (fun s => match s with | (l3, v4) => [.arr .clo 1 (l3.map (c_int .u8))]) (fun q ex fr σ => match q with | l5 => ex = .exit 0 ∧ fr = [(3, .hd 0 (l5.map (c_int .u8)).length 0 (l5.map (c_int .u8)).length)] ∧ σ = [.arr .clo 1 (l5.map (c_int .u8))]) h12 ?_ ?_
 ·rintro ⟨l3, v4⟩ y6 H
  refine au 5 ?_
  refine TL.st rfl rfl rfl (o_lenL (f := c_int .u8) rfl rfl rfl) ?_
  refine au 2 ?_
  refine T.cH H (fun H h => ?_) (fun H h => ?_)
  ·refine au 8 ?_
   obtain ⟨e7, h8, H⟩ := bind_s H
   refine TL.st rfl rfl rfl (o_ix (f := c_int .u8) rfl rfl tyS_5 rfl rfl h8 rfl) ?_
   refine TL.st rfl rfl rfl (o_loadRf rfl tyS_5 rfl (nb rfl) rfl) ?_
   obtain ⟨e9, h10, H⟩ := bind_s H
   refine TL.st rfl rfl rfl (o_ixh (f := c_int .u8) rfl rfl tyS_5 rfl rfl rfl rfl h10 rfl) ?_
   refine TL.sn rfl rfl (o_stEl (f := c_int .u8) (xs := l3) (k := v4) (a := e9) e7 rfl tyS_5 rfl rfl rfl rfl (by decide) h10 rfl rfl rfl (fun _ => rfl) rfl) ?_
   refine TL.conv (Cs.eqV (t := 3) (v' := .hd 0 ((l3.set (Int.toNat v4) e7).map (c_int .u8)).length 0 ((l3.set (Int.toNat v4) e7).map (c_int .u8)).length) rfl (hd_len _ (List.length_set ..))) ?_
   refine TL.conv (Cs.eqV (t := 14) (v' := .hd 0 ((l3.set (Int.toNat v4) e7).map (c_int .u8)).length 0 ((l3.set (Int.toNat v4) e7).map (c_int .u8)).length) rfl (hd_len _ (List.length_set ..))) ?_
   refine TL.conv (Cs.eqV (t := 20) (v' := .el 0 ((l3.set (Int.toNat v4) e7).map (c_int .u8)).length (Int.toNat v4) 0) rfl (el_len _ _ _ (List.length_set ..))) ?_
   refine au 6 ?_
   exact Pk.of (thn_normal ⟨((l3.set (Int.toNat v4) e7), (IntKind.i64.wrap (v4 + 1))), (some_i H).symm, rfl, rfl⟩)
  ·refine T.exit ?_
   refine thn_exit ?_
   exact Pk.of (thn_exit ⟨l3, (some_i H).symm, rfl, rfl, rfl⟩)
 ·rintro _ _ _ ⟨rfl, rfl, rfl⟩
  refine inB_here ?_
  refine au 6 ?_
  cases some_i H
  exact ⟨trivial, _, (.tmp _ _ _ _ rfl .nil), ⟨rfl, _, rfl⟩⟩
def k_impl_SessConf (a1 : Nat) (b : Bool) (x : T_impl_SessConf) : List V := [.hd a1 (x.Key_.map (c_int .u8)).length 0 (x.Key_.map (c_int .u8)).length, .int .i64 x.Idle_, .int .i64 x.Most_]
theorem laws_toSessConf_o (b0 : Bool) {a0 : T_laws_SessConf} {R0 : T_impl_SessConf} (H : laws_toSessConf a0 = some R0) : St Tryd.prog 7 [.agg (c_T_laws_SessConf b0 a0)] [] (.agg [.hd 0 (R0.Key_.map (c_int .u8)).length 0 (R0.Key_.map (c_int .u8)).length, .int .i64 R0.Idle_, .int .i64 R0.Most_]) [.arr .clo 1 (R0.Key_.map (c_int .u8))] := by
 refine CallT.finR (CallT.of_TN (n := 15) Tryd.func7 rfl rfl rfl rfl ?_) rfl rfl ⟨trivial, trivial⟩
 refine T.conv Cs.pushDead ?_
 refine T.conv (Cs.wkF (M := 1) (.k 0 rfl rfl .nil)) ?_
 refine T.conv (Cs.eqS (σ' := [.dead]) rfl) ?_
 refine au 10 ?_
 refine T.conv (Cs.eqS (σ' := [_, .box (c_T_laws_SessConf b0 a0), .box [.nilS, .int .i64 0, .int .i64 0], .box [.nilS, .int .i64 0, .int .i64 0]]) rfl) ?_
 refine au 3 ?_
 obtain ⟨r1, h2, H⟩ := bind_s H
 refine TL.st rfl rfl rfl (o_callOwn rfl en_23 rfl rfl (.cons _ _ _ _ (.imv _ _) .nil) (laws_toByteS_o b0 h2)) ?_
 refine TL.st rfl rfl rfl (o_fieldAddr rfl rfl rfl tyS_22 (by decide) rfl rfl ⟨_, rfl, Nat.le_of_ble_eq_true rfl⟩) ?_
 refine TL.sn rfl rfl (o_storeBx rfl tyS_22 rfl rfl rfl rfl (nb rfl) (sure_hd rfl rfl rfl)) ?_
 refine au 9 ?_
 refine T.conv (Cs.eqS (σ' := [_, _, _, .box (k_impl_SessConf 4 false (⟨r1, a0.Idle_, 0⟩ : T_impl_SessConf)), .arr .clo 1 (r1.map (c_int .u8))]) rfl) ?_
 refine au 9 ?_
 refine TL.sn rfl rfl (o_storeBx rfl tyS_30 rfl rfl rfl rfl (nb rfl) (sure_hd rfl rfl (sure_c rfl (sure_c rfl rfl)))) ?_
 refine TL.nil ?_
 refine T.conv (Cs.wkF (M := 5) (.k 2 rfl rfl .nil)) ?_
 refine T.conv (Cs.reloc 0 4 rfl rfl (by decide) rfl rfl rfl (nomS_get rfl)) ?_
 refine T.conv (Cs.wkF (M := 5) (.k 2 rfl rfl .nil)) ?_
 refine T.conv (Cs.eqS (σ' := [.arr .clo 1 (r1.map (c_int .u8)), _, .box (k_impl_SessConf 0 false (⟨r1, a0.Idle_, a0.Most_⟩ : T_impl_SessConf)), .box (k_impl_SessConf 0 false (⟨r1, a0.Idle_, a0.Most_⟩ : T_impl_SessConf)), .dead]) rfl) ?_
 refine T.ret ?_
 cases some_i H
 exact ⟨trivial, _, (.cell _ _ _ _ _ _ _ _ _ _ rfl rfl tyS_30 (nb rfl) rfl .nil), ⟨rfl, _, rfl⟩⟩
noncomputable def laws_markByteSx_l1  : (List Int × Int × Int) → Option ((List Int × Int × Int) ⊕ (List Int × Int)) := fun s => match s with
  | (l1, v2, v3) => cond (decide (v3 < (l1.length : Int))) ((idx l1 v3).bind fun e7 => some (.inl ((l1.set (Int.toNat v3) (IntKind.u8.wrap v2)), (IntKind.i64.wrap (v2 + 1)), (IntKind.i64.wrap (v3 + 1))))) (some (.inr (l1, v2)))
noncomputable def laws_markByteSx (a0 : Int) (s0 : List Int) : Option (Int × List Int) :=
  (loopO (laws_markByteSx_l1) (s0, a0, 0)).bind fun q9 => (match q9 with | (l4, v5) => some (v5, l4))
theorem laws_markByteSx_p  {a0 : Int} {s0 : List Int} {R0 : Int} {U0 : List Int} (H : laws_markByteSx a0 s0 = some (R0, U0)) : St Tryd.prog 31 [.hd 0 (s0.map (c_int .u8)).length 0 (s0.map (c_int .u8)).length, .int .i64 a0] [.arr .clo 1 (s0.map (c_int .u8))] (.int .i64 R0) [.arr .clo 1 (U0.map (c_int .u8))] := by
 refine CallT.fin (CallT.of_TN (n := 20) Tryd.func31 rfl rfl rfl rfl ?_) rfl rfl ⟨trivial, trivial⟩
 refine au 10 ?_
 obtain ⟨q9, h10, H⟩ := bind_s H
 refine T.lq (fun s => match s with | (l1, v2, v3) => [(0, .hd 0 (l1.map (c_int .u8)).length 0 (l1.map (c_int .u8)).length), (1, .int .i64 v2), (5, .int .i64 v3)]) (fun s => match s with | (l1, v2, v3) => [.arr .clo 1 (l1.map (c_int .u8))]) (fun q ex fr σ => match q with | (l4, v5) => ex = .exit 0 ∧ fr = [(1, .int .i64 v5)] ∧ σ = [.arr .clo 1 (l4.map (c_int .u8))]) h10 ?_ ?_
 ·rintro ⟨l1, v2, v3⟩ y6 H
  refine au 5 ?_
  refine TL.st rfl rfl rfl (o_lenOwn (f := c_int .u8) rfl rfl rfl rfl rfl) ?_
  refine au 2 ?_
  refine T.cH H (fun H h => ?_) (fun H h => ?_)
  ·refine au 8 ?_
   refine TL.st rfl rfl rfl (o_conv rfl rfl ⟨_, rfl⟩ rfl) ?_
   obtain ⟨e7, h8, H⟩ := bind_s H
   refine TL.st rfl rfl rfl (o_ixh (f := c_int .u8) rfl rfl tyS_5 rfl rfl rfl rfl h8 rfl) ?_
   refine TL.sn rfl rfl (o_stEl (f := c_int .u8) (xs := l1) (k := v3) (a := e7) (IntKind.u8.wrap v2) rfl tyS_5 rfl rfl rfl rfl (by decide) h8 rfl rfl rfl (fun _ => rfl) rfl) ?_
   refine TL.conv (Cs.eqV (t := 0) (v' := .hd 0 ((l1.set (Int.toNat v3) (IntKind.u8.wrap v2)).map (c_int .u8)).length 0 ((l1.set (Int.toNat v3) (IntKind.u8.wrap v2)).map (c_int .u8)).length) rfl (hd_len _ (List.length_set ..))) ?_
   refine TL.conv (Cs.eqV (t := 7) (v' := .hd 0 ((l1.set (Int.toNat v3) (IntKind.u8.wrap v2)).map (c_int .u8)).length 0 ((l1.set (Int.toNat v3) (IntKind.u8.wrap v2)).map (c_int .u8)).length) rfl (hd_len _ (List.length_set ..))) ?_
   refine TL.conv (Cs.eqV (t := 12) (v' := .hd 0 ((l1.set (Int.toNat v3) (IntKind.u8.wrap v2)).map (c_int .u8)).length 0 ((l1.set (Int.toNat v3) (IntKind.u8.wrap v2)).map (c_int .u8)).length) rfl (hd_len _ (List.length_set ..))) ?_
   refine TL.conv (Cs.eqV (t := 16) (v' := .el 0 ((l1.set (Int.toNat v3) (IntKind.u8.wrap v2)).map (c_int .u8)).length (Int.toNat v3) 0) rfl (el_len _ _ _ (List.length_set ..))) ?_
   refine au 11 ?_
   exact Pk.of (thn_normal ⟨((l1.set (Int.toNat v3) (IntKind.u8.wrap v2)), (IntKind.i64.wrap (v2 + 1)), (IntKind.i64.wrap (v3 + 1))), (some_i H).symm, rfl, rfl⟩)
  ·refine T.exit ?_
   refine thn_exit ?_
   exact Pk.of (thn_exit ⟨(l1, v2), (some_i H).symm, rfl, rfl, rfl⟩)
 ·rcases q9 with ⟨l4, v5⟩
  rintro _ _ _ ⟨rfl, rfl, rfl⟩
  refine inB_here ?_
  refine au 6 ?_
  cases some_i H
  exact ⟨trivial, _, (.tmp _ _ _ _ rfl .nil), ⟨rfl, _, rfl⟩⟩
theorem en_31 : En Tryd.prog 31 := .of Tryd.func31 rfl rfl
noncomputable def laws_markSessConfx (a0 : T_impl_SessConf) (a1 : Int) : Option (Int × List Int) :=
  (laws_markByteSx a1 a0.Key_).bind fun q => (match q with | (r1, o2) => (lenEq o2 a0.Key_).bind fun u4 => some (r1, o2))
theorem laws_markSessConfx_p  {a0 : T_impl_SessConf} {a1 : Int} {R0 : Int} {U0 : List Int} (H : laws_markSessConfx a0 a1 = some (R0, U0)) : St Tryd.prog 13 [.agg [.hd 0 (a0.Key_.map (c_int .u8)).length 0 (a0.Key_.map (c_int .u8)).length, .int .i64 a0.Idle_, .int .i64 a0.Most_], .int .i64 a1] [.arr .clo 1 (a0.Key_.map (c_int .u8))] (.int .i64 R0) [.arr .clo 1 (U0.map (c_int .u8))] := by
 refine CallT.fin (CallT.of_TN (n := 10) Tryd.func13 rfl rfl rfl rfl ?_) rfl rfl ⟨trivial, trivial⟩
 refine au 2 ?_
 refine TL.st rfl rfl rfl (o_box rfl rfl (sure_hd rfl rfl (sure_c rfl (sure_c rfl rfl)))) ?_
 refine au 7 ?_
 obtain ⟨⟨r1, o2⟩, h3, H⟩ := bind_s H
 obtain ⟨u4, h5, H⟩ := bind_s H
 refine TL.st rfl rfl rfl (o_callS [0] rfl en_31 rfl rfl (laws_markByteSx_p  h3) rfl (by decide) (.cons _ _ _ _ rfl .nil) rfl rfl rfl) ?_
 refine TL.conv (Cs.eqV (t := 6) (v' := .hd 0 (o2.map (c_int .u8)).length 0 (o2.map (c_int .u8)).length) rfl (hd_len _ (lenEq_s h5))) ?_
 refine au 8 ?_
 cases some_i H
 exact ⟨trivial, _, (.tmp _ _ _ _ rfl .nil), ⟨rfl, _, rfl⟩⟩
theorem en_13 : En Tryd.prog 13 := .of Tryd.func13 rfl rfl
theorem laws_toSessEventS_o (b0 : Bool) {a0 : (List T_laws_SessEvent)} {R0 : (List T_impl_SessEvent)} (H : laws_toSessEventS a0 = some R0) : OwnC Tryd.prog 8 [.im b0 (a0.map (c_T_laws_SessEvent false))] 5 (R0.map (c_T_impl_SessEvent false)) := by
 refine CallT.of_TN (n := 23) Tryd.func8 rfl rfl rfl rfl ?_
 refine au 7 ?_
 refine TL.st rfl rfl rfl (o_lenL (f := c_T_laws_SessEvent false) rfl rfl rfl) ?_
 obtain ⟨l1, h2, H⟩ := bind_s H
 refine TL.st rfl rfl rfl (o_mk (f := c_T_impl_SessEvent false) (z := (⟨0, 0, e0, e0, e0⟩ : T_impl_SessEvent)) rfl rfl tyE_60 ⟨_, rfl, rfl⟩ rfl rfl h2) ?_
 refine au 8 ?_
 obtain ⟨l5, h14, H⟩ := bind_s H
 refine T.lq (fun s => match s with | (l3, v4) => [(0, .im b0 (a0.map (c_T_laws_SessEvent false))), (3, .hd 0 (l3.map (c_T_impl_SessEvent false)).length 0 (l3.map (c_T_impl_SessEvent false)).length), (4, .int .i64 v4)]) (fun s => match s with | (l3, v4) => [.arr .clo 5 (l3.map (c_T_impl_SessEvent false))]) (fun q ex fr σ => match q with | l5 => ex = .exit 0 ∧ fr = [(3, .hd 0 (l5.map (c_T_impl_SessEvent false)).length 0 (l5.map (c_T_impl_SessEvent false)).length)] ∧ σ = [.arr .clo 5 (l5.map (c_T_impl_SessEvent false))]) h14 ?_ ?_
 ·rintro ⟨l3, v4⟩ y6 H
  refine au 5 ?_
  refine TL.st rfl rfl rfl (o_lenL (f := c_T_laws_SessEvent false) rfl rfl rfl) ?_
  refine au 2 ?_
  refine T.cH H (fun H h => ?_) (fun H h => ?_)
  ·refine au 8 ?_
   obtain ⟨e7, h8, H⟩ := bind_s H
   refine TL.st rfl rfl rfl (o_ix (f := c_T_laws_SessEvent false) rfl rfl tyS_44 rfl rfl h8 rfl) ?_
   refine TL.st rfl rfl rfl (o_loadRf rfl tyS_44 rfl (nb rfl) rfl) ?_
   obtain ⟨r9, h10, H⟩ := bind_s H
   refine TL.st rfl rfl rfl (o_callP rfl en_24 rfl rfl (.cons _ _ _ _ (.cl _ rfl) .nil) (laws_toSessEvent_p  h10)) ?_
   obtain ⟨e11, h12, H⟩ := bind_s H
   refine TL.st rfl rfl rfl (o_ixh (f := c_T_impl_SessEvent false) rfl rfl tyS_60 rfl rfl rfl rfl h12 rfl) ?_
   refine TL.sn rfl rfl (o_stEl (f := c_T_impl_SessEvent false) (xs := l3) (k := v4) (a := e11) r9 rfl tyS_60 rfl rfl rfl rfl (by decide) h12 rfl rfl rfl (fun _ => rfl) rfl) ?_
   refine TL.conv (Cs.eqV (t := 3) (v' := .hd 0 ((l3.set (Int.toNat v4) r9).map (c_T_impl_SessEvent false)).length 0 ((l3.set (Int.toNat v4) r9).map (c_T_impl_SessEvent false)).length) rfl (hd_len _ (List.length_set ..))) ?_
   refine TL.conv (Cs.eqV (t := 14) (v' := .hd 0 ((l3.set (Int.toNat v4) r9).map (c_T_impl_SessEvent false)).length 0 ((l3.set (Int.toNat v4) r9).map (c_T_impl_SessEvent false)).length) rfl (hd_len _ (List.length_set ..))) ?_
   refine TL.conv (Cs.eqV (t := 21) (v' := .el 0 ((l3.set (Int.toNat v4) r9).map (c_T_impl_SessEvent false)).length (Int.toNat v4) 0) rfl (el_len _ _ _ (List.length_set ..))) ?_
   refine au 6 ?_
   exact Pk.of (thn_normal ⟨((l3.set (Int.toNat v4) r9), (IntKind.i64.wrap (v4 + 1))), (some_i H).symm, rfl, rfl⟩)
  ·refine T.exit ?_
   refine thn_exit ?_
   exact Pk.of (thn_exit ⟨l3, (some_i H).symm, rfl, rfl, rfl⟩)
 ·rintro _ _ _ ⟨rfl, rfl, rfl⟩
  refine inB_here ?_
  refine au 6 ?_
  cases some_i H
  exact ⟨trivial, _, (.tmp _ _ _ _ rfl .nil), ⟨rfl, _, rfl⟩⟩
noncomputable def laws_markText_l1  : (Int × ByteArray) → Option ((Int × ByteArray) ⊕ ByteArray) := fun s => match s with
  | (v1, v2) => cond (decide (v1 > 0)) ((cat (byS ([(IntKind.u8.wrap (IntKind.i64.wrap (48 + (Int.tmod v1 10))))] : List Int)) v2).bind fun s7 => some (.inl ((IntKind.i64.wrap (Int.tdiv v1 10)), s7))) (some (.inr v2))
noncomputable def laws_markText (a0 : Int) : Option ByteArray :=
  cond (decide (a0 ≤ 0)) (some (ByteArray.mk #[109, 48])) ((loopO (laws_markText_l1) (a0, e0)).bind fun v3 => (match v3 with | v3 => (cat (ByteArray.mk #[109]) v3).bind fun s4 => some s4))
theorem laws_markText_p  {a0 : Int} {R0 : ByteArray} (H : laws_markText a0 = some R0) : Pure Tryd.prog 32 [.int .i64 a0] (.str R0) := by
 refine CallT.of_TN (n := 20) Tryd.func32 rfl rfl rfl rfl ?_
 refine au 10 ?_
 refine T.cH H (fun H h => ?_) (fun H h => ?_)
 ·refine au 5 ?_
  refine thn_ret ?_
  cases some_i H
  exact ⟨trivial, _, (.tmp _ _ _ _ rfl .nil), (.cl _ rfl)⟩
 ·refine au 7 ?_
  obtain ⟨v3, h10, H⟩ := bind_s H
  refine T.lq (fun s => match s with | (v1, v2) => [(0, .int .i64 v1), (3, .str v2)]) (fun s => match s with | (v1, v2) => []) (fun q ex fr σ => match q with | v3 => ex = .exit 0 ∧ fr = [(3, .str v3)] ∧ σ = []) h10 ?_ ?_
  ·rintro ⟨v1, v2⟩ y6 H
   refine au 6 ?_
   refine T.cH H (fun H h => ?_) (fun H h => ?_)
   ·refine au 5 ?_
    refine TL.st rfl rfl rfl (o_rem rfl rfl rfl (by decide)) ?_
    refine TL.st rfl rfl rfl (o_ari rfl rfl rfl rfl) ?_
    refine TL.st rfl rfl rfl (o_conv rfl rfl ⟨_, rfl⟩ rfl) ?_
    refine TL.st rfl rfl rfl (o_sliceIm (rows := ([(IntKind.u8.wrap (IntKind.i64.wrap (48 + (Int.tmod v1 10))))] : List Int).map (c_int .u8)) rfl rfl tyS_5 ⟨_, rfl, rfl⟩ (by decide) rfl rfl rfl rfl rfl rfl) ?_
    refine TL.st rfl rfl rfl (o_bs (f := c_int .u8) (ns := ([(IntKind.u8.wrap (IntKind.i64.wrap (48 + (Int.tmod v1 10))))] : List Int)) rfl rfl rfl rfl (fun _ => rfl) rfl) ?_
    refine TL.st rfl rfl rfl (o_move rfl rfl) ?_
    obtain ⟨s7, h8, H⟩ := bind_s H
    refine TL.st rfl rfl rfl (o_ct rfl rfl rfl h8) ?_
    refine au 4 ?_
    refine TL.st rfl rfl rfl (o_quo rfl rfl rfl (by decide)) ?_
    refine au 2 ?_
    refine inB_normal ?_
    exact Pk.of (thn_normal ⟨((IntKind.i64.wrap (Int.tdiv v1 10)), s7), (some_i H).symm, rfl, rfl⟩)
   ·refine T.exit ?_
    refine thn_exit ?_
    exact Pk.of (thn_exit ⟨v2, (some_i H).symm, rfl, rfl, rfl⟩)
  ·rintro _ _ _ ⟨rfl, rfl, rfl⟩
   refine inB_here ?_
   refine au 3 ?_
   obtain ⟨s4, h5, H⟩ := bind_s H
   refine TL.st rfl rfl rfl (o_ct rfl rfl rfl h5) ?_
   refine au 3 ?_
   cases some_i H
   exact ⟨trivial, _, (.tmp _ _ _ _ rfl .nil), (.cl _ rfl)⟩
theorem en_32 : En Tryd.prog 32 := .of Tryd.func32 rfl rfl
noncomputable def laws_markSessEventSx_l1  : (List T_impl_SessEvent × Int × Int) → Option ((List T_impl_SessEvent × Int × Int) ⊕ (List T_impl_SessEvent × Int)) := fun s => match s with
  | (l1, v2, v3) => cond (decide (v3 < (l1.length : Int))) ((idx l1 v3).bind fun e7 => (idx (l1.set (Int.toNat v3) ({ e7 with Kind_ := v2 } : T_impl_SessEvent)) v3).bind fun e9 => (laws_markText (IntKind.i64.wrap ((IntKind.i64.wrap (v2 + 1)) + 1))).bind fun r11 => (idx ((l1.set (Int.toNat v3) ({ e7 with Kind_ := v2 } : T_impl_SessEvent)).set (Int.toNat v3) ({ e9 with Time_ := (IntKind.i64.wrap (v2 + 1)) } : T_impl_SessEvent)) v3).bind fun e13 => (laws_markText (IntKind.i64.wrap ((IntKind.i64.wrap ((IntKind.i64.wrap (v2 + 1)) + 1)) + 1))).bind fun r15 => (idx (((l1.set (Int.toNat v3) ({ e7 with Kind_ := v2 } : T_impl_SessEvent)).set (Int.toNat v3) ({ e9 with Time_ := (IntKind.i64.wrap (v2 + 1)) } : T_impl_SessEvent)).set (Int.toNat v3) ({ e13 with User_ := r11 } : T_impl_SessEvent)) v3).bind fun e17 => (laws_markText (IntKind.i64.wrap ((IntKind.i64.wrap ((IntKind.i64.wrap ((IntKind.i64.wrap (v2 + 1)) + 1)) + 1)) + 1))).bind fun r19 => (idx ((((l1.set (Int.toNat v3) ({ e7 with Kind_ := v2 } : T_impl_SessEvent)).set (Int.toNat v3) ({ e9 with Time_ := (IntKind.i64.wrap (v2 + 1)) } : T_impl_SessEvent)).set (Int.toNat v3) ({ e13 with User_ := r11 } : T_impl_SessEvent)).set (Int.toNat v3) ({ e17 with Device_ := r15 } : T_impl_SessEvent)) v3).bind fun e21 => some (.inl ((((((l1.set (Int.toNat v3) ({ e7 with Kind_ := v2 } : T_impl_SessEvent)).set (Int.toNat v3) ({ e9 with Time_ := (IntKind.i64.wrap (v2 + 1)) } : T_impl_SessEvent)).set (Int.toNat v3) ({ e13 with User_ := r11 } : T_impl_SessEvent)).set (Int.toNat v3) ({ e17 with Device_ := r15 } : T_impl_SessEvent)).set (Int.toNat v3) ({ e21 with Id_ := r19 } : T_impl_SessEvent)), (IntKind.i64.wrap ((IntKind.i64.wrap ((IntKind.i64.wrap ((IntKind.i64.wrap ((IntKind.i64.wrap (v2 + 1)) + 1)) + 1)) + 1)) + 1)), (IntKind.i64.wrap (v3 + 1))))) (some (.inr (l1, v2)))
noncomputable def laws_markSessEventSx (a0 : Int) (s0 : List T_impl_SessEvent) : Option (Int × List T_impl_SessEvent) :=
  (loopO (laws_markSessEventSx_l1) (s0, a0, 0)).bind fun q23 => (match q23 with | (l4, v5) => some (v5, l4))
theorem laws_markSessEventSx_p  {a0 : Int} {s0 : List T_impl_SessEvent} {R0 : Int} {U0 : List T_impl_SessEvent} (H : laws_markSessEventSx a0 s0 = some (R0, U0)) : St Tryd.prog 14 [.hd 0 (s0.map (c_T_impl_SessEvent false)).length 0 (s0.map (c_T_impl_SessEvent false)).length, .int .i64 a0] [.arr .clo 5 (s0.map (c_T_impl_SessEvent false))] (.int .i64 R0) [.arr .clo 5 (U0.map (c_T_impl_SessEvent false))] := by
 refine CallT.fin (CallT.of_TN (n := 51) Tryd.func14 rfl rfl rfl rfl ?_) rfl rfl ⟨trivial, trivial⟩
 refine au 10 ?_
 obtain ⟨q23, h24, H⟩ := bind_s H
 refine T.lq (fun s => match s with | (l1, v2, v3) => [(0, .hd 0 (l1.map (c_T_impl_SessEvent false)).length 0 (l1.map (c_T_impl_SessEvent false)).length), (1, .int .i64 v2), (5, .int .i64 v3)]) (fun s => match s with | (l1, v2, v3) => [.arr .clo 5 (l1.map (c_T_impl_SessEvent false))]) (fun q ex fr σ => match q with | (l4, v5) => ex = .exit 0 ∧ fr = [(1, .int .i64 v5)] ∧ σ = [.arr .clo 5 (l4.map (c_T_impl_SessEvent false))]) h24 ?_ ?_
 ·rintro ⟨l1, v2, v3⟩ y6 H
  refine au 5 ?_
  refine TL.st rfl rfl rfl (o_lenOwn (f := c_T_impl_SessEvent false) rfl rfl rfl rfl rfl) ?_
  refine au 2 ?_
  refine T.cH H (fun H h => ?_) (fun H h => ?_)
  ·refine au 8 ?_
   obtain ⟨e7, h8, H⟩ := bind_s H
   refine TL.st rfl rfl rfl (o_ixh (f := c_T_impl_SessEvent false) rfl rfl tyS_60 rfl rfl rfl rfl h8 rfl) ?_
   refine TL.st rfl rfl rfl (o_fieldAddrEl rfl rfl rfl tyS_3 (by decide) rfl rfl rfl) ?_
   refine TL.sn rfl rfl (o_stEl (f := c_T_impl_SessEvent false) (xs := l1) (k := v3) (a := e7) ({ e7 with Kind_ := v2 } : T_impl_SessEvent) rfl tyS_3 rfl rfl rfl rfl (by decide) h8 rfl rfl rfl (fun _ => rfl) rfl) ?_
   refine TL.conv (Cs.eqV (t := 0) (v' := .hd 0 ((l1.set (Int.toNat v3) ({ e7 with Kind_ := v2 } : T_impl_SessEvent)).map (c_T_impl_SessEvent false)).length 0 ((l1.set (Int.toNat v3) ({ e7 with Kind_ := v2 } : T_impl_SessEvent)).map (c_T_impl_SessEvent false)).length) rfl (hd_len _ (List.length_set ..))) ?_
   refine TL.conv (Cs.eqV (t := 7) (v' := .hd 0 ((l1.set (Int.toNat v3) ({ e7 with Kind_ := v2 } : T_impl_SessEvent)).map (c_T_impl_SessEvent false)).length 0 ((l1.set (Int.toNat v3) ({ e7 with Kind_ := v2 } : T_impl_SessEvent)).map (c_T_impl_SessEvent false)).length) rfl (hd_len _ (List.length_set ..))) ?_
   refine TL.conv (Cs.eqV (t := 12) (v' := .hd 0 ((l1.set (Int.toNat v3) ({ e7 with Kind_ := v2 } : T_impl_SessEvent)).map (c_T_impl_SessEvent false)).length 0 ((l1.set (Int.toNat v3) ({ e7 with Kind_ := v2 } : T_impl_SessEvent)).map (c_T_impl_SessEvent false)).length) rfl (hd_len _ (List.length_set ..))) ?_
   refine TL.conv (Cs.eqV (t := 15) (v' := .el 0 ((l1.set (Int.toNat v3) ({ e7 with Kind_ := v2 } : T_impl_SessEvent)).map (c_T_impl_SessEvent false)).length (Int.toNat v3) 0) rfl (el_len _ _ _ (List.length_set ..))) ?_
   refine TL.conv (Cs.eqV (t := 16) (v' := .el 0 ((l1.set (Int.toNat v3) ({ e7 with Kind_ := v2 } : T_impl_SessEvent)).map (c_T_impl_SessEvent false)).length (Int.toNat v3) 0) rfl (el_len _ _ _ (List.length_set ..))) ?_
   refine au 12 ?_
   obtain ⟨e9, h10, H⟩ := bind_s H
   refine TL.st rfl rfl rfl (o_ixh (f := c_T_impl_SessEvent false) rfl rfl tyS_60 rfl rfl rfl rfl h10 rfl) ?_
   refine TL.st rfl rfl rfl (o_fieldAddrEl rfl rfl rfl tyS_3 (by decide) rfl rfl rfl) ?_
   refine TL.sn rfl rfl (o_stEl (f := c_T_impl_SessEvent false) (xs := (l1.set (Int.toNat v3) ({ e7 with Kind_ := v2 } : T_impl_SessEvent))) (k := v3) (a := e9) ({ e9 with Time_ := (IntKind.i64.wrap (v2 + 1)) } : T_impl_SessEvent) rfl tyS_3 rfl rfl rfl rfl (by decide) h10 rfl rfl rfl (fun _ => rfl) rfl) ?_
   refine TL.conv (Cs.eqV (t := 0) (v' := .hd 0 (((l1.set (Int.toNat v3) ({ e7 with Kind_ := v2 } : T_impl_SessEvent)).set (Int.toNat v3) ({ e9 with Time_ := (IntKind.i64.wrap (v2 + 1)) } : T_impl_SessEvent)).map (c_T_impl_SessEvent false)).length 0 (((l1.set (Int.toNat v3) ({ e7 with Kind_ := v2 } : T_impl_SessEvent)).set (Int.toNat v3) ({ e9 with Time_ := (IntKind.i64.wrap (v2 + 1)) } : T_impl_SessEvent)).map (c_T_impl_SessEvent false)).length) rfl (hd_len _ (List.length_set ..))) ?_
   refine TL.conv (Cs.eqV (t := 7) (v' := .hd 0 (((l1.set (Int.toNat v3) ({ e7 with Kind_ := v2 } : T_impl_SessEvent)).set (Int.toNat v3) ({ e9 with Time_ := (IntKind.i64.wrap (v2 + 1)) } : T_impl_SessEvent)).map (c_T_impl_SessEvent false)).length 0 (((l1.set (Int.toNat v3) ({ e7 with Kind_ := v2 } : T_impl_SessEvent)).set (Int.toNat v3) ({ e9 with Time_ := (IntKind.i64.wrap (v2 + 1)) } : T_impl_SessEvent)).map (c_T_impl_SessEvent false)).length) rfl (hd_len _ (List.length_set ..))) ?_
   refine TL.conv (Cs.eqV (t := 12) (v' := .hd 0 (((l1.set (Int.toNat v3) ({ e7 with Kind_ := v2 } : T_impl_SessEvent)).set (Int.toNat v3) ({ e9 with Time_ := (IntKind.i64.wrap (v2 + 1)) } : T_impl_SessEvent)).map (c_T_impl_SessEvent false)).length 0 (((l1.set (Int.toNat v3) ({ e7 with Kind_ := v2 } : T_impl_SessEvent)).set (Int.toNat v3) ({ e9 with Time_ := (IntKind.i64.wrap (v2 + 1)) } : T_impl_SessEvent)).map (c_T_impl_SessEvent false)).length) rfl (hd_len _ (List.length_set ..))) ?_
   refine TL.conv (Cs.eqV (t := 15) (v' := .el 0 (((l1.set (Int.toNat v3) ({ e7 with Kind_ := v2 } : T_impl_SessEvent)).set (Int.toNat v3) ({ e9 with Time_ := (IntKind.i64.wrap (v2 + 1)) } : T_impl_SessEvent)).map (c_T_impl_SessEvent false)).length (Int.toNat v3) 0) rfl (el_len _ _ _ (List.length_set ..))) ?_
   refine TL.conv (Cs.eqV (t := 16) (v' := .el 0 (((l1.set (Int.toNat v3) ({ e7 with Kind_ := v2 } : T_impl_SessEvent)).set (Int.toNat v3) ({ e9 with Time_ := (IntKind.i64.wrap (v2 + 1)) } : T_impl_SessEvent)).map (c_T_impl_SessEvent false)).length (Int.toNat v3) 0) rfl (el_len _ _ _ (List.length_set ..))) ?_
   refine TL.conv (Cs.eqV (t := 19) (v' := .hd 0 (((l1.set (Int.toNat v3) ({ e7 with Kind_ := v2 } : T_impl_SessEvent)).set (Int.toNat v3) ({ e9 with Time_ := (IntKind.i64.wrap (v2 + 1)) } : T_impl_SessEvent)).map (c_T_impl_SessEvent false)).length 0 (((l1.set (Int.toNat v3) ({ e7 with Kind_ := v2 } : T_impl_SessEvent)).set (Int.toNat v3) ({ e9 with Time_ := (IntKind.i64.wrap (v2 + 1)) } : T_impl_SessEvent)).map (c_T_impl_SessEvent false)).length) rfl (hd_len _ (List.length_set ..))) ?_
   refine TL.conv (Cs.eqV (t := 22) (v' := .el 0 (((l1.set (Int.toNat v3) ({ e7 with Kind_ := v2 } : T_impl_SessEvent)).set (Int.toNat v3) ({ e9 with Time_ := (IntKind.i64.wrap (v2 + 1)) } : T_impl_SessEvent)).map (c_T_impl_SessEvent false)).length (Int.toNat v3) 0) rfl (el_len _ _ _ (List.length_set ..))) ?_
   refine TL.conv (Cs.eqV (t := 23) (v' := .el 0 (((l1.set (Int.toNat v3) ({ e7 with Kind_ := v2 } : T_impl_SessEvent)).set (Int.toNat v3) ({ e9 with Time_ := (IntKind.i64.wrap (v2 + 1)) } : T_impl_SessEvent)).map (c_T_impl_SessEvent false)).length (Int.toNat v3) 1) rfl (el_len _ _ _ (List.length_set ..))) ?_
   refine au 12 ?_
   obtain ⟨r11, h12, H⟩ := bind_s H
   refine TL.st rfl rfl rfl (o_callP rfl en_32 rfl rfl (.cons _ _ _ _ (.cl _ rfl) .nil) (laws_markText_p  h12)) ?_
   obtain ⟨e13, h14, H⟩ := bind_s H
   refine TL.st rfl rfl rfl (o_ixh (f := c_T_impl_SessEvent false) rfl rfl tyS_60 rfl rfl rfl rfl h14 rfl) ?_
   refine TL.st rfl rfl rfl (o_fieldAddrEl rfl rfl rfl tyS_9 (by decide) rfl rfl rfl) ?_
   refine TL.sn rfl rfl (o_stEl (f := c_T_impl_SessEvent false) (xs := ((l1.set (Int.toNat v3) ({ e7 with Kind_ := v2 } : T_impl_SessEvent)).set (Int.toNat v3) ({ e9 with Time_ := (IntKind.i64.wrap (v2 + 1)) } : T_impl_SessEvent))) (k := v3) (a := e13) ({ e13 with User_ := r11 } : T_impl_SessEvent) rfl tyS_9 rfl rfl rfl rfl (by decide) h14 rfl rfl rfl (fun _ => rfl) rfl) ?_
   refine TL.conv (Cs.eqV (t := 0) (v' := .hd 0 ((((l1.set (Int.toNat v3) ({ e7 with Kind_ := v2 } : T_impl_SessEvent)).set (Int.toNat v3) ({ e9 with Time_ := (IntKind.i64.wrap (v2 + 1)) } : T_impl_SessEvent)).set (Int.toNat v3) ({ e13 with User_ := r11 } : T_impl_SessEvent)).map (c_T_impl_SessEvent false)).length 0 ((((l1.set (Int.toNat v3) ({ e7 with Kind_ := v2 } : T_impl_SessEvent)).set (Int.toNat v3) ({ e9 with Time_ := (IntKind.i64.wrap (v2 + 1)) } : T_impl_SessEvent)).set (Int.toNat v3) ({ e13 with User_ := r11 } : T_impl_SessEvent)).map (c_T_impl_SessEvent false)).length) rfl (hd_len _ (List.length_set ..))) ?_
   refine TL.conv (Cs.eqV (t := 7) (v' := .hd 0 ((((l1.set (Int.toNat v3) ({ e7 with Kind_ := v2 } : T_impl_SessEvent)).set (Int.toNat v3) ({ e9 with Time_ := (IntKind.i64.wrap (v2 + 1)) } : T_impl_SessEvent)).set (Int.toNat v3) ({ e13 with User_ := r11 } : T_impl_SessEvent)).map (c_T_impl_SessEvent false)).length 0 ((((l1.set (Int.toNat v3) ({ e7 with Kind_ := v2 } : T_impl_SessEvent)).set (Int.toNat v3) ({ e9 with Time_ := (IntKind.i64.wrap (v2 + 1)) } : T_impl_SessEvent)).set (Int.toNat v3) ({ e13 with User_ := r11 } : T_impl_SessEvent)).map (c_T_impl_SessEvent false)).length) rfl (hd_len _ (List.length_set ..))) ?_
   refine TL.conv (Cs.eqV (t := 12) (v' := .hd 0 ((((l1.set (Int.toNat v3) ({ e7 with Kind_ := v2 } : T_impl_SessEvent)).set (Int.toNat v3) ({ e9 with Time_ := (IntKind.i64.wrap (v2 + 1)) } : T_impl_SessEvent)).set (Int.toNat v3) ({ e13 with User_ := r11 } : T_impl_SessEvent)).map (c_T_impl_SessEvent false)).length 0 ((((l1.set (Int.toNat v3) ({ e7 with Kind_ := v2 } : T_impl_SessEvent)).set (Int.toNat v3) ({ e9 with Time_ := (IntKind.i64.wrap (v2 + 1)) } : T_impl_SessEvent)).set (Int.toNat v3) ({ e13 with User_ := r11 } : T_impl_SessEvent)).map (c_T_impl_SessEvent false)).length) rfl (hd_len _ (List.length_set ..))) ?_
   refine TL.conv (Cs.eqV (t := 15) (v' := .el 0 ((((l1.set (Int.toNat v3) ({ e7 with Kind_ := v2 } : T_impl_SessEvent)).set (Int.toNat v3) ({ e9 with Time_ := (IntKind.i64.wrap (v2 + 1)) } : T_impl_SessEvent)).set (Int.toNat v3) ({ e13 with User_ := r11 } : T_impl_SessEvent)).map (c_T_impl_SessEvent false)).length (Int.toNat v3) 0) rfl (el_len _ _ _ (List.length_set ..))) ?_
   refine TL.conv (Cs.eqV (t := 16) (v' := .el 0 ((((l1.set (Int.toNat v3) ({ e7 with Kind_ := v2 } : T_impl_SessEvent)).set (Int.toNat v3) ({ e9 with Time_ := (IntKind.i64.wrap (v2 + 1)) } : T_impl_SessEvent)).set (Int.toNat v3) ({ e13 with User_ := r11 } : T_impl_SessEvent)).map (c_T_impl_SessEvent false)).length (Int.toNat v3) 0) rfl (el_len _ _ _ (List.length_set ..))) ?_
   refine TL.conv (Cs.eqV (t := 19) (v' := .hd 0 ((((l1.set (Int.toNat v3) ({ e7 with Kind_ := v2 } : T_impl_SessEvent)).set (Int.toNat v3) ({ e9 with Time_ := (IntKind.i64.wrap (v2 + 1)) } : T_impl_SessEvent)).set (Int.toNat v3) ({ e13 with User_ := r11 } : T_impl_SessEvent)).map (c_T_impl_SessEvent false)).length 0 ((((l1.set (Int.toNat v3) ({ e7 with Kind_ := v2 } : T_impl_SessEvent)).set (Int.toNat v3) ({ e9 with Time_ := (IntKind.i64.wrap (v2 + 1)) } : T_impl_SessEvent)).set (Int.toNat v3) ({ e13 with User_ := r11 } : T_impl_SessEvent)).map (c_T_impl_SessEvent false)).length) rfl (hd_len _ (List.length_set ..))) ?_
   refine TL.conv (Cs.eqV (t := 22) (v' := .el 0 ((((l1.set (Int.toNat v3) ({ e7 with Kind_ := v2 } : T_impl_SessEvent)).set (Int.toNat v3) ({ e9 with Time_ := (IntKind.i64.wrap (v2 + 1)) } : T_impl_SessEvent)).set (Int.toNat v3) ({ e13 with User_ := r11 } : T_impl_SessEvent)).map (c_T_impl_SessEvent false)).length (Int.toNat v3) 0) rfl (el_len _ _ _ (List.length_set ..))) ?_
   refine TL.conv (Cs.eqV (t := 23) (v' := .el 0 ((((l1.set (Int.toNat v3) ({ e7 with Kind_ := v2 } : T_impl_SessEvent)).set (Int.toNat v3) ({ e9 with Time_ := (IntKind.i64.wrap (v2 + 1)) } : T_impl_SessEvent)).set (Int.toNat v3) ({ e13 with User_ := r11 } : T_impl_SessEvent)).map (c_T_impl_SessEvent false)).length (Int.toNat v3) 1) rfl (el_len _ _ _ (List.length_set ..))) ?_
   refine TL.conv (Cs.eqV (t := 26) (v' := .hd 0 ((((l1.set (Int.toNat v3) ({ e7 with Kind_ := v2 } : T_impl_SessEvent)).set (Int.toNat v3) ({ e9 with Time_ := (IntKind.i64.wrap (v2 + 1)) } : T_impl_SessEvent)).set (Int.toNat v3) ({ e13 with User_ := r11 } : T_impl_SessEvent)).map (c_T_impl_SessEvent false)).length 0 ((((l1.set (Int.toNat v3) ({ e7 with Kind_ := v2 } : T_impl_SessEvent)).set (Int.toNat v3) ({ e9 with Time_ := (IntKind.i64.wrap (v2 + 1)) } : T_impl_SessEvent)).set (Int.toNat v3) ({ e13 with User_ := r11 } : T_impl_SessEvent)).map (c_T_impl_SessEvent false)).length) rfl (hd_len _ (List.length_set ..))) ?_
   refine TL.conv (Cs.eqV (t := 30) (v' := .el 0 ((((l1.set (Int.toNat v3) ({ e7 with Kind_ := v2 } : T_impl_SessEvent)).set (Int.toNat v3) ({ e9 with Time_ := (IntKind.i64.wrap (v2 + 1)) } : T_impl_SessEvent)).set (Int.toNat v3) ({ e13 with User_ := r11 } : T_impl_SessEvent)).map (c_T_impl_SessEvent false)).length (Int.toNat v3) 0) rfl (el_len _ _ _ (List.length_set ..))) ?_
   refine TL.conv (Cs.eqV (t := 31) (v' := .el 0 ((((l1.set (Int.toNat v3) ({ e7 with Kind_ := v2 } : T_impl_SessEvent)).set (Int.toNat v3) ({ e9 with Time_ := (IntKind.i64.wrap (v2 + 1)) } : T_impl_SessEvent)).set (Int.toNat v3) ({ e13 with User_ := r11 } : T_impl_SessEvent)).map (c_T_impl_SessEvent false)).length (Int.toNat v3) 2) rfl (el_len _ _ _ (List.length_set ..))) ?_
   refine au 2 ?_
   refine T.conv (Cs.eqS (σ' := [.arr .clo 5 ((((l1.set (Int.toNat v3) ({ e7 with Kind_ := v2 } : T_impl_SessEvent)).set (Int.toNat v3) ({ e9 with Time_ := (IntKind.i64.wrap (v2 + 1)) } : T_impl_SessEvent)).set (Int.toNat v3) ({ e13 with User_ := r11 } : T_impl_SessEvent)).map (c_T_impl_SessEvent false))]) rfl) ?_
   refine au 10 ?_
   obtain ⟨r15, h16, H⟩ := bind_s H
   refine TL.st rfl rfl rfl (o_callP rfl en_32 rfl rfl (.cons _ _ _ _ (.cl _ rfl) .nil) (laws_markText_p  h16)) ?_
   obtain ⟨e17, h18, H⟩ := bind_s H
   refine TL.st rfl rfl rfl (o_ixh (f := c_T_impl_SessEvent false) rfl rfl tyS_60 rfl rfl rfl rfl h18 rfl) ?_
   refine TL.st rfl rfl rfl (o_fieldAddrEl rfl rfl rfl tyS_9 (by decide) rfl rfl rfl) ?_
   refine TL.sn rfl rfl (o_stEl (f := c_T_impl_SessEvent false) (xs := (((l1.set (Int.toNat v3) ({ e7 with Kind_ := v2 } : T_impl_SessEvent)).set (Int.toNat v3) ({ e9 with Time_ := (IntKind.i64.wrap (v2 + 1)) } : T_impl_SessEvent)).set (Int.toNat v3) ({ e13 with User_ := r11 } : T_impl_SessEvent))) (k := v3) (a := e17) ({ e17 with Device_ := r15 } : T_impl_SessEvent) rfl tyS_9 rfl rfl rfl rfl (by decide) h18 rfl rfl rfl (fun _ => rfl) rfl) ?_
   refine TL.conv (Cs.eqV (t := 0) (v' := .hd 0 (((((l1.set (Int.toNat v3) ({ e7 with Kind_ := v2 } : T_impl_SessEvent)).set (Int.toNat v3) ({ e9 with Time_ := (IntKind.i64.wrap (v2 + 1)) } : T_impl_SessEvent)).set (Int.toNat v3) ({ e13 with User_ := r11 } : T_impl_SessEvent)).set (Int.toNat v3) ({ e17 with Device_ := r15 } : T_impl_SessEvent)).map (c_T_impl_SessEvent false)).length 0 (((((l1.set (Int.toNat v3) ({ e7 with Kind_ := v2 } : T_impl_SessEvent)).set (Int.toNat v3) ({ e9 with Time_ := (IntKind.i64.wrap (v2 + 1)) } : T_impl_SessEvent)).set (Int.toNat v3) ({ e13 with User_ := r11 } : T_impl_SessEvent)).set (Int.toNat v3) ({ e17 with Device_ := r15 } : T_impl_SessEvent)).map (c_T_impl_SessEvent false)).length) rfl (hd_len _ (List.length_set ..))) ?_
   refine TL.conv (Cs.eqV (t := 7) (v' := .hd 0 (((((l1.set (Int.toNat v3) ({ e7 with Kind_ := v2 } : T_impl_SessEvent)).set (Int.toNat v3) ({ e9 with Time_ := (IntKind.i64.wrap (v2 + 1)) } : T_impl_SessEvent)).set (Int.toNat v3) ({ e13 with User_ := r11 } : T_impl_SessEvent)).set (Int.toNat v3) ({ e17 with Device_ := r15 } : T_impl_SessEvent)).map (c_T_impl_SessEvent false)).length 0 (((((l1.set (Int.toNat v3) ({ e7 with Kind_ := v2 } : T_impl_SessEvent)).set (Int.toNat v3) ({ e9 with Time_ := (IntKind.i64.wrap (v2 + 1)) } : T_impl_SessEvent)).set (Int.toNat v3) ({ e13 with User_ := r11 } : T_impl_SessEvent)).set (Int.toNat v3) ({ e17 with Device_ := r15 } : T_impl_SessEvent)).map (c_T_impl_SessEvent false)).length) rfl (hd_len _ (List.length_set ..))) ?_
   refine TL.conv (Cs.eqV (t := 12) (v' := .hd 0 (((((l1.set (Int.toNat v3) ({ e7 with Kind_ := v2 } : T_impl_SessEvent)).set (Int.toNat v3) ({ e9 with Time_ := (IntKind.i64.wrap (v2 + 1)) } : T_impl_SessEvent)).set (Int.toNat v3) ({ e13 with User_ := r11 } : T_impl_SessEvent)).set (Int.toNat v3) ({ e17 with Device_ := r15 } : T_impl_SessEvent)).map (c_T_impl_SessEvent false)).length 0 (((((l1.set (Int.toNat v3) ({ e7 with Kind_ := v2 } : T_impl_SessEvent)).set (Int.toNat v3) ({ e9 with Time_ := (IntKind.i64.wrap (v2 + 1)) } : T_impl_SessEvent)).set (Int.toNat v3) ({ e13 with User_ := r11 } : T_impl_SessEvent)).set (Int.toNat v3) ({ e17 with Device_ := r15 } : T_impl_SessEvent)).map (c_T_impl_SessEvent false)).length) rfl (hd_len _ (List.length_set ..))) ?_
   refine TL.conv (Cs.eqV (t := 15) (v' := .el 0 (((((l1.set (Int.toNat v3) ({ e7 with Kind_ := v2 } : T_impl_SessEvent)).set (Int.toNat v3) ({ e9 with Time_ := (IntKind.i64.wrap (v2 + 1)) } : T_impl_SessEvent)).set (Int.toNat v3) ({ e13 with User_ := r11 } : T_impl_SessEvent)).set (Int.toNat v3) ({ e17 with Device_ := r15 } : T_impl_SessEvent)).map (c_T_impl_SessEvent false)).length (Int.toNat v3) 0) rfl (el_len _ _ _ (List.length_set ..))) ?_
   refine TL.conv (Cs.eqV (t := 16) (v' := .el 0 (((((l1.set (Int.toNat v3) ({ e7 with Kind_ := v2 } : T_impl_SessEvent)).set (Int.toNat v3) ({ e9 with Time_ := (IntKind.i64.wrap (v2 + 1)) } : T_impl_SessEvent)).set (Int.toNat v3) ({ e13 with User_ := r11 } : T_impl_SessEvent)).set (Int.toNat v3) ({ e17 with Device_ := r15 } : T_impl_SessEvent)).map (c_T_impl_SessEvent false)).length (Int.toNat v3) 0) rfl (el_len _ _ _ (List.length_set ..))) ?_
   refine TL.conv (Cs.eqV (t := 19) (v' := .hd 0 (((((l1.set (Int.toNat v3) ({ e7 with Kind_ := v2 } : T_impl_SessEvent)).set (Int.toNat v3) ({ e9 with Time_ := (IntKind.i64.wrap (v2 + 1)) } : T_impl_SessEvent)).set (Int.toNat v3) ({ e13 with User_ := r11 } : T_impl_SessEvent)).set (Int.toNat v3) ({ e17 with Device_ := r15 } : T_impl_SessEvent)).map (c_T_impl_SessEvent false)).length 0 (((((l1.set (Int.toNat v3) ({ e7 with Kind_ := v2 } : T_impl_SessEvent)).set (Int.toNat v3) ({ e9 with Time_ := (IntKind.i64.wrap (v2 + 1)) } : T_impl_SessEvent)).set (Int.toNat v3) ({ e13 with User_ := r11 } : T_impl_SessEvent)).set (Int.toNat v3) ({ e17 with Device_ := r15 } : T_impl_SessEvent)).map (c_T_impl_SessEvent false)).length) rfl (hd_len _ (List.length_set ..))) ?_
   refine TL.conv (Cs.eqV (t := 22) (v' := .el 0 (((((l1.set (Int.toNat v3) ({ e7 with Kind_ := v2 } : T_impl_SessEvent)).set (Int.toNat v3) ({ e9 with Time_ := (IntKind.i64.wrap (v2 + 1)) } : T_impl_SessEvent)).set (Int.toNat v3) ({ e13 with User_ := r11 } : T_impl_SessEvent)).set (Int.toNat v3) ({ e17 with Device_ := r15 } : T_impl_SessEvent)).map (c_T_impl_SessEvent false)).length (Int.toNat v3) 0) rfl (el_len _ _ _ (List.length_set ..))) ?_
   refine TL.conv (Cs.eqV (t := 23) (v' := .el 0 (((((l1.set (Int.toNat v3) ({ e7 with Kind_ := v2 } : T_impl_SessEvent)).set (Int.toNat v3) ({ e9 with Time_ := (IntKind.i64.wrap (v2 + 1)) } : T_impl_SessEvent)).set (Int.toNat v3) ({ e13 with User_ := r11 } : T_impl_SessEvent)).set (Int.toNat v3) ({ e17 with Device_ := r15 } : T_impl_SessEvent)).map (c_T_impl_SessEvent false)).length (Int.toNat v3) 1) rfl (el_len _ _ _ (List.length_set ..))) ?_
   refine TL.conv (Cs.eqV (t := 26) (v' := .hd 0 (((((l1.set (Int.toNat v3) ({ e7 with Kind_ := v2 } : T_impl_SessEvent)).set (Int.toNat v3) ({ e9 with Time_ := (IntKind.i64.wrap (v2 + 1)) } : T_impl_SessEvent)).set (Int.toNat v3) ({ e13 with User_ := r11 } : T_impl_SessEvent)).set (Int.toNat v3) ({ e17 with Device_ := r15 } : T_impl_SessEvent)).map (c_T_impl_SessEvent false)).length 0 (((((l1.set (Int.toNat v3) ({ e7 with Kind_ := v2 } : T_impl_SessEvent)).set (Int.toNat v3) ({ e9 with Time_ := (IntKind.i64.wrap (v2 + 1)) } : T_impl_SessEvent)).set (Int.toNat v3) ({ e13 with User_ := r11 } : T_impl_SessEvent)).set (Int.toNat v3) ({ e17 with Device_ := r15 } : T_impl_SessEvent)).map (c_T_impl_SessEvent false)).length) rfl (hd_len _ (List.length_set ..))) ?_
   refine TL.conv (Cs.eqV (t := 30) (v' := .el 0 (((((l1.set (Int.toNat v3) ({ e7 with Kind_ := v2 } : T_impl_SessEvent)).set (Int.toNat v3) ({ e9 with Time_ := (IntKind.i64.wrap (v2 + 1)) } : T_impl_SessEvent)).set (Int.toNat v3) ({ e13 with User_ := r11 } : T_impl_SessEvent)).set (Int.toNat v3) ({ e17 with Device_ := r15 } : T_impl_SessEvent)).map (c_T_impl_SessEvent false)).length (Int.toNat v3) 0) rfl (el_len _ _ _ (List.length_set ..))) ?_
   refine TL.conv (Cs.eqV (t := 31) (v' := .el 0 (((((l1.set (Int.toNat v3) ({ e7 with Kind_ := v2 } : T_impl_SessEvent)).set (Int.toNat v3) ({ e9 with Time_ := (IntKind.i64.wrap (v2 + 1)) } : T_impl_SessEvent)).set (Int.toNat v3) ({ e13 with User_ := r11 } : T_impl_SessEvent)).set (Int.toNat v3) ({ e17 with Device_ := r15 } : T_impl_SessEvent)).map (c_T_impl_SessEvent false)).length (Int.toNat v3) 2) rfl (el_len _ _ _ (List.length_set ..))) ?_
   refine TL.conv (Cs.eqV (t := 34) (v' := .hd 0 (((((l1.set (Int.toNat v3) ({ e7 with Kind_ := v2 } : T_impl_SessEvent)).set (Int.toNat v3) ({ e9 with Time_ := (IntKind.i64.wrap (v2 + 1)) } : T_impl_SessEvent)).set (Int.toNat v3) ({ e13 with User_ := r11 } : T_impl_SessEvent)).set (Int.toNat v3) ({ e17 with Device_ := r15 } : T_impl_SessEvent)).map (c_T_impl_SessEvent false)).length 0 (((((l1.set (Int.toNat v3) ({ e7 with Kind_ := v2 } : T_impl_SessEvent)).set (Int.toNat v3) ({ e9 with Time_ := (IntKind.i64.wrap (v2 + 1)) } : T_impl_SessEvent)).set (Int.toNat v3) ({ e13 with User_ := r11 } : T_impl_SessEvent)).set (Int.toNat v3) ({ e17 with Device_ := r15 } : T_impl_SessEvent)).map (c_T_impl_SessEvent false)).length) rfl (hd_len _ (List.length_set ..))) ?_
   refine TL.conv (Cs.eqV (t := 38) (v' := .el 0 (((((l1.set (Int.toNat v3) ({ e7 with Kind_ := v2 } : T_impl_SessEvent)).set (Int.toNat v3) ({ e9 with Time_ := (IntKind.i64.wrap (v2 + 1)) } : T_impl_SessEvent)).set (Int.toNat v3) ({ e13 with User_ := r11 } : T_impl_SessEvent)).set (Int.toNat v3) ({ e17 with Device_ := r15 } : T_impl_SessEvent)).map (c_T_impl_SessEvent false)).length (Int.toNat v3) 0) rfl (el_len _ _ _ (List.length_set ..))) ?_
   refine TL.conv (Cs.eqV (t := 39) (v' := .el 0 (((((l1.set (Int.toNat v3) ({ e7 with Kind_ := v2 } : T_impl_SessEvent)).set (Int.toNat v3) ({ e9 with Time_ := (IntKind.i64.wrap (v2 + 1)) } : T_impl_SessEvent)).set (Int.toNat v3) ({ e13 with User_ := r11 } : T_impl_SessEvent)).set (Int.toNat v3) ({ e17 with Device_ := r15 } : T_impl_SessEvent)).map (c_T_impl_SessEvent false)).length (Int.toNat v3) 3) rfl (el_len _ _ _ (List.length_set ..))) ?_
   refine au 12 ?_
   obtain ⟨r19, h20, H⟩ := bind_s H
   refine TL.st rfl rfl rfl (o_callP rfl en_32 rfl rfl (.cons _ _ _ _ (.cl _ rfl) .nil) (laws_markText_p  h20)) ?_
   obtain ⟨e21, h22, H⟩ := bind_s H
   refine TL.st rfl rfl rfl (o_ixh (f := c_T_impl_SessEvent false) rfl rfl tyS_60 rfl rfl rfl rfl h22 rfl) ?_
   refine TL.st rfl rfl rfl (o_fieldAddrEl rfl rfl rfl tyS_9 (by decide) rfl rfl rfl) ?_
   refine TL.sn rfl rfl (o_stEl (f := c_T_impl_SessEvent false) (xs := ((((l1.set (Int.toNat v3) ({ e7 with Kind_ := v2 } : T_impl_SessEvent)).set (Int.toNat v3) ({ e9 with Time_ := (IntKind.i64.wrap (v2 + 1)) } : T_impl_SessEvent)).set (Int.toNat v3) ({ e13 with User_ := r11 } : T_impl_SessEvent)).set (Int.toNat v3) ({ e17 with Device_ := r15 } : T_impl_SessEvent))) (k := v3) (a := e21) ({ e21 with Id_ := r19 } : T_impl_SessEvent) rfl tyS_9 rfl rfl rfl rfl (by decide) h22 rfl rfl rfl (fun _ => rfl) rfl) ?_
   refine TL.conv (Cs.eqV (t := 0) (v' := .hd 0 ((((((l1.set (Int.toNat v3) ({ e7 with Kind_ := v2 } : T_impl_SessEvent)).set (Int.toNat v3) ({ e9 with Time_ := (IntKind.i64.wrap (v2 + 1)) } : T_impl_SessEvent)).set (Int.toNat v3) ({ e13 with User_ := r11 } : T_impl_SessEvent)).set (Int.toNat v3) ({ e17 with Device_ := r15 } : T_impl_SessEvent)).set (Int.toNat v3) ({ e21 with Id_ := r19 } : T_impl_SessEvent)).map (c_T_impl_SessEvent false)).length 0 ((((((l1.set (Int.toNat v3) ({ e7 with Kind_ := v2 } : T_impl_SessEvent)).set (Int.toNat v3) ({ e9 with Time_ := (IntKind.i64.wrap (v2 + 1)) } : T_impl_SessEvent)).set (Int.toNat v3) ({ e13 with User_ := r11 } : T_impl_SessEvent)).set (Int.toNat v3) ({ e17 with Device_ := r15 } : T_impl_SessEvent)).set (Int.toNat v3) ({ e21 with Id_ := r19 } : T_impl_SessEvent)).map (c_T_impl_SessEvent false)).length) rfl (hd_len _ (List.length_set ..))) ?_
   refine TL.conv (Cs.eqV (t := 7) (v' := .hd 0 ((((((l1.set (Int.toNat v3) ({ e7 with Kind_ := v2 } : T_impl_SessEvent)).set (Int.toNat v3) ({ e9 with Time_ := (IntKind.i64.wrap (v2 + 1)) } : T_impl_SessEvent)).set (Int.toNat v3) ({ e13 with User_ := r11 } : T_impl_SessEvent)).set (Int.toNat v3) ({ e17 with Device_ := r15 } : T_impl_SessEvent)).set (Int.toNat v3) ({ e21 with Id_ := r19 } : T_impl_SessEvent)).map (c_T_impl_SessEvent false)).length 0 ((((((l1.set (Int.toNat v3) ({ e7 with Kind_ := v2 } : T_impl_SessEvent)).set (Int.toNat v3) ({ e9 with Time_ := (IntKind.i64.wrap (v2 + 1)) } : T_impl_SessEvent)).set (Int.toNat v3) ({ e13 with User_ := r11 } : T_impl_SessEvent)).set (Int.toNat v3) ({ e17 with Device_ := r15 } : T_impl_SessEvent)).set (Int.toNat v3) ({ e21 with Id_ := r19 } : T_impl_SessEvent)).map (c_T_impl_SessEvent false)).length) rfl (hd_len _ (List.length_set ..))) ?_
   refine TL.conv (Cs.eqV (t := 12) (v' := .hd 0 ((((((l1.set (Int.toNat v3) ({ e7 with Kind_ := v2 } : T_impl_SessEvent)).set (Int.toNat v3) ({ e9 with Time_ := (IntKind.i64.wrap (v2 + 1)) } : T_impl_SessEvent)).set (Int.toNat v3) ({ e13 with User_ := r11 } : T_impl_SessEvent)).set (Int.toNat v3) ({ e17 with Device_ := r15 } : T_impl_SessEvent)).set (Int.toNat v3) ({ e21 with Id_ := r19 } : T_impl_SessEvent)).map (c_T_impl_SessEvent false)).length 0 ((((((l1.set (Int.toNat v3) ({ e7 with Kind_ := v2 } : T_impl_SessEvent)).set (Int.toNat v3) ({ e9 with Time_ := (IntKind.i64.wrap (v2 + 1)) } : T_impl_SessEvent)).set (Int.toNat v3) ({ e13 with User_ := r11 } : T_impl_SessEvent)).set (Int.toNat v3) ({ e17 with Device_ := r15 } : T_impl_SessEvent)).set (Int.toNat v3) ({ e21 with Id_ := r19 } : T_impl_SessEvent)).map (c_T_impl_SessEvent false)).length) rfl (hd_len _ (List.length_set ..))) ?_
   refine TL.conv (Cs.eqV (t := 15) (v' := .el 0 ((((((l1.set (Int.toNat v3) ({ e7 with Kind_ := v2 } : T_impl_SessEvent)).set (Int.toNat v3) ({ e9 with Time_ := (IntKind.i64.wrap (v2 + 1)) } : T_impl_SessEvent)).set (Int.toNat v3) ({ e13 with User_ := r11 } : T_impl_SessEvent)).set (Int.toNat v3) ({ e17 with Device_ := r15 } : T_impl_SessEvent)).set (Int.toNat v3) ({ e21 with Id_ := r19 } : T_impl_SessEvent)).map (c_T_impl_SessEvent false)).length (Int.toNat v3) 0) rfl (el_len _ _ _ (List.length_set ..))) ?_
   refine TL.conv (Cs.eqV (t := 16) (v' := .el 0 ((((((l1.set (Int.toNat v3) ({ e7 with Kind_ := v2 } : T_impl_SessEvent)).set (Int.toNat v3) ({ e9 with Time_ := (IntKind.i64.wrap (v2 + 1)) } : T_impl_SessEvent)).set (Int.toNat v3) ({ e13 with User_ := r11 } : T_impl_SessEvent)).set (Int.toNat v3) ({ e17 with Device_ := r15 } : T_impl_SessEvent)).set (Int.toNat v3) ({ e21 with Id_ := r19 } : T_impl_SessEvent)).map (c_T_impl_SessEvent false)).length (Int.toNat v3) 0) rfl (el_len _ _ _ (List.length_set ..))) ?_
   refine TL.conv (Cs.eqV (t := 19) (v' := .hd 0 ((((((l1.set (Int.toNat v3) ({ e7 with Kind_ := v2 } : T_impl_SessEvent)).set (Int.toNat v3) ({ e9 with Time_ := (IntKind.i64.wrap (v2 + 1)) } : T_impl_SessEvent)).set (Int.toNat v3) ({ e13 with User_ := r11 } : T_impl_SessEvent)).set (Int.toNat v3) ({ e17 with Device_ := r15 } : T_impl_SessEvent)).set (Int.toNat v3) ({ e21 with Id_ := r19 } : T_impl_SessEvent)).map (c_T_impl_SessEvent false)).length 0 ((((((l1.set (Int.toNat v3) ({ e7 with Kind_ := v2 } : T_impl_SessEvent)).set (Int.toNat v3) ({ e9 with Time_ := (IntKind.i64.wrap (v2 + 1)) } : T_impl_SessEvent)).set (Int.toNat v3) ({ e13 with User_ := r11 } : T_impl_SessEvent)).set (Int.toNat v3) ({ e17 with Device_ := r15 } : T_impl_SessEvent)).set (Int.toNat v3) ({ e21 with Id_ := r19 } : T_impl_SessEvent)).map (c_T_impl_SessEvent false)).length) rfl (hd_len _ (List.length_set ..))) ?_
   refine TL.conv (Cs.eqV (t := 22) (v' := .el 0 ((((((l1.set (Int.toNat v3) ({ e7 with Kind_ := v2 } : T_impl_SessEvent)).set (Int.toNat v3) ({ e9 with Time_ := (IntKind.i64.wrap (v2 + 1)) } : T_impl_SessEvent)).set (Int.toNat v3) ({ e13 with User_ := r11 } : T_impl_SessEvent)).set (Int.toNat v3) ({ e17 with Device_ := r15 } : T_impl_SessEvent)).set (Int.toNat v3) ({ e21 with Id_ := r19 } : T_impl_SessEvent)).map (c_T_impl_SessEvent false)).length (Int.toNat v3) 0) rfl (el_len _ _ _ (List.length_set ..))) ?_
   refine TL.conv (Cs.eqV (t := 23) (v' := .el 0 ((((((l1.set (Int.toNat v3) ({ e7 with Kind_ := v2 } : T_impl_SessEvent)).set (Int.toNat v3) ({ e9 with Time_ := (IntKind.i64.wrap (v2 + 1)) } : T_impl_SessEvent)).set (Int.toNat v3) ({ e13 with User_ := r11 } : T_impl_SessEvent)).set (Int.toNat v3) ({ e17 with Device_ := r15 } : T_impl_SessEvent)).set (Int.toNat v3) ({ e21 with Id_ := r19 } : T_impl_SessEvent)).map (c_T_impl_SessEvent false)).length (Int.toNat v3) 1) rfl (el_len _ _ _ (List.length_set ..))) ?_
   refine TL.conv (Cs.eqV (t := 26) (v' := .hd 0 ((((((l1.set (Int.toNat v3) ({ e7 with Kind_ := v2 } : T_impl_SessEvent)).set (Int.toNat v3) ({ e9 with Time_ := (IntKind.i64.wrap (v2 + 1)) } : T_impl_SessEvent)).set (Int.toNat v3) ({ e13 with User_ := r11 } : T_impl_SessEvent)).set (Int.toNat v3) ({ e17 with Device_ := r15 } : T_impl_SessEvent)).set (Int.toNat v3) ({ e21 with Id_ := r19 } : T_impl_SessEvent)).map (c_T_impl_SessEvent false)).length 0 ((((((l1.set (Int.toNat v3) ({ e7 with Kind_ := v2 } : T_impl_SessEvent)).set (Int.toNat v3) ({ e9 with Time_ := (IntKind.i64.wrap (v2 + 1)) } : T_impl_SessEvent)).set (Int.toNat v3) ({ e13 with User_ := r11 } : T_impl_SessEvent)).set (Int.toNat v3) ({ e17 with Device_ := r15 } : T_impl_SessEvent)).set (Int.toNat v3) ({ e21 with Id_ := r19 } : T_impl_SessEvent)).map (c_T_impl_SessEvent false)).length) rfl (hd_len _ (List.length_set ..))) ?_
   refine TL.conv (Cs.eqV (t := 30) (v' := .el 0 ((((((l1.set (Int.toNat v3) ({ e7 with Kind_ := v2 } : T_impl_SessEvent)).set (Int.toNat v3) ({ e9 with Time_ := (IntKind.i64.wrap (v2 + 1)) } : T_impl_SessEvent)).set (Int.toNat v3) ({ e13 with User_ := r11 } : T_impl_SessEvent)).set (Int.toNat v3) ({ e17 with Device_ := r15 } : T_impl_SessEvent)).set (Int.toNat v3) ({ e21 with Id_ := r19 } : T_impl_SessEvent)).map (c_T_impl_SessEvent false)).length (Int.toNat v3) 0) rfl (el_len _ _ _ (List.length_set ..))) ?_
   refine TL.conv (Cs.eqV (t := 31) (v' := .el 0 ((((((l1.set (Int.toNat v3) ({ e7 with Kind_ := v2 } : T_impl_SessEvent)).set (Int.toNat v3) ({ e9 with Time_ := (IntKind.i64.wrap (v2 + 1)) } : T_impl_SessEvent)).set (Int.toNat v3) ({ e13 with User_ := r11 } : T_impl_SessEvent)).set (Int.toNat v3) ({ e17 with Device_ := r15 } : T_impl_SessEvent)).set (Int.toNat v3) ({ e21 with Id_ := r19 } : T_impl_SessEvent)).map (c_T_impl_SessEvent false)).length (Int.toNat v3) 2) rfl (el_len _ _ _ (List.length_set ..))) ?_
   refine TL.conv (Cs.eqV (t := 34) (v' := .hd 0 ((((((l1.set (Int.toNat v3) ({ e7 with Kind_ := v2 } : T_impl_SessEvent)).set (Int.toNat v3) ({ e9 with Time_ := (IntKind.i64.wrap (v2 + 1)) } : T_impl_SessEvent)).set (Int.toNat v3) ({ e13 with User_ := r11 } : T_impl_SessEvent)).set (Int.toNat v3) ({ e17 with Device_ := r15 } : T_impl_SessEvent)).set (Int.toNat v3) ({ e21 with Id_ := r19 } : T_impl_SessEvent)).map (c_T_impl_SessEvent false)).length 0 ((((((l1.set (Int.toNat v3) ({ e7 with Kind_ := v2 } : T_impl_SessEvent)).set (Int.toNat v3) ({ e9 with Time_ := (IntKind.i64.wrap (v2 + 1)) } : T_impl_SessEvent)).set (Int.toNat v3) ({ e13 with User_ := r11 } : T_impl_SessEvent)).set (Int.toNat v3) ({ e17 with Device_ := r15 } : T_impl_SessEvent)).set (Int.toNat v3) ({ e21 with Id_ := r19 } : T_impl_SessEvent)).map (c_T_impl_SessEvent false)).length) rfl (hd_len _ (List.length_set ..))) ?_
   refine TL.conv (Cs.eqV (t := 38) (v' := .el 0 ((((((l1.set (Int.toNat v3) ({ e7 with Kind_ := v2 } : T_impl_SessEvent)).set (Int.toNat v3) ({ e9 with Time_ := (IntKind.i64.wrap (v2 + 1)) } : T_impl_SessEvent)).set (Int.toNat v3) ({ e13 with User_ := r11 } : T_impl_SessEvent)).set (Int.toNat v3) ({ e17 with Device_ := r15 } : T_impl_SessEvent)).set (Int.toNat v3) ({ e21 with Id_ := r19 } : T_impl_SessEvent)).map (c_T_impl_SessEvent false)).length (Int.toNat v3) 0) rfl (el_len _ _ _ (List.length_set ..))) ?_
   refine TL.conv (Cs.eqV (t := 39) (v' := .el 0 ((((((l1.set (Int.toNat v3) ({ e7 with Kind_ := v2 } : T_impl_SessEvent)).set (Int.toNat v3) ({ e9 with Time_ := (IntKind.i64.wrap (v2 + 1)) } : T_impl_SessEvent)).set (Int.toNat v3) ({ e13 with User_ := r11 } : T_impl_SessEvent)).set (Int.toNat v3) ({ e17 with Device_ := r15 } : T_impl_SessEvent)).set (Int.toNat v3) ({ e21 with Id_ := r19 } : T_impl_SessEvent)).map (c_T_impl_SessEvent false)).length (Int.toNat v3) 3) rfl (el_len _ _ _ (List.length_set ..))) ?_
   refine TL.conv (Cs.eqV (t := 42) (v' := .hd 0 ((((((l1.set (Int.toNat v3) ({ e7 with Kind_ := v2 } : T_impl_SessEvent)).set (Int.toNat v3) ({ e9 with Time_ := (IntKind.i64.wrap (v2 + 1)) } : T_impl_SessEvent)).set (Int.toNat v3) ({ e13 with User_ := r11 } : T_impl_SessEvent)).set (Int.toNat v3) ({ e17 with Device_ := r15 } : T_impl_SessEvent)).set (Int.toNat v3) ({ e21 with Id_ := r19 } : T_impl_SessEvent)).map (c_T_impl_SessEvent false)).length 0 ((((((l1.set (Int.toNat v3) ({ e7 with Kind_ := v2 } : T_impl_SessEvent)).set (Int.toNat v3) ({ e9 with Time_ := (IntKind.i64.wrap (v2 + 1)) } : T_impl_SessEvent)).set (Int.toNat v3) ({ e13 with User_ := r11 } : T_impl_SessEvent)).set (Int.toNat v3) ({ e17 with Device_ := r15 } : T_impl_SessEvent)).set (Int.toNat v3) ({ e21 with Id_ := r19 } : T_impl_SessEvent)).map (c_T_impl_SessEvent false)).length) rfl (hd_len _ (List.length_set ..))) ?_
   refine TL.conv (Cs.eqV (t := 46) (v' := .el 0 ((((((l1.set (Int.toNat v3) ({ e7 with Kind_ := v2 } : T_impl_SessEvent)).set (Int.toNat v3) ({ e9 with Time_ := (IntKind.i64.wrap (v2 + 1)) } : T_impl_SessEvent)).set (Int.toNat v3) ({ e13 with User_ := r11 } : T_impl_SessEvent)).set (Int.toNat v3) ({ e17 with Device_ := r15 } : T_impl_SessEvent)).set (Int.toNat v3) ({ e21 with Id_ := r19 } : T_impl_SessEvent)).map (c_T_impl_SessEvent false)).length (Int.toNat v3) 0) rfl (el_len _ _ _ (List.length_set ..))) ?_
   refine TL.conv (Cs.eqV (t := 47) (v' := .el 0 ((((((l1.set (Int.toNat v3) ({ e7 with Kind_ := v2 } : T_impl_SessEvent)).set (Int.toNat v3) ({ e9 with Time_ := (IntKind.i64.wrap (v2 + 1)) } : T_impl_SessEvent)).set (Int.toNat v3) ({ e13 with User_ := r11 } : T_impl_SessEvent)).set (Int.toNat v3) ({ e17 with Device_ := r15 } : T_impl_SessEvent)).set (Int.toNat v3) ({ e21 with Id_ := r19 } : T_impl_SessEvent)).map (c_T_impl_SessEvent false)).length (Int.toNat v3) 4) rfl (el_len _ _ _ (List.length_set ..))) ?_
   refine au 11 ?_
   exact Pk.of (thn_normal ⟨((((((l1.set (Int.toNat v3) ({ e7 with Kind_ := v2 } : T_impl_SessEvent)).set (Int.toNat v3) ({ e9 with Time_ := (IntKind.i64.wrap (v2 + 1)) } : T_impl_SessEvent)).set (Int.toNat v3) ({ e13 with User_ := r11 } : T_impl_SessEvent)).set (Int.toNat v3) ({ e17 with Device_ := r15 } : T_impl_SessEvent)).set (Int.toNat v3) ({ e21 with Id_ := r19 } : T_impl_SessEvent)), (IntKind.i64.wrap ((IntKind.i64.wrap ((IntKind.i64.wrap ((IntKind.i64.wrap ((IntKind.i64.wrap (v2 + 1)) + 1)) + 1)) + 1)) + 1)), (IntKind.i64.wrap (v3 + 1))), (some_i H).symm, rfl, rfl⟩)
  ·refine T.exit ?_
   refine thn_exit ?_
   exact Pk.of (thn_exit ⟨(l1, v2), (some_i H).symm, rfl, rfl, rfl⟩)
 ·rcases q23 with ⟨l4, v5⟩
  rintro _ _ _ ⟨rfl, rfl, rfl⟩
  refine inB_here ?_
  refine au 6 ?_
  cases some_i H
  exact ⟨trivial, _, (.tmp _ _ _ _ rfl .nil), ⟨rfl, _, rfl⟩⟩
theorem en_14 : En Tryd.prog 14 := .of Tryd.func14 rfl rfl
theorem impl_SignedIn_o (b0 : Bool) (b1 : Bool) {a0 : T_impl_SessConf} {a1 : (List T_impl_SessEvent)} {a2 : Int} {R0 : (List T_impl_SessReply)} (H : impl_SignedIn a0 a1 a2 = some R0) : OwnC Tryd.prog 9 [.agg (c_T_impl_SessConf b0 a0), .im b1 (a1.map (c_T_impl_SessEvent false)), .int .i64 a2] 4 (R0.map (c_T_impl_SessReply false)) := by
 refine CallT.of_TN (n := 65) Tryd.func9 rfl rfl rfl rfl ?_
 refine au 9 ?_
 obtain ⟨r1, h2, H⟩ := bind_s H
 rcases r1 with ⟨o3, o4, o5⟩ | ⟨⟩
 ·refine TL.st rfl rfl rfl (o_callM [] rfl en_25 rfl rfl (impl_yrunSessions_p0  b0 b1 h2) rfl (by decide) .nil rfl rfl (.cons _ _ _ _ rfl (.cons _ _ _ _ (ren_rawO fun _ => rfl) (.cons _ _ _ _ rfl (.cons _ _ _ _ (ren_famO fun _ => rfl) (.cons _ _ _ _ rfl .nil))))) rfl) ?_
  refine au 14 ?_
  refine TL.gcq rfl rfl rfl (.bool _) rfl rfl (fun h => o_nilCheck rfl (gv h rfl) rfl) ?_
  refine TL.gcq rfl rfl rfl (.bool _) rfl rfl (fun h => o_fieldAddr rfl rfl rfl tyS_3 (by decide) (gv h rfl) rfl ⟨_, rfl, Nat.le_of_ble_eq_true rfl⟩) ?_
  refine TL.gcq rfl rfl rfl (.bool _) rfl rfl (fun h => o_loadBx rfl tyS_3 (gv h rfl) rfl (nb rfl) rfl) ?_
  refine TL.gcq rfl rfl rfl (.bool _) rfl rfl (fun h => o_ari rfl (gv h rfl) (gv h rfl) rfl) ?_
  refine au 2 ?_
  refine T.cH H (fun H h => ?_) (fun H h => ?_)
  ·refine au 4 ?_
   refine T.conv (Cs.own (t := 6) 4 rfl (by decide)) ?_
   refine T.conv (Cs.wkF (M := 7) (.k 6 rfl rfl .nil)) ?_
   refine T.conv (Cs.reloc 0 6 rfl rfl (by decide) rfl rfl rfl (nomS_get (nomS_e rfl (nomS_c rfl (nomS_c (nomRaw fun _ => rfl) (nomS_c rfl (nomS_c (nomFam fun _ => rfl) (nomS_c rfl (nomS_c rfl rfl))))))))) ?_
   refine T.ret ?_
   refine thn_ret ?_
   cases some_i H
   exact ⟨trivial, _, (.tmp _ _ _ _ rfl .nil), ⟨rfl, _, rfl⟩⟩
  ·refine au 12 ?_
   refine TL.st rfl rfl rfl (o_lenOwn (f := c_px 4) rfl rfl rfl rfl (List.length_map ..)) ?_
   refine au 3 ?_
   refine T.conv (Cs.own (t := 9) 4 rfl (by decide)) ?_
   obtain ⟨l8, h21, H⟩ := bind_s H
   refine T.lq (fun s => match s with | (l6, v7) => [(2, .int .i64 a2), (7, .bx 1 0), (9, .hd 6 (l6.map (c_T_impl_SessReply false)).length 0 (l6.map (c_T_impl_SessReply false)).length), (31, .hd 2 o3.list_.length 0 o3.list_.length), (32, .int .i64 (o3.list_.length : Int)), (33, .int .i64 v7)]) (fun s => match s with | (l6, v7) => [.box (c_T_impl_SessConf b0 a0), .box (k_impl_ysessions 2 3 4 b0 o3), .arr .raw 1 (o3.list_.map (c_px 4)), .arr .clo 4 (o3.reply_.map (c_T_impl_SessReply false)), .fam (o4.map (c_T_impl_ysession 5 false)), .afm 1 (o5.map (c_ax (c_str))), .arr .clo 4 (l6.map (c_T_impl_SessReply false))]) (fun q ex fr σ => match q with | l8 => ex = .exit 0 ∧ fr = [(9, .hd 6 (l8.map (c_T_impl_SessReply false)).length 0 (l8.map (c_T_impl_SessReply false)).length)] ∧ σ = [.box (c_T_impl_SessConf b0 a0), .box (k_impl_ysessions 2 3 4 b0 o3), .arr .raw 1 (o3.list_.map (c_px 4)), .arr .clo 4 (o3.reply_.map (c_T_impl_SessReply false)), .fam (o4.map (c_T_impl_ysession 5 false)), .afm 1 (o5.map (c_ax (c_str))), .arr .clo 4 (l8.map (c_T_impl_SessReply false))]) h21 ?_ ?_
   ·rintro ⟨l6, v7⟩ y9 H
    refine au 5 ?_
    refine T.cH H (fun H h => ?_) (fun H h => ?_)
    ·refine au 5 ?_
     obtain ⟨e10, h11, H⟩ := bind_s H
     refine TL.st rfl rfl rfl (o_ixh (f := c_px 4) rfl rfl tyS_68 rfl rfl rfl (List.length_map ..) h11 rfl) ?_
     refine TL.st rfl rfl rfl (o_loadEl rfl tyS_68 rfl rfl (List.length_map ..) (by rw [List.getElem?_map, (idx_s h11).2]; rfl) (nb rfl) rfl) ?_
     refine au 5 ?_
     obtain ⟨w12, h13, H⟩ := bind_s H
     refine TL.st rfl rfl rfl (o_nilCheckP rfl rfl rfl h13) ?_
     refine TL.st rfl rfl rfl (o_fieldAddrP (a := w12) rfl rfl rfl tyS_4 (by decide) rfl rfl h13) ?_
     refine TL.st rfl rfl rfl (o_loadP (a := w12) rfl tyS_4 rfl rfl h13 (nb rfl) rfl) ?_
     refine au 5 ?_
     obtain ⟨r14, h15, H⟩ := bind_s H
     refine TL.gc rfl rfl rfl (.bool _) rfl rfl (fun h => o_callM [1, 2, 4, 5, 3] rfl en_26 rfl (evl_3 (gv h rfl) (gv h rfl) (gv h rfl)) (impl_ysessions_over_p b0 (cond_t h h15)) rfl (by decide) (.cons _ _ _ _ rfl (.cons _ _ _ _ (ren_at rfl (ren_rawO fun _ => rfl)) (.cons _ _ _ _ (ren_at rfl (ren_famO fun _ => rfl)) (.cons _ _ _ _ rfl (.cons _ _ _ _ rfl .nil))))) rfl rfl (.cons _ _ _ _ rfl (.cons _ _ _ _ (ren_rawO fun _ => rfl) (.cons _ _ _ _ (ren_famO fun _ => rfl) (.cons _ _ _ _ rfl (.cons _ _ _ _ rfl .nil))))) rfl) (fun h => by cases cond_f h h15; rfl) ?_
     refine au 3 ?_
     refine T.cH H (fun H h => ?_) (fun H h => ?_)
     ·refine T.drawn rfl ?_
      refine ad 2 ?_
      obtain ⟨r16, h17, H⟩ := bind_s H
      refine TD.rs rfl rfl (o_callM [4, 5] rfl en_27 rfl rfl (impl_ysession_id_p  h17) rfl (by decide) (.cons _ _ _ _ (ren_at rfl (ren_famO fun _ => rfl)) (.cons _ _ _ _ rfl .nil)) rfl rfl (.cons _ _ _ _ (ren_famO fun _ => rfl) (.cons _ _ _ _ rfl .nil)) rfl) ?_
      refine TD.qs rfl rfl (fun _ => o_move rfl rfl) ?_
      refine TD.rs rfl rfl (o_nilCheckP rfl rfl rfl h13) ?_
      refine TD.rs rfl rfl (o_fieldAddrP (a := w12) rfl rfl rfl tyS_9 (by decide) rfl rfl h13) ?_
      refine TD.rs rfl rfl (o_loadP (a := w12) rfl tyS_9 rfl rfl h13 (nb rfl) rfl) ?_
      refine TD.qs rfl rfl (fun _ => o_move rfl rfl) ?_
      refine TD.rs rfl rfl (o_nilCheckP rfl rfl rfl h13) ?_
      refine TD.rs rfl rfl (o_fieldAddrP (a := w12) rfl rfl rfl tyS_3 (by decide) rfl rfl h13) ?_
      refine TD.rs rfl rfl (o_loadP (a := w12) rfl tyS_3 rfl rfl h13 (nb rfl) rfl) ?_
      refine TD.qs rfl rfl (fun _ => o_build rfl ⟨_, fun _ => rfl, rfl⟩ rfl rfl rfl) ?_
      refine TD.qs rfl rfl (fun _ => o_sliceIm (rows := ([(⟨0, r16, w12.user_, w12.level_⟩ : T_impl_SessReply)] : List T_impl_SessReply).map (c_T_impl_SessReply false)) rfl rfl tyS_57 ⟨_, rfl, rfl⟩ (by decide) rfl rfl rfl rfl rfl rfl) ?_
      obtain ⟨l18, h19, H⟩ := bind_s H
      refine TD.as rfl rfl (o_ap (f := c_T_impl_SessReply false) (xs := l6) (ys := ([(⟨0, r16, w12.user_, w12.level_⟩ : T_impl_SessReply)] : List T_impl_SessReply)) rfl rfl tyE_57 rfl rfl rfl rfl (by decide) rfl (fun _ => rfl) h19) ?_
      refine TD.qs rfl rfl (fun _ => o_assign rfl rfl) ?_
      refine TD.nil ⟨rfl, ?_⟩
      refine au 4 ?_
      exact Pk.of (thn_normal ⟨(l18, (IntKind.i64.wrap (v7 + 1))), (some_i H).symm, rfl, rfl⟩)
     ·refine au 5 ?_
      exact Pk.of (thn_normal ⟨(l6, (IntKind.i64.wrap (v7 + 1))), (some_i H).symm, rfl, rfl⟩)
    ·refine T.exit ?_
     refine thn_exit ?_
     exact Pk.of (thn_exit ⟨l6, (some_i H).symm, rfl, rfl, rfl⟩)
   ·rintro _ _ _ ⟨rfl, rfl, rfl⟩
    refine inB_here ?_
    refine au 5 ?_
    refine T.conv (Cs.wkF (M := 7) (.k 6 rfl rfl .nil)) ?_
    refine T.conv (Cs.reloc 0 6 rfl rfl (by decide) rfl rfl rfl (nomS_get (nomS_e rfl (nomS_c rfl (nomS_c (nomRaw fun _ => rfl) (nomS_c rfl (nomS_c (nomFam fun _ => rfl) (nomS_c rfl (nomS_c rfl rfl))))))))) ?_
    refine T.ret ?_
    cases some_i H
    exact ⟨trivial, _, (.tmp _ _ _ _ rfl .nil), ⟨rfl, _, rfl⟩⟩
 ·refine TL.st rfl rfl rfl (o_callM [] rfl en_25 rfl rfl (impl_yrunSessions_p1  b0 b1 h2) rfl (by decide) .nil rfl rfl .nil rfl) ?_
  refine au 12 ?_
  refine TL.gcq rfl rfl rfl (.bool _) rfl rfl (fun h => show Does _ _ _ _ (.int .i64 0) _ from absurd h (by decide)) ?_
  refine TL.gcq rfl rfl rfl (.bool _) rfl rfl (fun h => show Does _ _ _ _ (.any) _ from absurd h (by decide)) ?_
  refine TL.gcq rfl rfl rfl (.bool _) rfl rfl (fun h => show Does _ _ _ _ (.any) _ from absurd h (by decide)) ?_
  refine TL.gcq rfl rfl rfl (.bool _) rfl rfl (fun h => show Does _ _ _ _ (.any) _ from absurd h (by decide)) ?_
  refine TL.gcq rfl rfl rfl (.bool _) rfl rfl (fun h => show Does _ _ _ _ (.int .i64 0) _ from absurd h (by decide)) ?_
  refine TL.gcq rfl rfl rfl (.bool _) rfl rfl (fun h => show Does _ _ _ _ (.bool false) _ from absurd h (by decide)) ?_
  refine au 2 ?_
  refine T.cH H (fun H h => ?_) (fun H h => ?_)
  ·refine au 4 ?_
   refine T.conv (Cs.own (t := 6) 4 rfl (by decide)) ?_
   refine T.conv (Cs.wkF (M := 2) (.k 6 rfl rfl .nil)) ?_
   refine T.conv (Cs.reloc 0 1 rfl rfl (by decide) rfl rfl rfl (nomS_get rfl)) ?_
   refine T.ret ?_
   refine thn_ret ?_
   cases some_i H
   exact ⟨trivial, _, (.tmp _ _ _ _ rfl .nil), ⟨rfl, _, rfl⟩⟩
  ·cases H
noncomputable def laws_markSessReplySx_l1  : (List T_impl_SessReply × Int × Int) → Option ((List T_impl_SessReply × Int × Int) ⊕ (List T_impl_SessReply × Int)) := fun s => match s with
  | (l1, v2, v3) => cond (decide (v3 < (l1.length : Int))) ((idx l1 v3).bind fun e7 => (laws_markText (IntKind.i64.wrap (v2 + 1))).bind fun r9 => (idx (l1.set (Int.toNat v3) ({ e7 with Err_ := v2 } : T_impl_SessReply)) v3).bind fun e11 => (laws_markText (IntKind.i64.wrap ((IntKind.i64.wrap (v2 + 1)) + 1))).bind fun r13 => (idx ((l1.set (Int.toNat v3) ({ e7 with Err_ := v2 } : T_impl_SessReply)).set (Int.toNat v3) ({ e11 with Id_ := r9 } : T_impl_SessReply)) v3).bind fun e15 => (idx (((l1.set (Int.toNat v3) ({ e7 with Err_ := v2 } : T_impl_SessReply)).set (Int.toNat v3) ({ e11 with Id_ := r9 } : T_impl_SessReply)).set (Int.toNat v3) ({ e15 with User_ := r13 } : T_impl_SessReply)) v3).bind fun e17 => some (.inl (((((l1.set (Int.toNat v3) ({ e7 with Err_ := v2 } : T_impl_SessReply)).set (Int.toNat v3) ({ e11 with Id_ := r9 } : T_impl_SessReply)).set (Int.toNat v3) ({ e15 with User_ := r13 } : T_impl_SessReply)).set (Int.toNat v3) ({ e17 with Level_ := (IntKind.i64.wrap ((IntKind.i64.wrap ((IntKind.i64.wrap (v2 + 1)) + 1)) + 1)) } : T_impl_SessReply)), (IntKind.i64.wrap ((IntKind.i64.wrap ((IntKind.i64.wrap ((IntKind.i64.wrap (v2 + 1)) + 1)) + 1)) + 1)), (IntKind.i64.wrap (v3 + 1))))) (some (.inr (l1, v2)))
noncomputable def laws_markSessReplySx (a0 : Int) (s0 : List T_impl_SessReply) : Option (Int × List T_impl_SessReply) :=
  (loopO (laws_markSessReplySx_l1) (s0, a0, 0)).bind fun q19 => (match q19 with | (l4, v5) => some (v5, l4))
theorem laws_markSessReplySx_p  {a0 : Int} {s0 : List T_impl_SessReply} {R0 : Int} {U0 : List T_impl_SessReply} (H : laws_markSessReplySx a0 s0 = some (R0, U0)) : St Tryd.prog 15 [.hd 0 (s0.map (c_T_impl_SessReply false)).length 0 (s0.map (c_T_impl_SessReply false)).length, .int .i64 a0] [.arr .clo 4 (s0.map (c_T_impl_SessReply false))] (.int .i64 R0) [.arr .clo 4 (U0.map (c_T_impl_SessReply false))] := by
 refine CallT.fin (CallT.of_TN (n := 43) Tryd.func15 rfl rfl rfl rfl ?_) rfl rfl ⟨trivial, trivial⟩
 refine au 10 ?_
 obtain ⟨q19, h20, H⟩ := bind_s H
 refine T.lq (fun s => match s with | (l1, v2, v3) => [(0, .hd 0 (l1.map (c_T_impl_SessReply false)).length 0 (l1.map (c_T_impl_SessReply false)).length), (1, .int .i64 v2), (5, .int .i64 v3)]) (fun s => match s with | (l1, v2, v3) => [.arr .clo 4 (l1.map (c_T_impl_SessReply false))]) (fun q ex fr σ => match q with | (l4, v5) => ex = .exit 0 ∧ fr = [(1, .int .i64 v5)] ∧ σ = [.arr .clo 4 (l4.map (c_T_impl_SessReply false))]) h20 ?_ ?_
 ·rintro ⟨l1, v2, v3⟩ y6 H
  refine au 5 ?_
  refine TL.st rfl rfl rfl (o_lenOwn (f := c_T_impl_SessReply false) rfl rfl rfl rfl rfl) ?_
  refine au 2 ?_
  refine T.cH H (fun H h => ?_) (fun H h => ?_)
  ·refine au 8 ?_
   obtain ⟨e7, h8, H⟩ := bind_s H
   refine TL.st rfl rfl rfl (o_ixh (f := c_T_impl_SessReply false) rfl rfl tyS_57 rfl rfl rfl rfl h8 rfl) ?_
   refine TL.st rfl rfl rfl (o_fieldAddrEl rfl rfl rfl tyS_3 (by decide) rfl rfl rfl) ?_
   refine TL.sn rfl rfl (o_stEl (f := c_T_impl_SessReply false) (xs := l1) (k := v3) (a := e7) ({ e7 with Err_ := v2 } : T_impl_SessReply) rfl tyS_3 rfl rfl rfl rfl (by decide) h8 rfl rfl rfl (fun _ => rfl) rfl) ?_
   refine TL.conv (Cs.eqV (t := 0) (v' := .hd 0 ((l1.set (Int.toNat v3) ({ e7 with Err_ := v2 } : T_impl_SessReply)).map (c_T_impl_SessReply false)).length 0 ((l1.set (Int.toNat v3) ({ e7 with Err_ := v2 } : T_impl_SessReply)).map (c_T_impl_SessReply false)).length) rfl (hd_len _ (List.length_set ..))) ?_
   refine TL.conv (Cs.eqV (t := 7) (v' := .hd 0 ((l1.set (Int.toNat v3) ({ e7 with Err_ := v2 } : T_impl_SessReply)).map (c_T_impl_SessReply false)).length 0 ((l1.set (Int.toNat v3) ({ e7 with Err_ := v2 } : T_impl_SessReply)).map (c_T_impl_SessReply false)).length) rfl (hd_len _ (List.length_set ..))) ?_
   refine TL.conv (Cs.eqV (t := 12) (v' := .hd 0 ((l1.set (Int.toNat v3) ({ e7 with Err_ := v2 } : T_impl_SessReply)).map (c_T_impl_SessReply false)).length 0 ((l1.set (Int.toNat v3) ({ e7 with Err_ := v2 } : T_impl_SessReply)).map (c_T_impl_SessReply false)).length) rfl (hd_len _ (List.length_set ..))) ?_
   refine TL.conv (Cs.eqV (t := 15) (v' := .el 0 ((l1.set (Int.toNat v3) ({ e7 with Err_ := v2 } : T_impl_SessReply)).map (c_T_impl_SessReply false)).length (Int.toNat v3) 0) rfl (el_len _ _ _ (List.length_set ..))) ?_
   refine TL.conv (Cs.eqV (t := 16) (v' := .el 0 ((l1.set (Int.toNat v3) ({ e7 with Err_ := v2 } : T_impl_SessReply)).map (c_T_impl_SessReply false)).length (Int.toNat v3) 0) rfl (el_len _ _ _ (List.length_set ..))) ?_
   refine au 12 ?_
   obtain ⟨r9, h10, H⟩ := bind_s H
   refine TL.st rfl rfl rfl (o_callP rfl en_32 rfl rfl (.cons _ _ _ _ (.cl _ rfl) .nil) (laws_markText_p  h10)) ?_
   obtain ⟨e11, h12, H⟩ := bind_s H
   refine TL.st rfl rfl rfl (o_ixh (f := c_T_impl_SessReply false) rfl rfl tyS_57 rfl rfl rfl rfl h12 rfl) ?_
   refine TL.st rfl rfl rfl (o_fieldAddrEl rfl rfl rfl tyS_9 (by decide) rfl rfl rfl) ?_
   refine TL.sn rfl rfl (o_stEl (f := c_T_impl_SessReply false) (xs := (l1.set (Int.toNat v3) ({ e7 with Err_ := v2 } : T_impl_SessReply))) (k := v3) (a := e11) ({ e11 with Id_ := r9 } : T_impl_SessReply) rfl tyS_9 rfl rfl rfl rfl (by decide) h12 rfl rfl rfl (fun _ => rfl) rfl) ?_
   refine TL.conv (Cs.eqV (t := 0) (v' := .hd 0 (((l1.set (Int.toNat v3) ({ e7 with Err_ := v2 } : T_impl_SessReply)).set (Int.toNat v3) ({ e11 with Id_ := r9 } : T_impl_SessReply)).map (c_T_impl_SessReply false)).length 0 (((l1.set (Int.toNat v3) ({ e7 with Err_ := v2 } : T_impl_SessReply)).set (Int.toNat v3) ({ e11 with Id_ := r9 } : T_impl_SessReply)).map (c_T_impl_SessReply false)).length) rfl (hd_len _ (List.length_set ..))) ?_
   refine TL.conv (Cs.eqV (t := 7) (v' := .hd 0 (((l1.set (Int.toNat v3) ({ e7 with Err_ := v2 } : T_impl_SessReply)).set (Int.toNat v3) ({ e11 with Id_ := r9 } : T_impl_SessReply)).map (c_T_impl_SessReply false)).length 0 (((l1.set (Int.toNat v3) ({ e7 with Err_ := v2 } : T_impl_SessReply)).set (Int.toNat v3) ({ e11 with Id_ := r9 } : T_impl_SessReply)).map (c_T_impl_SessReply false)).length) rfl (hd_len _ (List.length_set ..))) ?_
   refine TL.conv (Cs.eqV (t := 12) (v' := .hd 0 (((l1.set (Int.toNat v3) ({ e7 with Err_ := v2 } : T_impl_SessReply)).set (Int.toNat v3) ({ e11 with Id_ := r9 } : T_impl_SessReply)).map (c_T_impl_SessReply false)).length 0 (((l1.set (Int.toNat v3) ({ e7 with Err_ := v2 } : T_impl_SessReply)).set (Int.toNat v3) ({ e11 with Id_ := r9 } : T_impl_SessReply)).map (c_T_impl_SessReply false)).length) rfl (hd_len _ (List.length_set ..))) ?_
   refine TL.conv (Cs.eqV (t := 15) (v' := .el 0 (((l1.set (Int.toNat v3) ({ e7 with Err_ := v2 } : T_impl_SessReply)).set (Int.toNat v3) ({ e11 with Id_ := r9 } : T_impl_SessReply)).map (c_T_impl_SessReply false)).length (Int.toNat v3) 0) rfl (el_len _ _ _ (List.length_set ..))) ?_
   refine TL.conv (Cs.eqV (t := 16) (v' := .el 0 (((l1.set (Int.toNat v3) ({ e7 with Err_ := v2 } : T_impl_SessReply)).set (Int.toNat v3) ({ e11 with Id_ := r9 } : T_impl_SessReply)).map (c_T_impl_SessReply false)).length (Int.toNat v3) 0) rfl (el_len _ _ _ (List.length_set ..))) ?_
   refine TL.conv (Cs.eqV (t := 19) (v' := .hd 0 (((l1.set (Int.toNat v3) ({ e7 with Err_ := v2 } : T_impl_SessReply)).set (Int.toNat v3) ({ e11 with Id_ := r9 } : T_impl_SessReply)).map (c_T_impl_SessReply false)).length 0 (((l1.set (Int.toNat v3) ({ e7 with Err_ := v2 } : T_impl_SessReply)).set (Int.toNat v3) ({ e11 with Id_ := r9 } : T_impl_SessReply)).map (c_T_impl_SessReply false)).length) rfl (hd_len _ (List.length_set ..))) ?_
   refine TL.conv (Cs.eqV (t := 23) (v' := .el 0 (((l1.set (Int.toNat v3) ({ e7 with Err_ := v2 } : T_impl_SessReply)).set (Int.toNat v3) ({ e11 with Id_ := r9 } : T_impl_SessReply)).map (c_T_impl_SessReply false)).length (Int.toNat v3) 0) rfl (el_len _ _ _ (List.length_set ..))) ?_
   refine TL.conv (Cs.eqV (t := 24) (v' := .el 0 (((l1.set (Int.toNat v3) ({ e7 with Err_ := v2 } : T_impl_SessReply)).set (Int.toNat v3) ({ e11 with Id_ := r9 } : T_impl_SessReply)).map (c_T_impl_SessReply false)).length (Int.toNat v3) 1) rfl (el_len _ _ _ (List.length_set ..))) ?_
   refine au 12 ?_
   obtain ⟨r13, h14, H⟩ := bind_s H
   refine TL.st rfl rfl rfl (o_callP rfl en_32 rfl rfl (.cons _ _ _ _ (.cl _ rfl) .nil) (laws_markText_p  h14)) ?_
   obtain ⟨e15, h16, H⟩ := bind_s H
   refine TL.st rfl rfl rfl (o_ixh (f := c_T_impl_SessReply false) rfl rfl tyS_57 rfl rfl rfl rfl h16 rfl) ?_
   refine TL.st rfl rfl rfl (o_fieldAddrEl rfl rfl rfl tyS_9 (by decide) rfl rfl rfl) ?_
   refine TL.sn rfl rfl (o_stEl (f := c_T_impl_SessReply false) (xs := ((l1.set (Int.toNat v3) ({ e7 with Err_ := v2 } : T_impl_SessReply)).set (Int.toNat v3) ({ e11 with Id_ := r9 } : T_impl_SessReply))) (k := v3) (a := e15) ({ e15 with User_ := r13 } : T_impl_SessReply) rfl tyS_9 rfl rfl rfl rfl (by decide) h16 rfl rfl rfl (fun _ => rfl) rfl) ?_
   refine TL.conv (Cs.eqV (t := 0) (v' := .hd 0 ((((l1.set (Int.toNat v3) ({ e7 with Err_ := v2 } : T_impl_SessReply)).set (Int.toNat v3) ({ e11 with Id_ := r9 } : T_impl_SessReply)).set (Int.toNat v3) ({ e15 with User_ := r13 } : T_impl_SessReply)).map (c_T_impl_SessReply false)).length 0 ((((l1.set (Int.toNat v3) ({ e7 with Err_ := v2 } : T_impl_SessReply)).set (Int.toNat v3) ({ e11 with Id_ := r9 } : T_impl_SessReply)).set (Int.toNat v3) ({ e15 with User_ := r13 } : T_impl_SessReply)).map (c_T_impl_SessReply false)).length) rfl (hd_len _ (List.length_set ..))) ?_
   refine TL.conv (Cs.eqV (t := 7) (v' := .hd 0 ((((l1.set (Int.toNat v3) ({ e7 with Err_ := v2 } : T_impl_SessReply)).set (Int.toNat v3) ({ e11 with Id_ := r9 } : T_impl_SessReply)).set (Int.toNat v3) ({ e15 with User_ := r13 } : T_impl_SessReply)).map (c_T_impl_SessReply false)).length 0 ((((l1.set (Int.toNat v3) ({ e7 with Err_ := v2 } : T_impl_SessReply)).set (Int.toNat v3) ({ e11 with Id_ := r9 } : T_impl_SessReply)).set (Int.toNat v3) ({ e15 with User_ := r13 } : T_impl_SessReply)).map (c_T_impl_SessReply false)).length) rfl (hd_len _ (List.length_set ..))) ?_
   refine TL.conv (Cs.eqV (t := 12) (v' := .hd 0 ((((l1.set (Int.toNat v3) ({ e7 with Err_ := v2 } : T_impl_SessReply)).set (Int.toNat v3) ({ e11 with Id_ := r9 } : T_impl_SessReply)).set (Int.toNat v3) ({ e15 with User_ := r13 } : T_impl_SessReply)).map (c_T_impl_SessReply false)).length 0 ((((l1.set (Int.toNat v3) ({ e7 with Err_ := v2 } : T_impl_SessReply)).set (Int.toNat v3) ({ e11 with Id_ := r9 } : T_impl_SessReply)).set (Int.toNat v3) ({ e15 with User_ := r13 } : T_impl_SessReply)).map (c_T_impl_SessReply false)).length) rfl (hd_len _ (List.length_set ..))) ?_
   refine TL.conv (Cs.eqV (t := 15) (v' := .el 0 ((((l1.set (Int.toNat v3) ({ e7 with Err_ := v2 } : T_impl_SessReply)).set (Int.toNat v3) ({ e11 with Id_ := r9 } : T_impl_SessReply)).set (Int.toNat v3) ({ e15 with User_ := r13 } : T_impl_SessReply)).map (c_T_impl_SessReply false)).length (Int.toNat v3) 0) rfl (el_len _ _ _ (List.length_set ..))) ?_
   refine TL.conv (Cs.eqV (t := 16) (v' := .el 0 ((((l1.set (Int.toNat v3) ({ e7 with Err_ := v2 } : T_impl_SessReply)).set (Int.toNat v3) ({ e11 with Id_ := r9 } : T_impl_SessReply)).set (Int.toNat v3) ({ e15 with User_ := r13 } : T_impl_SessReply)).map (c_T_impl_SessReply false)).length (Int.toNat v3) 0) rfl (el_len _ _ _ (List.length_set ..))) ?_
   refine TL.conv (Cs.eqV (t := 19) (v' := .hd 0 ((((l1.set (Int.toNat v3) ({ e7 with Err_ := v2 } : T_impl_SessReply)).set (Int.toNat v3) ({ e11 with Id_ := r9 } : T_impl_SessReply)).set (Int.toNat v3) ({ e15 with User_ := r13 } : T_impl_SessReply)).map (c_T_impl_SessReply false)).length 0 ((((l1.set (Int.toNat v3) ({ e7 with Err_ := v2 } : T_impl_SessReply)).set (Int.toNat v3) ({ e11 with Id_ := r9 } : T_impl_SessReply)).set (Int.toNat v3) ({ e15 with User_ := r13 } : T_impl_SessReply)).map (c_T_impl_SessReply false)).length) rfl (hd_len _ (List.length_set ..))) ?_
   refine TL.conv (Cs.eqV (t := 23) (v' := .el 0 ((((l1.set (Int.toNat v3) ({ e7 with Err_ := v2 } : T_impl_SessReply)).set (Int.toNat v3) ({ e11 with Id_ := r9 } : T_impl_SessReply)).set (Int.toNat v3) ({ e15 with User_ := r13 } : T_impl_SessReply)).map (c_T_impl_SessReply false)).length (Int.toNat v3) 0) rfl (el_len _ _ _ (List.length_set ..))) ?_
   refine TL.conv (Cs.eqV (t := 24) (v' := .el 0 ((((l1.set (Int.toNat v3) ({ e7 with Err_ := v2 } : T_impl_SessReply)).set (Int.toNat v3) ({ e11 with Id_ := r9 } : T_impl_SessReply)).set (Int.toNat v3) ({ e15 with User_ := r13 } : T_impl_SessReply)).map (c_T_impl_SessReply false)).length (Int.toNat v3) 1) rfl (el_len _ _ _ (List.length_set ..))) ?_
   refine TL.conv (Cs.eqV (t := 27) (v' := .hd 0 ((((l1.set (Int.toNat v3) ({ e7 with Err_ := v2 } : T_impl_SessReply)).set (Int.toNat v3) ({ e11 with Id_ := r9 } : T_impl_SessReply)).set (Int.toNat v3) ({ e15 with User_ := r13 } : T_impl_SessReply)).map (c_T_impl_SessReply false)).length 0 ((((l1.set (Int.toNat v3) ({ e7 with Err_ := v2 } : T_impl_SessReply)).set (Int.toNat v3) ({ e11 with Id_ := r9 } : T_impl_SessReply)).set (Int.toNat v3) ({ e15 with User_ := r13 } : T_impl_SessReply)).map (c_T_impl_SessReply false)).length) rfl (hd_len _ (List.length_set ..))) ?_
   refine TL.conv (Cs.eqV (t := 31) (v' := .el 0 ((((l1.set (Int.toNat v3) ({ e7 with Err_ := v2 } : T_impl_SessReply)).set (Int.toNat v3) ({ e11 with Id_ := r9 } : T_impl_SessReply)).set (Int.toNat v3) ({ e15 with User_ := r13 } : T_impl_SessReply)).map (c_T_impl_SessReply false)).length (Int.toNat v3) 0) rfl (el_len _ _ _ (List.length_set ..))) ?_
   refine TL.conv (Cs.eqV (t := 32) (v' := .el 0 ((((l1.set (Int.toNat v3) ({ e7 with Err_ := v2 } : T_impl_SessReply)).set (Int.toNat v3) ({ e11 with Id_ := r9 } : T_impl_SessReply)).set (Int.toNat v3) ({ e15 with User_ := r13 } : T_impl_SessReply)).map (c_T_impl_SessReply false)).length (Int.toNat v3) 2) rfl (el_len _ _ _ (List.length_set ..))) ?_
   refine au 2 ?_
   refine T.conv (Cs.eqS (σ' := [.arr .clo 4 ((((l1.set (Int.toNat v3) ({ e7 with Err_ := v2 } : T_impl_SessReply)).set (Int.toNat v3) ({ e11 with Id_ := r9 } : T_impl_SessReply)).set (Int.toNat v3) ({ e15 with User_ := r13 } : T_impl_SessReply)).map (c_T_impl_SessReply false))]) rfl) ?_
   refine au 10 ?_
   obtain ⟨e17, h18, H⟩ := bind_s H
   refine TL.st rfl rfl rfl (o_ixh (f := c_T_impl_SessReply false) rfl rfl tyS_57 rfl rfl rfl rfl h18 rfl) ?_
   refine TL.st rfl rfl rfl (o_fieldAddrEl rfl rfl rfl tyS_3 (by decide) rfl rfl rfl) ?_
   refine TL.sn rfl rfl (o_stEl (f := c_T_impl_SessReply false) (xs := (((l1.set (Int.toNat v3) ({ e7 with Err_ := v2 } : T_impl_SessReply)).set (Int.toNat v3) ({ e11 with Id_ := r9 } : T_impl_SessReply)).set (Int.toNat v3) ({ e15 with User_ := r13 } : T_impl_SessReply))) (k := v3) (a := e17) ({ e17 with Level_ := (IntKind.i64.wrap ((IntKind.i64.wrap ((IntKind.i64.wrap (v2 + 1)) + 1)) + 1)) } : T_impl_SessReply) rfl tyS_3 rfl rfl rfl rfl (by decide) h18 rfl rfl rfl (fun _ => rfl) rfl) ?_
   refine TL.conv (Cs.eqV (t := 0) (v' := .hd 0 (((((l1.set (Int.toNat v3) ({ e7 with Err_ := v2 } : T_impl_SessReply)).set (Int.toNat v3) ({ e11 with Id_ := r9 } : T_impl_SessReply)).set (Int.toNat v3) ({ e15 with User_ := r13 } : T_impl_SessReply)).set (Int.toNat v3) ({ e17 with Level_ := (IntKind.i64.wrap ((IntKind.i64.wrap ((IntKind.i64.wrap (v2 + 1)) + 1)) + 1)) } : T_impl_SessReply)).map (c_T_impl_SessReply false)).length 0 (((((l1.set (Int.toNat v3) ({ e7 with Err_ := v2 } : T_impl_SessReply)).set (Int.toNat v3) ({ e11 with Id_ := r9 } : T_impl_SessReply)).set (Int.toNat v3) ({ e15 with User_ := r13 } : T_impl_SessReply)).set (Int.toNat v3) ({ e17 with Level_ := (IntKind.i64.wrap ((IntKind.i64.wrap ((IntKind.i64.wrap (v2 + 1)) + 1)) + 1)) } : T_impl_SessReply)).map (c_T_impl_SessReply false)).length) rfl (hd_len _ (List.length_set ..))) ?_
   refine TL.conv (Cs.eqV (t := 7) (v' := .hd 0 (((((l1.set (Int.toNat v3) ({ e7 with Err_ := v2 } : T_impl_SessReply)).set (Int.toNat v3) ({ e11 with Id_ := r9 } : T_impl_SessReply)).set (Int.toNat v3) ({ e15 with User_ := r13 } : T_impl_SessReply)).set (Int.toNat v3) ({ e17 with Level_ := (IntKind.i64.wrap ((IntKind.i64.wrap ((IntKind.i64.wrap (v2 + 1)) + 1)) + 1)) } : T_impl_SessReply)).map (c_T_impl_SessReply false)).length 0 (((((l1.set (Int.toNat v3) ({ e7 with Err_ := v2 } : T_impl_SessReply)).set (Int.toNat v3) ({ e11 with Id_ := r9 } : T_impl_SessReply)).set (Int.toNat v3) ({ e15 with User_ := r13 } : T_impl_SessReply)).set (Int.toNat v3) ({ e17 with Level_ := (IntKind.i64.wrap ((IntKind.i64.wrap ((IntKind.i64.wrap (v2 + 1)) + 1)) + 1)) } : T_impl_SessReply)).map (c_T_impl_SessReply false)).length) rfl (hd_len _ (List.length_set ..))) ?_
   refine TL.conv (Cs.eqV (t := 12) (v' := .hd 0 (((((l1.set (Int.toNat v3) ({ e7 with Err_ := v2 } : T_impl_SessReply)).set (Int.toNat v3) ({ e11 with Id_ := r9 } : T_impl_SessReply)).set (Int.toNat v3) ({ e15 with User_ := r13 } : T_impl_SessReply)).set (Int.toNat v3) ({ e17 with Level_ := (IntKind.i64.wrap ((IntKind.i64.wrap ((IntKind.i64.wrap (v2 + 1)) + 1)) + 1)) } : T_impl_SessReply)).map (c_T_impl_SessReply false)).length 0 (((((l1.set (Int.toNat v3) ({ e7 with Err_ := v2 } : T_impl_SessReply)).set (Int.toNat v3) ({ e11 with Id_ := r9 } : T_impl_SessReply)).set (Int.toNat v3) ({ e15 with User_ := r13 } : T_impl_SessReply)).set (Int.toNat v3) ({ e17 with Level_ := (IntKind.i64.wrap ((IntKind.i64.wrap ((IntKind.i64.wrap (v2 + 1)) + 1)) + 1)) } : T_impl_SessReply)).map (c_T_impl_SessReply false)).length) rfl (hd_len _ (List.length_set ..))) ?_
   refine TL.conv (Cs.eqV (t := 15) (v' := .el 0 (((((l1.set (Int.toNat v3) ({ e7 with Err_ := v2 } : T_impl_SessReply)).set (Int.toNat v3) ({ e11 with Id_ := r9 } : T_impl_SessReply)).set (Int.toNat v3) ({ e15 with User_ := r13 } : T_impl_SessReply)).set (Int.toNat v3) ({ e17 with Level_ := (IntKind.i64.wrap ((IntKind.i64.wrap ((IntKind.i64.wrap (v2 + 1)) + 1)) + 1)) } : T_impl_SessReply)).map (c_T_impl_SessReply false)).length (Int.toNat v3) 0) rfl (el_len _ _ _ (List.length_set ..))) ?_
   refine TL.conv (Cs.eqV (t := 16) (v' := .el 0 (((((l1.set (Int.toNat v3) ({ e7 with Err_ := v2 } : T_impl_SessReply)).set (Int.toNat v3) ({ e11 with Id_ := r9 } : T_impl_SessReply)).set (Int.toNat v3) ({ e15 with User_ := r13 } : T_impl_SessReply)).set (Int.toNat v3) ({ e17 with Level_ := (IntKind.i64.wrap ((IntKind.i64.wrap ((IntKind.i64.wrap (v2 + 1)) + 1)) + 1)) } : T_impl_SessReply)).map (c_T_impl_SessReply false)).length (Int.toNat v3) 0) rfl (el_len _ _ _ (List.length_set ..))) ?_
   refine TL.conv (Cs.eqV (t := 19) (v' := .hd 0 (((((l1.set (Int.toNat v3) ({ e7 with Err_ := v2 } : T_impl_SessReply)).set (Int.toNat v3) ({ e11 with Id_ := r9 } : T_impl_SessReply)).set (Int.toNat v3) ({ e15 with User_ := r13 } : T_impl_SessReply)).set (Int.toNat v3) ({ e17 with Level_ := (IntKind.i64.wrap ((IntKind.i64.wrap ((IntKind.i64.wrap (v2 + 1)) + 1)) + 1)) } : T_impl_SessReply)).map (c_T_impl_SessReply false)).length 0 (((((l1.set (Int.toNat v3) ({ e7 with Err_ := v2 } : T_impl_SessReply)).set (Int.toNat v3) ({ e11 with Id_ := r9 } : T_impl_SessReply)).set (Int.toNat v3) ({ e15 with User_ := r13 } : T_impl_SessReply)).set (Int.toNat v3) ({ e17 with Level_ := (IntKind.i64.wrap ((IntKind.i64.wrap ((IntKind.i64.wrap (v2 + 1)) + 1)) + 1)) } : T_impl_SessReply)).map (c_T_impl_SessReply false)).length) rfl (hd_len _ (List.length_set ..))) ?_
   refine TL.conv (Cs.eqV (t := 23) (v' := .el 0 (((((l1.set (Int.toNat v3) ({ e7 with Err_ := v2 } : T_impl_SessReply)).set (Int.toNat v3) ({ e11 with Id_ := r9 } : T_impl_SessReply)).set (Int.toNat v3) ({ e15 with User_ := r13 } : T_impl_SessReply)).set (Int.toNat v3) ({ e17 with Level_ := (IntKind.i64.wrap ((IntKind.i64.wrap ((IntKind.i64.wrap (v2 + 1)) + 1)) + 1)) } : T_impl_SessReply)).map (c_T_impl_SessReply false)).length (Int.toNat v3) 0) rfl (el_len _ _ _ (List.length_set ..))) ?_
   refine TL.conv (Cs.eqV (t := 24) (v' := .el 0 (((((l1.set (Int.toNat v3) ({ e7 with Err_ := v2 } : T_impl_SessReply)).set (Int.toNat v3) ({ e11 with Id_ := r9 } : T_impl_SessReply)).set (Int.toNat v3) ({ e15 with User_ := r13 } : T_impl_SessReply)).set (Int.toNat v3) ({ e17 with Level_ := (IntKind.i64.wrap ((IntKind.i64.wrap ((IntKind.i64.wrap (v2 + 1)) + 1)) + 1)) } : T_impl_SessReply)).map (c_T_impl_SessReply false)).length (Int.toNat v3) 1) rfl (el_len _ _ _ (List.length_set ..))) ?_
   refine TL.conv (Cs.eqV (t := 27) (v' := .hd 0 (((((l1.set (Int.toNat v3) ({ e7 with Err_ := v2 } : T_impl_SessReply)).set (Int.toNat v3) ({ e11 with Id_ := r9 } : T_impl_SessReply)).set (Int.toNat v3) ({ e15 with User_ := r13 } : T_impl_SessReply)).set (Int.toNat v3) ({ e17 with Level_ := (IntKind.i64.wrap ((IntKind.i64.wrap ((IntKind.i64.wrap (v2 + 1)) + 1)) + 1)) } : T_impl_SessReply)).map (c_T_impl_SessReply false)).length 0 (((((l1.set (Int.toNat v3) ({ e7 with Err_ := v2 } : T_impl_SessReply)).set (Int.toNat v3) ({ e11 with Id_ := r9 } : T_impl_SessReply)).set (Int.toNat v3) ({ e15 with User_ := r13 } : T_impl_SessReply)).set (Int.toNat v3) ({ e17 with Level_ := (IntKind.i64.wrap ((IntKind.i64.wrap ((IntKind.i64.wrap (v2 + 1)) + 1)) + 1)) } : T_impl_SessReply)).map (c_T_impl_SessReply false)).length) rfl (hd_len _ (List.length_set ..))) ?_
   refine TL.conv (Cs.eqV (t := 31) (v' := .el 0 (((((l1.set (Int.toNat v3) ({ e7 with Err_ := v2 } : T_impl_SessReply)).set (Int.toNat v3) ({ e11 with Id_ := r9 } : T_impl_SessReply)).set (Int.toNat v3) ({ e15 with User_ := r13 } : T_impl_SessReply)).set (Int.toNat v3) ({ e17 with Level_ := (IntKind.i64.wrap ((IntKind.i64.wrap ((IntKind.i64.wrap (v2 + 1)) + 1)) + 1)) } : T_impl_SessReply)).map (c_T_impl_SessReply false)).length (Int.toNat v3) 0) rfl (el_len _ _ _ (List.length_set ..))) ?_
   refine TL.conv (Cs.eqV (t := 32) (v' := .el 0 (((((l1.set (Int.toNat v3) ({ e7 with Err_ := v2 } : T_impl_SessReply)).set (Int.toNat v3) ({ e11 with Id_ := r9 } : T_impl_SessReply)).set (Int.toNat v3) ({ e15 with User_ := r13 } : T_impl_SessReply)).set (Int.toNat v3) ({ e17 with Level_ := (IntKind.i64.wrap ((IntKind.i64.wrap ((IntKind.i64.wrap (v2 + 1)) + 1)) + 1)) } : T_impl_SessReply)).map (c_T_impl_SessReply false)).length (Int.toNat v3) 2) rfl (el_len _ _ _ (List.length_set ..))) ?_
   refine TL.conv (Cs.eqV (t := 35) (v' := .hd 0 (((((l1.set (Int.toNat v3) ({ e7 with Err_ := v2 } : T_impl_SessReply)).set (Int.toNat v3) ({ e11 with Id_ := r9 } : T_impl_SessReply)).set (Int.toNat v3) ({ e15 with User_ := r13 } : T_impl_SessReply)).set (Int.toNat v3) ({ e17 with Level_ := (IntKind.i64.wrap ((IntKind.i64.wrap ((IntKind.i64.wrap (v2 + 1)) + 1)) + 1)) } : T_impl_SessReply)).map (c_T_impl_SessReply false)).length 0 (((((l1.set (Int.toNat v3) ({ e7 with Err_ := v2 } : T_impl_SessReply)).set (Int.toNat v3) ({ e11 with Id_ := r9 } : T_impl_SessReply)).set (Int.toNat v3) ({ e15 with User_ := r13 } : T_impl_SessReply)).set (Int.toNat v3) ({ e17 with Level_ := (IntKind.i64.wrap ((IntKind.i64.wrap ((IntKind.i64.wrap (v2 + 1)) + 1)) + 1)) } : T_impl_SessReply)).map (c_T_impl_SessReply false)).length) rfl (hd_len _ (List.length_set ..))) ?_
   refine TL.conv (Cs.eqV (t := 38) (v' := .el 0 (((((l1.set (Int.toNat v3) ({ e7 with Err_ := v2 } : T_impl_SessReply)).set (Int.toNat v3) ({ e11 with Id_ := r9 } : T_impl_SessReply)).set (Int.toNat v3) ({ e15 with User_ := r13 } : T_impl_SessReply)).set (Int.toNat v3) ({ e17 with Level_ := (IntKind.i64.wrap ((IntKind.i64.wrap ((IntKind.i64.wrap (v2 + 1)) + 1)) + 1)) } : T_impl_SessReply)).map (c_T_impl_SessReply false)).length (Int.toNat v3) 0) rfl (el_len _ _ _ (List.length_set ..))) ?_
   refine TL.conv (Cs.eqV (t := 39) (v' := .el 0 (((((l1.set (Int.toNat v3) ({ e7 with Err_ := v2 } : T_impl_SessReply)).set (Int.toNat v3) ({ e11 with Id_ := r9 } : T_impl_SessReply)).set (Int.toNat v3) ({ e15 with User_ := r13 } : T_impl_SessReply)).set (Int.toNat v3) ({ e17 with Level_ := (IntKind.i64.wrap ((IntKind.i64.wrap ((IntKind.i64.wrap (v2 + 1)) + 1)) + 1)) } : T_impl_SessReply)).map (c_T_impl_SessReply false)).length (Int.toNat v3) 3) rfl (el_len _ _ _ (List.length_set ..))) ?_
   refine au 11 ?_
   exact Pk.of (thn_normal ⟨(((((l1.set (Int.toNat v3) ({ e7 with Err_ := v2 } : T_impl_SessReply)).set (Int.toNat v3) ({ e11 with Id_ := r9 } : T_impl_SessReply)).set (Int.toNat v3) ({ e15 with User_ := r13 } : T_impl_SessReply)).set (Int.toNat v3) ({ e17 with Level_ := (IntKind.i64.wrap ((IntKind.i64.wrap ((IntKind.i64.wrap (v2 + 1)) + 1)) + 1)) } : T_impl_SessReply)), (IntKind.i64.wrap ((IntKind.i64.wrap ((IntKind.i64.wrap ((IntKind.i64.wrap (v2 + 1)) + 1)) + 1)) + 1)), (IntKind.i64.wrap (v3 + 1))), (some_i H).symm, rfl, rfl⟩)
  ·refine T.exit ?_
   refine thn_exit ?_
   exact Pk.of (thn_exit ⟨(l1, v2), (some_i H).symm, rfl, rfl, rfl⟩)
 ·rcases q19 with ⟨l4, v5⟩
  rintro _ _ _ ⟨rfl, rfl, rfl⟩
  refine inB_here ?_
  refine au 6 ?_
  cases some_i H
  exact ⟨trivial, _, (.tmp _ _ _ _ rfl .nil), ⟨rfl, _, rfl⟩⟩
theorem en_15 : En Tryd.prog 15 := .of Tryd.func15 rfl rfl
noncomputable def laws_heldSessReplyS_l1 (a0 : (List T_impl_SessReply)) : (Int × Int) → Option ((Int × Int) ⊕ (Int ⊕ Int)) := fun s => match s with
  | (v1, v2) => cond (decide (v2 < (a0.length : Int))) ((idx a0 v2).bind fun e6 => cond (e6.Err_ != v1) (some (.inr (.inr (-1)))) ((idx a0 v2).bind fun e8 => (laws_markText (IntKind.i64.wrap (v1 + 1))).bind fun r10 => cond (!(e8.Id_.toList == r10.toList)) (some (.inr (.inr (-1)))) ((idx a0 v2).bind fun e12 => (laws_markText (IntKind.i64.wrap ((IntKind.i64.wrap (v1 + 1)) + 1))).bind fun r14 => cond (!(e12.User_.toList == r14.toList)) (some (.inr (.inr (-1)))) ((idx a0 v2).bind fun e16 => cond (e16.Level_ != (IntKind.i64.wrap ((IntKind.i64.wrap ((IntKind.i64.wrap (v1 + 1)) + 1)) + 1))) (some (.inr (.inr (-1)))) (some (.inl ((IntKind.i64.wrap ((IntKind.i64.wrap ((IntKind.i64.wrap ((IntKind.i64.wrap (v1 + 1)) + 1)) + 1)) + 1)), (IntKind.i64.wrap (v2 + 1))))))))) (some (.inr (.inl v1)))
noncomputable def laws_heldSessReplyS (a0 : (List T_impl_SessReply)) (a1 : Int) : Option Int :=
  (loopO (laws_heldSessReplyS_l1 a0) (a1, 0)).bind fun q18 => (match q18 with | .inl v3 => some v3 | .inr q4 => some q4)
theorem laws_heldSessReplyS_p (b0 : Bool) {a0 : (List T_impl_SessReply)} {a1 : Int} {R0 : Int} (H : laws_heldSessReplyS a0 a1 = some R0) : Pure Tryd.prog 16 [.im b0 (a0.map (c_T_impl_SessReply false)), .int .i64 a1] (.int .i64 R0) := by
 refine CallT.of_TN (n := 51) Tryd.func16 rfl rfl rfl rfl ?_
 refine au 10 ?_
 obtain ⟨q18, h19, H⟩ := bind_s H
 refine T.lq (fun s => match s with | (v1, v2) => [(0, .im b0 (a0.map (c_T_impl_SessReply false))), (1, .int .i64 v1), (5, .int .i64 v2)]) (fun s => match s with | (v1, v2) => []) (fun q ex fr σ => match q with | .inl v3 => ex = .exit 0 ∧ fr = [(1, .int .i64 v3)] ∧ σ = [] | .inr q4 => ex = .ret ∧ RetN Tryd.prog [.tmp 4] (fun v τ => Told τ v (.int .i64 q4)) .ret fr σ) h19 ?_ ?_
 ·rintro ⟨v1, v2⟩ y5 H
  refine au 5 ?_
  refine TL.st rfl rfl rfl (o_lenL (f := c_T_impl_SessReply false) rfl rfl rfl) ?_
  refine au 2 ?_
  refine T.cH H (fun H h => ?_) (fun H h => ?_)
  ·refine au 8 ?_
   obtain ⟨e6, h7, H⟩ := bind_s H
   refine TL.st rfl rfl rfl (o_ix (f := c_T_impl_SessReply false) rfl rfl tyS_57 rfl rfl h7 rfl) ?_
   refine TL.st rfl rfl rfl (o_fieldAddr rfl rfl rfl tyS_3 (by decide) rfl rfl trivial) ?_
   refine au 4 ?_
   refine T.cH H (fun H h => ?_) (fun H h => ?_)
   ·refine au 5 ?_
    refine thn_ret (inB_ret (thn_ret ?_))
    exact Pk.id (thn_ret ⟨.inr (-1), (some_i H).symm, rfl, ⟨trivial, _, (.tmp _ _ _ _ rfl .nil), (.cl _ rfl)⟩⟩)
   ·refine au 9 ?_
    refine T.drawn rfl ?_
    refine ad 2 ?_
    obtain ⟨e8, h9, H⟩ := bind_s H
    refine TD.qs rfl rfl (fun _ => o_ix (f := c_T_impl_SessReply false) rfl rfl tyS_57 rfl rfl h9 rfl) ?_
    refine TD.qs rfl rfl (fun _ => o_fieldAddr rfl rfl rfl tyS_9 (by decide) rfl rfl trivial) ?_
    refine TD.qs rfl rfl (fun _ => o_loadRf rfl tyS_9 rfl (nb rfl) rfl) ?_
    refine TD.qs rfl rfl (fun _ => o_move rfl rfl) ?_
    obtain ⟨r10, h11, H⟩ := bind_s H
    refine TD.qs rfl rfl (fun _ => o_callP rfl en_32 rfl rfl (.cons _ _ _ _ (.cl _ rfl) .nil) (laws_markText_p  h11)) ?_
    refine TD.qs rfl rfl (fun _ => o_str rfl rfl rfl rfl) ?_
    refine TD.nil ⟨rfl, ?_⟩
    refine thn_normal ?_
    refine T.cH H (fun H h => ?_) (fun H h => ?_)
    ·refine au 5 ?_
     refine thn_ret (inB_ret (thn_ret ?_))
     exact Pk.id (thn_ret ⟨.inr (-1), (some_i H).symm, rfl, ⟨trivial, _, (.tmp _ _ _ _ rfl .nil), (.cl _ rfl)⟩⟩)
    ·refine au 9 ?_
     refine T.drawn rfl ?_
     refine ad 2 ?_
     obtain ⟨e12, h13, H⟩ := bind_s H
     refine TD.qs rfl rfl (fun _ => o_ix (f := c_T_impl_SessReply false) rfl rfl tyS_57 rfl rfl h13 rfl) ?_
     refine TD.qs rfl rfl (fun _ => o_fieldAddr rfl rfl rfl tyS_9 (by decide) rfl rfl trivial) ?_
     refine TD.qs rfl rfl (fun _ => o_loadRf rfl tyS_9 rfl (nb rfl) rfl) ?_
     refine TD.qs rfl rfl (fun _ => o_move rfl rfl) ?_
     obtain ⟨r14, h15, H⟩ := bind_s H
     refine TD.qs rfl rfl (fun _ => o_callP rfl en_32 rfl rfl (.cons _ _ _ _ (.cl _ rfl) .nil) (laws_markText_p  h15)) ?_
     refine TD.qs rfl rfl (fun _ => o_str rfl rfl rfl rfl) ?_
     refine TD.nil ⟨rfl, ?_⟩
     refine thn_normal ?_
     refine T.cH H (fun H h => ?_) (fun H h => ?_)
     ·refine au 5 ?_
      refine thn_ret (inB_ret (thn_ret ?_))
      exact Pk.id (thn_ret ⟨.inr (-1), (some_i H).symm, rfl, ⟨trivial, _, (.tmp _ _ _ _ rfl .nil), (.cl _ rfl)⟩⟩)
     ·refine au 12 ?_
      obtain ⟨e16, h17, H⟩ := bind_s H
      refine TL.st rfl rfl rfl (o_ix (f := c_T_impl_SessReply false) rfl rfl tyS_57 rfl rfl h17 rfl) ?_
      refine TL.st rfl rfl rfl (o_fieldAddr rfl rfl rfl tyS_3 (by decide) rfl rfl trivial) ?_
      refine au 4 ?_
      refine T.cH H (fun H h => ?_) (fun H h => ?_)
      ·refine au 5 ?_
       refine thn_ret (inB_ret (thn_ret ?_))
       exact Pk.id (thn_ret ⟨.inr (-1), (some_i H).symm, rfl, ⟨trivial, _, (.tmp _ _ _ _ rfl .nil), (.cl _ rfl)⟩⟩)
      ·refine au 11 ?_
       exact Pk.of (thn_normal ⟨((IntKind.i64.wrap ((IntKind.i64.wrap ((IntKind.i64.wrap ((IntKind.i64.wrap (v1 + 1)) + 1)) + 1)) + 1)), (IntKind.i64.wrap (v2 + 1))), (some_i H).symm, rfl, rfl⟩)
  ·refine T.exit ?_
   refine thn_exit ?_
   exact Pk.of (thn_exit ⟨.inl v1, (some_i H).symm, rfl, rfl, rfl⟩)
 ·rcases q18 with v3 | q4
  ·rintro _ _ _ ⟨rfl, rfl, rfl⟩
   refine inB_here ?_
   refine au 6 ?_
   cases some_i H
   exact ⟨trivial, _, (.tmp _ _ _ _ rfl .nil), (.cl _ rfl)⟩
  ·rintro _ fr1 σ1 ⟨rfl, hr⟩
   refine inB_ret (thn_ret ?_)
   cases some_i H
   exact hr
theorem en_16 : En Tryd.prog 16 := .of Tryd.func16 rfl rfl
noncomputable def laws_FnExactSignedIn (a0 : T_laws_SessConf) (a1 : (List T_laws_SessEvent)) (a2 : Int) : Option Bool :=
  (laws_szSessConf a0 1048576).bind fun r1 => cond (decide (r1 < 0)) (some true) ((laws_szSessEventS a1 r1).bind fun r3 => cond (decide (r3 < 0)) (some true) ((laws_toSessConf a0).bind fun r5 => (laws_toSessEventS a1).bind fun r7 => (spec_SignedIn r5 r7 a2).bind fun r9 => (laws_toSessConf a0).bind fun r11 => (laws_toSessEventS a1).bind fun r13 => (impl_SignedIn r11 r13 a2).bind fun r15 => (laws_eqSessReplyS r15 r9).bind fun r17 => cond (!r17) (some false) ((laws_toSessConf a0).bind fun r19 => (laws_eqSessConf r11 r19).bind fun r21 => cond (!r21) (some false) ((laws_toSessEventS a1).bind fun r23 => (laws_eqSessEventS r13 r23).bind fun r25 => cond (!r25) (some false) ((laws_markSessConfx r11 1).bind fun q => (match q with | (r27, o28) => (laws_markSessEventSx r27 r13).bind fun q => (match q with | (r30, o31) => (lenEq o31 r13).bind fun u33 => (gdO (!(decide (r30 < 0))) (laws_eqSessReplyS r15 r9)).bind fun r35 => cond (decide (r30 < 0) || (!r35)) (some false) ((laws_markSessReplySx 1 r15).bind fun q => (match q with | (r37, o38) => (lenEq o38 r15).bind fun u40 => (laws_heldSessReplyS o38 1).bind fun r42 => cond (decide (r42 < 0)) (some false) (cond (r42 != r37) (some false) ((laws_toSessConf a0).bind fun r44 => (laws_toSessEventS a1).bind fun r46 => (impl_SignedIn r44 r46 a2).bind fun r48 => (laws_eqSessReplyS r48 r9).bind fun r50 => cond (!r50) (some false) ((laws_heldSessReplyS o38 1).bind fun r52 => cond (decide (r52 < 0)) (some false) (cond (r52 != r37) (some false) (some true))))))))))))))
theorem laws_FnExactSignedIn_p (b0 : Bool) {a0 : T_laws_SessConf} {a1 : (List T_laws_SessEvent)} {a2 : Int} {R0 : Bool} (H : laws_FnExactSignedIn a0 a1 a2 = some R0) : Pure Tryd.prog 3 [.agg (c_T_laws_SessConf false a0), .im b0 (a1.map (c_T_laws_SessEvent false)), .int .i64 a2] (.bool R0) := by
 refine CallT.of_TN (n := 97) Tryd.func3 rfl rfl rfl rfl ?_
 refine au 13 ?_
 obtain ⟨r1, h2, H⟩ := bind_s H
 refine TL.st rfl rfl rfl (o_callP rfl en_4 rfl rfl (.cons _ _ _ _ (.cl _ rfl) (.cons _ _ _ _ (.cl _ rfl) .nil)) (laws_szSessConf_p false h2)) ?_
 refine au 8 ?_
 refine T.cH H (fun H h => ?_) (fun H h => ?_)
 ·refine au 5 ?_
  refine thn_ret ?_
  cases some_i H
  exact ⟨trivial, _, (.tmp _ _ _ _ rfl .nil), (.cl _ rfl)⟩
 ·refine au 5 ?_
  obtain ⟨r3, h4, H⟩ := bind_s H
  refine TL.st rfl rfl rfl (o_callP rfl en_5 rfl rfl (.cons _ _ _ _ (.imv _ _) (.cons _ _ _ _ (.cl _ rfl) .nil)) (laws_szSessEventS_p b0 h4)) ?_
  refine au 8 ?_
  refine T.cH H (fun H h => ?_) (fun H h => ?_)
  ·refine au 5 ?_
   refine thn_ret ?_
   cases some_i H
   exact ⟨trivial, _, (.tmp _ _ _ _ rfl .nil), (.cl _ rfl)⟩
  ·refine au 4 ?_
   obtain ⟨r5, h6, H⟩ := bind_s H
   refine TL.st rfl rfl rfl (o_callP rfl en_7 rfl rfl (.cons _ _ _ _ (.cl _ rfl) .nil) (laws_toSessConf_p false h6)) ?_
   refine TL.st rfl rfl rfl (o_move rfl rfl) ?_
   obtain ⟨r7, h8, H⟩ := bind_s H
   refine TL.st rfl rfl rfl (o_callP rfl en_8 rfl rfl (.cons _ _ _ _ (.imv _ _) .nil) (laws_toSessEventS_p b0 h8)) ?_
   refine TL.st rfl rfl rfl (o_move rfl rfl) ?_
   obtain ⟨r9, h10, H⟩ := bind_s H
   refine TL.st rfl rfl rfl (o_callP rfl en_6 rfl rfl (.cons _ _ _ _ (.cl _ rfl) (.cons _ _ _ _ (.cl _ rfl) (.cons _ _ _ _ (.cl _ rfl) .nil))) (spec_SignedIn_p false false h10)) ?_
   refine au 5 ?_
   obtain ⟨r11, h12, H⟩ := bind_s H
   refine TL.st rfl rfl rfl (o_callS [] rfl en_7 rfl rfl (laws_toSessConf_o false h12) rfl (by decide) .nil rfl rfl rfl) ?_
   refine TL.st rfl rfl rfl (o_alloc rfl ⟨_, rfl, rfl⟩) ?_
   refine TL.sn rfl rfl (o_storeBx rfl tyS_30 rfl rfl rfl rfl (nb rfl) (sure_hd rfl rfl (sure_c rfl (sure_c rfl rfl)))) ?_
   refine au 2 ?_
   refine T.conv (Cs.eqS (σ' := [.box (c_T_laws_SessConf false a0), .arr .clo 1 (r11.Key_.map (c_int .u8)), .box (k_impl_SessConf 1 false r11)]) rfl) ?_
   refine au 2 ?_
   obtain ⟨r13, h14, H⟩ := bind_s H
   refine TL.st rfl rfl rfl (o_callOwn rfl en_8 rfl rfl (.cons _ _ _ _ (.imv _ _) .nil) (laws_toSessEventS_o b0 h14)) ?_
   refine au 7 ?_
   obtain ⟨r15, h16, H⟩ := bind_s H
   refine TL.st rfl rfl rfl (o_callOwn rfl en_9 rfl rfl (.cons _ _ _ _ (Lent.aggL (.cons _ _ _ _ (.own rfl (by decide) rfl) (.cons _ _ _ _ (.cl _ rfl) (.cons _ _ _ _ (.cl _ rfl) .nil)))) (.cons _ _ _ _ (.own rfl (by decide) rfl) (.cons _ _ _ _ (.cl _ rfl) .nil))) (impl_SignedIn_o true true h16)) ?_
   refine au 7 ?_
   obtain ⟨r17, h18, H⟩ := bind_s H
   refine TL.st rfl rfl rfl (o_callP rfl en_10 rfl rfl (.cons _ _ _ _ (.own rfl (by decide) rfl) (.cons _ _ _ _ (.cl _ rfl) .nil)) (laws_eqSessReplyS_p true false h18)) ?_
   refine au 2 ?_
   refine T.cH H (fun H h => ?_) (fun H h => ?_)
   ·refine au 5 ?_
    refine thn_ret ?_
    cases some_i H
    exact ⟨trivial, _, (.tmp _ _ _ _ rfl .nil), (.cl _ rfl)⟩
   ·refine au 3 ?_
    refine T.drawn rfl ?_
    refine ad 2 ?_
    obtain ⟨r19, h20, H⟩ := bind_s H
    refine TD.qs rfl rfl (fun _ => o_callP rfl en_7 rfl rfl (.cons _ _ _ _ (.cl _ rfl) .nil) (laws_toSessConf_p false h20)) ?_
    obtain ⟨r21, h22, H⟩ := bind_s H
    refine TD.rs rfl rfl (o_callP rfl en_11 rfl rfl (.cons _ _ _ _ (Lent.aggL (.cons _ _ _ _ (.own rfl (by decide) rfl) (.cons _ _ _ _ (.cl _ rfl) (.cons _ _ _ _ (.cl _ rfl) .nil)))) (.cons _ _ _ _ (.cl _ rfl) .nil)) (laws_eqSessConf_p true false h22)) ?_
    refine TD.qs rfl rfl (fun _ => o_not rfl rfl) ?_
    refine TD.nil ⟨rfl, ?_⟩
    refine thn_normal ?_
    refine T.cH H (fun H h => ?_) (fun H h => ?_)
    ·refine au 5 ?_
     refine thn_ret ?_
     cases some_i H
     exact ⟨trivial, _, (.tmp _ _ _ _ rfl .nil), (.cl _ rfl)⟩
    ·refine au 6 ?_
     obtain ⟨r23, h24, H⟩ := bind_s H
     refine TL.st rfl rfl rfl (o_callP rfl en_8 rfl rfl (.cons _ _ _ _ (.imv _ _) .nil) (laws_toSessEventS_p b0 h24)) ?_
     obtain ⟨r25, h26, H⟩ := bind_s H
     refine TL.st rfl rfl rfl (o_callP rfl en_12 rfl rfl (.cons _ _ _ _ (.own rfl (by decide) rfl) (.cons _ _ _ _ (.cl _ rfl) .nil)) (laws_eqSessEventS_p true false h26)) ?_
     refine au 2 ?_
     refine T.cH H (fun H h => ?_) (fun H h => ?_)
     ·refine au 5 ?_
      refine thn_ret ?_
      cases some_i H
      exact ⟨trivial, _, (.tmp _ _ _ _ rfl .nil), (.cl _ rfl)⟩
     ·refine au 9 ?_
      obtain ⟨⟨r27, o28⟩, h29, H⟩ := bind_s H
      refine TL.st rfl rfl rfl (o_callS [1] rfl en_13 rfl rfl (laws_markSessConfx_p  h29) rfl (by decide) (.cons _ _ _ _ rfl .nil) rfl rfl rfl) ?_
      refine au 3 ?_
      refine T.conv (Cs.eqS (σ' := [_, .arr .clo 1 (o28.map (c_int .u8)), _, .arr .clo 5 (r13.map (c_T_impl_SessEvent false)), .arr .clo 4 (r15.map (c_T_impl_SessReply false))]) rfl) ?_
      refine au 3 ?_
      obtain ⟨⟨r30, o31⟩, h32, H⟩ := bind_s H
      obtain ⟨u33, h34, H⟩ := bind_s H
      refine TL.st rfl rfl rfl (o_callS [3] rfl en_14 rfl rfl (laws_markSessEventSx_p  h32) rfl (by decide) (.cons _ _ _ _ rfl .nil) rfl rfl rfl) ?_
      refine TL.conv (Cs.eqV (t := 10) (v' := .hd 3 (o31.map (c_T_impl_SessEvent false)).length 0 (o31.map (c_T_impl_SessEvent false)).length) rfl (hd_len _ (lenEq_s h34))) ?_
      refine TL.conv (Cs.eqV (t := 35) (v' := .hd 3 (o31.map (c_T_impl_SessEvent false)).length 0 (o31.map (c_T_impl_SessEvent false)).length) rfl (hd_len _ (lenEq_s h34))) ?_
      refine TL.conv (Cs.eqV (t := 37) (v' := .hd 3 (o31.map (c_T_impl_SessEvent false)).length 0 (o31.map (c_T_impl_SessEvent false)).length) rfl (hd_len _ (lenEq_s h34))) ?_
      refine TL.conv (Cs.eqV (t := 49) (v' := .hd 3 (o31.map (c_T_impl_SessEvent false)).length 0 (o31.map (c_T_impl_SessEvent false)).length) rfl (hd_len _ (lenEq_s h34))) ?_
      refine TL.conv (Cs.eqV (t := 57) (v' := .hd 3 (o31.map (c_T_impl_SessEvent false)).length 0 (o31.map (c_T_impl_SessEvent false)).length) rfl (hd_len _ (lenEq_s h34))) ?_
      refine au 10 ?_
      obtain ⟨r35, h36, H⟩ := bind_s H
      refine TL.gcq rfl rfl rfl (.bool _) rfl rfl (fun h => o_callP rfl en_10 rfl (evl_2 (gv h rfl) (gv h rfl)) (.cons _ _ _ _ (.own rfl (by decide) rfl) (.cons _ _ _ _ (.cl _ rfl) .nil)) (laws_eqSessReplyS_p true false (gdO_t h36 h))) ?_
      refine au 3 ?_
      refine T.cH H (fun H h => ?_) (fun H h => ?_)
      ·refine au 5 ?_
       refine thn_ret ?_
       cases some_i H
       exact ⟨trivial, _, (.tmp _ _ _ _ rfl .nil), (.cl _ rfl)⟩
      ·refine au 9 ?_
       obtain ⟨⟨r37, o38⟩, h39, H⟩ := bind_s H
       obtain ⟨u40, h41, H⟩ := bind_s H
       refine TL.st rfl rfl rfl (o_callS [4] rfl en_15 rfl rfl (laws_markSessReplySx_p  h39) rfl (by decide) (.cons _ _ _ _ rfl .nil) rfl rfl rfl) ?_
       refine TL.conv (Cs.eqV (t := 11) (v' := .hd 4 (o38.map (c_T_impl_SessReply false)).length 0 (o38.map (c_T_impl_SessReply false)).length) rfl (hd_len _ (lenEq_s h41))) ?_
       refine TL.conv (Cs.eqV (t := 39) (v' := .hd 4 (o38.map (c_T_impl_SessReply false)).length 0 (o38.map (c_T_impl_SessReply false)).length) rfl (hd_len _ (lenEq_s h41))) ?_
       refine TL.conv (Cs.eqV (t := 40) (v' := .hd 4 (o38.map (c_T_impl_SessReply false)).length 0 (o38.map (c_T_impl_SessReply false)).length) rfl (hd_len _ (lenEq_s h41))) ?_
       refine TL.conv (Cs.eqV (t := 68) (v' := .hd 4 (o38.map (c_T_impl_SessReply false)).length 0 (o38.map (c_T_impl_SessReply false)).length) rfl (hd_len _ (lenEq_s h41))) ?_
       refine au 10 ?_
       obtain ⟨r42, h43, H⟩ := bind_s H
       refine TL.st rfl rfl rfl (o_callP rfl en_16 rfl rfl (.cons _ _ _ _ (.own rfl (by decide) rfl) (.cons _ _ _ _ (.cl _ rfl) .nil)) (laws_heldSessReplyS_p true h43)) ?_
       refine au 8 ?_
       refine T.cH H (fun H h => ?_) (fun H h => ?_)
       ·refine au 5 ?_
        refine thn_ret ?_
        cases some_i H
        exact ⟨trivial, _, (.tmp _ _ _ _ rfl .nil), (.cl _ rfl)⟩
       ·refine au 8 ?_
        refine T.cH H (fun H h => ?_) (fun H h => ?_)
        ·refine au 5 ?_
         refine thn_ret ?_
         cases some_i H
         exact ⟨trivial, _, (.tmp _ _ _ _ rfl .nil), (.cl _ rfl)⟩
        ·refine au 4 ?_
         obtain ⟨r44, h45, H⟩ := bind_s H
         refine TL.st rfl rfl rfl (o_callP rfl en_7 rfl rfl (.cons _ _ _ _ (.cl _ rfl) .nil) (laws_toSessConf_p false h45)) ?_
         refine TL.st rfl rfl rfl (o_move rfl rfl) ?_
         obtain ⟨r46, h47, H⟩ := bind_s H
         refine TL.st rfl rfl rfl (o_callP rfl en_8 rfl rfl (.cons _ _ _ _ (.imv _ _) .nil) (laws_toSessEventS_p b0 h47)) ?_
         refine TL.st rfl rfl rfl (o_move rfl rfl) ?_
         obtain ⟨r48, h49, H⟩ := bind_s H
         refine TL.st rfl rfl rfl (o_callP rfl en_9 rfl rfl (.cons _ _ _ _ (.cl _ rfl) (.cons _ _ _ _ (.cl _ rfl) (.cons _ _ _ _ (.cl _ rfl) .nil))) (impl_SignedIn_p false false h49)) ?_
         refine au 7 ?_
         obtain ⟨r50, h51, H⟩ := bind_s H
         refine TL.st rfl rfl rfl (o_callP rfl en_10 rfl rfl (.cons _ _ _ _ (.cl _ rfl) (.cons _ _ _ _ (.cl _ rfl) .nil)) (laws_eqSessReplyS_p false false h51)) ?_
         refine au 2 ?_
         refine T.cH H (fun H h => ?_) (fun H h => ?_)
         ·refine au 5 ?_
          refine thn_ret ?_
          cases some_i H
          exact ⟨trivial, _, (.tmp _ _ _ _ rfl .nil), (.cl _ rfl)⟩
         ·refine au 9 ?_
          obtain ⟨r52, h53, H⟩ := bind_s H
          refine TL.st rfl rfl rfl (o_callP rfl en_16 rfl rfl (.cons _ _ _ _ (.own rfl (by decide) rfl) (.cons _ _ _ _ (.cl _ rfl) .nil)) (laws_heldSessReplyS_p true h53)) ?_
          refine au 8 ?_
          refine T.cH H (fun H h => ?_) (fun H h => ?_)
          ·refine au 5 ?_
           refine thn_ret ?_
           cases some_i H
           exact ⟨trivial, _, (.tmp _ _ _ _ rfl .nil), (.cl _ rfl)⟩
          ·refine au 8 ?_
           refine T.cH H (fun H h => ?_) (fun H h => ?_)
           ·refine au 5 ?_
            refine thn_ret ?_
            cases some_i H
            exact ⟨trivial, _, (.tmp _ _ _ _ rfl .nil), (.cl _ rfl)⟩
           ·refine au 6 ?_
            cases some_i H
            exact ⟨trivial, _, (.tmp _ _ _ _ rfl .nil), (.cl _ rfl)⟩
end Go.G36.SX
