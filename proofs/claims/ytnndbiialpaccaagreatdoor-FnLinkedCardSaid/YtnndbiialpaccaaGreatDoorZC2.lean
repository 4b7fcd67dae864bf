import Derived.Test.YtnndbiialpaccaaGreatDoorZC1
set_option linter.all false
set_option maxRecDepth 20000
set_option maxHeartbeats 4000000
namespace Go.G36.ZL
open Go Go.Proofs
theorem spec_l1Cur_kindBool_pb {rec_spec_l1Cur_kindBool : (Int × T_spec_l1Cur) → Option (T_spec_l10E × T_spec_l1Cur)} (Hrec_spec_l1Cur_kindBool : ∀ (c0 : Bool) {a0 : Int} {s0 : T_spec_l1Cur} {R0 : T_spec_l10E} {U0 : T_spec_l1Cur}, rec_spec_l1Cur_kindBool (a0, s0) = some (R0, U0) → St Go.Proofs.Tryz.prog 38 [.bx 0 0, .int .i64 a0] [.box (c_T_spec_l1Cur c0 s0)] (.agg (c_T_spec_l10E false R0)) [.box (c_T_spec_l1Cur c0 U0)]) (c0 : Bool) {a0 : Int} {s0 : T_spec_l1Cur} {R0 : T_spec_l10E} {U0 : T_spec_l1Cur} (H : spec_l1Cur_kindBool_b rec_spec_l1Cur_kindBool a0 s0 = some (R0, U0)) : St Go.Proofs.Tryz.prog 38 [.bx 0 0, .int .i64 a0] [.box (c_T_spec_l1Cur c0 s0)] (.agg (c_T_spec_l10E false R0)) [.box (c_T_spec_l1Cur c0 U0)] := by
 refine CallT.fin (CallT.of_TN (n := 124) Go.Proofs.Tryz.func38 rfl rfl rfl rfl ?_) rfl rfl ⟨(bels_iff.1 rfl), trivial⟩
 refine T.seq (T.region (TL.st rfl rfl rfl (o_alloc rfl ⟨_, rfl, rfl⟩) (TL.nil (thn_normal (T.seq (T.region (TL.st rfl rfl rfl (o_move rfl rfl) ?_)))))))
 obtain ⟨⟨r1, o2⟩, h3, H⟩ := bind_s H
 refine TL.st rfl rfl rfl (o_callS [0] rfl en_14 rfl rfl (spec_l1Cur_pick_p c0 h3) rfl (by decide) (.cons _ _ _ _ rfl .nil) rfl rfl rfl) ?_
 refine TL.st rfl rfl rfl (o_assign rfl rfl) (TL.nil (thn_normal (T.cut (fun fr' σ' => ∃ (v4 : Int), fr' = [(0, .bx 0 0), (1, .int .i64 a0), (4, .bx 1 0), (5, .int .i64 v4)] ∧ σ' = [.box (c_T_spec_l1Cur c0 o2), .box [.int .i64 0, .str (ByteArray.mk #[]), .int .i64 0, .int .i64 0, .str (ByteArray.mk #[]), .str (ByteArray.mk #[]), .int .i64 0, .nilS]] ∧ spec_l1Cur_kindBool_j1 a0 rec_spec_l1Cur_kindBool o2 v4 = some (R0, U0)) (T.pk ?_) ?_)))
 ·skip
  refine T.seq (T.region (TL.st rfl rfl rfl (o_move rfl rfl) (TL.st rfl rfl rfl (o_ari rfl rfl rfl rfl) (TL.st rfl rfl rfl (o_move rfl rfl) (TL.gcq rfl rfl rfl (.bool _) rfl rfl (fun h => o_move rfl rfl) (TL.gcq rfl rfl rfl (.bool _) rfl rfl (fun h => o_ari rfl (gv h rfl) rfl rfl) ?_))))))
  refine TL.st rfl rfl rfl (o_and rfl rfl rfl (fun k => Gd_t k) rfl) (TL.nil (thn_normal ?_))
  refine T.cond (((a0 == 0) && decide (r1 < 4))) rfl (fun h => ?_) (fun h => ?_)
  ·replace H := cond_t h H
   refine T.region (TL.st rfl rfl rfl (o_move rfl rfl) (TL.st rfl rfl rfl (o_ari rfl rfl rfl rfl) (TL.st rfl rfl rfl (o_assign rfl rfl) (TL.nil ?_))))
   exact Pk.go (fr' := [(0, .bx 0 0), (1, .int .i64 a0), (4, .bx 1 0), (5, .int .i64 (IntKind.i64.wrap (r1 + 4)))]) (σ' := [.box (c_T_spec_l1Cur c0 o2), .box [.int .i64 0, .str (ByteArray.mk #[]), .int .i64 0, .int .i64 0, .str (ByteArray.mk #[]), .str (ByteArray.mk #[]), .int .i64 0, .nilS]]) _ rfl rfl ⟨(bels_iff.1 rfl), ⟨(bels_iff.1 rfl), trivial⟩⟩ (.cons 0 _ (.bx 0 0) _ rfl (.same _) rfl (.cons 1 _ (.int .i64 a0) _ rfl (.same _) rfl (.cons 4 _ (.bx 1 0) _ rfl (.same _) rfl (.cons 5 _ (.int .i64 (IntKind.i64.wrap (r1 + 4))) _ rfl (.same _) rfl .nil)))) (thn_normal ⟨(IntKind.i64.wrap (r1 + 4)), rfl, rfl, H⟩)
  ·replace H := cond_f h H
   refine T.skip ?_
   exact Pk.go (fr' := [(0, .bx 0 0), (1, .int .i64 a0), (4, .bx 1 0), (5, .int .i64 r1)]) (σ' := [.box (c_T_spec_l1Cur c0 o2), .box [.int .i64 0, .str (ByteArray.mk #[]), .int .i64 0, .int .i64 0, .str (ByteArray.mk #[]), .str (ByteArray.mk #[]), .int .i64 0, .nilS]]) _ rfl rfl ⟨(bels_iff.1 rfl), ⟨(bels_iff.1 rfl), trivial⟩⟩ (.cons 0 _ (.bx 0 0) _ rfl (.same _) rfl (.cons 1 _ (.int .i64 a0) _ rfl (.same _) rfl (.cons 4 _ (.bx 1 0) _ rfl (.same _) rfl (.cons 5 _ (.int .i64 r1) _ rfl (.same _) rfl .nil)))) (thn_normal ⟨r1, rfl, rfl, H⟩)
 ·rintro _ _ ⟨v4, rfl, rfl, H⟩
  refine T.seq (T.region ?_)
  obtain ⟨r5, h6, H⟩ := bind_s H
  refine TL.st rfl rfl rfl (o_callP rfl en_60 rfl rfl (.cons _ _ _ _ (.cl _ rfl) (.cons _ _ _ _ (.cl _ rfl) (.cons _ _ _ _ .nil .nil))) (spec_l10Node_p false h6)) ?_
  refine TL.st rfl rfl rfl (o_alloc rfl ⟨_, rfl, rfl⟩) (TL.sn rfl rfl (o_storeBx rfl tyS_67 rfl rfl rfl rfl (Nat.le_of_ble_eq_true rfl) rfl) ?_)
  refine TL.nil (thn_normal (T.seq (T.region ?_)))
  obtain ⟨r7, h8, H⟩ := bind_s H
  refine TL.st rfl rfl rfl (o_callP rfl en_60 rfl rfl (.cons _ _ _ _ (.cl _ rfl) (.cons _ _ _ _ (.cl _ rfl) (.cons _ _ _ _ .nil .nil))) (spec_l10Node_p false h8)) ?_
  refine TL.st rfl rfl rfl (o_alloc rfl ⟨_, rfl, rfl⟩) (TL.sn rfl rfl (o_storeBx rfl tyS_67 rfl rfl rfl rfl (Nat.le_of_ble_eq_true rfl) rfl) ?_)
  refine TL.nil (thn_normal (T.seq (T.seq (T.region (TL.st rfl rfl rfl (o_move rfl rfl) (TL.nil (thn_normal (T.block (T.cut (fun fr' σ' => ∃ (v9 : Bool), fr' = [(0, .bx 0 0), (1, .int .i64 a0), (4, .bx 1 0), (6, .bx 2 0), (7, .bx 3 0), (21, .int .i64 v4), (22, .bool v9)] ∧ σ' = [.box (c_T_spec_l1Cur c0 o2), .box [.int .i64 0, .str (ByteArray.mk #[]), .int .i64 0, .int .i64 0, .str (ByteArray.mk #[]), .str (ByteArray.mk #[]), .int .i64 0, .nilS], .box (c_T_spec_l10E false r5), .box (c_T_spec_l10E false r7)] ∧ spec_l1Cur_kindBool_j2 a0 rec_spec_l1Cur_kindBool o2 v4 r5 r7 v9 = some (R0, U0)) (T.pk ?_) ?_)))))))))
  ·skip
   refine T.seq (T.region (TL.st rfl rfl rfl (o_ari rfl rfl rfl rfl) (TL.st rfl rfl rfl (o_assign rfl rfl) (TL.nil (thn_normal ?_)))))
   refine T.cond ((v4 == 0)) rfl (fun h => ?_) (fun h => ?_)
   ·replace H := cond_t h H
    refine T.skip ?_
    exact Pk.go (fr' := [(0, .bx 0 0), (1, .int .i64 a0), (4, .bx 1 0), (6, .bx 2 0), (7, .bx 3 0), (21, .int .i64 v4), (22, .bool (v4 == 0))]) (σ' := [.box (c_T_spec_l1Cur c0 o2), .box [.int .i64 0, .str (ByteArray.mk #[]), .int .i64 0, .int .i64 0, .str (ByteArray.mk #[]), .str (ByteArray.mk #[]), .int .i64 0, .nilS], .box (c_T_spec_l10E false r5), .box (c_T_spec_l10E false r7)]) _ rfl rfl ⟨(bels_iff.1 rfl), ⟨(bels_iff.1 rfl), ⟨(bels_iff.1 rfl), ⟨(bels_iff.1 rfl), trivial⟩⟩⟩⟩ (.cons 0 _ (.bx 0 0) _ rfl (.same _) rfl (.cons 1 _ (.int .i64 a0) _ rfl (.same _) rfl (.cons 4 _ (.bx 1 0) _ rfl (.same _) rfl (.cons 6 _ (.bx 2 0) _ rfl (.same _) rfl (.cons 7 _ (.bx 3 0) _ rfl (.same _) rfl (.cons 21 _ (.int .i64 v4) _ rfl (.same _) rfl (.cons 22 _ (.bool (v4 == 0)) _ rfl (.same _) rfl .nil))))))) (thn_normal ⟨(v4 == 0), rfl, rfl, H⟩)
   ·replace H := cond_f h H
    refine T.region (TL.st rfl rfl rfl (o_ari rfl rfl rfl rfl) (TL.st rfl rfl rfl (o_assign rfl rfl) (TL.nil ?_)))
    exact Pk.go (fr' := [(0, .bx 0 0), (1, .int .i64 a0), (4, .bx 1 0), (6, .bx 2 0), (7, .bx 3 0), (21, .int .i64 v4), (22, .bool (v4 == 1))]) (σ' := [.box (c_T_spec_l1Cur c0 o2), .box [.int .i64 0, .str (ByteArray.mk #[]), .int .i64 0, .int .i64 0, .str (ByteArray.mk #[]), .str (ByteArray.mk #[]), .int .i64 0, .nilS], .box (c_T_spec_l10E false r5), .box (c_T_spec_l10E false r7)]) _ rfl rfl ⟨(bels_iff.1 rfl), ⟨(bels_iff.1 rfl), ⟨(bels_iff.1 rfl), ⟨(bels_iff.1 rfl), trivial⟩⟩⟩⟩ (.cons 0 _ (.bx 0 0) _ rfl (.same _) rfl (.cons 1 _ (.int .i64 a0) _ rfl (.same _) rfl (.cons 4 _ (.bx 1 0) _ rfl (.same _) rfl (.cons 6 _ (.bx 2 0) _ rfl (.same _) rfl (.cons 7 _ (.bx 3 0) _ rfl (.same _) rfl (.cons 21 _ (.int .i64 v4) _ rfl (.same _) rfl (.cons 22 _ (.bool (v4 == 1)) _ rfl (.same _) rfl .nil))))))) (thn_normal ⟨(v4 == 1), rfl, rfl, H⟩)
  ·rintro _ _ ⟨v9, rfl, rfl, H⟩
   refine T.cond (v9) rfl (fun h => ?_) (fun h => ?_)
   ·replace H := cond_t h H
    refine T.seq (T.region (TL.st rfl rfl rfl (o_move rfl rfl) ?_))
    obtain ⟨⟨r10, o11⟩, h12, H⟩ := bind_s H
    refine TL.st rfl rfl rfl (o_callS [0] rfl en_14 rfl rfl (spec_l1Cur_pick_p c0 h12) rfl (by decide) (.cons _ _ _ _ rfl .nil) rfl rfl rfl) ?_
    refine TL.st rfl rfl rfl (o_ari rfl rfl rfl rfl) (TL.st rfl rfl rfl (o_move rfl rfl) (TL.st rfl rfl rfl (o_move rfl rfl) (TL.st rfl rfl rfl (o_ari rfl rfl rfl rfl) ?_)))
    obtain ⟨⟨r13, o14⟩, h15, H⟩ := bind_s H
    refine TL.st rfl rfl rfl (o_callS [0] rfl en_38 rfl rfl (Hrec_spec_l1Cur_kindBool c0 h15) rfl (by decide) (.cons _ _ _ _ rfl .nil) rfl rfl rfl) ?_
    refine TL.st rfl rfl rfl (o_move rfl rfl) (TL.st rfl rfl rfl (o_move rfl rfl) (TL.st rfl rfl rfl (o_ari rfl rfl rfl rfl) ?_))
    obtain ⟨⟨r16, o17⟩, h18, H⟩ := bind_s H
    refine TL.st rfl rfl rfl (o_callS [0] rfl en_38 rfl rfl (Hrec_spec_l1Cur_kindBool c0 h18) rfl (by decide) (.cons _ _ _ _ rfl .nil) rfl rfl rfl) ?_
    refine TL.st rfl rfl rfl (o_sliceIm rfl rfl tyS_67 ⟨_, rfl, rfl⟩ (by decide) rfl rfl rfl rfl rfl rfl) ?_
    obtain ⟨r19, h20, H⟩ := bind_s H
    refine TL.st rfl rfl rfl (o_callP rfl en_60 rfl rfl (.cons _ _ _ _ (.cl _ rfl) (.cons _ _ _ _ (.cl _ rfl) (.cons _ _ _ _ (.cl _ rfl) .nil))) (spec_l10Node_p false h20)) ?_
    refine TL.sn rfl rfl (o_storeBx rfl tyS_67 rfl rfl rfl rfl (Nat.le_of_ble_eq_true rfl) rfl) ?_
    refine TL.nil (thn_normal (T.ret (inB_ret (thn_ret ?_))))
    cases some_i H
    exact ⟨trivial, _, (.cell _ _ _ _ _ _ _ _ _ _ rfl rfl tyS_67 (Nat.le_of_ble_eq_true rfl) rfl .nil), ⟨rfl, _, rfl⟩⟩
   ·replace H := cond_f h H
    refine T.seq (T.region (TL.st rfl rfl rfl (o_ari rfl rfl rfl rfl) (TL.st rfl rfl rfl (o_assign rfl rfl) (TL.nil (thn_normal ?_)))))
    refine T.cond ((v4 == 2)) rfl (fun h => ?_) (fun h => ?_)
    ·replace H := cond_t h H
     refine T.seq (T.region (TL.st rfl rfl rfl (o_move rfl rfl) (TL.st rfl rfl rfl (o_move rfl rfl) (TL.st rfl rfl rfl (o_ari rfl rfl rfl rfl) ?_))))
     obtain ⟨⟨r21, o22⟩, h23, H⟩ := bind_s H
     refine TL.st rfl rfl rfl (o_callS [0] rfl en_38 rfl rfl (Hrec_spec_l1Cur_kindBool c0 h23) rfl (by decide) (.cons _ _ _ _ rfl .nil) rfl rfl rfl) ?_
     refine TL.st rfl rfl rfl (o_move rfl rfl) (TL.st rfl rfl rfl (o_move rfl rfl) (TL.st rfl rfl rfl (o_ari rfl rfl rfl rfl) ?_))
     obtain ⟨⟨r24, o25⟩, h26, H⟩ := bind_s H
     refine TL.st rfl rfl rfl (o_callS [0] rfl en_38 rfl rfl (Hrec_spec_l1Cur_kindBool c0 h26) rfl (by decide) (.cons _ _ _ _ rfl .nil) rfl rfl rfl) ?_
     refine TL.st rfl rfl rfl (o_move rfl rfl) (TL.st rfl rfl rfl (o_move rfl rfl) (TL.st rfl rfl rfl (o_ari rfl rfl rfl rfl) ?_))
     obtain ⟨⟨r27, o28⟩, h29, H⟩ := bind_s H
     refine TL.st rfl rfl rfl (o_callS [0] rfl en_38 rfl rfl (Hrec_spec_l1Cur_kindBool c0 h29) rfl (by decide) (.cons _ _ _ _ rfl .nil) rfl rfl rfl) ?_
     refine TL.st rfl rfl rfl (o_sliceIm rfl rfl tyS_67 ⟨_, rfl, rfl⟩ (by decide) rfl rfl rfl rfl rfl rfl) ?_
     obtain ⟨r30, h31, H⟩ := bind_s H
     refine TL.st rfl rfl rfl (o_callP rfl en_60 rfl rfl (.cons _ _ _ _ (.cl _ rfl) (.cons _ _ _ _ (.cl _ rfl) (.cons _ _ _ _ (.cl _ rfl) .nil))) (spec_l10Node_p false h31)) ?_
     refine TL.sn rfl rfl (o_storeBx rfl tyS_67 rfl rfl rfl rfl (Nat.le_of_ble_eq_true rfl) rfl) ?_
     refine TL.nil (thn_normal (T.ret (inB_ret (thn_ret ?_))))
     cases some_i H
     exact ⟨trivial, _, (.cell _ _ _ _ _ _ _ _ _ _ rfl rfl tyS_67 (Nat.le_of_ble_eq_true rfl) rfl .nil), ⟨rfl, _, rfl⟩⟩
    ·replace H := cond_f h H
     refine T.seq (T.region (TL.st rfl rfl rfl (o_ari rfl rfl rfl rfl) (TL.st rfl rfl rfl (o_assign rfl rfl) (TL.nil (thn_normal ?_)))))
     refine T.cond ((v4 == 3)) rfl (fun h => ?_) (fun h => ?_)
     ·replace H := cond_t h H
      refine T.seq (T.region (TL.st rfl rfl rfl (o_move rfl rfl) (TL.st rfl rfl rfl (o_move rfl rfl) (TL.st rfl rfl rfl (o_ari rfl rfl rfl rfl) ?_))))
      obtain ⟨⟨r32, o33⟩, h34, H⟩ := bind_s H
      refine TL.st rfl rfl rfl (o_callS [0] rfl en_38 rfl rfl (Hrec_spec_l1Cur_kindBool c0 h34) rfl (by decide) (.cons _ _ _ _ rfl .nil) rfl rfl rfl) ?_
      refine TL.st rfl rfl rfl (o_sliceIm rfl rfl tyS_67 ⟨_, rfl, rfl⟩ (by decide) rfl rfl rfl rfl rfl rfl) ?_
      obtain ⟨r35, h36, H⟩ := bind_s H
      refine TL.st rfl rfl rfl (o_callP rfl en_60 rfl rfl (.cons _ _ _ _ (.cl _ rfl) (.cons _ _ _ _ (.cl _ rfl) (.cons _ _ _ _ (.cl _ rfl) .nil))) (spec_l10Node_p false h36)) ?_
      refine TL.sn rfl rfl (o_storeBx rfl tyS_67 rfl rfl rfl rfl (Nat.le_of_ble_eq_true rfl) rfl) ?_
      refine TL.nil (thn_normal (T.ret (inB_ret (thn_ret ?_))))
      cases some_i H
      exact ⟨trivial, _, (.cell _ _ _ _ _ _ _ _ _ _ rfl rfl tyS_67 (Nat.le_of_ble_eq_true rfl) rfl .nil), ⟨rfl, _, rfl⟩⟩
     ·replace H := cond_f h H
      refine T.seq (T.region (TL.st rfl rfl rfl (o_ari rfl rfl rfl rfl) (TL.st rfl rfl rfl (o_assign rfl rfl) (TL.nil (thn_normal ?_)))))
      refine T.cond ((v4 == 4)) rfl (fun h => ?_) (fun h => ?_)
      ·replace H := cond_t h H
       refine T.seq (T.region (TL.st rfl rfl rfl (o_loadBx rfl tyS_67 rfl rfl (Nat.le_of_ble_eq_true rfl) rfl) ?_))
       refine TL.st rfl rfl rfl (o_sliceIm rfl rfl tyS_67 ⟨_, rfl, rfl⟩ (by decide) rfl rfl rfl rfl rfl rfl) ?_
       obtain ⟨r37, h38, H⟩ := bind_s H
       refine TL.st rfl rfl rfl (o_callP rfl en_60 rfl rfl (.cons _ _ _ _ (.cl _ rfl) (.cons _ _ _ _ (.cl _ rfl) (.cons _ _ _ _ (.cl _ rfl) .nil))) (spec_l10Node_p false h38)) ?_
       refine TL.st rfl rfl rfl (o_alloc rfl ⟨_, rfl, rfl⟩) (TL.sn rfl rfl (o_storeBx rfl tyS_67 rfl rfl rfl rfl (Nat.le_of_ble_eq_true rfl) rfl) ?_)
       refine TL.nil (thn_normal (T.seq (T.drawn rfl ?_)))
       refine TD.rs rfl rfl (o_loadBx rfl tyS_67 rfl rfl (Nat.le_of_ble_eq_true rfl) rfl) ?_
       refine TD.qs rfl rfl (fun _ => o_sliceIm rfl rfl tyS_67 ⟨_, rfl, rfl⟩ (by decide) rfl rfl rfl rfl rfl rfl) ?_
       obtain ⟨r39, h40, H⟩ := bind_s H
       refine TD.qs rfl rfl (fun _ => o_callP rfl en_60 rfl rfl (.cons _ _ _ _ (.cl _ rfl) (.cons _ _ _ _ (.cl _ rfl) (.cons _ _ _ _ (.cl _ rfl) .nil))) (spec_l10Node_p false h40)) ?_
       refine TD.rs rfl rfl (o_loadBx rfl tyS_67 rfl rfl (Nat.le_of_ble_eq_true rfl) rfl) ?_
       refine TD.qs rfl rfl (fun _ => o_sliceIm rfl rfl tyS_67 ⟨_, rfl, rfl⟩ (by decide) rfl rfl rfl rfl rfl rfl) ?_
       obtain ⟨r41, h42, H⟩ := bind_s H
       refine TD.qs rfl rfl (fun _ => o_callP rfl en_60 rfl rfl (.cons _ _ _ _ (.cl _ rfl) (.cons _ _ _ _ (.cl _ rfl) (.cons _ _ _ _ (.cl _ rfl) .nil))) (spec_l10Node_p false h42)) ?_
       refine TD.qs rfl rfl (fun _ => o_move rfl rfl) ?_
       obtain ⟨⟨r43, o44⟩, h45, H⟩ := bind_s H
       refine TD.as rfl rfl (o_callS [0] rfl en_65 rfl rfl (spec_l1Cur_kindNum_p c0 h45) rfl (by decide) (.cons _ _ _ _ rfl .nil) rfl rfl rfl) ?_
       refine TD.qs rfl rfl (fun _ => o_sliceIm rfl rfl tyS_67 ⟨_, rfl, rfl⟩ (by decide) rfl rfl rfl rfl rfl rfl) ?_
       obtain ⟨r46, h47, H⟩ := bind_s H
       refine TD.qs rfl rfl (fun _ => o_callP rfl en_60 rfl rfl (.cons _ _ _ _ (.cl _ rfl) (.cons _ _ _ _ (.cl _ rfl) (.cons _ _ _ _ (.cl _ rfl) .nil))) (spec_l10Node_p false h47)) ?_
       refine TD.qs rfl rfl (fun _ => o_sliceIm rfl rfl tyS_67 ⟨_, rfl, rfl⟩ (by decide) rfl rfl rfl rfl rfl rfl) ?_
       obtain ⟨r48, h49, H⟩ := bind_s H
       refine TD.qs rfl rfl (fun _ => o_callP rfl en_60 rfl rfl (.cons _ _ _ _ (.cl _ rfl) (.cons _ _ _ _ (.cl _ rfl) (.cons _ _ _ _ (.cl _ rfl) .nil))) (spec_l10Node_p false h49)) ?_
       refine TD.an rfl rfl (o_storeBx rfl tyS_67 rfl rfl rfl rfl (Nat.le_of_ble_eq_true rfl) rfl) ?_
       refine TD.nil ⟨rfl, ?_⟩
       refine thn_normal (T.ret (inB_ret (thn_ret ?_)))
       cases some_i H
       exact ⟨trivial, _, (.cell _ _ _ _ _ _ _ _ _ _ rfl rfl tyS_67 (Nat.le_of_ble_eq_true rfl) rfl .nil), ⟨rfl, _, rfl⟩⟩
      ·replace H := cond_f h H
       refine T.seq (T.region (TL.st rfl rfl rfl (o_ari rfl rfl rfl rfl) (TL.st rfl rfl rfl (o_assign rfl rfl) (TL.nil (thn_normal ?_)))))
       refine T.cond ((v4 == 5)) rfl (fun h => ?_) (fun h => ?_)
       ·replace H := cond_t h H
        refine T.seq (T.region (TL.st rfl rfl rfl (o_loadBx rfl tyS_67 rfl rfl (Nat.le_of_ble_eq_true rfl) rfl) ?_))
        refine TL.st rfl rfl rfl (o_sliceIm rfl rfl tyS_67 ⟨_, rfl, rfl⟩ (by decide) rfl rfl rfl rfl rfl rfl) ?_
        obtain ⟨r50, h51, H⟩ := bind_s H
        refine TL.st rfl rfl rfl (o_callP rfl en_60 rfl rfl (.cons _ _ _ _ (.cl _ rfl) (.cons _ _ _ _ (.cl _ rfl) (.cons _ _ _ _ (.cl _ rfl) .nil))) (spec_l10Node_p false h51)) ?_
        refine TL.st rfl rfl rfl (o_move rfl rfl) (TL.st rfl rfl rfl (o_sliceIm rfl rfl tyS_9 ⟨_, rfl, rfl⟩ (by decide) rfl rfl rfl rfl rfl rfl) ?_)
        obtain ⟨⟨r52, o53⟩, h54, H⟩ := bind_s H
        refine TL.st rfl rfl rfl (o_callS [0] rfl en_17 rfl rfl (spec_l1Cur_of_p false c0 h54) rfl (by decide) (.cons _ _ _ _ rfl .nil) rfl rfl rfl) ?_
        refine TL.st rfl rfl rfl (o_build rfl ⟨_, fun _ => rfl, rfl⟩ rfl rfl rfl) ?_
        obtain ⟨r55, h56, H⟩ := bind_s H
        refine TL.st rfl rfl rfl (o_callP rfl en_63 rfl rfl (.cons _ _ _ _ (.cl _ rfl) .nil) (spec_l10Lit_p  h56)) ?_
        refine TL.st rfl rfl rfl (o_sliceIm rfl rfl tyS_67 ⟨_, rfl, rfl⟩ (by decide) rfl rfl rfl rfl rfl rfl) ?_
        obtain ⟨r57, h58, H⟩ := bind_s H
        refine TL.st rfl rfl rfl (o_callP rfl en_60 rfl rfl (.cons _ _ _ _ (.cl _ rfl) (.cons _ _ _ _ (.cl _ rfl) (.cons _ _ _ _ (.cl _ rfl) .nil))) (spec_l10Node_p false h58)) ?_
        refine TL.sn rfl rfl (o_storeBx rfl tyS_67 rfl rfl rfl rfl (Nat.le_of_ble_eq_true rfl) rfl) ?_
        refine TL.nil (thn_normal (T.ret (inB_ret (thn_ret ?_))))
        cases some_i H
        exact ⟨trivial, _, (.cell _ _ _ _ _ _ _ _ _ _ rfl rfl tyS_67 (Nat.le_of_ble_eq_true rfl) rfl .nil), ⟨rfl, _, rfl⟩⟩
       ·replace H := cond_f h H
        refine T.seq (T.region (TL.st rfl rfl rfl (o_ari rfl rfl rfl rfl) (TL.st rfl rfl rfl (o_assign rfl rfl) (TL.nil (thn_normal ?_)))))
        refine T.cond ((v4 == 6)) rfl (fun h => ?_) (fun h => ?_)
        ·replace H := cond_t h H
         refine T.seq (T.region (TL.st rfl rfl rfl (o_loadBx rfl tyS_67 rfl rfl (Nat.le_of_ble_eq_true rfl) rfl) ?_))
         refine TL.st rfl rfl rfl (o_sliceIm rfl rfl tyS_67 ⟨_, rfl, rfl⟩ (by decide) rfl rfl rfl rfl rfl rfl) ?_
         obtain ⟨r59, h60, H⟩ := bind_s H
         refine TL.st rfl rfl rfl (o_callP rfl en_60 rfl rfl (.cons _ _ _ _ (.cl _ rfl) (.cons _ _ _ _ (.cl _ rfl) (.cons _ _ _ _ (.cl _ rfl) .nil))) (spec_l10Node_p false h60)) ?_
         refine TL.sn rfl rfl (o_storeBx rfl tyS_67 rfl rfl rfl rfl (Nat.le_of_ble_eq_true rfl) rfl) ?_
         refine TL.nil (thn_normal (T.ret (inB_ret (thn_ret ?_))))
         cases some_i H
         exact ⟨trivial, _, (.cell _ _ _ _ _ _ _ _ _ _ rfl rfl tyS_67 (Nat.le_of_ble_eq_true rfl) rfl .nil), ⟨rfl, _, rfl⟩⟩
        ·replace H := cond_f h H
         refine T.seq (T.region (TL.st rfl rfl rfl (o_ari rfl rfl rfl rfl) (TL.st rfl rfl rfl (o_assign rfl rfl) (TL.nil (thn_normal ?_)))))
         refine T.cond ((v4 == 7)) rfl (fun h => ?_) (fun h => ?_)
         ·replace H := cond_t h H
          refine T.seq (T.drawn rfl ?_)
          refine TD.rs rfl rfl (o_loadBx rfl tyS_67 rfl rfl (Nat.le_of_ble_eq_true rfl) rfl) ?_
          refine TD.qs rfl rfl (fun _ => o_sliceIm rfl rfl tyS_67 ⟨_, rfl, rfl⟩ (by decide) rfl rfl rfl rfl rfl rfl) ?_
          obtain ⟨r61, h62, H⟩ := bind_s H
          refine TD.qs rfl rfl (fun _ => o_callP rfl en_60 rfl rfl (.cons _ _ _ _ (.cl _ rfl) (.cons _ _ _ _ (.cl _ rfl) (.cons _ _ _ _ (.cl _ rfl) .nil))) (spec_l10Node_p false h62)) ?_
          refine TD.rs rfl rfl (o_loadBx rfl tyS_67 rfl rfl (Nat.le_of_ble_eq_true rfl) rfl) ?_
          refine TD.qs rfl rfl (fun _ => o_sliceIm rfl rfl tyS_67 ⟨_, rfl, rfl⟩ (by decide) rfl rfl rfl rfl rfl rfl) ?_
          obtain ⟨r63, h64, H⟩ := bind_s H
          refine TD.qs rfl rfl (fun _ => o_callP rfl en_60 rfl rfl (.cons _ _ _ _ (.cl _ rfl) (.cons _ _ _ _ (.cl _ rfl) (.cons _ _ _ _ (.cl _ rfl) .nil))) (spec_l10Node_p false h64)) ?_
          refine TD.an rfl rfl (o_storeBx rfl tyS_67 rfl rfl rfl rfl (Nat.le_of_ble_eq_true rfl) rfl) ?_
          refine TD.nil ⟨rfl, ?_⟩
          refine thn_normal (T.ret (inB_ret (thn_ret ?_)))
          cases some_i H
          exact ⟨trivial, _, (.cell _ _ _ _ _ _ _ _ _ _ rfl rfl tyS_67 (Nat.le_of_ble_eq_true rfl) rfl .nil), ⟨rfl, _, rfl⟩⟩
         ·replace H := cond_f h H
          refine T.seq (T.region (TL.st rfl rfl rfl (o_ari rfl rfl rfl rfl) (TL.st rfl rfl rfl (o_assign rfl rfl) (TL.nil (thn_normal ?_)))))
          refine T.cond ((v4 == 8)) rfl (fun h => ?_) (fun h => ?_)
          ·replace H := cond_t h H
           refine T.seq (T.region (TL.st rfl rfl rfl (o_loadBx rfl tyS_67 rfl rfl (Nat.le_of_ble_eq_true rfl) rfl) ?_))
           refine TL.st rfl rfl rfl (o_sliceIm rfl rfl tyS_67 ⟨_, rfl, rfl⟩ (by decide) rfl rfl rfl rfl rfl rfl) ?_
           obtain ⟨r65, h66, H⟩ := bind_s H
           refine TL.st rfl rfl rfl (o_callP rfl en_60 rfl rfl (.cons _ _ _ _ (.cl _ rfl) (.cons _ _ _ _ (.cl _ rfl) (.cons _ _ _ _ (.cl _ rfl) .nil))) (spec_l10Node_p false h66)) ?_
           refine TL.st rfl rfl rfl (o_sliceIm rfl rfl tyS_67 ⟨_, rfl, rfl⟩ (by decide) rfl rfl rfl rfl rfl rfl) ?_
           obtain ⟨r67, h68, H⟩ := bind_s H
           refine TL.st rfl rfl rfl (o_callP rfl en_60 rfl rfl (.cons _ _ _ _ (.cl _ rfl) (.cons _ _ _ _ (.cl _ rfl) (.cons _ _ _ _ (.cl _ rfl) .nil))) (spec_l10Node_p false h68)) ?_
           refine TL.sn rfl rfl (o_storeBx rfl tyS_67 rfl rfl rfl rfl (Nat.le_of_ble_eq_true rfl) rfl) ?_
           refine TL.nil (thn_normal (T.ret (inB_ret (thn_ret ?_))))
           cases some_i H
           exact ⟨trivial, _, (.cell _ _ _ _ _ _ _ _ _ _ rfl rfl tyS_67 (Nat.le_of_ble_eq_true rfl) rfl .nil), ⟨rfl, _, rfl⟩⟩
          ·replace H := cond_f h H
           refine T.seq (T.region (TL.st rfl rfl rfl (o_ari rfl rfl rfl rfl) (TL.st rfl rfl rfl (o_assign rfl rfl) (TL.nil (thn_normal ?_)))))
           refine T.cond ((v4 == 9)) rfl (fun h => ?_) (fun h => ?_)
           ·replace H := cond_t h H
            refine T.seq (T.region (TL.st rfl rfl rfl (o_move rfl rfl) ?_))
            obtain ⟨⟨r69, o70⟩, h71, H⟩ := bind_s H
            refine TL.st rfl rfl rfl (o_callS [0] rfl en_64 rfl rfl (spec_l1Cur_ofContext_p c0 h71) rfl (by decide) (.cons _ _ _ _ rfl .nil) rfl rfl rfl) ?_
            refine TL.sn rfl rfl (o_storeBx rfl tyS_67 rfl rfl rfl rfl (Nat.le_of_ble_eq_true rfl) rfl) ?_
            refine TL.nil (thn_normal (T.ret (inB_ret (thn_ret ?_))))
            cases some_i H
            exact ⟨trivial, _, (.cell _ _ _ _ _ _ _ _ _ _ rfl rfl tyS_67 (Nat.le_of_ble_eq_true rfl) rfl .nil), ⟨rfl, _, rfl⟩⟩
           ·replace H := cond_f h H
            refine T.skip (inB_normal (thn_normal (T.seq (T.region (TL.st rfl rfl rfl (o_move rfl rfl) ?_)))))
            obtain ⟨⟨r72, o73⟩, h74, H⟩ := bind_s H
            refine TL.st rfl rfl rfl (o_callS [0] rfl en_14 rfl rfl (spec_l1Cur_pick_p c0 h74) rfl (by decide) (.cons _ _ _ _ rfl .nil) rfl rfl rfl) ?_
            refine TL.st rfl rfl rfl (o_ari rfl rfl rfl rfl) (TL.st rfl rfl rfl (o_move rfl rfl) ?_)
            obtain ⟨⟨r75, o76⟩, h77, H⟩ := bind_s H
            refine TL.st rfl rfl rfl (o_callS [0] rfl en_65 rfl rfl (spec_l1Cur_kindNum_p c0 h77) rfl (by decide) (.cons _ _ _ _ rfl .nil) rfl rfl rfl) ?_
            refine TL.st rfl rfl rfl (o_move rfl rfl) ?_
            obtain ⟨⟨r78, o79⟩, h80, H⟩ := bind_s H
            refine TL.st rfl rfl rfl (o_callS [0] rfl en_65 rfl rfl (spec_l1Cur_kindNum_p c0 h80) rfl (by decide) (.cons _ _ _ _ rfl .nil) rfl rfl rfl) ?_
            refine TL.st rfl rfl rfl (o_sliceIm rfl rfl tyS_67 ⟨_, rfl, rfl⟩ (by decide) rfl rfl rfl rfl rfl rfl) ?_
            obtain ⟨r81, h82, H⟩ := bind_s H
            refine TL.st rfl rfl rfl (o_callP rfl en_60 rfl rfl (.cons _ _ _ _ (.cl _ rfl) (.cons _ _ _ _ (.cl _ rfl) (.cons _ _ _ _ (.cl _ rfl) .nil))) (spec_l10Node_p false h82)) ?_
            refine TL.sn rfl rfl (o_storeBx rfl tyS_67 rfl rfl rfl rfl (Nat.le_of_ble_eq_true rfl) rfl) ?_
            refine TL.nil (thn_normal (T.ret ?_))
            cases some_i H
            exact ⟨trivial, _, (.cell _ _ _ _ _ _ _ _ _ _ rfl rfl tyS_67 (Nat.le_of_ble_eq_true rfl) rfl .nil), ⟨rfl, _, rfl⟩⟩
theorem spec_l1Cur_kindBool_p (c0 : Bool) {a0 : Int} {s0 : T_spec_l1Cur} {R0 : T_spec_l10E} {U0 : T_spec_l1Cur} (H : spec_l1Cur_kindBool a0 s0 = some (R0, U0)) : St Go.Proofs.Tryz.prog 38 [.bx 0 0, .int .i64 a0] [.box (c_T_spec_l1Cur c0 s0)] (.agg (c_T_spec_l10E false R0)) [.box (c_T_spec_l1Cur c0 U0)] :=
 fixO_ind (fun x r => match x, r with | (a0, s0), (R0, U0) => ∀ (c0 : Bool), St Go.Proofs.Tryz.prog 38 [.bx 0 0, .int .i64 a0] [.box (c_T_spec_l1Cur c0 s0)] (.agg (c_T_spec_l10E false R0)) [.box (c_T_spec_l1Cur c0 U0)]) (fun rec_spec_l1Cur_kindBool Hrec x r h => match x, r, h with | (a0, s0), (R0, U0), h => fun c0 => spec_l1Cur_kindBool_pb (fun c0 {a0} {s0} {R0} {U0} h => Hrec (a0, s0) (R0, U0) h c0) c0 h) H c0
noncomputable def spec_l1Cur_policy_j1 (b10 : T_spec_l1Cur) (b11 : T_impl_Policy) : Option (T_impl_Policy × T_spec_l1Cur) :=
  (spec_l1Cur_one 4 b10).bind fun q => (match q with | (r12, o13) => cond (!r12) ((spec_l1Cur_boolExpr 2 o13).bind fun q => (match q with | (r15, o16) => (spec_l10Putx r15).bind fun r18 => (spec_l1Cur_one 2 o16).bind fun q => (match q with | (r20, o21) => cond r20 ((spec_l1Cur_kindBool 2 o21).bind fun q => (match q with | (r23, o24) => (spec_l10Putx r23).bind fun r26 => some ((⟨b11.Id_, b11.Permit_, b11.Principal_, b11.Action_, b11.Resource_, r26⟩ : T_impl_Policy), o24))) (some ((⟨b11.Id_, b11.Permit_, b11.Principal_, b11.Action_, b11.Resource_, r18⟩ : T_impl_Policy), o21))))) (some (b11, o13)))
noncomputable def spec_l1Cur_policy (a0 : ByteArray) (s0 : T_spec_l1Cur) : Option (T_impl_Policy × T_spec_l1Cur) :=
  (spec_l1Cur_one 3 s0).bind fun q => (match q with | (r1, o2) => (spec_l1Cur_head true o2).bind fun q => (match q with | (r4, o5) => (spec_l1Cur_head true o5).bind fun q => (match q with | (r7, o8) => (spec_l1Cur_one 2 o8).bind fun q => (match q with | (r28, o29) => cond r28 ((spec_l1Cur_of ([(ByteArray.mk #[118, 105, 101, 119]), (ByteArray.mk #[101, 100, 105, 116])] : List ByteArray) o29).bind fun q => (match q with | (r31, o32) => (spec_l10Ref (ByteArray.mk #[65, 99, 116, 105, 111, 110]) r31).bind fun r34 => spec_l1Cur_policy_j1 o32 (⟨a0, (!r1), r4, (⟨2, r34, (ByteArray.mk #[])⟩ : T_impl_Head), r7, ([] : List T_impl_Expr)⟩ : T_impl_Policy))) (spec_l1Cur_policy_j1 o29 (⟨a0, (!r1), r4, (⟨1, (⟨0, 0, (ByteArray.mk #[]), (ByteArray.mk #[])⟩ : T_impl_Atom), (ByteArray.mk #[])⟩ : T_impl_Head), r7, ([] : List T_impl_Expr)⟩ : T_impl_Policy))))))
theorem spec_l1Cur_policy_p (c0 : Bool) {a0 : ByteArray} {s0 : T_spec_l1Cur} {R0 : T_impl_Policy} {U0 : T_spec_l1Cur} (H : spec_l1Cur_policy a0 s0 = some (R0, U0)) : St Go.Proofs.Tryz.prog 12 [.bx 0 0, .str a0] [.box (c_T_spec_l1Cur c0 s0)] (.agg (c_T_impl_Policy false R0)) [.box (c_T_spec_l1Cur c0 U0)] := by
 refine CallT.fin (CallT.of_TN (n := 38) Go.Proofs.Tryz.func12 rfl rfl rfl rfl ?_) rfl rfl ⟨(bels_iff.1 rfl), trivial⟩
 refine T.seq (T.region (TL.st rfl rfl rfl (o_alloc rfl ⟨_, rfl, rfl⟩) (TL.nil (thn_normal (T.seq (T.region (TL.st rfl rfl rfl (o_move rfl rfl) (TL.st rfl rfl rfl (o_move rfl rfl) ?_))))))))
 obtain ⟨⟨r1, o2⟩, h3, H⟩ := bind_s H
 refine TL.st rfl rfl rfl (o_callS [0] rfl en_13 rfl rfl (spec_l1Cur_one_p c0 h3) rfl (by decide) (.cons _ _ _ _ rfl .nil) rfl rfl rfl) ?_
 refine TL.st rfl rfl rfl (o_not rfl rfl) ?_
 refine TL.st rfl rfl rfl (o_move rfl rfl) ?_
 obtain ⟨⟨r4, o5⟩, h6, H⟩ := bind_s H
 refine TL.st rfl rfl rfl (o_callS [0] rfl en_34 rfl rfl (spec_l1Cur_head_p c0 h6) rfl (by decide) (.cons _ _ _ _ rfl .nil) rfl rfl rfl) ?_
 refine TL.st rfl rfl rfl (o_build rfl ⟨_, fun _ => rfl, rfl⟩ rfl rfl rfl) ?_
 refine TL.st rfl rfl rfl (o_move rfl rfl) ?_
 obtain ⟨⟨r7, o8⟩, h9, H⟩ := bind_s H
 refine TL.st rfl rfl rfl (o_callS [0] rfl en_34 rfl rfl (spec_l1Cur_head_p c0 h9) rfl (by decide) (.cons _ _ _ _ rfl .nil) rfl rfl rfl) ?_
 refine TL.st rfl rfl rfl (Does.wk (o_build rfl ⟨_, fun _ => rfl, rfl⟩ rfl rfl rfl) (.aggL (.cons _ _ _ _ (.same _) (.cons _ _ _ _ (.same _) (.cons _ _ _ _ (.same _) (.cons _ _ _ _ (.same _) (.cons _ _ _ _ (.same _) (.cons _ _ _ _ (.same _) (.cons _ _ _ _ (.same _) (.cons _ _ _ _ (.same _) (.cons _ _ _ _ (.same _) (.cons _ _ _ _ (.same _) (.cons _ _ _ _ (.same _) (.cons _ _ _ _ (.same _) (.cons _ _ _ _ (.same _) (.cons _ _ _ _ (.same _) (.cons _ _ _ _ (.same _) (.cons _ _ _ _ (.same _) (.cons _ _ _ _ (.same _) (.cons _ _ _ _ (.same _) (.cons _ _ _ _ (.same _) (.cons _ _ _ _ (.same _) (.cons _ _ _ _ .nil .nil))))))))))))))))))))))) ?_
 refine TL.st rfl rfl rfl (Does.nilc (p := 2) 20 (o_alloc rfl ⟨_, rfl, rfl⟩) rfl rfl) ?_
 refine TL.sn rfl rfl (o_storeBx rfl tyS_29 rfl rfl rfl rfl (Nat.le_of_ble_eq_true rfl) rfl) ?_
 refine TL.nil (thn_normal (T.cut (fun fr' σ' => ∃ (b10 : T_spec_l1Cur) (b11 : T_impl_Policy), fr' = [(0, .bx 0 0), (4, .bx 1 0), (5, .bx 2 0)] ∧ σ' = [.box (c_T_spec_l1Cur c0 b10), .box [.str (ByteArray.mk #[]), .bool false, .int .i64 0, .int .i64 0, .int .i64 0, .str (ByteArray.mk #[]), .str (ByteArray.mk #[]), .str (ByteArray.mk #[]), .int .i64 0, .int .i64 0, .int .i64 0, .str (ByteArray.mk #[]), .str (ByteArray.mk #[]), .str (ByteArray.mk #[]), .int .i64 0, .int .i64 0, .int .i64 0, .str (ByteArray.mk #[]), .str (ByteArray.mk #[]), .str (ByteArray.mk #[]), .nilS], .box (c_T_impl_Policy false b11)] ∧ spec_l1Cur_policy_j1 b10 b11 = some (R0, U0)) (T.pk ?_) ?_))
 ·skip
  refine T.seq (T.region (TL.st rfl rfl rfl (o_move rfl rfl) ?_))
  obtain ⟨⟨r28, o29⟩, h30, H⟩ := bind_s H
  refine TL.st rfl rfl rfl (o_callS [0] rfl en_13 rfl rfl (spec_l1Cur_one_p c0 h30) rfl (by decide) (.cons _ _ _ _ rfl .nil) rfl rfl rfl) ?_
  refine TL.nil (thn_normal ?_)
  refine T.cond (r28) rfl (fun h => ?_) (fun h => ?_)
  ·replace H := cond_t h H
   refine T.region (TL.st rfl rfl rfl (o_move rfl rfl) (TL.st rfl rfl rfl (o_sliceIm rfl rfl tyS_9 ⟨_, rfl, rfl⟩ (by decide) rfl rfl rfl rfl rfl rfl) ?_))
   obtain ⟨⟨r31, o32⟩, h33, H⟩ := bind_s H
   refine TL.st rfl rfl rfl (o_callS [0] rfl en_17 rfl rfl (spec_l1Cur_of_p false c0 h33) rfl (by decide) (.cons _ _ _ _ rfl .nil) rfl rfl rfl) ?_
   obtain ⟨r34, h35, H⟩ := bind_s H
   refine TL.st rfl rfl rfl (o_callP rfl en_35 rfl rfl (.cons _ _ _ _ (.cl _ rfl) (.cons _ _ _ _ (.cl _ rfl) .nil)) (spec_l10Ref_p  h35)) ?_
   refine TL.st rfl rfl rfl (o_build rfl ⟨_, fun _ => rfl, rfl⟩ rfl rfl rfl) ?_
   refine TL.st rfl rfl rfl (o_fieldAddr rfl rfl rfl tyS_26 (by decide) rfl rfl ⟨_, rfl, Nat.le_of_ble_eq_true rfl⟩) ?_
   refine TL.sn rfl rfl (o_storeBx rfl tyS_26 rfl rfl rfl rfl (Nat.le_of_ble_eq_true rfl) rfl) ?_
   refine TL.nil ?_
   exact Pk.go (fr' := [(0, .bx 0 0), (4, .bx 1 0), (5, .bx 2 0)]) (σ' := [.box (c_T_spec_l1Cur c0 o32), .box [.str (ByteArray.mk #[]), .bool false, .int .i64 0, .int .i64 0, .int .i64 0, .str (ByteArray.mk #[]), .str (ByteArray.mk #[]), .str (ByteArray.mk #[]), .int .i64 0, .int .i64 0, .int .i64 0, .str (ByteArray.mk #[]), .str (ByteArray.mk #[]), .str (ByteArray.mk #[]), .int .i64 0, .int .i64 0, .int .i64 0, .str (ByteArray.mk #[]), .str (ByteArray.mk #[]), .str (ByteArray.mk #[]), .nilS], .box (c_T_impl_Policy false (⟨a0, (!r1), r4, (⟨2, r34, (ByteArray.mk #[])⟩ : T_impl_Head), r7, ([] : List T_impl_Expr)⟩ : T_impl_Policy))]) _ rfl rfl ⟨(bels_iff.1 rfl), ⟨(bels_iff.1 rfl), ⟨(bels_iff.1 rfl), trivial⟩⟩⟩ (.cons 0 _ (.bx 0 0) _ rfl (.same _) rfl (.cons 4 _ (.bx 1 0) _ rfl (.same _) rfl (.cons 5 _ (.bx 2 0) _ rfl (.same _) rfl .nil))) (thn_normal ⟨o32, (⟨a0, (!r1), r4, (⟨2, r34, (ByteArray.mk #[])⟩ : T_impl_Head), r7, ([] : List T_impl_Expr)⟩ : T_impl_Policy), rfl, rfl, H⟩)
  ·replace H := cond_f h H
   refine T.skip ?_
   exact Pk.go (fr' := [(0, .bx 0 0), (4, .bx 1 0), (5, .bx 2 0)]) (σ' := [.box (c_T_spec_l1Cur c0 o29), .box [.str (ByteArray.mk #[]), .bool false, .int .i64 0, .int .i64 0, .int .i64 0, .str (ByteArray.mk #[]), .str (ByteArray.mk #[]), .str (ByteArray.mk #[]), .int .i64 0, .int .i64 0, .int .i64 0, .str (ByteArray.mk #[]), .str (ByteArray.mk #[]), .str (ByteArray.mk #[]), .int .i64 0, .int .i64 0, .int .i64 0, .str (ByteArray.mk #[]), .str (ByteArray.mk #[]), .str (ByteArray.mk #[]), .nilS], .box (c_T_impl_Policy false (⟨a0, (!r1), r4, (⟨1, (⟨0, 0, (ByteArray.mk #[]), (ByteArray.mk #[])⟩ : T_impl_Atom), (ByteArray.mk #[])⟩ : T_impl_Head), r7, ([] : List T_impl_Expr)⟩ : T_impl_Policy))]) _ rfl rfl ⟨(bels_iff.1 rfl), ⟨(bels_iff.1 rfl), ⟨(bels_iff.1 rfl), trivial⟩⟩⟩ (.cons 0 _ (.bx 0 0) _ rfl (.same _) rfl (.cons 4 _ (.bx 1 0) _ rfl (.same _) rfl (.cons 5 _ (.bx 2 0) _ rfl (.same _) rfl .nil))) (thn_normal ⟨o29, (⟨a0, (!r1), r4, (⟨1, (⟨0, 0, (ByteArray.mk #[]), (ByteArray.mk #[])⟩ : T_impl_Atom), (ByteArray.mk #[])⟩ : T_impl_Head), r7, ([] : List T_impl_Expr)⟩ : T_impl_Policy), rfl, rfl, H⟩)
 ·rintro _ _ ⟨b10, b11, rfl, rfl, H⟩
  refine T.seq (T.seq (T.region (TL.st rfl rfl rfl (o_move rfl rfl) ?_)))
  obtain ⟨⟨r12, o13⟩, h14, H⟩ := bind_s H
  refine TL.st rfl rfl rfl (o_callS [0] rfl en_13 rfl rfl (spec_l1Cur_one_p c0 h14) rfl (by decide) (.cons _ _ _ _ rfl .nil) rfl rfl rfl) ?_
  refine TL.st rfl rfl rfl (o_not rfl rfl) ?_
  refine TL.nil (thn_normal ?_)
  refine T.cond ((!r12)) rfl (fun h => ?_) (fun h => ?_)
  ·replace H := cond_t h H
   refine T.seq (T.region (TL.st rfl rfl rfl (o_move rfl rfl) ?_))
   obtain ⟨⟨r15, o16⟩, h17, H⟩ := bind_s H
   refine TL.st rfl rfl rfl (o_callS [0] rfl en_37 rfl rfl (spec_l1Cur_boolExpr_p c0 h17) rfl (by decide) (.cons _ _ _ _ rfl .nil) rfl rfl rfl) ?_
   obtain ⟨r18, h19, H⟩ := bind_s H
   refine TL.st rfl rfl rfl (o_callP rfl en_36 rfl rfl (.cons _ _ _ _ (.cl _ rfl) (.cons _ _ _ _ (.cl _ rfl) .nil)) (spec_l10Putx_p false h19)) ?_
   refine TL.st rfl rfl rfl (o_fieldAddr rfl rfl rfl tyS_27 (by decide) rfl rfl ⟨_, rfl, Nat.le_of_ble_eq_true rfl⟩) ?_
   refine TL.sn rfl rfl (o_storeBx rfl tyS_27 rfl rfl rfl rfl (Nat.le_of_ble_eq_true rfl) rfl) ?_
   refine TL.nil (thn_normal (T.seq (T.region (TL.st rfl rfl rfl (o_move rfl rfl) ?_))))
   obtain ⟨⟨r20, o21⟩, h22, H⟩ := bind_s H
   refine TL.st rfl rfl rfl (o_callS [0] rfl en_13 rfl rfl (spec_l1Cur_one_p c0 h22) rfl (by decide) (.cons _ _ _ _ rfl .nil) rfl rfl rfl) ?_
   refine TL.nil (thn_normal ?_)
   refine T.cond (r20) rfl (fun h => ?_) (fun h => ?_)
   ·replace H := cond_t h H
    refine T.region (TL.st rfl rfl rfl (o_move rfl rfl) ?_)
    obtain ⟨⟨r23, o24⟩, h25, H⟩ := bind_s H
    refine TL.st rfl rfl rfl (o_callS [0] rfl en_38 rfl rfl (spec_l1Cur_kindBool_p c0 h25) rfl (by decide) (.cons _ _ _ _ rfl .nil) rfl rfl rfl) ?_
    obtain ⟨r26, h27, H⟩ := bind_s H
    refine TL.st rfl rfl rfl (o_callP rfl en_36 rfl rfl (.cons _ _ _ _ (.cl _ rfl) (.cons _ _ _ _ (.cl _ rfl) .nil)) (spec_l10Putx_p false h27)) ?_
    refine TL.st rfl rfl rfl (o_fieldAddr rfl rfl rfl tyS_27 (by decide) rfl rfl ⟨_, rfl, Nat.le_of_ble_eq_true rfl⟩) ?_
    refine TL.sn rfl rfl (o_storeBx rfl tyS_27 rfl rfl rfl rfl (Nat.le_of_ble_eq_true rfl) rfl) ?_
    refine TL.nil (thn_normal (T.seq (T.region (TL.st rfl rfl rfl (o_loadBx rfl tyS_29 rfl rfl (Nat.le_of_ble_eq_true rfl) rfl) ?_))))
    refine TL.sn rfl rfl (o_storeBx rfl tyS_29 rfl rfl rfl rfl (Nat.le_of_ble_eq_true rfl) rfl) ?_
    refine TL.nil (thn_normal (T.ret ?_))
    cases some_i H
    exact ⟨trivial, _, (.cell _ _ _ _ _ _ _ _ _ _ rfl rfl tyS_29 (Nat.le_of_ble_eq_true rfl) rfl .nil), ⟨rfl, _, rfl⟩⟩
   ·replace H := cond_f h H
    refine T.skip (thn_normal (T.seq (T.region (TL.st rfl rfl rfl (o_loadBx rfl tyS_29 rfl rfl (Nat.le_of_ble_eq_true rfl) rfl) ?_))))
    refine TL.sn rfl rfl (o_storeBx rfl tyS_29 rfl rfl rfl rfl (Nat.le_of_ble_eq_true rfl) rfl) ?_
    refine TL.nil (thn_normal (T.ret ?_))
    cases some_i H
    exact ⟨trivial, _, (.cell _ _ _ _ _ _ _ _ _ _ rfl rfl tyS_29 (Nat.le_of_ble_eq_true rfl) rfl .nil), ⟨rfl, _, rfl⟩⟩
  ·replace H := cond_f h H
   refine T.skip (thn_normal (T.seq (T.region (TL.st rfl rfl rfl (o_loadBx rfl tyS_29 rfl rfl (Nat.le_of_ble_eq_true rfl) rfl) ?_))))
   refine TL.sn rfl rfl (o_storeBx rfl tyS_29 rfl rfl rfl rfl (Nat.le_of_ble_eq_true rfl) rfl) ?_
   refine TL.nil (thn_normal (T.ret ?_))
   cases some_i H
   exact ⟨trivial, _, (.cell _ _ _ _ _ _ _ _ _ _ rfl rfl tyS_29 (Nat.le_of_ble_eq_true rfl) rfl .nil), ⟨rfl, _, rfl⟩⟩
theorem en_12 (us : Array Value) (w : World) : (callFunc 12 us).run Go.Proofs.Tryz.prog w = .ok (.enter 12 us) w := enters Go.Proofs.Tryz.func12 rfl rfl us w
noncomputable def spec_l1Cur_oddAtom_l1 (l23 : List Int) : (List Int × Int) → Option ((List Int × Int) ⊕ List Int) := fun s => match s with
  | (l25, v26) => cond (decide (v26 < (l23.length : Int))) ((idx l25 v26).bind fun e29 => some (.inl ((l25.set (Int.toNat v26) 113), (IntKind.i64.wrap (v26 + 1))))) (some (.inr l25))
noncomputable def spec_l1Cur_oddAtom (a0 : T_impl_Atom) (s0 : T_spec_l1Cur) : Option (T_impl_Atom × T_spec_l1Cur) :=
  (spec_l1Cur_pick 16 s0).bind fun q => (match q with | (r1, o2) => cond (r1 == 0) ((spec_l1Cur_pick 9 o2).bind fun q => (match q with | (r4, o5) => some ((⟨r4, a0.Num_, a0.Text_, a0.Type_⟩ : T_impl_Atom), o5))) (cond (r1 == 1) ((spec_l1Pow2 32).bind fun r7 => (spec_l1Cur_pick 7 o2).bind fun q => (match q with | (r9, o10) => (idx ([(-1), 2, 33, (IntKind.i64.wrap ((IntKind.i64.wrap (64 * r7)) + 1)), 100000000001, (-100000000000), 65] : List Int) r9).bind fun e12 => some ((⟨a0.Kind_, e12, a0.Text_, a0.Type_⟩ : T_impl_Atom), o10))) (cond (r1 == 2) ((spec_l1Cur_of ([(ByteArray.mk #[]), (ByteArray.mk #[120]), (ByteArray.mk #[97, 9, 98])] : List ByteArray) o2).bind fun q => (match q with | (r14, o15) => some ((⟨a0.Kind_, a0.Num_, r14, a0.Type_⟩ : T_impl_Atom), o15))) (cond (r1 == 3) ((spec_l1Cur_of ([(ByteArray.mk #[]), (ByteArray.mk #[84]), (ByteArray.mk #[49, 97])] : List ByteArray) o2).bind fun q => (match q with | (r17, o18) => some ((⟨a0.Kind_, a0.Num_, a0.Text_, r17⟩ : T_impl_Atom), o18))) (cond (r1 == 4) ((spec_l1Cur_pick 3 o2).bind fun q => (match q with | (r20, o21) => (mk 0 (IntKind.i64.wrap (199 + r20))).bind fun l23 => (loopO (spec_l1Cur_oddAtom_l1 l23) (l23, 0)).bind fun l27 => (match l27 with | l27 => some ((⟨a0.Kind_, a0.Num_, (byS l27), a0.Type_⟩ : T_impl_Atom), o21)))) (some (a0, o2)))))))
theorem spec_l1Cur_oddAtom_p (c0 : Bool) {a0 : T_impl_Atom} {s0 : T_spec_l1Cur} {R0 : T_impl_Atom} {U0 : T_spec_l1Cur} (H : spec_l1Cur_oddAtom a0 s0 = some (R0, U0)) : St Go.Proofs.Tryz.prog 32 [.bx 0 0, .agg (c_T_impl_Atom false a0)] [.box (c_T_spec_l1Cur c0 s0)] (.agg (c_T_impl_Atom false R0)) [.box (c_T_spec_l1Cur c0 U0)] := by
 refine CallT.fin (CallT.of_TN (n := 56) Go.Proofs.Tryz.func32 rfl rfl rfl rfl ?_) rfl rfl ⟨(bels_iff.1 rfl), trivial⟩
 refine T.seq (T.region (TL.st rfl rfl rfl (o_box rfl rfl rfl) (TL.st rfl rfl rfl (o_alloc rfl ⟨_, rfl, rfl⟩) (TL.nil (thn_normal (T.seq (T.seq (T.region (TL.st rfl rfl rfl (o_move rfl rfl) ?_)))))))))
 obtain ⟨⟨r1, o2⟩, h3, H⟩ := bind_s H
 refine TL.st rfl rfl rfl (o_callS [0] rfl en_14 rfl rfl (spec_l1Cur_pick_p c0 h3) rfl (by decide) (.cons _ _ _ _ rfl .nil) rfl rfl rfl) ?_
 refine TL.nil (thn_normal (T.block (T.seq (T.region (TL.st rfl rfl rfl (o_ari rfl rfl rfl rfl) (TL.st rfl rfl rfl (o_assign rfl rfl) (TL.nil (thn_normal ?_))))))))
 refine T.cond ((r1 == 0)) rfl (fun h => ?_) (fun h => ?_)
 ·replace H := cond_t h H
  refine T.region (TL.st rfl rfl rfl (o_move rfl rfl) ?_)
  obtain ⟨⟨r4, o5⟩, h6, H⟩ := bind_s H
  refine TL.st rfl rfl rfl (o_callS [0] rfl en_14 rfl rfl (spec_l1Cur_pick_p c0 h6) rfl (by decide) (.cons _ _ _ _ rfl .nil) rfl rfl rfl) ?_
  refine TL.st rfl rfl rfl (o_fieldAddr rfl rfl rfl tyS_3 (by decide) rfl rfl ⟨_, rfl, Nat.le_of_ble_eq_true rfl⟩) ?_
  refine TL.sn rfl rfl (o_storeBx rfl tyS_3 rfl rfl rfl rfl (Nat.le_of_ble_eq_true rfl) rfl) ?_
  refine TL.nil (inB_normal (thn_normal (T.seq (T.region (TL.st rfl rfl rfl (o_loadBx rfl tyS_24 rfl rfl (Nat.le_of_ble_eq_true rfl) rfl) ?_)))))
  refine TL.sn rfl rfl (o_storeBx rfl tyS_24 rfl rfl rfl rfl (Nat.le_of_ble_eq_true rfl) rfl) ?_
  refine TL.nil (thn_normal (T.ret ?_))
  cases some_i H
  exact ⟨trivial, _, (.cell _ _ _ _ _ _ _ _ _ _ rfl rfl tyS_24 (Nat.le_of_ble_eq_true rfl) rfl .nil), ⟨rfl, _, rfl⟩⟩
 ·replace H := cond_f h H
  refine T.seq (T.region (TL.st rfl rfl rfl (o_ari rfl rfl rfl rfl) (TL.st rfl rfl rfl (o_assign rfl rfl) (TL.nil (thn_normal ?_)))))
  refine T.cond ((r1 == 1)) rfl (fun h => ?_) (fun h => ?_)
  ·replace H := cond_t h H
   refine T.region ?_
   obtain ⟨r7, h8, H⟩ := bind_s H
   refine TL.st rfl rfl rfl (o_callP rfl en_52 rfl rfl (.cons _ _ _ _ (.cl _ rfl) .nil) (spec_l1Pow2_p  h8)) ?_
   refine TL.st rfl rfl rfl (o_ari rfl rfl rfl rfl) (TL.st rfl rfl rfl (o_ari rfl rfl rfl rfl) (TL.st rfl rfl rfl (o_sliceIm rfl rfl tyS_3 ⟨_, rfl, rfl⟩ (by decide) rfl rfl rfl rfl rfl rfl) ?_))
   refine TL.st rfl rfl rfl (o_move rfl rfl) ?_
   obtain ⟨⟨r9, o10⟩, h11, H⟩ := bind_s H
   refine TL.st rfl rfl rfl (o_callS [0] rfl en_14 rfl rfl (spec_l1Cur_pick_p c0 h11) rfl (by decide) (.cons _ _ _ _ rfl .nil) rfl rfl rfl) ?_
   obtain ⟨e12, h13, H⟩ := bind_s H
   refine TL.st rfl rfl rfl (o_ix (f := c_int .i64) rfl rfl tyS_3 rfl rfl h13 rfl) ?_
   refine TL.st rfl rfl rfl (o_loadRf rfl tyS_3 rfl (Nat.le_of_ble_eq_true rfl) rfl) ?_
   refine TL.st rfl rfl rfl (o_fieldAddr rfl rfl rfl tyS_3 (by decide) rfl rfl ⟨_, rfl, Nat.le_of_ble_eq_true rfl⟩) ?_
   refine TL.sn rfl rfl (o_storeBx rfl tyS_3 rfl rfl rfl rfl (Nat.le_of_ble_eq_true rfl) rfl) ?_
   refine TL.nil (inB_normal (thn_normal (T.seq (T.region (TL.st rfl rfl rfl (o_loadBx rfl tyS_24 rfl rfl (Nat.le_of_ble_eq_true rfl) rfl) ?_)))))
   refine TL.sn rfl rfl (o_storeBx rfl tyS_24 rfl rfl rfl rfl (Nat.le_of_ble_eq_true rfl) rfl) ?_
   refine TL.nil (thn_normal (T.ret ?_))
   cases some_i H
   exact ⟨trivial, _, (.cell _ _ _ _ _ _ _ _ _ _ rfl rfl tyS_24 (Nat.le_of_ble_eq_true rfl) rfl .nil), ⟨rfl, _, rfl⟩⟩
  ·replace H := cond_f h H
   refine T.seq (T.region (TL.st rfl rfl rfl (o_ari rfl rfl rfl rfl) (TL.st rfl rfl rfl (o_assign rfl rfl) (TL.nil (thn_normal ?_)))))
   refine T.cond ((r1 == 2)) rfl (fun h => ?_) (fun h => ?_)
   ·replace H := cond_t h H
    refine T.region (TL.st rfl rfl rfl (o_move rfl rfl) (TL.st rfl rfl rfl (o_sliceIm rfl rfl tyS_9 ⟨_, rfl, rfl⟩ (by decide) rfl rfl rfl rfl rfl rfl) ?_))
    obtain ⟨⟨r14, o15⟩, h16, H⟩ := bind_s H
    refine TL.st rfl rfl rfl (o_callS [0] rfl en_17 rfl rfl (spec_l1Cur_of_p false c0 h16) rfl (by decide) (.cons _ _ _ _ rfl .nil) rfl rfl rfl) ?_
    refine TL.st rfl rfl rfl (o_fieldAddr rfl rfl rfl tyS_9 (by decide) rfl rfl ⟨_, rfl, Nat.le_of_ble_eq_true rfl⟩) ?_
    refine TL.sn rfl rfl (o_storeBx rfl tyS_9 rfl rfl rfl rfl (Nat.le_of_ble_eq_true rfl) rfl) ?_
    refine TL.nil (inB_normal (thn_normal (T.seq (T.region (TL.st rfl rfl rfl (o_loadBx rfl tyS_24 rfl rfl (Nat.le_of_ble_eq_true rfl) rfl) ?_)))))
    refine TL.sn rfl rfl (o_storeBx rfl tyS_24 rfl rfl rfl rfl (Nat.le_of_ble_eq_true rfl) rfl) ?_
    refine TL.nil (thn_normal (T.ret ?_))
    cases some_i H
    exact ⟨trivial, _, (.cell _ _ _ _ _ _ _ _ _ _ rfl rfl tyS_24 (Nat.le_of_ble_eq_true rfl) rfl .nil), ⟨rfl, _, rfl⟩⟩
   ·replace H := cond_f h H
    refine T.seq (T.region (TL.st rfl rfl rfl (o_ari rfl rfl rfl rfl) (TL.st rfl rfl rfl (o_assign rfl rfl) (TL.nil (thn_normal ?_)))))
    refine T.cond ((r1 == 3)) rfl (fun h => ?_) (fun h => ?_)
    ·replace H := cond_t h H
     refine T.region (TL.st rfl rfl rfl (o_move rfl rfl) (TL.st rfl rfl rfl (o_sliceIm rfl rfl tyS_9 ⟨_, rfl, rfl⟩ (by decide) rfl rfl rfl rfl rfl rfl) ?_))
     obtain ⟨⟨r17, o18⟩, h19, H⟩ := bind_s H
     refine TL.st rfl rfl rfl (o_callS [0] rfl en_17 rfl rfl (spec_l1Cur_of_p false c0 h19) rfl (by decide) (.cons _ _ _ _ rfl .nil) rfl rfl rfl) ?_
     refine TL.st rfl rfl rfl (o_fieldAddr rfl rfl rfl tyS_9 (by decide) rfl rfl ⟨_, rfl, Nat.le_of_ble_eq_true rfl⟩) ?_
     refine TL.sn rfl rfl (o_storeBx rfl tyS_9 rfl rfl rfl rfl (Nat.le_of_ble_eq_true rfl) rfl) ?_
     refine TL.nil (inB_normal (thn_normal (T.seq (T.region (TL.st rfl rfl rfl (o_loadBx rfl tyS_24 rfl rfl (Nat.le_of_ble_eq_true rfl) rfl) ?_)))))
     refine TL.sn rfl rfl (o_storeBx rfl tyS_24 rfl rfl rfl rfl (Nat.le_of_ble_eq_true rfl) rfl) ?_
     refine TL.nil (thn_normal (T.ret ?_))
     cases some_i H
     exact ⟨trivial, _, (.cell _ _ _ _ _ _ _ _ _ _ rfl rfl tyS_24 (Nat.le_of_ble_eq_true rfl) rfl .nil), ⟨rfl, _, rfl⟩⟩
    ·replace H := cond_f h H
     refine T.seq (T.region (TL.st rfl rfl rfl (o_ari rfl rfl rfl rfl) (TL.st rfl rfl rfl (o_assign rfl rfl) (TL.nil (thn_normal ?_)))))
     refine T.cond ((r1 == 4)) rfl (fun h => ?_) (fun h => ?_)
     ·replace H := cond_t h H
      refine T.seq (T.region (TL.st rfl rfl rfl (o_move rfl rfl) ?_))
      obtain ⟨⟨r20, o21⟩, h22, H⟩ := bind_s H
      refine TL.st rfl rfl rfl (o_callS [0] rfl en_14 rfl rfl (spec_l1Cur_pick_p c0 h22) rfl (by decide) (.cons _ _ _ _ rfl .nil) rfl rfl rfl) ?_
      refine TL.st rfl rfl rfl (o_ari rfl rfl rfl rfl) ?_
      obtain ⟨l23, h24, H⟩ := bind_s H
      refine TL.st rfl rfl rfl (o_mk (f := c_int .u8) (z := 0) rfl rfl tyE_5 ⟨_, rfl, rfl⟩ rfl rfl h24) ?_
      refine TL.st rfl rfl rfl (o_assign rfl rfl) (TL.nil (thn_normal (T.seq (T.seq (T.region (TL.st rfl rfl rfl (o_move rfl rfl) (TL.st rfl rfl rfl (o_lenOwn (f := c_int .u8) rfl rfl rfl rfl rfl) ?_)))))))
      refine TL.st rfl rfl rfl (o_move rfl rfl) (TL.nil (thn_normal (T.block ?_)))
      obtain ⟨l27, h32, H⟩ := bind_s H
      refine T.to (.cons 3 _ (.bx 1 0) _ rfl (.same _) rfl (.cons 4 _ (.bx 2 0) _ rfl (.same _) rfl (.cons 5 _ (.hd 3 (l23.map (c_int .u8)).length 0 (l23.map (c_int .u8)).length) _ rfl (.same _) rfl (.cons 44 _ (.int .i64 (l23.length : Int)) _ rfl (.same _) rfl (.cons 45 _ (.int .i64 0) _ rfl (.same _) rfl .nil))))) ?_
      refine T.lp (fun s => match s with | (l25, v26) => [(3, .bx 1 0), (4, .bx 2 0), (5, .hd 3 (l25.map (c_int .u8)).length 0 (l25.map (c_int .u8)).length), (44, .int .i64 (l23.length : Int)), (45, .int .i64 v26)]) (fun s => match s with | (l25, v26) => [.box (c_T_spec_l1Cur c0 o21), .box (c_T_impl_Atom false a0), .box [.int .i64 0, .int .i64 0, .str (ByteArray.mk #[]), .str (ByteArray.mk #[])], .arr .clo 1 (l25.map (c_int .u8))]) (fun q ex fr σ => match q with | l27 => ex = .exit 1 ∧ fr = [(3, .bx 1 0), (4, .bx 2 0), (5, .hd 3 (l27.map (c_int .u8)).length 0 (l27.map (c_int .u8)).length)] ∧ σ = [.box (c_T_spec_l1Cur c0 o21), .box (c_T_impl_Atom false a0), .box [.int .i64 0, .int .i64 0, .str (ByteArray.mk #[]), .str (ByteArray.mk #[])], .arr .clo 1 (l27.map (c_int .u8))]) h32 ?_ ?_ ?_ ?_ ?_
      ·rintro ⟨l25, v26⟩ y28 H
       refine T.seq (T.region (TL.st rfl rfl rfl (o_ari rfl rfl rfl rfl) (TL.nil (thn_normal (T.seq ?_)))))
       refine T.cond (decide (v26 < (l23.length : Int))) rfl (fun h => ?_) (fun h => ?_)
       ·replace H := cond_t h H
        refine T.skip (thn_normal (T.seq (T.block (T.seq (T.region (TL.st rfl rfl rfl (o_move rfl rfl) (TL.st rfl rfl rfl (o_assign rfl rfl) (TL.nil (thn_normal (T.region (TL.st rfl rfl rfl (o_move rfl rfl) (TL.st rfl rfl rfl (o_move rfl rfl) ?_))))))))))))
        obtain ⟨e29, h30, H⟩ := bind_s H
        refine TL.st rfl rfl rfl (o_ixh (f := c_int .u8) rfl rfl tyS_5 rfl rfl rfl rfl h30 rfl) ?_
        refine TL.sn rfl rfl (o_stEl (f := c_int .u8) (xs := l25) (k := v26) (a := e29) 113 rfl tyS_5 rfl rfl rfl rfl (by decide) h30 rfl rfl rfl (fun _ => rfl) rfl) ?_
        refine TL.conv (Cs.eqV (t := 5) (v' := .hd 3 ((l25.set (Int.toNat v26) 113).map (c_int .u8)).length 0 ((l25.set (Int.toNat v26) 113).map (c_int .u8)).length) rfl (hd_len _ (List.length_set ..))) ?_
        refine TL.conv (Cs.eqV (t := 48) (v' := .hd 3 ((l25.set (Int.toNat v26) 113).map (c_int .u8)).length 0 ((l25.set (Int.toNat v26) 113).map (c_int .u8)).length) rfl (hd_len _ (List.length_set ..))) ?_
        refine TL.nil (inB_normal (thn_normal (T.region (TL.st rfl rfl rfl (o_ari rfl rfl rfl rfl) (TL.st rfl rfl rfl (o_move rfl rfl) (TL.nil ?_))))))
        exact Pk.go (fr' := [(3, .bx 1 0), (4, .bx 2 0), (5, .hd 3 ((l25.set (Int.toNat v26) 113).map (c_int .u8)).length 0 ((l25.set (Int.toNat v26) 113).map (c_int .u8)).length), (44, .int .i64 (l23.length : Int)), (45, .int .i64 (IntKind.i64.wrap (v26 + 1)))]) (σ' := [.box (c_T_spec_l1Cur c0 o21), .box (c_T_impl_Atom false a0), .box [.int .i64 0, .int .i64 0, .str (ByteArray.mk #[]), .str (ByteArray.mk #[])], .arr .clo 1 ((l25.set (Int.toNat v26) 113).map (c_int .u8))]) _ rfl rfl ⟨(bels_iff.1 rfl), ⟨(bels_iff.1 rfl), ⟨(bels_iff.1 rfl), ⟨trivial, trivial⟩⟩⟩⟩ (.cons 3 _ (.bx 1 0) _ rfl (.same _) rfl (.cons 4 _ (.bx 2 0) _ rfl (.same _) rfl (.cons 5 _ (.hd 3 ((l25.set (Int.toNat v26) 113).map (c_int .u8)).length 0 ((l25.set (Int.toNat v26) 113).map (c_int .u8)).length) _ rfl (.same _) rfl (.cons 44 _ (.int .i64 (l23.length : Int)) _ rfl (.same _) rfl (.cons 45 _ (.int .i64 (IntKind.i64.wrap (v26 + 1))) _ rfl (.same _) rfl .nil))))) (thn_normal ⟨((l25.set (Int.toNat v26) 113), (IntKind.i64.wrap (v26 + 1))), (some_i H).symm, rfl, rfl⟩)
       ·replace H := cond_f h H
        refine T.exit (thn_exit ?_)
        exact Pk.go (fr' := [(3, .bx 1 0), (4, .bx 2 0), (5, .hd 3 (l25.map (c_int .u8)).length 0 (l25.map (c_int .u8)).length)]) (σ' := [.box (c_T_spec_l1Cur c0 o21), .box (c_T_impl_Atom false a0), .box [.int .i64 0, .int .i64 0, .str (ByteArray.mk #[]), .str (ByteArray.mk #[])], .arr .clo 1 (l25.map (c_int .u8))]) _ rfl rfl ⟨(bels_iff.1 rfl), ⟨(bels_iff.1 rfl), ⟨(bels_iff.1 rfl), ⟨trivial, trivial⟩⟩⟩⟩ (.cons 3 _ (.bx 1 0) _ rfl (.same _) rfl (.cons 4 _ (.bx 2 0) _ rfl (.same _) rfl (.cons 5 _ (.hd 3 (l25.map (c_int .u8)).length 0 (l25.map (c_int .u8)).length) _ rfl (.same _) rfl .nil))) (thn_exit ⟨l25, (some_i H).symm, rfl, rfl, rfl⟩)
      ·rintro ⟨l25, v26⟩ ⟨l25', v26'⟩; rfl
      ·rintro ⟨l25, v26⟩; exact ⟨(bels_iff.1 rfl), ⟨(bels_iff.1 rfl), ⟨(bels_iff.1 rfl), ⟨trivial, trivial⟩⟩⟩⟩
      ·rintro ⟨l25, v26⟩; exact (.cons _ _ _ rfl rfl (.cons _ _ _ rfl rfl (.cons _ _ _ rfl rfl (.cons _ _ _ rfl rfl (.cons _ _ _ rfl rfl .nil)))))
      ·rintro _ _ _ ⟨rfl, rfl, rfl⟩
       refine inB_here (thn_normal (T.region (TL.st rfl rfl rfl (o_move rfl rfl) (TL.st rfl rfl rfl (o_bsOwn (f := c_int .u8) rfl rfl rfl rfl (fun _ => rfl) rfl rfl rfl) ?_))))
       refine TL.st rfl rfl rfl (o_fieldAddr rfl rfl rfl tyS_9 (by decide) rfl rfl ⟨_, rfl, Nat.le_of_ble_eq_true rfl⟩) ?_
       refine TL.sn rfl rfl (o_storeBx rfl tyS_9 rfl rfl rfl rfl (Nat.le_of_ble_eq_true rfl) rfl) ?_
       refine TL.nil (inB_normal (thn_normal (T.seq (T.region (TL.st rfl rfl rfl (o_loadBx rfl tyS_24 rfl rfl (Nat.le_of_ble_eq_true rfl) rfl) ?_)))))
       refine TL.sn rfl rfl (o_storeBx rfl tyS_24 rfl rfl rfl rfl (Nat.le_of_ble_eq_true rfl) rfl) ?_
       refine TL.nil (thn_normal (T.ret ?_))
       cases some_i H
       exact ⟨trivial, _, (.cell _ _ _ _ _ _ _ _ _ _ rfl rfl tyS_24 (Nat.le_of_ble_eq_true rfl) rfl .nil), ⟨rfl, _, rfl⟩⟩
     ·replace H := cond_f h H
      refine T.skip (inB_normal (thn_normal (T.seq (T.region (TL.st rfl rfl rfl (o_loadBx rfl tyS_24 rfl rfl (Nat.le_of_ble_eq_true rfl) rfl) ?_)))))
      refine TL.sn rfl rfl (o_storeBx rfl tyS_24 rfl rfl rfl rfl (Nat.le_of_ble_eq_true rfl) rfl) ?_
      refine TL.nil (thn_normal (T.ret ?_))
      cases some_i H
      exact ⟨trivial, _, (.cell _ _ _ _ _ _ _ _ _ _ rfl rfl tyS_24 (Nat.le_of_ble_eq_true rfl) rfl .nil), ⟨rfl, _, rfl⟩⟩
theorem en_32 (us : Array Value) (w : World) : (callFunc 32 us).run Go.Proofs.Tryz.prog w = .ok (.enter 32 us) w := enters Go.Proofs.Tryz.func32 rfl rfl us w
theorem spec_l10Putx_o (b0 : Bool) {a0 : T_spec_l10E} {R0 : (List T_impl_Expr)} (H : spec_l10Putx a0 = some R0) : OwnC Go.Proofs.Tryz.prog 36 [.nilS, .agg (c_T_spec_l10E b0 a0)] 7 (R0.map (c_T_impl_Expr false)) := by
 refine CallT.of_TN (n := 30) Go.Proofs.Tryz.func36 rfl rfl rfl rfl ?_
 refine T.seq (T.region (TL.st rfl rfl rfl (o_box rfl rfl rfl) (TL.st rfl rfl rfl (o_assign rfl rfl) (TL.nil (thn_normal (T.seq (T.region (TL.st rfl rfl rfl (o_fieldAddr rfl rfl rfl tyS_57 (by decide) rfl rfl ⟨_, rfl, Nat.le_of_ble_eq_true rfl⟩) ?_))))))))
 refine TL.st rfl rfl rfl (o_loadBx rfl tyS_57 rfl rfl (Nat.le_of_ble_eq_true rfl) rfl) ?_
 refine TL.st rfl rfl rfl (o_alloc rfl ⟨_, rfl, rfl⟩) (TL.sn rfl rfl (o_storeBx rfl tyS_57 rfl rfl rfl rfl (Nat.le_of_ble_eq_true rfl) rfl) ?_)
 refine TL.nil (thn_normal (T.seq (T.region (TL.st rfl rfl rfl (o_fieldAddr rfl rfl rfl tyS_65 (by decide) rfl rfl ⟨_, rfl, Nat.le_of_ble_eq_true rfl⟩) ?_))))
 refine TL.st rfl rfl rfl (o_loadBx rfl tyS_65 rfl rfl (Nat.le_of_ble_eq_true rfl) rfl) ?_
 refine TL.st rfl rfl rfl (o_lenL (f := c_raw) rfl rfl rfl) ?_
 refine TL.st rfl rfl rfl (o_fieldAddr rfl rfl rfl tyS_3 (by decide) rfl rfl ⟨_, rfl, Nat.le_of_ble_eq_true rfl⟩) ?_
 refine TL.sn rfl rfl (o_storeBx rfl tyS_3 rfl rfl rfl rfl (Nat.le_of_ble_eq_true rfl) rfl) ?_
 refine TL.nil (thn_normal (T.seq (T.region (TL.st rfl rfl rfl (o_move rfl rfl) (TL.st rfl rfl rfl (o_loadBx rfl tyS_57 rfl rfl (Nat.le_of_ble_eq_true rfl) rfl) ?_)))))
 refine TL.st rfl rfl rfl (o_sliceIm rfl rfl tyS_57 ⟨_, rfl, rfl⟩ (by decide) rfl rfl rfl rfl rfl rfl) ?_
 refine TL.conv (Cs.own (t := 14) 7 rfl (by decide)) ?_
 obtain ⟨l1, h2, H⟩ := bind_s H
 refine TL.st rfl rfl rfl (o_ap (f := c_T_impl_Expr false) (xs := ([] : List T_impl_Expr)) (ys := ([(⟨a0.n_.Kind_, a0.n_.Text_, a0.n_.Atom_, (a0.kids_.length : Int)⟩ : T_impl_Expr)] : List T_impl_Expr)) rfl rfl tyE_57 rfl rfl rfl rfl (by decide) rfl (fun _ => rfl) h2) ?_
 refine TL.st rfl rfl rfl (o_assign rfl rfl) (TL.nil (thn_normal (T.seq (T.seq (T.region (TL.st rfl rfl rfl (o_fieldAddr rfl rfl rfl tyS_65 (by decide) rfl rfl ⟨_, rfl, Nat.le_of_ble_eq_true rfl⟩) ?_))))))
 refine TL.st rfl rfl rfl (o_loadBx rfl tyS_65 rfl rfl (Nat.le_of_ble_eq_true rfl) rfl) ?_
 refine TL.st rfl rfl rfl (o_lenL (f := c_raw) rfl rfl rfl) ?_
 refine TL.st rfl rfl rfl (o_move rfl rfl) (TL.nil (thn_normal (T.block ?_)))
 obtain ⟨l5, h14, H⟩ := bind_s H
 refine T.to (.cons 0 _ (.hd 2 (l1.map (c_T_impl_Expr false)).length 0 (l1.map (c_T_impl_Expr false)).length) _ rfl (.same _) rfl (.cons 19 _ (.im b0 (a0.kids_.map (c_raw))) _ rfl (.same _) rfl (.cons 20 _ (.int .i64 (a0.kids_.length : Int)) _ rfl (.same _) rfl (.cons 21 _ (.int .i64 0) _ rfl (.same _) rfl .nil)))) ?_
 refine T.lp (fun s => match s with | (l3, v4) => [(0, .hd 2 (l3.map (c_T_impl_Expr false)).length 0 (l3.map (c_T_impl_Expr false)).length), (19, .im b0 (a0.kids_.map (c_raw))), (20, .int .i64 (a0.kids_.length : Int)), (21, .int .i64 v4)]) (fun s => match s with | (l3, v4) => [.box (c_T_spec_l10E b0 a0), .box ([.int .i64 a0.n_.Kind_, .str a0.n_.Text_] ++ (c_T_impl_Atom b0 a0.n_.Atom_) ++ [.int .i64 (a0.kids_.length : Int)]), .arr .clo 7 (l3.map (c_T_impl_Expr false))]) (fun q ex fr σ => match q with | l5 => ex = .exit 0 ∧ fr = [(0, .hd 2 (l5.map (c_T_impl_Expr false)).length 0 (l5.map (c_T_impl_Expr false)).length)] ∧ σ = [.box (c_T_spec_l10E b0 a0), .box ([.int .i64 a0.n_.Kind_, .str a0.n_.Text_] ++ (c_T_impl_Atom b0 a0.n_.Atom_) ++ [.int .i64 (a0.kids_.length : Int)]), .arr .clo 7 (l5.map (c_T_impl_Expr false))]) h14 ?_ ?_ ?_ ?_ ?_
 ·rintro ⟨l3, v4⟩ y6 H
  refine T.seq (T.region (TL.st rfl rfl rfl (o_ari rfl rfl rfl rfl) (TL.nil (thn_normal (T.seq ?_)))))
  refine T.cond (decide (v4 < (a0.kids_.length : Int))) rfl (fun h => ?_) (fun h => ?_)
  ·replace H := cond_t h H
   refine T.skip (thn_normal (T.seq (T.block (T.seq (T.region ?_)))))
   obtain ⟨w8, h9, H⟩ := bind_s H
   obtain ⟨e7, h10, H⟩ := bind_s H
   refine TL.st rfl rfl rfl (o_ixR (f := c_raw) rfl rfl tyS_67 rfl rfl h9 (dec_T_spec_l10E_s h10) rfl) ?_
   refine TL.st rfl rfl rfl (o_loadRf rfl tyS_67 rfl (Nat.le_of_ble_eq_true rfl) rfl) ?_
   refine TL.st rfl rfl rfl (o_alloc rfl ⟨_, rfl, rfl⟩) (TL.sn rfl rfl (o_storeBx rfl tyS_67 rfl rfl rfl rfl (Nat.le_of_ble_eq_true rfl) rfl) ?_)
   refine TL.nil (thn_normal (T.region (TL.st rfl rfl rfl (o_move rfl rfl) (TL.st rfl rfl rfl (o_loadBx rfl tyS_67 rfl rfl (Nat.le_of_ble_eq_true rfl) rfl) ?_))))
   obtain ⟨r11, h12, H⟩ := bind_s H
   refine TL.st rfl rfl rfl (o_callS [2] rfl en_36 rfl rfl (spec_l10Putxx_o false h12) rfl (by decide) (.cons _ _ _ _ rfl .nil) rfl rfl rfl) ?_
   refine TL.conv (Cs.wkF (M := 6) (.cons 7 _ (.bx 3 0) _ rfl (.same _) rfl (.cons 19 _ (.im b0 (a0.kids_.map (c_raw))) _ rfl (.same _) rfl (.cons 20 _ (.int .i64 (a0.kids_.length : Int)) _ rfl (.same _) rfl (.cons 21 _ (.int .i64 v4) _ rfl (.same _) rfl (.cons 22 _ (.bool (decide (v4 < (a0.kids_.length : Int)))) _ rfl (.same _) rfl (.cons 24 _ (.agg (c_T_spec_l10E false e7)) _ rfl (.same _) rfl (.cons 26 _ (.agg (c_T_spec_l10E false e7)) _ rfl (.same _) rfl (.cons 27 _ (.hd 5 (r11.map (c_T_impl_Expr false)).length 0 (r11.map (c_T_impl_Expr false)).length) _ rfl (.same _) rfl .nil))))))))) ?_
   refine TL.conv (Cs.reloc 2 5 rfl rfl (by decide) rfl rfl rfl (nomS_get rfl)) ?_
   refine TL.conv (Cs.wkF (M := 6) (.cons 7 _ (.bx 3 0) _ rfl (.same _) rfl (.cons 19 _ (.im b0 (a0.kids_.map (c_raw))) _ rfl (.same _) rfl (.cons 20 _ (.int .i64 (a0.kids_.length : Int)) _ rfl (.same _) rfl (.cons 21 _ (.int .i64 v4) _ rfl (.same _) rfl (.cons 22 _ (.bool (decide (v4 < (a0.kids_.length : Int)))) _ rfl (.same _) rfl (.cons 24 _ (.agg (c_T_spec_l10E false e7)) _ rfl (.same _) rfl (.cons 26 _ (.agg (c_T_spec_l10E false e7)) _ rfl (.same _) rfl (.cons 27 _ (.hd 2 (r11.map (c_T_impl_Expr false)).length 0 (r11.map (c_T_impl_Expr false)).length) _ rfl (.same _) rfl .nil))))))))) ?_
   refine TL.conv (Cs.eqS (σ' := [.box (c_T_spec_l10E b0 a0), .box ([.int .i64 a0.n_.Kind_, .str a0.n_.Text_] ++ (c_T_impl_Atom b0 a0.n_.Atom_) ++ [.int .i64 (a0.kids_.length : Int)]), .arr .clo 7 (r11.map (c_T_impl_Expr false)), .box (c_T_spec_l10E false e7), .dead, .dead]) rfl) ?_
   refine TL.st rfl rfl rfl (o_assign rfl rfl) (TL.nil (inB_normal (thn_normal (T.region (TL.st rfl rfl rfl (o_ari rfl rfl rfl rfl) (TL.st rfl rfl rfl (o_move rfl rfl) (TL.nil ?_)))))))
   exact Pk.go (fr' := [(0, .hd 2 (r11.map (c_T_impl_Expr false)).length 0 (r11.map (c_T_impl_Expr false)).length), (19, .im b0 (a0.kids_.map (c_raw))), (20, .int .i64 (a0.kids_.length : Int)), (21, .int .i64 (IntKind.i64.wrap (v4 + 1)))]) (σ' := [.box (c_T_spec_l10E b0 a0), .box ([.int .i64 a0.n_.Kind_, .str a0.n_.Text_] ++ (c_T_impl_Atom b0 a0.n_.Atom_) ++ [.int .i64 (a0.kids_.length : Int)]), .arr .clo 7 (r11.map (c_T_impl_Expr false))]) _ rfl rfl ⟨(bels_iff.1 rfl), ⟨(bels_iff.1 rfl), ⟨trivial, trivial⟩⟩⟩ (.cons 0 _ (.hd 2 (r11.map (c_T_impl_Expr false)).length 0 (r11.map (c_T_impl_Expr false)).length) _ rfl (.same _) rfl (.cons 19 _ (.im b0 (a0.kids_.map (c_raw))) _ rfl (.same _) rfl (.cons 20 _ (.int .i64 (a0.kids_.length : Int)) _ rfl (.same _) rfl (.cons 21 _ (.int .i64 (IntKind.i64.wrap (v4 + 1))) _ rfl (.same _) rfl .nil)))) (thn_normal ⟨(r11, (IntKind.i64.wrap (v4 + 1))), (some_i H).symm, rfl, rfl⟩)
  ·replace H := cond_f h H
   refine T.exit (thn_exit ?_)
   exact Pk.go (fr' := [(0, .hd 2 (l3.map (c_T_impl_Expr false)).length 0 (l3.map (c_T_impl_Expr false)).length)]) (σ' := [.box (c_T_spec_l10E b0 a0), .box ([.int .i64 a0.n_.Kind_, .str a0.n_.Text_] ++ (c_T_impl_Atom b0 a0.n_.Atom_) ++ [.int .i64 (a0.kids_.length : Int)]), .arr .clo 7 (l3.map (c_T_impl_Expr false))]) _ rfl rfl ⟨(bels_iff.1 rfl), ⟨(bels_iff.1 rfl), ⟨trivial, trivial⟩⟩⟩ (.cons 0 _ (.hd 2 (l3.map (c_T_impl_Expr false)).length 0 (l3.map (c_T_impl_Expr false)).length) _ rfl (.same _) rfl .nil) (thn_exit ⟨l3, (some_i H).symm, rfl, rfl, rfl⟩)
 ·rintro ⟨l3, v4⟩ ⟨l3', v4'⟩; rfl
 ·rintro ⟨l3, v4⟩; exact ⟨(bels_iff.1 rfl), ⟨(bels_iff.1 rfl), ⟨trivial, trivial⟩⟩⟩
 ·rintro ⟨l3, v4⟩; exact (.cons _ _ _ rfl rfl (.cons _ _ _ rfl rfl (.cons _ _ _ rfl rfl (.cons _ _ _ rfl rfl .nil))))
 ·rintro _ _ _ ⟨rfl, rfl, rfl⟩
  refine inB_here (thn_normal (T.seq (T.region (TL.st rfl rfl rfl (o_move rfl rfl) (TL.st rfl rfl rfl (o_assign rfl rfl) (TL.nil (thn_normal (T.conv (Cs.wkF (M := 3) (.cons 4 _ (.hd 2 (l5.map (c_T_impl_Expr false)).length 0 (l5.map (c_T_impl_Expr false)).length) _ rfl (.same _) rfl .nil)) ?_))))))))
  refine T.conv (Cs.reloc 0 2 rfl rfl (by decide) rfl rfl rfl (nomS_get rfl)) ?_
  refine T.ret ?_
  cases some_i H
  exact ⟨trivial, _, (.tmp _ _ _ _ rfl .nil), ⟨rfl, _, rfl⟩⟩
noncomputable def spec_l1Cur_policyo_j1 (b11 : T_spec_l1Cur) (b12 : T_impl_Policy) : Option (T_impl_Policy × T_spec_l1Cur) :=
  (spec_l1Cur_one 4 b11).bind fun q => (match q with | (r13, o14) => cond (!r13) ((spec_l1Cur_boolExpr 2 o14).bind fun q => (match q with | (r16, o17) => (spec_l10Putx r16).bind fun r19 => (spec_l1Cur_one 2 o17).bind fun q => (match q with | (r21, o22) => cond r21 ((spec_l1Cur_kindBool 2 o22).bind fun q => (match q with | (r24, o25) => (spec_l10Putx r24).bind fun r27 => some ((⟨b12.Id_, b12.Permit_, b12.Principal_, b12.Action_, b12.Resource_, r27⟩ : T_impl_Policy), o25))) (some ((⟨b12.Id_, b12.Permit_, b12.Principal_, b12.Action_, b12.Resource_, r19⟩ : T_impl_Policy), o22))))) (some (b12, o14)))
noncomputable def spec_l1Cur_policyo (a0 : ByteArray) (s0 : T_spec_l1Cur) : Option (T_impl_Policy × T_spec_l1Cur) :=
  (spec_l1Cur_one 3 s0).bind fun q => (match q with | (r1, o2) => (spec_l1Cur_head true o2).bind fun q => (match q with | (r4, o5) => (spec_l1Cur_head true o5).bind fun q => (match q with | (r7, o8) => (spec_l1Cur_one 2 o8).bind fun q => (match q with | (r29, o30) => cond r29 ((spec_l1Cur_of ([(ByteArray.mk #[118, 105, 101, 119]), (ByteArray.mk #[101, 100, 105, 116])] : List ByteArray) o30).bind fun q => (match q with | (r32, o33) => (spec_l10Ref (ByteArray.mk #[65, 99, 116, 105, 111, 110]) r32).bind fun r35 => spec_l1Cur_policyo_j1 o33 (⟨a0, (!r1), r4, (⟨2, r35, (ByteArray.mk #[])⟩ : T_impl_Head), r7, ([] : List T_impl_Expr)⟩ : T_impl_Policy))) (spec_l1Cur_policyo_j1 o30 (⟨a0, (!r1), r4, (⟨1, (⟨0, 0, (ByteArray.mk #[]), (ByteArray.mk #[])⟩ : T_impl_Atom), (ByteArray.mk #[])⟩ : T_impl_Head), r7, ([] : List T_impl_Expr)⟩ : T_impl_Policy))))))
theorem spec_l1Cur_policyo_o (c0 : Bool) {a0 : ByteArray} {s0 : T_spec_l1Cur} {R0 : T_impl_Policy} {U0 : T_spec_l1Cur} (H : spec_l1Cur_policyo a0 s0 = some (R0, U0)) : St Go.Proofs.Tryz.prog 12 [.bx 0 0, .str a0] [.box (c_T_spec_l1Cur c0 s0)] (.agg ([.str R0.Id_, .bool R0.Permit_] ++ (c_T_impl_Head false R0.Principal_) ++ (c_T_impl_Head false R0.Action_) ++ (c_T_impl_Head false R0.Resource_) ++ [.hd 1 (R0.When_.map (c_T_impl_Expr false)).length 0 (R0.When_.map (c_T_impl_Expr false)).length])) [.box (c_T_spec_l1Cur c0 U0), .arr .clo 7 (R0.When_.map (c_T_impl_Expr false))] := by
 refine CallT.finR (CallT.of_TN (n := 38) Go.Proofs.Tryz.func12 rfl rfl rfl rfl ?_) rfl rfl ⟨(bels_iff.1 rfl), ⟨trivial, trivial⟩⟩
 refine T.conv Cs.pushDead ?_
 refine T.conv (Cs.wkF (M := 2) (.cons 0 _ (.bx 0 0) _ rfl (.same _) rfl (.cons 1 _ (.str a0) _ rfl (.same _) rfl .nil))) ?_
 refine T.conv (Cs.eqS (σ' := [.box (c_T_spec_l1Cur c0 s0), .dead]) rfl) ?_
 refine T.seq (T.region (TL.st rfl rfl rfl (o_alloc rfl ⟨_, rfl, rfl⟩) (TL.nil (thn_normal (T.seq (T.region (TL.st rfl rfl rfl (o_move rfl rfl) (TL.st rfl rfl rfl (o_move rfl rfl) ?_))))))))
 obtain ⟨⟨r1, o2⟩, h3, H⟩ := bind_s H
 refine TL.st rfl rfl rfl (o_callS [0] rfl en_13 rfl rfl (spec_l1Cur_one_p c0 h3) rfl (by decide) (.cons _ _ _ _ rfl .nil) rfl rfl rfl) ?_
 refine TL.st rfl rfl rfl (o_not rfl rfl) ?_
 refine TL.st rfl rfl rfl (o_move rfl rfl) ?_
 obtain ⟨⟨r4, o5⟩, h6, H⟩ := bind_s H
 refine TL.st rfl rfl rfl (o_callS [0] rfl en_34 rfl rfl (spec_l1Cur_head_p c0 h6) rfl (by decide) (.cons _ _ _ _ rfl .nil) rfl rfl rfl) ?_
 refine TL.st rfl rfl rfl (o_build rfl ⟨_, fun _ => rfl, rfl⟩ rfl rfl rfl) ?_
 refine TL.st rfl rfl rfl (o_move rfl rfl) ?_
 obtain ⟨⟨r7, o8⟩, h9, H⟩ := bind_s H
 refine TL.st rfl rfl rfl (o_callS [0] rfl en_34 rfl rfl (spec_l1Cur_head_p c0 h9) rfl (by decide) (.cons _ _ _ _ rfl .nil) rfl rfl rfl) ?_
 refine TL.st rfl rfl rfl (o_build rfl ⟨_, fun _ => rfl, rfl⟩ rfl rfl rfl) ?_
 refine TL.st rfl rfl rfl (o_alloc rfl ⟨_, rfl, rfl⟩) (TL.sn rfl rfl (o_storeBx rfl tyS_29 rfl rfl rfl rfl (Nat.le_of_ble_eq_true rfl) rfl) ?_)
 refine TL.nil (thn_normal (T.conv (Cs.ownCell (p := 3) 20 7 rfl rfl (by decide)) ?_))
 refine T.cut (fun fr' σ' => ∃ (b11 : T_spec_l1Cur) (b12 : T_impl_Policy), fr' = [(0, .bx 0 0), (4, .bx 2 0), (5, .bx 3 0)] ∧ σ' = [.box (c_T_spec_l1Cur c0 b11), .dead, .box [.str (ByteArray.mk #[]), .bool false, .int .i64 0, .int .i64 0, .int .i64 0, .str (ByteArray.mk #[]), .str (ByteArray.mk #[]), .str (ByteArray.mk #[]), .int .i64 0, .int .i64 0, .int .i64 0, .str (ByteArray.mk #[]), .str (ByteArray.mk #[]), .str (ByteArray.mk #[]), .int .i64 0, .int .i64 0, .int .i64 0, .str (ByteArray.mk #[]), .str (ByteArray.mk #[]), .str (ByteArray.mk #[]), .nilS], .box ([.str b12.Id_, .bool b12.Permit_] ++ (c_T_impl_Head false b12.Principal_) ++ (c_T_impl_Head false b12.Action_) ++ (c_T_impl_Head false b12.Resource_) ++ [.hd 4 (b12.When_.map (c_T_impl_Expr false)).length 0 (b12.When_.map (c_T_impl_Expr false)).length]), .arr .clo 7 (b12.When_.map (c_T_impl_Expr false))] ∧ spec_l1Cur_policyo_j1 b11 b12 = some (R0, U0)) (T.pk ?_) ?_
 ·skip
  refine T.seq (T.region (TL.st rfl rfl rfl (o_move rfl rfl) ?_))
  obtain ⟨⟨r29, o30⟩, h31, H⟩ := bind_s H
  refine TL.st rfl rfl rfl (o_callS [0] rfl en_13 rfl rfl (spec_l1Cur_one_p c0 h31) rfl (by decide) (.cons _ _ _ _ rfl .nil) rfl rfl rfl) ?_
  refine TL.nil (thn_normal ?_)
  refine T.cond (r29) rfl (fun h => ?_) (fun h => ?_)
  ·replace H := cond_t h H
   refine T.region (TL.st rfl rfl rfl (o_move rfl rfl) (TL.st rfl rfl rfl (o_sliceIm rfl rfl tyS_9 ⟨_, rfl, rfl⟩ (by decide) rfl rfl rfl rfl rfl rfl) ?_))
   obtain ⟨⟨r32, o33⟩, h34, H⟩ := bind_s H
   refine TL.st rfl rfl rfl (o_callS [0] rfl en_17 rfl rfl (spec_l1Cur_of_p false c0 h34) rfl (by decide) (.cons _ _ _ _ rfl .nil) rfl rfl rfl) ?_
   obtain ⟨r35, h36, H⟩ := bind_s H
   refine TL.st rfl rfl rfl (o_callP rfl en_35 rfl rfl (.cons _ _ _ _ (.cl _ rfl) (.cons _ _ _ _ (.cl _ rfl) .nil)) (spec_l10Ref_p  h36)) ?_
   refine TL.st rfl rfl rfl (o_build rfl ⟨_, fun _ => rfl, rfl⟩ rfl rfl rfl) ?_
   refine TL.st rfl rfl rfl (o_fieldAddr rfl rfl rfl tyS_26 (by decide) rfl rfl ⟨_, rfl, Nat.le_of_ble_eq_true rfl⟩) ?_
   refine TL.sn rfl rfl (o_storeBx rfl tyS_26 rfl rfl rfl rfl (Nat.le_of_ble_eq_true rfl) rfl) ?_
   refine TL.nil ?_
   exact Pk.go (fr' := [(0, .bx 0 0), (4, .bx 2 0), (5, .bx 3 0)]) (σ' := [.box (c_T_spec_l1Cur c0 o33), .dead, .box [.str (ByteArray.mk #[]), .bool false, .int .i64 0, .int .i64 0, .int .i64 0, .str (ByteArray.mk #[]), .str (ByteArray.mk #[]), .str (ByteArray.mk #[]), .int .i64 0, .int .i64 0, .int .i64 0, .str (ByteArray.mk #[]), .str (ByteArray.mk #[]), .str (ByteArray.mk #[]), .int .i64 0, .int .i64 0, .int .i64 0, .str (ByteArray.mk #[]), .str (ByteArray.mk #[]), .str (ByteArray.mk #[]), .nilS], .box ([.str (⟨a0, (!r1), r4, (⟨2, r35, (ByteArray.mk #[])⟩ : T_impl_Head), r7, ([] : List T_impl_Expr)⟩ : T_impl_Policy).Id_, .bool (⟨a0, (!r1), r4, (⟨2, r35, (ByteArray.mk #[])⟩ : T_impl_Head), r7, ([] : List T_impl_Expr)⟩ : T_impl_Policy).Permit_] ++ (c_T_impl_Head false (⟨a0, (!r1), r4, (⟨2, r35, (ByteArray.mk #[])⟩ : T_impl_Head), r7, ([] : List T_impl_Expr)⟩ : T_impl_Policy).Principal_) ++ (c_T_impl_Head false (⟨a0, (!r1), r4, (⟨2, r35, (ByteArray.mk #[])⟩ : T_impl_Head), r7, ([] : List T_impl_Expr)⟩ : T_impl_Policy).Action_) ++ (c_T_impl_Head false (⟨a0, (!r1), r4, (⟨2, r35, (ByteArray.mk #[])⟩ : T_impl_Head), r7, ([] : List T_impl_Expr)⟩ : T_impl_Policy).Resource_) ++ [.hd 4 ((⟨a0, (!r1), r4, (⟨2, r35, (ByteArray.mk #[])⟩ : T_impl_Head), r7, ([] : List T_impl_Expr)⟩ : T_impl_Policy).When_.map (c_T_impl_Expr false)).length 0 ((⟨a0, (!r1), r4, (⟨2, r35, (ByteArray.mk #[])⟩ : T_impl_Head), r7, ([] : List T_impl_Expr)⟩ : T_impl_Policy).When_.map (c_T_impl_Expr false)).length]), .arr .clo 7 ((⟨a0, (!r1), r4, (⟨2, r35, (ByteArray.mk #[])⟩ : T_impl_Head), r7, ([] : List T_impl_Expr)⟩ : T_impl_Policy).When_.map (c_T_impl_Expr false))]) _ rfl rfl ⟨(bels_iff.1 rfl), ⟨trivial, ⟨(bels_iff.1 rfl), ⟨(bels_iff.1 rfl), ⟨trivial, trivial⟩⟩⟩⟩⟩ (.cons 0 _ (.bx 0 0) _ rfl (.same _) rfl (.cons 4 _ (.bx 2 0) _ rfl (.same _) rfl (.cons 5 _ (.bx 3 0) _ rfl (.same _) rfl .nil))) (thn_normal ⟨o33, (⟨a0, (!r1), r4, (⟨2, r35, (ByteArray.mk #[])⟩ : T_impl_Head), r7, ([] : List T_impl_Expr)⟩ : T_impl_Policy), rfl, rfl, H⟩)
  ·replace H := cond_f h H
   refine T.skip ?_
   exact Pk.go (fr' := [(0, .bx 0 0), (4, .bx 2 0), (5, .bx 3 0)]) (σ' := [.box (c_T_spec_l1Cur c0 o30), .dead, .box [.str (ByteArray.mk #[]), .bool false, .int .i64 0, .int .i64 0, .int .i64 0, .str (ByteArray.mk #[]), .str (ByteArray.mk #[]), .str (ByteArray.mk #[]), .int .i64 0, .int .i64 0, .int .i64 0, .str (ByteArray.mk #[]), .str (ByteArray.mk #[]), .str (ByteArray.mk #[]), .int .i64 0, .int .i64 0, .int .i64 0, .str (ByteArray.mk #[]), .str (ByteArray.mk #[]), .str (ByteArray.mk #[]), .nilS], .box ([.str (⟨a0, (!r1), r4, (⟨1, (⟨0, 0, (ByteArray.mk #[]), (ByteArray.mk #[])⟩ : T_impl_Atom), (ByteArray.mk #[])⟩ : T_impl_Head), r7, ([] : List T_impl_Expr)⟩ : T_impl_Policy).Id_, .bool (⟨a0, (!r1), r4, (⟨1, (⟨0, 0, (ByteArray.mk #[]), (ByteArray.mk #[])⟩ : T_impl_Atom), (ByteArray.mk #[])⟩ : T_impl_Head), r7, ([] : List T_impl_Expr)⟩ : T_impl_Policy).Permit_] ++ (c_T_impl_Head false (⟨a0, (!r1), r4, (⟨1, (⟨0, 0, (ByteArray.mk #[]), (ByteArray.mk #[])⟩ : T_impl_Atom), (ByteArray.mk #[])⟩ : T_impl_Head), r7, ([] : List T_impl_Expr)⟩ : T_impl_Policy).Principal_) ++ (c_T_impl_Head false (⟨a0, (!r1), r4, (⟨1, (⟨0, 0, (ByteArray.mk #[]), (ByteArray.mk #[])⟩ : T_impl_Atom), (ByteArray.mk #[])⟩ : T_impl_Head), r7, ([] : List T_impl_Expr)⟩ : T_impl_Policy).Action_) ++ (c_T_impl_Head false (⟨a0, (!r1), r4, (⟨1, (⟨0, 0, (ByteArray.mk #[]), (ByteArray.mk #[])⟩ : T_impl_Atom), (ByteArray.mk #[])⟩ : T_impl_Head), r7, ([] : List T_impl_Expr)⟩ : T_impl_Policy).Resource_) ++ [.hd 4 ((⟨a0, (!r1), r4, (⟨1, (⟨0, 0, (ByteArray.mk #[]), (ByteArray.mk #[])⟩ : T_impl_Atom), (ByteArray.mk #[])⟩ : T_impl_Head), r7, ([] : List T_impl_Expr)⟩ : T_impl_Policy).When_.map (c_T_impl_Expr false)).length 0 ((⟨a0, (!r1), r4, (⟨1, (⟨0, 0, (ByteArray.mk #[]), (ByteArray.mk #[])⟩ : T_impl_Atom), (ByteArray.mk #[])⟩ : T_impl_Head), r7, ([] : List T_impl_Expr)⟩ : T_impl_Policy).When_.map (c_T_impl_Expr false)).length]), .arr .clo 7 ((⟨a0, (!r1), r4, (⟨1, (⟨0, 0, (ByteArray.mk #[]), (ByteArray.mk #[])⟩ : T_impl_Atom), (ByteArray.mk #[])⟩ : T_impl_Head), r7, ([] : List T_impl_Expr)⟩ : T_impl_Policy).When_.map (c_T_impl_Expr false))]) _ rfl rfl ⟨(bels_iff.1 rfl), ⟨trivial, ⟨(bels_iff.1 rfl), ⟨(bels_iff.1 rfl), ⟨trivial, trivial⟩⟩⟩⟩⟩ (.cons 0 _ (.bx 0 0) _ rfl (.same _) rfl (.cons 4 _ (.bx 2 0) _ rfl (.same _) rfl (.cons 5 _ (.bx 3 0) _ rfl (.same _) rfl .nil))) (thn_normal ⟨o30, (⟨a0, (!r1), r4, (⟨1, (⟨0, 0, (ByteArray.mk #[]), (ByteArray.mk #[])⟩ : T_impl_Atom), (ByteArray.mk #[])⟩ : T_impl_Head), r7, ([] : List T_impl_Expr)⟩ : T_impl_Policy), rfl, rfl, H⟩)
 ·rintro _ _ ⟨b11, b12, rfl, rfl, H⟩
  refine T.seq (T.seq (T.region (TL.st rfl rfl rfl (o_move rfl rfl) ?_)))
  obtain ⟨⟨r13, o14⟩, h15, H⟩ := bind_s H
  refine TL.st rfl rfl rfl (o_callS [0] rfl en_13 rfl rfl (spec_l1Cur_one_p c0 h15) rfl (by decide) (.cons _ _ _ _ rfl .nil) rfl rfl rfl) ?_
  refine TL.st rfl rfl rfl (o_not rfl rfl) ?_
  refine TL.nil (thn_normal ?_)
  refine T.cond ((!r13)) rfl (fun h => ?_) (fun h => ?_)
  ·replace H := cond_t h H
   refine T.seq (T.region (TL.st rfl rfl rfl (o_move rfl rfl) ?_))
   obtain ⟨⟨r16, o17⟩, h18, H⟩ := bind_s H
   refine TL.st rfl rfl rfl (o_callS [0] rfl en_37 rfl rfl (spec_l1Cur_boolExpr_p c0 h18) rfl (by decide) (.cons _ _ _ _ rfl .nil) rfl rfl rfl) ?_
   obtain ⟨r19, h20, H⟩ := bind_s H
   refine TL.st rfl rfl rfl (o_callOwn rfl en_36 rfl rfl (.cons _ _ _ _ (.cl _ rfl) (.cons _ _ _ _ (.cl _ rfl) .nil)) (spec_l10Putx_o false h20)) ?_
   refine TL.st rfl rfl rfl (o_fieldAddr rfl rfl rfl tyS_27 (by decide) rfl rfl ⟨_, rfl, Nat.le_of_ble_eq_true rfl⟩) ?_
   refine TL.sn rfl rfl (o_storeBx rfl tyS_27 rfl rfl rfl rfl (Nat.le_of_ble_eq_true rfl) (sure_hd rfl rfl rfl)) ?_
   refine TL.conv (Cs.wkF (M := 6) (.cons 0 _ (.bx 0 0) _ rfl (.same _) rfl (.cons 4 _ (.bx 2 0) _ rfl (.same _) rfl (.cons 5 _ (.bx 3 0) _ rfl (.same _) rfl (.cons 24 _ (.bx 0 0) _ rfl (.same _) rfl (.cons 25 _ (.bool r13) _ rfl (.same _) rfl (.cons 26 _ (.bool (!r13)) _ rfl (.same _) rfl (.cons 27 _ (.bx 0 0) _ rfl (.same _) rfl (.cons 28 _ (.agg (c_T_spec_l10E false r16)) _ rfl (.same _) rfl (.cons 30 _ (.bx 3 20) _ rfl (.same _) rfl .nil)))))))))) ?_
   refine TL.conv (Cs.reloc 4 5 rfl rfl (by decide) rfl rfl rfl (nomS_get rfl)) ?_
   refine TL.conv (Cs.wkF (M := 6) (.cons 0 _ (.bx 0 0) _ rfl (.same _) rfl (.cons 4 _ (.bx 2 0) _ rfl (.same _) rfl (.cons 5 _ (.bx 3 0) _ rfl (.same _) rfl (.cons 24 _ (.bx 0 0) _ rfl (.same _) rfl (.cons 25 _ (.bool r13) _ rfl (.same _) rfl (.cons 26 _ (.bool (!r13)) _ rfl (.same _) rfl (.cons 27 _ (.bx 0 0) _ rfl (.same _) rfl (.cons 28 _ (.agg (c_T_spec_l10E false r16)) _ rfl (.same _) rfl (.cons 30 _ (.bx 3 20) _ rfl (.same _) rfl .nil)))))))))) ?_
   refine TL.conv (Cs.eqS (σ' := [.box (c_T_spec_l1Cur c0 o17), .dead, .box [.str (ByteArray.mk #[]), .bool false, .int .i64 0, .int .i64 0, .int .i64 0, .str (ByteArray.mk #[]), .str (ByteArray.mk #[]), .str (ByteArray.mk #[]), .int .i64 0, .int .i64 0, .int .i64 0, .str (ByteArray.mk #[]), .str (ByteArray.mk #[]), .str (ByteArray.mk #[]), .int .i64 0, .int .i64 0, .int .i64 0, .str (ByteArray.mk #[]), .str (ByteArray.mk #[]), .str (ByteArray.mk #[]), .nilS], .box ([.str b12.Id_, .bool b12.Permit_] ++ (c_T_impl_Head false b12.Principal_) ++ (c_T_impl_Head false b12.Action_) ++ (c_T_impl_Head false b12.Resource_) ++ [.hd 4 (r19.map (c_T_impl_Expr false)).length 0 (r19.map (c_T_impl_Expr false)).length]), .arr .clo 7 (r19.map (c_T_impl_Expr false)), .dead]) rfl) ?_
   refine TL.nil (thn_normal (T.seq (T.region (TL.st rfl rfl rfl (o_move rfl rfl) ?_))))
   obtain ⟨⟨r21, o22⟩, h23, H⟩ := bind_s H
   refine TL.st rfl rfl rfl (o_callS [0] rfl en_13 rfl rfl (spec_l1Cur_one_p c0 h23) rfl (by decide) (.cons _ _ _ _ rfl .nil) rfl rfl rfl) ?_
   refine TL.nil (thn_normal ?_)
   refine T.cond (r21) rfl (fun h => ?_) (fun h => ?_)
   ·replace H := cond_t h H
    refine T.region (TL.st rfl rfl rfl (o_move rfl rfl) ?_)
    obtain ⟨⟨r24, o25⟩, h26, H⟩ := bind_s H
    refine TL.st rfl rfl rfl (o_callS [0] rfl en_38 rfl rfl (spec_l1Cur_kindBool_p c0 h26) rfl (by decide) (.cons _ _ _ _ rfl .nil) rfl rfl rfl) ?_
    obtain ⟨r27, h28, H⟩ := bind_s H
    refine TL.st rfl rfl rfl (o_callOwn rfl en_36 rfl rfl (.cons _ _ _ _ (.cl _ rfl) (.cons _ _ _ _ (.cl _ rfl) .nil)) (spec_l10Putx_o false h28)) ?_
    refine TL.st rfl rfl rfl (o_fieldAddr rfl rfl rfl tyS_27 (by decide) rfl rfl ⟨_, rfl, Nat.le_of_ble_eq_true rfl⟩) ?_
    refine TL.sn rfl rfl (o_storeBx rfl tyS_27 rfl rfl rfl rfl (Nat.le_of_ble_eq_true rfl) (sure_hd rfl rfl rfl)) ?_
    refine TL.conv (Cs.wkF (M := 7) (.cons 0 _ (.bx 0 0) _ rfl (.same _) rfl (.cons 4 _ (.bx 2 0) _ rfl (.same _) rfl (.cons 5 _ (.bx 3 0) _ rfl (.same _) rfl (.cons 24 _ (.bx 0 0) _ rfl (.same _) rfl (.cons 25 _ (.bool r13) _ rfl (.same _) rfl (.cons 26 _ (.bool (!r13)) _ rfl (.same _) rfl (.cons 27 _ (.bx 0 0) _ rfl (.same _) rfl (.cons 28 _ (.agg (c_T_spec_l10E false r16)) _ rfl (.same _) rfl (.cons 30 _ (.bx 3 20) _ rfl (.same _) rfl (.cons 31 _ (.bx 0 0) _ rfl (.same _) rfl (.cons 32 _ (.bool r21) _ rfl (.same _) rfl (.cons 33 _ (.bx 0 0) _ rfl (.same _) rfl (.cons 34 _ (.agg (c_T_spec_l10E false r24)) _ rfl (.same _) rfl (.cons 36 _ (.bx 3 20) _ rfl (.same _) rfl .nil))))))))))))))) ?_
    refine TL.conv (Cs.reloc 4 6 rfl rfl (by decide) rfl rfl rfl (nomS_get rfl)) ?_
    refine TL.conv (Cs.wkF (M := 7) (.cons 0 _ (.bx 0 0) _ rfl (.same _) rfl (.cons 4 _ (.bx 2 0) _ rfl (.same _) rfl (.cons 5 _ (.bx 3 0) _ rfl (.same _) rfl (.cons 24 _ (.bx 0 0) _ rfl (.same _) rfl (.cons 25 _ (.bool r13) _ rfl (.same _) rfl (.cons 26 _ (.bool (!r13)) _ rfl (.same _) rfl (.cons 27 _ (.bx 0 0) _ rfl (.same _) rfl (.cons 28 _ (.agg (c_T_spec_l10E false r16)) _ rfl (.same _) rfl (.cons 30 _ (.bx 3 20) _ rfl (.same _) rfl (.cons 31 _ (.bx 0 0) _ rfl (.same _) rfl (.cons 32 _ (.bool r21) _ rfl (.same _) rfl (.cons 33 _ (.bx 0 0) _ rfl (.same _) rfl (.cons 34 _ (.agg (c_T_spec_l10E false r24)) _ rfl (.same _) rfl (.cons 36 _ (.bx 3 20) _ rfl (.same _) rfl .nil))))))))))))))) ?_
    refine TL.conv (Cs.eqS (σ' := [.box (c_T_spec_l1Cur c0 o25), .dead, .box [.str (ByteArray.mk #[]), .bool false, .int .i64 0, .int .i64 0, .int .i64 0, .str (ByteArray.mk #[]), .str (ByteArray.mk #[]), .str (ByteArray.mk #[]), .int .i64 0, .int .i64 0, .int .i64 0, .str (ByteArray.mk #[]), .str (ByteArray.mk #[]), .str (ByteArray.mk #[]), .int .i64 0, .int .i64 0, .int .i64 0, .str (ByteArray.mk #[]), .str (ByteArray.mk #[]), .str (ByteArray.mk #[]), .nilS], .box ([.str b12.Id_, .bool b12.Permit_] ++ (c_T_impl_Head false b12.Principal_) ++ (c_T_impl_Head false b12.Action_) ++ (c_T_impl_Head false b12.Resource_) ++ [.hd 4 (r27.map (c_T_impl_Expr false)).length 0 (r27.map (c_T_impl_Expr false)).length]), .arr .clo 7 (r27.map (c_T_impl_Expr false)), .dead, .dead]) rfl) ?_
    refine TL.nil (thn_normal (T.seq (T.region (TL.st rfl rfl rfl (o_loadBx rfl tyS_29 rfl rfl (Nat.le_of_ble_eq_true rfl) rfl) ?_))))
    refine TL.sn rfl rfl (o_storeBx rfl tyS_29 rfl rfl rfl rfl (Nat.le_of_ble_eq_true rfl) (sure_c rfl (sure_c rfl (sure_c rfl (sure_c rfl (sure_c rfl (sure_c rfl (sure_c rfl (sure_c rfl (sure_c rfl (sure_c rfl (sure_c rfl (sure_c rfl (sure_c rfl (sure_c rfl (sure_c rfl (sure_c rfl (sure_c rfl (sure_c rfl (sure_c rfl (sure_c rfl (sure_hd rfl rfl rfl)))))))))))))))))))))) ?_
    refine TL.nil (thn_normal (T.conv (Cs.wkF (M := 7) (.cons 4 _ (.bx 2 0) _ rfl (.same _) rfl .nil)) ?_))
    refine T.conv (Cs.reloc 1 4 rfl rfl (by decide) rfl rfl rfl (nomS_get rfl)) ?_
    refine T.conv (Cs.wkF (M := 7) (.cons 4 _ (.bx 2 0) _ rfl (.same _) rfl .nil)) ?_
    refine T.conv (Cs.eqS (σ' := [.box (c_T_spec_l1Cur c0 o25), .arr .clo 7 (r27.map (c_T_impl_Expr false)), .box ([.str b12.Id_, .bool b12.Permit_] ++ (c_T_impl_Head false b12.Principal_) ++ (c_T_impl_Head false b12.Action_) ++ (c_T_impl_Head false b12.Resource_) ++ [.hd 1 (r27.map (c_T_impl_Expr false)).length 0 (r27.map (c_T_impl_Expr false)).length]), .box ([.str b12.Id_, .bool b12.Permit_] ++ (c_T_impl_Head false b12.Principal_) ++ (c_T_impl_Head false b12.Action_) ++ (c_T_impl_Head false b12.Resource_) ++ [.hd 1 (r27.map (c_T_impl_Expr false)).length 0 (r27.map (c_T_impl_Expr false)).length]), .dead, .dead, .dead]) rfl) ?_
    refine T.ret ?_
    cases some_i H
    exact ⟨trivial, _, (.cell _ _ _ _ _ _ _ _ _ _ rfl rfl tyS_29 (Nat.le_of_ble_eq_true rfl) rfl .nil), ⟨rfl, _, rfl⟩⟩
   ·replace H := cond_f h H
    refine T.skip (thn_normal (T.seq (T.region (TL.st rfl rfl rfl (o_loadBx rfl tyS_29 rfl rfl (Nat.le_of_ble_eq_true rfl) rfl) ?_))))
    refine TL.sn rfl rfl (o_storeBx rfl tyS_29 rfl rfl rfl rfl (Nat.le_of_ble_eq_true rfl) (sure_c rfl (sure_c rfl (sure_c rfl (sure_c rfl (sure_c rfl (sure_c rfl (sure_c rfl (sure_c rfl (sure_c rfl (sure_c rfl (sure_c rfl (sure_c rfl (sure_c rfl (sure_c rfl (sure_c rfl (sure_c rfl (sure_c rfl (sure_c rfl (sure_c rfl (sure_c rfl (sure_hd rfl rfl rfl)))))))))))))))))))))) ?_
    refine TL.nil (thn_normal (T.conv (Cs.wkF (M := 6) (.cons 4 _ (.bx 2 0) _ rfl (.same _) rfl .nil)) ?_))
    refine T.conv (Cs.reloc 1 4 rfl rfl (by decide) rfl rfl rfl (nomS_get rfl)) ?_
    refine T.conv (Cs.wkF (M := 6) (.cons 4 _ (.bx 2 0) _ rfl (.same _) rfl .nil)) ?_
    refine T.conv (Cs.eqS (σ' := [.box (c_T_spec_l1Cur c0 o22), .arr .clo 7 (r19.map (c_T_impl_Expr false)), .box ([.str b12.Id_, .bool b12.Permit_] ++ (c_T_impl_Head false b12.Principal_) ++ (c_T_impl_Head false b12.Action_) ++ (c_T_impl_Head false b12.Resource_) ++ [.hd 1 (r19.map (c_T_impl_Expr false)).length 0 (r19.map (c_T_impl_Expr false)).length]), .box ([.str b12.Id_, .bool b12.Permit_] ++ (c_T_impl_Head false b12.Principal_) ++ (c_T_impl_Head false b12.Action_) ++ (c_T_impl_Head false b12.Resource_) ++ [.hd 1 (r19.map (c_T_impl_Expr false)).length 0 (r19.map (c_T_impl_Expr false)).length]), .dead, .dead]) rfl) ?_
    refine T.ret ?_
    cases some_i H
    exact ⟨trivial, _, (.cell _ _ _ _ _ _ _ _ _ _ rfl rfl tyS_29 (Nat.le_of_ble_eq_true rfl) rfl .nil), ⟨rfl, _, rfl⟩⟩
  ·replace H := cond_f h H
   refine T.skip (thn_normal (T.seq (T.region (TL.st rfl rfl rfl (o_loadBx rfl tyS_29 rfl rfl (Nat.le_of_ble_eq_true rfl) rfl) ?_))))
   refine TL.sn rfl rfl (o_storeBx rfl tyS_29 rfl rfl rfl rfl (Nat.le_of_ble_eq_true rfl) (sure_c rfl (sure_c rfl (sure_c rfl (sure_c rfl (sure_c rfl (sure_c rfl (sure_c rfl (sure_c rfl (sure_c rfl (sure_c rfl (sure_c rfl (sure_c rfl (sure_c rfl (sure_c rfl (sure_c rfl (sure_c rfl (sure_c rfl (sure_c rfl (sure_c rfl (sure_c rfl (sure_hd rfl rfl rfl)))))))))))))))))))))) ?_
   refine TL.nil (thn_normal (T.conv (Cs.wkF (M := 5) (.cons 4 _ (.bx 2 0) _ rfl (.same _) rfl .nil)) ?_))
   refine T.conv (Cs.reloc 1 4 rfl rfl (by decide) rfl rfl rfl (nomS_get rfl)) ?_
   refine T.conv (Cs.wkF (M := 5) (.cons 4 _ (.bx 2 0) _ rfl (.same _) rfl .nil)) ?_
   refine T.conv (Cs.eqS (σ' := [.box (c_T_spec_l1Cur c0 o14), .arr .clo 7 (b12.When_.map (c_T_impl_Expr false)), .box ([.str b12.Id_, .bool b12.Permit_] ++ (c_T_impl_Head false b12.Principal_) ++ (c_T_impl_Head false b12.Action_) ++ (c_T_impl_Head false b12.Resource_) ++ [.hd 1 (b12.When_.map (c_T_impl_Expr false)).length 0 (b12.When_.map (c_T_impl_Expr false)).length]), .box ([.str b12.Id_, .bool b12.Permit_] ++ (c_T_impl_Head false b12.Principal_) ++ (c_T_impl_Head false b12.Action_) ++ (c_T_impl_Head false b12.Resource_) ++ [.hd 1 (b12.When_.map (c_T_impl_Expr false)).length 0 (b12.When_.map (c_T_impl_Expr false)).length]), .dead]) rfl) ?_
   refine T.ret ?_
   cases some_i H
   exact ⟨trivial, _, (.cell _ _ _ _ _ _ _ _ _ _ rfl rfl tyS_29 (Nat.le_of_ble_eq_true rfl) rfl .nil), ⟨rfl, _, rfl⟩⟩
noncomputable def spec_l1Cur_oddExprx_l1  : (List T_impl_Expr × Int) → Option ((List T_impl_Expr × Int) ⊕ List T_impl_Expr) := fun s => match s with
  | (l35, v36) => cond (decide (v36 > 0)) ((app ([(⟨6, (ByteArray.mk #[]), (⟨0, 0, (ByteArray.mk #[]), (ByteArray.mk #[])⟩ : T_impl_Atom), 1⟩ : T_impl_Expr)] : List T_impl_Expr) l35).bind fun l39 => some (.inl (l39, (IntKind.i64.wrap (v36 - 1))))) (some (.inr l35))
noncomputable def spec_l1Cur_oddExprx (s0 : T_spec_l1Cur) (s1 : List T_impl_Expr) : Option ((List T_impl_Expr) × T_spec_l1Cur) :=
  cond ((s1.length : Int) == 0) (some (s1, s0)) ((spec_l1Cur_pick (s1.length : Int) s0).bind fun q => (match q with | (r1, o2) => (spec_l1Cur_pick 16 o2).bind fun q => (match q with | (r4, o5) => cond (r4 == 0) ((spec_l1Cur_pick 23 o5).bind fun q => (match q with | (r7, o8) => (idx s1 r1).bind fun e10 => some ((s1.set (Int.toNat r1) (⟨r7, e10.Text_, e10.Atom_, e10.Kids_⟩ : T_impl_Expr)), o8))) (cond (r4 == 1) ((idx s1 r1).bind fun e12 => (spec_l1Cur_pick 3 o5).bind fun q => (match q with | (r14, o15) => (idx s1 r1).bind fun e17 => some ((s1.set (Int.toNat r1) (⟨e17.Kind_, e17.Text_, e17.Atom_, (IntKind.i64.wrap (e12.Kids_ + (IntKind.i64.wrap (r14 - 1))))⟩ : T_impl_Expr)), o15))) (cond (r4 == 2) ((spec_l1Cur_of ([(ByteArray.mk #[]), (ByteArray.mk #[120]), (ByteArray.mk #[92]), (ByteArray.mk #[49]), (ByteArray.mk #[112, 114, 105, 110, 99, 105, 112, 97, 108])] : List ByteArray) o5).bind fun q => (match q with | (r19, o20) => (idx s1 r1).bind fun e22 => some ((s1.set (Int.toNat r1) (⟨e22.Kind_, r19, e22.Atom_, e22.Kids_⟩ : T_impl_Expr)), o20))) (cond (r4 == 3) ((spec_l1Cur_atom o5).bind fun q => (match q with | (r24, o25) => (spec_l1Cur_oddAtom r24 o25).bind fun q => (match q with | (r27, o28) => (idx s1 r1).bind fun e30 => some ((s1.set (Int.toNat r1) (⟨e30.Kind_, e30.Text_, r27, e30.Kids_⟩ : T_impl_Expr)), o28)))) (cond (r4 == 4) ((spec_l1Cur_pick 4 o5).bind fun q => (match q with | (r32, o33) => (loopO (spec_l1Cur_oddExprx_l1) (s1, (IntKind.i64.wrap (9 + r32)))).bind fun l37 => (match l37 with | l37 => some (l37, o33)))) (some (s1, o5)))))))))
theorem spec_l1Cur_oddExprx_o (c0 : Bool) {s0 : T_spec_l1Cur} {s1 : List T_impl_Expr} {R0 : (List T_impl_Expr)} {U0 : T_spec_l1Cur} (H : spec_l1Cur_oddExprx s0 s1 = some (R0, U0)) : St Go.Proofs.Tryz.prog 33 [.bx 0 0, .hd 1 (s1.map (c_T_impl_Expr false)).length 0 (s1.map (c_T_impl_Expr false)).length] [.box (c_T_spec_l1Cur c0 s0), .arr .clo 7 (s1.map (c_T_impl_Expr false))] (.hd 3 (R0.map (c_T_impl_Expr false)).length 0 (R0.map (c_T_impl_Expr false)).length) [.box (c_T_spec_l1Cur c0 U0), .dead, .dead, .arr .clo 7 (R0.map (c_T_impl_Expr false))] := by
 refine CallT.finR (CallT.of_TN (n := 71) Go.Proofs.Tryz.func33 rfl rfl rfl rfl ?_) rfl rfl ⟨(bels_iff.1 rfl), ⟨trivial, ⟨trivial, ⟨trivial, trivial⟩⟩⟩⟩
 refine T.conv (Cs.fresh 1 rfl rfl (by decide) rfl (nomS_all rfl rfl)) ?_
 refine T.conv Cs.pushDead ?_
 refine T.conv (Cs.wkF (M := 4) (.cons 0 _ (.bx 0 0) _ rfl (.same _) rfl (.cons 1 _ (.hd 2 (s1.map (c_T_impl_Expr false)).length 0 (s1.map (c_T_impl_Expr false)).length) _ rfl (.same _) rfl .nil))) ?_
 refine T.conv (Cs.eqS (σ' := [.box (c_T_spec_l1Cur c0 s0), .dead, .arr .clo 7 (s1.map (c_T_impl_Expr false)), .dead]) rfl) ?_
 refine T.seq (T.region (TL.st rfl rfl rfl (o_assign rfl rfl) (TL.nil (thn_normal (T.seq (T.seq (T.region (TL.st rfl rfl rfl (o_move rfl rfl) (TL.st rfl rfl rfl (o_lenOwn (f := c_T_impl_Expr false) rfl rfl rfl rfl rfl) ?_)))))))))
 refine TL.st rfl rfl rfl (o_ari rfl rfl rfl rfl) (TL.nil (thn_normal ?_))
 refine T.cond (((s1.length : Int) == 0)) rfl (fun h => ?_) (fun h => ?_)
 ·replace H := cond_t h H
  refine T.seq (T.region (TL.st rfl rfl rfl (o_move rfl rfl) (TL.st rfl rfl rfl (o_assign rfl rfl) (TL.nil (thn_normal (T.conv (Cs.wkF (M := 4) (.cons 4 _ (.hd 2 (s1.map (c_T_impl_Expr false)).length 0 (s1.map (c_T_impl_Expr false)).length) _ rfl (.same _) rfl .nil)) ?_))))))
  refine T.conv (Cs.reloc 3 2 rfl rfl (by decide) rfl rfl rfl (nomS_get rfl)) ?_
  refine T.conv (Cs.wkF (M := 4) (.cons 4 _ (.hd 3 (s1.map (c_T_impl_Expr false)).length 0 (s1.map (c_T_impl_Expr false)).length) _ rfl (.same _) rfl .nil)) ?_
  refine T.conv (Cs.eqS (σ' := [.box (c_T_spec_l1Cur c0 s0), .dead, .dead, .arr .clo 7 (s1.map (c_T_impl_Expr false))]) rfl) ?_
  refine T.ret (thn_ret ?_)
  cases some_i H
  exact ⟨trivial, _, (.tmp _ _ _ _ rfl .nil), ⟨rfl, _, rfl⟩⟩
 ·replace H := cond_f h H
  refine T.skip (thn_normal (T.seq (T.region (TL.st rfl rfl rfl (o_move rfl rfl) (TL.st rfl rfl rfl (o_move rfl rfl) (TL.st rfl rfl rfl (o_lenOwn (f := c_T_impl_Expr false) rfl rfl rfl rfl rfl) ?_))))))
  obtain ⟨⟨r1, o2⟩, h3, H⟩ := bind_s H
  refine TL.st rfl rfl rfl (o_callS [0] rfl en_14 rfl rfl (spec_l1Cur_pick_p c0 h3) rfl (by decide) (.cons _ _ _ _ rfl .nil) rfl rfl rfl) ?_
  refine TL.st rfl rfl rfl (o_assign rfl rfl) (TL.nil (thn_normal (T.seq (T.seq (T.region (TL.st rfl rfl rfl (o_move rfl rfl) ?_))))))
  obtain ⟨⟨r4, o5⟩, h6, H⟩ := bind_s H
  refine TL.st rfl rfl rfl (o_callS [0] rfl en_14 rfl rfl (spec_l1Cur_pick_p c0 h6) rfl (by decide) (.cons _ _ _ _ rfl .nil) rfl rfl rfl) ?_
  refine TL.nil (thn_normal (T.block (T.seq (T.region (TL.st rfl rfl rfl (o_ari rfl rfl rfl rfl) (TL.st rfl rfl rfl (o_assign rfl rfl) (TL.nil (thn_normal ?_))))))))
  refine T.cond ((r4 == 0)) rfl (fun h => ?_) (fun h => ?_)
  ·replace H := cond_t h H
   refine T.region (TL.st rfl rfl rfl (o_move rfl rfl) (TL.st rfl rfl rfl (o_move rfl rfl) (TL.st rfl rfl rfl (o_move rfl rfl) ?_)))
   obtain ⟨⟨r7, o8⟩, h9, H⟩ := bind_s H
   refine TL.st rfl rfl rfl (o_callS [0] rfl en_14 rfl rfl (spec_l1Cur_pick_p c0 h9) rfl (by decide) (.cons _ _ _ _ rfl .nil) rfl rfl rfl) ?_
   obtain ⟨e10, h11, H⟩ := bind_s H
   refine TL.st rfl rfl rfl (o_ixh (f := c_T_impl_Expr false) rfl rfl tyS_57 rfl rfl rfl rfl h11 rfl) ?_
   refine TL.st rfl rfl rfl (o_fieldAddrEl rfl rfl rfl tyS_3 (by decide) rfl rfl rfl) ?_
   refine TL.sn rfl rfl (o_stEl (f := c_T_impl_Expr false) (xs := s1) (k := r1) (a := e10) (⟨r7, e10.Text_, e10.Atom_, e10.Kids_⟩ : T_impl_Expr) rfl tyS_3 rfl rfl rfl rfl (by decide) h11 rfl rfl rfl (fun _ => rfl) rfl) ?_
   refine TL.conv (Cs.eqV (t := 1) (v' := .hd 2 ((s1.set (Int.toNat r1) (⟨r7, e10.Text_, e10.Atom_, e10.Kids_⟩ : T_impl_Expr)).map (c_T_impl_Expr false)).length 0 ((s1.set (Int.toNat r1) (⟨r7, e10.Text_, e10.Atom_, e10.Kids_⟩ : T_impl_Expr)).map (c_T_impl_Expr false)).length) rfl (hd_len _ (List.length_set ..))) ?_
   refine TL.conv (Cs.eqV (t := 7) (v' := .hd 2 ((s1.set (Int.toNat r1) (⟨r7, e10.Text_, e10.Atom_, e10.Kids_⟩ : T_impl_Expr)).map (c_T_impl_Expr false)).length 0 ((s1.set (Int.toNat r1) (⟨r7, e10.Text_, e10.Atom_, e10.Kids_⟩ : T_impl_Expr)).map (c_T_impl_Expr false)).length) rfl (hd_len _ (List.length_set ..))) ?_
   refine TL.conv (Cs.eqV (t := 12) (v' := .hd 2 ((s1.set (Int.toNat r1) (⟨r7, e10.Text_, e10.Atom_, e10.Kids_⟩ : T_impl_Expr)).map (c_T_impl_Expr false)).length 0 ((s1.set (Int.toNat r1) (⟨r7, e10.Text_, e10.Atom_, e10.Kids_⟩ : T_impl_Expr)).map (c_T_impl_Expr false)).length) rfl (hd_len _ (List.length_set ..))) ?_
   refine TL.conv (Cs.eqV (t := 19) (v' := .hd 2 ((s1.set (Int.toNat r1) (⟨r7, e10.Text_, e10.Atom_, e10.Kids_⟩ : T_impl_Expr)).map (c_T_impl_Expr false)).length 0 ((s1.set (Int.toNat r1) (⟨r7, e10.Text_, e10.Atom_, e10.Kids_⟩ : T_impl_Expr)).map (c_T_impl_Expr false)).length) rfl (hd_len _ (List.length_set ..))) ?_
   refine TL.nil (inB_normal (thn_normal (T.seq (T.region (TL.st rfl rfl rfl (o_move rfl rfl) (TL.st rfl rfl rfl (o_assign rfl rfl) (TL.nil (thn_normal (T.conv (Cs.wkF (M := 4) (.cons 4 _ (.hd 2 ((s1.set (Int.toNat r1) (⟨r7, e10.Text_, e10.Atom_, e10.Kids_⟩ : T_impl_Expr)).map (c_T_impl_Expr false)).length 0 ((s1.set (Int.toNat r1) (⟨r7, e10.Text_, e10.Atom_, e10.Kids_⟩ : T_impl_Expr)).map (c_T_impl_Expr false)).length) _ rfl (.same _) rfl .nil)) ?_)))))))))
   refine T.conv (Cs.reloc 3 2 rfl rfl (by decide) rfl rfl rfl (nomS_get rfl)) ?_
   refine T.conv (Cs.wkF (M := 4) (.cons 4 _ (.hd 3 ((s1.set (Int.toNat r1) (⟨r7, e10.Text_, e10.Atom_, e10.Kids_⟩ : T_impl_Expr)).map (c_T_impl_Expr false)).length 0 ((s1.set (Int.toNat r1) (⟨r7, e10.Text_, e10.Atom_, e10.Kids_⟩ : T_impl_Expr)).map (c_T_impl_Expr false)).length) _ rfl (.same _) rfl .nil)) ?_
   refine T.conv (Cs.eqS (σ' := [.box (c_T_spec_l1Cur c0 o8), .dead, .dead, .arr .clo 7 ((s1.set (Int.toNat r1) (⟨r7, e10.Text_, e10.Atom_, e10.Kids_⟩ : T_impl_Expr)).map (c_T_impl_Expr false))]) rfl) ?_
   refine T.ret ?_
   cases some_i H
   exact ⟨trivial, _, (.tmp _ _ _ _ rfl .nil), ⟨rfl, _, rfl⟩⟩
  ·replace H := cond_f h H
   refine T.seq (T.region (TL.st rfl rfl rfl (o_ari rfl rfl rfl rfl) (TL.st rfl rfl rfl (o_assign rfl rfl) (TL.nil (thn_normal ?_)))))
   refine T.cond ((r4 == 1)) rfl (fun h => ?_) (fun h => ?_)
   ·replace H := cond_t h H
    obtain ⟨e12, h13, H⟩ := bind_s H
    obtain ⟨⟨r14, o15⟩, h16, H⟩ := bind_s H
    obtain ⟨e17, h18, H⟩ := bind_s H
    refine T.drawS (fr' := [(0, .bx 0 0), (1, .hd 2 (s1.map (c_T_impl_Expr false)).length 0 (s1.map (c_T_impl_Expr false)).length), (4, .nilS), (5, .int .i64 r1), (7, .hd 2 (s1.map (c_T_impl_Expr false)).length 0 (s1.map (c_T_impl_Expr false)).length), (8, .int .i64 (s1.length : Int)), (9, .bool ((s1.length : Int) == 0)), (11, .bx 0 0), (12, .hd 2 (s1.map (c_T_impl_Expr false)).length 0 (s1.map (c_T_impl_Expr false)).length), (13, .int .i64 (s1.length : Int)), (14, .int .i64 r1), (15, .bx 0 0), (16, .int .i64 r4), (17, .bool (r4 == 0)), (18, .bool (r4 == 0)), (25, .bool (r4 == 1)), (26, .bool (r4 == 1)), (27, .hd 2 (s1.map (c_T_impl_Expr false)).length 0 (s1.map (c_T_impl_Expr false)).length), (28, .int .i64 r1), (31, .int .i64 e12.Kids_), (32, .bx 0 0), (33, .int .i64 r14), (34, .int .i64 (IntKind.i64.wrap (r14 - 1))), (35, .int .i64 (IntKind.i64.wrap (e12.Kids_ + (IntKind.i64.wrap (r14 - 1)))))]) (R := [⟨some 27, .hd 2 (s1.map (c_T_impl_Expr false)).length 0 (s1.map (c_T_impl_Expr false)).length, .q, []⟩, ⟨some 28, .int .i64 r1, .q, []⟩, ⟨some 29, .el 2 (s1.map (c_T_impl_Expr false)).length (Int.toNat r1) 0, .q, []⟩, ⟨some 30, .el 2 (s1.map (c_T_impl_Expr false)).length (Int.toNat r1) 6, .q, []⟩, ⟨some 31, .int .i64 e12.Kids_, .q, []⟩, ⟨some 32, .bx 0 0, .q, []⟩, ⟨some 33, .int .i64 r14, .q, []⟩, ⟨some 34, .int .i64 (IntKind.i64.wrap (r14 - 1)), .q, []⟩, ⟨some 35, .int .i64 (IntKind.i64.wrap (e12.Kids_ + (IntKind.i64.wrap (r14 - 1)))), .q, []⟩, ⟨some 36, .el 2 (s1.map (c_T_impl_Expr false)).length (Int.toNat r1) 0, .q, []⟩, ⟨some 37, .el 2 (s1.map (c_T_impl_Expr false)).length (Int.toNat r1) 6, .q, []⟩, ⟨none, .any, .q, []⟩]) (fun b => cond (b 6) (cond (b 11) ([.box (c_T_spec_l1Cur c0 o15), .dead, .arr .clo 7 ((s1.set (Int.toNat r1) (⟨e17.Kind_, e17.Text_, e17.Atom_, (IntKind.i64.wrap (e12.Kids_ + (IntKind.i64.wrap (r14 - 1))))⟩ : T_impl_Expr)).map (c_T_impl_Expr false)), .dead]) ([.box (c_T_spec_l1Cur c0 o15), .dead, .arr .clo 7 (s1.map (c_T_impl_Expr false)), .dead])) ([.box (c_T_spec_l1Cur c0 o5), .dead, .arr .clo 7 (s1.map (c_T_impl_Expr false)), .dead])) rfl ?_ ?_ rfl rfl (FrL.get (.cons rfl (.cons rfl (.cons rfl (.cons rfl (.cons rfl (.cons rfl (.cons rfl (.cons rfl (.cons rfl (.cons rfl (.cons rfl (.cons rfl (.cons rfl (.cons rfl (.cons rfl (.cons rfl (.cons rfl (.cons rfl (.cons rfl (.cons rfl (.cons rfl (.cons rfl (.cons rfl (.cons rfl .nil))))))))))))))))))))))))) ?_
    ·refine .cons _ _ _ _ _ ⟨rfl, [(1, .hd 2 (s1.map (c_T_impl_Expr false)).length 0 (s1.map (c_T_impl_Expr false)).length)], AllN.get rfl (.cons rfl .nil), fun b hd hn hk hc => ?_⟩ ?_
     ·cases e6 : b 6
      ·exact ops_at (σ1 := [.box (c_T_spec_l1Cur c0 o5), .dead, .arr .clo 7 (s1.map (c_T_impl_Expr false)), .dead]) (by simp only [show b 6 = false from e6, show b 11 = false from (hn 11 rfl), cond_true, cond_false]) rfl (o_move rfl rfl) (Eq.trans (b := [.box (c_T_spec_l1Cur c0 o5), .dead, .arr .clo 7 (s1.map (c_T_impl_Expr false)), .dead]) (by simp only [show updb b 0 6 = false from (updb_ne rfl).trans e6, show updb b 0 11 = false from (updb_ne rfl).trans (hn 11 rfl), cond_true, cond_false]) rfl) rfl
      ·exact ops_at (σ1 := [.box (c_T_spec_l1Cur c0 o15), .dead, .arr .clo 7 (s1.map (c_T_impl_Expr false)), .dead]) (by simp only [show b 6 = true from e6, show b 11 = false from (hn 11 rfl), cond_true, cond_false]) rfl (o_move rfl rfl) (Eq.trans (b := [.box (c_T_spec_l1Cur c0 o15), .dead, .arr .clo 7 (s1.map (c_T_impl_Expr false)), .dead]) (by simp only [show updb b 0 6 = true from (updb_ne rfl).trans e6, show updb b 0 11 = false from (updb_ne rfl).trans (hn 11 rfl), cond_true, cond_false]) rfl) rfl
     refine .cons _ _ _ _ _ ⟨rfl, [(5, .int .i64 r1)], AllN.get rfl (.cons rfl .nil), fun b hd hn hk hc => ?_⟩ ?_
     ·cases e6 : b 6
      ·exact ops_at (σ1 := [.box (c_T_spec_l1Cur c0 o5), .dead, .arr .clo 7 (s1.map (c_T_impl_Expr false)), .dead]) (by simp only [show b 6 = false from e6, show b 11 = false from (hn 11 rfl), cond_true, cond_false]) rfl (o_move rfl rfl) (Eq.trans (b := [.box (c_T_spec_l1Cur c0 o5), .dead, .arr .clo 7 (s1.map (c_T_impl_Expr false)), .dead]) (by simp only [show updb b 1 6 = false from (updb_ne rfl).trans e6, show updb b 1 11 = false from (updb_ne rfl).trans (hn 11 rfl), cond_true, cond_false]) rfl) rfl
      ·exact ops_at (σ1 := [.box (c_T_spec_l1Cur c0 o15), .dead, .arr .clo 7 (s1.map (c_T_impl_Expr false)), .dead]) (by simp only [show b 6 = true from e6, show b 11 = false from (hn 11 rfl), cond_true, cond_false]) rfl (o_move rfl rfl) (Eq.trans (b := [.box (c_T_spec_l1Cur c0 o15), .dead, .arr .clo 7 (s1.map (c_T_impl_Expr false)), .dead]) (by simp only [show updb b 1 6 = true from (updb_ne rfl).trans e6, show updb b 1 11 = false from (updb_ne rfl).trans (hn 11 rfl), cond_true, cond_false]) rfl) rfl
     refine .cons _ _ _ _ _ ⟨rfl, [(27, .hd 2 (s1.map (c_T_impl_Expr false)).length 0 (s1.map (c_T_impl_Expr false)).length), (28, .int .i64 r1)], AllN.get rfl (.cons rfl (.cons rfl .nil)), fun b hd hn hk hc => ?_⟩ ?_
     ·cases e6 : b 6
      ·exact ops_at (σ1 := [.box (c_T_spec_l1Cur c0 o5), .dead, .arr .clo 7 (s1.map (c_T_impl_Expr false)), .dead]) (by simp only [show b 6 = false from e6, show b 11 = false from (hn 11 rfl), cond_true, cond_false]) rfl (o_ixh (f := c_T_impl_Expr false) rfl rfl tyS_57 rfl rfl rfl rfl h13 rfl) (Eq.trans (b := [.box (c_T_spec_l1Cur c0 o5), .dead, .arr .clo 7 (s1.map (c_T_impl_Expr false)), .dead]) (by simp only [show updb b 2 6 = false from (updb_ne rfl).trans e6, show updb b 2 11 = false from (updb_ne rfl).trans (hn 11 rfl), cond_true, cond_false]) rfl) rfl
      ·exact ops_at (σ1 := [.box (c_T_spec_l1Cur c0 o15), .dead, .arr .clo 7 (s1.map (c_T_impl_Expr false)), .dead]) (by simp only [show b 6 = true from e6, show b 11 = false from (hn 11 rfl), cond_true, cond_false]) rfl (o_ixh (f := c_T_impl_Expr false) rfl rfl tyS_57 rfl rfl rfl rfl h13 rfl) (Eq.trans (b := [.box (c_T_spec_l1Cur c0 o15), .dead, .arr .clo 7 (s1.map (c_T_impl_Expr false)), .dead]) (by simp only [show updb b 2 6 = true from (updb_ne rfl).trans e6, show updb b 2 11 = false from (updb_ne rfl).trans (hn 11 rfl), cond_true, cond_false]) rfl) rfl
     refine .cons _ _ _ _ _ ⟨rfl, [(29, .el 2 (s1.map (c_T_impl_Expr false)).length (Int.toNat r1) 0)], AllN.get rfl (.cons rfl .nil), fun b hd hn hk hc => ?_⟩ ?_
     ·cases e6 : b 6
      ·exact ops_at (σ1 := [.box (c_T_spec_l1Cur c0 o5), .dead, .arr .clo 7 (s1.map (c_T_impl_Expr false)), .dead]) (by simp only [show b 6 = false from e6, show b 11 = false from (hn 11 rfl), cond_true, cond_false]) rfl (o_fieldAddrEl rfl rfl rfl tyS_3 (by decide) rfl rfl rfl) (Eq.trans (b := [.box (c_T_spec_l1Cur c0 o5), .dead, .arr .clo 7 (s1.map (c_T_impl_Expr false)), .dead]) (by simp only [show updb b 3 6 = false from (updb_ne rfl).trans e6, show updb b 3 11 = false from (updb_ne rfl).trans (hn 11 rfl), cond_true, cond_false]) rfl) rfl
      ·exact ops_at (σ1 := [.box (c_T_spec_l1Cur c0 o15), .dead, .arr .clo 7 (s1.map (c_T_impl_Expr false)), .dead]) (by simp only [show b 6 = true from e6, show b 11 = false from (hn 11 rfl), cond_true, cond_false]) rfl (o_fieldAddrEl rfl rfl rfl tyS_3 (by decide) rfl rfl rfl) (Eq.trans (b := [.box (c_T_spec_l1Cur c0 o15), .dead, .arr .clo 7 (s1.map (c_T_impl_Expr false)), .dead]) (by simp only [show updb b 3 6 = true from (updb_ne rfl).trans e6, show updb b 3 11 = false from (updb_ne rfl).trans (hn 11 rfl), cond_true, cond_false]) rfl) rfl
     refine .cons _ _ _ _ _ ⟨rfl, [(30, .el 2 (s1.map (c_T_impl_Expr false)).length (Int.toNat r1) 6)], AllN.get rfl (.cons rfl .nil), fun b hd hn hk hc => ?_⟩ ?_
     ·cases e6 : b 6
      ·exact ops_at (σ1 := [.box (c_T_spec_l1Cur c0 o5), .dead, .arr .clo 7 (s1.map (c_T_impl_Expr false)), .dead]) (by simp only [show b 6 = false from e6, show b 11 = false from (hn 11 rfl), cond_true, cond_false]) rfl (o_loadEl rfl tyS_3 rfl rfl rfl (by rw [List.getElem?_map, (idx_s h13).2]; rfl) (Nat.le_of_ble_eq_true rfl) rfl) (Eq.trans (b := [.box (c_T_spec_l1Cur c0 o5), .dead, .arr .clo 7 (s1.map (c_T_impl_Expr false)), .dead]) (by simp only [show updb b 4 6 = false from (updb_ne rfl).trans e6, show updb b 4 11 = false from (updb_ne rfl).trans (hn 11 rfl), cond_true, cond_false]) rfl) rfl
      ·exact ops_at (σ1 := [.box (c_T_spec_l1Cur c0 o15), .dead, .arr .clo 7 (s1.map (c_T_impl_Expr false)), .dead]) (by simp only [show b 6 = true from e6, show b 11 = false from (hn 11 rfl), cond_true, cond_false]) rfl (o_loadEl rfl tyS_3 rfl rfl rfl (by rw [List.getElem?_map, (idx_s h13).2]; rfl) (Nat.le_of_ble_eq_true rfl) rfl) (Eq.trans (b := [.box (c_T_spec_l1Cur c0 o15), .dead, .arr .clo 7 (s1.map (c_T_impl_Expr false)), .dead]) (by simp only [show updb b 4 6 = true from (updb_ne rfl).trans e6, show updb b 4 11 = false from (updb_ne rfl).trans (hn 11 rfl), cond_true, cond_false]) rfl) rfl
     refine .cons _ _ _ _ _ ⟨rfl, [(0, .bx 0 0)], AllN.get rfl (.cons rfl .nil), fun b hd hn hk hc => ?_⟩ ?_
     ·exact ops_at (σ1 := [.box (c_T_spec_l1Cur c0 o5), .dead, .arr .clo 7 (s1.map (c_T_impl_Expr false)), .dead]) (by simp only [show b 6 = false from (hn 6 rfl), show b 11 = false from (hn 11 rfl), cond_true, cond_false]) rfl (o_move rfl rfl) (Eq.trans (b := [.box (c_T_spec_l1Cur c0 o5), .dead, .arr .clo 7 (s1.map (c_T_impl_Expr false)), .dead]) (by simp only [show updb b 5 6 = false from (updb_ne rfl).trans (hn 6 rfl), show updb b 5 11 = false from (updb_ne rfl).trans (hn 11 rfl), cond_true, cond_false]) rfl) rfl
     refine .cons _ _ _ _ _ ⟨rfl, [(32, .bx 0 0)], AllN.get rfl (.cons rfl .nil), fun b hd hn hk hc => ?_⟩ ?_
     ·exact ops_at (σ1 := [.box (c_T_spec_l1Cur c0 o5), .dead, .arr .clo 7 (s1.map (c_T_impl_Expr false)), .dead]) (by simp only [show b 6 = false from hk, show b 11 = false from (hn 11 rfl), cond_true, cond_false]) rfl (o_callS [0] rfl en_14 rfl rfl (spec_l1Cur_pick_p c0 h16) rfl (by decide) (.cons _ _ _ _ rfl .nil) rfl rfl rfl) (Eq.trans (b := [.box (c_T_spec_l1Cur c0 o15), .dead, .arr .clo 7 (s1.map (c_T_impl_Expr false)), .dead]) (by simp only [show updb b 6 6 = true from updb_self, show updb b 6 11 = false from (updb_ne rfl).trans (hn 11 rfl), cond_true, cond_false]) rfl) rfl
     refine .cons _ _ _ _ _ ⟨rfl, [(33, .int .i64 r14)], AllN.get rfl (.cons rfl .nil), fun b hd hn hk hc => ?_⟩ ?_
     ·exact ops_at (σ1 := [.box (c_T_spec_l1Cur c0 o15), .dead, .arr .clo 7 (s1.map (c_T_impl_Expr false)), .dead]) (by simp only [show b 6 = true from (hd 6 rfl), show b 11 = false from (hn 11 rfl), cond_true, cond_false]) rfl (o_ari rfl rfl rfl rfl) (Eq.trans (b := [.box (c_T_spec_l1Cur c0 o15), .dead, .arr .clo 7 (s1.map (c_T_impl_Expr false)), .dead]) (by simp only [show updb b 7 6 = true from (updb_ne rfl).trans (hd 6 rfl), show updb b 7 11 = false from (updb_ne rfl).trans (hn 11 rfl), cond_true, cond_false]) rfl) rfl
     refine .cons _ _ _ _ _ ⟨rfl, [(31, .int .i64 e12.Kids_), (34, .int .i64 (IntKind.i64.wrap (r14 - 1)))], AllN.get rfl (.cons rfl (.cons rfl .nil)), fun b hd hn hk hc => ?_⟩ ?_
     ·exact ops_at (σ1 := [.box (c_T_spec_l1Cur c0 o15), .dead, .arr .clo 7 (s1.map (c_T_impl_Expr false)), .dead]) (by simp only [show b 6 = true from (hd 6 rfl), show b 11 = false from (hn 11 rfl), cond_true, cond_false]) rfl (o_ari rfl rfl rfl rfl) (Eq.trans (b := [.box (c_T_spec_l1Cur c0 o15), .dead, .arr .clo 7 (s1.map (c_T_impl_Expr false)), .dead]) (by simp only [show updb b 8 6 = true from (updb_ne rfl).trans (hd 6 rfl), show updb b 8 11 = false from (updb_ne rfl).trans (hn 11 rfl), cond_true, cond_false]) rfl) rfl
     refine .cons _ _ _ _ _ ⟨rfl, [(27, .hd 2 (s1.map (c_T_impl_Expr false)).length 0 (s1.map (c_T_impl_Expr false)).length), (28, .int .i64 r1)], AllN.get rfl (.cons rfl (.cons rfl .nil)), fun b hd hn hk hc => ?_⟩ ?_
     ·exact ops_at (σ1 := [.box (c_T_spec_l1Cur c0 o15), .dead, .arr .clo 7 (s1.map (c_T_impl_Expr false)), .dead]) (by simp only [show b 6 = true from (hd 6 rfl), show b 11 = false from (hn 11 rfl), cond_true, cond_false]) rfl (o_ixh (f := c_T_impl_Expr false) rfl rfl tyS_57 rfl rfl rfl rfl h18 rfl) (Eq.trans (b := [.box (c_T_spec_l1Cur c0 o15), .dead, .arr .clo 7 (s1.map (c_T_impl_Expr false)), .dead]) (by simp only [show updb b 9 6 = true from (updb_ne rfl).trans (hd 6 rfl), show updb b 9 11 = false from (updb_ne rfl).trans (hn 11 rfl), cond_true, cond_false]) rfl) rfl
     refine .cons _ _ _ _ _ ⟨rfl, [(36, .el 2 (s1.map (c_T_impl_Expr false)).length (Int.toNat r1) 0)], AllN.get rfl (.cons rfl .nil), fun b hd hn hk hc => ?_⟩ ?_
     ·exact ops_at (σ1 := [.box (c_T_spec_l1Cur c0 o15), .dead, .arr .clo 7 (s1.map (c_T_impl_Expr false)), .dead]) (by simp only [show b 6 = true from (hd 6 rfl), show b 11 = false from (hn 11 rfl), cond_true, cond_false]) rfl (o_fieldAddrEl rfl rfl rfl tyS_3 (by decide) rfl rfl rfl) (Eq.trans (b := [.box (c_T_spec_l1Cur c0 o15), .dead, .arr .clo 7 (s1.map (c_T_impl_Expr false)), .dead]) (by simp only [show updb b 10 6 = true from (updb_ne rfl).trans (hd 6 rfl), show updb b 10 11 = false from (updb_ne rfl).trans (hn 11 rfl), cond_true, cond_false]) rfl) rfl
     refine .cons _ _ _ _ _ ⟨rfl, [(35, .int .i64 (IntKind.i64.wrap (e12.Kids_ + (IntKind.i64.wrap (r14 - 1))))), (37, .el 2 (s1.map (c_T_impl_Expr false)).length (Int.toNat r1) 6)], AllN.get rfl (.cons rfl (.cons rfl .nil)), fun b hd hn hk hc => ?_⟩ ?_
     ·exact ops_at (σ1 := [.box (c_T_spec_l1Cur c0 o15), .dead, .arr .clo 7 (s1.map (c_T_impl_Expr false)), .dead]) (by simp only [show b 6 = true from (hd 6 rfl), show b 11 = false from hk, cond_true, cond_false]) rfl (o_stEl (f := c_T_impl_Expr false) (xs := s1) (k := r1) (a := e17) (⟨e17.Kind_, e17.Text_, e17.Atom_, (IntKind.i64.wrap (e12.Kids_ + (IntKind.i64.wrap (r14 - 1))))⟩ : T_impl_Expr) rfl tyS_3 rfl rfl rfl rfl (by decide) h18 rfl rfl rfl (fun _ => rfl) rfl) (Eq.trans (b := [.box (c_T_spec_l1Cur c0 o15), .dead, .arr .clo 7 ((s1.set (Int.toNat r1) (⟨e17.Kind_, e17.Text_, e17.Atom_, (IntKind.i64.wrap (e12.Kids_ + (IntKind.i64.wrap (r14 - 1))))⟩ : T_impl_Expr)).map (c_T_impl_Expr false)), .dead]) (by simp only [show updb b 11 6 = true from (updb_ne rfl).trans (hd 6 rfl), show updb b 11 11 = true from updb_self, cond_true, cond_false]) rfl) rfl
     exact .nil _
    ·intro b b' h; simp only [h 6 (by decide), h 11 (by decide)]
    refine inB_normal (thn_normal (T.conv (Cs.eqV (t := 1) (v' := .hd 2 ((s1.set (Int.toNat r1) (⟨e17.Kind_, e17.Text_, e17.Atom_, (IntKind.i64.wrap (e12.Kids_ + (IntKind.i64.wrap (r14 - 1))))⟩ : T_impl_Expr)).map (c_T_impl_Expr false)).length 0 ((s1.set (Int.toNat r1) (⟨e17.Kind_, e17.Text_, e17.Atom_, (IntKind.i64.wrap (e12.Kids_ + (IntKind.i64.wrap (r14 - 1))))⟩ : T_impl_Expr)).map (c_T_impl_Expr false)).length) rfl (hd_len _ (List.length_set ..))) ?_))
    refine T.conv (Cs.eqV (t := 7) (v' := .hd 2 ((s1.set (Int.toNat r1) (⟨e17.Kind_, e17.Text_, e17.Atom_, (IntKind.i64.wrap (e12.Kids_ + (IntKind.i64.wrap (r14 - 1))))⟩ : T_impl_Expr)).map (c_T_impl_Expr false)).length 0 ((s1.set (Int.toNat r1) (⟨e17.Kind_, e17.Text_, e17.Atom_, (IntKind.i64.wrap (e12.Kids_ + (IntKind.i64.wrap (r14 - 1))))⟩ : T_impl_Expr)).map (c_T_impl_Expr false)).length) rfl (hd_len _ (List.length_set ..))) ?_
    refine T.conv (Cs.eqV (t := 12) (v' := .hd 2 ((s1.set (Int.toNat r1) (⟨e17.Kind_, e17.Text_, e17.Atom_, (IntKind.i64.wrap (e12.Kids_ + (IntKind.i64.wrap (r14 - 1))))⟩ : T_impl_Expr)).map (c_T_impl_Expr false)).length 0 ((s1.set (Int.toNat r1) (⟨e17.Kind_, e17.Text_, e17.Atom_, (IntKind.i64.wrap (e12.Kids_ + (IntKind.i64.wrap (r14 - 1))))⟩ : T_impl_Expr)).map (c_T_impl_Expr false)).length) rfl (hd_len _ (List.length_set ..))) ?_
    refine T.conv (Cs.eqV (t := 27) (v' := .hd 2 ((s1.set (Int.toNat r1) (⟨e17.Kind_, e17.Text_, e17.Atom_, (IntKind.i64.wrap (e12.Kids_ + (IntKind.i64.wrap (r14 - 1))))⟩ : T_impl_Expr)).map (c_T_impl_Expr false)).length 0 ((s1.set (Int.toNat r1) (⟨e17.Kind_, e17.Text_, e17.Atom_, (IntKind.i64.wrap (e12.Kids_ + (IntKind.i64.wrap (r14 - 1))))⟩ : T_impl_Expr)).map (c_T_impl_Expr false)).length) rfl (hd_len _ (List.length_set ..))) ?_
    refine T.seq (T.region (TL.st rfl rfl rfl (o_move rfl rfl) (TL.st rfl rfl rfl (o_assign rfl rfl) (TL.nil (thn_normal (T.conv (Cs.wkF (M := 4) (.cons 4 _ (.hd 2 ((s1.set (Int.toNat r1) (⟨e17.Kind_, e17.Text_, e17.Atom_, (IntKind.i64.wrap (e12.Kids_ + (IntKind.i64.wrap (r14 - 1))))⟩ : T_impl_Expr)).map (c_T_impl_Expr false)).length 0 ((s1.set (Int.toNat r1) (⟨e17.Kind_, e17.Text_, e17.Atom_, (IntKind.i64.wrap (e12.Kids_ + (IntKind.i64.wrap (r14 - 1))))⟩ : T_impl_Expr)).map (c_T_impl_Expr false)).length) _ rfl (.same _) rfl .nil)) ?_))))))
    refine T.conv (Cs.reloc 3 2 rfl rfl (by decide) rfl rfl rfl (nomS_get rfl)) ?_
    refine T.conv (Cs.wkF (M := 4) (.cons 4 _ (.hd 3 ((s1.set (Int.toNat r1) (⟨e17.Kind_, e17.Text_, e17.Atom_, (IntKind.i64.wrap (e12.Kids_ + (IntKind.i64.wrap (r14 - 1))))⟩ : T_impl_Expr)).map (c_T_impl_Expr false)).length 0 ((s1.set (Int.toNat r1) (⟨e17.Kind_, e17.Text_, e17.Atom_, (IntKind.i64.wrap (e12.Kids_ + (IntKind.i64.wrap (r14 - 1))))⟩ : T_impl_Expr)).map (c_T_impl_Expr false)).length) _ rfl (.same _) rfl .nil)) ?_
    refine T.conv (Cs.eqS (σ' := [.box (c_T_spec_l1Cur c0 o15), .dead, .dead, .arr .clo 7 ((s1.set (Int.toNat r1) (⟨e17.Kind_, e17.Text_, e17.Atom_, (IntKind.i64.wrap (e12.Kids_ + (IntKind.i64.wrap (r14 - 1))))⟩ : T_impl_Expr)).map (c_T_impl_Expr false))]) rfl) ?_
    refine T.ret ?_
    cases some_i H
    exact ⟨trivial, _, (.tmp _ _ _ _ rfl .nil), ⟨rfl, _, rfl⟩⟩
   ·replace H := cond_f h H
    refine T.seq (T.region (TL.st rfl rfl rfl (o_ari rfl rfl rfl rfl) (TL.st rfl rfl rfl (o_assign rfl rfl) (TL.nil (thn_normal ?_)))))
    refine T.cond ((r4 == 2)) rfl (fun h => ?_) (fun h => ?_)
    ·replace H := cond_t h H
     refine T.region (TL.st rfl rfl rfl (o_move rfl rfl) (TL.st rfl rfl rfl (o_move rfl rfl) (TL.st rfl rfl rfl (o_move rfl rfl) (TL.st rfl rfl rfl (o_sliceIm rfl rfl tyS_9 ⟨_, rfl, rfl⟩ (by decide) rfl rfl rfl rfl rfl rfl) ?_))))
     obtain ⟨⟨r19, o20⟩, h21, H⟩ := bind_s H
     refine TL.st rfl rfl rfl (o_callS [0] rfl en_17 rfl rfl (spec_l1Cur_of_p false c0 h21) rfl (by decide) (.cons _ _ _ _ rfl .nil) rfl rfl rfl) ?_
     obtain ⟨e22, h23, H⟩ := bind_s H
     refine TL.st rfl rfl rfl (o_ixh (f := c_T_impl_Expr false) rfl rfl tyS_57 rfl rfl rfl rfl h23 rfl) ?_
     refine TL.st rfl rfl rfl (o_fieldAddrEl rfl rfl rfl tyS_9 (by decide) rfl rfl rfl) ?_
     refine TL.sn rfl rfl (o_stEl (f := c_T_impl_Expr false) (xs := s1) (k := r1) (a := e22) (⟨e22.Kind_, r19, e22.Atom_, e22.Kids_⟩ : T_impl_Expr) rfl tyS_9 rfl rfl rfl rfl (by decide) h23 rfl rfl rfl (fun _ => rfl) rfl) ?_
     refine TL.conv (Cs.eqV (t := 1) (v' := .hd 2 ((s1.set (Int.toNat r1) (⟨e22.Kind_, r19, e22.Atom_, e22.Kids_⟩ : T_impl_Expr)).map (c_T_impl_Expr false)).length 0 ((s1.set (Int.toNat r1) (⟨e22.Kind_, r19, e22.Atom_, e22.Kids_⟩ : T_impl_Expr)).map (c_T_impl_Expr false)).length) rfl (hd_len _ (List.length_set ..))) ?_
     refine TL.conv (Cs.eqV (t := 7) (v' := .hd 2 ((s1.set (Int.toNat r1) (⟨e22.Kind_, r19, e22.Atom_, e22.Kids_⟩ : T_impl_Expr)).map (c_T_impl_Expr false)).length 0 ((s1.set (Int.toNat r1) (⟨e22.Kind_, r19, e22.Atom_, e22.Kids_⟩ : T_impl_Expr)).map (c_T_impl_Expr false)).length) rfl (hd_len _ (List.length_set ..))) ?_
     refine TL.conv (Cs.eqV (t := 12) (v' := .hd 2 ((s1.set (Int.toNat r1) (⟨e22.Kind_, r19, e22.Atom_, e22.Kids_⟩ : T_impl_Expr)).map (c_T_impl_Expr false)).length 0 ((s1.set (Int.toNat r1) (⟨e22.Kind_, r19, e22.Atom_, e22.Kids_⟩ : T_impl_Expr)).map (c_T_impl_Expr false)).length) rfl (hd_len _ (List.length_set ..))) ?_
     refine TL.conv (Cs.eqV (t := 40) (v' := .hd 2 ((s1.set (Int.toNat r1) (⟨e22.Kind_, r19, e22.Atom_, e22.Kids_⟩ : T_impl_Expr)).map (c_T_impl_Expr false)).length 0 ((s1.set (Int.toNat r1) (⟨e22.Kind_, r19, e22.Atom_, e22.Kids_⟩ : T_impl_Expr)).map (c_T_impl_Expr false)).length) rfl (hd_len _ (List.length_set ..))) ?_
     refine TL.nil (inB_normal (thn_normal (T.seq (T.region (TL.st rfl rfl rfl (o_move rfl rfl) (TL.st rfl rfl rfl (o_assign rfl rfl) (TL.nil (thn_normal (T.conv (Cs.wkF (M := 4) (.cons 4 _ (.hd 2 ((s1.set (Int.toNat r1) (⟨e22.Kind_, r19, e22.Atom_, e22.Kids_⟩ : T_impl_Expr)).map (c_T_impl_Expr false)).length 0 ((s1.set (Int.toNat r1) (⟨e22.Kind_, r19, e22.Atom_, e22.Kids_⟩ : T_impl_Expr)).map (c_T_impl_Expr false)).length) _ rfl (.same _) rfl .nil)) ?_)))))))))
     refine T.conv (Cs.reloc 3 2 rfl rfl (by decide) rfl rfl rfl (nomS_get rfl)) ?_
     refine T.conv (Cs.wkF (M := 4) (.cons 4 _ (.hd 3 ((s1.set (Int.toNat r1) (⟨e22.Kind_, r19, e22.Atom_, e22.Kids_⟩ : T_impl_Expr)).map (c_T_impl_Expr false)).length 0 ((s1.set (Int.toNat r1) (⟨e22.Kind_, r19, e22.Atom_, e22.Kids_⟩ : T_impl_Expr)).map (c_T_impl_Expr false)).length) _ rfl (.same _) rfl .nil)) ?_
     refine T.conv (Cs.eqS (σ' := [.box (c_T_spec_l1Cur c0 o20), .dead, .dead, .arr .clo 7 ((s1.set (Int.toNat r1) (⟨e22.Kind_, r19, e22.Atom_, e22.Kids_⟩ : T_impl_Expr)).map (c_T_impl_Expr false))]) rfl) ?_
     refine T.ret ?_
     cases some_i H
     exact ⟨trivial, _, (.tmp _ _ _ _ rfl .nil), ⟨rfl, _, rfl⟩⟩
    ·replace H := cond_f h H
     refine T.seq (T.region (TL.st rfl rfl rfl (o_ari rfl rfl rfl rfl) (TL.st rfl rfl rfl (o_assign rfl rfl) (TL.nil (thn_normal ?_)))))
     refine T.cond ((r4 == 3)) rfl (fun h => ?_) (fun h => ?_)
     ·replace H := cond_t h H
      refine T.region (TL.st rfl rfl rfl (o_move rfl rfl) (TL.st rfl rfl rfl (o_move rfl rfl) (TL.st rfl rfl rfl (o_move rfl rfl) (TL.st rfl rfl rfl (o_move rfl rfl) ?_))))
      obtain ⟨⟨r24, o25⟩, h26, H⟩ := bind_s H
      refine TL.st rfl rfl rfl (o_callS [0] rfl en_16 rfl rfl (spec_l1Cur_atom_p c0 h26) rfl (by decide) (.cons _ _ _ _ rfl .nil) rfl rfl rfl) ?_
      obtain ⟨⟨r27, o28⟩, h29, H⟩ := bind_s H
      refine TL.st rfl rfl rfl (o_callS [0] rfl en_32 rfl rfl (spec_l1Cur_oddAtom_p c0 h29) rfl (by decide) (.cons _ _ _ _ rfl .nil) rfl rfl rfl) ?_
      obtain ⟨e30, h31, H⟩ := bind_s H
      refine TL.st rfl rfl rfl (o_ixh (f := c_T_impl_Expr false) rfl rfl tyS_57 rfl rfl rfl rfl h31 rfl) ?_
      refine TL.st rfl rfl rfl (o_fieldAddrEl rfl rfl rfl tyS_24 (by decide) rfl rfl rfl) ?_
      refine TL.sn rfl rfl (o_stEl (f := c_T_impl_Expr false) (xs := s1) (k := r1) (a := e30) (⟨e30.Kind_, e30.Text_, r27, e30.Kids_⟩ : T_impl_Expr) rfl tyS_24 rfl rfl rfl rfl (by decide) h31 rfl rfl rfl (fun _ => rfl) rfl) ?_
      refine TL.conv (Cs.eqV (t := 1) (v' := .hd 2 ((s1.set (Int.toNat r1) (⟨e30.Kind_, e30.Text_, r27, e30.Kids_⟩ : T_impl_Expr)).map (c_T_impl_Expr false)).length 0 ((s1.set (Int.toNat r1) (⟨e30.Kind_, e30.Text_, r27, e30.Kids_⟩ : T_impl_Expr)).map (c_T_impl_Expr false)).length) rfl (hd_len _ (List.length_set ..))) ?_
      refine TL.conv (Cs.eqV (t := 7) (v' := .hd 2 ((s1.set (Int.toNat r1) (⟨e30.Kind_, e30.Text_, r27, e30.Kids_⟩ : T_impl_Expr)).map (c_T_impl_Expr false)).length 0 ((s1.set (Int.toNat r1) (⟨e30.Kind_, e30.Text_, r27, e30.Kids_⟩ : T_impl_Expr)).map (c_T_impl_Expr false)).length) rfl (hd_len _ (List.length_set ..))) ?_
      refine TL.conv (Cs.eqV (t := 12) (v' := .hd 2 ((s1.set (Int.toNat r1) (⟨e30.Kind_, e30.Text_, r27, e30.Kids_⟩ : T_impl_Expr)).map (c_T_impl_Expr false)).length 0 ((s1.set (Int.toNat r1) (⟨e30.Kind_, e30.Text_, r27, e30.Kids_⟩ : T_impl_Expr)).map (c_T_impl_Expr false)).length) rfl (hd_len _ (List.length_set ..))) ?_
      refine TL.conv (Cs.eqV (t := 49) (v' := .hd 2 ((s1.set (Int.toNat r1) (⟨e30.Kind_, e30.Text_, r27, e30.Kids_⟩ : T_impl_Expr)).map (c_T_impl_Expr false)).length 0 ((s1.set (Int.toNat r1) (⟨e30.Kind_, e30.Text_, r27, e30.Kids_⟩ : T_impl_Expr)).map (c_T_impl_Expr false)).length) rfl (hd_len _ (List.length_set ..))) ?_
      refine TL.nil (inB_normal (thn_normal (T.seq (T.region (TL.st rfl rfl rfl (o_move rfl rfl) (TL.st rfl rfl rfl (o_assign rfl rfl) (TL.nil (thn_normal (T.conv (Cs.wkF (M := 4) (.cons 4 _ (.hd 2 ((s1.set (Int.toNat r1) (⟨e30.Kind_, e30.Text_, r27, e30.Kids_⟩ : T_impl_Expr)).map (c_T_impl_Expr false)).length 0 ((s1.set (Int.toNat r1) (⟨e30.Kind_, e30.Text_, r27, e30.Kids_⟩ : T_impl_Expr)).map (c_T_impl_Expr false)).length) _ rfl (.same _) rfl .nil)) ?_)))))))))
      refine T.conv (Cs.reloc 3 2 rfl rfl (by decide) rfl rfl rfl (nomS_get rfl)) ?_
      refine T.conv (Cs.wkF (M := 4) (.cons 4 _ (.hd 3 ((s1.set (Int.toNat r1) (⟨e30.Kind_, e30.Text_, r27, e30.Kids_⟩ : T_impl_Expr)).map (c_T_impl_Expr false)).length 0 ((s1.set (Int.toNat r1) (⟨e30.Kind_, e30.Text_, r27, e30.Kids_⟩ : T_impl_Expr)).map (c_T_impl_Expr false)).length) _ rfl (.same _) rfl .nil)) ?_
      refine T.conv (Cs.eqS (σ' := [.box (c_T_spec_l1Cur c0 o28), .dead, .dead, .arr .clo 7 ((s1.set (Int.toNat r1) (⟨e30.Kind_, e30.Text_, r27, e30.Kids_⟩ : T_impl_Expr)).map (c_T_impl_Expr false))]) rfl) ?_
      refine T.ret ?_
      cases some_i H
      exact ⟨trivial, _, (.tmp _ _ _ _ rfl .nil), ⟨rfl, _, rfl⟩⟩
     ·replace H := cond_f h H
      refine T.seq (T.region (TL.st rfl rfl rfl (o_ari rfl rfl rfl rfl) (TL.st rfl rfl rfl (o_assign rfl rfl) (TL.nil (thn_normal ?_)))))
      refine T.cond ((r4 == 4)) rfl (fun h => ?_) (fun h => ?_)
      ·replace H := cond_t h H
       refine T.seq (T.region (TL.st rfl rfl rfl (o_move rfl rfl) ?_))
       obtain ⟨⟨r32, o33⟩, h34, H⟩ := bind_s H
       refine TL.st rfl rfl rfl (o_callS [0] rfl en_14 rfl rfl (spec_l1Cur_pick_p c0 h34) rfl (by decide) (.cons _ _ _ _ rfl .nil) rfl rfl rfl) ?_
       refine TL.st rfl rfl rfl (o_ari rfl rfl rfl rfl) (TL.st rfl rfl rfl (o_assign rfl rfl) (TL.nil (thn_normal (T.block ?_))))
       obtain ⟨l37, h42, H⟩ := bind_s H
       refine T.to (.cons 1 _ (.hd 2 (s1.map (c_T_impl_Expr false)).length 0 (s1.map (c_T_impl_Expr false)).length) _ rfl (.same _) rfl (.cons 6 _ (.int .i64 (IntKind.i64.wrap (9 + r32))) _ rfl (.same _) rfl .nil)) ?_
       refine T.lp (fun s => match s with | (l35, v36) => [(1, .hd 2 (l35.map (c_T_impl_Expr false)).length 0 (l35.map (c_T_impl_Expr false)).length), (6, .int .i64 v36)]) (fun s => match s with | (l35, v36) => [.box (c_T_spec_l1Cur c0 o33), .dead, .arr .clo 7 (l35.map (c_T_impl_Expr false)), .dead]) (fun q ex fr σ => match q with | l37 => ex = .exit 1 ∧ fr = [(1, .hd 2 (l37.map (c_T_impl_Expr false)).length 0 (l37.map (c_T_impl_Expr false)).length)] ∧ σ = [.box (c_T_spec_l1Cur c0 o33), .dead, .arr .clo 7 (l37.map (c_T_impl_Expr false)), .dead]) h42 ?_ ?_ ?_ ?_ ?_
       ·rintro ⟨l35, v36⟩ y38 H
        refine T.seq (T.seq (T.region (TL.st rfl rfl rfl (o_move rfl rfl) (TL.st rfl rfl rfl (o_ari rfl rfl rfl rfl) (TL.nil (thn_normal ?_))))))
        refine T.cond (decide (v36 > 0)) rfl (fun h => ?_) (fun h => ?_)
        ·replace H := cond_t h H
         refine T.skip (thn_normal (T.seq (T.block (T.region (TL.st rfl rfl rfl (o_build rfl ⟨_, fun _ => rfl, rfl⟩ rfl rfl rfl) ?_)))))
         refine TL.st rfl rfl rfl (o_sliceHd .clo rfl rfl tyS_57 ⟨_, rfl, rfl⟩ (by decide) rfl rfl rfl rfl (by decide) (fun _ => rfl) (by decide) rfl (by decide)) ?_
         refine TL.st rfl rfl rfl (o_move rfl rfl) ?_
         obtain ⟨l39, h40, H⟩ := bind_s H
         refine TL.st rfl rfl rfl (o_ap (f := c_T_impl_Expr false) (xs := ([(⟨6, (ByteArray.mk #[]), (⟨0, 0, (ByteArray.mk #[]), (ByteArray.mk #[])⟩ : T_impl_Atom), 1⟩ : T_impl_Expr)] : List T_impl_Expr)) (ys := l35) rfl rfl tyE_57 rfl rfl rfl rfl (by decide) (src_own rfl (by decide) rfl) (fun _ => rfl) h40) ?_
         refine TL.st rfl rfl rfl (o_assign rfl rfl) (TL.conv (Cs.wkF (M := 5) (.cons 1 _ (.hd 4 (l39.map (c_T_impl_Expr false)).length 0 (l39.map (c_T_impl_Expr false)).length) _ rfl (.same _) rfl (.cons 6 _ (.int .i64 v36) _ rfl (.same _) rfl (.cons 62 _ (.int .i64 v36) _ rfl (.same _) rfl (.cons 63 _ (.bool (decide (v36 > 0))) _ rfl (.same _) rfl (.cons 66 _ (.agg [.int .i64 6, .str (ByteArray.mk #[]), .int .i64 0, .int .i64 0, .str (ByteArray.mk #[]), .str (ByteArray.mk #[]), .int .i64 1]) _ rfl (.same _) rfl (.cons 67 _ (.hd 4 (([(⟨6, (ByteArray.mk #[]), (⟨0, 0, (ByteArray.mk #[]), (ByteArray.mk #[])⟩ : T_impl_Atom), 1⟩ : T_impl_Expr)] : List T_impl_Expr).map (c_T_impl_Expr false)).length 0 (([(⟨6, (ByteArray.mk #[]), (⟨0, 0, (ByteArray.mk #[]), (ByteArray.mk #[])⟩ : T_impl_Atom), 1⟩ : T_impl_Expr)] : List T_impl_Expr).map (c_T_impl_Expr false)).length) _ rfl (.same _) rfl (.cons 69 _ (.hd 4 (l39.map (c_T_impl_Expr false)).length 0 (l39.map (c_T_impl_Expr false)).length) _ rfl (.same _) rfl .nil)))))))) ?_)
         refine TL.conv (Cs.reloc 2 4 rfl rfl (by decide) rfl rfl rfl (nomS_get rfl)) ?_
         refine TL.conv (Cs.wkF (M := 5) (.cons 1 _ (.hd 2 (l39.map (c_T_impl_Expr false)).length 0 (l39.map (c_T_impl_Expr false)).length) _ rfl (.same _) rfl (.cons 6 _ (.int .i64 v36) _ rfl (.same _) rfl (.cons 62 _ (.int .i64 v36) _ rfl (.same _) rfl (.cons 63 _ (.bool (decide (v36 > 0))) _ rfl (.same _) rfl (.cons 66 _ (.agg [.int .i64 6, .str (ByteArray.mk #[]), .int .i64 0, .int .i64 0, .str (ByteArray.mk #[]), .str (ByteArray.mk #[]), .int .i64 1]) _ rfl (.same _) rfl (.cons 67 _ (.hd 2 (([(⟨6, (ByteArray.mk #[]), (⟨0, 0, (ByteArray.mk #[]), (ByteArray.mk #[])⟩ : T_impl_Atom), 1⟩ : T_impl_Expr)] : List T_impl_Expr).map (c_T_impl_Expr false)).length 0 (([(⟨6, (ByteArray.mk #[]), (⟨0, 0, (ByteArray.mk #[]), (ByteArray.mk #[])⟩ : T_impl_Atom), 1⟩ : T_impl_Expr)] : List T_impl_Expr).map (c_T_impl_Expr false)).length) _ rfl (.same _) rfl (.cons 69 _ (.hd 2 (l39.map (c_T_impl_Expr false)).length 0 (l39.map (c_T_impl_Expr false)).length) _ rfl (.same _) rfl .nil)))))))) ?_
         refine TL.conv (Cs.eqS (σ' := [.box (c_T_spec_l1Cur c0 o33), .dead, .arr .clo 7 (l39.map (c_T_impl_Expr false)), .dead, .dead]) rfl) ?_
         refine TL.nil (inB_normal (thn_normal (T.region (TL.st rfl rfl rfl (o_move rfl rfl) (TL.st rfl rfl rfl (o_ari rfl rfl rfl rfl) (TL.st rfl rfl rfl (o_assign rfl rfl) (TL.nil ?_)))))))
         exact Pk.go (fr' := [(1, .hd 2 (l39.map (c_T_impl_Expr false)).length 0 (l39.map (c_T_impl_Expr false)).length), (6, .int .i64 (IntKind.i64.wrap (v36 - 1)))]) (σ' := [.box (c_T_spec_l1Cur c0 o33), .dead, .arr .clo 7 (l39.map (c_T_impl_Expr false)), .dead]) _ rfl rfl ⟨(bels_iff.1 rfl), ⟨trivial, ⟨trivial, ⟨trivial, trivial⟩⟩⟩⟩ (.cons 1 _ (.hd 2 (l39.map (c_T_impl_Expr false)).length 0 (l39.map (c_T_impl_Expr false)).length) _ rfl (.same _) rfl (.cons 6 _ (.int .i64 (IntKind.i64.wrap (v36 - 1))) _ rfl (.same _) rfl .nil)) (thn_normal ⟨(l39, (IntKind.i64.wrap (v36 - 1))), (some_i H).symm, rfl, rfl⟩)
        ·replace H := cond_f h H
         refine T.exit (thn_exit ?_)
         exact Pk.go (fr' := [(1, .hd 2 (l35.map (c_T_impl_Expr false)).length 0 (l35.map (c_T_impl_Expr false)).length)]) (σ' := [.box (c_T_spec_l1Cur c0 o33), .dead, .arr .clo 7 (l35.map (c_T_impl_Expr false)), .dead]) _ rfl rfl ⟨(bels_iff.1 rfl), ⟨trivial, ⟨trivial, ⟨trivial, trivial⟩⟩⟩⟩ (.cons 1 _ (.hd 2 (l35.map (c_T_impl_Expr false)).length 0 (l35.map (c_T_impl_Expr false)).length) _ rfl (.same _) rfl .nil) (thn_exit ⟨l35, (some_i H).symm, rfl, rfl, rfl⟩)
       ·rintro ⟨l35, v36⟩ ⟨l35', v36'⟩; rfl
       ·rintro ⟨l35, v36⟩; exact ⟨(bels_iff.1 rfl), ⟨trivial, ⟨trivial, ⟨trivial, trivial⟩⟩⟩⟩
       ·rintro ⟨l35, v36⟩; exact (.cons _ _ _ rfl rfl (.cons _ _ _ rfl rfl .nil))
       ·rintro _ _ _ ⟨rfl, rfl, rfl⟩
        refine inB_here (inB_normal (thn_normal (T.seq (T.region (TL.st rfl rfl rfl (o_move rfl rfl) (TL.st rfl rfl rfl (o_assign rfl rfl) (TL.nil (thn_normal (T.conv (Cs.wkF (M := 4) (.cons 4 _ (.hd 2 (l37.map (c_T_impl_Expr false)).length 0 (l37.map (c_T_impl_Expr false)).length) _ rfl (.same _) rfl .nil)) ?_)))))))))
        refine T.conv (Cs.reloc 3 2 rfl rfl (by decide) rfl rfl rfl (nomS_get rfl)) ?_
        refine T.conv (Cs.wkF (M := 4) (.cons 4 _ (.hd 3 (l37.map (c_T_impl_Expr false)).length 0 (l37.map (c_T_impl_Expr false)).length) _ rfl (.same _) rfl .nil)) ?_
        refine T.conv (Cs.eqS (σ' := [.box (c_T_spec_l1Cur c0 o33), .dead, .dead, .arr .clo 7 (l37.map (c_T_impl_Expr false))]) rfl) ?_
        refine T.ret ?_
        cases some_i H
        exact ⟨trivial, _, (.tmp _ _ _ _ rfl .nil), ⟨rfl, _, rfl⟩⟩
      ·replace H := cond_f h H
       refine T.skip (inB_normal (thn_normal (T.seq (T.region (TL.st rfl rfl rfl (o_move rfl rfl) (TL.st rfl rfl rfl (o_assign rfl rfl) (TL.nil (thn_normal (T.conv (Cs.wkF (M := 4) (.cons 4 _ (.hd 2 (s1.map (c_T_impl_Expr false)).length 0 (s1.map (c_T_impl_Expr false)).length) _ rfl (.same _) rfl .nil)) ?_)))))))))
       refine T.conv (Cs.reloc 3 2 rfl rfl (by decide) rfl rfl rfl (nomS_get rfl)) ?_
       refine T.conv (Cs.wkF (M := 4) (.cons 4 _ (.hd 3 (s1.map (c_T_impl_Expr false)).length 0 (s1.map (c_T_impl_Expr false)).length) _ rfl (.same _) rfl .nil)) ?_
       refine T.conv (Cs.eqS (σ' := [.box (c_T_spec_l1Cur c0 o5), .dead, .dead, .arr .clo 7 (s1.map (c_T_impl_Expr false))]) rfl) ?_
       refine T.ret ?_
       cases some_i H
       exact ⟨trivial, _, (.tmp _ _ _ _ rfl .nil), ⟨rfl, _, rfl⟩⟩
theorem en_33 (us : Array Value) (w : World) : (callFunc 33 us).run Go.Proofs.Tryz.prog w = .ok (.enter 33 us) w := enters Go.Proofs.Tryz.func33 rfl rfl us w
noncomputable def spec_l1Cur_oddPolicyx (a0 : T_impl_Policy) (s0 : T_spec_l1Cur) : Option (T_impl_Policy × T_spec_l1Cur) :=
  (spec_l1Cur_pick 16 s0).bind fun q => (match q with | (r1, o2) => cond (r1 == 0) ((spec_l1Cur_of ([(ByteArray.mk #[]), (ByteArray.mk #[97, 32, 98]), (ByteArray.mk #[112, 46, 49, 45, 120])] : List ByteArray) o2).bind fun q => (match q with | (r4, o5) => some ((⟨r4, a0.Permit_, a0.Principal_, a0.Action_, a0.Resource_, a0.When_⟩ : T_impl_Policy), o5))) (cond (r1 == 1) ((spec_l1Cur_pick 8 o2).bind fun q => (match q with | (r7, o8) => some ((⟨a0.Id_, a0.Permit_, (⟨r7, a0.Principal_.Atom_, a0.Principal_.Type_⟩ : T_impl_Head), a0.Action_, a0.Resource_, a0.When_⟩ : T_impl_Policy), o8))) (cond (r1 == 2) ((spec_l1Cur_pick 8 o2).bind fun q => (match q with | (r10, o11) => some ((⟨a0.Id_, a0.Permit_, a0.Principal_, (⟨r10, a0.Action_.Atom_, a0.Action_.Type_⟩ : T_impl_Head), a0.Resource_, a0.When_⟩ : T_impl_Policy), o11))) (cond (r1 == 3) ((spec_l1Cur_thingRef o2).bind fun q => (match q with | (r13, o14) => (spec_l1Cur_oddAtom r13 o14).bind fun q => (match q with | (r16, o17) => some ((⟨a0.Id_, a0.Permit_, a0.Principal_, a0.Action_, (⟨a0.Resource_.Kind_, r16, a0.Resource_.Type_⟩ : T_impl_Head), a0.When_⟩ : T_impl_Policy), o17)))) (cond (r1 == 4) ((spec_l1Cur_oddExprx o2 a0.When_).bind fun q => (match q with | (r19, o20) => some ((⟨a0.Id_, a0.Permit_, a0.Principal_, a0.Action_, a0.Resource_, r19⟩ : T_impl_Policy), o20))) (some (a0, o2)))))))
theorem spec_l1Cur_oddPolicyx_o (c0 : Bool) {a0 : T_impl_Policy} {s0 : T_spec_l1Cur} {R0 : T_impl_Policy} {U0 : T_spec_l1Cur} (H : spec_l1Cur_oddPolicyx a0 s0 = some (R0, U0)) : St Go.Proofs.Tryz.prog 11 [.bx 0 0, .agg ([.str a0.Id_, .bool a0.Permit_] ++ (c_T_impl_Head false a0.Principal_) ++ (c_T_impl_Head false a0.Action_) ++ (c_T_impl_Head false a0.Resource_) ++ [.hd 1 (a0.When_.map (c_T_impl_Expr false)).length 0 (a0.When_.map (c_T_impl_Expr false)).length])] [.box (c_T_spec_l1Cur c0 s0), .arr .clo 7 (a0.When_.map (c_T_impl_Expr false))] (.agg ([.str R0.Id_, .bool R0.Permit_] ++ (c_T_impl_Head false R0.Principal_) ++ (c_T_impl_Head false R0.Action_) ++ (c_T_impl_Head false R0.Resource_) ++ [.hd 3 (R0.When_.map (c_T_impl_Expr false)).length 0 (R0.When_.map (c_T_impl_Expr false)).length])) [.box (c_T_spec_l1Cur c0 U0), .dead, .dead, .arr .clo 7 (R0.When_.map (c_T_impl_Expr false))] := by
 refine CallT.finR (CallT.of_TN (n := 41) Go.Proofs.Tryz.func11 rfl rfl rfl rfl ?_) rfl rfl ⟨(bels_iff.1 rfl), ⟨trivial, ⟨trivial, ⟨trivial, trivial⟩⟩⟩⟩
 refine T.conv (Cs.fresh 1 rfl rfl (by decide) rfl (nomS_all rfl rfl)) ?_
 refine T.conv Cs.pushDead ?_
 refine T.conv (Cs.wkF (M := 4) (.cons 0 _ (.bx 0 0) _ rfl (.same _) rfl (.cons 1 _ (.agg ([.str a0.Id_, .bool a0.Permit_] ++ (c_T_impl_Head false a0.Principal_) ++ (c_T_impl_Head false a0.Action_) ++ (c_T_impl_Head false a0.Resource_) ++ [.hd 2 (a0.When_.map (c_T_impl_Expr false)).length 0 (a0.When_.map (c_T_impl_Expr false)).length])) _ rfl (.same _) rfl .nil))) ?_
 refine T.conv (Cs.eqS (σ' := [.box (c_T_spec_l1Cur c0 s0), .dead, .arr .clo 7 (a0.When_.map (c_T_impl_Expr false)), .dead]) rfl) ?_
 refine T.seq (T.region (TL.st rfl rfl rfl (o_box rfl rfl (sure_c rfl (sure_c rfl (sure_c rfl (sure_c rfl (sure_c rfl (sure_c rfl (sure_c rfl (sure_c rfl (sure_c rfl (sure_c rfl (sure_c rfl (sure_c rfl (sure_c rfl (sure_c rfl (sure_c rfl (sure_c rfl (sure_c rfl (sure_c rfl (sure_c rfl (sure_c rfl (sure_hd rfl rfl rfl)))))))))))))))))))))) ?_))
 refine TL.st rfl rfl rfl (o_alloc rfl ⟨_, rfl, rfl⟩) (TL.nil (thn_normal (T.seq (T.seq (T.region (TL.st rfl rfl rfl (o_move rfl rfl) ?_))))))
 obtain ⟨⟨r1, o2⟩, h3, H⟩ := bind_s H
 refine TL.st rfl rfl rfl (o_callS [0] rfl en_14 rfl rfl (spec_l1Cur_pick_p c0 h3) rfl (by decide) (.cons _ _ _ _ rfl .nil) rfl rfl rfl) ?_
 refine TL.nil (thn_normal (T.block (T.seq (T.region (TL.st rfl rfl rfl (o_ari rfl rfl rfl rfl) (TL.st rfl rfl rfl (o_assign rfl rfl) (TL.nil (thn_normal ?_))))))))
 refine T.cond ((r1 == 0)) rfl (fun h => ?_) (fun h => ?_)
 ·replace H := cond_t h H
  refine T.region (TL.st rfl rfl rfl (o_move rfl rfl) (TL.st rfl rfl rfl (o_sliceIm rfl rfl tyS_9 ⟨_, rfl, rfl⟩ (by decide) rfl rfl rfl rfl rfl rfl) ?_))
  obtain ⟨⟨r4, o5⟩, h6, H⟩ := bind_s H
  refine TL.st rfl rfl rfl (o_callS [0] rfl en_17 rfl rfl (spec_l1Cur_of_p false c0 h6) rfl (by decide) (.cons _ _ _ _ rfl .nil) rfl rfl rfl) ?_
  refine TL.st rfl rfl rfl (o_fieldAddr rfl rfl rfl tyS_9 (by decide) rfl rfl ⟨_, rfl, Nat.le_of_ble_eq_true rfl⟩) ?_
  refine TL.sn rfl rfl (o_storeBx rfl tyS_9 rfl rfl rfl rfl (Nat.le_of_ble_eq_true rfl) rfl) ?_
  refine TL.nil (inB_normal (thn_normal (T.seq (T.region (TL.st rfl rfl rfl (o_loadBx rfl tyS_29 rfl rfl (Nat.le_of_ble_eq_true rfl) rfl) ?_)))))
  refine TL.sn rfl rfl (o_storeBx rfl tyS_29 rfl rfl rfl rfl (Nat.le_of_ble_eq_true rfl) (sure_c rfl (sure_c rfl (sure_c rfl (sure_c rfl (sure_c rfl (sure_c rfl (sure_c rfl (sure_c rfl (sure_c rfl (sure_c rfl (sure_c rfl (sure_c rfl (sure_c rfl (sure_c rfl (sure_c rfl (sure_c rfl (sure_c rfl (sure_c rfl (sure_c rfl (sure_c rfl (sure_hd rfl rfl rfl)))))))))))))))))))))) ?_
  refine TL.nil (thn_normal (T.conv (Cs.wkF (M := 6) (.cons 4 _ (.bx 5 0) _ rfl (.same _) rfl .nil)) ?_))
  refine T.conv (Cs.reloc 3 2 rfl rfl (by decide) rfl rfl rfl (nomS_get rfl)) ?_
  refine T.conv (Cs.wkF (M := 6) (.cons 4 _ (.bx 5 0) _ rfl (.same _) rfl .nil)) ?_
  refine T.conv (Cs.eqS (σ' := [.box (c_T_spec_l1Cur c0 o5), .dead, .dead, .arr .clo 7 (a0.When_.map (c_T_impl_Expr false)), .box ([.str r4, .bool a0.Permit_] ++ (c_T_impl_Head false a0.Principal_) ++ (c_T_impl_Head false a0.Action_) ++ (c_T_impl_Head false a0.Resource_) ++ [.hd 3 (a0.When_.map (c_T_impl_Expr false)).length 0 (a0.When_.map (c_T_impl_Expr false)).length]), .box ([.str r4, .bool a0.Permit_] ++ (c_T_impl_Head false a0.Principal_) ++ (c_T_impl_Head false a0.Action_) ++ (c_T_impl_Head false a0.Resource_) ++ [.hd 3 (a0.When_.map (c_T_impl_Expr false)).length 0 (a0.When_.map (c_T_impl_Expr false)).length])]) rfl) ?_
  refine T.ret ?_
  cases some_i H
  exact ⟨trivial, _, (.cell _ _ _ _ _ _ _ _ _ _ rfl rfl tyS_29 (Nat.le_of_ble_eq_true rfl) rfl .nil), ⟨rfl, _, rfl⟩⟩
 ·replace H := cond_f h H
  refine T.seq (T.region (TL.st rfl rfl rfl (o_ari rfl rfl rfl rfl) (TL.st rfl rfl rfl (o_assign rfl rfl) (TL.nil (thn_normal ?_)))))
  refine T.cond ((r1 == 1)) rfl (fun h => ?_) (fun h => ?_)
  ·replace H := cond_t h H
   refine T.region (TL.st rfl rfl rfl (o_move rfl rfl) ?_)
   obtain ⟨⟨r7, o8⟩, h9, H⟩ := bind_s H
   refine TL.st rfl rfl rfl (o_callS [0] rfl en_14 rfl rfl (spec_l1Cur_pick_p c0 h9) rfl (by decide) (.cons _ _ _ _ rfl .nil) rfl rfl rfl) ?_
   refine TL.st rfl rfl rfl (o_fieldAddr rfl rfl rfl tyS_26 (by decide) rfl rfl ⟨_, rfl, Nat.le_of_ble_eq_true rfl⟩) ?_
   refine TL.st rfl rfl rfl (o_fieldAddr rfl rfl rfl tyS_3 (by decide) rfl rfl ⟨_, rfl, Nat.le_of_ble_eq_true rfl⟩) ?_
   refine TL.sn rfl rfl (o_storeBx rfl tyS_3 rfl rfl rfl rfl (Nat.le_of_ble_eq_true rfl) rfl) ?_
   refine TL.nil (inB_normal (thn_normal (T.seq (T.region (TL.st rfl rfl rfl (o_loadBx rfl tyS_29 rfl rfl (Nat.le_of_ble_eq_true rfl) rfl) ?_)))))
   refine TL.sn rfl rfl (o_storeBx rfl tyS_29 rfl rfl rfl rfl (Nat.le_of_ble_eq_true rfl) (sure_c rfl (sure_c rfl (sure_c rfl (sure_c rfl (sure_c rfl (sure_c rfl (sure_c rfl (sure_c rfl (sure_c rfl (sure_c rfl (sure_c rfl (sure_c rfl (sure_c rfl (sure_c rfl (sure_c rfl (sure_c rfl (sure_c rfl (sure_c rfl (sure_c rfl (sure_c rfl (sure_hd rfl rfl rfl)))))))))))))))))))))) ?_
   refine TL.nil (thn_normal (T.conv (Cs.wkF (M := 6) (.cons 4 _ (.bx 5 0) _ rfl (.same _) rfl .nil)) ?_))
   refine T.conv (Cs.reloc 3 2 rfl rfl (by decide) rfl rfl rfl (nomS_get rfl)) ?_
   refine T.conv (Cs.wkF (M := 6) (.cons 4 _ (.bx 5 0) _ rfl (.same _) rfl .nil)) ?_
   refine T.conv (Cs.eqS (σ' := [.box (c_T_spec_l1Cur c0 o8), .dead, .dead, .arr .clo 7 (a0.When_.map (c_T_impl_Expr false)), .box ([.str a0.Id_, .bool a0.Permit_] ++ ([.int .i64 r7] ++ (c_T_impl_Atom false a0.Principal_.Atom_) ++ [.str a0.Principal_.Type_]) ++ (c_T_impl_Head false a0.Action_) ++ (c_T_impl_Head false a0.Resource_) ++ [.hd 3 (a0.When_.map (c_T_impl_Expr false)).length 0 (a0.When_.map (c_T_impl_Expr false)).length]), .box ([.str a0.Id_, .bool a0.Permit_] ++ ([.int .i64 r7] ++ (c_T_impl_Atom false a0.Principal_.Atom_) ++ [.str a0.Principal_.Type_]) ++ (c_T_impl_Head false a0.Action_) ++ (c_T_impl_Head false a0.Resource_) ++ [.hd 3 (a0.When_.map (c_T_impl_Expr false)).length 0 (a0.When_.map (c_T_impl_Expr false)).length])]) rfl) ?_
   refine T.ret ?_
   cases some_i H
   exact ⟨trivial, _, (.cell _ _ _ _ _ _ _ _ _ _ rfl rfl tyS_29 (Nat.le_of_ble_eq_true rfl) rfl .nil), ⟨rfl, _, rfl⟩⟩
  ·replace H := cond_f h H
   refine T.seq (T.region (TL.st rfl rfl rfl (o_ari rfl rfl rfl rfl) (TL.st rfl rfl rfl (o_assign rfl rfl) (TL.nil (thn_normal ?_)))))
   refine T.cond ((r1 == 2)) rfl (fun h => ?_) (fun h => ?_)
   ·replace H := cond_t h H
    refine T.region (TL.st rfl rfl rfl (o_move rfl rfl) ?_)
    obtain ⟨⟨r10, o11⟩, h12, H⟩ := bind_s H
    refine TL.st rfl rfl rfl (o_callS [0] rfl en_14 rfl rfl (spec_l1Cur_pick_p c0 h12) rfl (by decide) (.cons _ _ _ _ rfl .nil) rfl rfl rfl) ?_
    refine TL.st rfl rfl rfl (o_fieldAddr rfl rfl rfl tyS_26 (by decide) rfl rfl ⟨_, rfl, Nat.le_of_ble_eq_true rfl⟩) ?_
    refine TL.st rfl rfl rfl (o_fieldAddr rfl rfl rfl tyS_3 (by decide) rfl rfl ⟨_, rfl, Nat.le_of_ble_eq_true rfl⟩) ?_
    refine TL.sn rfl rfl (o_storeBx rfl tyS_3 rfl rfl rfl rfl (Nat.le_of_ble_eq_true rfl) rfl) ?_
    refine TL.nil (inB_normal (thn_normal (T.seq (T.region (TL.st rfl rfl rfl (o_loadBx rfl tyS_29 rfl rfl (Nat.le_of_ble_eq_true rfl) rfl) ?_)))))
    refine TL.sn rfl rfl (o_storeBx rfl tyS_29 rfl rfl rfl rfl (Nat.le_of_ble_eq_true rfl) (sure_c rfl (sure_c rfl (sure_c rfl (sure_c rfl (sure_c rfl (sure_c rfl (sure_c rfl (sure_c rfl (sure_c rfl (sure_c rfl (sure_c rfl (sure_c rfl (sure_c rfl (sure_c rfl (sure_c rfl (sure_c rfl (sure_c rfl (sure_c rfl (sure_c rfl (sure_c rfl (sure_hd rfl rfl rfl)))))))))))))))))))))) ?_
    refine TL.nil (thn_normal (T.conv (Cs.wkF (M := 6) (.cons 4 _ (.bx 5 0) _ rfl (.same _) rfl .nil)) ?_))
    refine T.conv (Cs.reloc 3 2 rfl rfl (by decide) rfl rfl rfl (nomS_get rfl)) ?_
    refine T.conv (Cs.wkF (M := 6) (.cons 4 _ (.bx 5 0) _ rfl (.same _) rfl .nil)) ?_
    refine T.conv (Cs.eqS (σ' := [.box (c_T_spec_l1Cur c0 o11), .dead, .dead, .arr .clo 7 (a0.When_.map (c_T_impl_Expr false)), .box ([.str a0.Id_, .bool a0.Permit_] ++ (c_T_impl_Head false a0.Principal_) ++ ([.int .i64 r10] ++ (c_T_impl_Atom false a0.Action_.Atom_) ++ [.str a0.Action_.Type_]) ++ (c_T_impl_Head false a0.Resource_) ++ [.hd 3 (a0.When_.map (c_T_impl_Expr false)).length 0 (a0.When_.map (c_T_impl_Expr false)).length]), .box ([.str a0.Id_, .bool a0.Permit_] ++ (c_T_impl_Head false a0.Principal_) ++ ([.int .i64 r10] ++ (c_T_impl_Atom false a0.Action_.Atom_) ++ [.str a0.Action_.Type_]) ++ (c_T_impl_Head false a0.Resource_) ++ [.hd 3 (a0.When_.map (c_T_impl_Expr false)).length 0 (a0.When_.map (c_T_impl_Expr false)).length])]) rfl) ?_
    refine T.ret ?_
    cases some_i H
    exact ⟨trivial, _, (.cell _ _ _ _ _ _ _ _ _ _ rfl rfl tyS_29 (Nat.le_of_ble_eq_true rfl) rfl .nil), ⟨rfl, _, rfl⟩⟩
   ·replace H := cond_f h H
    refine T.seq (T.region (TL.st rfl rfl rfl (o_ari rfl rfl rfl rfl) (TL.st rfl rfl rfl (o_assign rfl rfl) (TL.nil (thn_normal ?_)))))
    refine T.cond ((r1 == 3)) rfl (fun h => ?_) (fun h => ?_)
    ·replace H := cond_t h H
     refine T.region (TL.st rfl rfl rfl (o_move rfl rfl) (TL.st rfl rfl rfl (o_move rfl rfl) ?_))
     obtain ⟨⟨r13, o14⟩, h15, H⟩ := bind_s H
     refine TL.st rfl rfl rfl (o_callS [0] rfl en_15 rfl rfl (spec_l1Cur_thingRef_p c0 h15) rfl (by decide) (.cons _ _ _ _ rfl .nil) rfl rfl rfl) ?_
     obtain ⟨⟨r16, o17⟩, h18, H⟩ := bind_s H
     refine TL.st rfl rfl rfl (o_callS [0] rfl en_32 rfl rfl (spec_l1Cur_oddAtom_p c0 h18) rfl (by decide) (.cons _ _ _ _ rfl .nil) rfl rfl rfl) ?_
     refine TL.st rfl rfl rfl (o_fieldAddr rfl rfl rfl tyS_26 (by decide) rfl rfl ⟨_, rfl, Nat.le_of_ble_eq_true rfl⟩) ?_
     refine TL.st rfl rfl rfl (o_fieldAddr rfl rfl rfl tyS_24 (by decide) rfl rfl ⟨_, rfl, Nat.le_of_ble_eq_true rfl⟩) ?_
     refine TL.sn rfl rfl (o_storeBx rfl tyS_24 rfl rfl rfl rfl (Nat.le_of_ble_eq_true rfl) rfl) ?_
     refine TL.nil (inB_normal (thn_normal (T.seq (T.region (TL.st rfl rfl rfl (o_loadBx rfl tyS_29 rfl rfl (Nat.le_of_ble_eq_true rfl) rfl) ?_)))))
     refine TL.sn rfl rfl (o_storeBx rfl tyS_29 rfl rfl rfl rfl (Nat.le_of_ble_eq_true rfl) (sure_c rfl (sure_c rfl (sure_c rfl (sure_c rfl (sure_c rfl (sure_c rfl (sure_c rfl (sure_c rfl (sure_c rfl (sure_c rfl (sure_c rfl (sure_c rfl (sure_c rfl (sure_c rfl (sure_c rfl (sure_c rfl (sure_c rfl (sure_c rfl (sure_c rfl (sure_c rfl (sure_hd rfl rfl rfl)))))))))))))))))))))) ?_
     refine TL.nil (thn_normal (T.conv (Cs.wkF (M := 6) (.cons 4 _ (.bx 5 0) _ rfl (.same _) rfl .nil)) ?_))
     refine T.conv (Cs.reloc 3 2 rfl rfl (by decide) rfl rfl rfl (nomS_get rfl)) ?_
     refine T.conv (Cs.wkF (M := 6) (.cons 4 _ (.bx 5 0) _ rfl (.same _) rfl .nil)) ?_
     refine T.conv (Cs.eqS (σ' := [.box (c_T_spec_l1Cur c0 o17), .dead, .dead, .arr .clo 7 (a0.When_.map (c_T_impl_Expr false)), .box ([.str a0.Id_, .bool a0.Permit_] ++ (c_T_impl_Head false a0.Principal_) ++ (c_T_impl_Head false a0.Action_) ++ ([.int .i64 a0.Resource_.Kind_] ++ (c_T_impl_Atom false r16) ++ [.str a0.Resource_.Type_]) ++ [.hd 3 (a0.When_.map (c_T_impl_Expr false)).length 0 (a0.When_.map (c_T_impl_Expr false)).length]), .box ([.str a0.Id_, .bool a0.Permit_] ++ (c_T_impl_Head false a0.Principal_) ++ (c_T_impl_Head false a0.Action_) ++ ([.int .i64 a0.Resource_.Kind_] ++ (c_T_impl_Atom false r16) ++ [.str a0.Resource_.Type_]) ++ [.hd 3 (a0.When_.map (c_T_impl_Expr false)).length 0 (a0.When_.map (c_T_impl_Expr false)).length])]) rfl) ?_
     refine T.ret ?_
     cases some_i H
     exact ⟨trivial, _, (.cell _ _ _ _ _ _ _ _ _ _ rfl rfl tyS_29 (Nat.le_of_ble_eq_true rfl) rfl .nil), ⟨rfl, _, rfl⟩⟩
    ·replace H := cond_f h H
     refine T.seq (T.region (TL.st rfl rfl rfl (o_ari rfl rfl rfl rfl) (TL.st rfl rfl rfl (o_assign rfl rfl) (TL.nil (thn_normal ?_)))))
     refine T.cond ((r1 == 4)) rfl (fun h => ?_) (fun h => ?_)
     ·replace H := cond_t h H
      refine T.region (TL.st rfl rfl rfl (o_move rfl rfl) (TL.st rfl rfl rfl (o_fieldAddr rfl rfl rfl tyS_27 (by decide) rfl rfl ⟨_, rfl, Nat.le_of_ble_eq_true rfl⟩) ?_))
      refine TL.st rfl rfl rfl (o_loadBx rfl tyS_27 rfl rfl (Nat.le_of_ble_eq_true rfl) rfl) ?_
      obtain ⟨⟨r19, o20⟩, h21, H⟩ := bind_s H
      refine TL.st rfl rfl rfl (o_callS [0, 2] rfl en_33 rfl rfl (spec_l1Cur_oddExprx_o c0 h21) rfl (by decide) (.cons _ _ _ _ rfl (.cons _ _ _ _ rfl .nil)) rfl rfl rfl) ?_
      refine TL.st rfl rfl rfl (o_fieldAddr rfl rfl rfl tyS_27 (by decide) rfl rfl ⟨_, rfl, Nat.le_of_ble_eq_true rfl⟩) ?_
      refine TL.sn rfl rfl (o_storeBx rfl tyS_27 rfl rfl rfl rfl (Nat.le_of_ble_eq_true rfl) (sure_hd rfl rfl rfl)) ?_
      refine TL.conv (Cs.wkF (M := 8) (.cons 0 _ (.bx 0 0) _ rfl (.same _) rfl (.cons 3 _ (.bx 4 0) _ rfl (.same _) rfl (.cons 4 _ (.bx 5 0) _ rfl (.same _) rfl (.cons 5 _ (.bx 0 0) _ rfl (.same _) rfl (.cons 6 _ (.int .i64 r1) _ rfl (.same _) rfl (.cons 7 _ (.bool (r1 == 0)) _ rfl (.same _) rfl (.cons 8 _ (.bool (r1 == 0)) _ rfl (.same _) rfl (.cons 13 _ (.bool (r1 == 1)) _ rfl (.same _) rfl (.cons 14 _ (.bool (r1 == 1)) _ rfl (.same _) rfl (.cons 19 _ (.bool (r1 == 2)) _ rfl (.same _) rfl (.cons 20 _ (.bool (r1 == 2)) _ rfl (.same _) rfl (.cons 25 _ (.bool (r1 == 3)) _ rfl (.same _) rfl (.cons 26 _ (.bool (r1 == 3)) _ rfl (.same _) rfl (.cons 33 _ (.bool (r1 == 4)) _ rfl (.same _) rfl (.cons 34 _ (.bool (r1 == 4)) _ rfl (.same _) rfl (.cons 35 _ (.bx 0 0) _ rfl (.same _) rfl (.cons 36 _ (.bx 4 20) _ rfl (.same _) rfl (.cons 39 _ (.bx 4 20) _ rfl (.same _) rfl .nil))))))))))))))))))) ?_
      refine TL.conv (Cs.reloc 2 7 rfl rfl (by decide) rfl rfl rfl (nomS_get rfl)) ?_
      refine TL.conv (Cs.wkF (M := 8) (.cons 0 _ (.bx 0 0) _ rfl (.same _) rfl (.cons 3 _ (.bx 4 0) _ rfl (.same _) rfl (.cons 4 _ (.bx 5 0) _ rfl (.same _) rfl (.cons 5 _ (.bx 0 0) _ rfl (.same _) rfl (.cons 6 _ (.int .i64 r1) _ rfl (.same _) rfl (.cons 7 _ (.bool (r1 == 0)) _ rfl (.same _) rfl (.cons 8 _ (.bool (r1 == 0)) _ rfl (.same _) rfl (.cons 13 _ (.bool (r1 == 1)) _ rfl (.same _) rfl (.cons 14 _ (.bool (r1 == 1)) _ rfl (.same _) rfl (.cons 19 _ (.bool (r1 == 2)) _ rfl (.same _) rfl (.cons 20 _ (.bool (r1 == 2)) _ rfl (.same _) rfl (.cons 25 _ (.bool (r1 == 3)) _ rfl (.same _) rfl (.cons 26 _ (.bool (r1 == 3)) _ rfl (.same _) rfl (.cons 33 _ (.bool (r1 == 4)) _ rfl (.same _) rfl (.cons 34 _ (.bool (r1 == 4)) _ rfl (.same _) rfl (.cons 35 _ (.bx 0 0) _ rfl (.same _) rfl (.cons 36 _ (.bx 4 20) _ rfl (.same _) rfl (.cons 39 _ (.bx 4 20) _ rfl (.same _) rfl .nil))))))))))))))))))) ?_
      refine TL.conv (Cs.eqS (σ' := [.box (c_T_spec_l1Cur c0 o20), .dead, .arr .clo 7 (r19.map (c_T_impl_Expr false)), .dead, .box ([.str a0.Id_, .bool a0.Permit_] ++ (c_T_impl_Head false a0.Principal_) ++ (c_T_impl_Head false a0.Action_) ++ (c_T_impl_Head false a0.Resource_) ++ [.hd 2 (r19.map (c_T_impl_Expr false)).length 0 (r19.map (c_T_impl_Expr false)).length]), .box [.str (ByteArray.mk #[]), .bool false, .int .i64 0, .int .i64 0, .int .i64 0, .str (ByteArray.mk #[]), .str (ByteArray.mk #[]), .str (ByteArray.mk #[]), .int .i64 0, .int .i64 0, .int .i64 0, .str (ByteArray.mk #[]), .str (ByteArray.mk #[]), .str (ByteArray.mk #[]), .int .i64 0, .int .i64 0, .int .i64 0, .str (ByteArray.mk #[]), .str (ByteArray.mk #[]), .str (ByteArray.mk #[]), .nilS], .dead, .dead]) rfl) ?_
      refine TL.nil (inB_normal (thn_normal (T.seq (T.region (TL.st rfl rfl rfl (o_loadBx rfl tyS_29 rfl rfl (Nat.le_of_ble_eq_true rfl) rfl) ?_)))))
      refine TL.sn rfl rfl (o_storeBx rfl tyS_29 rfl rfl rfl rfl (Nat.le_of_ble_eq_true rfl) (sure_c rfl (sure_c rfl (sure_c rfl (sure_c rfl (sure_c rfl (sure_c rfl (sure_c rfl (sure_c rfl (sure_c rfl (sure_c rfl (sure_c rfl (sure_c rfl (sure_c rfl (sure_c rfl (sure_c rfl (sure_c rfl (sure_c rfl (sure_c rfl (sure_c rfl (sure_c rfl (sure_hd rfl rfl rfl)))))))))))))))))))))) ?_
      refine TL.nil (thn_normal (T.conv (Cs.wkF (M := 8) (.cons 4 _ (.bx 5 0) _ rfl (.same _) rfl .nil)) ?_))
      refine T.conv (Cs.reloc 3 2 rfl rfl (by decide) rfl rfl rfl (nomS_get rfl)) ?_
      refine T.conv (Cs.wkF (M := 8) (.cons 4 _ (.bx 5 0) _ rfl (.same _) rfl .nil)) ?_
      refine T.conv (Cs.eqS (σ' := [.box (c_T_spec_l1Cur c0 o20), .dead, .dead, .arr .clo 7 (r19.map (c_T_impl_Expr false)), .box ([.str a0.Id_, .bool a0.Permit_] ++ (c_T_impl_Head false a0.Principal_) ++ (c_T_impl_Head false a0.Action_) ++ (c_T_impl_Head false a0.Resource_) ++ [.hd 3 (r19.map (c_T_impl_Expr false)).length 0 (r19.map (c_T_impl_Expr false)).length]), .box ([.str a0.Id_, .bool a0.Permit_] ++ (c_T_impl_Head false a0.Principal_) ++ (c_T_impl_Head false a0.Action_) ++ (c_T_impl_Head false a0.Resource_) ++ [.hd 3 (r19.map (c_T_impl_Expr false)).length 0 (r19.map (c_T_impl_Expr false)).length]), .dead, .dead]) rfl) ?_
      refine T.ret ?_
      cases some_i H
      exact ⟨trivial, _, (.cell _ _ _ _ _ _ _ _ _ _ rfl rfl tyS_29 (Nat.le_of_ble_eq_true rfl) rfl .nil), ⟨rfl, _, rfl⟩⟩
     ·replace H := cond_f h H
      refine T.skip (inB_normal (thn_normal (T.seq (T.region (TL.st rfl rfl rfl (o_loadBx rfl tyS_29 rfl rfl (Nat.le_of_ble_eq_true rfl) rfl) ?_)))))
      refine TL.sn rfl rfl (o_storeBx rfl tyS_29 rfl rfl rfl rfl (Nat.le_of_ble_eq_true rfl) (sure_c rfl (sure_c rfl (sure_c rfl (sure_c rfl (sure_c rfl (sure_c rfl (sure_c rfl (sure_c rfl (sure_c rfl (sure_c rfl (sure_c rfl (sure_c rfl (sure_c rfl (sure_c rfl (sure_c rfl (sure_c rfl (sure_c rfl (sure_c rfl (sure_c rfl (sure_c rfl (sure_hd rfl rfl rfl)))))))))))))))))))))) ?_
      refine TL.nil (thn_normal (T.conv (Cs.wkF (M := 6) (.cons 4 _ (.bx 5 0) _ rfl (.same _) rfl .nil)) ?_))
      refine T.conv (Cs.reloc 3 2 rfl rfl (by decide) rfl rfl rfl (nomS_get rfl)) ?_
      refine T.conv (Cs.wkF (M := 6) (.cons 4 _ (.bx 5 0) _ rfl (.same _) rfl .nil)) ?_
      refine T.conv (Cs.eqS (σ' := [.box (c_T_spec_l1Cur c0 o2), .dead, .dead, .arr .clo 7 (a0.When_.map (c_T_impl_Expr false)), .box ([.str a0.Id_, .bool a0.Permit_] ++ (c_T_impl_Head false a0.Principal_) ++ (c_T_impl_Head false a0.Action_) ++ (c_T_impl_Head false a0.Resource_) ++ [.hd 3 (a0.When_.map (c_T_impl_Expr false)).length 0 (a0.When_.map (c_T_impl_Expr false)).length]), .box ([.str a0.Id_, .bool a0.Permit_] ++ (c_T_impl_Head false a0.Principal_) ++ (c_T_impl_Head false a0.Action_) ++ (c_T_impl_Head false a0.Resource_) ++ [.hd 3 (a0.When_.map (c_T_impl_Expr false)).length 0 (a0.When_.map (c_T_impl_Expr false)).length])]) rfl) ?_
      refine T.ret ?_
      cases some_i H
      exact ⟨trivial, _, (.cell _ _ _ _ _ _ _ _ _ _ rfl rfl tyS_29 (Nat.le_of_ble_eq_true rfl) rfl .nil), ⟨rfl, _, rfl⟩⟩
theorem en_11 (us : Array Value) (w : World) : (callFunc 11 us).run Go.Proofs.Tryz.prog w = .ok (.enter 11 us) w := enters Go.Proofs.Tryz.func11 rfl rfl us w
noncomputable def spec_DrawLinkPolicy_j2 (b8 : T_impl_Policy) (r12 : T_impl_Atom) (b15 : T_spec_l1Cur) (b16 : T_impl_Atom) : Option (T_impl_Policy × ByteArray × T_impl_Atom × T_impl_Atom) :=
  (spec_l1Cur_of ([(ByteArray.mk #[108, 49]), (ByteArray.mk #[108, 50]), (ByteArray.mk #[]), (ByteArray.mk #[120, 32, 121])] : List ByteArray) b15).bind fun q => (match q with | (r17, o18) => some (b8, r17, b16, r12))
noncomputable def spec_DrawLinkPolicy_j1 (b7 : T_spec_l1Cur) (b8 : T_impl_Policy) : Option (T_impl_Policy × ByteArray × T_impl_Atom × T_impl_Atom) :=
  (spec_l1Cur_thingRef b7).bind fun q => (match q with | (r9, o10) => (spec_l1Cur_thingRef o10).bind fun q => (match q with | (r12, o13) => (spec_l1Cur_one 12 o13).bind fun q => (match q with | (r20, o21) => cond r20 ((spec_l1Cur_atom o21).bind fun q => (match q with | (r23, o24) => spec_DrawLinkPolicy_j2 b8 r12 o24 r23)) (spec_DrawLinkPolicy_j2 b8 r12 o21 r9))))
noncomputable def spec_DrawLinkPolicy (a0 : (List Int)) : Option (T_impl_Policy × ByteArray × T_impl_Atom × T_impl_Atom) :=
  (spec_l1Cur_policyo (ByteArray.mk #[112, 49]) (⟨a0, 0, 0⟩ : T_spec_l1Cur)).bind fun q => (match q with | (r1, o2) => (spec_l1Cur_oddPolicyx r1 o2).bind fun q => (match q with | (r4, o5) => (spec_l1Cur_one 4 o5).bind fun q => (match q with | (r26, o27) => cond (!r26) ((spec_l1Cur_pick 2 o27).bind fun q => (match q with | (r29, o30) => spec_DrawLinkPolicy_j1 o30 (⟨r4.Id_, r4.Permit_, (⟨(IntKind.i64.wrap (5 + r29)), (⟨0, 0, (ByteArray.mk #[]), (ByteArray.mk #[])⟩ : T_impl_Atom), (ByteArray.mk #[])⟩ : T_impl_Head), r4.Action_, r4.Resource_, r4.When_⟩ : T_impl_Policy))) (spec_DrawLinkPolicy_j1 o27 r4))))
theorem spec_DrawLinkPolicy_p (b0 : Bool) {a0 : (List Int)} {R0 : T_impl_Policy} {R1 : ByteArray} {R2 : T_impl_Atom} {R3 : T_impl_Atom} (H : spec_DrawLinkPolicy a0 = some (R0, R1, R2, R3)) : Pure Go.Proofs.Tryz.prog 4 [.im b0 (a0.map (c_int .u8))] (.tup [.agg (c_T_impl_Policy false R0), .str R1, .agg (c_T_impl_Atom false R2), .agg (c_T_impl_Atom false R3)]) := by
 refine CallT.of_TN (n := 39) Go.Proofs.Tryz.func4 rfl rfl rfl rfl ?_
 refine T.seq (T.region (TL.st rfl rfl rfl (o_alloc rfl ⟨_, rfl, rfl⟩) (TL.st rfl rfl rfl (o_assign rfl rfl) (TL.st rfl rfl rfl (o_alloc rfl ⟨_, rfl, rfl⟩) (TL.st rfl rfl rfl (o_alloc rfl ⟨_, rfl, rfl⟩) (TL.nil (thn_normal (T.seq (T.region (TL.st rfl rfl rfl (o_move rfl rfl) (TL.st rfl rfl rfl (o_build rfl ⟨_, fun _ => rfl, rfl⟩ rfl rfl rfl) ?_)))))))))))
 refine TL.st rfl rfl rfl (o_box rfl rfl rfl) (TL.st rfl rfl rfl (o_assign rfl rfl) (TL.nil (thn_normal (T.seq (T.region (TL.st rfl rfl rfl (o_move rfl rfl) (TL.st rfl rfl rfl (o_move rfl rfl) ?_)))))))
 obtain ⟨⟨r1, o2⟩, h3, H⟩ := bind_s H
 refine TL.st rfl rfl rfl (o_callS [3] rfl en_12 rfl rfl (spec_l1Cur_policyo_o b0 h3) rfl (by decide) (.cons _ _ _ _ rfl .nil) rfl rfl rfl) ?_
 obtain ⟨⟨r4, o5⟩, h6, H⟩ := bind_s H
 refine TL.st rfl rfl rfl (o_callS [3, 4] rfl en_11 rfl rfl (spec_l1Cur_oddPolicyx_o b0 h6) rfl (by decide) (.cons _ _ _ _ rfl (.cons _ _ _ _ rfl .nil)) rfl rfl rfl) ?_
 refine TL.conv (Cs.wkF (M := 7) (.cons 0 _ (.im b0 (a0.map (c_int .u8))) _ rfl (.same _) rfl (.cons 2 _ (.bx 0 0) _ rfl (.same _) rfl (.cons 3 _ (.str (ByteArray.mk #[])) _ rfl (.same _) rfl (.cons 4 _ (.bx 1 0) _ rfl (.same _) rfl (.cons 5 _ (.bx 2 0) _ rfl (.same _) rfl (.cons 6 _ (.bx 3 0) _ rfl (.same _) rfl (.cons 10 _ (.im b0 (a0.map (c_int .u8))) _ rfl (.same _) rfl (.cons 11 _ (.agg [.im b0 (a0.map (c_int .u8)), .int .i64 0, .int .u64 0]) _ rfl (.same _) rfl (.cons 12 _ (.bx 3 0) _ rfl (.same _) rfl (.cons 13 _ (.bx 3 0) _ rfl (.same _) rfl (.cons 14 _ (.bx 3 0) _ rfl (.same _) rfl (.cons 16 _ (.agg ([.str r4.Id_, .bool r4.Permit_] ++ (c_T_impl_Head false r4.Principal_) ++ (c_T_impl_Head false r4.Action_) ++ (c_T_impl_Head false r4.Resource_) ++ [.hd 6 (r4.When_.map (c_T_impl_Expr false)).length 0 (r4.When_.map (c_T_impl_Expr false)).length])) _ rfl (.same _) rfl .nil))))))))))))) ?_
 refine TL.conv (Cs.reloc 4 6 rfl rfl (by decide) rfl rfl rfl (nomS_get rfl)) ?_
 refine TL.conv (Cs.wkF (M := 7) (.cons 0 _ (.im b0 (a0.map (c_int .u8))) _ rfl (.same _) rfl (.cons 2 _ (.bx 0 0) _ rfl (.same _) rfl (.cons 3 _ (.str (ByteArray.mk #[])) _ rfl (.same _) rfl (.cons 4 _ (.bx 1 0) _ rfl (.same _) rfl (.cons 5 _ (.bx 2 0) _ rfl (.same _) rfl (.cons 6 _ (.bx 3 0) _ rfl (.same _) rfl (.cons 10 _ (.im b0 (a0.map (c_int .u8))) _ rfl (.same _) rfl (.cons 11 _ (.agg [.im b0 (a0.map (c_int .u8)), .int .i64 0, .int .u64 0]) _ rfl (.same _) rfl (.cons 12 _ (.bx 3 0) _ rfl (.same _) rfl (.cons 13 _ (.bx 3 0) _ rfl (.same _) rfl (.cons 14 _ (.bx 3 0) _ rfl (.same _) rfl (.cons 16 _ (.agg ([.str r4.Id_, .bool r4.Permit_] ++ (c_T_impl_Head false r4.Principal_) ++ (c_T_impl_Head false r4.Action_) ++ (c_T_impl_Head false r4.Resource_) ++ [.hd 4 (r4.When_.map (c_T_impl_Expr false)).length 0 (r4.When_.map (c_T_impl_Expr false)).length])) _ rfl (.same _) rfl .nil))))))))))))) ?_
 refine TL.conv (Cs.eqS (σ' := [.box [.str (ByteArray.mk #[]), .bool false, .int .i64 0, .int .i64 0, .int .i64 0, .str (ByteArray.mk #[]), .str (ByteArray.mk #[]), .str (ByteArray.mk #[]), .int .i64 0, .int .i64 0, .int .i64 0, .str (ByteArray.mk #[]), .str (ByteArray.mk #[]), .str (ByteArray.mk #[]), .int .i64 0, .int .i64 0, .int .i64 0, .str (ByteArray.mk #[]), .str (ByteArray.mk #[]), .str (ByteArray.mk #[]), .nilS], .box [.int .i64 0, .int .i64 0, .str (ByteArray.mk #[]), .str (ByteArray.mk #[])], .box [.int .i64 0, .int .i64 0, .str (ByteArray.mk #[]), .str (ByteArray.mk #[])], .box (c_T_spec_l1Cur b0 o5), .arr .clo 7 (r4.When_.map (c_T_impl_Expr false)), .dead, .dead]) rfl) ?_
 refine TL.st rfl rfl rfl (o_alloc rfl ⟨_, rfl, rfl⟩) (TL.sn rfl rfl (o_storeBx rfl tyS_29 rfl rfl rfl rfl (Nat.le_of_ble_eq_true rfl) (sure_c rfl (sure_c rfl (sure_c rfl (sure_c rfl (sure_c rfl (sure_c rfl (sure_c rfl (sure_c rfl (sure_c rfl (sure_c rfl (sure_c rfl (sure_c rfl (sure_c rfl (sure_c rfl (sure_c rfl (sure_c rfl (sure_c rfl (sure_c rfl (sure_c rfl (sure_c rfl (sure_hd rfl rfl rfl)))))))))))))))))))))) ?_)
 refine TL.nil (thn_normal (T.cut (fun fr' σ' => ∃ (b7 : T_spec_l1Cur) (b8 : T_impl_Policy), fr' = [(2, .bx 0 0), (4, .bx 1 0), (5, .bx 2 0), (6, .bx 3 0), (7, .bx 7 0)] ∧ σ' = [.box [.str (ByteArray.mk #[]), .bool false, .int .i64 0, .int .i64 0, .int .i64 0, .str (ByteArray.mk #[]), .str (ByteArray.mk #[]), .str (ByteArray.mk #[]), .int .i64 0, .int .i64 0, .int .i64 0, .str (ByteArray.mk #[]), .str (ByteArray.mk #[]), .str (ByteArray.mk #[]), .int .i64 0, .int .i64 0, .int .i64 0, .str (ByteArray.mk #[]), .str (ByteArray.mk #[]), .str (ByteArray.mk #[]), .nilS], .box [.int .i64 0, .int .i64 0, .str (ByteArray.mk #[]), .str (ByteArray.mk #[])], .box [.int .i64 0, .int .i64 0, .str (ByteArray.mk #[]), .str (ByteArray.mk #[])], .box (c_T_spec_l1Cur b0 b7), .arr .clo 7 (b8.When_.map (c_T_impl_Expr false)), .dead, .dead, .box ([.str b8.Id_, .bool b8.Permit_] ++ (c_T_impl_Head false b8.Principal_) ++ (c_T_impl_Head false b8.Action_) ++ (c_T_impl_Head false b8.Resource_) ++ [.hd 4 (b8.When_.map (c_T_impl_Expr false)).length 0 (b8.When_.map (c_T_impl_Expr false)).length])] ∧ spec_DrawLinkPolicy_j1 b7 b8 = some (R0, R1, R2, R3)) (T.pk ?_) ?_))
 ·skip
  refine T.seq (T.region (TL.st rfl rfl rfl (o_move rfl rfl) ?_))
  obtain ⟨⟨r26, o27⟩, h28, H⟩ := bind_s H
  refine TL.st rfl rfl rfl (o_callS [3] rfl en_13 rfl rfl (spec_l1Cur_one_p b0 h28) rfl (by decide) (.cons _ _ _ _ rfl .nil) rfl rfl rfl) ?_
  refine TL.st rfl rfl rfl (o_not rfl rfl) ?_
  refine TL.nil (thn_normal ?_)
  refine T.cond ((!r26)) rfl (fun h => ?_) (fun h => ?_)
  ·replace H := cond_t h H
   refine T.region (TL.st rfl rfl rfl (o_move rfl rfl) ?_)
   obtain ⟨⟨r29, o30⟩, h31, H⟩ := bind_s H
   refine TL.st rfl rfl rfl (o_callS [3] rfl en_14 rfl rfl (spec_l1Cur_pick_p b0 h31) rfl (by decide) (.cons _ _ _ _ rfl .nil) rfl rfl rfl) ?_
   refine TL.st rfl rfl rfl (o_ari rfl rfl rfl rfl) (TL.st rfl rfl rfl (o_build rfl ⟨_, fun _ => rfl, rfl⟩ rfl rfl rfl) ?_)
   refine TL.st rfl rfl rfl (o_fieldAddr rfl rfl rfl tyS_26 (by decide) rfl rfl ⟨_, rfl, Nat.le_of_ble_eq_true rfl⟩) ?_
   refine TL.sn rfl rfl (o_storeBx rfl tyS_26 rfl rfl rfl rfl (Nat.le_of_ble_eq_true rfl) rfl) ?_
   refine TL.nil ?_
   exact Pk.go (fr' := [(2, .bx 0 0), (4, .bx 1 0), (5, .bx 2 0), (6, .bx 3 0), (7, .bx 7 0)]) (σ' := [.box [.str (ByteArray.mk #[]), .bool false, .int .i64 0, .int .i64 0, .int .i64 0, .str (ByteArray.mk #[]), .str (ByteArray.mk #[]), .str (ByteArray.mk #[]), .int .i64 0, .int .i64 0, .int .i64 0, .str (ByteArray.mk #[]), .str (ByteArray.mk #[]), .str (ByteArray.mk #[]), .int .i64 0, .int .i64 0, .int .i64 0, .str (ByteArray.mk #[]), .str (ByteArray.mk #[]), .str (ByteArray.mk #[]), .nilS], .box [.int .i64 0, .int .i64 0, .str (ByteArray.mk #[]), .str (ByteArray.mk #[])], .box [.int .i64 0, .int .i64 0, .str (ByteArray.mk #[]), .str (ByteArray.mk #[])], .box (c_T_spec_l1Cur b0 o30), .arr .clo 7 ((⟨r4.Id_, r4.Permit_, (⟨(IntKind.i64.wrap (5 + r29)), (⟨0, 0, (ByteArray.mk #[]), (ByteArray.mk #[])⟩ : T_impl_Atom), (ByteArray.mk #[])⟩ : T_impl_Head), r4.Action_, r4.Resource_, r4.When_⟩ : T_impl_Policy).When_.map (c_T_impl_Expr false)), .dead, .dead, .box ([.str (⟨r4.Id_, r4.Permit_, (⟨(IntKind.i64.wrap (5 + r29)), (⟨0, 0, (ByteArray.mk #[]), (ByteArray.mk #[])⟩ : T_impl_Atom), (ByteArray.mk #[])⟩ : T_impl_Head), r4.Action_, r4.Resource_, r4.When_⟩ : T_impl_Policy).Id_, .bool (⟨r4.Id_, r4.Permit_, (⟨(IntKind.i64.wrap (5 + r29)), (⟨0, 0, (ByteArray.mk #[]), (ByteArray.mk #[])⟩ : T_impl_Atom), (ByteArray.mk #[])⟩ : T_impl_Head), r4.Action_, r4.Resource_, r4.When_⟩ : T_impl_Policy).Permit_] ++ (c_T_impl_Head false (⟨r4.Id_, r4.Permit_, (⟨(IntKind.i64.wrap (5 + r29)), (⟨0, 0, (ByteArray.mk #[]), (ByteArray.mk #[])⟩ : T_impl_Atom), (ByteArray.mk #[])⟩ : T_impl_Head), r4.Action_, r4.Resource_, r4.When_⟩ : T_impl_Policy).Principal_) ++ (c_T_impl_Head false (⟨r4.Id_, r4.Permit_, (⟨(IntKind.i64.wrap (5 + r29)), (⟨0, 0, (ByteArray.mk #[]), (ByteArray.mk #[])⟩ : T_impl_Atom), (ByteArray.mk #[])⟩ : T_impl_Head), r4.Action_, r4.Resource_, r4.When_⟩ : T_impl_Policy).Action_) ++ (c_T_impl_Head false (⟨r4.Id_, r4.Permit_, (⟨(IntKind.i64.wrap (5 + r29)), (⟨0, 0, (ByteArray.mk #[]), (ByteArray.mk #[])⟩ : T_impl_Atom), (ByteArray.mk #[])⟩ : T_impl_Head), r4.Action_, r4.Resource_, r4.When_⟩ : T_impl_Policy).Resource_) ++ [.hd 4 ((⟨r4.Id_, r4.Permit_, (⟨(IntKind.i64.wrap (5 + r29)), (⟨0, 0, (ByteArray.mk #[]), (ByteArray.mk #[])⟩ : T_impl_Atom), (ByteArray.mk #[])⟩ : T_impl_Head), r4.Action_, r4.Resource_, r4.When_⟩ : T_impl_Policy).When_.map (c_T_impl_Expr false)).length 0 ((⟨r4.Id_, r4.Permit_, (⟨(IntKind.i64.wrap (5 + r29)), (⟨0, 0, (ByteArray.mk #[]), (ByteArray.mk #[])⟩ : T_impl_Atom), (ByteArray.mk #[])⟩ : T_impl_Head), r4.Action_, r4.Resource_, r4.When_⟩ : T_impl_Policy).When_.map (c_T_impl_Expr false)).length])]) _ rfl rfl ⟨(bels_iff.1 rfl), ⟨(bels_iff.1 rfl), ⟨(bels_iff.1 rfl), ⟨(bels_iff.1 rfl), ⟨trivial, ⟨trivial, ⟨trivial, ⟨(bels_iff.1 rfl), trivial⟩⟩⟩⟩⟩⟩⟩⟩ (.cons 2 _ (.bx 0 0) _ rfl (.same _) rfl (.cons 4 _ (.bx 1 0) _ rfl (.same _) rfl (.cons 5 _ (.bx 2 0) _ rfl (.same _) rfl (.cons 6 _ (.bx 3 0) _ rfl (.same _) rfl (.cons 7 _ (.bx 7 0) _ rfl (.same _) rfl .nil))))) (thn_normal ⟨o30, (⟨r4.Id_, r4.Permit_, (⟨(IntKind.i64.wrap (5 + r29)), (⟨0, 0, (ByteArray.mk #[]), (ByteArray.mk #[])⟩ : T_impl_Atom), (ByteArray.mk #[])⟩ : T_impl_Head), r4.Action_, r4.Resource_, r4.When_⟩ : T_impl_Policy), rfl, rfl, H⟩)
  ·replace H := cond_f h H
   refine T.skip ?_
   exact Pk.go (fr' := [(2, .bx 0 0), (4, .bx 1 0), (5, .bx 2 0), (6, .bx 3 0), (7, .bx 7 0)]) (σ' := [.box [.str (ByteArray.mk #[]), .bool false, .int .i64 0, .int .i64 0, .int .i64 0, .str (ByteArray.mk #[]), .str (ByteArray.mk #[]), .str (ByteArray.mk #[]), .int .i64 0, .int .i64 0, .int .i64 0, .str (ByteArray.mk #[]), .str (ByteArray.mk #[]), .str (ByteArray.mk #[]), .int .i64 0, .int .i64 0, .int .i64 0, .str (ByteArray.mk #[]), .str (ByteArray.mk #[]), .str (ByteArray.mk #[]), .nilS], .box [.int .i64 0, .int .i64 0, .str (ByteArray.mk #[]), .str (ByteArray.mk #[])], .box [.int .i64 0, .int .i64 0, .str (ByteArray.mk #[]), .str (ByteArray.mk #[])], .box (c_T_spec_l1Cur b0 o27), .arr .clo 7 (r4.When_.map (c_T_impl_Expr false)), .dead, .dead, .box ([.str r4.Id_, .bool r4.Permit_] ++ (c_T_impl_Head false r4.Principal_) ++ (c_T_impl_Head false r4.Action_) ++ (c_T_impl_Head false r4.Resource_) ++ [.hd 4 (r4.When_.map (c_T_impl_Expr false)).length 0 (r4.When_.map (c_T_impl_Expr false)).length])]) _ rfl rfl ⟨(bels_iff.1 rfl), ⟨(bels_iff.1 rfl), ⟨(bels_iff.1 rfl), ⟨(bels_iff.1 rfl), ⟨trivial, ⟨trivial, ⟨trivial, ⟨(bels_iff.1 rfl), trivial⟩⟩⟩⟩⟩⟩⟩⟩ (.cons 2 _ (.bx 0 0) _ rfl (.same _) rfl (.cons 4 _ (.bx 1 0) _ rfl (.same _) rfl (.cons 5 _ (.bx 2 0) _ rfl (.same _) rfl (.cons 6 _ (.bx 3 0) _ rfl (.same _) rfl (.cons 7 _ (.bx 7 0) _ rfl (.same _) rfl .nil))))) (thn_normal ⟨o27, r4, rfl, rfl, H⟩)
 ·rintro _ _ ⟨b7, b8, rfl, rfl, H⟩
  refine T.seq (T.region (TL.st rfl rfl rfl (o_move rfl rfl) ?_))
  obtain ⟨⟨r9, o10⟩, h11, H⟩ := bind_s H
  refine TL.st rfl rfl rfl (o_callS [3] rfl en_15 rfl rfl (spec_l1Cur_thingRef_p b0 h11) rfl (by decide) (.cons _ _ _ _ rfl .nil) rfl rfl rfl) ?_
  refine TL.st rfl rfl rfl (o_alloc rfl ⟨_, rfl, rfl⟩) (TL.sn rfl rfl (o_storeBx rfl tyS_24 rfl rfl rfl rfl (Nat.le_of_ble_eq_true rfl) rfl) ?_)
  refine TL.nil (thn_normal (T.seq (T.region (TL.st rfl rfl rfl (o_move rfl rfl) ?_))))
  obtain ⟨⟨r12, o13⟩, h14, H⟩ := bind_s H
  refine TL.st rfl rfl rfl (o_callS [3] rfl en_15 rfl rfl (spec_l1Cur_thingRef_p b0 h14) rfl (by decide) (.cons _ _ _ _ rfl .nil) rfl rfl rfl) ?_
  refine TL.st rfl rfl rfl (o_alloc rfl ⟨_, rfl, rfl⟩) (TL.sn rfl rfl (o_storeBx rfl tyS_24 rfl rfl rfl rfl (Nat.le_of_ble_eq_true rfl) rfl) ?_)
  refine TL.nil (thn_normal (T.cut (fun fr' σ' => ∃ (b15 : T_spec_l1Cur) (b16 : T_impl_Atom), fr' = [(2, .bx 0 0), (4, .bx 1 0), (5, .bx 2 0), (6, .bx 3 0), (7, .bx 7 0), (8, .bx 8 0), (9, .bx 9 0)] ∧ σ' = [.box [.str (ByteArray.mk #[]), .bool false, .int .i64 0, .int .i64 0, .int .i64 0, .str (ByteArray.mk #[]), .str (ByteArray.mk #[]), .str (ByteArray.mk #[]), .int .i64 0, .int .i64 0, .int .i64 0, .str (ByteArray.mk #[]), .str (ByteArray.mk #[]), .str (ByteArray.mk #[]), .int .i64 0, .int .i64 0, .int .i64 0, .str (ByteArray.mk #[]), .str (ByteArray.mk #[]), .str (ByteArray.mk #[]), .nilS], .box [.int .i64 0, .int .i64 0, .str (ByteArray.mk #[]), .str (ByteArray.mk #[])], .box [.int .i64 0, .int .i64 0, .str (ByteArray.mk #[]), .str (ByteArray.mk #[])], .box (c_T_spec_l1Cur b0 b15), .arr .clo 7 (b8.When_.map (c_T_impl_Expr false)), .dead, .dead, .box ([.str b8.Id_, .bool b8.Permit_] ++ (c_T_impl_Head false b8.Principal_) ++ (c_T_impl_Head false b8.Action_) ++ (c_T_impl_Head false b8.Resource_) ++ [.hd 4 (b8.When_.map (c_T_impl_Expr false)).length 0 (b8.When_.map (c_T_impl_Expr false)).length]), .box (c_T_impl_Atom false b16), .box (c_T_impl_Atom false r12)] ∧ spec_DrawLinkPolicy_j2 b8 r12 b15 b16 = some (R0, R1, R2, R3)) (T.pk ?_) ?_))
  ·skip
   refine T.seq (T.region (TL.st rfl rfl rfl (o_move rfl rfl) ?_))
   obtain ⟨⟨r20, o21⟩, h22, H⟩ := bind_s H
   refine TL.st rfl rfl rfl (o_callS [3] rfl en_13 rfl rfl (spec_l1Cur_one_p b0 h22) rfl (by decide) (.cons _ _ _ _ rfl .nil) rfl rfl rfl) ?_
   refine TL.nil (thn_normal ?_)
   refine T.cond (r20) rfl (fun h => ?_) (fun h => ?_)
   ·replace H := cond_t h H
    refine T.region (TL.st rfl rfl rfl (o_move rfl rfl) ?_)
    obtain ⟨⟨r23, o24⟩, h25, H⟩ := bind_s H
    refine TL.st rfl rfl rfl (o_callS [3] rfl en_16 rfl rfl (spec_l1Cur_atom_p b0 h25) rfl (by decide) (.cons _ _ _ _ rfl .nil) rfl rfl rfl) ?_
    refine TL.sn rfl rfl (o_storeBx rfl tyS_24 rfl rfl rfl rfl (Nat.le_of_ble_eq_true rfl) rfl) ?_
    refine TL.nil ?_
    exact Pk.go (fr' := [(2, .bx 0 0), (4, .bx 1 0), (5, .bx 2 0), (6, .bx 3 0), (7, .bx 7 0), (8, .bx 8 0), (9, .bx 9 0)]) (σ' := [.box [.str (ByteArray.mk #[]), .bool false, .int .i64 0, .int .i64 0, .int .i64 0, .str (ByteArray.mk #[]), .str (ByteArray.mk #[]), .str (ByteArray.mk #[]), .int .i64 0, .int .i64 0, .int .i64 0, .str (ByteArray.mk #[]), .str (ByteArray.mk #[]), .str (ByteArray.mk #[]), .int .i64 0, .int .i64 0, .int .i64 0, .str (ByteArray.mk #[]), .str (ByteArray.mk #[]), .str (ByteArray.mk #[]), .nilS], .box [.int .i64 0, .int .i64 0, .str (ByteArray.mk #[]), .str (ByteArray.mk #[])], .box [.int .i64 0, .int .i64 0, .str (ByteArray.mk #[]), .str (ByteArray.mk #[])], .box (c_T_spec_l1Cur b0 o24), .arr .clo 7 (b8.When_.map (c_T_impl_Expr false)), .dead, .dead, .box ([.str b8.Id_, .bool b8.Permit_] ++ (c_T_impl_Head false b8.Principal_) ++ (c_T_impl_Head false b8.Action_) ++ (c_T_impl_Head false b8.Resource_) ++ [.hd 4 (b8.When_.map (c_T_impl_Expr false)).length 0 (b8.When_.map (c_T_impl_Expr false)).length]), .box (c_T_impl_Atom false r23), .box (c_T_impl_Atom false r12)]) _ rfl rfl ⟨(bels_iff.1 rfl), ⟨(bels_iff.1 rfl), ⟨(bels_iff.1 rfl), ⟨(bels_iff.1 rfl), ⟨trivial, ⟨trivial, ⟨trivial, ⟨(bels_iff.1 rfl), ⟨(bels_iff.1 rfl), ⟨(bels_iff.1 rfl), trivial⟩⟩⟩⟩⟩⟩⟩⟩⟩⟩ (.cons 2 _ (.bx 0 0) _ rfl (.same _) rfl (.cons 4 _ (.bx 1 0) _ rfl (.same _) rfl (.cons 5 _ (.bx 2 0) _ rfl (.same _) rfl (.cons 6 _ (.bx 3 0) _ rfl (.same _) rfl (.cons 7 _ (.bx 7 0) _ rfl (.same _) rfl (.cons 8 _ (.bx 8 0) _ rfl (.same _) rfl (.cons 9 _ (.bx 9 0) _ rfl (.same _) rfl .nil))))))) (thn_normal ⟨o24, r23, rfl, rfl, H⟩)
   ·replace H := cond_f h H
    refine T.skip ?_
    exact Pk.go (fr' := [(2, .bx 0 0), (4, .bx 1 0), (5, .bx 2 0), (6, .bx 3 0), (7, .bx 7 0), (8, .bx 8 0), (9, .bx 9 0)]) (σ' := [.box [.str (ByteArray.mk #[]), .bool false, .int .i64 0, .int .i64 0, .int .i64 0, .str (ByteArray.mk #[]), .str (ByteArray.mk #[]), .str (ByteArray.mk #[]), .int .i64 0, .int .i64 0, .int .i64 0, .str (ByteArray.mk #[]), .str (ByteArray.mk #[]), .str (ByteArray.mk #[]), .int .i64 0, .int .i64 0, .int .i64 0, .str (ByteArray.mk #[]), .str (ByteArray.mk #[]), .str (ByteArray.mk #[]), .nilS], .box [.int .i64 0, .int .i64 0, .str (ByteArray.mk #[]), .str (ByteArray.mk #[])], .box [.int .i64 0, .int .i64 0, .str (ByteArray.mk #[]), .str (ByteArray.mk #[])], .box (c_T_spec_l1Cur b0 o21), .arr .clo 7 (b8.When_.map (c_T_impl_Expr false)), .dead, .dead, .box ([.str b8.Id_, .bool b8.Permit_] ++ (c_T_impl_Head false b8.Principal_) ++ (c_T_impl_Head false b8.Action_) ++ (c_T_impl_Head false b8.Resource_) ++ [.hd 4 (b8.When_.map (c_T_impl_Expr false)).length 0 (b8.When_.map (c_T_impl_Expr false)).length]), .box (c_T_impl_Atom false r9), .box (c_T_impl_Atom false r12)]) _ rfl rfl ⟨(bels_iff.1 rfl), ⟨(bels_iff.1 rfl), ⟨(bels_iff.1 rfl), ⟨(bels_iff.1 rfl), ⟨trivial, ⟨trivial, ⟨trivial, ⟨(bels_iff.1 rfl), ⟨(bels_iff.1 rfl), ⟨(bels_iff.1 rfl), trivial⟩⟩⟩⟩⟩⟩⟩⟩⟩⟩ (.cons 2 _ (.bx 0 0) _ rfl (.same _) rfl (.cons 4 _ (.bx 1 0) _ rfl (.same _) rfl (.cons 5 _ (.bx 2 0) _ rfl (.same _) rfl (.cons 6 _ (.bx 3 0) _ rfl (.same _) rfl (.cons 7 _ (.bx 7 0) _ rfl (.same _) rfl (.cons 8 _ (.bx 8 0) _ rfl (.same _) rfl (.cons 9 _ (.bx 9 0) _ rfl (.same _) rfl .nil))))))) (thn_normal ⟨o21, r9, rfl, rfl, H⟩)
  ·rintro _ _ ⟨b15, b16, rfl, rfl, H⟩
   refine T.seq ?_
   obtain ⟨⟨r17, o18⟩, h19, H⟩ := bind_s H
   refine T.drawS (fr' := [(2, .bx 0 0), (3, .str r17), (4, .bx 1 0), (5, .bx 2 0), (6, .bx 3 0), (7, .bx 7 0), (8, .bx 8 0), (9, .bx 9 0), (33, .agg ([.str b8.Id_, .bool b8.Permit_] ++ (c_T_impl_Head false b8.Principal_) ++ (c_T_impl_Head false b8.Action_) ++ (c_T_impl_Head false b8.Resource_) ++ [.hd 4 (b8.When_.map (c_T_impl_Expr false)).length 0 (b8.When_.map (c_T_impl_Expr false)).length])), (34, .bx 3 0), (35, .im false (([(ByteArray.mk #[108, 49]), (ByteArray.mk #[108, 50]), (ByteArray.mk #[]), (ByteArray.mk #[120, 32, 121])] : List ByteArray).map (c_str))), (36, .str r17), (37, .agg (c_T_impl_Atom false b16)), (38, .agg (c_T_impl_Atom false r12))]) (R := [⟨some 33, .agg ([.str b8.Id_, .bool b8.Permit_] ++ (c_T_impl_Head false b8.Principal_) ++ (c_T_impl_Head false b8.Action_) ++ (c_T_impl_Head false b8.Resource_) ++ [.hd 4 (b8.When_.map (c_T_impl_Expr false)).length 0 (b8.When_.map (c_T_impl_Expr false)).length]), .q, []⟩, ⟨some 34, .bx 3 0, .q, []⟩, ⟨some 35, .im false (([(ByteArray.mk #[108, 49]), (ByteArray.mk #[108, 50]), (ByteArray.mk #[]), (ByteArray.mk #[120, 32, 121])] : List ByteArray).map (c_str)), .q, []⟩, ⟨some 36, .str r17, .q, []⟩, ⟨some 37, .agg (c_T_impl_Atom false b16), .q, []⟩, ⟨some 38, .agg (c_T_impl_Atom false r12), .q, []⟩, ⟨none, .any, .q, []⟩, ⟨some 3, .str r17, .q, []⟩, ⟨none, .any, .q, []⟩, ⟨none, .any, .q, []⟩]) (fun b => cond (b 3) (cond (b 6) (cond (b 8) (cond (b 9) ([.box ([.str b8.Id_, .bool b8.Permit_] ++ (c_T_impl_Head false b8.Principal_) ++ (c_T_impl_Head false b8.Action_) ++ (c_T_impl_Head false b8.Resource_) ++ [.hd 4 (b8.When_.map (c_T_impl_Expr false)).length 0 (b8.When_.map (c_T_impl_Expr false)).length]), .box (c_T_impl_Atom false b16), .box (c_T_impl_Atom false r12), .box (c_T_spec_l1Cur b0 o18), .arr .clo 7 (b8.When_.map (c_T_impl_Expr false)), .dead, .dead, .box ([.str b8.Id_, .bool b8.Permit_] ++ (c_T_impl_Head false b8.Principal_) ++ (c_T_impl_Head false b8.Action_) ++ (c_T_impl_Head false b8.Resource_) ++ [.hd 4 (b8.When_.map (c_T_impl_Expr false)).length 0 (b8.When_.map (c_T_impl_Expr false)).length]), .box (c_T_impl_Atom false b16), .box (c_T_impl_Atom false r12)]) ([.box ([.str b8.Id_, .bool b8.Permit_] ++ (c_T_impl_Head false b8.Principal_) ++ (c_T_impl_Head false b8.Action_) ++ (c_T_impl_Head false b8.Resource_) ++ [.hd 4 (b8.When_.map (c_T_impl_Expr false)).length 0 (b8.When_.map (c_T_impl_Expr false)).length]), .box (c_T_impl_Atom false b16), .box [.int .i64 0, .int .i64 0, .str (ByteArray.mk #[]), .str (ByteArray.mk #[])], .box (c_T_spec_l1Cur b0 o18), .arr .clo 7 (b8.When_.map (c_T_impl_Expr false)), .dead, .dead, .box ([.str b8.Id_, .bool b8.Permit_] ++ (c_T_impl_Head false b8.Principal_) ++ (c_T_impl_Head false b8.Action_) ++ (c_T_impl_Head false b8.Resource_) ++ [.hd 4 (b8.When_.map (c_T_impl_Expr false)).length 0 (b8.When_.map (c_T_impl_Expr false)).length]), .box (c_T_impl_Atom false b16), .box (c_T_impl_Atom false r12)])) ([.box ([.str b8.Id_, .bool b8.Permit_] ++ (c_T_impl_Head false b8.Principal_) ++ (c_T_impl_Head false b8.Action_) ++ (c_T_impl_Head false b8.Resource_) ++ [.hd 4 (b8.When_.map (c_T_impl_Expr false)).length 0 (b8.When_.map (c_T_impl_Expr false)).length]), .box [.int .i64 0, .int .i64 0, .str (ByteArray.mk #[]), .str (ByteArray.mk #[])], .box [.int .i64 0, .int .i64 0, .str (ByteArray.mk #[]), .str (ByteArray.mk #[])], .box (c_T_spec_l1Cur b0 o18), .arr .clo 7 (b8.When_.map (c_T_impl_Expr false)), .dead, .dead, .box ([.str b8.Id_, .bool b8.Permit_] ++ (c_T_impl_Head false b8.Principal_) ++ (c_T_impl_Head false b8.Action_) ++ (c_T_impl_Head false b8.Resource_) ++ [.hd 4 (b8.When_.map (c_T_impl_Expr false)).length 0 (b8.When_.map (c_T_impl_Expr false)).length]), .box (c_T_impl_Atom false b16), .box (c_T_impl_Atom false r12)])) ([.box [.str (ByteArray.mk #[]), .bool false, .int .i64 0, .int .i64 0, .int .i64 0, .str (ByteArray.mk #[]), .str (ByteArray.mk #[]), .str (ByteArray.mk #[]), .int .i64 0, .int .i64 0, .int .i64 0, .str (ByteArray.mk #[]), .str (ByteArray.mk #[]), .str (ByteArray.mk #[]), .int .i64 0, .int .i64 0, .int .i64 0, .str (ByteArray.mk #[]), .str (ByteArray.mk #[]), .str (ByteArray.mk #[]), .nilS], .box [.int .i64 0, .int .i64 0, .str (ByteArray.mk #[]), .str (ByteArray.mk #[])], .box [.int .i64 0, .int .i64 0, .str (ByteArray.mk #[]), .str (ByteArray.mk #[])], .box (c_T_spec_l1Cur b0 o18), .arr .clo 7 (b8.When_.map (c_T_impl_Expr false)), .dead, .dead, .box ([.str b8.Id_, .bool b8.Permit_] ++ (c_T_impl_Head false b8.Principal_) ++ (c_T_impl_Head false b8.Action_) ++ (c_T_impl_Head false b8.Resource_) ++ [.hd 4 (b8.When_.map (c_T_impl_Expr false)).length 0 (b8.When_.map (c_T_impl_Expr false)).length]), .box (c_T_impl_Atom false b16), .box (c_T_impl_Atom false r12)])) ([.box [.str (ByteArray.mk #[]), .bool false, .int .i64 0, .int .i64 0, .int .i64 0, .str (ByteArray.mk #[]), .str (ByteArray.mk #[]), .str (ByteArray.mk #[]), .int .i64 0, .int .i64 0, .int .i64 0, .str (ByteArray.mk #[]), .str (ByteArray.mk #[]), .str (ByteArray.mk #[]), .int .i64 0, .int .i64 0, .int .i64 0, .str (ByteArray.mk #[]), .str (ByteArray.mk #[]), .str (ByteArray.mk #[]), .nilS], .box [.int .i64 0, .int .i64 0, .str (ByteArray.mk #[]), .str (ByteArray.mk #[])], .box [.int .i64 0, .int .i64 0, .str (ByteArray.mk #[]), .str (ByteArray.mk #[])], .box (c_T_spec_l1Cur b0 b15), .arr .clo 7 (b8.When_.map (c_T_impl_Expr false)), .dead, .dead, .box ([.str b8.Id_, .bool b8.Permit_] ++ (c_T_impl_Head false b8.Principal_) ++ (c_T_impl_Head false b8.Action_) ++ (c_T_impl_Head false b8.Resource_) ++ [.hd 4 (b8.When_.map (c_T_impl_Expr false)).length 0 (b8.When_.map (c_T_impl_Expr false)).length]), .box (c_T_impl_Atom false b16), .box (c_T_impl_Atom false r12)])) rfl ?_ ?_ rfl rfl (FrL.get (.cons rfl (.cons rfl (.cons rfl (.cons rfl (.cons rfl (.cons rfl (.cons rfl (.cons rfl (.cons rfl (.cons rfl (.cons rfl (.cons rfl (.cons rfl (.cons rfl .nil))))))))))))))) ?_
   ·refine .cons _ _ _ _ _ ⟨rfl, [(7, .bx 7 0)], AllN.get rfl (.cons rfl .nil), fun b hd hn hk hc => ?_⟩ ?_
    ·cases e3 : b 3
     ·exact ops_at (σ1 := [.box [.str (ByteArray.mk #[]), .bool false, .int .i64 0, .int .i64 0, .int .i64 0, .str (ByteArray.mk #[]), .str (ByteArray.mk #[]), .str (ByteArray.mk #[]), .int .i64 0, .int .i64 0, .int .i64 0, .str (ByteArray.mk #[]), .str (ByteArray.mk #[]), .str (ByteArray.mk #[]), .int .i64 0, .int .i64 0, .int .i64 0, .str (ByteArray.mk #[]), .str (ByteArray.mk #[]), .str (ByteArray.mk #[]), .nilS], .box [.int .i64 0, .int .i64 0, .str (ByteArray.mk #[]), .str (ByteArray.mk #[])], .box [.int .i64 0, .int .i64 0, .str (ByteArray.mk #[]), .str (ByteArray.mk #[])], .box (c_T_spec_l1Cur b0 b15), .arr .clo 7 (b8.When_.map (c_T_impl_Expr false)), .dead, .dead, .box ([.str b8.Id_, .bool b8.Permit_] ++ (c_T_impl_Head false b8.Principal_) ++ (c_T_impl_Head false b8.Action_) ++ (c_T_impl_Head false b8.Resource_) ++ [.hd 4 (b8.When_.map (c_T_impl_Expr false)).length 0 (b8.When_.map (c_T_impl_Expr false)).length]), .box (c_T_impl_Atom false b16), .box (c_T_impl_Atom false r12)]) (by simp only [show b 3 = false from e3, show b 6 = false from (hn 6 rfl), show b 8 = false from (hn 8 rfl), show b 9 = false from (hn 9 rfl), cond_true, cond_false]) rfl (o_loadBx rfl tyS_29 rfl rfl (Nat.le_of_ble_eq_true rfl) rfl) (Eq.trans (b := [.box [.str (ByteArray.mk #[]), .bool false, .int .i64 0, .int .i64 0, .int .i64 0, .str (ByteArray.mk #[]), .str (ByteArray.mk #[]), .str (ByteArray.mk #[]), .int .i64 0, .int .i64 0, .int .i64 0, .str (ByteArray.mk #[]), .str (ByteArray.mk #[]), .str (ByteArray.mk #[]), .int .i64 0, .int .i64 0, .int .i64 0, .str (ByteArray.mk #[]), .str (ByteArray.mk #[]), .str (ByteArray.mk #[]), .nilS], .box [.int .i64 0, .int .i64 0, .str (ByteArray.mk #[]), .str (ByteArray.mk #[])], .box [.int .i64 0, .int .i64 0, .str (ByteArray.mk #[]), .str (ByteArray.mk #[])], .box (c_T_spec_l1Cur b0 b15), .arr .clo 7 (b8.When_.map (c_T_impl_Expr false)), .dead, .dead, .box ([.str b8.Id_, .bool b8.Permit_] ++ (c_T_impl_Head false b8.Principal_) ++ (c_T_impl_Head false b8.Action_) ++ (c_T_impl_Head false b8.Resource_) ++ [.hd 4 (b8.When_.map (c_T_impl_Expr false)).length 0 (b8.When_.map (c_T_impl_Expr false)).length]), .box (c_T_impl_Atom false b16), .box (c_T_impl_Atom false r12)]) (by simp only [show updb b 0 3 = false from (updb_ne rfl).trans e3, show updb b 0 6 = false from (updb_ne rfl).trans (hn 6 rfl), show updb b 0 8 = false from (updb_ne rfl).trans (hn 8 rfl), show updb b 0 9 = false from (updb_ne rfl).trans (hn 9 rfl), cond_true, cond_false]) rfl) rfl
     ·exact ops_at (σ1 := [.box [.str (ByteArray.mk #[]), .bool false, .int .i64 0, .int .i64 0, .int .i64 0, .str (ByteArray.mk #[]), .str (ByteArray.mk #[]), .str (ByteArray.mk #[]), .int .i64 0, .int .i64 0, .int .i64 0, .str (ByteArray.mk #[]), .str (ByteArray.mk #[]), .str (ByteArray.mk #[]), .int .i64 0, .int .i64 0, .int .i64 0, .str (ByteArray.mk #[]), .str (ByteArray.mk #[]), .str (ByteArray.mk #[]), .nilS], .box [.int .i64 0, .int .i64 0, .str (ByteArray.mk #[]), .str (ByteArray.mk #[])], .box [.int .i64 0, .int .i64 0, .str (ByteArray.mk #[]), .str (ByteArray.mk #[])], .box (c_T_spec_l1Cur b0 o18), .arr .clo 7 (b8.When_.map (c_T_impl_Expr false)), .dead, .dead, .box ([.str b8.Id_, .bool b8.Permit_] ++ (c_T_impl_Head false b8.Principal_) ++ (c_T_impl_Head false b8.Action_) ++ (c_T_impl_Head false b8.Resource_) ++ [.hd 4 (b8.When_.map (c_T_impl_Expr false)).length 0 (b8.When_.map (c_T_impl_Expr false)).length]), .box (c_T_impl_Atom false b16), .box (c_T_impl_Atom false r12)]) (by simp only [show b 3 = true from e3, show b 6 = false from (hn 6 rfl), show b 8 = false from (hn 8 rfl), show b 9 = false from (hn 9 rfl), cond_true, cond_false]) rfl (o_loadBx rfl tyS_29 rfl rfl (Nat.le_of_ble_eq_true rfl) rfl) (Eq.trans (b := [.box [.str (ByteArray.mk #[]), .bool false, .int .i64 0, .int .i64 0, .int .i64 0, .str (ByteArray.mk #[]), .str (ByteArray.mk #[]), .str (ByteArray.mk #[]), .int .i64 0, .int .i64 0, .int .i64 0, .str (ByteArray.mk #[]), .str (ByteArray.mk #[]), .str (ByteArray.mk #[]), .int .i64 0, .int .i64 0, .int .i64 0, .str (ByteArray.mk #[]), .str (ByteArray.mk #[]), .str (ByteArray.mk #[]), .nilS], .box [.int .i64 0, .int .i64 0, .str (ByteArray.mk #[]), .str (ByteArray.mk #[])], .box [.int .i64 0, .int .i64 0, .str (ByteArray.mk #[]), .str (ByteArray.mk #[])], .box (c_T_spec_l1Cur b0 o18), .arr .clo 7 (b8.When_.map (c_T_impl_Expr false)), .dead, .dead, .box ([.str b8.Id_, .bool b8.Permit_] ++ (c_T_impl_Head false b8.Principal_) ++ (c_T_impl_Head false b8.Action_) ++ (c_T_impl_Head false b8.Resource_) ++ [.hd 4 (b8.When_.map (c_T_impl_Expr false)).length 0 (b8.When_.map (c_T_impl_Expr false)).length]), .box (c_T_impl_Atom false b16), .box (c_T_impl_Atom false r12)]) (by simp only [show updb b 0 3 = true from (updb_ne rfl).trans e3, show updb b 0 6 = false from (updb_ne rfl).trans (hn 6 rfl), show updb b 0 8 = false from (updb_ne rfl).trans (hn 8 rfl), show updb b 0 9 = false from (updb_ne rfl).trans (hn 9 rfl), cond_true, cond_false]) rfl) rfl
    refine .cons _ _ _ _ _ ⟨rfl, [(6, .bx 3 0)], AllN.get rfl (.cons rfl .nil), fun b hd hn hk hc => ?_⟩ ?_
    ·exact ops_at (σ1 := [.box [.str (ByteArray.mk #[]), .bool false, .int .i64 0, .int .i64 0, .int .i64 0, .str (ByteArray.mk #[]), .str (ByteArray.mk #[]), .str (ByteArray.mk #[]), .int .i64 0, .int .i64 0, .int .i64 0, .str (ByteArray.mk #[]), .str (ByteArray.mk #[]), .str (ByteArray.mk #[]), .int .i64 0, .int .i64 0, .int .i64 0, .str (ByteArray.mk #[]), .str (ByteArray.mk #[]), .str (ByteArray.mk #[]), .nilS], .box [.int .i64 0, .int .i64 0, .str (ByteArray.mk #[]), .str (ByteArray.mk #[])], .box [.int .i64 0, .int .i64 0, .str (ByteArray.mk #[]), .str (ByteArray.mk #[])], .box (c_T_spec_l1Cur b0 b15), .arr .clo 7 (b8.When_.map (c_T_impl_Expr false)), .dead, .dead, .box ([.str b8.Id_, .bool b8.Permit_] ++ (c_T_impl_Head false b8.Principal_) ++ (c_T_impl_Head false b8.Action_) ++ (c_T_impl_Head false b8.Resource_) ++ [.hd 4 (b8.When_.map (c_T_impl_Expr false)).length 0 (b8.When_.map (c_T_impl_Expr false)).length]), .box (c_T_impl_Atom false b16), .box (c_T_impl_Atom false r12)]) (by simp only [show b 3 = false from (hn 3 rfl), show b 6 = false from (hn 6 rfl), show b 8 = false from (hn 8 rfl), show b 9 = false from (hn 9 rfl), cond_true, cond_false]) rfl (o_move rfl rfl) (Eq.trans (b := [.box [.str (ByteArray.mk #[]), .bool false, .int .i64 0, .int .i64 0, .int .i64 0, .str (ByteArray.mk #[]), .str (ByteArray.mk #[]), .str (ByteArray.mk #[]), .int .i64 0, .int .i64 0, .int .i64 0, .str (ByteArray.mk #[]), .str (ByteArray.mk #[]), .str (ByteArray.mk #[]), .int .i64 0, .int .i64 0, .int .i64 0, .str (ByteArray.mk #[]), .str (ByteArray.mk #[]), .str (ByteArray.mk #[]), .nilS], .box [.int .i64 0, .int .i64 0, .str (ByteArray.mk #[]), .str (ByteArray.mk #[])], .box [.int .i64 0, .int .i64 0, .str (ByteArray.mk #[]), .str (ByteArray.mk #[])], .box (c_T_spec_l1Cur b0 b15), .arr .clo 7 (b8.When_.map (c_T_impl_Expr false)), .dead, .dead, .box ([.str b8.Id_, .bool b8.Permit_] ++ (c_T_impl_Head false b8.Principal_) ++ (c_T_impl_Head false b8.Action_) ++ (c_T_impl_Head false b8.Resource_) ++ [.hd 4 (b8.When_.map (c_T_impl_Expr false)).length 0 (b8.When_.map (c_T_impl_Expr false)).length]), .box (c_T_impl_Atom false b16), .box (c_T_impl_Atom false r12)]) (by simp only [show updb b 1 3 = false from (updb_ne rfl).trans (hn 3 rfl), show updb b 1 6 = false from (updb_ne rfl).trans (hn 6 rfl), show updb b 1 8 = false from (updb_ne rfl).trans (hn 8 rfl), show updb b 1 9 = false from (updb_ne rfl).trans (hn 9 rfl), cond_true, cond_false]) rfl) rfl
    refine .cons _ _ _ _ _ ⟨rfl, [], AllN.get rfl .nil, fun b hd hn hk hc => ?_⟩ ?_
    ·exact ops_at (σ1 := [.box [.str (ByteArray.mk #[]), .bool false, .int .i64 0, .int .i64 0, .int .i64 0, .str (ByteArray.mk #[]), .str (ByteArray.mk #[]), .str (ByteArray.mk #[]), .int .i64 0, .int .i64 0, .int .i64 0, .str (ByteArray.mk #[]), .str (ByteArray.mk #[]), .str (ByteArray.mk #[]), .int .i64 0, .int .i64 0, .int .i64 0, .str (ByteArray.mk #[]), .str (ByteArray.mk #[]), .str (ByteArray.mk #[]), .nilS], .box [.int .i64 0, .int .i64 0, .str (ByteArray.mk #[]), .str (ByteArray.mk #[])], .box [.int .i64 0, .int .i64 0, .str (ByteArray.mk #[]), .str (ByteArray.mk #[])], .box (c_T_spec_l1Cur b0 b15), .arr .clo 7 (b8.When_.map (c_T_impl_Expr false)), .dead, .dead, .box ([.str b8.Id_, .bool b8.Permit_] ++ (c_T_impl_Head false b8.Principal_) ++ (c_T_impl_Head false b8.Action_) ++ (c_T_impl_Head false b8.Resource_) ++ [.hd 4 (b8.When_.map (c_T_impl_Expr false)).length 0 (b8.When_.map (c_T_impl_Expr false)).length]), .box (c_T_impl_Atom false b16), .box (c_T_impl_Atom false r12)]) (by simp only [show b 3 = false from (hn 3 rfl), show b 6 = false from (hn 6 rfl), show b 8 = false from (hn 8 rfl), show b 9 = false from (hn 9 rfl), cond_true, cond_false]) rfl (o_sliceIm rfl rfl tyS_9 ⟨_, rfl, rfl⟩ (by decide) rfl rfl rfl rfl rfl rfl) (Eq.trans (b := [.box [.str (ByteArray.mk #[]), .bool false, .int .i64 0, .int .i64 0, .int .i64 0, .str (ByteArray.mk #[]), .str (ByteArray.mk #[]), .str (ByteArray.mk #[]), .int .i64 0, .int .i64 0, .int .i64 0, .str (ByteArray.mk #[]), .str (ByteArray.mk #[]), .str (ByteArray.mk #[]), .int .i64 0, .int .i64 0, .int .i64 0, .str (ByteArray.mk #[]), .str (ByteArray.mk #[]), .str (ByteArray.mk #[]), .nilS], .box [.int .i64 0, .int .i64 0, .str (ByteArray.mk #[]), .str (ByteArray.mk #[])], .box [.int .i64 0, .int .i64 0, .str (ByteArray.mk #[]), .str (ByteArray.mk #[])], .box (c_T_spec_l1Cur b0 b15), .arr .clo 7 (b8.When_.map (c_T_impl_Expr false)), .dead, .dead, .box ([.str b8.Id_, .bool b8.Permit_] ++ (c_T_impl_Head false b8.Principal_) ++ (c_T_impl_Head false b8.Action_) ++ (c_T_impl_Head false b8.Resource_) ++ [.hd 4 (b8.When_.map (c_T_impl_Expr false)).length 0 (b8.When_.map (c_T_impl_Expr false)).length]), .box (c_T_impl_Atom false b16), .box (c_T_impl_Atom false r12)]) (by simp only [show updb b 2 3 = false from (updb_ne rfl).trans (hn 3 rfl), show updb b 2 6 = false from (updb_ne rfl).trans (hn 6 rfl), show updb b 2 8 = false from (updb_ne rfl).trans (hn 8 rfl), show updb b 2 9 = false from (updb_ne rfl).trans (hn 9 rfl), cond_true, cond_false]) rfl) rfl
    refine .cons _ _ _ _ _ ⟨rfl, [(34, .bx 3 0), (35, .im false (([(ByteArray.mk #[108, 49]), (ByteArray.mk #[108, 50]), (ByteArray.mk #[]), (ByteArray.mk #[120, 32, 121])] : List ByteArray).map (c_str)))], AllN.get rfl (.cons rfl (.cons rfl .nil)), fun b hd hn hk hc => ?_⟩ ?_
    ·exact ops_at (σ1 := [.box [.str (ByteArray.mk #[]), .bool false, .int .i64 0, .int .i64 0, .int .i64 0, .str (ByteArray.mk #[]), .str (ByteArray.mk #[]), .str (ByteArray.mk #[]), .int .i64 0, .int .i64 0, .int .i64 0, .str (ByteArray.mk #[]), .str (ByteArray.mk #[]), .str (ByteArray.mk #[]), .int .i64 0, .int .i64 0, .int .i64 0, .str (ByteArray.mk #[]), .str (ByteArray.mk #[]), .str (ByteArray.mk #[]), .nilS], .box [.int .i64 0, .int .i64 0, .str (ByteArray.mk #[]), .str (ByteArray.mk #[])], .box [.int .i64 0, .int .i64 0, .str (ByteArray.mk #[]), .str (ByteArray.mk #[])], .box (c_T_spec_l1Cur b0 b15), .arr .clo 7 (b8.When_.map (c_T_impl_Expr false)), .dead, .dead, .box ([.str b8.Id_, .bool b8.Permit_] ++ (c_T_impl_Head false b8.Principal_) ++ (c_T_impl_Head false b8.Action_) ++ (c_T_impl_Head false b8.Resource_) ++ [.hd 4 (b8.When_.map (c_T_impl_Expr false)).length 0 (b8.When_.map (c_T_impl_Expr false)).length]), .box (c_T_impl_Atom false b16), .box (c_T_impl_Atom false r12)]) (by simp only [show b 3 = false from hk, show b 6 = false from (hn 6 rfl), show b 8 = false from (hn 8 rfl), show b 9 = false from (hn 9 rfl), cond_true, cond_false]) rfl (o_callS [3] rfl en_17 rfl rfl (spec_l1Cur_of_p false b0 h19) rfl (by decide) (.cons _ _ _ _ rfl .nil) rfl rfl rfl) (Eq.trans (b := [.box [.str (ByteArray.mk #[]), .bool false, .int .i64 0, .int .i64 0, .int .i64 0, .str (ByteArray.mk #[]), .str (ByteArray.mk #[]), .str (ByteArray.mk #[]), .int .i64 0, .int .i64 0, .int .i64 0, .str (ByteArray.mk #[]), .str (ByteArray.mk #[]), .str (ByteArray.mk #[]), .int .i64 0, .int .i64 0, .int .i64 0, .str (ByteArray.mk #[]), .str (ByteArray.mk #[]), .str (ByteArray.mk #[]), .nilS], .box [.int .i64 0, .int .i64 0, .str (ByteArray.mk #[]), .str (ByteArray.mk #[])], .box [.int .i64 0, .int .i64 0, .str (ByteArray.mk #[]), .str (ByteArray.mk #[])], .box (c_T_spec_l1Cur b0 o18), .arr .clo 7 (b8.When_.map (c_T_impl_Expr false)), .dead, .dead, .box ([.str b8.Id_, .bool b8.Permit_] ++ (c_T_impl_Head false b8.Principal_) ++ (c_T_impl_Head false b8.Action_) ++ (c_T_impl_Head false b8.Resource_) ++ [.hd 4 (b8.When_.map (c_T_impl_Expr false)).length 0 (b8.When_.map (c_T_impl_Expr false)).length]), .box (c_T_impl_Atom false b16), .box (c_T_impl_Atom false r12)]) (by simp only [show updb b 3 3 = true from updb_self, show updb b 3 6 = false from (updb_ne rfl).trans (hn 6 rfl), show updb b 3 8 = false from (updb_ne rfl).trans (hn 8 rfl), show updb b 3 9 = false from (updb_ne rfl).trans (hn 9 rfl), cond_true, cond_false]) rfl) rfl
    refine .cons _ _ _ _ _ ⟨rfl, [(8, .bx 8 0)], AllN.get rfl (.cons rfl .nil), fun b hd hn hk hc => ?_⟩ ?_
    ·cases e3 : b 3
     ·cases e6 : b 6
      ·exact ops_at (σ1 := [.box [.str (ByteArray.mk #[]), .bool false, .int .i64 0, .int .i64 0, .int .i64 0, .str (ByteArray.mk #[]), .str (ByteArray.mk #[]), .str (ByteArray.mk #[]), .int .i64 0, .int .i64 0, .int .i64 0, .str (ByteArray.mk #[]), .str (ByteArray.mk #[]), .str (ByteArray.mk #[]), .int .i64 0, .int .i64 0, .int .i64 0, .str (ByteArray.mk #[]), .str (ByteArray.mk #[]), .str (ByteArray.mk #[]), .nilS], .box [.int .i64 0, .int .i64 0, .str (ByteArray.mk #[]), .str (ByteArray.mk #[])], .box [.int .i64 0, .int .i64 0, .str (ByteArray.mk #[]), .str (ByteArray.mk #[])], .box (c_T_spec_l1Cur b0 b15), .arr .clo 7 (b8.When_.map (c_T_impl_Expr false)), .dead, .dead, .box ([.str b8.Id_, .bool b8.Permit_] ++ (c_T_impl_Head false b8.Principal_) ++ (c_T_impl_Head false b8.Action_) ++ (c_T_impl_Head false b8.Resource_) ++ [.hd 4 (b8.When_.map (c_T_impl_Expr false)).length 0 (b8.When_.map (c_T_impl_Expr false)).length]), .box (c_T_impl_Atom false b16), .box (c_T_impl_Atom false r12)]) (by simp only [show b 3 = false from e3, show b 6 = false from e6, show b 8 = false from (hn 8 rfl), show b 9 = false from (hn 9 rfl), cond_true, cond_false]) rfl (o_loadBx rfl tyS_24 rfl rfl (Nat.le_of_ble_eq_true rfl) rfl) (Eq.trans (b := [.box [.str (ByteArray.mk #[]), .bool false, .int .i64 0, .int .i64 0, .int .i64 0, .str (ByteArray.mk #[]), .str (ByteArray.mk #[]), .str (ByteArray.mk #[]), .int .i64 0, .int .i64 0, .int .i64 0, .str (ByteArray.mk #[]), .str (ByteArray.mk #[]), .str (ByteArray.mk #[]), .int .i64 0, .int .i64 0, .int .i64 0, .str (ByteArray.mk #[]), .str (ByteArray.mk #[]), .str (ByteArray.mk #[]), .nilS], .box [.int .i64 0, .int .i64 0, .str (ByteArray.mk #[]), .str (ByteArray.mk #[])], .box [.int .i64 0, .int .i64 0, .str (ByteArray.mk #[]), .str (ByteArray.mk #[])], .box (c_T_spec_l1Cur b0 b15), .arr .clo 7 (b8.When_.map (c_T_impl_Expr false)), .dead, .dead, .box ([.str b8.Id_, .bool b8.Permit_] ++ (c_T_impl_Head false b8.Principal_) ++ (c_T_impl_Head false b8.Action_) ++ (c_T_impl_Head false b8.Resource_) ++ [.hd 4 (b8.When_.map (c_T_impl_Expr false)).length 0 (b8.When_.map (c_T_impl_Expr false)).length]), .box (c_T_impl_Atom false b16), .box (c_T_impl_Atom false r12)]) (by simp only [show updb b 4 3 = false from (updb_ne rfl).trans e3, show updb b 4 6 = false from (updb_ne rfl).trans e6, show updb b 4 8 = false from (updb_ne rfl).trans (hn 8 rfl), show updb b 4 9 = false from (updb_ne rfl).trans (hn 9 rfl), cond_true, cond_false]) rfl) rfl
      ·exact absurd (hc 6 3 rfl rfl e6) (by rw [e3]; decide)
     ·cases e6 : b 6
      ·exact ops_at (σ1 := [.box [.str (ByteArray.mk #[]), .bool false, .int .i64 0, .int .i64 0, .int .i64 0, .str (ByteArray.mk #[]), .str (ByteArray.mk #[]), .str (ByteArray.mk #[]), .int .i64 0, .int .i64 0, .int .i64 0, .str (ByteArray.mk #[]), .str (ByteArray.mk #[]), .str (ByteArray.mk #[]), .int .i64 0, .int .i64 0, .int .i64 0, .str (ByteArray.mk #[]), .str (ByteArray.mk #[]), .str (ByteArray.mk #[]), .nilS], .box [.int .i64 0, .int .i64 0, .str (ByteArray.mk #[]), .str (ByteArray.mk #[])], .box [.int .i64 0, .int .i64 0, .str (ByteArray.mk #[]), .str (ByteArray.mk #[])], .box (c_T_spec_l1Cur b0 o18), .arr .clo 7 (b8.When_.map (c_T_impl_Expr false)), .dead, .dead, .box ([.str b8.Id_, .bool b8.Permit_] ++ (c_T_impl_Head false b8.Principal_) ++ (c_T_impl_Head false b8.Action_) ++ (c_T_impl_Head false b8.Resource_) ++ [.hd 4 (b8.When_.map (c_T_impl_Expr false)).length 0 (b8.When_.map (c_T_impl_Expr false)).length]), .box (c_T_impl_Atom false b16), .box (c_T_impl_Atom false r12)]) (by simp only [show b 3 = true from e3, show b 6 = false from e6, show b 8 = false from (hn 8 rfl), show b 9 = false from (hn 9 rfl), cond_true, cond_false]) rfl (o_loadBx rfl tyS_24 rfl rfl (Nat.le_of_ble_eq_true rfl) rfl) (Eq.trans (b := [.box [.str (ByteArray.mk #[]), .bool false, .int .i64 0, .int .i64 0, .int .i64 0, .str (ByteArray.mk #[]), .str (ByteArray.mk #[]), .str (ByteArray.mk #[]), .int .i64 0, .int .i64 0, .int .i64 0, .str (ByteArray.mk #[]), .str (ByteArray.mk #[]), .str (ByteArray.mk #[]), .int .i64 0, .int .i64 0, .int .i64 0, .str (ByteArray.mk #[]), .str (ByteArray.mk #[]), .str (ByteArray.mk #[]), .nilS], .box [.int .i64 0, .int .i64 0, .str (ByteArray.mk #[]), .str (ByteArray.mk #[])], .box [.int .i64 0, .int .i64 0, .str (ByteArray.mk #[]), .str (ByteArray.mk #[])], .box (c_T_spec_l1Cur b0 o18), .arr .clo 7 (b8.When_.map (c_T_impl_Expr false)), .dead, .dead, .box ([.str b8.Id_, .bool b8.Permit_] ++ (c_T_impl_Head false b8.Principal_) ++ (c_T_impl_Head false b8.Action_) ++ (c_T_impl_Head false b8.Resource_) ++ [.hd 4 (b8.When_.map (c_T_impl_Expr false)).length 0 (b8.When_.map (c_T_impl_Expr false)).length]), .box (c_T_impl_Atom false b16), .box (c_T_impl_Atom false r12)]) (by simp only [show updb b 4 3 = true from (updb_ne rfl).trans e3, show updb b 4 6 = false from (updb_ne rfl).trans e6, show updb b 4 8 = false from (updb_ne rfl).trans (hn 8 rfl), show updb b 4 9 = false from (updb_ne rfl).trans (hn 9 rfl), cond_true, cond_false]) rfl) rfl
      ·exact ops_at (σ1 := [.box ([.str b8.Id_, .bool b8.Permit_] ++ (c_T_impl_Head false b8.Principal_) ++ (c_T_impl_Head false b8.Action_) ++ (c_T_impl_Head false b8.Resource_) ++ [.hd 4 (b8.When_.map (c_T_impl_Expr false)).length 0 (b8.When_.map (c_T_impl_Expr false)).length]), .box [.int .i64 0, .int .i64 0, .str (ByteArray.mk #[]), .str (ByteArray.mk #[])], .box [.int .i64 0, .int .i64 0, .str (ByteArray.mk #[]), .str (ByteArray.mk #[])], .box (c_T_spec_l1Cur b0 o18), .arr .clo 7 (b8.When_.map (c_T_impl_Expr false)), .dead, .dead, .box ([.str b8.Id_, .bool b8.Permit_] ++ (c_T_impl_Head false b8.Principal_) ++ (c_T_impl_Head false b8.Action_) ++ (c_T_impl_Head false b8.Resource_) ++ [.hd 4 (b8.When_.map (c_T_impl_Expr false)).length 0 (b8.When_.map (c_T_impl_Expr false)).length]), .box (c_T_impl_Atom false b16), .box (c_T_impl_Atom false r12)]) (by simp only [show b 3 = true from e3, show b 6 = true from e6, show b 8 = false from (hn 8 rfl), show b 9 = false from (hn 9 rfl), cond_true, cond_false]) rfl (o_loadBx rfl tyS_24 rfl rfl (Nat.le_of_ble_eq_true rfl) rfl) (Eq.trans (b := [.box ([.str b8.Id_, .bool b8.Permit_] ++ (c_T_impl_Head false b8.Principal_) ++ (c_T_impl_Head false b8.Action_) ++ (c_T_impl_Head false b8.Resource_) ++ [.hd 4 (b8.When_.map (c_T_impl_Expr false)).length 0 (b8.When_.map (c_T_impl_Expr false)).length]), .box [.int .i64 0, .int .i64 0, .str (ByteArray.mk #[]), .str (ByteArray.mk #[])], .box [.int .i64 0, .int .i64 0, .str (ByteArray.mk #[]), .str (ByteArray.mk #[])], .box (c_T_spec_l1Cur b0 o18), .arr .clo 7 (b8.When_.map (c_T_impl_Expr false)), .dead, .dead, .box ([.str b8.Id_, .bool b8.Permit_] ++ (c_T_impl_Head false b8.Principal_) ++ (c_T_impl_Head false b8.Action_) ++ (c_T_impl_Head false b8.Resource_) ++ [.hd 4 (b8.When_.map (c_T_impl_Expr false)).length 0 (b8.When_.map (c_T_impl_Expr false)).length]), .box (c_T_impl_Atom false b16), .box (c_T_impl_Atom false r12)]) (by simp only [show updb b 4 3 = true from (updb_ne rfl).trans e3, show updb b 4 6 = true from (updb_ne rfl).trans e6, show updb b 4 8 = false from (updb_ne rfl).trans (hn 8 rfl), show updb b 4 9 = false from (updb_ne rfl).trans (hn 9 rfl), cond_true, cond_false]) rfl) rfl
    refine .cons _ _ _ _ _ ⟨rfl, [(9, .bx 9 0)], AllN.get rfl (.cons rfl .nil), fun b hd hn hk hc => ?_⟩ ?_
    ·cases e3 : b 3
     ·cases e6 : b 6
      ·cases e8 : b 8
       ·exact ops_at (σ1 := [.box [.str (ByteArray.mk #[]), .bool false, .int .i64 0, .int .i64 0, .int .i64 0, .str (ByteArray.mk #[]), .str (ByteArray.mk #[]), .str (ByteArray.mk #[]), .int .i64 0, .int .i64 0, .int .i64 0, .str (ByteArray.mk #[]), .str (ByteArray.mk #[]), .str (ByteArray.mk #[]), .int .i64 0, .int .i64 0, .int .i64 0, .str (ByteArray.mk #[]), .str (ByteArray.mk #[]), .str (ByteArray.mk #[]), .nilS], .box [.int .i64 0, .int .i64 0, .str (ByteArray.mk #[]), .str (ByteArray.mk #[])], .box [.int .i64 0, .int .i64 0, .str (ByteArray.mk #[]), .str (ByteArray.mk #[])], .box (c_T_spec_l1Cur b0 b15), .arr .clo 7 (b8.When_.map (c_T_impl_Expr false)), .dead, .dead, .box ([.str b8.Id_, .bool b8.Permit_] ++ (c_T_impl_Head false b8.Principal_) ++ (c_T_impl_Head false b8.Action_) ++ (c_T_impl_Head false b8.Resource_) ++ [.hd 4 (b8.When_.map (c_T_impl_Expr false)).length 0 (b8.When_.map (c_T_impl_Expr false)).length]), .box (c_T_impl_Atom false b16), .box (c_T_impl_Atom false r12)]) (by simp only [show b 3 = false from e3, show b 6 = false from e6, show b 8 = false from e8, show b 9 = false from (hn 9 rfl), cond_true, cond_false]) rfl (o_loadBx rfl tyS_24 rfl rfl (Nat.le_of_ble_eq_true rfl) rfl) (Eq.trans (b := [.box [.str (ByteArray.mk #[]), .bool false, .int .i64 0, .int .i64 0, .int .i64 0, .str (ByteArray.mk #[]), .str (ByteArray.mk #[]), .str (ByteArray.mk #[]), .int .i64 0, .int .i64 0, .int .i64 0, .str (ByteArray.mk #[]), .str (ByteArray.mk #[]), .str (ByteArray.mk #[]), .int .i64 0, .int .i64 0, .int .i64 0, .str (ByteArray.mk #[]), .str (ByteArray.mk #[]), .str (ByteArray.mk #[]), .nilS], .box [.int .i64 0, .int .i64 0, .str (ByteArray.mk #[]), .str (ByteArray.mk #[])], .box [.int .i64 0, .int .i64 0, .str (ByteArray.mk #[]), .str (ByteArray.mk #[])], .box (c_T_spec_l1Cur b0 b15), .arr .clo 7 (b8.When_.map (c_T_impl_Expr false)), .dead, .dead, .box ([.str b8.Id_, .bool b8.Permit_] ++ (c_T_impl_Head false b8.Principal_) ++ (c_T_impl_Head false b8.Action_) ++ (c_T_impl_Head false b8.Resource_) ++ [.hd 4 (b8.When_.map (c_T_impl_Expr false)).length 0 (b8.When_.map (c_T_impl_Expr false)).length]), .box (c_T_impl_Atom false b16), .box (c_T_impl_Atom false r12)]) (by simp only [show updb b 5 3 = false from (updb_ne rfl).trans e3, show updb b 5 6 = false from (updb_ne rfl).trans e6, show updb b 5 8 = false from (updb_ne rfl).trans e8, show updb b 5 9 = false from (updb_ne rfl).trans (hn 9 rfl), cond_true, cond_false]) rfl) rfl
       ·exact absurd (hc 8 3 rfl rfl e8) (by rw [e3]; decide)
      ·cases e8 : b 8
       ·exact absurd (hc 6 3 rfl rfl e6) (by rw [e3]; decide)
       ·exact absurd (hc 6 3 rfl rfl e6) (by rw [e3]; decide)
     ·cases e6 : b 6
      ·cases e8 : b 8
       ·exact ops_at (σ1 := [.box [.str (ByteArray.mk #[]), .bool false, .int .i64 0, .int .i64 0, .int .i64 0, .str (ByteArray.mk #[]), .str (ByteArray.mk #[]), .str (ByteArray.mk #[]), .int .i64 0, .int .i64 0, .int .i64 0, .str (ByteArray.mk #[]), .str (ByteArray.mk #[]), .str (ByteArray.mk #[]), .int .i64 0, .int .i64 0, .int .i64 0, .str (ByteArray.mk #[]), .str (ByteArray.mk #[]), .str (ByteArray.mk #[]), .nilS], .box [.int .i64 0, .int .i64 0, .str (ByteArray.mk #[]), .str (ByteArray.mk #[])], .box [.int .i64 0, .int .i64 0, .str (ByteArray.mk #[]), .str (ByteArray.mk #[])], .box (c_T_spec_l1Cur b0 o18), .arr .clo 7 (b8.When_.map (c_T_impl_Expr false)), .dead, .dead, .box ([.str b8.Id_, .bool b8.Permit_] ++ (c_T_impl_Head false b8.Principal_) ++ (c_T_impl_Head false b8.Action_) ++ (c_T_impl_Head false b8.Resource_) ++ [.hd 4 (b8.When_.map (c_T_impl_Expr false)).length 0 (b8.When_.map (c_T_impl_Expr false)).length]), .box (c_T_impl_Atom false b16), .box (c_T_impl_Atom false r12)]) (by simp only [show b 3 = true from e3, show b 6 = false from e6, show b 8 = false from e8, show b 9 = false from (hn 9 rfl), cond_true, cond_false]) rfl (o_loadBx rfl tyS_24 rfl rfl (Nat.le_of_ble_eq_true rfl) rfl) (Eq.trans (b := [.box [.str (ByteArray.mk #[]), .bool false, .int .i64 0, .int .i64 0, .int .i64 0, .str (ByteArray.mk #[]), .str (ByteArray.mk #[]), .str (ByteArray.mk #[]), .int .i64 0, .int .i64 0, .int .i64 0, .str (ByteArray.mk #[]), .str (ByteArray.mk #[]), .str (ByteArray.mk #[]), .int .i64 0, .int .i64 0, .int .i64 0, .str (ByteArray.mk #[]), .str (ByteArray.mk #[]), .str (ByteArray.mk #[]), .nilS], .box [.int .i64 0, .int .i64 0, .str (ByteArray.mk #[]), .str (ByteArray.mk #[])], .box [.int .i64 0, .int .i64 0, .str (ByteArray.mk #[]), .str (ByteArray.mk #[])], .box (c_T_spec_l1Cur b0 o18), .arr .clo 7 (b8.When_.map (c_T_impl_Expr false)), .dead, .dead, .box ([.str b8.Id_, .bool b8.Permit_] ++ (c_T_impl_Head false b8.Principal_) ++ (c_T_impl_Head false b8.Action_) ++ (c_T_impl_Head false b8.Resource_) ++ [.hd 4 (b8.When_.map (c_T_impl_Expr false)).length 0 (b8.When_.map (c_T_impl_Expr false)).length]), .box (c_T_impl_Atom false b16), .box (c_T_impl_Atom false r12)]) (by simp only [show updb b 5 3 = true from (updb_ne rfl).trans e3, show updb b 5 6 = false from (updb_ne rfl).trans e6, show updb b 5 8 = false from (updb_ne rfl).trans e8, show updb b 5 9 = false from (updb_ne rfl).trans (hn 9 rfl), cond_true, cond_false]) rfl) rfl
       ·exact absurd (hc 8 6 rfl rfl e8) (by rw [e6]; decide)
      ·cases e8 : b 8
       ·exact ops_at (σ1 := [.box ([.str b8.Id_, .bool b8.Permit_] ++ (c_T_impl_Head false b8.Principal_) ++ (c_T_impl_Head false b8.Action_) ++ (c_T_impl_Head false b8.Resource_) ++ [.hd 4 (b8.When_.map (c_T_impl_Expr false)).length 0 (b8.When_.map (c_T_impl_Expr false)).length]), .box [.int .i64 0, .int .i64 0, .str (ByteArray.mk #[]), .str (ByteArray.mk #[])], .box [.int .i64 0, .int .i64 0, .str (ByteArray.mk #[]), .str (ByteArray.mk #[])], .box (c_T_spec_l1Cur b0 o18), .arr .clo 7 (b8.When_.map (c_T_impl_Expr false)), .dead, .dead, .box ([.str b8.Id_, .bool b8.Permit_] ++ (c_T_impl_Head false b8.Principal_) ++ (c_T_impl_Head false b8.Action_) ++ (c_T_impl_Head false b8.Resource_) ++ [.hd 4 (b8.When_.map (c_T_impl_Expr false)).length 0 (b8.When_.map (c_T_impl_Expr false)).length]), .box (c_T_impl_Atom false b16), .box (c_T_impl_Atom false r12)]) (by simp only [show b 3 = true from e3, show b 6 = true from e6, show b 8 = false from e8, show b 9 = false from (hn 9 rfl), cond_true, cond_false]) rfl (o_loadBx rfl tyS_24 rfl rfl (Nat.le_of_ble_eq_true rfl) rfl) (Eq.trans (b := [.box ([.str b8.Id_, .bool b8.Permit_] ++ (c_T_impl_Head false b8.Principal_) ++ (c_T_impl_Head false b8.Action_) ++ (c_T_impl_Head false b8.Resource_) ++ [.hd 4 (b8.When_.map (c_T_impl_Expr false)).length 0 (b8.When_.map (c_T_impl_Expr false)).length]), .box [.int .i64 0, .int .i64 0, .str (ByteArray.mk #[]), .str (ByteArray.mk #[])], .box [.int .i64 0, .int .i64 0, .str (ByteArray.mk #[]), .str (ByteArray.mk #[])], .box (c_T_spec_l1Cur b0 o18), .arr .clo 7 (b8.When_.map (c_T_impl_Expr false)), .dead, .dead, .box ([.str b8.Id_, .bool b8.Permit_] ++ (c_T_impl_Head false b8.Principal_) ++ (c_T_impl_Head false b8.Action_) ++ (c_T_impl_Head false b8.Resource_) ++ [.hd 4 (b8.When_.map (c_T_impl_Expr false)).length 0 (b8.When_.map (c_T_impl_Expr false)).length]), .box (c_T_impl_Atom false b16), .box (c_T_impl_Atom false r12)]) (by simp only [show updb b 5 3 = true from (updb_ne rfl).trans e3, show updb b 5 6 = true from (updb_ne rfl).trans e6, show updb b 5 8 = false from (updb_ne rfl).trans e8, show updb b 5 9 = false from (updb_ne rfl).trans (hn 9 rfl), cond_true, cond_false]) rfl) rfl
       ·exact ops_at (σ1 := [.box ([.str b8.Id_, .bool b8.Permit_] ++ (c_T_impl_Head false b8.Principal_) ++ (c_T_impl_Head false b8.Action_) ++ (c_T_impl_Head false b8.Resource_) ++ [.hd 4 (b8.When_.map (c_T_impl_Expr false)).length 0 (b8.When_.map (c_T_impl_Expr false)).length]), .box (c_T_impl_Atom false b16), .box [.int .i64 0, .int .i64 0, .str (ByteArray.mk #[]), .str (ByteArray.mk #[])], .box (c_T_spec_l1Cur b0 o18), .arr .clo 7 (b8.When_.map (c_T_impl_Expr false)), .dead, .dead, .box ([.str b8.Id_, .bool b8.Permit_] ++ (c_T_impl_Head false b8.Principal_) ++ (c_T_impl_Head false b8.Action_) ++ (c_T_impl_Head false b8.Resource_) ++ [.hd 4 (b8.When_.map (c_T_impl_Expr false)).length 0 (b8.When_.map (c_T_impl_Expr false)).length]), .box (c_T_impl_Atom false b16), .box (c_T_impl_Atom false r12)]) (by simp only [show b 3 = true from e3, show b 6 = true from e6, show b 8 = true from e8, show b 9 = false from (hn 9 rfl), cond_true, cond_false]) rfl (o_loadBx rfl tyS_24 rfl rfl (Nat.le_of_ble_eq_true rfl) rfl) (Eq.trans (b := [.box ([.str b8.Id_, .bool b8.Permit_] ++ (c_T_impl_Head false b8.Principal_) ++ (c_T_impl_Head false b8.Action_) ++ (c_T_impl_Head false b8.Resource_) ++ [.hd 4 (b8.When_.map (c_T_impl_Expr false)).length 0 (b8.When_.map (c_T_impl_Expr false)).length]), .box (c_T_impl_Atom false b16), .box [.int .i64 0, .int .i64 0, .str (ByteArray.mk #[]), .str (ByteArray.mk #[])], .box (c_T_spec_l1Cur b0 o18), .arr .clo 7 (b8.When_.map (c_T_impl_Expr false)), .dead, .dead, .box ([.str b8.Id_, .bool b8.Permit_] ++ (c_T_impl_Head false b8.Principal_) ++ (c_T_impl_Head false b8.Action_) ++ (c_T_impl_Head false b8.Resource_) ++ [.hd 4 (b8.When_.map (c_T_impl_Expr false)).length 0 (b8.When_.map (c_T_impl_Expr false)).length]), .box (c_T_impl_Atom false b16), .box (c_T_impl_Atom false r12)]) (by simp only [show updb b 5 3 = true from (updb_ne rfl).trans e3, show updb b 5 6 = true from (updb_ne rfl).trans e6, show updb b 5 8 = true from (updb_ne rfl).trans e8, show updb b 5 9 = false from (updb_ne rfl).trans (hn 9 rfl), cond_true, cond_false]) rfl) rfl
    refine .cons _ _ _ _ _ ⟨rfl, [(2, .bx 0 0), (33, .agg ([.str b8.Id_, .bool b8.Permit_] ++ (c_T_impl_Head false b8.Principal_) ++ (c_T_impl_Head false b8.Action_) ++ (c_T_impl_Head false b8.Resource_) ++ [.hd 4 (b8.When_.map (c_T_impl_Expr false)).length 0 (b8.When_.map (c_T_impl_Expr false)).length]))], AllN.get rfl (.cons rfl (.cons rfl .nil)), fun b hd hn hk hc => ?_⟩ ?_
    ·exact ops_at (σ1 := [.box [.str (ByteArray.mk #[]), .bool false, .int .i64 0, .int .i64 0, .int .i64 0, .str (ByteArray.mk #[]), .str (ByteArray.mk #[]), .str (ByteArray.mk #[]), .int .i64 0, .int .i64 0, .int .i64 0, .str (ByteArray.mk #[]), .str (ByteArray.mk #[]), .str (ByteArray.mk #[]), .int .i64 0, .int .i64 0, .int .i64 0, .str (ByteArray.mk #[]), .str (ByteArray.mk #[]), .str (ByteArray.mk #[]), .nilS], .box [.int .i64 0, .int .i64 0, .str (ByteArray.mk #[]), .str (ByteArray.mk #[])], .box [.int .i64 0, .int .i64 0, .str (ByteArray.mk #[]), .str (ByteArray.mk #[])], .box (c_T_spec_l1Cur b0 o18), .arr .clo 7 (b8.When_.map (c_T_impl_Expr false)), .dead, .dead, .box ([.str b8.Id_, .bool b8.Permit_] ++ (c_T_impl_Head false b8.Principal_) ++ (c_T_impl_Head false b8.Action_) ++ (c_T_impl_Head false b8.Resource_) ++ [.hd 4 (b8.When_.map (c_T_impl_Expr false)).length 0 (b8.When_.map (c_T_impl_Expr false)).length]), .box (c_T_impl_Atom false b16), .box (c_T_impl_Atom false r12)]) (by simp only [show b 3 = true from (hd 3 rfl), show b 6 = false from hk, show b 8 = false from (hn 8 rfl), show b 9 = false from (hn 9 rfl), cond_true, cond_false]) rfl (o_storeBx rfl tyS_29 rfl rfl rfl rfl (Nat.le_of_ble_eq_true rfl) (sure_c rfl (sure_c rfl (sure_c rfl (sure_c rfl (sure_c rfl (sure_c rfl (sure_c rfl (sure_c rfl (sure_c rfl (sure_c rfl (sure_c rfl (sure_c rfl (sure_c rfl (sure_c rfl (sure_c rfl (sure_c rfl (sure_c rfl (sure_c rfl (sure_c rfl (sure_c rfl (sure_hd rfl rfl rfl)))))))))))))))))))))) (Eq.trans (b := [.box ([.str b8.Id_, .bool b8.Permit_] ++ (c_T_impl_Head false b8.Principal_) ++ (c_T_impl_Head false b8.Action_) ++ (c_T_impl_Head false b8.Resource_) ++ [.hd 4 (b8.When_.map (c_T_impl_Expr false)).length 0 (b8.When_.map (c_T_impl_Expr false)).length]), .box [.int .i64 0, .int .i64 0, .str (ByteArray.mk #[]), .str (ByteArray.mk #[])], .box [.int .i64 0, .int .i64 0, .str (ByteArray.mk #[]), .str (ByteArray.mk #[])], .box (c_T_spec_l1Cur b0 o18), .arr .clo 7 (b8.When_.map (c_T_impl_Expr false)), .dead, .dead, .box ([.str b8.Id_, .bool b8.Permit_] ++ (c_T_impl_Head false b8.Principal_) ++ (c_T_impl_Head false b8.Action_) ++ (c_T_impl_Head false b8.Resource_) ++ [.hd 4 (b8.When_.map (c_T_impl_Expr false)).length 0 (b8.When_.map (c_T_impl_Expr false)).length]), .box (c_T_impl_Atom false b16), .box (c_T_impl_Atom false r12)]) (by simp only [show updb b 6 3 = true from (updb_ne rfl).trans (hd 3 rfl), show updb b 6 6 = true from updb_self, show updb b 6 8 = false from (updb_ne rfl).trans (hn 8 rfl), show updb b 6 9 = false from (updb_ne rfl).trans (hn 9 rfl), cond_true, cond_false]) rfl) rfl
    refine .cons _ _ _ _ _ ⟨rfl, [(36, .str r17)], AllN.get rfl (.cons rfl .nil), fun b hd hn hk hc => ?_⟩ ?_
    ·exact ops_at (σ1 := [.box ([.str b8.Id_, .bool b8.Permit_] ++ (c_T_impl_Head false b8.Principal_) ++ (c_T_impl_Head false b8.Action_) ++ (c_T_impl_Head false b8.Resource_) ++ [.hd 4 (b8.When_.map (c_T_impl_Expr false)).length 0 (b8.When_.map (c_T_impl_Expr false)).length]), .box [.int .i64 0, .int .i64 0, .str (ByteArray.mk #[]), .str (ByteArray.mk #[])], .box [.int .i64 0, .int .i64 0, .str (ByteArray.mk #[]), .str (ByteArray.mk #[])], .box (c_T_spec_l1Cur b0 o18), .arr .clo 7 (b8.When_.map (c_T_impl_Expr false)), .dead, .dead, .box ([.str b8.Id_, .bool b8.Permit_] ++ (c_T_impl_Head false b8.Principal_) ++ (c_T_impl_Head false b8.Action_) ++ (c_T_impl_Head false b8.Resource_) ++ [.hd 4 (b8.When_.map (c_T_impl_Expr false)).length 0 (b8.When_.map (c_T_impl_Expr false)).length]), .box (c_T_impl_Atom false b16), .box (c_T_impl_Atom false r12)]) (by simp only [show b 3 = true from (hd 3 rfl), show b 6 = true from (hd 6 rfl), show b 8 = false from (hn 8 rfl), show b 9 = false from (hn 9 rfl), cond_true, cond_false]) rfl (o_assign rfl rfl) (Eq.trans (b := [.box ([.str b8.Id_, .bool b8.Permit_] ++ (c_T_impl_Head false b8.Principal_) ++ (c_T_impl_Head false b8.Action_) ++ (c_T_impl_Head false b8.Resource_) ++ [.hd 4 (b8.When_.map (c_T_impl_Expr false)).length 0 (b8.When_.map (c_T_impl_Expr false)).length]), .box [.int .i64 0, .int .i64 0, .str (ByteArray.mk #[]), .str (ByteArray.mk #[])], .box [.int .i64 0, .int .i64 0, .str (ByteArray.mk #[]), .str (ByteArray.mk #[])], .box (c_T_spec_l1Cur b0 o18), .arr .clo 7 (b8.When_.map (c_T_impl_Expr false)), .dead, .dead, .box ([.str b8.Id_, .bool b8.Permit_] ++ (c_T_impl_Head false b8.Principal_) ++ (c_T_impl_Head false b8.Action_) ++ (c_T_impl_Head false b8.Resource_) ++ [.hd 4 (b8.When_.map (c_T_impl_Expr false)).length 0 (b8.When_.map (c_T_impl_Expr false)).length]), .box (c_T_impl_Atom false b16), .box (c_T_impl_Atom false r12)]) (by simp only [show updb b 7 3 = true from (updb_ne rfl).trans (hd 3 rfl), show updb b 7 6 = true from (updb_ne rfl).trans (hd 6 rfl), show updb b 7 8 = false from (updb_ne rfl).trans (hn 8 rfl), show updb b 7 9 = false from (updb_ne rfl).trans (hn 9 rfl), cond_true, cond_false]) rfl) rfl
    refine .cons _ _ _ _ _ ⟨rfl, [(4, .bx 1 0), (37, .agg (c_T_impl_Atom false b16))], AllN.get rfl (.cons rfl (.cons rfl .nil)), fun b hd hn hk hc => ?_⟩ ?_
    ·exact ops_at (σ1 := [.box ([.str b8.Id_, .bool b8.Permit_] ++ (c_T_impl_Head false b8.Principal_) ++ (c_T_impl_Head false b8.Action_) ++ (c_T_impl_Head false b8.Resource_) ++ [.hd 4 (b8.When_.map (c_T_impl_Expr false)).length 0 (b8.When_.map (c_T_impl_Expr false)).length]), .box [.int .i64 0, .int .i64 0, .str (ByteArray.mk #[]), .str (ByteArray.mk #[])], .box [.int .i64 0, .int .i64 0, .str (ByteArray.mk #[]), .str (ByteArray.mk #[])], .box (c_T_spec_l1Cur b0 o18), .arr .clo 7 (b8.When_.map (c_T_impl_Expr false)), .dead, .dead, .box ([.str b8.Id_, .bool b8.Permit_] ++ (c_T_impl_Head false b8.Principal_) ++ (c_T_impl_Head false b8.Action_) ++ (c_T_impl_Head false b8.Resource_) ++ [.hd 4 (b8.When_.map (c_T_impl_Expr false)).length 0 (b8.When_.map (c_T_impl_Expr false)).length]), .box (c_T_impl_Atom false b16), .box (c_T_impl_Atom false r12)]) (by simp only [show b 3 = true from (hd 3 rfl), show b 6 = true from (hd 6 rfl), show b 8 = false from hk, show b 9 = false from (hn 9 rfl), cond_true, cond_false]) rfl (o_storeBx rfl tyS_24 rfl rfl rfl rfl (Nat.le_of_ble_eq_true rfl) rfl) (Eq.trans (b := [.box ([.str b8.Id_, .bool b8.Permit_] ++ (c_T_impl_Head false b8.Principal_) ++ (c_T_impl_Head false b8.Action_) ++ (c_T_impl_Head false b8.Resource_) ++ [.hd 4 (b8.When_.map (c_T_impl_Expr false)).length 0 (b8.When_.map (c_T_impl_Expr false)).length]), .box (c_T_impl_Atom false b16), .box [.int .i64 0, .int .i64 0, .str (ByteArray.mk #[]), .str (ByteArray.mk #[])], .box (c_T_spec_l1Cur b0 o18), .arr .clo 7 (b8.When_.map (c_T_impl_Expr false)), .dead, .dead, .box ([.str b8.Id_, .bool b8.Permit_] ++ (c_T_impl_Head false b8.Principal_) ++ (c_T_impl_Head false b8.Action_) ++ (c_T_impl_Head false b8.Resource_) ++ [.hd 4 (b8.When_.map (c_T_impl_Expr false)).length 0 (b8.When_.map (c_T_impl_Expr false)).length]), .box (c_T_impl_Atom false b16), .box (c_T_impl_Atom false r12)]) (by simp only [show updb b 8 3 = true from (updb_ne rfl).trans (hd 3 rfl), show updb b 8 6 = true from (updb_ne rfl).trans (hd 6 rfl), show updb b 8 8 = true from updb_self, show updb b 8 9 = false from (updb_ne rfl).trans (hn 9 rfl), cond_true, cond_false]) rfl) rfl
    refine .cons _ _ _ _ _ ⟨rfl, [(5, .bx 2 0), (38, .agg (c_T_impl_Atom false r12))], AllN.get rfl (.cons rfl (.cons rfl .nil)), fun b hd hn hk hc => ?_⟩ ?_
    ·exact ops_at (σ1 := [.box ([.str b8.Id_, .bool b8.Permit_] ++ (c_T_impl_Head false b8.Principal_) ++ (c_T_impl_Head false b8.Action_) ++ (c_T_impl_Head false b8.Resource_) ++ [.hd 4 (b8.When_.map (c_T_impl_Expr false)).length 0 (b8.When_.map (c_T_impl_Expr false)).length]), .box (c_T_impl_Atom false b16), .box [.int .i64 0, .int .i64 0, .str (ByteArray.mk #[]), .str (ByteArray.mk #[])], .box (c_T_spec_l1Cur b0 o18), .arr .clo 7 (b8.When_.map (c_T_impl_Expr false)), .dead, .dead, .box ([.str b8.Id_, .bool b8.Permit_] ++ (c_T_impl_Head false b8.Principal_) ++ (c_T_impl_Head false b8.Action_) ++ (c_T_impl_Head false b8.Resource_) ++ [.hd 4 (b8.When_.map (c_T_impl_Expr false)).length 0 (b8.When_.map (c_T_impl_Expr false)).length]), .box (c_T_impl_Atom false b16), .box (c_T_impl_Atom false r12)]) (by simp only [show b 3 = true from (hd 3 rfl), show b 6 = true from (hd 6 rfl), show b 8 = true from (hd 8 rfl), show b 9 = false from hk, cond_true, cond_false]) rfl (o_storeBx rfl tyS_24 rfl rfl rfl rfl (Nat.le_of_ble_eq_true rfl) rfl) (Eq.trans (b := [.box ([.str b8.Id_, .bool b8.Permit_] ++ (c_T_impl_Head false b8.Principal_) ++ (c_T_impl_Head false b8.Action_) ++ (c_T_impl_Head false b8.Resource_) ++ [.hd 4 (b8.When_.map (c_T_impl_Expr false)).length 0 (b8.When_.map (c_T_impl_Expr false)).length]), .box (c_T_impl_Atom false b16), .box (c_T_impl_Atom false r12), .box (c_T_spec_l1Cur b0 o18), .arr .clo 7 (b8.When_.map (c_T_impl_Expr false)), .dead, .dead, .box ([.str b8.Id_, .bool b8.Permit_] ++ (c_T_impl_Head false b8.Principal_) ++ (c_T_impl_Head false b8.Action_) ++ (c_T_impl_Head false b8.Resource_) ++ [.hd 4 (b8.When_.map (c_T_impl_Expr false)).length 0 (b8.When_.map (c_T_impl_Expr false)).length]), .box (c_T_impl_Atom false b16), .box (c_T_impl_Atom false r12)]) (by simp only [show updb b 9 3 = true from (updb_ne rfl).trans (hd 3 rfl), show updb b 9 6 = true from (updb_ne rfl).trans (hd 6 rfl), show updb b 9 8 = true from (updb_ne rfl).trans (hd 8 rfl), show updb b 9 9 = true from updb_self, cond_true, cond_false]) rfl) rfl
    exact .nil _
   ·intro b b' h; simp only [h 3 (by decide), h 6 (by decide), h 8 (by decide), h 9 (by decide)]
   refine thn_normal (T.ret ?_)
   cases some_i H
   exact ⟨trivial, _, (.cell _ _ _ _ _ _ _ _ _ _ rfl rfl tyS_29 (Nat.le_of_ble_eq_true rfl) rfl (.tmp _ _ _ _ rfl (.cell _ _ _ _ _ _ _ _ _ _ rfl rfl tyS_24 (Nat.le_of_ble_eq_true rfl) rfl (.cell _ _ _ _ _ _ _ _ _ _ rfl rfl tyS_24 (Nat.le_of_ble_eq_true rfl) rfl .nil)))), (.tupL (.cons _ _ _ _ (.aggL (.cons _ _ _ _ (.cl _ rfl) (.cons _ _ _ _ (.cl _ rfl) (.cons _ _ _ _ (.cl _ rfl) (.cons _ _ _ _ (.cl _ rfl) (.cons _ _ _ _ (.cl _ rfl) (.cons _ _ _ _ (.cl _ rfl) (.cons _ _ _ _ (.cl _ rfl) (.cons _ _ _ _ (.cl _ rfl) (.cons _ _ _ _ (.cl _ rfl) (.cons _ _ _ _ (.cl _ rfl) (.cons _ _ _ _ (.cl _ rfl) (.cons _ _ _ _ (.cl _ rfl) (.cons _ _ _ _ (.cl _ rfl) (.cons _ _ _ _ (.cl _ rfl) (.cons _ _ _ _ (.cl _ rfl) (.cons _ _ _ _ (.cl _ rfl) (.cons _ _ _ _ (.cl _ rfl) (.cons _ _ _ _ (.cl _ rfl) (.cons _ _ _ _ (.cl _ rfl) (.cons _ _ _ _ (.cl _ rfl) (.cons _ _ _ _ (.own rfl (by decide) rfl) .nil)))))))))))))))))))))) (.cons _ _ _ _ (.cl _ rfl) (.cons _ _ _ _ (.cl _ rfl) (.cons _ _ _ _ (.cl _ rfl) .nil)))))⟩
theorem en_4 (us : Array Value) (w : World) : (callFunc 4 us).run Go.Proofs.Tryz.prog w = .ok (.enter 4 us) w := enters Go.Proofs.Tryz.func4 rfl rfl us w
noncomputable def impl_yletter (a0 : Int) : Option Bool :=
  some ((decide (a0 ≥ 97) && decide (a0 ≤ 122)) || (decide (a0 ≥ 65) && decide (a0 ≤ 90)))
theorem impl_yletter_p  {a0 : Int} {R0 : Bool} (H : impl_yletter a0 = some R0) : Pure Go.Proofs.Tryz.prog 70 [.int .u8 a0] (.bool R0) := by
 refine CallT.of_TN (n := 17) Go.Proofs.Tryz.func70 rfl rfl rfl rfl ?_
 refine T.seq (T.region (TL.st rfl rfl rfl (o_assign rfl rfl) (TL.nil (thn_normal (T.seq (T.region (TL.st rfl rfl rfl (o_move rfl rfl) (TL.st rfl rfl rfl (o_ari rfl rfl rfl rfl) (TL.st rfl rfl rfl (o_move rfl rfl) (TL.gcq rfl rfl rfl (.bool _) rfl rfl (fun h => o_move rfl rfl) (TL.gcq rfl rfl rfl (.bool _) rfl rfl (fun h => o_ari rfl (gv h rfl) rfl rfl) ?_)))))))))))
 refine TL.st rfl rfl rfl (o_and rfl rfl rfl (fun k => Gd_t k) rfl) (TL.st rfl rfl rfl (o_move rfl rfl) (TL.gcq rfl rfl rfl (.bool _) rfl rfl (fun h => o_move rfl rfl) (TL.gcq rfl rfl rfl (.bool _) rfl rfl (fun h => o_ari rfl (gv h rfl) rfl rfl) ?_)))
 refine TL.gcq rfl rfl rfl (.bool _) rfl rfl (fun h => o_move rfl (gv h rfl)) ?_
 refine TL.gcq rfl rfl rfl (.gd _ _) rfl rfl (fun h => o_move rfl rfl) ?_
 refine TL.gcq rfl rfl rfl (.gd _ _) rfl rfl (fun h => o_ari rfl (gv h rfl) rfl rfl) ?_
 refine TL.gcq rfl rfl rfl (.bool _) rfl rfl (fun h => o_and rfl (gv h rfl) rfl (fun k => Gd_t (andi h k)) rfl) ?_
 refine TL.st rfl rfl rfl (o_or rfl rfl rfl rfl (fun k => Gd_t k)) (TL.st rfl rfl rfl (o_assign rfl rfl) (TL.nil (thn_normal (T.ret ?_))))
 cases some_i H
 exact ⟨trivial, _, (.tmp _ _ _ _ rfl .nil), (.cl _ rfl)⟩
theorem en_70 (us : Array Value) (w : World) : (callFunc 70 us).run Go.Proofs.Tryz.prog w = .ok (.enter 70 us) w := enters Go.Proofs.Tryz.func70 rfl rfl us w
noncomputable def impl_ydigit (a0 : Int) : Option Bool :=
  some (decide (a0 ≥ 48) && decide (a0 ≤ 57))
theorem impl_ydigit_p  {a0 : Int} {R0 : Bool} (H : impl_ydigit a0 = some R0) : Pure Go.Proofs.Tryz.prog 71 [.int .u8 a0] (.bool R0) := by
 refine CallT.of_TN (n := 9) Go.Proofs.Tryz.func71 rfl rfl rfl rfl ?_
 refine T.seq (T.region (TL.st rfl rfl rfl (o_assign rfl rfl) (TL.nil (thn_normal (T.seq (T.region (TL.st rfl rfl rfl (o_move rfl rfl) (TL.st rfl rfl rfl (o_ari rfl rfl rfl rfl) (TL.st rfl rfl rfl (o_move rfl rfl) (TL.gcq rfl rfl rfl (.bool _) rfl rfl (fun h => o_move rfl rfl) (TL.gcq rfl rfl rfl (.bool _) rfl rfl (fun h => o_ari rfl (gv h rfl) rfl rfl) ?_)))))))))))
 refine TL.st rfl rfl rfl (o_and rfl rfl rfl (fun k => Gd_t k) rfl) (TL.st rfl rfl rfl (o_assign rfl rfl) (TL.nil (thn_normal (T.ret ?_))))
 cases some_i H
 exact ⟨trivial, _, (.tmp _ _ _ _ rfl .nil), (.cl _ rfl)⟩
theorem en_71 (us : Array Value) (w : World) : (callFunc 71 us).run Go.Proofs.Tryz.prog w = .ok (.enter 71 us) w := enters Go.Proofs.Tryz.func71 rfl rfl us w
noncomputable def impl_ywordByte (a0 : Int) : Option Bool :=
  (impl_yletter a0).bind fun r1 => (gdO (!r1) (impl_ydigit a0)).bind fun r3 => some ((r1 || r3) || (a0 == 95))
theorem impl_ywordByte_p  {a0 : Int} {R0 : Bool} (H : impl_ywordByte a0 = some R0) : Pure Go.Proofs.Tryz.prog 44 [.int .u8 a0] (.bool R0) := by
 refine CallT.of_TN (n := 13) Go.Proofs.Tryz.func44 rfl rfl rfl rfl ?_
 refine T.seq (T.region (TL.st rfl rfl rfl (o_assign rfl rfl) (TL.nil (thn_normal (T.seq (T.region (TL.st rfl rfl rfl (o_move rfl rfl) ?_)))))))
 obtain ⟨r1, h2, H⟩ := bind_s H
 refine TL.st rfl rfl rfl (o_callP rfl en_70 rfl rfl (.cons _ _ _ _ (.cl _ rfl) .nil) (impl_yletter_p  h2)) ?_
 refine TL.st rfl rfl rfl (o_move rfl rfl) (TL.gcq rfl rfl rfl (.bool _) rfl rfl (fun h => o_move rfl rfl) ?_)
 obtain ⟨r3, h4, H⟩ := bind_s H
 refine TL.gcq rfl rfl rfl (.bool _) rfl rfl (fun h => o_callP rfl en_71 rfl (evl_1 (gv h rfl)) (.cons _ _ _ _ (.cl _ rfl) .nil) (impl_ydigit_p  (gdO_t h4 h))) ?_
 refine TL.st rfl rfl rfl (o_or rfl rfl rfl rfl (fun k => Gd_t k)) (TL.st rfl rfl rfl (o_move rfl rfl) (TL.gcq rfl rfl rfl (.bool _) rfl rfl (fun h => o_move rfl rfl) (TL.gcq rfl rfl rfl (.bool _) rfl rfl (fun h => o_ari rfl (gv h rfl) rfl rfl) ?_)))
 refine TL.st rfl rfl rfl (o_or rfl rfl rfl rfl (fun k => Gd_t k)) (TL.st rfl rfl rfl (o_assign rfl rfl) (TL.nil (thn_normal (T.ret ?_))))
 cases some_i H
 exact ⟨trivial, _, (.tmp _ _ _ _ rfl .nil), (.cl _ rfl)⟩
theorem en_44 (us : Array Value) (w : World) : (callFunc 44 us).run Go.Proofs.Tryz.prog w = .ok (.enter 44 us) w := enters Go.Proofs.Tryz.func44 rfl rfl us w
noncomputable def impl_ygoodId_l1 (a0 : ByteArray) : Int → Option (Int ⊕ (Unit ⊕ Bool)) := fun s => match s with
  | v1 => cond (decide (v1 < (a0.size : Int))) ((idxS a0 v1).bind fun b4 => (impl_ywordByte b4).bind fun r6 => (gdO (!r6) (idxS a0 v1)).bind fun b8 => (gdO ((!r6) && (b8 != 45)) (idxS a0 v1)).bind fun b10 => cond (((!r6) && (b8 != 45)) && (b10 != 46)) (some (.inr (.inr false))) (some (.inl (IntKind.i64.wrap (v1 + 1))))) (some (.inr (.inl ())))
noncomputable def impl_ygoodId (a0 : ByteArray) : Option Bool :=
  cond (decide ((a0.size : Int) < 1) || decide ((a0.size : Int) > 40)) (some false) ((loopO (impl_ygoodId_l1 a0) 0).bind fun q12 => (match q12 with | .inl _ => some true | .inr q2 => some q2))
theorem impl_ygoodId_p  {a0 : ByteArray} {R0 : Bool} (H : impl_ygoodId a0 = some R0) : Pure Go.Proofs.Tryz.prog 20 [.str a0] (.bool R0) := by
 refine CallT.of_TN (n := 35) Go.Proofs.Tryz.func20 rfl rfl rfl rfl ?_
 refine T.seq (T.region (TL.st rfl rfl rfl (o_assign rfl rfl) (TL.nil (thn_normal (T.seq (T.seq (T.region (TL.st rfl rfl rfl (o_move rfl rfl) (TL.st rfl rfl rfl (o_lenS rfl rfl rfl) ?_)))))))))
 refine TL.st rfl rfl rfl (o_ari rfl rfl rfl rfl) (TL.st rfl rfl rfl (o_move rfl rfl) (TL.gcq rfl rfl rfl (.bool _) rfl rfl (fun h => o_move rfl rfl) (TL.gcq rfl rfl rfl (.bool _) rfl rfl (fun h => o_lenS rfl rfl (gv h rfl)) ?_)))
 refine TL.gcq rfl rfl rfl (.bool _) rfl rfl (fun h => o_ari rfl (gv h rfl) rfl rfl) ?_
 refine TL.st rfl rfl rfl (o_or rfl rfl rfl rfl (fun k => Gd_t k)) (TL.nil (thn_normal ?_))
 refine T.cond ((decide ((a0.size : Int) < 1) || decide ((a0.size : Int) > 40))) rfl (fun h => ?_) (fun h => ?_)
 ·replace H := cond_t h H
  refine T.seq (T.region (TL.st rfl rfl rfl (o_assign rfl rfl) (TL.nil (thn_normal (T.ret (thn_ret ?_))))))
  cases some_i H
  exact ⟨trivial, _, (.tmp _ _ _ _ rfl .nil), (.cl _ rfl)⟩
 ·replace H := cond_f h H
  refine T.skip (thn_normal (T.seq (T.seq (T.region (TL.st rfl rfl rfl (o_move rfl rfl) (TL.st rfl rfl rfl (o_lenS rfl rfl rfl) ?_))))))
  refine TL.st rfl rfl rfl (o_move rfl rfl) (TL.nil (thn_normal (T.block ?_)))
  obtain ⟨q12, h13, H⟩ := bind_s H
  refine T.to (.cons 0 _ (.str a0) _ rfl (.same _) rfl (.cons 13 _ (.int .i64 (a0.size : Int)) _ rfl (.same _) rfl (.cons 14 _ (.int .i64 0) _ rfl (.same _) rfl .nil))) ?_
  refine T.lp (fun s => match s with | v1 => [(0, .str a0), (13, .int .i64 (a0.size : Int)), (14, .int .i64 v1)]) (fun s => match s with | v1 => []) (fun q ex fr σ => match q with | .inl _ => ex = .exit 0 ∧ fr = [] ∧ σ = [] | .inr q2 => ex = .ret ∧ RetN Go.Proofs.Tryz.prog [.tmp 2] (fun v τ => Told τ v (.bool q2)) .ret fr σ) h13 ?_ ?_ ?_ ?_ ?_
  ·rintro v1 y3 H
   refine T.seq (T.region (TL.st rfl rfl rfl (o_ari rfl rfl rfl rfl) (TL.nil (thn_normal (T.seq ?_)))))
   refine T.cond (decide (v1 < (a0.size : Int))) rfl (fun h => ?_) (fun h => ?_)
   ·replace H := cond_t h H
    refine T.skip (thn_normal (T.seq (T.block (T.seq (T.region (TL.st rfl rfl rfl (o_move rfl rfl) (TL.st rfl rfl rfl (o_assign rfl rfl) (TL.nil (thn_normal (T.seq (T.region (TL.st rfl rfl rfl (o_move rfl rfl) (TL.st rfl rfl rfl (o_move rfl rfl) ?_)))))))))))))
    obtain ⟨b4, h5, H⟩ := bind_s H
    refine TL.st rfl rfl rfl (o_ixs rfl rfl rfl rfl h5) ?_
    obtain ⟨r6, h7, H⟩ := bind_s H
    refine TL.st rfl rfl rfl (o_callP rfl en_44 rfl rfl (.cons _ _ _ _ (.cl _ rfl) .nil) (impl_ywordByte_p  h7)) ?_
    refine TL.st rfl rfl rfl (o_not rfl rfl) ?_
    refine TL.st rfl rfl rfl (o_move rfl rfl) (TL.gcq rfl rfl rfl (.bool _) rfl rfl (fun h => o_move rfl rfl) (TL.gcq rfl rfl rfl (.bool _) rfl rfl (fun h => o_move rfl rfl) ?_))
    obtain ⟨b8, h9, H⟩ := bind_s H
    refine TL.gcq rfl rfl rfl (.bool _) rfl rfl (fun h => o_ixs rfl rfl (gv h rfl) (gv h rfl) (gdO_t h9 h)) ?_
    refine TL.gcq rfl rfl rfl (.bool _) rfl rfl (fun h => o_ari rfl (gv h rfl) rfl rfl) ?_
    refine TL.st rfl rfl rfl (o_and rfl rfl rfl (fun k => Gd_t k) rfl) (TL.st rfl rfl rfl (o_move rfl rfl) (TL.gcq rfl rfl rfl (.bool _) rfl rfl (fun h => o_move rfl rfl) (TL.gcq rfl rfl rfl (.bool _) rfl rfl (fun h => o_move rfl rfl) ?_)))
    obtain ⟨b10, h11, H⟩ := bind_s H
    refine TL.gcq rfl rfl rfl (.bool _) rfl rfl (fun h => o_ixs rfl rfl (gv h rfl) (gv h rfl) (gdO_t h11 h)) ?_
    refine TL.gcq rfl rfl rfl (.bool _) rfl rfl (fun h => o_ari rfl (gv h rfl) rfl rfl) ?_
    refine TL.st rfl rfl rfl (o_and rfl rfl rfl (fun k => Gd_t k) rfl) (TL.nil (thn_normal ?_))
    refine T.cond ((((!r6) && (b8 != 45)) && (b10 != 46))) rfl (fun h => ?_) (fun h => ?_)
    ·replace H := cond_t h H
     refine T.seq (T.region (TL.st rfl rfl rfl (o_assign rfl rfl) (TL.nil (thn_normal (T.ret (inB_ret (thn_ret ?_)))))))
     exact Pk.id (thn_ret ⟨.inr false, (some_i H).symm, rfl, ⟨trivial, _, (.tmp _ _ _ _ rfl .nil), (.cl _ rfl)⟩⟩)
    ·replace H := cond_f h H
     refine T.skip (inB_normal (thn_normal (T.region (TL.st rfl rfl rfl (o_ari rfl rfl rfl rfl) (TL.st rfl rfl rfl (o_move rfl rfl) (TL.nil ?_))))))
     exact Pk.go (fr' := [(0, .str a0), (13, .int .i64 (a0.size : Int)), (14, .int .i64 (IntKind.i64.wrap (v1 + 1)))]) (σ' := []) _ rfl rfl trivial (.cons 0 _ (.str a0) _ rfl (.same _) rfl (.cons 13 _ (.int .i64 (a0.size : Int)) _ rfl (.same _) rfl (.cons 14 _ (.int .i64 (IntKind.i64.wrap (v1 + 1))) _ rfl (.same _) rfl .nil))) (thn_normal ⟨(IntKind.i64.wrap (v1 + 1)), (some_i H).symm, rfl, rfl⟩)
   ·replace H := cond_f h H
    refine T.exit (thn_exit ?_)
    exact Pk.go (fr' := []) (σ' := []) _ rfl rfl trivial .nil (thn_exit ⟨.inl (), (some_i H).symm, rfl, rfl, rfl⟩)
  ·rintro v1 v1'; rfl
  ·rintro v1; exact trivial
  ·rintro v1; exact (.cons _ _ _ rfl rfl (.cons _ _ _ rfl rfl (.cons _ _ _ rfl rfl .nil)))
  ·rcases q12 with ⟨⟩ | q2
   ·rintro _ _ _ ⟨rfl, rfl, rfl⟩
    refine inB_here (thn_normal (T.seq (T.region (TL.st rfl rfl rfl (o_assign rfl rfl) (TL.nil (thn_normal (T.ret ?_)))))))
    cases some_i H
    exact ⟨trivial, _, (.tmp _ _ _ _ rfl .nil), (.cl _ rfl)⟩
   ·rintro _ fr1 σ1 ⟨rfl, hr⟩
    refine inB_ret (thn_ret ?_)
    cases some_i H
    exact hr
theorem en_20 (us : Array Value) (w : World) : (callFunc 20 us).run Go.Proofs.Tryz.prog w = .ok (.enter 20 us) w := enters Go.Proofs.Tryz.func20 rfl rfl us w
theorem eqT_24 : ∀ a b : T_impl_Atom, EqT Go.Proofs.Tryz.prog true 10000 24 [] 0 (c_T_impl_Atom false a) (c_T_impl_Atom false b) (a == b) := fun a b => .struct rfl (by kernel_rfl) (.cons (c := [.int .i64 a.Kind_]) (d := [.int .i64 b.Kind_]) rfl rfl tyS_3 rfl rfl (fun _ => rfl) (fun h => Bool.noConfusion h) (fun _ => ne_struct rfl rfl) (.int rfl) (.cons (c := [.int .i64 a.Num_]) (d := [.int .i64 b.Num_]) rfl rfl tyS_3 rfl rfl (fun _ => rfl) (fun h => Bool.noConfusion h) (fun _ => ne_struct rfl rfl) (.int rfl) (.cons (c := [.str a.Text_]) (d := [.str b.Text_]) rfl rfl tyS_9 rfl rfl (fun _ => rfl) (fun h => Bool.noConfusion h) (fun _ => ne_struct rfl rfl) (.str rfl) (.cons (c := [.str a.Type_]) (d := [.str b.Type_]) rfl rfl tyS_9 rfl rfl (fun _ => rfl) (fun h => Bool.noConfusion h) (fun _ => ne_struct rfl rfl) (.str rfl) .nil))))
theorem eqG_24 : Program.eqGuardType Go.Proofs.Tryz.prog Go.Proofs.Tryz.prog.depth 24 = false := by kernel_rfl
noncomputable def impl_yzeroAtom (a0 : T_impl_Atom) : Option Bool :=
  some (a0 == (⟨0, 0, (ByteArray.mk #[]), (ByteArray.mk #[])⟩ : T_impl_Atom))
theorem impl_yzeroAtom_p  {a0 : T_impl_Atom} {R0 : Bool} (H : impl_yzeroAtom a0 = some R0) : Pure Go.Proofs.Tryz.prog 57 [.agg (c_T_impl_Atom false a0)] (.bool R0) := by
 refine CallT.of_TN (n := 6) Go.Proofs.Tryz.func57 rfl rfl rfl rfl ?_
 refine T.seq (T.region (TL.st rfl rfl rfl (o_box rfl rfl rfl) (TL.st rfl rfl rfl (o_assign rfl rfl) (TL.nil (thn_normal (T.seq (T.region (TL.st rfl rfl rfl (o_loadBx rfl tyS_24 rfl rfl (Nat.le_of_ble_eq_true rfl) rfl) ?_))))))))
 refine TL.st rfl rfl rfl (o_build rfl ⟨_, fun _ => rfl, rfl⟩ rfl rfl rfl) ?_
 refine TL.st rfl rfl rfl (o_eqA rfl rfl eqG_24 rfl rfl rfl rfl (eqT_24 a0 (⟨0, 0, (ByteArray.mk #[]), (ByteArray.mk #[])⟩ : T_impl_Atom))) ?_
 refine TL.st rfl rfl rfl (o_assign rfl rfl) (TL.nil (thn_normal (T.ret ?_)))
 cases some_i H
 exact ⟨trivial, _, (.tmp _ _ _ _ rfl .nil), (.cl _ rfl)⟩
theorem en_57 (us : Array Value) (w : World) : (callFunc 57 us).run Go.Proofs.Tryz.prog w = .ok (.enter 57 us) w := enters Go.Proofs.Tryz.func57 rfl rfl us w
noncomputable def impl_yprinted_l1 (a0 : ByteArray) : Int → Option (Int ⊕ (Unit ⊕ Bool)) := fun s => match s with
  | v1 => cond (decide (v1 < (a0.size : Int))) ((idxS a0 v1).bind fun b4 => (gdO (!(decide (b4 < 32))) (idxS a0 v1)).bind fun b6 => cond (decide (b4 < 32) || decide (b6 > 126)) (some (.inr (.inr false))) (some (.inl (IntKind.i64.wrap (v1 + 1))))) (some (.inr (.inl ())))
noncomputable def impl_yprinted (a0 : ByteArray) (a1 : Int) (a2 : Int) : Option Bool :=
  cond (decide ((a0.size : Int) < a1) || decide ((a0.size : Int) > a2)) (some false) ((loopO (impl_yprinted_l1 a0) 0).bind fun q8 => (match q8 with | .inl _ => some true | .inr q2 => some q2))
theorem impl_yprinted_p  {a0 : ByteArray} {a1 : Int} {a2 : Int} {R0 : Bool} (H : impl_yprinted a0 a1 a2 = some R0) : Pure Go.Proofs.Tryz.prog 72 [.str a0, .int .i64 a1, .int .i64 a2] (.bool R0) := by
 refine CallT.of_TN (n := 34) Go.Proofs.Tryz.func72 rfl rfl rfl rfl ?_
 refine T.seq (T.region (TL.st rfl rfl rfl (o_assign rfl rfl) (TL.nil (thn_normal (T.seq (T.seq (T.region (TL.st rfl rfl rfl (o_move rfl rfl) (TL.st rfl rfl rfl (o_lenS rfl rfl rfl) ?_)))))))))
 refine TL.st rfl rfl rfl (o_move rfl rfl) (TL.st rfl rfl rfl (o_ari rfl rfl rfl rfl) (TL.st rfl rfl rfl (o_move rfl rfl) (TL.gcq rfl rfl rfl (.bool _) rfl rfl (fun h => o_move rfl rfl) (TL.gcq rfl rfl rfl (.bool _) rfl rfl (fun h => o_lenS rfl rfl (gv h rfl)) ?_))))
 refine TL.gcq rfl rfl rfl (.bool _) rfl rfl (fun h => o_move rfl rfl) (TL.gcq rfl rfl rfl (.bool _) rfl rfl (fun h => o_ari rfl (gv h rfl) (gv h rfl) rfl) ?_)
 refine TL.st rfl rfl rfl (o_or rfl rfl rfl rfl (fun k => Gd_t k)) (TL.nil (thn_normal ?_))
 refine T.cond ((decide ((a0.size : Int) < a1) || decide ((a0.size : Int) > a2))) rfl (fun h => ?_) (fun h => ?_)
 ·replace H := cond_t h H
  refine T.seq (T.region (TL.st rfl rfl rfl (o_assign rfl rfl) (TL.nil (thn_normal (T.ret (thn_ret ?_))))))
  cases some_i H
  exact ⟨trivial, _, (.tmp _ _ _ _ rfl .nil), (.cl _ rfl)⟩
 ·replace H := cond_f h H
  refine T.skip (thn_normal (T.seq (T.seq (T.region (TL.st rfl rfl rfl (o_move rfl rfl) (TL.st rfl rfl rfl (o_lenS rfl rfl rfl) ?_))))))
  refine TL.st rfl rfl rfl (o_move rfl rfl) (TL.nil (thn_normal (T.block ?_)))
  obtain ⟨q8, h9, H⟩ := bind_s H
  refine T.to (.cons 0 _ (.str a0) _ rfl (.same _) rfl (.cons 19 _ (.int .i64 (a0.size : Int)) _ rfl (.same _) rfl (.cons 20 _ (.int .i64 0) _ rfl (.same _) rfl .nil))) ?_
  refine T.lp (fun s => match s with | v1 => [(0, .str a0), (19, .int .i64 (a0.size : Int)), (20, .int .i64 v1)]) (fun s => match s with | v1 => []) (fun q ex fr σ => match q with | .inl _ => ex = .exit 0 ∧ fr = [] ∧ σ = [] | .inr q2 => ex = .ret ∧ RetN Go.Proofs.Tryz.prog [.tmp 6] (fun v τ => Told τ v (.bool q2)) .ret fr σ) h9 ?_ ?_ ?_ ?_ ?_
  ·rintro v1 y3 H
   refine T.seq (T.region (TL.st rfl rfl rfl (o_ari rfl rfl rfl rfl) (TL.nil (thn_normal (T.seq ?_)))))
   refine T.cond (decide (v1 < (a0.size : Int))) rfl (fun h => ?_) (fun h => ?_)
   ·replace H := cond_t h H
    refine T.skip (thn_normal (T.seq (T.block (T.seq (T.region (TL.st rfl rfl rfl (o_move rfl rfl) (TL.st rfl rfl rfl (o_assign rfl rfl) (TL.nil (thn_normal (T.seq (T.region (TL.st rfl rfl rfl (o_move rfl rfl) (TL.st rfl rfl rfl (o_move rfl rfl) ?_)))))))))))))
    obtain ⟨b4, h5, H⟩ := bind_s H
    refine TL.st rfl rfl rfl (o_ixs rfl rfl rfl rfl h5) ?_
    refine TL.st rfl rfl rfl (o_ari rfl rfl rfl rfl) (TL.st rfl rfl rfl (o_move rfl rfl) (TL.gcq rfl rfl rfl (.bool _) rfl rfl (fun h => o_move rfl rfl) (TL.gcq rfl rfl rfl (.bool _) rfl rfl (fun h => o_move rfl rfl) ?_)))
    obtain ⟨b6, h7, H⟩ := bind_s H
    refine TL.gcq rfl rfl rfl (.bool _) rfl rfl (fun h => o_ixs rfl rfl (gv h rfl) (gv h rfl) (gdO_t h7 h)) ?_
    refine TL.gcq rfl rfl rfl (.bool _) rfl rfl (fun h => o_ari rfl (gv h rfl) rfl rfl) ?_
    refine TL.st rfl rfl rfl (o_or rfl rfl rfl rfl (fun k => Gd_t k)) (TL.nil (thn_normal ?_))
    refine T.cond ((decide (b4 < 32) || decide (b6 > 126))) rfl (fun h => ?_) (fun h => ?_)
    ·replace H := cond_t h H
     refine T.seq (T.region (TL.st rfl rfl rfl (o_assign rfl rfl) (TL.nil (thn_normal (T.ret (inB_ret (thn_ret ?_)))))))
     exact Pk.id (thn_ret ⟨.inr false, (some_i H).symm, rfl, ⟨trivial, _, (.tmp _ _ _ _ rfl .nil), (.cl _ rfl)⟩⟩)
    ·replace H := cond_f h H
     refine T.skip (inB_normal (thn_normal (T.region (TL.st rfl rfl rfl (o_ari rfl rfl rfl rfl) (TL.st rfl rfl rfl (o_move rfl rfl) (TL.nil ?_))))))
     exact Pk.go (fr' := [(0, .str a0), (19, .int .i64 (a0.size : Int)), (20, .int .i64 (IntKind.i64.wrap (v1 + 1)))]) (σ' := []) _ rfl rfl trivial (.cons 0 _ (.str a0) _ rfl (.same _) rfl (.cons 19 _ (.int .i64 (a0.size : Int)) _ rfl (.same _) rfl (.cons 20 _ (.int .i64 (IntKind.i64.wrap (v1 + 1))) _ rfl (.same _) rfl .nil))) (thn_normal ⟨(IntKind.i64.wrap (v1 + 1)), (some_i H).symm, rfl, rfl⟩)
   ·replace H := cond_f h H
    refine T.exit (thn_exit ?_)
    exact Pk.go (fr' := []) (σ' := []) _ rfl rfl trivial .nil (thn_exit ⟨.inl (), (some_i H).symm, rfl, rfl, rfl⟩)
  ·rintro v1 v1'; rfl
  ·rintro v1; exact trivial
  ·rintro v1; exact (.cons _ _ _ rfl rfl (.cons _ _ _ rfl rfl (.cons _ _ _ rfl rfl .nil)))
  ·rcases q8 with ⟨⟩ | q2
   ·rintro _ _ _ ⟨rfl, rfl, rfl⟩
    refine inB_here (thn_normal (T.seq (T.region (TL.st rfl rfl rfl (o_assign rfl rfl) (TL.nil (thn_normal (T.ret ?_)))))))
    cases some_i H
    exact ⟨trivial, _, (.tmp _ _ _ _ rfl .nil), (.cl _ rfl)⟩
   ·rintro _ fr1 σ1 ⟨rfl, hr⟩
    refine inB_ret (thn_ret ?_)
    cases some_i H
    exact hr
theorem en_72 (us : Array Value) (w : World) : (callFunc 72 us).run Go.Proofs.Tryz.prog w = .ok (.enter 72 us) w := enters Go.Proofs.Tryz.func72 rfl rfl us w
noncomputable def impl_GoodName_l1 (a0 : ByteArray) : Int → Option (Int ⊕ (Unit ⊕ Bool)) := fun s => match s with
  | v5 => cond (decide (v5 < (a0.size : Int))) ((idxS a0 v5).bind fun b8 => (impl_ywordByte b8).bind fun r10 => cond (!r10) (some (.inr (.inr false))) (some (.inl (IntKind.i64.wrap (v5 + 1))))) (some (.inr (.inl ())))
noncomputable def impl_GoodName (a0 : ByteArray) : Option Bool :=
  (gdO (!((a0.toList == (ByteArray.mk #[]).toList) || decide ((a0.size : Int) > 30))) (idxS a0 0)).bind fun b1 => (gdO (!((a0.toList == (ByteArray.mk #[]).toList) || decide ((a0.size : Int) > 30))) (impl_ydigit b1)).bind fun r3 => cond (((a0.toList == (ByteArray.mk #[]).toList) || decide ((a0.size : Int) > 30)) || r3) (some false) ((loopO (impl_GoodName_l1 a0) 0).bind fun q12 => (match q12 with | .inl _ => some true | .inr q6 => some q6))
theorem impl_GoodName_p  {a0 : ByteArray} {R0 : Bool} (H : impl_GoodName a0 = some R0) : Pure Go.Proofs.Tryz.prog 58 [.str a0] (.bool R0) := by
 refine CallT.of_TN (n := 27) Go.Proofs.Tryz.func58 rfl rfl rfl rfl ?_
 refine T.seq (T.region (TL.st rfl rfl rfl (o_assign rfl rfl) (TL.nil (thn_normal (T.seq (T.seq (T.region (TL.st rfl rfl rfl (o_move rfl rfl) (TL.st rfl rfl rfl (o_str rfl rfl rfl rfl) ?_)))))))))
 refine TL.st rfl rfl rfl (o_move rfl rfl) (TL.gcq rfl rfl rfl (.bool _) rfl rfl (fun h => o_move rfl rfl) (TL.gcq rfl rfl rfl (.bool _) rfl rfl (fun h => o_lenS rfl rfl (gv h rfl)) ?_))
 refine TL.gcq rfl rfl rfl (.bool _) rfl rfl (fun h => o_ari rfl (gv h rfl) rfl rfl) ?_
 refine TL.st rfl rfl rfl (o_or rfl rfl rfl rfl (fun k => Gd_t k)) (TL.st rfl rfl rfl (o_move rfl rfl) (TL.gcq rfl rfl rfl (.bool _) rfl rfl (fun h => o_move rfl rfl) ?_))
 obtain ⟨b1, h2, H⟩ := bind_s H
 refine TL.gcq rfl rfl rfl (.bool _) rfl rfl (fun h => o_ixs rfl rfl (gv h rfl) rfl (gdO_t h2 h)) ?_
 obtain ⟨r3, h4, H⟩ := bind_s H
 refine TL.gcq rfl rfl rfl (.bool _) rfl rfl (fun h => o_callP rfl en_71 rfl (evl_1 (gv h rfl)) (.cons _ _ _ _ (.cl _ rfl) .nil) (impl_ydigit_p  (gdO_t h4 h))) ?_
 refine TL.st rfl rfl rfl (o_or rfl rfl rfl rfl (fun k => Gd_t k)) (TL.nil (thn_normal ?_))
 refine T.cond ((((a0.toList == (ByteArray.mk #[]).toList) || decide ((a0.size : Int) > 30)) || r3)) rfl (fun h => ?_) (fun h => ?_)
 ·replace H := cond_t h H
  refine T.seq (T.region (TL.st rfl rfl rfl (o_assign rfl rfl) (TL.nil (thn_normal (T.ret (thn_ret ?_))))))
  cases some_i H
  exact ⟨trivial, _, (.tmp _ _ _ _ rfl .nil), (.cl _ rfl)⟩
 ·replace H := cond_f h H
  refine T.skip (thn_normal (T.seq (T.seq (T.region (TL.st rfl rfl rfl (o_move rfl rfl) (TL.st rfl rfl rfl (o_lenS rfl rfl rfl) ?_))))))
  refine TL.st rfl rfl rfl (o_move rfl rfl) (TL.nil (thn_normal (T.block ?_)))
  obtain ⟨q12, h13, H⟩ := bind_s H
  refine T.to (.cons 0 _ (.str a0) _ rfl (.same _) rfl (.cons 17 _ (.int .i64 (a0.size : Int)) _ rfl (.same _) rfl (.cons 18 _ (.int .i64 0) _ rfl (.same _) rfl .nil))) ?_
  refine T.lp (fun s => match s with | v5 => [(0, .str a0), (17, .int .i64 (a0.size : Int)), (18, .int .i64 v5)]) (fun s => match s with | v5 => []) (fun q ex fr σ => match q with | .inl _ => ex = .exit 0 ∧ fr = [] ∧ σ = [] | .inr q6 => ex = .ret ∧ RetN Go.Proofs.Tryz.prog [.tmp 2] (fun v τ => Told τ v (.bool q6)) .ret fr σ) h13 ?_ ?_ ?_ ?_ ?_
  ·rintro v5 y7 H
   refine T.seq (T.region (TL.st rfl rfl rfl (o_ari rfl rfl rfl rfl) (TL.nil (thn_normal (T.seq ?_)))))
   refine T.cond (decide (v5 < (a0.size : Int))) rfl (fun h => ?_) (fun h => ?_)
   ·replace H := cond_t h H
    refine T.skip (thn_normal (T.seq (T.block (T.seq (T.region (TL.st rfl rfl rfl (o_move rfl rfl) (TL.st rfl rfl rfl (o_assign rfl rfl) (TL.nil (thn_normal (T.seq (T.region (TL.st rfl rfl rfl (o_move rfl rfl) (TL.st rfl rfl rfl (o_move rfl rfl) ?_)))))))))))))
    obtain ⟨b8, h9, H⟩ := bind_s H
    refine TL.st rfl rfl rfl (o_ixs rfl rfl rfl rfl h9) ?_
    obtain ⟨r10, h11, H⟩ := bind_s H
    refine TL.st rfl rfl rfl (o_callP rfl en_44 rfl rfl (.cons _ _ _ _ (.cl _ rfl) .nil) (impl_ywordByte_p  h11)) ?_
    refine TL.st rfl rfl rfl (o_not rfl rfl) ?_
    refine TL.nil (thn_normal ?_)
    refine T.cond ((!r10)) rfl (fun h => ?_) (fun h => ?_)
    ·replace H := cond_t h H
     refine T.seq (T.region (TL.st rfl rfl rfl (o_assign rfl rfl) (TL.nil (thn_normal (T.ret (inB_ret (thn_ret ?_)))))))
     exact Pk.id (thn_ret ⟨.inr false, (some_i H).symm, rfl, ⟨trivial, _, (.tmp _ _ _ _ rfl .nil), (.cl _ rfl)⟩⟩)
    ·replace H := cond_f h H
     refine T.skip (inB_normal (thn_normal (T.region (TL.st rfl rfl rfl (o_ari rfl rfl rfl rfl) (TL.st rfl rfl rfl (o_move rfl rfl) (TL.nil ?_))))))
     exact Pk.go (fr' := [(0, .str a0), (17, .int .i64 (a0.size : Int)), (18, .int .i64 (IntKind.i64.wrap (v5 + 1)))]) (σ' := []) _ rfl rfl trivial (.cons 0 _ (.str a0) _ rfl (.same _) rfl (.cons 17 _ (.int .i64 (a0.size : Int)) _ rfl (.same _) rfl (.cons 18 _ (.int .i64 (IntKind.i64.wrap (v5 + 1))) _ rfl (.same _) rfl .nil))) (thn_normal ⟨(IntKind.i64.wrap (v5 + 1)), (some_i H).symm, rfl, rfl⟩)
   ·replace H := cond_f h H
    refine T.exit (thn_exit ?_)
    exact Pk.go (fr' := []) (σ' := []) _ rfl rfl trivial .nil (thn_exit ⟨.inl (), (some_i H).symm, rfl, rfl, rfl⟩)
  ·rintro v5 v5'; rfl
  ·rintro v5; exact trivial
  ·rintro v5; exact (.cons _ _ _ rfl rfl (.cons _ _ _ rfl rfl (.cons _ _ _ rfl rfl .nil)))
  ·rcases q12 with ⟨⟩ | q6
   ·rintro _ _ _ ⟨rfl, rfl, rfl⟩
    refine inB_here (thn_normal (T.seq (T.region (TL.st rfl rfl rfl (o_assign rfl rfl) (TL.nil (thn_normal (T.ret ?_)))))))
    cases some_i H
    exact ⟨trivial, _, (.tmp _ _ _ _ rfl .nil), (.cl _ rfl)⟩
   ·rintro _ fr1 σ1 ⟨rfl, hr⟩
    refine inB_ret (thn_ret ?_)
    cases some_i H
    exact hr
theorem en_58 (us : Array Value) (w : World) : (callFunc 58 us).run Go.Proofs.Tryz.prog w = .ok (.enter 58 us) w := enters Go.Proofs.Tryz.func58 rfl rfl us w
noncomputable def impl_GoodAtom_j1 (a0 : T_impl_Atom) (v1 : Bool) : Option Bool :=
  cond v1 (some ((a0.Text_.toList == (ByteArray.mk #[]).toList) && (a0.Type_.toList == (ByteArray.mk #[]).toList))) (cond (a0.Kind_ == 3) ((gdO ((a0.Num_ == 0) && (a0.Type_.toList == (ByteArray.mk #[]).toList)) (impl_yprinted a0.Text_ 0 200)).bind fun r2 => some (((a0.Num_ == 0) && (a0.Type_.toList == (ByteArray.mk #[]).toList)) && r2)) (cond (a0.Kind_ == 4) ((gdO (a0.Num_ == 0) (impl_GoodName a0.Type_)).bind fun r4 => (gdO ((a0.Num_ == 0) && r4) (impl_yprinted a0.Text_ 1 200)).bind fun r6 => some (((a0.Num_ == 0) && r4) && r6)) (cond (a0.Kind_ == 6) (cond ((!((a0.Text_.toList == (ByteArray.mk #[]).toList) && (a0.Type_.toList == (ByteArray.mk #[]).toList))) || decide (a0.Num_ < 0)) (some false) ((gdO (decide ((Int.tmod a0.Num_ 64) ≤ 32) && decide ((IntKind.i64.wrap (Int.tdiv a0.Num_ 64)) < 4294967296)) (nn (IntKind.i64.wrap (32 - (Int.tmod a0.Num_ 64))))).bind fun u8 => (gdO (decide ((Int.tmod a0.Num_ 64) ≤ 32) && decide ((IntKind.i64.wrap (Int.tdiv a0.Num_ 64)) < 4294967296)) (nz (IntKind.i64.wrap (1 * 2 ^ (min (Int.toNat (IntKind.i64.wrap (32 - (Int.tmod a0.Num_ 64)))) IntKind.i64.bits))))).bind fun z10 => some ((decide ((Int.tmod a0.Num_ 64) ≤ 32) && decide ((IntKind.i64.wrap (Int.tdiv a0.Num_ 64)) < 4294967296)) && ((Int.tmod (IntKind.i64.wrap (Int.tdiv a0.Num_ 64)) (IntKind.i64.wrap (1 * 2 ^ (min (Int.toNat (IntKind.i64.wrap (32 - (Int.tmod a0.Num_ 64)))) IntKind.i64.bits)))) == 0)))) (cond (a0.Kind_ == 7) (some ((((a0.Text_.toList == (ByteArray.mk #[]).toList) && (a0.Type_.toList == (ByteArray.mk #[]).toList)) && decide (a0.Num_ ≥ (-100000000000))) && decide (a0.Num_ ≤ 100000000000))) (some false)))))
noncomputable def impl_GoodAtom (a0 : T_impl_Atom) : Option Bool :=
  cond (a0.Kind_ == 1) (some (((a0.Text_.toList == (ByteArray.mk #[]).toList) && (a0.Type_.toList == (ByteArray.mk #[]).toList)) && ((a0.Num_ == 0) || (a0.Num_ == 1)))) (cond (a0.Kind_ == 2) (impl_GoodAtom_j1 a0 (a0.Kind_ == 2)) (impl_GoodAtom_j1 a0 (a0.Kind_ == 5)))
theorem impl_GoodAtom_p  {a0 : T_impl_Atom} {R0 : Bool} (H : impl_GoodAtom a0 = some R0) : Pure Go.Proofs.Tryz.prog 45 [.agg (c_T_impl_Atom false a0)] (.bool R0) := by
 refine CallT.of_TN (n := 105) Go.Proofs.Tryz.func45 rfl rfl rfl rfl ?_
 refine T.seq (T.region (TL.st rfl rfl rfl (o_box rfl rfl rfl) (TL.st rfl rfl rfl (o_assign rfl rfl) (TL.nil (thn_normal (T.seq (T.region (TL.st rfl rfl rfl (o_fieldAddr rfl rfl rfl tyS_9 (by decide) rfl rfl ⟨_, rfl, Nat.le_of_ble_eq_true rfl⟩) ?_))))))))
 refine TL.st rfl rfl rfl (o_loadBx rfl tyS_9 rfl rfl (Nat.le_of_ble_eq_true rfl) rfl) ?_
 refine TL.st rfl rfl rfl (o_str rfl rfl rfl rfl) ?_
 refine TL.st rfl rfl rfl (o_move rfl rfl) (TL.gcq rfl rfl rfl (.bool _) rfl rfl (fun h => o_fieldAddr rfl rfl rfl tyS_9 (by decide) rfl rfl ⟨_, rfl, Nat.le_of_ble_eq_true rfl⟩) ?_)
 refine TL.gcq rfl rfl rfl (.bool _) rfl rfl (fun h => o_loadBx rfl tyS_9 (gv h rfl) rfl (Nat.le_of_ble_eq_true rfl) rfl) ?_
 refine TL.gcq rfl rfl rfl (.bool _) rfl rfl (fun h => o_str rfl (gv h rfl) rfl rfl) ?_
 refine TL.st rfl rfl rfl (o_and rfl rfl rfl (fun k => Gd_t k) rfl) (TL.st rfl rfl rfl (o_assign rfl rfl) (TL.nil (thn_normal (T.seq (T.seq (T.region (TL.st rfl rfl rfl (o_fieldAddr rfl rfl rfl tyS_3 (by decide) rfl rfl ⟨_, rfl, Nat.le_of_ble_eq_true rfl⟩) ?_)))))))
 refine TL.st rfl rfl rfl (o_loadBx rfl tyS_3 rfl rfl (Nat.le_of_ble_eq_true rfl) rfl) ?_
 refine TL.nil (thn_normal (T.block (T.seq (T.region (TL.st rfl rfl rfl (o_ari rfl rfl rfl rfl) (TL.st rfl rfl rfl (o_assign rfl rfl) (TL.nil (thn_normal ?_))))))))
 refine T.cond ((a0.Kind_ == 1)) rfl (fun h => ?_) (fun h => ?_)
 ·replace H := cond_t h H
  refine T.seq (T.region (TL.st rfl rfl rfl (o_move rfl rfl) (TL.st rfl rfl rfl (o_move rfl rfl) (TL.gcq rfl rfl rfl (.bool _) rfl rfl (fun h => o_fieldAddr rfl rfl rfl tyS_3 (by decide) rfl rfl ⟨_, rfl, Nat.le_of_ble_eq_true rfl⟩) ?_))))
  refine TL.gcq rfl rfl rfl (.bool _) rfl rfl (fun h => o_loadBx rfl tyS_3 (gv h rfl) rfl (Nat.le_of_ble_eq_true rfl) rfl) ?_
  refine TL.gcq rfl rfl rfl (.bool _) rfl rfl (fun h => o_ari rfl (gv h rfl) rfl rfl) ?_
  refine TL.gcq rfl rfl rfl (.bool _) rfl rfl (fun h => o_move rfl (gv h rfl)) ?_
  refine TL.gcq rfl rfl rfl (.gd _ _) rfl rfl (fun h => o_fieldAddr rfl rfl rfl tyS_3 (by decide) rfl rfl ⟨_, rfl, Nat.le_of_ble_eq_true rfl⟩) ?_
  refine TL.gcq rfl rfl rfl (.gd _ _) rfl rfl (fun h => o_loadBx rfl tyS_3 (gv h rfl) rfl (Nat.le_of_ble_eq_true rfl) rfl) ?_
  refine TL.gcq rfl rfl rfl (.gd _ _) rfl rfl (fun h => o_ari rfl (gv h rfl) rfl rfl) ?_
  refine TL.gcq rfl rfl rfl (.bool _) rfl rfl (fun h => o_or rfl (gv h rfl) rfl rfl (fun k => Gd_t (andi h k))) ?_
  refine TL.st rfl rfl rfl (o_and rfl rfl rfl (fun k => Gd_t k) rfl) (TL.st rfl rfl rfl (o_assign rfl rfl) (TL.nil (thn_normal (T.ret (inB_ret (thn_ret ?_))))))
  cases some_i H
  exact ⟨trivial, _, (.tmp _ _ _ _ rfl .nil), (.cl _ rfl)⟩
 ·replace H := cond_f h H
  refine T.cut (fun fr' σ' => ∃ (v1 : Bool), fr' = [(1, .bx 0 0), (3, .bool ((a0.Text_.toList == (ByteArray.mk #[]).toList) && (a0.Type_.toList == (ByteArray.mk #[]).toList))), (15, .int .i64 a0.Kind_), (29, .bool v1)] ∧ σ' = [.box (c_T_impl_Atom false a0)] ∧ impl_GoodAtom_j1 a0 v1 = some R0) (T.pk ?_) ?_
  ·skip
   refine T.seq (T.region (TL.st rfl rfl rfl (o_ari rfl rfl rfl rfl) (TL.st rfl rfl rfl (o_assign rfl rfl) (TL.nil (thn_normal ?_)))))
   refine T.cond ((a0.Kind_ == 2)) rfl (fun h => ?_) (fun h => ?_)
   ·replace H := cond_t h H
    refine T.skip ?_
    exact Pk.go (fr' := [(1, .bx 0 0), (3, .bool ((a0.Text_.toList == (ByteArray.mk #[]).toList) && (a0.Type_.toList == (ByteArray.mk #[]).toList))), (15, .int .i64 a0.Kind_), (29, .bool (a0.Kind_ == 2))]) (σ' := [.box (c_T_impl_Atom false a0)]) _ rfl rfl ⟨(bels_iff.1 rfl), trivial⟩ (.cons 1 _ (.bx 0 0) _ rfl (.same _) rfl (.cons 3 _ (.bool ((a0.Text_.toList == (ByteArray.mk #[]).toList) && (a0.Type_.toList == (ByteArray.mk #[]).toList))) _ rfl (.same _) rfl (.cons 15 _ (.int .i64 a0.Kind_) _ rfl (.same _) rfl (.cons 29 _ (.bool (a0.Kind_ == 2)) _ rfl (.same _) rfl .nil)))) (thn_normal ⟨(a0.Kind_ == 2), rfl, rfl, H⟩)
   ·replace H := cond_f h H
    refine T.region (TL.st rfl rfl rfl (o_ari rfl rfl rfl rfl) (TL.st rfl rfl rfl (o_assign rfl rfl) (TL.nil ?_)))
    exact Pk.go (fr' := [(1, .bx 0 0), (3, .bool ((a0.Text_.toList == (ByteArray.mk #[]).toList) && (a0.Type_.toList == (ByteArray.mk #[]).toList))), (15, .int .i64 a0.Kind_), (29, .bool (a0.Kind_ == 5))]) (σ' := [.box (c_T_impl_Atom false a0)]) _ rfl rfl ⟨(bels_iff.1 rfl), trivial⟩ (.cons 1 _ (.bx 0 0) _ rfl (.same _) rfl (.cons 3 _ (.bool ((a0.Text_.toList == (ByteArray.mk #[]).toList) && (a0.Type_.toList == (ByteArray.mk #[]).toList))) _ rfl (.same _) rfl (.cons 15 _ (.int .i64 a0.Kind_) _ rfl (.same _) rfl (.cons 29 _ (.bool (a0.Kind_ == 5)) _ rfl (.same _) rfl .nil)))) (thn_normal ⟨(a0.Kind_ == 5), rfl, rfl, H⟩)
  ·rintro _ _ ⟨v1, rfl, rfl, H⟩
   refine T.cond (v1) rfl (fun h => ?_) (fun h => ?_)
   ·replace H := cond_t h H
    refine T.seq (T.region (TL.st rfl rfl rfl (o_move rfl rfl) (TL.st rfl rfl rfl (o_assign rfl rfl) (TL.nil (thn_normal (T.ret (inB_ret (thn_ret ?_))))))))
    cases some_i H
    exact ⟨trivial, _, (.tmp _ _ _ _ rfl .nil), (.cl _ rfl)⟩
   ·replace H := cond_f h H
    refine T.seq (T.region (TL.st rfl rfl rfl (o_ari rfl rfl rfl rfl) (TL.st rfl rfl rfl (o_assign rfl rfl) (TL.nil (thn_normal ?_)))))
    refine T.cond ((a0.Kind_ == 3)) rfl (fun h => ?_) (fun h => ?_)
    ·replace H := cond_t h H
     refine T.seq (T.region (TL.st rfl rfl rfl (o_fieldAddr rfl rfl rfl tyS_3 (by decide) rfl rfl ⟨_, rfl, Nat.le_of_ble_eq_true rfl⟩) ?_))
     refine TL.st rfl rfl rfl (o_loadBx rfl tyS_3 rfl rfl (Nat.le_of_ble_eq_true rfl) rfl) ?_
     refine TL.st rfl rfl rfl (o_ari rfl rfl rfl rfl) (TL.st rfl rfl rfl (o_move rfl rfl) (TL.gcq rfl rfl rfl (.bool _) rfl rfl (fun h => o_fieldAddr rfl rfl rfl tyS_9 (by decide) rfl rfl ⟨_, rfl, Nat.le_of_ble_eq_true rfl⟩) ?_))
     refine TL.gcq rfl rfl rfl (.bool _) rfl rfl (fun h => o_loadBx rfl tyS_9 (gv h rfl) rfl (Nat.le_of_ble_eq_true rfl) rfl) ?_
     refine TL.gcq rfl rfl rfl (.bool _) rfl rfl (fun h => o_str rfl (gv h rfl) rfl rfl) ?_
     refine TL.st rfl rfl rfl (o_and rfl rfl rfl (fun k => Gd_t k) rfl) (TL.st rfl rfl rfl (o_move rfl rfl) (TL.gcq rfl rfl rfl (.bool _) rfl rfl (fun h => o_fieldAddr rfl rfl rfl tyS_9 (by decide) rfl rfl ⟨_, rfl, Nat.le_of_ble_eq_true rfl⟩) ?_))
     refine TL.gcq rfl rfl rfl (.bool _) rfl rfl (fun h => o_loadBx rfl tyS_9 (gv h rfl) rfl (Nat.le_of_ble_eq_true rfl) rfl) ?_
     obtain ⟨r2, h3, H⟩ := bind_s H
     refine TL.gcq rfl rfl rfl (.bool _) rfl rfl (fun h => o_callP rfl en_72 rfl (evl_3 (gv h rfl) rfl rfl) (.cons _ _ _ _ (.cl _ rfl) (.cons _ _ _ _ (.cl _ rfl) (.cons _ _ _ _ (.cl _ rfl) .nil))) (impl_yprinted_p  (gdO_t h3 h))) ?_
     refine TL.st rfl rfl rfl (o_and rfl rfl rfl (fun k => Gd_t k) rfl) (TL.st rfl rfl rfl (o_assign rfl rfl) (TL.nil (thn_normal (T.ret (inB_ret (thn_ret ?_))))))
     cases some_i H
     exact ⟨trivial, _, (.tmp _ _ _ _ rfl .nil), (.cl _ rfl)⟩
    ·replace H := cond_f h H
     refine T.seq (T.region (TL.st rfl rfl rfl (o_ari rfl rfl rfl rfl) (TL.st rfl rfl rfl (o_assign rfl rfl) (TL.nil (thn_normal ?_)))))
     refine T.cond ((a0.Kind_ == 4)) rfl (fun h => ?_) (fun h => ?_)
     ·replace H := cond_t h H
      refine T.seq (T.region (TL.st rfl rfl rfl (o_fieldAddr rfl rfl rfl tyS_3 (by decide) rfl rfl ⟨_, rfl, Nat.le_of_ble_eq_true rfl⟩) ?_))
      refine TL.st rfl rfl rfl (o_loadBx rfl tyS_3 rfl rfl (Nat.le_of_ble_eq_true rfl) rfl) ?_
      refine TL.st rfl rfl rfl (o_ari rfl rfl rfl rfl) (TL.st rfl rfl rfl (o_move rfl rfl) (TL.gcq rfl rfl rfl (.bool _) rfl rfl (fun h => o_fieldAddr rfl rfl rfl tyS_9 (by decide) rfl rfl ⟨_, rfl, Nat.le_of_ble_eq_true rfl⟩) ?_))
      refine TL.gcq rfl rfl rfl (.bool _) rfl rfl (fun h => o_loadBx rfl tyS_9 (gv h rfl) rfl (Nat.le_of_ble_eq_true rfl) rfl) ?_
      obtain ⟨r4, h5, H⟩ := bind_s H
      refine TL.gcq rfl rfl rfl (.bool _) rfl rfl (fun h => o_callP rfl en_58 rfl (evl_1 (gv h rfl)) (.cons _ _ _ _ (.cl _ rfl) .nil) (impl_GoodName_p  (gdO_t h5 h))) ?_
      refine TL.st rfl rfl rfl (o_and rfl rfl rfl (fun k => Gd_t k) rfl) (TL.st rfl rfl rfl (o_move rfl rfl) (TL.gcq rfl rfl rfl (.bool _) rfl rfl (fun h => o_fieldAddr rfl rfl rfl tyS_9 (by decide) rfl rfl ⟨_, rfl, Nat.le_of_ble_eq_true rfl⟩) ?_))
      refine TL.gcq rfl rfl rfl (.bool _) rfl rfl (fun h => o_loadBx rfl tyS_9 (gv h rfl) rfl (Nat.le_of_ble_eq_true rfl) rfl) ?_
      obtain ⟨r6, h7, H⟩ := bind_s H
      refine TL.gcq rfl rfl rfl (.bool _) rfl rfl (fun h => o_callP rfl en_72 rfl (evl_3 (gv h rfl) rfl rfl) (.cons _ _ _ _ (.cl _ rfl) (.cons _ _ _ _ (.cl _ rfl) (.cons _ _ _ _ (.cl _ rfl) .nil))) (impl_yprinted_p  (gdO_t h7 h))) ?_
      refine TL.st rfl rfl rfl (o_and rfl rfl rfl (fun k => Gd_t k) rfl) (TL.st rfl rfl rfl (o_assign rfl rfl) (TL.nil (thn_normal (T.ret (inB_ret (thn_ret ?_))))))
      cases some_i H
      exact ⟨trivial, _, (.tmp _ _ _ _ rfl .nil), (.cl _ rfl)⟩
     ·replace H := cond_f h H
      refine T.seq (T.region (TL.st rfl rfl rfl (o_ari rfl rfl rfl rfl) (TL.st rfl rfl rfl (o_assign rfl rfl) (TL.nil (thn_normal ?_)))))
      refine T.cond ((a0.Kind_ == 6)) rfl (fun h => ?_) (fun h => ?_)
      ·replace H := cond_t h H
       refine T.seq (T.seq (T.region (TL.st rfl rfl rfl (o_move rfl rfl) (TL.st rfl rfl rfl (o_not rfl rfl) ?_))))
       refine TL.st rfl rfl rfl (o_move rfl rfl) (TL.gcq rfl rfl rfl (.bool _) rfl rfl (fun h => o_fieldAddr rfl rfl rfl tyS_3 (by decide) rfl rfl ⟨_, rfl, Nat.le_of_ble_eq_true rfl⟩) ?_)
       refine TL.gcq rfl rfl rfl (.bool _) rfl rfl (fun h => o_loadBx rfl tyS_3 (gv h rfl) rfl (Nat.le_of_ble_eq_true rfl) rfl) ?_
       refine TL.gcq rfl rfl rfl (.bool _) rfl rfl (fun h => o_ari rfl (gv h rfl) rfl rfl) ?_
       refine TL.st rfl rfl rfl (o_or rfl rfl rfl rfl (fun k => Gd_t k)) (TL.nil (thn_normal ?_))
       refine T.cond (((!((a0.Text_.toList == (ByteArray.mk #[]).toList) && (a0.Type_.toList == (ByteArray.mk #[]).toList))) || decide (a0.Num_ < 0))) rfl (fun h => ?_) (fun h => ?_)
       ·replace H := cond_t h H
        refine T.seq (T.region (TL.st rfl rfl rfl (o_assign rfl rfl) (TL.nil (thn_normal (T.ret (thn_ret (inB_ret (thn_ret ?_))))))))
        cases some_i H
        exact ⟨trivial, _, (.tmp _ _ _ _ rfl .nil), (.cl _ rfl)⟩
       ·replace H := cond_f h H
        refine T.skip (thn_normal (T.seq (T.drawn rfl ?_)))
        refine TD.rs rfl rfl (o_fieldAddr rfl rfl rfl tyS_3 (by decide) rfl rfl ⟨_, rfl, Nat.le_of_ble_eq_true rfl⟩) ?_
        refine TD.rs rfl rfl (o_loadBx rfl tyS_3 rfl rfl (Nat.le_of_ble_eq_true rfl) rfl) ?_
        refine TD.qs rfl rfl (fun _ => o_quo rfl rfl rfl (by decide)) ?_
        refine TD.rs rfl rfl (o_fieldAddr rfl rfl rfl tyS_3 (by decide) rfl rfl ⟨_, rfl, Nat.le_of_ble_eq_true rfl⟩) ?_
        refine TD.rs rfl rfl (o_loadBx rfl tyS_3 rfl rfl (Nat.le_of_ble_eq_true rfl) rfl) ?_
        refine TD.qs rfl rfl (fun _ => o_rem rfl rfl rfl (by decide)) ?_
        refine TD.qs rfl rfl (fun _ => o_assign rfl rfl) (TD.qs rfl rfl (fun _ => o_assign rfl rfl) ?_)
        refine TD.nil ⟨rfl, ?_⟩
        refine thn_normal (T.seq (T.region (TL.st rfl rfl rfl (o_move rfl rfl) (TL.st rfl rfl rfl (o_ari rfl rfl rfl rfl) (TL.st rfl rfl rfl (o_move rfl rfl) (TL.gcq rfl rfl rfl (.bool _) rfl rfl (fun h => o_move rfl rfl) (TL.gcq rfl rfl rfl (.bool _) rfl rfl (fun h => o_ari rfl (gv h rfl) rfl rfl) ?_)))))))
        refine TL.st rfl rfl rfl (o_and rfl rfl rfl (fun k => Gd_t k) rfl) (TL.st rfl rfl rfl (o_move rfl rfl) (TL.gcq rfl rfl rfl (.bool _) rfl rfl (fun h => o_move rfl rfl) (TL.gcq rfl rfl rfl (.bool _) rfl rfl (fun h => o_move rfl rfl) (TL.gcq rfl rfl rfl (.bool _) rfl rfl (fun h => o_ari rfl rfl (gv h rfl) rfl) ?_))))
        obtain ⟨u8, h9, H⟩ := bind_s H
        refine TL.gcq rfl rfl rfl (.bool _) rfl rfl (fun h => o_shl rfl rfl (gv h rfl) (nn_s (gdO_t h9 h))) ?_
        obtain ⟨z10, h11, H⟩ := bind_s H
        refine TL.gcq rfl rfl rfl (.bool _) rfl rfl (fun h => o_rem rfl (gv h rfl) (gv h rfl) (nz_s (gdO_t h11 h)).1) ?_
        refine TL.gcq rfl rfl rfl (.bool _) rfl rfl (fun h => o_ari rfl (gv h rfl) rfl rfl) ?_
        refine TL.st rfl rfl rfl (o_and rfl rfl rfl (fun k => Gd_t k) rfl) (TL.st rfl rfl rfl (o_assign rfl rfl) (TL.nil (thn_normal (T.ret (inB_ret (thn_ret ?_))))))
        cases some_i H
        exact ⟨trivial, _, (.tmp _ _ _ _ rfl .nil), (.cl _ rfl)⟩
      ·replace H := cond_f h H
       refine T.seq (T.region (TL.st rfl rfl rfl (o_ari rfl rfl rfl rfl) (TL.st rfl rfl rfl (o_assign rfl rfl) (TL.nil (thn_normal ?_)))))
       refine T.cond ((a0.Kind_ == 7)) rfl (fun h => ?_) (fun h => ?_)
       ·replace H := cond_t h H
        refine T.seq (T.region (TL.st rfl rfl rfl (o_move rfl rfl) (TL.st rfl rfl rfl (o_move rfl rfl) (TL.gcq rfl rfl rfl (.bool _) rfl rfl (fun h => o_fieldAddr rfl rfl rfl tyS_3 (by decide) rfl rfl ⟨_, rfl, Nat.le_of_ble_eq_true rfl⟩) ?_))))
        refine TL.gcq rfl rfl rfl (.bool _) rfl rfl (fun h => o_loadBx rfl tyS_3 (gv h rfl) rfl (Nat.le_of_ble_eq_true rfl) rfl) ?_
        refine TL.gcq rfl rfl rfl (.bool _) rfl rfl (fun h => o_ari rfl (gv h rfl) rfl rfl) ?_
        refine TL.st rfl rfl rfl (o_and rfl rfl rfl (fun k => Gd_t k) rfl) (TL.st rfl rfl rfl (o_move rfl rfl) (TL.gcq rfl rfl rfl (.bool _) rfl rfl (fun h => o_fieldAddr rfl rfl rfl tyS_3 (by decide) rfl rfl ⟨_, rfl, Nat.le_of_ble_eq_true rfl⟩) ?_))
        refine TL.gcq rfl rfl rfl (.bool _) rfl rfl (fun h => o_loadBx rfl tyS_3 (gv h rfl) rfl (Nat.le_of_ble_eq_true rfl) rfl) ?_
        refine TL.gcq rfl rfl rfl (.bool _) rfl rfl (fun h => o_ari rfl (gv h rfl) rfl rfl) ?_
        refine TL.st rfl rfl rfl (o_and rfl rfl rfl (fun k => Gd_t k) rfl) (TL.st rfl rfl rfl (o_assign rfl rfl) (TL.nil (thn_normal (T.ret (inB_ret (thn_ret ?_))))))
        cases some_i H
        exact ⟨trivial, _, (.tmp _ _ _ _ rfl .nil), (.cl _ rfl)⟩
       ·replace H := cond_f h H
        refine T.skip (inB_normal (thn_normal (T.seq (T.region (TL.st rfl rfl rfl (o_assign rfl rfl) (TL.nil (thn_normal (T.ret ?_))))))))
        cases some_i H
        exact ⟨trivial, _, (.tmp _ _ _ _ rfl .nil), (.cl _ rfl)⟩
theorem en_45 (us : Array Value) (w : World) : (callFunc 45 us).run Go.Proofs.Tryz.prog w = .ok (.enter 45 us) w := enters Go.Proofs.Tryz.func45 rfl rfl us w
noncomputable def impl_ygoodRef (a0 : T_impl_Atom) : Option Bool :=
  (gdO (a0.Kind_ == 4) (impl_GoodAtom a0)).bind fun r1 => some ((a0.Kind_ == 4) && r1)
theorem impl_ygoodRef_p  {a0 : T_impl_Atom} {R0 : Bool} (H : impl_ygoodRef a0 = some R0) : Pure Go.Proofs.Tryz.prog 21 [.agg (c_T_impl_Atom false a0)] (.bool R0) := by
 refine CallT.of_TN (n := 10) Go.Proofs.Tryz.func21 rfl rfl rfl rfl ?_
 refine T.seq (T.region (TL.st rfl rfl rfl (o_box rfl rfl rfl) (TL.st rfl rfl rfl (o_assign rfl rfl) (TL.nil (thn_normal (T.seq (T.region (TL.st rfl rfl rfl (o_fieldAddr rfl rfl rfl tyS_3 (by decide) rfl rfl ⟨_, rfl, Nat.le_of_ble_eq_true rfl⟩) ?_))))))))
 refine TL.st rfl rfl rfl (o_loadBx rfl tyS_3 rfl rfl (Nat.le_of_ble_eq_true rfl) rfl) ?_
 refine TL.st rfl rfl rfl (o_ari rfl rfl rfl rfl) (TL.st rfl rfl rfl (o_move rfl rfl) (TL.gcq rfl rfl rfl (.bool _) rfl rfl (fun h => o_loadBx rfl tyS_24 rfl rfl (Nat.le_of_ble_eq_true rfl) rfl) ?_))
 obtain ⟨r1, h2, H⟩ := bind_s H
 refine TL.gcq rfl rfl rfl (.bool _) rfl rfl (fun h => o_callP rfl en_45 rfl (evl_1 (gv h rfl)) (.cons _ _ _ _ (.cl _ rfl) .nil) (impl_GoodAtom_p  (gdO_t h2 h))) ?_
 refine TL.st rfl rfl rfl (o_and rfl rfl rfl (fun k => Gd_t k) rfl) (TL.st rfl rfl rfl (o_assign rfl rfl) (TL.nil (thn_normal (T.ret ?_))))
 cases some_i H
 exact ⟨trivial, _, (.tmp _ _ _ _ rfl .nil), (.cl _ rfl)⟩
theorem en_21 (us : Array Value) (w : World) : (callFunc 21 us).run Go.Proofs.Tryz.prog w = .ok (.enter 21 us) w := enters Go.Proofs.Tryz.func21 rfl rfl us w
noncomputable def impl_ygoodHead_j2 (a0 : T_impl_Head) (a1 : Bool) (v10 : Bool) : Option Bool :=
  cond v10 ((impl_yzeroAtom a0.Atom_).bind fun r11 => some ((r11 && (a0.Type_.toList == (ByteArray.mk #[]).toList)) && (!a1))) (some false)
noncomputable def impl_ygoodHead_j1 (a0 : T_impl_Head) (a1 : Bool) (v3 : Bool) : Option Bool :=
  cond v3 ((impl_ygoodRef a0.Atom_).bind fun r4 => some (r4 && (a0.Type_.toList == (ByteArray.mk #[]).toList))) (cond (a0.Kind_ == 4) ((impl_yzeroAtom a0.Atom_).bind fun r6 => (gdO r6 (impl_GoodName a0.Type_)).bind fun r8 => some (r6 && r8)) (cond (a0.Kind_ == 5) (impl_ygoodHead_j2 a0 a1 (a0.Kind_ == 5)) (impl_ygoodHead_j2 a0 a1 (a0.Kind_ == 6))))
noncomputable def impl_ygoodHead (a0 : T_impl_Head) (a1 : Bool) : Option Bool :=
  cond (a0.Kind_ == 1) ((impl_yzeroAtom a0.Atom_).bind fun r1 => some (r1 && (a0.Type_.toList == (ByteArray.mk #[]).toList))) (cond (a0.Kind_ == 2) (impl_ygoodHead_j1 a0 a1 (a0.Kind_ == 2)) (impl_ygoodHead_j1 a0 a1 (a0.Kind_ == 3)))
theorem impl_ygoodHead_p  {a0 : T_impl_Head} {a1 : Bool} {R0 : Bool} (H : impl_ygoodHead a0 a1 = some R0) : Pure Go.Proofs.Tryz.prog 30 [.agg (c_T_impl_Head false a0), .bool a1] (.bool R0) := by
 refine CallT.of_TN (n := 53) Go.Proofs.Tryz.func30 rfl rfl rfl rfl ?_
 refine T.seq (T.region (TL.st rfl rfl rfl (o_box rfl rfl rfl) (TL.st rfl rfl rfl (o_assign rfl rfl) (TL.nil (thn_normal (T.seq (T.seq (T.region (TL.st rfl rfl rfl (o_fieldAddr rfl rfl rfl tyS_3 (by decide) rfl rfl ⟨_, rfl, Nat.le_of_ble_eq_true rfl⟩) ?_)))))))))
 refine TL.st rfl rfl rfl (o_loadBx rfl tyS_3 rfl rfl (Nat.le_of_ble_eq_true rfl) rfl) ?_
 refine TL.nil (thn_normal (T.block (T.seq (T.region (TL.st rfl rfl rfl (o_ari rfl rfl rfl rfl) (TL.st rfl rfl rfl (o_assign rfl rfl) (TL.nil (thn_normal ?_))))))))
 refine T.cond ((a0.Kind_ == 1)) rfl (fun h => ?_) (fun h => ?_)
 ·replace H := cond_t h H
  refine T.seq (T.region (TL.st rfl rfl rfl (o_fieldAddr rfl rfl rfl tyS_24 (by decide) rfl rfl ⟨_, rfl, Nat.le_of_ble_eq_true rfl⟩) ?_))
  refine TL.st rfl rfl rfl (o_loadBx rfl tyS_24 rfl rfl (Nat.le_of_ble_eq_true rfl) rfl) ?_
  obtain ⟨r1, h2, H⟩ := bind_s H
  refine TL.st rfl rfl rfl (o_callP rfl en_57 rfl rfl (.cons _ _ _ _ (.cl _ rfl) .nil) (impl_yzeroAtom_p  h2)) ?_
  refine TL.st rfl rfl rfl (o_move rfl rfl) (TL.gcq rfl rfl rfl (.bool _) rfl rfl (fun h => o_fieldAddr rfl rfl rfl tyS_9 (by decide) rfl rfl ⟨_, rfl, Nat.le_of_ble_eq_true rfl⟩) ?_)
  refine TL.gcq rfl rfl rfl (.bool _) rfl rfl (fun h => o_loadBx rfl tyS_9 (gv h rfl) rfl (Nat.le_of_ble_eq_true rfl) rfl) ?_
  refine TL.gcq rfl rfl rfl (.bool _) rfl rfl (fun h => o_str rfl (gv h rfl) rfl rfl) ?_
  refine TL.st rfl rfl rfl (o_and rfl rfl rfl (fun k => Gd_t k) rfl) (TL.st rfl rfl rfl (o_assign rfl rfl) (TL.nil (thn_normal (T.ret (inB_ret (thn_ret ?_))))))
  cases some_i H
  exact ⟨trivial, _, (.tmp _ _ _ _ rfl .nil), (.cl _ rfl)⟩
 ·replace H := cond_f h H
  refine T.cut (fun fr' σ' => ∃ (v3 : Bool), fr' = [(1, .bool a1), (2, .bx 0 0), (6, .int .i64 a0.Kind_), (17, .bool v3)] ∧ σ' = [.box (c_T_impl_Head false a0)] ∧ impl_ygoodHead_j1 a0 a1 v3 = some R0) (T.pk ?_) ?_
  ·skip
   refine T.seq (T.region (TL.st rfl rfl rfl (o_ari rfl rfl rfl rfl) (TL.st rfl rfl rfl (o_assign rfl rfl) (TL.nil (thn_normal ?_)))))
   refine T.cond ((a0.Kind_ == 2)) rfl (fun h => ?_) (fun h => ?_)
   ·replace H := cond_t h H
    refine T.skip ?_
    exact Pk.go (fr' := [(1, .bool a1), (2, .bx 0 0), (6, .int .i64 a0.Kind_), (17, .bool (a0.Kind_ == 2))]) (σ' := [.box (c_T_impl_Head false a0)]) _ rfl rfl ⟨(bels_iff.1 rfl), trivial⟩ (.cons 1 _ (.bool a1) _ rfl (.same _) rfl (.cons 2 _ (.bx 0 0) _ rfl (.same _) rfl (.cons 6 _ (.int .i64 a0.Kind_) _ rfl (.same _) rfl (.cons 17 _ (.bool (a0.Kind_ == 2)) _ rfl (.same _) rfl .nil)))) (thn_normal ⟨(a0.Kind_ == 2), rfl, rfl, H⟩)
   ·replace H := cond_f h H
    refine T.region (TL.st rfl rfl rfl (o_ari rfl rfl rfl rfl) (TL.st rfl rfl rfl (o_assign rfl rfl) (TL.nil ?_)))
    exact Pk.go (fr' := [(1, .bool a1), (2, .bx 0 0), (6, .int .i64 a0.Kind_), (17, .bool (a0.Kind_ == 3))]) (σ' := [.box (c_T_impl_Head false a0)]) _ rfl rfl ⟨(bels_iff.1 rfl), trivial⟩ (.cons 1 _ (.bool a1) _ rfl (.same _) rfl (.cons 2 _ (.bx 0 0) _ rfl (.same _) rfl (.cons 6 _ (.int .i64 a0.Kind_) _ rfl (.same _) rfl (.cons 17 _ (.bool (a0.Kind_ == 3)) _ rfl (.same _) rfl .nil)))) (thn_normal ⟨(a0.Kind_ == 3), rfl, rfl, H⟩)
  ·rintro _ _ ⟨v3, rfl, rfl, H⟩
   refine T.cond (v3) rfl (fun h => ?_) (fun h => ?_)
   ·replace H := cond_t h H
    refine T.seq (T.region (TL.st rfl rfl rfl (o_fieldAddr rfl rfl rfl tyS_24 (by decide) rfl rfl ⟨_, rfl, Nat.le_of_ble_eq_true rfl⟩) ?_))
    refine TL.st rfl rfl rfl (o_loadBx rfl tyS_24 rfl rfl (Nat.le_of_ble_eq_true rfl) rfl) ?_
    obtain ⟨r4, h5, H⟩ := bind_s H
    refine TL.st rfl rfl rfl (o_callP rfl en_21 rfl rfl (.cons _ _ _ _ (.cl _ rfl) .nil) (impl_ygoodRef_p  h5)) ?_
    refine TL.st rfl rfl rfl (o_move rfl rfl) (TL.gcq rfl rfl rfl (.bool _) rfl rfl (fun h => o_fieldAddr rfl rfl rfl tyS_9 (by decide) rfl rfl ⟨_, rfl, Nat.le_of_ble_eq_true rfl⟩) ?_)
    refine TL.gcq rfl rfl rfl (.bool _) rfl rfl (fun h => o_loadBx rfl tyS_9 (gv h rfl) rfl (Nat.le_of_ble_eq_true rfl) rfl) ?_
    refine TL.gcq rfl rfl rfl (.bool _) rfl rfl (fun h => o_str rfl (gv h rfl) rfl rfl) ?_
    refine TL.st rfl rfl rfl (o_and rfl rfl rfl (fun k => Gd_t k) rfl) (TL.st rfl rfl rfl (o_assign rfl rfl) (TL.nil (thn_normal (T.ret (inB_ret (thn_ret ?_))))))
    cases some_i H
    exact ⟨trivial, _, (.tmp _ _ _ _ rfl .nil), (.cl _ rfl)⟩
   ·replace H := cond_f h H
    refine T.seq (T.region (TL.st rfl rfl rfl (o_ari rfl rfl rfl rfl) (TL.st rfl rfl rfl (o_assign rfl rfl) (TL.nil (thn_normal ?_)))))
    refine T.cond ((a0.Kind_ == 4)) rfl (fun h => ?_) (fun h => ?_)
    ·replace H := cond_t h H
     refine T.seq (T.region (TL.st rfl rfl rfl (o_fieldAddr rfl rfl rfl tyS_24 (by decide) rfl rfl ⟨_, rfl, Nat.le_of_ble_eq_true rfl⟩) ?_))
     refine TL.st rfl rfl rfl (o_loadBx rfl tyS_24 rfl rfl (Nat.le_of_ble_eq_true rfl) rfl) ?_
     obtain ⟨r6, h7, H⟩ := bind_s H
     refine TL.st rfl rfl rfl (o_callP rfl en_57 rfl rfl (.cons _ _ _ _ (.cl _ rfl) .nil) (impl_yzeroAtom_p  h7)) ?_
     refine TL.st rfl rfl rfl (o_move rfl rfl) (TL.gcq rfl rfl rfl (.bool _) rfl rfl (fun h => o_fieldAddr rfl rfl rfl tyS_9 (by decide) rfl rfl ⟨_, rfl, Nat.le_of_ble_eq_true rfl⟩) ?_)
     refine TL.gcq rfl rfl rfl (.bool _) rfl rfl (fun h => o_loadBx rfl tyS_9 (gv h rfl) rfl (Nat.le_of_ble_eq_true rfl) rfl) ?_
     obtain ⟨r8, h9, H⟩ := bind_s H
     refine TL.gcq rfl rfl rfl (.bool _) rfl rfl (fun h => o_callP rfl en_58 rfl (evl_1 (gv h rfl)) (.cons _ _ _ _ (.cl _ rfl) .nil) (impl_GoodName_p  (gdO_t h9 h))) ?_
     refine TL.st rfl rfl rfl (o_and rfl rfl rfl (fun k => Gd_t k) rfl) (TL.st rfl rfl rfl (o_assign rfl rfl) (TL.nil (thn_normal (T.ret (inB_ret (thn_ret ?_))))))
     cases some_i H
     exact ⟨trivial, _, (.tmp _ _ _ _ rfl .nil), (.cl _ rfl)⟩
    ·replace H := cond_f h H
     refine T.cut (fun fr' σ' => ∃ (v10 : Bool), fr' = [(1, .bool a1), (2, .bx 0 0), (38, .bool v10)] ∧ σ' = [.box (c_T_impl_Head false a0)] ∧ impl_ygoodHead_j2 a0 a1 v10 = some R0) (T.pk ?_) ?_
     ·skip
      refine T.seq (T.region (TL.st rfl rfl rfl (o_ari rfl rfl rfl rfl) (TL.st rfl rfl rfl (o_assign rfl rfl) (TL.nil (thn_normal ?_)))))
      refine T.cond ((a0.Kind_ == 5)) rfl (fun h => ?_) (fun h => ?_)
      ·replace H := cond_t h H
       refine T.skip ?_
       exact Pk.go (fr' := [(1, .bool a1), (2, .bx 0 0), (38, .bool (a0.Kind_ == 5))]) (σ' := [.box (c_T_impl_Head false a0)]) _ rfl rfl ⟨(bels_iff.1 rfl), trivial⟩ (.cons 1 _ (.bool a1) _ rfl (.same _) rfl (.cons 2 _ (.bx 0 0) _ rfl (.same _) rfl (.cons 38 _ (.bool (a0.Kind_ == 5)) _ rfl (.same _) rfl .nil))) (thn_normal ⟨(a0.Kind_ == 5), rfl, rfl, H⟩)
      ·replace H := cond_f h H
       refine T.region (TL.st rfl rfl rfl (o_ari rfl rfl rfl rfl) (TL.st rfl rfl rfl (o_assign rfl rfl) (TL.nil ?_)))
       exact Pk.go (fr' := [(1, .bool a1), (2, .bx 0 0), (38, .bool (a0.Kind_ == 6))]) (σ' := [.box (c_T_impl_Head false a0)]) _ rfl rfl ⟨(bels_iff.1 rfl), trivial⟩ (.cons 1 _ (.bool a1) _ rfl (.same _) rfl (.cons 2 _ (.bx 0 0) _ rfl (.same _) rfl (.cons 38 _ (.bool (a0.Kind_ == 6)) _ rfl (.same _) rfl .nil))) (thn_normal ⟨(a0.Kind_ == 6), rfl, rfl, H⟩)
     ·rintro _ _ ⟨v10, rfl, rfl, H⟩
      refine T.cond (v10) rfl (fun h => ?_) (fun h => ?_)
      ·replace H := cond_t h H
       refine T.seq (T.region (TL.st rfl rfl rfl (o_fieldAddr rfl rfl rfl tyS_24 (by decide) rfl rfl ⟨_, rfl, Nat.le_of_ble_eq_true rfl⟩) ?_))
       refine TL.st rfl rfl rfl (o_loadBx rfl tyS_24 rfl rfl (Nat.le_of_ble_eq_true rfl) rfl) ?_
       obtain ⟨r11, h12, H⟩ := bind_s H
       refine TL.st rfl rfl rfl (o_callP rfl en_57 rfl rfl (.cons _ _ _ _ (.cl _ rfl) .nil) (impl_yzeroAtom_p  h12)) ?_
       refine TL.st rfl rfl rfl (o_move rfl rfl) (TL.gcq rfl rfl rfl (.bool _) rfl rfl (fun h => o_fieldAddr rfl rfl rfl tyS_9 (by decide) rfl rfl ⟨_, rfl, Nat.le_of_ble_eq_true rfl⟩) ?_)
       refine TL.gcq rfl rfl rfl (.bool _) rfl rfl (fun h => o_loadBx rfl tyS_9 (gv h rfl) rfl (Nat.le_of_ble_eq_true rfl) rfl) ?_
       refine TL.gcq rfl rfl rfl (.bool _) rfl rfl (fun h => o_str rfl (gv h rfl) rfl rfl) ?_
       refine TL.st rfl rfl rfl (o_and rfl rfl rfl (fun k => Gd_t k) rfl) (TL.st rfl rfl rfl (o_move rfl rfl) (TL.gcq rfl rfl rfl (.bool _) rfl rfl (fun h => o_move rfl rfl) (TL.gcq rfl rfl rfl (.bool _) rfl rfl (fun h => o_not rfl (gv h rfl)) ?_)))
       refine TL.st rfl rfl rfl (o_and rfl rfl rfl (fun k => Gd_t k) rfl) (TL.st rfl rfl rfl (o_assign rfl rfl) (TL.nil (thn_normal (T.ret (inB_ret (thn_ret ?_))))))
       cases some_i H
       exact ⟨trivial, _, (.tmp _ _ _ _ rfl .nil), (.cl _ rfl)⟩
      ·replace H := cond_f h H
       refine T.skip (inB_normal (thn_normal (T.seq (T.region (TL.st rfl rfl rfl (o_assign rfl rfl) (TL.nil (thn_normal (T.ret ?_))))))))
       cases some_i H
       exact ⟨trivial, _, (.tmp _ _ _ _ rfl .nil), (.cl _ rfl)⟩
theorem en_30 (us : Array Value) (w : World) : (callFunc 30 us).run Go.Proofs.Tryz.prog w = .ok (.enter 30 us) w := enters Go.Proofs.Tryz.func30 rfl rfl us w
noncomputable def impl_ykidsOf_j2 (a0 : Int) (v2 : Bool) : Option (Int × Int) :=
  cond v2 (some (1, 1)) (cond (a0 == 10) (some (3, 3)) (some (2, 2)))
noncomputable def impl_ykidsOf_j1 (a0 : Int) (v1 : Bool) : Option (Int × Int) :=
  cond v1 (some (0, 0)) (cond (a0 == 2) (some (0, 10)) (cond (a0 == 4) (impl_ykidsOf_j2 a0 (a0 == 4)) (cond (a0 == 5) (impl_ykidsOf_j2 a0 (a0 == 5)) (cond (a0 == 6) (impl_ykidsOf_j2 a0 (a0 == 6)) (cond (a0 == 7) (impl_ykidsOf_j2 a0 (a0 == 7)) (cond (a0 == 20) (impl_ykidsOf_j2 a0 (a0 == 20)) (impl_ykidsOf_j2 a0 (a0 == 21))))))))
noncomputable def impl_ykidsOf (a0 : Int) : Option (Int × Int) :=
  cond (a0 == 1) (impl_ykidsOf_j1 a0 (a0 == 1)) (impl_ykidsOf_j1 a0 (a0 == 3))
theorem impl_ykidsOf_p  {a0 : Int} {R0 : Int} {R1 : Int} (H : impl_ykidsOf a0 = some (R0, R1)) : Pure Go.Proofs.Tryz.prog 87 [.int .i64 a0] (.tup [.int .i64 R0, .int .i64 R1]) := by
 refine CallT.of_TN (n := 19) Go.Proofs.Tryz.func87 rfl rfl rfl rfl ?_
 refine T.seq (T.region (TL.st rfl rfl rfl (o_assign rfl rfl) (TL.st rfl rfl rfl (o_assign rfl rfl) (TL.nil (thn_normal (T.seq (T.seq (T.region (TL.st rfl rfl rfl (o_move rfl rfl) (TL.nil (thn_normal (T.block (T.cut (fun fr' σ' => ∃ (v1 : Bool), fr' = [(4, .int .i64 a0), (5, .bool v1)] ∧ σ' = [] ∧ impl_ykidsOf_j1 a0 v1 = some (R0, R1)) (T.pk ?_) ?_)))))))))))))
 ·skip
  refine T.seq (T.region (TL.st rfl rfl rfl (o_ari rfl rfl rfl rfl) (TL.st rfl rfl rfl (o_assign rfl rfl) (TL.nil (thn_normal ?_)))))
  refine T.cond ((a0 == 1)) rfl (fun h => ?_) (fun h => ?_)
  ·replace H := cond_t h H
   refine T.skip ?_
   exact Pk.go (fr' := [(4, .int .i64 a0), (5, .bool (a0 == 1))]) (σ' := []) _ rfl rfl trivial (.cons 4 _ (.int .i64 a0) _ rfl (.same _) rfl (.cons 5 _ (.bool (a0 == 1)) _ rfl (.same _) rfl .nil)) (thn_normal ⟨(a0 == 1), rfl, rfl, H⟩)
  ·replace H := cond_f h H
   refine T.region (TL.st rfl rfl rfl (o_ari rfl rfl rfl rfl) (TL.st rfl rfl rfl (o_assign rfl rfl) (TL.nil ?_)))
   exact Pk.go (fr' := [(4, .int .i64 a0), (5, .bool (a0 == 3))]) (σ' := []) _ rfl rfl trivial (.cons 4 _ (.int .i64 a0) _ rfl (.same _) rfl (.cons 5 _ (.bool (a0 == 3)) _ rfl (.same _) rfl .nil)) (thn_normal ⟨(a0 == 3), rfl, rfl, H⟩)
 ·rintro _ _ ⟨v1, rfl, rfl, H⟩
  refine T.cond (v1) rfl (fun h => ?_) (fun h => ?_)
  ·replace H := cond_t h H
   refine T.seq (T.region (TL.st rfl rfl rfl (o_assign rfl rfl) (TL.st rfl rfl rfl (o_assign rfl rfl) (TL.nil (thn_normal (T.ret (inB_ret (thn_ret ?_))))))))
   cases some_i H
   exact ⟨trivial, _, (.tmp _ _ _ _ rfl (.tmp _ _ _ _ rfl .nil)), (.tupL (.cons _ _ _ _ (.cl _ rfl) (.cons _ _ _ _ (.cl _ rfl) .nil)))⟩
  ·replace H := cond_f h H
   refine T.seq (T.region (TL.st rfl rfl rfl (o_ari rfl rfl rfl rfl) (TL.st rfl rfl rfl (o_assign rfl rfl) (TL.nil (thn_normal ?_)))))
   refine T.cond ((a0 == 2)) rfl (fun h => ?_) (fun h => ?_)
   ·replace H := cond_t h H
    refine T.seq (T.region (TL.st rfl rfl rfl (o_assign rfl rfl) (TL.st rfl rfl rfl (o_assign rfl rfl) (TL.nil (thn_normal (T.ret (inB_ret (thn_ret ?_))))))))
    cases some_i H
    exact ⟨trivial, _, (.tmp _ _ _ _ rfl (.tmp _ _ _ _ rfl .nil)), (.tupL (.cons _ _ _ _ (.cl _ rfl) (.cons _ _ _ _ (.cl _ rfl) .nil)))⟩
   ·replace H := cond_f h H
    refine T.cut (fun fr' σ' => ∃ (v2 : Bool), fr' = [(4, .int .i64 a0), (10, .bool v2)] ∧ σ' = [] ∧ impl_ykidsOf_j2 a0 v2 = some (R0, R1)) (T.pk ?_) ?_
    ·skip
     refine T.seq (T.region (TL.st rfl rfl rfl (o_ari rfl rfl rfl rfl) (TL.st rfl rfl rfl (o_assign rfl rfl) (TL.nil (thn_normal ?_)))))
     refine T.cond ((a0 == 4)) rfl (fun h => ?_) (fun h => ?_)
     ·replace H := cond_t h H
      refine T.skip ?_
      exact Pk.go (fr' := [(4, .int .i64 a0), (10, .bool (a0 == 4))]) (σ' := []) _ rfl rfl trivial (.cons 4 _ (.int .i64 a0) _ rfl (.same _) rfl (.cons 10 _ (.bool (a0 == 4)) _ rfl (.same _) rfl .nil)) (thn_normal ⟨(a0 == 4), rfl, rfl, H⟩)
     ·replace H := cond_f h H
      refine T.seq (T.region (TL.st rfl rfl rfl (o_ari rfl rfl rfl rfl) (TL.st rfl rfl rfl (o_assign rfl rfl) (TL.nil (thn_normal ?_)))))
      refine T.cond ((a0 == 5)) rfl (fun h => ?_) (fun h => ?_)
      ·replace H := cond_t h H
       refine T.skip ?_
       exact Pk.go (fr' := [(4, .int .i64 a0), (10, .bool (a0 == 5))]) (σ' := []) _ rfl rfl trivial (.cons 4 _ (.int .i64 a0) _ rfl (.same _) rfl (.cons 10 _ (.bool (a0 == 5)) _ rfl (.same _) rfl .nil)) (thn_normal ⟨(a0 == 5), rfl, rfl, H⟩)
      ·replace H := cond_f h H
       refine T.seq (T.region (TL.st rfl rfl rfl (o_ari rfl rfl rfl rfl) (TL.st rfl rfl rfl (o_assign rfl rfl) (TL.nil (thn_normal ?_)))))
       refine T.cond ((a0 == 6)) rfl (fun h => ?_) (fun h => ?_)
       ·replace H := cond_t h H
        refine T.skip ?_
        exact Pk.go (fr' := [(4, .int .i64 a0), (10, .bool (a0 == 6))]) (σ' := []) _ rfl rfl trivial (.cons 4 _ (.int .i64 a0) _ rfl (.same _) rfl (.cons 10 _ (.bool (a0 == 6)) _ rfl (.same _) rfl .nil)) (thn_normal ⟨(a0 == 6), rfl, rfl, H⟩)
       ·replace H := cond_f h H
        refine T.seq (T.region (TL.st rfl rfl rfl (o_ari rfl rfl rfl rfl) (TL.st rfl rfl rfl (o_assign rfl rfl) (TL.nil (thn_normal ?_)))))
        refine T.cond ((a0 == 7)) rfl (fun h => ?_) (fun h => ?_)
        ·replace H := cond_t h H
         refine T.skip ?_
         exact Pk.go (fr' := [(4, .int .i64 a0), (10, .bool (a0 == 7))]) (σ' := []) _ rfl rfl trivial (.cons 4 _ (.int .i64 a0) _ rfl (.same _) rfl (.cons 10 _ (.bool (a0 == 7)) _ rfl (.same _) rfl .nil)) (thn_normal ⟨(a0 == 7), rfl, rfl, H⟩)
        ·replace H := cond_f h H
         refine T.seq (T.region (TL.st rfl rfl rfl (o_ari rfl rfl rfl rfl) (TL.st rfl rfl rfl (o_assign rfl rfl) (TL.nil (thn_normal ?_)))))
         refine T.cond ((a0 == 20)) rfl (fun h => ?_) (fun h => ?_)
         ·replace H := cond_t h H
          refine T.skip ?_
          exact Pk.go (fr' := [(4, .int .i64 a0), (10, .bool (a0 == 20))]) (σ' := []) _ rfl rfl trivial (.cons 4 _ (.int .i64 a0) _ rfl (.same _) rfl (.cons 10 _ (.bool (a0 == 20)) _ rfl (.same _) rfl .nil)) (thn_normal ⟨(a0 == 20), rfl, rfl, H⟩)
         ·replace H := cond_f h H
          refine T.region (TL.st rfl rfl rfl (o_ari rfl rfl rfl rfl) (TL.st rfl rfl rfl (o_assign rfl rfl) (TL.nil ?_)))
          exact Pk.go (fr' := [(4, .int .i64 a0), (10, .bool (a0 == 21))]) (σ' := []) _ rfl rfl trivial (.cons 4 _ (.int .i64 a0) _ rfl (.same _) rfl (.cons 10 _ (.bool (a0 == 21)) _ rfl (.same _) rfl .nil)) (thn_normal ⟨(a0 == 21), rfl, rfl, H⟩)
    ·rintro _ _ ⟨v2, rfl, rfl, H⟩
     refine T.cond (v2) rfl (fun h => ?_) (fun h => ?_)
     ·replace H := cond_t h H
      refine T.seq (T.region (TL.st rfl rfl rfl (o_assign rfl rfl) (TL.st rfl rfl rfl (o_assign rfl rfl) (TL.nil (thn_normal (T.ret (inB_ret (thn_ret ?_))))))))
      cases some_i H
      exact ⟨trivial, _, (.tmp _ _ _ _ rfl (.tmp _ _ _ _ rfl .nil)), (.tupL (.cons _ _ _ _ (.cl _ rfl) (.cons _ _ _ _ (.cl _ rfl) .nil)))⟩
     ·replace H := cond_f h H
      refine T.seq (T.region (TL.st rfl rfl rfl (o_ari rfl rfl rfl rfl) (TL.st rfl rfl rfl (o_assign rfl rfl) (TL.nil (thn_normal ?_)))))
      refine T.cond ((a0 == 10)) rfl (fun h => ?_) (fun h => ?_)
      ·replace H := cond_t h H
       refine T.seq (T.region (TL.st rfl rfl rfl (o_assign rfl rfl) (TL.st rfl rfl rfl (o_assign rfl rfl) (TL.nil (thn_normal (T.ret (inB_ret (thn_ret ?_))))))))
       cases some_i H
       exact ⟨trivial, _, (.tmp _ _ _ _ rfl (.tmp _ _ _ _ rfl .nil)), (.tupL (.cons _ _ _ _ (.cl _ rfl) (.cons _ _ _ _ (.cl _ rfl) .nil)))⟩
      ·replace H := cond_f h H
       refine T.skip (inB_normal (thn_normal (T.seq (T.region (TL.st rfl rfl rfl (o_assign rfl rfl) (TL.st rfl rfl rfl (o_assign rfl rfl) (TL.nil (thn_normal (T.ret ?_)))))))))
       cases some_i H
       exact ⟨trivial, _, (.tmp _ _ _ _ rfl (.tmp _ _ _ _ rfl .nil)), (.tupL (.cons _ _ _ _ (.cl _ rfl) (.cons _ _ _ _ (.cl _ rfl) .nil)))⟩
theorem en_87 (us : Array Value) (w : World) : (callFunc 87 us).run Go.Proofs.Tryz.prog w = .ok (.enter 87 us) w := enters Go.Proofs.Tryz.func87 rfl rfl us w
theorem tyS_50 : TyS Go.Proofs.Tryz.prog 50 false 1 := ⟨rfl, rfl⟩
noncomputable def slices_Index_l1 (a0 : (List ByteArray)) (a1 : ByteArray) : Int → Option (Int ⊕ (Unit ⊕ Int)) := fun s => match s with
  | v1 => cond (decide (v1 < (a0.length : Int))) ((idx a0 v1).bind fun e4 => cond (a1.toList == e4.toList) (some (.inr (.inr v1))) (some (.inl (IntKind.i64.wrap (v1 + 1))))) (some (.inr (.inl ())))
noncomputable def slices_Index (a0 : (List ByteArray)) (a1 : ByteArray) : Option Int :=
  (loopO (slices_Index_l1 a0 a1) 0).bind fun q6 => (match q6 with | .inl _ => some (-1) | .inr q2 => some q2)
theorem slices_Index_p (b0 : Bool) {a0 : (List ByteArray)} {a1 : ByteArray} {R0 : Int} (H : slices_Index a0 a1 = some R0) : Pure Go.Proofs.Tryz.prog 101 [.im b0 (a0.map (c_str)), .str a1] (.int .i64 R0) := by
 refine CallT.of_TN (n := 19) Go.Proofs.Tryz.func101 rfl rfl rfl rfl ?_
 refine T.seq (T.region (TL.st rfl rfl rfl (o_assign rfl rfl) (TL.nil (thn_normal (T.seq (T.seq (T.region (TL.st rfl rfl rfl (o_move rfl rfl) (TL.st rfl rfl rfl (o_lenL (f := c_str) rfl rfl rfl) ?_)))))))))
 refine TL.st rfl rfl rfl (o_move rfl rfl) (TL.nil (thn_normal (T.block ?_)))
 obtain ⟨q6, h7, H⟩ := bind_s H
 refine T.to (.cons 0 _ (.im b0 (a0.map (c_str))) _ rfl (.same _) rfl (.cons 1 _ (.str a1) _ rfl (.same _) rfl (.cons 7 _ (.int .i64 (a0.length : Int)) _ rfl (.same _) rfl (.cons 8 _ (.int .i64 0) _ rfl (.same _) rfl .nil)))) ?_
 refine T.lp (fun s => match s with | v1 => [(0, .im b0 (a0.map (c_str))), (1, .str a1), (7, .int .i64 (a0.length : Int)), (8, .int .i64 v1)]) (fun s => match s with | v1 => []) (fun q ex fr σ => match q with | .inl _ => ex = .exit 0 ∧ fr = [] ∧ σ = [] | .inr q2 => ex = .ret ∧ RetN Go.Proofs.Tryz.prog [.tmp 4] (fun v τ => Told τ v (.int .i64 q2)) .ret fr σ) h7 ?_ ?_ ?_ ?_ ?_
 ·rintro v1 y3 H
  refine T.seq (T.region (TL.st rfl rfl rfl (o_ari rfl rfl rfl rfl) (TL.nil (thn_normal (T.seq ?_)))))
  refine T.cond (decide (v1 < (a0.length : Int))) rfl (fun h => ?_) (fun h => ?_)
  ·replace H := cond_t h H
   refine T.skip (thn_normal (T.seq (T.block (T.seq (T.region (TL.st rfl rfl rfl (o_move rfl rfl) (TL.st rfl rfl rfl (o_assign rfl rfl) (TL.nil (thn_normal (T.seq (T.region (TL.st rfl rfl rfl (o_move rfl rfl) (TL.st rfl rfl rfl (o_move rfl rfl) (TL.st rfl rfl rfl (o_move rfl rfl) ?_))))))))))))))
   obtain ⟨e4, h5, H⟩ := bind_s H
   refine TL.st rfl rfl rfl (o_ix (f := c_str) rfl rfl tyS_9 rfl rfl h5 rfl) ?_
   refine TL.st rfl rfl rfl (o_loadRf rfl tyS_9 rfl (Nat.le_of_ble_eq_true rfl) rfl) ?_
   refine TL.st rfl rfl rfl (o_str rfl rfl rfl rfl) ?_
   refine TL.nil (thn_normal ?_)
   refine T.cond ((a1.toList == e4.toList)) rfl (fun h => ?_) (fun h => ?_)
   ·replace H := cond_t h H
    refine T.seq (T.region (TL.st rfl rfl rfl (o_move rfl rfl) (TL.st rfl rfl rfl (o_assign rfl rfl) (TL.nil (thn_normal (T.ret (inB_ret (thn_ret ?_))))))))
    exact Pk.id (thn_ret ⟨.inr v1, (some_i H).symm, rfl, ⟨trivial, _, (.tmp _ _ _ _ rfl .nil), (.cl _ rfl)⟩⟩)
   ·replace H := cond_f h H
    refine T.skip (inB_normal (thn_normal (T.region (TL.st rfl rfl rfl (o_ari rfl rfl rfl rfl) (TL.st rfl rfl rfl (o_move rfl rfl) (TL.nil ?_))))))
    exact Pk.go (fr' := [(0, .im b0 (a0.map (c_str))), (1, .str a1), (7, .int .i64 (a0.length : Int)), (8, .int .i64 (IntKind.i64.wrap (v1 + 1)))]) (σ' := []) _ rfl rfl trivial (.cons 0 _ (.im b0 (a0.map (c_str))) _ rfl (.same _) rfl (.cons 1 _ (.str a1) _ rfl (.same _) rfl (.cons 7 _ (.int .i64 (a0.length : Int)) _ rfl (.same _) rfl (.cons 8 _ (.int .i64 (IntKind.i64.wrap (v1 + 1))) _ rfl (.same _) rfl .nil)))) (thn_normal ⟨(IntKind.i64.wrap (v1 + 1)), (some_i H).symm, rfl, rfl⟩)
  ·replace H := cond_f h H
   refine T.exit (thn_exit ?_)
   exact Pk.go (fr' := []) (σ' := []) _ rfl rfl trivial .nil (thn_exit ⟨.inl (), (some_i H).symm, rfl, rfl, rfl⟩)
 ·rintro v1 v1'; rfl
 ·rintro v1; exact trivial
 ·rintro v1; exact (.cons _ _ _ rfl rfl (.cons _ _ _ rfl rfl (.cons _ _ _ rfl rfl (.cons _ _ _ rfl rfl .nil))))
 ·rcases q6 with ⟨⟩ | q2
  ·rintro _ _ _ ⟨rfl, rfl, rfl⟩
   refine inB_here (thn_normal (T.seq (T.region (TL.st rfl rfl rfl (o_assign rfl rfl) (TL.nil (thn_normal (T.ret ?_)))))))
   cases some_i H
   exact ⟨trivial, _, (.tmp _ _ _ _ rfl .nil), (.cl _ rfl)⟩
  ·rintro _ fr1 σ1 ⟨rfl, hr⟩
   refine inB_ret (thn_ret ?_)
   cases some_i H
   exact hr
theorem en_101 (us : Array Value) (w : World) : (callFunc 101 us).run Go.Proofs.Tryz.prog w = .ok (.enter 101 us) w := enters Go.Proofs.Tryz.func101 rfl rfl us w
noncomputable def slices_Contains (a0 : (List ByteArray)) (a1 : ByteArray) : Option Bool :=
  (slices_Index a0 a1).bind fun r1 => some (decide (r1 ≥ 0))
theorem slices_Contains_p (b0 : Bool) {a0 : (List ByteArray)} {a1 : ByteArray} {R0 : Bool} (H : slices_Contains a0 a1 = some R0) : Pure Go.Proofs.Tryz.prog 88 [.im b0 (a0.map (c_str)), .str a1] (.bool R0) := by
 refine CallT.of_TN (n := 9) Go.Proofs.Tryz.func88 rfl rfl rfl rfl ?_
 refine T.seq (T.region (TL.st rfl rfl rfl (o_assign rfl rfl) (TL.nil (thn_normal (T.seq (T.region (TL.st rfl rfl rfl (o_move rfl rfl) (TL.st rfl rfl rfl (o_move rfl rfl) ?_))))))))
 obtain ⟨r1, h2, H⟩ := bind_s H
 refine TL.st rfl rfl rfl (o_callP rfl en_101 rfl rfl (.cons _ _ _ _ (.imv _ _) (.cons _ _ _ _ (.cl _ rfl) .nil)) (slices_Index_p b0 h2)) ?_
 refine TL.st rfl rfl rfl (o_ari rfl rfl rfl rfl) (TL.st rfl rfl rfl (o_assign rfl rfl) (TL.nil (thn_normal (T.ret ?_))))
 cases some_i H
 exact ⟨trivial, _, (.tmp _ _ _ _ rfl .nil), (.cl _ rfl)⟩
theorem en_88 (us : Array Value) (w : World) : (callFunc 88 us).run Go.Proofs.Tryz.prog w = .ok (.enter 88 us) w := enters Go.Proofs.Tryz.func88 rfl rfl us w
theorem tyE_3 : TyE Go.Proofs.Tryz.prog 3 1 := ⟨_, _, rfl, rfl, rfl, rfl, by decide, by decide⟩
noncomputable def impl_ypattern_j1 (l6 : List Int) (v7 : Int) : Option ((List Int × Int) ⊕ (List Int ⊕ ((List Int) × Bool))) :=
  some (.inl (l6, (IntKind.i64.wrap (v7 + 1))))
noncomputable def impl_ypattern_l1 (a0 : ByteArray) : (List Int × Int) → Option ((List Int × Int) ⊕ (List Int ⊕ ((List Int) × Bool))) := fun s => match s with
  | (l1, v2) => cond (decide (v2 < (a0.size : Int))) ((idxS a0 v2).bind fun b8 => cond (b8 == 42) ((app l1 ([(-1)] : List Int)).bind fun l10 => impl_ypattern_j1 l10 v2) ((idxS a0 v2).bind fun b12 => cond (b12 == 92) ((gdO (!(decide ((IntKind.i64.wrap (v2 + 1)) ≥ (a0.size : Int)))) (idxS a0 (IntKind.i64.wrap (v2 + 1)))).bind fun b14 => (gdO ((!(decide ((IntKind.i64.wrap (v2 + 1)) ≥ (a0.size : Int)))) && (b14 != 42)) (idxS a0 (IntKind.i64.wrap (v2 + 1)))).bind fun b16 => cond (decide ((IntKind.i64.wrap (v2 + 1)) ≥ (a0.size : Int)) || ((b14 != 42) && (b16 != 92))) (some (.inr (.inr (([] : List Int), false)))) ((idxS a0 (IntKind.i64.wrap (v2 + 1))).bind fun b18 => (app l1 ([(IntKind.i64.wrap b18)] : List Int)).bind fun l20 => impl_ypattern_j1 l20 (IntKind.i64.wrap (v2 + 1)))) ((idxS a0 v2).bind fun b22 => (app l1 ([(IntKind.i64.wrap b22)] : List Int)).bind fun l24 => impl_ypattern_j1 l24 v2))) (some (.inr (.inl l1)))
noncomputable def impl_ypattern (a0 : ByteArray) : Option ((List Int) × Bool) :=
  (loopO (impl_ypattern_l1 a0) (([] : List Int), 0)).bind fun q26 => (match q26 with | .inl l3 => some (l3, true) | .inr q4 => some q4)
end Go.G36.ZL
