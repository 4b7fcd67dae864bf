import Derived.Test.YtinppnmnmgcibaaGreatDoorBW2
set_option linter.all false
set_option maxRecDepth 20000
set_option maxHeartbeats 4000000
namespace Go.G36.BW
open Go Go.Proofs Go.G36.BD
theorem impl_yattack_authorize_p (_u0 : Bool) {a0 : ByteArray} {a1 : ByteArray} {s0 : T_impl_yattack} {s3 : List T_impl_yheld} {R0 : T_impl_GrantReply} {U0 : T_impl_yattack} {U3 : List T_impl_yheld} (H : impl_yattack_authorize a0 a1 s0 s3 = some (R0, U0, U3)) : St Go.Proofs.Tryz.prog 39 [.bx 0 0, .str a0, .str a1] [.box (k_impl_yattack 1 5 6 7 3 false s0), .box (k_impl_yserver 2 4 3 false s0.v_), .arr .raw 1 (s0.v_.held_.map (c_px 3)), .fam (s3.map (c_T_impl_yheld 3 false)), mpO (V.int .i64) (V.bool) s0.v_.ended_, .arr .clo 12 (s0.asks_.map (c_T_impl_GrantAsk false)), .arr .clo 1 (s0.res_.Errs_.map (c_int .i64)), .arr .clo 1 (s0.res_.Known_.map (c_str))] (.agg (c_T_impl_GrantReply false R0)) [.box (k_impl_yattack 1 5 6 7 3 false (⟨U0.c_, U0.x_, default, U0.time_, U0.asks_, (⟨U0.res_.Errs_, U0.res_.Known_, U0.res_.Won_, U0.res_.Injected_⟩ : T_impl_AttackRes), U0.begun_, U0.open_, U0.verifier_⟩ : T_impl_yattack)), .box (k_impl_yserver 2 4 3 false (⟨U0.v_.s_, U0.v_.now_, U0.v_.held_, default, U0.v_.grants_⟩ : T_impl_yserver)), .arr .raw 1 (U0.v_.held_.map (c_px 3)), .fam (U3.map (c_T_impl_yheld 3 false)), mpO (V.int .i64) (V.bool) U0.v_.ended_, .arr .clo 12 (U0.asks_.map (c_T_impl_GrantAsk false)), .arr .clo 1 (U0.res_.Errs_.map (c_int .i64)), .arr .clo 1 (U0.res_.Known_.map (c_str))] := by
 refine CallT.fin (CallT.of_TN (n := 26) Go.Proofs.Tryz.func39 rfl rfl rfl rfl ?_) rfl rfl ⟨(bels_iff.1 rfl), ⟨(bels_iff.1 rfl), ⟨(belRaw fun _ => rfl), ⟨(belFam fun _ => rfl), ⟨(belMap fun _ => rfl), ⟨trivial, ⟨trivial, ⟨trivial, trivial⟩⟩⟩⟩⟩⟩⟩⟩
 refine T.seq (T.region (TL.st rfl rfl rfl (o_alloc rfl ⟨_, rfl, rfl⟩) (TL.nil (thn_normal (T.seq (T.drawn rfl ?_))))))
 refine TD.qs rfl rfl (fun _ => o_move rfl rfl) (TD.qs rfl rfl (fun _ => o_move rfl rfl) (TD.qs rfl rfl (fun _ => o_nilCheck rfl rfl rfl) (TD.rs rfl rfl (o_fieldAddr rfl rfl rfl tyS_50 (by decide) rfl rfl ⟨_, rfl, Nat.le_of_ble_eq_true rfl⟩) ?_)))
 refine TD.rs rfl rfl (o_fieldAddr rfl rfl rfl tyS_30 (by decide) rfl rfl ⟨_, rfl, Nat.le_of_ble_eq_true rfl⟩) ?_
 refine TD.rs rfl rfl (o_loadBx rfl tyS_30 rfl rfl (Nat.le_of_ble_eq_true rfl) rfl) ?_
 obtain ⟨e1, h2, H⟩ := bind_s H
 refine TD.qs rfl rfl (fun _ => o_ix (f := c_str) rfl rfl tyS_9 rfl rfl h2 rfl) ?_
 refine TD.qs rfl rfl (fun _ => o_loadRf rfl tyS_9 rfl (Nat.le_of_ble_eq_true rfl) rfl) ?_
 refine TD.qs rfl rfl (fun _ => o_move rfl rfl) ?_
 obtain ⟨r3, h4, H⟩ := bind_s H
 refine TD.qs rfl rfl (fun _ => o_callP rfl en_72 rfl rfl (.cons _ _ _ _ (.cl _ rfl) .nil) (impl_ChallengeOf_p  h4)) ?_
 refine TD.qs rfl rfl (fun _ => o_move rfl rfl) (TD.qs rfl rfl (fun _ => o_move rfl rfl) (TD.qs rfl rfl (fun _ => o_nilCheck rfl rfl rfl) (TD.rs rfl rfl (o_fieldAddr rfl rfl rfl tyS_50 (by decide) rfl rfl ⟨_, rfl, Nat.le_of_ble_eq_true rfl⟩) ?_)))
 refine TD.rs rfl rfl (o_fieldAddr rfl rfl rfl tyS_30 (by decide) rfl rfl ⟨_, rfl, Nat.le_of_ble_eq_true rfl⟩) ?_
 refine TD.rs rfl rfl (o_loadBx rfl tyS_30 rfl rfl (Nat.le_of_ble_eq_true rfl) rfl) ?_
 obtain ⟨r5, h6, H⟩ := bind_s H
 refine TD.qs rfl rfl (fun _ => o_callP rfl en_69 rfl rfl (.cons _ _ _ _ (.cl _ rfl) .nil) (slices_Clone_p false h6)) ?_
 refine TD.qs rfl rfl (fun _ => o_build rfl ⟨_, fun _ => rfl, rfl⟩ rfl rfl rfl) ?_
 obtain ⟨⟨r7, o8, o9⟩, h10, H⟩ := bind_s H
 refine TD.as rfl rfl (o_callM [0, 1, 2, 3, 4, 5, 6, 7] rfl en_42 rfl rfl (impl_yattack_ask_p false false h10) rfl (by decide) (.cons _ _ _ _ rfl (.cons _ _ _ _ rfl (.cons _ _ _ _ (ren_at rfl (ren_rawO fun _ => rfl)) (.cons _ _ _ _ (ren_at rfl (ren_famO fun _ => rfl)) (.cons _ _ _ _ (ren_at rfl (ren_mpO fun _ => rfl)) (.cons _ _ _ _ rfl (.cons _ _ _ _ rfl (.cons _ _ _ _ rfl .nil)))))))) rfl rfl (.cons _ _ _ _ rfl (.cons _ _ _ _ rfl (.cons _ _ _ _ (ren_rawO fun _ => rfl) (.cons _ _ _ _ (ren_famO fun _ => rfl) (.cons _ _ _ _ (ren_mpO fun _ => rfl) (.cons _ _ _ _ rfl (.cons _ _ _ _ rfl (.cons _ _ _ _ rfl .nil)))))))) rfl) ?_
 refine TD.an rfl rfl (o_storeBx rfl tyS_84 rfl rfl rfl rfl (Nat.le_of_ble_eq_true rfl) rfl) ?_
 refine TD.nil ⟨rfl, ?_⟩
 refine thn_normal (T.conv (Cs.eqS (σ' := [.box (k_impl_yattack 1 5 6 7 3 false o8), .box (k_impl_yserver 2 4 3 false o8.v_), .arr .raw 1 (o8.v_.held_.map (c_px 3)), .fam (o9.map (c_T_impl_yheld 3 false)), mpO (V.int .i64) (V.bool) o8.v_.ended_, .arr .clo 12 (o8.asks_.map (c_T_impl_GrantAsk false)), .arr .clo 1 (o8.res_.Errs_.map (c_int .i64)), .arr .clo 1 (o8.res_.Known_.map (c_str)), .box (c_T_impl_GrantReply false r7)]) rfl) ?_)
 refine T.ret ?_
 cases some_i H
 exact ⟨trivial, _, (.cell _ _ _ _ _ _ _ _ _ _ rfl rfl tyS_84 (Nat.le_of_ble_eq_true rfl) rfl .nil), ⟨rfl, _, rfl⟩⟩
theorem en_39 (us : Array Value) (w : World) : (callFunc 39 us).run Go.Proofs.Tryz.prog w = .ok (.enter 39 us) w := enters Go.Proofs.Tryz.func39 rfl rfl us w
noncomputable def impl_yattack_learn_l1 (a0 : T_impl_GrantReply) : (T_impl_yattack × Int) → Option ((T_impl_yattack × Int) ⊕ T_impl_yattack) := fun s => match s with
  | (b1, v2) => cond (decide (v2 < (([a0.Code_, a0.Access_, a0.Refresh_] : List ByteArray).length : Int))) ((idx ([a0.Code_, a0.Access_, a0.Refresh_] : List ByteArray) v2).bind fun e5 => (gdO (!(e5.toList == (ByteArray.mk #[]).toList)) (slices_Containsx b1.res_.Known_ e5)).bind fun r7 => cond ((!(e5.toList == (ByteArray.mk #[]).toList)) && (!r7)) ((app b1.res_.Known_ ([e5] : List ByteArray)).bind fun l9 => some (.inl (({ b1 with res_ := ({ b1.res_ with Known_ := l9 } : T_impl_AttackRes) } : T_impl_yattack), (IntKind.i64.wrap (v2 + 1))))) (some (.inl (b1, (IntKind.i64.wrap (v2 + 1)))))) (some (.inr b1))
noncomputable def impl_yattack_learn (a0 : T_impl_GrantReply) (s0 : T_impl_yattack) (s3 : List T_impl_yheld) : Option T_impl_yattack :=
  (loopO (impl_yattack_learn_l1 a0) (s0, 0)).bind fun b3 => (match b3 with | b3 => cond ((!(a0.Access_.toList == (ByteArray.mk #[]).toList)) && (a0.User_.toList == (ByteArray.mk #[97, 110, 110]).toList)) (some ({ b3 with res_ := ({ b3.res_ with Won_ := true } : T_impl_AttackRes) } : T_impl_yattack)) (some b3))
theorem impl_yattack_learn_p (b0 : Bool) (c0 : Bool) {a0 : T_impl_GrantReply} {s0 : T_impl_yattack} {s3 : List T_impl_yheld} {U0 : T_impl_yattack} (H : impl_yattack_learn a0 s0 s3 = some U0) : St Go.Proofs.Tryz.prog 40 [.bx 0 0, .agg (c_T_impl_GrantReply b0 a0)] [.box (k_impl_yattack 1 5 6 7 3 c0 s0), .box (k_impl_yserver 2 4 3 c0 s0.v_), .arr .raw 1 (s0.v_.held_.map (c_px 3)), .fam (s3.map (c_T_impl_yheld 3 false)), mpO (V.int .i64) (V.bool) s0.v_.ended_, .arr .clo 12 (s0.asks_.map (c_T_impl_GrantAsk false)), .arr .clo 1 (s0.res_.Errs_.map (c_int .i64)), .arr .clo 1 (s0.res_.Known_.map (c_str))] (.tup []) [.box (k_impl_yattack 1 5 6 7 3 c0 (⟨U0.c_, U0.x_, default, U0.time_, U0.asks_, (⟨U0.res_.Errs_, U0.res_.Known_, U0.res_.Won_, U0.res_.Injected_⟩ : T_impl_AttackRes), U0.begun_, U0.open_, U0.verifier_⟩ : T_impl_yattack)), .box (k_impl_yserver 2 4 3 c0 (⟨U0.v_.s_, U0.v_.now_, U0.v_.held_, default, U0.v_.grants_⟩ : T_impl_yserver)), .arr .raw 1 (U0.v_.held_.map (c_px 3)), .fam (s3.map (c_T_impl_yheld 3 false)), mpO (V.int .i64) (V.bool) U0.v_.ended_, .arr .clo 12 (U0.asks_.map (c_T_impl_GrantAsk false)), .arr .clo 1 (U0.res_.Errs_.map (c_int .i64)), .arr .clo 1 (U0.res_.Known_.map (c_str))] := by
 refine CallT.fin (CallT.of_TN (n := 55) Go.Proofs.Tryz.func40 rfl rfl rfl rfl ?_) rfl rfl ⟨(bels_iff.1 rfl), ⟨(bels_iff.1 rfl), ⟨(belRaw fun _ => rfl), ⟨(belFam fun _ => rfl), ⟨(belMap fun _ => rfl), ⟨trivial, ⟨trivial, ⟨trivial, trivial⟩⟩⟩⟩⟩⟩⟩⟩
 refine T.seq (T.region (TL.st rfl rfl rfl (o_box rfl rfl rfl) (TL.nil (thn_normal (T.seq (T.seq (T.region (TL.st rfl rfl rfl (o_fieldAddr rfl rfl rfl tyS_9 (by decide) rfl rfl ⟨_, rfl, Nat.le_of_ble_eq_true rfl⟩) ?_))))))))
 refine TL.st rfl rfl rfl (o_loadBx rfl tyS_9 rfl rfl (Nat.le_of_ble_eq_true rfl) rfl) ?_
 refine TL.st rfl rfl rfl (o_fieldAddr rfl rfl rfl tyS_9 (by decide) rfl rfl ⟨_, rfl, Nat.le_of_ble_eq_true rfl⟩) ?_
 refine TL.st rfl rfl rfl (o_loadBx rfl tyS_9 rfl rfl (Nat.le_of_ble_eq_true rfl) rfl) ?_
 refine TL.st rfl rfl rfl (o_fieldAddr rfl rfl rfl tyS_9 (by decide) rfl rfl ⟨_, rfl, Nat.le_of_ble_eq_true rfl⟩) ?_
 refine TL.st rfl rfl rfl (o_loadBx rfl tyS_9 rfl rfl (Nat.le_of_ble_eq_true rfl) rfl) ?_
 refine TL.st rfl rfl rfl (o_sliceIm (rows := ([a0.Code_, a0.Access_, a0.Refresh_] : List ByteArray).map (c_str)) rfl rfl tyS_9 ⟨_, rfl, rfl⟩ (by decide) rfl rfl rfl rfl rfl rfl) ?_
 refine TL.st rfl rfl rfl (o_lenL (f := c_str) rfl rfl rfl) ?_
 refine TL.st rfl rfl rfl (o_move rfl rfl) (TL.nil (thn_normal (T.block ?_)))
 obtain ⟨b3, h12, H⟩ := bind_s H
 refine T.lq (fun s => match s with | (b1, v2) => [(0, .bx 0 0), (3, .bx 8 0), (12, .im false (([a0.Code_, a0.Access_, a0.Refresh_] : List ByteArray).map (c_str))), (13, .int .i64 (([a0.Code_, a0.Access_, a0.Refresh_] : List ByteArray).length : Int)), (14, .int .i64 v2)]) (fun s => match s with | (b1, v2) => [.box (k_impl_yattack 1 5 6 7 3 c0 b1), .box (k_impl_yserver 2 4 3 c0 b1.v_), .arr .raw 1 (b1.v_.held_.map (c_px 3)), .fam (s3.map (c_T_impl_yheld 3 false)), mpO (V.int .i64) (V.bool) b1.v_.ended_, .arr .clo 12 (b1.asks_.map (c_T_impl_GrantAsk false)), .arr .clo 1 (b1.res_.Errs_.map (c_int .i64)), .arr .clo 1 (b1.res_.Known_.map (c_str)), .box (c_T_impl_GrantReply b0 a0)]) (fun q ex fr σ => match q with | b3 => ex = .exit 0 ∧ fr = [(0, .bx 0 0), (3, .bx 8 0)] ∧ σ = [.box (k_impl_yattack 1 5 6 7 3 c0 b3), .box (k_impl_yserver 2 4 3 c0 b3.v_), .arr .raw 1 (b3.v_.held_.map (c_px 3)), .fam (s3.map (c_T_impl_yheld 3 false)), mpO (V.int .i64) (V.bool) b3.v_.ended_, .arr .clo 12 (b3.asks_.map (c_T_impl_GrantAsk false)), .arr .clo 1 (b3.res_.Errs_.map (c_int .i64)), .arr .clo 1 (b3.res_.Known_.map (c_str)), .box (c_T_impl_GrantReply b0 a0)]) h12 ?_ ?_
 ·rintro ⟨b1, v2⟩ y4 H
  refine T.seq (T.region (TL.st rfl rfl rfl (o_ari rfl rfl rfl rfl) (TL.nil (thn_normal (T.seq ?_)))))
  refine T.cond (decide (v2 < (([a0.Code_, a0.Access_, a0.Refresh_] : List ByteArray).length : Int))) rfl (fun h => ?_) (fun h => ?_)
  ·replace H := cond_t h H
   refine T.skip (thn_normal (T.seq (T.block (T.seq (T.region ?_)))))
   obtain ⟨e5, h6, H⟩ := bind_s H
   refine TL.st rfl rfl rfl (o_ix (f := c_str) rfl rfl tyS_9 rfl rfl h6 rfl) ?_
   refine TL.st rfl rfl rfl (o_loadRf rfl tyS_9 rfl (Nat.le_of_ble_eq_true rfl) rfl) ?_
   refine TL.st rfl rfl rfl (o_assign rfl rfl) (TL.nil (thn_normal (T.seq (T.region (TL.st rfl rfl rfl (o_move rfl rfl) (TL.st rfl rfl rfl (o_str rfl rfl rfl rfl) ?_))))))
   refine TL.st rfl rfl rfl (o_move rfl rfl) (TL.gcq rfl rfl rfl (.bool _) rfl rfl (fun h => o_move rfl rfl) (TL.gcq rfl rfl rfl (.bool _) rfl rfl (fun h => o_nilCheck rfl (gv h rfl) rfl) ?_))
   refine TL.gcq rfl rfl rfl (.bool _) rfl rfl (fun h => o_fieldAddr rfl rfl rfl tyS_32 (by decide) (gv h rfl) rfl ⟨_, rfl, Nat.le_of_ble_eq_true rfl⟩) ?_
   refine TL.gcq rfl rfl rfl (.bool _) rfl rfl (fun h => o_fieldAddr rfl rfl rfl tyS_30 (by decide) (gv h rfl) rfl ⟨_, rfl, Nat.le_of_ble_eq_true rfl⟩) ?_
   refine TL.gcq rfl rfl rfl (.bool _) rfl rfl (fun h => o_loadBx rfl tyS_30 (gv h rfl) rfl (Nat.le_of_ble_eq_true rfl) rfl) ?_
   refine TL.gcq rfl rfl rfl (.bool _) rfl rfl (fun h => o_move rfl rfl) ?_
   obtain ⟨r7, h8, H⟩ := bind_s H
   refine TL.gcq rfl rfl rfl (.bool _) rfl rfl (fun h => o_callP rfl en_73 rfl (evl_2 (gv h rfl) (gv h rfl)) (.cons _ _ _ _ (.own rfl (by decide) rfl) (.cons _ _ _ _ (.cl _ rfl) .nil)) (slices_Containsx_p true (gdO_t h8 h))) ?_
   refine TL.gcq rfl rfl rfl (.bool _) rfl rfl (fun h => o_not rfl (gv h rfl)) ?_
   refine TL.st rfl rfl rfl (o_and rfl rfl rfl (fun k => Gd_t k) rfl) (TL.nil (thn_normal ?_))
   refine T.cond (((!(e5.toList == (ByteArray.mk #[]).toList)) && (!r7))) rfl (fun h => ?_) (fun h => ?_)
   ·replace H := cond_t h H
    refine T.region (TL.st rfl rfl rfl (o_move rfl rfl) (TL.st rfl rfl rfl (o_move rfl rfl) (TL.st rfl rfl rfl (o_nilCheck rfl rfl rfl) (TL.st rfl rfl rfl (o_fieldAddr rfl rfl rfl tyS_32 (by decide) rfl rfl ⟨_, rfl, Nat.le_of_ble_eq_true rfl⟩) ?_))))
    refine TL.st rfl rfl rfl (o_fieldAddr rfl rfl rfl tyS_30 (by decide) rfl rfl ⟨_, rfl, Nat.le_of_ble_eq_true rfl⟩) ?_
    refine TL.st rfl rfl rfl (o_loadBx rfl tyS_30 rfl rfl (Nat.le_of_ble_eq_true rfl) rfl) ?_
    refine TL.st rfl rfl rfl (o_move rfl rfl) (TL.st rfl rfl rfl (o_sliceIm (rows := ([e5] : List ByteArray).map (c_str)) rfl rfl tyS_9 ⟨_, rfl, rfl⟩ (by decide) rfl rfl rfl rfl rfl rfl) ?_)
    obtain ⟨l9, h10, H⟩ := bind_s H
    refine TL.st rfl rfl rfl (o_ap (f := c_str) (xs := b1.res_.Known_) (ys := ([e5] : List ByteArray)) rfl rfl tyE_9 rfl rfl rfl rfl (by decide) rfl (fun _ => rfl) h10) ?_
    refine TL.st rfl rfl rfl (o_nilCheck rfl rfl rfl) (TL.st rfl rfl rfl (o_fieldAddr rfl rfl rfl tyS_32 (by decide) rfl rfl ⟨_, rfl, Nat.le_of_ble_eq_true rfl⟩) ?_)
    refine TL.st rfl rfl rfl (o_fieldAddr rfl rfl rfl tyS_30 (by decide) rfl rfl ⟨_, rfl, Nat.le_of_ble_eq_true rfl⟩) ?_
    refine TL.sn rfl rfl (o_storeBx rfl tyS_30 rfl rfl rfl rfl (Nat.le_of_ble_eq_true rfl) (sure_hd rfl rfl rfl)) ?_
    refine TL.nil (inB_normal (thn_normal (T.region (TL.st rfl rfl rfl (o_ari rfl rfl rfl rfl) (TL.st rfl rfl rfl (o_move rfl rfl) (TL.nil ?_))))))
    exact Pk.of (thn_normal ⟨(({ b1 with res_ := ({ b1.res_ with Known_ := l9 } : T_impl_AttackRes) } : T_impl_yattack), (IntKind.i64.wrap (v2 + 1))), (some_i H).symm, rfl, rfl⟩)
   ·replace H := cond_f h H
    refine T.skip (inB_normal (thn_normal (T.region (TL.st rfl rfl rfl (o_ari rfl rfl rfl rfl) (TL.st rfl rfl rfl (o_move rfl rfl) (TL.nil ?_))))))
    exact Pk.of (thn_normal ⟨(b1, (IntKind.i64.wrap (v2 + 1))), (some_i H).symm, rfl, rfl⟩)
  ·replace H := cond_f h H
   refine T.exit (thn_exit ?_)
   exact Pk.of (thn_exit ⟨b1, (some_i H).symm, rfl, rfl, rfl⟩)
 ·rintro _ _ _ ⟨rfl, rfl, rfl⟩
  refine inB_here (thn_normal (T.seq (T.region (TL.st rfl rfl rfl (o_fieldAddr rfl rfl rfl tyS_9 (by decide) rfl rfl ⟨_, rfl, Nat.le_of_ble_eq_true rfl⟩) ?_))))
  refine TL.st rfl rfl rfl (o_loadBx rfl tyS_9 rfl rfl (Nat.le_of_ble_eq_true rfl) rfl) ?_
  refine TL.st rfl rfl rfl (o_str rfl rfl rfl rfl) ?_
  refine TL.st rfl rfl rfl (o_move rfl rfl) (TL.gcq rfl rfl rfl (.bool _) rfl rfl (fun h => o_fieldAddr rfl rfl rfl tyS_9 (by decide) rfl rfl ⟨_, rfl, Nat.le_of_ble_eq_true rfl⟩) ?_)
  refine TL.gcq rfl rfl rfl (.bool _) rfl rfl (fun h => o_loadBx rfl tyS_9 (gv h rfl) rfl (Nat.le_of_ble_eq_true rfl) rfl) ?_
  refine TL.gcq rfl rfl rfl (.bool _) rfl rfl (fun h => o_str rfl (gv h rfl) rfl rfl) ?_
  refine TL.st rfl rfl rfl (o_and rfl rfl rfl (fun k => Gd_t k) rfl) (TL.nil (thn_normal ?_))
  refine T.cond (((!(a0.Access_.toList == (ByteArray.mk #[]).toList)) && (a0.User_.toList == (ByteArray.mk #[97, 110, 110]).toList))) rfl (fun h => ?_) (fun h => ?_)
  ·replace H := cond_t h H
   refine T.region (TL.st rfl rfl rfl (o_move rfl rfl) (TL.st rfl rfl rfl (o_nilCheck rfl rfl rfl) (TL.st rfl rfl rfl (o_fieldAddr rfl rfl rfl tyS_32 (by decide) rfl rfl ⟨_, rfl, Nat.le_of_ble_eq_true rfl⟩) ?_)))
   refine TL.st rfl rfl rfl (o_fieldAddr rfl rfl rfl tyS_4 (by decide) rfl rfl ⟨_, rfl, Nat.le_of_ble_eq_true rfl⟩) ?_
   refine TL.sn rfl rfl (o_storeBx rfl tyS_4 rfl rfl rfl rfl (Nat.le_of_ble_eq_true rfl) rfl) ?_
   refine TL.nil ?_
   cases some_i H
   exact ⟨trivial, _, .nil, ⟨rfl, _, rfl⟩⟩
  ·replace H := cond_f h H
   refine T.skip ?_
   cases some_i H
   exact ⟨trivial, _, .nil, ⟨rfl, _, rfl⟩⟩
theorem en_40 (us : Array Value) (w : World) : (callFunc 40 us).run Go.Proofs.Tryz.prog w = .ok (.enter 40 us) w := enters Go.Proofs.Tryz.func40 rfl rfl us w
noncomputable def impl_yattack_pick (a0 : Int) (s0 : T_impl_yattack) (s3 : List T_impl_yheld) : Option ByteArray :=
  cond ((s0.res_.Known_.length : Int) == 0) (some (ByteArray.mk #[])) ((nz (s0.res_.Known_.length : Int)).bind fun z1 => (idx s0.res_.Known_ (Int.tmod a0 (s0.res_.Known_.length : Int))).bind fun e3 => some e3)
theorem impl_yattack_pick_p (c0 : Bool) {a0 : Int} {s0 : T_impl_yattack} {s3 : List T_impl_yheld} {R0 : ByteArray} (H : impl_yattack_pick a0 s0 s3 = some R0) : St Go.Proofs.Tryz.prog 41 [.bx 0 0, .int .i64 a0] [.box (k_impl_yattack 1 5 6 7 3 c0 s0), .box (k_impl_yserver 2 4 3 c0 s0.v_), .arr .raw 1 (s0.v_.held_.map (c_px 3)), .fam (s3.map (c_T_impl_yheld 3 false)), mpO (V.int .i64) (V.bool) s0.v_.ended_, .arr .clo 12 (s0.asks_.map (c_T_impl_GrantAsk false)), .arr .clo 1 (s0.res_.Errs_.map (c_int .i64)), .arr .clo 1 (s0.res_.Known_.map (c_str))] (.str R0) [.box (k_impl_yattack 1 5 6 7 3 c0 s0), .box (k_impl_yserver 2 4 3 c0 s0.v_), .arr .raw 1 (s0.v_.held_.map (c_px 3)), .fam (s3.map (c_T_impl_yheld 3 false)), mpO (V.int .i64) (V.bool) s0.v_.ended_, .arr .clo 12 (s0.asks_.map (c_T_impl_GrantAsk false)), .arr .clo 1 (s0.res_.Errs_.map (c_int .i64)), .arr .clo 1 (s0.res_.Known_.map (c_str))] := by
 refine CallT.fin (CallT.of_TN (n := 27) Go.Proofs.Tryz.func41 rfl rfl rfl rfl ?_) rfl rfl ⟨(bels_iff.1 rfl), ⟨(bels_iff.1 rfl), ⟨(belRaw fun _ => rfl), ⟨(belFam fun _ => rfl), ⟨(belMap fun _ => rfl), ⟨trivial, ⟨trivial, ⟨trivial, trivial⟩⟩⟩⟩⟩⟩⟩⟩
 refine T.seq (T.region (TL.st rfl rfl rfl (o_assign rfl rfl) (TL.nil (thn_normal (T.seq (T.seq (T.region (TL.st rfl rfl rfl (o_move rfl rfl) (TL.st rfl rfl rfl (o_nilCheck rfl rfl rfl) (TL.st rfl rfl rfl (o_fieldAddr rfl rfl rfl tyS_32 (by decide) rfl rfl ⟨_, rfl, Nat.le_of_ble_eq_true rfl⟩) ?_))))))))))
 refine TL.st rfl rfl rfl (o_fieldAddr rfl rfl rfl tyS_30 (by decide) rfl rfl ⟨_, rfl, Nat.le_of_ble_eq_true rfl⟩) ?_
 refine TL.st rfl rfl rfl (o_loadBx rfl tyS_30 rfl rfl (Nat.le_of_ble_eq_true rfl) rfl) ?_
 refine TL.st rfl rfl rfl (o_lenOwn (f := c_str) rfl rfl rfl rfl rfl) ?_
 refine TL.st rfl rfl rfl (o_ari rfl rfl rfl rfl) (TL.nil (thn_normal ?_))
 refine T.cond (((s0.res_.Known_.length : Int) == 0)) rfl (fun h => ?_) (fun h => ?_)
 ·replace H := cond_t h H
  refine T.seq (T.region (TL.st rfl rfl rfl (o_assign rfl rfl) (TL.nil (thn_normal (T.ret (thn_ret ?_))))))
  cases some_i H
  exact ⟨trivial, _, (.tmp _ _ _ _ rfl .nil), ⟨rfl, _, rfl⟩⟩
 ·replace H := cond_f h H
  refine T.skip (thn_normal (T.seq (T.drawn rfl ?_)))
  refine TD.qs rfl rfl (fun _ => o_move rfl rfl) (TD.qs rfl rfl (fun _ => o_nilCheck rfl rfl rfl) (TD.rs rfl rfl (o_fieldAddr rfl rfl rfl tyS_32 (by decide) rfl rfl ⟨_, rfl, Nat.le_of_ble_eq_true rfl⟩) ?_))
  refine TD.rs rfl rfl (o_fieldAddr rfl rfl rfl tyS_30 (by decide) rfl rfl ⟨_, rfl, Nat.le_of_ble_eq_true rfl⟩) ?_
  refine TD.rs rfl rfl (o_loadBx rfl tyS_30 rfl rfl (Nat.le_of_ble_eq_true rfl) rfl) ?_
  refine TD.qs rfl rfl (fun _ => o_move rfl rfl) (TD.qs rfl rfl (fun _ => o_move rfl rfl) (TD.qs rfl rfl (fun _ => o_nilCheck rfl rfl rfl) (TD.rs rfl rfl (o_fieldAddr rfl rfl rfl tyS_32 (by decide) rfl rfl ⟨_, rfl, Nat.le_of_ble_eq_true rfl⟩) ?_)))
  refine TD.rs rfl rfl (o_fieldAddr rfl rfl rfl tyS_30 (by decide) rfl rfl ⟨_, rfl, Nat.le_of_ble_eq_true rfl⟩) ?_
  refine TD.rs rfl rfl (o_loadBx rfl tyS_30 rfl rfl (Nat.le_of_ble_eq_true rfl) rfl) ?_
  refine TD.rs rfl rfl (o_lenOwn (f := c_str) rfl rfl rfl rfl rfl) ?_
  obtain ⟨z1, h2, H⟩ := bind_s H
  refine TD.qs rfl rfl (fun _ => o_rem rfl rfl rfl (nz_s h2).1) ?_
  obtain ⟨e3, h4, H⟩ := bind_s H
  refine TD.rs rfl rfl (o_ixh (f := c_str) rfl rfl tyS_9 rfl rfl rfl rfl h4 rfl) ?_
  refine TD.rs rfl rfl (o_loadEl rfl tyS_9 rfl rfl rfl (by rw [List.getElem?_map, (idx_s h4).2]; rfl) (Nat.le_of_ble_eq_true rfl) rfl) ?_
  refine TD.qs rfl rfl (fun _ => o_assign rfl rfl) ?_
  refine TD.nil ⟨rfl, ?_⟩
  refine thn_normal (T.ret ?_)
  cases some_i H
  exact ⟨trivial, _, (.tmp _ _ _ _ rfl .nil), ⟨rfl, _, rfl⟩⟩
theorem en_41 (us : Array Value) (w : World) : (callFunc 41 us).run Go.Proofs.Tryz.prog w = .ok (.enter 41 us) w := enters Go.Proofs.Tryz.func41 rfl rfl us w
noncomputable def impl_yattack_move_j1 (r3 : T_impl_GrantReply) (o5 : List T_impl_yheld) (b7 : T_impl_yattack) : Option (Int × T_impl_yattack × List T_impl_yheld) :=
  some (r3.Err_, b7, o5)
noncomputable def impl_yattack_move_j4 (r14 : T_impl_GrantReply) (o16 : List T_impl_yheld) (b18 : T_impl_yattack) : Option (Int × T_impl_yattack × List T_impl_yheld) :=
  some (r14.Err_, b18, o16)
noncomputable def impl_yattack_move_j3 (a0 : T_impl_Move) (s0 : T_impl_yattack) (s3 : List T_impl_yheld) (v11 : ByteArray) : Option (Int × T_impl_yattack × List T_impl_yheld) :=
  (idx s0.x_.Redirects_ 0).bind fun e12 => (impl_yattack_ask (⟨2, 0, (ByteArray.mk #[]), s0.c_.Secret_, e12, (ByteArray.mk #[]), s0.verifier_, (ByteArray.mk #[]), v11, ([] : List ByteArray), (ByteArray.mk #[]), false⟩ : T_impl_GrantAsk) ({ s0 with time_ := (IntKind.i64.wrap (s0.time_ + a0.Wait_)), open_ := (ByteArray.mk #[]) } : T_impl_yattack) s3).bind fun q => (match q with | (r14, o15, o16) => cond (((a0.Kind_ == 3) && (r14.Err_ == 0)) && (!(r14.User_.toList == (ByteArray.mk #[97, 110, 110]).toList))) (impl_yattack_move_j4 r14 o16 ({ o15 with res_ := ({ o15.res_ with Injected_ := true } : T_impl_AttackRes) } : T_impl_yattack)) (impl_yattack_move_j4 r14 o16 o15))
noncomputable def impl_yattack_move_j5 (a0 : T_impl_Move) (s0 : T_impl_yattack) (s3 : List T_impl_yheld) (b31 : T_impl_GrantAsk) : Option (Int × T_impl_yattack × List T_impl_yheld) :=
  (impl_yattack_ask b31 ({ s0 with time_ := (IntKind.i64.wrap (s0.time_ + a0.Wait_)) } : T_impl_yattack) s3).bind fun q => (match q with | (r32, o33, o34) => (impl_yattack_learn r32 o33 o34).bind fun o36 => some (r32.Err_, o36, o34))
noncomputable def impl_yattack_move_j2 (a0 : T_impl_Move) (s0 : T_impl_yattack) (s3 : List T_impl_yheld) (v10 : Bool) : Option (Int × T_impl_yattack × List T_impl_yheld) :=
  cond v10 (cond (a0.Kind_ == 3) ((impl_yattack_pick a0.Pick_ ({ s0 with time_ := (IntKind.i64.wrap (s0.time_ + a0.Wait_)) } : T_impl_yattack) s3).bind fun r19 => impl_yattack_move_j3 a0 s0 s3 r19) (impl_yattack_move_j3 a0 s0 s3 s0.open_)) (cond (a0.Kind_ == 4) ((impl_VerifierOf (ByteArray.mk #[101, 118, 101]) (Int.tmod a0.Other_ 10)).bind fun r21 => (impl_yattack_authorize (ByteArray.mk #[101, 118, 101]) r21 ({ s0 with time_ := (IntKind.i64.wrap (s0.time_ + a0.Wait_)) } : T_impl_yattack) s3).bind fun q => (match q with | (r23, o24, o25) => (impl_yattack_learn r23 o24 o25).bind fun o27 => some (r23.Err_, o27, o25))) ((impl_yattack_pick a0.Pick_ ({ s0 with time_ := (IntKind.i64.wrap (s0.time_ + a0.Wait_)) } : T_impl_yattack) s3).bind fun r29 => cond (a0.Kind_ == 5) ((idx s0.x_.Redirects_ 0).bind fun e38 => (impl_VerifierOf (ByteArray.mk #[101, 118, 101]) (Int.tmod a0.Other_ 10)).bind fun r40 => cond (s0.c_.Bare_ && decide (a0.Other_ ≥ 10)) ((impl_VerifierOf (ByteArray.mk #[97, 110, 110]) (IntKind.i64.wrap (a0.Other_ - 10))).bind fun r42 => impl_yattack_move_j5 a0 s0 s3 (⟨2, 0, (ByteArray.mk #[]), (ByteArray.mk #[]), e38, (ByteArray.mk #[]), r42, (ByteArray.mk #[]), r29, ([] : List ByteArray), (ByteArray.mk #[]), false⟩ : T_impl_GrantAsk)) (impl_yattack_move_j5 a0 s0 s3 (⟨2, 0, (ByteArray.mk #[]), (ByteArray.mk #[]), e38, (ByteArray.mk #[]), r40, (ByteArray.mk #[]), r29, ([] : List ByteArray), (ByteArray.mk #[]), false⟩ : T_impl_GrantAsk))) (cond (a0.Kind_ == 6) (impl_yattack_move_j5 a0 s0 s3 (⟨3, 0, (ByteArray.mk #[]), (ByteArray.mk #[]), (ByteArray.mk #[]), (ByteArray.mk #[]), (ByteArray.mk #[]), (ByteArray.mk #[]), r29, ([] : List ByteArray), (ByteArray.mk #[]), false⟩ : T_impl_GrantAsk)) (cond (a0.Kind_ == 7) (impl_yattack_move_j5 a0 s0 s3 (⟨8, 0, (ByteArray.mk #[]), (ByteArray.mk #[]), (ByteArray.mk #[]), (ByteArray.mk #[]), (ByteArray.mk #[]), (ByteArray.mk #[]), r29, ([] : List ByteArray), (ByteArray.mk #[]), false⟩ : T_impl_GrantAsk)) (cond (a0.Kind_ == 8) (impl_yattack_move_j5 a0 s0 s3 (⟨9, 0, (ByteArray.mk #[]), (ByteArray.mk #[]), (ByteArray.mk #[]), (ByteArray.mk #[]), (ByteArray.mk #[]), (ByteArray.mk #[]), r29, ([] : List ByteArray), (ByteArray.mk #[]), false⟩ : T_impl_GrantAsk)) (impl_yattack_move_j5 a0 s0 s3 (⟨0, 0, (ByteArray.mk #[]), (ByteArray.mk #[]), (ByteArray.mk #[]), (ByteArray.mk #[]), (ByteArray.mk #[]), (ByteArray.mk #[]), r29, ([] : List ByteArray), (ByteArray.mk #[]), false⟩ : T_impl_GrantAsk)))))))
noncomputable def impl_yattack_move (a0 : T_impl_Move) (s0 : T_impl_yattack) (s3 : List T_impl_yheld) : Option (Int × T_impl_yattack × List T_impl_yheld) :=
  cond (((((decide (a0.Kind_ < 1) || decide (a0.Kind_ > 8)) || decide (a0.Wait_ < 0)) || decide (a0.Wait_ > 1000)) || decide (a0.Pick_ < 0)) || decide (a0.Other_ < 0)) (some ((-1), s0, s3)) (cond (((a0.Kind_ == 2) || (a0.Kind_ == 3)) && (s0.open_.toList == (ByteArray.mk #[]).toList)) (some ((-1), ({ s0 with time_ := (IntKind.i64.wrap (s0.time_ + a0.Wait_)) } : T_impl_yattack), s3)) (cond (a0.Kind_ == 1) ((impl_VerifierOf (ByteArray.mk #[97, 110, 110]) s0.begun_).bind fun r1 => (impl_yattack_authorize (ByteArray.mk #[97, 110, 110]) r1 ({ s0 with time_ := (IntKind.i64.wrap (s0.time_ + a0.Wait_)) } : T_impl_yattack) s3).bind fun q => (match q with | (r3, o4, o5) => cond (r3.Err_ == 0) (cond o4.c_.Leak_ ((impl_yattack_learn (⟨0, r3.Code_, (ByteArray.mk #[]), (ByteArray.mk #[]), ([] : List ByteArray), (ByteArray.mk #[]), (ByteArray.mk #[]), false⟩ : T_impl_GrantReply) ({ o4 with begun_ := (IntKind.i64.wrap (o4.begun_ + 1)), open_ := r3.Code_, verifier_ := r1 } : T_impl_yattack) o5).bind fun o8 => impl_yattack_move_j1 r3 o5 o8) (impl_yattack_move_j1 r3 o5 ({ o4 with begun_ := (IntKind.i64.wrap (o4.begun_ + 1)), open_ := r3.Code_, verifier_ := r1 } : T_impl_yattack))) (impl_yattack_move_j1 r3 o5 o4))) (cond (a0.Kind_ == 2) (impl_yattack_move_j2 a0 s0 s3 (a0.Kind_ == 2)) (impl_yattack_move_j2 a0 s0 s3 (a0.Kind_ == 3)))))
theorem impl_yattack_move_p (_u0 : Bool) {a0 : T_impl_Move} {s0 : T_impl_yattack} {s3 : List T_impl_yheld} {R0 : Int} {U0 : T_impl_yattack} {U3 : List T_impl_yheld} (H : impl_yattack_move a0 s0 s3 = some (R0, U0, U3)) : St Go.Proofs.Tryz.prog 22 [.bx 0 0, .agg (c_T_impl_Move false a0)] [.box (k_impl_yattack 1 5 6 7 3 false s0), .box (k_impl_yserver 2 4 3 false s0.v_), .arr .raw 1 (s0.v_.held_.map (c_px 3)), .fam (s3.map (c_T_impl_yheld 3 false)), mpO (V.int .i64) (V.bool) s0.v_.ended_, .arr .clo 12 (s0.asks_.map (c_T_impl_GrantAsk false)), .arr .clo 1 (s0.res_.Errs_.map (c_int .i64)), .arr .clo 1 (s0.res_.Known_.map (c_str))] (.int .i64 R0) [.box (k_impl_yattack 1 5 6 7 3 false (⟨U0.c_, U0.x_, default, U0.time_, U0.asks_, (⟨U0.res_.Errs_, U0.res_.Known_, U0.res_.Won_, U0.res_.Injected_⟩ : T_impl_AttackRes), U0.begun_, U0.open_, U0.verifier_⟩ : T_impl_yattack)), .box (k_impl_yserver 2 4 3 false (⟨U0.v_.s_, U0.v_.now_, U0.v_.held_, default, U0.v_.grants_⟩ : T_impl_yserver)), .arr .raw 1 (U0.v_.held_.map (c_px 3)), .fam (U3.map (c_T_impl_yheld 3 false)), mpO (V.int .i64) (V.bool) U0.v_.ended_, .arr .clo 12 (U0.asks_.map (c_T_impl_GrantAsk false)), .arr .clo 1 (U0.res_.Errs_.map (c_int .i64)), .arr .clo 1 (U0.res_.Known_.map (c_str))] := by
 refine CallT.fin (CallT.of_TN (n := 231) Go.Proofs.Tryz.func22 rfl rfl rfl rfl ?_) rfl rfl ⟨(bels_iff.1 rfl), ⟨(bels_iff.1 rfl), ⟨(belRaw fun _ => rfl), ⟨(belFam fun _ => rfl), ⟨(belMap fun _ => rfl), ⟨trivial, ⟨trivial, ⟨trivial, trivial⟩⟩⟩⟩⟩⟩⟩⟩
 refine T.seq (T.region (TL.st rfl rfl rfl (o_box rfl rfl rfl) (TL.st rfl rfl rfl (o_assign rfl rfl) (TL.nil (thn_normal (T.seq (T.seq (T.region (TL.st rfl rfl rfl (o_fieldAddr rfl rfl rfl tyS_3 (by decide) rfl rfl ⟨_, rfl, Nat.le_of_ble_eq_true rfl⟩) ?_)))))))))
 refine TL.st rfl rfl rfl (o_loadBx rfl tyS_3 rfl rfl (Nat.le_of_ble_eq_true rfl) rfl) ?_
 refine TL.st rfl rfl rfl (o_ari rfl rfl rfl rfl) (TL.st rfl rfl rfl (o_move rfl rfl) (TL.gcq rfl rfl rfl (.bool _) rfl rfl (fun h => o_fieldAddr rfl rfl rfl tyS_3 (by decide) rfl rfl ⟨_, rfl, Nat.le_of_ble_eq_true rfl⟩) ?_))
 refine TL.gcq rfl rfl rfl (.bool _) rfl rfl (fun h => o_loadBx rfl tyS_3 (gv h rfl) rfl (Nat.le_of_ble_eq_true rfl) rfl) ?_
 refine TL.gcq rfl rfl rfl (.bool _) rfl rfl (fun h => o_ari rfl (gv h rfl) rfl rfl) ?_
 refine TL.st rfl rfl rfl (o_or rfl rfl rfl rfl (fun k => Gd_t k)) (TL.st rfl rfl rfl (o_move rfl rfl) (TL.gcq rfl rfl rfl (.bool _) rfl rfl (fun h => o_fieldAddr rfl rfl rfl tyS_3 (by decide) rfl rfl ⟨_, rfl, Nat.le_of_ble_eq_true rfl⟩) ?_))
 refine TL.gcq rfl rfl rfl (.bool _) rfl rfl (fun h => o_loadBx rfl tyS_3 (gv h rfl) rfl (Nat.le_of_ble_eq_true rfl) rfl) ?_
 refine TL.gcq rfl rfl rfl (.bool _) rfl rfl (fun h => o_ari rfl (gv h rfl) rfl rfl) ?_
 refine TL.st rfl rfl rfl (o_or rfl rfl rfl rfl (fun k => Gd_t k)) (TL.st rfl rfl rfl (o_move rfl rfl) (TL.gcq rfl rfl rfl (.bool _) rfl rfl (fun h => o_fieldAddr rfl rfl rfl tyS_3 (by decide) rfl rfl ⟨_, rfl, Nat.le_of_ble_eq_true rfl⟩) ?_))
 refine TL.gcq rfl rfl rfl (.bool _) rfl rfl (fun h => o_loadBx rfl tyS_3 (gv h rfl) rfl (Nat.le_of_ble_eq_true rfl) rfl) ?_
 refine TL.gcq rfl rfl rfl (.bool _) rfl rfl (fun h => o_ari rfl (gv h rfl) rfl rfl) ?_
 refine TL.st rfl rfl rfl (o_or rfl rfl rfl rfl (fun k => Gd_t k)) (TL.st rfl rfl rfl (o_move rfl rfl) (TL.gcq rfl rfl rfl (.bool _) rfl rfl (fun h => o_fieldAddr rfl rfl rfl tyS_3 (by decide) rfl rfl ⟨_, rfl, Nat.le_of_ble_eq_true rfl⟩) ?_))
 refine TL.gcq rfl rfl rfl (.bool _) rfl rfl (fun h => o_loadBx rfl tyS_3 (gv h rfl) rfl (Nat.le_of_ble_eq_true rfl) rfl) ?_
 refine TL.gcq rfl rfl rfl (.bool _) rfl rfl (fun h => o_ari rfl (gv h rfl) rfl rfl) ?_
 refine TL.st rfl rfl rfl (o_or rfl rfl rfl rfl (fun k => Gd_t k)) (TL.st rfl rfl rfl (o_move rfl rfl) (TL.gcq rfl rfl rfl (.bool _) rfl rfl (fun h => o_fieldAddr rfl rfl rfl tyS_3 (by decide) rfl rfl ⟨_, rfl, Nat.le_of_ble_eq_true rfl⟩) ?_))
 refine TL.gcq rfl rfl rfl (.bool _) rfl rfl (fun h => o_loadBx rfl tyS_3 (gv h rfl) rfl (Nat.le_of_ble_eq_true rfl) rfl) ?_
 refine TL.gcq rfl rfl rfl (.bool _) rfl rfl (fun h => o_ari rfl (gv h rfl) rfl rfl) ?_
 refine TL.st rfl rfl rfl (o_or rfl rfl rfl rfl (fun k => Gd_t k)) (TL.nil (thn_normal ?_))
 refine T.cond ((((((decide (a0.Kind_ < 1) || decide (a0.Kind_ > 8)) || decide (a0.Wait_ < 0)) || decide (a0.Wait_ > 1000)) || decide (a0.Pick_ < 0)) || decide (a0.Other_ < 0))) rfl (fun h => ?_) (fun h => ?_)
 ·replace H := cond_t h H
  refine T.seq (T.region (TL.st rfl rfl rfl (o_assign rfl rfl) (TL.nil (thn_normal (T.ret (thn_ret ?_))))))
  cases some_i H
  exact ⟨trivial, _, (.tmp _ _ _ _ rfl .nil), ⟨rfl, _, rfl⟩⟩
 ·replace H := cond_f h H
  refine T.skip (thn_normal (T.seq (T.drawn rfl ?_)))
  refine TD.qs rfl rfl (fun _ => o_move rfl rfl) (TD.qs rfl rfl (fun _ => o_nilCheck rfl rfl rfl) (TD.rs rfl rfl (o_fieldAddr rfl rfl rfl tyS_3 (by decide) rfl rfl ⟨_, rfl, Nat.le_of_ble_eq_true rfl⟩) ?_))
  refine TD.rs rfl rfl (o_loadBx rfl tyS_3 rfl rfl (Nat.le_of_ble_eq_true rfl) rfl) ?_
  refine TD.rs rfl rfl (o_fieldAddr rfl rfl rfl tyS_3 (by decide) rfl rfl ⟨_, rfl, Nat.le_of_ble_eq_true rfl⟩) ?_
  refine TD.rs rfl rfl (o_loadBx rfl tyS_3 rfl rfl (Nat.le_of_ble_eq_true rfl) rfl) ?_
  refine TD.qs rfl rfl (fun _ => o_ari rfl rfl rfl rfl) ?_
  refine TD.qs rfl rfl (fun _ => o_nilCheck rfl rfl rfl) (TD.rs rfl rfl (o_fieldAddr rfl rfl rfl tyS_3 (by decide) rfl rfl ⟨_, rfl, Nat.le_of_ble_eq_true rfl⟩) ?_)
  refine TD.an rfl rfl (o_storeBx rfl tyS_3 rfl rfl rfl rfl (Nat.le_of_ble_eq_true rfl) rfl) ?_
  refine TD.nil ⟨rfl, ?_⟩
  refine thn_normal (T.seq (T.seq (T.region (TL.st rfl rfl rfl (o_fieldAddr rfl rfl rfl tyS_3 (by decide) rfl rfl ⟨_, rfl, Nat.le_of_ble_eq_true rfl⟩) ?_))))
  refine TL.st rfl rfl rfl (o_loadBx rfl tyS_3 rfl rfl (Nat.le_of_ble_eq_true rfl) rfl) ?_
  refine TL.st rfl rfl rfl (o_ari rfl rfl rfl rfl) (TL.st rfl rfl rfl (o_move rfl rfl) (TL.gcq rfl rfl rfl (.bool _) rfl rfl (fun h => o_fieldAddr rfl rfl rfl tyS_3 (by decide) rfl rfl ⟨_, rfl, Nat.le_of_ble_eq_true rfl⟩) ?_))
  refine TL.gcq rfl rfl rfl (.bool _) rfl rfl (fun h => o_loadBx rfl tyS_3 (gv h rfl) rfl (Nat.le_of_ble_eq_true rfl) rfl) ?_
  refine TL.gcq rfl rfl rfl (.bool _) rfl rfl (fun h => o_ari rfl (gv h rfl) rfl rfl) ?_
  refine TL.st rfl rfl rfl (o_or rfl rfl rfl rfl (fun k => Gd_t k)) (TL.st rfl rfl rfl (o_move rfl rfl) (TL.gcq rfl rfl rfl (.bool _) rfl rfl (fun h => o_move rfl rfl) (TL.gcq rfl rfl rfl (.bool _) rfl rfl (fun h => o_nilCheck rfl (gv h rfl) rfl) ?_)))
  refine TL.gcq rfl rfl rfl (.bool _) rfl rfl (fun h => o_fieldAddr rfl rfl rfl tyS_9 (by decide) (gv h rfl) rfl ⟨_, rfl, Nat.le_of_ble_eq_true rfl⟩) ?_
  refine TL.gcq rfl rfl rfl (.bool _) rfl rfl (fun h => o_loadBx rfl tyS_9 (gv h rfl) rfl (Nat.le_of_ble_eq_true rfl) rfl) ?_
  refine TL.gcq rfl rfl rfl (.bool _) rfl rfl (fun h => o_str rfl (gv h rfl) rfl rfl) ?_
  refine TL.st rfl rfl rfl (o_and rfl rfl rfl (fun k => Gd_t k) rfl) (TL.nil (thn_normal ?_))
  refine T.cond ((((a0.Kind_ == 2) || (a0.Kind_ == 3)) && (s0.open_.toList == (ByteArray.mk #[]).toList))) rfl (fun h => ?_) (fun h => ?_)
  ·replace H := cond_t h H
   refine T.seq (T.region (TL.st rfl rfl rfl (o_assign rfl rfl) (TL.nil (thn_normal (T.ret (thn_ret ?_))))))
   cases some_i H
   exact ⟨trivial, _, (.tmp _ _ _ _ rfl .nil), ⟨rfl, _, rfl⟩⟩
  ·replace H := cond_f h H
   refine T.skip (thn_normal (T.seq (T.seq (T.region (TL.st rfl rfl rfl (o_fieldAddr rfl rfl rfl tyS_3 (by decide) rfl rfl ⟨_, rfl, Nat.le_of_ble_eq_true rfl⟩) ?_)))))
   refine TL.st rfl rfl rfl (o_loadBx rfl tyS_3 rfl rfl (Nat.le_of_ble_eq_true rfl) rfl) ?_
   refine TL.nil (thn_normal (T.block (T.seq (T.region (TL.st rfl rfl rfl (o_ari rfl rfl rfl rfl) (TL.st rfl rfl rfl (o_assign rfl rfl) (TL.nil (thn_normal ?_))))))))
   refine T.cond ((a0.Kind_ == 1)) rfl (fun h => ?_) (fun h => ?_)
   ·replace H := cond_t h H
    refine T.seq (T.region (TL.st rfl rfl rfl (o_move rfl rfl) (TL.st rfl rfl rfl (o_nilCheck rfl rfl rfl) (TL.st rfl rfl rfl (o_fieldAddr rfl rfl rfl tyS_3 (by decide) rfl rfl ⟨_, rfl, Nat.le_of_ble_eq_true rfl⟩) ?_))))
    refine TL.st rfl rfl rfl (o_loadBx rfl tyS_3 rfl rfl (Nat.le_of_ble_eq_true rfl) rfl) ?_
    obtain ⟨r1, h2, H⟩ := bind_s H
    refine TL.st rfl rfl rfl (o_callP rfl en_38 rfl rfl (.cons _ _ _ _ (.cl _ rfl) (.cons _ _ _ _ (.cl _ rfl) .nil)) (impl_VerifierOf_p  h2)) ?_
    refine TL.st rfl rfl rfl (o_assign rfl rfl) (TL.nil (thn_normal (T.seq (T.region (TL.st rfl rfl rfl (o_move rfl rfl) (TL.st rfl rfl rfl (o_move rfl rfl) ?_))))))
    obtain ⟨⟨r3, o4, o5⟩, h6, H⟩ := bind_s H
    refine TL.st rfl rfl rfl (o_callM [0, 1, 2, 3, 4, 5, 6, 7] rfl en_39 rfl rfl (impl_yattack_authorize_p false h6) rfl (by decide) (.cons _ _ _ _ rfl (.cons _ _ _ _ rfl (.cons _ _ _ _ (ren_at rfl (ren_rawO fun _ => rfl)) (.cons _ _ _ _ (ren_at rfl (ren_famO fun _ => rfl)) (.cons _ _ _ _ (ren_at rfl (ren_mpO fun _ => rfl)) (.cons _ _ _ _ rfl (.cons _ _ _ _ rfl (.cons _ _ _ _ rfl .nil)))))))) rfl rfl (.cons _ _ _ _ rfl (.cons _ _ _ _ rfl (.cons _ _ _ _ (ren_rawO fun _ => rfl) (.cons _ _ _ _ (ren_famO fun _ => rfl) (.cons _ _ _ _ (ren_mpO fun _ => rfl) (.cons _ _ _ _ rfl (.cons _ _ _ _ rfl (.cons _ _ _ _ rfl .nil)))))))) rfl) ?_
    refine TL.st rfl rfl rfl (o_alloc rfl ⟨_, rfl, rfl⟩) (TL.sn rfl rfl (o_storeBx rfl tyS_84 rfl rfl rfl rfl (Nat.le_of_ble_eq_true rfl) rfl) ?_)
    refine TL.nil (thn_normal (T.cut (fun fr' σ' => ∃ (b7 : T_impl_yattack), fr' = [(6, .bx 9 0)] ∧ σ' = [.box (k_impl_yattack 1 5 6 7 3 false b7), .box (k_impl_yserver 2 4 3 false b7.v_), .arr .raw 1 (b7.v_.held_.map (c_px 3)), .fam (o5.map (c_T_impl_yheld 3 false)), mpO (V.int .i64) (V.bool) b7.v_.ended_, .arr .clo 12 (b7.asks_.map (c_T_impl_GrantAsk false)), .arr .clo 1 (b7.res_.Errs_.map (c_int .i64)), .arr .clo 1 (b7.res_.Known_.map (c_str)), .box (c_T_impl_Move false a0), .box (c_T_impl_GrantReply false r3)] ∧ impl_yattack_move_j1 r3 o5 b7 = some (R0, U0, U3)) (T.pk ?_) ?_))
    ·skip
     refine T.seq (T.conv (Cs.eqS (σ' := [.box (k_impl_yattack 1 5 6 7 3 false o4), .box (k_impl_yserver 2 4 3 false o4.v_), .arr .raw 1 (o4.v_.held_.map (c_px 3)), .fam (o5.map (c_T_impl_yheld 3 false)), mpO (V.int .i64) (V.bool) o4.v_.ended_, .arr .clo 12 (o4.asks_.map (c_T_impl_GrantAsk false)), .arr .clo 1 (o4.res_.Errs_.map (c_int .i64)), .arr .clo 1 (o4.res_.Known_.map (c_str)), .box (c_T_impl_Move false a0), .box (c_T_impl_GrantReply false r3)]) rfl) ?_)
     refine T.region (TL.st rfl rfl rfl (o_fieldAddr rfl rfl rfl tyS_3 (by decide) rfl rfl ⟨_, rfl, Nat.le_of_ble_eq_true rfl⟩) ?_)
     refine TL.st rfl rfl rfl (o_loadBx rfl tyS_3 rfl rfl (Nat.le_of_ble_eq_true rfl) rfl) ?_
     refine TL.st rfl rfl rfl (o_ari rfl rfl rfl rfl) (TL.nil (thn_normal ?_))
     refine T.cond ((r3.Err_ == 0)) rfl (fun h => ?_) (fun h => ?_)
     ·replace H := cond_t h H
      refine T.seq (T.region (TL.st rfl rfl rfl (o_move rfl rfl) (TL.st rfl rfl rfl (o_nilCheck rfl rfl rfl) (TL.st rfl rfl rfl (o_fieldAddr rfl rfl rfl tyS_3 (by decide) rfl rfl ⟨_, rfl, Nat.le_of_ble_eq_true rfl⟩) ?_))))
      refine TL.st rfl rfl rfl (o_loadBx rfl tyS_3 rfl rfl (Nat.le_of_ble_eq_true rfl) rfl) ?_
      refine TL.st rfl rfl rfl (o_ari rfl rfl rfl rfl) (TL.st rfl rfl rfl (o_nilCheck rfl rfl rfl) (TL.st rfl rfl rfl (o_fieldAddr rfl rfl rfl tyS_3 (by decide) rfl rfl ⟨_, rfl, Nat.le_of_ble_eq_true rfl⟩) ?_))
      refine TL.sn rfl rfl (o_storeBx rfl tyS_3 rfl rfl rfl rfl (Nat.le_of_ble_eq_true rfl) rfl) ?_
      refine TL.nil (thn_normal (T.seq (T.region (TL.st rfl rfl rfl (o_move rfl rfl) (TL.st rfl rfl rfl (o_move rfl rfl) (TL.st rfl rfl rfl (o_fieldAddr rfl rfl rfl tyS_9 (by decide) rfl rfl ⟨_, rfl, Nat.le_of_ble_eq_true rfl⟩) ?_))))))
      refine TL.st rfl rfl rfl (o_loadBx rfl tyS_9 rfl rfl (Nat.le_of_ble_eq_true rfl) rfl) ?_
      refine TL.st rfl rfl rfl (o_move rfl rfl) (TL.st rfl rfl rfl (o_nilCheck rfl rfl rfl) (TL.st rfl rfl rfl (o_fieldAddr rfl rfl rfl tyS_9 (by decide) rfl rfl ⟨_, rfl, Nat.le_of_ble_eq_true rfl⟩) ?_))
      refine TL.sn rfl rfl (o_storeBx rfl tyS_9 rfl rfl rfl rfl (Nat.le_of_ble_eq_true rfl) rfl) ?_
      refine TL.st rfl rfl rfl (o_nilCheck rfl rfl rfl) (TL.st rfl rfl rfl (o_fieldAddr rfl rfl rfl tyS_9 (by decide) rfl rfl ⟨_, rfl, Nat.le_of_ble_eq_true rfl⟩) ?_)
      refine TL.sn rfl rfl (o_storeBx rfl tyS_9 rfl rfl rfl rfl (Nat.le_of_ble_eq_true rfl) rfl) ?_
      refine TL.nil (thn_normal (T.seq (T.conv (Cs.eqS (σ' := [.box (k_impl_yattack 1 5 6 7 3 false ({ o4 with begun_ := (IntKind.i64.wrap (o4.begun_ + 1)), open_ := r3.Code_, verifier_ := r1 } : T_impl_yattack)), .box (k_impl_yserver 2 4 3 false o4.v_), .arr .raw 1 (o4.v_.held_.map (c_px 3)), .fam (o5.map (c_T_impl_yheld 3 false)), mpO (V.int .i64) (V.bool) o4.v_.ended_, .arr .clo 12 (o4.asks_.map (c_T_impl_GrantAsk false)), .arr .clo 1 (o4.res_.Errs_.map (c_int .i64)), .arr .clo 1 (o4.res_.Known_.map (c_str)), .box (c_T_impl_Move false a0), .box (c_T_impl_GrantReply false r3)]) rfl) ?_)))
      refine T.region (TL.st rfl rfl rfl (o_move rfl rfl) (TL.st rfl rfl rfl (o_nilCheck rfl rfl rfl) (TL.st rfl rfl rfl (o_fieldAddr rfl rfl rfl tyS_27 (by decide) rfl rfl ⟨_, rfl, Nat.le_of_ble_eq_true rfl⟩) ?_)))
      refine TL.st rfl rfl rfl (o_fieldAddr rfl rfl rfl tyS_4 (by decide) rfl rfl ⟨_, rfl, Nat.le_of_ble_eq_true rfl⟩) ?_
      refine TL.st rfl rfl rfl (o_loadBx rfl tyS_4 rfl rfl (Nat.le_of_ble_eq_true rfl) rfl) ?_
      refine TL.nil (thn_normal ?_)
      refine T.cond (o4.c_.Leak_) rfl (fun h => ?_) (fun h => ?_)
      ·replace H := cond_t h H
       refine T.region (TL.st rfl rfl rfl (o_move rfl rfl) (TL.st rfl rfl rfl (o_fieldAddr rfl rfl rfl tyS_9 (by decide) rfl rfl ⟨_, rfl, Nat.le_of_ble_eq_true rfl⟩) ?_))
       refine TL.st rfl rfl rfl (o_loadBx rfl tyS_9 rfl rfl (Nat.le_of_ble_eq_true rfl) rfl) ?_
       refine TL.st rfl rfl rfl (Does.wk (o_build rfl ⟨_, fun _ => rfl, rfl⟩ rfl rfl rfl) (.aggL (.cons _ _ _ _ (.same _) (.cons _ _ _ _ (.same _) (.cons _ _ _ _ (.same _) (.cons _ _ _ _ (.same _) (.cons _ _ _ _ .nil (.cons _ _ _ _ (.same _) (.cons _ _ _ _ (.same _) (.cons _ _ _ _ (.same _) .nil)))))))))) ?_
       obtain ⟨o8, h9, H⟩ := bind_s H
       refine TL.st rfl rfl rfl (o_callM [0, 1, 2, 3, 4, 5, 6, 7] rfl en_40 rfl rfl (impl_yattack_learn_p false false h9) rfl (by decide) (.cons _ _ _ _ rfl (.cons _ _ _ _ rfl (.cons _ _ _ _ (ren_at rfl (ren_rawO fun _ => rfl)) (.cons _ _ _ _ (ren_at rfl (ren_famO fun _ => rfl)) (.cons _ _ _ _ (ren_at rfl (ren_mpO fun _ => rfl)) (.cons _ _ _ _ rfl (.cons _ _ _ _ rfl (.cons _ _ _ _ rfl .nil)))))))) rfl rfl (.cons _ _ _ _ rfl (.cons _ _ _ _ rfl (.cons _ _ _ _ (ren_rawO fun _ => rfl) (.cons _ _ _ _ (ren_famO fun _ => rfl) (.cons _ _ _ _ (ren_mpO fun _ => rfl) (.cons _ _ _ _ rfl (.cons _ _ _ _ rfl (.cons _ _ _ _ rfl .nil)))))))) rfl) ?_
       refine TL.nil ?_
       exact Pk.of (thn_normal ⟨o8, rfl, rfl, H⟩)
      ·replace H := cond_f h H
       refine T.skip ?_
       exact Pk.of (thn_normal ⟨({ o4 with begun_ := (IntKind.i64.wrap (o4.begun_ + 1)), open_ := r3.Code_, verifier_ := r1 } : T_impl_yattack), rfl, rfl, H⟩)
     ·replace H := cond_f h H
      refine T.skip ?_
      exact Pk.of (thn_normal ⟨o4, rfl, rfl, H⟩)
    ·rintro _ _ ⟨b7, rfl, rfl, H⟩
     refine T.seq (T.region (TL.st rfl rfl rfl (o_fieldAddr rfl rfl rfl tyS_3 (by decide) rfl rfl ⟨_, rfl, Nat.le_of_ble_eq_true rfl⟩) ?_))
     refine TL.st rfl rfl rfl (o_loadBx rfl tyS_3 rfl rfl (Nat.le_of_ble_eq_true rfl) rfl) ?_
     refine TL.st rfl rfl rfl (o_assign rfl rfl) (TL.nil (thn_normal (T.ret (inB_ret (thn_ret ?_)))))
     cases some_i H
     exact ⟨trivial, _, (.tmp _ _ _ _ rfl .nil), ⟨rfl, _, rfl⟩⟩
   ·replace H := cond_f h H
    refine T.cut (fun fr' σ' => ∃ (v10 : Bool), fr' = [(0, .bx 0 0), (3, .bx 8 0), (65, .int .i64 a0.Kind_), (107, .bool v10)] ∧ σ' = [.box (k_impl_yattack 1 5 6 7 3 false ({ s0 with time_ := (IntKind.i64.wrap (s0.time_ + a0.Wait_)) } : T_impl_yattack)), .box (k_impl_yserver 2 4 3 false s0.v_), .arr .raw 1 (s0.v_.held_.map (c_px 3)), .fam (s3.map (c_T_impl_yheld 3 false)), mpO (V.int .i64) (V.bool) s0.v_.ended_, .arr .clo 12 (s0.asks_.map (c_T_impl_GrantAsk false)), .arr .clo 1 (s0.res_.Errs_.map (c_int .i64)), .arr .clo 1 (s0.res_.Known_.map (c_str)), .box (c_T_impl_Move false a0)] ∧ impl_yattack_move_j2 a0 s0 s3 v10 = some (R0, U0, U3)) (T.pk ?_) ?_
    ·skip
     refine T.seq (T.region (TL.st rfl rfl rfl (o_ari rfl rfl rfl rfl) (TL.st rfl rfl rfl (o_assign rfl rfl) (TL.nil (thn_normal ?_)))))
     refine T.cond ((a0.Kind_ == 2)) rfl (fun h => ?_) (fun h => ?_)
     ·replace H := cond_t h H
      refine T.skip ?_
      exact Pk.of (thn_normal ⟨(a0.Kind_ == 2), rfl, rfl, H⟩)
     ·replace H := cond_f h H
      refine T.region (TL.st rfl rfl rfl (o_ari rfl rfl rfl rfl) (TL.st rfl rfl rfl (o_assign rfl rfl) (TL.nil ?_)))
      exact Pk.of (thn_normal ⟨(a0.Kind_ == 3), rfl, rfl, H⟩)
    ·rintro _ _ ⟨v10, rfl, rfl, H⟩
     refine T.cond (v10) rfl (fun h => ?_) (fun h => ?_)
     ·replace H := cond_t h H
      refine T.seq (T.region (TL.st rfl rfl rfl (o_move rfl rfl) (TL.st rfl rfl rfl (o_nilCheck rfl rfl rfl) (TL.st rfl rfl rfl (o_fieldAddr rfl rfl rfl tyS_9 (by decide) rfl rfl ⟨_, rfl, Nat.le_of_ble_eq_true rfl⟩) ?_))))
      refine TL.st rfl rfl rfl (o_loadBx rfl tyS_9 rfl rfl (Nat.le_of_ble_eq_true rfl) rfl) ?_
      refine TL.st rfl rfl rfl (o_assign rfl rfl) (TL.nil (thn_normal (T.cut (fun fr' σ' => ∃ (v11 : ByteArray), fr' = [(0, .bx 0 0), (3, .bx 8 0), (7, .str v11)] ∧ σ' = [.box (k_impl_yattack 1 5 6 7 3 false ({ s0 with time_ := (IntKind.i64.wrap (s0.time_ + a0.Wait_)) } : T_impl_yattack)), .box (k_impl_yserver 2 4 3 false s0.v_), .arr .raw 1 (s0.v_.held_.map (c_px 3)), .fam (s3.map (c_T_impl_yheld 3 false)), mpO (V.int .i64) (V.bool) s0.v_.ended_, .arr .clo 12 (s0.asks_.map (c_T_impl_GrantAsk false)), .arr .clo 1 (s0.res_.Errs_.map (c_int .i64)), .arr .clo 1 (s0.res_.Known_.map (c_str)), .box (c_T_impl_Move false a0)] ∧ impl_yattack_move_j3 a0 s0 s3 v11 = some (R0, U0, U3)) (T.pk ?_) ?_)))
      ·skip
       refine T.seq (T.region (TL.st rfl rfl rfl (o_fieldAddr rfl rfl rfl tyS_3 (by decide) rfl rfl ⟨_, rfl, Nat.le_of_ble_eq_true rfl⟩) ?_))
       refine TL.st rfl rfl rfl (o_loadBx rfl tyS_3 rfl rfl (Nat.le_of_ble_eq_true rfl) rfl) ?_
       refine TL.st rfl rfl rfl (o_ari rfl rfl rfl rfl) (TL.nil (thn_normal ?_))
       refine T.cond ((a0.Kind_ == 3)) rfl (fun h => ?_) (fun h => ?_)
       ·replace H := cond_t h H
        refine T.region (TL.st rfl rfl rfl (o_move rfl rfl) (TL.st rfl rfl rfl (o_fieldAddr rfl rfl rfl tyS_3 (by decide) rfl rfl ⟨_, rfl, Nat.le_of_ble_eq_true rfl⟩) ?_))
        refine TL.st rfl rfl rfl (o_loadBx rfl tyS_3 rfl rfl (Nat.le_of_ble_eq_true rfl) rfl) ?_
        obtain ⟨r19, h20, H⟩ := bind_s H
        refine TL.st rfl rfl rfl (o_callM [0, 1, 2, 3, 4, 5, 6, 7] rfl en_41 rfl rfl (impl_yattack_pick_p false h20) rfl (by decide) (.cons _ _ _ _ rfl (.cons _ _ _ _ rfl (.cons _ _ _ _ (ren_at rfl (ren_rawO fun _ => rfl)) (.cons _ _ _ _ (ren_at rfl (ren_famO fun _ => rfl)) (.cons _ _ _ _ (ren_at rfl (ren_mpO fun _ => rfl)) (.cons _ _ _ _ rfl (.cons _ _ _ _ rfl (.cons _ _ _ _ rfl .nil)))))))) rfl rfl (.cons _ _ _ _ rfl (.cons _ _ _ _ rfl (.cons _ _ _ _ (ren_rawO fun _ => rfl) (.cons _ _ _ _ (ren_famO fun _ => rfl) (.cons _ _ _ _ (ren_mpO fun _ => rfl) (.cons _ _ _ _ rfl (.cons _ _ _ _ rfl (.cons _ _ _ _ rfl .nil)))))))) rfl) ?_
        refine TL.st rfl rfl rfl (o_assign rfl rfl) (TL.nil ?_)
        exact Pk.of (thn_normal ⟨r19, rfl, rfl, H⟩)
       ·replace H := cond_f h H
        refine T.skip ?_
        exact Pk.of (thn_normal ⟨s0.open_, rfl, rfl, H⟩)
      ·rintro _ _ ⟨v11, rfl, rfl, H⟩
       refine T.seq (T.region (TL.st rfl rfl rfl (o_move rfl rfl) (TL.st rfl rfl rfl (o_nilCheck rfl rfl rfl) (TL.st rfl rfl rfl (o_fieldAddr rfl rfl rfl tyS_9 (by decide) rfl rfl ⟨_, rfl, Nat.le_of_ble_eq_true rfl⟩) ?_))))
       refine TL.sn rfl rfl (o_storeBx rfl tyS_9 rfl rfl rfl rfl (Nat.le_of_ble_eq_true rfl) rfl) ?_
       refine TL.nil (thn_normal (T.seq ?_))
       obtain ⟨e12, h13, H⟩ := bind_s H
       obtain ⟨⟨r14, o15, o16⟩, h17, H⟩ := bind_s H
       refine T.drawS (fr' := [(0, .bx 0 0), (3, .bx 8 0), (7, .str v11), (8, .bx 9 0), (121, .bx 0 0), (122, .bx 0 0), (123, .bx 0 21), (124, .bx 0 0), (125, .str v11), (126, .bx 0 0), (127, .bx 0 0), (128, .bx 0 8), (129, .bx 0 10), (130, .im false (s0.x_.Redirects_.map (c_str))), (132, .str e12), (133, .bx 0 0), (134, .bx 0 0), (135, .bx 0 22), (136, .str s0.verifier_), (137, .bx 0 0), (138, .bx 0 0), (139, .bx 0 0), (140, .bx 0 5), (141, .str s0.c_.Secret_), (142, .agg [.int .i64 2, .int .i64 0, .str (ByteArray.mk #[]), .str s0.c_.Secret_, .str e12, .str (ByteArray.mk #[]), .str s0.verifier_, .str (ByteArray.mk #[]), .str v11, .im false (([] : List ByteArray).map (c_str)), .str (ByteArray.mk #[]), .bool false]), (143, .agg (c_T_impl_GrantReply false r14))]) (R := [⟨some 124, .bx 0 0, .q, []⟩, ⟨some 125, .str v11, .q, []⟩, ⟨some 126, .bx 0 0, .q, []⟩, ⟨some 127, .bx 0 0, .q, []⟩, ⟨some 128, .bx 0 8, .q, []⟩, ⟨some 129, .bx 0 10, .q, []⟩, ⟨some 130, .im false (s0.x_.Redirects_.map (c_str)), .q, []⟩, ⟨some 131, .rf false [.str e12], .q, []⟩, ⟨some 132, .str e12, .q, []⟩, ⟨some 133, .bx 0 0, .q, []⟩, ⟨some 134, .bx 0 0, .q, []⟩, ⟨some 135, .bx 0 22, .q, []⟩, ⟨some 136, .str s0.verifier_, .q, []⟩, ⟨some 137, .bx 0 0, .q, []⟩, ⟨some 138, .bx 0 0, .q, []⟩, ⟨some 139, .bx 0 0, .q, []⟩, ⟨some 140, .bx 0 5, .q, []⟩, ⟨some 141, .str s0.c_.Secret_, .q, []⟩, ⟨some 142, .agg [.int .i64 2, .int .i64 0, .str (ByteArray.mk #[]), .str s0.c_.Secret_, .str e12, .str (ByteArray.mk #[]), .str s0.verifier_, .str (ByteArray.mk #[]), .str v11, .im false (([] : List ByteArray).map (c_str)), .str (ByteArray.mk #[]), .bool false], .q, []⟩, ⟨some 143, .agg (c_T_impl_GrantReply false r14), .q, []⟩, ⟨some 8, .bx 9 0, .q, []⟩, ⟨none, .any, .q, []⟩]) (fun b => cond (b 19) (cond (b 20) (cond (b 21) ([.box (k_impl_yattack 1 5 6 7 3 false o15), .box (k_impl_yserver 2 4 3 false o15.v_), .arr .raw 1 (o15.v_.held_.map (c_px 3)), .fam (o16.map (c_T_impl_yheld 3 false)), mpO (V.int .i64) (V.bool) o15.v_.ended_, .arr .clo 12 (o15.asks_.map (c_T_impl_GrantAsk false)), .arr .clo 1 (o15.res_.Errs_.map (c_int .i64)), .arr .clo 1 (o15.res_.Known_.map (c_str)), .box (c_T_impl_Move false a0), .box (c_T_impl_GrantReply false r14)]) ([.box (k_impl_yattack 1 5 6 7 3 false o15), .box (k_impl_yserver 2 4 3 false o15.v_), .arr .raw 1 (o15.v_.held_.map (c_px 3)), .fam (o16.map (c_T_impl_yheld 3 false)), mpO (V.int .i64) (V.bool) o15.v_.ended_, .arr .clo 12 (o15.asks_.map (c_T_impl_GrantAsk false)), .arr .clo 1 (o15.res_.Errs_.map (c_int .i64)), .arr .clo 1 (o15.res_.Known_.map (c_str)), .box (c_T_impl_Move false a0), .box [.int .i64 0, .str (ByteArray.mk #[]), .str (ByteArray.mk #[]), .str (ByteArray.mk #[]), .nilS, .str (ByteArray.mk #[]), .str (ByteArray.mk #[]), .bool false]])) ([.box (k_impl_yattack 1 5 6 7 3 false o15), .box (k_impl_yserver 2 4 3 false o15.v_), .arr .raw 1 (o15.v_.held_.map (c_px 3)), .fam (o16.map (c_T_impl_yheld 3 false)), mpO (V.int .i64) (V.bool) o15.v_.ended_, .arr .clo 12 (o15.asks_.map (c_T_impl_GrantAsk false)), .arr .clo 1 (o15.res_.Errs_.map (c_int .i64)), .arr .clo 1 (o15.res_.Known_.map (c_str)), .box (c_T_impl_Move false a0)])) (cond (b 20) ([.box (k_impl_yattack 1 5 6 7 3 false ({ s0 with time_ := (IntKind.i64.wrap (s0.time_ + a0.Wait_)), open_ := (ByteArray.mk #[]) } : T_impl_yattack)), .box (k_impl_yserver 2 4 3 false s0.v_), .arr .raw 1 (s0.v_.held_.map (c_px 3)), .fam (s3.map (c_T_impl_yheld 3 false)), mpO (V.int .i64) (V.bool) s0.v_.ended_, .arr .clo 12 (s0.asks_.map (c_T_impl_GrantAsk false)), .arr .clo 1 (s0.res_.Errs_.map (c_int .i64)), .arr .clo 1 (s0.res_.Known_.map (c_str)), .box (c_T_impl_Move false a0), .box [.int .i64 0, .str (ByteArray.mk #[]), .str (ByteArray.mk #[]), .str (ByteArray.mk #[]), .nilS, .str (ByteArray.mk #[]), .str (ByteArray.mk #[]), .bool false]]) ([.box (k_impl_yattack 1 5 6 7 3 false ({ s0 with time_ := (IntKind.i64.wrap (s0.time_ + a0.Wait_)), open_ := (ByteArray.mk #[]) } : T_impl_yattack)), .box (k_impl_yserver 2 4 3 false s0.v_), .arr .raw 1 (s0.v_.held_.map (c_px 3)), .fam (s3.map (c_T_impl_yheld 3 false)), mpO (V.int .i64) (V.bool) s0.v_.ended_, .arr .clo 12 (s0.asks_.map (c_T_impl_GrantAsk false)), .arr .clo 1 (s0.res_.Errs_.map (c_int .i64)), .arr .clo 1 (s0.res_.Known_.map (c_str)), .box (c_T_impl_Move false a0)]))) rfl ?_ ?_ rfl rfl (FrL.get (.cons rfl (.cons rfl (.cons rfl (.cons rfl (.cons rfl (.cons rfl (.cons rfl (.cons rfl (.cons rfl (.cons rfl (.cons rfl (.cons rfl (.cons rfl (.cons rfl (.cons rfl (.cons rfl (.cons rfl (.cons rfl (.cons rfl (.cons rfl (.cons rfl (.cons rfl (.cons rfl (.cons rfl (.cons rfl (.cons rfl .nil))))))))))))))))))))))))))) ?_
       ·refine .cons _ _ _ _ _ ⟨rfl, [(0, .bx 0 0)], AllN.get rfl (.cons rfl .nil), fun b hd hn hk hc => ?_⟩ ?_
        ·cases e20 : b 20
         ·exact ops_at ((cdf (hn 19 rfl)).trans (cdf e20)) rfl (o_move rfl rfl) ((cdf ((updb_ne rfl).trans (hn 19 rfl))).trans (cdf ((updb_ne rfl).trans e20))) rfl
         ·exact ops_at ((cdf (hn 19 rfl)).trans (cdt e20)) rfl (o_move rfl rfl) ((cdf ((updb_ne rfl).trans (hn 19 rfl))).trans (cdt ((updb_ne rfl).trans e20))) rfl
        refine .cons _ _ _ _ _ ⟨rfl, [(7, .str v11)], AllN.get rfl (.cons rfl .nil), fun b hd hn hk hc => ?_⟩ ?_
        ·cases e20 : b 20
         ·exact ops_at ((cdf (hn 19 rfl)).trans (cdf e20)) rfl (o_move rfl rfl) ((cdf ((updb_ne rfl).trans (hn 19 rfl))).trans (cdf ((updb_ne rfl).trans e20))) rfl
         ·exact ops_at ((cdf (hn 19 rfl)).trans (cdt e20)) rfl (o_move rfl rfl) ((cdf ((updb_ne rfl).trans (hn 19 rfl))).trans (cdt ((updb_ne rfl).trans e20))) rfl
        refine .cons _ _ _ _ _ ⟨rfl, [(0, .bx 0 0)], AllN.get rfl (.cons rfl .nil), fun b hd hn hk hc => ?_⟩ ?_
        ·cases e20 : b 20
         ·exact ops_at ((cdf (hn 19 rfl)).trans (cdf e20)) rfl (o_move rfl rfl) ((cdf ((updb_ne rfl).trans (hn 19 rfl))).trans (cdf ((updb_ne rfl).trans e20))) rfl
         ·exact ops_at ((cdf (hn 19 rfl)).trans (cdt e20)) rfl (o_move rfl rfl) ((cdf ((updb_ne rfl).trans (hn 19 rfl))).trans (cdt ((updb_ne rfl).trans e20))) rfl
        refine .cons _ _ _ _ _ ⟨rfl, [(126, .bx 0 0)], AllN.get rfl (.cons rfl .nil), fun b hd hn hk hc => ?_⟩ ?_
        ·cases e20 : b 20
         ·exact ops_at ((cdf (hn 19 rfl)).trans (cdf e20)) rfl (o_nilCheck rfl rfl rfl) ((cdf ((updb_ne rfl).trans (hn 19 rfl))).trans (cdf ((updb_ne rfl).trans e20))) rfl
         ·exact ops_at ((cdf (hn 19 rfl)).trans (cdt e20)) rfl (o_nilCheck rfl rfl rfl) ((cdf ((updb_ne rfl).trans (hn 19 rfl))).trans (cdt ((updb_ne rfl).trans e20))) rfl
        refine .cons _ _ _ _ _ ⟨rfl, [(127, .bx 0 0)], AllN.get rfl (.cons rfl .nil), fun b hd hn hk hc => ?_⟩ ?_
        ·cases e20 : b 20
         ·exact ops_at ((cdf (hn 19 rfl)).trans (cdf e20)) rfl (o_fieldAddr rfl rfl rfl tyS_50 (by decide) rfl rfl ⟨_, rfl, Nat.le_of_ble_eq_true rfl⟩) ((cdf ((updb_ne rfl).trans (hn 19 rfl))).trans (cdf ((updb_ne rfl).trans e20))) rfl
         ·exact ops_at ((cdf (hn 19 rfl)).trans (cdt e20)) rfl (o_fieldAddr rfl rfl rfl tyS_50 (by decide) rfl rfl ⟨_, rfl, Nat.le_of_ble_eq_true rfl⟩) ((cdf ((updb_ne rfl).trans (hn 19 rfl))).trans (cdt ((updb_ne rfl).trans e20))) rfl
        refine .cons _ _ _ _ _ ⟨rfl, [(128, .bx 0 8)], AllN.get rfl (.cons rfl .nil), fun b hd hn hk hc => ?_⟩ ?_
        ·cases e20 : b 20
         ·exact ops_at ((cdf (hn 19 rfl)).trans (cdf e20)) rfl (o_fieldAddr rfl rfl rfl tyS_30 (by decide) rfl rfl ⟨_, rfl, Nat.le_of_ble_eq_true rfl⟩) ((cdf ((updb_ne rfl).trans (hn 19 rfl))).trans (cdf ((updb_ne rfl).trans e20))) rfl
         ·exact ops_at ((cdf (hn 19 rfl)).trans (cdt e20)) rfl (o_fieldAddr rfl rfl rfl tyS_30 (by decide) rfl rfl ⟨_, rfl, Nat.le_of_ble_eq_true rfl⟩) ((cdf ((updb_ne rfl).trans (hn 19 rfl))).trans (cdt ((updb_ne rfl).trans e20))) rfl
        refine .cons _ _ _ _ _ ⟨rfl, [(129, .bx 0 10)], AllN.get rfl (.cons rfl .nil), fun b hd hn hk hc => ?_⟩ ?_
        ·cases e20 : b 20
         ·exact ops_at ((cdf (hn 19 rfl)).trans (cdf e20)) rfl (o_loadBx rfl tyS_30 rfl rfl (Nat.le_of_ble_eq_true rfl) rfl) ((cdf ((updb_ne rfl).trans (hn 19 rfl))).trans (cdf ((updb_ne rfl).trans e20))) rfl
         ·exact ops_at ((cdf (hn 19 rfl)).trans (cdt e20)) rfl (o_loadBx rfl tyS_30 rfl rfl (Nat.le_of_ble_eq_true rfl) rfl) ((cdf ((updb_ne rfl).trans (hn 19 rfl))).trans (cdt ((updb_ne rfl).trans e20))) rfl
        refine .cons _ _ _ _ _ ⟨rfl, [(130, .im false (s0.x_.Redirects_.map (c_str)))], AllN.get rfl (.cons rfl .nil), fun b hd hn hk hc => ?_⟩ ?_
        ·cases e20 : b 20
         ·exact ops_at ((cdf (hn 19 rfl)).trans (cdf e20)) rfl (o_ix (f := c_str) rfl rfl tyS_9 rfl rfl h13 rfl) ((cdf ((updb_ne rfl).trans (hn 19 rfl))).trans (cdf ((updb_ne rfl).trans e20))) rfl
         ·exact ops_at ((cdf (hn 19 rfl)).trans (cdt e20)) rfl (o_ix (f := c_str) rfl rfl tyS_9 rfl rfl h13 rfl) ((cdf ((updb_ne rfl).trans (hn 19 rfl))).trans (cdt ((updb_ne rfl).trans e20))) rfl
        refine .cons _ _ _ _ _ ⟨rfl, [(131, .rf false [.str e12])], AllN.get rfl (.cons rfl .nil), fun b hd hn hk hc => ?_⟩ ?_
        ·cases e20 : b 20
         ·exact ops_at ((cdf (hn 19 rfl)).trans (cdf e20)) rfl (o_loadRf rfl tyS_9 rfl (Nat.le_of_ble_eq_true rfl) rfl) ((cdf ((updb_ne rfl).trans (hn 19 rfl))).trans (cdf ((updb_ne rfl).trans e20))) rfl
         ·exact ops_at ((cdf (hn 19 rfl)).trans (cdt e20)) rfl (o_loadRf rfl tyS_9 rfl (Nat.le_of_ble_eq_true rfl) rfl) ((cdf ((updb_ne rfl).trans (hn 19 rfl))).trans (cdt ((updb_ne rfl).trans e20))) rfl
        refine .cons _ _ _ _ _ ⟨rfl, [(0, .bx 0 0)], AllN.get rfl (.cons rfl .nil), fun b hd hn hk hc => ?_⟩ ?_
        ·cases e20 : b 20
         ·exact ops_at ((cdf (hn 19 rfl)).trans (cdf e20)) rfl (o_move rfl rfl) ((cdf ((updb_ne rfl).trans (hn 19 rfl))).trans (cdf ((updb_ne rfl).trans e20))) rfl
         ·exact ops_at ((cdf (hn 19 rfl)).trans (cdt e20)) rfl (o_move rfl rfl) ((cdf ((updb_ne rfl).trans (hn 19 rfl))).trans (cdt ((updb_ne rfl).trans e20))) rfl
        refine .cons _ _ _ _ _ ⟨rfl, [(133, .bx 0 0)], AllN.get rfl (.cons rfl .nil), fun b hd hn hk hc => ?_⟩ ?_
        ·cases e20 : b 20
         ·exact ops_at ((cdf (hn 19 rfl)).trans (cdf e20)) rfl (o_nilCheck rfl rfl rfl) ((cdf ((updb_ne rfl).trans (hn 19 rfl))).trans (cdf ((updb_ne rfl).trans e20))) rfl
         ·exact ops_at ((cdf (hn 19 rfl)).trans (cdt e20)) rfl (o_nilCheck rfl rfl rfl) ((cdf ((updb_ne rfl).trans (hn 19 rfl))).trans (cdt ((updb_ne rfl).trans e20))) rfl
        refine .cons _ _ _ _ _ ⟨rfl, [(134, .bx 0 0)], AllN.get rfl (.cons rfl .nil), fun b hd hn hk hc => ?_⟩ ?_
        ·cases e20 : b 20
         ·exact ops_at ((cdf (hn 19 rfl)).trans (cdf e20)) rfl (o_fieldAddr rfl rfl rfl tyS_9 (by decide) rfl rfl ⟨_, rfl, Nat.le_of_ble_eq_true rfl⟩) ((cdf ((updb_ne rfl).trans (hn 19 rfl))).trans (cdf ((updb_ne rfl).trans e20))) rfl
         ·exact ops_at ((cdf (hn 19 rfl)).trans (cdt e20)) rfl (o_fieldAddr rfl rfl rfl tyS_9 (by decide) rfl rfl ⟨_, rfl, Nat.le_of_ble_eq_true rfl⟩) ((cdf ((updb_ne rfl).trans (hn 19 rfl))).trans (cdt ((updb_ne rfl).trans e20))) rfl
        refine .cons _ _ _ _ _ ⟨rfl, [(135, .bx 0 22)], AllN.get rfl (.cons rfl .nil), fun b hd hn hk hc => ?_⟩ ?_
        ·cases e20 : b 20
         ·exact ops_at ((cdf (hn 19 rfl)).trans (cdf e20)) rfl (o_loadBx rfl tyS_9 rfl rfl (Nat.le_of_ble_eq_true rfl) rfl) ((cdf ((updb_ne rfl).trans (hn 19 rfl))).trans (cdf ((updb_ne rfl).trans e20))) rfl
         ·exact ops_at ((cdf (hn 19 rfl)).trans (cdt e20)) rfl (o_loadBx rfl tyS_9 rfl rfl (Nat.le_of_ble_eq_true rfl) rfl) ((cdf ((updb_ne rfl).trans (hn 19 rfl))).trans (cdt ((updb_ne rfl).trans e20))) rfl
        refine .cons _ _ _ _ _ ⟨rfl, [(0, .bx 0 0)], AllN.get rfl (.cons rfl .nil), fun b hd hn hk hc => ?_⟩ ?_
        ·cases e20 : b 20
         ·exact ops_at ((cdf (hn 19 rfl)).trans (cdf e20)) rfl (o_move rfl rfl) ((cdf ((updb_ne rfl).trans (hn 19 rfl))).trans (cdf ((updb_ne rfl).trans e20))) rfl
         ·exact ops_at ((cdf (hn 19 rfl)).trans (cdt e20)) rfl (o_move rfl rfl) ((cdf ((updb_ne rfl).trans (hn 19 rfl))).trans (cdt ((updb_ne rfl).trans e20))) rfl
        refine .cons _ _ _ _ _ ⟨rfl, [(137, .bx 0 0)], AllN.get rfl (.cons rfl .nil), fun b hd hn hk hc => ?_⟩ ?_
        ·cases e20 : b 20
         ·exact ops_at ((cdf (hn 19 rfl)).trans (cdf e20)) rfl (o_nilCheck rfl rfl rfl) ((cdf ((updb_ne rfl).trans (hn 19 rfl))).trans (cdf ((updb_ne rfl).trans e20))) rfl
         ·exact ops_at ((cdf (hn 19 rfl)).trans (cdt e20)) rfl (o_nilCheck rfl rfl rfl) ((cdf ((updb_ne rfl).trans (hn 19 rfl))).trans (cdt ((updb_ne rfl).trans e20))) rfl
        refine .cons _ _ _ _ _ ⟨rfl, [(138, .bx 0 0)], AllN.get rfl (.cons rfl .nil), fun b hd hn hk hc => ?_⟩ ?_
        ·cases e20 : b 20
         ·exact ops_at ((cdf (hn 19 rfl)).trans (cdf e20)) rfl (o_fieldAddr rfl rfl rfl tyS_27 (by decide) rfl rfl ⟨_, rfl, Nat.le_of_ble_eq_true rfl⟩) ((cdf ((updb_ne rfl).trans (hn 19 rfl))).trans (cdf ((updb_ne rfl).trans e20))) rfl
         ·exact ops_at ((cdf (hn 19 rfl)).trans (cdt e20)) rfl (o_fieldAddr rfl rfl rfl tyS_27 (by decide) rfl rfl ⟨_, rfl, Nat.le_of_ble_eq_true rfl⟩) ((cdf ((updb_ne rfl).trans (hn 19 rfl))).trans (cdt ((updb_ne rfl).trans e20))) rfl
        refine .cons _ _ _ _ _ ⟨rfl, [(139, .bx 0 0)], AllN.get rfl (.cons rfl .nil), fun b hd hn hk hc => ?_⟩ ?_
        ·cases e20 : b 20
         ·exact ops_at ((cdf (hn 19 rfl)).trans (cdf e20)) rfl (o_fieldAddr rfl rfl rfl tyS_9 (by decide) rfl rfl ⟨_, rfl, Nat.le_of_ble_eq_true rfl⟩) ((cdf ((updb_ne rfl).trans (hn 19 rfl))).trans (cdf ((updb_ne rfl).trans e20))) rfl
         ·exact ops_at ((cdf (hn 19 rfl)).trans (cdt e20)) rfl (o_fieldAddr rfl rfl rfl tyS_9 (by decide) rfl rfl ⟨_, rfl, Nat.le_of_ble_eq_true rfl⟩) ((cdf ((updb_ne rfl).trans (hn 19 rfl))).trans (cdt ((updb_ne rfl).trans e20))) rfl
        refine .cons _ _ _ _ _ ⟨rfl, [(140, .bx 0 5)], AllN.get rfl (.cons rfl .nil), fun b hd hn hk hc => ?_⟩ ?_
        ·cases e20 : b 20
         ·exact ops_at ((cdf (hn 19 rfl)).trans (cdf e20)) rfl (o_loadBx rfl tyS_9 rfl rfl (Nat.le_of_ble_eq_true rfl) rfl) ((cdf ((updb_ne rfl).trans (hn 19 rfl))).trans (cdf ((updb_ne rfl).trans e20))) rfl
         ·exact ops_at ((cdf (hn 19 rfl)).trans (cdt e20)) rfl (o_loadBx rfl tyS_9 rfl rfl (Nat.le_of_ble_eq_true rfl) rfl) ((cdf ((updb_ne rfl).trans (hn 19 rfl))).trans (cdt ((updb_ne rfl).trans e20))) rfl
        refine .cons _ _ _ _ _ ⟨rfl, [(125, .str v11), (132, .str e12), (136, .str s0.verifier_), (141, .str s0.c_.Secret_)], AllN.get rfl (.cons rfl (.cons rfl (.cons rfl (.cons rfl .nil)))), fun b hd hn hk hc => ?_⟩ ?_
        ·cases e20 : b 20
         ·exact ops_at ((cdf (hn 19 rfl)).trans (cdf e20)) rfl (Does.wk (o_build rfl ⟨_, fun _ => rfl, rfl⟩ rfl rfl rfl) (.aggL (.cons _ _ _ _ (.same _) (.cons _ _ _ _ (.same _) (.cons _ _ _ _ (.same _) (.cons _ _ _ _ (.same _) (.cons _ _ _ _ (.same _) (.cons _ _ _ _ (.same _) (.cons _ _ _ _ (.same _) (.cons _ _ _ _ (.same _) (.cons _ _ _ _ (.same _) (.cons _ _ _ _ .nil (.cons _ _ _ _ (.same _) (.cons _ _ _ _ (.same _) .nil)))))))))))))) ((cdf ((updb_ne rfl).trans (hn 19 rfl))).trans (cdf ((updb_ne rfl).trans e20))) rfl
         ·exact ops_at ((cdf (hn 19 rfl)).trans (cdt e20)) rfl (Does.wk (o_build rfl ⟨_, fun _ => rfl, rfl⟩ rfl rfl rfl) (.aggL (.cons _ _ _ _ (.same _) (.cons _ _ _ _ (.same _) (.cons _ _ _ _ (.same _) (.cons _ _ _ _ (.same _) (.cons _ _ _ _ (.same _) (.cons _ _ _ _ (.same _) (.cons _ _ _ _ (.same _) (.cons _ _ _ _ (.same _) (.cons _ _ _ _ (.same _) (.cons _ _ _ _ .nil (.cons _ _ _ _ (.same _) (.cons _ _ _ _ (.same _) .nil)))))))))))))) ((cdf ((updb_ne rfl).trans (hn 19 rfl))).trans (cdt ((updb_ne rfl).trans e20))) rfl
        refine .cons _ _ _ _ _ ⟨rfl, [(124, .bx 0 0), (142, .agg [.int .i64 2, .int .i64 0, .str (ByteArray.mk #[]), .str s0.c_.Secret_, .str e12, .str (ByteArray.mk #[]), .str s0.verifier_, .str (ByteArray.mk #[]), .str v11, .im false (([] : List ByteArray).map (c_str)), .str (ByteArray.mk #[]), .bool false])], AllN.get rfl (.cons rfl (.cons rfl .nil)), fun b hd hn hk hc => ?_⟩ ?_
        ·cases e20 : b 20
         ·exact ops_at ((cdf hk).trans (cdf e20)) rfl (o_callM [0, 1, 2, 3, 4, 5, 6, 7] rfl en_42 rfl rfl (impl_yattack_ask_p false false h17) rfl (by decide) (.cons _ _ _ _ rfl (.cons _ _ _ _ rfl (.cons _ _ _ _ (ren_at rfl (ren_rawO fun _ => rfl)) (.cons _ _ _ _ (ren_at rfl (ren_famO fun _ => rfl)) (.cons _ _ _ _ (ren_at rfl (ren_mpO fun _ => rfl)) (.cons _ _ _ _ rfl (.cons _ _ _ _ rfl (.cons _ _ _ _ rfl .nil)))))))) rfl rfl (.cons _ _ _ _ rfl (.cons _ _ _ _ rfl (.cons _ _ _ _ (ren_rawO fun _ => rfl) (.cons _ _ _ _ (ren_famO fun _ => rfl) (.cons _ _ _ _ (ren_mpO fun _ => rfl) (.cons _ _ _ _ rfl (.cons _ _ _ _ rfl (.cons _ _ _ _ rfl .nil)))))))) rfl) (((cdt updb_self).trans (cdf ((updb_ne rfl).trans e20))).trans rfl) rfl
         ·exact ops_at ((cdf hk).trans (cdt e20)) rfl (o_callM [0, 1, 2, 3, 4, 5, 6, 7] rfl en_42 rfl rfl (impl_yattack_ask_p false false h17) rfl (by decide) (.cons _ _ _ _ rfl (.cons _ _ _ _ rfl (.cons _ _ _ _ (ren_at rfl (ren_rawO fun _ => rfl)) (.cons _ _ _ _ (ren_at rfl (ren_famO fun _ => rfl)) (.cons _ _ _ _ (ren_at rfl (ren_mpO fun _ => rfl)) (.cons _ _ _ _ rfl (.cons _ _ _ _ rfl (.cons _ _ _ _ rfl .nil)))))))) rfl rfl (.cons _ _ _ _ rfl (.cons _ _ _ _ rfl (.cons _ _ _ _ (ren_rawO fun _ => rfl) (.cons _ _ _ _ (ren_famO fun _ => rfl) (.cons _ _ _ _ (ren_mpO fun _ => rfl) (.cons _ _ _ _ rfl (.cons _ _ _ _ rfl (.cons _ _ _ _ rfl .nil)))))))) rfl) ((((cdt updb_self).trans (cdt ((updb_ne rfl).trans e20))).trans (cdf ((updb_ne rfl).trans (hn 21 rfl)))).trans rfl) rfl
        refine .cons _ _ _ _ _ ⟨rfl, [], AllN.get rfl .nil, fun b hd hn hk hc => ?_⟩ ?_
        ·cases e19 : b 19
         ·exact ops_at ((cdf e19).trans (cdf hk)) rfl (o_alloc rfl ⟨_, rfl, rfl⟩) (((cdf ((updb_ne rfl).trans e19)).trans (cdt updb_self)).trans rfl) rfl
         ·exact ops_at ((cdt e19).trans (cdf hk)) rfl (o_alloc rfl ⟨_, rfl, rfl⟩) ((((cdt ((updb_ne rfl).trans e19)).trans (cdt updb_self)).trans (cdf ((updb_ne rfl).trans (hn 21 rfl)))).trans rfl) rfl
        refine .cons _ _ _ _ _ ⟨rfl, [(8, .bx 9 0), (143, .agg (c_T_impl_GrantReply false r14))], AllN.get rfl (.cons rfl (.cons rfl .nil)), fun b hd hn hk hc => ?_⟩ ?_
        ·exact ops_at (((cdt (hd 19 rfl)).trans (cdt (hd 20 rfl))).trans (cdf hk)) rfl (o_storeBx rfl tyS_84 rfl rfl rfl rfl (Nat.le_of_ble_eq_true rfl) rfl) ((((cdt ((updb_ne rfl).trans (hd 19 rfl))).trans (cdt ((updb_ne rfl).trans (hd 20 rfl)))).trans (cdt updb_self)).trans rfl) rfl
        exact .nil _
       ·intro b b' h; simp only [h 19 (by decide), h 20 (by decide), h 21 (by decide)]
       refine thn_normal (T.cut (fun fr' σ' => ∃ (b18 : T_impl_yattack), fr' = [(8, .bx 9 0)] ∧ σ' = [.box (k_impl_yattack 1 5 6 7 3 false b18), .box (k_impl_yserver 2 4 3 false b18.v_), .arr .raw 1 (b18.v_.held_.map (c_px 3)), .fam (o16.map (c_T_impl_yheld 3 false)), mpO (V.int .i64) (V.bool) b18.v_.ended_, .arr .clo 12 (b18.asks_.map (c_T_impl_GrantAsk false)), .arr .clo 1 (b18.res_.Errs_.map (c_int .i64)), .arr .clo 1 (b18.res_.Known_.map (c_str)), .box (c_T_impl_Move false a0), .box (c_T_impl_GrantReply false r14)] ∧ impl_yattack_move_j4 r14 o16 b18 = some (R0, U0, U3)) (T.pk ?_) ?_)
       ·skip
        refine T.seq (T.conv (Cs.eqS (σ' := [.box (k_impl_yattack 1 5 6 7 3 false o15), .box (k_impl_yserver 2 4 3 false o15.v_), .arr .raw 1 (o15.v_.held_.map (c_px 3)), .fam (o16.map (c_T_impl_yheld 3 false)), mpO (V.int .i64) (V.bool) o15.v_.ended_, .arr .clo 12 (o15.asks_.map (c_T_impl_GrantAsk false)), .arr .clo 1 (o15.res_.Errs_.map (c_int .i64)), .arr .clo 1 (o15.res_.Known_.map (c_str)), .box (c_T_impl_Move false a0), .box (c_T_impl_GrantReply false r14)]) rfl) ?_)
        refine T.region (TL.st rfl rfl rfl (o_fieldAddr rfl rfl rfl tyS_3 (by decide) rfl rfl ⟨_, rfl, Nat.le_of_ble_eq_true rfl⟩) ?_)
        refine TL.st rfl rfl rfl (o_loadBx rfl tyS_3 rfl rfl (Nat.le_of_ble_eq_true rfl) rfl) ?_
        refine TL.st rfl rfl rfl (o_ari rfl rfl rfl rfl) (TL.st rfl rfl rfl (o_move rfl rfl) (TL.gcq rfl rfl rfl (.bool _) rfl rfl (fun h => o_fieldAddr rfl rfl rfl tyS_3 (by decide) rfl rfl ⟨_, rfl, Nat.le_of_ble_eq_true rfl⟩) ?_))
        refine TL.gcq rfl rfl rfl (.bool _) rfl rfl (fun h => o_loadBx rfl tyS_3 (gv h rfl) rfl (Nat.le_of_ble_eq_true rfl) rfl) ?_
        refine TL.gcq rfl rfl rfl (.bool _) rfl rfl (fun h => o_ari rfl (gv h rfl) rfl rfl) ?_
        refine TL.st rfl rfl rfl (o_and rfl rfl rfl (fun k => Gd_t k) rfl) (TL.st rfl rfl rfl (o_move rfl rfl) (TL.gcq rfl rfl rfl (.bool _) rfl rfl (fun h => o_fieldAddr rfl rfl rfl tyS_9 (by decide) rfl rfl ⟨_, rfl, Nat.le_of_ble_eq_true rfl⟩) ?_))
        refine TL.gcq rfl rfl rfl (.bool _) rfl rfl (fun h => o_loadBx rfl tyS_9 (gv h rfl) rfl (Nat.le_of_ble_eq_true rfl) rfl) ?_
        refine TL.gcq rfl rfl rfl (.bool _) rfl rfl (fun h => o_str rfl (gv h rfl) rfl rfl) ?_
        refine TL.st rfl rfl rfl (o_and rfl rfl rfl (fun k => Gd_t k) rfl) (TL.nil (thn_normal ?_))
        refine T.cond ((((a0.Kind_ == 3) && (r14.Err_ == 0)) && (!(r14.User_.toList == (ByteArray.mk #[97, 110, 110]).toList)))) rfl (fun h => ?_) (fun h => ?_)
        ·replace H := cond_t h H
         refine T.region (TL.st rfl rfl rfl (o_move rfl rfl) (TL.st rfl rfl rfl (o_nilCheck rfl rfl rfl) (TL.st rfl rfl rfl (o_fieldAddr rfl rfl rfl tyS_32 (by decide) rfl rfl ⟨_, rfl, Nat.le_of_ble_eq_true rfl⟩) ?_)))
         refine TL.st rfl rfl rfl (o_fieldAddr rfl rfl rfl tyS_4 (by decide) rfl rfl ⟨_, rfl, Nat.le_of_ble_eq_true rfl⟩) ?_
         refine TL.sn rfl rfl (o_storeBx rfl tyS_4 rfl rfl rfl rfl (Nat.le_of_ble_eq_true rfl) rfl) ?_
         refine TL.nil ?_
         exact Pk.of (thn_normal ⟨({ o15 with res_ := ({ o15.res_ with Injected_ := true } : T_impl_AttackRes) } : T_impl_yattack), rfl, rfl, H⟩)
        ·replace H := cond_f h H
         refine T.skip ?_
         exact Pk.of (thn_normal ⟨o15, rfl, rfl, H⟩)
       ·rintro _ _ ⟨b18, rfl, rfl, H⟩
        refine T.seq (T.region (TL.st rfl rfl rfl (o_fieldAddr rfl rfl rfl tyS_3 (by decide) rfl rfl ⟨_, rfl, Nat.le_of_ble_eq_true rfl⟩) ?_))
        refine TL.st rfl rfl rfl (o_loadBx rfl tyS_3 rfl rfl (Nat.le_of_ble_eq_true rfl) rfl) ?_
        refine TL.st rfl rfl rfl (o_assign rfl rfl) (TL.nil (thn_normal (T.ret (inB_ret (thn_ret ?_)))))
        cases some_i H
        exact ⟨trivial, _, (.tmp _ _ _ _ rfl .nil), ⟨rfl, _, rfl⟩⟩
     ·replace H := cond_f h H
      refine T.seq (T.region (TL.st rfl rfl rfl (o_ari rfl rfl rfl rfl) (TL.st rfl rfl rfl (o_assign rfl rfl) (TL.nil (thn_normal ?_)))))
      refine T.cond ((a0.Kind_ == 4)) rfl (fun h => ?_) (fun h => ?_)
      ·replace H := cond_t h H
       refine T.seq (T.region (TL.st rfl rfl rfl (o_move rfl rfl) (TL.st rfl rfl rfl (o_fieldAddr rfl rfl rfl tyS_3 (by decide) rfl rfl ⟨_, rfl, Nat.le_of_ble_eq_true rfl⟩) ?_)))
       refine TL.st rfl rfl rfl (o_loadBx rfl tyS_3 rfl rfl (Nat.le_of_ble_eq_true rfl) rfl) ?_
       refine TL.st rfl rfl rfl (o_rem rfl rfl rfl (by decide)) ?_
       obtain ⟨r21, h22, H⟩ := bind_s H
       refine TL.st rfl rfl rfl (o_callP rfl en_38 rfl rfl (.cons _ _ _ _ (.cl _ rfl) (.cons _ _ _ _ (.cl _ rfl) .nil)) (impl_VerifierOf_p  h22)) ?_
       obtain ⟨⟨r23, o24, o25⟩, h26, H⟩ := bind_s H
       refine TL.st rfl rfl rfl (o_callM [0, 1, 2, 3, 4, 5, 6, 7] rfl en_39 rfl rfl (impl_yattack_authorize_p false h26) rfl (by decide) (.cons _ _ _ _ rfl (.cons _ _ _ _ rfl (.cons _ _ _ _ (ren_at rfl (ren_rawO fun _ => rfl)) (.cons _ _ _ _ (ren_at rfl (ren_famO fun _ => rfl)) (.cons _ _ _ _ (ren_at rfl (ren_mpO fun _ => rfl)) (.cons _ _ _ _ rfl (.cons _ _ _ _ rfl (.cons _ _ _ _ rfl .nil)))))))) rfl rfl (.cons _ _ _ _ rfl (.cons _ _ _ _ rfl (.cons _ _ _ _ (ren_rawO fun _ => rfl) (.cons _ _ _ _ (ren_famO fun _ => rfl) (.cons _ _ _ _ (ren_mpO fun _ => rfl) (.cons _ _ _ _ rfl (.cons _ _ _ _ rfl (.cons _ _ _ _ rfl .nil)))))))) rfl) ?_
       refine TL.st rfl rfl rfl (o_alloc rfl ⟨_, rfl, rfl⟩) (TL.sn rfl rfl (o_storeBx rfl tyS_84 rfl rfl rfl rfl (Nat.le_of_ble_eq_true rfl) rfl) ?_)
       refine TL.nil (thn_normal (T.seq (T.conv (Cs.eqS (σ' := [.box (k_impl_yattack 1 5 6 7 3 false o24), .box (k_impl_yserver 2 4 3 false o24.v_), .arr .raw 1 (o24.v_.held_.map (c_px 3)), .fam (o25.map (c_T_impl_yheld 3 false)), mpO (V.int .i64) (V.bool) o24.v_.ended_, .arr .clo 12 (o24.asks_.map (c_T_impl_GrantAsk false)), .arr .clo 1 (o24.res_.Errs_.map (c_int .i64)), .arr .clo 1 (o24.res_.Known_.map (c_str)), .box (c_T_impl_Move false a0), .box (c_T_impl_GrantReply false r23)]) rfl) ?_)))
       refine T.region (TL.st rfl rfl rfl (o_move rfl rfl) (TL.st rfl rfl rfl (o_loadBx rfl tyS_84 rfl rfl (Nat.le_of_ble_eq_true rfl) rfl) ?_))
       obtain ⟨o27, h28, H⟩ := bind_s H
       refine TL.st rfl rfl rfl (o_callM [0, 1, 2, 3, 4, 5, 6, 7] rfl en_40 rfl rfl (impl_yattack_learn_p false false h28) rfl (by decide) (.cons _ _ _ _ rfl (.cons _ _ _ _ rfl (.cons _ _ _ _ (ren_at rfl (ren_rawO fun _ => rfl)) (.cons _ _ _ _ (ren_at rfl (ren_famO fun _ => rfl)) (.cons _ _ _ _ (ren_at rfl (ren_mpO fun _ => rfl)) (.cons _ _ _ _ rfl (.cons _ _ _ _ rfl (.cons _ _ _ _ rfl .nil)))))))) rfl rfl (.cons _ _ _ _ rfl (.cons _ _ _ _ rfl (.cons _ _ _ _ (ren_rawO fun _ => rfl) (.cons _ _ _ _ (ren_famO fun _ => rfl) (.cons _ _ _ _ (ren_mpO fun _ => rfl) (.cons _ _ _ _ rfl (.cons _ _ _ _ rfl (.cons _ _ _ _ rfl .nil)))))))) rfl) ?_
       refine TL.nil (thn_normal (T.seq (T.region (TL.st rfl rfl rfl (o_fieldAddr rfl rfl rfl tyS_3 (by decide) rfl rfl ⟨_, rfl, Nat.le_of_ble_eq_true rfl⟩) ?_))))
       refine TL.st rfl rfl rfl (o_loadBx rfl tyS_3 rfl rfl (Nat.le_of_ble_eq_true rfl) rfl) ?_
       refine TL.st rfl rfl rfl (o_assign rfl rfl) (TL.nil (thn_normal (T.ret (inB_ret (thn_ret ?_)))))
       cases some_i H
       exact ⟨trivial, _, (.tmp _ _ _ _ rfl .nil), ⟨rfl, _, rfl⟩⟩
      ·replace H := cond_f h H
       refine T.skip (inB_normal (thn_normal (T.seq (T.region (TL.st rfl rfl rfl (o_move rfl rfl) (TL.st rfl rfl rfl (o_fieldAddr rfl rfl rfl tyS_3 (by decide) rfl rfl ⟨_, rfl, Nat.le_of_ble_eq_true rfl⟩) ?_))))))
       refine TL.st rfl rfl rfl (o_loadBx rfl tyS_3 rfl rfl (Nat.le_of_ble_eq_true rfl) rfl) ?_
       obtain ⟨r29, h30, H⟩ := bind_s H
       refine TL.st rfl rfl rfl (o_callM [0, 1, 2, 3, 4, 5, 6, 7] rfl en_41 rfl rfl (impl_yattack_pick_p false h30) rfl (by decide) (.cons _ _ _ _ rfl (.cons _ _ _ _ rfl (.cons _ _ _ _ (ren_at rfl (ren_rawO fun _ => rfl)) (.cons _ _ _ _ (ren_at rfl (ren_famO fun _ => rfl)) (.cons _ _ _ _ (ren_at rfl (ren_mpO fun _ => rfl)) (.cons _ _ _ _ rfl (.cons _ _ _ _ rfl (.cons _ _ _ _ rfl .nil)))))))) rfl rfl (.cons _ _ _ _ rfl (.cons _ _ _ _ rfl (.cons _ _ _ _ (ren_rawO fun _ => rfl) (.cons _ _ _ _ (ren_famO fun _ => rfl) (.cons _ _ _ _ (ren_mpO fun _ => rfl) (.cons _ _ _ _ rfl (.cons _ _ _ _ rfl (.cons _ _ _ _ rfl .nil)))))))) rfl) ?_
       refine TL.st rfl rfl rfl (Does.wk (o_build rfl ⟨_, fun _ => rfl, rfl⟩ rfl rfl rfl) (.aggL (.cons _ _ _ _ (.same _) (.cons _ _ _ _ (.same _) (.cons _ _ _ _ (.same _) (.cons _ _ _ _ (.same _) (.cons _ _ _ _ (.same _) (.cons _ _ _ _ (.same _) (.cons _ _ _ _ (.same _) (.cons _ _ _ _ (.same _) (.cons _ _ _ _ (.same _) (.cons _ _ _ _ .nil (.cons _ _ _ _ (.same _) (.cons _ _ _ _ (.same _) .nil)))))))))))))) ?_
       refine TL.st rfl rfl rfl (Does.nilc (p := 9) 9 (o_alloc rfl ⟨_, rfl, rfl⟩) rfl rfl) ?_
       refine TL.sn rfl rfl (o_storeBx rfl tyS_82 rfl rfl rfl rfl (Nat.le_of_ble_eq_true rfl) rfl) ?_
       refine TL.nil (thn_normal (T.cut (fun fr' σ' => ∃ (b31 : T_impl_GrantAsk), fr' = [(0, .bx 0 0), (10, .bx 9 0)] ∧ σ' = [.box (k_impl_yattack 1 5 6 7 3 false ({ s0 with time_ := (IntKind.i64.wrap (s0.time_ + a0.Wait_)) } : T_impl_yattack)), .box (k_impl_yserver 2 4 3 false s0.v_), .arr .raw 1 (s0.v_.held_.map (c_px 3)), .fam (s3.map (c_T_impl_yheld 3 false)), mpO (V.int .i64) (V.bool) s0.v_.ended_, .arr .clo 12 (s0.asks_.map (c_T_impl_GrantAsk false)), .arr .clo 1 (s0.res_.Errs_.map (c_int .i64)), .arr .clo 1 (s0.res_.Known_.map (c_str)), .box (c_T_impl_Move false a0), .box (c_T_impl_GrantAsk false b31)] ∧ impl_yattack_move_j5 a0 s0 s3 b31 = some (R0, U0, U3)) (T.pk ?_) ?_))
       ·skip
        refine T.seq (T.conv (Cs.eqS (σ' := [.box (k_impl_yattack 1 5 6 7 3 false ({ s0 with time_ := (IntKind.i64.wrap (s0.time_ + a0.Wait_)) } : T_impl_yattack)), .box (k_impl_yserver 2 4 3 false s0.v_), .arr .raw 1 (s0.v_.held_.map (c_px 3)), .fam (s3.map (c_T_impl_yheld 3 false)), mpO (V.int .i64) (V.bool) s0.v_.ended_, .arr .clo 12 (s0.asks_.map (c_T_impl_GrantAsk false)), .arr .clo 1 (s0.res_.Errs_.map (c_int .i64)), .arr .clo 1 (s0.res_.Known_.map (c_str)), .box (c_T_impl_Move false a0), .box [.int .i64 0, .int .i64 0, .str (ByteArray.mk #[]), .str (ByteArray.mk #[]), .str (ByteArray.mk #[]), .str (ByteArray.mk #[]), .str (ByteArray.mk #[]), .str (ByteArray.mk #[]), .str r29, .im false (([] : List ByteArray).map (c_str)), .str (ByteArray.mk #[]), .bool false]]) rfl) ?_)
        refine T.region (TL.st rfl rfl rfl (o_fieldAddr rfl rfl rfl tyS_3 (by decide) rfl rfl ⟨_, rfl, Nat.le_of_ble_eq_true rfl⟩) ?_)
        refine TL.st rfl rfl rfl (o_loadBx rfl tyS_3 rfl rfl (Nat.le_of_ble_eq_true rfl) rfl) ?_
        refine TL.nil (thn_normal (T.block (T.seq (T.region (TL.st rfl rfl rfl (o_ari rfl rfl rfl rfl) (TL.st rfl rfl rfl (o_assign rfl rfl) (TL.nil (thn_normal ?_))))))))
        refine T.cond ((a0.Kind_ == 5)) rfl (fun h => ?_) (fun h => ?_)
        ·replace H := cond_t h H
         refine T.seq ?_
         obtain ⟨e38, h39, H⟩ := bind_s H
         obtain ⟨r40, h41, H⟩ := bind_s H
         refine T.drawS (fr' := [(0, .bx 0 0), (3, .bx 8 0), (10, .bx 9 0), (65, .int .i64 a0.Kind_), (107, .bool v10), (163, .bool (a0.Kind_ == 4)), (164, .bool (a0.Kind_ == 4)), (176, .bx 0 0), (177, .bx 8 2), (178, .int .i64 a0.Pick_), (179, .str r29), (180, .agg [.int .i64 0, .int .i64 0, .str (ByteArray.mk #[]), .str (ByteArray.mk #[]), .str (ByteArray.mk #[]), .str (ByteArray.mk #[]), .str (ByteArray.mk #[]), .str (ByteArray.mk #[]), .str r29, .im false (([] : List ByteArray).map (c_str)), .str (ByteArray.mk #[]), .bool false]), (181, .bx 8 0), (182, .int .i64 a0.Kind_), (183, .bool (a0.Kind_ == 5)), (184, .bool (a0.Kind_ == 5)), (185, .bx 0 0), (186, .bx 0 0), (187, .bx 0 8), (188, .bx 0 10), (189, .im false (s0.x_.Redirects_.map (c_str))), (191, .str e38), (192, .bx 8 3), (193, .int .i64 a0.Other_), (194, .int .i64 (Int.tmod a0.Other_ 10)), (195, .str r40), (196, .bx 9 0), (197, .bx 9 4), (198, .bx 9 6)]) (R := [⟨some 185, .bx 0 0, .q, []⟩, ⟨some 186, .bx 0 0, .q, []⟩, ⟨some 187, .bx 0 8, .q, []⟩, ⟨some 188, .bx 0 10, .q, []⟩, ⟨some 189, .im false (s0.x_.Redirects_.map (c_str)), .q, []⟩, ⟨some 190, .rf false [.str e38], .q, []⟩, ⟨some 191, .str e38, .q, []⟩, ⟨some 192, .bx 8 3, .q, []⟩, ⟨some 193, .int .i64 a0.Other_, .q, []⟩, ⟨some 194, .int .i64 (Int.tmod a0.Other_ 10), .q, []⟩, ⟨some 195, .str r40, .q, []⟩, ⟨some 196, .bx 9 0, .q, []⟩, ⟨none, .any, .q, []⟩, ⟨some 197, .bx 9 4, .q, []⟩, ⟨none, .any, .q, []⟩, ⟨some 198, .bx 9 6, .q, []⟩, ⟨none, .any, .q, []⟩]) (fun b => cond (b 12) (cond (b 14) (cond (b 16) ([.box (k_impl_yattack 1 5 6 7 3 false ({ s0 with time_ := (IntKind.i64.wrap (s0.time_ + a0.Wait_)) } : T_impl_yattack)), .box (k_impl_yserver 2 4 3 false s0.v_), .arr .raw 1 (s0.v_.held_.map (c_px 3)), .fam (s3.map (c_T_impl_yheld 3 false)), mpO (V.int .i64) (V.bool) s0.v_.ended_, .arr .clo 12 (s0.asks_.map (c_T_impl_GrantAsk false)), .arr .clo 1 (s0.res_.Errs_.map (c_int .i64)), .arr .clo 1 (s0.res_.Known_.map (c_str)), .box (c_T_impl_Move false a0), .box [.int .i64 2, .int .i64 0, .str (ByteArray.mk #[]), .str (ByteArray.mk #[]), .str e38, .str (ByteArray.mk #[]), .str r40, .str (ByteArray.mk #[]), .str r29, .im false (([] : List ByteArray).map (c_str)), .str (ByteArray.mk #[]), .bool false]]) ([.box (k_impl_yattack 1 5 6 7 3 false ({ s0 with time_ := (IntKind.i64.wrap (s0.time_ + a0.Wait_)) } : T_impl_yattack)), .box (k_impl_yserver 2 4 3 false s0.v_), .arr .raw 1 (s0.v_.held_.map (c_px 3)), .fam (s3.map (c_T_impl_yheld 3 false)), mpO (V.int .i64) (V.bool) s0.v_.ended_, .arr .clo 12 (s0.asks_.map (c_T_impl_GrantAsk false)), .arr .clo 1 (s0.res_.Errs_.map (c_int .i64)), .arr .clo 1 (s0.res_.Known_.map (c_str)), .box (c_T_impl_Move false a0), .box [.int .i64 2, .int .i64 0, .str (ByteArray.mk #[]), .str (ByteArray.mk #[]), .str e38, .str (ByteArray.mk #[]), .str (ByteArray.mk #[]), .str (ByteArray.mk #[]), .str r29, .im false (([] : List ByteArray).map (c_str)), .str (ByteArray.mk #[]), .bool false]])) ([.box (k_impl_yattack 1 5 6 7 3 false ({ s0 with time_ := (IntKind.i64.wrap (s0.time_ + a0.Wait_)) } : T_impl_yattack)), .box (k_impl_yserver 2 4 3 false s0.v_), .arr .raw 1 (s0.v_.held_.map (c_px 3)), .fam (s3.map (c_T_impl_yheld 3 false)), mpO (V.int .i64) (V.bool) s0.v_.ended_, .arr .clo 12 (s0.asks_.map (c_T_impl_GrantAsk false)), .arr .clo 1 (s0.res_.Errs_.map (c_int .i64)), .arr .clo 1 (s0.res_.Known_.map (c_str)), .box (c_T_impl_Move false a0), .box [.int .i64 2, .int .i64 0, .str (ByteArray.mk #[]), .str (ByteArray.mk #[]), .str (ByteArray.mk #[]), .str (ByteArray.mk #[]), .str (ByteArray.mk #[]), .str (ByteArray.mk #[]), .str r29, .im false (([] : List ByteArray).map (c_str)), .str (ByteArray.mk #[]), .bool false]])) ([.box (k_impl_yattack 1 5 6 7 3 false ({ s0 with time_ := (IntKind.i64.wrap (s0.time_ + a0.Wait_)) } : T_impl_yattack)), .box (k_impl_yserver 2 4 3 false s0.v_), .arr .raw 1 (s0.v_.held_.map (c_px 3)), .fam (s3.map (c_T_impl_yheld 3 false)), mpO (V.int .i64) (V.bool) s0.v_.ended_, .arr .clo 12 (s0.asks_.map (c_T_impl_GrantAsk false)), .arr .clo 1 (s0.res_.Errs_.map (c_int .i64)), .arr .clo 1 (s0.res_.Known_.map (c_str)), .box (c_T_impl_Move false a0), .box [.int .i64 0, .int .i64 0, .str (ByteArray.mk #[]), .str (ByteArray.mk #[]), .str (ByteArray.mk #[]), .str (ByteArray.mk #[]), .str (ByteArray.mk #[]), .str (ByteArray.mk #[]), .str r29, .im false (([] : List ByteArray).map (c_str)), .str (ByteArray.mk #[]), .bool false]])) rfl ?_ ?_ rfl rfl (FrL.get (.cons rfl (.cons rfl (.cons rfl (.cons rfl (.cons rfl (.cons rfl (.cons rfl (.cons rfl (.cons rfl (.cons rfl (.cons rfl (.cons rfl (.cons rfl (.cons rfl (.cons rfl (.cons rfl (.cons rfl (.cons rfl (.cons rfl (.cons rfl (.cons rfl (.cons rfl (.cons rfl (.cons rfl (.cons rfl (.cons rfl (.cons rfl (.cons rfl (.cons rfl .nil)))))))))))))))))))))))))))))) ?_
         ·refine .cons _ _ _ _ _ ⟨rfl, [(0, .bx 0 0)], AllN.get rfl (.cons rfl .nil), fun b hd hn hk hc => ?_⟩ ?_
          ·cases e12 : b 12
           ·exact ops_at (cdf e12) rfl (o_move rfl rfl) (cdf ((updb_ne rfl).trans e12)) rfl
           ·exact ops_at ((cdt e12).trans (cdf (hn 14 rfl))) rfl (o_move rfl rfl) ((cdt ((updb_ne rfl).trans e12)).trans (cdf ((updb_ne rfl).trans (hn 14 rfl)))) rfl
          refine .cons _ _ _ _ _ ⟨rfl, [(185, .bx 0 0)], AllN.get rfl (.cons rfl .nil), fun b hd hn hk hc => ?_⟩ ?_
          ·cases e12 : b 12
           ·exact ops_at (cdf e12) rfl (o_nilCheck rfl rfl rfl) (cdf ((updb_ne rfl).trans e12)) rfl
           ·exact ops_at ((cdt e12).trans (cdf (hn 14 rfl))) rfl (o_nilCheck rfl rfl rfl) ((cdt ((updb_ne rfl).trans e12)).trans (cdf ((updb_ne rfl).trans (hn 14 rfl)))) rfl
          refine .cons _ _ _ _ _ ⟨rfl, [(186, .bx 0 0)], AllN.get rfl (.cons rfl .nil), fun b hd hn hk hc => ?_⟩ ?_
          ·cases e12 : b 12
           ·exact ops_at (cdf e12) rfl (o_fieldAddr rfl rfl rfl tyS_50 (by decide) rfl rfl ⟨_, rfl, Nat.le_of_ble_eq_true rfl⟩) (cdf ((updb_ne rfl).trans e12)) rfl
           ·exact ops_at ((cdt e12).trans (cdf (hn 14 rfl))) rfl (o_fieldAddr rfl rfl rfl tyS_50 (by decide) rfl rfl ⟨_, rfl, Nat.le_of_ble_eq_true rfl⟩) ((cdt ((updb_ne rfl).trans e12)).trans (cdf ((updb_ne rfl).trans (hn 14 rfl)))) rfl
          refine .cons _ _ _ _ _ ⟨rfl, [(187, .bx 0 8)], AllN.get rfl (.cons rfl .nil), fun b hd hn hk hc => ?_⟩ ?_
          ·cases e12 : b 12
           ·exact ops_at (cdf e12) rfl (o_fieldAddr rfl rfl rfl tyS_30 (by decide) rfl rfl ⟨_, rfl, Nat.le_of_ble_eq_true rfl⟩) (cdf ((updb_ne rfl).trans e12)) rfl
           ·exact ops_at ((cdt e12).trans (cdf (hn 14 rfl))) rfl (o_fieldAddr rfl rfl rfl tyS_30 (by decide) rfl rfl ⟨_, rfl, Nat.le_of_ble_eq_true rfl⟩) ((cdt ((updb_ne rfl).trans e12)).trans (cdf ((updb_ne rfl).trans (hn 14 rfl)))) rfl
          refine .cons _ _ _ _ _ ⟨rfl, [(188, .bx 0 10)], AllN.get rfl (.cons rfl .nil), fun b hd hn hk hc => ?_⟩ ?_
          ·cases e12 : b 12
           ·exact ops_at (cdf e12) rfl (o_loadBx rfl tyS_30 rfl rfl (Nat.le_of_ble_eq_true rfl) rfl) (cdf ((updb_ne rfl).trans e12)) rfl
           ·exact ops_at ((cdt e12).trans (cdf (hn 14 rfl))) rfl (o_loadBx rfl tyS_30 rfl rfl (Nat.le_of_ble_eq_true rfl) rfl) ((cdt ((updb_ne rfl).trans e12)).trans (cdf ((updb_ne rfl).trans (hn 14 rfl)))) rfl
          refine .cons _ _ _ _ _ ⟨rfl, [(189, .im false (s0.x_.Redirects_.map (c_str)))], AllN.get rfl (.cons rfl .nil), fun b hd hn hk hc => ?_⟩ ?_
          ·cases e12 : b 12
           ·exact ops_at (cdf e12) rfl (o_ix (f := c_str) rfl rfl tyS_9 rfl rfl h39 rfl) (cdf ((updb_ne rfl).trans e12)) rfl
           ·exact ops_at ((cdt e12).trans (cdf (hn 14 rfl))) rfl (o_ix (f := c_str) rfl rfl tyS_9 rfl rfl h39 rfl) ((cdt ((updb_ne rfl).trans e12)).trans (cdf ((updb_ne rfl).trans (hn 14 rfl)))) rfl
          refine .cons _ _ _ _ _ ⟨rfl, [(190, .rf false [.str e38])], AllN.get rfl (.cons rfl .nil), fun b hd hn hk hc => ?_⟩ ?_
          ·cases e12 : b 12
           ·exact ops_at (cdf e12) rfl (o_loadRf rfl tyS_9 rfl (Nat.le_of_ble_eq_true rfl) rfl) (cdf ((updb_ne rfl).trans e12)) rfl
           ·exact ops_at ((cdt e12).trans (cdf (hn 14 rfl))) rfl (o_loadRf rfl tyS_9 rfl (Nat.le_of_ble_eq_true rfl) rfl) ((cdt ((updb_ne rfl).trans e12)).trans (cdf ((updb_ne rfl).trans (hn 14 rfl)))) rfl
          refine .cons _ _ _ _ _ ⟨rfl, [(3, .bx 8 0)], AllN.get rfl (.cons rfl .nil), fun b hd hn hk hc => ?_⟩ ?_
          ·exact ops_at (cdf (hn 12 rfl)) rfl (o_fieldAddr rfl rfl rfl tyS_3 (by decide) rfl rfl ⟨_, rfl, Nat.le_of_ble_eq_true rfl⟩) (cdf ((updb_ne rfl).trans (hn 12 rfl))) rfl
          refine .cons _ _ _ _ _ ⟨rfl, [(192, .bx 8 3)], AllN.get rfl (.cons rfl .nil), fun b hd hn hk hc => ?_⟩ ?_
          ·exact ops_at (cdf (hn 12 rfl)) rfl (o_loadBx rfl tyS_3 rfl rfl (Nat.le_of_ble_eq_true rfl) rfl) (cdf ((updb_ne rfl).trans (hn 12 rfl))) rfl
          refine .cons _ _ _ _ _ ⟨rfl, [(193, .int .i64 a0.Other_)], AllN.get rfl (.cons rfl .nil), fun b hd hn hk hc => ?_⟩ ?_
          ·exact ops_at (cdf (hn 12 rfl)) rfl (o_rem rfl rfl rfl (by decide)) (cdf ((updb_ne rfl).trans (hn 12 rfl))) rfl
          refine .cons _ _ _ _ _ ⟨rfl, [(194, .int .i64 (Int.tmod a0.Other_ 10))], AllN.get rfl (.cons rfl .nil), fun b hd hn hk hc => ?_⟩ ?_
          ·exact ops_at (cdf (hn 12 rfl)) rfl (o_callP rfl en_38 rfl rfl (.cons _ _ _ _ (.cl _ rfl) (.cons _ _ _ _ (.cl _ rfl) .nil)) (impl_VerifierOf_p  h41)) (cdf ((updb_ne rfl).trans (hn 12 rfl))) rfl
          refine .cons _ _ _ _ _ ⟨rfl, [(10, .bx 9 0)], AllN.get rfl (.cons rfl .nil), fun b hd hn hk hc => ?_⟩ ?_
          ·exact ops_at (cdf (hn 12 rfl)) rfl (o_fieldAddr rfl rfl rfl tyS_3 (by decide) rfl rfl ⟨_, rfl, Nat.le_of_ble_eq_true rfl⟩) (cdf ((updb_ne rfl).trans (hn 12 rfl))) rfl
          refine .cons _ _ _ _ _ ⟨rfl, [(196, .bx 9 0)], AllN.get rfl (.cons rfl .nil), fun b hd hn hk hc => ?_⟩ ?_
          ·exact ops_at (cdf hk) rfl (o_storeBx rfl tyS_3 rfl rfl rfl rfl (Nat.le_of_ble_eq_true rfl) rfl) (((cdt updb_self).trans (cdf ((updb_ne rfl).trans (hn 14 rfl)))).trans rfl) rfl
          refine .cons _ _ _ _ _ ⟨rfl, [(10, .bx 9 0)], AllN.get rfl (.cons rfl .nil), fun b hd hn hk hc => ?_⟩ ?_
          ·exact ops_at ((cdt (hd 12 rfl)).trans (cdf (hn 14 rfl))) rfl (o_fieldAddr rfl rfl rfl tyS_9 (by decide) rfl rfl ⟨_, rfl, Nat.le_of_ble_eq_true rfl⟩) ((cdt ((updb_ne rfl).trans (hd 12 rfl))).trans (cdf ((updb_ne rfl).trans (hn 14 rfl)))) rfl
          refine .cons _ _ _ _ _ ⟨rfl, [(191, .str e38), (197, .bx 9 4)], AllN.get rfl (.cons rfl (.cons rfl .nil)), fun b hd hn hk hc => ?_⟩ ?_
          ·exact ops_at ((cdt (hd 12 rfl)).trans (cdf hk)) rfl (o_storeBx rfl tyS_9 rfl rfl rfl rfl (Nat.le_of_ble_eq_true rfl) rfl) ((((cdt ((updb_ne rfl).trans (hd 12 rfl))).trans (cdt updb_self)).trans (cdf ((updb_ne rfl).trans (hn 16 rfl)))).trans rfl) rfl
          refine .cons _ _ _ _ _ ⟨rfl, [(10, .bx 9 0)], AllN.get rfl (.cons rfl .nil), fun b hd hn hk hc => ?_⟩ ?_
          ·exact ops_at (((cdt (hd 12 rfl)).trans (cdt (hd 14 rfl))).trans (cdf (hn 16 rfl))) rfl (o_fieldAddr rfl rfl rfl tyS_9 (by decide) rfl rfl ⟨_, rfl, Nat.le_of_ble_eq_true rfl⟩) (((cdt ((updb_ne rfl).trans (hd 12 rfl))).trans (cdt ((updb_ne rfl).trans (hd 14 rfl)))).trans (cdf ((updb_ne rfl).trans (hn 16 rfl)))) rfl
          refine .cons _ _ _ _ _ ⟨rfl, [(195, .str r40), (198, .bx 9 6)], AllN.get rfl (.cons rfl (.cons rfl .nil)), fun b hd hn hk hc => ?_⟩ ?_
          ·exact ops_at (((cdt (hd 12 rfl)).trans (cdt (hd 14 rfl))).trans (cdf hk)) rfl (o_storeBx rfl tyS_9 rfl rfl rfl rfl (Nat.le_of_ble_eq_true rfl) rfl) ((((cdt ((updb_ne rfl).trans (hd 12 rfl))).trans (cdt ((updb_ne rfl).trans (hd 14 rfl)))).trans (cdt updb_self)).trans rfl) rfl
          exact .nil _
         ·intro b b' h; simp only [h 12 (by decide), h 14 (by decide), h 16 (by decide)]
         refine thn_normal (T.seq (T.conv (Cs.eqS (σ' := [.box (k_impl_yattack 1 5 6 7 3 false ({ s0 with time_ := (IntKind.i64.wrap (s0.time_ + a0.Wait_)) } : T_impl_yattack)), .box (k_impl_yserver 2 4 3 false s0.v_), .arr .raw 1 (s0.v_.held_.map (c_px 3)), .fam (s3.map (c_T_impl_yheld 3 false)), mpO (V.int .i64) (V.bool) s0.v_.ended_, .arr .clo 12 (s0.asks_.map (c_T_impl_GrantAsk false)), .arr .clo 1 (s0.res_.Errs_.map (c_int .i64)), .arr .clo 1 (s0.res_.Known_.map (c_str)), .box (c_T_impl_Move false a0), .box [.int .i64 2, .int .i64 0, .str (ByteArray.mk #[]), .str (ByteArray.mk #[]), .str e38, .str (ByteArray.mk #[]), .str r40, .str (ByteArray.mk #[]), .str r29, .im false (([] : List ByteArray).map (c_str)), .str (ByteArray.mk #[]), .bool false]]) rfl) ?_))
         refine T.region (TL.st rfl rfl rfl (o_move rfl rfl) (TL.st rfl rfl rfl (o_nilCheck rfl rfl rfl) (TL.st rfl rfl rfl (o_fieldAddr rfl rfl rfl tyS_27 (by decide) rfl rfl ⟨_, rfl, Nat.le_of_ble_eq_true rfl⟩) ?_)))
         refine TL.st rfl rfl rfl (o_fieldAddr rfl rfl rfl tyS_4 (by decide) rfl rfl ⟨_, rfl, Nat.le_of_ble_eq_true rfl⟩) ?_
         refine TL.st rfl rfl rfl (o_loadBx rfl tyS_4 rfl rfl (Nat.le_of_ble_eq_true rfl) rfl) ?_
         refine TL.st rfl rfl rfl (o_move rfl rfl) (TL.gcq rfl rfl rfl (.bool _) rfl rfl (fun h => o_fieldAddr rfl rfl rfl tyS_3 (by decide) rfl rfl ⟨_, rfl, Nat.le_of_ble_eq_true rfl⟩) ?_)
         refine TL.gcq rfl rfl rfl (.bool _) rfl rfl (fun h => o_loadBx rfl tyS_3 (gv h rfl) rfl (Nat.le_of_ble_eq_true rfl) rfl) ?_
         refine TL.gcq rfl rfl rfl (.bool _) rfl rfl (fun h => o_ari rfl (gv h rfl) rfl rfl) ?_
         refine TL.st rfl rfl rfl (o_and rfl rfl rfl (fun k => Gd_t k) rfl) (TL.nil (thn_normal ?_))
         refine T.cond ((s0.c_.Bare_ && decide (a0.Other_ ≥ 10))) rfl (fun h => ?_) (fun h => ?_)
         ·replace H := cond_t h H
          refine T.region (TL.st rfl rfl rfl (o_fieldAddr rfl rfl rfl tyS_3 (by decide) rfl rfl ⟨_, rfl, Nat.le_of_ble_eq_true rfl⟩) ?_)
          refine TL.st rfl rfl rfl (o_loadBx rfl tyS_3 rfl rfl (Nat.le_of_ble_eq_true rfl) rfl) ?_
          refine TL.st rfl rfl rfl (o_ari rfl rfl rfl rfl) ?_
          obtain ⟨r42, h43, H⟩ := bind_s H
          refine TL.st rfl rfl rfl (o_callP rfl en_38 rfl rfl (.cons _ _ _ _ (.cl _ rfl) (.cons _ _ _ _ (.cl _ rfl) .nil)) (impl_VerifierOf_p  h43)) ?_
          refine TL.st rfl rfl rfl (o_fieldAddr rfl rfl rfl tyS_9 (by decide) rfl rfl ⟨_, rfl, Nat.le_of_ble_eq_true rfl⟩) ?_
          refine TL.sn rfl rfl (o_storeBx rfl tyS_9 rfl rfl rfl rfl (Nat.le_of_ble_eq_true rfl) rfl) ?_
          refine TL.nil (inB_normal ?_)
          exact Pk.of (thn_normal ⟨(⟨2, 0, (ByteArray.mk #[]), (ByteArray.mk #[]), e38, (ByteArray.mk #[]), r42, (ByteArray.mk #[]), r29, ([] : List ByteArray), (ByteArray.mk #[]), false⟩ : T_impl_GrantAsk), rfl, rfl, H⟩)
         ·replace H := cond_f h H
          refine T.skip (inB_normal ?_)
          exact Pk.of (thn_normal ⟨(⟨2, 0, (ByteArray.mk #[]), (ByteArray.mk #[]), e38, (ByteArray.mk #[]), r40, (ByteArray.mk #[]), r29, ([] : List ByteArray), (ByteArray.mk #[]), false⟩ : T_impl_GrantAsk), rfl, rfl, H⟩)
        ·replace H := cond_f h H
         refine T.seq (T.region (TL.st rfl rfl rfl (o_ari rfl rfl rfl rfl) (TL.st rfl rfl rfl (o_assign rfl rfl) (TL.nil (thn_normal ?_)))))
         refine T.cond ((a0.Kind_ == 6)) rfl (fun h => ?_) (fun h => ?_)
         ·replace H := cond_t h H
          refine T.region (TL.st rfl rfl rfl (o_fieldAddr rfl rfl rfl tyS_3 (by decide) rfl rfl ⟨_, rfl, Nat.le_of_ble_eq_true rfl⟩) ?_)
          refine TL.sn rfl rfl (o_storeBx rfl tyS_3 rfl rfl rfl rfl (Nat.le_of_ble_eq_true rfl) rfl) ?_
          refine TL.nil (inB_normal ?_)
          exact Pk.of (thn_normal ⟨(⟨3, 0, (ByteArray.mk #[]), (ByteArray.mk #[]), (ByteArray.mk #[]), (ByteArray.mk #[]), (ByteArray.mk #[]), (ByteArray.mk #[]), r29, ([] : List ByteArray), (ByteArray.mk #[]), false⟩ : T_impl_GrantAsk), rfl, rfl, H⟩)
         ·replace H := cond_f h H
          refine T.seq (T.region (TL.st rfl rfl rfl (o_ari rfl rfl rfl rfl) (TL.st rfl rfl rfl (o_assign rfl rfl) (TL.nil (thn_normal ?_)))))
          refine T.cond ((a0.Kind_ == 7)) rfl (fun h => ?_) (fun h => ?_)
          ·replace H := cond_t h H
           refine T.region (TL.st rfl rfl rfl (o_fieldAddr rfl rfl rfl tyS_3 (by decide) rfl rfl ⟨_, rfl, Nat.le_of_ble_eq_true rfl⟩) ?_)
           refine TL.sn rfl rfl (o_storeBx rfl tyS_3 rfl rfl rfl rfl (Nat.le_of_ble_eq_true rfl) rfl) ?_
           refine TL.nil (inB_normal ?_)
           exact Pk.of (thn_normal ⟨(⟨8, 0, (ByteArray.mk #[]), (ByteArray.mk #[]), (ByteArray.mk #[]), (ByteArray.mk #[]), (ByteArray.mk #[]), (ByteArray.mk #[]), r29, ([] : List ByteArray), (ByteArray.mk #[]), false⟩ : T_impl_GrantAsk), rfl, rfl, H⟩)
          ·replace H := cond_f h H
           refine T.seq (T.region (TL.st rfl rfl rfl (o_ari rfl rfl rfl rfl) (TL.st rfl rfl rfl (o_assign rfl rfl) (TL.nil (thn_normal ?_)))))
           refine T.cond ((a0.Kind_ == 8)) rfl (fun h => ?_) (fun h => ?_)
           ·replace H := cond_t h H
            refine T.region (TL.st rfl rfl rfl (o_fieldAddr rfl rfl rfl tyS_3 (by decide) rfl rfl ⟨_, rfl, Nat.le_of_ble_eq_true rfl⟩) ?_)
            refine TL.sn rfl rfl (o_storeBx rfl tyS_3 rfl rfl rfl rfl (Nat.le_of_ble_eq_true rfl) rfl) ?_
            refine TL.nil (inB_normal ?_)
            exact Pk.of (thn_normal ⟨(⟨9, 0, (ByteArray.mk #[]), (ByteArray.mk #[]), (ByteArray.mk #[]), (ByteArray.mk #[]), (ByteArray.mk #[]), (ByteArray.mk #[]), r29, ([] : List ByteArray), (ByteArray.mk #[]), false⟩ : T_impl_GrantAsk), rfl, rfl, H⟩)
           ·replace H := cond_f h H
            refine T.skip (inB_normal ?_)
            exact Pk.of (thn_normal ⟨(⟨0, 0, (ByteArray.mk #[]), (ByteArray.mk #[]), (ByteArray.mk #[]), (ByteArray.mk #[]), (ByteArray.mk #[]), (ByteArray.mk #[]), r29, ([] : List ByteArray), (ByteArray.mk #[]), false⟩ : T_impl_GrantAsk), rfl, rfl, H⟩)
       ·rintro _ _ ⟨b31, rfl, rfl, H⟩
        refine T.seq (T.region (TL.st rfl rfl rfl (o_move rfl rfl) (TL.st rfl rfl rfl (o_loadBx rfl tyS_82 rfl rfl (Nat.le_of_ble_eq_true rfl) rfl) ?_)))
        obtain ⟨⟨r32, o33, o34⟩, h35, H⟩ := bind_s H
        refine TL.st rfl rfl rfl (o_callM [0, 1, 2, 3, 4, 5, 6, 7] rfl en_42 rfl rfl (impl_yattack_ask_p false false h35) rfl (by decide) (.cons _ _ _ _ rfl (.cons _ _ _ _ rfl (.cons _ _ _ _ (ren_at rfl (ren_rawO fun _ => rfl)) (.cons _ _ _ _ (ren_at rfl (ren_famO fun _ => rfl)) (.cons _ _ _ _ (ren_at rfl (ren_mpO fun _ => rfl)) (.cons _ _ _ _ rfl (.cons _ _ _ _ rfl (.cons _ _ _ _ rfl .nil)))))))) rfl rfl (.cons _ _ _ _ rfl (.cons _ _ _ _ rfl (.cons _ _ _ _ (ren_rawO fun _ => rfl) (.cons _ _ _ _ (ren_famO fun _ => rfl) (.cons _ _ _ _ (ren_mpO fun _ => rfl) (.cons _ _ _ _ rfl (.cons _ _ _ _ rfl (.cons _ _ _ _ rfl .nil)))))))) rfl) ?_
        refine TL.st rfl rfl rfl (o_alloc rfl ⟨_, rfl, rfl⟩) (TL.sn rfl rfl (o_storeBx rfl tyS_84 rfl rfl rfl rfl (Nat.le_of_ble_eq_true rfl) rfl) ?_)
        refine TL.nil (thn_normal (T.seq (T.conv (Cs.eqS (σ' := [.box (k_impl_yattack 1 5 6 7 3 false o33), .box (k_impl_yserver 2 4 3 false o33.v_), .arr .raw 1 (o33.v_.held_.map (c_px 3)), .fam (o34.map (c_T_impl_yheld 3 false)), mpO (V.int .i64) (V.bool) o33.v_.ended_, .arr .clo 12 (o33.asks_.map (c_T_impl_GrantAsk false)), .arr .clo 1 (o33.res_.Errs_.map (c_int .i64)), .arr .clo 1 (o33.res_.Known_.map (c_str)), .box (c_T_impl_Move false a0), .box (c_T_impl_GrantAsk false b31), .box (c_T_impl_GrantReply false r32)]) rfl) ?_)))
        refine T.region (TL.st rfl rfl rfl (o_move rfl rfl) (TL.st rfl rfl rfl (o_loadBx rfl tyS_84 rfl rfl (Nat.le_of_ble_eq_true rfl) rfl) ?_))
        obtain ⟨o36, h37, H⟩ := bind_s H
        refine TL.st rfl rfl rfl (o_callM [0, 1, 2, 3, 4, 5, 6, 7] rfl en_40 rfl rfl (impl_yattack_learn_p false false h37) rfl (by decide) (.cons _ _ _ _ rfl (.cons _ _ _ _ rfl (.cons _ _ _ _ (ren_at rfl (ren_rawO fun _ => rfl)) (.cons _ _ _ _ (ren_at rfl (ren_famO fun _ => rfl)) (.cons _ _ _ _ (ren_at rfl (ren_mpO fun _ => rfl)) (.cons _ _ _ _ rfl (.cons _ _ _ _ rfl (.cons _ _ _ _ rfl .nil)))))))) rfl rfl (.cons _ _ _ _ rfl (.cons _ _ _ _ rfl (.cons _ _ _ _ (ren_rawO fun _ => rfl) (.cons _ _ _ _ (ren_famO fun _ => rfl) (.cons _ _ _ _ (ren_mpO fun _ => rfl) (.cons _ _ _ _ rfl (.cons _ _ _ _ rfl (.cons _ _ _ _ rfl .nil)))))))) rfl) ?_
        refine TL.nil (thn_normal (T.seq (T.region (TL.st rfl rfl rfl (o_fieldAddr rfl rfl rfl tyS_3 (by decide) rfl rfl ⟨_, rfl, Nat.le_of_ble_eq_true rfl⟩) ?_))))
        refine TL.st rfl rfl rfl (o_loadBx rfl tyS_3 rfl rfl (Nat.le_of_ble_eq_true rfl) rfl) ?_
        refine TL.st rfl rfl rfl (o_assign rfl rfl) (TL.nil (thn_normal (T.ret ?_)))
        cases some_i H
        exact ⟨trivial, _, (.tmp _ _ _ _ rfl .nil), ⟨rfl, _, rfl⟩⟩
theorem en_22 (us : Array Value) (w : World) : (callFunc 22 us).run Go.Proofs.Tryz.prog w = .ok (.enter 22 us) w := enters Go.Proofs.Tryz.func22 rfl rfl us w
theorem tyE_3 : TyE Go.Proofs.Tryz.prog 3 1 := ⟨_, _, rfl, rfl, rfl, rfl, by decide, by decide⟩
noncomputable def impl_yrunAttack_l1 (a1 : (List T_impl_Move)) : (T_impl_yattack × List T_impl_yheld × Int) → Option ((T_impl_yattack × List T_impl_yheld × Int) ⊕ (T_impl_yattack × List T_impl_yheld)) := fun s => match s with
  | (b14, f15, v16) => cond (decide (v16 < (a1.length : Int))) ((idx a1 v16).bind fun e20 => (impl_yattack_move e20 b14 f15).bind fun q => (match q with | (r22, o23, o24) => (eqL o23.res_.Errs_ b14.res_.Errs_).bind fun u26 => (app b14.res_.Errs_ ([r22] : List Int)).bind fun l28 => some (.inl (({ o23 with res_ := ({ o23.res_ with Errs_ := l28 } : T_impl_AttackRes) } : T_impl_yattack), o24, (IntKind.i64.wrap (v16 + 1)))))) (some (.inr (b14, f15)))
noncomputable def impl_yrunAttack (a0 : T_impl_AttackConf) (a1 : (List T_impl_Move)) : Option ((T_impl_yattack × Bool × (List T_impl_yheld)) ⊕ Bool) :=
  (impl_GoodAttack a0).bind fun r1 => cond ((!r1) || decide ((a1.length : Int) > 60)) (some (.inr false)) ((impl_AttackConf_yclient a0).bind fun q => (match q with | (r3, r4) => (impl_yrunServer a0.Server_ ([] : List T_impl_GrantAsk)).bind fun r6 => (match r6 with | .inl (o8, o9, o10, o11) => (loopO (impl_yrunAttack_l1 a1) ((⟨a0, r3, o8, 0, ([] : List T_impl_GrantAsk), (⟨([] : List Int), ([] : List ByteArray), false, false⟩ : T_impl_AttackRes), 0, (ByteArray.mk #[]), (ByteArray.mk #[])⟩ : T_impl_yattack), o11, 0)).bind fun q30 => (match q30 with | (b17, f18) => some (.inl (b17, true, f18))) | .inr (o12, o13) => none)))
theorem impl_yrunAttack_p (_u0 : Bool) (_u1 : Bool) {a0 : T_impl_AttackConf} {a1 : (List T_impl_Move)} {R : ((T_impl_yattack × Bool × (List T_impl_yheld)) ⊕ Bool)} (H : impl_yrunAttack a0 a1 = some R) : CallT Go.Proofs.Tryz.prog 10 [.agg (c_T_impl_AttackConf false a0), .im false (a1.map (c_T_impl_Move false))] [] (match R with | .inl (x0', x1', x2') => fun v τ' => ∃ ρ, Part ρ τ' [.box (k_impl_yattack 1 4 5 6 7 false (⟨x0'.c_, x0'.x_, default, x0'.time_, x0'.asks_, (⟨x0'.res_.Errs_, x0'.res_.Known_, x0'.res_.Won_, x0'.res_.Injected_⟩ : T_impl_AttackRes), x0'.begun_, x0'.open_, x0'.verifier_⟩ : T_impl_yattack)), .box (k_impl_yserver 2 3 7 false (⟨x0'.v_.s_, x0'.v_.now_, x0'.v_.held_, default, x0'.v_.grants_⟩ : T_impl_yserver)), .arr .raw 1 (x0'.v_.held_.map (c_px 7)), mpO (V.int .i64) (V.bool) x0'.v_.ended_, .arr .clo 12 (x0'.asks_.map (c_T_impl_GrantAsk false)), .arr .clo 1 (x0'.res_.Errs_.map (c_int .i64)), .arr .clo 1 (x0'.res_.Known_.map (c_str)), .fam (x2'.map (c_T_impl_yheld 7 false))] ∧ v = ren (rho ρ τ'.length) (.tup [.bx 0 0, .bool x1']) | .inr x0' => fun v τ' => ∃ ρ, Part ρ τ' [] ∧ v = ren (rho ρ τ'.length) (.tup [.nilP, .bool x0'])) := by
 refine CallT.of_TN (n := 60) Go.Proofs.Tryz.func10 rfl rfl rfl rfl ?_
 refine T.seq (T.region (TL.st rfl rfl rfl (o_box rfl rfl rfl) (TL.st rfl rfl rfl (o_assign rfl rfl) (TL.st rfl rfl rfl (o_assign rfl rfl) (TL.nil (thn_normal (T.seq (T.seq (T.region (TL.st rfl rfl rfl (o_loadBx rfl tyS_27 rfl rfl (Nat.le_of_ble_eq_true rfl) rfl) ?_))))))))))
 obtain ⟨r1, h2, H⟩ := bind_s H
 refine TL.st rfl rfl rfl (o_callP rfl en_19 rfl rfl (.cons _ _ _ _ (.cl _ rfl) .nil) (impl_GoodAttack_p false h2)) ?_
 refine TL.st rfl rfl rfl (o_not rfl rfl) ?_
 refine TL.st rfl rfl rfl (o_move rfl rfl) (TL.gcq rfl rfl rfl (.bool _) rfl rfl (fun h => o_move rfl rfl) (TL.gcq rfl rfl rfl (.bool _) rfl rfl (fun h => o_lenL (f := c_T_impl_Move false) rfl rfl (gv h rfl)) ?_))
 refine TL.gcq rfl rfl rfl (.bool _) rfl rfl (fun h => o_ari rfl (gv h rfl) rfl rfl) ?_
 refine TL.st rfl rfl rfl (o_or rfl rfl rfl rfl (fun k => Gd_t k)) (TL.nil (thn_normal ?_))
 refine T.cond (((!r1) || decide ((a1.length : Int) > 60))) rfl (fun h => ?_) (fun h => ?_)
 ·replace H := cond_t h H
  refine T.seq (T.region (TL.st rfl rfl rfl (o_assign rfl rfl) (TL.st rfl rfl rfl (o_assign rfl rfl) (TL.nil (thn_normal (T.ret (thn_ret ?_)))))))
  cases some_i H
  exact ⟨trivial, _, (.tmp _ _ _ _ rfl (.tmp _ _ _ _ rfl .nil)), ⟨[], Part.of (by decide) .nil, rfl⟩⟩
 ·replace H := cond_f h H
  refine T.skip (thn_normal (T.seq (T.region (TL.st rfl rfl rfl (o_loadBx rfl tyS_27 rfl rfl (Nat.le_of_ble_eq_true rfl) rfl) ?_))))
  refine TL.st rfl rfl rfl (o_build rfl ⟨_, fun _ => rfl, rfl⟩ rfl rfl rfl) ?_
  refine TL.st rfl rfl rfl (o_box rfl rfl rfl) (TL.st rfl rfl rfl (o_assign rfl rfl) (TL.nil (thn_normal (T.seq (T.region (TL.st rfl rfl rfl (o_move rfl rfl) (TL.st rfl rfl rfl (o_loadBx rfl tyS_27 rfl rfl (Nat.le_of_ble_eq_true rfl) rfl) ?_)))))))
  obtain ⟨⟨r3, r4⟩, h5, H⟩ := bind_s H
  refine TL.st rfl rfl rfl (o_callP rfl en_20 rfl rfl (.cons _ _ _ _ (.cl _ rfl) .nil) (impl_AttackConf_yclient_p false h5)) ?_
  refine TL.st rfl rfl rfl (o_move rfl rfl) (TL.st rfl rfl rfl (o_extract rfl rfl rfl) (TL.st rfl rfl rfl (o_extract rfl rfl rfl) (TL.st rfl rfl rfl (o_nilCheck rfl rfl rfl) (TL.st rfl rfl rfl (o_fieldAddr rfl rfl rfl tyS_50 (by decide) rfl rfl ⟨_, rfl, Nat.le_of_ble_eq_true rfl⟩) ?_))))
  refine TL.sn rfl rfl (o_storeBx rfl tyS_50 rfl rfl rfl rfl (Nat.le_of_ble_eq_true rfl) rfl) ?_
  refine TL.nil (thn_normal (T.seq (T.conv (Cs.eqS (σ' := [.box (c_T_impl_AttackConf false a0), .box ((c_T_impl_AttackConf false a0) ++ (c_T_impl_Client false r3) ++ [.nilP, .int .i64 0, .nilS, .nilS, .nilS, .bool false, .bool false, .int .i64 0, .str (ByteArray.mk #[]), .str (ByteArray.mk #[])])]) rfl) ?_)))
  refine T.region (TL.st rfl rfl rfl (o_move rfl rfl) (TL.st rfl rfl rfl (o_fieldAddr rfl rfl rfl tyS_25 (by decide) rfl rfl ⟨_, rfl, Nat.le_of_ble_eq_true rfl⟩) ?_))
  refine TL.st rfl rfl rfl (o_loadBx rfl tyS_25 rfl rfl (Nat.le_of_ble_eq_true rfl) rfl) ?_
  obtain ⟨r6, h7, H⟩ := bind_s H
  rcases r6 with ⟨o8, o9, o10, o11⟩ | ⟨o12, o13⟩
  ·refine TL.st rfl rfl rfl (o_callM [] rfl en_21 rfl rfl (CallT.wkA (impl_yrunServer_p0  false false h7) (.cons _ _ _ _ (.same _) (.cons _ _ _ _ .nil .nil))) rfl (by decide) .nil rfl rfl (.cons _ _ _ _ rfl (.cons _ _ _ _ (ren_rawO fun _ => rfl) (.cons _ _ _ _ (ren_mpO fun _ => rfl) (.cons _ _ _ _ (ren_famO fun _ => rfl) .nil)))) rfl) ?_
   refine TL.st rfl rfl rfl (o_move rfl rfl) (TL.st rfl rfl rfl (o_extract rfl rfl rfl) (TL.st rfl rfl rfl (o_extract rfl rfl rfl) (TL.st rfl rfl rfl (o_extract rfl rfl rfl) (TL.st rfl rfl rfl (o_nilCheck rfl rfl rfl) (TL.st rfl rfl rfl (o_fieldAddr rfl rfl rfl tyS_51 (by decide) rfl rfl ⟨_, rfl, Nat.le_of_ble_eq_true rfl⟩) ?_)))))
   refine TL.sn rfl rfl (o_storeBx rfl tyS_51 rfl rfl rfl rfl (Nat.le_of_ble_eq_true rfl) rfl) ?_
   refine TL.nil (thn_normal (T.seq (T.seq (T.region (TL.st rfl rfl rfl (o_move rfl rfl) (TL.st rfl rfl rfl (o_lenL (f := c_T_impl_Move false) rfl rfl rfl) ?_))))))
   refine TL.st rfl rfl rfl (o_move rfl rfl) (TL.nil (thn_normal (T.block (T.conv (Cs.ownCell (p := 1) 15 12 rfl rfl (by decide)) ?_))))
   refine T.conv (Cs.ownCell (p := 1) 16 1 rfl rfl (by decide)) ?_
   refine T.conv (Cs.ownCell (p := 1) 17 1 rfl rfl (by decide)) ?_
   obtain ⟨q30, h31, H⟩ := bind_s H
   refine T.lq (fun s => match s with | (b14, f15, v16) => [(6, .bx 1 0), (38, .im false (a1.map (c_T_impl_Move false))), (39, .int .i64 (a1.length : Int)), (40, .int .i64 v16)]) (fun s => match s with | (b14, f15, v16) => [.box (c_T_impl_AttackConf false a0), .box (k_impl_yattack 2 6 7 8 5 false b14), .box (k_impl_yserver 3 4 5 false b14.v_), .arr .raw 1 (b14.v_.held_.map (c_px 5)), mpO (V.int .i64) (V.bool) b14.v_.ended_, .fam (f15.map (c_T_impl_yheld 5 false)), .arr .clo 12 (b14.asks_.map (c_T_impl_GrantAsk false)), .arr .clo 1 (b14.res_.Errs_.map (c_int .i64)), .arr .clo 1 (b14.res_.Known_.map (c_str))]) (fun q ex fr σ => match q with | (b17, f18) => ex = .exit 0 ∧ fr = [(6, .bx 1 0)] ∧ σ = [.box (c_T_impl_AttackConf false a0), .box (k_impl_yattack 2 6 7 8 5 false b17), .box (k_impl_yserver 3 4 5 false b17.v_), .arr .raw 1 (b17.v_.held_.map (c_px 5)), mpO (V.int .i64) (V.bool) b17.v_.ended_, .fam (f18.map (c_T_impl_yheld 5 false)), .arr .clo 12 (b17.asks_.map (c_T_impl_GrantAsk false)), .arr .clo 1 (b17.res_.Errs_.map (c_int .i64)), .arr .clo 1 (b17.res_.Known_.map (c_str))]) h31 ?_ ?_
   ·rintro ⟨b14, f15, v16⟩ y19 H
    refine T.seq (T.region (TL.st rfl rfl rfl (o_ari rfl rfl rfl rfl) (TL.nil (thn_normal (T.seq ?_)))))
    refine T.cond (decide (v16 < (a1.length : Int))) rfl (fun h => ?_) (fun h => ?_)
    ·replace H := cond_t h H
     refine T.skip (thn_normal (T.seq (T.block (T.seq (T.region ?_)))))
     obtain ⟨e20, h21, H⟩ := bind_s H
     refine TL.st rfl rfl rfl (o_ix (f := c_T_impl_Move false) rfl rfl tyS_35 rfl rfl h21 rfl) ?_
     refine TL.st rfl rfl rfl (o_loadRf rfl tyS_35 rfl (Nat.le_of_ble_eq_true rfl) rfl) ?_
     refine TL.st rfl rfl rfl (o_alloc rfl ⟨_, rfl, rfl⟩) (TL.sn rfl rfl (o_storeBx rfl tyS_35 rfl rfl rfl rfl (Nat.le_of_ble_eq_true rfl) rfl) ?_)
     refine TL.nil (thn_normal ?_)
     obtain ⟨⟨r22, o23, o24⟩, h25, H⟩ := bind_s H
     obtain ⟨u26, h27, H⟩ := bind_s H
     obtain ⟨l28, h29, H⟩ := bind_s H
     refine T.drawS (fr' := [(6, .bx 1 0), (8, .bx 9 0), (38, .im false (a1.map (c_T_impl_Move false))), (39, .int .i64 (a1.length : Int)), (40, .int .i64 v16), (41, .bool (decide (v16 < (a1.length : Int)))), (43, .agg (c_T_impl_Move false e20)), (44, .bx 1 0), (45, .bx 1 0), (46, .bx 1 0), (47, .bx 1 16), (48, .bx 1 16), (49, .hd 7 (b14.res_.Errs_.map (c_int .i64)).length 0 (b14.res_.Errs_.map (c_int .i64)).length), (50, .bx 1 0), (51, .agg (c_T_impl_Move false e20)), (52, .int .i64 r22), (53, .im false (([r22] : List Int).map (c_int .i64))), (54, .hd 7 (l28.map (c_int .i64)).length 0 (l28.map (c_int .i64)).length), (55, .bx 1 0), (56, .bx 1 16), (57, .bx 1 16)]) (R := [⟨some 44, .bx 1 0, .q, []⟩, ⟨some 45, .bx 1 0, .q, []⟩, ⟨some 46, .bx 1 0, .q, []⟩, ⟨some 47, .bx 1 16, .q, []⟩, ⟨some 48, .bx 1 16, .q, []⟩, ⟨some 49, .hd 7 (b14.res_.Errs_.map (c_int .i64)).length 0 (b14.res_.Errs_.map (c_int .i64)).length, .q, []⟩, ⟨some 50, .bx 1 0, .q, []⟩, ⟨some 51, .agg (c_T_impl_Move false e20), .q, []⟩, ⟨some 52, .int .i64 r22, .q, []⟩, ⟨some 53, .im false (([r22] : List Int).map (c_int .i64)), .q, []⟩, ⟨some 54, .hd 7 (l28.map (c_int .i64)).length 0 (l28.map (c_int .i64)).length, .q, []⟩, ⟨some 55, .bx 1 0, .q, []⟩, ⟨some 56, .bx 1 16, .q, []⟩, ⟨some 57, .bx 1 16, .q, []⟩, ⟨none, .any, .q, []⟩]) (fun b => cond (b 8) (cond (b 10) (cond (b 14) ([.box (c_T_impl_AttackConf false a0), .box (k_impl_yattack 2 6 7 8 5 false ({ o23 with res_ := ({ o23.res_ with Errs_ := l28 } : T_impl_AttackRes) } : T_impl_yattack)), .box (k_impl_yserver 3 4 5 false o23.v_), .arr .raw 1 (o23.v_.held_.map (c_px 5)), mpO (V.int .i64) (V.bool) o23.v_.ended_, .fam (o24.map (c_T_impl_yheld 5 false)), .arr .clo 12 (o23.asks_.map (c_T_impl_GrantAsk false)), .arr .clo 1 (l28.map (c_int .i64)), .arr .clo 1 (o23.res_.Known_.map (c_str)), .box (c_T_impl_Move false e20)]) ([.box (c_T_impl_AttackConf false a0), .box (k_impl_yattack 2 6 7 8 5 false ({ o23 with res_ := ({ o23.res_ with Errs_ := b14.res_.Errs_ } : T_impl_AttackRes) } : T_impl_yattack)), .box (k_impl_yserver 3 4 5 false o23.v_), .arr .raw 1 (o23.v_.held_.map (c_px 5)), mpO (V.int .i64) (V.bool) o23.v_.ended_, .fam (o24.map (c_T_impl_yheld 5 false)), .arr .clo 12 (o23.asks_.map (c_T_impl_GrantAsk false)), .arr .clo 1 (l28.map (c_int .i64)), .arr .clo 1 (o23.res_.Known_.map (c_str)), .box (c_T_impl_Move false e20)])) ([.box (c_T_impl_AttackConf false a0), .box (k_impl_yattack 2 6 7 8 5 false ({ o23 with res_ := ({ o23.res_ with Errs_ := b14.res_.Errs_ } : T_impl_AttackRes) } : T_impl_yattack)), .box (k_impl_yserver 3 4 5 false o23.v_), .arr .raw 1 (o23.v_.held_.map (c_px 5)), mpO (V.int .i64) (V.bool) o23.v_.ended_, .fam (o24.map (c_T_impl_yheld 5 false)), .arr .clo 12 (o23.asks_.map (c_T_impl_GrantAsk false)), .arr .clo 1 (b14.res_.Errs_.map (c_int .i64)), .arr .clo 1 (o23.res_.Known_.map (c_str)), .box (c_T_impl_Move false e20)])) ([.box (c_T_impl_AttackConf false a0), .box (k_impl_yattack 2 6 7 8 5 false b14), .box (k_impl_yserver 3 4 5 false b14.v_), .arr .raw 1 (b14.v_.held_.map (c_px 5)), mpO (V.int .i64) (V.bool) b14.v_.ended_, .fam (f15.map (c_T_impl_yheld 5 false)), .arr .clo 12 (b14.asks_.map (c_T_impl_GrantAsk false)), .arr .clo 1 (b14.res_.Errs_.map (c_int .i64)), .arr .clo 1 (b14.res_.Known_.map (c_str)), .box (c_T_impl_Move false e20)])) rfl ?_ ?_ rfl rfl (FrL.get (.cons rfl (.cons rfl (.cons rfl (.cons rfl (.cons rfl (.cons rfl (.cons rfl (.cons rfl (.cons rfl (.cons rfl (.cons rfl (.cons rfl (.cons rfl (.cons rfl (.cons rfl (.cons rfl (.cons rfl (.cons rfl (.cons rfl (.cons rfl (.cons rfl .nil)))))))))))))))))))))) ?_
     ·refine .cons _ _ _ _ _ ⟨rfl, [(6, .bx 1 0)], AllN.get rfl (.cons rfl .nil), fun b hd hn hk hc => ?_⟩ ?_
      ·cases e8 : b 8
       ·cases e10 : b 10
        ·exact ops_at (cdf e8) rfl (o_move rfl rfl) (cdf ((updb_ne rfl).trans e8)) rfl
        ·exact absurd (hc 10 8 rfl rfl e10) (by rw [e8]; decide)
       ·cases e10 : b 10
        ·exact ops_at ((cdt e8).trans (cdf e10)) rfl (o_move rfl rfl) ((cdt ((updb_ne rfl).trans e8)).trans (cdf ((updb_ne rfl).trans e10))) rfl
        ·exact ops_at (((cdt e8).trans (cdt e10)).trans (cdf (hn 14 rfl))) rfl (o_move rfl rfl) (((cdt ((updb_ne rfl).trans e8)).trans (cdt ((updb_ne rfl).trans e10))).trans (cdf ((updb_ne rfl).trans (hn 14 rfl)))) rfl
      refine .cons _ _ _ _ _ ⟨rfl, [(6, .bx 1 0)], AllN.get rfl (.cons rfl .nil), fun b hd hn hk hc => ?_⟩ ?_
      ·cases e8 : b 8
       ·exact ops_at (cdf e8) rfl (o_move rfl rfl) (cdf ((updb_ne rfl).trans e8)) rfl
       ·exact ops_at ((cdt e8).trans (cdf (hn 10 rfl))) rfl (o_move rfl rfl) ((cdt ((updb_ne rfl).trans e8)).trans (cdf ((updb_ne rfl).trans (hn 10 rfl)))) rfl
      refine .cons _ _ _ _ _ ⟨rfl, [(45, .bx 1 0)], AllN.get rfl (.cons rfl .nil), fun b hd hn hk hc => ?_⟩ ?_
      ·cases e8 : b 8
       ·exact ops_at (cdf e8) rfl (o_nilCheck rfl rfl rfl) (cdf ((updb_ne rfl).trans e8)) rfl
       ·exact ops_at ((cdt e8).trans (cdf (hn 10 rfl))) rfl (o_nilCheck rfl rfl rfl) ((cdt ((updb_ne rfl).trans e8)).trans (cdf ((updb_ne rfl).trans (hn 10 rfl)))) rfl
      refine .cons _ _ _ _ _ ⟨rfl, [(46, .bx 1 0)], AllN.get rfl (.cons rfl .nil), fun b hd hn hk hc => ?_⟩ ?_
      ·cases e8 : b 8
       ·exact ops_at (cdf e8) rfl (o_fieldAddr rfl rfl rfl tyS_32 (by decide) rfl rfl ⟨_, rfl, Nat.le_of_ble_eq_true rfl⟩) (cdf ((updb_ne rfl).trans e8)) rfl
       ·exact ops_at ((cdt e8).trans (cdf (hn 10 rfl))) rfl (o_fieldAddr rfl rfl rfl tyS_32 (by decide) rfl rfl ⟨_, rfl, Nat.le_of_ble_eq_true rfl⟩) ((cdt ((updb_ne rfl).trans e8)).trans (cdf ((updb_ne rfl).trans (hn 10 rfl)))) rfl
      refine .cons _ _ _ _ _ ⟨rfl, [(47, .bx 1 16)], AllN.get rfl (.cons rfl .nil), fun b hd hn hk hc => ?_⟩ ?_
      ·cases e8 : b 8
       ·exact ops_at (cdf e8) rfl (o_fieldAddr rfl rfl rfl tyS_29 (by decide) rfl rfl ⟨_, rfl, Nat.le_of_ble_eq_true rfl⟩) (cdf ((updb_ne rfl).trans e8)) rfl
       ·exact ops_at ((cdt e8).trans (cdf (hn 10 rfl))) rfl (o_fieldAddr rfl rfl rfl tyS_29 (by decide) rfl rfl ⟨_, rfl, Nat.le_of_ble_eq_true rfl⟩) ((cdt ((updb_ne rfl).trans e8)).trans (cdf ((updb_ne rfl).trans (hn 10 rfl)))) rfl
      refine .cons _ _ _ _ _ ⟨rfl, [(48, .bx 1 16)], AllN.get rfl (.cons rfl .nil), fun b hd hn hk hc => ?_⟩ ?_
      ·cases e8 : b 8
       ·exact ops_at (cdf e8) rfl (o_loadBx rfl tyS_29 rfl rfl (Nat.le_of_ble_eq_true rfl) rfl) (cdf ((updb_ne rfl).trans e8)) rfl
       ·exact ops_at ((cdt e8).trans (cdf (hn 10 rfl))) rfl (o_loadBx rfl tyS_29 rfl rfl (Nat.le_of_ble_eq_true rfl) rfl) ((cdt ((updb_ne rfl).trans e8)).trans (cdf ((updb_ne rfl).trans (hn 10 rfl)))) rfl
      refine .cons _ _ _ _ _ ⟨rfl, [(6, .bx 1 0)], AllN.get rfl (.cons rfl .nil), fun b hd hn hk hc => ?_⟩ ?_
      ·exact ops_at (cdf (hn 8 rfl)) rfl (o_move rfl rfl) (cdf ((updb_ne rfl).trans (hn 8 rfl))) rfl
      refine .cons _ _ _ _ _ ⟨rfl, [(8, .bx 9 0)], AllN.get rfl (.cons rfl .nil), fun b hd hn hk hc => ?_⟩ ?_
      ·exact ops_at (cdf (hn 8 rfl)) rfl (o_loadBx rfl tyS_35 rfl rfl (Nat.le_of_ble_eq_true rfl) rfl) (cdf ((updb_ne rfl).trans (hn 8 rfl))) rfl
      refine .cons _ _ _ _ _ ⟨rfl, [(50, .bx 1 0), (51, .agg (c_T_impl_Move false e20))], AllN.get rfl (.cons rfl (.cons rfl .nil)), fun b hd hn hk hc => ?_⟩ ?_
      ·exact ops_at (cdf hk) rfl (Does.eqS (σ1 := [.box (c_T_impl_AttackConf false a0), .box ((c_T_impl_AttackConf false o23.c_) ++ (c_T_impl_Client false o23.x_) ++ [.bx 2 0, .int .i64 o23.time_, .hd 6 (o23.asks_.map (c_T_impl_GrantAsk false)).length 0 (o23.asks_.map (c_T_impl_GrantAsk false)).length, .hd 7 (o23.res_.Errs_.map (c_int .i64)).length 0 (o23.res_.Errs_.map (c_int .i64)).length, .hd 8 (o23.res_.Known_.map (c_str)).length 0 (o23.res_.Known_.map (c_str)).length, .bool o23.res_.Won_, .bool o23.res_.Injected_, .int .i64 o23.begun_, .str o23.open_, .str o23.verifier_]), .box ((c_T_impl_Server false o23.v_.s_) ++ [.int .i64 o23.v_.now_, .hd 3 o23.v_.held_.length 0 o23.v_.held_.length, .mp 4, .int .i64 o23.v_.grants_]), .arr .raw 1 (o23.v_.held_.map (c_px 5)), mpO (V.int .i64) (V.bool) o23.v_.ended_, .fam (o24.map (c_T_impl_yheld 5 false)), .arr .clo 12 (o23.asks_.map (c_T_impl_GrantAsk false)), .arr .clo 1 (o23.res_.Errs_.map (c_int .i64)), .arr .clo 1 (o23.res_.Known_.map (c_str)), .box (c_T_impl_Move false e20)]) (σ2 := [.box (c_T_impl_AttackConf false a0), .box ((c_T_impl_AttackConf false o23.c_) ++ (c_T_impl_Client false o23.x_) ++ [.bx 2 0, .int .i64 o23.time_, .hd 6 (o23.asks_.map (c_T_impl_GrantAsk false)).length 0 (o23.asks_.map (c_T_impl_GrantAsk false)).length, .hd 7 (b14.res_.Errs_.map (c_int .i64)).length 0 (b14.res_.Errs_.map (c_int .i64)).length, .hd 8 (o23.res_.Known_.map (c_str)).length 0 (o23.res_.Known_.map (c_str)).length, .bool o23.res_.Won_, .bool o23.res_.Injected_, .int .i64 o23.begun_, .str o23.open_, .str o23.verifier_]), .box ((c_T_impl_Server false o23.v_.s_) ++ [.int .i64 o23.v_.now_, .hd 3 o23.v_.held_.length 0 o23.v_.held_.length, .mp 4, .int .i64 o23.v_.grants_]), .arr .raw 1 (o23.v_.held_.map (c_px 5)), mpO (V.int .i64) (V.bool) o23.v_.ended_, .fam (o24.map (c_T_impl_yheld 5 false)), .arr .clo 12 (o23.asks_.map (c_T_impl_GrantAsk false)), .arr .clo 1 (b14.res_.Errs_.map (c_int .i64)), .arr .clo 1 (o23.res_.Known_.map (c_str)), .box (c_T_impl_Move false e20)]) (by simp only [eqL_s h27]) (o_callM [1, 2, 3, 5, 4, 6, 7, 8] rfl en_22 rfl rfl (impl_yattack_move_p false h25) rfl (by decide) (.cons _ _ _ _ rfl (.cons _ _ _ _ rfl (.cons _ _ _ _ (ren_at rfl (ren_rawO fun _ => rfl)) (.cons _ _ _ _ (ren_at rfl (ren_famO fun _ => rfl)) (.cons _ _ _ _ (ren_at rfl (ren_mpO fun _ => rfl)) (.cons _ _ _ _ rfl (.cons _ _ _ _ rfl (.cons _ _ _ _ rfl .nil)))))))) rfl rfl (.cons _ _ _ _ rfl (.cons _ _ _ _ rfl (.cons _ _ _ _ (ren_rawO fun _ => rfl) (.cons _ _ _ _ (ren_famO fun _ => rfl) (.cons _ _ _ _ (ren_mpO fun _ => rfl) (.cons _ _ _ _ rfl (.cons _ _ _ _ rfl (.cons _ _ _ _ rfl .nil)))))))) rfl)) (((cdt updb_self).trans (cdf ((updb_ne rfl).trans (hn 10 rfl)))).trans rfl) rfl
      refine .cons _ _ _ _ _ ⟨rfl, [(52, .int .i64 r22)], AllN.get rfl (.cons rfl .nil), fun b hd hn hk hc => ?_⟩ ?_
      ·exact ops_at ((cdt (hd 8 rfl)).trans (cdf (hn 10 rfl))) rfl (o_sliceIm (rows := ([r22] : List Int).map (c_int .i64)) rfl rfl tyS_3 ⟨_, rfl, rfl⟩ (by decide) rfl rfl rfl rfl rfl rfl) ((cdt ((updb_ne rfl).trans (hd 8 rfl))).trans (cdf ((updb_ne rfl).trans (hn 10 rfl)))) rfl
      refine .cons _ _ _ _ _ ⟨rfl, [(49, .hd 7 (b14.res_.Errs_.map (c_int .i64)).length 0 (b14.res_.Errs_.map (c_int .i64)).length), (53, .im false (([r22] : List Int).map (c_int .i64)))], AllN.get rfl (.cons rfl (.cons rfl .nil)), fun b hd hn hk hc => ?_⟩ ?_
      ·exact ops_at ((cdt (hd 8 rfl)).trans (cdf hk)) rfl (o_ap (f := c_int .i64) (xs := b14.res_.Errs_) (ys := ([r22] : List Int)) rfl rfl tyE_3 rfl rfl rfl rfl (by decide) rfl (fun _ => rfl) h29) ((((cdt ((updb_ne rfl).trans (hd 8 rfl))).trans (cdt updb_self)).trans (cdf ((updb_ne rfl).trans (hn 14 rfl)))).trans rfl) rfl
      refine .cons _ _ _ _ _ ⟨rfl, [(44, .bx 1 0)], AllN.get rfl (.cons rfl .nil), fun b hd hn hk hc => ?_⟩ ?_
      ·exact ops_at (((cdt (hd 8 rfl)).trans (cdt (hd 10 rfl))).trans (cdf (hn 14 rfl))) rfl (o_nilCheck rfl rfl rfl) (((cdt ((updb_ne rfl).trans (hd 8 rfl))).trans (cdt ((updb_ne rfl).trans (hd 10 rfl)))).trans (cdf ((updb_ne rfl).trans (hn 14 rfl)))) rfl
      refine .cons _ _ _ _ _ ⟨rfl, [(55, .bx 1 0)], AllN.get rfl (.cons rfl .nil), fun b hd hn hk hc => ?_⟩ ?_
      ·exact ops_at (((cdt (hd 8 rfl)).trans (cdt (hd 10 rfl))).trans (cdf (hn 14 rfl))) rfl (o_fieldAddr rfl rfl rfl tyS_32 (by decide) rfl rfl ⟨_, rfl, Nat.le_of_ble_eq_true rfl⟩) (((cdt ((updb_ne rfl).trans (hd 8 rfl))).trans (cdt ((updb_ne rfl).trans (hd 10 rfl)))).trans (cdf ((updb_ne rfl).trans (hn 14 rfl)))) rfl
      refine .cons _ _ _ _ _ ⟨rfl, [(56, .bx 1 16)], AllN.get rfl (.cons rfl .nil), fun b hd hn hk hc => ?_⟩ ?_
      ·exact ops_at (((cdt (hd 8 rfl)).trans (cdt (hd 10 rfl))).trans (cdf (hn 14 rfl))) rfl (o_fieldAddr rfl rfl rfl tyS_29 (by decide) rfl rfl ⟨_, rfl, Nat.le_of_ble_eq_true rfl⟩) (((cdt ((updb_ne rfl).trans (hd 8 rfl))).trans (cdt ((updb_ne rfl).trans (hd 10 rfl)))).trans (cdf ((updb_ne rfl).trans (hn 14 rfl)))) rfl
      refine .cons _ _ _ _ _ ⟨rfl, [(54, .hd 7 (l28.map (c_int .i64)).length 0 (l28.map (c_int .i64)).length), (57, .bx 1 16)], AllN.get rfl (.cons rfl (.cons rfl .nil)), fun b hd hn hk hc => ?_⟩ ?_
      ·exact ops_at (((cdt (hd 8 rfl)).trans (cdt (hd 10 rfl))).trans (cdf hk)) rfl (o_storeBx rfl tyS_29 rfl rfl rfl rfl (Nat.le_of_ble_eq_true rfl) (sure_hd rfl rfl rfl)) ((((cdt ((updb_ne rfl).trans (hd 8 rfl))).trans (cdt ((updb_ne rfl).trans (hd 10 rfl)))).trans (cdt updb_self)).trans rfl) rfl
      exact .nil _
     ·intro b b' h; simp only [h 8 (by decide), h 10 (by decide), h 14 (by decide)]
     refine inB_normal (thn_normal (T.conv (Cs.eqS (σ' := [.box (c_T_impl_AttackConf false a0), .box (k_impl_yattack 2 6 7 8 5 false ({ o23 with res_ := ({ o23.res_ with Errs_ := l28 } : T_impl_AttackRes) } : T_impl_yattack)), .box (k_impl_yserver 3 4 5 false o23.v_), .arr .raw 1 (o23.v_.held_.map (c_px 5)), mpO (V.int .i64) (V.bool) o23.v_.ended_, .fam (o24.map (c_T_impl_yheld 5 false)), .arr .clo 12 (o23.asks_.map (c_T_impl_GrantAsk false)), .arr .clo 1 (l28.map (c_int .i64)), .arr .clo 1 (o23.res_.Known_.map (c_str)), .box (c_T_impl_Move false e20)]) rfl) ?_))
     refine T.region (TL.st rfl rfl rfl (o_ari rfl rfl rfl rfl) (TL.st rfl rfl rfl (o_move rfl rfl) (TL.nil ?_)))
     exact Pk.of (thn_normal ⟨(({ o23 with res_ := ({ o23.res_ with Errs_ := l28 } : T_impl_AttackRes) } : T_impl_yattack), o24, (IntKind.i64.wrap (v16 + 1))), (some_i H).symm, rfl, rfl⟩)
    ·replace H := cond_f h H
     refine T.exit (thn_exit ?_)
     exact Pk.of (thn_exit ⟨(b14, f15), (some_i H).symm, rfl, rfl, rfl⟩)
   ·rcases q30 with ⟨b17, f18⟩
    rintro _ _ _ ⟨rfl, rfl, rfl⟩
    refine inB_here (thn_normal (T.seq (T.region (TL.st rfl rfl rfl (o_move rfl rfl) (TL.st rfl rfl rfl (o_assign rfl rfl) (TL.st rfl rfl rfl (o_assign rfl rfl) (TL.nil (thn_normal (T.ret ?_)))))))))
    cases some_i H
    exact ⟨trivial, _, (.tmp _ _ _ _ rfl (.tmp _ _ _ _ rfl .nil)), ⟨[1, 2, 3, 4, 6, 7, 8, 5], Part.of (by decide) (.cons _ _ _ _ rfl (.cons _ _ _ _ rfl (.cons _ _ _ _ (ren_at rfl (ren_rawO fun _ => rfl)) (.cons _ _ _ _ (ren_at rfl (ren_mpO fun _ => rfl)) (.cons _ _ _ _ rfl (.cons _ _ _ _ rfl (.cons _ _ _ _ rfl (.cons _ _ _ _ (ren_at rfl (ren_famO fun _ => rfl)) .nil)))))))), rfl⟩⟩
  ·cases H
theorem impl_yrunAttack_p0 (_u0 : Bool) (_u1 : Bool) {a0 : T_impl_AttackConf} {a1 : (List T_impl_Move)} {x0' : T_impl_yattack} {x1' : Bool} {x2' : (List T_impl_yheld)} (H : impl_yrunAttack a0 a1 = some (.inl (x0', x1', x2'))) : St Go.Proofs.Tryz.prog 10 [.agg (c_T_impl_AttackConf false a0), .im false (a1.map (c_T_impl_Move false))] [] (.tup [.bx 0 0, .bool x1']) [.box (k_impl_yattack 1 4 5 6 7 false (⟨x0'.c_, x0'.x_, default, x0'.time_, x0'.asks_, (⟨x0'.res_.Errs_, x0'.res_.Known_, x0'.res_.Won_, x0'.res_.Injected_⟩ : T_impl_AttackRes), x0'.begun_, x0'.open_, x0'.verifier_⟩ : T_impl_yattack)), .box (k_impl_yserver 2 3 7 false (⟨x0'.v_.s_, x0'.v_.now_, x0'.v_.held_, default, x0'.v_.grants_⟩ : T_impl_yserver)), .arr .raw 1 (x0'.v_.held_.map (c_px 7)), mpO (V.int .i64) (V.bool) x0'.v_.ended_, .arr .clo 12 (x0'.asks_.map (c_T_impl_GrantAsk false)), .arr .clo 1 (x0'.res_.Errs_.map (c_int .i64)), .arr .clo 1 (x0'.res_.Known_.map (c_str)), .fam (x2'.map (c_T_impl_yheld 7 false))] :=
 CallT.sel (impl_yrunAttack_p _u0 _u1 H)
theorem impl_yrunAttack_p1 (_u0 : Bool) (_u1 : Bool) {a0 : T_impl_AttackConf} {a1 : (List T_impl_Move)} {x0' : Bool} (H : impl_yrunAttack a0 a1 = some (.inr x0')) : St Go.Proofs.Tryz.prog 10 [.agg (c_T_impl_AttackConf false a0), .im false (a1.map (c_T_impl_Move false))] [] (.tup [.nilP, .bool x0']) [] :=
 CallT.sel (impl_yrunAttack_p _u0 _u1 H)
theorem en_10 (us : Array Value) (w : World) : (callFunc 10 us).run Go.Proofs.Tryz.prog w = .ok (.enter 10 us) w := enters Go.Proofs.Tryz.func10 rfl rfl us w
def k_impl_AttackRes (a1 a2 : Nat) (b : Bool) (x : T_impl_AttackRes) : List V := [.hd a1 (x.Errs_.map (c_int .i64)).length 0 (x.Errs_.map (c_int .i64)).length, .hd a2 (x.Known_.map (c_str)).length 0 (x.Known_.map (c_str)).length, .bool x.Won_, .bool x.Injected_]
noncomputable def impl_RunAttack (a0 : T_impl_AttackConf) (a1 : (List T_impl_Move)) : Option T_impl_AttackRes :=
  (impl_yrunAttack a0 a1).bind fun r1 => (match r1 with | .inl (o3, o4, o5) => cond (!o4) (some (⟨([] : List Int), ([] : List ByteArray), false, false⟩ : T_impl_AttackRes)) (some o3.res_) | .inr o6 => cond (!o6) (some (⟨([] : List Int), ([] : List ByteArray), false, false⟩ : T_impl_AttackRes)) (none))
theorem impl_RunAttack_p (_u0 : Bool) (_u1 : Bool) {a0 : T_impl_AttackConf} {a1 : (List T_impl_Move)} {R0 : T_impl_AttackRes} (H : impl_RunAttack a0 a1 = some R0) : Pure Go.Proofs.Tryz.prog 5 [.agg (c_T_impl_AttackConf false a0), .im false (a1.map (c_T_impl_Move false))] (.agg (c_T_impl_AttackRes false R0)) := by
 refine CallT.of_TN (n := 20) Go.Proofs.Tryz.func5 rfl rfl rfl rfl ?_
 refine T.seq (T.region (TL.st rfl rfl rfl (o_box rfl rfl rfl) (TL.st rfl rfl rfl (o_alloc rfl ⟨_, rfl, rfl⟩) (TL.nil (thn_normal (T.seq (T.region (TL.st rfl rfl rfl (o_loadBx rfl tyS_27 rfl rfl (Nat.le_of_ble_eq_true rfl) rfl) ?_))))))))
 refine TL.st rfl rfl rfl (o_move rfl rfl) ?_
 obtain ⟨r1, h2, H⟩ := bind_s H
 rcases r1 with ⟨o3, o4, o5⟩ | o6
 ·refine TL.st rfl rfl rfl (o_callM [] rfl en_10 rfl rfl (impl_yrunAttack_p0  false false h2) rfl (by decide) .nil rfl rfl (.cons _ _ _ _ rfl (.cons _ _ _ _ rfl (.cons _ _ _ _ (ren_rawO fun _ => rfl) (.cons _ _ _ _ (ren_mpO fun _ => rfl) (.cons _ _ _ _ rfl (.cons _ _ _ _ rfl (.cons _ _ _ _ rfl (.cons _ _ _ _ (ren_famO fun _ => rfl) .nil)))))))) rfl) ?_
  refine TL.st rfl rfl rfl (o_move rfl rfl) (TL.st rfl rfl rfl (o_extract rfl rfl rfl) (TL.st rfl rfl rfl (o_extract rfl rfl rfl) (TL.st rfl rfl rfl (o_assign rfl rfl) (TL.st rfl rfl rfl (o_assign rfl rfl) (TL.nil (thn_normal (T.seq (T.seq (T.region (TL.st rfl rfl rfl (o_move rfl rfl) (TL.st rfl rfl rfl (o_not rfl rfl) ?_)))))))))))
  refine TL.nil (thn_normal ?_)
  refine T.cond ((!o4)) rfl (fun h => ?_) (fun h => ?_)
  ·replace H := cond_t h H
   refine T.seq (T.region (TL.st rfl rfl rfl (o_build rfl ⟨_, fun _ => rfl, rfl⟩ rfl rfl rfl) ?_))
   refine TL.sn rfl rfl (o_storeBx rfl tyS_32 rfl rfl rfl rfl (Nat.le_of_ble_eq_true rfl) rfl) ?_
   refine TL.nil (thn_normal (T.conv (Cs.eqS (σ' := [.box (c_T_impl_AttackConf false a0), .box [.nilS, .nilS, .bool false, .bool false], .box (k_impl_yattack 3 6 7 8 9 false o3), .box (k_impl_yserver 4 5 9 false o3.v_), .arr .raw 1 (o3.v_.held_.map (c_px 9)), mpO (V.int .i64) (V.bool) o3.v_.ended_, .arr .clo 12 (o3.asks_.map (c_T_impl_GrantAsk false)), .arr .clo 1 (o3.res_.Errs_.map (c_int .i64)), .arr .clo 1 (o3.res_.Known_.map (c_str)), .fam (o5.map (c_T_impl_yheld 9 false))]) rfl) ?_))
   refine T.ret (thn_ret ?_)
   cases some_i H
   exact ⟨trivial, _, (.cell _ _ _ _ _ _ _ _ _ _ rfl rfl tyS_32 (Nat.le_of_ble_eq_true rfl) rfl .nil), (.aggL (.cons _ _ _ _ .nil (.cons _ _ _ _ .nil (.cons _ _ _ _ (.cl _ rfl) (.cons _ _ _ _ (.cl _ rfl) .nil)))))⟩
  ·replace H := cond_f h H
   refine T.skip (thn_normal (T.seq (T.region (TL.st rfl rfl rfl (o_move rfl rfl) (TL.st rfl rfl rfl (o_nilCheck rfl rfl rfl) (TL.st rfl rfl rfl (o_fieldAddr rfl rfl rfl tyS_32 (by decide) rfl rfl ⟨_, rfl, Nat.le_of_ble_eq_true rfl⟩) ?_))))))
   refine TL.st rfl rfl rfl (o_loadBx rfl tyS_32 rfl rfl (Nat.le_of_ble_eq_true rfl) rfl) ?_
   refine TL.sn rfl rfl (o_storeBx rfl tyS_32 rfl rfl rfl rfl (Nat.le_of_ble_eq_true rfl) (sure_hd rfl rfl (sure_hd rfl rfl (sure_c rfl (sure_c rfl rfl))))) ?_
   refine TL.nil (thn_normal (T.conv (Cs.eqS (σ' := [.box (c_T_impl_AttackConf false a0), .box (k_impl_AttackRes 7 8 false o3.res_), .box (k_impl_yattack 3 6 7 8 9 false o3), .box (k_impl_yserver 4 5 9 false o3.v_), .arr .raw 1 (o3.v_.held_.map (c_px 9)), mpO (V.int .i64) (V.bool) o3.v_.ended_, .arr .clo 12 (o3.asks_.map (c_T_impl_GrantAsk false)), .arr .clo 1 (o3.res_.Errs_.map (c_int .i64)), .arr .clo 1 (o3.res_.Known_.map (c_str)), .fam (o5.map (c_T_impl_yheld 9 false))]) rfl) ?_))
   refine T.ret ?_
   cases some_i H
   exact ⟨trivial, _, (.cell _ _ _ _ _ _ _ _ _ _ rfl rfl tyS_32 (Nat.le_of_ble_eq_true rfl) rfl .nil), (.aggL (.cons _ _ _ _ (.own rfl (by decide) rfl) (.cons _ _ _ _ (.own rfl (by decide) rfl) (.cons _ _ _ _ (.cl _ rfl) (.cons _ _ _ _ (.cl _ rfl) .nil)))))⟩
 ·refine TL.st rfl rfl rfl (o_callM [] rfl en_10 rfl rfl (impl_yrunAttack_p1  false false h2) rfl (by decide) .nil rfl rfl .nil rfl) ?_
  refine TL.st rfl rfl rfl (o_move rfl rfl) (TL.st rfl rfl rfl (o_extract rfl rfl rfl) (TL.st rfl rfl rfl (o_extract rfl rfl rfl) (TL.st rfl rfl rfl (o_assign rfl rfl) (TL.st rfl rfl rfl (o_assign rfl rfl) (TL.nil (thn_normal (T.seq (T.seq (T.region (TL.st rfl rfl rfl (o_move rfl rfl) (TL.st rfl rfl rfl (o_not rfl rfl) ?_)))))))))))
  refine TL.nil (thn_normal ?_)
  refine T.cond ((!o6)) rfl (fun h => ?_) (fun h => ?_)
  ·replace H := cond_t h H
   refine T.seq (T.region (TL.st rfl rfl rfl (o_build rfl ⟨_, fun _ => rfl, rfl⟩ rfl rfl rfl) ?_))
   refine TL.sn rfl rfl (o_storeBx rfl tyS_32 rfl rfl rfl rfl (Nat.le_of_ble_eq_true rfl) rfl) ?_
   refine TL.nil (thn_normal (T.conv (Cs.eqS (σ' := [.box (c_T_impl_AttackConf false a0), .box [.nilS, .nilS, .bool false, .bool false]]) rfl) ?_))
   refine T.ret (thn_ret ?_)
   cases some_i H
   exact ⟨trivial, _, (.cell _ _ _ _ _ _ _ _ _ _ rfl rfl tyS_32 (Nat.le_of_ble_eq_true rfl) rfl .nil), (.aggL (.cons _ _ _ _ .nil (.cons _ _ _ _ .nil (.cons _ _ _ _ (.cl _ rfl) (.cons _ _ _ _ (.cl _ rfl) .nil)))))⟩
  ·replace H := cond_f h H
   cases H
theorem en_5 (us : Array Value) (w : World) : (callFunc 5 us).run Go.Proofs.Tryz.prog w = .ok (.enter 5 us) w := enters Go.Proofs.Tryz.func5 rfl rfl us w
noncomputable def spec_Digest (a0 : (List Int)) : Option (List Int) :=
  cond (decide ((a0.length : Int) > 20000)) (some ([] : List Int)) ((spec_l2Digest a0).bind fun r1 => some r1)
theorem spec_Digest_p (b0 : Bool) {a0 : (List Int)} {R0 : (List Int)} (H : spec_Digest a0 = some R0) : Pure Go.Proofs.Tryz.prog 7 [.im b0 (a0.map (c_int .u8))] (.im false (R0.map (c_int .u8))) := by
 refine CallT.of_TN (n := 8) Go.Proofs.Tryz.func7 rfl rfl rfl rfl ?_
 refine T.seq (T.region (TL.st rfl rfl rfl (o_assign rfl rfl) (TL.nil (thn_normal (T.seq (T.seq (T.region (TL.st rfl rfl rfl (o_move rfl rfl) (TL.st rfl rfl rfl (o_lenL (f := c_int .u8) rfl rfl rfl) ?_)))))))))
 refine TL.st rfl rfl rfl (o_ari rfl rfl rfl rfl) (TL.nil (thn_normal ?_))
 refine T.cond (decide ((a0.length : Int) > 20000)) rfl (fun h => ?_) (fun h => ?_)
 ·replace H := cond_t h H
  refine T.seq (T.region (TL.st rfl rfl rfl (o_assign rfl rfl) (TL.nil (thn_normal (T.ret (thn_ret ?_))))))
  cases some_i H
  exact ⟨trivial, _, (.tmp _ _ _ _ rfl .nil), .nil⟩
 ·replace H := cond_f h H
  refine T.skip (thn_normal (T.seq (T.region (TL.st rfl rfl rfl (o_move rfl rfl) ?_))))
  obtain ⟨r1, h2, H⟩ := bind_s H
  refine TL.st rfl rfl rfl (o_callP rfl en_11 rfl rfl (.cons _ _ _ _ (.imv _ _) .nil) (spec_l2Digest_p b0 h2)) ?_
  refine TL.st rfl rfl rfl (o_assign rfl rfl) (TL.nil (thn_normal (T.ret ?_)))
  cases some_i H
  exact ⟨trivial, _, (.tmp _ _ _ _ rfl .nil), (.cl _ rfl)⟩
theorem en_7 (us : Array Value) (w : World) : (callFunc 7 us).run Go.Proofs.Tryz.prog w = .ok (.enter 7 us) w := enters Go.Proofs.Tryz.func7 rfl rfl us w
noncomputable def laws_zBytes (a0 : (List Int)) (a1 : (List Int)) : Option Bool :=
  some ((byS a0).toList == (byS a1).toList)
theorem laws_zBytes_p (b0 : Bool) (b1 : Bool) {a0 : (List Int)} {a1 : (List Int)} {R0 : Bool} (H : laws_zBytes a0 a1 = some R0) : Pure Go.Proofs.Tryz.prog 6 [.im b0 (a0.map (c_int .u8)), .im b1 (a1.map (c_int .u8))] (.bool R0) := by
 refine CallT.of_TN (n := 10) Go.Proofs.Tryz.func6 rfl rfl rfl rfl ?_
 refine T.seq (T.region (TL.st rfl rfl rfl (o_assign rfl rfl) (TL.nil (thn_normal (T.seq (T.region (TL.st rfl rfl rfl (o_move rfl rfl) (TL.st rfl rfl rfl (o_bs (f := c_int .u8) (ns := a0) rfl rfl rfl rfl (fun _ => rfl) rfl) ?_))))))))
 refine TL.st rfl rfl rfl (o_move rfl rfl) (TL.st rfl rfl rfl (o_bs (f := c_int .u8) (ns := a1) rfl rfl rfl rfl (fun _ => rfl) rfl) ?_)
 refine TL.st rfl rfl rfl (o_str rfl rfl rfl rfl) ?_
 refine TL.st rfl rfl rfl (o_assign rfl rfl) (TL.nil (thn_normal (T.ret ?_)))
 cases some_i H
 exact ⟨trivial, _, (.tmp _ _ _ _ rfl .nil), (.cl _ rfl)⟩
theorem en_6 (us : Array Value) (w : World) : (callFunc 6 us).run Go.Proofs.Tryz.prog w = .ok (.enter 6 us) w := enters Go.Proofs.Tryz.func6 rfl rfl us w
noncomputable def spec_l22Client_l1 (a0 : T_impl_AttackConf) : Int → Option (Int ⊕ (Unit ⊕ (T_impl_Client × Bool))) := fun s => match s with
  | v1 => cond (decide (v1 < (a0.Server_.Clients_.length : Int))) ((idx a0.Server_.Clients_ v1).bind fun e4 => cond (e4.Id_.toList == a0.Client_.toList) (some (.inr (.inr (e4, true)))) (some (.inl (IntKind.i64.wrap (v1 + 1))))) (some (.inr (.inl ())))
noncomputable def spec_l22Client (a0 : T_impl_AttackConf) : Option (T_impl_Client × Bool) :=
  (loopO (spec_l22Client_l1 a0) 0).bind fun q6 => (match q6 with | .inl _ => some ((⟨(ByteArray.mk #[]), ([] : List Int), ([] : List ByteArray), ([] : List ByteArray), ([] : List Int)⟩ : T_impl_Client), false) | .inr q2 => some q2)
theorem spec_l22Client_p (b0 : Bool) {a0 : T_impl_AttackConf} {R0 : T_impl_Client} {R1 : Bool} (H : spec_l22Client a0 = some (R0, R1)) : Pure Go.Proofs.Tryz.prog 12 [.agg (c_T_impl_AttackConf b0 a0)] (.tup [.agg (c_T_impl_Client false R0), .bool R1]) := by
 refine CallT.of_TN (n := 22) Go.Proofs.Tryz.func12 rfl rfl rfl rfl ?_
 refine T.seq (T.region (TL.st rfl rfl rfl (o_box rfl rfl rfl) (TL.st rfl rfl rfl (o_alloc rfl ⟨_, rfl, rfl⟩) (TL.st rfl rfl rfl (o_assign rfl rfl) (TL.nil (thn_normal (T.seq (T.seq (T.region (TL.st rfl rfl rfl (o_fieldAddr rfl rfl rfl tyS_25 (by decide) rfl rfl ⟨_, rfl, Nat.le_of_ble_eq_true rfl⟩) ?_))))))))))
 refine TL.st rfl rfl rfl (o_fieldAddr rfl rfl rfl tyS_23 (by decide) rfl rfl ⟨_, rfl, Nat.le_of_ble_eq_true rfl⟩) ?_
 refine TL.st rfl rfl rfl (o_loadBx rfl tyS_23 rfl rfl (Nat.le_of_ble_eq_true rfl) rfl) ?_
 refine TL.st rfl rfl rfl (o_lenL (f := c_T_impl_Client false) rfl rfl rfl) ?_
 refine TL.st rfl rfl rfl (o_move rfl rfl) (TL.nil (thn_normal (T.block ?_)))
 obtain ⟨q6, h7, H⟩ := bind_s H
 refine T.lq (fun s => match s with | v1 => [(1, .bx 0 0), (2, .bx 1 0), (8, .im b0 (a0.Server_.Clients_.map (c_T_impl_Client false))), (9, .int .i64 (a0.Server_.Clients_.length : Int)), (10, .int .i64 v1)]) (fun s => match s with | v1 => [.box (c_T_impl_AttackConf b0 a0), .box [.str (ByteArray.mk #[]), .nilS, .nilS, .nilS, .nilS]]) (fun q ex fr σ => match q with | .inl _ => ex = .exit 0 ∧ fr = [(2, .bx 1 0)] ∧ σ = [.box (c_T_impl_AttackConf b0 a0), .box [.str (ByteArray.mk #[]), .nilS, .nilS, .nilS, .nilS]] | .inr q2 => ex = .ret ∧ RetN Go.Proofs.Tryz.prog [.cell 2 50, .tmp 3] (fun v τ => Told τ v (.tup [.agg (c_T_impl_Client false q2.1), .bool q2.2])) .ret fr σ) h7 ?_ ?_
 ·rintro v1 y3 H
  refine T.seq (T.region (TL.st rfl rfl rfl (o_ari rfl rfl rfl rfl) (TL.nil (thn_normal (T.seq ?_)))))
  refine T.cond (decide (v1 < (a0.Server_.Clients_.length : Int))) rfl (fun h => ?_) (fun h => ?_)
  ·replace H := cond_t h H
   refine T.skip (thn_normal (T.seq (T.block (T.seq (T.region ?_)))))
   obtain ⟨e4, h5, H⟩ := bind_s H
   refine TL.st rfl rfl rfl (o_ix (f := c_T_impl_Client false) rfl rfl tyS_50 rfl rfl h5 rfl) ?_
   refine TL.st rfl rfl rfl (o_loadRf rfl tyS_50 rfl (Nat.le_of_ble_eq_true rfl) rfl) ?_
   refine TL.st rfl rfl rfl (o_alloc rfl ⟨_, rfl, rfl⟩) (TL.sn rfl rfl (o_storeBx rfl tyS_50 rfl rfl rfl rfl (Nat.le_of_ble_eq_true rfl) rfl) ?_)
   refine TL.nil (thn_normal (T.seq (T.region (TL.st rfl rfl rfl (o_fieldAddr rfl rfl rfl tyS_9 (by decide) rfl rfl ⟨_, rfl, Nat.le_of_ble_eq_true rfl⟩) ?_))))
   refine TL.st rfl rfl rfl (o_loadBx rfl tyS_9 rfl rfl (Nat.le_of_ble_eq_true rfl) rfl) ?_
   refine TL.st rfl rfl rfl (o_fieldAddr rfl rfl rfl tyS_9 (by decide) rfl rfl ⟨_, rfl, Nat.le_of_ble_eq_true rfl⟩) ?_
   refine TL.st rfl rfl rfl (o_loadBx rfl tyS_9 rfl rfl (Nat.le_of_ble_eq_true rfl) rfl) ?_
   refine TL.st rfl rfl rfl (o_str rfl rfl rfl rfl) ?_
   refine TL.nil (thn_normal ?_)
   refine T.cond ((e4.Id_.toList == a0.Client_.toList)) rfl (fun h => ?_) (fun h => ?_)
   ·replace H := cond_t h H
    refine T.seq (T.region (TL.st rfl rfl rfl (o_loadBx rfl tyS_50 rfl rfl (Nat.le_of_ble_eq_true rfl) rfl) ?_))
    refine TL.sn rfl rfl (o_storeBx rfl tyS_50 rfl rfl rfl rfl (Nat.le_of_ble_eq_true rfl) rfl) ?_
    refine TL.st rfl rfl rfl (o_assign rfl rfl) (TL.nil (thn_normal (T.conv (Cs.eqS (σ' := [.box (c_T_impl_AttackConf b0 a0), .box (c_T_impl_Client false e4), .box (c_T_impl_Client false e4)]) rfl) ?_)))
    refine T.ret (inB_ret (thn_ret ?_))
    exact Pk.id (thn_ret ⟨.inr (e4, true), (some_i H).symm, rfl, ⟨trivial, _, (.cell _ _ _ _ _ _ _ _ _ _ rfl rfl tyS_50 (Nat.le_of_ble_eq_true rfl) rfl (.tmp _ _ _ _ rfl .nil)), (.tupL (.cons _ _ _ _ (.cl _ rfl) (.cons _ _ _ _ (.cl _ rfl) .nil)))⟩⟩)
   ·replace H := cond_f h H
    refine T.skip (inB_normal (thn_normal (T.region (TL.st rfl rfl rfl (o_ari rfl rfl rfl rfl) (TL.st rfl rfl rfl (o_move rfl rfl) (TL.nil ?_))))))
    exact Pk.of (thn_normal ⟨(IntKind.i64.wrap (v1 + 1)), (some_i H).symm, rfl, rfl⟩)
  ·replace H := cond_f h H
   refine T.exit (thn_exit ?_)
   exact Pk.of (thn_exit ⟨.inl (), (some_i H).symm, rfl, rfl, rfl⟩)
 ·rcases q6 with ⟨⟩ | q2
  ·rintro _ _ _ ⟨rfl, rfl, rfl⟩
   refine inB_here (thn_normal (T.seq (T.region (TL.st rfl rfl rfl (o_build rfl ⟨_, fun _ => rfl, rfl⟩ rfl rfl rfl) ?_))))
   refine TL.sn rfl rfl (o_storeBx rfl tyS_50 rfl rfl rfl rfl (Nat.le_of_ble_eq_true rfl) rfl) ?_
   refine TL.st rfl rfl rfl (o_assign rfl rfl) (TL.nil (thn_normal (T.ret ?_)))
   cases some_i H
   exact ⟨trivial, _, (.cell _ _ _ _ _ _ _ _ _ _ rfl rfl tyS_50 (Nat.le_of_ble_eq_true rfl) rfl (.tmp _ _ _ _ rfl .nil)), (.tupL (.cons _ _ _ _ (.aggL (.cons _ _ _ _ (.cl _ rfl) (.cons _ _ _ _ .nil (.cons _ _ _ _ .nil (.cons _ _ _ _ .nil (.cons _ _ _ _ .nil .nil)))))) (.cons _ _ _ _ (.cl _ rfl) .nil)))⟩
  ·rintro _ fr1 σ1 ⟨rfl, hr⟩
   refine inB_ret (thn_ret ?_)
   cases some_i H
   exact hr
theorem en_12 (us : Array Value) (w : World) : (callFunc 12 us).run Go.Proofs.Tryz.prog w = .ok (.enter 12 us) w := enters Go.Proofs.Tryz.func12 rfl rfl us w
noncomputable def spec_l1Letter (a0 : Int) : Option Bool :=
  some ((decide (a0 ≥ 97) && decide (a0 ≤ 122)) || (decide (a0 ≥ 65) && decide (a0 ≤ 90)))
theorem spec_l1Letter_p  {a0 : Int} {R0 : Bool} (H : spec_l1Letter a0 = some R0) : Pure Go.Proofs.Tryz.prog 43 [.int .u8 a0] (.bool R0) := by
 refine CallT.of_TN (n := 17) Go.Proofs.Tryz.func43 rfl rfl rfl rfl ?_
 refine T.seq (T.region (TL.st rfl rfl rfl (o_assign rfl rfl) (TL.nil (thn_normal (T.seq (T.region (TL.st rfl rfl rfl (o_move rfl rfl) (TL.st rfl rfl rfl (o_ari rfl rfl rfl rfl) (TL.st rfl rfl rfl (o_move rfl rfl) (TL.gcq rfl rfl rfl (.bool _) rfl rfl (fun h => o_move rfl rfl) (TL.gcq rfl rfl rfl (.bool _) rfl rfl (fun h => o_ari rfl (gv h rfl) rfl rfl) ?_)))))))))))
 refine TL.st rfl rfl rfl (o_and rfl rfl rfl (fun k => Gd_t k) rfl) (TL.st rfl rfl rfl (o_move rfl rfl) (TL.gcq rfl rfl rfl (.bool _) rfl rfl (fun h => o_move rfl rfl) (TL.gcq rfl rfl rfl (.bool _) rfl rfl (fun h => o_ari rfl (gv h rfl) rfl rfl) ?_)))
 refine TL.gcq rfl rfl rfl (.bool _) rfl rfl (fun h => o_move rfl (gv h rfl)) ?_
 refine TL.gcq rfl rfl rfl (.gd _ _) rfl rfl (fun h => o_move rfl rfl) ?_
 refine TL.gcq rfl rfl rfl (.gd _ _) rfl rfl (fun h => o_ari rfl (gv h rfl) rfl rfl) ?_
 refine TL.gcq rfl rfl rfl (.bool _) rfl rfl (fun h => o_and rfl (gv h rfl) rfl (fun k => Gd_t (andi h k)) rfl) ?_
 refine TL.st rfl rfl rfl (o_or rfl rfl rfl rfl (fun k => Gd_t k)) (TL.st rfl rfl rfl (o_assign rfl rfl) (TL.nil (thn_normal (T.ret ?_))))
 cases some_i H
 exact ⟨trivial, _, (.tmp _ _ _ _ rfl .nil), (.cl _ rfl)⟩
theorem en_43 (us : Array Value) (w : World) : (callFunc 43 us).run Go.Proofs.Tryz.prog w = .ok (.enter 43 us) w := enters Go.Proofs.Tryz.func43 rfl rfl us w
noncomputable def spec_l1Digit (a0 : Int) : Option Bool :=
  some (decide (a0 ≥ 48) && decide (a0 ≤ 57))
theorem spec_l1Digit_p  {a0 : Int} {R0 : Bool} (H : spec_l1Digit a0 = some R0) : Pure Go.Proofs.Tryz.prog 44 [.int .u8 a0] (.bool R0) := by
 refine CallT.of_TN (n := 9) Go.Proofs.Tryz.func44 rfl rfl rfl rfl ?_
 refine T.seq (T.region (TL.st rfl rfl rfl (o_assign rfl rfl) (TL.nil (thn_normal (T.seq (T.region (TL.st rfl rfl rfl (o_move rfl rfl) (TL.st rfl rfl rfl (o_ari rfl rfl rfl rfl) (TL.st rfl rfl rfl (o_move rfl rfl) (TL.gcq rfl rfl rfl (.bool _) rfl rfl (fun h => o_move rfl rfl) (TL.gcq rfl rfl rfl (.bool _) rfl rfl (fun h => o_ari rfl (gv h rfl) rfl rfl) ?_)))))))))))
 refine TL.st rfl rfl rfl (o_and rfl rfl rfl (fun k => Gd_t k) rfl) (TL.st rfl rfl rfl (o_assign rfl rfl) (TL.nil (thn_normal (T.ret ?_))))
 cases some_i H
 exact ⟨trivial, _, (.tmp _ _ _ _ rfl .nil), (.cl _ rfl)⟩
theorem en_44 (us : Array Value) (w : World) : (callFunc 44 us).run Go.Proofs.Tryz.prog w = .ok (.enter 44 us) w := enters Go.Proofs.Tryz.func44 rfl rfl us w
noncomputable def spec_l7Id_l1 (a0 : ByteArray) : Int → Option (Int ⊕ (Unit ⊕ Bool)) := fun s => match s with
  | v1 => cond (decide (v1 < (a0.size : Int))) ((idxS a0 v1).bind fun b4 => (spec_l1Letter b4).bind fun r6 => (gdO (!r6) (idxS a0 v1)).bind fun b8 => (gdO (!r6) (spec_l1Digit b8)).bind fun r10 => (gdO ((!r6) && (!r10)) (idxS a0 v1)).bind fun b12 => (gdO (((!r6) && (!r10)) && (b12 != 95)) (idxS a0 v1)).bind fun b14 => (gdO ((((!r6) && (!r10)) && (b12 != 95)) && (b14 != 45)) (idxS a0 v1)).bind fun b16 => cond (((((!r6) && (!r10)) && (b12 != 95)) && (b14 != 45)) && (b16 != 46)) (some (.inr (.inr false))) (some (.inl (IntKind.i64.wrap (v1 + 1))))) (some (.inr (.inl ())))
noncomputable def spec_l7Id (a0 : ByteArray) : Option Bool :=
  (loopO (spec_l7Id_l1 a0) 0).bind fun q18 => (match q18 with | .inl _ => some (decide ((a0.size : Int) ≥ 1) && decide ((a0.size : Int) ≤ 40)) | .inr q2 => some q2)
theorem spec_l7Id_p  {a0 : ByteArray} {R0 : Bool} (H : spec_l7Id a0 = some R0) : Pure Go.Proofs.Tryz.prog 25 [.str a0] (.bool R0) := by
 refine CallT.of_TN (n := 48) Go.Proofs.Tryz.func25 rfl rfl rfl rfl ?_
 refine T.seq (T.region (TL.st rfl rfl rfl (o_assign rfl rfl) (TL.nil (thn_normal (T.seq (T.seq (T.region (TL.st rfl rfl rfl (o_assign rfl rfl) (TL.nil (thn_normal (T.block ?_)))))))))))
 obtain ⟨q18, h19, H⟩ := bind_s H
 refine T.lq (fun s => match s with | v1 => [(0, .str a0), (3, .int .i64 v1)]) (fun s => match s with | v1 => []) (fun q ex fr σ => match q with | .inl _ => ex = .exit 0 ∧ fr = [(0, .str a0)] ∧ σ = [] | .inr q2 => ex = .ret ∧ RetN Go.Proofs.Tryz.prog [.tmp 2] (fun v τ => Told τ v (.bool q2)) .ret fr σ) h19 ?_ ?_
 ·rintro v1 y3 H
  refine T.seq (T.seq (T.region (TL.st rfl rfl rfl (o_move rfl rfl) (TL.st rfl rfl rfl (o_move rfl rfl) (TL.st rfl rfl rfl (o_lenS rfl rfl rfl) ?_)))))
  refine TL.st rfl rfl rfl (o_ari rfl rfl rfl rfl) (TL.nil (thn_normal ?_))
  refine T.cond (decide (v1 < (a0.size : Int))) rfl (fun h => ?_) (fun h => ?_)
  ·replace H := cond_t h H
   refine T.skip (thn_normal (T.seq (T.block (T.seq (T.region (TL.st rfl rfl rfl (o_move rfl rfl) (TL.st rfl rfl rfl (o_move rfl rfl) ?_)))))))
   obtain ⟨b4, h5, H⟩ := bind_s H
   refine TL.st rfl rfl rfl (o_ixs rfl rfl rfl rfl h5) ?_
   obtain ⟨r6, h7, H⟩ := bind_s H
   refine TL.st rfl rfl rfl (o_callP rfl en_43 rfl rfl (.cons _ _ _ _ (.cl _ rfl) .nil) (spec_l1Letter_p  h7)) ?_
   refine TL.st rfl rfl rfl (o_not rfl rfl) ?_
   refine TL.st rfl rfl rfl (o_move rfl rfl) (TL.gcq rfl rfl rfl (.bool _) rfl rfl (fun h => o_move rfl rfl) (TL.gcq rfl rfl rfl (.bool _) rfl rfl (fun h => o_move rfl rfl) ?_))
   obtain ⟨b8, h9, H⟩ := bind_s H
   refine TL.gcq rfl rfl rfl (.bool _) rfl rfl (fun h => o_ixs rfl rfl (gv h rfl) (gv h rfl) (gdO_t h9 h)) ?_
   obtain ⟨r10, h11, H⟩ := bind_s H
   refine TL.gcq rfl rfl rfl (.bool _) rfl rfl (fun h => o_callP rfl en_44 rfl (evl_1 (gv h rfl)) (.cons _ _ _ _ (.cl _ rfl) .nil) (spec_l1Digit_p  (gdO_t h11 h))) ?_
   refine TL.gcq rfl rfl rfl (.bool _) rfl rfl (fun h => o_not rfl (gv h rfl)) ?_
   refine TL.st rfl rfl rfl (o_and rfl rfl rfl (fun k => Gd_t k) rfl) (TL.st rfl rfl rfl (o_move rfl rfl) (TL.gcq rfl rfl rfl (.bool _) rfl rfl (fun h => o_move rfl rfl) (TL.gcq rfl rfl rfl (.bool _) rfl rfl (fun h => o_move rfl rfl) ?_)))
   obtain ⟨b12, h13, H⟩ := bind_s H
   refine TL.gcq rfl rfl rfl (.bool _) rfl rfl (fun h => o_ixs rfl rfl (gv h rfl) (gv h rfl) (gdO_t h13 h)) ?_
   refine TL.gcq rfl rfl rfl (.bool _) rfl rfl (fun h => o_ari rfl (gv h rfl) rfl rfl) ?_
   refine TL.st rfl rfl rfl (o_and rfl rfl rfl (fun k => Gd_t k) rfl) (TL.st rfl rfl rfl (o_move rfl rfl) (TL.gcq rfl rfl rfl (.bool _) rfl rfl (fun h => o_move rfl rfl) (TL.gcq rfl rfl rfl (.bool _) rfl rfl (fun h => o_move rfl rfl) ?_)))
   obtain ⟨b14, h15, H⟩ := bind_s H
   refine TL.gcq rfl rfl rfl (.bool _) rfl rfl (fun h => o_ixs rfl rfl (gv h rfl) (gv h rfl) (gdO_t h15 h)) ?_
   refine TL.gcq rfl rfl rfl (.bool _) rfl rfl (fun h => o_ari rfl (gv h rfl) rfl rfl) ?_
   refine TL.st rfl rfl rfl (o_and rfl rfl rfl (fun k => Gd_t k) rfl) (TL.st rfl rfl rfl (o_move rfl rfl) (TL.gcq rfl rfl rfl (.bool _) rfl rfl (fun h => o_move rfl rfl) (TL.gcq rfl rfl rfl (.bool _) rfl rfl (fun h => o_move rfl rfl) ?_)))
   obtain ⟨b16, h17, H⟩ := bind_s H
   refine TL.gcq rfl rfl rfl (.bool _) rfl rfl (fun h => o_ixs rfl rfl (gv h rfl) (gv h rfl) (gdO_t h17 h)) ?_
   refine TL.gcq rfl rfl rfl (.bool _) rfl rfl (fun h => o_ari rfl (gv h rfl) rfl rfl) ?_
   refine TL.st rfl rfl rfl (o_and rfl rfl rfl (fun k => Gd_t k) rfl) (TL.nil (thn_normal ?_))
   refine T.cond ((((((!r6) && (!r10)) && (b12 != 95)) && (b14 != 45)) && (b16 != 46))) rfl (fun h => ?_) (fun h => ?_)
   ·replace H := cond_t h H
    refine T.seq (T.region (TL.st rfl rfl rfl (o_assign rfl rfl) (TL.nil (thn_normal (T.ret (inB_ret (thn_ret ?_)))))))
    exact Pk.id (thn_ret ⟨.inr false, (some_i H).symm, rfl, ⟨trivial, _, (.tmp _ _ _ _ rfl .nil), (.cl _ rfl)⟩⟩)
   ·replace H := cond_f h H
    refine T.skip (inB_normal (thn_normal (T.region (TL.st rfl rfl rfl (o_move rfl rfl) (TL.st rfl rfl rfl (o_ari rfl rfl rfl rfl) (TL.st rfl rfl rfl (o_assign rfl rfl) (TL.nil ?_)))))))
    exact Pk.of (thn_normal ⟨(IntKind.i64.wrap (v1 + 1)), (some_i H).symm, rfl, rfl⟩)
  ·replace H := cond_f h H
   refine T.exit (thn_exit ?_)
   exact Pk.of (thn_exit ⟨.inl (), (some_i H).symm, rfl, rfl, rfl⟩)
 ·rcases q18 with ⟨⟩ | q2
  ·rintro _ _ _ ⟨rfl, rfl, rfl⟩
   refine inB_here (thn_normal (T.seq (T.region (TL.st rfl rfl rfl (o_move rfl rfl) (TL.st rfl rfl rfl (o_lenS rfl rfl rfl) ?_)))))
   refine TL.st rfl rfl rfl (o_ari rfl rfl rfl rfl) (TL.st rfl rfl rfl (o_move rfl rfl) (TL.gcq rfl rfl rfl (.bool _) rfl rfl (fun h => o_move rfl rfl) (TL.gcq rfl rfl rfl (.bool _) rfl rfl (fun h => o_lenS rfl rfl (gv h rfl)) ?_)))
   refine TL.gcq rfl rfl rfl (.bool _) rfl rfl (fun h => o_ari rfl (gv h rfl) rfl rfl) ?_
   refine TL.st rfl rfl rfl (o_and rfl rfl rfl (fun k => Gd_t k) rfl) (TL.st rfl rfl rfl (o_assign rfl rfl) (TL.nil (thn_normal (T.ret ?_))))
   cases some_i H
   exact ⟨trivial, _, (.tmp _ _ _ _ rfl .nil), (.cl _ rfl)⟩
  ·rintro _ fr1 σ1 ⟨rfl, hr⟩
   refine inB_ret (thn_ret ?_)
   cases some_i H
   exact hr
theorem en_25 (us : Array Value) (w : World) : (callFunc 25 us).run Go.Proofs.Tryz.prog w = .ok (.enter 25 us) w := enters Go.Proofs.Tryz.func25 rfl rfl us w
noncomputable def spec_l1CmpNum (a0 : Int) (a1 : Int) : Option Int :=
  cond (decide (a0 < a1)) (some (-1)) (cond (decide (a0 > a1)) (some 1) (some 0))
theorem spec_l1CmpNum_p  {a0 : Int} {a1 : Int} {R0 : Int} (H : spec_l1CmpNum a0 a1 = some R0) : Pure Go.Proofs.Tryz.prog 45 [.int .i64 a0, .int .i64 a1] (.int .i64 R0) := by
 refine CallT.of_TN (n := 11) Go.Proofs.Tryz.func45 rfl rfl rfl rfl ?_
 refine T.seq (T.region (TL.st rfl rfl rfl (o_assign rfl rfl) (TL.nil (thn_normal (T.seq (T.seq (T.region (TL.st rfl rfl rfl (o_move rfl rfl) (TL.st rfl rfl rfl (o_move rfl rfl) (TL.st rfl rfl rfl (o_ari rfl rfl rfl rfl) (TL.nil (thn_normal ?_))))))))))))
 refine T.cond (decide (a0 < a1)) rfl (fun h => ?_) (fun h => ?_)
 ·replace H := cond_t h H
  refine T.seq (T.region (TL.st rfl rfl rfl (o_assign rfl rfl) (TL.nil (thn_normal (T.ret (thn_ret ?_))))))
  cases some_i H
  exact ⟨trivial, _, (.tmp _ _ _ _ rfl .nil), (.cl _ rfl)⟩
 ·replace H := cond_f h H
  refine T.skip (thn_normal (T.seq (T.seq (T.region (TL.st rfl rfl rfl (o_move rfl rfl) (TL.st rfl rfl rfl (o_move rfl rfl) (TL.st rfl rfl rfl (o_ari rfl rfl rfl rfl) (TL.nil (thn_normal ?_)))))))))
  refine T.cond (decide (a0 > a1)) rfl (fun h => ?_) (fun h => ?_)
  ·replace H := cond_t h H
   refine T.seq (T.region (TL.st rfl rfl rfl (o_assign rfl rfl) (TL.nil (thn_normal (T.ret (thn_ret ?_))))))
   cases some_i H
   exact ⟨trivial, _, (.tmp _ _ _ _ rfl .nil), (.cl _ rfl)⟩
  ·replace H := cond_f h H
   refine T.skip (thn_normal (T.seq (T.region (TL.st rfl rfl rfl (o_assign rfl rfl) (TL.nil (thn_normal (T.ret ?_)))))))
   cases some_i H
   exact ⟨trivial, _, (.tmp _ _ _ _ rfl .nil), (.cl _ rfl)⟩
theorem en_45 (us : Array Value) (w : World) : (callFunc 45 us).run Go.Proofs.Tryz.prog w = .ok (.enter 45 us) w := enters Go.Proofs.Tryz.func45 rfl rfl us w
noncomputable def spec_l1CmpText_l1 (a0 : ByteArray) (a1 : ByteArray) : Int → Option (Int ⊕ (Unit ⊕ Int)) := fun s => match s with
  | v1 => cond (decide (v1 < (a0.size : Int)) && decide (v1 < (a1.size : Int))) ((idxS a0 v1).bind fun b6 => (idxS a1 v1).bind fun b8 => cond (b6 != b8) ((idxS a0 v1).bind fun b10 => (idxS a1 v1).bind fun b12 => (spec_l1CmpNum (IntKind.i64.wrap b10) (IntKind.i64.wrap b12)).bind fun r14 => some (.inr (.inr r14))) (some (.inl (IntKind.i64.wrap (v1 + 1))))) (some (.inr (.inl ())))
noncomputable def spec_l1CmpText (a0 : ByteArray) (a1 : ByteArray) : Option Int :=
  (loopO (spec_l1CmpText_l1 a0 a1) 0).bind fun q16 => (match q16 with | .inl _ => (spec_l1CmpNum (a0.size : Int) (a1.size : Int)).bind fun r3 => some r3 | .inr q2 => some q2)
theorem spec_l1CmpText_p  {a0 : ByteArray} {a1 : ByteArray} {R0 : Int} (H : spec_l1CmpText a0 a1 = some R0) : Pure Go.Proofs.Tryz.prog 26 [.str a0, .str a1] (.int .i64 R0) := by
 refine CallT.of_TN (n := 39) Go.Proofs.Tryz.func26 rfl rfl rfl rfl ?_
 refine T.seq (T.region (TL.st rfl rfl rfl (o_assign rfl rfl) (TL.nil (thn_normal (T.seq (T.seq (T.region (TL.st rfl rfl rfl (o_assign rfl rfl) (TL.nil (thn_normal (T.block ?_)))))))))))
 obtain ⟨q16, h17, H⟩ := bind_s H
 refine T.lq (fun s => match s with | v1 => [(0, .str a0), (1, .str a1), (5, .int .i64 v1)]) (fun s => match s with | v1 => []) (fun q ex fr σ => match q with | .inl _ => ex = .exit 0 ∧ fr = [(0, .str a0), (1, .str a1)] ∧ σ = [] | .inr q2 => ex = .ret ∧ RetN Go.Proofs.Tryz.prog [.tmp 4] (fun v τ => Told τ v (.int .i64 q2)) .ret fr σ) h17 ?_ ?_
 ·rintro v1 y5 H
  refine T.seq (T.seq (T.region (TL.st rfl rfl rfl (o_move rfl rfl) (TL.st rfl rfl rfl (o_move rfl rfl) (TL.st rfl rfl rfl (o_lenS rfl rfl rfl) ?_)))))
  refine TL.st rfl rfl rfl (o_ari rfl rfl rfl rfl) (TL.st rfl rfl rfl (o_move rfl rfl) (TL.gcq rfl rfl rfl (.bool _) rfl rfl (fun h => o_move rfl rfl) (TL.gcq rfl rfl rfl (.bool _) rfl rfl (fun h => o_move rfl rfl) (TL.gcq rfl rfl rfl (.bool _) rfl rfl (fun h => o_lenS rfl rfl (gv h rfl)) ?_))))
  refine TL.gcq rfl rfl rfl (.bool _) rfl rfl (fun h => o_ari rfl (gv h rfl) (gv h rfl) rfl) ?_
  refine TL.st rfl rfl rfl (o_and rfl rfl rfl (fun k => Gd_t k) rfl) (TL.nil (thn_normal ?_))
  refine T.cond ((decide (v1 < (a0.size : Int)) && decide (v1 < (a1.size : Int)))) rfl (fun h => ?_) (fun h => ?_)
  ·replace H := cond_t h H
   refine T.skip (thn_normal (T.seq (T.block (T.seq (T.drawn rfl ?_)))))
   refine TD.qs rfl rfl (fun _ => o_move rfl rfl) (TD.qs rfl rfl (fun _ => o_move rfl rfl) ?_)
   obtain ⟨b6, h7, H⟩ := bind_s H
   refine TD.qs rfl rfl (fun _ => o_ixs rfl rfl rfl rfl h7) ?_
   refine TD.qs rfl rfl (fun _ => o_move rfl rfl) (TD.qs rfl rfl (fun _ => o_move rfl rfl) ?_)
   obtain ⟨b8, h9, H⟩ := bind_s H
   refine TD.qs rfl rfl (fun _ => o_ixs rfl rfl rfl rfl h9) ?_
   refine TD.qs rfl rfl (fun _ => o_ari rfl rfl rfl rfl) ?_
   refine TD.nil ⟨rfl, ?_⟩
   refine thn_normal ?_
   refine T.cond ((b6 != b8)) rfl (fun h => ?_) (fun h => ?_)
   ·replace H := cond_t h H
    refine T.seq (T.drawn rfl ?_)
    refine TD.qs rfl rfl (fun _ => o_move rfl rfl) (TD.qs rfl rfl (fun _ => o_move rfl rfl) ?_)
    obtain ⟨b10, h11, H⟩ := bind_s H
    refine TD.qs rfl rfl (fun _ => o_ixs rfl rfl rfl rfl h11) ?_
    refine TD.qs rfl rfl (fun _ => o_conv rfl rfl ⟨_, rfl⟩ rfl) ?_
    refine TD.qs rfl rfl (fun _ => o_move rfl rfl) (TD.qs rfl rfl (fun _ => o_move rfl rfl) ?_)
    obtain ⟨b12, h13, H⟩ := bind_s H
    refine TD.qs rfl rfl (fun _ => o_ixs rfl rfl rfl rfl h13) ?_
    refine TD.qs rfl rfl (fun _ => o_conv rfl rfl ⟨_, rfl⟩ rfl) ?_
    obtain ⟨r14, h15, H⟩ := bind_s H
    refine TD.qs rfl rfl (fun _ => o_callP rfl en_45 rfl rfl (.cons _ _ _ _ (.cl _ rfl) (.cons _ _ _ _ (.cl _ rfl) .nil)) (spec_l1CmpNum_p  h15)) ?_
    refine TD.qs rfl rfl (fun _ => o_assign rfl rfl) ?_
    refine TD.nil ⟨rfl, ?_⟩
    refine thn_normal (T.ret (inB_ret (thn_ret ?_)))
    exact Pk.id (thn_ret ⟨.inr r14, (some_i H).symm, rfl, ⟨trivial, _, (.tmp _ _ _ _ rfl .nil), (.cl _ rfl)⟩⟩)
   ·replace H := cond_f h H
    refine T.skip (inB_normal (thn_normal (T.region (TL.st rfl rfl rfl (o_move rfl rfl) (TL.st rfl rfl rfl (o_ari rfl rfl rfl rfl) (TL.st rfl rfl rfl (o_assign rfl rfl) (TL.nil ?_)))))))
    exact Pk.of (thn_normal ⟨(IntKind.i64.wrap (v1 + 1)), (some_i H).symm, rfl, rfl⟩)
  ·replace H := cond_f h H
   refine T.exit (thn_exit ?_)
   exact Pk.of (thn_exit ⟨.inl (), (some_i H).symm, rfl, rfl, rfl⟩)
 ·rcases q16 with ⟨⟩ | q2
  ·rintro _ _ _ ⟨rfl, rfl, rfl⟩
   refine inB_here (thn_normal (T.seq (T.region (TL.st rfl rfl rfl (o_move rfl rfl) (TL.st rfl rfl rfl (o_lenS rfl rfl rfl) ?_)))))
   refine TL.st rfl rfl rfl (o_move rfl rfl) (TL.st rfl rfl rfl (o_lenS rfl rfl rfl) ?_)
   obtain ⟨r3, h4, H⟩ := bind_s H
   refine TL.st rfl rfl rfl (o_callP rfl en_45 rfl rfl (.cons _ _ _ _ (.cl _ rfl) (.cons _ _ _ _ (.cl _ rfl) .nil)) (spec_l1CmpNum_p  h4)) ?_
   refine TL.st rfl rfl rfl (o_assign rfl rfl) (TL.nil (thn_normal (T.ret ?_)))
   cases some_i H
   exact ⟨trivial, _, (.tmp _ _ _ _ rfl .nil), (.cl _ rfl)⟩
  ·rintro _ fr1 σ1 ⟨rfl, hr⟩
   refine inB_ret (thn_ret ?_)
   cases some_i H
   exact hr
theorem en_26 (us : Array Value) (w : World) : (callFunc 26 us).run Go.Proofs.Tryz.prog w = .ok (.enter 26 us) w := enters Go.Proofs.Tryz.func26 rfl rfl us w
noncomputable def spec_GoodName_l1 (a0 : ByteArray) : Int → Option (Int ⊕ (Unit ⊕ Bool)) := fun s => match s with
  | v5 => cond (decide (v5 < (a0.size : Int))) ((idxS a0 v5).bind fun b8 => (spec_l1Letter b8).bind fun r10 => (gdO (!r10) (idxS a0 v5)).bind fun b12 => (gdO (!r10) (spec_l1Digit b12)).bind fun r14 => (gdO ((!r10) && (!r14)) (idxS a0 v5)).bind fun b16 => cond (((!r10) && (!r14)) && (b16 != 95)) (some (.inr (.inr false))) (some (.inl (IntKind.i64.wrap (v5 + 1))))) (some (.inr (.inl ())))
noncomputable def spec_GoodName (a0 : ByteArray) : Option Bool :=
  (gdO (!(decide ((a0.size : Int) < 1) || decide ((a0.size : Int) > 30))) (idxS a0 0)).bind fun b1 => (gdO (!(decide ((a0.size : Int) < 1) || decide ((a0.size : Int) > 30))) (spec_l1Digit b1)).bind fun r3 => cond ((decide ((a0.size : Int) < 1) || decide ((a0.size : Int) > 30)) || r3) (some false) ((loopO (spec_GoodName_l1 a0) 0).bind fun q18 => (match q18 with | .inl _ => some true | .inr q6 => some q6))
theorem spec_GoodName_p  {a0 : ByteArray} {R0 : Bool} (H : spec_GoodName a0 = some R0) : Pure Go.Proofs.Tryz.prog 46 [.str a0] (.bool R0) := by
 refine CallT.of_TN (n := 41) Go.Proofs.Tryz.func46 rfl rfl rfl rfl ?_
 refine T.seq (T.region (TL.st rfl rfl rfl (o_assign rfl rfl) (TL.nil (thn_normal (T.seq (T.seq (T.region (TL.st rfl rfl rfl (o_move rfl rfl) (TL.st rfl rfl rfl (o_lenS rfl rfl rfl) ?_)))))))))
 refine TL.st rfl rfl rfl (o_ari rfl rfl rfl rfl) (TL.st rfl rfl rfl (o_move rfl rfl) (TL.gcq rfl rfl rfl (.bool _) rfl rfl (fun h => o_move rfl rfl) (TL.gcq rfl rfl rfl (.bool _) rfl rfl (fun h => o_lenS rfl rfl (gv h rfl)) ?_)))
 refine TL.gcq rfl rfl rfl (.bool _) rfl rfl (fun h => o_ari rfl (gv h rfl) rfl rfl) ?_
 refine TL.st rfl rfl rfl (o_or rfl rfl rfl rfl (fun k => Gd_t k)) (TL.st rfl rfl rfl (o_move rfl rfl) (TL.gcq rfl rfl rfl (.bool _) rfl rfl (fun h => o_move rfl rfl) ?_))
 obtain ⟨b1, h2, H⟩ := bind_s H
 refine TL.gcq rfl rfl rfl (.bool _) rfl rfl (fun h => o_ixs rfl rfl (gv h rfl) rfl (gdO_t h2 h)) ?_
 obtain ⟨r3, h4, H⟩ := bind_s H
 refine TL.gcq rfl rfl rfl (.bool _) rfl rfl (fun h => o_callP rfl en_44 rfl (evl_1 (gv h rfl)) (.cons _ _ _ _ (.cl _ rfl) .nil) (spec_l1Digit_p  (gdO_t h4 h))) ?_
 refine TL.st rfl rfl rfl (o_or rfl rfl rfl rfl (fun k => Gd_t k)) (TL.nil (thn_normal ?_))
 refine T.cond (((decide ((a0.size : Int) < 1) || decide ((a0.size : Int) > 30)) || r3)) rfl (fun h => ?_) (fun h => ?_)
 ·replace H := cond_t h H
  refine T.seq (T.region (TL.st rfl rfl rfl (o_assign rfl rfl) (TL.nil (thn_normal (T.ret (thn_ret ?_))))))
  cases some_i H
  exact ⟨trivial, _, (.tmp _ _ _ _ rfl .nil), (.cl _ rfl)⟩
 ·replace H := cond_f h H
  refine T.skip (thn_normal (T.seq (T.seq (T.region (TL.st rfl rfl rfl (o_assign rfl rfl) (TL.nil (thn_normal (T.block ?_))))))))
  obtain ⟨q18, h19, H⟩ := bind_s H
  refine T.lq (fun s => match s with | v5 => [(0, .str a0), (3, .int .i64 v5)]) (fun s => match s with | v5 => []) (fun q ex fr σ => match q with | .inl _ => ex = .exit 0 ∧ fr = [] ∧ σ = [] | .inr q6 => ex = .ret ∧ RetN Go.Proofs.Tryz.prog [.tmp 2] (fun v τ => Told τ v (.bool q6)) .ret fr σ) h19 ?_ ?_
  ·rintro v5 y7 H
   refine T.seq (T.seq (T.region (TL.st rfl rfl rfl (o_move rfl rfl) (TL.st rfl rfl rfl (o_move rfl rfl) (TL.st rfl rfl rfl (o_lenS rfl rfl rfl) ?_)))))
   refine TL.st rfl rfl rfl (o_ari rfl rfl rfl rfl) (TL.nil (thn_normal ?_))
   refine T.cond (decide (v5 < (a0.size : Int))) rfl (fun h => ?_) (fun h => ?_)
   ·replace H := cond_t h H
    refine T.skip (thn_normal (T.seq (T.block (T.seq (T.region (TL.st rfl rfl rfl (o_move rfl rfl) (TL.st rfl rfl rfl (o_move rfl rfl) ?_)))))))
    obtain ⟨b8, h9, H⟩ := bind_s H
    refine TL.st rfl rfl rfl (o_ixs rfl rfl rfl rfl h9) ?_
    obtain ⟨r10, h11, H⟩ := bind_s H
    refine TL.st rfl rfl rfl (o_callP rfl en_43 rfl rfl (.cons _ _ _ _ (.cl _ rfl) .nil) (spec_l1Letter_p  h11)) ?_
    refine TL.st rfl rfl rfl (o_not rfl rfl) ?_
    refine TL.st rfl rfl rfl (o_move rfl rfl) (TL.gcq rfl rfl rfl (.bool _) rfl rfl (fun h => o_move rfl rfl) (TL.gcq rfl rfl rfl (.bool _) rfl rfl (fun h => o_move rfl rfl) ?_))
    obtain ⟨b12, h13, H⟩ := bind_s H
    refine TL.gcq rfl rfl rfl (.bool _) rfl rfl (fun h => o_ixs rfl rfl (gv h rfl) (gv h rfl) (gdO_t h13 h)) ?_
    obtain ⟨r14, h15, H⟩ := bind_s H
    refine TL.gcq rfl rfl rfl (.bool _) rfl rfl (fun h => o_callP rfl en_44 rfl (evl_1 (gv h rfl)) (.cons _ _ _ _ (.cl _ rfl) .nil) (spec_l1Digit_p  (gdO_t h15 h))) ?_
    refine TL.gcq rfl rfl rfl (.bool _) rfl rfl (fun h => o_not rfl (gv h rfl)) ?_
    refine TL.st rfl rfl rfl (o_and rfl rfl rfl (fun k => Gd_t k) rfl) (TL.st rfl rfl rfl (o_move rfl rfl) (TL.gcq rfl rfl rfl (.bool _) rfl rfl (fun h => o_move rfl rfl) (TL.gcq rfl rfl rfl (.bool _) rfl rfl (fun h => o_move rfl rfl) ?_)))
    obtain ⟨b16, h17, H⟩ := bind_s H
    refine TL.gcq rfl rfl rfl (.bool _) rfl rfl (fun h => o_ixs rfl rfl (gv h rfl) (gv h rfl) (gdO_t h17 h)) ?_
    refine TL.gcq rfl rfl rfl (.bool _) rfl rfl (fun h => o_ari rfl (gv h rfl) rfl rfl) ?_
    refine TL.st rfl rfl rfl (o_and rfl rfl rfl (fun k => Gd_t k) rfl) (TL.nil (thn_normal ?_))
    refine T.cond ((((!r10) && (!r14)) && (b16 != 95))) rfl (fun h => ?_) (fun h => ?_)
    ·replace H := cond_t h H
     refine T.seq (T.region (TL.st rfl rfl rfl (o_assign rfl rfl) (TL.nil (thn_normal (T.ret (inB_ret (thn_ret ?_)))))))
     exact Pk.id (thn_ret ⟨.inr false, (some_i H).symm, rfl, ⟨trivial, _, (.tmp _ _ _ _ rfl .nil), (.cl _ rfl)⟩⟩)
    ·replace H := cond_f h H
     refine T.skip (inB_normal (thn_normal (T.region (TL.st rfl rfl rfl (o_move rfl rfl) (TL.st rfl rfl rfl (o_ari rfl rfl rfl rfl) (TL.st rfl rfl rfl (o_assign rfl rfl) (TL.nil ?_)))))))
     exact Pk.of (thn_normal ⟨(IntKind.i64.wrap (v5 + 1)), (some_i H).symm, rfl, rfl⟩)
   ·replace H := cond_f h H
    refine T.exit (thn_exit ?_)
    exact Pk.of (thn_exit ⟨.inl (), (some_i H).symm, rfl, rfl, rfl⟩)
  ·rcases q18 with ⟨⟩ | q6
   ·rintro _ _ _ ⟨rfl, rfl, rfl⟩
    refine inB_here (thn_normal (T.seq (T.region (TL.st rfl rfl rfl (o_assign rfl rfl) (TL.nil (thn_normal (T.ret ?_)))))))
    cases some_i H
    exact ⟨trivial, _, (.tmp _ _ _ _ rfl .nil), (.cl _ rfl)⟩
   ·rintro _ fr1 σ1 ⟨rfl, hr⟩
    refine inB_ret (thn_ret ?_)
    cases some_i H
    exact hr
theorem en_46 (us : Array Value) (w : World) : (callFunc 46 us).run Go.Proofs.Tryz.prog w = .ok (.enter 46 us) w := enters Go.Proofs.Tryz.func46 rfl rfl us w
noncomputable def spec_l3Rising_l1 (a0 : (List ByteArray)) : Int → Option (Int ⊕ (Unit ⊕ Bool)) := fun s => match s with
  | v1 => cond (decide (v1 < (a0.length : Int))) ((idx a0 (IntKind.i64.wrap (v1 - 1))).bind fun e4 => (idx a0 v1).bind fun e6 => (spec_l1CmpText e4 e6).bind fun r8 => cond (decide (r8 ≥ 0)) (some (.inr (.inr false))) (some (.inl (IntKind.i64.wrap (v1 + 1))))) (some (.inr (.inl ())))
noncomputable def spec_l3Rising (a0 : (List ByteArray)) : Option Bool :=
  (loopO (spec_l3Rising_l1 a0) 1).bind fun q10 => (match q10 with | .inl _ => some true | .inr q2 => some q2)
theorem spec_l3Rising_p (b0 : Bool) {a0 : (List ByteArray)} {R0 : Bool} (H : spec_l3Rising a0 = some R0) : Pure Go.Proofs.Tryz.prog 47 [.im b0 (a0.map (c_str))] (.bool R0) := by
 refine CallT.of_TN (n := 21) Go.Proofs.Tryz.func47 rfl rfl rfl rfl ?_
 refine T.seq (T.region (TL.st rfl rfl rfl (o_assign rfl rfl) (TL.nil (thn_normal (T.seq (T.seq (T.region (TL.st rfl rfl rfl (o_assign rfl rfl) (TL.nil (thn_normal (T.block ?_)))))))))))
 obtain ⟨q10, h11, H⟩ := bind_s H
 refine T.lq (fun s => match s with | v1 => [(0, .im b0 (a0.map (c_str))), (3, .int .i64 v1)]) (fun s => match s with | v1 => []) (fun q ex fr σ => match q with | .inl _ => ex = .exit 0 ∧ fr = [] ∧ σ = [] | .inr q2 => ex = .ret ∧ RetN Go.Proofs.Tryz.prog [.tmp 2] (fun v τ => Told τ v (.bool q2)) .ret fr σ) h11 ?_ ?_
 ·rintro v1 y3 H
  refine T.seq (T.seq (T.region (TL.st rfl rfl rfl (o_move rfl rfl) (TL.st rfl rfl rfl (o_move rfl rfl) (TL.st rfl rfl rfl (o_lenL (f := c_str) rfl rfl rfl) ?_)))))
  refine TL.st rfl rfl rfl (o_ari rfl rfl rfl rfl) (TL.nil (thn_normal ?_))
  refine T.cond (decide (v1 < (a0.length : Int))) rfl (fun h => ?_) (fun h => ?_)
  ·replace H := cond_t h H
   refine T.skip (thn_normal (T.seq (T.block (T.seq (T.drawn rfl ?_)))))
   refine TD.qs rfl rfl (fun _ => o_move rfl rfl) (TD.qs rfl rfl (fun _ => o_move rfl rfl) (TD.qs rfl rfl (fun _ => o_ari rfl rfl rfl rfl) ?_))
   obtain ⟨e4, h5, H⟩ := bind_s H
   refine TD.qs rfl rfl (fun _ => o_ix (f := c_str) rfl rfl tyS_9 rfl rfl h5 rfl) ?_
   refine TD.qs rfl rfl (fun _ => o_loadRf rfl tyS_9 rfl (Nat.le_of_ble_eq_true rfl) rfl) ?_
   refine TD.qs rfl rfl (fun _ => o_move rfl rfl) (TD.qs rfl rfl (fun _ => o_move rfl rfl) ?_)
   obtain ⟨e6, h7, H⟩ := bind_s H
   refine TD.qs rfl rfl (fun _ => o_ix (f := c_str) rfl rfl tyS_9 rfl rfl h7 rfl) ?_
   refine TD.qs rfl rfl (fun _ => o_loadRf rfl tyS_9 rfl (Nat.le_of_ble_eq_true rfl) rfl) ?_
   obtain ⟨r8, h9, H⟩ := bind_s H
   refine TD.qs rfl rfl (fun _ => o_callP rfl en_26 rfl rfl (.cons _ _ _ _ (.cl _ rfl) (.cons _ _ _ _ (.cl _ rfl) .nil)) (spec_l1CmpText_p  h9)) ?_
   refine TD.qs rfl rfl (fun _ => o_ari rfl rfl rfl rfl) ?_
   refine TD.nil ⟨rfl, ?_⟩
   refine thn_normal ?_
   refine T.cond (decide (r8 ≥ 0)) rfl (fun h => ?_) (fun h => ?_)
   ·replace H := cond_t h H
    refine T.seq (T.region (TL.st rfl rfl rfl (o_assign rfl rfl) (TL.nil (thn_normal (T.ret (inB_ret (thn_ret ?_)))))))
    exact Pk.id (thn_ret ⟨.inr false, (some_i H).symm, rfl, ⟨trivial, _, (.tmp _ _ _ _ rfl .nil), (.cl _ rfl)⟩⟩)
   ·replace H := cond_f h H
    refine T.skip (inB_normal (thn_normal (T.region (TL.st rfl rfl rfl (o_move rfl rfl) (TL.st rfl rfl rfl (o_ari rfl rfl rfl rfl) (TL.st rfl rfl rfl (o_assign rfl rfl) (TL.nil ?_)))))))
    exact Pk.of (thn_normal ⟨(IntKind.i64.wrap (v1 + 1)), (some_i H).symm, rfl, rfl⟩)
  ·replace H := cond_f h H
   refine T.exit (thn_exit ?_)
   exact Pk.of (thn_exit ⟨.inl (), (some_i H).symm, rfl, rfl, rfl⟩)
 ·rcases q10 with ⟨⟩ | q2
  ·rintro _ _ _ ⟨rfl, rfl, rfl⟩
   refine inB_here (thn_normal (T.seq (T.region (TL.st rfl rfl rfl (o_assign rfl rfl) (TL.nil (thn_normal (T.ret ?_)))))))
   cases some_i H
   exact ⟨trivial, _, (.tmp _ _ _ _ rfl .nil), (.cl _ rfl)⟩
  ·rintro _ fr1 σ1 ⟨rfl, hr⟩
   refine inB_ret (thn_ret ?_)
   cases some_i H
   exact hr
theorem en_47 (us : Array Value) (w : World) : (callFunc 47 us).run Go.Proofs.Tryz.prog w = .ok (.enter 47 us) w := enters Go.Proofs.Tryz.func47 rfl rfl us w
noncomputable def spec_l18Scopes_l1 (a0 : (List ByteArray)) : Int → Option (Int ⊕ (Unit ⊕ Bool)) := fun s => match s with
  | v1 => cond (decide (v1 < (a0.length : Int))) ((idx a0 v1).bind fun e6 => (spec_GoodName e6).bind fun r8 => cond (!r8) (some (.inr (.inr false))) (some (.inl (IntKind.i64.wrap (v1 + 1))))) (some (.inr (.inl ())))
noncomputable def spec_l18Scopes (a0 : (List ByteArray)) : Option Bool :=
  (loopO (spec_l18Scopes_l1 a0) 0).bind fun q10 => (match q10 with | .inl _ => (gdO (decide ((a0.length : Int) ≤ 20)) (spec_l3Rising a0)).bind fun r3 => some (decide ((a0.length : Int) ≤ 20) && r3) | .inr q2 => some q2)
theorem spec_l18Scopes_p (b0 : Bool) {a0 : (List ByteArray)} {R0 : Bool} (H : spec_l18Scopes a0 = some R0) : Pure Go.Proofs.Tryz.prog 27 [.im b0 (a0.map (c_str))] (.bool R0) := by
 refine CallT.of_TN (n := 22) Go.Proofs.Tryz.func27 rfl rfl rfl rfl ?_
 refine T.seq (T.region (TL.st rfl rfl rfl (o_assign rfl rfl) (TL.nil (thn_normal (T.seq (T.seq (T.region (TL.st rfl rfl rfl (o_move rfl rfl) (TL.st rfl rfl rfl (o_lenL (f := c_str) rfl rfl rfl) ?_)))))))))
 refine TL.st rfl rfl rfl (o_move rfl rfl) (TL.nil (thn_normal (T.block ?_)))
 obtain ⟨q10, h11, H⟩ := bind_s H
 refine T.lq (fun s => match s with | v1 => [(0, .im b0 (a0.map (c_str))), (5, .im b0 (a0.map (c_str))), (6, .int .i64 (a0.length : Int)), (7, .int .i64 v1)]) (fun s => match s with | v1 => []) (fun q ex fr σ => match q with | .inl _ => ex = .exit 0 ∧ fr = [(0, .im b0 (a0.map (c_str)))] ∧ σ = [] | .inr q2 => ex = .ret ∧ RetN Go.Proofs.Tryz.prog [.tmp 2] (fun v τ => Told τ v (.bool q2)) .ret fr σ) h11 ?_ ?_
 ·rintro v1 y5 H
  refine T.seq (T.region (TL.st rfl rfl rfl (o_ari rfl rfl rfl rfl) (TL.nil (thn_normal (T.seq ?_)))))
  refine T.cond (decide (v1 < (a0.length : Int))) rfl (fun h => ?_) (fun h => ?_)
  ·replace H := cond_t h H
   refine T.skip (thn_normal (T.seq (T.block (T.seq (T.region ?_)))))
   obtain ⟨e6, h7, H⟩ := bind_s H
   refine TL.st rfl rfl rfl (o_ix (f := c_str) rfl rfl tyS_9 rfl rfl h7 rfl) ?_
   refine TL.st rfl rfl rfl (o_loadRf rfl tyS_9 rfl (Nat.le_of_ble_eq_true rfl) rfl) ?_
   refine TL.st rfl rfl rfl (o_assign rfl rfl) (TL.nil (thn_normal (T.seq (T.region (TL.st rfl rfl rfl (o_move rfl rfl) ?_)))))
   obtain ⟨r8, h9, H⟩ := bind_s H
   refine TL.st rfl rfl rfl (o_callP rfl en_46 rfl rfl (.cons _ _ _ _ (.cl _ rfl) .nil) (spec_GoodName_p  h9)) ?_
   refine TL.st rfl rfl rfl (o_not rfl rfl) ?_
   refine TL.nil (thn_normal ?_)
   refine T.cond ((!r8)) rfl (fun h => ?_) (fun h => ?_)
   ·replace H := cond_t h H
    refine T.seq (T.region (TL.st rfl rfl rfl (o_assign rfl rfl) (TL.nil (thn_normal (T.ret (inB_ret (thn_ret ?_)))))))
    exact Pk.id (thn_ret ⟨.inr false, (some_i H).symm, rfl, ⟨trivial, _, (.tmp _ _ _ _ rfl .nil), (.cl _ rfl)⟩⟩)
   ·replace H := cond_f h H
    refine T.skip (inB_normal (thn_normal (T.region (TL.st rfl rfl rfl (o_ari rfl rfl rfl rfl) (TL.st rfl rfl rfl (o_move rfl rfl) (TL.nil ?_))))))
    exact Pk.of (thn_normal ⟨(IntKind.i64.wrap (v1 + 1)), (some_i H).symm, rfl, rfl⟩)
  ·replace H := cond_f h H
   refine T.exit (thn_exit ?_)
   exact Pk.of (thn_exit ⟨.inl (), (some_i H).symm, rfl, rfl, rfl⟩)
 ·rcases q10 with ⟨⟩ | q2
  ·rintro _ _ _ ⟨rfl, rfl, rfl⟩
   refine inB_here (thn_normal (T.seq (T.region (TL.st rfl rfl rfl (o_move rfl rfl) (TL.st rfl rfl rfl (o_lenL (f := c_str) rfl rfl rfl) ?_)))))
   refine TL.st rfl rfl rfl (o_ari rfl rfl rfl rfl) (TL.st rfl rfl rfl (o_move rfl rfl) (TL.gcq rfl rfl rfl (.bool _) rfl rfl (fun h => o_move rfl rfl) ?_))
   obtain ⟨r3, h4, H⟩ := bind_s H
   refine TL.gcq rfl rfl rfl (.bool _) rfl rfl (fun h => o_callP rfl en_47 rfl (evl_1 (gv h rfl)) (.cons _ _ _ _ (.imv _ _) .nil) (spec_l3Rising_p b0 (gdO_t h4 h))) ?_
   refine TL.st rfl rfl rfl (o_and rfl rfl rfl (fun k => Gd_t k) rfl) (TL.st rfl rfl rfl (o_assign rfl rfl) (TL.nil (thn_normal (T.ret ?_))))
   cases some_i H
   exact ⟨trivial, _, (.tmp _ _ _ _ rfl .nil), (.cl _ rfl)⟩
  ·rintro _ fr1 σ1 ⟨rfl, hr⟩
   refine inB_ret (thn_ret ?_)
   cases some_i H
   exact hr
theorem en_27 (us : Array Value) (w : World) : (callFunc 27 us).run Go.Proofs.Tryz.prog w = .ok (.enter 27 us) w := enters Go.Proofs.Tryz.func27 rfl rfl us w
noncomputable def spec_l1Printed_l1 (a0 : ByteArray) : Int → Option (Int ⊕ (Unit ⊕ Bool)) := fun s => match s with
  | v1 => cond (decide (v1 < (a0.size : Int))) ((idxS a0 v1).bind fun b4 => (gdO (!(decide (b4 < 32))) (idxS a0 v1)).bind fun b6 => cond (decide (b4 < 32) || decide (b6 > 126)) (some (.inr (.inr false))) (some (.inl (IntKind.i64.wrap (v1 + 1))))) (some (.inr (.inl ())))
noncomputable def spec_l1Printed (a0 : ByteArray) : Option Bool :=
  (loopO (spec_l1Printed_l1 a0) 0).bind fun q8 => (match q8 with | .inl _ => some true | .inr q2 => some q2)
theorem spec_l1Printed_p  {a0 : ByteArray} {R0 : Bool} (H : spec_l1Printed a0 = some R0) : Pure Go.Proofs.Tryz.prog 28 [.str a0] (.bool R0) := by
 refine CallT.of_TN (n := 20) Go.Proofs.Tryz.func28 rfl rfl rfl rfl ?_
 refine T.seq (T.region (TL.st rfl rfl rfl (o_assign rfl rfl) (TL.nil (thn_normal (T.seq (T.seq (T.region (TL.st rfl rfl rfl (o_assign rfl rfl) (TL.nil (thn_normal (T.block ?_)))))))))))
 obtain ⟨q8, h9, H⟩ := bind_s H
 refine T.lq (fun s => match s with | v1 => [(0, .str a0), (3, .int .i64 v1)]) (fun s => match s with | v1 => []) (fun q ex fr σ => match q with | .inl _ => ex = .exit 0 ∧ fr = [] ∧ σ = [] | .inr q2 => ex = .ret ∧ RetN Go.Proofs.Tryz.prog [.tmp 2] (fun v τ => Told τ v (.bool q2)) .ret fr σ) h9 ?_ ?_
 ·rintro v1 y3 H
  refine T.seq (T.seq (T.region (TL.st rfl rfl rfl (o_move rfl rfl) (TL.st rfl rfl rfl (o_move rfl rfl) (TL.st rfl rfl rfl (o_lenS rfl rfl rfl) ?_)))))
  refine TL.st rfl rfl rfl (o_ari rfl rfl rfl rfl) (TL.nil (thn_normal ?_))
  refine T.cond (decide (v1 < (a0.size : Int))) rfl (fun h => ?_) (fun h => ?_)
  ·replace H := cond_t h H
   refine T.skip (thn_normal (T.seq (T.block (T.seq (T.region (TL.st rfl rfl rfl (o_move rfl rfl) (TL.st rfl rfl rfl (o_move rfl rfl) ?_)))))))
   obtain ⟨b4, h5, H⟩ := bind_s H
   refine TL.st rfl rfl rfl (o_ixs rfl rfl rfl rfl h5) ?_
   refine TL.st rfl rfl rfl (o_ari rfl rfl rfl rfl) (TL.st rfl rfl rfl (o_move rfl rfl) (TL.gcq rfl rfl rfl (.bool _) rfl rfl (fun h => o_move rfl rfl) (TL.gcq rfl rfl rfl (.bool _) rfl rfl (fun h => o_move rfl rfl) ?_)))
   obtain ⟨b6, h7, H⟩ := bind_s H
   refine TL.gcq rfl rfl rfl (.bool _) rfl rfl (fun h => o_ixs rfl rfl (gv h rfl) (gv h rfl) (gdO_t h7 h)) ?_
   refine TL.gcq rfl rfl rfl (.bool _) rfl rfl (fun h => o_ari rfl (gv h rfl) rfl rfl) ?_
   refine TL.st rfl rfl rfl (o_or rfl rfl rfl rfl (fun k => Gd_t k)) (TL.nil (thn_normal ?_))
   refine T.cond ((decide (b4 < 32) || decide (b6 > 126))) rfl (fun h => ?_) (fun h => ?_)
   ·replace H := cond_t h H
    refine T.seq (T.region (TL.st rfl rfl rfl (o_assign rfl rfl) (TL.nil (thn_normal (T.ret (inB_ret (thn_ret ?_)))))))
    exact Pk.id (thn_ret ⟨.inr false, (some_i H).symm, rfl, ⟨trivial, _, (.tmp _ _ _ _ rfl .nil), (.cl _ rfl)⟩⟩)
   ·replace H := cond_f h H
    refine T.skip (inB_normal (thn_normal (T.region (TL.st rfl rfl rfl (o_move rfl rfl) (TL.st rfl rfl rfl (o_ari rfl rfl rfl rfl) (TL.st rfl rfl rfl (o_assign rfl rfl) (TL.nil ?_)))))))
    exact Pk.of (thn_normal ⟨(IntKind.i64.wrap (v1 + 1)), (some_i H).symm, rfl, rfl⟩)
  ·replace H := cond_f h H
   refine T.exit (thn_exit ?_)
   exact Pk.of (thn_exit ⟨.inl (), (some_i H).symm, rfl, rfl, rfl⟩)
 ·rcases q8 with ⟨⟩ | q2
  ·rintro _ _ _ ⟨rfl, rfl, rfl⟩
   refine inB_here (thn_normal (T.seq (T.region (TL.st rfl rfl rfl (o_assign rfl rfl) (TL.nil (thn_normal (T.ret ?_)))))))
   cases some_i H
   exact ⟨trivial, _, (.tmp _ _ _ _ rfl .nil), (.cl _ rfl)⟩
  ·rintro _ fr1 σ1 ⟨rfl, hr⟩
   refine inB_ret (thn_ret ?_)
   cases some_i H
   exact hr
theorem en_28 (us : Array Value) (w : World) : (callFunc 28 us).run Go.Proofs.Tryz.prog w = .ok (.enter 28 us) w := enters Go.Proofs.Tryz.func28 rfl rfl us w
noncomputable def spec_GoodServer_l3 (e4 : T_impl_Client) : Int → Option (Int ⊕ (Unit ⊕ Bool)) := fun s => match s with
  | v16 => cond (decide (v16 < (e4.Kinds_.length : Int))) ((idx e4.Kinds_ v16).bind fun e19 => cond (decide (e19 < 1) || decide (e19 > 4)) (some (.inr (.inr false))) (some (.inl (IntKind.i64.wrap (v16 + 1))))) (some (.inr (.inl ())))
noncomputable def spec_GoodServer_l2 (e4 : T_impl_Client) : Int → Option (Int ⊕ (Unit ⊕ Bool)) := fun s => match s with
  | v14 => cond (decide (v14 < (e4.Redirects_.length : Int))) ((idx e4.Redirects_ v14).bind fun e24 => (gdO (!(decide ((e24.size : Int) < 1) || decide ((e24.size : Int) > 200))) (spec_l1Printed e24)).bind fun r26 => cond ((decide ((e24.size : Int) < 1) || decide ((e24.size : Int) > 200)) || (!r26)) (some (.inr (.inr false))) (some (.inl (IntKind.i64.wrap (v14 + 1))))) (some (.inr (.inl ())))
noncomputable def spec_GoodServer_l1 (a0 : T_impl_Server) : Int → Option (Int ⊕ (Unit ⊕ Bool)) := fun s => match s with
  | v1 => cond (decide (v1 < (a0.Clients_.length : Int))) ((idx a0.Clients_ v1).bind fun e4 => (spec_l7Id e4.Id_).bind fun r6 => (gdO ((!(!r6)) && decide (v1 > 0)) (idx a0.Clients_ (IntKind.i64.wrap (v1 - 1)))).bind fun e8 => (gdO ((!(!r6)) && decide (v1 > 0)) (spec_l1CmpText e8.Id_ e4.Id_)).bind fun r10 => (gdO (!((((!r6) || (decide (v1 > 0) && decide (r10 ≥ 0))) || (((e4.Secret_.length : Int) != 0) && ((e4.Secret_.length : Int) != 16))) || decide ((e4.Redirects_.length : Int) > 5))) (spec_l18Scopes e4.Scopes_)).bind fun r12 => cond ((((((!r6) || (decide (v1 > 0) && decide (r10 ≥ 0))) || (((e4.Secret_.length : Int) != 0) && ((e4.Secret_.length : Int) != 16))) || decide ((e4.Redirects_.length : Int) > 5)) || (!r12)) || decide ((e4.Kinds_.length : Int) > 4)) (some (.inr (.inr false))) ((loopO (spec_GoodServer_l2 e4) 0).bind fun q28 => (match q28 with | .inl _ => (loopO (spec_GoodServer_l3 e4) 0).bind fun q21 => (match q21 with | .inl _ => some (.inl (IntKind.i64.wrap (v1 + 1))) | .inr q17 => some (.inr (.inr q17))) | .inr q15 => some (.inr (.inr q15))))) (some (.inr (.inl ())))
noncomputable def spec_GoodServer (a0 : T_impl_Server) : Option Bool :=
  (loopO (spec_GoodServer_l1 a0) 0).bind fun q30 => (match q30 with | .inl _ => some (((((decide ((a0.Clients_.length : Int) ≤ 20) && decide ((a0.Key_.length : Int) ≤ 64)) && decide (a0.Short_ ≥ 1)) && decide (a0.Short_ ≤ 1000000)) && decide (a0.Long_ ≥ 1)) && decide (a0.Long_ ≤ 1000000)) | .inr q2 => some q2)
theorem spec_GoodServer_p (b0 : Bool) {a0 : T_impl_Server} {R0 : Bool} (H : spec_GoodServer a0 = some R0) : Pure Go.Proofs.Tryz.prog 13 [.agg (c_T_impl_Server b0 a0)] (.bool R0) := by
 refine CallT.of_TN (n := 134) Go.Proofs.Tryz.func13 rfl rfl rfl rfl ?_
 refine T.seq (T.region (TL.st rfl rfl rfl (o_box rfl rfl rfl) (TL.st rfl rfl rfl (o_assign rfl rfl) (TL.nil (thn_normal (T.seq (T.seq (T.region (TL.st rfl rfl rfl (o_fieldAddr rfl rfl rfl tyS_23 (by decide) rfl rfl ⟨_, rfl, Nat.le_of_ble_eq_true rfl⟩) ?_)))))))))
 refine TL.st rfl rfl rfl (o_loadBx rfl tyS_23 rfl rfl (Nat.le_of_ble_eq_true rfl) rfl) ?_
 refine TL.st rfl rfl rfl (o_lenL (f := c_T_impl_Client false) rfl rfl rfl) ?_
 refine TL.st rfl rfl rfl (o_move rfl rfl) (TL.nil (thn_normal (T.block ?_)))
 obtain ⟨q30, h31, H⟩ := bind_s H
 refine T.lq (fun s => match s with | v1 => [(1, .bx 0 0), (10, .im b0 (a0.Clients_.map (c_T_impl_Client false))), (11, .int .i64 (a0.Clients_.length : Int)), (12, .int .i64 v1)]) (fun s => match s with | v1 => [.box (c_T_impl_Server b0 a0)]) (fun q ex fr σ => match q with | .inl _ => ex = .exit 0 ∧ fr = [(1, .bx 0 0)] ∧ σ = [.box (c_T_impl_Server b0 a0)] | .inr q2 => ex = .ret ∧ RetN Go.Proofs.Tryz.prog [.tmp 2] (fun v τ => Told τ v (.bool q2)) .ret fr σ) h31 ?_ ?_
 ·rintro v1 y3 H
  refine T.seq (T.region (TL.st rfl rfl rfl (o_ari rfl rfl rfl rfl) (TL.nil (thn_normal (T.seq ?_)))))
  refine T.cond (decide (v1 < (a0.Clients_.length : Int))) rfl (fun h => ?_) (fun h => ?_)
  ·replace H := cond_t h H
   refine T.skip (thn_normal (T.seq (T.block (T.seq (T.region (TL.st rfl rfl rfl (o_move rfl rfl) ?_))))))
   obtain ⟨e4, h5, H⟩ := bind_s H
   refine TL.st rfl rfl rfl (o_ix (f := c_T_impl_Client false) rfl rfl tyS_50 rfl rfl h5 rfl) ?_
   refine TL.st rfl rfl rfl (o_loadRf rfl tyS_50 rfl (Nat.le_of_ble_eq_true rfl) rfl) ?_
   refine TL.st rfl rfl rfl (o_alloc rfl ⟨_, rfl, rfl⟩) (TL.st rfl rfl rfl (o_assign rfl rfl) (TL.sn rfl rfl (o_storeBx rfl tyS_50 rfl rfl rfl rfl (Nat.le_of_ble_eq_true rfl) rfl) ?_))
   refine TL.nil (thn_normal (T.seq (T.seq (T.drawn rfl ?_))))
   refine TD.rs rfl rfl (o_fieldAddr rfl rfl rfl tyS_9 (by decide) rfl rfl ⟨_, rfl, Nat.le_of_ble_eq_true rfl⟩) ?_
   refine TD.rs rfl rfl (o_loadBx rfl tyS_9 rfl rfl (Nat.le_of_ble_eq_true rfl) rfl) ?_
   obtain ⟨r6, h7, H⟩ := bind_s H
   refine TD.qs rfl rfl (fun _ => o_callP rfl en_25 rfl rfl (.cons _ _ _ _ (.cl _ rfl) .nil) (spec_l7Id_p  h7)) ?_
   refine TD.qs rfl rfl (fun _ => o_not rfl rfl) ?_
   refine TD.qs rfl rfl (fun _ => o_move rfl rfl) (TD.cq rfl rfl rfl (.bool _) rfl (fun h _ => o_move rfl rfl) ?_)
   refine TD.cq rfl rfl rfl (.bool _) rfl (fun h _ => o_ari rfl (gv h rfl) rfl rfl) ?_
   refine TD.cq rfl rfl rfl (.bool _) rfl (fun h _ => o_move rfl (gv h rfl)) ?_
   refine TD.cr rfl rfl rfl (.gd _ _) rfl (fun h => o_fieldAddr rfl rfl rfl tyS_23 (by decide) rfl rfl ⟨_, rfl, Nat.le_of_ble_eq_true rfl⟩) ?_
   refine TD.cr rfl rfl rfl (.gd _ _) rfl (fun h => o_loadBx rfl tyS_23 (gv h rfl) rfl (Nat.le_of_ble_eq_true rfl) rfl) ?_
   refine TD.cq rfl rfl rfl (.gd _ _) rfl (fun h _ => o_move rfl rfl) ?_
   refine TD.cq rfl rfl rfl (.gd _ _) rfl (fun h _ => o_ari rfl (gv h rfl) rfl rfl) ?_
   obtain ⟨e8, h9, H⟩ := bind_s H
   refine TD.cq rfl rfl rfl (.gd _ _) rfl (fun h _ => o_ix (f := c_T_impl_Client false) rfl rfl tyS_50 (gv h rfl) (gv h rfl) (gdO_t h9 h) rfl) ?_
   refine TD.cq rfl rfl rfl (.gd _ _) rfl (fun h _ => o_fieldAddr rfl rfl rfl tyS_9 (by decide) (gv h rfl) rfl trivial) ?_
   refine TD.cq rfl rfl rfl (.gd _ _) rfl (fun h _ => o_loadRf rfl tyS_9 (gv h rfl) (Nat.le_of_ble_eq_true rfl) rfl) ?_
   refine TD.cr rfl rfl rfl (.gd _ _) rfl (fun h => o_fieldAddr rfl rfl rfl tyS_9 (by decide) rfl rfl ⟨_, rfl, Nat.le_of_ble_eq_true rfl⟩) ?_
   refine TD.cr rfl rfl rfl (.gd _ _) rfl (fun h => o_loadBx rfl tyS_9 (gv h rfl) rfl (Nat.le_of_ble_eq_true rfl) rfl) ?_
   obtain ⟨r10, h11, H⟩ := bind_s H
   refine TD.cq rfl rfl rfl (.gd _ _) rfl (fun h _ => o_callP rfl en_26 rfl (evl_2 (gv h rfl) (gv h rfl)) (.cons _ _ _ _ (.cl _ rfl) (.cons _ _ _ _ (.cl _ rfl) .nil)) (spec_l1CmpText_p  (gdO_t h11 h))) ?_
   refine TD.cq rfl rfl rfl (.gd _ _) rfl (fun h _ => o_ari rfl (gv h rfl) rfl rfl) ?_
   refine TD.cq rfl rfl rfl (.bool _) rfl (fun h _ => o_and rfl (gv h rfl) rfl (fun k => Gd_t (andi h k)) rfl) ?_
   refine TD.qs rfl rfl (fun _ => o_or rfl rfl rfl rfl (fun k => Gd_t k)) ?_
   refine TD.qs rfl rfl (fun _ => o_move rfl rfl) (TD.cr rfl rfl rfl (.bool _) rfl (fun h => o_fieldAddr rfl rfl rfl tyS_22 (by decide) rfl rfl ⟨_, rfl, Nat.le_of_ble_eq_true rfl⟩) ?_)
   refine TD.cr rfl rfl rfl (.bool _) rfl (fun h => o_loadBx rfl tyS_22 (gv h rfl) rfl (Nat.le_of_ble_eq_true rfl) rfl) ?_
   refine TD.cq rfl rfl rfl (.bool _) rfl (fun h _ => o_lenL (f := c_int .u8) rfl rfl (gv h rfl)) ?_
   refine TD.cq rfl rfl rfl (.bool _) rfl (fun h _ => o_ari rfl (gv h rfl) rfl rfl) ?_
   refine TD.cq rfl rfl rfl (.bool _) rfl (fun h _ => o_move rfl (gv h rfl)) ?_
   refine TD.cr rfl rfl rfl (.gd _ _) rfl (fun h => o_fieldAddr rfl rfl rfl tyS_22 (by decide) rfl rfl ⟨_, rfl, Nat.le_of_ble_eq_true rfl⟩) ?_
   refine TD.cr rfl rfl rfl (.gd _ _) rfl (fun h => o_loadBx rfl tyS_22 (gv h rfl) rfl (Nat.le_of_ble_eq_true rfl) rfl) ?_
   refine TD.cq rfl rfl rfl (.gd _ _) rfl (fun h _ => o_lenL (f := c_int .u8) rfl rfl (gv h rfl)) ?_
   refine TD.cq rfl rfl rfl (.gd _ _) rfl (fun h _ => o_ari rfl (gv h rfl) rfl rfl) ?_
   refine TD.cq rfl rfl rfl (.bool _) rfl (fun h _ => o_and rfl (gv h rfl) rfl (fun k => Gd_t (andi h k)) rfl) ?_
   refine TD.qs rfl rfl (fun _ => o_or rfl rfl rfl rfl (fun k => Gd_t k)) ?_
   refine TD.qs rfl rfl (fun _ => o_move rfl rfl) (TD.cr rfl rfl rfl (.bool _) rfl (fun h => o_fieldAddr rfl rfl rfl tyS_30 (by decide) rfl rfl ⟨_, rfl, Nat.le_of_ble_eq_true rfl⟩) ?_)
   refine TD.cr rfl rfl rfl (.bool _) rfl (fun h => o_loadBx rfl tyS_30 (gv h rfl) rfl (Nat.le_of_ble_eq_true rfl) rfl) ?_
   refine TD.cq rfl rfl rfl (.bool _) rfl (fun h _ => o_lenL (f := c_str) rfl rfl (gv h rfl)) ?_
   refine TD.cq rfl rfl rfl (.bool _) rfl (fun h _ => o_ari rfl (gv h rfl) rfl rfl) ?_
   refine TD.qs rfl rfl (fun _ => o_or rfl rfl rfl rfl (fun k => Gd_t k)) ?_
   refine TD.qs rfl rfl (fun _ => o_move rfl rfl) (TD.cr rfl rfl rfl (.bool _) rfl (fun h => o_fieldAddr rfl rfl rfl tyS_30 (by decide) rfl rfl ⟨_, rfl, Nat.le_of_ble_eq_true rfl⟩) ?_)
   refine TD.cr rfl rfl rfl (.bool _) rfl (fun h => o_loadBx rfl tyS_30 (gv h rfl) rfl (Nat.le_of_ble_eq_true rfl) rfl) ?_
   obtain ⟨r12, h13, H⟩ := bind_s H
   refine TD.cq rfl rfl rfl (.bool _) rfl (fun h _ => o_callP rfl en_27 rfl (evl_1 (gv h rfl)) (.cons _ _ _ _ (.cl _ rfl) .nil) (spec_l18Scopes_p false (gdO_t h13 h))) ?_
   refine TD.cq rfl rfl rfl (.bool _) rfl (fun h _ => o_not rfl (gv h rfl)) ?_
   refine TD.qs rfl rfl (fun _ => o_or rfl rfl rfl rfl (fun k => Gd_t k)) ?_
   refine TD.qs rfl rfl (fun _ => o_move rfl rfl) (TD.cr rfl rfl rfl (.bool _) rfl (fun h => o_fieldAddr rfl rfl rfl tyS_29 (by decide) rfl rfl ⟨_, rfl, Nat.le_of_ble_eq_true rfl⟩) ?_)
   refine TD.cr rfl rfl rfl (.bool _) rfl (fun h => o_loadBx rfl tyS_29 (gv h rfl) rfl (Nat.le_of_ble_eq_true rfl) rfl) ?_
   refine TD.cq rfl rfl rfl (.bool _) rfl (fun h _ => o_lenL (f := c_int .i64) rfl rfl (gv h rfl)) ?_
   refine TD.cq rfl rfl rfl (.bool _) rfl (fun h _ => o_ari rfl (gv h rfl) rfl rfl) ?_
   refine TD.qs rfl rfl (fun _ => o_or rfl rfl rfl rfl (fun k => Gd_t k)) ?_
   refine TD.nil ⟨rfl, ?_⟩
   refine thn_normal ?_
   refine T.cond (((((((!r6) || (decide (v1 > 0) && decide (r10 ≥ 0))) || (((e4.Secret_.length : Int) != 0) && ((e4.Secret_.length : Int) != 16))) || decide ((e4.Redirects_.length : Int) > 5)) || (!r12)) || decide ((e4.Kinds_.length : Int) > 4))) rfl (fun h => ?_) (fun h => ?_)
   ·replace H := cond_t h H
    refine T.seq (T.region (TL.st rfl rfl rfl (o_assign rfl rfl) (TL.nil (thn_normal (T.ret (thn_ret (inB_ret (thn_ret ?_))))))))
    exact Pk.id (thn_ret ⟨.inr false, (some_i H).symm, rfl, ⟨trivial, _, (.tmp _ _ _ _ rfl .nil), (.cl _ rfl)⟩⟩)
   ·replace H := cond_f h H
    refine T.skip (thn_normal (T.seq (T.seq (T.region (TL.st rfl rfl rfl (o_fieldAddr rfl rfl rfl tyS_30 (by decide) rfl rfl ⟨_, rfl, Nat.le_of_ble_eq_true rfl⟩) ?_)))))
    refine TL.st rfl rfl rfl (o_loadBx rfl tyS_30 rfl rfl (Nat.le_of_ble_eq_true rfl) rfl) ?_
    refine TL.st rfl rfl rfl (o_lenL (f := c_str) rfl rfl rfl) ?_
    refine TL.st rfl rfl rfl (o_move rfl rfl) (TL.nil (thn_normal (T.block ?_)))
    obtain ⟨q28, h29, H⟩ := bind_s H
    refine T.lq (fun s => match s with | v14 => [(1, .bx 0 0), (4, .bx 1 0), (10, .im b0 (a0.Clients_.map (c_T_impl_Client false))), (11, .int .i64 (a0.Clients_.length : Int)), (12, .int .i64 v1), (69, .im false (e4.Redirects_.map (c_str))), (70, .int .i64 (e4.Redirects_.length : Int)), (71, .int .i64 v14)]) (fun s => match s with | v14 => [.box (c_T_impl_Server b0 a0), .box (c_T_impl_Client false e4)]) (fun q ex fr σ => match q with | .inl _ => ex = .exit 2 ∧ fr = [(1, .bx 0 0), (4, .bx 1 0), (10, .im b0 (a0.Clients_.map (c_T_impl_Client false))), (11, .int .i64 (a0.Clients_.length : Int)), (12, .int .i64 v1)] ∧ σ = [.box (c_T_impl_Server b0 a0), .box (c_T_impl_Client false e4)] | .inr q15 => ex = .ret ∧ RetN Go.Proofs.Tryz.prog [.tmp 2] (fun v τ => Told τ v (.bool q15)) .ret fr σ) h29 ?_ ?_
    ·rintro v14 y23 H
     refine T.seq (T.region (TL.st rfl rfl rfl (o_ari rfl rfl rfl rfl) (TL.nil (thn_normal (T.seq ?_)))))
     refine T.cond (decide (v14 < (e4.Redirects_.length : Int))) rfl (fun h => ?_) (fun h => ?_)
     ·replace H := cond_t h H
      refine T.skip (thn_normal (T.seq (T.block (T.seq (T.region ?_)))))
      obtain ⟨e24, h25, H⟩ := bind_s H
      refine TL.st rfl rfl rfl (o_ix (f := c_str) rfl rfl tyS_9 rfl rfl h25 rfl) ?_
      refine TL.st rfl rfl rfl (o_loadRf rfl tyS_9 rfl (Nat.le_of_ble_eq_true rfl) rfl) ?_
      refine TL.st rfl rfl rfl (o_assign rfl rfl) (TL.nil (thn_normal (T.seq (T.region (TL.st rfl rfl rfl (o_move rfl rfl) (TL.st rfl rfl rfl (o_lenS rfl rfl rfl) ?_))))))
      refine TL.st rfl rfl rfl (o_ari rfl rfl rfl rfl) (TL.st rfl rfl rfl (o_move rfl rfl) (TL.gcq rfl rfl rfl (.bool _) rfl rfl (fun h => o_move rfl rfl) (TL.gcq rfl rfl rfl (.bool _) rfl rfl (fun h => o_lenS rfl rfl (gv h rfl)) ?_)))
      refine TL.gcq rfl rfl rfl (.bool _) rfl rfl (fun h => o_ari rfl (gv h rfl) rfl rfl) ?_
      refine TL.st rfl rfl rfl (o_or rfl rfl rfl rfl (fun k => Gd_t k)) (TL.st rfl rfl rfl (o_move rfl rfl) (TL.gcq rfl rfl rfl (.bool _) rfl rfl (fun h => o_move rfl rfl) ?_))
      obtain ⟨r26, h27, H⟩ := bind_s H
      refine TL.gcq rfl rfl rfl (.bool _) rfl rfl (fun h => o_callP rfl en_28 rfl (evl_1 (gv h rfl)) (.cons _ _ _ _ (.cl _ rfl) .nil) (spec_l1Printed_p  (gdO_t h27 h))) ?_
      refine TL.gcq rfl rfl rfl (.bool _) rfl rfl (fun h => o_not rfl (gv h rfl)) ?_
      refine TL.st rfl rfl rfl (o_or rfl rfl rfl rfl (fun k => Gd_t k)) (TL.nil (thn_normal ?_))
      refine T.cond (((decide ((e24.size : Int) < 1) || decide ((e24.size : Int) > 200)) || (!r26))) rfl (fun h => ?_) (fun h => ?_)
      ·replace H := cond_t h H
       refine T.seq (T.region (TL.st rfl rfl rfl (o_assign rfl rfl) (TL.nil (thn_normal (T.ret (inB_ret (thn_ret ?_)))))))
       exact Pk.id (thn_ret ⟨.inr false, (some_i H).symm, rfl, ⟨trivial, _, (.tmp _ _ _ _ rfl .nil), (.cl _ rfl)⟩⟩)
      ·replace H := cond_f h H
       refine T.skip (inB_normal (thn_normal (T.region (TL.st rfl rfl rfl (o_ari rfl rfl rfl rfl) (TL.st rfl rfl rfl (o_move rfl rfl) (TL.nil ?_))))))
       exact Pk.of (thn_normal ⟨(IntKind.i64.wrap (v14 + 1)), (some_i H).symm, rfl, rfl⟩)
     ·replace H := cond_f h H
      refine T.exit (thn_exit ?_)
      exact Pk.of (thn_exit ⟨.inl (), (some_i H).symm, rfl, rfl, rfl⟩)
    ·rcases q28 with ⟨⟩ | q15
     ·rintro _ _ _ ⟨rfl, rfl, rfl⟩
      refine inB_here (thn_normal (T.seq (T.region (TL.st rfl rfl rfl (o_fieldAddr rfl rfl rfl tyS_29 (by decide) rfl rfl ⟨_, rfl, Nat.le_of_ble_eq_true rfl⟩) ?_))))
      refine TL.st rfl rfl rfl (o_loadBx rfl tyS_29 rfl rfl (Nat.le_of_ble_eq_true rfl) rfl) ?_
      refine TL.st rfl rfl rfl (o_lenL (f := c_int .i64) rfl rfl rfl) ?_
      refine TL.st rfl rfl rfl (o_move rfl rfl) (TL.nil (thn_normal (T.block ?_)))
      obtain ⟨q21, h22, H⟩ := bind_s H
      refine T.lq (fun s => match s with | v16 => [(1, .bx 0 0), (10, .im b0 (a0.Clients_.map (c_T_impl_Client false))), (11, .int .i64 (a0.Clients_.length : Int)), (12, .int .i64 v1), (90, .im false (e4.Kinds_.map (c_int .i64))), (91, .int .i64 (e4.Kinds_.length : Int)), (92, .int .i64 v16)]) (fun s => match s with | v16 => [.box (c_T_impl_Server b0 a0), .box (c_T_impl_Client false e4)]) (fun q ex fr σ => match q with | .inl _ => ex = .exit 4 ∧ fr = [(1, .bx 0 0), (10, .im b0 (a0.Clients_.map (c_T_impl_Client false))), (11, .int .i64 (a0.Clients_.length : Int)), (12, .int .i64 v1)] ∧ σ = [.box (c_T_impl_Server b0 a0), .box (c_T_impl_Client false e4)] | .inr q17 => ex = .ret ∧ RetN Go.Proofs.Tryz.prog [.tmp 2] (fun v τ => Told τ v (.bool q17)) .ret fr σ) h22 ?_ ?_
      ·rintro v16 y18 H
       refine T.seq (T.region (TL.st rfl rfl rfl (o_ari rfl rfl rfl rfl) (TL.nil (thn_normal (T.seq ?_)))))
       refine T.cond (decide (v16 < (e4.Kinds_.length : Int))) rfl (fun h => ?_) (fun h => ?_)
       ·replace H := cond_t h H
        refine T.skip (thn_normal (T.seq (T.block (T.seq (T.region ?_)))))
        obtain ⟨e19, h20, H⟩ := bind_s H
        refine TL.st rfl rfl rfl (o_ix (f := c_int .i64) rfl rfl tyS_3 rfl rfl h20 rfl) ?_
        refine TL.st rfl rfl rfl (o_loadRf rfl tyS_3 rfl (Nat.le_of_ble_eq_true rfl) rfl) ?_
        refine TL.st rfl rfl rfl (o_assign rfl rfl) (TL.nil (thn_normal (T.seq (T.region (TL.st rfl rfl rfl (o_move rfl rfl) (TL.st rfl rfl rfl (o_ari rfl rfl rfl rfl) (TL.st rfl rfl rfl (o_move rfl rfl) (TL.gcq rfl rfl rfl (.bool _) rfl rfl (fun h => o_move rfl rfl) (TL.gcq rfl rfl rfl (.bool _) rfl rfl (fun h => o_ari rfl (gv h rfl) rfl rfl) ?_)))))))))
        refine TL.st rfl rfl rfl (o_or rfl rfl rfl rfl (fun k => Gd_t k)) (TL.nil (thn_normal ?_))
        refine T.cond ((decide (e19 < 1) || decide (e19 > 4))) rfl (fun h => ?_) (fun h => ?_)
        ·replace H := cond_t h H
         refine T.seq (T.region (TL.st rfl rfl rfl (o_assign rfl rfl) (TL.nil (thn_normal (T.ret (inB_ret (thn_ret ?_)))))))
         exact Pk.id (thn_ret ⟨.inr false, (some_i H).symm, rfl, ⟨trivial, _, (.tmp _ _ _ _ rfl .nil), (.cl _ rfl)⟩⟩)
        ·replace H := cond_f h H
         refine T.skip (inB_normal (thn_normal (T.region (TL.st rfl rfl rfl (o_ari rfl rfl rfl rfl) (TL.st rfl rfl rfl (o_move rfl rfl) (TL.nil ?_))))))
         exact Pk.of (thn_normal ⟨(IntKind.i64.wrap (v16 + 1)), (some_i H).symm, rfl, rfl⟩)
       ·replace H := cond_f h H
        refine T.exit (thn_exit ?_)
        exact Pk.of (thn_exit ⟨.inl (), (some_i H).symm, rfl, rfl, rfl⟩)
      ·rcases q21 with ⟨⟩ | q17
       ·rintro _ _ _ ⟨rfl, rfl, rfl⟩
        refine inB_here (inB_normal (thn_normal (T.region (TL.st rfl rfl rfl (o_ari rfl rfl rfl rfl) (TL.st rfl rfl rfl (o_move rfl rfl) (TL.nil ?_))))))
        exact Pk.of (thn_normal ⟨(IntKind.i64.wrap (v1 + 1)), (some_i H).symm, rfl, rfl⟩)
       ·rintro _ fr1 σ1 ⟨rfl, hr⟩
        refine inB_ret (inB_ret (thn_ret ?_))
        exact Pk.id (thn_ret ⟨.inr q17, (some_i H).symm, rfl, hr⟩)
     ·rintro _ fr1 σ1 ⟨rfl, hr⟩
      refine inB_ret (thn_ret (inB_ret (thn_ret ?_)))
      exact Pk.id (thn_ret ⟨.inr q15, (some_i H).symm, rfl, hr⟩)
  ·replace H := cond_f h H
   refine T.exit (thn_exit ?_)
   exact Pk.of (thn_exit ⟨.inl (), (some_i H).symm, rfl, rfl, rfl⟩)
 ·rcases q30 with ⟨⟩ | q2
  ·rintro _ _ _ ⟨rfl, rfl, rfl⟩
   refine inB_here (thn_normal (T.seq (T.region (TL.st rfl rfl rfl (o_fieldAddr rfl rfl rfl tyS_23 (by decide) rfl rfl ⟨_, rfl, Nat.le_of_ble_eq_true rfl⟩) ?_))))
   refine TL.st rfl rfl rfl (o_loadBx rfl tyS_23 rfl rfl (Nat.le_of_ble_eq_true rfl) rfl) ?_
   refine TL.st rfl rfl rfl (o_lenL (f := c_T_impl_Client false) rfl rfl rfl) ?_
   refine TL.st rfl rfl rfl (o_ari rfl rfl rfl rfl) (TL.st rfl rfl rfl (o_move rfl rfl) (TL.gcq rfl rfl rfl (.bool _) rfl rfl (fun h => o_fieldAddr rfl rfl rfl tyS_22 (by decide) rfl rfl ⟨_, rfl, Nat.le_of_ble_eq_true rfl⟩) ?_))
   refine TL.gcq rfl rfl rfl (.bool _) rfl rfl (fun h => o_loadBx rfl tyS_22 (gv h rfl) rfl (Nat.le_of_ble_eq_true rfl) rfl) ?_
   refine TL.gcq rfl rfl rfl (.bool _) rfl rfl (fun h => o_lenL (f := c_int .u8) rfl rfl (gv h rfl)) ?_
   refine TL.gcq rfl rfl rfl (.bool _) rfl rfl (fun h => o_ari rfl (gv h rfl) rfl rfl) ?_
   refine TL.st rfl rfl rfl (o_and rfl rfl rfl (fun k => Gd_t k) rfl) (TL.st rfl rfl rfl (o_move rfl rfl) (TL.gcq rfl rfl rfl (.bool _) rfl rfl (fun h => o_fieldAddr rfl rfl rfl tyS_3 (by decide) rfl rfl ⟨_, rfl, Nat.le_of_ble_eq_true rfl⟩) ?_))
   refine TL.gcq rfl rfl rfl (.bool _) rfl rfl (fun h => o_loadBx rfl tyS_3 (gv h rfl) rfl (Nat.le_of_ble_eq_true rfl) rfl) ?_
   refine TL.gcq rfl rfl rfl (.bool _) rfl rfl (fun h => o_ari rfl (gv h rfl) rfl rfl) ?_
   refine TL.st rfl rfl rfl (o_and rfl rfl rfl (fun k => Gd_t k) rfl) (TL.st rfl rfl rfl (o_move rfl rfl) (TL.gcq rfl rfl rfl (.bool _) rfl rfl (fun h => o_fieldAddr rfl rfl rfl tyS_3 (by decide) rfl rfl ⟨_, rfl, Nat.le_of_ble_eq_true rfl⟩) ?_))
   refine TL.gcq rfl rfl rfl (.bool _) rfl rfl (fun h => o_loadBx rfl tyS_3 (gv h rfl) rfl (Nat.le_of_ble_eq_true rfl) rfl) ?_
   refine TL.gcq rfl rfl rfl (.bool _) rfl rfl (fun h => o_ari rfl (gv h rfl) rfl rfl) ?_
   refine TL.st rfl rfl rfl (o_and rfl rfl rfl (fun k => Gd_t k) rfl) (TL.st rfl rfl rfl (o_move rfl rfl) (TL.gcq rfl rfl rfl (.bool _) rfl rfl (fun h => o_fieldAddr rfl rfl rfl tyS_3 (by decide) rfl rfl ⟨_, rfl, Nat.le_of_ble_eq_true rfl⟩) ?_))
   refine TL.gcq rfl rfl rfl (.bool _) rfl rfl (fun h => o_loadBx rfl tyS_3 (gv h rfl) rfl (Nat.le_of_ble_eq_true rfl) rfl) ?_
   refine TL.gcq rfl rfl rfl (.bool _) rfl rfl (fun h => o_ari rfl (gv h rfl) rfl rfl) ?_
   refine TL.st rfl rfl rfl (o_and rfl rfl rfl (fun k => Gd_t k) rfl) (TL.st rfl rfl rfl (o_move rfl rfl) (TL.gcq rfl rfl rfl (.bool _) rfl rfl (fun h => o_fieldAddr rfl rfl rfl tyS_3 (by decide) rfl rfl ⟨_, rfl, Nat.le_of_ble_eq_true rfl⟩) ?_))
   refine TL.gcq rfl rfl rfl (.bool _) rfl rfl (fun h => o_loadBx rfl tyS_3 (gv h rfl) rfl (Nat.le_of_ble_eq_true rfl) rfl) ?_
   refine TL.gcq rfl rfl rfl (.bool _) rfl rfl (fun h => o_ari rfl (gv h rfl) rfl rfl) ?_
   refine TL.st rfl rfl rfl (o_and rfl rfl rfl (fun k => Gd_t k) rfl) (TL.st rfl rfl rfl (o_assign rfl rfl) (TL.nil (thn_normal (T.ret ?_))))
   cases some_i H
   exact ⟨trivial, _, (.tmp _ _ _ _ rfl .nil), (.cl _ rfl)⟩
  ·rintro _ fr1 σ1 ⟨rfl, hr⟩
   refine inB_ret (thn_ret ?_)
   cases some_i H
   exact hr
theorem en_13 (us : Array Value) (w : World) : (callFunc 13 us).run Go.Proofs.Tryz.prog w = .ok (.enter 13 us) w := enters Go.Proofs.Tryz.func13 rfl rfl us w
noncomputable def spec_l18Kind_l1 (a0 : T_impl_Client) (a1 : Int) : Int → Option (Int ⊕ (Unit ⊕ Bool)) := fun s => match s with
  | v1 => cond (decide (v1 < (a0.Kinds_.length : Int))) ((idx a0.Kinds_ v1).bind fun e4 => cond (e4 == a1) (some (.inr (.inr true))) (some (.inl (IntKind.i64.wrap (v1 + 1))))) (some (.inr (.inl ())))
noncomputable def spec_l18Kind (a0 : T_impl_Client) (a1 : Int) : Option Bool :=
  (loopO (spec_l18Kind_l1 a0 a1) 0).bind fun q6 => (match q6 with | .inl _ => some false | .inr q2 => some q2)
theorem spec_l18Kind_p (b0 : Bool) {a0 : T_impl_Client} {a1 : Int} {R0 : Bool} (H : spec_l18Kind a0 a1 = some R0) : Pure Go.Proofs.Tryz.prog 14 [.agg (c_T_impl_Client b0 a0), .int .i64 a1] (.bool R0) := by
 refine CallT.of_TN (n := 18) Go.Proofs.Tryz.func14 rfl rfl rfl rfl ?_
 refine T.seq (T.region (TL.st rfl rfl rfl (o_box rfl rfl rfl) (TL.st rfl rfl rfl (o_assign rfl rfl) (TL.nil (thn_normal (T.seq (T.seq (T.region (TL.st rfl rfl rfl (o_fieldAddr rfl rfl rfl tyS_29 (by decide) rfl rfl ⟨_, rfl, Nat.le_of_ble_eq_true rfl⟩) ?_)))))))))
 refine TL.st rfl rfl rfl (o_loadBx rfl tyS_29 rfl rfl (Nat.le_of_ble_eq_true rfl) rfl) ?_
 refine TL.st rfl rfl rfl (o_lenL (f := c_int .i64) rfl rfl rfl) ?_
 refine TL.st rfl rfl rfl (o_move rfl rfl) (TL.nil (thn_normal (T.block ?_)))
 obtain ⟨q6, h7, H⟩ := bind_s H
 refine T.lq (fun s => match s with | v1 => [(1, .int .i64 a1), (8, .im b0 (a0.Kinds_.map (c_int .i64))), (9, .int .i64 (a0.Kinds_.length : Int)), (10, .int .i64 v1)]) (fun s => match s with | v1 => [.box (c_T_impl_Client b0 a0)]) (fun q ex fr σ => match q with | .inl _ => ex = .exit 0 ∧ fr = [] ∧ σ = [.box (c_T_impl_Client b0 a0)] | .inr q2 => ex = .ret ∧ RetN Go.Proofs.Tryz.prog [.tmp 4] (fun v τ => Told τ v (.bool q2)) .ret fr σ) h7 ?_ ?_
 ·rintro v1 y3 H
  refine T.seq (T.region (TL.st rfl rfl rfl (o_ari rfl rfl rfl rfl) (TL.nil (thn_normal (T.seq ?_)))))
  refine T.cond (decide (v1 < (a0.Kinds_.length : Int))) rfl (fun h => ?_) (fun h => ?_)
  ·replace H := cond_t h H
   refine T.skip (thn_normal (T.seq (T.block (T.seq (T.region ?_)))))
   obtain ⟨e4, h5, H⟩ := bind_s H
   refine TL.st rfl rfl rfl (o_ix (f := c_int .i64) rfl rfl tyS_3 rfl rfl h5 rfl) ?_
   refine TL.st rfl rfl rfl (o_loadRf rfl tyS_3 rfl (Nat.le_of_ble_eq_true rfl) rfl) ?_
   refine TL.st rfl rfl rfl (o_assign rfl rfl) (TL.nil (thn_normal (T.seq (T.region (TL.st rfl rfl rfl (o_move rfl rfl) (TL.st rfl rfl rfl (o_move rfl rfl) (TL.st rfl rfl rfl (o_ari rfl rfl rfl rfl) (TL.nil (thn_normal ?_)))))))))
   refine T.cond ((e4 == a1)) rfl (fun h => ?_) (fun h => ?_)
   ·replace H := cond_t h H
    refine T.seq (T.region (TL.st rfl rfl rfl (o_assign rfl rfl) (TL.nil (thn_normal (T.ret (inB_ret (thn_ret ?_)))))))
    exact Pk.id (thn_ret ⟨.inr true, (some_i H).symm, rfl, ⟨trivial, _, (.tmp _ _ _ _ rfl .nil), (.cl _ rfl)⟩⟩)
   ·replace H := cond_f h H
    refine T.skip (inB_normal (thn_normal (T.region (TL.st rfl rfl rfl (o_ari rfl rfl rfl rfl) (TL.st rfl rfl rfl (o_move rfl rfl) (TL.nil ?_))))))
    exact Pk.of (thn_normal ⟨(IntKind.i64.wrap (v1 + 1)), (some_i H).symm, rfl, rfl⟩)
  ·replace H := cond_f h H
   refine T.exit (thn_exit ?_)
   exact Pk.of (thn_exit ⟨.inl (), (some_i H).symm, rfl, rfl, rfl⟩)
 ·rcases q6 with ⟨⟩ | q2
  ·rintro _ _ _ ⟨rfl, rfl, rfl⟩
   refine inB_here (thn_normal (T.seq (T.region (TL.st rfl rfl rfl (o_assign rfl rfl) (TL.nil (thn_normal (T.ret ?_)))))))
   cases some_i H
   exact ⟨trivial, _, (.tmp _ _ _ _ rfl .nil), (.cl _ rfl)⟩
  ·rintro _ fr1 σ1 ⟨rfl, hr⟩
   refine inB_ret (thn_ret ?_)
   cases some_i H
   exact hr
theorem en_14 (us : Array Value) (w : World) : (callFunc 14 us).run Go.Proofs.Tryz.prog w = .ok (.enter 14 us) w := enters Go.Proofs.Tryz.func14 rfl rfl us w
noncomputable def spec_GoodAttack (a0 : T_impl_AttackConf) : Option Bool :=
  (spec_l22Client a0).bind fun q => (match q with | (r1, r2) => (gdO (!(!r2)) (spec_GoodServer a0.Server_)).bind fun r4 => (gdO (!((((!r2) || (!r4)) || ((r1.Redirects_.length : Int) == 0)) || ((r1.Scopes_.length : Int) == 0))) (spec_l18Kind r1 1)).bind fun r6 => cond ((((((!r2) || (!r4)) || ((r1.Redirects_.length : Int) == 0)) || ((r1.Scopes_.length : Int) == 0)) || (!r6)) || decide ((a0.Secret_.size : Int) > 200)) (some false) (cond ((r1.Secret_.length : Int) == 0) (some (a0.Secret_.toList == (ByteArray.mk #[]).toList)) ((gdO (!(a0.Secret_.toList == (ByteArray.mk #[]).toList)) (spec_l2Digest (bys a0.Secret_))).bind fun r8 => some ((!(a0.Secret_.toList == (ByteArray.mk #[]).toList)) && ((byS r8).toList == (byS r1.Secret_).toList)))))
theorem spec_GoodAttack_p (b0 : Bool) {a0 : T_impl_AttackConf} {R0 : Bool} (H : spec_GoodAttack a0 = some R0) : Pure Go.Proofs.Tryz.prog 8 [.agg (c_T_impl_AttackConf b0 a0)] (.bool R0) := by
 refine CallT.of_TN (n := 62) Go.Proofs.Tryz.func8 rfl rfl rfl rfl ?_
 refine T.seq (T.region (TL.st rfl rfl rfl (o_box rfl rfl rfl) (TL.st rfl rfl rfl (o_assign rfl rfl) (TL.nil (thn_normal (T.seq (T.region (TL.st rfl rfl rfl (o_loadBx rfl tyS_27 rfl rfl (Nat.le_of_ble_eq_true rfl) rfl) ?_))))))))
 obtain ⟨⟨r1, r2⟩, h3, H⟩ := bind_s H
 refine TL.st rfl rfl rfl (o_callP rfl en_12 rfl rfl (.cons _ _ _ _ (Lent.aggL (.cons _ _ _ _ (.imv _ _) (.cons _ _ _ _ (.imv _ _) (.cons _ _ _ _ (.cl _ rfl) (.cons _ _ _ _ (.cl _ rfl) (.cons _ _ _ _ (.cl _ rfl) (.cons _ _ _ _ (.cl _ rfl) (.cons _ _ _ _ (.cl _ rfl) (.cons _ _ _ _ (.cl _ rfl) .nil))))))))) .nil) (spec_l22Client_p b0 h3)) ?_
 refine TL.st rfl rfl rfl (o_move rfl rfl) (TL.st rfl rfl rfl (o_extract rfl rfl rfl) (TL.st rfl rfl rfl (o_extract rfl rfl rfl) (TL.st rfl rfl rfl (o_alloc rfl ⟨_, rfl, rfl⟩) (TL.sn rfl rfl (o_storeBx rfl tyS_50 rfl rfl rfl rfl (Nat.le_of_ble_eq_true rfl) rfl) ?_))))
 refine TL.st rfl rfl rfl (o_assign rfl rfl) (TL.nil (thn_normal (T.seq (T.seq (T.conv (Cs.eqS (σ' := [.box (c_T_impl_AttackConf b0 a0), .box (c_T_impl_Client false r1)]) rfl) ?_)))))
 refine T.region (TL.st rfl rfl rfl (o_move rfl rfl) (TL.st rfl rfl rfl (o_not rfl rfl) ?_))
 refine TL.st rfl rfl rfl (o_move rfl rfl) (TL.gcq rfl rfl rfl (.bool _) rfl rfl (fun h => o_fieldAddr rfl rfl rfl tyS_25 (by decide) rfl rfl ⟨_, rfl, Nat.le_of_ble_eq_true rfl⟩) ?_)
 refine TL.gcq rfl rfl rfl (.bool _) rfl rfl (fun h => o_loadBx rfl tyS_25 (gv h rfl) rfl (Nat.le_of_ble_eq_true rfl) rfl) ?_
 obtain ⟨r4, h5, H⟩ := bind_s H
 refine TL.gcq rfl rfl rfl (.bool _) rfl rfl (fun h => o_callP rfl en_13 rfl (evl_1 (gv h rfl)) (.cons _ _ _ _ (Lent.aggL (.cons _ _ _ _ (.imv _ _) (.cons _ _ _ _ (.imv _ _) (.cons _ _ _ _ (.cl _ rfl) (.cons _ _ _ _ (.cl _ rfl) .nil))))) .nil) (spec_GoodServer_p b0 (gdO_t h5 h))) ?_
 refine TL.gcq rfl rfl rfl (.bool _) rfl rfl (fun h => o_not rfl (gv h rfl)) ?_
 refine TL.st rfl rfl rfl (o_or rfl rfl rfl rfl (fun k => Gd_t k)) (TL.st rfl rfl rfl (o_move rfl rfl) (TL.gcq rfl rfl rfl (.bool _) rfl rfl (fun h => o_fieldAddr rfl rfl rfl tyS_30 (by decide) rfl rfl ⟨_, rfl, Nat.le_of_ble_eq_true rfl⟩) ?_))
 refine TL.gcq rfl rfl rfl (.bool _) rfl rfl (fun h => o_loadBx rfl tyS_30 (gv h rfl) rfl (Nat.le_of_ble_eq_true rfl) rfl) ?_
 refine TL.gcq rfl rfl rfl (.bool _) rfl rfl (fun h => o_lenL (f := c_str) rfl rfl (gv h rfl)) ?_
 refine TL.gcq rfl rfl rfl (.bool _) rfl rfl (fun h => o_ari rfl (gv h rfl) rfl rfl) ?_
 refine TL.st rfl rfl rfl (o_or rfl rfl rfl rfl (fun k => Gd_t k)) (TL.st rfl rfl rfl (o_move rfl rfl) (TL.gcq rfl rfl rfl (.bool _) rfl rfl (fun h => o_fieldAddr rfl rfl rfl tyS_30 (by decide) rfl rfl ⟨_, rfl, Nat.le_of_ble_eq_true rfl⟩) ?_))
 refine TL.gcq rfl rfl rfl (.bool _) rfl rfl (fun h => o_loadBx rfl tyS_30 (gv h rfl) rfl (Nat.le_of_ble_eq_true rfl) rfl) ?_
 refine TL.gcq rfl rfl rfl (.bool _) rfl rfl (fun h => o_lenL (f := c_str) rfl rfl (gv h rfl)) ?_
 refine TL.gcq rfl rfl rfl (.bool _) rfl rfl (fun h => o_ari rfl (gv h rfl) rfl rfl) ?_
 refine TL.st rfl rfl rfl (o_or rfl rfl rfl rfl (fun k => Gd_t k)) (TL.st rfl rfl rfl (o_move rfl rfl) (TL.gcq rfl rfl rfl (.bool _) rfl rfl (fun h => o_loadBx rfl tyS_50 rfl rfl (Nat.le_of_ble_eq_true rfl) rfl) ?_))
 obtain ⟨r6, h7, H⟩ := bind_s H
 refine TL.gcq rfl rfl rfl (.bool _) rfl rfl (fun h => o_callP rfl en_14 rfl (evl_2 (gv h rfl) rfl) (.cons _ _ _ _ (.cl _ rfl) (.cons _ _ _ _ (.cl _ rfl) .nil)) (spec_l18Kind_p false (gdO_t h7 h))) ?_
 refine TL.gcq rfl rfl rfl (.bool _) rfl rfl (fun h => o_not rfl (gv h rfl)) ?_
 refine TL.st rfl rfl rfl (o_or rfl rfl rfl rfl (fun k => Gd_t k)) (TL.st rfl rfl rfl (o_move rfl rfl) (TL.gcq rfl rfl rfl (.bool _) rfl rfl (fun h => o_fieldAddr rfl rfl rfl tyS_9 (by decide) rfl rfl ⟨_, rfl, Nat.le_of_ble_eq_true rfl⟩) ?_))
 refine TL.gcq rfl rfl rfl (.bool _) rfl rfl (fun h => o_loadBx rfl tyS_9 (gv h rfl) rfl (Nat.le_of_ble_eq_true rfl) rfl) ?_
 refine TL.gcq rfl rfl rfl (.bool _) rfl rfl (fun h => o_lenS rfl rfl (gv h rfl)) ?_
 refine TL.gcq rfl rfl rfl (.bool _) rfl rfl (fun h => o_ari rfl (gv h rfl) rfl rfl) ?_
 refine TL.st rfl rfl rfl (o_or rfl rfl rfl rfl (fun k => Gd_t k)) (TL.nil (thn_normal ?_))
 refine T.cond (((((((!r2) || (!r4)) || ((r1.Redirects_.length : Int) == 0)) || ((r1.Scopes_.length : Int) == 0)) || (!r6)) || decide ((a0.Secret_.size : Int) > 200))) rfl (fun h => ?_) (fun h => ?_)
 ·replace H := cond_t h H
  refine T.seq (T.region (TL.st rfl rfl rfl (o_assign rfl rfl) (TL.nil (thn_normal (T.ret (thn_ret ?_))))))
  cases some_i H
  exact ⟨trivial, _, (.tmp _ _ _ _ rfl .nil), (.cl _ rfl)⟩
 ·replace H := cond_f h H
  refine T.skip (thn_normal (T.seq (T.seq (T.region (TL.st rfl rfl rfl (o_fieldAddr rfl rfl rfl tyS_22 (by decide) rfl rfl ⟨_, rfl, Nat.le_of_ble_eq_true rfl⟩) ?_)))))
  refine TL.st rfl rfl rfl (o_loadBx rfl tyS_22 rfl rfl (Nat.le_of_ble_eq_true rfl) rfl) ?_
  refine TL.st rfl rfl rfl (o_lenL (f := c_int .u8) rfl rfl rfl) ?_
  refine TL.st rfl rfl rfl (o_ari rfl rfl rfl rfl) (TL.nil (thn_normal ?_))
  refine T.cond (((r1.Secret_.length : Int) == 0)) rfl (fun h => ?_) (fun h => ?_)
  ·replace H := cond_t h H
   refine T.seq (T.region (TL.st rfl rfl rfl (o_fieldAddr rfl rfl rfl tyS_9 (by decide) rfl rfl ⟨_, rfl, Nat.le_of_ble_eq_true rfl⟩) ?_))
   refine TL.st rfl rfl rfl (o_loadBx rfl tyS_9 rfl rfl (Nat.le_of_ble_eq_true rfl) rfl) ?_
   refine TL.st rfl rfl rfl (o_str rfl rfl rfl rfl) ?_
   refine TL.st rfl rfl rfl (o_assign rfl rfl) (TL.nil (thn_normal (T.ret (thn_ret ?_))))
   cases some_i H
   exact ⟨trivial, _, (.tmp _ _ _ _ rfl .nil), (.cl _ rfl)⟩
  ·replace H := cond_f h H
   refine T.skip (thn_normal (T.seq (T.drawn rfl ?_)))
   refine TD.rs rfl rfl (o_fieldAddr rfl rfl rfl tyS_9 (by decide) rfl rfl ⟨_, rfl, Nat.le_of_ble_eq_true rfl⟩) ?_
   refine TD.rs rfl rfl (o_loadBx rfl tyS_9 rfl rfl (Nat.le_of_ble_eq_true rfl) rfl) ?_
   refine TD.qs rfl rfl (fun _ => o_str rfl rfl rfl rfl) ?_
   refine TD.qs rfl rfl (fun _ => o_move rfl rfl) (TD.cr rfl rfl rfl (.bool _) rfl (fun h => o_fieldAddr rfl rfl rfl tyS_9 (by decide) rfl rfl ⟨_, rfl, Nat.le_of_ble_eq_true rfl⟩) ?_)
   refine TD.cr rfl rfl rfl (.bool _) rfl (fun h => o_loadBx rfl tyS_9 (gv h rfl) rfl (Nat.le_of_ble_eq_true rfl) rfl) ?_
   refine TD.cq rfl rfl rfl (.bool _) rfl (fun h _ => o_sb (f := c_int .u8) rfl rfl rfl rfl (fun _ => rfl) (gv h rfl)) ?_
   obtain ⟨r8, h9, H⟩ := bind_s H
   refine TD.cq rfl rfl rfl (.bool _) rfl (fun h _ => o_callP rfl en_11 rfl (evl_1 (gv h rfl)) (.cons _ _ _ _ (.cl _ rfl) .nil) (spec_l2Digest_p false (gdO_t h9 h))) ?_
   refine TD.cq rfl rfl rfl (.bool _) rfl (fun h _ => o_bs (f := c_int .u8) (ns := r8) rfl rfl rfl rfl (fun _ => rfl) (gv h rfl)) ?_
   refine TD.cr rfl rfl rfl (.bool _) rfl (fun h => o_fieldAddr rfl rfl rfl tyS_22 (by decide) rfl rfl ⟨_, rfl, Nat.le_of_ble_eq_true rfl⟩) ?_
   refine TD.cr rfl rfl rfl (.bool _) rfl (fun h => o_loadBx rfl tyS_22 (gv h rfl) rfl (Nat.le_of_ble_eq_true rfl) rfl) ?_
   refine TD.cq rfl rfl rfl (.bool _) rfl (fun h _ => o_bs (f := c_int .u8) (ns := r1.Secret_) rfl rfl rfl rfl (fun _ => rfl) (gv h rfl)) ?_
   refine TD.cq rfl rfl rfl (.bool _) rfl (fun h _ => o_str rfl (gv h rfl) (gv h rfl) rfl) ?_
   refine TD.qs rfl rfl (fun _ => o_and rfl rfl rfl (fun k => Gd_t k) rfl) ?_
   refine TD.qs rfl rfl (fun _ => o_assign rfl rfl) ?_
   refine TD.nil ⟨rfl, ?_⟩
   refine thn_normal (T.ret ?_)
   cases some_i H
   exact ⟨trivial, _, (.tmp _ _ _ _ rfl .nil), (.cl _ rfl)⟩
theorem en_8 (us : Array Value) (w : World) : (callFunc 8 us).run Go.Proofs.Tryz.prog w = .ok (.enter 8 us) w := enters Go.Proofs.Tryz.func8 rfl rfl us w
noncomputable def laws_FnBare (a0 : (List Int)) : Option Bool :=
  cond (decide ((a0.length : Int) > 1048576)) (some true) ((spec_DrawGoodAttack a0).bind fun r1 => (impl_RunAttack ({ r1 with Leak_ := true, Bare_ := true } : T_impl_AttackConf) ([(⟨1, 0, 0, 0⟩ : T_impl_Move), (⟨5, 0, 0, 10⟩ : T_impl_Move)] : List T_impl_Move)).bind fun r3 => (gdO (!(r1.Secret_.toList == (ByteArray.mk #[]).toList)) (spec_Digest (bys r1.Secret_))).bind fun r5 => (gdO (!(r1.Secret_.toList == (ByteArray.mk #[]).toList)) (spec_Digest ([] : List Int))).bind fun r7 => (gdO (!(r1.Secret_.toList == (ByteArray.mk #[]).toList)) (laws_zBytes r5 r7)).bind fun r9 => cond ((!(r1.Secret_.toList == (ByteArray.mk #[]).toList)) && r9) (some true) ((spec_GoodAttack ({ r1 with Leak_ := true, Bare_ := true } : T_impl_AttackConf)).bind fun r11 => cond (!r11) (some ((r3.Errs_.length : Int) == 0)) (some (r3.Won_ == (r1.Secret_.toList == (ByteArray.mk #[]).toList)))))
theorem laws_FnBare_p (b0 : Bool) {a0 : (List Int)} {R0 : Bool} (H : laws_FnBare a0 = some R0) : Pure Go.Proofs.Tryz.prog 3 [.im b0 (a0.map (c_int .u8))] (.bool R0) := by
 refine CallT.of_TN (n := 41) Go.Proofs.Tryz.func3 rfl rfl rfl rfl ?_
 refine T.seq (T.region (TL.st rfl rfl rfl (o_assign rfl rfl) (TL.nil (thn_normal (T.seq (T.seq (T.region (TL.st rfl rfl rfl (o_move rfl rfl) (TL.st rfl rfl rfl (o_lenL (f := c_int .u8) rfl rfl rfl) ?_)))))))))
 refine TL.st rfl rfl rfl (o_ari rfl rfl rfl rfl) (TL.nil (thn_normal ?_))
 refine T.cond (decide ((a0.length : Int) > 1048576)) rfl (fun h => ?_) (fun h => ?_)
 ·replace H := cond_t h H
  refine T.seq (T.region (TL.st rfl rfl rfl (o_assign rfl rfl) (TL.nil (thn_normal (T.ret (thn_ret ?_))))))
  cases some_i H
  exact ⟨trivial, _, (.tmp _ _ _ _ rfl .nil), (.cl _ rfl)⟩
 ·replace H := cond_f h H
  refine T.skip (thn_normal (T.seq (T.region (TL.st rfl rfl rfl (o_move rfl rfl) ?_))))
  obtain ⟨r1, h2, H⟩ := bind_s H
  refine TL.st rfl rfl rfl (o_callP rfl en_4 rfl rfl (.cons _ _ _ _ (.imv _ _) .nil) (spec_DrawGoodAttack_p b0 h2)) ?_
  refine TL.st rfl rfl rfl (o_alloc rfl ⟨_, rfl, rfl⟩) (TL.sn rfl rfl (o_storeBx rfl tyS_27 rfl rfl rfl rfl (Nat.le_of_ble_eq_true rfl) rfl) ?_)
  refine TL.nil (thn_normal (T.seq (T.region (TL.st rfl rfl rfl (o_fieldAddr rfl rfl rfl tyS_4 (by decide) rfl rfl ⟨_, rfl, Nat.le_of_ble_eq_true rfl⟩) ?_))))
  refine TL.sn rfl rfl (o_storeBx rfl tyS_4 rfl rfl rfl rfl (Nat.le_of_ble_eq_true rfl) rfl) ?_
  refine TL.nil (thn_normal (T.seq (T.conv (Cs.eqS (σ' := [.box ((c_T_impl_Server false r1.Server_) ++ [.str r1.Client_, .str r1.Secret_, .bool true, .bool r1.Bare_])]) rfl) ?_)))
  refine T.region (TL.st rfl rfl rfl (o_fieldAddr rfl rfl rfl tyS_4 (by decide) rfl rfl ⟨_, rfl, Nat.le_of_ble_eq_true rfl⟩) ?_)
  refine TL.sn rfl rfl (o_storeBx rfl tyS_4 rfl rfl rfl rfl (Nat.le_of_ble_eq_true rfl) rfl) ?_
  refine TL.nil (thn_normal (T.seq (T.region (TL.st rfl rfl rfl (o_loadBx rfl tyS_27 rfl rfl (Nat.le_of_ble_eq_true rfl) rfl) ?_))))
  refine TL.st rfl rfl rfl (o_build rfl ⟨_, fun _ => rfl, rfl⟩ rfl rfl rfl) ?_
  refine TL.st rfl rfl rfl (o_build rfl ⟨_, fun _ => rfl, rfl⟩ rfl rfl rfl) ?_
  refine TL.st rfl rfl rfl (o_sliceIm (rows := ([(⟨1, 0, 0, 0⟩ : T_impl_Move), (⟨5, 0, 0, 10⟩ : T_impl_Move)] : List T_impl_Move).map (c_T_impl_Move false)) rfl rfl tyS_35 ⟨_, rfl, rfl⟩ (by decide) rfl rfl rfl rfl rfl rfl) ?_
  obtain ⟨r3, h4, H⟩ := bind_s H
  refine TL.st rfl rfl rfl (o_callP rfl en_5 rfl rfl (.cons _ _ _ _ (.cl _ rfl) (.cons _ _ _ _ (.cl _ rfl) .nil)) (impl_RunAttack_p false false h4)) ?_
  refine TL.st rfl rfl rfl (o_alloc rfl ⟨_, rfl, rfl⟩) (TL.sn rfl rfl (o_storeBx rfl tyS_32 rfl rfl rfl rfl (Nat.le_of_ble_eq_true rfl) rfl) ?_)
  refine TL.nil (thn_normal (T.seq (T.seq (T.conv (Cs.eqS (σ' := [.box ((c_T_impl_Server false r1.Server_) ++ [.str r1.Client_, .str r1.Secret_, .bool true, .bool true]), .box (c_T_impl_AttackRes false r3)]) rfl) ?_))))
  refine T.region (TL.st rfl rfl rfl (o_fieldAddr rfl rfl rfl tyS_9 (by decide) rfl rfl ⟨_, rfl, Nat.le_of_ble_eq_true rfl⟩) ?_)
  refine TL.st rfl rfl rfl (o_loadBx rfl tyS_9 rfl rfl (Nat.le_of_ble_eq_true rfl) rfl) ?_
  refine TL.st rfl rfl rfl (o_str rfl rfl rfl rfl) ?_
  refine TL.st rfl rfl rfl (o_move rfl rfl) (TL.gcq rfl rfl rfl (.bool _) rfl rfl (fun h => o_fieldAddr rfl rfl rfl tyS_9 (by decide) rfl rfl ⟨_, rfl, Nat.le_of_ble_eq_true rfl⟩) ?_)
  refine TL.gcq rfl rfl rfl (.bool _) rfl rfl (fun h => o_loadBx rfl tyS_9 (gv h rfl) rfl (Nat.le_of_ble_eq_true rfl) rfl) ?_
  refine TL.gcq rfl rfl rfl (.bool _) rfl rfl (fun h => o_sb (f := c_int .u8) rfl rfl rfl rfl (fun _ => rfl) (gv h rfl)) ?_
  obtain ⟨r5, h6, H⟩ := bind_s H
  refine TL.gcq rfl rfl rfl (.bool _) rfl rfl (fun h => o_callP rfl en_7 rfl (evl_1 (gv h rfl)) (.cons _ _ _ _ (.cl _ rfl) .nil) (spec_Digest_p false (gdO_t h6 h))) ?_
  obtain ⟨r7, h8, H⟩ := bind_s H
  refine TL.gcq rfl rfl rfl (.bool _) rfl rfl (fun h => o_callP rfl en_7 rfl rfl (.cons _ _ _ _ .nil .nil) (spec_Digest_p false (gdO_t h8 h))) ?_
  obtain ⟨r9, h10, H⟩ := bind_s H
  refine TL.gcq rfl rfl rfl (.bool _) rfl rfl (fun h => o_callP rfl en_6 rfl (evl_2 (gv h rfl) (gv h rfl)) (.cons _ _ _ _ (.cl _ rfl) (.cons _ _ _ _ (.cl _ rfl) .nil)) (laws_zBytes_p false false (gdO_t h10 h))) ?_
  refine TL.st rfl rfl rfl (o_and rfl rfl rfl (fun k => Gd_t k) rfl) (TL.nil (thn_normal ?_))
  refine T.cond (((!(r1.Secret_.toList == (ByteArray.mk #[]).toList)) && r9)) rfl (fun h => ?_) (fun h => ?_)
  ·replace H := cond_t h H
   refine T.seq (T.region (TL.st rfl rfl rfl (o_assign rfl rfl) (TL.nil (thn_normal (T.ret (thn_ret ?_))))))
   cases some_i H
   exact ⟨trivial, _, (.tmp _ _ _ _ rfl .nil), (.cl _ rfl)⟩
  ·replace H := cond_f h H
   refine T.skip (thn_normal (T.seq (T.seq (T.region (TL.st rfl rfl rfl (o_loadBx rfl tyS_27 rfl rfl (Nat.le_of_ble_eq_true rfl) rfl) ?_)))))
   obtain ⟨r11, h12, H⟩ := bind_s H
   refine TL.st rfl rfl rfl (o_callP rfl en_8 rfl rfl (.cons _ _ _ _ (.cl _ rfl) .nil) (spec_GoodAttack_p false h12)) ?_
   refine TL.st rfl rfl rfl (o_not rfl rfl) ?_
   refine TL.nil (thn_normal ?_)
   refine T.cond ((!r11)) rfl (fun h => ?_) (fun h => ?_)
   ·replace H := cond_t h H
    refine T.seq (T.region (TL.st rfl rfl rfl (o_fieldAddr rfl rfl rfl tyS_29 (by decide) rfl rfl ⟨_, rfl, Nat.le_of_ble_eq_true rfl⟩) ?_))
    refine TL.st rfl rfl rfl (o_loadBx rfl tyS_29 rfl rfl (Nat.le_of_ble_eq_true rfl) rfl) ?_
    refine TL.st rfl rfl rfl (o_lenL (f := c_int .i64) rfl rfl rfl) ?_
    refine TL.st rfl rfl rfl (o_ari rfl rfl rfl rfl) (TL.st rfl rfl rfl (o_assign rfl rfl) (TL.nil (thn_normal (T.ret (thn_ret ?_)))))
    cases some_i H
    exact ⟨trivial, _, (.tmp _ _ _ _ rfl .nil), (.cl _ rfl)⟩
   ·replace H := cond_f h H
    refine T.skip (thn_normal (T.seq (T.region (TL.st rfl rfl rfl (o_fieldAddr rfl rfl rfl tyS_4 (by decide) rfl rfl ⟨_, rfl, Nat.le_of_ble_eq_true rfl⟩) ?_))))
    refine TL.st rfl rfl rfl (o_loadBx rfl tyS_4 rfl rfl (Nat.le_of_ble_eq_true rfl) rfl) ?_
    refine TL.st rfl rfl rfl (o_fieldAddr rfl rfl rfl tyS_9 (by decide) rfl rfl ⟨_, rfl, Nat.le_of_ble_eq_true rfl⟩) ?_
    refine TL.st rfl rfl rfl (o_loadBx rfl tyS_9 rfl rfl (Nat.le_of_ble_eq_true rfl) rfl) ?_
    refine TL.st rfl rfl rfl (o_str rfl rfl rfl rfl) ?_
    refine TL.st rfl rfl rfl (o_beq rfl rfl rfl rfl) ?_
    refine TL.st rfl rfl rfl (o_assign rfl rfl) (TL.nil (thn_normal (T.ret ?_)))
    cases some_i H
    exact ⟨trivial, _, (.tmp _ _ _ _ rfl .nil), (.cl _ rfl)⟩
end Go.G36.BW
