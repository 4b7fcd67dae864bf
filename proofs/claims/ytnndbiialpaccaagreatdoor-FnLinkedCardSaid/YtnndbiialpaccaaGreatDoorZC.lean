import Derived.Test.YtnndbiialpaccaaGreatDoorZC2
set_option linter.all false
set_option maxRecDepth 20000
set_option maxHeartbeats 4000000
namespace Go.G36.ZL
open Go Go.Proofs
theorem impl_ypattern_p  {a0 : ByteArray} {R0 : (List Int)} {R1 : Bool} (H : impl_ypattern a0 = some (R0, R1)) : Pure Go.Proofs.Tryz.prog 89 [.str a0] (.tup [.im false (R0.map (c_int .i64)), .bool R1]) := by
 refine CallT.of_TN (n := 58) Go.Proofs.Tryz.func89 rfl rfl rfl rfl ?_
 refine T.seq (T.region (TL.st rfl rfl rfl (o_assign rfl rfl) (TL.st rfl rfl rfl (o_assign rfl rfl) (TL.nil (thn_normal (T.seq (T.region (TL.st rfl rfl rfl (o_assign rfl rfl) (TL.nil (thn_normal (T.seq (T.seq (T.region (TL.st rfl rfl rfl (o_assign rfl rfl) (TL.nil (thn_normal (T.block (T.conv (Cs.own (t := 4) 1 rfl (by decide)) ?_))))))))))))))))))
 obtain ⟨q26, h27, H⟩ := bind_s H
 refine T.to (.cons 0 _ (.str a0) _ rfl (.same _) rfl (.cons 4 _ (.hd 0 (([] : List Int).map (c_int .i64)).length 0 (([] : List Int).map (c_int .i64)).length) _ rfl (.same _) rfl (.cons 5 _ (.int .i64 0) _ rfl (.same _) rfl .nil))) ?_
 refine T.lp (fun s => match s with | (l1, v2) => [(0, .str a0), (4, .hd 0 (l1.map (c_int .i64)).length 0 (l1.map (c_int .i64)).length), (5, .int .i64 v2)]) (fun s => match s with | (l1, v2) => [.arr .clo 1 (l1.map (c_int .i64))]) (fun q ex fr σ => match q with | .inl l3 => ex = .exit 0 ∧ fr = [(4, .hd 0 (l3.map (c_int .i64)).length 0 (l3.map (c_int .i64)).length)] ∧ σ = [.arr .clo 1 (l3.map (c_int .i64))] | .inr q4 => ex = .ret ∧ RetN Go.Proofs.Tryz.prog [.tmp 2, .tmp 3] (fun v τ => Told τ v (.tup [.im false (q4.1.map (c_int .i64)), .bool q4.2])) .ret fr σ) h27 ?_ ?_ ?_ ?_ ?_
 ·rintro ⟨l1, v2⟩ y5 H
  refine T.seq (T.seq (T.region (TL.st rfl rfl rfl (o_move rfl rfl) (TL.st rfl rfl rfl (o_move rfl rfl) (TL.st rfl rfl rfl (o_lenS rfl rfl rfl) ?_)))))
  refine TL.st rfl rfl rfl (o_ari rfl rfl rfl rfl) (TL.nil (thn_normal ?_))
  refine T.cond (decide (v2 < (a0.size : Int))) rfl (fun h => ?_) (fun h => ?_)
  ·replace H := cond_t h H
   refine T.skip (thn_normal (T.cut (fun fr' σ' => ∃ (l6 : List Int) (v7 : Int), fr' = [(0, .str a0), (4, .hd 0 (l6.map (c_int .i64)).length 0 (l6.map (c_int .i64)).length), (5, .int .i64 v7)] ∧ σ' = [.arr .clo 1 (l6.map (c_int .i64))] ∧ impl_ypattern_j1 l6 v7 = some y5) (T.pk ?_) ?_))
   ·skip
    refine T.block (T.block (T.seq (T.region (TL.st rfl rfl rfl (o_move rfl rfl) (TL.st rfl rfl rfl (o_move rfl rfl) ?_)))))
    obtain ⟨b8, h9, H⟩ := bind_s H
    refine TL.st rfl rfl rfl (o_ixs rfl rfl rfl rfl h9) ?_
    refine TL.st rfl rfl rfl (o_ari rfl rfl rfl rfl) (TL.st rfl rfl rfl (o_assign rfl rfl) (TL.nil (thn_normal ?_)))
    refine T.cond ((b8 == 42)) rfl (fun h => ?_) (fun h => ?_)
    ·replace H := cond_t h H
     refine T.region (TL.st rfl rfl rfl (o_move rfl rfl) (TL.st rfl rfl rfl (o_sliceIm rfl rfl tyS_3 ⟨_, rfl, rfl⟩ (by decide) rfl rfl rfl rfl rfl rfl) ?_))
     obtain ⟨l10, h11, H⟩ := bind_s H
     refine TL.st rfl rfl rfl (o_ap (f := c_int .i64) (xs := l1) (ys := ([(-1)] : List Int)) rfl rfl tyE_3 rfl rfl rfl rfl (by decide) rfl (fun _ => rfl) h11) ?_
     refine TL.st rfl rfl rfl (o_assign rfl rfl) (TL.nil (inB_normal (inB_normal ?_)))
     exact Pk.go (fr' := [(0, .str a0), (4, .hd 0 (l10.map (c_int .i64)).length 0 (l10.map (c_int .i64)).length), (5, .int .i64 v2)]) (σ' := [.arr .clo 1 (l10.map (c_int .i64))]) _ rfl rfl ⟨trivial, trivial⟩ (.cons 0 _ (.str a0) _ rfl (.same _) rfl (.cons 4 _ (.hd 0 (l10.map (c_int .i64)).length 0 (l10.map (c_int .i64)).length) _ rfl (.same _) rfl (.cons 5 _ (.int .i64 v2) _ rfl (.same _) rfl .nil))) (thn_normal ⟨l10, v2, rfl, rfl, H⟩)
    ·replace H := cond_f h H
     refine T.seq (T.region (TL.st rfl rfl rfl (o_move rfl rfl) (TL.st rfl rfl rfl (o_move rfl rfl) ?_)))
     obtain ⟨b12, h13, H⟩ := bind_s H
     refine TL.st rfl rfl rfl (o_ixs rfl rfl rfl rfl h13) ?_
     refine TL.st rfl rfl rfl (o_ari rfl rfl rfl rfl) (TL.st rfl rfl rfl (o_assign rfl rfl) (TL.nil (thn_normal ?_)))
     refine T.cond ((b12 == 92)) rfl (fun h => ?_) (fun h => ?_)
     ·replace H := cond_t h H
      refine T.seq (T.region (TL.st rfl rfl rfl (o_move rfl rfl) (TL.st rfl rfl rfl (o_ari rfl rfl rfl rfl) (TL.st rfl rfl rfl (o_assign rfl rfl) (TL.nil (thn_normal (T.seq (T.seq (T.region (TL.st rfl rfl rfl (o_move rfl rfl) (TL.st rfl rfl rfl (o_move rfl rfl) (TL.st rfl rfl rfl (o_lenS rfl rfl rfl) ?_))))))))))))
      refine TL.st rfl rfl rfl (o_ari rfl rfl rfl rfl) (TL.st rfl rfl rfl (o_move rfl rfl) (TL.gcq rfl rfl rfl (.bool _) rfl rfl (fun h => o_move rfl rfl) (TL.gcq rfl rfl rfl (.bool _) rfl rfl (fun h => o_move rfl rfl) ?_)))
      obtain ⟨b14, h15, H⟩ := bind_s H
      refine TL.gcq rfl rfl rfl (.bool _) rfl rfl (fun h => o_ixs rfl rfl (gv h rfl) (gv h rfl) (gdO_t h15 h)) ?_
      refine TL.gcq rfl rfl rfl (.bool _) rfl rfl (fun h => o_ari rfl (gv h rfl) rfl rfl) ?_
      refine TL.gcq rfl rfl rfl (.bool _) rfl rfl (fun h => o_move rfl (gv h rfl)) ?_
      refine TL.gcq rfl rfl rfl (.gd _ _) rfl rfl (fun h => o_move rfl rfl) ?_
      refine TL.gcq rfl rfl rfl (.gd _ _) rfl rfl (fun h => o_move rfl rfl) ?_
      obtain ⟨b16, h17, H⟩ := bind_s H
      refine TL.gcq rfl rfl rfl (.gd _ _) rfl rfl (fun h => o_ixs rfl rfl (gv h rfl) (gv h rfl) (gdO_t h17 h)) ?_
      refine TL.gcq rfl rfl rfl (.gd _ _) rfl rfl (fun h => o_ari rfl (gv h rfl) rfl rfl) ?_
      refine TL.gcq rfl rfl rfl (.bool _) rfl rfl (fun h => o_and rfl (gv h rfl) rfl (fun k => Gd_t (andi h k)) rfl) ?_
      refine TL.st rfl rfl rfl (o_or rfl rfl rfl rfl (fun k => Gd_t k)) (TL.nil (thn_normal ?_))
      refine T.cond ((decide ((IntKind.i64.wrap (v2 + 1)) ≥ (a0.size : Int)) || ((b14 != 42) && (b16 != 92)))) rfl (fun h => ?_) (fun h => ?_)
      ·replace H := cond_t h H
       refine T.seq (T.region (TL.st rfl rfl rfl (o_assign rfl rfl) (TL.st rfl rfl rfl (o_assign rfl rfl) (TL.nil (thn_normal (T.ret (thn_ret (inB_ret (inB_ret ?_)))))))))
       refine Pk.id (thn_ret ?_)
       exact Pk.id (thn_ret ⟨.inr (([] : List Int), false), (some_i H).symm, rfl, ⟨trivial, _, (.tmp _ _ _ _ rfl (.tmp _ _ _ _ rfl .nil)), (.tupL (.cons _ _ _ _ .nil (.cons _ _ _ _ (.cl _ rfl) .nil)))⟩⟩)
      ·replace H := cond_f h H
       refine T.skip (thn_normal (T.region (TL.st rfl rfl rfl (o_move rfl rfl) (TL.st rfl rfl rfl (o_move rfl rfl) (TL.st rfl rfl rfl (o_move rfl rfl) ?_)))))
       obtain ⟨b18, h19, H⟩ := bind_s H
       refine TL.st rfl rfl rfl (o_ixs rfl rfl rfl rfl h19) ?_
       refine TL.st rfl rfl rfl (o_conv rfl rfl ⟨_, rfl⟩ rfl) ?_
       refine TL.st rfl rfl rfl (o_sliceIm rfl rfl tyS_3 ⟨_, rfl, rfl⟩ (by decide) rfl rfl rfl rfl rfl rfl) ?_
       obtain ⟨l20, h21, H⟩ := bind_s H
       refine TL.st rfl rfl rfl (o_ap (f := c_int .i64) (xs := l1) (ys := ([(IntKind.i64.wrap b18)] : List Int)) rfl rfl tyE_3 rfl rfl rfl rfl (by decide) rfl (fun _ => rfl) h21) ?_
       refine TL.st rfl rfl rfl (o_assign rfl rfl) (TL.nil (inB_normal (inB_normal ?_)))
       exact Pk.go (fr' := [(0, .str a0), (4, .hd 0 (l20.map (c_int .i64)).length 0 (l20.map (c_int .i64)).length), (5, .int .i64 (IntKind.i64.wrap (v2 + 1)))]) (σ' := [.arr .clo 1 (l20.map (c_int .i64))]) _ rfl rfl ⟨trivial, trivial⟩ (.cons 0 _ (.str a0) _ rfl (.same _) rfl (.cons 4 _ (.hd 0 (l20.map (c_int .i64)).length 0 (l20.map (c_int .i64)).length) _ rfl (.same _) rfl (.cons 5 _ (.int .i64 (IntKind.i64.wrap (v2 + 1))) _ rfl (.same _) rfl .nil))) (thn_normal ⟨l20, (IntKind.i64.wrap (v2 + 1)), rfl, rfl, H⟩)
     ·replace H := cond_f h H
      refine T.region (TL.st rfl rfl rfl (o_move rfl rfl) (TL.st rfl rfl rfl (o_move rfl rfl) (TL.st rfl rfl rfl (o_move rfl rfl) ?_)))
      obtain ⟨b22, h23, H⟩ := bind_s H
      refine TL.st rfl rfl rfl (o_ixs rfl rfl rfl rfl h23) ?_
      refine TL.st rfl rfl rfl (o_conv rfl rfl ⟨_, rfl⟩ rfl) ?_
      refine TL.st rfl rfl rfl (o_sliceIm rfl rfl tyS_3 ⟨_, rfl, rfl⟩ (by decide) rfl rfl rfl rfl rfl rfl) ?_
      obtain ⟨l24, h25, H⟩ := bind_s H
      refine TL.st rfl rfl rfl (o_ap (f := c_int .i64) (xs := l1) (ys := ([(IntKind.i64.wrap b22)] : List Int)) rfl rfl tyE_3 rfl rfl rfl rfl (by decide) rfl (fun _ => rfl) h25) ?_
      refine TL.st rfl rfl rfl (o_assign rfl rfl) (TL.nil (inB_normal (inB_normal ?_)))
      exact Pk.go (fr' := [(0, .str a0), (4, .hd 0 (l24.map (c_int .i64)).length 0 (l24.map (c_int .i64)).length), (5, .int .i64 v2)]) (σ' := [.arr .clo 1 (l24.map (c_int .i64))]) _ rfl rfl ⟨trivial, trivial⟩ (.cons 0 _ (.str a0) _ rfl (.same _) rfl (.cons 4 _ (.hd 0 (l24.map (c_int .i64)).length 0 (l24.map (c_int .i64)).length) _ rfl (.same _) rfl (.cons 5 _ (.int .i64 v2) _ rfl (.same _) rfl .nil))) (thn_normal ⟨l24, v2, rfl, rfl, H⟩)
   ·rintro _ _ ⟨l6, v7, rfl, rfl, H⟩
    refine T.region (TL.st rfl rfl rfl (o_move rfl rfl) (TL.st rfl rfl rfl (o_ari rfl rfl rfl rfl) (TL.st rfl rfl rfl (o_assign rfl rfl) (TL.nil ?_))))
    exact Pk.go (fr' := [(0, .str a0), (4, .hd 0 (l6.map (c_int .i64)).length 0 (l6.map (c_int .i64)).length), (5, .int .i64 (IntKind.i64.wrap (v7 + 1)))]) (σ' := [.arr .clo 1 (l6.map (c_int .i64))]) _ rfl rfl ⟨trivial, trivial⟩ (.cons 0 _ (.str a0) _ rfl (.same _) rfl (.cons 4 _ (.hd 0 (l6.map (c_int .i64)).length 0 (l6.map (c_int .i64)).length) _ rfl (.same _) rfl (.cons 5 _ (.int .i64 (IntKind.i64.wrap (v7 + 1))) _ rfl (.same _) rfl .nil))) (thn_normal ⟨(l6, (IntKind.i64.wrap (v7 + 1))), (some_i H).symm, rfl, rfl⟩)
  ·replace H := cond_f h H
   refine T.exit (thn_exit ?_)
   exact Pk.go (fr' := [(4, .hd 0 (l1.map (c_int .i64)).length 0 (l1.map (c_int .i64)).length)]) (σ' := [.arr .clo 1 (l1.map (c_int .i64))]) _ rfl rfl ⟨trivial, trivial⟩ (.cons 4 _ (.hd 0 (l1.map (c_int .i64)).length 0 (l1.map (c_int .i64)).length) _ rfl (.same _) rfl .nil) (thn_exit ⟨.inl l1, (some_i H).symm, rfl, rfl, rfl⟩)
 ·rintro ⟨l1, v2⟩ ⟨l1', v2'⟩; rfl
 ·rintro ⟨l1, v2⟩; exact ⟨trivial, trivial⟩
 ·rintro ⟨l1, v2⟩; exact (.cons _ _ _ rfl rfl (.cons _ _ _ rfl rfl (.cons _ _ _ rfl rfl .nil)))
 ·rcases q26 with l3 | q4
  ·rintro _ _ _ ⟨rfl, rfl, rfl⟩
   refine inB_here (thn_normal (T.seq (T.region (TL.st rfl rfl rfl (o_move rfl rfl) (TL.st rfl rfl rfl (o_assign rfl rfl) (TL.st rfl rfl rfl (o_assign rfl rfl) (TL.nil (thn_normal (T.ret ?_)))))))))
   cases some_i H
   exact ⟨trivial, _, (.tmp _ _ _ _ rfl (.tmp _ _ _ _ rfl .nil)), (.tupL (.cons _ _ _ _ (.own rfl (by decide) rfl) (.cons _ _ _ _ (.cl _ rfl) .nil)))⟩
  ·rintro _ fr1 σ1 ⟨rfl, hr⟩
   refine inB_ret (thn_ret ?_)
   cases some_i H
   exact hr
theorem en_89 (us : Array Value) (w : World) : (callFunc 89 us).run Go.Proofs.Tryz.prog w = .ok (.enter 89 us) w := enters Go.Proofs.Tryz.func89 rfl rfl us w
noncomputable def impl_ygoodExprNode_j1 (a0 : T_impl_Expr) (v10 : Bool) : Option Bool :=
  cond v10 ((impl_GoodName a0.Text_).bind fun r11 => some r11) (cond (a0.Kind_ == 20) ((impl_ypattern a0.Text_).bind fun q => (match q with | (r13, r14) => (gdO r14 (impl_yprinted a0.Text_ 0 200)).bind fun r16 => some (r14 && r16))) (some (a0.Text_.toList == (ByteArray.mk #[]).toList)))
noncomputable def impl_ygoodExprNode (a0 : T_impl_Expr) : Option Bool :=
  cond (decide (a0.Kind_ < 1) || decide (a0.Kind_ > 21)) (some false) ((impl_ykidsOf a0.Kind_).bind fun q => (match q with | (r1, r2) => (gdO ((!(decide (a0.Kids_ < r1) || decide (a0.Kids_ > r2))) && (a0.Kind_ != 1)) (impl_yzeroAtom a0.Atom_)).bind fun r4 => cond ((decide (a0.Kids_ < r1) || decide (a0.Kids_ > r2)) || ((a0.Kind_ != 1) && (!r4))) (some false) (cond (a0.Kind_ == 1) ((gdO (a0.Text_.toList == (ByteArray.mk #[]).toList) (impl_GoodAtom a0.Atom_)).bind fun r6 => some ((a0.Text_.toList == (ByteArray.mk #[]).toList) && r6)) (cond (a0.Kind_ == 3) ((slices_Contains gv_0 a0.Text_).bind fun r8 => some r8) (cond (a0.Kind_ == 4) (impl_ygoodExprNode_j1 a0 (a0.Kind_ == 4)) (cond (a0.Kind_ == 5) (impl_ygoodExprNode_j1 a0 (a0.Kind_ == 5)) (impl_ygoodExprNode_j1 a0 (a0.Kind_ == 21))))))))
theorem impl_ygoodExprNode_p  {a0 : T_impl_Expr} {R0 : Bool} (H : impl_ygoodExprNode a0 = some R0) : Pure Go.Proofs.Tryz.prog 68 [.agg (c_T_impl_Expr false a0)] (.bool R0) := by
 refine CallT.of_TN (n := 84) Go.Proofs.Tryz.func68 rfl rfl rfl rfl ?_
 refine T.seq (T.region (TL.st rfl rfl rfl (o_box rfl rfl rfl) (TL.st rfl rfl rfl (o_assign rfl rfl) (TL.nil (thn_normal (T.seq (T.seq (T.region (TL.st rfl rfl rfl (o_fieldAddr rfl rfl rfl tyS_3 (by decide) rfl rfl ⟨_, rfl, Nat.le_of_ble_eq_true rfl⟩) ?_)))))))))
 refine TL.st rfl rfl rfl (o_loadBx rfl tyS_3 rfl rfl (Nat.le_of_ble_eq_true rfl) rfl) ?_
 refine TL.st rfl rfl rfl (o_ari rfl rfl rfl rfl) (TL.st rfl rfl rfl (o_move rfl rfl) (TL.gcq rfl rfl rfl (.bool _) rfl rfl (fun h => o_fieldAddr rfl rfl rfl tyS_3 (by decide) rfl rfl ⟨_, rfl, Nat.le_of_ble_eq_true rfl⟩) ?_))
 refine TL.gcq rfl rfl rfl (.bool _) rfl rfl (fun h => o_loadBx rfl tyS_3 (gv h rfl) rfl (Nat.le_of_ble_eq_true rfl) rfl) ?_
 refine TL.gcq rfl rfl rfl (.bool _) rfl rfl (fun h => o_ari rfl (gv h rfl) rfl rfl) ?_
 refine TL.st rfl rfl rfl (o_or rfl rfl rfl rfl (fun k => Gd_t k)) (TL.nil (thn_normal ?_))
 refine T.cond ((decide (a0.Kind_ < 1) || decide (a0.Kind_ > 21))) rfl (fun h => ?_) (fun h => ?_)
 ·replace H := cond_t h H
  refine T.seq (T.region (TL.st rfl rfl rfl (o_assign rfl rfl) (TL.nil (thn_normal (T.ret (thn_ret ?_))))))
  cases some_i H
  exact ⟨trivial, _, (.tmp _ _ _ _ rfl .nil), (.cl _ rfl)⟩
 ·replace H := cond_f h H
  refine T.skip (thn_normal (T.seq (T.region (TL.st rfl rfl rfl (o_fieldAddr rfl rfl rfl tyS_3 (by decide) rfl rfl ⟨_, rfl, Nat.le_of_ble_eq_true rfl⟩) ?_))))
  refine TL.st rfl rfl rfl (o_loadBx rfl tyS_3 rfl rfl (Nat.le_of_ble_eq_true rfl) rfl) ?_
  obtain ⟨⟨r1, r2⟩, h3, H⟩ := bind_s H
  refine TL.st rfl rfl rfl (o_callP rfl en_87 rfl rfl (.cons _ _ _ _ (.cl _ rfl) .nil) (impl_ykidsOf_p  h3)) ?_
  refine TL.st rfl rfl rfl (o_move rfl rfl) (TL.st rfl rfl rfl (o_extract rfl rfl rfl) (TL.st rfl rfl rfl (o_extract rfl rfl rfl) (TL.st rfl rfl rfl (o_assign rfl rfl) (TL.st rfl rfl rfl (o_assign rfl rfl) (TL.nil (thn_normal (T.seq (T.seq (T.region (TL.st rfl rfl rfl (o_fieldAddr rfl rfl rfl tyS_3 (by decide) rfl rfl ⟨_, rfl, Nat.le_of_ble_eq_true rfl⟩) ?_))))))))))
  refine TL.st rfl rfl rfl (o_loadBx rfl tyS_3 rfl rfl (Nat.le_of_ble_eq_true rfl) rfl) ?_
  refine TL.st rfl rfl rfl (o_move rfl rfl) (TL.st rfl rfl rfl (o_ari rfl rfl rfl rfl) (TL.st rfl rfl rfl (o_move rfl rfl) (TL.gcq rfl rfl rfl (.bool _) rfl rfl (fun h => o_fieldAddr rfl rfl rfl tyS_3 (by decide) rfl rfl ⟨_, rfl, Nat.le_of_ble_eq_true rfl⟩) ?_)))
  refine TL.gcq rfl rfl rfl (.bool _) rfl rfl (fun h => o_loadBx rfl tyS_3 (gv h rfl) rfl (Nat.le_of_ble_eq_true rfl) rfl) ?_
  refine TL.gcq rfl rfl rfl (.bool _) rfl rfl (fun h => o_move rfl rfl) (TL.gcq rfl rfl rfl (.bool _) rfl rfl (fun h => o_ari rfl (gv h rfl) (gv h rfl) rfl) ?_)
  refine TL.st rfl rfl rfl (o_or rfl rfl rfl rfl (fun k => Gd_t k)) (TL.st rfl rfl rfl (o_move rfl rfl) (TL.gcq rfl rfl rfl (.bool _) rfl rfl (fun h => o_fieldAddr rfl rfl rfl tyS_3 (by decide) rfl rfl ⟨_, rfl, Nat.le_of_ble_eq_true rfl⟩) ?_))
  refine TL.gcq rfl rfl rfl (.bool _) rfl rfl (fun h => o_loadBx rfl tyS_3 (gv h rfl) rfl (Nat.le_of_ble_eq_true rfl) rfl) ?_
  refine TL.gcq rfl rfl rfl (.bool _) rfl rfl (fun h => o_ari rfl (gv h rfl) rfl rfl) ?_
  refine TL.gcq rfl rfl rfl (.bool _) rfl rfl (fun h => o_move rfl (gv h rfl)) ?_
  refine TL.gcq rfl rfl rfl (.gd _ _) rfl rfl (fun h => o_fieldAddr rfl rfl rfl tyS_24 (by decide) rfl rfl ⟨_, rfl, Nat.le_of_ble_eq_true rfl⟩) ?_
  refine TL.gcq rfl rfl rfl (.gd _ _) rfl rfl (fun h => o_loadBx rfl tyS_24 (gv h rfl) rfl (Nat.le_of_ble_eq_true rfl) rfl) ?_
  obtain ⟨r4, h5, H⟩ := bind_s H
  refine TL.gcq rfl rfl rfl (.gd _ _) rfl rfl (fun h => o_callP rfl en_57 rfl (evl_1 (gv h rfl)) (.cons _ _ _ _ (.cl _ rfl) .nil) (impl_yzeroAtom_p  (gdO_t h5 h))) ?_
  refine TL.gcq rfl rfl rfl (.gd _ _) rfl rfl (fun h => o_not rfl (gv h rfl)) ?_
  refine TL.gcq rfl rfl rfl (.bool _) rfl rfl (fun h => o_and rfl (gv h rfl) rfl (fun k => Gd_t (andi h k)) rfl) ?_
  refine TL.st rfl rfl rfl (o_or rfl rfl rfl rfl (fun k => Gd_t k)) (TL.nil (thn_normal ?_))
  refine T.cond (((decide (a0.Kids_ < r1) || decide (a0.Kids_ > r2)) || ((a0.Kind_ != 1) && (!r4)))) rfl (fun h => ?_) (fun h => ?_)
  ·replace H := cond_t h H
   refine T.seq (T.region (TL.st rfl rfl rfl (o_assign rfl rfl) (TL.nil (thn_normal (T.ret (thn_ret ?_))))))
   cases some_i H
   exact ⟨trivial, _, (.tmp _ _ _ _ rfl .nil), (.cl _ rfl)⟩
  ·replace H := cond_f h H
   refine T.skip (thn_normal (T.seq (T.seq (T.region (TL.st rfl rfl rfl (o_fieldAddr rfl rfl rfl tyS_3 (by decide) rfl rfl ⟨_, rfl, Nat.le_of_ble_eq_true rfl⟩) ?_)))))
   refine TL.st rfl rfl rfl (o_loadBx rfl tyS_3 rfl rfl (Nat.le_of_ble_eq_true rfl) rfl) ?_
   refine TL.nil (thn_normal (T.block (T.seq (T.region (TL.st rfl rfl rfl (o_ari rfl rfl rfl rfl) (TL.st rfl rfl rfl (o_assign rfl rfl) (TL.nil (thn_normal ?_))))))))
   refine T.cond ((a0.Kind_ == 1)) rfl (fun h => ?_) (fun h => ?_)
   ·replace H := cond_t h H
    refine T.seq (T.region (TL.st rfl rfl rfl (o_fieldAddr rfl rfl rfl tyS_9 (by decide) rfl rfl ⟨_, rfl, Nat.le_of_ble_eq_true rfl⟩) ?_))
    refine TL.st rfl rfl rfl (o_loadBx rfl tyS_9 rfl rfl (Nat.le_of_ble_eq_true rfl) rfl) ?_
    refine TL.st rfl rfl rfl (o_str rfl rfl rfl rfl) ?_
    refine TL.st rfl rfl rfl (o_move rfl rfl) (TL.gcq rfl rfl rfl (.bool _) rfl rfl (fun h => o_fieldAddr rfl rfl rfl tyS_24 (by decide) rfl rfl ⟨_, rfl, Nat.le_of_ble_eq_true rfl⟩) ?_)
    refine TL.gcq rfl rfl rfl (.bool _) rfl rfl (fun h => o_loadBx rfl tyS_24 (gv h rfl) rfl (Nat.le_of_ble_eq_true rfl) rfl) ?_
    obtain ⟨r6, h7, H⟩ := bind_s H
    refine TL.gcq rfl rfl rfl (.bool _) rfl rfl (fun h => o_callP rfl en_45 rfl (evl_1 (gv h rfl)) (.cons _ _ _ _ (.cl _ rfl) .nil) (impl_GoodAtom_p  (gdO_t h7 h))) ?_
    refine TL.st rfl rfl rfl (o_and rfl rfl rfl (fun k => Gd_t k) rfl) (TL.st rfl rfl rfl (o_assign rfl rfl) (TL.nil (thn_normal (T.ret (inB_ret (thn_ret ?_))))))
    cases some_i H
    exact ⟨trivial, _, (.tmp _ _ _ _ rfl .nil), (.cl _ rfl)⟩
   ·replace H := cond_f h H
    refine T.seq (T.region (TL.st rfl rfl rfl (o_ari rfl rfl rfl rfl) (TL.st rfl rfl rfl (o_assign rfl rfl) (TL.nil (thn_normal ?_)))))
    refine T.cond ((a0.Kind_ == 3)) rfl (fun h => ?_) (fun h => ?_)
    ·replace H := cond_t h H
     refine T.seq (T.region (TL.st rfl rfl rfl (o_loadRf rfl tyS_50 rfl (Nat.le_of_ble_eq_true rfl) rfl) ?_))
     refine TL.st rfl rfl rfl (o_fieldAddr rfl rfl rfl tyS_9 (by decide) rfl rfl ⟨_, rfl, Nat.le_of_ble_eq_true rfl⟩) ?_
     refine TL.st rfl rfl rfl (o_loadBx rfl tyS_9 rfl rfl (Nat.le_of_ble_eq_true rfl) rfl) ?_
     obtain ⟨r8, h9, H⟩ := bind_s H
     refine TL.st rfl rfl rfl (o_callP rfl en_88 rfl rfl (.cons _ _ _ _ (.cl _ rfl) (.cons _ _ _ _ (.cl _ rfl) .nil)) (slices_Contains_p false h9)) ?_
     refine TL.st rfl rfl rfl (o_assign rfl rfl) (TL.nil (thn_normal (T.ret (inB_ret (thn_ret ?_)))))
     cases some_i H
     exact ⟨trivial, _, (.tmp _ _ _ _ rfl .nil), (.cl _ rfl)⟩
    ·replace H := cond_f h H
     refine T.cut (fun fr' σ' => ∃ (v10 : Bool), fr' = [(1, .bx 0 0), (43, .int .i64 a0.Kind_), (60, .bool v10)] ∧ σ' = [.box (c_T_impl_Expr false a0)] ∧ impl_ygoodExprNode_j1 a0 v10 = some R0) (T.pk ?_) ?_
     ·skip
      refine T.seq (T.region (TL.st rfl rfl rfl (o_ari rfl rfl rfl rfl) (TL.st rfl rfl rfl (o_assign rfl rfl) (TL.nil (thn_normal ?_)))))
      refine T.cond ((a0.Kind_ == 4)) rfl (fun h => ?_) (fun h => ?_)
      ·replace H := cond_t h H
       refine T.skip ?_
       exact Pk.go (fr' := [(1, .bx 0 0), (43, .int .i64 a0.Kind_), (60, .bool (a0.Kind_ == 4))]) (σ' := [.box (c_T_impl_Expr false a0)]) _ rfl rfl ⟨(bels_iff.1 rfl), trivial⟩ (.cons 1 _ (.bx 0 0) _ rfl (.same _) rfl (.cons 43 _ (.int .i64 a0.Kind_) _ rfl (.same _) rfl (.cons 60 _ (.bool (a0.Kind_ == 4)) _ rfl (.same _) rfl .nil))) (thn_normal ⟨(a0.Kind_ == 4), rfl, rfl, H⟩)
      ·replace H := cond_f h H
       refine T.seq (T.region (TL.st rfl rfl rfl (o_ari rfl rfl rfl rfl) (TL.st rfl rfl rfl (o_assign rfl rfl) (TL.nil (thn_normal ?_)))))
       refine T.cond ((a0.Kind_ == 5)) rfl (fun h => ?_) (fun h => ?_)
       ·replace H := cond_t h H
        refine T.skip ?_
        exact Pk.go (fr' := [(1, .bx 0 0), (43, .int .i64 a0.Kind_), (60, .bool (a0.Kind_ == 5))]) (σ' := [.box (c_T_impl_Expr false a0)]) _ rfl rfl ⟨(bels_iff.1 rfl), trivial⟩ (.cons 1 _ (.bx 0 0) _ rfl (.same _) rfl (.cons 43 _ (.int .i64 a0.Kind_) _ rfl (.same _) rfl (.cons 60 _ (.bool (a0.Kind_ == 5)) _ rfl (.same _) rfl .nil))) (thn_normal ⟨(a0.Kind_ == 5), rfl, rfl, H⟩)
       ·replace H := cond_f h H
        refine T.region (TL.st rfl rfl rfl (o_ari rfl rfl rfl rfl) (TL.st rfl rfl rfl (o_assign rfl rfl) (TL.nil ?_)))
        exact Pk.go (fr' := [(1, .bx 0 0), (43, .int .i64 a0.Kind_), (60, .bool (a0.Kind_ == 21))]) (σ' := [.box (c_T_impl_Expr false a0)]) _ rfl rfl ⟨(bels_iff.1 rfl), trivial⟩ (.cons 1 _ (.bx 0 0) _ rfl (.same _) rfl (.cons 43 _ (.int .i64 a0.Kind_) _ rfl (.same _) rfl (.cons 60 _ (.bool (a0.Kind_ == 21)) _ rfl (.same _) rfl .nil))) (thn_normal ⟨(a0.Kind_ == 21), rfl, rfl, H⟩)
     ·rintro _ _ ⟨v10, rfl, rfl, H⟩
      refine T.cond (v10) rfl (fun h => ?_) (fun h => ?_)
      ·replace H := cond_t h H
       refine T.seq (T.region (TL.st rfl rfl rfl (o_fieldAddr rfl rfl rfl tyS_9 (by decide) rfl rfl ⟨_, rfl, Nat.le_of_ble_eq_true rfl⟩) ?_))
       refine TL.st rfl rfl rfl (o_loadBx rfl tyS_9 rfl rfl (Nat.le_of_ble_eq_true rfl) rfl) ?_
       obtain ⟨r11, h12, H⟩ := bind_s H
       refine TL.st rfl rfl rfl (o_callP rfl en_58 rfl rfl (.cons _ _ _ _ (.cl _ rfl) .nil) (impl_GoodName_p  h12)) ?_
       refine TL.st rfl rfl rfl (o_assign rfl rfl) (TL.nil (thn_normal (T.ret (inB_ret (thn_ret ?_)))))
       cases some_i H
       exact ⟨trivial, _, (.tmp _ _ _ _ rfl .nil), (.cl _ rfl)⟩
      ·replace H := cond_f h H
       refine T.seq (T.region (TL.st rfl rfl rfl (o_ari rfl rfl rfl rfl) (TL.st rfl rfl rfl (o_assign rfl rfl) (TL.nil (thn_normal ?_)))))
       refine T.cond ((a0.Kind_ == 20)) rfl (fun h => ?_) (fun h => ?_)
       ·replace H := cond_t h H
        refine T.seq (T.region (TL.st rfl rfl rfl (o_fieldAddr rfl rfl rfl tyS_9 (by decide) rfl rfl ⟨_, rfl, Nat.le_of_ble_eq_true rfl⟩) ?_))
        refine TL.st rfl rfl rfl (o_loadBx rfl tyS_9 rfl rfl (Nat.le_of_ble_eq_true rfl) rfl) ?_
        obtain ⟨⟨r13, r14⟩, h15, H⟩ := bind_s H
        refine TL.st rfl rfl rfl (o_callP rfl en_89 rfl rfl (.cons _ _ _ _ (.cl _ rfl) .nil) (impl_ypattern_p  h15)) ?_
        refine TL.st rfl rfl rfl (o_move rfl rfl) (TL.st rfl rfl rfl (o_extract rfl rfl rfl) (TL.st rfl rfl rfl (o_extract rfl rfl rfl) (TL.st rfl rfl rfl (o_assign rfl rfl) (TL.st rfl rfl rfl (o_assign rfl rfl) (TL.nil (thn_normal (T.seq (T.region (TL.st rfl rfl rfl (o_move rfl rfl) (TL.st rfl rfl rfl (o_move rfl rfl) (TL.gcq rfl rfl rfl (.bool _) rfl rfl (fun h => o_fieldAddr rfl rfl rfl tyS_9 (by decide) rfl rfl ⟨_, rfl, Nat.le_of_ble_eq_true rfl⟩) ?_)))))))))))
        refine TL.gcq rfl rfl rfl (.bool _) rfl rfl (fun h => o_loadBx rfl tyS_9 (gv h rfl) rfl (Nat.le_of_ble_eq_true rfl) rfl) ?_
        obtain ⟨r16, h17, H⟩ := bind_s H
        refine TL.gcq rfl rfl rfl (.bool _) rfl rfl (fun h => o_callP rfl en_72 rfl (evl_3 (gv h rfl) rfl rfl) (.cons _ _ _ _ (.cl _ rfl) (.cons _ _ _ _ (.cl _ rfl) (.cons _ _ _ _ (.cl _ rfl) .nil))) (impl_yprinted_p  (gdO_t h17 h))) ?_
        refine TL.st rfl rfl rfl (o_and rfl rfl rfl (fun k => Gd_t k) rfl) (TL.st rfl rfl rfl (o_assign rfl rfl) (TL.nil (thn_normal (T.ret (inB_ret (thn_ret ?_))))))
        cases some_i H
        exact ⟨trivial, _, (.tmp _ _ _ _ rfl .nil), (.cl _ rfl)⟩
       ·replace H := cond_f h H
        refine T.skip (inB_normal (thn_normal (T.seq (T.region (TL.st rfl rfl rfl (o_fieldAddr rfl rfl rfl tyS_9 (by decide) rfl rfl ⟨_, rfl, Nat.le_of_ble_eq_true rfl⟩) ?_)))))
        refine TL.st rfl rfl rfl (o_loadBx rfl tyS_9 rfl rfl (Nat.le_of_ble_eq_true rfl) rfl) ?_
        refine TL.st rfl rfl rfl (o_str rfl rfl rfl rfl) ?_
        refine TL.st rfl rfl rfl (o_assign rfl rfl) (TL.nil (thn_normal (T.ret ?_)))
        cases some_i H
        exact ⟨trivial, _, (.tmp _ _ _ _ rfl .nil), (.cl _ rfl)⟩
theorem en_68 (us : Array Value) (w : World) : (callFunc 68 us).run Go.Proofs.Tryz.prog w = .ok (.enter 68 us) w := enters Go.Proofs.Tryz.func68 rfl rfl us w
noncomputable def impl_GoodExpr_1 (a0 : T_impl_Expr) : Option Bool :=
  (impl_ygoodExprNode a0).bind fun r1 => some (!r1)
theorem impl_GoodExpr_1_p  {a0 : T_impl_Expr} {R0 : Bool} (H : impl_GoodExpr_1 a0 = some R0) : Pure Go.Proofs.Tryz.prog 67 [.agg (c_T_impl_Expr false a0)] (.bool R0) := by
 refine CallT.of_TN (n := 6) Go.Proofs.Tryz.func67 rfl rfl rfl rfl ?_
 refine T.seq (T.region (TL.st rfl rfl rfl (o_box rfl rfl rfl) (TL.st rfl rfl rfl (o_assign rfl rfl) (TL.nil (thn_normal (T.seq (T.region (TL.st rfl rfl rfl (o_loadBx rfl tyS_57 rfl rfl (Nat.le_of_ble_eq_true rfl) rfl) ?_))))))))
 obtain ⟨r1, h2, H⟩ := bind_s H
 refine TL.st rfl rfl rfl (o_callP rfl en_68 rfl rfl (.cons _ _ _ _ (.cl _ rfl) .nil) (impl_ygoodExprNode_p  h2)) ?_
 refine TL.st rfl rfl rfl (o_not rfl rfl) ?_
 refine TL.st rfl rfl rfl (o_assign rfl rfl) (TL.nil (thn_normal (T.ret ?_)))
 cases some_i H
 exact ⟨trivial, _, (.tmp _ _ _ _ rfl .nil), (.cl _ rfl)⟩
theorem en_67 (us : Array Value) (w : World) : (callFunc 67 us).run Go.Proofs.Tryz.prog w = .ok (.enter 67 us) w := enters Go.Proofs.Tryz.func67 rfl rfl us w
noncomputable def impl_Expr_x_l1 (a0 : (List T_impl_Expr)) : Int → Option (Int ⊕ (Unit ⊕ Int)) := fun s => match s with
  | v1 => cond (decide (v1 < (a0.length : Int))) ((idx a0 v1).bind fun e4 => (impl_GoodExpr_1 e4).bind fun r6 => cond r6 (some (.inr (.inr v1))) (some (.inl (IntKind.i64.wrap (v1 + 1))))) (some (.inr (.inl ())))
noncomputable def impl_Expr_x (a0 : (List T_impl_Expr)) : Option Int :=
  (loopO (impl_Expr_x_l1 a0) 0).bind fun q8 => (match q8 with | .inl _ => some (-1) | .inr q2 => some q2)
theorem impl_Expr_x_p (b0 : Bool) {a0 : (List T_impl_Expr)} {R0 : Int} (H : impl_Expr_x a0 = some R0) : Pure Go.Proofs.Tryz.prog 86 [.im b0 (a0.map (c_T_impl_Expr false)), .fn 67 [] []] (.int .i64 R0) := by
 refine CallT.of_TN (n := 19) Go.Proofs.Tryz.func86 rfl rfl rfl rfl ?_
 refine T.seq (T.region (TL.st rfl rfl rfl (o_assign rfl rfl) (TL.nil (thn_normal (T.seq (T.seq (T.region (TL.st rfl rfl rfl (o_move rfl rfl) (TL.st rfl rfl rfl (o_lenL (f := c_T_impl_Expr false) rfl rfl rfl) ?_)))))))))
 refine TL.st rfl rfl rfl (o_move rfl rfl) (TL.nil (thn_normal (T.block ?_)))
 obtain ⟨q8, h9, H⟩ := bind_s H
 refine T.to (.cons 0 _ (.im b0 (a0.map (c_T_impl_Expr false))) _ rfl (.same _) rfl (.cons 1 _ (.fn 67 [] []) _ rfl (.same _) rfl (.cons 7 _ (.int .i64 (a0.length : Int)) _ rfl (.same _) rfl (.cons 8 _ (.int .i64 0) _ rfl (.same _) rfl .nil)))) ?_
 refine T.lp (fun s => match s with | v1 => [(0, .im b0 (a0.map (c_T_impl_Expr false))), (1, .fn 67 [] []), (7, .int .i64 (a0.length : Int)), (8, .int .i64 v1)]) (fun s => match s with | v1 => []) (fun q ex fr σ => match q with | .inl _ => ex = .exit 0 ∧ fr = [] ∧ σ = [] | .inr q2 => ex = .ret ∧ RetN Go.Proofs.Tryz.prog [.tmp 4] (fun v τ => Told τ v (.int .i64 q2)) .ret fr σ) h9 ?_ ?_ ?_ ?_ ?_
 ·rintro v1 y3 H
  refine T.seq (T.region (TL.st rfl rfl rfl (o_ari rfl rfl rfl rfl) (TL.nil (thn_normal (T.seq ?_)))))
  refine T.cond (decide (v1 < (a0.length : Int))) rfl (fun h => ?_) (fun h => ?_)
  ·replace H := cond_t h H
   refine T.skip (thn_normal (T.seq (T.block (T.seq (T.region (TL.st rfl rfl rfl (o_move rfl rfl) (TL.st rfl rfl rfl (o_assign rfl rfl) (TL.nil (thn_normal (T.seq (T.region (TL.st rfl rfl rfl (o_move rfl rfl) (TL.st rfl rfl rfl (o_move rfl rfl) (TL.st rfl rfl rfl (o_move rfl rfl) ?_))))))))))))))
   obtain ⟨e4, h5, H⟩ := bind_s H
   refine TL.st rfl rfl rfl (o_ix (f := c_T_impl_Expr false) rfl rfl tyS_57 rfl rfl h5 rfl) ?_
   refine TL.st rfl rfl rfl (o_loadRf rfl tyS_57 rfl (Nat.le_of_ble_eq_true rfl) rfl) ?_
   obtain ⟨r6, h7, H⟩ := bind_s H
   refine TL.st rfl rfl rfl (o_callP rfl en_67 rfl rfl (.cons _ _ _ _ (.cl _ rfl) .nil) (impl_GoodExpr_1_p  h7)) ?_
   refine TL.nil (thn_normal ?_)
   refine T.cond (r6) rfl (fun h => ?_) (fun h => ?_)
   ·replace H := cond_t h H
    refine T.seq (T.region (TL.st rfl rfl rfl (o_move rfl rfl) (TL.st rfl rfl rfl (o_assign rfl rfl) (TL.nil (thn_normal (T.ret (inB_ret (thn_ret ?_))))))))
    exact Pk.id (thn_ret ⟨.inr v1, (some_i H).symm, rfl, ⟨trivial, _, (.tmp _ _ _ _ rfl .nil), (.cl _ rfl)⟩⟩)
   ·replace H := cond_f h H
    refine T.skip (inB_normal (thn_normal (T.region (TL.st rfl rfl rfl (o_ari rfl rfl rfl rfl) (TL.st rfl rfl rfl (o_move rfl rfl) (TL.nil ?_))))))
    exact Pk.go (fr' := [(0, .im b0 (a0.map (c_T_impl_Expr false))), (1, .fn 67 [] []), (7, .int .i64 (a0.length : Int)), (8, .int .i64 (IntKind.i64.wrap (v1 + 1)))]) (σ' := []) _ rfl rfl trivial (.cons 0 _ (.im b0 (a0.map (c_T_impl_Expr false))) _ rfl (.same _) rfl (.cons 1 _ (.fn 67 [] []) _ rfl (.same _) rfl (.cons 7 _ (.int .i64 (a0.length : Int)) _ rfl (.same _) rfl (.cons 8 _ (.int .i64 (IntKind.i64.wrap (v1 + 1))) _ rfl (.same _) rfl .nil)))) (thn_normal ⟨(IntKind.i64.wrap (v1 + 1)), (some_i H).symm, rfl, rfl⟩)
  ·replace H := cond_f h H
   refine T.exit (thn_exit ?_)
   exact Pk.go (fr' := []) (σ' := []) _ rfl rfl trivial .nil (thn_exit ⟨.inl (), (some_i H).symm, rfl, rfl, rfl⟩)
 ·rintro v1 v1'; rfl
 ·rintro v1; exact trivial
 ·rintro v1; exact (.cons _ _ _ rfl rfl (.cons _ _ _ rfl rfl (.cons _ _ _ rfl rfl (.cons _ _ _ rfl rfl .nil))))
 ·rcases q8 with ⟨⟩ | q2
  ·rintro _ _ _ ⟨rfl, rfl, rfl⟩
   refine inB_here (thn_normal (T.seq (T.region (TL.st rfl rfl rfl (o_assign rfl rfl) (TL.nil (thn_normal (T.ret ?_)))))))
   cases some_i H
   exact ⟨trivial, _, (.tmp _ _ _ _ rfl .nil), (.cl _ rfl)⟩
  ·rintro _ fr1 σ1 ⟨rfl, hr⟩
   refine inB_ret (thn_ret ?_)
   cases some_i H
   exact hr
theorem en_86 (us : Array Value) (w : World) : (callFunc 86 us).run Go.Proofs.Tryz.prog w = .ok (.enter 86 us) w := enters Go.Proofs.Tryz.func86 rfl rfl us w
noncomputable def impl_Expr_ (a0 : (List T_impl_Expr)) : Option Bool :=
  (impl_Expr_x a0).bind fun r1 => some (decide (r1 ≥ 0))
theorem impl_Expr__p (b0 : Bool) {a0 : (List T_impl_Expr)} {R0 : Bool} (H : impl_Expr_ a0 = some R0) : Pure Go.Proofs.Tryz.prog 66 [.im b0 (a0.map (c_T_impl_Expr false)), .fn 67 [] []] (.bool R0) := by
 refine CallT.of_TN (n := 9) Go.Proofs.Tryz.func66 rfl rfl rfl rfl ?_
 refine T.seq (T.region (TL.st rfl rfl rfl (o_assign rfl rfl) (TL.nil (thn_normal (T.seq (T.region (TL.st rfl rfl rfl (o_move rfl rfl) (TL.st rfl rfl rfl (o_move rfl rfl) ?_))))))))
 obtain ⟨r1, h2, H⟩ := bind_s H
 refine TL.st rfl rfl rfl (o_callP rfl en_86 rfl rfl (.cons _ _ _ _ (.imv _ _) (.cons _ _ _ _ (.fn _ _ _ _ _ rfl rfl (fun i c d h => by simp at h) (fun i c d h => by simp at h)) .nil)) (impl_Expr_x_p b0 h2)) ?_
 refine TL.st rfl rfl rfl (o_ari rfl rfl rfl rfl) (TL.st rfl rfl rfl (o_assign rfl rfl) (TL.nil (thn_normal (T.ret ?_))))
 cases some_i H
 exact ⟨trivial, _, (.tmp _ _ _ _ rfl .nil), (.cl _ rfl)⟩
theorem en_66 (us : Array Value) (w : World) : (callFunc 66 us).run Go.Proofs.Tryz.prog w = .ok (.enter 66 us) w := enters Go.Proofs.Tryz.func66 rfl rfl us w
theorem en_69 (us : Array Value) (w : World) : (callFunc 69 us).run Go.Proofs.Tryz.prog w = .ok (.enter 69 us) w := enters Go.Proofs.Tryz.func69 rfl rfl us w
noncomputable def impl_yexprEnd_l1 (a0 : (List T_impl_Expr)) (a2 : Int) (rec_impl_yexprEnd : ((List T_impl_Expr) × Int × Int) → Option Int) (e1 : T_impl_Expr) : (Int × Int) → Option ((Int × Int) ⊕ (Int ⊕ Int)) := fun s => match s with
  | (v3, v4) => cond (decide (v4 < e1.Kids_)) ((gdO ((e1.Kind_ == 2) && (!(decide (v3 ≥ (a0.length : Int))))) (idx a0 v3)).bind fun e8 => cond ((e1.Kind_ == 2) && (decide (v3 ≥ (a0.length : Int)) || (e8.Kind_ != 1))) (some (.inr (.inr (-1)))) ((rec_impl_yexprEnd (a0, v3, (IntKind.i64.wrap (a2 + 1)))).bind fun r10 => cond (decide (r10 < 0)) (some (.inr (.inr (-1)))) (some (.inl (r10, (IntKind.i64.wrap (v4 + 1))))))) (some (.inr (.inl v3)))
noncomputable def impl_yexprEnd_b (rec_impl_yexprEnd : ((List T_impl_Expr) × Int × Int) → Option Int) (a0 : (List T_impl_Expr)) (a1 : Int) (a2 : Int) : Option Int :=
  cond (decide (a1 ≥ (a0.length : Int)) || decide (a2 > 12)) (some (-1)) ((idx a0 a1).bind fun e1 => (loopO (impl_yexprEnd_l1 a0 a2 rec_impl_yexprEnd e1) ((IntKind.i64.wrap (a1 + 1)), 0)).bind fun q12 => (match q12 with | .inl v5 => some v5 | .inr q6 => some q6))
noncomputable def impl_yexprEnd (a0 : (List T_impl_Expr)) (a1 : Int) (a2 : Int) : Option Int := fixO (fun rec_impl_yexprEnd x => match x with | (a0, a1, a2) => impl_yexprEnd_b rec_impl_yexprEnd a0 a1 a2) (a0, a1, a2)
theorem impl_yexprEnd_pb {rec_impl_yexprEnd : ((List T_impl_Expr) × Int × Int) → Option Int} (Hrec_impl_yexprEnd : ∀ (b0 : Bool) {a0 : (List T_impl_Expr)} {a1 : Int} {a2 : Int} {R0 : Int}, rec_impl_yexprEnd (a0, a1, a2) = some R0 → Pure Go.Proofs.Tryz.prog 69 [.im b0 (a0.map (c_T_impl_Expr false)), .int .i64 a1, .int .i64 a2] (.int .i64 R0)) (b0 : Bool) {a0 : (List T_impl_Expr)} {a1 : Int} {a2 : Int} {R0 : Int} (H : impl_yexprEnd_b rec_impl_yexprEnd a0 a1 a2 = some R0) : Pure Go.Proofs.Tryz.prog 69 [.im b0 (a0.map (c_T_impl_Expr false)), .int .i64 a1, .int .i64 a2] (.int .i64 R0) := by
 refine CallT.of_TN (n := 52) Go.Proofs.Tryz.func69 rfl rfl rfl rfl ?_
 refine T.seq (T.region (TL.st rfl rfl rfl (o_assign rfl rfl) (TL.nil (thn_normal (T.seq (T.seq (T.region (TL.st rfl rfl rfl (o_move rfl rfl) (TL.st rfl rfl rfl (o_move rfl rfl) (TL.st rfl rfl rfl (o_lenL (f := c_T_impl_Expr false) rfl rfl rfl) ?_))))))))))
 refine TL.st rfl rfl rfl (o_ari rfl rfl rfl rfl) (TL.st rfl rfl rfl (o_move rfl rfl) (TL.gcq rfl rfl rfl (.bool _) rfl rfl (fun h => o_move rfl rfl) (TL.gcq rfl rfl rfl (.bool _) rfl rfl (fun h => o_ari rfl (gv h rfl) rfl rfl) ?_)))
 refine TL.st rfl rfl rfl (o_or rfl rfl rfl rfl (fun k => Gd_t k)) (TL.nil (thn_normal ?_))
 refine T.cond ((decide (a1 ≥ (a0.length : Int)) || decide (a2 > 12))) rfl (fun h => ?_) (fun h => ?_)
 ·replace H := cond_t h H
  refine T.seq (T.region (TL.st rfl rfl rfl (o_assign rfl rfl) (TL.nil (thn_normal (T.ret (thn_ret ?_))))))
  cases some_i H
  exact ⟨trivial, _, (.tmp _ _ _ _ rfl .nil), (.cl _ rfl)⟩
 ·replace H := cond_f h H
  refine T.skip (thn_normal (T.seq (T.region (TL.st rfl rfl rfl (o_move rfl rfl) (TL.st rfl rfl rfl (o_move rfl rfl) ?_)))))
  obtain ⟨e1, h2, H⟩ := bind_s H
  refine TL.st rfl rfl rfl (o_ix (f := c_T_impl_Expr false) rfl rfl tyS_57 rfl rfl h2 rfl) ?_
  refine TL.st rfl rfl rfl (o_loadRf rfl tyS_57 rfl (Nat.le_of_ble_eq_true rfl) rfl) ?_
  refine TL.st rfl rfl rfl (o_alloc rfl ⟨_, rfl, rfl⟩) (TL.sn rfl rfl (o_storeBx rfl tyS_57 rfl rfl rfl rfl (Nat.le_of_ble_eq_true rfl) rfl) ?_)
  refine TL.nil (thn_normal (T.seq (T.region (TL.st rfl rfl rfl (o_move rfl rfl) (TL.st rfl rfl rfl (o_ari rfl rfl rfl rfl) (TL.st rfl rfl rfl (o_assign rfl rfl) (TL.nil (thn_normal (T.seq (T.seq (T.region (TL.st rfl rfl rfl (o_fieldAddr rfl rfl rfl tyS_3 (by decide) rfl rfl ⟨_, rfl, Nat.le_of_ble_eq_true rfl⟩) ?_))))))))))))
  refine TL.st rfl rfl rfl (o_loadBx rfl tyS_3 rfl rfl (Nat.le_of_ble_eq_true rfl) rfl) ?_
  refine TL.st rfl rfl rfl (o_move rfl rfl) (TL.nil (thn_normal (T.block ?_)))
  obtain ⟨q12, h13, H⟩ := bind_s H
  refine T.to (.cons 0 _ (.im b0 (a0.map (c_T_impl_Expr false))) _ rfl (.same _) rfl (.cons 1 _ (.int .i64 (IntKind.i64.wrap (a1 + 1))) _ rfl (.same _) rfl (.cons 2 _ (.int .i64 a2) _ rfl (.same _) rfl (.cons 7 _ (.bx 0 0) _ rfl (.same _) rfl (.cons 23 _ (.int .i64 e1.Kids_) _ rfl (.same _) rfl (.cons 24 _ (.int .i64 0) _ rfl (.same _) rfl .nil)))))) ?_
  refine T.lp (fun s => match s with | (v3, v4) => [(0, .im b0 (a0.map (c_T_impl_Expr false))), (1, .int .i64 v3), (2, .int .i64 a2), (7, .bx 0 0), (23, .int .i64 e1.Kids_), (24, .int .i64 v4)]) (fun s => match s with | (v3, v4) => [.box (c_T_impl_Expr false e1)]) (fun q ex fr σ => match q with | .inl v5 => ex = .exit 0 ∧ fr = [(1, .int .i64 v5)] ∧ σ = [.box (c_T_impl_Expr false e1)] | .inr q6 => ex = .ret ∧ RetN Go.Proofs.Tryz.prog [.tmp 6] (fun v τ => Told τ v (.int .i64 q6)) .ret fr σ) h13 ?_ ?_ ?_ ?_ ?_
  ·rintro ⟨v3, v4⟩ y7 H
   refine T.seq (T.region (TL.st rfl rfl rfl (o_ari rfl rfl rfl rfl) (TL.nil (thn_normal (T.seq ?_)))))
   refine T.cond (decide (v4 < e1.Kids_)) rfl (fun h => ?_) (fun h => ?_)
   ·replace H := cond_t h H
    refine T.skip (thn_normal (T.seq (T.block (T.seq (T.seq (T.region (TL.st rfl rfl rfl (o_fieldAddr rfl rfl rfl tyS_3 (by decide) rfl rfl ⟨_, rfl, Nat.le_of_ble_eq_true rfl⟩) ?_)))))))
    refine TL.st rfl rfl rfl (o_loadBx rfl tyS_3 rfl rfl (Nat.le_of_ble_eq_true rfl) rfl) ?_
    refine TL.st rfl rfl rfl (o_ari rfl rfl rfl rfl) (TL.st rfl rfl rfl (o_move rfl rfl) (TL.gcq rfl rfl rfl (.bool _) rfl rfl (fun h => o_move rfl rfl) (TL.gcq rfl rfl rfl (.bool _) rfl rfl (fun h => o_move rfl rfl) (TL.gcq rfl rfl rfl (.bool _) rfl rfl (fun h => o_lenL (f := c_T_impl_Expr false) rfl rfl (gv h rfl)) ?_))))
    refine TL.gcq rfl rfl rfl (.bool _) rfl rfl (fun h => o_ari rfl (gv h rfl) (gv h rfl) rfl) ?_
    refine TL.gcq rfl rfl rfl (.bool _) rfl rfl (fun h => o_move rfl (gv h rfl)) ?_
    refine TL.gcq rfl rfl rfl (.gd _ _) rfl rfl (fun h => o_move rfl rfl) ?_
    refine TL.gcq rfl rfl rfl (.gd _ _) rfl rfl (fun h => o_move rfl rfl) ?_
    obtain ⟨e8, h9, H⟩ := bind_s H
    refine TL.gcq rfl rfl rfl (.gd _ _) rfl rfl (fun h => o_ix (f := c_T_impl_Expr false) rfl rfl tyS_57 (gv h rfl) (gv h rfl) (gdO_t h9 h) rfl) ?_
    refine TL.gcq rfl rfl rfl (.gd _ _) rfl rfl (fun h => o_fieldAddr rfl rfl rfl tyS_3 (by decide) (gv h rfl) rfl trivial) ?_
    refine TL.gcq rfl rfl rfl (.gd _ _) rfl rfl (fun h => o_loadRf rfl tyS_3 (gv h rfl) (Nat.le_of_ble_eq_true rfl) rfl) ?_
    refine TL.gcq rfl rfl rfl (.gd _ _) rfl rfl (fun h => o_ari rfl (gv h rfl) rfl rfl) ?_
    refine TL.gcq rfl rfl rfl (.bool _) rfl rfl (fun h => o_or rfl (gv h rfl) rfl rfl (fun k => Gd_t (andi h k))) ?_
    refine TL.st rfl rfl rfl (o_and rfl rfl rfl (fun k => Gd_t k) rfl) (TL.nil (thn_normal ?_))
    refine T.cond (((e1.Kind_ == 2) && (decide (v3 ≥ (a0.length : Int)) || (e8.Kind_ != 1)))) rfl (fun h => ?_) (fun h => ?_)
    ·replace H := cond_t h H
     refine T.seq (T.region (TL.st rfl rfl rfl (o_assign rfl rfl) (TL.nil (thn_normal (T.ret (thn_ret (inB_ret (thn_ret ?_))))))))
     exact Pk.id (thn_ret ⟨.inr (-1), (some_i H).symm, rfl, ⟨trivial, _, (.tmp _ _ _ _ rfl .nil), (.cl _ rfl)⟩⟩)
    ·replace H := cond_f h H
     refine T.skip (thn_normal (T.seq (T.region (TL.st rfl rfl rfl (o_move rfl rfl) (TL.st rfl rfl rfl (o_move rfl rfl) (TL.st rfl rfl rfl (o_move rfl rfl) (TL.st rfl rfl rfl (o_ari rfl rfl rfl rfl) ?_)))))))
     obtain ⟨r10, h11, H⟩ := bind_s H
     refine TL.st rfl rfl rfl (o_callP rfl en_69 rfl rfl (.cons _ _ _ _ (.imv _ _) (.cons _ _ _ _ (.cl _ rfl) (.cons _ _ _ _ (.cl _ rfl) .nil))) (Hrec_impl_yexprEnd b0 h11)) ?_
     refine TL.st rfl rfl rfl (o_assign rfl rfl) (TL.nil (thn_normal (T.seq (T.region (TL.st rfl rfl rfl (o_move rfl rfl) (TL.st rfl rfl rfl (o_ari rfl rfl rfl rfl) (TL.nil (thn_normal ?_))))))))
     refine T.cond (decide (r10 < 0)) rfl (fun h => ?_) (fun h => ?_)
     ·replace H := cond_t h H
      refine T.seq (T.region (TL.st rfl rfl rfl (o_assign rfl rfl) (TL.nil (thn_normal (T.ret (inB_ret (thn_ret ?_)))))))
      exact Pk.id (thn_ret ⟨.inr (-1), (some_i H).symm, rfl, ⟨trivial, _, (.tmp _ _ _ _ rfl .nil), (.cl _ rfl)⟩⟩)
     ·replace H := cond_f h H
      refine T.skip (inB_normal (thn_normal (T.region (TL.st rfl rfl rfl (o_ari rfl rfl rfl rfl) (TL.st rfl rfl rfl (o_move rfl rfl) (TL.nil ?_))))))
      exact Pk.go (fr' := [(0, .im b0 (a0.map (c_T_impl_Expr false))), (1, .int .i64 r10), (2, .int .i64 a2), (7, .bx 0 0), (23, .int .i64 e1.Kids_), (24, .int .i64 (IntKind.i64.wrap (v4 + 1)))]) (σ' := [.box (c_T_impl_Expr false e1)]) _ rfl rfl ⟨(bels_iff.1 rfl), trivial⟩ (.cons 0 _ (.im b0 (a0.map (c_T_impl_Expr false))) _ rfl (.same _) rfl (.cons 1 _ (.int .i64 r10) _ rfl (.same _) rfl (.cons 2 _ (.int .i64 a2) _ rfl (.same _) rfl (.cons 7 _ (.bx 0 0) _ rfl (.same _) rfl (.cons 23 _ (.int .i64 e1.Kids_) _ rfl (.same _) rfl (.cons 24 _ (.int .i64 (IntKind.i64.wrap (v4 + 1))) _ rfl (.same _) rfl .nil)))))) (thn_normal ⟨(r10, (IntKind.i64.wrap (v4 + 1))), (some_i H).symm, rfl, rfl⟩)
   ·replace H := cond_f h H
    refine T.exit (thn_exit ?_)
    exact Pk.go (fr' := [(1, .int .i64 v3)]) (σ' := [.box (c_T_impl_Expr false e1)]) _ rfl rfl ⟨(bels_iff.1 rfl), trivial⟩ (.cons 1 _ (.int .i64 v3) _ rfl (.same _) rfl .nil) (thn_exit ⟨.inl v3, (some_i H).symm, rfl, rfl, rfl⟩)
  ·rintro ⟨v3, v4⟩ ⟨v3', v4'⟩; rfl
  ·rintro ⟨v3, v4⟩; exact ⟨(bels_iff.1 rfl), trivial⟩
  ·rintro ⟨v3, v4⟩; exact (.cons _ _ _ rfl rfl (.cons _ _ _ rfl rfl (.cons _ _ _ rfl rfl (.cons _ _ _ rfl rfl (.cons _ _ _ rfl rfl (.cons _ _ _ rfl rfl .nil))))))
  ·rcases q12 with v5 | q6
   ·rintro _ _ _ ⟨rfl, rfl, rfl⟩
    refine inB_here (thn_normal (T.seq (T.region (TL.st rfl rfl rfl (o_move rfl rfl) (TL.st rfl rfl rfl (o_assign rfl rfl) (TL.nil (thn_normal (T.ret ?_))))))))
    cases some_i H
    exact ⟨trivial, _, (.tmp _ _ _ _ rfl .nil), (.cl _ rfl)⟩
   ·rintro _ fr1 σ1 ⟨rfl, hr⟩
    refine inB_ret (thn_ret ?_)
    cases some_i H
    exact hr
theorem impl_yexprEnd_p (b0 : Bool) {a0 : (List T_impl_Expr)} {a1 : Int} {a2 : Int} {R0 : Int} (H : impl_yexprEnd a0 a1 a2 = some R0) : Pure Go.Proofs.Tryz.prog 69 [.im b0 (a0.map (c_T_impl_Expr false)), .int .i64 a1, .int .i64 a2] (.int .i64 R0) :=
 fixO_ind (fun x r => match x, r with | (a0, a1, a2), R0 => ∀ (b0 : Bool), Pure Go.Proofs.Tryz.prog 69 [.im b0 (a0.map (c_T_impl_Expr false)), .int .i64 a1, .int .i64 a2] (.int .i64 R0)) (fun rec_impl_yexprEnd Hrec x r h => match x, r, h with | (a0, a1, a2), R0, h => fun b0 => impl_yexprEnd_pb (fun b0 {a0} {a1} {a2} {R0} h => Hrec (a0, a1, a2) R0 h b0) b0 h) H b0
noncomputable def impl_GoodExpr (a0 : (List T_impl_Expr)) : Option Bool :=
  (gdO (!(((a0.length : Int) == 0) || decide ((a0.length : Int) > 60))) (impl_Expr_ a0)).bind fun r1 => cond ((((a0.length : Int) == 0) || decide ((a0.length : Int) > 60)) || r1) (some false) ((impl_yexprEnd a0 0 1).bind fun r3 => some (r3 == (a0.length : Int)))
theorem impl_GoodExpr_p (b0 : Bool) {a0 : (List T_impl_Expr)} {R0 : Bool} (H : impl_GoodExpr a0 = some R0) : Pure Go.Proofs.Tryz.prog 43 [.im b0 (a0.map (c_T_impl_Expr false))] (.bool R0) := by
 refine CallT.of_TN (n := 20) Go.Proofs.Tryz.func43 rfl rfl rfl rfl ?_
 refine T.seq (T.region (TL.st rfl rfl rfl (o_assign rfl rfl) (TL.nil (thn_normal (T.seq (T.seq (T.region (TL.st rfl rfl rfl (o_move rfl rfl) (TL.st rfl rfl rfl (o_lenL (f := c_T_impl_Expr false) rfl rfl rfl) ?_)))))))))
 refine TL.st rfl rfl rfl (o_ari rfl rfl rfl rfl) (TL.st rfl rfl rfl (o_move rfl rfl) (TL.gcq rfl rfl rfl (.bool _) rfl rfl (fun h => o_move rfl rfl) (TL.gcq rfl rfl rfl (.bool _) rfl rfl (fun h => o_lenL (f := c_T_impl_Expr false) rfl rfl (gv h rfl)) ?_)))
 refine TL.gcq rfl rfl rfl (.bool _) rfl rfl (fun h => o_ari rfl (gv h rfl) rfl rfl) ?_
 refine TL.st rfl rfl rfl (o_or rfl rfl rfl rfl (fun k => Gd_t k)) (TL.st rfl rfl rfl (o_move rfl rfl) (TL.gcq rfl rfl rfl (.bool _) rfl rfl (fun h => o_move rfl rfl) ?_))
 obtain ⟨r1, h2, H⟩ := bind_s H
 refine TL.gcq rfl rfl rfl (.bool _) rfl rfl (fun h => o_callP rfl en_66 rfl (evl_2 (gv h rfl) rfl) (.cons _ _ _ _ (.imv _ _) (.cons _ _ _ _ (.fn _ _ _ _ _ rfl rfl (fun i c d h => by simp at h) (fun i c d h => by simp at h)) .nil)) (impl_Expr__p b0 (gdO_t h2 h))) ?_
 refine TL.st rfl rfl rfl (o_or rfl rfl rfl rfl (fun k => Gd_t k)) (TL.nil (thn_normal ?_))
 refine T.cond (((((a0.length : Int) == 0) || decide ((a0.length : Int) > 60)) || r1)) rfl (fun h => ?_) (fun h => ?_)
 ·replace H := cond_t h H
  refine T.seq (T.region (TL.st rfl rfl rfl (o_assign rfl rfl) (TL.nil (thn_normal (T.ret (thn_ret ?_))))))
  cases some_i H
  exact ⟨trivial, _, (.tmp _ _ _ _ rfl .nil), (.cl _ rfl)⟩
 ·replace H := cond_f h H
  refine T.skip (thn_normal (T.seq (T.region (TL.st rfl rfl rfl (o_move rfl rfl) ?_))))
  obtain ⟨r3, h4, H⟩ := bind_s H
  refine TL.st rfl rfl rfl (o_callP rfl en_69 rfl rfl (.cons _ _ _ _ (.imv _ _) (.cons _ _ _ _ (.cl _ rfl) (.cons _ _ _ _ (.cl _ rfl) .nil))) (impl_yexprEnd_p b0 h4)) ?_
  refine TL.st rfl rfl rfl (o_move rfl rfl) (TL.st rfl rfl rfl (o_lenL (f := c_T_impl_Expr false) rfl rfl rfl) ?_)
  refine TL.st rfl rfl rfl (o_ari rfl rfl rfl rfl) (TL.st rfl rfl rfl (o_assign rfl rfl) (TL.nil (thn_normal (T.ret ?_))))
  cases some_i H
  exact ⟨trivial, _, (.tmp _ _ _ _ rfl .nil), (.cl _ rfl)⟩
theorem en_43 (us : Array Value) (w : World) : (callFunc 43 us).run Go.Proofs.Tryz.prog w = .ok (.enter 43 us) w := enters Go.Proofs.Tryz.func43 rfl rfl us w
noncomputable def impl_GoodPolicy (a0 : T_impl_Policy) : Option Bool :=
  (impl_ygoodId a0.Id_).bind fun r1 => (gdO r1 (impl_ygoodHead a0.Principal_ false)).bind fun r3 => (gdO (r1 && r3) (impl_ygoodHead a0.Action_ true)).bind fun r5 => (gdO ((r1 && r3) && r5) (impl_ygoodHead a0.Resource_ false)).bind fun r7 => (gdO ((((r1 && r3) && r5) && r7) && (!((a0.When_.length : Int) == 0))) (impl_GoodExpr a0.When_)).bind fun r9 => some ((((r1 && r3) && r5) && r7) && (((a0.When_.length : Int) == 0) || r9))
theorem impl_GoodPolicy_p (b0 : Bool) {a0 : T_impl_Policy} {R0 : Bool} (H : impl_GoodPolicy a0 = some R0) : Pure Go.Proofs.Tryz.prog 19 [.agg (c_T_impl_Policy b0 a0)] (.bool R0) := by
 refine CallT.of_TN (n := 32) Go.Proofs.Tryz.func19 rfl rfl rfl rfl ?_
 refine T.seq (T.region (TL.st rfl rfl rfl (o_box rfl rfl rfl) (TL.st rfl rfl rfl (o_assign rfl rfl) (TL.nil (thn_normal (T.seq (T.region (TL.st rfl rfl rfl (o_fieldAddr rfl rfl rfl tyS_9 (by decide) rfl rfl ⟨_, rfl, Nat.le_of_ble_eq_true rfl⟩) ?_))))))))
 refine TL.st rfl rfl rfl (o_loadBx rfl tyS_9 rfl rfl (Nat.le_of_ble_eq_true rfl) rfl) ?_
 obtain ⟨r1, h2, H⟩ := bind_s H
 refine TL.st rfl rfl rfl (o_callP rfl en_20 rfl rfl (.cons _ _ _ _ (.cl _ rfl) .nil) (impl_ygoodId_p  h2)) ?_
 refine TL.st rfl rfl rfl (o_move rfl rfl) (TL.gcq rfl rfl rfl (.bool _) rfl rfl (fun h => o_fieldAddr rfl rfl rfl tyS_26 (by decide) rfl rfl ⟨_, rfl, Nat.le_of_ble_eq_true rfl⟩) ?_)
 refine TL.gcq rfl rfl rfl (.bool _) rfl rfl (fun h => o_loadBx rfl tyS_26 (gv h rfl) rfl (Nat.le_of_ble_eq_true rfl) rfl) ?_
 obtain ⟨r3, h4, H⟩ := bind_s H
 refine TL.gcq rfl rfl rfl (.bool _) rfl rfl (fun h => o_callP rfl en_30 rfl (evl_2 (gv h rfl) rfl) (.cons _ _ _ _ (.cl _ rfl) (.cons _ _ _ _ (.cl _ rfl) .nil)) (impl_ygoodHead_p  (gdO_t h4 h))) ?_
 refine TL.st rfl rfl rfl (o_and rfl rfl rfl (fun k => Gd_t k) rfl) (TL.st rfl rfl rfl (o_move rfl rfl) (TL.gcq rfl rfl rfl (.bool _) rfl rfl (fun h => o_fieldAddr rfl rfl rfl tyS_26 (by decide) rfl rfl ⟨_, rfl, Nat.le_of_ble_eq_true rfl⟩) ?_))
 refine TL.gcq rfl rfl rfl (.bool _) rfl rfl (fun h => o_loadBx rfl tyS_26 (gv h rfl) rfl (Nat.le_of_ble_eq_true rfl) rfl) ?_
 obtain ⟨r5, h6, H⟩ := bind_s H
 refine TL.gcq rfl rfl rfl (.bool _) rfl rfl (fun h => o_callP rfl en_30 rfl (evl_2 (gv h rfl) rfl) (.cons _ _ _ _ (.cl _ rfl) (.cons _ _ _ _ (.cl _ rfl) .nil)) (impl_ygoodHead_p  (gdO_t h6 h))) ?_
 refine TL.st rfl rfl rfl (o_and rfl rfl rfl (fun k => Gd_t k) rfl) (TL.st rfl rfl rfl (o_move rfl rfl) (TL.gcq rfl rfl rfl (.bool _) rfl rfl (fun h => o_fieldAddr rfl rfl rfl tyS_26 (by decide) rfl rfl ⟨_, rfl, Nat.le_of_ble_eq_true rfl⟩) ?_))
 refine TL.gcq rfl rfl rfl (.bool _) rfl rfl (fun h => o_loadBx rfl tyS_26 (gv h rfl) rfl (Nat.le_of_ble_eq_true rfl) rfl) ?_
 obtain ⟨r7, h8, H⟩ := bind_s H
 refine TL.gcq rfl rfl rfl (.bool _) rfl rfl (fun h => o_callP rfl en_30 rfl (evl_2 (gv h rfl) rfl) (.cons _ _ _ _ (.cl _ rfl) (.cons _ _ _ _ (.cl _ rfl) .nil)) (impl_ygoodHead_p  (gdO_t h8 h))) ?_
 refine TL.st rfl rfl rfl (o_and rfl rfl rfl (fun k => Gd_t k) rfl) (TL.st rfl rfl rfl (o_move rfl rfl) (TL.gcq rfl rfl rfl (.bool _) rfl rfl (fun h => o_fieldAddr rfl rfl rfl tyS_27 (by decide) rfl rfl ⟨_, rfl, Nat.le_of_ble_eq_true rfl⟩) ?_))
 refine TL.gcq rfl rfl rfl (.bool _) rfl rfl (fun h => o_loadBx rfl tyS_27 (gv h rfl) rfl (Nat.le_of_ble_eq_true rfl) rfl) ?_
 refine TL.gcq rfl rfl rfl (.bool _) rfl rfl (fun h => o_lenL (f := c_T_impl_Expr false) rfl rfl (gv h rfl)) ?_
 refine TL.gcq rfl rfl rfl (.bool _) rfl rfl (fun h => o_ari rfl (gv h rfl) rfl rfl) ?_
 refine TL.gcq rfl rfl rfl (.bool _) rfl rfl (fun h => o_move rfl (gv h rfl)) ?_
 refine TL.gcq rfl rfl rfl (.gd _ _) rfl rfl (fun h => o_fieldAddr rfl rfl rfl tyS_27 (by decide) rfl rfl ⟨_, rfl, Nat.le_of_ble_eq_true rfl⟩) ?_
 refine TL.gcq rfl rfl rfl (.gd _ _) rfl rfl (fun h => o_loadBx rfl tyS_27 (gv h rfl) rfl (Nat.le_of_ble_eq_true rfl) rfl) ?_
 obtain ⟨r9, h10, H⟩ := bind_s H
 refine TL.gcq rfl rfl rfl (.gd _ _) rfl rfl (fun h => o_callP rfl en_43 rfl (evl_1 (gv h rfl)) (.cons _ _ _ _ (.imv _ _) .nil) (impl_GoodExpr_p b0 (gdO_t h10 h))) ?_
 refine TL.gcq rfl rfl rfl (.bool _) rfl rfl (fun h => o_or rfl (gv h rfl) rfl rfl (fun k => Gd_t (andi h k))) ?_
 refine TL.st rfl rfl rfl (o_and rfl rfl rfl (fun k => Gd_t k) rfl) (TL.st rfl rfl rfl (o_assign rfl rfl) (TL.nil (thn_normal (T.ret ?_))))
 cases some_i H
 exact ⟨trivial, _, (.tmp _ _ _ _ rfl .nil), (.cl _ rfl)⟩
theorem en_19 (us : Array Value) (w : World) : (callFunc 19 us).run Go.Proofs.Tryz.prog w = .ok (.enter 19 us) w := enters Go.Proofs.Tryz.func19 rfl rfl us w
noncomputable def impl_LinkPolicy_1 (a0 : T_impl_Head) : Option Bool :=
  some ((a0.Kind_ == 5) || (a0.Kind_ == 6))
theorem impl_LinkPolicy_1_p  {a0 : T_impl_Head} {R0 : Bool} (H : impl_LinkPolicy_1 a0 = some R0) : Pure Go.Proofs.Tryz.prog 18 [.agg (c_T_impl_Head false a0)] (.bool R0) := by
 refine CallT.of_TN (n := 11) Go.Proofs.Tryz.func18 rfl rfl rfl rfl ?_
 refine T.seq (T.region (TL.st rfl rfl rfl (o_box rfl rfl rfl) (TL.st rfl rfl rfl (o_assign rfl rfl) (TL.nil (thn_normal (T.seq (T.region (TL.st rfl rfl rfl (o_fieldAddr rfl rfl rfl tyS_3 (by decide) rfl rfl ⟨_, rfl, Nat.le_of_ble_eq_true rfl⟩) ?_))))))))
 refine TL.st rfl rfl rfl (o_loadBx rfl tyS_3 rfl rfl (Nat.le_of_ble_eq_true rfl) rfl) ?_
 refine TL.st rfl rfl rfl (o_ari rfl rfl rfl rfl) (TL.st rfl rfl rfl (o_move rfl rfl) (TL.gcq rfl rfl rfl (.bool _) rfl rfl (fun h => o_fieldAddr rfl rfl rfl tyS_3 (by decide) rfl rfl ⟨_, rfl, Nat.le_of_ble_eq_true rfl⟩) ?_))
 refine TL.gcq rfl rfl rfl (.bool _) rfl rfl (fun h => o_loadBx rfl tyS_3 (gv h rfl) rfl (Nat.le_of_ble_eq_true rfl) rfl) ?_
 refine TL.gcq rfl rfl rfl (.bool _) rfl rfl (fun h => o_ari rfl (gv h rfl) rfl rfl) ?_
 refine TL.st rfl rfl rfl (o_or rfl rfl rfl rfl (fun k => Gd_t k)) (TL.st rfl rfl rfl (o_assign rfl rfl) (TL.nil (thn_normal (T.ret ?_))))
 cases some_i H
 exact ⟨trivial, _, (.tmp _ _ _ _ rfl .nil), (.cl _ rfl)⟩
theorem en_18 (us : Array Value) (w : World) : (callFunc 18 us).run Go.Proofs.Tryz.prog w = .ok (.enter 18 us) w := enters Go.Proofs.Tryz.func18 rfl rfl us w
noncomputable def impl_LinkPolicy_2 (a0 : T_impl_Head) (a1 : T_impl_Atom) : Option T_impl_Head :=
  cond (a0.Kind_ == 5) (some (⟨2, a1, (ByteArray.mk #[])⟩ : T_impl_Head)) (cond (a0.Kind_ == 6) (some (⟨3, a1, (ByteArray.mk #[])⟩ : T_impl_Head)) (some a0))
theorem impl_LinkPolicy_2_p  {a0 : T_impl_Head} {a1 : T_impl_Atom} {R0 : T_impl_Head} (H : impl_LinkPolicy_2 a0 a1 = some R0) : Pure Go.Proofs.Tryz.prog 22 [.agg (c_T_impl_Head false a0), .agg (c_T_impl_Atom false a1)] (.agg (c_T_impl_Head false R0)) := by
 refine CallT.of_TN (n := 16) Go.Proofs.Tryz.func22 rfl rfl rfl rfl ?_
 refine T.seq (T.region (TL.st rfl rfl rfl (o_box rfl rfl rfl) (TL.st rfl rfl rfl (o_box rfl rfl rfl) (TL.st rfl rfl rfl (o_alloc rfl ⟨_, rfl, rfl⟩) (TL.nil (thn_normal (T.seq (T.seq (T.region (TL.st rfl rfl rfl (o_fieldAddr rfl rfl rfl tyS_3 (by decide) rfl rfl ⟨_, rfl, Nat.le_of_ble_eq_true rfl⟩) ?_))))))))))
 refine TL.st rfl rfl rfl (o_loadBx rfl tyS_3 rfl rfl (Nat.le_of_ble_eq_true rfl) rfl) ?_
 refine TL.nil (thn_normal (T.block (T.seq (T.region (TL.st rfl rfl rfl (o_ari rfl rfl rfl rfl) (TL.st rfl rfl rfl (o_assign rfl rfl) (TL.nil (thn_normal ?_))))))))
 refine T.cond ((a0.Kind_ == 5)) rfl (fun h => ?_) (fun h => ?_)
 ·replace H := cond_t h H
  refine T.seq (T.region (TL.st rfl rfl rfl (o_loadBx rfl tyS_24 rfl rfl (Nat.le_of_ble_eq_true rfl) rfl) ?_))
  refine TL.st rfl rfl rfl (o_build rfl ⟨_, fun _ => rfl, rfl⟩ rfl rfl rfl) ?_
  refine TL.sn rfl rfl (o_storeBx rfl tyS_26 rfl rfl rfl rfl (Nat.le_of_ble_eq_true rfl) rfl) ?_
  refine TL.nil (thn_normal (T.ret (inB_ret (thn_ret ?_))))
  cases some_i H
  exact ⟨trivial, _, (.cell _ _ _ _ _ _ _ _ _ _ rfl rfl tyS_26 (Nat.le_of_ble_eq_true rfl) rfl .nil), (.cl _ rfl)⟩
 ·replace H := cond_f h H
  refine T.seq (T.region (TL.st rfl rfl rfl (o_ari rfl rfl rfl rfl) (TL.st rfl rfl rfl (o_assign rfl rfl) (TL.nil (thn_normal ?_)))))
  refine T.cond ((a0.Kind_ == 6)) rfl (fun h => ?_) (fun h => ?_)
  ·replace H := cond_t h H
   refine T.seq (T.region (TL.st rfl rfl rfl (o_loadBx rfl tyS_24 rfl rfl (Nat.le_of_ble_eq_true rfl) rfl) ?_))
   refine TL.st rfl rfl rfl (o_build rfl ⟨_, fun _ => rfl, rfl⟩ rfl rfl rfl) ?_
   refine TL.sn rfl rfl (o_storeBx rfl tyS_26 rfl rfl rfl rfl (Nat.le_of_ble_eq_true rfl) rfl) ?_
   refine TL.nil (thn_normal (T.ret (inB_ret (thn_ret ?_))))
   cases some_i H
   exact ⟨trivial, _, (.cell _ _ _ _ _ _ _ _ _ _ rfl rfl tyS_26 (Nat.le_of_ble_eq_true rfl) rfl .nil), (.cl _ rfl)⟩
  ·replace H := cond_f h H
   refine T.skip (inB_normal (thn_normal (T.seq (T.region (TL.st rfl rfl rfl (o_loadBx rfl tyS_26 rfl rfl (Nat.le_of_ble_eq_true rfl) rfl) ?_)))))
   refine TL.sn rfl rfl (o_storeBx rfl tyS_26 rfl rfl rfl rfl (Nat.le_of_ble_eq_true rfl) rfl) ?_
   refine TL.nil (thn_normal (T.ret ?_))
   cases some_i H
   exact ⟨trivial, _, (.cell _ _ _ _ _ _ _ _ _ _ rfl rfl tyS_26 (Nat.le_of_ble_eq_true rfl) rfl .nil), (.cl _ rfl)⟩
theorem en_22 (us : Array Value) (w : World) : (callFunc 22 us).run Go.Proofs.Tryz.prog w = .ok (.enter 22 us) w := enters Go.Proofs.Tryz.func22 rfl rfl us w
noncomputable def impl_Expr_xx (a0 : (List T_impl_Expr)) : Option (List T_impl_Expr) :=
  (app ([] : List T_impl_Expr) a0).bind fun l2 => some l2
theorem impl_Expr_xx_p (b0 : Bool) {a0 : (List T_impl_Expr)} {R0 : (List T_impl_Expr)} (H : impl_Expr_xx a0 = some R0) : Pure Go.Proofs.Tryz.prog 23 [.im b0 (a0.map (c_T_impl_Expr false))] (.im false (R0.map (c_T_impl_Expr false))) := by
 refine CallT.of_TN (n := 8) Go.Proofs.Tryz.func23 rfl rfl rfl rfl ?_
 refine T.seq (T.region (TL.st rfl rfl rfl (o_assign rfl rfl) (TL.nil (thn_normal (T.seq (T.seq (T.region (TL.st rfl rfl rfl (o_move rfl rfl) (TL.sq _ rfl rfl rfl (o_isNilQ rfl ⟨_, rfl⟩ rfl) ?_)))))))))
 rintro _ _ ⟨⟨nb1, rfl, hnb1⟩, rfl⟩
 refine TL.nil (thn_normal ?_)
 refine T.cond (nb1) rfl (fun h => ?_) (fun h => ?_)
 ·have hx := List.map_eq_nil_iff.1 (hnb1 h)
  replace H : (some ([] : List T_impl_Expr)) = some R0 := by
   rw [hx] at H; simpa [app, impl_Expr_xx] using H
  refine T.seq (T.region (TL.st rfl rfl rfl (o_assign rfl rfl) (TL.nil (thn_normal (T.ret (thn_ret ?_))))))
  cases some_i H
  exact ⟨trivial, _, (.tmp _ _ _ _ rfl .nil), .nil⟩
 ·refine T.skip (thn_normal (T.seq (T.region (TL.st rfl rfl rfl (o_sliceHd .clo rfl rfl tyS_57 ⟨_, rfl, rfl⟩ (by decide) rfl rfl rfl rfl (by decide) (fun _ => rfl) (by decide) rfl (by decide)) ?_))))
  refine TL.st rfl rfl rfl (o_move rfl rfl) ?_
  obtain ⟨l2, h3, H⟩ := bind_s H
  refine TL.st rfl rfl rfl (o_ap (f := c_T_impl_Expr false) (xs := ([] : List T_impl_Expr)) (ys := a0) rfl rfl tyE_57 rfl rfl rfl rfl (by decide) rfl (fun _ => rfl) h3) ?_
  refine TL.st rfl rfl rfl (o_assign rfl rfl) (TL.nil (thn_normal (T.ret ?_)))
  cases some_i H
  exact ⟨trivial, _, (.tmp _ _ _ _ rfl .nil), (.own rfl (by decide) rfl)⟩
theorem en_23 (us : Array Value) (w : World) : (callFunc 23 us).run Go.Proofs.Tryz.prog w = .ok (.enter 23 us) w := enters Go.Proofs.Tryz.func23 rfl rfl us w
noncomputable def impl_LinkPolicy (a0 : T_impl_Policy) (a1 : ByteArray) (a2 : T_impl_Atom) (a3 : T_impl_Atom) : Option (T_impl_Policy × Bool) :=
  (impl_GoodPolicy a0).bind fun r1 => (gdO (!(!r1)) (impl_LinkPolicy_1 a0.Principal_)).bind fun r3 => (gdO ((!(!r1)) && (!r3)) (impl_LinkPolicy_1 a0.Resource_)).bind fun r5 => (gdO (!((!r1) || ((!r3) && (!r5)))) (impl_ygoodId a1)).bind fun r7 => (gdO (!(((!r1) || ((!r3) && (!r5))) || (!r7))) (impl_ygoodRef a2)).bind fun r9 => (gdO (!((((!r1) || ((!r3) && (!r5))) || (!r7)) || (!r9))) (impl_ygoodRef a3)).bind fun r11 => cond (((((!r1) || ((!r3) && (!r5))) || (!r7)) || (!r9)) || (!r11)) (some ((⟨(ByteArray.mk #[]), false, (⟨0, (⟨0, 0, (ByteArray.mk #[]), (ByteArray.mk #[])⟩ : T_impl_Atom), (ByteArray.mk #[])⟩ : T_impl_Head), (⟨0, (⟨0, 0, (ByteArray.mk #[]), (ByteArray.mk #[])⟩ : T_impl_Atom), (ByteArray.mk #[])⟩ : T_impl_Head), (⟨0, (⟨0, 0, (ByteArray.mk #[]), (ByteArray.mk #[])⟩ : T_impl_Atom), (ByteArray.mk #[])⟩ : T_impl_Head), ([] : List T_impl_Expr)⟩ : T_impl_Policy), false)) ((impl_LinkPolicy_2 a0.Principal_ a2).bind fun r13 => (impl_LinkPolicy_2 a0.Resource_ a3).bind fun r15 => (impl_Expr_xx a0.When_).bind fun r17 => some ((⟨a1, a0.Permit_, r13, a0.Action_, r15, r17⟩ : T_impl_Policy), true))
theorem impl_LinkPolicy_p (b0 : Bool) {a0 : T_impl_Policy} {a1 : ByteArray} {a2 : T_impl_Atom} {a3 : T_impl_Atom} {R0 : T_impl_Policy} {R1 : Bool} (H : impl_LinkPolicy a0 a1 a2 a3 = some (R0, R1)) : Pure Go.Proofs.Tryz.prog 5 [.agg (c_T_impl_Policy b0 a0), .str a1, .agg (c_T_impl_Atom false a2), .agg (c_T_impl_Atom false a3)] (.tup [.agg (c_T_impl_Policy false R0), .bool R1]) := by
 refine CallT.of_TN (n := 64) Go.Proofs.Tryz.func5 rfl rfl rfl rfl ?_
 refine T.seq (T.region (TL.st rfl rfl rfl (o_box rfl rfl rfl) (TL.st rfl rfl rfl (o_box rfl rfl rfl) (TL.st rfl rfl rfl (o_box rfl rfl rfl) (TL.st rfl rfl rfl (o_alloc rfl ⟨_, rfl, rfl⟩) (TL.st rfl rfl rfl (o_assign rfl rfl) (TL.nil (thn_normal (T.seq (T.region (TL.st rfl rfl rfl (o_assign rfl rfl) (TL.nil (thn_normal (T.seq (T.seq (T.region (TL.st rfl rfl rfl (o_loadBx rfl tyS_29 rfl rfl (Nat.le_of_ble_eq_true rfl) rfl) ?_)))))))))))))))))
 obtain ⟨r1, h2, H⟩ := bind_s H
 refine TL.st rfl rfl rfl (o_callP rfl en_19 rfl rfl (.cons _ _ _ _ (Lent.aggL (.cons _ _ _ _ (.cl _ rfl) (.cons _ _ _ _ (.cl _ rfl) (.cons _ _ _ _ (.cl _ rfl) (.cons _ _ _ _ (.cl _ rfl) (.cons _ _ _ _ (.cl _ rfl) (.cons _ _ _ _ (.cl _ rfl) (.cons _ _ _ _ (.cl _ rfl) (.cons _ _ _ _ (.cl _ rfl) (.cons _ _ _ _ (.cl _ rfl) (.cons _ _ _ _ (.cl _ rfl) (.cons _ _ _ _ (.cl _ rfl) (.cons _ _ _ _ (.cl _ rfl) (.cons _ _ _ _ (.cl _ rfl) (.cons _ _ _ _ (.cl _ rfl) (.cons _ _ _ _ (.cl _ rfl) (.cons _ _ _ _ (.cl _ rfl) (.cons _ _ _ _ (.cl _ rfl) (.cons _ _ _ _ (.cl _ rfl) (.cons _ _ _ _ (.cl _ rfl) (.cons _ _ _ _ (.cl _ rfl) (.cons _ _ _ _ (.imv _ _) .nil)))))))))))))))))))))) .nil) (impl_GoodPolicy_p b0 h2)) ?_
 refine TL.st rfl rfl rfl (o_not rfl rfl) ?_
 refine TL.st rfl rfl rfl (o_move rfl rfl) (TL.gcq rfl rfl rfl (.bool _) rfl rfl (fun h => o_move rfl rfl) (TL.gcq rfl rfl rfl (.bool _) rfl rfl (fun h => o_fieldAddr rfl rfl rfl tyS_26 (by decide) rfl rfl ⟨_, rfl, Nat.le_of_ble_eq_true rfl⟩) ?_))
 refine TL.gcq rfl rfl rfl (.bool _) rfl rfl (fun h => o_loadBx rfl tyS_26 (gv h rfl) rfl (Nat.le_of_ble_eq_true rfl) rfl) ?_
 obtain ⟨r3, h4, H⟩ := bind_s H
 refine TL.gcq rfl rfl rfl (.bool _) rfl rfl (fun h => o_callP rfl en_18 (gv h rfl) (evl_1 (gv h rfl)) (.cons _ _ _ _ (.cl _ rfl) .nil) (impl_LinkPolicy_1_p  (gdO_t h4 h))) ?_
 refine TL.gcq rfl rfl rfl (.bool _) rfl rfl (fun h => o_not rfl (gv h rfl)) ?_
 refine TL.gcq rfl rfl rfl (.bool _) rfl rfl (fun h => o_move rfl (gv h rfl)) ?_
 refine TL.gcq rfl rfl rfl (.gd _ _) rfl rfl (fun h => o_move rfl rfl) ?_
 refine TL.gcq rfl rfl rfl (.gd _ _) rfl rfl (fun h => o_fieldAddr rfl rfl rfl tyS_26 (by decide) rfl rfl ⟨_, rfl, Nat.le_of_ble_eq_true rfl⟩) ?_
 refine TL.gcq rfl rfl rfl (.gd _ _) rfl rfl (fun h => o_loadBx rfl tyS_26 (gv h rfl) rfl (Nat.le_of_ble_eq_true rfl) rfl) ?_
 obtain ⟨r5, h6, H⟩ := bind_s H
 refine TL.gcq rfl rfl rfl (.gd _ _) rfl rfl (fun h => o_callP rfl en_18 (gv h rfl) (evl_1 (gv h rfl)) (.cons _ _ _ _ (.cl _ rfl) .nil) (impl_LinkPolicy_1_p  (gdO_t h6 h))) ?_
 refine TL.gcq rfl rfl rfl (.gd _ _) rfl rfl (fun h => o_not rfl (gv h rfl)) ?_
 refine TL.gcq rfl rfl rfl (.bool _) rfl rfl (fun h => o_and rfl (gv h rfl) rfl (fun k => Gd_t (andi h k)) rfl) ?_
 refine TL.st rfl rfl rfl (o_or rfl rfl rfl rfl (fun k => Gd_t k)) (TL.st rfl rfl rfl (o_move rfl rfl) (TL.gcq rfl rfl rfl (.bool _) rfl rfl (fun h => o_move rfl rfl) ?_))
 obtain ⟨r7, h8, H⟩ := bind_s H
 refine TL.gcq rfl rfl rfl (.bool _) rfl rfl (fun h => o_callP rfl en_20 rfl (evl_1 (gv h rfl)) (.cons _ _ _ _ (.cl _ rfl) .nil) (impl_ygoodId_p  (gdO_t h8 h))) ?_
 refine TL.gcq rfl rfl rfl (.bool _) rfl rfl (fun h => o_not rfl (gv h rfl)) ?_
 refine TL.st rfl rfl rfl (o_or rfl rfl rfl rfl (fun k => Gd_t k)) (TL.st rfl rfl rfl (o_move rfl rfl) (TL.gcq rfl rfl rfl (.bool _) rfl rfl (fun h => o_loadBx rfl tyS_24 rfl rfl (Nat.le_of_ble_eq_true rfl) rfl) ?_))
 obtain ⟨r9, h10, H⟩ := bind_s H
 refine TL.gcq rfl rfl rfl (.bool _) rfl rfl (fun h => o_callP rfl en_21 rfl (evl_1 (gv h rfl)) (.cons _ _ _ _ (.cl _ rfl) .nil) (impl_ygoodRef_p  (gdO_t h10 h))) ?_
 refine TL.gcq rfl rfl rfl (.bool _) rfl rfl (fun h => o_not rfl (gv h rfl)) ?_
 refine TL.st rfl rfl rfl (o_or rfl rfl rfl rfl (fun k => Gd_t k)) (TL.st rfl rfl rfl (o_move rfl rfl) (TL.gcq rfl rfl rfl (.bool _) rfl rfl (fun h => o_loadBx rfl tyS_24 rfl rfl (Nat.le_of_ble_eq_true rfl) rfl) ?_))
 obtain ⟨r11, h12, H⟩ := bind_s H
 refine TL.gcq rfl rfl rfl (.bool _) rfl rfl (fun h => o_callP rfl en_21 rfl (evl_1 (gv h rfl)) (.cons _ _ _ _ (.cl _ rfl) .nil) (impl_ygoodRef_p  (gdO_t h12 h))) ?_
 refine TL.gcq rfl rfl rfl (.bool _) rfl rfl (fun h => o_not rfl (gv h rfl)) ?_
 refine TL.st rfl rfl rfl (o_or rfl rfl rfl rfl (fun k => Gd_t k)) (TL.nil (thn_normal ?_))
 refine T.cond ((((((!r1) || ((!r3) && (!r5))) || (!r7)) || (!r9)) || (!r11))) rfl (fun h => ?_) (fun h => ?_)
 ·replace H := cond_t h H
  refine T.seq (T.region (TL.st rfl rfl rfl (o_build rfl ⟨_, fun _ => rfl, rfl⟩ rfl rfl rfl) ?_))
  refine TL.sn rfl rfl (o_storeBx rfl tyS_29 rfl rfl rfl rfl (Nat.le_of_ble_eq_true rfl) rfl) ?_
  refine TL.st rfl rfl rfl (o_assign rfl rfl) (TL.nil (thn_normal (T.ret (thn_ret ?_))))
  cases some_i H
  exact ⟨trivial, _, (.cell _ _ _ _ _ _ _ _ _ _ rfl rfl tyS_29 (Nat.le_of_ble_eq_true rfl) rfl (.tmp _ _ _ _ rfl .nil)), (.tupL (.cons _ _ _ _ (.aggL (.cons _ _ _ _ (.cl _ rfl) (.cons _ _ _ _ (.cl _ rfl) (.cons _ _ _ _ (.cl _ rfl) (.cons _ _ _ _ (.cl _ rfl) (.cons _ _ _ _ (.cl _ rfl) (.cons _ _ _ _ (.cl _ rfl) (.cons _ _ _ _ (.cl _ rfl) (.cons _ _ _ _ (.cl _ rfl) (.cons _ _ _ _ (.cl _ rfl) (.cons _ _ _ _ (.cl _ rfl) (.cons _ _ _ _ (.cl _ rfl) (.cons _ _ _ _ (.cl _ rfl) (.cons _ _ _ _ (.cl _ rfl) (.cons _ _ _ _ (.cl _ rfl) (.cons _ _ _ _ (.cl _ rfl) (.cons _ _ _ _ (.cl _ rfl) (.cons _ _ _ _ (.cl _ rfl) (.cons _ _ _ _ (.cl _ rfl) (.cons _ _ _ _ (.cl _ rfl) (.cons _ _ _ _ (.cl _ rfl) (.cons _ _ _ _ .nil .nil)))))))))))))))))))))) (.cons _ _ _ _ (.cl _ rfl) .nil)))⟩
 ·replace H := cond_f h H
  refine T.skip (thn_normal (T.seq (T.region (TL.st rfl rfl rfl (o_assign rfl rfl) (TL.nil (thn_normal (T.seq (T.drawn rfl ?_))))))))
  refine TD.qs rfl rfl (fun _ => o_move rfl rfl) (TD.qs rfl rfl (fun _ => o_move rfl rfl) (TD.rs rfl rfl (o_fieldAddr rfl rfl rfl tyS_26 (by decide) rfl rfl ⟨_, rfl, Nat.le_of_ble_eq_true rfl⟩) ?_))
  refine TD.rs rfl rfl (o_loadBx rfl tyS_26 rfl rfl (Nat.le_of_ble_eq_true rfl) rfl) ?_
  refine TD.rs rfl rfl (o_loadBx rfl tyS_24 rfl rfl (Nat.le_of_ble_eq_true rfl) rfl) ?_
  obtain ⟨r13, h14, H⟩ := bind_s H
  refine TD.qs rfl rfl (fun _ => o_callP rfl en_22 rfl rfl (.cons _ _ _ _ (.cl _ rfl) (.cons _ _ _ _ (.cl _ rfl) .nil)) (impl_LinkPolicy_2_p  h14)) ?_
  refine TD.qs rfl rfl (fun _ => o_move rfl rfl) (TD.rs rfl rfl (o_fieldAddr rfl rfl rfl tyS_26 (by decide) rfl rfl ⟨_, rfl, Nat.le_of_ble_eq_true rfl⟩) ?_)
  refine TD.rs rfl rfl (o_loadBx rfl tyS_26 rfl rfl (Nat.le_of_ble_eq_true rfl) rfl) ?_
  refine TD.rs rfl rfl (o_loadBx rfl tyS_24 rfl rfl (Nat.le_of_ble_eq_true rfl) rfl) ?_
  obtain ⟨r15, h16, H⟩ := bind_s H
  refine TD.qs rfl rfl (fun _ => o_callP rfl en_22 rfl rfl (.cons _ _ _ _ (.cl _ rfl) (.cons _ _ _ _ (.cl _ rfl) .nil)) (impl_LinkPolicy_2_p  h16)) ?_
  refine TD.rs rfl rfl (o_fieldAddr rfl rfl rfl tyS_27 (by decide) rfl rfl ⟨_, rfl, Nat.le_of_ble_eq_true rfl⟩) ?_
  refine TD.rs rfl rfl (o_loadBx rfl tyS_27 rfl rfl (Nat.le_of_ble_eq_true rfl) rfl) ?_
  obtain ⟨r17, h18, H⟩ := bind_s H
  refine TD.qs rfl rfl (fun _ => o_callP rfl en_23 rfl rfl (.cons _ _ _ _ (.imv _ _) .nil) (impl_Expr_xx_p b0 h18)) ?_
  refine TD.rs rfl rfl (o_fieldAddr rfl rfl rfl tyS_9 (by decide) rfl rfl ⟨_, rfl, Nat.le_of_ble_eq_true rfl⟩) ?_
  refine TD.an rfl rfl (o_storeBx rfl tyS_9 rfl rfl rfl rfl (Nat.le_of_ble_eq_true rfl) rfl) ?_
  refine TD.rs rfl rfl (o_fieldAddr rfl rfl rfl tyS_26 (by decide) rfl rfl ⟨_, rfl, Nat.le_of_ble_eq_true rfl⟩) ?_
  refine TD.an rfl rfl (o_storeBx rfl tyS_26 rfl rfl rfl rfl (Nat.le_of_ble_eq_true rfl) rfl) ?_
  refine TD.rs rfl rfl (o_fieldAddr rfl rfl rfl tyS_26 (by decide) rfl rfl ⟨_, rfl, Nat.le_of_ble_eq_true rfl⟩) ?_
  refine TD.an rfl rfl (o_storeBx rfl tyS_26 rfl rfl rfl rfl (Nat.le_of_ble_eq_true rfl) rfl) ?_
  refine TD.rs rfl rfl (o_fieldAddr rfl rfl rfl tyS_27 (by decide) rfl rfl ⟨_, rfl, Nat.le_of_ble_eq_true rfl⟩) ?_
  refine TD.an rfl rfl (o_storeBx rfl tyS_27 rfl rfl rfl rfl (Nat.le_of_ble_eq_true rfl) rfl) ?_
  refine TD.nil ⟨rfl, ?_⟩
  refine thn_normal (T.seq (T.region (TL.st rfl rfl rfl (o_loadBx rfl tyS_29 rfl rfl (Nat.le_of_ble_eq_true rfl) rfl) ?_)))
  refine TL.sn rfl rfl (o_storeBx rfl tyS_29 rfl rfl rfl rfl (Nat.le_of_ble_eq_true rfl) rfl) ?_
  refine TL.st rfl rfl rfl (o_assign rfl rfl) (TL.nil (thn_normal (T.ret ?_)))
  cases some_i H
  exact ⟨trivial, _, (.cell _ _ _ _ _ _ _ _ _ _ rfl rfl tyS_29 (Nat.le_of_ble_eq_true rfl) rfl (.tmp _ _ _ _ rfl .nil)), (.tupL (.cons _ _ _ _ (.cl _ rfl) (.cons _ _ _ _ (.cl _ rfl) .nil)))⟩
theorem en_5 (us : Array Value) (w : World) : (callFunc 5 us).run Go.Proofs.Tryz.prog w = .ok (.enter 5 us) w := enters Go.Proofs.Tryz.func5 rfl rfl us w
noncomputable def spec_l1Letter (a0 : Int) : Option Bool :=
  some ((decide (a0 ≥ 97) && decide (a0 ≤ 122)) || (decide (a0 ≥ 65) && decide (a0 ≤ 90)))
theorem spec_l1Letter_p  {a0 : Int} {R0 : Bool} (H : spec_l1Letter a0 = some R0) : Pure Go.Proofs.Tryz.prog 48 [.int .u8 a0] (.bool R0) := by
 refine CallT.of_TN (n := 17) Go.Proofs.Tryz.func48 rfl rfl rfl rfl ?_
 refine T.seq (T.region (TL.st rfl rfl rfl (o_assign rfl rfl) (TL.nil (thn_normal (T.seq (T.region (TL.st rfl rfl rfl (o_move rfl rfl) (TL.st rfl rfl rfl (o_ari rfl rfl rfl rfl) (TL.st rfl rfl rfl (o_move rfl rfl) (TL.gcq rfl rfl rfl (.bool _) rfl rfl (fun h => o_move rfl rfl) (TL.gcq rfl rfl rfl (.bool _) rfl rfl (fun h => o_ari rfl (gv h rfl) rfl rfl) ?_)))))))))))
 refine TL.st rfl rfl rfl (o_and rfl rfl rfl (fun k => Gd_t k) rfl) (TL.st rfl rfl rfl (o_move rfl rfl) (TL.gcq rfl rfl rfl (.bool _) rfl rfl (fun h => o_move rfl rfl) (TL.gcq rfl rfl rfl (.bool _) rfl rfl (fun h => o_ari rfl (gv h rfl) rfl rfl) ?_)))
 refine TL.gcq rfl rfl rfl (.bool _) rfl rfl (fun h => o_move rfl (gv h rfl)) ?_
 refine TL.gcq rfl rfl rfl (.gd _ _) rfl rfl (fun h => o_move rfl rfl) ?_
 refine TL.gcq rfl rfl rfl (.gd _ _) rfl rfl (fun h => o_ari rfl (gv h rfl) rfl rfl) ?_
 refine TL.gcq rfl rfl rfl (.bool _) rfl rfl (fun h => o_and rfl (gv h rfl) rfl (fun k => Gd_t (andi h k)) rfl) ?_
 refine TL.st rfl rfl rfl (o_or rfl rfl rfl rfl (fun k => Gd_t k)) (TL.st rfl rfl rfl (o_assign rfl rfl) (TL.nil (thn_normal (T.ret ?_))))
 cases some_i H
 exact ⟨trivial, _, (.tmp _ _ _ _ rfl .nil), (.cl _ rfl)⟩
theorem en_48 (us : Array Value) (w : World) : (callFunc 48 us).run Go.Proofs.Tryz.prog w = .ok (.enter 48 us) w := enters Go.Proofs.Tryz.func48 rfl rfl us w
noncomputable def spec_l1Digit (a0 : Int) : Option Bool :=
  some (decide (a0 ≥ 48) && decide (a0 ≤ 57))
theorem spec_l1Digit_p  {a0 : Int} {R0 : Bool} (H : spec_l1Digit a0 = some R0) : Pure Go.Proofs.Tryz.prog 49 [.int .u8 a0] (.bool R0) := by
 refine CallT.of_TN (n := 9) Go.Proofs.Tryz.func49 rfl rfl rfl rfl ?_
 refine T.seq (T.region (TL.st rfl rfl rfl (o_assign rfl rfl) (TL.nil (thn_normal (T.seq (T.region (TL.st rfl rfl rfl (o_move rfl rfl) (TL.st rfl rfl rfl (o_ari rfl rfl rfl rfl) (TL.st rfl rfl rfl (o_move rfl rfl) (TL.gcq rfl rfl rfl (.bool _) rfl rfl (fun h => o_move rfl rfl) (TL.gcq rfl rfl rfl (.bool _) rfl rfl (fun h => o_ari rfl (gv h rfl) rfl rfl) ?_)))))))))))
 refine TL.st rfl rfl rfl (o_and rfl rfl rfl (fun k => Gd_t k) rfl) (TL.st rfl rfl rfl (o_assign rfl rfl) (TL.nil (thn_normal (T.ret ?_))))
 cases some_i H
 exact ⟨trivial, _, (.tmp _ _ _ _ rfl .nil), (.cl _ rfl)⟩
theorem en_49 (us : Array Value) (w : World) : (callFunc 49 us).run Go.Proofs.Tryz.prog w = .ok (.enter 49 us) w := enters Go.Proofs.Tryz.func49 rfl rfl us w
noncomputable def spec_l7Id_l1 (a0 : ByteArray) : Int → Option (Int ⊕ (Unit ⊕ Bool)) := fun s => match s with
  | v1 => cond (decide (v1 < (a0.size : Int))) ((idxS a0 v1).bind fun b4 => (spec_l1Letter b4).bind fun r6 => (gdO (!r6) (idxS a0 v1)).bind fun b8 => (gdO (!r6) (spec_l1Digit b8)).bind fun r10 => (gdO ((!r6) && (!r10)) (idxS a0 v1)).bind fun b12 => (gdO (((!r6) && (!r10)) && (b12 != 95)) (idxS a0 v1)).bind fun b14 => (gdO ((((!r6) && (!r10)) && (b12 != 95)) && (b14 != 45)) (idxS a0 v1)).bind fun b16 => cond (((((!r6) && (!r10)) && (b12 != 95)) && (b14 != 45)) && (b16 != 46)) (some (.inr (.inr false))) (some (.inl (IntKind.i64.wrap (v1 + 1))))) (some (.inr (.inl ())))
noncomputable def spec_l7Id (a0 : ByteArray) : Option Bool :=
  (loopO (spec_l7Id_l1 a0) 0).bind fun q18 => (match q18 with | .inl _ => some (decide ((a0.size : Int) ≥ 1) && decide ((a0.size : Int) ≤ 40)) | .inr q2 => some q2)
theorem spec_l7Id_p  {a0 : ByteArray} {R0 : Bool} (H : spec_l7Id a0 = some R0) : Pure Go.Proofs.Tryz.prog 25 [.str a0] (.bool R0) := by
 refine CallT.of_TN (n := 48) Go.Proofs.Tryz.func25 rfl rfl rfl rfl ?_
 refine T.seq (T.region (TL.st rfl rfl rfl (o_assign rfl rfl) (TL.nil (thn_normal (T.seq (T.seq (T.region (TL.st rfl rfl rfl (o_assign rfl rfl) (TL.nil (thn_normal (T.block ?_)))))))))))
 obtain ⟨q18, h19, H⟩ := bind_s H
 refine T.to (.cons 0 _ (.str a0) _ rfl (.same _) rfl (.cons 3 _ (.int .i64 0) _ rfl (.same _) rfl .nil)) ?_
 refine T.lp (fun s => match s with | v1 => [(0, .str a0), (3, .int .i64 v1)]) (fun s => match s with | v1 => []) (fun q ex fr σ => match q with | .inl _ => ex = .exit 0 ∧ fr = [(0, .str a0)] ∧ σ = [] | .inr q2 => ex = .ret ∧ RetN Go.Proofs.Tryz.prog [.tmp 2] (fun v τ => Told τ v (.bool q2)) .ret fr σ) h19 ?_ ?_ ?_ ?_ ?_
 ·rintro v1 y3 H
  refine T.seq (T.seq (T.region (TL.st rfl rfl rfl (o_move rfl rfl) (TL.st rfl rfl rfl (o_move rfl rfl) (TL.st rfl rfl rfl (o_lenS rfl rfl rfl) ?_)))))
  refine TL.st rfl rfl rfl (o_ari rfl rfl rfl rfl) (TL.nil (thn_normal ?_))
  refine T.cond (decide (v1 < (a0.size : Int))) rfl (fun h => ?_) (fun h => ?_)
  ·replace H := cond_t h H
   refine T.skip (thn_normal (T.seq (T.block (T.seq (T.region (TL.st rfl rfl rfl (o_move rfl rfl) (TL.st rfl rfl rfl (o_move rfl rfl) ?_)))))))
   obtain ⟨b4, h5, H⟩ := bind_s H
   refine TL.st rfl rfl rfl (o_ixs rfl rfl rfl rfl h5) ?_
   obtain ⟨r6, h7, H⟩ := bind_s H
   refine TL.st rfl rfl rfl (o_callP rfl en_48 rfl rfl (.cons _ _ _ _ (.cl _ rfl) .nil) (spec_l1Letter_p  h7)) ?_
   refine TL.st rfl rfl rfl (o_not rfl rfl) ?_
   refine TL.st rfl rfl rfl (o_move rfl rfl) (TL.gcq rfl rfl rfl (.bool _) rfl rfl (fun h => o_move rfl rfl) (TL.gcq rfl rfl rfl (.bool _) rfl rfl (fun h => o_move rfl rfl) ?_))
   obtain ⟨b8, h9, H⟩ := bind_s H
   refine TL.gcq rfl rfl rfl (.bool _) rfl rfl (fun h => o_ixs rfl rfl (gv h rfl) (gv h rfl) (gdO_t h9 h)) ?_
   obtain ⟨r10, h11, H⟩ := bind_s H
   refine TL.gcq rfl rfl rfl (.bool _) rfl rfl (fun h => o_callP rfl en_49 rfl (evl_1 (gv h rfl)) (.cons _ _ _ _ (.cl _ rfl) .nil) (spec_l1Digit_p  (gdO_t h11 h))) ?_
   refine TL.gcq rfl rfl rfl (.bool _) rfl rfl (fun h => o_not rfl (gv h rfl)) ?_
   refine TL.st rfl rfl rfl (o_and rfl rfl rfl (fun k => Gd_t k) rfl) (TL.st rfl rfl rfl (o_move rfl rfl) (TL.gcq rfl rfl rfl (.bool _) rfl rfl (fun h => o_move rfl rfl) (TL.gcq rfl rfl rfl (.bool _) rfl rfl (fun h => o_move rfl rfl) ?_)))
   obtain ⟨b12, h13, H⟩ := bind_s H
   refine TL.gcq rfl rfl rfl (.bool _) rfl rfl (fun h => o_ixs rfl rfl (gv h rfl) (gv h rfl) (gdO_t h13 h)) ?_
   refine TL.gcq rfl rfl rfl (.bool _) rfl rfl (fun h => o_ari rfl (gv h rfl) rfl rfl) ?_
   refine TL.st rfl rfl rfl (o_and rfl rfl rfl (fun k => Gd_t k) rfl) (TL.st rfl rfl rfl (o_move rfl rfl) (TL.gcq rfl rfl rfl (.bool _) rfl rfl (fun h => o_move rfl rfl) (TL.gcq rfl rfl rfl (.bool _) rfl rfl (fun h => o_move rfl rfl) ?_)))
   obtain ⟨b14, h15, H⟩ := bind_s H
   refine TL.gcq rfl rfl rfl (.bool _) rfl rfl (fun h => o_ixs rfl rfl (gv h rfl) (gv h rfl) (gdO_t h15 h)) ?_
   refine TL.gcq rfl rfl rfl (.bool _) rfl rfl (fun h => o_ari rfl (gv h rfl) rfl rfl) ?_
   refine TL.st rfl rfl rfl (o_and rfl rfl rfl (fun k => Gd_t k) rfl) (TL.st rfl rfl rfl (o_move rfl rfl) (TL.gcq rfl rfl rfl (.bool _) rfl rfl (fun h => o_move rfl rfl) (TL.gcq rfl rfl rfl (.bool _) rfl rfl (fun h => o_move rfl rfl) ?_)))
   obtain ⟨b16, h17, H⟩ := bind_s H
   refine TL.gcq rfl rfl rfl (.bool _) rfl rfl (fun h => o_ixs rfl rfl (gv h rfl) (gv h rfl) (gdO_t h17 h)) ?_
   refine TL.gcq rfl rfl rfl (.bool _) rfl rfl (fun h => o_ari rfl (gv h rfl) rfl rfl) ?_
   refine TL.st rfl rfl rfl (o_and rfl rfl rfl (fun k => Gd_t k) rfl) (TL.nil (thn_normal ?_))
   refine T.cond ((((((!r6) && (!r10)) && (b12 != 95)) && (b14 != 45)) && (b16 != 46))) rfl (fun h => ?_) (fun h => ?_)
   ·replace H := cond_t h H
    refine T.seq (T.region (TL.st rfl rfl rfl (o_assign rfl rfl) (TL.nil (thn_normal (T.ret (inB_ret (thn_ret ?_)))))))
    exact Pk.id (thn_ret ⟨.inr false, (some_i H).symm, rfl, ⟨trivial, _, (.tmp _ _ _ _ rfl .nil), (.cl _ rfl)⟩⟩)
   ·replace H := cond_f h H
    refine T.skip (inB_normal (thn_normal (T.region (TL.st rfl rfl rfl (o_move rfl rfl) (TL.st rfl rfl rfl (o_ari rfl rfl rfl rfl) (TL.st rfl rfl rfl (o_assign rfl rfl) (TL.nil ?_)))))))
    exact Pk.go (fr' := [(0, .str a0), (3, .int .i64 (IntKind.i64.wrap (v1 + 1)))]) (σ' := []) _ rfl rfl trivial (.cons 0 _ (.str a0) _ rfl (.same _) rfl (.cons 3 _ (.int .i64 (IntKind.i64.wrap (v1 + 1))) _ rfl (.same _) rfl .nil)) (thn_normal ⟨(IntKind.i64.wrap (v1 + 1)), (some_i H).symm, rfl, rfl⟩)
  ·replace H := cond_f h H
   refine T.exit (thn_exit ?_)
   exact Pk.go (fr' := [(0, .str a0)]) (σ' := []) _ rfl rfl trivial (.cons 0 _ (.str a0) _ rfl (.same _) rfl .nil) (thn_exit ⟨.inl (), (some_i H).symm, rfl, rfl, rfl⟩)
 ·rintro v1 v1'; rfl
 ·rintro v1; exact trivial
 ·rintro v1; exact (.cons _ _ _ rfl rfl (.cons _ _ _ rfl rfl .nil))
 ·rcases q18 with ⟨⟩ | q2
  ·rintro _ _ _ ⟨rfl, rfl, rfl⟩
   refine inB_here (thn_normal (T.seq (T.region (TL.st rfl rfl rfl (o_move rfl rfl) (TL.st rfl rfl rfl (o_lenS rfl rfl rfl) ?_)))))
   refine TL.st rfl rfl rfl (o_ari rfl rfl rfl rfl) (TL.st rfl rfl rfl (o_move rfl rfl) (TL.gcq rfl rfl rfl (.bool _) rfl rfl (fun h => o_move rfl rfl) (TL.gcq rfl rfl rfl (.bool _) rfl rfl (fun h => o_lenS rfl rfl (gv h rfl)) ?_)))
   refine TL.gcq rfl rfl rfl (.bool _) rfl rfl (fun h => o_ari rfl (gv h rfl) rfl rfl) ?_
   refine TL.st rfl rfl rfl (o_and rfl rfl rfl (fun k => Gd_t k) rfl) (TL.st rfl rfl rfl (o_assign rfl rfl) (TL.nil (thn_normal (T.ret ?_))))
   cases some_i H
   exact ⟨trivial, _, (.tmp _ _ _ _ rfl .nil), (.cl _ rfl)⟩
  ·rintro _ fr1 σ1 ⟨rfl, hr⟩
   refine inB_ret (thn_ret ?_)
   cases some_i H
   exact hr
theorem en_25 (us : Array Value) (w : World) : (callFunc 25 us).run Go.Proofs.Tryz.prog w = .ok (.enter 25 us) w := enters Go.Proofs.Tryz.func25 rfl rfl us w
noncomputable def spec_l1Printed_l1 (a0 : ByteArray) : Int → Option (Int ⊕ (Unit ⊕ Bool)) := fun s => match s with
  | v1 => cond (decide (v1 < (a0.size : Int))) ((idxS a0 v1).bind fun b4 => (gdO (!(decide (b4 < 32))) (idxS a0 v1)).bind fun b6 => cond (decide (b4 < 32) || decide (b6 > 126)) (some (.inr (.inr false))) (some (.inl (IntKind.i64.wrap (v1 + 1))))) (some (.inr (.inl ())))
noncomputable def spec_l1Printed (a0 : ByteArray) : Option Bool :=
  (loopO (spec_l1Printed_l1 a0) 0).bind fun q8 => (match q8 with | .inl _ => some true | .inr q2 => some q2)
theorem spec_l1Printed_p  {a0 : ByteArray} {R0 : Bool} (H : spec_l1Printed a0 = some R0) : Pure Go.Proofs.Tryz.prog 50 [.str a0] (.bool R0) := by
 refine CallT.of_TN (n := 20) Go.Proofs.Tryz.func50 rfl rfl rfl rfl ?_
 refine T.seq (T.region (TL.st rfl rfl rfl (o_assign rfl rfl) (TL.nil (thn_normal (T.seq (T.seq (T.region (TL.st rfl rfl rfl (o_assign rfl rfl) (TL.nil (thn_normal (T.block ?_)))))))))))
 obtain ⟨q8, h9, H⟩ := bind_s H
 refine T.to (.cons 0 _ (.str a0) _ rfl (.same _) rfl (.cons 3 _ (.int .i64 0) _ rfl (.same _) rfl .nil)) ?_
 refine T.lp (fun s => match s with | v1 => [(0, .str a0), (3, .int .i64 v1)]) (fun s => match s with | v1 => []) (fun q ex fr σ => match q with | .inl _ => ex = .exit 0 ∧ fr = [] ∧ σ = [] | .inr q2 => ex = .ret ∧ RetN Go.Proofs.Tryz.prog [.tmp 2] (fun v τ => Told τ v (.bool q2)) .ret fr σ) h9 ?_ ?_ ?_ ?_ ?_
 ·rintro v1 y3 H
  refine T.seq (T.seq (T.region (TL.st rfl rfl rfl (o_move rfl rfl) (TL.st rfl rfl rfl (o_move rfl rfl) (TL.st rfl rfl rfl (o_lenS rfl rfl rfl) ?_)))))
  refine TL.st rfl rfl rfl (o_ari rfl rfl rfl rfl) (TL.nil (thn_normal ?_))
  refine T.cond (decide (v1 < (a0.size : Int))) rfl (fun h => ?_) (fun h => ?_)
  ·replace H := cond_t h H
   refine T.skip (thn_normal (T.seq (T.block (T.seq (T.region (TL.st rfl rfl rfl (o_move rfl rfl) (TL.st rfl rfl rfl (o_move rfl rfl) ?_)))))))
   obtain ⟨b4, h5, H⟩ := bind_s H
   refine TL.st rfl rfl rfl (o_ixs rfl rfl rfl rfl h5) ?_
   refine TL.st rfl rfl rfl (o_ari rfl rfl rfl rfl) (TL.st rfl rfl rfl (o_move rfl rfl) (TL.gcq rfl rfl rfl (.bool _) rfl rfl (fun h => o_move rfl rfl) (TL.gcq rfl rfl rfl (.bool _) rfl rfl (fun h => o_move rfl rfl) ?_)))
   obtain ⟨b6, h7, H⟩ := bind_s H
   refine TL.gcq rfl rfl rfl (.bool _) rfl rfl (fun h => o_ixs rfl rfl (gv h rfl) (gv h rfl) (gdO_t h7 h)) ?_
   refine TL.gcq rfl rfl rfl (.bool _) rfl rfl (fun h => o_ari rfl (gv h rfl) rfl rfl) ?_
   refine TL.st rfl rfl rfl (o_or rfl rfl rfl rfl (fun k => Gd_t k)) (TL.nil (thn_normal ?_))
   refine T.cond ((decide (b4 < 32) || decide (b6 > 126))) rfl (fun h => ?_) (fun h => ?_)
   ·replace H := cond_t h H
    refine T.seq (T.region (TL.st rfl rfl rfl (o_assign rfl rfl) (TL.nil (thn_normal (T.ret (inB_ret (thn_ret ?_)))))))
    exact Pk.id (thn_ret ⟨.inr false, (some_i H).symm, rfl, ⟨trivial, _, (.tmp _ _ _ _ rfl .nil), (.cl _ rfl)⟩⟩)
   ·replace H := cond_f h H
    refine T.skip (inB_normal (thn_normal (T.region (TL.st rfl rfl rfl (o_move rfl rfl) (TL.st rfl rfl rfl (o_ari rfl rfl rfl rfl) (TL.st rfl rfl rfl (o_assign rfl rfl) (TL.nil ?_)))))))
    exact Pk.go (fr' := [(0, .str a0), (3, .int .i64 (IntKind.i64.wrap (v1 + 1)))]) (σ' := []) _ rfl rfl trivial (.cons 0 _ (.str a0) _ rfl (.same _) rfl (.cons 3 _ (.int .i64 (IntKind.i64.wrap (v1 + 1))) _ rfl (.same _) rfl .nil)) (thn_normal ⟨(IntKind.i64.wrap (v1 + 1)), (some_i H).symm, rfl, rfl⟩)
  ·replace H := cond_f h H
   refine T.exit (thn_exit ?_)
   exact Pk.go (fr' := []) (σ' := []) _ rfl rfl trivial .nil (thn_exit ⟨.inl (), (some_i H).symm, rfl, rfl, rfl⟩)
 ·rintro v1 v1'; rfl
 ·rintro v1; exact trivial
 ·rintro v1; exact (.cons _ _ _ rfl rfl (.cons _ _ _ rfl rfl .nil))
 ·rcases q8 with ⟨⟩ | q2
  ·rintro _ _ _ ⟨rfl, rfl, rfl⟩
   refine inB_here (thn_normal (T.seq (T.region (TL.st rfl rfl rfl (o_assign rfl rfl) (TL.nil (thn_normal (T.ret ?_)))))))
   cases some_i H
   exact ⟨trivial, _, (.tmp _ _ _ _ rfl .nil), (.cl _ rfl)⟩
  ·rintro _ fr1 σ1 ⟨rfl, hr⟩
   refine inB_ret (thn_ret ?_)
   cases some_i H
   exact hr
theorem en_50 (us : Array Value) (w : World) : (callFunc 50 us).run Go.Proofs.Tryz.prog w = .ok (.enter 50 us) w := enters Go.Proofs.Tryz.func50 rfl rfl us w
noncomputable def spec_GoodName_l1 (a0 : ByteArray) : Int → Option (Int ⊕ (Unit ⊕ Bool)) := fun s => match s with
  | v5 => cond (decide (v5 < (a0.size : Int))) ((idxS a0 v5).bind fun b8 => (spec_l1Letter b8).bind fun r10 => (gdO (!r10) (idxS a0 v5)).bind fun b12 => (gdO (!r10) (spec_l1Digit b12)).bind fun r14 => (gdO ((!r10) && (!r14)) (idxS a0 v5)).bind fun b16 => cond (((!r10) && (!r14)) && (b16 != 95)) (some (.inr (.inr false))) (some (.inl (IntKind.i64.wrap (v5 + 1))))) (some (.inr (.inl ())))
noncomputable def spec_GoodName (a0 : ByteArray) : Option Bool :=
  (gdO (!(decide ((a0.size : Int) < 1) || decide ((a0.size : Int) > 30))) (idxS a0 0)).bind fun b1 => (gdO (!(decide ((a0.size : Int) < 1) || decide ((a0.size : Int) > 30))) (spec_l1Digit b1)).bind fun r3 => cond ((decide ((a0.size : Int) < 1) || decide ((a0.size : Int) > 30)) || r3) (some false) ((loopO (spec_GoodName_l1 a0) 0).bind fun q18 => (match q18 with | .inl _ => some true | .inr q6 => some q6))
theorem spec_GoodName_p  {a0 : ByteArray} {R0 : Bool} (H : spec_GoodName a0 = some R0) : Pure Go.Proofs.Tryz.prog 51 [.str a0] (.bool R0) := by
 refine CallT.of_TN (n := 41) Go.Proofs.Tryz.func51 rfl rfl rfl rfl ?_
 refine T.seq (T.region (TL.st rfl rfl rfl (o_assign rfl rfl) (TL.nil (thn_normal (T.seq (T.seq (T.region (TL.st rfl rfl rfl (o_move rfl rfl) (TL.st rfl rfl rfl (o_lenS rfl rfl rfl) ?_)))))))))
 refine TL.st rfl rfl rfl (o_ari rfl rfl rfl rfl) (TL.st rfl rfl rfl (o_move rfl rfl) (TL.gcq rfl rfl rfl (.bool _) rfl rfl (fun h => o_move rfl rfl) (TL.gcq rfl rfl rfl (.bool _) rfl rfl (fun h => o_lenS rfl rfl (gv h rfl)) ?_)))
 refine TL.gcq rfl rfl rfl (.bool _) rfl rfl (fun h => o_ari rfl (gv h rfl) rfl rfl) ?_
 refine TL.st rfl rfl rfl (o_or rfl rfl rfl rfl (fun k => Gd_t k)) (TL.st rfl rfl rfl (o_move rfl rfl) (TL.gcq rfl rfl rfl (.bool _) rfl rfl (fun h => o_move rfl rfl) ?_))
 obtain ⟨b1, h2, H⟩ := bind_s H
 refine TL.gcq rfl rfl rfl (.bool _) rfl rfl (fun h => o_ixs rfl rfl (gv h rfl) rfl (gdO_t h2 h)) ?_
 obtain ⟨r3, h4, H⟩ := bind_s H
 refine TL.gcq rfl rfl rfl (.bool _) rfl rfl (fun h => o_callP rfl en_49 rfl (evl_1 (gv h rfl)) (.cons _ _ _ _ (.cl _ rfl) .nil) (spec_l1Digit_p  (gdO_t h4 h))) ?_
 refine TL.st rfl rfl rfl (o_or rfl rfl rfl rfl (fun k => Gd_t k)) (TL.nil (thn_normal ?_))
 refine T.cond (((decide ((a0.size : Int) < 1) || decide ((a0.size : Int) > 30)) || r3)) rfl (fun h => ?_) (fun h => ?_)
 ·replace H := cond_t h H
  refine T.seq (T.region (TL.st rfl rfl rfl (o_assign rfl rfl) (TL.nil (thn_normal (T.ret (thn_ret ?_))))))
  cases some_i H
  exact ⟨trivial, _, (.tmp _ _ _ _ rfl .nil), (.cl _ rfl)⟩
 ·replace H := cond_f h H
  refine T.skip (thn_normal (T.seq (T.seq (T.region (TL.st rfl rfl rfl (o_assign rfl rfl) (TL.nil (thn_normal (T.block ?_))))))))
  obtain ⟨q18, h19, H⟩ := bind_s H
  refine T.to (.cons 0 _ (.str a0) _ rfl (.same _) rfl (.cons 3 _ (.int .i64 0) _ rfl (.same _) rfl .nil)) ?_
  refine T.lp (fun s => match s with | v5 => [(0, .str a0), (3, .int .i64 v5)]) (fun s => match s with | v5 => []) (fun q ex fr σ => match q with | .inl _ => ex = .exit 0 ∧ fr = [] ∧ σ = [] | .inr q6 => ex = .ret ∧ RetN Go.Proofs.Tryz.prog [.tmp 2] (fun v τ => Told τ v (.bool q6)) .ret fr σ) h19 ?_ ?_ ?_ ?_ ?_
  ·rintro v5 y7 H
   refine T.seq (T.seq (T.region (TL.st rfl rfl rfl (o_move rfl rfl) (TL.st rfl rfl rfl (o_move rfl rfl) (TL.st rfl rfl rfl (o_lenS rfl rfl rfl) ?_)))))
   refine TL.st rfl rfl rfl (o_ari rfl rfl rfl rfl) (TL.nil (thn_normal ?_))
   refine T.cond (decide (v5 < (a0.size : Int))) rfl (fun h => ?_) (fun h => ?_)
   ·replace H := cond_t h H
    refine T.skip (thn_normal (T.seq (T.block (T.seq (T.region (TL.st rfl rfl rfl (o_move rfl rfl) (TL.st rfl rfl rfl (o_move rfl rfl) ?_)))))))
    obtain ⟨b8, h9, H⟩ := bind_s H
    refine TL.st rfl rfl rfl (o_ixs rfl rfl rfl rfl h9) ?_
    obtain ⟨r10, h11, H⟩ := bind_s H
    refine TL.st rfl rfl rfl (o_callP rfl en_48 rfl rfl (.cons _ _ _ _ (.cl _ rfl) .nil) (spec_l1Letter_p  h11)) ?_
    refine TL.st rfl rfl rfl (o_not rfl rfl) ?_
    refine TL.st rfl rfl rfl (o_move rfl rfl) (TL.gcq rfl rfl rfl (.bool _) rfl rfl (fun h => o_move rfl rfl) (TL.gcq rfl rfl rfl (.bool _) rfl rfl (fun h => o_move rfl rfl) ?_))
    obtain ⟨b12, h13, H⟩ := bind_s H
    refine TL.gcq rfl rfl rfl (.bool _) rfl rfl (fun h => o_ixs rfl rfl (gv h rfl) (gv h rfl) (gdO_t h13 h)) ?_
    obtain ⟨r14, h15, H⟩ := bind_s H
    refine TL.gcq rfl rfl rfl (.bool _) rfl rfl (fun h => o_callP rfl en_49 rfl (evl_1 (gv h rfl)) (.cons _ _ _ _ (.cl _ rfl) .nil) (spec_l1Digit_p  (gdO_t h15 h))) ?_
    refine TL.gcq rfl rfl rfl (.bool _) rfl rfl (fun h => o_not rfl (gv h rfl)) ?_
    refine TL.st rfl rfl rfl (o_and rfl rfl rfl (fun k => Gd_t k) rfl) (TL.st rfl rfl rfl (o_move rfl rfl) (TL.gcq rfl rfl rfl (.bool _) rfl rfl (fun h => o_move rfl rfl) (TL.gcq rfl rfl rfl (.bool _) rfl rfl (fun h => o_move rfl rfl) ?_)))
    obtain ⟨b16, h17, H⟩ := bind_s H
    refine TL.gcq rfl rfl rfl (.bool _) rfl rfl (fun h => o_ixs rfl rfl (gv h rfl) (gv h rfl) (gdO_t h17 h)) ?_
    refine TL.gcq rfl rfl rfl (.bool _) rfl rfl (fun h => o_ari rfl (gv h rfl) rfl rfl) ?_
    refine TL.st rfl rfl rfl (o_and rfl rfl rfl (fun k => Gd_t k) rfl) (TL.nil (thn_normal ?_))
    refine T.cond ((((!r10) && (!r14)) && (b16 != 95))) rfl (fun h => ?_) (fun h => ?_)
    ·replace H := cond_t h H
     refine T.seq (T.region (TL.st rfl rfl rfl (o_assign rfl rfl) (TL.nil (thn_normal (T.ret (inB_ret (thn_ret ?_)))))))
     exact Pk.id (thn_ret ⟨.inr false, (some_i H).symm, rfl, ⟨trivial, _, (.tmp _ _ _ _ rfl .nil), (.cl _ rfl)⟩⟩)
    ·replace H := cond_f h H
     refine T.skip (inB_normal (thn_normal (T.region (TL.st rfl rfl rfl (o_move rfl rfl) (TL.st rfl rfl rfl (o_ari rfl rfl rfl rfl) (TL.st rfl rfl rfl (o_assign rfl rfl) (TL.nil ?_)))))))
     exact Pk.go (fr' := [(0, .str a0), (3, .int .i64 (IntKind.i64.wrap (v5 + 1)))]) (σ' := []) _ rfl rfl trivial (.cons 0 _ (.str a0) _ rfl (.same _) rfl (.cons 3 _ (.int .i64 (IntKind.i64.wrap (v5 + 1))) _ rfl (.same _) rfl .nil)) (thn_normal ⟨(IntKind.i64.wrap (v5 + 1)), (some_i H).symm, rfl, rfl⟩)
   ·replace H := cond_f h H
    refine T.exit (thn_exit ?_)
    exact Pk.go (fr' := []) (σ' := []) _ rfl rfl trivial .nil (thn_exit ⟨.inl (), (some_i H).symm, rfl, rfl, rfl⟩)
  ·rintro v5 v5'; rfl
  ·rintro v5; exact trivial
  ·rintro v5; exact (.cons _ _ _ rfl rfl (.cons _ _ _ rfl rfl .nil))
  ·rcases q18 with ⟨⟩ | q6
   ·rintro _ _ _ ⟨rfl, rfl, rfl⟩
    refine inB_here (thn_normal (T.seq (T.region (TL.st rfl rfl rfl (o_assign rfl rfl) (TL.nil (thn_normal (T.ret ?_)))))))
    cases some_i H
    exact ⟨trivial, _, (.tmp _ _ _ _ rfl .nil), (.cl _ rfl)⟩
   ·rintro _ fr1 σ1 ⟨rfl, hr⟩
    refine inB_ret (thn_ret ?_)
    cases some_i H
    exact hr
theorem en_51 (us : Array Value) (w : World) : (callFunc 51 us).run Go.Proofs.Tryz.prog w = .ok (.enter 51 us) w := enters Go.Proofs.Tryz.func51 rfl rfl us w
noncomputable def spec_l1Block (a0 : T_impl_Atom) : Option (Int × Int) :=
  (spec_l1Pow2 (IntKind.i64.wrap (32 - (Int.tmod a0.Num_ 64)))).bind fun r1 => some ((IntKind.i64.wrap (Int.tdiv a0.Num_ 64)), r1)
theorem spec_l1Block_p  {a0 : T_impl_Atom} {R0 : Int} {R1 : Int} (H : spec_l1Block a0 = some (R0, R1)) : Pure Go.Proofs.Tryz.prog 53 [.agg (c_T_impl_Atom false a0)] (.tup [.int .i64 R0, .int .i64 R1]) := by
 refine CallT.of_TN (n := 12) Go.Proofs.Tryz.func53 rfl rfl rfl rfl ?_
 refine T.seq (T.region (TL.st rfl rfl rfl (o_box rfl rfl rfl) (TL.st rfl rfl rfl (o_assign rfl rfl) (TL.st rfl rfl rfl (o_assign rfl rfl) (TL.nil (thn_normal (T.seq (T.drawn rfl ?_))))))))
 refine TD.rs rfl rfl (o_fieldAddr rfl rfl rfl tyS_3 (by decide) rfl rfl ⟨_, rfl, Nat.le_of_ble_eq_true rfl⟩) ?_
 refine TD.rs rfl rfl (o_loadBx rfl tyS_3 rfl rfl (Nat.le_of_ble_eq_true rfl) rfl) ?_
 refine TD.qs rfl rfl (fun _ => o_quo rfl rfl rfl (by decide)) ?_
 refine TD.rs rfl rfl (o_fieldAddr rfl rfl rfl tyS_3 (by decide) rfl rfl ⟨_, rfl, Nat.le_of_ble_eq_true rfl⟩) ?_
 refine TD.rs rfl rfl (o_loadBx rfl tyS_3 rfl rfl (Nat.le_of_ble_eq_true rfl) rfl) ?_
 refine TD.qs rfl rfl (fun _ => o_rem rfl rfl rfl (by decide)) ?_
 refine TD.qs rfl rfl (fun _ => o_ari rfl rfl rfl rfl) ?_
 obtain ⟨r1, h2, H⟩ := bind_s H
 refine TD.qs rfl rfl (fun _ => o_callP rfl en_52 rfl rfl (.cons _ _ _ _ (.cl _ rfl) .nil) (spec_l1Pow2_p  h2)) ?_
 refine TD.qs rfl rfl (fun _ => o_assign rfl rfl) (TD.qs rfl rfl (fun _ => o_assign rfl rfl) ?_)
 refine TD.nil ⟨rfl, ?_⟩
 refine thn_normal (T.ret ?_)
 cases some_i H
 exact ⟨trivial, _, (.tmp _ _ _ _ rfl (.tmp _ _ _ _ rfl .nil)), (.tupL (.cons _ _ _ _ (.cl _ rfl) (.cons _ _ _ _ (.cl _ rfl) .nil)))⟩
theorem en_53 (us : Array Value) (w : World) : (callFunc 53 us).run Go.Proofs.Tryz.prog w = .ok (.enter 53 us) w := enters Go.Proofs.Tryz.func53 rfl rfl us w
noncomputable def spec_GoodAtom_j1 (a0 : T_impl_Atom) (v1 : Bool) : Option Bool :=
  cond v1 (some true) (cond (a0.Kind_ == 3) ((gdO ((a0.Num_ == 0) && decide ((a0.Text_.size : Int) ≤ 200)) (spec_l1Printed a0.Text_)).bind fun r2 => some (((a0.Num_ == 0) && decide ((a0.Text_.size : Int) ≤ 200)) && r2)) (cond (a0.Kind_ == 4) ((gdO (a0.Num_ == 0) (spec_GoodName a0.Type_)).bind fun r4 => (gdO ((((a0.Num_ == 0) && r4) && decide ((a0.Text_.size : Int) ≥ 1)) && decide ((a0.Text_.size : Int) ≤ 200)) (spec_l1Printed a0.Text_)).bind fun r6 => some (((((a0.Num_ == 0) && r4) && decide ((a0.Text_.size : Int) ≥ 1)) && decide ((a0.Text_.size : Int) ≤ 200)) && r6)) (cond (a0.Kind_ == 6) ((gdO (!(decide (a0.Num_ < 0))) (spec_l1Pow2 32)).bind fun r8 => cond ((decide (a0.Num_ < 0) || decide ((IntKind.i64.wrap (Int.tdiv a0.Num_ 64)) > (IntKind.i64.wrap (r8 - 1)))) || decide ((Int.tmod a0.Num_ 64) > 32)) (some false) ((spec_l1Block a0).bind fun q => (match q with | (r10, r11) => (nz r11).bind fun z13 => some ((Int.tmod r10 r11) == 0)))) (cond (a0.Kind_ == 7) (some (decide (a0.Num_ ≥ (-100000000000)) && decide (a0.Num_ ≤ 100000000000))) (some false)))))
noncomputable def spec_GoodAtom (a0 : T_impl_Atom) : Option Bool :=
  cond ((((a0.Kind_ != 3) && (a0.Kind_ != 4)) && (!(a0.Text_.toList == (ByteArray.mk #[]).toList))) || ((a0.Kind_ != 4) && (!(a0.Type_.toList == (ByteArray.mk #[]).toList)))) (some false) (cond (a0.Kind_ == 1) (some ((a0.Num_ == 0) || (a0.Num_ == 1))) (cond (a0.Kind_ == 2) (spec_GoodAtom_j1 a0 (a0.Kind_ == 2)) (spec_GoodAtom_j1 a0 (a0.Kind_ == 5))))
theorem spec_GoodAtom_p  {a0 : T_impl_Atom} {R0 : Bool} (H : spec_GoodAtom a0 = some R0) : Pure Go.Proofs.Tryz.prog 26 [.agg (c_T_impl_Atom false a0)] (.bool R0) := by
 refine CallT.of_TN (n := 124) Go.Proofs.Tryz.func26 rfl rfl rfl rfl ?_
 refine T.seq (T.region (TL.st rfl rfl rfl (o_box rfl rfl rfl) (TL.st rfl rfl rfl (o_assign rfl rfl) (TL.nil (thn_normal (T.seq (T.seq (T.region (TL.st rfl rfl rfl (o_fieldAddr rfl rfl rfl tyS_3 (by decide) rfl rfl ⟨_, rfl, Nat.le_of_ble_eq_true rfl⟩) ?_)))))))))
 refine TL.st rfl rfl rfl (o_loadBx rfl tyS_3 rfl rfl (Nat.le_of_ble_eq_true rfl) rfl) ?_
 refine TL.st rfl rfl rfl (o_ari rfl rfl rfl rfl) (TL.st rfl rfl rfl (o_move rfl rfl) (TL.gcq rfl rfl rfl (.bool _) rfl rfl (fun h => o_fieldAddr rfl rfl rfl tyS_3 (by decide) rfl rfl ⟨_, rfl, Nat.le_of_ble_eq_true rfl⟩) ?_))
 refine TL.gcq rfl rfl rfl (.bool _) rfl rfl (fun h => o_loadBx rfl tyS_3 (gv h rfl) rfl (Nat.le_of_ble_eq_true rfl) rfl) ?_
 refine TL.gcq rfl rfl rfl (.bool _) rfl rfl (fun h => o_ari rfl (gv h rfl) rfl rfl) ?_
 refine TL.st rfl rfl rfl (o_and rfl rfl rfl (fun k => Gd_t k) rfl) (TL.st rfl rfl rfl (o_move rfl rfl) (TL.gcq rfl rfl rfl (.bool _) rfl rfl (fun h => o_fieldAddr rfl rfl rfl tyS_9 (by decide) rfl rfl ⟨_, rfl, Nat.le_of_ble_eq_true rfl⟩) ?_))
 refine TL.gcq rfl rfl rfl (.bool _) rfl rfl (fun h => o_loadBx rfl tyS_9 (gv h rfl) rfl (Nat.le_of_ble_eq_true rfl) rfl) ?_
 refine TL.gcq rfl rfl rfl (.bool _) rfl rfl (fun h => o_str rfl (gv h rfl) rfl rfl) ?_
 refine TL.st rfl rfl rfl (o_and rfl rfl rfl (fun k => Gd_t k) rfl) (TL.st rfl rfl rfl (o_move rfl rfl) (TL.gcq rfl rfl rfl (.bool _) rfl rfl (fun h => o_fieldAddr rfl rfl rfl tyS_3 (by decide) rfl rfl ⟨_, rfl, Nat.le_of_ble_eq_true rfl⟩) ?_))
 refine TL.gcq rfl rfl rfl (.bool _) rfl rfl (fun h => o_loadBx rfl tyS_3 (gv h rfl) rfl (Nat.le_of_ble_eq_true rfl) rfl) ?_
 refine TL.gcq rfl rfl rfl (.bool _) rfl rfl (fun h => o_ari rfl (gv h rfl) rfl rfl) ?_
 refine TL.gcq rfl rfl rfl (.bool _) rfl rfl (fun h => o_move rfl (gv h rfl)) ?_
 refine TL.gcq rfl rfl rfl (.gd _ _) rfl rfl (fun h => o_fieldAddr rfl rfl rfl tyS_9 (by decide) rfl rfl ⟨_, rfl, Nat.le_of_ble_eq_true rfl⟩) ?_
 refine TL.gcq rfl rfl rfl (.gd _ _) rfl rfl (fun h => o_loadBx rfl tyS_9 (gv h rfl) rfl (Nat.le_of_ble_eq_true rfl) rfl) ?_
 refine TL.gcq rfl rfl rfl (.gd _ _) rfl rfl (fun h => o_str rfl (gv h rfl) rfl rfl) ?_
 refine TL.gcq rfl rfl rfl (.bool _) rfl rfl (fun h => o_and rfl (gv h rfl) rfl (fun k => Gd_t (andi h k)) rfl) ?_
 refine TL.st rfl rfl rfl (o_or rfl rfl rfl rfl (fun k => Gd_t k)) (TL.nil (thn_normal ?_))
 refine T.cond (((((a0.Kind_ != 3) && (a0.Kind_ != 4)) && (!(a0.Text_.toList == (ByteArray.mk #[]).toList))) || ((a0.Kind_ != 4) && (!(a0.Type_.toList == (ByteArray.mk #[]).toList))))) rfl (fun h => ?_) (fun h => ?_)
 ·replace H := cond_t h H
  refine T.seq (T.region (TL.st rfl rfl rfl (o_assign rfl rfl) (TL.nil (thn_normal (T.ret (thn_ret ?_))))))
  cases some_i H
  exact ⟨trivial, _, (.tmp _ _ _ _ rfl .nil), (.cl _ rfl)⟩
 ·replace H := cond_f h H
  refine T.skip (thn_normal (T.seq (T.seq (T.region (TL.st rfl rfl rfl (o_fieldAddr rfl rfl rfl tyS_3 (by decide) rfl rfl ⟨_, rfl, Nat.le_of_ble_eq_true rfl⟩) ?_)))))
  refine TL.st rfl rfl rfl (o_loadBx rfl tyS_3 rfl rfl (Nat.le_of_ble_eq_true rfl) rfl) ?_
  refine TL.nil (thn_normal (T.block (T.seq (T.region (TL.st rfl rfl rfl (o_ari rfl rfl rfl rfl) (TL.st rfl rfl rfl (o_assign rfl rfl) (TL.nil (thn_normal ?_))))))))
  refine T.cond ((a0.Kind_ == 1)) rfl (fun h => ?_) (fun h => ?_)
  ·replace H := cond_t h H
   refine T.seq (T.region (TL.st rfl rfl rfl (o_fieldAddr rfl rfl rfl tyS_3 (by decide) rfl rfl ⟨_, rfl, Nat.le_of_ble_eq_true rfl⟩) ?_))
   refine TL.st rfl rfl rfl (o_loadBx rfl tyS_3 rfl rfl (Nat.le_of_ble_eq_true rfl) rfl) ?_
   refine TL.st rfl rfl rfl (o_ari rfl rfl rfl rfl) (TL.st rfl rfl rfl (o_move rfl rfl) (TL.gcq rfl rfl rfl (.bool _) rfl rfl (fun h => o_fieldAddr rfl rfl rfl tyS_3 (by decide) rfl rfl ⟨_, rfl, Nat.le_of_ble_eq_true rfl⟩) ?_))
   refine TL.gcq rfl rfl rfl (.bool _) rfl rfl (fun h => o_loadBx rfl tyS_3 (gv h rfl) rfl (Nat.le_of_ble_eq_true rfl) rfl) ?_
   refine TL.gcq rfl rfl rfl (.bool _) rfl rfl (fun h => o_ari rfl (gv h rfl) rfl rfl) ?_
   refine TL.st rfl rfl rfl (o_or rfl rfl rfl rfl (fun k => Gd_t k)) (TL.st rfl rfl rfl (o_assign rfl rfl) (TL.nil (thn_normal (T.ret (inB_ret (thn_ret ?_))))))
   cases some_i H
   exact ⟨trivial, _, (.tmp _ _ _ _ rfl .nil), (.cl _ rfl)⟩
  ·replace H := cond_f h H
   refine T.cut (fun fr' σ' => ∃ (v1 : Bool), fr' = [(1, .bx 0 0), (29, .int .i64 a0.Kind_), (40, .bool v1)] ∧ σ' = [.box (c_T_impl_Atom false a0)] ∧ spec_GoodAtom_j1 a0 v1 = some R0) (T.pk ?_) ?_
   ·skip
    refine T.seq (T.region (TL.st rfl rfl rfl (o_ari rfl rfl rfl rfl) (TL.st rfl rfl rfl (o_assign rfl rfl) (TL.nil (thn_normal ?_)))))
    refine T.cond ((a0.Kind_ == 2)) rfl (fun h => ?_) (fun h => ?_)
    ·replace H := cond_t h H
     refine T.skip ?_
     exact Pk.go (fr' := [(1, .bx 0 0), (29, .int .i64 a0.Kind_), (40, .bool (a0.Kind_ == 2))]) (σ' := [.box (c_T_impl_Atom false a0)]) _ rfl rfl ⟨(bels_iff.1 rfl), trivial⟩ (.cons 1 _ (.bx 0 0) _ rfl (.same _) rfl (.cons 29 _ (.int .i64 a0.Kind_) _ rfl (.same _) rfl (.cons 40 _ (.bool (a0.Kind_ == 2)) _ rfl (.same _) rfl .nil))) (thn_normal ⟨(a0.Kind_ == 2), rfl, rfl, H⟩)
    ·replace H := cond_f h H
     refine T.region (TL.st rfl rfl rfl (o_ari rfl rfl rfl rfl) (TL.st rfl rfl rfl (o_assign rfl rfl) (TL.nil ?_)))
     exact Pk.go (fr' := [(1, .bx 0 0), (29, .int .i64 a0.Kind_), (40, .bool (a0.Kind_ == 5))]) (σ' := [.box (c_T_impl_Atom false a0)]) _ rfl rfl ⟨(bels_iff.1 rfl), trivial⟩ (.cons 1 _ (.bx 0 0) _ rfl (.same _) rfl (.cons 29 _ (.int .i64 a0.Kind_) _ rfl (.same _) rfl (.cons 40 _ (.bool (a0.Kind_ == 5)) _ rfl (.same _) rfl .nil))) (thn_normal ⟨(a0.Kind_ == 5), rfl, rfl, H⟩)
   ·rintro _ _ ⟨v1, rfl, rfl, H⟩
    refine T.cond (v1) rfl (fun h => ?_) (fun h => ?_)
    ·replace H := cond_t h H
     refine T.seq (T.region (TL.st rfl rfl rfl (o_assign rfl rfl) (TL.nil (thn_normal (T.ret (inB_ret (thn_ret ?_)))))))
     cases some_i H
     exact ⟨trivial, _, (.tmp _ _ _ _ rfl .nil), (.cl _ rfl)⟩
    ·replace H := cond_f h H
     refine T.seq (T.region (TL.st rfl rfl rfl (o_ari rfl rfl rfl rfl) (TL.st rfl rfl rfl (o_assign rfl rfl) (TL.nil (thn_normal ?_)))))
     refine T.cond ((a0.Kind_ == 3)) rfl (fun h => ?_) (fun h => ?_)
     ·replace H := cond_t h H
      refine T.seq (T.region (TL.st rfl rfl rfl (o_fieldAddr rfl rfl rfl tyS_3 (by decide) rfl rfl ⟨_, rfl, Nat.le_of_ble_eq_true rfl⟩) ?_))
      refine TL.st rfl rfl rfl (o_loadBx rfl tyS_3 rfl rfl (Nat.le_of_ble_eq_true rfl) rfl) ?_
      refine TL.st rfl rfl rfl (o_ari rfl rfl rfl rfl) (TL.st rfl rfl rfl (o_move rfl rfl) (TL.gcq rfl rfl rfl (.bool _) rfl rfl (fun h => o_fieldAddr rfl rfl rfl tyS_9 (by decide) rfl rfl ⟨_, rfl, Nat.le_of_ble_eq_true rfl⟩) ?_))
      refine TL.gcq rfl rfl rfl (.bool _) rfl rfl (fun h => o_loadBx rfl tyS_9 (gv h rfl) rfl (Nat.le_of_ble_eq_true rfl) rfl) ?_
      refine TL.gcq rfl rfl rfl (.bool _) rfl rfl (fun h => o_lenS rfl rfl (gv h rfl)) ?_
      refine TL.gcq rfl rfl rfl (.bool _) rfl rfl (fun h => o_ari rfl (gv h rfl) rfl rfl) ?_
      refine TL.st rfl rfl rfl (o_and rfl rfl rfl (fun k => Gd_t k) rfl) (TL.st rfl rfl rfl (o_move rfl rfl) (TL.gcq rfl rfl rfl (.bool _) rfl rfl (fun h => o_fieldAddr rfl rfl rfl tyS_9 (by decide) rfl rfl ⟨_, rfl, Nat.le_of_ble_eq_true rfl⟩) ?_))
      refine TL.gcq rfl rfl rfl (.bool _) rfl rfl (fun h => o_loadBx rfl tyS_9 (gv h rfl) rfl (Nat.le_of_ble_eq_true rfl) rfl) ?_
      obtain ⟨r2, h3, H⟩ := bind_s H
      refine TL.gcq rfl rfl rfl (.bool _) rfl rfl (fun h => o_callP rfl en_50 rfl (evl_1 (gv h rfl)) (.cons _ _ _ _ (.cl _ rfl) .nil) (spec_l1Printed_p  (gdO_t h3 h))) ?_
      refine TL.st rfl rfl rfl (o_and rfl rfl rfl (fun k => Gd_t k) rfl) (TL.st rfl rfl rfl (o_assign rfl rfl) (TL.nil (thn_normal (T.ret (inB_ret (thn_ret ?_))))))
      cases some_i H
      exact ⟨trivial, _, (.tmp _ _ _ _ rfl .nil), (.cl _ rfl)⟩
     ·replace H := cond_f h H
      refine T.seq (T.region (TL.st rfl rfl rfl (o_ari rfl rfl rfl rfl) (TL.st rfl rfl rfl (o_assign rfl rfl) (TL.nil (thn_normal ?_)))))
      refine T.cond ((a0.Kind_ == 4)) rfl (fun h => ?_) (fun h => ?_)
      ·replace H := cond_t h H
       refine T.seq (T.region (TL.st rfl rfl rfl (o_fieldAddr rfl rfl rfl tyS_3 (by decide) rfl rfl ⟨_, rfl, Nat.le_of_ble_eq_true rfl⟩) ?_))
       refine TL.st rfl rfl rfl (o_loadBx rfl tyS_3 rfl rfl (Nat.le_of_ble_eq_true rfl) rfl) ?_
       refine TL.st rfl rfl rfl (o_ari rfl rfl rfl rfl) (TL.st rfl rfl rfl (o_move rfl rfl) (TL.gcq rfl rfl rfl (.bool _) rfl rfl (fun h => o_fieldAddr rfl rfl rfl tyS_9 (by decide) rfl rfl ⟨_, rfl, Nat.le_of_ble_eq_true rfl⟩) ?_))
       refine TL.gcq rfl rfl rfl (.bool _) rfl rfl (fun h => o_loadBx rfl tyS_9 (gv h rfl) rfl (Nat.le_of_ble_eq_true rfl) rfl) ?_
       obtain ⟨r4, h5, H⟩ := bind_s H
       refine TL.gcq rfl rfl rfl (.bool _) rfl rfl (fun h => o_callP rfl en_51 rfl (evl_1 (gv h rfl)) (.cons _ _ _ _ (.cl _ rfl) .nil) (spec_GoodName_p  (gdO_t h5 h))) ?_
       refine TL.st rfl rfl rfl (o_and rfl rfl rfl (fun k => Gd_t k) rfl) (TL.st rfl rfl rfl (o_move rfl rfl) (TL.gcq rfl rfl rfl (.bool _) rfl rfl (fun h => o_fieldAddr rfl rfl rfl tyS_9 (by decide) rfl rfl ⟨_, rfl, Nat.le_of_ble_eq_true rfl⟩) ?_))
       refine TL.gcq rfl rfl rfl (.bool _) rfl rfl (fun h => o_loadBx rfl tyS_9 (gv h rfl) rfl (Nat.le_of_ble_eq_true rfl) rfl) ?_
       refine TL.gcq rfl rfl rfl (.bool _) rfl rfl (fun h => o_lenS rfl rfl (gv h rfl)) ?_
       refine TL.gcq rfl rfl rfl (.bool _) rfl rfl (fun h => o_ari rfl (gv h rfl) rfl rfl) ?_
       refine TL.st rfl rfl rfl (o_and rfl rfl rfl (fun k => Gd_t k) rfl) (TL.st rfl rfl rfl (o_move rfl rfl) (TL.gcq rfl rfl rfl (.bool _) rfl rfl (fun h => o_fieldAddr rfl rfl rfl tyS_9 (by decide) rfl rfl ⟨_, rfl, Nat.le_of_ble_eq_true rfl⟩) ?_))
       refine TL.gcq rfl rfl rfl (.bool _) rfl rfl (fun h => o_loadBx rfl tyS_9 (gv h rfl) rfl (Nat.le_of_ble_eq_true rfl) rfl) ?_
       refine TL.gcq rfl rfl rfl (.bool _) rfl rfl (fun h => o_lenS rfl rfl (gv h rfl)) ?_
       refine TL.gcq rfl rfl rfl (.bool _) rfl rfl (fun h => o_ari rfl (gv h rfl) rfl rfl) ?_
       refine TL.st rfl rfl rfl (o_and rfl rfl rfl (fun k => Gd_t k) rfl) (TL.st rfl rfl rfl (o_move rfl rfl) (TL.gcq rfl rfl rfl (.bool _) rfl rfl (fun h => o_fieldAddr rfl rfl rfl tyS_9 (by decide) rfl rfl ⟨_, rfl, Nat.le_of_ble_eq_true rfl⟩) ?_))
       refine TL.gcq rfl rfl rfl (.bool _) rfl rfl (fun h => o_loadBx rfl tyS_9 (gv h rfl) rfl (Nat.le_of_ble_eq_true rfl) rfl) ?_
       obtain ⟨r6, h7, H⟩ := bind_s H
       refine TL.gcq rfl rfl rfl (.bool _) rfl rfl (fun h => o_callP rfl en_50 rfl (evl_1 (gv h rfl)) (.cons _ _ _ _ (.cl _ rfl) .nil) (spec_l1Printed_p  (gdO_t h7 h))) ?_
       refine TL.st rfl rfl rfl (o_and rfl rfl rfl (fun k => Gd_t k) rfl) (TL.st rfl rfl rfl (o_assign rfl rfl) (TL.nil (thn_normal (T.ret (inB_ret (thn_ret ?_))))))
       cases some_i H
       exact ⟨trivial, _, (.tmp _ _ _ _ rfl .nil), (.cl _ rfl)⟩
      ·replace H := cond_f h H
       refine T.seq (T.region (TL.st rfl rfl rfl (o_ari rfl rfl rfl rfl) (TL.st rfl rfl rfl (o_assign rfl rfl) (TL.nil (thn_normal ?_)))))
       refine T.cond ((a0.Kind_ == 6)) rfl (fun h => ?_) (fun h => ?_)
       ·replace H := cond_t h H
        refine T.seq (T.seq (T.drawn rfl ?_))
        refine TD.rs rfl rfl (o_fieldAddr rfl rfl rfl tyS_3 (by decide) rfl rfl ⟨_, rfl, Nat.le_of_ble_eq_true rfl⟩) ?_
        refine TD.rs rfl rfl (o_loadBx rfl tyS_3 rfl rfl (Nat.le_of_ble_eq_true rfl) rfl) ?_
        refine TD.qs rfl rfl (fun _ => o_ari rfl rfl rfl rfl) ?_
        refine TD.qs rfl rfl (fun _ => o_move rfl rfl) (TD.cr rfl rfl rfl (.bool _) rfl (fun h => o_fieldAddr rfl rfl rfl tyS_3 (by decide) rfl rfl ⟨_, rfl, Nat.le_of_ble_eq_true rfl⟩) ?_)
        refine TD.cr rfl rfl rfl (.bool _) rfl (fun h => o_loadBx rfl tyS_3 (gv h rfl) rfl (Nat.le_of_ble_eq_true rfl) rfl) ?_
        refine TD.cq rfl rfl rfl (.bool _) rfl (fun h _ => o_quo rfl (gv h rfl) rfl (by decide)) ?_
        obtain ⟨r8, h9, H⟩ := bind_s H
        refine TD.cq rfl rfl rfl (.bool _) rfl (fun h _ => o_callP rfl en_52 rfl rfl (.cons _ _ _ _ (.cl _ rfl) .nil) (spec_l1Pow2_p  (gdO_t h9 h))) ?_
        refine TD.cq rfl rfl rfl (.bool _) rfl (fun h _ => o_ari rfl (gv h rfl) rfl rfl) ?_
        refine TD.cq rfl rfl rfl (.bool _) rfl (fun h _ => o_ari rfl (gv h rfl) (gv h rfl) rfl) ?_
        refine TD.qs rfl rfl (fun _ => o_or rfl rfl rfl rfl (fun k => Gd_t k)) ?_
        refine TD.qs rfl rfl (fun _ => o_move rfl rfl) (TD.cr rfl rfl rfl (.bool _) rfl (fun h => o_fieldAddr rfl rfl rfl tyS_3 (by decide) rfl rfl ⟨_, rfl, Nat.le_of_ble_eq_true rfl⟩) ?_)
        refine TD.cr rfl rfl rfl (.bool _) rfl (fun h => o_loadBx rfl tyS_3 (gv h rfl) rfl (Nat.le_of_ble_eq_true rfl) rfl) ?_
        refine TD.cq rfl rfl rfl (.bool _) rfl (fun h _ => o_rem rfl (gv h rfl) rfl (by decide)) ?_
        refine TD.cq rfl rfl rfl (.bool _) rfl (fun h _ => o_ari rfl (gv h rfl) rfl rfl) ?_
        refine TD.qs rfl rfl (fun _ => o_or rfl rfl rfl rfl (fun k => Gd_t k)) ?_
        refine TD.nil ⟨rfl, ?_⟩
        refine thn_normal ?_
        refine T.cond (((decide (a0.Num_ < 0) || decide ((IntKind.i64.wrap (Int.tdiv a0.Num_ 64)) > (IntKind.i64.wrap (r8 - 1)))) || decide ((Int.tmod a0.Num_ 64) > 32))) rfl (fun h => ?_) (fun h => ?_)
        ·replace H := cond_t h H
         refine T.seq (T.region (TL.st rfl rfl rfl (o_assign rfl rfl) (TL.nil (thn_normal (T.ret (thn_ret (inB_ret (thn_ret ?_))))))))
         cases some_i H
         exact ⟨trivial, _, (.tmp _ _ _ _ rfl .nil), (.cl _ rfl)⟩
        ·replace H := cond_f h H
         refine T.skip (thn_normal (T.seq (T.region (TL.st rfl rfl rfl (o_loadBx rfl tyS_24 rfl rfl (Nat.le_of_ble_eq_true rfl) rfl) ?_))))
         obtain ⟨⟨r10, r11⟩, h12, H⟩ := bind_s H
         refine TL.st rfl rfl rfl (o_callP rfl en_53 rfl rfl (.cons _ _ _ _ (.cl _ rfl) .nil) (spec_l1Block_p  h12)) ?_
         refine TL.st rfl rfl rfl (o_move rfl rfl) (TL.st rfl rfl rfl (o_extract rfl rfl rfl) (TL.st rfl rfl rfl (o_extract rfl rfl rfl) (TL.st rfl rfl rfl (o_assign rfl rfl) (TL.st rfl rfl rfl (o_assign rfl rfl) (TL.nil (thn_normal (T.seq (T.region (TL.st rfl rfl rfl (o_move rfl rfl) (TL.st rfl rfl rfl (o_move rfl rfl) ?_))))))))))
         obtain ⟨z13, h14, H⟩ := bind_s H
         refine TL.st rfl rfl rfl (o_rem rfl rfl rfl (nz_s h14).1) ?_
         refine TL.st rfl rfl rfl (o_ari rfl rfl rfl rfl) (TL.st rfl rfl rfl (o_assign rfl rfl) (TL.nil (thn_normal (T.ret (inB_ret (thn_ret ?_))))))
         cases some_i H
         exact ⟨trivial, _, (.tmp _ _ _ _ rfl .nil), (.cl _ rfl)⟩
       ·replace H := cond_f h H
        refine T.seq (T.region (TL.st rfl rfl rfl (o_ari rfl rfl rfl rfl) (TL.st rfl rfl rfl (o_assign rfl rfl) (TL.nil (thn_normal ?_)))))
        refine T.cond ((a0.Kind_ == 7)) rfl (fun h => ?_) (fun h => ?_)
        ·replace H := cond_t h H
         refine T.seq (T.region (TL.st rfl rfl rfl (o_fieldAddr rfl rfl rfl tyS_3 (by decide) rfl rfl ⟨_, rfl, Nat.le_of_ble_eq_true rfl⟩) ?_))
         refine TL.st rfl rfl rfl (o_loadBx rfl tyS_3 rfl rfl (Nat.le_of_ble_eq_true rfl) rfl) ?_
         refine TL.st rfl rfl rfl (o_ari rfl rfl rfl rfl) (TL.st rfl rfl rfl (o_move rfl rfl) (TL.gcq rfl rfl rfl (.bool _) rfl rfl (fun h => o_fieldAddr rfl rfl rfl tyS_3 (by decide) rfl rfl ⟨_, rfl, Nat.le_of_ble_eq_true rfl⟩) ?_))
         refine TL.gcq rfl rfl rfl (.bool _) rfl rfl (fun h => o_loadBx rfl tyS_3 (gv h rfl) rfl (Nat.le_of_ble_eq_true rfl) rfl) ?_
         refine TL.gcq rfl rfl rfl (.bool _) rfl rfl (fun h => o_ari rfl (gv h rfl) rfl rfl) ?_
         refine TL.st rfl rfl rfl (o_and rfl rfl rfl (fun k => Gd_t k) rfl) (TL.st rfl rfl rfl (o_assign rfl rfl) (TL.nil (thn_normal (T.ret (inB_ret (thn_ret ?_))))))
         cases some_i H
         exact ⟨trivial, _, (.tmp _ _ _ _ rfl .nil), (.cl _ rfl)⟩
        ·replace H := cond_f h H
         refine T.skip (inB_normal (thn_normal (T.seq (T.region (TL.st rfl rfl rfl (o_assign rfl rfl) (TL.nil (thn_normal (T.ret ?_))))))))
         cases some_i H
         exact ⟨trivial, _, (.tmp _ _ _ _ rfl .nil), (.cl _ rfl)⟩
theorem en_26 (us : Array Value) (w : World) : (callFunc 26 us).run Go.Proofs.Tryz.prog w = .ok (.enter 26 us) w := enters Go.Proofs.Tryz.func26 rfl rfl us w
noncomputable def spec_l10GoodHead_j2 (a0 : T_impl_Head) (a1 : Bool) (v6 : Bool) : Option Bool :=
  cond v6 (some ((a1 && (a0.Atom_ == (⟨0, 0, (ByteArray.mk #[]), (ByteArray.mk #[])⟩ : T_impl_Atom))) && (a0.Type_.toList == (ByteArray.mk #[]).toList))) (some false)
noncomputable def spec_l10GoodHead_j1 (a0 : T_impl_Head) (a1 : Bool) (v1 : Bool) : Option Bool :=
  cond v1 ((gdO (a0.Atom_.Kind_ == 4) (spec_GoodAtom a0.Atom_)).bind fun r2 => some (((a0.Atom_.Kind_ == 4) && r2) && (a0.Type_.toList == (ByteArray.mk #[]).toList))) (cond (a0.Kind_ == 4) ((gdO (a0.Atom_ == (⟨0, 0, (ByteArray.mk #[]), (ByteArray.mk #[])⟩ : T_impl_Atom)) (spec_GoodName a0.Type_)).bind fun r4 => some ((a0.Atom_ == (⟨0, 0, (ByteArray.mk #[]), (ByteArray.mk #[])⟩ : T_impl_Atom)) && r4)) (cond (a0.Kind_ == 5) (spec_l10GoodHead_j2 a0 a1 (a0.Kind_ == 5)) (spec_l10GoodHead_j2 a0 a1 (a0.Kind_ == 6))))
noncomputable def spec_l10GoodHead (a0 : T_impl_Head) (a1 : Bool) : Option Bool :=
  cond (a0.Kind_ == 1) (some ((a0.Atom_ == (⟨0, 0, (ByteArray.mk #[]), (ByteArray.mk #[])⟩ : T_impl_Atom)) && (a0.Type_.toList == (ByteArray.mk #[]).toList))) (cond (a0.Kind_ == 2) (spec_l10GoodHead_j1 a0 a1 (a0.Kind_ == 2)) (spec_l10GoodHead_j1 a0 a1 (a0.Kind_ == 3)))
theorem spec_l10GoodHead_p  {a0 : T_impl_Head} {a1 : Bool} {R0 : Bool} (H : spec_l10GoodHead a0 a1 = some R0) : Pure Go.Proofs.Tryz.prog 46 [.agg (c_T_impl_Head false a0), .bool a1] (.bool R0) := by
 refine CallT.of_TN (n := 61) Go.Proofs.Tryz.func46 rfl rfl rfl rfl ?_
 refine T.seq (T.region (TL.st rfl rfl rfl (o_box rfl rfl rfl) (TL.st rfl rfl rfl (o_assign rfl rfl) (TL.nil (thn_normal (T.seq (T.seq (T.region (TL.st rfl rfl rfl (o_fieldAddr rfl rfl rfl tyS_3 (by decide) rfl rfl ⟨_, rfl, Nat.le_of_ble_eq_true rfl⟩) ?_)))))))))
 refine TL.st rfl rfl rfl (o_loadBx rfl tyS_3 rfl rfl (Nat.le_of_ble_eq_true rfl) rfl) ?_
 refine TL.nil (thn_normal (T.block (T.seq (T.region (TL.st rfl rfl rfl (o_ari rfl rfl rfl rfl) (TL.st rfl rfl rfl (o_assign rfl rfl) (TL.nil (thn_normal ?_))))))))
 refine T.cond ((a0.Kind_ == 1)) rfl (fun h => ?_) (fun h => ?_)
 ·replace H := cond_t h H
  refine T.seq (T.region (TL.st rfl rfl rfl (o_fieldAddr rfl rfl rfl tyS_24 (by decide) rfl rfl ⟨_, rfl, Nat.le_of_ble_eq_true rfl⟩) ?_))
  refine TL.st rfl rfl rfl (o_loadBx rfl tyS_24 rfl rfl (Nat.le_of_ble_eq_true rfl) rfl) ?_
  refine TL.st rfl rfl rfl (o_build rfl ⟨_, fun _ => rfl, rfl⟩ rfl rfl rfl) ?_
  refine TL.st rfl rfl rfl (o_eqA rfl rfl eqG_24 rfl rfl rfl rfl (eqT_24 a0.Atom_ (⟨0, 0, (ByteArray.mk #[]), (ByteArray.mk #[])⟩ : T_impl_Atom))) ?_
  refine TL.st rfl rfl rfl (o_move rfl rfl) (TL.gcq rfl rfl rfl (.bool _) rfl rfl (fun h => o_fieldAddr rfl rfl rfl tyS_9 (by decide) rfl rfl ⟨_, rfl, Nat.le_of_ble_eq_true rfl⟩) ?_)
  refine TL.gcq rfl rfl rfl (.bool _) rfl rfl (fun h => o_loadBx rfl tyS_9 (gv h rfl) rfl (Nat.le_of_ble_eq_true rfl) rfl) ?_
  refine TL.gcq rfl rfl rfl (.bool _) rfl rfl (fun h => o_str rfl (gv h rfl) rfl rfl) ?_
  refine TL.st rfl rfl rfl (o_and rfl rfl rfl (fun k => Gd_t k) rfl) (TL.st rfl rfl rfl (o_assign rfl rfl) (TL.nil (thn_normal (T.ret (inB_ret (thn_ret ?_))))))
  cases some_i H
  exact ⟨trivial, _, (.tmp _ _ _ _ rfl .nil), (.cl _ rfl)⟩
 ·replace H := cond_f h H
  refine T.cut (fun fr' σ' => ∃ (v1 : Bool), fr' = [(1, .bool a1), (2, .bx 0 0), (6, .int .i64 a0.Kind_), (18, .bool v1)] ∧ σ' = [.box (c_T_impl_Head false a0)] ∧ spec_l10GoodHead_j1 a0 a1 v1 = some R0) (T.pk ?_) ?_
  ·skip
   refine T.seq (T.region (TL.st rfl rfl rfl (o_ari rfl rfl rfl rfl) (TL.st rfl rfl rfl (o_assign rfl rfl) (TL.nil (thn_normal ?_)))))
   refine T.cond ((a0.Kind_ == 2)) rfl (fun h => ?_) (fun h => ?_)
   ·replace H := cond_t h H
    refine T.skip ?_
    exact Pk.go (fr' := [(1, .bool a1), (2, .bx 0 0), (6, .int .i64 a0.Kind_), (18, .bool (a0.Kind_ == 2))]) (σ' := [.box (c_T_impl_Head false a0)]) _ rfl rfl ⟨(bels_iff.1 rfl), trivial⟩ (.cons 1 _ (.bool a1) _ rfl (.same _) rfl (.cons 2 _ (.bx 0 0) _ rfl (.same _) rfl (.cons 6 _ (.int .i64 a0.Kind_) _ rfl (.same _) rfl (.cons 18 _ (.bool (a0.Kind_ == 2)) _ rfl (.same _) rfl .nil)))) (thn_normal ⟨(a0.Kind_ == 2), rfl, rfl, H⟩)
   ·replace H := cond_f h H
    refine T.region (TL.st rfl rfl rfl (o_ari rfl rfl rfl rfl) (TL.st rfl rfl rfl (o_assign rfl rfl) (TL.nil ?_)))
    exact Pk.go (fr' := [(1, .bool a1), (2, .bx 0 0), (6, .int .i64 a0.Kind_), (18, .bool (a0.Kind_ == 3))]) (σ' := [.box (c_T_impl_Head false a0)]) _ rfl rfl ⟨(bels_iff.1 rfl), trivial⟩ (.cons 1 _ (.bool a1) _ rfl (.same _) rfl (.cons 2 _ (.bx 0 0) _ rfl (.same _) rfl (.cons 6 _ (.int .i64 a0.Kind_) _ rfl (.same _) rfl (.cons 18 _ (.bool (a0.Kind_ == 3)) _ rfl (.same _) rfl .nil)))) (thn_normal ⟨(a0.Kind_ == 3), rfl, rfl, H⟩)
  ·rintro _ _ ⟨v1, rfl, rfl, H⟩
   refine T.cond (v1) rfl (fun h => ?_) (fun h => ?_)
   ·replace H := cond_t h H
    refine T.seq (T.region (TL.st rfl rfl rfl (o_fieldAddr rfl rfl rfl tyS_24 (by decide) rfl rfl ⟨_, rfl, Nat.le_of_ble_eq_true rfl⟩) ?_))
    refine TL.st rfl rfl rfl (o_fieldAddr rfl rfl rfl tyS_3 (by decide) rfl rfl ⟨_, rfl, Nat.le_of_ble_eq_true rfl⟩) ?_
    refine TL.st rfl rfl rfl (o_loadBx rfl tyS_3 rfl rfl (Nat.le_of_ble_eq_true rfl) rfl) ?_
    refine TL.st rfl rfl rfl (o_ari rfl rfl rfl rfl) (TL.st rfl rfl rfl (o_move rfl rfl) (TL.gcq rfl rfl rfl (.bool _) rfl rfl (fun h => o_fieldAddr rfl rfl rfl tyS_24 (by decide) rfl rfl ⟨_, rfl, Nat.le_of_ble_eq_true rfl⟩) ?_))
    refine TL.gcq rfl rfl rfl (.bool _) rfl rfl (fun h => o_loadBx rfl tyS_24 (gv h rfl) rfl (Nat.le_of_ble_eq_true rfl) rfl) ?_
    obtain ⟨r2, h3, H⟩ := bind_s H
    refine TL.gcq rfl rfl rfl (.bool _) rfl rfl (fun h => o_callP rfl en_26 rfl (evl_1 (gv h rfl)) (.cons _ _ _ _ (.cl _ rfl) .nil) (spec_GoodAtom_p  (gdO_t h3 h))) ?_
    refine TL.st rfl rfl rfl (o_and rfl rfl rfl (fun k => Gd_t k) rfl) (TL.st rfl rfl rfl (o_move rfl rfl) (TL.gcq rfl rfl rfl (.bool _) rfl rfl (fun h => o_fieldAddr rfl rfl rfl tyS_9 (by decide) rfl rfl ⟨_, rfl, Nat.le_of_ble_eq_true rfl⟩) ?_))
    refine TL.gcq rfl rfl rfl (.bool _) rfl rfl (fun h => o_loadBx rfl tyS_9 (gv h rfl) rfl (Nat.le_of_ble_eq_true rfl) rfl) ?_
    refine TL.gcq rfl rfl rfl (.bool _) rfl rfl (fun h => o_str rfl (gv h rfl) rfl rfl) ?_
    refine TL.st rfl rfl rfl (o_and rfl rfl rfl (fun k => Gd_t k) rfl) (TL.st rfl rfl rfl (o_assign rfl rfl) (TL.nil (thn_normal (T.ret (inB_ret (thn_ret ?_))))))
    cases some_i H
    exact ⟨trivial, _, (.tmp _ _ _ _ rfl .nil), (.cl _ rfl)⟩
   ·replace H := cond_f h H
    refine T.seq (T.region (TL.st rfl rfl rfl (o_ari rfl rfl rfl rfl) (TL.st rfl rfl rfl (o_assign rfl rfl) (TL.nil (thn_normal ?_)))))
    refine T.cond ((a0.Kind_ == 4)) rfl (fun h => ?_) (fun h => ?_)
    ·replace H := cond_t h H
     refine T.seq (T.region (TL.st rfl rfl rfl (o_fieldAddr rfl rfl rfl tyS_24 (by decide) rfl rfl ⟨_, rfl, Nat.le_of_ble_eq_true rfl⟩) ?_))
     refine TL.st rfl rfl rfl (o_loadBx rfl tyS_24 rfl rfl (Nat.le_of_ble_eq_true rfl) rfl) ?_
     refine TL.st rfl rfl rfl (o_build rfl ⟨_, fun _ => rfl, rfl⟩ rfl rfl rfl) ?_
     refine TL.st rfl rfl rfl (o_eqA rfl rfl eqG_24 rfl rfl rfl rfl (eqT_24 a0.Atom_ (⟨0, 0, (ByteArray.mk #[]), (ByteArray.mk #[])⟩ : T_impl_Atom))) ?_
     refine TL.st rfl rfl rfl (o_move rfl rfl) (TL.gcq rfl rfl rfl (.bool _) rfl rfl (fun h => o_fieldAddr rfl rfl rfl tyS_9 (by decide) rfl rfl ⟨_, rfl, Nat.le_of_ble_eq_true rfl⟩) ?_)
     refine TL.gcq rfl rfl rfl (.bool _) rfl rfl (fun h => o_loadBx rfl tyS_9 (gv h rfl) rfl (Nat.le_of_ble_eq_true rfl) rfl) ?_
     obtain ⟨r4, h5, H⟩ := bind_s H
     refine TL.gcq rfl rfl rfl (.bool _) rfl rfl (fun h => o_callP rfl en_51 rfl (evl_1 (gv h rfl)) (.cons _ _ _ _ (.cl _ rfl) .nil) (spec_GoodName_p  (gdO_t h5 h))) ?_
     refine TL.st rfl rfl rfl (o_and rfl rfl rfl (fun k => Gd_t k) rfl) (TL.st rfl rfl rfl (o_assign rfl rfl) (TL.nil (thn_normal (T.ret (inB_ret (thn_ret ?_))))))
     cases some_i H
     exact ⟨trivial, _, (.tmp _ _ _ _ rfl .nil), (.cl _ rfl)⟩
    ·replace H := cond_f h H
     refine T.cut (fun fr' σ' => ∃ (v6 : Bool), fr' = [(1, .bool a1), (2, .bx 0 0), (46, .bool v6)] ∧ σ' = [.box (c_T_impl_Head false a0)] ∧ spec_l10GoodHead_j2 a0 a1 v6 = some R0) (T.pk ?_) ?_
     ·skip
      refine T.seq (T.region (TL.st rfl rfl rfl (o_ari rfl rfl rfl rfl) (TL.st rfl rfl rfl (o_assign rfl rfl) (TL.nil (thn_normal ?_)))))
      refine T.cond ((a0.Kind_ == 5)) rfl (fun h => ?_) (fun h => ?_)
      ·replace H := cond_t h H
       refine T.skip ?_
       exact Pk.go (fr' := [(1, .bool a1), (2, .bx 0 0), (46, .bool (a0.Kind_ == 5))]) (σ' := [.box (c_T_impl_Head false a0)]) _ rfl rfl ⟨(bels_iff.1 rfl), trivial⟩ (.cons 1 _ (.bool a1) _ rfl (.same _) rfl (.cons 2 _ (.bx 0 0) _ rfl (.same _) rfl (.cons 46 _ (.bool (a0.Kind_ == 5)) _ rfl (.same _) rfl .nil))) (thn_normal ⟨(a0.Kind_ == 5), rfl, rfl, H⟩)
      ·replace H := cond_f h H
       refine T.region (TL.st rfl rfl rfl (o_ari rfl rfl rfl rfl) (TL.st rfl rfl rfl (o_assign rfl rfl) (TL.nil ?_)))
       exact Pk.go (fr' := [(1, .bool a1), (2, .bx 0 0), (46, .bool (a0.Kind_ == 6))]) (σ' := [.box (c_T_impl_Head false a0)]) _ rfl rfl ⟨(bels_iff.1 rfl), trivial⟩ (.cons 1 _ (.bool a1) _ rfl (.same _) rfl (.cons 2 _ (.bx 0 0) _ rfl (.same _) rfl (.cons 46 _ (.bool (a0.Kind_ == 6)) _ rfl (.same _) rfl .nil))) (thn_normal ⟨(a0.Kind_ == 6), rfl, rfl, H⟩)
     ·rintro _ _ ⟨v6, rfl, rfl, H⟩
      refine T.cond (v6) rfl (fun h => ?_) (fun h => ?_)
      ·replace H := cond_t h H
       refine T.seq (T.region (TL.st rfl rfl rfl (o_move rfl rfl) (TL.st rfl rfl rfl (o_move rfl rfl) (TL.gcq rfl rfl rfl (.bool _) rfl rfl (fun h => o_fieldAddr rfl rfl rfl tyS_24 (by decide) rfl rfl ⟨_, rfl, Nat.le_of_ble_eq_true rfl⟩) ?_))))
       refine TL.gcq rfl rfl rfl (.bool _) rfl rfl (fun h => o_loadBx rfl tyS_24 (gv h rfl) rfl (Nat.le_of_ble_eq_true rfl) rfl) ?_
       refine TL.gcq rfl rfl rfl (.bool _) rfl rfl (fun h => o_build rfl ⟨_, fun _ => rfl, rfl⟩ rfl rfl rfl) ?_
       refine TL.gcq rfl rfl rfl (.bool _) rfl rfl (fun h => o_eqA rfl rfl eqG_24 (gv h rfl) (gv h rfl) rfl rfl (eqT_24 a0.Atom_ (⟨0, 0, (ByteArray.mk #[]), (ByteArray.mk #[])⟩ : T_impl_Atom))) ?_
       refine TL.st rfl rfl rfl (o_and rfl rfl rfl (fun k => Gd_t k) rfl) (TL.st rfl rfl rfl (o_move rfl rfl) (TL.gcq rfl rfl rfl (.bool _) rfl rfl (fun h => o_fieldAddr rfl rfl rfl tyS_9 (by decide) rfl rfl ⟨_, rfl, Nat.le_of_ble_eq_true rfl⟩) ?_))
       refine TL.gcq rfl rfl rfl (.bool _) rfl rfl (fun h => o_loadBx rfl tyS_9 (gv h rfl) rfl (Nat.le_of_ble_eq_true rfl) rfl) ?_
       refine TL.gcq rfl rfl rfl (.bool _) rfl rfl (fun h => o_str rfl (gv h rfl) rfl rfl) ?_
       refine TL.st rfl rfl rfl (o_and rfl rfl rfl (fun k => Gd_t k) rfl) (TL.st rfl rfl rfl (o_assign rfl rfl) (TL.nil (thn_normal (T.ret (inB_ret (thn_ret ?_))))))
       cases some_i H
       exact ⟨trivial, _, (.tmp _ _ _ _ rfl .nil), (.cl _ rfl)⟩
      ·replace H := cond_f h H
       refine T.skip (inB_normal (thn_normal (T.seq (T.region (TL.st rfl rfl rfl (o_assign rfl rfl) (TL.nil (thn_normal (T.ret ?_))))))))
       cases some_i H
       exact ⟨trivial, _, (.tmp _ _ _ _ rfl .nil), (.cl _ rfl)⟩
theorem en_46 (us : Array Value) (w : World) : (callFunc 46 us).run Go.Proofs.Tryz.prog w = .ok (.enter 46 us) w := enters Go.Proofs.Tryz.func46 rfl rfl us w
theorem en_90 (us : Array Value) (w : World) : (callFunc 90 us).run Go.Proofs.Tryz.prog w = .ok (.enter 90 us) w := enters Go.Proofs.Tryz.func90 rfl rfl us w
theorem tyE_67 : TyE Go.Proofs.Tryz.prog 67 8 := ⟨_, _, rfl, rfl, rfl, rfl, by decide, by decide⟩
noncomputable def spec_l10Take_l1 (a0 : (List T_impl_Expr)) (a2 : Int) (rec_spec_l10Take : ((List T_impl_Expr) × Int × Int) → Option (T_spec_l10E × Int)) : (T_spec_l10E × Int × Int) → Option ((T_spec_l10E × Int × Int) ⊕ ((T_spec_l10E × Int) ⊕ (T_spec_l10E × Int))) := fun s => match s with
  | (b7, v8, v9) => cond (decide (v9 < b7.n_.Kids_)) ((rec_spec_l10Take (a0, v8, (IntKind.i64.wrap (a2 + 1)))).bind fun q => (match q with | (r14, r15) => cond (decide (r15 < 0)) (some (.inr (.inr ((⟨(⟨0, (ByteArray.mk #[]), (⟨0, 0, (ByteArray.mk #[]), (ByteArray.mk #[])⟩ : T_impl_Atom), 0⟩ : T_impl_Expr), ([] : List (List V))⟩ : T_spec_l10E), (-1))))) ((app b7.kids_ ([(c_T_spec_l10E false r14)] : List (List V))).bind fun l17 => some (.inl ((⟨b7.n_, l17⟩ : T_spec_l10E), r15, (IntKind.i64.wrap (v9 + 1))))))) (some (.inr (.inl (b7, v8))))
noncomputable def spec_l10Take_b (rec_spec_l10Take : ((List T_impl_Expr) × Int × Int) → Option (T_spec_l10E × Int)) (a0 : (List T_impl_Expr)) (a1 : Int) (a2 : Int) : Option (T_spec_l10E × Int) :=
  (gdO (!(decide (a1 ≥ (a0.length : Int)) || decide (a2 > 12))) (idx a0 a1)).bind fun e1 => (gdO (!((decide (a1 ≥ (a0.length : Int)) || decide (a2 > 12)) || decide (e1.Kids_ < 0))) (idx a0 a1)).bind fun e3 => cond (((decide (a1 ≥ (a0.length : Int)) || decide (a2 > 12)) || decide (e1.Kids_ < 0)) || decide (e3.Kids_ > 10)) (some ((⟨(⟨0, (ByteArray.mk #[]), (⟨0, 0, (ByteArray.mk #[]), (ByteArray.mk #[])⟩ : T_impl_Atom), 0⟩ : T_impl_Expr), ([] : List (List V))⟩ : T_spec_l10E), (-1))) ((idx a0 a1).bind fun e5 => (loopO (spec_l10Take_l1 a0 a2 rec_spec_l10Take) ((⟨e5, ([] : List (List V))⟩ : T_spec_l10E), (IntKind.i64.wrap (a1 + 1)), 0)).bind fun q19 => (match q19 with | .inl (b10, v11) => some (b10, v11) | .inr q12 => some q12))
noncomputable def spec_l10Take (a0 : (List T_impl_Expr)) (a1 : Int) (a2 : Int) : Option (T_spec_l10E × Int) := fixO (fun rec_spec_l10Take x => match x with | (a0, a1, a2) => spec_l10Take_b rec_spec_l10Take a0 a1 a2) (a0, a1, a2)
theorem spec_l10Take_pb {rec_spec_l10Take : ((List T_impl_Expr) × Int × Int) → Option (T_spec_l10E × Int)} (Hrec_spec_l10Take : ∀ (b0 : Bool) {a0 : (List T_impl_Expr)} {a1 : Int} {a2 : Int} {R0 : T_spec_l10E} {R1 : Int}, rec_spec_l10Take (a0, a1, a2) = some (R0, R1) → Pure Go.Proofs.Tryz.prog 90 [.im b0 (a0.map (c_T_impl_Expr false)), .int .i64 a1, .int .i64 a2] (.tup [.agg (c_T_spec_l10E false R0), .int .i64 R1])) (b0 : Bool) {a0 : (List T_impl_Expr)} {a1 : Int} {a2 : Int} {R0 : T_spec_l10E} {R1 : Int} (H : spec_l10Take_b rec_spec_l10Take a0 a1 a2 = some (R0, R1)) : Pure Go.Proofs.Tryz.prog 90 [.im b0 (a0.map (c_T_impl_Expr false)), .int .i64 a1, .int .i64 a2] (.tup [.agg (c_T_spec_l10E false R0), .int .i64 R1]) := by
 refine CallT.of_TN (n := 71) Go.Proofs.Tryz.func90 rfl rfl rfl rfl ?_
 refine T.seq (T.region (TL.st rfl rfl rfl (o_alloc rfl ⟨_, rfl, rfl⟩) (TL.st rfl rfl rfl (o_assign rfl rfl) (TL.nil (thn_normal (T.seq (T.seq (T.region (TL.st rfl rfl rfl (o_move rfl rfl) (TL.st rfl rfl rfl (o_move rfl rfl) (TL.st rfl rfl rfl (o_lenL (f := c_T_impl_Expr false) rfl rfl rfl) ?_)))))))))))
 refine TL.st rfl rfl rfl (o_ari rfl rfl rfl rfl) (TL.st rfl rfl rfl (o_move rfl rfl) (TL.gcq rfl rfl rfl (.bool _) rfl rfl (fun h => o_move rfl rfl) (TL.gcq rfl rfl rfl (.bool _) rfl rfl (fun h => o_ari rfl (gv h rfl) rfl rfl) ?_)))
 refine TL.st rfl rfl rfl (o_or rfl rfl rfl rfl (fun k => Gd_t k)) (TL.st rfl rfl rfl (o_move rfl rfl) (TL.gcq rfl rfl rfl (.bool _) rfl rfl (fun h => o_move rfl rfl) (TL.gcq rfl rfl rfl (.bool _) rfl rfl (fun h => o_move rfl rfl) ?_)))
 obtain ⟨e1, h2, H⟩ := bind_s H
 refine TL.gcq rfl rfl rfl (.bool _) rfl rfl (fun h => o_ix (f := c_T_impl_Expr false) rfl rfl tyS_57 (gv h rfl) (gv h rfl) (gdO_t h2 h) rfl) ?_
 refine TL.gcq rfl rfl rfl (.bool _) rfl rfl (fun h => o_fieldAddr rfl rfl rfl tyS_3 (by decide) (gv h rfl) rfl trivial) ?_
 refine TL.gcq rfl rfl rfl (.bool _) rfl rfl (fun h => o_loadRf rfl tyS_3 (gv h rfl) (Nat.le_of_ble_eq_true rfl) rfl) ?_
 refine TL.gcq rfl rfl rfl (.bool _) rfl rfl (fun h => o_ari rfl (gv h rfl) rfl rfl) ?_
 refine TL.st rfl rfl rfl (o_or rfl rfl rfl rfl (fun k => Gd_t k)) (TL.st rfl rfl rfl (o_move rfl rfl) (TL.gcq rfl rfl rfl (.bool _) rfl rfl (fun h => o_move rfl rfl) (TL.gcq rfl rfl rfl (.bool _) rfl rfl (fun h => o_move rfl rfl) ?_)))
 obtain ⟨e3, h4, H⟩ := bind_s H
 refine TL.gcq rfl rfl rfl (.bool _) rfl rfl (fun h => o_ix (f := c_T_impl_Expr false) rfl rfl tyS_57 (gv h rfl) (gv h rfl) (gdO_t h4 h) rfl) ?_
 refine TL.gcq rfl rfl rfl (.bool _) rfl rfl (fun h => o_fieldAddr rfl rfl rfl tyS_3 (by decide) (gv h rfl) rfl trivial) ?_
 refine TL.gcq rfl rfl rfl (.bool _) rfl rfl (fun h => o_loadRf rfl tyS_3 (gv h rfl) (Nat.le_of_ble_eq_true rfl) rfl) ?_
 refine TL.gcq rfl rfl rfl (.bool _) rfl rfl (fun h => o_ari rfl (gv h rfl) rfl rfl) ?_
 refine TL.st rfl rfl rfl (o_or rfl rfl rfl rfl (fun k => Gd_t k)) (TL.nil (thn_normal ?_))
 refine T.cond ((((decide (a1 ≥ (a0.length : Int)) || decide (a2 > 12)) || decide (e1.Kids_ < 0)) || decide (e3.Kids_ > 10))) rfl (fun h => ?_) (fun h => ?_)
 ·replace H := cond_t h H
  refine T.seq (T.region (TL.st rfl rfl rfl (o_build rfl ⟨_, fun _ => rfl, rfl⟩ rfl rfl rfl) ?_))
  refine TL.sn rfl rfl (o_storeBx rfl tyS_67 rfl rfl rfl rfl (Nat.le_of_ble_eq_true rfl) rfl) ?_
  refine TL.st rfl rfl rfl (o_assign rfl rfl) (TL.nil (thn_normal (T.ret (thn_ret ?_))))
  cases some_i H
  exact ⟨trivial, _, (.cell _ _ _ _ _ _ _ _ _ _ rfl rfl tyS_67 (Nat.le_of_ble_eq_true rfl) rfl (.tmp _ _ _ _ rfl .nil)), (.tupL (.cons _ _ _ _ (.aggL (.cons _ _ _ _ (.cl _ rfl) (.cons _ _ _ _ (.cl _ rfl) (.cons _ _ _ _ (.cl _ rfl) (.cons _ _ _ _ (.cl _ rfl) (.cons _ _ _ _ (.cl _ rfl) (.cons _ _ _ _ (.cl _ rfl) (.cons _ _ _ _ (.cl _ rfl) (.cons _ _ _ _ .nil .nil))))))))) (.cons _ _ _ _ (.cl _ rfl) .nil)))⟩
 ·replace H := cond_f h H
  refine T.skip (thn_normal (T.seq (T.region (TL.st rfl rfl rfl (o_move rfl rfl) (TL.st rfl rfl rfl (o_move rfl rfl) ?_)))))
  obtain ⟨e5, h6, H⟩ := bind_s H
  refine TL.st rfl rfl rfl (o_ix (f := c_T_impl_Expr false) rfl rfl tyS_57 rfl rfl h6 rfl) ?_
  refine TL.st rfl rfl rfl (o_loadRf rfl tyS_57 rfl (Nat.le_of_ble_eq_true rfl) rfl) ?_
  refine TL.st rfl rfl rfl (o_build rfl ⟨_, fun _ => rfl, rfl⟩ rfl rfl rfl) ?_
  refine TL.st rfl rfl rfl (o_alloc rfl ⟨_, rfl, rfl⟩) (TL.sn rfl rfl (o_storeBx rfl tyS_67 rfl rfl rfl rfl (Nat.le_of_ble_eq_true rfl) rfl) ?_)
  refine TL.nil (thn_normal (T.seq (T.region (TL.st rfl rfl rfl (o_move rfl rfl) (TL.st rfl rfl rfl (o_ari rfl rfl rfl rfl) (TL.st rfl rfl rfl (o_assign rfl rfl) (TL.nil (thn_normal (T.seq (T.seq (T.region (TL.st rfl rfl rfl (o_assign rfl rfl) (TL.nil (thn_normal (T.block (T.conv (Cs.ownCell (p := 1) 7 8 rfl rfl (by decide)) ?_))))))))))))))))
  obtain ⟨q19, h20, H⟩ := bind_s H
  refine T.to (.cons 0 _ (.im b0 (a0.map (c_T_impl_Expr false))) _ rfl (.same _) rfl (.cons 1 _ (.int .i64 (IntKind.i64.wrap (a1 + 1))) _ rfl (.same _) rfl (.cons 2 _ (.int .i64 a2) _ rfl (.same _) rfl (.cons 6 _ (.bx 0 0) _ rfl (.same _) rfl (.cons 8 _ (.bx 1 0) _ rfl (.same _) rfl (.cons 9 _ (.int .i64 0) _ rfl (.same _) rfl .nil)))))) ?_
  refine T.lp (fun s => match s with | (b7, v8, v9) => [(0, .im b0 (a0.map (c_T_impl_Expr false))), (1, .int .i64 v8), (2, .int .i64 a2), (6, .bx 0 0), (8, .bx 1 0), (9, .int .i64 v9)]) (fun s => match s with | (b7, v8, v9) => [.box [.int .i64 0, .str (ByteArray.mk #[]), .int .i64 0, .int .i64 0, .str (ByteArray.mk #[]), .str (ByteArray.mk #[]), .int .i64 0, .nilS], .box ((c_T_impl_Expr false b7.n_) ++ [.hd 2 (b7.kids_.map (c_raw)).length 0 (b7.kids_.map (c_raw)).length]), .arr .clo 8 (b7.kids_.map (c_raw))]) (fun q ex fr σ => match q with | .inl (b10, v11) => ex = .exit 0 ∧ fr = [(1, .int .i64 v11), (6, .bx 0 0), (8, .bx 1 0)] ∧ σ = [.box [.int .i64 0, .str (ByteArray.mk #[]), .int .i64 0, .int .i64 0, .str (ByteArray.mk #[]), .str (ByteArray.mk #[]), .int .i64 0, .nilS], .box ((c_T_impl_Expr false b10.n_) ++ [.hd 2 (b10.kids_.map (c_raw)).length 0 (b10.kids_.map (c_raw)).length]), .arr .clo 8 (b10.kids_.map (c_raw))] | .inr q12 => ex = .ret ∧ RetN Go.Proofs.Tryz.prog [.cell 6 67, .tmp 7] (fun v τ => Told τ v (.tup [.agg (c_T_spec_l10E false q12.1), .int .i64 q12.2])) .ret fr σ) h20 ?_ ?_ ?_ ?_ ?_
  ·rintro ⟨b7, v8, v9⟩ y13 H
   refine T.seq (T.seq (T.region (TL.st rfl rfl rfl (o_move rfl rfl) (TL.st rfl rfl rfl (o_fieldAddr rfl rfl rfl tyS_57 (by decide) rfl rfl ⟨_, rfl, Nat.le_of_ble_eq_true rfl⟩) ?_))))
   refine TL.st rfl rfl rfl (o_fieldAddr rfl rfl rfl tyS_3 (by decide) rfl rfl ⟨_, rfl, Nat.le_of_ble_eq_true rfl⟩) ?_
   refine TL.st rfl rfl rfl (o_loadBx rfl tyS_3 rfl rfl (Nat.le_of_ble_eq_true rfl) rfl) ?_
   refine TL.st rfl rfl rfl (o_ari rfl rfl rfl rfl) (TL.nil (thn_normal ?_))
   refine T.cond (decide (v9 < b7.n_.Kids_)) rfl (fun h => ?_) (fun h => ?_)
   ·replace H := cond_t h H
    refine T.skip (thn_normal (T.seq (T.block (T.seq (T.region (TL.st rfl rfl rfl (o_move rfl rfl) (TL.st rfl rfl rfl (o_move rfl rfl) (TL.st rfl rfl rfl (o_move rfl rfl) (TL.st rfl rfl rfl (o_ari rfl rfl rfl rfl) ?_)))))))))
    obtain ⟨⟨r14, r15⟩, h16, H⟩ := bind_s H
    refine TL.st rfl rfl rfl (o_callP rfl en_90 rfl rfl (.cons _ _ _ _ (.imv _ _) (.cons _ _ _ _ (.cl _ rfl) (.cons _ _ _ _ (.cl _ rfl) .nil))) (Hrec_spec_l10Take b0 h16)) ?_
    refine TL.st rfl rfl rfl (o_move rfl rfl) (TL.st rfl rfl rfl (o_extract rfl rfl rfl) (TL.st rfl rfl rfl (o_extract rfl rfl rfl) (TL.st rfl rfl rfl (o_alloc rfl ⟨_, rfl, rfl⟩) (TL.sn rfl rfl (o_storeBx rfl tyS_67 rfl rfl rfl rfl (Nat.le_of_ble_eq_true rfl) rfl) ?_))))
    refine TL.st rfl rfl rfl (o_assign rfl rfl) (TL.nil (thn_normal (T.seq (T.seq (T.region (TL.st rfl rfl rfl (o_move rfl rfl) (TL.st rfl rfl rfl (o_ari rfl rfl rfl rfl) (TL.nil (thn_normal ?_)))))))))
    refine T.cond (decide (r15 < 0)) rfl (fun h => ?_) (fun h => ?_)
    ·replace H := cond_t h H
     refine T.seq (T.region (TL.st rfl rfl rfl (o_build rfl ⟨_, fun _ => rfl, rfl⟩ rfl rfl rfl) ?_))
     refine TL.sn rfl rfl (o_storeBx rfl tyS_67 rfl rfl rfl rfl (Nat.le_of_ble_eq_true rfl) rfl) ?_
     refine TL.st rfl rfl rfl (o_assign rfl rfl) (TL.nil (thn_normal (T.ret (thn_ret (inB_ret (thn_ret ?_))))))
     exact Pk.id (thn_ret ⟨.inr ((⟨(⟨0, (ByteArray.mk #[]), (⟨0, 0, (ByteArray.mk #[]), (ByteArray.mk #[])⟩ : T_impl_Atom), 0⟩ : T_impl_Expr), ([] : List (List V))⟩ : T_spec_l10E), (-1)), (some_i H).symm, rfl, ⟨trivial, _, (.cell _ _ _ _ _ _ _ _ _ _ rfl rfl tyS_67 (Nat.le_of_ble_eq_true rfl) rfl (.tmp _ _ _ _ rfl .nil)), (.tupL (.cons _ _ _ _ (.aggL (.cons _ _ _ _ (.cl _ rfl) (.cons _ _ _ _ (.cl _ rfl) (.cons _ _ _ _ (.cl _ rfl) (.cons _ _ _ _ (.cl _ rfl) (.cons _ _ _ _ (.cl _ rfl) (.cons _ _ _ _ (.cl _ rfl) (.cons _ _ _ _ (.cl _ rfl) (.cons _ _ _ _ .nil .nil))))))))) (.cons _ _ _ _ (.cl _ rfl) .nil)))⟩⟩)
    ·replace H := cond_f h H
     refine T.skip (thn_normal (T.seq (T.region (TL.st rfl rfl rfl (o_fieldAddr rfl rfl rfl tyS_65 (by decide) rfl rfl ⟨_, rfl, Nat.le_of_ble_eq_true rfl⟩) ?_))))
     refine TL.st rfl rfl rfl (o_loadBx rfl tyS_65 rfl rfl (Nat.le_of_ble_eq_true rfl) rfl) ?_
     refine TL.st rfl rfl rfl (o_loadBx rfl tyS_67 rfl rfl (Nat.le_of_ble_eq_true rfl) rfl) ?_
     refine TL.st rfl rfl rfl (o_sliceIm rfl rfl tyS_67 ⟨_, rfl, rfl⟩ (by decide) rfl rfl rfl rfl rfl rfl) ?_
     obtain ⟨l17, h18, H⟩ := bind_s H
     refine TL.st rfl rfl rfl (o_apM (f := c_raw) (xs := b7.kids_) (ys := ([(c_T_spec_l10E false r14)] : List (List V))) rfl rfl tyE_67 rfl rfl rfl rfl (by decide) rfl (mem1 rfl) h18) ?_
     refine TL.st rfl rfl rfl (o_fieldAddr rfl rfl rfl tyS_65 (by decide) rfl rfl ⟨_, rfl, Nat.le_of_ble_eq_true rfl⟩) ?_
     refine TL.sn rfl rfl (o_storeBx rfl tyS_65 rfl rfl rfl rfl (Nat.le_of_ble_eq_true rfl) (sure_hd rfl rfl rfl)) ?_
     refine TL.nil (thn_normal (T.region (TL.st rfl rfl rfl (o_move rfl rfl) (TL.st rfl rfl rfl (o_assign rfl rfl) (TL.nil (inB_normal (thn_normal (T.region (TL.st rfl rfl rfl (o_move rfl rfl) (TL.st rfl rfl rfl (o_ari rfl rfl rfl rfl) (TL.st rfl rfl rfl (o_assign rfl rfl) (TL.nil ?_))))))))))))
     exact Pk.go (fr' := [(0, .im b0 (a0.map (c_T_impl_Expr false))), (1, .int .i64 r15), (2, .int .i64 a2), (6, .bx 0 0), (8, .bx 1 0), (9, .int .i64 (IntKind.i64.wrap (v9 + 1)))]) (σ' := [.box [.int .i64 0, .str (ByteArray.mk #[]), .int .i64 0, .int .i64 0, .str (ByteArray.mk #[]), .str (ByteArray.mk #[]), .int .i64 0, .nilS], .box ((c_T_impl_Expr false (⟨b7.n_, l17⟩ : T_spec_l10E).n_) ++ [.hd 2 ((⟨b7.n_, l17⟩ : T_spec_l10E).kids_.map (c_raw)).length 0 ((⟨b7.n_, l17⟩ : T_spec_l10E).kids_.map (c_raw)).length]), .arr .clo 8 ((⟨b7.n_, l17⟩ : T_spec_l10E).kids_.map (c_raw))]) _ rfl rfl ⟨(bels_iff.1 rfl), ⟨(bels_iff.1 rfl), ⟨trivial, trivial⟩⟩⟩ (.cons 0 _ (.im b0 (a0.map (c_T_impl_Expr false))) _ rfl (.same _) rfl (.cons 1 _ (.int .i64 r15) _ rfl (.same _) rfl (.cons 2 _ (.int .i64 a2) _ rfl (.same _) rfl (.cons 6 _ (.bx 0 0) _ rfl (.same _) rfl (.cons 8 _ (.bx 1 0) _ rfl (.same _) rfl (.cons 9 _ (.int .i64 (IntKind.i64.wrap (v9 + 1))) _ rfl (.same _) rfl .nil)))))) (thn_normal ⟨((⟨b7.n_, l17⟩ : T_spec_l10E), r15, (IntKind.i64.wrap (v9 + 1))), (some_i H).symm, rfl, rfl⟩)
   ·replace H := cond_f h H
    refine T.exit (thn_exit ?_)
    exact Pk.go (fr' := [(1, .int .i64 v8), (6, .bx 0 0), (8, .bx 1 0)]) (σ' := [.box [.int .i64 0, .str (ByteArray.mk #[]), .int .i64 0, .int .i64 0, .str (ByteArray.mk #[]), .str (ByteArray.mk #[]), .int .i64 0, .nilS], .box ((c_T_impl_Expr false b7.n_) ++ [.hd 2 (b7.kids_.map (c_raw)).length 0 (b7.kids_.map (c_raw)).length]), .arr .clo 8 (b7.kids_.map (c_raw))]) _ rfl rfl ⟨(bels_iff.1 rfl), ⟨(bels_iff.1 rfl), ⟨trivial, trivial⟩⟩⟩ (.cons 1 _ (.int .i64 v8) _ rfl (.same _) rfl (.cons 6 _ (.bx 0 0) _ rfl (.same _) rfl (.cons 8 _ (.bx 1 0) _ rfl (.same _) rfl .nil))) (thn_exit ⟨.inl (b7, v8), (some_i H).symm, rfl, rfl, rfl⟩)
  ·rintro ⟨b7, v8, v9⟩ ⟨b7', v8', v9'⟩; rfl
  ·rintro ⟨b7, v8, v9⟩; exact ⟨(bels_iff.1 rfl), ⟨(bels_iff.1 rfl), ⟨trivial, trivial⟩⟩⟩
  ·rintro ⟨b7, v8, v9⟩; exact (.cons _ _ _ rfl rfl (.cons _ _ _ rfl rfl (.cons _ _ _ rfl rfl (.cons _ _ _ rfl rfl (.cons _ _ _ rfl rfl (.cons _ _ _ rfl rfl .nil))))))
  ·rcases q19 with ⟨b10, v11⟩ | q12
   ·rintro _ _ _ ⟨rfl, rfl, rfl⟩
    refine inB_here (thn_normal (T.seq (T.region (TL.st rfl rfl rfl (o_loadBx rfl tyS_67 rfl rfl (Nat.le_of_ble_eq_true rfl) rfl) ?_))))
    refine TL.st rfl rfl rfl (o_move rfl rfl) (TL.sn rfl rfl (o_storeBx rfl tyS_67 rfl rfl rfl rfl (Nat.le_of_ble_eq_true rfl) (sure_c rfl (sure_c rfl (sure_c rfl (sure_c rfl (sure_c rfl (sure_c rfl (sure_c rfl (sure_hd rfl rfl rfl))))))))) ?_)
    refine TL.st rfl rfl rfl (o_assign rfl rfl) (TL.nil (thn_normal (T.ret ?_)))
    cases some_i H
    exact ⟨trivial, _, (.cell _ _ _ _ _ _ _ _ _ _ rfl rfl tyS_67 (Nat.le_of_ble_eq_true rfl) rfl (.tmp _ _ _ _ rfl .nil)), (.tupL (.cons _ _ _ _ (.aggL (.cons _ _ _ _ (.cl _ rfl) (.cons _ _ _ _ (.cl _ rfl) (.cons _ _ _ _ (.cl _ rfl) (.cons _ _ _ _ (.cl _ rfl) (.cons _ _ _ _ (.cl _ rfl) (.cons _ _ _ _ (.cl _ rfl) (.cons _ _ _ _ (.cl _ rfl) (.cons _ _ _ _ (.own rfl (by decide) rfl) .nil))))))))) (.cons _ _ _ _ (.cl _ rfl) .nil)))⟩
   ·rintro _ fr1 σ1 ⟨rfl, hr⟩
    refine inB_ret (thn_ret ?_)
    cases some_i H
    exact hr
theorem spec_l10Take_p (b0 : Bool) {a0 : (List T_impl_Expr)} {a1 : Int} {a2 : Int} {R0 : T_spec_l10E} {R1 : Int} (H : spec_l10Take a0 a1 a2 = some (R0, R1)) : Pure Go.Proofs.Tryz.prog 90 [.im b0 (a0.map (c_T_impl_Expr false)), .int .i64 a1, .int .i64 a2] (.tup [.agg (c_T_spec_l10E false R0), .int .i64 R1]) :=
 fixO_ind (fun x r => match x, r with | (a0, a1, a2), (R0, R1) => ∀ (b0 : Bool), Pure Go.Proofs.Tryz.prog 90 [.im b0 (a0.map (c_T_impl_Expr false)), .int .i64 a1, .int .i64 a2] (.tup [.agg (c_T_spec_l10E false R0), .int .i64 R1])) (fun rec_spec_l10Take Hrec x r h => match x, r, h with | (a0, a1, a2), (R0, R1), h => fun b0 => spec_l10Take_pb (fun b0 {a0} {a1} {a2} {R0} {R1} h => Hrec (a0, a1, a2) (R0, R1) h b0) b0 h) H b0
noncomputable def spec_l10Arity_j2 (a0 : Int) (v2 : Bool) : Option Int :=
  cond v2 (some 1) (cond (a0 == 10) (some 3) (cond (decide (a0 ≥ 8) && decide (a0 ≤ 19)) (some 2) (some (-1))))
noncomputable def spec_l10Arity_j1 (a0 : Int) (v1 : Bool) : Option Int :=
  cond v1 (some 0) (cond (a0 == 2) (some (-2)) (cond (a0 == 4) (spec_l10Arity_j2 a0 (a0 == 4)) (cond (a0 == 5) (spec_l10Arity_j2 a0 (a0 == 5)) (cond (a0 == 6) (spec_l10Arity_j2 a0 (a0 == 6)) (cond (a0 == 7) (spec_l10Arity_j2 a0 (a0 == 7)) (cond (a0 == 20) (spec_l10Arity_j2 a0 (a0 == 20)) (spec_l10Arity_j2 a0 (a0 == 21))))))))
noncomputable def spec_l10Arity (a0 : Int) : Option Int :=
  cond (a0 == 1) (spec_l10Arity_j1 a0 (a0 == 1)) (spec_l10Arity_j1 a0 (a0 == 3))
theorem spec_l10Arity_p  {a0 : Int} {R0 : Int} (H : spec_l10Arity a0 = some R0) : Pure Go.Proofs.Tryz.prog 102 [.int .i64 a0] (.int .i64 R0) := by
 refine CallT.of_TN (n := 24) Go.Proofs.Tryz.func102 rfl rfl rfl rfl ?_
 refine T.seq (T.region (TL.st rfl rfl rfl (o_assign rfl rfl) (TL.nil (thn_normal (T.seq (T.seq (T.region (TL.st rfl rfl rfl (o_move rfl rfl) (TL.nil (thn_normal (T.block (T.cut (fun fr' σ' => ∃ (v1 : Bool), fr' = [(0, .int .i64 a0), (3, .int .i64 a0), (4, .bool v1)] ∧ σ' = [] ∧ spec_l10Arity_j1 a0 v1 = some R0) (T.pk ?_) ?_))))))))))))
 ·skip
  refine T.seq (T.region (TL.st rfl rfl rfl (o_ari rfl rfl rfl rfl) (TL.st rfl rfl rfl (o_assign rfl rfl) (TL.nil (thn_normal ?_)))))
  refine T.cond ((a0 == 1)) rfl (fun h => ?_) (fun h => ?_)
  ·replace H := cond_t h H
   refine T.skip ?_
   exact Pk.go (fr' := [(0, .int .i64 a0), (3, .int .i64 a0), (4, .bool (a0 == 1))]) (σ' := []) _ rfl rfl trivial (.cons 0 _ (.int .i64 a0) _ rfl (.same _) rfl (.cons 3 _ (.int .i64 a0) _ rfl (.same _) rfl (.cons 4 _ (.bool (a0 == 1)) _ rfl (.same _) rfl .nil))) (thn_normal ⟨(a0 == 1), rfl, rfl, H⟩)
  ·replace H := cond_f h H
   refine T.region (TL.st rfl rfl rfl (o_ari rfl rfl rfl rfl) (TL.st rfl rfl rfl (o_assign rfl rfl) (TL.nil ?_)))
   exact Pk.go (fr' := [(0, .int .i64 a0), (3, .int .i64 a0), (4, .bool (a0 == 3))]) (σ' := []) _ rfl rfl trivial (.cons 0 _ (.int .i64 a0) _ rfl (.same _) rfl (.cons 3 _ (.int .i64 a0) _ rfl (.same _) rfl (.cons 4 _ (.bool (a0 == 3)) _ rfl (.same _) rfl .nil))) (thn_normal ⟨(a0 == 3), rfl, rfl, H⟩)
 ·rintro _ _ ⟨v1, rfl, rfl, H⟩
  refine T.cond (v1) rfl (fun h => ?_) (fun h => ?_)
  ·replace H := cond_t h H
   refine T.seq (T.region (TL.st rfl rfl rfl (o_assign rfl rfl) (TL.nil (thn_normal (T.ret (inB_ret (thn_ret ?_)))))))
   cases some_i H
   exact ⟨trivial, _, (.tmp _ _ _ _ rfl .nil), (.cl _ rfl)⟩
  ·replace H := cond_f h H
   refine T.seq (T.region (TL.st rfl rfl rfl (o_ari rfl rfl rfl rfl) (TL.st rfl rfl rfl (o_assign rfl rfl) (TL.nil (thn_normal ?_)))))
   refine T.cond ((a0 == 2)) rfl (fun h => ?_) (fun h => ?_)
   ·replace H := cond_t h H
    refine T.seq (T.region (TL.st rfl rfl rfl (o_assign rfl rfl) (TL.nil (thn_normal (T.ret (inB_ret (thn_ret ?_)))))))
    cases some_i H
    exact ⟨trivial, _, (.tmp _ _ _ _ rfl .nil), (.cl _ rfl)⟩
   ·replace H := cond_f h H
    refine T.cut (fun fr' σ' => ∃ (v2 : Bool), fr' = [(0, .int .i64 a0), (3, .int .i64 a0), (9, .bool v2)] ∧ σ' = [] ∧ spec_l10Arity_j2 a0 v2 = some R0) (T.pk ?_) ?_
    ·skip
     refine T.seq (T.region (TL.st rfl rfl rfl (o_ari rfl rfl rfl rfl) (TL.st rfl rfl rfl (o_assign rfl rfl) (TL.nil (thn_normal ?_)))))
     refine T.cond ((a0 == 4)) rfl (fun h => ?_) (fun h => ?_)
     ·replace H := cond_t h H
      refine T.skip ?_
      exact Pk.go (fr' := [(0, .int .i64 a0), (3, .int .i64 a0), (9, .bool (a0 == 4))]) (σ' := []) _ rfl rfl trivial (.cons 0 _ (.int .i64 a0) _ rfl (.same _) rfl (.cons 3 _ (.int .i64 a0) _ rfl (.same _) rfl (.cons 9 _ (.bool (a0 == 4)) _ rfl (.same _) rfl .nil))) (thn_normal ⟨(a0 == 4), rfl, rfl, H⟩)
     ·replace H := cond_f h H
      refine T.seq (T.region (TL.st rfl rfl rfl (o_ari rfl rfl rfl rfl) (TL.st rfl rfl rfl (o_assign rfl rfl) (TL.nil (thn_normal ?_)))))
      refine T.cond ((a0 == 5)) rfl (fun h => ?_) (fun h => ?_)
      ·replace H := cond_t h H
       refine T.skip ?_
       exact Pk.go (fr' := [(0, .int .i64 a0), (3, .int .i64 a0), (9, .bool (a0 == 5))]) (σ' := []) _ rfl rfl trivial (.cons 0 _ (.int .i64 a0) _ rfl (.same _) rfl (.cons 3 _ (.int .i64 a0) _ rfl (.same _) rfl (.cons 9 _ (.bool (a0 == 5)) _ rfl (.same _) rfl .nil))) (thn_normal ⟨(a0 == 5), rfl, rfl, H⟩)
      ·replace H := cond_f h H
       refine T.seq (T.region (TL.st rfl rfl rfl (o_ari rfl rfl rfl rfl) (TL.st rfl rfl rfl (o_assign rfl rfl) (TL.nil (thn_normal ?_)))))
       refine T.cond ((a0 == 6)) rfl (fun h => ?_) (fun h => ?_)
       ·replace H := cond_t h H
        refine T.skip ?_
        exact Pk.go (fr' := [(0, .int .i64 a0), (3, .int .i64 a0), (9, .bool (a0 == 6))]) (σ' := []) _ rfl rfl trivial (.cons 0 _ (.int .i64 a0) _ rfl (.same _) rfl (.cons 3 _ (.int .i64 a0) _ rfl (.same _) rfl (.cons 9 _ (.bool (a0 == 6)) _ rfl (.same _) rfl .nil))) (thn_normal ⟨(a0 == 6), rfl, rfl, H⟩)
       ·replace H := cond_f h H
        refine T.seq (T.region (TL.st rfl rfl rfl (o_ari rfl rfl rfl rfl) (TL.st rfl rfl rfl (o_assign rfl rfl) (TL.nil (thn_normal ?_)))))
        refine T.cond ((a0 == 7)) rfl (fun h => ?_) (fun h => ?_)
        ·replace H := cond_t h H
         refine T.skip ?_
         exact Pk.go (fr' := [(0, .int .i64 a0), (3, .int .i64 a0), (9, .bool (a0 == 7))]) (σ' := []) _ rfl rfl trivial (.cons 0 _ (.int .i64 a0) _ rfl (.same _) rfl (.cons 3 _ (.int .i64 a0) _ rfl (.same _) rfl (.cons 9 _ (.bool (a0 == 7)) _ rfl (.same _) rfl .nil))) (thn_normal ⟨(a0 == 7), rfl, rfl, H⟩)
        ·replace H := cond_f h H
         refine T.seq (T.region (TL.st rfl rfl rfl (o_ari rfl rfl rfl rfl) (TL.st rfl rfl rfl (o_assign rfl rfl) (TL.nil (thn_normal ?_)))))
         refine T.cond ((a0 == 20)) rfl (fun h => ?_) (fun h => ?_)
         ·replace H := cond_t h H
          refine T.skip ?_
          exact Pk.go (fr' := [(0, .int .i64 a0), (3, .int .i64 a0), (9, .bool (a0 == 20))]) (σ' := []) _ rfl rfl trivial (.cons 0 _ (.int .i64 a0) _ rfl (.same _) rfl (.cons 3 _ (.int .i64 a0) _ rfl (.same _) rfl (.cons 9 _ (.bool (a0 == 20)) _ rfl (.same _) rfl .nil))) (thn_normal ⟨(a0 == 20), rfl, rfl, H⟩)
         ·replace H := cond_f h H
          refine T.region (TL.st rfl rfl rfl (o_ari rfl rfl rfl rfl) (TL.st rfl rfl rfl (o_assign rfl rfl) (TL.nil ?_)))
          exact Pk.go (fr' := [(0, .int .i64 a0), (3, .int .i64 a0), (9, .bool (a0 == 21))]) (σ' := []) _ rfl rfl trivial (.cons 0 _ (.int .i64 a0) _ rfl (.same _) rfl (.cons 3 _ (.int .i64 a0) _ rfl (.same _) rfl (.cons 9 _ (.bool (a0 == 21)) _ rfl (.same _) rfl .nil))) (thn_normal ⟨(a0 == 21), rfl, rfl, H⟩)
    ·rintro _ _ ⟨v2, rfl, rfl, H⟩
     refine T.cond (v2) rfl (fun h => ?_) (fun h => ?_)
     ·replace H := cond_t h H
      refine T.seq (T.region (TL.st rfl rfl rfl (o_assign rfl rfl) (TL.nil (thn_normal (T.ret (inB_ret (thn_ret ?_)))))))
      cases some_i H
      exact ⟨trivial, _, (.tmp _ _ _ _ rfl .nil), (.cl _ rfl)⟩
     ·replace H := cond_f h H
      refine T.seq (T.region (TL.st rfl rfl rfl (o_ari rfl rfl rfl rfl) (TL.st rfl rfl rfl (o_assign rfl rfl) (TL.nil (thn_normal ?_)))))
      refine T.cond ((a0 == 10)) rfl (fun h => ?_) (fun h => ?_)
      ·replace H := cond_t h H
       refine T.seq (T.region (TL.st rfl rfl rfl (o_assign rfl rfl) (TL.nil (thn_normal (T.ret (inB_ret (thn_ret ?_)))))))
       cases some_i H
       exact ⟨trivial, _, (.tmp _ _ _ _ rfl .nil), (.cl _ rfl)⟩
      ·replace H := cond_f h H
       refine T.skip (inB_normal (thn_normal (T.seq (T.seq (T.region (TL.st rfl rfl rfl (o_move rfl rfl) (TL.st rfl rfl rfl (o_ari rfl rfl rfl rfl) (TL.st rfl rfl rfl (o_move rfl rfl) (TL.gcq rfl rfl rfl (.bool _) rfl rfl (fun h => o_move rfl rfl) (TL.gcq rfl rfl rfl (.bool _) rfl rfl (fun h => o_ari rfl (gv h rfl) rfl rfl) ?_))))))))))
       refine TL.st rfl rfl rfl (o_and rfl rfl rfl (fun k => Gd_t k) rfl) (TL.nil (thn_normal ?_))
       refine T.cond ((decide (a0 ≥ 8) && decide (a0 ≤ 19))) rfl (fun h => ?_) (fun h => ?_)
       ·replace H := cond_t h H
        refine T.seq (T.region (TL.st rfl rfl rfl (o_assign rfl rfl) (TL.nil (thn_normal (T.ret (thn_ret ?_))))))
        cases some_i H
        exact ⟨trivial, _, (.tmp _ _ _ _ rfl .nil), (.cl _ rfl)⟩
       ·replace H := cond_f h H
        refine T.skip (thn_normal (T.seq (T.region (TL.st rfl rfl rfl (o_assign rfl rfl) (TL.nil (thn_normal (T.ret ?_)))))))
        cases some_i H
        exact ⟨trivial, _, (.tmp _ _ _ _ rfl .nil), (.cl _ rfl)⟩
theorem en_102 (us : Array Value) (w : World) : (callFunc 102 us).run Go.Proofs.Tryz.prog w = .ok (.enter 102 us) w := enters Go.Proofs.Tryz.func102 rfl rfl us w
noncomputable def spec_l10Vars  : Option (List ByteArray) :=
  some ([(ByteArray.mk #[112, 114, 105, 110, 99, 105, 112, 97, 108]), (ByteArray.mk #[97, 99, 116, 105, 111, 110]), (ByteArray.mk #[114, 101, 115, 111, 117, 114, 99, 101]), (ByteArray.mk #[99, 111, 110, 116, 101, 120, 116])] : List ByteArray)
theorem spec_l10Vars_p   {R0 : (List ByteArray)} (H : spec_l10Vars = some R0) : Pure Go.Proofs.Tryz.prog 104 [] (.im false (R0.map (c_str))) := by
 refine CallT.of_TN (n := 2) Go.Proofs.Tryz.func104 rfl rfl rfl rfl ?_
 refine T.seq (T.region (TL.st rfl rfl rfl (o_assign rfl rfl) (TL.nil (thn_normal (T.seq (T.region (TL.st rfl rfl rfl (o_sliceIm rfl rfl tyS_9 ⟨_, rfl, rfl⟩ (by decide) rfl rfl rfl rfl rfl rfl) ?_)))))))
 refine TL.st rfl rfl rfl (o_assign rfl rfl) (TL.nil (thn_normal (T.ret ?_)))
 cases some_i H
 exact ⟨trivial, _, (.tmp _ _ _ _ rfl .nil), (.cl _ rfl)⟩
theorem en_104 (us : Array Value) (w : World) : (callFunc 104 us).run Go.Proofs.Tryz.prog w = .ok (.enter 104 us) w := enters Go.Proofs.Tryz.func104 rfl rfl us w
noncomputable def spec_l3Has_l1 (a0 : (List ByteArray)) (a1 : ByteArray) : Int → Option (Int ⊕ (Unit ⊕ Bool)) := fun s => match s with
  | v1 => cond (decide (v1 < (a0.length : Int))) ((idx a0 v1).bind fun e4 => cond (e4.toList == a1.toList) (some (.inr (.inr true))) (some (.inl (IntKind.i64.wrap (v1 + 1))))) (some (.inr (.inl ())))
noncomputable def spec_l3Has (a0 : (List ByteArray)) (a1 : ByteArray) : Option Bool :=
  (loopO (spec_l3Has_l1 a0 a1) 0).bind fun q6 => (match q6 with | .inl _ => some false | .inr q2 => some q2)
theorem spec_l3Has_p (b0 : Bool) {a0 : (List ByteArray)} {a1 : ByteArray} {R0 : Bool} (H : spec_l3Has a0 a1 = some R0) : Pure Go.Proofs.Tryz.prog 103 [.im b0 (a0.map (c_str)), .str a1] (.bool R0) := by
 refine CallT.of_TN (n := 17) Go.Proofs.Tryz.func103 rfl rfl rfl rfl ?_
 refine T.seq (T.region (TL.st rfl rfl rfl (o_assign rfl rfl) (TL.nil (thn_normal (T.seq (T.seq (T.region (TL.st rfl rfl rfl (o_move rfl rfl) (TL.st rfl rfl rfl (o_lenL (f := c_str) rfl rfl rfl) ?_)))))))))
 refine TL.st rfl rfl rfl (o_move rfl rfl) (TL.nil (thn_normal (T.block ?_)))
 obtain ⟨q6, h7, H⟩ := bind_s H
 refine T.to (.cons 1 _ (.str a1) _ rfl (.same _) rfl (.cons 7 _ (.im b0 (a0.map (c_str))) _ rfl (.same _) rfl (.cons 8 _ (.int .i64 (a0.length : Int)) _ rfl (.same _) rfl (.cons 9 _ (.int .i64 0) _ rfl (.same _) rfl .nil)))) ?_
 refine T.lp (fun s => match s with | v1 => [(1, .str a1), (7, .im b0 (a0.map (c_str))), (8, .int .i64 (a0.length : Int)), (9, .int .i64 v1)]) (fun s => match s with | v1 => []) (fun q ex fr σ => match q with | .inl _ => ex = .exit 0 ∧ fr = [] ∧ σ = [] | .inr q2 => ex = .ret ∧ RetN Go.Proofs.Tryz.prog [.tmp 4] (fun v τ => Told τ v (.bool q2)) .ret fr σ) h7 ?_ ?_ ?_ ?_ ?_
 ·rintro v1 y3 H
  refine T.seq (T.region (TL.st rfl rfl rfl (o_ari rfl rfl rfl rfl) (TL.nil (thn_normal (T.seq ?_)))))
  refine T.cond (decide (v1 < (a0.length : Int))) rfl (fun h => ?_) (fun h => ?_)
  ·replace H := cond_t h H
   refine T.skip (thn_normal (T.seq (T.block (T.seq (T.region ?_)))))
   obtain ⟨e4, h5, H⟩ := bind_s H
   refine TL.st rfl rfl rfl (o_ix (f := c_str) rfl rfl tyS_9 rfl rfl h5 rfl) ?_
   refine TL.st rfl rfl rfl (o_loadRf rfl tyS_9 rfl (Nat.le_of_ble_eq_true rfl) rfl) ?_
   refine TL.st rfl rfl rfl (o_assign rfl rfl) (TL.nil (thn_normal (T.seq (T.region (TL.st rfl rfl rfl (o_move rfl rfl) (TL.st rfl rfl rfl (o_move rfl rfl) (TL.st rfl rfl rfl (o_str rfl rfl rfl rfl) ?_)))))))
   refine TL.nil (thn_normal ?_)
   refine T.cond ((e4.toList == a1.toList)) rfl (fun h => ?_) (fun h => ?_)
   ·replace H := cond_t h H
    refine T.seq (T.region (TL.st rfl rfl rfl (o_assign rfl rfl) (TL.nil (thn_normal (T.ret (inB_ret (thn_ret ?_)))))))
    exact Pk.id (thn_ret ⟨.inr true, (some_i H).symm, rfl, ⟨trivial, _, (.tmp _ _ _ _ rfl .nil), (.cl _ rfl)⟩⟩)
   ·replace H := cond_f h H
    refine T.skip (inB_normal (thn_normal (T.region (TL.st rfl rfl rfl (o_ari rfl rfl rfl rfl) (TL.st rfl rfl rfl (o_move rfl rfl) (TL.nil ?_))))))
    exact Pk.go (fr' := [(1, .str a1), (7, .im b0 (a0.map (c_str))), (8, .int .i64 (a0.length : Int)), (9, .int .i64 (IntKind.i64.wrap (v1 + 1)))]) (σ' := []) _ rfl rfl trivial (.cons 1 _ (.str a1) _ rfl (.same _) rfl (.cons 7 _ (.im b0 (a0.map (c_str))) _ rfl (.same _) rfl (.cons 8 _ (.int .i64 (a0.length : Int)) _ rfl (.same _) rfl (.cons 9 _ (.int .i64 (IntKind.i64.wrap (v1 + 1))) _ rfl (.same _) rfl .nil)))) (thn_normal ⟨(IntKind.i64.wrap (v1 + 1)), (some_i H).symm, rfl, rfl⟩)
  ·replace H := cond_f h H
   refine T.exit (thn_exit ?_)
   exact Pk.go (fr' := []) (σ' := []) _ rfl rfl trivial .nil (thn_exit ⟨.inl (), (some_i H).symm, rfl, rfl, rfl⟩)
 ·rintro v1 v1'; rfl
 ·rintro v1; exact trivial
 ·rintro v1; exact (.cons _ _ _ rfl rfl (.cons _ _ _ rfl rfl (.cons _ _ _ rfl rfl (.cons _ _ _ rfl rfl .nil))))
 ·rcases q6 with ⟨⟩ | q2
  ·rintro _ _ _ ⟨rfl, rfl, rfl⟩
   refine inB_here (thn_normal (T.seq (T.region (TL.st rfl rfl rfl (o_assign rfl rfl) (TL.nil (thn_normal (T.ret ?_)))))))
   cases some_i H
   exact ⟨trivial, _, (.tmp _ _ _ _ rfl .nil), (.cl _ rfl)⟩
  ·rintro _ fr1 σ1 ⟨rfl, hr⟩
   refine inB_ret (thn_ret ?_)
   cases some_i H
   exact hr
theorem en_103 (us : Array Value) (w : World) : (callFunc 103 us).run Go.Proofs.Tryz.prog w = .ok (.enter 103 us) w := enters Go.Proofs.Tryz.func103 rfl rfl us w
noncomputable def spec_l1Tokens_j1 (l6 : List Int) (v7 : Int) : Option ((List Int × Int) ⊕ (List Int ⊕ ((List Int) × Bool))) :=
  some (.inl (l6, (IntKind.i64.wrap (v7 + 1))))
noncomputable def spec_l1Tokens_l1 (a0 : ByteArray) : (List Int × Int) → Option ((List Int × Int) ⊕ (List Int ⊕ ((List Int) × Bool))) := fun s => match s with
  | (l1, v2) => cond (decide (v2 < (a0.size : Int))) ((idxS a0 v2).bind fun b8 => cond (b8 == 42) ((app l1 ([256] : List Int)).bind fun l10 => spec_l1Tokens_j1 l10 v2) (cond (b8 == 92) ((gdO (!((IntKind.i64.wrap (v2 + 1)) == (a0.size : Int))) (idxS a0 (IntKind.i64.wrap (v2 + 1)))).bind fun b12 => (gdO ((!((IntKind.i64.wrap (v2 + 1)) == (a0.size : Int))) && (b12 != 42)) (idxS a0 (IntKind.i64.wrap (v2 + 1)))).bind fun b14 => cond (((IntKind.i64.wrap (v2 + 1)) == (a0.size : Int)) || ((b12 != 42) && (b14 != 92))) (some (.inr (.inr (([] : List Int), false)))) ((idxS a0 (IntKind.i64.wrap (v2 + 1))).bind fun b16 => (app l1 ([(IntKind.i64.wrap b16)] : List Int)).bind fun l18 => spec_l1Tokens_j1 l18 (IntKind.i64.wrap (v2 + 1)))) ((idxS a0 v2).bind fun b20 => (app l1 ([(IntKind.i64.wrap b20)] : List Int)).bind fun l22 => spec_l1Tokens_j1 l22 v2))) (some (.inr (.inl l1)))
noncomputable def spec_l1Tokens (a0 : ByteArray) : Option ((List Int) × Bool) :=
  (loopO (spec_l1Tokens_l1 a0) (([] : List Int), 0)).bind fun q24 => (match q24 with | .inl l3 => some (l3, true) | .inr q4 => some q4)
theorem spec_l1Tokens_p  {a0 : ByteArray} {R0 : (List Int)} {R1 : Bool} (H : spec_l1Tokens a0 = some (R0, R1)) : Pure Go.Proofs.Tryz.prog 105 [.str a0] (.tup [.im false (R0.map (c_int .i64)), .bool R1]) := by
 refine CallT.of_TN (n := 55) Go.Proofs.Tryz.func105 rfl rfl rfl rfl ?_
 refine T.seq (T.region (TL.st rfl rfl rfl (o_assign rfl rfl) (TL.st rfl rfl rfl (o_assign rfl rfl) (TL.nil (thn_normal (T.seq (T.region (TL.st rfl rfl rfl (o_assign rfl rfl) (TL.nil (thn_normal (T.seq (T.seq (T.region (TL.st rfl rfl rfl (o_assign rfl rfl) (TL.nil (thn_normal (T.block (T.conv (Cs.own (t := 4) 1 rfl (by decide)) ?_))))))))))))))))))
 obtain ⟨q24, h25, H⟩ := bind_s H
 refine T.to (.cons 0 _ (.str a0) _ rfl (.same _) rfl (.cons 4 _ (.hd 0 (([] : List Int).map (c_int .i64)).length 0 (([] : List Int).map (c_int .i64)).length) _ rfl (.same _) rfl (.cons 5 _ (.int .i64 0) _ rfl (.same _) rfl .nil))) ?_
 refine T.lp (fun s => match s with | (l1, v2) => [(0, .str a0), (4, .hd 0 (l1.map (c_int .i64)).length 0 (l1.map (c_int .i64)).length), (5, .int .i64 v2)]) (fun s => match s with | (l1, v2) => [.arr .clo 1 (l1.map (c_int .i64))]) (fun q ex fr σ => match q with | .inl l3 => ex = .exit 0 ∧ fr = [(4, .hd 0 (l3.map (c_int .i64)).length 0 (l3.map (c_int .i64)).length)] ∧ σ = [.arr .clo 1 (l3.map (c_int .i64))] | .inr q4 => ex = .ret ∧ RetN Go.Proofs.Tryz.prog [.tmp 2, .tmp 3] (fun v τ => Told τ v (.tup [.im false (q4.1.map (c_int .i64)), .bool q4.2])) .ret fr σ) h25 ?_ ?_ ?_ ?_ ?_
 ·rintro ⟨l1, v2⟩ y5 H
  refine T.seq (T.seq (T.region (TL.st rfl rfl rfl (o_move rfl rfl) (TL.st rfl rfl rfl (o_move rfl rfl) (TL.st rfl rfl rfl (o_lenS rfl rfl rfl) ?_)))))
  refine TL.st rfl rfl rfl (o_ari rfl rfl rfl rfl) (TL.nil (thn_normal ?_))
  refine T.cond (decide (v2 < (a0.size : Int))) rfl (fun h => ?_) (fun h => ?_)
  ·replace H := cond_t h H
   refine T.skip (thn_normal (T.cut (fun fr' σ' => ∃ (l6 : List Int) (v7 : Int), fr' = [(0, .str a0), (4, .hd 0 (l6.map (c_int .i64)).length 0 (l6.map (c_int .i64)).length), (5, .int .i64 v7)] ∧ σ' = [.arr .clo 1 (l6.map (c_int .i64))] ∧ spec_l1Tokens_j1 l6 v7 = some y5) (T.pk ?_) ?_))
   ·skip
    refine T.block (T.seq (T.region (TL.st rfl rfl rfl (o_move rfl rfl) (TL.st rfl rfl rfl (o_move rfl rfl) ?_))))
    obtain ⟨b8, h9, H⟩ := bind_s H
    refine TL.st rfl rfl rfl (o_ixs rfl rfl rfl rfl h9) ?_
    refine TL.nil (thn_normal (T.block (T.seq (T.region (TL.st rfl rfl rfl (o_ari rfl rfl rfl rfl) (TL.st rfl rfl rfl (o_assign rfl rfl) (TL.nil (thn_normal ?_))))))))
    refine T.cond ((b8 == 42)) rfl (fun h => ?_) (fun h => ?_)
    ·replace H := cond_t h H
     refine T.region (TL.st rfl rfl rfl (o_move rfl rfl) (TL.st rfl rfl rfl (o_sliceIm rfl rfl tyS_3 ⟨_, rfl, rfl⟩ (by decide) rfl rfl rfl rfl rfl rfl) ?_))
     obtain ⟨l10, h11, H⟩ := bind_s H
     refine TL.st rfl rfl rfl (o_ap (f := c_int .i64) (xs := l1) (ys := ([256] : List Int)) rfl rfl tyE_3 rfl rfl rfl rfl (by decide) rfl (fun _ => rfl) h11) ?_
     refine TL.st rfl rfl rfl (o_assign rfl rfl) (TL.nil (inB_normal (inB_normal ?_)))
     exact Pk.go (fr' := [(0, .str a0), (4, .hd 0 (l10.map (c_int .i64)).length 0 (l10.map (c_int .i64)).length), (5, .int .i64 v2)]) (σ' := [.arr .clo 1 (l10.map (c_int .i64))]) _ rfl rfl ⟨trivial, trivial⟩ (.cons 0 _ (.str a0) _ rfl (.same _) rfl (.cons 4 _ (.hd 0 (l10.map (c_int .i64)).length 0 (l10.map (c_int .i64)).length) _ rfl (.same _) rfl (.cons 5 _ (.int .i64 v2) _ rfl (.same _) rfl .nil))) (thn_normal ⟨l10, v2, rfl, rfl, H⟩)
    ·replace H := cond_f h H
     refine T.seq (T.region (TL.st rfl rfl rfl (o_ari rfl rfl rfl rfl) (TL.st rfl rfl rfl (o_assign rfl rfl) (TL.nil (thn_normal ?_)))))
     refine T.cond ((b8 == 92)) rfl (fun h => ?_) (fun h => ?_)
     ·replace H := cond_t h H
      refine T.seq (T.region (TL.st rfl rfl rfl (o_move rfl rfl) (TL.st rfl rfl rfl (o_ari rfl rfl rfl rfl) (TL.st rfl rfl rfl (o_assign rfl rfl) (TL.nil (thn_normal (T.seq (T.seq (T.region (TL.st rfl rfl rfl (o_move rfl rfl) (TL.st rfl rfl rfl (o_move rfl rfl) (TL.st rfl rfl rfl (o_lenS rfl rfl rfl) ?_))))))))))))
      refine TL.st rfl rfl rfl (o_ari rfl rfl rfl rfl) (TL.st rfl rfl rfl (o_move rfl rfl) (TL.gcq rfl rfl rfl (.bool _) rfl rfl (fun h => o_move rfl rfl) (TL.gcq rfl rfl rfl (.bool _) rfl rfl (fun h => o_move rfl rfl) ?_)))
      obtain ⟨b12, h13, H⟩ := bind_s H
      refine TL.gcq rfl rfl rfl (.bool _) rfl rfl (fun h => o_ixs rfl rfl (gv h rfl) (gv h rfl) (gdO_t h13 h)) ?_
      refine TL.gcq rfl rfl rfl (.bool _) rfl rfl (fun h => o_ari rfl (gv h rfl) rfl rfl) ?_
      refine TL.gcq rfl rfl rfl (.bool _) rfl rfl (fun h => o_move rfl (gv h rfl)) ?_
      refine TL.gcq rfl rfl rfl (.gd _ _) rfl rfl (fun h => o_move rfl rfl) ?_
      refine TL.gcq rfl rfl rfl (.gd _ _) rfl rfl (fun h => o_move rfl rfl) ?_
      obtain ⟨b14, h15, H⟩ := bind_s H
      refine TL.gcq rfl rfl rfl (.gd _ _) rfl rfl (fun h => o_ixs rfl rfl (gv h rfl) (gv h rfl) (gdO_t h15 h)) ?_
      refine TL.gcq rfl rfl rfl (.gd _ _) rfl rfl (fun h => o_ari rfl (gv h rfl) rfl rfl) ?_
      refine TL.gcq rfl rfl rfl (.bool _) rfl rfl (fun h => o_and rfl (gv h rfl) rfl (fun k => Gd_t (andi h k)) rfl) ?_
      refine TL.st rfl rfl rfl (o_or rfl rfl rfl rfl (fun k => Gd_t k)) (TL.nil (thn_normal ?_))
      refine T.cond ((((IntKind.i64.wrap (v2 + 1)) == (a0.size : Int)) || ((b12 != 42) && (b14 != 92)))) rfl (fun h => ?_) (fun h => ?_)
      ·replace H := cond_t h H
       refine T.seq (T.region (TL.st rfl rfl rfl (o_assign rfl rfl) (TL.st rfl rfl rfl (o_assign rfl rfl) (TL.nil (thn_normal (T.ret (thn_ret (inB_ret (inB_ret ?_)))))))))
       refine Pk.id (thn_ret ?_)
       exact Pk.id (thn_ret ⟨.inr (([] : List Int), false), (some_i H).symm, rfl, ⟨trivial, _, (.tmp _ _ _ _ rfl (.tmp _ _ _ _ rfl .nil)), (.tupL (.cons _ _ _ _ .nil (.cons _ _ _ _ (.cl _ rfl) .nil)))⟩⟩)
      ·replace H := cond_f h H
       refine T.skip (thn_normal (T.region (TL.st rfl rfl rfl (o_move rfl rfl) (TL.st rfl rfl rfl (o_move rfl rfl) (TL.st rfl rfl rfl (o_move rfl rfl) ?_)))))
       obtain ⟨b16, h17, H⟩ := bind_s H
       refine TL.st rfl rfl rfl (o_ixs rfl rfl rfl rfl h17) ?_
       refine TL.st rfl rfl rfl (o_conv rfl rfl ⟨_, rfl⟩ rfl) ?_
       refine TL.st rfl rfl rfl (o_sliceIm rfl rfl tyS_3 ⟨_, rfl, rfl⟩ (by decide) rfl rfl rfl rfl rfl rfl) ?_
       obtain ⟨l18, h19, H⟩ := bind_s H
       refine TL.st rfl rfl rfl (o_ap (f := c_int .i64) (xs := l1) (ys := ([(IntKind.i64.wrap b16)] : List Int)) rfl rfl tyE_3 rfl rfl rfl rfl (by decide) rfl (fun _ => rfl) h19) ?_
       refine TL.st rfl rfl rfl (o_assign rfl rfl) (TL.nil (inB_normal (inB_normal ?_)))
       exact Pk.go (fr' := [(0, .str a0), (4, .hd 0 (l18.map (c_int .i64)).length 0 (l18.map (c_int .i64)).length), (5, .int .i64 (IntKind.i64.wrap (v2 + 1)))]) (σ' := [.arr .clo 1 (l18.map (c_int .i64))]) _ rfl rfl ⟨trivial, trivial⟩ (.cons 0 _ (.str a0) _ rfl (.same _) rfl (.cons 4 _ (.hd 0 (l18.map (c_int .i64)).length 0 (l18.map (c_int .i64)).length) _ rfl (.same _) rfl (.cons 5 _ (.int .i64 (IntKind.i64.wrap (v2 + 1))) _ rfl (.same _) rfl .nil))) (thn_normal ⟨l18, (IntKind.i64.wrap (v2 + 1)), rfl, rfl, H⟩)
     ·replace H := cond_f h H
      refine T.region (TL.st rfl rfl rfl (o_move rfl rfl) (TL.st rfl rfl rfl (o_move rfl rfl) (TL.st rfl rfl rfl (o_move rfl rfl) ?_)))
      obtain ⟨b20, h21, H⟩ := bind_s H
      refine TL.st rfl rfl rfl (o_ixs rfl rfl rfl rfl h21) ?_
      refine TL.st rfl rfl rfl (o_conv rfl rfl ⟨_, rfl⟩ rfl) ?_
      refine TL.st rfl rfl rfl (o_sliceIm rfl rfl tyS_3 ⟨_, rfl, rfl⟩ (by decide) rfl rfl rfl rfl rfl rfl) ?_
      obtain ⟨l22, h23, H⟩ := bind_s H
      refine TL.st rfl rfl rfl (o_ap (f := c_int .i64) (xs := l1) (ys := ([(IntKind.i64.wrap b20)] : List Int)) rfl rfl tyE_3 rfl rfl rfl rfl (by decide) rfl (fun _ => rfl) h23) ?_
      refine TL.st rfl rfl rfl (o_assign rfl rfl) (TL.nil (inB_normal (inB_normal ?_)))
      exact Pk.go (fr' := [(0, .str a0), (4, .hd 0 (l22.map (c_int .i64)).length 0 (l22.map (c_int .i64)).length), (5, .int .i64 v2)]) (σ' := [.arr .clo 1 (l22.map (c_int .i64))]) _ rfl rfl ⟨trivial, trivial⟩ (.cons 0 _ (.str a0) _ rfl (.same _) rfl (.cons 4 _ (.hd 0 (l22.map (c_int .i64)).length 0 (l22.map (c_int .i64)).length) _ rfl (.same _) rfl (.cons 5 _ (.int .i64 v2) _ rfl (.same _) rfl .nil))) (thn_normal ⟨l22, v2, rfl, rfl, H⟩)
   ·rintro _ _ ⟨l6, v7, rfl, rfl, H⟩
    refine T.region (TL.st rfl rfl rfl (o_move rfl rfl) (TL.st rfl rfl rfl (o_ari rfl rfl rfl rfl) (TL.st rfl rfl rfl (o_assign rfl rfl) (TL.nil ?_))))
    exact Pk.go (fr' := [(0, .str a0), (4, .hd 0 (l6.map (c_int .i64)).length 0 (l6.map (c_int .i64)).length), (5, .int .i64 (IntKind.i64.wrap (v7 + 1)))]) (σ' := [.arr .clo 1 (l6.map (c_int .i64))]) _ rfl rfl ⟨trivial, trivial⟩ (.cons 0 _ (.str a0) _ rfl (.same _) rfl (.cons 4 _ (.hd 0 (l6.map (c_int .i64)).length 0 (l6.map (c_int .i64)).length) _ rfl (.same _) rfl (.cons 5 _ (.int .i64 (IntKind.i64.wrap (v7 + 1))) _ rfl (.same _) rfl .nil))) (thn_normal ⟨(l6, (IntKind.i64.wrap (v7 + 1))), (some_i H).symm, rfl, rfl⟩)
  ·replace H := cond_f h H
   refine T.exit (thn_exit ?_)
   exact Pk.go (fr' := [(4, .hd 0 (l1.map (c_int .i64)).length 0 (l1.map (c_int .i64)).length)]) (σ' := [.arr .clo 1 (l1.map (c_int .i64))]) _ rfl rfl ⟨trivial, trivial⟩ (.cons 4 _ (.hd 0 (l1.map (c_int .i64)).length 0 (l1.map (c_int .i64)).length) _ rfl (.same _) rfl .nil) (thn_exit ⟨.inl l1, (some_i H).symm, rfl, rfl, rfl⟩)
 ·rintro ⟨l1, v2⟩ ⟨l1', v2'⟩; rfl
 ·rintro ⟨l1, v2⟩; exact ⟨trivial, trivial⟩
 ·rintro ⟨l1, v2⟩; exact (.cons _ _ _ rfl rfl (.cons _ _ _ rfl rfl (.cons _ _ _ rfl rfl .nil)))
 ·rcases q24 with l3 | q4
  ·rintro _ _ _ ⟨rfl, rfl, rfl⟩
   refine inB_here (thn_normal (T.seq (T.region (TL.st rfl rfl rfl (o_move rfl rfl) (TL.st rfl rfl rfl (o_assign rfl rfl) (TL.st rfl rfl rfl (o_assign rfl rfl) (TL.nil (thn_normal (T.ret ?_)))))))))
   cases some_i H
   exact ⟨trivial, _, (.tmp _ _ _ _ rfl (.tmp _ _ _ _ rfl .nil)), (.tupL (.cons _ _ _ _ (.own rfl (by decide) rfl) (.cons _ _ _ _ (.cl _ rfl) .nil)))⟩
  ·rintro _ fr1 σ1 ⟨rfl, hr⟩
   refine inB_ret (thn_ret ?_)
   cases some_i H
   exact hr
theorem en_105 (us : Array Value) (w : World) : (callFunc 105 us).run Go.Proofs.Tryz.prog w = .ok (.enter 105 us) w := enters Go.Proofs.Tryz.func105 rfl rfl us w
theorem en_91 (us : Array Value) (w : World) : (callFunc 91 us).run Go.Proofs.Tryz.prog w = .ok (.enter 91 us) w := enters Go.Proofs.Tryz.func91 rfl rfl us w
noncomputable def spec_l10Right_l1 (a0 : T_spec_l10E) (rec_spec_l10Right : T_spec_l10E → Option Bool) : (Bool × Int) → Option ((Bool × Int) ⊕ Bool) := fun s => match s with
  | (v4, v5) => cond (decide (v5 < (a0.kids_.length : Int))) ((idx a0.kids_ v5).bind fun w9 => (dec_T_spec_l10E w9).bind fun e8 => (gdO v4 (rec_spec_l10Right e8)).bind fun r12 => some (.inl (((v4 && r12) && ((a0.n_.Kind_ != 2) || (e8.n_.Kind_ == 1))), (IntKind.i64.wrap (v5 + 1))))) (some (.inr v4))
noncomputable def spec_l10Right_j1 (a0 : T_spec_l10E) (rec_spec_l10Right : T_spec_l10E → Option Bool) (v3 : Bool) : Option Bool :=
  (loopO (spec_l10Right_l1 a0 rec_spec_l10Right) (v3, 0)).bind fun v6 => (match v6 with | v6 => some v6)
noncomputable def spec_l10Right_j2 (a0 : T_spec_l10E) (rec_spec_l10Right : T_spec_l10E → Option Bool) (v22 : Bool) : Option Bool :=
  cond v22 ((spec_GoodName a0.n_.Text_).bind fun r23 => spec_l10Right_j1 a0 rec_spec_l10Right r23) (cond (a0.n_.Kind_ == 20) ((spec_l1Tokens a0.n_.Text_).bind fun q => (match q with | (r25, r26) => (gdO (r26 && decide ((a0.n_.Text_.size : Int) ≤ 200)) (spec_l1Printed a0.n_.Text_)).bind fun r28 => spec_l10Right_j1 a0 rec_spec_l10Right ((r26 && decide ((a0.n_.Text_.size : Int) ≤ 200)) && r28))) (spec_l10Right_j1 a0 rec_spec_l10Right (a0.n_.Text_.toList == (ByteArray.mk #[]).toList)))
noncomputable def spec_l10Right_b (rec_spec_l10Right : T_spec_l10E → Option Bool) (a0 : T_spec_l10E) : Option Bool :=
  (spec_l10Arity a0.n_.Kind_).bind fun r1 => cond (((r1 == (-1)) || (decide (r1 ≥ 0) && ((a0.kids_.length : Int) != r1))) || ((a0.n_.Kind_ != 1) && (!(a0.n_.Atom_ == (⟨0, 0, (ByteArray.mk #[]), (ByteArray.mk #[])⟩ : T_impl_Atom))))) (some false) (cond (a0.n_.Kind_ == 1) ((gdO (a0.n_.Text_.toList == (ByteArray.mk #[]).toList) (spec_GoodAtom a0.n_.Atom_)).bind fun r16 => spec_l10Right_j1 a0 rec_spec_l10Right ((a0.n_.Text_.toList == (ByteArray.mk #[]).toList) && r16)) (cond (a0.n_.Kind_ == 3) ((spec_l10Vars).bind fun r18 => (spec_l3Has r18 a0.n_.Text_).bind fun r20 => spec_l10Right_j1 a0 rec_spec_l10Right r20) (cond (a0.n_.Kind_ == 4) (spec_l10Right_j2 a0 rec_spec_l10Right (a0.n_.Kind_ == 4)) (cond (a0.n_.Kind_ == 5) (spec_l10Right_j2 a0 rec_spec_l10Right (a0.n_.Kind_ == 5)) (spec_l10Right_j2 a0 rec_spec_l10Right (a0.n_.Kind_ == 21))))))
noncomputable def spec_l10Right (a0 : T_spec_l10E) : Option Bool := fixO (fun rec_spec_l10Right x => match x with | a0 => spec_l10Right_b rec_spec_l10Right a0) a0
theorem spec_l10Right_pb {rec_spec_l10Right : T_spec_l10E → Option Bool} (Hrec_spec_l10Right : ∀ (b0 : Bool) {a0 : T_spec_l10E} {R0 : Bool}, rec_spec_l10Right a0 = some R0 → Pure Go.Proofs.Tryz.prog 91 [.agg (c_T_spec_l10E b0 a0)] (.bool R0)) (b0 : Bool) {a0 : T_spec_l10E} {R0 : Bool} (H : spec_l10Right_b rec_spec_l10Right a0 = some R0) : Pure Go.Proofs.Tryz.prog 91 [.agg (c_T_spec_l10E b0 a0)] (.bool R0) := by
 refine CallT.of_TN (n := 110) Go.Proofs.Tryz.func91 rfl rfl rfl rfl ?_
 refine T.seq (T.region (TL.st rfl rfl rfl (o_box rfl rfl rfl) (TL.st rfl rfl rfl (o_assign rfl rfl) (TL.nil (thn_normal (T.seq (T.region (TL.st rfl rfl rfl (o_fieldAddr rfl rfl rfl tyS_57 (by decide) rfl rfl ⟨_, rfl, Nat.le_of_ble_eq_true rfl⟩) ?_))))))))
 refine TL.st rfl rfl rfl (o_loadBx rfl tyS_57 rfl rfl (Nat.le_of_ble_eq_true rfl) rfl) ?_
 refine TL.st rfl rfl rfl (o_alloc rfl ⟨_, rfl, rfl⟩) (TL.sn rfl rfl (o_storeBx rfl tyS_57 rfl rfl rfl rfl (Nat.le_of_ble_eq_true rfl) rfl) ?_)
 refine TL.nil (thn_normal (T.seq (T.region (TL.st rfl rfl rfl (o_fieldAddr rfl rfl rfl tyS_3 (by decide) rfl rfl ⟨_, rfl, Nat.le_of_ble_eq_true rfl⟩) ?_))))
 refine TL.st rfl rfl rfl (o_loadBx rfl tyS_3 rfl rfl (Nat.le_of_ble_eq_true rfl) rfl) ?_
 obtain ⟨r1, h2, H⟩ := bind_s H
 refine TL.st rfl rfl rfl (o_callP rfl en_102 rfl rfl (.cons _ _ _ _ (.cl _ rfl) .nil) (spec_l10Arity_p  h2)) ?_
 refine TL.st rfl rfl rfl (o_assign rfl rfl) (TL.nil (thn_normal (T.seq (T.seq (T.region (TL.st rfl rfl rfl (o_move rfl rfl) (TL.st rfl rfl rfl (o_ari rfl rfl rfl rfl) (TL.st rfl rfl rfl (o_move rfl rfl) (TL.gcq rfl rfl rfl (.bool _) rfl rfl (fun h => o_move rfl rfl) (TL.gcq rfl rfl rfl (.bool _) rfl rfl (fun h => o_ari rfl (gv h rfl) rfl rfl) ?_))))))))))
 refine TL.gcq rfl rfl rfl (.bool _) rfl rfl (fun h => o_move rfl (gv h rfl)) ?_
 refine TL.gcq rfl rfl rfl (.gd _ _) rfl rfl (fun h => o_fieldAddr rfl rfl rfl tyS_65 (by decide) rfl rfl ⟨_, rfl, Nat.le_of_ble_eq_true rfl⟩) ?_
 refine TL.gcq rfl rfl rfl (.gd _ _) rfl rfl (fun h => o_loadBx rfl tyS_65 (gv h rfl) rfl (Nat.le_of_ble_eq_true rfl) rfl) ?_
 refine TL.gcq rfl rfl rfl (.gd _ _) rfl rfl (fun h => o_lenL (f := c_raw) rfl rfl (gv h rfl)) ?_
 refine TL.gcq rfl rfl rfl (.gd _ _) rfl rfl (fun h => o_move rfl rfl) ?_
 refine TL.gcq rfl rfl rfl (.gd _ _) rfl rfl (fun h => o_ari rfl (gv h rfl) (gv h rfl) rfl) ?_
 refine TL.gcq rfl rfl rfl (.bool _) rfl rfl (fun h => o_and rfl (gv h rfl) rfl (fun k => Gd_t (andi h k)) rfl) ?_
 refine TL.st rfl rfl rfl (o_or rfl rfl rfl rfl (fun k => Gd_t k)) (TL.st rfl rfl rfl (o_move rfl rfl) (TL.gcq rfl rfl rfl (.bool _) rfl rfl (fun h => o_fieldAddr rfl rfl rfl tyS_3 (by decide) rfl rfl ⟨_, rfl, Nat.le_of_ble_eq_true rfl⟩) ?_))
 refine TL.gcq rfl rfl rfl (.bool _) rfl rfl (fun h => o_loadBx rfl tyS_3 (gv h rfl) rfl (Nat.le_of_ble_eq_true rfl) rfl) ?_
 refine TL.gcq rfl rfl rfl (.bool _) rfl rfl (fun h => o_ari rfl (gv h rfl) rfl rfl) ?_
 refine TL.gcq rfl rfl rfl (.bool _) rfl rfl (fun h => o_move rfl (gv h rfl)) ?_
 refine TL.gcq rfl rfl rfl (.gd _ _) rfl rfl (fun h => o_fieldAddr rfl rfl rfl tyS_24 (by decide) rfl rfl ⟨_, rfl, Nat.le_of_ble_eq_true rfl⟩) ?_
 refine TL.gcq rfl rfl rfl (.gd _ _) rfl rfl (fun h => o_loadBx rfl tyS_24 (gv h rfl) rfl (Nat.le_of_ble_eq_true rfl) rfl) ?_
 refine TL.gcq rfl rfl rfl (.gd _ _) rfl rfl (fun h => o_build rfl ⟨_, fun _ => rfl, rfl⟩ rfl rfl rfl) ?_
 refine TL.gcq rfl rfl rfl (.gd _ _) rfl rfl (fun h => o_neA rfl rfl eqG_24 (gv h rfl) (gv h rfl) rfl rfl (eqT_24 a0.n_.Atom_ (⟨0, 0, (ByteArray.mk #[]), (ByteArray.mk #[])⟩ : T_impl_Atom))) ?_
 refine TL.gcq rfl rfl rfl (.bool _) rfl rfl (fun h => o_and rfl (gv h rfl) rfl (fun k => Gd_t (andi h k)) rfl) ?_
 refine TL.st rfl rfl rfl (o_or rfl rfl rfl rfl (fun k => Gd_t k)) (TL.nil (thn_normal ?_))
 refine T.cond ((((r1 == (-1)) || (decide (r1 ≥ 0) && ((a0.kids_.length : Int) != r1))) || ((a0.n_.Kind_ != 1) && (!(a0.n_.Atom_ == (⟨0, 0, (ByteArray.mk #[]), (ByteArray.mk #[])⟩ : T_impl_Atom)))))) rfl (fun h => ?_) (fun h => ?_)
 ·replace H := cond_t h H
  refine T.seq (T.region (TL.st rfl rfl rfl (o_assign rfl rfl) (TL.nil (thn_normal (T.ret (thn_ret ?_))))))
  cases some_i H
  exact ⟨trivial, _, (.tmp _ _ _ _ rfl .nil), (.cl _ rfl)⟩
 ·replace H := cond_f h H
  refine T.skip (thn_normal (T.seq (T.region (TL.st rfl rfl rfl (o_fieldAddr rfl rfl rfl tyS_9 (by decide) rfl rfl ⟨_, rfl, Nat.le_of_ble_eq_true rfl⟩) ?_))))
  refine TL.st rfl rfl rfl (o_loadBx rfl tyS_9 rfl rfl (Nat.le_of_ble_eq_true rfl) rfl) ?_
  refine TL.st rfl rfl rfl (o_str rfl rfl rfl rfl) ?_
  refine TL.st rfl rfl rfl (o_assign rfl rfl) (TL.nil (thn_normal (T.cut (fun fr' σ' => ∃ (v3 : Bool), fr' = [(1, .bx 0 0), (3, .bx 1 0), (5, .bool v3)] ∧ σ' = [.box (c_T_spec_l10E b0 a0), .box (c_T_impl_Expr b0 a0.n_)] ∧ spec_l10Right_j1 a0 rec_spec_l10Right v3 = some R0) (T.pk ?_) ?_)))
  ·skip
   refine T.seq (T.region (TL.st rfl rfl rfl (o_fieldAddr rfl rfl rfl tyS_3 (by decide) rfl rfl ⟨_, rfl, Nat.le_of_ble_eq_true rfl⟩) ?_))
   refine TL.st rfl rfl rfl (o_loadBx rfl tyS_3 rfl rfl (Nat.le_of_ble_eq_true rfl) rfl) ?_
   refine TL.nil (thn_normal (T.block (T.seq (T.region (TL.st rfl rfl rfl (o_ari rfl rfl rfl rfl) (TL.st rfl rfl rfl (o_assign rfl rfl) (TL.nil (thn_normal ?_))))))))
   refine T.cond ((a0.n_.Kind_ == 1)) rfl (fun h => ?_) (fun h => ?_)
   ·replace H := cond_t h H
    refine T.region (TL.st rfl rfl rfl (o_move rfl rfl) (TL.st rfl rfl rfl (o_move rfl rfl) (TL.gcq rfl rfl rfl (.bool _) rfl rfl (fun h => o_fieldAddr rfl rfl rfl tyS_24 (by decide) rfl rfl ⟨_, rfl, Nat.le_of_ble_eq_true rfl⟩) ?_)))
    refine TL.gcq rfl rfl rfl (.bool _) rfl rfl (fun h => o_loadBx rfl tyS_24 (gv h rfl) rfl (Nat.le_of_ble_eq_true rfl) rfl) ?_
    obtain ⟨r16, h17, H⟩ := bind_s H
    refine TL.gcq rfl rfl rfl (.bool _) rfl rfl (fun h => o_callP rfl en_26 rfl (evl_1 (gv h rfl)) (.cons _ _ _ _ (.cl _ rfl) .nil) (spec_GoodAtom_p  (gdO_t h17 h))) ?_
    refine TL.st rfl rfl rfl (o_and rfl rfl rfl (fun k => Gd_t k) rfl) (TL.st rfl rfl rfl (o_assign rfl rfl) (TL.nil (inB_normal ?_)))
    exact Pk.go (fr' := [(1, .bx 0 0), (3, .bx 1 0), (5, .bool ((a0.n_.Text_.toList == (ByteArray.mk #[]).toList) && r16))]) (σ' := [.box (c_T_spec_l10E b0 a0), .box (c_T_impl_Expr b0 a0.n_)]) _ rfl rfl ⟨(bels_iff.1 rfl), ⟨(bels_iff.1 rfl), trivial⟩⟩ (.cons 1 _ (.bx 0 0) _ rfl (.same _) rfl (.cons 3 _ (.bx 1 0) _ rfl (.same _) rfl (.cons 5 _ (.bool ((a0.n_.Text_.toList == (ByteArray.mk #[]).toList) && r16)) _ rfl (.same _) rfl .nil))) (thn_normal ⟨((a0.n_.Text_.toList == (ByteArray.mk #[]).toList) && r16), rfl, rfl, H⟩)
   ·replace H := cond_f h H
    refine T.seq (T.region (TL.st rfl rfl rfl (o_ari rfl rfl rfl rfl) (TL.st rfl rfl rfl (o_assign rfl rfl) (TL.nil (thn_normal ?_)))))
    refine T.cond ((a0.n_.Kind_ == 3)) rfl (fun h => ?_) (fun h => ?_)
    ·replace H := cond_t h H
     refine T.drawn rfl ?_
     obtain ⟨r18, h19, H⟩ := bind_s H
     refine TD.qs rfl rfl (fun _ => o_callP rfl en_104 rfl rfl .nil (spec_l10Vars_p  h19)) ?_
     refine TD.rs rfl rfl (o_fieldAddr rfl rfl rfl tyS_9 (by decide) rfl rfl ⟨_, rfl, Nat.le_of_ble_eq_true rfl⟩) ?_
     refine TD.rs rfl rfl (o_loadBx rfl tyS_9 rfl rfl (Nat.le_of_ble_eq_true rfl) rfl) ?_
     obtain ⟨r20, h21, H⟩ := bind_s H
     refine TD.qs rfl rfl (fun _ => o_callP rfl en_103 rfl rfl (.cons _ _ _ _ (.cl _ rfl) (.cons _ _ _ _ (.cl _ rfl) .nil)) (spec_l3Has_p false h21)) ?_
     refine TD.qs rfl rfl (fun _ => o_assign rfl rfl) ?_
     refine TD.nil ⟨rfl, ?_⟩
     refine inB_normal ?_
     exact Pk.go (fr' := [(1, .bx 0 0), (3, .bx 1 0), (5, .bool r20)]) (σ' := [.box (c_T_spec_l10E b0 a0), .box (c_T_impl_Expr b0 a0.n_)]) _ rfl rfl ⟨(bels_iff.1 rfl), ⟨(bels_iff.1 rfl), trivial⟩⟩ (.cons 1 _ (.bx 0 0) _ rfl (.same _) rfl (.cons 3 _ (.bx 1 0) _ rfl (.same _) rfl (.cons 5 _ (.bool r20) _ rfl (.same _) rfl .nil))) (thn_normal ⟨r20, rfl, rfl, H⟩)
    ·replace H := cond_f h H
     refine T.cut (fun fr' σ' => ∃ (v22 : Bool), fr' = [(1, .bx 0 0), (3, .bx 1 0), (5, .bool (a0.n_.Text_.toList == (ByteArray.mk #[]).toList)), (43, .int .i64 a0.n_.Kind_), (58, .bool v22)] ∧ σ' = [.box (c_T_spec_l10E b0 a0), .box (c_T_impl_Expr b0 a0.n_)] ∧ spec_l10Right_j2 a0 rec_spec_l10Right v22 = some R0) (T.pk ?_) ?_
     ·skip
      refine T.seq (T.region (TL.st rfl rfl rfl (o_ari rfl rfl rfl rfl) (TL.st rfl rfl rfl (o_assign rfl rfl) (TL.nil (thn_normal ?_)))))
      refine T.cond ((a0.n_.Kind_ == 4)) rfl (fun h => ?_) (fun h => ?_)
      ·replace H := cond_t h H
       refine T.skip ?_
       exact Pk.go (fr' := [(1, .bx 0 0), (3, .bx 1 0), (5, .bool (a0.n_.Text_.toList == (ByteArray.mk #[]).toList)), (43, .int .i64 a0.n_.Kind_), (58, .bool (a0.n_.Kind_ == 4))]) (σ' := [.box (c_T_spec_l10E b0 a0), .box (c_T_impl_Expr b0 a0.n_)]) _ rfl rfl ⟨(bels_iff.1 rfl), ⟨(bels_iff.1 rfl), trivial⟩⟩ (.cons 1 _ (.bx 0 0) _ rfl (.same _) rfl (.cons 3 _ (.bx 1 0) _ rfl (.same _) rfl (.cons 5 _ (.bool (a0.n_.Text_.toList == (ByteArray.mk #[]).toList)) _ rfl (.same _) rfl (.cons 43 _ (.int .i64 a0.n_.Kind_) _ rfl (.same _) rfl (.cons 58 _ (.bool (a0.n_.Kind_ == 4)) _ rfl (.same _) rfl .nil))))) (thn_normal ⟨(a0.n_.Kind_ == 4), rfl, rfl, H⟩)
      ·replace H := cond_f h H
       refine T.seq (T.region (TL.st rfl rfl rfl (o_ari rfl rfl rfl rfl) (TL.st rfl rfl rfl (o_assign rfl rfl) (TL.nil (thn_normal ?_)))))
       refine T.cond ((a0.n_.Kind_ == 5)) rfl (fun h => ?_) (fun h => ?_)
       ·replace H := cond_t h H
        refine T.skip ?_
        exact Pk.go (fr' := [(1, .bx 0 0), (3, .bx 1 0), (5, .bool (a0.n_.Text_.toList == (ByteArray.mk #[]).toList)), (43, .int .i64 a0.n_.Kind_), (58, .bool (a0.n_.Kind_ == 5))]) (σ' := [.box (c_T_spec_l10E b0 a0), .box (c_T_impl_Expr b0 a0.n_)]) _ rfl rfl ⟨(bels_iff.1 rfl), ⟨(bels_iff.1 rfl), trivial⟩⟩ (.cons 1 _ (.bx 0 0) _ rfl (.same _) rfl (.cons 3 _ (.bx 1 0) _ rfl (.same _) rfl (.cons 5 _ (.bool (a0.n_.Text_.toList == (ByteArray.mk #[]).toList)) _ rfl (.same _) rfl (.cons 43 _ (.int .i64 a0.n_.Kind_) _ rfl (.same _) rfl (.cons 58 _ (.bool (a0.n_.Kind_ == 5)) _ rfl (.same _) rfl .nil))))) (thn_normal ⟨(a0.n_.Kind_ == 5), rfl, rfl, H⟩)
       ·replace H := cond_f h H
        refine T.region (TL.st rfl rfl rfl (o_ari rfl rfl rfl rfl) (TL.st rfl rfl rfl (o_assign rfl rfl) (TL.nil ?_)))
        exact Pk.go (fr' := [(1, .bx 0 0), (3, .bx 1 0), (5, .bool (a0.n_.Text_.toList == (ByteArray.mk #[]).toList)), (43, .int .i64 a0.n_.Kind_), (58, .bool (a0.n_.Kind_ == 21))]) (σ' := [.box (c_T_spec_l10E b0 a0), .box (c_T_impl_Expr b0 a0.n_)]) _ rfl rfl ⟨(bels_iff.1 rfl), ⟨(bels_iff.1 rfl), trivial⟩⟩ (.cons 1 _ (.bx 0 0) _ rfl (.same _) rfl (.cons 3 _ (.bx 1 0) _ rfl (.same _) rfl (.cons 5 _ (.bool (a0.n_.Text_.toList == (ByteArray.mk #[]).toList)) _ rfl (.same _) rfl (.cons 43 _ (.int .i64 a0.n_.Kind_) _ rfl (.same _) rfl (.cons 58 _ (.bool (a0.n_.Kind_ == 21)) _ rfl (.same _) rfl .nil))))) (thn_normal ⟨(a0.n_.Kind_ == 21), rfl, rfl, H⟩)
     ·rintro _ _ ⟨v22, rfl, rfl, H⟩
      refine T.cond (v22) rfl (fun h => ?_) (fun h => ?_)
      ·replace H := cond_t h H
       refine T.region (TL.st rfl rfl rfl (o_fieldAddr rfl rfl rfl tyS_9 (by decide) rfl rfl ⟨_, rfl, Nat.le_of_ble_eq_true rfl⟩) ?_)
       refine TL.st rfl rfl rfl (o_loadBx rfl tyS_9 rfl rfl (Nat.le_of_ble_eq_true rfl) rfl) ?_
       obtain ⟨r23, h24, H⟩ := bind_s H
       refine TL.st rfl rfl rfl (o_callP rfl en_51 rfl rfl (.cons _ _ _ _ (.cl _ rfl) .nil) (spec_GoodName_p  h24)) ?_
       refine TL.st rfl rfl rfl (o_assign rfl rfl) (TL.nil (inB_normal ?_))
       exact Pk.go (fr' := [(1, .bx 0 0), (3, .bx 1 0), (5, .bool r23)]) (σ' := [.box (c_T_spec_l10E b0 a0), .box (c_T_impl_Expr b0 a0.n_)]) _ rfl rfl ⟨(bels_iff.1 rfl), ⟨(bels_iff.1 rfl), trivial⟩⟩ (.cons 1 _ (.bx 0 0) _ rfl (.same _) rfl (.cons 3 _ (.bx 1 0) _ rfl (.same _) rfl (.cons 5 _ (.bool r23) _ rfl (.same _) rfl .nil))) (thn_normal ⟨r23, rfl, rfl, H⟩)
      ·replace H := cond_f h H
       refine T.seq (T.region (TL.st rfl rfl rfl (o_ari rfl rfl rfl rfl) (TL.st rfl rfl rfl (o_assign rfl rfl) (TL.nil (thn_normal ?_)))))
       refine T.cond ((a0.n_.Kind_ == 20)) rfl (fun h => ?_) (fun h => ?_)
       ·replace H := cond_t h H
        refine T.seq (T.region (TL.st rfl rfl rfl (o_fieldAddr rfl rfl rfl tyS_9 (by decide) rfl rfl ⟨_, rfl, Nat.le_of_ble_eq_true rfl⟩) ?_))
        refine TL.st rfl rfl rfl (o_loadBx rfl tyS_9 rfl rfl (Nat.le_of_ble_eq_true rfl) rfl) ?_
        obtain ⟨⟨r25, r26⟩, h27, H⟩ := bind_s H
        refine TL.st rfl rfl rfl (o_callP rfl en_105 rfl rfl (.cons _ _ _ _ (.cl _ rfl) .nil) (spec_l1Tokens_p  h27)) ?_
        refine TL.st rfl rfl rfl (o_move rfl rfl) (TL.st rfl rfl rfl (o_extract rfl rfl rfl) (TL.st rfl rfl rfl (o_extract rfl rfl rfl) (TL.st rfl rfl rfl (o_assign rfl rfl) (TL.st rfl rfl rfl (o_assign rfl rfl) (TL.nil (thn_normal (T.region (TL.st rfl rfl rfl (o_move rfl rfl) (TL.st rfl rfl rfl (o_move rfl rfl) (TL.gcq rfl rfl rfl (.bool _) rfl rfl (fun h => o_fieldAddr rfl rfl rfl tyS_9 (by decide) rfl rfl ⟨_, rfl, Nat.le_of_ble_eq_true rfl⟩) ?_))))))))))
        refine TL.gcq rfl rfl rfl (.bool _) rfl rfl (fun h => o_loadBx rfl tyS_9 (gv h rfl) rfl (Nat.le_of_ble_eq_true rfl) rfl) ?_
        refine TL.gcq rfl rfl rfl (.bool _) rfl rfl (fun h => o_lenS rfl rfl (gv h rfl)) ?_
        refine TL.gcq rfl rfl rfl (.bool _) rfl rfl (fun h => o_ari rfl (gv h rfl) rfl rfl) ?_
        refine TL.st rfl rfl rfl (o_and rfl rfl rfl (fun k => Gd_t k) rfl) (TL.st rfl rfl rfl (o_move rfl rfl) (TL.gcq rfl rfl rfl (.bool _) rfl rfl (fun h => o_fieldAddr rfl rfl rfl tyS_9 (by decide) rfl rfl ⟨_, rfl, Nat.le_of_ble_eq_true rfl⟩) ?_))
        refine TL.gcq rfl rfl rfl (.bool _) rfl rfl (fun h => o_loadBx rfl tyS_9 (gv h rfl) rfl (Nat.le_of_ble_eq_true rfl) rfl) ?_
        obtain ⟨r28, h29, H⟩ := bind_s H
        refine TL.gcq rfl rfl rfl (.bool _) rfl rfl (fun h => o_callP rfl en_50 rfl (evl_1 (gv h rfl)) (.cons _ _ _ _ (.cl _ rfl) .nil) (spec_l1Printed_p  (gdO_t h29 h))) ?_
        refine TL.st rfl rfl rfl (o_and rfl rfl rfl (fun k => Gd_t k) rfl) (TL.st rfl rfl rfl (o_assign rfl rfl) (TL.nil (inB_normal ?_)))
        exact Pk.go (fr' := [(1, .bx 0 0), (3, .bx 1 0), (5, .bool ((r26 && decide ((a0.n_.Text_.size : Int) ≤ 200)) && r28))]) (σ' := [.box (c_T_spec_l10E b0 a0), .box (c_T_impl_Expr b0 a0.n_)]) _ rfl rfl ⟨(bels_iff.1 rfl), ⟨(bels_iff.1 rfl), trivial⟩⟩ (.cons 1 _ (.bx 0 0) _ rfl (.same _) rfl (.cons 3 _ (.bx 1 0) _ rfl (.same _) rfl (.cons 5 _ (.bool ((r26 && decide ((a0.n_.Text_.size : Int) ≤ 200)) && r28)) _ rfl (.same _) rfl .nil))) (thn_normal ⟨((r26 && decide ((a0.n_.Text_.size : Int) ≤ 200)) && r28), rfl, rfl, H⟩)
       ·replace H := cond_f h H
        refine T.skip (inB_normal ?_)
        exact Pk.go (fr' := [(1, .bx 0 0), (3, .bx 1 0), (5, .bool (a0.n_.Text_.toList == (ByteArray.mk #[]).toList))]) (σ' := [.box (c_T_spec_l10E b0 a0), .box (c_T_impl_Expr b0 a0.n_)]) _ rfl rfl ⟨(bels_iff.1 rfl), ⟨(bels_iff.1 rfl), trivial⟩⟩ (.cons 1 _ (.bx 0 0) _ rfl (.same _) rfl (.cons 3 _ (.bx 1 0) _ rfl (.same _) rfl (.cons 5 _ (.bool (a0.n_.Text_.toList == (ByteArray.mk #[]).toList)) _ rfl (.same _) rfl .nil))) (thn_normal ⟨(a0.n_.Text_.toList == (ByteArray.mk #[]).toList), rfl, rfl, H⟩)
  ·rintro _ _ ⟨v3, rfl, rfl, H⟩
   refine T.seq (T.seq (T.region (TL.st rfl rfl rfl (o_fieldAddr rfl rfl rfl tyS_65 (by decide) rfl rfl ⟨_, rfl, Nat.le_of_ble_eq_true rfl⟩) ?_)))
   refine TL.st rfl rfl rfl (o_loadBx rfl tyS_65 rfl rfl (Nat.le_of_ble_eq_true rfl) rfl) ?_
   refine TL.st rfl rfl rfl (o_lenL (f := c_raw) rfl rfl rfl) ?_
   refine TL.st rfl rfl rfl (o_move rfl rfl) (TL.nil (thn_normal (T.block ?_)))
   obtain ⟨v6, h15, H⟩ := bind_s H
   refine T.to (.cons 3 _ (.bx 1 0) _ rfl (.same _) rfl (.cons 5 _ (.bool v3) _ rfl (.same _) rfl (.cons 86 _ (.im b0 (a0.kids_.map (c_raw))) _ rfl (.same _) rfl (.cons 87 _ (.int .i64 (a0.kids_.length : Int)) _ rfl (.same _) rfl (.cons 88 _ (.int .i64 0) _ rfl (.same _) rfl .nil))))) ?_
   refine T.lp (fun s => match s with | (v4, v5) => [(3, .bx 1 0), (5, .bool v4), (86, .im b0 (a0.kids_.map (c_raw))), (87, .int .i64 (a0.kids_.length : Int)), (88, .int .i64 v5)]) (fun s => match s with | (v4, v5) => [.box (c_T_spec_l10E b0 a0), .box (c_T_impl_Expr b0 a0.n_)]) (fun q ex fr σ => match q with | v6 => ex = .exit 1 ∧ fr = [(5, .bool v6)] ∧ σ = [.box (c_T_spec_l10E b0 a0), .box (c_T_impl_Expr b0 a0.n_)]) h15 ?_ ?_ ?_ ?_ ?_
   ·rintro ⟨v4, v5⟩ y7 H
    refine T.seq (T.region (TL.st rfl rfl rfl (o_ari rfl rfl rfl rfl) (TL.nil (thn_normal (T.seq ?_)))))
    refine T.cond (decide (v5 < (a0.kids_.length : Int))) rfl (fun h => ?_) (fun h => ?_)
    ·replace H := cond_t h H
     refine T.skip (thn_normal (T.seq (T.block (T.seq (T.region ?_)))))
     obtain ⟨w9, h10, H⟩ := bind_s H
     obtain ⟨e8, h11, H⟩ := bind_s H
     refine TL.st rfl rfl rfl (o_ixR (f := c_raw) rfl rfl tyS_67 rfl rfl h10 (dec_T_spec_l10E_s h11) rfl) ?_
     refine TL.st rfl rfl rfl (o_loadRf rfl tyS_67 rfl (Nat.le_of_ble_eq_true rfl) rfl) ?_
     refine TL.st rfl rfl rfl (o_alloc rfl ⟨_, rfl, rfl⟩) (TL.sn rfl rfl (o_storeBx rfl tyS_67 rfl rfl rfl rfl (Nat.le_of_ble_eq_true rfl) rfl) ?_)
     refine TL.nil (thn_normal (T.region (TL.st rfl rfl rfl (o_move rfl rfl) (TL.st rfl rfl rfl (o_move rfl rfl) (TL.gcq rfl rfl rfl (.bool _) rfl rfl (fun h => o_loadBx rfl tyS_67 rfl rfl (Nat.le_of_ble_eq_true rfl) rfl) ?_)))))
     obtain ⟨r12, h13, H⟩ := bind_s H
     refine TL.gcq rfl rfl rfl (.bool _) rfl rfl (fun h => o_callP rfl en_91 rfl (evl_1 (gv h rfl)) (.cons _ _ _ _ (.cl _ rfl) .nil) (Hrec_spec_l10Right false (gdO_t h13 h))) ?_
     refine TL.st rfl rfl rfl (o_and rfl rfl rfl (fun k => Gd_t k) rfl) (TL.st rfl rfl rfl (o_move rfl rfl) (TL.gcq rfl rfl rfl (.bool _) rfl rfl (fun h => o_fieldAddr rfl rfl rfl tyS_3 (by decide) rfl rfl ⟨_, rfl, Nat.le_of_ble_eq_true rfl⟩) ?_))
     refine TL.gcq rfl rfl rfl (.bool _) rfl rfl (fun h => o_loadBx rfl tyS_3 (gv h rfl) rfl (Nat.le_of_ble_eq_true rfl) rfl) ?_
     refine TL.gcq rfl rfl rfl (.bool _) rfl rfl (fun h => o_ari rfl (gv h rfl) rfl rfl) ?_
     refine TL.gcq rfl rfl rfl (.bool _) rfl rfl (fun h => o_move rfl (gv h rfl)) ?_
     refine TL.gcq rfl rfl rfl (.gd _ _) rfl rfl (fun h => o_fieldAddr rfl rfl rfl tyS_57 (by decide) rfl rfl ⟨_, rfl, Nat.le_of_ble_eq_true rfl⟩) ?_
     refine TL.gcq rfl rfl rfl (.gd _ _) rfl rfl (fun h => o_fieldAddr rfl rfl rfl tyS_3 (by decide) (gv h rfl) rfl ⟨_, rfl, Nat.le_of_ble_eq_true rfl⟩) ?_
     refine TL.gcq rfl rfl rfl (.gd _ _) rfl rfl (fun h => o_loadBx rfl tyS_3 (gv h rfl) rfl (Nat.le_of_ble_eq_true rfl) rfl) ?_
     refine TL.gcq rfl rfl rfl (.gd _ _) rfl rfl (fun h => o_ari rfl (gv h rfl) rfl rfl) ?_
     refine TL.gcq rfl rfl rfl (.bool _) rfl rfl (fun h => o_or rfl (gv h rfl) rfl rfl (fun k => Gd_t (andi h k))) ?_
     refine TL.st rfl rfl rfl (o_and rfl rfl rfl (fun k => Gd_t k) rfl) (TL.st rfl rfl rfl (o_assign rfl rfl) (TL.nil (inB_normal (thn_normal (T.region (TL.st rfl rfl rfl (o_ari rfl rfl rfl rfl) (TL.st rfl rfl rfl (o_move rfl rfl) (TL.nil ?_))))))))
     exact Pk.go (fr' := [(3, .bx 1 0), (5, .bool ((v4 && r12) && ((a0.n_.Kind_ != 2) || (e8.n_.Kind_ == 1)))), (86, .im b0 (a0.kids_.map (c_raw))), (87, .int .i64 (a0.kids_.length : Int)), (88, .int .i64 (IntKind.i64.wrap (v5 + 1)))]) (σ' := [.box (c_T_spec_l10E b0 a0), .box (c_T_impl_Expr b0 a0.n_)]) _ rfl rfl ⟨(bels_iff.1 rfl), ⟨(bels_iff.1 rfl), trivial⟩⟩ (.cons 3 _ (.bx 1 0) _ rfl (.same _) rfl (.cons 5 _ (.bool ((v4 && r12) && ((a0.n_.Kind_ != 2) || (e8.n_.Kind_ == 1)))) _ rfl (.same _) rfl (.cons 86 _ (.im b0 (a0.kids_.map (c_raw))) _ rfl (.same _) rfl (.cons 87 _ (.int .i64 (a0.kids_.length : Int)) _ rfl (.same _) rfl (.cons 88 _ (.int .i64 (IntKind.i64.wrap (v5 + 1))) _ rfl (.same _) rfl .nil))))) (thn_normal ⟨(((v4 && r12) && ((a0.n_.Kind_ != 2) || (e8.n_.Kind_ == 1))), (IntKind.i64.wrap (v5 + 1))), (some_i H).symm, rfl, rfl⟩)
    ·replace H := cond_f h H
     refine T.exit (thn_exit ?_)
     exact Pk.go (fr' := [(5, .bool v4)]) (σ' := [.box (c_T_spec_l10E b0 a0), .box (c_T_impl_Expr b0 a0.n_)]) _ rfl rfl ⟨(bels_iff.1 rfl), ⟨(bels_iff.1 rfl), trivial⟩⟩ (.cons 5 _ (.bool v4) _ rfl (.same _) rfl .nil) (thn_exit ⟨v4, (some_i H).symm, rfl, rfl, rfl⟩)
   ·rintro ⟨v4, v5⟩ ⟨v4', v5'⟩; rfl
   ·rintro ⟨v4, v5⟩; exact ⟨(bels_iff.1 rfl), ⟨(bels_iff.1 rfl), trivial⟩⟩
   ·rintro ⟨v4, v5⟩; exact (.cons _ _ _ rfl rfl (.cons _ _ _ rfl rfl (.cons _ _ _ rfl rfl (.cons _ _ _ rfl rfl (.cons _ _ _ rfl rfl .nil)))))
   ·rintro _ _ _ ⟨rfl, rfl, rfl⟩
    refine inB_here (thn_normal (T.seq (T.region (TL.st rfl rfl rfl (o_move rfl rfl) (TL.st rfl rfl rfl (o_assign rfl rfl) (TL.nil (thn_normal (T.ret ?_))))))))
    cases some_i H
    exact ⟨trivial, _, (.tmp _ _ _ _ rfl .nil), (.cl _ rfl)⟩
theorem spec_l10Right_p (b0 : Bool) {a0 : T_spec_l10E} {R0 : Bool} (H : spec_l10Right a0 = some R0) : Pure Go.Proofs.Tryz.prog 91 [.agg (c_T_spec_l10E b0 a0)] (.bool R0) :=
 fixO_ind (fun x r => match x, r with | a0, R0 => ∀ (b0 : Bool), Pure Go.Proofs.Tryz.prog 91 [.agg (c_T_spec_l10E b0 a0)] (.bool R0)) (fun rec_spec_l10Right Hrec x r h => match x, r, h with | a0, R0, h => fun b0 => spec_l10Right_pb (fun b0 {a0} {R0} h => Hrec a0 R0 h b0) b0 h) H b0
noncomputable def spec_l10Tree (a0 : (List T_impl_Expr)) : Option (T_spec_l10E × Bool) :=
  cond (decide ((a0.length : Int) < 1) || decide ((a0.length : Int) > 60)) (some ((⟨(⟨0, (ByteArray.mk #[]), (⟨0, 0, (ByteArray.mk #[]), (ByteArray.mk #[])⟩ : T_impl_Atom), 0⟩ : T_impl_Expr), ([] : List (List V))⟩ : T_spec_l10E), false)) ((spec_l10Take a0 0 1).bind fun q => (match q with | (r1, r2) => (gdO (r2 == (a0.length : Int)) (spec_l10Right r1)).bind fun r4 => some (r1, ((r2 == (a0.length : Int)) && r4))))
theorem spec_l10Tree_p (b0 : Bool) {a0 : (List T_impl_Expr)} {R0 : T_spec_l10E} {R1 : Bool} (H : spec_l10Tree a0 = some (R0, R1)) : Pure Go.Proofs.Tryz.prog 73 [.im b0 (a0.map (c_T_impl_Expr false))] (.tup [.agg (c_T_spec_l10E false R0), .bool R1]) := by
 refine CallT.of_TN (n := 29) Go.Proofs.Tryz.func73 rfl rfl rfl rfl ?_
 refine T.seq (T.region (TL.st rfl rfl rfl (o_alloc rfl ⟨_, rfl, rfl⟩) (TL.st rfl rfl rfl (o_assign rfl rfl) (TL.nil (thn_normal (T.seq (T.seq (T.region (TL.st rfl rfl rfl (o_move rfl rfl) (TL.st rfl rfl rfl (o_lenL (f := c_T_impl_Expr false) rfl rfl rfl) ?_))))))))))
 refine TL.st rfl rfl rfl (o_ari rfl rfl rfl rfl) (TL.st rfl rfl rfl (o_move rfl rfl) (TL.gcq rfl rfl rfl (.bool _) rfl rfl (fun h => o_move rfl rfl) (TL.gcq rfl rfl rfl (.bool _) rfl rfl (fun h => o_lenL (f := c_T_impl_Expr false) rfl rfl (gv h rfl)) ?_)))
 refine TL.gcq rfl rfl rfl (.bool _) rfl rfl (fun h => o_ari rfl (gv h rfl) rfl rfl) ?_
 refine TL.st rfl rfl rfl (o_or rfl rfl rfl rfl (fun k => Gd_t k)) (TL.nil (thn_normal ?_))
 refine T.cond ((decide ((a0.length : Int) < 1) || decide ((a0.length : Int) > 60))) rfl (fun h => ?_) (fun h => ?_)
 ·replace H := cond_t h H
  refine T.seq (T.region (TL.st rfl rfl rfl (o_build rfl ⟨_, fun _ => rfl, rfl⟩ rfl rfl rfl) ?_))
  refine TL.sn rfl rfl (o_storeBx rfl tyS_67 rfl rfl rfl rfl (Nat.le_of_ble_eq_true rfl) rfl) ?_
  refine TL.st rfl rfl rfl (o_assign rfl rfl) (TL.nil (thn_normal (T.ret (thn_ret ?_))))
  cases some_i H
  exact ⟨trivial, _, (.cell _ _ _ _ _ _ _ _ _ _ rfl rfl tyS_67 (Nat.le_of_ble_eq_true rfl) rfl (.tmp _ _ _ _ rfl .nil)), (.tupL (.cons _ _ _ _ (.aggL (.cons _ _ _ _ (.cl _ rfl) (.cons _ _ _ _ (.cl _ rfl) (.cons _ _ _ _ (.cl _ rfl) (.cons _ _ _ _ (.cl _ rfl) (.cons _ _ _ _ (.cl _ rfl) (.cons _ _ _ _ (.cl _ rfl) (.cons _ _ _ _ (.cl _ rfl) (.cons _ _ _ _ .nil .nil))))))))) (.cons _ _ _ _ (.cl _ rfl) .nil)))⟩
 ·replace H := cond_f h H
  refine T.skip (thn_normal (T.seq (T.region (TL.st rfl rfl rfl (o_move rfl rfl) ?_))))
  obtain ⟨⟨r1, r2⟩, h3, H⟩ := bind_s H
  refine TL.st rfl rfl rfl (o_callP rfl en_90 rfl rfl (.cons _ _ _ _ (.imv _ _) (.cons _ _ _ _ (.cl _ rfl) (.cons _ _ _ _ (.cl _ rfl) .nil))) (spec_l10Take_p b0 h3)) ?_
  refine TL.st rfl rfl rfl (o_move rfl rfl) (TL.st rfl rfl rfl (o_extract rfl rfl rfl) (TL.st rfl rfl rfl (o_extract rfl rfl rfl) (TL.st rfl rfl rfl (o_alloc rfl ⟨_, rfl, rfl⟩) (TL.sn rfl rfl (o_storeBx rfl tyS_67 rfl rfl rfl rfl (Nat.le_of_ble_eq_true rfl) rfl) ?_))))
  refine TL.st rfl rfl rfl (o_assign rfl rfl) (TL.nil (thn_normal (T.seq (T.drawn rfl ?_))))
  refine TD.rs rfl rfl (o_loadBx rfl tyS_67 rfl rfl (Nat.le_of_ble_eq_true rfl) rfl) ?_
  refine TD.qs rfl rfl (fun _ => o_move rfl rfl) (TD.qs rfl rfl (fun _ => o_move rfl rfl) (TD.qs rfl rfl (fun _ => o_lenL (f := c_T_impl_Expr false) rfl rfl rfl) ?_))
  refine TD.qs rfl rfl (fun _ => o_ari rfl rfl rfl rfl) ?_
  refine TD.qs rfl rfl (fun _ => o_move rfl rfl) (TD.cr rfl rfl rfl (.bool _) rfl (fun h => o_loadBx rfl tyS_67 rfl rfl (Nat.le_of_ble_eq_true rfl) rfl) ?_)
  obtain ⟨r4, h5, H⟩ := bind_s H
  refine TD.cq rfl rfl rfl (.bool _) rfl (fun h _ => o_callP rfl en_91 rfl (evl_1 (gv h rfl)) (.cons _ _ _ _ (.cl _ rfl) .nil) (spec_l10Right_p false (gdO_t h5 h))) ?_
  refine TD.qs rfl rfl (fun _ => o_and rfl rfl rfl (fun k => Gd_t k) rfl) ?_
  refine TD.an rfl rfl (o_storeBx rfl tyS_67 rfl rfl rfl rfl (Nat.le_of_ble_eq_true rfl) rfl) ?_
  refine TD.qs rfl rfl (fun _ => o_assign rfl rfl) ?_
  refine TD.nil ⟨rfl, ?_⟩
  refine thn_normal (T.ret ?_)
  cases some_i H
  exact ⟨trivial, _, (.cell _ _ _ _ _ _ _ _ _ _ rfl rfl tyS_67 (Nat.le_of_ble_eq_true rfl) rfl (.tmp _ _ _ _ rfl .nil)), (.tupL (.cons _ _ _ _ (.cl _ rfl) (.cons _ _ _ _ (.cl _ rfl) .nil)))⟩
theorem en_73 (us : Array Value) (w : World) : (callFunc 73 us).run Go.Proofs.Tryz.prog w = .ok (.enter 73 us) w := enters Go.Proofs.Tryz.func73 rfl rfl us w
noncomputable def spec_GoodExpr (a0 : (List T_impl_Expr)) : Option Bool :=
  (spec_l10Tree a0).bind fun q => (match q with | (r1, r2) => some r2)
theorem spec_GoodExpr_p (b0 : Bool) {a0 : (List T_impl_Expr)} {R0 : Bool} (H : spec_GoodExpr a0 = some R0) : Pure Go.Proofs.Tryz.prog 47 [.im b0 (a0.map (c_T_impl_Expr false))] (.bool R0) := by
 refine CallT.of_TN (n := 11) Go.Proofs.Tryz.func47 rfl rfl rfl rfl ?_
 refine T.seq (T.region (TL.st rfl rfl rfl (o_assign rfl rfl) (TL.nil (thn_normal (T.seq (T.region (TL.st rfl rfl rfl (o_move rfl rfl) ?_)))))))
 obtain ⟨⟨r1, r2⟩, h3, H⟩ := bind_s H
 refine TL.st rfl rfl rfl (o_callP rfl en_73 rfl rfl (.cons _ _ _ _ (.imv _ _) .nil) (spec_l10Tree_p b0 h3)) ?_
 refine TL.st rfl rfl rfl (o_move rfl rfl) (TL.st rfl rfl rfl (o_extract rfl rfl rfl) (TL.st rfl rfl rfl (o_extract rfl rfl rfl) (TL.st rfl rfl rfl (o_alloc rfl ⟨_, rfl, rfl⟩) (TL.sn rfl rfl (o_storeBx rfl tyS_67 rfl rfl rfl rfl (Nat.le_of_ble_eq_true rfl) rfl) ?_))))
 refine TL.st rfl rfl rfl (o_assign rfl rfl) (TL.nil (thn_normal (T.seq (T.region (TL.st rfl rfl rfl (o_move rfl rfl) (TL.st rfl rfl rfl (o_assign rfl rfl) (TL.nil (thn_normal (T.ret ?_)))))))))
 cases some_i H
 exact ⟨trivial, _, (.tmp _ _ _ _ rfl .nil), (.cl _ rfl)⟩
theorem en_47 (us : Array Value) (w : World) : (callFunc 47 us).run Go.Proofs.Tryz.prog w = .ok (.enter 47 us) w := enters Go.Proofs.Tryz.func47 rfl rfl us w
noncomputable def spec_GoodPolicy (a0 : T_impl_Policy) : Option Bool :=
  (spec_l7Id a0.Id_).bind fun r1 => (gdO r1 (spec_l10GoodHead a0.Principal_ true)).bind fun r3 => (gdO (r1 && r3) (spec_l10GoodHead a0.Action_ false)).bind fun r5 => (gdO ((r1 && r3) && r5) (spec_l10GoodHead a0.Resource_ true)).bind fun r7 => (gdO ((((r1 && r3) && r5) && r7) && (!((a0.When_.length : Int) == 0))) (spec_GoodExpr a0.When_)).bind fun r9 => some ((((r1 && r3) && r5) && r7) && (((a0.When_.length : Int) == 0) || r9))
theorem spec_GoodPolicy_p (b0 : Bool) {a0 : T_impl_Policy} {R0 : Bool} (H : spec_GoodPolicy a0 = some R0) : Pure Go.Proofs.Tryz.prog 24 [.agg (c_T_impl_Policy b0 a0)] (.bool R0) := by
 refine CallT.of_TN (n := 32) Go.Proofs.Tryz.func24 rfl rfl rfl rfl ?_
 refine T.seq (T.region (TL.st rfl rfl rfl (o_box rfl rfl rfl) (TL.st rfl rfl rfl (o_assign rfl rfl) (TL.nil (thn_normal (T.seq (T.region (TL.st rfl rfl rfl (o_fieldAddr rfl rfl rfl tyS_9 (by decide) rfl rfl ⟨_, rfl, Nat.le_of_ble_eq_true rfl⟩) ?_))))))))
 refine TL.st rfl rfl rfl (o_loadBx rfl tyS_9 rfl rfl (Nat.le_of_ble_eq_true rfl) rfl) ?_
 obtain ⟨r1, h2, H⟩ := bind_s H
 refine TL.st rfl rfl rfl (o_callP rfl en_25 rfl rfl (.cons _ _ _ _ (.cl _ rfl) .nil) (spec_l7Id_p  h2)) ?_
 refine TL.st rfl rfl rfl (o_move rfl rfl) (TL.gcq rfl rfl rfl (.bool _) rfl rfl (fun h => o_fieldAddr rfl rfl rfl tyS_26 (by decide) rfl rfl ⟨_, rfl, Nat.le_of_ble_eq_true rfl⟩) ?_)
 refine TL.gcq rfl rfl rfl (.bool _) rfl rfl (fun h => o_loadBx rfl tyS_26 (gv h rfl) rfl (Nat.le_of_ble_eq_true rfl) rfl) ?_
 obtain ⟨r3, h4, H⟩ := bind_s H
 refine TL.gcq rfl rfl rfl (.bool _) rfl rfl (fun h => o_callP rfl en_46 rfl (evl_2 (gv h rfl) rfl) (.cons _ _ _ _ (.cl _ rfl) (.cons _ _ _ _ (.cl _ rfl) .nil)) (spec_l10GoodHead_p  (gdO_t h4 h))) ?_
 refine TL.st rfl rfl rfl (o_and rfl rfl rfl (fun k => Gd_t k) rfl) (TL.st rfl rfl rfl (o_move rfl rfl) (TL.gcq rfl rfl rfl (.bool _) rfl rfl (fun h => o_fieldAddr rfl rfl rfl tyS_26 (by decide) rfl rfl ⟨_, rfl, Nat.le_of_ble_eq_true rfl⟩) ?_))
 refine TL.gcq rfl rfl rfl (.bool _) rfl rfl (fun h => o_loadBx rfl tyS_26 (gv h rfl) rfl (Nat.le_of_ble_eq_true rfl) rfl) ?_
 obtain ⟨r5, h6, H⟩ := bind_s H
 refine TL.gcq rfl rfl rfl (.bool _) rfl rfl (fun h => o_callP rfl en_46 rfl (evl_2 (gv h rfl) rfl) (.cons _ _ _ _ (.cl _ rfl) (.cons _ _ _ _ (.cl _ rfl) .nil)) (spec_l10GoodHead_p  (gdO_t h6 h))) ?_
 refine TL.st rfl rfl rfl (o_and rfl rfl rfl (fun k => Gd_t k) rfl) (TL.st rfl rfl rfl (o_move rfl rfl) (TL.gcq rfl rfl rfl (.bool _) rfl rfl (fun h => o_fieldAddr rfl rfl rfl tyS_26 (by decide) rfl rfl ⟨_, rfl, Nat.le_of_ble_eq_true rfl⟩) ?_))
 refine TL.gcq rfl rfl rfl (.bool _) rfl rfl (fun h => o_loadBx rfl tyS_26 (gv h rfl) rfl (Nat.le_of_ble_eq_true rfl) rfl) ?_
 obtain ⟨r7, h8, H⟩ := bind_s H
 refine TL.gcq rfl rfl rfl (.bool _) rfl rfl (fun h => o_callP rfl en_46 rfl (evl_2 (gv h rfl) rfl) (.cons _ _ _ _ (.cl _ rfl) (.cons _ _ _ _ (.cl _ rfl) .nil)) (spec_l10GoodHead_p  (gdO_t h8 h))) ?_
 refine TL.st rfl rfl rfl (o_and rfl rfl rfl (fun k => Gd_t k) rfl) (TL.st rfl rfl rfl (o_move rfl rfl) (TL.gcq rfl rfl rfl (.bool _) rfl rfl (fun h => o_fieldAddr rfl rfl rfl tyS_27 (by decide) rfl rfl ⟨_, rfl, Nat.le_of_ble_eq_true rfl⟩) ?_))
 refine TL.gcq rfl rfl rfl (.bool _) rfl rfl (fun h => o_loadBx rfl tyS_27 (gv h rfl) rfl (Nat.le_of_ble_eq_true rfl) rfl) ?_
 refine TL.gcq rfl rfl rfl (.bool _) rfl rfl (fun h => o_lenL (f := c_T_impl_Expr false) rfl rfl (gv h rfl)) ?_
 refine TL.gcq rfl rfl rfl (.bool _) rfl rfl (fun h => o_ari rfl (gv h rfl) rfl rfl) ?_
 refine TL.gcq rfl rfl rfl (.bool _) rfl rfl (fun h => o_move rfl (gv h rfl)) ?_
 refine TL.gcq rfl rfl rfl (.gd _ _) rfl rfl (fun h => o_fieldAddr rfl rfl rfl tyS_27 (by decide) rfl rfl ⟨_, rfl, Nat.le_of_ble_eq_true rfl⟩) ?_
 refine TL.gcq rfl rfl rfl (.gd _ _) rfl rfl (fun h => o_loadBx rfl tyS_27 (gv h rfl) rfl (Nat.le_of_ble_eq_true rfl) rfl) ?_
 obtain ⟨r9, h10, H⟩ := bind_s H
 refine TL.gcq rfl rfl rfl (.gd _ _) rfl rfl (fun h => o_callP rfl en_47 rfl (evl_1 (gv h rfl)) (.cons _ _ _ _ (.imv _ _) .nil) (spec_GoodExpr_p b0 (gdO_t h10 h))) ?_
 refine TL.gcq rfl rfl rfl (.bool _) rfl rfl (fun h => o_or rfl (gv h rfl) rfl rfl (fun k => Gd_t (andi h k))) ?_
 refine TL.st rfl rfl rfl (o_and rfl rfl rfl (fun k => Gd_t k) rfl) (TL.st rfl rfl rfl (o_assign rfl rfl) (TL.nil (thn_normal (T.ret ?_))))
 cases some_i H
 exact ⟨trivial, _, (.tmp _ _ _ _ rfl .nil), (.cl _ rfl)⟩
theorem en_24 (us : Array Value) (w : World) : (callFunc 24 us).run Go.Proofs.Tryz.prog w = .ok (.enter 24 us) w := enters Go.Proofs.Tryz.func24 rfl rfl us w
noncomputable def spec_l10Slot (a0 : T_impl_Head) : Option Bool :=
  some ((a0.Kind_ == 5) || (a0.Kind_ == 6))
theorem spec_l10Slot_p  {a0 : T_impl_Head} {R0 : Bool} (H : spec_l10Slot a0 = some R0) : Pure Go.Proofs.Tryz.prog 27 [.agg (c_T_impl_Head false a0)] (.bool R0) := by
 refine CallT.of_TN (n := 11) Go.Proofs.Tryz.func27 rfl rfl rfl rfl ?_
 refine T.seq (T.region (TL.st rfl rfl rfl (o_box rfl rfl rfl) (TL.st rfl rfl rfl (o_assign rfl rfl) (TL.nil (thn_normal (T.seq (T.region (TL.st rfl rfl rfl (o_fieldAddr rfl rfl rfl tyS_3 (by decide) rfl rfl ⟨_, rfl, Nat.le_of_ble_eq_true rfl⟩) ?_))))))))
 refine TL.st rfl rfl rfl (o_loadBx rfl tyS_3 rfl rfl (Nat.le_of_ble_eq_true rfl) rfl) ?_
 refine TL.st rfl rfl rfl (o_ari rfl rfl rfl rfl) (TL.st rfl rfl rfl (o_move rfl rfl) (TL.gcq rfl rfl rfl (.bool _) rfl rfl (fun h => o_fieldAddr rfl rfl rfl tyS_3 (by decide) rfl rfl ⟨_, rfl, Nat.le_of_ble_eq_true rfl⟩) ?_))
 refine TL.gcq rfl rfl rfl (.bool _) rfl rfl (fun h => o_loadBx rfl tyS_3 (gv h rfl) rfl (Nat.le_of_ble_eq_true rfl) rfl) ?_
 refine TL.gcq rfl rfl rfl (.bool _) rfl rfl (fun h => o_ari rfl (gv h rfl) rfl rfl) ?_
 refine TL.st rfl rfl rfl (o_or rfl rfl rfl rfl (fun k => Gd_t k)) (TL.st rfl rfl rfl (o_assign rfl rfl) (TL.nil (thn_normal (T.ret ?_))))
 cases some_i H
 exact ⟨trivial, _, (.tmp _ _ _ _ rfl .nil), (.cl _ rfl)⟩
theorem en_27 (us : Array Value) (w : World) : (callFunc 27 us).run Go.Proofs.Tryz.prog w = .ok (.enter 27 us) w := enters Go.Proofs.Tryz.func27 rfl rfl us w
noncomputable def spec_l10Link (a0 : T_impl_Head) (a1 : T_impl_Atom) : Option T_impl_Head :=
  cond (a0.Kind_ == 5) (some (⟨2, a1, (ByteArray.mk #[])⟩ : T_impl_Head)) (cond (a0.Kind_ == 6) (some (⟨3, a1, (ByteArray.mk #[])⟩ : T_impl_Head)) (some a0))
theorem spec_l10Link_p  {a0 : T_impl_Head} {a1 : T_impl_Atom} {R0 : T_impl_Head} (H : spec_l10Link a0 a1 = some R0) : Pure Go.Proofs.Tryz.prog 28 [.agg (c_T_impl_Head false a0), .agg (c_T_impl_Atom false a1)] (.agg (c_T_impl_Head false R0)) := by
 refine CallT.of_TN (n := 16) Go.Proofs.Tryz.func28 rfl rfl rfl rfl ?_
 refine T.seq (T.region (TL.st rfl rfl rfl (o_box rfl rfl rfl) (TL.st rfl rfl rfl (o_box rfl rfl rfl) (TL.st rfl rfl rfl (o_alloc rfl ⟨_, rfl, rfl⟩) (TL.nil (thn_normal (T.seq (T.seq (T.region (TL.st rfl rfl rfl (o_fieldAddr rfl rfl rfl tyS_3 (by decide) rfl rfl ⟨_, rfl, Nat.le_of_ble_eq_true rfl⟩) ?_))))))))))
 refine TL.st rfl rfl rfl (o_loadBx rfl tyS_3 rfl rfl (Nat.le_of_ble_eq_true rfl) rfl) ?_
 refine TL.nil (thn_normal (T.block (T.seq (T.region (TL.st rfl rfl rfl (o_ari rfl rfl rfl rfl) (TL.st rfl rfl rfl (o_assign rfl rfl) (TL.nil (thn_normal ?_))))))))
 refine T.cond ((a0.Kind_ == 5)) rfl (fun h => ?_) (fun h => ?_)
 ·replace H := cond_t h H
  refine T.seq (T.region (TL.st rfl rfl rfl (o_loadBx rfl tyS_24 rfl rfl (Nat.le_of_ble_eq_true rfl) rfl) ?_))
  refine TL.st rfl rfl rfl (o_build rfl ⟨_, fun _ => rfl, rfl⟩ rfl rfl rfl) ?_
  refine TL.sn rfl rfl (o_storeBx rfl tyS_26 rfl rfl rfl rfl (Nat.le_of_ble_eq_true rfl) rfl) ?_
  refine TL.nil (thn_normal (T.ret (inB_ret (thn_ret ?_))))
  cases some_i H
  exact ⟨trivial, _, (.cell _ _ _ _ _ _ _ _ _ _ rfl rfl tyS_26 (Nat.le_of_ble_eq_true rfl) rfl .nil), (.cl _ rfl)⟩
 ·replace H := cond_f h H
  refine T.seq (T.region (TL.st rfl rfl rfl (o_ari rfl rfl rfl rfl) (TL.st rfl rfl rfl (o_assign rfl rfl) (TL.nil (thn_normal ?_)))))
  refine T.cond ((a0.Kind_ == 6)) rfl (fun h => ?_) (fun h => ?_)
  ·replace H := cond_t h H
   refine T.seq (T.region (TL.st rfl rfl rfl (o_loadBx rfl tyS_24 rfl rfl (Nat.le_of_ble_eq_true rfl) rfl) ?_))
   refine TL.st rfl rfl rfl (o_build rfl ⟨_, fun _ => rfl, rfl⟩ rfl rfl rfl) ?_
   refine TL.sn rfl rfl (o_storeBx rfl tyS_26 rfl rfl rfl rfl (Nat.le_of_ble_eq_true rfl) rfl) ?_
   refine TL.nil (thn_normal (T.ret (inB_ret (thn_ret ?_))))
   cases some_i H
   exact ⟨trivial, _, (.cell _ _ _ _ _ _ _ _ _ _ rfl rfl tyS_26 (Nat.le_of_ble_eq_true rfl) rfl .nil), (.cl _ rfl)⟩
  ·replace H := cond_f h H
   refine T.skip (inB_normal (thn_normal (T.seq (T.region (TL.st rfl rfl rfl (o_loadBx rfl tyS_26 rfl rfl (Nat.le_of_ble_eq_true rfl) rfl) ?_)))))
   refine TL.sn rfl rfl (o_storeBx rfl tyS_26 rfl rfl rfl rfl (Nat.le_of_ble_eq_true rfl) rfl) ?_
   refine TL.nil (thn_normal (T.ret ?_))
   cases some_i H
   exact ⟨trivial, _, (.cell _ _ _ _ _ _ _ _ _ _ rfl rfl tyS_26 (Nat.le_of_ble_eq_true rfl) rfl .nil), (.cl _ rfl)⟩
theorem en_28 (us : Array Value) (w : World) : (callFunc 28 us).run Go.Proofs.Tryz.prog w = .ok (.enter 28 us) w := enters Go.Proofs.Tryz.func28 rfl rfl us w
noncomputable def spec_LinkPolicy (a0 : T_impl_Policy) (a1 : ByteArray) (a2 : T_impl_Atom) (a3 : T_impl_Atom) : Option (T_impl_Policy × Bool) :=
  (spec_GoodPolicy a0).bind fun r1 => (gdO (!(!r1)) (spec_l7Id a1)).bind fun r3 => (gdO (!((((!r1) || (!r3)) || (a2.Kind_ != 4)) || (a3.Kind_ != 4))) (spec_GoodAtom a2)).bind fun r5 => (gdO (!(((((!r1) || (!r3)) || (a2.Kind_ != 4)) || (a3.Kind_ != 4)) || (!r5))) (spec_GoodAtom a3)).bind fun r7 => (gdO (!((((((!r1) || (!r3)) || (a2.Kind_ != 4)) || (a3.Kind_ != 4)) || (!r5)) || (!r7))) (spec_l10Slot a0.Principal_)).bind fun r9 => (gdO ((!((((((!r1) || (!r3)) || (a2.Kind_ != 4)) || (a3.Kind_ != 4)) || (!r5)) || (!r7))) && (!r9)) (spec_l10Slot a0.Resource_)).bind fun r11 => cond (((((((!r1) || (!r3)) || (a2.Kind_ != 4)) || (a3.Kind_ != 4)) || (!r5)) || (!r7)) || ((!r9) && (!r11))) (some ((⟨(ByteArray.mk #[]), false, (⟨0, (⟨0, 0, (ByteArray.mk #[]), (ByteArray.mk #[])⟩ : T_impl_Atom), (ByteArray.mk #[])⟩ : T_impl_Head), (⟨0, (⟨0, 0, (ByteArray.mk #[]), (ByteArray.mk #[])⟩ : T_impl_Atom), (ByteArray.mk #[])⟩ : T_impl_Head), (⟨0, (⟨0, 0, (ByteArray.mk #[]), (ByteArray.mk #[])⟩ : T_impl_Atom), (ByteArray.mk #[])⟩ : T_impl_Head), ([] : List T_impl_Expr)⟩ : T_impl_Policy), false)) ((spec_l10Link a0.Principal_ a2).bind fun r13 => (spec_l10Link a0.Resource_ a3).bind fun r15 => (app ([] : List T_impl_Expr) a0.When_).bind fun l17 => some ((⟨a1, a0.Permit_, r13, a0.Action_, r15, l17⟩ : T_impl_Policy), true))
theorem spec_LinkPolicy_p (b0 : Bool) {a0 : T_impl_Policy} {a1 : ByteArray} {a2 : T_impl_Atom} {a3 : T_impl_Atom} {R0 : T_impl_Policy} {R1 : Bool} (H : spec_LinkPolicy a0 a1 a2 a3 = some (R0, R1)) : Pure Go.Proofs.Tryz.prog 6 [.agg (c_T_impl_Policy b0 a0), .str a1, .agg (c_T_impl_Atom false a2), .agg (c_T_impl_Atom false a3)] (.tup [.agg (c_T_impl_Policy false R0), .bool R1]) := by
 refine CallT.of_TN (n := 70) Go.Proofs.Tryz.func6 rfl rfl rfl rfl ?_
 refine T.seq (T.region (TL.st rfl rfl rfl (o_box rfl rfl rfl) (TL.st rfl rfl rfl (o_box rfl rfl rfl) (TL.st rfl rfl rfl (o_box rfl rfl rfl) (TL.st rfl rfl rfl (o_alloc rfl ⟨_, rfl, rfl⟩) (TL.st rfl rfl rfl (o_assign rfl rfl) (TL.nil (thn_normal (T.seq (T.seq (T.region (TL.st rfl rfl rfl (o_loadBx rfl tyS_29 rfl rfl (Nat.le_of_ble_eq_true rfl) rfl) ?_))))))))))))
 obtain ⟨r1, h2, H⟩ := bind_s H
 refine TL.st rfl rfl rfl (o_callP rfl en_24 rfl rfl (.cons _ _ _ _ (Lent.aggL (.cons _ _ _ _ (.cl _ rfl) (.cons _ _ _ _ (.cl _ rfl) (.cons _ _ _ _ (.cl _ rfl) (.cons _ _ _ _ (.cl _ rfl) (.cons _ _ _ _ (.cl _ rfl) (.cons _ _ _ _ (.cl _ rfl) (.cons _ _ _ _ (.cl _ rfl) (.cons _ _ _ _ (.cl _ rfl) (.cons _ _ _ _ (.cl _ rfl) (.cons _ _ _ _ (.cl _ rfl) (.cons _ _ _ _ (.cl _ rfl) (.cons _ _ _ _ (.cl _ rfl) (.cons _ _ _ _ (.cl _ rfl) (.cons _ _ _ _ (.cl _ rfl) (.cons _ _ _ _ (.cl _ rfl) (.cons _ _ _ _ (.cl _ rfl) (.cons _ _ _ _ (.cl _ rfl) (.cons _ _ _ _ (.cl _ rfl) (.cons _ _ _ _ (.cl _ rfl) (.cons _ _ _ _ (.cl _ rfl) (.cons _ _ _ _ (.imv _ _) .nil)))))))))))))))))))))) .nil) (spec_GoodPolicy_p b0 h2)) ?_
 refine TL.st rfl rfl rfl (o_not rfl rfl) ?_
 refine TL.st rfl rfl rfl (o_move rfl rfl) (TL.gcq rfl rfl rfl (.bool _) rfl rfl (fun h => o_move rfl rfl) ?_)
 obtain ⟨r3, h4, H⟩ := bind_s H
 refine TL.gcq rfl rfl rfl (.bool _) rfl rfl (fun h => o_callP rfl en_25 rfl (evl_1 (gv h rfl)) (.cons _ _ _ _ (.cl _ rfl) .nil) (spec_l7Id_p  (gdO_t h4 h))) ?_
 refine TL.gcq rfl rfl rfl (.bool _) rfl rfl (fun h => o_not rfl (gv h rfl)) ?_
 refine TL.st rfl rfl rfl (o_or rfl rfl rfl rfl (fun k => Gd_t k)) (TL.st rfl rfl rfl (o_move rfl rfl) (TL.gcq rfl rfl rfl (.bool _) rfl rfl (fun h => o_fieldAddr rfl rfl rfl tyS_3 (by decide) rfl rfl ⟨_, rfl, Nat.le_of_ble_eq_true rfl⟩) ?_))
 refine TL.gcq rfl rfl rfl (.bool _) rfl rfl (fun h => o_loadBx rfl tyS_3 (gv h rfl) rfl (Nat.le_of_ble_eq_true rfl) rfl) ?_
 refine TL.gcq rfl rfl rfl (.bool _) rfl rfl (fun h => o_ari rfl (gv h rfl) rfl rfl) ?_
 refine TL.st rfl rfl rfl (o_or rfl rfl rfl rfl (fun k => Gd_t k)) (TL.st rfl rfl rfl (o_move rfl rfl) (TL.gcq rfl rfl rfl (.bool _) rfl rfl (fun h => o_fieldAddr rfl rfl rfl tyS_3 (by decide) rfl rfl ⟨_, rfl, Nat.le_of_ble_eq_true rfl⟩) ?_))
 refine TL.gcq rfl rfl rfl (.bool _) rfl rfl (fun h => o_loadBx rfl tyS_3 (gv h rfl) rfl (Nat.le_of_ble_eq_true rfl) rfl) ?_
 refine TL.gcq rfl rfl rfl (.bool _) rfl rfl (fun h => o_ari rfl (gv h rfl) rfl rfl) ?_
 refine TL.st rfl rfl rfl (o_or rfl rfl rfl rfl (fun k => Gd_t k)) (TL.st rfl rfl rfl (o_move rfl rfl) (TL.gcq rfl rfl rfl (.bool _) rfl rfl (fun h => o_loadBx rfl tyS_24 rfl rfl (Nat.le_of_ble_eq_true rfl) rfl) ?_))
 obtain ⟨r5, h6, H⟩ := bind_s H
 refine TL.gcq rfl rfl rfl (.bool _) rfl rfl (fun h => o_callP rfl en_26 rfl (evl_1 (gv h rfl)) (.cons _ _ _ _ (.cl _ rfl) .nil) (spec_GoodAtom_p  (gdO_t h6 h))) ?_
 refine TL.gcq rfl rfl rfl (.bool _) rfl rfl (fun h => o_not rfl (gv h rfl)) ?_
 refine TL.st rfl rfl rfl (o_or rfl rfl rfl rfl (fun k => Gd_t k)) (TL.st rfl rfl rfl (o_move rfl rfl) (TL.gcq rfl rfl rfl (.bool _) rfl rfl (fun h => o_loadBx rfl tyS_24 rfl rfl (Nat.le_of_ble_eq_true rfl) rfl) ?_))
 obtain ⟨r7, h8, H⟩ := bind_s H
 refine TL.gcq rfl rfl rfl (.bool _) rfl rfl (fun h => o_callP rfl en_26 rfl (evl_1 (gv h rfl)) (.cons _ _ _ _ (.cl _ rfl) .nil) (spec_GoodAtom_p  (gdO_t h8 h))) ?_
 refine TL.gcq rfl rfl rfl (.bool _) rfl rfl (fun h => o_not rfl (gv h rfl)) ?_
 refine TL.st rfl rfl rfl (o_or rfl rfl rfl rfl (fun k => Gd_t k)) (TL.st rfl rfl rfl (o_move rfl rfl) (TL.gcq rfl rfl rfl (.bool _) rfl rfl (fun h => o_fieldAddr rfl rfl rfl tyS_26 (by decide) rfl rfl ⟨_, rfl, Nat.le_of_ble_eq_true rfl⟩) ?_))
 refine TL.gcq rfl rfl rfl (.bool _) rfl rfl (fun h => o_loadBx rfl tyS_26 (gv h rfl) rfl (Nat.le_of_ble_eq_true rfl) rfl) ?_
 obtain ⟨r9, h10, H⟩ := bind_s H
 refine TL.gcq rfl rfl rfl (.bool _) rfl rfl (fun h => o_callP rfl en_27 rfl (evl_1 (gv h rfl)) (.cons _ _ _ _ (.cl _ rfl) .nil) (spec_l10Slot_p  (gdO_t h10 h))) ?_
 refine TL.gcq rfl rfl rfl (.bool _) rfl rfl (fun h => o_not rfl (gv h rfl)) ?_
 refine TL.gcq rfl rfl rfl (.bool _) rfl rfl (fun h => o_move rfl (gv h rfl)) ?_
 refine TL.gcq rfl rfl rfl (.gd _ _) rfl rfl (fun h => o_fieldAddr rfl rfl rfl tyS_26 (by decide) rfl rfl ⟨_, rfl, Nat.le_of_ble_eq_true rfl⟩) ?_
 refine TL.gcq rfl rfl rfl (.gd _ _) rfl rfl (fun h => o_loadBx rfl tyS_26 (gv h rfl) rfl (Nat.le_of_ble_eq_true rfl) rfl) ?_
 obtain ⟨r11, h12, H⟩ := bind_s H
 refine TL.gcq rfl rfl rfl (.gd _ _) rfl rfl (fun h => o_callP rfl en_27 rfl (evl_1 (gv h rfl)) (.cons _ _ _ _ (.cl _ rfl) .nil) (spec_l10Slot_p  (gdO_t h12 h))) ?_
 refine TL.gcq rfl rfl rfl (.gd _ _) rfl rfl (fun h => o_not rfl (gv h rfl)) ?_
 refine TL.gcq rfl rfl rfl (.bool _) rfl rfl (fun h => o_and rfl (gv h rfl) rfl (fun k => Gd_t (andi h k)) rfl) ?_
 refine TL.st rfl rfl rfl (o_or rfl rfl rfl rfl (fun k => Gd_t k)) (TL.nil (thn_normal ?_))
 refine T.cond ((((((((!r1) || (!r3)) || (a2.Kind_ != 4)) || (a3.Kind_ != 4)) || (!r5)) || (!r7)) || ((!r9) && (!r11)))) rfl (fun h => ?_) (fun h => ?_)
 ·replace H := cond_t h H
  refine T.seq (T.region (TL.st rfl rfl rfl (o_build rfl ⟨_, fun _ => rfl, rfl⟩ rfl rfl rfl) ?_))
  refine TL.sn rfl rfl (o_storeBx rfl tyS_29 rfl rfl rfl rfl (Nat.le_of_ble_eq_true rfl) rfl) ?_
  refine TL.st rfl rfl rfl (o_assign rfl rfl) (TL.nil (thn_normal (T.ret (thn_ret ?_))))
  cases some_i H
  exact ⟨trivial, _, (.cell _ _ _ _ _ _ _ _ _ _ rfl rfl tyS_29 (Nat.le_of_ble_eq_true rfl) rfl (.tmp _ _ _ _ rfl .nil)), (.tupL (.cons _ _ _ _ (.aggL (.cons _ _ _ _ (.cl _ rfl) (.cons _ _ _ _ (.cl _ rfl) (.cons _ _ _ _ (.cl _ rfl) (.cons _ _ _ _ (.cl _ rfl) (.cons _ _ _ _ (.cl _ rfl) (.cons _ _ _ _ (.cl _ rfl) (.cons _ _ _ _ (.cl _ rfl) (.cons _ _ _ _ (.cl _ rfl) (.cons _ _ _ _ (.cl _ rfl) (.cons _ _ _ _ (.cl _ rfl) (.cons _ _ _ _ (.cl _ rfl) (.cons _ _ _ _ (.cl _ rfl) (.cons _ _ _ _ (.cl _ rfl) (.cons _ _ _ _ (.cl _ rfl) (.cons _ _ _ _ (.cl _ rfl) (.cons _ _ _ _ (.cl _ rfl) (.cons _ _ _ _ (.cl _ rfl) (.cons _ _ _ _ (.cl _ rfl) (.cons _ _ _ _ (.cl _ rfl) (.cons _ _ _ _ (.cl _ rfl) (.cons _ _ _ _ .nil .nil)))))))))))))))))))))) (.cons _ _ _ _ (.cl _ rfl) .nil)))⟩
 ·replace H := cond_f h H
  refine T.skip (thn_normal (T.seq (T.region (TL.st rfl rfl rfl (o_move rfl rfl) (TL.st rfl rfl rfl (o_fieldAddr rfl rfl rfl tyS_9 (by decide) rfl rfl ⟨_, rfl, Nat.le_of_ble_eq_true rfl⟩) ?_)))))
  refine TL.sn rfl rfl (o_storeBx rfl tyS_9 rfl rfl rfl rfl (Nat.le_of_ble_eq_true rfl) rfl) ?_
  refine TL.nil (thn_normal (T.seq (T.region (TL.st rfl rfl rfl (o_fieldAddr rfl rfl rfl tyS_26 (by decide) rfl rfl ⟨_, rfl, Nat.le_of_ble_eq_true rfl⟩) ?_))))
  refine TL.st rfl rfl rfl (o_loadBx rfl tyS_26 rfl rfl (Nat.le_of_ble_eq_true rfl) rfl) ?_
  refine TL.st rfl rfl rfl (o_loadBx rfl tyS_24 rfl rfl (Nat.le_of_ble_eq_true rfl) rfl) ?_
  obtain ⟨r13, h14, H⟩ := bind_s H
  refine TL.st rfl rfl rfl (o_callP rfl en_28 rfl rfl (.cons _ _ _ _ (.cl _ rfl) (.cons _ _ _ _ (.cl _ rfl) .nil)) (spec_l10Link_p  h14)) ?_
  refine TL.st rfl rfl rfl (o_fieldAddr rfl rfl rfl tyS_26 (by decide) rfl rfl ⟨_, rfl, Nat.le_of_ble_eq_true rfl⟩) ?_
  refine TL.sn rfl rfl (o_storeBx rfl tyS_26 rfl rfl rfl rfl (Nat.le_of_ble_eq_true rfl) rfl) ?_
  refine TL.nil (thn_normal (T.seq (T.region (TL.st rfl rfl rfl (o_fieldAddr rfl rfl rfl tyS_26 (by decide) rfl rfl ⟨_, rfl, Nat.le_of_ble_eq_true rfl⟩) ?_))))
  refine TL.st rfl rfl rfl (o_loadBx rfl tyS_26 rfl rfl (Nat.le_of_ble_eq_true rfl) rfl) ?_
  refine TL.st rfl rfl rfl (o_loadBx rfl tyS_24 rfl rfl (Nat.le_of_ble_eq_true rfl) rfl) ?_
  obtain ⟨r15, h16, H⟩ := bind_s H
  refine TL.st rfl rfl rfl (o_callP rfl en_28 rfl rfl (.cons _ _ _ _ (.cl _ rfl) (.cons _ _ _ _ (.cl _ rfl) .nil)) (spec_l10Link_p  h16)) ?_
  refine TL.st rfl rfl rfl (o_fieldAddr rfl rfl rfl tyS_26 (by decide) rfl rfl ⟨_, rfl, Nat.le_of_ble_eq_true rfl⟩) ?_
  refine TL.sn rfl rfl (o_storeBx rfl tyS_26 rfl rfl rfl rfl (Nat.le_of_ble_eq_true rfl) rfl) ?_
  refine TL.nil (thn_normal (T.seq (T.region (TL.st rfl rfl rfl (o_assign rfl rfl) (TL.nil (thn_normal (T.seq (T.region (TL.st rfl rfl rfl (o_move rfl rfl) (TL.st rfl rfl rfl (o_fieldAddr rfl rfl rfl tyS_27 (by decide) rfl rfl ⟨_, rfl, Nat.le_of_ble_eq_true rfl⟩) ?_))))))))))
  refine TL.st rfl rfl rfl (o_loadBx rfl tyS_27 rfl rfl (Nat.le_of_ble_eq_true rfl) rfl) ?_
  refine TL.conv (Cs.own (t := 64) 7 rfl (by decide)) ?_
  
  obtain ⟨l17, h18, H⟩ := bind_s H
  refine TL.st rfl rfl rfl (o_ap (f := c_T_impl_Expr false) (xs := ([] : List T_impl_Expr)) (ys := a0.When_) rfl rfl tyE_57 rfl rfl rfl rfl (by decide) rfl (fun _ => rfl) h18) ?_
  refine TL.st rfl rfl rfl (o_fieldAddr rfl rfl rfl tyS_27 (by decide) rfl rfl ⟨_, rfl, Nat.le_of_ble_eq_true rfl⟩) ?_
  refine TL.sn rfl rfl (o_storeBx rfl tyS_27 rfl rfl rfl rfl (Nat.le_of_ble_eq_true rfl) (sure_hd rfl rfl rfl)) ?_
  refine TL.nil (thn_normal (T.seq (T.region (TL.st rfl rfl rfl (o_loadBx rfl tyS_29 rfl rfl (Nat.le_of_ble_eq_true rfl) rfl) ?_))))
  refine TL.sn rfl rfl (o_storeBx rfl tyS_29 rfl rfl rfl rfl (Nat.le_of_ble_eq_true rfl) (sure_c rfl (sure_c rfl (sure_c rfl (sure_c rfl (sure_c rfl (sure_c rfl (sure_c rfl (sure_c rfl (sure_c rfl (sure_c rfl (sure_c rfl (sure_c rfl (sure_c rfl (sure_c rfl (sure_c rfl (sure_c rfl (sure_c rfl (sure_c rfl (sure_c rfl (sure_c rfl (sure_hd rfl rfl rfl)))))))))))))))))))))) ?_
  refine TL.st rfl rfl rfl (o_assign rfl rfl) (TL.nil (thn_normal (T.ret ?_)))
  cases some_i H
  exact ⟨trivial, _, (.cell _ _ _ _ _ _ _ _ _ _ rfl rfl tyS_29 (Nat.le_of_ble_eq_true rfl) rfl (.tmp _ _ _ _ rfl .nil)), (.tupL (.cons _ _ _ _ (.aggL (.cons _ _ _ _ (.cl _ rfl) (.cons _ _ _ _ (.cl _ rfl) (.cons _ _ _ _ (.cl _ rfl) (.cons _ _ _ _ (.cl _ rfl) (.cons _ _ _ _ (.cl _ rfl) (.cons _ _ _ _ (.cl _ rfl) (.cons _ _ _ _ (.cl _ rfl) (.cons _ _ _ _ (.cl _ rfl) (.cons _ _ _ _ (.cl _ rfl) (.cons _ _ _ _ (.cl _ rfl) (.cons _ _ _ _ (.cl _ rfl) (.cons _ _ _ _ (.cl _ rfl) (.cons _ _ _ _ (.cl _ rfl) (.cons _ _ _ _ (.cl _ rfl) (.cons _ _ _ _ (.cl _ rfl) (.cons _ _ _ _ (.cl _ rfl) (.cons _ _ _ _ (.cl _ rfl) (.cons _ _ _ _ (.cl _ rfl) (.cons _ _ _ _ (.cl _ rfl) (.cons _ _ _ _ (.cl _ rfl) (.cons _ _ _ _ (.own rfl (by decide) rfl) .nil)))))))))))))))))))))) (.cons _ _ _ _ (.cl _ rfl) .nil)))⟩
theorem en_6 (us : Array Value) (w : World) : (callFunc 6 us).run Go.Proofs.Tryz.prog w = .ok (.enter 6 us) w := enters Go.Proofs.Tryz.func6 rfl rfl us w
theorem tyS_4 : TyS Go.Proofs.Tryz.prog 4 false 1 := ⟨rfl, rfl⟩
theorem eqT_26 : ∀ a b : T_impl_Head, EqT Go.Proofs.Tryz.prog true 10000 26 [] 0 (c_T_impl_Head false a) (c_T_impl_Head false b) (a == b) := fun a b => .struct rfl (by kernel_rfl) (.cons (c := [.int .i64 a.Kind_]) (d := [.int .i64 b.Kind_]) rfl rfl tyS_3 rfl rfl (fun _ => rfl) (fun h => Bool.noConfusion h) (fun _ => ne_struct rfl rfl) (.int rfl) (.cons (c := (c_T_impl_Atom false a.Atom_)) (d := (c_T_impl_Atom false b.Atom_)) rfl rfl tyS_24 rfl rfl (fun h => Bool.noConfusion h) (fun _ => ⟨_, rfl⟩) (fun h => Bool.noConfusion h) (.struct rfl (by kernel_rfl) (.cons (c := [.int .i64 a.Atom_.Kind_]) (d := [.int .i64 b.Atom_.Kind_]) rfl rfl tyS_3 rfl rfl (fun _ => rfl) (fun h => Bool.noConfusion h) (fun _ => ne_struct rfl rfl) (.int rfl) (.cons (c := [.int .i64 a.Atom_.Num_]) (d := [.int .i64 b.Atom_.Num_]) rfl rfl tyS_3 rfl rfl (fun _ => rfl) (fun h => Bool.noConfusion h) (fun _ => ne_struct rfl rfl) (.int rfl) (.cons (c := [.str a.Atom_.Text_]) (d := [.str b.Atom_.Text_]) rfl rfl tyS_9 rfl rfl (fun _ => rfl) (fun h => Bool.noConfusion h) (fun _ => ne_struct rfl rfl) (.str rfl) (.cons (c := [.str a.Atom_.Type_]) (d := [.str b.Atom_.Type_]) rfl rfl tyS_9 rfl rfl (fun _ => rfl) (fun h => Bool.noConfusion h) (fun _ => ne_struct rfl rfl) (.str rfl) .nil))))) (.cons (c := [.str a.Type_]) (d := [.str b.Type_]) rfl rfl tyS_9 rfl rfl (fun _ => rfl) (fun h => Bool.noConfusion h) (fun _ => ne_struct rfl rfl) (.str rfl) .nil)))
theorem eqG_26 : Program.eqGuardType Go.Proofs.Tryz.prog Go.Proofs.Tryz.prog.depth 26 = false := by kernel_rfl
theorem eqT_57 : ∀ a b : T_impl_Expr, EqT Go.Proofs.Tryz.prog true 10000 57 [] 0 (c_T_impl_Expr false a) (c_T_impl_Expr false b) (a == b) := fun a b => .struct rfl (by kernel_rfl) (.cons (c := [.int .i64 a.Kind_]) (d := [.int .i64 b.Kind_]) rfl rfl tyS_3 rfl rfl (fun _ => rfl) (fun h => Bool.noConfusion h) (fun _ => ne_struct rfl rfl) (.int rfl) (.cons (c := [.str a.Text_]) (d := [.str b.Text_]) rfl rfl tyS_9 rfl rfl (fun _ => rfl) (fun h => Bool.noConfusion h) (fun _ => ne_struct rfl rfl) (.str rfl) (.cons (c := (c_T_impl_Atom false a.Atom_)) (d := (c_T_impl_Atom false b.Atom_)) rfl rfl tyS_24 rfl rfl (fun h => Bool.noConfusion h) (fun _ => ⟨_, rfl⟩) (fun h => Bool.noConfusion h) (.struct rfl (by kernel_rfl) (.cons (c := [.int .i64 a.Atom_.Kind_]) (d := [.int .i64 b.Atom_.Kind_]) rfl rfl tyS_3 rfl rfl (fun _ => rfl) (fun h => Bool.noConfusion h) (fun _ => ne_struct rfl rfl) (.int rfl) (.cons (c := [.int .i64 a.Atom_.Num_]) (d := [.int .i64 b.Atom_.Num_]) rfl rfl tyS_3 rfl rfl (fun _ => rfl) (fun h => Bool.noConfusion h) (fun _ => ne_struct rfl rfl) (.int rfl) (.cons (c := [.str a.Atom_.Text_]) (d := [.str b.Atom_.Text_]) rfl rfl tyS_9 rfl rfl (fun _ => rfl) (fun h => Bool.noConfusion h) (fun _ => ne_struct rfl rfl) (.str rfl) (.cons (c := [.str a.Atom_.Type_]) (d := [.str b.Atom_.Type_]) rfl rfl tyS_9 rfl rfl (fun _ => rfl) (fun h => Bool.noConfusion h) (fun _ => ne_struct rfl rfl) (.str rfl) .nil))))) (.cons (c := [.int .i64 a.Kids_]) (d := [.int .i64 b.Kids_]) rfl rfl tyS_3 rfl rfl (fun _ => rfl) (fun h => Bool.noConfusion h) (fun _ => ne_struct rfl rfl) (.int rfl) .nil))))
theorem eqG_57 : Program.eqGuardType Go.Proofs.Tryz.prog Go.Proofs.Tryz.prog.depth 57 = false := by kernel_rfl
noncomputable def laws_zExpr_l1 (a0 : (List T_impl_Expr)) (a1 : (List T_impl_Expr)) : Int → Option (Int ⊕ (Unit ⊕ Bool)) := fun s => match s with
  | v1 => cond (decide (v1 < (a0.length : Int))) ((idx a0 v1).bind fun e4 => (idx a1 v1).bind fun e6 => cond (!(e4 == e6)) (some (.inr (.inr false))) (some (.inl (IntKind.i64.wrap (v1 + 1))))) (some (.inr (.inl ())))
noncomputable def laws_zExpr (a0 : (List T_impl_Expr)) (a1 : (List T_impl_Expr)) : Option Bool :=
  cond ((a0.length : Int) != (a1.length : Int)) (some false) ((loopO (laws_zExpr_l1 a0 a1) 0).bind fun q8 => (match q8 with | .inl _ => some true | .inr q2 => some q2))
theorem laws_zExpr_p (b0 : Bool) (b1 : Bool) {a0 : (List T_impl_Expr)} {a1 : (List T_impl_Expr)} {R0 : Bool} (H : laws_zExpr a0 a1 = some R0) : Pure Go.Proofs.Tryz.prog 10 [.im b0 (a0.map (c_T_impl_Expr false)), .im b1 (a1.map (c_T_impl_Expr false))] (.bool R0) := by
 refine CallT.of_TN (n := 26) Go.Proofs.Tryz.func10 rfl rfl rfl rfl ?_
 refine T.seq (T.region (TL.st rfl rfl rfl (o_assign rfl rfl) (TL.nil (thn_normal (T.seq (T.seq (T.region (TL.st rfl rfl rfl (o_move rfl rfl) (TL.st rfl rfl rfl (o_lenL (f := c_T_impl_Expr false) rfl rfl rfl) ?_)))))))))
 refine TL.st rfl rfl rfl (o_move rfl rfl) (TL.st rfl rfl rfl (o_lenL (f := c_T_impl_Expr false) rfl rfl rfl) ?_)
 refine TL.st rfl rfl rfl (o_ari rfl rfl rfl rfl) (TL.nil (thn_normal ?_))
 refine T.cond (((a0.length : Int) != (a1.length : Int))) rfl (fun h => ?_) (fun h => ?_)
 ·replace H := cond_t h H
  refine T.seq (T.region (TL.st rfl rfl rfl (o_assign rfl rfl) (TL.nil (thn_normal (T.ret (thn_ret ?_))))))
  cases some_i H
  exact ⟨trivial, _, (.tmp _ _ _ _ rfl .nil), (.cl _ rfl)⟩
 ·replace H := cond_f h H
  refine T.skip (thn_normal (T.seq (T.seq (T.region (TL.st rfl rfl rfl (o_move rfl rfl) (TL.st rfl rfl rfl (o_lenL (f := c_T_impl_Expr false) rfl rfl rfl) ?_))))))
  refine TL.st rfl rfl rfl (o_move rfl rfl) (TL.nil (thn_normal (T.block ?_)))
  obtain ⟨q8, h9, H⟩ := bind_s H
  refine T.to (.cons 0 _ (.im b0 (a0.map (c_T_impl_Expr false))) _ rfl (.same _) rfl (.cons 1 _ (.im b1 (a1.map (c_T_impl_Expr false))) _ rfl (.same _) rfl (.cons 12 _ (.int .i64 (a0.length : Int)) _ rfl (.same _) rfl (.cons 13 _ (.int .i64 0) _ rfl (.same _) rfl .nil)))) ?_
  refine T.lp (fun s => match s with | v1 => [(0, .im b0 (a0.map (c_T_impl_Expr false))), (1, .im b1 (a1.map (c_T_impl_Expr false))), (12, .int .i64 (a0.length : Int)), (13, .int .i64 v1)]) (fun s => match s with | v1 => []) (fun q ex fr σ => match q with | .inl _ => ex = .exit 0 ∧ fr = [] ∧ σ = [] | .inr q2 => ex = .ret ∧ RetN Go.Proofs.Tryz.prog [.tmp 4] (fun v τ => Told τ v (.bool q2)) .ret fr σ) h9 ?_ ?_ ?_ ?_ ?_
  ·rintro v1 y3 H
   refine T.seq (T.region (TL.st rfl rfl rfl (o_ari rfl rfl rfl rfl) (TL.nil (thn_normal (T.seq ?_)))))
   refine T.cond (decide (v1 < (a0.length : Int))) rfl (fun h => ?_) (fun h => ?_)
   ·replace H := cond_t h H
    refine T.skip (thn_normal (T.seq (T.block (T.seq (T.region (TL.st rfl rfl rfl (o_move rfl rfl) (TL.st rfl rfl rfl (o_assign rfl rfl) (TL.nil (thn_normal (T.seq (T.drawn rfl ?_)))))))))))
    refine TD.qs rfl rfl (fun _ => o_move rfl rfl) (TD.qs rfl rfl (fun _ => o_move rfl rfl) ?_)
    obtain ⟨e4, h5, H⟩ := bind_s H
    refine TD.qs rfl rfl (fun _ => o_ix (f := c_T_impl_Expr false) rfl rfl tyS_57 rfl rfl h5 rfl) ?_
    refine TD.qs rfl rfl (fun _ => o_loadRf rfl tyS_57 rfl (Nat.le_of_ble_eq_true rfl) rfl) ?_
    refine TD.qs rfl rfl (fun _ => o_move rfl rfl) (TD.qs rfl rfl (fun _ => o_move rfl rfl) ?_)
    obtain ⟨e6, h7, H⟩ := bind_s H
    refine TD.qs rfl rfl (fun _ => o_ix (f := c_T_impl_Expr false) rfl rfl tyS_57 rfl rfl h7 rfl) ?_
    refine TD.qs rfl rfl (fun _ => o_loadRf rfl tyS_57 rfl (Nat.le_of_ble_eq_true rfl) rfl) ?_
    refine TD.qs rfl rfl (fun _ => o_neA rfl rfl eqG_57 rfl rfl rfl rfl (eqT_57 e4 e6)) ?_
    refine TD.nil ⟨rfl, ?_⟩
    refine thn_normal ?_
    refine T.cond ((!(e4 == e6))) rfl (fun h => ?_) (fun h => ?_)
    ·replace H := cond_t h H
     refine T.seq (T.region (TL.st rfl rfl rfl (o_assign rfl rfl) (TL.nil (thn_normal (T.ret (inB_ret (thn_ret ?_)))))))
     exact Pk.id (thn_ret ⟨.inr false, (some_i H).symm, rfl, ⟨trivial, _, (.tmp _ _ _ _ rfl .nil), (.cl _ rfl)⟩⟩)
    ·replace H := cond_f h H
     refine T.skip (inB_normal (thn_normal (T.region (TL.st rfl rfl rfl (o_ari rfl rfl rfl rfl) (TL.st rfl rfl rfl (o_move rfl rfl) (TL.nil ?_))))))
     exact Pk.go (fr' := [(0, .im b0 (a0.map (c_T_impl_Expr false))), (1, .im b1 (a1.map (c_T_impl_Expr false))), (12, .int .i64 (a0.length : Int)), (13, .int .i64 (IntKind.i64.wrap (v1 + 1)))]) (σ' := []) _ rfl rfl trivial (.cons 0 _ (.im b0 (a0.map (c_T_impl_Expr false))) _ rfl (.same _) rfl (.cons 1 _ (.im b1 (a1.map (c_T_impl_Expr false))) _ rfl (.same _) rfl (.cons 12 _ (.int .i64 (a0.length : Int)) _ rfl (.same _) rfl (.cons 13 _ (.int .i64 (IntKind.i64.wrap (v1 + 1))) _ rfl (.same _) rfl .nil)))) (thn_normal ⟨(IntKind.i64.wrap (v1 + 1)), (some_i H).symm, rfl, rfl⟩)
   ·replace H := cond_f h H
    refine T.exit (thn_exit ?_)
    exact Pk.go (fr' := []) (σ' := []) _ rfl rfl trivial .nil (thn_exit ⟨.inl (), (some_i H).symm, rfl, rfl, rfl⟩)
  ·rintro v1 v1'; rfl
  ·rintro v1; exact trivial
  ·rintro v1; exact (.cons _ _ _ rfl rfl (.cons _ _ _ rfl rfl (.cons _ _ _ rfl rfl (.cons _ _ _ rfl rfl .nil))))
  ·rcases q8 with ⟨⟩ | q2
   ·rintro _ _ _ ⟨rfl, rfl, rfl⟩
    refine inB_here (thn_normal (T.seq (T.region (TL.st rfl rfl rfl (o_assign rfl rfl) (TL.nil (thn_normal (T.ret ?_)))))))
    cases some_i H
    exact ⟨trivial, _, (.tmp _ _ _ _ rfl .nil), (.cl _ rfl)⟩
   ·rintro _ fr1 σ1 ⟨rfl, hr⟩
    refine inB_ret (thn_ret ?_)
    cases some_i H
    exact hr
theorem en_10 (us : Array Value) (w : World) : (callFunc 10 us).run Go.Proofs.Tryz.prog w = .ok (.enter 10 us) w := enters Go.Proofs.Tryz.func10 rfl rfl us w
noncomputable def laws_zPolicies_l1 (a0 : (List T_impl_Policy)) (a1 : (List T_impl_Policy)) : Int → Option (Int ⊕ (Unit ⊕ Bool)) := fun s => match s with
  | v1 => cond (decide (v1 < (a0.length : Int))) ((idx a0 v1).bind fun e4 => (idx a1 v1).bind fun e6 => (gdO (!(((((!(e4.Id_.toList == e6.Id_.toList)) || (!(e4.Permit_ == e6.Permit_))) || (!(e4.Principal_ == e6.Principal_))) || (!(e4.Action_ == e6.Action_))) || (!(e4.Resource_ == e6.Resource_)))) (laws_zExpr e4.When_ e6.When_)).bind fun r8 => cond ((((((!(e4.Id_.toList == e6.Id_.toList)) || (!(e4.Permit_ == e6.Permit_))) || (!(e4.Principal_ == e6.Principal_))) || (!(e4.Action_ == e6.Action_))) || (!(e4.Resource_ == e6.Resource_))) || (!r8)) (some (.inr (.inr false))) (some (.inl (IntKind.i64.wrap (v1 + 1))))) (some (.inr (.inl ())))
noncomputable def laws_zPolicies (a0 : (List T_impl_Policy)) (a1 : (List T_impl_Policy)) : Option Bool :=
  cond ((a0.length : Int) != (a1.length : Int)) (some false) ((loopO (laws_zPolicies_l1 a0 a1) 0).bind fun q10 => (match q10 with | .inl _ => some true | .inr q2 => some q2))
theorem laws_zPolicies_p (b0 : Bool) (b1 : Bool) {a0 : (List T_impl_Policy)} {a1 : (List T_impl_Policy)} {R0 : Bool} (H : laws_zPolicies a0 a1 = some R0) : Pure Go.Proofs.Tryz.prog 7 [.im b0 (a0.map (c_T_impl_Policy false)), .im b1 (a1.map (c_T_impl_Policy false))] (.bool R0) := by
 refine CallT.of_TN (n := 68) Go.Proofs.Tryz.func7 rfl rfl rfl rfl ?_
 refine T.seq (T.region (TL.st rfl rfl rfl (o_assign rfl rfl) (TL.nil (thn_normal (T.seq (T.seq (T.region (TL.st rfl rfl rfl (o_move rfl rfl) (TL.st rfl rfl rfl (o_lenL (f := c_T_impl_Policy false) rfl rfl rfl) ?_)))))))))
 refine TL.st rfl rfl rfl (o_move rfl rfl) (TL.st rfl rfl rfl (o_lenL (f := c_T_impl_Policy false) rfl rfl rfl) ?_)
 refine TL.st rfl rfl rfl (o_ari rfl rfl rfl rfl) (TL.nil (thn_normal ?_))
 refine T.cond (((a0.length : Int) != (a1.length : Int))) rfl (fun h => ?_) (fun h => ?_)
 ·replace H := cond_t h H
  refine T.seq (T.region (TL.st rfl rfl rfl (o_assign rfl rfl) (TL.nil (thn_normal (T.ret (thn_ret ?_))))))
  cases some_i H
  exact ⟨trivial, _, (.tmp _ _ _ _ rfl .nil), (.cl _ rfl)⟩
 ·replace H := cond_f h H
  refine T.skip (thn_normal (T.seq (T.seq (T.region (TL.st rfl rfl rfl (o_move rfl rfl) (TL.st rfl rfl rfl (o_lenL (f := c_T_impl_Policy false) rfl rfl rfl) ?_))))))
  refine TL.st rfl rfl rfl (o_move rfl rfl) (TL.nil (thn_normal (T.block ?_)))
  obtain ⟨q10, h11, H⟩ := bind_s H
  refine T.to (.cons 0 _ (.im b0 (a0.map (c_T_impl_Policy false))) _ rfl (.same _) rfl (.cons 1 _ (.im b1 (a1.map (c_T_impl_Policy false))) _ rfl (.same _) rfl (.cons 14 _ (.int .i64 (a0.length : Int)) _ rfl (.same _) rfl (.cons 15 _ (.int .i64 0) _ rfl (.same _) rfl .nil)))) ?_
  refine T.lp (fun s => match s with | v1 => [(0, .im b0 (a0.map (c_T_impl_Policy false))), (1, .im b1 (a1.map (c_T_impl_Policy false))), (14, .int .i64 (a0.length : Int)), (15, .int .i64 v1)]) (fun s => match s with | v1 => []) (fun q ex fr σ => match q with | .inl _ => ex = .exit 0 ∧ fr = [] ∧ σ = [] | .inr q2 => ex = .ret ∧ RetN Go.Proofs.Tryz.prog [.tmp 4] (fun v τ => Told τ v (.bool q2)) .ret fr σ) h11 ?_ ?_ ?_ ?_ ?_
  ·rintro v1 y3 H
   refine T.seq (T.region (TL.st rfl rfl rfl (o_ari rfl rfl rfl rfl) (TL.nil (thn_normal (T.seq ?_)))))
   refine T.cond (decide (v1 < (a0.length : Int))) rfl (fun h => ?_) (fun h => ?_)
   ·replace H := cond_t h H
    refine T.skip (thn_normal (T.seq (T.block (T.seq (T.region (TL.st rfl rfl rfl (o_move rfl rfl) (TL.st rfl rfl rfl (o_assign rfl rfl) (TL.nil (thn_normal (T.seq (T.region (TL.st rfl rfl rfl (o_move rfl rfl) (TL.st rfl rfl rfl (o_move rfl rfl) ?_)))))))))))))
    obtain ⟨e4, h5, H⟩ := bind_s H
    refine TL.st rfl rfl rfl (o_ix (f := c_T_impl_Policy false) rfl rfl tyS_29 rfl rfl h5 rfl) ?_
    refine TL.st rfl rfl rfl (o_loadRf rfl tyS_29 rfl (Nat.le_of_ble_eq_true rfl) rfl) ?_
    refine TL.st rfl rfl rfl (o_alloc rfl ⟨_, rfl, rfl⟩) (TL.sn rfl rfl (o_storeBx rfl tyS_29 rfl rfl rfl rfl (Nat.le_of_ble_eq_true rfl) rfl) ?_)
    refine TL.nil (thn_normal (T.seq (T.region (TL.st rfl rfl rfl (o_move rfl rfl) (TL.st rfl rfl rfl (o_move rfl rfl) ?_)))))
    obtain ⟨e6, h7, H⟩ := bind_s H
    refine TL.st rfl rfl rfl (o_ix (f := c_T_impl_Policy false) rfl rfl tyS_29 rfl rfl h7 rfl) ?_
    refine TL.st rfl rfl rfl (o_loadRf rfl tyS_29 rfl (Nat.le_of_ble_eq_true rfl) rfl) ?_
    refine TL.st rfl rfl rfl (o_alloc rfl ⟨_, rfl, rfl⟩) (TL.sn rfl rfl (o_storeBx rfl tyS_29 rfl rfl rfl rfl (Nat.le_of_ble_eq_true rfl) rfl) ?_)
    refine TL.nil (thn_normal (T.seq (T.region (TL.st rfl rfl rfl (o_fieldAddr rfl rfl rfl tyS_9 (by decide) rfl rfl ⟨_, rfl, Nat.le_of_ble_eq_true rfl⟩) ?_))))
    refine TL.st rfl rfl rfl (o_loadBx rfl tyS_9 rfl rfl (Nat.le_of_ble_eq_true rfl) rfl) ?_
    refine TL.st rfl rfl rfl (o_fieldAddr rfl rfl rfl tyS_9 (by decide) rfl rfl ⟨_, rfl, Nat.le_of_ble_eq_true rfl⟩) ?_
    refine TL.st rfl rfl rfl (o_loadBx rfl tyS_9 rfl rfl (Nat.le_of_ble_eq_true rfl) rfl) ?_
    refine TL.st rfl rfl rfl (o_str rfl rfl rfl rfl) ?_
    refine TL.st rfl rfl rfl (o_move rfl rfl) (TL.gcq rfl rfl rfl (.bool _) rfl rfl (fun h => o_fieldAddr rfl rfl rfl tyS_4 (by decide) rfl rfl ⟨_, rfl, Nat.le_of_ble_eq_true rfl⟩) ?_)
    refine TL.gcq rfl rfl rfl (.bool _) rfl rfl (fun h => o_loadBx rfl tyS_4 (gv h rfl) rfl (Nat.le_of_ble_eq_true rfl) rfl) ?_
    refine TL.gcq rfl rfl rfl (.bool _) rfl rfl (fun h => o_fieldAddr rfl rfl rfl tyS_4 (by decide) rfl rfl ⟨_, rfl, Nat.le_of_ble_eq_true rfl⟩) ?_
    refine TL.gcq rfl rfl rfl (.bool _) rfl rfl (fun h => o_loadBx rfl tyS_4 (gv h rfl) rfl (Nat.le_of_ble_eq_true rfl) rfl) ?_
    refine TL.gcq rfl rfl rfl (.bool _) rfl rfl (fun h => o_bne rfl rfl (gv h rfl) (gv h rfl)) ?_
    refine TL.st rfl rfl rfl (o_or rfl rfl rfl rfl (fun k => Gd_t k)) (TL.st rfl rfl rfl (o_move rfl rfl) (TL.gcq rfl rfl rfl (.bool _) rfl rfl (fun h => o_fieldAddr rfl rfl rfl tyS_26 (by decide) rfl rfl ⟨_, rfl, Nat.le_of_ble_eq_true rfl⟩) ?_))
    refine TL.gcq rfl rfl rfl (.bool _) rfl rfl (fun h => o_loadBx rfl tyS_26 (gv h rfl) rfl (Nat.le_of_ble_eq_true rfl) rfl) ?_
    refine TL.gcq rfl rfl rfl (.bool _) rfl rfl (fun h => o_fieldAddr rfl rfl rfl tyS_26 (by decide) rfl rfl ⟨_, rfl, Nat.le_of_ble_eq_true rfl⟩) ?_
    refine TL.gcq rfl rfl rfl (.bool _) rfl rfl (fun h => o_loadBx rfl tyS_26 (gv h rfl) rfl (Nat.le_of_ble_eq_true rfl) rfl) ?_
    refine TL.gcq rfl rfl rfl (.bool _) rfl rfl (fun h => o_neA rfl rfl eqG_26 (gv h rfl) (gv h rfl) rfl rfl (eqT_26 e4.Principal_ e6.Principal_)) ?_
    refine TL.st rfl rfl rfl (o_or rfl rfl rfl rfl (fun k => Gd_t k)) (TL.st rfl rfl rfl (o_move rfl rfl) (TL.gcq rfl rfl rfl (.bool _) rfl rfl (fun h => o_fieldAddr rfl rfl rfl tyS_26 (by decide) rfl rfl ⟨_, rfl, Nat.le_of_ble_eq_true rfl⟩) ?_))
    refine TL.gcq rfl rfl rfl (.bool _) rfl rfl (fun h => o_loadBx rfl tyS_26 (gv h rfl) rfl (Nat.le_of_ble_eq_true rfl) rfl) ?_
    refine TL.gcq rfl rfl rfl (.bool _) rfl rfl (fun h => o_fieldAddr rfl rfl rfl tyS_26 (by decide) rfl rfl ⟨_, rfl, Nat.le_of_ble_eq_true rfl⟩) ?_
    refine TL.gcq rfl rfl rfl (.bool _) rfl rfl (fun h => o_loadBx rfl tyS_26 (gv h rfl) rfl (Nat.le_of_ble_eq_true rfl) rfl) ?_
    refine TL.gcq rfl rfl rfl (.bool _) rfl rfl (fun h => o_neA rfl rfl eqG_26 (gv h rfl) (gv h rfl) rfl rfl (eqT_26 e4.Action_ e6.Action_)) ?_
    refine TL.st rfl rfl rfl (o_or rfl rfl rfl rfl (fun k => Gd_t k)) (TL.st rfl rfl rfl (o_move rfl rfl) (TL.gcq rfl rfl rfl (.bool _) rfl rfl (fun h => o_fieldAddr rfl rfl rfl tyS_26 (by decide) rfl rfl ⟨_, rfl, Nat.le_of_ble_eq_true rfl⟩) ?_))
    refine TL.gcq rfl rfl rfl (.bool _) rfl rfl (fun h => o_loadBx rfl tyS_26 (gv h rfl) rfl (Nat.le_of_ble_eq_true rfl) rfl) ?_
    refine TL.gcq rfl rfl rfl (.bool _) rfl rfl (fun h => o_fieldAddr rfl rfl rfl tyS_26 (by decide) rfl rfl ⟨_, rfl, Nat.le_of_ble_eq_true rfl⟩) ?_
    refine TL.gcq rfl rfl rfl (.bool _) rfl rfl (fun h => o_loadBx rfl tyS_26 (gv h rfl) rfl (Nat.le_of_ble_eq_true rfl) rfl) ?_
    refine TL.gcq rfl rfl rfl (.bool _) rfl rfl (fun h => o_neA rfl rfl eqG_26 (gv h rfl) (gv h rfl) rfl rfl (eqT_26 e4.Resource_ e6.Resource_)) ?_
    refine TL.st rfl rfl rfl (o_or rfl rfl rfl rfl (fun k => Gd_t k)) (TL.st rfl rfl rfl (o_move rfl rfl) (TL.gcq rfl rfl rfl (.bool _) rfl rfl (fun h => o_fieldAddr rfl rfl rfl tyS_27 (by decide) rfl rfl ⟨_, rfl, Nat.le_of_ble_eq_true rfl⟩) ?_))
    refine TL.gcq rfl rfl rfl (.bool _) rfl rfl (fun h => o_loadBx rfl tyS_27 (gv h rfl) rfl (Nat.le_of_ble_eq_true rfl) rfl) ?_
    refine TL.gcq rfl rfl rfl (.bool _) rfl rfl (fun h => o_fieldAddr rfl rfl rfl tyS_27 (by decide) rfl rfl ⟨_, rfl, Nat.le_of_ble_eq_true rfl⟩) ?_
    refine TL.gcq rfl rfl rfl (.bool _) rfl rfl (fun h => o_loadBx rfl tyS_27 (gv h rfl) rfl (Nat.le_of_ble_eq_true rfl) rfl) ?_
    obtain ⟨r8, h9, H⟩ := bind_s H
    refine TL.gcq rfl rfl rfl (.bool _) rfl rfl (fun h => o_callP rfl en_10 rfl (evl_2 (gv h rfl) (gv h rfl)) (.cons _ _ _ _ (.cl _ rfl) (.cons _ _ _ _ (.cl _ rfl) .nil)) (laws_zExpr_p false false (gdO_t h9 h))) ?_
    refine TL.gcq rfl rfl rfl (.bool _) rfl rfl (fun h => o_not rfl (gv h rfl)) ?_
    refine TL.st rfl rfl rfl (o_or rfl rfl rfl rfl (fun k => Gd_t k)) (TL.nil (thn_normal ?_))
    refine T.cond (((((((!(e4.Id_.toList == e6.Id_.toList)) || (!(e4.Permit_ == e6.Permit_))) || (!(e4.Principal_ == e6.Principal_))) || (!(e4.Action_ == e6.Action_))) || (!(e4.Resource_ == e6.Resource_))) || (!r8))) rfl (fun h => ?_) (fun h => ?_)
    ·replace H := cond_t h H
     refine T.seq (T.region (TL.st rfl rfl rfl (o_assign rfl rfl) (TL.nil (thn_normal (T.ret (inB_ret (thn_ret ?_)))))))
     exact Pk.id (thn_ret ⟨.inr false, (some_i H).symm, rfl, ⟨trivial, _, (.tmp _ _ _ _ rfl .nil), (.cl _ rfl)⟩⟩)
    ·replace H := cond_f h H
     refine T.skip (inB_normal (thn_normal (T.region (TL.st rfl rfl rfl (o_ari rfl rfl rfl rfl) (TL.st rfl rfl rfl (o_move rfl rfl) (TL.nil ?_))))))
     exact Pk.go (fr' := [(0, .im b0 (a0.map (c_T_impl_Policy false))), (1, .im b1 (a1.map (c_T_impl_Policy false))), (14, .int .i64 (a0.length : Int)), (15, .int .i64 (IntKind.i64.wrap (v1 + 1)))]) (σ' := []) _ rfl rfl trivial (.cons 0 _ (.im b0 (a0.map (c_T_impl_Policy false))) _ rfl (.same _) rfl (.cons 1 _ (.im b1 (a1.map (c_T_impl_Policy false))) _ rfl (.same _) rfl (.cons 14 _ (.int .i64 (a0.length : Int)) _ rfl (.same _) rfl (.cons 15 _ (.int .i64 (IntKind.i64.wrap (v1 + 1))) _ rfl (.same _) rfl .nil)))) (thn_normal ⟨(IntKind.i64.wrap (v1 + 1)), (some_i H).symm, rfl, rfl⟩)
   ·replace H := cond_f h H
    refine T.exit (thn_exit ?_)
    exact Pk.go (fr' := []) (σ' := []) _ rfl rfl trivial .nil (thn_exit ⟨.inl (), (some_i H).symm, rfl, rfl, rfl⟩)
  ·rintro v1 v1'; rfl
  ·rintro v1; exact trivial
  ·rintro v1; exact (.cons _ _ _ rfl rfl (.cons _ _ _ rfl rfl (.cons _ _ _ rfl rfl (.cons _ _ _ rfl rfl .nil))))
  ·rcases q10 with ⟨⟩ | q2
   ·rintro _ _ _ ⟨rfl, rfl, rfl⟩
    refine inB_here (thn_normal (T.seq (T.region (TL.st rfl rfl rfl (o_assign rfl rfl) (TL.nil (thn_normal (T.ret ?_)))))))
    cases some_i H
    exact ⟨trivial, _, (.tmp _ _ _ _ rfl .nil), (.cl _ rfl)⟩
   ·rintro _ fr1 σ1 ⟨rfl, hr⟩
    refine inB_ret (thn_ret ?_)
    cases some_i H
    exact hr
theorem en_7 (us : Array Value) (w : World) : (callFunc 7 us).run Go.Proofs.Tryz.prog w = .ok (.enter 7 us) w := enters Go.Proofs.Tryz.func7 rfl rfl us w
noncomputable def spec_IsSlot (a0 : T_impl_Head) : Option Bool :=
  (spec_l10Slot a0).bind fun r1 => some r1
theorem spec_IsSlot_p  {a0 : T_impl_Head} {R0 : Bool} (H : spec_IsSlot a0 = some R0) : Pure Go.Proofs.Tryz.prog 8 [.agg (c_T_impl_Head false a0)] (.bool R0) := by
 refine CallT.of_TN (n := 5) Go.Proofs.Tryz.func8 rfl rfl rfl rfl ?_
 refine T.seq (T.region (TL.st rfl rfl rfl (o_box rfl rfl rfl) (TL.st rfl rfl rfl (o_assign rfl rfl) (TL.nil (thn_normal (T.seq (T.region (TL.st rfl rfl rfl (o_loadBx rfl tyS_26 rfl rfl (Nat.le_of_ble_eq_true rfl) rfl) ?_))))))))
 obtain ⟨r1, h2, H⟩ := bind_s H
 refine TL.st rfl rfl rfl (o_callP rfl en_27 rfl rfl (.cons _ _ _ _ (.cl _ rfl) .nil) (spec_l10Slot_p  h2)) ?_
 refine TL.st rfl rfl rfl (o_assign rfl rfl) (TL.nil (thn_normal (T.ret ?_)))
 cases some_i H
 exact ⟨trivial, _, (.tmp _ _ _ _ rfl .nil), (.cl _ rfl)⟩
theorem en_8 (us : Array Value) (w : World) : (callFunc 8 us).run Go.Proofs.Tryz.prog w = .ok (.enter 8 us) w := enters Go.Proofs.Tryz.func8 rfl rfl us w
noncomputable def impl_GoodThings  : Option Bool :=
  some true
theorem impl_GoodThings_p   {R0 : Bool} (H : impl_GoodThings = some R0) : Pure Go.Proofs.Tryz.prog 29 [.nilS] (.bool R0) := by
 refine CallT.of_TN (n := 50) Go.Proofs.Tryz.func29 rfl rfl rfl rfl ?_
 refine T.seq (T.region (TL.st rfl rfl rfl (o_assign rfl rfl) (TL.nil (thn_normal (T.seq (T.seq (T.region (TL.st rfl rfl rfl (o_move rfl rfl) (TL.st rfl rfl rfl (o_lenNil rfl rfl rfl) ?_)))))))))
 refine TL.st rfl rfl rfl (o_ari rfl rfl rfl rfl) (TL.nil (thn_normal ?_))
 refine T.cond (false) rfl (fun h => by cases h) (fun h => ?_)
 refine T.skip (thn_normal (T.seq (T.seq (T.region (TL.st rfl rfl rfl (o_move rfl rfl) (TL.st rfl rfl rfl (o_lenNil rfl rfl rfl) ?_))))))
 refine TL.st rfl rfl rfl (o_move rfl rfl) (TL.nil (thn_normal (T.block (T.unroll 1 ?_))))
 refine TR.go (T.seq (T.region (TL.st rfl rfl rfl (o_ari rfl rfl rfl rfl) (TL.nil (thn_normal (T.seq ?_))))))
 refine T.cond (false) rfl (fun h => by cases h) (fun h => ?_)
 refine T.exit (thn_exit (pr_exit ?_))
 refine inB_here (thn_normal (T.seq (T.region (TL.st rfl rfl rfl (o_assign rfl rfl) (TL.nil (thn_normal (T.ret ?_)))))))
 cases some_i H
 exact ⟨trivial, _, (.tmp _ _ _ _ rfl .nil), (.cl _ rfl)⟩
theorem en_29 (us : Array Value) (w : World) : (callFunc 29 us).run Go.Proofs.Tryz.prog w = .ok (.enter 29 us) w := enters Go.Proofs.Tryz.func29 rfl rfl us w
noncomputable def impl_Thing_ (s0 : T_impl_Atom) : Option Int :=
  some (-1)
theorem impl_Thing__p  {s0 : T_impl_Atom} {R0 : Int} (H : impl_Thing_ s0 = some R0) : St Go.Proofs.Tryz.prog 99 [.nilS, .fn 100 [] [.bx 0 0]] [.box (c_T_impl_Atom false s0)] (.int .i64 R0) [.box (c_T_impl_Atom false s0)] := by
 refine CallT.fin (CallT.of_TN (n := 19) Go.Proofs.Tryz.func99 rfl rfl rfl rfl ?_) rfl rfl ⟨(bels_iff.1 rfl), trivial⟩
 refine T.seq (T.region (TL.st rfl rfl rfl (o_assign rfl rfl) (TL.nil (thn_normal (T.seq (T.seq (T.region (TL.st rfl rfl rfl (o_move rfl rfl) (TL.st rfl rfl rfl (o_lenNil rfl rfl rfl) ?_)))))))))
 refine TL.st rfl rfl rfl (o_move rfl rfl) (TL.nil (thn_normal (T.block (T.unroll 1 ?_))))
 refine TR.go (T.seq (T.region (TL.st rfl rfl rfl (o_ari rfl rfl rfl rfl) (TL.nil (thn_normal (T.seq ?_))))))
 refine T.cond (false) rfl (fun h => by cases h) (fun h => ?_)
 refine T.exit (thn_exit (pr_exit ?_))
 refine inB_here (thn_normal (T.seq (T.region (TL.st rfl rfl rfl (o_assign rfl rfl) (TL.nil (thn_normal (T.ret ?_)))))))
 cases some_i H
 exact ⟨trivial, _, (.tmp _ _ _ _ rfl .nil), ⟨rfl, _, rfl⟩⟩
theorem en_99 (us : Array Value) (w : World) : (callFunc 99 us).run Go.Proofs.Tryz.prog w = .ok (.enter 99 us) w := enters Go.Proofs.Tryz.func99 rfl rfl us w
theorem tyS_78 : TyS Go.Proofs.Tryz.prog 78 true 7 := ⟨rfl, rfl⟩
noncomputable def impl_yfindThing (a0 : T_impl_Atom) : Option (T_impl_Thing × Bool) :=
  some ((⟨(⟨0, 0, (ByteArray.mk #[]), (ByteArray.mk #[])⟩ : T_impl_Atom), ([] : List T_impl_Atom), ([] : List ByteArray), ([] : List T_impl_Value)⟩ : T_impl_Thing), false)
theorem impl_yfindThing_p  {a0 : T_impl_Atom} {R0 : T_impl_Thing} {R1 : Bool} (H : impl_yfindThing a0 = some (R0, R1)) : Pure Go.Proofs.Tryz.prog 85 [.nilS, .agg (c_T_impl_Atom false a0)] (.tup [.agg (c_T_impl_Thing false R0), .bool R1]) := by
 refine CallT.of_TN (n := 17) Go.Proofs.Tryz.func85 rfl rfl rfl rfl ?_
 refine T.seq (T.region (TL.st rfl rfl rfl (o_box rfl rfl rfl) (TL.st rfl rfl rfl (o_alloc rfl ⟨_, rfl, rfl⟩) (TL.st rfl rfl rfl (o_assign rfl rfl) (TL.nil (thn_normal (T.seq (T.region (TL.st rfl rfl rfl (o_move rfl rfl) (TL.st rfl rfl rfl (o_makeFunc rfl rfl rfl) ?_))))))))))
 refine TL.st rfl rfl rfl (o_callS [0] rfl en_99 rfl rfl (impl_Thing__p  (show impl_Thing_ a0 = some (-1) from rfl)) rfl (by decide) (.cons _ _ _ _ rfl .nil) rfl rfl rfl) ?_
 refine TL.st rfl rfl rfl (o_assign rfl rfl) (TL.nil (thn_normal (T.seq (T.seq (T.region (TL.st rfl rfl rfl (o_move rfl rfl) (TL.st rfl rfl rfl (o_ari rfl rfl rfl rfl) (TL.nil (thn_normal ?_)))))))))
 refine T.cond (true) rfl (fun h => ?_) (fun h => by cases h)
 refine T.seq (T.region (TL.st rfl rfl rfl (o_build rfl ⟨_, fun _ => rfl, rfl⟩ rfl rfl rfl) ?_))
 refine TL.sn rfl rfl (o_storeBx rfl tyS_78 rfl rfl rfl rfl (Nat.le_of_ble_eq_true rfl) rfl) ?_
 refine TL.st rfl rfl rfl (o_assign rfl rfl) (TL.nil (thn_normal (T.ret (thn_ret ?_))))
 cases some_i H
 exact ⟨trivial, _, (.cell _ _ _ _ _ _ _ _ _ _ rfl rfl tyS_78 (Nat.le_of_ble_eq_true rfl) rfl (.tmp _ _ _ _ rfl .nil)), (.tupL (.cons _ _ _ _ (.aggL (.cons _ _ _ _ (.cl _ rfl) (.cons _ _ _ _ (.cl _ rfl) (.cons _ _ _ _ (.cl _ rfl) (.cons _ _ _ _ (.cl _ rfl) (.cons _ _ _ _ .nil (.cons _ _ _ _ .nil (.cons _ _ _ _ .nil .nil)))))))) (.cons _ _ _ _ (.cl _ rfl) .nil)))⟩
theorem en_85 (us : Array Value) (w : World) : (callFunc 85 us).run Go.Proofs.Tryz.prog w = .ok (.enter 85 us) w := enters Go.Proofs.Tryz.func85 rfl rfl us w
theorem tyS_75 : TyS Go.Proofs.Tryz.prog 75 false 1 := ⟨rfl, rfl⟩
noncomputable def impl_yancestors (a0 : T_impl_Atom) : Option (List (T_impl_Atom × Bool)) :=
  some (mput ([] : List (T_impl_Atom × Bool)) a0 true)
theorem impl_yancestors_o  {a0 : T_impl_Atom} {R0 : (List (T_impl_Atom × Bool))} (H : impl_yancestors a0 = some R0) : OwnM Go.Proofs.Tryz.prog 59 [.nilS, .agg (c_T_impl_Atom false a0)] (R0.map fun e => ((fun e => .agg (c_T_impl_Atom false e)) e.1, (V.bool) e.2)) := by
 refine CallT.of_TN (n := 48) Go.Proofs.Tryz.func59 rfl rfl rfl rfl ?_
 refine T.seq (T.region (TL.st rfl rfl rfl (o_box rfl rfl rfl) (TL.st rfl rfl rfl (o_assign rfl rfl) (TL.nil (thn_normal (T.seq (T.region (TL.st rfl rfl rfl (o_makeMap rfl) ?_))))))))
 refine TL.st rfl rfl rfl (o_loadBx rfl tyS_24 rfl rfl (Nat.le_of_ble_eq_true rfl) rfl) ?_
 refine TL.sn rfl rfl (o_insert (p := 1) (fk := fun e => .agg (c_T_impl_Atom false e)) (fv := V.bool) (xs := ([] : List (T_impl_Atom × Bool))) rfl rfl (key_agg rfl eqT_24) rfl rfl rfl rfl rfl) ?_
 refine TL.st rfl rfl rfl (o_move rfl rfl) (TL.st rfl rfl rfl (o_assign rfl rfl) (TL.nil (thn_normal (T.seq (T.seq (T.region (TL.st rfl rfl rfl (o_loadBx rfl tyS_24 rfl rfl (Nat.le_of_ble_eq_true rfl) rfl) ?_)))))))
 refine TL.st rfl rfl rfl (o_sliceIm rfl rfl tyS_24 ⟨_, rfl, rfl⟩ (by decide) rfl rfl rfl rfl rfl rfl) ?_
 refine TL.st rfl rfl rfl (o_assign rfl rfl) (TL.nil (thn_normal (T.block (T.unroll 2 ?_))))
 refine TR.go (T.seq (T.seq (T.region (TL.st rfl rfl rfl (o_move rfl rfl) (TL.st rfl rfl rfl (o_lenL (f := c_T_impl_Atom false) (xs := ([a0] : List T_impl_Atom)) rfl rfl rfl) ?_)))))
 refine TL.st rfl rfl rfl (o_ari rfl rfl rfl rfl) (TL.nil (thn_normal ?_))
 refine T.cond (true) rfl (fun h => ?_) (fun h => by cases h)
 refine T.skip (thn_normal (T.seq (T.block (T.seq (T.region (TL.st rfl rfl rfl (o_move rfl rfl) (TL.st rfl rfl rfl (o_move rfl rfl) (TL.st rfl rfl rfl (o_ix (f := c_T_impl_Atom false) rfl rfl tyS_24 rfl rfl (show idx ([a0] : List T_impl_Atom) 0 = some a0 from rfl) rfl) ?_))))))))
 refine TL.st rfl rfl rfl (o_loadRf rfl tyS_24 rfl (Nat.le_of_ble_eq_true rfl) rfl) ?_
 refine TL.st rfl rfl rfl (o_callP rfl en_85 rfl rfl (.cons _ _ _ _ (.cl _ rfl) (.cons _ _ _ _ (.cl _ rfl) .nil)) (impl_yfindThing_p  (show impl_yfindThing a0 = some ((⟨(⟨0, 0, (ByteArray.mk #[]), (ByteArray.mk #[])⟩ : T_impl_Atom), ([] : List T_impl_Atom), ([] : List ByteArray), ([] : List T_impl_Value)⟩ : T_impl_Thing), false) from rfl))) ?_
 refine TL.st rfl rfl rfl (o_move rfl rfl) (TL.st rfl rfl rfl (o_extract rfl rfl rfl) (TL.st rfl rfl rfl (o_extract rfl rfl rfl) (TL.st rfl rfl rfl (o_alloc rfl ⟨_, rfl, rfl⟩) (TL.sn rfl rfl (o_storeBx rfl tyS_78 rfl rfl rfl rfl (Nat.le_of_ble_eq_true rfl) rfl) ?_))))
 refine TL.st rfl rfl rfl (o_assign rfl rfl) (TL.nil (thn_normal (T.seq (T.region (TL.st rfl rfl rfl (o_fieldAddr rfl rfl rfl tyS_75 (by decide) rfl rfl ⟨_, rfl, Nat.le_of_ble_eq_true rfl⟩) ?_)))))
 refine TL.st rfl rfl rfl (o_loadBx rfl tyS_75 rfl rfl (Nat.le_of_ble_eq_true rfl) rfl) ?_
 refine TL.st rfl rfl rfl (o_lenL (f := c_T_impl_Atom false) (xs := ([] : List T_impl_Atom)) rfl rfl rfl) ?_
 refine TL.st rfl rfl rfl (o_move rfl rfl) (TL.nil (thn_normal (T.block (T.unroll 1 ?_))))
 refine TR.go (T.seq (T.region (TL.st rfl rfl rfl (o_ari rfl rfl rfl rfl) (TL.nil (thn_normal (T.seq ?_))))))
 refine T.cond (false) rfl (fun h => by cases h) (fun h => ?_)
 refine T.exit (thn_exit (pr_exit ?_))
 refine inB_here (inB_normal (thn_normal (T.region (TL.st rfl rfl rfl (o_move rfl rfl) (TL.st rfl rfl rfl (o_subL (f := c_T_impl_Atom false) (xs := ([a0] : List T_impl_Atom)) rfl rfl tyS_24 rfl rfl rfl (fun _ => rfl) (show sub ([a0] : List T_impl_Atom) 1 (([a0] : List T_impl_Atom).length : Int) = some ([] : List T_impl_Atom) from rfl)) ?_)))))
 refine TL.st rfl rfl rfl (o_assign rfl rfl) (TL.nil (pr_normal (TR.go (T.seq (T.seq (T.region (TL.st rfl rfl rfl (o_move rfl rfl) (TL.st rfl rfl rfl (o_lenL (f := c_T_impl_Atom false) (xs := ([] : List T_impl_Atom)) rfl rfl rfl) ?_))))))))
 refine TL.st rfl rfl rfl (o_ari rfl rfl rfl rfl) (TL.nil (thn_normal ?_))
 refine T.cond (false) rfl (fun h => by cases h) (fun h => ?_)
 refine T.exit (thn_exit (pr_exit ?_))
 refine inB_here (thn_normal (T.seq (T.region (TL.st rfl rfl rfl (o_move rfl rfl) (TL.st rfl rfl rfl (o_assign rfl rfl) (TL.nil (thn_normal (T.ret ?_))))))))
 cases some_i H
 exact ⟨trivial, _, (.tmp _ _ _ _ rfl .nil), ⟨1, rfl, rfl⟩⟩
theorem en_59 (us : Array Value) (w : World) : (callFunc 59 us).run Go.Proofs.Tryz.prog w = .ok (.enter 59 us) w := enters Go.Proofs.Tryz.func59 rfl rfl us w
noncomputable def impl_yheadMatches (a0 : T_impl_Head) (a1 : T_impl_Atom) : Option Bool :=
  cond (a0.Kind_ == 1) (some true) (cond (a0.Kind_ == 2) (some (a0.Atom_ == a1)) (cond (a0.Kind_ == 3) ((impl_yancestors a1).bind fun r1 => some ((mget r1 a0.Atom_).getD false)) (cond (a0.Kind_ == 4) (some (a0.Type_.toList == a1.Type_.toList)) (some false))))
theorem impl_yheadMatches_p  {a0 : T_impl_Head} {a1 : T_impl_Atom} {R0 : Bool} (H : impl_yheadMatches a0 a1 = some R0) : Pure Go.Proofs.Tryz.prog 31 [.nilS, .agg (c_T_impl_Head false a0), .agg (c_T_impl_Atom false a1)] (.bool R0) := by
 refine CallT.of_TN (n := 32) Go.Proofs.Tryz.func31 rfl rfl rfl rfl ?_
 refine T.seq (T.region (TL.st rfl rfl rfl (o_box rfl rfl rfl) (TL.st rfl rfl rfl (o_box rfl rfl rfl) (TL.st rfl rfl rfl (o_assign rfl rfl) (TL.nil (thn_normal (T.seq (T.seq (T.region (TL.st rfl rfl rfl (o_fieldAddr rfl rfl rfl tyS_3 (by decide) rfl rfl ⟨_, rfl, Nat.le_of_ble_eq_true rfl⟩) ?_))))))))))
 refine TL.st rfl rfl rfl (o_loadBx rfl tyS_3 rfl rfl (Nat.le_of_ble_eq_true rfl) rfl) ?_
 refine TL.nil (thn_normal (T.block (T.seq (T.region (TL.st rfl rfl rfl (o_ari rfl rfl rfl rfl) (TL.st rfl rfl rfl (o_assign rfl rfl) (TL.nil (thn_normal ?_))))))))
 refine T.cond ((a0.Kind_ == 1)) rfl (fun h => ?_) (fun h => ?_)
 ·replace H := cond_t h H
  refine T.seq (T.region (TL.st rfl rfl rfl (o_assign rfl rfl) (TL.nil (thn_normal (T.ret (inB_ret (thn_ret ?_)))))))
  cases some_i H
  exact ⟨trivial, _, (.tmp _ _ _ _ rfl .nil), (.cl _ rfl)⟩
 ·replace H := cond_f h H
  refine T.seq (T.region (TL.st rfl rfl rfl (o_ari rfl rfl rfl rfl) (TL.st rfl rfl rfl (o_assign rfl rfl) (TL.nil (thn_normal ?_)))))
  refine T.cond ((a0.Kind_ == 2)) rfl (fun h => ?_) (fun h => ?_)
  ·replace H := cond_t h H
   refine T.seq (T.region (TL.st rfl rfl rfl (o_fieldAddr rfl rfl rfl tyS_24 (by decide) rfl rfl ⟨_, rfl, Nat.le_of_ble_eq_true rfl⟩) ?_))
   refine TL.st rfl rfl rfl (o_loadBx rfl tyS_24 rfl rfl (Nat.le_of_ble_eq_true rfl) rfl) ?_
   refine TL.st rfl rfl rfl (o_loadBx rfl tyS_24 rfl rfl (Nat.le_of_ble_eq_true rfl) rfl) ?_
   refine TL.st rfl rfl rfl (o_eqA rfl rfl eqG_24 rfl rfl rfl rfl (eqT_24 a0.Atom_ a1)) ?_
   refine TL.st rfl rfl rfl (o_assign rfl rfl) (TL.nil (thn_normal (T.ret (inB_ret (thn_ret ?_)))))
   cases some_i H
   exact ⟨trivial, _, (.tmp _ _ _ _ rfl .nil), (.cl _ rfl)⟩
  ·replace H := cond_f h H
   refine T.seq (T.region (TL.st rfl rfl rfl (o_ari rfl rfl rfl rfl) (TL.st rfl rfl rfl (o_assign rfl rfl) (TL.nil (thn_normal ?_)))))
   refine T.cond ((a0.Kind_ == 3)) rfl (fun h => ?_) (fun h => ?_)
   ·replace H := cond_t h H
    refine T.seq ?_
    obtain ⟨r1, h2, H⟩ := bind_s H
    refine T.drawS (fr' := [(0, .nilS), (1, .agg (c_T_impl_Head false a0)), (2, .agg (c_T_impl_Atom false a1)), (4, .bx 0 0), (5, .bx 1 0), (6, .bool ((mget r1 a0.Atom_).getD false)), (7, .bx 0 0), (8, .int .i64 a0.Kind_), (9, .bool (a0.Kind_ == 1)), (10, .bool (a0.Kind_ == 1)), (11, .bool (a0.Kind_ == 2)), (12, .bool (a0.Kind_ == 2)), (17, .bool (a0.Kind_ == 3)), (18, .bool (a0.Kind_ == 3)), (19, .nilS), (20, .agg (c_T_impl_Atom false a1)), (21, .mp 2), (22, .bx 0 1), (23, .agg (c_T_impl_Atom false a0.Atom_)), (24, .bool ((mget r1 a0.Atom_).getD false))]) (R := [⟨some 19, .nilS, .q, []⟩, ⟨some 20, .agg (c_T_impl_Atom false a1), .q, []⟩, ⟨some 21, .mp 2, .q, []⟩, ⟨some 22, .bx 0 1, .q, []⟩, ⟨some 23, .agg (c_T_impl_Atom false a0.Atom_), .q, []⟩, ⟨some 24, .bool ((mget r1 a0.Atom_).getD false), .q, []⟩, ⟨some 6, .bool ((mget r1 a0.Atom_).getD false), .q, []⟩]) (fun b => cond (b 2) ([.box (c_T_impl_Head false a0), .box (c_T_impl_Atom false a1), mpO (fun e => .agg (c_T_impl_Atom false e)) (V.bool) r1]) ([.box (c_T_impl_Head false a0), .box (c_T_impl_Atom false a1)])) rfl ?_ ?_ rfl rfl (FrL.get (.cons rfl (.cons rfl (.cons rfl (.cons rfl (.cons rfl (.cons rfl (.cons rfl (.cons rfl (.cons rfl (.cons rfl (.cons rfl (.cons rfl (.cons rfl (.cons rfl (.cons rfl (.cons rfl (.cons rfl (.cons rfl (.cons rfl (.cons rfl .nil))))))))))))))))))))) ?_
    ·refine .cons _ _ _ _ _ ⟨rfl, [(0, .nilS)], AllN.get rfl (.cons rfl .nil), fun b hd hn hk hc => ?_⟩ ?_
     ·exact ops_at (σ1 := [.box (c_T_impl_Head false a0), .box (c_T_impl_Atom false a1)]) (by simp only [show b 2 = false from (hn 2 rfl), cond_true, cond_false]) rfl (o_move rfl rfl) (Eq.trans (b := [.box (c_T_impl_Head false a0), .box (c_T_impl_Atom false a1)]) (by simp only [show updb b 0 2 = false from (updb_ne rfl).trans (hn 2 rfl), cond_true, cond_false]) rfl) rfl
     refine .cons _ _ _ _ _ ⟨rfl, [(5, .bx 1 0)], AllN.get rfl (.cons rfl .nil), fun b hd hn hk hc => ?_⟩ ?_
     ·exact ops_at (σ1 := [.box (c_T_impl_Head false a0), .box (c_T_impl_Atom false a1)]) (by simp only [show b 2 = false from (hn 2 rfl), cond_true, cond_false]) rfl (o_loadBx rfl tyS_24 rfl rfl (Nat.le_of_ble_eq_true rfl) rfl) (Eq.trans (b := [.box (c_T_impl_Head false a0), .box (c_T_impl_Atom false a1)]) (by simp only [show updb b 1 2 = false from (updb_ne rfl).trans (hn 2 rfl), cond_true, cond_false]) rfl) rfl
     refine .cons _ _ _ _ _ ⟨rfl, [(19, .nilS), (20, .agg (c_T_impl_Atom false a1))], AllN.get rfl (.cons rfl (.cons rfl .nil)), fun b hd hn hk hc => ?_⟩ ?_
     ·exact ops_at (σ1 := [.box (c_T_impl_Head false a0), .box (c_T_impl_Atom false a1)]) (by simp only [show b 2 = false from hk, cond_true, cond_false]) rfl (o_callOwnM rfl en_59 rfl rfl (.cons _ _ _ _ (.cl _ rfl) (.cons _ _ _ _ (.cl _ rfl) .nil)) (impl_yancestors_o  h2) (fun e he => by obtain ⟨x, _, rfl⟩ := List.mem_map.1 he; rfl)) (Eq.trans (b := [.box (c_T_impl_Head false a0), .box (c_T_impl_Atom false a1), mpO (fun e => .agg (c_T_impl_Atom false e)) (V.bool) r1]) (by simp only [show updb b 2 2 = true from updb_self, cond_true, cond_false]) rfl) rfl
     refine .cons _ _ _ _ _ ⟨rfl, [(4, .bx 0 0)], AllN.get rfl (.cons rfl .nil), fun b hd hn hk hc => ?_⟩ ?_
     ·cases e2 : b 2
      ·exact ops_at (σ1 := [.box (c_T_impl_Head false a0), .box (c_T_impl_Atom false a1)]) (by simp only [show b 2 = false from e2, cond_true, cond_false]) rfl (o_fieldAddr rfl rfl rfl tyS_24 (by decide) rfl rfl ⟨_, rfl, Nat.le_of_ble_eq_true rfl⟩) (Eq.trans (b := [.box (c_T_impl_Head false a0), .box (c_T_impl_Atom false a1)]) (by simp only [show updb b 3 2 = false from (updb_ne rfl).trans e2, cond_true, cond_false]) rfl) rfl
      ·exact ops_at (σ1 := [.box (c_T_impl_Head false a0), .box (c_T_impl_Atom false a1), mpO (fun e => .agg (c_T_impl_Atom false e)) (V.bool) r1]) (by simp only [show b 2 = true from e2, cond_true, cond_false]) rfl (o_fieldAddr rfl rfl rfl tyS_24 (by decide) rfl rfl ⟨_, rfl, Nat.le_of_ble_eq_true rfl⟩) (Eq.trans (b := [.box (c_T_impl_Head false a0), .box (c_T_impl_Atom false a1), mpO (fun e => .agg (c_T_impl_Atom false e)) (V.bool) r1]) (by simp only [show updb b 3 2 = true from (updb_ne rfl).trans e2, cond_true, cond_false]) rfl) rfl
     refine .cons _ _ _ _ _ ⟨rfl, [(22, .bx 0 1)], AllN.get rfl (.cons rfl .nil), fun b hd hn hk hc => ?_⟩ ?_
     ·cases e2 : b 2
      ·exact ops_at (σ1 := [.box (c_T_impl_Head false a0), .box (c_T_impl_Atom false a1)]) (by simp only [show b 2 = false from e2, cond_true, cond_false]) rfl (o_loadBx rfl tyS_24 rfl rfl (Nat.le_of_ble_eq_true rfl) rfl) (Eq.trans (b := [.box (c_T_impl_Head false a0), .box (c_T_impl_Atom false a1)]) (by simp only [show updb b 4 2 = false from (updb_ne rfl).trans e2, cond_true, cond_false]) rfl) rfl
      ·exact ops_at (σ1 := [.box (c_T_impl_Head false a0), .box (c_T_impl_Atom false a1), mpO (fun e => .agg (c_T_impl_Atom false e)) (V.bool) r1]) (by simp only [show b 2 = true from e2, cond_true, cond_false]) rfl (o_loadBx rfl tyS_24 rfl rfl (Nat.le_of_ble_eq_true rfl) rfl) (Eq.trans (b := [.box (c_T_impl_Head false a0), .box (c_T_impl_Atom false a1), mpO (fun e => .agg (c_T_impl_Atom false e)) (V.bool) r1]) (by simp only [show updb b 4 2 = true from (updb_ne rfl).trans e2, cond_true, cond_false]) rfl) rfl
     refine .cons _ _ _ _ _ ⟨rfl, [(21, .mp 2), (23, .agg (c_T_impl_Atom false a0.Atom_))], AllN.get rfl (.cons rfl (.cons rfl .nil)), fun b hd hn hk hc => ?_⟩ ?_
     ·exact ops_at (σ1 := [.box (c_T_impl_Head false a0), .box (c_T_impl_Atom false a1), mpO (fun e => .agg (c_T_impl_Atom false e)) (V.bool) r1]) (by simp only [show b 2 = true from (hd 2 rfl), cond_true, cond_false]) rfl (o_lookup (fk := fun e => .agg (c_T_impl_Atom false e)) (fv := V.bool) (xs := r1) (z := false) rfl rfl (key_agg rfl eqT_24) rfl rfl rfl rfl (fun S w => ⟨_, rfl, .bool _⟩)) (Eq.trans (b := [.box (c_T_impl_Head false a0), .box (c_T_impl_Atom false a1), mpO (fun e => .agg (c_T_impl_Atom false e)) (V.bool) r1]) (by simp only [show updb b 5 2 = true from (updb_ne rfl).trans (hd 2 rfl), cond_true, cond_false]) rfl) rfl
     refine .cons _ _ _ _ _ ⟨rfl, [(24, .bool ((mget r1 a0.Atom_).getD false))], AllN.get rfl (.cons rfl .nil), fun b hd hn hk hc => ?_⟩ ?_
     ·exact ops_at (σ1 := [.box (c_T_impl_Head false a0), .box (c_T_impl_Atom false a1), mpO (fun e => .agg (c_T_impl_Atom false e)) (V.bool) r1]) (by simp only [show b 2 = true from (hd 2 rfl), cond_true, cond_false]) rfl (o_assign rfl rfl) (Eq.trans (b := [.box (c_T_impl_Head false a0), .box (c_T_impl_Atom false a1), mpO (fun e => .agg (c_T_impl_Atom false e)) (V.bool) r1]) (by simp only [show updb b 6 2 = true from (updb_ne rfl).trans (hd 2 rfl), cond_true, cond_false]) rfl) rfl
     exact .nil _
    ·intro b b' h; simp only [h 2 (by decide)]
    refine thn_normal (T.ret (inB_ret (thn_ret ?_)))
    cases some_i H
    exact ⟨trivial, _, (.tmp _ _ _ _ rfl .nil), (.cl _ rfl)⟩
   ·replace H := cond_f h H
    refine T.seq (T.region (TL.st rfl rfl rfl (o_ari rfl rfl rfl rfl) (TL.st rfl rfl rfl (o_assign rfl rfl) (TL.nil (thn_normal ?_)))))
    refine T.cond ((a0.Kind_ == 4)) rfl (fun h => ?_) (fun h => ?_)
    ·replace H := cond_t h H
     refine T.seq (T.region (TL.st rfl rfl rfl (o_fieldAddr rfl rfl rfl tyS_9 (by decide) rfl rfl ⟨_, rfl, Nat.le_of_ble_eq_true rfl⟩) ?_))
     refine TL.st rfl rfl rfl (o_loadBx rfl tyS_9 rfl rfl (Nat.le_of_ble_eq_true rfl) rfl) ?_
     refine TL.st rfl rfl rfl (o_fieldAddr rfl rfl rfl tyS_9 (by decide) rfl rfl ⟨_, rfl, Nat.le_of_ble_eq_true rfl⟩) ?_
     refine TL.st rfl rfl rfl (o_loadBx rfl tyS_9 rfl rfl (Nat.le_of_ble_eq_true rfl) rfl) ?_
     refine TL.st rfl rfl rfl (o_str rfl rfl rfl rfl) ?_
     refine TL.st rfl rfl rfl (o_assign rfl rfl) (TL.nil (thn_normal (T.ret (inB_ret (thn_ret ?_)))))
     cases some_i H
     exact ⟨trivial, _, (.tmp _ _ _ _ rfl .nil), (.cl _ rfl)⟩
    ·replace H := cond_f h H
     refine T.skip (inB_normal (thn_normal (T.seq (T.region (TL.st rfl rfl rfl (o_assign rfl rfl) (TL.nil (thn_normal (T.ret ?_))))))))
     cases some_i H
     exact ⟨trivial, _, (.tmp _ _ _ _ rfl .nil), (.cl _ rfl)⟩
theorem en_31 (us : Array Value) (w : World) : (callFunc 31 us).run Go.Proofs.Tryz.prog w = .ok (.enter 31 us) w := enters Go.Proofs.Tryz.func31 rfl rfl us w
noncomputable def impl_HeadMatches (a0 : T_impl_Head) (a1 : T_impl_Atom) : Option Bool :=
  (gdO true (impl_ygoodHead a0 false)).bind fun r2 => (gdO (true && r2) (impl_ygoodRef a1)).bind fun r4 => (gdO ((true && r2) && r4) (impl_yheadMatches a0 a1)).bind fun r6 => some (((true && r2) && r4) && r6)
theorem impl_HeadMatches_p  {a0 : T_impl_Head} {a1 : T_impl_Atom} {R0 : Bool} (H : impl_HeadMatches a0 a1 = some R0) : Pure Go.Proofs.Tryz.prog 9 [.nilS, .agg (c_T_impl_Head false a0), .agg (c_T_impl_Atom false a1)] (.bool R0) := by
 refine CallT.of_TN (n := 23) Go.Proofs.Tryz.func9 rfl rfl rfl rfl ?_
 refine T.seq (T.region (TL.st rfl rfl rfl (o_box rfl rfl rfl) (TL.st rfl rfl rfl (o_box rfl rfl rfl) (TL.st rfl rfl rfl (o_assign rfl rfl) (TL.nil (thn_normal (T.seq (T.region (TL.st rfl rfl rfl (o_move rfl rfl) (TL.st rfl rfl rfl (o_callP rfl en_29 rfl rfl (.cons _ _ _ _ (.cl _ rfl) .nil) (impl_GoodThings_p  (show impl_GoodThings = some true from rfl))) ?_))))))))))
 refine TL.st rfl rfl rfl (o_move rfl rfl) (TL.gcq rfl rfl rfl (.bool _) rfl rfl (fun h => o_loadBx rfl tyS_26 rfl rfl (Nat.le_of_ble_eq_true rfl) rfl) ?_)
 obtain ⟨r2, h3, H⟩ := bind_s H
 refine TL.gcq rfl rfl rfl (.bool _) rfl rfl (fun h => o_callP rfl en_30 rfl (evl_2 (gv h rfl) rfl) (.cons _ _ _ _ (.cl _ rfl) (.cons _ _ _ _ (.cl _ rfl) .nil)) (impl_ygoodHead_p  (gdO_t h3 h))) ?_
 refine TL.st rfl rfl rfl (o_and rfl rfl rfl (fun k => Gd_t k) rfl) (TL.st rfl rfl rfl (o_move rfl rfl) (TL.gcq rfl rfl rfl (.bool _) rfl rfl (fun h => o_loadBx rfl tyS_24 rfl rfl (Nat.le_of_ble_eq_true rfl) rfl) ?_))
 obtain ⟨r4, h5, H⟩ := bind_s H
 refine TL.gcq rfl rfl rfl (.bool _) rfl rfl (fun h => o_callP rfl en_21 rfl (evl_1 (gv h rfl)) (.cons _ _ _ _ (.cl _ rfl) .nil) (impl_ygoodRef_p  (gdO_t h5 h))) ?_
 refine TL.st rfl rfl rfl (o_and rfl rfl rfl (fun k => Gd_t k) rfl) (TL.st rfl rfl rfl (o_move rfl rfl) (TL.gcq rfl rfl rfl (.bool _) rfl rfl (fun h => o_move rfl rfl) (TL.gcq rfl rfl rfl (.bool _) rfl rfl (fun h => o_loadBx rfl tyS_26 rfl rfl (Nat.le_of_ble_eq_true rfl) rfl) ?_)))
 refine TL.gcq rfl rfl rfl (.bool _) rfl rfl (fun h => o_loadBx rfl tyS_24 rfl rfl (Nat.le_of_ble_eq_true rfl) rfl) ?_
 obtain ⟨r6, h7, H⟩ := bind_s H
 refine TL.gcq rfl rfl rfl (.bool _) rfl rfl (fun h => o_callP rfl en_31 rfl (evl_3 (gv h rfl) (gv h rfl) (gv h rfl)) (.cons _ _ _ _ (.cl _ rfl) (.cons _ _ _ _ (.cl _ rfl) (.cons _ _ _ _ (.cl _ rfl) .nil))) (impl_yheadMatches_p  (gdO_t h7 h))) ?_
 refine TL.st rfl rfl rfl (o_and rfl rfl rfl (fun k => Gd_t k) rfl) (TL.st rfl rfl rfl (o_assign rfl rfl) (TL.nil (thn_normal (T.ret ?_))))
 cases some_i H
 exact ⟨trivial, _, (.tmp _ _ _ _ rfl .nil), (.cl _ rfl)⟩
theorem en_9 (us : Array Value) (w : World) : (callFunc 9 us).run Go.Proofs.Tryz.prog w = .ok (.enter 9 us) w := enters Go.Proofs.Tryz.func9 rfl rfl us w
noncomputable def laws_FnLinked (a0 : (List Int)) : Option Bool :=
  cond (decide ((a0.length : Int) > 1048576)) (some true) ((spec_DrawLinkPolicy a0).bind fun q => (match q with | (r1, r2, r3, r4) => (impl_LinkPolicy r1 r2 r3 r4).bind fun q => (match q with | (r6, r7) => (spec_LinkPolicy r1 r2 r3 r4).bind fun q => (match q with | (r9, r10) => (gdO (!(!(r7 == r10))) (laws_zPolicies ([r6] : List T_impl_Policy) ([r9] : List T_impl_Policy))).bind fun r12 => cond ((!(r7 == r10)) || (!r12)) (some false) (cond (!r7) (some true) ((spec_IsSlot r1.Principal_).bind fun r14 => (gdO r14 (impl_HeadMatches r6.Principal_ r3)).bind fun r16 => (gdO (r14 && (!(!r16))) (impl_HeadMatches r1.Principal_ r3)).bind fun r18 => cond (r14 && ((!r16) || r18)) (some false) ((spec_IsSlot r1.Resource_).bind fun r20 => (gdO r20 (impl_HeadMatches r6.Resource_ r4)).bind fun r22 => (gdO (r20 && (!(!r22))) (impl_HeadMatches r1.Resource_ r4)).bind fun r24 => cond (r20 && ((!r22) || r24)) (some false) ((gdO (r6.Action_ == r1.Action_) (laws_zExpr r6.When_ r1.When_)).bind fun r26 => some (((r6.Action_ == r1.Action_) && r26) && (r6.Permit_ == r1.Permit_))))))))))
theorem laws_FnLinked_p (b0 : Bool) {a0 : (List Int)} {R0 : Bool} (H : laws_FnLinked a0 = some R0) : Pure Go.Proofs.Tryz.prog 3 [.im b0 (a0.map (c_int .u8))] (.bool R0) := by
 refine CallT.of_TN (n := 101) Go.Proofs.Tryz.func3 rfl rfl rfl rfl ?_
 refine T.seq (T.region (TL.st rfl rfl rfl (o_assign rfl rfl) (TL.nil (thn_normal (T.seq (T.seq (T.region (TL.st rfl rfl rfl (o_move rfl rfl) (TL.st rfl rfl rfl (o_lenL (f := c_int .u8) rfl rfl rfl) ?_)))))))))
 refine TL.st rfl rfl rfl (o_ari rfl rfl rfl rfl) (TL.nil (thn_normal ?_))
 refine T.cond (decide ((a0.length : Int) > 1048576)) rfl (fun h => ?_) (fun h => ?_)
 ·replace H := cond_t h H
  refine T.seq (T.region (TL.st rfl rfl rfl (o_assign rfl rfl) (TL.nil (thn_normal (T.ret (thn_ret ?_))))))
  cases some_i H
  exact ⟨trivial, _, (.tmp _ _ _ _ rfl .nil), (.cl _ rfl)⟩
 ·replace H := cond_f h H
  refine T.skip (thn_normal (T.seq (T.region (TL.st rfl rfl rfl (o_move rfl rfl) ?_))))
  obtain ⟨⟨r1, r2, r3, r4⟩, h5, H⟩ := bind_s H
  refine TL.st rfl rfl rfl (o_callP rfl en_4 rfl rfl (.cons _ _ _ _ (.imv _ _) .nil) (spec_DrawLinkPolicy_p b0 h5)) ?_
  refine TL.st rfl rfl rfl (o_move rfl rfl) (TL.st rfl rfl rfl (o_extract rfl rfl rfl) (TL.st rfl rfl rfl (o_extract rfl rfl rfl) (TL.st rfl rfl rfl (o_extract rfl rfl rfl) (TL.st rfl rfl rfl (o_extract rfl rfl rfl) (TL.st rfl rfl rfl (o_alloc rfl ⟨_, rfl, rfl⟩) (TL.st rfl rfl rfl (o_alloc rfl ⟨_, rfl, rfl⟩) (TL.st rfl rfl rfl (o_alloc rfl ⟨_, rfl, rfl⟩) (TL.sn rfl rfl (o_storeBx rfl tyS_29 rfl rfl rfl rfl (Nat.le_of_ble_eq_true rfl) rfl) ?_))))))))
  refine TL.st rfl rfl rfl (o_assign rfl rfl) (TL.sn rfl rfl (o_storeBx rfl tyS_24 rfl rfl rfl rfl (Nat.le_of_ble_eq_true rfl) rfl) ?_)
  refine TL.sn rfl rfl (o_storeBx rfl tyS_24 rfl rfl rfl rfl (Nat.le_of_ble_eq_true rfl) rfl) ?_
  refine TL.nil (thn_normal (T.seq (T.region (TL.st rfl rfl rfl (o_loadBx rfl tyS_29 rfl rfl (Nat.le_of_ble_eq_true rfl) rfl) ?_))))
  refine TL.st rfl rfl rfl (o_move rfl rfl) (TL.st rfl rfl rfl (o_loadBx rfl tyS_24 rfl rfl (Nat.le_of_ble_eq_true rfl) rfl) ?_)
  refine TL.st rfl rfl rfl (o_loadBx rfl tyS_24 rfl rfl (Nat.le_of_ble_eq_true rfl) rfl) ?_
  obtain ⟨⟨r6, r7⟩, h8, H⟩ := bind_s H
  refine TL.st rfl rfl rfl (o_callP rfl en_5 rfl rfl (.cons _ _ _ _ (.cl _ rfl) (.cons _ _ _ _ (.cl _ rfl) (.cons _ _ _ _ (.cl _ rfl) (.cons _ _ _ _ (.cl _ rfl) .nil)))) (impl_LinkPolicy_p false h8)) ?_
  refine TL.st rfl rfl rfl (o_move rfl rfl) (TL.st rfl rfl rfl (o_extract rfl rfl rfl) (TL.st rfl rfl rfl (o_extract rfl rfl rfl) (TL.st rfl rfl rfl (o_alloc rfl ⟨_, rfl, rfl⟩) (TL.sn rfl rfl (o_storeBx rfl tyS_29 rfl rfl rfl rfl (Nat.le_of_ble_eq_true rfl) rfl) ?_))))
  refine TL.st rfl rfl rfl (o_assign rfl rfl) (TL.nil (thn_normal (T.seq (T.region (TL.st rfl rfl rfl (o_loadBx rfl tyS_29 rfl rfl (Nat.le_of_ble_eq_true rfl) rfl) ?_)))))
  refine TL.st rfl rfl rfl (o_move rfl rfl) (TL.st rfl rfl rfl (o_loadBx rfl tyS_24 rfl rfl (Nat.le_of_ble_eq_true rfl) rfl) ?_)
  refine TL.st rfl rfl rfl (o_loadBx rfl tyS_24 rfl rfl (Nat.le_of_ble_eq_true rfl) rfl) ?_
  obtain ⟨⟨r9, r10⟩, h11, H⟩ := bind_s H
  refine TL.st rfl rfl rfl (o_callP rfl en_6 rfl rfl (.cons _ _ _ _ (.cl _ rfl) (.cons _ _ _ _ (.cl _ rfl) (.cons _ _ _ _ (.cl _ rfl) (.cons _ _ _ _ (.cl _ rfl) .nil)))) (spec_LinkPolicy_p false h11)) ?_
  refine TL.st rfl rfl rfl (o_move rfl rfl) (TL.st rfl rfl rfl (o_extract rfl rfl rfl) (TL.st rfl rfl rfl (o_extract rfl rfl rfl) (TL.st rfl rfl rfl (o_alloc rfl ⟨_, rfl, rfl⟩) (TL.sn rfl rfl (o_storeBx rfl tyS_29 rfl rfl rfl rfl (Nat.le_of_ble_eq_true rfl) rfl) ?_))))
  refine TL.st rfl rfl rfl (o_assign rfl rfl) (TL.nil (thn_normal (T.seq (T.seq (T.region (TL.st rfl rfl rfl (o_move rfl rfl) (TL.st rfl rfl rfl (o_move rfl rfl) (TL.st rfl rfl rfl (o_bne rfl rfl rfl rfl) ?_))))))))
  refine TL.st rfl rfl rfl (o_move rfl rfl) (TL.gcq rfl rfl rfl (.bool _) rfl rfl (fun h => o_loadBx rfl tyS_29 rfl rfl (Nat.le_of_ble_eq_true rfl) rfl) ?_)
  refine TL.gcq rfl rfl rfl (.bool _) rfl rfl (fun h => o_sliceIm rfl rfl tyS_29 ⟨_, rfl, rfl⟩ (by decide) (evp_c (gv h rfl) evp_n) rfl rfl rfl rfl rfl) ?_
  refine TL.gcq rfl rfl rfl (.bool _) rfl rfl (fun h => o_loadBx rfl tyS_29 rfl rfl (Nat.le_of_ble_eq_true rfl) rfl) ?_
  refine TL.gcq rfl rfl rfl (.bool _) rfl rfl (fun h => o_sliceIm rfl rfl tyS_29 ⟨_, rfl, rfl⟩ (by decide) (evp_c (gv h rfl) evp_n) rfl rfl rfl rfl rfl) ?_
  obtain ⟨r12, h13, H⟩ := bind_s H
  refine TL.gcq rfl rfl rfl (.bool _) rfl rfl (fun h => o_callP rfl en_7 rfl (evl_2 (gv h rfl) (gv h rfl)) (.cons _ _ _ _ (.cl _ rfl) (.cons _ _ _ _ (.cl _ rfl) .nil)) (laws_zPolicies_p false false (gdO_t h13 h))) ?_
  refine TL.gcq rfl rfl rfl (.bool _) rfl rfl (fun h => o_not rfl (gv h rfl)) ?_
  refine TL.st rfl rfl rfl (o_or rfl rfl rfl rfl (fun k => Gd_t k)) (TL.nil (thn_normal ?_))
  refine T.cond (((!(r7 == r10)) || (!r12))) rfl (fun h => ?_) (fun h => ?_)
  ·replace H := cond_t h H
   refine T.seq (T.region (TL.st rfl rfl rfl (o_assign rfl rfl) (TL.nil (thn_normal (T.ret (thn_ret ?_))))))
   cases some_i H
   exact ⟨trivial, _, (.tmp _ _ _ _ rfl .nil), (.cl _ rfl)⟩
  ·replace H := cond_f h H
   refine T.skip (thn_normal (T.seq (T.seq (T.region (TL.st rfl rfl rfl (o_move rfl rfl) (TL.st rfl rfl rfl (o_not rfl rfl) ?_))))))
   refine TL.nil (thn_normal ?_)
   refine T.cond ((!r7)) rfl (fun h => ?_) (fun h => ?_)
   ·replace H := cond_t h H
    refine T.seq (T.region (TL.st rfl rfl rfl (o_assign rfl rfl) (TL.nil (thn_normal (T.ret (thn_ret ?_))))))
    cases some_i H
    exact ⟨trivial, _, (.tmp _ _ _ _ rfl .nil), (.cl _ rfl)⟩
   ·replace H := cond_f h H
    refine T.skip (thn_normal (T.seq (T.seq (T.region (TL.st rfl rfl rfl (o_fieldAddr rfl rfl rfl tyS_26 (by decide) rfl rfl ⟨_, rfl, Nat.le_of_ble_eq_true rfl⟩) ?_)))))
    refine TL.st rfl rfl rfl (o_loadBx rfl tyS_26 rfl rfl (Nat.le_of_ble_eq_true rfl) rfl) ?_
    obtain ⟨r14, h15, H⟩ := bind_s H
    refine TL.st rfl rfl rfl (o_callP rfl en_8 rfl rfl (.cons _ _ _ _ (.cl _ rfl) .nil) (spec_IsSlot_p  h15)) ?_
    refine TL.st rfl rfl rfl (o_move rfl rfl) (TL.gcq rfl rfl rfl (.bool _) rfl rfl (fun h => o_fieldAddr rfl rfl rfl tyS_26 (by decide) rfl rfl ⟨_, rfl, Nat.le_of_ble_eq_true rfl⟩) ?_)
    refine TL.gcq rfl rfl rfl (.bool _) rfl rfl (fun h => o_loadBx rfl tyS_26 (gv h rfl) rfl (Nat.le_of_ble_eq_true rfl) rfl) ?_
    refine TL.gcq rfl rfl rfl (.bool _) rfl rfl (fun h => o_loadBx rfl tyS_24 rfl rfl (Nat.le_of_ble_eq_true rfl) rfl) ?_
    obtain ⟨r16, h17, H⟩ := bind_s H
    refine TL.gcq rfl rfl rfl (.bool _) rfl rfl (fun h => o_callP rfl en_9 rfl (evl_3 rfl (gv h rfl) (gv h rfl)) (.cons _ _ _ _ (.cl _ rfl) (.cons _ _ _ _ (.cl _ rfl) (.cons _ _ _ _ (.cl _ rfl) .nil))) (impl_HeadMatches_p  (gdO_t h17 h))) ?_
    refine TL.gcq rfl rfl rfl (.bool _) rfl rfl (fun h => o_not rfl (gv h rfl)) ?_
    refine TL.gcq rfl rfl rfl (.bool _) rfl rfl (fun h => o_move rfl (gv h rfl)) ?_
    refine TL.gcq rfl rfl rfl (.gd _ _) rfl rfl (fun h => o_fieldAddr rfl rfl rfl tyS_26 (by decide) rfl rfl ⟨_, rfl, Nat.le_of_ble_eq_true rfl⟩) ?_
    refine TL.gcq rfl rfl rfl (.gd _ _) rfl rfl (fun h => o_loadBx rfl tyS_26 (gv h rfl) rfl (Nat.le_of_ble_eq_true rfl) rfl) ?_
    refine TL.gcq rfl rfl rfl (.gd _ _) rfl rfl (fun h => o_loadBx rfl tyS_24 rfl rfl (Nat.le_of_ble_eq_true rfl) rfl) ?_
    obtain ⟨r18, h19, H⟩ := bind_s H
    refine TL.gcq rfl rfl rfl (.gd _ _) rfl rfl (fun h => o_callP rfl en_9 rfl (evl_3 rfl (gv h rfl) (gv h rfl)) (.cons _ _ _ _ (.cl _ rfl) (.cons _ _ _ _ (.cl _ rfl) (.cons _ _ _ _ (.cl _ rfl) .nil))) (impl_HeadMatches_p  (gdO_t h19 h))) ?_
    refine TL.gcq rfl rfl rfl (.bool _) rfl rfl (fun h => o_or rfl (gv h rfl) rfl rfl (fun k => Gd_t (andi h k))) ?_
    refine TL.st rfl rfl rfl (o_and rfl rfl rfl (fun k => Gd_t k) rfl) (TL.nil (thn_normal ?_))
    refine T.cond ((r14 && ((!r16) || r18))) rfl (fun h => ?_) (fun h => ?_)
    ·replace H := cond_t h H
     refine T.seq (T.region (TL.st rfl rfl rfl (o_assign rfl rfl) (TL.nil (thn_normal (T.ret (thn_ret ?_))))))
     cases some_i H
     exact ⟨trivial, _, (.tmp _ _ _ _ rfl .nil), (.cl _ rfl)⟩
    ·replace H := cond_f h H
     refine T.skip (thn_normal (T.seq (T.seq (T.region (TL.st rfl rfl rfl (o_fieldAddr rfl rfl rfl tyS_26 (by decide) rfl rfl ⟨_, rfl, Nat.le_of_ble_eq_true rfl⟩) ?_)))))
     refine TL.st rfl rfl rfl (o_loadBx rfl tyS_26 rfl rfl (Nat.le_of_ble_eq_true rfl) rfl) ?_
     obtain ⟨r20, h21, H⟩ := bind_s H
     refine TL.st rfl rfl rfl (o_callP rfl en_8 rfl rfl (.cons _ _ _ _ (.cl _ rfl) .nil) (spec_IsSlot_p  h21)) ?_
     refine TL.st rfl rfl rfl (o_move rfl rfl) (TL.gcq rfl rfl rfl (.bool _) rfl rfl (fun h => o_fieldAddr rfl rfl rfl tyS_26 (by decide) rfl rfl ⟨_, rfl, Nat.le_of_ble_eq_true rfl⟩) ?_)
     refine TL.gcq rfl rfl rfl (.bool _) rfl rfl (fun h => o_loadBx rfl tyS_26 (gv h rfl) rfl (Nat.le_of_ble_eq_true rfl) rfl) ?_
     refine TL.gcq rfl rfl rfl (.bool _) rfl rfl (fun h => o_loadBx rfl tyS_24 rfl rfl (Nat.le_of_ble_eq_true rfl) rfl) ?_
     obtain ⟨r22, h23, H⟩ := bind_s H
     refine TL.gcq rfl rfl rfl (.bool _) rfl rfl (fun h => o_callP rfl en_9 rfl (evl_3 rfl (gv h rfl) (gv h rfl)) (.cons _ _ _ _ (.cl _ rfl) (.cons _ _ _ _ (.cl _ rfl) (.cons _ _ _ _ (.cl _ rfl) .nil))) (impl_HeadMatches_p  (gdO_t h23 h))) ?_
     refine TL.gcq rfl rfl rfl (.bool _) rfl rfl (fun h => o_not rfl (gv h rfl)) ?_
     refine TL.gcq rfl rfl rfl (.bool _) rfl rfl (fun h => o_move rfl (gv h rfl)) ?_
     refine TL.gcq rfl rfl rfl (.gd _ _) rfl rfl (fun h => o_fieldAddr rfl rfl rfl tyS_26 (by decide) rfl rfl ⟨_, rfl, Nat.le_of_ble_eq_true rfl⟩) ?_
     refine TL.gcq rfl rfl rfl (.gd _ _) rfl rfl (fun h => o_loadBx rfl tyS_26 (gv h rfl) rfl (Nat.le_of_ble_eq_true rfl) rfl) ?_
     refine TL.gcq rfl rfl rfl (.gd _ _) rfl rfl (fun h => o_loadBx rfl tyS_24 rfl rfl (Nat.le_of_ble_eq_true rfl) rfl) ?_
     obtain ⟨r24, h25, H⟩ := bind_s H
     refine TL.gcq rfl rfl rfl (.gd _ _) rfl rfl (fun h => o_callP rfl en_9 rfl (evl_3 rfl (gv h rfl) (gv h rfl)) (.cons _ _ _ _ (.cl _ rfl) (.cons _ _ _ _ (.cl _ rfl) (.cons _ _ _ _ (.cl _ rfl) .nil))) (impl_HeadMatches_p  (gdO_t h25 h))) ?_
     refine TL.gcq rfl rfl rfl (.bool _) rfl rfl (fun h => o_or rfl (gv h rfl) rfl rfl (fun k => Gd_t (andi h k))) ?_
     refine TL.st rfl rfl rfl (o_and rfl rfl rfl (fun k => Gd_t k) rfl) (TL.nil (thn_normal ?_))
     refine T.cond ((r20 && ((!r22) || r24))) rfl (fun h => ?_) (fun h => ?_)
     ·replace H := cond_t h H
      refine T.seq (T.region (TL.st rfl rfl rfl (o_assign rfl rfl) (TL.nil (thn_normal (T.ret (thn_ret ?_))))))
      cases some_i H
      exact ⟨trivial, _, (.tmp _ _ _ _ rfl .nil), (.cl _ rfl)⟩
     ·replace H := cond_f h H
      refine T.skip (thn_normal (T.seq (T.region (TL.st rfl rfl rfl (o_fieldAddr rfl rfl rfl tyS_26 (by decide) rfl rfl ⟨_, rfl, Nat.le_of_ble_eq_true rfl⟩) ?_))))
      refine TL.st rfl rfl rfl (o_loadBx rfl tyS_26 rfl rfl (Nat.le_of_ble_eq_true rfl) rfl) ?_
      refine TL.st rfl rfl rfl (o_fieldAddr rfl rfl rfl tyS_26 (by decide) rfl rfl ⟨_, rfl, Nat.le_of_ble_eq_true rfl⟩) ?_
      refine TL.st rfl rfl rfl (o_loadBx rfl tyS_26 rfl rfl (Nat.le_of_ble_eq_true rfl) rfl) ?_
      refine TL.st rfl rfl rfl (o_eqA rfl rfl eqG_26 rfl rfl rfl rfl (eqT_26 r6.Action_ r1.Action_)) ?_
      refine TL.st rfl rfl rfl (o_move rfl rfl) (TL.gcq rfl rfl rfl (.bool _) rfl rfl (fun h => o_fieldAddr rfl rfl rfl tyS_27 (by decide) rfl rfl ⟨_, rfl, Nat.le_of_ble_eq_true rfl⟩) ?_)
      refine TL.gcq rfl rfl rfl (.bool _) rfl rfl (fun h => o_loadBx rfl tyS_27 (gv h rfl) rfl (Nat.le_of_ble_eq_true rfl) rfl) ?_
      refine TL.gcq rfl rfl rfl (.bool _) rfl rfl (fun h => o_fieldAddr rfl rfl rfl tyS_27 (by decide) rfl rfl ⟨_, rfl, Nat.le_of_ble_eq_true rfl⟩) ?_
      refine TL.gcq rfl rfl rfl (.bool _) rfl rfl (fun h => o_loadBx rfl tyS_27 (gv h rfl) rfl (Nat.le_of_ble_eq_true rfl) rfl) ?_
      obtain ⟨r26, h27, H⟩ := bind_s H
      refine TL.gcq rfl rfl rfl (.bool _) rfl rfl (fun h => o_callP rfl en_10 rfl (evl_2 (gv h rfl) (gv h rfl)) (.cons _ _ _ _ (.cl _ rfl) (.cons _ _ _ _ (.cl _ rfl) .nil)) (laws_zExpr_p false false (gdO_t h27 h))) ?_
      refine TL.st rfl rfl rfl (o_and rfl rfl rfl (fun k => Gd_t k) rfl) (TL.st rfl rfl rfl (o_move rfl rfl) (TL.gcq rfl rfl rfl (.bool _) rfl rfl (fun h => o_fieldAddr rfl rfl rfl tyS_4 (by decide) rfl rfl ⟨_, rfl, Nat.le_of_ble_eq_true rfl⟩) ?_))
      refine TL.gcq rfl rfl rfl (.bool _) rfl rfl (fun h => o_loadBx rfl tyS_4 (gv h rfl) rfl (Nat.le_of_ble_eq_true rfl) rfl) ?_
      refine TL.gcq rfl rfl rfl (.bool _) rfl rfl (fun h => o_fieldAddr rfl rfl rfl tyS_4 (by decide) rfl rfl ⟨_, rfl, Nat.le_of_ble_eq_true rfl⟩) ?_
      refine TL.gcq rfl rfl rfl (.bool _) rfl rfl (fun h => o_loadBx rfl tyS_4 (gv h rfl) rfl (Nat.le_of_ble_eq_true rfl) rfl) ?_
      refine TL.gcq rfl rfl rfl (.bool _) rfl rfl (fun h => o_beq rfl rfl (gv h rfl) (gv h rfl)) ?_
      refine TL.st rfl rfl rfl (o_and rfl rfl rfl (fun k => Gd_t k) rfl) (TL.st rfl rfl rfl (o_assign rfl rfl) (TL.nil (thn_normal (T.ret ?_))))
      cases some_i H
      exact ⟨trivial, _, (.tmp _ _ _ _ rfl .nil), (.cl _ rfl)⟩
end Go.G36.ZL
