import Derived.Test.YtnndbiialpaccaaDoorRV12
set_option linter.all false
set_option maxRecDepth 20000
set_option maxHeartbeats 4000000
namespace Go.G36.RV1
open Go Go.Proofs Go.G36.RV
theorem spec_l2Armor_p (b0 : Bool) {a0 : (List Int)} {R0 : ByteArray} (H : spec_l2Armor a0 = some R0) : Pure Go.Proofs.Tryd.prog 33 [.im b0 (a0.map (c_int .u8))] (.str R0) := by
  refine CallT.of_TN (n := 50) Go.Proofs.Tryd.func33 rfl rfl rfl rfl ?_
  refine T.seq ?_
  refine T.region ?_
  refine TL.st rfl rfl rfl (o_assign rfl rfl) ?_
  refine TL.nil ?_
  refine thn_normal ?_
  refine T.seq ?_
  refine T.region ?_
  refine TL.st rfl rfl rfl (o_assign rfl rfl) ?_
  refine TL.nil ?_
  refine thn_normal ?_
  refine T.seq ?_
  refine T.seq ?_
  refine T.region ?_
  refine TL.st rfl rfl rfl (o_assign rfl rfl) ?_
  refine TL.nil ?_
  refine thn_normal ?_
  refine T.block ?_
  refine T.conv (Cs.own (t := 3) 1 rfl (by decide)) ?_
  obtain ⟨l3, h23, H⟩ := bind_s H
  refine T.to (.cons 0 _ (.im b0 (a0.map (c_int .u8))) _ rfl (.same _) rfl (.cons 3 _ (.hd 0 (([] : List Int).map (c_int .u8)).length 0 (([] : List Int).map (c_int .u8)).length) _ rfl (.same _) rfl (.cons 4 _ (.int .i64 0) _ rfl (.same _) rfl .nil))) ?_
  refine T.lp (fun s => match s with | (l1, v2) => [(0, .im b0 (a0.map (c_int .u8))), (3, .hd 0 (l1.map (c_int .u8)).length 0 (l1.map (c_int .u8)).length), (4, .int .i64 v2)]) (fun s => match s with | (l1, v2) => [.arr .clo 1 (l1.map (c_int .u8))]) (fun q ex fr σ => match q with | l3 => ex = .exit 0 ∧ fr = [(3, .hd 0 (l3.map (c_int .u8)).length 0 (l3.map (c_int .u8)).length)] ∧ σ = [.arr .clo 1 (l3.map (c_int .u8))]) h23 ?_ ?_ ?_ ?_ ?_
  · rintro ⟨l1, v2⟩ y4 H
    refine T.seq ?_
    refine T.seq ?_
    refine T.region ?_
    refine TL.st rfl rfl rfl (o_move rfl rfl) ?_
    refine TL.st rfl rfl rfl (o_move rfl rfl) ?_
    refine TL.st rfl rfl rfl (o_lenL (f := c_int .u8) rfl rfl rfl) ?_
    refine TL.st rfl rfl rfl (o_ari rfl rfl rfl rfl) ?_
    refine TL.st rfl rfl rfl (o_ari rfl rfl rfl rfl) ?_
    refine TL.nil ?_
    refine thn_normal ?_
    refine T.cond (decide (v2 < (IntKind.i64.wrap ((a0.length : Int) * 8)))) rfl (fun h => ?_) (fun h => ?_)
    · replace H := cond_t h H
      refine T.skip ?_
      refine thn_normal ?_
      refine T.seq ?_
      refine T.block ?_
      refine T.seq ?_
      refine T.region ?_
      refine TL.st rfl rfl rfl (o_assign rfl rfl) ?_
      refine TL.nil ?_
      refine thn_normal ?_
      refine T.seq ?_
      refine T.seq ?_
      refine T.region ?_
      refine TL.st rfl rfl rfl (o_move rfl rfl) ?_
      refine TL.st rfl rfl rfl (o_assign rfl rfl) ?_
      refine TL.nil ?_
      refine thn_normal ?_
      refine T.block ?_
      obtain ⟨v7, h21, H⟩ := bind_s H
      refine T.to (.cons 0 _ (.im b0 (a0.map (c_int .u8))) _ rfl (.same _) rfl (.cons 3 _ (.hd 0 (l1.map (c_int .u8)).length 0 (l1.map (c_int .u8)).length) _ rfl (.same _) rfl (.cons 4 _ (.int .i64 v2) _ rfl (.same _) rfl (.cons 5 _ (.int .i64 0) _ rfl (.same _) rfl (.cons 6 _ (.int .i64 v2) _ rfl (.same _) rfl .nil))))) ?_
      refine T.lp (fun s => match s with | (v5, v6) => [(0, .im b0 (a0.map (c_int .u8))), (3, .hd 0 (l1.map (c_int .u8)).length 0 (l1.map (c_int .u8)).length), (4, .int .i64 v2), (5, .int .i64 v5), (6, .int .i64 v6)]) (fun s => match s with | (v5, v6) => [.arr .clo 1 (l1.map (c_int .u8))]) (fun q ex fr σ => match q with | v7 => ex = .exit 2 ∧ fr = [(0, .im b0 (a0.map (c_int .u8))), (3, .hd 0 (l1.map (c_int .u8)).length 0 (l1.map (c_int .u8)).length), (4, .int .i64 v2), (5, .int .i64 v7)] ∧ σ = [.arr .clo 1 (l1.map (c_int .u8))]) h21 ?_ ?_ ?_ ?_ ?_
      · rintro ⟨v5, v6⟩ y14 H
        refine T.seq ?_
        refine T.seq ?_
        refine T.region ?_
        refine TL.st rfl rfl rfl (o_move rfl rfl) ?_
        refine TL.st rfl rfl rfl (o_move rfl rfl) ?_
        refine TL.st rfl rfl rfl (o_ari rfl rfl rfl rfl) ?_
        refine TL.st rfl rfl rfl (o_ari rfl rfl rfl rfl) ?_
        refine TL.nil ?_
        refine thn_normal ?_
        refine T.cond (decide (v6 < (IntKind.i64.wrap (v2 + 5)))) rfl (fun h => ?_) (fun h => ?_)
        · replace H := cond_t h H
          refine T.skip ?_
          refine thn_normal ?_
          refine T.cut (fun fr' σ' => ∃ (v15 : Int), fr' = [(0, .im b0 (a0.map (c_int .u8))), (3, .hd 0 (l1.map (c_int .u8)).length 0 (l1.map (c_int .u8)).length), (4, .int .i64 v2), (5, .int .i64 v15), (6, .int .i64 v6)] ∧ σ' = [.arr .clo 1 (l1.map (c_int .u8))] ∧ spec_l2Armor_j1 v6 v15 = some y14) (T.pk ?_) ?_
          · skip
            refine T.block ?_
            refine T.seq ?_
            refine T.region ?_
            refine TL.st rfl rfl rfl (o_move rfl rfl) ?_
            refine TL.st rfl rfl rfl (o_ari rfl rfl rfl rfl) ?_
            refine TL.st rfl rfl rfl (o_assign rfl rfl) ?_
            refine TL.nil ?_
            refine thn_normal ?_
            refine T.seq ?_
            refine T.region ?_
            refine TL.st rfl rfl rfl (o_move rfl rfl) ?_
            refine TL.st rfl rfl rfl (o_move rfl rfl) ?_
            refine TL.st rfl rfl rfl (o_lenL (f := c_int .u8) rfl rfl rfl) ?_
            refine TL.st rfl rfl rfl (o_ari rfl rfl rfl rfl) ?_
            refine TL.st rfl rfl rfl (o_ari rfl rfl rfl rfl) ?_
            refine TL.nil ?_
            refine thn_normal ?_
            refine T.cond (decide (v6 < (IntKind.i64.wrap ((a0.length : Int) * 8)))) rfl (fun h => ?_) (fun h => ?_)
            · replace H := cond_t h H
              refine T.region ?_
              refine TL.st rfl rfl rfl (o_move rfl rfl) ?_
              refine TL.st rfl rfl rfl (o_move rfl rfl) ?_
              refine TL.st rfl rfl rfl (o_move rfl rfl) ?_
              refine TL.st rfl rfl rfl (o_quo rfl rfl rfl (by decide)) ?_
              obtain ⟨e16, h17, H⟩ := bind_s H
              refine TL.st rfl rfl rfl (o_ix (f := c_int .u8) rfl rfl tyS_5 rfl rfl h17 rfl) ?_
              refine TL.st rfl rfl rfl (o_loadRf rfl tyS_5 rfl (Nat.le_of_ble_eq_true rfl) rfl) ?_
              refine TL.st rfl rfl rfl (o_conv rfl rfl ⟨_, rfl⟩ rfl) ?_
              refine TL.st rfl rfl rfl (o_move rfl rfl) ?_
              refine TL.st rfl rfl rfl (o_rem rfl rfl rfl (by decide)) ?_
              refine TL.st rfl rfl rfl (o_ari rfl rfl rfl rfl) ?_
              refine TL.st rfl rfl rfl (o_conv rfl rfl ⟨_, rfl⟩ rfl) ?_
              obtain ⟨u18, h19, H⟩ := bind_s H
              refine TL.st rfl rfl rfl (o_shr rfl rfl rfl (nn_s h19)) ?_
              refine TL.st rfl rfl rfl (o_bits rfl rfl rfl rfl) ?_
              refine TL.st rfl rfl rfl (o_ari rfl rfl rfl rfl) ?_
              refine TL.st rfl rfl rfl (o_assign rfl rfl) ?_
              refine TL.nil ?_
              refine inB_normal ?_
              exact Pk.go (fr' := [(0, .im b0 (a0.map (c_int .u8))), (3, .hd 0 (l1.map (c_int .u8)).length 0 (l1.map (c_int .u8)).length), (4, .int .i64 v2), (5, .int .i64 (IntKind.i64.wrap ((IntKind.i64.wrap (v5 * 2)) + (IntKind.i64.wrap (BitVec.ofInt IntKind.i64.bits (Int.fdiv (IntKind.i64.wrap e16) (2 ^ (min (Int.toNat (IntKind.u64.wrap (IntKind.i64.wrap (7 - (Int.tmod v6 8))))) IntKind.i64.bits))) &&& BitVec.ofInt IntKind.i64.bits 1).toNat)))), (6, .int .i64 v6)]) (σ' := [.arr .clo 1 (l1.map (c_int .u8))]) _ rfl rfl ⟨trivial, trivial⟩ (.cons 0 _ (.im b0 (a0.map (c_int .u8))) _ rfl (.same _) rfl (.cons 3 _ (.hd 0 (l1.map (c_int .u8)).length 0 (l1.map (c_int .u8)).length) _ rfl (.same _) rfl (.cons 4 _ (.int .i64 v2) _ rfl (.same _) rfl (.cons 5 _ (.int .i64 (IntKind.i64.wrap ((IntKind.i64.wrap (v5 * 2)) + (IntKind.i64.wrap (BitVec.ofInt IntKind.i64.bits (Int.fdiv (IntKind.i64.wrap e16) (2 ^ (min (Int.toNat (IntKind.u64.wrap (IntKind.i64.wrap (7 - (Int.tmod v6 8))))) IntKind.i64.bits))) &&& BitVec.ofInt IntKind.i64.bits 1).toNat)))) _ rfl (.same _) rfl (.cons 6 _ (.int .i64 v6) _ rfl (.same _) rfl .nil))))) (thn_normal ⟨(IntKind.i64.wrap ((IntKind.i64.wrap (v5 * 2)) + (IntKind.i64.wrap (BitVec.ofInt IntKind.i64.bits (Int.fdiv (IntKind.i64.wrap e16) (2 ^ (min (Int.toNat (IntKind.u64.wrap (IntKind.i64.wrap (7 - (Int.tmod v6 8))))) IntKind.i64.bits))) &&& BitVec.ofInt IntKind.i64.bits 1).toNat))), rfl, rfl, H⟩)
            · replace H := cond_f h H
              refine T.skip ?_
              refine inB_normal ?_
              exact Pk.go (fr' := [(0, .im b0 (a0.map (c_int .u8))), (3, .hd 0 (l1.map (c_int .u8)).length 0 (l1.map (c_int .u8)).length), (4, .int .i64 v2), (5, .int .i64 (IntKind.i64.wrap (v5 * 2))), (6, .int .i64 v6)]) (σ' := [.arr .clo 1 (l1.map (c_int .u8))]) _ rfl rfl ⟨trivial, trivial⟩ (.cons 0 _ (.im b0 (a0.map (c_int .u8))) _ rfl (.same _) rfl (.cons 3 _ (.hd 0 (l1.map (c_int .u8)).length 0 (l1.map (c_int .u8)).length) _ rfl (.same _) rfl (.cons 4 _ (.int .i64 v2) _ rfl (.same _) rfl (.cons 5 _ (.int .i64 (IntKind.i64.wrap (v5 * 2))) _ rfl (.same _) rfl (.cons 6 _ (.int .i64 v6) _ rfl (.same _) rfl .nil))))) (thn_normal ⟨(IntKind.i64.wrap (v5 * 2)), rfl, rfl, H⟩)
          · rintro _ _ ⟨v15, rfl, rfl, H⟩
            refine T.region ?_
            refine TL.st rfl rfl rfl (o_move rfl rfl) ?_
            refine TL.st rfl rfl rfl (o_ari rfl rfl rfl rfl) ?_
            refine TL.st rfl rfl rfl (o_assign rfl rfl) ?_
            refine TL.nil ?_
            exact Pk.go (fr' := [(0, .im b0 (a0.map (c_int .u8))), (3, .hd 0 (l1.map (c_int .u8)).length 0 (l1.map (c_int .u8)).length), (4, .int .i64 v2), (5, .int .i64 v15), (6, .int .i64 (IntKind.i64.wrap (v6 + 1)))]) (σ' := [.arr .clo 1 (l1.map (c_int .u8))]) _ rfl rfl ⟨trivial, trivial⟩ (.cons 0 _ (.im b0 (a0.map (c_int .u8))) _ rfl (.same _) rfl (.cons 3 _ (.hd 0 (l1.map (c_int .u8)).length 0 (l1.map (c_int .u8)).length) _ rfl (.same _) rfl (.cons 4 _ (.int .i64 v2) _ rfl (.same _) rfl (.cons 5 _ (.int .i64 v15) _ rfl (.same _) rfl (.cons 6 _ (.int .i64 (IntKind.i64.wrap (v6 + 1))) _ rfl (.same _) rfl .nil))))) (thn_normal ⟨(v15, (IntKind.i64.wrap (v6 + 1))), (some_i H).symm, rfl, rfl⟩)
        · replace H := cond_f h H
          refine T.exit ?_
          refine thn_exit ?_
          exact Pk.go (fr' := [(0, .im b0 (a0.map (c_int .u8))), (3, .hd 0 (l1.map (c_int .u8)).length 0 (l1.map (c_int .u8)).length), (4, .int .i64 v2), (5, .int .i64 v5)]) (σ' := [.arr .clo 1 (l1.map (c_int .u8))]) _ rfl rfl ⟨trivial, trivial⟩ (.cons 0 _ (.im b0 (a0.map (c_int .u8))) _ rfl (.same _) rfl (.cons 3 _ (.hd 0 (l1.map (c_int .u8)).length 0 (l1.map (c_int .u8)).length) _ rfl (.same _) rfl (.cons 4 _ (.int .i64 v2) _ rfl (.same _) rfl (.cons 5 _ (.int .i64 v5) _ rfl (.same _) rfl .nil)))) (thn_exit ⟨v5, (some_i H).symm, rfl, rfl, rfl⟩)
      · rintro ⟨v5, v6⟩ ⟨v5', v6'⟩; rfl
      · rintro ⟨v5, v6⟩; exact ⟨trivial, trivial⟩
      · rintro ⟨v5, v6⟩; exact (.cons _ _ _ rfl rfl (.cons _ _ _ rfl rfl (.cons _ _ _ rfl rfl (.cons _ _ _ rfl rfl (.cons _ _ _ rfl rfl .nil)))))
      · rintro _ _ _ ⟨rfl, rfl, rfl⟩
        refine inB_here ?_
        refine thn_normal ?_
        refine T.region ?_
        refine TL.st rfl rfl rfl (o_move rfl rfl) ?_
        obtain ⟨r8, h9, H⟩ := bind_s H
        refine TL.st rfl rfl rfl (o_callP rfl en_44 rfl rfl .nil (spec_l2Letters_p  h9)) ?_
        refine TL.st rfl rfl rfl (o_move rfl rfl) ?_
        obtain ⟨b10, h11, H⟩ := bind_s H
        refine TL.st rfl rfl rfl (o_ixs rfl rfl rfl rfl h11) ?_
        refine TL.st rfl rfl rfl (o_sliceIm rfl rfl tyS_5 ⟨_, rfl, rfl⟩ (by decide) rfl rfl rfl rfl rfl rfl) ?_
        obtain ⟨l12, h13, H⟩ := bind_s H
        refine TL.st rfl rfl rfl (o_ap (f := c_int .u8) (xs := l1) (ys := ([b10] : List Int)) rfl rfl tyE_5 rfl rfl rfl rfl (by decide) rfl (fun _ => rfl) h13) ?_
        refine TL.st rfl rfl rfl (o_assign rfl rfl) ?_
        refine TL.nil ?_
        refine inB_normal ?_
        refine thn_normal ?_
        refine T.region ?_
        refine TL.st rfl rfl rfl (o_move rfl rfl) ?_
        refine TL.st rfl rfl rfl (o_ari rfl rfl rfl rfl) ?_
        refine TL.st rfl rfl rfl (o_assign rfl rfl) ?_
        refine TL.nil ?_
        exact Pk.go (fr' := [(0, .im b0 (a0.map (c_int .u8))), (3, .hd 0 (l12.map (c_int .u8)).length 0 (l12.map (c_int .u8)).length), (4, .int .i64 (IntKind.i64.wrap (v2 + 5)))]) (σ' := [.arr .clo 1 (l12.map (c_int .u8))]) _ rfl rfl ⟨trivial, trivial⟩ (.cons 0 _ (.im b0 (a0.map (c_int .u8))) _ rfl (.same _) rfl (.cons 3 _ (.hd 0 (l12.map (c_int .u8)).length 0 (l12.map (c_int .u8)).length) _ rfl (.same _) rfl (.cons 4 _ (.int .i64 (IntKind.i64.wrap (v2 + 5))) _ rfl (.same _) rfl .nil))) (thn_normal ⟨(l12, (IntKind.i64.wrap (v2 + 5))), (some_i H).symm, rfl, rfl⟩)
    · replace H := cond_f h H
      refine T.exit ?_
      refine thn_exit ?_
      exact Pk.go (fr' := [(3, .hd 0 (l1.map (c_int .u8)).length 0 (l1.map (c_int .u8)).length)]) (σ' := [.arr .clo 1 (l1.map (c_int .u8))]) _ rfl rfl ⟨trivial, trivial⟩ (.cons 3 _ (.hd 0 (l1.map (c_int .u8)).length 0 (l1.map (c_int .u8)).length) _ rfl (.same _) rfl .nil) (thn_exit ⟨l1, (some_i H).symm, rfl, rfl, rfl⟩)
  · rintro ⟨l1, v2⟩ ⟨l1', v2'⟩; rfl
  · rintro ⟨l1, v2⟩; exact ⟨trivial, trivial⟩
  · rintro ⟨l1, v2⟩; exact (.cons _ _ _ rfl rfl (.cons _ _ _ rfl rfl (.cons _ _ _ rfl rfl .nil)))
  · rintro _ _ _ ⟨rfl, rfl, rfl⟩
    refine inB_here ?_
    refine thn_normal ?_
    refine T.seq ?_
    refine T.region ?_
    refine TL.st rfl rfl rfl (o_move rfl rfl) ?_
    refine TL.st rfl rfl rfl (o_bsOwn (f := c_int .u8) rfl rfl rfl rfl (fun _ => rfl) rfl rfl rfl) ?_
    refine TL.st rfl rfl rfl (o_assign rfl rfl) ?_
    refine TL.nil ?_
    refine thn_normal ?_
    refine T.ret ?_
    cases some_i H
    exact ⟨trivial, _, (.tmp _ _ _ _ rfl .nil), (.cl _ rfl)⟩
theorem en_33 (us : Array Value) (w : World) : (callFunc 33 us).run Go.Proofs.Tryd.prog w = .ok (.enter 33 us) w := enters Go.Proofs.Tryd.func33 rfl rfl us w
noncomputable def spec_l7Token (a0 : Int) (a1 : Int) : Option ByteArray :=
  (spec_l1Num a1).bind fun r1 => (cat (ByteArray.mk #[114]) r1).bind fun s3 => (cat s3 (ByteArray.mk #[46])).bind fun s5 => (spec_l2Bytes a0).bind fun r7 => (spec_l2Mac r7 (bys s3)).bind fun r9 => (sub r9 0 8).bind fun l11 => (spec_l2Armor l11).bind fun r13 => (cat s5 r13).bind fun s15 => some s15
theorem spec_l7Token_p  {a0 : Int} {a1 : Int} {R0 : ByteArray} (H : spec_l7Token a0 a1 = some R0) : Pure Go.Proofs.Tryd.prog 19 [.int .i64 a0, .int .i64 a1] (.str R0) := by
  refine CallT.of_TN (n := 19) Go.Proofs.Tryd.func19 rfl rfl rfl rfl ?_
  refine T.seq ?_
  refine T.region ?_
  refine TL.st rfl rfl rfl (o_assign rfl rfl) ?_
  refine TL.nil ?_
  refine thn_normal ?_
  refine T.seq ?_
  refine T.region ?_
  refine TL.st rfl rfl rfl (o_move rfl rfl) ?_
  obtain ⟨r1, h2, H⟩ := bind_s H
  refine TL.st rfl rfl rfl (o_callP rfl en_32 rfl rfl (.cons _ _ _ _ (.cl _ rfl) .nil) (spec_l1Num_p  h2)) ?_
  obtain ⟨s3, h4, H⟩ := bind_s H
  refine TL.st rfl rfl rfl (o_ct rfl rfl rfl h4) ?_
  refine TL.st rfl rfl rfl (o_assign rfl rfl) ?_
  refine TL.nil ?_
  refine thn_normal ?_
  refine T.seq ?_
  refine T.region ?_
  refine TL.st rfl rfl rfl (o_move rfl rfl) ?_
  obtain ⟨s5, h6, H⟩ := bind_s H
  refine TL.st rfl rfl rfl (o_ct rfl rfl rfl h6) ?_
  refine TL.st rfl rfl rfl (o_move rfl rfl) ?_
  obtain ⟨r7, h8, H⟩ := bind_s H
  refine TL.st rfl rfl rfl (o_callP rfl en_35 rfl rfl (.cons _ _ _ _ (.cl _ rfl) .nil) (spec_l2Bytes_p  h8)) ?_
  refine TL.st rfl rfl rfl (o_move rfl rfl) ?_
  refine TL.st rfl rfl rfl (o_sb (f := c_int .u8) rfl rfl rfl rfl (fun _ => rfl) rfl) ?_
  obtain ⟨r9, h10, H⟩ := bind_s H
  refine TL.st rfl rfl rfl (o_callP rfl en_34 rfl rfl (.cons _ _ _ _ (.cl _ rfl) (.cons _ _ _ _ (.cl _ rfl) .nil)) (spec_l2Mac_p false false h10)) ?_
  obtain ⟨l11, h12, H⟩ := bind_s H
  refine TL.st rfl rfl rfl (o_subL (f := c_int .u8) (xs := r9) rfl rfl tyS_5 rfl rfl rfl (fun _ => rfl) h12) ?_
  obtain ⟨r13, h14, H⟩ := bind_s H
  refine TL.st rfl rfl rfl (o_callP rfl en_33 rfl rfl (.cons _ _ _ _ (.cl _ rfl) .nil) (spec_l2Armor_p false h14)) ?_
  obtain ⟨s15, h16, H⟩ := bind_s H
  refine TL.st rfl rfl rfl (o_ct rfl rfl rfl h16) ?_
  refine TL.st rfl rfl rfl (o_assign rfl rfl) ?_
  refine TL.nil ?_
  refine thn_normal ?_
  refine T.ret ?_
  cases some_i H
  exact ⟨trivial, _, (.tmp _ _ _ _ rfl .nil), (.cl _ rfl)⟩
theorem en_19 (us : Array Value) (w : World) : (callFunc 19 us).run Go.Proofs.Tryd.prog w = .ok (.enter 19 us) w := enters Go.Proofs.Tryd.func19 rfl rfl us w
noncomputable def spec_TokenOf (a0 : Int) (a1 : Int) : Option ByteArray :=
  (spec_l2Secret a0).bind fun r1 => cond (((!r1) || decide (a1 < 0)) || decide (a1 > 1000000)) (some (ByteArray.mk #[])) ((spec_l7Token a0 a1).bind fun r3 => some r3)
theorem spec_TokenOf_p  {a0 : Int} {a1 : Int} {R0 : ByteArray} (H : spec_TokenOf a0 a1 = some R0) : Pure Go.Proofs.Tryd.prog 6 [.int .i64 a0, .int .i64 a1] (.str R0) := by
  refine CallT.of_TN (n := 19) Go.Proofs.Tryd.func6 rfl rfl rfl rfl ?_
  refine T.seq ?_
  refine T.region ?_
  refine TL.st rfl rfl rfl (o_assign rfl rfl) ?_
  refine TL.nil ?_
  refine thn_normal ?_
  refine T.seq ?_
  refine T.seq ?_
  refine T.region ?_
  refine TL.st rfl rfl rfl (o_move rfl rfl) ?_
  obtain ⟨r1, h2, H⟩ := bind_s H
  refine TL.st rfl rfl rfl (o_callP rfl en_18 rfl rfl (.cons _ _ _ _ (.cl _ rfl) .nil) (spec_l2Secret_p  h2)) ?_
  refine TL.st rfl rfl rfl (o_not rfl rfl) ?_
  refine TL.st rfl rfl rfl (o_move rfl rfl) ?_
  refine TL.gcq rfl rfl rfl (.bool _) rfl rfl (fun h => o_move rfl rfl) ?_
  refine TL.gcq rfl rfl rfl (.bool _) rfl rfl (fun h => o_ari rfl (gv h rfl) rfl rfl) ?_
  refine TL.st rfl rfl rfl (o_or rfl rfl rfl rfl (fun k => Gd_t k)) ?_
  refine TL.st rfl rfl rfl (o_move rfl rfl) ?_
  refine TL.gcq rfl rfl rfl (.bool _) rfl rfl (fun h => o_move rfl rfl) ?_
  refine TL.gcq rfl rfl rfl (.bool _) rfl rfl (fun h => o_ari rfl (gv h rfl) rfl rfl) ?_
  refine TL.st rfl rfl rfl (o_or rfl rfl rfl rfl (fun k => Gd_t k)) ?_
  refine TL.nil ?_
  refine thn_normal ?_
  refine T.cond ((((!r1) || decide (a1 < 0)) || decide (a1 > 1000000))) rfl (fun h => ?_) (fun h => ?_)
  · replace H := cond_t h H
    refine T.seq ?_
    refine T.region ?_
    refine TL.st rfl rfl rfl (o_assign rfl rfl) ?_
    refine TL.nil ?_
    refine thn_normal ?_
    refine T.ret ?_
    refine thn_ret ?_
    cases some_i H
    exact ⟨trivial, _, (.tmp _ _ _ _ rfl .nil), (.cl _ rfl)⟩
  · replace H := cond_f h H
    refine T.skip ?_
    refine thn_normal ?_
    refine T.seq ?_
    refine T.region ?_
    refine TL.st rfl rfl rfl (o_move rfl rfl) ?_
    refine TL.st rfl rfl rfl (o_move rfl rfl) ?_
    obtain ⟨r3, h4, H⟩ := bind_s H
    refine TL.st rfl rfl rfl (o_callP rfl en_19 rfl rfl (.cons _ _ _ _ (.cl _ rfl) (.cons _ _ _ _ (.cl _ rfl) .nil)) (spec_l7Token_p  h4)) ?_
    refine TL.st rfl rfl rfl (o_assign rfl rfl) ?_
    refine TL.nil ?_
    refine thn_normal ?_
    refine T.ret ?_
    cases some_i H
    exact ⟨trivial, _, (.tmp _ _ _ _ rfl .nil), (.cl _ rfl)⟩
theorem en_6 (us : Array Value) (w : World) : (callFunc 6 us).run Go.Proofs.Tryd.prog w = .ok (.enter 6 us) w := enters Go.Proofs.Tryd.func6 rfl rfl us w
theorem en_21 (us : Array Value) (w : World) : (callFunc 21 us).run Go.Proofs.Tryd.prog w = .ok (.enter 21 us) w := enters Go.Proofs.Tryd.func21 rfl rfl us w
theorem en_20 (us : Array Value) (w : World) : (callFunc 20 us).run Go.Proofs.Tryd.prog w = .ok (.enter 20 us) w := enters Go.Proofs.Tryd.func20 rfl rfl us w
theorem en_22 (us : Array Value) (w : World) : (callFunc 22 us).run Go.Proofs.Tryd.prog w = .ok (.enter 22 us) w := enters Go.Proofs.Tryd.func22 rfl rfl us w
noncomputable def impl_ReadToken (a0 : Int) (a1 : ByteArray) : Option (Int × Bool) :=
  (trimPrefixO a1 (ByteArray.mk #[114])).bind fun r1 => (cutO r1 (ByteArray.mk #[46])).bind fun q => (match q with | (r3, r4, r5) => (wholeO r3).bind fun q => (match q with | (r7, r8) => (gdO (!((!r8) || (a1.toList == (ByteArray.mk #[]).toList))) (impl_TokenOf a0 r7)).bind fun r10 => cond (((!r8) || (a1.toList == (ByteArray.mk #[]).toList)) || (!(r10.toList == a1.toList))) (some (0, false)) (some (r7, true))))
theorem impl_ReadToken_p  {a0 : Int} {a1 : ByteArray} {R0 : Int} {R1 : Bool} (H : impl_ReadToken a0 a1 = some (R0, R1)) : Pure Go.Proofs.Tryd.prog 7 [.int .i64 a0, .str a1] (.tup [.int .i64 R0, .bool R1]) := by
  refine CallT.of_TN (n := 37) Go.Proofs.Tryd.func7 rfl rfl rfl rfl ?_
  refine T.seq ?_
  refine T.region ?_
  refine TL.st rfl rfl rfl (o_assign rfl rfl) ?_
  refine TL.st rfl rfl rfl (o_assign rfl rfl) ?_
  refine TL.nil ?_
  refine thn_normal ?_
  refine T.seq ?_
  refine T.region ?_
  refine TL.st rfl rfl rfl (o_move rfl rfl) ?_
  obtain ⟨r1, h2, H⟩ := bind_s H
  refine TL.st rfl rfl rfl (o_callP rfl en_21 rfl rfl (.cons _ _ _ _ (.cl _ rfl) (.cons _ _ _ _ (.cl _ rfl) .nil)) (RV.lib_21  h2)) ?_
  obtain ⟨⟨r3, r4, r5⟩, h6, H⟩ := bind_s H
  refine TL.st rfl rfl rfl (o_callP rfl en_20 rfl rfl (.cons _ _ _ _ (.cl _ rfl) (.cons _ _ _ _ (.cl _ rfl) .nil)) (RV.lib_20  h6)) ?_
  refine TL.st rfl rfl rfl (o_move rfl rfl) ?_
  refine TL.st rfl rfl rfl (o_extract rfl rfl rfl) ?_
  refine TL.st rfl rfl rfl (o_extract rfl rfl rfl) ?_
  refine TL.st rfl rfl rfl (o_extract rfl rfl rfl) ?_
  refine TL.st rfl rfl rfl (o_assign rfl rfl) ?_
  refine TL.st rfl rfl rfl (o_assign rfl rfl) ?_
  refine TL.st rfl rfl rfl (o_assign rfl rfl) ?_
  refine TL.nil ?_
  refine thn_normal ?_
  refine T.seq ?_
  refine T.region ?_
  refine TL.st rfl rfl rfl (o_move rfl rfl) ?_
  obtain ⟨⟨r7, r8⟩, h9, H⟩ := bind_s H
  refine TL.st rfl rfl rfl (o_callP rfl en_22 rfl rfl (.cons _ _ _ _ (.cl _ rfl) .nil) (RV.lib_22  h9)) ?_
  refine TL.st rfl rfl rfl (o_move rfl rfl) ?_
  refine TL.st rfl rfl rfl (o_extract rfl rfl rfl) ?_
  refine TL.st rfl rfl rfl (o_extract rfl rfl rfl) ?_
  refine TL.st rfl rfl rfl (o_assign rfl rfl) ?_
  refine TL.st rfl rfl rfl (o_assign rfl rfl) ?_
  refine TL.nil ?_
  refine thn_normal ?_
  refine T.seq ?_
  refine T.seq ?_
  refine T.region ?_
  refine TL.st rfl rfl rfl (o_move rfl rfl) ?_
  refine TL.st rfl rfl rfl (o_not rfl rfl) ?_
  refine TL.st rfl rfl rfl (o_move rfl rfl) ?_
  refine TL.gcq rfl rfl rfl (.bool _) rfl rfl (fun h => o_move rfl rfl) ?_
  refine TL.gcq rfl rfl rfl (.bool _) rfl rfl (fun h => o_str rfl (gv h rfl) rfl rfl) ?_
  refine TL.st rfl rfl rfl (o_or rfl rfl rfl rfl (fun k => Gd_t k)) ?_
  refine TL.st rfl rfl rfl (o_move rfl rfl) ?_
  refine TL.gcq rfl rfl rfl (.bool _) rfl rfl (fun h => o_move rfl rfl) ?_
  refine TL.gcq rfl rfl rfl (.bool _) rfl rfl (fun h => o_move rfl rfl) ?_
  obtain ⟨r10, h11, H⟩ := bind_s H
  refine TL.gcq rfl rfl rfl (.bool _) rfl rfl (fun h => o_callP rfl en_5 rfl (evl_2 (gv h rfl) (gv h rfl)) (.cons _ _ _ _ (.cl _ rfl) (.cons _ _ _ _ (.cl _ rfl) .nil)) (impl_TokenOf_p  (gdO_t h11 h))) ?_
  refine TL.gcq rfl rfl rfl (.bool _) rfl rfl (fun h => o_move rfl rfl) ?_
  refine TL.gcq rfl rfl rfl (.bool _) rfl rfl (fun h => o_str rfl (gv h rfl) (gv h rfl) rfl) ?_
  refine TL.st rfl rfl rfl (o_or rfl rfl rfl rfl (fun k => Gd_t k)) ?_
  refine TL.nil ?_
  refine thn_normal ?_
  refine T.cond ((((!r8) || (a1.toList == (ByteArray.mk #[]).toList)) || (!(r10.toList == a1.toList)))) rfl (fun h => ?_) (fun h => ?_)
  · replace H := cond_t h H
    refine T.seq ?_
    refine T.region ?_
    refine TL.st rfl rfl rfl (o_assign rfl rfl) ?_
    refine TL.st rfl rfl rfl (o_assign rfl rfl) ?_
    refine TL.nil ?_
    refine thn_normal ?_
    refine T.ret ?_
    refine thn_ret ?_
    cases some_i H
    exact ⟨trivial, _, (.tmp _ _ _ _ rfl (.tmp _ _ _ _ rfl .nil)), (.tupL (.cons _ _ _ _ (.cl _ rfl) (.cons _ _ _ _ (.cl _ rfl) .nil)))⟩
  · replace H := cond_f h H
    refine T.skip ?_
    refine thn_normal ?_
    refine T.seq ?_
    refine T.region ?_
    refine TL.st rfl rfl rfl (o_move rfl rfl) ?_
    refine TL.st rfl rfl rfl (o_assign rfl rfl) ?_
    refine TL.st rfl rfl rfl (o_assign rfl rfl) ?_
    refine TL.nil ?_
    refine thn_normal ?_
    refine T.ret ?_
    cases some_i H
    exact ⟨trivial, _, (.tmp _ _ _ _ rfl (.tmp _ _ _ _ rfl .nil)), (.tupL (.cons _ _ _ _ (.cl _ rfl) (.cons _ _ _ _ (.cl _ rfl) .nil)))⟩
theorem en_7 (us : Array Value) (w : World) : (callFunc 7 us).run Go.Proofs.Tryd.prog w = .ok (.enter 7 us) w := enters Go.Proofs.Tryd.func7 rfl rfl us w
noncomputable def spec_l1Cur_spoilt_j1 (v6 : Int) (b10 : T_spec_l1Cur) (v11 : ByteArray) : Option ((T_spec_l1Cur × ByteArray × Int) ⊕ (T_spec_l1Cur × ByteArray)) :=
  some (.inl (b10, v11, (IntKind.i64.wrap (v6 - 1))))
noncomputable def spec_l1Cur_spoilt_l1 (a1 : ByteArray) : (T_spec_l1Cur × ByteArray × Int) → Option ((T_spec_l1Cur × ByteArray × Int) ⊕ (T_spec_l1Cur × ByteArray)) := fun s => match s with
  | (b4, v5, v6) => cond (decide (v6 > 0) && decide ((v5.size : Int) > 0)) ((spec_l1Cur_pick (v5.size : Int) b4).bind fun q => (match q with | (r12, o13) => (spec_l1Cur_pick (a1.size : Int) o13).bind fun q => (match q with | (r15, o16) => (idxS a1 r15).bind fun b18 => (spec_l1Cur_pick 3 o16).bind fun q => (match q with | (r20, o21) => cond (r20 == 0) ((subS v5 0 r12).bind fun s23 => (cat s23 (byS ([b18] : List Int))).bind fun s25 => (subS v5 r12 (v5.size : Int)).bind fun s27 => (cat s25 s27).bind fun s29 => spec_l1Cur_spoilt_j1 v6 o21 s29) (cond (r20 == 1) ((subS v5 0 r12).bind fun s31 => (cat s31 (byS ([b18] : List Int))).bind fun s33 => (subS v5 (IntKind.i64.wrap (r12 + 1)) (v5.size : Int)).bind fun s35 => (cat s33 s35).bind fun s37 => spec_l1Cur_spoilt_j1 v6 o21 s37) ((subS v5 0 r12).bind fun s39 => (subS v5 (IntKind.i64.wrap (r12 + 1)) (v5.size : Int)).bind fun s41 => (cat s39 s41).bind fun s43 => spec_l1Cur_spoilt_j1 v6 o21 s43)))))) (some (.inr (b4, v5)))
noncomputable def spec_l1Cur_spoilt (a0 : ByteArray) (a1 : ByteArray) (s0 : T_spec_l1Cur) : Option (ByteArray × T_spec_l1Cur) :=
  (spec_l1Cur_pick 3 s0).bind fun q => (match q with | (r1, o2) => (loopO (spec_l1Cur_spoilt_l1 a1) (o2, a0, r1)).bind fun q45 => (match q45 with | (b7, v8) => some (v8, b7)))
theorem spec_l1Cur_spoilt_p (c0 : Bool) {a0 : ByteArray} {a1 : ByteArray} {s0 : T_spec_l1Cur} {R0 : ByteArray} {U0 : T_spec_l1Cur} (H : spec_l1Cur_spoilt a0 a1 s0 = some (R0, U0)) : St Go.Proofs.Tryd.prog 24 [.bx 0 0, .str a0, .str a1] [.box (c_T_spec_l1Cur c0 s0)] (.str R0) [.box (c_T_spec_l1Cur c0 U0)] := by
  refine CallT.fin (CallT.of_TN (n := 67) Go.Proofs.Tryd.func24 rfl rfl rfl rfl ?_) rfl rfl ⟨(bels_iff.1 rfl), trivial⟩
  refine T.seq ?_
  refine T.region ?_
  refine TL.st rfl rfl rfl (o_assign rfl rfl) ?_
  refine TL.nil ?_
  refine thn_normal ?_
  refine T.seq ?_
  refine T.seq ?_
  refine T.region ?_
  refine TL.st rfl rfl rfl (o_move rfl rfl) ?_
  obtain ⟨⟨r1, o2⟩, h3, H⟩ := bind_s H
  refine TL.st rfl rfl rfl (o_callS [0] rfl en_11 rfl rfl (spec_l1Cur_pick_p c0 h3) rfl (by decide) (.cons _ _ _ _ rfl .nil) rfl rfl rfl) ?_
  refine TL.st rfl rfl rfl (o_assign rfl rfl) ?_
  refine TL.nil ?_
  refine thn_normal ?_
  refine T.block ?_
  obtain ⟨q45, h46, H⟩ := bind_s H
  refine T.to (.cons 0 _ (.bx 0 0) _ rfl (.same _) rfl (.cons 1 _ (.str a0) _ rfl (.same _) rfl (.cons 2 _ (.str a1) _ rfl (.same _) rfl (.cons 7 _ (.int .i64 r1) _ rfl (.same _) rfl .nil)))) ?_
  refine T.lp (fun s => match s with | (b4, v5, v6) => [(0, .bx 0 0), (1, .str v5), (2, .str a1), (7, .int .i64 v6)]) (fun s => match s with | (b4, v5, v6) => [.box (c_T_spec_l1Cur c0 b4)]) (fun q ex fr σ => match q with | (b7, v8) => ex = .exit 0 ∧ fr = [(1, .str v8)] ∧ σ = [.box (c_T_spec_l1Cur c0 b7)]) h46 ?_ ?_ ?_ ?_ ?_
  · rintro ⟨b4, v5, v6⟩ y9 H
    refine T.seq ?_
    refine T.seq ?_
    refine T.region ?_
    refine TL.st rfl rfl rfl (o_move rfl rfl) ?_
    refine TL.st rfl rfl rfl (o_ari rfl rfl rfl rfl) ?_
    refine TL.st rfl rfl rfl (o_move rfl rfl) ?_
    refine TL.gcq rfl rfl rfl (.bool _) rfl rfl (fun h => o_move rfl rfl) ?_
    refine TL.gcq rfl rfl rfl (.bool _) rfl rfl (fun h => o_lenS rfl rfl (gv h rfl)) ?_
    refine TL.gcq rfl rfl rfl (.bool _) rfl rfl (fun h => o_ari rfl (gv h rfl) rfl rfl) ?_
    refine TL.st rfl rfl rfl (o_and rfl rfl rfl (fun k => Gd_t k) rfl) ?_
    refine TL.nil ?_
    refine thn_normal ?_
    refine T.cond ((decide (v6 > 0) && decide ((v5.size : Int) > 0))) rfl (fun h => ?_) (fun h => ?_)
    · replace H := cond_t h H
      refine T.skip ?_
      refine thn_normal ?_
      refine T.cut (fun fr' σ' => ∃ (b10 : T_spec_l1Cur) (v11 : ByteArray), fr' = [(0, .bx 0 0), (1, .str v11), (2, .str a1), (7, .int .i64 v6)] ∧ σ' = [.box (c_T_spec_l1Cur c0 b10)] ∧ spec_l1Cur_spoilt_j1 v6 b10 v11 = some y9) (T.pk ?_) ?_
      · skip
        refine T.block ?_
        refine T.seq ?_
        refine T.region ?_
        refine TL.st rfl rfl rfl (o_move rfl rfl) ?_
        refine TL.st rfl rfl rfl (o_move rfl rfl) ?_
        refine TL.st rfl rfl rfl (o_lenS rfl rfl rfl) ?_
        obtain ⟨⟨r12, o13⟩, h14, H⟩ := bind_s H
        refine TL.st rfl rfl rfl (o_callS [0] rfl en_11 rfl rfl (spec_l1Cur_pick_p c0 h14) rfl (by decide) (.cons _ _ _ _ rfl .nil) rfl rfl rfl) ?_
        refine TL.st rfl rfl rfl (o_assign rfl rfl) ?_
        refine TL.nil ?_
        refine thn_normal ?_
        refine T.seq ?_
        refine T.region ?_
        refine TL.st rfl rfl rfl (o_move rfl rfl) ?_
        refine TL.st rfl rfl rfl (o_move rfl rfl) ?_
        refine TL.st rfl rfl rfl (o_move rfl rfl) ?_
        refine TL.st rfl rfl rfl (o_lenS rfl rfl rfl) ?_
        obtain ⟨⟨r15, o16⟩, h17, H⟩ := bind_s H
        refine TL.st rfl rfl rfl (o_callS [0] rfl en_11 rfl rfl (spec_l1Cur_pick_p c0 h17) rfl (by decide) (.cons _ _ _ _ rfl .nil) rfl rfl rfl) ?_
        obtain ⟨b18, h19, H⟩ := bind_s H
        refine TL.st rfl rfl rfl (o_ixs rfl rfl rfl rfl h19) ?_
        refine TL.st rfl rfl rfl (o_sliceIm rfl rfl tyS_5 ⟨_, rfl, rfl⟩ (by decide) rfl rfl rfl rfl rfl rfl) ?_
        refine TL.st rfl rfl rfl (o_bs (f := c_int .u8) (ns := ([b18] : List Int)) rfl rfl rfl rfl (fun _ => rfl) rfl) ?_
        refine TL.st rfl rfl rfl (o_assign rfl rfl) ?_
        refine TL.nil ?_
        refine thn_normal ?_
        refine T.seq ?_
        refine T.region ?_
        refine TL.st rfl rfl rfl (o_move rfl rfl) ?_
        obtain ⟨⟨r20, o21⟩, h22, H⟩ := bind_s H
        refine TL.st rfl rfl rfl (o_callS [0] rfl en_11 rfl rfl (spec_l1Cur_pick_p c0 h22) rfl (by decide) (.cons _ _ _ _ rfl .nil) rfl rfl rfl) ?_
        refine TL.nil ?_
        refine thn_normal ?_
        refine T.block ?_
        refine T.seq ?_
        refine T.region ?_
        refine TL.st rfl rfl rfl (o_ari rfl rfl rfl rfl) ?_
        refine TL.st rfl rfl rfl (o_assign rfl rfl) ?_
        refine TL.nil ?_
        refine thn_normal ?_
        refine T.cond ((r20 == 0)) rfl (fun h => ?_) (fun h => ?_)
        · replace H := cond_t h H
          refine T.drawn rfl ?_
          refine TD.qs rfl rfl (fun _ => o_move rfl rfl) ?_
          refine TD.qs rfl rfl (fun _ => o_move rfl rfl) ?_
          obtain ⟨s23, h24, H⟩ := bind_s H
          refine TD.qs rfl rfl (fun _ => o_subS rfl rfl rfl rfl rfl h24) ?_
          refine TD.qs rfl rfl (fun _ => o_move rfl rfl) ?_
          obtain ⟨s25, h26, H⟩ := bind_s H
          refine TD.qs rfl rfl (fun _ => o_ct rfl rfl rfl h26) ?_
          refine TD.qs rfl rfl (fun _ => o_move rfl rfl) ?_
          refine TD.qs rfl rfl (fun _ => o_move rfl rfl) ?_
          obtain ⟨s27, h28, H⟩ := bind_s H
          refine TD.qs rfl rfl (fun _ => o_subS rfl rfl rfl rfl rfl h28) ?_
          obtain ⟨s29, h30, H⟩ := bind_s H
          refine TD.qs rfl rfl (fun _ => o_ct rfl rfl rfl h30) ?_
          refine TD.qs rfl rfl (fun _ => o_assign rfl rfl) ?_
          refine TD.nil ⟨rfl, ?_⟩
          refine inB_normal ?_
          refine inB_normal ?_
          exact Pk.go (fr' := [(0, .bx 0 0), (1, .str s29), (2, .str a1), (7, .int .i64 v6)]) (σ' := [.box (c_T_spec_l1Cur c0 o21)]) _ rfl rfl ⟨(bels_iff.1 rfl), trivial⟩ (.cons 0 _ (.bx 0 0) _ rfl (.same _) rfl (.cons 1 _ (.str s29) _ rfl (.same _) rfl (.cons 2 _ (.str a1) _ rfl (.same _) rfl (.cons 7 _ (.int .i64 v6) _ rfl (.same _) rfl .nil)))) (thn_normal ⟨o21, s29, rfl, rfl, H⟩)
        · replace H := cond_f h H
          refine T.seq ?_
          refine T.region ?_
          refine TL.st rfl rfl rfl (o_ari rfl rfl rfl rfl) ?_
          refine TL.st rfl rfl rfl (o_assign rfl rfl) ?_
          refine TL.nil ?_
          refine thn_normal ?_
          refine T.cond ((r20 == 1)) rfl (fun h => ?_) (fun h => ?_)
          · replace H := cond_t h H
            refine T.drawn rfl ?_
            refine TD.qs rfl rfl (fun _ => o_move rfl rfl) ?_
            refine TD.qs rfl rfl (fun _ => o_move rfl rfl) ?_
            obtain ⟨s31, h32, H⟩ := bind_s H
            refine TD.qs rfl rfl (fun _ => o_subS rfl rfl rfl rfl rfl h32) ?_
            refine TD.qs rfl rfl (fun _ => o_move rfl rfl) ?_
            obtain ⟨s33, h34, H⟩ := bind_s H
            refine TD.qs rfl rfl (fun _ => o_ct rfl rfl rfl h34) ?_
            refine TD.qs rfl rfl (fun _ => o_move rfl rfl) ?_
            refine TD.qs rfl rfl (fun _ => o_move rfl rfl) ?_
            refine TD.qs rfl rfl (fun _ => o_ari rfl rfl rfl rfl) ?_
            obtain ⟨s35, h36, H⟩ := bind_s H
            refine TD.qs rfl rfl (fun _ => o_subS rfl rfl rfl rfl rfl h36) ?_
            obtain ⟨s37, h38, H⟩ := bind_s H
            refine TD.qs rfl rfl (fun _ => o_ct rfl rfl rfl h38) ?_
            refine TD.qs rfl rfl (fun _ => o_assign rfl rfl) ?_
            refine TD.nil ⟨rfl, ?_⟩
            refine inB_normal ?_
            refine inB_normal ?_
            exact Pk.go (fr' := [(0, .bx 0 0), (1, .str s37), (2, .str a1), (7, .int .i64 v6)]) (σ' := [.box (c_T_spec_l1Cur c0 o21)]) _ rfl rfl ⟨(bels_iff.1 rfl), trivial⟩ (.cons 0 _ (.bx 0 0) _ rfl (.same _) rfl (.cons 1 _ (.str s37) _ rfl (.same _) rfl (.cons 2 _ (.str a1) _ rfl (.same _) rfl (.cons 7 _ (.int .i64 v6) _ rfl (.same _) rfl .nil)))) (thn_normal ⟨o21, s37, rfl, rfl, H⟩)
          · replace H := cond_f h H
            refine T.drawn rfl ?_
            refine TD.qs rfl rfl (fun _ => o_move rfl rfl) ?_
            refine TD.qs rfl rfl (fun _ => o_move rfl rfl) ?_
            obtain ⟨s39, h40, H⟩ := bind_s H
            refine TD.qs rfl rfl (fun _ => o_subS rfl rfl rfl rfl rfl h40) ?_
            refine TD.qs rfl rfl (fun _ => o_move rfl rfl) ?_
            refine TD.qs rfl rfl (fun _ => o_move rfl rfl) ?_
            refine TD.qs rfl rfl (fun _ => o_ari rfl rfl rfl rfl) ?_
            obtain ⟨s41, h42, H⟩ := bind_s H
            refine TD.qs rfl rfl (fun _ => o_subS rfl rfl rfl rfl rfl h42) ?_
            obtain ⟨s43, h44, H⟩ := bind_s H
            refine TD.qs rfl rfl (fun _ => o_ct rfl rfl rfl h44) ?_
            refine TD.qs rfl rfl (fun _ => o_assign rfl rfl) ?_
            refine TD.nil ⟨rfl, ?_⟩
            refine inB_normal ?_
            refine inB_normal ?_
            exact Pk.go (fr' := [(0, .bx 0 0), (1, .str s43), (2, .str a1), (7, .int .i64 v6)]) (σ' := [.box (c_T_spec_l1Cur c0 o21)]) _ rfl rfl ⟨(bels_iff.1 rfl), trivial⟩ (.cons 0 _ (.bx 0 0) _ rfl (.same _) rfl (.cons 1 _ (.str s43) _ rfl (.same _) rfl (.cons 2 _ (.str a1) _ rfl (.same _) rfl (.cons 7 _ (.int .i64 v6) _ rfl (.same _) rfl .nil)))) (thn_normal ⟨o21, s43, rfl, rfl, H⟩)
      · rintro _ _ ⟨b10, v11, rfl, rfl, H⟩
        refine T.region ?_
        refine TL.st rfl rfl rfl (o_move rfl rfl) ?_
        refine TL.st rfl rfl rfl (o_ari rfl rfl rfl rfl) ?_
        refine TL.st rfl rfl rfl (o_assign rfl rfl) ?_
        refine TL.nil ?_
        exact Pk.go (fr' := [(0, .bx 0 0), (1, .str v11), (2, .str a1), (7, .int .i64 (IntKind.i64.wrap (v6 - 1)))]) (σ' := [.box (c_T_spec_l1Cur c0 b10)]) _ rfl rfl ⟨(bels_iff.1 rfl), trivial⟩ (.cons 0 _ (.bx 0 0) _ rfl (.same _) rfl (.cons 1 _ (.str v11) _ rfl (.same _) rfl (.cons 2 _ (.str a1) _ rfl (.same _) rfl (.cons 7 _ (.int .i64 (IntKind.i64.wrap (v6 - 1))) _ rfl (.same _) rfl .nil)))) (thn_normal ⟨(b10, v11, (IntKind.i64.wrap (v6 - 1))), (some_i H).symm, rfl, rfl⟩)
    · replace H := cond_f h H
      refine T.exit ?_
      refine thn_exit ?_
      exact Pk.go (fr' := [(1, .str v5)]) (σ' := [.box (c_T_spec_l1Cur c0 b4)]) _ rfl rfl ⟨(bels_iff.1 rfl), trivial⟩ (.cons 1 _ (.str v5) _ rfl (.same _) rfl .nil) (thn_exit ⟨(b4, v5), (some_i H).symm, rfl, rfl, rfl⟩)
  · rintro ⟨b4, v5, v6⟩ ⟨b4', v5', v6'⟩; rfl
  · rintro ⟨b4, v5, v6⟩; exact ⟨(bels_iff.1 rfl), trivial⟩
  · rintro ⟨b4, v5, v6⟩; exact (.cons _ _ _ rfl rfl (.cons _ _ _ rfl rfl (.cons _ _ _ rfl rfl (.cons _ _ _ rfl rfl .nil))))
  · rcases q45 with ⟨b7, v8⟩
    rintro _ _ _ ⟨rfl, rfl, rfl⟩
    refine inB_here ?_
    refine thn_normal ?_
    refine T.seq ?_
    refine T.region ?_
    refine TL.st rfl rfl rfl (o_move rfl rfl) ?_
    refine TL.st rfl rfl rfl (o_assign rfl rfl) ?_
    refine TL.nil ?_
    refine thn_normal ?_
    refine T.ret ?_
    cases some_i H
    exact ⟨trivial, _, (.tmp _ _ _ _ rfl .nil), ⟨rfl, _, rfl⟩⟩
theorem en_24 (us : Array Value) (w : World) : (callFunc 24 us).run Go.Proofs.Tryd.prog w = .ok (.enter 24 us) w := enters Go.Proofs.Tryd.func24 rfl rfl us w
noncomputable def spec_DrawReadToken_j1 (r1 : Int) (b9 : T_spec_l1Cur) (v10 : ByteArray) : Option (Int × ByteArray) :=
  (spec_l1Cur_pick 12 b9).bind fun q => (match q with | (r11, o12) => some ((IntKind.i64.wrap ((IntKind.i64.wrap (1 + r1)) + (IntKind.i64.wrap (Int.tdiv r11 11)))), v10))
noncomputable def spec_DrawReadToken (a0 : (List Int)) : Option (Int × ByteArray) :=
  (spec_l1Cur_pick 60000 (⟨a0, 0, 0⟩ : T_spec_l1Cur)).bind fun q => (match q with | (r1, o2) => (spec_l1Cur_pick 300 o2).bind fun q => (match q with | (r4, o5) => (spec_l7Token (IntKind.i64.wrap (1 + r1)) r4).bind fun r7 => (spec_l1Cur_one 2 o5).bind fun q => (match q with | (r14, o15) => cond r14 ((spec_l1Cur_spoilt r7 (ByteArray.mk #[114, 48, 46, 97, 45]) o15).bind fun q => (match q with | (r17, o18) => spec_DrawReadToken_j1 r1 o18 r17)) (spec_DrawReadToken_j1 r1 o15 r7))))
theorem spec_DrawReadToken_p (b0 : Bool) {a0 : (List Int)} {R0 : Int} {R1 : ByteArray} (H : spec_DrawReadToken a0 = some (R0, R1)) : Pure Go.Proofs.Tryd.prog 8 [.im b0 (a0.map (c_int .u8))] (.tup [.int .i64 R0, .str R1]) := by
  refine CallT.of_TN (n := 28) Go.Proofs.Tryd.func8 rfl rfl rfl rfl ?_
  refine T.seq ?_
  refine T.region ?_
  refine TL.st rfl rfl rfl (o_assign rfl rfl) ?_
  refine TL.st rfl rfl rfl (o_assign rfl rfl) ?_
  refine TL.nil ?_
  refine thn_normal ?_
  refine T.seq ?_
  refine T.region ?_
  refine TL.st rfl rfl rfl (o_move rfl rfl) ?_
  refine TL.st rfl rfl rfl (o_build rfl ⟨_, fun _ => rfl, rfl⟩ rfl rfl rfl) ?_
  refine TL.st rfl rfl rfl (o_box rfl rfl rfl) ?_
  refine TL.st rfl rfl rfl (o_assign rfl rfl) ?_
  refine TL.nil ?_
  refine thn_normal ?_
  refine T.seq ?_
  refine T.region ?_
  refine TL.st rfl rfl rfl (o_move rfl rfl) ?_
  obtain ⟨⟨r1, o2⟩, h3, H⟩ := bind_s H
  refine TL.st rfl rfl rfl (o_callS [0] rfl en_11 rfl rfl (spec_l1Cur_pick_p b0 h3) rfl (by decide) (.cons _ _ _ _ rfl .nil) rfl rfl rfl) ?_
  refine TL.st rfl rfl rfl (o_ari rfl rfl rfl rfl) ?_
  refine TL.st rfl rfl rfl (o_assign rfl rfl) ?_
  refine TL.nil ?_
  refine thn_normal ?_
  refine T.seq ?_
  refine T.region ?_
  refine TL.st rfl rfl rfl (o_move rfl rfl) ?_
  refine TL.st rfl rfl rfl (o_move rfl rfl) ?_
  obtain ⟨⟨r4, o5⟩, h6, H⟩ := bind_s H
  refine TL.st rfl rfl rfl (o_callS [0] rfl en_11 rfl rfl (spec_l1Cur_pick_p b0 h6) rfl (by decide) (.cons _ _ _ _ rfl .nil) rfl rfl rfl) ?_
  obtain ⟨r7, h8, H⟩ := bind_s H
  refine TL.st rfl rfl rfl (o_callP rfl en_19 rfl rfl (.cons _ _ _ _ (.cl _ rfl) (.cons _ _ _ _ (.cl _ rfl) .nil)) (spec_l7Token_p  h8)) ?_
  refine TL.st rfl rfl rfl (o_assign rfl rfl) ?_
  refine TL.nil ?_
  refine thn_normal ?_
  refine T.cut (fun fr' σ' => ∃ (b9 : T_spec_l1Cur) (v10 : ByteArray), fr' = [(4, .bx 0 0), (5, .int .i64 (IntKind.i64.wrap (1 + r1))), (6, .str v10)] ∧ σ' = [.box (c_T_spec_l1Cur b0 b9)] ∧ spec_DrawReadToken_j1 r1 b9 v10 = some (R0, R1)) (T.pk ?_) ?_
  · skip
    refine T.seq ?_
    refine T.region ?_
    refine TL.st rfl rfl rfl (o_move rfl rfl) ?_
    obtain ⟨⟨r14, o15⟩, h16, H⟩ := bind_s H
    refine TL.st rfl rfl rfl (o_callS [0] rfl en_23 rfl rfl (spec_l1Cur_one_p b0 h16) rfl (by decide) (.cons _ _ _ _ rfl .nil) rfl rfl rfl) ?_
    refine TL.nil ?_
    refine thn_normal ?_
    refine T.cond (r14) rfl (fun h => ?_) (fun h => ?_)
    · replace H := cond_t h H
      refine T.region ?_
      refine TL.st rfl rfl rfl (o_move rfl rfl) ?_
      refine TL.st rfl rfl rfl (o_move rfl rfl) ?_
      obtain ⟨⟨r17, o18⟩, h19, H⟩ := bind_s H
      refine TL.st rfl rfl rfl (o_callS [0] rfl en_24 rfl rfl (spec_l1Cur_spoilt_p b0 h19) rfl (by decide) (.cons _ _ _ _ rfl .nil) rfl rfl rfl) ?_
      refine TL.st rfl rfl rfl (o_assign rfl rfl) ?_
      refine TL.nil ?_
      exact Pk.go (fr' := [(4, .bx 0 0), (5, .int .i64 (IntKind.i64.wrap (1 + r1))), (6, .str r17)]) (σ' := [.box (c_T_spec_l1Cur b0 o18)]) _ rfl rfl ⟨(bels_iff.1 rfl), trivial⟩ (.cons 4 _ (.bx 0 0) _ rfl (.same _) rfl (.cons 5 _ (.int .i64 (IntKind.i64.wrap (1 + r1))) _ rfl (.same _) rfl (.cons 6 _ (.str r17) _ rfl (.same _) rfl .nil))) (thn_normal ⟨o18, r17, rfl, rfl, H⟩)
    · replace H := cond_f h H
      refine T.skip ?_
      exact Pk.go (fr' := [(4, .bx 0 0), (5, .int .i64 (IntKind.i64.wrap (1 + r1))), (6, .str r7)]) (σ' := [.box (c_T_spec_l1Cur b0 o15)]) _ rfl rfl ⟨(bels_iff.1 rfl), trivial⟩ (.cons 4 _ (.bx 0 0) _ rfl (.same _) rfl (.cons 5 _ (.int .i64 (IntKind.i64.wrap (1 + r1))) _ rfl (.same _) rfl (.cons 6 _ (.str r7) _ rfl (.same _) rfl .nil))) (thn_normal ⟨o15, r7, rfl, rfl, H⟩)
  · rintro _ _ ⟨b9, v10, rfl, rfl, H⟩
    refine T.seq ?_
    refine T.region ?_
    refine TL.st rfl rfl rfl (o_move rfl rfl) ?_
    refine TL.st rfl rfl rfl (o_move rfl rfl) ?_
    obtain ⟨⟨r11, o12⟩, h13, H⟩ := bind_s H
    refine TL.st rfl rfl rfl (o_callS [0] rfl en_11 rfl rfl (spec_l1Cur_pick_p b0 h13) rfl (by decide) (.cons _ _ _ _ rfl .nil) rfl rfl rfl) ?_
    refine TL.st rfl rfl rfl (o_quo rfl rfl rfl (by decide)) ?_
    refine TL.st rfl rfl rfl (o_ari rfl rfl rfl rfl) ?_
    refine TL.st rfl rfl rfl (o_move rfl rfl) ?_
    refine TL.st rfl rfl rfl (o_assign rfl rfl) ?_
    refine TL.st rfl rfl rfl (o_assign rfl rfl) ?_
    refine TL.nil ?_
    refine thn_normal ?_
    refine T.ret ?_
    cases some_i H
    exact ⟨trivial, _, (.tmp _ _ _ _ rfl (.tmp _ _ _ _ rfl .nil)), (.tupL (.cons _ _ _ _ (.cl _ rfl) (.cons _ _ _ _ (.cl _ rfl) .nil)))⟩
theorem en_8 (us : Array Value) (w : World) : (callFunc 8 us).run Go.Proofs.Tryd.prog w = .ok (.enter 8 us) w := enters Go.Proofs.Tryd.func8 rfl rfl us w
noncomputable def spec_l7Until_l2 (a0 : ByteArray) (a1 : ByteArray) (v1 : Int) : Int → Option (Int ⊕ (Unit ⊕ (ByteArray × ByteArray))) := fun s => match s with
  | v4 => cond (decide (v4 < (a1.size : Int))) ((idxS a0 v1).bind fun b7 => (idxS a1 v4).bind fun b9 => cond (b7 == b9) ((subS a0 0 v1).bind fun s11 => (subS a0 v1 (a0.size : Int)).bind fun s13 => some (.inr (.inr (s11, s13)))) (some (.inl (IntKind.i64.wrap (v4 + 1))))) (some (.inr (.inl ())))
noncomputable def spec_l7Until_l1 (a0 : ByteArray) (a1 : ByteArray) : Int → Option (Int ⊕ (Unit ⊕ (ByteArray × ByteArray))) := fun s => match s with
  | v1 => cond (decide (v1 < (a0.size : Int))) ((loopO (spec_l7Until_l2 a0 a1 v1) 0).bind fun q15 => (match q15 with | .inl _ => some (.inl (IntKind.i64.wrap (v1 + 1))) | .inr q5 => some (.inr (.inr q5)))) (some (.inr (.inl ())))
noncomputable def spec_l7Until (a0 : ByteArray) (a1 : ByteArray) : Option (ByteArray × ByteArray) :=
  (loopO (spec_l7Until_l1 a0 a1) 0).bind fun q17 => (match q17 with | .inl _ => some (a0, (ByteArray.mk #[])) | .inr q2 => some q2)
theorem spec_l7Until_p  {a0 : ByteArray} {a1 : ByteArray} {R0 : ByteArray} {R1 : ByteArray} (H : spec_l7Until a0 a1 = some (R0, R1)) : Pure Go.Proofs.Tryd.prog 25 [.str a0, .str a1] (.tup [.str R0, .str R1]) := by
  refine CallT.of_TN (n := 34) Go.Proofs.Tryd.func25 rfl rfl rfl rfl ?_
  refine T.seq ?_
  refine T.region ?_
  refine TL.st rfl rfl rfl (o_assign rfl rfl) ?_
  refine TL.st rfl rfl rfl (o_assign rfl rfl) ?_
  refine TL.nil ?_
  refine thn_normal ?_
  refine T.seq ?_
  refine T.seq ?_
  refine T.region ?_
  refine TL.st rfl rfl rfl (o_assign rfl rfl) ?_
  refine TL.nil ?_
  refine thn_normal ?_
  refine T.block ?_
  obtain ⟨q17, h18, H⟩ := bind_s H
  refine T.to (.cons 0 _ (.str a0) _ rfl (.same _) rfl (.cons 1 _ (.str a1) _ rfl (.same _) rfl (.cons 6 _ (.int .i64 0) _ rfl (.same _) rfl .nil))) ?_
  refine T.lp (fun s => match s with | v1 => [(0, .str a0), (1, .str a1), (6, .int .i64 v1)]) (fun s => match s with | v1 => []) (fun q ex fr σ => match q with | .inl _ => ex = .exit 0 ∧ fr = [(0, .str a0)] ∧ σ = [] | .inr q2 => ex = .ret ∧ RetN Go.Proofs.Tryd.prog [.tmp 4, .tmp 5] (fun v τ => Told τ v (.tup [.str q2.1, .str q2.2])) .ret fr σ) h18 ?_ ?_ ?_ ?_ ?_
  · rintro v1 y3 H
    refine T.seq ?_
    refine T.seq ?_
    refine T.region ?_
    refine TL.st rfl rfl rfl (o_move rfl rfl) ?_
    refine TL.st rfl rfl rfl (o_move rfl rfl) ?_
    refine TL.st rfl rfl rfl (o_lenS rfl rfl rfl) ?_
    refine TL.st rfl rfl rfl (o_ari rfl rfl rfl rfl) ?_
    refine TL.nil ?_
    refine thn_normal ?_
    refine T.cond (decide (v1 < (a0.size : Int))) rfl (fun h => ?_) (fun h => ?_)
    · replace H := cond_t h H
      refine T.skip ?_
      refine thn_normal ?_
      refine T.seq ?_
      refine T.block ?_
      refine T.seq ?_
      refine T.region ?_
      refine TL.st rfl rfl rfl (o_assign rfl rfl) ?_
      refine TL.nil ?_
      refine thn_normal ?_
      refine T.block ?_
      obtain ⟨q15, h16, H⟩ := bind_s H
      refine T.to (.cons 0 _ (.str a0) _ rfl (.same _) rfl (.cons 1 _ (.str a1) _ rfl (.same _) rfl (.cons 6 _ (.int .i64 v1) _ rfl (.same _) rfl (.cons 7 _ (.int .i64 0) _ rfl (.same _) rfl .nil)))) ?_
      refine T.lp (fun s => match s with | v4 => [(0, .str a0), (1, .str a1), (6, .int .i64 v1), (7, .int .i64 v4)]) (fun s => match s with | v4 => []) (fun q ex fr σ => match q with | .inl _ => ex = .exit 2 ∧ fr = [(0, .str a0), (1, .str a1), (6, .int .i64 v1)] ∧ σ = [] | .inr q5 => ex = .ret ∧ RetN Go.Proofs.Tryd.prog [.tmp 4, .tmp 5] (fun v τ => Told τ v (.tup [.str q5.1, .str q5.2])) .ret fr σ) h16 ?_ ?_ ?_ ?_ ?_
      · rintro v4 y6 H
        refine T.seq ?_
        refine T.seq ?_
        refine T.region ?_
        refine TL.st rfl rfl rfl (o_move rfl rfl) ?_
        refine TL.st rfl rfl rfl (o_move rfl rfl) ?_
        refine TL.st rfl rfl rfl (o_lenS rfl rfl rfl) ?_
        refine TL.st rfl rfl rfl (o_ari rfl rfl rfl rfl) ?_
        refine TL.nil ?_
        refine thn_normal ?_
        refine T.cond (decide (v4 < (a1.size : Int))) rfl (fun h => ?_) (fun h => ?_)
        · replace H := cond_t h H
          refine T.skip ?_
          refine thn_normal ?_
          refine T.seq ?_
          refine T.block ?_
          refine T.seq ?_
          refine T.drawn rfl ?_
          refine TD.qs rfl rfl (fun _ => o_move rfl rfl) ?_
          refine TD.qs rfl rfl (fun _ => o_move rfl rfl) ?_
          obtain ⟨b7, h8, H⟩ := bind_s H
          refine TD.qs rfl rfl (fun _ => o_ixs rfl rfl rfl rfl h8) ?_
          refine TD.qs rfl rfl (fun _ => o_move rfl rfl) ?_
          refine TD.qs rfl rfl (fun _ => o_move rfl rfl) ?_
          obtain ⟨b9, h10, H⟩ := bind_s H
          refine TD.qs rfl rfl (fun _ => o_ixs rfl rfl rfl rfl h10) ?_
          refine TD.qs rfl rfl (fun _ => o_ari rfl rfl rfl rfl) ?_
          refine TD.nil ⟨rfl, ?_⟩
          refine thn_normal ?_
          refine T.cond ((b7 == b9)) rfl (fun h => ?_) (fun h => ?_)
          · replace H := cond_t h H
            refine T.seq ?_
            refine T.drawn rfl ?_
            refine TD.qs rfl rfl (fun _ => o_move rfl rfl) ?_
            refine TD.qs rfl rfl (fun _ => o_move rfl rfl) ?_
            obtain ⟨s11, h12, H⟩ := bind_s H
            refine TD.qs rfl rfl (fun _ => o_subS rfl rfl rfl rfl rfl h12) ?_
            refine TD.qs rfl rfl (fun _ => o_move rfl rfl) ?_
            refine TD.qs rfl rfl (fun _ => o_move rfl rfl) ?_
            obtain ⟨s13, h14, H⟩ := bind_s H
            refine TD.qs rfl rfl (fun _ => o_subS rfl rfl rfl rfl rfl h14) ?_
            refine TD.qs rfl rfl (fun _ => o_assign rfl rfl) ?_
            refine TD.qs rfl rfl (fun _ => o_assign rfl rfl) ?_
            refine TD.nil ⟨rfl, ?_⟩
            refine thn_normal ?_
            refine T.ret ?_
            refine inB_ret ?_
            refine thn_ret ?_
            exact Pk.id (thn_ret ⟨.inr (s11, s13), (some_i H).symm, rfl, ⟨trivial, _, (.tmp _ _ _ _ rfl (.tmp _ _ _ _ rfl .nil)), (.tupL (.cons _ _ _ _ (.cl _ rfl) (.cons _ _ _ _ (.cl _ rfl) .nil)))⟩⟩)
          · replace H := cond_f h H
            refine T.skip ?_
            refine inB_normal ?_
            refine thn_normal ?_
            refine T.region ?_
            refine TL.st rfl rfl rfl (o_move rfl rfl) ?_
            refine TL.st rfl rfl rfl (o_ari rfl rfl rfl rfl) ?_
            refine TL.st rfl rfl rfl (o_assign rfl rfl) ?_
            refine TL.nil ?_
            exact Pk.go (fr' := [(0, .str a0), (1, .str a1), (6, .int .i64 v1), (7, .int .i64 (IntKind.i64.wrap (v4 + 1)))]) (σ' := []) _ rfl rfl trivial (.cons 0 _ (.str a0) _ rfl (.same _) rfl (.cons 1 _ (.str a1) _ rfl (.same _) rfl (.cons 6 _ (.int .i64 v1) _ rfl (.same _) rfl (.cons 7 _ (.int .i64 (IntKind.i64.wrap (v4 + 1))) _ rfl (.same _) rfl .nil)))) (thn_normal ⟨(IntKind.i64.wrap (v4 + 1)), (some_i H).symm, rfl, rfl⟩)
        · replace H := cond_f h H
          refine T.exit ?_
          refine thn_exit ?_
          exact Pk.go (fr' := [(0, .str a0), (1, .str a1), (6, .int .i64 v1)]) (σ' := []) _ rfl rfl trivial (.cons 0 _ (.str a0) _ rfl (.same _) rfl (.cons 1 _ (.str a1) _ rfl (.same _) rfl (.cons 6 _ (.int .i64 v1) _ rfl (.same _) rfl .nil))) (thn_exit ⟨.inl (), (some_i H).symm, rfl, rfl, rfl⟩)
      · rintro v4 v4'; rfl
      · rintro v4; exact trivial
      · rintro v4; exact (.cons _ _ _ rfl rfl (.cons _ _ _ rfl rfl (.cons _ _ _ rfl rfl (.cons _ _ _ rfl rfl .nil))))
      · rcases q15 with ⟨⟩ | q5
        · rintro _ _ _ ⟨rfl, rfl, rfl⟩
          refine inB_here ?_
          refine inB_normal ?_
          refine thn_normal ?_
          refine T.region ?_
          refine TL.st rfl rfl rfl (o_move rfl rfl) ?_
          refine TL.st rfl rfl rfl (o_ari rfl rfl rfl rfl) ?_
          refine TL.st rfl rfl rfl (o_assign rfl rfl) ?_
          refine TL.nil ?_
          exact Pk.go (fr' := [(0, .str a0), (1, .str a1), (6, .int .i64 (IntKind.i64.wrap (v1 + 1)))]) (σ' := []) _ rfl rfl trivial (.cons 0 _ (.str a0) _ rfl (.same _) rfl (.cons 1 _ (.str a1) _ rfl (.same _) rfl (.cons 6 _ (.int .i64 (IntKind.i64.wrap (v1 + 1))) _ rfl (.same _) rfl .nil))) (thn_normal ⟨(IntKind.i64.wrap (v1 + 1)), (some_i H).symm, rfl, rfl⟩)
        · rintro _ fr1 σ1 ⟨rfl, hr⟩
          refine inB_ret ?_
          refine inB_ret ?_
          refine thn_ret ?_
          exact Pk.id (thn_ret ⟨.inr q5, (some_i H).symm, rfl, hr⟩)
    · replace H := cond_f h H
      refine T.exit ?_
      refine thn_exit ?_
      exact Pk.go (fr' := [(0, .str a0)]) (σ' := []) _ rfl rfl trivial (.cons 0 _ (.str a0) _ rfl (.same _) rfl .nil) (thn_exit ⟨.inl (), (some_i H).symm, rfl, rfl, rfl⟩)
  · rintro v1 v1'; rfl
  · rintro v1; exact trivial
  · rintro v1; exact (.cons _ _ _ rfl rfl (.cons _ _ _ rfl rfl (.cons _ _ _ rfl rfl .nil)))
  · rcases q17 with ⟨⟩ | q2
    · rintro _ _ _ ⟨rfl, rfl, rfl⟩
      refine inB_here ?_
      refine thn_normal ?_
      refine T.seq ?_
      refine T.region ?_
      refine TL.st rfl rfl rfl (o_move rfl rfl) ?_
      refine TL.st rfl rfl rfl (o_assign rfl rfl) ?_
      refine TL.st rfl rfl rfl (o_assign rfl rfl) ?_
      refine TL.nil ?_
      refine thn_normal ?_
      refine T.ret ?_
      cases some_i H
      exact ⟨trivial, _, (.tmp _ _ _ _ rfl (.tmp _ _ _ _ rfl .nil)), (.tupL (.cons _ _ _ _ (.cl _ rfl) (.cons _ _ _ _ (.cl _ rfl) .nil)))⟩
    · rintro _ fr1 σ1 ⟨rfl, hr⟩
      refine inB_ret ?_
      refine thn_ret ?_
      cases some_i H
      exact hr
theorem en_25 (us : Array Value) (w : World) : (callFunc 25 us).run Go.Proofs.Tryd.prog w = .ok (.enter 25 us) w := enters Go.Proofs.Tryd.func25 rfl rfl us w
noncomputable def spec_l1Digit (a0 : Int) : Option Bool :=
  some (decide (a0 ≥ 48) && decide (a0 ≤ 57))
theorem spec_l1Digit_p  {a0 : Int} {R0 : Bool} (H : spec_l1Digit a0 = some R0) : Pure Go.Proofs.Tryd.prog 39 [.int .u8 a0] (.bool R0) := by
  refine CallT.of_TN (n := 9) Go.Proofs.Tryd.func39 rfl rfl rfl rfl ?_
  refine T.seq ?_
  refine T.region ?_
  refine TL.st rfl rfl rfl (o_assign rfl rfl) ?_
  refine TL.nil ?_
  refine thn_normal ?_
  refine T.seq ?_
  refine T.region ?_
  refine TL.st rfl rfl rfl (o_move rfl rfl) ?_
  refine TL.st rfl rfl rfl (o_ari rfl rfl rfl rfl) ?_
  refine TL.st rfl rfl rfl (o_move rfl rfl) ?_
  refine TL.gcq rfl rfl rfl (.bool _) rfl rfl (fun h => o_move rfl rfl) ?_
  refine TL.gcq rfl rfl rfl (.bool _) rfl rfl (fun h => o_ari rfl (gv h rfl) rfl rfl) ?_
  refine TL.st rfl rfl rfl (o_and rfl rfl rfl (fun k => Gd_t k) rfl) ?_
  refine TL.st rfl rfl rfl (o_assign rfl rfl) ?_
  refine TL.nil ?_
  refine thn_normal ?_
  refine T.ret ?_
  cases some_i H
  exact ⟨trivial, _, (.tmp _ _ _ _ rfl .nil), (.cl _ rfl)⟩
theorem en_39 (us : Array Value) (w : World) : (callFunc 39 us).run Go.Proofs.Tryd.prog w = .ok (.enter 39 us) w := enters Go.Proofs.Tryd.func39 rfl rfl us w
noncomputable def spec_l1Whole_j1 (a0 : ByteArray) (v5 : Int) : Option (Int × Bool) :=
  (spec_l1Num v5).bind fun r6 => some (v5, (r6.toList == a0.toList))
noncomputable def spec_l1Whole_j2 (v2 : Int) (v11 : Int) : Option ((Int × Int) ⊕ (Int ⊕ (Int × Bool))) :=
  some (.inl (v11, (IntKind.i64.wrap (v2 + 1))))
noncomputable def spec_l1Whole_l1 (a0 : ByteArray) : (Int × Int) → Option ((Int × Int) ⊕ (Int ⊕ (Int × Bool))) := fun s => match s with
  | (v1, v2) => cond (decide (v2 < (a0.size : Int))) ((gdO (v2 == 0) (idxS a0 0)).bind fun b12 => cond ((v2 == 0) && (b12 == 45)) (spec_l1Whole_j2 v2 v1) ((idxS a0 v2).bind fun b14 => (spec_l1Digit b14).bind fun r16 => cond (!r16) (some (.inr (.inr (0, false)))) ((idxS a0 v2).bind fun b18 => spec_l1Whole_j2 v2 (IntKind.i64.wrap ((IntKind.i64.wrap (v1 * 10)) - (IntKind.i64.wrap (IntKind.u8.wrap (b18 - 48)))))))) (some (.inr (.inl v1)))
noncomputable def spec_l1Whole (a0 : ByteArray) : Option (Int × Bool) :=
  cond (decide ((a0.size : Int) < 1) || decide ((a0.size : Int) > 20)) (some (0, false)) ((loopO (spec_l1Whole_l1 a0) (0, 0)).bind fun q20 => (match q20 with | .inl v3 => (idxS a0 0).bind fun b8 => cond (b8 != 45) (spec_l1Whole_j1 a0 (IntKind.i64.wrap (-v3))) (spec_l1Whole_j1 a0 v3) | .inr q4 => some q4))
theorem spec_l1Whole_p  {a0 : ByteArray} {R0 : Int} {R1 : Bool} (H : spec_l1Whole a0 = some (R0, R1)) : Pure Go.Proofs.Tryd.prog 26 [.str a0] (.tup [.int .i64 R0, .bool R1]) := by
  refine CallT.of_TN (n := 50) Go.Proofs.Tryd.func26 rfl rfl rfl rfl ?_
  refine T.seq ?_
  refine T.region ?_
  refine TL.st rfl rfl rfl (o_assign rfl rfl) ?_
  refine TL.st rfl rfl rfl (o_assign rfl rfl) ?_
  refine TL.nil ?_
  refine thn_normal ?_
  refine T.seq ?_
  refine T.seq ?_
  refine T.region ?_
  refine TL.st rfl rfl rfl (o_move rfl rfl) ?_
  refine TL.st rfl rfl rfl (o_lenS rfl rfl rfl) ?_
  refine TL.st rfl rfl rfl (o_ari rfl rfl rfl rfl) ?_
  refine TL.st rfl rfl rfl (o_move rfl rfl) ?_
  refine TL.gcq rfl rfl rfl (.bool _) rfl rfl (fun h => o_move rfl rfl) ?_
  refine TL.gcq rfl rfl rfl (.bool _) rfl rfl (fun h => o_lenS rfl rfl (gv h rfl)) ?_
  refine TL.gcq rfl rfl rfl (.bool _) rfl rfl (fun h => o_ari rfl (gv h rfl) rfl rfl) ?_
  refine TL.st rfl rfl rfl (o_or rfl rfl rfl rfl (fun k => Gd_t k)) ?_
  refine TL.nil ?_
  refine thn_normal ?_
  refine T.cond ((decide ((a0.size : Int) < 1) || decide ((a0.size : Int) > 20))) rfl (fun h => ?_) (fun h => ?_)
  · replace H := cond_t h H
    refine T.seq ?_
    refine T.region ?_
    refine TL.st rfl rfl rfl (o_assign rfl rfl) ?_
    refine TL.st rfl rfl rfl (o_assign rfl rfl) ?_
    refine TL.nil ?_
    refine thn_normal ?_
    refine T.ret ?_
    refine thn_ret ?_
    cases some_i H
    exact ⟨trivial, _, (.tmp _ _ _ _ rfl (.tmp _ _ _ _ rfl .nil)), (.tupL (.cons _ _ _ _ (.cl _ rfl) (.cons _ _ _ _ (.cl _ rfl) .nil)))⟩
  · replace H := cond_f h H
    refine T.skip ?_
    refine thn_normal ?_
    refine T.seq ?_
    refine T.region ?_
    refine TL.st rfl rfl rfl (o_assign rfl rfl) ?_
    refine TL.nil ?_
    refine thn_normal ?_
    refine T.seq ?_
    refine T.seq ?_
    refine T.region ?_
    refine TL.st rfl rfl rfl (o_assign rfl rfl) ?_
    refine TL.nil ?_
    refine thn_normal ?_
    refine T.block ?_
    obtain ⟨q20, h21, H⟩ := bind_s H
    refine T.to (.cons 0 _ (.str a0) _ rfl (.same _) rfl (.cons 4 _ (.int .i64 0) _ rfl (.same _) rfl (.cons 5 _ (.int .i64 0) _ rfl (.same _) rfl .nil))) ?_
    refine T.lp (fun s => match s with | (v1, v2) => [(0, .str a0), (4, .int .i64 v1), (5, .int .i64 v2)]) (fun s => match s with | (v1, v2) => []) (fun q ex fr σ => match q with | .inl v3 => ex = .exit 0 ∧ fr = [(0, .str a0), (4, .int .i64 v3)] ∧ σ = [] | .inr q4 => ex = .ret ∧ RetN Go.Proofs.Tryd.prog [.tmp 2, .tmp 3] (fun v τ => Told τ v (.tup [.int .i64 q4.1, .bool q4.2])) .ret fr σ) h21 ?_ ?_ ?_ ?_ ?_
    · rintro ⟨v1, v2⟩ y10 H
      refine T.seq ?_
      refine T.seq ?_
      refine T.region ?_
      refine TL.st rfl rfl rfl (o_move rfl rfl) ?_
      refine TL.st rfl rfl rfl (o_move rfl rfl) ?_
      refine TL.st rfl rfl rfl (o_lenS rfl rfl rfl) ?_
      refine TL.st rfl rfl rfl (o_ari rfl rfl rfl rfl) ?_
      refine TL.nil ?_
      refine thn_normal ?_
      refine T.cond (decide (v2 < (a0.size : Int))) rfl (fun h => ?_) (fun h => ?_)
      · replace H := cond_t h H
        refine T.skip ?_
        refine thn_normal ?_
        refine T.cut (fun fr' σ' => ∃ (v11 : Int), fr' = [(0, .str a0), (4, .int .i64 v11), (5, .int .i64 v2)] ∧ σ' = [] ∧ spec_l1Whole_j2 v2 v11 = some y10) (T.pk ?_) ?_
        · skip
          refine T.block ?_
          refine T.seq ?_
          refine T.seq ?_
          refine T.region ?_
          refine TL.st rfl rfl rfl (o_move rfl rfl) ?_
          refine TL.st rfl rfl rfl (o_ari rfl rfl rfl rfl) ?_
          refine TL.st rfl rfl rfl (o_move rfl rfl) ?_
          refine TL.gcq rfl rfl rfl (.bool _) rfl rfl (fun h => o_move rfl rfl) ?_
          obtain ⟨b12, h13, H⟩ := bind_s H
          refine TL.gcq rfl rfl rfl (.bool _) rfl rfl (fun h => o_ixs rfl rfl (gv h rfl) rfl (gdO_t h13 h)) ?_
          refine TL.gcq rfl rfl rfl (.bool _) rfl rfl (fun h => o_ari rfl (gv h rfl) rfl rfl) ?_
          refine TL.st rfl rfl rfl (o_and rfl rfl rfl (fun k => Gd_t k) rfl) ?_
          refine TL.nil ?_
          refine thn_normal ?_
          refine T.cond (((v2 == 0) && (b12 == 45))) rfl (fun h => ?_) (fun h => ?_)
          · replace H := cond_t h H
            refine T.exit ?_
            refine thn_exit ?_
            refine inB_here ?_
            exact Pk.go (fr' := [(0, .str a0), (4, .int .i64 v1), (5, .int .i64 v2)]) (σ' := []) _ rfl rfl trivial (.cons 0 _ (.str a0) _ rfl (.same _) rfl (.cons 4 _ (.int .i64 v1) _ rfl (.same _) rfl (.cons 5 _ (.int .i64 v2) _ rfl (.same _) rfl .nil))) (thn_normal ⟨v1, rfl, rfl, H⟩)
          · replace H := cond_f h H
            refine T.skip ?_
            refine thn_normal ?_
            refine T.seq ?_
            refine T.seq ?_
            refine T.region ?_
            refine TL.st rfl rfl rfl (o_move rfl rfl) ?_
            refine TL.st rfl rfl rfl (o_move rfl rfl) ?_
            obtain ⟨b14, h15, H⟩ := bind_s H
            refine TL.st rfl rfl rfl (o_ixs rfl rfl rfl rfl h15) ?_
            obtain ⟨r16, h17, H⟩ := bind_s H
            refine TL.st rfl rfl rfl (o_callP rfl en_39 rfl rfl (.cons _ _ _ _ (.cl _ rfl) .nil) (spec_l1Digit_p  h17)) ?_
            refine TL.st rfl rfl rfl (o_not rfl rfl) ?_
            refine TL.nil ?_
            refine thn_normal ?_
            refine T.cond ((!r16)) rfl (fun h => ?_) (fun h => ?_)
            · replace H := cond_t h H
              refine T.seq ?_
              refine T.region ?_
              refine TL.st rfl rfl rfl (o_assign rfl rfl) ?_
              refine TL.st rfl rfl rfl (o_assign rfl rfl) ?_
              refine TL.nil ?_
              refine thn_normal ?_
              refine T.ret ?_
              refine thn_ret ?_
              refine inB_ret ?_
              refine Pk.id (thn_ret ?_)
              exact Pk.id (thn_ret ⟨.inr (0, false), (some_i H).symm, rfl, ⟨trivial, _, (.tmp _ _ _ _ rfl (.tmp _ _ _ _ rfl .nil)), (.tupL (.cons _ _ _ _ (.cl _ rfl) (.cons _ _ _ _ (.cl _ rfl) .nil)))⟩⟩)
            · replace H := cond_f h H
              refine T.skip ?_
              refine thn_normal ?_
              refine T.region ?_
              refine TL.st rfl rfl rfl (o_move rfl rfl) ?_
              refine TL.st rfl rfl rfl (o_ari rfl rfl rfl rfl) ?_
              refine TL.st rfl rfl rfl (o_move rfl rfl) ?_
              refine TL.st rfl rfl rfl (o_move rfl rfl) ?_
              obtain ⟨b18, h19, H⟩ := bind_s H
              refine TL.st rfl rfl rfl (o_ixs rfl rfl rfl rfl h19) ?_
              refine TL.st rfl rfl rfl (o_ari rfl rfl rfl rfl) ?_
              refine TL.st rfl rfl rfl (o_conv rfl rfl ⟨_, rfl⟩ rfl) ?_
              refine TL.st rfl rfl rfl (o_ari rfl rfl rfl rfl) ?_
              refine TL.st rfl rfl rfl (o_assign rfl rfl) ?_
              refine TL.nil ?_
              refine inB_normal ?_
              exact Pk.go (fr' := [(0, .str a0), (4, .int .i64 (IntKind.i64.wrap ((IntKind.i64.wrap (v1 * 10)) - (IntKind.i64.wrap (IntKind.u8.wrap (b18 - 48)))))), (5, .int .i64 v2)]) (σ' := []) _ rfl rfl trivial (.cons 0 _ (.str a0) _ rfl (.same _) rfl (.cons 4 _ (.int .i64 (IntKind.i64.wrap ((IntKind.i64.wrap (v1 * 10)) - (IntKind.i64.wrap (IntKind.u8.wrap (b18 - 48)))))) _ rfl (.same _) rfl (.cons 5 _ (.int .i64 v2) _ rfl (.same _) rfl .nil))) (thn_normal ⟨(IntKind.i64.wrap ((IntKind.i64.wrap (v1 * 10)) - (IntKind.i64.wrap (IntKind.u8.wrap (b18 - 48))))), rfl, rfl, H⟩)
        · rintro _ _ ⟨v11, rfl, rfl, H⟩
          refine T.region ?_
          refine TL.st rfl rfl rfl (o_move rfl rfl) ?_
          refine TL.st rfl rfl rfl (o_ari rfl rfl rfl rfl) ?_
          refine TL.st rfl rfl rfl (o_assign rfl rfl) ?_
          refine TL.nil ?_
          exact Pk.go (fr' := [(0, .str a0), (4, .int .i64 v11), (5, .int .i64 (IntKind.i64.wrap (v2 + 1)))]) (σ' := []) _ rfl rfl trivial (.cons 0 _ (.str a0) _ rfl (.same _) rfl (.cons 4 _ (.int .i64 v11) _ rfl (.same _) rfl (.cons 5 _ (.int .i64 (IntKind.i64.wrap (v2 + 1))) _ rfl (.same _) rfl .nil))) (thn_normal ⟨(v11, (IntKind.i64.wrap (v2 + 1))), (some_i H).symm, rfl, rfl⟩)
      · replace H := cond_f h H
        refine T.exit ?_
        refine thn_exit ?_
        exact Pk.go (fr' := [(0, .str a0), (4, .int .i64 v1)]) (σ' := []) _ rfl rfl trivial (.cons 0 _ (.str a0) _ rfl (.same _) rfl (.cons 4 _ (.int .i64 v1) _ rfl (.same _) rfl .nil)) (thn_exit ⟨.inl v1, (some_i H).symm, rfl, rfl, rfl⟩)
    · rintro ⟨v1, v2⟩ ⟨v1', v2'⟩; rfl
    · rintro ⟨v1, v2⟩; exact trivial
    · rintro ⟨v1, v2⟩; exact (.cons _ _ _ rfl rfl (.cons _ _ _ rfl rfl (.cons _ _ _ rfl rfl .nil)))
    · rcases q20 with v3 | q4
      · rintro _ _ _ ⟨rfl, rfl, rfl⟩
        refine inB_here ?_
        refine thn_normal ?_
        refine T.cut (fun fr' σ' => ∃ (v5 : Int), fr' = [(0, .str a0), (4, .int .i64 v5)] ∧ σ' = [] ∧ spec_l1Whole_j1 a0 v5 = some (R0, R1)) (T.pk ?_) ?_
        · skip
          refine T.seq ?_
          refine T.region ?_
          refine TL.st rfl rfl rfl (o_move rfl rfl) ?_
          obtain ⟨b8, h9, H⟩ := bind_s H
          refine TL.st rfl rfl rfl (o_ixs rfl rfl rfl rfl h9) ?_
          refine TL.st rfl rfl rfl (o_ari rfl rfl rfl rfl) ?_
          refine TL.nil ?_
          refine thn_normal ?_
          refine T.cond ((b8 != 45)) rfl (fun h => ?_) (fun h => ?_)
          · replace H := cond_t h H
            refine T.region ?_
            refine TL.st rfl rfl rfl (o_move rfl rfl) ?_
            refine TL.st rfl rfl rfl (o_neg rfl rfl) ?_
            refine TL.st rfl rfl rfl (o_assign rfl rfl) ?_
            refine TL.nil ?_
            exact Pk.go (fr' := [(0, .str a0), (4, .int .i64 (IntKind.i64.wrap (-v3)))]) (σ' := []) _ rfl rfl trivial (.cons 0 _ (.str a0) _ rfl (.same _) rfl (.cons 4 _ (.int .i64 (IntKind.i64.wrap (-v3))) _ rfl (.same _) rfl .nil)) (thn_normal ⟨(IntKind.i64.wrap (-v3)), rfl, rfl, H⟩)
          · replace H := cond_f h H
            refine T.skip ?_
            exact Pk.go (fr' := [(0, .str a0), (4, .int .i64 v3)]) (σ' := []) _ rfl rfl trivial (.cons 0 _ (.str a0) _ rfl (.same _) rfl (.cons 4 _ (.int .i64 v3) _ rfl (.same _) rfl .nil)) (thn_normal ⟨v3, rfl, rfl, H⟩)
        · rintro _ _ ⟨v5, rfl, rfl, H⟩
          refine T.seq ?_
          refine T.region ?_
          refine TL.st rfl rfl rfl (o_move rfl rfl) ?_
          refine TL.st rfl rfl rfl (o_move rfl rfl) ?_
          obtain ⟨r6, h7, H⟩ := bind_s H
          refine TL.st rfl rfl rfl (o_callP rfl en_32 rfl rfl (.cons _ _ _ _ (.cl _ rfl) .nil) (spec_l1Num_p  h7)) ?_
          refine TL.st rfl rfl rfl (o_move rfl rfl) ?_
          refine TL.st rfl rfl rfl (o_str rfl rfl rfl rfl) ?_
          refine TL.st rfl rfl rfl (o_assign rfl rfl) ?_
          refine TL.st rfl rfl rfl (o_assign rfl rfl) ?_
          refine TL.nil ?_
          refine thn_normal ?_
          refine T.ret ?_
          cases some_i H
          exact ⟨trivial, _, (.tmp _ _ _ _ rfl (.tmp _ _ _ _ rfl .nil)), (.tupL (.cons _ _ _ _ (.cl _ rfl) (.cons _ _ _ _ (.cl _ rfl) .nil)))⟩
      · rintro _ fr1 σ1 ⟨rfl, hr⟩
        refine inB_ret ?_
        refine thn_ret ?_
        cases some_i H
        exact hr
theorem en_26 (us : Array Value) (w : World) : (callFunc 26 us).run Go.Proofs.Tryd.prog w = .ok (.enter 26 us) w := enters Go.Proofs.Tryd.func26 rfl rfl us w
noncomputable def spec_ReadToken (a0 : Int) (a1 : ByteArray) : Option (Int × Bool) :=
  (spec_l7Until a1 (ByteArray.mk #[46])).bind fun q => (match q with | (r1, r2) => (spec_l2Secret a0).bind fun r4 => (gdO (!((!r4) || decide ((r1.size : Int) < 2))) (idxS r1 0)).bind fun b6 => cond (((!r4) || decide ((r1.size : Int) < 2)) || (b6 != 114)) (some (0, false)) ((subS r1 1 (r1.size : Int)).bind fun s8 => (spec_l1Whole s8).bind fun q => (match q with | (r10, r11) => (gdO (!(!r11)) (spec_TokenOf a0 r10)).bind fun r13 => cond ((!r11) || (!(r13.toList == a1.toList))) (some (0, false)) (some (r10, true)))))
theorem spec_ReadToken_p  {a0 : Int} {a1 : ByteArray} {R0 : Int} {R1 : Bool} (H : spec_ReadToken a0 a1 = some (R0, R1)) : Pure Go.Proofs.Tryd.prog 9 [.int .i64 a0, .str a1] (.tup [.int .i64 R0, .bool R1]) := by
  refine CallT.of_TN (n := 44) Go.Proofs.Tryd.func9 rfl rfl rfl rfl ?_
  refine T.seq ?_
  refine T.region ?_
  refine TL.st rfl rfl rfl (o_assign rfl rfl) ?_
  refine TL.st rfl rfl rfl (o_assign rfl rfl) ?_
  refine TL.nil ?_
  refine thn_normal ?_
  refine T.seq ?_
  refine T.region ?_
  refine TL.st rfl rfl rfl (o_move rfl rfl) ?_
  obtain ⟨⟨r1, r2⟩, h3, H⟩ := bind_s H
  refine TL.st rfl rfl rfl (o_callP rfl en_25 rfl rfl (.cons _ _ _ _ (.cl _ rfl) (.cons _ _ _ _ (.cl _ rfl) .nil)) (spec_l7Until_p  h3)) ?_
  refine TL.st rfl rfl rfl (o_move rfl rfl) ?_
  refine TL.st rfl rfl rfl (o_extract rfl rfl rfl) ?_
  refine TL.st rfl rfl rfl (o_extract rfl rfl rfl) ?_
  refine TL.st rfl rfl rfl (o_assign rfl rfl) ?_
  refine TL.st rfl rfl rfl (o_assign rfl rfl) ?_
  refine TL.nil ?_
  refine thn_normal ?_
  refine T.seq ?_
  refine T.seq ?_
  refine T.region ?_
  refine TL.st rfl rfl rfl (o_move rfl rfl) ?_
  obtain ⟨r4, h5, H⟩ := bind_s H
  refine TL.st rfl rfl rfl (o_callP rfl en_18 rfl rfl (.cons _ _ _ _ (.cl _ rfl) .nil) (spec_l2Secret_p  h5)) ?_
  refine TL.st rfl rfl rfl (o_not rfl rfl) ?_
  refine TL.st rfl rfl rfl (o_move rfl rfl) ?_
  refine TL.gcq rfl rfl rfl (.bool _) rfl rfl (fun h => o_move rfl rfl) ?_
  refine TL.gcq rfl rfl rfl (.bool _) rfl rfl (fun h => o_lenS rfl rfl (gv h rfl)) ?_
  refine TL.gcq rfl rfl rfl (.bool _) rfl rfl (fun h => o_ari rfl (gv h rfl) rfl rfl) ?_
  refine TL.st rfl rfl rfl (o_or rfl rfl rfl rfl (fun k => Gd_t k)) ?_
  refine TL.st rfl rfl rfl (o_move rfl rfl) ?_
  refine TL.gcq rfl rfl rfl (.bool _) rfl rfl (fun h => o_move rfl rfl) ?_
  obtain ⟨b6, h7, H⟩ := bind_s H
  refine TL.gcq rfl rfl rfl (.bool _) rfl rfl (fun h => o_ixs rfl rfl (gv h rfl) rfl (gdO_t h7 h)) ?_
  refine TL.gcq rfl rfl rfl (.bool _) rfl rfl (fun h => o_ari rfl (gv h rfl) rfl rfl) ?_
  refine TL.st rfl rfl rfl (o_or rfl rfl rfl rfl (fun k => Gd_t k)) ?_
  refine TL.nil ?_
  refine thn_normal ?_
  refine T.cond ((((!r4) || decide ((r1.size : Int) < 2)) || (b6 != 114))) rfl (fun h => ?_) (fun h => ?_)
  · replace H := cond_t h H
    refine T.seq ?_
    refine T.region ?_
    refine TL.st rfl rfl rfl (o_assign rfl rfl) ?_
    refine TL.st rfl rfl rfl (o_assign rfl rfl) ?_
    refine TL.nil ?_
    refine thn_normal ?_
    refine T.ret ?_
    refine thn_ret ?_
    cases some_i H
    exact ⟨trivial, _, (.tmp _ _ _ _ rfl (.tmp _ _ _ _ rfl .nil)), (.tupL (.cons _ _ _ _ (.cl _ rfl) (.cons _ _ _ _ (.cl _ rfl) .nil)))⟩
  · replace H := cond_f h H
    refine T.skip ?_
    refine thn_normal ?_
    refine T.seq ?_
    refine T.region ?_
    refine TL.st rfl rfl rfl (o_move rfl rfl) ?_
    obtain ⟨s8, h9, H⟩ := bind_s H
    refine TL.st rfl rfl rfl (o_subS rfl rfl rfl rfl rfl h9) ?_
    obtain ⟨⟨r10, r11⟩, h12, H⟩ := bind_s H
    refine TL.st rfl rfl rfl (o_callP rfl en_26 rfl rfl (.cons _ _ _ _ (.cl _ rfl) .nil) (spec_l1Whole_p  h12)) ?_
    refine TL.st rfl rfl rfl (o_move rfl rfl) ?_
    refine TL.st rfl rfl rfl (o_extract rfl rfl rfl) ?_
    refine TL.st rfl rfl rfl (o_extract rfl rfl rfl) ?_
    refine TL.st rfl rfl rfl (o_assign rfl rfl) ?_
    refine TL.st rfl rfl rfl (o_assign rfl rfl) ?_
    refine TL.nil ?_
    refine thn_normal ?_
    refine T.seq ?_
    refine T.seq ?_
    refine T.region ?_
    refine TL.st rfl rfl rfl (o_move rfl rfl) ?_
    refine TL.st rfl rfl rfl (o_not rfl rfl) ?_
    refine TL.st rfl rfl rfl (o_move rfl rfl) ?_
    refine TL.gcq rfl rfl rfl (.bool _) rfl rfl (fun h => o_move rfl rfl) ?_
    refine TL.gcq rfl rfl rfl (.bool _) rfl rfl (fun h => o_move rfl rfl) ?_
    obtain ⟨r13, h14, H⟩ := bind_s H
    refine TL.gcq rfl rfl rfl (.bool _) rfl rfl (fun h => o_callP rfl en_6 rfl (evl_2 (gv h rfl) (gv h rfl)) (.cons _ _ _ _ (.cl _ rfl) (.cons _ _ _ _ (.cl _ rfl) .nil)) (spec_TokenOf_p  (gdO_t h14 h))) ?_
    refine TL.gcq rfl rfl rfl (.bool _) rfl rfl (fun h => o_move rfl rfl) ?_
    refine TL.gcq rfl rfl rfl (.bool _) rfl rfl (fun h => o_str rfl (gv h rfl) (gv h rfl) rfl) ?_
    refine TL.st rfl rfl rfl (o_or rfl rfl rfl rfl (fun k => Gd_t k)) ?_
    refine TL.nil ?_
    refine thn_normal ?_
    refine T.cond (((!r11) || (!(r13.toList == a1.toList)))) rfl (fun h => ?_) (fun h => ?_)
    · replace H := cond_t h H
      refine T.seq ?_
      refine T.region ?_
      refine TL.st rfl rfl rfl (o_assign rfl rfl) ?_
      refine TL.st rfl rfl rfl (o_assign rfl rfl) ?_
      refine TL.nil ?_
      refine thn_normal ?_
      refine T.ret ?_
      refine thn_ret ?_
      cases some_i H
      exact ⟨trivial, _, (.tmp _ _ _ _ rfl (.tmp _ _ _ _ rfl .nil)), (.tupL (.cons _ _ _ _ (.cl _ rfl) (.cons _ _ _ _ (.cl _ rfl) .nil)))⟩
    · replace H := cond_f h H
      refine T.skip ?_
      refine thn_normal ?_
      refine T.seq ?_
      refine T.region ?_
      refine TL.st rfl rfl rfl (o_move rfl rfl) ?_
      refine TL.st rfl rfl rfl (o_assign rfl rfl) ?_
      refine TL.st rfl rfl rfl (o_assign rfl rfl) ?_
      refine TL.nil ?_
      refine thn_normal ?_
      refine T.ret ?_
      cases some_i H
      exact ⟨trivial, _, (.tmp _ _ _ _ rfl (.tmp _ _ _ _ rfl .nil)), (.tupL (.cons _ _ _ _ (.cl _ rfl) (.cons _ _ _ _ (.cl _ rfl) .nil)))⟩
theorem en_9 (us : Array Value) (w : World) : (callFunc 9 us).run Go.Proofs.Tryd.prog w = .ok (.enter 9 us) w := enters Go.Proofs.Tryd.func9 rfl rfl us w
noncomputable def laws_FnRevisions_j1 (a0 : (List Int)) : Option Bool :=
  (spec_DrawReadToken a0).bind fun q => (match q with | (r8, r9) => (impl_ReadToken r8 r9).bind fun q => (match q with | (r11, r12) => (spec_ReadToken r8 r9).bind fun q => (match q with | (r14, r15) => (gdO (((r11 == r14) && (r12 == r15)) && (!(!r12))) (impl_TokenOf r8 r11)).bind fun r17 => some (((r11 == r14) && (r12 == r15)) && ((!r12) || (r17.toList == r9.toList))))))
noncomputable def laws_FnRevisions (a0 : (List Int)) : Option Bool :=
  cond (decide ((a0.length : Int) > 1048576)) (some true) ((spec_DrawTokenOf a0).bind fun q => (match q with | (r1, r2) => (impl_TokenOf r1 r2).bind fun r4 => (spec_TokenOf r1 r2).bind fun r6 => cond (!(r4.toList == r6.toList)) (some false) (cond (!(r4.toList == (ByteArray.mk #[]).toList)) ((impl_ReadToken r1 r4).bind fun q => (match q with | (r19, r20) => cond ((!r20) || (r19 != r2)) (some false) (laws_FnRevisions_j1 a0))) (laws_FnRevisions_j1 a0))))
theorem laws_FnRevisions_p (b0 : Bool) {a0 : (List Int)} {R0 : Bool} (H : laws_FnRevisions a0 = some R0) : Pure Go.Proofs.Tryd.prog 3 [.im b0 (a0.map (c_int .u8))] (.bool R0) := by
  refine CallT.of_TN (n := 81) Go.Proofs.Tryd.func3 rfl rfl rfl rfl ?_
  refine T.seq ?_
  refine T.region ?_
  refine TL.st rfl rfl rfl (o_assign rfl rfl) ?_
  refine TL.nil ?_
  refine thn_normal ?_
  refine T.seq ?_
  refine T.seq ?_
  refine T.region ?_
  refine TL.st rfl rfl rfl (o_move rfl rfl) ?_
  refine TL.st rfl rfl rfl (o_lenL (f := c_int .u8) rfl rfl rfl) ?_
  refine TL.st rfl rfl rfl (o_ari rfl rfl rfl rfl) ?_
  refine TL.nil ?_
  refine thn_normal ?_
  refine T.cond (decide ((a0.length : Int) > 1048576)) rfl (fun h => ?_) (fun h => ?_)
  · replace H := cond_t h H
    refine T.seq ?_
    refine T.region ?_
    refine TL.st rfl rfl rfl (o_assign rfl rfl) ?_
    refine TL.nil ?_
    refine thn_normal ?_
    refine T.ret ?_
    refine thn_ret ?_
    cases some_i H
    exact ⟨trivial, _, (.tmp _ _ _ _ rfl .nil), (.cl _ rfl)⟩
  · replace H := cond_f h H
    refine T.skip ?_
    refine thn_normal ?_
    refine T.seq ?_
    refine T.region ?_
    refine TL.st rfl rfl rfl (o_move rfl rfl) ?_
    obtain ⟨⟨r1, r2⟩, h3, H⟩ := bind_s H
    refine TL.st rfl rfl rfl (o_callP rfl en_4 rfl rfl (.cons _ _ _ _ (.imv _ _) .nil) (spec_DrawTokenOf_p b0 h3)) ?_
    refine TL.st rfl rfl rfl (o_move rfl rfl) ?_
    refine TL.st rfl rfl rfl (o_extract rfl rfl rfl) ?_
    refine TL.st rfl rfl rfl (o_extract rfl rfl rfl) ?_
    refine TL.st rfl rfl rfl (o_assign rfl rfl) ?_
    refine TL.st rfl rfl rfl (o_assign rfl rfl) ?_
    refine TL.nil ?_
    refine thn_normal ?_
    refine T.seq ?_
    refine T.region ?_
    refine TL.st rfl rfl rfl (o_move rfl rfl) ?_
    refine TL.st rfl rfl rfl (o_move rfl rfl) ?_
    obtain ⟨r4, h5, H⟩ := bind_s H
    refine TL.st rfl rfl rfl (o_callP rfl en_5 rfl rfl (.cons _ _ _ _ (.cl _ rfl) (.cons _ _ _ _ (.cl _ rfl) .nil)) (impl_TokenOf_p  h5)) ?_
    refine TL.st rfl rfl rfl (o_assign rfl rfl) ?_
    refine TL.nil ?_
    refine thn_normal ?_
    refine T.seq ?_
    refine T.seq ?_
    refine T.region ?_
    refine TL.st rfl rfl rfl (o_move rfl rfl) ?_
    refine TL.st rfl rfl rfl (o_move rfl rfl) ?_
    refine TL.st rfl rfl rfl (o_move rfl rfl) ?_
    obtain ⟨r6, h7, H⟩ := bind_s H
    refine TL.st rfl rfl rfl (o_callP rfl en_6 rfl rfl (.cons _ _ _ _ (.cl _ rfl) (.cons _ _ _ _ (.cl _ rfl) .nil)) (spec_TokenOf_p  h7)) ?_
    refine TL.st rfl rfl rfl (o_str rfl rfl rfl rfl) ?_
    refine TL.nil ?_
    refine thn_normal ?_
    refine T.cond ((!(r4.toList == r6.toList))) rfl (fun h => ?_) (fun h => ?_)
    · replace H := cond_t h H
      refine T.seq ?_
      refine T.region ?_
      refine TL.st rfl rfl rfl (o_assign rfl rfl) ?_
      refine TL.nil ?_
      refine thn_normal ?_
      refine T.ret ?_
      refine thn_ret ?_
      cases some_i H
      exact ⟨trivial, _, (.tmp _ _ _ _ rfl .nil), (.cl _ rfl)⟩
    · replace H := cond_f h H
      refine T.skip ?_
      refine thn_normal ?_
      refine T.cut (fun fr' σ' => fr' = [(0, .im b0 (a0.map (c_int .u8)))] ∧ σ' = [] ∧ laws_FnRevisions_j1 a0 = some R0) (T.pk ?_) ?_
      · skip
        refine T.seq ?_
        refine T.region ?_
        refine TL.st rfl rfl rfl (o_move rfl rfl) ?_
        refine TL.st rfl rfl rfl (o_str rfl rfl rfl rfl) ?_
        refine TL.nil ?_
        refine thn_normal ?_
        refine T.cond ((!(r4.toList == (ByteArray.mk #[]).toList))) rfl (fun h => ?_) (fun h => ?_)
        · replace H := cond_t h H
          refine T.seq ?_
          refine T.region ?_
          refine TL.st rfl rfl rfl (o_move rfl rfl) ?_
          refine TL.st rfl rfl rfl (o_move rfl rfl) ?_
          obtain ⟨⟨r19, r20⟩, h21, H⟩ := bind_s H
          refine TL.st rfl rfl rfl (o_callP rfl en_7 rfl rfl (.cons _ _ _ _ (.cl _ rfl) (.cons _ _ _ _ (.cl _ rfl) .nil)) (impl_ReadToken_p  h21)) ?_
          refine TL.st rfl rfl rfl (o_move rfl rfl) ?_
          refine TL.st rfl rfl rfl (o_extract rfl rfl rfl) ?_
          refine TL.st rfl rfl rfl (o_extract rfl rfl rfl) ?_
          refine TL.st rfl rfl rfl (o_assign rfl rfl) ?_
          refine TL.st rfl rfl rfl (o_assign rfl rfl) ?_
          refine TL.nil ?_
          refine thn_normal ?_
          refine T.seq ?_
          refine T.region ?_
          refine TL.st rfl rfl rfl (o_move rfl rfl) ?_
          refine TL.st rfl rfl rfl (o_not rfl rfl) ?_
          refine TL.st rfl rfl rfl (o_move rfl rfl) ?_
          refine TL.gcq rfl rfl rfl (.bool _) rfl rfl (fun h => o_move rfl rfl) ?_
          refine TL.gcq rfl rfl rfl (.bool _) rfl rfl (fun h => o_move rfl rfl) ?_
          refine TL.gcq rfl rfl rfl (.bool _) rfl rfl (fun h => o_ari rfl (gv h rfl) (gv h rfl) rfl) ?_
          refine TL.st rfl rfl rfl (o_or rfl rfl rfl rfl (fun k => Gd_t k)) ?_
          refine TL.nil ?_
          refine thn_normal ?_
          refine T.cond (((!r20) || (r19 != r2))) rfl (fun h => ?_) (fun h => ?_)
          · replace H := cond_t h H
            refine T.seq ?_
            refine T.region ?_
            refine TL.st rfl rfl rfl (o_assign rfl rfl) ?_
            refine TL.nil ?_
            refine thn_normal ?_
            refine T.ret ?_
            refine Pk.id (thn_ret ?_)
            cases some_i H
            exact ⟨trivial, _, (.tmp _ _ _ _ rfl .nil), (.cl _ rfl)⟩
          · replace H := cond_f h H
            refine T.skip ?_
            exact Pk.go (fr' := [(0, .im b0 (a0.map (c_int .u8)))]) (σ' := []) _ rfl rfl trivial (.cons 0 _ (.im b0 (a0.map (c_int .u8))) _ rfl (.same _) rfl .nil) (thn_normal ⟨rfl, rfl, H⟩)
        · replace H := cond_f h H
          refine T.skip ?_
          exact Pk.go (fr' := [(0, .im b0 (a0.map (c_int .u8)))]) (σ' := []) _ rfl rfl trivial (.cons 0 _ (.im b0 (a0.map (c_int .u8))) _ rfl (.same _) rfl .nil) (thn_normal ⟨rfl, rfl, H⟩)
      · rintro _ _ ⟨rfl, rfl, H⟩
        refine T.seq ?_
        refine T.region ?_
        refine TL.st rfl rfl rfl (o_move rfl rfl) ?_
        obtain ⟨⟨r8, r9⟩, h10, H⟩ := bind_s H
        refine TL.st rfl rfl rfl (o_callP rfl en_8 rfl rfl (.cons _ _ _ _ (.imv _ _) .nil) (spec_DrawReadToken_p b0 h10)) ?_
        refine TL.st rfl rfl rfl (o_move rfl rfl) ?_
        refine TL.st rfl rfl rfl (o_extract rfl rfl rfl) ?_
        refine TL.st rfl rfl rfl (o_extract rfl rfl rfl) ?_
        refine TL.st rfl rfl rfl (o_assign rfl rfl) ?_
        refine TL.st rfl rfl rfl (o_assign rfl rfl) ?_
        refine TL.nil ?_
        refine thn_normal ?_
        refine T.seq ?_
        refine T.region ?_
        refine TL.st rfl rfl rfl (o_move rfl rfl) ?_
        refine TL.st rfl rfl rfl (o_move rfl rfl) ?_
        obtain ⟨⟨r11, r12⟩, h13, H⟩ := bind_s H
        refine TL.st rfl rfl rfl (o_callP rfl en_7 rfl rfl (.cons _ _ _ _ (.cl _ rfl) (.cons _ _ _ _ (.cl _ rfl) .nil)) (impl_ReadToken_p  h13)) ?_
        refine TL.st rfl rfl rfl (o_move rfl rfl) ?_
        refine TL.st rfl rfl rfl (o_extract rfl rfl rfl) ?_
        refine TL.st rfl rfl rfl (o_extract rfl rfl rfl) ?_
        refine TL.st rfl rfl rfl (o_assign rfl rfl) ?_
        refine TL.st rfl rfl rfl (o_assign rfl rfl) ?_
        refine TL.nil ?_
        refine thn_normal ?_
        refine T.seq ?_
        refine T.region ?_
        refine TL.st rfl rfl rfl (o_move rfl rfl) ?_
        refine TL.st rfl rfl rfl (o_move rfl rfl) ?_
        obtain ⟨⟨r14, r15⟩, h16, H⟩ := bind_s H
        refine TL.st rfl rfl rfl (o_callP rfl en_9 rfl rfl (.cons _ _ _ _ (.cl _ rfl) (.cons _ _ _ _ (.cl _ rfl) .nil)) (spec_ReadToken_p  h16)) ?_
        refine TL.st rfl rfl rfl (o_move rfl rfl) ?_
        refine TL.st rfl rfl rfl (o_extract rfl rfl rfl) ?_
        refine TL.st rfl rfl rfl (o_extract rfl rfl rfl) ?_
        refine TL.st rfl rfl rfl (o_assign rfl rfl) ?_
        refine TL.st rfl rfl rfl (o_assign rfl rfl) ?_
        refine TL.nil ?_
        refine thn_normal ?_
        refine T.seq ?_
        refine T.region ?_
        refine TL.st rfl rfl rfl (o_move rfl rfl) ?_
        refine TL.st rfl rfl rfl (o_move rfl rfl) ?_
        refine TL.st rfl rfl rfl (o_ari rfl rfl rfl rfl) ?_
        refine TL.st rfl rfl rfl (o_move rfl rfl) ?_
        refine TL.gcq rfl rfl rfl (.bool _) rfl rfl (fun h => o_move rfl rfl) ?_
        refine TL.gcq rfl rfl rfl (.bool _) rfl rfl (fun h => o_move rfl rfl) ?_
        refine TL.gcq rfl rfl rfl (.bool _) rfl rfl (fun h => o_beq rfl rfl (gv h rfl) (gv h rfl)) ?_
        refine TL.st rfl rfl rfl (o_and rfl rfl rfl (fun k => Gd_t k) rfl) ?_
        refine TL.st rfl rfl rfl (o_move rfl rfl) ?_
        refine TL.gcq rfl rfl rfl (.bool _) rfl rfl (fun h => o_move rfl rfl) ?_
        refine TL.gcq rfl rfl rfl (.bool _) rfl rfl (fun h => o_not rfl (gv h rfl)) ?_
        refine TL.gcq rfl rfl rfl (.bool _) rfl rfl (fun h => o_move rfl (gv h rfl)) ?_
        refine TL.gcq rfl rfl rfl (.gd _ _) rfl rfl (fun h => o_move rfl rfl) ?_
        refine TL.gcq rfl rfl rfl (.gd _ _) rfl rfl (fun h => o_move rfl rfl) ?_
        obtain ⟨r17, h18, H⟩ := bind_s H
        refine TL.gcq rfl rfl rfl (.gd _ _) rfl rfl (fun h => o_callP rfl en_5 rfl (evl_2 (gv h rfl) (gv h rfl)) (.cons _ _ _ _ (.cl _ rfl) (.cons _ _ _ _ (.cl _ rfl) .nil)) (impl_TokenOf_p  (gdO_t h18 h))) ?_
        refine TL.gcq rfl rfl rfl (.gd _ _) rfl rfl (fun h => o_move rfl rfl) ?_
        refine TL.gcq rfl rfl rfl (.gd _ _) rfl rfl (fun h => o_str rfl (gv h rfl) (gv h rfl) rfl) ?_
        refine TL.gcq rfl rfl rfl (.bool _) rfl rfl (fun h => o_or rfl (gv h rfl) rfl rfl (fun k => Gd_t (andi h k))) ?_
        refine TL.st rfl rfl rfl (o_and rfl rfl rfl (fun k => Gd_t k) rfl) ?_
        refine TL.st rfl rfl rfl (o_assign rfl rfl) ?_
        refine TL.nil ?_
        refine thn_normal ?_
        refine T.ret ?_
        cases some_i H
        exact ⟨trivial, _, (.tmp _ _ _ _ rfl .nil), (.cl _ rfl)⟩
end Go.G36.RV1
