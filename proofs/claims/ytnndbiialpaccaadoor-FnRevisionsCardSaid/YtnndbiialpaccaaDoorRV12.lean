import Derived.Test.YtnndbiialpaccaaDoorRV11
set_option linter.all false
set_option maxRecDepth 20000
set_option maxHeartbeats 4000000
namespace Go.G36.RV1
open Go Go.Proofs Go.G36.RV
noncomputable def impl_Armor (a0 : (List Int)) : Option ByteArray :=
  cond (decide ((a0.length : Int) > 20000)) (some (ByteArray.mk #[])) ((loopO (impl_Armor_l1 a0) ((⟨(), ([] : List Int)⟩ : T_strings_Builder), 0, 0, 0)).bind fun q38 => (match q38 with | (b5, v6, v7) => cond (decide (v7 > 0)) ((nn (IntKind.i64.wrap (5 - v7))).bind fun u8 => (idxS (ByteArray.mk #[48, 49, 50, 51, 52, 53, 54, 55, 56, 57, 97, 98, 99, 100, 101, 102, 103, 104, 105, 106, 107, 108, 109, 110, 111, 112, 113, 114, 115, 116, 117, 118]) (IntKind.i64.wrap (BitVec.ofInt IntKind.i64.bits (IntKind.i64.wrap (v6 * 2 ^ (min (Int.toNat (IntKind.i64.wrap (5 - v7))) IntKind.i64.bits))) &&& BitVec.ofInt IntKind.i64.bits 31).toNat)).bind fun b10 => (strings_Builder_WriteByte b10 (⟨(), b5.buf_⟩ : T_strings_Builder)).bind fun q => (match q with | (r12, o13) => (strings_Builder_String (⟨(), o13.buf_⟩ : T_strings_Builder)).bind fun r15 => some r15)) ((strings_Builder_String (⟨(), b5.buf_⟩ : T_strings_Builder)).bind fun r17 => some r17)))
theorem impl_Armor_p (b0 : Bool) {a0 : (List Int)} {R0 : ByteArray} (H : impl_Armor a0 = some R0) : Pure Go.Proofs.Tryd.prog 15 [.im b0 (a0.map (c_int .u8))] (.str R0) := by
  refine CallT.of_TN (n := 50) Go.Proofs.Tryd.func15 rfl rfl rfl rfl ?_
  refine T.seq ?_
  refine T.region ?_
  refine TL.st rfl rfl rfl (o_assign rfl rfl) ?_
  refine TL.nil ?_
  refine thn_normal ?_
  refine T.seq ?_
  refine T.seq ?_
  refine T.region ?_
  refine TL.st rfl rfl rfl (o_move rfl rfl) ?_
  refine TL.st rfl rfl rfl (o_lenL (f := c_int .u8) rfl rfl rfl) ?_
  refine TL.st rfl rfl rfl (o_ari rfl rfl rfl rfl) ?_
  refine TL.nil ?_
  refine thn_normal ?_
  refine T.cond (decide ((a0.length : Int) > 20000)) rfl (fun h => ?_) (fun h => ?_)
  · replace H := cond_t h H
    refine T.seq ?_
    refine T.region ?_
    refine TL.st rfl rfl rfl (o_assign rfl rfl) ?_
    refine TL.nil ?_
    refine thn_normal ?_
    refine T.ret ?_
    refine thn_ret ?_
    cases some_i H
    exact ⟨trivial, _, (.tmp _ _ _ _ rfl .nil), (.cl _ rfl)⟩
  · replace H := cond_f h H
    refine T.skip ?_
    refine thn_normal ?_
    refine T.seq ?_
    refine T.region ?_
    refine TL.st rfl rfl rfl (o_allocB rfl ⟨_, rfl, rfl⟩) ?_
    refine TL.nil ?_
    refine thn_normal ?_
    refine T.seq ?_
    refine T.region ?_
    refine TL.st rfl rfl rfl (o_assign rfl rfl) ?_
    refine TL.st rfl rfl rfl (o_assign rfl rfl) ?_
    refine TL.nil ?_
    refine thn_normal ?_
    refine T.seq ?_
    refine T.seq ?_
    refine T.region ?_
    refine TL.st rfl rfl rfl (o_move rfl rfl) ?_
    refine TL.st rfl rfl rfl (o_lenL (f := c_int .u8) rfl rfl rfl) ?_
    refine TL.st rfl rfl rfl (o_move rfl rfl) ?_
    refine TL.nil ?_
    refine thn_normal ?_
    refine T.block ?_
    refine T.conv (Cs.ownCellT (p := 0) 5 1 1 rfl rfl (by decide)) ?_
    obtain ⟨q38, h39, H⟩ := bind_s H
    refine T.to (.cons 3 _ (.bx 0 0) _ rfl (.same _) rfl (.cons 4 _ (.int .i64 0) _ rfl (.same _) rfl (.cons 5 _ (.int .i64 0) _ rfl (.same _) rfl (.cons 11 _ (.im b0 (a0.map (c_int .u8))) _ rfl (.same _) rfl (.cons 12 _ (.int .i64 (a0.length : Int)) _ rfl (.same _) rfl (.cons 13 _ (.int .i64 0) _ rfl (.same _) rfl .nil)))))) ?_
    refine T.lp (fun s => match s with | (b1, v2, v3, v4) => [(3, .bx 0 0), (4, .int .i64 v2), (5, .int .i64 v3), (11, .im b0 (a0.map (c_int .u8))), (12, .int .i64 (a0.length : Int)), (13, .int .i64 v4)]) (fun s => match s with | (b1, v2, v3, v4) => [.box [.px 0 51 1 0, .hd 1 (b1.buf_.map (c_int .u8)).length 0 (b1.buf_.map (c_int .u8)).length], .arr (.tg 5) 1 (b1.buf_.map (c_int .u8))]) (fun q ex fr σ => match q with | (b5, v6, v7) => ex = .exit 0 ∧ fr = [(3, .bx 0 0), (4, .int .i64 v6), (5, .int .i64 v7)] ∧ σ = [.box [.px 0 51 1 0, .hd 1 (b5.buf_.map (c_int .u8)).length 0 (b5.buf_.map (c_int .u8)).length], .arr (.tg 5) 1 (b5.buf_.map (c_int .u8))]) h39 ?_ ?_ ?_ ?_ ?_
    · rintro ⟨b1, v2, v3, v4⟩ y19 H
      refine T.seq ?_
      refine T.region ?_
      refine TL.st rfl rfl rfl (o_ari rfl rfl rfl rfl) ?_
      refine TL.nil ?_
      refine thn_normal ?_
      refine T.seq ?_
      refine T.cond (decide (v4 < (a0.length : Int))) rfl (fun h => ?_) (fun h => ?_)
      · replace H := cond_t h H
        refine T.skip ?_
        refine thn_normal ?_
        refine T.seq ?_
        refine T.block ?_
        refine T.seq ?_
        refine T.region ?_
        obtain ⟨e20, h21, H⟩ := bind_s H
        refine TL.st rfl rfl rfl (o_ix (f := c_int .u8) rfl rfl tyS_5 rfl rfl h21 rfl) ?_
        refine TL.st rfl rfl rfl (o_loadRf rfl tyS_5 rfl (Nat.le_of_ble_eq_true rfl) rfl) ?_
        refine TL.st rfl rfl rfl (o_assign rfl rfl) ?_
        refine TL.nil ?_
        refine thn_normal ?_
        refine T.seq ?_
        refine T.region ?_
        refine TL.st rfl rfl rfl (o_move rfl rfl) ?_
        refine TL.st rfl rfl rfl (o_shl rfl rfl rfl (by decide)) ?_
        refine TL.st rfl rfl rfl (o_move rfl rfl) ?_
        refine TL.st rfl rfl rfl (o_conv rfl rfl ⟨_, rfl⟩ rfl) ?_
        refine TL.st rfl rfl rfl (o_bits rfl rfl rfl rfl) ?_
        refine TL.st rfl rfl rfl (o_move rfl rfl) ?_
        refine TL.st rfl rfl rfl (o_ari rfl rfl rfl rfl) ?_
        refine TL.st rfl rfl rfl (o_assign rfl rfl) ?_
        refine TL.st rfl rfl rfl (o_assign rfl rfl) ?_
        refine TL.nil ?_
        refine thn_normal ?_
        refine T.seq ?_
        refine T.block ?_
        obtain ⟨q36, h37, H⟩ := bind_s H
        refine T.to (.cons 3 _ (.bx 0 0) _ rfl (.same _) rfl (.cons 4 _ (.int .i64 (IntKind.i64.wrap (BitVec.ofInt IntKind.i64.bits (IntKind.i64.wrap (v2 * 2 ^ (min (Int.toNat 8) IntKind.i64.bits))) ||| BitVec.ofInt IntKind.i64.bits (IntKind.i64.wrap e20)).toNat)) _ rfl (.same _) rfl (.cons 5 _ (.int .i64 (IntKind.i64.wrap (v3 + 8))) _ rfl (.same _) rfl (.cons 11 _ (.im b0 (a0.map (c_int .u8))) _ rfl (.same _) rfl (.cons 12 _ (.int .i64 (a0.length : Int)) _ rfl (.same _) rfl (.cons 13 _ (.int .i64 v4) _ rfl (.same _) rfl .nil)))))) ?_
        refine T.lp (fun s => match s with | (b22, v23) => [(3, .bx 0 0), (4, .int .i64 (IntKind.i64.wrap (BitVec.ofInt IntKind.i64.bits (IntKind.i64.wrap (v2 * 2 ^ (min (Int.toNat 8) IntKind.i64.bits))) ||| BitVec.ofInt IntKind.i64.bits (IntKind.i64.wrap e20)).toNat)), (5, .int .i64 v23), (11, .im b0 (a0.map (c_int .u8))), (12, .int .i64 (a0.length : Int)), (13, .int .i64 v4)]) (fun s => match s with | (b22, v23) => [.box [.px 0 51 1 0, .hd 1 (b22.buf_.map (c_int .u8)).length 0 (b22.buf_.map (c_int .u8)).length], .arr (.tg 5) 1 (b22.buf_.map (c_int .u8))]) (fun q ex fr σ => match q with | (b24, v25) => ex = .exit 2 ∧ fr = [(3, .bx 0 0), (4, .int .i64 (IntKind.i64.wrap (BitVec.ofInt IntKind.i64.bits (IntKind.i64.wrap (v2 * 2 ^ (min (Int.toNat 8) IntKind.i64.bits))) ||| BitVec.ofInt IntKind.i64.bits (IntKind.i64.wrap e20)).toNat)), (5, .int .i64 v25), (11, .im b0 (a0.map (c_int .u8))), (12, .int .i64 (a0.length : Int)), (13, .int .i64 v4)] ∧ σ = [.box [.px 0 51 1 0, .hd 1 (b24.buf_.map (c_int .u8)).length 0 (b24.buf_.map (c_int .u8)).length], .arr (.tg 5) 1 (b24.buf_.map (c_int .u8))]) h37 ?_ ?_ ?_ ?_ ?_
        · rintro ⟨b22, v23⟩ y28 H
          refine T.seq ?_
          refine T.seq ?_
          refine T.region ?_
          refine TL.st rfl rfl rfl (o_move rfl rfl) ?_
          refine TL.st rfl rfl rfl (o_ari rfl rfl rfl rfl) ?_
          refine TL.nil ?_
          refine thn_normal ?_
          refine T.cond (decide (v23 ≥ 5)) rfl (fun h => ?_) (fun h => ?_)
          · replace H := cond_t h H
            refine T.skip ?_
            refine thn_normal ?_
            refine T.block ?_
            refine T.seq ?_
            refine T.region ?_
            refine TL.st rfl rfl rfl (o_move rfl rfl) ?_
            refine TL.st rfl rfl rfl (o_ari rfl rfl rfl rfl) ?_
            refine TL.st rfl rfl rfl (o_assign rfl rfl) ?_
            refine TL.nil ?_
            refine thn_normal ?_
            refine T.region ?_
            refine TL.st rfl rfl rfl (o_move rfl rfl) ?_
            refine TL.st rfl rfl rfl (o_move rfl rfl) ?_
            obtain ⟨u29, h30, H⟩ := bind_s H
            refine TL.st rfl rfl rfl (o_shr rfl rfl rfl (nn_s h30)) ?_
            refine TL.st rfl rfl rfl (o_bits rfl rfl rfl rfl) ?_
            obtain ⟨b31, h32, H⟩ := bind_s H
            refine TL.st rfl rfl rfl (o_ixs rfl rfl rfl rfl h32) ?_
            obtain ⟨⟨r33, o34⟩, h35, H⟩ := bind_s H
            refine TL.st rfl rfl rfl (o_callS [0, 1] rfl en_29 rfl rfl (strings_Builder_WriteByte_p  h35) rfl (by decide) (.cons _ _ _ _ rfl (.cons _ _ _ _ rfl .nil)) rfl rfl rfl) ?_
            refine TL.conv (Cs.wkF (M := 3) (.cons 3 _ (.bx 0 0) _ rfl (.same _) rfl (.cons 4 _ (.int .i64 (IntKind.i64.wrap (BitVec.ofInt IntKind.i64.bits (IntKind.i64.wrap (v2 * 2 ^ (min (Int.toNat 8) IntKind.i64.bits))) ||| BitVec.ofInt IntKind.i64.bits (IntKind.i64.wrap e20)).toNat)) _ rfl (.same _) rfl (.cons 5 _ (.int .i64 (IntKind.i64.wrap (v23 - 5))) _ rfl (.same _) rfl (.cons 11 _ (.im b0 (a0.map (c_int .u8))) _ rfl (.same _) rfl (.cons 12 _ (.int .i64 (a0.length : Int)) _ rfl (.same _) rfl (.cons 13 _ (.int .i64 v4) _ rfl (.same _) rfl (.cons 24 _ (.int .i64 v23) _ rfl (.same _) rfl (.cons 25 _ (.bool (decide (v23 ≥ 5))) _ rfl (.same _) rfl (.cons 26 _ (.int .i64 v23) _ rfl (.same _) rfl (.cons 27 _ (.int .i64 (IntKind.i64.wrap (v23 - 5))) _ rfl (.same _) rfl (.cons 28 _ (.int .i64 (IntKind.i64.wrap (BitVec.ofInt IntKind.i64.bits (IntKind.i64.wrap (v2 * 2 ^ (min (Int.toNat 8) IntKind.i64.bits))) ||| BitVec.ofInt IntKind.i64.bits (IntKind.i64.wrap e20)).toNat)) _ rfl (.same _) rfl (.cons 29 _ (.int .i64 (IntKind.i64.wrap (v23 - 5))) _ rfl (.same _) rfl (.cons 30 _ (.int .i64 (Int.fdiv (IntKind.i64.wrap (BitVec.ofInt IntKind.i64.bits (IntKind.i64.wrap (v2 * 2 ^ (min (Int.toNat 8) IntKind.i64.bits))) ||| BitVec.ofInt IntKind.i64.bits (IntKind.i64.wrap e20)).toNat) (2 ^ (min (Int.toNat (IntKind.i64.wrap (v23 - 5))) IntKind.i64.bits)))) _ rfl (.same _) rfl (.cons 31 _ (.int .i64 (IntKind.i64.wrap (BitVec.ofInt IntKind.i64.bits (Int.fdiv (IntKind.i64.wrap (BitVec.ofInt IntKind.i64.bits (IntKind.i64.wrap (v2 * 2 ^ (min (Int.toNat 8) IntKind.i64.bits))) ||| BitVec.ofInt IntKind.i64.bits (IntKind.i64.wrap e20)).toNat) (2 ^ (min (Int.toNat (IntKind.i64.wrap (v23 - 5))) IntKind.i64.bits))) &&& BitVec.ofInt IntKind.i64.bits 31).toNat)) _ rfl (.same _) rfl (.cons 32 _ (.int .u8 b31) _ rfl (.same _) rfl (.cons 33 _ (.nilI) _ rfl (.same _) rfl .nil))))))))))))))))) ?_
            refine TL.conv (Cs.reloc 1 2 rfl rfl (by decide) rfl rfl rfl (nomS_get rfl)) ?_
            refine TL.conv (Cs.wkF (M := 3) (.cons 3 _ (.bx 0 0) _ rfl (.same _) rfl (.cons 4 _ (.int .i64 (IntKind.i64.wrap (BitVec.ofInt IntKind.i64.bits (IntKind.i64.wrap (v2 * 2 ^ (min (Int.toNat 8) IntKind.i64.bits))) ||| BitVec.ofInt IntKind.i64.bits (IntKind.i64.wrap e20)).toNat)) _ rfl (.same _) rfl (.cons 5 _ (.int .i64 (IntKind.i64.wrap (v23 - 5))) _ rfl (.same _) rfl (.cons 11 _ (.im b0 (a0.map (c_int .u8))) _ rfl (.same _) rfl (.cons 12 _ (.int .i64 (a0.length : Int)) _ rfl (.same _) rfl (.cons 13 _ (.int .i64 v4) _ rfl (.same _) rfl (.cons 24 _ (.int .i64 v23) _ rfl (.same _) rfl (.cons 25 _ (.bool (decide (v23 ≥ 5))) _ rfl (.same _) rfl (.cons 26 _ (.int .i64 v23) _ rfl (.same _) rfl (.cons 27 _ (.int .i64 (IntKind.i64.wrap (v23 - 5))) _ rfl (.same _) rfl (.cons 28 _ (.int .i64 (IntKind.i64.wrap (BitVec.ofInt IntKind.i64.bits (IntKind.i64.wrap (v2 * 2 ^ (min (Int.toNat 8) IntKind.i64.bits))) ||| BitVec.ofInt IntKind.i64.bits (IntKind.i64.wrap e20)).toNat)) _ rfl (.same _) rfl (.cons 29 _ (.int .i64 (IntKind.i64.wrap (v23 - 5))) _ rfl (.same _) rfl (.cons 30 _ (.int .i64 (Int.fdiv (IntKind.i64.wrap (BitVec.ofInt IntKind.i64.bits (IntKind.i64.wrap (v2 * 2 ^ (min (Int.toNat 8) IntKind.i64.bits))) ||| BitVec.ofInt IntKind.i64.bits (IntKind.i64.wrap e20)).toNat) (2 ^ (min (Int.toNat (IntKind.i64.wrap (v23 - 5))) IntKind.i64.bits)))) _ rfl (.same _) rfl (.cons 31 _ (.int .i64 (IntKind.i64.wrap (BitVec.ofInt IntKind.i64.bits (Int.fdiv (IntKind.i64.wrap (BitVec.ofInt IntKind.i64.bits (IntKind.i64.wrap (v2 * 2 ^ (min (Int.toNat 8) IntKind.i64.bits))) ||| BitVec.ofInt IntKind.i64.bits (IntKind.i64.wrap e20)).toNat) (2 ^ (min (Int.toNat (IntKind.i64.wrap (v23 - 5))) IntKind.i64.bits))) &&& BitVec.ofInt IntKind.i64.bits 31).toNat)) _ rfl (.same _) rfl (.cons 32 _ (.int .u8 b31) _ rfl (.same _) rfl (.cons 33 _ (.nilI) _ rfl (.same _) rfl .nil))))))))))))))))) ?_
            refine TL.conv (Cs.eqS (σ' := [.box [.px 0 51 1 0, .hd 1 (o34.buf_.map (c_int .u8)).length 0 (o34.buf_.map (c_int .u8)).length], .arr (.tg 5) 1 (o34.buf_.map (c_int .u8)), .dead]) rfl) ?_
            refine TL.nil ?_
            refine inB_normal ?_
            exact Pk.go (fr' := [(3, .bx 0 0), (4, .int .i64 (IntKind.i64.wrap (BitVec.ofInt IntKind.i64.bits (IntKind.i64.wrap (v2 * 2 ^ (min (Int.toNat 8) IntKind.i64.bits))) ||| BitVec.ofInt IntKind.i64.bits (IntKind.i64.wrap e20)).toNat)), (5, .int .i64 (IntKind.i64.wrap (v23 - 5))), (11, .im b0 (a0.map (c_int .u8))), (12, .int .i64 (a0.length : Int)), (13, .int .i64 v4)]) (σ' := [.box [.px 0 51 1 0, .hd 1 ((⟨(), o34.buf_⟩ : T_strings_Builder).buf_.map (c_int .u8)).length 0 ((⟨(), o34.buf_⟩ : T_strings_Builder).buf_.map (c_int .u8)).length], .arr (.tg 5) 1 ((⟨(), o34.buf_⟩ : T_strings_Builder).buf_.map (c_int .u8))]) _ rfl rfl ⟨(bels_iff.1 rfl), ⟨trivial, trivial⟩⟩ (.cons 3 _ (.bx 0 0) _ rfl (.same _) rfl (.cons 4 _ (.int .i64 (IntKind.i64.wrap (BitVec.ofInt IntKind.i64.bits (IntKind.i64.wrap (v2 * 2 ^ (min (Int.toNat 8) IntKind.i64.bits))) ||| BitVec.ofInt IntKind.i64.bits (IntKind.i64.wrap e20)).toNat)) _ rfl (.same _) rfl (.cons 5 _ (.int .i64 (IntKind.i64.wrap (v23 - 5))) _ rfl (.same _) rfl (.cons 11 _ (.im b0 (a0.map (c_int .u8))) _ rfl (.same _) rfl (.cons 12 _ (.int .i64 (a0.length : Int)) _ rfl (.same _) rfl (.cons 13 _ (.int .i64 v4) _ rfl (.same _) rfl .nil)))))) (thn_normal ⟨((⟨(), o34.buf_⟩ : T_strings_Builder), (IntKind.i64.wrap (v23 - 5))), (some_i H).symm, rfl, rfl⟩)
          · replace H := cond_f h H
            refine T.exit ?_
            refine thn_exit ?_
            exact Pk.go (fr' := [(3, .bx 0 0), (4, .int .i64 (IntKind.i64.wrap (BitVec.ofInt IntKind.i64.bits (IntKind.i64.wrap (v2 * 2 ^ (min (Int.toNat 8) IntKind.i64.bits))) ||| BitVec.ofInt IntKind.i64.bits (IntKind.i64.wrap e20)).toNat)), (5, .int .i64 v23), (11, .im b0 (a0.map (c_int .u8))), (12, .int .i64 (a0.length : Int)), (13, .int .i64 v4)]) (σ' := [.box [.px 0 51 1 0, .hd 1 ((⟨(), b22.buf_⟩ : T_strings_Builder).buf_.map (c_int .u8)).length 0 ((⟨(), b22.buf_⟩ : T_strings_Builder).buf_.map (c_int .u8)).length], .arr (.tg 5) 1 ((⟨(), b22.buf_⟩ : T_strings_Builder).buf_.map (c_int .u8))]) _ rfl rfl ⟨(bels_iff.1 rfl), ⟨trivial, trivial⟩⟩ (.cons 3 _ (.bx 0 0) _ rfl (.same _) rfl (.cons 4 _ (.int .i64 (IntKind.i64.wrap (BitVec.ofInt IntKind.i64.bits (IntKind.i64.wrap (v2 * 2 ^ (min (Int.toNat 8) IntKind.i64.bits))) ||| BitVec.ofInt IntKind.i64.bits (IntKind.i64.wrap e20)).toNat)) _ rfl (.same _) rfl (.cons 5 _ (.int .i64 v23) _ rfl (.same _) rfl (.cons 11 _ (.im b0 (a0.map (c_int .u8))) _ rfl (.same _) rfl (.cons 12 _ (.int .i64 (a0.length : Int)) _ rfl (.same _) rfl (.cons 13 _ (.int .i64 v4) _ rfl (.same _) rfl .nil)))))) (thn_exit ⟨((⟨(), b22.buf_⟩ : T_strings_Builder), v23), (some_i H).symm, rfl, rfl, rfl⟩)
        · rintro ⟨b22, v23⟩ ⟨b22', v23'⟩; rfl
        · rintro ⟨b22, v23⟩; exact ⟨(bels_iff.1 rfl), ⟨trivial, trivial⟩⟩
        · rintro ⟨b22, v23⟩; exact (.cons _ _ _ rfl rfl (.cons _ _ _ rfl rfl (.cons _ _ _ rfl rfl (.cons _ _ _ rfl rfl (.cons _ _ _ rfl rfl (.cons _ _ _ rfl rfl .nil))))))
        · rcases q36 with ⟨b24, v25⟩
          rintro _ _ _ ⟨rfl, rfl, rfl⟩
          refine inB_here ?_
          refine thn_normal ?_
          refine T.region ?_
          refine TL.st rfl rfl rfl (o_move rfl rfl) ?_
          refine TL.st rfl rfl rfl (o_move rfl rfl) ?_
          obtain ⟨u26, h27, H⟩ := bind_s H
          refine TL.st rfl rfl rfl (o_shl rfl rfl rfl (nn_s h27)) ?_
          refine TL.st rfl rfl rfl (o_ari rfl rfl rfl rfl) ?_
          refine TL.st rfl rfl rfl (o_bits rfl rfl rfl rfl) ?_
          refine TL.st rfl rfl rfl (o_assign rfl rfl) ?_
          refine TL.nil ?_
          refine inB_normal ?_
          refine thn_normal ?_
          refine T.region ?_
          refine TL.st rfl rfl rfl (o_ari rfl rfl rfl rfl) ?_
          refine TL.st rfl rfl rfl (o_move rfl rfl) ?_
          refine TL.nil ?_
          exact Pk.go (fr' := [(3, .bx 0 0), (4, .int .i64 (IntKind.i64.wrap (BitVec.ofInt IntKind.i64.bits (IntKind.i64.wrap (BitVec.ofInt IntKind.i64.bits (IntKind.i64.wrap (v2 * 2 ^ (min (Int.toNat 8) IntKind.i64.bits))) ||| BitVec.ofInt IntKind.i64.bits (IntKind.i64.wrap e20)).toNat) &&& BitVec.ofInt IntKind.i64.bits (IntKind.i64.wrap ((IntKind.i64.wrap (1 * 2 ^ (min (Int.toNat v25) IntKind.i64.bits))) - 1))).toNat)), (5, .int .i64 v25), (11, .im b0 (a0.map (c_int .u8))), (12, .int .i64 (a0.length : Int)), (13, .int .i64 (IntKind.i64.wrap (v4 + 1)))]) (σ' := [.box [.px 0 51 1 0, .hd 1 ((⟨(), b24.buf_⟩ : T_strings_Builder).buf_.map (c_int .u8)).length 0 ((⟨(), b24.buf_⟩ : T_strings_Builder).buf_.map (c_int .u8)).length], .arr (.tg 5) 1 ((⟨(), b24.buf_⟩ : T_strings_Builder).buf_.map (c_int .u8))]) _ rfl rfl ⟨(bels_iff.1 rfl), ⟨trivial, trivial⟩⟩ (.cons 3 _ (.bx 0 0) _ rfl (.same _) rfl (.cons 4 _ (.int .i64 (IntKind.i64.wrap (BitVec.ofInt IntKind.i64.bits (IntKind.i64.wrap (BitVec.ofInt IntKind.i64.bits (IntKind.i64.wrap (v2 * 2 ^ (min (Int.toNat 8) IntKind.i64.bits))) ||| BitVec.ofInt IntKind.i64.bits (IntKind.i64.wrap e20)).toNat) &&& BitVec.ofInt IntKind.i64.bits (IntKind.i64.wrap ((IntKind.i64.wrap (1 * 2 ^ (min (Int.toNat v25) IntKind.i64.bits))) - 1))).toNat)) _ rfl (.same _) rfl (.cons 5 _ (.int .i64 v25) _ rfl (.same _) rfl (.cons 11 _ (.im b0 (a0.map (c_int .u8))) _ rfl (.same _) rfl (.cons 12 _ (.int .i64 (a0.length : Int)) _ rfl (.same _) rfl (.cons 13 _ (.int .i64 (IntKind.i64.wrap (v4 + 1))) _ rfl (.same _) rfl .nil)))))) (thn_normal ⟨((⟨(), b24.buf_⟩ : T_strings_Builder), (IntKind.i64.wrap (BitVec.ofInt IntKind.i64.bits (IntKind.i64.wrap (BitVec.ofInt IntKind.i64.bits (IntKind.i64.wrap (v2 * 2 ^ (min (Int.toNat 8) IntKind.i64.bits))) ||| BitVec.ofInt IntKind.i64.bits (IntKind.i64.wrap e20)).toNat) &&& BitVec.ofInt IntKind.i64.bits (IntKind.i64.wrap ((IntKind.i64.wrap (1 * 2 ^ (min (Int.toNat v25) IntKind.i64.bits))) - 1))).toNat), v25, (IntKind.i64.wrap (v4 + 1))), (some_i H).symm, rfl, rfl⟩)
      · replace H := cond_f h H
        refine T.exit ?_
        refine thn_exit ?_
        exact Pk.go (fr' := [(3, .bx 0 0), (4, .int .i64 v2), (5, .int .i64 v3)]) (σ' := [.box [.px 0 51 1 0, .hd 1 ((⟨(), b1.buf_⟩ : T_strings_Builder).buf_.map (c_int .u8)).length 0 ((⟨(), b1.buf_⟩ : T_strings_Builder).buf_.map (c_int .u8)).length], .arr (.tg 5) 1 ((⟨(), b1.buf_⟩ : T_strings_Builder).buf_.map (c_int .u8))]) _ rfl rfl ⟨(bels_iff.1 rfl), ⟨trivial, trivial⟩⟩ (.cons 3 _ (.bx 0 0) _ rfl (.same _) rfl (.cons 4 _ (.int .i64 v2) _ rfl (.same _) rfl (.cons 5 _ (.int .i64 v3) _ rfl (.same _) rfl .nil))) (thn_exit ⟨((⟨(), b1.buf_⟩ : T_strings_Builder), v2, v3), (some_i H).symm, rfl, rfl, rfl⟩)
    · rintro ⟨b1, v2, v3, v4⟩ ⟨b1', v2', v3', v4'⟩; rfl
    · rintro ⟨b1, v2, v3, v4⟩; exact ⟨(bels_iff.1 rfl), ⟨trivial, trivial⟩⟩
    · rintro ⟨b1, v2, v3, v4⟩; exact (.cons _ _ _ rfl rfl (.cons _ _ _ rfl rfl (.cons _ _ _ rfl rfl (.cons _ _ _ rfl rfl (.cons _ _ _ rfl rfl (.cons _ _ _ rfl rfl .nil))))))
    · rcases q38 with ⟨b5, v6, v7⟩
      rintro _ _ _ ⟨rfl, rfl, rfl⟩
      refine inB_here ?_
      refine thn_normal ?_
      refine T.seq ?_
      refine T.seq ?_
      refine T.region ?_
      refine TL.st rfl rfl rfl (o_move rfl rfl) ?_
      refine TL.st rfl rfl rfl (o_ari rfl rfl rfl rfl) ?_
      refine TL.nil ?_
      refine thn_normal ?_
      refine T.cond (decide (v7 > 0)) rfl (fun h => ?_) (fun h => ?_)
      · replace H := cond_t h H
        refine T.region ?_
        refine TL.st rfl rfl rfl (o_move rfl rfl) ?_
        refine TL.st rfl rfl rfl (o_move rfl rfl) ?_
        refine TL.st rfl rfl rfl (o_ari rfl rfl rfl rfl) ?_
        obtain ⟨u8, h9, H⟩ := bind_s H
        refine TL.st rfl rfl rfl (o_shl rfl rfl rfl (nn_s h9)) ?_
        refine TL.st rfl rfl rfl (o_bits rfl rfl rfl rfl) ?_
        obtain ⟨b10, h11, H⟩ := bind_s H
        refine TL.st rfl rfl rfl (o_ixs rfl rfl rfl rfl h11) ?_
        obtain ⟨⟨r12, o13⟩, h14, H⟩ := bind_s H
        refine TL.st rfl rfl rfl (o_callS [0, 1] rfl en_29 rfl rfl (strings_Builder_WriteByte_p  h14) rfl (by decide) (.cons _ _ _ _ rfl (.cons _ _ _ _ rfl .nil)) rfl rfl rfl) ?_
        refine TL.conv (Cs.wkF (M := 3) (.cons 3 _ (.bx 0 0) _ rfl (.same _) rfl (.cons 4 _ (.int .i64 v6) _ rfl (.same _) rfl (.cons 5 _ (.int .i64 v7) _ rfl (.same _) rfl (.cons 40 _ (.int .i64 v7) _ rfl (.same _) rfl (.cons 41 _ (.bool (decide (v7 > 0))) _ rfl (.same _) rfl (.cons 42 _ (.int .i64 v6) _ rfl (.same _) rfl (.cons 43 _ (.int .i64 v7) _ rfl (.same _) rfl (.cons 44 _ (.int .i64 (IntKind.i64.wrap (5 - v7))) _ rfl (.same _) rfl (.cons 45 _ (.int .i64 (IntKind.i64.wrap (v6 * 2 ^ (min (Int.toNat (IntKind.i64.wrap (5 - v7))) IntKind.i64.bits)))) _ rfl (.same _) rfl (.cons 46 _ (.int .i64 (IntKind.i64.wrap (BitVec.ofInt IntKind.i64.bits (IntKind.i64.wrap (v6 * 2 ^ (min (Int.toNat (IntKind.i64.wrap (5 - v7))) IntKind.i64.bits))) &&& BitVec.ofInt IntKind.i64.bits 31).toNat)) _ rfl (.same _) rfl (.cons 47 _ (.int .u8 b10) _ rfl (.same _) rfl (.cons 48 _ (.nilI) _ rfl (.same _) rfl .nil))))))))))))) ?_
        refine TL.conv (Cs.reloc 1 2 rfl rfl (by decide) rfl rfl rfl (nomS_get rfl)) ?_
        refine TL.conv (Cs.wkF (M := 3) (.cons 3 _ (.bx 0 0) _ rfl (.same _) rfl (.cons 4 _ (.int .i64 v6) _ rfl (.same _) rfl (.cons 5 _ (.int .i64 v7) _ rfl (.same _) rfl (.cons 40 _ (.int .i64 v7) _ rfl (.same _) rfl (.cons 41 _ (.bool (decide (v7 > 0))) _ rfl (.same _) rfl (.cons 42 _ (.int .i64 v6) _ rfl (.same _) rfl (.cons 43 _ (.int .i64 v7) _ rfl (.same _) rfl (.cons 44 _ (.int .i64 (IntKind.i64.wrap (5 - v7))) _ rfl (.same _) rfl (.cons 45 _ (.int .i64 (IntKind.i64.wrap (v6 * 2 ^ (min (Int.toNat (IntKind.i64.wrap (5 - v7))) IntKind.i64.bits)))) _ rfl (.same _) rfl (.cons 46 _ (.int .i64 (IntKind.i64.wrap (BitVec.ofInt IntKind.i64.bits (IntKind.i64.wrap (v6 * 2 ^ (min (Int.toNat (IntKind.i64.wrap (5 - v7))) IntKind.i64.bits))) &&& BitVec.ofInt IntKind.i64.bits 31).toNat)) _ rfl (.same _) rfl (.cons 47 _ (.int .u8 b10) _ rfl (.same _) rfl (.cons 48 _ (.nilI) _ rfl (.same _) rfl .nil))))))))))))) ?_
        refine TL.conv (Cs.eqS (σ' := [.box [.px 0 51 1 0, .hd 1 (o13.buf_.map (c_int .u8)).length 0 (o13.buf_.map (c_int .u8)).length], .arr (.tg 5) 1 (o13.buf_.map (c_int .u8)), .dead]) rfl) ?_
        refine TL.nil ?_
        refine thn_normal ?_
        refine T.seq ?_
        refine T.region ?_
        obtain ⟨r15, h16, H⟩ := bind_s H
        refine TL.st rfl rfl rfl (o_callS [0, 1] rfl en_30 rfl rfl (strings_Builder_String_p  h16) rfl (by decide) (.cons _ _ _ _ rfl (.cons _ _ _ _ rfl .nil)) rfl rfl rfl) ?_
        refine TL.st rfl rfl rfl (o_assign rfl rfl) ?_
        refine TL.nil ?_
        refine thn_normal ?_
        refine T.ret ?_
        cases some_i H
        exact ⟨trivial, _, (.tmp _ _ _ _ rfl .nil), (.cl _ rfl)⟩
      · replace H := cond_f h H
        refine T.skip ?_
        refine thn_normal ?_
        refine T.seq ?_
        refine T.region ?_
        obtain ⟨r17, h18, H⟩ := bind_s H
        refine TL.st rfl rfl rfl (o_callS [0, 1] rfl en_30 rfl rfl (strings_Builder_String_p  h18) rfl (by decide) (.cons _ _ _ _ rfl (.cons _ _ _ _ rfl .nil)) rfl rfl rfl) ?_
        refine TL.st rfl rfl rfl (o_assign rfl rfl) ?_
        refine TL.nil ?_
        refine thn_normal ?_
        refine T.ret ?_
        cases some_i H
        exact ⟨trivial, _, (.tmp _ _ _ _ rfl .nil), (.cl _ rfl)⟩
theorem en_15 (us : Array Value) (w : World) : (callFunc 15 us).run Go.Proofs.Tryd.prog w = .ok (.enter 15 us) w := enters Go.Proofs.Tryd.func15 rfl rfl us w
noncomputable def impl_TokenOf (a0 : Int) (a1 : Int) : Option ByteArray :=
  (impl_ysecret a0).bind fun r1 => cond (((!r1) || decide (a1 < 0)) || decide (a1 > 1000000)) (some (ByteArray.mk #[])) ((itoaO a1).bind fun r3 => (cat (ByteArray.mk #[114]) r3).bind fun s5 => (cat s5 (ByteArray.mk #[46])).bind fun s7 => (impl_ybytes a0).bind fun r9 => (impl_Mac r9 (bys s5)).bind fun r11 => (sub r11 0 8).bind fun l13 => (impl_Armor l13).bind fun r15 => (cat s7 r15).bind fun s17 => some s17)
theorem impl_TokenOf_p  {a0 : Int} {a1 : Int} {R0 : ByteArray} (H : impl_TokenOf a0 a1 = some R0) : Pure Go.Proofs.Tryd.prog 5 [.int .i64 a0, .int .i64 a1] (.str R0) := by
  refine CallT.of_TN (n := 30) Go.Proofs.Tryd.func5 rfl rfl rfl rfl ?_
  refine T.seq ?_
  refine T.region ?_
  refine TL.st rfl rfl rfl (o_assign rfl rfl) ?_
  refine TL.nil ?_
  refine thn_normal ?_
  refine T.seq ?_
  refine T.seq ?_
  refine T.region ?_
  refine TL.st rfl rfl rfl (o_move rfl rfl) ?_
  obtain ⟨r1, h2, H⟩ := bind_s H
  refine TL.st rfl rfl rfl (o_callP rfl en_13 rfl rfl (.cons _ _ _ _ (.cl _ rfl) .nil) (impl_ysecret_p  h2)) ?_
  refine TL.st rfl rfl rfl (o_not rfl rfl) ?_
  refine TL.st rfl rfl rfl (o_move rfl rfl) ?_
  refine TL.gcq rfl rfl rfl (.bool _) rfl rfl (fun h => o_move rfl rfl) ?_
  refine TL.gcq rfl rfl rfl (.bool _) rfl rfl (fun h => o_ari rfl (gv h rfl) rfl rfl) ?_
  refine TL.st rfl rfl rfl (o_or rfl rfl rfl rfl (fun k => Gd_t k)) ?_
  refine TL.st rfl rfl rfl (o_move rfl rfl) ?_
  refine TL.gcq rfl rfl rfl (.bool _) rfl rfl (fun h => o_move rfl rfl) ?_
  refine TL.gcq rfl rfl rfl (.bool _) rfl rfl (fun h => o_ari rfl (gv h rfl) rfl rfl) ?_
  refine TL.st rfl rfl rfl (o_or rfl rfl rfl rfl (fun k => Gd_t k)) ?_
  refine TL.nil ?_
  refine thn_normal ?_
  refine T.cond ((((!r1) || decide (a1 < 0)) || decide (a1 > 1000000))) rfl (fun h => ?_) (fun h => ?_)
  · replace H := cond_t h H
    refine T.seq ?_
    refine T.region ?_
    refine TL.st rfl rfl rfl (o_assign rfl rfl) ?_
    refine TL.nil ?_
    refine thn_normal ?_
    refine T.ret ?_
    refine thn_ret ?_
    cases some_i H
    exact ⟨trivial, _, (.tmp _ _ _ _ rfl .nil), (.cl _ rfl)⟩
  · replace H := cond_f h H
    refine T.skip ?_
    refine thn_normal ?_
    refine T.seq ?_
    refine T.region ?_
    refine TL.st rfl rfl rfl (o_move rfl rfl) ?_
    obtain ⟨r3, h4, H⟩ := bind_s H
    refine TL.st rfl rfl rfl (o_callP rfl en_14 rfl rfl (.cons _ _ _ _ (.cl _ rfl) .nil) (RV.lib_14  h4)) ?_
    obtain ⟨s5, h6, H⟩ := bind_s H
    refine TL.st rfl rfl rfl (o_ct rfl rfl rfl h6) ?_
    refine TL.st rfl rfl rfl (o_assign rfl rfl) ?_
    refine TL.nil ?_
    refine thn_normal ?_
    refine T.seq ?_
    refine T.region ?_
    refine TL.st rfl rfl rfl (o_move rfl rfl) ?_
    obtain ⟨s7, h8, H⟩ := bind_s H
    refine TL.st rfl rfl rfl (o_ct rfl rfl rfl h8) ?_
    refine TL.st rfl rfl rfl (o_move rfl rfl) ?_
    obtain ⟨r9, h10, H⟩ := bind_s H
    refine TL.st rfl rfl rfl (o_callP rfl en_17 rfl rfl (.cons _ _ _ _ (.cl _ rfl) .nil) (impl_ybytes_p  h10)) ?_
    refine TL.st rfl rfl rfl (o_move rfl rfl) ?_
    refine TL.st rfl rfl rfl (o_sb (f := c_int .u8) rfl rfl rfl rfl (fun _ => rfl) rfl) ?_
    obtain ⟨r11, h12, H⟩ := bind_s H
    refine TL.st rfl rfl rfl (o_callP rfl en_16 rfl rfl (.cons _ _ _ _ (.cl _ rfl) (.cons _ _ _ _ (.cl _ rfl) .nil)) (impl_Mac_p false false h12)) ?_
    obtain ⟨l13, h14, H⟩ := bind_s H
    refine TL.st rfl rfl rfl (o_subL (f := c_int .u8) (xs := r11) rfl rfl tyS_5 rfl rfl rfl (fun _ => rfl) h14) ?_
    obtain ⟨r15, h16, H⟩ := bind_s H
    refine TL.st rfl rfl rfl (o_callP rfl en_15 rfl rfl (.cons _ _ _ _ (.cl _ rfl) .nil) (impl_Armor_p false h16)) ?_
    obtain ⟨s17, h18, H⟩ := bind_s H
    refine TL.st rfl rfl rfl (o_ct rfl rfl rfl h18) ?_
    refine TL.st rfl rfl rfl (o_assign rfl rfl) ?_
    refine TL.nil ?_
    refine thn_normal ?_
    refine T.ret ?_
    cases some_i H
    exact ⟨trivial, _, (.tmp _ _ _ _ rfl .nil), (.cl _ rfl)⟩
theorem en_5 (us : Array Value) (w : World) : (callFunc 5 us).run Go.Proofs.Tryd.prog w = .ok (.enter 5 us) w := enters Go.Proofs.Tryd.func5 rfl rfl us w
noncomputable def spec_l2Secret (a0 : Int) : Option Bool :=
  some (decide (a0 ≥ 1) && decide (a0 < 1073741789))
theorem spec_l2Secret_p  {a0 : Int} {R0 : Bool} (H : spec_l2Secret a0 = some R0) : Pure Go.Proofs.Tryd.prog 18 [.int .i64 a0] (.bool R0) := by
  refine CallT.of_TN (n := 9) Go.Proofs.Tryd.func18 rfl rfl rfl rfl ?_
  refine T.seq ?_
  refine T.region ?_
  refine TL.st rfl rfl rfl (o_assign rfl rfl) ?_
  refine TL.nil ?_
  refine thn_normal ?_
  refine T.seq ?_
  refine T.region ?_
  refine TL.st rfl rfl rfl (o_move rfl rfl) ?_
  refine TL.st rfl rfl rfl (o_ari rfl rfl rfl rfl) ?_
  refine TL.st rfl rfl rfl (o_move rfl rfl) ?_
  refine TL.gcq rfl rfl rfl (.bool _) rfl rfl (fun h => o_move rfl rfl) ?_
  refine TL.gcq rfl rfl rfl (.bool _) rfl rfl (fun h => o_ari rfl (gv h rfl) rfl rfl) ?_
  refine TL.st rfl rfl rfl (o_and rfl rfl rfl (fun k => Gd_t k) rfl) ?_
  refine TL.st rfl rfl rfl (o_assign rfl rfl) ?_
  refine TL.nil ?_
  refine thn_normal ?_
  refine T.ret ?_
  cases some_i H
  exact ⟨trivial, _, (.tmp _ _ _ _ rfl .nil), (.cl _ rfl)⟩
theorem en_18 (us : Array Value) (w : World) : (callFunc 18 us).run Go.Proofs.Tryd.prog w = .ok (.enter 18 us) w := enters Go.Proofs.Tryd.func18 rfl rfl us w
noncomputable def spec_l1Size_j1 (v1 : Int) (v2 : ByteArray) (v5 : Int) : Option ((Int × ByteArray) ⊕ ByteArray) :=
  (cat (byS ([(IntKind.u8.wrap (IntKind.i64.wrap (48 + v5)))] : List Int)) v2).bind fun s6 => some (.inl ((IntKind.i64.wrap (Int.tdiv v1 10)), s6))
noncomputable def spec_l1Size_l1  : (Int × ByteArray) → Option ((Int × ByteArray) ⊕ ByteArray) := fun s => match s with
  | (v1, v2) => cond (v1 != 0) (cond (decide ((Int.tmod v1 10) < 0)) (spec_l1Size_j1 v1 v2 (IntKind.i64.wrap (-(Int.tmod v1 10)))) (spec_l1Size_j1 v1 v2 (Int.tmod v1 10))) (some (.inr v2))
noncomputable def spec_l1Size (a0 : Int) : Option ByteArray :=
  cond (a0 == 0) (some (ByteArray.mk #[48])) ((loopO (spec_l1Size_l1) (a0, (ByteArray.mk #[]))).bind fun v3 => (match v3 with | v3 => some v3))
theorem spec_l1Size_p  {a0 : Int} {R0 : ByteArray} (H : spec_l1Size a0 = some R0) : Pure Go.Proofs.Tryd.prog 43 [.int .i64 a0] (.str R0) := by
  refine CallT.of_TN (n := 25) Go.Proofs.Tryd.func43 rfl rfl rfl rfl ?_
  refine T.seq ?_
  refine T.region ?_
  refine TL.st rfl rfl rfl (o_assign rfl rfl) ?_
  refine TL.nil ?_
  refine thn_normal ?_
  refine T.seq ?_
  refine T.seq ?_
  refine T.region ?_
  refine TL.st rfl rfl rfl (o_move rfl rfl) ?_
  refine TL.st rfl rfl rfl (o_ari rfl rfl rfl rfl) ?_
  refine TL.nil ?_
  refine thn_normal ?_
  refine T.cond ((a0 == 0)) rfl (fun h => ?_) (fun h => ?_)
  · replace H := cond_t h H
    refine T.seq ?_
    refine T.region ?_
    refine TL.st rfl rfl rfl (o_assign rfl rfl) ?_
    refine TL.nil ?_
    refine thn_normal ?_
    refine T.ret ?_
    refine thn_ret ?_
    cases some_i H
    exact ⟨trivial, _, (.tmp _ _ _ _ rfl .nil), (.cl _ rfl)⟩
  · replace H := cond_f h H
    refine T.skip ?_
    refine thn_normal ?_
    refine T.seq ?_
    refine T.region ?_
    refine TL.st rfl rfl rfl (o_assign rfl rfl) ?_
    refine TL.nil ?_
    refine thn_normal ?_
    refine T.seq ?_
    refine T.block ?_
    obtain ⟨v3, h9, H⟩ := bind_s H
    refine T.to (.cons 0 _ (.int .i64 a0) _ rfl (.same _) rfl (.cons 3 _ (.str (ByteArray.mk #[])) _ rfl (.same _) rfl .nil)) ?_
    refine T.lp (fun s => match s with | (v1, v2) => [(0, .int .i64 v1), (3, .str v2)]) (fun s => match s with | (v1, v2) => []) (fun q ex fr σ => match q with | v3 => ex = .exit 0 ∧ fr = [(3, .str v3)] ∧ σ = []) h9 ?_ ?_ ?_ ?_ ?_
    · rintro ⟨v1, v2⟩ y4 H
      refine T.seq ?_
      refine T.seq ?_
      refine T.region ?_
      refine TL.st rfl rfl rfl (o_move rfl rfl) ?_
      refine TL.st rfl rfl rfl (o_ari rfl rfl rfl rfl) ?_
      refine TL.nil ?_
      refine thn_normal ?_
      refine T.cond ((v1 != 0)) rfl (fun h => ?_) (fun h => ?_)
      · replace H := cond_t h H
        refine T.skip ?_
        refine thn_normal ?_
        refine T.block ?_
        refine T.seq ?_
        refine T.region ?_
        refine TL.st rfl rfl rfl (o_move rfl rfl) ?_
        refine TL.st rfl rfl rfl (o_rem rfl rfl rfl (by decide)) ?_
        refine TL.st rfl rfl rfl (o_assign rfl rfl) ?_
        refine TL.nil ?_
        refine thn_normal ?_
        refine T.cut (fun fr' σ' => ∃ (v5 : Int), fr' = [(0, .int .i64 v1), (3, .str v2), (4, .int .i64 v5)] ∧ σ' = [] ∧ spec_l1Size_j1 v1 v2 v5 = some y4) (T.pk ?_) ?_
        · skip
          refine T.seq ?_
          refine T.region ?_
          refine TL.st rfl rfl rfl (o_move rfl rfl) ?_
          refine TL.st rfl rfl rfl (o_ari rfl rfl rfl rfl) ?_
          refine TL.nil ?_
          refine thn_normal ?_
          refine T.cond (decide ((Int.tmod v1 10) < 0)) rfl (fun h => ?_) (fun h => ?_)
          · replace H := cond_t h H
            refine T.region ?_
            refine TL.st rfl rfl rfl (o_move rfl rfl) ?_
            refine TL.st rfl rfl rfl (o_neg rfl rfl) ?_
            refine TL.st rfl rfl rfl (o_assign rfl rfl) ?_
            refine TL.nil ?_
            exact Pk.go (fr' := [(0, .int .i64 v1), (3, .str v2), (4, .int .i64 (IntKind.i64.wrap (-(Int.tmod v1 10))))]) (σ' := []) _ rfl rfl trivial (.cons 0 _ (.int .i64 v1) _ rfl (.same _) rfl (.cons 3 _ (.str v2) _ rfl (.same _) rfl (.cons 4 _ (.int .i64 (IntKind.i64.wrap (-(Int.tmod v1 10)))) _ rfl (.same _) rfl .nil))) (thn_normal ⟨(IntKind.i64.wrap (-(Int.tmod v1 10))), rfl, rfl, H⟩)
          · replace H := cond_f h H
            refine T.skip ?_
            exact Pk.go (fr' := [(0, .int .i64 v1), (3, .str v2), (4, .int .i64 (Int.tmod v1 10))]) (σ' := []) _ rfl rfl trivial (.cons 0 _ (.int .i64 v1) _ rfl (.same _) rfl (.cons 3 _ (.str v2) _ rfl (.same _) rfl (.cons 4 _ (.int .i64 (Int.tmod v1 10)) _ rfl (.same _) rfl .nil))) (thn_normal ⟨(Int.tmod v1 10), rfl, rfl, H⟩)
        · rintro _ _ ⟨v5, rfl, rfl, H⟩
          refine T.seq ?_
          refine T.region ?_
          refine TL.st rfl rfl rfl (o_move rfl rfl) ?_
          refine TL.st rfl rfl rfl (o_ari rfl rfl rfl rfl) ?_
          refine TL.st rfl rfl rfl (o_conv rfl rfl ⟨_, rfl⟩ rfl) ?_
          refine TL.st rfl rfl rfl (o_sliceIm rfl rfl tyS_5 ⟨_, rfl, rfl⟩ (by decide) rfl rfl rfl rfl rfl rfl) ?_
          refine TL.st rfl rfl rfl (o_bs (f := c_int .u8) (ns := ([(IntKind.u8.wrap (IntKind.i64.wrap (48 + v5)))] : List Int)) rfl rfl rfl rfl (fun _ => rfl) rfl) ?_
          refine TL.st rfl rfl rfl (o_move rfl rfl) ?_
          obtain ⟨s6, h7, H⟩ := bind_s H
          refine TL.st rfl rfl rfl (o_ct rfl rfl rfl h7) ?_
          refine TL.st rfl rfl rfl (o_assign rfl rfl) ?_
          refine TL.nil ?_
          refine thn_normal ?_
          refine T.region ?_
          refine TL.st rfl rfl rfl (o_move rfl rfl) ?_
          refine TL.st rfl rfl rfl (o_quo rfl rfl rfl (by decide)) ?_
          refine TL.st rfl rfl rfl (o_assign rfl rfl) ?_
          refine TL.nil ?_
          refine inB_normal ?_
          exact Pk.go (fr' := [(0, .int .i64 (IntKind.i64.wrap (Int.tdiv v1 10))), (3, .str s6)]) (σ' := []) _ rfl rfl trivial (.cons 0 _ (.int .i64 (IntKind.i64.wrap (Int.tdiv v1 10))) _ rfl (.same _) rfl (.cons 3 _ (.str s6) _ rfl (.same _) rfl .nil)) (thn_normal ⟨((IntKind.i64.wrap (Int.tdiv v1 10)), s6), (some_i H).symm, rfl, rfl⟩)
      · replace H := cond_f h H
        refine T.exit ?_
        refine thn_exit ?_
        exact Pk.go (fr' := [(3, .str v2)]) (σ' := []) _ rfl rfl trivial (.cons 3 _ (.str v2) _ rfl (.same _) rfl .nil) (thn_exit ⟨v2, (some_i H).symm, rfl, rfl, rfl⟩)
    · rintro ⟨v1, v2⟩ ⟨v1', v2'⟩; rfl
    · rintro ⟨v1, v2⟩; exact trivial
    · rintro ⟨v1, v2⟩; exact (.cons _ _ _ rfl rfl (.cons _ _ _ rfl rfl .nil))
    · rintro _ _ _ ⟨rfl, rfl, rfl⟩
      refine inB_here ?_
      refine thn_normal ?_
      refine T.seq ?_
      refine T.region ?_
      refine TL.st rfl rfl rfl (o_move rfl rfl) ?_
      refine TL.st rfl rfl rfl (o_assign rfl rfl) ?_
      refine TL.nil ?_
      refine thn_normal ?_
      refine T.ret ?_
      cases some_i H
      exact ⟨trivial, _, (.tmp _ _ _ _ rfl .nil), (.cl _ rfl)⟩
theorem en_43 (us : Array Value) (w : World) : (callFunc 43 us).run Go.Proofs.Tryd.prog w = .ok (.enter 43 us) w := enters Go.Proofs.Tryd.func43 rfl rfl us w
noncomputable def spec_l1Num (a0 : Int) : Option ByteArray :=
  cond (decide (a0 < 0)) ((spec_l1Size a0).bind fun r1 => (cat (ByteArray.mk #[45]) r1).bind fun s3 => some s3) ((spec_l1Size a0).bind fun r5 => some r5)
theorem spec_l1Num_p  {a0 : Int} {R0 : ByteArray} (H : spec_l1Num a0 = some R0) : Pure Go.Proofs.Tryd.prog 32 [.int .i64 a0] (.str R0) := by
  refine CallT.of_TN (n := 10) Go.Proofs.Tryd.func32 rfl rfl rfl rfl ?_
  refine T.seq ?_
  refine T.region ?_
  refine TL.st rfl rfl rfl (o_assign rfl rfl) ?_
  refine TL.nil ?_
  refine thn_normal ?_
  refine T.seq ?_
  refine T.seq ?_
  refine T.region ?_
  refine TL.st rfl rfl rfl (o_move rfl rfl) ?_
  refine TL.st rfl rfl rfl (o_ari rfl rfl rfl rfl) ?_
  refine TL.nil ?_
  refine thn_normal ?_
  refine T.cond (decide (a0 < 0)) rfl (fun h => ?_) (fun h => ?_)
  · replace H := cond_t h H
    refine T.seq ?_
    refine T.region ?_
    refine TL.st rfl rfl rfl (o_move rfl rfl) ?_
    obtain ⟨r1, h2, H⟩ := bind_s H
    refine TL.st rfl rfl rfl (o_callP rfl en_43 rfl rfl (.cons _ _ _ _ (.cl _ rfl) .nil) (spec_l1Size_p  h2)) ?_
    obtain ⟨s3, h4, H⟩ := bind_s H
    refine TL.st rfl rfl rfl (o_ct rfl rfl rfl h4) ?_
    refine TL.st rfl rfl rfl (o_assign rfl rfl) ?_
    refine TL.nil ?_
    refine thn_normal ?_
    refine T.ret ?_
    refine thn_ret ?_
    cases some_i H
    exact ⟨trivial, _, (.tmp _ _ _ _ rfl .nil), (.cl _ rfl)⟩
  · replace H := cond_f h H
    refine T.skip ?_
    refine thn_normal ?_
    refine T.seq ?_
    refine T.region ?_
    refine TL.st rfl rfl rfl (o_move rfl rfl) ?_
    obtain ⟨r5, h6, H⟩ := bind_s H
    refine TL.st rfl rfl rfl (o_callP rfl en_43 rfl rfl (.cons _ _ _ _ (.cl _ rfl) .nil) (spec_l1Size_p  h6)) ?_
    refine TL.st rfl rfl rfl (o_assign rfl rfl) ?_
    refine TL.nil ?_
    refine thn_normal ?_
    refine T.ret ?_
    cases some_i H
    exact ⟨trivial, _, (.tmp _ _ _ _ rfl .nil), (.cl _ rfl)⟩
theorem en_32 (us : Array Value) (w : World) : (callFunc 32 us).run Go.Proofs.Tryd.prog w = .ok (.enter 32 us) w := enters Go.Proofs.Tryd.func32 rfl rfl us w
noncomputable def spec_l2Bytes_l1 (l1 : List Int) : (List Int × Int × Int) → Option ((List Int × Int × Int) ⊕ List Int) := fun s => match s with
  | (l3, v4, v5) => cond (decide (v5 < (l1.length : Int))) ((idx l3 v5).bind fun e8 => some (.inl ((l3.set (Int.toNat v5) (IntKind.u8.wrap (Int.tmod v4 256))), (IntKind.i64.wrap (Int.tdiv v4 256)), (IntKind.i64.wrap (v5 + 1))))) (some (.inr l3))
noncomputable def spec_l2Bytes (a0 : Int) : Option (List Int) :=
  (mk 0 4).bind fun l1 => (loopO (spec_l2Bytes_l1 l1) (l1, a0, 0)).bind fun l6 => (match l6 with | l6 => some l6)
theorem spec_l2Bytes_p  {a0 : Int} {R0 : (List Int)} (H : spec_l2Bytes a0 = some R0) : Pure Go.Proofs.Tryd.prog 35 [.int .i64 a0] (.im false (R0.map (c_int .u8))) := by
  refine CallT.of_TN (n := 21) Go.Proofs.Tryd.func35 rfl rfl rfl rfl ?_
  refine T.seq ?_
  refine T.region ?_
  refine TL.st rfl rfl rfl (o_assign rfl rfl) ?_
  refine TL.nil ?_
  refine thn_normal ?_
  refine T.seq ?_
  refine T.region ?_
  obtain ⟨l1, h2, H⟩ := bind_s H
  refine TL.st rfl rfl rfl (o_mk (f := c_int .u8) (z := 0) rfl rfl tyE_5 ⟨_, rfl, rfl⟩ rfl rfl h2) ?_
  refine TL.st rfl rfl rfl (o_assign rfl rfl) ?_
  refine TL.nil ?_
  refine thn_normal ?_
  refine T.seq ?_
  refine T.seq ?_
  refine T.region ?_
  refine TL.st rfl rfl rfl (o_move rfl rfl) ?_
  refine TL.st rfl rfl rfl (o_lenOwn (f := c_int .u8) rfl rfl rfl rfl rfl) ?_
  refine TL.st rfl rfl rfl (o_move rfl rfl) ?_
  refine TL.nil ?_
  refine thn_normal ?_
  refine T.block ?_
  obtain ⟨l6, h11, H⟩ := bind_s H
  refine T.to (.cons 0 _ (.int .i64 a0) _ rfl (.same _) rfl (.cons 3 _ (.hd 0 (l1.map (c_int .u8)).length 0 (l1.map (c_int .u8)).length) _ rfl (.same _) rfl (.cons 7 _ (.int .i64 (l1.length : Int)) _ rfl (.same _) rfl (.cons 8 _ (.int .i64 0) _ rfl (.same _) rfl .nil)))) ?_
  refine T.lp (fun s => match s with | (l3, v4, v5) => [(0, .int .i64 v4), (3, .hd 0 (l3.map (c_int .u8)).length 0 (l3.map (c_int .u8)).length), (7, .int .i64 (l1.length : Int)), (8, .int .i64 v5)]) (fun s => match s with | (l3, v4, v5) => [.arr .clo 1 (l3.map (c_int .u8))]) (fun q ex fr σ => match q with | l6 => ex = .exit 0 ∧ fr = [(3, .hd 0 (l6.map (c_int .u8)).length 0 (l6.map (c_int .u8)).length)] ∧ σ = [.arr .clo 1 (l6.map (c_int .u8))]) h11 ?_ ?_ ?_ ?_ ?_
  · rintro ⟨l3, v4, v5⟩ y7 H
    refine T.seq ?_
    refine T.region ?_
    refine TL.st rfl rfl rfl (o_ari rfl rfl rfl rfl) ?_
    refine TL.nil ?_
    refine thn_normal ?_
    refine T.seq ?_
    refine T.cond (decide (v5 < (l1.length : Int))) rfl (fun h => ?_) (fun h => ?_)
    · replace H := cond_t h H
      refine T.skip ?_
      refine thn_normal ?_
      refine T.seq ?_
      refine T.block ?_
      refine T.seq ?_
      refine T.region ?_
      refine TL.st rfl rfl rfl (o_move rfl rfl) ?_
      refine TL.st rfl rfl rfl (o_assign rfl rfl) ?_
      refine TL.nil ?_
      refine thn_normal ?_
      refine T.seq ?_
      refine T.region ?_
      refine TL.st rfl rfl rfl (o_move rfl rfl) ?_
      refine TL.st rfl rfl rfl (o_move rfl rfl) ?_
      refine TL.st rfl rfl rfl (o_move rfl rfl) ?_
      refine TL.st rfl rfl rfl (o_rem rfl rfl rfl (by decide)) ?_
      refine TL.st rfl rfl rfl (o_conv rfl rfl ⟨_, rfl⟩ rfl) ?_
      obtain ⟨e8, h9, H⟩ := bind_s H
      refine TL.st rfl rfl rfl (o_ixh (f := c_int .u8) rfl rfl tyS_5 rfl rfl rfl rfl h9 rfl) ?_
      refine TL.sn rfl rfl (o_stEl (f := c_int .u8) (xs := l3) (k := v5) (a := e8) (IntKind.u8.wrap (Int.tmod v4 256)) rfl tyS_5 rfl rfl rfl rfl (by decide) h9 rfl rfl rfl (fun _ => rfl) rfl) ?_
      refine TL.conv (Cs.eqV (t := 3) (v' := .hd 0 ((l3.set (Int.toNat v5) (IntKind.u8.wrap (Int.tmod v4 256))).map (c_int .u8)).length 0 ((l3.set (Int.toNat v5) (IntKind.u8.wrap (Int.tmod v4 256))).map (c_int .u8)).length) rfl (hd_len _ (List.length_set ..))) ?_
      refine TL.conv (Cs.eqV (t := 11) (v' := .hd 0 ((l3.set (Int.toNat v5) (IntKind.u8.wrap (Int.tmod v4 256))).map (c_int .u8)).length 0 ((l3.set (Int.toNat v5) (IntKind.u8.wrap (Int.tmod v4 256))).map (c_int .u8)).length) rfl (hd_len _ (List.length_set ..))) ?_
      refine TL.nil ?_
      refine thn_normal ?_
      refine T.region ?_
      refine TL.st rfl rfl rfl (o_move rfl rfl) ?_
      refine TL.st rfl rfl rfl (o_quo rfl rfl rfl (by decide)) ?_
      refine TL.st rfl rfl rfl (o_assign rfl rfl) ?_
      refine TL.nil ?_
      refine inB_normal ?_
      refine thn_normal ?_
      refine T.region ?_
      refine TL.st rfl rfl rfl (o_ari rfl rfl rfl rfl) ?_
      refine TL.st rfl rfl rfl (o_move rfl rfl) ?_
      refine TL.nil ?_
      exact Pk.go (fr' := [(0, .int .i64 (IntKind.i64.wrap (Int.tdiv v4 256))), (3, .hd 0 ((l3.set (Int.toNat v5) (IntKind.u8.wrap (Int.tmod v4 256))).map (c_int .u8)).length 0 ((l3.set (Int.toNat v5) (IntKind.u8.wrap (Int.tmod v4 256))).map (c_int .u8)).length), (7, .int .i64 (l1.length : Int)), (8, .int .i64 (IntKind.i64.wrap (v5 + 1)))]) (σ' := [.arr .clo 1 ((l3.set (Int.toNat v5) (IntKind.u8.wrap (Int.tmod v4 256))).map (c_int .u8))]) _ rfl rfl ⟨trivial, trivial⟩ (.cons 0 _ (.int .i64 (IntKind.i64.wrap (Int.tdiv v4 256))) _ rfl (.same _) rfl (.cons 3 _ (.hd 0 ((l3.set (Int.toNat v5) (IntKind.u8.wrap (Int.tmod v4 256))).map (c_int .u8)).length 0 ((l3.set (Int.toNat v5) (IntKind.u8.wrap (Int.tmod v4 256))).map (c_int .u8)).length) _ rfl (.same _) rfl (.cons 7 _ (.int .i64 (l1.length : Int)) _ rfl (.same _) rfl (.cons 8 _ (.int .i64 (IntKind.i64.wrap (v5 + 1))) _ rfl (.same _) rfl .nil)))) (thn_normal ⟨((l3.set (Int.toNat v5) (IntKind.u8.wrap (Int.tmod v4 256))), (IntKind.i64.wrap (Int.tdiv v4 256)), (IntKind.i64.wrap (v5 + 1))), (some_i H).symm, rfl, rfl⟩)
    · replace H := cond_f h H
      refine T.exit ?_
      refine thn_exit ?_
      exact Pk.go (fr' := [(3, .hd 0 (l3.map (c_int .u8)).length 0 (l3.map (c_int .u8)).length)]) (σ' := [.arr .clo 1 (l3.map (c_int .u8))]) _ rfl rfl ⟨trivial, trivial⟩ (.cons 3 _ (.hd 0 (l3.map (c_int .u8)).length 0 (l3.map (c_int .u8)).length) _ rfl (.same _) rfl .nil) (thn_exit ⟨l3, (some_i H).symm, rfl, rfl, rfl⟩)
  · rintro ⟨l3, v4, v5⟩ ⟨l3', v4', v5'⟩; rfl
  · rintro ⟨l3, v4, v5⟩; exact ⟨trivial, trivial⟩
  · rintro ⟨l3, v4, v5⟩; exact (.cons _ _ _ rfl rfl (.cons _ _ _ rfl rfl (.cons _ _ _ rfl rfl (.cons _ _ _ rfl rfl .nil))))
  · rintro _ _ _ ⟨rfl, rfl, rfl⟩
    refine inB_here ?_
    refine thn_normal ?_
    refine T.seq ?_
    refine T.region ?_
    refine TL.st rfl rfl rfl (o_move rfl rfl) ?_
    refine TL.st rfl rfl rfl (o_assign rfl rfl) ?_
    refine TL.nil ?_
    refine thn_normal ?_
    refine T.ret ?_
    cases some_i H
    exact ⟨trivial, _, (.tmp _ _ _ _ rfl .nil), (.own rfl (by decide) rfl)⟩
theorem en_35 (us : Array Value) (w : World) : (callFunc 35 us).run Go.Proofs.Tryd.prog w = .ok (.enter 35 us) w := enters Go.Proofs.Tryd.func35 rfl rfl us w
noncomputable def spec_l2Mixx_l1 (a0 : Int) : (List Int × Int) → Option ((List Int × Int) ⊕ List Int) := fun s => match s with
  | (l1, v2) => cond (decide (v2 < 4)) ((idx l1 v2).bind fun e5 => (idx ([1103515245, 69069, 1664525, 22695477] : List Int) v2).bind fun e7 => (idx l1 (Int.tmod (IntKind.i64.wrap (v2 + 1)) 4)).bind fun e9 => (idx l1 v2).bind fun e11 => some (.inl ((l1.set (Int.toNat v2) (Int.tmod (IntKind.i64.wrap ((IntKind.i64.wrap ((IntKind.i64.wrap ((IntKind.i64.wrap (e5 * e7)) + a0)) + 1)) + e9)) 2147483579)), (IntKind.i64.wrap (v2 + 1))))) (some (.inr l1))
noncomputable def spec_l2Mixx (a0 : Int) (s0 : List Int) : Option (List Int) :=
  (loopO (spec_l2Mixx_l1 a0) (s0, 0)).bind fun l3 => (match l3 with | l3 => some l3)
theorem spec_l2Mixx_p  {a0 : Int} {s0 : List Int} {U0 : List Int} (H : spec_l2Mixx a0 s0 = some U0) : St Go.Proofs.Tryd.prog 56 [.hd 0 (s0.map (c_int .i64)).length 0 (s0.map (c_int .i64)).length, .int .i64 a0] [.arr .clo 1 (s0.map (c_int .i64))] (.tup []) [.arr .clo 1 (U0.map (c_int .i64))] := by
  refine CallT.fin (CallT.of_TN (n := 34) Go.Proofs.Tryd.func56 rfl rfl rfl rfl ?_) rfl rfl ⟨trivial, trivial⟩
  refine T.seq ?_
  refine T.region ?_
  refine TL.st rfl rfl rfl (o_sliceIm rfl rfl tyS_3 ⟨_, rfl, rfl⟩ (by decide) rfl rfl rfl rfl rfl rfl) ?_
  refine TL.st rfl rfl rfl (o_assign rfl rfl) ?_
  refine TL.nil ?_
  refine thn_normal ?_
  refine T.seq ?_
  refine T.region ?_
  refine TL.st rfl rfl rfl (o_assign rfl rfl) ?_
  refine TL.nil ?_
  refine thn_normal ?_
  refine T.block ?_
  obtain ⟨l3, h14, H⟩ := bind_s H
  refine T.to (.cons 0 _ (.hd 0 (s0.map (c_int .i64)).length 0 (s0.map (c_int .i64)).length) _ rfl (.same _) rfl (.cons 1 _ (.int .i64 a0) _ rfl (.same _) rfl (.cons 4 _ (.im false (([1103515245, 69069, 1664525, 22695477] : List Int).map (c_int .i64))) _ rfl (.same _) rfl (.cons 5 _ (.int .i64 0) _ rfl (.same _) rfl .nil)))) ?_
  refine T.lp (fun s => match s with | (l1, v2) => [(0, .hd 0 (l1.map (c_int .i64)).length 0 (l1.map (c_int .i64)).length), (1, .int .i64 a0), (4, .im false (([1103515245, 69069, 1664525, 22695477] : List Int).map (c_int .i64))), (5, .int .i64 v2)]) (fun s => match s with | (l1, v2) => [.arr .clo 1 (l1.map (c_int .i64))]) (fun q ex fr σ => match q with | l3 => ex = .exit 0 ∧ fr = [] ∧ σ = [.arr .clo 1 (l3.map (c_int .i64))]) h14 ?_ ?_ ?_ ?_ ?_
  · rintro ⟨l1, v2⟩ y4 H
    refine T.seq ?_
    refine T.seq ?_
    refine T.region ?_
    refine TL.st rfl rfl rfl (o_move rfl rfl) ?_
    refine TL.st rfl rfl rfl (o_ari rfl rfl rfl rfl) ?_
    refine TL.nil ?_
    refine thn_normal ?_
    refine T.cond (decide (v2 < 4)) rfl (fun h => ?_) (fun h => ?_)
    · replace H := cond_t h H
      refine T.skip ?_
      refine thn_normal ?_
      refine T.seq ?_
      refine T.block ?_
      refine T.drawn rfl ?_
      refine TD.qs rfl rfl (fun _ => o_move rfl rfl) ?_
      refine TD.qs rfl rfl (fun _ => o_move rfl rfl) ?_
      refine TD.qs rfl rfl (fun _ => o_move rfl rfl) ?_
      refine TD.qs rfl rfl (fun _ => o_move rfl rfl) ?_
      obtain ⟨e5, h6, H⟩ := bind_s H
      refine TD.rs rfl rfl (o_ixh (f := c_int .i64) rfl rfl tyS_3 rfl rfl rfl rfl h6 rfl) ?_
      refine TD.rs rfl rfl (o_loadEl rfl tyS_3 rfl rfl rfl (by rw [List.getElem?_map, (idx_s h6).2]; rfl) (Nat.le_of_ble_eq_true rfl) rfl) ?_
      refine TD.qs rfl rfl (fun _ => o_move rfl rfl) ?_
      refine TD.qs rfl rfl (fun _ => o_move rfl rfl) ?_
      obtain ⟨e7, h8, H⟩ := bind_s H
      refine TD.qs rfl rfl (fun _ => o_ix (f := c_int .i64) rfl rfl tyS_3 rfl rfl h8 rfl) ?_
      refine TD.qs rfl rfl (fun _ => o_loadRf rfl tyS_3 rfl (Nat.le_of_ble_eq_true rfl) rfl) ?_
      refine TD.qs rfl rfl (fun _ => o_ari rfl rfl rfl rfl) ?_
      refine TD.qs rfl rfl (fun _ => o_move rfl rfl) ?_
      refine TD.qs rfl rfl (fun _ => o_ari rfl rfl rfl rfl) ?_
      refine TD.qs rfl rfl (fun _ => o_ari rfl rfl rfl rfl) ?_
      refine TD.qs rfl rfl (fun _ => o_move rfl rfl) ?_
      refine TD.qs rfl rfl (fun _ => o_move rfl rfl) ?_
      refine TD.qs rfl rfl (fun _ => o_ari rfl rfl rfl rfl) ?_
      refine TD.qs rfl rfl (fun _ => o_rem rfl rfl rfl (by decide)) ?_
      obtain ⟨e9, h10, H⟩ := bind_s H
      refine TD.rs rfl rfl (o_ixh (f := c_int .i64) rfl rfl tyS_3 rfl rfl rfl rfl h10 rfl) ?_
      refine TD.rs rfl rfl (o_loadEl rfl tyS_3 rfl rfl rfl (by rw [List.getElem?_map, (idx_s h10).2]; rfl) (Nat.le_of_ble_eq_true rfl) rfl) ?_
      refine TD.qs rfl rfl (fun _ => o_ari rfl rfl rfl rfl) ?_
      refine TD.qs rfl rfl (fun _ => o_rem rfl rfl rfl (by decide)) ?_
      obtain ⟨e11, h12, H⟩ := bind_s H
      refine TD.rs rfl rfl (o_ixh (f := c_int .i64) rfl rfl tyS_3 rfl rfl rfl rfl h12 rfl) ?_
      refine TD.an rfl rfl (o_stEl (f := c_int .i64) (xs := l1) (k := v2) (a := e11) (Int.tmod (IntKind.i64.wrap ((IntKind.i64.wrap ((IntKind.i64.wrap ((IntKind.i64.wrap (e5 * e7)) + a0)) + 1)) + e9)) 2147483579) rfl tyS_3 rfl rfl rfl rfl (by decide) h12 rfl rfl rfl (fun _ => rfl) rfl) ?_
      refine TD.nil ⟨rfl, ?_⟩
      refine inB_normal ?_
      refine thn_normal ?_
      refine T.conv (Cs.eqV (t := 0) (v' := .hd 0 ((l1.set (Int.toNat v2) (Int.tmod (IntKind.i64.wrap ((IntKind.i64.wrap ((IntKind.i64.wrap ((IntKind.i64.wrap (e5 * e7)) + a0)) + 1)) + e9)) 2147483579)).map (c_int .i64)).length 0 ((l1.set (Int.toNat v2) (Int.tmod (IntKind.i64.wrap ((IntKind.i64.wrap ((IntKind.i64.wrap ((IntKind.i64.wrap (e5 * e7)) + a0)) + 1)) + e9)) 2147483579)).map (c_int .i64)).length) rfl (hd_len _ (List.length_set ..))) ?_
      refine T.conv (Cs.eqV (t := 11) (v' := .hd 0 ((l1.set (Int.toNat v2) (Int.tmod (IntKind.i64.wrap ((IntKind.i64.wrap ((IntKind.i64.wrap ((IntKind.i64.wrap (e5 * e7)) + a0)) + 1)) + e9)) 2147483579)).map (c_int .i64)).length 0 ((l1.set (Int.toNat v2) (Int.tmod (IntKind.i64.wrap ((IntKind.i64.wrap ((IntKind.i64.wrap ((IntKind.i64.wrap (e5 * e7)) + a0)) + 1)) + e9)) 2147483579)).map (c_int .i64)).length) rfl (hd_len _ (List.length_set ..))) ?_
      refine T.conv (Cs.eqV (t := 13) (v' := .hd 0 ((l1.set (Int.toNat v2) (Int.tmod (IntKind.i64.wrap ((IntKind.i64.wrap ((IntKind.i64.wrap ((IntKind.i64.wrap (e5 * e7)) + a0)) + 1)) + e9)) 2147483579)).map (c_int .i64)).length 0 ((l1.set (Int.toNat v2) (Int.tmod (IntKind.i64.wrap ((IntKind.i64.wrap ((IntKind.i64.wrap ((IntKind.i64.wrap (e5 * e7)) + a0)) + 1)) + e9)) 2147483579)).map (c_int .i64)).length) rfl (hd_len _ (List.length_set ..))) ?_
      refine T.conv (Cs.eqV (t := 25) (v' := .hd 0 ((l1.set (Int.toNat v2) (Int.tmod (IntKind.i64.wrap ((IntKind.i64.wrap ((IntKind.i64.wrap ((IntKind.i64.wrap (e5 * e7)) + a0)) + 1)) + e9)) 2147483579)).map (c_int .i64)).length 0 ((l1.set (Int.toNat v2) (Int.tmod (IntKind.i64.wrap ((IntKind.i64.wrap ((IntKind.i64.wrap ((IntKind.i64.wrap (e5 * e7)) + a0)) + 1)) + e9)) 2147483579)).map (c_int .i64)).length) rfl (hd_len _ (List.length_set ..))) ?_
      refine T.region ?_
      refine TL.st rfl rfl rfl (o_move rfl rfl) ?_
      refine TL.st rfl rfl rfl (o_ari rfl rfl rfl rfl) ?_
      refine TL.st rfl rfl rfl (o_assign rfl rfl) ?_
      refine TL.nil ?_
      exact Pk.go (fr' := [(0, .hd 0 ((l1.set (Int.toNat v2) (Int.tmod (IntKind.i64.wrap ((IntKind.i64.wrap ((IntKind.i64.wrap ((IntKind.i64.wrap (e5 * e7)) + a0)) + 1)) + e9)) 2147483579)).map (c_int .i64)).length 0 ((l1.set (Int.toNat v2) (Int.tmod (IntKind.i64.wrap ((IntKind.i64.wrap ((IntKind.i64.wrap ((IntKind.i64.wrap (e5 * e7)) + a0)) + 1)) + e9)) 2147483579)).map (c_int .i64)).length), (1, .int .i64 a0), (4, .im false (([1103515245, 69069, 1664525, 22695477] : List Int).map (c_int .i64))), (5, .int .i64 (IntKind.i64.wrap (v2 + 1)))]) (σ' := [.arr .clo 1 ((l1.set (Int.toNat v2) (Int.tmod (IntKind.i64.wrap ((IntKind.i64.wrap ((IntKind.i64.wrap ((IntKind.i64.wrap (e5 * e7)) + a0)) + 1)) + e9)) 2147483579)).map (c_int .i64))]) _ rfl rfl ⟨trivial, trivial⟩ (.cons 0 _ (.hd 0 ((l1.set (Int.toNat v2) (Int.tmod (IntKind.i64.wrap ((IntKind.i64.wrap ((IntKind.i64.wrap ((IntKind.i64.wrap (e5 * e7)) + a0)) + 1)) + e9)) 2147483579)).map (c_int .i64)).length 0 ((l1.set (Int.toNat v2) (Int.tmod (IntKind.i64.wrap ((IntKind.i64.wrap ((IntKind.i64.wrap ((IntKind.i64.wrap (e5 * e7)) + a0)) + 1)) + e9)) 2147483579)).map (c_int .i64)).length) _ rfl (.same _) rfl (.cons 1 _ (.int .i64 a0) _ rfl (.same _) rfl (.cons 4 _ (.im false (([1103515245, 69069, 1664525, 22695477] : List Int).map (c_int .i64))) _ rfl (.same _) rfl (.cons 5 _ (.int .i64 (IntKind.i64.wrap (v2 + 1))) _ rfl (.same _) rfl .nil)))) (thn_normal ⟨((l1.set (Int.toNat v2) (Int.tmod (IntKind.i64.wrap ((IntKind.i64.wrap ((IntKind.i64.wrap ((IntKind.i64.wrap (e5 * e7)) + a0)) + 1)) + e9)) 2147483579)), (IntKind.i64.wrap (v2 + 1))), (some_i H).symm, rfl, rfl⟩)
    · replace H := cond_f h H
      refine T.exit ?_
      refine thn_exit ?_
      exact Pk.go (fr' := []) (σ' := [.arr .clo 1 (l1.map (c_int .i64))]) _ rfl rfl ⟨trivial, trivial⟩ .nil (thn_exit ⟨l1, (some_i H).symm, rfl, rfl, rfl⟩)
  · rintro ⟨l1, v2⟩ ⟨l1', v2'⟩; rfl
  · rintro ⟨l1, v2⟩; exact ⟨trivial, trivial⟩
  · rintro ⟨l1, v2⟩; exact (.cons _ _ _ rfl rfl (.cons _ _ _ rfl rfl (.cons _ _ _ rfl rfl (.cons _ _ _ rfl rfl .nil))))
  · rintro _ _ _ ⟨rfl, rfl, rfl⟩
    refine inB_here ?_
    cases some_i H
    exact ⟨trivial, _, .nil, ⟨rfl, _, rfl⟩⟩
theorem en_56 (us : Array Value) (w : World) : (callFunc 56 us).run Go.Proofs.Tryd.prog w = .ok (.enter 56 us) w := enters Go.Proofs.Tryd.func56 rfl rfl us w
noncomputable def spec_l2Digest_l4 (l11 : List Int) : (List Int × Int) → Option ((List Int × Int) ⊕ List Int) := fun s => match s with
  | (l12, v13) => cond (decide (v13 < (l11.length : Int))) ((idx l11 v13).bind fun e16 => (spec_l2Bytes e16).bind fun r18 => (app l12 r18).bind fun l20 => some (.inl (l20, (IntKind.i64.wrap (v13 + 1))))) (some (.inr l12))
noncomputable def spec_l2Digest_l3  : (List Int × Int) → Option ((List Int × Int) ⊕ List Int) := fun s => match s with
  | (l9, v10) => cond (decide (v10 < 8)) ((spec_l2Mixx 0 l9).bind fun o25 => (lenEq o25 l9).bind fun u27 => some (.inl (o25, (IntKind.i64.wrap (v10 + 1))))) (some (.inr l9))
noncomputable def spec_l2Digest_l2 (r4 : (List Int)) : (List Int × Int) → Option ((List Int × Int) ⊕ List Int) := fun s => match s with
  | (l6, v7) => cond (decide (v7 < (r4.length : Int))) ((idx r4 v7).bind fun e32 => (spec_l2Mixx (IntKind.i64.wrap e32) l6).bind fun o34 => (lenEq o34 l6).bind fun u36 => some (.inl (o34, (IntKind.i64.wrap (v7 + 1))))) (some (.inr l6))
noncomputable def spec_l2Digest_l1 (a0 : (List Int)) : (List Int × Int) → Option ((List Int × Int) ⊕ List Int) := fun s => match s with
  | (l1, v2) => cond (decide (v2 < (a0.length : Int))) ((idx a0 v2).bind fun e41 => (spec_l2Mixx (IntKind.i64.wrap e41) l1).bind fun o43 => (lenEq o43 l1).bind fun u45 => some (.inl (o43, (IntKind.i64.wrap (v2 + 1))))) (some (.inr l1))
noncomputable def spec_l2Digest (a0 : (List Int)) : Option (List Int) :=
  (loopO (spec_l2Digest_l1 a0) (([11, 22, 33, 44] : List Int), 0)).bind fun l3 => (match l3 with | l3 => (spec_l2Bytes (a0.length : Int)).bind fun r4 => (loopO (spec_l2Digest_l2 r4) (l3, 0)).bind fun l8 => (match l8 with | l8 => (loopO (spec_l2Digest_l3) (l8, 0)).bind fun l11 => (match l11 with | l11 => (loopO (spec_l2Digest_l4 l11) (([] : List Int), 0)).bind fun l14 => (match l14 with | l14 => some l14))))
theorem spec_l2Digest_p (b0 : Bool) {a0 : (List Int)} {R0 : (List Int)} (H : spec_l2Digest a0 = some R0) : Pure Go.Proofs.Tryd.prog 46 [.im b0 (a0.map (c_int .u8))] (.im false (R0.map (c_int .u8))) := by
  refine CallT.of_TN (n := 55) Go.Proofs.Tryd.func46 rfl rfl rfl rfl ?_
  refine T.seq ?_
  refine T.region ?_
  refine TL.st rfl rfl rfl (o_assign rfl rfl) ?_
  refine TL.nil ?_
  refine thn_normal ?_
  refine T.seq ?_
  refine T.region ?_
  refine TL.st rfl rfl rfl (o_sliceHd .clo rfl rfl tyS_3 ⟨_, rfl, rfl⟩ (by decide) rfl rfl rfl rfl (by decide) (fun _ => rfl) (by decide) rfl (by decide)) ?_
  refine TL.st rfl rfl rfl (o_assign rfl rfl) ?_
  refine TL.nil ?_
  refine thn_normal ?_
  refine T.seq ?_
  refine T.seq ?_
  refine T.region ?_
  refine TL.st rfl rfl rfl (o_move rfl rfl) ?_
  refine TL.st rfl rfl rfl (o_lenL (f := c_int .u8) rfl rfl rfl) ?_
  refine TL.st rfl rfl rfl (o_move rfl rfl) ?_
  refine TL.nil ?_
  refine thn_normal ?_
  refine T.block ?_
  obtain ⟨l3, h48, H⟩ := bind_s H
  refine T.to (.cons 0 _ (.im b0 (a0.map (c_int .u8))) _ rfl (.same _) rfl (.cons 3 _ (.hd 0 (([11, 22, 33, 44] : List Int).map (c_int .i64)).length 0 (([11, 22, 33, 44] : List Int).map (c_int .i64)).length) _ rfl (.same _) rfl (.cons 13 _ (.im b0 (a0.map (c_int .u8))) _ rfl (.same _) rfl (.cons 14 _ (.int .i64 (a0.length : Int)) _ rfl (.same _) rfl (.cons 15 _ (.int .i64 0) _ rfl (.same _) rfl .nil))))) ?_
  refine T.lp (fun s => match s with | (l1, v2) => [(0, .im b0 (a0.map (c_int .u8))), (3, .hd 0 (l1.map (c_int .i64)).length 0 (l1.map (c_int .i64)).length), (13, .im b0 (a0.map (c_int .u8))), (14, .int .i64 (a0.length : Int)), (15, .int .i64 v2)]) (fun s => match s with | (l1, v2) => [.arr .clo 1 (l1.map (c_int .i64))]) (fun q ex fr σ => match q with | l3 => ex = .exit 0 ∧ fr = [(0, .im b0 (a0.map (c_int .u8))), (3, .hd 0 (l3.map (c_int .i64)).length 0 (l3.map (c_int .i64)).length)] ∧ σ = [.arr .clo 1 (l3.map (c_int .i64))]) h48 ?_ ?_ ?_ ?_ ?_
  · rintro ⟨l1, v2⟩ y40 H
    refine T.seq ?_
    refine T.region ?_
    refine TL.st rfl rfl rfl (o_ari rfl rfl rfl rfl) ?_
    refine TL.nil ?_
    refine thn_normal ?_
    refine T.seq ?_
    refine T.cond (decide (v2 < (a0.length : Int))) rfl (fun h => ?_) (fun h => ?_)
    · replace H := cond_t h H
      refine T.skip ?_
      refine thn_normal ?_
      refine T.seq ?_
      refine T.block ?_
      refine T.seq ?_
      refine T.region ?_
      obtain ⟨e41, h42, H⟩ := bind_s H
      refine TL.st rfl rfl rfl (o_ix (f := c_int .u8) rfl rfl tyS_5 rfl rfl h42 rfl) ?_
      refine TL.st rfl rfl rfl (o_loadRf rfl tyS_5 rfl (Nat.le_of_ble_eq_true rfl) rfl) ?_
      refine TL.st rfl rfl rfl (o_assign rfl rfl) ?_
      refine TL.nil ?_
      refine thn_normal ?_
      refine T.region ?_
      refine TL.st rfl rfl rfl (o_move rfl rfl) ?_
      refine TL.st rfl rfl rfl (o_move rfl rfl) ?_
      refine TL.st rfl rfl rfl (o_conv rfl rfl ⟨_, rfl⟩ rfl) ?_
      obtain ⟨o43, h44, H⟩ := bind_s H
      obtain ⟨u45, h46, H⟩ := bind_s H
      refine TL.st rfl rfl rfl (o_callS [0] rfl en_56 rfl rfl (spec_l2Mixx_p  h44) rfl (by decide) (.cons _ _ _ _ rfl .nil) rfl rfl rfl) ?_
      refine TL.conv (Cs.eqV (t := 3) (v' := .hd 0 (o43.map (c_int .i64)).length 0 (o43.map (c_int .i64)).length) rfl (hd_len _ (lenEq_s h46))) ?_
      refine TL.conv (Cs.eqV (t := 19) (v' := .hd 0 (o43.map (c_int .i64)).length 0 (o43.map (c_int .i64)).length) rfl (hd_len _ (lenEq_s h46))) ?_
      refine TL.nil ?_
      refine inB_normal ?_
      refine thn_normal ?_
      refine T.region ?_
      refine TL.st rfl rfl rfl (o_ari rfl rfl rfl rfl) ?_
      refine TL.st rfl rfl rfl (o_move rfl rfl) ?_
      refine TL.nil ?_
      exact Pk.go (fr' := [(0, .im b0 (a0.map (c_int .u8))), (3, .hd 0 (o43.map (c_int .i64)).length 0 (o43.map (c_int .i64)).length), (13, .im b0 (a0.map (c_int .u8))), (14, .int .i64 (a0.length : Int)), (15, .int .i64 (IntKind.i64.wrap (v2 + 1)))]) (σ' := [.arr .clo 1 (o43.map (c_int .i64))]) _ rfl rfl ⟨trivial, trivial⟩ (.cons 0 _ (.im b0 (a0.map (c_int .u8))) _ rfl (.same _) rfl (.cons 3 _ (.hd 0 (o43.map (c_int .i64)).length 0 (o43.map (c_int .i64)).length) _ rfl (.same _) rfl (.cons 13 _ (.im b0 (a0.map (c_int .u8))) _ rfl (.same _) rfl (.cons 14 _ (.int .i64 (a0.length : Int)) _ rfl (.same _) rfl (.cons 15 _ (.int .i64 (IntKind.i64.wrap (v2 + 1))) _ rfl (.same _) rfl .nil))))) (thn_normal ⟨(o43, (IntKind.i64.wrap (v2 + 1))), (some_i H).symm, rfl, rfl⟩)
    · replace H := cond_f h H
      refine T.exit ?_
      refine thn_exit ?_
      exact Pk.go (fr' := [(0, .im b0 (a0.map (c_int .u8))), (3, .hd 0 (l1.map (c_int .i64)).length 0 (l1.map (c_int .i64)).length)]) (σ' := [.arr .clo 1 (l1.map (c_int .i64))]) _ rfl rfl ⟨trivial, trivial⟩ (.cons 0 _ (.im b0 (a0.map (c_int .u8))) _ rfl (.same _) rfl (.cons 3 _ (.hd 0 (l1.map (c_int .i64)).length 0 (l1.map (c_int .i64)).length) _ rfl (.same _) rfl .nil)) (thn_exit ⟨l1, (some_i H).symm, rfl, rfl, rfl⟩)
  · rintro ⟨l1, v2⟩ ⟨l1', v2'⟩; rfl
  · rintro ⟨l1, v2⟩; exact ⟨trivial, trivial⟩
  · rintro ⟨l1, v2⟩; exact (.cons _ _ _ rfl rfl (.cons _ _ _ rfl rfl (.cons _ _ _ rfl rfl (.cons _ _ _ rfl rfl (.cons _ _ _ rfl rfl .nil)))))
  · rintro _ _ _ ⟨rfl, rfl, rfl⟩
    refine inB_here ?_
    refine thn_normal ?_
    refine T.seq ?_
    refine T.seq ?_
    refine T.region ?_
    refine TL.st rfl rfl rfl (o_move rfl rfl) ?_
    refine TL.st rfl rfl rfl (o_lenL (f := c_int .u8) rfl rfl rfl) ?_
    obtain ⟨r4, h5, H⟩ := bind_s H
    refine TL.st rfl rfl rfl (o_callP rfl en_35 rfl rfl (.cons _ _ _ _ (.cl _ rfl) .nil) (spec_l2Bytes_p  h5)) ?_
    refine TL.st rfl rfl rfl (o_lenL (f := c_int .u8) rfl rfl rfl) ?_
    refine TL.st rfl rfl rfl (o_move rfl rfl) ?_
    refine TL.nil ?_
    refine thn_normal ?_
    refine T.block ?_
    obtain ⟨l8, h39, H⟩ := bind_s H
    refine T.to (.cons 3 _ (.hd 0 (l3.map (c_int .i64)).length 0 (l3.map (c_int .i64)).length) _ rfl (.same _) rfl (.cons 26 _ (.im false (r4.map (c_int .u8))) _ rfl (.same _) rfl (.cons 27 _ (.int .i64 (r4.length : Int)) _ rfl (.same _) rfl (.cons 28 _ (.int .i64 0) _ rfl (.same _) rfl .nil)))) ?_
    refine T.lp (fun s => match s with | (l6, v7) => [(3, .hd 0 (l6.map (c_int .i64)).length 0 (l6.map (c_int .i64)).length), (26, .im false (r4.map (c_int .u8))), (27, .int .i64 (r4.length : Int)), (28, .int .i64 v7)]) (fun s => match s with | (l6, v7) => [.arr .clo 1 (l6.map (c_int .i64))]) (fun q ex fr σ => match q with | l8 => ex = .exit 2 ∧ fr = [(3, .hd 0 (l8.map (c_int .i64)).length 0 (l8.map (c_int .i64)).length)] ∧ σ = [.arr .clo 1 (l8.map (c_int .i64))]) h39 ?_ ?_ ?_ ?_ ?_
    · rintro ⟨l6, v7⟩ y31 H
      refine T.seq ?_
      refine T.region ?_
      refine TL.st rfl rfl rfl (o_ari rfl rfl rfl rfl) ?_
      refine TL.nil ?_
      refine thn_normal ?_
      refine T.seq ?_
      refine T.cond (decide (v7 < (r4.length : Int))) rfl (fun h => ?_) (fun h => ?_)
      · replace H := cond_t h H
        refine T.skip ?_
        refine thn_normal ?_
        refine T.seq ?_
        refine T.block ?_
        refine T.seq ?_
        refine T.region ?_
        obtain ⟨e32, h33, H⟩ := bind_s H
        refine TL.st rfl rfl rfl (o_ix (f := c_int .u8) rfl rfl tyS_5 rfl rfl h33 rfl) ?_
        refine TL.st rfl rfl rfl (o_loadRf rfl tyS_5 rfl (Nat.le_of_ble_eq_true rfl) rfl) ?_
        refine TL.st rfl rfl rfl (o_assign rfl rfl) ?_
        refine TL.nil ?_
        refine thn_normal ?_
        refine T.region ?_
        refine TL.st rfl rfl rfl (o_move rfl rfl) ?_
        refine TL.st rfl rfl rfl (o_move rfl rfl) ?_
        refine TL.st rfl rfl rfl (o_conv rfl rfl ⟨_, rfl⟩ rfl) ?_
        obtain ⟨o34, h35, H⟩ := bind_s H
        obtain ⟨u36, h37, H⟩ := bind_s H
        refine TL.st rfl rfl rfl (o_callS [0] rfl en_56 rfl rfl (spec_l2Mixx_p  h35) rfl (by decide) (.cons _ _ _ _ rfl .nil) rfl rfl rfl) ?_
        refine TL.conv (Cs.eqV (t := 3) (v' := .hd 0 (o34.map (c_int .i64)).length 0 (o34.map (c_int .i64)).length) rfl (hd_len _ (lenEq_s h37))) ?_
        refine TL.conv (Cs.eqV (t := 32) (v' := .hd 0 (o34.map (c_int .i64)).length 0 (o34.map (c_int .i64)).length) rfl (hd_len _ (lenEq_s h37))) ?_
        refine TL.nil ?_
        refine inB_normal ?_
        refine thn_normal ?_
        refine T.region ?_
        refine TL.st rfl rfl rfl (o_ari rfl rfl rfl rfl) ?_
        refine TL.st rfl rfl rfl (o_move rfl rfl) ?_
        refine TL.nil ?_
        exact Pk.go (fr' := [(3, .hd 0 (o34.map (c_int .i64)).length 0 (o34.map (c_int .i64)).length), (26, .im false (r4.map (c_int .u8))), (27, .int .i64 (r4.length : Int)), (28, .int .i64 (IntKind.i64.wrap (v7 + 1)))]) (σ' := [.arr .clo 1 (o34.map (c_int .i64))]) _ rfl rfl ⟨trivial, trivial⟩ (.cons 3 _ (.hd 0 (o34.map (c_int .i64)).length 0 (o34.map (c_int .i64)).length) _ rfl (.same _) rfl (.cons 26 _ (.im false (r4.map (c_int .u8))) _ rfl (.same _) rfl (.cons 27 _ (.int .i64 (r4.length : Int)) _ rfl (.same _) rfl (.cons 28 _ (.int .i64 (IntKind.i64.wrap (v7 + 1))) _ rfl (.same _) rfl .nil)))) (thn_normal ⟨(o34, (IntKind.i64.wrap (v7 + 1))), (some_i H).symm, rfl, rfl⟩)
      · replace H := cond_f h H
        refine T.exit ?_
        refine thn_exit ?_
        exact Pk.go (fr' := [(3, .hd 0 (l6.map (c_int .i64)).length 0 (l6.map (c_int .i64)).length)]) (σ' := [.arr .clo 1 (l6.map (c_int .i64))]) _ rfl rfl ⟨trivial, trivial⟩ (.cons 3 _ (.hd 0 (l6.map (c_int .i64)).length 0 (l6.map (c_int .i64)).length) _ rfl (.same _) rfl .nil) (thn_exit ⟨l6, (some_i H).symm, rfl, rfl, rfl⟩)
    · rintro ⟨l6, v7⟩ ⟨l6', v7'⟩; rfl
    · rintro ⟨l6, v7⟩; exact ⟨trivial, trivial⟩
    · rintro ⟨l6, v7⟩; exact (.cons _ _ _ rfl rfl (.cons _ _ _ rfl rfl (.cons _ _ _ rfl rfl (.cons _ _ _ rfl rfl .nil))))
    · rintro _ _ _ ⟨rfl, rfl, rfl⟩
      refine inB_here ?_
      refine thn_normal ?_
      refine T.seq ?_
      refine T.seq ?_
      refine T.region ?_
      refine TL.st rfl rfl rfl (o_assign rfl rfl) ?_
      refine TL.nil ?_
      refine thn_normal ?_
      refine T.block ?_
      obtain ⟨l11, h30, H⟩ := bind_s H
      refine T.to (.cons 3 _ (.hd 0 (l8.map (c_int .i64)).length 0 (l8.map (c_int .i64)).length) _ rfl (.same _) rfl (.cons 8 _ (.int .i64 0) _ rfl (.same _) rfl .nil)) ?_
      refine T.lp (fun s => match s with | (l9, v10) => [(3, .hd 0 (l9.map (c_int .i64)).length 0 (l9.map (c_int .i64)).length), (8, .int .i64 v10)]) (fun s => match s with | (l9, v10) => [.arr .clo 1 (l9.map (c_int .i64))]) (fun q ex fr σ => match q with | l11 => ex = .exit 4 ∧ fr = [(3, .hd 0 (l11.map (c_int .i64)).length 0 (l11.map (c_int .i64)).length)] ∧ σ = [.arr .clo 1 (l11.map (c_int .i64))]) h30 ?_ ?_ ?_ ?_ ?_
      · rintro ⟨l9, v10⟩ y24 H
        refine T.seq ?_
        refine T.seq ?_
        refine T.region ?_
        refine TL.st rfl rfl rfl (o_move rfl rfl) ?_
        refine TL.st rfl rfl rfl (o_ari rfl rfl rfl rfl) ?_
        refine TL.nil ?_
        refine thn_normal ?_
        refine T.cond (decide (v10 < 8)) rfl (fun h => ?_) (fun h => ?_)
        · replace H := cond_t h H
          refine T.skip ?_
          refine thn_normal ?_
          refine T.seq ?_
          refine T.block ?_
          refine T.region ?_
          refine TL.st rfl rfl rfl (o_move rfl rfl) ?_
          obtain ⟨o25, h26, H⟩ := bind_s H
          obtain ⟨u27, h28, H⟩ := bind_s H
          refine TL.st rfl rfl rfl (o_callS [0] rfl en_56 rfl rfl (spec_l2Mixx_p  h26) rfl (by decide) (.cons _ _ _ _ rfl .nil) rfl rfl rfl) ?_
          refine TL.conv (Cs.eqV (t := 3) (v' := .hd 0 (o25.map (c_int .i64)).length 0 (o25.map (c_int .i64)).length) rfl (hd_len _ (lenEq_s h28))) ?_
          refine TL.conv (Cs.eqV (t := 41) (v' := .hd 0 (o25.map (c_int .i64)).length 0 (o25.map (c_int .i64)).length) rfl (hd_len _ (lenEq_s h28))) ?_
          refine TL.nil ?_
          refine inB_normal ?_
          refine thn_normal ?_
          refine T.region ?_
          refine TL.st rfl rfl rfl (o_move rfl rfl) ?_
          refine TL.st rfl rfl rfl (o_ari rfl rfl rfl rfl) ?_
          refine TL.st rfl rfl rfl (o_assign rfl rfl) ?_
          refine TL.nil ?_
          exact Pk.go (fr' := [(3, .hd 0 (o25.map (c_int .i64)).length 0 (o25.map (c_int .i64)).length), (8, .int .i64 (IntKind.i64.wrap (v10 + 1)))]) (σ' := [.arr .clo 1 (o25.map (c_int .i64))]) _ rfl rfl ⟨trivial, trivial⟩ (.cons 3 _ (.hd 0 (o25.map (c_int .i64)).length 0 (o25.map (c_int .i64)).length) _ rfl (.same _) rfl (.cons 8 _ (.int .i64 (IntKind.i64.wrap (v10 + 1))) _ rfl (.same _) rfl .nil)) (thn_normal ⟨(o25, (IntKind.i64.wrap (v10 + 1))), (some_i H).symm, rfl, rfl⟩)
        · replace H := cond_f h H
          refine T.exit ?_
          refine thn_exit ?_
          exact Pk.go (fr' := [(3, .hd 0 (l9.map (c_int .i64)).length 0 (l9.map (c_int .i64)).length)]) (σ' := [.arr .clo 1 (l9.map (c_int .i64))]) _ rfl rfl ⟨trivial, trivial⟩ (.cons 3 _ (.hd 0 (l9.map (c_int .i64)).length 0 (l9.map (c_int .i64)).length) _ rfl (.same _) rfl .nil) (thn_exit ⟨l9, (some_i H).symm, rfl, rfl, rfl⟩)
      · rintro ⟨l9, v10⟩ ⟨l9', v10'⟩; rfl
      · rintro ⟨l9, v10⟩; exact ⟨trivial, trivial⟩
      · rintro ⟨l9, v10⟩; exact (.cons _ _ _ rfl rfl (.cons _ _ _ rfl rfl .nil))
      · rintro _ _ _ ⟨rfl, rfl, rfl⟩
        refine inB_here ?_
        refine thn_normal ?_
        refine T.seq ?_
        refine T.region ?_
        refine TL.st rfl rfl rfl (o_assign rfl rfl) ?_
        refine TL.nil ?_
        refine thn_normal ?_
        refine T.seq ?_
        refine T.seq ?_
        refine T.region ?_
        refine TL.st rfl rfl rfl (o_move rfl rfl) ?_
        refine TL.st rfl rfl rfl (o_lenOwn (f := c_int .i64) rfl rfl rfl rfl rfl) ?_
        refine TL.st rfl rfl rfl (o_move rfl rfl) ?_
        refine TL.nil ?_
        refine thn_normal ?_
        refine T.block ?_
        refine T.conv (Cs.own (t := 9) 1 rfl (by decide)) ?_
        obtain ⟨l14, h23, H⟩ := bind_s H
        refine T.to (.cons 9 _ (.hd 1 (([] : List Int).map (c_int .u8)).length 0 (([] : List Int).map (c_int .u8)).length) _ rfl (.same _) rfl (.cons 43 _ (.hd 0 (l11.map (c_int .i64)).length 0 (l11.map (c_int .i64)).length) _ rfl (.same _) rfl (.cons 44 _ (.int .i64 (l11.length : Int)) _ rfl (.same _) rfl (.cons 45 _ (.int .i64 0) _ rfl (.same _) rfl .nil)))) ?_
        refine T.lp (fun s => match s with | (l12, v13) => [(9, .hd 1 (l12.map (c_int .u8)).length 0 (l12.map (c_int .u8)).length), (43, .hd 0 (l11.map (c_int .i64)).length 0 (l11.map (c_int .i64)).length), (44, .int .i64 (l11.length : Int)), (45, .int .i64 v13)]) (fun s => match s with | (l12, v13) => [.arr .clo 1 (l11.map (c_int .i64)), .arr .clo 1 (l12.map (c_int .u8))]) (fun q ex fr σ => match q with | l14 => ex = .exit 6 ∧ fr = [(9, .hd 1 (l14.map (c_int .u8)).length 0 (l14.map (c_int .u8)).length)] ∧ σ = [.arr .clo 1 (l11.map (c_int .i64)), .arr .clo 1 (l14.map (c_int .u8))]) h23 ?_ ?_ ?_ ?_ ?_
        · rintro ⟨l12, v13⟩ y15 H
          refine T.seq ?_
          refine T.region ?_
          refine TL.st rfl rfl rfl (o_ari rfl rfl rfl rfl) ?_
          refine TL.nil ?_
          refine thn_normal ?_
          refine T.seq ?_
          refine T.cond (decide (v13 < (l11.length : Int))) rfl (fun h => ?_) (fun h => ?_)
          · replace H := cond_t h H
            refine T.skip ?_
            refine thn_normal ?_
            refine T.seq ?_
            refine T.block ?_
            refine T.seq ?_
            refine T.region ?_
            obtain ⟨e16, h17, H⟩ := bind_s H
            refine TL.st rfl rfl rfl (o_ixh (f := c_int .i64) rfl rfl tyS_3 rfl rfl rfl rfl h17 rfl) ?_
            refine TL.st rfl rfl rfl (o_loadEl rfl tyS_3 rfl rfl rfl (by rw [List.getElem?_map, (idx_s h17).2]; rfl) (Nat.le_of_ble_eq_true rfl) rfl) ?_
            refine TL.st rfl rfl rfl (o_assign rfl rfl) ?_
            refine TL.nil ?_
            refine thn_normal ?_
            refine T.region ?_
            refine TL.st rfl rfl rfl (o_move rfl rfl) ?_
            refine TL.st rfl rfl rfl (o_move rfl rfl) ?_
            obtain ⟨r18, h19, H⟩ := bind_s H
            refine TL.st rfl rfl rfl (o_callP rfl en_35 rfl rfl (.cons _ _ _ _ (.cl _ rfl) .nil) (spec_l2Bytes_p  h19)) ?_
            obtain ⟨l20, h21, H⟩ := bind_s H
            refine TL.st rfl rfl rfl (o_ap (f := c_int .u8) (xs := l12) (ys := r18) rfl rfl tyE_5 rfl rfl rfl rfl (by decide) rfl (fun _ => rfl) h21) ?_
            refine TL.st rfl rfl rfl (o_assign rfl rfl) ?_
            refine TL.nil ?_
            refine inB_normal ?_
            refine thn_normal ?_
            refine T.region ?_
            refine TL.st rfl rfl rfl (o_ari rfl rfl rfl rfl) ?_
            refine TL.st rfl rfl rfl (o_move rfl rfl) ?_
            refine TL.nil ?_
            exact Pk.go (fr' := [(9, .hd 1 (l20.map (c_int .u8)).length 0 (l20.map (c_int .u8)).length), (43, .hd 0 (l11.map (c_int .i64)).length 0 (l11.map (c_int .i64)).length), (44, .int .i64 (l11.length : Int)), (45, .int .i64 (IntKind.i64.wrap (v13 + 1)))]) (σ' := [.arr .clo 1 (l11.map (c_int .i64)), .arr .clo 1 (l20.map (c_int .u8))]) _ rfl rfl ⟨trivial, ⟨trivial, trivial⟩⟩ (.cons 9 _ (.hd 1 (l20.map (c_int .u8)).length 0 (l20.map (c_int .u8)).length) _ rfl (.same _) rfl (.cons 43 _ (.hd 0 (l11.map (c_int .i64)).length 0 (l11.map (c_int .i64)).length) _ rfl (.same _) rfl (.cons 44 _ (.int .i64 (l11.length : Int)) _ rfl (.same _) rfl (.cons 45 _ (.int .i64 (IntKind.i64.wrap (v13 + 1))) _ rfl (.same _) rfl .nil)))) (thn_normal ⟨(l20, (IntKind.i64.wrap (v13 + 1))), (some_i H).symm, rfl, rfl⟩)
          · replace H := cond_f h H
            refine T.exit ?_
            refine thn_exit ?_
            exact Pk.go (fr' := [(9, .hd 1 (l12.map (c_int .u8)).length 0 (l12.map (c_int .u8)).length)]) (σ' := [.arr .clo 1 (l11.map (c_int .i64)), .arr .clo 1 (l12.map (c_int .u8))]) _ rfl rfl ⟨trivial, ⟨trivial, trivial⟩⟩ (.cons 9 _ (.hd 1 (l12.map (c_int .u8)).length 0 (l12.map (c_int .u8)).length) _ rfl (.same _) rfl .nil) (thn_exit ⟨l12, (some_i H).symm, rfl, rfl, rfl⟩)
        · rintro ⟨l12, v13⟩ ⟨l12', v13'⟩; rfl
        · rintro ⟨l12, v13⟩; exact ⟨trivial, ⟨trivial, trivial⟩⟩
        · rintro ⟨l12, v13⟩; exact (.cons _ _ _ rfl rfl (.cons _ _ _ rfl rfl (.cons _ _ _ rfl rfl (.cons _ _ _ rfl rfl .nil))))
        · rintro _ _ _ ⟨rfl, rfl, rfl⟩
          refine inB_here ?_
          refine thn_normal ?_
          refine T.seq ?_
          refine T.region ?_
          refine TL.st rfl rfl rfl (o_move rfl rfl) ?_
          refine TL.st rfl rfl rfl (o_assign rfl rfl) ?_
          refine TL.nil ?_
          refine thn_normal ?_
          refine T.ret ?_
          cases some_i H
          exact ⟨trivial, _, (.tmp _ _ _ _ rfl .nil), (.own rfl (by decide) rfl)⟩
theorem en_46 (us : Array Value) (w : World) : (callFunc 46 us).run Go.Proofs.Tryd.prog w = .ok (.enter 46 us) w := enters Go.Proofs.Tryd.func46 rfl rfl us w
noncomputable def spec_l2Two (a0 : (List Int)) (a1 : (List Int)) : Option (List Int) :=
  (app ([] : List Int) a0).bind fun l1 => (app l1 a1).bind fun l3 => (spec_l2Digest l3).bind fun r5 => some r5
theorem spec_l2Two_p (b0 : Bool) (b1 : Bool) {a0 : (List Int)} {a1 : (List Int)} {R0 : (List Int)} (H : spec_l2Two a0 a1 = some R0) : Pure Go.Proofs.Tryd.prog 45 [.im b0 (a0.map (c_int .u8)), .im b1 (a1.map (c_int .u8))] (.im false (R0.map (c_int .u8))) := by
  refine CallT.of_TN (n := 12) Go.Proofs.Tryd.func45 rfl rfl rfl rfl ?_
  refine T.seq ?_
  refine T.region ?_
  refine TL.st rfl rfl rfl (o_assign rfl rfl) ?_
  refine TL.nil ?_
  refine thn_normal ?_
  refine T.seq ?_
  refine T.region ?_
  refine TL.st rfl rfl rfl (o_assign rfl rfl) ?_
  refine TL.nil ?_
  refine thn_normal ?_
  refine T.seq ?_
  refine T.region ?_
  refine TL.st rfl rfl rfl (o_move rfl rfl) ?_
  refine TL.st rfl rfl rfl (o_move rfl rfl) ?_
  refine TL.conv (Cs.own (t := 6) 1 rfl (by decide)) ?_
  obtain ⟨l1, h2, H⟩ := bind_s H
  refine TL.st rfl rfl rfl (o_ap (f := c_int .u8) (xs := ([] : List Int)) (ys := a0) rfl rfl tyE_5 rfl rfl rfl rfl (by decide) rfl (fun _ => rfl) h2) ?_
  refine TL.st rfl rfl rfl (o_move rfl rfl) ?_
  obtain ⟨l3, h4, H⟩ := bind_s H
  refine TL.st rfl rfl rfl (o_ap (f := c_int .u8) (xs := l1) (ys := a1) rfl rfl tyE_5 rfl rfl rfl rfl (by decide) rfl (fun _ => rfl) h4) ?_
  obtain ⟨r5, h6, H⟩ := bind_s H
  refine TL.st rfl rfl rfl (o_callP rfl en_46 rfl rfl (.cons _ _ _ _ (.own rfl (by decide) rfl) .nil) (spec_l2Digest_p true h6)) ?_
  refine TL.st rfl rfl rfl (o_assign rfl rfl) ?_
  refine TL.nil ?_
  refine thn_normal ?_
  refine T.ret ?_
  cases some_i H
  exact ⟨trivial, _, (.tmp _ _ _ _ rfl .nil), (.cl _ rfl)⟩
theorem en_45 (us : Array Value) (w : World) : (callFunc 45 us).run Go.Proofs.Tryd.prog w = .ok (.enter 45 us) w := enters Go.Proofs.Tryd.func45 rfl rfl us w
noncomputable def spec_l2Mac (a0 : (List Int)) (a1 : (List Int)) : Option (List Int) :=
  (spec_l2Digest a0).bind fun r1 => (spec_l2Digest a1).bind fun r3 => (spec_l2Two r1 r3).bind fun r5 => some r5
theorem spec_l2Mac_p (b0 : Bool) (b1 : Bool) {a0 : (List Int)} {a1 : (List Int)} {R0 : (List Int)} (H : spec_l2Mac a0 a1 = some R0) : Pure Go.Proofs.Tryd.prog 34 [.im b0 (a0.map (c_int .u8)), .im b1 (a1.map (c_int .u8))] (.im false (R0.map (c_int .u8))) := by
  refine CallT.of_TN (n := 10) Go.Proofs.Tryd.func34 rfl rfl rfl rfl ?_
  refine T.seq ?_
  refine T.region ?_
  refine TL.st rfl rfl rfl (o_assign rfl rfl) ?_
  refine TL.nil ?_
  refine thn_normal ?_
  refine T.seq ?_
  refine T.region ?_
  refine TL.st rfl rfl rfl (o_move rfl rfl) ?_
  obtain ⟨r1, h2, H⟩ := bind_s H
  refine TL.st rfl rfl rfl (o_callP rfl en_46 rfl rfl (.cons _ _ _ _ (.imv _ _) .nil) (spec_l2Digest_p b0 h2)) ?_
  refine TL.st rfl rfl rfl (o_move rfl rfl) ?_
  obtain ⟨r3, h4, H⟩ := bind_s H
  refine TL.st rfl rfl rfl (o_callP rfl en_46 rfl rfl (.cons _ _ _ _ (.imv _ _) .nil) (spec_l2Digest_p b1 h4)) ?_
  obtain ⟨r5, h6, H⟩ := bind_s H
  refine TL.st rfl rfl rfl (o_callP rfl en_45 rfl rfl (.cons _ _ _ _ (.cl _ rfl) (.cons _ _ _ _ (.cl _ rfl) .nil)) (spec_l2Two_p false false h6)) ?_
  refine TL.st rfl rfl rfl (o_assign rfl rfl) ?_
  refine TL.nil ?_
  refine thn_normal ?_
  refine T.ret ?_
  cases some_i H
  exact ⟨trivial, _, (.tmp _ _ _ _ rfl .nil), (.cl _ rfl)⟩
theorem en_34 (us : Array Value) (w : World) : (callFunc 34 us).run Go.Proofs.Tryd.prog w = .ok (.enter 34 us) w := enters Go.Proofs.Tryd.func34 rfl rfl us w
noncomputable def spec_l2Letters  : Option ByteArray :=
  some (ByteArray.mk #[48, 49, 50, 51, 52, 53, 54, 55, 56, 57, 97, 98, 99, 100, 101, 102, 103, 104, 105, 106, 107, 108, 109, 110, 111, 112, 113, 114, 115, 116, 117, 118])
theorem spec_l2Letters_p   {R0 : ByteArray} (H : spec_l2Letters = some R0) : Pure Go.Proofs.Tryd.prog 44 [] (.str R0) := by
  refine CallT.of_TN (n := 1) Go.Proofs.Tryd.func44 rfl rfl rfl rfl ?_
  refine T.seq ?_
  refine T.region ?_
  refine TL.st rfl rfl rfl (o_assign rfl rfl) ?_
  refine TL.nil ?_
  refine thn_normal ?_
  refine T.seq ?_
  refine T.region ?_
  refine TL.st rfl rfl rfl (o_assign rfl rfl) ?_
  refine TL.nil ?_
  refine thn_normal ?_
  refine T.ret ?_
  cases some_i H
  exact ⟨trivial, _, (.tmp _ _ _ _ rfl .nil), (.cl _ rfl)⟩
theorem en_44 (us : Array Value) (w : World) : (callFunc 44 us).run Go.Proofs.Tryd.prog w = .ok (.enter 44 us) w := enters Go.Proofs.Tryd.func44 rfl rfl us w
noncomputable def spec_l2Armor_j1 (v6 : Int) (v15 : Int) : Option ((Int × Int) ⊕ Int) :=
  some (.inl (v15, (IntKind.i64.wrap (v6 + 1))))
noncomputable def spec_l2Armor_l2 (a0 : (List Int)) (v2 : Int) : (Int × Int) → Option ((Int × Int) ⊕ Int) := fun s => match s with
  | (v5, v6) => cond (decide (v6 < (IntKind.i64.wrap (v2 + 5)))) (cond (decide (v6 < (IntKind.i64.wrap ((a0.length : Int) * 8)))) ((idx a0 (IntKind.i64.wrap (Int.tdiv v6 8))).bind fun e16 => (nn (IntKind.u64.wrap (IntKind.i64.wrap (7 - (Int.tmod v6 8))))).bind fun u18 => spec_l2Armor_j1 v6 (IntKind.i64.wrap ((IntKind.i64.wrap (v5 * 2)) + (IntKind.i64.wrap (BitVec.ofInt IntKind.i64.bits (Int.fdiv (IntKind.i64.wrap e16) (2 ^ (min (Int.toNat (IntKind.u64.wrap (IntKind.i64.wrap (7 - (Int.tmod v6 8))))) IntKind.i64.bits))) &&& BitVec.ofInt IntKind.i64.bits 1).toNat)))) (spec_l2Armor_j1 v6 (IntKind.i64.wrap (v5 * 2)))) (some (.inr v5))
noncomputable def spec_l2Armor_l1 (a0 : (List Int)) : (List Int × Int) → Option ((List Int × Int) ⊕ List Int) := fun s => match s with
  | (l1, v2) => cond (decide (v2 < (IntKind.i64.wrap ((a0.length : Int) * 8)))) ((loopO (spec_l2Armor_l2 a0 v2) (0, v2)).bind fun v7 => (match v7 with | v7 => (spec_l2Letters).bind fun r8 => (idxS r8 v7).bind fun b10 => (app l1 ([b10] : List Int)).bind fun l12 => some (.inl (l12, (IntKind.i64.wrap (v2 + 5)))))) (some (.inr l1))
noncomputable def spec_l2Armor (a0 : (List Int)) : Option ByteArray :=
  (loopO (spec_l2Armor_l1 a0) (([] : List Int), 0)).bind fun l3 => (match l3 with | l3 => some (byS l3))
end Go.G36.RV1
