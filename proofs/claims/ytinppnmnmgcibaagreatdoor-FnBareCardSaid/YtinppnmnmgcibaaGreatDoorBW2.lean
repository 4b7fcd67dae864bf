import Derived.Test.YtinppnmnmgcibaaGreatDoorBW1
set_option linter.all false
set_option maxRecDepth 20000
set_option maxHeartbeats 4000000
namespace Go.G36.BW
open Go Go.Proofs Go.G36.BD
theorem strings_Builder_WriteByte_p  {a0 : Int} {s0 : T_strings_Builder} {R0 : Unit} {U0 : T_strings_Builder} (H : strings_Builder_WriteByte a0 s0 = some (R0, U0)) : St Go.Proofs.Tryz.prog 92 [.bx 0 0, .int .u8 a0] [.box [.px 0 121 1 0, .hd 1 (s0.buf_.map (c_int .u8)).length 0 (s0.buf_.map (c_int .u8)).length], .arr (.tg 5) 1 (s0.buf_.map (c_int .u8))] (.nilI) [.box [.px 0 121 1 0, .hd 2 (U0.buf_.map (c_int .u8)).length 0 (U0.buf_.map (c_int .u8)).length], .dead, .arr (.tg 5) 1 (U0.buf_.map (c_int .u8))] := by
 refine CallT.fin (CallT.of_TN (n := 17) Go.Proofs.Tryz.func92 rfl rfl rfl rfl ?_) rfl rfl ⟨(bels_iff.1 rfl), ⟨trivial, ⟨trivial, trivial⟩⟩⟩
 refine T.conv (Cs.fresh 1 rfl rfl (by decide) rfl (nomS_all rfl rfl)) ?_
 refine T.conv (Cs.wkF (M := 3) (.k 0 rfl rfl (.k 1 rfl rfl .nil))) ?_
 refine T.conv (Cs.eqS (σ' := [.box [.px 0 121 1 0, .hd 2 (s0.buf_.map (c_int .u8)).length 0 (s0.buf_.map (c_int .u8)).length], .dead, .arr (.tg 5) 1 (s0.buf_.map (c_int .u8))]) rfl) ?_
 refine T.seq (T.region (TL.st rfl rfl rfl (o_assign rfl rfl) (TL.nil (thn_normal (T.seq (T.region (TL.st rfl rfl rfl (o_move rfl rfl) ?_)))))))
 obtain ⟨u1, h2, H⟩ := bind_s H
 refine TL.st rfl rfl rfl (o_callS [0, 2] rfl en_99 rfl rfl (BD.lib_99  h2) rfl (by decide) (.cons _ _ _ _ rfl (.cons _ _ _ _ rfl .nil)) rfl rfl rfl) ?_
 refine TL.nil (thn_normal (T.seq (T.region (TL.st rfl rfl rfl (o_move rfl rfl) (TL.st rfl rfl rfl (o_move rfl rfl) (TL.st rfl rfl rfl (o_nilCheck rfl rfl rfl) (TL.st rfl rfl rfl (o_fieldAddr rfl rfl rfl tyS_22 (by decide) rfl rfl ⟨_, rfl, Nat.le_of_ble_eq_true rfl⟩) ?_)))))))
 refine TL.st rfl rfl rfl (o_loadBx rfl tyS_22 rfl rfl (Nat.le_of_ble_eq_true rfl) rfl) ?_
 refine TL.st rfl rfl rfl (o_move rfl rfl) (TL.st rfl rfl rfl (o_sliceIm (rows := ([a0] : List Int).map (c_int .u8)) rfl rfl tyS_5 ⟨_, rfl, rfl⟩ (by decide) rfl rfl rfl rfl rfl rfl) ?_)
 obtain ⟨l3, h4, H⟩ := bind_s H
 refine TL.st rfl rfl rfl (o_ap (f := c_int .u8) (xs := s0.buf_) (ys := ([a0] : List Int)) rfl rfl tyE_5 rfl rfl rfl rfl (by decide) rfl (fun _ => rfl) h4) ?_
 refine TL.st rfl rfl rfl (o_nilCheck rfl rfl rfl) (TL.st rfl rfl rfl (o_fieldAddr rfl rfl rfl tyS_22 (by decide) rfl rfl ⟨_, rfl, Nat.le_of_ble_eq_true rfl⟩) ?_)
 refine TL.sn rfl rfl (o_storeBx rfl tyS_22 rfl rfl rfl rfl (Nat.le_of_ble_eq_true rfl) (sure_hd rfl rfl rfl)) ?_
 refine TL.nil (thn_normal (T.seq (T.conv (Cs.eqS (σ' := [.box [.px 0 121 1 0, .hd 2 (l3.map (c_int .u8)).length 0 (l3.map (c_int .u8)).length], .dead, .arr (.tg 5) 1 (l3.map (c_int .u8))]) rfl) ?_)))
 refine T.region (TL.st rfl rfl rfl (o_assign rfl rfl) (TL.nil (thn_normal (T.ret ?_))))
 cases some_i H
 exact ⟨trivial, _, (.tmp _ _ _ _ rfl .nil), ⟨rfl, _, rfl⟩⟩
theorem en_92 (us : Array Value) (w : World) : (callFunc 92 us).run Go.Proofs.Tryz.prog w = .ok (.enter 92 us) w := enters Go.Proofs.Tryz.func92 rfl rfl us w
noncomputable def strings_Builder_String (s0 : T_strings_Builder) : Option ByteArray :=
  some (byS s0.buf_)
theorem strings_Builder_String_p  {s0 : T_strings_Builder} {R0 : ByteArray} (H : strings_Builder_String s0 = some R0) : St Go.Proofs.Tryz.prog 93 [.bx 0 0] [.box [.px 0 121 1 0, .hd 1 (s0.buf_.map (c_int .u8)).length 0 (s0.buf_.map (c_int .u8)).length], .arr (.tg 5) 1 (s0.buf_.map (c_int .u8))] (.str R0) [.box [.px 0 121 1 0, .hd 2 (s0.buf_.map (c_int .u8)).length 0 (s0.buf_.map (c_int .u8)).length], .dead, .dead] := by
 refine CallT.fin (CallT.of_TN (n := 14) Go.Proofs.Tryz.func93 rfl rfl rfl rfl ?_) rfl rfl ⟨(bels_iff.1 rfl), ⟨trivial, ⟨trivial, trivial⟩⟩⟩
 refine T.conv (Cs.fresh 1 rfl rfl (by decide) rfl (nomS_all rfl rfl)) ?_
 refine T.conv (Cs.wkF (M := 3) (.k 0 rfl rfl .nil)) ?_
 refine T.conv (Cs.eqS (σ' := [.box [.px 0 121 1 0, .hd 2 (s0.buf_.map (c_int .u8)).length 0 (s0.buf_.map (c_int .u8)).length], .dead, .arr (.tg 5) 1 (s0.buf_.map (c_int .u8))]) rfl) ?_
 refine T.seq (T.region (TL.st rfl rfl rfl (o_assign rfl rfl) (TL.nil (thn_normal (T.seq (T.drawn rfl ?_))))))
 refine TD.qs rfl rfl (fun _ => o_move rfl rfl) (TD.qs rfl rfl (fun _ => o_nilCheck rfl rfl rfl) (TD.rs rfl rfl (o_fieldAddr rfl rfl rfl tyS_22 (by decide) rfl rfl ⟨_, rfl, Nat.le_of_ble_eq_true rfl⟩) ?_))
 refine TD.rs rfl rfl (o_loadBx rfl tyS_22 rfl rfl (Nat.le_of_ble_eq_true rfl) rfl) ?_
 refine TD.rs rfl rfl (o_sliceData rfl rfl rfl rfl rfl) ?_
 refine TD.qs rfl rfl (fun _ => o_move rfl rfl) (TD.qs rfl rfl (fun _ => o_nilCheck rfl rfl rfl) (TD.rs rfl rfl (o_fieldAddr rfl rfl rfl tyS_22 (by decide) rfl rfl ⟨_, rfl, Nat.le_of_ble_eq_true rfl⟩) ?_))
 refine TD.rs rfl rfl (o_loadBx rfl tyS_22 rfl rfl (Nat.le_of_ble_eq_true rfl) rfl) ?_
 refine TD.rs rfl rfl (o_lenOwn (f := c_int .u8) rfl rfl rfl rfl rfl) ?_
 refine TD.as rfl rfl (o_unsafeString (f := c_int .u8) (ns := s0.buf_) rfl rfl rfl (fun _ => rfl) rfl rfl rfl) ?_
 refine TD.qs rfl rfl (fun _ => o_assign rfl rfl) ?_
 refine TD.nil ⟨rfl, ?_⟩
 refine thn_normal (T.ret ?_)
 cases some_i H
 exact ⟨trivial, _, (.tmp _ _ _ _ rfl .nil), ⟨rfl, _, rfl⟩⟩
theorem en_93 (us : Array Value) (w : World) : (callFunc 93 us).run Go.Proofs.Tryz.prog w = .ok (.enter 93 us) w := enters Go.Proofs.Tryz.func93 rfl rfl us w
noncomputable def impl_Armor_l2 (v2 : Int) (e20 : Int) : (T_strings_Builder × Int) → Option ((T_strings_Builder × Int) ⊕ (T_strings_Builder × Int)) := fun s => match s with
  | (b22, v23) => cond (decide (v23 ≥ 5)) ((nn (IntKind.i64.wrap (v23 - 5))).bind fun u29 => (idxS (ByteArray.mk #[48, 49, 50, 51, 52, 53, 54, 55, 56, 57, 97, 98, 99, 100, 101, 102, 103, 104, 105, 106, 107, 108, 109, 110, 111, 112, 113, 114, 115, 116, 117, 118]) (IntKind.i64.wrap (BitVec.ofInt IntKind.i64.bits (Int.fdiv (IntKind.i64.wrap (BitVec.ofInt IntKind.i64.bits (IntKind.i64.wrap (v2 * 2 ^ (min (Int.toNat 8) IntKind.i64.bits))) ||| BitVec.ofInt IntKind.i64.bits (IntKind.i64.wrap e20)).toNat) (2 ^ (min (Int.toNat (IntKind.i64.wrap (v23 - 5))) IntKind.i64.bits))) &&& BitVec.ofInt IntKind.i64.bits 31).toNat)).bind fun b31 => (strings_Builder_WriteByte b31 (⟨(), b22.buf_⟩ : T_strings_Builder)).bind fun q => (match q with | (r33, o34) => some (.inl ((⟨(), o34.buf_⟩ : T_strings_Builder), (IntKind.i64.wrap (v23 - 5)))))) (some (.inr ((⟨(), b22.buf_⟩ : T_strings_Builder), v23)))
noncomputable def impl_Armor_l1 (a0 : (List Int)) : (T_strings_Builder × Int × Int × Int) → Option ((T_strings_Builder × Int × Int × Int) ⊕ (T_strings_Builder × Int × Int)) := fun s => match s with
  | (b1, v2, v3, v4) => cond (decide (v4 < (a0.length : Int))) ((idx a0 v4).bind fun e20 => (loopO (impl_Armor_l2 v2 e20) ((⟨(), b1.buf_⟩ : T_strings_Builder), (IntKind.i64.wrap (v3 + 8)))).bind fun q36 => (match q36 with | (b24, v25) => (nn v25).bind fun u26 => some (.inl ((⟨(), b24.buf_⟩ : T_strings_Builder), (IntKind.i64.wrap (BitVec.ofInt IntKind.i64.bits (IntKind.i64.wrap (BitVec.ofInt IntKind.i64.bits (IntKind.i64.wrap (v2 * 2 ^ (min (Int.toNat 8) IntKind.i64.bits))) ||| BitVec.ofInt IntKind.i64.bits (IntKind.i64.wrap e20)).toNat) &&& BitVec.ofInt IntKind.i64.bits (IntKind.i64.wrap ((IntKind.i64.wrap (1 * 2 ^ (min (Int.toNat v25) IntKind.i64.bits))) - 1))).toNat), v25, (IntKind.i64.wrap (v4 + 1)))))) (some (.inr ((⟨(), b1.buf_⟩ : T_strings_Builder), v2, v3)))
noncomputable def impl_Armor (a0 : (List Int)) : Option ByteArray :=
  cond (decide ((a0.length : Int) > 20000)) (some (ByteArray.mk #[])) ((loopO (impl_Armor_l1 a0) ((⟨(), ([] : List Int)⟩ : T_strings_Builder), 0, 0, 0)).bind fun q38 => (match q38 with | (b5, v6, v7) => cond (decide (v7 > 0)) ((nn (IntKind.i64.wrap (5 - v7))).bind fun u8 => (idxS (ByteArray.mk #[48, 49, 50, 51, 52, 53, 54, 55, 56, 57, 97, 98, 99, 100, 101, 102, 103, 104, 105, 106, 107, 108, 109, 110, 111, 112, 113, 114, 115, 116, 117, 118]) (IntKind.i64.wrap (BitVec.ofInt IntKind.i64.bits (IntKind.i64.wrap (v6 * 2 ^ (min (Int.toNat (IntKind.i64.wrap (5 - v7))) IntKind.i64.bits))) &&& BitVec.ofInt IntKind.i64.bits 31).toNat)).bind fun b10 => (strings_Builder_WriteByte b10 (⟨(), b5.buf_⟩ : T_strings_Builder)).bind fun q => (match q with | (r12, o13) => (strings_Builder_String (⟨(), o13.buf_⟩ : T_strings_Builder)).bind fun r15 => some r15)) ((strings_Builder_String (⟨(), b5.buf_⟩ : T_strings_Builder)).bind fun r17 => some r17)))
theorem impl_Armor_p (b0 : Bool) {a0 : (List Int)} {R0 : ByteArray} (H : impl_Armor a0 = some R0) : Pure Go.Proofs.Tryz.prog 84 [.im b0 (a0.map (c_int .u8))] (.str R0) := by
 refine CallT.of_TN (n := 50) Go.Proofs.Tryz.func84 rfl rfl rfl rfl ?_
 refine T.seq (T.region (TL.st rfl rfl rfl (o_assign rfl rfl) (TL.nil (thn_normal (T.seq (T.seq (T.region (TL.st rfl rfl rfl (o_move rfl rfl) (TL.st rfl rfl rfl (o_lenL (f := c_int .u8) rfl rfl rfl) ?_)))))))))
 refine TL.st rfl rfl rfl (o_ari rfl rfl rfl rfl) (TL.nil (thn_normal ?_))
 refine T.cond (decide ((a0.length : Int) > 20000)) rfl (fun h => ?_) (fun h => ?_)
 ·replace H := cond_t h H
  refine T.seq (T.region (TL.st rfl rfl rfl (o_assign rfl rfl) (TL.nil (thn_normal (T.ret (thn_ret ?_))))))
  cases some_i H
  exact ⟨trivial, _, (.tmp _ _ _ _ rfl .nil), (.cl _ rfl)⟩
 ·replace H := cond_f h H
  refine T.skip (thn_normal (T.seq (T.region (TL.st rfl rfl rfl (o_allocB rfl ⟨_, rfl, rfl⟩) ?_))))
  refine TL.nil (thn_normal (T.seq (T.region (TL.st rfl rfl rfl (o_assign rfl rfl) (TL.st rfl rfl rfl (o_assign rfl rfl) (TL.nil (thn_normal (T.seq (T.seq (T.region (TL.st rfl rfl rfl (o_move rfl rfl) (TL.st rfl rfl rfl (o_lenL (f := c_int .u8) rfl rfl rfl) ?_))))))))))))
  refine TL.st rfl rfl rfl (o_move rfl rfl) (TL.nil (thn_normal (T.block (T.conv (Cs.ownCellT (p := 0) 5 1 1 rfl rfl (by decide)) ?_))))
  obtain ⟨q38, h39, H⟩ := bind_s H
  refine T.lq (fun s => match s with | (b1, v2, v3, v4) => [(3, .bx 0 0), (4, .int .i64 v2), (5, .int .i64 v3), (11, .im b0 (a0.map (c_int .u8))), (12, .int .i64 (a0.length : Int)), (13, .int .i64 v4)]) (fun s => match s with | (b1, v2, v3, v4) => [.box [.px 0 121 1 0, .hd 1 (b1.buf_.map (c_int .u8)).length 0 (b1.buf_.map (c_int .u8)).length], .arr (.tg 5) 1 (b1.buf_.map (c_int .u8))]) (fun q ex fr σ => match q with | (b5, v6, v7) => ex = .exit 0 ∧ fr = [(3, .bx 0 0), (4, .int .i64 v6), (5, .int .i64 v7)] ∧ σ = [.box [.px 0 121 1 0, .hd 1 (b5.buf_.map (c_int .u8)).length 0 (b5.buf_.map (c_int .u8)).length], .arr (.tg 5) 1 (b5.buf_.map (c_int .u8))]) h39 ?_ ?_
  ·rintro ⟨b1, v2, v3, v4⟩ y19 H
   refine T.seq (T.region (TL.st rfl rfl rfl (o_ari rfl rfl rfl rfl) (TL.nil (thn_normal (T.seq ?_)))))
   refine T.cond (decide (v4 < (a0.length : Int))) rfl (fun h => ?_) (fun h => ?_)
   ·replace H := cond_t h H
    refine T.skip (thn_normal (T.seq (T.block (T.seq (T.region ?_)))))
    obtain ⟨e20, h21, H⟩ := bind_s H
    refine TL.st rfl rfl rfl (o_ix (f := c_int .u8) rfl rfl tyS_5 rfl rfl h21 rfl) ?_
    refine TL.st rfl rfl rfl (o_loadRf rfl tyS_5 rfl (Nat.le_of_ble_eq_true rfl) rfl) ?_
    refine TL.st rfl rfl rfl (o_assign rfl rfl) (TL.nil (thn_normal (T.seq (T.region (TL.st rfl rfl rfl (o_move rfl rfl) (TL.st rfl rfl rfl (o_shl rfl rfl rfl (by decide)) ?_))))))
    refine TL.st rfl rfl rfl (o_move rfl rfl) (TL.st rfl rfl rfl (o_conv rfl rfl ⟨_, rfl⟩ rfl) ?_)
    refine TL.st rfl rfl rfl (o_bits rfl rfl rfl rfl) ?_
    refine TL.st rfl rfl rfl (o_move rfl rfl) (TL.st rfl rfl rfl (o_ari rfl rfl rfl rfl) (TL.st rfl rfl rfl (o_assign rfl rfl) (TL.st rfl rfl rfl (o_assign rfl rfl) (TL.nil (thn_normal (T.seq (T.block ?_)))))))
    obtain ⟨q36, h37, H⟩ := bind_s H
    refine T.lq (fun s => match s with | (b22, v23) => [(3, .bx 0 0), (4, .int .i64 (IntKind.i64.wrap (BitVec.ofInt IntKind.i64.bits (IntKind.i64.wrap (v2 * 2 ^ (min (Int.toNat 8) IntKind.i64.bits))) ||| BitVec.ofInt IntKind.i64.bits (IntKind.i64.wrap e20)).toNat)), (5, .int .i64 v23), (11, .im b0 (a0.map (c_int .u8))), (12, .int .i64 (a0.length : Int)), (13, .int .i64 v4)]) (fun s => match s with | (b22, v23) => [.box [.px 0 121 1 0, .hd 1 (b22.buf_.map (c_int .u8)).length 0 (b22.buf_.map (c_int .u8)).length], .arr (.tg 5) 1 (b22.buf_.map (c_int .u8))]) (fun q ex fr σ => match q with | (b24, v25) => ex = .exit 2 ∧ fr = [(3, .bx 0 0), (4, .int .i64 (IntKind.i64.wrap (BitVec.ofInt IntKind.i64.bits (IntKind.i64.wrap (v2 * 2 ^ (min (Int.toNat 8) IntKind.i64.bits))) ||| BitVec.ofInt IntKind.i64.bits (IntKind.i64.wrap e20)).toNat)), (5, .int .i64 v25), (11, .im b0 (a0.map (c_int .u8))), (12, .int .i64 (a0.length : Int)), (13, .int .i64 v4)] ∧ σ = [.box [.px 0 121 1 0, .hd 1 (b24.buf_.map (c_int .u8)).length 0 (b24.buf_.map (c_int .u8)).length], .arr (.tg 5) 1 (b24.buf_.map (c_int .u8))]) h37 ?_ ?_
    ·rintro ⟨b22, v23⟩ y28 H
     refine T.seq (T.seq (T.region (TL.st rfl rfl rfl (o_move rfl rfl) (TL.st rfl rfl rfl (o_ari rfl rfl rfl rfl) (TL.nil (thn_normal ?_))))))
     refine T.cond (decide (v23 ≥ 5)) rfl (fun h => ?_) (fun h => ?_)
     ·replace H := cond_t h H
      refine T.skip (thn_normal (T.block (T.seq (T.region (TL.st rfl rfl rfl (o_move rfl rfl) (TL.st rfl rfl rfl (o_ari rfl rfl rfl rfl) (TL.st rfl rfl rfl (o_assign rfl rfl) (TL.nil (thn_normal (T.region (TL.st rfl rfl rfl (o_move rfl rfl) (TL.st rfl rfl rfl (o_move rfl rfl) ?_))))))))))))
      obtain ⟨u29, h30, H⟩ := bind_s H
      refine TL.st rfl rfl rfl (o_shr rfl rfl rfl (nn_s h30)) ?_
      refine TL.st rfl rfl rfl (o_bits rfl rfl rfl rfl) ?_
      obtain ⟨b31, h32, H⟩ := bind_s H
      refine TL.st rfl rfl rfl (o_ixs rfl rfl rfl rfl h32) ?_
      obtain ⟨⟨r33, o34⟩, h35, H⟩ := bind_s H
      refine TL.st rfl rfl rfl (o_callS [0, 1] rfl en_92 rfl rfl (strings_Builder_WriteByte_p  h35) rfl (by decide) (.cons _ _ _ _ rfl (.cons _ _ _ _ rfl .nil)) rfl rfl rfl) ?_
      refine TL.conv (Cs.wkF (M := 3) (.k 3 rfl rfl (.k 4 rfl rfl (.k 5 rfl rfl (.k 11 rfl rfl (.k 12 rfl rfl (.k 13 rfl rfl (.k 24 rfl rfl (.k 25 rfl rfl (.k 26 rfl rfl (.k 27 rfl rfl (.k 28 rfl rfl (.k 29 rfl rfl (.k 30 rfl rfl (.k 31 rfl rfl (.k 32 rfl rfl (.k 33 rfl rfl .nil))))))))))))))))) ?_
      refine TL.conv (Cs.reloc 1 2 rfl rfl (by decide) rfl rfl rfl (nomS_get rfl)) ?_
      refine TL.conv (Cs.wkF (M := 3) (.k 3 rfl rfl (.k 4 rfl rfl (.k 5 rfl rfl (.k 11 rfl rfl (.k 12 rfl rfl (.k 13 rfl rfl (.k 24 rfl rfl (.k 25 rfl rfl (.k 26 rfl rfl (.k 27 rfl rfl (.k 28 rfl rfl (.k 29 rfl rfl (.k 30 rfl rfl (.k 31 rfl rfl (.k 32 rfl rfl (.k 33 rfl rfl .nil))))))))))))))))) ?_
      refine TL.conv (Cs.eqS (σ' := [.box [.px 0 121 1 0, .hd 1 (o34.buf_.map (c_int .u8)).length 0 (o34.buf_.map (c_int .u8)).length], .arr (.tg 5) 1 (o34.buf_.map (c_int .u8)), .dead]) rfl) ?_
      refine TL.nil (inB_normal ?_)
      exact Pk.of (thn_normal ⟨((⟨(), o34.buf_⟩ : T_strings_Builder), (IntKind.i64.wrap (v23 - 5))), (some_i H).symm, rfl, rfl⟩)
     ·replace H := cond_f h H
      refine T.exit (thn_exit ?_)
      exact Pk.of (thn_exit ⟨((⟨(), b22.buf_⟩ : T_strings_Builder), v23), (some_i H).symm, rfl, rfl, rfl⟩)
    ·rcases q36 with ⟨b24, v25⟩
     rintro _ _ _ ⟨rfl, rfl, rfl⟩
     refine inB_here (thn_normal (T.region (TL.st rfl rfl rfl (o_move rfl rfl) (TL.st rfl rfl rfl (o_move rfl rfl) ?_))))
     obtain ⟨u26, h27, H⟩ := bind_s H
     refine TL.st rfl rfl rfl (o_shl rfl rfl rfl (nn_s h27)) ?_
     refine TL.st rfl rfl rfl (o_ari rfl rfl rfl rfl) (TL.st rfl rfl rfl (o_bits rfl rfl rfl rfl) ?_)
     refine TL.st rfl rfl rfl (o_assign rfl rfl) (TL.nil (inB_normal (thn_normal (T.region (TL.st rfl rfl rfl (o_ari rfl rfl rfl rfl) (TL.st rfl rfl rfl (o_move rfl rfl) (TL.nil ?_)))))))
     exact Pk.of (thn_normal ⟨((⟨(), b24.buf_⟩ : T_strings_Builder), (IntKind.i64.wrap (BitVec.ofInt IntKind.i64.bits (IntKind.i64.wrap (BitVec.ofInt IntKind.i64.bits (IntKind.i64.wrap (v2 * 2 ^ (min (Int.toNat 8) IntKind.i64.bits))) ||| BitVec.ofInt IntKind.i64.bits (IntKind.i64.wrap e20)).toNat) &&& BitVec.ofInt IntKind.i64.bits (IntKind.i64.wrap ((IntKind.i64.wrap (1 * 2 ^ (min (Int.toNat v25) IntKind.i64.bits))) - 1))).toNat), v25, (IntKind.i64.wrap (v4 + 1))), (some_i H).symm, rfl, rfl⟩)
   ·replace H := cond_f h H
    refine T.exit (thn_exit ?_)
    exact Pk.of (thn_exit ⟨((⟨(), b1.buf_⟩ : T_strings_Builder), v2, v3), (some_i H).symm, rfl, rfl, rfl⟩)
  ·rcases q38 with ⟨b5, v6, v7⟩
   rintro _ _ _ ⟨rfl, rfl, rfl⟩
   refine inB_here (thn_normal (T.seq (T.seq (T.region (TL.st rfl rfl rfl (o_move rfl rfl) (TL.st rfl rfl rfl (o_ari rfl rfl rfl rfl) (TL.nil (thn_normal ?_))))))))
   refine T.cond (decide (v7 > 0)) rfl (fun h => ?_) (fun h => ?_)
   ·replace H := cond_t h H
    refine T.region (TL.st rfl rfl rfl (o_move rfl rfl) (TL.st rfl rfl rfl (o_move rfl rfl) (TL.st rfl rfl rfl (o_ari rfl rfl rfl rfl) ?_)))
    obtain ⟨u8, h9, H⟩ := bind_s H
    refine TL.st rfl rfl rfl (o_shl rfl rfl rfl (nn_s h9)) ?_
    refine TL.st rfl rfl rfl (o_bits rfl rfl rfl rfl) ?_
    obtain ⟨b10, h11, H⟩ := bind_s H
    refine TL.st rfl rfl rfl (o_ixs rfl rfl rfl rfl h11) ?_
    obtain ⟨⟨r12, o13⟩, h14, H⟩ := bind_s H
    refine TL.st rfl rfl rfl (o_callS [0, 1] rfl en_92 rfl rfl (strings_Builder_WriteByte_p  h14) rfl (by decide) (.cons _ _ _ _ rfl (.cons _ _ _ _ rfl .nil)) rfl rfl rfl) ?_
    refine TL.conv (Cs.wkF (M := 3) (.k 3 rfl rfl (.k 4 rfl rfl (.k 5 rfl rfl (.k 40 rfl rfl (.k 41 rfl rfl (.k 42 rfl rfl (.k 43 rfl rfl (.k 44 rfl rfl (.k 45 rfl rfl (.k 46 rfl rfl (.k 47 rfl rfl (.k 48 rfl rfl .nil))))))))))))) ?_
    refine TL.conv (Cs.reloc 1 2 rfl rfl (by decide) rfl rfl rfl (nomS_get rfl)) ?_
    refine TL.conv (Cs.wkF (M := 3) (.k 3 rfl rfl (.k 4 rfl rfl (.k 5 rfl rfl (.k 40 rfl rfl (.k 41 rfl rfl (.k 42 rfl rfl (.k 43 rfl rfl (.k 44 rfl rfl (.k 45 rfl rfl (.k 46 rfl rfl (.k 47 rfl rfl (.k 48 rfl rfl .nil))))))))))))) ?_
    refine TL.conv (Cs.eqS (σ' := [.box [.px 0 121 1 0, .hd 1 (o13.buf_.map (c_int .u8)).length 0 (o13.buf_.map (c_int .u8)).length], .arr (.tg 5) 1 (o13.buf_.map (c_int .u8)), .dead]) rfl) ?_
    refine TL.nil (thn_normal (T.seq (T.region ?_)))
    obtain ⟨r15, h16, H⟩ := bind_s H
    refine TL.st rfl rfl rfl (o_callS [0, 1] rfl en_93 rfl rfl (strings_Builder_String_p  h16) rfl (by decide) (.cons _ _ _ _ rfl (.cons _ _ _ _ rfl .nil)) rfl rfl rfl) ?_
    refine TL.st rfl rfl rfl (o_assign rfl rfl) (TL.nil (thn_normal (T.ret ?_)))
    cases some_i H
    exact ⟨trivial, _, (.tmp _ _ _ _ rfl .nil), (.cl _ rfl)⟩
   ·replace H := cond_f h H
    refine T.skip (thn_normal (T.seq (T.region ?_)))
    obtain ⟨r17, h18, H⟩ := bind_s H
    refine TL.st rfl rfl rfl (o_callS [0, 1] rfl en_93 rfl rfl (strings_Builder_String_p  h18) rfl (by decide) (.cons _ _ _ _ rfl (.cons _ _ _ _ rfl .nil)) rfl rfl rfl) ?_
    refine TL.st rfl rfl rfl (o_assign rfl rfl) (TL.nil (thn_normal (T.ret ?_)))
    cases some_i H
    exact ⟨trivial, _, (.tmp _ _ _ _ rfl .nil), (.cl _ rfl)⟩
theorem en_84 (us : Array Value) (w : World) : (callFunc 84 us).run Go.Proofs.Tryz.prog w = .ok (.enter 84 us) w := enters Go.Proofs.Tryz.func84 rfl rfl us w
noncomputable def impl_HandleOf (a0 : (List Int)) (a1 : ByteArray) (a2 : Int) : Option ByteArray :=
  (gdO (!(decide ((a0.length : Int) > 64))) (impl_GoodName a1)).bind fun r1 => cond (((decide ((a0.length : Int) > 64) || (!r1)) || decide (a2 < 1)) || decide (a2 > 1000000)) (some (ByteArray.mk #[])) ((itoaO a2).bind fun r3 => (cat a1 r3).bind fun s5 => (cat s5 (ByteArray.mk #[45])).bind fun s7 => (impl_Mac a0 (bys s5)).bind fun r9 => (sub r9 0 10).bind fun l11 => (impl_Armor l11).bind fun r13 => (cat s7 r13).bind fun s15 => some s15)
theorem impl_HandleOf_p (b0 : Bool) {a0 : (List Int)} {a1 : ByteArray} {a2 : Int} {R0 : ByteArray} (H : impl_HandleOf a0 a1 a2 = some R0) : Pure Go.Proofs.Tryz.prog 90 [.im b0 (a0.map (c_int .u8)), .str a1, .int .i64 a2] (.str R0) := by
 refine CallT.of_TN (n := 37) Go.Proofs.Tryz.func90 rfl rfl rfl rfl ?_
 refine T.seq (T.region (TL.st rfl rfl rfl (o_assign rfl rfl) (TL.nil (thn_normal (T.seq (T.seq (T.region (TL.st rfl rfl rfl (o_move rfl rfl) (TL.st rfl rfl rfl (o_lenL (f := c_int .u8) rfl rfl rfl) ?_)))))))))
 refine TL.st rfl rfl rfl (o_ari rfl rfl rfl rfl) (TL.st rfl rfl rfl (o_move rfl rfl) (TL.gcq rfl rfl rfl (.bool _) rfl rfl (fun h => o_move rfl rfl) ?_))
 obtain ⟨r1, h2, H⟩ := bind_s H
 refine TL.gcq rfl rfl rfl (.bool _) rfl rfl (fun h => o_callP rfl en_80 rfl (evl_1 (gv h rfl)) (.cons _ _ _ _ (.cl _ rfl) .nil) (impl_GoodName_p  (gdO_t h2 h))) ?_
 refine TL.gcq rfl rfl rfl (.bool _) rfl rfl (fun h => o_not rfl (gv h rfl)) ?_
 refine TL.st rfl rfl rfl (o_or rfl rfl rfl rfl (fun k => Gd_t k)) (TL.st rfl rfl rfl (o_move rfl rfl) (TL.gcq rfl rfl rfl (.bool _) rfl rfl (fun h => o_move rfl rfl) (TL.gcq rfl rfl rfl (.bool _) rfl rfl (fun h => o_ari rfl (gv h rfl) rfl rfl) ?_)))
 refine TL.st rfl rfl rfl (o_or rfl rfl rfl rfl (fun k => Gd_t k)) (TL.st rfl rfl rfl (o_move rfl rfl) (TL.gcq rfl rfl rfl (.bool _) rfl rfl (fun h => o_move rfl rfl) (TL.gcq rfl rfl rfl (.bool _) rfl rfl (fun h => o_ari rfl (gv h rfl) rfl rfl) ?_)))
 refine TL.st rfl rfl rfl (o_or rfl rfl rfl rfl (fun k => Gd_t k)) (TL.nil (thn_normal ?_))
 refine T.cond ((((decide ((a0.length : Int) > 64) || (!r1)) || decide (a2 < 1)) || decide (a2 > 1000000))) rfl (fun h => ?_) (fun h => ?_)
 ·replace H := cond_t h H
  refine T.seq (T.region (TL.st rfl rfl rfl (o_assign rfl rfl) (TL.nil (thn_normal (T.ret (thn_ret ?_))))))
  cases some_i H
  exact ⟨trivial, _, (.tmp _ _ _ _ rfl .nil), (.cl _ rfl)⟩
 ·replace H := cond_f h H
  refine T.skip (thn_normal (T.seq (T.region (TL.st rfl rfl rfl (o_move rfl rfl) (TL.st rfl rfl rfl (o_move rfl rfl) ?_)))))
  obtain ⟨r3, h4, H⟩ := bind_s H
  refine TL.st rfl rfl rfl (o_callP rfl en_71 rfl rfl (.cons _ _ _ _ (.cl _ rfl) .nil) (BD.lib_71  h4)) ?_
  obtain ⟨s5, h6, H⟩ := bind_s H
  refine TL.st rfl rfl rfl (o_ct rfl rfl rfl h6) ?_
  refine TL.st rfl rfl rfl (o_assign rfl rfl) (TL.nil (thn_normal (T.seq (T.region (TL.st rfl rfl rfl (o_move rfl rfl) ?_)))))
  obtain ⟨s7, h8, H⟩ := bind_s H
  refine TL.st rfl rfl rfl (o_ct rfl rfl rfl h8) ?_
  refine TL.st rfl rfl rfl (o_move rfl rfl) (TL.st rfl rfl rfl (o_move rfl rfl) (TL.st rfl rfl rfl (o_sb (f := c_int .u8) rfl rfl rfl rfl (fun _ => rfl) rfl) ?_))
  obtain ⟨r9, h10, H⟩ := bind_s H
  refine TL.st rfl rfl rfl (o_callP rfl en_94 rfl rfl (.cons _ _ _ _ (.imv _ _) (.cons _ _ _ _ (.cl _ rfl) .nil)) (impl_Mac_p b0 false h10)) ?_
  obtain ⟨l11, h12, H⟩ := bind_s H
  refine TL.st rfl rfl rfl (o_subL (f := c_int .u8) (xs := r9) rfl rfl tyS_5 rfl rfl rfl (fun _ => rfl) h12) ?_
  obtain ⟨r13, h14, H⟩ := bind_s H
  refine TL.st rfl rfl rfl (o_callP rfl en_84 rfl rfl (.cons _ _ _ _ (.cl _ rfl) .nil) (impl_Armor_p false h14)) ?_
  obtain ⟨s15, h16, H⟩ := bind_s H
  refine TL.st rfl rfl rfl (o_ct rfl rfl rfl h16) ?_
  refine TL.st rfl rfl rfl (o_assign rfl rfl) (TL.nil (thn_normal (T.ret ?_)))
  cases some_i H
  exact ⟨trivial, _, (.tmp _ _ _ _ rfl .nil), (.cl _ rfl)⟩
theorem en_90 (us : Array Value) (w : World) : (callFunc 90 us).run Go.Proofs.Tryz.prog w = .ok (.enter 90 us) w := enters Go.Proofs.Tryz.func90 rfl rfl us w
noncomputable def slices_Clone (a0 : (List ByteArray)) : Option (List ByteArray) :=
  (app ([] : List ByteArray) a0).bind fun l2 => some l2
theorem slices_Clone_p (b0 : Bool) {a0 : (List ByteArray)} {R0 : (List ByteArray)} (H : slices_Clone a0 = some R0) : Pure Go.Proofs.Tryz.prog 69 [.im b0 (a0.map (c_str))] (.im false (R0.map (c_str))) := by
 refine CallT.of_TN (n := 8) Go.Proofs.Tryz.func69 rfl rfl rfl rfl ?_
 refine T.seq (T.region (TL.st rfl rfl rfl (o_assign rfl rfl) (TL.nil (thn_normal (T.seq (T.seq (T.region (TL.st rfl rfl rfl (o_move rfl rfl) (TL.sq _ rfl rfl rfl (o_isNilQ rfl ⟨_, rfl⟩ rfl) ?_)))))))))
 rintro _ _ ⟨⟨nb1, rfl, hnb1⟩, rfl⟩
 refine TL.nil (thn_normal ?_)
 refine T.cond (nb1) rfl (fun h => ?_) (fun h => ?_)
 ·have hx := List.map_eq_nil_iff.1 (hnb1 h)
  replace H : (some ([] : List ByteArray)) = some R0 := by
   rw [hx] at H; simpa [app, slices_Clone] using H
  refine T.seq (T.region (TL.st rfl rfl rfl (o_assign rfl rfl) (TL.nil (thn_normal (T.ret (thn_ret ?_))))))
  cases some_i H
  exact ⟨trivial, _, (.tmp _ _ _ _ rfl .nil), .nil⟩
 ·refine T.skip (thn_normal (T.seq (T.region (TL.st rfl rfl rfl (o_sliceHd (rows := ([] : List ByteArray).map (c_str)) .clo rfl rfl tyS_9 ⟨_, rfl, rfl⟩ (by decide) rfl rfl rfl rfl (by decide) (fun _ => rfl) (by decide) rfl (by decide)) ?_))))
  refine TL.st rfl rfl rfl (o_move rfl rfl) ?_
  obtain ⟨l2, h3, H⟩ := bind_s H
  refine TL.st rfl rfl rfl (o_ap (f := c_str) (xs := ([] : List ByteArray)) (ys := a0) rfl rfl tyE_9 rfl rfl rfl rfl (by decide) rfl (fun _ => rfl) h3) ?_
  refine TL.st rfl rfl rfl (o_assign rfl rfl) (TL.nil (thn_normal (T.ret ?_)))
  cases some_i H
  exact ⟨trivial, _, (.tmp _ _ _ _ rfl .nil), (.own rfl (by decide) rfl)⟩
theorem en_69 (us : Array Value) (w : World) : (callFunc 69 us).run Go.Proofs.Tryz.prog w = .ok (.enter 69 us) w := enters Go.Proofs.Tryz.func69 rfl rfl us w
theorem tyS_101 : TyS Go.Proofs.Tryz.prog 101 false 1 := ⟨rfl, rfl⟩
theorem tyE_101 : TyE Go.Proofs.Tryz.prog 101 1 := ⟨_, _, rfl, rfl, rfl, rfl, by decide, by decide⟩
noncomputable def impl_yserver_give (a0 : T_impl_yheld) (s0 : T_impl_yserver) (s2 : List T_impl_yheld) : Option (Int × T_impl_yserver × List T_impl_yheld) :=
  (idx (s2 ++ [a0]) (s2.length : Int)).bind fun w1 => (impl_HandleOf s0.s_.Key_ w1.kind_ (IntKind.i64.wrap ((s0.held_.length : Int) + 1))).bind fun r3 => (idx ((s2 ++ [a0]).set (Int.toNat (s2.length : Int)) ({ w1 with handle_ := r3 } : T_impl_yheld)) (s2.length : Int)).bind fun w5 => (slices_Clone w5.scopes_).bind fun r7 => (app s0.held_ ([(s2.length : Int)] : List Int)).bind fun l9 => some ((s2.length : Int), ({ s0 with held_ := l9 } : T_impl_yserver), (((s2 ++ [a0]).set (Int.toNat (s2.length : Int)) ({ w1 with handle_ := r3 } : T_impl_yheld)).set (Int.toNat (s2.length : Int)) ({ w5 with scopes_ := r7 } : T_impl_yheld)))
theorem impl_yserver_give_p (_u0 : Bool) (_u1 : Bool) {a0 : T_impl_yheld} {s0 : T_impl_yserver} {s2 : List T_impl_yheld} {R0 : Int} {U0 : T_impl_yserver} {U2 : List T_impl_yheld} (H : impl_yserver_give a0 s0 s2 = some (R0, U0, U2)) : St Go.Proofs.Tryz.prog 81 [.bx 0 0, .agg (c_T_impl_yheld 2 false a0)] [.box (k_impl_yserver 1 3 2 false s0), .arr .raw 1 (s0.held_.map (c_px 2)), .fam (s2.map (c_T_impl_yheld 2 false)), mpO (V.int .i64) (V.bool) s0.ended_] (.px 2 0 R0 0) [.box (k_impl_yserver 1 3 2 false (⟨U0.s_, U0.now_, U0.held_, default, U0.grants_⟩ : T_impl_yserver)), .arr .raw 1 (U0.held_.map (c_px 2)), .fam (U2.map (c_T_impl_yheld 2 false)), mpO (V.int .i64) (V.bool) U0.ended_] := by
 refine CallT.finR (CallT.of_TN (n := 33) Go.Proofs.Tryz.func81 rfl rfl rfl rfl ?_) rfl rfl ⟨(bels_iff.1 rfl), ⟨(belRaw fun _ => rfl), ⟨(belFam fun _ => rfl), ⟨(belMap fun _ => rfl), trivial⟩⟩⟩⟩
 refine T.seq (T.region (TL.st rfl rfl rfl (o_boxP (p := 2) (f := c_T_impl_yheld 2 false) (xs := s2) a0 rfl rfl rfl (.same _ _ _ (.same _ _ _ (.same _ _ _ (.same _ _ _ (.same _ _ _ (.same _ _ _ (.same _ _ _ (.same _ _ _ (.same _ _ _ (.same _ _ _ (.same _ _ _ (.same _ _ _ (.same _ _ _ (.same _ _ _ (.same _ _ _ (.same _ _ _ (.same _ _ _ .nil))))))))))))))))) rfl) ?_))
 refine TL.st rfl rfl rfl (Does.nilPx (p := 2) rfl (o_assign rfl rfl)) ?_
 refine TL.nil (thn_normal (T.seq (T.drawn rfl ?_)))
 refine TD.qs rfl rfl (fun _ => o_move rfl rfl) (TD.qs rfl rfl (fun _ => o_nilCheck rfl rfl rfl) (TD.rs rfl rfl (o_fieldAddr rfl rfl rfl tyS_25 (by decide) rfl rfl ⟨_, rfl, Nat.le_of_ble_eq_true rfl⟩) ?_))
 refine TD.rs rfl rfl (o_fieldAddr rfl rfl rfl tyS_22 (by decide) rfl rfl ⟨_, rfl, Nat.le_of_ble_eq_true rfl⟩) ?_
 refine TD.rs rfl rfl (o_loadBx rfl tyS_22 rfl rfl (Nat.le_of_ble_eq_true rfl) rfl) ?_
 obtain ⟨w1, h2, H⟩ := bind_s H
 refine TD.rs rfl rfl (o_fieldAddrP (a := w1) rfl rfl rfl tyS_9 (by decide) rfl rfl h2) ?_
 refine TD.rs rfl rfl (o_loadP (a := w1) rfl tyS_9 rfl rfl h2 (Nat.le_of_ble_eq_true rfl) rfl) ?_
 refine TD.qs rfl rfl (fun _ => o_move rfl rfl) (TD.qs rfl rfl (fun _ => o_nilCheck rfl rfl rfl) (TD.rs rfl rfl (o_fieldAddr rfl rfl rfl tyS_78 (by decide) rfl rfl ⟨_, rfl, Nat.le_of_ble_eq_true rfl⟩) ?_))
 refine TD.rs rfl rfl (o_loadBx rfl tyS_78 rfl rfl (Nat.le_of_ble_eq_true rfl) rfl) ?_
 refine TD.rs rfl rfl (o_lenOwn (f := c_px 2) rfl rfl rfl rfl (List.length_map ..)) ?_
 refine TD.qs rfl rfl (fun _ => o_ari rfl rfl rfl rfl) ?_
 obtain ⟨r3, h4, H⟩ := bind_s H
 refine TD.qs rfl rfl (fun _ => o_callP rfl en_90 rfl rfl (.cons _ _ _ _ (.cl _ rfl) (.cons _ _ _ _ (.cl _ rfl) (.cons _ _ _ _ (.cl _ rfl) .nil))) (impl_HandleOf_p false h4)) ?_
 refine TD.rs rfl rfl (o_fieldAddrP (a := w1) rfl rfl rfl tyS_9 (by decide) rfl rfl h2) ?_
 refine TD.an rfl rfl (o_storeP (a := w1) (a' := ({ w1 with handle_ := r3 } : T_impl_yheld)) rfl tyS_9 rfl rfl rfl h2 rfl (Nat.le_of_ble_eq_true rfl) rfl rfl) ?_
 refine TD.nil ⟨rfl, ?_⟩
 refine thn_normal (T.seq (T.region ?_))
 obtain ⟨w5, h6, H⟩ := bind_s H
 refine TL.st rfl rfl rfl (o_fieldAddrP (a := w5) rfl rfl rfl tyS_30 (by decide) rfl rfl h6) ?_
 refine TL.st rfl rfl rfl (o_loadP (a := w5) rfl tyS_30 rfl rfl h6 (Nat.le_of_ble_eq_true rfl) rfl) ?_
 obtain ⟨r7, h8, H⟩ := bind_s H
 refine TL.st rfl rfl rfl (o_callP rfl en_69 rfl rfl (.cons _ _ _ _ (.cl _ rfl) .nil) (slices_Clone_p false h8)) ?_
 refine TL.st rfl rfl rfl (o_fieldAddrP (a := w5) rfl rfl rfl tyS_30 (by decide) rfl rfl h6) ?_
 refine TL.sn rfl rfl (o_storeP (a := w5) (a' := ({ w5 with scopes_ := r7 } : T_impl_yheld)) rfl tyS_30 rfl rfl rfl h6 rfl (Nat.le_of_ble_eq_true rfl) rfl rfl) ?_
 refine TL.nil (thn_normal (T.seq (T.conv (Cs.eqS (σ' := [.box (k_impl_yserver 1 3 2 false s0), .arr .raw 1 (s0.held_.map (c_px 2)), .fam ((((s2 ++ [a0]).set (Int.toNat (s2.length : Int)) ({ w1 with handle_ := r3 } : T_impl_yheld)).set (Int.toNat (s2.length : Int)) ({ w5 with scopes_ := r7 } : T_impl_yheld)).map (c_T_impl_yheld 2 false)), mpO (V.int .i64) (V.bool) s0.ended_]) rfl) ?_)))
 refine T.region (TL.st rfl rfl rfl (o_move rfl rfl) (TL.st rfl rfl rfl (o_move rfl rfl) (TL.st rfl rfl rfl (o_nilCheck rfl rfl rfl) (TL.st rfl rfl rfl (o_fieldAddr rfl rfl rfl tyS_78 (by decide) rfl rfl ⟨_, rfl, Nat.le_of_ble_eq_true rfl⟩) ?_))))
 refine TL.st rfl rfl rfl (o_loadBx rfl tyS_78 rfl rfl (Nat.le_of_ble_eq_true rfl) rfl) ?_
 refine TL.st rfl rfl rfl (o_sliceHd .raw rfl rfl tyS_101 ⟨_, rfl, rfl⟩ (by decide) rfl rfl rfl rfl rfl (fun h => absurd rfl h) (by decide) rfl (by decide)) ?_
 obtain ⟨l9, h10, H⟩ := bind_s H
 refine TL.st rfl rfl rfl (o_apR rfl rfl tyE_101 rfl rfl rfl rfl h10) ?_
 refine TL.st rfl rfl rfl (o_nilCheck rfl rfl rfl) (TL.st rfl rfl rfl (o_fieldAddr rfl rfl rfl tyS_78 (by decide) rfl rfl ⟨_, rfl, Nat.le_of_ble_eq_true rfl⟩) ?_)
 refine TL.sn rfl rfl (o_storeBx rfl tyS_78 rfl rfl rfl rfl (Nat.le_of_ble_eq_true rfl) (sure_hd rfl (List.length_map ..) rfl)) ?_
 refine TL.nil (thn_normal (T.seq (T.conv (Cs.eqS (σ' := [.box (k_impl_yserver 1 3 2 false ({ s0 with held_ := l9 } : T_impl_yserver)), .arr .raw 1 (l9.map (c_px 2)), .fam ((((s2 ++ [a0]).set (Int.toNat (s2.length : Int)) ({ w1 with handle_ := r3 } : T_impl_yheld)).set (Int.toNat (s2.length : Int)) ({ w5 with scopes_ := r7 } : T_impl_yheld)).map (c_T_impl_yheld 2 false)), mpO (V.int .i64) (V.bool) s0.ended_, .arr .raw 1 (([(s2.length : Int)] : List Int).map (c_px 2))]) rfl) ?_)))
 refine T.region (TL.st rfl rfl rfl (o_assign rfl rfl) (TL.nil (thn_normal (T.ret ?_))))
 cases some_i H
 exact ⟨trivial, _, (.tmp _ _ _ _ rfl .nil), ⟨rfl, _, rfl⟩⟩
theorem en_81 (us : Array Value) (w : World) : (callFunc 81 us).run Go.Proofs.Tryz.prog w = .ok (.enter 81 us) w := enters Go.Proofs.Tryz.func81 rfl rfl us w
noncomputable def impl_yserver_authorize (a0 : T_impl_Client) (a1 : T_impl_GrantAsk) (s0 : T_impl_yserver) (s2 : List T_impl_yheld) : Option (T_impl_GrantReply × T_impl_yserver × List T_impl_yheld) :=
  (slices_Containsx a0.Redirects_ a1.Redirect_).bind fun r1 => cond (!r1) (some ((⟨2, (ByteArray.mk #[]), (ByteArray.mk #[]), (ByteArray.mk #[]), ([] : List ByteArray), (ByteArray.mk #[]), (ByteArray.mk #[]), false⟩ : T_impl_GrantReply), s0, s2)) ((slices_Contains a0.Kinds_ 1).bind fun r3 => cond (!r3) (some ((⟨3, (ByteArray.mk #[]), (ByteArray.mk #[]), (ByteArray.mk #[]), ([] : List ByteArray), (ByteArray.mk #[]), (ByteArray.mk #[]), false⟩ : T_impl_GrantReply), s0, s2)) ((gdO (!((a1.Scopes_.length : Int) == 0)) (impl_yamong a1.Scopes_ a0.Scopes_)).bind fun r5 => cond (((a1.Scopes_.length : Int) == 0) || (!r5)) (some ((⟨4, (ByteArray.mk #[]), (ByteArray.mk #[]), (ByteArray.mk #[]), ([] : List ByteArray), (ByteArray.mk #[]), (ByteArray.mk #[]), false⟩ : T_impl_GrantReply), s0, s2)) (cond (a1.Challenge_.toList == (ByteArray.mk #[]).toList) (some ((⟨5, (ByteArray.mk #[]), (ByteArray.mk #[]), (ByteArray.mk #[]), ([] : List ByteArray), (ByteArray.mk #[]), (ByteArray.mk #[]), false⟩ : T_impl_GrantReply), s0, s2)) ((impl_GoodName a1.User_).bind fun r7 => cond (!r7) (some ((⟨6, (ByteArray.mk #[]), (ByteArray.mk #[]), (ByteArray.mk #[]), ([] : List ByteArray), (ByteArray.mk #[]), (ByteArray.mk #[]), false⟩ : T_impl_GrantReply), s0, s2)) ((impl_yserver_give (⟨(ByteArray.mk #[99, 111, 100, 101]), (ByteArray.mk #[]), (IntKind.i64.wrap (s0.grants_ + 1)), a0.Id_, a1.User_, a1.Scopes_, (ByteArray.mk #[]), a1.Redirect_, a1.Challenge_, (IntKind.i64.wrap (s0.now_ + s0.s_.Short_)), false, false, false, false, false, 0, (-1)⟩ : T_impl_yheld) ({ s0 with grants_ := (IntKind.i64.wrap (s0.grants_ + 1)) } : T_impl_yserver) s2).bind fun q => (match q with | (r9, o10, o11) => (idx o11 r9).bind fun w13 => some ((⟨0, w13.handle_, (ByteArray.mk #[]), (ByteArray.mk #[]), ([] : List ByteArray), (ByteArray.mk #[]), (ByteArray.mk #[]), false⟩ : T_impl_GrantReply), o10, o11)))))))
theorem impl_yserver_authorize_p (_u0 : Bool) (_u1 : Bool) (_u2 : Bool) {a0 : T_impl_Client} {a1 : T_impl_GrantAsk} {s0 : T_impl_yserver} {s2 : List T_impl_yheld} {R0 : T_impl_GrantReply} {U0 : T_impl_yserver} {U2 : List T_impl_yheld} (H : impl_yserver_authorize a0 a1 s0 s2 = some (R0, U0, U2)) : St Go.Proofs.Tryz.prog 60 [.bx 0 0, .agg (c_T_impl_Client false a0), .agg (c_T_impl_GrantAsk false a1)] [.box (k_impl_yserver 1 3 2 false s0), .arr .raw 1 (s0.held_.map (c_px 2)), .fam (s2.map (c_T_impl_yheld 2 false)), mpO (V.int .i64) (V.bool) s0.ended_] (.agg (c_T_impl_GrantReply false R0)) [.box (k_impl_yserver 1 3 2 false (⟨U0.s_, U0.now_, U0.held_, default, U0.grants_⟩ : T_impl_yserver)), .arr .raw 1 (U0.held_.map (c_px 2)), .fam (U2.map (c_T_impl_yheld 2 false)), mpO (V.int .i64) (V.bool) U0.ended_] := by
 refine CallT.fin (CallT.of_TN (n := 86) Go.Proofs.Tryz.func60 rfl rfl rfl rfl ?_) rfl rfl ⟨(bels_iff.1 rfl), ⟨(belRaw fun _ => rfl), ⟨(belFam fun _ => rfl), ⟨(belMap fun _ => rfl), trivial⟩⟩⟩⟩
 refine T.seq (T.region (TL.st rfl rfl rfl (o_box rfl rfl rfl) (TL.st rfl rfl rfl (o_box rfl rfl rfl) (TL.st rfl rfl rfl (o_alloc rfl ⟨_, rfl, rfl⟩) (TL.nil (thn_normal (T.seq (T.conv (Cs.eqS (σ' := [.box (k_impl_yserver 1 3 2 false s0), .arr .raw 1 (s0.held_.map (c_px 2)), .fam (s2.map (c_T_impl_yheld 2 false)), mpO (V.int .i64) (V.bool) s0.ended_, .box (c_T_impl_Client false a0), .box (c_T_impl_GrantAsk false a1), .box [.int .i64 0, .str (ByteArray.mk #[]), .str (ByteArray.mk #[]), .str (ByteArray.mk #[]), .nilS, .str (ByteArray.mk #[]), .str (ByteArray.mk #[]), .bool false]]) rfl) ?_))))))))
 refine T.block (T.seq (T.region (TL.st rfl rfl rfl (o_fieldAddr rfl rfl rfl tyS_30 (by decide) rfl rfl ⟨_, rfl, Nat.le_of_ble_eq_true rfl⟩) ?_)))
 refine TL.st rfl rfl rfl (o_loadBx rfl tyS_30 rfl rfl (Nat.le_of_ble_eq_true rfl) rfl) ?_
 refine TL.st rfl rfl rfl (o_fieldAddr rfl rfl rfl tyS_9 (by decide) rfl rfl ⟨_, rfl, Nat.le_of_ble_eq_true rfl⟩) ?_
 refine TL.st rfl rfl rfl (o_loadBx rfl tyS_9 rfl rfl (Nat.le_of_ble_eq_true rfl) rfl) ?_
 obtain ⟨r1, h2, H⟩ := bind_s H
 refine TL.st rfl rfl rfl (o_callP rfl en_73 rfl rfl (.cons _ _ _ _ (.cl _ rfl) (.cons _ _ _ _ (.cl _ rfl) .nil)) (slices_Containsx_p false h2)) ?_
 refine TL.st rfl rfl rfl (o_not rfl rfl) ?_
 refine TL.st rfl rfl rfl (o_assign rfl rfl) (TL.nil (thn_normal ?_))
 refine T.cond ((!r1)) rfl (fun h => ?_) (fun h => ?_)
 ·replace H := cond_t h H
  refine T.seq (T.region (TL.st rfl rfl rfl (o_build rfl ⟨_, fun _ => rfl, rfl⟩ rfl rfl rfl) ?_))
  refine TL.sn rfl rfl (o_storeBx rfl tyS_84 rfl rfl rfl rfl (Nat.le_of_ble_eq_true rfl) rfl) ?_
  refine TL.nil (thn_normal (T.conv (Cs.nilCell (q := 6) 4 rfl rfl) ?_))
  refine T.ret (inB_ret (thn_ret ?_))
  cases some_i H
  exact ⟨trivial, _, (.cell _ _ _ _ _ _ _ _ _ _ rfl rfl tyS_84 (Nat.le_of_ble_eq_true rfl) rfl .nil), ⟨rfl, _, rfl⟩⟩
 ·replace H := cond_f h H
  refine T.seq (T.region (TL.st rfl rfl rfl (o_fieldAddr rfl rfl rfl tyS_29 (by decide) rfl rfl ⟨_, rfl, Nat.le_of_ble_eq_true rfl⟩) ?_))
  refine TL.st rfl rfl rfl (o_loadBx rfl tyS_29 rfl rfl (Nat.le_of_ble_eq_true rfl) rfl) ?_
  obtain ⟨r3, h4, H⟩ := bind_s H
  refine TL.st rfl rfl rfl (o_callP rfl en_32 rfl rfl (.cons _ _ _ _ (.cl _ rfl) (.cons _ _ _ _ (.cl _ rfl) .nil)) (slices_Contains_p false h4)) ?_
  refine TL.st rfl rfl rfl (o_not rfl rfl) ?_
  refine TL.st rfl rfl rfl (o_assign rfl rfl) (TL.nil (thn_normal ?_))
  refine T.cond ((!r3)) rfl (fun h => ?_) (fun h => ?_)
  ·replace H := cond_t h H
   refine T.seq (T.region (TL.st rfl rfl rfl (o_build rfl ⟨_, fun _ => rfl, rfl⟩ rfl rfl rfl) ?_))
   refine TL.sn rfl rfl (o_storeBx rfl tyS_84 rfl rfl rfl rfl (Nat.le_of_ble_eq_true rfl) rfl) ?_
   refine TL.nil (thn_normal (T.conv (Cs.nilCell (q := 6) 4 rfl rfl) ?_))
   refine T.ret (inB_ret (thn_ret ?_))
   cases some_i H
   exact ⟨trivial, _, (.cell _ _ _ _ _ _ _ _ _ _ rfl rfl tyS_84 (Nat.le_of_ble_eq_true rfl) rfl .nil), ⟨rfl, _, rfl⟩⟩
  ·replace H := cond_f h H
   refine T.seq (T.region (TL.st rfl rfl rfl (o_fieldAddr rfl rfl rfl tyS_30 (by decide) rfl rfl ⟨_, rfl, Nat.le_of_ble_eq_true rfl⟩) ?_))
   refine TL.st rfl rfl rfl (o_loadBx rfl tyS_30 rfl rfl (Nat.le_of_ble_eq_true rfl) rfl) ?_
   refine TL.st rfl rfl rfl (o_lenL (f := c_str) rfl rfl rfl) ?_
   refine TL.st rfl rfl rfl (o_ari rfl rfl rfl rfl) (TL.st rfl rfl rfl (o_move rfl rfl) (TL.gcq rfl rfl rfl (.bool _) rfl rfl (fun h => o_fieldAddr rfl rfl rfl tyS_30 (by decide) rfl rfl ⟨_, rfl, Nat.le_of_ble_eq_true rfl⟩) ?_))
   refine TL.gcq rfl rfl rfl (.bool _) rfl rfl (fun h => o_loadBx rfl tyS_30 (gv h rfl) rfl (Nat.le_of_ble_eq_true rfl) rfl) ?_
   refine TL.gcq rfl rfl rfl (.bool _) rfl rfl (fun h => o_fieldAddr rfl rfl rfl tyS_30 (by decide) rfl rfl ⟨_, rfl, Nat.le_of_ble_eq_true rfl⟩) ?_
   refine TL.gcq rfl rfl rfl (.bool _) rfl rfl (fun h => o_loadBx rfl tyS_30 (gv h rfl) rfl (Nat.le_of_ble_eq_true rfl) rfl) ?_
   obtain ⟨r5, h6, H⟩ := bind_s H
   refine TL.gcq rfl rfl rfl (.bool _) rfl rfl (fun h => o_callP rfl en_79 rfl (evl_2 (gv h rfl) (gv h rfl)) (.cons _ _ _ _ (.cl _ rfl) (.cons _ _ _ _ (.cl _ rfl) .nil)) (impl_yamong_p false false (gdO_t h6 h))) ?_
   refine TL.gcq rfl rfl rfl (.bool _) rfl rfl (fun h => o_not rfl (gv h rfl)) ?_
   refine TL.st rfl rfl rfl (o_or rfl rfl rfl rfl (fun k => Gd_t k)) (TL.st rfl rfl rfl (o_assign rfl rfl) (TL.nil (thn_normal ?_)))
   refine T.cond ((((a1.Scopes_.length : Int) == 0) || (!r5))) rfl (fun h => ?_) (fun h => ?_)
   ·replace H := cond_t h H
    refine T.seq (T.region (TL.st rfl rfl rfl (o_build rfl ⟨_, fun _ => rfl, rfl⟩ rfl rfl rfl) ?_))
    refine TL.sn rfl rfl (o_storeBx rfl tyS_84 rfl rfl rfl rfl (Nat.le_of_ble_eq_true rfl) rfl) ?_
    refine TL.nil (thn_normal (T.conv (Cs.nilCell (q := 6) 4 rfl rfl) ?_))
    refine T.ret (inB_ret (thn_ret ?_))
    cases some_i H
    exact ⟨trivial, _, (.cell _ _ _ _ _ _ _ _ _ _ rfl rfl tyS_84 (Nat.le_of_ble_eq_true rfl) rfl .nil), ⟨rfl, _, rfl⟩⟩
   ·replace H := cond_f h H
    refine T.seq (T.region (TL.st rfl rfl rfl (o_fieldAddr rfl rfl rfl tyS_9 (by decide) rfl rfl ⟨_, rfl, Nat.le_of_ble_eq_true rfl⟩) ?_))
    refine TL.st rfl rfl rfl (o_loadBx rfl tyS_9 rfl rfl (Nat.le_of_ble_eq_true rfl) rfl) ?_
    refine TL.st rfl rfl rfl (o_str rfl rfl rfl rfl) ?_
    refine TL.st rfl rfl rfl (o_assign rfl rfl) (TL.nil (thn_normal ?_))
    refine T.cond ((a1.Challenge_.toList == (ByteArray.mk #[]).toList)) rfl (fun h => ?_) (fun h => ?_)
    ·replace H := cond_t h H
     refine T.seq (T.region (TL.st rfl rfl rfl (o_build rfl ⟨_, fun _ => rfl, rfl⟩ rfl rfl rfl) ?_))
     refine TL.sn rfl rfl (o_storeBx rfl tyS_84 rfl rfl rfl rfl (Nat.le_of_ble_eq_true rfl) rfl) ?_
     refine TL.nil (thn_normal (T.conv (Cs.nilCell (q := 6) 4 rfl rfl) ?_))
     refine T.ret (inB_ret (thn_ret ?_))
     cases some_i H
     exact ⟨trivial, _, (.cell _ _ _ _ _ _ _ _ _ _ rfl rfl tyS_84 (Nat.le_of_ble_eq_true rfl) rfl .nil), ⟨rfl, _, rfl⟩⟩
    ·replace H := cond_f h H
     refine T.seq (T.region (TL.st rfl rfl rfl (o_fieldAddr rfl rfl rfl tyS_9 (by decide) rfl rfl ⟨_, rfl, Nat.le_of_ble_eq_true rfl⟩) ?_))
     refine TL.st rfl rfl rfl (o_loadBx rfl tyS_9 rfl rfl (Nat.le_of_ble_eq_true rfl) rfl) ?_
     obtain ⟨r7, h8, H⟩ := bind_s H
     refine TL.st rfl rfl rfl (o_callP rfl en_80 rfl rfl (.cons _ _ _ _ (.cl _ rfl) .nil) (impl_GoodName_p  h8)) ?_
     refine TL.st rfl rfl rfl (o_not rfl rfl) ?_
     refine TL.st rfl rfl rfl (o_assign rfl rfl) (TL.nil (thn_normal ?_))
     refine T.cond ((!r7)) rfl (fun h => ?_) (fun h => ?_)
     ·replace H := cond_t h H
      refine T.seq (T.region (TL.st rfl rfl rfl (o_build rfl ⟨_, fun _ => rfl, rfl⟩ rfl rfl rfl) ?_))
      refine TL.sn rfl rfl (o_storeBx rfl tyS_84 rfl rfl rfl rfl (Nat.le_of_ble_eq_true rfl) rfl) ?_
      refine TL.nil (thn_normal (T.conv (Cs.nilCell (q := 6) 4 rfl rfl) ?_))
      refine T.ret (inB_ret (thn_ret ?_))
      cases some_i H
      exact ⟨trivial, _, (.cell _ _ _ _ _ _ _ _ _ _ rfl rfl tyS_84 (Nat.le_of_ble_eq_true rfl) rfl .nil), ⟨rfl, _, rfl⟩⟩
     ·replace H := cond_f h H
      refine T.skip (inB_normal (thn_normal (T.seq (T.region (TL.st rfl rfl rfl (o_move rfl rfl) (TL.st rfl rfl rfl (o_nilCheck rfl rfl rfl) (TL.st rfl rfl rfl (o_fieldAddr rfl rfl rfl tyS_3 (by decide) rfl rfl ⟨_, rfl, Nat.le_of_ble_eq_true rfl⟩) ?_)))))))
      refine TL.st rfl rfl rfl (o_loadBx rfl tyS_3 rfl rfl (Nat.le_of_ble_eq_true rfl) rfl) ?_
      refine TL.st rfl rfl rfl (o_ari rfl rfl rfl rfl) (TL.st rfl rfl rfl (o_nilCheck rfl rfl rfl) (TL.st rfl rfl rfl (o_fieldAddr rfl rfl rfl tyS_3 (by decide) rfl rfl ⟨_, rfl, Nat.le_of_ble_eq_true rfl⟩) ?_))
      refine TL.sn rfl rfl (o_storeBx rfl tyS_3 rfl rfl rfl rfl (Nat.le_of_ble_eq_true rfl) rfl) ?_
      refine TL.nil (thn_normal (T.seq (T.drawn rfl ?_)))
      refine TD.qs rfl rfl (fun _ => o_move rfl rfl) (TD.qs rfl rfl (fun _ => o_move rfl rfl) (TD.qs rfl rfl (fun _ => o_nilCheck rfl rfl rfl) (TD.rs rfl rfl (o_fieldAddr rfl rfl rfl tyS_3 (by decide) rfl rfl ⟨_, rfl, Nat.le_of_ble_eq_true rfl⟩) ?_)))
      refine TD.rs rfl rfl (o_loadBx rfl tyS_3 rfl rfl (Nat.le_of_ble_eq_true rfl) rfl) ?_
      refine TD.rs rfl rfl (o_fieldAddr rfl rfl rfl tyS_9 (by decide) rfl rfl ⟨_, rfl, Nat.le_of_ble_eq_true rfl⟩) ?_
      refine TD.rs rfl rfl (o_loadBx rfl tyS_9 rfl rfl (Nat.le_of_ble_eq_true rfl) rfl) ?_
      refine TD.rs rfl rfl (o_fieldAddr rfl rfl rfl tyS_9 (by decide) rfl rfl ⟨_, rfl, Nat.le_of_ble_eq_true rfl⟩) ?_
      refine TD.rs rfl rfl (o_loadBx rfl tyS_9 rfl rfl (Nat.le_of_ble_eq_true rfl) rfl) ?_
      refine TD.rs rfl rfl (o_fieldAddr rfl rfl rfl tyS_30 (by decide) rfl rfl ⟨_, rfl, Nat.le_of_ble_eq_true rfl⟩) ?_
      refine TD.rs rfl rfl (o_loadBx rfl tyS_30 rfl rfl (Nat.le_of_ble_eq_true rfl) rfl) ?_
      refine TD.rs rfl rfl (o_fieldAddr rfl rfl rfl tyS_9 (by decide) rfl rfl ⟨_, rfl, Nat.le_of_ble_eq_true rfl⟩) ?_
      refine TD.rs rfl rfl (o_loadBx rfl tyS_9 rfl rfl (Nat.le_of_ble_eq_true rfl) rfl) ?_
      refine TD.rs rfl rfl (o_fieldAddr rfl rfl rfl tyS_9 (by decide) rfl rfl ⟨_, rfl, Nat.le_of_ble_eq_true rfl⟩) ?_
      refine TD.rs rfl rfl (o_loadBx rfl tyS_9 rfl rfl (Nat.le_of_ble_eq_true rfl) rfl) ?_
      refine TD.qs rfl rfl (fun _ => o_move rfl rfl) (TD.qs rfl rfl (fun _ => o_nilCheck rfl rfl rfl) (TD.rs rfl rfl (o_fieldAddr rfl rfl rfl tyS_3 (by decide) rfl rfl ⟨_, rfl, Nat.le_of_ble_eq_true rfl⟩) ?_))
      refine TD.rs rfl rfl (o_loadBx rfl tyS_3 rfl rfl (Nat.le_of_ble_eq_true rfl) rfl) ?_
      refine TD.qs rfl rfl (fun _ => o_move rfl rfl) (TD.qs rfl rfl (fun _ => o_nilCheck rfl rfl rfl) (TD.rs rfl rfl (o_fieldAddr rfl rfl rfl tyS_25 (by decide) rfl rfl ⟨_, rfl, Nat.le_of_ble_eq_true rfl⟩) ?_))
      refine TD.rs rfl rfl (o_fieldAddr rfl rfl rfl tyS_3 (by decide) rfl rfl ⟨_, rfl, Nat.le_of_ble_eq_true rfl⟩) ?_
      refine TD.rs rfl rfl (o_loadBx rfl tyS_3 rfl rfl (Nat.le_of_ble_eq_true rfl) rfl) ?_
      refine TD.qs rfl rfl (fun _ => o_ari rfl rfl rfl rfl) ?_
      refine TD.rs rfl rfl (Does.wkP (p := 2) rfl (.same _ _ _ (.same _ _ _ (.same _ _ _ (.same _ _ _ (.same _ _ _ (.same _ _ _ (.same _ _ _ (.same _ _ _ (.same _ _ _ (.same _ _ _ (.same _ _ _ (.same _ _ _ (.same _ _ _ (.same _ _ _ (.same _ _ _ (.same _ _ _ (.ptr 0 0 _ _ .nil))))))))))))))))) (o_build rfl ⟨_, fun _ => rfl, rfl⟩ rfl rfl rfl)) ?_
      obtain ⟨⟨r9, o10, o11⟩, h12, H⟩ := bind_s H
      refine TD.as rfl rfl (o_callM [0, 1, 2, 3] rfl en_81 rfl rfl (impl_yserver_give_p false false h12) rfl (by decide) (.cons _ _ _ _ rfl (.cons _ _ _ _ (ren_at rfl (ren_rawO fun _ => rfl)) (.cons _ _ _ _ (ren_at rfl (ren_famO fun _ => rfl)) (.cons _ _ _ _ (ren_at rfl (ren_mpO fun _ => rfl)) .nil)))) rfl rfl (.cons _ _ _ _ rfl (.cons _ _ _ _ (ren_rawO fun _ => rfl) (.cons _ _ _ _ (ren_famO fun _ => rfl) (.cons _ _ _ _ (ren_mpO fun _ => rfl) .nil)))) rfl) ?_
      refine TD.qs rfl rfl (fun _ => o_assign rfl rfl) ?_
      refine TD.nil ⟨rfl, ?_⟩
      refine thn_normal (T.seq (T.region (TL.st rfl rfl rfl (o_move rfl rfl) ?_)))
      obtain ⟨w13, h14, H⟩ := bind_s H
      refine TL.st rfl rfl rfl (o_nilCheckP rfl rfl rfl h14) ?_
      refine TL.st rfl rfl rfl (o_fieldAddrP (a := w13) rfl rfl rfl tyS_9 (by decide) rfl rfl h14) ?_
      refine TL.st rfl rfl rfl (o_loadP (a := w13) rfl tyS_9 rfl rfl h14 (Nat.le_of_ble_eq_true rfl) rfl) ?_
      refine TL.st rfl rfl rfl (o_build rfl ⟨_, fun _ => rfl, rfl⟩ rfl rfl rfl) ?_
      refine TL.sn rfl rfl (o_storeBx rfl tyS_84 rfl rfl rfl rfl (Nat.le_of_ble_eq_true rfl) rfl) ?_
      refine TL.nil (thn_normal (T.conv (Cs.eqS (σ' := [.box (k_impl_yserver 1 3 2 false o10), .arr .raw 1 (o10.held_.map (c_px 2)), .fam (o11.map (c_T_impl_yheld 2 false)), mpO (V.int .i64) (V.bool) o10.ended_, .box (c_T_impl_Client false a0), .box (c_T_impl_GrantAsk false a1), .box [.int .i64 0, .str w13.handle_, .str (ByteArray.mk #[]), .str (ByteArray.mk #[]), .nilS, .str (ByteArray.mk #[]), .str (ByteArray.mk #[]), .bool false]]) rfl) ?_))
      refine T.conv (Cs.nilCell (q := 6) 4 rfl rfl) ?_
      refine T.ret ?_
      cases some_i H
      exact ⟨trivial, _, (.cell _ _ _ _ _ _ _ _ _ _ rfl rfl tyS_84 (Nat.le_of_ble_eq_true rfl) rfl .nil), ⟨rfl, _, rfl⟩⟩
theorem en_60 (us : Array Value) (w : World) : (callFunc 60 us).run Go.Proofs.Tryz.prog w = .ok (.enter 60 us) w := enters Go.Proofs.Tryz.func60 rfl rfl us w
noncomputable def impl_yserver_find_l1 (a0 : ByteArray) (a1 : ByteArray) (s0 : T_impl_yserver) (s2 : List T_impl_yheld) : Int → Option (Int ⊕ (Unit ⊕ Int)) := fun s => match s with
  | v1 => cond (decide (v1 < (s0.held_.length : Int))) ((idx s0.held_ v1).bind fun e4 => (idx s2 e4).bind fun w6 => (gdO (w6.kind_.toList == a0.toList) (idx s2 e4)).bind fun w8 => (gdO (w6.kind_.toList == a0.toList) (idx s2 e4)).bind fun w10 => (gdO (w6.kind_.toList == a0.toList) (idx s2 e4)).bind fun w12 => cond ((w6.kind_.toList == a0.toList) && (w12.handle_.toList == a1.toList)) (some (.inr (.inr e4))) (some (.inl (IntKind.i64.wrap (v1 + 1))))) (some (.inr (.inl ())))
noncomputable def impl_yserver_find (a0 : ByteArray) (a1 : ByteArray) (s0 : T_impl_yserver) (s2 : List T_impl_yheld) : Option Int :=
  (loopO (impl_yserver_find_l1 a0 a1 s0 s2) 0).bind fun q14 => (match q14 with | .inl _ => some (-1) | .inr q2 => some q2)
theorem impl_yserver_find_p (c0 : Bool) {a0 : ByteArray} {a1 : ByteArray} {s0 : T_impl_yserver} {s2 : List T_impl_yheld} {R0 : Int} (H : impl_yserver_find a0 a1 s0 s2 = some R0) : St Go.Proofs.Tryz.prog 67 [.bx 0 0, .str a0, .str a1] [.box (k_impl_yserver 1 3 2 c0 s0), .arr .raw 1 (s0.held_.map (c_px 2)), .fam (s2.map (c_T_impl_yheld 2 false)), mpO (V.int .i64) (V.bool) s0.ended_] (.px 2 0 R0 0) [.box (k_impl_yserver 1 3 2 c0 s0), .arr .raw 1 (s0.held_.map (c_px 2)), .fam (s2.map (c_T_impl_yheld 2 false)), mpO (V.int .i64) (V.bool) s0.ended_] := by
 refine CallT.finR (CallT.of_TN (n := 34) Go.Proofs.Tryz.func67 rfl rfl rfl rfl ?_) rfl rfl ⟨(bels_iff.1 rfl), ⟨(belRaw fun _ => rfl), ⟨(belFam fun _ => rfl), ⟨(belMap fun _ => rfl), trivial⟩⟩⟩⟩
 refine T.seq (T.region (TL.st rfl rfl rfl (Does.nilPx (p := 2) rfl (o_assign rfl rfl)) ?_))
 refine TL.nil (thn_normal (T.seq (T.seq (T.region (TL.st rfl rfl rfl (o_move rfl rfl) (TL.st rfl rfl rfl (o_nilCheck rfl rfl rfl) (TL.st rfl rfl rfl (o_fieldAddr rfl rfl rfl tyS_78 (by decide) rfl rfl ⟨_, rfl, Nat.le_of_ble_eq_true rfl⟩) ?_)))))))
 refine TL.st rfl rfl rfl (o_loadBx rfl tyS_78 rfl rfl (Nat.le_of_ble_eq_true rfl) rfl) ?_
 refine TL.st rfl rfl rfl (o_lenOwn (f := c_px 2) rfl rfl rfl rfl (List.length_map ..)) ?_
 refine TL.st rfl rfl rfl (o_move rfl rfl) (TL.nil (thn_normal (T.block ?_)))
 obtain ⟨q14, h15, H⟩ := bind_s H
 refine T.lq (fun s => match s with | v1 => [(1, .str a0), (2, .str a1), (12, .hd 1 s0.held_.length 0 s0.held_.length), (13, .int .i64 (s0.held_.length : Int)), (14, .int .i64 v1)]) (fun s => match s with | v1 => [.box (k_impl_yserver 1 3 2 c0 s0), .arr .raw 1 (s0.held_.map (c_px 2)), .fam (s2.map (c_T_impl_yheld 2 false)), mpO (V.int .i64) (V.bool) s0.ended_]) (fun q ex fr σ => match q with | .inl _ => ex = .exit 0 ∧ fr = [] ∧ σ = [.box (k_impl_yserver 1 3 2 c0 s0), .arr .raw 1 (s0.held_.map (c_px 2)), .fam (s2.map (c_T_impl_yheld 2 false)), mpO (V.int .i64) (V.bool) s0.ended_] | .inr q2 => ex = .ret ∧ RetN Go.Proofs.Tryz.prog [.tmp 6] (Fin [.box (k_impl_yserver 1 3 2 c0 s0), .arr .raw 1 (s0.held_.map (c_px 2)), .fam (s2.map (c_T_impl_yheld 2 false)), mpO (V.int .i64) (V.bool) s0.ended_] (.px 2 0 q2 0)) .ret fr σ) h15 ?_ ?_
 ·rintro v1 y3 H
  refine T.seq (T.region (TL.st rfl rfl rfl (o_ari rfl rfl rfl rfl) (TL.nil (thn_normal (T.seq ?_)))))
  refine T.cond (decide (v1 < (s0.held_.length : Int))) rfl (fun h => ?_) (fun h => ?_)
  ·replace H := cond_t h H
   refine T.skip (thn_normal (T.seq (T.block (T.seq (T.region ?_)))))
   obtain ⟨e4, h5, H⟩ := bind_s H
   refine TL.st rfl rfl rfl (o_ixh (f := c_px 2) rfl rfl tyS_101 rfl rfl rfl (List.length_map ..) h5 rfl) ?_
   refine TL.st rfl rfl rfl (o_loadEl rfl tyS_101 rfl rfl (List.length_map ..) (by rw [List.getElem?_map, (idx_s h5).2]; rfl) (Nat.le_of_ble_eq_true rfl) rfl) ?_
   refine TL.st rfl rfl rfl (o_assign rfl rfl) (TL.nil (thn_normal (T.seq (T.region (TL.st rfl rfl rfl (o_move rfl rfl) ?_)))))
   obtain ⟨w6, h7, H⟩ := bind_s H
   refine TL.st rfl rfl rfl (o_nilCheckP rfl rfl rfl h7) ?_
   refine TL.st rfl rfl rfl (o_fieldAddrP (a := w6) rfl rfl rfl tyS_9 (by decide) rfl rfl h7) ?_
   refine TL.st rfl rfl rfl (o_loadP (a := w6) rfl tyS_9 rfl rfl h7 (Nat.le_of_ble_eq_true rfl) rfl) ?_
   refine TL.st rfl rfl rfl (o_move rfl rfl) (TL.st rfl rfl rfl (o_str rfl rfl rfl rfl) ?_)
   refine TL.st rfl rfl rfl (o_move rfl rfl) (TL.gcq rfl rfl rfl (.bool _) rfl rfl (fun h => o_move rfl rfl) ?_)
   obtain ⟨w8, h9, H⟩ := bind_s H
   refine TL.gcq rfl rfl rfl (.bool _) rfl rfl (fun h => o_nilCheckP rfl (gv h rfl) rfl (gdO_t h9 h)) ?_
   obtain ⟨w10, h11, H⟩ := bind_s H
   refine TL.gcq rfl rfl rfl (.bool _) rfl rfl (fun h => o_fieldAddrP (a := w10) rfl rfl rfl tyS_9 (by decide) (gv h rfl) rfl (gdO_t h11 h)) ?_
   obtain ⟨w12, h13, H⟩ := bind_s H
   refine TL.gcq rfl rfl rfl (.bool _) rfl rfl (fun h => o_loadP (a := w12) rfl tyS_9 (gv h rfl) rfl (gdO_t h13 h) (Nat.le_of_ble_eq_true rfl) rfl) ?_
   refine TL.gcq rfl rfl rfl (.bool _) rfl rfl (fun h => o_move rfl rfl) (TL.gcq rfl rfl rfl (.bool _) rfl rfl (fun h => o_str rfl (gv h rfl) (gv h rfl) rfl) ?_)
   refine TL.st rfl rfl rfl (o_and rfl rfl rfl (fun k => Gd_t k) rfl) (TL.nil (thn_normal ?_))
   refine T.cond (((w6.kind_.toList == a0.toList) && (w12.handle_.toList == a1.toList))) rfl (fun h => ?_) (fun h => ?_)
   ·replace H := cond_t h H
    refine T.seq (T.region (TL.st rfl rfl rfl (o_move rfl rfl) (TL.st rfl rfl rfl (o_assign rfl rfl) (TL.nil (thn_normal (T.ret (inB_ret (thn_ret ?_))))))))
    exact Pk.id (thn_ret ⟨.inr e4, (some_i H).symm, rfl, ⟨trivial, _, (.tmp _ _ _ _ rfl .nil), ⟨rfl, _, rfl⟩⟩⟩)
   ·replace H := cond_f h H
    refine T.skip (inB_normal (thn_normal (T.region (TL.st rfl rfl rfl (o_ari rfl rfl rfl rfl) (TL.st rfl rfl rfl (o_move rfl rfl) (TL.nil ?_))))))
    exact Pk.of (thn_normal ⟨(IntKind.i64.wrap (v1 + 1)), (some_i H).symm, rfl, rfl⟩)
  ·replace H := cond_f h H
   refine T.exit (thn_exit ?_)
   exact Pk.of (thn_exit ⟨.inl (), (some_i H).symm, rfl, rfl, rfl⟩)
 ·rcases q14 with ⟨⟩ | q2
  ·rintro _ _ _ ⟨rfl, rfl, rfl⟩
   refine inB_here (thn_normal (T.seq (T.region (TL.st rfl rfl rfl (Does.nilPx (p := 2) rfl (o_assign rfl rfl)) ?_))))
   refine TL.nil (thn_normal (T.ret ?_))
   cases some_i H
   exact ⟨trivial, _, (.tmp _ _ _ _ rfl .nil), ⟨rfl, _, rfl⟩⟩
  ·rintro _ fr1 σ1 ⟨rfl, hr⟩
   refine inB_ret (thn_ret ?_)
   cases some_i H
   exact hr
theorem en_67 (us : Array Value) (w : World) : (callFunc 67 us).run Go.Proofs.Tryz.prog w = .ok (.enter 67 us) w := enters Go.Proofs.Tryz.func67 rfl rfl us w
noncomputable def impl_yserver_findOf (a0 : ByteArray) (a1 : T_impl_GrantAsk) (s0 : T_impl_yserver) (s2 : List T_impl_yheld) : Option Int :=
  (impl_yserver_find a0 a1.Code_ s0 s2).bind fun r1 => (gdO (!decide (r1 < 0)) (idx s2 r1)).bind fun w3 => (gdO (!decide (r1 < 0)) (idx s2 r1)).bind fun w5 => (gdO (!decide (r1 < 0)) (idx s2 r1)).bind fun w7 => cond ((!decide (r1 < 0)) && (w7.client_.toList == a1.Client_.toList)) (some r1) (some (-1))
theorem impl_yserver_findOf_p (b0 : Bool) (c0 : Bool) {a0 : ByteArray} {a1 : T_impl_GrantAsk} {s0 : T_impl_yserver} {s2 : List T_impl_yheld} {R0 : Int} (H : impl_yserver_findOf a0 a1 s0 s2 = some R0) : St Go.Proofs.Tryz.prog 70 [.bx 0 0, .str a0, .agg (c_T_impl_GrantAsk b0 a1)] [.box (k_impl_yserver 1 3 2 c0 s0), .arr .raw 1 (s0.held_.map (c_px 2)), .fam (s2.map (c_T_impl_yheld 2 false)), mpO (V.int .i64) (V.bool) s0.ended_] (.px 2 0 R0 0) [.box (k_impl_yserver 1 3 2 c0 s0), .arr .raw 1 (s0.held_.map (c_px 2)), .fam (s2.map (c_T_impl_yheld 2 false)), mpO (V.int .i64) (V.bool) s0.ended_] := by
 refine CallT.finR (CallT.of_TN (n := 25) Go.Proofs.Tryz.func70 rfl rfl rfl rfl ?_) rfl rfl ⟨(bels_iff.1 rfl), ⟨(belRaw fun _ => rfl), ⟨(belFam fun _ => rfl), ⟨(belMap fun _ => rfl), trivial⟩⟩⟩⟩
 refine T.seq (T.region (TL.st rfl rfl rfl (o_box rfl rfl rfl) (TL.st rfl rfl rfl (Does.nilPx (p := 2) rfl (o_assign rfl rfl)) ?_)))
 refine TL.nil (thn_normal (T.seq (T.seq (T.region (TL.st rfl rfl rfl (o_move rfl rfl) (TL.st rfl rfl rfl (o_move rfl rfl) (TL.st rfl rfl rfl (o_fieldAddr rfl rfl rfl tyS_9 (by decide) rfl rfl ⟨_, rfl, Nat.le_of_ble_eq_true rfl⟩) ?_)))))))
 refine TL.st rfl rfl rfl (o_loadBx rfl tyS_9 rfl rfl (Nat.le_of_ble_eq_true rfl) rfl) ?_
 obtain ⟨r1, h2, H⟩ := bind_s H
 refine TL.st rfl rfl rfl (o_callM [0, 1, 2, 3] rfl en_67 rfl rfl (impl_yserver_find_p c0 h2) rfl (by decide) (.cons _ _ _ _ rfl (.cons _ _ _ _ (ren_at rfl (ren_rawO fun _ => rfl)) (.cons _ _ _ _ (ren_at rfl (ren_famO fun _ => rfl)) (.cons _ _ _ _ (ren_at rfl (ren_mpO fun _ => rfl)) .nil)))) rfl rfl (.cons _ _ _ _ rfl (.cons _ _ _ _ (ren_rawO fun _ => rfl) (.cons _ _ _ _ (ren_famO fun _ => rfl) (.cons _ _ _ _ (ren_mpO fun _ => rfl) .nil)))) rfl) ?_
 refine TL.st rfl rfl rfl (o_assign rfl rfl) (TL.nil (thn_normal (T.seq (T.drawn rfl ?_))))
 refine TD.qs rfl rfl (fun _ => o_move rfl rfl) (TD.rs rfl rfl (o_pxNe rfl rfl rfl rfl) ?_)
 refine TD.qs rfl rfl (fun _ => o_move rfl rfl) (TD.cq rfl rfl rfl (.bool _) rfl (fun h _ => o_move rfl rfl) ?_)
 obtain ⟨w3, h4, H⟩ := bind_s H
 refine TD.cr rfl rfl rfl (.bool _) rfl (fun h => o_nilCheckP rfl (gv h rfl) rfl (gdO_t h4 h)) ?_
 obtain ⟨w5, h6, H⟩ := bind_s H
 refine TD.cr rfl rfl rfl (.bool _) rfl (fun h => o_fieldAddrP (a := w5) rfl rfl rfl tyS_9 (by decide) (gv h rfl) rfl (gdO_t h6 h)) ?_
 obtain ⟨w7, h8, H⟩ := bind_s H
 refine TD.cr rfl rfl rfl (.bool _) rfl (fun h => o_loadP (a := w7) rfl tyS_9 (gv h rfl) rfl (gdO_t h8 h) (Nat.le_of_ble_eq_true rfl) rfl) ?_
 refine TD.cr rfl rfl rfl (.bool _) rfl (fun h => o_fieldAddr rfl rfl rfl tyS_9 (by decide) rfl rfl ⟨_, rfl, Nat.le_of_ble_eq_true rfl⟩) ?_
 refine TD.cr rfl rfl rfl (.bool _) rfl (fun h => o_loadBx rfl tyS_9 (gv h rfl) rfl (Nat.le_of_ble_eq_true rfl) rfl) ?_
 refine TD.cq rfl rfl rfl (.bool _) rfl (fun h _ => o_str rfl (gv h rfl) (gv h rfl) rfl) ?_
 refine TD.qs rfl rfl (fun _ => o_and rfl rfl rfl (fun k => Gd_t k) rfl) ?_
 refine TD.nil ⟨rfl, ?_⟩
 refine thn_normal ?_
 refine T.cond (((!decide (r1 < 0)) && (w7.client_.toList == a1.Client_.toList))) rfl (fun h => ?_) (fun h => ?_)
 ·replace H := cond_t h H
  refine T.seq (T.region (TL.st rfl rfl rfl (o_move rfl rfl) (TL.st rfl rfl rfl (o_assign rfl rfl) (TL.nil (thn_normal (T.ret (thn_ret ?_)))))))
  cases some_i H
  exact ⟨trivial, _, (.tmp _ _ _ _ rfl .nil), ⟨rfl, _, rfl⟩⟩
 ·replace H := cond_f h H
  refine T.skip (thn_normal (T.seq (T.region (TL.st rfl rfl rfl (Does.nilPx (p := 2) rfl (o_assign rfl rfl)) ?_))))
  refine TL.nil (thn_normal (T.ret ?_))
  cases some_i H
  exact ⟨trivial, _, (.tmp _ _ _ _ rfl .nil), ⟨rfl, _, rfl⟩⟩
theorem en_70 (us : Array Value) (w : World) : (callFunc 70 us).run Go.Proofs.Tryz.prog w = .ok (.enter 70 us) w := enters Go.Proofs.Tryz.func70 rfl rfl us w
theorem tyS_77 : TyS Go.Proofs.Tryz.prog 77 false 1 := ⟨rfl, rfl⟩
noncomputable def impl_ChallengeOf (a0 : ByteArray) : Option ByteArray :=
  cond (decide ((a0.size : Int) > 200)) (some (ByteArray.mk #[])) ((impl_Digest (bys a0)).bind fun r1 => (impl_Armor r1).bind fun r3 => some r3)
theorem impl_ChallengeOf_p  {a0 : ByteArray} {R0 : ByteArray} (H : impl_ChallengeOf a0 = some R0) : Pure Go.Proofs.Tryz.prog 72 [.str a0] (.str R0) := by
 refine CallT.of_TN (n := 10) Go.Proofs.Tryz.func72 rfl rfl rfl rfl ?_
 refine T.seq (T.region (TL.st rfl rfl rfl (o_assign rfl rfl) (TL.nil (thn_normal (T.seq (T.seq (T.region (TL.st rfl rfl rfl (o_move rfl rfl) (TL.st rfl rfl rfl (o_lenS rfl rfl rfl) ?_)))))))))
 refine TL.st rfl rfl rfl (o_ari rfl rfl rfl rfl) (TL.nil (thn_normal ?_))
 refine T.cond (decide ((a0.size : Int) > 200)) rfl (fun h => ?_) (fun h => ?_)
 ·replace H := cond_t h H
  refine T.seq (T.region (TL.st rfl rfl rfl (o_assign rfl rfl) (TL.nil (thn_normal (T.ret (thn_ret ?_))))))
  cases some_i H
  exact ⟨trivial, _, (.tmp _ _ _ _ rfl .nil), (.cl _ rfl)⟩
 ·replace H := cond_f h H
  refine T.skip (thn_normal (T.seq (T.region (TL.st rfl rfl rfl (o_move rfl rfl) (TL.st rfl rfl rfl (o_sb (f := c_int .u8) rfl rfl rfl rfl (fun _ => rfl) rfl) ?_)))))
  obtain ⟨r1, h2, H⟩ := bind_s H
  refine TL.st rfl rfl rfl (o_callP rfl en_34 rfl rfl (.cons _ _ _ _ (.cl _ rfl) .nil) (impl_Digest_p false h2)) ?_
  obtain ⟨r3, h4, H⟩ := bind_s H
  refine TL.st rfl rfl rfl (o_callP rfl en_84 rfl rfl (.cons _ _ _ _ (.cl _ rfl) .nil) (impl_Armor_p false h4)) ?_
  refine TL.st rfl rfl rfl (o_assign rfl rfl) (TL.nil (thn_normal (T.ret ?_)))
  cases some_i H
  exact ⟨trivial, _, (.tmp _ _ _ _ rfl .nil), (.cl _ rfl)⟩
theorem en_72 (us : Array Value) (w : World) : (callFunc 72 us).run Go.Proofs.Tryz.prog w = .ok (.enter 72 us) w := enters Go.Proofs.Tryz.func72 rfl rfl us w
noncomputable def impl_yserver_tokens (a0 : T_impl_Client) (a1 : Int) (a2 : ByteArray) (a3 : (List ByteArray)) (s0 : T_impl_yserver) (s2 : List T_impl_yheld) : Option (T_impl_GrantReply × T_impl_yserver × List T_impl_yheld) :=
  (slices_Clone a3).bind fun r1 => (impl_yserver_give (⟨(ByteArray.mk #[97, 99, 99, 101, 115, 115]), (ByteArray.mk #[]), a1, a0.Id_, a2, a3, (ByteArray.mk #[]), (ByteArray.mk #[]), (ByteArray.mk #[]), (IntKind.i64.wrap (s0.now_ + s0.s_.Short_)), false, false, false, false, false, 0, (-1)⟩ : T_impl_yheld) s0 s2).bind fun q => (match q with | (r3, o4, o5) => (idx o5 r3).bind fun w7 => (slices_Contains a0.Kinds_ 2).bind fun r9 => cond r9 ((impl_yserver_give (⟨(ByteArray.mk #[114, 101, 102, 114, 101, 115, 104]), (ByteArray.mk #[]), a1, a0.Id_, a2, a3, (ByteArray.mk #[]), (ByteArray.mk #[]), (ByteArray.mk #[]), (IntKind.i64.wrap (o4.now_ + o4.s_.Long_)), false, false, false, false, false, 0, (-1)⟩ : T_impl_yheld) o4 o5).bind fun q => (match q with | (r11, o12, o13) => (idx o13 r11).bind fun w15 => some ((⟨0, (ByteArray.mk #[]), w7.handle_, w15.handle_, r1, a2, (ByteArray.mk #[]), false⟩ : T_impl_GrantReply), o12, o13))) (some ((⟨0, (ByteArray.mk #[]), w7.handle_, (ByteArray.mk #[]), r1, a2, (ByteArray.mk #[]), false⟩ : T_impl_GrantReply), o4, o5)))
theorem impl_yserver_tokens_p (_u0 : Bool) (_u1 : Bool) (_u2 : Bool) {a0 : T_impl_Client} {a1 : Int} {a2 : ByteArray} {a3 : (List ByteArray)} {s0 : T_impl_yserver} {s2 : List T_impl_yheld} {R0 : T_impl_GrantReply} {U0 : T_impl_yserver} {U2 : List T_impl_yheld} (H : impl_yserver_tokens a0 a1 a2 a3 s0 s2 = some (R0, U0, U2)) : St Go.Proofs.Tryz.prog 82 [.bx 0 0, .agg (c_T_impl_Client false a0), .int .i64 a1, .str a2, .im false (a3.map (c_str))] [.box (k_impl_yserver 1 3 2 false s0), .arr .raw 1 (s0.held_.map (c_px 2)), .fam (s2.map (c_T_impl_yheld 2 false)), mpO (V.int .i64) (V.bool) s0.ended_] (.agg (c_T_impl_GrantReply false R0)) [.box (k_impl_yserver 1 3 2 false (⟨U0.s_, U0.now_, U0.held_, default, U0.grants_⟩ : T_impl_yserver)), .arr .raw 1 (U0.held_.map (c_px 2)), .fam (U2.map (c_T_impl_yheld 2 false)), mpO (V.int .i64) (V.bool) U0.ended_] := by
 refine CallT.fin (CallT.of_TN (n := 64) Go.Proofs.Tryz.func82 rfl rfl rfl rfl ?_) rfl rfl ⟨(bels_iff.1 rfl), ⟨(belRaw fun _ => rfl), ⟨(belFam fun _ => rfl), ⟨(belMap fun _ => rfl), trivial⟩⟩⟩⟩
 refine T.seq (T.region (TL.st rfl rfl rfl (o_box rfl rfl rfl) (TL.st rfl rfl rfl (o_alloc rfl ⟨_, rfl, rfl⟩) (TL.nil (thn_normal (T.seq (T.region (TL.st rfl rfl rfl (o_move rfl rfl) ?_))))))))
 obtain ⟨r1, h2, H⟩ := bind_s H
 refine TL.st rfl rfl rfl (o_callP rfl en_69 rfl rfl (.cons _ _ _ _ (.cl _ rfl) .nil) (slices_Clone_p false h2)) ?_
 refine TL.st rfl rfl rfl (o_move rfl rfl) (TL.st rfl rfl rfl (o_build rfl ⟨_, fun _ => rfl, rfl⟩ rfl rfl rfl) ?_)
 refine TL.st rfl rfl rfl (o_alloc rfl ⟨_, rfl, rfl⟩) (TL.sn rfl rfl (o_storeBx rfl tyS_84 rfl rfl rfl rfl (Nat.le_of_ble_eq_true rfl) rfl) ?_)
 refine TL.nil (thn_normal (T.seq (T.conv (Cs.eqS (σ' := [.box (k_impl_yserver 1 3 2 false s0), .arr .raw 1 (s0.held_.map (c_px 2)), .fam (s2.map (c_T_impl_yheld 2 false)), mpO (V.int .i64) (V.bool) s0.ended_, .box (c_T_impl_Client false a0), .box [.int .i64 0, .str (ByteArray.mk #[]), .str (ByteArray.mk #[]), .str (ByteArray.mk #[]), .nilS, .str (ByteArray.mk #[]), .str (ByteArray.mk #[]), .bool false], .box [.int .i64 0, .str (ByteArray.mk #[]), .str (ByteArray.mk #[]), .str (ByteArray.mk #[]), .im false (r1.map (c_str)), .str a2, .str (ByteArray.mk #[]), .bool false]]) rfl) ?_)))
 refine T.drawn rfl ?_
 refine TD.qs rfl rfl (fun _ => o_move rfl rfl) (TD.qs rfl rfl (fun _ => o_move rfl rfl) (TD.rs rfl rfl (o_fieldAddr rfl rfl rfl tyS_9 (by decide) rfl rfl ⟨_, rfl, Nat.le_of_ble_eq_true rfl⟩) ?_))
 refine TD.rs rfl rfl (o_loadBx rfl tyS_9 rfl rfl (Nat.le_of_ble_eq_true rfl) rfl) ?_
 refine TD.qs rfl rfl (fun _ => o_move rfl rfl) (TD.qs rfl rfl (fun _ => o_move rfl rfl) (TD.qs rfl rfl (fun _ => o_move rfl rfl) (TD.qs rfl rfl (fun _ => o_nilCheck rfl rfl rfl) (TD.rs rfl rfl (o_fieldAddr rfl rfl rfl tyS_3 (by decide) rfl rfl ⟨_, rfl, Nat.le_of_ble_eq_true rfl⟩) ?_))))
 refine TD.rs rfl rfl (o_loadBx rfl tyS_3 rfl rfl (Nat.le_of_ble_eq_true rfl) rfl) ?_
 refine TD.qs rfl rfl (fun _ => o_move rfl rfl) (TD.qs rfl rfl (fun _ => o_nilCheck rfl rfl rfl) (TD.rs rfl rfl (o_fieldAddr rfl rfl rfl tyS_25 (by decide) rfl rfl ⟨_, rfl, Nat.le_of_ble_eq_true rfl⟩) ?_))
 refine TD.rs rfl rfl (o_fieldAddr rfl rfl rfl tyS_3 (by decide) rfl rfl ⟨_, rfl, Nat.le_of_ble_eq_true rfl⟩) ?_
 refine TD.rs rfl rfl (o_loadBx rfl tyS_3 rfl rfl (Nat.le_of_ble_eq_true rfl) rfl) ?_
 refine TD.qs rfl rfl (fun _ => o_ari rfl rfl rfl rfl) ?_
 refine TD.rs rfl rfl (Does.wkP (p := 2) rfl (.same _ _ _ (.same _ _ _ (.same _ _ _ (.same _ _ _ (.same _ _ _ (.same _ _ _ (.same _ _ _ (.same _ _ _ (.same _ _ _ (.same _ _ _ (.same _ _ _ (.same _ _ _ (.same _ _ _ (.same _ _ _ (.same _ _ _ (.same _ _ _ (.ptr 0 0 _ _ .nil))))))))))))))))) (o_build rfl ⟨_, fun _ => rfl, rfl⟩ rfl rfl rfl)) ?_
 obtain ⟨⟨r3, o4, o5⟩, h6, H⟩ := bind_s H
 refine TD.as rfl rfl (o_callM [0, 1, 2, 3] rfl en_81 rfl rfl (impl_yserver_give_p false false h6) rfl (by decide) (.cons _ _ _ _ rfl (.cons _ _ _ _ (ren_at rfl (ren_rawO fun _ => rfl)) (.cons _ _ _ _ (ren_at rfl (ren_famO fun _ => rfl)) (.cons _ _ _ _ (ren_at rfl (ren_mpO fun _ => rfl)) .nil)))) rfl rfl (.cons _ _ _ _ rfl (.cons _ _ _ _ (ren_rawO fun _ => rfl) (.cons _ _ _ _ (ren_famO fun _ => rfl) (.cons _ _ _ _ (ren_mpO fun _ => rfl) .nil)))) rfl) ?_
 obtain ⟨w7, h8, H⟩ := bind_s H
 refine TD.rs rfl rfl (o_nilCheckP rfl rfl rfl h8) ?_
 refine TD.rs rfl rfl (o_fieldAddrP (a := w7) rfl rfl rfl tyS_9 (by decide) rfl rfl h8) ?_
 refine TD.rs rfl rfl (o_loadP (a := w7) rfl tyS_9 rfl rfl h8 (Nat.le_of_ble_eq_true rfl) rfl) ?_
 refine TD.rs rfl rfl (o_fieldAddr rfl rfl rfl tyS_9 (by decide) rfl rfl ⟨_, rfl, Nat.le_of_ble_eq_true rfl⟩) ?_
 refine TD.an rfl rfl (o_storeBx rfl tyS_9 rfl rfl rfl rfl (Nat.le_of_ble_eq_true rfl) rfl) ?_
 refine TD.nil ⟨rfl, ?_⟩
 refine thn_normal (T.seq (T.seq (T.region (TL.st rfl rfl rfl (o_fieldAddr rfl rfl rfl tyS_29 (by decide) rfl rfl ⟨_, rfl, Nat.le_of_ble_eq_true rfl⟩) ?_))))
 refine TL.st rfl rfl rfl (o_loadBx rfl tyS_29 rfl rfl (Nat.le_of_ble_eq_true rfl) rfl) ?_
 obtain ⟨r9, h10, H⟩ := bind_s H
 refine TL.st rfl rfl rfl (o_callP rfl en_32 rfl rfl (.cons _ _ _ _ (.cl _ rfl) (.cons _ _ _ _ (.cl _ rfl) .nil)) (slices_Contains_p false h10)) ?_
 refine TL.nil (thn_normal ?_)
 refine T.cond (r9) rfl (fun h => ?_) (fun h => ?_)
 ·replace H := cond_t h H
  refine T.drawn rfl ?_
  refine TD.qs rfl rfl (fun _ => o_move rfl rfl) (TD.qs rfl rfl (fun _ => o_move rfl rfl) (TD.rs rfl rfl (o_fieldAddr rfl rfl rfl tyS_9 (by decide) rfl rfl ⟨_, rfl, Nat.le_of_ble_eq_true rfl⟩) ?_))
  refine TD.rs rfl rfl (o_loadBx rfl tyS_9 rfl rfl (Nat.le_of_ble_eq_true rfl) rfl) ?_
  refine TD.qs rfl rfl (fun _ => o_move rfl rfl) (TD.qs rfl rfl (fun _ => o_move rfl rfl) (TD.qs rfl rfl (fun _ => o_move rfl rfl) (TD.qs rfl rfl (fun _ => o_nilCheck rfl rfl rfl) (TD.rs rfl rfl (o_fieldAddr rfl rfl rfl tyS_3 (by decide) rfl rfl ⟨_, rfl, Nat.le_of_ble_eq_true rfl⟩) ?_))))
  refine TD.rs rfl rfl (o_loadBx rfl tyS_3 rfl rfl (Nat.le_of_ble_eq_true rfl) rfl) ?_
  refine TD.qs rfl rfl (fun _ => o_move rfl rfl) (TD.qs rfl rfl (fun _ => o_nilCheck rfl rfl rfl) (TD.rs rfl rfl (o_fieldAddr rfl rfl rfl tyS_25 (by decide) rfl rfl ⟨_, rfl, Nat.le_of_ble_eq_true rfl⟩) ?_))
  refine TD.rs rfl rfl (o_fieldAddr rfl rfl rfl tyS_3 (by decide) rfl rfl ⟨_, rfl, Nat.le_of_ble_eq_true rfl⟩) ?_
  refine TD.rs rfl rfl (o_loadBx rfl tyS_3 rfl rfl (Nat.le_of_ble_eq_true rfl) rfl) ?_
  refine TD.qs rfl rfl (fun _ => o_ari rfl rfl rfl rfl) ?_
  refine TD.rs rfl rfl (Does.wkP (p := 2) rfl (.same _ _ _ (.same _ _ _ (.same _ _ _ (.same _ _ _ (.same _ _ _ (.same _ _ _ (.same _ _ _ (.same _ _ _ (.same _ _ _ (.same _ _ _ (.same _ _ _ (.same _ _ _ (.same _ _ _ (.same _ _ _ (.same _ _ _ (.same _ _ _ (.ptr 0 0 _ _ .nil))))))))))))))))) (o_build rfl ⟨_, fun _ => rfl, rfl⟩ rfl rfl rfl)) ?_
  obtain ⟨⟨r11, o12, o13⟩, h14, H⟩ := bind_s H
  refine TD.as rfl rfl (o_callM [0, 1, 2, 3] rfl en_81 rfl rfl (impl_yserver_give_p false false h14) rfl (by decide) (.cons _ _ _ _ rfl (.cons _ _ _ _ (ren_at rfl (ren_rawO fun _ => rfl)) (.cons _ _ _ _ (ren_at rfl (ren_famO fun _ => rfl)) (.cons _ _ _ _ (ren_at rfl (ren_mpO fun _ => rfl)) .nil)))) rfl rfl (.cons _ _ _ _ rfl (.cons _ _ _ _ (ren_rawO fun _ => rfl) (.cons _ _ _ _ (ren_famO fun _ => rfl) (.cons _ _ _ _ (ren_mpO fun _ => rfl) .nil)))) rfl) ?_
  obtain ⟨w15, h16, H⟩ := bind_s H
  refine TD.rs rfl rfl (o_nilCheckP rfl rfl rfl h16) ?_
  refine TD.rs rfl rfl (o_fieldAddrP (a := w15) rfl rfl rfl tyS_9 (by decide) rfl rfl h16) ?_
  refine TD.rs rfl rfl (o_loadP (a := w15) rfl tyS_9 rfl rfl h16 (Nat.le_of_ble_eq_true rfl) rfl) ?_
  refine TD.rs rfl rfl (o_fieldAddr rfl rfl rfl tyS_9 (by decide) rfl rfl ⟨_, rfl, Nat.le_of_ble_eq_true rfl⟩) ?_
  refine TD.an rfl rfl (o_storeBx rfl tyS_9 rfl rfl rfl rfl (Nat.le_of_ble_eq_true rfl) rfl) ?_
  refine TD.nil ⟨rfl, ?_⟩
  refine thn_normal (T.seq (T.conv (Cs.eqS (σ' := [.box (k_impl_yserver 1 3 2 false o12), .arr .raw 1 (o12.held_.map (c_px 2)), .fam (o13.map (c_T_impl_yheld 2 false)), mpO (V.int .i64) (V.bool) o12.ended_, .box (c_T_impl_Client false a0), .box [.int .i64 0, .str (ByteArray.mk #[]), .str (ByteArray.mk #[]), .str (ByteArray.mk #[]), .nilS, .str (ByteArray.mk #[]), .str (ByteArray.mk #[]), .bool false], .box [.int .i64 0, .str (ByteArray.mk #[]), .str w7.handle_, .str w15.handle_, .im false (r1.map (c_str)), .str a2, .str (ByteArray.mk #[]), .bool false]]) rfl) ?_))
  refine T.region (TL.st rfl rfl rfl (o_loadBx rfl tyS_84 rfl rfl (Nat.le_of_ble_eq_true rfl) rfl) ?_)
  refine TL.sn rfl rfl (o_storeBx rfl tyS_84 rfl rfl rfl rfl (Nat.le_of_ble_eq_true rfl) rfl) ?_
  refine TL.nil (thn_normal (T.ret ?_))
  cases some_i H
  exact ⟨trivial, _, (.cell _ _ _ _ _ _ _ _ _ _ rfl rfl tyS_84 (Nat.le_of_ble_eq_true rfl) rfl .nil), ⟨rfl, _, rfl⟩⟩
 ·replace H := cond_f h H
  refine T.skip (thn_normal (T.seq (T.region (TL.st rfl rfl rfl (o_loadBx rfl tyS_84 rfl rfl (Nat.le_of_ble_eq_true rfl) rfl) ?_))))
  refine TL.sn rfl rfl (o_storeBx rfl tyS_84 rfl rfl rfl rfl (Nat.le_of_ble_eq_true rfl) rfl) ?_
  refine TL.nil (thn_normal (T.conv (Cs.eqS (σ' := [.box (k_impl_yserver 1 3 2 false o4), .arr .raw 1 (o4.held_.map (c_px 2)), .fam (o5.map (c_T_impl_yheld 2 false)), mpO (V.int .i64) (V.bool) o4.ended_, .box (c_T_impl_Client false a0), .box [.int .i64 0, .str (ByteArray.mk #[]), .str w7.handle_, .str (ByteArray.mk #[]), .im false (r1.map (c_str)), .str a2, .str (ByteArray.mk #[]), .bool false], .box [.int .i64 0, .str (ByteArray.mk #[]), .str w7.handle_, .str (ByteArray.mk #[]), .im false (r1.map (c_str)), .str a2, .str (ByteArray.mk #[]), .bool false]]) rfl) ?_))
  refine T.ret ?_
  cases some_i H
  exact ⟨trivial, _, (.cell _ _ _ _ _ _ _ _ _ _ rfl rfl tyS_84 (Nat.le_of_ble_eq_true rfl) rfl .nil), ⟨rfl, _, rfl⟩⟩
theorem en_82 (us : Array Value) (w : World) : (callFunc 82 us).run Go.Proofs.Tryz.prog w = .ok (.enter 82 us) w := enters Go.Proofs.Tryz.func82 rfl rfl us w
noncomputable def impl_yserver_redeem (a0 : T_impl_Client) (a1 : T_impl_GrantAsk) (s0 : T_impl_yserver) (s2 : List T_impl_yheld) : Option (T_impl_GrantReply × T_impl_yserver × List T_impl_yheld) :=
  (impl_yserver_findOf (ByteArray.mk #[99, 111, 100, 101]) a1 s0 s2).bind fun r1 => cond (decide (r1 < 0)) (some ((⟨8, (ByteArray.mk #[]), (ByteArray.mk #[]), (ByteArray.mk #[]), ([] : List ByteArray), (ByteArray.mk #[]), (ByteArray.mk #[]), false⟩ : T_impl_GrantReply), s0, s2)) ((idx s2 r1).bind fun w3 => cond w3.used_ (some ((⟨9, (ByteArray.mk #[]), (ByteArray.mk #[]), (ByteArray.mk #[]), ([] : List ByteArray), (ByteArray.mk #[]), (ByteArray.mk #[]), false⟩ : T_impl_GrantReply), ({ s0 with ended_ := (mput s0.ended_ w3.grant_ true) } : T_impl_yserver), s2)) ((idx (s2.set (Int.toNat r1) ({ w3 with used_ := true } : T_impl_yheld)) r1).bind fun w5 => cond (decide (s0.now_ > w5.until_)) (some ((⟨10, (ByteArray.mk #[]), (ByteArray.mk #[]), (ByteArray.mk #[]), ([] : List ByteArray), (ByteArray.mk #[]), (ByteArray.mk #[]), false⟩ : T_impl_GrantReply), s0, (s2.set (Int.toNat r1) ({ w3 with used_ := true } : T_impl_yheld)))) (cond (!(a1.Redirect_.toList == w5.redirect_.toList)) (some ((⟨11, (ByteArray.mk #[]), (ByteArray.mk #[]), (ByteArray.mk #[]), ([] : List ByteArray), (ByteArray.mk #[]), (ByteArray.mk #[]), false⟩ : T_impl_GrantReply), s0, (s2.set (Int.toNat r1) ({ w3 with used_ := true } : T_impl_yheld)))) ((impl_ChallengeOf a1.Verifier_).bind fun r7 => cond (!(r7.toList == w5.challenge_.toList)) (some ((⟨12, (ByteArray.mk #[]), (ByteArray.mk #[]), (ByteArray.mk #[]), ([] : List ByteArray), (ByteArray.mk #[]), (ByteArray.mk #[]), false⟩ : T_impl_GrantReply), s0, (s2.set (Int.toNat r1) ({ w3 with used_ := true } : T_impl_yheld)))) ((impl_yserver_tokens a0 w5.grant_ w5.user_ w5.scopes_ s0 (s2.set (Int.toNat r1) ({ w3 with used_ := true } : T_impl_yheld))).bind fun q => (match q with | (r9, o10, o11) => some (r9, o10, o11)))))))
theorem impl_yserver_redeem_p (_u0 : Bool) (_u1 : Bool) (_u2 : Bool) {a0 : T_impl_Client} {a1 : T_impl_GrantAsk} {s0 : T_impl_yserver} {s2 : List T_impl_yheld} {R0 : T_impl_GrantReply} {U0 : T_impl_yserver} {U2 : List T_impl_yheld} (H : impl_yserver_redeem a0 a1 s0 s2 = some (R0, U0, U2)) : St Go.Proofs.Tryz.prog 61 [.bx 0 0, .agg (c_T_impl_Client false a0), .agg (c_T_impl_GrantAsk false a1)] [.box (k_impl_yserver 1 3 2 false s0), .arr .raw 1 (s0.held_.map (c_px 2)), .fam (s2.map (c_T_impl_yheld 2 false)), mpO (V.int .i64) (V.bool) s0.ended_] (.agg (c_T_impl_GrantReply false R0)) [.box (k_impl_yserver 1 3 2 false (⟨U0.s_, U0.now_, U0.held_, default, U0.grants_⟩ : T_impl_yserver)), .arr .raw 1 (U0.held_.map (c_px 2)), .fam (U2.map (c_T_impl_yheld 2 false)), mpO (V.int .i64) (V.bool) U0.ended_] := by
 refine CallT.fin (CallT.of_TN (n := 75) Go.Proofs.Tryz.func61 rfl rfl rfl rfl ?_) rfl rfl ⟨(bels_iff.1 rfl), ⟨(belRaw fun _ => rfl), ⟨(belFam fun _ => rfl), ⟨(belMap fun _ => rfl), trivial⟩⟩⟩⟩
 refine T.seq (T.region (TL.st rfl rfl rfl (o_box rfl rfl rfl) (TL.st rfl rfl rfl (o_box rfl rfl rfl) (TL.st rfl rfl rfl (o_alloc rfl ⟨_, rfl, rfl⟩) (TL.nil (thn_normal (T.seq (T.conv (Cs.eqS (σ' := [.box (k_impl_yserver 1 3 2 false s0), .arr .raw 1 (s0.held_.map (c_px 2)), .fam (s2.map (c_T_impl_yheld 2 false)), mpO (V.int .i64) (V.bool) s0.ended_, .box (c_T_impl_Client false a0), .box (c_T_impl_GrantAsk false a1), .box [.int .i64 0, .str (ByteArray.mk #[]), .str (ByteArray.mk #[]), .str (ByteArray.mk #[]), .nilS, .str (ByteArray.mk #[]), .str (ByteArray.mk #[]), .bool false]]) rfl) ?_))))))))
 refine T.region (TL.st rfl rfl rfl (o_move rfl rfl) (TL.st rfl rfl rfl (o_loadBx rfl tyS_82 rfl rfl (Nat.le_of_ble_eq_true rfl) rfl) ?_))
 obtain ⟨r1, h2, H⟩ := bind_s H
 refine TL.st rfl rfl rfl (o_callM [0, 1, 2, 3] rfl en_70 rfl rfl (impl_yserver_findOf_p false false h2) rfl (by decide) (.cons _ _ _ _ rfl (.cons _ _ _ _ (ren_at rfl (ren_rawO fun _ => rfl)) (.cons _ _ _ _ (ren_at rfl (ren_famO fun _ => rfl)) (.cons _ _ _ _ (ren_at rfl (ren_mpO fun _ => rfl)) .nil)))) rfl rfl (.cons _ _ _ _ rfl (.cons _ _ _ _ (ren_rawO fun _ => rfl) (.cons _ _ _ _ (ren_famO fun _ => rfl) (.cons _ _ _ _ (ren_mpO fun _ => rfl) .nil)))) rfl) ?_
 refine TL.st rfl rfl rfl (o_assign rfl rfl) (TL.nil (thn_normal (T.seq (T.seq (T.region (TL.st rfl rfl rfl (o_move rfl rfl) (TL.st rfl rfl rfl (o_pxEq rfl rfl rfl rfl) ?_)))))))
 refine TL.nil (thn_normal ?_)
 refine T.cond (decide (r1 < 0)) rfl (fun h => ?_) (fun h => ?_)
 ·replace H := cond_t h H
  refine T.seq (T.region (TL.st rfl rfl rfl (o_build rfl ⟨_, fun _ => rfl, rfl⟩ rfl rfl rfl) ?_))
  refine TL.sn rfl rfl (o_storeBx rfl tyS_84 rfl rfl rfl rfl (Nat.le_of_ble_eq_true rfl) rfl) ?_
  refine TL.nil (thn_normal (T.conv (Cs.nilCell (q := 6) 4 rfl rfl) ?_))
  refine T.ret (thn_ret ?_)
  cases some_i H
  exact ⟨trivial, _, (.cell _ _ _ _ _ _ _ _ _ _ rfl rfl tyS_84 (Nat.le_of_ble_eq_true rfl) rfl .nil), ⟨rfl, _, rfl⟩⟩
 ·replace H := cond_f h H
  refine T.skip (thn_normal (T.seq (T.seq (T.region (TL.st rfl rfl rfl (o_move rfl rfl) ?_)))))
  obtain ⟨w3, h4, H⟩ := bind_s H
  refine TL.st rfl rfl rfl (o_nilCheckP rfl rfl rfl h4) ?_
  refine TL.st rfl rfl rfl (o_fieldAddrP (a := w3) rfl rfl rfl tyS_4 (by decide) rfl rfl h4) ?_
  refine TL.st rfl rfl rfl (o_loadP (a := w3) rfl tyS_4 rfl rfl h4 (Nat.le_of_ble_eq_true rfl) rfl) ?_
  refine TL.nil (thn_normal ?_)
  refine T.cond (w3.used_) rfl (fun h => ?_) (fun h => ?_)
  ·replace H := cond_t h H
   refine T.seq (T.drawn rfl ?_)
   refine TD.qs rfl rfl (fun _ => o_move rfl rfl) (TD.qs rfl rfl (fun _ => o_nilCheck rfl rfl rfl) (TD.rs rfl rfl (o_fieldAddr rfl rfl rfl tyS_77 (by decide) rfl rfl ⟨_, rfl, Nat.le_of_ble_eq_true rfl⟩) ?_))
   refine TD.rs rfl rfl (o_loadBx rfl tyS_77 rfl rfl (Nat.le_of_ble_eq_true rfl) rfl) ?_
   refine TD.qs rfl rfl (fun _ => o_move rfl rfl) (TD.rs rfl rfl (o_nilCheckP rfl rfl rfl h4) ?_)
   refine TD.rs rfl rfl (o_fieldAddrP (a := w3) rfl rfl rfl tyS_3 (by decide) rfl rfl h4) ?_
   refine TD.rs rfl rfl (o_loadP (a := w3) rfl tyS_3 rfl rfl h4 (Nat.le_of_ble_eq_true rfl) rfl) ?_
   refine TD.an rfl rfl (o_mapUpdate (p := 3) (fk := V.int .i64) (fv := V.bool) (xs := s0.ended_) rfl rfl (key_int rfl) rfl rfl rfl rfl rfl) ?_
   refine TD.nil ⟨rfl, ?_⟩
   refine thn_normal (T.seq (T.region (TL.st rfl rfl rfl (o_build rfl ⟨_, fun _ => rfl, rfl⟩ rfl rfl rfl) ?_)))
   refine TL.sn rfl rfl (o_storeBx rfl tyS_84 rfl rfl rfl rfl (Nat.le_of_ble_eq_true rfl) rfl) ?_
   refine TL.nil (thn_normal (T.conv (Cs.eqS (σ' := [.box (k_impl_yserver 1 3 2 false s0), .arr .raw 1 (s0.held_.map (c_px 2)), .fam (s2.map (c_T_impl_yheld 2 false)), mpO (V.int .i64) (V.bool) (mput s0.ended_ w3.grant_ true), .box (c_T_impl_Client false a0), .box (c_T_impl_GrantAsk false a1), .box [.int .i64 9, .str (ByteArray.mk #[]), .str (ByteArray.mk #[]), .str (ByteArray.mk #[]), .nilS, .str (ByteArray.mk #[]), .str (ByteArray.mk #[]), .bool false]]) rfl) ?_))
   refine T.conv (Cs.nilCell (q := 6) 4 rfl rfl) ?_
   refine T.ret (thn_ret ?_)
   cases some_i H
   exact ⟨trivial, _, (.cell _ _ _ _ _ _ _ _ _ _ rfl rfl tyS_84 (Nat.le_of_ble_eq_true rfl) rfl .nil), ⟨rfl, _, rfl⟩⟩
  ·replace H := cond_f h H
   refine T.skip (thn_normal (T.seq (T.region (TL.st rfl rfl rfl (o_move rfl rfl) (TL.st rfl rfl rfl (o_nilCheckP rfl rfl rfl h4) ?_)))))
   refine TL.st rfl rfl rfl (o_fieldAddrP (a := w3) rfl rfl rfl tyS_4 (by decide) rfl rfl h4) ?_
   refine TL.sn rfl rfl (o_storeP (a := w3) (a' := ({ w3 with used_ := true } : T_impl_yheld)) rfl tyS_4 rfl rfl rfl h4 rfl (Nat.le_of_ble_eq_true rfl) rfl rfl) ?_
   refine TL.nil (thn_normal (T.seq (T.block (T.seq (T.drawn rfl ?_)))))
   refine TD.qs rfl rfl (fun _ => o_move rfl rfl) (TD.qs rfl rfl (fun _ => o_nilCheck rfl rfl rfl) (TD.rs rfl rfl (o_fieldAddr rfl rfl rfl tyS_3 (by decide) rfl rfl ⟨_, rfl, Nat.le_of_ble_eq_true rfl⟩) ?_))
   refine TD.rs rfl rfl (o_loadBx rfl tyS_3 rfl rfl (Nat.le_of_ble_eq_true rfl) rfl) ?_
   refine TD.qs rfl rfl (fun _ => o_move rfl rfl) ?_
   obtain ⟨w5, h6, H⟩ := bind_s H
   refine TD.rs rfl rfl (o_nilCheckP rfl rfl rfl h6) ?_
   refine TD.rs rfl rfl (o_fieldAddrP (a := w5) rfl rfl rfl tyS_3 (by decide) rfl rfl h6) ?_
   refine TD.rs rfl rfl (o_loadP (a := w5) rfl tyS_3 rfl rfl h6 (Nat.le_of_ble_eq_true rfl) rfl) ?_
   refine TD.qs rfl rfl (fun _ => o_ari rfl rfl rfl rfl) ?_
   refine TD.qs rfl rfl (fun _ => o_assign rfl rfl) ?_
   refine TD.nil ⟨rfl, ?_⟩
   refine thn_normal ?_
   refine T.cond (decide (s0.now_ > w5.until_)) rfl (fun h => ?_) (fun h => ?_)
   ·replace H := cond_t h H
    refine T.seq (T.region (TL.st rfl rfl rfl (o_build rfl ⟨_, fun _ => rfl, rfl⟩ rfl rfl rfl) ?_))
    refine TL.sn rfl rfl (o_storeBx rfl tyS_84 rfl rfl rfl rfl (Nat.le_of_ble_eq_true rfl) rfl) ?_
    refine TL.nil (thn_normal (T.conv (Cs.eqS (σ' := [.box (k_impl_yserver 1 3 2 false s0), .arr .raw 1 (s0.held_.map (c_px 2)), .fam ((s2.set (Int.toNat r1) ({ w3 with used_ := true } : T_impl_yheld)).map (c_T_impl_yheld 2 false)), mpO (V.int .i64) (V.bool) s0.ended_, .box (c_T_impl_Client false a0), .box (c_T_impl_GrantAsk false a1), .box [.int .i64 10, .str (ByteArray.mk #[]), .str (ByteArray.mk #[]), .str (ByteArray.mk #[]), .nilS, .str (ByteArray.mk #[]), .str (ByteArray.mk #[]), .bool false]]) rfl) ?_))
    refine T.conv (Cs.nilCell (q := 6) 4 rfl rfl) ?_
    refine T.ret (inB_ret (thn_ret ?_))
    cases some_i H
    exact ⟨trivial, _, (.cell _ _ _ _ _ _ _ _ _ _ rfl rfl tyS_84 (Nat.le_of_ble_eq_true rfl) rfl .nil), ⟨rfl, _, rfl⟩⟩
   ·replace H := cond_f h H
    refine T.seq (T.drawn rfl ?_)
    refine TD.rs rfl rfl (o_fieldAddr rfl rfl rfl tyS_9 (by decide) rfl rfl ⟨_, rfl, Nat.le_of_ble_eq_true rfl⟩) ?_
    refine TD.rs rfl rfl (o_loadBx rfl tyS_9 rfl rfl (Nat.le_of_ble_eq_true rfl) rfl) ?_
    refine TD.qs rfl rfl (fun _ => o_move rfl rfl) (TD.rs rfl rfl (o_nilCheckP rfl rfl rfl h6) ?_)
    refine TD.rs rfl rfl (o_fieldAddrP (a := w5) rfl rfl rfl tyS_9 (by decide) rfl rfl h6) ?_
    refine TD.rs rfl rfl (o_loadP (a := w5) rfl tyS_9 rfl rfl h6 (Nat.le_of_ble_eq_true rfl) rfl) ?_
    refine TD.qs rfl rfl (fun _ => o_str rfl rfl rfl rfl) ?_
    refine TD.qs rfl rfl (fun _ => o_assign rfl rfl) ?_
    refine TD.nil ⟨rfl, ?_⟩
    refine thn_normal ?_
    refine T.cond ((!(a1.Redirect_.toList == w5.redirect_.toList))) rfl (fun h => ?_) (fun h => ?_)
    ·replace H := cond_t h H
     refine T.seq (T.region (TL.st rfl rfl rfl (o_build rfl ⟨_, fun _ => rfl, rfl⟩ rfl rfl rfl) ?_))
     refine TL.sn rfl rfl (o_storeBx rfl tyS_84 rfl rfl rfl rfl (Nat.le_of_ble_eq_true rfl) rfl) ?_
     refine TL.nil (thn_normal (T.conv (Cs.eqS (σ' := [.box (k_impl_yserver 1 3 2 false s0), .arr .raw 1 (s0.held_.map (c_px 2)), .fam ((s2.set (Int.toNat r1) ({ w3 with used_ := true } : T_impl_yheld)).map (c_T_impl_yheld 2 false)), mpO (V.int .i64) (V.bool) s0.ended_, .box (c_T_impl_Client false a0), .box (c_T_impl_GrantAsk false a1), .box [.int .i64 11, .str (ByteArray.mk #[]), .str (ByteArray.mk #[]), .str (ByteArray.mk #[]), .nilS, .str (ByteArray.mk #[]), .str (ByteArray.mk #[]), .bool false]]) rfl) ?_))
     refine T.conv (Cs.nilCell (q := 6) 4 rfl rfl) ?_
     refine T.ret (inB_ret (thn_ret ?_))
     cases some_i H
     exact ⟨trivial, _, (.cell _ _ _ _ _ _ _ _ _ _ rfl rfl tyS_84 (Nat.le_of_ble_eq_true rfl) rfl .nil), ⟨rfl, _, rfl⟩⟩
    ·replace H := cond_f h H
     refine T.seq (T.drawn rfl ?_)
     refine TD.rs rfl rfl (o_fieldAddr rfl rfl rfl tyS_9 (by decide) rfl rfl ⟨_, rfl, Nat.le_of_ble_eq_true rfl⟩) ?_
     refine TD.rs rfl rfl (o_loadBx rfl tyS_9 rfl rfl (Nat.le_of_ble_eq_true rfl) rfl) ?_
     obtain ⟨r7, h8, H⟩ := bind_s H
     refine TD.qs rfl rfl (fun _ => o_callP rfl en_72 rfl rfl (.cons _ _ _ _ (.cl _ rfl) .nil) (impl_ChallengeOf_p  h8)) ?_
     refine TD.qs rfl rfl (fun _ => o_move rfl rfl) (TD.rs rfl rfl (o_nilCheckP rfl rfl rfl h6) ?_)
     refine TD.rs rfl rfl (o_fieldAddrP (a := w5) rfl rfl rfl tyS_9 (by decide) rfl rfl h6) ?_
     refine TD.rs rfl rfl (o_loadP (a := w5) rfl tyS_9 rfl rfl h6 (Nat.le_of_ble_eq_true rfl) rfl) ?_
     refine TD.qs rfl rfl (fun _ => o_str rfl rfl rfl rfl) ?_
     refine TD.qs rfl rfl (fun _ => o_assign rfl rfl) ?_
     refine TD.nil ⟨rfl, ?_⟩
     refine thn_normal ?_
     refine T.cond ((!(r7.toList == w5.challenge_.toList))) rfl (fun h => ?_) (fun h => ?_)
     ·replace H := cond_t h H
      refine T.seq (T.region (TL.st rfl rfl rfl (o_build rfl ⟨_, fun _ => rfl, rfl⟩ rfl rfl rfl) ?_))
      refine TL.sn rfl rfl (o_storeBx rfl tyS_84 rfl rfl rfl rfl (Nat.le_of_ble_eq_true rfl) rfl) ?_
      refine TL.nil (thn_normal (T.conv (Cs.eqS (σ' := [.box (k_impl_yserver 1 3 2 false s0), .arr .raw 1 (s0.held_.map (c_px 2)), .fam ((s2.set (Int.toNat r1) ({ w3 with used_ := true } : T_impl_yheld)).map (c_T_impl_yheld 2 false)), mpO (V.int .i64) (V.bool) s0.ended_, .box (c_T_impl_Client false a0), .box (c_T_impl_GrantAsk false a1), .box [.int .i64 12, .str (ByteArray.mk #[]), .str (ByteArray.mk #[]), .str (ByteArray.mk #[]), .nilS, .str (ByteArray.mk #[]), .str (ByteArray.mk #[]), .bool false]]) rfl) ?_))
      refine T.conv (Cs.nilCell (q := 6) 4 rfl rfl) ?_
      refine T.ret (inB_ret (thn_ret ?_))
      cases some_i H
      exact ⟨trivial, _, (.cell _ _ _ _ _ _ _ _ _ _ rfl rfl tyS_84 (Nat.le_of_ble_eq_true rfl) rfl .nil), ⟨rfl, _, rfl⟩⟩
     ·replace H := cond_f h H
      refine T.skip (inB_normal (thn_normal (T.seq (T.drawn rfl ?_))))
      refine TD.qs rfl rfl (fun _ => o_move rfl rfl) (TD.rs rfl rfl (o_loadBx rfl tyS_50 rfl rfl (Nat.le_of_ble_eq_true rfl) rfl) ?_)
      refine TD.qs rfl rfl (fun _ => o_move rfl rfl) (TD.rs rfl rfl (o_nilCheckP rfl rfl rfl h6) ?_)
      refine TD.rs rfl rfl (o_fieldAddrP (a := w5) rfl rfl rfl tyS_3 (by decide) rfl rfl h6) ?_
      refine TD.rs rfl rfl (o_loadP (a := w5) rfl tyS_3 rfl rfl h6 (Nat.le_of_ble_eq_true rfl) rfl) ?_
      refine TD.qs rfl rfl (fun _ => o_move rfl rfl) (TD.rs rfl rfl (o_nilCheckP rfl rfl rfl h6) ?_)
      refine TD.rs rfl rfl (o_fieldAddrP (a := w5) rfl rfl rfl tyS_9 (by decide) rfl rfl h6) ?_
      refine TD.rs rfl rfl (o_loadP (a := w5) rfl tyS_9 rfl rfl h6 (Nat.le_of_ble_eq_true rfl) rfl) ?_
      refine TD.qs rfl rfl (fun _ => o_move rfl rfl) (TD.rs rfl rfl (o_nilCheckP rfl rfl rfl h6) ?_)
      refine TD.rs rfl rfl (o_fieldAddrP (a := w5) rfl rfl rfl tyS_30 (by decide) rfl rfl h6) ?_
      refine TD.rs rfl rfl (o_loadP (a := w5) rfl tyS_30 rfl rfl h6 (Nat.le_of_ble_eq_true rfl) rfl) ?_
      obtain ⟨⟨r9, o10, o11⟩, h12, H⟩ := bind_s H
      refine TD.as rfl rfl (o_callM [0, 1, 2, 3] rfl en_82 rfl rfl (impl_yserver_tokens_p false false false h12) rfl (by decide) (.cons _ _ _ _ rfl (.cons _ _ _ _ (ren_at rfl (ren_rawO fun _ => rfl)) (.cons _ _ _ _ (ren_at rfl (ren_famO fun _ => rfl)) (.cons _ _ _ _ (ren_at rfl (ren_mpO fun _ => rfl)) .nil)))) rfl rfl (.cons _ _ _ _ rfl (.cons _ _ _ _ (ren_rawO fun _ => rfl) (.cons _ _ _ _ (ren_famO fun _ => rfl) (.cons _ _ _ _ (ren_mpO fun _ => rfl) .nil)))) rfl) ?_
      refine TD.an rfl rfl (o_storeBx rfl tyS_84 rfl rfl rfl rfl (Nat.le_of_ble_eq_true rfl) rfl) ?_
      refine TD.nil ⟨rfl, ?_⟩
      refine thn_normal (T.conv (Cs.eqS (σ' := [.box (k_impl_yserver 1 3 2 false o10), .arr .raw 1 (o10.held_.map (c_px 2)), .fam (o11.map (c_T_impl_yheld 2 false)), mpO (V.int .i64) (V.bool) o10.ended_, .box (c_T_impl_Client false a0), .box (c_T_impl_GrantAsk false a1), .box (c_T_impl_GrantReply false r9)]) rfl) ?_)
      refine T.ret ?_
      cases some_i H
      exact ⟨trivial, _, (.cell _ _ _ _ _ _ _ _ _ _ rfl rfl tyS_84 (Nat.le_of_ble_eq_true rfl) rfl .nil), ⟨rfl, _, rfl⟩⟩
theorem en_61 (us : Array Value) (w : World) : (callFunc 61 us).run Go.Proofs.Tryz.prog w = .ok (.enter 61 us) w := enters Go.Proofs.Tryz.func61 rfl rfl us w
noncomputable def impl_yserver_refresh_j1 (a0 : T_impl_Client) (s0 : T_impl_yserver) (s2 : List T_impl_yheld) (r1 : Int) (w3 : T_impl_yheld) (v13 : (List ByteArray)) : Option (T_impl_GrantReply × T_impl_yserver × List T_impl_yheld) :=
  (slices_Clone v13).bind fun r14 => (idx (s2.set (Int.toNat r1) ({ w3 with used_ := true } : T_impl_yheld)) r1).bind fun w16 => (impl_yserver_give (⟨(ByteArray.mk #[97, 99, 99, 101, 115, 115]), (ByteArray.mk #[]), w16.grant_, a0.Id_, w16.user_, v13, (ByteArray.mk #[]), (ByteArray.mk #[]), (ByteArray.mk #[]), (IntKind.i64.wrap (s0.now_ + s0.s_.Short_)), false, false, false, false, false, 0, (-1)⟩ : T_impl_yheld) s0 (s2.set (Int.toNat r1) ({ w3 with used_ := true } : T_impl_yheld))).bind fun q => (match q with | (r18, o19, o20) => (idx o20 r18).bind fun w22 => (idx o20 r1).bind fun w24 => (impl_yserver_give ({ w24 with kind_ := (ByteArray.mk #[114, 101, 102, 114, 101, 115, 104]), handle_ := (ByteArray.mk #[]), client_ := a0.Id_, audience_ := (ByteArray.mk #[]), redirect_ := (ByteArray.mk #[]), challenge_ := (ByteArray.mk #[]), until_ := (IntKind.i64.wrap (o19.now_ + o19.s_.Long_)), used_ := false, revoked_ := false, approved_ := false, denied_ := false, polled_ := false, last_ := 0, of_ := (-1) } : T_impl_yheld) o19 o20).bind fun q => (match q with | (r26, o27, o28) => (idx o28 r26).bind fun w30 => some ((⟨0, (ByteArray.mk #[]), w22.handle_, w30.handle_, r14, w16.user_, (ByteArray.mk #[]), false⟩ : T_impl_GrantReply), o27, o28)))
noncomputable def impl_yserver_refresh (a0 : T_impl_Client) (a1 : T_impl_GrantAsk) (s0 : T_impl_yserver) (s2 : List T_impl_yheld) : Option (T_impl_GrantReply × T_impl_yserver × List T_impl_yheld) :=
  (impl_yserver_findOf (ByteArray.mk #[114, 101, 102, 114, 101, 115, 104]) a1 s0 s2).bind fun r1 => cond (decide (r1 < 0)) (some ((⟨13, (ByteArray.mk #[]), (ByteArray.mk #[]), (ByteArray.mk #[]), ([] : List ByteArray), (ByteArray.mk #[]), (ByteArray.mk #[]), false⟩ : T_impl_GrantReply), s0, s2)) ((idx s2 r1).bind fun w3 => (gdO (!w3.used_) (idx s2 r1)).bind fun w5 => (gdO (!w3.used_) (idx s2 r1)).bind fun w7 => (gdO (!w3.used_) (idx s2 r1)).bind fun w9 => cond (w3.used_ || ((mget s0.ended_ w9.grant_).getD false)) (some ((⟨14, (ByteArray.mk #[]), (ByteArray.mk #[]), (ByteArray.mk #[]), ([] : List ByteArray), (ByteArray.mk #[]), (ByteArray.mk #[]), false⟩ : T_impl_GrantReply), ({ s0 with ended_ := (mput s0.ended_ w3.grant_ true) } : T_impl_yserver), s2)) (cond (decide (s0.now_ > w3.until_)) (some ((⟨10, (ByteArray.mk #[]), (ByteArray.mk #[]), (ByteArray.mk #[]), ([] : List ByteArray), (ByteArray.mk #[]), (ByteArray.mk #[]), false⟩ : T_impl_GrantReply), s0, s2)) ((impl_yamong a1.Scopes_ w3.scopes_).bind fun r11 => cond (!r11) (some ((⟨4, (ByteArray.mk #[]), (ByteArray.mk #[]), (ByteArray.mk #[]), ([] : List ByteArray), (ByteArray.mk #[]), (ByteArray.mk #[]), false⟩ : T_impl_GrantReply), s0, s2)) (cond ((a1.Scopes_.length : Int) == 0) ((idx (s2.set (Int.toNat r1) ({ w3 with used_ := true } : T_impl_yheld)) r1).bind fun w32 => impl_yserver_refresh_j1 a0 s0 s2 r1 w3 w32.scopes_) (impl_yserver_refresh_j1 a0 s0 s2 r1 w3 a1.Scopes_)))))
theorem impl_yserver_refresh_p (_u0 : Bool) (_u1 : Bool) (_u2 : Bool) {a0 : T_impl_Client} {a1 : T_impl_GrantAsk} {s0 : T_impl_yserver} {s2 : List T_impl_yheld} {R0 : T_impl_GrantReply} {U0 : T_impl_yserver} {U2 : List T_impl_yheld} (H : impl_yserver_refresh a0 a1 s0 s2 = some (R0, U0, U2)) : St Go.Proofs.Tryz.prog 62 [.bx 0 0, .agg (c_T_impl_Client false a0), .agg (c_T_impl_GrantAsk false a1)] [.box (k_impl_yserver 1 3 2 false s0), .arr .raw 1 (s0.held_.map (c_px 2)), .fam (s2.map (c_T_impl_yheld 2 false)), mpO (V.int .i64) (V.bool) s0.ended_] (.agg (c_T_impl_GrantReply false R0)) [.box (k_impl_yserver 1 3 2 false (⟨U0.s_, U0.now_, U0.held_, default, U0.grants_⟩ : T_impl_yserver)), .arr .raw 1 (U0.held_.map (c_px 2)), .fam (U2.map (c_T_impl_yheld 2 false)), mpO (V.int .i64) (V.bool) U0.ended_] := by
 refine CallT.fin (CallT.of_TN (n := 142) Go.Proofs.Tryz.func62 rfl rfl rfl rfl ?_) rfl rfl ⟨(bels_iff.1 rfl), ⟨(belRaw fun _ => rfl), ⟨(belFam fun _ => rfl), ⟨(belMap fun _ => rfl), trivial⟩⟩⟩⟩
 refine T.seq (T.region (TL.st rfl rfl rfl (o_box rfl rfl rfl) (TL.st rfl rfl rfl (o_box rfl rfl rfl) (TL.st rfl rfl rfl (o_alloc rfl ⟨_, rfl, rfl⟩) (TL.nil (thn_normal (T.seq (T.conv (Cs.eqS (σ' := [.box (k_impl_yserver 1 3 2 false s0), .arr .raw 1 (s0.held_.map (c_px 2)), .fam (s2.map (c_T_impl_yheld 2 false)), mpO (V.int .i64) (V.bool) s0.ended_, .box (c_T_impl_Client false a0), .box (c_T_impl_GrantAsk false a1), .box [.int .i64 0, .str (ByteArray.mk #[]), .str (ByteArray.mk #[]), .str (ByteArray.mk #[]), .nilS, .str (ByteArray.mk #[]), .str (ByteArray.mk #[]), .bool false]]) rfl) ?_))))))))
 refine T.region (TL.st rfl rfl rfl (o_move rfl rfl) (TL.st rfl rfl rfl (o_loadBx rfl tyS_82 rfl rfl (Nat.le_of_ble_eq_true rfl) rfl) ?_))
 obtain ⟨r1, h2, H⟩ := bind_s H
 refine TL.st rfl rfl rfl (o_callM [0, 1, 2, 3] rfl en_70 rfl rfl (impl_yserver_findOf_p false false h2) rfl (by decide) (.cons _ _ _ _ rfl (.cons _ _ _ _ (ren_at rfl (ren_rawO fun _ => rfl)) (.cons _ _ _ _ (ren_at rfl (ren_famO fun _ => rfl)) (.cons _ _ _ _ (ren_at rfl (ren_mpO fun _ => rfl)) .nil)))) rfl rfl (.cons _ _ _ _ rfl (.cons _ _ _ _ (ren_rawO fun _ => rfl) (.cons _ _ _ _ (ren_famO fun _ => rfl) (.cons _ _ _ _ (ren_mpO fun _ => rfl) .nil)))) rfl) ?_
 refine TL.st rfl rfl rfl (o_assign rfl rfl) (TL.nil (thn_normal (T.seq (T.block (T.seq (T.region (TL.st rfl rfl rfl (o_move rfl rfl) (TL.st rfl rfl rfl (o_pxEq rfl rfl rfl rfl) ?_))))))))
 refine TL.st rfl rfl rfl (o_assign rfl rfl) (TL.nil (thn_normal ?_))
 refine T.cond (decide (r1 < 0)) rfl (fun h => ?_) (fun h => ?_)
 ·replace H := cond_t h H
  refine T.seq (T.region (TL.st rfl rfl rfl (o_build rfl ⟨_, fun _ => rfl, rfl⟩ rfl rfl rfl) ?_))
  refine TL.sn rfl rfl (o_storeBx rfl tyS_84 rfl rfl rfl rfl (Nat.le_of_ble_eq_true rfl) rfl) ?_
  refine TL.nil (thn_normal (T.conv (Cs.nilCell (q := 6) 4 rfl rfl) ?_))
  refine T.ret (inB_ret (thn_ret ?_))
  cases some_i H
  exact ⟨trivial, _, (.cell _ _ _ _ _ _ _ _ _ _ rfl rfl tyS_84 (Nat.le_of_ble_eq_true rfl) rfl .nil), ⟨rfl, _, rfl⟩⟩
 ·replace H := cond_f h H
  refine T.seq (T.drawn rfl ?_)
  refine TD.qs rfl rfl (fun _ => o_move rfl rfl) ?_
  obtain ⟨w3, h4, H⟩ := bind_s H
  refine TD.rs rfl rfl (o_nilCheckP rfl rfl rfl h4) ?_
  refine TD.rs rfl rfl (o_fieldAddrP (a := w3) rfl rfl rfl tyS_4 (by decide) rfl rfl h4) ?_
  refine TD.rs rfl rfl (o_loadP (a := w3) rfl tyS_4 rfl rfl h4 (Nat.le_of_ble_eq_true rfl) rfl) ?_
  refine TD.qs rfl rfl (fun _ => o_move rfl rfl) (TD.cq rfl rfl rfl (.bool _) rfl (fun h _ => o_move rfl rfl) ?_)
  refine TD.cq rfl rfl rfl (.bool _) rfl (fun h _ => o_nilCheck rfl (gv h rfl) rfl) ?_
  refine TD.cr rfl rfl rfl (.bool _) rfl (fun h => o_fieldAddr rfl rfl rfl tyS_77 (by decide) (gv h rfl) rfl ⟨_, rfl, Nat.le_of_ble_eq_true rfl⟩) ?_
  refine TD.cr rfl rfl rfl (.bool _) rfl (fun h => o_loadBx rfl tyS_77 (gv h rfl) rfl (Nat.le_of_ble_eq_true rfl) rfl) ?_
  refine TD.cq rfl rfl rfl (.bool _) rfl (fun h _ => o_move rfl rfl) ?_
  obtain ⟨w5, h6, H⟩ := bind_s H
  refine TD.cr rfl rfl rfl (.bool _) rfl (fun h => o_nilCheckP rfl (gv h rfl) rfl (gdO_t h6 h)) ?_
  obtain ⟨w7, h8, H⟩ := bind_s H
  refine TD.cr rfl rfl rfl (.bool _) rfl (fun h => o_fieldAddrP (a := w7) rfl rfl rfl tyS_3 (by decide) (gv h rfl) rfl (gdO_t h8 h)) ?_
  obtain ⟨w9, h10, H⟩ := bind_s H
  refine TD.cr rfl rfl rfl (.bool _) rfl (fun h => o_loadP (a := w9) rfl tyS_3 (gv h rfl) rfl (gdO_t h10 h) (Nat.le_of_ble_eq_true rfl) rfl) ?_
  refine TD.cr rfl rfl rfl (.bool _) rfl (fun h => o_lookup (fk := V.int .i64) (fv := V.bool) (xs := s0.ended_) (z := false) rfl rfl (key_int rfl) (gv h rfl) (gv h rfl) rfl rfl (fun S w => ⟨_, rfl, .bool _⟩)) ?_
  refine TD.qs rfl rfl (fun _ => o_or rfl rfl rfl rfl (fun k => Gd_t k)) ?_
  refine TD.qs rfl rfl (fun _ => o_assign rfl rfl) ?_
  refine TD.nil ⟨rfl, ?_⟩
  refine thn_normal ?_
  refine T.cond ((w3.used_ || ((mget s0.ended_ w9.grant_).getD false))) rfl (fun h => ?_) (fun h => ?_)
  ·replace H := cond_t h H
   refine T.seq (T.drawn rfl ?_)
   refine TD.qs rfl rfl (fun _ => o_move rfl rfl) (TD.qs rfl rfl (fun _ => o_nilCheck rfl rfl rfl) (TD.rs rfl rfl (o_fieldAddr rfl rfl rfl tyS_77 (by decide) rfl rfl ⟨_, rfl, Nat.le_of_ble_eq_true rfl⟩) ?_))
   refine TD.rs rfl rfl (o_loadBx rfl tyS_77 rfl rfl (Nat.le_of_ble_eq_true rfl) rfl) ?_
   refine TD.qs rfl rfl (fun _ => o_move rfl rfl) (TD.rs rfl rfl (o_nilCheckP rfl rfl rfl h4) ?_)
   refine TD.rs rfl rfl (o_fieldAddrP (a := w3) rfl rfl rfl tyS_3 (by decide) rfl rfl h4) ?_
   refine TD.rs rfl rfl (o_loadP (a := w3) rfl tyS_3 rfl rfl h4 (Nat.le_of_ble_eq_true rfl) rfl) ?_
   refine TD.an rfl rfl (o_mapUpdate (p := 3) (fk := V.int .i64) (fv := V.bool) (xs := s0.ended_) rfl rfl (key_int rfl) rfl rfl rfl rfl rfl) ?_
   refine TD.nil ⟨rfl, ?_⟩
   refine thn_normal (T.seq (T.region (TL.st rfl rfl rfl (o_build rfl ⟨_, fun _ => rfl, rfl⟩ rfl rfl rfl) ?_)))
   refine TL.sn rfl rfl (o_storeBx rfl tyS_84 rfl rfl rfl rfl (Nat.le_of_ble_eq_true rfl) rfl) ?_
   refine TL.nil (thn_normal (T.conv (Cs.eqS (σ' := [.box (k_impl_yserver 1 3 2 false s0), .arr .raw 1 (s0.held_.map (c_px 2)), .fam (s2.map (c_T_impl_yheld 2 false)), mpO (V.int .i64) (V.bool) (mput s0.ended_ w3.grant_ true), .box (c_T_impl_Client false a0), .box (c_T_impl_GrantAsk false a1), .box [.int .i64 14, .str (ByteArray.mk #[]), .str (ByteArray.mk #[]), .str (ByteArray.mk #[]), .nilS, .str (ByteArray.mk #[]), .str (ByteArray.mk #[]), .bool false]]) rfl) ?_))
   refine T.conv (Cs.nilCell (q := 6) 4 rfl rfl) ?_
   refine T.ret (inB_ret (thn_ret ?_))
   cases some_i H
   exact ⟨trivial, _, (.cell _ _ _ _ _ _ _ _ _ _ rfl rfl tyS_84 (Nat.le_of_ble_eq_true rfl) rfl .nil), ⟨rfl, _, rfl⟩⟩
  ·replace H := cond_f h H
   refine T.seq (T.drawn rfl ?_)
   refine TD.qs rfl rfl (fun _ => o_move rfl rfl) (TD.qs rfl rfl (fun _ => o_nilCheck rfl rfl rfl) (TD.rs rfl rfl (o_fieldAddr rfl rfl rfl tyS_3 (by decide) rfl rfl ⟨_, rfl, Nat.le_of_ble_eq_true rfl⟩) ?_))
   refine TD.rs rfl rfl (o_loadBx rfl tyS_3 rfl rfl (Nat.le_of_ble_eq_true rfl) rfl) ?_
   refine TD.qs rfl rfl (fun _ => o_move rfl rfl) (TD.rs rfl rfl (o_nilCheckP rfl rfl rfl h4) ?_)
   refine TD.rs rfl rfl (o_fieldAddrP (a := w3) rfl rfl rfl tyS_3 (by decide) rfl rfl h4) ?_
   refine TD.rs rfl rfl (o_loadP (a := w3) rfl tyS_3 rfl rfl h4 (Nat.le_of_ble_eq_true rfl) rfl) ?_
   refine TD.qs rfl rfl (fun _ => o_ari rfl rfl rfl rfl) ?_
   refine TD.qs rfl rfl (fun _ => o_assign rfl rfl) ?_
   refine TD.nil ⟨rfl, ?_⟩
   refine thn_normal ?_
   refine T.cond (decide (s0.now_ > w3.until_)) rfl (fun h => ?_) (fun h => ?_)
   ·replace H := cond_t h H
    refine T.seq (T.region (TL.st rfl rfl rfl (o_build rfl ⟨_, fun _ => rfl, rfl⟩ rfl rfl rfl) ?_))
    refine TL.sn rfl rfl (o_storeBx rfl tyS_84 rfl rfl rfl rfl (Nat.le_of_ble_eq_true rfl) rfl) ?_
    refine TL.nil (thn_normal (T.conv (Cs.nilCell (q := 6) 4 rfl rfl) ?_))
    refine T.ret (inB_ret (thn_ret ?_))
    cases some_i H
    exact ⟨trivial, _, (.cell _ _ _ _ _ _ _ _ _ _ rfl rfl tyS_84 (Nat.le_of_ble_eq_true rfl) rfl .nil), ⟨rfl, _, rfl⟩⟩
   ·replace H := cond_f h H
    refine T.seq (T.drawn rfl ?_)
    refine TD.rs rfl rfl (o_fieldAddr rfl rfl rfl tyS_30 (by decide) rfl rfl ⟨_, rfl, Nat.le_of_ble_eq_true rfl⟩) ?_
    refine TD.rs rfl rfl (o_loadBx rfl tyS_30 rfl rfl (Nat.le_of_ble_eq_true rfl) rfl) ?_
    refine TD.qs rfl rfl (fun _ => o_move rfl rfl) (TD.rs rfl rfl (o_nilCheckP rfl rfl rfl h4) ?_)
    refine TD.rs rfl rfl (o_fieldAddrP (a := w3) rfl rfl rfl tyS_30 (by decide) rfl rfl h4) ?_
    refine TD.rs rfl rfl (o_loadP (a := w3) rfl tyS_30 rfl rfl h4 (Nat.le_of_ble_eq_true rfl) rfl) ?_
    obtain ⟨r11, h12, H⟩ := bind_s H
    refine TD.qs rfl rfl (fun _ => o_callP rfl en_79 rfl rfl (.cons _ _ _ _ (.cl _ rfl) (.cons _ _ _ _ (.cl _ rfl) .nil)) (impl_yamong_p false false h12)) ?_
    refine TD.qs rfl rfl (fun _ => o_not rfl rfl) ?_
    refine TD.qs rfl rfl (fun _ => o_assign rfl rfl) ?_
    refine TD.nil ⟨rfl, ?_⟩
    refine thn_normal ?_
    refine T.cond ((!r11)) rfl (fun h => ?_) (fun h => ?_)
    ·replace H := cond_t h H
     refine T.seq (T.region (TL.st rfl rfl rfl (o_build rfl ⟨_, fun _ => rfl, rfl⟩ rfl rfl rfl) ?_))
     refine TL.sn rfl rfl (o_storeBx rfl tyS_84 rfl rfl rfl rfl (Nat.le_of_ble_eq_true rfl) rfl) ?_
     refine TL.nil (thn_normal (T.conv (Cs.nilCell (q := 6) 4 rfl rfl) ?_))
     refine T.ret (inB_ret (thn_ret ?_))
     cases some_i H
     exact ⟨trivial, _, (.cell _ _ _ _ _ _ _ _ _ _ rfl rfl tyS_84 (Nat.le_of_ble_eq_true rfl) rfl .nil), ⟨rfl, _, rfl⟩⟩
    ·replace H := cond_f h H
     refine T.skip (inB_normal (thn_normal (T.seq (T.region (TL.st rfl rfl rfl (o_move rfl rfl) (TL.st rfl rfl rfl (o_nilCheckP rfl rfl rfl h4) ?_))))))
     refine TL.st rfl rfl rfl (o_fieldAddrP (a := w3) rfl rfl rfl tyS_4 (by decide) rfl rfl h4) ?_
     refine TL.sn rfl rfl (o_storeP (a := w3) (a' := ({ w3 with used_ := true } : T_impl_yheld)) rfl tyS_4 rfl rfl rfl h4 rfl (Nat.le_of_ble_eq_true rfl) rfl rfl) ?_
     refine TL.nil (thn_normal (T.seq (T.region (TL.st rfl rfl rfl (o_fieldAddr rfl rfl rfl tyS_30 (by decide) rfl rfl ⟨_, rfl, Nat.le_of_ble_eq_true rfl⟩) ?_))))
     refine TL.st rfl rfl rfl (o_loadBx rfl tyS_30 rfl rfl (Nat.le_of_ble_eq_true rfl) rfl) ?_
     refine TL.st rfl rfl rfl (o_assign rfl rfl) (TL.nil (thn_normal (T.cut (fun fr' σ' => ∃ (v13 : (List ByteArray)), fr' = [(0, .bx 0 0), (4, .bx 4 0), (6, .bx 6 0), (7, .px 2 0 r1 0), (8, .im false (v13.map (c_str)))] ∧ σ' = [.box (k_impl_yserver 1 3 2 false s0), .arr .raw 1 (s0.held_.map (c_px 2)), .fam ((s2.set (Int.toNat r1) ({ w3 with used_ := true } : T_impl_yheld)).map (c_T_impl_yheld 2 false)), mpO (V.int .i64) (V.bool) s0.ended_, .box (c_T_impl_Client false a0), .box (c_T_impl_GrantAsk false a1), .box [.int .i64 0, .str (ByteArray.mk #[]), .str (ByteArray.mk #[]), .str (ByteArray.mk #[]), .nilS, .str (ByteArray.mk #[]), .str (ByteArray.mk #[]), .bool false]] ∧ impl_yserver_refresh_j1 a0 s0 s2 r1 w3 v13 = some (R0, U0, U2)) (T.pk ?_) ?_)))
     ·skip
      refine T.seq (T.region (TL.st rfl rfl rfl (o_move rfl rfl) (TL.st rfl rfl rfl (o_lenL (f := c_str) rfl rfl rfl) ?_)))
      refine TL.st rfl rfl rfl (o_ari rfl rfl rfl rfl) (TL.nil (thn_normal ?_))
      refine T.cond (((a1.Scopes_.length : Int) == 0)) rfl (fun h => ?_) (fun h => ?_)
      ·replace H := cond_t h H
       refine T.region (TL.st rfl rfl rfl (o_move rfl rfl) ?_)
       obtain ⟨w32, h33, H⟩ := bind_s H
       refine TL.st rfl rfl rfl (o_nilCheckP rfl rfl rfl h33) ?_
       refine TL.st rfl rfl rfl (o_fieldAddrP (a := w32) rfl rfl rfl tyS_30 (by decide) rfl rfl h33) ?_
       refine TL.st rfl rfl rfl (o_loadP (a := w32) rfl tyS_30 rfl rfl h33 (Nat.le_of_ble_eq_true rfl) rfl) ?_
       refine TL.st rfl rfl rfl (o_assign rfl rfl) (TL.nil ?_)
       exact Pk.of (thn_normal ⟨w32.scopes_, rfl, rfl, H⟩)
      ·replace H := cond_f h H
       refine T.skip ?_
       exact Pk.of (thn_normal ⟨a1.Scopes_, rfl, rfl, H⟩)
     ·rintro _ _ ⟨v13, rfl, rfl, H⟩
      refine T.seq ?_
      obtain ⟨r14, h15, H⟩ := bind_s H
      obtain ⟨w16, h17, H⟩ := bind_s H
      refine T.drawS (fr' := [(0, .bx 0 0), (4, .bx 4 0), (6, .bx 6 0), (7, .px 2 0 r1 0), (8, .im false (v13.map (c_str))), (9, .bx 7 0), (75, .im false (v13.map (c_str))), (76, .im false (r14.map (c_str))), (77, .px 2 0 r1 0), (78, .px 2 0 r1 0), (79, .px 2 0 r1 4), (80, .str w16.user_), (81, .agg [.int .i64 0, .str (ByteArray.mk #[]), .str (ByteArray.mk #[]), .str (ByteArray.mk #[]), .im false (r14.map (c_str)), .str w16.user_, .str (ByteArray.mk #[]), .bool false])]) (R := [⟨some 75, .im false (v13.map (c_str)), .q, []⟩, ⟨some 76, .im false (r14.map (c_str)), .q, []⟩, ⟨some 77, .px 2 0 r1 0, .q, []⟩, ⟨some 78, .px 2 0 r1 0, .q, []⟩, ⟨some 79, .px 2 0 r1 4, .q, []⟩, ⟨some 80, .str w16.user_, .q, []⟩, ⟨some 81, .agg [.int .i64 0, .str (ByteArray.mk #[]), .str (ByteArray.mk #[]), .str (ByteArray.mk #[]), .im false (r14.map (c_str)), .str w16.user_, .str (ByteArray.mk #[]), .bool false], .q, []⟩, ⟨some 9, .bx 7 0, .q, []⟩, ⟨none, .any, .q, []⟩]) (fun b => cond (b 7) (cond (b 8) ([.box (k_impl_yserver 1 3 2 false s0), .arr .raw 1 (s0.held_.map (c_px 2)), .fam ((s2.set (Int.toNat r1) ({ w3 with used_ := true } : T_impl_yheld)).map (c_T_impl_yheld 2 false)), mpO (V.int .i64) (V.bool) s0.ended_, .box (c_T_impl_Client false a0), .box (c_T_impl_GrantAsk false a1), .box [.int .i64 0, .str (ByteArray.mk #[]), .str (ByteArray.mk #[]), .str (ByteArray.mk #[]), .nilS, .str (ByteArray.mk #[]), .str (ByteArray.mk #[]), .bool false], .box [.int .i64 0, .str (ByteArray.mk #[]), .str (ByteArray.mk #[]), .str (ByteArray.mk #[]), .im false (r14.map (c_str)), .str w16.user_, .str (ByteArray.mk #[]), .bool false]]) ([.box (k_impl_yserver 1 3 2 false s0), .arr .raw 1 (s0.held_.map (c_px 2)), .fam ((s2.set (Int.toNat r1) ({ w3 with used_ := true } : T_impl_yheld)).map (c_T_impl_yheld 2 false)), mpO (V.int .i64) (V.bool) s0.ended_, .box (c_T_impl_Client false a0), .box (c_T_impl_GrantAsk false a1), .box [.int .i64 0, .str (ByteArray.mk #[]), .str (ByteArray.mk #[]), .str (ByteArray.mk #[]), .nilS, .str (ByteArray.mk #[]), .str (ByteArray.mk #[]), .bool false], .box [.int .i64 0, .str (ByteArray.mk #[]), .str (ByteArray.mk #[]), .str (ByteArray.mk #[]), .nilS, .str (ByteArray.mk #[]), .str (ByteArray.mk #[]), .bool false]])) ([.box (k_impl_yserver 1 3 2 false s0), .arr .raw 1 (s0.held_.map (c_px 2)), .fam ((s2.set (Int.toNat r1) ({ w3 with used_ := true } : T_impl_yheld)).map (c_T_impl_yheld 2 false)), mpO (V.int .i64) (V.bool) s0.ended_, .box (c_T_impl_Client false a0), .box (c_T_impl_GrantAsk false a1), .box [.int .i64 0, .str (ByteArray.mk #[]), .str (ByteArray.mk #[]), .str (ByteArray.mk #[]), .nilS, .str (ByteArray.mk #[]), .str (ByteArray.mk #[]), .bool false]])) rfl ?_ ?_ rfl rfl (FrL.get (.cons rfl (.cons rfl (.cons rfl (.cons rfl (.cons rfl (.cons rfl (.cons rfl (.cons rfl (.cons rfl (.cons rfl (.cons rfl (.cons rfl (.cons rfl .nil)))))))))))))) ?_
      ·refine .cons _ _ _ _ _ ⟨rfl, [(8, .im false (v13.map (c_str)))], AllN.get rfl (.cons rfl .nil), fun b hd hn hk hc => ?_⟩ ?_
       ·cases e7 : b 7
        ·exact ops_at (cdf e7) rfl (o_move rfl rfl) (cdf ((updb_ne rfl).trans e7)) rfl
        ·exact ops_at ((cdt e7).trans (cdf (hn 8 rfl))) rfl (o_move rfl rfl) ((cdt ((updb_ne rfl).trans e7)).trans (cdf ((updb_ne rfl).trans (hn 8 rfl)))) rfl
       refine .cons _ _ _ _ _ ⟨rfl, [(75, .im false (v13.map (c_str)))], AllN.get rfl (.cons rfl .nil), fun b hd hn hk hc => ?_⟩ ?_
       ·cases e7 : b 7
        ·exact ops_at (cdf e7) rfl (o_callP rfl en_69 rfl rfl (.cons _ _ _ _ (.cl _ rfl) .nil) (slices_Clone_p false h15)) (cdf ((updb_ne rfl).trans e7)) rfl
        ·exact ops_at ((cdt e7).trans (cdf (hn 8 rfl))) rfl (o_callP rfl en_69 rfl rfl (.cons _ _ _ _ (.cl _ rfl) .nil) (slices_Clone_p false h15)) ((cdt ((updb_ne rfl).trans e7)).trans (cdf ((updb_ne rfl).trans (hn 8 rfl)))) rfl
       refine .cons _ _ _ _ _ ⟨rfl, [(7, .px 2 0 r1 0)], AllN.get rfl (.cons rfl .nil), fun b hd hn hk hc => ?_⟩ ?_
       ·cases e7 : b 7
        ·exact ops_at (cdf e7) rfl (o_move rfl rfl) (cdf ((updb_ne rfl).trans e7)) rfl
        ·exact ops_at ((cdt e7).trans (cdf (hn 8 rfl))) rfl (o_move rfl rfl) ((cdt ((updb_ne rfl).trans e7)).trans (cdf ((updb_ne rfl).trans (hn 8 rfl)))) rfl
       refine .cons _ _ _ _ _ ⟨rfl, [(77, .px 2 0 r1 0)], AllN.get rfl (.cons rfl .nil), fun b hd hn hk hc => ?_⟩ ?_
       ·cases e7 : b 7
        ·exact ops_at (cdf e7) rfl (o_nilCheckP rfl rfl rfl h17) (cdf ((updb_ne rfl).trans e7)) rfl
        ·exact ops_at ((cdt e7).trans (cdf (hn 8 rfl))) rfl (o_nilCheckP rfl rfl rfl h17) ((cdt ((updb_ne rfl).trans e7)).trans (cdf ((updb_ne rfl).trans (hn 8 rfl)))) rfl
       refine .cons _ _ _ _ _ ⟨rfl, [(78, .px 2 0 r1 0)], AllN.get rfl (.cons rfl .nil), fun b hd hn hk hc => ?_⟩ ?_
       ·cases e7 : b 7
        ·exact ops_at (cdf e7) rfl (o_fieldAddrP (a := w16) rfl rfl rfl tyS_9 (by decide) rfl rfl h17) (cdf ((updb_ne rfl).trans e7)) rfl
        ·exact ops_at ((cdt e7).trans (cdf (hn 8 rfl))) rfl (o_fieldAddrP (a := w16) rfl rfl rfl tyS_9 (by decide) rfl rfl h17) ((cdt ((updb_ne rfl).trans e7)).trans (cdf ((updb_ne rfl).trans (hn 8 rfl)))) rfl
       refine .cons _ _ _ _ _ ⟨rfl, [(79, .px 2 0 r1 4)], AllN.get rfl (.cons rfl .nil), fun b hd hn hk hc => ?_⟩ ?_
       ·cases e7 : b 7
        ·exact ops_at (cdf e7) rfl (o_loadP (a := w16) rfl tyS_9 rfl rfl h17 (Nat.le_of_ble_eq_true rfl) rfl) (cdf ((updb_ne rfl).trans e7)) rfl
        ·exact ops_at ((cdt e7).trans (cdf (hn 8 rfl))) rfl (o_loadP (a := w16) rfl tyS_9 rfl rfl h17 (Nat.le_of_ble_eq_true rfl) rfl) ((cdt ((updb_ne rfl).trans e7)).trans (cdf ((updb_ne rfl).trans (hn 8 rfl)))) rfl
       refine .cons _ _ _ _ _ ⟨rfl, [(76, .im false (r14.map (c_str))), (80, .str w16.user_)], AllN.get rfl (.cons rfl (.cons rfl .nil)), fun b hd hn hk hc => ?_⟩ ?_
       ·cases e7 : b 7
        ·exact ops_at (cdf e7) rfl (o_build rfl ⟨_, fun _ => rfl, rfl⟩ rfl rfl rfl) (cdf ((updb_ne rfl).trans e7)) rfl
        ·exact ops_at ((cdt e7).trans (cdf (hn 8 rfl))) rfl (o_build rfl ⟨_, fun _ => rfl, rfl⟩ rfl rfl rfl) ((cdt ((updb_ne rfl).trans e7)).trans (cdf ((updb_ne rfl).trans (hn 8 rfl)))) rfl
       refine .cons _ _ _ _ _ ⟨rfl, [], AllN.get rfl .nil, fun b hd hn hk hc => ?_⟩ ?_
       ·exact ops_at (cdf hk) rfl (o_alloc rfl ⟨_, rfl, rfl⟩) (((cdt updb_self).trans (cdf ((updb_ne rfl).trans (hn 8 rfl)))).trans rfl) rfl
       refine .cons _ _ _ _ _ ⟨rfl, [(9, .bx 7 0), (81, .agg [.int .i64 0, .str (ByteArray.mk #[]), .str (ByteArray.mk #[]), .str (ByteArray.mk #[]), .im false (r14.map (c_str)), .str w16.user_, .str (ByteArray.mk #[]), .bool false])], AllN.get rfl (.cons rfl (.cons rfl .nil)), fun b hd hn hk hc => ?_⟩ ?_
       ·exact ops_at ((cdt (hd 7 rfl)).trans (cdf hk)) rfl (o_storeBx rfl tyS_84 rfl rfl rfl rfl (Nat.le_of_ble_eq_true rfl) rfl) (((cdt ((updb_ne rfl).trans (hd 7 rfl))).trans (cdt updb_self)).trans rfl) rfl
       exact .nil _
      ·intro b b' h; simp only [h 7 (by decide), h 8 (by decide)]
      refine thn_normal (T.seq (T.drawn rfl ?_))
      refine TD.qs rfl rfl (fun _ => o_move rfl rfl) (TD.qs rfl rfl (fun _ => o_move rfl rfl) (TD.rs rfl rfl (o_nilCheckP rfl rfl rfl h17) ?_))
      refine TD.rs rfl rfl (o_fieldAddrP (a := w16) rfl rfl rfl tyS_3 (by decide) rfl rfl h17) ?_
      refine TD.rs rfl rfl (o_loadP (a := w16) rfl tyS_3 rfl rfl h17 (Nat.le_of_ble_eq_true rfl) rfl) ?_
      refine TD.rs rfl rfl (o_fieldAddr rfl rfl rfl tyS_9 (by decide) rfl rfl ⟨_, rfl, Nat.le_of_ble_eq_true rfl⟩) ?_
      refine TD.rs rfl rfl (o_loadBx rfl tyS_9 rfl rfl (Nat.le_of_ble_eq_true rfl) rfl) ?_
      refine TD.qs rfl rfl (fun _ => o_move rfl rfl) (TD.rs rfl rfl (o_nilCheckP rfl rfl rfl h17) ?_)
      refine TD.rs rfl rfl (o_fieldAddrP (a := w16) rfl rfl rfl tyS_9 (by decide) rfl rfl h17) ?_
      refine TD.rs rfl rfl (o_loadP (a := w16) rfl tyS_9 rfl rfl h17 (Nat.le_of_ble_eq_true rfl) rfl) ?_
      refine TD.qs rfl rfl (fun _ => o_move rfl rfl) (TD.qs rfl rfl (fun _ => o_move rfl rfl) (TD.qs rfl rfl (fun _ => o_nilCheck rfl rfl rfl) (TD.rs rfl rfl (o_fieldAddr rfl rfl rfl tyS_3 (by decide) rfl rfl ⟨_, rfl, Nat.le_of_ble_eq_true rfl⟩) ?_)))
      refine TD.rs rfl rfl (o_loadBx rfl tyS_3 rfl rfl (Nat.le_of_ble_eq_true rfl) rfl) ?_
      refine TD.qs rfl rfl (fun _ => o_move rfl rfl) (TD.qs rfl rfl (fun _ => o_nilCheck rfl rfl rfl) (TD.rs rfl rfl (o_fieldAddr rfl rfl rfl tyS_25 (by decide) rfl rfl ⟨_, rfl, Nat.le_of_ble_eq_true rfl⟩) ?_))
      refine TD.rs rfl rfl (o_fieldAddr rfl rfl rfl tyS_3 (by decide) rfl rfl ⟨_, rfl, Nat.le_of_ble_eq_true rfl⟩) ?_
      refine TD.rs rfl rfl (o_loadBx rfl tyS_3 rfl rfl (Nat.le_of_ble_eq_true rfl) rfl) ?_
      refine TD.qs rfl rfl (fun _ => o_ari rfl rfl rfl rfl) ?_
      refine TD.rs rfl rfl (Does.wkP (p := 2) rfl (.same _ _ _ (.same _ _ _ (.same _ _ _ (.same _ _ _ (.same _ _ _ (.same _ _ _ (.same _ _ _ (.same _ _ _ (.same _ _ _ (.same _ _ _ (.same _ _ _ (.same _ _ _ (.same _ _ _ (.same _ _ _ (.same _ _ _ (.same _ _ _ (.ptr 0 0 _ _ .nil))))))))))))))))) (o_build rfl ⟨_, fun _ => rfl, rfl⟩ rfl rfl rfl)) ?_
      obtain ⟨⟨r18, o19, o20⟩, h21, H⟩ := bind_s H
      refine TD.as rfl rfl (o_callM [0, 1, 2, 3] rfl en_81 rfl rfl (impl_yserver_give_p false false h21) rfl (by decide) (.cons _ _ _ _ rfl (.cons _ _ _ _ (ren_at rfl (ren_rawO fun _ => rfl)) (.cons _ _ _ _ (ren_at rfl (ren_famO fun _ => rfl)) (.cons _ _ _ _ (ren_at rfl (ren_mpO fun _ => rfl)) .nil)))) rfl rfl (.cons _ _ _ _ rfl (.cons _ _ _ _ (ren_rawO fun _ => rfl) (.cons _ _ _ _ (ren_famO fun _ => rfl) (.cons _ _ _ _ (ren_mpO fun _ => rfl) .nil)))) rfl) ?_
      obtain ⟨w22, h23, H⟩ := bind_s H
      refine TD.rs rfl rfl (o_nilCheckP rfl rfl rfl h23) ?_
      refine TD.rs rfl rfl (o_fieldAddrP (a := w22) rfl rfl rfl tyS_9 (by decide) rfl rfl h23) ?_
      refine TD.rs rfl rfl (o_loadP (a := w22) rfl tyS_9 rfl rfl h23 (Nat.le_of_ble_eq_true rfl) rfl) ?_
      refine TD.rs rfl rfl (o_fieldAddr rfl rfl rfl tyS_9 (by decide) rfl rfl ⟨_, rfl, Nat.le_of_ble_eq_true rfl⟩) ?_
      refine TD.an rfl rfl (o_storeBx rfl tyS_9 rfl rfl rfl rfl (Nat.le_of_ble_eq_true rfl) rfl) ?_
      refine TD.nil ⟨rfl, ?_⟩
      refine thn_normal (T.seq (T.conv (Cs.eqS (σ' := [.box (k_impl_yserver 1 3 2 false o19), .arr .raw 1 (o19.held_.map (c_px 2)), .fam (o20.map (c_T_impl_yheld 2 false)), mpO (V.int .i64) (V.bool) o19.ended_, .box (c_T_impl_Client false a0), .box (c_T_impl_GrantAsk false a1), .box [.int .i64 0, .str (ByteArray.mk #[]), .str (ByteArray.mk #[]), .str (ByteArray.mk #[]), .nilS, .str (ByteArray.mk #[]), .str (ByteArray.mk #[]), .bool false], .box [.int .i64 0, .str (ByteArray.mk #[]), .str w22.handle_, .str (ByteArray.mk #[]), .im false (r14.map (c_str)), .str w16.user_, .str (ByteArray.mk #[]), .bool false]]) rfl) ?_))
      refine T.drawn rfl ?_
      refine TD.qs rfl rfl (fun _ => o_move rfl rfl) (TD.qs rfl rfl (fun _ => o_move rfl rfl) ?_)
      obtain ⟨w24, h25, H⟩ := bind_s H
      refine TD.rs rfl rfl (o_nilCheckP rfl rfl rfl h25) ?_
      refine TD.rs rfl rfl (o_fieldAddrP (a := w24) rfl rfl rfl tyS_3 (by decide) rfl rfl h25) ?_
      refine TD.rs rfl rfl (o_loadP (a := w24) rfl tyS_3 rfl rfl h25 (Nat.le_of_ble_eq_true rfl) rfl) ?_
      refine TD.rs rfl rfl (o_fieldAddr rfl rfl rfl tyS_9 (by decide) rfl rfl ⟨_, rfl, Nat.le_of_ble_eq_true rfl⟩) ?_
      refine TD.rs rfl rfl (o_loadBx rfl tyS_9 rfl rfl (Nat.le_of_ble_eq_true rfl) rfl) ?_
      refine TD.qs rfl rfl (fun _ => o_move rfl rfl) (TD.rs rfl rfl (o_nilCheckP rfl rfl rfl h25) ?_)
      refine TD.rs rfl rfl (o_fieldAddrP (a := w24) rfl rfl rfl tyS_9 (by decide) rfl rfl h25) ?_
      refine TD.rs rfl rfl (o_loadP (a := w24) rfl tyS_9 rfl rfl h25 (Nat.le_of_ble_eq_true rfl) rfl) ?_
      refine TD.qs rfl rfl (fun _ => o_move rfl rfl) (TD.rs rfl rfl (o_nilCheckP rfl rfl rfl h25) ?_)
      refine TD.rs rfl rfl (o_fieldAddrP (a := w24) rfl rfl rfl tyS_30 (by decide) rfl rfl h25) ?_
      refine TD.rs rfl rfl (o_loadP (a := w24) rfl tyS_30 rfl rfl h25 (Nat.le_of_ble_eq_true rfl) rfl) ?_
      refine TD.qs rfl rfl (fun _ => o_move rfl rfl) (TD.qs rfl rfl (fun _ => o_nilCheck rfl rfl rfl) (TD.rs rfl rfl (o_fieldAddr rfl rfl rfl tyS_3 (by decide) rfl rfl ⟨_, rfl, Nat.le_of_ble_eq_true rfl⟩) ?_))
      refine TD.rs rfl rfl (o_loadBx rfl tyS_3 rfl rfl (Nat.le_of_ble_eq_true rfl) rfl) ?_
      refine TD.qs rfl rfl (fun _ => o_move rfl rfl) (TD.qs rfl rfl (fun _ => o_nilCheck rfl rfl rfl) (TD.rs rfl rfl (o_fieldAddr rfl rfl rfl tyS_25 (by decide) rfl rfl ⟨_, rfl, Nat.le_of_ble_eq_true rfl⟩) ?_))
      refine TD.rs rfl rfl (o_fieldAddr rfl rfl rfl tyS_3 (by decide) rfl rfl ⟨_, rfl, Nat.le_of_ble_eq_true rfl⟩) ?_
      refine TD.rs rfl rfl (o_loadBx rfl tyS_3 rfl rfl (Nat.le_of_ble_eq_true rfl) rfl) ?_
      refine TD.qs rfl rfl (fun _ => o_ari rfl rfl rfl rfl) ?_
      refine TD.rs rfl rfl (Does.wkP (p := 2) rfl (.same _ _ _ (.same _ _ _ (.same _ _ _ (.same _ _ _ (.same _ _ _ (.same _ _ _ (.same _ _ _ (.same _ _ _ (.same _ _ _ (.same _ _ _ (.same _ _ _ (.same _ _ _ (.same _ _ _ (.same _ _ _ (.same _ _ _ (.same _ _ _ (.ptr 0 0 _ _ .nil))))))))))))))))) (o_build rfl ⟨_, fun _ => rfl, rfl⟩ rfl rfl rfl)) ?_
      obtain ⟨⟨r26, o27, o28⟩, h29, H⟩ := bind_s H
      refine TD.as rfl rfl (o_callM [0, 1, 2, 3] rfl en_81 rfl rfl (impl_yserver_give_p false false h29) rfl (by decide) (.cons _ _ _ _ rfl (.cons _ _ _ _ (ren_at rfl (ren_rawO fun _ => rfl)) (.cons _ _ _ _ (ren_at rfl (ren_famO fun _ => rfl)) (.cons _ _ _ _ (ren_at rfl (ren_mpO fun _ => rfl)) .nil)))) rfl rfl (.cons _ _ _ _ rfl (.cons _ _ _ _ (ren_rawO fun _ => rfl) (.cons _ _ _ _ (ren_famO fun _ => rfl) (.cons _ _ _ _ (ren_mpO fun _ => rfl) .nil)))) rfl) ?_
      obtain ⟨w30, h31, H⟩ := bind_s H
      refine TD.rs rfl rfl (o_nilCheckP rfl rfl rfl h31) ?_
      refine TD.rs rfl rfl (o_fieldAddrP (a := w30) rfl rfl rfl tyS_9 (by decide) rfl rfl h31) ?_
      refine TD.rs rfl rfl (o_loadP (a := w30) rfl tyS_9 rfl rfl h31 (Nat.le_of_ble_eq_true rfl) rfl) ?_
      refine TD.rs rfl rfl (o_fieldAddr rfl rfl rfl tyS_9 (by decide) rfl rfl ⟨_, rfl, Nat.le_of_ble_eq_true rfl⟩) ?_
      refine TD.an rfl rfl (o_storeBx rfl tyS_9 rfl rfl rfl rfl (Nat.le_of_ble_eq_true rfl) rfl) ?_
      refine TD.nil ⟨rfl, ?_⟩
      refine thn_normal (T.seq (T.region (TL.st rfl rfl rfl (o_loadBx rfl tyS_84 rfl rfl (Nat.le_of_ble_eq_true rfl) rfl) ?_)))
      refine TL.sn rfl rfl (o_storeBx rfl tyS_84 rfl rfl rfl rfl (Nat.le_of_ble_eq_true rfl) rfl) ?_
      refine TL.nil (thn_normal (T.conv (Cs.eqS (σ' := [.box (k_impl_yserver 1 3 2 false o27), .arr .raw 1 (o27.held_.map (c_px 2)), .fam (o28.map (c_T_impl_yheld 2 false)), mpO (V.int .i64) (V.bool) o27.ended_, .box (c_T_impl_Client false a0), .box (c_T_impl_GrantAsk false a1), .box [.int .i64 0, .str (ByteArray.mk #[]), .str w22.handle_, .str w30.handle_, .im false (r14.map (c_str)), .str w16.user_, .str (ByteArray.mk #[]), .bool false], .box [.int .i64 0, .str (ByteArray.mk #[]), .str w22.handle_, .str w30.handle_, .im false (r14.map (c_str)), .str w16.user_, .str (ByteArray.mk #[]), .bool false]]) rfl) ?_))
      refine T.ret ?_
      cases some_i H
      exact ⟨trivial, _, (.cell _ _ _ _ _ _ _ _ _ _ rfl rfl tyS_84 (Nat.le_of_ble_eq_true rfl) rfl .nil), ⟨rfl, _, rfl⟩⟩
theorem en_62 (us : Array Value) (w : World) : (callFunc 62 us).run Go.Proofs.Tryz.prog w = .ok (.enter 62 us) w := enters Go.Proofs.Tryz.func62 rfl rfl us w
noncomputable def impl_yserver_device (a0 : T_impl_Client) (a1 : T_impl_GrantAsk) (s0 : T_impl_yserver) (s2 : List T_impl_yheld) : Option (T_impl_GrantReply × T_impl_yserver × List T_impl_yheld) :=
  (slices_Contains a0.Kinds_ 3).bind fun r1 => cond (!r1) (some ((⟨3, (ByteArray.mk #[]), (ByteArray.mk #[]), (ByteArray.mk #[]), ([] : List ByteArray), (ByteArray.mk #[]), (ByteArray.mk #[]), false⟩ : T_impl_GrantReply), s0, s2)) ((gdO (!((a1.Scopes_.length : Int) == 0)) (impl_yamong a1.Scopes_ a0.Scopes_)).bind fun r3 => cond (((a1.Scopes_.length : Int) == 0) || (!r3)) (some ((⟨4, (ByteArray.mk #[]), (ByteArray.mk #[]), (ByteArray.mk #[]), ([] : List ByteArray), (ByteArray.mk #[]), (ByteArray.mk #[]), false⟩ : T_impl_GrantReply), s0, s2)) ((impl_yserver_give (⟨(ByteArray.mk #[100, 101, 118, 105, 99, 101]), (ByteArray.mk #[]), (IntKind.i64.wrap (s0.grants_ + 1)), a0.Id_, (ByteArray.mk #[]), a1.Scopes_, (ByteArray.mk #[]), (ByteArray.mk #[]), (ByteArray.mk #[]), (IntKind.i64.wrap (s0.now_ + s0.s_.Short_)), false, false, false, false, false, 0, (-1)⟩ : T_impl_yheld) ({ s0 with grants_ := (IntKind.i64.wrap (s0.grants_ + 1)) } : T_impl_yserver) s2).bind fun q => (match q with | (r5, o6, o7) => (impl_yserver_give (⟨(ByteArray.mk #[117, 115, 101, 114]), (ByteArray.mk #[]), o6.grants_, (ByteArray.mk #[]), (ByteArray.mk #[]), ([] : List ByteArray), (ByteArray.mk #[]), (ByteArray.mk #[]), (ByteArray.mk #[]), 0, false, false, false, false, false, 0, r5⟩ : T_impl_yheld) o6 o7).bind fun q => (match q with | (r9, o10, o11) => (idx o11 r5).bind fun w13 => (idx o11 r9).bind fun w15 => some ((⟨0, w13.handle_, (ByteArray.mk #[]), w15.handle_, ([] : List ByteArray), (ByteArray.mk #[]), (ByteArray.mk #[]), false⟩ : T_impl_GrantReply), o10, o11)))))
theorem impl_yserver_device_p (_u0 : Bool) (_u1 : Bool) (_u2 : Bool) {a0 : T_impl_Client} {a1 : T_impl_GrantAsk} {s0 : T_impl_yserver} {s2 : List T_impl_yheld} {R0 : T_impl_GrantReply} {U0 : T_impl_yserver} {U2 : List T_impl_yheld} (H : impl_yserver_device a0 a1 s0 s2 = some (R0, U0, U2)) : St Go.Proofs.Tryz.prog 63 [.bx 0 0, .agg (c_T_impl_Client false a0), .agg (c_T_impl_GrantAsk false a1)] [.box (k_impl_yserver 1 3 2 false s0), .arr .raw 1 (s0.held_.map (c_px 2)), .fam (s2.map (c_T_impl_yheld 2 false)), mpO (V.int .i64) (V.bool) s0.ended_] (.agg (c_T_impl_GrantReply false R0)) [.box (k_impl_yserver 1 3 2 false (⟨U0.s_, U0.now_, U0.held_, default, U0.grants_⟩ : T_impl_yserver)), .arr .raw 1 (U0.held_.map (c_px 2)), .fam (U2.map (c_T_impl_yheld 2 false)), mpO (V.int .i64) (V.bool) U0.ended_] := by
 refine CallT.fin (CallT.of_TN (n := 72) Go.Proofs.Tryz.func63 rfl rfl rfl rfl ?_) rfl rfl ⟨(bels_iff.1 rfl), ⟨(belRaw fun _ => rfl), ⟨(belFam fun _ => rfl), ⟨(belMap fun _ => rfl), trivial⟩⟩⟩⟩
 refine T.seq (T.region (TL.st rfl rfl rfl (o_box rfl rfl rfl) (TL.st rfl rfl rfl (o_box rfl rfl rfl) (TL.st rfl rfl rfl (o_alloc rfl ⟨_, rfl, rfl⟩) (TL.nil (thn_normal (T.seq (T.seq (T.conv (Cs.eqS (σ' := [.box (k_impl_yserver 1 3 2 false s0), .arr .raw 1 (s0.held_.map (c_px 2)), .fam (s2.map (c_T_impl_yheld 2 false)), mpO (V.int .i64) (V.bool) s0.ended_, .box (c_T_impl_Client false a0), .box (c_T_impl_GrantAsk false a1), .box [.int .i64 0, .str (ByteArray.mk #[]), .str (ByteArray.mk #[]), .str (ByteArray.mk #[]), .nilS, .str (ByteArray.mk #[]), .str (ByteArray.mk #[]), .bool false]]) rfl) ?_)))))))))
 refine T.region (TL.st rfl rfl rfl (o_fieldAddr rfl rfl rfl tyS_29 (by decide) rfl rfl ⟨_, rfl, Nat.le_of_ble_eq_true rfl⟩) ?_)
 refine TL.st rfl rfl rfl (o_loadBx rfl tyS_29 rfl rfl (Nat.le_of_ble_eq_true rfl) rfl) ?_
 obtain ⟨r1, h2, H⟩ := bind_s H
 refine TL.st rfl rfl rfl (o_callP rfl en_32 rfl rfl (.cons _ _ _ _ (.cl _ rfl) (.cons _ _ _ _ (.cl _ rfl) .nil)) (slices_Contains_p false h2)) ?_
 refine TL.st rfl rfl rfl (o_not rfl rfl) ?_
 refine TL.nil (thn_normal ?_)
 refine T.cond ((!r1)) rfl (fun h => ?_) (fun h => ?_)
 ·replace H := cond_t h H
  refine T.seq (T.region (TL.st rfl rfl rfl (o_build rfl ⟨_, fun _ => rfl, rfl⟩ rfl rfl rfl) ?_))
  refine TL.sn rfl rfl (o_storeBx rfl tyS_84 rfl rfl rfl rfl (Nat.le_of_ble_eq_true rfl) rfl) ?_
  refine TL.nil (thn_normal (T.conv (Cs.nilCell (q := 6) 4 rfl rfl) ?_))
  refine T.ret (thn_ret ?_)
  cases some_i H
  exact ⟨trivial, _, (.cell _ _ _ _ _ _ _ _ _ _ rfl rfl tyS_84 (Nat.le_of_ble_eq_true rfl) rfl .nil), ⟨rfl, _, rfl⟩⟩
 ·replace H := cond_f h H
  refine T.skip (thn_normal (T.seq (T.seq (T.region (TL.st rfl rfl rfl (o_fieldAddr rfl rfl rfl tyS_30 (by decide) rfl rfl ⟨_, rfl, Nat.le_of_ble_eq_true rfl⟩) ?_)))))
  refine TL.st rfl rfl rfl (o_loadBx rfl tyS_30 rfl rfl (Nat.le_of_ble_eq_true rfl) rfl) ?_
  refine TL.st rfl rfl rfl (o_lenL (f := c_str) rfl rfl rfl) ?_
  refine TL.st rfl rfl rfl (o_ari rfl rfl rfl rfl) (TL.st rfl rfl rfl (o_move rfl rfl) (TL.gcq rfl rfl rfl (.bool _) rfl rfl (fun h => o_fieldAddr rfl rfl rfl tyS_30 (by decide) rfl rfl ⟨_, rfl, Nat.le_of_ble_eq_true rfl⟩) ?_))
  refine TL.gcq rfl rfl rfl (.bool _) rfl rfl (fun h => o_loadBx rfl tyS_30 (gv h rfl) rfl (Nat.le_of_ble_eq_true rfl) rfl) ?_
  refine TL.gcq rfl rfl rfl (.bool _) rfl rfl (fun h => o_fieldAddr rfl rfl rfl tyS_30 (by decide) rfl rfl ⟨_, rfl, Nat.le_of_ble_eq_true rfl⟩) ?_
  refine TL.gcq rfl rfl rfl (.bool _) rfl rfl (fun h => o_loadBx rfl tyS_30 (gv h rfl) rfl (Nat.le_of_ble_eq_true rfl) rfl) ?_
  obtain ⟨r3, h4, H⟩ := bind_s H
  refine TL.gcq rfl rfl rfl (.bool _) rfl rfl (fun h => o_callP rfl en_79 rfl (evl_2 (gv h rfl) (gv h rfl)) (.cons _ _ _ _ (.cl _ rfl) (.cons _ _ _ _ (.cl _ rfl) .nil)) (impl_yamong_p false false (gdO_t h4 h))) ?_
  refine TL.gcq rfl rfl rfl (.bool _) rfl rfl (fun h => o_not rfl (gv h rfl)) ?_
  refine TL.st rfl rfl rfl (o_or rfl rfl rfl rfl (fun k => Gd_t k)) (TL.nil (thn_normal ?_))
  refine T.cond ((((a1.Scopes_.length : Int) == 0) || (!r3))) rfl (fun h => ?_) (fun h => ?_)
  ·replace H := cond_t h H
   refine T.seq (T.region (TL.st rfl rfl rfl (o_build rfl ⟨_, fun _ => rfl, rfl⟩ rfl rfl rfl) ?_))
   refine TL.sn rfl rfl (o_storeBx rfl tyS_84 rfl rfl rfl rfl (Nat.le_of_ble_eq_true rfl) rfl) ?_
   refine TL.nil (thn_normal (T.conv (Cs.nilCell (q := 6) 4 rfl rfl) ?_))
   refine T.ret (thn_ret ?_)
   cases some_i H
   exact ⟨trivial, _, (.cell _ _ _ _ _ _ _ _ _ _ rfl rfl tyS_84 (Nat.le_of_ble_eq_true rfl) rfl .nil), ⟨rfl, _, rfl⟩⟩
  ·replace H := cond_f h H
   refine T.skip (thn_normal (T.seq (T.region (TL.st rfl rfl rfl (o_move rfl rfl) (TL.st rfl rfl rfl (o_nilCheck rfl rfl rfl) (TL.st rfl rfl rfl (o_fieldAddr rfl rfl rfl tyS_3 (by decide) rfl rfl ⟨_, rfl, Nat.le_of_ble_eq_true rfl⟩) ?_))))))
   refine TL.st rfl rfl rfl (o_loadBx rfl tyS_3 rfl rfl (Nat.le_of_ble_eq_true rfl) rfl) ?_
   refine TL.st rfl rfl rfl (o_ari rfl rfl rfl rfl) (TL.st rfl rfl rfl (o_nilCheck rfl rfl rfl) (TL.st rfl rfl rfl (o_fieldAddr rfl rfl rfl tyS_3 (by decide) rfl rfl ⟨_, rfl, Nat.le_of_ble_eq_true rfl⟩) ?_))
   refine TL.sn rfl rfl (o_storeBx rfl tyS_3 rfl rfl rfl rfl (Nat.le_of_ble_eq_true rfl) rfl) ?_
   refine TL.nil (thn_normal (T.seq (T.drawn rfl ?_)))
   refine TD.qs rfl rfl (fun _ => o_move rfl rfl) (TD.qs rfl rfl (fun _ => o_move rfl rfl) (TD.qs rfl rfl (fun _ => o_nilCheck rfl rfl rfl) (TD.rs rfl rfl (o_fieldAddr rfl rfl rfl tyS_3 (by decide) rfl rfl ⟨_, rfl, Nat.le_of_ble_eq_true rfl⟩) ?_)))
   refine TD.rs rfl rfl (o_loadBx rfl tyS_3 rfl rfl (Nat.le_of_ble_eq_true rfl) rfl) ?_
   refine TD.rs rfl rfl (o_fieldAddr rfl rfl rfl tyS_9 (by decide) rfl rfl ⟨_, rfl, Nat.le_of_ble_eq_true rfl⟩) ?_
   refine TD.rs rfl rfl (o_loadBx rfl tyS_9 rfl rfl (Nat.le_of_ble_eq_true rfl) rfl) ?_
   refine TD.rs rfl rfl (o_fieldAddr rfl rfl rfl tyS_30 (by decide) rfl rfl ⟨_, rfl, Nat.le_of_ble_eq_true rfl⟩) ?_
   refine TD.rs rfl rfl (o_loadBx rfl tyS_30 rfl rfl (Nat.le_of_ble_eq_true rfl) rfl) ?_
   refine TD.qs rfl rfl (fun _ => o_move rfl rfl) (TD.qs rfl rfl (fun _ => o_nilCheck rfl rfl rfl) (TD.rs rfl rfl (o_fieldAddr rfl rfl rfl tyS_3 (by decide) rfl rfl ⟨_, rfl, Nat.le_of_ble_eq_true rfl⟩) ?_))
   refine TD.rs rfl rfl (o_loadBx rfl tyS_3 rfl rfl (Nat.le_of_ble_eq_true rfl) rfl) ?_
   refine TD.qs rfl rfl (fun _ => o_move rfl rfl) (TD.qs rfl rfl (fun _ => o_nilCheck rfl rfl rfl) (TD.rs rfl rfl (o_fieldAddr rfl rfl rfl tyS_25 (by decide) rfl rfl ⟨_, rfl, Nat.le_of_ble_eq_true rfl⟩) ?_))
   refine TD.rs rfl rfl (o_fieldAddr rfl rfl rfl tyS_3 (by decide) rfl rfl ⟨_, rfl, Nat.le_of_ble_eq_true rfl⟩) ?_
   refine TD.rs rfl rfl (o_loadBx rfl tyS_3 rfl rfl (Nat.le_of_ble_eq_true rfl) rfl) ?_
   refine TD.qs rfl rfl (fun _ => o_ari rfl rfl rfl rfl) ?_
   refine TD.rs rfl rfl (Does.wkP (p := 2) rfl (.same _ _ _ (.same _ _ _ (.same _ _ _ (.same _ _ _ (.same _ _ _ (.same _ _ _ (.same _ _ _ (.same _ _ _ (.same _ _ _ (.same _ _ _ (.same _ _ _ (.same _ _ _ (.same _ _ _ (.same _ _ _ (.same _ _ _ (.same _ _ _ (.ptr 0 0 _ _ .nil))))))))))))))))) (o_build rfl ⟨_, fun _ => rfl, rfl⟩ rfl rfl rfl)) ?_
   obtain ⟨⟨r5, o6, o7⟩, h8, H⟩ := bind_s H
   refine TD.as rfl rfl (o_callM [0, 1, 2, 3] rfl en_81 rfl rfl (impl_yserver_give_p false false h8) rfl (by decide) (.cons _ _ _ _ rfl (.cons _ _ _ _ (ren_at rfl (ren_rawO fun _ => rfl)) (.cons _ _ _ _ (ren_at rfl (ren_famO fun _ => rfl)) (.cons _ _ _ _ (ren_at rfl (ren_mpO fun _ => rfl)) .nil)))) rfl rfl (.cons _ _ _ _ rfl (.cons _ _ _ _ (ren_rawO fun _ => rfl) (.cons _ _ _ _ (ren_famO fun _ => rfl) (.cons _ _ _ _ (ren_mpO fun _ => rfl) .nil)))) rfl) ?_
   refine TD.qs rfl rfl (fun _ => o_assign rfl rfl) ?_
   refine TD.nil ⟨rfl, ?_⟩
   refine thn_normal (T.seq (T.region (TL.st rfl rfl rfl (o_move rfl rfl) (TL.st rfl rfl rfl (o_move rfl rfl) (TL.st rfl rfl rfl (o_nilCheck rfl rfl rfl) (TL.st rfl rfl rfl (o_fieldAddr rfl rfl rfl tyS_3 (by decide) rfl rfl ⟨_, rfl, Nat.le_of_ble_eq_true rfl⟩) ?_))))))
   refine TL.st rfl rfl rfl (o_loadBx rfl tyS_3 rfl rfl (Nat.le_of_ble_eq_true rfl) rfl) ?_
   refine TL.st rfl rfl rfl (o_move rfl rfl) (TL.st rfl rfl rfl (Does.wk (o_build rfl ⟨_, fun _ => rfl, rfl⟩ rfl rfl rfl) (.aggL (.cons _ _ _ _ (.same _) (.cons _ _ _ _ (.same _) (.cons _ _ _ _ (.same _) (.cons _ _ _ _ (.same _) (.cons _ _ _ _ (.same _) (.cons _ _ _ _ .nil (.cons _ _ _ _ (.same _) (.cons _ _ _ _ (.same _) (.cons _ _ _ _ (.same _) (.cons _ _ _ _ (.same _) (.cons _ _ _ _ (.same _) (.cons _ _ _ _ (.same _) (.cons _ _ _ _ (.same _) (.cons _ _ _ _ (.same _) (.cons _ _ _ _ (.same _) (.cons _ _ _ _ (.same _) (.cons _ _ _ _ (.same _) .nil))))))))))))))))))) ?_)
   obtain ⟨⟨r9, o10, o11⟩, h12, H⟩ := bind_s H
   refine TL.st rfl rfl rfl (o_callM [0, 1, 2, 3] rfl en_81 rfl rfl (impl_yserver_give_p false false h12) rfl (by decide) (.cons _ _ _ _ rfl (.cons _ _ _ _ (ren_at rfl (ren_rawO fun _ => rfl)) (.cons _ _ _ _ (ren_at rfl (ren_famO fun _ => rfl)) (.cons _ _ _ _ (ren_at rfl (ren_mpO fun _ => rfl)) .nil)))) rfl rfl (.cons _ _ _ _ rfl (.cons _ _ _ _ (ren_rawO fun _ => rfl) (.cons _ _ _ _ (ren_famO fun _ => rfl) (.cons _ _ _ _ (ren_mpO fun _ => rfl) .nil)))) rfl) ?_
   refine TL.st rfl rfl rfl (o_assign rfl rfl) (TL.nil (thn_normal (T.seq (T.conv (Cs.eqS (σ' := [.box (k_impl_yserver 1 3 2 false o10), .arr .raw 1 (o10.held_.map (c_px 2)), .fam (o11.map (c_T_impl_yheld 2 false)), mpO (V.int .i64) (V.bool) o10.ended_, .box (c_T_impl_Client false a0), .box (c_T_impl_GrantAsk false a1), .box [.int .i64 0, .str (ByteArray.mk #[]), .str (ByteArray.mk #[]), .str (ByteArray.mk #[]), .nilS, .str (ByteArray.mk #[]), .str (ByteArray.mk #[]), .bool false]]) rfl) ?_))))
   refine T.drawn rfl ?_
   refine TD.qs rfl rfl (fun _ => o_move rfl rfl) ?_
   obtain ⟨w13, h14, H⟩ := bind_s H
   refine TD.rs rfl rfl (o_nilCheckP rfl rfl rfl h14) ?_
   refine TD.rs rfl rfl (o_fieldAddrP (a := w13) rfl rfl rfl tyS_9 (by decide) rfl rfl h14) ?_
   refine TD.rs rfl rfl (o_loadP (a := w13) rfl tyS_9 rfl rfl h14 (Nat.le_of_ble_eq_true rfl) rfl) ?_
   refine TD.qs rfl rfl (fun _ => o_move rfl rfl) ?_
   obtain ⟨w15, h16, H⟩ := bind_s H
   refine TD.rs rfl rfl (o_nilCheckP rfl rfl rfl h16) ?_
   refine TD.rs rfl rfl (o_fieldAddrP (a := w15) rfl rfl rfl tyS_9 (by decide) rfl rfl h16) ?_
   refine TD.rs rfl rfl (o_loadP (a := w15) rfl tyS_9 rfl rfl h16 (Nat.le_of_ble_eq_true rfl) rfl) ?_
   refine TD.qs rfl rfl (fun _ => o_build rfl ⟨_, fun _ => rfl, rfl⟩ rfl rfl rfl) ?_
   refine TD.an rfl rfl (o_storeBx rfl tyS_84 rfl rfl rfl rfl (Nat.le_of_ble_eq_true rfl) rfl) ?_
   refine TD.nil ⟨rfl, ?_⟩
   refine thn_normal (T.conv (Cs.nilCell (q := 6) 4 rfl rfl) ?_)
   refine T.ret ?_
   cases some_i H
   exact ⟨trivial, _, (.cell _ _ _ _ _ _ _ _ _ _ rfl rfl tyS_84 (Nat.le_of_ble_eq_true rfl) rfl .nil), ⟨rfl, _, rfl⟩⟩
theorem en_63 (us : Array Value) (w : World) : (callFunc 63 us).run Go.Proofs.Tryz.prog w = .ok (.enter 63 us) w := enters Go.Proofs.Tryz.func63 rfl rfl us w
noncomputable def impl_yserver_approve (a0 : T_impl_GrantAsk) (s0 : T_impl_yserver) (s2 : List T_impl_yheld) : Option (T_impl_GrantReply × List T_impl_yheld) :=
  (impl_GoodName a0.User_).bind fun r1 => cond (!r1) (some ((⟨6, (ByteArray.mk #[]), (ByteArray.mk #[]), (ByteArray.mk #[]), ([] : List ByteArray), (ByteArray.mk #[]), (ByteArray.mk #[]), false⟩ : T_impl_GrantReply), s2)) ((impl_yserver_find (ByteArray.mk #[117, 115, 101, 114]) a0.Code_ s0 s2).bind fun r3 => (gdO (!(decide (r3 < 0))) (idx s2 r3)).bind fun w5 => (gdO (!(decide (r3 < 0))) (idx s2 r3)).bind fun w7 => (gdO (!(decide (r3 < 0))) (idx s2 r3)).bind fun w9 => (gdO (!(decide (r3 < 0))) (idx s2 w9.of_)).bind fun w11 => (gdO (!(decide (r3 < 0))) (idx s2 w9.of_)).bind fun w13 => (gdO (!(decide (r3 < 0))) (idx s2 w9.of_)).bind fun w15 => (gdO (!(decide (r3 < 0) || w15.approved_)) (idx s2 r3)).bind fun w17 => (gdO (!(decide (r3 < 0) || w15.approved_)) (idx s2 r3)).bind fun w19 => (gdO (!(decide (r3 < 0) || w15.approved_)) (idx s2 r3)).bind fun w21 => (gdO (!(decide (r3 < 0) || w15.approved_)) (idx s2 w21.of_)).bind fun w23 => (gdO (!(decide (r3 < 0) || w15.approved_)) (idx s2 w21.of_)).bind fun w25 => (gdO (!(decide (r3 < 0) || w15.approved_)) (idx s2 w21.of_)).bind fun w27 => (gdO (!((decide (r3 < 0) || w15.approved_) || w27.denied_)) (idx s2 r3)).bind fun w29 => (gdO (!((decide (r3 < 0) || w15.approved_) || w27.denied_)) (idx s2 r3)).bind fun w31 => (gdO (!((decide (r3 < 0) || w15.approved_) || w27.denied_)) (idx s2 r3)).bind fun w33 => (gdO (!((decide (r3 < 0) || w15.approved_) || w27.denied_)) (idx s2 w33.of_)).bind fun w35 => (gdO (!((decide (r3 < 0) || w15.approved_) || w27.denied_)) (idx s2 w33.of_)).bind fun w37 => (gdO (!((decide (r3 < 0) || w15.approved_) || w27.denied_)) (idx s2 w33.of_)).bind fun w39 => cond (((decide (r3 < 0) || w15.approved_) || w27.denied_) || decide (s0.now_ > w39.until_)) (some ((⟨8, (ByteArray.mk #[]), (ByteArray.mk #[]), (ByteArray.mk #[]), ([] : List ByteArray), (ByteArray.mk #[]), (ByteArray.mk #[]), false⟩ : T_impl_GrantReply), s2)) (cond a0.Deny_ ((idx s2 r3).bind fun w41 => (idx s2 w41.of_).bind fun w43 => some ((⟨0, (ByteArray.mk #[]), (ByteArray.mk #[]), (ByteArray.mk #[]), ([] : List ByteArray), (ByteArray.mk #[]), (ByteArray.mk #[]), false⟩ : T_impl_GrantReply), (s2.set (Int.toNat w41.of_) ({ w43 with denied_ := true } : T_impl_yheld)))) ((idx s2 r3).bind fun w45 => (idx s2 w45.of_).bind fun w47 => (idx (s2.set (Int.toNat w45.of_) ({ w47 with approved_ := true } : T_impl_yheld)) w45.of_).bind fun w49 => some ((⟨0, (ByteArray.mk #[]), (ByteArray.mk #[]), (ByteArray.mk #[]), ([] : List ByteArray), (ByteArray.mk #[]), (ByteArray.mk #[]), false⟩ : T_impl_GrantReply), ((s2.set (Int.toNat w45.of_) ({ w47 with approved_ := true } : T_impl_yheld)).set (Int.toNat w45.of_) ({ w49 with user_ := a0.User_ } : T_impl_yheld))))))
theorem impl_yserver_approve_p (b0 : Bool) (c0 : Bool) {a0 : T_impl_GrantAsk} {s0 : T_impl_yserver} {s2 : List T_impl_yheld} {R0 : T_impl_GrantReply} {U2 : List T_impl_yheld} (H : impl_yserver_approve a0 s0 s2 = some (R0, U2)) : St Go.Proofs.Tryz.prog 64 [.bx 0 0, .agg (c_T_impl_GrantAsk b0 a0)] [.box (k_impl_yserver 1 3 2 c0 s0), .arr .raw 1 (s0.held_.map (c_px 2)), .fam (s2.map (c_T_impl_yheld 2 false)), mpO (V.int .i64) (V.bool) s0.ended_] (.agg (c_T_impl_GrantReply false R0)) [.box (k_impl_yserver 1 3 2 c0 s0), .arr .raw 1 (s0.held_.map (c_px 2)), .fam (U2.map (c_T_impl_yheld 2 false)), mpO (V.int .i64) (V.bool) s0.ended_] := by
 refine CallT.fin (CallT.of_TN (n := 73) Go.Proofs.Tryz.func64 rfl rfl rfl rfl ?_) rfl rfl ⟨(bels_iff.1 rfl), ⟨(belRaw fun _ => rfl), ⟨(belFam fun _ => rfl), ⟨(belMap fun _ => rfl), trivial⟩⟩⟩⟩
 refine T.seq (T.region (TL.st rfl rfl rfl (o_box rfl rfl rfl) (TL.st rfl rfl rfl (o_alloc rfl ⟨_, rfl, rfl⟩) (TL.nil (thn_normal (T.seq (T.seq (T.region (TL.st rfl rfl rfl (o_fieldAddr rfl rfl rfl tyS_9 (by decide) rfl rfl ⟨_, rfl, Nat.le_of_ble_eq_true rfl⟩) ?_)))))))))
 refine TL.st rfl rfl rfl (o_loadBx rfl tyS_9 rfl rfl (Nat.le_of_ble_eq_true rfl) rfl) ?_
 obtain ⟨r1, h2, H⟩ := bind_s H
 refine TL.st rfl rfl rfl (o_callP rfl en_80 rfl rfl (.cons _ _ _ _ (.cl _ rfl) .nil) (impl_GoodName_p  h2)) ?_
 refine TL.st rfl rfl rfl (o_not rfl rfl) ?_
 refine TL.nil (thn_normal ?_)
 refine T.cond ((!r1)) rfl (fun h => ?_) (fun h => ?_)
 ·replace H := cond_t h H
  refine T.seq (T.region (TL.st rfl rfl rfl (o_build rfl ⟨_, fun _ => rfl, rfl⟩ rfl rfl rfl) ?_))
  refine TL.sn rfl rfl (o_storeBx rfl tyS_84 rfl rfl rfl rfl (Nat.le_of_ble_eq_true rfl) rfl) ?_
  refine TL.nil (thn_normal (T.conv (Cs.eqS (σ' := [.box (k_impl_yserver 1 3 2 c0 s0), .arr .raw 1 (s0.held_.map (c_px 2)), .fam (s2.map (c_T_impl_yheld 2 false)), mpO (V.int .i64) (V.bool) s0.ended_, .box (c_T_impl_GrantAsk b0 a0), .box [.int .i64 6, .str (ByteArray.mk #[]), .str (ByteArray.mk #[]), .str (ByteArray.mk #[]), .nilS, .str (ByteArray.mk #[]), .str (ByteArray.mk #[]), .bool false]]) rfl) ?_))
  refine T.conv (Cs.nilCell (q := 5) 4 rfl rfl) ?_
  refine T.ret (thn_ret ?_)
  cases some_i H
  exact ⟨trivial, _, (.cell _ _ _ _ _ _ _ _ _ _ rfl rfl tyS_84 (Nat.le_of_ble_eq_true rfl) rfl .nil), ⟨rfl, _, rfl⟩⟩
 ·replace H := cond_f h H
  refine T.skip (thn_normal (T.seq (T.region (TL.st rfl rfl rfl (o_move rfl rfl) (TL.st rfl rfl rfl (o_fieldAddr rfl rfl rfl tyS_9 (by decide) rfl rfl ⟨_, rfl, Nat.le_of_ble_eq_true rfl⟩) ?_)))))
  refine TL.st rfl rfl rfl (o_loadBx rfl tyS_9 rfl rfl (Nat.le_of_ble_eq_true rfl) rfl) ?_
  obtain ⟨r3, h4, H⟩ := bind_s H
  refine TL.st rfl rfl rfl (o_callM [0, 1, 2, 3] rfl en_67 rfl rfl (impl_yserver_find_p c0 h4) rfl (by decide) (.cons _ _ _ _ rfl (.cons _ _ _ _ (ren_at rfl (ren_rawO fun _ => rfl)) (.cons _ _ _ _ (ren_at rfl (ren_famO fun _ => rfl)) (.cons _ _ _ _ (ren_at rfl (ren_mpO fun _ => rfl)) .nil)))) rfl rfl (.cons _ _ _ _ rfl (.cons _ _ _ _ (ren_rawO fun _ => rfl) (.cons _ _ _ _ (ren_famO fun _ => rfl) (.cons _ _ _ _ (ren_mpO fun _ => rfl) .nil)))) rfl) ?_
  refine TL.st rfl rfl rfl (o_assign rfl rfl) (TL.nil (thn_normal (T.seq (T.seq (T.conv (Cs.eqS (σ' := [.box (k_impl_yserver 1 3 2 c0 s0), .arr .raw 1 (s0.held_.map (c_px 2)), .fam (s2.map (c_T_impl_yheld 2 false)), mpO (V.int .i64) (V.bool) s0.ended_, .box (c_T_impl_GrantAsk b0 a0), .box [.int .i64 0, .str (ByteArray.mk #[]), .str (ByteArray.mk #[]), .str (ByteArray.mk #[]), .nilS, .str (ByteArray.mk #[]), .str (ByteArray.mk #[]), .bool false]]) rfl) ?_)))))
  refine T.drawn rfl ?_
  refine TD.qs rfl rfl (fun _ => o_move rfl rfl) (TD.rs rfl rfl (o_pxEq rfl rfl rfl rfl) ?_)
  refine TD.qs rfl rfl (fun _ => o_move rfl rfl) (TD.cq rfl rfl rfl (.bool _) rfl (fun h _ => o_move rfl rfl) ?_)
  obtain ⟨w5, h6, H⟩ := bind_s H
  refine TD.cr rfl rfl rfl (.bool _) rfl (fun h => o_nilCheckP rfl (gv h rfl) rfl (gdO_t h6 h)) ?_
  obtain ⟨w7, h8, H⟩ := bind_s H
  refine TD.cr rfl rfl rfl (.bool _) rfl (fun h => o_fieldAddrP (a := w7) rfl rfl rfl tyS_101 (by decide) (gv h rfl) rfl (gdO_t h8 h)) ?_
  obtain ⟨w9, h10, H⟩ := bind_s H
  refine TD.cr rfl rfl rfl (.bool _) rfl (fun h => o_loadP (a := w9) rfl tyS_101 (gv h rfl) rfl (gdO_t h10 h) (Nat.le_of_ble_eq_true rfl) rfl) ?_
  obtain ⟨w11, h12, H⟩ := bind_s H
  refine TD.cr rfl rfl rfl (.bool _) rfl (fun h => o_nilCheckP rfl (gv h rfl) rfl (gdO_t h12 h)) ?_
  obtain ⟨w13, h14, H⟩ := bind_s H
  refine TD.cr rfl rfl rfl (.bool _) rfl (fun h => o_fieldAddrP (a := w13) rfl rfl rfl tyS_4 (by decide) (gv h rfl) rfl (gdO_t h14 h)) ?_
  obtain ⟨w15, h16, H⟩ := bind_s H
  refine TD.cr rfl rfl rfl (.bool _) rfl (fun h => o_loadP (a := w15) rfl tyS_4 (gv h rfl) rfl (gdO_t h16 h) (Nat.le_of_ble_eq_true rfl) rfl) ?_
  refine TD.qs rfl rfl (fun _ => o_or rfl rfl rfl rfl (fun k => Gd_t k)) ?_
  refine TD.qs rfl rfl (fun _ => o_move rfl rfl) (TD.cq rfl rfl rfl (.bool _) rfl (fun h _ => o_move rfl rfl) ?_)
  obtain ⟨w17, h18, H⟩ := bind_s H
  refine TD.cr rfl rfl rfl (.bool _) rfl (fun h => o_nilCheckP rfl (gv h rfl) rfl (gdO_t h18 h)) ?_
  obtain ⟨w19, h20, H⟩ := bind_s H
  refine TD.cr rfl rfl rfl (.bool _) rfl (fun h => o_fieldAddrP (a := w19) rfl rfl rfl tyS_101 (by decide) (gv h rfl) rfl (gdO_t h20 h)) ?_
  obtain ⟨w21, h22, H⟩ := bind_s H
  refine TD.cr rfl rfl rfl (.bool _) rfl (fun h => o_loadP (a := w21) rfl tyS_101 (gv h rfl) rfl (gdO_t h22 h) (Nat.le_of_ble_eq_true rfl) rfl) ?_
  obtain ⟨w23, h24, H⟩ := bind_s H
  refine TD.cr rfl rfl rfl (.bool _) rfl (fun h => o_nilCheckP rfl (gv h rfl) rfl (gdO_t h24 h)) ?_
  obtain ⟨w25, h26, H⟩ := bind_s H
  refine TD.cr rfl rfl rfl (.bool _) rfl (fun h => o_fieldAddrP (a := w25) rfl rfl rfl tyS_4 (by decide) (gv h rfl) rfl (gdO_t h26 h)) ?_
  obtain ⟨w27, h28, H⟩ := bind_s H
  refine TD.cr rfl rfl rfl (.bool _) rfl (fun h => o_loadP (a := w27) rfl tyS_4 (gv h rfl) rfl (gdO_t h28 h) (Nat.le_of_ble_eq_true rfl) rfl) ?_
  refine TD.qs rfl rfl (fun _ => o_or rfl rfl rfl rfl (fun k => Gd_t k)) ?_
  refine TD.qs rfl rfl (fun _ => o_move rfl rfl) (TD.cq rfl rfl rfl (.bool _) rfl (fun h _ => o_move rfl rfl) ?_)
  refine TD.cq rfl rfl rfl (.bool _) rfl (fun h _ => o_nilCheck rfl (gv h rfl) rfl) ?_
  refine TD.cr rfl rfl rfl (.bool _) rfl (fun h => o_fieldAddr rfl rfl rfl tyS_3 (by decide) (gv h rfl) rfl ⟨_, rfl, Nat.le_of_ble_eq_true rfl⟩) ?_
  refine TD.cr rfl rfl rfl (.bool _) rfl (fun h => o_loadBx rfl tyS_3 (gv h rfl) rfl (Nat.le_of_ble_eq_true rfl) rfl) ?_
  refine TD.cq rfl rfl rfl (.bool _) rfl (fun h _ => o_move rfl rfl) ?_
  obtain ⟨w29, h30, H⟩ := bind_s H
  refine TD.cr rfl rfl rfl (.bool _) rfl (fun h => o_nilCheckP rfl (gv h rfl) rfl (gdO_t h30 h)) ?_
  obtain ⟨w31, h32, H⟩ := bind_s H
  refine TD.cr rfl rfl rfl (.bool _) rfl (fun h => o_fieldAddrP (a := w31) rfl rfl rfl tyS_101 (by decide) (gv h rfl) rfl (gdO_t h32 h)) ?_
  obtain ⟨w33, h34, H⟩ := bind_s H
  refine TD.cr rfl rfl rfl (.bool _) rfl (fun h => o_loadP (a := w33) rfl tyS_101 (gv h rfl) rfl (gdO_t h34 h) (Nat.le_of_ble_eq_true rfl) rfl) ?_
  obtain ⟨w35, h36, H⟩ := bind_s H
  refine TD.cr rfl rfl rfl (.bool _) rfl (fun h => o_nilCheckP rfl (gv h rfl) rfl (gdO_t h36 h)) ?_
  obtain ⟨w37, h38, H⟩ := bind_s H
  refine TD.cr rfl rfl rfl (.bool _) rfl (fun h => o_fieldAddrP (a := w37) rfl rfl rfl tyS_3 (by decide) (gv h rfl) rfl (gdO_t h38 h)) ?_
  obtain ⟨w39, h40, H⟩ := bind_s H
  refine TD.cr rfl rfl rfl (.bool _) rfl (fun h => o_loadP (a := w39) rfl tyS_3 (gv h rfl) rfl (gdO_t h40 h) (Nat.le_of_ble_eq_true rfl) rfl) ?_
  refine TD.cq rfl rfl rfl (.bool _) rfl (fun h _ => o_ari rfl (gv h rfl) (gv h rfl) rfl) ?_
  refine TD.qs rfl rfl (fun _ => o_or rfl rfl rfl rfl (fun k => Gd_t k)) ?_
  refine TD.nil ⟨rfl, ?_⟩
  refine thn_normal ?_
  refine T.cond ((((decide (r3 < 0) || w15.approved_) || w27.denied_) || decide (s0.now_ > w39.until_))) rfl (fun h => ?_) (fun h => ?_)
  ·replace H := cond_t h H
   refine T.seq (T.region (TL.st rfl rfl rfl (o_build rfl ⟨_, fun _ => rfl, rfl⟩ rfl rfl rfl) ?_))
   refine TL.sn rfl rfl (o_storeBx rfl tyS_84 rfl rfl rfl rfl (Nat.le_of_ble_eq_true rfl) rfl) ?_
   refine TL.nil (thn_normal (T.conv (Cs.nilCell (q := 5) 4 rfl rfl) ?_))
   refine T.ret (thn_ret ?_)
   cases some_i H
   exact ⟨trivial, _, (.cell _ _ _ _ _ _ _ _ _ _ rfl rfl tyS_84 (Nat.le_of_ble_eq_true rfl) rfl .nil), ⟨rfl, _, rfl⟩⟩
  ·replace H := cond_f h H
   refine T.skip (thn_normal (T.seq (T.seq (T.region (TL.st rfl rfl rfl (o_fieldAddr rfl rfl rfl tyS_4 (by decide) rfl rfl ⟨_, rfl, Nat.le_of_ble_eq_true rfl⟩) ?_)))))
   refine TL.st rfl rfl rfl (o_loadBx rfl tyS_4 rfl rfl (Nat.le_of_ble_eq_true rfl) rfl) ?_
   refine TL.nil (thn_normal ?_)
   refine T.cond (a0.Deny_) rfl (fun h => ?_) (fun h => ?_)
   ·replace H := cond_t h H
    refine T.region (TL.st rfl rfl rfl (o_move rfl rfl) ?_)
    obtain ⟨w41, h42, H⟩ := bind_s H
    refine TL.st rfl rfl rfl (o_nilCheckP rfl rfl rfl h42) ?_
    refine TL.st rfl rfl rfl (o_fieldAddrP (a := w41) rfl rfl rfl tyS_101 (by decide) rfl rfl h42) ?_
    refine TL.st rfl rfl rfl (o_loadP (a := w41) rfl tyS_101 rfl rfl h42 (Nat.le_of_ble_eq_true rfl) rfl) ?_
    obtain ⟨w43, h44, H⟩ := bind_s H
    refine TL.st rfl rfl rfl (o_nilCheckP rfl rfl rfl h44) ?_
    refine TL.st rfl rfl rfl (o_fieldAddrP (a := w43) rfl rfl rfl tyS_4 (by decide) rfl rfl h44) ?_
    refine TL.sn rfl rfl (o_storeP (a := w43) (a' := ({ w43 with denied_ := true } : T_impl_yheld)) rfl tyS_4 rfl rfl rfl h44 rfl (Nat.le_of_ble_eq_true rfl) rfl rfl) ?_
    refine TL.nil (thn_normal (T.seq (T.region (TL.st rfl rfl rfl (o_build rfl ⟨_, fun _ => rfl, rfl⟩ rfl rfl rfl) ?_))))
    refine TL.sn rfl rfl (o_storeBx rfl tyS_84 rfl rfl rfl rfl (Nat.le_of_ble_eq_true rfl) rfl) ?_
    refine TL.nil (thn_normal (T.conv (Cs.nilCell (q := 5) 4 rfl rfl) ?_))
    refine T.ret ?_
    cases some_i H
    exact ⟨trivial, _, (.cell _ _ _ _ _ _ _ _ _ _ rfl rfl tyS_84 (Nat.le_of_ble_eq_true rfl) rfl .nil), ⟨rfl, _, rfl⟩⟩
   ·replace H := cond_f h H
    obtain ⟨w45, h46, H⟩ := bind_s H
    obtain ⟨w47, h48, H⟩ := bind_s H
    obtain ⟨w49, h50, H⟩ := bind_s H
    refine T.drawS (fr' := [(0, .bx 0 0), (1, .agg (c_T_impl_GrantAsk b0 a0)), (3, .bx 4 0), (4, .bx 5 0), (5, .px 2 0 r3 0), (6, .bx 4 7), (7, .str a0.User_), (8, .bool r1), (9, .bool (!r1)), (11, .bx 0 0), (12, .bx 4 8), (13, .str a0.Code_), (14, .px 2 0 r3 0), (15, .px 2 0 r3 0), (16, .bool (decide (r3 < 0))), (17, .bool (decide (r3 < 0))), (25, .bool (decide (r3 < 0) || w15.approved_)), (26, .bool (decide (r3 < 0) || w15.approved_)), (34, .bool ((decide (r3 < 0) || w15.approved_) || w27.denied_)), (35, .bool ((decide (r3 < 0) || w15.approved_) || w27.denied_)), (48, .bool (((decide (r3 < 0) || w15.approved_) || w27.denied_) || decide (s0.now_ > w39.until_))), (50, .bx 4 11), (51, .bool a0.Deny_), (58, .px 2 0 r3 0), (59, .px 2 0 r3 0), (60, .px 2 0 r3 16), (61, .px 2 0 w45.of_ 0), (62, .px 2 0 r3 0), (63, .px 2 0 r3 0), (64, .px 2 0 r3 16), (65, .px 2 0 w45.of_ 0), (66, .bx 4 7), (67, .str a0.User_), (68, .px 2 0 w45.of_ 0), (69, .px 2 0 w45.of_ 12), (70, .px 2 0 w45.of_ 0), (71, .px 2 0 w45.of_ 4)]) (R := [⟨some 58, .px 2 0 r3 0, .q, []⟩, ⟨some 59, .px 2 0 r3 0, .q, []⟩, ⟨some 60, .px 2 0 r3 16, .q, []⟩, ⟨some 61, .px 2 0 w45.of_ 0, .q, []⟩, ⟨some 62, .px 2 0 r3 0, .q, []⟩, ⟨some 63, .px 2 0 r3 0, .q, []⟩, ⟨some 64, .px 2 0 r3 16, .q, []⟩, ⟨some 65, .px 2 0 w45.of_ 0, .q, []⟩, ⟨some 66, .bx 4 7, .q, []⟩, ⟨some 67, .str a0.User_, .q, []⟩, ⟨some 68, .px 2 0 w45.of_ 0, .q, []⟩, ⟨some 69, .px 2 0 w45.of_ 12, .q, []⟩, ⟨none, .any, .q, []⟩, ⟨some 70, .px 2 0 w45.of_ 0, .q, []⟩, ⟨some 71, .px 2 0 w45.of_ 4, .q, []⟩, ⟨none, .any, .q, []⟩]) (fun b => cond (b 12) (cond (b 15) ([.box (k_impl_yserver 1 3 2 c0 s0), .arr .raw 1 (s0.held_.map (c_px 2)), .fam (((s2.set (Int.toNat w45.of_) ({ w47 with approved_ := true } : T_impl_yheld)).set (Int.toNat w45.of_) ({ w49 with user_ := a0.User_ } : T_impl_yheld)).map (c_T_impl_yheld 2 false)), mpO (V.int .i64) (V.bool) s0.ended_, .box (c_T_impl_GrantAsk b0 a0), .box [.int .i64 0, .str (ByteArray.mk #[]), .str (ByteArray.mk #[]), .str (ByteArray.mk #[]), .nilS, .str (ByteArray.mk #[]), .str (ByteArray.mk #[]), .bool false]]) ([.box (k_impl_yserver 1 3 2 c0 s0), .arr .raw 1 (s0.held_.map (c_px 2)), .fam ((s2.set (Int.toNat w45.of_) ({ w47 with approved_ := true } : T_impl_yheld)).map (c_T_impl_yheld 2 false)), mpO (V.int .i64) (V.bool) s0.ended_, .box (c_T_impl_GrantAsk b0 a0), .box [.int .i64 0, .str (ByteArray.mk #[]), .str (ByteArray.mk #[]), .str (ByteArray.mk #[]), .nilS, .str (ByteArray.mk #[]), .str (ByteArray.mk #[]), .bool false]])) ([.box (k_impl_yserver 1 3 2 c0 s0), .arr .raw 1 (s0.held_.map (c_px 2)), .fam (s2.map (c_T_impl_yheld 2 false)), mpO (V.int .i64) (V.bool) s0.ended_, .box (c_T_impl_GrantAsk b0 a0), .box [.int .i64 0, .str (ByteArray.mk #[]), .str (ByteArray.mk #[]), .str (ByteArray.mk #[]), .nilS, .str (ByteArray.mk #[]), .str (ByteArray.mk #[]), .bool false]])) rfl ?_ ?_ rfl rfl (FrL.get (.cons rfl (.cons rfl (.cons rfl (.cons rfl (.cons rfl (.cons rfl (.cons rfl (.cons rfl (.cons rfl (.cons rfl (.cons rfl (.cons rfl (.cons rfl (.cons rfl (.cons rfl (.cons rfl (.cons rfl (.cons rfl (.cons rfl (.cons rfl (.cons rfl (.cons rfl (.cons rfl (.cons rfl (.cons rfl (.cons rfl (.cons rfl (.cons rfl (.cons rfl (.cons rfl (.cons rfl (.cons rfl (.cons rfl (.cons rfl (.cons rfl (.cons rfl (.cons rfl .nil)))))))))))))))))))))))))))))))))))))) ?_
    ·refine .cons _ _ _ _ _ ⟨rfl, [(5, .px 2 0 r3 0)], AllN.get rfl (.cons rfl .nil), fun b hd hn hk hc => ?_⟩ ?_
     ·exact ops_at (cdf (hn 12 rfl)) rfl (o_move rfl rfl) (cdf ((updb_ne rfl).trans (hn 12 rfl))) rfl
     refine .cons _ _ _ _ _ ⟨rfl, [(58, .px 2 0 r3 0)], AllN.get rfl (.cons rfl .nil), fun b hd hn hk hc => ?_⟩ ?_
     ·exact ops_at (cdf (hn 12 rfl)) rfl (o_nilCheckP rfl rfl rfl h46) (cdf ((updb_ne rfl).trans (hn 12 rfl))) rfl
     refine .cons _ _ _ _ _ ⟨rfl, [(59, .px 2 0 r3 0)], AllN.get rfl (.cons rfl .nil), fun b hd hn hk hc => ?_⟩ ?_
     ·exact ops_at (cdf (hn 12 rfl)) rfl (o_fieldAddrP (a := w45) rfl rfl rfl tyS_101 (by decide) rfl rfl h46) (cdf ((updb_ne rfl).trans (hn 12 rfl))) rfl
     refine .cons _ _ _ _ _ ⟨rfl, [(60, .px 2 0 r3 16)], AllN.get rfl (.cons rfl .nil), fun b hd hn hk hc => ?_⟩ ?_
     ·exact ops_at (cdf (hn 12 rfl)) rfl (o_loadP (a := w45) rfl tyS_101 rfl rfl h46 (Nat.le_of_ble_eq_true rfl) rfl) (cdf ((updb_ne rfl).trans (hn 12 rfl))) rfl
     refine .cons _ _ _ _ _ ⟨rfl, [(5, .px 2 0 r3 0)], AllN.get rfl (.cons rfl .nil), fun b hd hn hk hc => ?_⟩ ?_
     ·exact ops_at (cdf (hn 12 rfl)) rfl (o_move rfl rfl) (cdf ((updb_ne rfl).trans (hn 12 rfl))) rfl
     refine .cons _ _ _ _ _ ⟨rfl, [(62, .px 2 0 r3 0)], AllN.get rfl (.cons rfl .nil), fun b hd hn hk hc => ?_⟩ ?_
     ·exact ops_at (cdf (hn 12 rfl)) rfl (o_nilCheckP rfl rfl rfl h46) (cdf ((updb_ne rfl).trans (hn 12 rfl))) rfl
     refine .cons _ _ _ _ _ ⟨rfl, [(63, .px 2 0 r3 0)], AllN.get rfl (.cons rfl .nil), fun b hd hn hk hc => ?_⟩ ?_
     ·exact ops_at (cdf (hn 12 rfl)) rfl (o_fieldAddrP (a := w45) rfl rfl rfl tyS_101 (by decide) rfl rfl h46) (cdf ((updb_ne rfl).trans (hn 12 rfl))) rfl
     refine .cons _ _ _ _ _ ⟨rfl, [(64, .px 2 0 r3 16)], AllN.get rfl (.cons rfl .nil), fun b hd hn hk hc => ?_⟩ ?_
     ·exact ops_at (cdf (hn 12 rfl)) rfl (o_loadP (a := w45) rfl tyS_101 rfl rfl h46 (Nat.le_of_ble_eq_true rfl) rfl) (cdf ((updb_ne rfl).trans (hn 12 rfl))) rfl
     refine .cons _ _ _ _ _ ⟨rfl, [(3, .bx 4 0)], AllN.get rfl (.cons rfl .nil), fun b hd hn hk hc => ?_⟩ ?_
     ·cases e12 : b 12
      ·exact ops_at (cdf e12) rfl (o_fieldAddr rfl rfl rfl tyS_9 (by decide) rfl rfl ⟨_, rfl, Nat.le_of_ble_eq_true rfl⟩) (cdf ((updb_ne rfl).trans e12)) rfl
      ·exact ops_at ((cdt e12).trans (cdf (hn 15 rfl))) rfl (o_fieldAddr rfl rfl rfl tyS_9 (by decide) rfl rfl ⟨_, rfl, Nat.le_of_ble_eq_true rfl⟩) ((cdt ((updb_ne rfl).trans e12)).trans (cdf ((updb_ne rfl).trans (hn 15 rfl)))) rfl
     refine .cons _ _ _ _ _ ⟨rfl, [(66, .bx 4 7)], AllN.get rfl (.cons rfl .nil), fun b hd hn hk hc => ?_⟩ ?_
     ·cases e12 : b 12
      ·exact ops_at (cdf e12) rfl (o_loadBx rfl tyS_9 rfl rfl (Nat.le_of_ble_eq_true rfl) rfl) (cdf ((updb_ne rfl).trans e12)) rfl
      ·exact ops_at ((cdt e12).trans (cdf (hn 15 rfl))) rfl (o_loadBx rfl tyS_9 rfl rfl (Nat.le_of_ble_eq_true rfl) rfl) ((cdt ((updb_ne rfl).trans e12)).trans (cdf ((updb_ne rfl).trans (hn 15 rfl)))) rfl
     refine .cons _ _ _ _ _ ⟨rfl, [(61, .px 2 0 w45.of_ 0)], AllN.get rfl (.cons rfl .nil), fun b hd hn hk hc => ?_⟩ ?_
     ·exact ops_at (cdf (hn 12 rfl)) rfl (o_nilCheckP rfl rfl rfl h48) (cdf ((updb_ne rfl).trans (hn 12 rfl))) rfl
     refine .cons _ _ _ _ _ ⟨rfl, [(68, .px 2 0 w45.of_ 0)], AllN.get rfl (.cons rfl .nil), fun b hd hn hk hc => ?_⟩ ?_
     ·exact ops_at (cdf (hn 12 rfl)) rfl (o_fieldAddrP (a := w47) rfl rfl rfl tyS_4 (by decide) rfl rfl h48) (cdf ((updb_ne rfl).trans (hn 12 rfl))) rfl
     refine .cons _ _ _ _ _ ⟨rfl, [(69, .px 2 0 w45.of_ 12)], AllN.get rfl (.cons rfl .nil), fun b hd hn hk hc => ?_⟩ ?_
     ·exact ops_at (cdf hk) rfl (o_storeP (a := w47) (a' := ({ w47 with approved_ := true } : T_impl_yheld)) rfl tyS_4 rfl rfl rfl h48 rfl (Nat.le_of_ble_eq_true rfl) rfl rfl) (((cdt updb_self).trans (cdf ((updb_ne rfl).trans (hn 15 rfl)))).trans rfl) rfl
     refine .cons _ _ _ _ _ ⟨rfl, [(65, .px 2 0 w45.of_ 0)], AllN.get rfl (.cons rfl .nil), fun b hd hn hk hc => ?_⟩ ?_
     ·exact ops_at ((cdt (hd 12 rfl)).trans (cdf (hn 15 rfl))) rfl (o_nilCheckP rfl rfl rfl h50) ((cdt ((updb_ne rfl).trans (hd 12 rfl))).trans (cdf ((updb_ne rfl).trans (hn 15 rfl)))) rfl
     refine .cons _ _ _ _ _ ⟨rfl, [(70, .px 2 0 w45.of_ 0)], AllN.get rfl (.cons rfl .nil), fun b hd hn hk hc => ?_⟩ ?_
     ·exact ops_at ((cdt (hd 12 rfl)).trans (cdf (hn 15 rfl))) rfl (o_fieldAddrP (a := w49) rfl rfl rfl tyS_9 (by decide) rfl rfl h50) ((cdt ((updb_ne rfl).trans (hd 12 rfl))).trans (cdf ((updb_ne rfl).trans (hn 15 rfl)))) rfl
     refine .cons _ _ _ _ _ ⟨rfl, [(67, .str a0.User_), (71, .px 2 0 w45.of_ 4)], AllN.get rfl (.cons rfl (.cons rfl .nil)), fun b hd hn hk hc => ?_⟩ ?_
     ·exact ops_at ((cdt (hd 12 rfl)).trans (cdf hk)) rfl (o_storeP (a := w49) (a' := ({ w49 with user_ := a0.User_ } : T_impl_yheld)) rfl tyS_9 rfl rfl rfl h50 rfl (Nat.le_of_ble_eq_true rfl) rfl rfl) (((cdt ((updb_ne rfl).trans (hd 12 rfl))).trans (cdt updb_self)).trans rfl) rfl
     exact .nil _
    ·intro b b' h; simp only [h 12 (by decide), h 15 (by decide)]
    refine thn_normal (T.seq (T.region (TL.st rfl rfl rfl (o_build rfl ⟨_, fun _ => rfl, rfl⟩ rfl rfl rfl) ?_)))
    refine TL.sn rfl rfl (o_storeBx rfl tyS_84 rfl rfl rfl rfl (Nat.le_of_ble_eq_true rfl) rfl) ?_
    refine TL.nil (thn_normal (T.conv (Cs.eqS (σ' := [.box (k_impl_yserver 1 3 2 c0 s0), .arr .raw 1 (s0.held_.map (c_px 2)), .fam (((s2.set (Int.toNat w45.of_) ({ w47 with approved_ := true } : T_impl_yheld)).set (Int.toNat w45.of_) ({ w49 with user_ := a0.User_ } : T_impl_yheld)).map (c_T_impl_yheld 2 false)), mpO (V.int .i64) (V.bool) s0.ended_, .box (c_T_impl_GrantAsk b0 a0), .box [.int .i64 0, .str (ByteArray.mk #[]), .str (ByteArray.mk #[]), .str (ByteArray.mk #[]), .nilS, .str (ByteArray.mk #[]), .str (ByteArray.mk #[]), .bool false]]) rfl) ?_))
    refine T.conv (Cs.nilCell (q := 5) 4 rfl rfl) ?_
    refine T.ret ?_
    cases some_i H
    exact ⟨trivial, _, (.cell _ _ _ _ _ _ _ _ _ _ rfl rfl tyS_84 (Nat.le_of_ble_eq_true rfl) rfl .nil), ⟨rfl, _, rfl⟩⟩
theorem en_64 (us : Array Value) (w : World) : (callFunc 64 us).run Go.Proofs.Tryz.prog w = .ok (.enter 64 us) w := enters Go.Proofs.Tryz.func64 rfl rfl us w
noncomputable def impl_yserver_poll (a0 : T_impl_Client) (a1 : T_impl_GrantAsk) (s0 : T_impl_yserver) (s2 : List T_impl_yheld) : Option (T_impl_GrantReply × T_impl_yserver × List T_impl_yheld) :=
  (impl_yserver_findOf (ByteArray.mk #[100, 101, 118, 105, 99, 101]) a1 s0 s2).bind fun r1 => cond (decide (r1 < 0)) (some ((⟨8, (ByteArray.mk #[]), (ByteArray.mk #[]), (ByteArray.mk #[]), ([] : List ByteArray), (ByteArray.mk #[]), (ByteArray.mk #[]), false⟩ : T_impl_GrantReply), s0, s2)) ((idx s2 r1).bind fun w3 => cond w3.used_ (some ((⟨9, (ByteArray.mk #[]), (ByteArray.mk #[]), (ByteArray.mk #[]), ([] : List ByteArray), (ByteArray.mk #[]), (ByteArray.mk #[]), false⟩ : T_impl_GrantReply), s0, s2)) (cond (decide (s0.now_ > w3.until_)) (some ((⟨10, (ByteArray.mk #[]), (ByteArray.mk #[]), (ByteArray.mk #[]), ([] : List ByteArray), (ByteArray.mk #[]), (ByteArray.mk #[]), false⟩ : T_impl_GrantReply), s0, s2)) ((gdO w3.polled_ (idx s2 r1)).bind fun w5 => (gdO w3.polled_ (idx s2 r1)).bind fun w7 => (gdO w3.polled_ (idx s2 r1)).bind fun w9 => (idx (s2.set (Int.toNat r1) ({ w3 with polled_ := true } : T_impl_yheld)) r1).bind fun w11 => cond (w3.polled_ && decide (s0.now_ < (IntKind.i64.wrap (w9.last_ + 5)))) (some ((⟨16, (ByteArray.mk #[]), (ByteArray.mk #[]), (ByteArray.mk #[]), ([] : List ByteArray), (ByteArray.mk #[]), (ByteArray.mk #[]), false⟩ : T_impl_GrantReply), s0, ((s2.set (Int.toNat r1) ({ w3 with polled_ := true } : T_impl_yheld)).set (Int.toNat r1) ({ w11 with last_ := s0.now_ } : T_impl_yheld)))) ((idx ((s2.set (Int.toNat r1) ({ w3 with polled_ := true } : T_impl_yheld)).set (Int.toNat r1) ({ w11 with last_ := s0.now_ } : T_impl_yheld)) r1).bind fun w13 => cond w13.denied_ (some ((⟨18, (ByteArray.mk #[]), (ByteArray.mk #[]), (ByteArray.mk #[]), ([] : List ByteArray), (ByteArray.mk #[]), (ByteArray.mk #[]), false⟩ : T_impl_GrantReply), s0, ((s2.set (Int.toNat r1) ({ w3 with polled_ := true } : T_impl_yheld)).set (Int.toNat r1) ({ w11 with last_ := s0.now_ } : T_impl_yheld)))) (cond (!w13.approved_) (some ((⟨17, (ByteArray.mk #[]), (ByteArray.mk #[]), (ByteArray.mk #[]), ([] : List ByteArray), (ByteArray.mk #[]), (ByteArray.mk #[]), false⟩ : T_impl_GrantReply), s0, ((s2.set (Int.toNat r1) ({ w3 with polled_ := true } : T_impl_yheld)).set (Int.toNat r1) ({ w11 with last_ := s0.now_ } : T_impl_yheld)))) ((idx (((s2.set (Int.toNat r1) ({ w3 with polled_ := true } : T_impl_yheld)).set (Int.toNat r1) ({ w11 with last_ := s0.now_ } : T_impl_yheld)).set (Int.toNat r1) ({ w13 with used_ := true } : T_impl_yheld)) r1).bind fun w15 => (impl_yserver_tokens a0 w15.grant_ w15.user_ w15.scopes_ s0 (((s2.set (Int.toNat r1) ({ w3 with polled_ := true } : T_impl_yheld)).set (Int.toNat r1) ({ w11 with last_ := s0.now_ } : T_impl_yheld)).set (Int.toNat r1) ({ w13 with used_ := true } : T_impl_yheld))).bind fun q => (match q with | (r17, o18, o19) => some (r17, o18, o19))))))))
theorem impl_yserver_poll_p (_u0 : Bool) (_u1 : Bool) (_u2 : Bool) {a0 : T_impl_Client} {a1 : T_impl_GrantAsk} {s0 : T_impl_yserver} {s2 : List T_impl_yheld} {R0 : T_impl_GrantReply} {U0 : T_impl_yserver} {U2 : List T_impl_yheld} (H : impl_yserver_poll a0 a1 s0 s2 = some (R0, U0, U2)) : St Go.Proofs.Tryz.prog 65 [.bx 0 0, .agg (c_T_impl_Client false a0), .agg (c_T_impl_GrantAsk false a1)] [.box (k_impl_yserver 1 3 2 false s0), .arr .raw 1 (s0.held_.map (c_px 2)), .fam (s2.map (c_T_impl_yheld 2 false)), mpO (V.int .i64) (V.bool) s0.ended_] (.agg (c_T_impl_GrantReply false R0)) [.box (k_impl_yserver 1 3 2 false (⟨U0.s_, U0.now_, U0.held_, default, U0.grants_⟩ : T_impl_yserver)), .arr .raw 1 (U0.held_.map (c_px 2)), .fam (U2.map (c_T_impl_yheld 2 false)), mpO (V.int .i64) (V.bool) U0.ended_] := by
 refine CallT.fin (CallT.of_TN (n := 93) Go.Proofs.Tryz.func65 rfl rfl rfl rfl ?_) rfl rfl ⟨(bels_iff.1 rfl), ⟨(belRaw fun _ => rfl), ⟨(belFam fun _ => rfl), ⟨(belMap fun _ => rfl), trivial⟩⟩⟩⟩
 refine T.seq (T.region (TL.st rfl rfl rfl (o_box rfl rfl rfl) (TL.st rfl rfl rfl (o_box rfl rfl rfl) (TL.st rfl rfl rfl (o_alloc rfl ⟨_, rfl, rfl⟩) (TL.nil (thn_normal (T.seq (T.conv (Cs.eqS (σ' := [.box (k_impl_yserver 1 3 2 false s0), .arr .raw 1 (s0.held_.map (c_px 2)), .fam (s2.map (c_T_impl_yheld 2 false)), mpO (V.int .i64) (V.bool) s0.ended_, .box (c_T_impl_Client false a0), .box (c_T_impl_GrantAsk false a1), .box [.int .i64 0, .str (ByteArray.mk #[]), .str (ByteArray.mk #[]), .str (ByteArray.mk #[]), .nilS, .str (ByteArray.mk #[]), .str (ByteArray.mk #[]), .bool false]]) rfl) ?_))))))))
 refine T.region (TL.st rfl rfl rfl (o_move rfl rfl) (TL.st rfl rfl rfl (o_loadBx rfl tyS_82 rfl rfl (Nat.le_of_ble_eq_true rfl) rfl) ?_))
 obtain ⟨r1, h2, H⟩ := bind_s H
 refine TL.st rfl rfl rfl (o_callM [0, 1, 2, 3] rfl en_70 rfl rfl (impl_yserver_findOf_p false false h2) rfl (by decide) (.cons _ _ _ _ rfl (.cons _ _ _ _ (ren_at rfl (ren_rawO fun _ => rfl)) (.cons _ _ _ _ (ren_at rfl (ren_famO fun _ => rfl)) (.cons _ _ _ _ (ren_at rfl (ren_mpO fun _ => rfl)) .nil)))) rfl rfl (.cons _ _ _ _ rfl (.cons _ _ _ _ (ren_rawO fun _ => rfl) (.cons _ _ _ _ (ren_famO fun _ => rfl) (.cons _ _ _ _ (ren_mpO fun _ => rfl) .nil)))) rfl) ?_
 refine TL.st rfl rfl rfl (o_assign rfl rfl) (TL.nil (thn_normal (T.seq (T.block (T.seq (T.region (TL.st rfl rfl rfl (o_move rfl rfl) (TL.st rfl rfl rfl (o_pxEq rfl rfl rfl rfl) ?_))))))))
 refine TL.st rfl rfl rfl (o_assign rfl rfl) (TL.nil (thn_normal ?_))
 refine T.cond (decide (r1 < 0)) rfl (fun h => ?_) (fun h => ?_)
 ·replace H := cond_t h H
  refine T.seq (T.region (TL.st rfl rfl rfl (o_build rfl ⟨_, fun _ => rfl, rfl⟩ rfl rfl rfl) ?_))
  refine TL.sn rfl rfl (o_storeBx rfl tyS_84 rfl rfl rfl rfl (Nat.le_of_ble_eq_true rfl) rfl) ?_
  refine TL.nil (thn_normal (T.conv (Cs.nilCell (q := 6) 4 rfl rfl) ?_))
  refine T.ret (inB_ret (thn_ret ?_))
  cases some_i H
  exact ⟨trivial, _, (.cell _ _ _ _ _ _ _ _ _ _ rfl rfl tyS_84 (Nat.le_of_ble_eq_true rfl) rfl .nil), ⟨rfl, _, rfl⟩⟩
 ·replace H := cond_f h H
  refine T.seq (T.region (TL.st rfl rfl rfl (o_move rfl rfl) ?_))
  obtain ⟨w3, h4, H⟩ := bind_s H
  refine TL.st rfl rfl rfl (o_nilCheckP rfl rfl rfl h4) ?_
  refine TL.st rfl rfl rfl (o_fieldAddrP (a := w3) rfl rfl rfl tyS_4 (by decide) rfl rfl h4) ?_
  refine TL.st rfl rfl rfl (o_loadP (a := w3) rfl tyS_4 rfl rfl h4 (Nat.le_of_ble_eq_true rfl) rfl) ?_
  refine TL.st rfl rfl rfl (o_assign rfl rfl) (TL.nil (thn_normal ?_))
  refine T.cond (w3.used_) rfl (fun h => ?_) (fun h => ?_)
  ·replace H := cond_t h H
   refine T.seq (T.region (TL.st rfl rfl rfl (o_build rfl ⟨_, fun _ => rfl, rfl⟩ rfl rfl rfl) ?_))
   refine TL.sn rfl rfl (o_storeBx rfl tyS_84 rfl rfl rfl rfl (Nat.le_of_ble_eq_true rfl) rfl) ?_
   refine TL.nil (thn_normal (T.conv (Cs.nilCell (q := 6) 4 rfl rfl) ?_))
   refine T.ret (inB_ret (thn_ret ?_))
   cases some_i H
   exact ⟨trivial, _, (.cell _ _ _ _ _ _ _ _ _ _ rfl rfl tyS_84 (Nat.le_of_ble_eq_true rfl) rfl .nil), ⟨rfl, _, rfl⟩⟩
  ·replace H := cond_f h H
   refine T.seq (T.drawn rfl ?_)
   refine TD.qs rfl rfl (fun _ => o_move rfl rfl) (TD.qs rfl rfl (fun _ => o_nilCheck rfl rfl rfl) (TD.rs rfl rfl (o_fieldAddr rfl rfl rfl tyS_3 (by decide) rfl rfl ⟨_, rfl, Nat.le_of_ble_eq_true rfl⟩) ?_))
   refine TD.rs rfl rfl (o_loadBx rfl tyS_3 rfl rfl (Nat.le_of_ble_eq_true rfl) rfl) ?_
   refine TD.qs rfl rfl (fun _ => o_move rfl rfl) (TD.rs rfl rfl (o_nilCheckP rfl rfl rfl h4) ?_)
   refine TD.rs rfl rfl (o_fieldAddrP (a := w3) rfl rfl rfl tyS_3 (by decide) rfl rfl h4) ?_
   refine TD.rs rfl rfl (o_loadP (a := w3) rfl tyS_3 rfl rfl h4 (Nat.le_of_ble_eq_true rfl) rfl) ?_
   refine TD.qs rfl rfl (fun _ => o_ari rfl rfl rfl rfl) ?_
   refine TD.qs rfl rfl (fun _ => o_assign rfl rfl) ?_
   refine TD.nil ⟨rfl, ?_⟩
   refine thn_normal ?_
   refine T.cond (decide (s0.now_ > w3.until_)) rfl (fun h => ?_) (fun h => ?_)
   ·replace H := cond_t h H
    refine T.seq (T.region (TL.st rfl rfl rfl (o_build rfl ⟨_, fun _ => rfl, rfl⟩ rfl rfl rfl) ?_))
    refine TL.sn rfl rfl (o_storeBx rfl tyS_84 rfl rfl rfl rfl (Nat.le_of_ble_eq_true rfl) rfl) ?_
    refine TL.nil (thn_normal (T.conv (Cs.nilCell (q := 6) 4 rfl rfl) ?_))
    refine T.ret (inB_ret (thn_ret ?_))
    cases some_i H
    exact ⟨trivial, _, (.cell _ _ _ _ _ _ _ _ _ _ rfl rfl tyS_84 (Nat.le_of_ble_eq_true rfl) rfl .nil), ⟨rfl, _, rfl⟩⟩
   ·replace H := cond_f h H
    refine T.skip (inB_normal (thn_normal (T.seq (T.drawn rfl ?_))))
    refine TD.qs rfl rfl (fun _ => o_move rfl rfl) (TD.rs rfl rfl (o_nilCheckP rfl rfl rfl h4) ?_)
    refine TD.rs rfl rfl (o_fieldAddrP (a := w3) rfl rfl rfl tyS_4 (by decide) rfl rfl h4) ?_
    refine TD.rs rfl rfl (o_loadP (a := w3) rfl tyS_4 rfl rfl h4 (Nat.le_of_ble_eq_true rfl) rfl) ?_
    refine TD.qs rfl rfl (fun _ => o_move rfl rfl) (TD.cq rfl rfl rfl (.bool _) rfl (fun h _ => o_move rfl rfl) ?_)
    refine TD.cq rfl rfl rfl (.bool _) rfl (fun h _ => o_nilCheck rfl (gv h rfl) rfl) ?_
    refine TD.cr rfl rfl rfl (.bool _) rfl (fun h => o_fieldAddr rfl rfl rfl tyS_3 (by decide) (gv h rfl) rfl ⟨_, rfl, Nat.le_of_ble_eq_true rfl⟩) ?_
    refine TD.cr rfl rfl rfl (.bool _) rfl (fun h => o_loadBx rfl tyS_3 (gv h rfl) rfl (Nat.le_of_ble_eq_true rfl) rfl) ?_
    refine TD.cq rfl rfl rfl (.bool _) rfl (fun h _ => o_move rfl rfl) ?_
    obtain ⟨w5, h6, H⟩ := bind_s H
    refine TD.cr rfl rfl rfl (.bool _) rfl (fun h => o_nilCheckP rfl (gv h rfl) rfl (gdO_t h6 h)) ?_
    obtain ⟨w7, h8, H⟩ := bind_s H
    refine TD.cr rfl rfl rfl (.bool _) rfl (fun h => o_fieldAddrP (a := w7) rfl rfl rfl tyS_3 (by decide) (gv h rfl) rfl (gdO_t h8 h)) ?_
    obtain ⟨w9, h10, H⟩ := bind_s H
    refine TD.cr rfl rfl rfl (.bool _) rfl (fun h => o_loadP (a := w9) rfl tyS_3 (gv h rfl) rfl (gdO_t h10 h) (Nat.le_of_ble_eq_true rfl) rfl) ?_
    refine TD.cq rfl rfl rfl (.bool _) rfl (fun h _ => o_ari rfl (gv h rfl) rfl rfl) ?_
    refine TD.cq rfl rfl rfl (.bool _) rfl (fun h _ => o_ari rfl (gv h rfl) (gv h rfl) rfl) ?_
    refine TD.qs rfl rfl (fun _ => o_and rfl rfl rfl (fun k => Gd_t k) rfl) ?_
    refine TD.qs rfl rfl (fun _ => o_assign rfl rfl) ?_
    refine TD.nil ⟨rfl, ?_⟩
    refine thn_normal (T.seq (T.region (TL.st rfl rfl rfl (o_move rfl rfl) (TL.st rfl rfl rfl (o_move rfl rfl) (TL.st rfl rfl rfl (o_move rfl rfl) (TL.st rfl rfl rfl (o_nilCheck rfl rfl rfl) (TL.st rfl rfl rfl (o_fieldAddr rfl rfl rfl tyS_3 (by decide) rfl rfl ⟨_, rfl, Nat.le_of_ble_eq_true rfl⟩) ?_)))))))
    refine TL.st rfl rfl rfl (o_loadBx rfl tyS_3 rfl rfl (Nat.le_of_ble_eq_true rfl) rfl) ?_
    refine TL.st rfl rfl rfl (o_nilCheckP rfl rfl rfl h4) ?_
    refine TL.st rfl rfl rfl (o_fieldAddrP (a := w3) rfl rfl rfl tyS_4 (by decide) rfl rfl h4) ?_
    refine TL.sn rfl rfl (o_storeP (a := w3) (a' := ({ w3 with polled_ := true } : T_impl_yheld)) rfl tyS_4 rfl rfl rfl h4 rfl (Nat.le_of_ble_eq_true rfl) rfl rfl) ?_
    obtain ⟨w11, h12, H⟩ := bind_s H
    refine TL.st rfl rfl rfl (o_nilCheckP rfl rfl rfl h12) ?_
    refine TL.st rfl rfl rfl (o_fieldAddrP (a := w11) rfl rfl rfl tyS_3 (by decide) rfl rfl h12) ?_
    refine TL.sn rfl rfl (o_storeP (a := w11) (a' := ({ w11 with last_ := s0.now_ } : T_impl_yheld)) rfl tyS_3 rfl rfl rfl h12 rfl (Nat.le_of_ble_eq_true rfl) rfl rfl) ?_
    refine TL.nil (thn_normal (T.seq (T.conv (Cs.eqS (σ' := [.box (k_impl_yserver 1 3 2 false s0), .arr .raw 1 (s0.held_.map (c_px 2)), .fam (((s2.set (Int.toNat r1) ({ w3 with polled_ := true } : T_impl_yheld)).set (Int.toNat r1) ({ w11 with last_ := s0.now_ } : T_impl_yheld)).map (c_T_impl_yheld 2 false)), mpO (V.int .i64) (V.bool) s0.ended_, .box (c_T_impl_Client false a0), .box (c_T_impl_GrantAsk false a1), .box [.int .i64 0, .str (ByteArray.mk #[]), .str (ByteArray.mk #[]), .str (ByteArray.mk #[]), .nilS, .str (ByteArray.mk #[]), .str (ByteArray.mk #[]), .bool false]]) rfl) ?_)))
    refine T.block (T.seq (T.region (TL.st rfl rfl rfl (o_move rfl rfl) (TL.st rfl rfl rfl (o_assign rfl rfl) (TL.nil (thn_normal ?_))))))
    refine T.cond ((w3.polled_ && decide (s0.now_ < (IntKind.i64.wrap (w9.last_ + 5))))) rfl (fun h => ?_) (fun h => ?_)
    ·replace H := cond_t h H
     refine T.seq (T.region (TL.st rfl rfl rfl (o_build rfl ⟨_, fun _ => rfl, rfl⟩ rfl rfl rfl) ?_))
     refine TL.sn rfl rfl (o_storeBx rfl tyS_84 rfl rfl rfl rfl (Nat.le_of_ble_eq_true rfl) rfl) ?_
     refine TL.nil (thn_normal (T.conv (Cs.nilCell (q := 6) 4 rfl rfl) ?_))
     refine T.ret (inB_ret (thn_ret ?_))
     cases some_i H
     exact ⟨trivial, _, (.cell _ _ _ _ _ _ _ _ _ _ rfl rfl tyS_84 (Nat.le_of_ble_eq_true rfl) rfl .nil), ⟨rfl, _, rfl⟩⟩
    ·replace H := cond_f h H
     refine T.seq (T.region (TL.st rfl rfl rfl (o_move rfl rfl) ?_))
     obtain ⟨w13, h14, H⟩ := bind_s H
     refine TL.st rfl rfl rfl (o_nilCheckP rfl rfl rfl h14) ?_
     refine TL.st rfl rfl rfl (o_fieldAddrP (a := w13) rfl rfl rfl tyS_4 (by decide) rfl rfl h14) ?_
     refine TL.st rfl rfl rfl (o_loadP (a := w13) rfl tyS_4 rfl rfl h14 (Nat.le_of_ble_eq_true rfl) rfl) ?_
     refine TL.st rfl rfl rfl (o_assign rfl rfl) (TL.nil (thn_normal ?_))
     refine T.cond (w13.denied_) rfl (fun h => ?_) (fun h => ?_)
     ·replace H := cond_t h H
      refine T.seq (T.region (TL.st rfl rfl rfl (o_build rfl ⟨_, fun _ => rfl, rfl⟩ rfl rfl rfl) ?_))
      refine TL.sn rfl rfl (o_storeBx rfl tyS_84 rfl rfl rfl rfl (Nat.le_of_ble_eq_true rfl) rfl) ?_
      refine TL.nil (thn_normal (T.conv (Cs.nilCell (q := 6) 4 rfl rfl) ?_))
      refine T.ret (inB_ret (thn_ret ?_))
      cases some_i H
      exact ⟨trivial, _, (.cell _ _ _ _ _ _ _ _ _ _ rfl rfl tyS_84 (Nat.le_of_ble_eq_true rfl) rfl .nil), ⟨rfl, _, rfl⟩⟩
     ·replace H := cond_f h H
      refine T.seq (T.region (TL.st rfl rfl rfl (o_move rfl rfl) (TL.st rfl rfl rfl (o_nilCheckP rfl rfl rfl h14) ?_)))
      refine TL.st rfl rfl rfl (o_fieldAddrP (a := w13) rfl rfl rfl tyS_4 (by decide) rfl rfl h14) ?_
      refine TL.st rfl rfl rfl (o_loadP (a := w13) rfl tyS_4 rfl rfl h14 (Nat.le_of_ble_eq_true rfl) rfl) ?_
      refine TL.st rfl rfl rfl (o_not rfl rfl) ?_
      refine TL.st rfl rfl rfl (o_assign rfl rfl) (TL.nil (thn_normal ?_))
      refine T.cond ((!w13.approved_)) rfl (fun h => ?_) (fun h => ?_)
      ·replace H := cond_t h H
       refine T.seq (T.region (TL.st rfl rfl rfl (o_build rfl ⟨_, fun _ => rfl, rfl⟩ rfl rfl rfl) ?_))
       refine TL.sn rfl rfl (o_storeBx rfl tyS_84 rfl rfl rfl rfl (Nat.le_of_ble_eq_true rfl) rfl) ?_
       refine TL.nil (thn_normal (T.conv (Cs.nilCell (q := 6) 4 rfl rfl) ?_))
       refine T.ret (inB_ret (thn_ret ?_))
       cases some_i H
       exact ⟨trivial, _, (.cell _ _ _ _ _ _ _ _ _ _ rfl rfl tyS_84 (Nat.le_of_ble_eq_true rfl) rfl .nil), ⟨rfl, _, rfl⟩⟩
      ·replace H := cond_f h H
       refine T.skip (inB_normal (thn_normal (T.seq (T.region (TL.st rfl rfl rfl (o_move rfl rfl) (TL.st rfl rfl rfl (o_nilCheckP rfl rfl rfl h14) ?_))))))
       refine TL.st rfl rfl rfl (o_fieldAddrP (a := w13) rfl rfl rfl tyS_4 (by decide) rfl rfl h14) ?_
       refine TL.sn rfl rfl (o_storeP (a := w13) (a' := ({ w13 with used_ := true } : T_impl_yheld)) rfl tyS_4 rfl rfl rfl h14 rfl (Nat.le_of_ble_eq_true rfl) rfl rfl) ?_
       refine TL.nil (thn_normal (T.seq (T.drawn rfl ?_)))
       refine TD.qs rfl rfl (fun _ => o_move rfl rfl) (TD.rs rfl rfl (o_loadBx rfl tyS_50 rfl rfl (Nat.le_of_ble_eq_true rfl) rfl) ?_)
       refine TD.qs rfl rfl (fun _ => o_move rfl rfl) ?_
       obtain ⟨w15, h16, H⟩ := bind_s H
       refine TD.rs rfl rfl (o_nilCheckP rfl rfl rfl h16) ?_
       refine TD.rs rfl rfl (o_fieldAddrP (a := w15) rfl rfl rfl tyS_3 (by decide) rfl rfl h16) ?_
       refine TD.rs rfl rfl (o_loadP (a := w15) rfl tyS_3 rfl rfl h16 (Nat.le_of_ble_eq_true rfl) rfl) ?_
       refine TD.qs rfl rfl (fun _ => o_move rfl rfl) (TD.rs rfl rfl (o_nilCheckP rfl rfl rfl h16) ?_)
       refine TD.rs rfl rfl (o_fieldAddrP (a := w15) rfl rfl rfl tyS_9 (by decide) rfl rfl h16) ?_
       refine TD.rs rfl rfl (o_loadP (a := w15) rfl tyS_9 rfl rfl h16 (Nat.le_of_ble_eq_true rfl) rfl) ?_
       refine TD.qs rfl rfl (fun _ => o_move rfl rfl) (TD.rs rfl rfl (o_nilCheckP rfl rfl rfl h16) ?_)
       refine TD.rs rfl rfl (o_fieldAddrP (a := w15) rfl rfl rfl tyS_30 (by decide) rfl rfl h16) ?_
       refine TD.rs rfl rfl (o_loadP (a := w15) rfl tyS_30 rfl rfl h16 (Nat.le_of_ble_eq_true rfl) rfl) ?_
       obtain ⟨⟨r17, o18, o19⟩, h20, H⟩ := bind_s H
       refine TD.as rfl rfl (o_callM [0, 1, 2, 3] rfl en_82 rfl rfl (impl_yserver_tokens_p false false false h20) rfl (by decide) (.cons _ _ _ _ rfl (.cons _ _ _ _ (ren_at rfl (ren_rawO fun _ => rfl)) (.cons _ _ _ _ (ren_at rfl (ren_famO fun _ => rfl)) (.cons _ _ _ _ (ren_at rfl (ren_mpO fun _ => rfl)) .nil)))) rfl rfl (.cons _ _ _ _ rfl (.cons _ _ _ _ (ren_rawO fun _ => rfl) (.cons _ _ _ _ (ren_famO fun _ => rfl) (.cons _ _ _ _ (ren_mpO fun _ => rfl) .nil)))) rfl) ?_
       refine TD.an rfl rfl (o_storeBx rfl tyS_84 rfl rfl rfl rfl (Nat.le_of_ble_eq_true rfl) rfl) ?_
       refine TD.nil ⟨rfl, ?_⟩
       refine thn_normal (T.conv (Cs.eqS (σ' := [.box (k_impl_yserver 1 3 2 false o18), .arr .raw 1 (o18.held_.map (c_px 2)), .fam (o19.map (c_T_impl_yheld 2 false)), mpO (V.int .i64) (V.bool) o18.ended_, .box (c_T_impl_Client false a0), .box (c_T_impl_GrantAsk false a1), .box (c_T_impl_GrantReply false r17)]) rfl) ?_)
       refine T.ret ?_
       cases some_i H
       exact ⟨trivial, _, (.cell _ _ _ _ _ _ _ _ _ _ rfl rfl tyS_84 (Nat.le_of_ble_eq_true rfl) rfl .nil), ⟨rfl, _, rfl⟩⟩
theorem en_65 (us : Array Value) (w : World) : (callFunc 65 us).run Go.Proofs.Tryz.prog w = .ok (.enter 65 us) w := enters Go.Proofs.Tryz.func65 rfl rfl us w
noncomputable def impl_yserver_live (a0 : Int) (a1 : Int) (s0 : T_impl_yserver) (s2 : List T_impl_yheld) : Option Bool :=
  (idx s2 a0).bind fun w1 => (gdO (!w1.revoked_) (idx s2 a0)).bind fun w3 => (gdO (!w1.revoked_) (idx s2 a0)).bind fun w5 => (gdO (!w1.revoked_) (idx s2 a0)).bind fun w7 => (gdO ((!w1.revoked_) && (!((mget s0.ended_ w7.grant_).getD false))) (idx s2 a0)).bind fun w9 => (gdO ((!w1.revoked_) && (!((mget s0.ended_ w7.grant_).getD false))) (idx s2 a0)).bind fun w11 => (gdO ((!w1.revoked_) && (!((mget s0.ended_ w7.grant_).getD false))) (idx s2 a0)).bind fun w13 => some (((!w1.revoked_) && (!((mget s0.ended_ w7.grant_).getD false))) && decide (a1 ≤ w13.until_))
theorem impl_yserver_live_p (c0 : Bool) {a0 : Int} {a1 : Int} {s0 : T_impl_yserver} {s2 : List T_impl_yheld} {R0 : Bool} (H : impl_yserver_live a0 a1 s0 s2 = some R0) : St Go.Proofs.Tryz.prog 68 [.bx 0 0, .px 2 0 a0 0, .int .i64 a1] [.box (k_impl_yserver 1 3 2 c0 s0), .arr .raw 1 (s0.held_.map (c_px 2)), .fam (s2.map (c_T_impl_yheld 2 false)), mpO (V.int .i64) (V.bool) s0.ended_] (.bool R0) [.box (k_impl_yserver 1 3 2 c0 s0), .arr .raw 1 (s0.held_.map (c_px 2)), .fam (s2.map (c_T_impl_yheld 2 false)), mpO (V.int .i64) (V.bool) s0.ended_] := by
 refine CallT.fin (CallT.of_TN (n := 32) Go.Proofs.Tryz.func68 rfl rfl rfl rfl ?_) rfl rfl ⟨(bels_iff.1 rfl), ⟨(belRaw fun _ => rfl), ⟨(belFam fun _ => rfl), ⟨(belMap fun _ => rfl), trivial⟩⟩⟩⟩
 refine T.seq (T.region (TL.st rfl rfl rfl (o_assign rfl rfl) (TL.nil (thn_normal (T.seq (T.drawn rfl ?_))))))
 refine TD.qs rfl rfl (fun _ => o_move rfl rfl) ?_
 obtain ⟨w1, h2, H⟩ := bind_s H
 refine TD.rs rfl rfl (o_nilCheckP rfl rfl rfl h2) ?_
 refine TD.rs rfl rfl (o_fieldAddrP (a := w1) rfl rfl rfl tyS_4 (by decide) rfl rfl h2) ?_
 refine TD.rs rfl rfl (o_loadP (a := w1) rfl tyS_4 rfl rfl h2 (Nat.le_of_ble_eq_true rfl) rfl) ?_
 refine TD.qs rfl rfl (fun _ => o_not rfl rfl) ?_
 refine TD.qs rfl rfl (fun _ => o_move rfl rfl) (TD.cq rfl rfl rfl (.bool _) rfl (fun h _ => o_move rfl rfl) ?_)
 refine TD.cq rfl rfl rfl (.bool _) rfl (fun h _ => o_nilCheck rfl (gv h rfl) rfl) ?_
 refine TD.cr rfl rfl rfl (.bool _) rfl (fun h => o_fieldAddr rfl rfl rfl tyS_77 (by decide) (gv h rfl) rfl ⟨_, rfl, Nat.le_of_ble_eq_true rfl⟩) ?_
 refine TD.cr rfl rfl rfl (.bool _) rfl (fun h => o_loadBx rfl tyS_77 (gv h rfl) rfl (Nat.le_of_ble_eq_true rfl) rfl) ?_
 refine TD.cq rfl rfl rfl (.bool _) rfl (fun h _ => o_move rfl rfl) ?_
 obtain ⟨w3, h4, H⟩ := bind_s H
 refine TD.cr rfl rfl rfl (.bool _) rfl (fun h => o_nilCheckP rfl (gv h rfl) rfl (gdO_t h4 h)) ?_
 obtain ⟨w5, h6, H⟩ := bind_s H
 refine TD.cr rfl rfl rfl (.bool _) rfl (fun h => o_fieldAddrP (a := w5) rfl rfl rfl tyS_3 (by decide) (gv h rfl) rfl (gdO_t h6 h)) ?_
 obtain ⟨w7, h8, H⟩ := bind_s H
 refine TD.cr rfl rfl rfl (.bool _) rfl (fun h => o_loadP (a := w7) rfl tyS_3 (gv h rfl) rfl (gdO_t h8 h) (Nat.le_of_ble_eq_true rfl) rfl) ?_
 refine TD.cr rfl rfl rfl (.bool _) rfl (fun h => o_lookup (fk := V.int .i64) (fv := V.bool) (xs := s0.ended_) (z := false) rfl rfl (key_int rfl) (gv h rfl) (gv h rfl) rfl rfl (fun S w => ⟨_, rfl, .bool _⟩)) ?_
 refine TD.cq rfl rfl rfl (.bool _) rfl (fun h _ => o_not rfl (gv h rfl)) ?_
 refine TD.qs rfl rfl (fun _ => o_and rfl rfl rfl (fun k => Gd_t k) rfl) ?_
 refine TD.qs rfl rfl (fun _ => o_move rfl rfl) (TD.cq rfl rfl rfl (.bool _) rfl (fun h _ => o_move rfl rfl) ?_)
 refine TD.cq rfl rfl rfl (.bool _) rfl (fun h _ => o_move rfl rfl) ?_
 obtain ⟨w9, h10, H⟩ := bind_s H
 refine TD.cr rfl rfl rfl (.bool _) rfl (fun h => o_nilCheckP rfl (gv h rfl) rfl (gdO_t h10 h)) ?_
 obtain ⟨w11, h12, H⟩ := bind_s H
 refine TD.cr rfl rfl rfl (.bool _) rfl (fun h => o_fieldAddrP (a := w11) rfl rfl rfl tyS_3 (by decide) (gv h rfl) rfl (gdO_t h12 h)) ?_
 obtain ⟨w13, h14, H⟩ := bind_s H
 refine TD.cr rfl rfl rfl (.bool _) rfl (fun h => o_loadP (a := w13) rfl tyS_3 (gv h rfl) rfl (gdO_t h14 h) (Nat.le_of_ble_eq_true rfl) rfl) ?_
 refine TD.cq rfl rfl rfl (.bool _) rfl (fun h _ => o_ari rfl (gv h rfl) (gv h rfl) rfl) ?_
 refine TD.qs rfl rfl (fun _ => o_and rfl rfl rfl (fun k => Gd_t k) rfl) ?_
 refine TD.qs rfl rfl (fun _ => o_assign rfl rfl) ?_
 refine TD.nil ⟨rfl, ?_⟩
 refine thn_normal (T.ret ?_)
 cases some_i H
 exact ⟨trivial, _, (.tmp _ _ _ _ rfl .nil), ⟨rfl, _, rfl⟩⟩
theorem en_68 (us : Array Value) (w : World) : (callFunc 68 us).run Go.Proofs.Tryz.prog w = .ok (.enter 68 us) w := enters Go.Proofs.Tryz.func68 rfl rfl us w
noncomputable def impl_yserver_exchange (a0 : T_impl_Client) (a1 : T_impl_GrantAsk) (s0 : T_impl_yserver) (s2 : List T_impl_yheld) : Option (T_impl_GrantReply × T_impl_yserver × List T_impl_yheld) :=
  (impl_yserver_find (ByteArray.mk #[97, 99, 99, 101, 115, 115]) a1.Code_ s0 s2).bind fun r1 => (slices_Contains a0.Kinds_ 4).bind fun r3 => cond (!r3) (some ((⟨3, (ByteArray.mk #[]), (ByteArray.mk #[]), (ByteArray.mk #[]), ([] : List ByteArray), (ByteArray.mk #[]), (ByteArray.mk #[]), false⟩ : T_impl_GrantReply), s0, s2)) ((cond (!(decide (r1 < 0))) (impl_yserver_live r1 s0.now_ s0 s2) (some (default))).bind fun r5 => cond (decide (r1 < 0) || (!r5)) (some ((⟨13, (ByteArray.mk #[]), (ByteArray.mk #[]), (ByteArray.mk #[]), ([] : List ByteArray), (ByteArray.mk #[]), (ByteArray.mk #[]), false⟩ : T_impl_GrantReply), s0, s2)) ((gdO (!((a1.Scopes_.length : Int) == 0)) (idx s2 r1)).bind fun w7 => (gdO (!((a1.Scopes_.length : Int) == 0)) (idx s2 r1)).bind fun w9 => (gdO (!((a1.Scopes_.length : Int) == 0)) (idx s2 r1)).bind fun w11 => (gdO (!((a1.Scopes_.length : Int) == 0)) (impl_yamong a1.Scopes_ w11.scopes_)).bind fun r13 => cond (((a1.Scopes_.length : Int) == 0) || (!r13)) (some ((⟨4, (ByteArray.mk #[]), (ByteArray.mk #[]), (ByteArray.mk #[]), ([] : List ByteArray), (ByteArray.mk #[]), (ByteArray.mk #[]), false⟩ : T_impl_GrantReply), s0, s2)) ((idx s2 r1).bind fun w15 => (impl_yserver_give (⟨(ByteArray.mk #[97, 99, 99, 101, 115, 115]), (ByteArray.mk #[]), w15.grant_, a0.Id_, w15.user_, a1.Scopes_, a1.Audience_, (ByteArray.mk #[]), (ByteArray.mk #[]), (if (IntKind.i64.wrap (s0.now_ + s0.s_.Short_)) < w15.until_ then (IntKind.i64.wrap (s0.now_ + s0.s_.Short_)) else w15.until_), false, false, false, false, false, 0, (-1)⟩ : T_impl_yheld) s0 s2).bind fun q => (match q with | (r17, o18, o19) => (idx o19 r17).bind fun w21 => (slices_Clone a1.Scopes_).bind fun r23 => (idx o19 r1).bind fun w25 => some ((⟨0, (ByteArray.mk #[]), w21.handle_, (ByteArray.mk #[]), r23, w25.user_, (ByteArray.mk #[]), false⟩ : T_impl_GrantReply), o18, o19)))))
theorem impl_yserver_exchange_p (_u0 : Bool) (_u1 : Bool) (_u2 : Bool) {a0 : T_impl_Client} {a1 : T_impl_GrantAsk} {s0 : T_impl_yserver} {s2 : List T_impl_yheld} {R0 : T_impl_GrantReply} {U0 : T_impl_yserver} {U2 : List T_impl_yheld} (H : impl_yserver_exchange a0 a1 s0 s2 = some (R0, U0, U2)) : St Go.Proofs.Tryz.prog 66 [.bx 0 0, .agg (c_T_impl_Client false a0), .agg (c_T_impl_GrantAsk false a1)] [.box (k_impl_yserver 1 3 2 false s0), .arr .raw 1 (s0.held_.map (c_px 2)), .fam (s2.map (c_T_impl_yheld 2 false)), mpO (V.int .i64) (V.bool) s0.ended_] (.agg (c_T_impl_GrantReply false R0)) [.box (k_impl_yserver 1 3 2 false (⟨U0.s_, U0.now_, U0.held_, default, U0.grants_⟩ : T_impl_yserver)), .arr .raw 1 (U0.held_.map (c_px 2)), .fam (U2.map (c_T_impl_yheld 2 false)), mpO (V.int .i64) (V.bool) U0.ended_] := by
 refine CallT.fin (CallT.of_TN (n := 93) Go.Proofs.Tryz.func66 rfl rfl rfl rfl ?_) rfl rfl ⟨(bels_iff.1 rfl), ⟨(belRaw fun _ => rfl), ⟨(belFam fun _ => rfl), ⟨(belMap fun _ => rfl), trivial⟩⟩⟩⟩
 refine T.seq (T.region (TL.st rfl rfl rfl (o_box rfl rfl rfl) (TL.st rfl rfl rfl (o_box rfl rfl rfl) (TL.st rfl rfl rfl (o_alloc rfl ⟨_, rfl, rfl⟩) (TL.nil (thn_normal (T.seq (T.conv (Cs.eqS (σ' := [.box (k_impl_yserver 1 3 2 false s0), .arr .raw 1 (s0.held_.map (c_px 2)), .fam (s2.map (c_T_impl_yheld 2 false)), mpO (V.int .i64) (V.bool) s0.ended_, .box (c_T_impl_Client false a0), .box (c_T_impl_GrantAsk false a1), .box [.int .i64 0, .str (ByteArray.mk #[]), .str (ByteArray.mk #[]), .str (ByteArray.mk #[]), .nilS, .str (ByteArray.mk #[]), .str (ByteArray.mk #[]), .bool false]]) rfl) ?_))))))))
 refine T.region (TL.st rfl rfl rfl (o_move rfl rfl) (TL.st rfl rfl rfl (o_fieldAddr rfl rfl rfl tyS_9 (by decide) rfl rfl ⟨_, rfl, Nat.le_of_ble_eq_true rfl⟩) ?_))
 refine TL.st rfl rfl rfl (o_loadBx rfl tyS_9 rfl rfl (Nat.le_of_ble_eq_true rfl) rfl) ?_
 obtain ⟨r1, h2, H⟩ := bind_s H
 refine TL.st rfl rfl rfl (o_callM [0, 1, 2, 3] rfl en_67 rfl rfl (impl_yserver_find_p false h2) rfl (by decide) (.cons _ _ _ _ rfl (.cons _ _ _ _ (ren_at rfl (ren_rawO fun _ => rfl)) (.cons _ _ _ _ (ren_at rfl (ren_famO fun _ => rfl)) (.cons _ _ _ _ (ren_at rfl (ren_mpO fun _ => rfl)) .nil)))) rfl rfl (.cons _ _ _ _ rfl (.cons _ _ _ _ (ren_rawO fun _ => rfl) (.cons _ _ _ _ (ren_famO fun _ => rfl) (.cons _ _ _ _ (ren_mpO fun _ => rfl) .nil)))) rfl) ?_
 refine TL.st rfl rfl rfl (o_assign rfl rfl) (TL.nil (thn_normal (T.seq (T.block (T.seq (T.region (TL.st rfl rfl rfl (o_fieldAddr rfl rfl rfl tyS_29 (by decide) rfl rfl ⟨_, rfl, Nat.le_of_ble_eq_true rfl⟩) ?_)))))))
 refine TL.st rfl rfl rfl (o_loadBx rfl tyS_29 rfl rfl (Nat.le_of_ble_eq_true rfl) rfl) ?_
 obtain ⟨r3, h4, H⟩ := bind_s H
 refine TL.st rfl rfl rfl (o_callP rfl en_32 rfl rfl (.cons _ _ _ _ (.cl _ rfl) (.cons _ _ _ _ (.cl _ rfl) .nil)) (slices_Contains_p false h4)) ?_
 refine TL.st rfl rfl rfl (o_not rfl rfl) ?_
 refine TL.st rfl rfl rfl (o_assign rfl rfl) (TL.nil (thn_normal ?_))
 refine T.cond ((!r3)) rfl (fun h => ?_) (fun h => ?_)
 ·replace H := cond_t h H
  refine T.seq (T.region (TL.st rfl rfl rfl (o_build rfl ⟨_, fun _ => rfl, rfl⟩ rfl rfl rfl) ?_))
  refine TL.sn rfl rfl (o_storeBx rfl tyS_84 rfl rfl rfl rfl (Nat.le_of_ble_eq_true rfl) rfl) ?_
  refine TL.nil (thn_normal (T.conv (Cs.nilCell (q := 6) 4 rfl rfl) ?_))
  refine T.ret (inB_ret (thn_ret ?_))
  cases some_i H
  exact ⟨trivial, _, (.cell _ _ _ _ _ _ _ _ _ _ rfl rfl tyS_84 (Nat.le_of_ble_eq_true rfl) rfl .nil), ⟨rfl, _, rfl⟩⟩
 ·replace H := cond_f h H
  refine T.seq (T.region (TL.st rfl rfl rfl (o_move rfl rfl) (TL.st rfl rfl rfl (o_pxEq rfl rfl rfl rfl) ?_)))
  refine TL.st rfl rfl rfl (o_move rfl rfl) (TL.gcq rfl rfl rfl (.bool _) rfl rfl (fun h => o_move rfl rfl) (TL.gcq rfl rfl rfl (.bool _) rfl rfl (fun h => o_move rfl rfl) (TL.gcq rfl rfl rfl (.bool _) rfl rfl (fun h => o_move rfl rfl) (TL.gcq rfl rfl rfl (.bool _) rfl rfl (fun h => o_nilCheck rfl (gv h rfl) rfl) ?_))))
  refine TL.gcq rfl rfl rfl (.bool _) rfl rfl (fun h => o_fieldAddr rfl rfl rfl tyS_3 (by decide) (gv h rfl) rfl ⟨_, rfl, Nat.le_of_ble_eq_true rfl⟩) ?_
  refine TL.gcq rfl rfl rfl (.bool _) rfl rfl (fun h => o_loadBx rfl tyS_3 (gv h rfl) rfl (Nat.le_of_ble_eq_true rfl) rfl) ?_
  obtain ⟨r5, h6, H⟩ := bind_s H
  refine TL.gc rfl rfl rfl (.bool _) rfl rfl (fun h => o_callM [0, 1, 2, 3] rfl en_68 rfl (evl_3 (gv h rfl) (gv h rfl) (gv h rfl)) (impl_yserver_live_p false (cond_t h h6)) rfl (by decide) (.cons _ _ _ _ rfl (.cons _ _ _ _ (ren_at rfl (ren_rawO fun _ => rfl)) (.cons _ _ _ _ (ren_at rfl (ren_famO fun _ => rfl)) (.cons _ _ _ _ (ren_at rfl (ren_mpO fun _ => rfl)) .nil)))) rfl rfl (.cons _ _ _ _ rfl (.cons _ _ _ _ (ren_rawO fun _ => rfl) (.cons _ _ _ _ (ren_famO fun _ => rfl) (.cons _ _ _ _ (ren_mpO fun _ => rfl) .nil)))) rfl) (fun h => by cases cond_f h h6; rfl) ?_
  refine TL.gcq rfl rfl rfl (.bool _) rfl rfl (fun h => o_not rfl (gv h rfl)) ?_
  refine TL.st rfl rfl rfl (o_or rfl rfl rfl rfl (fun k => Gd_t k)) (TL.st rfl rfl rfl (o_assign rfl rfl) (TL.nil (thn_normal ?_)))
  refine T.cond ((decide (r1 < 0) || (!r5))) rfl (fun h => ?_) (fun h => ?_)
  ·replace H := cond_t h H
   refine T.seq (T.region (TL.st rfl rfl rfl (o_build rfl ⟨_, fun _ => rfl, rfl⟩ rfl rfl rfl) ?_))
   refine TL.sn rfl rfl (o_storeBx rfl tyS_84 rfl rfl rfl rfl (Nat.le_of_ble_eq_true rfl) rfl) ?_
   refine TL.nil (thn_normal (T.conv (Cs.eqS (σ' := [.box (k_impl_yserver 1 3 2 false s0), .arr .raw 1 (s0.held_.map (c_px 2)), .fam (s2.map (c_T_impl_yheld 2 false)), mpO (V.int .i64) (V.bool) s0.ended_, .box (c_T_impl_Client false a0), .box (c_T_impl_GrantAsk false a1), .box [.int .i64 13, .str (ByteArray.mk #[]), .str (ByteArray.mk #[]), .str (ByteArray.mk #[]), .nilS, .str (ByteArray.mk #[]), .str (ByteArray.mk #[]), .bool false]]) rfl) ?_))
   refine T.conv (Cs.nilCell (q := 6) 4 rfl rfl) ?_
   refine T.ret (inB_ret (thn_ret ?_))
   cases some_i H
   exact ⟨trivial, _, (.cell _ _ _ _ _ _ _ _ _ _ rfl rfl tyS_84 (Nat.le_of_ble_eq_true rfl) rfl .nil), ⟨rfl, _, rfl⟩⟩
  ·replace H := cond_f h H
   refine T.seq (T.drawn rfl ?_)
   refine TD.rs rfl rfl (o_fieldAddr rfl rfl rfl tyS_30 (by decide) rfl rfl ⟨_, rfl, Nat.le_of_ble_eq_true rfl⟩) ?_
   refine TD.rs rfl rfl (o_loadBx rfl tyS_30 rfl rfl (Nat.le_of_ble_eq_true rfl) rfl) ?_
   refine TD.qs rfl rfl (fun _ => o_lenL (f := c_str) rfl rfl rfl) ?_
   refine TD.qs rfl rfl (fun _ => o_ari rfl rfl rfl rfl) ?_
   refine TD.qs rfl rfl (fun _ => o_move rfl rfl) (TD.cr rfl rfl rfl (.bool _) rfl (fun h => o_fieldAddr rfl rfl rfl tyS_30 (by decide) rfl rfl ⟨_, rfl, Nat.le_of_ble_eq_true rfl⟩) ?_)
   refine TD.cr rfl rfl rfl (.bool _) rfl (fun h => o_loadBx rfl tyS_30 (gv h rfl) rfl (Nat.le_of_ble_eq_true rfl) rfl) ?_
   refine TD.cq rfl rfl rfl (.bool _) rfl (fun h _ => o_move rfl rfl) ?_
   obtain ⟨w7, h8, H⟩ := bind_s H
   refine TD.cr rfl rfl rfl (.bool _) rfl (fun h => o_nilCheckP rfl (gv h rfl) rfl (gdO_t h8 h)) ?_
   obtain ⟨w9, h10, H⟩ := bind_s H
   refine TD.cr rfl rfl rfl (.bool _) rfl (fun h => o_fieldAddrP (a := w9) rfl rfl rfl tyS_30 (by decide) (gv h rfl) rfl (gdO_t h10 h)) ?_
   obtain ⟨w11, h12, H⟩ := bind_s H
   refine TD.cr rfl rfl rfl (.bool _) rfl (fun h => o_loadP (a := w11) rfl tyS_30 (gv h rfl) rfl (gdO_t h12 h) (Nat.le_of_ble_eq_true rfl) rfl) ?_
   obtain ⟨r13, h14, H⟩ := bind_s H
   refine TD.cq rfl rfl rfl (.bool _) rfl (fun h _ => o_callP rfl en_79 rfl (evl_2 (gv h rfl) (gv h rfl)) (.cons _ _ _ _ (.cl _ rfl) (.cons _ _ _ _ (.cl _ rfl) .nil)) (impl_yamong_p false false (gdO_t h14 h))) ?_
   refine TD.cq rfl rfl rfl (.bool _) rfl (fun h _ => o_not rfl (gv h rfl)) ?_
   refine TD.qs rfl rfl (fun _ => o_or rfl rfl rfl rfl (fun k => Gd_t k)) ?_
   refine TD.qs rfl rfl (fun _ => o_assign rfl rfl) ?_
   refine TD.nil ⟨rfl, ?_⟩
   refine thn_normal ?_
   refine T.cond ((((a1.Scopes_.length : Int) == 0) || (!r13))) rfl (fun h => ?_) (fun h => ?_)
   ·replace H := cond_t h H
    refine T.seq (T.region (TL.st rfl rfl rfl (o_build rfl ⟨_, fun _ => rfl, rfl⟩ rfl rfl rfl) ?_))
    refine TL.sn rfl rfl (o_storeBx rfl tyS_84 rfl rfl rfl rfl (Nat.le_of_ble_eq_true rfl) rfl) ?_
    refine TL.nil (thn_normal (T.conv (Cs.eqS (σ' := [.box (k_impl_yserver 1 3 2 false s0), .arr .raw 1 (s0.held_.map (c_px 2)), .fam (s2.map (c_T_impl_yheld 2 false)), mpO (V.int .i64) (V.bool) s0.ended_, .box (c_T_impl_Client false a0), .box (c_T_impl_GrantAsk false a1), .box [.int .i64 4, .str (ByteArray.mk #[]), .str (ByteArray.mk #[]), .str (ByteArray.mk #[]), .nilS, .str (ByteArray.mk #[]), .str (ByteArray.mk #[]), .bool false]]) rfl) ?_))
    refine T.conv (Cs.nilCell (q := 6) 4 rfl rfl) ?_
    refine T.ret (inB_ret (thn_ret ?_))
    cases some_i H
    exact ⟨trivial, _, (.cell _ _ _ _ _ _ _ _ _ _ rfl rfl tyS_84 (Nat.le_of_ble_eq_true rfl) rfl .nil), ⟨rfl, _, rfl⟩⟩
   ·replace H := cond_f h H
    refine T.skip (inB_normal (thn_normal (T.seq (T.drawn rfl ?_))))
    refine TD.qs rfl rfl (fun _ => o_move rfl rfl) (TD.qs rfl rfl (fun _ => o_move rfl rfl) ?_)
    obtain ⟨w15, h16, H⟩ := bind_s H
    refine TD.rs rfl rfl (o_nilCheckP rfl rfl rfl h16) ?_
    refine TD.rs rfl rfl (o_fieldAddrP (a := w15) rfl rfl rfl tyS_3 (by decide) rfl rfl h16) ?_
    refine TD.rs rfl rfl (o_loadP (a := w15) rfl tyS_3 rfl rfl h16 (Nat.le_of_ble_eq_true rfl) rfl) ?_
    refine TD.rs rfl rfl (o_fieldAddr rfl rfl rfl tyS_9 (by decide) rfl rfl ⟨_, rfl, Nat.le_of_ble_eq_true rfl⟩) ?_
    refine TD.rs rfl rfl (o_loadBx rfl tyS_9 rfl rfl (Nat.le_of_ble_eq_true rfl) rfl) ?_
    refine TD.qs rfl rfl (fun _ => o_move rfl rfl) (TD.rs rfl rfl (o_nilCheckP rfl rfl rfl h16) ?_)
    refine TD.rs rfl rfl (o_fieldAddrP (a := w15) rfl rfl rfl tyS_9 (by decide) rfl rfl h16) ?_
    refine TD.rs rfl rfl (o_loadP (a := w15) rfl tyS_9 rfl rfl h16 (Nat.le_of_ble_eq_true rfl) rfl) ?_
    refine TD.rs rfl rfl (o_fieldAddr rfl rfl rfl tyS_30 (by decide) rfl rfl ⟨_, rfl, Nat.le_of_ble_eq_true rfl⟩) ?_
    refine TD.rs rfl rfl (o_loadBx rfl tyS_30 rfl rfl (Nat.le_of_ble_eq_true rfl) rfl) ?_
    refine TD.rs rfl rfl (o_fieldAddr rfl rfl rfl tyS_9 (by decide) rfl rfl ⟨_, rfl, Nat.le_of_ble_eq_true rfl⟩) ?_
    refine TD.rs rfl rfl (o_loadBx rfl tyS_9 rfl rfl (Nat.le_of_ble_eq_true rfl) rfl) ?_
    refine TD.qs rfl rfl (fun _ => o_move rfl rfl) (TD.rs rfl rfl (o_nilCheckP rfl rfl rfl h16) ?_)
    refine TD.rs rfl rfl (o_fieldAddrP (a := w15) rfl rfl rfl tyS_3 (by decide) rfl rfl h16) ?_
    refine TD.rs rfl rfl (o_loadP (a := w15) rfl tyS_3 rfl rfl h16 (Nat.le_of_ble_eq_true rfl) rfl) ?_
    refine TD.qs rfl rfl (fun _ => o_move rfl rfl) (TD.qs rfl rfl (fun _ => o_nilCheck rfl rfl rfl) (TD.rs rfl rfl (o_fieldAddr rfl rfl rfl tyS_3 (by decide) rfl rfl ⟨_, rfl, Nat.le_of_ble_eq_true rfl⟩) ?_))
    refine TD.rs rfl rfl (o_loadBx rfl tyS_3 rfl rfl (Nat.le_of_ble_eq_true rfl) rfl) ?_
    refine TD.qs rfl rfl (fun _ => o_move rfl rfl) (TD.qs rfl rfl (fun _ => o_nilCheck rfl rfl rfl) (TD.rs rfl rfl (o_fieldAddr rfl rfl rfl tyS_25 (by decide) rfl rfl ⟨_, rfl, Nat.le_of_ble_eq_true rfl⟩) ?_))
    refine TD.rs rfl rfl (o_fieldAddr rfl rfl rfl tyS_3 (by decide) rfl rfl ⟨_, rfl, Nat.le_of_ble_eq_true rfl⟩) ?_
    refine TD.rs rfl rfl (o_loadBx rfl tyS_3 rfl rfl (Nat.le_of_ble_eq_true rfl) rfl) ?_
    refine TD.qs rfl rfl (fun _ => o_ari rfl rfl rfl rfl) ?_
    refine TD.qs rfl rfl (fun _ => o_min2 rfl rfl rfl) ?_
    refine TD.rs rfl rfl (Does.wkP (p := 2) rfl (.same _ _ _ (.same _ _ _ (.same _ _ _ (.same _ _ _ (.same _ _ _ (.same _ _ _ (.same _ _ _ (.same _ _ _ (.same _ _ _ (.same _ _ _ (.same _ _ _ (.same _ _ _ (.same _ _ _ (.same _ _ _ (.same _ _ _ (.same _ _ _ (.ptr 0 0 _ _ .nil))))))))))))))))) (o_build rfl ⟨_, fun _ => rfl, rfl⟩ rfl rfl rfl)) ?_
    obtain ⟨⟨r17, o18, o19⟩, h20, H⟩ := bind_s H
    refine TD.as rfl rfl (o_callM [0, 1, 2, 3] rfl en_81 rfl rfl (impl_yserver_give_p false false h20) rfl (by decide) (.cons _ _ _ _ rfl (.cons _ _ _ _ (ren_at rfl (ren_rawO fun _ => rfl)) (.cons _ _ _ _ (ren_at rfl (ren_famO fun _ => rfl)) (.cons _ _ _ _ (ren_at rfl (ren_mpO fun _ => rfl)) .nil)))) rfl rfl (.cons _ _ _ _ rfl (.cons _ _ _ _ (ren_rawO fun _ => rfl) (.cons _ _ _ _ (ren_famO fun _ => rfl) (.cons _ _ _ _ (ren_mpO fun _ => rfl) .nil)))) rfl) ?_
    refine TD.qs rfl rfl (fun _ => o_assign rfl rfl) ?_
    refine TD.nil ⟨rfl, ?_⟩
    refine thn_normal (T.seq (T.conv (Cs.eqS (σ' := [.box (k_impl_yserver 1 3 2 false o18), .arr .raw 1 (o18.held_.map (c_px 2)), .fam (o19.map (c_T_impl_yheld 2 false)), mpO (V.int .i64) (V.bool) o18.ended_, .box (c_T_impl_Client false a0), .box (c_T_impl_GrantAsk false a1), .box [.int .i64 0, .str (ByteArray.mk #[]), .str (ByteArray.mk #[]), .str (ByteArray.mk #[]), .nilS, .str (ByteArray.mk #[]), .str (ByteArray.mk #[]), .bool false]]) rfl) ?_))
    refine T.drawn rfl ?_
    refine TD.qs rfl rfl (fun _ => o_move rfl rfl) ?_
    obtain ⟨w21, h22, H⟩ := bind_s H
    refine TD.rs rfl rfl (o_nilCheckP rfl rfl rfl h22) ?_
    refine TD.rs rfl rfl (o_fieldAddrP (a := w21) rfl rfl rfl tyS_9 (by decide) rfl rfl h22) ?_
    refine TD.rs rfl rfl (o_loadP (a := w21) rfl tyS_9 rfl rfl h22 (Nat.le_of_ble_eq_true rfl) rfl) ?_
    refine TD.rs rfl rfl (o_fieldAddr rfl rfl rfl tyS_30 (by decide) rfl rfl ⟨_, rfl, Nat.le_of_ble_eq_true rfl⟩) ?_
    refine TD.rs rfl rfl (o_loadBx rfl tyS_30 rfl rfl (Nat.le_of_ble_eq_true rfl) rfl) ?_
    obtain ⟨r23, h24, H⟩ := bind_s H
    refine TD.qs rfl rfl (fun _ => o_callP rfl en_69 rfl rfl (.cons _ _ _ _ (.cl _ rfl) .nil) (slices_Clone_p false h24)) ?_
    refine TD.qs rfl rfl (fun _ => o_move rfl rfl) ?_
    obtain ⟨w25, h26, H⟩ := bind_s H
    refine TD.rs rfl rfl (o_nilCheckP rfl rfl rfl h26) ?_
    refine TD.rs rfl rfl (o_fieldAddrP (a := w25) rfl rfl rfl tyS_9 (by decide) rfl rfl h26) ?_
    refine TD.rs rfl rfl (o_loadP (a := w25) rfl tyS_9 rfl rfl h26 (Nat.le_of_ble_eq_true rfl) rfl) ?_
    refine TD.qs rfl rfl (fun _ => o_build rfl ⟨_, fun _ => rfl, rfl⟩ rfl rfl rfl) ?_
    refine TD.an rfl rfl (o_storeBx rfl tyS_84 rfl rfl rfl rfl (Nat.le_of_ble_eq_true rfl) rfl) ?_
    refine TD.nil ⟨rfl, ?_⟩
    refine thn_normal (T.ret ?_)
    cases some_i H
    exact ⟨trivial, _, (.cell _ _ _ _ _ _ _ _ _ _ rfl rfl tyS_84 (Nat.le_of_ble_eq_true rfl) rfl .nil), ⟨rfl, _, rfl⟩⟩
theorem en_66 (us : Array Value) (w : World) : (callFunc 66 us).run Go.Proofs.Tryz.prog w = .ok (.enter 66 us) w := enters Go.Proofs.Tryz.func66 rfl rfl us w
noncomputable def impl_yserver_ask_j2 (b6 : T_impl_yserver) (b7 : T_impl_GrantReply) (f8 : List T_impl_yheld) : Option (T_impl_GrantReply × T_impl_yserver × List T_impl_yheld) :=
  cond (b7.Err_ != 0) (some ((⟨b7.Err_, (ByteArray.mk #[]), (ByteArray.mk #[]), (ByteArray.mk #[]), ([] : List ByteArray), (ByteArray.mk #[]), (ByteArray.mk #[]), false⟩ : T_impl_GrantReply), b6, f8)) (some (b7, b6, f8))
noncomputable def impl_yserver_ask_j3 (a0 : T_impl_GrantAsk) (s0 : T_impl_yserver) (f44 : List T_impl_yheld) : Option (T_impl_GrantReply × T_impl_yserver × List T_impl_yheld) :=
  (impl_yserver_findOf (ByteArray.mk #[114, 101, 102, 114, 101, 115, 104]) a0 ({ s0 with now_ := a0.Time_ } : T_impl_yserver) f44).bind fun r45 => cond (!decide (r45 < 0)) ((idx f44 r45).bind fun w47 => impl_yserver_ask_j2 ({ s0 with now_ := a0.Time_, ended_ := (mput s0.ended_ w47.grant_ true) } : T_impl_yserver) (⟨0, (ByteArray.mk #[]), (ByteArray.mk #[]), (ByteArray.mk #[]), ([] : List ByteArray), (ByteArray.mk #[]), (ByteArray.mk #[]), false⟩ : T_impl_GrantReply) f44) (impl_yserver_ask_j2 ({ s0 with now_ := a0.Time_ } : T_impl_yserver) (⟨0, (ByteArray.mk #[]), (ByteArray.mk #[]), (ByteArray.mk #[]), ([] : List ByteArray), (ByteArray.mk #[]), (ByteArray.mk #[]), false⟩ : T_impl_GrantReply) f44)
noncomputable def impl_yserver_ask_j1 (a0 : T_impl_GrantAsk) (s0 : T_impl_yserver) (s2 : List T_impl_yheld) (r3 : T_impl_Client) : Option (T_impl_GrantReply × T_impl_yserver × List T_impl_yheld) :=
  cond (a0.Kind_ == 1) ((impl_yserver_authorize r3 a0 ({ s0 with now_ := a0.Time_ } : T_impl_yserver) s2).bind fun q => (match q with | (r9, o10, o11) => impl_yserver_ask_j2 o10 r9 o11)) (cond (a0.Kind_ == 2) ((impl_yserver_redeem r3 a0 ({ s0 with now_ := a0.Time_ } : T_impl_yserver) s2).bind fun q => (match q with | (r13, o14, o15) => impl_yserver_ask_j2 o14 r13 o15)) (cond (a0.Kind_ == 3) ((impl_yserver_refresh r3 a0 ({ s0 with now_ := a0.Time_ } : T_impl_yserver) s2).bind fun q => (match q with | (r17, o18, o19) => impl_yserver_ask_j2 o18 r17 o19)) (cond (a0.Kind_ == 4) ((impl_yserver_device r3 a0 ({ s0 with now_ := a0.Time_ } : T_impl_yserver) s2).bind fun q => (match q with | (r21, o22, o23) => impl_yserver_ask_j2 o22 r21 o23)) (cond (a0.Kind_ == 5) ((impl_yserver_approve a0 ({ s0 with now_ := a0.Time_ } : T_impl_yserver) s2).bind fun q => (match q with | (r25, o26) => impl_yserver_ask_j2 ({ s0 with now_ := a0.Time_ } : T_impl_yserver) r25 o26)) (cond (a0.Kind_ == 6) ((impl_yserver_poll r3 a0 ({ s0 with now_ := a0.Time_ } : T_impl_yserver) s2).bind fun q => (match q with | (r28, o29, o30) => impl_yserver_ask_j2 o29 r28 o30)) (cond (a0.Kind_ == 7) ((impl_yserver_exchange r3 a0 ({ s0 with now_ := a0.Time_ } : T_impl_yserver) s2).bind fun q => (match q with | (r32, o33, o34) => impl_yserver_ask_j2 o33 r32 o34)) (cond (a0.Kind_ == 8) ((impl_yserver_find (ByteArray.mk #[97, 99, 99, 101, 115, 115]) a0.Code_ ({ s0 with now_ := a0.Time_ } : T_impl_yserver) s2).bind fun r36 => (cond (!decide (r36 < 0)) (impl_yserver_live r36 a0.Time_ ({ s0 with now_ := a0.Time_ } : T_impl_yserver) s2) (some (default))).bind fun r38 => cond ((!decide (r36 < 0)) && r38) ((idx s2 r36).bind fun w40 => (slices_Clone w40.scopes_).bind fun r42 => impl_yserver_ask_j2 ({ s0 with now_ := a0.Time_ } : T_impl_yserver) (⟨0, (ByteArray.mk #[]), (ByteArray.mk #[]), (ByteArray.mk #[]), r42, w40.user_, w40.client_, true⟩ : T_impl_GrantReply) s2) (impl_yserver_ask_j2 ({ s0 with now_ := a0.Time_ } : T_impl_yserver) (⟨0, (ByteArray.mk #[]), (ByteArray.mk #[]), (ByteArray.mk #[]), ([] : List ByteArray), (ByteArray.mk #[]), (ByteArray.mk #[]), false⟩ : T_impl_GrantReply) s2)) (cond (a0.Kind_ == 9) ((impl_yserver_findOf (ByteArray.mk #[97, 99, 99, 101, 115, 115]) a0 ({ s0 with now_ := a0.Time_ } : T_impl_yserver) s2).bind fun r49 => cond (!decide (r49 < 0)) ((idx s2 r49).bind fun w51 => impl_yserver_ask_j3 a0 s0 (s2.set (Int.toNat r49) ({ w51 with revoked_ := true } : T_impl_yheld))) (impl_yserver_ask_j3 a0 s0 s2)) (impl_yserver_ask_j2 ({ s0 with now_ := a0.Time_ } : T_impl_yserver) (⟨0, (ByteArray.mk #[]), (ByteArray.mk #[]), (ByteArray.mk #[]), ([] : List ByteArray), (ByteArray.mk #[]), (ByteArray.mk #[]), false⟩ : T_impl_GrantReply) s2)))))))))
noncomputable def impl_yserver_ask_j4 (a0 : T_impl_GrantAsk) (s0 : T_impl_yserver) (s2 : List T_impl_yheld) (r3 : T_impl_Client) (v53 : Bool) : Option (T_impl_GrantReply × T_impl_yserver × List T_impl_yheld) :=
  cond v53 ((gdO ((!(((r3.Secret_.length : Int) == 0) && (!(a0.Secret_.toList == (ByteArray.mk #[]).toList)))) && decide ((r3.Secret_.length : Int) > 0)) (impl_Digest (bys a0.Secret_))).bind fun r54 => (gdO ((!(((r3.Secret_.length : Int) == 0) && (!(a0.Secret_.toList == (ByteArray.mk #[]).toList)))) && decide ((r3.Secret_.length : Int) > 0)) (bytes_Equal r54 r3.Secret_)).bind fun r56 => cond ((((r3.Secret_.length : Int) == 0) && (!(a0.Secret_.toList == (ByteArray.mk #[]).toList))) || (decide ((r3.Secret_.length : Int) > 0) && (!r56))) (some ((⟨7, (ByteArray.mk #[]), (ByteArray.mk #[]), (ByteArray.mk #[]), ([] : List ByteArray), (ByteArray.mk #[]), (ByteArray.mk #[]), false⟩ : T_impl_GrantReply), ({ s0 with now_ := a0.Time_ } : T_impl_yserver), s2)) (impl_yserver_ask_j1 a0 s0 s2 r3)) (impl_yserver_ask_j1 a0 s0 s2 r3)
noncomputable def impl_yserver_ask (a0 : T_impl_GrantAsk) (s0 : T_impl_yserver) (s2 : List T_impl_yheld) : Option (T_impl_GrantReply × T_impl_yserver × List T_impl_yheld) :=
  (impl_yserver_badForm a0 s0 s2).bind fun r1 => cond r1 (some ((⟨20, (ByteArray.mk #[]), (ByteArray.mk #[]), (ByteArray.mk #[]), ([] : List ByteArray), (ByteArray.mk #[]), (ByteArray.mk #[]), false⟩ : T_impl_GrantReply), s0, s2)) (cond (decide (a0.Time_ < s0.now_)) (some ((⟨19, (ByteArray.mk #[]), (ByteArray.mk #[]), (ByteArray.mk #[]), ([] : List ByteArray), (ByteArray.mk #[]), (ByteArray.mk #[]), false⟩ : T_impl_GrantReply), s0, s2)) ((impl_Client_x s0.s_.Clients_ a0.Client_).bind fun q => (match q with | (r3, r4) => cond (((!r4) && (a0.Kind_ != 5)) && (a0.Kind_ != 8)) (some ((⟨1, (ByteArray.mk #[]), (ByteArray.mk #[]), (ByteArray.mk #[]), ([] : List ByteArray), (ByteArray.mk #[]), (ByteArray.mk #[]), false⟩ : T_impl_GrantReply), ({ s0 with now_ := a0.Time_ } : T_impl_yserver), s2)) (cond (a0.Kind_ == 2) (impl_yserver_ask_j4 a0 s0 s2 r3 (a0.Kind_ == 2)) (cond (a0.Kind_ == 3) (impl_yserver_ask_j4 a0 s0 s2 r3 (a0.Kind_ == 3)) (cond (a0.Kind_ == 6) (impl_yserver_ask_j4 a0 s0 s2 r3 (a0.Kind_ == 6)) (cond (a0.Kind_ == 7) (impl_yserver_ask_j4 a0 s0 s2 r3 (a0.Kind_ == 7)) (impl_yserver_ask_j4 a0 s0 s2 r3 (a0.Kind_ == 9)))))))))
theorem impl_yserver_ask_p (_u0 : Bool) (_u1 : Bool) {a0 : T_impl_GrantAsk} {s0 : T_impl_yserver} {s2 : List T_impl_yheld} {R0 : T_impl_GrantReply} {U0 : T_impl_yserver} {U2 : List T_impl_yheld} (H : impl_yserver_ask a0 s0 s2 = some (R0, U0, U2)) : St Go.Proofs.Tryz.prog 37 [.bx 0 0, .agg (c_T_impl_GrantAsk false a0)] [.box (k_impl_yserver 1 3 2 false s0), .arr .raw 1 (s0.held_.map (c_px 2)), .fam (s2.map (c_T_impl_yheld 2 false)), mpO (V.int .i64) (V.bool) s0.ended_] (.agg (c_T_impl_GrantReply false R0)) [.box (k_impl_yserver 1 3 2 false (⟨U0.s_, U0.now_, U0.held_, default, U0.grants_⟩ : T_impl_yserver)), .arr .raw 1 (U0.held_.map (c_px 2)), .fam (U2.map (c_T_impl_yheld 2 false)), mpO (V.int .i64) (V.bool) U0.ended_] := by
 refine CallT.fin (CallT.of_TN (n := 190) Go.Proofs.Tryz.func37 rfl rfl rfl rfl ?_) rfl rfl ⟨(bels_iff.1 rfl), ⟨(belRaw fun _ => rfl), ⟨(belFam fun _ => rfl), ⟨(belMap fun _ => rfl), trivial⟩⟩⟩⟩
 refine T.seq (T.region (TL.st rfl rfl rfl (o_box rfl rfl rfl) (TL.st rfl rfl rfl (o_alloc rfl ⟨_, rfl, rfl⟩) (TL.nil (thn_normal (T.seq (T.seq (T.region (TL.st rfl rfl rfl (o_move rfl rfl) (TL.st rfl rfl rfl (o_loadBx rfl tyS_82 rfl rfl (Nat.le_of_ble_eq_true rfl) rfl) ?_))))))))))
 obtain ⟨r1, h2, H⟩ := bind_s H
 refine TL.st rfl rfl rfl (o_callM [0, 1, 2, 3] rfl en_58 rfl rfl (impl_yserver_badForm_p false false h2) rfl (by decide) (.cons _ _ _ _ rfl (.cons _ _ _ _ (ren_at rfl (ren_rawO fun _ => rfl)) (.cons _ _ _ _ (ren_at rfl (ren_famO fun _ => rfl)) (.cons _ _ _ _ (ren_at rfl (ren_mpO fun _ => rfl)) .nil)))) rfl rfl (.cons _ _ _ _ rfl (.cons _ _ _ _ (ren_rawO fun _ => rfl) (.cons _ _ _ _ (ren_famO fun _ => rfl) (.cons _ _ _ _ (ren_mpO fun _ => rfl) .nil)))) rfl) ?_
 refine TL.nil (thn_normal (T.conv (Cs.eqS (σ' := [.box (k_impl_yserver 1 3 2 false s0), .arr .raw 1 (s0.held_.map (c_px 2)), .fam (s2.map (c_T_impl_yheld 2 false)), mpO (V.int .i64) (V.bool) s0.ended_, .box (c_T_impl_GrantAsk false a0), .box [.int .i64 0, .str (ByteArray.mk #[]), .str (ByteArray.mk #[]), .str (ByteArray.mk #[]), .nilS, .str (ByteArray.mk #[]), .str (ByteArray.mk #[]), .bool false]]) rfl) ?_))
 refine T.cond (r1) rfl (fun h => ?_) (fun h => ?_)
 ·replace H := cond_t h H
  refine T.seq (T.region (TL.st rfl rfl rfl (o_build rfl ⟨_, fun _ => rfl, rfl⟩ rfl rfl rfl) ?_))
  refine TL.sn rfl rfl (o_storeBx rfl tyS_84 rfl rfl rfl rfl (Nat.le_of_ble_eq_true rfl) rfl) ?_
  refine TL.nil (thn_normal (T.conv (Cs.nilCell (q := 5) 4 rfl rfl) ?_))
  refine T.ret (thn_ret ?_)
  cases some_i H
  exact ⟨trivial, _, (.cell _ _ _ _ _ _ _ _ _ _ rfl rfl tyS_84 (Nat.le_of_ble_eq_true rfl) rfl .nil), ⟨rfl, _, rfl⟩⟩
 ·replace H := cond_f h H
  refine T.skip (thn_normal (T.seq (T.seq (T.drawn rfl ?_))))
  refine TD.rs rfl rfl (o_fieldAddr rfl rfl rfl tyS_3 (by decide) rfl rfl ⟨_, rfl, Nat.le_of_ble_eq_true rfl⟩) ?_
  refine TD.rs rfl rfl (o_loadBx rfl tyS_3 rfl rfl (Nat.le_of_ble_eq_true rfl) rfl) ?_
  refine TD.qs rfl rfl (fun _ => o_move rfl rfl) (TD.qs rfl rfl (fun _ => o_nilCheck rfl rfl rfl) (TD.rs rfl rfl (o_fieldAddr rfl rfl rfl tyS_3 (by decide) rfl rfl ⟨_, rfl, Nat.le_of_ble_eq_true rfl⟩) ?_))
  refine TD.rs rfl rfl (o_loadBx rfl tyS_3 rfl rfl (Nat.le_of_ble_eq_true rfl) rfl) ?_
  refine TD.qs rfl rfl (fun _ => o_ari rfl rfl rfl rfl) ?_
  refine TD.nil ⟨rfl, ?_⟩
  refine thn_normal ?_
  refine T.cond (decide (a0.Time_ < s0.now_)) rfl (fun h => ?_) (fun h => ?_)
  ·replace H := cond_t h H
   refine T.seq (T.region (TL.st rfl rfl rfl (o_build rfl ⟨_, fun _ => rfl, rfl⟩ rfl rfl rfl) ?_))
   refine TL.sn rfl rfl (o_storeBx rfl tyS_84 rfl rfl rfl rfl (Nat.le_of_ble_eq_true rfl) rfl) ?_
   refine TL.nil (thn_normal (T.conv (Cs.nilCell (q := 5) 4 rfl rfl) ?_))
   refine T.ret (thn_ret ?_)
   cases some_i H
   exact ⟨trivial, _, (.cell _ _ _ _ _ _ _ _ _ _ rfl rfl tyS_84 (Nat.le_of_ble_eq_true rfl) rfl .nil), ⟨rfl, _, rfl⟩⟩
  ·replace H := cond_f h H
   refine T.skip (thn_normal (T.seq (T.region (TL.st rfl rfl rfl (o_move rfl rfl) (TL.st rfl rfl rfl (o_fieldAddr rfl rfl rfl tyS_3 (by decide) rfl rfl ⟨_, rfl, Nat.le_of_ble_eq_true rfl⟩) ?_)))))
   refine TL.st rfl rfl rfl (o_loadBx rfl tyS_3 rfl rfl (Nat.le_of_ble_eq_true rfl) rfl) ?_
   refine TL.st rfl rfl rfl (o_nilCheck rfl rfl rfl) (TL.st rfl rfl rfl (o_fieldAddr rfl rfl rfl tyS_3 (by decide) rfl rfl ⟨_, rfl, Nat.le_of_ble_eq_true rfl⟩) ?_)
   refine TL.sn rfl rfl (o_storeBx rfl tyS_3 rfl rfl rfl rfl (Nat.le_of_ble_eq_true rfl) rfl) ?_
   refine TL.nil (thn_normal (T.seq ?_))
   obtain ⟨⟨r3, r4⟩, h5, H⟩ := bind_s H
   refine T.drawS (fr' := [(0, .bx 0 0), (1, .agg (c_T_impl_GrantAsk false a0)), (3, .bx 4 0), (4, .bx 5 0), (5, .bx 6 0), (6, .bool r4), (11, .bx 0 0), (12, .agg (c_T_impl_GrantAsk false a0)), (13, .bool r1), (15, .bx 4 1), (16, .int .i64 a0.Time_), (17, .bx 0 0), (18, .bx 0 0), (19, .bx 0 4), (20, .int .i64 s0.now_), (21, .bool (decide (a0.Time_ < s0.now_))), (23, .bx 0 0), (24, .bx 4 1), (25, .int .i64 a0.Time_), (26, .bx 0 0), (27, .bx 0 4), (28, .tup [.agg (c_T_impl_Client false r3), .bool r4]), (29, .bx 0 0), (30, .bx 0 0), (31, .bx 0 0), (32, .bx 0 0), (33, .im false (s0.s_.Clients_.map (c_T_impl_Client false))), (34, .bx 4 2), (35, .str a0.Client_), (36, .tup [.agg (c_T_impl_Client false r3), .bool r4]), (37, .agg (c_T_impl_Client false r3)), (38, .bool r4)]) (R := [⟨some 29, .bx 0 0, .q, []⟩, ⟨some 30, .bx 0 0, .q, []⟩, ⟨some 31, .bx 0 0, .q, []⟩, ⟨some 32, .bx 0 0, .q, []⟩, ⟨some 33, .im false (s0.s_.Clients_.map (c_T_impl_Client false)), .q, []⟩, ⟨some 34, .bx 4 2, .q, []⟩, ⟨some 35, .str a0.Client_, .q, []⟩, ⟨some 36, .tup [.agg (c_T_impl_Client false r3), .bool r4], .q, []⟩, ⟨some 28, .tup [.agg (c_T_impl_Client false r3), .bool r4], .q, []⟩, ⟨some 37, .agg (c_T_impl_Client false r3), .q, []⟩, ⟨some 38, .bool r4, .q, []⟩, ⟨some 5, .bx 6 0, .q, []⟩, ⟨none, .any, .q, []⟩, ⟨some 6, .bool r4, .q, []⟩]) (fun b => cond (b 11) (cond (b 12) ([.box (k_impl_yserver 1 3 2 false ({ s0 with now_ := a0.Time_ } : T_impl_yserver)), .arr .raw 1 (s0.held_.map (c_px 2)), .fam (s2.map (c_T_impl_yheld 2 false)), mpO (V.int .i64) (V.bool) s0.ended_, .box (c_T_impl_GrantAsk false a0), .box [.int .i64 0, .str (ByteArray.mk #[]), .str (ByteArray.mk #[]), .str (ByteArray.mk #[]), .nilS, .str (ByteArray.mk #[]), .str (ByteArray.mk #[]), .bool false], .box (c_T_impl_Client false r3)]) ([.box (k_impl_yserver 1 3 2 false ({ s0 with now_ := a0.Time_ } : T_impl_yserver)), .arr .raw 1 (s0.held_.map (c_px 2)), .fam (s2.map (c_T_impl_yheld 2 false)), mpO (V.int .i64) (V.bool) s0.ended_, .box (c_T_impl_GrantAsk false a0), .box [.int .i64 0, .str (ByteArray.mk #[]), .str (ByteArray.mk #[]), .str (ByteArray.mk #[]), .nilS, .str (ByteArray.mk #[]), .str (ByteArray.mk #[]), .bool false], .box [.str (ByteArray.mk #[]), .nilS, .nilS, .nilS, .nilS]])) ([.box (k_impl_yserver 1 3 2 false ({ s0 with now_ := a0.Time_ } : T_impl_yserver)), .arr .raw 1 (s0.held_.map (c_px 2)), .fam (s2.map (c_T_impl_yheld 2 false)), mpO (V.int .i64) (V.bool) s0.ended_, .box (c_T_impl_GrantAsk false a0), .box [.int .i64 0, .str (ByteArray.mk #[]), .str (ByteArray.mk #[]), .str (ByteArray.mk #[]), .nilS, .str (ByteArray.mk #[]), .str (ByteArray.mk #[]), .bool false]])) rfl ?_ ?_ rfl rfl (FrL.get (.cons rfl (.cons rfl (.cons rfl (.cons rfl (.cons rfl (.cons rfl (.cons rfl (.cons rfl (.cons rfl (.cons rfl (.cons rfl (.cons rfl (.cons rfl (.cons rfl (.cons rfl (.cons rfl (.cons rfl (.cons rfl (.cons rfl (.cons rfl (.cons rfl (.cons rfl (.cons rfl (.cons rfl (.cons rfl (.cons rfl (.cons rfl (.cons rfl (.cons rfl (.cons rfl (.cons rfl (.cons rfl .nil))))))))))))))))))))))))))))))))) ?_
   ·refine .cons _ _ _ _ _ ⟨rfl, [(0, .bx 0 0)], AllN.get rfl (.cons rfl .nil), fun b hd hn hk hc => ?_⟩ ?_
    ·cases e11 : b 11
     ·exact ops_at (cdf e11) rfl (o_move rfl rfl) (cdf ((updb_ne rfl).trans e11)) rfl
     ·exact ops_at ((cdt e11).trans (cdf (hn 12 rfl))) rfl (o_move rfl rfl) ((cdt ((updb_ne rfl).trans e11)).trans (cdf ((updb_ne rfl).trans (hn 12 rfl)))) rfl
    refine .cons _ _ _ _ _ ⟨rfl, [(29, .bx 0 0)], AllN.get rfl (.cons rfl .nil), fun b hd hn hk hc => ?_⟩ ?_
    ·cases e11 : b 11
     ·exact ops_at (cdf e11) rfl (o_nilCheck rfl rfl rfl) (cdf ((updb_ne rfl).trans e11)) rfl
     ·exact ops_at ((cdt e11).trans (cdf (hn 12 rfl))) rfl (o_nilCheck rfl rfl rfl) ((cdt ((updb_ne rfl).trans e11)).trans (cdf ((updb_ne rfl).trans (hn 12 rfl)))) rfl
    refine .cons _ _ _ _ _ ⟨rfl, [(30, .bx 0 0)], AllN.get rfl (.cons rfl .nil), fun b hd hn hk hc => ?_⟩ ?_
    ·cases e11 : b 11
     ·exact ops_at (cdf e11) rfl (o_fieldAddr rfl rfl rfl tyS_25 (by decide) rfl rfl ⟨_, rfl, Nat.le_of_ble_eq_true rfl⟩) (cdf ((updb_ne rfl).trans e11)) rfl
     ·exact ops_at ((cdt e11).trans (cdf (hn 12 rfl))) rfl (o_fieldAddr rfl rfl rfl tyS_25 (by decide) rfl rfl ⟨_, rfl, Nat.le_of_ble_eq_true rfl⟩) ((cdt ((updb_ne rfl).trans e11)).trans (cdf ((updb_ne rfl).trans (hn 12 rfl)))) rfl
    refine .cons _ _ _ _ _ ⟨rfl, [(31, .bx 0 0)], AllN.get rfl (.cons rfl .nil), fun b hd hn hk hc => ?_⟩ ?_
    ·cases e11 : b 11
     ·exact ops_at (cdf e11) rfl (o_fieldAddr rfl rfl rfl tyS_23 (by decide) rfl rfl ⟨_, rfl, Nat.le_of_ble_eq_true rfl⟩) (cdf ((updb_ne rfl).trans e11)) rfl
     ·exact ops_at ((cdt e11).trans (cdf (hn 12 rfl))) rfl (o_fieldAddr rfl rfl rfl tyS_23 (by decide) rfl rfl ⟨_, rfl, Nat.le_of_ble_eq_true rfl⟩) ((cdt ((updb_ne rfl).trans e11)).trans (cdf ((updb_ne rfl).trans (hn 12 rfl)))) rfl
    refine .cons _ _ _ _ _ ⟨rfl, [(32, .bx 0 0)], AllN.get rfl (.cons rfl .nil), fun b hd hn hk hc => ?_⟩ ?_
    ·cases e11 : b 11
     ·exact ops_at (cdf e11) rfl (o_loadBx rfl tyS_23 rfl rfl (Nat.le_of_ble_eq_true rfl) rfl) (cdf ((updb_ne rfl).trans e11)) rfl
     ·exact ops_at ((cdt e11).trans (cdf (hn 12 rfl))) rfl (o_loadBx rfl tyS_23 rfl rfl (Nat.le_of_ble_eq_true rfl) rfl) ((cdt ((updb_ne rfl).trans e11)).trans (cdf ((updb_ne rfl).trans (hn 12 rfl)))) rfl
    refine .cons _ _ _ _ _ ⟨rfl, [(3, .bx 4 0)], AllN.get rfl (.cons rfl .nil), fun b hd hn hk hc => ?_⟩ ?_
    ·cases e11 : b 11
     ·exact ops_at (cdf e11) rfl (o_fieldAddr rfl rfl rfl tyS_9 (by decide) rfl rfl ⟨_, rfl, Nat.le_of_ble_eq_true rfl⟩) (cdf ((updb_ne rfl).trans e11)) rfl
     ·exact ops_at ((cdt e11).trans (cdf (hn 12 rfl))) rfl (o_fieldAddr rfl rfl rfl tyS_9 (by decide) rfl rfl ⟨_, rfl, Nat.le_of_ble_eq_true rfl⟩) ((cdt ((updb_ne rfl).trans e11)).trans (cdf ((updb_ne rfl).trans (hn 12 rfl)))) rfl
    refine .cons _ _ _ _ _ ⟨rfl, [(34, .bx 4 2)], AllN.get rfl (.cons rfl .nil), fun b hd hn hk hc => ?_⟩ ?_
    ·cases e11 : b 11
     ·exact ops_at (cdf e11) rfl (o_loadBx rfl tyS_9 rfl rfl (Nat.le_of_ble_eq_true rfl) rfl) (cdf ((updb_ne rfl).trans e11)) rfl
     ·exact ops_at ((cdt e11).trans (cdf (hn 12 rfl))) rfl (o_loadBx rfl tyS_9 rfl rfl (Nat.le_of_ble_eq_true rfl) rfl) ((cdt ((updb_ne rfl).trans e11)).trans (cdf ((updb_ne rfl).trans (hn 12 rfl)))) rfl
    refine .cons _ _ _ _ _ ⟨rfl, [(33, .im false (s0.s_.Clients_.map (c_T_impl_Client false))), (35, .str a0.Client_)], AllN.get rfl (.cons rfl (.cons rfl .nil)), fun b hd hn hk hc => ?_⟩ ?_
    ·cases e11 : b 11
     ·exact ops_at (cdf e11) rfl (o_callP rfl en_35 rfl rfl (.cons _ _ _ _ (.cl _ rfl) (.cons _ _ _ _ (.fn _ _ _ _ _ rfl rfl (fun i c d h => by simp at h) (fun i c d h => by simp at h)) (.cons _ _ _ _ (.cl _ rfl) .nil))) (impl_Client_x_p false h5)) (cdf ((updb_ne rfl).trans e11)) rfl
     ·exact ops_at ((cdt e11).trans (cdf (hn 12 rfl))) rfl (o_callP rfl en_35 rfl rfl (.cons _ _ _ _ (.cl _ rfl) (.cons _ _ _ _ (.fn _ _ _ _ _ rfl rfl (fun i c d h => by simp at h) (fun i c d h => by simp at h)) (.cons _ _ _ _ (.cl _ rfl) .nil))) (impl_Client_x_p false h5)) ((cdt ((updb_ne rfl).trans e11)).trans (cdf ((updb_ne rfl).trans (hn 12 rfl)))) rfl
    refine .cons _ _ _ _ _ ⟨rfl, [(36, .tup [.agg (c_T_impl_Client false r3), .bool r4])], AllN.get rfl (.cons rfl .nil), fun b hd hn hk hc => ?_⟩ ?_
    ·cases e11 : b 11
     ·exact ops_at (cdf e11) rfl (o_move rfl rfl) (cdf ((updb_ne rfl).trans e11)) rfl
     ·exact ops_at ((cdt e11).trans (cdf (hn 12 rfl))) rfl (o_move rfl rfl) ((cdt ((updb_ne rfl).trans e11)).trans (cdf ((updb_ne rfl).trans (hn 12 rfl)))) rfl
    refine .cons _ _ _ _ _ ⟨rfl, [(28, .tup [.agg (c_T_impl_Client false r3), .bool r4])], AllN.get rfl (.cons rfl .nil), fun b hd hn hk hc => ?_⟩ ?_
    ·cases e11 : b 11
     ·exact ops_at (cdf e11) rfl (o_extract rfl rfl rfl) (cdf ((updb_ne rfl).trans e11)) rfl
     ·exact ops_at ((cdt e11).trans (cdf (hn 12 rfl))) rfl (o_extract rfl rfl rfl) ((cdt ((updb_ne rfl).trans e11)).trans (cdf ((updb_ne rfl).trans (hn 12 rfl)))) rfl
    refine .cons _ _ _ _ _ ⟨rfl, [(28, .tup [.agg (c_T_impl_Client false r3), .bool r4])], AllN.get rfl (.cons rfl .nil), fun b hd hn hk hc => ?_⟩ ?_
    ·cases e11 : b 11
     ·cases e12 : b 12
      ·exact ops_at (cdf e11) rfl (o_extract rfl rfl rfl) (cdf ((updb_ne rfl).trans e11)) rfl
      ·exact absurd (hc 12 11 rfl rfl e12) (by rw [e11]; decide)
     ·cases e12 : b 12
      ·exact ops_at ((cdt e11).trans (cdf e12)) rfl (o_extract rfl rfl rfl) ((cdt ((updb_ne rfl).trans e11)).trans (cdf ((updb_ne rfl).trans e12))) rfl
      ·exact ops_at ((cdt e11).trans (cdt e12)) rfl (o_extract rfl rfl rfl) ((cdt ((updb_ne rfl).trans e11)).trans (cdt ((updb_ne rfl).trans e12))) rfl
    refine .cons _ _ _ _ _ ⟨rfl, [], AllN.get rfl .nil, fun b hd hn hk hc => ?_⟩ ?_
    ·exact ops_at (cdf hk) rfl (o_alloc rfl ⟨_, rfl, rfl⟩) (((cdt updb_self).trans (cdf ((updb_ne rfl).trans (hn 12 rfl)))).trans rfl) rfl
    refine .cons _ _ _ _ _ ⟨rfl, [(5, .bx 6 0), (37, .agg (c_T_impl_Client false r3))], AllN.get rfl (.cons rfl (.cons rfl .nil)), fun b hd hn hk hc => ?_⟩ ?_
    ·exact ops_at ((cdt (hd 11 rfl)).trans (cdf hk)) rfl (o_storeBx rfl tyS_50 rfl rfl rfl rfl (Nat.le_of_ble_eq_true rfl) rfl) (((cdt ((updb_ne rfl).trans (hd 11 rfl))).trans (cdt updb_self)).trans rfl) rfl
    refine .cons _ _ _ _ _ ⟨rfl, [(38, .bool r4)], AllN.get rfl (.cons rfl .nil), fun b hd hn hk hc => ?_⟩ ?_
    ·exact ops_at ((cdt (hd 11 rfl)).trans (cdt (hd 12 rfl))) rfl (o_assign rfl rfl) ((cdt ((updb_ne rfl).trans (hd 11 rfl))).trans (cdt ((updb_ne rfl).trans (hd 12 rfl)))) rfl
    exact .nil _
   ·intro b b' h; simp only [h 11 (by decide), h 12 (by decide)]
   refine thn_normal (T.seq (T.seq (T.conv (Cs.eqS (σ' := [.box (k_impl_yserver 1 3 2 false ({ s0 with now_ := a0.Time_ } : T_impl_yserver)), .arr .raw 1 (s0.held_.map (c_px 2)), .fam (s2.map (c_T_impl_yheld 2 false)), mpO (V.int .i64) (V.bool) s0.ended_, .box (c_T_impl_GrantAsk false a0), .box [.int .i64 0, .str (ByteArray.mk #[]), .str (ByteArray.mk #[]), .str (ByteArray.mk #[]), .nilS, .str (ByteArray.mk #[]), .str (ByteArray.mk #[]), .bool false], .box (c_T_impl_Client false r3)]) rfl) ?_)))
   refine T.region (TL.st rfl rfl rfl (o_move rfl rfl) (TL.st rfl rfl rfl (o_not rfl rfl) ?_))
   refine TL.st rfl rfl rfl (o_move rfl rfl) (TL.gcq rfl rfl rfl (.bool _) rfl rfl (fun h => o_fieldAddr rfl rfl rfl tyS_3 (by decide) rfl rfl ⟨_, rfl, Nat.le_of_ble_eq_true rfl⟩) ?_)
   refine TL.gcq rfl rfl rfl (.bool _) rfl rfl (fun h => o_loadBx rfl tyS_3 (gv h rfl) rfl (Nat.le_of_ble_eq_true rfl) rfl) ?_
   refine TL.gcq rfl rfl rfl (.bool _) rfl rfl (fun h => o_ari rfl (gv h rfl) rfl rfl) ?_
   refine TL.st rfl rfl rfl (o_and rfl rfl rfl (fun k => Gd_t k) rfl) (TL.st rfl rfl rfl (o_move rfl rfl) (TL.gcq rfl rfl rfl (.bool _) rfl rfl (fun h => o_fieldAddr rfl rfl rfl tyS_3 (by decide) rfl rfl ⟨_, rfl, Nat.le_of_ble_eq_true rfl⟩) ?_))
   refine TL.gcq rfl rfl rfl (.bool _) rfl rfl (fun h => o_loadBx rfl tyS_3 (gv h rfl) rfl (Nat.le_of_ble_eq_true rfl) rfl) ?_
   refine TL.gcq rfl rfl rfl (.bool _) rfl rfl (fun h => o_ari rfl (gv h rfl) rfl rfl) ?_
   refine TL.st rfl rfl rfl (o_and rfl rfl rfl (fun k => Gd_t k) rfl) (TL.nil (thn_normal ?_))
   refine T.cond ((((!r4) && (a0.Kind_ != 5)) && (a0.Kind_ != 8))) rfl (fun h => ?_) (fun h => ?_)
   ·replace H := cond_t h H
    refine T.seq (T.region (TL.st rfl rfl rfl (o_build rfl ⟨_, fun _ => rfl, rfl⟩ rfl rfl rfl) ?_))
    refine TL.sn rfl rfl (o_storeBx rfl tyS_84 rfl rfl rfl rfl (Nat.le_of_ble_eq_true rfl) rfl) ?_
    refine TL.nil (thn_normal (T.conv (Cs.nilCell (q := 5) 4 rfl rfl) ?_))
    refine T.ret (thn_ret ?_)
    cases some_i H
    exact ⟨trivial, _, (.cell _ _ _ _ _ _ _ _ _ _ rfl rfl tyS_84 (Nat.le_of_ble_eq_true rfl) rfl .nil), ⟨rfl, _, rfl⟩⟩
   ·replace H := cond_f h H
    refine T.skip (thn_normal (T.cut (fun fr' σ' => fr' = [(0, .bx 0 0), (3, .bx 4 0), (4, .bx 5 0), (5, .bx 6 0)] ∧ σ' = [.box (k_impl_yserver 1 3 2 false ({ s0 with now_ := a0.Time_ } : T_impl_yserver)), .arr .raw 1 (s0.held_.map (c_px 2)), .fam (s2.map (c_T_impl_yheld 2 false)), mpO (V.int .i64) (V.bool) s0.ended_, .box (c_T_impl_GrantAsk false a0), .box [.int .i64 0, .str (ByteArray.mk #[]), .str (ByteArray.mk #[]), .str (ByteArray.mk #[]), .nilS, .str (ByteArray.mk #[]), .str (ByteArray.mk #[]), .bool false], .box (c_T_impl_Client false r3)] ∧ impl_yserver_ask_j1 a0 s0 s2 r3 = some (R0, U0, U2)) (T.pk ?_) ?_))
    ·skip
     refine T.seq (T.region (TL.st rfl rfl rfl (o_fieldAddr rfl rfl rfl tyS_3 (by decide) rfl rfl ⟨_, rfl, Nat.le_of_ble_eq_true rfl⟩) ?_))
     refine TL.st rfl rfl rfl (o_loadBx rfl tyS_3 rfl rfl (Nat.le_of_ble_eq_true rfl) rfl) ?_
     refine TL.nil (thn_normal (T.block (T.cut (fun fr' σ' => ∃ (v53 : Bool), fr' = [(0, .bx 0 0), (3, .bx 4 0), (4, .bx 5 0), (5, .bx 6 0), (54, .bool v53)] ∧ σ' = [.box (k_impl_yserver 1 3 2 false ({ s0 with now_ := a0.Time_ } : T_impl_yserver)), .arr .raw 1 (s0.held_.map (c_px 2)), .fam (s2.map (c_T_impl_yheld 2 false)), mpO (V.int .i64) (V.bool) s0.ended_, .box (c_T_impl_GrantAsk false a0), .box [.int .i64 0, .str (ByteArray.mk #[]), .str (ByteArray.mk #[]), .str (ByteArray.mk #[]), .nilS, .str (ByteArray.mk #[]), .str (ByteArray.mk #[]), .bool false], .box (c_T_impl_Client false r3)] ∧ impl_yserver_ask_j4 a0 s0 s2 r3 v53 = some (R0, U0, U2)) (T.pk ?_) ?_)))
     ·skip
      refine T.seq (T.region (TL.st rfl rfl rfl (o_ari rfl rfl rfl rfl) (TL.st rfl rfl rfl (o_assign rfl rfl) (TL.nil (thn_normal ?_)))))
      refine T.cond ((a0.Kind_ == 2)) rfl (fun h => ?_) (fun h => ?_)
      ·replace H := cond_t h H
       refine T.skip ?_
       exact Pk.of (thn_normal ⟨(a0.Kind_ == 2), rfl, rfl, H⟩)
      ·replace H := cond_f h H
       refine T.seq (T.region (TL.st rfl rfl rfl (o_ari rfl rfl rfl rfl) (TL.st rfl rfl rfl (o_assign rfl rfl) (TL.nil (thn_normal ?_)))))
       refine T.cond ((a0.Kind_ == 3)) rfl (fun h => ?_) (fun h => ?_)
       ·replace H := cond_t h H
        refine T.skip ?_
        exact Pk.of (thn_normal ⟨(a0.Kind_ == 3), rfl, rfl, H⟩)
       ·replace H := cond_f h H
        refine T.seq (T.region (TL.st rfl rfl rfl (o_ari rfl rfl rfl rfl) (TL.st rfl rfl rfl (o_assign rfl rfl) (TL.nil (thn_normal ?_)))))
        refine T.cond ((a0.Kind_ == 6)) rfl (fun h => ?_) (fun h => ?_)
        ·replace H := cond_t h H
         refine T.skip ?_
         exact Pk.of (thn_normal ⟨(a0.Kind_ == 6), rfl, rfl, H⟩)
        ·replace H := cond_f h H
         refine T.seq (T.region (TL.st rfl rfl rfl (o_ari rfl rfl rfl rfl) (TL.st rfl rfl rfl (o_assign rfl rfl) (TL.nil (thn_normal ?_)))))
         refine T.cond ((a0.Kind_ == 7)) rfl (fun h => ?_) (fun h => ?_)
         ·replace H := cond_t h H
          refine T.skip ?_
          exact Pk.of (thn_normal ⟨(a0.Kind_ == 7), rfl, rfl, H⟩)
         ·replace H := cond_f h H
          refine T.region (TL.st rfl rfl rfl (o_ari rfl rfl rfl rfl) (TL.st rfl rfl rfl (o_assign rfl rfl) (TL.nil ?_)))
          exact Pk.of (thn_normal ⟨(a0.Kind_ == 9), rfl, rfl, H⟩)
     ·rintro _ _ ⟨v53, rfl, rfl, H⟩
      refine T.cond (v53) rfl (fun h => ?_) (fun h => ?_)
      ·replace H := cond_t h H
       refine T.seq (T.drawn rfl ?_)
       refine TD.rs rfl rfl (o_fieldAddr rfl rfl rfl tyS_22 (by decide) rfl rfl ⟨_, rfl, Nat.le_of_ble_eq_true rfl⟩) ?_
       refine TD.rs rfl rfl (o_loadBx rfl tyS_22 rfl rfl (Nat.le_of_ble_eq_true rfl) rfl) ?_
       refine TD.qs rfl rfl (fun _ => o_lenL (f := c_int .u8) rfl rfl rfl) ?_
       refine TD.qs rfl rfl (fun _ => o_ari rfl rfl rfl rfl) ?_
       refine TD.qs rfl rfl (fun _ => o_move rfl rfl) (TD.cr rfl rfl rfl (.bool _) rfl (fun h => o_fieldAddr rfl rfl rfl tyS_9 (by decide) rfl rfl ⟨_, rfl, Nat.le_of_ble_eq_true rfl⟩) ?_)
       refine TD.cr rfl rfl rfl (.bool _) rfl (fun h => o_loadBx rfl tyS_9 (gv h rfl) rfl (Nat.le_of_ble_eq_true rfl) rfl) ?_
       refine TD.cq rfl rfl rfl (.bool _) rfl (fun h _ => o_str rfl (gv h rfl) rfl rfl) ?_
       refine TD.qs rfl rfl (fun _ => o_and rfl rfl rfl (fun k => Gd_t k) rfl) ?_
       refine TD.qs rfl rfl (fun _ => o_move rfl rfl) (TD.cr rfl rfl rfl (.bool _) rfl (fun h => o_fieldAddr rfl rfl rfl tyS_22 (by decide) rfl rfl ⟨_, rfl, Nat.le_of_ble_eq_true rfl⟩) ?_)
       refine TD.cr rfl rfl rfl (.bool _) rfl (fun h => o_loadBx rfl tyS_22 (gv h rfl) rfl (Nat.le_of_ble_eq_true rfl) rfl) ?_
       refine TD.cq rfl rfl rfl (.bool _) rfl (fun h _ => o_lenL (f := c_int .u8) rfl rfl (gv h rfl)) ?_
       refine TD.cq rfl rfl rfl (.bool _) rfl (fun h _ => o_ari rfl (gv h rfl) rfl rfl) ?_
       refine TD.cq rfl rfl rfl (.bool _) rfl (fun h _ => o_move rfl (gv h rfl)) ?_
       refine TD.cr rfl rfl rfl (.gd _ _) rfl (fun h => o_fieldAddr rfl rfl rfl tyS_9 (by decide) rfl rfl ⟨_, rfl, Nat.le_of_ble_eq_true rfl⟩) ?_
       refine TD.cr rfl rfl rfl (.gd _ _) rfl (fun h => o_loadBx rfl tyS_9 (gv h rfl) rfl (Nat.le_of_ble_eq_true rfl) rfl) ?_
       refine TD.cq rfl rfl rfl (.gd _ _) rfl (fun h _ => o_sb (f := c_int .u8) rfl rfl rfl rfl (fun _ => rfl) (gv h rfl)) ?_
       obtain ⟨r54, h55, H⟩ := bind_s H
       refine TD.cq rfl rfl rfl (.gd _ _) rfl (fun h _ => o_callP rfl en_34 rfl (evl_1 (gv h rfl)) (.cons _ _ _ _ (.cl _ rfl) .nil) (impl_Digest_p false (gdO_t h55 h))) ?_
       refine TD.cr rfl rfl rfl (.gd _ _) rfl (fun h => o_fieldAddr rfl rfl rfl tyS_22 (by decide) rfl rfl ⟨_, rfl, Nat.le_of_ble_eq_true rfl⟩) ?_
       refine TD.cr rfl rfl rfl (.gd _ _) rfl (fun h => o_loadBx rfl tyS_22 (gv h rfl) rfl (Nat.le_of_ble_eq_true rfl) rfl) ?_
       obtain ⟨r56, h57, H⟩ := bind_s H
       refine TD.cq rfl rfl rfl (.gd _ _) rfl (fun h _ => o_callP rfl en_33 rfl (evl_2 (gv h rfl) (gv h rfl)) (.cons _ _ _ _ (.cl _ rfl) (.cons _ _ _ _ (.cl _ rfl) .nil)) (bytes_Equal_p false false (gdO_t h57 h))) ?_
       refine TD.cq rfl rfl rfl (.gd _ _) rfl (fun h _ => o_not rfl (gv h rfl)) ?_
       refine TD.cq rfl rfl rfl (.bool _) rfl (fun h _ => o_and rfl (gv h rfl) rfl (fun k => Gd_t (andi h k)) rfl) ?_
       refine TD.qs rfl rfl (fun _ => o_or rfl rfl rfl rfl (fun k => Gd_t k)) ?_
       refine TD.nil ⟨rfl, ?_⟩
       refine thn_normal ?_
       refine T.cond (((((r3.Secret_.length : Int) == 0) && (!(a0.Secret_.toList == (ByteArray.mk #[]).toList))) || (decide ((r3.Secret_.length : Int) > 0) && (!r56)))) rfl (fun h => ?_) (fun h => ?_)
       ·replace H := cond_t h H
        refine T.seq (T.region (TL.st rfl rfl rfl (o_build rfl ⟨_, fun _ => rfl, rfl⟩ rfl rfl rfl) ?_))
        refine TL.sn rfl rfl (o_storeBx rfl tyS_84 rfl rfl rfl rfl (Nat.le_of_ble_eq_true rfl) rfl) ?_
        refine TL.nil (thn_normal (T.conv (Cs.nilCell (q := 5) 4 rfl rfl) ?_))
        refine T.ret (inB_ret ?_)
        refine Pk.id (thn_ret ?_)
        cases some_i H
        exact ⟨trivial, _, (.cell _ _ _ _ _ _ _ _ _ _ rfl rfl tyS_84 (Nat.le_of_ble_eq_true rfl) rfl .nil), ⟨rfl, _, rfl⟩⟩
       ·replace H := cond_f h H
        refine T.skip (inB_normal ?_)
        exact Pk.of (thn_normal ⟨rfl, rfl, H⟩)
      ·replace H := cond_f h H
       refine T.skip (inB_normal ?_)
       exact Pk.of (thn_normal ⟨rfl, rfl, H⟩)
    ·rintro _ _ ⟨rfl, rfl, H⟩
     refine T.seq (T.region (TL.st rfl rfl rfl (Does.nilc (p := 7) 4 (o_alloc rfl ⟨_, rfl, rfl⟩) rfl rfl) ?_))
     refine TL.nil (thn_normal (T.cut (fun fr' σ' => ∃ (b6 : T_impl_yserver) (b7 : T_impl_GrantReply) (f8 : List T_impl_yheld), fr' = [(4, .bx 5 0), (7, .bx 7 0)] ∧ σ' = [.box (k_impl_yserver 1 3 2 false b6), .arr .raw 1 (b6.held_.map (c_px 2)), .fam (f8.map (c_T_impl_yheld 2 false)), mpO (V.int .i64) (V.bool) b6.ended_, .box (c_T_impl_GrantAsk false a0), .box [.int .i64 0, .str (ByteArray.mk #[]), .str (ByteArray.mk #[]), .str (ByteArray.mk #[]), .nilS, .str (ByteArray.mk #[]), .str (ByteArray.mk #[]), .bool false], .box (c_T_impl_Client false r3), .box (c_T_impl_GrantReply false b7)] ∧ impl_yserver_ask_j2 b6 b7 f8 = some (R0, U0, U2)) (T.pk ?_) ?_))
     ·skip
      refine T.seq (T.region (TL.st rfl rfl rfl (o_fieldAddr rfl rfl rfl tyS_3 (by decide) rfl rfl ⟨_, rfl, Nat.le_of_ble_eq_true rfl⟩) ?_))
      refine TL.st rfl rfl rfl (o_loadBx rfl tyS_3 rfl rfl (Nat.le_of_ble_eq_true rfl) rfl) ?_
      refine TL.nil (thn_normal (T.block (T.seq (T.region (TL.st rfl rfl rfl (o_ari rfl rfl rfl rfl) (TL.st rfl rfl rfl (o_assign rfl rfl) (TL.nil (thn_normal ?_))))))))
      refine T.cond ((a0.Kind_ == 1)) rfl (fun h => ?_) (fun h => ?_)
      ·replace H := cond_t h H
       refine T.region (TL.st rfl rfl rfl (o_move rfl rfl) (TL.st rfl rfl rfl (o_loadBx rfl tyS_50 rfl rfl (Nat.le_of_ble_eq_true rfl) rfl) ?_))
       refine TL.st rfl rfl rfl (o_loadBx rfl tyS_82 rfl rfl (Nat.le_of_ble_eq_true rfl) rfl) ?_
       obtain ⟨⟨r9, o10, o11⟩, h12, H⟩ := bind_s H
       refine TL.st rfl rfl rfl (o_callM [0, 1, 2, 3] rfl en_60 rfl rfl (impl_yserver_authorize_p false false false h12) rfl (by decide) (.cons _ _ _ _ rfl (.cons _ _ _ _ (ren_at rfl (ren_rawO fun _ => rfl)) (.cons _ _ _ _ (ren_at rfl (ren_famO fun _ => rfl)) (.cons _ _ _ _ (ren_at rfl (ren_mpO fun _ => rfl)) .nil)))) rfl rfl (.cons _ _ _ _ rfl (.cons _ _ _ _ (ren_rawO fun _ => rfl) (.cons _ _ _ _ (ren_famO fun _ => rfl) (.cons _ _ _ _ (ren_mpO fun _ => rfl) .nil)))) rfl) ?_
       refine TL.sn rfl rfl (o_storeBx rfl tyS_84 rfl rfl rfl rfl (Nat.le_of_ble_eq_true rfl) rfl) ?_
       refine TL.nil (inB_normal ?_)
       exact Pk.of (thn_normal ⟨o10, r9, o11, rfl, rfl, H⟩)
      ·replace H := cond_f h H
       refine T.seq (T.region (TL.st rfl rfl rfl (o_ari rfl rfl rfl rfl) (TL.st rfl rfl rfl (o_assign rfl rfl) (TL.nil (thn_normal ?_)))))
       refine T.cond ((a0.Kind_ == 2)) rfl (fun h => ?_) (fun h => ?_)
       ·replace H := cond_t h H
        refine T.region (TL.st rfl rfl rfl (o_move rfl rfl) (TL.st rfl rfl rfl (o_loadBx rfl tyS_50 rfl rfl (Nat.le_of_ble_eq_true rfl) rfl) ?_))
        refine TL.st rfl rfl rfl (o_loadBx rfl tyS_82 rfl rfl (Nat.le_of_ble_eq_true rfl) rfl) ?_
        obtain ⟨⟨r13, o14, o15⟩, h16, H⟩ := bind_s H
        refine TL.st rfl rfl rfl (o_callM [0, 1, 2, 3] rfl en_61 rfl rfl (impl_yserver_redeem_p false false false h16) rfl (by decide) (.cons _ _ _ _ rfl (.cons _ _ _ _ (ren_at rfl (ren_rawO fun _ => rfl)) (.cons _ _ _ _ (ren_at rfl (ren_famO fun _ => rfl)) (.cons _ _ _ _ (ren_at rfl (ren_mpO fun _ => rfl)) .nil)))) rfl rfl (.cons _ _ _ _ rfl (.cons _ _ _ _ (ren_rawO fun _ => rfl) (.cons _ _ _ _ (ren_famO fun _ => rfl) (.cons _ _ _ _ (ren_mpO fun _ => rfl) .nil)))) rfl) ?_
        refine TL.sn rfl rfl (o_storeBx rfl tyS_84 rfl rfl rfl rfl (Nat.le_of_ble_eq_true rfl) rfl) ?_
        refine TL.nil (inB_normal ?_)
        exact Pk.of (thn_normal ⟨o14, r13, o15, rfl, rfl, H⟩)
       ·replace H := cond_f h H
        refine T.seq (T.region (TL.st rfl rfl rfl (o_ari rfl rfl rfl rfl) (TL.st rfl rfl rfl (o_assign rfl rfl) (TL.nil (thn_normal ?_)))))
        refine T.cond ((a0.Kind_ == 3)) rfl (fun h => ?_) (fun h => ?_)
        ·replace H := cond_t h H
         refine T.region (TL.st rfl rfl rfl (o_move rfl rfl) (TL.st rfl rfl rfl (o_loadBx rfl tyS_50 rfl rfl (Nat.le_of_ble_eq_true rfl) rfl) ?_))
         refine TL.st rfl rfl rfl (o_loadBx rfl tyS_82 rfl rfl (Nat.le_of_ble_eq_true rfl) rfl) ?_
         obtain ⟨⟨r17, o18, o19⟩, h20, H⟩ := bind_s H
         refine TL.st rfl rfl rfl (o_callM [0, 1, 2, 3] rfl en_62 rfl rfl (impl_yserver_refresh_p false false false h20) rfl (by decide) (.cons _ _ _ _ rfl (.cons _ _ _ _ (ren_at rfl (ren_rawO fun _ => rfl)) (.cons _ _ _ _ (ren_at rfl (ren_famO fun _ => rfl)) (.cons _ _ _ _ (ren_at rfl (ren_mpO fun _ => rfl)) .nil)))) rfl rfl (.cons _ _ _ _ rfl (.cons _ _ _ _ (ren_rawO fun _ => rfl) (.cons _ _ _ _ (ren_famO fun _ => rfl) (.cons _ _ _ _ (ren_mpO fun _ => rfl) .nil)))) rfl) ?_
         refine TL.sn rfl rfl (o_storeBx rfl tyS_84 rfl rfl rfl rfl (Nat.le_of_ble_eq_true rfl) rfl) ?_
         refine TL.nil (inB_normal ?_)
         exact Pk.of (thn_normal ⟨o18, r17, o19, rfl, rfl, H⟩)
        ·replace H := cond_f h H
         refine T.seq (T.region (TL.st rfl rfl rfl (o_ari rfl rfl rfl rfl) (TL.st rfl rfl rfl (o_assign rfl rfl) (TL.nil (thn_normal ?_)))))
         refine T.cond ((a0.Kind_ == 4)) rfl (fun h => ?_) (fun h => ?_)
         ·replace H := cond_t h H
          refine T.region (TL.st rfl rfl rfl (o_move rfl rfl) (TL.st rfl rfl rfl (o_loadBx rfl tyS_50 rfl rfl (Nat.le_of_ble_eq_true rfl) rfl) ?_))
          refine TL.st rfl rfl rfl (o_loadBx rfl tyS_82 rfl rfl (Nat.le_of_ble_eq_true rfl) rfl) ?_
          obtain ⟨⟨r21, o22, o23⟩, h24, H⟩ := bind_s H
          refine TL.st rfl rfl rfl (o_callM [0, 1, 2, 3] rfl en_63 rfl rfl (impl_yserver_device_p false false false h24) rfl (by decide) (.cons _ _ _ _ rfl (.cons _ _ _ _ (ren_at rfl (ren_rawO fun _ => rfl)) (.cons _ _ _ _ (ren_at rfl (ren_famO fun _ => rfl)) (.cons _ _ _ _ (ren_at rfl (ren_mpO fun _ => rfl)) .nil)))) rfl rfl (.cons _ _ _ _ rfl (.cons _ _ _ _ (ren_rawO fun _ => rfl) (.cons _ _ _ _ (ren_famO fun _ => rfl) (.cons _ _ _ _ (ren_mpO fun _ => rfl) .nil)))) rfl) ?_
          refine TL.sn rfl rfl (o_storeBx rfl tyS_84 rfl rfl rfl rfl (Nat.le_of_ble_eq_true rfl) rfl) ?_
          refine TL.nil (inB_normal ?_)
          exact Pk.of (thn_normal ⟨o22, r21, o23, rfl, rfl, H⟩)
         ·replace H := cond_f h H
          refine T.seq (T.region (TL.st rfl rfl rfl (o_ari rfl rfl rfl rfl) (TL.st rfl rfl rfl (o_assign rfl rfl) (TL.nil (thn_normal ?_)))))
          refine T.cond ((a0.Kind_ == 5)) rfl (fun h => ?_) (fun h => ?_)
          ·replace H := cond_t h H
           refine T.region (TL.st rfl rfl rfl (o_move rfl rfl) (TL.st rfl rfl rfl (o_loadBx rfl tyS_82 rfl rfl (Nat.le_of_ble_eq_true rfl) rfl) ?_))
           obtain ⟨⟨r25, o26⟩, h27, H⟩ := bind_s H
           refine TL.st rfl rfl rfl (o_callM [0, 1, 2, 3] rfl en_64 rfl rfl (impl_yserver_approve_p false false h27) rfl (by decide) (.cons _ _ _ _ rfl (.cons _ _ _ _ (ren_at rfl (ren_rawO fun _ => rfl)) (.cons _ _ _ _ (ren_at rfl (ren_famO fun _ => rfl)) (.cons _ _ _ _ (ren_at rfl (ren_mpO fun _ => rfl)) .nil)))) rfl rfl (.cons _ _ _ _ rfl (.cons _ _ _ _ (ren_rawO fun _ => rfl) (.cons _ _ _ _ (ren_famO fun _ => rfl) (.cons _ _ _ _ (ren_mpO fun _ => rfl) .nil)))) rfl) ?_
           refine TL.sn rfl rfl (o_storeBx rfl tyS_84 rfl rfl rfl rfl (Nat.le_of_ble_eq_true rfl) rfl) ?_
           refine TL.nil (inB_normal ?_)
           exact Pk.of (thn_normal ⟨({ s0 with now_ := a0.Time_ } : T_impl_yserver), r25, o26, rfl, rfl, H⟩)
          ·replace H := cond_f h H
           refine T.seq (T.region (TL.st rfl rfl rfl (o_ari rfl rfl rfl rfl) (TL.st rfl rfl rfl (o_assign rfl rfl) (TL.nil (thn_normal ?_)))))
           refine T.cond ((a0.Kind_ == 6)) rfl (fun h => ?_) (fun h => ?_)
           ·replace H := cond_t h H
            refine T.region (TL.st rfl rfl rfl (o_move rfl rfl) (TL.st rfl rfl rfl (o_loadBx rfl tyS_50 rfl rfl (Nat.le_of_ble_eq_true rfl) rfl) ?_))
            refine TL.st rfl rfl rfl (o_loadBx rfl tyS_82 rfl rfl (Nat.le_of_ble_eq_true rfl) rfl) ?_
            obtain ⟨⟨r28, o29, o30⟩, h31, H⟩ := bind_s H
            refine TL.st rfl rfl rfl (o_callM [0, 1, 2, 3] rfl en_65 rfl rfl (impl_yserver_poll_p false false false h31) rfl (by decide) (.cons _ _ _ _ rfl (.cons _ _ _ _ (ren_at rfl (ren_rawO fun _ => rfl)) (.cons _ _ _ _ (ren_at rfl (ren_famO fun _ => rfl)) (.cons _ _ _ _ (ren_at rfl (ren_mpO fun _ => rfl)) .nil)))) rfl rfl (.cons _ _ _ _ rfl (.cons _ _ _ _ (ren_rawO fun _ => rfl) (.cons _ _ _ _ (ren_famO fun _ => rfl) (.cons _ _ _ _ (ren_mpO fun _ => rfl) .nil)))) rfl) ?_
            refine TL.sn rfl rfl (o_storeBx rfl tyS_84 rfl rfl rfl rfl (Nat.le_of_ble_eq_true rfl) rfl) ?_
            refine TL.nil (inB_normal ?_)
            exact Pk.of (thn_normal ⟨o29, r28, o30, rfl, rfl, H⟩)
           ·replace H := cond_f h H
            refine T.seq (T.region (TL.st rfl rfl rfl (o_ari rfl rfl rfl rfl) (TL.st rfl rfl rfl (o_assign rfl rfl) (TL.nil (thn_normal ?_)))))
            refine T.cond ((a0.Kind_ == 7)) rfl (fun h => ?_) (fun h => ?_)
            ·replace H := cond_t h H
             refine T.region (TL.st rfl rfl rfl (o_move rfl rfl) (TL.st rfl rfl rfl (o_loadBx rfl tyS_50 rfl rfl (Nat.le_of_ble_eq_true rfl) rfl) ?_))
             refine TL.st rfl rfl rfl (o_loadBx rfl tyS_82 rfl rfl (Nat.le_of_ble_eq_true rfl) rfl) ?_
             obtain ⟨⟨r32, o33, o34⟩, h35, H⟩ := bind_s H
             refine TL.st rfl rfl rfl (o_callM [0, 1, 2, 3] rfl en_66 rfl rfl (impl_yserver_exchange_p false false false h35) rfl (by decide) (.cons _ _ _ _ rfl (.cons _ _ _ _ (ren_at rfl (ren_rawO fun _ => rfl)) (.cons _ _ _ _ (ren_at rfl (ren_famO fun _ => rfl)) (.cons _ _ _ _ (ren_at rfl (ren_mpO fun _ => rfl)) .nil)))) rfl rfl (.cons _ _ _ _ rfl (.cons _ _ _ _ (ren_rawO fun _ => rfl) (.cons _ _ _ _ (ren_famO fun _ => rfl) (.cons _ _ _ _ (ren_mpO fun _ => rfl) .nil)))) rfl) ?_
             refine TL.sn rfl rfl (o_storeBx rfl tyS_84 rfl rfl rfl rfl (Nat.le_of_ble_eq_true rfl) rfl) ?_
             refine TL.nil (inB_normal ?_)
             exact Pk.of (thn_normal ⟨o33, r32, o34, rfl, rfl, H⟩)
            ·replace H := cond_f h H
             refine T.seq (T.region (TL.st rfl rfl rfl (o_ari rfl rfl rfl rfl) (TL.st rfl rfl rfl (o_assign rfl rfl) (TL.nil (thn_normal ?_)))))
             refine T.cond ((a0.Kind_ == 8)) rfl (fun h => ?_) (fun h => ?_)
             ·replace H := cond_t h H
              refine T.seq (T.region (TL.st rfl rfl rfl (o_move rfl rfl) (TL.st rfl rfl rfl (o_fieldAddr rfl rfl rfl tyS_9 (by decide) rfl rfl ⟨_, rfl, Nat.le_of_ble_eq_true rfl⟩) ?_)))
              refine TL.st rfl rfl rfl (o_loadBx rfl tyS_9 rfl rfl (Nat.le_of_ble_eq_true rfl) rfl) ?_
              obtain ⟨r36, h37, H⟩ := bind_s H
              refine TL.st rfl rfl rfl (o_callM [0, 1, 2, 3] rfl en_67 rfl rfl (impl_yserver_find_p false h37) rfl (by decide) (.cons _ _ _ _ rfl (.cons _ _ _ _ (ren_at rfl (ren_rawO fun _ => rfl)) (.cons _ _ _ _ (ren_at rfl (ren_famO fun _ => rfl)) (.cons _ _ _ _ (ren_at rfl (ren_mpO fun _ => rfl)) .nil)))) rfl rfl (.cons _ _ _ _ rfl (.cons _ _ _ _ (ren_rawO fun _ => rfl) (.cons _ _ _ _ (ren_famO fun _ => rfl) (.cons _ _ _ _ (ren_mpO fun _ => rfl) .nil)))) rfl) ?_
              refine TL.st rfl rfl rfl (o_assign rfl rfl) (TL.nil (thn_normal (T.seq (T.region (TL.st rfl rfl rfl (o_move rfl rfl) (TL.st rfl rfl rfl (o_pxNe rfl rfl rfl rfl) ?_))))))
              refine TL.st rfl rfl rfl (o_move rfl rfl) (TL.gcq rfl rfl rfl (.bool _) rfl rfl (fun h => o_move rfl rfl) (TL.gcq rfl rfl rfl (.bool _) rfl rfl (fun h => o_move rfl rfl) (TL.gcq rfl rfl rfl (.bool _) rfl rfl (fun h => o_move rfl rfl) (TL.gcq rfl rfl rfl (.bool _) rfl rfl (fun h => o_nilCheck rfl (gv h rfl) rfl) ?_))))
              refine TL.gcq rfl rfl rfl (.bool _) rfl rfl (fun h => o_fieldAddr rfl rfl rfl tyS_3 (by decide) (gv h rfl) rfl ⟨_, rfl, Nat.le_of_ble_eq_true rfl⟩) ?_
              refine TL.gcq rfl rfl rfl (.bool _) rfl rfl (fun h => o_loadBx rfl tyS_3 (gv h rfl) rfl (Nat.le_of_ble_eq_true rfl) rfl) ?_
              obtain ⟨r38, h39, H⟩ := bind_s H
              refine TL.gc rfl rfl rfl (.bool _) rfl rfl (fun h => o_callM [0, 1, 2, 3] rfl en_68 rfl (evl_3 (gv h rfl) (gv h rfl) (gv h rfl)) (impl_yserver_live_p false (cond_t h h39)) rfl (by decide) (.cons _ _ _ _ rfl (.cons _ _ _ _ (ren_at rfl (ren_rawO fun _ => rfl)) (.cons _ _ _ _ (ren_at rfl (ren_famO fun _ => rfl)) (.cons _ _ _ _ (ren_at rfl (ren_mpO fun _ => rfl)) .nil)))) rfl rfl (.cons _ _ _ _ rfl (.cons _ _ _ _ (ren_rawO fun _ => rfl) (.cons _ _ _ _ (ren_famO fun _ => rfl) (.cons _ _ _ _ (ren_mpO fun _ => rfl) .nil)))) rfl) (fun h => by cases cond_f h h39; rfl) ?_
              refine TL.st rfl rfl rfl (o_and rfl rfl rfl (fun k => Gd_t k) rfl) (TL.nil (thn_normal (T.conv (Cs.eqS (σ' := [.box (k_impl_yserver 1 3 2 false ({ s0 with now_ := a0.Time_ } : T_impl_yserver)), .arr .raw 1 (s0.held_.map (c_px 2)), .fam (s2.map (c_T_impl_yheld 2 false)), mpO (V.int .i64) (V.bool) s0.ended_, .box (c_T_impl_GrantAsk false a0), .box [.int .i64 0, .str (ByteArray.mk #[]), .str (ByteArray.mk #[]), .str (ByteArray.mk #[]), .nilS, .str (ByteArray.mk #[]), .str (ByteArray.mk #[]), .bool false], .box (c_T_impl_Client false r3), .box [.int .i64 0, .str (ByteArray.mk #[]), .str (ByteArray.mk #[]), .str (ByteArray.mk #[]), .im false (([] : List ByteArray).map (c_str)), .str (ByteArray.mk #[]), .str (ByteArray.mk #[]), .bool false]]) rfl) ?_)))
              refine T.cond (((!decide (r36 < 0)) && r38)) rfl (fun h => ?_) (fun h => ?_)
              ·replace H := cond_t h H
               refine T.drawn rfl ?_
               refine TD.qs rfl rfl (fun _ => o_move rfl rfl) ?_
               obtain ⟨w40, h41, H⟩ := bind_s H
               refine TD.rs rfl rfl (o_nilCheckP rfl rfl rfl h41) ?_
               refine TD.rs rfl rfl (o_fieldAddrP (a := w40) rfl rfl rfl tyS_9 (by decide) rfl rfl h41) ?_
               refine TD.rs rfl rfl (o_loadP (a := w40) rfl tyS_9 rfl rfl h41 (Nat.le_of_ble_eq_true rfl) rfl) ?_
               refine TD.qs rfl rfl (fun _ => o_move rfl rfl) (TD.rs rfl rfl (o_nilCheckP rfl rfl rfl h41) ?_)
               refine TD.rs rfl rfl (o_fieldAddrP (a := w40) rfl rfl rfl tyS_9 (by decide) rfl rfl h41) ?_
               refine TD.rs rfl rfl (o_loadP (a := w40) rfl tyS_9 rfl rfl h41 (Nat.le_of_ble_eq_true rfl) rfl) ?_
               refine TD.qs rfl rfl (fun _ => o_move rfl rfl) (TD.rs rfl rfl (o_nilCheckP rfl rfl rfl h41) ?_)
               refine TD.rs rfl rfl (o_fieldAddrP (a := w40) rfl rfl rfl tyS_30 (by decide) rfl rfl h41) ?_
               refine TD.rs rfl rfl (o_loadP (a := w40) rfl tyS_30 rfl rfl h41 (Nat.le_of_ble_eq_true rfl) rfl) ?_
               obtain ⟨r42, h43, H⟩ := bind_s H
               refine TD.qs rfl rfl (fun _ => o_callP rfl en_69 rfl rfl (.cons _ _ _ _ (.cl _ rfl) .nil) (slices_Clone_p false h43)) ?_
               refine TD.qs rfl rfl (fun _ => o_build rfl ⟨_, fun _ => rfl, rfl⟩ rfl rfl rfl) ?_
               refine TD.an rfl rfl (o_storeBx rfl tyS_84 rfl rfl rfl rfl (Nat.le_of_ble_eq_true rfl) rfl) ?_
               refine TD.nil ⟨rfl, ?_⟩
               refine inB_normal ?_
               exact Pk.of (thn_normal ⟨({ s0 with now_ := a0.Time_ } : T_impl_yserver), (⟨0, (ByteArray.mk #[]), (ByteArray.mk #[]), (ByteArray.mk #[]), r42, w40.user_, w40.client_, true⟩ : T_impl_GrantReply), s2, rfl, rfl, H⟩)
              ·replace H := cond_f h H
               refine T.skip (inB_normal ?_)
               exact Pk.of (thn_normal ⟨({ s0 with now_ := a0.Time_ } : T_impl_yserver), (⟨0, (ByteArray.mk #[]), (ByteArray.mk #[]), (ByteArray.mk #[]), ([] : List ByteArray), (ByteArray.mk #[]), (ByteArray.mk #[]), false⟩ : T_impl_GrantReply), s2, rfl, rfl, H⟩)
             ·replace H := cond_f h H
              refine T.seq (T.region (TL.st rfl rfl rfl (o_ari rfl rfl rfl rfl) (TL.st rfl rfl rfl (o_assign rfl rfl) (TL.nil (thn_normal ?_)))))
              refine T.cond ((a0.Kind_ == 9)) rfl (fun h => ?_) (fun h => ?_)
              ·replace H := cond_t h H
               refine T.cut (fun fr' σ' => ∃ (f44 : List T_impl_yheld), fr' = [(0, .bx 0 0), (3, .bx 4 0), (4, .bx 5 0), (7, .bx 7 0)] ∧ σ' = [.box (k_impl_yserver 1 3 2 false ({ s0 with now_ := a0.Time_ } : T_impl_yserver)), .arr .raw 1 (s0.held_.map (c_px 2)), .fam (f44.map (c_T_impl_yheld 2 false)), mpO (V.int .i64) (V.bool) s0.ended_, .box (c_T_impl_GrantAsk false a0), .box [.int .i64 0, .str (ByteArray.mk #[]), .str (ByteArray.mk #[]), .str (ByteArray.mk #[]), .nilS, .str (ByteArray.mk #[]), .str (ByteArray.mk #[]), .bool false], .box (c_T_impl_Client false r3), .box [.int .i64 0, .str (ByteArray.mk #[]), .str (ByteArray.mk #[]), .str (ByteArray.mk #[]), .im false (([] : List ByteArray).map (c_str)), .str (ByteArray.mk #[]), .str (ByteArray.mk #[]), .bool false]] ∧ impl_yserver_ask_j3 a0 s0 f44 = some (R0, U0, U2)) (T.pk ?_) ?_
               ·skip
                refine T.seq (T.region (TL.st rfl rfl rfl (o_move rfl rfl) (TL.st rfl rfl rfl (o_loadBx rfl tyS_82 rfl rfl (Nat.le_of_ble_eq_true rfl) rfl) ?_)))
                obtain ⟨r49, h50, H⟩ := bind_s H
                refine TL.st rfl rfl rfl (o_callM [0, 1, 2, 3] rfl en_70 rfl rfl (impl_yserver_findOf_p false false h50) rfl (by decide) (.cons _ _ _ _ rfl (.cons _ _ _ _ (ren_at rfl (ren_rawO fun _ => rfl)) (.cons _ _ _ _ (ren_at rfl (ren_famO fun _ => rfl)) (.cons _ _ _ _ (ren_at rfl (ren_mpO fun _ => rfl)) .nil)))) rfl rfl (.cons _ _ _ _ rfl (.cons _ _ _ _ (ren_rawO fun _ => rfl) (.cons _ _ _ _ (ren_famO fun _ => rfl) (.cons _ _ _ _ (ren_mpO fun _ => rfl) .nil)))) rfl) ?_
                refine TL.st rfl rfl rfl (o_assign rfl rfl) (TL.nil (thn_normal (T.seq (T.region (TL.st rfl rfl rfl (o_move rfl rfl) (TL.st rfl rfl rfl (o_pxNe rfl rfl rfl rfl) ?_))))))
                refine TL.nil (thn_normal ?_)
                refine T.cond ((!decide (r49 < 0))) rfl (fun h => ?_) (fun h => ?_)
                ·replace H := cond_t h H
                 refine T.region (TL.st rfl rfl rfl (o_move rfl rfl) ?_)
                 obtain ⟨w51, h52, H⟩ := bind_s H
                 refine TL.st rfl rfl rfl (o_nilCheckP rfl rfl rfl h52) ?_
                 refine TL.st rfl rfl rfl (o_fieldAddrP (a := w51) rfl rfl rfl tyS_4 (by decide) rfl rfl h52) ?_
                 refine TL.sn rfl rfl (o_storeP (a := w51) (a' := ({ w51 with revoked_ := true } : T_impl_yheld)) rfl tyS_4 rfl rfl rfl h52 rfl (Nat.le_of_ble_eq_true rfl) rfl rfl) ?_
                 refine TL.nil ?_
                 exact Pk.of (thn_normal ⟨(s2.set (Int.toNat r49) ({ w51 with revoked_ := true } : T_impl_yheld)), rfl, rfl, H⟩)
                ·replace H := cond_f h H
                 refine T.skip ?_
                 exact Pk.of (thn_normal ⟨s2, rfl, rfl, H⟩)
               ·rintro _ _ ⟨f44, rfl, rfl, H⟩
                refine T.seq (T.region (TL.st rfl rfl rfl (o_move rfl rfl) (TL.st rfl rfl rfl (o_loadBx rfl tyS_82 rfl rfl (Nat.le_of_ble_eq_true rfl) rfl) ?_)))
                obtain ⟨r45, h46, H⟩ := bind_s H
                refine TL.st rfl rfl rfl (o_callM [0, 1, 2, 3] rfl en_70 rfl rfl (impl_yserver_findOf_p false false h46) rfl (by decide) (.cons _ _ _ _ rfl (.cons _ _ _ _ (ren_at rfl (ren_rawO fun _ => rfl)) (.cons _ _ _ _ (ren_at rfl (ren_famO fun _ => rfl)) (.cons _ _ _ _ (ren_at rfl (ren_mpO fun _ => rfl)) .nil)))) rfl rfl (.cons _ _ _ _ rfl (.cons _ _ _ _ (ren_rawO fun _ => rfl) (.cons _ _ _ _ (ren_famO fun _ => rfl) (.cons _ _ _ _ (ren_mpO fun _ => rfl) .nil)))) rfl) ?_
                refine TL.st rfl rfl rfl (o_assign rfl rfl) (TL.nil (thn_normal (T.seq (T.region (TL.st rfl rfl rfl (o_move rfl rfl) (TL.st rfl rfl rfl (o_pxNe rfl rfl rfl rfl) ?_))))))
                refine TL.nil (thn_normal ?_)
                refine T.cond ((!decide (r45 < 0))) rfl (fun h => ?_) (fun h => ?_)
                ·replace H := cond_t h H
                 refine T.drawn rfl ?_
                 refine TD.qs rfl rfl (fun _ => o_move rfl rfl) (TD.qs rfl rfl (fun _ => o_nilCheck rfl rfl rfl) (TD.rs rfl rfl (o_fieldAddr rfl rfl rfl tyS_77 (by decide) rfl rfl ⟨_, rfl, Nat.le_of_ble_eq_true rfl⟩) ?_))
                 refine TD.rs rfl rfl (o_loadBx rfl tyS_77 rfl rfl (Nat.le_of_ble_eq_true rfl) rfl) ?_
                 refine TD.qs rfl rfl (fun _ => o_move rfl rfl) ?_
                 obtain ⟨w47, h48, H⟩ := bind_s H
                 refine TD.rs rfl rfl (o_nilCheckP rfl rfl rfl h48) ?_
                 refine TD.rs rfl rfl (o_fieldAddrP (a := w47) rfl rfl rfl tyS_3 (by decide) rfl rfl h48) ?_
                 refine TD.rs rfl rfl (o_loadP (a := w47) rfl tyS_3 rfl rfl h48 (Nat.le_of_ble_eq_true rfl) rfl) ?_
                 refine TD.an rfl rfl (o_mapUpdate (p := 3) (fk := V.int .i64) (fv := V.bool) (xs := s0.ended_) rfl rfl (key_int rfl) rfl rfl rfl rfl rfl) ?_
                 refine TD.nil ⟨rfl, ?_⟩
                 refine inB_normal ?_
                 exact Pk.of (thn_normal ⟨({ s0 with now_ := a0.Time_, ended_ := (mput s0.ended_ w47.grant_ true) } : T_impl_yserver), (⟨0, (ByteArray.mk #[]), (ByteArray.mk #[]), (ByteArray.mk #[]), ([] : List ByteArray), (ByteArray.mk #[]), (ByteArray.mk #[]), false⟩ : T_impl_GrantReply), f44, rfl, rfl, H⟩)
                ·replace H := cond_f h H
                 refine T.skip (inB_normal ?_)
                 exact Pk.of (thn_normal ⟨({ s0 with now_ := a0.Time_ } : T_impl_yserver), (⟨0, (ByteArray.mk #[]), (ByteArray.mk #[]), (ByteArray.mk #[]), ([] : List ByteArray), (ByteArray.mk #[]), (ByteArray.mk #[]), false⟩ : T_impl_GrantReply), f44, rfl, rfl, H⟩)
              ·replace H := cond_f h H
               refine T.skip (inB_normal ?_)
               exact Pk.of (thn_normal ⟨({ s0 with now_ := a0.Time_ } : T_impl_yserver), (⟨0, (ByteArray.mk #[]), (ByteArray.mk #[]), (ByteArray.mk #[]), ([] : List ByteArray), (ByteArray.mk #[]), (ByteArray.mk #[]), false⟩ : T_impl_GrantReply), s2, rfl, rfl, H⟩)
     ·rintro _ _ ⟨b6, b7, f8, rfl, rfl, H⟩
      refine T.seq (T.seq (T.region (TL.st rfl rfl rfl (o_fieldAddr rfl rfl rfl tyS_3 (by decide) rfl rfl ⟨_, rfl, Nat.le_of_ble_eq_true rfl⟩) ?_)))
      refine TL.st rfl rfl rfl (o_loadBx rfl tyS_3 rfl rfl (Nat.le_of_ble_eq_true rfl) rfl) ?_
      refine TL.st rfl rfl rfl (o_ari rfl rfl rfl rfl) (TL.nil (thn_normal ?_))
      refine T.cond ((b7.Err_ != 0)) rfl (fun h => ?_) (fun h => ?_)
      ·replace H := cond_t h H
       refine T.seq (T.region (TL.st rfl rfl rfl (o_fieldAddr rfl rfl rfl tyS_3 (by decide) rfl rfl ⟨_, rfl, Nat.le_of_ble_eq_true rfl⟩) ?_))
       refine TL.st rfl rfl rfl (o_loadBx rfl tyS_3 rfl rfl (Nat.le_of_ble_eq_true rfl) rfl) ?_
       refine TL.st rfl rfl rfl (o_build rfl ⟨_, fun _ => rfl, rfl⟩ rfl rfl rfl) ?_
       refine TL.sn rfl rfl (o_storeBx rfl tyS_84 rfl rfl rfl rfl (Nat.le_of_ble_eq_true rfl) rfl) ?_
       refine TL.nil (thn_normal (T.conv (Cs.nilCell (q := 5) 4 rfl rfl) ?_))
       refine T.ret (thn_ret ?_)
       cases some_i H
       exact ⟨trivial, _, (.cell _ _ _ _ _ _ _ _ _ _ rfl rfl tyS_84 (Nat.le_of_ble_eq_true rfl) rfl .nil), ⟨rfl, _, rfl⟩⟩
      ·replace H := cond_f h H
       refine T.skip (thn_normal (T.seq (T.region (TL.st rfl rfl rfl (o_loadBx rfl tyS_84 rfl rfl (Nat.le_of_ble_eq_true rfl) rfl) ?_))))
       refine TL.sn rfl rfl (o_storeBx rfl tyS_84 rfl rfl rfl rfl (Nat.le_of_ble_eq_true rfl) rfl) ?_
       refine TL.nil (thn_normal (T.ret ?_))
       cases some_i H
       exact ⟨trivial, _, (.cell _ _ _ _ _ _ _ _ _ _ rfl rfl tyS_84 (Nat.le_of_ble_eq_true rfl) rfl .nil), ⟨rfl, _, rfl⟩⟩
theorem en_37 (us : Array Value) (w : World) : (callFunc 37 us).run Go.Proofs.Tryz.prog w = .ok (.enter 37 us) w := enters Go.Proofs.Tryz.func37 rfl rfl us w
theorem tyE_84 : TyE Go.Proofs.Tryz.prog 84 8 := ⟨_, _, rfl, rfl, rfl, rfl, by decide, by decide⟩
noncomputable def impl_yrunServer_l1 (a1 : (List T_impl_GrantAsk)) : (T_impl_yserver × List T_impl_yheld × List T_impl_GrantReply × Int) → Option ((T_impl_yserver × List T_impl_yheld × List T_impl_GrantReply × Int) ⊕ (T_impl_yserver × List T_impl_yheld × List T_impl_GrantReply)) := fun s => match s with
  | (b3, f4, l5, v6) => cond (decide (v6 < (a1.length : Int))) ((idx a1 v6).bind fun e11 => (impl_yserver_ask e11 b3 f4).bind fun q => (match q with | (r13, o14, o15) => (app l5 ([r13] : List T_impl_GrantReply)).bind fun l17 => some (.inl (o14, o15, l17, (IntKind.i64.wrap (v6 + 1)))))) (some (.inr (b3, f4, l5)))
noncomputable def impl_yrunServer (a0 : T_impl_Server) (a1 : (List T_impl_GrantAsk)) : Option ((T_impl_yserver × (List T_impl_GrantReply) × Bool × (List T_impl_yheld)) ⊕ ((List T_impl_GrantReply) × Bool)) :=
  (impl_GoodServer a0).bind fun r1 => cond ((!r1) || decide ((a1.length : Int) > 100)) (some (.inr ([], false))) ((loopO (impl_yrunServer_l1 a1) ((⟨a0, 0, ([] : List Int), ([] : List (Int × Bool)), 0⟩ : T_impl_yserver), ([] : List T_impl_yheld), ([] : List T_impl_GrantReply), 0)).bind fun q19 => (match q19 with | (b7, f8, l9) => some (.inl (b7, l9, true, f8))))
theorem impl_yrunServer_p (_u0 : Bool) (_u1 : Bool) {a0 : T_impl_Server} {a1 : (List T_impl_GrantAsk)} {R : ((T_impl_yserver × (List T_impl_GrantReply) × Bool × (List T_impl_yheld)) ⊕ ((List T_impl_GrantReply) × Bool))} (H : impl_yrunServer a0 a1 = some R) : CallT Go.Proofs.Tryz.prog 21 [.agg (c_T_impl_Server false a0), .im false (a1.map (c_T_impl_GrantAsk false))] [] (match R with | .inl (x0', x1', x2', x3') => fun v τ' => ∃ ρ, Part ρ τ' [.box (k_impl_yserver 1 2 3 false (⟨x0'.s_, x0'.now_, x0'.held_, default, x0'.grants_⟩ : T_impl_yserver)), .arr .raw 1 (x0'.held_.map (c_px 3)), mpO (V.int .i64) (V.bool) x0'.ended_, .fam (x3'.map (c_T_impl_yheld 3 false))] ∧ v = ren (rho ρ τ'.length) (.tup [.bx 0 0, .im false (x1'.map (c_T_impl_GrantReply false)), .bool x2']) | .inr (x0', x1') => fun v τ' => ∃ ρ, Part ρ τ' [] ∧ v = ren (rho ρ τ'.length) (.tup [.nilP, .im false (x0'.map (c_T_impl_GrantReply false)), .bool x1'])) := by
 refine CallT.of_TN (n := 38) Go.Proofs.Tryz.func21 rfl rfl rfl rfl ?_
 refine T.conv Cs.fam ?_
 refine T.conv (Cs.wkF (M := 1) (.k 0 rfl rfl (.k 1 rfl rfl .nil))) ?_
 refine T.conv (Cs.eqS (σ' := [.fam (([] : List T_impl_yheld).map (c_T_impl_yheld 0 false))]) rfl) ?_
 refine T.seq (T.region (TL.st rfl rfl rfl (o_box rfl rfl rfl) (TL.st rfl rfl rfl (o_assign rfl rfl) (TL.st rfl rfl rfl (o_assign rfl rfl) (TL.st rfl rfl rfl (o_assign rfl rfl) (TL.nil (thn_normal (T.seq (T.seq (T.region (TL.st rfl rfl rfl (o_loadBx rfl tyS_25 rfl rfl (Nat.le_of_ble_eq_true rfl) rfl) ?_)))))))))))
 obtain ⟨r1, h2, H⟩ := bind_s H
 refine TL.st rfl rfl rfl (o_callP rfl en_31 rfl rfl (.cons _ _ _ _ (.cl _ rfl) .nil) (impl_GoodServer_p false h2)) ?_
 refine TL.st rfl rfl rfl (o_not rfl rfl) ?_
 refine TL.st rfl rfl rfl (o_move rfl rfl) (TL.gcq rfl rfl rfl (.bool _) rfl rfl (fun h => o_move rfl rfl) (TL.gcq rfl rfl rfl (.bool _) rfl rfl (fun h => o_lenL (f := c_T_impl_GrantAsk false) rfl rfl (gv h rfl)) ?_))
 refine TL.gcq rfl rfl rfl (.bool _) rfl rfl (fun h => o_ari rfl (gv h rfl) rfl rfl) ?_
 refine TL.st rfl rfl rfl (o_or rfl rfl rfl rfl (fun k => Gd_t k)) (TL.nil (thn_normal ?_))
 refine T.cond (((!r1) || decide ((a1.length : Int) > 100))) rfl (fun h => ?_) (fun h => ?_)
 ·replace H := cond_t h H
  refine T.seq (T.region (TL.st rfl rfl rfl (o_assign rfl rfl) (TL.st rfl rfl rfl (o_assign rfl rfl) (TL.st rfl rfl rfl (o_assign rfl rfl) (TL.nil (thn_normal (T.conv (Cs.wk (t := 5) rfl .nil) ?_)))))))
  refine T.ret (thn_ret ?_)
  cases some_i H
  exact ⟨trivial, _, (.tmp _ _ _ _ rfl (.tmp _ _ _ _ rfl (.tmp _ _ _ _ rfl .nil))), ⟨[], Part.of (by decide) .nil, rfl⟩⟩
 ·replace H := cond_f h H
  refine T.skip (thn_normal (T.seq (T.region (TL.st rfl rfl rfl (o_loadBx rfl tyS_25 rfl rfl (Nat.le_of_ble_eq_true rfl) rfl) ?_))))
  refine TL.st rfl rfl rfl (o_makeMap rfl) ?_
  refine TL.st rfl rfl rfl (o_build rfl ⟨_, fun _ => rfl, rfl⟩ rfl rfl rfl) ?_
  refine TL.st rfl rfl rfl (o_box rfl rfl rfl) (TL.st rfl rfl rfl (o_assign rfl rfl) (TL.nil (thn_normal (T.seq (T.conv (Cs.eqS (σ' := [.fam (([] : List T_impl_yheld).map (c_T_impl_yheld 0 false)), .box (c_T_impl_Server false a0), mpO (V.int .i64) (V.bool) ([] : List (Int × Bool)), .box ((c_T_impl_Server false a0) ++ [.int .i64 0, .nilS, .mp 2, .int .i64 0])]) rfl) ?_)))))
  refine T.region (TL.st rfl rfl rfl (o_assign rfl rfl) (TL.nil (thn_normal (T.seq (T.seq (T.region (TL.st rfl rfl rfl (o_move rfl rfl) (TL.st rfl rfl rfl (o_lenL (f := c_T_impl_GrantAsk false) rfl rfl rfl) ?_))))))))
  refine TL.st rfl rfl rfl (o_move rfl rfl) (TL.nil (thn_normal (T.block (T.conv (Cs.ownCellR (p := 3) 5 1 rfl rfl (by decide)) ?_))))
  refine T.conv (Cs.own (t := 8) 8 rfl (by decide)) ?_
  obtain ⟨q19, h20, H⟩ := bind_s H
  refine T.lq (fun s => match s with | (b3, f4, l5, v6) => [(7, .bx 3 0), (8, .hd 5 (l5.map (c_T_impl_GrantReply false)).length 0 (l5.map (c_T_impl_GrantReply false)).length), (23, .im false (a1.map (c_T_impl_GrantAsk false))), (24, .int .i64 (a1.length : Int)), (25, .int .i64 v6)]) (fun s => match s with | (b3, f4, l5, v6) => [.fam (f4.map (c_T_impl_yheld 0 false)), .box (c_T_impl_Server false a0), mpO (V.int .i64) (V.bool) b3.ended_, .box (k_impl_yserver 4 2 0 false b3), .arr .raw 1 (b3.held_.map (c_px 0)), .arr .clo 8 (l5.map (c_T_impl_GrantReply false))]) (fun q ex fr σ => match q with | (b7, f8, l9) => ex = .exit 0 ∧ fr = [(7, .bx 3 0), (8, .hd 5 (l9.map (c_T_impl_GrantReply false)).length 0 (l9.map (c_T_impl_GrantReply false)).length)] ∧ σ = [.fam (f8.map (c_T_impl_yheld 0 false)), .box (c_T_impl_Server false a0), mpO (V.int .i64) (V.bool) b7.ended_, .box (k_impl_yserver 4 2 0 false b7), .arr .raw 1 (b7.held_.map (c_px 0)), .arr .clo 8 (l9.map (c_T_impl_GrantReply false))]) h20 ?_ ?_
  ·rintro ⟨b3, f4, l5, v6⟩ y10 H
   refine T.seq (T.region (TL.st rfl rfl rfl (o_ari rfl rfl rfl rfl) (TL.nil (thn_normal (T.seq ?_)))))
   refine T.cond (decide (v6 < (a1.length : Int))) rfl (fun h => ?_) (fun h => ?_)
   ·replace H := cond_t h H
    refine T.skip (thn_normal (T.seq (T.block (T.seq (T.region ?_)))))
    obtain ⟨e11, h12, H⟩ := bind_s H
    refine TL.st rfl rfl rfl (o_ix (f := c_T_impl_GrantAsk false) rfl rfl tyS_82 rfl rfl h12 rfl) ?_
    refine TL.st rfl rfl rfl (o_loadRf rfl tyS_82 rfl (Nat.le_of_ble_eq_true rfl) rfl) ?_
    refine TL.st rfl rfl rfl (o_alloc rfl ⟨_, rfl, rfl⟩) (TL.sn rfl rfl (o_storeBx rfl tyS_82 rfl rfl rfl rfl (Nat.le_of_ble_eq_true rfl) rfl) ?_)
    refine TL.nil (thn_normal (T.region (TL.st rfl rfl rfl (o_move rfl rfl) (TL.st rfl rfl rfl (o_move rfl rfl) (TL.st rfl rfl rfl (o_loadBx rfl tyS_82 rfl rfl (Nat.le_of_ble_eq_true rfl) rfl) ?_)))))
    obtain ⟨⟨r13, o14, o15⟩, h16, H⟩ := bind_s H
    refine TL.st rfl rfl rfl (o_callM [3, 4, 0, 2] rfl en_37 rfl rfl (impl_yserver_ask_p false false h16) rfl (by decide) (.cons _ _ _ _ rfl (.cons _ _ _ _ (ren_at rfl (ren_rawO fun _ => rfl)) (.cons _ _ _ _ (ren_at rfl (ren_famO fun _ => rfl)) (.cons _ _ _ _ (ren_at rfl (ren_mpO fun _ => rfl)) .nil)))) rfl rfl (.cons _ _ _ _ rfl (.cons _ _ _ _ (ren_rawO fun _ => rfl) (.cons _ _ _ _ (ren_famO fun _ => rfl) (.cons _ _ _ _ (ren_mpO fun _ => rfl) .nil)))) rfl) ?_
    refine TL.st rfl rfl rfl (o_sliceIm (rows := ([r13] : List T_impl_GrantReply).map (c_T_impl_GrantReply false)) rfl rfl tyS_84 ⟨_, rfl, rfl⟩ (by decide) rfl rfl rfl rfl rfl rfl) ?_
    obtain ⟨l17, h18, H⟩ := bind_s H
    refine TL.st rfl rfl rfl (o_ap (f := c_T_impl_GrantReply false) (xs := l5) (ys := ([r13] : List T_impl_GrantReply)) rfl rfl tyE_84 rfl rfl rfl rfl (by decide) rfl (fun _ => rfl) h18) ?_
    refine TL.st rfl rfl rfl (o_assign rfl rfl) (TL.nil (inB_normal (thn_normal (T.conv (Cs.eqS (σ' := [.fam (o15.map (c_T_impl_yheld 0 false)), .box (c_T_impl_Server false a0), mpO (V.int .i64) (V.bool) o14.ended_, .box (k_impl_yserver 4 2 0 false o14), .arr .raw 1 (o14.held_.map (c_px 0)), .arr .clo 8 (l17.map (c_T_impl_GrantReply false)), .box (c_T_impl_GrantAsk false e11)]) rfl) ?_))))
    refine T.region (TL.st rfl rfl rfl (o_ari rfl rfl rfl rfl) (TL.st rfl rfl rfl (o_move rfl rfl) (TL.nil ?_)))
    exact Pk.of (thn_normal ⟨(o14, o15, l17, (IntKind.i64.wrap (v6 + 1))), (some_i H).symm, rfl, rfl⟩)
   ·replace H := cond_f h H
    refine T.exit (thn_exit ?_)
    exact Pk.of (thn_exit ⟨(b3, f4, l5), (some_i H).symm, rfl, rfl, rfl⟩)
  ·rcases q19 with ⟨b7, f8, l9⟩
   rintro _ _ _ ⟨rfl, rfl, rfl⟩
   refine inB_here (thn_normal (T.seq (T.region (TL.st rfl rfl rfl (o_move rfl rfl) (TL.st rfl rfl rfl (o_move rfl rfl) (TL.st rfl rfl rfl (o_assign rfl rfl) (TL.st rfl rfl rfl (o_assign rfl rfl) (TL.st rfl rfl rfl (o_assign rfl rfl) (TL.nil (thn_normal (T.conv (Cs.frzOwn (t := 5) rfl rfl rfl) ?_)))))))))))
   refine T.ret ?_
   cases some_i H
   exact ⟨trivial, _, (.tmp _ _ _ _ rfl (.tmp _ _ _ _ rfl (.tmp _ _ _ _ rfl .nil))), ⟨[3, 4, 2, 0], Part.of (by decide) (.cons _ _ _ _ rfl (.cons _ _ _ _ (ren_at rfl (ren_rawO fun _ => rfl)) (.cons _ _ _ _ (ren_at rfl (ren_mpO fun _ => rfl)) (.cons _ _ _ _ (ren_at rfl (ren_famO fun _ => rfl)) .nil)))), rfl⟩⟩
theorem impl_yrunServer_p0 (_u0 : Bool) (_u1 : Bool) {a0 : T_impl_Server} {a1 : (List T_impl_GrantAsk)} {x0' : T_impl_yserver} {x1' : (List T_impl_GrantReply)} {x2' : Bool} {x3' : (List T_impl_yheld)} (H : impl_yrunServer a0 a1 = some (.inl (x0', x1', x2', x3'))) : St Go.Proofs.Tryz.prog 21 [.agg (c_T_impl_Server false a0), .im false (a1.map (c_T_impl_GrantAsk false))] [] (.tup [.bx 0 0, .im false (x1'.map (c_T_impl_GrantReply false)), .bool x2']) [.box (k_impl_yserver 1 2 3 false (⟨x0'.s_, x0'.now_, x0'.held_, default, x0'.grants_⟩ : T_impl_yserver)), .arr .raw 1 (x0'.held_.map (c_px 3)), mpO (V.int .i64) (V.bool) x0'.ended_, .fam (x3'.map (c_T_impl_yheld 3 false))] :=
 CallT.sel (impl_yrunServer_p _u0 _u1 H)
theorem impl_yrunServer_p1 (_u0 : Bool) (_u1 : Bool) {a0 : T_impl_Server} {a1 : (List T_impl_GrantAsk)} {x0' : (List T_impl_GrantReply)} {x1' : Bool} (H : impl_yrunServer a0 a1 = some (.inr (x0', x1'))) : St Go.Proofs.Tryz.prog 21 [.agg (c_T_impl_Server false a0), .im false (a1.map (c_T_impl_GrantAsk false))] [] (.tup [.nilP, .im false (x0'.map (c_T_impl_GrantReply false)), .bool x1']) [] :=
 CallT.sel (impl_yrunServer_p _u0 _u1 H)
theorem en_21 (us : Array Value) (w : World) : (callFunc 21 us).run Go.Proofs.Tryz.prog w = .ok (.enter 21 us) w := enters Go.Proofs.Tryz.func21 rfl rfl us w
theorem tyS_51 : TyS Go.Proofs.Tryz.prog 51 false 1 := ⟨rfl, rfl⟩
theorem tyS_32 : TyS Go.Proofs.Tryz.prog 32 true 4 := ⟨rfl, rfl⟩
def k_impl_yattack (a1 a2 a3 a4 p : Nat) (b : Bool) (x : T_impl_yattack) : List V := ((c_T_impl_AttackConf b x.c_) ++ (c_T_impl_Client b x.x_) ++ [.bx a1 0, .int .i64 x.time_, .hd a2 (x.asks_.map (c_T_impl_GrantAsk false)).length 0 (x.asks_.map (c_T_impl_GrantAsk false)).length, .hd a3 (x.res_.Errs_.map (c_int .i64)).length 0 (x.res_.Errs_.map (c_int .i64)).length, .hd a4 (x.res_.Known_.map (c_str)).length 0 (x.res_.Known_.map (c_str)).length, .bool x.res_.Won_, .bool x.res_.Injected_, .int .i64 x.begun_, .str x.open_, .str x.verifier_])
noncomputable def impl_VerifierOf (a0 : ByteArray) (a1 : Int) : Option ByteArray :=
  cond ((((!(a0.toList == (ByteArray.mk #[97, 110, 110]).toList)) && (!(a0.toList == (ByteArray.mk #[101, 118, 101]).toList))) || decide (a1 < 0)) || decide (a1 > 1000)) (some (ByteArray.mk #[])) ((cat a0 (ByteArray.mk #[45])).bind fun s1 => (itoaO a1).bind fun r3 => (cat s1 r3).bind fun s5 => some s5)
theorem impl_VerifierOf_p  {a0 : ByteArray} {a1 : Int} {R0 : ByteArray} (H : impl_VerifierOf a0 a1 = some R0) : Pure Go.Proofs.Tryz.prog 38 [.str a0, .int .i64 a1] (.str R0) := by
 refine CallT.of_TN (n := 24) Go.Proofs.Tryz.func38 rfl rfl rfl rfl ?_
 refine T.seq (T.region (TL.st rfl rfl rfl (o_assign rfl rfl) (TL.nil (thn_normal (T.seq (T.seq (T.region (TL.st rfl rfl rfl (o_move rfl rfl) (TL.st rfl rfl rfl (o_str rfl rfl rfl rfl) ?_)))))))))
 refine TL.st rfl rfl rfl (o_move rfl rfl) (TL.gcq rfl rfl rfl (.bool _) rfl rfl (fun h => o_move rfl rfl) (TL.gcq rfl rfl rfl (.bool _) rfl rfl (fun h => o_str rfl (gv h rfl) rfl rfl) ?_))
 refine TL.st rfl rfl rfl (o_and rfl rfl rfl (fun k => Gd_t k) rfl) (TL.st rfl rfl rfl (o_move rfl rfl) (TL.gcq rfl rfl rfl (.bool _) rfl rfl (fun h => o_move rfl rfl) (TL.gcq rfl rfl rfl (.bool _) rfl rfl (fun h => o_ari rfl (gv h rfl) rfl rfl) ?_)))
 refine TL.st rfl rfl rfl (o_or rfl rfl rfl rfl (fun k => Gd_t k)) (TL.st rfl rfl rfl (o_move rfl rfl) (TL.gcq rfl rfl rfl (.bool _) rfl rfl (fun h => o_move rfl rfl) (TL.gcq rfl rfl rfl (.bool _) rfl rfl (fun h => o_ari rfl (gv h rfl) rfl rfl) ?_)))
 refine TL.st rfl rfl rfl (o_or rfl rfl rfl rfl (fun k => Gd_t k)) (TL.nil (thn_normal ?_))
 refine T.cond (((((!(a0.toList == (ByteArray.mk #[97, 110, 110]).toList)) && (!(a0.toList == (ByteArray.mk #[101, 118, 101]).toList))) || decide (a1 < 0)) || decide (a1 > 1000))) rfl (fun h => ?_) (fun h => ?_)
 ·replace H := cond_t h H
  refine T.seq (T.region (TL.st rfl rfl rfl (o_assign rfl rfl) (TL.nil (thn_normal (T.ret (thn_ret ?_))))))
  cases some_i H
  exact ⟨trivial, _, (.tmp _ _ _ _ rfl .nil), (.cl _ rfl)⟩
 ·replace H := cond_f h H
  refine T.skip (thn_normal (T.seq (T.region (TL.st rfl rfl rfl (o_move rfl rfl) ?_))))
  obtain ⟨s1, h2, H⟩ := bind_s H
  refine TL.st rfl rfl rfl (o_ct rfl rfl rfl h2) ?_
  refine TL.st rfl rfl rfl (o_move rfl rfl) ?_
  obtain ⟨r3, h4, H⟩ := bind_s H
  refine TL.st rfl rfl rfl (o_callP rfl en_71 rfl rfl (.cons _ _ _ _ (.cl _ rfl) .nil) (BD.lib_71  h4)) ?_
  obtain ⟨s5, h6, H⟩ := bind_s H
  refine TL.st rfl rfl rfl (o_ct rfl rfl rfl h6) ?_
  refine TL.st rfl rfl rfl (o_assign rfl rfl) (TL.nil (thn_normal (T.ret ?_)))
  cases some_i H
  exact ⟨trivial, _, (.tmp _ _ _ _ rfl .nil), (.cl _ rfl)⟩
theorem en_38 (us : Array Value) (w : World) : (callFunc 38 us).run Go.Proofs.Tryz.prog w = .ok (.enter 38 us) w := enters Go.Proofs.Tryz.func38 rfl rfl us w
theorem tyS_52 : TyS Go.Proofs.Tryz.prog 52 false 1 := ⟨rfl, rfl⟩
theorem tyE_82 : TyE Go.Proofs.Tryz.prog 82 12 := ⟨_, _, rfl, rfl, rfl, rfl, by decide, by decide⟩
noncomputable def impl_yattack_ask (a0 : T_impl_GrantAsk) (s0 : T_impl_yattack) (s3 : List T_impl_yheld) : Option (T_impl_GrantReply × T_impl_yattack × List T_impl_yheld) :=
  (app s0.asks_ ([({ a0 with Time_ := s0.time_, Client_ := s0.x_.Id_ } : T_impl_GrantAsk)] : List T_impl_GrantAsk)).bind fun l1 => (impl_yserver_ask ({ a0 with Time_ := s0.time_, Client_ := s0.x_.Id_ } : T_impl_GrantAsk) s0.v_ s3).bind fun q => (match q with | (r3, o4, o5) => some (r3, ({ s0 with v_ := o4, asks_ := l1 } : T_impl_yattack), o5))
theorem impl_yattack_ask_p (_u0 : Bool) (_u1 : Bool) {a0 : T_impl_GrantAsk} {s0 : T_impl_yattack} {s3 : List T_impl_yheld} {R0 : T_impl_GrantReply} {U0 : T_impl_yattack} {U3 : List T_impl_yheld} (H : impl_yattack_ask a0 s0 s3 = some (R0, U0, U3)) : St Go.Proofs.Tryz.prog 42 [.bx 0 0, .agg (c_T_impl_GrantAsk false a0)] [.box (k_impl_yattack 1 5 6 7 3 false s0), .box (k_impl_yserver 2 4 3 false s0.v_), .arr .raw 1 (s0.v_.held_.map (c_px 3)), .fam (s3.map (c_T_impl_yheld 3 false)), mpO (V.int .i64) (V.bool) s0.v_.ended_, .arr .clo 12 (s0.asks_.map (c_T_impl_GrantAsk false)), .arr .clo 1 (s0.res_.Errs_.map (c_int .i64)), .arr .clo 1 (s0.res_.Known_.map (c_str))] (.agg (c_T_impl_GrantReply false R0)) [.box (k_impl_yattack 1 5 6 7 3 false (⟨U0.c_, U0.x_, default, U0.time_, U0.asks_, (⟨U0.res_.Errs_, U0.res_.Known_, U0.res_.Won_, U0.res_.Injected_⟩ : T_impl_AttackRes), U0.begun_, U0.open_, U0.verifier_⟩ : T_impl_yattack)), .box (k_impl_yserver 2 4 3 false (⟨U0.v_.s_, U0.v_.now_, U0.v_.held_, default, U0.v_.grants_⟩ : T_impl_yserver)), .arr .raw 1 (U0.v_.held_.map (c_px 3)), .fam (U3.map (c_T_impl_yheld 3 false)), mpO (V.int .i64) (V.bool) U0.v_.ended_, .arr .clo 12 (U0.asks_.map (c_T_impl_GrantAsk false)), .arr .clo 1 (U0.res_.Errs_.map (c_int .i64)), .arr .clo 1 (U0.res_.Known_.map (c_str))] := by
 refine CallT.fin (CallT.of_TN (n := 32) Go.Proofs.Tryz.func42 rfl rfl rfl rfl ?_) rfl rfl ⟨(bels_iff.1 rfl), ⟨(bels_iff.1 rfl), ⟨(belRaw fun _ => rfl), ⟨(belFam fun _ => rfl), ⟨(belMap fun _ => rfl), ⟨trivial, ⟨trivial, ⟨trivial, trivial⟩⟩⟩⟩⟩⟩⟩⟩
 refine T.seq (T.region (TL.st rfl rfl rfl (o_box rfl rfl rfl) (TL.st rfl rfl rfl (o_alloc rfl ⟨_, rfl, rfl⟩) (TL.nil (thn_normal (T.seq (T.drawS (fr' := [(0, .bx 0 0), (1, .agg (c_T_impl_GrantAsk false a0)), (3, .bx 8 0), (4, .bx 9 0), (5, .bx 0 0), (6, .bx 0 0), (7, .bx 0 14), (8, .int .i64 s0.time_), (9, .bx 0 0), (10, .bx 0 0), (11, .bx 0 8), (12, .bx 0 8), (13, .str s0.x_.Id_), (14, .bx 8 1), (15, .bx 8 2)]) (R := [⟨some 5, .bx 0 0, .q, []⟩, ⟨some 6, .bx 0 0, .q, []⟩, ⟨some 7, .bx 0 14, .q, []⟩, ⟨some 8, .int .i64 s0.time_, .q, []⟩, ⟨some 9, .bx 0 0, .q, []⟩, ⟨some 10, .bx 0 0, .q, []⟩, ⟨some 11, .bx 0 8, .q, []⟩, ⟨some 12, .bx 0 8, .q, []⟩, ⟨some 13, .str s0.x_.Id_, .q, []⟩, ⟨some 14, .bx 8 1, .q, []⟩, ⟨none, .any, .q, []⟩, ⟨some 15, .bx 8 2, .q, []⟩, ⟨none, .any, .q, []⟩]) (fun b => cond (b 10) (cond (b 12) ([.box (k_impl_yattack 1 5 6 7 3 false s0), .box (k_impl_yserver 2 4 3 false s0.v_), .arr .raw 1 (s0.v_.held_.map (c_px 3)), .fam (s3.map (c_T_impl_yheld 3 false)), mpO (V.int .i64) (V.bool) s0.v_.ended_, .arr .clo 12 (s0.asks_.map (c_T_impl_GrantAsk false)), .arr .clo 1 (s0.res_.Errs_.map (c_int .i64)), .arr .clo 1 (s0.res_.Known_.map (c_str)), .box [.int .i64 a0.Kind_, .int .i64 s0.time_, .str s0.x_.Id_, .str a0.Secret_, .str a0.Redirect_, .str a0.Challenge_, .str a0.Verifier_, .str a0.User_, .str a0.Code_, .im false (a0.Scopes_.map (c_str)), .str a0.Audience_, .bool a0.Deny_], .box [.int .i64 0, .str (ByteArray.mk #[]), .str (ByteArray.mk #[]), .str (ByteArray.mk #[]), .nilS, .str (ByteArray.mk #[]), .str (ByteArray.mk #[]), .bool false]]) ([.box (k_impl_yattack 1 5 6 7 3 false s0), .box (k_impl_yserver 2 4 3 false s0.v_), .arr .raw 1 (s0.v_.held_.map (c_px 3)), .fam (s3.map (c_T_impl_yheld 3 false)), mpO (V.int .i64) (V.bool) s0.v_.ended_, .arr .clo 12 (s0.asks_.map (c_T_impl_GrantAsk false)), .arr .clo 1 (s0.res_.Errs_.map (c_int .i64)), .arr .clo 1 (s0.res_.Known_.map (c_str)), .box [.int .i64 a0.Kind_, .int .i64 s0.time_, .str a0.Client_, .str a0.Secret_, .str a0.Redirect_, .str a0.Challenge_, .str a0.Verifier_, .str a0.User_, .str a0.Code_, .im false (a0.Scopes_.map (c_str)), .str a0.Audience_, .bool a0.Deny_], .box [.int .i64 0, .str (ByteArray.mk #[]), .str (ByteArray.mk #[]), .str (ByteArray.mk #[]), .nilS, .str (ByteArray.mk #[]), .str (ByteArray.mk #[]), .bool false]])) ([.box (k_impl_yattack 1 5 6 7 3 false s0), .box (k_impl_yserver 2 4 3 false s0.v_), .arr .raw 1 (s0.v_.held_.map (c_px 3)), .fam (s3.map (c_T_impl_yheld 3 false)), mpO (V.int .i64) (V.bool) s0.v_.ended_, .arr .clo 12 (s0.asks_.map (c_T_impl_GrantAsk false)), .arr .clo 1 (s0.res_.Errs_.map (c_int .i64)), .arr .clo 1 (s0.res_.Known_.map (c_str)), .box (c_T_impl_GrantAsk false a0), .box [.int .i64 0, .str (ByteArray.mk #[]), .str (ByteArray.mk #[]), .str (ByteArray.mk #[]), .nilS, .str (ByteArray.mk #[]), .str (ByteArray.mk #[]), .bool false]])) rfl ?_ ?_ rfl rfl (FrL.get (.cons rfl (.cons rfl (.cons rfl (.cons rfl (.cons rfl (.cons rfl (.cons rfl (.cons rfl (.cons rfl (.cons rfl (.cons rfl (.cons rfl (.cons rfl (.cons rfl (.cons rfl .nil)))))))))))))))) ?_)))))))
 ·refine .cons _ _ _ _ _ ⟨rfl, [(0, .bx 0 0)], AllN.get rfl (.cons rfl .nil), fun b hd hn hk hc => ?_⟩ ?_
  ·exact ops_at (cdf (hn 10 rfl)) rfl (o_move rfl rfl) (cdf ((updb_ne rfl).trans (hn 10 rfl))) rfl
  refine .cons _ _ _ _ _ ⟨rfl, [(5, .bx 0 0)], AllN.get rfl (.cons rfl .nil), fun b hd hn hk hc => ?_⟩ ?_
  ·exact ops_at (cdf (hn 10 rfl)) rfl (o_nilCheck rfl rfl rfl) (cdf ((updb_ne rfl).trans (hn 10 rfl))) rfl
  refine .cons _ _ _ _ _ ⟨rfl, [(6, .bx 0 0)], AllN.get rfl (.cons rfl .nil), fun b hd hn hk hc => ?_⟩ ?_
  ·exact ops_at (cdf (hn 10 rfl)) rfl (o_fieldAddr rfl rfl rfl tyS_3 (by decide) rfl rfl ⟨_, rfl, Nat.le_of_ble_eq_true rfl⟩) (cdf ((updb_ne rfl).trans (hn 10 rfl))) rfl
  refine .cons _ _ _ _ _ ⟨rfl, [(7, .bx 0 14)], AllN.get rfl (.cons rfl .nil), fun b hd hn hk hc => ?_⟩ ?_
  ·exact ops_at (cdf (hn 10 rfl)) rfl (o_loadBx rfl tyS_3 rfl rfl (Nat.le_of_ble_eq_true rfl) rfl) (cdf ((updb_ne rfl).trans (hn 10 rfl))) rfl
  refine .cons _ _ _ _ _ ⟨rfl, [(0, .bx 0 0)], AllN.get rfl (.cons rfl .nil), fun b hd hn hk hc => ?_⟩ ?_
  ·cases e10 : b 10
   ·exact ops_at (cdf e10) rfl (o_move rfl rfl) (cdf ((updb_ne rfl).trans e10)) rfl
   ·exact ops_at ((cdt e10).trans (cdf (hn 12 rfl))) rfl (o_move rfl rfl) ((cdt ((updb_ne rfl).trans e10)).trans (cdf ((updb_ne rfl).trans (hn 12 rfl)))) rfl
  refine .cons _ _ _ _ _ ⟨rfl, [(9, .bx 0 0)], AllN.get rfl (.cons rfl .nil), fun b hd hn hk hc => ?_⟩ ?_
  ·cases e10 : b 10
   ·exact ops_at (cdf e10) rfl (o_nilCheck rfl rfl rfl) (cdf ((updb_ne rfl).trans e10)) rfl
   ·exact ops_at ((cdt e10).trans (cdf (hn 12 rfl))) rfl (o_nilCheck rfl rfl rfl) ((cdt ((updb_ne rfl).trans e10)).trans (cdf ((updb_ne rfl).trans (hn 12 rfl)))) rfl
  refine .cons _ _ _ _ _ ⟨rfl, [(10, .bx 0 0)], AllN.get rfl (.cons rfl .nil), fun b hd hn hk hc => ?_⟩ ?_
  ·cases e10 : b 10
   ·exact ops_at (cdf e10) rfl (o_fieldAddr rfl rfl rfl tyS_50 (by decide) rfl rfl ⟨_, rfl, Nat.le_of_ble_eq_true rfl⟩) (cdf ((updb_ne rfl).trans e10)) rfl
   ·exact ops_at ((cdt e10).trans (cdf (hn 12 rfl))) rfl (o_fieldAddr rfl rfl rfl tyS_50 (by decide) rfl rfl ⟨_, rfl, Nat.le_of_ble_eq_true rfl⟩) ((cdt ((updb_ne rfl).trans e10)).trans (cdf ((updb_ne rfl).trans (hn 12 rfl)))) rfl
  refine .cons _ _ _ _ _ ⟨rfl, [(11, .bx 0 8)], AllN.get rfl (.cons rfl .nil), fun b hd hn hk hc => ?_⟩ ?_
  ·cases e10 : b 10
   ·exact ops_at (cdf e10) rfl (o_fieldAddr rfl rfl rfl tyS_9 (by decide) rfl rfl ⟨_, rfl, Nat.le_of_ble_eq_true rfl⟩) (cdf ((updb_ne rfl).trans e10)) rfl
   ·exact ops_at ((cdt e10).trans (cdf (hn 12 rfl))) rfl (o_fieldAddr rfl rfl rfl tyS_9 (by decide) rfl rfl ⟨_, rfl, Nat.le_of_ble_eq_true rfl⟩) ((cdt ((updb_ne rfl).trans e10)).trans (cdf ((updb_ne rfl).trans (hn 12 rfl)))) rfl
  refine .cons _ _ _ _ _ ⟨rfl, [(12, .bx 0 8)], AllN.get rfl (.cons rfl .nil), fun b hd hn hk hc => ?_⟩ ?_
  ·cases e10 : b 10
   ·exact ops_at (cdf e10) rfl (o_loadBx rfl tyS_9 rfl rfl (Nat.le_of_ble_eq_true rfl) rfl) (cdf ((updb_ne rfl).trans e10)) rfl
   ·exact ops_at ((cdt e10).trans (cdf (hn 12 rfl))) rfl (o_loadBx rfl tyS_9 rfl rfl (Nat.le_of_ble_eq_true rfl) rfl) ((cdt ((updb_ne rfl).trans e10)).trans (cdf ((updb_ne rfl).trans (hn 12 rfl)))) rfl
  refine .cons _ _ _ _ _ ⟨rfl, [(3, .bx 8 0)], AllN.get rfl (.cons rfl .nil), fun b hd hn hk hc => ?_⟩ ?_
  ·exact ops_at (cdf (hn 10 rfl)) rfl (o_fieldAddr rfl rfl rfl tyS_3 (by decide) rfl rfl ⟨_, rfl, Nat.le_of_ble_eq_true rfl⟩) (cdf ((updb_ne rfl).trans (hn 10 rfl))) rfl
  refine .cons _ _ _ _ _ ⟨rfl, [(8, .int .i64 s0.time_), (14, .bx 8 1)], AllN.get rfl (.cons rfl (.cons rfl .nil)), fun b hd hn hk hc => ?_⟩ ?_
  ·exact ops_at (cdf hk) rfl (o_storeBx rfl tyS_3 rfl rfl rfl rfl (Nat.le_of_ble_eq_true rfl) rfl) (((cdt updb_self).trans (cdf ((updb_ne rfl).trans (hn 12 rfl)))).trans rfl) rfl
  refine .cons _ _ _ _ _ ⟨rfl, [(3, .bx 8 0)], AllN.get rfl (.cons rfl .nil), fun b hd hn hk hc => ?_⟩ ?_
  ·exact ops_at ((cdt (hd 10 rfl)).trans (cdf (hn 12 rfl))) rfl (o_fieldAddr rfl rfl rfl tyS_9 (by decide) rfl rfl ⟨_, rfl, Nat.le_of_ble_eq_true rfl⟩) ((cdt ((updb_ne rfl).trans (hd 10 rfl))).trans (cdf ((updb_ne rfl).trans (hn 12 rfl)))) rfl
  refine .cons _ _ _ _ _ ⟨rfl, [(13, .str s0.x_.Id_), (15, .bx 8 2)], AllN.get rfl (.cons rfl (.cons rfl .nil)), fun b hd hn hk hc => ?_⟩ ?_
  ·exact ops_at ((cdt (hd 10 rfl)).trans (cdf hk)) rfl (o_storeBx rfl tyS_9 rfl rfl rfl rfl (Nat.le_of_ble_eq_true rfl) rfl) (((cdt ((updb_ne rfl).trans (hd 10 rfl))).trans (cdt updb_self)).trans rfl) rfl
  exact .nil _
 ·intro b b' h; simp only [h 10 (by decide), h 12 (by decide)]
 refine thn_normal (T.seq (T.conv (Cs.eqS (σ' := [.box (k_impl_yattack 1 5 6 7 3 false s0), .box (k_impl_yserver 2 4 3 false s0.v_), .arr .raw 1 (s0.v_.held_.map (c_px 3)), .fam (s3.map (c_T_impl_yheld 3 false)), mpO (V.int .i64) (V.bool) s0.v_.ended_, .arr .clo 12 (s0.asks_.map (c_T_impl_GrantAsk false)), .arr .clo 1 (s0.res_.Errs_.map (c_int .i64)), .arr .clo 1 (s0.res_.Known_.map (c_str)), .box [.int .i64 a0.Kind_, .int .i64 s0.time_, .str s0.x_.Id_, .str a0.Secret_, .str a0.Redirect_, .str a0.Challenge_, .str a0.Verifier_, .str a0.User_, .str a0.Code_, .im false (a0.Scopes_.map (c_str)), .str a0.Audience_, .bool a0.Deny_], .box [.int .i64 0, .str (ByteArray.mk #[]), .str (ByteArray.mk #[]), .str (ByteArray.mk #[]), .nilS, .str (ByteArray.mk #[]), .str (ByteArray.mk #[]), .bool false]]) rfl) ?_))
 refine T.drawn rfl ?_
 refine TD.qs rfl rfl (fun _ => o_move rfl rfl) (TD.qs rfl rfl (fun _ => o_move rfl rfl) (TD.qs rfl rfl (fun _ => o_nilCheck rfl rfl rfl) (TD.rs rfl rfl (o_fieldAddr rfl rfl rfl tyS_52 (by decide) rfl rfl ⟨_, rfl, Nat.le_of_ble_eq_true rfl⟩) ?_)))
 refine TD.rs rfl rfl (o_loadBx rfl tyS_52 rfl rfl (Nat.le_of_ble_eq_true rfl) rfl) ?_
 refine TD.rs rfl rfl (o_loadBx rfl tyS_82 rfl rfl (Nat.le_of_ble_eq_true rfl) rfl) ?_
 refine TD.qs rfl rfl (fun _ => o_sliceIm (rows := ([({ a0 with Time_ := s0.time_, Client_ := s0.x_.Id_ } : T_impl_GrantAsk)] : List T_impl_GrantAsk).map (c_T_impl_GrantAsk false)) rfl rfl tyS_82 ⟨_, rfl, rfl⟩ (by decide) rfl rfl rfl rfl rfl rfl) ?_
 obtain ⟨l1, h2, H⟩ := bind_s H
 refine TD.as rfl rfl (o_ap (f := c_T_impl_GrantAsk false) (xs := s0.asks_) (ys := ([({ a0 with Time_ := s0.time_, Client_ := s0.x_.Id_ } : T_impl_GrantAsk)] : List T_impl_GrantAsk)) rfl rfl tyE_82 rfl rfl rfl rfl (by decide) rfl (fun _ => rfl) h2) ?_
 refine TD.qs rfl rfl (fun _ => o_nilCheck rfl rfl rfl) (TD.rs rfl rfl (o_fieldAddr rfl rfl rfl tyS_52 (by decide) rfl rfl ⟨_, rfl, Nat.le_of_ble_eq_true rfl⟩) ?_)
 refine TD.an rfl rfl (o_storeBx rfl tyS_52 rfl rfl rfl rfl (Nat.le_of_ble_eq_true rfl) (sure_hd rfl rfl rfl)) ?_
 refine TD.nil ⟨rfl, ?_⟩
 refine thn_normal (T.seq (T.drawn rfl ?_))
 refine TD.qs rfl rfl (fun _ => o_move rfl rfl) (TD.qs rfl rfl (fun _ => o_nilCheck rfl rfl rfl) (TD.rs rfl rfl (o_fieldAddr rfl rfl rfl tyS_51 (by decide) rfl rfl ⟨_, rfl, Nat.le_of_ble_eq_true rfl⟩) ?_))
 refine TD.rs rfl rfl (o_loadBx rfl tyS_51 rfl rfl (Nat.le_of_ble_eq_true rfl) rfl) ?_
 refine TD.rs rfl rfl (o_loadBx rfl tyS_82 rfl rfl (Nat.le_of_ble_eq_true rfl) rfl) ?_
 obtain ⟨⟨r3, o4, o5⟩, h6, H⟩ := bind_s H
 refine TD.as rfl rfl (o_callM [1, 2, 3, 4] rfl en_37 rfl rfl (impl_yserver_ask_p false false h6) rfl (by decide) (.cons _ _ _ _ rfl (.cons _ _ _ _ (ren_at rfl (ren_rawO fun _ => rfl)) (.cons _ _ _ _ (ren_at rfl (ren_famO fun _ => rfl)) (.cons _ _ _ _ (ren_at rfl (ren_mpO fun _ => rfl)) .nil)))) rfl rfl (.cons _ _ _ _ rfl (.cons _ _ _ _ (ren_rawO fun _ => rfl) (.cons _ _ _ _ (ren_famO fun _ => rfl) (.cons _ _ _ _ (ren_mpO fun _ => rfl) .nil)))) rfl) ?_
 refine TD.an rfl rfl (o_storeBx rfl tyS_84 rfl rfl rfl rfl (Nat.le_of_ble_eq_true rfl) rfl) ?_
 refine TD.nil ⟨rfl, ?_⟩
 refine thn_normal (T.conv (Cs.eqS (σ' := [.box (k_impl_yattack 1 5 6 7 3 false ({ s0 with asks_ := l1 } : T_impl_yattack)), .box (k_impl_yserver 2 4 3 false o4), .arr .raw 1 (o4.held_.map (c_px 3)), .fam (o5.map (c_T_impl_yheld 3 false)), mpO (V.int .i64) (V.bool) o4.ended_, .arr .clo 12 (l1.map (c_T_impl_GrantAsk false)), .arr .clo 1 (s0.res_.Errs_.map (c_int .i64)), .arr .clo 1 (s0.res_.Known_.map (c_str)), .box [.int .i64 a0.Kind_, .int .i64 s0.time_, .str s0.x_.Id_, .str a0.Secret_, .str a0.Redirect_, .str a0.Challenge_, .str a0.Verifier_, .str a0.User_, .str a0.Code_, .im false (a0.Scopes_.map (c_str)), .str a0.Audience_, .bool a0.Deny_], .box (c_T_impl_GrantReply false r3)]) rfl) ?_)
 refine T.ret ?_
 cases some_i H
 exact ⟨trivial, _, (.cell _ _ _ _ _ _ _ _ _ _ rfl rfl tyS_84 (Nat.le_of_ble_eq_true rfl) rfl .nil), ⟨rfl, _, rfl⟩⟩
theorem en_42 (us : Array Value) (w : World) : (callFunc 42 us).run Go.Proofs.Tryz.prog w = .ok (.enter 42 us) w := enters Go.Proofs.Tryz.func42 rfl rfl us w
noncomputable def impl_yattack_authorize (a0 : ByteArray) (a1 : ByteArray) (s0 : T_impl_yattack) (s3 : List T_impl_yheld) : Option (T_impl_GrantReply × T_impl_yattack × List T_impl_yheld) :=
  (idx s0.x_.Redirects_ 0).bind fun e1 => (impl_ChallengeOf a1).bind fun r3 => (slices_Clone s0.x_.Scopes_).bind fun r5 => (impl_yattack_ask (⟨1, 0, (ByteArray.mk #[]), (ByteArray.mk #[]), e1, r3, (ByteArray.mk #[]), a0, (ByteArray.mk #[]), r5, (ByteArray.mk #[]), false⟩ : T_impl_GrantAsk) s0 s3).bind fun q => (match q with | (r7, o8, o9) => some (r7, o8, o9))
end Go.G36.BW
