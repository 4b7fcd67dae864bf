import Derived.Test.YtgfpdlebnbpcfaaDoorSE1
set_option linter.all false
set_option maxRecDepth 20000
set_option maxHeartbeats 4000000
namespace Go.G36.SE
open Go Go.Proofs Go.G36.SL
theorem impl_Armor_p (b0 : Bool) {a0 : (List Int)} {R0 : ByteArray} (H : impl_Armor a0 = some R0) : Pure Tryd.prog 52 [.im b0 (a0.map (c_int .u8))] (.str R0) := by
 refine CallT.of_TN (n := 50) Tryd.func52 rfl rfl rfl rfl ?_
 refine au 8 ?_
 refine TL.st rfl rfl rfl (o_lenL (f := c_int .u8) rfl rfl rfl) ?_
 refine au 2 ?_
 refine T.cH H (fun H h => ?_) (fun H h => ?_)
 ·refine au 5 ?_
  refine thn_ret ?_
  cases some_i H
  exact ⟨trivial, _, (.tmp _ _ _ _ rfl .nil), (.cl _ rfl)⟩
 ·refine au 3 ?_
  refine TL.st rfl rfl rfl (o_allocB rfl ⟨_, rfl, rfl⟩) ?_
  refine au 10 ?_
  refine TL.st rfl rfl rfl (o_lenL (f := c_int .u8) rfl rfl rfl) ?_
  refine au 3 ?_
  refine T.conv (Cs.ownCellT (p := 0) 5 1 1 rfl rfl (by decide)) ?_
  obtain ⟨q38, h39, H⟩ := bind_s H
  refine T.lq (fun s => match s with | (b1, v2, v3, v4) => [(3, .bx 0 0), (4, .int .i64 v2), (5, .int .i64 v3), (11, .im b0 (a0.map (c_int .u8))), (12, .int .i64 (a0.length : Int)), (13, .int .i64 v4)]) (fun s => match s with | (b1, v2, v3, v4) => [.box [.px 0 93 1 0, .hd 1 (b1.buf_.map (c_int .u8)).length 0 (b1.buf_.map (c_int .u8)).length], .arr (.tg 5) 1 (b1.buf_.map (c_int .u8))]) (fun q ex fr σ => match q with | (b5, v6, v7) => ex = .exit 0 ∧ fr = [(3, .bx 0 0), (4, .int .i64 v6), (5, .int .i64 v7)] ∧ σ = [.box [.px 0 93 1 0, .hd 1 (b5.buf_.map (c_int .u8)).length 0 (b5.buf_.map (c_int .u8)).length], .arr (.tg 5) 1 (b5.buf_.map (c_int .u8))]) h39 ?_ ?_
  ·rintro ⟨b1, v2, v3, v4⟩ y19 H
   refine au 5 ?_
   refine T.cH H (fun H h => ?_) (fun H h => ?_)
   ·refine au 5 ?_
    obtain ⟨e20, h21, H⟩ := bind_s H
    refine TL.st rfl rfl rfl (o_ix (f := c_int .u8) rfl rfl tyS_5 rfl rfl h21 rfl) ?_
    refine au 6 ?_
    refine TL.st rfl rfl rfl (o_shl rfl rfl rfl (by decide)) ?_
    refine TL.st rfl rfl rfl (o_move rfl rfl) ?_
    refine TL.st rfl rfl rfl (o_conv rfl rfl ⟨_, rfl⟩ rfl) ?_
    refine TL.st rfl rfl rfl (o_bits rfl rfl rfl rfl) ?_
    refine au 7 ?_
    obtain ⟨q36, h37, H⟩ := bind_s H
    refine T.lq (fun s => match s with | (b22, v23) => [(3, .bx 0 0), (4, .int .i64 (IntKind.i64.wrap (BitVec.ofInt IntKind.i64.bits (IntKind.i64.wrap (v2 * 2 ^ (min (Int.toNat 8) IntKind.i64.bits))) ||| BitVec.ofInt IntKind.i64.bits (IntKind.i64.wrap e20)).toNat)), (5, .int .i64 v23), (11, .im b0 (a0.map (c_int .u8))), (12, .int .i64 (a0.length : Int)), (13, .int .i64 v4)]) (fun s => match s with | (b22, v23) => [.box [.px 0 93 1 0, .hd 1 (b22.buf_.map (c_int .u8)).length 0 (b22.buf_.map (c_int .u8)).length], .arr (.tg 5) 1 (b22.buf_.map (c_int .u8))]) (fun q ex fr σ => match q with | (b24, v25) => ex = .exit 2 ∧ fr = [(3, .bx 0 0), (4, .int .i64 (IntKind.i64.wrap (BitVec.ofInt IntKind.i64.bits (IntKind.i64.wrap (v2 * 2 ^ (min (Int.toNat 8) IntKind.i64.bits))) ||| BitVec.ofInt IntKind.i64.bits (IntKind.i64.wrap e20)).toNat)), (5, .int .i64 v25), (11, .im b0 (a0.map (c_int .u8))), (12, .int .i64 (a0.length : Int)), (13, .int .i64 v4)] ∧ σ = [.box [.px 0 93 1 0, .hd 1 (b24.buf_.map (c_int .u8)).length 0 (b24.buf_.map (c_int .u8)).length], .arr (.tg 5) 1 (b24.buf_.map (c_int .u8))]) h37 ?_ ?_
    ·rintro ⟨b22, v23⟩ y28 H
     refine au 6 ?_
     refine T.cH H (fun H h => ?_) (fun H h => ?_)
     ·refine au 11 ?_
      obtain ⟨u29, h30, H⟩ := bind_s H
      refine TL.st rfl rfl rfl (o_shr rfl rfl rfl (nn_s h30)) ?_
      refine TL.st rfl rfl rfl (o_bits rfl rfl rfl rfl) ?_
      obtain ⟨b31, h32, H⟩ := bind_s H
      refine TL.st rfl rfl rfl (o_ixs rfl rfl rfl rfl h32) ?_
      obtain ⟨⟨r33, o34⟩, h35, H⟩ := bind_s H
      refine TL.st rfl rfl rfl (o_callS [0, 1] rfl en_59 rfl rfl (strings_Builder_WriteByte_p  h35) rfl (by decide) (.cons _ _ _ _ rfl (.cons _ _ _ _ rfl .nil)) rfl rfl rfl) ?_
      refine TL.conv (Cs.wkF (M := 3) (.k 3 rfl rfl (.k 4 rfl rfl (.k 5 rfl rfl (.k 11 rfl rfl (.k 12 rfl rfl (.k 13 rfl rfl (.k 24 rfl rfl (.k 25 rfl rfl (.k 26 rfl rfl (.k 27 rfl rfl (.k 28 rfl rfl (.k 29 rfl rfl (.k 30 rfl rfl (.k 31 rfl rfl (.k 32 rfl rfl (.k 33 rfl rfl .nil))))))))))))))))) ?_
      refine TL.conv (Cs.reloc 1 2 rfl rfl (by decide) rfl rfl rfl (nomS_get rfl)) ?_
      refine TL.conv (Cs.wkF (M := 3) (.k 3 rfl rfl (.k 4 rfl rfl (.k 5 rfl rfl (.k 11 rfl rfl (.k 12 rfl rfl (.k 13 rfl rfl (.k 24 rfl rfl (.k 25 rfl rfl (.k 26 rfl rfl (.k 27 rfl rfl (.k 28 rfl rfl (.k 29 rfl rfl (.k 30 rfl rfl (.k 31 rfl rfl (.k 32 rfl rfl (.k 33 rfl rfl .nil))))))))))))))))) ?_
      refine TL.conv (Cs.eqS (σ' := [.box [.px 0 93 1 0, .hd 1 (o34.buf_.map (c_int .u8)).length 0 (o34.buf_.map (c_int .u8)).length], .arr (.tg 5) 1 (o34.buf_.map (c_int .u8)), .dead]) rfl) ?_
      refine TL.nil ?_
      refine inB_normal ?_
      exact Pk.of (thn_normal ⟨((⟨(), o34.buf_⟩ : T_strings_Builder), (IntKind.i64.wrap (v23 - 5))), (some_i H).symm, rfl, rfl⟩)
     ·refine T.exit ?_
      refine thn_exit ?_
      exact Pk.of (thn_exit ⟨((⟨(), b22.buf_⟩ : T_strings_Builder), v23), (some_i H).symm, rfl, rfl, rfl⟩)
    ·rcases q36 with ⟨b24, v25⟩
     rintro _ _ _ ⟨rfl, rfl, rfl⟩
     refine inB_here ?_
     refine au 3 ?_
     obtain ⟨u26, h27, H⟩ := bind_s H
     refine TL.st rfl rfl rfl (o_shl rfl rfl rfl (nn_s h27)) ?_
     refine TL.st rfl rfl rfl (o_ari rfl rfl rfl rfl) ?_
     refine TL.st rfl rfl rfl (o_bits rfl rfl rfl rfl) ?_
     refine au 6 ?_
     exact Pk.of (thn_normal ⟨((⟨(), b24.buf_⟩ : T_strings_Builder), (IntKind.i64.wrap (BitVec.ofInt IntKind.i64.bits (IntKind.i64.wrap (BitVec.ofInt IntKind.i64.bits (IntKind.i64.wrap (v2 * 2 ^ (min (Int.toNat 8) IntKind.i64.bits))) ||| BitVec.ofInt IntKind.i64.bits (IntKind.i64.wrap e20)).toNat) &&& BitVec.ofInt IntKind.i64.bits (IntKind.i64.wrap ((IntKind.i64.wrap (1 * 2 ^ (min (Int.toNat v25) IntKind.i64.bits))) - 1))).toNat), v25, (IntKind.i64.wrap (v4 + 1))), (some_i H).symm, rfl, rfl⟩)
   ·refine T.exit ?_
    refine thn_exit ?_
    exact Pk.of (thn_exit ⟨((⟨(), b1.buf_⟩ : T_strings_Builder), v2, v3), (some_i H).symm, rfl, rfl, rfl⟩)
  ·rcases q38 with ⟨b5, v6, v7⟩
   rintro _ _ _ ⟨rfl, rfl, rfl⟩
   refine inB_here ?_
   refine au 6 ?_
   refine T.cH H (fun H h => ?_) (fun H h => ?_)
   ·refine au 4 ?_
    obtain ⟨u8, h9, H⟩ := bind_s H
    refine TL.st rfl rfl rfl (o_shl rfl rfl rfl (nn_s h9)) ?_
    refine TL.st rfl rfl rfl (o_bits rfl rfl rfl rfl) ?_
    obtain ⟨b10, h11, H⟩ := bind_s H
    refine TL.st rfl rfl rfl (o_ixs rfl rfl rfl rfl h11) ?_
    obtain ⟨⟨r12, o13⟩, h14, H⟩ := bind_s H
    refine TL.st rfl rfl rfl (o_callS [0, 1] rfl en_59 rfl rfl (strings_Builder_WriteByte_p  h14) rfl (by decide) (.cons _ _ _ _ rfl (.cons _ _ _ _ rfl .nil)) rfl rfl rfl) ?_
    refine TL.conv (Cs.wkF (M := 3) (.k 3 rfl rfl (.k 4 rfl rfl (.k 5 rfl rfl (.k 40 rfl rfl (.k 41 rfl rfl (.k 42 rfl rfl (.k 43 rfl rfl (.k 44 rfl rfl (.k 45 rfl rfl (.k 46 rfl rfl (.k 47 rfl rfl (.k 48 rfl rfl .nil))))))))))))) ?_
    refine TL.conv (Cs.reloc 1 2 rfl rfl (by decide) rfl rfl rfl (nomS_get rfl)) ?_
    refine TL.conv (Cs.wkF (M := 3) (.k 3 rfl rfl (.k 4 rfl rfl (.k 5 rfl rfl (.k 40 rfl rfl (.k 41 rfl rfl (.k 42 rfl rfl (.k 43 rfl rfl (.k 44 rfl rfl (.k 45 rfl rfl (.k 46 rfl rfl (.k 47 rfl rfl (.k 48 rfl rfl .nil))))))))))))) ?_
    refine TL.conv (Cs.eqS (σ' := [.box [.px 0 93 1 0, .hd 1 (o13.buf_.map (c_int .u8)).length 0 (o13.buf_.map (c_int .u8)).length], .arr (.tg 5) 1 (o13.buf_.map (c_int .u8)), .dead]) rfl) ?_
    refine au 3 ?_
    obtain ⟨r15, h16, H⟩ := bind_s H
    refine TL.st rfl rfl rfl (o_callS [0, 1] rfl en_60 rfl rfl (strings_Builder_String_p  h16) rfl (by decide) (.cons _ _ _ _ rfl (.cons _ _ _ _ rfl .nil)) rfl rfl rfl) ?_
    refine au 3 ?_
    cases some_i H
    exact ⟨trivial, _, (.tmp _ _ _ _ rfl .nil), (.cl _ rfl)⟩
   ·refine au 3 ?_
    obtain ⟨r17, h18, H⟩ := bind_s H
    refine TL.st rfl rfl rfl (o_callS [0, 1] rfl en_60 rfl rfl (strings_Builder_String_p  h18) rfl (by decide) (.cons _ _ _ _ rfl (.cons _ _ _ _ rfl .nil)) rfl rfl rfl) ?_
    refine au 3 ?_
    cases some_i H
    exact ⟨trivial, _, (.tmp _ _ _ _ rfl .nil), (.cl _ rfl)⟩
theorem en_52 : En Tryd.prog 52 := .of Tryd.func52 rfl rfl
noncomputable def impl_HandleOf (a0 : (List Int)) (a1 : ByteArray) (a2 : Int) : Option ByteArray :=
  (gdO (!(decide ((a0.length : Int) > 64))) (impl_GoodName a1)).bind fun r1 => cond (((decide ((a0.length : Int) > 64) || (!r1)) || decide (a2 < 1)) || decide (a2 > 1000000)) (some e0) ((itoaO a2).bind fun r3 => (cat a1 r3).bind fun s5 => (cat s5 (ByteArray.mk #[45])).bind fun s7 => (impl_Mac a0 (bys s5)).bind fun r9 => (sub r9 0 10).bind fun l11 => (impl_Armor l11).bind fun r13 => (cat s7 r13).bind fun s15 => some s15)
theorem impl_HandleOf_p (b0 : Bool) {a0 : (List Int)} {a1 : ByteArray} {a2 : Int} {R0 : ByteArray} (H : impl_HandleOf a0 a1 a2 = some R0) : Pure Tryd.prog 43 [.im b0 (a0.map (c_int .u8)), .str a1, .int .i64 a2] (.str R0) := by
 refine CallT.of_TN (n := 37) Tryd.func43 rfl rfl rfl rfl ?_
 refine au 8 ?_
 refine TL.st rfl rfl rfl (o_lenL (f := c_int .u8) rfl rfl rfl) ?_
 refine au 3 ?_
 obtain ⟨r1, h2, H⟩ := bind_s H
 refine TL.gcq rfl rfl rfl (.bool _) rfl rfl (fun h => o_callP rfl en_33 rfl (evl_1 (gv h rfl)) (.cons _ _ _ _ (.cl _ rfl) .nil) (impl_GoodName_p  (gdO_t h2 h))) ?_
 refine au 11 ?_
 refine T.cH H (fun H h => ?_) (fun H h => ?_)
 ·refine au 5 ?_
  refine thn_ret ?_
  cases some_i H
  exact ⟨trivial, _, (.tmp _ _ _ _ rfl .nil), (.cl _ rfl)⟩
 ·refine au 5 ?_
  obtain ⟨r3, h4, H⟩ := bind_s H
  refine TL.st rfl rfl rfl (o_callP rfl en_51 rfl rfl (.cons _ _ _ _ (.cl _ rfl) .nil) (SL.lib_51  h4)) ?_
  obtain ⟨s5, h6, H⟩ := bind_s H
  refine TL.st rfl rfl rfl (o_ct rfl rfl rfl h6) ?_
  refine au 5 ?_
  obtain ⟨s7, h8, H⟩ := bind_s H
  refine TL.st rfl rfl rfl (o_ct rfl rfl rfl h8) ?_
  refine au 2 ?_
  refine TL.st rfl rfl rfl (o_sb (f := c_int .u8) rfl rfl rfl rfl (fun _ => rfl) rfl) ?_
  obtain ⟨r9, h10, H⟩ := bind_s H
  refine TL.st rfl rfl rfl (o_callP rfl en_53 rfl rfl (.cons _ _ _ _ (.imv _ _) (.cons _ _ _ _ (.cl _ rfl) .nil)) (impl_Mac_p b0 false h10)) ?_
  obtain ⟨l11, h12, H⟩ := bind_s H
  refine TL.st rfl rfl rfl (o_subL (f := c_int .u8) (xs := r9) rfl rfl tyS_5 rfl rfl rfl (fun _ => rfl) h12) ?_
  obtain ⟨r13, h14, H⟩ := bind_s H
  refine TL.st rfl rfl rfl (o_callP rfl en_52 rfl rfl (.cons _ _ _ _ (.cl _ rfl) .nil) (impl_Armor_p false h14)) ?_
  obtain ⟨s15, h16, H⟩ := bind_s H
  refine TL.st rfl rfl rfl (o_ct rfl rfl rfl h16) ?_
  refine au 3 ?_
  cases some_i H
  exact ⟨trivial, _, (.tmp _ _ _ _ rfl .nil), (.cl _ rfl)⟩
theorem en_43 : En Tryd.prog 43 := .of Tryd.func43 rfl rfl
noncomputable def impl_ysessions_next (s0 : T_impl_ysessions) (s2 : List T_impl_ysession) (s3 : List (Option (List ByteArray))) : Option (ByteArray × T_impl_ysessions) :=
  (impl_HandleOf s0.c_.Key_ (ByteArray.mk #[115, 101, 115, 115]) (IntKind.i64.wrap (s0.ids_ + 1))).bind fun r1 => some (r1, ({ s0 with ids_ := (IntKind.i64.wrap (s0.ids_ + 1)) } : T_impl_ysessions))
theorem impl_ysessions_next_p (c0 : Bool) {s0 : T_impl_ysessions} {s2 : List T_impl_ysession} {s3 : List (Option (List ByteArray))} {R0 : ByteArray} {U0 : T_impl_ysessions} (H : impl_ysessions_next s0 s2 s3 = some (R0, U0)) : St Tryd.prog 34 [.bx 0 0] [.box (k_impl_ysessions 1 4 2 c0 s0), .arr .raw 1 (s0.list_.map (c_px 2)), .fam (s2.map (c_T_impl_ysession 3 false)), .afm 1 (s3.map (c_ax (c_str))), .arr .clo 4 (s0.reply_.map (c_T_impl_SessReply false))] (.str R0) [.box (k_impl_ysessions 1 4 2 c0 (⟨U0.c_, U0.now_, U0.ids_, U0.list_, U0.reply_⟩ : T_impl_ysessions)), .arr .raw 1 (U0.list_.map (c_px 2)), .fam (s2.map (c_T_impl_ysession 3 false)), .afm 1 (s3.map (c_ax (c_str))), .arr .clo 4 (U0.reply_.map (c_T_impl_SessReply false))] := by
 refine CallT.fin (CallT.of_TN (n := 20) Tryd.func34 rfl rfl rfl rfl ?_) rfl rfl ⟨(bels_iff.1 rfl), ⟨(belRaw fun _ => rfl), ⟨(belFam fun _ => rfl), ⟨trivial, ⟨trivial, trivial⟩⟩⟩⟩⟩
 refine au 16 ?_
 refine T.drawn rfl ?_
 refine ad 9 ?_
 obtain ⟨r1, h2, H⟩ := bind_s H
 refine TD.qs rfl rfl (fun _ => o_callP rfl en_43 rfl rfl (.cons _ _ _ _ (.imv _ _) (.cons _ _ _ _ (.cl _ rfl) (.cons _ _ _ _ (.cl _ rfl) .nil))) (impl_HandleOf_p c0 h2)) ?_
 refine TD.qs rfl rfl (fun _ => o_assign rfl rfl) ?_
 refine TD.nil ⟨rfl, ?_⟩
 refine T.ret ?_
 cases some_i H
 exact ⟨trivial, _, (.tmp _ _ _ _ rfl .nil), ⟨rfl, _, rfl⟩⟩
theorem en_34 : En Tryd.prog 34 := .of Tryd.func34 rfl rfl
theorem tyS_48 : TyS Tryd.prog 48 false 1 := ⟨rfl, rfl⟩
theorem tyS_55 : TyS Tryd.prog 55 false 1 := ⟨rfl, rfl⟩
theorem tyE_55 : TyE Tryd.prog 55 1 := ⟨_, _, rfl, rfl, rfl, rfl, by decide, by decide⟩
noncomputable def impl_ysession_id (a0 : Int) (s0 : List T_impl_ysession) (s1 : List (Option (List ByteArray))) : Option ByteArray :=
  (idx s0 a0).bind fun w1 => (axg s1 w1.ids_).bind fun x3 => (idx x3 (IntKind.i64.wrap ((x3.length : Int) - 1))).bind fun e5 => some e5
theorem impl_ysession_id_p  {a0 : Int} {s0 : List T_impl_ysession} {s1 : List (Option (List ByteArray))} {R0 : ByteArray} (H : impl_ysession_id a0 s0 s1 = some R0) : St Tryd.prog 18 [.px 0 0 a0 0] [.fam (s0.map (c_T_impl_ysession 1 false)), .afm 1 (s1.map (c_ax (c_str)))] (.str R0) [.fam (s0.map (c_T_impl_ysession 1 false)), .afm 1 (s1.map (c_ax (c_str)))] := by
 refine CallT.fin (CallT.of_TN (n := 15) Tryd.func18 rfl rfl rfl rfl ?_) rfl rfl ⟨(belFam fun _ => rfl), ⟨trivial, trivial⟩⟩
 refine au 5 ?_
 refine T.drawn rfl ?_
 refine TD.qs rfl rfl (fun _ => o_move rfl rfl) ?_
 obtain ⟨w1, h2, H⟩ := bind_s H
 refine TD.rs rfl rfl (o_nilCheckP rfl rfl rfl h2) ?_
 refine TD.rs rfl rfl (o_fieldAddrP (a := w1) rfl rfl rfl tyS_56 (by decide) rfl rfl h2) ?_
 refine TD.rs rfl rfl (o_loadP (a := w1) rfl tyS_56 rfl rfl h2 (nb rfl) rfl) ?_
 refine TD.qs rfl rfl (fun _ => o_move rfl rfl) ?_
 refine TD.rs rfl rfl (o_nilCheckP rfl rfl rfl h2) ?_
 refine TD.rs rfl rfl (o_fieldAddrP (a := w1) rfl rfl rfl tyS_56 (by decide) rfl rfl h2) ?_
 refine TD.rs rfl rfl (o_loadP (a := w1) rfl tyS_56 rfl rfl h2 (nb rfl) rfl) ?_
 obtain ⟨x3, h4, H⟩ := bind_s H
 refine TD.rs rfl rfl (o_lenX (f := c_str) (L := s1) (xs := x3) rfl rfl rfl rfl h4) ?_
 refine TD.qs rfl rfl (fun _ => o_ari rfl rfl rfl rfl) ?_
 obtain ⟨e5, h6, H⟩ := bind_s H
 refine TD.rs rfl rfl (o_ixX (f := c_str) (L := s1) (xs := x3) rfl rfl tyS_9 rfl rfl rfl h4 h6) ?_
 refine TD.rs rfl rfl (o_loadX (f := c_str) (L := s1) (xs := x3) (a0 := e5) rfl tyS_9 rfl rfl h4 h6 (nb rfl) rfl) ?_
 refine TD.qs rfl rfl (fun _ => o_assign rfl rfl) ?_
 refine TD.nil ⟨rfl, ?_⟩
 refine T.ret ?_
 cases some_i H
 exact ⟨trivial, _, (.tmp _ _ _ _ rfl .nil), ⟨rfl, _, rfl⟩⟩
theorem en_18 : En Tryd.prog 18 := .of Tryd.func18 rfl rfl
noncomputable def slices_Index_l1 (a0 : (List ByteArray)) (a1 : ByteArray) : Int → Option (Int ⊕ (Unit ⊕ Int)) := fun s => match s with
  | v1 => cond (decide (v1 < (a0.length : Int))) ((idx a0 v1).bind fun e4 => cond (a1.toList == e4.toList) (some (.inr (.inr v1))) (some (.inl (IntKind.i64.wrap (v1 + 1))))) (some (.inr (.inl ())))
noncomputable def slices_Index (a0 : (List ByteArray)) (a1 : ByteArray) : Option Int :=
  (loopO (slices_Index_l1 a0 a1) 0).bind fun q6 => (match q6 with | .inl _ => some (-1) | .inr q2 => some q2)
theorem slices_Index_p (b0 : Bool) {a0 : (List ByteArray)} {a1 : ByteArray} {R0 : Int} (H : slices_Index a0 a1 = some R0) : Pure Tryd.prog 44 [.im b0 (a0.map (c_str)), .str a1] (.int .i64 R0) := by
 refine CallT.of_TN (n := 19) Tryd.func44 rfl rfl rfl rfl ?_
 refine au 8 ?_
 refine TL.st rfl rfl rfl (o_lenL (f := c_str) rfl rfl rfl) ?_
 refine au 3 ?_
 obtain ⟨q6, h7, H⟩ := bind_s H
 refine T.lq (fun s => match s with | v1 => [(0, .im b0 (a0.map (c_str))), (1, .str a1), (7, .int .i64 (a0.length : Int)), (8, .int .i64 v1)]) (fun s => match s with | v1 => []) (fun q ex fr σ => match q with | .inl _ => ex = .exit 0 ∧ fr = [] ∧ σ = [] | .inr q2 => ex = .ret ∧ RetN Tryd.prog [.tmp 4] (fun v τ => Told τ v (.int .i64 q2)) .ret fr σ) h7 ?_ ?_
 ·rintro v1 y3 H
  refine au 5 ?_
  refine T.cH H (fun H h => ?_) (fun H h => ?_)
  ·refine au 13 ?_
   obtain ⟨e4, h5, H⟩ := bind_s H
   refine TL.st rfl rfl rfl (o_ix (f := c_str) rfl rfl tyS_9 rfl rfl h5 rfl) ?_
   refine au 3 ?_
   refine T.cH H (fun H h => ?_) (fun H h => ?_)
   ·refine au 6 ?_
    refine inB_ret (thn_ret ?_)
    exact Pk.id (thn_ret ⟨.inr v1, (some_i H).symm, rfl, ⟨trivial, _, (.tmp _ _ _ _ rfl .nil), (.cl _ rfl)⟩⟩)
   ·refine au 5 ?_
    exact Pk.of (thn_normal ⟨(IntKind.i64.wrap (v1 + 1)), (some_i H).symm, rfl, rfl⟩)
  ·refine T.exit ?_
   refine thn_exit ?_
   exact Pk.of (thn_exit ⟨.inl (), (some_i H).symm, rfl, rfl, rfl⟩)
 ·rcases q6 with ⟨⟩ | q2
  ·rintro _ _ _ ⟨rfl, rfl, rfl⟩
   refine inB_here ?_
   refine au 5 ?_
   cases some_i H
   exact ⟨trivial, _, (.tmp _ _ _ _ rfl .nil), (.cl _ rfl)⟩
  ·rintro _ fr1 σ1 ⟨rfl, hr⟩
   refine inB_ret (thn_ret ?_)
   cases some_i H
   exact hr
theorem en_44 : En Tryd.prog 44 := .of Tryd.func44 rfl rfl
noncomputable def slices_Contains (a0 : (List ByteArray)) (a1 : ByteArray) : Option Bool :=
  (slices_Index a0 a1).bind fun r1 => some (decide (r1 ≥ 0))
theorem slices_Contains_p (b0 : Bool) {a0 : (List ByteArray)} {a1 : ByteArray} {R0 : Bool} (H : slices_Contains a0 a1 = some R0) : Pure Tryd.prog 37 [.im b0 (a0.map (c_str)), .str a1] (.bool R0) := by
 refine CallT.of_TN (n := 9) Tryd.func37 rfl rfl rfl rfl ?_
 refine au 8 ?_
 obtain ⟨r1, h2, H⟩ := bind_s H
 refine TL.st rfl rfl rfl (o_callP rfl en_44 rfl rfl (.cons _ _ _ _ (.imv _ _) (.cons _ _ _ _ (.cl _ rfl) .nil)) (slices_Index_p b0 h2)) ?_
 refine au 4 ?_
 cases some_i H
 exact ⟨trivial, _, (.tmp _ _ _ _ rfl .nil), (.cl _ rfl)⟩
theorem en_37 : En Tryd.prog 37 := .of Tryd.func37 rfl rfl
noncomputable def impl_ysessions_do_1 (a0 : Int) (s0 : List T_impl_ysession) (s1 : List (Option (List ByteArray))) (s2 : T_impl_SessEvent) : Option Bool :=
  (idx s0 a0).bind fun w1 => (axg s1 w1.ids_).bind fun x3 => (slices_Contains x3 s2.Id_).bind fun r5 => some r5
theorem impl_ysessions_do_1_p  {a0 : Int} {s0 : List T_impl_ysession} {s1 : List (Option (List ByteArray))} {s2 : T_impl_SessEvent} {R0 : Bool} (H : impl_ysessions_do_1 a0 s0 s1 s2 = some R0) : St Tryd.prog 36 [.px 0 0 a0 0, .bx 2 0] [.fam (s0.map (c_T_impl_ysession 1 false)), .afm 1 (s1.map (c_ax (c_str))), .box (c_T_impl_SessEvent false s2)] (.bool R0) [.fam (s0.map (c_T_impl_ysession 1 false)), .afm 1 (s1.map (c_ax (c_str))), .box (c_T_impl_SessEvent false s2)] := by
 refine CallT.fin (CallT.of_TN (n := 11) Tryd.func36 rfl rfl rfl rfl ?_) rfl rfl ⟨(belFam fun _ => rfl), ⟨trivial, ⟨(bels_iff.1 rfl), trivial⟩⟩⟩
 refine au 5 ?_
 refine T.drawn rfl ?_
 refine TD.qs rfl rfl (fun _ => o_move rfl rfl) ?_
 obtain ⟨w1, h2, H⟩ := bind_s H
 refine TD.rs rfl rfl (o_nilCheckP rfl rfl rfl h2) ?_
 refine TD.rs rfl rfl (o_fieldAddrP (a := w1) rfl rfl rfl tyS_56 (by decide) rfl rfl h2) ?_
 refine TD.rs rfl rfl (o_loadP (a := w1) rfl tyS_56 rfl rfl h2 (nb rfl) rfl) ?_
 refine ad 2 ?_
 obtain ⟨x3, h4, H⟩ := bind_s H
 obtain ⟨r5, h6, H⟩ := bind_s H
 refine TD.rs rfl rfl (o_callP rfl en_37 rfl rfl (.cons _ _ _ _ (.ax (f := c_str) h4 rfl) (.cons _ _ _ _ (.cl _ rfl) .nil)) (slices_Contains_p true h6)) ?_
 refine TD.qs rfl rfl (fun _ => o_assign rfl rfl) ?_
 refine TD.nil ⟨rfl, ?_⟩
 refine T.ret ?_
 cases some_i H
 exact ⟨trivial, _, (.tmp _ _ _ _ rfl .nil), ⟨rfl, _, rfl⟩⟩
theorem en_36 : En Tryd.prog 36 := .of Tryd.func36 rfl rfl
noncomputable def impl_ysession__l1 (s0 : List Int) (s1 : List T_impl_ysession) (s2 : List (Option (List ByteArray))) (s3 : T_impl_SessEvent) : Int → Option (Int ⊕ (Unit ⊕ Int)) := fun s => match s with
  | v1 => cond (decide (v1 < (s0.length : Int))) ((idx s0 v1).bind fun e4 => (impl_ysessions_do_1 e4 s1 s2 s3).bind fun r6 => cond r6 (some (.inr (.inr v1))) (some (.inl (IntKind.i64.wrap (v1 + 1))))) (some (.inr (.inl ())))
noncomputable def impl_ysession_ (s0 : List Int) (s1 : List T_impl_ysession) (s2 : List (Option (List ByteArray))) (s3 : T_impl_SessEvent) : Option Int :=
  (loopO (impl_ysession__l1 s0 s1 s2 s3) 0).bind fun q8 => (match q8 with | .inl _ => some (-1) | .inr q2 => some q2)
theorem impl_ysession__p  {s0 : List Int} {s1 : List T_impl_ysession} {s2 : List (Option (List ByteArray))} {s3 : T_impl_SessEvent} {R0 : Int} (H : impl_ysession_ s0 s1 s2 s3 = some R0) : St Tryd.prog 35 [.hd 0 s0.length 0 s0.length, .fn 36 [] [.bx 3 0]] [.arr .raw 1 (s0.map (c_px 1)), .fam (s1.map (c_T_impl_ysession 2 false)), .afm 1 (s2.map (c_ax (c_str))), .box (c_T_impl_SessEvent false s3)] (.int .i64 R0) [.arr .raw 1 (s0.map (c_px 1)), .fam (s1.map (c_T_impl_ysession 2 false)), .afm 1 (s2.map (c_ax (c_str))), .box (c_T_impl_SessEvent false s3)] := by
 refine CallT.fin (CallT.of_TN (n := 19) Tryd.func35 rfl rfl rfl rfl ?_) rfl rfl ⟨(belRaw fun _ => rfl), ⟨(belFam fun _ => rfl), ⟨trivial, ⟨(bels_iff.1 rfl), trivial⟩⟩⟩⟩
 refine au 8 ?_
 refine TL.st rfl rfl rfl (o_lenOwn (f := c_px 1) rfl rfl rfl rfl (List.length_map ..)) ?_
 refine au 3 ?_
 obtain ⟨q8, h9, H⟩ := bind_s H
 refine T.lq (fun s => match s with | v1 => [(0, .hd 0 s0.length 0 s0.length), (1, .fn 36 [] [.bx 3 0]), (7, .int .i64 (s0.length : Int)), (8, .int .i64 v1)]) (fun s => match s with | v1 => [.arr .raw 1 (s0.map (c_px 1)), .fam (s1.map (c_T_impl_ysession 2 false)), .afm 1 (s2.map (c_ax (c_str))), .box (c_T_impl_SessEvent false s3)]) (fun q ex fr σ => match q with | .inl _ => ex = .exit 0 ∧ fr = [] ∧ σ = [.arr .raw 1 (s0.map (c_px 1)), .fam (s1.map (c_T_impl_ysession 2 false)), .afm 1 (s2.map (c_ax (c_str))), .box (c_T_impl_SessEvent false s3)] | .inr q2 => ex = .ret ∧ RetN Tryd.prog [.tmp 4] (Fin [.arr .raw 1 (s0.map (c_px 1)), .fam (s1.map (c_T_impl_ysession 2 false)), .afm 1 (s2.map (c_ax (c_str))), .box (c_T_impl_SessEvent false s3)] (.int .i64 q2)) .ret fr σ) h9 ?_ ?_
 ·rintro v1 y3 H
  refine au 5 ?_
  refine T.cH H (fun H h => ?_) (fun H h => ?_)
  ·refine au 13 ?_
   obtain ⟨e4, h5, H⟩ := bind_s H
   refine TL.st rfl rfl rfl (o_ixh (f := c_px 1) rfl rfl tyS_55 rfl rfl rfl (List.length_map ..) h5 rfl) ?_
   refine TL.st rfl rfl rfl (o_loadEl rfl tyS_55 rfl rfl (List.length_map ..) (by rw [List.getElem?_map, (idx_s h5).2]; rfl) (nb rfl) rfl) ?_
   obtain ⟨r6, h7, H⟩ := bind_s H
   refine TL.st rfl rfl rfl (o_callM [1, 2, 3] rfl en_36 rfl rfl (impl_ysessions_do_1_p  h7) rfl (by decide) (.cons _ _ _ _ (ren_at rfl (ren_famO fun _ => rfl)) (.cons _ _ _ _ rfl (.cons _ _ _ _ rfl .nil))) rfl rfl (.cons _ _ _ _ (ren_famO fun _ => rfl) (.cons _ _ _ _ rfl (.cons _ _ _ _ rfl .nil))) rfl) ?_
   refine TL.nil ?_
   refine T.cH H (fun H h => ?_) (fun H h => ?_)
   ·refine au 6 ?_
    refine inB_ret (thn_ret ?_)
    exact Pk.id (thn_ret ⟨.inr v1, (some_i H).symm, rfl, ⟨trivial, _, (.tmp _ _ _ _ rfl .nil), ⟨rfl, _, rfl⟩⟩⟩)
   ·refine au 5 ?_
    exact Pk.of (thn_normal ⟨(IntKind.i64.wrap (v1 + 1)), (some_i H).symm, rfl, rfl⟩)
  ·refine T.exit ?_
   refine thn_exit ?_
   exact Pk.of (thn_exit ⟨.inl (), (some_i H).symm, rfl, rfl, rfl⟩)
 ·rcases q8 with ⟨⟩ | q2
  ·rintro _ _ _ ⟨rfl, rfl, rfl⟩
   refine inB_here ?_
   refine au 5 ?_
   cases some_i H
   exact ⟨trivial, _, (.tmp _ _ _ _ rfl .nil), ⟨rfl, _, rfl⟩⟩
  ·rintro _ fr1 σ1 ⟨rfl, hr⟩
   refine inB_ret (thn_ret ?_)
   cases some_i H
   exact hr
theorem en_35 : En Tryd.prog 35 := .of Tryd.func35 rfl rfl
noncomputable def impl_ysessions_over (a0 : Int) (a1 : Int) (s0 : T_impl_ysessions) (s2 : List T_impl_ysession) (s3 : List (Option (List ByteArray))) : Option Bool :=
  (idx s2 a0).bind fun w1 => (gdO (!(decide (a1 > (IntKind.i64.wrap (w1.last_ + s0.c_.Idle_))))) (idx s2 a0)).bind fun w3 => (gdO (!(decide (a1 > (IntKind.i64.wrap (w1.last_ + s0.c_.Idle_))))) (idx s2 a0)).bind fun w5 => (gdO (!(decide (a1 > (IntKind.i64.wrap (w1.last_ + s0.c_.Idle_))))) (idx s2 a0)).bind fun w7 => some (decide (a1 > (IntKind.i64.wrap (w1.last_ + s0.c_.Idle_))) || decide (a1 > (IntKind.i64.wrap (w7.login_ + s0.c_.Most_))))
theorem impl_ysessions_over_p (c0 : Bool) {a0 : Int} {a1 : Int} {s0 : T_impl_ysessions} {s2 : List T_impl_ysession} {s3 : List (Option (List ByteArray))} {R0 : Bool} (H : impl_ysessions_over a0 a1 s0 s2 s3 = some R0) : St Tryd.prog 17 [.bx 0 0, .px 2 0 a0 0, .int .i64 a1] [.box (k_impl_ysessions 1 4 2 c0 s0), .arr .raw 1 (s0.list_.map (c_px 2)), .fam (s2.map (c_T_impl_ysession 3 false)), .afm 1 (s3.map (c_ax (c_str))), .arr .clo 4 (s0.reply_.map (c_T_impl_SessReply false))] (.bool R0) [.box (k_impl_ysessions 1 4 2 c0 s0), .arr .raw 1 (s0.list_.map (c_px 2)), .fam (s2.map (c_T_impl_ysession 3 false)), .afm 1 (s3.map (c_ax (c_str))), .arr .clo 4 (s0.reply_.map (c_T_impl_SessReply false))] := by
 refine CallT.fin (CallT.of_TN (n := 33) Tryd.func17 rfl rfl rfl rfl ?_) rfl rfl ⟨(bels_iff.1 rfl), ⟨(belRaw fun _ => rfl), ⟨(belFam fun _ => rfl), ⟨trivial, ⟨trivial, trivial⟩⟩⟩⟩⟩
 refine au 5 ?_
 refine T.drawn rfl ?_
 refine ad 2 ?_
 obtain ⟨w1, h2, H⟩ := bind_s H
 refine TD.rs rfl rfl (o_nilCheckP rfl rfl rfl h2) ?_
 refine TD.rs rfl rfl (o_fieldAddrP (a := w1) rfl rfl rfl tyS_3 (by decide) rfl rfl h2) ?_
 refine TD.rs rfl rfl (o_loadP (a := w1) rfl tyS_3 rfl rfl h2 (nb rfl) rfl) ?_
 refine ad 10 ?_
 obtain ⟨w3, h4, H⟩ := bind_s H
 refine TD.cr rfl rfl rfl (.bool _) rfl (fun h => o_nilCheckP rfl (gv h rfl) rfl (gdO_t h4 h)) ?_
 obtain ⟨w5, h6, H⟩ := bind_s H
 refine TD.cr rfl rfl rfl (.bool _) rfl (fun h => o_fieldAddrP (a := w5) rfl rfl rfl tyS_3 (by decide) (gv h rfl) rfl (gdO_t h6 h)) ?_
 obtain ⟨w7, h8, H⟩ := bind_s H
 refine TD.cr rfl rfl rfl (.bool _) rfl (fun h => o_loadP (a := w7) rfl tyS_3 (gv h rfl) rfl (gdO_t h8 h) (nb rfl) rfl) ?_
 refine TD.cq rfl rfl rfl (.bool _) rfl (fun h _ => o_move rfl rfl) ?_
 refine TD.cq rfl rfl rfl (.bool _) rfl (fun h _ => o_nilCheck rfl (gv h rfl) rfl) ?_
 refine TD.cr rfl rfl rfl (.bool _) rfl (fun h => o_fieldAddr rfl rfl rfl tyS_24 (by decide) (gv h rfl) rfl ⟨_, rfl, Nat.le_of_ble_eq_true rfl⟩) ?_
 refine TD.cr rfl rfl rfl (.bool _) rfl (fun h => o_fieldAddr rfl rfl rfl tyS_3 (by decide) (gv h rfl) rfl ⟨_, rfl, Nat.le_of_ble_eq_true rfl⟩) ?_
 refine TD.cr rfl rfl rfl (.bool _) rfl (fun h => o_loadBx rfl tyS_3 (gv h rfl) rfl (nb rfl) rfl) ?_
 refine TD.cq rfl rfl rfl (.bool _) rfl (fun h _ => o_ari rfl (gv h rfl) (gv h rfl) rfl) ?_
 refine TD.cq rfl rfl rfl (.bool _) rfl (fun h _ => o_ari rfl (gv h rfl) (gv h rfl) rfl) ?_
 refine ad 2 ?_
 refine TD.nil ⟨rfl, ?_⟩
 refine T.ret ?_
 cases some_i H
 exact ⟨trivial, _, (.tmp _ _ _ _ rfl .nil), ⟨rfl, _, rfl⟩⟩
theorem en_17 : En Tryd.prog 17 := .of Tryd.func17 rfl rfl
noncomputable def impl_ysessions_do_l1 (a0 : T_impl_SessEvent) (s0 : T_impl_ysessions) : (List T_impl_ysession × Int) → Option ((List T_impl_ysession × Int) ⊕ List T_impl_ysession) := fun s => match s with
  | (f16, v17) => cond (decide (v17 < (s0.list_.length : Int))) ((idx s0.list_ v17).bind fun e20 => (idx f16 e20).bind fun w22 => (gdO (!w22.dead_) (idx f16 e20)).bind fun w24 => (gdO (!w22.dead_) (idx f16 e20)).bind fun w26 => (gdO (!w22.dead_) (idx f16 e20)).bind fun w28 => some (.inl ((f16.set (Int.toNat e20) ({ w22 with dead_ := (w22.dead_ || (w28.user_.toList == a0.User_.toList)) } : T_impl_ysession)), (IntKind.i64.wrap (v17 + 1))))) (some (.inr f16))
noncomputable def impl_ysessions_do_j1 (e34 : Int) (b50 : T_impl_ysessions) (f51 : List T_impl_ysession) (f52 : List (Option (List ByteArray))) : Option (T_impl_SessReply × T_impl_ysessions × List T_impl_ysession × List (Option (List ByteArray))) :=
  (impl_ysession_id e34 f51 f52).bind fun r53 => (idx f51 e34).bind fun w55 => some ((⟨0, r53, w55.user_, w55.level_⟩ : T_impl_SessReply), b50, f51, f52)
noncomputable def impl_ysessions_do (a0 : T_impl_SessEvent) (s0 : T_impl_ysessions) (s2 : List T_impl_ysession) (s3 : List (Option (List ByteArray))) : Option (T_impl_SessReply × T_impl_ysessions × List T_impl_ysession × List (Option (List ByteArray))) :=
  (gdO ((!(((decide (a0.Kind_ < 1) || decide (a0.Kind_ > 5)) || decide (a0.Time_ < 0)) || decide (a0.Time_ > 100000000000))) && ((a0.Kind_ == 1) || (a0.Kind_ == 5))) (impl_GoodName a0.User_)).bind fun r1 => (gdO ((!(((((decide (a0.Kind_ < 1) || decide (a0.Kind_ > 5)) || decide (a0.Time_ < 0)) || decide (a0.Time_ > 100000000000)) || (((a0.Kind_ == 1) || (a0.Kind_ == 5)) && (!r1))) || ((!((a0.Kind_ == 1) || (a0.Kind_ == 5))) && (!(a0.User_.toList == e0.toList))))) && (a0.Kind_ != 5)) (impl_GoodName a0.Device_)).bind fun r3 => cond ((((((((decide (a0.Kind_ < 1) || decide (a0.Kind_ > 5)) || decide (a0.Time_ < 0)) || decide (a0.Time_ > 100000000000)) || (((a0.Kind_ == 1) || (a0.Kind_ == 5)) && (!r1))) || ((!((a0.Kind_ == 1) || (a0.Kind_ == 5))) && (!(a0.User_.toList == e0.toList)))) || ((a0.Kind_ != 5) && (!r3))) || ((!(a0.Kind_ != 5)) && (!(a0.Device_.toList == e0.toList)))) || (((a0.Kind_ == 1) || (a0.Kind_ == 5)) && (!(a0.Id_.toList == e0.toList)))) (some ((⟨1, e0, e0, 0⟩ : T_impl_SessReply), s0, s2, s3)) (cond (decide (a0.Time_ < s0.now_)) (some ((⟨2, e0, e0, 0⟩ : T_impl_SessReply), s0, s2, s3)) (cond (a0.Kind_ == 1) ((impl_ysessions_next ({ s0 with now_ := a0.Time_ } : T_impl_ysessions) s2 s3).bind fun q => (match q with | (r5, o6) => (eqX o6.now_ a0.Time_).bind fun u8 => (app o6.list_ ([(s2.length : Int)] : List Int)).bind fun l10 => (impl_ysession_id (s2.length : Int) (s2 ++ [(⟨(s3.length : Int), a0.User_, a0.Device_, 1, a0.Time_, a0.Time_, false⟩ : T_impl_ysession)]) (s3 ++ [some ([r5] : List ByteArray)])).bind fun r12 => (idx (s2 ++ [(⟨(s3.length : Int), a0.User_, a0.Device_, 1, a0.Time_, a0.Time_, false⟩ : T_impl_ysession)]) (s2.length : Int)).bind fun w14 => some ((⟨0, r12, w14.user_, w14.level_⟩ : T_impl_SessReply), ({ o6 with now_ := a0.Time_, list_ := l10 } : T_impl_ysessions), (s2 ++ [(⟨(s3.length : Int), a0.User_, a0.Device_, 1, a0.Time_, a0.Time_, false⟩ : T_impl_ysession)]), (s3 ++ [some ([r5] : List ByteArray)])))) (cond (a0.Kind_ == 5) ((loopO (impl_ysessions_do_l1 a0 s0) (s2, 0)).bind fun f18 => (match f18 with | f18 => some ((⟨0, e0, a0.User_, 0⟩ : T_impl_SessReply), ({ s0 with now_ := a0.Time_ } : T_impl_ysessions), f18, s3))) ((impl_ysession_ s0.list_ s2 s3 a0).bind fun r32 => cond (decide (r32 < 0)) (some ((⟨3, e0, e0, 0⟩ : T_impl_SessReply), ({ s0 with now_ := a0.Time_ } : T_impl_ysessions), s2, s3)) ((idx s0.list_ r32).bind fun e34 => (impl_ysession_id e34 s2 s3).bind fun r36 => (gdO (!(!(r36.toList == a0.Id_.toList))) (idx s2 e34)).bind fun w38 => (gdO (!(!(r36.toList == a0.Id_.toList))) (idx s2 e34)).bind fun w40 => (gdO (!(!(r36.toList == a0.Id_.toList))) (idx s2 e34)).bind fun w42 => cond ((!(r36.toList == a0.Id_.toList)) || (!(w42.device_.toList == a0.Device_.toList))) ((idx s2 e34).bind fun w44 => some ((⟨4, e0, e0, 0⟩ : T_impl_SessReply), ({ s0 with now_ := a0.Time_ } : T_impl_ysessions), (s2.set (Int.toNat e34) ({ w44 with dead_ := true } : T_impl_ysession)), s3)) ((idx s2 e34).bind fun w46 => cond w46.dead_ (some ((⟨5, e0, e0, 0⟩ : T_impl_SessReply), ({ s0 with now_ := a0.Time_ } : T_impl_ysessions), s2, s3)) ((impl_ysessions_over e34 a0.Time_ ({ s0 with now_ := a0.Time_ } : T_impl_ysessions) s2 s3).bind fun r48 => cond r48 (some ((⟨6, e0, e0, 0⟩ : T_impl_SessReply), ({ s0 with now_ := a0.Time_ } : T_impl_ysessions), s2, s3)) (cond (a0.Kind_ == 3) ((idx (s2.set (Int.toNat e34) ({ w46 with last_ := a0.Time_ } : T_impl_ysession)) e34).bind fun w57 => (idx ((s2.set (Int.toNat e34) ({ w46 with last_ := a0.Time_ } : T_impl_ysession)).set (Int.toNat e34) ({ w57 with level_ := (if (IntKind.i64.wrap (w57.level_ + 1)) < 9 then (IntKind.i64.wrap (w57.level_ + 1)) else 9) } : T_impl_ysession)) e34).bind fun w59 => (impl_ysessions_next ({ s0 with now_ := a0.Time_ } : T_impl_ysessions) ((s2.set (Int.toNat e34) ({ w46 with last_ := a0.Time_ } : T_impl_ysession)).set (Int.toNat e34) ({ w57 with level_ := (if (IntKind.i64.wrap (w57.level_ + 1)) < 9 then (IntKind.i64.wrap (w57.level_ + 1)) else 9) } : T_impl_ysession)) s3).bind fun q => (match q with | (r61, o62) => (axg s3 w59.ids_).bind fun x64 => (app x64 ([r61] : List ByteArray)).bind fun l66 => impl_ysessions_do_j1 e34 o62 (((s2.set (Int.toNat e34) ({ w46 with last_ := a0.Time_ } : T_impl_ysession)).set (Int.toNat e34) ({ w57 with level_ := (if (IntKind.i64.wrap (w57.level_ + 1)) < 9 then (IntKind.i64.wrap (w57.level_ + 1)) else 9) } : T_impl_ysession)).set (Int.toNat e34) ({ w59 with ids_ := ((s3.set (Int.toNat w59.ids_) none).length : Int) } : T_impl_ysession)) ((s3.set (Int.toNat w59.ids_) none) ++ [some l66]))) (cond (a0.Kind_ == 4) ((idx (s2.set (Int.toNat e34) ({ w46 with last_ := a0.Time_ } : T_impl_ysession)) e34).bind fun w68 => impl_ysessions_do_j1 e34 ({ s0 with now_ := a0.Time_ } : T_impl_ysessions) ((s2.set (Int.toNat e34) ({ w46 with last_ := a0.Time_ } : T_impl_ysession)).set (Int.toNat e34) ({ w68 with dead_ := true } : T_impl_ysession)) s3) (impl_ysessions_do_j1 e34 ({ s0 with now_ := a0.Time_ } : T_impl_ysessions) (s2.set (Int.toNat e34) ({ w46 with last_ := a0.Time_ } : T_impl_ysession)) s3))))))))))
theorem impl_ysessions_do_p (c0 : Bool) {a0 : T_impl_SessEvent} {s0 : T_impl_ysessions} {s2 : List T_impl_ysession} {s3 : List (Option (List ByteArray))} {R0 : T_impl_SessReply} {U0 : T_impl_ysessions} {U2 : List T_impl_ysession} {U3 : List (Option (List ByteArray))} (H : impl_ysessions_do a0 s0 s2 s3 = some (R0, U0, U2, U3)) : St Tryd.prog 29 [.bx 0 0, .agg (c_T_impl_SessEvent false a0)] [.box (k_impl_ysessions 1 4 2 c0 s0), .arr .raw 1 (s0.list_.map (c_px 2)), .fam (s2.map (c_T_impl_ysession 3 false)), .afm 1 (s3.map (c_ax (c_str))), .arr .clo 4 (s0.reply_.map (c_T_impl_SessReply false))] (.agg (c_T_impl_SessReply false R0)) [.box (k_impl_ysessions 1 4 2 c0 (⟨U0.c_, U0.now_, U0.ids_, U0.list_, U0.reply_⟩ : T_impl_ysessions)), .arr .raw 1 (U0.list_.map (c_px 2)), .fam (U2.map (c_T_impl_ysession 3 false)), .afm 1 (U3.map (c_ax (c_str))), .arr .clo 4 (U0.reply_.map (c_T_impl_SessReply false))] := by
 refine CallT.fin (CallT.of_TN (n := 272) Tryd.func29 rfl rfl rfl rfl ?_) rfl rfl ⟨(bels_iff.1 rfl), ⟨(belRaw fun _ => rfl), ⟨(belFam fun _ => rfl), ⟨trivial, ⟨trivial, trivial⟩⟩⟩⟩⟩
 refine au 51 ?_
 refine TL.gcq rfl rfl rfl (.bool _) rfl rfl (fun h => o_move rfl (gv h rfl)) ?_
 refine TL.gcq rfl rfl rfl (.gd _ _) rfl rfl (fun h => o_fieldAddr rfl rfl rfl tyS_9 (by decide) rfl rfl ⟨_, rfl, Nat.le_of_ble_eq_true rfl⟩) ?_
 refine TL.gcq rfl rfl rfl (.gd _ _) rfl rfl (fun h => o_loadBx rfl tyS_9 (gv h rfl) rfl (nb rfl) rfl) ?_
 obtain ⟨r1, h2, H⟩ := bind_s H
 refine TL.gcq rfl rfl rfl (.gd _ _) rfl rfl (fun h => o_callP rfl en_33 rfl (evl_1 (gv h rfl)) (.cons _ _ _ _ (.cl _ rfl) .nil) (impl_GoodName_p  (gdO_t h2 h))) ?_
 refine TL.gcq rfl rfl rfl (.gd _ _) rfl rfl (fun h => o_not rfl (gv h rfl)) ?_
 refine TL.gcq rfl rfl rfl (.bool _) rfl rfl (fun h => o_and rfl (gv h rfl) rfl (fun k => Gd_t (andi h k)) rfl) ?_
 refine au 4 ?_
 refine TL.gcq rfl rfl rfl (.bool _) rfl rfl (fun h => o_move rfl (gv h rfl)) ?_
 refine TL.gcq rfl rfl rfl (.gd _ _) rfl rfl (fun h => o_fieldAddr rfl rfl rfl tyS_9 (by decide) rfl rfl ⟨_, rfl, Nat.le_of_ble_eq_true rfl⟩) ?_
 refine TL.gcq rfl rfl rfl (.gd _ _) rfl rfl (fun h => o_loadBx rfl tyS_9 (gv h rfl) rfl (nb rfl) rfl) ?_
 refine TL.gcq rfl rfl rfl (.gd _ _) rfl rfl (fun h => o_str rfl (gv h rfl) rfl rfl) ?_
 refine TL.gcq rfl rfl rfl (.bool _) rfl rfl (fun h => o_and rfl (gv h rfl) rfl (fun k => Gd_t (andi h k)) rfl) ?_
 refine au 3 ?_
 refine TL.gcq rfl rfl rfl (.bool _) rfl rfl (fun h => o_move rfl (gv h rfl)) ?_
 refine TL.gcq rfl rfl rfl (.gd _ _) rfl rfl (fun h => o_fieldAddr rfl rfl rfl tyS_9 (by decide) rfl rfl ⟨_, rfl, Nat.le_of_ble_eq_true rfl⟩) ?_
 refine TL.gcq rfl rfl rfl (.gd _ _) rfl rfl (fun h => o_loadBx rfl tyS_9 (gv h rfl) rfl (nb rfl) rfl) ?_
 obtain ⟨r3, h4, H⟩ := bind_s H
 refine TL.gcq rfl rfl rfl (.gd _ _) rfl rfl (fun h => o_callP rfl en_33 rfl (evl_1 (gv h rfl)) (.cons _ _ _ _ (.cl _ rfl) .nil) (impl_GoodName_p  (gdO_t h4 h))) ?_
 refine TL.gcq rfl rfl rfl (.gd _ _) rfl rfl (fun h => o_not rfl (gv h rfl)) ?_
 refine TL.gcq rfl rfl rfl (.bool _) rfl rfl (fun h => o_and rfl (gv h rfl) rfl (fun k => Gd_t (andi h k)) rfl) ?_
 refine au 4 ?_
 refine TL.gcq rfl rfl rfl (.bool _) rfl rfl (fun h => o_move rfl (gv h rfl)) ?_
 refine TL.gcq rfl rfl rfl (.gd _ _) rfl rfl (fun h => o_fieldAddr rfl rfl rfl tyS_9 (by decide) rfl rfl ⟨_, rfl, Nat.le_of_ble_eq_true rfl⟩) ?_
 refine TL.gcq rfl rfl rfl (.gd _ _) rfl rfl (fun h => o_loadBx rfl tyS_9 (gv h rfl) rfl (nb rfl) rfl) ?_
 refine TL.gcq rfl rfl rfl (.gd _ _) rfl rfl (fun h => o_str rfl (gv h rfl) rfl rfl) ?_
 refine TL.gcq rfl rfl rfl (.bool _) rfl rfl (fun h => o_and rfl (gv h rfl) rfl (fun k => Gd_t (andi h k)) rfl) ?_
 refine au 3 ?_
 refine TL.gcq rfl rfl rfl (.bool _) rfl rfl (fun h => o_move rfl (gv h rfl)) ?_
 refine TL.gcq rfl rfl rfl (.gd _ _) rfl rfl (fun h => o_fieldAddr rfl rfl rfl tyS_9 (by decide) rfl rfl ⟨_, rfl, Nat.le_of_ble_eq_true rfl⟩) ?_
 refine TL.gcq rfl rfl rfl (.gd _ _) rfl rfl (fun h => o_loadBx rfl tyS_9 (gv h rfl) rfl (nb rfl) rfl) ?_
 refine TL.gcq rfl rfl rfl (.gd _ _) rfl rfl (fun h => o_str rfl (gv h rfl) rfl rfl) ?_
 refine TL.gcq rfl rfl rfl (.bool _) rfl rfl (fun h => o_and rfl (gv h rfl) rfl (fun k => Gd_t (andi h k)) rfl) ?_
 refine au 8 ?_
 refine T.cH H (fun H h => ?_) (fun H h => ?_)
 ·refine au 5 ?_
  refine T.conv (Cs.eqS (σ' := [_, _, _, _, _, .box (c_T_impl_SessEvent false a0), .box [.int .i64 1, .str e0, .str e0, .int .i64 0]]) rfl) ?_
  refine T.ret ?_
  refine thn_ret ?_
  cases some_i H
  exact ⟨trivial, _, (.cell _ _ _ _ _ _ _ _ _ _ rfl rfl tyS_31 (nb rfl) rfl .nil), ⟨rfl, _, rfl⟩⟩
 ·refine au 3 ?_
  refine T.drawn rfl ?_
  refine ad 7 ?_
  refine TD.nil ⟨rfl, ?_⟩
  refine thn_normal ?_
  refine T.cH H (fun H h => ?_) (fun H h => ?_)
  ·refine au 5 ?_
   refine T.conv (Cs.eqS (σ' := [_, _, _, _, _, .box (c_T_impl_SessEvent false a0), .box [.int .i64 2, .str e0, .str e0, .int .i64 0]]) rfl) ?_
   refine T.ret ?_
   refine thn_ret ?_
   cases some_i H
   exact ⟨trivial, _, (.cell _ _ _ _ _ _ _ _ _ _ rfl rfl tyS_31 (nb rfl) rfl .nil), ⟨rfl, _, rfl⟩⟩
  ·refine au 12 ?_
   refine T.conv (Cs.eqS (σ' := [.box (k_impl_ysessions 1 4 2 c0 ({ s0 with now_ := a0.Time_ } : T_impl_ysessions)), _, _, _, _, .box (c_T_impl_SessEvent false a0), .box [.int .i64 0, .str e0, .str e0, .int .i64 0]]) rfl) ?_
   refine au 10 ?_
   refine T.cH H (fun H h => ?_) (fun H h => ?_)
   ·refine T.seq ?_
    obtain ⟨⟨r5, o6⟩, h7, H⟩ := bind_s H
    obtain ⟨u8, h9, H⟩ := bind_s H
    refine T.drawS (fr' := [(0, .bx 0 0), (1, .agg (c_T_impl_SessEvent false a0)), (3, .bx 5 0), (4, .bx 6 0), (5, .bool ((a0.Kind_ == 1) || (a0.Kind_ == 5))), (6, .bool (a0.Kind_ != 5)), (7, .bool ((((((((decide (a0.Kind_ < 1) || decide (a0.Kind_ > 5)) || decide (a0.Time_ < 0)) || decide (a0.Time_ > 100000000000)) || (((a0.Kind_ == 1) || (a0.Kind_ == 5)) && (!r1))) || ((!((a0.Kind_ == 1) || (a0.Kind_ == 5))) && (!(a0.User_.toList == e0.toList)))) || ((a0.Kind_ != 5) && (!r3))) || ((!(a0.Kind_ != 5)) && (!(a0.Device_.toList == e0.toList)))) || (((a0.Kind_ == 1) || (a0.Kind_ == 5)) && (!(a0.Id_.toList == e0.toList))))), (8, .px 2 0 (s2.length : Int) 0), (13, .bx 5 0), (14, .int .i64 a0.Kind_), (15, .bool (a0.Kind_ == 1)), (16, .bool (a0.Kind_ == 1)), (20, .bool ((a0.Kind_ == 1) || (a0.Kind_ == 5))), (21, .bx 5 0), (22, .int .i64 a0.Kind_), (23, .bool (a0.Kind_ != 5)), (24, .bx 5 0), (25, .int .i64 a0.Kind_), (26, .bool (decide (a0.Kind_ < 1))), (27, .bool (decide (a0.Kind_ < 1))), (31, .bool (decide (a0.Kind_ < 1) || decide (a0.Kind_ > 5))), (32, .bool (decide (a0.Kind_ < 1) || decide (a0.Kind_ > 5))), (36, .bool ((decide (a0.Kind_ < 1) || decide (a0.Kind_ > 5)) || decide (a0.Time_ < 0))), (37, .bool ((decide (a0.Kind_ < 1) || decide (a0.Kind_ > 5)) || decide (a0.Time_ < 0))), (41, .bool (((decide (a0.Kind_ < 1) || decide (a0.Kind_ > 5)) || decide (a0.Time_ < 0)) || decide (a0.Time_ > 100000000000))), (42, .bool (((decide (a0.Kind_ < 1) || decide (a0.Kind_ > 5)) || decide (a0.Time_ < 0)) || decide (a0.Time_ > 100000000000))), (43, .bool (((decide (a0.Kind_ < 1) || decide (a0.Kind_ > 5)) || decide (a0.Time_ < 0)) || decide (a0.Time_ > 100000000000))), (51, .bool ((((decide (a0.Kind_ < 1) || decide (a0.Kind_ > 5)) || decide (a0.Time_ < 0)) || decide (a0.Time_ > 100000000000)) || (((a0.Kind_ == 1) || (a0.Kind_ == 5)) && (!r1)))), (52, .bool ((((decide (a0.Kind_ < 1) || decide (a0.Kind_ > 5)) || decide (a0.Time_ < 0)) || decide (a0.Time_ > 100000000000)) || (((a0.Kind_ == 1) || (a0.Kind_ == 5)) && (!r1)))), (60, .bool (((((decide (a0.Kind_ < 1) || decide (a0.Kind_ > 5)) || decide (a0.Time_ < 0)) || decide (a0.Time_ > 100000000000)) || (((a0.Kind_ == 1) || (a0.Kind_ == 5)) && (!r1))) || ((!((a0.Kind_ == 1) || (a0.Kind_ == 5))) && (!(a0.User_.toList == e0.toList))))), (61, .bool (((((decide (a0.Kind_ < 1) || decide (a0.Kind_ > 5)) || decide (a0.Time_ < 0)) || decide (a0.Time_ > 100000000000)) || (((a0.Kind_ == 1) || (a0.Kind_ == 5)) && (!r1))) || ((!((a0.Kind_ == 1) || (a0.Kind_ == 5))) && (!(a0.User_.toList == e0.toList))))), (69, .bool ((((((decide (a0.Kind_ < 1) || decide (a0.Kind_ > 5)) || decide (a0.Time_ < 0)) || decide (a0.Time_ > 100000000000)) || (((a0.Kind_ == 1) || (a0.Kind_ == 5)) && (!r1))) || ((!((a0.Kind_ == 1) || (a0.Kind_ == 5))) && (!(a0.User_.toList == e0.toList)))) || ((a0.Kind_ != 5) && (!r3)))), (70, .bool ((((((decide (a0.Kind_ < 1) || decide (a0.Kind_ > 5)) || decide (a0.Time_ < 0)) || decide (a0.Time_ > 100000000000)) || (((a0.Kind_ == 1) || (a0.Kind_ == 5)) && (!r1))) || ((!((a0.Kind_ == 1) || (a0.Kind_ == 5))) && (!(a0.User_.toList == e0.toList)))) || ((a0.Kind_ != 5) && (!r3)))), (78, .bool (((((((decide (a0.Kind_ < 1) || decide (a0.Kind_ > 5)) || decide (a0.Time_ < 0)) || decide (a0.Time_ > 100000000000)) || (((a0.Kind_ == 1) || (a0.Kind_ == 5)) && (!r1))) || ((!((a0.Kind_ == 1) || (a0.Kind_ == 5))) && (!(a0.User_.toList == e0.toList)))) || ((a0.Kind_ != 5) && (!r3))) || ((!(a0.Kind_ != 5)) && (!(a0.Device_.toList == e0.toList))))), (79, .bool (((((((decide (a0.Kind_ < 1) || decide (a0.Kind_ > 5)) || decide (a0.Time_ < 0)) || decide (a0.Time_ > 100000000000)) || (((a0.Kind_ == 1) || (a0.Kind_ == 5)) && (!r1))) || ((!((a0.Kind_ == 1) || (a0.Kind_ == 5))) && (!(a0.User_.toList == e0.toList)))) || ((a0.Kind_ != 5) && (!r3))) || ((!(a0.Kind_ != 5)) && (!(a0.Device_.toList == e0.toList))))), (86, .bool ((((((((decide (a0.Kind_ < 1) || decide (a0.Kind_ > 5)) || decide (a0.Time_ < 0)) || decide (a0.Time_ > 100000000000)) || (((a0.Kind_ == 1) || (a0.Kind_ == 5)) && (!r1))) || ((!((a0.Kind_ == 1) || (a0.Kind_ == 5))) && (!(a0.User_.toList == e0.toList)))) || ((a0.Kind_ != 5) && (!r3))) || ((!(a0.Kind_ != 5)) && (!(a0.Device_.toList == e0.toList)))) || (((a0.Kind_ == 1) || (a0.Kind_ == 5)) && (!(a0.Id_.toList == e0.toList))))), (87, .bool ((((((((decide (a0.Kind_ < 1) || decide (a0.Kind_ > 5)) || decide (a0.Time_ < 0)) || decide (a0.Time_ > 100000000000)) || (((a0.Kind_ == 1) || (a0.Kind_ == 5)) && (!r1))) || ((!((a0.Kind_ == 1) || (a0.Kind_ == 5))) && (!(a0.User_.toList == e0.toList)))) || ((a0.Kind_ != 5) && (!r3))) || ((!(a0.Kind_ != 5)) && (!(a0.Device_.toList == e0.toList)))) || (((a0.Kind_ == 1) || (a0.Kind_ == 5)) && (!(a0.Id_.toList == e0.toList))))), (89, .bx 5 1), (90, .int .i64 a0.Time_), (91, .bx 0 0), (92, .bx 0 0), (93, .bx 0 3), (94, .int .i64 s0.now_), (95, .bool (decide (a0.Time_ < s0.now_))), (97, .bx 0 0), (98, .bx 5 1), (99, .int .i64 a0.Time_), (100, .bx 0 0), (101, .bx 0 3), (102, .bx 5 0), (103, .int .i64 a0.Kind_), (104, .bool (a0.Kind_ == 1)), (105, .bool (a0.Kind_ == 1)), (106, .bx 0 0), (107, .str r5), (108, .px 3 0 (s3.length : Int) 0), (109, .bx 5 2), (110, .str a0.User_), (111, .bx 5 3), (112, .str a0.Device_), (113, .bx 0 0), (114, .bx 0 0), (115, .bx 0 3), (116, .int .i64 a0.Time_), (117, .bx 0 0), (118, .bx 0 0), (119, .bx 0 3), (120, .int .i64 a0.Time_), (121, .agg [.px 3 0 (s3.length : Int) 0, .str a0.User_, .str a0.Device_, .int .i64 1, .int .i64 a0.Time_, .int .i64 a0.Time_, .bool false]), (122, .px 2 0 (s2.length : Int) 0)]) (R := [⟨some 106, .bx 0 0, .q, []⟩, ⟨some 107, .str r5, .q, []⟩, ⟨some 108, .px 3 0 (s3.length : Int) 0, .q, []⟩, ⟨some 109, .bx 5 2, .q, []⟩, ⟨some 110, .str a0.User_, .q, []⟩, ⟨some 111, .bx 5 3, .q, []⟩, ⟨some 112, .str a0.Device_, .q, []⟩, ⟨some 113, .bx 0 0, .q, []⟩, ⟨some 114, .bx 0 0, .q, []⟩, ⟨some 115, .bx 0 3, .q, []⟩, ⟨some 116, .int .i64 a0.Time_, .q, []⟩, ⟨some 117, .bx 0 0, .q, []⟩, ⟨some 118, .bx 0 0, .q, []⟩, ⟨some 119, .bx 0 3, .q, []⟩, ⟨some 120, .int .i64 a0.Time_, .q, []⟩, ⟨some 121, .agg [.px 3 0 (s3.length : Int) 0, .str a0.User_, .str a0.Device_, .int .i64 1, .int .i64 a0.Time_, .int .i64 a0.Time_, .bool false], .q, []⟩, ⟨some 122, .px 2 0 (s2.length : Int) 0, .q, []⟩, ⟨some 8, .px 2 0 (s2.length : Int) 0, .q, []⟩]) (fun b => cond (b 1) (cond (b 2) (cond (b 16) ([.box (k_impl_ysessions 1 4 2 c0 ({ o6 with now_ := a0.Time_ } : T_impl_ysessions)), .arr .raw 1 (o6.list_.map (c_px 2)), .fam ((s2 ++ [(⟨(s3.length : Int), a0.User_, a0.Device_, 1, a0.Time_, a0.Time_, false⟩ : T_impl_ysession)]).map (c_T_impl_ysession 3 false)), .afm 1 ((s3 ++ [some ([r5] : List ByteArray)]).map (c_ax (c_str))), .arr .clo 4 (o6.reply_.map (c_T_impl_SessReply false)), .box (c_T_impl_SessEvent false a0), .box [.int .i64 0, .str e0, .str e0, .int .i64 0], .dead]) ([.box (k_impl_ysessions 1 4 2 c0 ({ o6 with now_ := a0.Time_ } : T_impl_ysessions)), .arr .raw 1 (o6.list_.map (c_px 2)), .fam (s2.map (c_T_impl_ysession 3 false)), .afm 1 ((s3 ++ [some ([r5] : List ByteArray)]).map (c_ax (c_str))), .arr .clo 4 (o6.reply_.map (c_T_impl_SessReply false)), .box (c_T_impl_SessEvent false a0), .box [.int .i64 0, .str e0, .str e0, .int .i64 0], .dead])) ([.box (k_impl_ysessions 1 4 2 c0 ({ o6 with now_ := a0.Time_ } : T_impl_ysessions)), .arr .raw 1 (o6.list_.map (c_px 2)), .fam (s2.map (c_T_impl_ysession 3 false)), .afm 1 (s3.map (c_ax (c_str))), .arr .clo 4 (o6.reply_.map (c_T_impl_SessReply false)), .box (c_T_impl_SessEvent false a0), .box [.int .i64 0, .str e0, .str e0, .int .i64 0]])) ([.box (k_impl_ysessions 1 4 2 c0 ({ s0 with now_ := a0.Time_ } : T_impl_ysessions)), .arr .raw 1 (s0.list_.map (c_px 2)), .fam (s2.map (c_T_impl_ysession 3 false)), .afm 1 (s3.map (c_ax (c_str))), .arr .clo 4 (s0.reply_.map (c_T_impl_SessReply false)), .box (c_T_impl_SessEvent false a0), .box [.int .i64 0, .str e0, .str e0, .int .i64 0]])) rfl ?_ ?_ rfl rfl (FrL.get (.cons rfl (.cons rfl (.cons rfl (.cons rfl (.cons rfl (.cons rfl (.cons rfl (.cons rfl (.cons rfl (.cons rfl (.cons rfl (.cons rfl (.cons rfl (.cons rfl (.cons rfl (.cons rfl (.cons rfl (.cons rfl (.cons rfl (.cons rfl (.cons rfl (.cons rfl (.cons rfl (.cons rfl (.cons rfl (.cons rfl (.cons rfl (.cons rfl (.cons rfl (.cons rfl (.cons rfl (.cons rfl (.cons rfl (.cons rfl (.cons rfl (.cons rfl (.cons rfl (.cons rfl (.cons rfl (.cons rfl (.cons rfl (.cons rfl (.cons rfl (.cons rfl (.cons rfl (.cons rfl (.cons rfl (.cons rfl (.cons rfl (.cons rfl (.cons rfl (.cons rfl (.cons rfl (.cons rfl (.cons rfl (.cons rfl (.cons rfl (.cons rfl (.cons rfl (.cons rfl (.cons rfl (.cons rfl (.cons rfl (.cons rfl (.cons rfl (.cons rfl (.cons rfl (.cons rfl (.cons rfl (.cons rfl .nil))))))))))))))))))))))))))))))))))))))))))))))))))))))))))))))))))))))) ?_
    ·refine .cons _ _ _ _ _ ⟨rfl, [(0, .bx 0 0)], AllN.get rfl (.cons rfl .nil), fun b hd hn hk hc => ?_⟩ ?_
     ·exact ops_at (cdf (hn 1 rfl)) rfl (o_move rfl rfl) (cdf ((updb_ne rfl).trans (hn 1 rfl))) rfl
     refine .cons _ _ _ _ _ ⟨rfl, [(106, .bx 0 0)], AllN.get rfl (.cons rfl .nil), fun b hd hn hk hc => ?_⟩ ?_
     ·exact ops_at (cdf hk) rfl (Does.eqS (eqAtB (show (.box ((c_T_impl_SessConf c0 o6.c_) ++ [.int .i64 o6.now_, .int .i64 o6.ids_, .hd 1 o6.list_.length 0 o6.list_.length, .hd 4 (o6.reply_.map (c_T_impl_SessReply false)).length 0 (o6.reply_.map (c_T_impl_SessReply false)).length]) : AO) = .box ((c_T_impl_SessConf c0 o6.c_) ++ [.int .i64 a0.Time_, .int .i64 o6.ids_, .hd 1 o6.list_.length 0 o6.list_.length, .hd 4 (o6.reply_.map (c_T_impl_SessReply false)).length 0 (o6.reply_.map (c_T_impl_SessReply false)).length]) by simp only [eqX_s h9]) rfl) (o_callM [0, 1, 2, 3, 4] rfl en_34 rfl rfl (impl_ysessions_next_p c0 h7) rfl (by decide) (.cons _ _ _ _ rfl (.cons _ _ _ _ (ren_at rfl (ren_rawO fun _ => rfl)) (.cons _ _ _ _ (ren_at rfl (ren_famO fun _ => rfl)) (.cons _ _ _ _ rfl (.cons _ _ _ _ rfl .nil))))) rfl rfl (.cons _ _ _ _ rfl (.cons _ _ _ _ (ren_rawO fun _ => rfl) (.cons _ _ _ _ (ren_famO fun _ => rfl) (.cons _ _ _ _ rfl (.cons _ _ _ _ rfl .nil))))) rfl)) (((cdt updb_self).trans (cdf ((updb_ne rfl).trans (hn 2 rfl)))).trans rfl) rfl
     refine .cons _ _ _ _ _ ⟨rfl, [(107, .str r5)], AllN.get rfl (.cons rfl .nil), fun b hd hn hk hc => ?_⟩ ?_
     ·exact ops_at ((cdt (hd 1 rfl)).trans (cdf hk)) rfl (Does.newX (f := c_str) (L := s3) (xs := ([r5] : List ByteArray)) 3 (o_sliceHd (rows := ([r5] : List ByteArray).map (c_str)) .clo rfl rfl tyS_9 ⟨_, rfl, rfl⟩ (by decide) rfl rfl rfl rfl (by decide) (fun _ => rfl) (by decide) rfl (by decide)) rfl rfl rfl) ((((cdt ((updb_ne rfl).trans (hd 1 rfl))).trans (cdt updb_self)).trans (cdf ((updb_ne rfl).trans (hn 16 rfl)))).trans rfl) rfl
     refine .cons _ _ _ _ _ ⟨rfl, [(3, .bx 5 0)], AllN.get rfl (.cons rfl .nil), fun b hd hn hk hc => ?_⟩ ?_
     ·cases e1 : b 1
      ·cases e2 : b 2
       ·exact ops_at (cdf e1) rfl (o_fieldAddr rfl rfl rfl tyS_9 (by decide) rfl rfl ⟨_, rfl, Nat.le_of_ble_eq_true rfl⟩) (cdf ((updb_ne rfl).trans e1)) rfl
       ·exact absurd (hc 2 1 rfl rfl e2) (by rw [e1]; decide)
      ·cases e2 : b 2
       ·exact ops_at ((cdt e1).trans (cdf e2)) rfl (o_fieldAddr rfl rfl rfl tyS_9 (by decide) rfl rfl ⟨_, rfl, Nat.le_of_ble_eq_true rfl⟩) ((cdt ((updb_ne rfl).trans e1)).trans (cdf ((updb_ne rfl).trans e2))) rfl
       ·exact ops_at (((cdt e1).trans (cdt e2)).trans (cdf (hn 16 rfl))) rfl (o_fieldAddr rfl rfl rfl tyS_9 (by decide) rfl rfl ⟨_, rfl, Nat.le_of_ble_eq_true rfl⟩) (((cdt ((updb_ne rfl).trans e1)).trans (cdt ((updb_ne rfl).trans e2))).trans (cdf ((updb_ne rfl).trans (hn 16 rfl)))) rfl
     refine .cons _ _ _ _ _ ⟨rfl, [(109, .bx 5 2)], AllN.get rfl (.cons rfl .nil), fun b hd hn hk hc => ?_⟩ ?_
     ·cases e1 : b 1
      ·cases e2 : b 2
       ·exact ops_at (cdf e1) rfl (o_loadBx rfl tyS_9 rfl rfl (nb rfl) rfl) (cdf ((updb_ne rfl).trans e1)) rfl
       ·exact absurd (hc 2 1 rfl rfl e2) (by rw [e1]; decide)
      ·cases e2 : b 2
       ·exact ops_at ((cdt e1).trans (cdf e2)) rfl (o_loadBx rfl tyS_9 rfl rfl (nb rfl) rfl) ((cdt ((updb_ne rfl).trans e1)).trans (cdf ((updb_ne rfl).trans e2))) rfl
       ·exact ops_at (((cdt e1).trans (cdt e2)).trans (cdf (hn 16 rfl))) rfl (o_loadBx rfl tyS_9 rfl rfl (nb rfl) rfl) (((cdt ((updb_ne rfl).trans e1)).trans (cdt ((updb_ne rfl).trans e2))).trans (cdf ((updb_ne rfl).trans (hn 16 rfl)))) rfl
     refine .cons _ _ _ _ _ ⟨rfl, [(3, .bx 5 0)], AllN.get rfl (.cons rfl .nil), fun b hd hn hk hc => ?_⟩ ?_
     ·cases e1 : b 1
      ·cases e2 : b 2
       ·exact ops_at (cdf e1) rfl (o_fieldAddr rfl rfl rfl tyS_9 (by decide) rfl rfl ⟨_, rfl, Nat.le_of_ble_eq_true rfl⟩) (cdf ((updb_ne rfl).trans e1)) rfl
       ·exact absurd (hc 2 1 rfl rfl e2) (by rw [e1]; decide)
      ·cases e2 : b 2
       ·exact ops_at ((cdt e1).trans (cdf e2)) rfl (o_fieldAddr rfl rfl rfl tyS_9 (by decide) rfl rfl ⟨_, rfl, Nat.le_of_ble_eq_true rfl⟩) ((cdt ((updb_ne rfl).trans e1)).trans (cdf ((updb_ne rfl).trans e2))) rfl
       ·exact ops_at (((cdt e1).trans (cdt e2)).trans (cdf (hn 16 rfl))) rfl (o_fieldAddr rfl rfl rfl tyS_9 (by decide) rfl rfl ⟨_, rfl, Nat.le_of_ble_eq_true rfl⟩) (((cdt ((updb_ne rfl).trans e1)).trans (cdt ((updb_ne rfl).trans e2))).trans (cdf ((updb_ne rfl).trans (hn 16 rfl)))) rfl
     refine .cons _ _ _ _ _ ⟨rfl, [(111, .bx 5 3)], AllN.get rfl (.cons rfl .nil), fun b hd hn hk hc => ?_⟩ ?_
     ·cases e1 : b 1
      ·cases e2 : b 2
       ·exact ops_at (cdf e1) rfl (o_loadBx rfl tyS_9 rfl rfl (nb rfl) rfl) (cdf ((updb_ne rfl).trans e1)) rfl
       ·exact absurd (hc 2 1 rfl rfl e2) (by rw [e1]; decide)
      ·cases e2 : b 2
       ·exact ops_at ((cdt e1).trans (cdf e2)) rfl (o_loadBx rfl tyS_9 rfl rfl (nb rfl) rfl) ((cdt ((updb_ne rfl).trans e1)).trans (cdf ((updb_ne rfl).trans e2))) rfl
       ·exact ops_at (((cdt e1).trans (cdt e2)).trans (cdf (hn 16 rfl))) rfl (o_loadBx rfl tyS_9 rfl rfl (nb rfl) rfl) (((cdt ((updb_ne rfl).trans e1)).trans (cdt ((updb_ne rfl).trans e2))).trans (cdf ((updb_ne rfl).trans (hn 16 rfl)))) rfl
     refine .cons _ _ _ _ _ ⟨rfl, [(0, .bx 0 0)], AllN.get rfl (.cons rfl .nil), fun b hd hn hk hc => ?_⟩ ?_
     ·cases e1 : b 1
      ·cases e2 : b 2
       ·exact ops_at (cdf e1) rfl (o_move rfl rfl) (cdf ((updb_ne rfl).trans e1)) rfl
       ·exact absurd (hc 2 1 rfl rfl e2) (by rw [e1]; decide)
      ·cases e2 : b 2
       ·exact ops_at ((cdt e1).trans (cdf e2)) rfl (o_move rfl rfl) ((cdt ((updb_ne rfl).trans e1)).trans (cdf ((updb_ne rfl).trans e2))) rfl
       ·exact ops_at (((cdt e1).trans (cdt e2)).trans (cdf (hn 16 rfl))) rfl (o_move rfl rfl) (((cdt ((updb_ne rfl).trans e1)).trans (cdt ((updb_ne rfl).trans e2))).trans (cdf ((updb_ne rfl).trans (hn 16 rfl)))) rfl
     refine .cons _ _ _ _ _ ⟨rfl, [(113, .bx 0 0)], AllN.get rfl (.cons rfl .nil), fun b hd hn hk hc => ?_⟩ ?_
     ·cases e1 : b 1
      ·cases e2 : b 2
       ·exact ops_at (cdf e1) rfl (o_nilCheck rfl rfl rfl) (cdf ((updb_ne rfl).trans e1)) rfl
       ·exact absurd (hc 2 1 rfl rfl e2) (by rw [e1]; decide)
      ·cases e2 : b 2
       ·exact ops_at ((cdt e1).trans (cdf e2)) rfl (o_nilCheck rfl rfl rfl) ((cdt ((updb_ne rfl).trans e1)).trans (cdf ((updb_ne rfl).trans e2))) rfl
       ·exact ops_at (((cdt e1).trans (cdt e2)).trans (cdf (hn 16 rfl))) rfl (o_nilCheck rfl rfl rfl) (((cdt ((updb_ne rfl).trans e1)).trans (cdt ((updb_ne rfl).trans e2))).trans (cdf ((updb_ne rfl).trans (hn 16 rfl)))) rfl
     refine .cons _ _ _ _ _ ⟨rfl, [(114, .bx 0 0)], AllN.get rfl (.cons rfl .nil), fun b hd hn hk hc => ?_⟩ ?_
     ·cases e1 : b 1
      ·cases e2 : b 2
       ·exact ops_at (cdf e1) rfl (o_fieldAddr rfl rfl rfl tyS_3 (by decide) rfl rfl ⟨_, rfl, Nat.le_of_ble_eq_true rfl⟩) (cdf ((updb_ne rfl).trans e1)) rfl
       ·exact absurd (hc 2 1 rfl rfl e2) (by rw [e1]; decide)
      ·cases e2 : b 2
       ·exact ops_at ((cdt e1).trans (cdf e2)) rfl (o_fieldAddr rfl rfl rfl tyS_3 (by decide) rfl rfl ⟨_, rfl, Nat.le_of_ble_eq_true rfl⟩) ((cdt ((updb_ne rfl).trans e1)).trans (cdf ((updb_ne rfl).trans e2))) rfl
       ·exact ops_at (((cdt e1).trans (cdt e2)).trans (cdf (hn 16 rfl))) rfl (o_fieldAddr rfl rfl rfl tyS_3 (by decide) rfl rfl ⟨_, rfl, Nat.le_of_ble_eq_true rfl⟩) (((cdt ((updb_ne rfl).trans e1)).trans (cdt ((updb_ne rfl).trans e2))).trans (cdf ((updb_ne rfl).trans (hn 16 rfl)))) rfl
     refine .cons _ _ _ _ _ ⟨rfl, [(115, .bx 0 3)], AllN.get rfl (.cons rfl .nil), fun b hd hn hk hc => ?_⟩ ?_
     ·cases e1 : b 1
      ·cases e2 : b 2
       ·exact ops_at (cdf e1) rfl (o_loadBx rfl tyS_3 rfl rfl (nb rfl) rfl) (cdf ((updb_ne rfl).trans e1)) rfl
       ·exact absurd (hc 2 1 rfl rfl e2) (by rw [e1]; decide)
      ·cases e2 : b 2
       ·exact ops_at ((cdt e1).trans (cdf e2)) rfl (o_loadBx rfl tyS_3 rfl rfl (nb rfl) rfl) ((cdt ((updb_ne rfl).trans e1)).trans (cdf ((updb_ne rfl).trans e2))) rfl
       ·exact ops_at (((cdt e1).trans (cdt e2)).trans (cdf (hn 16 rfl))) rfl (o_loadBx rfl tyS_3 rfl rfl (nb rfl) rfl) (((cdt ((updb_ne rfl).trans e1)).trans (cdt ((updb_ne rfl).trans e2))).trans (cdf ((updb_ne rfl).trans (hn 16 rfl)))) rfl
     refine .cons _ _ _ _ _ ⟨rfl, [(0, .bx 0 0)], AllN.get rfl (.cons rfl .nil), fun b hd hn hk hc => ?_⟩ ?_
     ·cases e1 : b 1
      ·cases e2 : b 2
       ·exact ops_at (cdf e1) rfl (o_move rfl rfl) (cdf ((updb_ne rfl).trans e1)) rfl
       ·exact absurd (hc 2 1 rfl rfl e2) (by rw [e1]; decide)
      ·cases e2 : b 2
       ·exact ops_at ((cdt e1).trans (cdf e2)) rfl (o_move rfl rfl) ((cdt ((updb_ne rfl).trans e1)).trans (cdf ((updb_ne rfl).trans e2))) rfl
       ·exact ops_at (((cdt e1).trans (cdt e2)).trans (cdf (hn 16 rfl))) rfl (o_move rfl rfl) (((cdt ((updb_ne rfl).trans e1)).trans (cdt ((updb_ne rfl).trans e2))).trans (cdf ((updb_ne rfl).trans (hn 16 rfl)))) rfl
     refine .cons _ _ _ _ _ ⟨rfl, [(117, .bx 0 0)], AllN.get rfl (.cons rfl .nil), fun b hd hn hk hc => ?_⟩ ?_
     ·cases e1 : b 1
      ·cases e2 : b 2
       ·exact ops_at (cdf e1) rfl (o_nilCheck rfl rfl rfl) (cdf ((updb_ne rfl).trans e1)) rfl
       ·exact absurd (hc 2 1 rfl rfl e2) (by rw [e1]; decide)
      ·cases e2 : b 2
       ·exact ops_at ((cdt e1).trans (cdf e2)) rfl (o_nilCheck rfl rfl rfl) ((cdt ((updb_ne rfl).trans e1)).trans (cdf ((updb_ne rfl).trans e2))) rfl
       ·exact ops_at (((cdt e1).trans (cdt e2)).trans (cdf (hn 16 rfl))) rfl (o_nilCheck rfl rfl rfl) (((cdt ((updb_ne rfl).trans e1)).trans (cdt ((updb_ne rfl).trans e2))).trans (cdf ((updb_ne rfl).trans (hn 16 rfl)))) rfl
     refine .cons _ _ _ _ _ ⟨rfl, [(118, .bx 0 0)], AllN.get rfl (.cons rfl .nil), fun b hd hn hk hc => ?_⟩ ?_
     ·cases e1 : b 1
      ·cases e2 : b 2
       ·exact ops_at (cdf e1) rfl (o_fieldAddr rfl rfl rfl tyS_3 (by decide) rfl rfl ⟨_, rfl, Nat.le_of_ble_eq_true rfl⟩) (cdf ((updb_ne rfl).trans e1)) rfl
       ·exact absurd (hc 2 1 rfl rfl e2) (by rw [e1]; decide)
      ·cases e2 : b 2
       ·exact ops_at ((cdt e1).trans (cdf e2)) rfl (o_fieldAddr rfl rfl rfl tyS_3 (by decide) rfl rfl ⟨_, rfl, Nat.le_of_ble_eq_true rfl⟩) ((cdt ((updb_ne rfl).trans e1)).trans (cdf ((updb_ne rfl).trans e2))) rfl
       ·exact ops_at (((cdt e1).trans (cdt e2)).trans (cdf (hn 16 rfl))) rfl (o_fieldAddr rfl rfl rfl tyS_3 (by decide) rfl rfl ⟨_, rfl, Nat.le_of_ble_eq_true rfl⟩) (((cdt ((updb_ne rfl).trans e1)).trans (cdt ((updb_ne rfl).trans e2))).trans (cdf ((updb_ne rfl).trans (hn 16 rfl)))) rfl
     refine .cons _ _ _ _ _ ⟨rfl, [(119, .bx 0 3)], AllN.get rfl (.cons rfl .nil), fun b hd hn hk hc => ?_⟩ ?_
     ·cases e1 : b 1
      ·cases e2 : b 2
       ·exact ops_at (cdf e1) rfl (o_loadBx rfl tyS_3 rfl rfl (nb rfl) rfl) (cdf ((updb_ne rfl).trans e1)) rfl
       ·exact absurd (hc 2 1 rfl rfl e2) (by rw [e1]; decide)
      ·cases e2 : b 2
       ·exact ops_at ((cdt e1).trans (cdf e2)) rfl (o_loadBx rfl tyS_3 rfl rfl (nb rfl) rfl) ((cdt ((updb_ne rfl).trans e1)).trans (cdf ((updb_ne rfl).trans e2))) rfl
       ·exact ops_at (((cdt e1).trans (cdt e2)).trans (cdf (hn 16 rfl))) rfl (o_loadBx rfl tyS_3 rfl rfl (nb rfl) rfl) (((cdt ((updb_ne rfl).trans e1)).trans (cdt ((updb_ne rfl).trans e2))).trans (cdf ((updb_ne rfl).trans (hn 16 rfl)))) rfl
     refine .cons _ _ _ _ _ ⟨rfl, [(108, .px 3 0 (s3.length : Int) 0), (110, .str a0.User_), (112, .str a0.Device_), (116, .int .i64 a0.Time_), (120, .int .i64 a0.Time_)], AllN.get rfl (.cons rfl (.cons rfl (.cons rfl (.cons rfl (.cons rfl .nil))))), fun b hd hn hk hc => ?_⟩ ?_
     ·exact ops_at (((cdt (hd 1 rfl)).trans (cdt (hd 2 rfl))).trans (cdf (hn 16 rfl))) rfl (o_build rfl ⟨_, fun _ => rfl, rfl⟩ rfl rfl rfl) (((cdt ((updb_ne rfl).trans (hd 1 rfl))).trans (cdt ((updb_ne rfl).trans (hd 2 rfl)))).trans (cdf ((updb_ne rfl).trans (hn 16 rfl)))) rfl
     refine .cons _ _ _ _ _ ⟨rfl, [(121, .agg [.px 3 0 (s3.length : Int) 0, .str a0.User_, .str a0.Device_, .int .i64 1, .int .i64 a0.Time_, .int .i64 a0.Time_, .bool false])], AllN.get rfl (.cons rfl .nil), fun b hd hn hk hc => ?_⟩ ?_
     ·exact ops_at (((cdt (hd 1 rfl)).trans (cdt (hd 2 rfl))).trans (cdf hk)) rfl (o_boxP (p := 2) (f := c_T_impl_ysession 3 false) (xs := s2) (⟨(s3.length : Int), a0.User_, a0.Device_, 1, a0.Time_, a0.Time_, false⟩ : T_impl_ysession) rfl rfl rfl (.same _ _ _ (.same _ _ _ (.same _ _ _ (.same _ _ _ (.same _ _ _ (.same _ _ _ (.same _ _ _ .nil))))))) rfl) ((((cdt ((updb_ne rfl).trans (hd 1 rfl))).trans (cdt ((updb_ne rfl).trans (hd 2 rfl)))).trans (cdt updb_self)).trans rfl) rfl
     refine .cons _ _ _ _ _ ⟨rfl, [(122, .px 2 0 (s2.length : Int) 0)], AllN.get rfl (.cons rfl .nil), fun b hd hn hk hc => ?_⟩ ?_
     ·exact ops_at (((cdt (hd 1 rfl)).trans (cdt (hd 2 rfl))).trans (cdt (hd 16 rfl))) rfl (o_assign rfl rfl) (((cdt ((updb_ne rfl).trans (hd 1 rfl))).trans (cdt ((updb_ne rfl).trans (hd 2 rfl)))).trans (cdt ((updb_ne rfl).trans (hd 16 rfl)))) rfl
     exact .nil _
    ·intro b b' h; simp only [h 1 (by decide), h 2 (by decide), h 16 (by decide)]
    refine T.seq ?_
    refine T.conv (Cs.eqS (σ' := [.box (k_impl_ysessions 1 4 2 c0 ({ o6 with now_ := a0.Time_ } : T_impl_ysessions)), .arr .raw 1 (o6.list_.map (c_px 2)), .fam ((s2 ++ [(⟨(s3.length : Int), a0.User_, a0.Device_, 1, a0.Time_, a0.Time_, false⟩ : T_impl_ysession)]).map (c_T_impl_ysession 3 false)), .afm 1 ((s3 ++ [some ([r5] : List ByteArray)]).map (c_ax (c_str))), .arr .clo 4 (o6.reply_.map (c_T_impl_SessReply false)), _, _, .dead]) rfl) ?_
    refine au 7 ?_
    refine TL.st rfl rfl rfl (o_sliceHd .raw rfl rfl tyS_55 ⟨_, rfl, rfl⟩ (by decide) rfl rfl rfl rfl rfl (fun h => absurd rfl h) (by decide) rfl (by decide)) ?_
    obtain ⟨l10, h11, H⟩ := bind_s H
    refine TL.st rfl rfl rfl (o_apR rfl rfl tyE_55 rfl rfl rfl rfl h11) ?_
    refine au 2 ?_
    refine TL.sn rfl rfl (o_storeBx rfl tyS_48 rfl rfl rfl rfl (nb rfl) (sure_hd rfl (List.length_map ..) rfl)) ?_
    refine au 2 ?_
    refine T.conv (Cs.eqS (σ' := [.box (k_impl_ysessions 1 4 2 c0 ({ o6 with now_ := a0.Time_, list_ := l10 } : T_impl_ysessions)), .arr .raw 1 (l10.map (c_px 2)), _, _, _, _, _, _, .arr .raw 1 (([(s2.length : Int)] : List Int).map (c_px 2))]) rfl) ?_
    refine T.drawn rfl ?_
    refine TD.qs rfl rfl (fun _ => o_move rfl rfl) ?_
    obtain ⟨r12, h13, H⟩ := bind_s H
    refine TD.rs rfl rfl (o_callM [2, 3] rfl en_18 rfl rfl (impl_ysession_id_p  h13) rfl (by decide) (.cons _ _ _ _ (ren_at rfl (ren_famO fun _ => rfl)) (.cons _ _ _ _ rfl .nil)) rfl rfl (.cons _ _ _ _ (ren_famO fun _ => rfl) (.cons _ _ _ _ rfl .nil)) rfl) ?_
    refine TD.qs rfl rfl (fun _ => o_move rfl rfl) ?_
    obtain ⟨w14, h15, H⟩ := bind_s H
    refine TD.rs rfl rfl (o_nilCheckP rfl rfl rfl h15) ?_
    refine TD.rs rfl rfl (o_fieldAddrP (a := w14) rfl rfl rfl tyS_9 (by decide) rfl rfl h15) ?_
    refine TD.rs rfl rfl (o_loadP (a := w14) rfl tyS_9 rfl rfl h15 (nb rfl) rfl) ?_
    refine TD.qs rfl rfl (fun _ => o_move rfl rfl) ?_
    refine TD.rs rfl rfl (o_nilCheckP rfl rfl rfl h15) ?_
    refine TD.rs rfl rfl (o_fieldAddrP (a := w14) rfl rfl rfl tyS_3 (by decide) rfl rfl h15) ?_
    refine TD.rs rfl rfl (o_loadP (a := w14) rfl tyS_3 rfl rfl h15 (nb rfl) rfl) ?_
    refine TD.qs rfl rfl (fun _ => o_build rfl ⟨_, fun _ => rfl, rfl⟩ rfl rfl rfl) ?_
    refine TD.an rfl rfl (o_storeBx rfl tyS_31 rfl rfl rfl rfl (nb rfl) rfl) ?_
    refine TD.nil ⟨rfl, ?_⟩
    refine T.ret ?_
    refine inB_ret (thn_ret ?_)
    cases some_i H
    exact ⟨trivial, _, (.cell _ _ _ _ _ _ _ _ _ _ rfl rfl tyS_31 (nb rfl) rfl .nil), ⟨rfl, _, rfl⟩⟩
   ·refine au 5 ?_
    refine T.cH H (fun H h => ?_) (fun H h => ?_)
    ·refine au 7 ?_
     refine TL.st rfl rfl rfl (o_lenOwn (f := c_px 2) rfl rfl rfl rfl (List.length_map ..)) ?_
     refine au 3 ?_
     obtain ⟨f18, h31, H⟩ := bind_s H
     refine T.lq (fun s => match s with | (f16, v17) => [(3, .bx 5 0), (4, .bx 6 0), (149, .hd 1 s0.list_.length 0 s0.list_.length), (150, .int .i64 (s0.list_.length : Int)), (151, .int .i64 v17)]) (fun s => match s with | (f16, v17) => [.box (k_impl_ysessions 1 4 2 c0 ({ s0 with now_ := a0.Time_ } : T_impl_ysessions)), .arr .raw 1 (s0.list_.map (c_px 2)), .fam (f16.map (c_T_impl_ysession 3 false)), .afm 1 (s3.map (c_ax (c_str))), .arr .clo 4 (s0.reply_.map (c_T_impl_SessReply false)), .box (c_T_impl_SessEvent false a0), .box [.int .i64 0, .str e0, .str e0, .int .i64 0]]) (fun q ex fr σ => match q with | f18 => ex = .exit 1 ∧ fr = [(3, .bx 5 0), (4, .bx 6 0)] ∧ σ = [.box (k_impl_ysessions 1 4 2 c0 ({ s0 with now_ := a0.Time_ } : T_impl_ysessions)), .arr .raw 1 (s0.list_.map (c_px 2)), .fam (f18.map (c_T_impl_ysession 3 false)), .afm 1 (s3.map (c_ax (c_str))), .arr .clo 4 (s0.reply_.map (c_T_impl_SessReply false)), .box (c_T_impl_SessEvent false a0), .box [.int .i64 0, .str e0, .str e0, .int .i64 0]]) h31 ?_ ?_
     ·rintro ⟨f16, v17⟩ y19 H
      refine au 5 ?_
      refine T.cH H (fun H h => ?_) (fun H h => ?_)
      ·refine au 5 ?_
       obtain ⟨e20, h21, H⟩ := bind_s H
       refine TL.st rfl rfl rfl (o_ixh (f := c_px 2) rfl rfl tyS_55 rfl rfl rfl (List.length_map ..) h21 rfl) ?_
       refine TL.st rfl rfl rfl (o_loadEl rfl tyS_55 rfl rfl (List.length_map ..) (by rw [List.getElem?_map, (idx_s h21).2]; rfl) (nb rfl) rfl) ?_
       refine au 2 ?_
       refine T.drawn rfl ?_
       refine ad 2 ?_
       obtain ⟨w22, h23, H⟩ := bind_s H
       refine TD.rs rfl rfl (o_nilCheckP rfl rfl rfl h23) ?_
       refine TD.rs rfl rfl (o_fieldAddrP (a := w22) rfl rfl rfl tyS_4 (by decide) rfl rfl h23) ?_
       refine TD.rs rfl rfl (o_loadP (a := w22) rfl tyS_4 rfl rfl h23 (nb rfl) rfl) ?_
       refine ad 2 ?_
       obtain ⟨w24, h25, H⟩ := bind_s H
       refine TD.cr rfl rfl rfl (.bool _) rfl (fun h => o_nilCheckP rfl (gv h rfl) rfl (gdO_t h25 h)) ?_
       obtain ⟨w26, h27, H⟩ := bind_s H
       refine TD.cr rfl rfl rfl (.bool _) rfl (fun h => o_fieldAddrP (a := w26) rfl rfl rfl tyS_9 (by decide) (gv h rfl) rfl (gdO_t h27 h)) ?_
       obtain ⟨w28, h29, H⟩ := bind_s H
       refine TD.cr rfl rfl rfl (.bool _) rfl (fun h => o_loadP (a := w28) rfl tyS_9 (gv h rfl) rfl (gdO_t h29 h) (nb rfl) rfl) ?_
       refine ad 2 ?_
       refine TD.cq rfl rfl rfl (.bool _) rfl (fun h _ => o_str rfl (gv h rfl) (gv h rfl) rfl) ?_
       refine TD.qs rfl rfl (fun _ => o_or rfl rfl rfl rfl (fun k => Gd_t k)) ?_
       refine TD.rs rfl rfl (o_nilCheckP rfl rfl rfl h23) ?_
       refine TD.rs rfl rfl (o_fieldAddrP (a := w22) rfl rfl rfl tyS_4 (by decide) rfl rfl h23) ?_
       refine TD.an rfl rfl (o_storeP (a := w22) (a' := ({ w22 with dead_ := (w22.dead_ || (w28.user_.toList == a0.User_.toList)) } : T_impl_ysession)) rfl tyS_4 rfl rfl rfl h23 rfl (nb rfl) rfl rfl) ?_
       refine TD.nil ⟨rfl, ?_⟩
       refine au 4 ?_
       exact Pk.of (thn_normal ⟨((f16.set (Int.toNat e20) ({ w22 with dead_ := (w22.dead_ || (w28.user_.toList == a0.User_.toList)) } : T_impl_ysession)), (IntKind.i64.wrap (v17 + 1))), (some_i H).symm, rfl, rfl⟩)
      ·refine T.exit ?_
       refine thn_exit ?_
       exact Pk.of (thn_exit ⟨f16, (some_i H).symm, rfl, rfl, rfl⟩)
     ·rintro _ _ _ ⟨rfl, rfl, rfl⟩
      refine inB_here ?_
      refine au 8 ?_
      refine inB_ret (thn_ret ?_)
      cases some_i H
      exact ⟨trivial, _, (.cell _ _ _ _ _ _ _ _ _ _ rfl rfl tyS_31 (nb rfl) rfl .nil), ⟨rfl, _, rfl⟩⟩
    ·refine au 7 ?_
     refine TL.st rfl rfl rfl (o_makeFunc rfl rfl rfl) ?_
     obtain ⟨r32, h33, H⟩ := bind_s H
     refine TL.st rfl rfl rfl (o_callM [1, 2, 3, 5] rfl en_35 rfl rfl (impl_ysession__p  h33) rfl (by decide) (.cons _ _ _ _ (ren_at rfl (ren_rawO fun _ => rfl)) (.cons _ _ _ _ (ren_at rfl (ren_famO fun _ => rfl)) (.cons _ _ _ _ rfl (.cons _ _ _ _ rfl .nil)))) rfl rfl (.cons _ _ _ _ (ren_rawO fun _ => rfl) (.cons _ _ _ _ (ren_famO fun _ => rfl) (.cons _ _ _ _ rfl (.cons _ _ _ _ rfl .nil)))) rfl) ?_
     refine au 8 ?_
     refine T.cH H (fun H h => ?_) (fun H h => ?_)
     ·refine au 6 ?_
      refine thn_ret ?_
      cases some_i H
      exact ⟨trivial, _, (.cell _ _ _ _ _ _ _ _ _ _ rfl rfl tyS_31 (nb rfl) rfl .nil), ⟨rfl, _, rfl⟩⟩
     ·refine au 8 ?_
      obtain ⟨e34, h35, H⟩ := bind_s H
      refine TL.st rfl rfl rfl (o_ixh (f := c_px 2) rfl rfl tyS_55 rfl rfl rfl (List.length_map ..) h35 rfl) ?_
      refine TL.st rfl rfl rfl (o_loadEl rfl tyS_55 rfl rfl (List.length_map ..) (by rw [List.getElem?_map, (idx_s h35).2]; rfl) (nb rfl) rfl) ?_
      refine au 5 ?_
      refine T.drawn rfl ?_
      refine TD.qs rfl rfl (fun _ => o_move rfl rfl) ?_
      obtain ⟨r36, h37, H⟩ := bind_s H
      refine TD.rs rfl rfl (o_callM [2, 3] rfl en_18 rfl rfl (impl_ysession_id_p  h37) rfl (by decide) (.cons _ _ _ _ (ren_at rfl (ren_famO fun _ => rfl)) (.cons _ _ _ _ rfl .nil)) rfl rfl (.cons _ _ _ _ (ren_famO fun _ => rfl) (.cons _ _ _ _ rfl .nil)) rfl) ?_
      refine ad 2 ?_
      refine TD.qs rfl rfl (fun _ => o_str rfl rfl rfl rfl) ?_
      refine ad 2 ?_
      obtain ⟨w38, h39, H⟩ := bind_s H
      refine TD.cr rfl rfl rfl (.bool _) rfl (fun h => o_nilCheckP rfl (gv h rfl) rfl (gdO_t h39 h)) ?_
      obtain ⟨w40, h41, H⟩ := bind_s H
      refine TD.cr rfl rfl rfl (.bool _) rfl (fun h => o_fieldAddrP (a := w40) rfl rfl rfl tyS_9 (by decide) (gv h rfl) rfl (gdO_t h41 h)) ?_
      obtain ⟨w42, h43, H⟩ := bind_s H
      refine TD.cr rfl rfl rfl (.bool _) rfl (fun h => o_loadP (a := w42) rfl tyS_9 (gv h rfl) rfl (gdO_t h43 h) (nb rfl) rfl) ?_
      refine ad 2 ?_
      refine TD.cq rfl rfl rfl (.bool _) rfl (fun h _ => o_str rfl (gv h rfl) (gv h rfl) rfl) ?_
      refine ad 2 ?_
      refine TD.nil ⟨rfl, ?_⟩
      refine thn_normal ?_
      refine T.cH H (fun H h => ?_) (fun H h => ?_)
      ·refine au 3 ?_
       obtain ⟨w44, h45, H⟩ := bind_s H
       refine TL.st rfl rfl rfl (o_nilCheckP rfl rfl rfl h45) ?_
       refine TL.st rfl rfl rfl (o_fieldAddrP (a := w44) rfl rfl rfl tyS_4 (by decide) rfl rfl h45) ?_
       refine TL.sn rfl rfl (o_storeP (a := w44) (a' := ({ w44 with dead_ := true } : T_impl_ysession)) rfl tyS_4 rfl rfl rfl h45 rfl (nb rfl) rfl rfl) ?_
       refine au 6 ?_
       refine T.conv (Cs.eqS (σ' := [_, _, .fam ((s2.set (Int.toNat e34) ({ w44 with dead_ := true } : T_impl_ysession)).map (c_T_impl_ysession 3 false)), _, _, _, .box [.int .i64 4, .str e0, .str e0, .int .i64 0]]) rfl) ?_
       refine T.ret ?_
       refine inB_ret (thn_ret ?_)
       cases some_i H
       exact ⟨trivial, _, (.cell _ _ _ _ _ _ _ _ _ _ rfl rfl tyS_31 (nb rfl) rfl .nil), ⟨rfl, _, rfl⟩⟩
      ·refine au 3 ?_
       obtain ⟨w46, h47, H⟩ := bind_s H
       refine TL.st rfl rfl rfl (o_nilCheckP rfl rfl rfl h47) ?_
       refine TL.st rfl rfl rfl (o_fieldAddrP (a := w46) rfl rfl rfl tyS_4 (by decide) rfl rfl h47) ?_
       refine TL.st rfl rfl rfl (o_loadP (a := w46) rfl tyS_4 rfl rfl h47 (nb rfl) rfl) ?_
       refine au 2 ?_
       refine T.cH H (fun H h => ?_) (fun H h => ?_)
       ·refine au 6 ?_
        refine inB_ret (thn_ret ?_)
        cases some_i H
        exact ⟨trivial, _, (.cell _ _ _ _ _ _ _ _ _ _ rfl rfl tyS_31 (nb rfl) rfl .nil), ⟨rfl, _, rfl⟩⟩
       ·refine au 8 ?_
        obtain ⟨r48, h49, H⟩ := bind_s H
        refine TL.st rfl rfl rfl (o_callM [0, 1, 2, 3, 4] rfl en_17 rfl rfl (impl_ysessions_over_p c0 h49) rfl (by decide) (.cons _ _ _ _ rfl (.cons _ _ _ _ (ren_at rfl (ren_rawO fun _ => rfl)) (.cons _ _ _ _ (ren_at rfl (ren_famO fun _ => rfl)) (.cons _ _ _ _ rfl (.cons _ _ _ _ rfl .nil))))) rfl rfl (.cons _ _ _ _ rfl (.cons _ _ _ _ (ren_rawO fun _ => rfl) (.cons _ _ _ _ (ren_famO fun _ => rfl) (.cons _ _ _ _ rfl (.cons _ _ _ _ rfl .nil))))) rfl) ?_
        refine au 2 ?_
        refine T.cH H (fun H h => ?_) (fun H h => ?_)
        ·refine au 5 ?_
         refine T.conv (Cs.eqS (σ' := [_, _, _, _, _, _, .box [.int .i64 6, .str e0, .str e0, .int .i64 0]]) rfl) ?_
         refine T.ret ?_
         refine inB_ret (thn_ret ?_)
         cases some_i H
         exact ⟨trivial, _, (.cell _ _ _ _ _ _ _ _ _ _ rfl rfl tyS_31 (nb rfl) rfl .nil), ⟨rfl, _, rfl⟩⟩
        ·refine au 8 ?_
         refine TL.st rfl rfl rfl (o_nilCheckP rfl rfl rfl h47) ?_
         refine TL.st rfl rfl rfl (o_fieldAddrP (a := w46) rfl rfl rfl tyS_3 (by decide) rfl rfl h47) ?_
         refine TL.sn rfl rfl (o_storeP (a := w46) (a' := ({ w46 with last_ := a0.Time_ } : T_impl_ysession)) rfl tyS_3 rfl rfl rfl h47 rfl (nb rfl) rfl rfl) ?_
         refine TL.nil ?_
         refine T.cut (fun fr' σ' => ∃ (b50 : T_impl_ysessions) (f51 : List T_impl_ysession) (f52 : List (Option (List ByteArray))), fr' = [(4, .bx 6 0), (12, .px 2 0 e34 0)] ∧ σ' = [.box (k_impl_ysessions 1 4 2 c0 b50), .arr .raw 1 (b50.list_.map (c_px 2)), .fam (f51.map (c_T_impl_ysession 3 false)), .afm 1 (f52.map (c_ax (c_str))), .arr .clo 4 (b50.reply_.map (c_T_impl_SessReply false)), .box (c_T_impl_SessEvent false a0), .box [.int .i64 0, .str e0, .str e0, .int .i64 0]] ∧ impl_ysessions_do_j1 e34 b50 f51 f52 = some (R0, U0, U2, U3)) (T.pk ?_) ?_
         ·skip
          refine T.seq ?_
          refine T.conv (Cs.eqS (σ' := [_, _, .fam ((s2.set (Int.toNat e34) ({ w46 with last_ := a0.Time_ } : T_impl_ysession)).map (c_T_impl_ysession 3 false)), _, _, _, _]) rfl) ?_
          refine au 10 ?_
          refine T.cH H (fun H h => ?_) (fun H h => ?_)
          ·refine au 4 ?_
           obtain ⟨w57, h58, H⟩ := bind_s H
           refine TL.st rfl rfl rfl (o_nilCheckP rfl rfl rfl h58) ?_
           refine TL.st rfl rfl rfl (o_fieldAddrP (a := w57) rfl rfl rfl tyS_3 (by decide) rfl rfl h58) ?_
           refine TL.st rfl rfl rfl (o_loadP (a := w57) rfl tyS_3 rfl rfl h58 (nb rfl) rfl) ?_
           refine TL.st rfl rfl rfl (o_ari rfl rfl rfl rfl) ?_
           refine TL.st rfl rfl rfl (o_min2 rfl rfl rfl) ?_
           refine TL.st rfl rfl rfl (o_nilCheckP rfl rfl rfl h58) ?_
           refine TL.st rfl rfl rfl (o_fieldAddrP (a := w57) rfl rfl rfl tyS_3 (by decide) rfl rfl h58) ?_
           refine TL.sn rfl rfl (o_storeP (a := w57) (a' := ({ w57 with level_ := (if (IntKind.i64.wrap (w57.level_ + 1)) < 9 then (IntKind.i64.wrap (w57.level_ + 1)) else 9) } : T_impl_ysession)) rfl tyS_3 rfl rfl rfl h58 rfl (nb rfl) rfl rfl) ?_
           refine TL.nil ?_
           refine thn_normal ?_
           obtain ⟨w59, h60, H⟩ := bind_s H
           obtain ⟨⟨r61, o62⟩, h63, H⟩ := bind_s H
           obtain ⟨x64, h65, H⟩ := bind_s H
           obtain ⟨l66, h67, H⟩ := bind_s H
           refine T.drawS (fr' := [(0, .bx 0 0), (1, .agg (c_T_impl_SessEvent false a0)), (3, .bx 5 0), (4, .bx 6 0), (5, .bool ((a0.Kind_ == 1) || (a0.Kind_ == 5))), (6, .bool (a0.Kind_ != 5)), (7, .bool ((((((((decide (a0.Kind_ < 1) || decide (a0.Kind_ > 5)) || decide (a0.Time_ < 0)) || decide (a0.Time_ > 100000000000)) || (((a0.Kind_ == 1) || (a0.Kind_ == 5)) && (!r1))) || ((!((a0.Kind_ == 1) || (a0.Kind_ == 5))) && (!(a0.User_.toList == e0.toList)))) || ((a0.Kind_ != 5) && (!r3))) || ((!(a0.Kind_ != 5)) && (!(a0.Device_.toList == e0.toList)))) || (((a0.Kind_ == 1) || (a0.Kind_ == 5)) && (!(a0.Id_.toList == e0.toList))))), (11, .int .i64 r32), (12, .px 2 0 e34 0), (13, .bx 5 0), (14, .int .i64 a0.Kind_), (15, .bool (a0.Kind_ == 1)), (16, .bool (a0.Kind_ == 1)), (20, .bool ((a0.Kind_ == 1) || (a0.Kind_ == 5))), (21, .bx 5 0), (22, .int .i64 a0.Kind_), (23, .bool (a0.Kind_ != 5)), (24, .bx 5 0), (25, .int .i64 a0.Kind_), (26, .bool (decide (a0.Kind_ < 1))), (27, .bool (decide (a0.Kind_ < 1))), (31, .bool (decide (a0.Kind_ < 1) || decide (a0.Kind_ > 5))), (32, .bool (decide (a0.Kind_ < 1) || decide (a0.Kind_ > 5))), (36, .bool ((decide (a0.Kind_ < 1) || decide (a0.Kind_ > 5)) || decide (a0.Time_ < 0))), (37, .bool ((decide (a0.Kind_ < 1) || decide (a0.Kind_ > 5)) || decide (a0.Time_ < 0))), (41, .bool (((decide (a0.Kind_ < 1) || decide (a0.Kind_ > 5)) || decide (a0.Time_ < 0)) || decide (a0.Time_ > 100000000000))), (42, .bool (((decide (a0.Kind_ < 1) || decide (a0.Kind_ > 5)) || decide (a0.Time_ < 0)) || decide (a0.Time_ > 100000000000))), (43, .bool (((decide (a0.Kind_ < 1) || decide (a0.Kind_ > 5)) || decide (a0.Time_ < 0)) || decide (a0.Time_ > 100000000000))), (51, .bool ((((decide (a0.Kind_ < 1) || decide (a0.Kind_ > 5)) || decide (a0.Time_ < 0)) || decide (a0.Time_ > 100000000000)) || (((a0.Kind_ == 1) || (a0.Kind_ == 5)) && (!r1)))), (52, .bool ((((decide (a0.Kind_ < 1) || decide (a0.Kind_ > 5)) || decide (a0.Time_ < 0)) || decide (a0.Time_ > 100000000000)) || (((a0.Kind_ == 1) || (a0.Kind_ == 5)) && (!r1)))), (60, .bool (((((decide (a0.Kind_ < 1) || decide (a0.Kind_ > 5)) || decide (a0.Time_ < 0)) || decide (a0.Time_ > 100000000000)) || (((a0.Kind_ == 1) || (a0.Kind_ == 5)) && (!r1))) || ((!((a0.Kind_ == 1) || (a0.Kind_ == 5))) && (!(a0.User_.toList == e0.toList))))), (61, .bool (((((decide (a0.Kind_ < 1) || decide (a0.Kind_ > 5)) || decide (a0.Time_ < 0)) || decide (a0.Time_ > 100000000000)) || (((a0.Kind_ == 1) || (a0.Kind_ == 5)) && (!r1))) || ((!((a0.Kind_ == 1) || (a0.Kind_ == 5))) && (!(a0.User_.toList == e0.toList))))), (69, .bool ((((((decide (a0.Kind_ < 1) || decide (a0.Kind_ > 5)) || decide (a0.Time_ < 0)) || decide (a0.Time_ > 100000000000)) || (((a0.Kind_ == 1) || (a0.Kind_ == 5)) && (!r1))) || ((!((a0.Kind_ == 1) || (a0.Kind_ == 5))) && (!(a0.User_.toList == e0.toList)))) || ((a0.Kind_ != 5) && (!r3)))), (70, .bool ((((((decide (a0.Kind_ < 1) || decide (a0.Kind_ > 5)) || decide (a0.Time_ < 0)) || decide (a0.Time_ > 100000000000)) || (((a0.Kind_ == 1) || (a0.Kind_ == 5)) && (!r1))) || ((!((a0.Kind_ == 1) || (a0.Kind_ == 5))) && (!(a0.User_.toList == e0.toList)))) || ((a0.Kind_ != 5) && (!r3)))), (78, .bool (((((((decide (a0.Kind_ < 1) || decide (a0.Kind_ > 5)) || decide (a0.Time_ < 0)) || decide (a0.Time_ > 100000000000)) || (((a0.Kind_ == 1) || (a0.Kind_ == 5)) && (!r1))) || ((!((a0.Kind_ == 1) || (a0.Kind_ == 5))) && (!(a0.User_.toList == e0.toList)))) || ((a0.Kind_ != 5) && (!r3))) || ((!(a0.Kind_ != 5)) && (!(a0.Device_.toList == e0.toList))))), (79, .bool (((((((decide (a0.Kind_ < 1) || decide (a0.Kind_ > 5)) || decide (a0.Time_ < 0)) || decide (a0.Time_ > 100000000000)) || (((a0.Kind_ == 1) || (a0.Kind_ == 5)) && (!r1))) || ((!((a0.Kind_ == 1) || (a0.Kind_ == 5))) && (!(a0.User_.toList == e0.toList)))) || ((a0.Kind_ != 5) && (!r3))) || ((!(a0.Kind_ != 5)) && (!(a0.Device_.toList == e0.toList))))), (86, .bool ((((((((decide (a0.Kind_ < 1) || decide (a0.Kind_ > 5)) || decide (a0.Time_ < 0)) || decide (a0.Time_ > 100000000000)) || (((a0.Kind_ == 1) || (a0.Kind_ == 5)) && (!r1))) || ((!((a0.Kind_ == 1) || (a0.Kind_ == 5))) && (!(a0.User_.toList == e0.toList)))) || ((a0.Kind_ != 5) && (!r3))) || ((!(a0.Kind_ != 5)) && (!(a0.Device_.toList == e0.toList)))) || (((a0.Kind_ == 1) || (a0.Kind_ == 5)) && (!(a0.Id_.toList == e0.toList))))), (87, .bool ((((((((decide (a0.Kind_ < 1) || decide (a0.Kind_ > 5)) || decide (a0.Time_ < 0)) || decide (a0.Time_ > 100000000000)) || (((a0.Kind_ == 1) || (a0.Kind_ == 5)) && (!r1))) || ((!((a0.Kind_ == 1) || (a0.Kind_ == 5))) && (!(a0.User_.toList == e0.toList)))) || ((a0.Kind_ != 5) && (!r3))) || ((!(a0.Kind_ != 5)) && (!(a0.Device_.toList == e0.toList)))) || (((a0.Kind_ == 1) || (a0.Kind_ == 5)) && (!(a0.Id_.toList == e0.toList))))), (89, .bx 5 1), (90, .int .i64 a0.Time_), (91, .bx 0 0), (92, .bx 0 0), (93, .bx 0 3), (94, .int .i64 s0.now_), (95, .bool (decide (a0.Time_ < s0.now_))), (97, .bx 0 0), (98, .bx 5 1), (99, .int .i64 a0.Time_), (100, .bx 0 0), (101, .bx 0 3), (102, .bx 5 0), (103, .int .i64 a0.Kind_), (104, .bool (a0.Kind_ == 1)), (105, .bool (a0.Kind_ == 1)), (144, .bool (a0.Kind_ == 5)), (145, .bool (a0.Kind_ == 5)), (175, .bx 0 0), (176, .bx 0 0), (177, .bx 0 5), (179, .fn 36 [] [.bx 5 0]), (180, .int .i64 r32), (181, .int .i64 r32), (182, .bool (decide (r32 < 0))), (184, .bx 0 0), (185, .bx 0 0), (186, .bx 0 5), (188, .int .i64 r32), (190, .px 2 0 e34 0), (191, .bool ((!(r36.toList == a0.Id_.toList)) || (!(w42.device_.toList == a0.Device_.toList)))), (192, .px 2 0 e34 0), (193, .str r36), (194, .bx 5 4), (195, .str a0.Id_), (196, .bool (!(r36.toList == a0.Id_.toList))), (197, .bool (!(r36.toList == a0.Id_.toList))), (205, .bool ((!(r36.toList == a0.Id_.toList)) || (!(w42.device_.toList == a0.Device_.toList)))), (210, .bool w46.dead_), (211, .px 2 0 e34 0), (212, .px 2 0 e34 0), (213, .px 2 0 e34 6), (214, .bool w46.dead_), (216, .bool r48), (217, .bx 0 0), (218, .px 2 0 e34 0), (219, .bx 0 0), (220, .bx 0 0), (221, .bx 0 3), (222, .int .i64 a0.Time_), (223, .bool r48), (225, .px 2 0 e34 0), (226, .bx 0 0), (227, .bx 0 0), (228, .bx 0 3), (229, .int .i64 a0.Time_), (230, .px 2 0 e34 0), (231, .px 2 0 e34 5), (232, .bx 5 0), (233, .int .i64 a0.Kind_), (234, .bool (a0.Kind_ == 3)), (235, .bool (a0.Kind_ == 3)), (236, .px 2 0 e34 0), (237, .px 2 0 e34 0), (238, .px 2 0 e34 0), (239, .px 2 0 e34 3), (240, .int .i64 w57.level_), (241, .int .i64 (IntKind.i64.wrap (w57.level_ + 1))), (242, .int .i64 (if (IntKind.i64.wrap (w57.level_ + 1)) < 9 then (IntKind.i64.wrap (w57.level_ + 1)) else 9)), (243, .px 2 0 e34 0), (244, .px 2 0 e34 3), (245, .px 2 0 e34 0), (246, .px 2 0 e34 0), (247, .px 2 0 e34 0), (248, .px 2 0 e34 0), (249, .px 3 0 w59.ids_ 0), (250, .bx 0 0), (251, .str r61), (252, .im false (([r61] : List ByteArray).map (c_str))), (253, .px 3 0 ((s3.set (Int.toNat w59.ids_) none).length : Int) 0), (254, .px 2 0 e34 0), (255, .px 2 0 e34 0)]) (R := [⟨some 245, .px 2 0 e34 0, .q, []⟩, ⟨some 246, .px 2 0 e34 0, .q, []⟩, ⟨some 247, .px 2 0 e34 0, .q, []⟩, ⟨some 248, .px 2 0 e34 0, .q, []⟩, ⟨some 249, .px 3 0 w59.ids_ 0, .q, []⟩, ⟨some 250, .bx 0 0, .q, []⟩, ⟨some 251, .str r61, .q, []⟩, ⟨some 252, .im false (([r61] : List ByteArray).map (c_str)), .q, []⟩, ⟨some 253, .px 3 0 ((s3.set (Int.toNat w59.ids_) none).length : Int) 0, .q, []⟩, ⟨some 254, .px 2 0 e34 0, .q, []⟩, ⟨some 255, .px 2 0 e34 0, .q, []⟩, ⟨none, .any, .q, []⟩]) (fun b => cond (b 6) (cond (b 8) (cond (b 11) ([.box (k_impl_ysessions 1 4 2 c0 o62), .arr .raw 1 (o62.list_.map (c_px 2)), .fam ((((s2.set (Int.toNat e34) ({ w46 with last_ := a0.Time_ } : T_impl_ysession)).set (Int.toNat e34) ({ w57 with level_ := (if (IntKind.i64.wrap (w57.level_ + 1)) < 9 then (IntKind.i64.wrap (w57.level_ + 1)) else 9) } : T_impl_ysession)).set (Int.toNat e34) ({ w59 with ids_ := ((s3.set (Int.toNat w59.ids_) none).length : Int) } : T_impl_ysession)).map (c_T_impl_ysession 3 false)), .afm 1 (((s3.set (Int.toNat w59.ids_) none) ++ [some l66]).map (c_ax (c_str))), .arr .clo 4 (o62.reply_.map (c_T_impl_SessReply false)), .box (c_T_impl_SessEvent false a0), .box [.int .i64 0, .str e0, .str e0, .int .i64 0], .dead]) ([.box (k_impl_ysessions 1 4 2 c0 o62), .arr .raw 1 (o62.list_.map (c_px 2)), .fam (((s2.set (Int.toNat e34) ({ w46 with last_ := a0.Time_ } : T_impl_ysession)).set (Int.toNat e34) ({ w57 with level_ := (if (IntKind.i64.wrap (w57.level_ + 1)) < 9 then (IntKind.i64.wrap (w57.level_ + 1)) else 9) } : T_impl_ysession)).map (c_T_impl_ysession 3 false)), .afm 1 (((s3.set (Int.toNat w59.ids_) none) ++ [some l66]).map (c_ax (c_str))), .arr .clo 4 (o62.reply_.map (c_T_impl_SessReply false)), .box (c_T_impl_SessEvent false a0), .box [.int .i64 0, .str e0, .str e0, .int .i64 0], .dead])) ([.box (k_impl_ysessions 1 4 2 c0 o62), .arr .raw 1 (o62.list_.map (c_px 2)), .fam (((s2.set (Int.toNat e34) ({ w46 with last_ := a0.Time_ } : T_impl_ysession)).set (Int.toNat e34) ({ w57 with level_ := (if (IntKind.i64.wrap (w57.level_ + 1)) < 9 then (IntKind.i64.wrap (w57.level_ + 1)) else 9) } : T_impl_ysession)).map (c_T_impl_ysession 3 false)), .afm 1 (s3.map (c_ax (c_str))), .arr .clo 4 (o62.reply_.map (c_T_impl_SessReply false)), .box (c_T_impl_SessEvent false a0), .box [.int .i64 0, .str e0, .str e0, .int .i64 0]])) ([.box (k_impl_ysessions 1 4 2 c0 ({ s0 with now_ := a0.Time_ } : T_impl_ysessions)), .arr .raw 1 (s0.list_.map (c_px 2)), .fam (((s2.set (Int.toNat e34) ({ w46 with last_ := a0.Time_ } : T_impl_ysession)).set (Int.toNat e34) ({ w57 with level_ := (if (IntKind.i64.wrap (w57.level_ + 1)) < 9 then (IntKind.i64.wrap (w57.level_ + 1)) else 9) } : T_impl_ysession)).map (c_T_impl_ysession 3 false)), .afm 1 (s3.map (c_ax (c_str))), .arr .clo 4 (s0.reply_.map (c_T_impl_SessReply false)), .box (c_T_impl_SessEvent false a0), .box [.int .i64 0, .str e0, .str e0, .int .i64 0]])) rfl ?_ ?_ rfl rfl (FrL.get (.cons rfl (.cons rfl (.cons rfl (.cons rfl (.cons rfl (.cons rfl (.cons rfl (.cons rfl (.cons rfl (.cons rfl (.cons rfl (.cons rfl (.cons rfl (.cons rfl (.cons rfl (.cons rfl (.cons rfl (.cons rfl (.cons rfl (.cons rfl (.cons rfl (.cons rfl (.cons rfl (.cons rfl (.cons rfl (.cons rfl (.cons rfl (.cons rfl (.cons rfl (.cons rfl (.cons rfl (.cons rfl (.cons rfl (.cons rfl (.cons rfl (.cons rfl (.cons rfl (.cons rfl (.cons rfl (.cons rfl (.cons rfl (.cons rfl (.cons rfl (.cons rfl (.cons rfl (.cons rfl (.cons rfl (.cons rfl (.cons rfl (.cons rfl (.cons rfl (.cons rfl (.cons rfl (.cons rfl (.cons rfl (.cons rfl (.cons rfl (.cons rfl (.cons rfl (.cons rfl (.cons rfl (.cons rfl (.cons rfl (.cons rfl (.cons rfl (.cons rfl (.cons rfl (.cons rfl (.cons rfl (.cons rfl (.cons rfl (.cons rfl (.cons rfl (.cons rfl (.cons rfl (.cons rfl (.cons rfl (.cons rfl (.cons rfl (.cons rfl (.cons rfl (.cons rfl (.cons rfl (.cons rfl (.cons rfl (.cons rfl (.cons rfl (.cons rfl (.cons rfl (.cons rfl (.cons rfl (.cons rfl (.cons rfl (.cons rfl (.cons rfl (.cons rfl (.cons rfl (.cons rfl (.cons rfl (.cons rfl (.cons rfl (.cons rfl (.cons rfl (.cons rfl (.cons rfl (.cons rfl (.cons rfl (.cons rfl (.cons rfl (.cons rfl (.cons rfl (.cons rfl (.cons rfl (.cons rfl (.cons rfl (.cons rfl (.cons rfl (.cons rfl (.cons rfl (.cons rfl .nil))))))))))))))))))))))))))))))))))))))))))))))))))))))))))))))))))))))))))))))))))))))))))))))))))))))))))))))))))))))))) ?_
           ·refine .cons _ _ _ _ _ ⟨rfl, [(12, .px 2 0 e34 0)], AllN.get rfl (.cons rfl .nil), fun b hd hn hk hc => ?_⟩ ?_
            ·cases e6 : b 6
             ·cases e8 : b 8
              ·exact ops_at (cdf e6) rfl (o_move rfl rfl) (cdf ((updb_ne rfl).trans e6)) rfl
              ·exact absurd (hc 8 6 rfl rfl e8) (by rw [e6]; decide)
             ·cases e8 : b 8
              ·exact ops_at ((cdt e6).trans (cdf e8)) rfl (o_move rfl rfl) ((cdt ((updb_ne rfl).trans e6)).trans (cdf ((updb_ne rfl).trans e8))) rfl
              ·exact ops_at (((cdt e6).trans (cdt e8)).trans (cdf (hn 11 rfl))) rfl (o_move rfl rfl) (((cdt ((updb_ne rfl).trans e6)).trans (cdt ((updb_ne rfl).trans e8))).trans (cdf ((updb_ne rfl).trans (hn 11 rfl)))) rfl
            refine .cons _ _ _ _ _ ⟨rfl, [(12, .px 2 0 e34 0)], AllN.get rfl (.cons rfl .nil), fun b hd hn hk hc => ?_⟩ ?_
            ·cases e6 : b 6
             ·exact ops_at (cdf e6) rfl (o_move rfl rfl) (cdf ((updb_ne rfl).trans e6)) rfl
             ·exact ops_at ((cdt e6).trans (cdf (hn 8 rfl))) rfl (o_move rfl rfl) ((cdt ((updb_ne rfl).trans e6)).trans (cdf ((updb_ne rfl).trans (hn 8 rfl)))) rfl
            refine .cons _ _ _ _ _ ⟨rfl, [(246, .px 2 0 e34 0)], AllN.get rfl (.cons rfl .nil), fun b hd hn hk hc => ?_⟩ ?_
            ·cases e6 : b 6
             ·exact ops_at (cdf e6) rfl (o_nilCheckP rfl rfl rfl h60) (cdf ((updb_ne rfl).trans e6)) rfl
             ·exact ops_at ((cdt e6).trans (cdf (hn 8 rfl))) rfl (o_nilCheckP rfl rfl rfl h60) ((cdt ((updb_ne rfl).trans e6)).trans (cdf ((updb_ne rfl).trans (hn 8 rfl)))) rfl
            refine .cons _ _ _ _ _ ⟨rfl, [(247, .px 2 0 e34 0)], AllN.get rfl (.cons rfl .nil), fun b hd hn hk hc => ?_⟩ ?_
            ·cases e6 : b 6
             ·exact ops_at (cdf e6) rfl (o_fieldAddrP (a := w59) rfl rfl rfl tyS_56 (by decide) rfl rfl h60) (cdf ((updb_ne rfl).trans e6)) rfl
             ·exact ops_at ((cdt e6).trans (cdf (hn 8 rfl))) rfl (o_fieldAddrP (a := w59) rfl rfl rfl tyS_56 (by decide) rfl rfl h60) ((cdt ((updb_ne rfl).trans e6)).trans (cdf ((updb_ne rfl).trans (hn 8 rfl)))) rfl
            refine .cons _ _ _ _ _ ⟨rfl, [(248, .px 2 0 e34 0)], AllN.get rfl (.cons rfl .nil), fun b hd hn hk hc => ?_⟩ ?_
            ·cases e6 : b 6
             ·exact ops_at (cdf e6) rfl (o_loadP (a := w59) rfl tyS_56 rfl rfl h60 (nb rfl) rfl) (cdf ((updb_ne rfl).trans e6)) rfl
             ·exact ops_at ((cdt e6).trans (cdf (hn 8 rfl))) rfl (o_loadP (a := w59) rfl tyS_56 rfl rfl h60 (nb rfl) rfl) ((cdt ((updb_ne rfl).trans e6)).trans (cdf ((updb_ne rfl).trans (hn 8 rfl)))) rfl
            refine .cons _ _ _ _ _ ⟨rfl, [(0, .bx 0 0)], AllN.get rfl (.cons rfl .nil), fun b hd hn hk hc => ?_⟩ ?_
            ·exact ops_at (cdf (hn 6 rfl)) rfl (o_move rfl rfl) (cdf ((updb_ne rfl).trans (hn 6 rfl))) rfl
            refine .cons _ _ _ _ _ ⟨rfl, [(250, .bx 0 0)], AllN.get rfl (.cons rfl .nil), fun b hd hn hk hc => ?_⟩ ?_
            ·exact ops_at (cdf hk) rfl (o_callM [0, 1, 2, 3, 4] rfl en_34 rfl rfl (impl_ysessions_next_p c0 h63) rfl (by decide) (.cons _ _ _ _ rfl (.cons _ _ _ _ (ren_at rfl (ren_rawO fun _ => rfl)) (.cons _ _ _ _ (ren_at rfl (ren_famO fun _ => rfl)) (.cons _ _ _ _ rfl (.cons _ _ _ _ rfl .nil))))) rfl rfl (.cons _ _ _ _ rfl (.cons _ _ _ _ (ren_rawO fun _ => rfl) (.cons _ _ _ _ (ren_famO fun _ => rfl) (.cons _ _ _ _ rfl (.cons _ _ _ _ rfl .nil))))) rfl) (((cdt updb_self).trans (cdf ((updb_ne rfl).trans (hn 8 rfl)))).trans rfl) rfl
            refine .cons _ _ _ _ _ ⟨rfl, [(251, .str r61)], AllN.get rfl (.cons rfl .nil), fun b hd hn hk hc => ?_⟩ ?_
            ·exact ops_at ((cdt (hd 6 rfl)).trans (cdf (hn 8 rfl))) rfl (o_sliceIm (rows := ([r61] : List ByteArray).map (c_str)) rfl rfl tyS_9 ⟨_, rfl, rfl⟩ (by decide) rfl rfl rfl rfl rfl rfl) ((cdt ((updb_ne rfl).trans (hd 6 rfl))).trans (cdf ((updb_ne rfl).trans (hn 8 rfl)))) rfl
            refine .cons _ _ _ _ _ ⟨rfl, [(249, .px 3 0 w59.ids_ 0), (252, .im false (([r61] : List ByteArray).map (c_str)))], AllN.get rfl (.cons rfl (.cons rfl .nil)), fun b hd hn hk hc => ?_⟩ ?_
            ·exact ops_at ((cdt (hd 6 rfl)).trans (cdf hk)) rfl (Does.newX (f := c_str) (L := (s3.set (Int.toNat w59.ids_) none)) (xs := l66) 3 (Does.outX (t := 249) (f := c_str) (L := s3) (xs := x64) h65 rfl (by simp [Op.operands, Call.operands]) rfl (o_ap (f := c_str) (xs := x64) (ys := ([r61] : List ByteArray)) rfl rfl tyE_9 rfl rfl rfl rfl (by decide) rfl (fun _ => rfl) h67)) rfl rfl rfl) ((((cdt ((updb_ne rfl).trans (hd 6 rfl))).trans (cdt updb_self)).trans (cdf ((updb_ne rfl).trans (hn 11 rfl)))).trans rfl) rfl
            refine .cons _ _ _ _ _ ⟨rfl, [(245, .px 2 0 e34 0)], AllN.get rfl (.cons rfl .nil), fun b hd hn hk hc => ?_⟩ ?_
            ·exact ops_at (((cdt (hd 6 rfl)).trans (cdt (hd 8 rfl))).trans (cdf (hn 11 rfl))) rfl (o_nilCheckP rfl rfl rfl h60) (((cdt ((updb_ne rfl).trans (hd 6 rfl))).trans (cdt ((updb_ne rfl).trans (hd 8 rfl)))).trans (cdf ((updb_ne rfl).trans (hn 11 rfl)))) rfl
            refine .cons _ _ _ _ _ ⟨rfl, [(254, .px 2 0 e34 0)], AllN.get rfl (.cons rfl .nil), fun b hd hn hk hc => ?_⟩ ?_
            ·exact ops_at (((cdt (hd 6 rfl)).trans (cdt (hd 8 rfl))).trans (cdf (hn 11 rfl))) rfl (o_fieldAddrP (a := w59) rfl rfl rfl tyS_56 (by decide) rfl rfl h60) (((cdt ((updb_ne rfl).trans (hd 6 rfl))).trans (cdt ((updb_ne rfl).trans (hd 8 rfl)))).trans (cdf ((updb_ne rfl).trans (hn 11 rfl)))) rfl
            refine .cons _ _ _ _ _ ⟨rfl, [(253, .px 3 0 ((s3.set (Int.toNat w59.ids_) none).length : Int) 0), (255, .px 2 0 e34 0)], AllN.get rfl (.cons rfl (.cons rfl .nil)), fun b hd hn hk hc => ?_⟩ ?_
            ·exact ops_at (((cdt (hd 6 rfl)).trans (cdt (hd 8 rfl))).trans (cdf hk)) rfl (o_storeP (a := w59) (a' := ({ w59 with ids_ := ((s3.set (Int.toNat w59.ids_) none).length : Int) } : T_impl_ysession)) rfl tyS_56 rfl rfl rfl h60 rfl (nb rfl) rfl rfl) ((((cdt ((updb_ne rfl).trans (hd 6 rfl))).trans (cdt ((updb_ne rfl).trans (hd 8 rfl)))).trans (cdt updb_self)).trans rfl) rfl
            exact .nil _
           ·intro b b' h; simp only [h 6 (by decide), h 8 (by decide), h 11 (by decide)]
           refine inB_normal ?_
           exact Pk.of (thn_normal ⟨o62, (((s2.set (Int.toNat e34) ({ w46 with last_ := a0.Time_ } : T_impl_ysession)).set (Int.toNat e34) ({ w57 with level_ := (if (IntKind.i64.wrap (w57.level_ + 1)) < 9 then (IntKind.i64.wrap (w57.level_ + 1)) else 9) } : T_impl_ysession)).set (Int.toNat e34) ({ w59 with ids_ := ((s3.set (Int.toNat w59.ids_) none).length : Int) } : T_impl_ysession)), ((s3.set (Int.toNat w59.ids_) none) ++ [some l66]), rfl, rfl, H⟩)
          ·refine au 5 ?_
           refine T.cH H (fun H h => ?_) (fun H h => ?_)
           ·refine au 2 ?_
            obtain ⟨w68, h69, H⟩ := bind_s H
            refine TL.st rfl rfl rfl (o_nilCheckP rfl rfl rfl h69) ?_
            refine TL.st rfl rfl rfl (o_fieldAddrP (a := w68) rfl rfl rfl tyS_4 (by decide) rfl rfl h69) ?_
            refine TL.sn rfl rfl (o_storeP (a := w68) (a' := ({ w68 with dead_ := true } : T_impl_ysession)) rfl tyS_4 rfl rfl rfl h69 rfl (nb rfl) rfl rfl) ?_
            refine TL.nil ?_
            refine inB_normal ?_
            exact Pk.of (thn_normal ⟨({ s0 with now_ := a0.Time_ } : T_impl_ysessions), ((s2.set (Int.toNat e34) ({ w46 with last_ := a0.Time_ } : T_impl_ysession)).set (Int.toNat e34) ({ w68 with dead_ := true } : T_impl_ysession)), s3, rfl, rfl, H⟩)
           ·refine T.skip ?_
            refine inB_normal ?_
            exact Pk.of (thn_normal ⟨({ s0 with now_ := a0.Time_ } : T_impl_ysessions), (s2.set (Int.toNat e34) ({ w46 with last_ := a0.Time_ } : T_impl_ysession)), s3, rfl, rfl, H⟩)
         ·rintro _ _ ⟨b50, f51, f52, rfl, rfl, H⟩
          refine T.seq ?_
          refine T.drawn rfl ?_
          refine TD.qs rfl rfl (fun _ => o_move rfl rfl) ?_
          obtain ⟨r53, h54, H⟩ := bind_s H
          refine TD.rs rfl rfl (o_callM [2, 3] rfl en_18 rfl rfl (impl_ysession_id_p  h54) rfl (by decide) (.cons _ _ _ _ (ren_at rfl (ren_famO fun _ => rfl)) (.cons _ _ _ _ rfl .nil)) rfl rfl (.cons _ _ _ _ (ren_famO fun _ => rfl) (.cons _ _ _ _ rfl .nil)) rfl) ?_
          refine TD.qs rfl rfl (fun _ => o_move rfl rfl) ?_
          obtain ⟨w55, h56, H⟩ := bind_s H
          refine TD.rs rfl rfl (o_nilCheckP rfl rfl rfl h56) ?_
          refine TD.rs rfl rfl (o_fieldAddrP (a := w55) rfl rfl rfl tyS_9 (by decide) rfl rfl h56) ?_
          refine TD.rs rfl rfl (o_loadP (a := w55) rfl tyS_9 rfl rfl h56 (nb rfl) rfl) ?_
          refine TD.qs rfl rfl (fun _ => o_move rfl rfl) ?_
          refine TD.rs rfl rfl (o_nilCheckP rfl rfl rfl h56) ?_
          refine TD.rs rfl rfl (o_fieldAddrP (a := w55) rfl rfl rfl tyS_3 (by decide) rfl rfl h56) ?_
          refine TD.rs rfl rfl (o_loadP (a := w55) rfl tyS_3 rfl rfl h56 (nb rfl) rfl) ?_
          refine TD.qs rfl rfl (fun _ => o_build rfl ⟨_, fun _ => rfl, rfl⟩ rfl rfl rfl) ?_
          refine TD.an rfl rfl (o_storeBx rfl tyS_31 rfl rfl rfl rfl (nb rfl) rfl) ?_
          refine TD.nil ⟨rfl, ?_⟩
          refine T.ret ?_
          cases some_i H
          exact ⟨trivial, _, (.cell _ _ _ _ _ _ _ _ _ _ rfl rfl tyS_31 (nb rfl) rfl .nil), ⟨rfl, _, rfl⟩⟩
theorem en_29 : En Tryd.prog 29 := .of Tryd.func29 rfl rfl
theorem tyE_31 : TyE Tryd.prog 31 4 := ⟨_, _, rfl, rfl, rfl, rfl, by decide, by decide⟩
noncomputable def impl_yrunSessions_l1 (a1 : (List T_impl_SessEvent)) : (T_impl_ysessions × List T_impl_ysession × List (Option (List ByteArray)) × Int) → Option ((T_impl_ysessions × List T_impl_ysession × List (Option (List ByteArray)) × Int) ⊕ (T_impl_ysessions × List T_impl_ysession × List (Option (List ByteArray)))) := fun s => match s with
  | (b3, f4, f5, v6) => cond (decide (v6 < (a1.length : Int))) ((idx a1 v6).bind fun e11 => (impl_ysessions_do e11 b3 f4 f5).bind fun q => (match q with | (r13, o14, o15, o16) => (eqL o14.reply_ b3.reply_).bind fun u18 => (app b3.reply_ ([r13] : List T_impl_SessReply)).bind fun l20 => some (.inl (({ o14 with reply_ := l20 } : T_impl_ysessions), o15, o16, (IntKind.i64.wrap (v6 + 1)))))) (some (.inr (b3, f4, f5)))
noncomputable def impl_yrunSessions (a0 : T_impl_SessConf) (a1 : (List T_impl_SessEvent)) : Option ((T_impl_ysessions × (List T_impl_ysession) × (List (Option (List ByteArray)))) ⊕ Unit) :=
  (impl_GoodSessConf a0).bind fun r1 => cond ((!r1) || decide ((a1.length : Int) > 200)) (some (.inr ())) ((loopO (impl_yrunSessions_l1 a1) ((⟨a0, 0, 0, ([] : List Int), ([] : List T_impl_SessReply)⟩ : T_impl_ysessions), ([] : List T_impl_ysession), ([] : List (Option (List ByteArray))), 0)).bind fun q22 => (match q22 with | (b7, f8, f9) => some (.inl (b7, f8, f9))))
theorem impl_yrunSessions_p (b0 : Bool) (b1 : Bool) {a0 : T_impl_SessConf} {a1 : (List T_impl_SessEvent)} {R : ((T_impl_ysessions × (List T_impl_ysession) × (List (Option (List ByteArray)))) ⊕ Unit)} (H : impl_yrunSessions a0 a1 = some R) : CallT Tryd.prog 14 [.agg (c_T_impl_SessConf b0 a0), .im b1 (a1.map (c_T_impl_SessEvent false))] [] (match R with | .inl (x0', x1', x2') => fun v τ' => ∃ ρ, Part ρ τ' [.box (k_impl_ysessions 1 2 3 b0 (⟨x0'.c_, x0'.now_, x0'.ids_, x0'.list_, x0'.reply_⟩ : T_impl_ysessions)), .arr .raw 1 (x0'.list_.map (c_px 3)), .arr .clo 4 (x0'.reply_.map (c_T_impl_SessReply false)), .fam (x1'.map (c_T_impl_ysession 4 false)), .afm 1 (x2'.map (c_ax (c_str)))] ∧ v = ren (rho ρ τ'.length) (.tup [.bx 0 0, .bool true]) | .inr _ => fun v τ' => ∃ ρ, Part ρ τ' [] ∧ v = ren (rho ρ τ'.length) (.tup [.nilP, .bool false])) := by
 refine CallT.of_TN (n := 40) Tryd.func14 rfl rfl rfl rfl ?_
 refine T.conv Cs.fam ?_
 refine T.conv (Cs.afm 1 rfl) ?_
 refine T.conv (Cs.wkF (M := 2) (.k 0 rfl rfl (.k 1 rfl rfl .nil))) ?_
 refine T.conv (Cs.eqS (σ' := [.fam (([] : List T_impl_ysession).map (c_T_impl_ysession 1 false)), .afm 1 (([] : List (Option (List ByteArray))).map (c_ax (c_str)))]) rfl) ?_
 refine au 10 ?_
 obtain ⟨r1, h2, H⟩ := bind_s H
 refine TL.st rfl rfl rfl (o_callP rfl en_28 rfl rfl (.cons _ _ _ _ (Lent.aggL (.cons _ _ _ _ (.imv _ _) (.cons _ _ _ _ (.cl _ rfl) (.cons _ _ _ _ (.cl _ rfl) .nil)))) .nil) (impl_GoodSessConf_p b0 h2)) ?_
 refine au 3 ?_
 refine TL.gcq rfl rfl rfl (.bool _) rfl rfl (fun h => o_lenL (f := c_T_impl_SessEvent false) rfl rfl (gv h rfl)) ?_
 refine au 3 ?_
 refine T.cH H (fun H h => ?_) (fun H h => ?_)
 ·refine au 6 ?_
  refine thn_ret ?_
  cases some_i H
  exact ⟨trivial, _, (.tmp _ _ _ _ rfl (.tmp _ _ _ _ rfl .nil)), ⟨[], Part.of (by decide) .nil, rfl⟩⟩
 ·refine au 12 ?_
  refine TL.st rfl rfl rfl (o_lenL (f := c_T_impl_SessEvent false) rfl rfl rfl) ?_
  refine au 3 ?_
  refine T.conv (Cs.ownCellR (p := 3) 5 1 rfl rfl (by decide)) ?_
  refine T.conv (Cs.ownCell (p := 3) 6 4 rfl rfl (by decide)) ?_
  obtain ⟨q22, h23, H⟩ := bind_s H
  refine T.lq (fun s => match s with | (b3, f4, f5, v6) => [(6, .bx 3 0), (20, .im b1 (a1.map (c_T_impl_SessEvent false))), (21, .int .i64 (a1.length : Int)), (22, .int .i64 v6)]) (fun s => match s with | (b3, f4, f5, v6) => [.fam (f4.map (c_T_impl_ysession 1 false)), .afm 1 (f5.map (c_ax (c_str))), .box (c_T_impl_SessConf b0 a0), .box (k_impl_ysessions 4 5 0 b0 b3), .arr .raw 1 (b3.list_.map (c_px 0)), .arr .clo 4 (b3.reply_.map (c_T_impl_SessReply false))]) (fun q ex fr σ => match q with | (b7, f8, f9) => ex = .exit 0 ∧ fr = [(6, .bx 3 0)] ∧ σ = [.fam (f8.map (c_T_impl_ysession 1 false)), .afm 1 (f9.map (c_ax (c_str))), .box (c_T_impl_SessConf b0 a0), .box (k_impl_ysessions 4 5 0 b0 b7), .arr .raw 1 (b7.list_.map (c_px 0)), .arr .clo 4 (b7.reply_.map (c_T_impl_SessReply false))]) h23 ?_ ?_
  ·rintro ⟨b3, f4, f5, v6⟩ y10 H
   refine au 5 ?_
   refine T.cH H (fun H h => ?_) (fun H h => ?_)
   ·refine au 5 ?_
    obtain ⟨e11, h12, H⟩ := bind_s H
    refine TL.st rfl rfl rfl (o_ix (f := c_T_impl_SessEvent false) rfl rfl tyS_34 rfl rfl h12 rfl) ?_
    refine au 4 ?_
    refine thn_normal ?_
    obtain ⟨⟨r13, o14, o15, o16⟩, h17, H⟩ := bind_s H
    obtain ⟨u18, h19, H⟩ := bind_s H
    obtain ⟨l20, h21, H⟩ := bind_s H
    refine T.drawS (fr' := [(6, .bx 3 0), (8, .bx 6 0), (20, .im b1 (a1.map (c_T_impl_SessEvent false))), (21, .int .i64 (a1.length : Int)), (22, .int .i64 v6), (23, .bool (decide (v6 < (a1.length : Int)))), (25, .agg (c_T_impl_SessEvent false e11)), (26, .bx 3 0), (27, .bx 3 0), (28, .bx 3 0), (29, .bx 3 6), (30, .hd 5 (b3.reply_.map (c_T_impl_SessReply false)).length 0 (b3.reply_.map (c_T_impl_SessReply false)).length), (31, .bx 3 0), (32, .agg (c_T_impl_SessEvent false e11)), (33, .agg (c_T_impl_SessReply false r13)), (34, .im false (([r13] : List T_impl_SessReply).map (c_T_impl_SessReply false))), (35, .hd 5 (l20.map (c_T_impl_SessReply false)).length 0 (l20.map (c_T_impl_SessReply false)).length), (36, .bx 3 0), (37, .bx 3 6)]) (R := [⟨some 26, .bx 3 0, .q, []⟩, ⟨some 27, .bx 3 0, .q, []⟩, ⟨some 28, .bx 3 0, .q, []⟩, ⟨some 29, .bx 3 6, .q, []⟩, ⟨some 30, .hd 5 (b3.reply_.map (c_T_impl_SessReply false)).length 0 (b3.reply_.map (c_T_impl_SessReply false)).length, .q, []⟩, ⟨some 31, .bx 3 0, .q, []⟩, ⟨some 32, .agg (c_T_impl_SessEvent false e11), .q, []⟩, ⟨some 33, .agg (c_T_impl_SessReply false r13), .q, []⟩, ⟨some 34, .im false (([r13] : List T_impl_SessReply).map (c_T_impl_SessReply false)), .q, []⟩, ⟨some 35, .hd 5 (l20.map (c_T_impl_SessReply false)).length 0 (l20.map (c_T_impl_SessReply false)).length, .q, []⟩, ⟨some 36, .bx 3 0, .q, []⟩, ⟨some 37, .bx 3 6, .q, []⟩, ⟨none, .any, .q, []⟩]) (fun b => cond (b 7) (cond (b 9) (cond (b 12) ([.fam (o15.map (c_T_impl_ysession 1 false)), .afm 1 (o16.map (c_ax (c_str))), .box (c_T_impl_SessConf b0 a0), .box (k_impl_ysessions 4 5 0 b0 ({ o14 with reply_ := l20 } : T_impl_ysessions)), .arr .raw 1 (o14.list_.map (c_px 0)), .arr .clo 4 (l20.map (c_T_impl_SessReply false)), .box (c_T_impl_SessEvent false e11)]) ([.fam (o15.map (c_T_impl_ysession 1 false)), .afm 1 (o16.map (c_ax (c_str))), .box (c_T_impl_SessConf b0 a0), .box (k_impl_ysessions 4 5 0 b0 ({ o14 with reply_ := b3.reply_ } : T_impl_ysessions)), .arr .raw 1 (o14.list_.map (c_px 0)), .arr .clo 4 (l20.map (c_T_impl_SessReply false)), .box (c_T_impl_SessEvent false e11)])) ([.fam (o15.map (c_T_impl_ysession 1 false)), .afm 1 (o16.map (c_ax (c_str))), .box (c_T_impl_SessConf b0 a0), .box (k_impl_ysessions 4 5 0 b0 ({ o14 with reply_ := b3.reply_ } : T_impl_ysessions)), .arr .raw 1 (o14.list_.map (c_px 0)), .arr .clo 4 (b3.reply_.map (c_T_impl_SessReply false)), .box (c_T_impl_SessEvent false e11)])) ([.fam (f4.map (c_T_impl_ysession 1 false)), .afm 1 (f5.map (c_ax (c_str))), .box (c_T_impl_SessConf b0 a0), .box (k_impl_ysessions 4 5 0 b0 b3), .arr .raw 1 (b3.list_.map (c_px 0)), .arr .clo 4 (b3.reply_.map (c_T_impl_SessReply false)), .box (c_T_impl_SessEvent false e11)])) rfl ?_ ?_ rfl rfl (FrL.get (.cons rfl (.cons rfl (.cons rfl (.cons rfl (.cons rfl (.cons rfl (.cons rfl (.cons rfl (.cons rfl (.cons rfl (.cons rfl (.cons rfl (.cons rfl (.cons rfl (.cons rfl (.cons rfl (.cons rfl (.cons rfl (.cons rfl .nil)))))))))))))))))))) ?_
    ·refine .cons _ _ _ _ _ ⟨rfl, [(6, .bx 3 0)], AllN.get rfl (.cons rfl .nil), fun b hd hn hk hc => ?_⟩ ?_
     ·cases e7 : b 7
      ·cases e9 : b 9
       ·exact ops_at (cdf e7) rfl (o_move rfl rfl) (cdf ((updb_ne rfl).trans e7)) rfl
       ·exact absurd (hc 9 7 rfl rfl e9) (by rw [e7]; decide)
      ·cases e9 : b 9
       ·exact ops_at ((cdt e7).trans (cdf e9)) rfl (o_move rfl rfl) ((cdt ((updb_ne rfl).trans e7)).trans (cdf ((updb_ne rfl).trans e9))) rfl
       ·exact ops_at (((cdt e7).trans (cdt e9)).trans (cdf (hn 12 rfl))) rfl (o_move rfl rfl) (((cdt ((updb_ne rfl).trans e7)).trans (cdt ((updb_ne rfl).trans e9))).trans (cdf ((updb_ne rfl).trans (hn 12 rfl)))) rfl
     refine .cons _ _ _ _ _ ⟨rfl, [(6, .bx 3 0)], AllN.get rfl (.cons rfl .nil), fun b hd hn hk hc => ?_⟩ ?_
     ·cases e7 : b 7
      ·exact ops_at (cdf e7) rfl (o_move rfl rfl) (cdf ((updb_ne rfl).trans e7)) rfl
      ·exact ops_at ((cdt e7).trans (cdf (hn 9 rfl))) rfl (o_move rfl rfl) ((cdt ((updb_ne rfl).trans e7)).trans (cdf ((updb_ne rfl).trans (hn 9 rfl)))) rfl
     refine .cons _ _ _ _ _ ⟨rfl, [(27, .bx 3 0)], AllN.get rfl (.cons rfl .nil), fun b hd hn hk hc => ?_⟩ ?_
     ·cases e7 : b 7
      ·exact ops_at (cdf e7) rfl (o_nilCheck rfl rfl rfl) (cdf ((updb_ne rfl).trans e7)) rfl
      ·exact ops_at ((cdt e7).trans (cdf (hn 9 rfl))) rfl (o_nilCheck rfl rfl rfl) ((cdt ((updb_ne rfl).trans e7)).trans (cdf ((updb_ne rfl).trans (hn 9 rfl)))) rfl
     refine .cons _ _ _ _ _ ⟨rfl, [(28, .bx 3 0)], AllN.get rfl (.cons rfl .nil), fun b hd hn hk hc => ?_⟩ ?_
     ·cases e7 : b 7
      ·exact ops_at (cdf e7) rfl (o_fieldAddr rfl rfl rfl tyS_28 (by decide) rfl rfl ⟨_, rfl, Nat.le_of_ble_eq_true rfl⟩) (cdf ((updb_ne rfl).trans e7)) rfl
      ·exact ops_at ((cdt e7).trans (cdf (hn 9 rfl))) rfl (o_fieldAddr rfl rfl rfl tyS_28 (by decide) rfl rfl ⟨_, rfl, Nat.le_of_ble_eq_true rfl⟩) ((cdt ((updb_ne rfl).trans e7)).trans (cdf ((updb_ne rfl).trans (hn 9 rfl)))) rfl
     refine .cons _ _ _ _ _ ⟨rfl, [(29, .bx 3 6)], AllN.get rfl (.cons rfl .nil), fun b hd hn hk hc => ?_⟩ ?_
     ·cases e7 : b 7
      ·exact ops_at (cdf e7) rfl (o_loadBx rfl tyS_28 rfl rfl (nb rfl) rfl) (cdf ((updb_ne rfl).trans e7)) rfl
      ·exact ops_at ((cdt e7).trans (cdf (hn 9 rfl))) rfl (o_loadBx rfl tyS_28 rfl rfl (nb rfl) rfl) ((cdt ((updb_ne rfl).trans e7)).trans (cdf ((updb_ne rfl).trans (hn 9 rfl)))) rfl
     refine .cons _ _ _ _ _ ⟨rfl, [(6, .bx 3 0)], AllN.get rfl (.cons rfl .nil), fun b hd hn hk hc => ?_⟩ ?_
     ·exact ops_at (cdf (hn 7 rfl)) rfl (o_move rfl rfl) (cdf ((updb_ne rfl).trans (hn 7 rfl))) rfl
     refine .cons _ _ _ _ _ ⟨rfl, [(8, .bx 6 0)], AllN.get rfl (.cons rfl .nil), fun b hd hn hk hc => ?_⟩ ?_
     ·exact ops_at (cdf (hn 7 rfl)) rfl (o_loadBx rfl tyS_34 rfl rfl (nb rfl) rfl) (cdf ((updb_ne rfl).trans (hn 7 rfl))) rfl
     refine .cons _ _ _ _ _ ⟨rfl, [(31, .bx 3 0), (32, .agg (c_T_impl_SessEvent false e11))], AllN.get rfl (.cons rfl (.cons rfl .nil)), fun b hd hn hk hc => ?_⟩ ?_
     ·exact ops_at (cdf hk) rfl (Does.eqS (eqAtS (eqAtS (eqAtS (eqAtB (show (.box ((c_T_impl_SessConf b0 o14.c_) ++ [.int .i64 o14.now_, .int .i64 o14.ids_, .hd 4 o14.list_.length 0 o14.list_.length, .hd 5 (o14.reply_.map (c_T_impl_SessReply false)).length 0 (o14.reply_.map (c_T_impl_SessReply false)).length]) : AO) = .box ((c_T_impl_SessConf b0 o14.c_) ++ [.int .i64 o14.now_, .int .i64 o14.ids_, .hd 4 o14.list_.length 0 o14.list_.length, .hd 5 (b3.reply_.map (c_T_impl_SessReply false)).length 0 (b3.reply_.map (c_T_impl_SessReply false)).length]) by simp only [eqL_s h19]) (eqAtS (eqAtB (show (.arr .clo 4 (o14.reply_.map (c_T_impl_SessReply false)) : AO) = .arr .clo 4 (b3.reply_.map (c_T_impl_SessReply false)) by simp only [eqL_s h19]) rfl)))))) (o_callM [3, 4, 0, 1, 5] rfl en_29 rfl rfl (impl_ysessions_do_p b0 h17) rfl (by decide) (.cons _ _ _ _ rfl (.cons _ _ _ _ (ren_at rfl (ren_rawO fun _ => rfl)) (.cons _ _ _ _ (ren_at rfl (ren_famO fun _ => rfl)) (.cons _ _ _ _ rfl (.cons _ _ _ _ rfl .nil))))) rfl rfl (.cons _ _ _ _ rfl (.cons _ _ _ _ (ren_rawO fun _ => rfl) (.cons _ _ _ _ (ren_famO fun _ => rfl) (.cons _ _ _ _ rfl (.cons _ _ _ _ rfl .nil))))) rfl)) (((cdt updb_self).trans (cdf ((updb_ne rfl).trans (hn 9 rfl)))).trans rfl) rfl
     refine .cons _ _ _ _ _ ⟨rfl, [(33, .agg (c_T_impl_SessReply false r13))], AllN.get rfl (.cons rfl .nil), fun b hd hn hk hc => ?_⟩ ?_
     ·exact ops_at ((cdt (hd 7 rfl)).trans (cdf (hn 9 rfl))) rfl (o_sliceIm (rows := ([r13] : List T_impl_SessReply).map (c_T_impl_SessReply false)) rfl rfl tyS_31 ⟨_, rfl, rfl⟩ (by decide) rfl rfl rfl rfl rfl rfl) ((cdt ((updb_ne rfl).trans (hd 7 rfl))).trans (cdf ((updb_ne rfl).trans (hn 9 rfl)))) rfl
     refine .cons _ _ _ _ _ ⟨rfl, [(30, .hd 5 (b3.reply_.map (c_T_impl_SessReply false)).length 0 (b3.reply_.map (c_T_impl_SessReply false)).length), (34, .im false (([r13] : List T_impl_SessReply).map (c_T_impl_SessReply false)))], AllN.get rfl (.cons rfl (.cons rfl .nil)), fun b hd hn hk hc => ?_⟩ ?_
     ·exact ops_at ((cdt (hd 7 rfl)).trans (cdf hk)) rfl (o_ap (f := c_T_impl_SessReply false) (xs := b3.reply_) (ys := ([r13] : List T_impl_SessReply)) rfl rfl tyE_31 rfl rfl rfl rfl (by decide) rfl (fun _ => rfl) h21) ((((cdt ((updb_ne rfl).trans (hd 7 rfl))).trans (cdt updb_self)).trans (cdf ((updb_ne rfl).trans (hn 12 rfl)))).trans rfl) rfl
     refine .cons _ _ _ _ _ ⟨rfl, [(26, .bx 3 0)], AllN.get rfl (.cons rfl .nil), fun b hd hn hk hc => ?_⟩ ?_
     ·exact ops_at (((cdt (hd 7 rfl)).trans (cdt (hd 9 rfl))).trans (cdf (hn 12 rfl))) rfl (o_nilCheck rfl rfl rfl) (((cdt ((updb_ne rfl).trans (hd 7 rfl))).trans (cdt ((updb_ne rfl).trans (hd 9 rfl)))).trans (cdf ((updb_ne rfl).trans (hn 12 rfl)))) rfl
     refine .cons _ _ _ _ _ ⟨rfl, [(36, .bx 3 0)], AllN.get rfl (.cons rfl .nil), fun b hd hn hk hc => ?_⟩ ?_
     ·exact ops_at (((cdt (hd 7 rfl)).trans (cdt (hd 9 rfl))).trans (cdf (hn 12 rfl))) rfl (o_fieldAddr rfl rfl rfl tyS_28 (by decide) rfl rfl ⟨_, rfl, Nat.le_of_ble_eq_true rfl⟩) (((cdt ((updb_ne rfl).trans (hd 7 rfl))).trans (cdt ((updb_ne rfl).trans (hd 9 rfl)))).trans (cdf ((updb_ne rfl).trans (hn 12 rfl)))) rfl
     refine .cons _ _ _ _ _ ⟨rfl, [(35, .hd 5 (l20.map (c_T_impl_SessReply false)).length 0 (l20.map (c_T_impl_SessReply false)).length), (37, .bx 3 6)], AllN.get rfl (.cons rfl (.cons rfl .nil)), fun b hd hn hk hc => ?_⟩ ?_
     ·exact ops_at (((cdt (hd 7 rfl)).trans (cdt (hd 9 rfl))).trans (cdf hk)) rfl (o_storeBx rfl tyS_28 rfl rfl rfl rfl (nb rfl) (sure_hd rfl rfl rfl)) ((((cdt ((updb_ne rfl).trans (hd 7 rfl))).trans (cdt ((updb_ne rfl).trans (hd 9 rfl)))).trans (cdt updb_self)).trans rfl) rfl
     exact .nil _
    ·intro b b' h; simp only [h 7 (by decide), h 9 (by decide), h 12 (by decide)]
    refine inB_normal (thn_normal ?_)
    refine T.conv (Cs.eqS (σ' := [.fam (o15.map (c_T_impl_ysession 1 false)), .afm 1 (o16.map (c_ax (c_str))), _, .box (k_impl_ysessions 4 5 0 b0 ({ o14 with reply_ := l20 } : T_impl_ysessions)), .arr .raw 1 (o14.list_.map (c_px 0)), .arr .clo 4 (l20.map (c_T_impl_SessReply false)), .box (c_T_impl_SessEvent false e11)]) rfl) ?_
    refine au 4 ?_
    exact Pk.of (thn_normal ⟨(({ o14 with reply_ := l20 } : T_impl_ysessions), o15, o16, (IntKind.i64.wrap (v6 + 1))), (some_i H).symm, rfl, rfl⟩)
   ·refine T.exit ?_
    refine thn_exit ?_
    exact Pk.of (thn_exit ⟨(b3, f4, f5), (some_i H).symm, rfl, rfl, rfl⟩)
  ·rcases q22 with ⟨b7, f8, f9⟩
   rintro _ _ _ ⟨rfl, rfl, rfl⟩
   refine inB_here ?_
   refine au 7 ?_
   cases some_i H
   exact ⟨trivial, _, (.tmp _ _ _ _ rfl (.tmp _ _ _ _ rfl .nil)), ⟨[3, 4, 5, 0, 1], Part.of (by decide) (.cons _ _ _ _ rfl (.cons _ _ _ _ (ren_at rfl (ren_rawO fun _ => rfl)) (.cons _ _ _ _ rfl (.cons _ _ _ _ (ren_at rfl (ren_famO fun _ => rfl)) (.cons _ _ _ _ rfl .nil))))), rfl⟩⟩
theorem impl_yrunSessions_p0 (b0 : Bool) (b1 : Bool) {a0 : T_impl_SessConf} {a1 : (List T_impl_SessEvent)} {x0' : T_impl_ysessions} {x1' : (List T_impl_ysession)} {x2' : (List (Option (List ByteArray)))} (H : impl_yrunSessions a0 a1 = some (.inl (x0', x1', x2'))) : St Tryd.prog 14 [.agg (c_T_impl_SessConf b0 a0), .im b1 (a1.map (c_T_impl_SessEvent false))] [] (.tup [.bx 0 0, .bool true]) [.box (k_impl_ysessions 1 2 3 b0 (⟨x0'.c_, x0'.now_, x0'.ids_, x0'.list_, x0'.reply_⟩ : T_impl_ysessions)), .arr .raw 1 (x0'.list_.map (c_px 3)), .arr .clo 4 (x0'.reply_.map (c_T_impl_SessReply false)), .fam (x1'.map (c_T_impl_ysession 4 false)), .afm 1 (x2'.map (c_ax (c_str)))] :=
 CallT.sel (impl_yrunSessions_p b0 b1 H)
theorem impl_yrunSessions_p1 (b0 : Bool) (b1 : Bool) {a0 : T_impl_SessConf} {a1 : (List T_impl_SessEvent)}  (H : impl_yrunSessions a0 a1 = some (.inr ())) : St Tryd.prog 14 [.agg (c_T_impl_SessConf b0 a0), .im b1 (a1.map (c_T_impl_SessEvent false))] [] (.tup [.nilP, .bool false]) [] :=
 CallT.sel (impl_yrunSessions_p b0 b1 H)
theorem en_14 : En Tryd.prog 14 := .of Tryd.func14 rfl rfl
noncomputable def impl_RunSessions (a0 : T_impl_SessConf) (a1 : (List T_impl_SessEvent)) : Option (List T_impl_SessReply) :=
  (impl_yrunSessions a0 a1).bind fun r1 => (match r1 with | .inl (o3, o4, o5) => some o3.reply_ | .inr _ => some ([] : List T_impl_SessReply))
theorem impl_RunSessions_p (b0 : Bool) (b1 : Bool) {a0 : T_impl_SessConf} {a1 : (List T_impl_SessEvent)} {R0 : (List T_impl_SessReply)} (H : impl_RunSessions a0 a1 = some R0) : Pure Tryd.prog 5 [.agg (c_T_impl_SessConf b0 a0), .im b1 (a1.map (c_T_impl_SessEvent false))] (.im false (R0.map (c_T_impl_SessReply false))) := by
 refine CallT.of_TN (n := 19) Tryd.func5 rfl rfl rfl rfl ?_
 refine au 9 ?_
 obtain ⟨r1, h2, H⟩ := bind_s H
 rcases r1 with ⟨o3, o4, o5⟩ | ⟨⟩
 ·refine TL.st rfl rfl rfl (o_callM [] rfl en_14 rfl rfl (impl_yrunSessions_p0  b0 b1 h2) rfl (by decide) .nil rfl rfl (.cons _ _ _ _ rfl (.cons _ _ _ _ (ren_rawO fun _ => rfl) (.cons _ _ _ _ rfl (.cons _ _ _ _ (ren_famO fun _ => rfl) (.cons _ _ _ _ rfl .nil))))) rfl) ?_
  refine au 12 ?_
  refine T.cond (false) rfl (fun h => by cases h) (fun h => ?_)
  refine au 10 ?_
  cases some_i H
  exact ⟨trivial, _, (.tmp _ _ _ _ rfl .nil), (.own rfl (by decide) rfl)⟩
 ·refine TL.st rfl rfl rfl (o_callM [] rfl en_14 rfl rfl (impl_yrunSessions_p1  b0 b1 h2) rfl (by decide) .nil rfl rfl .nil rfl) ?_
  refine au 12 ?_
  refine T.cond (true) rfl (fun h => ?_) (fun h => by cases h)
  refine au 5 ?_
  refine thn_ret ?_
  cases some_i H
  exact ⟨trivial, _, (.tmp _ _ _ _ rfl .nil), .nil⟩
theorem en_5 : En Tryd.prog 5 := .of Tryd.func5 rfl rfl
noncomputable def spec_GoodSessConf (a0 : T_impl_SessConf) : Option Bool :=
  some ((((decide ((a0.Key_.length : Int) ≤ 64) && decide (a0.Idle_ ≥ 1)) && decide (a0.Idle_ ≤ 1000000)) && decide (a0.Most_ ≥ 1)) && decide (a0.Most_ ≤ 1000000))
theorem spec_GoodSessConf_p (b0 : Bool) {a0 : T_impl_SessConf} {R0 : Bool} (H : spec_GoodSessConf a0 = some R0) : Pure Tryd.prog 15 [.agg (c_T_impl_SessConf b0 a0)] (.bool R0) := by
 refine CallT.of_TN (n := 27) Tryd.func15 rfl rfl rfl rfl ?_
 refine au 9 ?_
 refine TL.st rfl rfl rfl (o_lenL (f := c_int .u8) rfl rfl rfl) ?_
 refine au 24 ?_
 cases some_i H
 exact ⟨trivial, _, (.tmp _ _ _ _ rfl .nil), (.cl _ rfl)⟩
theorem en_15 : En Tryd.prog 15 := .of Tryd.func15 rfl rfl
noncomputable def spec_l19Run_l1 (a1 : (List T_impl_SessEvent)) : (T_spec_l19S × List (Option (List ByteArray)) × List T_impl_SessReply × Int) → Option ((T_spec_l19S × List (Option (List ByteArray)) × List T_impl_SessReply × Int) ⊕ (T_spec_l19S × List (Option (List ByteArray)) × List T_impl_SessReply)) := fun s => match s with
  | (b2, f3, l4, v5) => cond (decide (v5 < (a1.length : Int))) ((idx a1 v5).bind fun e10 => (spec_l19S_do e10 b2 f3).bind fun q => (match q with | (r12, o13, o14) => (app l4 ([r12] : List T_impl_SessReply)).bind fun l16 => some (.inl (o13, o14, l16, (IntKind.i64.wrap (v5 + 1)))))) (some (.inr (b2, f3, l4)))
noncomputable def spec_l19Run (a0 : T_impl_SessConf) (a1 : (List T_impl_SessEvent)) : Option (T_spec_l19S × (List T_impl_SessReply) × (List (Option (List ByteArray)))) :=
  (loopO (spec_l19Run_l1 a1) ((⟨a0, 0, 0, ([] : List T_spec_l19X)⟩ : T_spec_l19S), ([] : List (Option (List ByteArray))), ([] : List T_impl_SessReply), 0)).bind fun q18 => (match q18 with | (b6, f7, l8) => some (b6, l8, f7))
theorem spec_l19Run_p (b0 : Bool) (b1 : Bool) {a0 : T_impl_SessConf} {a1 : (List T_impl_SessEvent)} {R : (T_spec_l19S × (List T_impl_SessReply) × (List (Option (List ByteArray))))} (H : spec_l19Run a0 a1 = some R) : CallT Tryd.prog 16 [.agg (c_T_impl_SessConf b0 a0), .im b1 (a1.map (c_T_impl_SessEvent false))] [] (match R with | (x0', x1', x2') => fun v τ' => ∃ ρ, Part ρ τ' [.box (k_spec_l19S 1 2 b0 (⟨x0'.c_, x0'.now_, x0'.given_, x0'.list_⟩ : T_spec_l19S)), .arr .raw 7 (x0'.list_.map (c_T_spec_l19X 2 false)), .afm 1 (x2'.map (c_ax (c_str)))] ∧ v = ren (rho ρ τ'.length) (.tup [.bx 0 0, .im false (x1'.map (c_T_impl_SessReply false))])) := by
 refine CallT.of_TN (n := 28) Tryd.func16 rfl rfl rfl rfl ?_
 refine T.conv (Cs.afm 1 rfl) ?_
 refine T.conv (Cs.wkF (M := 1) (.k 0 rfl rfl (.k 1 rfl rfl .nil))) ?_
 refine T.conv (Cs.eqS (σ' := [.afm 1 (([] : List (Option (List ByteArray))).map (c_ax (c_str)))]) rfl) ?_
 refine au 21 ?_
 refine TL.st rfl rfl rfl (o_lenL (f := c_T_impl_SessEvent false) rfl rfl rfl) ?_
 refine au 3 ?_
 refine T.conv (Cs.ownCellR (p := 2) 5 7 rfl rfl (by decide)) ?_
 refine T.conv (Cs.own (t := 7) 4 rfl (by decide)) ?_
 obtain ⟨q18, h19, H⟩ := bind_s H
 refine T.lq (fun s => match s with | (b2, f3, l4, v5) => [(6, .bx 2 0), (7, .hd 4 (l4.map (c_T_impl_SessReply false)).length 0 (l4.map (c_T_impl_SessReply false)).length), (13, .im b1 (a1.map (c_T_impl_SessEvent false))), (14, .int .i64 (a1.length : Int)), (15, .int .i64 v5)]) (fun s => match s with | (b2, f3, l4, v5) => [.afm 1 (f3.map (c_ax (c_str))), .box (c_T_impl_SessConf b0 a0), .box (k_spec_l19S 3 0 b0 b2), .arr .raw 7 (b2.list_.map (c_T_spec_l19X 0 false)), .arr .clo 4 (l4.map (c_T_impl_SessReply false))]) (fun q ex fr σ => match q with | (b6, f7, l8) => ex = .exit 0 ∧ fr = [(6, .bx 2 0), (7, .hd 4 (l8.map (c_T_impl_SessReply false)).length 0 (l8.map (c_T_impl_SessReply false)).length)] ∧ σ = [.afm 1 (f7.map (c_ax (c_str))), .box (c_T_impl_SessConf b0 a0), .box (k_spec_l19S 3 0 b0 b6), .arr .raw 7 (b6.list_.map (c_T_spec_l19X 0 false)), .arr .clo 4 (l8.map (c_T_impl_SessReply false))]) h19 ?_ ?_
 ·rintro ⟨b2, f3, l4, v5⟩ y9 H
  refine au 5 ?_
  refine T.cH H (fun H h => ?_) (fun H h => ?_)
  ·refine au 5 ?_
   obtain ⟨e10, h11, H⟩ := bind_s H
   refine TL.st rfl rfl rfl (o_ix (f := c_T_impl_SessEvent false) rfl rfl tyS_34 rfl rfl h11 rfl) ?_
   refine au 8 ?_
   obtain ⟨⟨r12, o13, o14⟩, h15, H⟩ := bind_s H
   refine TL.st rfl rfl rfl (o_callM [2, 3, 0] rfl en_25 rfl rfl (spec_l19S_do_p b0 h15) rfl (by decide) (.cons _ _ _ _ rfl (.cons _ _ _ _ (ren_at rfl (ren_rawO fun _ => rfl)) (.cons _ _ _ _ rfl .nil))) rfl rfl (.cons _ _ _ _ rfl (.cons _ _ _ _ (ren_rawO fun _ => rfl) (.cons _ _ _ _ rfl .nil))) rfl) ?_
   refine TL.st rfl rfl rfl (o_sliceIm (rows := ([r12] : List T_impl_SessReply).map (c_T_impl_SessReply false)) rfl rfl tyS_31 ⟨_, rfl, rfl⟩ (by decide) rfl rfl rfl rfl rfl rfl) ?_
   obtain ⟨l16, h17, H⟩ := bind_s H
   refine TL.st rfl rfl rfl (o_ap (f := c_T_impl_SessReply false) (xs := l4) (ys := ([r12] : List T_impl_SessReply)) rfl rfl tyE_31 rfl rfl rfl rfl (by decide) rfl (fun _ => rfl) h17) ?_
   refine au 2 ?_
   refine T.conv (Cs.eqS (σ' := [.afm 1 (o14.map (c_ax (c_str))), _, .box (k_spec_l19S 3 0 b0 o13), .arr .raw 7 (o13.list_.map (c_T_spec_l19X 0 false)), .arr .clo 4 (l16.map (c_T_impl_SessReply false)), .box (c_T_impl_SessEvent false e10)]) rfl) ?_
   refine au 4 ?_
   exact Pk.of (thn_normal ⟨(o13, o14, l16, (IntKind.i64.wrap (v5 + 1))), (some_i H).symm, rfl, rfl⟩)
  ·refine T.exit ?_
   refine thn_exit ?_
   exact Pk.of (thn_exit ⟨(b2, f3, l4), (some_i H).symm, rfl, rfl, rfl⟩)
 ·rcases q18 with ⟨b6, f7, l8⟩
  rintro _ _ _ ⟨rfl, rfl, rfl⟩
  refine inB_here ?_
  refine au 7 ?_
  refine T.conv (Cs.frzOwn (t := 5) rfl rfl rfl) ?_
  refine T.ret ?_
  cases some_i H
  exact ⟨trivial, _, (.tmp _ _ _ _ rfl (.tmp _ _ _ _ rfl .nil)), ⟨[2, 3, 0], Part.of (by decide) (.cons _ _ _ _ rfl (.cons _ _ _ _ (ren_at rfl (ren_rawO fun _ => rfl)) (.cons _ _ _ _ rfl .nil))), rfl⟩⟩
theorem spec_l19Run_p0 (b0 : Bool) (b1 : Bool) {a0 : T_impl_SessConf} {a1 : (List T_impl_SessEvent)} {x0' : T_spec_l19S} {x1' : (List T_impl_SessReply)} {x2' : (List (Option (List ByteArray)))} (H : spec_l19Run a0 a1 = some (x0', x1', x2')) : St Tryd.prog 16 [.agg (c_T_impl_SessConf b0 a0), .im b1 (a1.map (c_T_impl_SessEvent false))] [] (.tup [.bx 0 0, .im false (x1'.map (c_T_impl_SessReply false))]) [.box (k_spec_l19S 1 2 b0 (⟨x0'.c_, x0'.now_, x0'.given_, x0'.list_⟩ : T_spec_l19S)), .arr .raw 7 (x0'.list_.map (c_T_spec_l19X 2 false)), .afm 1 (x2'.map (c_ax (c_str)))] :=
 CallT.sel (spec_l19Run_p b0 b1 H)
theorem en_16 : En Tryd.prog 16 := .of Tryd.func16 rfl rfl
noncomputable def spec_RunSessions (a0 : T_impl_SessConf) (a1 : (List T_impl_SessEvent)) : Option (List T_impl_SessReply) :=
  (spec_GoodSessConf a0).bind fun r1 => cond ((!r1) || decide ((a1.length : Int) > 200)) (some ([] : List T_impl_SessReply)) ((spec_l19Run a0 a1).bind fun r3 => (match r3 with | (o5, o6, o7) => some o6))
theorem spec_RunSessions_p (b0 : Bool) (b1 : Bool) {a0 : T_impl_SessConf} {a1 : (List T_impl_SessEvent)} {R0 : (List T_impl_SessReply)} (H : spec_RunSessions a0 a1 = some R0) : Pure Tryd.prog 6 [.agg (c_T_impl_SessConf b0 a0), .im b1 (a1.map (c_T_impl_SessEvent false))] (.im false (R0.map (c_T_impl_SessReply false))) := by
 refine CallT.of_TN (n := 22) Tryd.func6 rfl rfl rfl rfl ?_
 refine au 9 ?_
 obtain ⟨r1, h2, H⟩ := bind_s H
 refine TL.st rfl rfl rfl (o_callP rfl en_15 rfl rfl (.cons _ _ _ _ (Lent.aggL (.cons _ _ _ _ (.imv _ _) (.cons _ _ _ _ (.cl _ rfl) (.cons _ _ _ _ (.cl _ rfl) .nil)))) .nil) (spec_GoodSessConf_p b0 h2)) ?_
 refine au 3 ?_
 refine TL.gcq rfl rfl rfl (.bool _) rfl rfl (fun h => o_lenL (f := c_T_impl_SessEvent false) rfl rfl (gv h rfl)) ?_
 refine au 3 ?_
 refine T.cH H (fun H h => ?_) (fun H h => ?_)
 ·refine au 5 ?_
  refine thn_ret ?_
  cases some_i H
  exact ⟨trivial, _, (.tmp _ _ _ _ rfl .nil), .nil⟩
 ·refine au 5 ?_
  obtain ⟨r3, h4, H⟩ := bind_s H
  rcases r3 with ⟨o5, o6, o7⟩
  refine TL.st rfl rfl rfl (o_callM [] rfl en_16 rfl rfl (spec_l19Run_p0  b0 b1 h4) rfl (by decide) .nil rfl rfl (.cons _ _ _ _ rfl (.cons _ _ _ _ (ren_rawO fun _ => rfl) (.cons _ _ _ _ rfl .nil))) rfl) ?_
  refine au 12 ?_
  cases some_i H
  exact ⟨trivial, _, (.tmp _ _ _ _ rfl .nil), (.cl _ rfl)⟩
theorem en_6 : En Tryd.prog 6 := .of Tryd.func6 rfl rfl
theorem eqT_31 : ∀ a b : T_impl_SessReply, EqT Tryd.prog true 10000 31 [] 0 (c_T_impl_SessReply false a) (c_T_impl_SessReply false b) (a == b) := fun a b => .struct rfl (by kernel_rfl) (.cons (c := [.int .i64 a.Err_]) (d := [.int .i64 b.Err_]) rfl rfl tyS_3 rfl rfl (fun _ => rfl) (fun h => Bool.noConfusion h) (fun _ => ne_struct rfl rfl) (.int rfl) (.cons (c := [.str a.Id_]) (d := [.str b.Id_]) rfl rfl tyS_9 rfl rfl (fun _ => rfl) (fun h => Bool.noConfusion h) (fun _ => ne_struct rfl rfl) (.str rfl) (.cons (c := [.str a.User_]) (d := [.str b.User_]) rfl rfl tyS_9 rfl rfl (fun _ => rfl) (fun h => Bool.noConfusion h) (fun _ => ne_struct rfl rfl) (.str rfl) (.cons (c := [.int .i64 a.Level_]) (d := [.int .i64 b.Level_]) rfl rfl tyS_3 rfl rfl (fun _ => rfl) (fun h => Bool.noConfusion h) (fun _ => ne_struct rfl rfl) (.int rfl) .nil))))
theorem eqG_31 : Program.eqGuardType Tryd.prog Tryd.prog.depth 31 = false := by kernel_rfl
noncomputable def impl_SignedIn_l1 (a2 : Int) (o3 : T_impl_ysessions) (o4 : (List T_impl_ysession)) (o5 : (List (Option (List ByteArray)))) : (List T_impl_SessReply × Int) → Option ((List T_impl_SessReply × Int) ⊕ List T_impl_SessReply) := fun s => match s with
  | (l6, v7) => cond (decide (v7 < (o3.list_.length : Int))) ((idx o3.list_ v7).bind fun e10 => (idx o4 e10).bind fun w12 => (cond (!w12.dead_) (impl_ysessions_over e10 a2 o3 o4 o5) (some (default))).bind fun r14 => cond ((!w12.dead_) && (!r14)) ((impl_ysession_id e10 o4 o5).bind fun r16 => (app l6 ([(⟨0, r16, w12.user_, w12.level_⟩ : T_impl_SessReply)] : List T_impl_SessReply)).bind fun l18 => some (.inl (l18, (IntKind.i64.wrap (v7 + 1))))) (some (.inl (l6, (IntKind.i64.wrap (v7 + 1)))))) (some (.inr l6))
noncomputable def impl_SignedIn (a0 : T_impl_SessConf) (a1 : (List T_impl_SessEvent)) (a2 : Int) : Option (List T_impl_SessReply) :=
  (impl_yrunSessions a0 a1).bind fun r1 => (match r1 with | .inl (o3, o4, o5) => cond ((!true) || decide (a2 < o3.now_)) (some ([] : List T_impl_SessReply)) ((loopO (impl_SignedIn_l1 a2 o3 o4 o5) (([] : List T_impl_SessReply), 0)).bind fun l8 => (match l8 with | l8 => some l8)) | .inr _ => cond ((!false) || false) (some ([] : List T_impl_SessReply)) (none))
theorem impl_SignedIn_p (b0 : Bool) (b1 : Bool) {a0 : T_impl_SessConf} {a1 : (List T_impl_SessEvent)} {a2 : Int} {R0 : (List T_impl_SessReply)} (H : impl_SignedIn a0 a1 a2 = some R0) : Pure Tryd.prog 7 [.agg (c_T_impl_SessConf b0 a0), .im b1 (a1.map (c_T_impl_SessEvent false)), .int .i64 a2] (.im false (R0.map (c_T_impl_SessReply false))) := by
 refine CallT.of_TN (n := 65) Tryd.func7 rfl rfl rfl rfl ?_
 refine au 9 ?_
 obtain ⟨r1, h2, H⟩ := bind_s H
 rcases r1 with ⟨o3, o4, o5⟩ | ⟨⟩
 ·refine TL.st rfl rfl rfl (o_callM [] rfl en_14 rfl rfl (impl_yrunSessions_p0  b0 b1 h2) rfl (by decide) .nil rfl rfl (.cons _ _ _ _ rfl (.cons _ _ _ _ (ren_rawO fun _ => rfl) (.cons _ _ _ _ rfl (.cons _ _ _ _ (ren_famO fun _ => rfl) (.cons _ _ _ _ rfl .nil))))) rfl) ?_
  refine au 14 ?_
  refine TL.gcq rfl rfl rfl (.bool _) rfl rfl (fun h => o_nilCheck rfl (gv h rfl) rfl) ?_
  refine TL.gcq rfl rfl rfl (.bool _) rfl rfl (fun h => o_fieldAddr rfl rfl rfl tyS_3 (by decide) (gv h rfl) rfl ⟨_, rfl, Nat.le_of_ble_eq_true rfl⟩) ?_
  refine TL.gcq rfl rfl rfl (.bool _) rfl rfl (fun h => o_loadBx rfl tyS_3 (gv h rfl) rfl (nb rfl) rfl) ?_
  refine TL.gcq rfl rfl rfl (.bool _) rfl rfl (fun h => o_ari rfl (gv h rfl) (gv h rfl) rfl) ?_
  refine au 2 ?_
  refine T.cH H (fun H h => ?_) (fun H h => ?_)
  ·refine au 5 ?_
   refine thn_ret ?_
   cases some_i H
   exact ⟨trivial, _, (.tmp _ _ _ _ rfl .nil), .nil⟩
  ·refine au 12 ?_
   refine TL.st rfl rfl rfl (o_lenOwn (f := c_px 4) rfl rfl rfl rfl (List.length_map ..)) ?_
   refine au 3 ?_
   refine T.conv (Cs.own (t := 9) 4 rfl (by decide)) ?_
   obtain ⟨l8, h21, H⟩ := bind_s H
   refine T.lq (fun s => match s with | (l6, v7) => [(2, .int .i64 a2), (7, .bx 1 0), (9, .hd 6 (l6.map (c_T_impl_SessReply false)).length 0 (l6.map (c_T_impl_SessReply false)).length), (31, .hd 2 o3.list_.length 0 o3.list_.length), (32, .int .i64 (o3.list_.length : Int)), (33, .int .i64 v7)]) (fun s => match s with | (l6, v7) => [.box (c_T_impl_SessConf b0 a0), .box (k_impl_ysessions 2 3 4 b0 o3), .arr .raw 1 (o3.list_.map (c_px 4)), .arr .clo 4 (o3.reply_.map (c_T_impl_SessReply false)), .fam (o4.map (c_T_impl_ysession 5 false)), .afm 1 (o5.map (c_ax (c_str))), .arr .clo 4 (l6.map (c_T_impl_SessReply false))]) (fun q ex fr σ => match q with | l8 => ex = .exit 0 ∧ fr = [(9, .hd 6 (l8.map (c_T_impl_SessReply false)).length 0 (l8.map (c_T_impl_SessReply false)).length)] ∧ σ = [.box (c_T_impl_SessConf b0 a0), .box (k_impl_ysessions 2 3 4 b0 o3), .arr .raw 1 (o3.list_.map (c_px 4)), .arr .clo 4 (o3.reply_.map (c_T_impl_SessReply false)), .fam (o4.map (c_T_impl_ysession 5 false)), .afm 1 (o5.map (c_ax (c_str))), .arr .clo 4 (l8.map (c_T_impl_SessReply false))]) h21 ?_ ?_
   ·rintro ⟨l6, v7⟩ y9 H
    refine au 5 ?_
    refine T.cH H (fun H h => ?_) (fun H h => ?_)
    ·refine au 5 ?_
     obtain ⟨e10, h11, H⟩ := bind_s H
     refine TL.st rfl rfl rfl (o_ixh (f := c_px 4) rfl rfl tyS_55 rfl rfl rfl (List.length_map ..) h11 rfl) ?_
     refine TL.st rfl rfl rfl (o_loadEl rfl tyS_55 rfl rfl (List.length_map ..) (by rw [List.getElem?_map, (idx_s h11).2]; rfl) (nb rfl) rfl) ?_
     refine au 5 ?_
     obtain ⟨w12, h13, H⟩ := bind_s H
     refine TL.st rfl rfl rfl (o_nilCheckP rfl rfl rfl h13) ?_
     refine TL.st rfl rfl rfl (o_fieldAddrP (a := w12) rfl rfl rfl tyS_4 (by decide) rfl rfl h13) ?_
     refine TL.st rfl rfl rfl (o_loadP (a := w12) rfl tyS_4 rfl rfl h13 (nb rfl) rfl) ?_
     refine au 5 ?_
     obtain ⟨r14, h15, H⟩ := bind_s H
     refine TL.gc rfl rfl rfl (.bool _) rfl rfl (fun h => o_callM [1, 2, 4, 5, 3] rfl en_17 rfl (evl_3 (gv h rfl) (gv h rfl) (gv h rfl)) (impl_ysessions_over_p b0 (cond_t h h15)) rfl (by decide) (.cons _ _ _ _ rfl (.cons _ _ _ _ (ren_at rfl (ren_rawO fun _ => rfl)) (.cons _ _ _ _ (ren_at rfl (ren_famO fun _ => rfl)) (.cons _ _ _ _ rfl (.cons _ _ _ _ rfl .nil))))) rfl rfl (.cons _ _ _ _ rfl (.cons _ _ _ _ (ren_rawO fun _ => rfl) (.cons _ _ _ _ (ren_famO fun _ => rfl) (.cons _ _ _ _ rfl (.cons _ _ _ _ rfl .nil))))) rfl) (fun h => by cases cond_f h h15; rfl) ?_
     refine au 3 ?_
     refine T.cH H (fun H h => ?_) (fun H h => ?_)
     ·refine T.drawn rfl ?_
      refine ad 2 ?_
      obtain ⟨r16, h17, H⟩ := bind_s H
      refine TD.rs rfl rfl (o_callM [4, 5] rfl en_18 rfl rfl (impl_ysession_id_p  h17) rfl (by decide) (.cons _ _ _ _ (ren_at rfl (ren_famO fun _ => rfl)) (.cons _ _ _ _ rfl .nil)) rfl rfl (.cons _ _ _ _ (ren_famO fun _ => rfl) (.cons _ _ _ _ rfl .nil)) rfl) ?_
      refine TD.qs rfl rfl (fun _ => o_move rfl rfl) ?_
      refine TD.rs rfl rfl (o_nilCheckP rfl rfl rfl h13) ?_
      refine TD.rs rfl rfl (o_fieldAddrP (a := w12) rfl rfl rfl tyS_9 (by decide) rfl rfl h13) ?_
      refine TD.rs rfl rfl (o_loadP (a := w12) rfl tyS_9 rfl rfl h13 (nb rfl) rfl) ?_
      refine TD.qs rfl rfl (fun _ => o_move rfl rfl) ?_
      refine TD.rs rfl rfl (o_nilCheckP rfl rfl rfl h13) ?_
      refine TD.rs rfl rfl (o_fieldAddrP (a := w12) rfl rfl rfl tyS_3 (by decide) rfl rfl h13) ?_
      refine TD.rs rfl rfl (o_loadP (a := w12) rfl tyS_3 rfl rfl h13 (nb rfl) rfl) ?_
      refine TD.qs rfl rfl (fun _ => o_build rfl ⟨_, fun _ => rfl, rfl⟩ rfl rfl rfl) ?_
      refine TD.qs rfl rfl (fun _ => o_sliceIm (rows := ([(⟨0, r16, w12.user_, w12.level_⟩ : T_impl_SessReply)] : List T_impl_SessReply).map (c_T_impl_SessReply false)) rfl rfl tyS_31 ⟨_, rfl, rfl⟩ (by decide) rfl rfl rfl rfl rfl rfl) ?_
      obtain ⟨l18, h19, H⟩ := bind_s H
      refine TD.as rfl rfl (o_ap (f := c_T_impl_SessReply false) (xs := l6) (ys := ([(⟨0, r16, w12.user_, w12.level_⟩ : T_impl_SessReply)] : List T_impl_SessReply)) rfl rfl tyE_31 rfl rfl rfl rfl (by decide) rfl (fun _ => rfl) h19) ?_
      refine TD.qs rfl rfl (fun _ => o_assign rfl rfl) ?_
      refine TD.nil ⟨rfl, ?_⟩
      refine au 4 ?_
      exact Pk.of (thn_normal ⟨(l18, (IntKind.i64.wrap (v7 + 1))), (some_i H).symm, rfl, rfl⟩)
     ·refine au 5 ?_
      exact Pk.of (thn_normal ⟨(l6, (IntKind.i64.wrap (v7 + 1))), (some_i H).symm, rfl, rfl⟩)
    ·refine T.exit ?_
     refine thn_exit ?_
     exact Pk.of (thn_exit ⟨l6, (some_i H).symm, rfl, rfl, rfl⟩)
   ·rintro _ _ _ ⟨rfl, rfl, rfl⟩
    refine inB_here ?_
    refine au 6 ?_
    cases some_i H
    exact ⟨trivial, _, (.tmp _ _ _ _ rfl .nil), (.own rfl (by decide) rfl)⟩
 ·refine TL.st rfl rfl rfl (o_callM [] rfl en_14 rfl rfl (impl_yrunSessions_p1  b0 b1 h2) rfl (by decide) .nil rfl rfl .nil rfl) ?_
  refine au 12 ?_
  refine TL.gcq rfl rfl rfl (.bool _) rfl rfl (fun h => show Does _ _ _ _ (.int .i64 0) _ from absurd h (by decide)) ?_
  refine TL.gcq rfl rfl rfl (.bool _) rfl rfl (fun h => show Does _ _ _ _ (.any) _ from absurd h (by decide)) ?_
  refine TL.gcq rfl rfl rfl (.bool _) rfl rfl (fun h => show Does _ _ _ _ (.any) _ from absurd h (by decide)) ?_
  refine TL.gcq rfl rfl rfl (.bool _) rfl rfl (fun h => show Does _ _ _ _ (.any) _ from absurd h (by decide)) ?_
  refine TL.gcq rfl rfl rfl (.bool _) rfl rfl (fun h => show Does _ _ _ _ (.int .i64 0) _ from absurd h (by decide)) ?_
  refine TL.gcq rfl rfl rfl (.bool _) rfl rfl (fun h => show Does _ _ _ _ (.bool false) _ from absurd h (by decide)) ?_
  refine au 2 ?_
  refine T.cH H (fun H h => ?_) (fun H h => ?_)
  ·refine au 5 ?_
   refine thn_ret ?_
   cases some_i H
   exact ⟨trivial, _, (.tmp _ _ _ _ rfl .nil), .nil⟩
  ·cases H
theorem en_7 : En Tryd.prog 7 := .of Tryd.func7 rfl rfl
noncomputable def spec_SignedIn_l1 (a2 : Int) (o5 : T_spec_l19S) (o7 : (List (Option (List ByteArray)))) : (List T_impl_SessReply × Int) → Option ((List T_impl_SessReply × Int) ⊕ List T_impl_SessReply) := fun s => match s with
  | (l8, v9) => cond (decide (v9 < (o5.list_.length : Int))) ((idx o5.list_ v9).bind fun e12 => (cond (!e12.dead_) (spec_l19S_over e12 a2 o5 o7) (some (default))).bind fun r14 => cond ((!e12.dead_) && (!r14)) ((spec_l19Told e12 o7).bind fun r16 => (app l8 ([r16] : List T_impl_SessReply)).bind fun l18 => some (.inl (l18, (IntKind.i64.wrap (v9 + 1))))) (some (.inl (l8, (IntKind.i64.wrap (v9 + 1)))))) (some (.inr l8))
noncomputable def spec_SignedIn (a0 : T_impl_SessConf) (a1 : (List T_impl_SessEvent)) (a2 : Int) : Option (List T_impl_SessReply) :=
  (spec_GoodSessConf a0).bind fun r1 => cond ((!r1) || decide ((a1.length : Int) > 200)) (some ([] : List T_impl_SessReply)) ((spec_l19Run a0 a1).bind fun r3 => (match r3 with | (o5, o6, o7) => cond (decide (a2 < o5.now_)) (some ([] : List T_impl_SessReply)) ((loopO (spec_SignedIn_l1 a2 o5 o7) (([] : List T_impl_SessReply), 0)).bind fun l10 => (match l10 with | l10 => some l10))))
theorem spec_SignedIn_p (b0 : Bool) (b1 : Bool) {a0 : T_impl_SessConf} {a1 : (List T_impl_SessEvent)} {a2 : Int} {R0 : (List T_impl_SessReply)} (H : spec_SignedIn a0 a1 a2 = some R0) : Pure Tryd.prog 8 [.agg (c_T_impl_SessConf b0 a0), .im b1 (a1.map (c_T_impl_SessEvent false)), .int .i64 a2] (.im false (R0.map (c_T_impl_SessReply false))) := by
 refine CallT.of_TN (n := 58) Tryd.func8 rfl rfl rfl rfl ?_
 refine au 9 ?_
 obtain ⟨r1, h2, H⟩ := bind_s H
 refine TL.st rfl rfl rfl (o_callP rfl en_15 rfl rfl (.cons _ _ _ _ (Lent.aggL (.cons _ _ _ _ (.imv _ _) (.cons _ _ _ _ (.cl _ rfl) (.cons _ _ _ _ (.cl _ rfl) .nil)))) .nil) (spec_GoodSessConf_p b0 h2)) ?_
 refine au 3 ?_
 refine TL.gcq rfl rfl rfl (.bool _) rfl rfl (fun h => o_lenL (f := c_T_impl_SessEvent false) rfl rfl (gv h rfl)) ?_
 refine au 3 ?_
 refine T.cH H (fun H h => ?_) (fun H h => ?_)
 ·refine au 5 ?_
  refine thn_ret ?_
  cases some_i H
  exact ⟨trivial, _, (.tmp _ _ _ _ rfl .nil), .nil⟩
 ·refine au 5 ?_
  obtain ⟨r3, h4, H⟩ := bind_s H
  rcases r3 with ⟨o5, o6, o7⟩
  refine TL.st rfl rfl rfl (o_callM [] rfl en_16 rfl rfl (spec_l19Run_p0  b0 b1 h4) rfl (by decide) .nil rfl rfl (.cons _ _ _ _ rfl (.cons _ _ _ _ (ren_rawO fun _ => rfl) (.cons _ _ _ _ rfl .nil))) rfl) ?_
  refine au 16 ?_
  refine T.cH H (fun H h => ?_) (fun H h => ?_)
  ·refine au 5 ?_
   refine thn_ret ?_
   cases some_i H
   exact ⟨trivial, _, (.tmp _ _ _ _ rfl .nil), .nil⟩
  ·refine au 12 ?_
   refine TL.st rfl rfl rfl (o_lenOwn (f := c_T_spec_l19X 3 false) rfl rfl rfl rfl (List.length_map ..)) ?_
   refine au 3 ?_
   refine T.conv (Cs.own (t := 9) 4 rfl (by decide)) ?_
   obtain ⟨l10, h21, H⟩ := bind_s H
   refine T.lq (fun s => match s with | (l8, v9) => [(2, .int .i64 a2), (7, .bx 1 0), (9, .hd 4 (l8.map (c_T_impl_SessReply false)).length 0 (l8.map (c_T_impl_SessReply false)).length), (35, .hd 2 o5.list_.length 0 o5.list_.length), (36, .int .i64 (o5.list_.length : Int)), (37, .int .i64 v9)]) (fun s => match s with | (l8, v9) => [.box (c_T_impl_SessConf b0 a0), .box (k_spec_l19S 2 3 b0 o5), .arr .raw 7 (o5.list_.map (c_T_spec_l19X 3 false)), .afm 1 (o7.map (c_ax (c_str))), .arr .clo 4 (l8.map (c_T_impl_SessReply false))]) (fun q ex fr σ => match q with | l10 => ex = .exit 0 ∧ fr = [(9, .hd 4 (l10.map (c_T_impl_SessReply false)).length 0 (l10.map (c_T_impl_SessReply false)).length)] ∧ σ = [.box (c_T_impl_SessConf b0 a0), .box (k_spec_l19S 2 3 b0 o5), .arr .raw 7 (o5.list_.map (c_T_spec_l19X 3 false)), .afm 1 (o7.map (c_ax (c_str))), .arr .clo 4 (l10.map (c_T_impl_SessReply false))]) h21 ?_ ?_
   ·rintro ⟨l8, v9⟩ y11 H
    refine au 5 ?_
    refine T.cH H (fun H h => ?_) (fun H h => ?_)
    ·refine au 5 ?_
     obtain ⟨e12, h13, H⟩ := bind_s H
     refine TL.st rfl rfl rfl (o_ixh (f := c_T_spec_l19X 3 false) rfl rfl tyS_65 rfl rfl rfl (List.length_map ..) h13 rfl) ?_
     refine TL.st rfl rfl rfl (o_loadEl rfl tyS_65 rfl rfl (List.length_map ..) (by rw [List.getElem?_map, (idx_s h13).2]; rfl) (nb rfl) rfl) ?_
     refine au 10 ?_
     refine TL.gcq rfl rfl rfl (.bool _) rfl rfl (fun h => o_loadBx rfl tyS_65 rfl rfl (nb rfl) rfl) ?_
     refine TL.gcq rfl rfl rfl (.bool _) rfl rfl (fun h => o_move rfl rfl) ?_
     obtain ⟨r14, h15, H⟩ := bind_s H
     refine TL.gc rfl rfl rfl (.bool _) rfl rfl (fun h => o_callM [1, 2, 3] rfl en_19 rfl (evl_3 (gv h rfl) (gv h rfl) (gv h rfl)) (spec_l19S_over_p b0 (cond_t h h15)) rfl (by decide) (.cons _ _ _ _ rfl (.cons _ _ _ _ (ren_at rfl (ren_rawO fun _ => rfl)) (.cons _ _ _ _ rfl .nil))) rfl rfl (.cons _ _ _ _ rfl (.cons _ _ _ _ (ren_rawO fun _ => rfl) (.cons _ _ _ _ rfl .nil))) rfl) (fun h => by cases cond_f h h15; rfl) ?_
     refine au 3 ?_
     refine T.conv (Cs.eqS (σ' := [_, _, _, _, _, .box (c_T_spec_l19X 3 false e12)]) rfl) ?_
     refine T.cH H (fun H h => ?_) (fun H h => ?_)
     ·refine au 3 ?_
      obtain ⟨r16, h17, H⟩ := bind_s H
      refine TL.st rfl rfl rfl (o_callS [3] rfl en_20 rfl rfl (spec_l19Told_p  h17) rfl (by decide) (.cons _ _ _ _ rfl .nil) rfl rfl rfl) ?_
      refine TL.st rfl rfl rfl (o_sliceIm (rows := ([r16] : List T_impl_SessReply).map (c_T_impl_SessReply false)) rfl rfl tyS_31 ⟨_, rfl, rfl⟩ (by decide) rfl rfl rfl rfl rfl rfl) ?_
      obtain ⟨l18, h19, H⟩ := bind_s H
      refine TL.st rfl rfl rfl (o_ap (f := c_T_impl_SessReply false) (xs := l8) (ys := ([r16] : List T_impl_SessReply)) rfl rfl tyE_31 rfl rfl rfl rfl (by decide) rfl (fun _ => rfl) h19) ?_
      refine au 6 ?_
      exact Pk.of (thn_normal ⟨(l18, (IntKind.i64.wrap (v9 + 1))), (some_i H).symm, rfl, rfl⟩)
     ·refine au 5 ?_
      exact Pk.of (thn_normal ⟨(l8, (IntKind.i64.wrap (v9 + 1))), (some_i H).symm, rfl, rfl⟩)
    ·refine T.exit ?_
     refine thn_exit ?_
     exact Pk.of (thn_exit ⟨l8, (some_i H).symm, rfl, rfl, rfl⟩)
   ·rintro _ _ _ ⟨rfl, rfl, rfl⟩
    refine inB_here ?_
    refine au 6 ?_
    cases some_i H
    exact ⟨trivial, _, (.tmp _ _ _ _ rfl .nil), (.own rfl (by decide) rfl)⟩
theorem en_8 : En Tryd.prog 8 := .of Tryd.func8 rfl rfl
noncomputable def spec_Replaced_l2 (a1 : (List T_impl_SessReply)) (a2 : (List T_impl_SessReply)) (v1 : Int) (e4 : T_impl_SessEvent) : Int → Option (Int ⊕ (Unit ⊕ T_impl_SessEvent)) := fun s => match s with
  | v8 => cond (decide (v8 < (a2.length : Int))) ((idx a2 v8).bind fun e11 => (idx a1 v1).bind fun e13 => cond (e11.Id_.toList == e13.Id_.toList) (some (.inr (.inr (⟨2, 0, e0, e4.Device_, e4.Id_⟩ : T_impl_SessEvent)))) (some (.inl (IntKind.i64.wrap (v8 + 1))))) (some (.inr (.inl ())))
noncomputable def spec_Replaced_l1 (a0 : (List T_impl_SessEvent)) (a1 : (List T_impl_SessReply)) (a2 : (List T_impl_SessReply)) : Int → Option (Int ⊕ (Unit ⊕ T_impl_SessEvent)) := fun s => match s with
  | v1 => cond (decide (v1 < (a0.length : Int))) ((idx a0 v1).bind fun e4 => (gdO (!(e4.Kind_ != 3)) (idx a1 v1)).bind fun e6 => cond ((e4.Kind_ != 3) || (e6.Err_ != 0)) (some (.inl (IntKind.i64.wrap (v1 + 1)))) ((loopO (spec_Replaced_l2 a1 a2 v1 e4) 0).bind fun q15 => (match q15 with | .inl _ => some (.inl (IntKind.i64.wrap (v1 + 1))) | .inr q9 => some (.inr (.inr q9))))) (some (.inr (.inl ())))
noncomputable def spec_Replaced (a0 : (List T_impl_SessEvent)) (a1 : (List T_impl_SessReply)) (a2 : (List T_impl_SessReply)) : Option T_impl_SessEvent :=
  (loopO (spec_Replaced_l1 a0 a1 a2) 0).bind fun q17 => (match q17 with | .inl _ => some (⟨0, 0, e0, e0, e0⟩ : T_impl_SessEvent) | .inr q2 => some q2)
theorem spec_Replaced_p (b0 : Bool) (b1 : Bool) (b2 : Bool) {a0 : (List T_impl_SessEvent)} {a1 : (List T_impl_SessReply)} {a2 : (List T_impl_SessReply)} {R0 : T_impl_SessEvent} (H : spec_Replaced a0 a1 a2 = some R0) : Pure Tryd.prog 9 [.im b0 (a0.map (c_T_impl_SessEvent false)), .im b1 (a1.map (c_T_impl_SessReply false)), .im b2 (a2.map (c_T_impl_SessReply false))] (.agg (c_T_impl_SessEvent false R0)) := by
 refine CallT.of_TN (n := 51) Tryd.func9 rfl rfl rfl rfl ?_
 refine au 8 ?_
 refine TL.st rfl rfl rfl (o_lenL (f := c_T_impl_SessEvent false) rfl rfl rfl) ?_
 refine au 3 ?_
 obtain ⟨q17, h18, H⟩ := bind_s H
 refine T.lq (fun s => match s with | v1 => [(1, .im b1 (a1.map (c_T_impl_SessReply false))), (2, .im b2 (a2.map (c_T_impl_SessReply false))), (6, .bx 0 0), (11, .im b0 (a0.map (c_T_impl_SessEvent false))), (12, .int .i64 (a0.length : Int)), (13, .int .i64 v1)]) (fun s => match s with | v1 => [.box [.int .i64 0, .int .i64 0, .str e0, .str e0, .str e0]]) (fun q ex fr σ => match q with | .inl _ => ex = .exit 0 ∧ fr = [(6, .bx 0 0)] ∧ σ = [.box [.int .i64 0, .int .i64 0, .str e0, .str e0, .str e0]] | .inr q2 => ex = .ret ∧ RetN Tryd.prog [.cell 6 34] (fun v τ => Told τ v (.agg (c_T_impl_SessEvent false q2))) .ret fr σ) h18 ?_ ?_
 ·rintro v1 y3 H
  refine au 5 ?_
  refine T.cH H (fun H h => ?_) (fun H h => ?_)
  ·refine au 6 ?_
   obtain ⟨e4, h5, H⟩ := bind_s H
   refine TL.st rfl rfl rfl (o_ix (f := c_T_impl_SessEvent false) rfl rfl tyS_34 rfl rfl h5 rfl) ?_
   refine au 14 ?_
   obtain ⟨e6, h7, H⟩ := bind_s H
   refine TL.gcq rfl rfl rfl (.bool _) rfl rfl (fun h => o_ix (f := c_T_impl_SessReply false) rfl rfl tyS_31 (gv h rfl) (gv h rfl) (gdO_t h7 h) rfl) ?_
   refine TL.gcq rfl rfl rfl (.bool _) rfl rfl (fun h => o_fieldAddr rfl rfl rfl tyS_3 (by decide) (gv h rfl) rfl trivial) ?_
   refine TL.gcq rfl rfl rfl (.bool _) rfl rfl (fun h => o_loadRf rfl tyS_3 (gv h rfl) (nb rfl) rfl) ?_
   refine au 3 ?_
   refine T.cH H (fun H h => ?_) (fun H h => ?_)
   ·refine T.exit ?_
    refine thn_exit ?_
    refine inB_here ?_
    refine au 4 ?_
    exact Pk.of (thn_normal ⟨(IntKind.i64.wrap (v1 + 1)), (some_i H).symm, rfl, rfl⟩)
   ·refine au 4 ?_
    refine TL.st rfl rfl rfl (o_lenL (f := c_T_impl_SessReply false) rfl rfl rfl) ?_
    refine au 3 ?_
    obtain ⟨q15, h16, H⟩ := bind_s H
    refine T.lq (fun s => match s with | v8 => [(1, .im b1 (a1.map (c_T_impl_SessReply false))), (2, .im b2 (a2.map (c_T_impl_SessReply false))), (6, .bx 0 0), (7, .int .i64 v1), (8, .bx 1 0), (11, .im b0 (a0.map (c_T_impl_SessEvent false))), (12, .int .i64 (a0.length : Int)), (13, .int .i64 v1), (29, .im b2 (a2.map (c_T_impl_SessReply false))), (30, .int .i64 (a2.length : Int)), (31, .int .i64 v8)]) (fun s => match s with | v8 => [.box [.int .i64 0, .int .i64 0, .str e0, .str e0, .str e0], .box (c_T_impl_SessEvent false e4)]) (fun q ex fr σ => match q with | .inl _ => ex = .exit 2 ∧ fr = [(1, .im b1 (a1.map (c_T_impl_SessReply false))), (2, .im b2 (a2.map (c_T_impl_SessReply false))), (6, .bx 0 0), (11, .im b0 (a0.map (c_T_impl_SessEvent false))), (12, .int .i64 (a0.length : Int)), (13, .int .i64 v1)] ∧ σ = [.box [.int .i64 0, .int .i64 0, .str e0, .str e0, .str e0], .box (c_T_impl_SessEvent false e4)] | .inr q9 => ex = .ret ∧ RetN Tryd.prog [.cell 6 34] (fun v τ => Told τ v (.agg (c_T_impl_SessEvent false q9))) .ret fr σ) h16 ?_ ?_
    ·rintro v8 y10 H
     refine au 5 ?_
     refine T.cH H (fun H h => ?_) (fun H h => ?_)
     ·refine au 5 ?_
      obtain ⟨e11, h12, H⟩ := bind_s H
      refine TL.st rfl rfl rfl (o_ix (f := c_T_impl_SessReply false) rfl rfl tyS_31 rfl rfl h12 rfl) ?_
      refine au 5 ?_
      refine T.drawn rfl ?_
      refine ad 4 ?_
      obtain ⟨e13, h14, H⟩ := bind_s H
      refine TD.qs rfl rfl (fun _ => o_ix (f := c_T_impl_SessReply false) rfl rfl tyS_31 rfl rfl h14 rfl) ?_
      refine TD.qs rfl rfl (fun _ => o_fieldAddr rfl rfl rfl tyS_9 (by decide) rfl rfl trivial) ?_
      refine TD.qs rfl rfl (fun _ => o_loadRf rfl tyS_9 rfl (nb rfl) rfl) ?_
      refine TD.qs rfl rfl (fun _ => o_str rfl rfl rfl rfl) ?_
      refine TD.nil ⟨rfl, ?_⟩
      refine thn_normal ?_
      refine T.cH H (fun H h => ?_) (fun H h => ?_)
      ·refine au 9 ?_
       refine T.conv (Cs.eqS (σ' := [.box [.int .i64 2, .int .i64 0, .str e0, .str e4.Device_, .str e4.Id_], _, .box (c_T_impl_SessReply false e11)]) rfl) ?_
       refine T.ret ?_
       refine inB_ret (thn_ret ?_)
       exact Pk.id (thn_ret ⟨.inr (⟨2, 0, e0, e4.Device_, e4.Id_⟩ : T_impl_SessEvent), (some_i H).symm, rfl, ⟨trivial, _, (.cell _ _ _ _ _ _ _ _ _ _ rfl rfl tyS_34 (nb rfl) rfl .nil), (.cl _ rfl)⟩⟩)
      ·refine au 5 ?_
       exact Pk.of (thn_normal ⟨(IntKind.i64.wrap (v8 + 1)), (some_i H).symm, rfl, rfl⟩)
     ·refine T.exit ?_
      refine thn_exit ?_
      exact Pk.of (thn_exit ⟨.inl (), (some_i H).symm, rfl, rfl, rfl⟩)
    ·rcases q15 with ⟨⟩ | q9
     ·rintro _ _ _ ⟨rfl, rfl, rfl⟩
      refine inB_here ?_
      refine au 4 ?_
      exact Pk.of (thn_normal ⟨(IntKind.i64.wrap (v1 + 1)), (some_i H).symm, rfl, rfl⟩)
     ·rintro _ fr1 σ1 ⟨rfl, hr⟩
      refine inB_ret (inB_ret (thn_ret ?_))
      exact Pk.id (thn_ret ⟨.inr q9, (some_i H).symm, rfl, hr⟩)
  ·refine T.exit ?_
   refine thn_exit ?_
   exact Pk.of (thn_exit ⟨.inl (), (some_i H).symm, rfl, rfl, rfl⟩)
 ·rcases q17 with ⟨⟩ | q2
  ·rintro _ _ _ ⟨rfl, rfl, rfl⟩
   refine inB_here ?_
   refine au 6 ?_
   cases some_i H
   exact ⟨trivial, _, (.cell _ _ _ _ _ _ _ _ _ _ rfl rfl tyS_34 (nb rfl) rfl .nil), (.cl _ rfl)⟩
  ·rintro _ fr1 σ1 ⟨rfl, hr⟩
   refine inB_ret (thn_ret ?_)
   cases some_i H
   exact hr
theorem en_9 : En Tryd.prog 9 := .of Tryd.func9 rfl rfl
noncomputable def laws_FnSessions_l3 (r11 : (List T_impl_SessReply)) (r23 : (List T_impl_SessReply)) : Int → Option (Int ⊕ (Unit ⊕ Bool)) := fun s => match s with
  | v25 => cond (decide (v25 < (r23.length : Int))) ((idx r23 v25).bind fun e34 => (idx r11 0).bind fun e36 => cond (e34.User_.toList == e36.User_.toList) (some (.inr (.inr false))) (some (.inl (IntKind.i64.wrap (v25 + 1))))) (some (.inr (.inl ())))
noncomputable def laws_FnSessions_l2 (r11 : (List T_impl_SessReply)) (r13 : (List T_impl_SessReply)) : Int → Option (Int ⊕ (Unit ⊕ Bool)) := fun s => match s with
  | v15 => cond (decide (v15 < (r11.length : Int))) ((idx r11 v15).bind fun e41 => (idx r13 v15).bind fun e43 => cond (!(e41 == e43)) (some (.inr (.inr false))) (some (.inl (IntKind.i64.wrap (v15 + 1))))) (some (.inr (.inl ())))
noncomputable def laws_FnSessions_l1 (r5 : (List T_impl_SessReply)) (r7 : (List T_impl_SessReply)) : Int → Option (Int ⊕ (Unit ⊕ Bool)) := fun s => match s with
  | v9 => cond (decide (v9 < (r5.length : Int))) ((idx r5 v9).bind fun e48 => (idx r7 v9).bind fun e50 => cond (!(e48 == e50)) (some (.inr (.inr false))) (some (.inl (IntKind.i64.wrap (v9 + 1))))) (some (.inr (.inl ())))
noncomputable def laws_FnSessions (a0 : (List Int)) : Option Bool :=
  cond (decide ((a0.length : Int) > 1048576)) (some true) ((spec_DrawSignedIn a0).bind fun q => (match q with | (r1, r2, r3) => (impl_RunSessions r1 r2).bind fun r5 => (spec_RunSessions r1 r2).bind fun r7 => cond ((r5.length : Int) != (r7.length : Int)) (some false) ((loopO (laws_FnSessions_l1 r5 r7) 0).bind fun q52 => (match q52 with | .inl _ => (impl_SignedIn r1 r2 r3).bind fun r11 => (spec_SignedIn r1 r2 r3).bind fun r13 => cond ((r11.length : Int) != (r13.length : Int)) (some false) ((loopO (laws_FnSessions_l2 r11 r13) 0).bind fun q45 => (match q45 with | .inl _ => cond (((r11.length : Int) == 0) || decide ((IntKind.i64.wrap ((r2.length : Int) + 1)) > 200)) (some true) ((app ([] : List T_impl_SessEvent) r2).bind fun l17 => (idx r11 0).bind fun e19 => (app l17 ([(⟨5, r3, e19.User_, e0, e0⟩ : T_impl_SessEvent)] : List T_impl_SessEvent)).bind fun l21 => (impl_SignedIn r1 l21 r3).bind fun r23 => (loopO (laws_FnSessions_l3 r11 r23) 0).bind fun q38 => (match q38 with | .inl _ => (spec_Replaced r2 r5 r11).bind fun r27 => cond (r27.Kind_ == 0) (some true) ((idx l21 (IntKind.i64.wrap ((l21.length : Int) - 1))).bind fun e29 => (impl_SignedIn r1 (l21.set (Int.toNat (IntKind.i64.wrap ((l21.length : Int) - 1))) ({ r27 with Time_ := r3 } : T_impl_SessEvent)) r3).bind fun r31 => some (decide ((r31.length : Int) < (r11.length : Int)))) | .inr q26 => some q26)) | .inr q16 => some q16)) | .inr q10 => some q10))))
theorem laws_FnSessions_p (b0 : Bool) {a0 : (List Int)} {R0 : Bool} (H : laws_FnSessions a0 = some R0) : Pure Tryd.prog 3 [.im b0 (a0.map (c_int .u8))] (.bool R0) := by
 refine CallT.of_TN (n := 139) Tryd.func3 rfl rfl rfl rfl ?_
 refine au 8 ?_
 refine TL.st rfl rfl rfl (o_lenL (f := c_int .u8) rfl rfl rfl) ?_
 refine au 2 ?_
 refine T.cH H (fun H h => ?_) (fun H h => ?_)
 ·refine au 5 ?_
  refine thn_ret ?_
  cases some_i H
  exact ⟨trivial, _, (.tmp _ _ _ _ rfl .nil), (.cl _ rfl)⟩
 ·refine au 4 ?_
  obtain ⟨⟨r1, r2, r3⟩, h4, H⟩ := bind_s H
  refine TL.st rfl rfl rfl (o_callP rfl en_4 rfl rfl (.cons _ _ _ _ (.imv _ _) .nil) (spec_DrawSignedIn_p b0 h4)) ?_
  refine au 13 ?_
  obtain ⟨r5, h6, H⟩ := bind_s H
  refine TL.st rfl rfl rfl (o_callP rfl en_5 rfl rfl (.cons _ _ _ _ (.cl _ rfl) (.cons _ _ _ _ (.cl _ rfl) .nil)) (impl_RunSessions_p false false h6)) ?_
  refine au 6 ?_
  obtain ⟨r7, h8, H⟩ := bind_s H
  refine TL.st rfl rfl rfl (o_callP rfl en_6 rfl rfl (.cons _ _ _ _ (.cl _ rfl) (.cons _ _ _ _ (.cl _ rfl) .nil)) (spec_RunSessions_p false false h8)) ?_
  refine au 6 ?_
  refine TL.st rfl rfl rfl (o_lenL (f := c_T_impl_SessReply false) rfl rfl rfl) ?_
  refine TL.st rfl rfl rfl (o_move rfl rfl) ?_
  refine TL.st rfl rfl rfl (o_lenL (f := c_T_impl_SessReply false) rfl rfl rfl) ?_
  refine au 2 ?_
  refine T.cH H (fun H h => ?_) (fun H h => ?_)
  ·refine au 5 ?_
   refine thn_ret ?_
   cases some_i H
   exact ⟨trivial, _, (.tmp _ _ _ _ rfl .nil), (.cl _ rfl)⟩
  ·refine au 5 ?_
   refine TL.st rfl rfl rfl (o_lenL (f := c_T_impl_SessReply false) rfl rfl rfl) ?_
   refine au 3 ?_
   obtain ⟨q52, h53, H⟩ := bind_s H
   refine T.lq (fun s => match s with | v9 => [(3, .bx 0 0), (4, .im false (r2.map (c_T_impl_SessEvent false))), (5, .int .i64 r3), (6, .im false (r5.map (c_T_impl_SessReply false))), (7, .im false (r7.map (c_T_impl_SessReply false))), (37, .int .i64 (r5.length : Int)), (38, .int .i64 v9)]) (fun s => match s with | v9 => [.box (c_T_impl_SessConf false r1)]) (fun q ex fr σ => match q with | .inl _ => ex = .exit 0 ∧ fr = [(3, .bx 0 0), (4, .im false (r2.map (c_T_impl_SessEvent false))), (5, .int .i64 r3), (6, .im false (r5.map (c_T_impl_SessReply false)))] ∧ σ = [.box (c_T_impl_SessConf false r1)] | .inr q10 => ex = .ret ∧ RetN Tryd.prog [.tmp 2] (fun v τ => Told τ v (.bool q10)) .ret fr σ) h53 ?_ ?_
   ·rintro v9 y47 H
    refine au 5 ?_
    refine T.cH H (fun H h => ?_) (fun H h => ?_)
    ·refine au 9 ?_
     refine T.drawn rfl ?_
     refine ad 2 ?_
     obtain ⟨e48, h49, H⟩ := bind_s H
     refine TD.qs rfl rfl (fun _ => o_ix (f := c_T_impl_SessReply false) rfl rfl tyS_31 rfl rfl h49 rfl) ?_
     refine TD.qs rfl rfl (fun _ => o_loadRf rfl tyS_31 rfl (nb rfl) rfl) ?_
     refine ad 2 ?_
     obtain ⟨e50, h51, H⟩ := bind_s H
     refine TD.qs rfl rfl (fun _ => o_ix (f := c_T_impl_SessReply false) rfl rfl tyS_31 rfl rfl h51 rfl) ?_
     refine TD.qs rfl rfl (fun _ => o_loadRf rfl tyS_31 rfl (nb rfl) rfl) ?_
     refine TD.qs rfl rfl (fun _ => o_neA rfl rfl eqG_31 rfl rfl rfl rfl (eqT_31 e48 e50)) ?_
     refine TD.nil ⟨rfl, ?_⟩
     refine thn_normal ?_
     refine T.cH H (fun H h => ?_) (fun H h => ?_)
     ·refine au 5 ?_
      refine inB_ret (thn_ret ?_)
      exact Pk.id (thn_ret ⟨.inr false, (some_i H).symm, rfl, ⟨trivial, _, (.tmp _ _ _ _ rfl .nil), (.cl _ rfl)⟩⟩)
     ·refine au 5 ?_
      exact Pk.of (thn_normal ⟨(IntKind.i64.wrap (v9 + 1)), (some_i H).symm, rfl, rfl⟩)
    ·refine T.exit ?_
     refine thn_exit ?_
     exact Pk.of (thn_exit ⟨.inl (), (some_i H).symm, rfl, rfl, rfl⟩)
   ·rcases q52 with ⟨⟩ | q10
    ·rintro _ _ _ ⟨rfl, rfl, rfl⟩
     refine inB_here ?_
     refine au 5 ?_
     obtain ⟨r11, h12, H⟩ := bind_s H
     refine TL.st rfl rfl rfl (o_callP rfl en_7 rfl rfl (.cons _ _ _ _ (.cl _ rfl) (.cons _ _ _ _ (.cl _ rfl) (.cons _ _ _ _ (.cl _ rfl) .nil))) (impl_SignedIn_p false false h12)) ?_
     refine au 7 ?_
     obtain ⟨r13, h14, H⟩ := bind_s H
     refine TL.st rfl rfl rfl (o_callP rfl en_8 rfl rfl (.cons _ _ _ _ (.cl _ rfl) (.cons _ _ _ _ (.cl _ rfl) (.cons _ _ _ _ (.cl _ rfl) .nil))) (spec_SignedIn_p false false h14)) ?_
     refine au 6 ?_
     refine TL.st rfl rfl rfl (o_lenL (f := c_T_impl_SessReply false) rfl rfl rfl) ?_
     refine TL.st rfl rfl rfl (o_move rfl rfl) ?_
     refine TL.st rfl rfl rfl (o_lenL (f := c_T_impl_SessReply false) rfl rfl rfl) ?_
     refine au 2 ?_
     refine T.cH H (fun H h => ?_) (fun H h => ?_)
     ·refine au 5 ?_
      refine thn_ret ?_
      cases some_i H
      exact ⟨trivial, _, (.tmp _ _ _ _ rfl .nil), (.cl _ rfl)⟩
     ·refine au 5 ?_
      refine TL.st rfl rfl rfl (o_lenL (f := c_T_impl_SessReply false) rfl rfl rfl) ?_
      refine au 3 ?_
      obtain ⟨q45, h46, H⟩ := bind_s H
      refine T.lq (fun s => match s with | v15 => [(3, .bx 0 0), (4, .im false (r2.map (c_T_impl_SessEvent false))), (5, .int .i64 r3), (6, .im false (r5.map (c_T_impl_SessReply false))), (9, .im false (r11.map (c_T_impl_SessReply false))), (10, .im false (r13.map (c_T_impl_SessReply false))), (65, .int .i64 (r11.length : Int)), (66, .int .i64 v15)]) (fun s => match s with | v15 => [.box (c_T_impl_SessConf false r1)]) (fun q ex fr σ => match q with | .inl _ => ex = .exit 2 ∧ fr = [(3, .bx 0 0), (4, .im false (r2.map (c_T_impl_SessEvent false))), (5, .int .i64 r3), (6, .im false (r5.map (c_T_impl_SessReply false))), (9, .im false (r11.map (c_T_impl_SessReply false)))] ∧ σ = [.box (c_T_impl_SessConf false r1)] | .inr q16 => ex = .ret ∧ RetN Tryd.prog [.tmp 2] (fun v τ => Told τ v (.bool q16)) .ret fr σ) h46 ?_ ?_
      ·rintro v15 y40 H
       refine au 5 ?_
       refine T.cH H (fun H h => ?_) (fun H h => ?_)
       ·refine au 9 ?_
        refine T.drawn rfl ?_
        refine ad 2 ?_
        obtain ⟨e41, h42, H⟩ := bind_s H
        refine TD.qs rfl rfl (fun _ => o_ix (f := c_T_impl_SessReply false) rfl rfl tyS_31 rfl rfl h42 rfl) ?_
        refine TD.qs rfl rfl (fun _ => o_loadRf rfl tyS_31 rfl (nb rfl) rfl) ?_
        refine ad 2 ?_
        obtain ⟨e43, h44, H⟩ := bind_s H
        refine TD.qs rfl rfl (fun _ => o_ix (f := c_T_impl_SessReply false) rfl rfl tyS_31 rfl rfl h44 rfl) ?_
        refine TD.qs rfl rfl (fun _ => o_loadRf rfl tyS_31 rfl (nb rfl) rfl) ?_
        refine TD.qs rfl rfl (fun _ => o_neA rfl rfl eqG_31 rfl rfl rfl rfl (eqT_31 e41 e43)) ?_
        refine TD.nil ⟨rfl, ?_⟩
        refine thn_normal ?_
        refine T.cH H (fun H h => ?_) (fun H h => ?_)
        ·refine au 5 ?_
         refine inB_ret (thn_ret ?_)
         exact Pk.id (thn_ret ⟨.inr false, (some_i H).symm, rfl, ⟨trivial, _, (.tmp _ _ _ _ rfl .nil), (.cl _ rfl)⟩⟩)
        ·refine au 5 ?_
         exact Pk.of (thn_normal ⟨(IntKind.i64.wrap (v15 + 1)), (some_i H).symm, rfl, rfl⟩)
       ·refine T.exit ?_
        refine thn_exit ?_
        exact Pk.of (thn_exit ⟨.inl (), (some_i H).symm, rfl, rfl, rfl⟩)
      ·rcases q45 with ⟨⟩ | q16
       ·rintro _ _ _ ⟨rfl, rfl, rfl⟩
        refine inB_here ?_
        refine au 4 ?_
        refine TL.st rfl rfl rfl (o_lenL (f := c_T_impl_SessReply false) rfl rfl rfl) ?_
        refine au 3 ?_
        refine TL.gcq rfl rfl rfl (.bool _) rfl rfl (fun h => o_lenL (f := c_T_impl_SessEvent false) rfl rfl (gv h rfl)) ?_
        refine au 4 ?_
        refine T.cH H (fun H h => ?_) (fun H h => ?_)
        ·refine au 5 ?_
         refine thn_ret ?_
         cases some_i H
         exact ⟨trivial, _, (.tmp _ _ _ _ rfl .nil), (.cl _ rfl)⟩
        ·refine au 6 ?_
         refine T.conv (Cs.own (t := 12) 5 rfl (by decide)) ?_
         refine T.drawn rfl ?_
         refine ad 2 ?_
         obtain ⟨l17, h18, H⟩ := bind_s H
         refine TD.as rfl rfl (o_ap (f := c_T_impl_SessEvent false) (xs := ([] : List T_impl_SessEvent)) (ys := r2) rfl rfl tyE_34 rfl rfl rfl rfl (by decide) rfl (fun _ => rfl) h18) ?_
         refine ad 2 ?_
         obtain ⟨e19, h20, H⟩ := bind_s H
         refine TD.qs rfl rfl (fun _ => o_ix (f := c_T_impl_SessReply false) rfl rfl tyS_31 rfl rfl h20 rfl) ?_
         refine TD.qs rfl rfl (fun _ => o_fieldAddr rfl rfl rfl tyS_9 (by decide) rfl rfl trivial) ?_
         refine TD.qs rfl rfl (fun _ => o_loadRf rfl tyS_9 rfl (nb rfl) rfl) ?_
         refine TD.qs rfl rfl (fun _ => o_build rfl ⟨_, fun _ => rfl, rfl⟩ rfl rfl rfl) ?_
         refine TD.qs rfl rfl (fun _ => o_sliceIm (rows := ([(⟨5, r3, e19.User_, e0, e0⟩ : T_impl_SessEvent)] : List T_impl_SessEvent).map (c_T_impl_SessEvent false)) rfl rfl tyS_34 ⟨_, rfl, rfl⟩ (by decide) rfl rfl rfl rfl rfl rfl) ?_
         obtain ⟨l21, h22, H⟩ := bind_s H
         refine TD.as rfl rfl (o_ap (f := c_T_impl_SessEvent false) (xs := l17) (ys := ([(⟨5, r3, e19.User_, e0, e0⟩ : T_impl_SessEvent)] : List T_impl_SessEvent)) rfl rfl tyE_34 rfl rfl rfl rfl (by decide) rfl (fun _ => rfl) h22) ?_
         refine TD.qs rfl rfl (fun _ => o_assign rfl rfl) ?_
         refine TD.nil ⟨rfl, ?_⟩
         refine au 6 ?_
         obtain ⟨r23, h24, H⟩ := bind_s H
         refine TL.st rfl rfl rfl (o_callP rfl en_7 rfl rfl (.cons _ _ _ _ (.cl _ rfl) (.cons _ _ _ _ (.own rfl (by decide) rfl) (.cons _ _ _ _ (.cl _ rfl) .nil))) (impl_SignedIn_p false true h24)) ?_
         refine TL.st rfl rfl rfl (o_lenL (f := c_T_impl_SessReply false) rfl rfl rfl) ?_
         refine au 3 ?_
         obtain ⟨q38, h39, H⟩ := bind_s H
         refine T.lq (fun s => match s with | v25 => [(3, .bx 0 0), (4, .im false (r2.map (c_T_impl_SessEvent false))), (5, .int .i64 r3), (6, .im false (r5.map (c_T_impl_SessReply false))), (9, .im false (r11.map (c_T_impl_SessReply false))), (12, .hd 1 (l21.map (c_T_impl_SessEvent false)).length 0 (l21.map (c_T_impl_SessEvent false)).length), (102, .im false (r23.map (c_T_impl_SessReply false))), (103, .int .i64 (r23.length : Int)), (104, .int .i64 v25)]) (fun s => match s with | v25 => [.box (c_T_impl_SessConf false r1), .arr .clo 5 (l21.map (c_T_impl_SessEvent false))]) (fun q ex fr σ => match q with | .inl _ => ex = .exit 4 ∧ fr = [(3, .bx 0 0), (4, .im false (r2.map (c_T_impl_SessEvent false))), (5, .int .i64 r3), (6, .im false (r5.map (c_T_impl_SessReply false))), (9, .im false (r11.map (c_T_impl_SessReply false))), (12, .hd 1 (l21.map (c_T_impl_SessEvent false)).length 0 (l21.map (c_T_impl_SessEvent false)).length)] ∧ σ = [.box (c_T_impl_SessConf false r1), .arr .clo 5 (l21.map (c_T_impl_SessEvent false))] | .inr q26 => ex = .ret ∧ RetN Tryd.prog [.tmp 2] (fun v τ => Told τ v (.bool q26)) .ret fr σ) h39 ?_ ?_
         ·rintro v25 y33 H
          refine au 5 ?_
          refine T.cH H (fun H h => ?_) (fun H h => ?_)
          ·refine au 5 ?_
           obtain ⟨e34, h35, H⟩ := bind_s H
           refine TL.st rfl rfl rfl (o_ix (f := c_T_impl_SessReply false) rfl rfl tyS_31 rfl rfl h35 rfl) ?_
           refine au 5 ?_
           refine T.drawn rfl ?_
           refine ad 3 ?_
           obtain ⟨e36, h37, H⟩ := bind_s H
           refine TD.qs rfl rfl (fun _ => o_ix (f := c_T_impl_SessReply false) rfl rfl tyS_31 rfl rfl h37 rfl) ?_
           refine TD.qs rfl rfl (fun _ => o_fieldAddr rfl rfl rfl tyS_9 (by decide) rfl rfl trivial) ?_
           refine TD.qs rfl rfl (fun _ => o_loadRf rfl tyS_9 rfl (nb rfl) rfl) ?_
           refine TD.qs rfl rfl (fun _ => o_str rfl rfl rfl rfl) ?_
           refine TD.nil ⟨rfl, ?_⟩
           refine thn_normal ?_
           refine T.cH H (fun H h => ?_) (fun H h => ?_)
           ·refine au 5 ?_
            refine inB_ret (thn_ret ?_)
            exact Pk.id (thn_ret ⟨.inr false, (some_i H).symm, rfl, ⟨trivial, _, (.tmp _ _ _ _ rfl .nil), (.cl _ rfl)⟩⟩)
           ·refine au 5 ?_
            exact Pk.of (thn_normal ⟨(IntKind.i64.wrap (v25 + 1)), (some_i H).symm, rfl, rfl⟩)
          ·refine T.exit ?_
           refine thn_exit ?_
           exact Pk.of (thn_exit ⟨.inl (), (some_i H).symm, rfl, rfl, rfl⟩)
         ·rcases q38 with ⟨⟩ | q26
          ·rintro _ _ _ ⟨rfl, rfl, rfl⟩
           refine inB_here ?_
           refine au 5 ?_
           obtain ⟨r27, h28, H⟩ := bind_s H
           refine TL.st rfl rfl rfl (o_callP rfl en_9 rfl rfl (.cons _ _ _ _ (.cl _ rfl) (.cons _ _ _ _ (.cl _ rfl) (.cons _ _ _ _ (.cl _ rfl) .nil))) (spec_Replaced_p false false false h28)) ?_
           refine au 10 ?_
           refine T.cH H (fun H h => ?_) (fun H h => ?_)
           ·refine au 5 ?_
            refine thn_ret ?_
            cases some_i H
            exact ⟨trivial, _, (.tmp _ _ _ _ rfl .nil), (.cl _ rfl)⟩
           ·refine au 8 ?_
            refine T.conv (Cs.eqS (σ' := [_, _, .box [.int .i64 r27.Kind_, .int .i64 r3, .str r27.User_, .str r27.Device_, .str r27.Id_]]) rfl) ?_
            refine au 3 ?_
            refine TL.st rfl rfl rfl (o_lenOwn (f := c_T_impl_SessEvent false) rfl rfl rfl rfl rfl) ?_
            refine au 2 ?_
            obtain ⟨e29, h30, H⟩ := bind_s H
            refine TL.st rfl rfl rfl (o_ixh (f := c_T_impl_SessEvent false) rfl rfl tyS_34 rfl rfl rfl rfl h30 rfl) ?_
            refine TL.sn rfl rfl (o_stEl (f := c_T_impl_SessEvent false) (xs := l21) (k := (IntKind.i64.wrap ((l21.length : Int) - 1))) (a := e29) ({ r27 with Time_ := r3 } : T_impl_SessEvent) rfl tyS_34 rfl rfl rfl rfl (by decide) h30 rfl rfl rfl (fun _ => rfl) rfl) ?_
            refine TL.conv (Cs.eqV (t := 12) (v' := .hd 1 ((l21.set (Int.toNat (IntKind.i64.wrap ((l21.length : Int) - 1))) ({ r27 with Time_ := r3 } : T_impl_SessEvent)).map (c_T_impl_SessEvent false)).length 0 ((l21.set (Int.toNat (IntKind.i64.wrap ((l21.length : Int) - 1))) ({ r27 with Time_ := r3 } : T_impl_SessEvent)).map (c_T_impl_SessEvent false)).length) rfl (hd_len _ (List.length_set ..))) ?_
            refine TL.conv (Cs.eqV (t := 125) (v' := .hd 1 ((l21.set (Int.toNat (IntKind.i64.wrap ((l21.length : Int) - 1))) ({ r27 with Time_ := r3 } : T_impl_SessEvent)).map (c_T_impl_SessEvent false)).length 0 ((l21.set (Int.toNat (IntKind.i64.wrap ((l21.length : Int) - 1))) ({ r27 with Time_ := r3 } : T_impl_SessEvent)).map (c_T_impl_SessEvent false)).length) rfl (hd_len _ (List.length_set ..))) ?_
            refine TL.conv (Cs.eqV (t := 126) (v' := .hd 1 ((l21.set (Int.toNat (IntKind.i64.wrap ((l21.length : Int) - 1))) ({ r27 with Time_ := r3 } : T_impl_SessEvent)).map (c_T_impl_SessEvent false)).length 0 ((l21.set (Int.toNat (IntKind.i64.wrap ((l21.length : Int) - 1))) ({ r27 with Time_ := r3 } : T_impl_SessEvent)).map (c_T_impl_SessEvent false)).length) rfl (hd_len _ (List.length_set ..))) ?_
            refine TL.conv (Cs.eqV (t := 130) (v' := .el 1 ((l21.set (Int.toNat (IntKind.i64.wrap ((l21.length : Int) - 1))) ({ r27 with Time_ := r3 } : T_impl_SessEvent)).map (c_T_impl_SessEvent false)).length (Int.toNat (IntKind.i64.wrap ((l21.length : Int) - 1))) 0) rfl (el_len _ _ _ (List.length_set ..))) ?_
            refine au 6 ?_
            obtain ⟨r31, h32, H⟩ := bind_s H
            refine TL.st rfl rfl rfl (o_callP rfl en_7 rfl rfl (.cons _ _ _ _ (.cl _ rfl) (.cons _ _ _ _ (.own rfl (by decide) rfl) (.cons _ _ _ _ (.cl _ rfl) .nil))) (impl_SignedIn_p false true h32)) ?_
            refine TL.st rfl rfl rfl (o_lenL (f := c_T_impl_SessReply false) rfl rfl rfl) ?_
            refine TL.st rfl rfl rfl (o_move rfl rfl) ?_
            refine TL.st rfl rfl rfl (o_lenL (f := c_T_impl_SessReply false) rfl rfl rfl) ?_
            refine au 4 ?_
            cases some_i H
            exact ⟨trivial, _, (.tmp _ _ _ _ rfl .nil), (.cl _ rfl)⟩
          ·rintro _ fr1 σ1 ⟨rfl, hr⟩
           refine inB_ret (thn_ret ?_)
           cases some_i H
           exact hr
       ·rintro _ fr1 σ1 ⟨rfl, hr⟩
        refine inB_ret (thn_ret ?_)
        cases some_i H
        exact hr
    ·rintro _ fr1 σ1 ⟨rfl, hr⟩
     refine inB_ret (thn_ret ?_)
     cases some_i H
     exact hr
end Go.G36.SE
