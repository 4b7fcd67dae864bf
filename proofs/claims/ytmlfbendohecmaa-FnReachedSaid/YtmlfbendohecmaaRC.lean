import Derived.Test.YtmlfbendohecmaaRC1
import Derived.Test.YtmlfbendohecmaaRcWay
set_option linter.all false
set_option maxRecDepth 20000
set_option maxHeartbeats 4000000
namespace Go.G36.RC
open Go Go.Proofs
theorem tyS_5 : TyS Try.prog 5 false 1 := ⟨rfl, rfl⟩
noncomputable def spec_l1Cur_next_j1 (s0 : T_spec_l1Cur) (v1 : Int) : Option (Int × T_spec_l1Cur) :=
  cond (decide ((IntKind.i64.wrap (s0.at_ + 1)) ≤ (s0.code_.length : Int))) (some (v1, (⟨s0.code_, (IntKind.i64.wrap (s0.at_ + 1)), (IntKind.u64.wrap ((IntKind.u64.wrap ((IntKind.u64.wrap (s0.seed_ * 6364136223846793005)) + (IntKind.u64.wrap v1))) + 1442695040888963407))⟩ : T_spec_l1Cur))) (some ((IntKind.i64.wrap (IntKind.u64.wrap (BitVec.ofInt IntKind.u64.bits (Int.fdiv (IntKind.u64.wrap ((IntKind.u64.wrap ((IntKind.u64.wrap (s0.seed_ * 6364136223846793005)) + (IntKind.u64.wrap v1))) + 1442695040888963407)) (2 ^ (min (Int.toNat 40) IntKind.u64.bits))) &&& BitVec.ofInt IntKind.u64.bits 255).toNat)), (⟨s0.code_, (IntKind.i64.wrap (s0.at_ + 1)), (IntKind.u64.wrap ((IntKind.u64.wrap ((IntKind.u64.wrap (s0.seed_ * 6364136223846793005)) + (IntKind.u64.wrap v1))) + 1442695040888963407))⟩ : T_spec_l1Cur)))
noncomputable def spec_l1Cur_next (s0 : T_spec_l1Cur) : Option (Int × T_spec_l1Cur) :=
  cond (decide (s0.at_ < (s0.code_.length : Int))) ((idx s0.code_ s0.at_).bind fun e2 => spec_l1Cur_next_j1 s0 (IntKind.i64.wrap e2)) (spec_l1Cur_next_j1 s0 0)
theorem spec_l1Cur_next_p (c0 : Bool) {s0 : T_spec_l1Cur} {R0 : Int} {U0 : T_spec_l1Cur} (H : spec_l1Cur_next s0 = some (R0, U0)) : St Try.prog 58 [.bx 0 0] [.box (c_T_spec_l1Cur c0 s0)] (.int .i64 R0) [.box (c_T_spec_l1Cur c0 U0)] := by
 refine CallT.fin (CallT.of_TN (n := 62) Try.func58 rfl rfl rfl rfl ?_) rfl rfl ⟨(bels_iff.1 rfl), trivial⟩
 refine au 8 ?_
 refine T.cut (fun fr' σ' => ∃ (v1 : Int), fr' = [(0, .bx 0 0), (3, .int .i64 v1)] ∧ σ' = [.box (c_T_spec_l1Cur c0 s0)] ∧ spec_l1Cur_next_j1 s0 v1 = some (R0, U0)) (T.pk ?_) ?_
 ·skip
  refine T.seq ?_
  refine T.drawn rfl ?_
  refine ad 8 ?_
  refine TD.qs rfl rfl (fun _ => o_lenL (f := c_int .u8) rfl rfl rfl) ?_
  refine TD.qs rfl rfl (fun _ => o_ari rfl rfl rfl rfl) ?_
  refine TD.nil ⟨rfl, ?_⟩
  refine thn_normal ?_
  refine T.cH H (fun H h => ?_) (fun H h => ?_)
  ·refine T.drawn rfl ?_
   refine ad 8 ?_
   obtain ⟨e2, h3, H⟩ := bind_s H
   refine TD.qs rfl rfl (fun _ => o_ix (f := c_int .u8) rfl rfl tyS_5 rfl rfl h3 rfl) ?_
   refine TD.qs rfl rfl (fun _ => o_loadRf rfl tyS_5 rfl (nb rfl) rfl) ?_
   refine TD.qs rfl rfl (fun _ => o_conv rfl rfl ⟨_, rfl⟩ rfl) ?_
   refine TD.qs rfl rfl (fun _ => o_assign rfl rfl) ?_
   refine TD.nil ⟨rfl, ?_⟩
   exact Pk.of (thn_normal ⟨(IntKind.i64.wrap e2), rfl, rfl, H⟩)
  ·refine T.skip ?_
   exact Pk.of (thn_normal ⟨0, rfl, rfl, H⟩)
 ·rintro _ _ ⟨v1, rfl, rfl, H⟩
  refine au 20 ?_
  refine TL.st rfl rfl rfl (o_conv rfl rfl ⟨_, rfl⟩ rfl) ?_
  refine au 8 ?_
  refine T.drawn rfl ?_
  refine ad 8 ?_
  refine TD.qs rfl rfl (fun _ => o_lenL (f := c_int .u8) rfl rfl rfl) ?_
  refine TD.qs rfl rfl (fun _ => o_ari rfl rfl rfl rfl) ?_
  refine TD.nil ⟨rfl, ?_⟩
  refine thn_normal ?_
  refine T.cH H (fun H h => ?_) (fun H h => ?_)
  ·refine au 6 ?_
   refine thn_ret ?_
   cases some_i H
   exact ⟨trivial, _, (.tmp _ _ _ _ rfl .nil), ⟨rfl, _, rfl⟩⟩
  ·refine au 7 ?_
   refine TL.st rfl rfl rfl (o_shr rfl rfl rfl (by decide)) ?_
   refine TL.st rfl rfl rfl (o_bits rfl rfl rfl rfl) ?_
   refine TL.st rfl rfl rfl (o_conv rfl rfl ⟨_, rfl⟩ rfl) ?_
   refine au 3 ?_
   cases some_i H
   exact ⟨trivial, _, (.tmp _ _ _ _ rfl .nil), ⟨rfl, _, rfl⟩⟩
theorem en_58 : En Try.prog 58 := .of Try.func58 rfl rfl
noncomputable def spec_l1Cur_pick_j1 (a0 : Int) (b4 : T_spec_l1Cur) (v5 : Int) : Option (Int × T_spec_l1Cur) :=
  (nz a0).bind fun z6 => some ((Int.tmod v5 a0), b4)
noncomputable def spec_l1Cur_pick (a0 : Int) (s0 : T_spec_l1Cur) : Option (Int × T_spec_l1Cur) :=
  cond (decide (a0 ≤ 1)) (some (0, s0)) ((spec_l1Cur_next s0).bind fun q => (match q with | (r1, o2) => cond (decide (a0 > 200)) ((spec_l1Cur_next o2).bind fun q => (match q with | (r8, o9) => spec_l1Cur_pick_j1 a0 o9 (IntKind.i64.wrap ((IntKind.i64.wrap (r1 * 256)) + r8)))) (spec_l1Cur_pick_j1 a0 o2 r1)))
theorem spec_l1Cur_pick_p (c0 : Bool) {a0 : Int} {s0 : T_spec_l1Cur} {R0 : Int} {U0 : T_spec_l1Cur} (H : spec_l1Cur_pick a0 s0 = some (R0, U0)) : St Try.prog 43 [.bx 0 0, .int .i64 a0] [.box (c_T_spec_l1Cur c0 s0)] (.int .i64 R0) [.box (c_T_spec_l1Cur c0 U0)] := by
 refine CallT.fin (CallT.of_TN (n := 20) Try.func43 rfl rfl rfl rfl ?_) rfl rfl ⟨(bels_iff.1 rfl), trivial⟩
 refine au 10 ?_
 refine T.cH H (fun H h => ?_) (fun H h => ?_)
 ·refine au 5 ?_
  refine thn_ret ?_
  cases some_i H
  exact ⟨trivial, _, (.tmp _ _ _ _ rfl .nil), ⟨rfl, _, rfl⟩⟩
 ·refine au 4 ?_
  obtain ⟨⟨r1, o2⟩, h3, H⟩ := bind_s H
  refine TL.st rfl rfl rfl (o_callS [0] rfl en_58 rfl rfl (spec_l1Cur_next_p c0 h3) rfl (by decide) (.cons _ _ _ _ rfl .nil) rfl rfl rfl) ?_
  refine au 2 ?_
  refine T.cut (fun fr' σ' => ∃ (b4 : T_spec_l1Cur) (v5 : Int), fr' = [(1, .int .i64 a0), (5, .int .i64 v5)] ∧ σ' = [.box (c_T_spec_l1Cur c0 b4)] ∧ spec_l1Cur_pick_j1 a0 b4 v5 = some (R0, U0)) (T.pk ?_) ?_
  ·skip
   refine au 5 ?_
   refine T.cH H (fun H h => ?_) (fun H h => ?_)
   ·refine au 4 ?_
    obtain ⟨⟨r8, o9⟩, h10, H⟩ := bind_s H
    refine TL.st rfl rfl rfl (o_callS [0] rfl en_58 rfl rfl (spec_l1Cur_next_p c0 h10) rfl (by decide) (.cons _ _ _ _ rfl .nil) rfl rfl rfl) ?_
    refine au 3 ?_
    exact Pk.of (thn_normal ⟨o9, (IntKind.i64.wrap ((IntKind.i64.wrap (r1 * 256)) + r8)), rfl, rfl, H⟩)
   ·refine T.skip ?_
    exact Pk.of (thn_normal ⟨o2, r1, rfl, rfl, H⟩)
  ·rintro _ _ ⟨b4, v5, rfl, rfl, H⟩
   refine au 4 ?_
   obtain ⟨z6, h7, H⟩ := bind_s H
   refine TL.st rfl rfl rfl (o_rem rfl rfl rfl (nz_s h7).1) ?_
   refine au 3 ?_
   cases some_i H
   exact ⟨trivial, _, (.tmp _ _ _ _ rfl .nil), ⟨rfl, _, rfl⟩⟩
theorem en_43 : En Try.prog 43 := .of Try.func43 rfl rfl
noncomputable def spec_l1Cur_of (a0 : (List ByteArray)) (s0 : T_spec_l1Cur) : Option (ByteArray × T_spec_l1Cur) :=
  (spec_l1Cur_pick (a0.length : Int) s0).bind fun q => (match q with | (r1, o2) => (idx a0 r1).bind fun e4 => some (e4, o2))
theorem spec_l1Cur_of_p (b0 : Bool) (c0 : Bool) {a0 : (List ByteArray)} {s0 : T_spec_l1Cur} {R0 : ByteArray} {U0 : T_spec_l1Cur} (H : spec_l1Cur_of a0 s0 = some (R0, U0)) : St Try.prog 56 [.bx 0 0, .im b0 (a0.map (c_str))] [.box (c_T_spec_l1Cur c0 s0)] (.str R0) [.box (c_T_spec_l1Cur c0 U0)] := by
 refine CallT.fin (CallT.of_TN (n := 12) Try.func56 rfl rfl rfl rfl ?_) rfl rfl ⟨(bels_iff.1 rfl), trivial⟩
 refine au 9 ?_
 refine TL.st rfl rfl rfl (o_lenL (f := c_str) rfl rfl rfl) ?_
 obtain ⟨⟨r1, o2⟩, h3, H⟩ := bind_s H
 refine TL.st rfl rfl rfl (o_callS [0] rfl en_43 rfl rfl (spec_l1Cur_pick_p c0 h3) rfl (by decide) (.cons _ _ _ _ rfl .nil) rfl rfl rfl) ?_
 obtain ⟨e4, h5, H⟩ := bind_s H
 refine TL.st rfl rfl rfl (o_ix (f := c_str) rfl rfl tyS_9 rfl rfl h5 rfl) ?_
 refine au 4 ?_
 cases some_i H
 exact ⟨trivial, _, (.tmp _ _ _ _ rfl .nil), ⟨rfl, _, rfl⟩⟩
theorem en_56 : En Try.prog 56 := .of Try.func56 rfl rfl
noncomputable def spec_l1Cur_nest (s0 : T_spec_l1Cur) : Option (T_impl_Nest × T_spec_l1Cur) :=
  (spec_l1Cur_of ([(ByteArray.mk #[65, 108, 108]), (ByteArray.mk #[68, 101, 118]), (ByteArray.mk #[79, 112, 115]), (ByteArray.mk #[82, 101, 100]), (ByteArray.mk #[83, 101, 99])] : List ByteArray) s0).bind fun q => (match q with | (r1, o2) => (spec_l1Cur_of ([(ByteArray.mk #[97, 110, 110]), (ByteArray.mk #[98, 111, 98]), (ByteArray.mk #[68, 101, 118]), (ByteArray.mk #[79, 112, 115]), (ByteArray.mk #[82, 101, 100]), (ByteArray.mk #[83, 101, 99]), (ByteArray.mk #[99, 121])] : List ByteArray) o2).bind fun q => (match q with | (r4, o5) => some ((⟨r1, r4⟩ : T_impl_Nest), o5)))
theorem spec_l1Cur_nest_p (c0 : Bool) {s0 : T_spec_l1Cur} {R0 : T_impl_Nest} {U0 : T_spec_l1Cur} (H : spec_l1Cur_nest s0 = some (R0, U0)) : St Try.prog 41 [.bx 0 0] [.box (c_T_spec_l1Cur c0 s0)] (.agg (c_T_impl_Nest false R0)) [.box (c_T_spec_l1Cur c0 U0)] := by
 refine CallT.fin (CallT.of_TN (n := 10) Try.func41 rfl rfl rfl rfl ?_) rfl rfl ⟨(bels_iff.1 rfl), trivial⟩
 refine au 7 ?_
 refine TL.st rfl rfl rfl (o_sliceIm (rows := ([(ByteArray.mk #[65, 108, 108]), (ByteArray.mk #[68, 101, 118]), (ByteArray.mk #[79, 112, 115]), (ByteArray.mk #[82, 101, 100]), (ByteArray.mk #[83, 101, 99])] : List ByteArray).map (c_str)) rfl rfl tyS_9 ⟨_, rfl, rfl⟩ (by decide) rfl rfl rfl rfl rfl rfl) ?_
 obtain ⟨⟨r1, o2⟩, h3, H⟩ := bind_s H
 refine TL.st rfl rfl rfl (o_callS [0] rfl en_56 rfl rfl (spec_l1Cur_of_p false c0 h3) rfl (by decide) (.cons _ _ _ _ rfl .nil) rfl rfl rfl) ?_
 refine TL.st rfl rfl rfl (o_move rfl rfl) ?_
 refine TL.st rfl rfl rfl (o_sliceIm (rows := ([(ByteArray.mk #[97, 110, 110]), (ByteArray.mk #[98, 111, 98]), (ByteArray.mk #[68, 101, 118]), (ByteArray.mk #[79, 112, 115]), (ByteArray.mk #[82, 101, 100]), (ByteArray.mk #[83, 101, 99]), (ByteArray.mk #[99, 121])] : List ByteArray).map (c_str)) rfl rfl tyS_9 ⟨_, rfl, rfl⟩ (by decide) rfl rfl rfl rfl rfl rfl) ?_
 obtain ⟨⟨r4, o5⟩, h6, H⟩ := bind_s H
 refine TL.st rfl rfl rfl (o_callS [0] rfl en_56 rfl rfl (spec_l1Cur_of_p false c0 h6) rfl (by decide) (.cons _ _ _ _ rfl .nil) rfl rfl rfl) ?_
 refine au 3 ?_
 refine T.conv (Cs.eqS (σ' := [.box (c_T_spec_l1Cur c0 o5), .box [.str r1, .str r4]]) rfl) ?_
 refine T.ret ?_
 cases some_i H
 exact ⟨trivial, _, (.cell _ _ _ _ _ _ _ _ _ _ rfl rfl tyS_26 (nb rfl) rfl .nil), ⟨rfl, _, rfl⟩⟩
theorem en_41 : En Try.prog 41 := .of Try.func41 rfl rfl
noncomputable def spec_l1CmpNum (a0 : Int) (a1 : Int) : Option Int :=
  cond (decide (a0 < a1)) (some (-1)) (cond (decide (a0 > a1)) (some 1) (some 0))
theorem spec_l1CmpNum_p  {a0 : Int} {a1 : Int} {R0 : Int} (H : spec_l1CmpNum a0 a1 = some R0) : Pure Try.prog 81 [.int .i64 a0, .int .i64 a1] (.int .i64 R0) := by
 refine CallT.of_TN (n := 11) Try.func81 rfl rfl rfl rfl ?_
 refine au 11 ?_
 refine T.cH H (fun H h => ?_) (fun H h => ?_)
 ·refine au 5 ?_
  refine thn_ret ?_
  cases some_i H
  exact ⟨trivial, _, (.tmp _ _ _ _ rfl .nil), (.cl _ rfl)⟩
 ·refine au 8 ?_
  refine T.cH H (fun H h => ?_) (fun H h => ?_)
  ·refine au 5 ?_
   refine thn_ret ?_
   cases some_i H
   exact ⟨trivial, _, (.tmp _ _ _ _ rfl .nil), (.cl _ rfl)⟩
  ·refine au 6 ?_
   cases some_i H
   exact ⟨trivial, _, (.tmp _ _ _ _ rfl .nil), (.cl _ rfl)⟩
theorem en_81 : En Try.prog 81 := .of Try.func81 rfl rfl
noncomputable def spec_l1CmpText_l1 (a0 : ByteArray) (a1 : ByteArray) : Int → Option (Int ⊕ (Unit ⊕ Int)) := fun s => match s with
  | v1 => cond (decide (v1 < (a0.size : Int)) && decide (v1 < (a1.size : Int))) ((idxS a0 v1).bind fun b6 => (idxS a1 v1).bind fun b8 => cond (b6 != b8) ((idxS a0 v1).bind fun b10 => (idxS a1 v1).bind fun b12 => (spec_l1CmpNum (IntKind.i64.wrap b10) (IntKind.i64.wrap b12)).bind fun r14 => some (.inr (.inr r14))) (some (.inl (IntKind.i64.wrap (v1 + 1))))) (some (.inr (.inl ())))
noncomputable def spec_l1CmpText (a0 : ByteArray) (a1 : ByteArray) : Option Int :=
  (loopO (spec_l1CmpText_l1 a0 a1) 0).bind fun q16 => (match q16 with | .inl _ => (spec_l1CmpNum (a0.size : Int) (a1.size : Int)).bind fun r3 => some r3 | .inr q2 => some q2)
theorem spec_l1CmpText_p  {a0 : ByteArray} {a1 : ByteArray} {R0 : Int} (H : spec_l1CmpText a0 a1 = some R0) : Pure Try.prog 67 [.str a0, .str a1] (.int .i64 R0) := by
 refine CallT.of_TN (n := 39) Try.func67 rfl rfl rfl rfl ?_
 refine au 10 ?_
 obtain ⟨q16, h17, H⟩ := bind_s H
 refine T.lq (fun s => match s with | v1 => [(0, .str a0), (1, .str a1), (5, .int .i64 v1)]) (fun s => match s with | v1 => []) (fun q ex fr σ => match q with | .inl _ => ex = .exit 0 ∧ fr = [(0, .str a0), (1, .str a1)] ∧ σ = [] | .inr q2 => ex = .ret ∧ RetN Try.prog [.tmp 4] (fun v τ => Told τ v (.int .i64 q2)) .ret fr σ) h17 ?_ ?_
 ·rintro v1 y5 H
  refine au 10 ?_
  refine TL.gcq rfl rfl rfl (.bool _) rfl rfl (fun h => o_lenS rfl rfl (gv h rfl)) ?_
  refine TL.gcq rfl rfl rfl (.bool _) rfl rfl (fun h => o_ari rfl (gv h rfl) (gv h rfl) rfl) ?_
  refine au 2 ?_
  refine T.cH H (fun H h => ?_) (fun H h => ?_)
  ·refine au 4 ?_
   refine T.drawn rfl ?_
   refine ad 2 ?_
   obtain ⟨b6, h7, H⟩ := bind_s H
   refine TD.qs rfl rfl (fun _ => o_ixs rfl rfl rfl rfl h7) ?_
   refine ad 2 ?_
   obtain ⟨b8, h9, H⟩ := bind_s H
   refine TD.qs rfl rfl (fun _ => o_ixs rfl rfl rfl rfl h9) ?_
   refine TD.qs rfl rfl (fun _ => o_ari rfl rfl rfl rfl) ?_
   refine TD.nil ⟨rfl, ?_⟩
   refine thn_normal ?_
   refine T.cH H (fun H h => ?_) (fun H h => ?_)
   ·refine T.seq ?_
    refine T.drawn rfl ?_
    refine ad 2 ?_
    obtain ⟨b10, h11, H⟩ := bind_s H
    refine TD.qs rfl rfl (fun _ => o_ixs rfl rfl rfl rfl h11) ?_
    refine TD.qs rfl rfl (fun _ => o_conv rfl rfl ⟨_, rfl⟩ rfl) ?_
    refine ad 2 ?_
    obtain ⟨b12, h13, H⟩ := bind_s H
    refine TD.qs rfl rfl (fun _ => o_ixs rfl rfl rfl rfl h13) ?_
    refine TD.qs rfl rfl (fun _ => o_conv rfl rfl ⟨_, rfl⟩ rfl) ?_
    obtain ⟨r14, h15, H⟩ := bind_s H
    refine TD.qs rfl rfl (fun _ => o_callP rfl en_81 rfl rfl (.cons _ _ _ _ (.cl _ rfl) (.cons _ _ _ _ (.cl _ rfl) .nil)) (spec_l1CmpNum_p  h15)) ?_
    refine TD.qs rfl rfl (fun _ => o_assign rfl rfl) ?_
    refine TD.nil ⟨rfl, ?_⟩
    refine T.ret ?_
    refine inB_ret (thn_ret ?_)
    exact Pk.id (thn_ret ⟨.inr r14, (some_i H).symm, rfl, ⟨trivial, _, (.tmp _ _ _ _ rfl .nil), (.cl _ rfl)⟩⟩)
   ·refine au 6 ?_
    exact Pk.of (thn_normal ⟨(IntKind.i64.wrap (v1 + 1)), (some_i H).symm, rfl, rfl⟩)
  ·refine T.exit ?_
   refine thn_exit ?_
   exact Pk.of (thn_exit ⟨.inl (), (some_i H).symm, rfl, rfl, rfl⟩)
 ·rcases q16 with ⟨⟩ | q2
  ·rintro _ _ _ ⟨rfl, rfl, rfl⟩
   refine inB_here ?_
   refine au 6 ?_
   obtain ⟨r3, h4, H⟩ := bind_s H
   refine TL.st rfl rfl rfl (o_callP rfl en_81 rfl rfl (.cons _ _ _ _ (.cl _ rfl) (.cons _ _ _ _ (.cl _ rfl) .nil)) (spec_l1CmpNum_p  h4)) ?_
   refine au 3 ?_
   cases some_i H
   exact ⟨trivial, _, (.tmp _ _ _ _ rfl .nil), (.cl _ rfl)⟩
  ·rintro _ fr1 σ1 ⟨rfl, hr⟩
   refine inB_ret (thn_ret ?_)
   cases some_i H
   exact hr
theorem en_67 : En Try.prog 67 := .of Try.func67 rfl rfl
noncomputable def spec_l5CmpNest (a0 : T_impl_Nest) (a1 : T_impl_Nest) : Option Int :=
  (spec_l1CmpText a0.Group_ a1.Group_).bind fun r1 => cond (r1 != 0) (some r1) ((spec_l1CmpText a0.Member_ a1.Member_).bind fun r3 => some r3)
theorem spec_l5CmpNest_p  {a0 : T_impl_Nest} {a1 : T_impl_Nest} {R0 : Int} (H : spec_l5CmpNest a0 a1 = some R0) : Pure Try.prog 54 [.agg (c_T_impl_Nest false a0), .agg (c_T_impl_Nest false a1)] (.int .i64 R0) := by
 refine CallT.of_TN (n := 19) Try.func54 rfl rfl rfl rfl ?_
 refine au 13 ?_
 obtain ⟨r1, h2, H⟩ := bind_s H
 refine TL.st rfl rfl rfl (o_callP rfl en_67 rfl rfl (.cons _ _ _ _ (.cl _ rfl) (.cons _ _ _ _ (.cl _ rfl) .nil)) (spec_l1CmpText_p  h2)) ?_
 refine au 7 ?_
 refine T.cH H (fun H h => ?_) (fun H h => ?_)
 ·refine au 6 ?_
  refine thn_ret ?_
  cases some_i H
  exact ⟨trivial, _, (.tmp _ _ _ _ rfl .nil), (.cl _ rfl)⟩
 ·refine au 7 ?_
  obtain ⟨r3, h4, H⟩ := bind_s H
  refine TL.st rfl rfl rfl (o_callP rfl en_67 rfl rfl (.cons _ _ _ _ (.cl _ rfl) (.cons _ _ _ _ (.cl _ rfl) .nil)) (spec_l1CmpText_p  h4)) ?_
  refine au 3 ?_
  cases some_i H
  exact ⟨trivial, _, (.tmp _ _ _ _ rfl .nil), (.cl _ rfl)⟩
theorem en_54 : En Try.prog 54 := .of Try.func54 rfl rfl
theorem tyE_26 : TyE Try.prog 26 2 := ⟨_, _, rfl, rfl, rfl, rfl, by decide, by decide⟩
noncomputable def spec_l5With_j1 (v3 : Int) (e9 : T_impl_Nest) (r11 : Int) (l13 : List T_impl_Nest) (v14 : Bool) : Option ((List T_impl_Nest × Bool × Int) ⊕ (List T_impl_Nest × Bool)) :=
  cond (r11 != 0) ((app l13 ([e9] : List T_impl_Nest)).bind fun l15 => some (.inl (l15, v14, (IntKind.i64.wrap (v3 + 1))))) (some (.inl (l13, v14, (IntKind.i64.wrap (v3 + 1)))))
noncomputable def spec_l5With_l1 (a0 : (List T_impl_Nest)) (a1 : T_impl_Nest) : (List T_impl_Nest × Bool × Int) → Option ((List T_impl_Nest × Bool × Int) ⊕ (List T_impl_Nest × Bool)) := fun s => match s with
  | (l1, v2, v3) => cond (decide (v3 < (a0.length : Int))) ((idx a0 v3).bind fun e9 => (spec_l5CmpNest e9 a1).bind fun r11 => cond (decide (r11 ≥ 0) && (!v2)) ((app l1 ([a1] : List T_impl_Nest)).bind fun l17 => spec_l5With_j1 v3 e9 r11 l17 true) (spec_l5With_j1 v3 e9 r11 l1 v2)) (some (.inr (l1, v2)))
noncomputable def spec_l5With (a0 : (List T_impl_Nest)) (a1 : T_impl_Nest) (a2 : Bool) : Option (List T_impl_Nest) :=
  (loopO (spec_l5With_l1 a0 a1) (([] : List T_impl_Nest), (!a2), 0)).bind fun q19 => (match q19 with | (l4, v5) => cond (!v5) ((app l4 ([a1] : List T_impl_Nest)).bind fun l6 => some l6) (some l4))
theorem spec_l5With_p (b0 : Bool) {a0 : (List T_impl_Nest)} {a1 : T_impl_Nest} {a2 : Bool} {R0 : (List T_impl_Nest)} (H : spec_l5With a0 a1 a2 = some R0) : Pure Try.prog 52 [.im b0 (a0.map (c_T_impl_Nest false)), .agg (c_T_impl_Nest false a1), .bool a2] (.im false (R0.map (c_T_impl_Nest false))) := by
 refine CallT.of_TN (n := 47) Try.func52 rfl rfl rfl rfl ?_
 refine au 19 ?_
 refine TL.st rfl rfl rfl (o_lenL (f := c_T_impl_Nest false) rfl rfl rfl) ?_
 refine au 3 ?_
 refine T.conv (Cs.own (t := 7) 2 rfl (by decide)) ?_
 obtain ⟨q19, h20, H⟩ := bind_s H
 refine T.lq (fun s => match s with | (l1, v2, v3) => [(4, .bx 0 0), (7, .hd 1 (l1.map (c_T_impl_Nest false)).length 0 (l1.map (c_T_impl_Nest false)).length), (8, .bool v2), (14, .im b0 (a0.map (c_T_impl_Nest false))), (15, .int .i64 (a0.length : Int)), (16, .int .i64 v3)]) (fun s => match s with | (l1, v2, v3) => [.box (c_T_impl_Nest false a1), .arr .clo 2 (l1.map (c_T_impl_Nest false))]) (fun q ex fr σ => match q with | (l4, v5) => ex = .exit 0 ∧ fr = [(4, .bx 0 0), (7, .hd 1 (l4.map (c_T_impl_Nest false)).length 0 (l4.map (c_T_impl_Nest false)).length), (8, .bool v5)] ∧ σ = [.box (c_T_impl_Nest false a1), .arr .clo 2 (l4.map (c_T_impl_Nest false))]) h20 ?_ ?_
 ·rintro ⟨l1, v2, v3⟩ y8 H
  refine au 5 ?_
  refine T.cH H (fun H h => ?_) (fun H h => ?_)
  ·refine au 5 ?_
   obtain ⟨e9, h10, H⟩ := bind_s H
   refine TL.st rfl rfl rfl (o_ix (f := c_T_impl_Nest false) rfl rfl tyS_26 rfl rfl h10 rfl) ?_
   refine au 8 ?_
   obtain ⟨r11, h12, H⟩ := bind_s H
   refine TL.st rfl rfl rfl (o_callP rfl en_54 rfl rfl (.cons _ _ _ _ (.cl _ rfl) (.cons _ _ _ _ (.cl _ rfl) .nil)) (spec_l5CmpNest_p  h12)) ?_
   refine au 2 ?_
   refine T.cut (fun fr' σ' => ∃ (l13 : List T_impl_Nest) (v14 : Bool), fr' = [(4, .bx 0 0), (7, .hd 1 (l13.map (c_T_impl_Nest false)).length 0 (l13.map (c_T_impl_Nest false)).length), (8, .bool v14), (10, .bx 2 0), (11, .int .i64 r11), (14, .im b0 (a0.map (c_T_impl_Nest false))), (15, .int .i64 (a0.length : Int)), (16, .int .i64 v3)] ∧ σ' = [.box (c_T_impl_Nest false a1), .arr .clo 2 (l13.map (c_T_impl_Nest false)), .box (c_T_impl_Nest false e9)] ∧ spec_l5With_j1 v3 e9 r11 l13 v14 = some y8) (T.pk ?_) ?_
   ·skip
    refine au 9 ?_
    refine T.cH H (fun H h => ?_) (fun H h => ?_)
    ·refine au 4 ?_
     refine TL.st rfl rfl rfl (o_sliceIm (rows := ([a1] : List T_impl_Nest).map (c_T_impl_Nest false)) rfl rfl tyS_26 ⟨_, rfl, rfl⟩ (by decide) rfl rfl rfl rfl rfl rfl) ?_
     obtain ⟨l17, h18, H⟩ := bind_s H
     refine TL.st rfl rfl rfl (o_ap (f := c_T_impl_Nest false) (xs := l1) (ys := ([a1] : List T_impl_Nest)) rfl rfl tyE_26 rfl rfl rfl rfl (by decide) rfl (fun _ => rfl) h18) ?_
     refine au 2 ?_
     refine T.conv (Cs.eqS (σ' := [_, .arr .clo 2 (l17.map (c_T_impl_Nest false)), .box (c_T_impl_Nest false e9)]) rfl) ?_
     refine au 3 ?_
     exact Pk.of (thn_normal ⟨l17, true, rfl, rfl, H⟩)
    ·refine T.skip ?_
     exact Pk.of (thn_normal ⟨l1, v2, rfl, rfl, H⟩)
   ·rintro _ _ ⟨l13, v14, rfl, rfl, H⟩
    refine au 5 ?_
    refine T.cH H (fun H h => ?_) (fun H h => ?_)
    ·refine au 3 ?_
     refine TL.st rfl rfl rfl (o_sliceIm (rows := ([e9] : List T_impl_Nest).map (c_T_impl_Nest false)) rfl rfl tyS_26 ⟨_, rfl, rfl⟩ (by decide) rfl rfl rfl rfl rfl rfl) ?_
     obtain ⟨l15, h16, H⟩ := bind_s H
     refine TL.st rfl rfl rfl (o_ap (f := c_T_impl_Nest false) (xs := l13) (ys := ([e9] : List T_impl_Nest)) rfl rfl tyE_26 rfl rfl rfl rfl (by decide) rfl (fun _ => rfl) h16) ?_
     refine au 6 ?_
     exact Pk.of (thn_normal ⟨(l15, v14, (IntKind.i64.wrap (v3 + 1))), (some_i H).symm, rfl, rfl⟩)
    ·refine au 5 ?_
     exact Pk.of (thn_normal ⟨(l13, v14, (IntKind.i64.wrap (v3 + 1))), (some_i H).symm, rfl, rfl⟩)
  ·refine T.exit ?_
   refine thn_exit ?_
   exact Pk.of (thn_exit ⟨(l1, v2), (some_i H).symm, rfl, rfl, rfl⟩)
 ·rcases q19 with ⟨l4, v5⟩
  rintro _ _ _ ⟨rfl, rfl, rfl⟩
  refine inB_here ?_
  refine au 6 ?_
  refine T.cH H (fun H h => ?_) (fun H h => ?_)
  ·refine au 3 ?_
   refine TL.st rfl rfl rfl (o_sliceIm (rows := ([a1] : List T_impl_Nest).map (c_T_impl_Nest false)) rfl rfl tyS_26 ⟨_, rfl, rfl⟩ (by decide) rfl rfl rfl rfl rfl rfl) ?_
   obtain ⟨l6, h7, H⟩ := bind_s H
   refine TL.st rfl rfl rfl (o_ap (f := c_T_impl_Nest false) (xs := l4) (ys := ([a1] : List T_impl_Nest)) rfl rfl tyE_26 rfl rfl rfl rfl (by decide) rfl (fun _ => rfl) h7) ?_
   refine au 8 ?_
   cases some_i H
   exact ⟨trivial, _, (.tmp _ _ _ _ rfl .nil), (.own rfl (by decide) rfl)⟩
  ·refine au 7 ?_
   cases some_i H
   exact ⟨trivial, _, (.tmp _ _ _ _ rfl .nil), (.own rfl (by decide) rfl)⟩
theorem en_52 : En Try.prog 52 := .of Try.func52 rfl rfl
theorem spec_l5With_o (b0 : Bool) {a0 : (List T_impl_Nest)} {a1 : T_impl_Nest} {a2 : Bool} {R0 : (List T_impl_Nest)} (H : spec_l5With a0 a1 a2 = some R0) : OwnC Try.prog 52 [.im b0 (a0.map (c_T_impl_Nest false)), .agg (c_T_impl_Nest false a1), .bool a2] 2 (R0.map (c_T_impl_Nest false)) := by
 refine CallT.of_TN (n := 47) Try.func52 rfl rfl rfl rfl ?_
 refine au 19 ?_
 refine TL.st rfl rfl rfl (o_lenL (f := c_T_impl_Nest false) rfl rfl rfl) ?_
 refine au 3 ?_
 refine T.conv (Cs.own (t := 7) 2 rfl (by decide)) ?_
 obtain ⟨q19, h20, H⟩ := bind_s H
 refine T.lq (fun s => match s with | (l1, v2, v3) => [(4, .bx 0 0), (7, .hd 1 (l1.map (c_T_impl_Nest false)).length 0 (l1.map (c_T_impl_Nest false)).length), (8, .bool v2), (14, .im b0 (a0.map (c_T_impl_Nest false))), (15, .int .i64 (a0.length : Int)), (16, .int .i64 v3)]) (fun s => match s with | (l1, v2, v3) => [.box (c_T_impl_Nest false a1), .arr .clo 2 (l1.map (c_T_impl_Nest false))]) (fun q ex fr σ => match q with | (l4, v5) => ex = .exit 0 ∧ fr = [(4, .bx 0 0), (7, .hd 1 (l4.map (c_T_impl_Nest false)).length 0 (l4.map (c_T_impl_Nest false)).length), (8, .bool v5)] ∧ σ = [.box (c_T_impl_Nest false a1), .arr .clo 2 (l4.map (c_T_impl_Nest false))]) h20 ?_ ?_
 ·rintro ⟨l1, v2, v3⟩ y8 H
  refine au 5 ?_
  refine T.cH H (fun H h => ?_) (fun H h => ?_)
  ·refine au 5 ?_
   obtain ⟨e9, h10, H⟩ := bind_s H
   refine TL.st rfl rfl rfl (o_ix (f := c_T_impl_Nest false) rfl rfl tyS_26 rfl rfl h10 rfl) ?_
   refine au 8 ?_
   obtain ⟨r11, h12, H⟩ := bind_s H
   refine TL.st rfl rfl rfl (o_callP rfl en_54 rfl rfl (.cons _ _ _ _ (.cl _ rfl) (.cons _ _ _ _ (.cl _ rfl) .nil)) (spec_l5CmpNest_p  h12)) ?_
   refine au 2 ?_
   refine T.cut (fun fr' σ' => ∃ (l13 : List T_impl_Nest) (v14 : Bool), fr' = [(4, .bx 0 0), (7, .hd 1 (l13.map (c_T_impl_Nest false)).length 0 (l13.map (c_T_impl_Nest false)).length), (8, .bool v14), (10, .bx 2 0), (11, .int .i64 r11), (14, .im b0 (a0.map (c_T_impl_Nest false))), (15, .int .i64 (a0.length : Int)), (16, .int .i64 v3)] ∧ σ' = [.box (c_T_impl_Nest false a1), .arr .clo 2 (l13.map (c_T_impl_Nest false)), .box (c_T_impl_Nest false e9)] ∧ spec_l5With_j1 v3 e9 r11 l13 v14 = some y8) (T.pk ?_) ?_
   ·skip
    refine au 9 ?_
    refine T.cH H (fun H h => ?_) (fun H h => ?_)
    ·refine au 4 ?_
     refine TL.st rfl rfl rfl (o_sliceIm (rows := ([a1] : List T_impl_Nest).map (c_T_impl_Nest false)) rfl rfl tyS_26 ⟨_, rfl, rfl⟩ (by decide) rfl rfl rfl rfl rfl rfl) ?_
     obtain ⟨l17, h18, H⟩ := bind_s H
     refine TL.st rfl rfl rfl (o_ap (f := c_T_impl_Nest false) (xs := l1) (ys := ([a1] : List T_impl_Nest)) rfl rfl tyE_26 rfl rfl rfl rfl (by decide) rfl (fun _ => rfl) h18) ?_
     refine au 2 ?_
     refine T.conv (Cs.eqS (σ' := [_, .arr .clo 2 (l17.map (c_T_impl_Nest false)), .box (c_T_impl_Nest false e9)]) rfl) ?_
     refine au 3 ?_
     exact Pk.of (thn_normal ⟨l17, true, rfl, rfl, H⟩)
    ·refine T.skip ?_
     exact Pk.of (thn_normal ⟨l1, v2, rfl, rfl, H⟩)
   ·rintro _ _ ⟨l13, v14, rfl, rfl, H⟩
    refine au 5 ?_
    refine T.cH H (fun H h => ?_) (fun H h => ?_)
    ·refine au 3 ?_
     refine TL.st rfl rfl rfl (o_sliceIm (rows := ([e9] : List T_impl_Nest).map (c_T_impl_Nest false)) rfl rfl tyS_26 ⟨_, rfl, rfl⟩ (by decide) rfl rfl rfl rfl rfl rfl) ?_
     obtain ⟨l15, h16, H⟩ := bind_s H
     refine TL.st rfl rfl rfl (o_ap (f := c_T_impl_Nest false) (xs := l13) (ys := ([e9] : List T_impl_Nest)) rfl rfl tyE_26 rfl rfl rfl rfl (by decide) rfl (fun _ => rfl) h16) ?_
     refine au 6 ?_
     exact Pk.of (thn_normal ⟨(l15, v14, (IntKind.i64.wrap (v3 + 1))), (some_i H).symm, rfl, rfl⟩)
    ·refine au 5 ?_
     exact Pk.of (thn_normal ⟨(l13, v14, (IntKind.i64.wrap (v3 + 1))), (some_i H).symm, rfl, rfl⟩)
  ·refine T.exit ?_
   refine thn_exit ?_
   exact Pk.of (thn_exit ⟨(l1, v2), (some_i H).symm, rfl, rfl, rfl⟩)
 ·rcases q19 with ⟨l4, v5⟩
  rintro _ _ _ ⟨rfl, rfl, rfl⟩
  refine inB_here ?_
  refine au 6 ?_
  refine T.cH H (fun H h => ?_) (fun H h => ?_)
  ·refine au 3 ?_
   refine TL.st rfl rfl rfl (o_sliceIm (rows := ([a1] : List T_impl_Nest).map (c_T_impl_Nest false)) rfl rfl tyS_26 ⟨_, rfl, rfl⟩ (by decide) rfl rfl rfl rfl rfl rfl) ?_
   obtain ⟨l6, h7, H⟩ := bind_s H
   refine TL.st rfl rfl rfl (o_ap (f := c_T_impl_Nest false) (xs := l4) (ys := ([a1] : List T_impl_Nest)) rfl rfl tyE_26 rfl rfl rfl rfl (by decide) rfl (fun _ => rfl) h7) ?_
   refine au 7 ?_
   refine T.conv (Cs.wkF (M := 2) (.k 6 rfl rfl .nil)) ?_
   refine T.conv (Cs.reloc 0 1 rfl rfl (by decide) rfl rfl rfl (nomS_get rfl)) ?_
   refine T.ret ?_
   cases some_i H
   exact ⟨trivial, _, (.tmp _ _ _ _ rfl .nil), ⟨rfl, _, rfl⟩⟩
  ·refine au 6 ?_
   refine T.conv (Cs.wkF (M := 2) (.k 6 rfl rfl .nil)) ?_
   refine T.conv (Cs.reloc 0 1 rfl rfl (by decide) rfl rfl rfl (nomS_get rfl)) ?_
   refine T.ret ?_
   cases some_i H
   exact ⟨trivial, _, (.tmp _ _ _ _ rfl .nil), ⟨rfl, _, rfl⟩⟩
noncomputable def spec_l1Size_j1 (v1 : Int) (v2 : ByteArray) (v5 : Int) : Option ((Int × ByteArray) ⊕ ByteArray) :=
  (cat (byS ([(IntKind.u8.wrap (IntKind.i64.wrap (48 + v5)))] : List Int)) v2).bind fun s6 => some (.inl ((IntKind.i64.wrap (Int.tdiv v1 10)), s6))
noncomputable def spec_l1Size_l1  : (Int × ByteArray) → Option ((Int × ByteArray) ⊕ ByteArray) := fun s => match s with
  | (v1, v2) => cond (v1 != 0) (cond (decide ((Int.tmod v1 10) < 0)) (spec_l1Size_j1 v1 v2 (IntKind.i64.wrap (-(Int.tmod v1 10)))) (spec_l1Size_j1 v1 v2 (Int.tmod v1 10))) (some (.inr v2))
noncomputable def spec_l1Size (a0 : Int) : Option ByteArray :=
  cond (a0 == 0) (some (ByteArray.mk #[48])) ((loopO (spec_l1Size_l1) (a0, e0)).bind fun v3 => (match v3 with | v3 => some v3))
theorem spec_l1Size_p  {a0 : Int} {R0 : ByteArray} (H : spec_l1Size a0 = some R0) : Pure Try.prog 68 [.int .i64 a0] (.str R0) := by
 refine CallT.of_TN (n := 25) Try.func68 rfl rfl rfl rfl ?_
 refine au 10 ?_
 refine T.cH H (fun H h => ?_) (fun H h => ?_)
 ·refine au 5 ?_
  refine thn_ret ?_
  cases some_i H
  exact ⟨trivial, _, (.tmp _ _ _ _ rfl .nil), (.cl _ rfl)⟩
 ·refine au 7 ?_
  obtain ⟨v3, h9, H⟩ := bind_s H
  refine T.lq (fun s => match s with | (v1, v2) => [(0, .int .i64 v1), (3, .str v2)]) (fun s => match s with | (v1, v2) => []) (fun q ex fr σ => match q with | v3 => ex = .exit 0 ∧ fr = [(3, .str v3)] ∧ σ = []) h9 ?_ ?_
  ·rintro ⟨v1, v2⟩ y4 H
   refine au 6 ?_
   refine T.cH H (fun H h => ?_) (fun H h => ?_)
   ·refine au 5 ?_
    refine TL.st rfl rfl rfl (o_rem rfl rfl rfl (by decide)) ?_
    refine au 2 ?_
    refine T.cut (fun fr' σ' => ∃ (v5 : Int), fr' = [(0, .int .i64 v1), (3, .str v2), (4, .int .i64 v5)] ∧ σ' = [] ∧ spec_l1Size_j1 v1 v2 v5 = some y4) (T.pk ?_) ?_
    ·skip
     refine au 5 ?_
     refine T.cH H (fun H h => ?_) (fun H h => ?_)
     ·refine au 2 ?_
      refine TL.st rfl rfl rfl (o_neg rfl rfl) ?_
      refine au 2 ?_
      exact Pk.of (thn_normal ⟨(IntKind.i64.wrap (-(Int.tmod v1 10))), rfl, rfl, H⟩)
     ·refine T.skip ?_
      exact Pk.of (thn_normal ⟨(Int.tmod v1 10), rfl, rfl, H⟩)
    ·rintro _ _ ⟨v5, rfl, rfl, H⟩
     refine au 4 ?_
     refine TL.st rfl rfl rfl (o_conv rfl rfl ⟨_, rfl⟩ rfl) ?_
     refine TL.st rfl rfl rfl (o_sliceIm (rows := ([(IntKind.u8.wrap (IntKind.i64.wrap (48 + v5)))] : List Int).map (c_int .u8)) rfl rfl tyS_5 ⟨_, rfl, rfl⟩ (by decide) rfl rfl rfl rfl rfl rfl) ?_
     refine TL.st rfl rfl rfl (o_bs (f := c_int .u8) (ns := ([(IntKind.u8.wrap (IntKind.i64.wrap (48 + v5)))] : List Int)) rfl rfl rfl rfl (fun _ => rfl) rfl) ?_
     refine TL.st rfl rfl rfl (o_move rfl rfl) ?_
     obtain ⟨s6, h7, H⟩ := bind_s H
     refine TL.st rfl rfl rfl (o_ct rfl rfl rfl h7) ?_
     refine au 4 ?_
     refine TL.st rfl rfl rfl (o_quo rfl rfl rfl (by decide)) ?_
     refine au 2 ?_
     refine inB_normal ?_
     exact Pk.of (thn_normal ⟨((IntKind.i64.wrap (Int.tdiv v1 10)), s6), (some_i H).symm, rfl, rfl⟩)
   ·refine T.exit ?_
    refine thn_exit ?_
    exact Pk.of (thn_exit ⟨v2, (some_i H).symm, rfl, rfl, rfl⟩)
  ·rintro _ _ _ ⟨rfl, rfl, rfl⟩
   refine inB_here ?_
   refine au 6 ?_
   cases some_i H
   exact ⟨trivial, _, (.tmp _ _ _ _ rfl .nil), (.cl _ rfl)⟩
theorem en_68 : En Try.prog 68 := .of Try.func68 rfl rfl
noncomputable def spec_l1Num (a0 : Int) : Option ByteArray :=
  cond (decide (a0 < 0)) ((spec_l1Size a0).bind fun r1 => (cat (ByteArray.mk #[45]) r1).bind fun s3 => some s3) ((spec_l1Size a0).bind fun r5 => some r5)
theorem spec_l1Num_p  {a0 : Int} {R0 : ByteArray} (H : spec_l1Num a0 = some R0) : Pure Try.prog 57 [.int .i64 a0] (.str R0) := by
 refine CallT.of_TN (n := 10) Try.func57 rfl rfl rfl rfl ?_
 refine au 10 ?_
 refine T.cH H (fun H h => ?_) (fun H h => ?_)
 ·refine au 3 ?_
  obtain ⟨r1, h2, H⟩ := bind_s H
  refine TL.st rfl rfl rfl (o_callP rfl en_68 rfl rfl (.cons _ _ _ _ (.cl _ rfl) .nil) (spec_l1Size_p  h2)) ?_
  obtain ⟨s3, h4, H⟩ := bind_s H
  refine TL.st rfl rfl rfl (o_ct rfl rfl rfl h4) ?_
  refine au 3 ?_
  refine thn_ret ?_
  cases some_i H
  exact ⟨trivial, _, (.tmp _ _ _ _ rfl .nil), (.cl _ rfl)⟩
 ·refine au 4 ?_
  obtain ⟨r5, h6, H⟩ := bind_s H
  refine TL.st rfl rfl rfl (o_callP rfl en_68 rfl rfl (.cons _ _ _ _ (.cl _ rfl) .nil) (spec_l1Size_p  h6)) ?_
  refine au 3 ?_
  cases some_i H
  exact ⟨trivial, _, (.tmp _ _ _ _ rfl .nil), (.cl _ rfl)⟩
theorem en_57 : En Try.prog 57 := .of Try.func57 rfl rfl
noncomputable def spec_l1Cur_nests_l2  : (List T_impl_Nest × Int) → Option ((List T_impl_Nest × Int) ⊕ List T_impl_Nest) := fun s => match s with
  | (l28, v29) => cond (decide (v29 > 0)) ((spec_l1Num (Int.tmod v29 30)).bind fun r32 => (cat (ByteArray.mk #[71]) r32).bind fun s34 => (idx ([(ByteArray.mk #[109]), (ByteArray.mk #[71])] : List ByteArray) (Int.tmod v29 2)).bind fun e36 => (spec_l1Num (Int.tmod (IntKind.i64.wrap (v29 * 7)) 90)).bind fun r38 => (cat e36 r38).bind fun s40 => (spec_l5With l28 (⟨s34, s40⟩ : T_impl_Nest) true).bind fun r42 => some (.inl (r42, (IntKind.i64.wrap (v29 - 1))))) (some (.inr l28))
noncomputable def spec_l1Cur_nests_l1  : (T_spec_l1Cur × List T_impl_Nest × Int) → Option ((T_spec_l1Cur × List T_impl_Nest × Int) ⊕ (T_spec_l1Cur × List T_impl_Nest)) := fun s => match s with
  | (b4, l5, v6) => cond (decide (v6 > 0)) ((spec_l1Cur_nest b4).bind fun q => (match q with | (r47, o48) => (spec_l5With l5 r47 true).bind fun r50 => some (.inl (o48, r50, (IntKind.i64.wrap (v6 - 1)))))) (some (.inr (b4, l5)))
noncomputable def spec_l1Cur_nests (a0 : Int) (s0 : T_spec_l1Cur) : Option ((List T_impl_Nest) × T_spec_l1Cur) :=
  (spec_l1Cur_pick a0 s0).bind fun q => (match q with | (r1, o2) => (loopO (spec_l1Cur_nests_l1) (o2, ([] : List T_impl_Nest), r1)).bind fun q52 => (match q52 with | (b7, l8) => (spec_l1Cur_pick 24 b7).bind fun q => (match q with | (r9, o10) => cond (r9 == 0) (cond (decide ((l8.length : Int) > 1)) ((idx l8 0).bind fun e12 => (idx l8 1).bind fun e14 => (idx l8 0).bind fun e16 => (idx (l8.set (Int.toNat 0) e14) 1).bind fun e18 => some (((l8.set (Int.toNat 0) e14).set (Int.toNat 1) e12), o10)) (some (l8, o10))) (cond (r9 == 1) (cond (decide ((l8.length : Int) > 0)) ((spec_l1Cur_of ([e0, (ByteArray.mk #[97, 110, 110]), (ByteArray.mk #[65, 45])] : List ByteArray) o10).bind fun q => (match q with | (r20, o21) => (idx l8 0).bind fun e23 => some ((l8.set (Int.toNat 0) (⟨r20, e23.Member_⟩ : T_impl_Nest)), o21))) (some (l8, o10))) (cond (r9 == 2) ((spec_l1Cur_pick 3 o10).bind fun q => (match q with | (r25, o26) => (loopO (spec_l1Cur_nests_l2) (([] : List T_impl_Nest), (IntKind.i64.wrap (199 + r25)))).bind fun l30 => (match l30 with | l30 => some (l30, o26)))) (some (l8, o10)))))))
theorem spec_l1Cur_nests_p (c0 : Bool) {a0 : Int} {s0 : T_spec_l1Cur} {R0 : (List T_impl_Nest)} {U0 : T_spec_l1Cur} (H : spec_l1Cur_nests a0 s0 = some (R0, U0)) : St Try.prog 40 [.bx 0 0, .int .i64 a0] [.box (c_T_spec_l1Cur c0 s0)] (.im false (R0.map (c_T_impl_Nest false))) [.box (c_T_spec_l1Cur c0 U0)] := by
 refine CallT.fin (CallT.of_TN (n := 76) Try.func40 rfl rfl rfl rfl ?_) rfl rfl ⟨(bels_iff.1 rfl), trivial⟩
 refine au 13 ?_
 obtain ⟨⟨r1, o2⟩, h3, H⟩ := bind_s H
 refine TL.st rfl rfl rfl (o_callS [0] rfl en_43 rfl rfl (spec_l1Cur_pick_p c0 h3) rfl (by decide) (.cons _ _ _ _ rfl .nil) rfl rfl rfl) ?_
 refine au 3 ?_
 refine T.conv (Cs.own (t := 5) 2 rfl (by decide)) ?_
 obtain ⟨q52, h53, H⟩ := bind_s H
 refine T.lq (fun s => match s with | (b4, l5, v6) => [(0, .bx 0 0), (5, .hd 1 (l5.map (c_T_impl_Nest false)).length 0 (l5.map (c_T_impl_Nest false)).length), (6, .int .i64 v6)]) (fun s => match s with | (b4, l5, v6) => [.box (c_T_spec_l1Cur c0 b4), .arr .clo 2 (l5.map (c_T_impl_Nest false))]) (fun q ex fr σ => match q with | (b7, l8) => ex = .exit 0 ∧ fr = [(0, .bx 0 0), (5, .hd 1 (l8.map (c_T_impl_Nest false)).length 0 (l8.map (c_T_impl_Nest false)).length)] ∧ σ = [.box (c_T_spec_l1Cur c0 b7), .arr .clo 2 (l8.map (c_T_impl_Nest false))]) h53 ?_ ?_
 ·rintro ⟨b4, l5, v6⟩ y46 H
  refine au 6 ?_
  refine T.cH H (fun H h => ?_) (fun H h => ?_)
  ·refine au 6 ?_
   obtain ⟨⟨r47, o48⟩, h49, H⟩ := bind_s H
   refine TL.st rfl rfl rfl (o_callS [0] rfl en_41 rfl rfl (spec_l1Cur_nest_p c0 h49) rfl (by decide) (.cons _ _ _ _ rfl .nil) rfl rfl rfl) ?_
   obtain ⟨r50, h51, H⟩ := bind_s H
   refine TL.st rfl rfl rfl (o_callOwn rfl en_52 rfl rfl (.cons _ _ _ _ (.own rfl (by decide) rfl) (.cons _ _ _ _ (.cl _ rfl) (.cons _ _ _ _ (.cl _ rfl) .nil))) (spec_l5With_o true h51)) ?_
   refine TL.st rfl rfl rfl (o_assign rfl rfl) ?_
   refine TL.conv (Cs.wkF (M := 3) (.k 0 rfl rfl (.k 5 rfl rfl (.k 6 rfl rfl (.k 12 rfl rfl (.k 13 rfl rfl (.k 17 rfl rfl (.k 18 rfl rfl (.k 19 rfl rfl .nil))))))))) ?_
   refine TL.conv (Cs.reloc 1 2 rfl rfl (by decide) rfl rfl rfl (nomS_get rfl)) ?_
   refine TL.conv (Cs.wkF (M := 3) (.k 0 rfl rfl (.k 5 rfl rfl (.k 6 rfl rfl (.k 12 rfl rfl (.k 13 rfl rfl (.k 17 rfl rfl (.k 18 rfl rfl (.k 19 rfl rfl .nil))))))))) ?_
   refine TL.conv (Cs.eqS (σ' := [.box (c_T_spec_l1Cur c0 o48), .arr .clo 2 (r50.map (c_T_impl_Nest false)), .dead]) rfl) ?_
   refine au 6 ?_
   exact Pk.of (thn_normal ⟨(o48, r50, (IntKind.i64.wrap (v6 - 1))), (some_i H).symm, rfl, rfl⟩)
  ·refine T.exit ?_
   refine thn_exit ?_
   exact Pk.of (thn_exit ⟨(b4, l5), (some_i H).symm, rfl, rfl, rfl⟩)
 ·rcases q52 with ⟨b7, l8⟩
  rintro _ _ _ ⟨rfl, rfl, rfl⟩
  refine inB_here ?_
  refine au 4 ?_
  obtain ⟨⟨r9, o10⟩, h11, H⟩ := bind_s H
  refine TL.st rfl rfl rfl (o_callS [0] rfl en_43 rfl rfl (spec_l1Cur_pick_p c0 h11) rfl (by decide) (.cons _ _ _ _ rfl .nil) rfl rfl rfl) ?_
  refine au 7 ?_
  refine T.cH H (fun H h => ?_) (fun H h => ?_)
  ·refine au 3 ?_
   refine TL.st rfl rfl rfl (o_lenOwn (f := c_T_impl_Nest false) rfl rfl rfl rfl rfl) ?_
   refine au 2 ?_
   refine T.cH H (fun H h => ?_) (fun H h => ?_)
   ·refine au 3 ?_
    obtain ⟨e12, h13, H⟩ := bind_s H
    refine TL.st rfl rfl rfl (o_ixh (f := c_T_impl_Nest false) rfl rfl tyS_26 rfl rfl rfl rfl h13 rfl) ?_
    refine TL.st rfl rfl rfl (o_loadEl rfl tyS_26 rfl rfl rfl (by rw [List.getElem?_map, (idx_s h13).2]; rfl) (nb rfl) rfl) ?_
    refine au 4 ?_
    refine T.conv (Cs.eqS (σ' := [.box (c_T_spec_l1Cur c0 o10), _, .box (c_T_impl_Nest false e12)]) rfl) ?_
    refine au 3 ?_
    obtain ⟨e14, h15, H⟩ := bind_s H
    refine TL.st rfl rfl rfl (o_ixh (f := c_T_impl_Nest false) rfl rfl tyS_26 rfl rfl rfl rfl h15 rfl) ?_
    refine TL.st rfl rfl rfl (o_loadEl rfl tyS_26 rfl rfl rfl (by rw [List.getElem?_map, (idx_s h15).2]; rfl) (nb rfl) rfl) ?_
    obtain ⟨e16, h17, H⟩ := bind_s H
    refine TL.st rfl rfl rfl (o_ixh (f := c_T_impl_Nest false) rfl rfl tyS_26 rfl rfl rfl rfl h17 rfl) ?_
    refine TL.sn rfl rfl (o_stEl (f := c_T_impl_Nest false) (xs := l8) (k := 0) (a := e16) e14 rfl tyS_26 rfl rfl rfl rfl (by decide) h17 rfl rfl rfl (fun _ => rfl) rfl) ?_
    refine TL.conv (Cs.eqV (t := 5) (v' := .hd 1 ((l8.set (Int.toNat 0) e14).map (c_T_impl_Nest false)).length 0 ((l8.set (Int.toNat 0) e14).map (c_T_impl_Nest false)).length) rfl (hd_len _ (List.length_set ..))) ?_
    refine TL.conv (Cs.eqV (t := 24) (v' := .hd 1 ((l8.set (Int.toNat 0) e14).map (c_T_impl_Nest false)).length 0 ((l8.set (Int.toNat 0) e14).map (c_T_impl_Nest false)).length) rfl (hd_len _ (List.length_set ..))) ?_
    refine TL.conv (Cs.eqV (t := 27) (v' := .hd 1 ((l8.set (Int.toNat 0) e14).map (c_T_impl_Nest false)).length 0 ((l8.set (Int.toNat 0) e14).map (c_T_impl_Nest false)).length) rfl (hd_len _ (List.length_set ..))) ?_
    refine TL.conv (Cs.eqV (t := 28) (v' := .el 1 ((l8.set (Int.toNat 0) e14).map (c_T_impl_Nest false)).length (Int.toNat 0) 0) rfl (el_len _ _ _ (List.length_set ..))) ?_
    refine TL.conv (Cs.eqV (t := 30) (v' := .hd 1 ((l8.set (Int.toNat 0) e14).map (c_T_impl_Nest false)).length 0 ((l8.set (Int.toNat 0) e14).map (c_T_impl_Nest false)).length) rfl (hd_len _ (List.length_set ..))) ?_
    refine TL.conv (Cs.eqV (t := 31) (v' := .hd 1 ((l8.set (Int.toNat 0) e14).map (c_T_impl_Nest false)).length 0 ((l8.set (Int.toNat 0) e14).map (c_T_impl_Nest false)).length) rfl (hd_len _ (List.length_set ..))) ?_
    refine TL.conv (Cs.eqV (t := 34) (v' := .el 1 ((l8.set (Int.toNat 0) e14).map (c_T_impl_Nest false)).length (Int.toNat 0) 0) rfl (el_len _ _ _ (List.length_set ..))) ?_
    refine au 4 ?_
    obtain ⟨e18, h19, H⟩ := bind_s H
    refine TL.st rfl rfl rfl (o_ixh (f := c_T_impl_Nest false) rfl rfl tyS_26 rfl rfl rfl rfl h19 rfl) ?_
    refine TL.sn rfl rfl (o_stEl (f := c_T_impl_Nest false) (xs := (l8.set (Int.toNat 0) e14)) (k := 1) (a := e18) e12 rfl tyS_26 rfl rfl rfl rfl (by decide) h19 rfl rfl rfl (fun _ => rfl) rfl) ?_
    refine TL.conv (Cs.eqV (t := 5) (v' := .hd 1 (((l8.set (Int.toNat 0) e14).set (Int.toNat 1) e12).map (c_T_impl_Nest false)).length 0 (((l8.set (Int.toNat 0) e14).set (Int.toNat 1) e12).map (c_T_impl_Nest false)).length) rfl (hd_len _ (List.length_set ..))) ?_
    refine TL.conv (Cs.eqV (t := 24) (v' := .hd 1 (((l8.set (Int.toNat 0) e14).set (Int.toNat 1) e12).map (c_T_impl_Nest false)).length 0 (((l8.set (Int.toNat 0) e14).set (Int.toNat 1) e12).map (c_T_impl_Nest false)).length) rfl (hd_len _ (List.length_set ..))) ?_
    refine TL.conv (Cs.eqV (t := 27) (v' := .hd 1 (((l8.set (Int.toNat 0) e14).set (Int.toNat 1) e12).map (c_T_impl_Nest false)).length 0 (((l8.set (Int.toNat 0) e14).set (Int.toNat 1) e12).map (c_T_impl_Nest false)).length) rfl (hd_len _ (List.length_set ..))) ?_
    refine TL.conv (Cs.eqV (t := 30) (v' := .hd 1 (((l8.set (Int.toNat 0) e14).set (Int.toNat 1) e12).map (c_T_impl_Nest false)).length 0 (((l8.set (Int.toNat 0) e14).set (Int.toNat 1) e12).map (c_T_impl_Nest false)).length) rfl (hd_len _ (List.length_set ..))) ?_
    refine TL.conv (Cs.eqV (t := 31) (v' := .hd 1 (((l8.set (Int.toNat 0) e14).set (Int.toNat 1) e12).map (c_T_impl_Nest false)).length 0 (((l8.set (Int.toNat 0) e14).set (Int.toNat 1) e12).map (c_T_impl_Nest false)).length) rfl (hd_len _ (List.length_set ..))) ?_
    refine TL.conv (Cs.eqV (t := 35) (v' := .hd 1 (((l8.set (Int.toNat 0) e14).set (Int.toNat 1) e12).map (c_T_impl_Nest false)).length 0 (((l8.set (Int.toNat 0) e14).set (Int.toNat 1) e12).map (c_T_impl_Nest false)).length) rfl (hd_len _ (List.length_set ..))) ?_
    refine TL.conv (Cs.eqV (t := 37) (v' := .el 1 (((l8.set (Int.toNat 0) e14).set (Int.toNat 1) e12).map (c_T_impl_Nest false)).length (Int.toNat 1) 0) rfl (el_len _ _ _ (List.length_set ..))) ?_
    refine au 6 ?_
    refine T.conv (Cs.frzOwn (t := 4) rfl rfl rfl) ?_
    refine T.ret ?_
    cases some_i H
    exact ⟨trivial, _, (.tmp _ _ _ _ rfl .nil), ⟨rfl, _, rfl⟩⟩
   ·refine au 6 ?_
    refine T.conv (Cs.frzOwn (t := 4) rfl rfl rfl) ?_
    refine T.ret ?_
    cases some_i H
    exact ⟨trivial, _, (.tmp _ _ _ _ rfl .nil), ⟨rfl, _, rfl⟩⟩
  ·refine au 5 ?_
   refine T.cH H (fun H h => ?_) (fun H h => ?_)
   ·refine au 3 ?_
    refine TL.st rfl rfl rfl (o_lenOwn (f := c_T_impl_Nest false) rfl rfl rfl rfl rfl) ?_
    refine au 2 ?_
    refine T.cH H (fun H h => ?_) (fun H h => ?_)
    ·refine au 3 ?_
     refine TL.st rfl rfl rfl (o_sliceIm (rows := ([e0, (ByteArray.mk #[97, 110, 110]), (ByteArray.mk #[65, 45])] : List ByteArray).map (c_str)) rfl rfl tyS_9 ⟨_, rfl, rfl⟩ (by decide) rfl rfl rfl rfl rfl rfl) ?_
     obtain ⟨⟨r20, o21⟩, h22, H⟩ := bind_s H
     refine TL.st rfl rfl rfl (o_callS [0] rfl en_56 rfl rfl (spec_l1Cur_of_p false c0 h22) rfl (by decide) (.cons _ _ _ _ rfl .nil) rfl rfl rfl) ?_
     obtain ⟨e23, h24, H⟩ := bind_s H
     refine TL.st rfl rfl rfl (o_ixh (f := c_T_impl_Nest false) rfl rfl tyS_26 rfl rfl rfl rfl h24 rfl) ?_
     refine TL.st rfl rfl rfl (o_fieldAddrEl rfl rfl rfl tyS_9 (by decide) rfl rfl rfl) ?_
     refine TL.sn rfl rfl (o_stEl (f := c_T_impl_Nest false) (xs := l8) (k := 0) (a := e23) (⟨r20, e23.Member_⟩ : T_impl_Nest) rfl tyS_9 rfl rfl rfl rfl (by decide) h24 rfl rfl rfl (fun _ => rfl) rfl) ?_
     refine TL.conv (Cs.eqV (t := 5) (v' := .hd 1 ((l8.set (Int.toNat 0) (⟨r20, e23.Member_⟩ : T_impl_Nest)).map (c_T_impl_Nest false)).length 0 ((l8.set (Int.toNat 0) (⟨r20, e23.Member_⟩ : T_impl_Nest)).map (c_T_impl_Nest false)).length) rfl (hd_len _ (List.length_set ..))) ?_
     refine TL.conv (Cs.eqV (t := 40) (v' := .hd 1 ((l8.set (Int.toNat 0) (⟨r20, e23.Member_⟩ : T_impl_Nest)).map (c_T_impl_Nest false)).length 0 ((l8.set (Int.toNat 0) (⟨r20, e23.Member_⟩ : T_impl_Nest)).map (c_T_impl_Nest false)).length) rfl (hd_len _ (List.length_set ..))) ?_
     refine TL.conv (Cs.eqV (t := 43) (v' := .hd 1 ((l8.set (Int.toNat 0) (⟨r20, e23.Member_⟩ : T_impl_Nest)).map (c_T_impl_Nest false)).length 0 ((l8.set (Int.toNat 0) (⟨r20, e23.Member_⟩ : T_impl_Nest)).map (c_T_impl_Nest false)).length) rfl (hd_len _ (List.length_set ..))) ?_
     refine TL.conv (Cs.eqV (t := 47) (v' := .el 1 ((l8.set (Int.toNat 0) (⟨r20, e23.Member_⟩ : T_impl_Nest)).map (c_T_impl_Nest false)).length (Int.toNat 0) 0) rfl (el_len _ _ _ (List.length_set ..))) ?_
     refine TL.conv (Cs.eqV (t := 48) (v' := .el 1 ((l8.set (Int.toNat 0) (⟨r20, e23.Member_⟩ : T_impl_Nest)).map (c_T_impl_Nest false)).length (Int.toNat 0) 0) rfl (el_len _ _ _ (List.length_set ..))) ?_
     refine au 2 ?_
     refine T.conv (Cs.eqS (σ' := [.box (c_T_spec_l1Cur c0 o21), .arr .clo 2 ((l8.set (Int.toNat 0) (⟨r20, e23.Member_⟩ : T_impl_Nest)).map (c_T_impl_Nest false))]) rfl) ?_
     refine au 4 ?_
     refine T.conv (Cs.frzOwn (t := 4) rfl rfl rfl) ?_
     refine T.ret ?_
     cases some_i H
     exact ⟨trivial, _, (.tmp _ _ _ _ rfl .nil), ⟨rfl, _, rfl⟩⟩
    ·refine au 6 ?_
     refine T.conv (Cs.frzOwn (t := 4) rfl rfl rfl) ?_
     refine T.ret ?_
     cases some_i H
     exact ⟨trivial, _, (.tmp _ _ _ _ rfl .nil), ⟨rfl, _, rfl⟩⟩
   ·refine au 5 ?_
    refine T.cH H (fun H h => ?_) (fun H h => ?_)
    ·refine au 3 ?_
     refine TL.conv (Cs.own (t := 5) 2 rfl (by decide)) ?_
     refine TL.conv (Cs.wkF (M := 3) (.k 0 rfl rfl (.k 5 rfl rfl (.k 20 rfl rfl (.k 21 rfl rfl (.k 22 rfl rfl (.k 23 rfl rfl (.k 38 rfl rfl (.k 39 rfl rfl (.k 49 rfl rfl (.k 50 rfl rfl .nil))))))))))) ?_
     refine TL.conv (Cs.reloc 1 2 rfl rfl (by decide) rfl rfl rfl (nomS_get rfl)) ?_
     refine TL.conv (Cs.wkF (M := 3) (.k 0 rfl rfl (.k 5 rfl rfl (.k 20 rfl rfl (.k 21 rfl rfl (.k 22 rfl rfl (.k 23 rfl rfl (.k 38 rfl rfl (.k 39 rfl rfl (.k 49 rfl rfl (.k 50 rfl rfl .nil))))))))))) ?_
     refine TL.conv (Cs.eqS (σ' := [.box (c_T_spec_l1Cur c0 o10), .arr .clo 2 (([] : List T_impl_Nest).map (c_T_impl_Nest false)), .dead]) rfl) ?_
     refine au 4 ?_
     obtain ⟨⟨r25, o26⟩, h27, H⟩ := bind_s H
     refine TL.st rfl rfl rfl (o_callS [0] rfl en_43 rfl rfl (spec_l1Cur_pick_p c0 h27) rfl (by decide) (.cons _ _ _ _ rfl .nil) rfl rfl rfl) ?_
     refine au 4 ?_
     obtain ⟨l30, h45, H⟩ := bind_s H
     refine T.lq (fun s => match s with | (l28, v29) => [(5, .hd 1 (l28.map (c_T_impl_Nest false)).length 0 (l28.map (c_T_impl_Nest false)).length), (8, .int .i64 v29)]) (fun s => match s with | (l28, v29) => [.box (c_T_spec_l1Cur c0 o26), .arr .clo 2 (l28.map (c_T_impl_Nest false)), .dead]) (fun q ex fr σ => match q with | l30 => ex = .exit 3 ∧ fr = [(5, .hd 1 (l30.map (c_T_impl_Nest false)).length 0 (l30.map (c_T_impl_Nest false)).length)] ∧ σ = [.box (c_T_spec_l1Cur c0 o26), .arr .clo 2 (l30.map (c_T_impl_Nest false)), .dead]) h45 ?_ ?_
     ·rintro ⟨l28, v29⟩ y31 H
      refine au 6 ?_
      refine T.cH H (fun H h => ?_) (fun H h => ?_)
      ·refine au 3 ?_
       refine T.drawn rfl ?_
       refine ad 2 ?_
       refine TD.qs rfl rfl (fun _ => o_rem rfl rfl rfl (by decide)) ?_
       obtain ⟨r32, h33, H⟩ := bind_s H
       refine TD.qs rfl rfl (fun _ => o_callP rfl en_57 rfl rfl (.cons _ _ _ _ (.cl _ rfl) .nil) (spec_l1Num_p  h33)) ?_
       obtain ⟨s34, h35, H⟩ := bind_s H
       refine TD.qs rfl rfl (fun _ => o_ct rfl rfl rfl h35) ?_
       refine TD.qs rfl rfl (fun _ => o_sliceIm (rows := ([(ByteArray.mk #[109]), (ByteArray.mk #[71])] : List ByteArray).map (c_str)) rfl rfl tyS_9 ⟨_, rfl, rfl⟩ (by decide) rfl rfl rfl rfl rfl rfl) ?_
       refine TD.qs rfl rfl (fun _ => o_move rfl rfl) ?_
       refine TD.qs rfl rfl (fun _ => o_rem rfl rfl rfl (by decide)) ?_
       obtain ⟨e36, h37, H⟩ := bind_s H
       refine TD.qs rfl rfl (fun _ => o_ix (f := c_str) rfl rfl tyS_9 rfl rfl h37 rfl) ?_
       refine TD.qs rfl rfl (fun _ => o_loadRf rfl tyS_9 rfl (nb rfl) rfl) ?_
       refine ad 2 ?_
       refine TD.qs rfl rfl (fun _ => o_rem rfl rfl rfl (by decide)) ?_
       obtain ⟨r38, h39, H⟩ := bind_s H
       refine TD.qs rfl rfl (fun _ => o_callP rfl en_57 rfl rfl (.cons _ _ _ _ (.cl _ rfl) .nil) (spec_l1Num_p  h39)) ?_
       obtain ⟨s40, h41, H⟩ := bind_s H
       refine TD.qs rfl rfl (fun _ => o_ct rfl rfl rfl h41) ?_
       refine TD.qs rfl rfl (fun _ => o_build rfl ⟨_, fun _ => rfl, rfl⟩ rfl rfl rfl) ?_
       obtain ⟨r42, h43, H⟩ := bind_s H
       refine TD.as rfl rfl (o_callOwn rfl en_52 rfl rfl (.cons _ _ _ _ (.own rfl (by decide) rfl) (.cons _ _ _ _ (.cl _ rfl) (.cons _ _ _ _ (.cl _ rfl) .nil))) (spec_l5With_o true h43)) ?_
       refine TD.qs rfl rfl (fun _ => o_assign rfl rfl) ?_
       refine TD.nil ⟨rfl, ?_⟩
       refine inB_normal (thn_normal ?_)
       refine T.conv (Cs.wkF (M := 4) (.k 5 rfl rfl (.k 8 rfl rfl (.k 54 rfl rfl (.k 55 rfl rfl (.k 59 rfl rfl (.k 60 rfl rfl (.k 61 rfl rfl (.k 62 rfl rfl (.k 63 rfl rfl (.k 64 rfl rfl (.k 65 rfl rfl (.k 67 rfl rfl (.k 68 rfl rfl (.k 69 rfl rfl (.k 70 rfl rfl (.k 71 rfl rfl (.k 72 rfl rfl (.k 73 rfl rfl (.k 74 rfl rfl .nil)))))))))))))))))))) ?_
       refine T.conv (Cs.reloc 1 3 rfl rfl (by decide) rfl rfl rfl (nomS_get rfl)) ?_
       refine T.conv (Cs.wkF (M := 4) (.k 5 rfl rfl (.k 8 rfl rfl (.k 54 rfl rfl (.k 55 rfl rfl (.k 59 rfl rfl (.k 60 rfl rfl (.k 61 rfl rfl (.k 62 rfl rfl (.k 63 rfl rfl (.k 64 rfl rfl (.k 65 rfl rfl (.k 67 rfl rfl (.k 68 rfl rfl (.k 69 rfl rfl (.k 70 rfl rfl (.k 71 rfl rfl (.k 72 rfl rfl (.k 73 rfl rfl (.k 74 rfl rfl .nil)))))))))))))))))))) ?_
       refine T.conv (Cs.eqS (σ' := [_, .arr .clo 2 (r42.map (c_T_impl_Nest false)), _, .dead]) rfl) ?_
       refine au 5 ?_
       exact Pk.of (thn_normal ⟨(r42, (IntKind.i64.wrap (v29 - 1))), (some_i H).symm, rfl, rfl⟩)
      ·refine T.exit ?_
       refine thn_exit ?_
       exact Pk.of (thn_exit ⟨l28, (some_i H).symm, rfl, rfl, rfl⟩)
     ·rintro _ _ _ ⟨rfl, rfl, rfl⟩
      refine inB_here ?_
      refine au 5 ?_
      refine T.conv (Cs.frzOwn (t := 4) rfl rfl rfl) ?_
      refine T.ret ?_
      cases some_i H
      exact ⟨trivial, _, (.tmp _ _ _ _ rfl .nil), ⟨rfl, _, rfl⟩⟩
    ·refine au 6 ?_
     refine T.conv (Cs.frzOwn (t := 4) rfl rfl rfl) ?_
     refine T.ret ?_
     cases some_i H
     exact ⟨trivial, _, (.tmp _ _ _ _ rfl .nil), ⟨rfl, _, rfl⟩⟩
theorem en_40 : En Try.prog 40 := .of Try.func40 rfl rfl
noncomputable def spec_l1Cur_one (a0 : Int) (s0 : T_spec_l1Cur) : Option (Bool × T_spec_l1Cur) :=
  (spec_l1Cur_pick a0 s0).bind fun q => (match q with | (r1, o2) => some ((r1 == 0), o2))
theorem spec_l1Cur_one_p (c0 : Bool) {a0 : Int} {s0 : T_spec_l1Cur} {R0 : Bool} {U0 : T_spec_l1Cur} (H : spec_l1Cur_one a0 s0 = some (R0, U0)) : St Try.prog 42 [.bx 0 0, .int .i64 a0] [.box (c_T_spec_l1Cur c0 s0)] (.bool R0) [.box (c_T_spec_l1Cur c0 U0)] := by
 refine CallT.fin (CallT.of_TN (n := 9) Try.func42 rfl rfl rfl rfl ?_) rfl rfl ⟨(bels_iff.1 rfl), trivial⟩
 refine au 8 ?_
 obtain ⟨⟨r1, o2⟩, h3, H⟩ := bind_s H
 refine TL.st rfl rfl rfl (o_callS [0] rfl en_43 rfl rfl (spec_l1Cur_pick_p c0 h3) rfl (by decide) (.cons _ _ _ _ rfl .nil) rfl rfl rfl) ?_
 refine au 4 ?_
 cases some_i H
 exact ⟨trivial, _, (.tmp _ _ _ _ rfl .nil), ⟨rfl, _, rfl⟩⟩
theorem en_42 : En Try.prog 42 := .of Try.func42 rfl rfl
noncomputable def spec_l1Digit (a0 : Int) : Option Bool :=
  some (decide (a0 ≥ 48) && decide (a0 ≤ 57))
theorem spec_l1Digit_p  {a0 : Int} {R0 : Bool} (H : spec_l1Digit a0 = some R0) : Pure Try.prog 65 [.int .u8 a0] (.bool R0) := by
 refine CallT.of_TN (n := 9) Try.func65 rfl rfl rfl rfl ?_
 refine au 15 ?_
 cases some_i H
 exact ⟨trivial, _, (.tmp _ _ _ _ rfl .nil), (.cl _ rfl)⟩
theorem en_65 : En Try.prog 65 := .of Try.func65 rfl rfl
noncomputable def spec_l1Letter (a0 : Int) : Option Bool :=
  some ((decide (a0 ≥ 97) && decide (a0 ≤ 122)) || (decide (a0 ≥ 65) && decide (a0 ≤ 90)))
theorem spec_l1Letter_p  {a0 : Int} {R0 : Bool} (H : spec_l1Letter a0 = some R0) : Pure Try.prog 66 [.int .u8 a0] (.bool R0) := by
 refine CallT.of_TN (n := 17) Try.func66 rfl rfl rfl rfl ?_
 refine au 15 ?_
 refine TL.gcq rfl rfl rfl (.bool _) rfl rfl (fun h => o_move rfl (gv h rfl)) ?_
 refine TL.gcq rfl rfl rfl (.gd _ _) rfl rfl (fun h => o_move rfl rfl) ?_
 refine TL.gcq rfl rfl rfl (.gd _ _) rfl rfl (fun h => o_ari rfl (gv h rfl) rfl rfl) ?_
 refine TL.gcq rfl rfl rfl (.bool _) rfl rfl (fun h => o_and rfl (gv h rfl) rfl (fun k => Gd_t (andi h k)) rfl) ?_
 refine au 4 ?_
 cases some_i H
 exact ⟨trivial, _, (.tmp _ _ _ _ rfl .nil), (.cl _ rfl)⟩
theorem en_66 : En Try.prog 66 := .of Try.func66 rfl rfl
noncomputable def spec_GoodName_l1 (a0 : ByteArray) : Int → Option (Int ⊕ (Unit ⊕ Bool)) := fun s => match s with
  | v5 => cond (decide (v5 < (a0.size : Int))) ((idxS a0 v5).bind fun b8 => (spec_l1Letter b8).bind fun r10 => (gdO (!r10) (idxS a0 v5)).bind fun b12 => (gdO (!r10) (spec_l1Digit b12)).bind fun r14 => (gdO ((!r10) && (!r14)) (idxS a0 v5)).bind fun b16 => cond (((!r10) && (!r14)) && (b16 != 95)) (some (.inr (.inr false))) (some (.inl (IntKind.i64.wrap (v5 + 1))))) (some (.inr (.inl ())))
noncomputable def spec_GoodName (a0 : ByteArray) : Option Bool :=
  (gdO (!(decide ((a0.size : Int) < 1) || decide ((a0.size : Int) > 30))) (idxS a0 0)).bind fun b1 => (gdO (!(decide ((a0.size : Int) < 1) || decide ((a0.size : Int) > 30))) (spec_l1Digit b1)).bind fun r3 => cond ((decide ((a0.size : Int) < 1) || decide ((a0.size : Int) > 30)) || r3) (some false) ((loopO (spec_GoodName_l1 a0) 0).bind fun q18 => (match q18 with | .inl _ => some true | .inr q6 => some q6))
theorem spec_GoodName_p  {a0 : ByteArray} {R0 : Bool} (H : spec_GoodName a0 = some R0) : Pure Try.prog 51 [.str a0] (.bool R0) := by
 refine CallT.of_TN (n := 41) Try.func51 rfl rfl rfl rfl ?_
 refine au 12 ?_
 refine TL.gcq rfl rfl rfl (.bool _) rfl rfl (fun h => o_lenS rfl rfl (gv h rfl)) ?_
 refine au 4 ?_
 obtain ⟨b1, h2, H⟩ := bind_s H
 refine TL.gcq rfl rfl rfl (.bool _) rfl rfl (fun h => o_ixs rfl rfl (gv h rfl) rfl (gdO_t h2 h)) ?_
 obtain ⟨r3, h4, H⟩ := bind_s H
 refine TL.gcq rfl rfl rfl (.bool _) rfl rfl (fun h => o_callP rfl en_65 rfl (evl_1 (gv h rfl)) (.cons _ _ _ _ (.cl _ rfl) .nil) (spec_l1Digit_p  (gdO_t h4 h))) ?_
 refine au 2 ?_
 refine T.cH H (fun H h => ?_) (fun H h => ?_)
 ·refine au 5 ?_
  refine thn_ret ?_
  cases some_i H
  exact ⟨trivial, _, (.tmp _ _ _ _ rfl .nil), (.cl _ rfl)⟩
 ·refine au 7 ?_
  obtain ⟨q18, h19, H⟩ := bind_s H
  refine T.lq (fun s => match s with | v5 => [(0, .str a0), (3, .int .i64 v5)]) (fun s => match s with | v5 => []) (fun q ex fr σ => match q with | .inl _ => ex = .exit 0 ∧ fr = [] ∧ σ = [] | .inr q6 => ex = .ret ∧ RetN Try.prog [.tmp 2] (fun v τ => Told τ v (.bool q6)) .ret fr σ) h19 ?_ ?_
  ·rintro v5 y7 H
   refine au 8 ?_
   refine T.cH H (fun H h => ?_) (fun H h => ?_)
   ·refine au 7 ?_
    obtain ⟨b8, h9, H⟩ := bind_s H
    refine TL.st rfl rfl rfl (o_ixs rfl rfl rfl rfl h9) ?_
    obtain ⟨r10, h11, H⟩ := bind_s H
    refine TL.st rfl rfl rfl (o_callP rfl en_66 rfl rfl (.cons _ _ _ _ (.cl _ rfl) .nil) (spec_l1Letter_p  h11)) ?_
    refine au 4 ?_
    obtain ⟨b12, h13, H⟩ := bind_s H
    refine TL.gcq rfl rfl rfl (.bool _) rfl rfl (fun h => o_ixs rfl rfl (gv h rfl) (gv h rfl) (gdO_t h13 h)) ?_
    obtain ⟨r14, h15, H⟩ := bind_s H
    refine TL.gcq rfl rfl rfl (.bool _) rfl rfl (fun h => o_callP rfl en_65 rfl (evl_1 (gv h rfl)) (.cons _ _ _ _ (.cl _ rfl) .nil) (spec_l1Digit_p  (gdO_t h15 h))) ?_
    refine au 5 ?_
    obtain ⟨b16, h17, H⟩ := bind_s H
    refine TL.gcq rfl rfl rfl (.bool _) rfl rfl (fun h => o_ixs rfl rfl (gv h rfl) (gv h rfl) (gdO_t h17 h)) ?_
    refine au 3 ?_
    refine T.cH H (fun H h => ?_) (fun H h => ?_)
    ·refine au 5 ?_
     refine inB_ret (thn_ret ?_)
     exact Pk.id (thn_ret ⟨.inr false, (some_i H).symm, rfl, ⟨trivial, _, (.tmp _ _ _ _ rfl .nil), (.cl _ rfl)⟩⟩)
    ·refine au 6 ?_
     exact Pk.of (thn_normal ⟨(IntKind.i64.wrap (v5 + 1)), (some_i H).symm, rfl, rfl⟩)
   ·refine T.exit ?_
    refine thn_exit ?_
    exact Pk.of (thn_exit ⟨.inl (), (some_i H).symm, rfl, rfl, rfl⟩)
  ·rcases q18 with ⟨⟩ | q6
   ·rintro _ _ _ ⟨rfl, rfl, rfl⟩
    refine inB_here ?_
    refine au 5 ?_
    cases some_i H
    exact ⟨trivial, _, (.tmp _ _ _ _ rfl .nil), (.cl _ rfl)⟩
   ·rintro _ fr1 σ1 ⟨rfl, hr⟩
    refine inB_ret (thn_ret ?_)
    cases some_i H
    exact hr
theorem en_51 : En Try.prog 51 := .of Try.func51 rfl rfl
noncomputable def spec_l5Group (a0 : ByteArray) : Option Bool :=
  (spec_GoodName a0).bind fun r1 => (gdO r1 (idxS a0 0)).bind fun b3 => (gdO (r1 && decide (b3 ≥ 65)) (idxS a0 0)).bind fun b5 => some ((r1 && decide (b3 ≥ 65)) && decide (b5 ≤ 90))
theorem spec_l5Group_p  {a0 : ByteArray} {R0 : Bool} (H : spec_l5Group a0 = some R0) : Pure Try.prog 34 [.str a0] (.bool R0) := by
 refine CallT.of_TN (n := 15) Try.func34 rfl rfl rfl rfl ?_
 refine au 7 ?_
 obtain ⟨r1, h2, H⟩ := bind_s H
 refine TL.st rfl rfl rfl (o_callP rfl en_51 rfl rfl (.cons _ _ _ _ (.cl _ rfl) .nil) (spec_GoodName_p  h2)) ?_
 refine au 2 ?_
 obtain ⟨b3, h4, H⟩ := bind_s H
 refine TL.gcq rfl rfl rfl (.bool _) rfl rfl (fun h => o_ixs rfl rfl (gv h rfl) rfl (gdO_t h4 h)) ?_
 refine au 4 ?_
 obtain ⟨b5, h6, H⟩ := bind_s H
 refine TL.gcq rfl rfl rfl (.bool _) rfl rfl (fun h => o_ixs rfl rfl (gv h rfl) rfl (gdO_t h6 h)) ?_
 refine au 5 ?_
 cases some_i H
 exact ⟨trivial, _, (.tmp _ _ _ _ rfl .nil), (.cl _ rfl)⟩
theorem en_34 : En Try.prog 34 := .of Try.func34 rfl rfl
noncomputable def spec_GoodNests_l1 (a0 : (List T_impl_Nest)) : Int → Option (Int ⊕ (Unit ⊕ Bool)) := fun s => match s with
  | v1 => cond (decide (v1 < (a0.length : Int))) ((idx a0 v1).bind fun e4 => (spec_l5Group e4.Group_).bind fun r6 => (gdO (!(!r6)) (spec_GoodName e4.Member_)).bind fun r8 => (gdO ((!((!r6) || (!r8))) && decide (v1 > 0)) (idx a0 (IntKind.i64.wrap (v1 - 1)))).bind fun e10 => (gdO ((!((!r6) || (!r8))) && decide (v1 > 0)) (spec_l5CmpNest e10 e4)).bind fun r12 => cond (((!r6) || (!r8)) || (decide (v1 > 0) && decide (r12 ≥ 0))) (some (.inr (.inr false))) (some (.inl (IntKind.i64.wrap (v1 + 1))))) (some (.inr (.inl ())))
noncomputable def spec_GoodNests (a0 : (List T_impl_Nest)) : Option Bool :=
  cond (decide ((a0.length : Int) > 200)) (some false) ((loopO (spec_GoodNests_l1 a0) 0).bind fun q14 => (match q14 with | .inl _ => some true | .inr q2 => some q2))
theorem spec_GoodNests_p (b0 : Bool) {a0 : (List T_impl_Nest)} {R0 : Bool} (H : spec_GoodNests a0 = some R0) : Pure Try.prog 31 [.im b0 (a0.map (c_T_impl_Nest false))] (.bool R0) := by
 refine CallT.of_TN (n := 40) Try.func31 rfl rfl rfl rfl ?_
 refine au 8 ?_
 refine TL.st rfl rfl rfl (o_lenL (f := c_T_impl_Nest false) rfl rfl rfl) ?_
 refine au 2 ?_
 refine T.cH H (fun H h => ?_) (fun H h => ?_)
 ·refine au 5 ?_
  refine thn_ret ?_
  cases some_i H
  exact ⟨trivial, _, (.tmp _ _ _ _ rfl .nil), (.cl _ rfl)⟩
 ·refine au 5 ?_
  refine TL.st rfl rfl rfl (o_lenL (f := c_T_impl_Nest false) rfl rfl rfl) ?_
  refine au 3 ?_
  obtain ⟨q14, h15, H⟩ := bind_s H
  refine T.lq (fun s => match s with | v1 => [(0, .im b0 (a0.map (c_T_impl_Nest false))), (8, .im b0 (a0.map (c_T_impl_Nest false))), (9, .int .i64 (a0.length : Int)), (10, .int .i64 v1)]) (fun s => match s with | v1 => []) (fun q ex fr σ => match q with | .inl _ => ex = .exit 0 ∧ fr = [] ∧ σ = [] | .inr q2 => ex = .ret ∧ RetN Try.prog [.tmp 2] (fun v τ => Told τ v (.bool q2)) .ret fr σ) h15 ?_ ?_
  ·rintro v1 y3 H
   refine au 5 ?_
   refine T.cH H (fun H h => ?_) (fun H h => ?_)
   ·refine au 6 ?_
    obtain ⟨e4, h5, H⟩ := bind_s H
    refine TL.st rfl rfl rfl (o_ix (f := c_T_impl_Nest false) rfl rfl tyS_26 rfl rfl h5 rfl) ?_
    refine au 6 ?_
    refine T.drawn rfl ?_
    refine ad 2 ?_
    obtain ⟨r6, h7, H⟩ := bind_s H
    refine TD.qs rfl rfl (fun _ => o_callP rfl en_34 rfl rfl (.cons _ _ _ _ (.cl _ rfl) .nil) (spec_l5Group_p  h7)) ?_
    refine ad 4 ?_
    obtain ⟨r8, h9, H⟩ := bind_s H
    refine TD.cq rfl rfl rfl (.bool _) rfl (fun h _ => o_callP rfl en_51 rfl (evl_1 (gv h rfl)) (.cons _ _ _ _ (.cl _ rfl) .nil) (spec_GoodName_p  (gdO_t h9 h))) ?_
    refine TD.cq rfl rfl rfl (.bool _) rfl (fun h _ => o_not rfl (gv h rfl)) ?_
    refine ad 3 ?_
    refine TD.cq rfl rfl rfl (.bool _) rfl (fun h _ => o_ari rfl (gv h rfl) rfl rfl) ?_
    refine TD.cq rfl rfl rfl (.bool _) rfl (fun h _ => o_move rfl (gv h rfl)) ?_
    refine TD.cq rfl rfl rfl (.gd _ _) rfl (fun h _ => o_move rfl rfl) ?_
    refine TD.cq rfl rfl rfl (.gd _ _) rfl (fun h _ => o_move rfl rfl) ?_
    refine TD.cq rfl rfl rfl (.gd _ _) rfl (fun h _ => o_ari rfl (gv h rfl) rfl rfl) ?_
    obtain ⟨e10, h11, H⟩ := bind_s H
    refine TD.cq rfl rfl rfl (.gd _ _) rfl (fun h _ => o_ix (f := c_T_impl_Nest false) rfl rfl tyS_26 (gv h rfl) (gv h rfl) (gdO_t h11 h) rfl) ?_
    refine TD.cq rfl rfl rfl (.gd _ _) rfl (fun h _ => o_loadRf rfl tyS_26 (gv h rfl) (nb rfl) rfl) ?_
    refine TD.cr rfl rfl rfl (.gd _ _) rfl (fun h => o_loadBx rfl tyS_26 rfl rfl (nb rfl) rfl) ?_
    obtain ⟨r12, h13, H⟩ := bind_s H
    refine TD.cq rfl rfl rfl (.gd _ _) rfl (fun h _ => o_callP rfl en_54 rfl (evl_2 (gv h rfl) (gv h rfl)) (.cons _ _ _ _ (.cl _ rfl) (.cons _ _ _ _ (.cl _ rfl) .nil)) (spec_l5CmpNest_p  (gdO_t h13 h))) ?_
    refine TD.cq rfl rfl rfl (.gd _ _) rfl (fun h _ => o_ari rfl (gv h rfl) rfl rfl) ?_
    refine TD.cq rfl rfl rfl (.bool _) rfl (fun h _ => o_and rfl (gv h rfl) rfl (fun k => Gd_t (andi h k)) rfl) ?_
    refine TD.qs rfl rfl (fun _ => o_or rfl rfl rfl rfl (fun k => Gd_t k)) ?_
    refine TD.nil ⟨rfl, ?_⟩
    refine thn_normal ?_
    refine T.cH H (fun H h => ?_) (fun H h => ?_)
    ·refine au 5 ?_
     refine inB_ret (thn_ret ?_)
     exact Pk.id (thn_ret ⟨.inr false, (some_i H).symm, rfl, ⟨trivial, _, (.tmp _ _ _ _ rfl .nil), (.cl _ rfl)⟩⟩)
    ·refine au 5 ?_
     exact Pk.of (thn_normal ⟨(IntKind.i64.wrap (v1 + 1)), (some_i H).symm, rfl, rfl⟩)
   ·refine T.exit ?_
    refine thn_exit ?_
    exact Pk.of (thn_exit ⟨.inl (), (some_i H).symm, rfl, rfl, rfl⟩)
  ·rcases q14 with ⟨⟩ | q2
   ·rintro _ _ _ ⟨rfl, rfl, rfl⟩
    refine inB_here ?_
    refine au 5 ?_
    cases some_i H
    exact ⟨trivial, _, (.tmp _ _ _ _ rfl .nil), (.cl _ rfl)⟩
   ·rintro _ fr1 σ1 ⟨rfl, hr⟩
    refine inB_ret (thn_ret ?_)
    cases some_i H
    exact hr
theorem en_31 : En Try.prog 31 := .of Try.func31 rfl rfl
noncomputable def spec_l5Sorted_l3 (v8 : Int) : (List ByteArray × Int) → Option ((List ByteArray × Int) ⊕ List ByteArray) := fun s => match s with
  | (l13, v14) => cond (decide (v14 > v8)) ((idx l13 (IntKind.i64.wrap (v14 - 1))).bind fun e19 => (idx l13 v14).bind fun e21 => some (.inl ((l13.set (Int.toNat v14) e19), (IntKind.i64.wrap (v14 - 1))))) (some (.inr l13))
noncomputable def spec_l5Sorted_l2 (l1 : List ByteArray) (e5 : ByteArray) : Int → Option (Int ⊕ Int) := fun s => match s with
  | v7 => (gdO (decide (v7 > 0)) (idx l1 (IntKind.i64.wrap (v7 - 1)))).bind fun e26 => (gdO (decide (v7 > 0)) (spec_l1CmpText e26 e5)).bind fun r28 => cond (decide (v7 > 0) && decide (r28 > 0)) (some (.inl (IntKind.i64.wrap (v7 - 1)))) (some (.inr v7))
noncomputable def spec_l5Sorted_l1 (a0 : (List ByteArray)) : (List ByteArray × Int) → Option ((List ByteArray × Int) ⊕ List ByteArray) := fun s => match s with
  | (l1, v2) => cond (decide (v2 < (a0.length : Int))) ((idx a0 v2).bind fun e5 => (loopO (spec_l5Sorted_l2 l1 e5) (l1.length : Int)).bind fun v8 => (match v8 with | v8 => (gdO (decide (v8 > 0)) (idx l1 (IntKind.i64.wrap (v8 - 1)))).bind fun e9 => cond (decide (v8 > 0) && (e9.toList == e5.toList)) (some (.inl (l1, (IntKind.i64.wrap (v2 + 1))))) ((app l1 ([e5] : List ByteArray)).bind fun l11 => (loopO (spec_l5Sorted_l3 v8) (l11, (IntKind.i64.wrap ((l11.length : Int) - 1)))).bind fun l15 => (match l15 with | l15 => (idx l15 v8).bind fun e16 => some (.inl ((l15.set (Int.toNat v8) e5), (IntKind.i64.wrap (v2 + 1)))))))) (some (.inr l1))
noncomputable def spec_l5Sorted (a0 : (List ByteArray)) : Option (List ByteArray) :=
  (loopO (spec_l5Sorted_l1 a0) (([] : List ByteArray), 0)).bind fun l3 => (match l3 with | l3 => some l3)
theorem spec_l5Sorted_p (b0 : Bool) {a0 : (List ByteArray)} {R0 : (List ByteArray)} (H : spec_l5Sorted a0 = some R0) : Pure Try.prog 55 [.im b0 (a0.map (c_str))] (.im false (R0.map (c_str))) := by
 refine CallT.of_TN (n := 67) Try.func55 rfl rfl rfl rfl ?_
 refine au 12 ?_
 refine TL.st rfl rfl rfl (o_lenL (f := c_str) rfl rfl rfl) ?_
 refine au 3 ?_
 refine T.conv (Cs.own (t := 3) 1 rfl (by decide)) ?_
 obtain ⟨l3, h33, H⟩ := bind_s H
 refine T.lq (fun s => match s with | (l1, v2) => [(3, .hd 0 (l1.map (c_str)).length 0 (l1.map (c_str)).length), (8, .im b0 (a0.map (c_str))), (9, .int .i64 (a0.length : Int)), (10, .int .i64 v2)]) (fun s => match s with | (l1, v2) => [.arr .clo 1 (l1.map (c_str))]) (fun q ex fr σ => match q with | l3 => ex = .exit 0 ∧ fr = [(3, .hd 0 (l3.map (c_str)).length 0 (l3.map (c_str)).length)] ∧ σ = [.arr .clo 1 (l3.map (c_str))]) h33 ?_ ?_
 ·rintro ⟨l1, v2⟩ y4 H
  refine au 5 ?_
  refine T.cH H (fun H h => ?_) (fun H h => ?_)
  ·refine au 5 ?_
   obtain ⟨e5, h6, H⟩ := bind_s H
   refine TL.st rfl rfl rfl (o_ix (f := c_str) rfl rfl tyS_9 rfl rfl h6 rfl) ?_
   refine au 6 ?_
   refine TL.st rfl rfl rfl (o_lenOwn (f := c_str) rfl rfl rfl rfl rfl) ?_
   refine au 4 ?_
   obtain ⟨v8, h31, H⟩ := bind_s H
   refine T.lq (fun s => match s with | v7 => [(3, .hd 0 (l1.map (c_str)).length 0 (l1.map (c_str)).length), (5, .str e5), (6, .int .i64 v7), (8, .im b0 (a0.map (c_str))), (9, .int .i64 (a0.length : Int)), (10, .int .i64 v2)]) (fun s => match s with | v7 => [.arr .clo 1 (l1.map (c_str))]) (fun q ex fr σ => match q with | v8 => ex = .exit 2 ∧ fr = [(3, .hd 0 (l1.map (c_str)).length 0 (l1.map (c_str)).length), (5, .str e5), (6, .int .i64 v8), (8, .im b0 (a0.map (c_str))), (9, .int .i64 (a0.length : Int)), (10, .int .i64 v2)] ∧ σ = [.arr .clo 1 (l1.map (c_str))]) h31 ?_ ?_
   ·rintro v7 y25 H
    refine au 9 ?_
    obtain ⟨e26, h27, H⟩ := bind_s H
    refine TL.gcq rfl rfl rfl (.bool _) rfl rfl (fun h => o_ixh (f := c_str) rfl rfl tyS_9 (gv h rfl) (gv h rfl) rfl rfl (gdO_t h27 h) rfl) ?_
    refine TL.gcq rfl rfl rfl (.bool _) rfl rfl (fun h => o_loadEl rfl tyS_9 (gv h rfl) rfl rfl (by rw [List.getElem?_map, (idx_s (gdO_t h27 h)).2]; rfl) (nb rfl) rfl) ?_
    refine TL.gcq rfl rfl rfl (.bool _) rfl rfl (fun h => o_move rfl rfl) ?_
    obtain ⟨r28, h29, H⟩ := bind_s H
    refine TL.gcq rfl rfl rfl (.bool _) rfl rfl (fun h => o_callP rfl en_67 rfl (evl_2 (gv h rfl) (gv h rfl)) (.cons _ _ _ _ (.cl _ rfl) (.cons _ _ _ _ (.cl _ rfl) .nil)) (spec_l1CmpText_p  (gdO_t h29 h))) ?_
    refine au 3 ?_
    refine T.cH H (fun H h => ?_) (fun H h => ?_)
    ·refine au 7 ?_
     refine inB_normal ?_
     exact Pk.of (thn_normal ⟨(IntKind.i64.wrap (v7 - 1)), (some_i H).symm, rfl, rfl⟩)
    ·refine T.exit ?_
     refine thn_exit ?_
     exact Pk.of (thn_exit ⟨v7, (some_i H).symm, rfl, rfl, rfl⟩)
   ·rintro _ _ _ ⟨rfl, rfl, rfl⟩
    refine inB_here ?_
    refine au 9 ?_
    obtain ⟨e9, h10, H⟩ := bind_s H
    refine TL.gcq rfl rfl rfl (.bool _) rfl rfl (fun h => o_ixh (f := c_str) rfl rfl tyS_9 (gv h rfl) (gv h rfl) rfl rfl (gdO_t h10 h) rfl) ?_
    refine TL.gcq rfl rfl rfl (.bool _) rfl rfl (fun h => o_loadEl rfl tyS_9 (gv h rfl) rfl rfl (by rw [List.getElem?_map, (idx_s (gdO_t h10 h)).2]; rfl) (nb rfl) rfl) ?_
    refine TL.gcq rfl rfl rfl (.bool _) rfl rfl (fun h => o_move rfl rfl) ?_
    refine TL.gcq rfl rfl rfl (.bool _) rfl rfl (fun h => o_str rfl (gv h rfl) (gv h rfl) rfl) ?_
    refine au 2 ?_
    refine T.cH H (fun H h => ?_) (fun H h => ?_)
    ·refine T.exit ?_
     refine thn_exit ?_
     refine inB_here ?_
     refine au 4 ?_
     exact Pk.of (thn_normal ⟨(l1, (IntKind.i64.wrap (v2 + 1))), (some_i H).symm, rfl, rfl⟩)
    ·refine au 5 ?_
     refine TL.st rfl rfl rfl (o_sliceIm (rows := ([e5] : List ByteArray).map (c_str)) rfl rfl tyS_9 ⟨_, rfl, rfl⟩ (by decide) rfl rfl rfl rfl rfl rfl) ?_
     obtain ⟨l11, h12, H⟩ := bind_s H
     refine TL.st rfl rfl rfl (o_ap (f := c_str) (xs := l1) (ys := ([e5] : List ByteArray)) rfl rfl tyE_9 rfl rfl rfl rfl (by decide) rfl (fun _ => rfl) h12) ?_
     refine au 6 ?_
     refine TL.st rfl rfl rfl (o_lenOwn (f := c_str) rfl rfl rfl rfl rfl) ?_
     refine au 4 ?_
     obtain ⟨l15, h24, H⟩ := bind_s H
     refine T.lq (fun s => match s with | (l13, v14) => [(3, .hd 0 (l13.map (c_str)).length 0 (l13.map (c_str)).length), (5, .str e5), (6, .int .i64 v8), (7, .int .i64 v14), (8, .im b0 (a0.map (c_str))), (9, .int .i64 (a0.length : Int)), (10, .int .i64 v2)]) (fun s => match s with | (l13, v14) => [.arr .clo 1 (l13.map (c_str))]) (fun q ex fr σ => match q with | l15 => ex = .exit 4 ∧ fr = [(3, .hd 0 (l15.map (c_str)).length 0 (l15.map (c_str)).length), (5, .str e5), (6, .int .i64 v8), (8, .im b0 (a0.map (c_str))), (9, .int .i64 (a0.length : Int)), (10, .int .i64 v2)] ∧ σ = [.arr .clo 1 (l15.map (c_str))]) h24 ?_ ?_
     ·rintro ⟨l13, v14⟩ y18 H
      refine au 7 ?_
      refine T.cH H (fun H h => ?_) (fun H h => ?_)
      ·refine au 9 ?_
       obtain ⟨e19, h20, H⟩ := bind_s H
       refine TL.st rfl rfl rfl (o_ixh (f := c_str) rfl rfl tyS_9 rfl rfl rfl rfl h20 rfl) ?_
       refine TL.st rfl rfl rfl (o_loadEl rfl tyS_9 rfl rfl rfl (by rw [List.getElem?_map, (idx_s h20).2]; rfl) (nb rfl) rfl) ?_
       obtain ⟨e21, h22, H⟩ := bind_s H
       refine TL.st rfl rfl rfl (o_ixh (f := c_str) rfl rfl tyS_9 rfl rfl rfl rfl h22 rfl) ?_
       refine TL.sn rfl rfl (o_stEl (f := c_str) (xs := l13) (k := v14) (a := e21) e19 rfl tyS_9 rfl rfl rfl rfl (by decide) h22 rfl rfl rfl (fun _ => rfl) rfl) ?_
       refine TL.conv (Cs.eqV (t := 3) (v' := .hd 0 ((l13.set (Int.toNat v14) e19).map (c_str)).length 0 ((l13.set (Int.toNat v14) e19).map (c_str)).length) rfl (hd_len _ (List.length_set ..))) ?_
       refine TL.conv (Cs.eqV (t := 53) (v' := .hd 0 ((l13.set (Int.toNat v14) e19).map (c_str)).length 0 ((l13.set (Int.toNat v14) e19).map (c_str)).length) rfl (hd_len _ (List.length_set ..))) ?_
       refine TL.conv (Cs.eqV (t := 55) (v' := .hd 0 ((l13.set (Int.toNat v14) e19).map (c_str)).length 0 ((l13.set (Int.toNat v14) e19).map (c_str)).length) rfl (hd_len _ (List.length_set ..))) ?_
       refine TL.conv (Cs.eqV (t := 60) (v' := .el 0 ((l13.set (Int.toNat v14) e19).map (c_str)).length (Int.toNat v14) 0) rfl (el_len _ _ _ (List.length_set ..))) ?_
       refine au 6 ?_
       exact Pk.of (thn_normal ⟨((l13.set (Int.toNat v14) e19), (IntKind.i64.wrap (v14 - 1))), (some_i H).symm, rfl, rfl⟩)
      ·refine T.exit ?_
       refine thn_exit ?_
       exact Pk.of (thn_exit ⟨l13, (some_i H).symm, rfl, rfl, rfl⟩)
     ·rintro _ _ _ ⟨rfl, rfl, rfl⟩
      refine inB_here ?_
      refine au 4 ?_
      obtain ⟨e16, h17, H⟩ := bind_s H
      refine TL.st rfl rfl rfl (o_ixh (f := c_str) rfl rfl tyS_9 rfl rfl rfl rfl h17 rfl) ?_
      refine TL.sn rfl rfl (o_stEl (f := c_str) (xs := l15) (k := v8) (a := e16) e5 rfl tyS_9 rfl rfl rfl rfl (by decide) h17 rfl rfl rfl (fun _ => rfl) rfl) ?_
      refine TL.conv (Cs.eqV (t := 3) (v' := .hd 0 ((l15.set (Int.toNat v8) e5).map (c_str)).length 0 ((l15.set (Int.toNat v8) e5).map (c_str)).length) rfl (hd_len _ (List.length_set ..))) ?_
      refine TL.conv (Cs.eqV (t := 61) (v' := .hd 0 ((l15.set (Int.toNat v8) e5).map (c_str)).length 0 ((l15.set (Int.toNat v8) e5).map (c_str)).length) rfl (hd_len _ (List.length_set ..))) ?_
      refine TL.conv (Cs.eqV (t := 64) (v' := .el 0 ((l15.set (Int.toNat v8) e5).map (c_str)).length (Int.toNat v8) 0) rfl (el_len _ _ _ (List.length_set ..))) ?_
      refine au 5 ?_
      exact Pk.of (thn_normal ⟨((l15.set (Int.toNat v8) e5), (IntKind.i64.wrap (v2 + 1))), (some_i H).symm, rfl, rfl⟩)
  ·refine T.exit ?_
   refine thn_exit ?_
   exact Pk.of (thn_exit ⟨l1, (some_i H).symm, rfl, rfl, rfl⟩)
 ·rintro _ _ _ ⟨rfl, rfl, rfl⟩
  refine inB_here ?_
  refine au 6 ?_
  cases some_i H
  exact ⟨trivial, _, (.tmp _ _ _ _ rfl .nil), (.own rfl (by decide) rfl)⟩
theorem en_55 : En Try.prog 55 := .of Try.func55 rfl rfl
noncomputable def spec_l5Groups_l1 (a0 : (List T_impl_Nest)) : (List ByteArray × Int) → Option ((List ByteArray × Int) ⊕ List ByteArray) := fun s => match s with
  | (l1, v2) => cond (decide (v2 < (a0.length : Int))) ((idx a0 v2).bind fun e7 => (app l1 ([e7.Group_] : List ByteArray)).bind fun l9 => some (.inl (l9, (IntKind.i64.wrap (v2 + 1))))) (some (.inr l1))
noncomputable def spec_l5Groups (a0 : (List T_impl_Nest)) : Option (List ByteArray) :=
  (loopO (spec_l5Groups_l1 a0) (([] : List ByteArray), 0)).bind fun l3 => (match l3 with | l3 => (spec_l5Sorted l3).bind fun r4 => some r4)
theorem spec_l5Groups_p (b0 : Bool) {a0 : (List T_impl_Nest)} {R0 : (List ByteArray)} (H : spec_l5Groups a0 = some R0) : Pure Try.prog 38 [.im b0 (a0.map (c_T_impl_Nest false))] (.im false (R0.map (c_str))) := by
 refine CallT.of_TN (n := 20) Try.func38 rfl rfl rfl rfl ?_
 refine au 12 ?_
 refine TL.st rfl rfl rfl (o_lenL (f := c_T_impl_Nest false) rfl rfl rfl) ?_
 refine au 3 ?_
 refine T.conv (Cs.own (t := 3) 1 rfl (by decide)) ?_
 obtain ⟨l3, h12, H⟩ := bind_s H
 refine T.lq (fun s => match s with | (l1, v2) => [(3, .hd 0 (l1.map (c_str)).length 0 (l1.map (c_str)).length), (6, .im b0 (a0.map (c_T_impl_Nest false))), (7, .int .i64 (a0.length : Int)), (8, .int .i64 v2)]) (fun s => match s with | (l1, v2) => [.arr .clo 1 (l1.map (c_str))]) (fun q ex fr σ => match q with | l3 => ex = .exit 0 ∧ fr = [(3, .hd 0 (l3.map (c_str)).length 0 (l3.map (c_str)).length)] ∧ σ = [.arr .clo 1 (l3.map (c_str))]) h12 ?_ ?_
 ·rintro ⟨l1, v2⟩ y6 H
  refine au 5 ?_
  refine T.cH H (fun H h => ?_) (fun H h => ?_)
  ·refine au 5 ?_
   obtain ⟨e7, h8, H⟩ := bind_s H
   refine TL.st rfl rfl rfl (o_ix (f := c_T_impl_Nest false) rfl rfl tyS_26 rfl rfl h8 rfl) ?_
   refine au 8 ?_
   refine TL.st rfl rfl rfl (o_sliceIm (rows := ([e7.Group_] : List ByteArray).map (c_str)) rfl rfl tyS_9 ⟨_, rfl, rfl⟩ (by decide) rfl rfl rfl rfl rfl rfl) ?_
   obtain ⟨l9, h10, H⟩ := bind_s H
   refine TL.st rfl rfl rfl (o_ap (f := c_str) (xs := l1) (ys := ([e7.Group_] : List ByteArray)) rfl rfl tyE_9 rfl rfl rfl rfl (by decide) rfl (fun _ => rfl) h10) ?_
   refine au 2 ?_
   refine T.conv (Cs.eqS (σ' := [.arr .clo 1 (l9.map (c_str)), .box (c_T_impl_Nest false e7)]) rfl) ?_
   refine au 4 ?_
   exact Pk.of (thn_normal ⟨(l9, (IntKind.i64.wrap (v2 + 1))), (some_i H).symm, rfl, rfl⟩)
  ·refine T.exit ?_
   refine thn_exit ?_
   exact Pk.of (thn_exit ⟨l1, (some_i H).symm, rfl, rfl, rfl⟩)
 ·rintro _ _ _ ⟨rfl, rfl, rfl⟩
  refine inB_here ?_
  refine au 3 ?_
  obtain ⟨r4, h5, H⟩ := bind_s H
  refine TL.st rfl rfl rfl (o_callP rfl en_55 rfl rfl (.cons _ _ _ _ (.own rfl (by decide) rfl) .nil) (spec_l5Sorted_p true h5)) ?_
  refine au 3 ?_
  cases some_i H
  exact ⟨trivial, _, (.tmp _ _ _ _ rfl .nil), (.cl _ rfl)⟩
theorem en_38 : En Try.prog 38 := .of Try.func38 rfl rfl
noncomputable def spec_l3Has_l1 (a0 : (List ByteArray)) (a1 : ByteArray) : Int → Option (Int ⊕ (Unit ⊕ Bool)) := fun s => match s with
  | v1 => cond (decide (v1 < (a0.length : Int))) ((idx a0 v1).bind fun e4 => cond (e4.toList == a1.toList) (some (.inr (.inr true))) (some (.inl (IntKind.i64.wrap (v1 + 1))))) (some (.inr (.inl ())))
noncomputable def spec_l3Has (a0 : (List ByteArray)) (a1 : ByteArray) : Option Bool :=
  (loopO (spec_l3Has_l1 a0 a1) 0).bind fun q6 => (match q6 with | .inl _ => some false | .inr q2 => some q2)
theorem spec_l3Has_p (b0 : Bool) {a0 : (List ByteArray)} {a1 : ByteArray} {R0 : Bool} (H : spec_l3Has a0 a1 = some R0) : Pure Try.prog 35 [.im b0 (a0.map (c_str)), .str a1] (.bool R0) := by
 refine CallT.of_TN (n := 17) Try.func35 rfl rfl rfl rfl ?_
 refine au 8 ?_
 refine TL.st rfl rfl rfl (o_lenL (f := c_str) rfl rfl rfl) ?_
 refine au 3 ?_
 obtain ⟨q6, h7, H⟩ := bind_s H
 refine T.lq (fun s => match s with | v1 => [(1, .str a1), (7, .im b0 (a0.map (c_str))), (8, .int .i64 (a0.length : Int)), (9, .int .i64 v1)]) (fun s => match s with | v1 => []) (fun q ex fr σ => match q with | .inl _ => ex = .exit 0 ∧ fr = [] ∧ σ = [] | .inr q2 => ex = .ret ∧ RetN Try.prog [.tmp 4] (fun v τ => Told τ v (.bool q2)) .ret fr σ) h7 ?_ ?_
 ·rintro v1 y3 H
  refine au 5 ?_
  refine T.cH H (fun H h => ?_) (fun H h => ?_)
  ·refine au 5 ?_
   obtain ⟨e4, h5, H⟩ := bind_s H
   refine TL.st rfl rfl rfl (o_ix (f := c_str) rfl rfl tyS_9 rfl rfl h5 rfl) ?_
   refine au 9 ?_
   refine T.cH H (fun H h => ?_) (fun H h => ?_)
   ·refine au 5 ?_
    refine inB_ret (thn_ret ?_)
    exact Pk.id (thn_ret ⟨.inr true, (some_i H).symm, rfl, ⟨trivial, _, (.tmp _ _ _ _ rfl .nil), (.cl _ rfl)⟩⟩)
   ·refine au 5 ?_
    exact Pk.of (thn_normal ⟨(IntKind.i64.wrap (v1 + 1)), (some_i H).symm, rfl, rfl⟩)
  ·refine T.exit ?_
   refine thn_exit ?_
   exact Pk.of (thn_exit ⟨.inl (), (some_i H).symm, rfl, rfl, rfl⟩)
 ·rcases q6 with ⟨⟩ | q2
  ·rintro _ _ _ ⟨rfl, rfl, rfl⟩
   refine inB_here ?_
   refine au 5 ?_
   cases some_i H
   exact ⟨trivial, _, (.tmp _ _ _ _ rfl .nil), (.cl _ rfl)⟩
  ·rintro _ fr1 σ1 ⟨rfl, hr⟩
   refine inB_ret (thn_ret ?_)
   cases some_i H
   exact hr
theorem en_35 : En Try.prog 35 := .of Try.func35 rfl rfl
theorem tyS_36 : TyS Try.prog 36 false 1 := ⟨rfl, rfl⟩
theorem tyE_36 : TyE Try.prog 36 1 := ⟨_, _, rfl, rfl, rfl, rfl, by decide, by decide⟩
noncomputable def spec_l5Rings_l3 (a0 : (List T_impl_Nest)) (e15 : ByteArray) : (List ByteArray × List ByteArray × Int) → Option ((List ByteArray × List ByteArray × Int) ⊕ (List ByteArray × List ByteArray)) := fun s => match s with
  | (l17, l18, v19) => cond (decide (v19 < (a0.length : Int))) ((idx a0 v19).bind fun e23 => (gdO (e23.Group_.toList == e15.toList) (spec_l3Has l17 e23.Member_)).bind fun r25 => cond ((e23.Group_.toList == e15.toList) && (!r25)) ((app l17 ([e23.Member_] : List ByteArray)).bind fun l27 => (app l18 ([e23.Member_] : List ByteArray)).bind fun l29 => some (.inl (l27, l29, (IntKind.i64.wrap (v19 + 1))))) (some (.inl (l17, l18, (IntKind.i64.wrap (v19 + 1)))))) (some (.inr (l17, l18)))
noncomputable def spec_l5Rings_l2 (a0 : (List T_impl_Nest)) (v3 : (List ByteArray)) : (List ByteArray × List ByteArray × Int) → Option ((List ByteArray × List ByteArray × Int) ⊕ (List ByteArray × List ByteArray)) := fun s => match s with
  | (l7, l8, v9) => cond (decide (v9 < (v3.length : Int))) ((idx v3 v9).bind fun e15 => (loopO (spec_l5Rings_l3 a0 e15) (l7, l8, 0)).bind fun q31 => (match q31 with | (l20, l21) => some (.inl (l20, l21, (IntKind.i64.wrap (v9 + 1)))))) (some (.inr (l7, l8)))
noncomputable def spec_l5Rings_l1 (a0 : (List T_impl_Nest)) : (List (List ByteArray) × List ByteArray × (List ByteArray)) → Option ((List (List ByteArray) × List ByteArray × (List ByteArray)) ⊕ (List (List ByteArray) × List ByteArray)) := fun s => match s with
  | (l1, l2, v3) => cond (decide ((v3.length : Int) > 0)) ((loopO (spec_l5Rings_l2 a0 v3) (l2, ([] : List ByteArray), 0)).bind fun q33 => (match q33 with | (l10, l11) => cond (decide ((l11.length : Int) > 0)) ((app l1 ([l11] : List (List ByteArray))).bind fun l12 => some (.inl (l12, l10, l11))) (some (.inl (l1, l10, l11))))) (some (.inr (l1, l2)))
noncomputable def spec_l5Rings (a0 : (List T_impl_Nest)) (a1 : ByteArray) : Option (List (List ByteArray)) :=
  (loopO (spec_l5Rings_l1 a0) (([] : List (List ByteArray)), ([] : List ByteArray), ([a1] : List ByteArray))).bind fun q35 => (match q35 with | (l4, l5) => some l4)
theorem spec_l5Rings_p (b0 : Bool) {a0 : (List T_impl_Nest)} {a1 : ByteArray} {R0 : (List (List ByteArray))} (H : spec_l5Rings a0 a1 = some R0) : Pure Try.prog 39 [.im b0 (a0.map (c_T_impl_Nest false)), .str a1] (.im false (R0.map (c_sl (c_str)))) := by
 refine CallT.of_TN (n := 62) Try.func39 rfl rfl rfl rfl ?_
 refine au 15 ?_
 refine TL.st rfl rfl rfl (o_sliceIm (rows := ([a1] : List ByteArray).map (c_str)) rfl rfl tyS_9 ⟨_, rfl, rfl⟩ (by decide) rfl rfl rfl rfl rfl rfl) ?_
 refine au 4 ?_
 refine T.conv (Cs.own (t := 5) 1 rfl (by decide)) ?_
 refine T.conv (Cs.own (t := 6) 1 rfl (by decide)) ?_
 obtain ⟨q35, h36, H⟩ := bind_s H
 refine T.lq (fun s => match s with | (l1, l2, v3) => [(0, .im b0 (a0.map (c_T_impl_Nest false))), (5, .hd 0 (l1.map (c_sl (c_str))).length 0 (l1.map (c_sl (c_str))).length), (6, .hd 1 (l2.map (c_str)).length 0 (l2.map (c_str)).length), (7, .im false (v3.map (c_str)))]) (fun s => match s with | (l1, l2, v3) => [.arr .clo 1 (l1.map (c_sl (c_str))), .arr .clo 1 (l2.map (c_str))]) (fun q ex fr σ => match q with | (l4, l5) => ex = .exit 0 ∧ fr = [(5, .hd 0 (l4.map (c_sl (c_str))).length 0 (l4.map (c_sl (c_str))).length)] ∧ σ = [.arr .clo 1 (l4.map (c_sl (c_str))), .arr .clo 1 (l5.map (c_str))]) h36 ?_ ?_
 ·rintro ⟨l1, l2, v3⟩ y6 H
  refine au 4 ?_
  refine TL.st rfl rfl rfl (o_lenL (f := c_str) rfl rfl rfl) ?_
  refine au 2 ?_
  refine T.cH H (fun H h => ?_) (fun H h => ?_)
  ·refine au 10 ?_
   refine TL.st rfl rfl rfl (o_lenL (f := c_str) rfl rfl rfl) ?_
   refine au 3 ?_
   refine T.conv (Cs.own (t := 8) 1 rfl (by decide)) ?_
   obtain ⟨q33, h34, H⟩ := bind_s H
   refine T.lq (fun s => match s with | (l7, l8, v9) => [(0, .im b0 (a0.map (c_T_impl_Nest false))), (5, .hd 0 (l1.map (c_sl (c_str))).length 0 (l1.map (c_sl (c_str))).length), (6, .hd 1 (l7.map (c_str)).length 0 (l7.map (c_str)).length), (8, .hd 2 (l8.map (c_str)).length 0 (l8.map (c_str)).length), (18, .im false (v3.map (c_str))), (19, .int .i64 (v3.length : Int)), (20, .int .i64 v9)]) (fun s => match s with | (l7, l8, v9) => [.arr .clo 1 (l1.map (c_sl (c_str))), .arr .clo 1 (l7.map (c_str)), .arr .clo 1 (l8.map (c_str))]) (fun q ex fr σ => match q with | (l10, l11) => ex = .exit 2 ∧ fr = [(0, .im b0 (a0.map (c_T_impl_Nest false))), (5, .hd 0 (l1.map (c_sl (c_str))).length 0 (l1.map (c_sl (c_str))).length), (6, .hd 1 (l10.map (c_str)).length 0 (l10.map (c_str)).length), (8, .hd 2 (l11.map (c_str)).length 0 (l11.map (c_str)).length)] ∧ σ = [.arr .clo 1 (l1.map (c_sl (c_str))), .arr .clo 1 (l10.map (c_str)), .arr .clo 1 (l11.map (c_str))]) h34 ?_ ?_
   ·rintro ⟨l7, l8, v9⟩ y14 H
    refine au 5 ?_
    refine T.cH H (fun H h => ?_) (fun H h => ?_)
    ·refine au 5 ?_
     obtain ⟨e15, h16, H⟩ := bind_s H
     refine TL.st rfl rfl rfl (o_ix (f := c_str) rfl rfl tyS_9 rfl rfl h16 rfl) ?_
     refine au 6 ?_
     refine TL.st rfl rfl rfl (o_lenL (f := c_T_impl_Nest false) rfl rfl rfl) ?_
     refine au 3 ?_
     obtain ⟨q31, h32, H⟩ := bind_s H
     refine T.lq (fun s => match s with | (l17, l18, v19) => [(0, .im b0 (a0.map (c_T_impl_Nest false))), (5, .hd 0 (l1.map (c_sl (c_str))).length 0 (l1.map (c_sl (c_str))).length), (6, .hd 1 (l17.map (c_str)).length 0 (l17.map (c_str)).length), (8, .hd 2 (l18.map (c_str)).length 0 (l18.map (c_str)).length), (10, .str e15), (18, .im false (v3.map (c_str))), (19, .int .i64 (v3.length : Int)), (20, .int .i64 v9), (24, .im b0 (a0.map (c_T_impl_Nest false))), (25, .int .i64 (a0.length : Int)), (26, .int .i64 v19)]) (fun s => match s with | (l17, l18, v19) => [.arr .clo 1 (l1.map (c_sl (c_str))), .arr .clo 1 (l17.map (c_str)), .arr .clo 1 (l18.map (c_str))]) (fun q ex fr σ => match q with | (l20, l21) => ex = .exit 4 ∧ fr = [(0, .im b0 (a0.map (c_T_impl_Nest false))), (5, .hd 0 (l1.map (c_sl (c_str))).length 0 (l1.map (c_sl (c_str))).length), (6, .hd 1 (l20.map (c_str)).length 0 (l20.map (c_str)).length), (8, .hd 2 (l21.map (c_str)).length 0 (l21.map (c_str)).length), (18, .im false (v3.map (c_str))), (19, .int .i64 (v3.length : Int)), (20, .int .i64 v9)] ∧ σ = [.arr .clo 1 (l1.map (c_sl (c_str))), .arr .clo 1 (l20.map (c_str)), .arr .clo 1 (l21.map (c_str))]) h32 ?_ ?_
     ·rintro ⟨l17, l18, v19⟩ y22 H
      refine au 5 ?_
      refine T.cH H (fun H h => ?_) (fun H h => ?_)
      ·refine au 5 ?_
       obtain ⟨e23, h24, H⟩ := bind_s H
       refine TL.st rfl rfl rfl (o_ix (f := c_T_impl_Nest false) rfl rfl tyS_26 rfl rfl h24 rfl) ?_
       refine au 14 ?_
       obtain ⟨r25, h26, H⟩ := bind_s H
       refine TL.gcq rfl rfl rfl (.bool _) rfl rfl (fun h => o_callP rfl en_35 rfl (evl_2 (gv h rfl) (gv h rfl)) (.cons _ _ _ _ (.own rfl (by decide) rfl) (.cons _ _ _ _ (.cl _ rfl) .nil)) (spec_l3Has_p true (gdO_t h26 h))) ?_
       refine au 3 ?_
       refine T.cH H (fun H h => ?_) (fun H h => ?_)
       ·refine au 5 ?_
        refine TL.st rfl rfl rfl (o_sliceIm (rows := ([e23.Member_] : List ByteArray).map (c_str)) rfl rfl tyS_9 ⟨_, rfl, rfl⟩ (by decide) rfl rfl rfl rfl rfl rfl) ?_
        obtain ⟨l27, h28, H⟩ := bind_s H
        refine TL.st rfl rfl rfl (o_ap (f := c_str) (xs := l17) (ys := ([e23.Member_] : List ByteArray)) rfl rfl tyE_9 rfl rfl rfl rfl (by decide) rfl (fun _ => rfl) h28) ?_
        refine au 2 ?_
        refine T.conv (Cs.eqS (σ' := [_, .arr .clo 1 (l27.map (c_str)), _, .box (c_T_impl_Nest false e23)]) rfl) ?_
        refine au 4 ?_
        refine TL.st rfl rfl rfl (o_sliceIm (rows := ([e23.Member_] : List ByteArray).map (c_str)) rfl rfl tyS_9 ⟨_, rfl, rfl⟩ (by decide) rfl rfl rfl rfl rfl rfl) ?_
        obtain ⟨l29, h30, H⟩ := bind_s H
        refine TL.st rfl rfl rfl (o_ap (f := c_str) (xs := l18) (ys := ([e23.Member_] : List ByteArray)) rfl rfl tyE_9 rfl rfl rfl rfl (by decide) rfl (fun _ => rfl) h30) ?_
        refine au 6 ?_
        exact Pk.of (thn_normal ⟨(l27, l29, (IntKind.i64.wrap (v19 + 1))), (some_i H).symm, rfl, rfl⟩)
       ·refine au 5 ?_
        exact Pk.of (thn_normal ⟨(l17, l18, (IntKind.i64.wrap (v19 + 1))), (some_i H).symm, rfl, rfl⟩)
      ·refine T.exit ?_
       refine thn_exit ?_
       exact Pk.of (thn_exit ⟨(l17, l18), (some_i H).symm, rfl, rfl, rfl⟩)
     ·rcases q31 with ⟨l20, l21⟩
      rintro _ _ _ ⟨rfl, rfl, rfl⟩
      refine inB_here ?_
      refine au 4 ?_
      exact Pk.of (thn_normal ⟨(l20, l21, (IntKind.i64.wrap (v9 + 1))), (some_i H).symm, rfl, rfl⟩)
    ·refine T.exit ?_
     refine thn_exit ?_
     exact Pk.of (thn_exit ⟨(l7, l8), (some_i H).symm, rfl, rfl, rfl⟩)
   ·rcases q33 with ⟨l10, l11⟩
    rintro _ _ _ ⟨rfl, rfl, rfl⟩
    refine inB_here ?_
    refine au 4 ?_
    refine TL.st rfl rfl rfl (o_lenOwn (f := c_str) rfl rfl rfl rfl rfl) ?_
    refine au 2 ?_
    refine T.cH H (fun H h => ?_) (fun H h => ?_)
    ·refine au 3 ?_
     refine TL.conv (Cs.frzOwn (t := 57) rfl rfl rfl) ?_
     refine TL.conv (Cs.tellF (t := 8) rfl rfl rfl) ?_
     refine TL.conv (Cs.tellF (t := 53) rfl rfl rfl) ?_
     refine TL.conv (Cs.kill (p := 2) rfl) ?_
     refine TL.st rfl rfl rfl (o_sliceIm (rows := ([l11] : List (List ByteArray)).map (c_sl (c_str))) rfl rfl tyS_36 ⟨_, rfl, rfl⟩ (by decide) rfl rfl rfl rfl rfl rfl) ?_
     obtain ⟨l12, h13, H⟩ := bind_s H
     refine TL.st rfl rfl rfl (o_ap (f := c_sl (c_str)) (xs := l1) (ys := ([l11] : List (List ByteArray))) rfl rfl tyE_36 rfl rfl rfl rfl (by decide) rfl (fun _ => rfl) h13) ?_
     refine au 6 ?_
     refine inB_normal ?_
     exact Pk.of (thn_normal ⟨(l12, l10, l11), (some_i H).symm, rfl, rfl⟩)
    ·refine au 4 ?_
     refine TL.conv (Cs.frzOwn (t := 7) rfl rfl rfl) ?_
     refine TL.nil ?_
     refine inB_normal ?_
     exact Pk.of (thn_normal ⟨(l1, l10, l11), (some_i H).symm, rfl, rfl⟩)
  ·refine T.exit ?_
   refine thn_exit ?_
   exact Pk.of (thn_exit ⟨(l1, l2), (some_i H).symm, rfl, rfl, rfl⟩)
 ·rcases q35 with ⟨l4, l5⟩
  rintro _ _ _ ⟨rfl, rfl, rfl⟩
  refine inB_here ?_
  refine au 6 ?_
  cases some_i H
  exact ⟨trivial, _, (.tmp _ _ _ _ rfl .nil), (.own rfl (by decide) rfl)⟩
theorem en_39 : En Try.prog 39 := .of Try.func39 rfl rfl
theorem tyS_35 : TyS Try.prog 35 true 3 := ⟨rfl, rfl⟩
theorem tyE_35 : TyE Try.prog 35 3 := ⟨_, _, rfl, rfl, rfl, rfl, by decide, by decide⟩
noncomputable def spec_l5Reach_l4 (e7 : ByteArray) (r9 : (List (List ByteArray))) (e20 : ByteArray) : (List T_impl_Reach × Int) → Option ((List T_impl_Reach × Int) ⊕ List T_impl_Reach) := fun s => match s with
  | (l22, v23) => cond (decide (v23 < (r9.length : Int))) ((idx r9 v23).bind fun e26 => (spec_l3Has e26 e20).bind fun r28 => cond r28 ((app l22 ([(⟨e7, e20, (IntKind.i64.wrap (v23 + 1))⟩ : T_impl_Reach)] : List T_impl_Reach)).bind fun l30 => some (.inl (l30, (IntKind.i64.wrap (v23 + 1))))) (some (.inl (l22, (IntKind.i64.wrap (v23 + 1)))))) (some (.inr l22))
noncomputable def spec_l5Reach_l3 (e7 : ByteArray) (r9 : (List (List ByteArray))) (r14 : (List ByteArray)) : (List T_impl_Reach × Int) → Option ((List T_impl_Reach × Int) ⊕ List T_impl_Reach) := fun s => match s with
  | (l16, v17) => cond (decide (v17 < (r14.length : Int))) ((idx r14 v17).bind fun e20 => (loopO (spec_l5Reach_l4 e7 r9 e20) (l16, 0)).bind fun l24 => (match l24 with | l24 => some (.inl (l24, (IntKind.i64.wrap (v17 + 1)))))) (some (.inr l16))
noncomputable def spec_l5Reach_l2 (r9 : (List (List ByteArray))) : (List ByteArray × Int) → Option ((List ByteArray × Int) ⊕ List ByteArray) := fun s => match s with
  | (l11, v12) => cond (decide (v12 < (r9.length : Int))) ((idx r9 v12).bind fun e37 => (app l11 e37).bind fun l39 => some (.inl (l39, (IntKind.i64.wrap (v12 + 1))))) (some (.inr l11))
noncomputable def spec_l5Reach_l1 (a0 : (List T_impl_Nest)) (r1 : (List ByteArray)) : (List T_impl_Reach × Int) → Option ((List T_impl_Reach × Int) ⊕ List T_impl_Reach) := fun s => match s with
  | (l3, v4) => cond (decide (v4 < (r1.length : Int))) ((idx r1 v4).bind fun e7 => (spec_l5Rings a0 e7).bind fun r9 => (loopO (spec_l5Reach_l2 r9) (([] : List ByteArray), 0)).bind fun l13 => (match l13 with | l13 => (spec_l5Sorted l13).bind fun r14 => (loopO (spec_l5Reach_l3 e7 r9 r14) (l3, 0)).bind fun l18 => (match l18 with | l18 => some (.inl (l18, (IntKind.i64.wrap (v4 + 1))))))) (some (.inr l3))
noncomputable def spec_l5Reach (a0 : (List T_impl_Nest)) : Option (List T_impl_Reach) :=
  (spec_l5Groups a0).bind fun r1 => (loopO (spec_l5Reach_l1 a0 r1) (([] : List T_impl_Reach), 0)).bind fun l5 => (match l5 with | l5 => some l5)
theorem spec_l5Reach_p (b0 : Bool) {a0 : (List T_impl_Nest)} {R0 : (List T_impl_Reach)} (H : spec_l5Reach a0 = some R0) : Pure Try.prog 32 [.im b0 (a0.map (c_T_impl_Nest false))] (.im false (R0.map (c_T_impl_Reach false))) := by
 refine CallT.of_TN (n := 63) Try.func32 rfl rfl rfl rfl ?_
 refine au 12 ?_
 obtain ⟨r1, h2, H⟩ := bind_s H
 refine TL.st rfl rfl rfl (o_callP rfl en_38 rfl rfl (.cons _ _ _ _ (.imv _ _) .nil) (spec_l5Groups_p b0 h2)) ?_
 refine TL.st rfl rfl rfl (o_lenL (f := c_str) rfl rfl rfl) ?_
 refine au 3 ?_
 refine T.conv (Cs.own (t := 3) 3 rfl (by decide)) ?_
 obtain ⟨l5, h44, H⟩ := bind_s H
 refine T.lq (fun s => match s with | (l3, v4) => [(0, .im b0 (a0.map (c_T_impl_Nest false))), (3, .hd 0 (l3.map (c_T_impl_Reach false)).length 0 (l3.map (c_T_impl_Reach false)).length), (15, .im false (r1.map (c_str))), (16, .int .i64 (r1.length : Int)), (17, .int .i64 v4)]) (fun s => match s with | (l3, v4) => [.arr .clo 3 (l3.map (c_T_impl_Reach false))]) (fun q ex fr σ => match q with | l5 => ex = .exit 0 ∧ fr = [(3, .hd 0 (l5.map (c_T_impl_Reach false)).length 0 (l5.map (c_T_impl_Reach false)).length)] ∧ σ = [.arr .clo 3 (l5.map (c_T_impl_Reach false))]) h44 ?_ ?_
 ·rintro ⟨l3, v4⟩ y6 H
  refine au 5 ?_
  refine T.cH H (fun H h => ?_) (fun H h => ?_)
  ·refine au 5 ?_
   obtain ⟨e7, h8, H⟩ := bind_s H
   refine TL.st rfl rfl rfl (o_ix (f := c_str) rfl rfl tyS_9 rfl rfl h8 rfl) ?_
   refine au 11 ?_
   obtain ⟨r9, h10, H⟩ := bind_s H
   refine TL.st rfl rfl rfl (o_callP rfl en_39 rfl rfl (.cons _ _ _ _ (.imv _ _) (.cons _ _ _ _ (.cl _ rfl) .nil)) (spec_l5Rings_p b0 h10)) ?_
   refine au 6 ?_
   refine TL.st rfl rfl rfl (o_lenL (f := c_sl (c_str)) rfl rfl rfl) ?_
   refine au 3 ?_
   refine T.conv (Cs.own (t := 6) 1 rfl (by decide)) ?_
   obtain ⟨l13, h42, H⟩ := bind_s H
   refine T.lq (fun s => match s with | (l11, v12) => [(0, .im b0 (a0.map (c_T_impl_Nest false))), (3, .hd 0 (l3.map (c_T_impl_Reach false)).length 0 (l3.map (c_T_impl_Reach false)).length), (5, .str e7), (6, .hd 1 (l11.map (c_str)).length 0 (l11.map (c_str)).length), (7, .im false (r9.map (c_sl (c_str)))), (15, .im false (r1.map (c_str))), (16, .int .i64 (r1.length : Int)), (17, .int .i64 v4), (24, .im false (r9.map (c_sl (c_str)))), (25, .int .i64 (r9.length : Int)), (26, .int .i64 v12)]) (fun s => match s with | (l11, v12) => [.arr .clo 3 (l3.map (c_T_impl_Reach false)), .arr .clo 1 (l11.map (c_str))]) (fun q ex fr σ => match q with | l13 => ex = .exit 2 ∧ fr = [(0, .im b0 (a0.map (c_T_impl_Nest false))), (3, .hd 0 (l3.map (c_T_impl_Reach false)).length 0 (l3.map (c_T_impl_Reach false)).length), (5, .str e7), (6, .hd 1 (l13.map (c_str)).length 0 (l13.map (c_str)).length), (7, .im false (r9.map (c_sl (c_str)))), (15, .im false (r1.map (c_str))), (16, .int .i64 (r1.length : Int)), (17, .int .i64 v4)] ∧ σ = [.arr .clo 3 (l3.map (c_T_impl_Reach false)), .arr .clo 1 (l13.map (c_str))]) h42 ?_ ?_
   ·rintro ⟨l11, v12⟩ y36 H
    refine au 5 ?_
    refine T.cH H (fun H h => ?_) (fun H h => ?_)
    ·refine au 5 ?_
     obtain ⟨e37, h38, H⟩ := bind_s H
     refine TL.st rfl rfl rfl (o_ix (f := c_sl (c_str)) rfl rfl tyS_36 rfl rfl h38 rfl) ?_
     refine au 6 ?_
     obtain ⟨l39, h40, H⟩ := bind_s H
     refine TL.st rfl rfl rfl (o_ap (f := c_str) (xs := l11) (ys := e37) rfl rfl tyE_9 rfl rfl rfl rfl (by decide) rfl (fun _ => rfl) h40) ?_
     refine au 6 ?_
     exact Pk.of (thn_normal ⟨(l39, (IntKind.i64.wrap (v12 + 1))), (some_i H).symm, rfl, rfl⟩)
    ·refine T.exit ?_
     refine thn_exit ?_
     exact Pk.of (thn_exit ⟨l11, (some_i H).symm, rfl, rfl, rfl⟩)
   ·rintro _ _ _ ⟨rfl, rfl, rfl⟩
    refine inB_here ?_
    refine au 3 ?_
    obtain ⟨r14, h15, H⟩ := bind_s H
    refine TL.st rfl rfl rfl (o_callP rfl en_55 rfl rfl (.cons _ _ _ _ (.own rfl (by decide) rfl) .nil) (spec_l5Sorted_p true h15)) ?_
    refine TL.st rfl rfl rfl (o_lenL (f := c_str) rfl rfl rfl) ?_
    refine au 3 ?_
    obtain ⟨l18, h35, H⟩ := bind_s H
    refine T.lq (fun s => match s with | (l16, v17) => [(0, .im b0 (a0.map (c_T_impl_Nest false))), (3, .hd 0 (l16.map (c_T_impl_Reach false)).length 0 (l16.map (c_T_impl_Reach false)).length), (5, .str e7), (7, .im false (r9.map (c_sl (c_str)))), (15, .im false (r1.map (c_str))), (16, .int .i64 (r1.length : Int)), (17, .int .i64 v4), (35, .im false (r14.map (c_str))), (36, .int .i64 (r14.length : Int)), (37, .int .i64 v17)]) (fun s => match s with | (l16, v17) => [.arr .clo 3 (l16.map (c_T_impl_Reach false)), .arr .clo 1 (l13.map (c_str))]) (fun q ex fr σ => match q with | l18 => ex = .exit 4 ∧ fr = [(0, .im b0 (a0.map (c_T_impl_Nest false))), (3, .hd 0 (l18.map (c_T_impl_Reach false)).length 0 (l18.map (c_T_impl_Reach false)).length), (15, .im false (r1.map (c_str))), (16, .int .i64 (r1.length : Int)), (17, .int .i64 v4)] ∧ σ = [.arr .clo 3 (l18.map (c_T_impl_Reach false)), .arr .clo 1 (l13.map (c_str))]) h35 ?_ ?_
    ·rintro ⟨l16, v17⟩ y19 H
     refine au 5 ?_
     refine T.cH H (fun H h => ?_) (fun H h => ?_)
     ·refine au 5 ?_
      obtain ⟨e20, h21, H⟩ := bind_s H
      refine TL.st rfl rfl rfl (o_ix (f := c_str) rfl rfl tyS_9 rfl rfl h21 rfl) ?_
      refine au 6 ?_
      refine TL.st rfl rfl rfl (o_lenL (f := c_sl (c_str)) rfl rfl rfl) ?_
      refine au 3 ?_
      obtain ⟨l24, h33, H⟩ := bind_s H
      refine T.lq (fun s => match s with | (l22, v23) => [(0, .im b0 (a0.map (c_T_impl_Nest false))), (3, .hd 0 (l22.map (c_T_impl_Reach false)).length 0 (l22.map (c_T_impl_Reach false)).length), (5, .str e7), (7, .im false (r9.map (c_sl (c_str)))), (11, .str e20), (15, .im false (r1.map (c_str))), (16, .int .i64 (r1.length : Int)), (17, .int .i64 v4), (35, .im false (r14.map (c_str))), (36, .int .i64 (r14.length : Int)), (37, .int .i64 v17), (41, .im false (r9.map (c_sl (c_str)))), (42, .int .i64 (r9.length : Int)), (43, .int .i64 v23)]) (fun s => match s with | (l22, v23) => [.arr .clo 3 (l22.map (c_T_impl_Reach false)), .arr .clo 1 (l13.map (c_str))]) (fun q ex fr σ => match q with | l24 => ex = .exit 6 ∧ fr = [(0, .im b0 (a0.map (c_T_impl_Nest false))), (3, .hd 0 (l24.map (c_T_impl_Reach false)).length 0 (l24.map (c_T_impl_Reach false)).length), (5, .str e7), (7, .im false (r9.map (c_sl (c_str)))), (15, .im false (r1.map (c_str))), (16, .int .i64 (r1.length : Int)), (17, .int .i64 v4), (35, .im false (r14.map (c_str))), (36, .int .i64 (r14.length : Int)), (37, .int .i64 v17)] ∧ σ = [.arr .clo 3 (l24.map (c_T_impl_Reach false)), .arr .clo 1 (l13.map (c_str))]) h33 ?_ ?_
      ·rintro ⟨l22, v23⟩ y25 H
       refine au 5 ?_
       refine T.cH H (fun H h => ?_) (fun H h => ?_)
       ·refine au 6 ?_
        obtain ⟨e26, h27, H⟩ := bind_s H
        refine TL.st rfl rfl rfl (o_ix (f := c_sl (c_str)) rfl rfl tyS_36 rfl rfl h27 rfl) ?_
        refine au 8 ?_
        obtain ⟨r28, h29, H⟩ := bind_s H
        refine TL.st rfl rfl rfl (o_callP rfl en_35 rfl rfl (.cons _ _ _ _ (.cl _ rfl) (.cons _ _ _ _ (.cl _ rfl) .nil)) (spec_l3Has_p false h29)) ?_
        refine TL.nil ?_
        refine T.cH H (fun H h => ?_) (fun H h => ?_)
        ·refine au 7 ?_
         refine TL.st rfl rfl rfl (o_sliceIm (rows := ([(⟨e7, e20, (IntKind.i64.wrap (v23 + 1))⟩ : T_impl_Reach)] : List T_impl_Reach).map (c_T_impl_Reach false)) rfl rfl tyS_35 ⟨_, rfl, rfl⟩ (by decide) rfl rfl rfl rfl rfl rfl) ?_
         obtain ⟨l30, h31, H⟩ := bind_s H
         refine TL.st rfl rfl rfl (o_ap (f := c_T_impl_Reach false) (xs := l22) (ys := ([(⟨e7, e20, (IntKind.i64.wrap (v23 + 1))⟩ : T_impl_Reach)] : List T_impl_Reach)) rfl rfl tyE_35 rfl rfl rfl rfl (by decide) rfl (fun _ => rfl) h31) ?_
         refine au 6 ?_
         exact Pk.of (thn_normal ⟨(l30, (IntKind.i64.wrap (v23 + 1))), (some_i H).symm, rfl, rfl⟩)
        ·refine au 5 ?_
         exact Pk.of (thn_normal ⟨(l22, (IntKind.i64.wrap (v23 + 1))), (some_i H).symm, rfl, rfl⟩)
       ·refine T.exit ?_
        refine thn_exit ?_
        exact Pk.of (thn_exit ⟨l22, (some_i H).symm, rfl, rfl, rfl⟩)
      ·rintro _ _ _ ⟨rfl, rfl, rfl⟩
       refine inB_here ?_
       refine au 4 ?_
       exact Pk.of (thn_normal ⟨(l24, (IntKind.i64.wrap (v17 + 1))), (some_i H).symm, rfl, rfl⟩)
     ·refine T.exit ?_
      refine thn_exit ?_
      exact Pk.of (thn_exit ⟨l16, (some_i H).symm, rfl, rfl, rfl⟩)
    ·rintro _ _ _ ⟨rfl, rfl, rfl⟩
     refine inB_here ?_
     refine au 4 ?_
     exact Pk.of (thn_normal ⟨(l18, (IntKind.i64.wrap (v4 + 1))), (some_i H).symm, rfl, rfl⟩)
  ·refine T.exit ?_
   refine thn_exit ?_
   exact Pk.of (thn_exit ⟨l3, (some_i H).symm, rfl, rfl, rfl⟩)
 ·rintro _ _ _ ⟨rfl, rfl, rfl⟩
  refine inB_here ?_
  refine au 6 ?_
  cases some_i H
  exact ⟨trivial, _, (.tmp _ _ _ _ rfl .nil), (.own rfl (by decide) rfl)⟩
theorem en_32 : En Try.prog 32 := .of Try.func32 rfl rfl
noncomputable def spec_ReachOf (a0 : (List T_impl_Nest)) : Option (List T_impl_Reach) :=
  (spec_GoodNests a0).bind fun r1 => cond (!r1) (some ([] : List T_impl_Reach)) ((spec_l5Reach a0).bind fun r3 => some r3)
theorem spec_ReachOf_p (b0 : Bool) {a0 : (List T_impl_Nest)} {R0 : (List T_impl_Reach)} (H : spec_ReachOf a0 = some R0) : Pure Try.prog 10 [.im b0 (a0.map (c_T_impl_Nest false))] (.im false (R0.map (c_T_impl_Reach false))) := by
 refine CallT.of_TN (n := 8) Try.func10 rfl rfl rfl rfl ?_
 refine au 8 ?_
 obtain ⟨r1, h2, H⟩ := bind_s H
 refine TL.st rfl rfl rfl (o_callP rfl en_31 rfl rfl (.cons _ _ _ _ (.imv _ _) .nil) (spec_GoodNests_p b0 h2)) ?_
 refine au 2 ?_
 refine T.cH H (fun H h => ?_) (fun H h => ?_)
 ·refine au 5 ?_
  refine thn_ret ?_
  cases some_i H
  exact ⟨trivial, _, (.tmp _ _ _ _ rfl .nil), .nil⟩
 ·refine au 4 ?_
  obtain ⟨r3, h4, H⟩ := bind_s H
  refine TL.st rfl rfl rfl (o_callP rfl en_32 rfl rfl (.cons _ _ _ _ (.imv _ _) .nil) (spec_l5Reach_p b0 h4)) ?_
  refine au 3 ?_
  cases some_i H
  exact ⟨trivial, _, (.tmp _ _ _ _ rfl .nil), (.cl _ rfl)⟩
theorem en_10 : En Try.prog 10 := .of Try.func10 rfl rfl
noncomputable def spec_l5Drawn_j2 (r1 : (List T_impl_Nest)) (b9 : T_spec_l1Cur) (b10 : T_impl_Nest) : Option ((List T_impl_Nest) × (List T_impl_Reach) × T_impl_Nest) :=
  (spec_ReachOf r1).bind fun r11 => some (r1, r11, b10)
noncomputable def spec_l5Drawn_j1 (r1 : (List T_impl_Nest)) (b7 : T_spec_l1Cur) (b8 : T_impl_Nest) : Option ((List T_impl_Nest) × (List T_impl_Reach) × T_impl_Nest) :=
  (spec_l1Cur_one 3 b7).bind fun q => (match q with | (r13, o14) => cond (r13 && decide ((r1.length : Int) > 0)) ((spec_l1Cur_pick (r1.length : Int) o14).bind fun q => (match q with | (r16, o17) => (idx r1 r16).bind fun e19 => spec_l5Drawn_j2 r1 o17 e19)) (spec_l5Drawn_j2 r1 o14 b8))
noncomputable def spec_l5Drawn (a0 : (List Int)) : Option ((List T_impl_Nest) × (List T_impl_Reach) × T_impl_Nest) :=
  (spec_l1Cur_nests 12 (⟨a0, 0, 0⟩ : T_spec_l1Cur)).bind fun q => (match q with | (r1, o2) => (spec_l1Cur_nest o2).bind fun q => (match q with | (r4, o5) => (spec_l1Cur_one 20 o5).bind fun q => (match q with | (r21, o22) => cond r21 (spec_l5Drawn_j1 r1 o22 (⟨r4.Group_, e0⟩ : T_impl_Nest)) (spec_l5Drawn_j1 r1 o22 r4))))
theorem spec_l5Drawn_p (b0 : Bool) {a0 : (List Int)} {R0 : (List T_impl_Nest)} {R1 : (List T_impl_Reach)} {R2 : T_impl_Nest} (H : spec_l5Drawn a0 = some (R0, R1, R2)) : Pure Try.prog 20 [.im b0 (a0.map (c_int .u8))] (.tup [.im false (R0.map (c_T_impl_Nest false)), .im false (R1.map (c_T_impl_Reach false)), .agg (c_T_impl_Nest false R2)]) := by
 refine CallT.of_TN (n := 36) Try.func20 rfl rfl rfl rfl ?_
 refine au 16 ?_
 obtain ⟨⟨r1, o2⟩, h3, H⟩ := bind_s H
 refine TL.st rfl rfl rfl (o_callS [1] rfl en_40 rfl rfl (spec_l1Cur_nests_p b0 h3) rfl (by decide) (.cons _ _ _ _ rfl .nil) rfl rfl rfl) ?_
 refine au 3 ?_
 refine T.conv (Cs.eqS (σ' := [.box [.str e0, .str e0], .box (c_T_spec_l1Cur b0 o2)]) rfl) ?_
 refine au 2 ?_
 obtain ⟨⟨r4, o5⟩, h6, H⟩ := bind_s H
 refine TL.st rfl rfl rfl (o_callS [1] rfl en_41 rfl rfl (spec_l1Cur_nest_p b0 h6) rfl (by decide) (.cons _ _ _ _ rfl .nil) rfl rfl rfl) ?_
 refine au 3 ?_
 refine T.cut (fun fr' σ' => ∃ (b7 : T_spec_l1Cur) (b8 : T_impl_Nest), fr' = [(4, .bx 0 0), (5, .bx 1 0), (6, .im false (r1.map (c_T_impl_Nest false))), (7, .bx 2 0)] ∧ σ' = [.box [.str e0, .str e0], .box (c_T_spec_l1Cur b0 b7), .box (c_T_impl_Nest false b8)] ∧ spec_l5Drawn_j1 r1 b7 b8 = some (R0, R1, R2)) (T.pk ?_) ?_
 ·skip
  refine T.seq ?_
  refine T.conv (Cs.eqS (σ' := [_, .box (c_T_spec_l1Cur b0 o5), .box (c_T_impl_Nest false r4)]) rfl) ?_
  refine au 2 ?_
  obtain ⟨⟨r21, o22⟩, h23, H⟩ := bind_s H
  refine TL.st rfl rfl rfl (o_callS [1] rfl en_42 rfl rfl (spec_l1Cur_one_p b0 h23) rfl (by decide) (.cons _ _ _ _ rfl .nil) rfl rfl rfl) ?_
  refine TL.nil ?_
  refine T.cH H (fun H h => ?_) (fun H h => ?_)
  ·refine au 4 ?_
   exact Pk.of (thn_normal ⟨o22, (⟨r4.Group_, e0⟩ : T_impl_Nest), rfl, rfl, H⟩)
  ·refine T.skip ?_
   exact Pk.of (thn_normal ⟨o22, r4, rfl, rfl, H⟩)
 ·rintro _ _ ⟨b7, b8, rfl, rfl, H⟩
  refine T.cut (fun fr' σ' => ∃ (b9 : T_spec_l1Cur) (b10 : T_impl_Nest), fr' = [(4, .bx 0 0), (6, .im false (r1.map (c_T_impl_Nest false))), (7, .bx 2 0)] ∧ σ' = [.box [.str e0, .str e0], .box (c_T_spec_l1Cur b0 b9), .box (c_T_impl_Nest false b10)] ∧ spec_l5Drawn_j2 r1 b9 b10 = some (R0, R1, R2)) (T.pk ?_) ?_
  ·skip
   refine au 3 ?_
   obtain ⟨⟨r13, o14⟩, h15, H⟩ := bind_s H
   refine TL.st rfl rfl rfl (o_callS [1] rfl en_42 rfl rfl (spec_l1Cur_one_p b0 h15) rfl (by decide) (.cons _ _ _ _ rfl .nil) rfl rfl rfl) ?_
   refine au 2 ?_
   refine TL.gcq rfl rfl rfl (.bool _) rfl rfl (fun h => o_lenL (f := c_T_impl_Nest false) rfl rfl (gv h rfl)) ?_
   refine au 3 ?_
   refine T.cH H (fun H h => ?_) (fun H h => ?_)
   ·refine au 4 ?_
    refine TL.st rfl rfl rfl (o_lenL (f := c_T_impl_Nest false) rfl rfl rfl) ?_
    obtain ⟨⟨r16, o17⟩, h18, H⟩ := bind_s H
    refine TL.st rfl rfl rfl (o_callS [1] rfl en_43 rfl rfl (spec_l1Cur_pick_p b0 h18) rfl (by decide) (.cons _ _ _ _ rfl .nil) rfl rfl rfl) ?_
    obtain ⟨e19, h20, H⟩ := bind_s H
    refine TL.st rfl rfl rfl (o_ix (f := c_T_impl_Nest false) rfl rfl tyS_26 rfl rfl h20 rfl) ?_
    refine au 3 ?_
    exact Pk.of (thn_normal ⟨o17, e19, rfl, rfl, H⟩)
   ·refine T.skip ?_
    exact Pk.of (thn_normal ⟨o14, b8, rfl, rfl, H⟩)
  ·rintro _ _ ⟨b9, b10, rfl, rfl, H⟩
   refine T.seq ?_
   refine T.drawn rfl ?_
   refine ad 2 ?_
   obtain ⟨r11, h12, H⟩ := bind_s H
   refine TD.qs rfl rfl (fun _ => o_callP rfl en_10 rfl rfl (.cons _ _ _ _ (.cl _ rfl) .nil) (spec_ReachOf_p false h12)) ?_
   refine ad 4 ?_
   refine TD.nil ⟨rfl, ?_⟩
   refine T.ret ?_
   cases some_i H
   exact ⟨trivial, _, (.tmp _ _ _ _ rfl (.tmp _ _ _ _ rfl (.cell _ _ _ _ _ _ _ _ _ _ rfl rfl tyS_26 (nb rfl) rfl .nil))), (.tupL (.cons _ _ _ _ (.cl _ rfl) (.cons _ _ _ _ (.cl _ rfl) (.cons _ _ _ _ (.cl _ rfl) .nil))))⟩
theorem en_20 : En Try.prog 20 := .of Try.func20 rfl rfl
noncomputable def spec_DrawAddNest (a0 : (List Int)) : Option ((List T_impl_Nest) × (List T_impl_Reach) × T_impl_Nest) :=
  (spec_l5Drawn a0).bind fun q => (match q with | (r1, r2, r3) => some (r1, r2, r3))
theorem spec_DrawAddNest_p (b0 : Bool) {a0 : (List Int)} {R0 : (List T_impl_Nest)} {R1 : (List T_impl_Reach)} {R2 : T_impl_Nest} (H : spec_DrawAddNest a0 = some (R0, R1, R2)) : Pure Try.prog 4 [.im b0 (a0.map (c_int .u8))] (.tup [.im false (R0.map (c_T_impl_Nest false)), .im false (R1.map (c_T_impl_Reach false)), .agg (c_T_impl_Nest false R2)]) := by
 refine CallT.of_TN (n := 10) Try.func4 rfl rfl rfl rfl ?_
 refine au 9 ?_
 obtain ⟨⟨r1, r2, r3⟩, h4, H⟩ := bind_s H
 refine TL.st rfl rfl rfl (o_callP rfl en_20 rfl rfl (.cons _ _ _ _ (.imv _ _) .nil) (spec_l5Drawn_p b0 h4)) ?_
 refine au 8 ?_
 cases some_i H
 exact ⟨trivial, _, (.tmp _ _ _ _ rfl (.tmp _ _ _ _ rfl (.cell _ _ _ _ _ _ _ _ _ _ rfl rfl tyS_26 (nb rfl) rfl .nil))), (.tupL (.cons _ _ _ _ (.cl _ rfl) (.cons _ _ _ _ (.cl _ rfl) (.cons _ _ _ _ (.cl _ rfl) .nil))))⟩
theorem en_4 : En Try.prog 4 := .of Try.func4 rfl rfl
theorem en_21 : En Try.prog 21 := .of Try.func21 rfl rfl
noncomputable def impl_Nest_x (a0 : (List T_impl_Nest)) : Option (List T_impl_Nest) :=
  (app ([] : List T_impl_Nest) a0).bind fun l2 => some l2
theorem en_23 : En Try.prog 23 := .of Try.func23 rfl rfl
theorem en_24 : En Try.prog 24 := .of Try.func24 rfl rfl
theorem impl_Nest_x_o (b0 : Bool) {a0 : (List T_impl_Nest)} {R0 : (List T_impl_Nest)} (H : impl_Nest_x a0 = some R0) : OwnC Try.prog 23 [.im b0 (a0.map (c_T_impl_Nest false))] 2 (R0.map (c_T_impl_Nest false)) := by
 refine CallT.of_TN (n := 8) Try.func23 rfl rfl rfl rfl ?_
 refine au 8 ?_
 refine TL.sq _ rfl rfl rfl (o_isNilQ rfl ⟨_, rfl⟩ rfl) ?_
 rintro _ _ ⟨⟨nb1, rfl, hnb1⟩, rfl⟩
 refine TL.nil ?_
 refine T.cond (nb1) rfl (fun h => ?_) (fun h => ?_)
 ·have hx := List.map_eq_nil_iff.1 (hnb1 h)
  replace H : (some ([] : List T_impl_Nest)) = some R0 := by
   rw [hx] at H; simpa [app, impl_Nest_x] using H
  refine au 4 ?_
  refine T.conv (Cs.own (t := 2) 2 rfl (by decide)) ?_
  refine T.ret ?_
  refine thn_ret ?_
  cases some_i H
  exact ⟨trivial, _, (.tmp _ _ _ _ rfl .nil), ⟨rfl, _, rfl⟩⟩
 ·refine au 3 ?_
  refine TL.st rfl rfl rfl (o_sliceHd (rows := ([] : List T_impl_Nest).map (c_T_impl_Nest false)) .clo rfl rfl tyS_26 ⟨_, rfl, rfl⟩ (by decide) rfl rfl rfl rfl (by decide) (fun _ => rfl) (by decide) rfl (by decide)) ?_
  refine TL.st rfl rfl rfl (o_move rfl rfl) ?_
  obtain ⟨l2, h3, H⟩ := bind_s H
  refine TL.st rfl rfl rfl (o_ap (f := c_T_impl_Nest false) (xs := ([] : List T_impl_Nest)) (ys := a0) rfl rfl tyE_26 rfl rfl rfl rfl (by decide) rfl (fun _ => rfl) h3) ?_
  refine au 3 ?_
  cases some_i H
  exact ⟨trivial, _, (.tmp _ _ _ _ rfl .nil), ⟨rfl, _, rfl⟩⟩
theorem en_26 : En Try.prog 26 := .of Try.func26 rfl rfl
theorem en_27 : En Try.prog 27 := .of Try.func27 rfl rfl
noncomputable def impl_AddNest_j1 (l7 : List T_impl_Nest) : Option ((List T_impl_Nest) × (List T_impl_Reach)) :=
  (impl_GoodNests l7).bind fun r8 => cond (!r8) (some (([] : List T_impl_Nest), ([] : List T_impl_Reach))) ((RcAnc.reach l7).bind fun r10 => some (l7, r10))
noncomputable def impl_AddNest (a0 : (List T_impl_Nest)) (a1 : (List T_impl_Reach)) (a2 : T_impl_Nest) : Option ((List T_impl_Nest) × (List T_impl_Reach)) :=
  (impl_GoodNests a0).bind fun r1 => (gdO (!(!r1)) (impl_ygoodNest a2)).bind fun r3 => cond ((!r1) || (!r3)) (some (([] : List T_impl_Nest), ([] : List T_impl_Reach))) ((impl_Nest_x a0).bind fun r5 => (impl_Nest_ r5 a2).bind fun q => (match q with | (r12, r13) => cond (!r13) ((insO r5 r12 ([a2] : List T_impl_Nest)).bind fun l15 => impl_AddNest_j1 l15) (impl_AddNest_j1 r5)))
theorem impl_AddNest_p (b0 : Bool) (b1 : Bool) {a0 : (List T_impl_Nest)} {a1 : (List T_impl_Reach)} {a2 : T_impl_Nest} {R0 : (List T_impl_Nest)} {R1 : (List T_impl_Reach)} (H : impl_AddNest a0 a1 a2 = some (R0, R1)) : Pure Try.prog 5 [.im b0 (a0.map (c_T_impl_Nest false)), .im b1 (a1.map (c_T_impl_Reach false)), .agg (c_T_impl_Nest false a2)] (.tup [.im false (R0.map (c_T_impl_Nest false)), .im false (R1.map (c_T_impl_Reach false))]) := by
 refine CallT.of_TN (n := 40) Try.func5 rfl rfl rfl rfl ?_
 refine au 10 ?_
 obtain ⟨r1, h2, H⟩ := bind_s H
 refine TL.st rfl rfl rfl (o_callP rfl en_21 rfl rfl (.cons _ _ _ _ (.imv _ _) .nil) (impl_GoodNests_p b0 h2)) ?_
 refine au 2 ?_
 refine TL.gcq rfl rfl rfl (.bool _) rfl rfl (fun h => o_loadBx rfl tyS_26 rfl rfl (nb rfl) rfl) ?_
 obtain ⟨r3, h4, H⟩ := bind_s H
 refine TL.gcq rfl rfl rfl (.bool _) rfl rfl (fun h => o_callP rfl en_22 rfl (evl_1 (gv h rfl)) (.cons _ _ _ _ (.cl _ rfl) .nil) (impl_ygoodNest_p  (gdO_t h4 h))) ?_
 refine au 3 ?_
 refine T.cH H (fun H h => ?_) (fun H h => ?_)
 ·refine au 6 ?_
  refine thn_ret ?_
  cases some_i H
  exact ⟨trivial, _, (.tmp _ _ _ _ rfl (.tmp _ _ _ _ rfl .nil)), (.tupL (.cons _ _ _ _ .nil (.cons _ _ _ _ .nil .nil)))⟩
 ·refine au 4 ?_
  obtain ⟨r5, h6, H⟩ := bind_s H
  refine TL.st rfl rfl rfl (o_callOwn rfl en_23 rfl rfl (.cons _ _ _ _ (.imv _ _) .nil) (impl_Nest_x_o b0 h6)) ?_
  refine au 2 ?_
  refine T.cut (fun fr' σ' => ∃ (l7 : List T_impl_Nest), fr' = [(8, .hd 1 (l7.map (c_T_impl_Nest false)).length 0 (l7.map (c_T_impl_Nest false)).length)] ∧ σ' = [.box (c_T_impl_Nest false a2), .arr .clo 2 (l7.map (c_T_impl_Nest false))] ∧ impl_AddNest_j1 l7 = some (R0, R1)) (T.pk ?_) ?_
  ·skip
   refine au 4 ?_
   obtain ⟨⟨r12, r13⟩, h14, H⟩ := bind_s H
   refine TL.st rfl rfl rfl (o_callP rfl en_24 rfl rfl (.cons _ _ _ _ (.own rfl (by decide) rfl) (.cons _ _ _ _ (.cl _ rfl) (.cons _ _ _ _ (.fn _ _ _ _ _ rfl rfl (fun i c d h => by simp at h) (fun i c d h => by simp at h)) .nil))) (impl_Nest__p true h14)) ?_
   refine au 11 ?_
   refine T.cH H (fun H h => ?_) (fun H h => ?_)
   ·refine au 4 ?_
    refine TL.st rfl rfl rfl (o_sliceHd (rows := ([a2] : List T_impl_Nest).map (c_T_impl_Nest false)) .clo rfl rfl tyS_26 ⟨_, rfl, rfl⟩ (by decide) rfl rfl rfl rfl (by decide) (fun _ => rfl) (by decide) rfl (by decide)) ?_
    obtain ⟨l15, h16, H⟩ := bind_s H
    refine TL.st rfl rfl rfl (o_ins (f := c_T_impl_Nest false) (xs := r5) (ys := ([a2] : List T_impl_Nest)) Try.insert_own rfl en_26 rfl rfl rfl rfl rfl rfl rfl (fun _ => rfl) h16) ?_
    refine au 2 ?_
    exact Pk.of (thn_normal ⟨l15, rfl, rfl, H⟩)
   ·refine T.skip ?_
    exact Pk.of (thn_normal ⟨r5, rfl, rfl, H⟩)
  ·rintro _ _ ⟨l7, rfl, rfl, H⟩
   refine au 4 ?_
   obtain ⟨r8, h9, H⟩ := bind_s H
   refine TL.st rfl rfl rfl (o_callP rfl en_21 rfl rfl (.cons _ _ _ _ (.own rfl (by decide) rfl) .nil) (impl_GoodNests_p true h9)) ?_
   refine au 2 ?_
   refine T.cH H (fun H h => ?_) (fun H h => ?_)
   ·refine au 6 ?_
    refine thn_ret ?_
    cases some_i H
    exact ⟨trivial, _, (.tmp _ _ _ _ rfl (.tmp _ _ _ _ rfl .nil)), (.tupL (.cons _ _ _ _ .nil (.cons _ _ _ _ .nil .nil)))⟩
   ·refine au 5 ?_
    obtain ⟨r10, h11, H⟩ := bind_s H
    refine TL.st rfl rfl rfl (o_callP rfl en_27 rfl rfl (.cons _ _ _ _ (.own rfl (by decide) rfl) .nil) (RcAnc.lib_27 true h11)) ?_
    refine au 4 ?_
    cases some_i H
    exact ⟨trivial, _, (.tmp _ _ _ _ rfl (.tmp _ _ _ _ rfl .nil)), (.tupL (.cons _ _ _ _ (.own rfl (by decide) rfl) (.cons _ _ _ _ (.cl _ rfl) .nil)))⟩
theorem en_5 : En Try.prog 5 := .of Try.func5 rfl rfl
noncomputable def spec_l5Change (a0 : (List T_impl_Nest)) (a1 : T_impl_Nest) (a2 : Bool) : Option ((List T_impl_Nest) × (List T_impl_Reach)) :=
  (spec_GoodNests a0).bind fun r1 => (gdO (!(!r1)) (spec_l5Group a1.Group_)).bind fun r3 => (gdO (!((!r1) || (!r3))) (spec_GoodName a1.Member_)).bind fun r5 => cond (((!r1) || (!r3)) || (!r5)) (some (([] : List T_impl_Nest), ([] : List T_impl_Reach))) ((spec_l5With a0 a1 a2).bind fun r7 => (spec_GoodNests r7).bind fun r9 => cond (!r9) (some (([] : List T_impl_Nest), ([] : List T_impl_Reach))) ((spec_l5Reach r7).bind fun r11 => some (r7, r11)))
theorem spec_l5Change_p (b0 : Bool) {a0 : (List T_impl_Nest)} {a1 : T_impl_Nest} {a2 : Bool} {R0 : (List T_impl_Nest)} {R1 : (List T_impl_Reach)} (H : spec_l5Change a0 a1 a2 = some (R0, R1)) : Pure Try.prog 28 [.im b0 (a0.map (c_T_impl_Nest false)), .agg (c_T_impl_Nest false a1), .bool a2] (.tup [.im false (R0.map (c_T_impl_Nest false)), .im false (R1.map (c_T_impl_Reach false))]) := by
 refine CallT.of_TN (n := 34) Try.func28 rfl rfl rfl rfl ?_
 refine au 10 ?_
 obtain ⟨r1, h2, H⟩ := bind_s H
 refine TL.st rfl rfl rfl (o_callP rfl en_31 rfl rfl (.cons _ _ _ _ (.imv _ _) .nil) (spec_GoodNests_p b0 h2)) ?_
 refine au 4 ?_
 obtain ⟨r3, h4, H⟩ := bind_s H
 refine TL.gcq rfl rfl rfl (.bool _) rfl rfl (fun h => o_callP rfl en_34 rfl (evl_1 (gv h rfl)) (.cons _ _ _ _ (.cl _ rfl) .nil) (spec_l5Group_p  (gdO_t h4 h))) ?_
 refine au 5 ?_
 obtain ⟨r5, h6, H⟩ := bind_s H
 refine TL.gcq rfl rfl rfl (.bool _) rfl rfl (fun h => o_callP rfl en_51 rfl (evl_1 (gv h rfl)) (.cons _ _ _ _ (.cl _ rfl) .nil) (spec_GoodName_p  (gdO_t h6 h))) ?_
 refine au 3 ?_
 refine T.cH H (fun H h => ?_) (fun H h => ?_)
 ·refine au 6 ?_
  refine thn_ret ?_
  cases some_i H
  exact ⟨trivial, _, (.tmp _ _ _ _ rfl (.tmp _ _ _ _ rfl .nil)), (.tupL (.cons _ _ _ _ .nil (.cons _ _ _ _ .nil .nil)))⟩
 ·refine au 6 ?_
  obtain ⟨r7, h8, H⟩ := bind_s H
  refine TL.st rfl rfl rfl (o_callP rfl en_52 rfl rfl (.cons _ _ _ _ (.imv _ _) (.cons _ _ _ _ (.cl _ rfl) (.cons _ _ _ _ (.cl _ rfl) .nil))) (spec_l5With_p b0 h8)) ?_
  refine au 6 ?_
  obtain ⟨r9, h10, H⟩ := bind_s H
  refine TL.st rfl rfl rfl (o_callP rfl en_31 rfl rfl (.cons _ _ _ _ (.cl _ rfl) .nil) (spec_GoodNests_p false h10)) ?_
  refine au 2 ?_
  refine T.cH H (fun H h => ?_) (fun H h => ?_)
  ·refine au 6 ?_
   refine thn_ret ?_
   cases some_i H
   exact ⟨trivial, _, (.tmp _ _ _ _ rfl (.tmp _ _ _ _ rfl .nil)), (.tupL (.cons _ _ _ _ .nil (.cons _ _ _ _ .nil .nil)))⟩
  ·refine au 5 ?_
   obtain ⟨r11, h12, H⟩ := bind_s H
   refine TL.st rfl rfl rfl (o_callP rfl en_32 rfl rfl (.cons _ _ _ _ (.cl _ rfl) .nil) (spec_l5Reach_p false h12)) ?_
   refine au 4 ?_
   cases some_i H
   exact ⟨trivial, _, (.tmp _ _ _ _ rfl (.tmp _ _ _ _ rfl .nil)), (.tupL (.cons _ _ _ _ (.cl _ rfl) (.cons _ _ _ _ (.cl _ rfl) .nil)))⟩
theorem en_28 : En Try.prog 28 := .of Try.func28 rfl rfl
noncomputable def spec_AddNest (a0 : (List T_impl_Nest)) (a1 : (List T_impl_Reach)) (a2 : T_impl_Nest) : Option ((List T_impl_Nest) × (List T_impl_Reach)) :=
  (spec_l5Change a0 a2 true).bind fun q => (match q with | (r1, r2) => some (r1, r2))
theorem spec_AddNest_p (b0 : Bool) (b1 : Bool) {a0 : (List T_impl_Nest)} {a1 : (List T_impl_Reach)} {a2 : T_impl_Nest} {R0 : (List T_impl_Nest)} {R1 : (List T_impl_Reach)} (H : spec_AddNest a0 a1 a2 = some (R0, R1)) : Pure Try.prog 6 [.im b0 (a0.map (c_T_impl_Nest false)), .im b1 (a1.map (c_T_impl_Reach false)), .agg (c_T_impl_Nest false a2)] (.tup [.im false (R0.map (c_T_impl_Nest false)), .im false (R1.map (c_T_impl_Reach false))]) := by
 refine CallT.of_TN (n := 13) Try.func6 rfl rfl rfl rfl ?_
 refine au 10 ?_
 obtain ⟨⟨r1, r2⟩, h3, H⟩ := bind_s H
 refine TL.st rfl rfl rfl (o_callP rfl en_28 rfl rfl (.cons _ _ _ _ (.imv _ _) (.cons _ _ _ _ (.cl _ rfl) (.cons _ _ _ _ (.cl _ rfl) .nil))) (spec_l5Change_p b0 h3)) ?_
 refine au 6 ?_
 cases some_i H
 exact ⟨trivial, _, (.tmp _ _ _ _ rfl (.tmp _ _ _ _ rfl .nil)), (.tupL (.cons _ _ _ _ (.cl _ rfl) (.cons _ _ _ _ (.cl _ rfl) .nil)))⟩
theorem en_6 : En Try.prog 6 := .of Try.func6 rfl rfl
theorem eqT_26 : ∀ a b : T_impl_Nest, EqT Try.prog true 10000 26 [] 0 (c_T_impl_Nest false a) (c_T_impl_Nest false b) (a == b) := fun a b => .struct rfl (by kernel_rfl) (.cons (c := [.str a.Group_]) (d := [.str b.Group_]) rfl rfl tyS_9 rfl rfl (fun _ => rfl) (fun h => Bool.noConfusion h) (fun _ => ne_struct rfl rfl) (.str rfl) (.cons (c := [.str a.Member_]) (d := [.str b.Member_]) rfl rfl tyS_9 rfl rfl (fun _ => rfl) (fun h => Bool.noConfusion h) (fun _ => ne_struct rfl rfl) (.str rfl) .nil))
theorem eqG_26 : Program.eqGuardType Try.prog Try.prog.depth 26 = false := by kernel_rfl
noncomputable def laws_zNests_l1 (a0 : (List T_impl_Nest)) (a1 : (List T_impl_Nest)) : Int → Option (Int ⊕ (Unit ⊕ Bool)) := fun s => match s with
  | v1 => cond (decide (v1 < (a0.length : Int))) ((idx a0 v1).bind fun e4 => (idx a1 v1).bind fun e6 => cond (!(e4 == e6)) (some (.inr (.inr false))) (some (.inl (IntKind.i64.wrap (v1 + 1))))) (some (.inr (.inl ())))
noncomputable def laws_zNests (a0 : (List T_impl_Nest)) (a1 : (List T_impl_Nest)) : Option Bool :=
  cond ((a0.length : Int) != (a1.length : Int)) (some false) ((loopO (laws_zNests_l1 a0 a1) 0).bind fun q8 => (match q8 with | .inl _ => some true | .inr q2 => some q2))
theorem laws_zNests_p (b0 : Bool) (b1 : Bool) {a0 : (List T_impl_Nest)} {a1 : (List T_impl_Nest)} {R0 : Bool} (H : laws_zNests a0 a1 = some R0) : Pure Try.prog 7 [.im b0 (a0.map (c_T_impl_Nest false)), .im b1 (a1.map (c_T_impl_Nest false))] (.bool R0) := by
 refine CallT.of_TN (n := 26) Try.func7 rfl rfl rfl rfl ?_
 refine au 8 ?_
 refine TL.st rfl rfl rfl (o_lenL (f := c_T_impl_Nest false) rfl rfl rfl) ?_
 refine TL.st rfl rfl rfl (o_move rfl rfl) ?_
 refine TL.st rfl rfl rfl (o_lenL (f := c_T_impl_Nest false) rfl rfl rfl) ?_
 refine au 2 ?_
 refine T.cH H (fun H h => ?_) (fun H h => ?_)
 ·refine au 5 ?_
  refine thn_ret ?_
  cases some_i H
  exact ⟨trivial, _, (.tmp _ _ _ _ rfl .nil), (.cl _ rfl)⟩
 ·refine au 5 ?_
  refine TL.st rfl rfl rfl (o_lenL (f := c_T_impl_Nest false) rfl rfl rfl) ?_
  refine au 3 ?_
  obtain ⟨q8, h9, H⟩ := bind_s H
  refine T.lq (fun s => match s with | v1 => [(0, .im b0 (a0.map (c_T_impl_Nest false))), (1, .im b1 (a1.map (c_T_impl_Nest false))), (12, .int .i64 (a0.length : Int)), (13, .int .i64 v1)]) (fun s => match s with | v1 => []) (fun q ex fr σ => match q with | .inl _ => ex = .exit 0 ∧ fr = [] ∧ σ = [] | .inr q2 => ex = .ret ∧ RetN Try.prog [.tmp 4] (fun v τ => Told τ v (.bool q2)) .ret fr σ) h9 ?_ ?_
  ·rintro v1 y3 H
   refine au 5 ?_
   refine T.cH H (fun H h => ?_) (fun H h => ?_)
   ·refine au 9 ?_
    refine T.drawn rfl ?_
    refine ad 2 ?_
    obtain ⟨e4, h5, H⟩ := bind_s H
    refine TD.qs rfl rfl (fun _ => o_ix (f := c_T_impl_Nest false) rfl rfl tyS_26 rfl rfl h5 rfl) ?_
    refine TD.qs rfl rfl (fun _ => o_loadRf rfl tyS_26 rfl (nb rfl) rfl) ?_
    refine ad 2 ?_
    obtain ⟨e6, h7, H⟩ := bind_s H
    refine TD.qs rfl rfl (fun _ => o_ix (f := c_T_impl_Nest false) rfl rfl tyS_26 rfl rfl h7 rfl) ?_
    refine TD.qs rfl rfl (fun _ => o_loadRf rfl tyS_26 rfl (nb rfl) rfl) ?_
    refine TD.qs rfl rfl (fun _ => o_neA rfl rfl eqG_26 rfl rfl rfl rfl (eqT_26 e4 e6)) ?_
    refine TD.nil ⟨rfl, ?_⟩
    refine thn_normal ?_
    refine T.cH H (fun H h => ?_) (fun H h => ?_)
    ·refine au 5 ?_
     refine inB_ret (thn_ret ?_)
     exact Pk.id (thn_ret ⟨.inr false, (some_i H).symm, rfl, ⟨trivial, _, (.tmp _ _ _ _ rfl .nil), (.cl _ rfl)⟩⟩)
    ·refine au 5 ?_
     exact Pk.of (thn_normal ⟨(IntKind.i64.wrap (v1 + 1)), (some_i H).symm, rfl, rfl⟩)
   ·refine T.exit ?_
    refine thn_exit ?_
    exact Pk.of (thn_exit ⟨.inl (), (some_i H).symm, rfl, rfl, rfl⟩)
  ·rcases q8 with ⟨⟩ | q2
   ·rintro _ _ _ ⟨rfl, rfl, rfl⟩
    refine inB_here ?_
    refine au 5 ?_
    cases some_i H
    exact ⟨trivial, _, (.tmp _ _ _ _ rfl .nil), (.cl _ rfl)⟩
   ·rintro _ fr1 σ1 ⟨rfl, hr⟩
    refine inB_ret (thn_ret ?_)
    cases some_i H
    exact hr
theorem en_7 : En Try.prog 7 := .of Try.func7 rfl rfl
theorem eqT_35 : ∀ a b : T_impl_Reach, EqT Try.prog true 10000 35 [] 0 (c_T_impl_Reach false a) (c_T_impl_Reach false b) (a == b) := fun a b => .struct rfl (by kernel_rfl) (.cons (c := [.str a.Group_]) (d := [.str b.Group_]) rfl rfl tyS_9 rfl rfl (fun _ => rfl) (fun h => Bool.noConfusion h) (fun _ => ne_struct rfl rfl) (.str rfl) (.cons (c := [.str a.Member_]) (d := [.str b.Member_]) rfl rfl tyS_9 rfl rfl (fun _ => rfl) (fun h => Bool.noConfusion h) (fun _ => ne_struct rfl rfl) (.str rfl) (.cons (c := [.int .i64 a.Steps_]) (d := [.int .i64 b.Steps_]) rfl rfl tyS_3 rfl rfl (fun _ => rfl) (fun h => Bool.noConfusion h) (fun _ => ne_struct rfl rfl) (.int rfl) .nil)))
theorem eqG_35 : Program.eqGuardType Try.prog Try.prog.depth 35 = false := by kernel_rfl
noncomputable def laws_zReach_l1 (a0 : (List T_impl_Reach)) (a1 : (List T_impl_Reach)) : Int → Option (Int ⊕ (Unit ⊕ Bool)) := fun s => match s with
  | v1 => cond (decide (v1 < (a0.length : Int))) ((idx a0 v1).bind fun e4 => (idx a1 v1).bind fun e6 => cond (!(e4 == e6)) (some (.inr (.inr false))) (some (.inl (IntKind.i64.wrap (v1 + 1))))) (some (.inr (.inl ())))
noncomputable def laws_zReach (a0 : (List T_impl_Reach)) (a1 : (List T_impl_Reach)) : Option Bool :=
  cond ((a0.length : Int) != (a1.length : Int)) (some false) ((loopO (laws_zReach_l1 a0 a1) 0).bind fun q8 => (match q8 with | .inl _ => some true | .inr q2 => some q2))
theorem laws_zReach_p (b0 : Bool) (b1 : Bool) {a0 : (List T_impl_Reach)} {a1 : (List T_impl_Reach)} {R0 : Bool} (H : laws_zReach a0 a1 = some R0) : Pure Try.prog 8 [.im b0 (a0.map (c_T_impl_Reach false)), .im b1 (a1.map (c_T_impl_Reach false))] (.bool R0) := by
 refine CallT.of_TN (n := 26) Try.func8 rfl rfl rfl rfl ?_
 refine au 8 ?_
 refine TL.st rfl rfl rfl (o_lenL (f := c_T_impl_Reach false) rfl rfl rfl) ?_
 refine TL.st rfl rfl rfl (o_move rfl rfl) ?_
 refine TL.st rfl rfl rfl (o_lenL (f := c_T_impl_Reach false) rfl rfl rfl) ?_
 refine au 2 ?_
 refine T.cH H (fun H h => ?_) (fun H h => ?_)
 ·refine au 5 ?_
  refine thn_ret ?_
  cases some_i H
  exact ⟨trivial, _, (.tmp _ _ _ _ rfl .nil), (.cl _ rfl)⟩
 ·refine au 5 ?_
  refine TL.st rfl rfl rfl (o_lenL (f := c_T_impl_Reach false) rfl rfl rfl) ?_
  refine au 3 ?_
  obtain ⟨q8, h9, H⟩ := bind_s H
  refine T.lq (fun s => match s with | v1 => [(0, .im b0 (a0.map (c_T_impl_Reach false))), (1, .im b1 (a1.map (c_T_impl_Reach false))), (12, .int .i64 (a0.length : Int)), (13, .int .i64 v1)]) (fun s => match s with | v1 => []) (fun q ex fr σ => match q with | .inl _ => ex = .exit 0 ∧ fr = [] ∧ σ = [] | .inr q2 => ex = .ret ∧ RetN Try.prog [.tmp 4] (fun v τ => Told τ v (.bool q2)) .ret fr σ) h9 ?_ ?_
  ·rintro v1 y3 H
   refine au 5 ?_
   refine T.cH H (fun H h => ?_) (fun H h => ?_)
   ·refine au 9 ?_
    refine T.drawn rfl ?_
    refine ad 2 ?_
    obtain ⟨e4, h5, H⟩ := bind_s H
    refine TD.qs rfl rfl (fun _ => o_ix (f := c_T_impl_Reach false) rfl rfl tyS_35 rfl rfl h5 rfl) ?_
    refine TD.qs rfl rfl (fun _ => o_loadRf rfl tyS_35 rfl (nb rfl) rfl) ?_
    refine ad 2 ?_
    obtain ⟨e6, h7, H⟩ := bind_s H
    refine TD.qs rfl rfl (fun _ => o_ix (f := c_T_impl_Reach false) rfl rfl tyS_35 rfl rfl h7 rfl) ?_
    refine TD.qs rfl rfl (fun _ => o_loadRf rfl tyS_35 rfl (nb rfl) rfl) ?_
    refine TD.qs rfl rfl (fun _ => o_neA rfl rfl eqG_35 rfl rfl rfl rfl (eqT_35 e4 e6)) ?_
    refine TD.nil ⟨rfl, ?_⟩
    refine thn_normal ?_
    refine T.cH H (fun H h => ?_) (fun H h => ?_)
    ·refine au 5 ?_
     refine inB_ret (thn_ret ?_)
     exact Pk.id (thn_ret ⟨.inr false, (some_i H).symm, rfl, ⟨trivial, _, (.tmp _ _ _ _ rfl .nil), (.cl _ rfl)⟩⟩)
    ·refine au 5 ?_
     exact Pk.of (thn_normal ⟨(IntKind.i64.wrap (v1 + 1)), (some_i H).symm, rfl, rfl⟩)
   ·refine T.exit ?_
    refine thn_exit ?_
    exact Pk.of (thn_exit ⟨.inl (), (some_i H).symm, rfl, rfl, rfl⟩)
  ·rcases q8 with ⟨⟩ | q2
   ·rintro _ _ _ ⟨rfl, rfl, rfl⟩
    refine inB_here ?_
    refine au 5 ?_
    cases some_i H
    exact ⟨trivial, _, (.tmp _ _ _ _ rfl .nil), (.cl _ rfl)⟩
   ·rintro _ fr1 σ1 ⟨rfl, hr⟩
    refine inB_ret (thn_ret ?_)
    cases some_i H
    exact hr
theorem en_8 : En Try.prog 8 := .of Try.func8 rfl rfl
noncomputable def impl_DropNest_1 (a0 : T_impl_Nest) (s0 : T_impl_Nest) : Option Bool :=
  some (a0 == s0)
theorem impl_DropNest_1_p  {a0 : T_impl_Nest} {s0 : T_impl_Nest} {R0 : Bool} (H : impl_DropNest_1 a0 s0 = some R0) : St Try.prog 30 [.agg (c_T_impl_Nest false a0), .bx 0 0] [.box (c_T_impl_Nest false s0)] (.bool R0) [.box (c_T_impl_Nest false s0)] := by
 refine CallT.fin (CallT.of_TN (n := 7) Try.func30 rfl rfl rfl rfl ?_) rfl rfl ⟨(bels_iff.1 rfl), trivial⟩
 refine au 9 ?_
 refine TL.st rfl rfl rfl (o_eqA rfl rfl eqG_26 rfl rfl rfl rfl (eqT_26 a0 s0)) ?_
 refine au 3 ?_
 cases some_i H
 exact ⟨trivial, _, (.tmp _ _ _ _ rfl .nil), ⟨rfl, _, rfl⟩⟩
theorem en_30 : En Try.prog 30 := .of Try.func30 rfl rfl
theorem en_53 : En Try.prog 53 := .of Try.func53 rfl rfl
noncomputable def impl_Nest_xxxxx_l1 (s0 : List T_impl_Nest) (s1 : T_impl_Nest) : Int → Option (Int ⊕ (Unit ⊕ Int)) := fun s => match s with
  | v1 => cond (decide (v1 < (s0.length : Int))) ((idx s0 v1).bind fun e4 => (impl_DropNest_1 e4 s1).bind fun r6 => cond r6 (some (.inr (.inr v1))) (some (.inl (IntKind.i64.wrap (v1 + 1))))) (some (.inr (.inl ())))
noncomputable def impl_Nest_xxxxx (s0 : List T_impl_Nest) (s1 : T_impl_Nest) : Option Int :=
  (loopO (impl_Nest_xxxxx_l1 s0 s1) 0).bind fun q8 => (match q8 with | .inl _ => some (-1) | .inr q2 => some q2)
theorem impl_Nest_xxxxx_p  {s0 : List T_impl_Nest} {s1 : T_impl_Nest} {R0 : Int} (H : impl_Nest_xxxxx s0 s1 = some R0) : St Try.prog 53 [.hd 0 (s0.map (c_T_impl_Nest false)).length 0 (s0.map (c_T_impl_Nest false)).length, .fn 30 [] [.bx 1 0]] [.arr .clo 2 (s0.map (c_T_impl_Nest false)), .box (c_T_impl_Nest false s1)] (.int .i64 R0) [.arr .clo 2 (s0.map (c_T_impl_Nest false)), .box (c_T_impl_Nest false s1)] := by
 refine CallT.fin (CallT.of_TN (n := 19) Try.func53 rfl rfl rfl rfl ?_) rfl rfl ⟨trivial, ⟨(bels_iff.1 rfl), trivial⟩⟩
 refine au 8 ?_
 refine TL.st rfl rfl rfl (o_lenOwn (f := c_T_impl_Nest false) rfl rfl rfl rfl rfl) ?_
 refine au 3 ?_
 obtain ⟨q8, h9, H⟩ := bind_s H
 refine T.lq (fun s => match s with | v1 => [(0, .hd 0 (s0.map (c_T_impl_Nest false)).length 0 (s0.map (c_T_impl_Nest false)).length), (1, .fn 30 [] [.bx 1 0]), (7, .int .i64 (s0.length : Int)), (8, .int .i64 v1)]) (fun s => match s with | v1 => [.arr .clo 2 (s0.map (c_T_impl_Nest false)), .box (c_T_impl_Nest false s1)]) (fun q ex fr σ => match q with | .inl _ => ex = .exit 0 ∧ fr = [] ∧ σ = [.arr .clo 2 (s0.map (c_T_impl_Nest false)), .box (c_T_impl_Nest false s1)] | .inr q2 => ex = .ret ∧ RetN Try.prog [.tmp 4] (Fin [.arr .clo 2 (s0.map (c_T_impl_Nest false)), .box (c_T_impl_Nest false s1)] (.int .i64 q2)) .ret fr σ) h9 ?_ ?_
 ·rintro v1 y3 H
  refine au 5 ?_
  refine T.cH H (fun H h => ?_) (fun H h => ?_)
  ·refine au 13 ?_
   obtain ⟨e4, h5, H⟩ := bind_s H
   refine TL.st rfl rfl rfl (o_ixh (f := c_T_impl_Nest false) rfl rfl tyS_26 rfl rfl rfl rfl h5 rfl) ?_
   refine TL.st rfl rfl rfl (o_loadEl rfl tyS_26 rfl rfl rfl (by rw [List.getElem?_map, (idx_s h5).2]; rfl) (nb rfl) rfl) ?_
   obtain ⟨r6, h7, H⟩ := bind_s H
   refine TL.st rfl rfl rfl (o_callS [1] rfl en_30 rfl rfl (impl_DropNest_1_p  h7) rfl (by decide) (.cons _ _ _ _ rfl .nil) rfl rfl rfl) ?_
   refine TL.nil ?_
   refine T.cH H (fun H h => ?_) (fun H h => ?_)
   ·refine au 6 ?_
    refine inB_ret (thn_ret ?_)
    exact Pk.id (thn_ret ⟨.inr v1, (some_i H).symm, rfl, ⟨trivial, _, (.tmp _ _ _ _ rfl .nil), ⟨rfl, _, rfl⟩⟩⟩)
   ·refine au 5 ?_
    exact Pk.of (thn_normal ⟨(IntKind.i64.wrap (v1 + 1)), (some_i H).symm, rfl, rfl⟩)
  ·refine T.exit ?_
   refine thn_exit ?_
   exact Pk.of (thn_exit ⟨.inl (), (some_i H).symm, rfl, rfl, rfl⟩)
 ·rcases q8 with ⟨⟩ | q2
  ·rintro _ _ _ ⟨rfl, rfl, rfl⟩
   refine inB_here ?_
   refine au 5 ?_
   cases some_i H
   exact ⟨trivial, _, (.tmp _ _ _ _ rfl .nil), ⟨rfl, _, rfl⟩⟩
  ·rintro _ fr1 σ1 ⟨rfl, hr⟩
   refine inB_ret (thn_ret ?_)
   cases some_i H
   exact hr
noncomputable def impl_Nest_xxxx_j1 (v5 : Int) (l13 : List T_impl_Nest) (v14 : Int) : Option ((List T_impl_Nest × Int × Int) ⊕ (List T_impl_Nest × Int)) :=
  some (.inl (l13, v14, (IntKind.i64.wrap (v5 + 1))))
noncomputable def impl_Nest_xxxx_l1 (s1 : T_impl_Nest) : (List T_impl_Nest × Int × Int) → Option ((List T_impl_Nest × Int × Int) ⊕ (List T_impl_Nest × Int)) := fun s => match s with
  | (l3, v4, v5) => cond (decide (v5 < (l3.length : Int))) ((idx l3 v5).bind fun e15 => (impl_DropNest_1 e15 s1).bind fun r17 => cond (!r17) ((idx l3 v4).bind fun e19 => impl_Nest_xxxx_j1 v5 (l3.set (Int.toNat v4) e15) (IntKind.i64.wrap (v4 + 1))) (impl_Nest_xxxx_j1 v5 l3 v4)) (some (.inr (l3, v4)))
noncomputable def impl_Nest_xxxx (s0 : List T_impl_Nest) (s1 : T_impl_Nest) : Option (List T_impl_Nest) :=
  (impl_Nest_xxxxx s0 s1).bind fun r1 => cond (r1 == (-1)) (some s0) ((loopO (impl_Nest_xxxx_l1 s1) (s0, r1, (IntKind.i64.wrap (r1 + 1)))).bind fun q21 => (match q21 with | (l6, v7) => (sub l6 v7 (l6.length : Int)).bind fun l8 => (sub (clearP (⟨e0, e0⟩ : T_impl_Nest) l6 v7 (l6.length : Int)) 0 v7).bind fun l10 => some l10))
theorem impl_Nest_xxxx_o  {s0 : List T_impl_Nest} {s1 : T_impl_Nest} {R0 : (List T_impl_Nest)} (H : impl_Nest_xxxx s0 s1 = some R0) : St Try.prog 29 [.hd 0 (s0.map (c_T_impl_Nest false)).length 0 (s0.map (c_T_impl_Nest false)).length, .fn 30 [] [.bx 1 0]] [.arr .clo 2 (s0.map (c_T_impl_Nest false)), .box (c_T_impl_Nest false s1)] (.hd 3 (R0.map (c_T_impl_Nest false)).length 0 (R0.map (c_T_impl_Nest false)).length) [.dead, .box (c_T_impl_Nest false s1), .dead, .arr .clo 2 (R0.map (c_T_impl_Nest false))] := by
 refine CallT.finR (CallT.of_TN (n := 42) Try.func29 rfl rfl rfl rfl ?_) rfl rfl ⟨trivial, ⟨(bels_iff.1 rfl), ⟨trivial, ⟨trivial, trivial⟩⟩⟩⟩
 refine T.conv (Cs.fresh 0 rfl rfl (by decide) rfl (nomS_all rfl rfl)) ?_
 refine T.conv Cs.pushDead ?_
 refine T.conv (Cs.wkF (M := 4) (.k 0 rfl rfl (.k 1 rfl rfl .nil))) ?_
 refine T.conv (Cs.eqS (σ' := [.dead, .box (c_T_impl_Nest false s1), .arr .clo 2 (s0.map (c_T_impl_Nest false)), .dead]) rfl) ?_
 refine au 8 ?_
 obtain ⟨r1, h2, H⟩ := bind_s H
 refine TL.st rfl rfl rfl (o_callS [2, 1] rfl en_53 rfl rfl (impl_Nest_xxxxx_p  h2) rfl (by decide) (.cons _ _ _ _ rfl (.cons _ _ _ _ rfl .nil)) rfl rfl rfl) ?_
 refine au 8 ?_
 refine T.cH H (fun H h => ?_) (fun H h => ?_)
 ·refine au 5 ?_
  refine T.conv (Cs.wkF (M := 4) (.k 4 rfl rfl .nil)) ?_
  refine T.conv (Cs.reloc 3 2 rfl rfl (by decide) rfl rfl rfl (nomS_get rfl)) ?_
  refine T.conv (Cs.wkF (M := 4) (.k 4 rfl rfl .nil)) ?_
  refine T.conv (Cs.eqS (σ' := [_, _, .dead, .arr .clo 2 (s0.map (c_T_impl_Nest false))]) rfl) ?_
  refine T.ret ?_
  refine thn_ret ?_
  cases some_i H
  exact ⟨trivial, _, (.tmp _ _ _ _ rfl .nil), ⟨rfl, _, rfl⟩⟩
 ·refine au 9 ?_
  obtain ⟨q21, h22, H⟩ := bind_s H
  refine T.lq (fun s => match s with | (l3, v4, v5) => [(0, .hd 2 (l3.map (c_T_impl_Nest false)).length 0 (l3.map (c_T_impl_Nest false)).length), (1, .fn 30 [] [.bx 1 0]), (5, .int .i64 v4), (6, .int .i64 v5)]) (fun s => match s with | (l3, v4, v5) => [.dead, .box (c_T_impl_Nest false s1), .arr .clo 2 (l3.map (c_T_impl_Nest false)), .dead]) (fun q ex fr σ => match q with | (l6, v7) => ex = .exit 0 ∧ fr = [(0, .hd 2 (l6.map (c_T_impl_Nest false)).length 0 (l6.map (c_T_impl_Nest false)).length), (5, .int .i64 v7)] ∧ σ = [.dead, .box (c_T_impl_Nest false s1), .arr .clo 2 (l6.map (c_T_impl_Nest false)), .dead]) h22 ?_ ?_
  ·rintro ⟨l3, v4, v5⟩ y12 H
   refine au 5 ?_
   refine TL.st rfl rfl rfl (o_lenOwn (f := c_T_impl_Nest false) rfl rfl rfl rfl rfl) ?_
   refine au 2 ?_
   refine T.cH H (fun H h => ?_) (fun H h => ?_)
   ·refine T.skip ?_
    refine T.cut (fun fr' σ' => ∃ (l13 : List T_impl_Nest) (v14 : Int), fr' = [(0, .hd 2 (l13.map (c_T_impl_Nest false)).length 0 (l13.map (c_T_impl_Nest false)).length), (1, .fn 30 [] [.bx 1 0]), (5, .int .i64 v14), (6, .int .i64 v5)] ∧ σ' = [.dead, .box (c_T_impl_Nest false s1), .arr .clo 2 (l13.map (c_T_impl_Nest false)), .dead] ∧ impl_Nest_xxxx_j1 v5 l13 v14 = some y12) (T.pk ?_) ?_
    ·skip
     refine au 5 ?_
     obtain ⟨e15, h16, H⟩ := bind_s H
     refine TL.st rfl rfl rfl (o_ixh (f := c_T_impl_Nest false) rfl rfl tyS_26 rfl rfl rfl rfl h16 rfl) ?_
     refine TL.st rfl rfl rfl (o_loadEl rfl tyS_26 rfl rfl rfl (by rw [List.getElem?_map, (idx_s h16).2]; rfl) (nb rfl) rfl) ?_
     refine au 7 ?_
     obtain ⟨r17, h18, H⟩ := bind_s H
     refine TL.st rfl rfl rfl (o_callS [1] rfl en_30 rfl rfl (impl_DropNest_1_p  h18) rfl (by decide) (.cons _ _ _ _ rfl .nil) rfl rfl rfl) ?_
     refine au 2 ?_
     refine T.conv (Cs.eqS (σ' := [_, _, _, _, .box (c_T_impl_Nest false e15)]) rfl) ?_
     refine T.cH H (fun H h => ?_) (fun H h => ?_)
     ·refine au 5 ?_
      obtain ⟨e19, h20, H⟩ := bind_s H
      refine TL.st rfl rfl rfl (o_ixh (f := c_T_impl_Nest false) rfl rfl tyS_26 rfl rfl rfl rfl h20 rfl) ?_
      refine TL.sn rfl rfl (o_stEl (f := c_T_impl_Nest false) (xs := l3) (k := v4) (a := e19) e15 rfl tyS_26 rfl rfl rfl rfl (by decide) h20 rfl rfl rfl (fun _ => rfl) rfl) ?_
      refine TL.conv (Cs.eqV (t := 0) (v' := .hd 2 ((l3.set (Int.toNat v4) e15).map (c_T_impl_Nest false)).length 0 ((l3.set (Int.toNat v4) e15).map (c_T_impl_Nest false)).length) rfl (hd_len _ (List.length_set ..))) ?_
      refine TL.conv (Cs.eqV (t := 17) (v' := .hd 2 ((l3.set (Int.toNat v4) e15).map (c_T_impl_Nest false)).length 0 ((l3.set (Int.toNat v4) e15).map (c_T_impl_Nest false)).length) rfl (hd_len _ (List.length_set ..))) ?_
      refine TL.conv (Cs.eqV (t := 22) (v' := .hd 2 ((l3.set (Int.toNat v4) e15).map (c_T_impl_Nest false)).length 0 ((l3.set (Int.toNat v4) e15).map (c_T_impl_Nest false)).length) rfl (hd_len _ (List.length_set ..))) ?_
      refine TL.conv (Cs.eqV (t := 30) (v' := .hd 2 ((l3.set (Int.toNat v4) e15).map (c_T_impl_Nest false)).length 0 ((l3.set (Int.toNat v4) e15).map (c_T_impl_Nest false)).length) rfl (hd_len _ (List.length_set ..))) ?_
      refine TL.conv (Cs.eqV (t := 33) (v' := .el 2 ((l3.set (Int.toNat v4) e15).map (c_T_impl_Nest false)).length (Int.toNat v4) 0) rfl (el_len _ _ _ (List.length_set ..))) ?_
      refine au 6 ?_
      refine inB_normal ?_
      exact Pk.of (thn_normal ⟨(l3.set (Int.toNat v4) e15), (IntKind.i64.wrap (v4 + 1)), rfl, rfl, H⟩)
     ·refine T.skip ?_
      refine inB_normal ?_
      exact Pk.of (thn_normal ⟨l3, v4, rfl, rfl, H⟩)
    ·rintro _ _ ⟨l13, v14, rfl, rfl, H⟩
     refine au 5 ?_
     exact Pk.of (thn_normal ⟨(l13, v14, (IntKind.i64.wrap (v5 + 1))), (some_i H).symm, rfl, rfl⟩)
   ·refine T.exit ?_
    refine thn_exit ?_
    exact Pk.of (thn_exit ⟨(l3, v4), (some_i H).symm, rfl, rfl, rfl⟩)
  ·rcases q21 with ⟨l6, v7⟩
   rintro _ _ _ ⟨rfl, rfl, rfl⟩
   refine inB_here ?_
   refine au 4 ?_
   obtain ⟨l8, h9, H⟩ := bind_s H
   refine TL.st rfl rfl rfl (o_subHd (f := c_T_impl_Nest false) (xs := l6) rfl rfl tyS_26 rfl rfl rfl rfl rfl h9) ?_
   refine TL.sn rfl rfl (o_clearHp (f := c_T_impl_Nest false) (z := (⟨e0, e0⟩ : T_impl_Nest)) (xs := l6) rfl rfl ⟨_, rfl, rfl⟩ rfl rfl rfl rfl) ?_
   refine TL.conv (Cs.eqV (t := 0) (v' := .hd 2 ((clearP (⟨e0, e0⟩ : T_impl_Nest) l6 v7 (l6.length : Int)).map (c_T_impl_Nest false)).length 0 ((clearP (⟨e0, e0⟩ : T_impl_Nest) l6 v7 (l6.length : Int)).map (c_T_impl_Nest false)).length) rfl (hd_len _ (clearP_lenS h9))) ?_
   refine TL.conv (Cs.eqV (t := 36) (v' := .hd 2 ((clearP (⟨e0, e0⟩ : T_impl_Nest) l6 v7 (l6.length : Int)).map (c_T_impl_Nest false)).length 0 ((clearP (⟨e0, e0⟩ : T_impl_Nest) l6 v7 (l6.length : Int)).map (c_T_impl_Nest false)).length) rfl (hd_len _ (clearP_lenS h9))) ?_
   refine TL.conv (Cs.eqV (t := 38) (v' := .hd 2 ((clearP (⟨e0, e0⟩ : T_impl_Nest) l6 v7 (l6.length : Int)).map (c_T_impl_Nest false)).length (Int.toNat v7) (Int.toNat ((l6.length : Int) - v7))) rfl (hp_len _ _ _ (clearP_lenS h9))) ?_
   refine au 5 ?_
   obtain ⟨l10, h11, H⟩ := bind_s H
   refine TL.st rfl rfl rfl (o_subHd (f := c_T_impl_Nest false) (xs := (clearP (⟨e0, e0⟩ : T_impl_Nest) l6 v7 (l6.length : Int))) rfl rfl tyS_26 rfl rfl rfl rfl rfl h11) ?_
   refine au 2 ?_
   refine T.conv (Cs.cut (t := 4) rfl rfl rfl rfl h11) ?_
   refine T.conv (Cs.wkF (M := 5) (.k 4 rfl rfl .nil)) ?_
   refine T.conv (Cs.reloc 3 4 rfl rfl (by decide) rfl rfl rfl (nomS_get rfl)) ?_
   refine T.conv (Cs.wkF (M := 5) (.k 4 rfl rfl .nil)) ?_
   refine T.conv (Cs.eqS (σ' := [_, _, .dead, .arr .clo 2 (l10.map (c_T_impl_Nest false)), .dead]) rfl) ?_
   refine T.ret ?_
   cases some_i H
   exact ⟨trivial, _, (.tmp _ _ _ _ rfl .nil), ⟨rfl, _, rfl⟩⟩
theorem en_29 : En Try.prog 29 := .of Try.func29 rfl rfl
noncomputable def impl_DropNest (a0 : (List T_impl_Nest)) (a1 : (List T_impl_Reach)) (a2 : T_impl_Nest) : Option ((List T_impl_Nest) × (List T_impl_Reach)) :=
  (impl_GoodNests a0).bind fun r1 => (gdO (!(!r1)) (impl_ygoodNest a2)).bind fun r3 => cond ((!r1) || (!r3)) (some (([] : List T_impl_Nest), ([] : List T_impl_Reach))) ((impl_Nest_x a0).bind fun r5 => (impl_Nest_xxxx r5 a2).bind fun r7 => (RcAnc.reach r7).bind fun r9 => some (r7, r9))
theorem impl_DropNest_p (b0 : Bool) (b1 : Bool) {a0 : (List T_impl_Nest)} {a1 : (List T_impl_Reach)} {a2 : T_impl_Nest} {R0 : (List T_impl_Nest)} {R1 : (List T_impl_Reach)} (H : impl_DropNest a0 a1 a2 = some (R0, R1)) : Pure Try.prog 9 [.im b0 (a0.map (c_T_impl_Nest false)), .im b1 (a1.map (c_T_impl_Reach false)), .agg (c_T_impl_Nest false a2)] (.tup [.im false (R0.map (c_T_impl_Nest false)), .im false (R1.map (c_T_impl_Reach false))]) := by
 refine CallT.of_TN (n := 24) Try.func9 rfl rfl rfl rfl ?_
 refine au 10 ?_
 obtain ⟨r1, h2, H⟩ := bind_s H
 refine TL.st rfl rfl rfl (o_callP rfl en_21 rfl rfl (.cons _ _ _ _ (.imv _ _) .nil) (impl_GoodNests_p b0 h2)) ?_
 refine au 2 ?_
 refine TL.gcq rfl rfl rfl (.bool _) rfl rfl (fun h => o_loadBx rfl tyS_26 rfl rfl (nb rfl) rfl) ?_
 obtain ⟨r3, h4, H⟩ := bind_s H
 refine TL.gcq rfl rfl rfl (.bool _) rfl rfl (fun h => o_callP rfl en_22 rfl (evl_1 (gv h rfl)) (.cons _ _ _ _ (.cl _ rfl) .nil) (impl_ygoodNest_p  (gdO_t h4 h))) ?_
 refine au 3 ?_
 refine T.cH H (fun H h => ?_) (fun H h => ?_)
 ·refine au 6 ?_
  refine thn_ret ?_
  cases some_i H
  exact ⟨trivial, _, (.tmp _ _ _ _ rfl (.tmp _ _ _ _ rfl .nil)), (.tupL (.cons _ _ _ _ .nil (.cons _ _ _ _ .nil .nil)))⟩
 ·refine au 4 ?_
  obtain ⟨r5, h6, H⟩ := bind_s H
  refine TL.st rfl rfl rfl (o_callOwn rfl en_23 rfl rfl (.cons _ _ _ _ (.imv _ _) .nil) (impl_Nest_x_o b0 h6)) ?_
  refine TL.st rfl rfl rfl (o_makeFunc rfl rfl rfl) ?_
  obtain ⟨r7, h8, H⟩ := bind_s H
  refine TL.st rfl rfl rfl (o_callS [1, 0] rfl en_29 rfl rfl (impl_Nest_xxxx_o  h8) rfl (by decide) (.cons _ _ _ _ rfl (.cons _ _ _ _ rfl .nil)) rfl rfl rfl) ?_
  refine au 3 ?_
  refine T.conv (Cs.eqS (σ' := [.box (c_T_impl_Nest false a2), .dead, .dead, .arr .clo 2 (r7.map (c_T_impl_Nest false))]) rfl) ?_
  refine au 3 ?_
  obtain ⟨r9, h10, H⟩ := bind_s H
  refine TL.st rfl rfl rfl (o_callP rfl en_27 rfl rfl (.cons _ _ _ _ (.own rfl (by decide) rfl) .nil) (RcAnc.lib_27 true h10)) ?_
  refine au 4 ?_
  cases some_i H
  exact ⟨trivial, _, (.tmp _ _ _ _ rfl (.tmp _ _ _ _ rfl .nil)), (.tupL (.cons _ _ _ _ (.own rfl (by decide) rfl) (.cons _ _ _ _ (.cl _ rfl) .nil)))⟩
theorem en_9 : En Try.prog 9 := .of Try.func9 rfl rfl
theorem en_11 : En Try.prog 11 := .of Try.func11 rfl rfl
noncomputable def spec_HasNest_l1 (a0 : (List T_impl_Nest)) (a1 : T_impl_Nest) : Int → Option (Int ⊕ (Unit ⊕ Bool)) := fun s => match s with
  | v1 => cond (decide (v1 < (a0.length : Int))) ((idx a0 v1).bind fun e4 => cond (e4 == a1) (some (.inr (.inr true))) (some (.inl (IntKind.i64.wrap (v1 + 1))))) (some (.inr (.inl ())))
noncomputable def spec_HasNest (a0 : (List T_impl_Nest)) (a1 : T_impl_Nest) : Option Bool :=
  (loopO (spec_HasNest_l1 a0 a1) 0).bind fun q6 => (match q6 with | .inl _ => some false | .inr q2 => some q2)
theorem spec_HasNest_p (b0 : Bool) {a0 : (List T_impl_Nest)} {a1 : T_impl_Nest} {R0 : Bool} (H : spec_HasNest a0 a1 = some R0) : Pure Try.prog 12 [.im b0 (a0.map (c_T_impl_Nest false)), .agg (c_T_impl_Nest false a1)] (.bool R0) := by
 refine CallT.of_TN (n := 17) Try.func12 rfl rfl rfl rfl ?_
 refine au 9 ?_
 refine TL.st rfl rfl rfl (o_lenL (f := c_T_impl_Nest false) rfl rfl rfl) ?_
 refine au 3 ?_
 obtain ⟨q6, h7, H⟩ := bind_s H
 refine T.lq (fun s => match s with | v1 => [(3, .bx 0 0), (7, .im b0 (a0.map (c_T_impl_Nest false))), (8, .int .i64 (a0.length : Int)), (9, .int .i64 v1)]) (fun s => match s with | v1 => [.box (c_T_impl_Nest false a1)]) (fun q ex fr σ => match q with | .inl _ => ex = .exit 0 ∧ fr = [] ∧ σ = [.box (c_T_impl_Nest false a1)] | .inr q2 => ex = .ret ∧ RetN Try.prog [.tmp 4] (fun v τ => Told τ v (.bool q2)) .ret fr σ) h7 ?_ ?_
 ·rintro v1 y3 H
  refine au 5 ?_
  refine T.cH H (fun H h => ?_) (fun H h => ?_)
  ·refine au 5 ?_
   obtain ⟨e4, h5, H⟩ := bind_s H
   refine TL.st rfl rfl rfl (o_ix (f := c_T_impl_Nest false) rfl rfl tyS_26 rfl rfl h5 rfl) ?_
   refine au 8 ?_
   refine TL.st rfl rfl rfl (o_eqA rfl rfl eqG_26 rfl rfl rfl rfl (eqT_26 e4 a1)) ?_
   refine TL.nil ?_
   refine T.cH H (fun H h => ?_) (fun H h => ?_)
   ·refine au 5 ?_
    refine inB_ret (thn_ret ?_)
    exact Pk.id (thn_ret ⟨.inr true, (some_i H).symm, rfl, ⟨trivial, _, (.tmp _ _ _ _ rfl .nil), (.cl _ rfl)⟩⟩)
   ·refine au 5 ?_
    exact Pk.of (thn_normal ⟨(IntKind.i64.wrap (v1 + 1)), (some_i H).symm, rfl, rfl⟩)
  ·refine T.exit ?_
   refine thn_exit ?_
   exact Pk.of (thn_exit ⟨.inl (), (some_i H).symm, rfl, rfl, rfl⟩)
 ·rcases q6 with ⟨⟩ | q2
  ·rintro _ _ _ ⟨rfl, rfl, rfl⟩
   refine inB_here ?_
   refine au 5 ?_
   cases some_i H
   exact ⟨trivial, _, (.tmp _ _ _ _ rfl .nil), (.cl _ rfl)⟩
  ·rintro _ fr1 σ1 ⟨rfl, hr⟩
   refine inB_ret (thn_ret ?_)
   cases some_i H
   exact hr
theorem en_12 : En Try.prog 12 := .of Try.func12 rfl rfl
noncomputable def spec_IsGroup (a0 : ByteArray) : Option Bool :=
  (spec_l5Group a0).bind fun r1 => some r1
theorem spec_IsGroup_p  {a0 : ByteArray} {R0 : Bool} (H : spec_IsGroup a0 = some R0) : Pure Try.prog 13 [.str a0] (.bool R0) := by
 refine CallT.of_TN (n := 5) Try.func13 rfl rfl rfl rfl ?_
 refine au 7 ?_
 obtain ⟨r1, h2, H⟩ := bind_s H
 refine TL.st rfl rfl rfl (o_callP rfl en_34 rfl rfl (.cons _ _ _ _ (.cl _ rfl) .nil) (spec_l5Group_p  h2)) ?_
 refine au 3 ?_
 cases some_i H
 exact ⟨trivial, _, (.tmp _ _ _ _ rfl .nil), (.cl _ rfl)⟩
theorem en_13 : En Try.prog 13 := .of Try.func13 rfl rfl
noncomputable def impl_ReachOf (a0 : (List T_impl_Nest)) : Option (List T_impl_Reach) :=
  (impl_GoodNests a0).bind fun r1 => cond (!r1) (some ([] : List T_impl_Reach)) ((RcAnc.reach a0).bind fun r3 => some r3)
theorem impl_ReachOf_p (b0 : Bool) {a0 : (List T_impl_Nest)} {R0 : (List T_impl_Reach)} (H : impl_ReachOf a0 = some R0) : Pure Try.prog 36 [.im b0 (a0.map (c_T_impl_Nest false))] (.im false (R0.map (c_T_impl_Reach false))) := by
 refine CallT.of_TN (n := 8) Try.func36 rfl rfl rfl rfl ?_
 refine au 8 ?_
 obtain ⟨r1, h2, H⟩ := bind_s H
 refine TL.st rfl rfl rfl (o_callP rfl en_21 rfl rfl (.cons _ _ _ _ (.imv _ _) .nil) (impl_GoodNests_p b0 h2)) ?_
 refine au 2 ?_
 refine T.cH H (fun H h => ?_) (fun H h => ?_)
 ·refine au 5 ?_
  refine thn_ret ?_
  cases some_i H
  exact ⟨trivial, _, (.tmp _ _ _ _ rfl .nil), .nil⟩
 ·refine au 4 ?_
  obtain ⟨r3, h4, H⟩ := bind_s H
  refine TL.st rfl rfl rfl (o_callP rfl en_27 rfl rfl (.cons _ _ _ _ (.imv _ _) .nil) (RcAnc.lib_27 b0 h4)) ?_
  refine au 3 ?_
  cases some_i H
  exact ⟨trivial, _, (.tmp _ _ _ _ rfl .nil), (.cl _ rfl)⟩
theorem en_36 : En Try.prog 36 := .of Try.func36 rfl rfl
noncomputable def impl_MembersOf_l1 (a1 : ByteArray) (r1 : (List T_impl_Reach)) : (List ByteArray × Int) → Option ((List ByteArray × Int) ⊕ List ByteArray) := fun s => match s with
  | (l3, v4) => cond (decide (v4 < (r1.length : Int))) ((idx r1 v4).bind fun e7 => (gdO (e7.Group_.toList == a1.toList) (impl_ygroupName e7.Member_)).bind fun r9 => cond ((e7.Group_.toList == a1.toList) && (!r9)) ((app l3 ([e7.Member_] : List ByteArray)).bind fun l11 => some (.inl (l11, (IntKind.i64.wrap (v4 + 1))))) (some (.inl (l3, (IntKind.i64.wrap (v4 + 1)))))) (some (.inr l3))
noncomputable def impl_MembersOf (a0 : (List T_impl_Nest)) (a1 : ByteArray) : Option (List ByteArray) :=
  (impl_ReachOf a0).bind fun r1 => (loopO (impl_MembersOf_l1 a1 r1) (([] : List ByteArray), 0)).bind fun l5 => (match l5 with | l5 => some l5)
theorem impl_MembersOf_p (b0 : Bool) {a0 : (List T_impl_Nest)} {a1 : ByteArray} {R0 : (List ByteArray)} (H : impl_MembersOf a0 a1 = some R0) : Pure Try.prog 15 [.im b0 (a0.map (c_T_impl_Nest false)), .str a1] (.im false (R0.map (c_str))) := by
 refine CallT.of_TN (n := 32) Try.func15 rfl rfl rfl rfl ?_
 refine au 12 ?_
 obtain ⟨r1, h2, H⟩ := bind_s H
 refine TL.st rfl rfl rfl (o_callP rfl en_36 rfl rfl (.cons _ _ _ _ (.imv _ _) .nil) (impl_ReachOf_p b0 h2)) ?_
 refine TL.st rfl rfl rfl (o_lenL (f := c_T_impl_Reach false) rfl rfl rfl) ?_
 refine au 3 ?_
 refine T.conv (Cs.own (t := 5) 1 rfl (by decide)) ?_
 obtain ⟨l5, h14, H⟩ := bind_s H
 refine T.lq (fun s => match s with | (l3, v4) => [(1, .str a1), (5, .hd 0 (l3.map (c_str)).length 0 (l3.map (c_str)).length), (9, .im false (r1.map (c_T_impl_Reach false))), (10, .int .i64 (r1.length : Int)), (11, .int .i64 v4)]) (fun s => match s with | (l3, v4) => [.arr .clo 1 (l3.map (c_str))]) (fun q ex fr σ => match q with | l5 => ex = .exit 0 ∧ fr = [(5, .hd 0 (l5.map (c_str)).length 0 (l5.map (c_str)).length)] ∧ σ = [.arr .clo 1 (l5.map (c_str))]) h14 ?_ ?_
 ·rintro ⟨l3, v4⟩ y6 H
  refine au 5 ?_
  refine T.cH H (fun H h => ?_) (fun H h => ?_)
  ·refine au 5 ?_
   obtain ⟨e7, h8, H⟩ := bind_s H
   refine TL.st rfl rfl rfl (o_ix (f := c_T_impl_Reach false) rfl rfl tyS_35 rfl rfl h8 rfl) ?_
   refine au 13 ?_
   obtain ⟨r9, h10, H⟩ := bind_s H
   refine TL.gcq rfl rfl rfl (.bool _) rfl rfl (fun h => o_callP rfl en_37 rfl (evl_1 (gv h rfl)) (.cons _ _ _ _ (.cl _ rfl) .nil) (impl_ygroupName_p  (gdO_t h10 h))) ?_
   refine au 3 ?_
   refine T.cH H (fun H h => ?_) (fun H h => ?_)
   ·refine au 4 ?_
    refine TL.st rfl rfl rfl (o_sliceIm (rows := ([e7.Member_] : List ByteArray).map (c_str)) rfl rfl tyS_9 ⟨_, rfl, rfl⟩ (by decide) rfl rfl rfl rfl rfl rfl) ?_
    obtain ⟨l11, h12, H⟩ := bind_s H
    refine TL.st rfl rfl rfl (o_ap (f := c_str) (xs := l3) (ys := ([e7.Member_] : List ByteArray)) rfl rfl tyE_9 rfl rfl rfl rfl (by decide) rfl (fun _ => rfl) h12) ?_
    refine au 2 ?_
    refine T.conv (Cs.eqS (σ' := [.arr .clo 1 (l11.map (c_str)), .box (c_T_impl_Reach false e7)]) rfl) ?_
    refine au 4 ?_
    exact Pk.of (thn_normal ⟨(l11, (IntKind.i64.wrap (v4 + 1))), (some_i H).symm, rfl, rfl⟩)
   ·refine au 5 ?_
    exact Pk.of (thn_normal ⟨(l3, (IntKind.i64.wrap (v4 + 1))), (some_i H).symm, rfl, rfl⟩)
  ·refine T.exit ?_
   refine thn_exit ?_
   exact Pk.of (thn_exit ⟨l3, (some_i H).symm, rfl, rfl, rfl⟩)
 ·rintro _ _ _ ⟨rfl, rfl, rfl⟩
  refine inB_here ?_
  refine au 6 ?_
  cases some_i H
  exact ⟨trivial, _, (.tmp _ _ _ _ rfl .nil), (.own rfl (by decide) rfl)⟩
theorem en_15 : En Try.prog 15 := .of Try.func15 rfl rfl
noncomputable def spec_HasText (a0 : (List ByteArray)) (a1 : ByteArray) : Option Bool :=
  (spec_l3Has a0 a1).bind fun r1 => some r1
theorem spec_HasText_p (b0 : Bool) {a0 : (List ByteArray)} {a1 : ByteArray} {R0 : Bool} (H : spec_HasText a0 a1 = some R0) : Pure Try.prog 14 [.im b0 (a0.map (c_str)), .str a1] (.bool R0) := by
 refine CallT.of_TN (n := 8) Try.func14 rfl rfl rfl rfl ?_
 refine au 8 ?_
 obtain ⟨r1, h2, H⟩ := bind_s H
 refine TL.st rfl rfl rfl (o_callP rfl en_35 rfl rfl (.cons _ _ _ _ (.imv _ _) (.cons _ _ _ _ (.cl _ rfl) .nil)) (spec_l3Has_p b0 h2)) ?_
 refine au 3 ?_
 cases some_i H
 exact ⟨trivial, _, (.tmp _ _ _ _ rfl .nil), (.cl _ rfl)⟩
theorem en_14 : En Try.prog 14 := .of Try.func14 rfl rfl
noncomputable def impl_GroupsOf_l1 (a1 : ByteArray) (r1 : (List T_impl_Reach)) : (List ByteArray × Int) → Option ((List ByteArray × Int) ⊕ List ByteArray) := fun s => match s with
  | (l3, v4) => cond (decide (v4 < (r1.length : Int))) ((idx r1 v4).bind fun e7 => cond (e7.Member_.toList == a1.toList) ((app l3 ([e7.Group_] : List ByteArray)).bind fun l9 => some (.inl (l9, (IntKind.i64.wrap (v4 + 1))))) (some (.inl (l3, (IntKind.i64.wrap (v4 + 1)))))) (some (.inr l3))
noncomputable def impl_GroupsOf (a0 : (List T_impl_Nest)) (a1 : ByteArray) : Option (List ByteArray) :=
  (impl_ReachOf a0).bind fun r1 => (loopO (impl_GroupsOf_l1 a1 r1) (([] : List ByteArray), 0)).bind fun l5 => (match l5 with | l5 => some l5)
theorem impl_GroupsOf_p (b0 : Bool) {a0 : (List T_impl_Nest)} {a1 : ByteArray} {R0 : (List ByteArray)} (H : impl_GroupsOf a0 a1 = some R0) : Pure Try.prog 16 [.im b0 (a0.map (c_T_impl_Nest false)), .str a1] (.im false (R0.map (c_str))) := by
 refine CallT.of_TN (n := 26) Try.func16 rfl rfl rfl rfl ?_
 refine au 12 ?_
 obtain ⟨r1, h2, H⟩ := bind_s H
 refine TL.st rfl rfl rfl (o_callP rfl en_36 rfl rfl (.cons _ _ _ _ (.imv _ _) .nil) (impl_ReachOf_p b0 h2)) ?_
 refine TL.st rfl rfl rfl (o_lenL (f := c_T_impl_Reach false) rfl rfl rfl) ?_
 refine au 3 ?_
 refine T.conv (Cs.own (t := 5) 1 rfl (by decide)) ?_
 obtain ⟨l5, h12, H⟩ := bind_s H
 refine T.lq (fun s => match s with | (l3, v4) => [(1, .str a1), (5, .hd 0 (l3.map (c_str)).length 0 (l3.map (c_str)).length), (9, .im false (r1.map (c_T_impl_Reach false))), (10, .int .i64 (r1.length : Int)), (11, .int .i64 v4)]) (fun s => match s with | (l3, v4) => [.arr .clo 1 (l3.map (c_str))]) (fun q ex fr σ => match q with | l5 => ex = .exit 0 ∧ fr = [(5, .hd 0 (l5.map (c_str)).length 0 (l5.map (c_str)).length)] ∧ σ = [.arr .clo 1 (l5.map (c_str))]) h12 ?_ ?_
 ·rintro ⟨l3, v4⟩ y6 H
  refine au 5 ?_
  refine T.cH H (fun H h => ?_) (fun H h => ?_)
  ·refine au 5 ?_
   obtain ⟨e7, h8, H⟩ := bind_s H
   refine TL.st rfl rfl rfl (o_ix (f := c_T_impl_Reach false) rfl rfl tyS_35 rfl rfl h8 rfl) ?_
   refine au 11 ?_
   refine T.cH H (fun H h => ?_) (fun H h => ?_)
   ·refine au 4 ?_
    refine TL.st rfl rfl rfl (o_sliceIm (rows := ([e7.Group_] : List ByteArray).map (c_str)) rfl rfl tyS_9 ⟨_, rfl, rfl⟩ (by decide) rfl rfl rfl rfl rfl rfl) ?_
    obtain ⟨l9, h10, H⟩ := bind_s H
    refine TL.st rfl rfl rfl (o_ap (f := c_str) (xs := l3) (ys := ([e7.Group_] : List ByteArray)) rfl rfl tyE_9 rfl rfl rfl rfl (by decide) rfl (fun _ => rfl) h10) ?_
    refine au 2 ?_
    refine T.conv (Cs.eqS (σ' := [.arr .clo 1 (l9.map (c_str)), .box (c_T_impl_Reach false e7)]) rfl) ?_
    refine au 4 ?_
    exact Pk.of (thn_normal ⟨(l9, (IntKind.i64.wrap (v4 + 1))), (some_i H).symm, rfl, rfl⟩)
   ·refine au 5 ?_
    exact Pk.of (thn_normal ⟨(l3, (IntKind.i64.wrap (v4 + 1))), (some_i H).symm, rfl, rfl⟩)
  ·refine T.exit ?_
   refine thn_exit ?_
   exact Pk.of (thn_exit ⟨l3, (some_i H).symm, rfl, rfl, rfl⟩)
 ·rintro _ _ _ ⟨rfl, rfl, rfl⟩
  refine inB_here ?_
  refine au 6 ?_
  cases some_i H
  exact ⟨trivial, _, (.tmp _ _ _ _ rfl .nil), (.own rfl (by decide) rfl)⟩
theorem en_16 : En Try.prog 16 := .of Try.func16 rfl rfl
noncomputable def impl_Loops_l1 (r1 : (List T_impl_Reach)) : (List ByteArray × Int) → Option ((List ByteArray × Int) ⊕ List ByteArray) := fun s => match s with
  | (l3, v4) => cond (decide (v4 < (r1.length : Int))) ((idx r1 v4).bind fun e7 => cond (e7.Group_.toList == e7.Member_.toList) ((app l3 ([e7.Group_] : List ByteArray)).bind fun l9 => some (.inl (l9, (IntKind.i64.wrap (v4 + 1))))) (some (.inl (l3, (IntKind.i64.wrap (v4 + 1)))))) (some (.inr l3))
noncomputable def impl_Loops (a0 : (List T_impl_Nest)) : Option (List ByteArray) :=
  (impl_ReachOf a0).bind fun r1 => (loopO (impl_Loops_l1 r1) (([] : List ByteArray), 0)).bind fun l5 => (match l5 with | l5 => some l5)
theorem impl_Loops_p (b0 : Bool) {a0 : (List T_impl_Nest)} {R0 : (List ByteArray)} (H : impl_Loops a0 = some R0) : Pure Try.prog 18 [.im b0 (a0.map (c_T_impl_Nest false))] (.im false (R0.map (c_str))) := by
 refine CallT.of_TN (n := 25) Try.func18 rfl rfl rfl rfl ?_
 refine au 12 ?_
 obtain ⟨r1, h2, H⟩ := bind_s H
 refine TL.st rfl rfl rfl (o_callP rfl en_36 rfl rfl (.cons _ _ _ _ (.imv _ _) .nil) (impl_ReachOf_p b0 h2)) ?_
 refine TL.st rfl rfl rfl (o_lenL (f := c_T_impl_Reach false) rfl rfl rfl) ?_
 refine au 3 ?_
 refine T.conv (Cs.own (t := 3) 1 rfl (by decide)) ?_
 obtain ⟨l5, h12, H⟩ := bind_s H
 refine T.lq (fun s => match s with | (l3, v4) => [(3, .hd 0 (l3.map (c_str)).length 0 (l3.map (c_str)).length), (7, .im false (r1.map (c_T_impl_Reach false))), (8, .int .i64 (r1.length : Int)), (9, .int .i64 v4)]) (fun s => match s with | (l3, v4) => [.arr .clo 1 (l3.map (c_str))]) (fun q ex fr σ => match q with | l5 => ex = .exit 0 ∧ fr = [(3, .hd 0 (l5.map (c_str)).length 0 (l5.map (c_str)).length)] ∧ σ = [.arr .clo 1 (l5.map (c_str))]) h12 ?_ ?_
 ·rintro ⟨l3, v4⟩ y6 H
  refine au 5 ?_
  refine T.cH H (fun H h => ?_) (fun H h => ?_)
  ·refine au 5 ?_
   obtain ⟨e7, h8, H⟩ := bind_s H
   refine TL.st rfl rfl rfl (o_ix (f := c_T_impl_Reach false) rfl rfl tyS_35 rfl rfl h8 rfl) ?_
   refine au 12 ?_
   refine T.cH H (fun H h => ?_) (fun H h => ?_)
   ·refine au 4 ?_
    refine TL.st rfl rfl rfl (o_sliceIm (rows := ([e7.Group_] : List ByteArray).map (c_str)) rfl rfl tyS_9 ⟨_, rfl, rfl⟩ (by decide) rfl rfl rfl rfl rfl rfl) ?_
    obtain ⟨l9, h10, H⟩ := bind_s H
    refine TL.st rfl rfl rfl (o_ap (f := c_str) (xs := l3) (ys := ([e7.Group_] : List ByteArray)) rfl rfl tyE_9 rfl rfl rfl rfl (by decide) rfl (fun _ => rfl) h10) ?_
    refine au 2 ?_
    refine T.conv (Cs.eqS (σ' := [.arr .clo 1 (l9.map (c_str)), .box (c_T_impl_Reach false e7)]) rfl) ?_
    refine au 4 ?_
    exact Pk.of (thn_normal ⟨(l9, (IntKind.i64.wrap (v4 + 1))), (some_i H).symm, rfl, rfl⟩)
   ·refine au 5 ?_
    exact Pk.of (thn_normal ⟨(l3, (IntKind.i64.wrap (v4 + 1))), (some_i H).symm, rfl, rfl⟩)
  ·refine T.exit ?_
   refine thn_exit ?_
   exact Pk.of (thn_exit ⟨l3, (some_i H).symm, rfl, rfl, rfl⟩)
 ·rintro _ _ _ ⟨rfl, rfl, rfl⟩
  refine inB_here ?_
  refine au 6 ?_
  cases some_i H
  exact ⟨trivial, _, (.tmp _ _ _ _ rfl .nil), (.own rfl (by decide) rfl)⟩
theorem en_18 : En Try.prog 18 := .of Try.func18 rfl rfl
noncomputable def spec_Loops_l2 (e9 : ByteArray) (r11 : (List (List ByteArray))) : (List ByteArray × Int) → Option ((List ByteArray × Int) ⊕ List ByteArray) := fun s => match s with
  | (l13, v14) => cond (decide (v14 < (r11.length : Int))) ((idx r11 v14).bind fun e17 => (spec_l3Has e17 e9).bind fun r19 => cond r19 ((app l13 ([e9] : List ByteArray)).bind fun l21 => some (.inl (l21, (IntKind.i64.wrap (v14 + 1))))) (some (.inl (l13, (IntKind.i64.wrap (v14 + 1)))))) (some (.inr l13))
noncomputable def spec_Loops_l1 (a0 : (List T_impl_Nest)) (r3 : (List ByteArray)) : (List ByteArray × Int) → Option ((List ByteArray × Int) ⊕ List ByteArray) := fun s => match s with
  | (l5, v6) => cond (decide (v6 < (r3.length : Int))) ((idx r3 v6).bind fun e9 => (spec_l5Rings a0 e9).bind fun r11 => (loopO (spec_Loops_l2 e9 r11) (l5, 0)).bind fun l15 => (match l15 with | l15 => some (.inl (l15, (IntKind.i64.wrap (v6 + 1)))))) (some (.inr l5))
noncomputable def spec_Loops (a0 : (List T_impl_Nest)) : Option (List ByteArray) :=
  (spec_GoodNests a0).bind fun r1 => cond (!r1) (some ([] : List ByteArray)) ((spec_l5Groups a0).bind fun r3 => (loopO (spec_Loops_l1 a0 r3) (([] : List ByteArray), 0)).bind fun l7 => (match l7 with | l7 => some l7))
theorem spec_Loops_p (b0 : Bool) {a0 : (List T_impl_Nest)} {R0 : (List ByteArray)} (H : spec_Loops a0 = some R0) : Pure Try.prog 19 [.im b0 (a0.map (c_T_impl_Nest false))] (.im false (R0.map (c_str))) := by
 refine CallT.of_TN (n := 36) Try.func19 rfl rfl rfl rfl ?_
 refine au 8 ?_
 obtain ⟨r1, h2, H⟩ := bind_s H
 refine TL.st rfl rfl rfl (o_callP rfl en_31 rfl rfl (.cons _ _ _ _ (.imv _ _) .nil) (spec_GoodNests_p b0 h2)) ?_
 refine au 2 ?_
 refine T.cH H (fun H h => ?_) (fun H h => ?_)
 ·refine au 5 ?_
  refine thn_ret ?_
  cases some_i H
  exact ⟨trivial, _, (.tmp _ _ _ _ rfl .nil), .nil⟩
 ·refine au 9 ?_
  obtain ⟨r3, h4, H⟩ := bind_s H
  refine TL.st rfl rfl rfl (o_callP rfl en_38 rfl rfl (.cons _ _ _ _ (.imv _ _) .nil) (spec_l5Groups_p b0 h4)) ?_
  refine TL.st rfl rfl rfl (o_lenL (f := c_str) rfl rfl rfl) ?_
  refine au 3 ?_
  refine T.conv (Cs.own (t := 3) 1 rfl (by decide)) ?_
  obtain ⟨l7, h26, H⟩ := bind_s H
  refine T.lq (fun s => match s with | (l5, v6) => [(0, .im b0 (a0.map (c_T_impl_Nest false))), (3, .hd 0 (l5.map (c_str)).length 0 (l5.map (c_str)).length), (12, .im false (r3.map (c_str))), (13, .int .i64 (r3.length : Int)), (14, .int .i64 v6)]) (fun s => match s with | (l5, v6) => [.arr .clo 1 (l5.map (c_str))]) (fun q ex fr σ => match q with | l7 => ex = .exit 0 ∧ fr = [(3, .hd 0 (l7.map (c_str)).length 0 (l7.map (c_str)).length)] ∧ σ = [.arr .clo 1 (l7.map (c_str))]) h26 ?_ ?_
  ·rintro ⟨l5, v6⟩ y8 H
   refine au 5 ?_
   refine T.cH H (fun H h => ?_) (fun H h => ?_)
   ·refine au 5 ?_
    obtain ⟨e9, h10, H⟩ := bind_s H
    refine TL.st rfl rfl rfl (o_ix (f := c_str) rfl rfl tyS_9 rfl rfl h10 rfl) ?_
    refine au 7 ?_
    obtain ⟨r11, h12, H⟩ := bind_s H
    refine TL.st rfl rfl rfl (o_callP rfl en_39 rfl rfl (.cons _ _ _ _ (.imv _ _) (.cons _ _ _ _ (.cl _ rfl) .nil)) (spec_l5Rings_p b0 h12)) ?_
    refine TL.st rfl rfl rfl (o_lenL (f := c_sl (c_str)) rfl rfl rfl) ?_
    refine au 3 ?_
    obtain ⟨l15, h24, H⟩ := bind_s H
    refine T.lq (fun s => match s with | (l13, v14) => [(0, .im b0 (a0.map (c_T_impl_Nest false))), (3, .hd 0 (l13.map (c_str)).length 0 (l13.map (c_str)).length), (5, .str e9), (12, .im false (r3.map (c_str))), (13, .int .i64 (r3.length : Int)), (14, .int .i64 v6), (20, .im false (r11.map (c_sl (c_str)))), (21, .int .i64 (r11.length : Int)), (22, .int .i64 v14)]) (fun s => match s with | (l13, v14) => [.arr .clo 1 (l13.map (c_str))]) (fun q ex fr σ => match q with | l15 => ex = .exit 2 ∧ fr = [(0, .im b0 (a0.map (c_T_impl_Nest false))), (3, .hd 0 (l15.map (c_str)).length 0 (l15.map (c_str)).length), (12, .im false (r3.map (c_str))), (13, .int .i64 (r3.length : Int)), (14, .int .i64 v6)] ∧ σ = [.arr .clo 1 (l15.map (c_str))]) h24 ?_ ?_
    ·rintro ⟨l13, v14⟩ y16 H
     refine au 5 ?_
     refine T.cH H (fun H h => ?_) (fun H h => ?_)
     ·refine au 5 ?_
      obtain ⟨e17, h18, H⟩ := bind_s H
      refine TL.st rfl rfl rfl (o_ix (f := c_sl (c_str)) rfl rfl tyS_36 rfl rfl h18 rfl) ?_
      refine au 7 ?_
      obtain ⟨r19, h20, H⟩ := bind_s H
      refine TL.st rfl rfl rfl (o_callP rfl en_35 rfl rfl (.cons _ _ _ _ (.cl _ rfl) (.cons _ _ _ _ (.cl _ rfl) .nil)) (spec_l3Has_p false h20)) ?_
      refine TL.nil ?_
      refine T.cH H (fun H h => ?_) (fun H h => ?_)
      ·refine au 3 ?_
       refine TL.st rfl rfl rfl (o_sliceIm (rows := ([e9] : List ByteArray).map (c_str)) rfl rfl tyS_9 ⟨_, rfl, rfl⟩ (by decide) rfl rfl rfl rfl rfl rfl) ?_
       obtain ⟨l21, h22, H⟩ := bind_s H
       refine TL.st rfl rfl rfl (o_ap (f := c_str) (xs := l13) (ys := ([e9] : List ByteArray)) rfl rfl tyE_9 rfl rfl rfl rfl (by decide) rfl (fun _ => rfl) h22) ?_
       refine au 6 ?_
       exact Pk.of (thn_normal ⟨(l21, (IntKind.i64.wrap (v14 + 1))), (some_i H).symm, rfl, rfl⟩)
      ·refine au 5 ?_
       exact Pk.of (thn_normal ⟨(l13, (IntKind.i64.wrap (v14 + 1))), (some_i H).symm, rfl, rfl⟩)
     ·refine T.exit ?_
      refine thn_exit ?_
      exact Pk.of (thn_exit ⟨l13, (some_i H).symm, rfl, rfl, rfl⟩)
    ·rintro _ _ _ ⟨rfl, rfl, rfl⟩
     refine inB_here ?_
     refine au 4 ?_
     exact Pk.of (thn_normal ⟨(l15, (IntKind.i64.wrap (v6 + 1))), (some_i H).symm, rfl, rfl⟩)
   ·refine T.exit ?_
    refine thn_exit ?_
    exact Pk.of (thn_exit ⟨l5, (some_i H).symm, rfl, rfl, rfl⟩)
  ·rintro _ _ _ ⟨rfl, rfl, rfl⟩
   refine inB_here ?_
   refine au 6 ?_
   cases some_i H
   exact ⟨trivial, _, (.tmp _ _ _ _ rfl .nil), (.own rfl (by decide) rfl)⟩
theorem en_19 : En Try.prog 19 := .of Try.func19 rfl rfl
noncomputable def laws_zTexts_l1 (a0 : (List ByteArray)) (a1 : (List ByteArray)) : Int → Option (Int ⊕ (Unit ⊕ Bool)) := fun s => match s with
  | v1 => cond (decide (v1 < (a0.length : Int))) ((idx a0 v1).bind fun e4 => (idx a1 v1).bind fun e6 => cond (!(e4.toList == e6.toList)) (some (.inr (.inr false))) (some (.inl (IntKind.i64.wrap (v1 + 1))))) (some (.inr (.inl ())))
noncomputable def laws_zTexts (a0 : (List ByteArray)) (a1 : (List ByteArray)) : Option Bool :=
  cond ((a0.length : Int) != (a1.length : Int)) (some false) ((loopO (laws_zTexts_l1 a0 a1) 0).bind fun q8 => (match q8 with | .inl _ => some true | .inr q2 => some q2))
theorem laws_zTexts_p (b0 : Bool) (b1 : Bool) {a0 : (List ByteArray)} {a1 : (List ByteArray)} {R0 : Bool} (H : laws_zTexts a0 a1 = some R0) : Pure Try.prog 17 [.im b0 (a0.map (c_str)), .im b1 (a1.map (c_str))] (.bool R0) := by
 refine CallT.of_TN (n := 26) Try.func17 rfl rfl rfl rfl ?_
 refine au 8 ?_
 refine TL.st rfl rfl rfl (o_lenL (f := c_str) rfl rfl rfl) ?_
 refine TL.st rfl rfl rfl (o_move rfl rfl) ?_
 refine TL.st rfl rfl rfl (o_lenL (f := c_str) rfl rfl rfl) ?_
 refine au 2 ?_
 refine T.cH H (fun H h => ?_) (fun H h => ?_)
 ·refine au 5 ?_
  refine thn_ret ?_
  cases some_i H
  exact ⟨trivial, _, (.tmp _ _ _ _ rfl .nil), (.cl _ rfl)⟩
 ·refine au 5 ?_
  refine TL.st rfl rfl rfl (o_lenL (f := c_str) rfl rfl rfl) ?_
  refine au 3 ?_
  obtain ⟨q8, h9, H⟩ := bind_s H
  refine T.lq (fun s => match s with | v1 => [(0, .im b0 (a0.map (c_str))), (1, .im b1 (a1.map (c_str))), (12, .int .i64 (a0.length : Int)), (13, .int .i64 v1)]) (fun s => match s with | v1 => []) (fun q ex fr σ => match q with | .inl _ => ex = .exit 0 ∧ fr = [] ∧ σ = [] | .inr q2 => ex = .ret ∧ RetN Try.prog [.tmp 4] (fun v τ => Told τ v (.bool q2)) .ret fr σ) h9 ?_ ?_
  ·rintro v1 y3 H
   refine au 5 ?_
   refine T.cH H (fun H h => ?_) (fun H h => ?_)
   ·refine au 9 ?_
    refine T.drawn rfl ?_
    refine ad 2 ?_
    obtain ⟨e4, h5, H⟩ := bind_s H
    refine TD.qs rfl rfl (fun _ => o_ix (f := c_str) rfl rfl tyS_9 rfl rfl h5 rfl) ?_
    refine TD.qs rfl rfl (fun _ => o_loadRf rfl tyS_9 rfl (nb rfl) rfl) ?_
    refine ad 2 ?_
    obtain ⟨e6, h7, H⟩ := bind_s H
    refine TD.qs rfl rfl (fun _ => o_ix (f := c_str) rfl rfl tyS_9 rfl rfl h7 rfl) ?_
    refine TD.qs rfl rfl (fun _ => o_loadRf rfl tyS_9 rfl (nb rfl) rfl) ?_
    refine TD.qs rfl rfl (fun _ => o_str rfl rfl rfl rfl) ?_
    refine TD.nil ⟨rfl, ?_⟩
    refine thn_normal ?_
    refine T.cH H (fun H h => ?_) (fun H h => ?_)
    ·refine au 5 ?_
     refine inB_ret (thn_ret ?_)
     exact Pk.id (thn_ret ⟨.inr false, (some_i H).symm, rfl, ⟨trivial, _, (.tmp _ _ _ _ rfl .nil), (.cl _ rfl)⟩⟩)
    ·refine au 5 ?_
     exact Pk.of (thn_normal ⟨(IntKind.i64.wrap (v1 + 1)), (some_i H).symm, rfl, rfl⟩)
   ·refine T.exit ?_
    refine thn_exit ?_
    exact Pk.of (thn_exit ⟨.inl (), (some_i H).symm, rfl, rfl, rfl⟩)
  ·rcases q8 with ⟨⟩ | q2
   ·rintro _ _ _ ⟨rfl, rfl, rfl⟩
    refine inB_here ?_
    refine au 5 ?_
    cases some_i H
    exact ⟨trivial, _, (.tmp _ _ _ _ rfl .nil), (.cl _ rfl)⟩
   ·rintro _ fr1 σ1 ⟨rfl, hr⟩
    refine inB_ret (thn_ret ?_)
    cases some_i H
    exact hr
theorem en_17 : En Try.prog 17 := .of Try.func17 rfl rfl
noncomputable def laws_FnReached_l2 (r5 : (List T_impl_Nest)) (r35 : (List ByteArray)) : Int → Option (Int ⊕ (Unit ⊕ Bool)) := fun s => match s with
  | v41 => cond (decide (v41 < (r35.length : Int))) ((idx r35 (IntKind.i64.wrap (v41 - 1))).bind fun e54 => (idx r35 v41).bind fun e56 => (spec_HasNest r5 (⟨e54, e56⟩ : T_impl_Nest)).bind fun r58 => cond (!r58) (some (.inr (.inr false))) (some (.inl (IntKind.i64.wrap (v41 + 1))))) (some (.inr (.inl ())))
noncomputable def laws_FnReached_l1 (r5 : (List T_impl_Nest)) (r6 : (List T_impl_Reach)) : Int → Option (Int ⊕ (Unit ⊕ Bool)) := fun s => match s with
  | v24 => cond (decide (v24 < (r6.length : Int))) ((idx r6 v24).bind fun e33 => cond (v24 == 40) (some (.inr (.inl ()))) ((RcAnc.wayOf r5 e33.Group_ e33.Member_).bind fun r35 => (gdO (!((r35.length : Int) != (IntKind.i64.wrap (e33.Steps_ + 1)))) (idx r35 0)).bind fun e37 => (gdO (!(((r35.length : Int) != (IntKind.i64.wrap (e33.Steps_ + 1))) || (!(e37.toList == e33.Group_.toList)))) (idx r35 e33.Steps_)).bind fun e39 => cond ((((r35.length : Int) != (IntKind.i64.wrap (e33.Steps_ + 1))) || (!(e37.toList == e33.Group_.toList))) || (!(e39.toList == e33.Member_.toList))) (some (.inr (.inr false))) ((loopO (laws_FnReached_l2 r5 r35) 1).bind fun q60 => (match q60 with | .inl _ => (spec_IsGroup e33.Member_).bind fun r43 => (gdO (!r43) (impl_MembersOf r5 e33.Group_)).bind fun r45 => (gdO (!r43) (spec_HasText r45 e33.Member_)).bind fun r47 => (gdO ((!r43) && (!(!r47))) (impl_GroupsOf r5 e33.Member_)).bind fun r49 => (gdO ((!r43) && (!(!r47))) (spec_HasText r49 e33.Group_)).bind fun r51 => cond ((!r43) && ((!r47) || (!r51))) (some (.inr (.inr false))) (some (.inl (IntKind.i64.wrap (v24 + 1)))) | .inr q42 => some (.inr (.inr q42)))))) (some (.inr (.inl ())))
noncomputable def laws_FnReached (a0 : (List Int)) : Option Bool :=
  cond (decide ((a0.length : Int) > 1048576)) (some true) ((spec_DrawAddNest a0).bind fun q => (match q with | (r1, r2, r3) => (impl_AddNest r1 r2 r3).bind fun q => (match q with | (r5, r6) => (spec_AddNest r1 r2 r3).bind fun q => (match q with | (r8, r9) => (laws_zNests r5 r8).bind fun r11 => (gdO (!(!r11)) (laws_zReach r6 r9)).bind fun r13 => cond ((!r11) || (!r13)) (some false) (cond ((r5.length : Int) == 0) (some true) ((impl_DropNest r5 r6 r3).bind fun q => (match q with | (r15, r16) => (gdO (decide ((r5.length : Int) > (r1.length : Int))) (laws_zNests r15 r1)).bind fun r18 => (gdO (decide ((r5.length : Int) > (r1.length : Int)) && (!(!r18))) (spec_ReachOf r1)).bind fun r20 => (gdO (decide ((r5.length : Int) > (r1.length : Int)) && (!(!r18))) (laws_zReach r16 r20)).bind fun r22 => cond (decide ((r5.length : Int) > (r1.length : Int)) && ((!r18) || (!r22))) (some false) ((loopO (laws_FnReached_l1 r5 r6) 0).bind fun q62 => (match q62 with | .inl _ => (impl_Loops r5).bind fun r26 => (spec_Loops r5).bind fun r28 => (laws_zTexts r26 r28).bind fun r30 => some r30 | .inr q25 => some q25)))))))))
theorem laws_FnReached_p (b0 : Bool) {a0 : (List Int)} {R0 : Bool} (H : laws_FnReached a0 = some R0) : Pure Try.prog 3 [.im b0 (a0.map (c_int .u8))] (.bool R0) := by
 refine CallT.of_TN (n := 165) Try.func3 rfl rfl rfl rfl ?_
 refine au 8 ?_
 refine TL.st rfl rfl rfl (o_lenL (f := c_int .u8) rfl rfl rfl) ?_
 refine au 2 ?_
 refine T.cH H (fun H h => ?_) (fun H h => ?_)
 ·refine au 5 ?_
  refine thn_ret ?_
  cases some_i H
  exact ⟨trivial, _, (.tmp _ _ _ _ rfl .nil), (.cl _ rfl)⟩
 ·refine au 4 ?_
  obtain ⟨⟨r1, r2, r3⟩, h4, H⟩ := bind_s H
  refine TL.st rfl rfl rfl (o_callP rfl en_4 rfl rfl (.cons _ _ _ _ (.imv _ _) .nil) (spec_DrawAddNest_p b0 h4)) ?_
  refine au 14 ?_
  obtain ⟨⟨r5, r6⟩, h7, H⟩ := bind_s H
  refine TL.st rfl rfl rfl (o_callP rfl en_5 rfl rfl (.cons _ _ _ _ (.cl _ rfl) (.cons _ _ _ _ (.cl _ rfl) (.cons _ _ _ _ (.cl _ rfl) .nil))) (impl_AddNest_p false false h7)) ?_
  refine au 11 ?_
  obtain ⟨⟨r8, r9⟩, h10, H⟩ := bind_s H
  refine TL.st rfl rfl rfl (o_callP rfl en_6 rfl rfl (.cons _ _ _ _ (.cl _ rfl) (.cons _ _ _ _ (.cl _ rfl) (.cons _ _ _ _ (.cl _ rfl) .nil))) (spec_AddNest_p false false h10)) ?_
  refine au 11 ?_
  obtain ⟨r11, h12, H⟩ := bind_s H
  refine TL.st rfl rfl rfl (o_callP rfl en_7 rfl rfl (.cons _ _ _ _ (.cl _ rfl) (.cons _ _ _ _ (.cl _ rfl) .nil)) (laws_zNests_p false false h12)) ?_
  refine au 4 ?_
  obtain ⟨r13, h14, H⟩ := bind_s H
  refine TL.gcq rfl rfl rfl (.bool _) rfl rfl (fun h => o_callP rfl en_8 rfl (evl_2 (gv h rfl) (gv h rfl)) (.cons _ _ _ _ (.cl _ rfl) (.cons _ _ _ _ (.cl _ rfl) .nil)) (laws_zReach_p false false (gdO_t h14 h))) ?_
  refine au 3 ?_
  refine T.cH H (fun H h => ?_) (fun H h => ?_)
  ·refine au 5 ?_
   refine thn_ret ?_
   cases some_i H
   exact ⟨trivial, _, (.tmp _ _ _ _ rfl .nil), (.cl _ rfl)⟩
  ·refine au 5 ?_
   refine TL.st rfl rfl rfl (o_lenL (f := c_T_impl_Nest false) rfl rfl rfl) ?_
   refine au 2 ?_
   refine T.cH H (fun H h => ?_) (fun H h => ?_)
   ·refine au 5 ?_
    refine thn_ret ?_
    cases some_i H
    exact ⟨trivial, _, (.tmp _ _ _ _ rfl .nil), (.cl _ rfl)⟩
   ·refine au 6 ?_
    obtain ⟨⟨r15, r16⟩, h17, H⟩ := bind_s H
    refine TL.st rfl rfl rfl (o_callP rfl en_9 rfl rfl (.cons _ _ _ _ (.cl _ rfl) (.cons _ _ _ _ (.cl _ rfl) (.cons _ _ _ _ (.cl _ rfl) .nil))) (impl_DropNest_p false false h17)) ?_
    refine au 10 ?_
    refine TL.st rfl rfl rfl (o_lenL (f := c_T_impl_Nest false) rfl rfl rfl) ?_
    refine TL.st rfl rfl rfl (o_move rfl rfl) ?_
    refine TL.st rfl rfl rfl (o_lenL (f := c_T_impl_Nest false) rfl rfl rfl) ?_
    refine au 4 ?_
    obtain ⟨r18, h19, H⟩ := bind_s H
    refine TL.gcq rfl rfl rfl (.bool _) rfl rfl (fun h => o_callP rfl en_7 rfl (evl_2 (gv h rfl) (gv h rfl)) (.cons _ _ _ _ (.cl _ rfl) (.cons _ _ _ _ (.cl _ rfl) .nil)) (laws_zNests_p false false (gdO_t h19 h))) ?_
    refine TL.gcq rfl rfl rfl (.bool _) rfl rfl (fun h => o_not rfl (gv h rfl)) ?_
    refine TL.gcq rfl rfl rfl (.bool _) rfl rfl (fun h => o_move rfl (gv h rfl)) ?_
    refine TL.gcq rfl rfl rfl (.gd _ _) rfl rfl (fun h => o_move rfl rfl) ?_
    refine TL.gcq rfl rfl rfl (.gd _ _) rfl rfl (fun h => o_move rfl rfl) ?_
    obtain ⟨r20, h21, H⟩ := bind_s H
    refine TL.gcq rfl rfl rfl (.gd _ _) rfl rfl (fun h => o_callP rfl en_10 rfl (evl_1 (gv h rfl)) (.cons _ _ _ _ (.cl _ rfl) .nil) (spec_ReachOf_p false (gdO_t h21 h))) ?_
    obtain ⟨r22, h23, H⟩ := bind_s H
    refine TL.gcq rfl rfl rfl (.gd _ _) rfl rfl (fun h => o_callP rfl en_8 rfl (evl_2 (gv h rfl) (gv h rfl)) (.cons _ _ _ _ (.cl _ rfl) (.cons _ _ _ _ (.cl _ rfl) .nil)) (laws_zReach_p false false (gdO_t h23 h))) ?_
    refine TL.gcq rfl rfl rfl (.gd _ _) rfl rfl (fun h => o_not rfl (gv h rfl)) ?_
    refine TL.gcq rfl rfl rfl (.bool _) rfl rfl (fun h => o_or rfl (gv h rfl) rfl rfl (fun k => Gd_t (andi h k))) ?_
    refine au 2 ?_
    refine T.cH H (fun H h => ?_) (fun H h => ?_)
    ·refine au 5 ?_
     refine thn_ret ?_
     cases some_i H
     exact ⟨trivial, _, (.tmp _ _ _ _ rfl .nil), (.cl _ rfl)⟩
    ·refine au 5 ?_
     refine TL.st rfl rfl rfl (o_lenL (f := c_T_impl_Reach false) rfl rfl rfl) ?_
     refine au 3 ?_
     obtain ⟨q62, h63, H⟩ := bind_s H
     refine T.lq (fun s => match s with | v24 => [(6, .im false (r5.map (c_T_impl_Nest false))), (77, .im false (r6.map (c_T_impl_Reach false))), (78, .int .i64 (r6.length : Int)), (79, .int .i64 v24)]) (fun s => match s with | v24 => [.box (c_T_impl_Nest false r3)]) (fun q ex fr σ => match q with | .inl _ => ex = .exit 0 ∧ fr = [(6, .im false (r5.map (c_T_impl_Nest false)))] ∧ σ = [.box (c_T_impl_Nest false r3)] | .inr q25 => ex = .ret ∧ RetN Try.prog [.tmp 2] (fun v τ => Told τ v (.bool q25)) .ret fr σ) h63 ?_ ?_
     ·rintro v24 y32 H
      refine au 5 ?_
      refine T.cH H (fun H h => ?_) (fun H h => ?_)
      ·refine au 6 ?_
       obtain ⟨e33, h34, H⟩ := bind_s H
       refine TL.st rfl rfl rfl (o_ix (f := c_T_impl_Reach false) rfl rfl tyS_35 rfl rfl h34 rfl) ?_
       refine au 11 ?_
       refine T.cH H (fun H h => ?_) (fun H h => ?_)
       ·refine T.exit ?_
        refine thn_exit ?_
        refine inB_other rfl ?_
        refine thn_exit ?_
        exact Pk.of (thn_exit ⟨.inl (), (some_i H).symm, rfl, rfl, rfl⟩)
       ·refine au 8 ?_
        obtain ⟨r35, h36, H⟩ := bind_s H
        refine TL.st rfl rfl rfl (o_callP rfl en_11 rfl rfl (.cons _ _ _ _ (.cl _ rfl) (.cons _ _ _ _ (.cl _ rfl) (.cons _ _ _ _ (.cl _ rfl) .nil))) (RcAnc.lib_11 false h36)) ?_
        refine au 4 ?_
        refine T.drawn rfl ?_
        refine TD.qs rfl rfl (fun _ => o_move rfl rfl) ?_
        refine TD.qs rfl rfl (fun _ => o_lenL (f := c_str) rfl rfl rfl) ?_
        refine ad 6 ?_
        obtain ⟨e37, h38, H⟩ := bind_s H
        refine TD.cq rfl rfl rfl (.bool _) rfl (fun h _ => o_ix (f := c_str) rfl rfl tyS_9 (gv h rfl) rfl (gdO_t h38 h) rfl) ?_
        refine TD.cq rfl rfl rfl (.bool _) rfl (fun h _ => o_loadRf rfl tyS_9 (gv h rfl) (nb rfl) rfl) ?_
        refine ad 2 ?_
        refine TD.cq rfl rfl rfl (.bool _) rfl (fun h _ => o_str rfl (gv h rfl) (gv h rfl) rfl) ?_
        refine ad 5 ?_
        obtain ⟨e39, h40, H⟩ := bind_s H
        refine TD.cq rfl rfl rfl (.bool _) rfl (fun h _ => o_ix (f := c_str) rfl rfl tyS_9 (gv h rfl) (gv h rfl) (gdO_t h40 h) rfl) ?_
        refine TD.cq rfl rfl rfl (.bool _) rfl (fun h _ => o_loadRf rfl tyS_9 (gv h rfl) (nb rfl) rfl) ?_
        refine ad 2 ?_
        refine TD.cq rfl rfl rfl (.bool _) rfl (fun h _ => o_str rfl (gv h rfl) (gv h rfl) rfl) ?_
        refine TD.qs rfl rfl (fun _ => o_or rfl rfl rfl rfl (fun k => Gd_t k)) ?_
        refine TD.nil ⟨rfl, ?_⟩
        refine thn_normal ?_
        refine T.cH H (fun H h => ?_) (fun H h => ?_)
        ·refine au 5 ?_
         refine thn_ret (inB_ret (thn_ret ?_))
         exact Pk.id (thn_ret ⟨.inr false, (some_i H).symm, rfl, ⟨trivial, _, (.tmp _ _ _ _ rfl .nil), (.cl _ rfl)⟩⟩)
        ·refine au 7 ?_
         obtain ⟨q60, h61, H⟩ := bind_s H
         refine T.lq (fun s => match s with | v41 => [(6, .im false (r5.map (c_T_impl_Nest false))), (13, .bx 1 0), (14, .im false (r35.map (c_str))), (15, .int .i64 v41), (77, .im false (r6.map (c_T_impl_Reach false))), (78, .int .i64 (r6.length : Int)), (79, .int .i64 v24)]) (fun s => match s with | v41 => [.box (c_T_impl_Nest false r3), .box (c_T_impl_Reach false e33)]) (fun q ex fr σ => match q with | .inl _ => ex = .exit 2 ∧ fr = [(6, .im false (r5.map (c_T_impl_Nest false))), (13, .bx 1 0), (77, .im false (r6.map (c_T_impl_Reach false))), (78, .int .i64 (r6.length : Int)), (79, .int .i64 v24)] ∧ σ = [.box (c_T_impl_Nest false r3), .box (c_T_impl_Reach false e33)] | .inr q42 => ex = .ret ∧ RetN Try.prog [.tmp 2] (fun v τ => Told τ v (.bool q42)) .ret fr σ) h61 ?_ ?_
         ·rintro v41 y53 H
          refine au 5 ?_
          refine TL.st rfl rfl rfl (o_lenL (f := c_str) rfl rfl rfl) ?_
          refine au 2 ?_
          refine T.cH H (fun H h => ?_) (fun H h => ?_)
          ·refine au 4 ?_
           refine T.drawn rfl ?_
           refine ad 4 ?_
           obtain ⟨e54, h55, H⟩ := bind_s H
           refine TD.qs rfl rfl (fun _ => o_ix (f := c_str) rfl rfl tyS_9 rfl rfl h55 rfl) ?_
           refine TD.qs rfl rfl (fun _ => o_loadRf rfl tyS_9 rfl (nb rfl) rfl) ?_
           refine ad 2 ?_
           obtain ⟨e56, h57, H⟩ := bind_s H
           refine TD.qs rfl rfl (fun _ => o_ix (f := c_str) rfl rfl tyS_9 rfl rfl h57 rfl) ?_
           refine TD.qs rfl rfl (fun _ => o_loadRf rfl tyS_9 rfl (nb rfl) rfl) ?_
           refine TD.qs rfl rfl (fun _ => o_build rfl ⟨_, fun _ => rfl, rfl⟩ rfl rfl rfl) ?_
           obtain ⟨r58, h59, H⟩ := bind_s H
           refine TD.qs rfl rfl (fun _ => o_callP rfl en_12 rfl rfl (.cons _ _ _ _ (.cl _ rfl) (.cons _ _ _ _ (.cl _ rfl) .nil)) (spec_HasNest_p false h59)) ?_
           refine TD.qs rfl rfl (fun _ => o_not rfl rfl) ?_
           refine TD.nil ⟨rfl, ?_⟩
           refine thn_normal ?_
           refine T.cH H (fun H h => ?_) (fun H h => ?_)
           ·refine au 5 ?_
            refine inB_ret (thn_ret ?_)
            exact Pk.id (thn_ret ⟨.inr false, (some_i H).symm, rfl, ⟨trivial, _, (.tmp _ _ _ _ rfl .nil), (.cl _ rfl)⟩⟩)
           ·refine au 6 ?_
            exact Pk.of (thn_normal ⟨(IntKind.i64.wrap (v41 + 1)), (some_i H).symm, rfl, rfl⟩)
          ·refine T.exit ?_
           refine thn_exit ?_
           exact Pk.of (thn_exit ⟨.inl (), (some_i H).symm, rfl, rfl, rfl⟩)
         ·rcases q60 with ⟨⟩ | q42
          ·rintro _ _ _ ⟨rfl, rfl, rfl⟩
           refine inB_here ?_
           refine T.seq ?_
           refine T.drawn rfl ?_
           refine ad 2 ?_
           obtain ⟨r43, h44, H⟩ := bind_s H
           refine TD.qs rfl rfl (fun _ => o_callP rfl en_13 rfl rfl (.cons _ _ _ _ (.cl _ rfl) .nil) (spec_IsGroup_p  h44)) ?_
           refine ad 5 ?_
           obtain ⟨r45, h46, H⟩ := bind_s H
           refine TD.cq rfl rfl rfl (.bool _) rfl (fun h _ => o_callP rfl en_15 rfl (evl_2 (gv h rfl) (gv h rfl)) (.cons _ _ _ _ (.cl _ rfl) (.cons _ _ _ _ (.cl _ rfl) .nil)) (impl_MembersOf_p false (gdO_t h46 h))) ?_
           refine ad 2 ?_
           obtain ⟨r47, h48, H⟩ := bind_s H
           refine TD.cq rfl rfl rfl (.bool _) rfl (fun h _ => o_callP rfl en_14 rfl (evl_2 (gv h rfl) (gv h rfl)) (.cons _ _ _ _ (.cl _ rfl) (.cons _ _ _ _ (.cl _ rfl) .nil)) (spec_HasText_p false (gdO_t h48 h))) ?_
           refine TD.cq rfl rfl rfl (.bool _) rfl (fun h _ => o_not rfl (gv h rfl)) ?_
           refine TD.cq rfl rfl rfl (.bool _) rfl (fun h _ => o_move rfl (gv h rfl)) ?_
           refine TD.cq rfl rfl rfl (.gd _ _) rfl (fun h _ => o_move rfl rfl) ?_
           refine TD.cr rfl rfl rfl (.gd _ _) rfl (fun h => o_fieldAddr rfl rfl rfl tyS_9 (by decide) rfl rfl ⟨_, rfl, Nat.le_of_ble_eq_true rfl⟩) ?_
           refine TD.cr rfl rfl rfl (.gd _ _) rfl (fun h => o_loadBx rfl tyS_9 (gv h rfl) rfl (nb rfl) rfl) ?_
           obtain ⟨r49, h50, H⟩ := bind_s H
           refine TD.cq rfl rfl rfl (.gd _ _) rfl (fun h _ => o_callP rfl en_16 rfl (evl_2 (gv h rfl) (gv h rfl)) (.cons _ _ _ _ (.cl _ rfl) (.cons _ _ _ _ (.cl _ rfl) .nil)) (impl_GroupsOf_p false (gdO_t h50 h))) ?_
           refine TD.cr rfl rfl rfl (.gd _ _) rfl (fun h => o_fieldAddr rfl rfl rfl tyS_9 (by decide) rfl rfl ⟨_, rfl, Nat.le_of_ble_eq_true rfl⟩) ?_
           refine TD.cr rfl rfl rfl (.gd _ _) rfl (fun h => o_loadBx rfl tyS_9 (gv h rfl) rfl (nb rfl) rfl) ?_
           obtain ⟨r51, h52, H⟩ := bind_s H
           refine TD.cq rfl rfl rfl (.gd _ _) rfl (fun h _ => o_callP rfl en_14 rfl (evl_2 (gv h rfl) (gv h rfl)) (.cons _ _ _ _ (.cl _ rfl) (.cons _ _ _ _ (.cl _ rfl) .nil)) (spec_HasText_p false (gdO_t h52 h))) ?_
           refine TD.cq rfl rfl rfl (.gd _ _) rfl (fun h _ => o_not rfl (gv h rfl)) ?_
           refine TD.cq rfl rfl rfl (.bool _) rfl (fun h _ => o_or rfl (gv h rfl) rfl rfl (fun k => Gd_t (andi h k))) ?_
           refine TD.qs rfl rfl (fun _ => o_and rfl rfl rfl (fun k => Gd_t k) rfl) ?_
           refine TD.nil ⟨rfl, ?_⟩
           refine thn_normal ?_
           refine T.cH H (fun H h => ?_) (fun H h => ?_)
           ·refine au 5 ?_
            refine inB_ret (thn_ret ?_)
            exact Pk.id (thn_ret ⟨.inr false, (some_i H).symm, rfl, ⟨trivial, _, (.tmp _ _ _ _ rfl .nil), (.cl _ rfl)⟩⟩)
           ·refine au 5 ?_
            exact Pk.of (thn_normal ⟨(IntKind.i64.wrap (v24 + 1)), (some_i H).symm, rfl, rfl⟩)
          ·rintro _ fr1 σ1 ⟨rfl, hr⟩
           refine inB_ret (thn_ret (inB_ret (thn_ret ?_)))
           exact Pk.id (thn_ret ⟨.inr q42, (some_i H).symm, rfl, hr⟩)
      ·refine T.exit ?_
       refine thn_exit ?_
       exact Pk.of (thn_exit ⟨.inl (), (some_i H).symm, rfl, rfl, rfl⟩)
     ·rcases q62 with ⟨⟩ | q25
      ·rintro _ _ _ ⟨rfl, rfl, rfl⟩
       refine inB_here ?_
       refine au 3 ?_
       obtain ⟨r26, h27, H⟩ := bind_s H
       refine TL.st rfl rfl rfl (o_callP rfl en_18 rfl rfl (.cons _ _ _ _ (.cl _ rfl) .nil) (impl_Loops_p false h27)) ?_
       refine TL.st rfl rfl rfl (o_move rfl rfl) ?_
       obtain ⟨r28, h29, H⟩ := bind_s H
       refine TL.st rfl rfl rfl (o_callP rfl en_19 rfl rfl (.cons _ _ _ _ (.cl _ rfl) .nil) (spec_Loops_p false h29)) ?_
       obtain ⟨r30, h31, H⟩ := bind_s H
       refine TL.st rfl rfl rfl (o_callP rfl en_17 rfl rfl (.cons _ _ _ _ (.cl _ rfl) (.cons _ _ _ _ (.cl _ rfl) .nil)) (laws_zTexts_p false false h31)) ?_
       refine au 3 ?_
       cases some_i H
       exact ⟨trivial, _, (.tmp _ _ _ _ rfl .nil), (.cl _ rfl)⟩
      ·rintro _ fr1 σ1 ⟨rfl, hr⟩
       refine inB_ret (thn_ret ?_)
       cases some_i H
       exact hr
end Go.G36.RC
