import Derived.Test.YtnohlppnebcefaaGreatAB1
import Derived.Test.YtnohlppnebcefaaGreatAbAnc
set_option linter.all false
set_option maxRecDepth 20000
set_option maxHeartbeats 4000000
namespace Go.G36.AB
open Go Go.Proofs
theorem tyS_5 : TyS Tryz.prog 5 false 1 := ⟨rfl, rfl⟩
noncomputable def spec_l1Cur_next_j1 (s0 : T_spec_l1Cur) (v1 : Int) : Option (Int × T_spec_l1Cur) :=
  cond (decide ((IntKind.i64.wrap (s0.at_ + 1)) ≤ (s0.code_.length : Int))) (some (v1, (⟨s0.code_, (IntKind.i64.wrap (s0.at_ + 1)), (IntKind.u64.wrap ((IntKind.u64.wrap ((IntKind.u64.wrap (s0.seed_ * 6364136223846793005)) + (IntKind.u64.wrap v1))) + 1442695040888963407))⟩ : T_spec_l1Cur))) (some ((IntKind.i64.wrap (IntKind.u64.wrap (BitVec.ofInt IntKind.u64.bits (Int.fdiv (IntKind.u64.wrap ((IntKind.u64.wrap ((IntKind.u64.wrap (s0.seed_ * 6364136223846793005)) + (IntKind.u64.wrap v1))) + 1442695040888963407)) (2 ^ (min (Int.toNat 40) IntKind.u64.bits))) &&& BitVec.ofInt IntKind.u64.bits 255).toNat)), (⟨s0.code_, (IntKind.i64.wrap (s0.at_ + 1)), (IntKind.u64.wrap ((IntKind.u64.wrap ((IntKind.u64.wrap (s0.seed_ * 6364136223846793005)) + (IntKind.u64.wrap v1))) + 1442695040888963407))⟩ : T_spec_l1Cur)))
noncomputable def spec_l1Cur_next (s0 : T_spec_l1Cur) : Option (Int × T_spec_l1Cur) :=
  cond (decide (s0.at_ < (s0.code_.length : Int))) ((idx s0.code_ s0.at_).bind fun e2 => spec_l1Cur_next_j1 s0 (IntKind.i64.wrap e2)) (spec_l1Cur_next_j1 s0 0)
theorem spec_l1Cur_next_p (c0 : Bool) {s0 : T_spec_l1Cur} {R0 : Int} {U0 : T_spec_l1Cur} (H : spec_l1Cur_next s0 = some (R0, U0)) : St Tryz.prog 57 [.bx 0 0] [.box (c_T_spec_l1Cur c0 s0)] (.int .i64 R0) [.box (c_T_spec_l1Cur c0 U0)] := by
 refine CallT.fin (CallT.of_TN (n := 62) Tryz.func57 rfl rfl rfl rfl ?_) rfl rfl ⟨(bels_iff.1 rfl), trivial⟩
 refine au 8 ?_
 refine T.cut (fun fr' σ' => ∃ (v1 : Int), fr' = [(0, .bx 0 0), (3, .int .i64 v1)] ∧ σ' = [.box (c_T_spec_l1Cur c0 s0)] ∧ spec_l1Cur_next_j1 s0 v1 = some (R0, U0)) (T.pk ?_) ?_
 ·skip
  refine T.seq ?_
  refine T.drawn rfl ?_
  refine ad 8 ?_
  refine TD.qs rfl rfl (fun _ => o_lenL (f := c_int .u8) rfl rfl rfl) ?_
  refine TD.qs rfl rfl (fun _ => o_ari rfl rfl rfl rfl) ?_
  refine TD.nil ⟨rfl, ?_⟩
  refine thn_normal ?_
  refine T.cH H (fun H h => ?_) (fun H h => ?_)
  ·refine T.drawn rfl ?_
   refine ad 8 ?_
   obtain ⟨e2, h3, H⟩ := bind_s H
   refine TD.qs rfl rfl (fun _ => o_ix (f := c_int .u8) rfl rfl tyS_5 rfl rfl h3 rfl) ?_
   refine TD.qs rfl rfl (fun _ => o_loadRf rfl tyS_5 rfl (nb rfl) rfl) ?_
   refine TD.qs rfl rfl (fun _ => o_conv rfl rfl ⟨_, rfl⟩ rfl) ?_
   refine TD.qs rfl rfl (fun _ => o_assign rfl rfl) ?_
   refine TD.nil ⟨rfl, ?_⟩
   exact Pk.of (thn_normal ⟨(IntKind.i64.wrap e2), rfl, rfl, H⟩)
  ·refine T.skip ?_
   exact Pk.of (thn_normal ⟨0, rfl, rfl, H⟩)
 ·rintro _ _ ⟨v1, rfl, rfl, H⟩
  refine au 20 ?_
  refine TL.st rfl rfl rfl (o_conv rfl rfl ⟨_, rfl⟩ rfl) ?_
  refine au 8 ?_
  refine T.drawn rfl ?_
  refine ad 8 ?_
  refine TD.qs rfl rfl (fun _ => o_lenL (f := c_int .u8) rfl rfl rfl) ?_
  refine TD.qs rfl rfl (fun _ => o_ari rfl rfl rfl rfl) ?_
  refine TD.nil ⟨rfl, ?_⟩
  refine thn_normal ?_
  refine T.cH H (fun H h => ?_) (fun H h => ?_)
  ·refine au 6 ?_
   refine thn_ret ?_
   cases some_i H
   exact ⟨trivial, _, (.tmp _ _ _ _ rfl .nil), ⟨rfl, _, rfl⟩⟩
  ·refine au 7 ?_
   refine TL.st rfl rfl rfl (o_shr rfl rfl rfl (by decide)) ?_
   refine TL.st rfl rfl rfl (o_bits rfl rfl rfl rfl) ?_
   refine TL.st rfl rfl rfl (o_conv rfl rfl ⟨_, rfl⟩ rfl) ?_
   refine au 3 ?_
   cases some_i H
   exact ⟨trivial, _, (.tmp _ _ _ _ rfl .nil), ⟨rfl, _, rfl⟩⟩
theorem en_57 : En Tryz.prog 57 := .of Tryz.func57 rfl rfl
noncomputable def spec_l1Cur_pick_j1 (a0 : Int) (b4 : T_spec_l1Cur) (v5 : Int) : Option (Int × T_spec_l1Cur) :=
  (nz a0).bind fun z6 => some ((Int.tmod v5 a0), b4)
noncomputable def spec_l1Cur_pick (a0 : Int) (s0 : T_spec_l1Cur) : Option (Int × T_spec_l1Cur) :=
  cond (decide (a0 ≤ 1)) (some (0, s0)) ((spec_l1Cur_next s0).bind fun q => (match q with | (r1, o2) => cond (decide (a0 > 200)) ((spec_l1Cur_next o2).bind fun q => (match q with | (r8, o9) => spec_l1Cur_pick_j1 a0 o9 (IntKind.i64.wrap ((IntKind.i64.wrap (r1 * 256)) + r8)))) (spec_l1Cur_pick_j1 a0 o2 r1)))
theorem spec_l1Cur_pick_p (c0 : Bool) {a0 : Int} {s0 : T_spec_l1Cur} {R0 : Int} {U0 : T_spec_l1Cur} (H : spec_l1Cur_pick a0 s0 = some (R0, U0)) : St Tryz.prog 33 [.bx 0 0, .int .i64 a0] [.box (c_T_spec_l1Cur c0 s0)] (.int .i64 R0) [.box (c_T_spec_l1Cur c0 U0)] := by
 refine CallT.fin (CallT.of_TN (n := 20) Tryz.func33 rfl rfl rfl rfl ?_) rfl rfl ⟨(bels_iff.1 rfl), trivial⟩
 refine au 10 ?_
 refine T.cH H (fun H h => ?_) (fun H h => ?_)
 ·refine au 5 ?_
  refine thn_ret ?_
  cases some_i H
  exact ⟨trivial, _, (.tmp _ _ _ _ rfl .nil), ⟨rfl, _, rfl⟩⟩
 ·refine au 4 ?_
  obtain ⟨⟨r1, o2⟩, h3, H⟩ := bind_s H
  refine TL.st rfl rfl rfl (o_callS [0] rfl en_57 rfl rfl (spec_l1Cur_next_p c0 h3) rfl (by decide) (.cons _ _ _ _ rfl .nil) rfl rfl rfl) ?_
  refine au 2 ?_
  refine T.cut (fun fr' σ' => ∃ (b4 : T_spec_l1Cur) (v5 : Int), fr' = [(1, .int .i64 a0), (5, .int .i64 v5)] ∧ σ' = [.box (c_T_spec_l1Cur c0 b4)] ∧ spec_l1Cur_pick_j1 a0 b4 v5 = some (R0, U0)) (T.pk ?_) ?_
  ·skip
   refine au 5 ?_
   refine T.cH H (fun H h => ?_) (fun H h => ?_)
   ·refine au 4 ?_
    obtain ⟨⟨r8, o9⟩, h10, H⟩ := bind_s H
    refine TL.st rfl rfl rfl (o_callS [0] rfl en_57 rfl rfl (spec_l1Cur_next_p c0 h10) rfl (by decide) (.cons _ _ _ _ rfl .nil) rfl rfl rfl) ?_
    refine au 3 ?_
    exact Pk.of (thn_normal ⟨o9, (IntKind.i64.wrap ((IntKind.i64.wrap (r1 * 256)) + r8)), rfl, rfl, H⟩)
   ·refine T.skip ?_
    exact Pk.of (thn_normal ⟨o2, r1, rfl, rfl, H⟩)
  ·rintro _ _ ⟨b4, v5, rfl, rfl, H⟩
   refine au 4 ?_
   obtain ⟨z6, h7, H⟩ := bind_s H
   refine TL.st rfl rfl rfl (o_rem rfl rfl rfl (nz_s h7).1) ?_
   refine au 3 ?_
   cases some_i H
   exact ⟨trivial, _, (.tmp _ _ _ _ rfl .nil), ⟨rfl, _, rfl⟩⟩
theorem en_33 : En Tryz.prog 33 := .of Tryz.func33 rfl rfl
noncomputable def spec_l1Cur_one (a0 : Int) (s0 : T_spec_l1Cur) : Option (Bool × T_spec_l1Cur) :=
  (spec_l1Cur_pick a0 s0).bind fun q => (match q with | (r1, o2) => some ((r1 == 0), o2))
theorem spec_l1Cur_one_p (c0 : Bool) {a0 : Int} {s0 : T_spec_l1Cur} {R0 : Bool} {U0 : T_spec_l1Cur} (H : spec_l1Cur_one a0 s0 = some (R0, U0)) : St Tryz.prog 13 [.bx 0 0, .int .i64 a0] [.box (c_T_spec_l1Cur c0 s0)] (.bool R0) [.box (c_T_spec_l1Cur c0 U0)] := by
 refine CallT.fin (CallT.of_TN (n := 9) Tryz.func13 rfl rfl rfl rfl ?_) rfl rfl ⟨(bels_iff.1 rfl), trivial⟩
 refine au 8 ?_
 obtain ⟨⟨r1, o2⟩, h3, H⟩ := bind_s H
 refine TL.st rfl rfl rfl (o_callS [0] rfl en_33 rfl rfl (spec_l1Cur_pick_p c0 h3) rfl (by decide) (.cons _ _ _ _ rfl .nil) rfl rfl rfl) ?_
 refine au 4 ?_
 cases some_i H
 exact ⟨trivial, _, (.tmp _ _ _ _ rfl .nil), ⟨rfl, _, rfl⟩⟩
theorem en_13 : En Tryz.prog 13 := .of Tryz.func13 rfl rfl
theorem tyS_78 : TyS Tryz.prog 78 true 3 := ⟨rfl, rfl⟩
theorem tyS_66 : TyS Tryz.prog 66 true 3 := ⟨rfl, rfl⟩
theorem tyS_49 : TyS Tryz.prog 49 true 2 := ⟨rfl, rfl⟩
theorem tyS_74 : TyS Tryz.prog 74 true 4 := ⟨rfl, rfl⟩
noncomputable def spec_l1Cur_polSchema (s0 : T_spec_l1Cur) : Option (T_impl_PolSchema × T_spec_l1Cur) :=
  (spec_l1Cur_one 2 s0).bind fun q => (match q with | (r1, o2) => (sub ([(⟨(ByteArray.mk #[97, 103, 101]), (ByteArray.mk #[110, 117, 109]), false⟩ : T_impl_AttrKind), (⟨(ByteArray.mk #[102, 114, 111, 109]), (ByteArray.mk #[97, 100, 100, 114]), true⟩ : T_impl_AttrKind), (⟨(ByteArray.mk #[119, 104, 101, 110]), (ByteArray.mk #[116, 105, 109, 101]), true⟩ : T_impl_AttrKind)] : List T_impl_AttrKind) 0 1).bind fun l4 => some ((⟨([(⟨(ByteArray.mk #[68, 111, 99]), ([(ByteArray.mk #[68, 111, 99]), (ByteArray.mk #[71, 114, 111, 117, 112])] : List ByteArray), ([(⟨(ByteArray.mk #[100, 101, 112, 116]), (ByteArray.mk #[116, 101, 120, 116]), true⟩ : T_impl_AttrKind), (⟨(ByteArray.mk #[111, 112, 101, 110]), (ByteArray.mk #[98, 111, 111, 108]), true⟩ : T_impl_AttrKind), (⟨(ByteArray.mk #[111, 119, 110, 101, 114]), (ByteArray.mk #[114, 101, 102, 32, 85, 115, 101, 114]), true⟩ : T_impl_AttrKind), (⟨(ByteArray.mk #[116, 97, 103, 115]), (ByteArray.mk #[115, 101, 116, 32, 116, 101, 120, 116]), false⟩ : T_impl_AttrKind)] : List T_impl_AttrKind)⟩ : T_impl_ThingType), (⟨(ByteArray.mk #[71, 114, 111, 117, 112]), ([(ByteArray.mk #[71, 114, 111, 117, 112])] : List ByteArray), ([] : List T_impl_AttrKind)⟩ : T_impl_ThingType), (⟨(ByteArray.mk #[85, 115, 101, 114]), ([(ByteArray.mk #[71, 114, 111, 117, 112])] : List ByteArray), ([(⟨(ByteArray.mk #[97, 103, 101]), (ByteArray.mk #[110, 117, 109]), true⟩ : T_impl_AttrKind), (⟨(ByteArray.mk #[98, 111, 115, 115]), (ByteArray.mk #[114, 101, 102, 32, 85, 115, 101, 114]), false⟩ : T_impl_AttrKind), (⟨(ByteArray.mk #[100, 101, 112, 116]), (ByteArray.mk #[116, 101, 120, 116]), r1⟩ : T_impl_AttrKind), (⟨(ByteArray.mk #[116, 97, 103, 115]), (ByteArray.mk #[115, 101, 116, 32, 116, 101, 120, 116]), true⟩ : T_impl_AttrKind)] : List T_impl_AttrKind)⟩ : T_impl_ThingType)] : List T_impl_ThingType), ([(⟨(ByteArray.mk #[101, 100, 105, 116]), ([(ByteArray.mk #[85, 115, 101, 114])] : List ByteArray), ([(ByteArray.mk #[68, 111, 99])] : List ByteArray), ([(⟨(ByteArray.mk #[97, 103, 101]), (ByteArray.mk #[110, 117, 109]), false⟩ : T_impl_AttrKind), (⟨(ByteArray.mk #[102, 114, 111, 109]), (ByteArray.mk #[97, 100, 100, 114]), true⟩ : T_impl_AttrKind), (⟨(ByteArray.mk #[119, 104, 101, 110]), (ByteArray.mk #[116, 105, 109, 101]), true⟩ : T_impl_AttrKind)] : List T_impl_AttrKind)⟩ : T_impl_ActionType), (⟨(ByteArray.mk #[118, 105, 101, 119]), ([(ByteArray.mk #[71, 114, 111, 117, 112]), (ByteArray.mk #[85, 115, 101, 114])] : List ByteArray), ([(ByteArray.mk #[68, 111, 99]), (ByteArray.mk #[85, 115, 101, 114])] : List ByteArray), l4⟩ : T_impl_ActionType)] : List T_impl_ActionType)⟩ : T_impl_PolSchema), o2))
theorem spec_l1Cur_polSchema_p (c0 : Bool) {s0 : T_spec_l1Cur} {R0 : T_impl_PolSchema} {U0 : T_spec_l1Cur} (H : spec_l1Cur_polSchema s0 = some (R0, U0)) : St Tryz.prog 11 [.bx 0 0] [.box (c_T_spec_l1Cur c0 s0)] (.agg (c_T_impl_PolSchema false R0)) [.box (c_T_spec_l1Cur c0 U0)] := by
 refine CallT.fin (CallT.of_TN (n := 45) Tryz.func11 rfl rfl rfl rfl ?_) rfl rfl ⟨(bels_iff.1 rfl), trivial⟩
 refine au 6 ?_
 refine TL.st rfl rfl rfl (o_sliceIm (rows := ([(ByteArray.mk #[71, 114, 111, 117, 112])] : List ByteArray).map (c_str)) rfl rfl tyS_9 ⟨_, rfl, rfl⟩ (by decide) rfl rfl rfl rfl rfl rfl) ?_
 refine au 3 ?_
 obtain ⟨⟨r1, o2⟩, h3, H⟩ := bind_s H
 refine TL.st rfl rfl rfl (o_callS [0] rfl en_13 rfl rfl (spec_l1Cur_one_p c0 h3) rfl (by decide) (.cons _ _ _ _ rfl .nil) rfl rfl rfl) ?_
 refine au 2 ?_
 refine TL.st rfl rfl rfl (o_sliceIm (rows := ([(⟨(ByteArray.mk #[97, 103, 101]), (ByteArray.mk #[110, 117, 109]), true⟩ : T_impl_AttrKind), (⟨(ByteArray.mk #[98, 111, 115, 115]), (ByteArray.mk #[114, 101, 102, 32, 85, 115, 101, 114]), false⟩ : T_impl_AttrKind), (⟨(ByteArray.mk #[100, 101, 112, 116]), (ByteArray.mk #[116, 101, 120, 116]), r1⟩ : T_impl_AttrKind), (⟨(ByteArray.mk #[116, 97, 103, 115]), (ByteArray.mk #[115, 101, 116, 32, 116, 101, 120, 116]), true⟩ : T_impl_AttrKind)] : List T_impl_AttrKind).map (c_T_impl_AttrKind false)) rfl rfl tyS_78 ⟨_, rfl, rfl⟩ (by decide) rfl rfl rfl rfl rfl rfl) ?_
 refine au 5 ?_
 refine T.conv (Cs.eqS (σ' := [.box (c_T_spec_l1Cur c0 o2), .box [.nilS, .nilS], .box [.str (ByteArray.mk #[85, 115, 101, 114]), .im false (([(ByteArray.mk #[71, 114, 111, 117, 112])] : List ByteArray).map (c_str)), .im false (([(⟨(ByteArray.mk #[97, 103, 101]), (ByteArray.mk #[110, 117, 109]), true⟩ : T_impl_AttrKind), (⟨(ByteArray.mk #[98, 111, 115, 115]), (ByteArray.mk #[114, 101, 102, 32, 85, 115, 101, 114]), false⟩ : T_impl_AttrKind), (⟨(ByteArray.mk #[100, 101, 112, 116]), (ByteArray.mk #[116, 101, 120, 116]), r1⟩ : T_impl_AttrKind), (⟨(ByteArray.mk #[116, 97, 103, 115]), (ByteArray.mk #[115, 101, 116, 32, 116, 101, 120, 116]), true⟩ : T_impl_AttrKind)] : List T_impl_AttrKind).map (c_T_impl_AttrKind false))]]) rfl) ?_
 refine T.region ?_
 refine TL.st rfl rfl rfl (o_sliceIm (rows := ([(ByteArray.mk #[68, 111, 99]), (ByteArray.mk #[71, 114, 111, 117, 112])] : List ByteArray).map (c_str)) rfl rfl tyS_9 ⟨_, rfl, rfl⟩ (by decide) rfl rfl rfl rfl rfl rfl) ?_
 refine au 4 ?_
 refine TL.st rfl rfl rfl (o_sliceIm (rows := ([(⟨(ByteArray.mk #[100, 101, 112, 116]), (ByteArray.mk #[116, 101, 120, 116]), true⟩ : T_impl_AttrKind), (⟨(ByteArray.mk #[111, 112, 101, 110]), (ByteArray.mk #[98, 111, 111, 108]), true⟩ : T_impl_AttrKind), (⟨(ByteArray.mk #[111, 119, 110, 101, 114]), (ByteArray.mk #[114, 101, 102, 32, 85, 115, 101, 114]), true⟩ : T_impl_AttrKind), (⟨(ByteArray.mk #[116, 97, 103, 115]), (ByteArray.mk #[115, 101, 116, 32, 116, 101, 120, 116]), false⟩ : T_impl_AttrKind)] : List T_impl_AttrKind).map (c_T_impl_AttrKind false)) rfl rfl tyS_78 ⟨_, rfl, rfl⟩ (by decide) rfl rfl rfl rfl rfl rfl) ?_
 refine au 9 ?_
 refine TL.st rfl rfl rfl (o_sliceIm (rows := ([(⟨(ByteArray.mk #[97, 103, 101]), (ByteArray.mk #[110, 117, 109]), false⟩ : T_impl_AttrKind), (⟨(ByteArray.mk #[102, 114, 111, 109]), (ByteArray.mk #[97, 100, 100, 114]), true⟩ : T_impl_AttrKind), (⟨(ByteArray.mk #[119, 104, 101, 110]), (ByteArray.mk #[116, 105, 109, 101]), true⟩ : T_impl_AttrKind)] : List T_impl_AttrKind).map (c_T_impl_AttrKind false)) rfl rfl tyS_78 ⟨_, rfl, rfl⟩ (by decide) rfl rfl rfl rfl rfl rfl) ?_
 refine au 5 ?_
 refine TL.st rfl rfl rfl (o_sliceIm (rows := ([(ByteArray.mk #[71, 114, 111, 117, 112])] : List ByteArray).map (c_str)) rfl rfl tyS_9 ⟨_, rfl, rfl⟩ (by decide) rfl rfl rfl rfl rfl rfl) ?_
 refine TL.st rfl rfl rfl (Does.wk (o_build rfl ⟨_, fun _ => rfl, rfl⟩ rfl rfl rfl) (.aggL (.cons _ _ _ _ (.same _) (.cons _ _ _ _ (.same _) (.cons _ _ _ _ .nil .nil))))) ?_
 refine TL.st rfl rfl rfl (o_loadBx rfl tyS_66 rfl rfl (nb rfl) rfl) ?_
 refine TL.st rfl rfl rfl (o_sliceIm (rows := ([(⟨(ByteArray.mk #[68, 111, 99]), ([(ByteArray.mk #[68, 111, 99]), (ByteArray.mk #[71, 114, 111, 117, 112])] : List ByteArray), ([(⟨(ByteArray.mk #[100, 101, 112, 116]), (ByteArray.mk #[116, 101, 120, 116]), true⟩ : T_impl_AttrKind), (⟨(ByteArray.mk #[111, 112, 101, 110]), (ByteArray.mk #[98, 111, 111, 108]), true⟩ : T_impl_AttrKind), (⟨(ByteArray.mk #[111, 119, 110, 101, 114]), (ByteArray.mk #[114, 101, 102, 32, 85, 115, 101, 114]), true⟩ : T_impl_AttrKind), (⟨(ByteArray.mk #[116, 97, 103, 115]), (ByteArray.mk #[115, 101, 116, 32, 116, 101, 120, 116]), false⟩ : T_impl_AttrKind)] : List T_impl_AttrKind)⟩ : T_impl_ThingType), (⟨(ByteArray.mk #[71, 114, 111, 117, 112]), ([(ByteArray.mk #[71, 114, 111, 117, 112])] : List ByteArray), ([] : List T_impl_AttrKind)⟩ : T_impl_ThingType), (⟨(ByteArray.mk #[85, 115, 101, 114]), ([(ByteArray.mk #[71, 114, 111, 117, 112])] : List ByteArray), ([(⟨(ByteArray.mk #[97, 103, 101]), (ByteArray.mk #[110, 117, 109]), true⟩ : T_impl_AttrKind), (⟨(ByteArray.mk #[98, 111, 115, 115]), (ByteArray.mk #[114, 101, 102, 32, 85, 115, 101, 114]), false⟩ : T_impl_AttrKind), (⟨(ByteArray.mk #[100, 101, 112, 116]), (ByteArray.mk #[116, 101, 120, 116]), r1⟩ : T_impl_AttrKind), (⟨(ByteArray.mk #[116, 97, 103, 115]), (ByteArray.mk #[115, 101, 116, 32, 116, 101, 120, 116]), true⟩ : T_impl_AttrKind)] : List T_impl_AttrKind)⟩ : T_impl_ThingType)] : List T_impl_ThingType).map (c_T_impl_ThingType false)) rfl rfl tyS_66 ⟨_, rfl, rfl⟩ (by decide) rfl rfl rfl rfl rfl rfl) ?_
 refine au 5 ?_
 refine T.conv (Cs.eqS (σ' := [_, _, _, .box [.str (ByteArray.mk #[68, 111, 99]), .im false (([(ByteArray.mk #[68, 111, 99]), (ByteArray.mk #[71, 114, 111, 117, 112])] : List ByteArray).map (c_str)), .im false (([(⟨(ByteArray.mk #[100, 101, 112, 116]), (ByteArray.mk #[116, 101, 120, 116]), true⟩ : T_impl_AttrKind), (⟨(ByteArray.mk #[111, 112, 101, 110]), (ByteArray.mk #[98, 111, 111, 108]), true⟩ : T_impl_AttrKind), (⟨(ByteArray.mk #[111, 119, 110, 101, 114]), (ByteArray.mk #[114, 101, 102, 32, 85, 115, 101, 114]), true⟩ : T_impl_AttrKind), (⟨(ByteArray.mk #[116, 97, 103, 115]), (ByteArray.mk #[115, 101, 116, 32, 116, 101, 120, 116]), false⟩ : T_impl_AttrKind)] : List T_impl_AttrKind).map (c_T_impl_AttrKind false))], .box [.im false (([(⟨(ByteArray.mk #[68, 111, 99]), ([(ByteArray.mk #[68, 111, 99]), (ByteArray.mk #[71, 114, 111, 117, 112])] : List ByteArray), ([(⟨(ByteArray.mk #[100, 101, 112, 116]), (ByteArray.mk #[116, 101, 120, 116]), true⟩ : T_impl_AttrKind), (⟨(ByteArray.mk #[111, 112, 101, 110]), (ByteArray.mk #[98, 111, 111, 108]), true⟩ : T_impl_AttrKind), (⟨(ByteArray.mk #[111, 119, 110, 101, 114]), (ByteArray.mk #[114, 101, 102, 32, 85, 115, 101, 114]), true⟩ : T_impl_AttrKind), (⟨(ByteArray.mk #[116, 97, 103, 115]), (ByteArray.mk #[115, 101, 116, 32, 116, 101, 120, 116]), false⟩ : T_impl_AttrKind)] : List T_impl_AttrKind)⟩ : T_impl_ThingType), (⟨(ByteArray.mk #[71, 114, 111, 117, 112]), ([(ByteArray.mk #[71, 114, 111, 117, 112])] : List ByteArray), ([] : List T_impl_AttrKind)⟩ : T_impl_ThingType), (⟨(ByteArray.mk #[85, 115, 101, 114]), ([(ByteArray.mk #[71, 114, 111, 117, 112])] : List ByteArray), ([(⟨(ByteArray.mk #[97, 103, 101]), (ByteArray.mk #[110, 117, 109]), true⟩ : T_impl_AttrKind), (⟨(ByteArray.mk #[98, 111, 115, 115]), (ByteArray.mk #[114, 101, 102, 32, 85, 115, 101, 114]), false⟩ : T_impl_AttrKind), (⟨(ByteArray.mk #[100, 101, 112, 116]), (ByteArray.mk #[116, 101, 120, 116]), r1⟩ : T_impl_AttrKind), (⟨(ByteArray.mk #[116, 97, 103, 115]), (ByteArray.mk #[115, 101, 116, 32, 116, 101, 120, 116]), true⟩ : T_impl_AttrKind)] : List T_impl_AttrKind)⟩ : T_impl_ThingType)] : List T_impl_ThingType).map (c_T_impl_ThingType false)), .nilS]]) rfl) ?_
 refine T.region ?_
 refine TL.st rfl rfl rfl (o_sliceIm (rows := ([(ByteArray.mk #[85, 115, 101, 114])] : List ByteArray).map (c_str)) rfl rfl tyS_9 ⟨_, rfl, rfl⟩ (by decide) rfl rfl rfl rfl rfl rfl) ?_
 refine TL.st rfl rfl rfl (o_sliceIm (rows := ([(ByteArray.mk #[68, 111, 99])] : List ByteArray).map (c_str)) rfl rfl tyS_9 ⟨_, rfl, rfl⟩ (by decide) rfl rfl rfl rfl rfl rfl) ?_
 refine au 2 ?_
 refine TL.st rfl rfl rfl (o_sliceIm (rows := ([(ByteArray.mk #[71, 114, 111, 117, 112]), (ByteArray.mk #[85, 115, 101, 114])] : List ByteArray).map (c_str)) rfl rfl tyS_9 ⟨_, rfl, rfl⟩ (by decide) rfl rfl rfl rfl rfl rfl) ?_
 refine TL.st rfl rfl rfl (o_sliceIm (rows := ([(ByteArray.mk #[68, 111, 99]), (ByteArray.mk #[85, 115, 101, 114])] : List ByteArray).map (c_str)) rfl rfl tyS_9 ⟨_, rfl, rfl⟩ (by decide) rfl rfl rfl rfl rfl rfl) ?_
 refine TL.st rfl rfl rfl (o_move rfl rfl) ?_
 obtain ⟨l4, h5, H⟩ := bind_s H
 refine TL.st rfl rfl rfl (o_subL (f := c_T_impl_AttrKind false) (xs := ([(⟨(ByteArray.mk #[97, 103, 101]), (ByteArray.mk #[110, 117, 109]), false⟩ : T_impl_AttrKind), (⟨(ByteArray.mk #[102, 114, 111, 109]), (ByteArray.mk #[97, 100, 100, 114]), true⟩ : T_impl_AttrKind), (⟨(ByteArray.mk #[119, 104, 101, 110]), (ByteArray.mk #[116, 105, 109, 101]), true⟩ : T_impl_AttrKind)] : List T_impl_AttrKind)) rfl rfl tyS_78 rfl rfl rfl (fun _ => rfl) h5) ?_
 refine TL.st rfl rfl rfl (o_build rfl ⟨_, fun _ => rfl, rfl⟩ rfl rfl rfl) ?_
 refine TL.st rfl rfl rfl (o_sliceIm (rows := ([(⟨(ByteArray.mk #[101, 100, 105, 116]), ([(ByteArray.mk #[85, 115, 101, 114])] : List ByteArray), ([(ByteArray.mk #[68, 111, 99])] : List ByteArray), ([(⟨(ByteArray.mk #[97, 103, 101]), (ByteArray.mk #[110, 117, 109]), false⟩ : T_impl_AttrKind), (⟨(ByteArray.mk #[102, 114, 111, 109]), (ByteArray.mk #[97, 100, 100, 114]), true⟩ : T_impl_AttrKind), (⟨(ByteArray.mk #[119, 104, 101, 110]), (ByteArray.mk #[116, 105, 109, 101]), true⟩ : T_impl_AttrKind)] : List T_impl_AttrKind)⟩ : T_impl_ActionType), (⟨(ByteArray.mk #[118, 105, 101, 119]), ([(ByteArray.mk #[71, 114, 111, 117, 112]), (ByteArray.mk #[85, 115, 101, 114])] : List ByteArray), ([(ByteArray.mk #[68, 111, 99]), (ByteArray.mk #[85, 115, 101, 114])] : List ByteArray), l4⟩ : T_impl_ActionType)] : List T_impl_ActionType).map (c_T_impl_ActionType false)) rfl rfl tyS_74 ⟨_, rfl, rfl⟩ (by decide) rfl rfl rfl rfl rfl rfl) ?_
 refine au 9 ?_
 cases some_i H
 exact ⟨trivial, _, (.cell _ _ _ _ _ _ _ _ _ _ rfl rfl tyS_49 (nb rfl) rfl .nil), ⟨rfl, _, rfl⟩⟩
theorem en_11 : En Tryz.prog 11 := .of Tryz.func11 rfl rfl
noncomputable def spec_l10Ref (a0 : ByteArray) (a1 : ByteArray) : Option T_impl_Atom :=
  some (⟨4, 0, a1, a0⟩ : T_impl_Atom)
theorem spec_l10Ref_p  {a0 : ByteArray} {a1 : ByteArray} {R0 : T_impl_Atom} (H : spec_l10Ref a0 a1 = some R0) : Pure Tryz.prog 27 [.str a0, .str a1] (.agg (c_T_impl_Atom false R0)) := by
 refine CallT.of_TN (n := 8) Tryz.func27 rfl rfl rfl rfl ?_
 refine au 12 ?_
 cases some_i H
 exact ⟨trivial, _, (.cell _ _ _ _ _ _ _ _ _ _ rfl rfl tyS_25 (nb rfl) rfl .nil), (.cl _ rfl)⟩
theorem en_27 : En Tryz.prog 27 := .of Tryz.func27 rfl rfl
noncomputable def spec_l11ThingType_l1 (a0 : T_impl_PolSchema) (a1 : ByteArray) : Int → Option (Int ⊕ (Unit ⊕ (T_impl_ThingType × Bool))) := fun s => match s with
  | v1 => cond (decide (v1 < (a0.Things_.length : Int))) ((idx a0.Things_ v1).bind fun e4 => cond (e4.Name_.toList == a1.toList) (some (.inr (.inr (e4, true)))) (some (.inl (IntKind.i64.wrap (v1 + 1))))) (some (.inr (.inl ())))
noncomputable def spec_l11ThingType (a0 : T_impl_PolSchema) (a1 : ByteArray) : Option (T_impl_ThingType × Bool) :=
  (loopO (spec_l11ThingType_l1 a0 a1) 0).bind fun q6 => (match q6 with | .inl _ => some ((⟨e0, ([] : List ByteArray), ([] : List T_impl_AttrKind)⟩ : T_impl_ThingType), false) | .inr q2 => some q2)
theorem spec_l11ThingType_p (b0 : Bool) {a0 : T_impl_PolSchema} {a1 : ByteArray} {R0 : T_impl_ThingType} {R1 : Bool} (H : spec_l11ThingType a0 a1 = some (R0, R1)) : Pure Tryz.prog 28 [.agg (c_T_impl_PolSchema b0 a0), .str a1] (.tup [.agg (c_T_impl_ThingType false R0), .bool R1]) := by
 refine CallT.of_TN (n := 22) Tryz.func28 rfl rfl rfl rfl ?_
 refine au 11 ?_
 refine TL.st rfl rfl rfl (o_lenL (f := c_T_impl_ThingType false) rfl rfl rfl) ?_
 refine au 3 ?_
 obtain ⟨q6, h7, H⟩ := bind_s H
 refine T.lq (fun s => match s with | v1 => [(1, .str a1), (4, .bx 1 0), (9, .im b0 (a0.Things_.map (c_T_impl_ThingType false))), (10, .int .i64 (a0.Things_.length : Int)), (11, .int .i64 v1)]) (fun s => match s with | v1 => [.box (c_T_impl_PolSchema b0 a0), .box [.str e0, .nilS, .nilS]]) (fun q ex fr σ => match q with | .inl _ => ex = .exit 0 ∧ fr = [(4, .bx 1 0)] ∧ σ = [.box (c_T_impl_PolSchema b0 a0), .box [.str e0, .nilS, .nilS]] | .inr q2 => ex = .ret ∧ RetN Tryz.prog [.cell 4 66, .tmp 5] (fun v τ => Told τ v (.tup [.agg (c_T_impl_ThingType false q2.1), .bool q2.2])) .ret fr σ) h7 ?_ ?_
 ·rintro v1 y3 H
  refine au 5 ?_
  refine T.cH H (fun H h => ?_) (fun H h => ?_)
  ·refine au 5 ?_
   obtain ⟨e4, h5, H⟩ := bind_s H
   refine TL.st rfl rfl rfl (o_ix (f := c_T_impl_ThingType false) rfl rfl tyS_66 rfl rfl h5 rfl) ?_
   refine au 11 ?_
   refine T.cH H (fun H h => ?_) (fun H h => ?_)
   ·refine au 6 ?_
    refine T.conv (Cs.eqS (σ' := [_, .box (c_T_impl_ThingType false e4), .box (c_T_impl_ThingType false e4)]) rfl) ?_
    refine T.ret ?_
    refine inB_ret (thn_ret ?_)
    exact Pk.id (thn_ret ⟨.inr (e4, true), (some_i H).symm, rfl, ⟨trivial, _, (.cell _ _ _ _ _ _ _ _ _ _ rfl rfl tyS_66 (nb rfl) rfl (.tmp _ _ _ _ rfl .nil)), (.tupL (.cons _ _ _ _ (.cl _ rfl) (.cons _ _ _ _ (.cl _ rfl) .nil)))⟩⟩)
   ·refine au 5 ?_
    exact Pk.of (thn_normal ⟨(IntKind.i64.wrap (v1 + 1)), (some_i H).symm, rfl, rfl⟩)
  ·refine T.exit ?_
   refine thn_exit ?_
   exact Pk.of (thn_exit ⟨.inl (), (some_i H).symm, rfl, rfl, rfl⟩)
 ·rcases q6 with ⟨⟩ | q2
  ·rintro _ _ _ ⟨rfl, rfl, rfl⟩
   refine inB_here ?_
   refine au 7 ?_
   cases some_i H
   exact ⟨trivial, _, (.cell _ _ _ _ _ _ _ _ _ _ rfl rfl tyS_66 (nb rfl) rfl (.tmp _ _ _ _ rfl .nil)), (.tupL (.cons _ _ _ _ (.aggL (.cons _ _ _ _ (.cl _ rfl) (.cons _ _ _ _ .nil (.cons _ _ _ _ .nil .nil)))) (.cons _ _ _ _ (.cl _ rfl) .nil)))⟩
  ·rintro _ fr1 σ1 ⟨rfl, hr⟩
   refine inB_ret (thn_ret ?_)
   cases some_i H
   exact hr
theorem en_28 : En Tryz.prog 28 := .of Tryz.func28 rfl rfl
theorem tyE_9 : TyE Tryz.prog 9 1 := ⟨_, _, rfl, rfl, rfl, rfl, by decide, by decide⟩
noncomputable def spec_l1Cur_of (a0 : (List ByteArray)) (s0 : T_spec_l1Cur) : Option (ByteArray × T_spec_l1Cur) :=
  (spec_l1Cur_pick (a0.length : Int) s0).bind fun q => (match q with | (r1, o2) => (idx a0 r1).bind fun e4 => some (e4, o2))
theorem spec_l1Cur_of_p (b0 : Bool) (c0 : Bool) {a0 : (List ByteArray)} {s0 : T_spec_l1Cur} {R0 : ByteArray} {U0 : T_spec_l1Cur} (H : spec_l1Cur_of a0 s0 = some (R0, U0)) : St Tryz.prog 31 [.bx 0 0, .im b0 (a0.map (c_str))] [.box (c_T_spec_l1Cur c0 s0)] (.str R0) [.box (c_T_spec_l1Cur c0 U0)] := by
 refine CallT.fin (CallT.of_TN (n := 12) Tryz.func31 rfl rfl rfl rfl ?_) rfl rfl ⟨(bels_iff.1 rfl), trivial⟩
 refine au 9 ?_
 refine TL.st rfl rfl rfl (o_lenL (f := c_str) rfl rfl rfl) ?_
 obtain ⟨⟨r1, o2⟩, h3, H⟩ := bind_s H
 refine TL.st rfl rfl rfl (o_callS [0] rfl en_33 rfl rfl (spec_l1Cur_pick_p c0 h3) rfl (by decide) (.cons _ _ _ _ rfl .nil) rfl rfl rfl) ?_
 obtain ⟨e4, h5, H⟩ := bind_s H
 refine TL.st rfl rfl rfl (o_ix (f := c_str) rfl rfl tyS_9 rfl rfl h5 rfl) ?_
 refine au 4 ?_
 cases some_i H
 exact ⟨trivial, _, (.tmp _ _ _ _ rfl .nil), ⟨rfl, _, rfl⟩⟩
theorem en_31 : En Tryz.prog 31 := .of Tryz.func31 rfl rfl
noncomputable def spec_l1Pow2_l1 (a0 : Int) : (Int × Int) → Option ((Int × Int) ⊕ Int) := fun s => match s with
  | (v1, v2) => cond (decide (v2 < a0)) (some (.inl ((IntKind.i64.wrap (v1 * 2)), (IntKind.i64.wrap (v2 + 1))))) (some (.inr v1))
noncomputable def spec_l1Pow2 (a0 : Int) : Option Int :=
  (loopO (spec_l1Pow2_l1 a0) (1, 0)).bind fun v3 => (match v3 with | v3 => some v3)
theorem spec_l1Pow2_p  {a0 : Int} {R0 : Int} (H : spec_l1Pow2 a0 = some R0) : Pure Tryz.prog 58 [.int .i64 a0] (.int .i64 R0) := by
 refine CallT.of_TN (n := 13) Tryz.func58 rfl rfl rfl rfl ?_
 refine au 14 ?_
 obtain ⟨v3, h6, H⟩ := bind_s H
 refine T.lq (fun s => match s with | (v1, v2) => [(0, .int .i64 a0), (3, .int .i64 v1), (4, .int .i64 v2)]) (fun s => match s with | (v1, v2) => []) (fun q ex fr σ => match q with | v3 => ex = .exit 0 ∧ fr = [(3, .int .i64 v3)] ∧ σ = []) h6 ?_ ?_
 ·rintro ⟨v1, v2⟩ y4 H
  refine au 7 ?_
  refine T.cH H (fun H h => ?_) (fun H h => ?_)
  ·refine au 13 ?_
   exact Pk.of (thn_normal ⟨((IntKind.i64.wrap (v1 * 2)), (IntKind.i64.wrap (v2 + 1))), (some_i H).symm, rfl, rfl⟩)
  ·refine T.exit ?_
   refine thn_exit ?_
   exact Pk.of (thn_exit ⟨v1, (some_i H).symm, rfl, rfl, rfl⟩)
 ·rintro _ _ _ ⟨rfl, rfl, rfl⟩
  refine inB_here ?_
  refine au 6 ?_
  cases some_i H
  exact ⟨trivial, _, (.tmp _ _ _ _ rfl .nil), (.cl _ rfl)⟩
theorem en_58 : En Tryz.prog 58 := .of Tryz.func58 rfl rfl
noncomputable def spec_l1Cur_block (s0 : T_spec_l1Cur) : Option (T_impl_Atom × T_spec_l1Cur) :=
  (spec_l1Cur_pick 6 s0).bind fun q => (match q with | (r1, o2) => (idx ([0, 8, 16, 24, 31, 32] : List Int) r1).bind fun e4 => (spec_l1Cur_pick 4 o2).bind fun q => (match q with | (r6, o7) => (idx ([10, 10, 192, 255] : List Int) r6).bind fun e9 => (spec_l1Cur_pick 3 o7).bind fun q => (match q with | (r11, o12) => (spec_l1Cur_pick 2 o12).bind fun q => (match q with | (r14, o15) => (spec_l1Cur_pick 4 o15).bind fun q => (match q with | (r17, o18) => (spec_l1Pow2 (IntKind.i64.wrap (32 - e4))).bind fun r20 => (nz r20).bind fun z22 => some ((⟨6, (IntKind.i64.wrap ((IntKind.i64.wrap ((IntKind.i64.wrap ((IntKind.i64.wrap (Int.tdiv (IntKind.i64.wrap ((IntKind.i64.wrap ((IntKind.i64.wrap ((IntKind.i64.wrap (e9 * 16777216)) + (IntKind.i64.wrap (r11 * 65536)))) + (IntKind.i64.wrap (r14 * 256)))) + r17)) r20)) * r20)) * 64)) + e4)), e0, e0⟩ : T_impl_Atom), o18))))))
theorem spec_l1Cur_block_p (c0 : Bool) {s0 : T_spec_l1Cur} {R0 : T_impl_Atom} {U0 : T_spec_l1Cur} (H : spec_l1Cur_block s0 = some (R0, U0)) : St Tryz.prog 36 [.bx 0 0] [.box (c_T_spec_l1Cur c0 s0)] (.agg (c_T_impl_Atom false R0)) [.box (c_T_spec_l1Cur c0 U0)] := by
 refine CallT.fin (CallT.of_TN (n := 40) Tryz.func36 rfl rfl rfl rfl ?_) rfl rfl ⟨(bels_iff.1 rfl), trivial⟩
 refine au 6 ?_
 refine TL.st rfl rfl rfl (o_sliceIm (rows := ([0, 8, 16, 24, 31, 32] : List Int).map (c_int .i64)) rfl rfl tyS_3 ⟨_, rfl, rfl⟩ (by decide) rfl rfl rfl rfl rfl rfl) ?_
 refine TL.st rfl rfl rfl (o_move rfl rfl) ?_
 obtain ⟨⟨r1, o2⟩, h3, H⟩ := bind_s H
 refine TL.st rfl rfl rfl (o_callS [0] rfl en_33 rfl rfl (spec_l1Cur_pick_p c0 h3) rfl (by decide) (.cons _ _ _ _ rfl .nil) rfl rfl rfl) ?_
 obtain ⟨e4, h5, H⟩ := bind_s H
 refine TL.st rfl rfl rfl (o_ix (f := c_int .i64) rfl rfl tyS_3 rfl rfl h5 rfl) ?_
 refine au 4 ?_
 refine T.drawn rfl ?_
 refine TD.qs rfl rfl (fun _ => o_sliceIm (rows := ([10, 10, 192, 255] : List Int).map (c_int .i64)) rfl rfl tyS_3 ⟨_, rfl, rfl⟩ (by decide) rfl rfl rfl rfl rfl rfl) ?_
 refine TD.qs rfl rfl (fun _ => o_move rfl rfl) ?_
 obtain ⟨⟨r6, o7⟩, h8, H⟩ := bind_s H
 refine TD.as rfl rfl (o_callS [0] rfl en_33 rfl rfl (spec_l1Cur_pick_p c0 h8) rfl (by decide) (.cons _ _ _ _ rfl .nil) rfl rfl rfl) ?_
 obtain ⟨e9, h10, H⟩ := bind_s H
 refine TD.qs rfl rfl (fun _ => o_ix (f := c_int .i64) rfl rfl tyS_3 rfl rfl h10 rfl) ?_
 refine TD.qs rfl rfl (fun _ => o_loadRf rfl tyS_3 rfl (nb rfl) rfl) ?_
 refine ad 2 ?_
 obtain ⟨⟨r11, o12⟩, h13, H⟩ := bind_s H
 refine TD.as rfl rfl (o_callS [0] rfl en_33 rfl rfl (spec_l1Cur_pick_p c0 h13) rfl (by decide) (.cons _ _ _ _ rfl .nil) rfl rfl rfl) ?_
 refine ad 3 ?_
 obtain ⟨⟨r14, o15⟩, h16, H⟩ := bind_s H
 refine TD.as rfl rfl (o_callS [0] rfl en_33 rfl rfl (spec_l1Cur_pick_p c0 h16) rfl (by decide) (.cons _ _ _ _ rfl .nil) rfl rfl rfl) ?_
 refine ad 3 ?_
 obtain ⟨⟨r17, o18⟩, h19, H⟩ := bind_s H
 refine TD.as rfl rfl (o_callS [0] rfl en_33 rfl rfl (spec_l1Cur_pick_p c0 h19) rfl (by decide) (.cons _ _ _ _ rfl .nil) rfl rfl rfl) ?_
 refine ad 2 ?_
 refine TD.nil ⟨rfl, ?_⟩
 refine T.seq ?_
 refine T.conv (Cs.eqS (σ' := [.box (c_T_spec_l1Cur c0 o18), .box [.int .i64 0, .int .i64 0, .str e0, .str e0]]) rfl) ?_
 refine au 3 ?_
 obtain ⟨r20, h21, H⟩ := bind_s H
 refine TL.st rfl rfl rfl (o_callP rfl en_58 rfl rfl (.cons _ _ _ _ (.cl _ rfl) .nil) (spec_l1Pow2_p  h21)) ?_
 refine au 6 ?_
 obtain ⟨z22, h23, H⟩ := bind_s H
 refine TL.st rfl rfl rfl (o_quo rfl rfl rfl (nz_s h23).1) ?_
 refine au 9 ?_
 cases some_i H
 exact ⟨trivial, _, (.cell _ _ _ _ _ _ _ _ _ _ rfl rfl tyS_25 (nb rfl) rfl .nil), ⟨rfl, _, rfl⟩⟩
theorem en_36 : En Tryz.prog 36 := .of Tryz.func36 rfl rfl
noncomputable def spec_l1Cur_wide_l1  : (T_spec_l1Cur × Int × Int) → Option ((T_spec_l1Cur × Int × Int) ⊕ (T_spec_l1Cur × Int)) := fun s => match s with
  | (b1, v2, v3) => cond (decide (v3 < 8)) ((spec_l1Cur_next b1).bind fun q => (match q with | (r7, o8) => some (.inl (o8, (IntKind.i64.wrap (BitVec.ofInt IntKind.i64.bits (IntKind.i64.wrap (v2 * 2 ^ (min (Int.toNat 8) IntKind.i64.bits))) ||| BitVec.ofInt IntKind.i64.bits r7).toNat), (IntKind.i64.wrap (v3 + 1)))))) (some (.inr (b1, v2)))
noncomputable def spec_l1Cur_wide (s0 : T_spec_l1Cur) : Option (Int × T_spec_l1Cur) :=
  (loopO (spec_l1Cur_wide_l1) (s0, 0, 0)).bind fun q10 => (match q10 with | (b4, v5) => some (v5, b4))
theorem spec_l1Cur_wide_p (c0 : Bool) {s0 : T_spec_l1Cur} {R0 : Int} {U0 : T_spec_l1Cur} (H : spec_l1Cur_wide s0 = some (R0, U0)) : St Tryz.prog 34 [.bx 0 0] [.box (c_T_spec_l1Cur c0 s0)] (.int .i64 R0) [.box (c_T_spec_l1Cur c0 U0)] := by
 refine CallT.fin (CallT.of_TN (n := 15) Tryz.func34 rfl rfl rfl rfl ?_) rfl rfl ⟨(bels_iff.1 rfl), trivial⟩
 refine au 14 ?_
 obtain ⟨q10, h11, H⟩ := bind_s H
 refine T.lq (fun s => match s with | (b1, v2, v3) => [(0, .bx 0 0), (3, .int .i64 v2), (4, .int .i64 v3)]) (fun s => match s with | (b1, v2, v3) => [.box (c_T_spec_l1Cur c0 b1)]) (fun q ex fr σ => match q with | (b4, v5) => ex = .exit 0 ∧ fr = [(3, .int .i64 v5)] ∧ σ = [.box (c_T_spec_l1Cur c0 b4)]) h11 ?_ ?_
 ·rintro ⟨b1, v2, v3⟩ y6 H
  refine au 6 ?_
  refine T.cH H (fun H h => ?_) (fun H h => ?_)
  ·refine au 5 ?_
   refine TL.st rfl rfl rfl (o_shl rfl rfl rfl (by decide)) ?_
   refine TL.st rfl rfl rfl (o_move rfl rfl) ?_
   obtain ⟨⟨r7, o8⟩, h9, H⟩ := bind_s H
   refine TL.st rfl rfl rfl (o_callS [0] rfl en_57 rfl rfl (spec_l1Cur_next_p c0 h9) rfl (by decide) (.cons _ _ _ _ rfl .nil) rfl rfl rfl) ?_
   refine TL.st rfl rfl rfl (o_bits rfl rfl rfl rfl) ?_
   refine au 7 ?_
   exact Pk.of (thn_normal ⟨(o8, (IntKind.i64.wrap (BitVec.ofInt IntKind.i64.bits (IntKind.i64.wrap (v2 * 2 ^ (min (Int.toNat 8) IntKind.i64.bits))) ||| BitVec.ofInt IntKind.i64.bits r7).toNat), (IntKind.i64.wrap (v3 + 1))), (some_i H).symm, rfl, rfl⟩)
  ·refine T.exit ?_
   refine thn_exit ?_
   exact Pk.of (thn_exit ⟨(b1, v2), (some_i H).symm, rfl, rfl, rfl⟩)
 ·rcases q10 with ⟨b4, v5⟩
  rintro _ _ _ ⟨rfl, rfl, rfl⟩
  refine inB_here ?_
  refine au 6 ?_
  cases some_i H
  exact ⟨trivial, _, (.tmp _ _ _ _ rfl .nil), ⟨rfl, _, rfl⟩⟩
theorem en_34 : En Tryz.prog 34 := .of Tryz.func34 rfl rfl
theorem tyE_5 : TyE Tryz.prog 5 1 := ⟨_, _, rfl, rfl, rfl, rfl, by decide, by decide⟩
noncomputable def spec_l1Cur_printed_l1  : (T_spec_l1Cur × List Int × Int) → Option ((T_spec_l1Cur × List Int × Int) ⊕ (T_spec_l1Cur × List Int)) := fun s => match s with
  | (b4, l5, v6) => cond (decide (v6 > 0)) ((spec_l1Cur_pick 18 b4).bind fun q => (match q with | (r10, o11) => (idxS (ByteArray.mk #[97, 98, 42, 92, 34, 44, 58, 32, 91, 93, 123, 125, 64, 49, 46, 47, 120, 126, 32]) r10).bind fun b13 => (app l5 ([b13] : List Int)).bind fun l15 => some (.inl (o11, l15, (IntKind.i64.wrap (v6 - 1)))))) (some (.inr (b4, l5)))
noncomputable def spec_l1Cur_printed (s0 : T_spec_l1Cur) : Option (ByteArray × T_spec_l1Cur) :=
  (spec_l1Cur_pick 6 s0).bind fun q => (match q with | (r1, o2) => (loopO (spec_l1Cur_printed_l1) (o2, ([] : List Int), r1)).bind fun q17 => (match q17 with | (b7, l8) => some ((byS l8), b7)))
theorem spec_l1Cur_printed_p (c0 : Bool) {s0 : T_spec_l1Cur} {R0 : ByteArray} {U0 : T_spec_l1Cur} (H : spec_l1Cur_printed s0 = some (R0, U0)) : St Tryz.prog 35 [.bx 0 0] [.box (c_T_spec_l1Cur c0 s0)] (.str R0) [.box (c_T_spec_l1Cur c0 U0)] := by
 refine CallT.fin (CallT.of_TN (n := 19) Tryz.func35 rfl rfl rfl rfl ?_) rfl rfl ⟨(bels_iff.1 rfl), trivial⟩
 refine au 12 ?_
 obtain ⟨⟨r1, o2⟩, h3, H⟩ := bind_s H
 refine TL.st rfl rfl rfl (o_callS [0] rfl en_33 rfl rfl (spec_l1Cur_pick_p c0 h3) rfl (by decide) (.cons _ _ _ _ rfl .nil) rfl rfl rfl) ?_
 refine au 3 ?_
 refine T.conv (Cs.own (t := 3) 1 rfl (by decide)) ?_
 obtain ⟨q17, h18, H⟩ := bind_s H
 refine T.lq (fun s => match s with | (b4, l5, v6) => [(0, .bx 0 0), (3, .hd 1 (l5.map (c_int .u8)).length 0 (l5.map (c_int .u8)).length), (4, .int .i64 v6)]) (fun s => match s with | (b4, l5, v6) => [.box (c_T_spec_l1Cur c0 b4), .arr .clo 1 (l5.map (c_int .u8))]) (fun q ex fr σ => match q with | (b7, l8) => ex = .exit 0 ∧ fr = [(3, .hd 1 (l8.map (c_int .u8)).length 0 (l8.map (c_int .u8)).length)] ∧ σ = [.box (c_T_spec_l1Cur c0 b7), .arr .clo 1 (l8.map (c_int .u8))]) h18 ?_ ?_
 ·rintro ⟨b4, l5, v6⟩ y9 H
  refine au 6 ?_
  refine T.cH H (fun H h => ?_) (fun H h => ?_)
  ·refine au 6 ?_
   obtain ⟨⟨r10, o11⟩, h12, H⟩ := bind_s H
   refine TL.st rfl rfl rfl (o_callS [0] rfl en_33 rfl rfl (spec_l1Cur_pick_p c0 h12) rfl (by decide) (.cons _ _ _ _ rfl .nil) rfl rfl rfl) ?_
   obtain ⟨b13, h14, H⟩ := bind_s H
   refine TL.st rfl rfl rfl (o_ixs rfl rfl rfl rfl h14) ?_
   refine TL.st rfl rfl rfl (o_sliceIm (rows := ([b13] : List Int).map (c_int .u8)) rfl rfl tyS_5 ⟨_, rfl, rfl⟩ (by decide) rfl rfl rfl rfl rfl rfl) ?_
   obtain ⟨l15, h16, H⟩ := bind_s H
   refine TL.st rfl rfl rfl (o_ap (f := c_int .u8) (xs := l5) (ys := ([b13] : List Int)) rfl rfl tyE_5 rfl rfl rfl rfl (by decide) rfl (fun _ => rfl) h16) ?_
   refine au 7 ?_
   exact Pk.of (thn_normal ⟨(o11, l15, (IntKind.i64.wrap (v6 - 1))), (some_i H).symm, rfl, rfl⟩)
  ·refine T.exit ?_
   refine thn_exit ?_
   exact Pk.of (thn_exit ⟨(b4, l5), (some_i H).symm, rfl, rfl, rfl⟩)
 ·rcases q17 with ⟨b7, l8⟩
  rintro _ _ _ ⟨rfl, rfl, rfl⟩
  refine inB_here ?_
  refine au 3 ?_
  refine TL.st rfl rfl rfl (o_bsOwn (f := c_int .u8) rfl rfl rfl rfl (fun _ => rfl) rfl rfl rfl) ?_
  refine au 3 ?_
  cases some_i H
  exact ⟨trivial, _, (.tmp _ _ _ _ rfl .nil), ⟨rfl, _, rfl⟩⟩
theorem en_35 : En Tryz.prog 35 := .of Tryz.func35 rfl rfl
noncomputable def spec_l1Cur_atom (s0 : T_spec_l1Cur) : Option (T_impl_Atom × T_spec_l1Cur) :=
  (spec_l1Cur_pick 9 s0).bind fun q => (match q with | (r1, o2) => cond (r1 == 0) ((spec_l1Cur_pick 2 o2).bind fun q => (match q with | (r4, o5) => some ((⟨1, r4, e0, e0⟩ : T_impl_Atom), o5))) (cond (r1 == 1) ((spec_l1Cur_pick 7 o2).bind fun q => (match q with | (r7, o8) => some ((⟨2, (IntKind.i64.wrap (r7 - 3)), e0, e0⟩ : T_impl_Atom), o8))) (cond (r1 == 2) ((spec_l1Cur_wide o2).bind fun q => (match q with | (r10, o11) => some ((⟨2, r10, e0, e0⟩ : T_impl_Atom), o11))) (cond (r1 == 3) ((spec_l1Cur_printed o2).bind fun q => (match q with | (r13, o14) => some ((⟨3, 0, r13, e0⟩ : T_impl_Atom), o14))) (cond (r1 == 4) ((spec_l1Cur_of ([(ByteArray.mk #[85, 115, 101, 114]), (ByteArray.mk #[68, 111, 99]), (ByteArray.mk #[95, 103, 49])] : List ByteArray) o2).bind fun q => (match q with | (r16, o17) => (spec_l1Cur_of ([(ByteArray.mk #[97, 110, 110]), (ByteArray.mk #[98, 111, 98]), (ByteArray.mk #[97, 32, 98]), (ByteArray.mk #[120, 34, 121]), (ByteArray.mk #[92])] : List ByteArray) o17).bind fun q => (match q with | (r19, o20) => some ((⟨4, 0, r19, r16⟩ : T_impl_Atom), o20)))) (cond (r1 == 5) ((spec_l1Cur_pick 40000 o2).bind fun q => (match q with | (r22, o23) => some ((⟨5, (IntKind.i64.wrap (r22 - 20000)), e0, e0⟩ : T_impl_Atom), o23))) (cond (r1 == 6) ((spec_l1Cur_block o2).bind fun q => (match q with | (r25, o26) => some (r25, o26))) (cond (r1 == 7) ((spec_l1Cur_pick 1000 o2).bind fun q => (match q with | (r28, o29) => some ((⟨7, (IntKind.i64.wrap (r28 - 10)), e0, e0⟩ : T_impl_Atom), o29))) ((spec_l1Cur_wide o2).bind fun q => (match q with | (r31, o32) => some ((⟨5, r31, e0, e0⟩ : T_impl_Atom), o32)))))))))))
theorem spec_l1Cur_atom_p (c0 : Bool) {s0 : T_spec_l1Cur} {R0 : T_impl_Atom} {U0 : T_spec_l1Cur} (H : spec_l1Cur_atom s0 = some (R0, U0)) : St Tryz.prog 14 [.bx 0 0] [.box (c_T_spec_l1Cur c0 s0)] (.agg (c_T_impl_Atom false R0)) [.box (c_T_spec_l1Cur c0 U0)] := by
 refine CallT.fin (CallT.of_TN (n := 54) Tryz.func14 rfl rfl rfl rfl ?_) rfl rfl ⟨(bels_iff.1 rfl), trivial⟩
 refine au 8 ?_
 obtain ⟨⟨r1, o2⟩, h3, H⟩ := bind_s H
 refine TL.st rfl rfl rfl (o_callS [0] rfl en_33 rfl rfl (spec_l1Cur_pick_p c0 h3) rfl (by decide) (.cons _ _ _ _ rfl .nil) rfl rfl rfl) ?_
 refine au 7 ?_
 refine T.cH H (fun H h => ?_) (fun H h => ?_)
 ·refine au 3 ?_
  obtain ⟨⟨r4, o5⟩, h6, H⟩ := bind_s H
  refine TL.st rfl rfl rfl (o_callS [0] rfl en_33 rfl rfl (spec_l1Cur_pick_p c0 h6) rfl (by decide) (.cons _ _ _ _ rfl .nil) rfl rfl rfl) ?_
  refine au 3 ?_
  refine T.conv (Cs.eqS (σ' := [.box (c_T_spec_l1Cur c0 o5), .box [.int .i64 1, .int .i64 r4, .str e0, .str e0]]) rfl) ?_
  refine T.ret ?_
  refine inB_ret (thn_ret ?_)
  cases some_i H
  exact ⟨trivial, _, (.cell _ _ _ _ _ _ _ _ _ _ rfl rfl tyS_25 (nb rfl) rfl .nil), ⟨rfl, _, rfl⟩⟩
 ·refine au 5 ?_
  refine T.cH H (fun H h => ?_) (fun H h => ?_)
  ·refine au 3 ?_
   obtain ⟨⟨r7, o8⟩, h9, H⟩ := bind_s H
   refine TL.st rfl rfl rfl (o_callS [0] rfl en_33 rfl rfl (spec_l1Cur_pick_p c0 h9) rfl (by decide) (.cons _ _ _ _ rfl .nil) rfl rfl rfl) ?_
   refine au 4 ?_
   refine T.conv (Cs.eqS (σ' := [.box (c_T_spec_l1Cur c0 o8), .box [.int .i64 2, .int .i64 (IntKind.i64.wrap (r7 - 3)), .str e0, .str e0]]) rfl) ?_
   refine T.ret ?_
   refine inB_ret (thn_ret ?_)
   cases some_i H
   exact ⟨trivial, _, (.cell _ _ _ _ _ _ _ _ _ _ rfl rfl tyS_25 (nb rfl) rfl .nil), ⟨rfl, _, rfl⟩⟩
  ·refine au 5 ?_
   refine T.cH H (fun H h => ?_) (fun H h => ?_)
   ·refine au 3 ?_
    obtain ⟨⟨r10, o11⟩, h12, H⟩ := bind_s H
    refine TL.st rfl rfl rfl (o_callS [0] rfl en_34 rfl rfl (spec_l1Cur_wide_p c0 h12) rfl (by decide) (.cons _ _ _ _ rfl .nil) rfl rfl rfl) ?_
    refine au 3 ?_
    refine T.conv (Cs.eqS (σ' := [.box (c_T_spec_l1Cur c0 o11), .box [.int .i64 2, .int .i64 r10, .str e0, .str e0]]) rfl) ?_
    refine T.ret ?_
    refine inB_ret (thn_ret ?_)
    cases some_i H
    exact ⟨trivial, _, (.cell _ _ _ _ _ _ _ _ _ _ rfl rfl tyS_25 (nb rfl) rfl .nil), ⟨rfl, _, rfl⟩⟩
   ·refine au 5 ?_
    refine T.cH H (fun H h => ?_) (fun H h => ?_)
    ·refine au 3 ?_
     obtain ⟨⟨r13, o14⟩, h15, H⟩ := bind_s H
     refine TL.st rfl rfl rfl (o_callS [0] rfl en_35 rfl rfl (spec_l1Cur_printed_p c0 h15) rfl (by decide) (.cons _ _ _ _ rfl .nil) rfl rfl rfl) ?_
     refine au 3 ?_
     refine T.conv (Cs.eqS (σ' := [.box (c_T_spec_l1Cur c0 o14), .box [.int .i64 3, .int .i64 0, .str r13, .str e0]]) rfl) ?_
     refine T.ret ?_
     refine inB_ret (thn_ret ?_)
     cases some_i H
     exact ⟨trivial, _, (.cell _ _ _ _ _ _ _ _ _ _ rfl rfl tyS_25 (nb rfl) rfl .nil), ⟨rfl, _, rfl⟩⟩
    ·refine au 5 ?_
     refine T.cH H (fun H h => ?_) (fun H h => ?_)
     ·refine au 3 ?_
      refine TL.st rfl rfl rfl (o_sliceIm (rows := ([(ByteArray.mk #[85, 115, 101, 114]), (ByteArray.mk #[68, 111, 99]), (ByteArray.mk #[95, 103, 49])] : List ByteArray).map (c_str)) rfl rfl tyS_9 ⟨_, rfl, rfl⟩ (by decide) rfl rfl rfl rfl rfl rfl) ?_
      obtain ⟨⟨r16, o17⟩, h18, H⟩ := bind_s H
      refine TL.st rfl rfl rfl (o_callS [0] rfl en_31 rfl rfl (spec_l1Cur_of_p false c0 h18) rfl (by decide) (.cons _ _ _ _ rfl .nil) rfl rfl rfl) ?_
      refine TL.st rfl rfl rfl (o_move rfl rfl) ?_
      refine TL.st rfl rfl rfl (o_sliceIm (rows := ([(ByteArray.mk #[97, 110, 110]), (ByteArray.mk #[98, 111, 98]), (ByteArray.mk #[97, 32, 98]), (ByteArray.mk #[120, 34, 121]), (ByteArray.mk #[92])] : List ByteArray).map (c_str)) rfl rfl tyS_9 ⟨_, rfl, rfl⟩ (by decide) rfl rfl rfl rfl rfl rfl) ?_
      obtain ⟨⟨r19, o20⟩, h21, H⟩ := bind_s H
      refine TL.st rfl rfl rfl (o_callS [0] rfl en_31 rfl rfl (spec_l1Cur_of_p false c0 h21) rfl (by decide) (.cons _ _ _ _ rfl .nil) rfl rfl rfl) ?_
      refine au 3 ?_
      refine T.conv (Cs.eqS (σ' := [.box (c_T_spec_l1Cur c0 o20), .box [.int .i64 4, .int .i64 0, .str r19, .str r16]]) rfl) ?_
      refine T.ret ?_
      refine inB_ret (thn_ret ?_)
      cases some_i H
      exact ⟨trivial, _, (.cell _ _ _ _ _ _ _ _ _ _ rfl rfl tyS_25 (nb rfl) rfl .nil), ⟨rfl, _, rfl⟩⟩
     ·refine au 5 ?_
      refine T.cH H (fun H h => ?_) (fun H h => ?_)
      ·refine au 3 ?_
       obtain ⟨⟨r22, o23⟩, h24, H⟩ := bind_s H
       refine TL.st rfl rfl rfl (o_callS [0] rfl en_33 rfl rfl (spec_l1Cur_pick_p c0 h24) rfl (by decide) (.cons _ _ _ _ rfl .nil) rfl rfl rfl) ?_
       refine au 4 ?_
       refine T.conv (Cs.eqS (σ' := [.box (c_T_spec_l1Cur c0 o23), .box [.int .i64 5, .int .i64 (IntKind.i64.wrap (r22 - 20000)), .str e0, .str e0]]) rfl) ?_
       refine T.ret ?_
       refine inB_ret (thn_ret ?_)
       cases some_i H
       exact ⟨trivial, _, (.cell _ _ _ _ _ _ _ _ _ _ rfl rfl tyS_25 (nb rfl) rfl .nil), ⟨rfl, _, rfl⟩⟩
      ·refine au 5 ?_
       refine T.cH H (fun H h => ?_) (fun H h => ?_)
       ·refine au 3 ?_
        obtain ⟨⟨r25, o26⟩, h27, H⟩ := bind_s H
        refine TL.st rfl rfl rfl (o_callS [0] rfl en_36 rfl rfl (spec_l1Cur_block_p c0 h27) rfl (by decide) (.cons _ _ _ _ rfl .nil) rfl rfl rfl) ?_
        refine au 2 ?_
        refine T.conv (Cs.eqS (σ' := [.box (c_T_spec_l1Cur c0 o26), .box (c_T_impl_Atom false r25)]) rfl) ?_
        refine T.ret ?_
        refine inB_ret (thn_ret ?_)
        cases some_i H
        exact ⟨trivial, _, (.cell _ _ _ _ _ _ _ _ _ _ rfl rfl tyS_25 (nb rfl) rfl .nil), ⟨rfl, _, rfl⟩⟩
       ·refine au 5 ?_
        refine T.cH H (fun H h => ?_) (fun H h => ?_)
        ·refine au 3 ?_
         obtain ⟨⟨r28, o29⟩, h30, H⟩ := bind_s H
         refine TL.st rfl rfl rfl (o_callS [0] rfl en_33 rfl rfl (spec_l1Cur_pick_p c0 h30) rfl (by decide) (.cons _ _ _ _ rfl .nil) rfl rfl rfl) ?_
         refine au 4 ?_
         refine T.conv (Cs.eqS (σ' := [.box (c_T_spec_l1Cur c0 o29), .box [.int .i64 7, .int .i64 (IntKind.i64.wrap (r28 - 10)), .str e0, .str e0]]) rfl) ?_
         refine T.ret ?_
         refine inB_ret (thn_ret ?_)
         cases some_i H
         exact ⟨trivial, _, (.cell _ _ _ _ _ _ _ _ _ _ rfl rfl tyS_25 (nb rfl) rfl .nil), ⟨rfl, _, rfl⟩⟩
        ·refine au 4 ?_
         obtain ⟨⟨r31, o32⟩, h33, H⟩ := bind_s H
         refine TL.st rfl rfl rfl (o_callS [0] rfl en_34 rfl rfl (spec_l1Cur_wide_p c0 h33) rfl (by decide) (.cons _ _ _ _ rfl .nil) rfl rfl rfl) ?_
         refine au 3 ?_
         refine T.conv (Cs.eqS (σ' := [.box (c_T_spec_l1Cur c0 o32), .box [.int .i64 5, .int .i64 r31, .str e0, .str e0]]) rfl) ?_
         refine T.ret ?_
         cases some_i H
         exact ⟨trivial, _, (.cell _ _ _ _ _ _ _ _ _ _ rfl rfl tyS_25 (nb rfl) rfl .nil), ⟨rfl, _, rfl⟩⟩
theorem en_14 : En Tryz.prog 14 := .of Tryz.func14 rfl rfl
noncomputable def spec_l1Cur_kindAtom (a0 : ByteArray) (s0 : T_spec_l1Cur) : Option (T_impl_Atom × T_spec_l1Cur) :=
  cond (a0.toList == (ByteArray.mk #[110, 117, 109]).toList) ((spec_l1Cur_pick 7 s0).bind fun q => (match q with | (r1, o2) => some ((⟨2, (IntKind.i64.wrap (r1 - 2)), e0, e0⟩ : T_impl_Atom), o2))) (cond (a0.toList == (ByteArray.mk #[116, 101, 120, 116]).toList) ((spec_l1Cur_of ([(ByteArray.mk #[108, 97, 98]), (ByteArray.mk #[97]), (ByteArray.mk #[98]), (ByteArray.mk #[97, 42, 98])] : List ByteArray) s0).bind fun q => (match q with | (r4, o5) => some ((⟨3, 0, r4, e0⟩ : T_impl_Atom), o5))) (cond (a0.toList == (ByteArray.mk #[98, 111, 111, 108]).toList) ((spec_l1Cur_pick 2 s0).bind fun q => (match q with | (r7, o8) => some ((⟨1, r7, e0, e0⟩ : T_impl_Atom), o8))) (cond (a0.toList == (ByteArray.mk #[97, 100, 100, 114]).toList) ((spec_l1Cur_block s0).bind fun q => (match q with | (r10, o11) => some (r10, o11))) (cond (a0.toList == (ByteArray.mk #[116, 105, 109, 101]).toList) ((spec_l1Cur_pick 9 s0).bind fun q => (match q with | (r13, o14) => some ((⟨7, r13, e0, e0⟩ : T_impl_Atom), o14))) (cond (a0.toList == (ByteArray.mk #[114, 101, 102, 32, 85, 115, 101, 114]).toList) ((spec_l1Cur_of ([(ByteArray.mk #[97, 110, 110]), (ByteArray.mk #[98, 111, 98])] : List ByteArray) s0).bind fun q => (match q with | (r16, o17) => (spec_l10Ref (ByteArray.mk #[85, 115, 101, 114]) r16).bind fun r19 => some (r19, o17))) ((spec_l1Cur_atom s0).bind fun q => (match q with | (r21, o22) => some (r21, o22))))))))
theorem spec_l1Cur_kindAtom_p (c0 : Bool) {a0 : ByteArray} {s0 : T_spec_l1Cur} {R0 : T_impl_Atom} {U0 : T_spec_l1Cur} (H : spec_l1Cur_kindAtom a0 s0 = some (R0, U0)) : St Tryz.prog 92 [.bx 0 0, .str a0] [.box (c_T_spec_l1Cur c0 s0)] (.agg (c_T_impl_Atom false R0)) [.box (c_T_spec_l1Cur c0 U0)] := by
 refine CallT.fin (CallT.of_TN (n := 40) Tryz.func92 rfl rfl rfl rfl ?_) rfl rfl ⟨(bels_iff.1 rfl), trivial⟩
 refine au 15 ?_
 refine T.cH H (fun H h => ?_) (fun H h => ?_)
 ·refine au 3 ?_
  obtain ⟨⟨r1, o2⟩, h3, H⟩ := bind_s H
  refine TL.st rfl rfl rfl (o_callS [0] rfl en_33 rfl rfl (spec_l1Cur_pick_p c0 h3) rfl (by decide) (.cons _ _ _ _ rfl .nil) rfl rfl rfl) ?_
  refine au 4 ?_
  refine T.conv (Cs.eqS (σ' := [.box (c_T_spec_l1Cur c0 o2), .box [.int .i64 2, .int .i64 (IntKind.i64.wrap (r1 - 2)), .str e0, .str e0]]) rfl) ?_
  refine T.ret ?_
  refine inB_ret (thn_ret ?_)
  cases some_i H
  exact ⟨trivial, _, (.cell _ _ _ _ _ _ _ _ _ _ rfl rfl tyS_25 (nb rfl) rfl .nil), ⟨rfl, _, rfl⟩⟩
 ·refine au 5 ?_
  refine T.cH H (fun H h => ?_) (fun H h => ?_)
  ·refine au 3 ?_
   refine TL.st rfl rfl rfl (o_sliceIm (rows := ([(ByteArray.mk #[108, 97, 98]), (ByteArray.mk #[97]), (ByteArray.mk #[98]), (ByteArray.mk #[97, 42, 98])] : List ByteArray).map (c_str)) rfl rfl tyS_9 ⟨_, rfl, rfl⟩ (by decide) rfl rfl rfl rfl rfl rfl) ?_
   obtain ⟨⟨r4, o5⟩, h6, H⟩ := bind_s H
   refine TL.st rfl rfl rfl (o_callS [0] rfl en_31 rfl rfl (spec_l1Cur_of_p false c0 h6) rfl (by decide) (.cons _ _ _ _ rfl .nil) rfl rfl rfl) ?_
   refine au 3 ?_
   refine T.conv (Cs.eqS (σ' := [.box (c_T_spec_l1Cur c0 o5), .box [.int .i64 3, .int .i64 0, .str r4, .str e0]]) rfl) ?_
   refine T.ret ?_
   refine inB_ret (thn_ret ?_)
   cases some_i H
   exact ⟨trivial, _, (.cell _ _ _ _ _ _ _ _ _ _ rfl rfl tyS_25 (nb rfl) rfl .nil), ⟨rfl, _, rfl⟩⟩
  ·refine au 5 ?_
   refine T.cH H (fun H h => ?_) (fun H h => ?_)
   ·refine au 3 ?_
    obtain ⟨⟨r7, o8⟩, h9, H⟩ := bind_s H
    refine TL.st rfl rfl rfl (o_callS [0] rfl en_33 rfl rfl (spec_l1Cur_pick_p c0 h9) rfl (by decide) (.cons _ _ _ _ rfl .nil) rfl rfl rfl) ?_
    refine au 3 ?_
    refine T.conv (Cs.eqS (σ' := [.box (c_T_spec_l1Cur c0 o8), .box [.int .i64 1, .int .i64 r7, .str e0, .str e0]]) rfl) ?_
    refine T.ret ?_
    refine inB_ret (thn_ret ?_)
    cases some_i H
    exact ⟨trivial, _, (.cell _ _ _ _ _ _ _ _ _ _ rfl rfl tyS_25 (nb rfl) rfl .nil), ⟨rfl, _, rfl⟩⟩
   ·refine au 5 ?_
    refine T.cH H (fun H h => ?_) (fun H h => ?_)
    ·refine au 3 ?_
     obtain ⟨⟨r10, o11⟩, h12, H⟩ := bind_s H
     refine TL.st rfl rfl rfl (o_callS [0] rfl en_36 rfl rfl (spec_l1Cur_block_p c0 h12) rfl (by decide) (.cons _ _ _ _ rfl .nil) rfl rfl rfl) ?_
     refine au 2 ?_
     refine T.conv (Cs.eqS (σ' := [.box (c_T_spec_l1Cur c0 o11), .box (c_T_impl_Atom false r10)]) rfl) ?_
     refine T.ret ?_
     refine inB_ret (thn_ret ?_)
     cases some_i H
     exact ⟨trivial, _, (.cell _ _ _ _ _ _ _ _ _ _ rfl rfl tyS_25 (nb rfl) rfl .nil), ⟨rfl, _, rfl⟩⟩
    ·refine au 5 ?_
     refine T.cH H (fun H h => ?_) (fun H h => ?_)
     ·refine au 3 ?_
      obtain ⟨⟨r13, o14⟩, h15, H⟩ := bind_s H
      refine TL.st rfl rfl rfl (o_callS [0] rfl en_33 rfl rfl (spec_l1Cur_pick_p c0 h15) rfl (by decide) (.cons _ _ _ _ rfl .nil) rfl rfl rfl) ?_
      refine au 3 ?_
      refine T.conv (Cs.eqS (σ' := [.box (c_T_spec_l1Cur c0 o14), .box [.int .i64 7, .int .i64 r13, .str e0, .str e0]]) rfl) ?_
      refine T.ret ?_
      refine inB_ret (thn_ret ?_)
      cases some_i H
      exact ⟨trivial, _, (.cell _ _ _ _ _ _ _ _ _ _ rfl rfl tyS_25 (nb rfl) rfl .nil), ⟨rfl, _, rfl⟩⟩
     ·refine au 5 ?_
      refine T.cH H (fun H h => ?_) (fun H h => ?_)
      ·refine au 3 ?_
       refine TL.st rfl rfl rfl (o_sliceIm (rows := ([(ByteArray.mk #[97, 110, 110]), (ByteArray.mk #[98, 111, 98])] : List ByteArray).map (c_str)) rfl rfl tyS_9 ⟨_, rfl, rfl⟩ (by decide) rfl rfl rfl rfl rfl rfl) ?_
       obtain ⟨⟨r16, o17⟩, h18, H⟩ := bind_s H
       refine TL.st rfl rfl rfl (o_callS [0] rfl en_31 rfl rfl (spec_l1Cur_of_p false c0 h18) rfl (by decide) (.cons _ _ _ _ rfl .nil) rfl rfl rfl) ?_
       obtain ⟨r19, h20, H⟩ := bind_s H
       refine TL.st rfl rfl rfl (o_callP rfl en_27 rfl rfl (.cons _ _ _ _ (.cl _ rfl) (.cons _ _ _ _ (.cl _ rfl) .nil)) (spec_l10Ref_p  h20)) ?_
       refine au 2 ?_
       refine T.conv (Cs.eqS (σ' := [.box (c_T_spec_l1Cur c0 o17), .box (c_T_impl_Atom false r19)]) rfl) ?_
       refine T.ret ?_
       refine inB_ret (thn_ret ?_)
       cases some_i H
       exact ⟨trivial, _, (.cell _ _ _ _ _ _ _ _ _ _ rfl rfl tyS_25 (nb rfl) rfl .nil), ⟨rfl, _, rfl⟩⟩
      ·refine au 4 ?_
       obtain ⟨⟨r21, o22⟩, h23, H⟩ := bind_s H
       refine TL.st rfl rfl rfl (o_callS [0] rfl en_14 rfl rfl (spec_l1Cur_atom_p c0 h23) rfl (by decide) (.cons _ _ _ _ rfl .nil) rfl rfl rfl) ?_
       refine au 2 ?_
       refine T.conv (Cs.eqS (σ' := [.box (c_T_spec_l1Cur c0 o22), .box (c_T_impl_Atom false r21)]) rfl) ?_
       refine T.ret ?_
       cases some_i H
       exact ⟨trivial, _, (.cell _ _ _ _ _ _ _ _ _ _ rfl rfl tyS_25 (nb rfl) rfl .nil), ⟨rfl, _, rfl⟩⟩
theorem en_92 : En Tryz.prog 92 := .of Tryz.func92 rfl rfl
noncomputable def spec_l11Head (a0 : ByteArray) (a1 : ByteArray) : Option Bool :=
  (gdO (decide ((a0.size : Int) > (a1.size : Int))) (subS a0 0 (a1.size : Int))).bind fun s1 => some (decide ((a0.size : Int) > (a1.size : Int)) && (s1.toList == a1.toList))
theorem spec_l11Head_p  {a0 : ByteArray} {a1 : ByteArray} {R0 : Bool} (H : spec_l11Head a0 a1 = some R0) : Pure Tryz.prog 93 [.str a0, .str a1] (.bool R0) := by
 refine CallT.of_TN (n := 18) Tryz.func93 rfl rfl rfl rfl ?_
 refine au 14 ?_
 refine TL.gcq rfl rfl rfl (.bool _) rfl rfl (fun h => o_lenS rfl rfl (gv h rfl)) ?_
 obtain ⟨s1, h2, H⟩ := bind_s H
 refine TL.gcq rfl rfl rfl (.bool _) rfl rfl (fun h => o_subS rfl rfl (gv h rfl) rfl (opt_of (gv h rfl)) (gdO_t h2 h)) ?_
 refine TL.gcq rfl rfl rfl (.bool _) rfl rfl (fun h => o_move rfl rfl) ?_
 refine TL.gcq rfl rfl rfl (.bool _) rfl rfl (fun h => o_str rfl (gv h rfl) (gv h rfl) rfl) ?_
 refine au 4 ?_
 cases some_i H
 exact ⟨trivial, _, (.tmp _ _ _ _ rfl .nil), (.cl _ rfl)⟩
theorem en_93 : En Tryz.prog 93 := .of Tryz.func93 rfl rfl
theorem tyE_25 : TyE Tryz.prog 25 4 := ⟨_, _, rfl, rfl, rfl, rfl, by decide, by decide⟩
noncomputable def spec_l1CmpNum (a0 : Int) (a1 : Int) : Option Int :=
  cond (decide (a0 < a1)) (some (-1)) (cond (decide (a0 > a1)) (some 1) (some 0))
theorem spec_l1CmpNum_p  {a0 : Int} {a1 : Int} {R0 : Int} (H : spec_l1CmpNum a0 a1 = some R0) : Pure Tryz.prog 84 [.int .i64 a0, .int .i64 a1] (.int .i64 R0) := by
 refine CallT.of_TN (n := 11) Tryz.func84 rfl rfl rfl rfl ?_
 refine au 11 ?_
 refine T.cH H (fun H h => ?_) (fun H h => ?_)
 ·refine au 5 ?_
  refine thn_ret ?_
  cases some_i H
  exact ⟨trivial, _, (.tmp _ _ _ _ rfl .nil), (.cl _ rfl)⟩
 ·refine au 8 ?_
  refine T.cH H (fun H h => ?_) (fun H h => ?_)
  ·refine au 5 ?_
   refine thn_ret ?_
   cases some_i H
   exact ⟨trivial, _, (.tmp _ _ _ _ rfl .nil), (.cl _ rfl)⟩
  ·refine au 6 ?_
   cases some_i H
   exact ⟨trivial, _, (.tmp _ _ _ _ rfl .nil), (.cl _ rfl)⟩
theorem en_84 : En Tryz.prog 84 := .of Tryz.func84 rfl rfl
noncomputable def spec_l1CmpText_l1 (a0 : ByteArray) (a1 : ByteArray) : Int → Option (Int ⊕ (Unit ⊕ Int)) := fun s => match s with
  | v1 => cond (decide (v1 < (a0.size : Int)) && decide (v1 < (a1.size : Int))) ((idxS a0 v1).bind fun b6 => (idxS a1 v1).bind fun b8 => cond (b6 != b8) ((idxS a0 v1).bind fun b10 => (idxS a1 v1).bind fun b12 => (spec_l1CmpNum (IntKind.i64.wrap b10) (IntKind.i64.wrap b12)).bind fun r14 => some (.inr (.inr r14))) (some (.inl (IntKind.i64.wrap (v1 + 1))))) (some (.inr (.inl ())))
noncomputable def spec_l1CmpText (a0 : ByteArray) (a1 : ByteArray) : Option Int :=
  (loopO (spec_l1CmpText_l1 a0 a1) 0).bind fun q16 => (match q16 with | .inl _ => (spec_l1CmpNum (a0.size : Int) (a1.size : Int)).bind fun r3 => some r3 | .inr q2 => some q2)
theorem spec_l1CmpText_p  {a0 : ByteArray} {a1 : ByteArray} {R0 : Int} (H : spec_l1CmpText a0 a1 = some R0) : Pure Tryz.prog 85 [.str a0, .str a1] (.int .i64 R0) := by
 refine CallT.of_TN (n := 39) Tryz.func85 rfl rfl rfl rfl ?_
 refine au 10 ?_
 obtain ⟨q16, h17, H⟩ := bind_s H
 refine T.lq (fun s => match s with | v1 => [(0, .str a0), (1, .str a1), (5, .int .i64 v1)]) (fun s => match s with | v1 => []) (fun q ex fr σ => match q with | .inl _ => ex = .exit 0 ∧ fr = [(0, .str a0), (1, .str a1)] ∧ σ = [] | .inr q2 => ex = .ret ∧ RetN Tryz.prog [.tmp 4] (fun v τ => Told τ v (.int .i64 q2)) .ret fr σ) h17 ?_ ?_
 ·rintro v1 y5 H
  refine au 10 ?_
  refine TL.gcq rfl rfl rfl (.bool _) rfl rfl (fun h => o_lenS rfl rfl (gv h rfl)) ?_
  refine TL.gcq rfl rfl rfl (.bool _) rfl rfl (fun h => o_ari rfl (gv h rfl) (gv h rfl) rfl) ?_
  refine au 2 ?_
  refine T.cH H (fun H h => ?_) (fun H h => ?_)
  ·refine au 4 ?_
   refine T.drawn rfl ?_
   refine ad 2 ?_
   obtain ⟨b6, h7, H⟩ := bind_s H
   refine TD.qs rfl rfl (fun _ => o_ixs rfl rfl rfl rfl h7) ?_
   refine ad 2 ?_
   obtain ⟨b8, h9, H⟩ := bind_s H
   refine TD.qs rfl rfl (fun _ => o_ixs rfl rfl rfl rfl h9) ?_
   refine TD.qs rfl rfl (fun _ => o_ari rfl rfl rfl rfl) ?_
   refine TD.nil ⟨rfl, ?_⟩
   refine thn_normal ?_
   refine T.cH H (fun H h => ?_) (fun H h => ?_)
   ·refine T.seq ?_
    refine T.drawn rfl ?_
    refine ad 2 ?_
    obtain ⟨b10, h11, H⟩ := bind_s H
    refine TD.qs rfl rfl (fun _ => o_ixs rfl rfl rfl rfl h11) ?_
    refine TD.qs rfl rfl (fun _ => o_conv rfl rfl ⟨_, rfl⟩ rfl) ?_
    refine ad 2 ?_
    obtain ⟨b12, h13, H⟩ := bind_s H
    refine TD.qs rfl rfl (fun _ => o_ixs rfl rfl rfl rfl h13) ?_
    refine TD.qs rfl rfl (fun _ => o_conv rfl rfl ⟨_, rfl⟩ rfl) ?_
    obtain ⟨r14, h15, H⟩ := bind_s H
    refine TD.qs rfl rfl (fun _ => o_callP rfl en_84 rfl rfl (.cons _ _ _ _ (.cl _ rfl) (.cons _ _ _ _ (.cl _ rfl) .nil)) (spec_l1CmpNum_p  h15)) ?_
    refine TD.qs rfl rfl (fun _ => o_assign rfl rfl) ?_
    refine TD.nil ⟨rfl, ?_⟩
    refine T.ret ?_
    refine inB_ret (thn_ret ?_)
    exact Pk.id (thn_ret ⟨.inr r14, (some_i H).symm, rfl, ⟨trivial, _, (.tmp _ _ _ _ rfl .nil), (.cl _ rfl)⟩⟩)
   ·refine au 6 ?_
    exact Pk.of (thn_normal ⟨(IntKind.i64.wrap (v1 + 1)), (some_i H).symm, rfl, rfl⟩)
  ·refine T.exit ?_
   refine thn_exit ?_
   exact Pk.of (thn_exit ⟨.inl (), (some_i H).symm, rfl, rfl, rfl⟩)
 ·rcases q16 with ⟨⟩ | q2
  ·rintro _ _ _ ⟨rfl, rfl, rfl⟩
   refine inB_here ?_
   refine au 6 ?_
   obtain ⟨r3, h4, H⟩ := bind_s H
   refine TL.st rfl rfl rfl (o_callP rfl en_84 rfl rfl (.cons _ _ _ _ (.cl _ rfl) (.cons _ _ _ _ (.cl _ rfl) .nil)) (spec_l1CmpNum_p  h4)) ?_
   refine au 3 ?_
   cases some_i H
   exact ⟨trivial, _, (.tmp _ _ _ _ rfl .nil), (.cl _ rfl)⟩
  ·rintro _ fr1 σ1 ⟨rfl, hr⟩
   refine inB_ret (thn_ret ?_)
   cases some_i H
   exact hr
theorem en_85 : En Tryz.prog 85 := .of Tryz.func85 rfl rfl
noncomputable def spec_l1Cmp (a0 : T_impl_Atom) (a1 : T_impl_Atom) : Option Int :=
  (spec_l1CmpNum a0.Kind_ a1.Kind_).bind fun r1 => cond (r1 != 0) (some r1) ((spec_l1CmpNum a0.Num_ a1.Num_).bind fun r3 => cond (r3 != 0) (some r3) ((spec_l1CmpText a0.Type_ a1.Type_).bind fun r5 => cond (r5 != 0) (some r5) ((spec_l1CmpText a0.Text_ a1.Text_).bind fun r7 => some r7)))
theorem spec_l1Cmp_p  {a0 : T_impl_Atom} {a1 : T_impl_Atom} {R0 : Int} (H : spec_l1Cmp a0 a1 = some R0) : Pure Tryz.prog 49 [.agg (c_T_impl_Atom false a0), .agg (c_T_impl_Atom false a1)] (.int .i64 R0) := by
 refine CallT.of_TN (n := 37) Tryz.func49 rfl rfl rfl rfl ?_
 refine au 13 ?_
 obtain ⟨r1, h2, H⟩ := bind_s H
 refine TL.st rfl rfl rfl (o_callP rfl en_84 rfl rfl (.cons _ _ _ _ (.cl _ rfl) (.cons _ _ _ _ (.cl _ rfl) .nil)) (spec_l1CmpNum_p  h2)) ?_
 refine au 7 ?_
 refine T.cH H (fun H h => ?_) (fun H h => ?_)
 ·refine au 6 ?_
  refine thn_ret ?_
  cases some_i H
  exact ⟨trivial, _, (.tmp _ _ _ _ rfl .nil), (.cl _ rfl)⟩
 ·refine au 8 ?_
  obtain ⟨r3, h4, H⟩ := bind_s H
  refine TL.st rfl rfl rfl (o_callP rfl en_84 rfl rfl (.cons _ _ _ _ (.cl _ rfl) (.cons _ _ _ _ (.cl _ rfl) .nil)) (spec_l1CmpNum_p  h4)) ?_
  refine au 7 ?_
  refine T.cH H (fun H h => ?_) (fun H h => ?_)
  ·refine au 6 ?_
   refine thn_ret ?_
   cases some_i H
   exact ⟨trivial, _, (.tmp _ _ _ _ rfl .nil), (.cl _ rfl)⟩
  ·refine au 8 ?_
   obtain ⟨r5, h6, H⟩ := bind_s H
   refine TL.st rfl rfl rfl (o_callP rfl en_85 rfl rfl (.cons _ _ _ _ (.cl _ rfl) (.cons _ _ _ _ (.cl _ rfl) .nil)) (spec_l1CmpText_p  h6)) ?_
   refine au 7 ?_
   refine T.cH H (fun H h => ?_) (fun H h => ?_)
   ·refine au 6 ?_
    refine thn_ret ?_
    cases some_i H
    exact ⟨trivial, _, (.tmp _ _ _ _ rfl .nil), (.cl _ rfl)⟩
   ·refine au 7 ?_
    obtain ⟨r7, h8, H⟩ := bind_s H
    refine TL.st rfl rfl rfl (o_callP rfl en_85 rfl rfl (.cons _ _ _ _ (.cl _ rfl) (.cons _ _ _ _ (.cl _ rfl) .nil)) (spec_l1CmpText_p  h8)) ?_
    refine au 3 ?_
    cases some_i H
    exact ⟨trivial, _, (.tmp _ _ _ _ rfl .nil), (.cl _ rfl)⟩
theorem en_49 : En Tryz.prog 49 := .of Tryz.func49 rfl rfl
noncomputable def spec_l1Sorted_l3 (v8 : Int) : (List T_impl_Atom × Int) → Option ((List T_impl_Atom × Int) ⊕ List T_impl_Atom) := fun s => match s with
  | (l15, v16) => cond (decide (v16 > v8)) ((idx l15 (IntKind.i64.wrap (v16 - 1))).bind fun e21 => (idx l15 v16).bind fun e23 => some (.inl ((l15.set (Int.toNat v16) e21), (IntKind.i64.wrap (v16 - 1))))) (some (.inr l15))
noncomputable def spec_l1Sorted_l2 (l1 : List T_impl_Atom) (e5 : T_impl_Atom) : Int → Option (Int ⊕ Int) := fun s => match s with
  | v7 => (gdO (decide (v7 > 0)) (idx l1 (IntKind.i64.wrap (v7 - 1)))).bind fun e28 => (gdO (decide (v7 > 0)) (spec_l1Cmp e28 e5)).bind fun r30 => cond (decide (v7 > 0) && decide (r30 > 0)) (some (.inl (IntKind.i64.wrap (v7 - 1)))) (some (.inr v7))
noncomputable def spec_l1Sorted_l1 (a0 : (List T_impl_Atom)) : (List T_impl_Atom × Int) → Option ((List T_impl_Atom × Int) ⊕ List T_impl_Atom) := fun s => match s with
  | (l1, v2) => cond (decide (v2 < (a0.length : Int))) ((idx a0 v2).bind fun e5 => (loopO (spec_l1Sorted_l2 l1 e5) (l1.length : Int)).bind fun v8 => (match v8 with | v8 => (gdO (decide (v8 > 0)) (idx l1 (IntKind.i64.wrap (v8 - 1)))).bind fun e9 => (gdO (decide (v8 > 0)) (spec_l1Cmp e9 e5)).bind fun r11 => cond (decide (v8 > 0) && (r11 == 0)) (some (.inl (l1, (IntKind.i64.wrap (v2 + 1))))) ((app l1 ([e5] : List T_impl_Atom)).bind fun l13 => (loopO (spec_l1Sorted_l3 v8) (l13, (IntKind.i64.wrap ((l13.length : Int) - 1)))).bind fun l17 => (match l17 with | l17 => (idx l17 v8).bind fun e18 => some (.inl ((l17.set (Int.toNat v8) e5), (IntKind.i64.wrap (v2 + 1)))))))) (some (.inr l1))
noncomputable def spec_l1Sorted (a0 : (List T_impl_Atom)) : Option (List T_impl_Atom) :=
  (loopO (spec_l1Sorted_l1 a0) (([] : List T_impl_Atom), 0)).bind fun l3 => (match l3 with | l3 => some l3)
theorem spec_l1Sorted_p (b0 : Bool) {a0 : (List T_impl_Atom)} {R0 : (List T_impl_Atom)} (H : spec_l1Sorted a0 = some R0) : Pure Tryz.prog 53 [.im b0 (a0.map (c_T_impl_Atom false))] (.im false (R0.map (c_T_impl_Atom false))) := by
 refine CallT.of_TN (n := 68) Tryz.func53 rfl rfl rfl rfl ?_
 refine au 12 ?_
 refine TL.st rfl rfl rfl (o_lenL (f := c_T_impl_Atom false) rfl rfl rfl) ?_
 refine au 3 ?_
 refine T.conv (Cs.own (t := 3) 4 rfl (by decide)) ?_
 obtain ⟨l3, h35, H⟩ := bind_s H
 refine T.lq (fun s => match s with | (l1, v2) => [(3, .hd 0 (l1.map (c_T_impl_Atom false)).length 0 (l1.map (c_T_impl_Atom false)).length), (8, .im b0 (a0.map (c_T_impl_Atom false))), (9, .int .i64 (a0.length : Int)), (10, .int .i64 v2)]) (fun s => match s with | (l1, v2) => [.arr .clo 4 (l1.map (c_T_impl_Atom false))]) (fun q ex fr σ => match q with | l3 => ex = .exit 0 ∧ fr = [(3, .hd 0 (l3.map (c_T_impl_Atom false)).length 0 (l3.map (c_T_impl_Atom false)).length)] ∧ σ = [.arr .clo 4 (l3.map (c_T_impl_Atom false))]) h35 ?_ ?_
 ·rintro ⟨l1, v2⟩ y4 H
  refine au 5 ?_
  refine T.cH H (fun H h => ?_) (fun H h => ?_)
  ·refine au 5 ?_
   obtain ⟨e5, h6, H⟩ := bind_s H
   refine TL.st rfl rfl rfl (o_ix (f := c_T_impl_Atom false) rfl rfl tyS_25 rfl rfl h6 rfl) ?_
   refine au 7 ?_
   refine TL.st rfl rfl rfl (o_lenOwn (f := c_T_impl_Atom false) rfl rfl rfl rfl rfl) ?_
   refine au 4 ?_
   obtain ⟨v8, h33, H⟩ := bind_s H
   refine T.lq (fun s => match s with | v7 => [(3, .hd 0 (l1.map (c_T_impl_Atom false)).length 0 (l1.map (c_T_impl_Atom false)).length), (5, .bx 1 0), (6, .int .i64 v7), (8, .im b0 (a0.map (c_T_impl_Atom false))), (9, .int .i64 (a0.length : Int)), (10, .int .i64 v2)]) (fun s => match s with | v7 => [.arr .clo 4 (l1.map (c_T_impl_Atom false)), .box (c_T_impl_Atom false e5)]) (fun q ex fr σ => match q with | v8 => ex = .exit 2 ∧ fr = [(3, .hd 0 (l1.map (c_T_impl_Atom false)).length 0 (l1.map (c_T_impl_Atom false)).length), (5, .bx 1 0), (6, .int .i64 v8), (8, .im b0 (a0.map (c_T_impl_Atom false))), (9, .int .i64 (a0.length : Int)), (10, .int .i64 v2)] ∧ σ = [.arr .clo 4 (l1.map (c_T_impl_Atom false)), .box (c_T_impl_Atom false e5)]) h33 ?_ ?_
   ·rintro v7 y27 H
    refine au 2 ?_
    refine T.drawn rfl ?_
    refine ad 5 ?_
    refine TD.cq rfl rfl rfl (.bool _) rfl (fun h _ => o_ari rfl (gv h rfl) rfl rfl) ?_
    obtain ⟨e28, h29, H⟩ := bind_s H
    refine TD.cr rfl rfl rfl (.bool _) rfl (fun h => o_ixh (f := c_T_impl_Atom false) rfl rfl tyS_25 (gv h rfl) (gv h rfl) rfl rfl (gdO_t h29 h) rfl) ?_
    refine TD.cr rfl rfl rfl (.bool _) rfl (fun h => o_loadEl rfl tyS_25 (gv h rfl) rfl rfl (by rw [List.getElem?_map, (idx_s (gdO_t h29 h)).2]; rfl) (nb rfl) rfl) ?_
    refine TD.cr rfl rfl rfl (.bool _) rfl (fun h => o_loadBx rfl tyS_25 rfl rfl (nb rfl) rfl) ?_
    obtain ⟨r30, h31, H⟩ := bind_s H
    refine TD.cq rfl rfl rfl (.bool _) rfl (fun h _ => o_callP rfl en_49 rfl (evl_2 (gv h rfl) (gv h rfl)) (.cons _ _ _ _ (.cl _ rfl) (.cons _ _ _ _ (.cl _ rfl) .nil)) (spec_l1Cmp_p  (gdO_t h31 h))) ?_
    refine TD.cq rfl rfl rfl (.bool _) rfl (fun h _ => o_ari rfl (gv h rfl) rfl rfl) ?_
    refine TD.qs rfl rfl (fun _ => o_and rfl rfl rfl (fun k => Gd_t k) rfl) ?_
    refine TD.nil ⟨rfl, ?_⟩
    refine thn_normal ?_
    refine T.cH H (fun H h => ?_) (fun H h => ?_)
    ·refine au 7 ?_
     refine inB_normal ?_
     exact Pk.of (thn_normal ⟨(IntKind.i64.wrap (v7 - 1)), (some_i H).symm, rfl, rfl⟩)
    ·refine T.exit ?_
     refine thn_exit ?_
     exact Pk.of (thn_exit ⟨v7, (some_i H).symm, rfl, rfl, rfl⟩)
   ·rintro _ _ _ ⟨rfl, rfl, rfl⟩
    refine inB_here ?_
    refine au 2 ?_
    refine T.drawn rfl ?_
    refine ad 5 ?_
    refine TD.cq rfl rfl rfl (.bool _) rfl (fun h _ => o_ari rfl (gv h rfl) rfl rfl) ?_
    obtain ⟨e9, h10, H⟩ := bind_s H
    refine TD.cr rfl rfl rfl (.bool _) rfl (fun h => o_ixh (f := c_T_impl_Atom false) rfl rfl tyS_25 (gv h rfl) (gv h rfl) rfl rfl (gdO_t h10 h) rfl) ?_
    refine TD.cr rfl rfl rfl (.bool _) rfl (fun h => o_loadEl rfl tyS_25 (gv h rfl) rfl rfl (by rw [List.getElem?_map, (idx_s (gdO_t h10 h)).2]; rfl) (nb rfl) rfl) ?_
    refine TD.cr rfl rfl rfl (.bool _) rfl (fun h => o_loadBx rfl tyS_25 rfl rfl (nb rfl) rfl) ?_
    obtain ⟨r11, h12, H⟩ := bind_s H
    refine TD.cq rfl rfl rfl (.bool _) rfl (fun h _ => o_callP rfl en_49 rfl (evl_2 (gv h rfl) (gv h rfl)) (.cons _ _ _ _ (.cl _ rfl) (.cons _ _ _ _ (.cl _ rfl) .nil)) (spec_l1Cmp_p  (gdO_t h12 h))) ?_
    refine TD.cq rfl rfl rfl (.bool _) rfl (fun h _ => o_ari rfl (gv h rfl) rfl rfl) ?_
    refine TD.qs rfl rfl (fun _ => o_and rfl rfl rfl (fun k => Gd_t k) rfl) ?_
    refine TD.nil ⟨rfl, ?_⟩
    refine thn_normal ?_
    refine T.cH H (fun H h => ?_) (fun H h => ?_)
    ·refine T.exit ?_
     refine thn_exit ?_
     refine inB_here ?_
     refine au 4 ?_
     exact Pk.of (thn_normal ⟨(l1, (IntKind.i64.wrap (v2 + 1))), (some_i H).symm, rfl, rfl⟩)
    ·refine au 5 ?_
     refine TL.st rfl rfl rfl (o_sliceIm (rows := ([e5] : List T_impl_Atom).map (c_T_impl_Atom false)) rfl rfl tyS_25 ⟨_, rfl, rfl⟩ (by decide) rfl rfl rfl rfl rfl rfl) ?_
     obtain ⟨l13, h14, H⟩ := bind_s H
     refine TL.st rfl rfl rfl (o_ap (f := c_T_impl_Atom false) (xs := l1) (ys := ([e5] : List T_impl_Atom)) rfl rfl tyE_25 rfl rfl rfl rfl (by decide) rfl (fun _ => rfl) h14) ?_
     refine au 6 ?_
     refine TL.st rfl rfl rfl (o_lenOwn (f := c_T_impl_Atom false) rfl rfl rfl rfl rfl) ?_
     refine au 4 ?_
     obtain ⟨l17, h26, H⟩ := bind_s H
     refine T.lq (fun s => match s with | (l15, v16) => [(3, .hd 0 (l15.map (c_T_impl_Atom false)).length 0 (l15.map (c_T_impl_Atom false)).length), (5, .bx 1 0), (6, .int .i64 v8), (7, .int .i64 v16), (8, .im b0 (a0.map (c_T_impl_Atom false))), (9, .int .i64 (a0.length : Int)), (10, .int .i64 v2)]) (fun s => match s with | (l15, v16) => [.arr .clo 4 (l15.map (c_T_impl_Atom false)), .box (c_T_impl_Atom false e5)]) (fun q ex fr σ => match q with | l17 => ex = .exit 4 ∧ fr = [(3, .hd 0 (l17.map (c_T_impl_Atom false)).length 0 (l17.map (c_T_impl_Atom false)).length), (5, .bx 1 0), (6, .int .i64 v8), (8, .im b0 (a0.map (c_T_impl_Atom false))), (9, .int .i64 (a0.length : Int)), (10, .int .i64 v2)] ∧ σ = [.arr .clo 4 (l17.map (c_T_impl_Atom false)), .box (c_T_impl_Atom false e5)]) h26 ?_ ?_
     ·rintro ⟨l15, v16⟩ y20 H
      refine au 7 ?_
      refine T.cH H (fun H h => ?_) (fun H h => ?_)
      ·refine au 9 ?_
       obtain ⟨e21, h22, H⟩ := bind_s H
       refine TL.st rfl rfl rfl (o_ixh (f := c_T_impl_Atom false) rfl rfl tyS_25 rfl rfl rfl rfl h22 rfl) ?_
       refine TL.st rfl rfl rfl (o_loadEl rfl tyS_25 rfl rfl rfl (by rw [List.getElem?_map, (idx_s h22).2]; rfl) (nb rfl) rfl) ?_
       obtain ⟨e23, h24, H⟩ := bind_s H
       refine TL.st rfl rfl rfl (o_ixh (f := c_T_impl_Atom false) rfl rfl tyS_25 rfl rfl rfl rfl h24 rfl) ?_
       refine TL.sn rfl rfl (o_stEl (f := c_T_impl_Atom false) (xs := l15) (k := v16) (a := e23) e21 rfl tyS_25 rfl rfl rfl rfl (by decide) h24 rfl rfl rfl (fun _ => rfl) rfl) ?_
       refine TL.conv (Cs.eqV (t := 3) (v' := .hd 0 ((l15.set (Int.toNat v16) e21).map (c_T_impl_Atom false)).length 0 ((l15.set (Int.toNat v16) e21).map (c_T_impl_Atom false)).length) rfl (hd_len _ (List.length_set ..))) ?_
       refine TL.conv (Cs.eqV (t := 54) (v' := .hd 0 ((l15.set (Int.toNat v16) e21).map (c_T_impl_Atom false)).length 0 ((l15.set (Int.toNat v16) e21).map (c_T_impl_Atom false)).length) rfl (hd_len _ (List.length_set ..))) ?_
       refine TL.conv (Cs.eqV (t := 56) (v' := .hd 0 ((l15.set (Int.toNat v16) e21).map (c_T_impl_Atom false)).length 0 ((l15.set (Int.toNat v16) e21).map (c_T_impl_Atom false)).length) rfl (hd_len _ (List.length_set ..))) ?_
       refine TL.conv (Cs.eqV (t := 61) (v' := .el 0 ((l15.set (Int.toNat v16) e21).map (c_T_impl_Atom false)).length (Int.toNat v16) 0) rfl (el_len _ _ _ (List.length_set ..))) ?_
       refine au 6 ?_
       exact Pk.of (thn_normal ⟨((l15.set (Int.toNat v16) e21), (IntKind.i64.wrap (v16 - 1))), (some_i H).symm, rfl, rfl⟩)
      ·refine T.exit ?_
       refine thn_exit ?_
       exact Pk.of (thn_exit ⟨l15, (some_i H).symm, rfl, rfl, rfl⟩)
     ·rintro _ _ _ ⟨rfl, rfl, rfl⟩
      refine inB_here ?_
      refine au 4 ?_
      obtain ⟨e18, h19, H⟩ := bind_s H
      refine TL.st rfl rfl rfl (o_ixh (f := c_T_impl_Atom false) rfl rfl tyS_25 rfl rfl rfl rfl h19 rfl) ?_
      refine TL.sn rfl rfl (o_stEl (f := c_T_impl_Atom false) (xs := l17) (k := v8) (a := e18) e5 rfl tyS_25 rfl rfl rfl rfl (by decide) h19 rfl rfl rfl (fun _ => rfl) rfl) ?_
      refine TL.conv (Cs.eqV (t := 3) (v' := .hd 0 ((l17.set (Int.toNat v8) e5).map (c_T_impl_Atom false)).length 0 ((l17.set (Int.toNat v8) e5).map (c_T_impl_Atom false)).length) rfl (hd_len _ (List.length_set ..))) ?_
      refine TL.conv (Cs.eqV (t := 62) (v' := .hd 0 ((l17.set (Int.toNat v8) e5).map (c_T_impl_Atom false)).length 0 ((l17.set (Int.toNat v8) e5).map (c_T_impl_Atom false)).length) rfl (hd_len _ (List.length_set ..))) ?_
      refine TL.conv (Cs.eqV (t := 65) (v' := .el 0 ((l17.set (Int.toNat v8) e5).map (c_T_impl_Atom false)).length (Int.toNat v8) 0) rfl (el_len _ _ _ (List.length_set ..))) ?_
      refine au 5 ?_
      exact Pk.of (thn_normal ⟨((l17.set (Int.toNat v8) e5), (IntKind.i64.wrap (v2 + 1))), (some_i H).symm, rfl, rfl⟩)
  ·refine T.exit ?_
   refine thn_exit ?_
   exact Pk.of (thn_exit ⟨l1, (some_i H).symm, rfl, rfl, rfl⟩)
 ·rintro _ _ _ ⟨rfl, rfl, rfl⟩
  refine inB_here ?_
  refine au 6 ?_
  cases some_i H
  exact ⟨trivial, _, (.tmp _ _ _ _ rfl .nil), (.own rfl (by decide) rfl)⟩
theorem en_53 : En Tryz.prog 53 := .of Tryz.func53 rfl rfl
noncomputable def spec_l1Cur_fieldValue_l1 (s6 : ByteArray) : (T_spec_l1Cur × List T_impl_Atom × Int) → Option ((T_spec_l1Cur × List T_impl_Atom × Int) ⊕ (T_spec_l1Cur × List T_impl_Atom)) := fun s => match s with
  | (b11, l12, v13) => cond (decide (v13 > 0)) ((spec_l1Cur_kindAtom s6 b11).bind fun q => (match q with | (r19, o20) => (app l12 ([r19] : List T_impl_Atom)).bind fun l22 => some (.inl (o20, l22, (IntKind.i64.wrap (v13 - 1)))))) (some (.inr (b11, l12)))
noncomputable def spec_l1Cur_fieldValue (a0 : ByteArray) (s0 : T_spec_l1Cur) : Option (T_impl_Value × T_spec_l1Cur) :=
  (spec_l1Cur_kindAtom a0 s0).bind fun q => (match q with | (r1, o2) => (spec_l11Head a0 (ByteArray.mk #[115, 101, 116, 32])).bind fun r4 => cond (!r4) (some ((⟨1, r1, ([] : List T_impl_Atom), ([] : List ByteArray)⟩ : T_impl_Value), o2)) ((subS a0 4 (a0.size : Int)).bind fun s6 => (spec_l1Cur_pick 3 o2).bind fun q => (match q with | (r8, o9) => (loopO (spec_l1Cur_fieldValue_l1 s6) (o9, ([] : List T_impl_Atom), r8)).bind fun q24 => (match q24 with | (b14, l15) => (spec_l1Sorted l15).bind fun r16 => some ((⟨2, (⟨0, 0, e0, e0⟩ : T_impl_Atom), r16, ([] : List ByteArray)⟩ : T_impl_Value), b14)))))
theorem spec_l1Cur_fieldValue_p (c0 : Bool) {a0 : ByteArray} {s0 : T_spec_l1Cur} {R0 : T_impl_Value} {U0 : T_spec_l1Cur} (H : spec_l1Cur_fieldValue a0 s0 = some (R0, U0)) : St Tryz.prog 56 [.bx 0 0, .str a0] [.box (c_T_spec_l1Cur c0 s0)] (.agg (c_T_impl_Value false R0)) [.box (c_T_spec_l1Cur c0 U0)] := by
 refine CallT.fin (CallT.of_TN (n := 34) Tryz.func56 rfl rfl rfl rfl ?_) rfl rfl ⟨(bels_iff.1 rfl), trivial⟩
 refine au 8 ?_
 obtain ⟨⟨r1, o2⟩, h3, H⟩ := bind_s H
 refine TL.st rfl rfl rfl (o_callS [0] rfl en_92 rfl rfl (spec_l1Cur_kindAtom_p c0 h3) rfl (by decide) (.cons _ _ _ _ rfl .nil) rfl rfl rfl) ?_
 refine au 5 ?_
 refine T.conv (Cs.eqS (σ' := [.box (c_T_spec_l1Cur c0 o2), .box [.int .i64 0, .int .i64 0, .int .i64 0, .str e0, .str e0, .nilS, .nilS], .box (c_T_impl_Atom false r1)]) rfl) ?_
 refine au 2 ?_
 obtain ⟨r4, h5, H⟩ := bind_s H
 refine TL.st rfl rfl rfl (o_callP rfl en_93 rfl rfl (.cons _ _ _ _ (.cl _ rfl) (.cons _ _ _ _ (.cl _ rfl) .nil)) (spec_l11Head_p  h5)) ?_
 refine au 2 ?_
 refine T.cH H (fun H h => ?_) (fun H h => ?_)
 ·refine au 6 ?_
  refine T.conv (Cs.nilCell (q := 1) 5 rfl rfl) ?_
  refine T.conv (Cs.nilCell (q := 1) 6 rfl rfl) ?_
  refine T.ret ?_
  refine thn_ret ?_
  cases some_i H
  exact ⟨trivial, _, (.cell _ _ _ _ _ _ _ _ _ _ rfl rfl tyS_83 (nb rfl) rfl .nil), ⟨rfl, _, rfl⟩⟩
 ·refine au 4 ?_
  obtain ⟨s6, h7, H⟩ := bind_s H
  refine TL.st rfl rfl rfl (o_subS rfl rfl rfl rfl rfl h7) ?_
  refine au 10 ?_
  obtain ⟨⟨r8, o9⟩, h10, H⟩ := bind_s H
  refine TL.st rfl rfl rfl (o_callS [0] rfl en_33 rfl rfl (spec_l1Cur_pick_p c0 h10) rfl (by decide) (.cons _ _ _ _ rfl .nil) rfl rfl rfl) ?_
  refine au 3 ?_
  refine T.conv (Cs.own (t := 7) 4 rfl (by decide)) ?_
  obtain ⟨q24, h25, H⟩ := bind_s H
  refine T.lq (fun s => match s with | (b11, l12, v13) => [(0, .bx 0 0), (4, .bx 1 0), (6, .str s6), (7, .hd 3 (l12.map (c_T_impl_Atom false)).length 0 (l12.map (c_T_impl_Atom false)).length), (8, .int .i64 v13)]) (fun s => match s with | (b11, l12, v13) => [.box (c_T_spec_l1Cur c0 b11), .box [.int .i64 0, .int .i64 0, .int .i64 0, .str e0, .str e0, .nilS, .nilS], .box (c_T_impl_Atom false r1), .arr .clo 4 (l12.map (c_T_impl_Atom false))]) (fun q ex fr σ => match q with | (b14, l15) => ex = .exit 0 ∧ fr = [(4, .bx 1 0), (7, .hd 3 (l15.map (c_T_impl_Atom false)).length 0 (l15.map (c_T_impl_Atom false)).length)] ∧ σ = [.box (c_T_spec_l1Cur c0 b14), .box [.int .i64 0, .int .i64 0, .int .i64 0, .str e0, .str e0, .nilS, .nilS], .box (c_T_impl_Atom false r1), .arr .clo 4 (l15.map (c_T_impl_Atom false))]) h25 ?_ ?_
  ·rintro ⟨b11, l12, v13⟩ y18 H
   refine au 6 ?_
   refine T.cH H (fun H h => ?_) (fun H h => ?_)
   ·refine au 7 ?_
    obtain ⟨⟨r19, o20⟩, h21, H⟩ := bind_s H
    refine TL.st rfl rfl rfl (o_callS [0] rfl en_92 rfl rfl (spec_l1Cur_kindAtom_p c0 h21) rfl (by decide) (.cons _ _ _ _ rfl .nil) rfl rfl rfl) ?_
    refine TL.st rfl rfl rfl (o_sliceIm (rows := ([r19] : List T_impl_Atom).map (c_T_impl_Atom false)) rfl rfl tyS_25 ⟨_, rfl, rfl⟩ (by decide) rfl rfl rfl rfl rfl rfl) ?_
    obtain ⟨l22, h23, H⟩ := bind_s H
    refine TL.st rfl rfl rfl (o_ap (f := c_T_impl_Atom false) (xs := l12) (ys := ([r19] : List T_impl_Atom)) rfl rfl tyE_25 rfl rfl rfl rfl (by decide) rfl (fun _ => rfl) h23) ?_
    refine au 7 ?_
    exact Pk.of (thn_normal ⟨(o20, l22, (IntKind.i64.wrap (v13 - 1))), (some_i H).symm, rfl, rfl⟩)
   ·refine T.exit ?_
    refine thn_exit ?_
    exact Pk.of (thn_exit ⟨(b11, l12), (some_i H).symm, rfl, rfl, rfl⟩)
  ·rcases q24 with ⟨b14, l15⟩
   rintro _ _ _ ⟨rfl, rfl, rfl⟩
   refine inB_here ?_
   refine au 3 ?_
   obtain ⟨r16, h17, H⟩ := bind_s H
   refine TL.st rfl rfl rfl (o_callP rfl en_53 rfl rfl (.cons _ _ _ _ (.own rfl (by decide) rfl) .nil) (spec_l1Sorted_p true h17)) ?_
   refine au 3 ?_
   refine T.conv (Cs.nilCell (q := 1) 6 rfl rfl) ?_
   refine T.ret ?_
   cases some_i H
   exact ⟨trivial, _, (.cell _ _ _ _ _ _ _ _ _ _ rfl rfl tyS_83 (nb rfl) rfl .nil), ⟨rfl, _, rfl⟩⟩
theorem en_56 : En Tryz.prog 56 := .of Tryz.func56 rfl rfl
def k_impl_Value (a1 a2 : Nat) (b : Bool) (x : T_impl_Value) : List V := ([.int .i64 x.Kind_] ++ (c_T_impl_Atom b x.Atom_) ++ [.hd a1 (x.Items_.map (c_T_impl_Atom false)).length 0 (x.Items_.map (c_T_impl_Atom false)).length, .hd a2 (x.Names_.map (c_str)).length 0 (x.Names_.map (c_str)).length])
noncomputable def spec_l1Cur_value_l1  : (T_spec_l1Cur × List T_impl_Atom × Int) → Option ((T_spec_l1Cur × List T_impl_Atom × Int) ⊕ (T_spec_l1Cur × List T_impl_Atom)) := fun s => match s with
  | (b7, l8, v9) => cond (decide (v9 > 0)) ((spec_l1Cur_atom b7).bind fun q => (match q with | (r15, o16) => (app l8 ([r15] : List T_impl_Atom)).bind fun l18 => some (.inl (o16, l18, (IntKind.i64.wrap (v9 - 1)))))) (some (.inr (b7, l8)))
noncomputable def spec_l1Cur_value_l2  : (T_spec_l1Cur × T_impl_Value × Int) → Option ((T_spec_l1Cur × T_impl_Value × Int) ⊕ (T_spec_l1Cur × T_impl_Value)) := fun s => match s with
  | (b22, b23, v24) => cond (decide (v24 < (([(ByteArray.mk #[65]), (ByteArray.mk #[95, 98]), (ByteArray.mk #[97, 103, 101]), (ByteArray.mk #[100, 101, 112, 116]), (ByteArray.mk #[122, 111, 110, 101])] : List ByteArray).length : Int))) ((idx ([(ByteArray.mk #[65]), (ByteArray.mk #[95, 98]), (ByteArray.mk #[97, 103, 101]), (ByteArray.mk #[100, 101, 112, 116]), (ByteArray.mk #[122, 111, 110, 101])] : List ByteArray) v24).bind fun e28 => (spec_l1Cur_one 2 b22).bind fun q => (match q with | (r30, o31) => cond r30 ((app b23.Names_ ([e28] : List ByteArray)).bind fun l33 => (spec_l1Cur_atom o31).bind fun q => (match q with | (r35, o36) => (app b23.Items_ ([r35] : List T_impl_Atom)).bind fun l38 => some (.inl (o36, (⟨b23.Kind_, b23.Atom_, l38, l33⟩ : T_impl_Value), (IntKind.i64.wrap (v24 + 1)))))) (some (.inl (o31, b23, (IntKind.i64.wrap (v24 + 1))))))) (some (.inr (b22, b23)))
noncomputable def spec_l1Cur_value (s0 : T_spec_l1Cur) : Option (T_impl_Value × T_spec_l1Cur) :=
  (spec_l1Cur_pick 4 s0).bind fun q => (match q with | (r1, o2) => cond (r1 == 0) ((spec_l1Cur_pick 5 o2).bind fun q => (match q with | (r4, o5) => (loopO (spec_l1Cur_value_l1) (o5, ([] : List T_impl_Atom), r4)).bind fun q20 => (match q20 with | (b10, l11) => (spec_l1Sorted l11).bind fun r12 => some ((⟨2, (⟨0, 0, e0, e0⟩ : T_impl_Atom), r12, ([] : List ByteArray)⟩ : T_impl_Value), b10)))) (cond (r1 == 1) ((loopO (spec_l1Cur_value_l2) (o2, (⟨3, (⟨0, 0, e0, e0⟩ : T_impl_Atom), ([] : List T_impl_Atom), ([] : List ByteArray)⟩ : T_impl_Value), 0)).bind fun q40 => (match q40 with | (b25, b26) => some (b26, b25))) ((spec_l1Cur_atom o2).bind fun q => (match q with | (r42, o43) => some ((⟨1, r42, ([] : List T_impl_Atom), ([] : List ByteArray)⟩ : T_impl_Value), o43)))))
theorem spec_l1Cur_value_p (c0 : Bool) {s0 : T_spec_l1Cur} {R0 : T_impl_Value} {U0 : T_spec_l1Cur} (H : spec_l1Cur_value s0 = some (R0, U0)) : St Tryz.prog 38 [.bx 0 0] [.box (c_T_spec_l1Cur c0 s0)] (.agg (c_T_impl_Value false R0)) [.box (c_T_spec_l1Cur c0 U0)] := by
 refine CallT.fin (CallT.of_TN (n := 55) Tryz.func38 rfl rfl rfl rfl ?_) rfl rfl ⟨(bels_iff.1 rfl), trivial⟩
 refine au 8 ?_
 obtain ⟨⟨r1, o2⟩, h3, H⟩ := bind_s H
 refine TL.st rfl rfl rfl (o_callS [0] rfl en_33 rfl rfl (spec_l1Cur_pick_p c0 h3) rfl (by decide) (.cons _ _ _ _ rfl .nil) rfl rfl rfl) ?_
 refine au 7 ?_
 refine T.cH H (fun H h => ?_) (fun H h => ?_)
 ·refine au 8 ?_
  obtain ⟨⟨r4, o5⟩, h6, H⟩ := bind_s H
  refine TL.st rfl rfl rfl (o_callS [0] rfl en_33 rfl rfl (spec_l1Cur_pick_p c0 h6) rfl (by decide) (.cons _ _ _ _ rfl .nil) rfl rfl rfl) ?_
  refine au 2 ?_
  refine T.conv (Cs.eqS (σ' := [.box (c_T_spec_l1Cur c0 o5), .box [.int .i64 0, .int .i64 0, .int .i64 0, .str e0, .str e0, .nilS, .nilS]]) rfl) ?_
  refine T.block ?_
  refine T.conv (Cs.own (t := 3) 4 rfl (by decide)) ?_
  obtain ⟨q20, h21, H⟩ := bind_s H
  refine T.lq (fun s => match s with | (b7, l8, v9) => [(0, .bx 0 0), (2, .bx 1 0), (3, .hd 2 (l8.map (c_T_impl_Atom false)).length 0 (l8.map (c_T_impl_Atom false)).length), (4, .int .i64 v9)]) (fun s => match s with | (b7, l8, v9) => [.box (c_T_spec_l1Cur c0 b7), .box [.int .i64 0, .int .i64 0, .int .i64 0, .str e0, .str e0, .nilS, .nilS], .arr .clo 4 (l8.map (c_T_impl_Atom false))]) (fun q ex fr σ => match q with | (b10, l11) => ex = .exit 1 ∧ fr = [(2, .bx 1 0), (3, .hd 2 (l11.map (c_T_impl_Atom false)).length 0 (l11.map (c_T_impl_Atom false)).length)] ∧ σ = [.box (c_T_spec_l1Cur c0 b10), .box [.int .i64 0, .int .i64 0, .int .i64 0, .str e0, .str e0, .nilS, .nilS], .arr .clo 4 (l11.map (c_T_impl_Atom false))]) h21 ?_ ?_
  ·rintro ⟨b7, l8, v9⟩ y14 H
   refine au 6 ?_
   refine T.cH H (fun H h => ?_) (fun H h => ?_)
   ·refine au 6 ?_
    obtain ⟨⟨r15, o16⟩, h17, H⟩ := bind_s H
    refine TL.st rfl rfl rfl (o_callS [0] rfl en_14 rfl rfl (spec_l1Cur_atom_p c0 h17) rfl (by decide) (.cons _ _ _ _ rfl .nil) rfl rfl rfl) ?_
    refine TL.st rfl rfl rfl (o_sliceIm (rows := ([r15] : List T_impl_Atom).map (c_T_impl_Atom false)) rfl rfl tyS_25 ⟨_, rfl, rfl⟩ (by decide) rfl rfl rfl rfl rfl rfl) ?_
    obtain ⟨l18, h19, H⟩ := bind_s H
    refine TL.st rfl rfl rfl (o_ap (f := c_T_impl_Atom false) (xs := l8) (ys := ([r15] : List T_impl_Atom)) rfl rfl tyE_25 rfl rfl rfl rfl (by decide) rfl (fun _ => rfl) h19) ?_
    refine au 7 ?_
    exact Pk.of (thn_normal ⟨(o16, l18, (IntKind.i64.wrap (v9 - 1))), (some_i H).symm, rfl, rfl⟩)
   ·refine T.exit ?_
    refine thn_exit ?_
    exact Pk.of (thn_exit ⟨(b7, l8), (some_i H).symm, rfl, rfl, rfl⟩)
  ·rcases q20 with ⟨b10, l11⟩
   rintro _ _ _ ⟨rfl, rfl, rfl⟩
   refine inB_here ?_
   refine au 3 ?_
   obtain ⟨r12, h13, H⟩ := bind_s H
   refine TL.st rfl rfl rfl (o_callP rfl en_53 rfl rfl (.cons _ _ _ _ (.own rfl (by decide) rfl) .nil) (spec_l1Sorted_p true h13)) ?_
   refine au 3 ?_
   refine T.conv (Cs.nilCell (q := 1) 6 rfl rfl) ?_
   refine T.ret ?_
   refine inB_ret (thn_ret ?_)
   cases some_i H
   exact ⟨trivial, _, (.cell _ _ _ _ _ _ _ _ _ _ rfl rfl tyS_83 (nb rfl) rfl .nil), ⟨rfl, _, rfl⟩⟩
 ·refine au 5 ?_
  refine T.cH H (fun H h => ?_) (fun H h => ?_)
  ·refine au 8 ?_
   refine T.conv (Cs.eqS (σ' := [.box (c_T_spec_l1Cur c0 o2), .box [.int .i64 0, .int .i64 0, .int .i64 0, .str e0, .str e0, .nilS, .nilS], .box [.int .i64 3, .int .i64 0, .int .i64 0, .str e0, .str e0, .nilS, .nilS]]) rfl) ?_
   refine T.region ?_
   refine TL.st rfl rfl rfl (o_sliceIm (rows := ([(ByteArray.mk #[65]), (ByteArray.mk #[95, 98]), (ByteArray.mk #[97, 103, 101]), (ByteArray.mk #[100, 101, 112, 116]), (ByteArray.mk #[122, 111, 110, 101])] : List ByteArray).map (c_str)) rfl rfl tyS_9 ⟨_, rfl, rfl⟩ (by decide) rfl rfl rfl rfl rfl rfl) ?_
   refine TL.st rfl rfl rfl (o_lenL (f := c_str) rfl rfl rfl) ?_
   refine au 3 ?_
   refine T.conv (Cs.ownCell (p := 2) 5 4 rfl rfl (by decide)) (T.conv (Cs.ownCell (p := 2) 6 1 rfl rfl (by decide)) ?_)
   obtain ⟨q40, h41, H⟩ := bind_s H
   refine T.lq (fun s => match s with | (b22, b23, v24) => [(0, .bx 0 0), (2, .bx 1 0), (5, .bx 2 0), (29, .im false (([(ByteArray.mk #[65]), (ByteArray.mk #[95, 98]), (ByteArray.mk #[97, 103, 101]), (ByteArray.mk #[100, 101, 112, 116]), (ByteArray.mk #[122, 111, 110, 101])] : List ByteArray).map (c_str))), (30, .int .i64 (([(ByteArray.mk #[65]), (ByteArray.mk #[95, 98]), (ByteArray.mk #[97, 103, 101]), (ByteArray.mk #[100, 101, 112, 116]), (ByteArray.mk #[122, 111, 110, 101])] : List ByteArray).length : Int)), (31, .int .i64 v24)]) (fun s => match s with | (b22, b23, v24) => [.box (c_T_spec_l1Cur c0 b22), .box [.int .i64 0, .int .i64 0, .int .i64 0, .str e0, .str e0, .nilS, .nilS], .box (k_impl_Value 3 4 false b23), .arr .clo 4 (b23.Items_.map (c_T_impl_Atom false)), .arr .clo 1 (b23.Names_.map (c_str))]) (fun q ex fr σ => match q with | (b25, b26) => ex = .exit 3 ∧ fr = [(2, .bx 1 0), (5, .bx 2 0)] ∧ σ = [.box (c_T_spec_l1Cur c0 b25), .box [.int .i64 0, .int .i64 0, .int .i64 0, .str e0, .str e0, .nilS, .nilS], .box (k_impl_Value 3 4 false b26), .arr .clo 4 (b26.Items_.map (c_T_impl_Atom false)), .arr .clo 1 (b26.Names_.map (c_str))]) h41 ?_ ?_
   ·rintro ⟨b22, b23, v24⟩ y27 H
    refine au 5 ?_
    refine T.cH H (fun H h => ?_) (fun H h => ?_)
    ·refine au 5 ?_
     obtain ⟨e28, h29, H⟩ := bind_s H
     refine TL.st rfl rfl rfl (o_ix (f := c_str) rfl rfl tyS_9 rfl rfl h29 rfl) ?_
     refine au 6 ?_
     obtain ⟨⟨r30, o31⟩, h32, H⟩ := bind_s H
     refine TL.st rfl rfl rfl (o_callS [0] rfl en_13 rfl rfl (spec_l1Cur_one_p c0 h32) rfl (by decide) (.cons _ _ _ _ rfl .nil) rfl rfl rfl) ?_
     refine TL.nil ?_
     refine T.cH H (fun H h => ?_) (fun H h => ?_)
     ·refine au 5 ?_
      refine TL.st rfl rfl rfl (o_sliceIm (rows := ([e28] : List ByteArray).map (c_str)) rfl rfl tyS_9 ⟨_, rfl, rfl⟩ (by decide) rfl rfl rfl rfl rfl rfl) ?_
      obtain ⟨l33, h34, H⟩ := bind_s H
      refine TL.st rfl rfl rfl (o_ap (f := c_str) (xs := b23.Names_) (ys := ([e28] : List ByteArray)) rfl rfl tyE_9 rfl rfl rfl rfl (by decide) rfl (fun _ => rfl) h34) ?_
      refine TL.st rfl rfl rfl (o_fieldAddr rfl rfl rfl tyS_40 (by decide) rfl rfl ⟨_, rfl, Nat.le_of_ble_eq_true rfl⟩) ?_
      refine TL.sn rfl rfl (o_storeBx rfl tyS_40 rfl rfl rfl rfl (nb rfl) (sure_hd rfl rfl rfl)) ?_
      refine TL.nil ?_
      refine T.conv (Cs.eqS (σ' := [.box (c_T_spec_l1Cur c0 o31), _, .box (k_impl_Value 3 4 false ({ b23 with Names_ := l33 } : T_impl_Value)), _, .arr .clo 1 (l33.map (c_str))]) rfl) ?_
      obtain ⟨⟨r35, o36⟩, h37, H⟩ := bind_s H
      obtain ⟨l38, h39, H⟩ := bind_s H
      refine T.drawS (fr' := [(0, .bx 0 0), (2, .bx 1 0), (5, .bx 2 0), (7, .str e28), (29, .im false (([(ByteArray.mk #[65]), (ByteArray.mk #[95, 98]), (ByteArray.mk #[97, 103, 101]), (ByteArray.mk #[100, 101, 112, 116]), (ByteArray.mk #[122, 111, 110, 101])] : List ByteArray).map (c_str))), (30, .int .i64 (([(ByteArray.mk #[65]), (ByteArray.mk #[95, 98]), (ByteArray.mk #[97, 103, 101]), (ByteArray.mk #[100, 101, 112, 116]), (ByteArray.mk #[122, 111, 110, 101])] : List ByteArray).length : Int)), (31, .int .i64 v24), (32, .bool (decide (v24 < (([(ByteArray.mk #[65]), (ByteArray.mk #[95, 98]), (ByteArray.mk #[97, 103, 101]), (ByteArray.mk #[100, 101, 112, 116]), (ByteArray.mk #[122, 111, 110, 101])] : List ByteArray).length : Int)))), (34, .str e28), (35, .bx 0 0), (36, .bool r30), (37, .bx 2 6), (38, .hd 4 (b23.Names_.map (c_str)).length 0 (b23.Names_.map (c_str)).length), (39, .str e28), (40, .im false (([e28] : List ByteArray).map (c_str))), (41, .hd 4 (l33.map (c_str)).length 0 (l33.map (c_str)).length), (42, .bx 2 6), (43, .bx 2 5), (44, .hd 3 (b23.Items_.map (c_T_impl_Atom false)).length 0 (b23.Items_.map (c_T_impl_Atom false)).length), (45, .bx 0 0), (46, .agg (c_T_impl_Atom false r35)), (47, .im false (([r35] : List T_impl_Atom).map (c_T_impl_Atom false))), (48, .hd 3 (l38.map (c_T_impl_Atom false)).length 0 (l38.map (c_T_impl_Atom false)).length), (49, .bx 2 5)]) (R := [⟨some 43, .bx 2 5, .q, []⟩, ⟨some 44, .hd 3 (b23.Items_.map (c_T_impl_Atom false)).length 0 (b23.Items_.map (c_T_impl_Atom false)).length, .q, []⟩, ⟨some 45, .bx 0 0, .q, []⟩, ⟨some 46, .agg (c_T_impl_Atom false r35), .q, []⟩, ⟨some 47, .im false (([r35] : List T_impl_Atom).map (c_T_impl_Atom false)), .q, []⟩, ⟨some 48, .hd 3 (l38.map (c_T_impl_Atom false)).length 0 (l38.map (c_T_impl_Atom false)).length, .q, []⟩, ⟨some 49, .bx 2 5, .q, []⟩, ⟨none, .any, .q, []⟩]) (fun b => cond (b 3) (cond (b 5) (cond (b 7) ([.box (c_T_spec_l1Cur c0 o36), .box [.int .i64 0, .int .i64 0, .int .i64 0, .str e0, .str e0, .nilS, .nilS], .box (k_impl_Value 3 4 false (⟨b23.Kind_, b23.Atom_, l38, l33⟩ : T_impl_Value)), .arr .clo 4 (l38.map (c_T_impl_Atom false)), .arr .clo 1 (l33.map (c_str))]) ([.box (c_T_spec_l1Cur c0 o36), .box [.int .i64 0, .int .i64 0, .int .i64 0, .str e0, .str e0, .nilS, .nilS], .box (k_impl_Value 3 4 false ({ b23 with Names_ := l33 } : T_impl_Value)), .arr .clo 4 (l38.map (c_T_impl_Atom false)), .arr .clo 1 (l33.map (c_str))])) ([.box (c_T_spec_l1Cur c0 o36), .box [.int .i64 0, .int .i64 0, .int .i64 0, .str e0, .str e0, .nilS, .nilS], .box (k_impl_Value 3 4 false ({ b23 with Names_ := l33 } : T_impl_Value)), .arr .clo 4 (b23.Items_.map (c_T_impl_Atom false)), .arr .clo 1 (l33.map (c_str))])) ([.box (c_T_spec_l1Cur c0 o31), .box [.int .i64 0, .int .i64 0, .int .i64 0, .str e0, .str e0, .nilS, .nilS], .box (k_impl_Value 3 4 false ({ b23 with Names_ := l33 } : T_impl_Value)), .arr .clo 4 (b23.Items_.map (c_T_impl_Atom false)), .arr .clo 1 (l33.map (c_str))])) rfl ?_ ?_ rfl rfl (FrL.get (.cons rfl (.cons rfl (.cons rfl (.cons rfl (.cons rfl (.cons rfl (.cons rfl (.cons rfl (.cons rfl (.cons rfl (.cons rfl (.cons rfl (.cons rfl (.cons rfl (.cons rfl (.cons rfl (.cons rfl (.cons rfl (.cons rfl (.cons rfl (.cons rfl (.cons rfl (.cons rfl (.cons rfl .nil))))))))))))))))))))))))) ?_
      ·refine .cons _ _ _ _ _ ⟨rfl, [(5, .bx 2 0)], AllN.get rfl (.cons rfl .nil), fun b hd hn hk hc => ?_⟩ ?_
       ·cases e3 : b 3
        ·exact ops_at (cdf e3) rfl (o_fieldAddr rfl rfl rfl tyS_28 (by decide) rfl rfl ⟨_, rfl, Nat.le_of_ble_eq_true rfl⟩) (cdf ((updb_ne rfl).trans e3)) rfl
        ·exact ops_at ((cdt e3).trans (cdf (hn 5 rfl))) rfl (o_fieldAddr rfl rfl rfl tyS_28 (by decide) rfl rfl ⟨_, rfl, Nat.le_of_ble_eq_true rfl⟩) ((cdt ((updb_ne rfl).trans e3)).trans (cdf ((updb_ne rfl).trans (hn 5 rfl)))) rfl
       refine .cons _ _ _ _ _ ⟨rfl, [(43, .bx 2 5)], AllN.get rfl (.cons rfl .nil), fun b hd hn hk hc => ?_⟩ ?_
       ·cases e3 : b 3
        ·exact ops_at (cdf e3) rfl (o_loadBx rfl tyS_28 rfl rfl (nb rfl) rfl) (cdf ((updb_ne rfl).trans e3)) rfl
        ·exact ops_at ((cdt e3).trans (cdf (hn 5 rfl))) rfl (o_loadBx rfl tyS_28 rfl rfl (nb rfl) rfl) ((cdt ((updb_ne rfl).trans e3)).trans (cdf ((updb_ne rfl).trans (hn 5 rfl)))) rfl
       refine .cons _ _ _ _ _ ⟨rfl, [(0, .bx 0 0)], AllN.get rfl (.cons rfl .nil), fun b hd hn hk hc => ?_⟩ ?_
       ·exact ops_at (cdf (hn 3 rfl)) rfl (o_move rfl rfl) (cdf ((updb_ne rfl).trans (hn 3 rfl))) rfl
       refine .cons _ _ _ _ _ ⟨rfl, [(45, .bx 0 0)], AllN.get rfl (.cons rfl .nil), fun b hd hn hk hc => ?_⟩ ?_
       ·exact ops_at (cdf hk) rfl (o_callS [0] rfl en_14 rfl rfl (spec_l1Cur_atom_p c0 h37) rfl (by decide) (.cons _ _ _ _ rfl .nil) rfl rfl rfl) (((cdt updb_self).trans (cdf ((updb_ne rfl).trans (hn 5 rfl)))).trans rfl) rfl
       refine .cons _ _ _ _ _ ⟨rfl, [(46, .agg (c_T_impl_Atom false r35))], AllN.get rfl (.cons rfl .nil), fun b hd hn hk hc => ?_⟩ ?_
       ·exact ops_at ((cdt (hd 3 rfl)).trans (cdf (hn 5 rfl))) rfl (o_sliceIm (rows := ([r35] : List T_impl_Atom).map (c_T_impl_Atom false)) rfl rfl tyS_25 ⟨_, rfl, rfl⟩ (by decide) rfl rfl rfl rfl rfl rfl) ((cdt ((updb_ne rfl).trans (hd 3 rfl))).trans (cdf ((updb_ne rfl).trans (hn 5 rfl)))) rfl
       refine .cons _ _ _ _ _ ⟨rfl, [(44, .hd 3 (b23.Items_.map (c_T_impl_Atom false)).length 0 (b23.Items_.map (c_T_impl_Atom false)).length), (47, .im false (([r35] : List T_impl_Atom).map (c_T_impl_Atom false)))], AllN.get rfl (.cons rfl (.cons rfl .nil)), fun b hd hn hk hc => ?_⟩ ?_
       ·exact ops_at ((cdt (hd 3 rfl)).trans (cdf hk)) rfl (o_ap (f := c_T_impl_Atom false) (xs := b23.Items_) (ys := ([r35] : List T_impl_Atom)) rfl rfl tyE_25 rfl rfl rfl rfl (by decide) rfl (fun _ => rfl) h39) ((((cdt ((updb_ne rfl).trans (hd 3 rfl))).trans (cdt updb_self)).trans (cdf ((updb_ne rfl).trans (hn 7 rfl)))).trans rfl) rfl
       refine .cons _ _ _ _ _ ⟨rfl, [(5, .bx 2 0)], AllN.get rfl (.cons rfl .nil), fun b hd hn hk hc => ?_⟩ ?_
       ·exact ops_at (((cdt (hd 3 rfl)).trans (cdt (hd 5 rfl))).trans (cdf (hn 7 rfl))) rfl (o_fieldAddr rfl rfl rfl tyS_28 (by decide) rfl rfl ⟨_, rfl, Nat.le_of_ble_eq_true rfl⟩) (((cdt ((updb_ne rfl).trans (hd 3 rfl))).trans (cdt ((updb_ne rfl).trans (hd 5 rfl)))).trans (cdf ((updb_ne rfl).trans (hn 7 rfl)))) rfl
       refine .cons _ _ _ _ _ ⟨rfl, [(48, .hd 3 (l38.map (c_T_impl_Atom false)).length 0 (l38.map (c_T_impl_Atom false)).length), (49, .bx 2 5)], AllN.get rfl (.cons rfl (.cons rfl .nil)), fun b hd hn hk hc => ?_⟩ ?_
       ·exact ops_at (((cdt (hd 3 rfl)).trans (cdt (hd 5 rfl))).trans (cdf hk)) rfl (o_storeBx rfl tyS_28 rfl rfl rfl rfl (nb rfl) (sure_hd rfl rfl rfl)) ((((cdt ((updb_ne rfl).trans (hd 3 rfl))).trans (cdt ((updb_ne rfl).trans (hd 5 rfl)))).trans (cdt updb_self)).trans rfl) rfl
       exact .nil _
      ·intro b b' h; simp only [h 3 (by decide), h 5 (by decide), h 7 (by decide)]
      refine inB_normal (thn_normal ?_)
      refine T.conv (Cs.eqS (σ' := [.box (c_T_spec_l1Cur c0 o36), _, .box (k_impl_Value 3 4 false (⟨b23.Kind_, b23.Atom_, l38, l33⟩ : T_impl_Value)), .arr .clo 4 (l38.map (c_T_impl_Atom false)), _]) rfl) ?_
      refine au 4 ?_
      exact Pk.of (thn_normal ⟨(o36, (⟨b23.Kind_, b23.Atom_, l38, l33⟩ : T_impl_Value), (IntKind.i64.wrap (v24 + 1))), (some_i H).symm, rfl, rfl⟩)
     ·refine au 5 ?_
      exact Pk.of (thn_normal ⟨(o31, b23, (IntKind.i64.wrap (v24 + 1))), (some_i H).symm, rfl, rfl⟩)
    ·refine T.exit ?_
     refine thn_exit ?_
     exact Pk.of (thn_exit ⟨(b22, b23), (some_i H).symm, rfl, rfl, rfl⟩)
   ·rcases q40 with ⟨b25, b26⟩
    rintro _ _ _ ⟨rfl, rfl, rfl⟩
    refine inB_here ?_
    refine au 3 ?_
    refine TL.sn rfl rfl (o_storeBx rfl tyS_83 rfl rfl rfl rfl (nb rfl) (sure_c rfl (sure_c rfl (sure_c rfl (sure_c rfl (sure_c rfl (sure_hd rfl rfl (sure_hd rfl rfl rfl)))))))) ?_
    refine TL.nil ?_
    refine T.conv (Cs.frzCell (p := 3) (q := 1) 5 rfl rfl rfl rfl rfl) ?_
    refine T.conv (Cs.frzCell (p := 4) (q := 1) 6 rfl rfl rfl rfl rfl) ?_
    refine T.ret ?_
    refine inB_ret (thn_ret ?_)
    cases some_i H
    exact ⟨trivial, _, (.cell _ _ _ _ _ _ _ _ _ _ rfl rfl tyS_83 (nb rfl) rfl .nil), ⟨rfl, _, rfl⟩⟩
  ·refine au 4 ?_
   obtain ⟨⟨r42, o43⟩, h44, H⟩ := bind_s H
   refine TL.st rfl rfl rfl (o_callS [0] rfl en_14 rfl rfl (spec_l1Cur_atom_p c0 h44) rfl (by decide) (.cons _ _ _ _ rfl .nil) rfl rfl rfl) ?_
   refine au 3 ?_
   refine T.conv (Cs.eqS (σ' := [.box (c_T_spec_l1Cur c0 o43), .box ([.int .i64 1] ++ (c_T_impl_Atom false r42) ++ [.nilS, .nilS])]) rfl) ?_
   refine T.conv (Cs.nilCell (q := 1) 5 rfl rfl) ?_
   refine T.conv (Cs.nilCell (q := 1) 6 rfl rfl) ?_
   refine T.ret ?_
   cases some_i H
   exact ⟨trivial, _, (.cell _ _ _ _ _ _ _ _ _ _ rfl rfl tyS_83 (nb rfl) rfl .nil), ⟨rfl, _, rfl⟩⟩
theorem en_38 : En Tryz.prog 38 := .of Tryz.func38 rfl rfl
theorem tyE_83 : TyE Tryz.prog 83 7 := ⟨_, _, rfl, rfl, rfl, rfl, by decide, by decide⟩
noncomputable def spec_l1Cur_fields_j1 (l3 : List T_impl_Value) (v4 : Int) (l17 : (List ByteArray)) (b22 : T_spec_l1Cur) (b23 : T_impl_Value) : Option ((T_spec_l1Cur × List ByteArray × List T_impl_Value × Int) ⊕ (T_spec_l1Cur × List ByteArray × List T_impl_Value)) :=
  (app l3 ([b23] : List T_impl_Value)).bind fun l24 => some (.inl (b22, l17, l24, (IntKind.i64.wrap (v4 + 1))))
noncomputable def spec_l1Cur_fields_l1 (a0 : (List T_impl_AttrKind)) : (T_spec_l1Cur × List ByteArray × List T_impl_Value × Int) → Option ((T_spec_l1Cur × List ByteArray × List T_impl_Value × Int) ⊕ (T_spec_l1Cur × List ByteArray × List T_impl_Value)) := fun s => match s with
  | (b1, l2, l3, v4) => cond (decide (v4 < (a0.length : Int))) ((idx a0 v4).bind fun e9 => (cond e9.Must_ (spec_l1Cur_one 30 b1) (some (default, b1))).bind fun q => (match q with | (r11, o12) => (cond (!(e9.Must_ && (!r11))) (spec_l1Cur_one 2 o12) (some (default, o12))).bind fun q => (match q with | (r14, o15) => cond ((e9.Must_ && (!r11)) || r14) ((app l2 ([e9.Name_] : List ByteArray)).bind fun l17 => (spec_l1Cur_fieldValue e9.Kind_ o15).bind fun q => (match q with | (r19, o20) => (spec_l1Cur_one 40 o20).bind fun q => (match q with | (r26, o27) => cond r26 ((spec_l1Cur_value o27).bind fun q => (match q with | (r29, o30) => spec_l1Cur_fields_j1 l3 v4 l17 o30 r29)) (spec_l1Cur_fields_j1 l3 v4 l17 o27 r19)))) (some (.inl (o15, l2, l3, (IntKind.i64.wrap (v4 + 1)))))))) (some (.inr (b1, l2, l3)))
noncomputable def spec_l1Cur_fields (a0 : (List T_impl_AttrKind)) (s0 : T_spec_l1Cur) : Option ((List ByteArray) × (List T_impl_Value) × T_spec_l1Cur) :=
  (loopO (spec_l1Cur_fields_l1 a0) (s0, ([] : List ByteArray), ([] : List T_impl_Value), 0)).bind fun q32 => (match q32 with | (b5, l6, l7) => some (l6, l7, b5))
theorem spec_l1Cur_fields_p (b0 : Bool) (c0 : Bool) {a0 : (List T_impl_AttrKind)} {s0 : T_spec_l1Cur} {R0 : (List ByteArray)} {R1 : (List T_impl_Value)} {U0 : T_spec_l1Cur} (H : spec_l1Cur_fields a0 s0 = some (R0, R1, U0)) : St Tryz.prog 29 [.bx 0 0, .im b0 (a0.map (c_T_impl_AttrKind false))] [.box (c_T_spec_l1Cur c0 s0)] (.tup [.im false (R0.map (c_str)), .im false (R1.map (c_T_impl_Value false))]) [.box (c_T_spec_l1Cur c0 U0)] := by
 refine CallT.fin (CallT.of_TN (n := 48) Tryz.func29 rfl rfl rfl rfl ?_) rfl rfl ⟨(bels_iff.1 rfl), trivial⟩
 refine au 17 ?_
 refine TL.st rfl rfl rfl (o_lenL (f := c_T_impl_AttrKind false) rfl rfl rfl) ?_
 refine au 3 ?_
 refine T.conv (Cs.own (t := 6) 1 rfl (by decide)) ?_
 refine T.conv (Cs.own (t := 7) 7 rfl (by decide)) ?_
 obtain ⟨q32, h33, H⟩ := bind_s H
 refine T.lq (fun s => match s with | (b1, l2, l3, v4) => [(0, .bx 0 0), (6, .hd 1 (l2.map (c_str)).length 0 (l2.map (c_str)).length), (7, .hd 2 (l3.map (c_T_impl_Value false)).length 0 (l3.map (c_T_impl_Value false)).length), (11, .im b0 (a0.map (c_T_impl_AttrKind false))), (12, .int .i64 (a0.length : Int)), (13, .int .i64 v4)]) (fun s => match s with | (b1, l2, l3, v4) => [.box (c_T_spec_l1Cur c0 b1), .arr .clo 1 (l2.map (c_str)), .arr .clo 7 (l3.map (c_T_impl_Value false))]) (fun q ex fr σ => match q with | (b5, l6, l7) => ex = .exit 0 ∧ fr = [(6, .hd 1 (l6.map (c_str)).length 0 (l6.map (c_str)).length), (7, .hd 2 (l7.map (c_T_impl_Value false)).length 0 (l7.map (c_T_impl_Value false)).length)] ∧ σ = [.box (c_T_spec_l1Cur c0 b5), .arr .clo 1 (l6.map (c_str)), .arr .clo 7 (l7.map (c_T_impl_Value false))]) h33 ?_ ?_
 ·rintro ⟨b1, l2, l3, v4⟩ y8 H
  refine au 5 ?_
  refine T.cH H (fun H h => ?_) (fun H h => ?_)
  ·refine au 5 ?_
   obtain ⟨e9, h10, H⟩ := bind_s H
   refine TL.st rfl rfl rfl (o_ix (f := c_T_impl_AttrKind false) rfl rfl tyS_78 rfl rfl h10 rfl) ?_
   refine au 10 ?_
   obtain ⟨⟨r11, o12⟩, h13, H⟩ := bind_s H
   refine TL.gc rfl rfl rfl (.bool _) rfl rfl (fun h => o_callS [0] rfl en_13 rfl (evl_2 (gv h rfl) rfl) (spec_l1Cur_one_p c0 (cond_t h h13)) rfl (by decide) (.cons _ _ _ _ rfl .nil) rfl rfl rfl) (fun h => by cases cond_f h h13; rfl) ?_
   refine au 4 ?_
   obtain ⟨⟨r14, o15⟩, h16, H⟩ := bind_s H
   refine TL.gc rfl rfl rfl (.bool _) rfl rfl (fun h => o_callS [0] rfl en_13 rfl (evl_2 (gv h rfl) rfl) (spec_l1Cur_one_p c0 (cond_t h h16)) rfl (by decide) (.cons _ _ _ _ rfl .nil) rfl rfl rfl) (fun h => by cases cond_f h h16; rfl) ?_
   refine au 2 ?_
   refine T.conv (Cs.eqS (σ' := [.box (c_T_spec_l1Cur c0 o15), _, _, .box (c_T_impl_AttrKind false e9)]) rfl) ?_
   refine T.cH H (fun H h => ?_) (fun H h => ?_)
   ·refine au 5 ?_
    refine TL.st rfl rfl rfl (o_sliceIm (rows := ([e9.Name_] : List ByteArray).map (c_str)) rfl rfl tyS_9 ⟨_, rfl, rfl⟩ (by decide) rfl rfl rfl rfl rfl rfl) ?_
    obtain ⟨l17, h18, H⟩ := bind_s H
    refine TL.st rfl rfl rfl (o_ap (f := c_str) (xs := l2) (ys := ([e9.Name_] : List ByteArray)) rfl rfl tyE_9 rfl rfl rfl rfl (by decide) rfl (fun _ => rfl) h18) ?_
    refine au 7 ?_
    obtain ⟨⟨r19, o20⟩, h21, H⟩ := bind_s H
    refine TL.st rfl rfl rfl (o_callS [0] rfl en_56 rfl rfl (spec_l1Cur_fieldValue_p c0 h21) rfl (by decide) (.cons _ _ _ _ rfl .nil) rfl rfl rfl) ?_
    refine au 3 ?_
    refine T.cut (fun fr' σ' => ∃ (b22 : T_spec_l1Cur) (b23 : T_impl_Value), fr' = [(0, .bx 0 0), (6, .hd 1 (l17.map (c_str)).length 0 (l17.map (c_str)).length), (7, .hd 2 (l3.map (c_T_impl_Value false)).length 0 (l3.map (c_T_impl_Value false)).length), (10, .bx 4 0), (11, .im b0 (a0.map (c_T_impl_AttrKind false))), (12, .int .i64 (a0.length : Int)), (13, .int .i64 v4)] ∧ σ' = [.box (c_T_spec_l1Cur c0 b22), .arr .clo 1 (l17.map (c_str)), .arr .clo 7 (l3.map (c_T_impl_Value false)), .box (c_T_impl_AttrKind false e9), .box (c_T_impl_Value false b23)] ∧ spec_l1Cur_fields_j1 l3 v4 l17 b22 b23 = some y8) (T.pk ?_) ?_
    ·skip
     refine T.seq ?_
     refine T.conv (Cs.eqS (σ' := [.box (c_T_spec_l1Cur c0 o20), .arr .clo 1 (l17.map (c_str)), _, _, .box (c_T_impl_Value false r19)]) rfl) ?_
     refine au 2 ?_
     obtain ⟨⟨r26, o27⟩, h28, H⟩ := bind_s H
     refine TL.st rfl rfl rfl (o_callS [0] rfl en_13 rfl rfl (spec_l1Cur_one_p c0 h28) rfl (by decide) (.cons _ _ _ _ rfl .nil) rfl rfl rfl) ?_
     refine TL.nil ?_
     refine T.cH H (fun H h => ?_) (fun H h => ?_)
     ·refine au 2 ?_
      obtain ⟨⟨r29, o30⟩, h31, H⟩ := bind_s H
      refine TL.st rfl rfl rfl (o_callS [0] rfl en_38 rfl rfl (spec_l1Cur_value_p c0 h31) rfl (by decide) (.cons _ _ _ _ rfl .nil) rfl rfl rfl) ?_
      refine au 2 ?_
      exact Pk.of (thn_normal ⟨o30, r29, rfl, rfl, H⟩)
     ·refine T.skip ?_
      exact Pk.of (thn_normal ⟨o27, r19, rfl, rfl, H⟩)
    ·rintro _ _ ⟨b22, b23, rfl, rfl, H⟩
     refine au 3 ?_
     refine TL.st rfl rfl rfl (o_sliceIm (rows := ([b23] : List T_impl_Value).map (c_T_impl_Value false)) rfl rfl tyS_83 ⟨_, rfl, rfl⟩ (by decide) rfl rfl rfl rfl rfl rfl) ?_
     obtain ⟨l24, h25, H⟩ := bind_s H
     refine TL.st rfl rfl rfl (o_ap (f := c_T_impl_Value false) (xs := l3) (ys := ([b23] : List T_impl_Value)) rfl rfl tyE_83 rfl rfl rfl rfl (by decide) rfl (fun _ => rfl) h25) ?_
     refine au 6 ?_
     exact Pk.of (thn_normal ⟨(b22, l17, l24, (IntKind.i64.wrap (v4 + 1))), (some_i H).symm, rfl, rfl⟩)
   ·refine au 5 ?_
    exact Pk.of (thn_normal ⟨(o15, l2, l3, (IntKind.i64.wrap (v4 + 1))), (some_i H).symm, rfl, rfl⟩)
  ·refine T.exit ?_
   refine thn_exit ?_
   exact Pk.of (thn_exit ⟨(b1, l2, l3), (some_i H).symm, rfl, rfl, rfl⟩)
 ·rcases q32 with ⟨b5, l6, l7⟩
  rintro _ _ _ ⟨rfl, rfl, rfl⟩
  refine inB_here ?_
  refine au 7 ?_
  refine T.conv (Cs.frzOwn (t := 4) rfl rfl rfl) ?_
  refine T.conv (Cs.frzOwn (t := 5) rfl rfl rfl) ?_
  refine T.ret ?_
  cases some_i H
  exact ⟨trivial, _, (.tmp _ _ _ _ rfl (.tmp _ _ _ _ rfl .nil)), ⟨rfl, _, rfl⟩⟩
theorem en_29 : En Tryz.prog 29 := .of Tryz.func29 rfl rfl
noncomputable def spec_l3Has_l1 (a0 : (List ByteArray)) (a1 : ByteArray) : Int → Option (Int ⊕ (Unit ⊕ Bool)) := fun s => match s with
  | v1 => cond (decide (v1 < (a0.length : Int))) ((idx a0 v1).bind fun e4 => cond (e4.toList == a1.toList) (some (.inr (.inr true))) (some (.inl (IntKind.i64.wrap (v1 + 1))))) (some (.inr (.inl ())))
noncomputable def spec_l3Has (a0 : (List ByteArray)) (a1 : ByteArray) : Option Bool :=
  (loopO (spec_l3Has_l1 a0 a1) 0).bind fun q6 => (match q6 with | .inl _ => some false | .inr q2 => some q2)
theorem spec_l3Has_p (b0 : Bool) {a0 : (List ByteArray)} {a1 : ByteArray} {R0 : Bool} (H : spec_l3Has a0 a1 = some R0) : Pure Tryz.prog 30 [.im b0 (a0.map (c_str)), .str a1] (.bool R0) := by
 refine CallT.of_TN (n := 17) Tryz.func30 rfl rfl rfl rfl ?_
 refine au 8 ?_
 refine TL.st rfl rfl rfl (o_lenL (f := c_str) rfl rfl rfl) ?_
 refine au 3 ?_
 obtain ⟨q6, h7, H⟩ := bind_s H
 refine T.lq (fun s => match s with | v1 => [(1, .str a1), (7, .im b0 (a0.map (c_str))), (8, .int .i64 (a0.length : Int)), (9, .int .i64 v1)]) (fun s => match s with | v1 => []) (fun q ex fr σ => match q with | .inl _ => ex = .exit 0 ∧ fr = [] ∧ σ = [] | .inr q2 => ex = .ret ∧ RetN Tryz.prog [.tmp 4] (fun v τ => Told τ v (.bool q2)) .ret fr σ) h7 ?_ ?_
 ·rintro v1 y3 H
  refine au 5 ?_
  refine T.cH H (fun H h => ?_) (fun H h => ?_)
  ·refine au 5 ?_
   obtain ⟨e4, h5, H⟩ := bind_s H
   refine TL.st rfl rfl rfl (o_ix (f := c_str) rfl rfl tyS_9 rfl rfl h5 rfl) ?_
   refine au 9 ?_
   refine T.cH H (fun H h => ?_) (fun H h => ?_)
   ·refine au 5 ?_
    refine inB_ret (thn_ret ?_)
    exact Pk.id (thn_ret ⟨.inr true, (some_i H).symm, rfl, ⟨trivial, _, (.tmp _ _ _ _ rfl .nil), (.cl _ rfl)⟩⟩)
   ·refine au 5 ?_
    exact Pk.of (thn_normal ⟨(IntKind.i64.wrap (v1 + 1)), (some_i H).symm, rfl, rfl⟩)
  ·refine T.exit ?_
   refine thn_exit ?_
   exact Pk.of (thn_exit ⟨.inl (), (some_i H).symm, rfl, rfl, rfl⟩)
 ·rcases q6 with ⟨⟩ | q2
  ·rintro _ _ _ ⟨rfl, rfl, rfl⟩
   refine inB_here ?_
   refine au 5 ?_
   cases some_i H
   exact ⟨trivial, _, (.tmp _ _ _ _ rfl .nil), (.cl _ rfl)⟩
  ·rintro _ fr1 σ1 ⟨rfl, hr⟩
   refine inB_ret (thn_ret ?_)
   cases some_i H
   exact hr
theorem en_30 : En Tryz.prog 30 := .of Tryz.func30 rfl rfl
def k_impl_Thing (a1 : Nat) (b : Bool) (x : T_impl_Thing) : List V := ((c_T_impl_Atom b x.Ref_) ++ [.hd a1 (x.Parents_.map (c_T_impl_Atom false)).length 0 (x.Parents_.map (c_T_impl_Atom false)).length, .im b (x.Names_.map (c_str)), .im b (x.Values_.map (c_T_impl_Value false))])
theorem tyE_63 : TyE Tryz.prog 63 7 := ⟨_, _, rfl, rfl, rfl, rfl, by decide, by decide⟩
theorem tyS_43 : TyS Tryz.prog 43 true 14 := ⟨rfl, rfl⟩
noncomputable def spec_l1Cur_thingRef (s0 : T_spec_l1Cur) : Option (T_impl_Atom × T_spec_l1Cur) :=
  (spec_l1Cur_pick 4 s0).bind fun q => (match q with | (r1, o2) => cond (r1 == 0) ((spec_l1Cur_of ([(ByteArray.mk #[103, 49]), (ByteArray.mk #[103, 50])] : List ByteArray) o2).bind fun q => (match q with | (r4, o5) => (spec_l10Ref (ByteArray.mk #[71, 114, 111, 117, 112]) r4).bind fun r7 => some (r7, o5))) (cond (r1 == 1) ((spec_l1Cur_of ([(ByteArray.mk #[100, 49]), (ByteArray.mk #[100, 50])] : List ByteArray) o2).bind fun q => (match q with | (r9, o10) => (spec_l10Ref (ByteArray.mk #[68, 111, 99]) r9).bind fun r12 => some (r12, o10))) ((spec_l1Cur_of ([(ByteArray.mk #[97, 110, 110]), (ByteArray.mk #[98, 111, 98]), (ByteArray.mk #[99, 121])] : List ByteArray) o2).bind fun q => (match q with | (r14, o15) => (spec_l10Ref (ByteArray.mk #[85, 115, 101, 114]) r14).bind fun r17 => some (r17, o15)))))
theorem spec_l1Cur_thingRef_p (c0 : Bool) {s0 : T_spec_l1Cur} {R0 : T_impl_Atom} {U0 : T_spec_l1Cur} (H : spec_l1Cur_thingRef s0 = some (R0, U0)) : St Tryz.prog 12 [.bx 0 0] [.box (c_T_spec_l1Cur c0 s0)] (.agg (c_T_impl_Atom false R0)) [.box (c_T_spec_l1Cur c0 U0)] := by
 refine CallT.fin (CallT.of_TN (n := 21) Tryz.func12 rfl rfl rfl rfl ?_) rfl rfl ⟨(bels_iff.1 rfl), trivial⟩
 refine au 8 ?_
 obtain ⟨⟨r1, o2⟩, h3, H⟩ := bind_s H
 refine TL.st rfl rfl rfl (o_callS [0] rfl en_33 rfl rfl (spec_l1Cur_pick_p c0 h3) rfl (by decide) (.cons _ _ _ _ rfl .nil) rfl rfl rfl) ?_
 refine au 7 ?_
 refine T.cH H (fun H h => ?_) (fun H h => ?_)
 ·refine au 3 ?_
  refine TL.st rfl rfl rfl (o_sliceIm (rows := ([(ByteArray.mk #[103, 49]), (ByteArray.mk #[103, 50])] : List ByteArray).map (c_str)) rfl rfl tyS_9 ⟨_, rfl, rfl⟩ (by decide) rfl rfl rfl rfl rfl rfl) ?_
  obtain ⟨⟨r4, o5⟩, h6, H⟩ := bind_s H
  refine TL.st rfl rfl rfl (o_callS [0] rfl en_31 rfl rfl (spec_l1Cur_of_p false c0 h6) rfl (by decide) (.cons _ _ _ _ rfl .nil) rfl rfl rfl) ?_
  obtain ⟨r7, h8, H⟩ := bind_s H
  refine TL.st rfl rfl rfl (o_callP rfl en_27 rfl rfl (.cons _ _ _ _ (.cl _ rfl) (.cons _ _ _ _ (.cl _ rfl) .nil)) (spec_l10Ref_p  h8)) ?_
  refine au 2 ?_
  refine T.conv (Cs.eqS (σ' := [.box (c_T_spec_l1Cur c0 o5), .box (c_T_impl_Atom false r7)]) rfl) ?_
  refine T.ret ?_
  refine inB_ret (thn_ret ?_)
  cases some_i H
  exact ⟨trivial, _, (.cell _ _ _ _ _ _ _ _ _ _ rfl rfl tyS_25 (nb rfl) rfl .nil), ⟨rfl, _, rfl⟩⟩
 ·refine au 5 ?_
  refine T.cH H (fun H h => ?_) (fun H h => ?_)
  ·refine au 3 ?_
   refine TL.st rfl rfl rfl (o_sliceIm (rows := ([(ByteArray.mk #[100, 49]), (ByteArray.mk #[100, 50])] : List ByteArray).map (c_str)) rfl rfl tyS_9 ⟨_, rfl, rfl⟩ (by decide) rfl rfl rfl rfl rfl rfl) ?_
   obtain ⟨⟨r9, o10⟩, h11, H⟩ := bind_s H
   refine TL.st rfl rfl rfl (o_callS [0] rfl en_31 rfl rfl (spec_l1Cur_of_p false c0 h11) rfl (by decide) (.cons _ _ _ _ rfl .nil) rfl rfl rfl) ?_
   obtain ⟨r12, h13, H⟩ := bind_s H
   refine TL.st rfl rfl rfl (o_callP rfl en_27 rfl rfl (.cons _ _ _ _ (.cl _ rfl) (.cons _ _ _ _ (.cl _ rfl) .nil)) (spec_l10Ref_p  h13)) ?_
   refine au 2 ?_
   refine T.conv (Cs.eqS (σ' := [.box (c_T_spec_l1Cur c0 o10), .box (c_T_impl_Atom false r12)]) rfl) ?_
   refine T.ret ?_
   refine inB_ret (thn_ret ?_)
   cases some_i H
   exact ⟨trivial, _, (.cell _ _ _ _ _ _ _ _ _ _ rfl rfl tyS_25 (nb rfl) rfl .nil), ⟨rfl, _, rfl⟩⟩
  ·refine au 4 ?_
   refine TL.st rfl rfl rfl (o_sliceIm (rows := ([(ByteArray.mk #[97, 110, 110]), (ByteArray.mk #[98, 111, 98]), (ByteArray.mk #[99, 121])] : List ByteArray).map (c_str)) rfl rfl tyS_9 ⟨_, rfl, rfl⟩ (by decide) rfl rfl rfl rfl rfl rfl) ?_
   obtain ⟨⟨r14, o15⟩, h16, H⟩ := bind_s H
   refine TL.st rfl rfl rfl (o_callS [0] rfl en_31 rfl rfl (spec_l1Cur_of_p false c0 h16) rfl (by decide) (.cons _ _ _ _ rfl .nil) rfl rfl rfl) ?_
   obtain ⟨r17, h18, H⟩ := bind_s H
   refine TL.st rfl rfl rfl (o_callP rfl en_27 rfl rfl (.cons _ _ _ _ (.cl _ rfl) (.cons _ _ _ _ (.cl _ rfl) .nil)) (spec_l10Ref_p  h18)) ?_
   refine au 2 ?_
   refine T.conv (Cs.eqS (σ' := [.box (c_T_spec_l1Cur c0 o15), .box (c_T_impl_Atom false r17)]) rfl) ?_
   refine T.ret ?_
   cases some_i H
   exact ⟨trivial, _, (.cell _ _ _ _ _ _ _ _ _ _ rfl rfl tyS_25 (nb rfl) rfl .nil), ⟨rfl, _, rfl⟩⟩
theorem en_12 : En Tryz.prog 12 := .of Tryz.func12 rfl rfl
noncomputable def spec_l11Action_l1 (a0 : T_impl_PolSchema) (a1 : ByteArray) : Int → Option (Int ⊕ (Unit ⊕ (T_impl_ActionType × Bool))) := fun s => match s with
  | v1 => cond (decide (v1 < (a0.Actions_.length : Int))) ((idx a0.Actions_ v1).bind fun e4 => cond (e4.Id_.toList == a1.toList) (some (.inr (.inr (e4, true)))) (some (.inl (IntKind.i64.wrap (v1 + 1))))) (some (.inr (.inl ())))
noncomputable def spec_l11Action (a0 : T_impl_PolSchema) (a1 : ByteArray) : Option (T_impl_ActionType × Bool) :=
  (loopO (spec_l11Action_l1 a0 a1) 0).bind fun q6 => (match q6 with | .inl _ => some ((⟨e0, ([] : List ByteArray), ([] : List ByteArray), ([] : List T_impl_AttrKind)⟩ : T_impl_ActionType), false) | .inr q2 => some q2)
theorem spec_l11Action_p (b0 : Bool) {a0 : T_impl_PolSchema} {a1 : ByteArray} {R0 : T_impl_ActionType} {R1 : Bool} (H : spec_l11Action a0 a1 = some (R0, R1)) : Pure Tryz.prog 32 [.agg (c_T_impl_PolSchema b0 a0), .str a1] (.tup [.agg (c_T_impl_ActionType false R0), .bool R1]) := by
 refine CallT.of_TN (n := 22) Tryz.func32 rfl rfl rfl rfl ?_
 refine au 11 ?_
 refine TL.st rfl rfl rfl (o_lenL (f := c_T_impl_ActionType false) rfl rfl rfl) ?_
 refine au 3 ?_
 obtain ⟨q6, h7, H⟩ := bind_s H
 refine T.lq (fun s => match s with | v1 => [(1, .str a1), (4, .bx 1 0), (9, .im b0 (a0.Actions_.map (c_T_impl_ActionType false))), (10, .int .i64 (a0.Actions_.length : Int)), (11, .int .i64 v1)]) (fun s => match s with | v1 => [.box (c_T_impl_PolSchema b0 a0), .box [.str e0, .nilS, .nilS, .nilS]]) (fun q ex fr σ => match q with | .inl _ => ex = .exit 0 ∧ fr = [(4, .bx 1 0)] ∧ σ = [.box (c_T_impl_PolSchema b0 a0), .box [.str e0, .nilS, .nilS, .nilS]] | .inr q2 => ex = .ret ∧ RetN Tryz.prog [.cell 4 74, .tmp 5] (fun v τ => Told τ v (.tup [.agg (c_T_impl_ActionType false q2.1), .bool q2.2])) .ret fr σ) h7 ?_ ?_
 ·rintro v1 y3 H
  refine au 5 ?_
  refine T.cH H (fun H h => ?_) (fun H h => ?_)
  ·refine au 5 ?_
   obtain ⟨e4, h5, H⟩ := bind_s H
   refine TL.st rfl rfl rfl (o_ix (f := c_T_impl_ActionType false) rfl rfl tyS_74 rfl rfl h5 rfl) ?_
   refine au 11 ?_
   refine T.cH H (fun H h => ?_) (fun H h => ?_)
   ·refine au 6 ?_
    refine T.conv (Cs.eqS (σ' := [_, .box (c_T_impl_ActionType false e4), .box (c_T_impl_ActionType false e4)]) rfl) ?_
    refine T.ret ?_
    refine inB_ret (thn_ret ?_)
    exact Pk.id (thn_ret ⟨.inr (e4, true), (some_i H).symm, rfl, ⟨trivial, _, (.cell _ _ _ _ _ _ _ _ _ _ rfl rfl tyS_74 (nb rfl) rfl (.tmp _ _ _ _ rfl .nil)), (.tupL (.cons _ _ _ _ (.cl _ rfl) (.cons _ _ _ _ (.cl _ rfl) .nil)))⟩⟩)
   ·refine au 5 ?_
    exact Pk.of (thn_normal ⟨(IntKind.i64.wrap (v1 + 1)), (some_i H).symm, rfl, rfl⟩)
  ·refine T.exit ?_
   refine thn_exit ?_
   exact Pk.of (thn_exit ⟨.inl (), (some_i H).symm, rfl, rfl, rfl⟩)
 ·rcases q6 with ⟨⟩ | q2
  ·rintro _ _ _ ⟨rfl, rfl, rfl⟩
   refine inB_here ?_
   refine au 7 ?_
   cases some_i H
   exact ⟨trivial, _, (.cell _ _ _ _ _ _ _ _ _ _ rfl rfl tyS_74 (nb rfl) rfl (.tmp _ _ _ _ rfl .nil)), (.tupL (.cons _ _ _ _ (.aggL (.cons _ _ _ _ (.cl _ rfl) (.cons _ _ _ _ .nil (.cons _ _ _ _ .nil (.cons _ _ _ _ .nil .nil))))) (.cons _ _ _ _ (.cl _ rfl) .nil)))⟩
  ·rintro _ fr1 σ1 ⟨rfl, hr⟩
   refine inB_ret (thn_ret ?_)
   cases some_i H
   exact hr
theorem en_32 : En Tryz.prog 32 := .of Tryz.func32 rfl rfl
noncomputable def spec_l1Cur_world_j1 (a0 : T_impl_PolSchema) (l19 : List T_impl_Thing) (b35 : T_spec_l1Cur) (b36 : T_impl_Request) : Option ((List T_impl_Thing) × T_impl_Request × T_spec_l1Cur) :=
  (spec_l11Action a0 b36.Action_.Text_).bind fun q => (match q with | (r37, r38) => (spec_l1Cur_fields r37.Context_ b35).bind fun q => (match q with | (r40, r41, o42) => some (l19, ({ b36 with Names_ := r40, Values_ := r41 } : T_impl_Request), o42)))
noncomputable def spec_l1Cur_world_l2 (e54 : T_impl_Atom) (r56 : T_impl_ThingType) (r63 : T_impl_Atom) (r65 : T_impl_Atom) (r67 : T_impl_Atom) : (T_spec_l1Cur × T_impl_Thing × Int) → Option ((T_spec_l1Cur × T_impl_Thing × Int) ⊕ (T_spec_l1Cur × T_impl_Thing)) := fun s => match s with
  | (b69, b70, v71) => cond (decide (v71 < (([r63, r65, r67] : List T_impl_Atom).length : Int))) ((idx ([r63, r65, r67] : List T_impl_Atom) v71).bind fun e80 => (spec_l3Has r56.Ups_ e80.Type_).bind fun r82 => (cond (r82 && (!(e80 == e54))) (spec_l1Cur_one 3 b69) (some (default, b69))).bind fun q => (match q with | (r84, o85) => cond ((r82 && (!(e80 == e54))) && r84) ((app b70.Parents_ ([e80] : List T_impl_Atom)).bind fun l87 => some (.inl (o85, ({ b70 with Parents_ := l87 } : T_impl_Thing), (IntKind.i64.wrap (v71 + 1))))) (some (.inl (o85, b70, (IntKind.i64.wrap (v71 + 1))))))) (some (.inr (b69, b70)))
noncomputable def spec_l1Cur_world_l1 (a0 : T_impl_PolSchema) (r1 : T_impl_Atom) (r3 : T_impl_Atom) (r5 : T_impl_Atom) (r7 : T_impl_Atom) (r9 : T_impl_Atom) (r11 : T_impl_Atom) (r13 : T_impl_Atom) : (T_spec_l1Cur × List T_impl_Thing × Int) → Option ((T_spec_l1Cur × List T_impl_Thing × Int) ⊕ (T_spec_l1Cur × List T_impl_Thing)) := fun s => match s with
  | (b15, l16, v17) => cond (decide (v17 < (([r1, r3, r5, r7, r9, r11, r13] : List T_impl_Atom).length : Int))) ((idx ([r1, r3, r5, r7, r9, r11, r13] : List T_impl_Atom) v17).bind fun e54 => (spec_l11ThingType a0 e54.Type_).bind fun q => (match q with | (r56, r57) => (spec_l1Cur_fields r56.Attrs_ b15).bind fun q => (match q with | (r59, r60, o61) => (spec_l10Ref (ByteArray.mk #[68, 111, 99]) (ByteArray.mk #[100, 49])).bind fun r63 => (spec_l10Ref (ByteArray.mk #[71, 114, 111, 117, 112]) (ByteArray.mk #[103, 49])).bind fun r65 => (spec_l10Ref (ByteArray.mk #[71, 114, 111, 117, 112]) (ByteArray.mk #[103, 50])).bind fun r67 => (loopO (spec_l1Cur_world_l2 e54 r56 r63 r65 r67) (o61, (⟨e54, ([] : List T_impl_Atom), r59, r60⟩ : T_impl_Thing), 0)).bind fun q89 => (match q89 with | (b72, b73) => (cond (!(!(e54.Text_.toList == (ByteArray.mk #[99, 121]).toList))) (spec_l1Cur_one 3 b72) (some (default, b72))).bind fun q => (match q with | (r74, o75) => cond ((!(e54.Text_.toList == (ByteArray.mk #[99, 121]).toList)) || (!r74)) ((app l16 ([b73] : List T_impl_Thing)).bind fun l77 => some (.inl (o75, l77, (IntKind.i64.wrap (v17 + 1))))) (some (.inl (o75, l16, (IntKind.i64.wrap (v17 + 1)))))))))) (some (.inr (b15, l16)))
noncomputable def spec_l1Cur_world (a0 : T_impl_PolSchema) (s0 : T_spec_l1Cur) : Option ((List T_impl_Thing) × T_impl_Request × T_spec_l1Cur) :=
  (spec_l10Ref (ByteArray.mk #[68, 111, 99]) (ByteArray.mk #[100, 49])).bind fun r1 => (spec_l10Ref (ByteArray.mk #[68, 111, 99]) (ByteArray.mk #[100, 50])).bind fun r3 => (spec_l10Ref (ByteArray.mk #[71, 114, 111, 117, 112]) (ByteArray.mk #[103, 49])).bind fun r5 => (spec_l10Ref (ByteArray.mk #[71, 114, 111, 117, 112]) (ByteArray.mk #[103, 50])).bind fun r7 => (spec_l10Ref (ByteArray.mk #[85, 115, 101, 114]) (ByteArray.mk #[97, 110, 110])).bind fun r9 => (spec_l10Ref (ByteArray.mk #[85, 115, 101, 114]) (ByteArray.mk #[98, 111, 98])).bind fun r11 => (spec_l10Ref (ByteArray.mk #[85, 115, 101, 114]) (ByteArray.mk #[99, 121])).bind fun r13 => (loopO (spec_l1Cur_world_l1 a0 r1 r3 r5 r7 r9 r11 r13) (s0, ([] : List T_impl_Thing), 0)).bind fun q91 => (match q91 with | (b18, l19) => (spec_l1Cur_of ([(ByteArray.mk #[97, 110, 110]), (ByteArray.mk #[98, 111, 98]), (ByteArray.mk #[99, 121])] : List ByteArray) b18).bind fun q => (match q with | (r20, o21) => (spec_l10Ref (ByteArray.mk #[85, 115, 101, 114]) r20).bind fun r23 => (spec_l1Cur_of ([(ByteArray.mk #[118, 105, 101, 119]), (ByteArray.mk #[101, 100, 105, 116])] : List ByteArray) o21).bind fun q => (match q with | (r25, o26) => (spec_l10Ref (ByteArray.mk #[65, 99, 116, 105, 111, 110]) r25).bind fun r28 => (spec_l1Cur_of ([(ByteArray.mk #[100, 49]), (ByteArray.mk #[100, 50])] : List ByteArray) o26).bind fun q => (match q with | (r30, o31) => (spec_l10Ref (ByteArray.mk #[68, 111, 99]) r30).bind fun r33 => (spec_l1Cur_one 5 o31).bind fun q => (match q with | (r44, o45) => cond r44 ((spec_l1Cur_thingRef o45).bind fun q => (match q with | (r47, o48) => (spec_l1Cur_thingRef o48).bind fun q => (match q with | (r50, o51) => spec_l1Cur_world_j1 a0 l19 o51 (⟨r47, ({ r28 with Text_ := (ByteArray.mk #[118, 105, 101, 119]) } : T_impl_Atom), r50, ([] : List ByteArray), ([] : List T_impl_Value)⟩ : T_impl_Request)))) (spec_l1Cur_world_j1 a0 l19 o45 (⟨r23, r28, r33, ([] : List ByteArray), ([] : List T_impl_Value)⟩ : T_impl_Request)))))))
theorem en_10 : En Tryz.prog 10 := .of Tryz.func10 rfl rfl
theorem spec_l1Cur_fields_o (b0 : Bool) (c0 : Bool) {a0 : (List T_impl_AttrKind)} {s0 : T_spec_l1Cur} {R0 : (List ByteArray)} {R1 : (List T_impl_Value)} {U0 : T_spec_l1Cur} (H : spec_l1Cur_fields a0 s0 = some (R0, R1, U0)) : St Tryz.prog 29 [.bx 0 0, .im b0 (a0.map (c_T_impl_AttrKind false))] [.box (c_T_spec_l1Cur c0 s0)] (.tup [.hd 1 (R0.map (c_str)).length 0 (R0.map (c_str)).length, .hd 2 (R1.map (c_T_impl_Value false)).length 0 (R1.map (c_T_impl_Value false)).length]) [.box (c_T_spec_l1Cur c0 U0), .arr .clo 1 (R0.map (c_str)), .arr .clo 7 (R1.map (c_T_impl_Value false))] := by
 refine CallT.finR (CallT.of_TN (n := 48) Tryz.func29 rfl rfl rfl rfl ?_) rfl rfl ⟨(bels_iff.1 rfl), ⟨trivial, ⟨trivial, trivial⟩⟩⟩
 refine T.conv Cs.pushDead ?_
 refine T.conv Cs.pushDead ?_
 refine T.conv (Cs.wkF (M := 3) (.k 0 rfl rfl (.k 1 rfl rfl .nil))) ?_
 refine T.conv (Cs.eqS (σ' := [.box (c_T_spec_l1Cur c0 s0), .dead, .dead]) rfl) ?_
 refine au 17 ?_
 refine TL.st rfl rfl rfl (o_lenL (f := c_T_impl_AttrKind false) rfl rfl rfl) ?_
 refine au 3 ?_
 refine T.conv (Cs.own (t := 6) 1 rfl (by decide)) ?_
 refine T.conv (Cs.own (t := 7) 7 rfl (by decide)) ?_
 obtain ⟨q32, h33, H⟩ := bind_s H
 refine T.lq (fun s => match s with | (b1, l2, l3, v4) => [(0, .bx 0 0), (6, .hd 3 (l2.map (c_str)).length 0 (l2.map (c_str)).length), (7, .hd 4 (l3.map (c_T_impl_Value false)).length 0 (l3.map (c_T_impl_Value false)).length), (11, .im b0 (a0.map (c_T_impl_AttrKind false))), (12, .int .i64 (a0.length : Int)), (13, .int .i64 v4)]) (fun s => match s with | (b1, l2, l3, v4) => [.box (c_T_spec_l1Cur c0 b1), .dead, .dead, .arr .clo 1 (l2.map (c_str)), .arr .clo 7 (l3.map (c_T_impl_Value false))]) (fun q ex fr σ => match q with | (b5, l6, l7) => ex = .exit 0 ∧ fr = [(6, .hd 3 (l6.map (c_str)).length 0 (l6.map (c_str)).length), (7, .hd 4 (l7.map (c_T_impl_Value false)).length 0 (l7.map (c_T_impl_Value false)).length)] ∧ σ = [.box (c_T_spec_l1Cur c0 b5), .dead, .dead, .arr .clo 1 (l6.map (c_str)), .arr .clo 7 (l7.map (c_T_impl_Value false))]) h33 ?_ ?_
 ·rintro ⟨b1, l2, l3, v4⟩ y8 H
  refine au 5 ?_
  refine T.cH H (fun H h => ?_) (fun H h => ?_)
  ·refine au 5 ?_
   obtain ⟨e9, h10, H⟩ := bind_s H
   refine TL.st rfl rfl rfl (o_ix (f := c_T_impl_AttrKind false) rfl rfl tyS_78 rfl rfl h10 rfl) ?_
   refine au 10 ?_
   obtain ⟨⟨r11, o12⟩, h13, H⟩ := bind_s H
   refine TL.gc rfl rfl rfl (.bool _) rfl rfl (fun h => o_callS [0] rfl en_13 rfl (evl_2 (gv h rfl) rfl) (spec_l1Cur_one_p c0 (cond_t h h13)) rfl (by decide) (.cons _ _ _ _ rfl .nil) rfl rfl rfl) (fun h => by cases cond_f h h13; rfl) ?_
   refine au 4 ?_
   obtain ⟨⟨r14, o15⟩, h16, H⟩ := bind_s H
   refine TL.gc rfl rfl rfl (.bool _) rfl rfl (fun h => o_callS [0] rfl en_13 rfl (evl_2 (gv h rfl) rfl) (spec_l1Cur_one_p c0 (cond_t h h16)) rfl (by decide) (.cons _ _ _ _ rfl .nil) rfl rfl rfl) (fun h => by cases cond_f h h16; rfl) ?_
   refine au 2 ?_
   refine T.conv (Cs.eqS (σ' := [.box (c_T_spec_l1Cur c0 o15), _, _, _, _, .box (c_T_impl_AttrKind false e9)]) rfl) ?_
   refine T.cH H (fun H h => ?_) (fun H h => ?_)
   ·refine au 5 ?_
    refine TL.st rfl rfl rfl (o_sliceIm (rows := ([e9.Name_] : List ByteArray).map (c_str)) rfl rfl tyS_9 ⟨_, rfl, rfl⟩ (by decide) rfl rfl rfl rfl rfl rfl) ?_
    obtain ⟨l17, h18, H⟩ := bind_s H
    refine TL.st rfl rfl rfl (o_ap (f := c_str) (xs := l2) (ys := ([e9.Name_] : List ByteArray)) rfl rfl tyE_9 rfl rfl rfl rfl (by decide) rfl (fun _ => rfl) h18) ?_
    refine au 7 ?_
    obtain ⟨⟨r19, o20⟩, h21, H⟩ := bind_s H
    refine TL.st rfl rfl rfl (o_callS [0] rfl en_56 rfl rfl (spec_l1Cur_fieldValue_p c0 h21) rfl (by decide) (.cons _ _ _ _ rfl .nil) rfl rfl rfl) ?_
    refine au 3 ?_
    refine T.cut (fun fr' σ' => ∃ (b22 : T_spec_l1Cur) (b23 : T_impl_Value), fr' = [(0, .bx 0 0), (6, .hd 3 (l17.map (c_str)).length 0 (l17.map (c_str)).length), (7, .hd 4 (l3.map (c_T_impl_Value false)).length 0 (l3.map (c_T_impl_Value false)).length), (10, .bx 6 0), (11, .im b0 (a0.map (c_T_impl_AttrKind false))), (12, .int .i64 (a0.length : Int)), (13, .int .i64 v4)] ∧ σ' = [.box (c_T_spec_l1Cur c0 b22), .dead, .dead, .arr .clo 1 (l17.map (c_str)), .arr .clo 7 (l3.map (c_T_impl_Value false)), .box (c_T_impl_AttrKind false e9), .box (c_T_impl_Value false b23)] ∧ spec_l1Cur_fields_j1 l3 v4 l17 b22 b23 = some y8) (T.pk ?_) ?_
    ·skip
     refine T.seq ?_
     refine T.conv (Cs.eqS (σ' := [.box (c_T_spec_l1Cur c0 o20), _, _, .arr .clo 1 (l17.map (c_str)), _, _, .box (c_T_impl_Value false r19)]) rfl) ?_
     refine au 2 ?_
     obtain ⟨⟨r26, o27⟩, h28, H⟩ := bind_s H
     refine TL.st rfl rfl rfl (o_callS [0] rfl en_13 rfl rfl (spec_l1Cur_one_p c0 h28) rfl (by decide) (.cons _ _ _ _ rfl .nil) rfl rfl rfl) ?_
     refine TL.nil ?_
     refine T.cH H (fun H h => ?_) (fun H h => ?_)
     ·refine au 2 ?_
      obtain ⟨⟨r29, o30⟩, h31, H⟩ := bind_s H
      refine TL.st rfl rfl rfl (o_callS [0] rfl en_38 rfl rfl (spec_l1Cur_value_p c0 h31) rfl (by decide) (.cons _ _ _ _ rfl .nil) rfl rfl rfl) ?_
      refine au 2 ?_
      exact Pk.of (thn_normal ⟨o30, r29, rfl, rfl, H⟩)
     ·refine T.skip ?_
      exact Pk.of (thn_normal ⟨o27, r19, rfl, rfl, H⟩)
    ·rintro _ _ ⟨b22, b23, rfl, rfl, H⟩
     refine au 3 ?_
     refine TL.st rfl rfl rfl (o_sliceIm (rows := ([b23] : List T_impl_Value).map (c_T_impl_Value false)) rfl rfl tyS_83 ⟨_, rfl, rfl⟩ (by decide) rfl rfl rfl rfl rfl rfl) ?_
     obtain ⟨l24, h25, H⟩ := bind_s H
     refine TL.st rfl rfl rfl (o_ap (f := c_T_impl_Value false) (xs := l3) (ys := ([b23] : List T_impl_Value)) rfl rfl tyE_83 rfl rfl rfl rfl (by decide) rfl (fun _ => rfl) h25) ?_
     refine au 6 ?_
     exact Pk.of (thn_normal ⟨(b22, l17, l24, (IntKind.i64.wrap (v4 + 1))), (some_i H).symm, rfl, rfl⟩)
   ·refine au 5 ?_
    exact Pk.of (thn_normal ⟨(o15, l2, l3, (IntKind.i64.wrap (v4 + 1))), (some_i H).symm, rfl, rfl⟩)
  ·refine T.exit ?_
   refine thn_exit ?_
   exact Pk.of (thn_exit ⟨(b1, l2, l3), (some_i H).symm, rfl, rfl, rfl⟩)
 ·rcases q32 with ⟨b5, l6, l7⟩
  rintro _ _ _ ⟨rfl, rfl, rfl⟩
  refine inB_here ?_
  refine au 7 ?_
  refine T.conv (Cs.wkF (M := 5) (.k 4 rfl rfl (.k 5 rfl rfl .nil))) ?_
  refine T.conv (Cs.reloc 1 3 rfl rfl (by decide) rfl rfl rfl (nomS_get rfl)) ?_
  refine T.conv (Cs.wkF (M := 5) (.k 4 rfl rfl (.k 5 rfl rfl .nil))) ?_
  refine T.conv (Cs.eqS (σ' := [_, .arr .clo 1 (l6.map (c_str)), _, .dead, _]) rfl) ?_
  refine T.conv (Cs.reloc 2 4 rfl rfl (by decide) rfl rfl rfl (nomS_get rfl)) ?_
  refine T.conv (Cs.wkF (M := 5) (.k 4 rfl rfl (.k 5 rfl rfl .nil))) ?_
  refine T.conv (Cs.eqS (σ' := [_, _, .arr .clo 7 (l7.map (c_T_impl_Value false)), _, .dead]) rfl) ?_
  refine T.ret ?_
  cases some_i H
  exact ⟨trivial, _, (.tmp _ _ _ _ rfl (.tmp _ _ _ _ rfl .nil)), ⟨rfl, _, rfl⟩⟩
def k_impl_Request (a1 a2 : Nat) (b : Bool) (x : T_impl_Request) : List V := ((c_T_impl_Atom b x.Principal_) ++ (c_T_impl_Atom b x.Action_) ++ (c_T_impl_Atom b x.Resource_) ++ [.hd a1 (x.Names_.map (c_str)).length 0 (x.Names_.map (c_str)).length, .hd a2 (x.Values_.map (c_T_impl_Value false)).length 0 (x.Values_.map (c_T_impl_Value false)).length])
theorem spec_l1Cur_world_o (b0 : Bool) (c0 : Bool) {a0 : T_impl_PolSchema} {s0 : T_spec_l1Cur} {R0 : (List T_impl_Thing)} {R1 : T_impl_Request} {U0 : T_spec_l1Cur} (H : spec_l1Cur_world a0 s0 = some (R0, R1, U0)) : St Tryz.prog 10 [.bx 0 0, .agg (c_T_impl_PolSchema b0 a0)] [.box (c_T_spec_l1Cur c0 s0)] (.tup [.hd 1 (R0.map (c_T_impl_Thing false)).length 0 (R0.map (c_T_impl_Thing false)).length, .agg ((c_T_impl_Atom false R1.Principal_) ++ (c_T_impl_Atom false R1.Action_) ++ (c_T_impl_Atom false R1.Resource_) ++ [.hd 2 (R1.Names_.map (c_str)).length 0 (R1.Names_.map (c_str)).length, .hd 3 (R1.Values_.map (c_T_impl_Value false)).length 0 (R1.Values_.map (c_T_impl_Value false)).length])]) [.box (c_T_spec_l1Cur c0 U0), .arr .clo 7 (R0.map (c_T_impl_Thing false)), .arr .clo 1 (R1.Names_.map (c_str)), .arr .clo 7 (R1.Values_.map (c_T_impl_Value false))] := by
 refine CallT.finR (CallT.of_TN (n := 141) Tryz.func10 rfl rfl rfl rfl ?_) rfl rfl ⟨(bels_iff.1 rfl), ⟨trivial, ⟨trivial, ⟨trivial, trivial⟩⟩⟩⟩
 refine T.conv Cs.pushDead ?_
 refine T.conv Cs.pushDead ?_
 refine T.conv Cs.pushDead ?_
 refine T.conv (Cs.wkF (M := 4) (.k 0 rfl rfl (.k 1 rfl rfl .nil))) ?_
 refine T.conv (Cs.eqS (σ' := [.box (c_T_spec_l1Cur c0 s0), .dead, .dead, .dead]) rfl) ?_
 refine au 13 ?_
 obtain ⟨r1, h2, H⟩ := bind_s H
 refine TL.st rfl rfl rfl (o_callP rfl en_27 rfl rfl (.cons _ _ _ _ (.cl _ rfl) (.cons _ _ _ _ (.cl _ rfl) .nil)) (spec_l10Ref_p  h2)) ?_
 obtain ⟨r3, h4, H⟩ := bind_s H
 refine TL.st rfl rfl rfl (o_callP rfl en_27 rfl rfl (.cons _ _ _ _ (.cl _ rfl) (.cons _ _ _ _ (.cl _ rfl) .nil)) (spec_l10Ref_p  h4)) ?_
 obtain ⟨r5, h6, H⟩ := bind_s H
 refine TL.st rfl rfl rfl (o_callP rfl en_27 rfl rfl (.cons _ _ _ _ (.cl _ rfl) (.cons _ _ _ _ (.cl _ rfl) .nil)) (spec_l10Ref_p  h6)) ?_
 obtain ⟨r7, h8, H⟩ := bind_s H
 refine TL.st rfl rfl rfl (o_callP rfl en_27 rfl rfl (.cons _ _ _ _ (.cl _ rfl) (.cons _ _ _ _ (.cl _ rfl) .nil)) (spec_l10Ref_p  h8)) ?_
 obtain ⟨r9, h10, H⟩ := bind_s H
 refine TL.st rfl rfl rfl (o_callP rfl en_27 rfl rfl (.cons _ _ _ _ (.cl _ rfl) (.cons _ _ _ _ (.cl _ rfl) .nil)) (spec_l10Ref_p  h10)) ?_
 obtain ⟨r11, h12, H⟩ := bind_s H
 refine TL.st rfl rfl rfl (o_callP rfl en_27 rfl rfl (.cons _ _ _ _ (.cl _ rfl) (.cons _ _ _ _ (.cl _ rfl) .nil)) (spec_l10Ref_p  h12)) ?_
 obtain ⟨r13, h14, H⟩ := bind_s H
 refine TL.st rfl rfl rfl (o_callP rfl en_27 rfl rfl (.cons _ _ _ _ (.cl _ rfl) (.cons _ _ _ _ (.cl _ rfl) .nil)) (spec_l10Ref_p  h14)) ?_
 refine TL.st rfl rfl rfl (o_sliceIm (rows := ([r1, r3, r5, r7, r9, r11, r13] : List T_impl_Atom).map (c_T_impl_Atom false)) rfl rfl tyS_25 ⟨_, rfl, rfl⟩ (by decide) rfl rfl rfl rfl rfl rfl) ?_
 refine TL.st rfl rfl rfl (o_lenL (f := c_T_impl_Atom false) rfl rfl rfl) ?_
 refine au 3 ?_
 refine T.conv (Cs.own (t := 6) 7 rfl (by decide)) ?_
 obtain ⟨q91, h92, H⟩ := bind_s H
 refine T.lq (fun s => match s with | (b15, l16, v17) => [(0, .bx 0 0), (3, .bx 4 0), (5, .bx 5 0), (6, .hd 6 (l16.map (c_T_impl_Thing false)).length 0 (l16.map (c_T_impl_Thing false)).length), (28, .im false (([r1, r3, r5, r7, r9, r11, r13] : List T_impl_Atom).map (c_T_impl_Atom false))), (29, .int .i64 (([r1, r3, r5, r7, r9, r11, r13] : List T_impl_Atom).length : Int)), (30, .int .i64 v17)]) (fun s => match s with | (b15, l16, v17) => [.box (c_T_spec_l1Cur c0 b15), .dead, .dead, .dead, .box (c_T_impl_PolSchema b0 a0), .box [.int .i64 0, .int .i64 0, .str e0, .str e0, .int .i64 0, .int .i64 0, .str e0, .str e0, .int .i64 0, .int .i64 0, .str e0, .str e0, .nilS, .nilS], .arr .clo 7 (l16.map (c_T_impl_Thing false))]) (fun q ex fr σ => match q with | (b18, l19) => ex = .exit 0 ∧ fr = [(0, .bx 0 0), (3, .bx 4 0), (5, .bx 5 0), (6, .hd 6 (l19.map (c_T_impl_Thing false)).length 0 (l19.map (c_T_impl_Thing false)).length)] ∧ σ = [.box (c_T_spec_l1Cur c0 b18), .dead, .dead, .dead, .box (c_T_impl_PolSchema b0 a0), .box [.int .i64 0, .int .i64 0, .str e0, .str e0, .int .i64 0, .int .i64 0, .str e0, .str e0, .int .i64 0, .int .i64 0, .str e0, .str e0, .nilS, .nilS], .arr .clo 7 (l19.map (c_T_impl_Thing false))]) h92 ?_ ?_
 ·rintro ⟨b15, l16, v17⟩ y53 H
  refine au 5 ?_
  refine T.cH H (fun H h => ?_) (fun H h => ?_)
  ·refine au 5 ?_
   obtain ⟨e54, h55, H⟩ := bind_s H
   refine TL.st rfl rfl rfl (o_ix (f := c_T_impl_Atom false) rfl rfl tyS_25 rfl rfl h55 rfl) ?_
   refine au 12 ?_
   refine T.conv (Cs.eqS (σ' := [_, _, _, _, _, _, _, .box (c_T_impl_Atom false e54), .box ((c_T_impl_Atom false e54) ++ [.nilS, .nilS, .nilS])]) rfl) ?_
   refine au 4 ?_
   obtain ⟨⟨r56, r57⟩, h58, H⟩ := bind_s H
   refine TL.st rfl rfl rfl (o_callP rfl en_28 rfl rfl (.cons _ _ _ _ (Lent.aggL (.cons _ _ _ _ (.imv _ _) (.cons _ _ _ _ (.imv _ _) .nil))) (.cons _ _ _ _ (.cl _ rfl) .nil)) (spec_l11ThingType_p b0 h58)) ?_
   refine au 12 ?_
   obtain ⟨⟨r59, r60, o61⟩, h62, H⟩ := bind_s H
   refine TL.st rfl rfl rfl (o_callS [0] rfl en_29 rfl rfl (spec_l1Cur_fields_p false c0 h62) rfl (by decide) (.cons _ _ _ _ rfl .nil) rfl rfl rfl) ?_
   refine au 7 ?_
   refine T.conv (Cs.eqS (σ' := [.box (c_T_spec_l1Cur c0 o61), _, _, _, _, _, _, _, _, .box (c_T_impl_ThingType false r56)]) rfl) ?_
   refine au 14 ?_
   obtain ⟨r63, h64, H⟩ := bind_s H
   refine TL.st rfl rfl rfl (o_callP rfl en_27 rfl rfl (.cons _ _ _ _ (.cl _ rfl) (.cons _ _ _ _ (.cl _ rfl) .nil)) (spec_l10Ref_p  h64)) ?_
   obtain ⟨r65, h66, H⟩ := bind_s H
   refine TL.st rfl rfl rfl (o_callP rfl en_27 rfl rfl (.cons _ _ _ _ (.cl _ rfl) (.cons _ _ _ _ (.cl _ rfl) .nil)) (spec_l10Ref_p  h66)) ?_
   obtain ⟨r67, h68, H⟩ := bind_s H
   refine TL.st rfl rfl rfl (o_callP rfl en_27 rfl rfl (.cons _ _ _ _ (.cl _ rfl) (.cons _ _ _ _ (.cl _ rfl) .nil)) (spec_l10Ref_p  h68)) ?_
   refine TL.st rfl rfl rfl (o_sliceIm (rows := ([r63, r65, r67] : List T_impl_Atom).map (c_T_impl_Atom false)) rfl rfl tyS_25 ⟨_, rfl, rfl⟩ (by decide) rfl rfl rfl rfl rfl rfl) ?_
   refine TL.st rfl rfl rfl (o_lenL (f := c_T_impl_Atom false) rfl rfl rfl) ?_
   refine au 3 ?_
   refine T.conv (Cs.ownCell (p := 8) 4 4 rfl rfl (by decide)) ?_
   obtain ⟨q89, h90, H⟩ := bind_s H
   refine T.lq (fun s => match s with | (b69, b70, v71) => [(0, .bx 0 0), (3, .bx 4 0), (5, .bx 5 0), (6, .hd 6 (l16.map (c_T_impl_Thing false)).length 0 (l16.map (c_T_impl_Thing false)).length), (8, .bx 7 0), (9, .bx 8 0), (10, .bx 9 0), (28, .im false (([r1, r3, r5, r7, r9, r11, r13] : List T_impl_Atom).map (c_T_impl_Atom false))), (29, .int .i64 (([r1, r3, r5, r7, r9, r11, r13] : List T_impl_Atom).length : Int)), (30, .int .i64 v17), (57, .im false (([r63, r65, r67] : List T_impl_Atom).map (c_T_impl_Atom false))), (58, .int .i64 (([r63, r65, r67] : List T_impl_Atom).length : Int)), (59, .int .i64 v71)]) (fun s => match s with | (b69, b70, v71) => [.box (c_T_spec_l1Cur c0 b69), .dead, .dead, .dead, .box (c_T_impl_PolSchema b0 a0), .box [.int .i64 0, .int .i64 0, .str e0, .str e0, .int .i64 0, .int .i64 0, .str e0, .str e0, .int .i64 0, .int .i64 0, .str e0, .str e0, .nilS, .nilS], .arr .clo 7 (l16.map (c_T_impl_Thing false)), .box (c_T_impl_Atom false e54), .box (k_impl_Thing 10 false b70), .box (c_T_impl_ThingType false r56), .arr .clo 4 (b70.Parents_.map (c_T_impl_Atom false))]) (fun q ex fr σ => match q with | (b72, b73) => ex = .exit 2 ∧ fr = [(0, .bx 0 0), (3, .bx 4 0), (5, .bx 5 0), (6, .hd 6 (l16.map (c_T_impl_Thing false)).length 0 (l16.map (c_T_impl_Thing false)).length), (8, .bx 7 0), (9, .bx 8 0), (28, .im false (([r1, r3, r5, r7, r9, r11, r13] : List T_impl_Atom).map (c_T_impl_Atom false))), (29, .int .i64 (([r1, r3, r5, r7, r9, r11, r13] : List T_impl_Atom).length : Int)), (30, .int .i64 v17)] ∧ σ = [.box (c_T_spec_l1Cur c0 b72), .dead, .dead, .dead, .box (c_T_impl_PolSchema b0 a0), .box [.int .i64 0, .int .i64 0, .str e0, .str e0, .int .i64 0, .int .i64 0, .str e0, .str e0, .int .i64 0, .int .i64 0, .str e0, .str e0, .nilS, .nilS], .arr .clo 7 (l16.map (c_T_impl_Thing false)), .box (c_T_impl_Atom false e54), .box (k_impl_Thing 10 false b73), .box (c_T_impl_ThingType false r56), .arr .clo 4 (b73.Parents_.map (c_T_impl_Atom false))]) h90 ?_ ?_
   ·rintro ⟨b69, b70, v71⟩ y79 H
    refine au 5 ?_
    refine T.cH H (fun H h => ?_) (fun H h => ?_)
    ·refine au 5 ?_
     obtain ⟨e80, h81, H⟩ := bind_s H
     refine TL.st rfl rfl rfl (o_ix (f := c_T_impl_Atom false) rfl rfl tyS_25 rfl rfl h81 rfl) ?_
     refine au 10 ?_
     obtain ⟨r82, h83, H⟩ := bind_s H
     refine TL.st rfl rfl rfl (o_callP rfl en_30 rfl rfl (.cons _ _ _ _ (.cl _ rfl) (.cons _ _ _ _ (.cl _ rfl) .nil)) (spec_l3Has_p false h83)) ?_
     refine TL.st rfl rfl rfl (o_move rfl rfl) ?_
     refine TL.gcq rfl rfl rfl (.bool _) rfl rfl (fun h => o_loadBx rfl tyS_25 rfl rfl (nb rfl) rfl) ?_
     refine TL.gcq rfl rfl rfl (.bool _) rfl rfl (fun h => o_loadBx rfl tyS_25 rfl rfl (nb rfl) rfl) ?_
     refine TL.gcq rfl rfl rfl (.bool _) rfl rfl (fun h => o_neA rfl rfl eqG_25 (gv h rfl) (gv h rfl) rfl rfl (eqT_25 e80 e54)) ?_
     refine au 3 ?_
     obtain ⟨⟨r84, o85⟩, h86, H⟩ := bind_s H
     refine TL.gc rfl rfl rfl (.bool _) rfl rfl (fun h => o_callS [0] rfl en_13 rfl (evl_2 (gv h rfl) rfl) (spec_l1Cur_one_p c0 (cond_t h h86)) rfl (by decide) (.cons _ _ _ _ rfl .nil) rfl rfl rfl) (fun h => by cases cond_f h h86; rfl) ?_
     refine au 2 ?_
     refine T.conv (Cs.eqS (σ' := [.box (c_T_spec_l1Cur c0 o85), _, _, _, _, _, _, _, _, _, _, .box (c_T_impl_Atom false e80)]) rfl) ?_
     refine T.cH H (fun H h => ?_) (fun H h => ?_)
     ·refine au 4 ?_
      refine TL.st rfl rfl rfl (o_sliceIm (rows := ([e80] : List T_impl_Atom).map (c_T_impl_Atom false)) rfl rfl tyS_25 ⟨_, rfl, rfl⟩ (by decide) rfl rfl rfl rfl rfl rfl) ?_
      obtain ⟨l87, h88, H⟩ := bind_s H
      refine TL.st rfl rfl rfl (o_ap (f := c_T_impl_Atom false) (xs := b70.Parents_) (ys := ([e80] : List T_impl_Atom)) rfl rfl tyE_25 rfl rfl rfl rfl (by decide) rfl (fun _ => rfl) h88) ?_
      refine TL.st rfl rfl rfl (o_fieldAddr rfl rfl rfl tyS_28 (by decide) rfl rfl ⟨_, rfl, Nat.le_of_ble_eq_true rfl⟩) ?_
      refine TL.sn rfl rfl (o_storeBx rfl tyS_28 rfl rfl rfl rfl (nb rfl) (sure_hd rfl rfl rfl)) ?_
      refine au 5 ?_
      exact Pk.of (thn_normal ⟨(o85, ({ b70 with Parents_ := l87 } : T_impl_Thing), (IntKind.i64.wrap (v71 + 1))), (some_i H).symm, rfl, rfl⟩)
     ·refine au 5 ?_
      exact Pk.of (thn_normal ⟨(o85, b70, (IntKind.i64.wrap (v71 + 1))), (some_i H).symm, rfl, rfl⟩)
    ·refine T.exit ?_
     refine thn_exit ?_
     exact Pk.of (thn_exit ⟨(b69, b70), (some_i H).symm, rfl, rfl, rfl⟩)
   ·rcases q89 with ⟨b72, b73⟩
    rintro _ _ _ ⟨rfl, rfl, rfl⟩
    refine inB_here ?_
    refine au 7 ?_
    obtain ⟨⟨r74, o75⟩, h76, H⟩ := bind_s H
    refine TL.gc rfl rfl rfl (.bool _) rfl rfl (fun h => o_callS [0] rfl en_13 rfl (evl_2 (gv h rfl) rfl) (spec_l1Cur_one_p c0 (cond_t h h76)) rfl (by decide) (.cons _ _ _ _ rfl .nil) rfl rfl rfl) (fun h => by cases cond_f h h76; rfl) ?_
    refine au 3 ?_
    refine T.cH H (fun H h => ?_) (fun H h => ?_)
    ·refine au 3 ?_
     refine TL.conv (Cs.frzAgg (t := 93) 4 rfl rfl rfl rfl) ?_
     refine TL.conv (Cs.frzCell2 (p := 10) (q := 8) 4 rfl rfl rfl rfl) ?_
     refine TL.conv (Cs.kill (p := 10) rfl) ?_
     refine TL.st rfl rfl rfl (o_sliceIm (rows := ([b73] : List T_impl_Thing).map (c_T_impl_Thing false)) rfl rfl tyS_63 ⟨_, rfl, rfl⟩ (by decide) rfl rfl rfl rfl rfl rfl) ?_
     obtain ⟨l77, h78, H⟩ := bind_s H
     refine TL.st rfl rfl rfl (o_ap (f := c_T_impl_Thing false) (xs := l16) (ys := ([b73] : List T_impl_Thing)) rfl rfl tyE_63 rfl rfl rfl rfl (by decide) rfl (fun _ => rfl) h78) ?_
     refine au 6 ?_
     exact Pk.of (thn_normal ⟨(o75, l77, (IntKind.i64.wrap (v17 + 1))), (some_i H).symm, rfl, rfl⟩)
    ·refine au 5 ?_
     exact Pk.of (thn_normal ⟨(o75, l16, (IntKind.i64.wrap (v17 + 1))), (some_i H).symm, rfl, rfl⟩)
  ·refine T.exit ?_
   refine thn_exit ?_
   exact Pk.of (thn_exit ⟨(b15, l16), (some_i H).symm, rfl, rfl, rfl⟩)
 ·rcases q91 with ⟨b18, l19⟩
  rintro _ _ _ ⟨rfl, rfl, rfl⟩
  refine inB_here ?_
  refine au 3 ?_
  refine TL.st rfl rfl rfl (o_sliceIm (rows := ([(ByteArray.mk #[97, 110, 110]), (ByteArray.mk #[98, 111, 98]), (ByteArray.mk #[99, 121])] : List ByteArray).map (c_str)) rfl rfl tyS_9 ⟨_, rfl, rfl⟩ (by decide) rfl rfl rfl rfl rfl rfl) ?_
  obtain ⟨⟨r20, o21⟩, h22, H⟩ := bind_s H
  refine TL.st rfl rfl rfl (o_callS [0] rfl en_31 rfl rfl (spec_l1Cur_of_p false c0 h22) rfl (by decide) (.cons _ _ _ _ rfl .nil) rfl rfl rfl) ?_
  obtain ⟨r23, h24, H⟩ := bind_s H
  refine TL.st rfl rfl rfl (o_callP rfl en_27 rfl rfl (.cons _ _ _ _ (.cl _ rfl) (.cons _ _ _ _ (.cl _ rfl) .nil)) (spec_l10Ref_p  h24)) ?_
  refine TL.st rfl rfl rfl (o_move rfl rfl) ?_
  refine TL.st rfl rfl rfl (o_sliceIm (rows := ([(ByteArray.mk #[118, 105, 101, 119]), (ByteArray.mk #[101, 100, 105, 116])] : List ByteArray).map (c_str)) rfl rfl tyS_9 ⟨_, rfl, rfl⟩ (by decide) rfl rfl rfl rfl rfl rfl) ?_
  obtain ⟨⟨r25, o26⟩, h27, H⟩ := bind_s H
  refine TL.st rfl rfl rfl (o_callS [0] rfl en_31 rfl rfl (spec_l1Cur_of_p false c0 h27) rfl (by decide) (.cons _ _ _ _ rfl .nil) rfl rfl rfl) ?_
  obtain ⟨r28, h29, H⟩ := bind_s H
  refine TL.st rfl rfl rfl (o_callP rfl en_27 rfl rfl (.cons _ _ _ _ (.cl _ rfl) (.cons _ _ _ _ (.cl _ rfl) .nil)) (spec_l10Ref_p  h29)) ?_
  refine TL.st rfl rfl rfl (o_move rfl rfl) ?_
  refine TL.st rfl rfl rfl (o_sliceIm (rows := ([(ByteArray.mk #[100, 49]), (ByteArray.mk #[100, 50])] : List ByteArray).map (c_str)) rfl rfl tyS_9 ⟨_, rfl, rfl⟩ (by decide) rfl rfl rfl rfl rfl rfl) ?_
  obtain ⟨⟨r30, o31⟩, h32, H⟩ := bind_s H
  refine TL.st rfl rfl rfl (o_callS [0] rfl en_31 rfl rfl (spec_l1Cur_of_p false c0 h32) rfl (by decide) (.cons _ _ _ _ rfl .nil) rfl rfl rfl) ?_
  obtain ⟨r33, h34, H⟩ := bind_s H
  refine TL.st rfl rfl rfl (o_callP rfl en_27 rfl rfl (.cons _ _ _ _ (.cl _ rfl) (.cons _ _ _ _ (.cl _ rfl) .nil)) (spec_l10Ref_p  h34)) ?_
  refine TL.st rfl rfl rfl (Does.wk (o_build rfl ⟨_, fun _ => rfl, rfl⟩ rfl rfl rfl) (.aggL (.cons _ _ _ _ (.same _) (.cons _ _ _ _ (.same _) (.cons _ _ _ _ (.same _) (.cons _ _ _ _ (.same _) (.cons _ _ _ _ (.same _) (.cons _ _ _ _ (.same _) (.cons _ _ _ _ (.same _) (.cons _ _ _ _ (.same _) (.cons _ _ _ _ (.same _) (.cons _ _ _ _ (.same _) (.cons _ _ _ _ (.same _) (.cons _ _ _ _ (.same _) (.cons _ _ _ _ .nil (.cons _ _ _ _ .nil .nil)))))))))))))))) ?_
  refine TL.st rfl rfl rfl (Does.nilc (p := 7) 13 (Does.nilc (p := 7) 12 (o_alloc rfl ⟨_, rfl, rfl⟩) rfl rfl) rfl rfl) ?_
  refine au 2 ?_
  refine T.cut (fun fr' σ' => ∃ (b35 : T_spec_l1Cur) (b36 : T_impl_Request), fr' = [(0, .bx 0 0), (3, .bx 4 0), (5, .bx 5 0), (6, .hd 6 (l19.map (c_T_impl_Thing false)).length 0 (l19.map (c_T_impl_Thing false)).length), (16, .bx 7 0)] ∧ σ' = [.box (c_T_spec_l1Cur c0 b35), .dead, .dead, .dead, .box (c_T_impl_PolSchema b0 a0), .box [.int .i64 0, .int .i64 0, .str e0, .str e0, .int .i64 0, .int .i64 0, .str e0, .str e0, .int .i64 0, .int .i64 0, .str e0, .str e0, .nilS, .nilS], .arr .clo 7 (l19.map (c_T_impl_Thing false)), .box (c_T_impl_Request false b36)] ∧ spec_l1Cur_world_j1 a0 l19 b35 b36 = some (R0, R1, U0)) (T.pk ?_) ?_
  ·skip
   refine T.seq ?_
   refine T.conv (Cs.eqS (σ' := [.box (c_T_spec_l1Cur c0 o31), _, _, _, _, _, _, .box ((c_T_impl_Atom false r23) ++ (c_T_impl_Atom false r28) ++ (c_T_impl_Atom false r33) ++ [.im false (([] : List ByteArray).map (c_str)), .im false (([] : List T_impl_Value).map (c_T_impl_Value false))])]) rfl) ?_
   refine au 2 ?_
   obtain ⟨⟨r44, o45⟩, h46, H⟩ := bind_s H
   refine TL.st rfl rfl rfl (o_callS [0] rfl en_13 rfl rfl (spec_l1Cur_one_p c0 h46) rfl (by decide) (.cons _ _ _ _ rfl .nil) rfl rfl rfl) ?_
   refine TL.nil ?_
   refine T.cH H (fun H h => ?_) (fun H h => ?_)
   ·refine au 9 ?_
    obtain ⟨⟨r47, o48⟩, h49, H⟩ := bind_s H
    refine TL.st rfl rfl rfl (o_callS [0] rfl en_12 rfl rfl (spec_l1Cur_thingRef_p c0 h49) rfl (by decide) (.cons _ _ _ _ rfl .nil) rfl rfl rfl) ?_
    refine au 3 ?_
    refine T.conv (Cs.eqS (σ' := [.box (c_T_spec_l1Cur c0 o48), _, _, _, _, _, _, .box ((c_T_impl_Atom false r47) ++ [.int .i64 r28.Kind_, .int .i64 r28.Num_, .str (ByteArray.mk #[118, 105, 101, 119]), .str r28.Type_] ++ (c_T_impl_Atom false r33) ++ [.im false (([] : List ByteArray).map (c_str)), .im false (([] : List T_impl_Value).map (c_T_impl_Value false))])]) rfl) ?_
    refine au 2 ?_
    obtain ⟨⟨r50, o51⟩, h52, H⟩ := bind_s H
    refine TL.st rfl rfl rfl (o_callS [0] rfl en_12 rfl rfl (spec_l1Cur_thingRef_p c0 h52) rfl (by decide) (.cons _ _ _ _ rfl .nil) rfl rfl rfl) ?_
    refine au 3 ?_
    exact Pk.of (thn_normal ⟨o51, (⟨r47, ({ r28 with Text_ := (ByteArray.mk #[118, 105, 101, 119]) } : T_impl_Atom), r50, ([] : List ByteArray), ([] : List T_impl_Value)⟩ : T_impl_Request), rfl, rfl, H⟩)
   ·refine T.skip ?_
    exact Pk.of (thn_normal ⟨o45, (⟨r23, r28, r33, ([] : List ByteArray), ([] : List T_impl_Value)⟩ : T_impl_Request), rfl, rfl, H⟩)
  ·rintro _ _ ⟨b35, b36, rfl, rfl, H⟩
   refine au 6 ?_
   obtain ⟨⟨r37, r38⟩, h39, H⟩ := bind_s H
   refine TL.st rfl rfl rfl (o_callP rfl en_32 rfl rfl (.cons _ _ _ _ (Lent.aggL (.cons _ _ _ _ (.imv _ _) (.cons _ _ _ _ (.imv _ _) .nil))) (.cons _ _ _ _ (.cl _ rfl) .nil)) (spec_l11Action_p b0 h39)) ?_
   refine au 12 ?_
   obtain ⟨⟨r40, r41, o42⟩, h43, H⟩ := bind_s H
   refine TL.st rfl rfl rfl (o_callS [0] rfl en_29 rfl rfl (spec_l1Cur_fields_o false c0 h43) rfl (by decide) (.cons _ _ _ _ rfl .nil) rfl rfl rfl) ?_
   refine au 7 ?_
   refine T.conv (Cs.eqS (σ' := [.box (c_T_spec_l1Cur c0 o42), _, _, _, _, _, _, _, .box (c_T_impl_ActionType false r37), .arr .clo 1 (r40.map (c_str)), .arr .clo 7 (r41.map (c_T_impl_Value false))]) rfl) ?_
   refine au 3 ?_
   refine TL.sn rfl rfl (o_storeBx rfl tyS_40 rfl rfl rfl rfl (nb rfl) (sure_hd rfl rfl rfl)) ?_
   refine au 5 ?_
   refine TL.sn rfl rfl (o_storeBx rfl tyS_41 rfl rfl rfl rfl (nb rfl) (sure_hd rfl rfl rfl)) ?_
   refine au 2 ?_
   refine T.drawn rfl ?_
   refine ad 3 ?_
   refine TD.an rfl rfl (o_storeBx rfl tyS_43 rfl rfl rfl rfl (nb rfl) (sure_c rfl (sure_c rfl (sure_c rfl (sure_c rfl (sure_c rfl (sure_c rfl (sure_c rfl (sure_c rfl (sure_c rfl (sure_c rfl (sure_c rfl (sure_c rfl (sure_hd rfl rfl (sure_hd rfl rfl rfl))))))))))))))) ?_
   refine TD.nil ⟨rfl, ?_⟩
   refine thn_normal ?_
   refine T.conv (Cs.eqS (σ' := [_, _, _, _, _, .box (k_impl_Request 9 10 false ({ b36 with Names_ := r40, Values_ := r41 } : T_impl_Request)), _, .box (k_impl_Request 9 10 false ({ b36 with Names_ := r40, Values_ := r41 } : T_impl_Request)), _, _, _]) rfl) ?_
   refine T.conv (Cs.wkF (M := 11) (.k 4 rfl rfl (.k 5 rfl rfl .nil))) ?_
   refine T.conv (Cs.reloc 1 6 rfl rfl (by decide) rfl rfl rfl (nomS_get rfl)) ?_
   refine T.conv (Cs.wkF (M := 11) (.k 4 rfl rfl (.k 5 rfl rfl .nil))) ?_
   refine T.conv (Cs.eqS (σ' := [_, .arr .clo 7 (l19.map (c_T_impl_Thing false)), _, _, _, _, .dead, _, _, _, _]) rfl) ?_
   refine T.conv (Cs.reloc 2 9 rfl rfl (by decide) rfl rfl rfl (nomS_get rfl)) ?_
   refine T.conv (Cs.wkF (M := 11) (.k 4 rfl rfl (.k 5 rfl rfl .nil))) ?_
   refine T.conv (Cs.eqS (σ' := [_, _, .arr .clo 1 (r40.map (c_str)), _, _, .box (k_impl_Request 2 10 false ({ b36 with Names_ := r40, Values_ := r41 } : T_impl_Request)), _, .box (k_impl_Request 2 10 false ({ b36 with Names_ := r40, Values_ := r41 } : T_impl_Request)), _, .dead, _]) rfl) ?_
   refine T.conv (Cs.reloc 3 10 rfl rfl (by decide) rfl rfl rfl (nomS_get rfl)) ?_
   refine T.conv (Cs.wkF (M := 11) (.k 4 rfl rfl (.k 5 rfl rfl .nil))) ?_
   refine T.conv (Cs.eqS (σ' := [_, _, _, .arr .clo 7 (r41.map (c_T_impl_Value false)), _, .box (k_impl_Request 2 3 false ({ b36 with Names_ := r40, Values_ := r41 } : T_impl_Request)), _, .box (k_impl_Request 2 3 false ({ b36 with Names_ := r40, Values_ := r41 } : T_impl_Request)), _, _, .dead]) rfl) ?_
   refine T.ret ?_
   cases some_i H
   exact ⟨trivial, _, (.tmp _ _ _ _ rfl (.cell _ _ _ _ _ _ _ _ _ _ rfl rfl tyS_43 (nb rfl) rfl .nil)), ⟨rfl, _, rfl⟩⟩
noncomputable def spec_l1Cur_oddAtom_l1 (l23 : List Int) : (List Int × Int) → Option ((List Int × Int) ⊕ List Int) := fun s => match s with
  | (l25, v26) => cond (decide (v26 < (l23.length : Int))) ((idx l25 v26).bind fun e29 => some (.inl ((l25.set (Int.toNat v26) 113), (IntKind.i64.wrap (v26 + 1))))) (some (.inr l25))
noncomputable def spec_l1Cur_oddAtom (a0 : T_impl_Atom) (s0 : T_spec_l1Cur) : Option (T_impl_Atom × T_spec_l1Cur) :=
  (spec_l1Cur_pick 16 s0).bind fun q => (match q with | (r1, o2) => cond (r1 == 0) ((spec_l1Cur_pick 9 o2).bind fun q => (match q with | (r4, o5) => some (({ a0 with Kind_ := r4 } : T_impl_Atom), o5))) (cond (r1 == 1) ((spec_l1Pow2 32).bind fun r7 => (spec_l1Cur_pick 7 o2).bind fun q => (match q with | (r9, o10) => (idx ([(-1), 2, 33, (IntKind.i64.wrap ((IntKind.i64.wrap (64 * r7)) + 1)), 100000000001, (-100000000000), 65] : List Int) r9).bind fun e12 => some (({ a0 with Num_ := e12 } : T_impl_Atom), o10))) (cond (r1 == 2) ((spec_l1Cur_of ([e0, (ByteArray.mk #[120]), (ByteArray.mk #[97, 9, 98])] : List ByteArray) o2).bind fun q => (match q with | (r14, o15) => some (({ a0 with Text_ := r14 } : T_impl_Atom), o15))) (cond (r1 == 3) ((spec_l1Cur_of ([e0, (ByteArray.mk #[84]), (ByteArray.mk #[49, 97])] : List ByteArray) o2).bind fun q => (match q with | (r17, o18) => some (({ a0 with Type_ := r17 } : T_impl_Atom), o18))) (cond (r1 == 4) ((spec_l1Cur_pick 3 o2).bind fun q => (match q with | (r20, o21) => (mk 0 (IntKind.i64.wrap (199 + r20))).bind fun l23 => (loopO (spec_l1Cur_oddAtom_l1 l23) (l23, 0)).bind fun l27 => (match l27 with | l27 => some (({ a0 with Text_ := (byS l27) } : T_impl_Atom), o21)))) (some (a0, o2)))))))
theorem spec_l1Cur_oddAtom_p (c0 : Bool) {a0 : T_impl_Atom} {s0 : T_spec_l1Cur} {R0 : T_impl_Atom} {U0 : T_spec_l1Cur} (H : spec_l1Cur_oddAtom a0 s0 = some (R0, U0)) : St Tryz.prog 59 [.bx 0 0, .agg (c_T_impl_Atom false a0)] [.box (c_T_spec_l1Cur c0 s0)] (.agg (c_T_impl_Atom false R0)) [.box (c_T_spec_l1Cur c0 U0)] := by
 refine CallT.fin (CallT.of_TN (n := 56) Tryz.func59 rfl rfl rfl rfl ?_) rfl rfl ⟨(bels_iff.1 rfl), trivial⟩
 refine au 9 ?_
 obtain ⟨⟨r1, o2⟩, h3, H⟩ := bind_s H
 refine TL.st rfl rfl rfl (o_callS [0] rfl en_33 rfl rfl (spec_l1Cur_pick_p c0 h3) rfl (by decide) (.cons _ _ _ _ rfl .nil) rfl rfl rfl) ?_
 refine TL.nil ?_
 refine T.conv (Cs.eqS (σ' := [.box (c_T_spec_l1Cur c0 o2), .box (c_T_impl_Atom false a0), .box [.int .i64 0, .int .i64 0, .str e0, .str e0]]) rfl) ?_
 refine au 6 ?_
 refine T.cH H (fun H h => ?_) (fun H h => ?_)
 ·refine au 2 ?_
  obtain ⟨⟨r4, o5⟩, h6, H⟩ := bind_s H
  refine TL.st rfl rfl rfl (o_callS [0] rfl en_33 rfl rfl (spec_l1Cur_pick_p c0 h6) rfl (by decide) (.cons _ _ _ _ rfl .nil) rfl rfl rfl) ?_
  refine au 8 ?_
  refine T.conv (Cs.eqS (σ' := [.box (c_T_spec_l1Cur c0 o5), .box [.int .i64 r4, .int .i64 a0.Num_, .str a0.Text_, .str a0.Type_], .box [.int .i64 r4, .int .i64 a0.Num_, .str a0.Text_, .str a0.Type_]]) rfl) ?_
  refine T.ret ?_
  cases some_i H
  exact ⟨trivial, _, (.cell _ _ _ _ _ _ _ _ _ _ rfl rfl tyS_25 (nb rfl) rfl .nil), ⟨rfl, _, rfl⟩⟩
 ·refine au 5 ?_
  refine T.cH H (fun H h => ?_) (fun H h => ?_)
  ·refine T.region ?_
   obtain ⟨r7, h8, H⟩ := bind_s H
   refine TL.st rfl rfl rfl (o_callP rfl en_58 rfl rfl (.cons _ _ _ _ (.cl _ rfl) .nil) (spec_l1Pow2_p  h8)) ?_
   refine au 2 ?_
   refine TL.st rfl rfl rfl (o_sliceIm (rows := ([(-1), 2, 33, (IntKind.i64.wrap ((IntKind.i64.wrap (64 * r7)) + 1)), 100000000001, (-100000000000), 65] : List Int).map (c_int .i64)) rfl rfl tyS_3 ⟨_, rfl, rfl⟩ (by decide) rfl rfl rfl rfl rfl rfl) ?_
   refine TL.st rfl rfl rfl (o_move rfl rfl) ?_
   obtain ⟨⟨r9, o10⟩, h11, H⟩ := bind_s H
   refine TL.st rfl rfl rfl (o_callS [0] rfl en_33 rfl rfl (spec_l1Cur_pick_p c0 h11) rfl (by decide) (.cons _ _ _ _ rfl .nil) rfl rfl rfl) ?_
   obtain ⟨e12, h13, H⟩ := bind_s H
   refine TL.st rfl rfl rfl (o_ix (f := c_int .i64) rfl rfl tyS_3 rfl rfl h13 rfl) ?_
   refine au 9 ?_
   refine T.conv (Cs.eqS (σ' := [.box (c_T_spec_l1Cur c0 o10), .box [.int .i64 a0.Kind_, .int .i64 e12, .str a0.Text_, .str a0.Type_], .box [.int .i64 a0.Kind_, .int .i64 e12, .str a0.Text_, .str a0.Type_]]) rfl) ?_
   refine T.ret ?_
   cases some_i H
   exact ⟨trivial, _, (.cell _ _ _ _ _ _ _ _ _ _ rfl rfl tyS_25 (nb rfl) rfl .nil), ⟨rfl, _, rfl⟩⟩
  ·refine au 5 ?_
   refine T.cH H (fun H h => ?_) (fun H h => ?_)
   ·refine au 2 ?_
    refine TL.st rfl rfl rfl (o_sliceIm (rows := ([e0, (ByteArray.mk #[120]), (ByteArray.mk #[97, 9, 98])] : List ByteArray).map (c_str)) rfl rfl tyS_9 ⟨_, rfl, rfl⟩ (by decide) rfl rfl rfl rfl rfl rfl) ?_
    obtain ⟨⟨r14, o15⟩, h16, H⟩ := bind_s H
    refine TL.st rfl rfl rfl (o_callS [0] rfl en_31 rfl rfl (spec_l1Cur_of_p false c0 h16) rfl (by decide) (.cons _ _ _ _ rfl .nil) rfl rfl rfl) ?_
    refine au 8 ?_
    refine T.conv (Cs.eqS (σ' := [.box (c_T_spec_l1Cur c0 o15), .box [.int .i64 a0.Kind_, .int .i64 a0.Num_, .str r14, .str a0.Type_], .box [.int .i64 a0.Kind_, .int .i64 a0.Num_, .str r14, .str a0.Type_]]) rfl) ?_
    refine T.ret ?_
    cases some_i H
    exact ⟨trivial, _, (.cell _ _ _ _ _ _ _ _ _ _ rfl rfl tyS_25 (nb rfl) rfl .nil), ⟨rfl, _, rfl⟩⟩
   ·refine au 5 ?_
    refine T.cH H (fun H h => ?_) (fun H h => ?_)
    ·refine au 2 ?_
     refine TL.st rfl rfl rfl (o_sliceIm (rows := ([e0, (ByteArray.mk #[84]), (ByteArray.mk #[49, 97])] : List ByteArray).map (c_str)) rfl rfl tyS_9 ⟨_, rfl, rfl⟩ (by decide) rfl rfl rfl rfl rfl rfl) ?_
     obtain ⟨⟨r17, o18⟩, h19, H⟩ := bind_s H
     refine TL.st rfl rfl rfl (o_callS [0] rfl en_31 rfl rfl (spec_l1Cur_of_p false c0 h19) rfl (by decide) (.cons _ _ _ _ rfl .nil) rfl rfl rfl) ?_
     refine au 8 ?_
     refine T.conv (Cs.eqS (σ' := [.box (c_T_spec_l1Cur c0 o18), .box [.int .i64 a0.Kind_, .int .i64 a0.Num_, .str a0.Text_, .str r17], .box [.int .i64 a0.Kind_, .int .i64 a0.Num_, .str a0.Text_, .str r17]]) rfl) ?_
     refine T.ret ?_
     cases some_i H
     exact ⟨trivial, _, (.cell _ _ _ _ _ _ _ _ _ _ rfl rfl tyS_25 (nb rfl) rfl .nil), ⟨rfl, _, rfl⟩⟩
    ·refine au 5 ?_
     refine T.cH H (fun H h => ?_) (fun H h => ?_)
     ·refine au 3 ?_
      obtain ⟨⟨r20, o21⟩, h22, H⟩ := bind_s H
      refine TL.st rfl rfl rfl (o_callS [0] rfl en_33 rfl rfl (spec_l1Cur_pick_p c0 h22) rfl (by decide) (.cons _ _ _ _ rfl .nil) rfl rfl rfl) ?_
      refine TL.st rfl rfl rfl (o_ari rfl rfl rfl rfl) ?_
      obtain ⟨l23, h24, H⟩ := bind_s H
      refine TL.st rfl rfl rfl (o_mk (f := c_int .u8) (z := 0) rfl rfl tyE_5 ⟨_, rfl, rfl⟩ rfl rfl h24) ?_
      refine au 6 ?_
      refine TL.st rfl rfl rfl (o_lenOwn (f := c_int .u8) rfl rfl rfl rfl rfl) ?_
      refine au 3 ?_
      obtain ⟨l27, h32, H⟩ := bind_s H
      refine T.lq (fun s => match s with | (l25, v26) => [(3, .bx 1 0), (4, .bx 2 0), (5, .hd 3 (l25.map (c_int .u8)).length 0 (l25.map (c_int .u8)).length), (44, .int .i64 (l23.length : Int)), (45, .int .i64 v26)]) (fun s => match s with | (l25, v26) => [.box (c_T_spec_l1Cur c0 o21), .box (c_T_impl_Atom false a0), .box [.int .i64 0, .int .i64 0, .str e0, .str e0], .arr .clo 1 (l25.map (c_int .u8))]) (fun q ex fr σ => match q with | l27 => ex = .exit 1 ∧ fr = [(3, .bx 1 0), (4, .bx 2 0), (5, .hd 3 (l27.map (c_int .u8)).length 0 (l27.map (c_int .u8)).length)] ∧ σ = [.box (c_T_spec_l1Cur c0 o21), .box (c_T_impl_Atom false a0), .box [.int .i64 0, .int .i64 0, .str e0, .str e0], .arr .clo 1 (l27.map (c_int .u8))]) h32 ?_ ?_
      ·rintro ⟨l25, v26⟩ y28 H
       refine au 5 ?_
       refine T.cH H (fun H h => ?_) (fun H h => ?_)
       ·refine au 11 ?_
        obtain ⟨e29, h30, H⟩ := bind_s H
        refine TL.st rfl rfl rfl (o_ixh (f := c_int .u8) rfl rfl tyS_5 rfl rfl rfl rfl h30 rfl) ?_
        refine TL.sn rfl rfl (o_stEl (f := c_int .u8) (xs := l25) (k := v26) (a := e29) 113 rfl tyS_5 rfl rfl rfl rfl (by decide) h30 rfl rfl rfl (fun _ => rfl) rfl) ?_
        refine TL.conv (Cs.eqV (t := 5) (v' := .hd 3 ((l25.set (Int.toNat v26) 113).map (c_int .u8)).length 0 ((l25.set (Int.toNat v26) 113).map (c_int .u8)).length) rfl (hd_len _ (List.length_set ..))) ?_
        refine TL.conv (Cs.eqV (t := 48) (v' := .hd 3 ((l25.set (Int.toNat v26) 113).map (c_int .u8)).length 0 ((l25.set (Int.toNat v26) 113).map (c_int .u8)).length) rfl (hd_len _ (List.length_set ..))) ?_
        refine TL.conv (Cs.eqV (t := 50) (v' := .el 3 ((l25.set (Int.toNat v26) 113).map (c_int .u8)).length (Int.toNat v26) 0) rfl (el_len _ _ _ (List.length_set ..))) ?_
        refine au 5 ?_
        exact Pk.of (thn_normal ⟨((l25.set (Int.toNat v26) 113), (IntKind.i64.wrap (v26 + 1))), (some_i H).symm, rfl, rfl⟩)
       ·refine T.exit ?_
        refine thn_exit ?_
        exact Pk.of (thn_exit ⟨l25, (some_i H).symm, rfl, rfl, rfl⟩)
      ·rintro _ _ _ ⟨rfl, rfl, rfl⟩
       refine inB_here ?_
       refine au 2 ?_
       refine TL.st rfl rfl rfl (o_bsOwn (f := c_int .u8) rfl rfl rfl rfl (fun _ => rfl) rfl rfl rfl) ?_
       refine au 9 ?_
       cases some_i H
       exact ⟨trivial, _, (.cell _ _ _ _ _ _ _ _ _ _ rfl rfl tyS_25 (nb rfl) rfl .nil), ⟨rfl, _, rfl⟩⟩
     ·refine au 7 ?_
      cases some_i H
      exact ⟨trivial, _, (.cell _ _ _ _ _ _ _ _ _ _ rfl rfl tyS_25 (nb rfl) rfl .nil), ⟨rfl, _, rfl⟩⟩
theorem en_59 : En Tryz.prog 59 := .of Tryz.func59 rfl rfl
theorem spec_l1Sorted_o (b0 : Bool) {a0 : (List T_impl_Atom)} {R0 : (List T_impl_Atom)} (H : spec_l1Sorted a0 = some R0) : OwnC Tryz.prog 53 [.im b0 (a0.map (c_T_impl_Atom false))] 4 (R0.map (c_T_impl_Atom false)) := by
 refine CallT.of_TN (n := 68) Tryz.func53 rfl rfl rfl rfl ?_
 refine au 12 ?_
 refine TL.st rfl rfl rfl (o_lenL (f := c_T_impl_Atom false) rfl rfl rfl) ?_
 refine au 3 ?_
 refine T.conv (Cs.own (t := 3) 4 rfl (by decide)) ?_
 obtain ⟨l3, h35, H⟩ := bind_s H
 refine T.lq (fun s => match s with | (l1, v2) => [(3, .hd 0 (l1.map (c_T_impl_Atom false)).length 0 (l1.map (c_T_impl_Atom false)).length), (8, .im b0 (a0.map (c_T_impl_Atom false))), (9, .int .i64 (a0.length : Int)), (10, .int .i64 v2)]) (fun s => match s with | (l1, v2) => [.arr .clo 4 (l1.map (c_T_impl_Atom false))]) (fun q ex fr σ => match q with | l3 => ex = .exit 0 ∧ fr = [(3, .hd 0 (l3.map (c_T_impl_Atom false)).length 0 (l3.map (c_T_impl_Atom false)).length)] ∧ σ = [.arr .clo 4 (l3.map (c_T_impl_Atom false))]) h35 ?_ ?_
 ·rintro ⟨l1, v2⟩ y4 H
  refine au 5 ?_
  refine T.cH H (fun H h => ?_) (fun H h => ?_)
  ·refine au 5 ?_
   obtain ⟨e5, h6, H⟩ := bind_s H
   refine TL.st rfl rfl rfl (o_ix (f := c_T_impl_Atom false) rfl rfl tyS_25 rfl rfl h6 rfl) ?_
   refine au 7 ?_
   refine TL.st rfl rfl rfl (o_lenOwn (f := c_T_impl_Atom false) rfl rfl rfl rfl rfl) ?_
   refine au 4 ?_
   obtain ⟨v8, h33, H⟩ := bind_s H
   refine T.lq (fun s => match s with | v7 => [(3, .hd 0 (l1.map (c_T_impl_Atom false)).length 0 (l1.map (c_T_impl_Atom false)).length), (5, .bx 1 0), (6, .int .i64 v7), (8, .im b0 (a0.map (c_T_impl_Atom false))), (9, .int .i64 (a0.length : Int)), (10, .int .i64 v2)]) (fun s => match s with | v7 => [.arr .clo 4 (l1.map (c_T_impl_Atom false)), .box (c_T_impl_Atom false e5)]) (fun q ex fr σ => match q with | v8 => ex = .exit 2 ∧ fr = [(3, .hd 0 (l1.map (c_T_impl_Atom false)).length 0 (l1.map (c_T_impl_Atom false)).length), (5, .bx 1 0), (6, .int .i64 v8), (8, .im b0 (a0.map (c_T_impl_Atom false))), (9, .int .i64 (a0.length : Int)), (10, .int .i64 v2)] ∧ σ = [.arr .clo 4 (l1.map (c_T_impl_Atom false)), .box (c_T_impl_Atom false e5)]) h33 ?_ ?_
   ·rintro v7 y27 H
    refine au 2 ?_
    refine T.drawn rfl ?_
    refine ad 5 ?_
    refine TD.cq rfl rfl rfl (.bool _) rfl (fun h _ => o_ari rfl (gv h rfl) rfl rfl) ?_
    obtain ⟨e28, h29, H⟩ := bind_s H
    refine TD.cr rfl rfl rfl (.bool _) rfl (fun h => o_ixh (f := c_T_impl_Atom false) rfl rfl tyS_25 (gv h rfl) (gv h rfl) rfl rfl (gdO_t h29 h) rfl) ?_
    refine TD.cr rfl rfl rfl (.bool _) rfl (fun h => o_loadEl rfl tyS_25 (gv h rfl) rfl rfl (by rw [List.getElem?_map, (idx_s (gdO_t h29 h)).2]; rfl) (nb rfl) rfl) ?_
    refine TD.cr rfl rfl rfl (.bool _) rfl (fun h => o_loadBx rfl tyS_25 rfl rfl (nb rfl) rfl) ?_
    obtain ⟨r30, h31, H⟩ := bind_s H
    refine TD.cq rfl rfl rfl (.bool _) rfl (fun h _ => o_callP rfl en_49 rfl (evl_2 (gv h rfl) (gv h rfl)) (.cons _ _ _ _ (.cl _ rfl) (.cons _ _ _ _ (.cl _ rfl) .nil)) (spec_l1Cmp_p  (gdO_t h31 h))) ?_
    refine TD.cq rfl rfl rfl (.bool _) rfl (fun h _ => o_ari rfl (gv h rfl) rfl rfl) ?_
    refine TD.qs rfl rfl (fun _ => o_and rfl rfl rfl (fun k => Gd_t k) rfl) ?_
    refine TD.nil ⟨rfl, ?_⟩
    refine thn_normal ?_
    refine T.cH H (fun H h => ?_) (fun H h => ?_)
    ·refine au 7 ?_
     refine inB_normal ?_
     exact Pk.of (thn_normal ⟨(IntKind.i64.wrap (v7 - 1)), (some_i H).symm, rfl, rfl⟩)
    ·refine T.exit ?_
     refine thn_exit ?_
     exact Pk.of (thn_exit ⟨v7, (some_i H).symm, rfl, rfl, rfl⟩)
   ·rintro _ _ _ ⟨rfl, rfl, rfl⟩
    refine inB_here ?_
    refine au 2 ?_
    refine T.drawn rfl ?_
    refine ad 5 ?_
    refine TD.cq rfl rfl rfl (.bool _) rfl (fun h _ => o_ari rfl (gv h rfl) rfl rfl) ?_
    obtain ⟨e9, h10, H⟩ := bind_s H
    refine TD.cr rfl rfl rfl (.bool _) rfl (fun h => o_ixh (f := c_T_impl_Atom false) rfl rfl tyS_25 (gv h rfl) (gv h rfl) rfl rfl (gdO_t h10 h) rfl) ?_
    refine TD.cr rfl rfl rfl (.bool _) rfl (fun h => o_loadEl rfl tyS_25 (gv h rfl) rfl rfl (by rw [List.getElem?_map, (idx_s (gdO_t h10 h)).2]; rfl) (nb rfl) rfl) ?_
    refine TD.cr rfl rfl rfl (.bool _) rfl (fun h => o_loadBx rfl tyS_25 rfl rfl (nb rfl) rfl) ?_
    obtain ⟨r11, h12, H⟩ := bind_s H
    refine TD.cq rfl rfl rfl (.bool _) rfl (fun h _ => o_callP rfl en_49 rfl (evl_2 (gv h rfl) (gv h rfl)) (.cons _ _ _ _ (.cl _ rfl) (.cons _ _ _ _ (.cl _ rfl) .nil)) (spec_l1Cmp_p  (gdO_t h12 h))) ?_
    refine TD.cq rfl rfl rfl (.bool _) rfl (fun h _ => o_ari rfl (gv h rfl) rfl rfl) ?_
    refine TD.qs rfl rfl (fun _ => o_and rfl rfl rfl (fun k => Gd_t k) rfl) ?_
    refine TD.nil ⟨rfl, ?_⟩
    refine thn_normal ?_
    refine T.cH H (fun H h => ?_) (fun H h => ?_)
    ·refine T.exit ?_
     refine thn_exit ?_
     refine inB_here ?_
     refine au 4 ?_
     exact Pk.of (thn_normal ⟨(l1, (IntKind.i64.wrap (v2 + 1))), (some_i H).symm, rfl, rfl⟩)
    ·refine au 5 ?_
     refine TL.st rfl rfl rfl (o_sliceIm (rows := ([e5] : List T_impl_Atom).map (c_T_impl_Atom false)) rfl rfl tyS_25 ⟨_, rfl, rfl⟩ (by decide) rfl rfl rfl rfl rfl rfl) ?_
     obtain ⟨l13, h14, H⟩ := bind_s H
     refine TL.st rfl rfl rfl (o_ap (f := c_T_impl_Atom false) (xs := l1) (ys := ([e5] : List T_impl_Atom)) rfl rfl tyE_25 rfl rfl rfl rfl (by decide) rfl (fun _ => rfl) h14) ?_
     refine au 6 ?_
     refine TL.st rfl rfl rfl (o_lenOwn (f := c_T_impl_Atom false) rfl rfl rfl rfl rfl) ?_
     refine au 4 ?_
     obtain ⟨l17, h26, H⟩ := bind_s H
     refine T.lq (fun s => match s with | (l15, v16) => [(3, .hd 0 (l15.map (c_T_impl_Atom false)).length 0 (l15.map (c_T_impl_Atom false)).length), (5, .bx 1 0), (6, .int .i64 v8), (7, .int .i64 v16), (8, .im b0 (a0.map (c_T_impl_Atom false))), (9, .int .i64 (a0.length : Int)), (10, .int .i64 v2)]) (fun s => match s with | (l15, v16) => [.arr .clo 4 (l15.map (c_T_impl_Atom false)), .box (c_T_impl_Atom false e5)]) (fun q ex fr σ => match q with | l17 => ex = .exit 4 ∧ fr = [(3, .hd 0 (l17.map (c_T_impl_Atom false)).length 0 (l17.map (c_T_impl_Atom false)).length), (5, .bx 1 0), (6, .int .i64 v8), (8, .im b0 (a0.map (c_T_impl_Atom false))), (9, .int .i64 (a0.length : Int)), (10, .int .i64 v2)] ∧ σ = [.arr .clo 4 (l17.map (c_T_impl_Atom false)), .box (c_T_impl_Atom false e5)]) h26 ?_ ?_
     ·rintro ⟨l15, v16⟩ y20 H
      refine au 7 ?_
      refine T.cH H (fun H h => ?_) (fun H h => ?_)
      ·refine au 9 ?_
       obtain ⟨e21, h22, H⟩ := bind_s H
       refine TL.st rfl rfl rfl (o_ixh (f := c_T_impl_Atom false) rfl rfl tyS_25 rfl rfl rfl rfl h22 rfl) ?_
       refine TL.st rfl rfl rfl (o_loadEl rfl tyS_25 rfl rfl rfl (by rw [List.getElem?_map, (idx_s h22).2]; rfl) (nb rfl) rfl) ?_
       obtain ⟨e23, h24, H⟩ := bind_s H
       refine TL.st rfl rfl rfl (o_ixh (f := c_T_impl_Atom false) rfl rfl tyS_25 rfl rfl rfl rfl h24 rfl) ?_
       refine TL.sn rfl rfl (o_stEl (f := c_T_impl_Atom false) (xs := l15) (k := v16) (a := e23) e21 rfl tyS_25 rfl rfl rfl rfl (by decide) h24 rfl rfl rfl (fun _ => rfl) rfl) ?_
       refine TL.conv (Cs.eqV (t := 3) (v' := .hd 0 ((l15.set (Int.toNat v16) e21).map (c_T_impl_Atom false)).length 0 ((l15.set (Int.toNat v16) e21).map (c_T_impl_Atom false)).length) rfl (hd_len _ (List.length_set ..))) ?_
       refine TL.conv (Cs.eqV (t := 54) (v' := .hd 0 ((l15.set (Int.toNat v16) e21).map (c_T_impl_Atom false)).length 0 ((l15.set (Int.toNat v16) e21).map (c_T_impl_Atom false)).length) rfl (hd_len _ (List.length_set ..))) ?_
       refine TL.conv (Cs.eqV (t := 56) (v' := .hd 0 ((l15.set (Int.toNat v16) e21).map (c_T_impl_Atom false)).length 0 ((l15.set (Int.toNat v16) e21).map (c_T_impl_Atom false)).length) rfl (hd_len _ (List.length_set ..))) ?_
       refine TL.conv (Cs.eqV (t := 61) (v' := .el 0 ((l15.set (Int.toNat v16) e21).map (c_T_impl_Atom false)).length (Int.toNat v16) 0) rfl (el_len _ _ _ (List.length_set ..))) ?_
       refine au 6 ?_
       exact Pk.of (thn_normal ⟨((l15.set (Int.toNat v16) e21), (IntKind.i64.wrap (v16 - 1))), (some_i H).symm, rfl, rfl⟩)
      ·refine T.exit ?_
       refine thn_exit ?_
       exact Pk.of (thn_exit ⟨l15, (some_i H).symm, rfl, rfl, rfl⟩)
     ·rintro _ _ _ ⟨rfl, rfl, rfl⟩
      refine inB_here ?_
      refine au 4 ?_
      obtain ⟨e18, h19, H⟩ := bind_s H
      refine TL.st rfl rfl rfl (o_ixh (f := c_T_impl_Atom false) rfl rfl tyS_25 rfl rfl rfl rfl h19 rfl) ?_
      refine TL.sn rfl rfl (o_stEl (f := c_T_impl_Atom false) (xs := l17) (k := v8) (a := e18) e5 rfl tyS_25 rfl rfl rfl rfl (by decide) h19 rfl rfl rfl (fun _ => rfl) rfl) ?_
      refine TL.conv (Cs.eqV (t := 3) (v' := .hd 0 ((l17.set (Int.toNat v8) e5).map (c_T_impl_Atom false)).length 0 ((l17.set (Int.toNat v8) e5).map (c_T_impl_Atom false)).length) rfl (hd_len _ (List.length_set ..))) ?_
      refine TL.conv (Cs.eqV (t := 62) (v' := .hd 0 ((l17.set (Int.toNat v8) e5).map (c_T_impl_Atom false)).length 0 ((l17.set (Int.toNat v8) e5).map (c_T_impl_Atom false)).length) rfl (hd_len _ (List.length_set ..))) ?_
      refine TL.conv (Cs.eqV (t := 65) (v' := .el 0 ((l17.set (Int.toNat v8) e5).map (c_T_impl_Atom false)).length (Int.toNat v8) 0) rfl (el_len _ _ _ (List.length_set ..))) ?_
      refine au 5 ?_
      exact Pk.of (thn_normal ⟨((l17.set (Int.toNat v8) e5), (IntKind.i64.wrap (v2 + 1))), (some_i H).symm, rfl, rfl⟩)
  ·refine T.exit ?_
   refine thn_exit ?_
   exact Pk.of (thn_exit ⟨l1, (some_i H).symm, rfl, rfl, rfl⟩)
 ·rintro _ _ _ ⟨rfl, rfl, rfl⟩
  refine inB_here ?_
  refine au 6 ?_
  cases some_i H
  exact ⟨trivial, _, (.tmp _ _ _ _ rfl .nil), ⟨rfl, _, rfl⟩⟩
end Go.G36.AB
