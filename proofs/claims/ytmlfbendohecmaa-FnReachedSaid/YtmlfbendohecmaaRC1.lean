import Derived.Test.YtmlfbendohecmaaProg
import Derived.Test.YtmlfbendohecmaaRcIns2
set_option linter.all false
set_option maxRecDepth 20000
set_option maxHeartbeats 4000000
namespace Go.G36.RC
open Go Go.Proofs

def c_int (k : IntKind) (x : Int) : List V := [.int k x]
def c_str (x : ByteArray) : List V := [.str x]
def c_sl {α : Type} (f : α → List V) (x : List α) : List V := [.im false (x.map f)]

structure T_impl_Nest where
  Group_ : ByteArray
  Member_ : ByteArray
deriving Inhabited
@[reducible] instance : BEq T_impl_Nest := ⟨fun a b => ((a.Group_.toList == b.Group_.toList) && ((a.Member_.toList == b.Member_.toList) && true))⟩
def c_T_impl_Nest (b : Bool) (x : T_impl_Nest) : List V := [.str x.Group_, .str x.Member_]
structure T_impl_Reach where
  Group_ : ByteArray
  Member_ : ByteArray
  Steps_ : Int
deriving Inhabited
@[reducible] instance : BEq T_impl_Reach := ⟨fun a b => ((a.Group_.toList == b.Group_.toList) && ((a.Member_.toList == b.Member_.toList) && ((a.Steps_ == b.Steps_) && true)))⟩
def c_T_impl_Reach (b : Bool) (x : T_impl_Reach) : List V := [.str x.Group_, .str x.Member_, .int .i64 x.Steps_]
structure T_spec_l1Cur where
  code_ : (List Int)
  at_ : Int
  seed_ : Int
deriving Inhabited
def c_T_spec_l1Cur (b : Bool) (x : T_spec_l1Cur) : List V := [.im b (x.code_.map (c_int .u8)), .int .i64 x.at_, .int .u64 x.seed_]
@[reducible] instance genvI : Genv := { genv := fun g => match g with | _ => none }

theorem tyS_26 : TyS Try.prog 26 true 2 := ⟨rfl, rfl⟩
theorem tyS_9 : TyS Try.prog 9 false 1 := ⟨rfl, rfl⟩
noncomputable def impl_ydigit (a0 : Int) : Option Bool :=
  some (decide (a0 ≥ 48) && decide (a0 ≤ 57))
theorem impl_ydigit_p  {a0 : Int} {R0 : Bool} (H : impl_ydigit a0 = some R0) : Pure Try.prog 59 [.int .u8 a0] (.bool R0) := by
 refine CallT.of_TN (n := 9) Try.func59 rfl rfl rfl rfl ?_
 refine au 15 ?_
 cases some_i H
 exact ⟨trivial, _, (.tmp _ _ _ _ rfl .nil), (.cl _ rfl)⟩
theorem en_59 : En Try.prog 59 := .of Try.func59 rfl rfl
noncomputable def impl_yletter (a0 : Int) : Option Bool :=
  some ((decide (a0 ≥ 97) && decide (a0 ≤ 122)) || (decide (a0 ≥ 65) && decide (a0 ≤ 90)))
theorem impl_yletter_p  {a0 : Int} {R0 : Bool} (H : impl_yletter a0 = some R0) : Pure Try.prog 69 [.int .u8 a0] (.bool R0) := by
 refine CallT.of_TN (n := 17) Try.func69 rfl rfl rfl rfl ?_
 refine au 15 ?_
 refine TL.gcq rfl rfl rfl (.bool _) rfl rfl (fun h => o_move rfl (gv h rfl)) ?_
 refine TL.gcq rfl rfl rfl (.gd _ _) rfl rfl (fun h => o_move rfl rfl) ?_
 refine TL.gcq rfl rfl rfl (.gd _ _) rfl rfl (fun h => o_ari rfl (gv h rfl) rfl rfl) ?_
 refine TL.gcq rfl rfl rfl (.bool _) rfl rfl (fun h => o_and rfl (gv h rfl) rfl (fun k => Gd_t (andi h k)) rfl) ?_
 refine au 4 ?_
 cases some_i H
 exact ⟨trivial, _, (.tmp _ _ _ _ rfl .nil), (.cl _ rfl)⟩
theorem en_69 : En Try.prog 69 := .of Try.func69 rfl rfl
noncomputable def impl_ywordByte (a0 : Int) : Option Bool :=
  (impl_yletter a0).bind fun r1 => (gdO (!r1) (impl_ydigit a0)).bind fun r3 => some ((r1 || r3) || (a0 == 95))
theorem impl_ywordByte_p  {a0 : Int} {R0 : Bool} (H : impl_ywordByte a0 = some R0) : Pure Try.prog 60 [.int .u8 a0] (.bool R0) := by
 refine CallT.of_TN (n := 13) Try.func60 rfl rfl rfl rfl ?_
 refine au 7 ?_
 obtain ⟨r1, h2, H⟩ := bind_s H
 refine TL.st rfl rfl rfl (o_callP rfl en_69 rfl rfl (.cons _ _ _ _ (.cl _ rfl) .nil) (impl_yletter_p  h2)) ?_
 refine au 2 ?_
 obtain ⟨r3, h4, H⟩ := bind_s H
 refine TL.gcq rfl rfl rfl (.bool _) rfl rfl (fun h => o_callP rfl en_59 rfl (evl_1 (gv h rfl)) (.cons _ _ _ _ (.cl _ rfl) .nil) (impl_ydigit_p  (gdO_t h4 h))) ?_
 refine au 8 ?_
 cases some_i H
 exact ⟨trivial, _, (.tmp _ _ _ _ rfl .nil), (.cl _ rfl)⟩
theorem en_60 : En Try.prog 60 := .of Try.func60 rfl rfl
noncomputable def impl_GoodName_l1 (a0 : ByteArray) : Int → Option (Int ⊕ (Unit ⊕ Bool)) := fun s => match s with
  | v5 => cond (decide (v5 < (a0.size : Int))) ((idxS a0 v5).bind fun b8 => (impl_ywordByte b8).bind fun r10 => cond (!r10) (some (.inr (.inr false))) (some (.inl (IntKind.i64.wrap (v5 + 1))))) (some (.inr (.inl ())))
noncomputable def impl_GoodName (a0 : ByteArray) : Option Bool :=
  (gdO (!((a0.toList == e0.toList) || decide ((a0.size : Int) > 30))) (idxS a0 0)).bind fun b1 => (gdO (!((a0.toList == e0.toList) || decide ((a0.size : Int) > 30))) (impl_ydigit b1)).bind fun r3 => cond (((a0.toList == e0.toList) || decide ((a0.size : Int) > 30)) || r3) (some false) ((loopO (impl_GoodName_l1 a0) 0).bind fun q12 => (match q12 with | .inl _ => some true | .inr q6 => some q6))
theorem impl_GoodName_p  {a0 : ByteArray} {R0 : Bool} (H : impl_GoodName a0 = some R0) : Pure Try.prog 44 [.str a0] (.bool R0) := by
 refine CallT.of_TN (n := 27) Try.func44 rfl rfl rfl rfl ?_
 refine au 11 ?_
 refine TL.gcq rfl rfl rfl (.bool _) rfl rfl (fun h => o_lenS rfl rfl (gv h rfl)) ?_
 refine au 4 ?_
 obtain ⟨b1, h2, H⟩ := bind_s H
 refine TL.gcq rfl rfl rfl (.bool _) rfl rfl (fun h => o_ixs rfl rfl (gv h rfl) rfl (gdO_t h2 h)) ?_
 obtain ⟨r3, h4, H⟩ := bind_s H
 refine TL.gcq rfl rfl rfl (.bool _) rfl rfl (fun h => o_callP rfl en_59 rfl (evl_1 (gv h rfl)) (.cons _ _ _ _ (.cl _ rfl) .nil) (impl_ydigit_p  (gdO_t h4 h))) ?_
 refine au 2 ?_
 refine T.cH H (fun H h => ?_) (fun H h => ?_)
 ·refine au 5 ?_
  refine thn_ret ?_
  cases some_i H
  exact ⟨trivial, _, (.tmp _ _ _ _ rfl .nil), (.cl _ rfl)⟩
 ·refine au 9 ?_
  obtain ⟨q12, h13, H⟩ := bind_s H
  refine T.lq (fun s => match s with | v5 => [(0, .str a0), (17, .int .i64 (a0.size : Int)), (18, .int .i64 v5)]) (fun s => match s with | v5 => []) (fun q ex fr σ => match q with | .inl _ => ex = .exit 0 ∧ fr = [] ∧ σ = [] | .inr q6 => ex = .ret ∧ RetN Try.prog [.tmp 2] (fun v τ => Told τ v (.bool q6)) .ret fr σ) h13 ?_ ?_
  ·rintro v5 y7 H
   refine au 5 ?_
   refine T.cH H (fun H h => ?_) (fun H h => ?_)
   ·refine au 12 ?_
    obtain ⟨b8, h9, H⟩ := bind_s H
    refine TL.st rfl rfl rfl (o_ixs rfl rfl rfl rfl h9) ?_
    obtain ⟨r10, h11, H⟩ := bind_s H
    refine TL.st rfl rfl rfl (o_callP rfl en_60 rfl rfl (.cons _ _ _ _ (.cl _ rfl) .nil) (impl_ywordByte_p  h11)) ?_
    refine au 2 ?_
    refine T.cH H (fun H h => ?_) (fun H h => ?_)
    ·refine au 5 ?_
     refine inB_ret (thn_ret ?_)
     exact Pk.id (thn_ret ⟨.inr false, (some_i H).symm, rfl, ⟨trivial, _, (.tmp _ _ _ _ rfl .nil), (.cl _ rfl)⟩⟩)
    ·refine au 5 ?_
     exact Pk.of (thn_normal ⟨(IntKind.i64.wrap (v5 + 1)), (some_i H).symm, rfl, rfl⟩)
   ·refine T.exit ?_
    refine thn_exit ?_
    exact Pk.of (thn_exit ⟨.inl (), (some_i H).symm, rfl, rfl, rfl⟩)
  ·rcases q12 with ⟨⟩ | q6
   ·rintro _ _ _ ⟨rfl, rfl, rfl⟩
    refine inB_here ?_
    refine au 5 ?_
    cases some_i H
    exact ⟨trivial, _, (.tmp _ _ _ _ rfl .nil), (.cl _ rfl)⟩
   ·rintro _ fr1 σ1 ⟨rfl, hr⟩
    refine inB_ret (thn_ret ?_)
    cases some_i H
    exact hr
theorem en_44 : En Try.prog 44 := .of Try.func44 rfl rfl
noncomputable def impl_ygroupName (a0 : ByteArray) : Option Bool :=
  (impl_GoodName a0).bind fun r1 => (gdO r1 (idxS a0 0)).bind fun b3 => (gdO (r1 && decide (b3 ≥ 65)) (idxS a0 0)).bind fun b5 => some ((r1 && decide (b3 ≥ 65)) && decide (b5 ≤ 90))
theorem impl_ygroupName_p  {a0 : ByteArray} {R0 : Bool} (H : impl_ygroupName a0 = some R0) : Pure Try.prog 37 [.str a0] (.bool R0) := by
 refine CallT.of_TN (n := 15) Try.func37 rfl rfl rfl rfl ?_
 refine au 7 ?_
 obtain ⟨r1, h2, H⟩ := bind_s H
 refine TL.st rfl rfl rfl (o_callP rfl en_44 rfl rfl (.cons _ _ _ _ (.cl _ rfl) .nil) (impl_GoodName_p  h2)) ?_
 refine au 2 ?_
 obtain ⟨b3, h4, H⟩ := bind_s H
 refine TL.gcq rfl rfl rfl (.bool _) rfl rfl (fun h => o_ixs rfl rfl (gv h rfl) rfl (gdO_t h4 h)) ?_
 refine au 4 ?_
 obtain ⟨b5, h6, H⟩ := bind_s H
 refine TL.gcq rfl rfl rfl (.bool _) rfl rfl (fun h => o_ixs rfl rfl (gv h rfl) rfl (gdO_t h6 h)) ?_
 refine au 5 ?_
 cases some_i H
 exact ⟨trivial, _, (.tmp _ _ _ _ rfl .nil), (.cl _ rfl)⟩
theorem en_37 : En Try.prog 37 := .of Try.func37 rfl rfl
noncomputable def impl_ygoodNest (a0 : T_impl_Nest) : Option Bool :=
  (impl_ygroupName a0.Group_).bind fun r1 => (gdO r1 (impl_GoodName a0.Member_)).bind fun r3 => some (r1 && r3)
theorem impl_ygoodNest_p  {a0 : T_impl_Nest} {R0 : Bool} (H : impl_ygoodNest a0 = some R0) : Pure Try.prog 22 [.agg (c_T_impl_Nest false a0)] (.bool R0) := by
 refine CallT.of_TN (n := 11) Try.func22 rfl rfl rfl rfl ?_
 refine au 9 ?_
 obtain ⟨r1, h2, H⟩ := bind_s H
 refine TL.st rfl rfl rfl (o_callP rfl en_37 rfl rfl (.cons _ _ _ _ (.cl _ rfl) .nil) (impl_ygroupName_p  h2)) ?_
 refine au 3 ?_
 obtain ⟨r3, h4, H⟩ := bind_s H
 refine TL.gcq rfl rfl rfl (.bool _) rfl rfl (fun h => o_callP rfl en_44 rfl (evl_1 (gv h rfl)) (.cons _ _ _ _ (.cl _ rfl) .nil) (impl_GoodName_p  (gdO_t h4 h))) ?_
 refine au 4 ?_
 cases some_i H
 exact ⟨trivial, _, (.tmp _ _ _ _ rfl .nil), (.cl _ rfl)⟩
theorem en_22 : En Try.prog 22 := .of Try.func22 rfl rfl
noncomputable def cmp_isNaN (a0 : ByteArray) : Option Bool :=
  some (!(a0.toList == a0.toList))
theorem cmp_isNaN_p  {a0 : ByteArray} {R0 : Bool} (H : cmp_isNaN a0 = some R0) : Pure Try.prog 61 [.str a0] (.bool R0) := by
 refine CallT.of_TN (n := 6) Try.func61 rfl rfl rfl rfl ?_
 refine au 12 ?_
 cases some_i H
 exact ⟨trivial, _, (.tmp _ _ _ _ rfl .nil), (.cl _ rfl)⟩
theorem en_61 : En Try.prog 61 := .of Try.func61 rfl rfl
noncomputable def cmp_Compare (a0 : ByteArray) (a1 : ByteArray) : Option Int :=
  (cmp_isNaN a0).bind fun r1 => (cmp_isNaN a1).bind fun r3 => cond r1 (cond r3 (some 0) (some (-1))) (cond r3 (some 1) (cond (Op.bytesLess a0.toList a1.toList) (some (-1)) (cond (!(Op.bytesLess a0.toList a1.toList) && !(a0.toList == a1.toList)) (some 1) (some 0))))
theorem cmp_Compare_p  {a0 : ByteArray} {a1 : ByteArray} {R0 : Int} (H : cmp_Compare a0 a1 = some R0) : Pure Try.prog 46 [.str a0, .str a1] (.int .i64 R0) := by
 refine CallT.of_TN (n := 20) Try.func46 rfl rfl rfl rfl ?_
 refine au 7 ?_
 obtain ⟨r1, h2, H⟩ := bind_s H
 refine TL.st rfl rfl rfl (o_callP rfl en_61 rfl rfl (.cons _ _ _ _ (.cl _ rfl) .nil) (cmp_isNaN_p  h2)) ?_
 refine au 5 ?_
 obtain ⟨r3, h4, H⟩ := bind_s H
 refine TL.st rfl rfl rfl (o_callP rfl en_61 rfl rfl (.cons _ _ _ _ (.cl _ rfl) .nil) (cmp_isNaN_p  h4)) ?_
 refine au 7 ?_
 refine T.cH H (fun H h => ?_) (fun H h => ?_)
 ·refine au 5 ?_
  refine T.cH H (fun H h => ?_) (fun H h => ?_)
  ·refine au 5 ?_
   refine thn_ret (thn_ret ?_)
   cases some_i H
   exact ⟨trivial, _, (.tmp _ _ _ _ rfl .nil), (.cl _ rfl)⟩
  ·refine au 6 ?_
   refine thn_ret ?_
   cases some_i H
   exact ⟨trivial, _, (.tmp _ _ _ _ rfl .nil), (.cl _ rfl)⟩
 ·refine au 6 ?_
  refine T.cH H (fun H h => ?_) (fun H h => ?_)
  ·refine au 5 ?_
   refine thn_ret ?_
   cases some_i H
   exact ⟨trivial, _, (.tmp _ _ _ _ rfl .nil), (.cl _ rfl)⟩
  ·refine au 8 ?_
   refine T.cH H (fun H h => ?_) (fun H h => ?_)
   ·refine au 5 ?_
    refine thn_ret ?_
    cases some_i H
    exact ⟨trivial, _, (.tmp _ _ _ _ rfl .nil), (.cl _ rfl)⟩
   ·refine au 8 ?_
    refine T.cH H (fun H h => ?_) (fun H h => ?_)
    ·refine au 5 ?_
     refine thn_ret ?_
     cases some_i H
     exact ⟨trivial, _, (.tmp _ _ _ _ rfl .nil), (.cl _ rfl)⟩
    ·refine au 6 ?_
     cases some_i H
     exact ⟨trivial, _, (.tmp _ _ _ _ rfl .nil), (.cl _ rfl)⟩
theorem en_46 : En Try.prog 46 := .of Try.func46 rfl rfl
theorem tyS_3 : TyS Try.prog 3 false 1 := ⟨rfl, rfl⟩
noncomputable def cmp_Or_l1 (a0 : (List Int)) : Int → Option (Int ⊕ (Unit ⊕ Int)) := fun s => match s with
  | v1 => cond (decide (v1 < (a0.length : Int))) ((idx a0 v1).bind fun e4 => cond (e4 != 0) (some (.inr (.inr e4))) (some (.inl (IntKind.i64.wrap (v1 + 1))))) (some (.inr (.inl ())))
noncomputable def cmp_Or (a0 : (List Int)) : Option Int :=
  (loopO (cmp_Or_l1 a0) 0).bind fun q6 => (match q6 with | .inl _ => some 0 | .inr q2 => some q2)
theorem cmp_Or_p (b0 : Bool) {a0 : (List Int)} {R0 : Int} (H : cmp_Or a0 = some R0) : Pure Try.prog 45 [.im b0 (a0.map (c_int .i64))] (.int .i64 R0) := by
 refine CallT.of_TN (n := 18) Try.func45 rfl rfl rfl rfl ?_
 refine au 12 ?_
 refine TL.st rfl rfl rfl (o_lenL (f := c_int .i64) rfl rfl rfl) ?_
 refine au 3 ?_
 obtain ⟨q6, h7, H⟩ := bind_s H
 refine T.lq (fun s => match s with | v1 => [(3, .int .i64 0), (6, .im b0 (a0.map (c_int .i64))), (7, .int .i64 (a0.length : Int)), (8, .int .i64 v1)]) (fun s => match s with | v1 => []) (fun q ex fr σ => match q with | .inl _ => ex = .exit 0 ∧ fr = [(3, .int .i64 0)] ∧ σ = [] | .inr q2 => ex = .ret ∧ RetN Try.prog [.tmp 2] (fun v τ => Told τ v (.int .i64 q2)) .ret fr σ) h7 ?_ ?_
 ·rintro v1 y3 H
  refine au 5 ?_
  refine T.cH H (fun H h => ?_) (fun H h => ?_)
  ·refine au 5 ?_
   obtain ⟨e4, h5, H⟩ := bind_s H
   refine TL.st rfl rfl rfl (o_ix (f := c_int .i64) rfl rfl tyS_3 rfl rfl h5 rfl) ?_
   refine au 9 ?_
   refine T.cH H (fun H h => ?_) (fun H h => ?_)
   ·refine au 6 ?_
    refine inB_ret (thn_ret ?_)
    exact Pk.id (thn_ret ⟨.inr e4, (some_i H).symm, rfl, ⟨trivial, _, (.tmp _ _ _ _ rfl .nil), (.cl _ rfl)⟩⟩)
   ·refine au 5 ?_
    exact Pk.of (thn_normal ⟨(IntKind.i64.wrap (v1 + 1)), (some_i H).symm, rfl, rfl⟩)
  ·refine T.exit ?_
   refine thn_exit ?_
   exact Pk.of (thn_exit ⟨.inl (), (some_i H).symm, rfl, rfl, rfl⟩)
 ·rcases q6 with ⟨⟩ | q2
  ·rintro _ _ _ ⟨rfl, rfl, rfl⟩
   refine inB_here ?_
   refine au 6 ?_
   cases some_i H
   exact ⟨trivial, _, (.tmp _ _ _ _ rfl .nil), (.cl _ rfl)⟩
  ·rintro _ fr1 σ1 ⟨rfl, hr⟩
   refine inB_ret (thn_ret ?_)
   cases some_i H
   exact hr
theorem en_45 : En Try.prog 45 := .of Try.func45 rfl rfl
noncomputable def impl_ycmpNest (a0 : T_impl_Nest) (a1 : T_impl_Nest) : Option Int :=
  (cmp_Compare a0.Group_ a1.Group_).bind fun r1 => (cmp_Compare a0.Member_ a1.Member_).bind fun r3 => (cmp_Or ([r1, r3] : List Int)).bind fun r5 => some r5
theorem impl_ycmpNest_p  {a0 : T_impl_Nest} {a1 : T_impl_Nest} {R0 : Int} (H : impl_ycmpNest a0 a1 = some R0) : Pure Try.prog 25 [.agg (c_T_impl_Nest false a0), .agg (c_T_impl_Nest false a1)] (.int .i64 R0) := by
 refine CallT.of_TN (n := 17) Try.func25 rfl rfl rfl rfl ?_
 refine au 7 ?_
 refine T.drawn rfl ?_
 refine ad 4 ?_
 obtain ⟨r1, h2, H⟩ := bind_s H
 refine TD.qs rfl rfl (fun _ => o_callP rfl en_46 rfl rfl (.cons _ _ _ _ (.cl _ rfl) (.cons _ _ _ _ (.cl _ rfl) .nil)) (cmp_Compare_p  h2)) ?_
 refine ad 4 ?_
 obtain ⟨r3, h4, H⟩ := bind_s H
 refine TD.qs rfl rfl (fun _ => o_callP rfl en_46 rfl rfl (.cons _ _ _ _ (.cl _ rfl) (.cons _ _ _ _ (.cl _ rfl) .nil)) (cmp_Compare_p  h4)) ?_
 refine TD.qs rfl rfl (fun _ => o_sliceIm (rows := ([r1, r3] : List Int).map (c_int .i64)) rfl rfl tyS_3 ⟨_, rfl, rfl⟩ (by decide) rfl rfl rfl rfl rfl rfl) ?_
 obtain ⟨r5, h6, H⟩ := bind_s H
 refine TD.qs rfl rfl (fun _ => o_callP rfl en_45 rfl rfl (.cons _ _ _ _ (.cl _ rfl) .nil) (cmp_Or_p false h6)) ?_
 refine TD.qs rfl rfl (fun _ => o_assign rfl rfl) ?_
 refine TD.nil ⟨rfl, ?_⟩
 refine T.ret ?_
 cases some_i H
 exact ⟨trivial, _, (.tmp _ _ _ _ rfl .nil), (.cl _ rfl)⟩
theorem en_25 : En Try.prog 25 := .of Try.func25 rfl rfl
noncomputable def impl_GoodNests_l1 (a0 : (List T_impl_Nest)) : Int → Option (Int ⊕ (Unit ⊕ Bool)) := fun s => match s with
  | v1 => cond (decide (v1 < (a0.length : Int))) ((idx a0 v1).bind fun e4 => (impl_ygoodNest e4).bind fun r6 => (gdO ((!(!r6)) && decide (v1 > 0)) (idx a0 (IntKind.i64.wrap (v1 - 1)))).bind fun e8 => (gdO ((!(!r6)) && decide (v1 > 0)) (impl_ycmpNest e8 e4)).bind fun r10 => cond ((!r6) || (decide (v1 > 0) && decide (r10 ≥ 0))) (some (.inr (.inr false))) (some (.inl (IntKind.i64.wrap (v1 + 1))))) (some (.inr (.inl ())))
noncomputable def impl_GoodNests (a0 : (List T_impl_Nest)) : Option Bool :=
  cond (decide ((a0.length : Int) > 200)) (some false) ((loopO (impl_GoodNests_l1 a0) 0).bind fun q12 => (match q12 with | .inl _ => some true | .inr q2 => some q2))
theorem impl_GoodNests_p (b0 : Bool) {a0 : (List T_impl_Nest)} {R0 : Bool} (H : impl_GoodNests a0 = some R0) : Pure Try.prog 21 [.im b0 (a0.map (c_T_impl_Nest false))] (.bool R0) := by
 refine CallT.of_TN (n := 33) Try.func21 rfl rfl rfl rfl ?_
 refine au 8 ?_
 refine TL.st rfl rfl rfl (o_lenL (f := c_T_impl_Nest false) rfl rfl rfl) ?_
 refine au 2 ?_
 refine T.cH H (fun H h => ?_) (fun H h => ?_)
 ·refine au 5 ?_
  refine thn_ret ?_
  cases some_i H
  exact ⟨trivial, _, (.tmp _ _ _ _ rfl .nil), (.cl _ rfl)⟩
 ·refine au 5 ?_
  refine TL.st rfl rfl rfl (o_lenL (f := c_T_impl_Nest false) rfl rfl rfl) ?_
  refine au 3 ?_
  obtain ⟨q12, h13, H⟩ := bind_s H
  refine T.lq (fun s => match s with | v1 => [(0, .im b0 (a0.map (c_T_impl_Nest false))), (8, .im b0 (a0.map (c_T_impl_Nest false))), (9, .int .i64 (a0.length : Int)), (10, .int .i64 v1)]) (fun s => match s with | v1 => []) (fun q ex fr σ => match q with | .inl _ => ex = .exit 0 ∧ fr = [] ∧ σ = [] | .inr q2 => ex = .ret ∧ RetN Try.prog [.tmp 2] (fun v τ => Told τ v (.bool q2)) .ret fr σ) h13 ?_ ?_
  ·rintro v1 y3 H
   refine au 5 ?_
   refine T.cH H (fun H h => ?_) (fun H h => ?_)
   ·refine au 6 ?_
    obtain ⟨e4, h5, H⟩ := bind_s H
    refine TL.st rfl rfl rfl (o_ix (f := c_T_impl_Nest false) rfl rfl tyS_26 rfl rfl h5 rfl) ?_
    refine au 6 ?_
    refine T.drawn rfl ?_
    refine TD.rs rfl rfl (o_loadBx rfl tyS_26 rfl rfl (nb rfl) rfl) ?_
    obtain ⟨r6, h7, H⟩ := bind_s H
    refine TD.qs rfl rfl (fun _ => o_callP rfl en_22 rfl rfl (.cons _ _ _ _ (.cl _ rfl) .nil) (impl_ygoodNest_p  h7)) ?_
    refine ad 3 ?_
    refine TD.cq rfl rfl rfl (.bool _) rfl (fun h _ => o_ari rfl (gv h rfl) rfl rfl) ?_
    refine TD.cq rfl rfl rfl (.bool _) rfl (fun h _ => o_move rfl (gv h rfl)) ?_
    refine TD.cq rfl rfl rfl (.gd _ _) rfl (fun h _ => o_move rfl rfl) ?_
    refine TD.cq rfl rfl rfl (.gd _ _) rfl (fun h _ => o_move rfl rfl) ?_
    refine TD.cq rfl rfl rfl (.gd _ _) rfl (fun h _ => o_ari rfl (gv h rfl) rfl rfl) ?_
    obtain ⟨e8, h9, H⟩ := bind_s H
    refine TD.cq rfl rfl rfl (.gd _ _) rfl (fun h _ => o_ix (f := c_T_impl_Nest false) rfl rfl tyS_26 (gv h rfl) (gv h rfl) (gdO_t h9 h) rfl) ?_
    refine TD.cq rfl rfl rfl (.gd _ _) rfl (fun h _ => o_loadRf rfl tyS_26 (gv h rfl) (nb rfl) rfl) ?_
    refine TD.cr rfl rfl rfl (.gd _ _) rfl (fun h => o_loadBx rfl tyS_26 rfl rfl (nb rfl) rfl) ?_
    obtain ⟨r10, h11, H⟩ := bind_s H
    refine TD.cq rfl rfl rfl (.gd _ _) rfl (fun h _ => o_callP rfl en_25 rfl (evl_2 (gv h rfl) (gv h rfl)) (.cons _ _ _ _ (.cl _ rfl) (.cons _ _ _ _ (.cl _ rfl) .nil)) (impl_ycmpNest_p  (gdO_t h11 h))) ?_
    refine TD.cq rfl rfl rfl (.gd _ _) rfl (fun h _ => o_ari rfl (gv h rfl) rfl rfl) ?_
    refine TD.cq rfl rfl rfl (.bool _) rfl (fun h _ => o_and rfl (gv h rfl) rfl (fun k => Gd_t (andi h k)) rfl) ?_
    refine TD.qs rfl rfl (fun _ => o_or rfl rfl rfl rfl (fun k => Gd_t k)) ?_
    refine TD.nil ⟨rfl, ?_⟩
    refine thn_normal ?_
    refine T.cH H (fun H h => ?_) (fun H h => ?_)
    ·refine au 5 ?_
     refine inB_ret (thn_ret ?_)
     exact Pk.id (thn_ret ⟨.inr false, (some_i H).symm, rfl, ⟨trivial, _, (.tmp _ _ _ _ rfl .nil), (.cl _ rfl)⟩⟩)
    ·refine au 5 ?_
     exact Pk.of (thn_normal ⟨(IntKind.i64.wrap (v1 + 1)), (some_i H).symm, rfl, rfl⟩)
   ·refine T.exit ?_
    refine thn_exit ?_
    exact Pk.of (thn_exit ⟨.inl (), (some_i H).symm, rfl, rfl, rfl⟩)
  ·rcases q12 with ⟨⟩ | q2
   ·rintro _ _ _ ⟨rfl, rfl, rfl⟩
    refine inB_here ?_
    refine au 5 ?_
    cases some_i H
    exact ⟨trivial, _, (.tmp _ _ _ _ rfl .nil), (.cl _ rfl)⟩
   ·rintro _ fr1 σ1 ⟨rfl, hr⟩
    refine inB_ret (thn_ret ?_)
    cases some_i H
    exact hr
theorem tyE_9 : TyE Try.prog 9 1 := ⟨_, _, rfl, rfl, rfl, rfl, by decide, by decide⟩
noncomputable def impl_yfrom_l3 (a0 : (List T_impl_Nest)) (v3 : Int) (e12 : ByteArray) : (List (ByteArray × Int) × List ByteArray × Int) → Option ((List (ByteArray × Int) × List ByteArray × Int) ⊕ (List (ByteArray × Int) × List ByteArray)) := fun s => match s with
  | (m14, l15, v16) => cond (decide (v16 < (a0.length : Int))) ((idx a0 v16).bind fun e20 => cond ((e20.Group_.toList == e12.toList) && (((mget m14 e20.Member_).getD 0) == 0)) ((app l15 ([e20.Member_] : List ByteArray)).bind fun l22 => some (.inl ((mput m14 e20.Member_ v3), l22, (IntKind.i64.wrap (v16 + 1))))) (some (.inl (m14, l15, (IntKind.i64.wrap (v16 + 1)))))) (some (.inr (m14, l15)))
noncomputable def impl_yfrom_l2 (a0 : (List T_impl_Nest)) (v2 : (List ByteArray)) (v3 : Int) : (List (ByteArray × Int) × List ByteArray × Int) → Option ((List (ByteArray × Int) × List ByteArray × Int) ⊕ (List (ByteArray × Int) × List ByteArray)) := fun s => match s with
  | (m6, l7, v8) => cond (decide (v8 < (v2.length : Int))) ((idx v2 v8).bind fun e12 => (loopO (impl_yfrom_l3 a0 v3 e12) (m6, l7, 0)).bind fun q24 => (match q24 with | (m17, l18) => some (.inl (m17, l18, (IntKind.i64.wrap (v8 + 1)))))) (some (.inr (m6, l7)))
noncomputable def impl_yfrom_l1 (a0 : (List T_impl_Nest)) : (List (ByteArray × Int) × (List ByteArray) × Int) → Option ((List (ByteArray × Int) × (List ByteArray) × Int) ⊕ List (ByteArray × Int)) := fun s => match s with
  | (m1, v2, v3) => cond (decide ((v2.length : Int) > 0)) ((loopO (impl_yfrom_l2 a0 v2 v3) (m1, ([] : List ByteArray), 0)).bind fun q26 => (match q26 with | (m9, l10) => some (.inl (m9, l10, (IntKind.i64.wrap (v3 + 1)))))) (some (.inr m1))
noncomputable def impl_yfrom (a0 : (List T_impl_Nest)) (a1 : ByteArray) : Option (List (ByteArray × Int)) :=
  (loopO (impl_yfrom_l1 a0) (([] : List (ByteArray × Int)), ([a1] : List ByteArray), 1)).bind fun m4 => (match m4 with | m4 => some m4)
theorem impl_yfrom_o (b0 : Bool) {a0 : (List T_impl_Nest)} {a1 : ByteArray} {R0 : (List (ByteArray × Int))} (H : impl_yfrom a0 a1 = some R0) : OwnM Try.prog 33 [.im b0 (a0.map (c_T_impl_Nest false)), .str a1] (R0.map fun e => ((V.str) e.1, (V.int .i64) e.2)) := by
 refine CallT.of_TN (n := 57) Try.func33 rfl rfl rfl rfl ?_
 refine au 6 ?_
 refine TL.st rfl rfl rfl (o_makeMap rfl) ?_
 refine au 5 ?_
 refine TL.st rfl rfl rfl (o_sliceIm (rows := ([a1] : List ByteArray).map (c_str)) rfl rfl tyS_9 ⟨_, rfl, rfl⟩ (by decide) rfl rfl rfl rfl rfl rfl) ?_
 refine au 8 ?_
 obtain ⟨m4, h29, H⟩ := bind_s H
 refine T.lq (fun s => match s with | (m1, v2, v3) => [(0, .im b0 (a0.map (c_T_impl_Nest false))), (5, .mp 0), (6, .im false (v2.map (c_str))), (7, .int .i64 v3)]) (fun s => match s with | (m1, v2, v3) => [mpO (V.str) (V.int .i64) m1]) (fun q ex fr σ => match q with | m4 => ex = .exit 0 ∧ fr = [(5, .mp 0)] ∧ σ = [mpO (V.str) (V.int .i64) m4]) h29 ?_ ?_
 ·rintro ⟨m1, v2, v3⟩ y5 H
  refine au 4 ?_
  refine TL.st rfl rfl rfl (o_lenL (f := c_str) rfl rfl rfl) ?_
  refine au 2 ?_
  refine T.cH H (fun H h => ?_) (fun H h => ?_)
  ·refine au 11 ?_
   refine TL.st rfl rfl rfl (o_lenL (f := c_str) rfl rfl rfl) ?_
   refine au 3 ?_
   refine T.conv (Cs.own (t := 8) 1 rfl (by decide)) ?_
   obtain ⟨q26, h27, H⟩ := bind_s H
   refine T.lq (fun s => match s with | (m6, l7, v8) => [(0, .im b0 (a0.map (c_T_impl_Nest false))), (5, .mp 0), (7, .int .i64 v3), (8, .hd 1 (l7.map (c_str)).length 0 (l7.map (c_str)).length), (21, .im false (v2.map (c_str))), (22, .int .i64 (v2.length : Int)), (23, .int .i64 v8)]) (fun s => match s with | (m6, l7, v8) => [mpO (V.str) (V.int .i64) m6, .arr .clo 1 (l7.map (c_str))]) (fun q ex fr σ => match q with | (m9, l10) => ex = .exit 2 ∧ fr = [(0, .im b0 (a0.map (c_T_impl_Nest false))), (5, .mp 0), (7, .int .i64 v3), (8, .hd 1 (l10.map (c_str)).length 0 (l10.map (c_str)).length)] ∧ σ = [mpO (V.str) (V.int .i64) m9, .arr .clo 1 (l10.map (c_str))]) h27 ?_ ?_
   ·rintro ⟨m6, l7, v8⟩ y11 H
    refine au 5 ?_
    refine T.cH H (fun H h => ?_) (fun H h => ?_)
    ·refine au 5 ?_
     obtain ⟨e12, h13, H⟩ := bind_s H
     refine TL.st rfl rfl rfl (o_ix (f := c_str) rfl rfl tyS_9 rfl rfl h13 rfl) ?_
     refine au 6 ?_
     refine TL.st rfl rfl rfl (o_lenL (f := c_T_impl_Nest false) rfl rfl rfl) ?_
     refine au 3 ?_
     obtain ⟨q24, h25, H⟩ := bind_s H
     refine T.lq (fun s => match s with | (m14, l15, v16) => [(0, .im b0 (a0.map (c_T_impl_Nest false))), (5, .mp 0), (7, .int .i64 v3), (8, .hd 1 (l15.map (c_str)).length 0 (l15.map (c_str)).length), (10, .str e12), (21, .im false (v2.map (c_str))), (22, .int .i64 (v2.length : Int)), (23, .int .i64 v8), (27, .im b0 (a0.map (c_T_impl_Nest false))), (28, .int .i64 (a0.length : Int)), (29, .int .i64 v16)]) (fun s => match s with | (m14, l15, v16) => [mpO (V.str) (V.int .i64) m14, .arr .clo 1 (l15.map (c_str))]) (fun q ex fr σ => match q with | (m17, l18) => ex = .exit 4 ∧ fr = [(0, .im b0 (a0.map (c_T_impl_Nest false))), (5, .mp 0), (7, .int .i64 v3), (8, .hd 1 (l18.map (c_str)).length 0 (l18.map (c_str)).length), (21, .im false (v2.map (c_str))), (22, .int .i64 (v2.length : Int)), (23, .int .i64 v8)] ∧ σ = [mpO (V.str) (V.int .i64) m17, .arr .clo 1 (l18.map (c_str))]) h25 ?_ ?_
     ·rintro ⟨m14, l15, v16⟩ y19 H
      refine au 5 ?_
      refine T.cH H (fun H h => ?_) (fun H h => ?_)
      ·refine au 5 ?_
       obtain ⟨e20, h21, H⟩ := bind_s H
       refine TL.st rfl rfl rfl (o_ix (f := c_T_impl_Nest false) rfl rfl tyS_26 rfl rfl h21 rfl) ?_
       refine au 14 ?_
       refine TL.gcq rfl rfl rfl (.bool _) rfl rfl (fun h => o_lookup (fk := V.str) (fv := V.int .i64) (xs := m14) (z := 0) rfl rfl (key_str rfl) (gv h rfl) (gv h rfl) rfl rfl (fun S w => ⟨_, rfl, .int _ _⟩)) ?_
       refine au 3 ?_
       refine T.cH H (fun H h => ?_) (fun H h => ?_)
       ·refine au 6 ?_
        refine TL.sn rfl rfl (o_mapUpdate (p := 0) (fk := V.str) (fv := V.int .i64) (xs := m14) rfl rfl (key_str rfl) rfl rfl rfl rfl rfl) ?_
        refine TL.nil ?_
        refine T.conv (Cs.eqS (σ' := [mpO (V.str) (V.int .i64) (mput m14 e20.Member_ v3), _, .box (c_T_impl_Nest false e20)]) rfl) ?_
        refine au 4 ?_
        refine TL.st rfl rfl rfl (o_sliceIm (rows := ([e20.Member_] : List ByteArray).map (c_str)) rfl rfl tyS_9 ⟨_, rfl, rfl⟩ (by decide) rfl rfl rfl rfl rfl rfl) ?_
        obtain ⟨l22, h23, H⟩ := bind_s H
        refine TL.st rfl rfl rfl (o_ap (f := c_str) (xs := l15) (ys := ([e20.Member_] : List ByteArray)) rfl rfl tyE_9 rfl rfl rfl rfl (by decide) rfl (fun _ => rfl) h23) ?_
        refine au 6 ?_
        exact Pk.of (thn_normal ⟨((mput m14 e20.Member_ v3), l22, (IntKind.i64.wrap (v16 + 1))), (some_i H).symm, rfl, rfl⟩)
       ·refine au 5 ?_
        exact Pk.of (thn_normal ⟨(m14, l15, (IntKind.i64.wrap (v16 + 1))), (some_i H).symm, rfl, rfl⟩)
      ·refine T.exit ?_
       refine thn_exit ?_
       exact Pk.of (thn_exit ⟨(m14, l15), (some_i H).symm, rfl, rfl, rfl⟩)
     ·rcases q24 with ⟨m17, l18⟩
      rintro _ _ _ ⟨rfl, rfl, rfl⟩
      refine inB_here ?_
      refine au 4 ?_
      exact Pk.of (thn_normal ⟨(m17, l18, (IntKind.i64.wrap (v8 + 1))), (some_i H).symm, rfl, rfl⟩)
    ·refine T.exit ?_
     refine thn_exit ?_
     exact Pk.of (thn_exit ⟨(m6, l7), (some_i H).symm, rfl, rfl, rfl⟩)
   ·rcases q26 with ⟨m9, l10⟩
    rintro _ _ _ ⟨rfl, rfl, rfl⟩
    refine inB_here ?_
    refine au 3 ?_
    refine TL.conv (Cs.frzOwn (t := 6) rfl rfl rfl) ?_
    refine au 6 ?_
    exact Pk.of (thn_normal ⟨(m9, l10, (IntKind.i64.wrap (v3 + 1))), (some_i H).symm, rfl, rfl⟩)
  ·refine T.exit ?_
   refine thn_exit ?_
   exact Pk.of (thn_exit ⟨m1, (some_i H).symm, rfl, rfl, rfl⟩)
 ·rintro _ _ _ ⟨rfl, rfl, rfl⟩
  refine inB_here ?_
  refine au 6 ?_
  cases some_i H
  exact ⟨trivial, _, (.tmp _ _ _ _ rfl .nil), ⟨0, rfl, rfl⟩⟩
noncomputable def impl_Nest__l1 (a0 : (List T_impl_Nest)) (a1 : T_impl_Nest) : (Int × Int) → Option ((Int × Int) ⊕ Int) := fun s => match s with
  | (v1, v2) => cond (decide (v1 < v2)) ((idx a0 (IntKind.i64.wrap (Int.fdiv (IntKind.u64.wrap (IntKind.i64.wrap (v1 + v2))) (2 ^ (min (Int.toNat 1) IntKind.u64.bits))))).bind fun e9 => (impl_ycmpNest e9 a1).bind fun r11 => cond (decide (r11 < 0)) (some (.inl ((IntKind.i64.wrap ((IntKind.i64.wrap (Int.fdiv (IntKind.u64.wrap (IntKind.i64.wrap (v1 + v2))) (2 ^ (min (Int.toNat 1) IntKind.u64.bits)))) + 1)), v2))) (some (.inl (v1, (IntKind.i64.wrap (Int.fdiv (IntKind.u64.wrap (IntKind.i64.wrap (v1 + v2))) (2 ^ (min (Int.toNat 1) IntKind.u64.bits)))))))) (some (.inr v1))
noncomputable def impl_Nest_ (a0 : (List T_impl_Nest)) (a1 : T_impl_Nest) : Option (Int × Bool) :=
  (loopO (impl_Nest__l1 a0 a1) (0, (a0.length : Int))).bind fun v3 => (match v3 with | v3 => (gdO (decide (v3 < (a0.length : Int))) (idx a0 v3)).bind fun e4 => (gdO (decide (v3 < (a0.length : Int))) (impl_ycmpNest e4 a1)).bind fun r6 => some (v3, (decide (v3 < (a0.length : Int)) && (r6 == 0))))
theorem impl_Nest__p (b0 : Bool) {a0 : (List T_impl_Nest)} {a1 : T_impl_Nest} {R0 : Int} {R1 : Bool} (H : impl_Nest_ a0 a1 = some (R0, R1)) : Pure Try.prog 24 [.im b0 (a0.map (c_T_impl_Nest false)), .agg (c_T_impl_Nest false a1), .fn 25 [] []] (.tup [.int .i64 R0, .bool R1]) := by
 refine CallT.of_TN (n := 49) Try.func24 rfl rfl rfl rfl ?_
 refine au 9 ?_
 refine TL.st rfl rfl rfl (o_lenL (f := c_T_impl_Nest false) rfl rfl rfl) ?_
 refine au 10 ?_
 obtain ⟨v3, h14, H⟩ := bind_s H
 refine T.lq (fun s => match s with | (v1, v2) => [(0, .im b0 (a0.map (c_T_impl_Nest false))), (2, .fn 25 [] []), (4, .bx 0 0), (8, .int .i64 (a0.length : Int)), (9, .int .i64 v1), (10, .int .i64 v2)]) (fun s => match s with | (v1, v2) => [.box (c_T_impl_Nest false a1)]) (fun q ex fr σ => match q with | v3 => ex = .exit 0 ∧ fr = [(0, .im b0 (a0.map (c_T_impl_Nest false))), (2, .fn 25 [] []), (4, .bx 0 0), (8, .int .i64 (a0.length : Int)), (9, .int .i64 v3)] ∧ σ = [.box (c_T_impl_Nest false a1)]) h14 ?_ ?_
 ·rintro ⟨v1, v2⟩ y8 H
  refine au 7 ?_
  refine T.cH H (fun H h => ?_) (fun H h => ?_)
  ·refine au 7 ?_
   refine TL.st rfl rfl rfl (o_conv rfl rfl ⟨_, rfl⟩ rfl) ?_
   refine TL.st rfl rfl rfl (o_shr rfl rfl rfl (by decide)) ?_
   refine TL.st rfl rfl rfl (o_conv rfl rfl ⟨_, rfl⟩ rfl) ?_
   refine au 3 ?_
   refine T.drawn rfl ?_
   refine ad 3 ?_
   obtain ⟨e9, h10, H⟩ := bind_s H
   refine TD.qs rfl rfl (fun _ => o_ix (f := c_T_impl_Nest false) rfl rfl tyS_26 rfl rfl h10 rfl) ?_
   refine TD.qs rfl rfl (fun _ => o_loadRf rfl tyS_26 rfl (nb rfl) rfl) ?_
   refine TD.rs rfl rfl (o_loadBx rfl tyS_26 rfl rfl (nb rfl) rfl) ?_
   obtain ⟨r11, h12, H⟩ := bind_s H
   refine TD.qs rfl rfl (fun _ => o_callP rfl en_25 rfl rfl (.cons _ _ _ _ (.cl _ rfl) (.cons _ _ _ _ (.cl _ rfl) .nil)) (impl_ycmpNest_p  h12)) ?_
   refine TD.qs rfl rfl (fun _ => o_ari rfl rfl rfl rfl) ?_
   refine TD.nil ⟨rfl, ?_⟩
   refine thn_normal ?_
   refine T.cH H (fun H h => ?_) (fun H h => ?_)
   ·refine au 5 ?_
    refine inB_normal ?_
    exact Pk.of (thn_normal ⟨((IntKind.i64.wrap ((IntKind.i64.wrap (Int.fdiv (IntKind.u64.wrap (IntKind.i64.wrap (v1 + v2))) (2 ^ (min (Int.toNat 1) IntKind.u64.bits)))) + 1)), v2), (some_i H).symm, rfl, rfl⟩)
   ·refine au 4 ?_
    refine inB_normal ?_
    exact Pk.of (thn_normal ⟨(v1, (IntKind.i64.wrap (Int.fdiv (IntKind.u64.wrap (IntKind.i64.wrap (v1 + v2))) (2 ^ (min (Int.toNat 1) IntKind.u64.bits))))), (some_i H).symm, rfl, rfl⟩)
  ·refine T.exit ?_
   refine thn_exit ?_
   exact Pk.of (thn_exit ⟨v1, (some_i H).symm, rfl, rfl, rfl⟩)
 ·rintro _ _ _ ⟨rfl, rfl, rfl⟩
  refine inB_here ?_
  refine T.seq ?_
  refine T.drawn rfl ?_
  refine ad 8 ?_
  obtain ⟨e4, h5, H⟩ := bind_s H
  refine TD.cq rfl rfl rfl (.bool _) rfl (fun h _ => o_ix (f := c_T_impl_Nest false) rfl rfl tyS_26 (gv h rfl) (gv h rfl) (gdO_t h5 h) rfl) ?_
  refine TD.cq rfl rfl rfl (.bool _) rfl (fun h _ => o_loadRf rfl tyS_26 (gv h rfl) (nb rfl) rfl) ?_
  refine TD.cr rfl rfl rfl (.bool _) rfl (fun h => o_loadBx rfl tyS_26 rfl rfl (nb rfl) rfl) ?_
  obtain ⟨r6, h7, H⟩ := bind_s H
  refine TD.cq rfl rfl rfl (.bool _) rfl (fun h _ => o_callP rfl en_25 (gv h rfl) (evl_2 (gv h rfl) (gv h rfl)) (.cons _ _ _ _ (.cl _ rfl) (.cons _ _ _ _ (.cl _ rfl) .nil)) (impl_ycmpNest_p  (gdO_t h7 h))) ?_
  refine TD.cq rfl rfl rfl (.bool _) rfl (fun h _ => o_ari rfl (gv h rfl) rfl rfl) ?_
  refine ad 3 ?_
  refine TD.nil ⟨rfl, ?_⟩
  refine T.ret ?_
  cases some_i H
  exact ⟨trivial, _, (.tmp _ _ _ _ rfl (.tmp _ _ _ _ rfl .nil)), (.tupL (.cons _ _ _ _ (.cl _ rfl) (.cons _ _ _ _ (.cl _ rfl) .nil)))⟩
end Go.G36.RC
