import Derived.Test.YtgfpdlebnbpcfaaDoorProg
import Derived.Test.YtgfpdlebnbpcfaaDoorSeLib
set_option linter.all false
set_option maxRecDepth 20000
set_option maxHeartbeats 4000000
namespace Go.G36.SE
open Go Go.Proofs Go.G36.SL

def c_int (k : IntKind) (x : Int) : List V := [.int k x]
def c_bool (x : Bool) : List V := [.bool x]
def c_str (x : ByteArray) : List V := [.str x]
def c_raw (x : List V) : List V := x
theorem map_raw (x : List (List V)) : x.map c_raw = x := by
  induction x with
  | nil => rfl
  | cons a l ih => simp [ih, c_raw]
def c_sl {α : Type} (f : α → List V) (x : List α) : List V := [.im false (x.map f)]

structure T_impl_SessConf where
  Key_ : (List Int)
  Idle_ : Int
  Most_ : Int
deriving Inhabited
def c_T_impl_SessConf (b : Bool) (x : T_impl_SessConf) : List V := [.im b (x.Key_.map (c_int .u8)), .int .i64 x.Idle_, .int .i64 x.Most_]
structure T_impl_SessEvent where
  Kind_ : Int
  Time_ : Int
  User_ : ByteArray
  Device_ : ByteArray
  Id_ : ByteArray
deriving Inhabited
def c_T_impl_SessEvent (b : Bool) (x : T_impl_SessEvent) : List V := [.int .i64 x.Kind_, .int .i64 x.Time_, .str x.User_, .str x.Device_, .str x.Id_]
structure T_spec_l1Cur where
  code_ : (List Int)
  at_ : Int
  seed_ : Int
deriving Inhabited
def c_T_spec_l1Cur (b : Bool) (x : T_spec_l1Cur) : List V := [.im b (x.code_.map (c_int .u8)), .int .i64 x.at_, .int .u64 x.seed_]
structure T_spec_l19X where
  ids_ : Int
  user_ : ByteArray
  device_ : ByteArray
  level_ : Int
  login_ : Int
  last_ : Int
  dead_ : Bool
deriving Inhabited
def c_T_spec_l19X (p : Nat) (b : Bool) (x : T_spec_l19X) : List V := [.px p 0 x.ids_ 0, .str x.user_, .str x.device_, .int .i64 x.level_, .int .i64 x.login_, .int .i64 x.last_, .bool x.dead_]
structure T_spec_l19S where
  c_ : T_impl_SessConf
  now_ : Int
  given_ : Int
  list_ : (List T_spec_l19X)
deriving Inhabited
def c_T_spec_l19S (p : Nat) (b : Bool) (x : T_spec_l19S) : List V := ((c_T_impl_SessConf b x.c_) ++ [.int .i64 x.now_, .int .i64 x.given_, .im b (x.list_.map (c_T_spec_l19X p false))])
structure T_impl_SessReply where
  Err_ : Int
  Id_ : ByteArray
  User_ : ByteArray
  Level_ : Int
deriving Inhabited
@[reducible] instance : BEq T_impl_SessReply := ⟨fun a b => ((a.Err_ == b.Err_) && ((a.Id_.toList == b.Id_.toList) && ((a.User_.toList == b.User_.toList) && ((a.Level_ == b.Level_) && true))))⟩
def c_T_impl_SessReply (b : Bool) (x : T_impl_SessReply) : List V := [.int .i64 x.Err_, .str x.Id_, .str x.User_, .int .i64 x.Level_]
structure T_impl_ysessions where
  c_ : T_impl_SessConf
  now_ : Int
  ids_ : Int
  list_ : (List Int)
  reply_ : (List T_impl_SessReply)
deriving Inhabited
def c_T_impl_ysessions (p : Nat) (b : Bool) (x : T_impl_ysessions) : List V := ((c_T_impl_SessConf b x.c_) ++ [.int .i64 x.now_, .int .i64 x.ids_, .im b (x.list_.map (c_px p)), .im b (x.reply_.map (c_T_impl_SessReply false))])
structure T_impl_ysession where
  ids_ : Int
  user_ : ByteArray
  device_ : ByteArray
  level_ : Int
  login_ : Int
  last_ : Int
  dead_ : Bool
deriving Inhabited
def c_T_impl_ysession (p : Nat) (b : Bool) (x : T_impl_ysession) : List V := [.px p 0 x.ids_ 0, .str x.user_, .str x.device_, .int .i64 x.level_, .int .i64 x.login_, .int .i64 x.last_, .bool x.dead_]
structure T_strings_Builder where
  addr_ : Unit
  buf_ : (List Int)
deriving Inhabited
def c_T_strings_Builder (b : Bool) (x : T_strings_Builder) : List V := [.nilP, .im b (x.buf_.map (c_int .u8))]

theorem tyS_3 : TyS Tryd.prog 3 false 1 := ⟨rfl, rfl⟩
theorem tyS_22 : TyS Tryd.prog 22 false 1 := ⟨rfl, rfl⟩
theorem tyS_5 : TyS Tryd.prog 5 false 1 := ⟨rfl, rfl⟩
theorem tyS_38 : TyS Tryd.prog 38 false 1 := ⟨rfl, rfl⟩
noncomputable def spec_l1Cur_next_j1 (s0 : T_spec_l1Cur) (v1 : Int) : Option (Int × T_spec_l1Cur) :=
  cond (decide ((IntKind.i64.wrap (s0.at_ + 1)) ≤ (s0.code_.length : Int))) (some (v1, (⟨s0.code_, (IntKind.i64.wrap (s0.at_ + 1)), (IntKind.u64.wrap ((IntKind.u64.wrap ((IntKind.u64.wrap (s0.seed_ * 6364136223846793005)) + (IntKind.u64.wrap v1))) + 1442695040888963407))⟩ : T_spec_l1Cur))) (some ((IntKind.i64.wrap (IntKind.u64.wrap (BitVec.ofInt IntKind.u64.bits (Int.fdiv (IntKind.u64.wrap ((IntKind.u64.wrap ((IntKind.u64.wrap (s0.seed_ * 6364136223846793005)) + (IntKind.u64.wrap v1))) + 1442695040888963407)) (2 ^ (min (Int.toNat 40) IntKind.u64.bits))) &&& BitVec.ofInt IntKind.u64.bits 255).toNat)), (⟨s0.code_, (IntKind.i64.wrap (s0.at_ + 1)), (IntKind.u64.wrap ((IntKind.u64.wrap ((IntKind.u64.wrap (s0.seed_ * 6364136223846793005)) + (IntKind.u64.wrap v1))) + 1442695040888963407))⟩ : T_spec_l1Cur)))
noncomputable def spec_l1Cur_next (s0 : T_spec_l1Cur) : Option (Int × T_spec_l1Cur) :=
  cond (decide (s0.at_ < (s0.code_.length : Int))) ((idx s0.code_ s0.at_).bind fun e2 => spec_l1Cur_next_j1 s0 (IntKind.i64.wrap e2)) (spec_l1Cur_next_j1 s0 0)
theorem spec_l1Cur_next_p (c0 : Bool) {s0 : T_spec_l1Cur} {R0 : Int} {U0 : T_spec_l1Cur} (H : spec_l1Cur_next s0 = some (R0, U0)) : St Tryd.prog 27 [.bx 0 0] [.box (c_T_spec_l1Cur c0 s0)] (.int .i64 R0) [.box (c_T_spec_l1Cur c0 U0)] := by
 refine CallT.fin (CallT.of_TN (n := 62) Tryd.func27 rfl rfl rfl rfl ?_) rfl rfl ⟨(bels_iff.1 rfl), trivial⟩
 refine au 8 ?_
 refine T.cut (fun fr' σ' => ∃ (v1 : Int), fr' = [(0, .bx 0 0), (3, .int .i64 v1)] ∧ σ' = [.box (c_T_spec_l1Cur c0 s0)] ∧ spec_l1Cur_next_j1 s0 v1 = some (R0, U0)) (T.pk ?_) ?_
 ·skip
  refine T.seq ?_
  refine T.drawn rfl ?_
  refine ad 8 ?_
  refine TD.qs rfl rfl (fun _ => o_lenL (f := c_int .u8) rfl rfl rfl) ?_
  refine TD.qs rfl rfl (fun _ => o_ari rfl rfl rfl rfl) ?_
  refine TD.nil ⟨rfl, ?_⟩
  refine thn_normal ?_
  refine T.cH H (fun H h => ?_) (fun H h => ?_)
  ·refine T.drawn rfl ?_
   refine ad 8 ?_
   obtain ⟨e2, h3, H⟩ := bind_s H
   refine TD.qs rfl rfl (fun _ => o_ix (f := c_int .u8) rfl rfl tyS_5 rfl rfl h3 rfl) ?_
   refine TD.qs rfl rfl (fun _ => o_loadRf rfl tyS_5 rfl (nb rfl) rfl) ?_
   refine TD.qs rfl rfl (fun _ => o_conv rfl rfl ⟨_, rfl⟩ rfl) ?_
   refine TD.qs rfl rfl (fun _ => o_assign rfl rfl) ?_
   refine TD.nil ⟨rfl, ?_⟩
   exact Pk.of (thn_normal ⟨(IntKind.i64.wrap e2), rfl, rfl, H⟩)
  ·refine T.skip ?_
   exact Pk.of (thn_normal ⟨0, rfl, rfl, H⟩)
 ·rintro _ _ ⟨v1, rfl, rfl, H⟩
  refine au 20 ?_
  refine TL.st rfl rfl rfl (o_conv rfl rfl ⟨_, rfl⟩ rfl) ?_
  refine au 8 ?_
  refine T.drawn rfl ?_
  refine ad 8 ?_
  refine TD.qs rfl rfl (fun _ => o_lenL (f := c_int .u8) rfl rfl rfl) ?_
  refine TD.qs rfl rfl (fun _ => o_ari rfl rfl rfl rfl) ?_
  refine TD.nil ⟨rfl, ?_⟩
  refine thn_normal ?_
  refine T.cH H (fun H h => ?_) (fun H h => ?_)
  ·refine au 6 ?_
   refine thn_ret ?_
   cases some_i H
   exact ⟨trivial, _, (.tmp _ _ _ _ rfl .nil), ⟨rfl, _, rfl⟩⟩
  ·refine au 7 ?_
   refine TL.st rfl rfl rfl (o_shr rfl rfl rfl (by decide)) ?_
   refine TL.st rfl rfl rfl (o_bits rfl rfl rfl rfl) ?_
   refine TL.st rfl rfl rfl (o_conv rfl rfl ⟨_, rfl⟩ rfl) ?_
   refine au 3 ?_
   cases some_i H
   exact ⟨trivial, _, (.tmp _ _ _ _ rfl .nil), ⟨rfl, _, rfl⟩⟩
theorem en_27 : En Tryd.prog 27 := .of Tryd.func27 rfl rfl
noncomputable def spec_l1Cur_pick_j1 (a0 : Int) (b4 : T_spec_l1Cur) (v5 : Int) : Option (Int × T_spec_l1Cur) :=
  (nz a0).bind fun z6 => some ((Int.tmod v5 a0), b4)
noncomputable def spec_l1Cur_pick (a0 : Int) (s0 : T_spec_l1Cur) : Option (Int × T_spec_l1Cur) :=
  cond (decide (a0 ≤ 1)) (some (0, s0)) ((spec_l1Cur_next s0).bind fun q => (match q with | (r1, o2) => cond (decide (a0 > 200)) ((spec_l1Cur_next o2).bind fun q => (match q with | (r8, o9) => spec_l1Cur_pick_j1 a0 o9 (IntKind.i64.wrap ((IntKind.i64.wrap (r1 * 256)) + r8)))) (spec_l1Cur_pick_j1 a0 o2 r1)))
theorem spec_l1Cur_pick_p (c0 : Bool) {a0 : Int} {s0 : T_spec_l1Cur} {R0 : Int} {U0 : T_spec_l1Cur} (H : spec_l1Cur_pick a0 s0 = some (R0, U0)) : St Tryd.prog 13 [.bx 0 0, .int .i64 a0] [.box (c_T_spec_l1Cur c0 s0)] (.int .i64 R0) [.box (c_T_spec_l1Cur c0 U0)] := by
 refine CallT.fin (CallT.of_TN (n := 20) Tryd.func13 rfl rfl rfl rfl ?_) rfl rfl ⟨(bels_iff.1 rfl), trivial⟩
 refine au 10 ?_
 refine T.cH H (fun H h => ?_) (fun H h => ?_)
 ·refine au 5 ?_
  refine thn_ret ?_
  cases some_i H
  exact ⟨trivial, _, (.tmp _ _ _ _ rfl .nil), ⟨rfl, _, rfl⟩⟩
 ·refine au 4 ?_
  obtain ⟨⟨r1, o2⟩, h3, H⟩ := bind_s H
  refine TL.st rfl rfl rfl (o_callS [0] rfl en_27 rfl rfl (spec_l1Cur_next_p c0 h3) rfl (by decide) (.cons _ _ _ _ rfl .nil) rfl rfl rfl) ?_
  refine au 2 ?_
  refine T.cut (fun fr' σ' => ∃ (b4 : T_spec_l1Cur) (v5 : Int), fr' = [(1, .int .i64 a0), (5, .int .i64 v5)] ∧ σ' = [.box (c_T_spec_l1Cur c0 b4)] ∧ spec_l1Cur_pick_j1 a0 b4 v5 = some (R0, U0)) (T.pk ?_) ?_
  ·skip
   refine au 5 ?_
   refine T.cH H (fun H h => ?_) (fun H h => ?_)
   ·refine au 4 ?_
    obtain ⟨⟨r8, o9⟩, h10, H⟩ := bind_s H
    refine TL.st rfl rfl rfl (o_callS [0] rfl en_27 rfl rfl (spec_l1Cur_next_p c0 h10) rfl (by decide) (.cons _ _ _ _ rfl .nil) rfl rfl rfl) ?_
    refine au 3 ?_
    exact Pk.of (thn_normal ⟨o9, (IntKind.i64.wrap ((IntKind.i64.wrap (r1 * 256)) + r8)), rfl, rfl, H⟩)
   ·refine T.skip ?_
    exact Pk.of (thn_normal ⟨o2, r1, rfl, rfl, H⟩)
  ·rintro _ _ ⟨b4, v5, rfl, rfl, H⟩
   refine au 4 ?_
   obtain ⟨z6, h7, H⟩ := bind_s H
   refine TL.st rfl rfl rfl (o_rem rfl rfl rfl (nz_s h7).1) ?_
   refine au 3 ?_
   cases some_i H
   exact ⟨trivial, _, (.tmp _ _ _ _ rfl .nil), ⟨rfl, _, rfl⟩⟩
theorem en_13 : En Tryd.prog 13 := .of Tryd.func13 rfl rfl
theorem tyE_5 : TyE Tryd.prog 5 1 := ⟨_, _, rfl, rfl, rfl, rfl, by decide, by decide⟩
noncomputable def spec_l1Cur_bytes_l1  : (T_spec_l1Cur × List Int × Int) → Option ((T_spec_l1Cur × List Int × Int) ⊕ (T_spec_l1Cur × List Int)) := fun s => match s with
  | (b4, l5, v6) => cond (decide (v6 > 0)) ((spec_l1Cur_next b4).bind fun q => (match q with | (r10, o11) => (app l5 ([(IntKind.u8.wrap r10)] : List Int)).bind fun l13 => some (.inl (o11, l13, (IntKind.i64.wrap (v6 - 1)))))) (some (.inr (b4, l5)))
noncomputable def spec_l1Cur_bytes (a0 : Int) (s0 : T_spec_l1Cur) : Option ((List Int) × T_spec_l1Cur) :=
  (spec_l1Cur_pick a0 s0).bind fun q => (match q with | (r1, o2) => (loopO (spec_l1Cur_bytes_l1) (o2, ([] : List Int), r1)).bind fun q15 => (match q15 with | (b7, l8) => some (l8, b7)))
theorem spec_l1Cur_bytes_p (c0 : Bool) {a0 : Int} {s0 : T_spec_l1Cur} {R0 : (List Int)} {U0 : T_spec_l1Cur} (H : spec_l1Cur_bytes a0 s0 = some (R0, U0)) : St Tryd.prog 21 [.bx 0 0, .int .i64 a0] [.box (c_T_spec_l1Cur c0 s0)] (.im false (R0.map (c_int .u8))) [.box (c_T_spec_l1Cur c0 U0)] := by
 refine CallT.fin (CallT.of_TN (n := 21) Tryd.func21 rfl rfl rfl rfl ?_) rfl rfl ⟨(bels_iff.1 rfl), trivial⟩
 refine au 13 ?_
 obtain ⟨⟨r1, o2⟩, h3, H⟩ := bind_s H
 refine TL.st rfl rfl rfl (o_callS [0] rfl en_13 rfl rfl (spec_l1Cur_pick_p c0 h3) rfl (by decide) (.cons _ _ _ _ rfl .nil) rfl rfl rfl) ?_
 refine au 3 ?_
 refine T.conv (Cs.own (t := 5) 1 rfl (by decide)) ?_
 obtain ⟨q15, h16, H⟩ := bind_s H
 refine T.lq (fun s => match s with | (b4, l5, v6) => [(0, .bx 0 0), (5, .hd 1 (l5.map (c_int .u8)).length 0 (l5.map (c_int .u8)).length), (6, .int .i64 v6)]) (fun s => match s with | (b4, l5, v6) => [.box (c_T_spec_l1Cur c0 b4), .arr .clo 1 (l5.map (c_int .u8))]) (fun q ex fr σ => match q with | (b7, l8) => ex = .exit 0 ∧ fr = [(5, .hd 1 (l8.map (c_int .u8)).length 0 (l8.map (c_int .u8)).length)] ∧ σ = [.box (c_T_spec_l1Cur c0 b7), .arr .clo 1 (l8.map (c_int .u8))]) h16 ?_ ?_
 ·rintro ⟨b4, l5, v6⟩ y9 H
  refine au 6 ?_
  refine T.cH H (fun H h => ?_) (fun H h => ?_)
  ·refine au 6 ?_
   obtain ⟨⟨r10, o11⟩, h12, H⟩ := bind_s H
   refine TL.st rfl rfl rfl (o_callS [0] rfl en_27 rfl rfl (spec_l1Cur_next_p c0 h12) rfl (by decide) (.cons _ _ _ _ rfl .nil) rfl rfl rfl) ?_
   refine TL.st rfl rfl rfl (o_conv rfl rfl ⟨_, rfl⟩ rfl) ?_
   refine TL.st rfl rfl rfl (o_sliceIm (rows := ([(IntKind.u8.wrap r10)] : List Int).map (c_int .u8)) rfl rfl tyS_5 ⟨_, rfl, rfl⟩ (by decide) rfl rfl rfl rfl rfl rfl) ?_
   obtain ⟨l13, h14, H⟩ := bind_s H
   refine TL.st rfl rfl rfl (o_ap (f := c_int .u8) (xs := l5) (ys := ([(IntKind.u8.wrap r10)] : List Int)) rfl rfl tyE_5 rfl rfl rfl rfl (by decide) rfl (fun _ => rfl) h14) ?_
   refine au 7 ?_
   exact Pk.of (thn_normal ⟨(o11, l13, (IntKind.i64.wrap (v6 - 1))), (some_i H).symm, rfl, rfl⟩)
  ·refine T.exit ?_
   refine thn_exit ?_
   exact Pk.of (thn_exit ⟨(b4, l5), (some_i H).symm, rfl, rfl, rfl⟩)
 ·rcases q15 with ⟨b7, l8⟩
  rintro _ _ _ ⟨rfl, rfl, rfl⟩
  refine inB_here ?_
  refine au 5 ?_
  refine T.conv (Cs.frzOwn (t := 4) rfl rfl rfl) ?_
  refine T.ret ?_
  cases some_i H
  exact ⟨trivial, _, (.tmp _ _ _ _ rfl .nil), ⟨rfl, _, rfl⟩⟩
theorem en_21 : En Tryd.prog 21 := .of Tryd.func21 rfl rfl
theorem tyS_24 : TyS Tryd.prog 24 true 3 := ⟨rfl, rfl⟩
def k_impl_SessConf (a1 : Nat) (b : Bool) (x : T_impl_SessConf) : List V := [.hd a1 (x.Key_.map (c_int .u8)).length 0 (x.Key_.map (c_int .u8)).length, .int .i64 x.Idle_, .int .i64 x.Most_]
noncomputable def spec_l1Cur_sessConf (s0 : T_spec_l1Cur) : Option (T_impl_SessConf × T_spec_l1Cur) :=
  (spec_l1Cur_bytes 4 s0).bind fun q => (match q with | (r1, o2) => (spec_l1Cur_pick 20 o2).bind fun q => (match q with | (r4, o5) => (spec_l1Cur_pick 60 o5).bind fun q => (match q with | (r7, o8) => (spec_l1Cur_pick 30 o8).bind fun q => (match q with | (r10, o11) => cond (r10 == 0) ((spec_l1Cur_pick 2 o11).bind fun q => (match q with | (r13, o14) => (idx ([0, 1000001] : List Int) r13).bind fun e16 => some ((⟨r1, e16, (IntKind.i64.wrap (20 + r7))⟩ : T_impl_SessConf), o14))) (cond (r10 == 1) ((spec_l1Cur_pick 2 o11).bind fun q => (match q with | (r18, o19) => (mk 0 (IntKind.i64.wrap (64 + r18))).bind fun l21 => some ((⟨l21, (IntKind.i64.wrap (5 + r4)), (IntKind.i64.wrap (20 + r7))⟩ : T_impl_SessConf), o19))) (some ((⟨r1, (IntKind.i64.wrap (5 + r4)), (IntKind.i64.wrap (20 + r7))⟩ : T_impl_SessConf), o11)))))))
theorem spec_l1Cur_sessConf_p (c0 : Bool) {s0 : T_spec_l1Cur} {R0 : T_impl_SessConf} {U0 : T_spec_l1Cur} (H : spec_l1Cur_sessConf s0 = some (R0, U0)) : St Tryd.prog 10 [.bx 0 0] [.box (c_T_spec_l1Cur c0 s0)] (.agg (c_T_impl_SessConf false R0)) [.box (c_T_spec_l1Cur c0 U0)] := by
 refine CallT.fin (CallT.of_TN (n := 31) Tryd.func10 rfl rfl rfl rfl ?_) rfl rfl ⟨(bels_iff.1 rfl), trivial⟩
 refine au 7 ?_
 obtain ⟨⟨r1, o2⟩, h3, H⟩ := bind_s H
 refine TL.st rfl rfl rfl (o_callS [0] rfl en_21 rfl rfl (spec_l1Cur_bytes_p c0 h3) rfl (by decide) (.cons _ _ _ _ rfl .nil) rfl rfl rfl) ?_
 refine TL.st rfl rfl rfl (o_move rfl rfl) ?_
 obtain ⟨⟨r4, o5⟩, h6, H⟩ := bind_s H
 refine TL.st rfl rfl rfl (o_callS [0] rfl en_13 rfl rfl (spec_l1Cur_pick_p c0 h6) rfl (by decide) (.cons _ _ _ _ rfl .nil) rfl rfl rfl) ?_
 refine au 2 ?_
 obtain ⟨⟨r7, o8⟩, h9, H⟩ := bind_s H
 refine TL.st rfl rfl rfl (o_callS [0] rfl en_13 rfl rfl (spec_l1Cur_pick_p c0 h9) rfl (by decide) (.cons _ _ _ _ rfl .nil) rfl rfl rfl) ?_
 refine au 7 ?_
 refine T.conv (Cs.eqS (σ' := [.box (c_T_spec_l1Cur c0 o8), .box [.nilS, .int .i64 0, .int .i64 0], .box [.im false (r1.map (c_int .u8)), .int .i64 (IntKind.i64.wrap (5 + r4)), .int .i64 (IntKind.i64.wrap (20 + r7))]]) rfl) ?_
 refine au 2 ?_
 obtain ⟨⟨r10, o11⟩, h12, H⟩ := bind_s H
 refine TL.st rfl rfl rfl (o_callS [0] rfl en_13 rfl rfl (spec_l1Cur_pick_p c0 h12) rfl (by decide) (.cons _ _ _ _ rfl .nil) rfl rfl rfl) ?_
 refine au 7 ?_
 refine T.cH H (fun H h => ?_) (fun H h => ?_)
 ·refine T.region ?_
  refine TL.st rfl rfl rfl (o_sliceIm (rows := ([0, 1000001] : List Int).map (c_int .i64)) rfl rfl tyS_3 ⟨_, rfl, rfl⟩ (by decide) rfl rfl rfl rfl rfl rfl) ?_
  refine TL.st rfl rfl rfl (o_move rfl rfl) ?_
  obtain ⟨⟨r13, o14⟩, h15, H⟩ := bind_s H
  refine TL.st rfl rfl rfl (o_callS [0] rfl en_13 rfl rfl (spec_l1Cur_pick_p c0 h15) rfl (by decide) (.cons _ _ _ _ rfl .nil) rfl rfl rfl) ?_
  obtain ⟨e16, h17, H⟩ := bind_s H
  refine TL.st rfl rfl rfl (o_ix (f := c_int .i64) rfl rfl tyS_3 rfl rfl h17 rfl) ?_
  refine au 5 ?_
  refine T.conv (Cs.eqS (σ' := [.box (c_T_spec_l1Cur c0 o14), _, .box [.im false (r1.map (c_int .u8)), .int .i64 e16, .int .i64 (IntKind.i64.wrap (20 + r7))]]) rfl) ?_
  refine au 5 ?_
  cases some_i H
  exact ⟨trivial, _, (.cell _ _ _ _ _ _ _ _ _ _ rfl rfl tyS_24 (nb rfl) rfl .nil), ⟨rfl, _, rfl⟩⟩
 ·refine au 5 ?_
  refine T.cH H (fun H h => ?_) (fun H h => ?_)
  ·refine au 2 ?_
   obtain ⟨⟨r18, o19⟩, h20, H⟩ := bind_s H
   refine TL.st rfl rfl rfl (o_callS [0] rfl en_13 rfl rfl (spec_l1Cur_pick_p c0 h20) rfl (by decide) (.cons _ _ _ _ rfl .nil) rfl rfl rfl) ?_
   refine TL.st rfl rfl rfl (o_ari rfl rfl rfl rfl) ?_
   obtain ⟨l21, h22, H⟩ := bind_s H
   refine TL.st rfl rfl rfl (o_mk (f := c_int .u8) (z := 0) rfl rfl tyE_5 ⟨_, rfl, rfl⟩ rfl rfl h22) ?_
   refine TL.st rfl rfl rfl (o_fieldAddr rfl rfl rfl tyS_22 (by decide) rfl rfl ⟨_, rfl, Nat.le_of_ble_eq_true rfl⟩) ?_
   refine TL.sn rfl rfl (o_storeBx rfl tyS_22 rfl rfl rfl rfl (nb rfl) (sure_hd rfl rfl rfl)) ?_
   refine au 2 ?_
   refine T.conv (Cs.eqS (σ' := [.box (c_T_spec_l1Cur c0 o19), _, .box (k_impl_SessConf 3 false (⟨l21, (IntKind.i64.wrap (5 + r4)), (IntKind.i64.wrap (20 + r7))⟩ : T_impl_SessConf)), .arr .clo 1 (l21.map (c_int .u8))]) rfl) ?_
   refine au 2 ?_
   refine TL.sn rfl rfl (o_storeBx rfl tyS_24 rfl rfl rfl rfl (nb rfl) (sure_hd rfl rfl (sure_c rfl (sure_c rfl rfl)))) ?_
   refine TL.nil ?_
   refine T.conv (Cs.frzCell (p := 3) (q := 1) 0 rfl rfl rfl rfl rfl) ?_
   refine T.ret ?_
   cases some_i H
   exact ⟨trivial, _, (.cell _ _ _ _ _ _ _ _ _ _ rfl rfl tyS_24 (nb rfl) rfl .nil), ⟨rfl, _, rfl⟩⟩
  ·refine au 7 ?_
   cases some_i H
   exact ⟨trivial, _, (.cell _ _ _ _ _ _ _ _ _ _ rfl rfl tyS_24 (nb rfl) rfl .nil), ⟨rfl, _, rfl⟩⟩
theorem en_10 : En Tryd.prog 10 := .of Tryd.func10 rfl rfl
noncomputable def spec_l1Many (a0 : (List Int)) (a1 : Int) (a2 : Int) : Option Int :=
  (nz a1).bind fun z1 => cond (decide ((IntKind.i64.wrap (Int.tdiv (a0.length : Int) a1)) > a2)) (some a2) (some (IntKind.i64.wrap (Int.tdiv (a0.length : Int) a1)))
theorem spec_l1Many_p (b0 : Bool) {a0 : (List Int)} {a1 : Int} {a2 : Int} {R0 : Int} (H : spec_l1Many a0 a1 a2 = some R0) : Pure Tryd.prog 12 [.im b0 (a0.map (c_int .u8)), .int .i64 a1, .int .i64 a2] (.int .i64 R0) := by
 refine CallT.of_TN (n := 17) Tryd.func12 rfl rfl rfl rfl ?_
 refine au 7 ?_
 refine TL.st rfl rfl rfl (o_lenL (f := c_int .u8) rfl rfl rfl) ?_
 refine TL.st rfl rfl rfl (o_move rfl rfl) ?_
 obtain ⟨z1, h2, H⟩ := bind_s H
 refine TL.st rfl rfl rfl (o_quo rfl rfl rfl (nz_s h2).1) ?_
 refine au 9 ?_
 refine T.cH H (fun H h => ?_) (fun H h => ?_)
 ·refine au 6 ?_
  refine thn_ret ?_
  cases some_i H
  exact ⟨trivial, _, (.tmp _ _ _ _ rfl .nil), (.cl _ rfl)⟩
 ·refine au 7 ?_
  cases some_i H
  exact ⟨trivial, _, (.tmp _ _ _ _ rfl .nil), (.cl _ rfl)⟩
theorem en_12 : En Tryd.prog 12 := .of Tryd.func12 rfl rfl
noncomputable def spec_l1Cur_one (a0 : Int) (s0 : T_spec_l1Cur) : Option (Bool × T_spec_l1Cur) :=
  (spec_l1Cur_pick a0 s0).bind fun q => (match q with | (r1, o2) => some ((r1 == 0), o2))
theorem spec_l1Cur_one_p (c0 : Bool) {a0 : Int} {s0 : T_spec_l1Cur} {R0 : Bool} {U0 : T_spec_l1Cur} (H : spec_l1Cur_one a0 s0 = some (R0, U0)) : St Tryd.prog 22 [.bx 0 0, .int .i64 a0] [.box (c_T_spec_l1Cur c0 s0)] (.bool R0) [.box (c_T_spec_l1Cur c0 U0)] := by
 refine CallT.fin (CallT.of_TN (n := 9) Tryd.func22 rfl rfl rfl rfl ?_) rfl rfl ⟨(bels_iff.1 rfl), trivial⟩
 refine au 8 ?_
 obtain ⟨⟨r1, o2⟩, h3, H⟩ := bind_s H
 refine TL.st rfl rfl rfl (o_callS [0] rfl en_13 rfl rfl (spec_l1Cur_pick_p c0 h3) rfl (by decide) (.cons _ _ _ _ rfl .nil) rfl rfl rfl) ?_
 refine au 4 ?_
 cases some_i H
 exact ⟨trivial, _, (.tmp _ _ _ _ rfl .nil), ⟨rfl, _, rfl⟩⟩
theorem en_22 : En Tryd.prog 22 := .of Tryd.func22 rfl rfl
theorem tyS_9 : TyS Tryd.prog 9 false 1 := ⟨rfl, rfl⟩
noncomputable def spec_l1Cur_of (a0 : (List ByteArray)) (s0 : T_spec_l1Cur) : Option (ByteArray × T_spec_l1Cur) :=
  (spec_l1Cur_pick (a0.length : Int) s0).bind fun q => (match q with | (r1, o2) => (idx a0 r1).bind fun e4 => some (e4, o2))
theorem spec_l1Cur_of_p (b0 : Bool) (c0 : Bool) {a0 : (List ByteArray)} {s0 : T_spec_l1Cur} {R0 : ByteArray} {U0 : T_spec_l1Cur} (H : spec_l1Cur_of a0 s0 = some (R0, U0)) : St Tryd.prog 23 [.bx 0 0, .im b0 (a0.map (c_str))] [.box (c_T_spec_l1Cur c0 s0)] (.str R0) [.box (c_T_spec_l1Cur c0 U0)] := by
 refine CallT.fin (CallT.of_TN (n := 12) Tryd.func23 rfl rfl rfl rfl ?_) rfl rfl ⟨(bels_iff.1 rfl), trivial⟩
 refine au 9 ?_
 refine TL.st rfl rfl rfl (o_lenL (f := c_str) rfl rfl rfl) ?_
 obtain ⟨⟨r1, o2⟩, h3, H⟩ := bind_s H
 refine TL.st rfl rfl rfl (o_callS [0] rfl en_13 rfl rfl (spec_l1Cur_pick_p c0 h3) rfl (by decide) (.cons _ _ _ _ rfl .nil) rfl rfl rfl) ?_
 obtain ⟨e4, h5, H⟩ := bind_s H
 refine TL.st rfl rfl rfl (o_ix (f := c_str) rfl rfl tyS_9 rfl rfl h5 rfl) ?_
 refine au 4 ?_
 cases some_i H
 exact ⟨trivial, _, (.tmp _ _ _ _ rfl .nil), ⟨rfl, _, rfl⟩⟩
theorem en_23 : En Tryd.prog 23 := .of Tryd.func23 rfl rfl
theorem tyS_34 : TyS Tryd.prog 34 true 5 := ⟨rfl, rfl⟩
noncomputable def spec_l15Lesser (a0 : Int) (a1 : Int) : Option Int :=
  cond (decide (a0 < a1)) (some a0) (some a1)
theorem spec_l15Lesser_p  {a0 : Int} {a1 : Int} {R0 : Int} (H : spec_l15Lesser a0 a1 = some R0) : Pure Tryd.prog 24 [.int .i64 a0, .int .i64 a1] (.int .i64 R0) := by
 refine CallT.of_TN (n := 10) Tryd.func24 rfl rfl rfl rfl ?_
 refine au 11 ?_
 refine T.cH H (fun H h => ?_) (fun H h => ?_)
 ·refine au 6 ?_
  refine thn_ret ?_
  cases some_i H
  exact ⟨trivial, _, (.tmp _ _ _ _ rfl .nil), (.cl _ rfl)⟩
 ·refine au 7 ?_
  cases some_i H
  exact ⟨trivial, _, (.tmp _ _ _ _ rfl .nil), (.cl _ rfl)⟩
theorem en_24 : En Tryd.prog 24 := .of Tryd.func24 rfl rfl
def k_spec_l19S (a1 p : Nat) (b : Bool) (x : T_spec_l19S) : List V := ((c_T_impl_SessConf b x.c_) ++ [.int .i64 x.now_, .int .i64 x.given_, .hd a1 x.list_.length 0 x.list_.length])
noncomputable def spec_l1Digit (a0 : Int) : Option Bool :=
  some (decide (a0 ≥ 48) && decide (a0 ≤ 57))
theorem spec_l1Digit_p  {a0 : Int} {R0 : Bool} (H : spec_l1Digit a0 = some R0) : Pure Tryd.prog 45 [.int .u8 a0] (.bool R0) := by
 refine CallT.of_TN (n := 9) Tryd.func45 rfl rfl rfl rfl ?_
 refine au 15 ?_
 cases some_i H
 exact ⟨trivial, _, (.tmp _ _ _ _ rfl .nil), (.cl _ rfl)⟩
theorem en_45 : En Tryd.prog 45 := .of Tryd.func45 rfl rfl
noncomputable def spec_l1Letter (a0 : Int) : Option Bool :=
  some ((decide (a0 ≥ 97) && decide (a0 ≤ 122)) || (decide (a0 ≥ 65) && decide (a0 ≤ 90)))
theorem spec_l1Letter_p  {a0 : Int} {R0 : Bool} (H : spec_l1Letter a0 = some R0) : Pure Tryd.prog 46 [.int .u8 a0] (.bool R0) := by
 refine CallT.of_TN (n := 17) Tryd.func46 rfl rfl rfl rfl ?_
 refine au 15 ?_
 refine TL.gcq rfl rfl rfl (.bool _) rfl rfl (fun h => o_move rfl (gv h rfl)) ?_
 refine TL.gcq rfl rfl rfl (.gd _ _) rfl rfl (fun h => o_move rfl rfl) ?_
 refine TL.gcq rfl rfl rfl (.gd _ _) rfl rfl (fun h => o_ari rfl (gv h rfl) rfl rfl) ?_
 refine TL.gcq rfl rfl rfl (.bool _) rfl rfl (fun h => o_and rfl (gv h rfl) rfl (fun k => Gd_t (andi h k)) rfl) ?_
 refine au 4 ?_
 cases some_i H
 exact ⟨trivial, _, (.tmp _ _ _ _ rfl .nil), (.cl _ rfl)⟩
theorem en_46 : En Tryd.prog 46 := .of Tryd.func46 rfl rfl
noncomputable def spec_GoodName_l1 (a0 : ByteArray) : Int → Option (Int ⊕ (Unit ⊕ Bool)) := fun s => match s with
  | v5 => cond (decide (v5 < (a0.size : Int))) ((idxS a0 v5).bind fun b8 => (spec_l1Letter b8).bind fun r10 => (gdO (!r10) (idxS a0 v5)).bind fun b12 => (gdO (!r10) (spec_l1Digit b12)).bind fun r14 => (gdO ((!r10) && (!r14)) (idxS a0 v5)).bind fun b16 => cond (((!r10) && (!r14)) && (b16 != 95)) (some (.inr (.inr false))) (some (.inl (IntKind.i64.wrap (v5 + 1))))) (some (.inr (.inl ())))
noncomputable def spec_GoodName (a0 : ByteArray) : Option Bool :=
  (gdO (!(decide ((a0.size : Int) < 1) || decide ((a0.size : Int) > 30))) (idxS a0 0)).bind fun b1 => (gdO (!(decide ((a0.size : Int) < 1) || decide ((a0.size : Int) > 30))) (spec_l1Digit b1)).bind fun r3 => cond ((decide ((a0.size : Int) < 1) || decide ((a0.size : Int) > 30)) || r3) (some false) ((loopO (spec_GoodName_l1 a0) 0).bind fun q18 => (match q18 with | .inl _ => some true | .inr q6 => some q6))
theorem spec_GoodName_p  {a0 : ByteArray} {R0 : Bool} (H : spec_GoodName a0 = some R0) : Pure Tryd.prog 39 [.str a0] (.bool R0) := by
 refine CallT.of_TN (n := 41) Tryd.func39 rfl rfl rfl rfl ?_
 refine au 12 ?_
 refine TL.gcq rfl rfl rfl (.bool _) rfl rfl (fun h => o_lenS rfl rfl (gv h rfl)) ?_
 refine au 4 ?_
 obtain ⟨b1, h2, H⟩ := bind_s H
 refine TL.gcq rfl rfl rfl (.bool _) rfl rfl (fun h => o_ixs rfl rfl (gv h rfl) rfl (gdO_t h2 h)) ?_
 obtain ⟨r3, h4, H⟩ := bind_s H
 refine TL.gcq rfl rfl rfl (.bool _) rfl rfl (fun h => o_callP rfl en_45 rfl (evl_1 (gv h rfl)) (.cons _ _ _ _ (.cl _ rfl) .nil) (spec_l1Digit_p  (gdO_t h4 h))) ?_
 refine au 2 ?_
 refine T.cH H (fun H h => ?_) (fun H h => ?_)
 ·refine au 5 ?_
  refine thn_ret ?_
  cases some_i H
  exact ⟨trivial, _, (.tmp _ _ _ _ rfl .nil), (.cl _ rfl)⟩
 ·refine au 7 ?_
  obtain ⟨q18, h19, H⟩ := bind_s H
  refine T.lq (fun s => match s with | v5 => [(0, .str a0), (3, .int .i64 v5)]) (fun s => match s with | v5 => []) (fun q ex fr σ => match q with | .inl _ => ex = .exit 0 ∧ fr = [] ∧ σ = [] | .inr q6 => ex = .ret ∧ RetN Tryd.prog [.tmp 2] (fun v τ => Told τ v (.bool q6)) .ret fr σ) h19 ?_ ?_
  ·rintro v5 y7 H
   refine au 8 ?_
   refine T.cH H (fun H h => ?_) (fun H h => ?_)
   ·refine au 7 ?_
    obtain ⟨b8, h9, H⟩ := bind_s H
    refine TL.st rfl rfl rfl (o_ixs rfl rfl rfl rfl h9) ?_
    obtain ⟨r10, h11, H⟩ := bind_s H
    refine TL.st rfl rfl rfl (o_callP rfl en_46 rfl rfl (.cons _ _ _ _ (.cl _ rfl) .nil) (spec_l1Letter_p  h11)) ?_
    refine au 4 ?_
    obtain ⟨b12, h13, H⟩ := bind_s H
    refine TL.gcq rfl rfl rfl (.bool _) rfl rfl (fun h => o_ixs rfl rfl (gv h rfl) (gv h rfl) (gdO_t h13 h)) ?_
    obtain ⟨r14, h15, H⟩ := bind_s H
    refine TL.gcq rfl rfl rfl (.bool _) rfl rfl (fun h => o_callP rfl en_45 rfl (evl_1 (gv h rfl)) (.cons _ _ _ _ (.cl _ rfl) .nil) (spec_l1Digit_p  (gdO_t h15 h))) ?_
    refine au 5 ?_
    obtain ⟨b16, h17, H⟩ := bind_s H
    refine TL.gcq rfl rfl rfl (.bool _) rfl rfl (fun h => o_ixs rfl rfl (gv h rfl) (gv h rfl) (gdO_t h17 h)) ?_
    refine au 3 ?_
    refine T.cH H (fun H h => ?_) (fun H h => ?_)
    ·refine au 5 ?_
     refine inB_ret (thn_ret ?_)
     exact Pk.id (thn_ret ⟨.inr false, (some_i H).symm, rfl, ⟨trivial, _, (.tmp _ _ _ _ rfl .nil), (.cl _ rfl)⟩⟩)
    ·refine au 6 ?_
     exact Pk.of (thn_normal ⟨(IntKind.i64.wrap (v5 + 1)), (some_i H).symm, rfl, rfl⟩)
   ·refine T.exit ?_
    refine thn_exit ?_
    exact Pk.of (thn_exit ⟨.inl (), (some_i H).symm, rfl, rfl, rfl⟩)
  ·rcases q18 with ⟨⟩ | q6
   ·rintro _ _ _ ⟨rfl, rfl, rfl⟩
    refine inB_here ?_
    refine au 5 ?_
    cases some_i H
    exact ⟨trivial, _, (.tmp _ _ _ _ rfl .nil), (.cl _ rfl)⟩
   ·rintro _ fr1 σ1 ⟨rfl, hr⟩
    refine inB_ret (thn_ret ?_)
    cases some_i H
    exact hr
theorem en_39 : En Tryd.prog 39 := .of Tryd.func39 rfl rfl
noncomputable def spec_l15Not (a0 : Bool) (a1 : ByteArray) (a2 : Bool) : Option Bool :=
  cond a0 (some (!a2)) (some (!(a1.toList == e0.toList)))
theorem spec_l15Not_p  {a0 : Bool} {a1 : ByteArray} {a2 : Bool} {R0 : Bool} (H : spec_l15Not a0 a1 a2 = some R0) : Pure Tryd.prog 38 [.bool a0, .str a1, .bool a2] (.bool R0) := by
 refine CallT.of_TN (n := 12) Tryd.func38 rfl rfl rfl rfl ?_
 refine au 9 ?_
 refine T.cH H (fun H h => ?_) (fun H h => ?_)
 ·refine au 7 ?_
  refine thn_ret ?_
  cases some_i H
  exact ⟨trivial, _, (.tmp _ _ _ _ rfl .nil), (.cl _ rfl)⟩
 ·refine au 8 ?_
  cases some_i H
  exact ⟨trivial, _, (.tmp _ _ _ _ rfl .nil), (.cl _ rfl)⟩
theorem en_38 : En Tryd.prog 38 := .of Tryd.func38 rfl rfl
noncomputable def spec_l19Bad (a0 : T_impl_SessEvent) : Option Bool :=
  cond (((decide (a0.Kind_ < 1) || decide (a0.Kind_ > 5)) || decide (a0.Time_ < 0)) || decide (a0.Time_ > 100000000000)) (some true) ((spec_GoodName a0.User_).bind fun r1 => (spec_l15Not ((a0.Kind_ == 1) || (a0.Kind_ == 5)) a0.User_ r1).bind fun r3 => (gdO (!r3) (spec_GoodName a0.Device_)).bind fun r5 => (gdO (!r3) (spec_l15Not (a0.Kind_ != 5) a0.Device_ r5)).bind fun r7 => some ((r3 || r7) || (((a0.Kind_ == 1) || (a0.Kind_ == 5)) && (!(a0.Id_.toList == e0.toList)))))
theorem spec_l19Bad_p  {a0 : T_impl_SessEvent} {R0 : Bool} (H : spec_l19Bad a0 = some R0) : Pure Tryd.prog 30 [.agg (c_T_impl_SessEvent false a0)] (.bool R0) := by
 refine CallT.of_TN (n := 58) Tryd.func30 rfl rfl rfl rfl ?_
 refine au 27 ?_
 refine T.cH H (fun H h => ?_) (fun H h => ?_)
 ·refine au 5 ?_
  refine thn_ret ?_
  cases some_i H
  exact ⟨trivial, _, (.tmp _ _ _ _ rfl .nil), (.cl _ rfl)⟩
 ·refine au 21 ?_
  refine T.drawn rfl ?_
  refine ad 5 ?_
  obtain ⟨r1, h2, H⟩ := bind_s H
  refine TD.qs rfl rfl (fun _ => o_callP rfl en_39 rfl rfl (.cons _ _ _ _ (.cl _ rfl) .nil) (spec_GoodName_p  h2)) ?_
  obtain ⟨r3, h4, H⟩ := bind_s H
  refine TD.qs rfl rfl (fun _ => o_callP rfl en_38 rfl rfl (.cons _ _ _ _ (.cl _ rfl) (.cons _ _ _ _ (.cl _ rfl) (.cons _ _ _ _ (.cl _ rfl) .nil))) (spec_l15Not_p  h4)) ?_
  refine ad 6 ?_
  obtain ⟨r5, h6, H⟩ := bind_s H
  refine TD.cq rfl rfl rfl (.bool _) rfl (fun h _ => o_callP rfl en_39 rfl (evl_1 (gv h rfl)) (.cons _ _ _ _ (.cl _ rfl) .nil) (spec_GoodName_p  (gdO_t h6 h))) ?_
  obtain ⟨r7, h8, H⟩ := bind_s H
  refine TD.cq rfl rfl rfl (.bool _) rfl (fun h _ => o_callP rfl en_38 rfl (evl_3 (gv h rfl) (gv h rfl) (gv h rfl)) (.cons _ _ _ _ (.cl _ rfl) (.cons _ _ _ _ (.cl _ rfl) (.cons _ _ _ _ (.cl _ rfl) .nil))) (spec_l15Not_p  (gdO_t h8 h))) ?_
  refine ad 3 ?_
  refine TD.cq rfl rfl rfl (.bool _) rfl (fun h _ => o_move rfl (gv h rfl)) ?_
  refine TD.cr rfl rfl rfl (.gd _ _) rfl (fun h => o_fieldAddr rfl rfl rfl tyS_9 (by decide) rfl rfl ⟨_, rfl, Nat.le_of_ble_eq_true rfl⟩) ?_
  refine TD.cr rfl rfl rfl (.gd _ _) rfl (fun h => o_loadBx rfl tyS_9 (gv h rfl) rfl (nb rfl) rfl) ?_
  refine TD.cq rfl rfl rfl (.gd _ _) rfl (fun h _ => o_str rfl (gv h rfl) rfl rfl) ?_
  refine TD.cq rfl rfl rfl (.bool _) rfl (fun h _ => o_and rfl (gv h rfl) rfl (fun k => Gd_t (andi h k)) rfl) ?_
  refine ad 2 ?_
  refine TD.nil ⟨rfl, ?_⟩
  refine T.ret ?_
  cases some_i H
  exact ⟨trivial, _, (.tmp _ _ _ _ rfl .nil), (.cl _ rfl)⟩
theorem en_30 : En Tryd.prog 30 := .of Tryd.func30 rfl rfl
theorem tyS_31 : TyS Tryd.prog 31 true 4 := ⟨rfl, rfl⟩
noncomputable def spec_l19Err (a0 : Int) : Option T_impl_SessReply :=
  some (⟨a0, e0, e0, 0⟩ : T_impl_SessReply)
theorem spec_l19Err_p  {a0 : Int} {R0 : T_impl_SessReply} (H : spec_l19Err a0 = some R0) : Pure Tryd.prog 31 [.int .i64 a0] (.agg (c_T_impl_SessReply false R0)) := by
 refine CallT.of_TN (n := 5) Tryd.func31 rfl rfl rfl rfl ?_
 refine au 11 ?_
 cases some_i H
 exact ⟨trivial, _, (.cell _ _ _ _ _ _ _ _ _ _ rfl rfl tyS_31 (nb rfl) rfl .nil), (.cl _ rfl)⟩
theorem en_31 : En Tryd.prog 31 := .of Tryd.func31 rfl rfl
noncomputable def spec_l1Size_j1 (v1 : Int) (v2 : ByteArray) (v5 : Int) : Option ((Int × ByteArray) ⊕ ByteArray) :=
  (cat (byS ([(IntKind.u8.wrap (IntKind.i64.wrap (48 + v5)))] : List Int)) v2).bind fun s6 => some (.inl ((IntKind.i64.wrap (Int.tdiv v1 10)), s6))
noncomputable def spec_l1Size_l1  : (Int × ByteArray) → Option ((Int × ByteArray) ⊕ ByteArray) := fun s => match s with
  | (v1, v2) => cond (v1 != 0) (cond (decide ((Int.tmod v1 10) < 0)) (spec_l1Size_j1 v1 v2 (IntKind.i64.wrap (-(Int.tmod v1 10)))) (spec_l1Size_j1 v1 v2 (Int.tmod v1 10))) (some (.inr v2))
noncomputable def spec_l1Size (a0 : Int) : Option ByteArray :=
  cond (a0 == 0) (some (ByteArray.mk #[48])) ((loopO (spec_l1Size_l1) (a0, e0)).bind fun v3 => (match v3 with | v3 => some v3))
theorem spec_l1Size_p  {a0 : Int} {R0 : ByteArray} (H : spec_l1Size a0 = some R0) : Pure Tryd.prog 54 [.int .i64 a0] (.str R0) := by
 refine CallT.of_TN (n := 25) Tryd.func54 rfl rfl rfl rfl ?_
 refine au 10 ?_
 refine T.cH H (fun H h => ?_) (fun H h => ?_)
 ·refine au 5 ?_
  refine thn_ret ?_
  cases some_i H
  exact ⟨trivial, _, (.tmp _ _ _ _ rfl .nil), (.cl _ rfl)⟩
 ·refine au 7 ?_
  obtain ⟨v3, h9, H⟩ := bind_s H
  refine T.lq (fun s => match s with | (v1, v2) => [(0, .int .i64 v1), (3, .str v2)]) (fun s => match s with | (v1, v2) => []) (fun q ex fr σ => match q with | v3 => ex = .exit 0 ∧ fr = [(3, .str v3)] ∧ σ = []) h9 ?_ ?_
  ·rintro ⟨v1, v2⟩ y4 H
   refine au 6 ?_
   refine T.cH H (fun H h => ?_) (fun H h => ?_)
   ·refine au 5 ?_
    refine TL.st rfl rfl rfl (o_rem rfl rfl rfl (by decide)) ?_
    refine au 2 ?_
    refine T.cut (fun fr' σ' => ∃ (v5 : Int), fr' = [(0, .int .i64 v1), (3, .str v2), (4, .int .i64 v5)] ∧ σ' = [] ∧ spec_l1Size_j1 v1 v2 v5 = some y4) (T.pk ?_) ?_
    ·skip
     refine au 5 ?_
     refine T.cH H (fun H h => ?_) (fun H h => ?_)
     ·refine au 2 ?_
      refine TL.st rfl rfl rfl (o_neg rfl rfl) ?_
      refine au 2 ?_
      exact Pk.of (thn_normal ⟨(IntKind.i64.wrap (-(Int.tmod v1 10))), rfl, rfl, H⟩)
     ·refine T.skip ?_
      exact Pk.of (thn_normal ⟨(Int.tmod v1 10), rfl, rfl, H⟩)
    ·rintro _ _ ⟨v5, rfl, rfl, H⟩
     refine au 4 ?_
     refine TL.st rfl rfl rfl (o_conv rfl rfl ⟨_, rfl⟩ rfl) ?_
     refine TL.st rfl rfl rfl (o_sliceIm (rows := ([(IntKind.u8.wrap (IntKind.i64.wrap (48 + v5)))] : List Int).map (c_int .u8)) rfl rfl tyS_5 ⟨_, rfl, rfl⟩ (by decide) rfl rfl rfl rfl rfl rfl) ?_
     refine TL.st rfl rfl rfl (o_bs (f := c_int .u8) (ns := ([(IntKind.u8.wrap (IntKind.i64.wrap (48 + v5)))] : List Int)) rfl rfl rfl rfl (fun _ => rfl) rfl) ?_
     refine TL.st rfl rfl rfl (o_move rfl rfl) ?_
     obtain ⟨s6, h7, H⟩ := bind_s H
     refine TL.st rfl rfl rfl (o_ct rfl rfl rfl h7) ?_
     refine au 4 ?_
     refine TL.st rfl rfl rfl (o_quo rfl rfl rfl (by decide)) ?_
     refine au 2 ?_
     refine inB_normal ?_
     exact Pk.of (thn_normal ⟨((IntKind.i64.wrap (Int.tdiv v1 10)), s6), (some_i H).symm, rfl, rfl⟩)
   ·refine T.exit ?_
    refine thn_exit ?_
    exact Pk.of (thn_exit ⟨v2, (some_i H).symm, rfl, rfl, rfl⟩)
  ·rintro _ _ _ ⟨rfl, rfl, rfl⟩
   refine inB_here ?_
   refine au 6 ?_
   cases some_i H
   exact ⟨trivial, _, (.tmp _ _ _ _ rfl .nil), (.cl _ rfl)⟩
theorem en_54 : En Tryd.prog 54 := .of Tryd.func54 rfl rfl
noncomputable def spec_l1Num (a0 : Int) : Option ByteArray :=
  cond (decide (a0 < 0)) ((spec_l1Size a0).bind fun r1 => (cat (ByteArray.mk #[45]) r1).bind fun s3 => some s3) ((spec_l1Size a0).bind fun r5 => some r5)
theorem spec_l1Num_p  {a0 : Int} {R0 : ByteArray} (H : spec_l1Num a0 = some R0) : Pure Tryd.prog 47 [.int .i64 a0] (.str R0) := by
 refine CallT.of_TN (n := 10) Tryd.func47 rfl rfl rfl rfl ?_
 refine au 10 ?_
 refine T.cH H (fun H h => ?_) (fun H h => ?_)
 ·refine au 3 ?_
  obtain ⟨r1, h2, H⟩ := bind_s H
  refine TL.st rfl rfl rfl (o_callP rfl en_54 rfl rfl (.cons _ _ _ _ (.cl _ rfl) .nil) (spec_l1Size_p  h2)) ?_
  obtain ⟨s3, h4, H⟩ := bind_s H
  refine TL.st rfl rfl rfl (o_ct rfl rfl rfl h4) ?_
  refine au 3 ?_
  refine thn_ret ?_
  cases some_i H
  exact ⟨trivial, _, (.tmp _ _ _ _ rfl .nil), (.cl _ rfl)⟩
 ·refine au 4 ?_
  obtain ⟨r5, h6, H⟩ := bind_s H
  refine TL.st rfl rfl rfl (o_callP rfl en_54 rfl rfl (.cons _ _ _ _ (.cl _ rfl) .nil) (spec_l1Size_p  h6)) ?_
  refine au 3 ?_
  cases some_i H
  exact ⟨trivial, _, (.tmp _ _ _ _ rfl .nil), (.cl _ rfl)⟩
theorem en_47 : En Tryd.prog 47 := .of Tryd.func47 rfl rfl
noncomputable def spec_l2Mixx_l1 (a0 : Int) : (List Int × Int) → Option ((List Int × Int) ⊕ List Int) := fun s => match s with
  | (l1, v2) => cond (decide (v2 < 4)) ((idx l1 v2).bind fun e5 => (idx ([1103515245, 69069, 1664525, 22695477] : List Int) v2).bind fun e7 => (idx l1 (Int.tmod (IntKind.i64.wrap (v2 + 1)) 4)).bind fun e9 => (idx l1 v2).bind fun e11 => some (.inl ((l1.set (Int.toNat v2) (Int.tmod (IntKind.i64.wrap ((IntKind.i64.wrap ((IntKind.i64.wrap ((IntKind.i64.wrap (e5 * e7)) + a0)) + 1)) + e9)) 2147483579)), (IntKind.i64.wrap (v2 + 1))))) (some (.inr l1))
noncomputable def spec_l2Mixx (a0 : Int) (s0 : List Int) : Option (List Int) :=
  (loopO (spec_l2Mixx_l1 a0) (s0, 0)).bind fun l3 => (match l3 with | l3 => some l3)
theorem spec_l2Mixx_p  {a0 : Int} {s0 : List Int} {U0 : List Int} (H : spec_l2Mixx a0 s0 = some U0) : St Tryd.prog 62 [.hd 0 (s0.map (c_int .i64)).length 0 (s0.map (c_int .i64)).length, .int .i64 a0] [.arr .clo 1 (s0.map (c_int .i64))] (.tup []) [.arr .clo 1 (U0.map (c_int .i64))] := by
 refine CallT.fin (CallT.of_TN (n := 34) Tryd.func62 rfl rfl rfl rfl ?_) rfl rfl ⟨trivial, trivial⟩
 refine au 2 ?_
 refine TL.st rfl rfl rfl (o_sliceIm (rows := ([1103515245, 69069, 1664525, 22695477] : List Int).map (c_int .i64)) rfl rfl tyS_3 ⟨_, rfl, rfl⟩ (by decide) rfl rfl rfl rfl rfl rfl) ?_
 refine au 7 ?_
 obtain ⟨l3, h14, H⟩ := bind_s H
 refine T.lq (fun s => match s with | (l1, v2) => [(0, .hd 0 (l1.map (c_int .i64)).length 0 (l1.map (c_int .i64)).length), (1, .int .i64 a0), (4, .im false (([1103515245, 69069, 1664525, 22695477] : List Int).map (c_int .i64))), (5, .int .i64 v2)]) (fun s => match s with | (l1, v2) => [.arr .clo 1 (l1.map (c_int .i64))]) (fun q ex fr σ => match q with | l3 => ex = .exit 0 ∧ fr = [] ∧ σ = [.arr .clo 1 (l3.map (c_int .i64))]) h14 ?_ ?_
 ·rintro ⟨l1, v2⟩ y4 H
  refine au 6 ?_
  refine T.cH H (fun H h => ?_) (fun H h => ?_)
  ·refine au 3 ?_
   refine T.drawn rfl ?_
   refine ad 4 ?_
   obtain ⟨e5, h6, H⟩ := bind_s H
   refine TD.rs rfl rfl (o_ixh (f := c_int .i64) rfl rfl tyS_3 rfl rfl rfl rfl h6 rfl) ?_
   refine TD.rs rfl rfl (o_loadEl rfl tyS_3 rfl rfl rfl (by rw [List.getElem?_map, (idx_s h6).2]; rfl) (nb rfl) rfl) ?_
   refine ad 2 ?_
   obtain ⟨e7, h8, H⟩ := bind_s H
   refine TD.qs rfl rfl (fun _ => o_ix (f := c_int .i64) rfl rfl tyS_3 rfl rfl h8 rfl) ?_
   refine TD.qs rfl rfl (fun _ => o_loadRf rfl tyS_3 rfl (nb rfl) rfl) ?_
   refine ad 7 ?_
   refine TD.qs rfl rfl (fun _ => o_rem rfl rfl rfl (by decide)) ?_
   obtain ⟨e9, h10, H⟩ := bind_s H
   refine TD.rs rfl rfl (o_ixh (f := c_int .i64) rfl rfl tyS_3 rfl rfl rfl rfl h10 rfl) ?_
   refine TD.rs rfl rfl (o_loadEl rfl tyS_3 rfl rfl rfl (by rw [List.getElem?_map, (idx_s h10).2]; rfl) (nb rfl) rfl) ?_
   refine TD.qs rfl rfl (fun _ => o_ari rfl rfl rfl rfl) ?_
   refine TD.qs rfl rfl (fun _ => o_rem rfl rfl rfl (by decide)) ?_
   obtain ⟨e11, h12, H⟩ := bind_s H
   refine TD.rs rfl rfl (o_ixh (f := c_int .i64) rfl rfl tyS_3 rfl rfl rfl rfl h12 rfl) ?_
   refine TD.an rfl rfl (o_stEl (f := c_int .i64) (xs := l1) (k := v2) (a := e11) (Int.tmod (IntKind.i64.wrap ((IntKind.i64.wrap ((IntKind.i64.wrap ((IntKind.i64.wrap (e5 * e7)) + a0)) + 1)) + e9)) 2147483579) rfl tyS_3 rfl rfl rfl rfl (by decide) h12 rfl rfl rfl (fun _ => rfl) rfl) ?_
   refine TD.nil ⟨rfl, ?_⟩
   refine inB_normal (thn_normal ?_)
   refine T.conv (Cs.eqV (t := 0) (v' := .hd 0 ((l1.set (Int.toNat v2) (Int.tmod (IntKind.i64.wrap ((IntKind.i64.wrap ((IntKind.i64.wrap ((IntKind.i64.wrap (e5 * e7)) + a0)) + 1)) + e9)) 2147483579)).map (c_int .i64)).length 0 ((l1.set (Int.toNat v2) (Int.tmod (IntKind.i64.wrap ((IntKind.i64.wrap ((IntKind.i64.wrap ((IntKind.i64.wrap (e5 * e7)) + a0)) + 1)) + e9)) 2147483579)).map (c_int .i64)).length) rfl (hd_len _ (List.length_set ..))) ?_
   refine T.conv (Cs.eqV (t := 11) (v' := .hd 0 ((l1.set (Int.toNat v2) (Int.tmod (IntKind.i64.wrap ((IntKind.i64.wrap ((IntKind.i64.wrap ((IntKind.i64.wrap (e5 * e7)) + a0)) + 1)) + e9)) 2147483579)).map (c_int .i64)).length 0 ((l1.set (Int.toNat v2) (Int.tmod (IntKind.i64.wrap ((IntKind.i64.wrap ((IntKind.i64.wrap ((IntKind.i64.wrap (e5 * e7)) + a0)) + 1)) + e9)) 2147483579)).map (c_int .i64)).length) rfl (hd_len _ (List.length_set ..))) ?_
   refine T.conv (Cs.eqV (t := 13) (v' := .hd 0 ((l1.set (Int.toNat v2) (Int.tmod (IntKind.i64.wrap ((IntKind.i64.wrap ((IntKind.i64.wrap ((IntKind.i64.wrap (e5 * e7)) + a0)) + 1)) + e9)) 2147483579)).map (c_int .i64)).length 0 ((l1.set (Int.toNat v2) (Int.tmod (IntKind.i64.wrap ((IntKind.i64.wrap ((IntKind.i64.wrap ((IntKind.i64.wrap (e5 * e7)) + a0)) + 1)) + e9)) 2147483579)).map (c_int .i64)).length) rfl (hd_len _ (List.length_set ..))) ?_
   refine T.conv (Cs.eqV (t := 15) (v' := .el 0 ((l1.set (Int.toNat v2) (Int.tmod (IntKind.i64.wrap ((IntKind.i64.wrap ((IntKind.i64.wrap ((IntKind.i64.wrap (e5 * e7)) + a0)) + 1)) + e9)) 2147483579)).map (c_int .i64)).length (Int.toNat v2) 0) rfl (el_len _ _ _ (List.length_set ..))) ?_
   refine T.conv (Cs.eqV (t := 25) (v' := .hd 0 ((l1.set (Int.toNat v2) (Int.tmod (IntKind.i64.wrap ((IntKind.i64.wrap ((IntKind.i64.wrap ((IntKind.i64.wrap (e5 * e7)) + a0)) + 1)) + e9)) 2147483579)).map (c_int .i64)).length 0 ((l1.set (Int.toNat v2) (Int.tmod (IntKind.i64.wrap ((IntKind.i64.wrap ((IntKind.i64.wrap ((IntKind.i64.wrap (e5 * e7)) + a0)) + 1)) + e9)) 2147483579)).map (c_int .i64)).length) rfl (hd_len _ (List.length_set ..))) ?_
   refine T.conv (Cs.eqV (t := 33) (v' := .el 0 ((l1.set (Int.toNat v2) (Int.tmod (IntKind.i64.wrap ((IntKind.i64.wrap ((IntKind.i64.wrap ((IntKind.i64.wrap (e5 * e7)) + a0)) + 1)) + e9)) 2147483579)).map (c_int .i64)).length (Int.toNat v2) 0) rfl (el_len _ _ _ (List.length_set ..))) ?_
   refine au 5 ?_
   exact Pk.of (thn_normal ⟨((l1.set (Int.toNat v2) (Int.tmod (IntKind.i64.wrap ((IntKind.i64.wrap ((IntKind.i64.wrap ((IntKind.i64.wrap (e5 * e7)) + a0)) + 1)) + e9)) 2147483579)), (IntKind.i64.wrap (v2 + 1))), (some_i H).symm, rfl, rfl⟩)
  ·refine T.exit ?_
   refine thn_exit ?_
   exact Pk.of (thn_exit ⟨l1, (some_i H).symm, rfl, rfl, rfl⟩)
 ·rintro _ _ _ ⟨rfl, rfl, rfl⟩
  refine inB_here ?_
  cases some_i H
  exact ⟨trivial, _, .nil, ⟨rfl, _, rfl⟩⟩
theorem en_62 : En Tryd.prog 62 := .of Tryd.func62 rfl rfl
noncomputable def spec_l2Bytes_l1 (l1 : List Int) : (List Int × Int × Int) → Option ((List Int × Int × Int) ⊕ List Int) := fun s => match s with
  | (l3, v4, v5) => cond (decide (v5 < (l1.length : Int))) ((idx l3 v5).bind fun e8 => some (.inl ((l3.set (Int.toNat v5) (IntKind.u8.wrap (Int.tmod v4 256))), (IntKind.i64.wrap (Int.tdiv v4 256)), (IntKind.i64.wrap (v5 + 1))))) (some (.inr l3))
noncomputable def spec_l2Bytes (a0 : Int) : Option (List Int) :=
  (mk 0 4).bind fun l1 => (loopO (spec_l2Bytes_l1 l1) (l1, a0, 0)).bind fun l6 => (match l6 with | l6 => some l6)
theorem spec_l2Bytes_p  {a0 : Int} {R0 : (List Int)} (H : spec_l2Bytes a0 = some R0) : Pure Tryd.prog 63 [.int .i64 a0] (.im false (R0.map (c_int .u8))) := by
 refine CallT.of_TN (n := 21) Tryd.func63 rfl rfl rfl rfl ?_
 refine au 6 ?_
 obtain ⟨l1, h2, H⟩ := bind_s H
 refine TL.st rfl rfl rfl (o_mk (f := c_int .u8) (z := 0) rfl rfl tyE_5 ⟨_, rfl, rfl⟩ rfl rfl h2) ?_
 refine au 6 ?_
 refine TL.st rfl rfl rfl (o_lenOwn (f := c_int .u8) rfl rfl rfl rfl rfl) ?_
 refine au 3 ?_
 obtain ⟨l6, h11, H⟩ := bind_s H
 refine T.lq (fun s => match s with | (l3, v4, v5) => [(0, .int .i64 v4), (3, .hd 0 (l3.map (c_int .u8)).length 0 (l3.map (c_int .u8)).length), (7, .int .i64 (l1.length : Int)), (8, .int .i64 v5)]) (fun s => match s with | (l3, v4, v5) => [.arr .clo 1 (l3.map (c_int .u8))]) (fun q ex fr σ => match q with | l6 => ex = .exit 0 ∧ fr = [(3, .hd 0 (l6.map (c_int .u8)).length 0 (l6.map (c_int .u8)).length)] ∧ σ = [.arr .clo 1 (l6.map (c_int .u8))]) h11 ?_ ?_
 ·rintro ⟨l3, v4, v5⟩ y7 H
  refine au 5 ?_
  refine T.cH H (fun H h => ?_) (fun H h => ?_)
  ·refine au 13 ?_
   refine TL.st rfl rfl rfl (o_rem rfl rfl rfl (by decide)) ?_
   refine TL.st rfl rfl rfl (o_conv rfl rfl ⟨_, rfl⟩ rfl) ?_
   obtain ⟨e8, h9, H⟩ := bind_s H
   refine TL.st rfl rfl rfl (o_ixh (f := c_int .u8) rfl rfl tyS_5 rfl rfl rfl rfl h9 rfl) ?_
   refine TL.sn rfl rfl (o_stEl (f := c_int .u8) (xs := l3) (k := v5) (a := e8) (IntKind.u8.wrap (Int.tmod v4 256)) rfl tyS_5 rfl rfl rfl rfl (by decide) h9 rfl rfl rfl (fun _ => rfl) rfl) ?_
   refine TL.conv (Cs.eqV (t := 3) (v' := .hd 0 ((l3.set (Int.toNat v5) (IntKind.u8.wrap (Int.tmod v4 256))).map (c_int .u8)).length 0 ((l3.set (Int.toNat v5) (IntKind.u8.wrap (Int.tmod v4 256))).map (c_int .u8)).length) rfl (hd_len _ (List.length_set ..))) ?_
   refine TL.conv (Cs.eqV (t := 11) (v' := .hd 0 ((l3.set (Int.toNat v5) (IntKind.u8.wrap (Int.tmod v4 256))).map (c_int .u8)).length 0 ((l3.set (Int.toNat v5) (IntKind.u8.wrap (Int.tmod v4 256))).map (c_int .u8)).length) rfl (hd_len _ (List.length_set ..))) ?_
   refine TL.conv (Cs.eqV (t := 16) (v' := .el 0 ((l3.set (Int.toNat v5) (IntKind.u8.wrap (Int.tmod v4 256))).map (c_int .u8)).length (Int.toNat v5) 0) rfl (el_len _ _ _ (List.length_set ..))) ?_
   refine au 3 ?_
   refine TL.st rfl rfl rfl (o_quo rfl rfl rfl (by decide)) ?_
   refine au 6 ?_
   exact Pk.of (thn_normal ⟨((l3.set (Int.toNat v5) (IntKind.u8.wrap (Int.tmod v4 256))), (IntKind.i64.wrap (Int.tdiv v4 256)), (IntKind.i64.wrap (v5 + 1))), (some_i H).symm, rfl, rfl⟩)
  ·refine T.exit ?_
   refine thn_exit ?_
   exact Pk.of (thn_exit ⟨l3, (some_i H).symm, rfl, rfl, rfl⟩)
 ·rintro _ _ _ ⟨rfl, rfl, rfl⟩
  refine inB_here ?_
  refine au 6 ?_
  cases some_i H
  exact ⟨trivial, _, (.tmp _ _ _ _ rfl .nil), (.own rfl (by decide) rfl)⟩
theorem en_63 : En Tryd.prog 63 := .of Tryd.func63 rfl rfl
noncomputable def spec_l2Digest_l4 (l11 : List Int) : (List Int × Int) → Option ((List Int × Int) ⊕ List Int) := fun s => match s with
  | (l12, v13) => cond (decide (v13 < (l11.length : Int))) ((idx l11 v13).bind fun e16 => (spec_l2Bytes e16).bind fun r18 => (app l12 r18).bind fun l20 => some (.inl (l20, (IntKind.i64.wrap (v13 + 1))))) (some (.inr l12))
noncomputable def spec_l2Digest_l3  : (List Int × Int) → Option ((List Int × Int) ⊕ List Int) := fun s => match s with
  | (l9, v10) => cond (decide (v10 < 8)) ((spec_l2Mixx 0 l9).bind fun o25 => (lenEq o25 l9).bind fun u27 => some (.inl (o25, (IntKind.i64.wrap (v10 + 1))))) (some (.inr l9))
noncomputable def spec_l2Digest_l2 (r4 : (List Int)) : (List Int × Int) → Option ((List Int × Int) ⊕ List Int) := fun s => match s with
  | (l6, v7) => cond (decide (v7 < (r4.length : Int))) ((idx r4 v7).bind fun e32 => (spec_l2Mixx (IntKind.i64.wrap e32) l6).bind fun o34 => (lenEq o34 l6).bind fun u36 => some (.inl (o34, (IntKind.i64.wrap (v7 + 1))))) (some (.inr l6))
noncomputable def spec_l2Digest_l1 (a0 : (List Int)) : (List Int × Int) → Option ((List Int × Int) ⊕ List Int) := fun s => match s with
  | (l1, v2) => cond (decide (v2 < (a0.length : Int))) ((idx a0 v2).bind fun e41 => (spec_l2Mixx (IntKind.i64.wrap e41) l1).bind fun o43 => (lenEq o43 l1).bind fun u45 => some (.inl (o43, (IntKind.i64.wrap (v2 + 1))))) (some (.inr l1))
noncomputable def spec_l2Digest (a0 : (List Int)) : Option (List Int) :=
  (loopO (spec_l2Digest_l1 a0) (([11, 22, 33, 44] : List Int), 0)).bind fun l3 => (match l3 with | l3 => (spec_l2Bytes (a0.length : Int)).bind fun r4 => (loopO (spec_l2Digest_l2 r4) (l3, 0)).bind fun l8 => (match l8 with | l8 => (loopO (spec_l2Digest_l3) (l8, 0)).bind fun l11 => (match l11 with | l11 => (loopO (spec_l2Digest_l4 l11) (([] : List Int), 0)).bind fun l14 => (match l14 with | l14 => some l14))))
theorem spec_l2Digest_p (b0 : Bool) {a0 : (List Int)} {R0 : (List Int)} (H : spec_l2Digest a0 = some R0) : Pure Tryd.prog 57 [.im b0 (a0.map (c_int .u8))] (.im false (R0.map (c_int .u8))) := by
 refine CallT.of_TN (n := 55) Tryd.func57 rfl rfl rfl rfl ?_
 refine au 6 ?_
 refine TL.st rfl rfl rfl (o_sliceHd (rows := ([11, 22, 33, 44] : List Int).map (c_int .i64)) .clo rfl rfl tyS_3 ⟨_, rfl, rfl⟩ (by decide) rfl rfl rfl rfl (by decide) (fun _ => rfl) (by decide) rfl (by decide)) ?_
 refine au 6 ?_
 refine TL.st rfl rfl rfl (o_lenL (f := c_int .u8) rfl rfl rfl) ?_
 refine au 3 ?_
 obtain ⟨l3, h48, H⟩ := bind_s H
 refine T.lq (fun s => match s with | (l1, v2) => [(0, .im b0 (a0.map (c_int .u8))), (3, .hd 0 (l1.map (c_int .i64)).length 0 (l1.map (c_int .i64)).length), (13, .im b0 (a0.map (c_int .u8))), (14, .int .i64 (a0.length : Int)), (15, .int .i64 v2)]) (fun s => match s with | (l1, v2) => [.arr .clo 1 (l1.map (c_int .i64))]) (fun q ex fr σ => match q with | l3 => ex = .exit 0 ∧ fr = [(0, .im b0 (a0.map (c_int .u8))), (3, .hd 0 (l3.map (c_int .i64)).length 0 (l3.map (c_int .i64)).length)] ∧ σ = [.arr .clo 1 (l3.map (c_int .i64))]) h48 ?_ ?_
 ·rintro ⟨l1, v2⟩ y40 H
  refine au 5 ?_
  refine T.cH H (fun H h => ?_) (fun H h => ?_)
  ·refine au 5 ?_
   obtain ⟨e41, h42, H⟩ := bind_s H
   refine TL.st rfl rfl rfl (o_ix (f := c_int .u8) rfl rfl tyS_5 rfl rfl h42 rfl) ?_
   refine au 6 ?_
   refine TL.st rfl rfl rfl (o_conv rfl rfl ⟨_, rfl⟩ rfl) ?_
   obtain ⟨o43, h44, H⟩ := bind_s H
   obtain ⟨u45, h46, H⟩ := bind_s H
   refine TL.st rfl rfl rfl (o_callS [0] rfl en_62 rfl rfl (spec_l2Mixx_p  h44) rfl (by decide) (.cons _ _ _ _ rfl .nil) rfl rfl rfl) ?_
   refine TL.conv (Cs.eqV (t := 3) (v' := .hd 0 (o43.map (c_int .i64)).length 0 (o43.map (c_int .i64)).length) rfl (hd_len _ (lenEq_s h46))) ?_
   refine TL.conv (Cs.eqV (t := 19) (v' := .hd 0 (o43.map (c_int .i64)).length 0 (o43.map (c_int .i64)).length) rfl (hd_len _ (lenEq_s h46))) ?_
   refine au 5 ?_
   exact Pk.of (thn_normal ⟨(o43, (IntKind.i64.wrap (v2 + 1))), (some_i H).symm, rfl, rfl⟩)
  ·refine T.exit ?_
   refine thn_exit ?_
   exact Pk.of (thn_exit ⟨l1, (some_i H).symm, rfl, rfl, rfl⟩)
 ·rintro _ _ _ ⟨rfl, rfl, rfl⟩
  refine inB_here ?_
  refine au 4 ?_
  refine TL.st rfl rfl rfl (o_lenL (f := c_int .u8) rfl rfl rfl) ?_
  obtain ⟨r4, h5, H⟩ := bind_s H
  refine TL.st rfl rfl rfl (o_callP rfl en_63 rfl rfl (.cons _ _ _ _ (.cl _ rfl) .nil) (spec_l2Bytes_p  h5)) ?_
  refine TL.st rfl rfl rfl (o_lenL (f := c_int .u8) rfl rfl rfl) ?_
  refine au 3 ?_
  obtain ⟨l8, h39, H⟩ := bind_s H
  refine T.lq (fun s => match s with | (l6, v7) => [(3, .hd 0 (l6.map (c_int .i64)).length 0 (l6.map (c_int .i64)).length), (26, .im false (r4.map (c_int .u8))), (27, .int .i64 (r4.length : Int)), (28, .int .i64 v7)]) (fun s => match s with | (l6, v7) => [.arr .clo 1 (l6.map (c_int .i64))]) (fun q ex fr σ => match q with | l8 => ex = .exit 2 ∧ fr = [(3, .hd 0 (l8.map (c_int .i64)).length 0 (l8.map (c_int .i64)).length)] ∧ σ = [.arr .clo 1 (l8.map (c_int .i64))]) h39 ?_ ?_
  ·rintro ⟨l6, v7⟩ y31 H
   refine au 5 ?_
   refine T.cH H (fun H h => ?_) (fun H h => ?_)
   ·refine au 5 ?_
    obtain ⟨e32, h33, H⟩ := bind_s H
    refine TL.st rfl rfl rfl (o_ix (f := c_int .u8) rfl rfl tyS_5 rfl rfl h33 rfl) ?_
    refine au 6 ?_
    refine TL.st rfl rfl rfl (o_conv rfl rfl ⟨_, rfl⟩ rfl) ?_
    obtain ⟨o34, h35, H⟩ := bind_s H
    obtain ⟨u36, h37, H⟩ := bind_s H
    refine TL.st rfl rfl rfl (o_callS [0] rfl en_62 rfl rfl (spec_l2Mixx_p  h35) rfl (by decide) (.cons _ _ _ _ rfl .nil) rfl rfl rfl) ?_
    refine TL.conv (Cs.eqV (t := 3) (v' := .hd 0 (o34.map (c_int .i64)).length 0 (o34.map (c_int .i64)).length) rfl (hd_len _ (lenEq_s h37))) ?_
    refine TL.conv (Cs.eqV (t := 32) (v' := .hd 0 (o34.map (c_int .i64)).length 0 (o34.map (c_int .i64)).length) rfl (hd_len _ (lenEq_s h37))) ?_
    refine au 5 ?_
    exact Pk.of (thn_normal ⟨(o34, (IntKind.i64.wrap (v7 + 1))), (some_i H).symm, rfl, rfl⟩)
   ·refine T.exit ?_
    refine thn_exit ?_
    exact Pk.of (thn_exit ⟨l6, (some_i H).symm, rfl, rfl, rfl⟩)
  ·rintro _ _ _ ⟨rfl, rfl, rfl⟩
   refine inB_here ?_
   refine au 6 ?_
   obtain ⟨l11, h30, H⟩ := bind_s H
   refine T.lq (fun s => match s with | (l9, v10) => [(3, .hd 0 (l9.map (c_int .i64)).length 0 (l9.map (c_int .i64)).length), (8, .int .i64 v10)]) (fun s => match s with | (l9, v10) => [.arr .clo 1 (l9.map (c_int .i64))]) (fun q ex fr σ => match q with | l11 => ex = .exit 4 ∧ fr = [(3, .hd 0 (l11.map (c_int .i64)).length 0 (l11.map (c_int .i64)).length)] ∧ σ = [.arr .clo 1 (l11.map (c_int .i64))]) h30 ?_ ?_
   ·rintro ⟨l9, v10⟩ y24 H
    refine au 6 ?_
    refine T.cH H (fun H h => ?_) (fun H h => ?_)
    ·refine au 5 ?_
     obtain ⟨o25, h26, H⟩ := bind_s H
     obtain ⟨u27, h28, H⟩ := bind_s H
     refine TL.st rfl rfl rfl (o_callS [0] rfl en_62 rfl rfl (spec_l2Mixx_p  h26) rfl (by decide) (.cons _ _ _ _ rfl .nil) rfl rfl rfl) ?_
     refine TL.conv (Cs.eqV (t := 3) (v' := .hd 0 (o25.map (c_int .i64)).length 0 (o25.map (c_int .i64)).length) rfl (hd_len _ (lenEq_s h28))) ?_
     refine TL.conv (Cs.eqV (t := 41) (v' := .hd 0 (o25.map (c_int .i64)).length 0 (o25.map (c_int .i64)).length) rfl (hd_len _ (lenEq_s h28))) ?_
     refine au 6 ?_
     exact Pk.of (thn_normal ⟨(o25, (IntKind.i64.wrap (v10 + 1))), (some_i H).symm, rfl, rfl⟩)
    ·refine T.exit ?_
     refine thn_exit ?_
     exact Pk.of (thn_exit ⟨l9, (some_i H).symm, rfl, rfl, rfl⟩)
   ·rintro _ _ _ ⟨rfl, rfl, rfl⟩
    refine inB_here ?_
    refine au 8 ?_
    refine TL.st rfl rfl rfl (o_lenOwn (f := c_int .i64) rfl rfl rfl rfl rfl) ?_
    refine au 3 ?_
    refine T.conv (Cs.own (t := 9) 1 rfl (by decide)) ?_
    obtain ⟨l14, h23, H⟩ := bind_s H
    refine T.lq (fun s => match s with | (l12, v13) => [(9, .hd 1 (l12.map (c_int .u8)).length 0 (l12.map (c_int .u8)).length), (43, .hd 0 (l11.map (c_int .i64)).length 0 (l11.map (c_int .i64)).length), (44, .int .i64 (l11.length : Int)), (45, .int .i64 v13)]) (fun s => match s with | (l12, v13) => [.arr .clo 1 (l11.map (c_int .i64)), .arr .clo 1 (l12.map (c_int .u8))]) (fun q ex fr σ => match q with | l14 => ex = .exit 6 ∧ fr = [(9, .hd 1 (l14.map (c_int .u8)).length 0 (l14.map (c_int .u8)).length)] ∧ σ = [.arr .clo 1 (l11.map (c_int .i64)), .arr .clo 1 (l14.map (c_int .u8))]) h23 ?_ ?_
    ·rintro ⟨l12, v13⟩ y15 H
     refine au 5 ?_
     refine T.cH H (fun H h => ?_) (fun H h => ?_)
     ·refine au 5 ?_
      obtain ⟨e16, h17, H⟩ := bind_s H
      refine TL.st rfl rfl rfl (o_ixh (f := c_int .i64) rfl rfl tyS_3 rfl rfl rfl rfl h17 rfl) ?_
      refine TL.st rfl rfl rfl (o_loadEl rfl tyS_3 rfl rfl rfl (by rw [List.getElem?_map, (idx_s h17).2]; rfl) (nb rfl) rfl) ?_
      refine au 5 ?_
      obtain ⟨r18, h19, H⟩ := bind_s H
      refine TL.st rfl rfl rfl (o_callP rfl en_63 rfl rfl (.cons _ _ _ _ (.cl _ rfl) .nil) (spec_l2Bytes_p  h19)) ?_
      obtain ⟨l20, h21, H⟩ := bind_s H
      refine TL.st rfl rfl rfl (o_ap (f := c_int .u8) (xs := l12) (ys := r18) rfl rfl tyE_5 rfl rfl rfl rfl (by decide) rfl (fun _ => rfl) h21) ?_
      refine au 6 ?_
      exact Pk.of (thn_normal ⟨(l20, (IntKind.i64.wrap (v13 + 1))), (some_i H).symm, rfl, rfl⟩)
     ·refine T.exit ?_
      refine thn_exit ?_
      exact Pk.of (thn_exit ⟨l12, (some_i H).symm, rfl, rfl, rfl⟩)
    ·rintro _ _ _ ⟨rfl, rfl, rfl⟩
     refine inB_here ?_
     refine au 6 ?_
     cases some_i H
     exact ⟨trivial, _, (.tmp _ _ _ _ rfl .nil), (.own rfl (by decide) rfl)⟩
theorem en_57 : En Tryd.prog 57 := .of Tryd.func57 rfl rfl
noncomputable def spec_l2Two (a0 : (List Int)) (a1 : (List Int)) : Option (List Int) :=
  (app ([] : List Int) a0).bind fun l1 => (app l1 a1).bind fun l3 => (spec_l2Digest l3).bind fun r5 => some r5
theorem spec_l2Two_p (b0 : Bool) (b1 : Bool) {a0 : (List Int)} {a1 : (List Int)} {R0 : (List Int)} (H : spec_l2Two a0 a1 = some R0) : Pure Tryd.prog 56 [.im b0 (a0.map (c_int .u8)), .im b1 (a1.map (c_int .u8))] (.im false (R0.map (c_int .u8))) := by
 refine CallT.of_TN (n := 12) Tryd.func56 rfl rfl rfl rfl ?_
 refine au 12 ?_
 refine TL.conv (Cs.own (t := 6) 1 rfl (by decide)) ?_
 obtain ⟨l1, h2, H⟩ := bind_s H
 refine TL.st rfl rfl rfl (o_ap (f := c_int .u8) (xs := ([] : List Int)) (ys := a0) rfl rfl tyE_5 rfl rfl rfl rfl (by decide) rfl (fun _ => rfl) h2) ?_
 refine TL.st rfl rfl rfl (o_move rfl rfl) ?_
 obtain ⟨l3, h4, H⟩ := bind_s H
 refine TL.st rfl rfl rfl (o_ap (f := c_int .u8) (xs := l1) (ys := a1) rfl rfl tyE_5 rfl rfl rfl rfl (by decide) rfl (fun _ => rfl) h4) ?_
 obtain ⟨r5, h6, H⟩ := bind_s H
 refine TL.st rfl rfl rfl (o_callP rfl en_57 rfl rfl (.cons _ _ _ _ (.own rfl (by decide) rfl) .nil) (spec_l2Digest_p true h6)) ?_
 refine au 3 ?_
 cases some_i H
 exact ⟨trivial, _, (.tmp _ _ _ _ rfl .nil), (.cl _ rfl)⟩
theorem en_56 : En Tryd.prog 56 := .of Tryd.func56 rfl rfl
noncomputable def spec_l2Mac (a0 : (List Int)) (a1 : (List Int)) : Option (List Int) :=
  (spec_l2Digest a0).bind fun r1 => (spec_l2Digest a1).bind fun r3 => (spec_l2Two r1 r3).bind fun r5 => some r5
theorem spec_l2Mac_p (b0 : Bool) (b1 : Bool) {a0 : (List Int)} {a1 : (List Int)} {R0 : (List Int)} (H : spec_l2Mac a0 a1 = some R0) : Pure Tryd.prog 49 [.im b0 (a0.map (c_int .u8)), .im b1 (a1.map (c_int .u8))] (.im false (R0.map (c_int .u8))) := by
 refine CallT.of_TN (n := 10) Tryd.func49 rfl rfl rfl rfl ?_
 refine au 7 ?_
 obtain ⟨r1, h2, H⟩ := bind_s H
 refine TL.st rfl rfl rfl (o_callP rfl en_57 rfl rfl (.cons _ _ _ _ (.imv _ _) .nil) (spec_l2Digest_p b0 h2)) ?_
 refine TL.st rfl rfl rfl (o_move rfl rfl) ?_
 obtain ⟨r3, h4, H⟩ := bind_s H
 refine TL.st rfl rfl rfl (o_callP rfl en_57 rfl rfl (.cons _ _ _ _ (.imv _ _) .nil) (spec_l2Digest_p b1 h4)) ?_
 obtain ⟨r5, h6, H⟩ := bind_s H
 refine TL.st rfl rfl rfl (o_callP rfl en_56 rfl rfl (.cons _ _ _ _ (.cl _ rfl) (.cons _ _ _ _ (.cl _ rfl) .nil)) (spec_l2Two_p false false h6)) ?_
 refine au 3 ?_
 cases some_i H
 exact ⟨trivial, _, (.tmp _ _ _ _ rfl .nil), (.cl _ rfl)⟩
theorem en_49 : En Tryd.prog 49 := .of Tryd.func49 rfl rfl
noncomputable def spec_l2Letters  : Option ByteArray :=
  some (ByteArray.mk #[48, 49, 50, 51, 52, 53, 54, 55, 56, 57, 97, 98, 99, 100, 101, 102, 103, 104, 105, 106, 107, 108, 109, 110, 111, 112, 113, 114, 115, 116, 117, 118])
theorem spec_l2Letters_p   {R0 : ByteArray} (H : spec_l2Letters = some R0) : Pure Tryd.prog 55 [] (.str R0) := by
 refine CallT.of_TN (n := 1) Tryd.func55 rfl rfl rfl rfl ?_
 refine au 9 ?_
 cases some_i H
 exact ⟨trivial, _, (.tmp _ _ _ _ rfl .nil), (.cl _ rfl)⟩
theorem en_55 : En Tryd.prog 55 := .of Tryd.func55 rfl rfl
noncomputable def spec_l2Armor_j1 (v6 : Int) (v15 : Int) : Option ((Int × Int) ⊕ Int) :=
  some (.inl (v15, (IntKind.i64.wrap (v6 + 1))))
noncomputable def spec_l2Armor_l2 (a0 : (List Int)) (v2 : Int) : (Int × Int) → Option ((Int × Int) ⊕ Int) := fun s => match s with
  | (v5, v6) => cond (decide (v6 < (IntKind.i64.wrap (v2 + 5)))) (cond (decide (v6 < (IntKind.i64.wrap ((a0.length : Int) * 8)))) ((idx a0 (IntKind.i64.wrap (Int.tdiv v6 8))).bind fun e16 => (nn (IntKind.u64.wrap (IntKind.i64.wrap (7 - (Int.tmod v6 8))))).bind fun u18 => spec_l2Armor_j1 v6 (IntKind.i64.wrap ((IntKind.i64.wrap (v5 * 2)) + (IntKind.i64.wrap (BitVec.ofInt IntKind.i64.bits (Int.fdiv (IntKind.i64.wrap e16) (2 ^ (min (Int.toNat (IntKind.u64.wrap (IntKind.i64.wrap (7 - (Int.tmod v6 8))))) IntKind.i64.bits))) &&& BitVec.ofInt IntKind.i64.bits 1).toNat)))) (spec_l2Armor_j1 v6 (IntKind.i64.wrap (v5 * 2)))) (some (.inr v5))
noncomputable def spec_l2Armor_l1 (a0 : (List Int)) : (List Int × Int) → Option ((List Int × Int) ⊕ List Int) := fun s => match s with
  | (l1, v2) => cond (decide (v2 < (IntKind.i64.wrap ((a0.length : Int) * 8)))) ((loopO (spec_l2Armor_l2 a0 v2) (0, v2)).bind fun v7 => (match v7 with | v7 => (spec_l2Letters).bind fun r8 => (idxS r8 v7).bind fun b10 => (app l1 ([b10] : List Int)).bind fun l12 => some (.inl (l12, (IntKind.i64.wrap (v2 + 5)))))) (some (.inr l1))
noncomputable def spec_l2Armor (a0 : (List Int)) : Option ByteArray :=
  (loopO (spec_l2Armor_l1 a0) (([] : List Int), 0)).bind fun l3 => (match l3 with | l3 => some (byS l3))
theorem spec_l2Armor_p (b0 : Bool) {a0 : (List Int)} {R0 : ByteArray} (H : spec_l2Armor a0 = some R0) : Pure Tryd.prog 48 [.im b0 (a0.map (c_int .u8))] (.str R0) := by
 refine CallT.of_TN (n := 50) Tryd.func48 rfl rfl rfl rfl ?_
 refine au 14 ?_
 refine T.conv (Cs.own (t := 3) 1 rfl (by decide)) ?_
 obtain ⟨l3, h23, H⟩ := bind_s H
 refine T.lq (fun s => match s with | (l1, v2) => [(0, .im b0 (a0.map (c_int .u8))), (3, .hd 0 (l1.map (c_int .u8)).length 0 (l1.map (c_int .u8)).length), (4, .int .i64 v2)]) (fun s => match s with | (l1, v2) => [.arr .clo 1 (l1.map (c_int .u8))]) (fun q ex fr σ => match q with | l3 => ex = .exit 0 ∧ fr = [(3, .hd 0 (l3.map (c_int .u8)).length 0 (l3.map (c_int .u8)).length)] ∧ σ = [.arr .clo 1 (l3.map (c_int .u8))]) h23 ?_ ?_
 ·rintro ⟨l1, v2⟩ y4 H
  refine au 5 ?_
  refine TL.st rfl rfl rfl (o_lenL (f := c_int .u8) rfl rfl rfl) ?_
  refine au 3 ?_
  refine T.cH H (fun H h => ?_) (fun H h => ?_)
  ·refine au 14 ?_
   obtain ⟨v7, h21, H⟩ := bind_s H
   refine T.lq (fun s => match s with | (v5, v6) => [(0, .im b0 (a0.map (c_int .u8))), (3, .hd 0 (l1.map (c_int .u8)).length 0 (l1.map (c_int .u8)).length), (4, .int .i64 v2), (5, .int .i64 v5), (6, .int .i64 v6)]) (fun s => match s with | (v5, v6) => [.arr .clo 1 (l1.map (c_int .u8))]) (fun q ex fr σ => match q with | v7 => ex = .exit 2 ∧ fr = [(0, .im b0 (a0.map (c_int .u8))), (3, .hd 0 (l1.map (c_int .u8)).length 0 (l1.map (c_int .u8)).length), (4, .int .i64 v2), (5, .int .i64 v7)] ∧ σ = [.arr .clo 1 (l1.map (c_int .u8))]) h21 ?_ ?_
   ·rintro ⟨v5, v6⟩ y14 H
    refine au 8 ?_
    refine T.cH H (fun H h => ?_) (fun H h => ?_)
    ·refine T.skip ?_
     refine T.cut (fun fr' σ' => ∃ (v15 : Int), fr' = [(0, .im b0 (a0.map (c_int .u8))), (3, .hd 0 (l1.map (c_int .u8)).length 0 (l1.map (c_int .u8)).length), (4, .int .i64 v2), (5, .int .i64 v15), (6, .int .i64 v6)] ∧ σ' = [.arr .clo 1 (l1.map (c_int .u8))] ∧ spec_l2Armor_j1 v6 v15 = some y14) (T.pk ?_) ?_
     ·skip
      refine au 11 ?_
      refine TL.st rfl rfl rfl (o_lenL (f := c_int .u8) rfl rfl rfl) ?_
      refine au 3 ?_
      refine T.cH H (fun H h => ?_) (fun H h => ?_)
      ·refine au 4 ?_
       refine TL.st rfl rfl rfl (o_quo rfl rfl rfl (by decide)) ?_
       obtain ⟨e16, h17, H⟩ := bind_s H
       refine TL.st rfl rfl rfl (o_ix (f := c_int .u8) rfl rfl tyS_5 rfl rfl h17 rfl) ?_
       refine TL.st rfl rfl rfl (o_loadRf rfl tyS_5 rfl (nb rfl) rfl) ?_
       refine TL.st rfl rfl rfl (o_conv rfl rfl ⟨_, rfl⟩ rfl) ?_
       refine TL.st rfl rfl rfl (o_move rfl rfl) ?_
       refine TL.st rfl rfl rfl (o_rem rfl rfl rfl (by decide)) ?_
       refine TL.st rfl rfl rfl (o_ari rfl rfl rfl rfl) ?_
       refine TL.st rfl rfl rfl (o_conv rfl rfl ⟨_, rfl⟩ rfl) ?_
       obtain ⟨u18, h19, H⟩ := bind_s H
       refine TL.st rfl rfl rfl (o_shr rfl rfl rfl (nn_s h19)) ?_
       refine TL.st rfl rfl rfl (o_bits rfl rfl rfl rfl) ?_
       refine au 3 ?_
       refine inB_normal ?_
       exact Pk.of (thn_normal ⟨(IntKind.i64.wrap ((IntKind.i64.wrap (v5 * 2)) + (IntKind.i64.wrap (BitVec.ofInt IntKind.i64.bits (Int.fdiv (IntKind.i64.wrap e16) (2 ^ (min (Int.toNat (IntKind.u64.wrap (IntKind.i64.wrap (7 - (Int.tmod v6 8))))) IntKind.i64.bits))) &&& BitVec.ofInt IntKind.i64.bits 1).toNat))), rfl, rfl, H⟩)
      ·refine T.skip ?_
       refine inB_normal ?_
       exact Pk.of (thn_normal ⟨(IntKind.i64.wrap (v5 * 2)), rfl, rfl, H⟩)
     ·rintro _ _ ⟨v15, rfl, rfl, H⟩
      refine au 5 ?_
      exact Pk.of (thn_normal ⟨(v15, (IntKind.i64.wrap (v6 + 1))), (some_i H).symm, rfl, rfl⟩)
    ·refine T.exit ?_
     refine thn_exit ?_
     exact Pk.of (thn_exit ⟨v5, (some_i H).symm, rfl, rfl, rfl⟩)
   ·rintro _ _ _ ⟨rfl, rfl, rfl⟩
    refine inB_here ?_
    refine au 2 ?_
    obtain ⟨r8, h9, H⟩ := bind_s H
    refine TL.st rfl rfl rfl (o_callP rfl en_55 rfl rfl .nil (spec_l2Letters_p  h9)) ?_
    refine TL.st rfl rfl rfl (o_move rfl rfl) ?_
    obtain ⟨b10, h11, H⟩ := bind_s H
    refine TL.st rfl rfl rfl (o_ixs rfl rfl rfl rfl h11) ?_
    refine TL.st rfl rfl rfl (o_sliceIm (rows := ([b10] : List Int).map (c_int .u8)) rfl rfl tyS_5 ⟨_, rfl, rfl⟩ (by decide) rfl rfl rfl rfl rfl rfl) ?_
    obtain ⟨l12, h13, H⟩ := bind_s H
    refine TL.st rfl rfl rfl (o_ap (f := c_int .u8) (xs := l1) (ys := ([b10] : List Int)) rfl rfl tyE_5 rfl rfl rfl rfl (by decide) rfl (fun _ => rfl) h13) ?_
    refine au 7 ?_
    exact Pk.of (thn_normal ⟨(l12, (IntKind.i64.wrap (v2 + 5))), (some_i H).symm, rfl, rfl⟩)
  ·refine T.exit ?_
   refine thn_exit ?_
   exact Pk.of (thn_exit ⟨l1, (some_i H).symm, rfl, rfl, rfl⟩)
 ·rintro _ _ _ ⟨rfl, rfl, rfl⟩
  refine inB_here ?_
  refine au 3 ?_
  refine TL.st rfl rfl rfl (o_bsOwn (f := c_int .u8) rfl rfl rfl rfl (fun _ => rfl) rfl rfl rfl) ?_
  refine au 3 ?_
  cases some_i H
  exact ⟨trivial, _, (.tmp _ _ _ _ rfl .nil), (.cl _ rfl)⟩
theorem en_48 : En Tryd.prog 48 := .of Tryd.func48 rfl rfl
noncomputable def spec_l18Handle (a0 : (List Int)) (a1 : ByteArray) (a2 : Int) : Option ByteArray :=
  (spec_l1Num a2).bind fun r1 => (cat a1 r1).bind fun s3 => (cat s3 (ByteArray.mk #[45])).bind fun s5 => (spec_l2Mac a0 (bys s3)).bind fun r7 => (sub r7 0 10).bind fun l9 => (spec_l2Armor l9).bind fun r11 => (cat s5 r11).bind fun s13 => some s13
theorem spec_l18Handle_p (b0 : Bool) {a0 : (List Int)} {a1 : ByteArray} {a2 : Int} {R0 : ByteArray} (H : spec_l18Handle a0 a1 a2 = some R0) : Pure Tryd.prog 40 [.im b0 (a0.map (c_int .u8)), .str a1, .int .i64 a2] (.str R0) := by
 refine CallT.of_TN (n := 21) Tryd.func40 rfl rfl rfl rfl ?_
 refine au 8 ?_
 obtain ⟨r1, h2, H⟩ := bind_s H
 refine TL.st rfl rfl rfl (o_callP rfl en_47 rfl rfl (.cons _ _ _ _ (.cl _ rfl) .nil) (spec_l1Num_p  h2)) ?_
 obtain ⟨s3, h4, H⟩ := bind_s H
 refine TL.st rfl rfl rfl (o_ct rfl rfl rfl h4) ?_
 refine au 5 ?_
 obtain ⟨s5, h6, H⟩ := bind_s H
 refine TL.st rfl rfl rfl (o_ct rfl rfl rfl h6) ?_
 refine au 2 ?_
 refine TL.st rfl rfl rfl (o_sb (f := c_int .u8) rfl rfl rfl rfl (fun _ => rfl) rfl) ?_
 obtain ⟨r7, h8, H⟩ := bind_s H
 refine TL.st rfl rfl rfl (o_callP rfl en_49 rfl rfl (.cons _ _ _ _ (.imv _ _) (.cons _ _ _ _ (.cl _ rfl) .nil)) (spec_l2Mac_p b0 false h8)) ?_
 obtain ⟨l9, h10, H⟩ := bind_s H
 refine TL.st rfl rfl rfl (o_subL (f := c_int .u8) (xs := r7) rfl rfl tyS_5 rfl rfl rfl (fun _ => rfl) h10) ?_
 obtain ⟨r11, h12, H⟩ := bind_s H
 refine TL.st rfl rfl rfl (o_callP rfl en_48 rfl rfl (.cons _ _ _ _ (.cl _ rfl) .nil) (spec_l2Armor_p false h12)) ?_
 obtain ⟨s13, h14, H⟩ := bind_s H
 refine TL.st rfl rfl rfl (o_ct rfl rfl rfl h14) ?_
 refine au 3 ?_
 cases some_i H
 exact ⟨trivial, _, (.tmp _ _ _ _ rfl .nil), (.cl _ rfl)⟩
theorem en_40 : En Tryd.prog 40 := .of Tryd.func40 rfl rfl
noncomputable def spec_l19S_id (s0 : T_spec_l19S) (s2 : List (Option (List ByteArray))) : Option (ByteArray × T_spec_l19S) :=
  (spec_l18Handle s0.c_.Key_ (ByteArray.mk #[115, 101, 115, 115]) (IntKind.i64.wrap (s0.given_ + 1))).bind fun r1 => some (r1, ({ s0 with given_ := (IntKind.i64.wrap (s0.given_ + 1)) } : T_spec_l19S))
theorem spec_l19S_id_p (c0 : Bool) {s0 : T_spec_l19S} {s2 : List (Option (List ByteArray))} {R0 : ByteArray} {U0 : T_spec_l19S} (H : spec_l19S_id s0 s2 = some (R0, U0)) : St Tryd.prog 32 [.bx 0 0] [.box (k_spec_l19S 1 2 c0 s0), .arr .raw 7 (s0.list_.map (c_T_spec_l19X 2 false)), .afm 1 (s2.map (c_ax (c_str)))] (.str R0) [.box (k_spec_l19S 1 2 c0 (⟨U0.c_, U0.now_, U0.given_, U0.list_⟩ : T_spec_l19S)), .arr .raw 7 (U0.list_.map (c_T_spec_l19X 2 false)), .afm 1 (s2.map (c_ax (c_str)))] := by
 refine CallT.fin (CallT.of_TN (n := 20) Tryd.func32 rfl rfl rfl rfl ?_) rfl rfl ⟨(bels_iff.1 rfl), ⟨(belRaw fun _ => rfl), ⟨trivial, trivial⟩⟩⟩
 refine au 16 ?_
 refine T.drawn rfl ?_
 refine ad 9 ?_
 obtain ⟨r1, h2, H⟩ := bind_s H
 refine TD.qs rfl rfl (fun _ => o_callP rfl en_40 rfl rfl (.cons _ _ _ _ (.imv _ _) (.cons _ _ _ _ (.cl _ rfl) (.cons _ _ _ _ (.cl _ rfl) .nil))) (spec_l18Handle_p c0 h2)) ?_
 refine TD.qs rfl rfl (fun _ => o_assign rfl rfl) ?_
 refine TD.nil ⟨rfl, ?_⟩
 refine T.ret ?_
 cases some_i H
 exact ⟨trivial, _, (.tmp _ _ _ _ rfl .nil), ⟨rfl, _, rfl⟩⟩
theorem en_32 : En Tryd.prog 32 := .of Tryd.func32 rfl rfl
theorem tyS_65 : TyS Tryd.prog 65 true 7 := ⟨rfl, rfl⟩
theorem tyS_61 : TyS Tryd.prog 61 false 1 := ⟨rfl, rfl⟩
theorem tyE_65 : TyE Tryd.prog 65 7 := ⟨_, _, rfl, rfl, rfl, rfl, by decide, by decide⟩
theorem tyS_56 : TyS Tryd.prog 56 false 1 := ⟨rfl, rfl⟩
noncomputable def spec_l19Told (a0 : T_spec_l19X) (s0 : List (Option (List ByteArray))) : Option T_impl_SessReply :=
  (axg s0 a0.ids_).bind fun x1 => (idx x1 (IntKind.i64.wrap ((x1.length : Int) - 1))).bind fun e3 => some (⟨0, e3, a0.user_, a0.level_⟩ : T_impl_SessReply)
theorem spec_l19Told_p  {a0 : T_spec_l19X} {s0 : List (Option (List ByteArray))} {R0 : T_impl_SessReply} (H : spec_l19Told a0 s0 = some R0) : St Tryd.prog 20 [.agg (c_T_spec_l19X 0 false a0)] [.afm 1 (s0.map (c_ax (c_str)))] (.agg (c_T_impl_SessReply false R0)) [.afm 1 (s0.map (c_ax (c_str)))] := by
 refine CallT.fin (CallT.of_TN (n := 16) Tryd.func20 rfl rfl rfl rfl ?_) rfl rfl ⟨trivial, trivial⟩
 refine au 6 ?_
 refine T.drawn rfl ?_
 refine ad 4 ?_
 obtain ⟨x1, h2, H⟩ := bind_s H
 refine TD.rs rfl rfl (o_lenX (f := c_str) (L := s0) (xs := x1) rfl rfl rfl rfl h2) ?_
 refine TD.qs rfl rfl (fun _ => o_ari rfl rfl rfl rfl) ?_
 obtain ⟨e3, h4, H⟩ := bind_s H
 refine TD.rs rfl rfl (o_ixX (f := c_str) (L := s0) (xs := x1) rfl rfl tyS_9 rfl rfl rfl h2 h4) ?_
 refine TD.rs rfl rfl (o_loadX (f := c_str) (L := s0) (xs := x1) (a0 := e3) rfl tyS_9 rfl rfl h2 h4 (nb rfl) rfl) ?_
 refine ad 4 ?_
 refine TD.qs rfl rfl (fun _ => o_build rfl ⟨_, fun _ => rfl, rfl⟩ rfl rfl rfl) ?_
 refine TD.an rfl rfl (o_storeBx rfl tyS_31 rfl rfl rfl rfl (nb rfl) rfl) ?_
 refine TD.nil ⟨rfl, ?_⟩
 refine thn_normal ?_
 refine T.conv (Cs.eqS (σ' := [_, .box (c_T_spec_l19X 0 false a0), .box [.int .i64 0, .str e3, .str a0.user_, .int .i64 a0.level_]]) rfl) ?_
 refine T.ret ?_
 cases some_i H
 exact ⟨trivial, _, (.cell _ _ _ _ _ _ _ _ _ _ rfl rfl tyS_31 (nb rfl) rfl .nil), ⟨rfl, _, rfl⟩⟩
theorem en_20 : En Tryd.prog 20 := .of Tryd.func20 rfl rfl
theorem tyS_4 : TyS Tryd.prog 4 false 1 := ⟨rfl, rfl⟩
noncomputable def spec_l3Has_l1 (a0 : (List ByteArray)) (a1 : ByteArray) : Int → Option (Int ⊕ (Unit ⊕ Bool)) := fun s => match s with
  | v1 => cond (decide (v1 < (a0.length : Int))) ((idx a0 v1).bind fun e4 => cond (e4.toList == a1.toList) (some (.inr (.inr true))) (some (.inl (IntKind.i64.wrap (v1 + 1))))) (some (.inr (.inl ())))
noncomputable def spec_l3Has (a0 : (List ByteArray)) (a1 : ByteArray) : Option Bool :=
  (loopO (spec_l3Has_l1 a0 a1) 0).bind fun q6 => (match q6 with | .inl _ => some false | .inr q2 => some q2)
theorem spec_l3Has_p (b0 : Bool) {a0 : (List ByteArray)} {a1 : ByteArray} {R0 : Bool} (H : spec_l3Has a0 a1 = some R0) : Pure Tryd.prog 26 [.im b0 (a0.map (c_str)), .str a1] (.bool R0) := by
 refine CallT.of_TN (n := 17) Tryd.func26 rfl rfl rfl rfl ?_
 refine au 8 ?_
 refine TL.st rfl rfl rfl (o_lenL (f := c_str) rfl rfl rfl) ?_
 refine au 3 ?_
 obtain ⟨q6, h7, H⟩ := bind_s H
 refine T.lq (fun s => match s with | v1 => [(1, .str a1), (7, .im b0 (a0.map (c_str))), (8, .int .i64 (a0.length : Int)), (9, .int .i64 v1)]) (fun s => match s with | v1 => []) (fun q ex fr σ => match q with | .inl _ => ex = .exit 0 ∧ fr = [] ∧ σ = [] | .inr q2 => ex = .ret ∧ RetN Tryd.prog [.tmp 4] (fun v τ => Told τ v (.bool q2)) .ret fr σ) h7 ?_ ?_
 ·rintro v1 y3 H
  refine au 5 ?_
  refine T.cH H (fun H h => ?_) (fun H h => ?_)
  ·refine au 5 ?_
   obtain ⟨e4, h5, H⟩ := bind_s H
   refine TL.st rfl rfl rfl (o_ix (f := c_str) rfl rfl tyS_9 rfl rfl h5 rfl) ?_
   refine au 9 ?_
   refine T.cH H (fun H h => ?_) (fun H h => ?_)
   ·refine au 5 ?_
    refine inB_ret (thn_ret ?_)
    exact Pk.id (thn_ret ⟨.inr true, (some_i H).symm, rfl, ⟨trivial, _, (.tmp _ _ _ _ rfl .nil), (.cl _ rfl)⟩⟩)
   ·refine au 5 ?_
    exact Pk.of (thn_normal ⟨(IntKind.i64.wrap (v1 + 1)), (some_i H).symm, rfl, rfl⟩)
  ·refine T.exit ?_
   refine thn_exit ?_
   exact Pk.of (thn_exit ⟨.inl (), (some_i H).symm, rfl, rfl, rfl⟩)
 ·rcases q6 with ⟨⟩ | q2
  ·rintro _ _ _ ⟨rfl, rfl, rfl⟩
   refine inB_here ?_
   refine au 5 ?_
   cases some_i H
   exact ⟨trivial, _, (.tmp _ _ _ _ rfl .nil), (.cl _ rfl)⟩
  ·rintro _ fr1 σ1 ⟨rfl, hr⟩
   refine inB_ret (thn_ret ?_)
   cases some_i H
   exact hr
theorem en_26 : En Tryd.prog 26 := .of Tryd.func26 rfl rfl
noncomputable def spec_l19S_over (a0 : T_spec_l19X) (a1 : Int) (s0 : T_spec_l19S) (s2 : List (Option (List ByteArray))) : Option Bool :=
  some (decide (a1 > (IntKind.i64.wrap (a0.last_ + s0.c_.Idle_))) || decide (a1 > (IntKind.i64.wrap (a0.login_ + s0.c_.Most_))))
theorem spec_l19S_over_p (c0 : Bool) {a0 : T_spec_l19X} {a1 : Int} {s0 : T_spec_l19S} {s2 : List (Option (List ByteArray))} {R0 : Bool} (H : spec_l19S_over a0 a1 s0 s2 = some R0) : St Tryd.prog 19 [.bx 0 0, .agg (c_T_spec_l19X 2 false a0), .int .i64 a1] [.box (k_spec_l19S 1 2 c0 s0), .arr .raw 7 (s0.list_.map (c_T_spec_l19X 2 false)), .afm 1 (s2.map (c_ax (c_str)))] (.bool R0) [.box (k_spec_l19S 1 2 c0 s0), .arr .raw 7 (s0.list_.map (c_T_spec_l19X 2 false)), .afm 1 (s2.map (c_ax (c_str)))] := by
 refine CallT.fin (CallT.of_TN (n := 29) Tryd.func19 rfl rfl rfl rfl ?_) rfl rfl ⟨(bels_iff.1 rfl), ⟨(belRaw fun _ => rfl), ⟨trivial, trivial⟩⟩⟩
 refine au 6 ?_
 refine T.drawn rfl ?_
 refine ad 15 ?_
 refine TD.cq rfl rfl rfl (.bool _) rfl (fun h _ => o_nilCheck rfl (gv h rfl) rfl) ?_
 refine TD.cr rfl rfl rfl (.bool _) rfl (fun h => o_fieldAddr rfl rfl rfl tyS_24 (by decide) (gv h rfl) rfl ⟨_, rfl, Nat.le_of_ble_eq_true rfl⟩) ?_
 refine TD.cr rfl rfl rfl (.bool _) rfl (fun h => o_fieldAddr rfl rfl rfl tyS_3 (by decide) (gv h rfl) rfl ⟨_, rfl, Nat.le_of_ble_eq_true rfl⟩) ?_
 refine TD.cr rfl rfl rfl (.bool _) rfl (fun h => o_loadBx rfl tyS_3 (gv h rfl) rfl (nb rfl) rfl) ?_
 refine TD.cq rfl rfl rfl (.bool _) rfl (fun h _ => o_ari rfl (gv h rfl) (gv h rfl) rfl) ?_
 refine TD.cq rfl rfl rfl (.bool _) rfl (fun h _ => o_ari rfl (gv h rfl) (gv h rfl) rfl) ?_
 refine ad 2 ?_
 refine TD.nil ⟨rfl, ?_⟩
 refine T.ret ?_
 cases some_i H
 exact ⟨trivial, _, (.tmp _ _ _ _ rfl .nil), ⟨rfl, _, rfl⟩⟩
theorem en_19 : En Tryd.prog 19 := .of Tryd.func19 rfl rfl
theorem tyE_9 : TyE Tryd.prog 9 1 := ⟨_, _, rfl, rfl, rfl, rfl, by decide, by decide⟩
noncomputable def spec_l19S_do_l1 (a0 : T_impl_SessEvent) (s0 : T_spec_l19S) : (T_spec_l19S × Int) → Option ((T_spec_l19S × Int) ⊕ T_spec_l19S) := fun s => match s with
  | (b16, v17) => cond (decide (v17 < (s0.list_.length : Int))) ((idx b16.list_ v17).bind fun e20 => cond (e20.user_.toList == a0.User_.toList) ((idx b16.list_ v17).bind fun e22 => some (.inl (({ b16 with list_ := (b16.list_.set (Int.toNat v17) ({ e22 with dead_ := true } : T_spec_l19X)) } : T_spec_l19S), (IntKind.i64.wrap (v17 + 1))))) (some (.inl (b16, (IntKind.i64.wrap (v17 + 1)))))) (some (.inr b16))
noncomputable def spec_l19S_do_j1 (v28 : Int) (b45 : T_spec_l19S) (f46 : List (Option (List ByteArray))) : Option (T_impl_SessReply × T_spec_l19S × List (Option (List ByteArray))) :=
  (idx b45.list_ v28).bind fun e47 => (spec_l19Told e47 f46).bind fun r49 => some (r49, b45, f46)
noncomputable def spec_l19S_do_l2 (a0 : T_impl_SessEvent) (s0 : T_spec_l19S) (s2 : List (Option (List ByteArray))) : (Int × Int) → Option ((Int × Int) ⊕ Int) := fun s => match s with
  | (v26, v27) => cond (decide (v27 < (s0.list_.length : Int))) ((idx s0.list_ v27).bind fun e61 => (axg s2 e61.ids_).bind fun x63 => (spec_l3Has x63 a0.Id_).bind fun r65 => cond r65 (some (.inl (v27, (IntKind.i64.wrap (v27 + 1))))) (some (.inl (v26, (IntKind.i64.wrap (v27 + 1)))))) (some (.inr v26))
noncomputable def spec_l19S_do (a0 : T_impl_SessEvent) (s0 : T_spec_l19S) (s2 : List (Option (List ByteArray))) : Option (T_impl_SessReply × T_spec_l19S × List (Option (List ByteArray))) :=
  (spec_l19Bad a0).bind fun r1 => cond r1 ((spec_l19Err 1).bind fun r3 => some (r3, s0, s2)) (cond (decide (a0.Time_ < s0.now_)) ((spec_l19Err 2).bind fun r5 => some (r5, s0, s2)) (cond (a0.Kind_ == 1) ((spec_l19S_id ({ s0 with now_ := a0.Time_ } : T_spec_l19S) s2).bind fun q => (match q with | (r7, o8) => (eqX o8.now_ a0.Time_).bind fun u10 => (app o8.list_ ([(⟨(s2.length : Int), a0.User_, a0.Device_, 1, a0.Time_, a0.Time_, false⟩ : T_spec_l19X)] : List T_spec_l19X)).bind fun l12 => (spec_l19Told (⟨(s2.length : Int), a0.User_, a0.Device_, 1, a0.Time_, a0.Time_, false⟩ : T_spec_l19X) (s2 ++ [some ([r7] : List ByteArray)])).bind fun r14 => some (r14, (⟨o8.c_, a0.Time_, o8.given_, l12⟩ : T_spec_l19S), (s2 ++ [some ([r7] : List ByteArray)])))) (cond (a0.Kind_ == 5) ((loopO (spec_l19S_do_l1 a0 s0) (({ s0 with now_ := a0.Time_ } : T_spec_l19S), 0)).bind fun b18 => (match b18 with | b18 => some ((⟨0, e0, a0.User_, 0⟩ : T_impl_SessReply), b18, s2))) ((loopO (spec_l19S_do_l2 a0 s0 s2) ((-1), 0)).bind fun v28 => (match v28 with | v28 => cond (decide (v28 < 0)) ((spec_l19Err 3).bind fun r29 => some (r29, ({ s0 with now_ := a0.Time_ } : T_spec_l19S), s2)) ((idx s0.list_ v28).bind fun e31 => (axg s2 e31.ids_).bind fun x33 => (idx x33 (IntKind.i64.wrap ((x33.length : Int) - 1))).bind fun e35 => cond ((!(e35.toList == a0.Id_.toList)) || (!(e31.device_.toList == a0.Device_.toList))) ((spec_l19Err 4).bind fun r37 => some (r37, (⟨s0.c_, a0.Time_, s0.given_, (s0.list_.set (Int.toNat v28) ({ e31 with dead_ := true } : T_spec_l19X))⟩ : T_spec_l19S), s2)) (cond e31.dead_ ((spec_l19Err 5).bind fun r39 => some (r39, ({ s0 with now_ := a0.Time_ } : T_spec_l19S), s2)) ((spec_l19S_over e31 a0.Time_ ({ s0 with now_ := a0.Time_ } : T_spec_l19S) s2).bind fun r41 => cond r41 ((spec_l19Err 6).bind fun r43 => some (r43, ({ s0 with now_ := a0.Time_ } : T_spec_l19S), s2)) (cond (a0.Kind_ == 3) ((spec_l15Lesser (IntKind.i64.wrap (e31.level_ + 1)) 9).bind fun r51 => (spec_l19S_id (⟨s0.c_, a0.Time_, s0.given_, ((s0.list_.set (Int.toNat v28) ({ e31 with last_ := a0.Time_ } : T_spec_l19X)).set (Int.toNat v28) ({ e31 with level_ := r51, last_ := a0.Time_ } : T_spec_l19X))⟩ : T_spec_l19S) s2).bind fun q => (match q with | (r53, o54) => (eqL o54.list_ ((s0.list_.set (Int.toNat v28) ({ e31 with last_ := a0.Time_ } : T_spec_l19X)).set (Int.toNat v28) ({ e31 with level_ := r51, last_ := a0.Time_ } : T_spec_l19X))).bind fun u56 => (app x33 ([r53] : List ByteArray)).bind fun l58 => spec_l19S_do_j1 v28 ({ o54 with list_ := (((s0.list_.set (Int.toNat v28) ({ e31 with last_ := a0.Time_ } : T_spec_l19X)).set (Int.toNat v28) ({ e31 with level_ := r51, last_ := a0.Time_ } : T_spec_l19X)).set (Int.toNat v28) ({ e31 with ids_ := ((s2.set (Int.toNat e31.ids_) none).length : Int), level_ := r51, last_ := a0.Time_ } : T_spec_l19X)) } : T_spec_l19S) ((s2.set (Int.toNat e31.ids_) none) ++ [some l58]))) (cond (a0.Kind_ == 4) (spec_l19S_do_j1 v28 (⟨s0.c_, a0.Time_, s0.given_, ((s0.list_.set (Int.toNat v28) ({ e31 with last_ := a0.Time_ } : T_spec_l19X)).set (Int.toNat v28) ({ e31 with last_ := a0.Time_, dead_ := true } : T_spec_l19X))⟩ : T_spec_l19S) s2) (spec_l19S_do_j1 v28 (⟨s0.c_, a0.Time_, s0.given_, (s0.list_.set (Int.toNat v28) ({ e31 with last_ := a0.Time_ } : T_spec_l19X))⟩ : T_spec_l19S) s2)))))))))))
theorem spec_l19S_do_p (c0 : Bool) {a0 : T_impl_SessEvent} {s0 : T_spec_l19S} {s2 : List (Option (List ByteArray))} {R0 : T_impl_SessReply} {U0 : T_spec_l19S} {U2 : List (Option (List ByteArray))} (H : spec_l19S_do a0 s0 s2 = some (R0, U0, U2)) : St Tryd.prog 25 [.bx 0 0, .agg (c_T_impl_SessEvent false a0)] [.box (k_spec_l19S 1 2 c0 s0), .arr .raw 7 (s0.list_.map (c_T_spec_l19X 2 false)), .afm 1 (s2.map (c_ax (c_str)))] (.agg (c_T_impl_SessReply false R0)) [.box (k_spec_l19S 1 2 c0 (⟨U0.c_, U0.now_, U0.given_, U0.list_⟩ : T_spec_l19S)), .arr .raw 7 (U0.list_.map (c_T_spec_l19X 2 false)), .afm 1 (U2.map (c_ax (c_str)))] := by
 refine CallT.fin (CallT.of_TN (n := 200) Tryd.func25 rfl rfl rfl rfl ?_) rfl rfl ⟨(bels_iff.1 rfl), ⟨(belRaw fun _ => rfl), ⟨trivial, trivial⟩⟩⟩
 refine au 9 ?_
 obtain ⟨r1, h2, H⟩ := bind_s H
 refine TL.st rfl rfl rfl (o_callP rfl en_30 rfl rfl (.cons _ _ _ _ (.cl _ rfl) .nil) (spec_l19Bad_p  h2)) ?_
 refine TL.nil ?_
 refine T.cH H (fun H h => ?_) (fun H h => ?_)
 ·refine au 2 ?_
  obtain ⟨r3, h4, H⟩ := bind_s H
  refine TL.st rfl rfl rfl (o_callP rfl en_31 rfl rfl (.cons _ _ _ _ (.cl _ rfl) .nil) (spec_l19Err_p  h4)) ?_
  refine au 2 ?_
  refine T.conv (Cs.eqS (σ' := [_, _, _, .box (c_T_impl_SessEvent false a0), .box (c_T_impl_SessReply false r3)]) rfl) ?_
  refine T.ret ?_
  refine thn_ret ?_
  cases some_i H
  exact ⟨trivial, _, (.cell _ _ _ _ _ _ _ _ _ _ rfl rfl tyS_31 (nb rfl) rfl .nil), ⟨rfl, _, rfl⟩⟩
 ·refine au 3 ?_
  refine T.drawn rfl ?_
  refine ad 7 ?_
  refine TD.nil ⟨rfl, ?_⟩
  refine thn_normal ?_
  refine T.cH H (fun H h => ?_) (fun H h => ?_)
  ·refine au 2 ?_
   obtain ⟨r5, h6, H⟩ := bind_s H
   refine TL.st rfl rfl rfl (o_callP rfl en_31 rfl rfl (.cons _ _ _ _ (.cl _ rfl) .nil) (spec_l19Err_p  h6)) ?_
   refine au 2 ?_
   refine T.conv (Cs.eqS (σ' := [_, _, _, .box (c_T_impl_SessEvent false a0), .box (c_T_impl_SessReply false r5)]) rfl) ?_
   refine T.ret ?_
   refine thn_ret ?_
   cases some_i H
   exact ⟨trivial, _, (.cell _ _ _ _ _ _ _ _ _ _ rfl rfl tyS_31 (nb rfl) rfl .nil), ⟨rfl, _, rfl⟩⟩
  ·refine au 12 ?_
   refine T.conv (Cs.eqS (σ' := [.box (k_spec_l19S 1 2 c0 ({ s0 with now_ := a0.Time_ } : T_spec_l19S)), _, _, .box (c_T_impl_SessEvent false a0), .box [.int .i64 0, .str e0, .str e0, .int .i64 0]]) rfl) ?_
   refine au 5 ?_
   refine T.cH H (fun H h => ?_) (fun H h => ?_)
   ·refine T.seq ?_
    refine T.conv Cs.pushRes ?_
    obtain ⟨⟨r7, o8⟩, h9, H⟩ := bind_s H
    obtain ⟨u10, h11, H⟩ := bind_s H
    refine T.drawS (fr' := [(0, .bx 0 0), (1, .agg (c_T_impl_SessEvent false a0)), (3, .bx 3 0), (4, .bx 4 0), (5, .bx 5 0), (11, .agg (c_T_impl_SessEvent false a0)), (12, .bool r1), (14, .bx 3 1), (15, .int .i64 a0.Time_), (16, .bx 0 0), (17, .bx 0 0), (18, .bx 0 3), (19, .int .i64 s0.now_), (20, .bool (decide (a0.Time_ < s0.now_))), (22, .bx 0 0), (23, .bx 3 1), (24, .int .i64 a0.Time_), (25, .bx 0 0), (26, .bx 0 3), (27, .bx 3 0), (28, .int .i64 a0.Kind_), (29, .bool (a0.Kind_ == 1)), (30, .bx 0 0), (31, .str r7), (32, .px 2 0 (s2.length : Int) 0), (33, .bx 3 2), (34, .str a0.User_), (35, .bx 3 3), (36, .str a0.Device_), (37, .bx 0 0), (38, .bx 0 0), (39, .bx 0 3), (40, .int .i64 a0.Time_), (41, .bx 0 0), (42, .bx 0 0), (43, .bx 0 3), (44, .int .i64 a0.Time_), (45, .agg [.px 2 0 (s2.length : Int) 0, .str a0.User_, .str a0.Device_, .int .i64 1, .int .i64 a0.Time_, .int .i64 a0.Time_, .bool false])]) (R := [⟨some 30, .bx 0 0, .q, []⟩, ⟨some 31, .str r7, .q, []⟩, ⟨some 32, .px 2 0 (s2.length : Int) 0, .q, []⟩, ⟨some 33, .bx 3 2, .q, []⟩, ⟨some 34, .str a0.User_, .q, []⟩, ⟨some 35, .bx 3 3, .q, []⟩, ⟨some 36, .str a0.Device_, .q, []⟩, ⟨some 37, .bx 0 0, .q, []⟩, ⟨some 38, .bx 0 0, .q, []⟩, ⟨some 39, .bx 0 3, .q, []⟩, ⟨some 40, .int .i64 a0.Time_, .q, []⟩, ⟨some 41, .bx 0 0, .q, []⟩, ⟨some 42, .bx 0 0, .q, []⟩, ⟨some 43, .bx 0 3, .q, []⟩, ⟨some 44, .int .i64 a0.Time_, .q, []⟩, ⟨some 45, .agg [.px 2 0 (s2.length : Int) 0, .str a0.User_, .str a0.Device_, .int .i64 1, .int .i64 a0.Time_, .int .i64 a0.Time_, .bool false], .q, []⟩, ⟨some 5, .bx 5 0, .q, []⟩, ⟨none, .any, .q, []⟩]) (fun b => cond (b 1) (cond (b 2) (cond (b 16) (cond (b 17) ([.box (k_spec_l19S 1 2 c0 ({ o8 with now_ := a0.Time_ } : T_spec_l19S)), .arr .raw 7 (o8.list_.map (c_T_spec_l19X 2 false)), .afm 1 ((s2 ++ [some ([r7] : List ByteArray)]).map (c_ax (c_str))), .box (c_T_impl_SessEvent false a0), .box [.int .i64 0, .str e0, .str e0, .int .i64 0], .box [.px 2 0 (s2.length : Int) 0, .str a0.User_, .str a0.Device_, .int .i64 1, .int .i64 a0.Time_, .int .i64 a0.Time_, .bool false], .dead]) ([.box (k_spec_l19S 1 2 c0 ({ o8 with now_ := a0.Time_ } : T_spec_l19S)), .arr .raw 7 (o8.list_.map (c_T_spec_l19X 2 false)), .afm 1 ((s2 ++ [some ([r7] : List ByteArray)]).map (c_ax (c_str))), .box (c_T_impl_SessEvent false a0), .box [.int .i64 0, .str e0, .str e0, .int .i64 0], .box [.nilS, .str e0, .str e0, .int .i64 0, .int .i64 0, .int .i64 0, .bool false], .dead])) ([.box (k_spec_l19S 1 2 c0 ({ o8 with now_ := a0.Time_ } : T_spec_l19S)), .arr .raw 7 (o8.list_.map (c_T_spec_l19X 2 false)), .afm 1 ((s2 ++ [some ([r7] : List ByteArray)]).map (c_ax (c_str))), .box (c_T_impl_SessEvent false a0), .box [.int .i64 0, .str e0, .str e0, .int .i64 0], .res, .dead])) (cond (b 16) ([.box (k_spec_l19S 1 2 c0 ({ o8 with now_ := a0.Time_ } : T_spec_l19S)), .arr .raw 7 (o8.list_.map (c_T_spec_l19X 2 false)), .afm 1 (s2.map (c_ax (c_str))), .box (c_T_impl_SessEvent false a0), .box [.int .i64 0, .str e0, .str e0, .int .i64 0], .box [.nilS, .str e0, .str e0, .int .i64 0, .int .i64 0, .int .i64 0, .bool false]]) ([.box (k_spec_l19S 1 2 c0 ({ o8 with now_ := a0.Time_ } : T_spec_l19S)), .arr .raw 7 (o8.list_.map (c_T_spec_l19X 2 false)), .afm 1 (s2.map (c_ax (c_str))), .box (c_T_impl_SessEvent false a0), .box [.int .i64 0, .str e0, .str e0, .int .i64 0], .res]))) (cond (b 16) ([.box (k_spec_l19S 1 2 c0 ({ s0 with now_ := a0.Time_ } : T_spec_l19S)), .arr .raw 7 (s0.list_.map (c_T_spec_l19X 2 false)), .afm 1 (s2.map (c_ax (c_str))), .box (c_T_impl_SessEvent false a0), .box [.int .i64 0, .str e0, .str e0, .int .i64 0], .box [.nilS, .str e0, .str e0, .int .i64 0, .int .i64 0, .int .i64 0, .bool false]]) ([.box (k_spec_l19S 1 2 c0 ({ s0 with now_ := a0.Time_ } : T_spec_l19S)), .arr .raw 7 (s0.list_.map (c_T_spec_l19X 2 false)), .afm 1 (s2.map (c_ax (c_str))), .box (c_T_impl_SessEvent false a0), .box [.int .i64 0, .str e0, .str e0, .int .i64 0], .res]))) rfl ?_ ?_ rfl rfl (FrL.get (.cons rfl (.cons rfl (.cons rfl (.cons rfl (.cons rfl (.cons rfl (.cons rfl (.cons rfl (.cons rfl (.cons rfl (.cons rfl (.cons rfl (.cons rfl (.cons rfl (.cons rfl (.cons rfl (.cons rfl (.cons rfl (.cons rfl (.cons rfl (.cons rfl (.cons rfl (.cons rfl (.cons rfl (.cons rfl (.cons rfl (.cons rfl (.cons rfl (.cons rfl (.cons rfl (.cons rfl (.cons rfl (.cons rfl (.cons rfl (.cons rfl (.cons rfl (.cons rfl (.cons rfl .nil))))))))))))))))))))))))))))))))))))))) ?_
    ·refine .cons _ _ _ _ _ ⟨rfl, [(0, .bx 0 0)], AllN.get rfl (.cons rfl .nil), fun b hd hn hk hc => ?_⟩ ?_
     ·cases e16 : b 16
      ·exact ops_at ((cdf (hn 1 rfl)).trans (cdf e16)) rfl (o_move rfl rfl) ((cdf ((updb_ne rfl).trans (hn 1 rfl))).trans (cdf ((updb_ne rfl).trans e16))) rfl
      ·exact ops_at ((cdf (hn 1 rfl)).trans (cdt e16)) rfl (o_move rfl rfl) ((cdf ((updb_ne rfl).trans (hn 1 rfl))).trans (cdt ((updb_ne rfl).trans e16))) rfl
     refine .cons _ _ _ _ _ ⟨rfl, [(30, .bx 0 0)], AllN.get rfl (.cons rfl .nil), fun b hd hn hk hc => ?_⟩ ?_
     ·cases e16 : b 16
      ·exact ops_at ((cdf hk).trans (cdf e16)) rfl (Does.eqS (eqAtB (show (.box ((c_T_impl_SessConf c0 o8.c_) ++ [.int .i64 o8.now_, .int .i64 o8.given_, .hd 1 o8.list_.length 0 o8.list_.length]) : AO) = .box ((c_T_impl_SessConf c0 o8.c_) ++ [.int .i64 a0.Time_, .int .i64 o8.given_, .hd 1 o8.list_.length 0 o8.list_.length]) by simp only [eqX_s h11]) rfl) (o_callM [0, 1, 2] rfl en_32 rfl rfl (spec_l19S_id_p c0 h9) rfl (by decide) (.cons _ _ _ _ rfl (.cons _ _ _ _ (ren_at rfl (ren_rawO fun _ => rfl)) (.cons _ _ _ _ rfl .nil))) rfl rfl (.cons _ _ _ _ rfl (.cons _ _ _ _ (ren_rawO fun _ => rfl) (.cons _ _ _ _ rfl .nil))) rfl)) ((((cdt updb_self).trans (cdf ((updb_ne rfl).trans (hn 2 rfl)))).trans (cdf ((updb_ne rfl).trans e16))).trans rfl) rfl
      ·exact ops_at ((cdf hk).trans (cdt e16)) rfl (Does.eqS (eqAtB (show (.box ((c_T_impl_SessConf c0 o8.c_) ++ [.int .i64 o8.now_, .int .i64 o8.given_, .hd 1 o8.list_.length 0 o8.list_.length]) : AO) = .box ((c_T_impl_SessConf c0 o8.c_) ++ [.int .i64 a0.Time_, .int .i64 o8.given_, .hd 1 o8.list_.length 0 o8.list_.length]) by simp only [eqX_s h11]) rfl) (o_callM [0, 1, 2] rfl en_32 rfl rfl (spec_l19S_id_p c0 h9) rfl (by decide) (.cons _ _ _ _ rfl (.cons _ _ _ _ (ren_at rfl (ren_rawO fun _ => rfl)) (.cons _ _ _ _ rfl .nil))) rfl rfl (.cons _ _ _ _ rfl (.cons _ _ _ _ (ren_rawO fun _ => rfl) (.cons _ _ _ _ rfl .nil))) rfl)) ((((cdt updb_self).trans (cdf ((updb_ne rfl).trans (hn 2 rfl)))).trans (cdt ((updb_ne rfl).trans e16))).trans rfl) rfl
     refine .cons _ _ _ _ _ ⟨rfl, [(31, .str r7)], AllN.get rfl (.cons rfl .nil), fun b hd hn hk hc => ?_⟩ ?_
     ·cases e16 : b 16
      ·exact ops_at (((cdt (hd 1 rfl)).trans (cdf hk)).trans (cdf e16)) rfl (Does.newX (f := c_str) (L := s2) (xs := ([r7] : List ByteArray)) 2 (o_sliceHd (rows := ([r7] : List ByteArray).map (c_str)) .clo rfl rfl tyS_9 ⟨_, rfl, rfl⟩ (by decide) rfl rfl rfl rfl (by decide) (fun _ => rfl) (by decide) rfl (by decide)) rfl rfl rfl) ((((cdt ((updb_ne rfl).trans (hd 1 rfl))).trans (cdt updb_self)).trans (cdf ((updb_ne rfl).trans e16))).trans rfl) rfl
      ·exact ops_at (((cdt (hd 1 rfl)).trans (cdf hk)).trans (cdt e16)) rfl (Does.newX (f := c_str) (L := s2) (xs := ([r7] : List ByteArray)) 2 (o_sliceHd (rows := ([r7] : List ByteArray).map (c_str)) .clo rfl rfl tyS_9 ⟨_, rfl, rfl⟩ (by decide) rfl rfl rfl rfl (by decide) (fun _ => rfl) (by decide) rfl (by decide)) rfl rfl rfl) (((((cdt ((updb_ne rfl).trans (hd 1 rfl))).trans (cdt updb_self)).trans (cdt ((updb_ne rfl).trans e16))).trans (cdf ((updb_ne rfl).trans (hn 17 rfl)))).trans rfl) rfl
     refine .cons _ _ _ _ _ ⟨rfl, [(3, .bx 3 0)], AllN.get rfl (.cons rfl .nil), fun b hd hn hk hc => ?_⟩ ?_
     ·cases e1 : b 1
      ·cases e2 : b 2
       ·cases e16 : b 16
        ·exact ops_at ((cdf e1).trans (cdf e16)) rfl (o_fieldAddr rfl rfl rfl tyS_9 (by decide) rfl rfl ⟨_, rfl, Nat.le_of_ble_eq_true rfl⟩) ((cdf ((updb_ne rfl).trans e1)).trans (cdf ((updb_ne rfl).trans e16))) rfl
        ·exact ops_at ((cdf e1).trans (cdt e16)) rfl (o_fieldAddr rfl rfl rfl tyS_9 (by decide) rfl rfl ⟨_, rfl, Nat.le_of_ble_eq_true rfl⟩) ((cdf ((updb_ne rfl).trans e1)).trans (cdt ((updb_ne rfl).trans e16))) rfl
       ·cases e16 : b 16
        ·exact absurd (hc 2 1 rfl rfl e2) (by rw [e1]; decide)
        ·exact absurd (hc 2 1 rfl rfl e2) (by rw [e1]; decide)
      ·cases e2 : b 2
       ·cases e16 : b 16
        ·exact ops_at (((cdt e1).trans (cdf e2)).trans (cdf e16)) rfl (o_fieldAddr rfl rfl rfl tyS_9 (by decide) rfl rfl ⟨_, rfl, Nat.le_of_ble_eq_true rfl⟩) (((cdt ((updb_ne rfl).trans e1)).trans (cdf ((updb_ne rfl).trans e2))).trans (cdf ((updb_ne rfl).trans e16))) rfl
        ·exact ops_at (((cdt e1).trans (cdf e2)).trans (cdt e16)) rfl (o_fieldAddr rfl rfl rfl tyS_9 (by decide) rfl rfl ⟨_, rfl, Nat.le_of_ble_eq_true rfl⟩) (((cdt ((updb_ne rfl).trans e1)).trans (cdf ((updb_ne rfl).trans e2))).trans (cdt ((updb_ne rfl).trans e16))) rfl
       ·cases e16 : b 16
        ·exact ops_at (((cdt e1).trans (cdt e2)).trans (cdf e16)) rfl (o_fieldAddr rfl rfl rfl tyS_9 (by decide) rfl rfl ⟨_, rfl, Nat.le_of_ble_eq_true rfl⟩) (((cdt ((updb_ne rfl).trans e1)).trans (cdt ((updb_ne rfl).trans e2))).trans (cdf ((updb_ne rfl).trans e16))) rfl
        ·exact ops_at ((((cdt e1).trans (cdt e2)).trans (cdt e16)).trans (cdf (hn 17 rfl))) rfl (o_fieldAddr rfl rfl rfl tyS_9 (by decide) rfl rfl ⟨_, rfl, Nat.le_of_ble_eq_true rfl⟩) ((((cdt ((updb_ne rfl).trans e1)).trans (cdt ((updb_ne rfl).trans e2))).trans (cdt ((updb_ne rfl).trans e16))).trans (cdf ((updb_ne rfl).trans (hn 17 rfl)))) rfl
     refine .cons _ _ _ _ _ ⟨rfl, [(33, .bx 3 2)], AllN.get rfl (.cons rfl .nil), fun b hd hn hk hc => ?_⟩ ?_
     ·cases e1 : b 1
      ·cases e2 : b 2
       ·cases e16 : b 16
        ·exact ops_at ((cdf e1).trans (cdf e16)) rfl (o_loadBx rfl tyS_9 rfl rfl (nb rfl) rfl) ((cdf ((updb_ne rfl).trans e1)).trans (cdf ((updb_ne rfl).trans e16))) rfl
        ·exact ops_at ((cdf e1).trans (cdt e16)) rfl (o_loadBx rfl tyS_9 rfl rfl (nb rfl) rfl) ((cdf ((updb_ne rfl).trans e1)).trans (cdt ((updb_ne rfl).trans e16))) rfl
       ·cases e16 : b 16
        ·exact absurd (hc 2 1 rfl rfl e2) (by rw [e1]; decide)
        ·exact absurd (hc 2 1 rfl rfl e2) (by rw [e1]; decide)
      ·cases e2 : b 2
       ·cases e16 : b 16
        ·exact ops_at (((cdt e1).trans (cdf e2)).trans (cdf e16)) rfl (o_loadBx rfl tyS_9 rfl rfl (nb rfl) rfl) (((cdt ((updb_ne rfl).trans e1)).trans (cdf ((updb_ne rfl).trans e2))).trans (cdf ((updb_ne rfl).trans e16))) rfl
        ·exact ops_at (((cdt e1).trans (cdf e2)).trans (cdt e16)) rfl (o_loadBx rfl tyS_9 rfl rfl (nb rfl) rfl) (((cdt ((updb_ne rfl).trans e1)).trans (cdf ((updb_ne rfl).trans e2))).trans (cdt ((updb_ne rfl).trans e16))) rfl
       ·cases e16 : b 16
        ·exact ops_at (((cdt e1).trans (cdt e2)).trans (cdf e16)) rfl (o_loadBx rfl tyS_9 rfl rfl (nb rfl) rfl) (((cdt ((updb_ne rfl).trans e1)).trans (cdt ((updb_ne rfl).trans e2))).trans (cdf ((updb_ne rfl).trans e16))) rfl
        ·exact ops_at ((((cdt e1).trans (cdt e2)).trans (cdt e16)).trans (cdf (hn 17 rfl))) rfl (o_loadBx rfl tyS_9 rfl rfl (nb rfl) rfl) ((((cdt ((updb_ne rfl).trans e1)).trans (cdt ((updb_ne rfl).trans e2))).trans (cdt ((updb_ne rfl).trans e16))).trans (cdf ((updb_ne rfl).trans (hn 17 rfl)))) rfl
     refine .cons _ _ _ _ _ ⟨rfl, [(3, .bx 3 0)], AllN.get rfl (.cons rfl .nil), fun b hd hn hk hc => ?_⟩ ?_
     ·cases e1 : b 1
      ·cases e2 : b 2
       ·cases e16 : b 16
        ·exact ops_at ((cdf e1).trans (cdf e16)) rfl (o_fieldAddr rfl rfl rfl tyS_9 (by decide) rfl rfl ⟨_, rfl, Nat.le_of_ble_eq_true rfl⟩) ((cdf ((updb_ne rfl).trans e1)).trans (cdf ((updb_ne rfl).trans e16))) rfl
        ·exact ops_at ((cdf e1).trans (cdt e16)) rfl (o_fieldAddr rfl rfl rfl tyS_9 (by decide) rfl rfl ⟨_, rfl, Nat.le_of_ble_eq_true rfl⟩) ((cdf ((updb_ne rfl).trans e1)).trans (cdt ((updb_ne rfl).trans e16))) rfl
       ·cases e16 : b 16
        ·exact absurd (hc 2 1 rfl rfl e2) (by rw [e1]; decide)
        ·exact absurd (hc 2 1 rfl rfl e2) (by rw [e1]; decide)
      ·cases e2 : b 2
       ·cases e16 : b 16
        ·exact ops_at (((cdt e1).trans (cdf e2)).trans (cdf e16)) rfl (o_fieldAddr rfl rfl rfl tyS_9 (by decide) rfl rfl ⟨_, rfl, Nat.le_of_ble_eq_true rfl⟩) (((cdt ((updb_ne rfl).trans e1)).trans (cdf ((updb_ne rfl).trans e2))).trans (cdf ((updb_ne rfl).trans e16))) rfl
        ·exact ops_at (((cdt e1).trans (cdf e2)).trans (cdt e16)) rfl (o_fieldAddr rfl rfl rfl tyS_9 (by decide) rfl rfl ⟨_, rfl, Nat.le_of_ble_eq_true rfl⟩) (((cdt ((updb_ne rfl).trans e1)).trans (cdf ((updb_ne rfl).trans e2))).trans (cdt ((updb_ne rfl).trans e16))) rfl
       ·cases e16 : b 16
        ·exact ops_at (((cdt e1).trans (cdt e2)).trans (cdf e16)) rfl (o_fieldAddr rfl rfl rfl tyS_9 (by decide) rfl rfl ⟨_, rfl, Nat.le_of_ble_eq_true rfl⟩) (((cdt ((updb_ne rfl).trans e1)).trans (cdt ((updb_ne rfl).trans e2))).trans (cdf ((updb_ne rfl).trans e16))) rfl
        ·exact ops_at ((((cdt e1).trans (cdt e2)).trans (cdt e16)).trans (cdf (hn 17 rfl))) rfl (o_fieldAddr rfl rfl rfl tyS_9 (by decide) rfl rfl ⟨_, rfl, Nat.le_of_ble_eq_true rfl⟩) ((((cdt ((updb_ne rfl).trans e1)).trans (cdt ((updb_ne rfl).trans e2))).trans (cdt ((updb_ne rfl).trans e16))).trans (cdf ((updb_ne rfl).trans (hn 17 rfl)))) rfl
     refine .cons _ _ _ _ _ ⟨rfl, [(35, .bx 3 3)], AllN.get rfl (.cons rfl .nil), fun b hd hn hk hc => ?_⟩ ?_
     ·cases e1 : b 1
      ·cases e2 : b 2
       ·cases e16 : b 16
        ·exact ops_at ((cdf e1).trans (cdf e16)) rfl (o_loadBx rfl tyS_9 rfl rfl (nb rfl) rfl) ((cdf ((updb_ne rfl).trans e1)).trans (cdf ((updb_ne rfl).trans e16))) rfl
        ·exact ops_at ((cdf e1).trans (cdt e16)) rfl (o_loadBx rfl tyS_9 rfl rfl (nb rfl) rfl) ((cdf ((updb_ne rfl).trans e1)).trans (cdt ((updb_ne rfl).trans e16))) rfl
       ·cases e16 : b 16
        ·exact absurd (hc 2 1 rfl rfl e2) (by rw [e1]; decide)
        ·exact absurd (hc 2 1 rfl rfl e2) (by rw [e1]; decide)
      ·cases e2 : b 2
       ·cases e16 : b 16
        ·exact ops_at (((cdt e1).trans (cdf e2)).trans (cdf e16)) rfl (o_loadBx rfl tyS_9 rfl rfl (nb rfl) rfl) (((cdt ((updb_ne rfl).trans e1)).trans (cdf ((updb_ne rfl).trans e2))).trans (cdf ((updb_ne rfl).trans e16))) rfl
        ·exact ops_at (((cdt e1).trans (cdf e2)).trans (cdt e16)) rfl (o_loadBx rfl tyS_9 rfl rfl (nb rfl) rfl) (((cdt ((updb_ne rfl).trans e1)).trans (cdf ((updb_ne rfl).trans e2))).trans (cdt ((updb_ne rfl).trans e16))) rfl
       ·cases e16 : b 16
        ·exact ops_at (((cdt e1).trans (cdt e2)).trans (cdf e16)) rfl (o_loadBx rfl tyS_9 rfl rfl (nb rfl) rfl) (((cdt ((updb_ne rfl).trans e1)).trans (cdt ((updb_ne rfl).trans e2))).trans (cdf ((updb_ne rfl).trans e16))) rfl
        ·exact ops_at ((((cdt e1).trans (cdt e2)).trans (cdt e16)).trans (cdf (hn 17 rfl))) rfl (o_loadBx rfl tyS_9 rfl rfl (nb rfl) rfl) ((((cdt ((updb_ne rfl).trans e1)).trans (cdt ((updb_ne rfl).trans e2))).trans (cdt ((updb_ne rfl).trans e16))).trans (cdf ((updb_ne rfl).trans (hn 17 rfl)))) rfl
     refine .cons _ _ _ _ _ ⟨rfl, [(0, .bx 0 0)], AllN.get rfl (.cons rfl .nil), fun b hd hn hk hc => ?_⟩ ?_
     ·cases e1 : b 1
      ·cases e2 : b 2
       ·cases e16 : b 16
        ·exact ops_at ((cdf e1).trans (cdf e16)) rfl (o_move rfl rfl) ((cdf ((updb_ne rfl).trans e1)).trans (cdf ((updb_ne rfl).trans e16))) rfl
        ·exact ops_at ((cdf e1).trans (cdt e16)) rfl (o_move rfl rfl) ((cdf ((updb_ne rfl).trans e1)).trans (cdt ((updb_ne rfl).trans e16))) rfl
       ·cases e16 : b 16
        ·exact absurd (hc 2 1 rfl rfl e2) (by rw [e1]; decide)
        ·exact absurd (hc 2 1 rfl rfl e2) (by rw [e1]; decide)
      ·cases e2 : b 2
       ·cases e16 : b 16
        ·exact ops_at (((cdt e1).trans (cdf e2)).trans (cdf e16)) rfl (o_move rfl rfl) (((cdt ((updb_ne rfl).trans e1)).trans (cdf ((updb_ne rfl).trans e2))).trans (cdf ((updb_ne rfl).trans e16))) rfl
        ·exact ops_at (((cdt e1).trans (cdf e2)).trans (cdt e16)) rfl (o_move rfl rfl) (((cdt ((updb_ne rfl).trans e1)).trans (cdf ((updb_ne rfl).trans e2))).trans (cdt ((updb_ne rfl).trans e16))) rfl
       ·cases e16 : b 16
        ·exact ops_at (((cdt e1).trans (cdt e2)).trans (cdf e16)) rfl (o_move rfl rfl) (((cdt ((updb_ne rfl).trans e1)).trans (cdt ((updb_ne rfl).trans e2))).trans (cdf ((updb_ne rfl).trans e16))) rfl
        ·exact ops_at ((((cdt e1).trans (cdt e2)).trans (cdt e16)).trans (cdf (hn 17 rfl))) rfl (o_move rfl rfl) ((((cdt ((updb_ne rfl).trans e1)).trans (cdt ((updb_ne rfl).trans e2))).trans (cdt ((updb_ne rfl).trans e16))).trans (cdf ((updb_ne rfl).trans (hn 17 rfl)))) rfl
     refine .cons _ _ _ _ _ ⟨rfl, [(37, .bx 0 0)], AllN.get rfl (.cons rfl .nil), fun b hd hn hk hc => ?_⟩ ?_
     ·cases e1 : b 1
      ·cases e2 : b 2
       ·cases e16 : b 16
        ·exact ops_at ((cdf e1).trans (cdf e16)) rfl (o_nilCheck rfl rfl rfl) ((cdf ((updb_ne rfl).trans e1)).trans (cdf ((updb_ne rfl).trans e16))) rfl
        ·exact ops_at ((cdf e1).trans (cdt e16)) rfl (o_nilCheck rfl rfl rfl) ((cdf ((updb_ne rfl).trans e1)).trans (cdt ((updb_ne rfl).trans e16))) rfl
       ·cases e16 : b 16
        ·exact absurd (hc 2 1 rfl rfl e2) (by rw [e1]; decide)
        ·exact absurd (hc 2 1 rfl rfl e2) (by rw [e1]; decide)
      ·cases e2 : b 2
       ·cases e16 : b 16
        ·exact ops_at (((cdt e1).trans (cdf e2)).trans (cdf e16)) rfl (o_nilCheck rfl rfl rfl) (((cdt ((updb_ne rfl).trans e1)).trans (cdf ((updb_ne rfl).trans e2))).trans (cdf ((updb_ne rfl).trans e16))) rfl
        ·exact ops_at (((cdt e1).trans (cdf e2)).trans (cdt e16)) rfl (o_nilCheck rfl rfl rfl) (((cdt ((updb_ne rfl).trans e1)).trans (cdf ((updb_ne rfl).trans e2))).trans (cdt ((updb_ne rfl).trans e16))) rfl
       ·cases e16 : b 16
        ·exact ops_at (((cdt e1).trans (cdt e2)).trans (cdf e16)) rfl (o_nilCheck rfl rfl rfl) (((cdt ((updb_ne rfl).trans e1)).trans (cdt ((updb_ne rfl).trans e2))).trans (cdf ((updb_ne rfl).trans e16))) rfl
        ·exact ops_at ((((cdt e1).trans (cdt e2)).trans (cdt e16)).trans (cdf (hn 17 rfl))) rfl (o_nilCheck rfl rfl rfl) ((((cdt ((updb_ne rfl).trans e1)).trans (cdt ((updb_ne rfl).trans e2))).trans (cdt ((updb_ne rfl).trans e16))).trans (cdf ((updb_ne rfl).trans (hn 17 rfl)))) rfl
     refine .cons _ _ _ _ _ ⟨rfl, [(38, .bx 0 0)], AllN.get rfl (.cons rfl .nil), fun b hd hn hk hc => ?_⟩ ?_
     ·cases e1 : b 1
      ·cases e2 : b 2
       ·cases e16 : b 16
        ·exact ops_at ((cdf e1).trans (cdf e16)) rfl (o_fieldAddr rfl rfl rfl tyS_3 (by decide) rfl rfl ⟨_, rfl, Nat.le_of_ble_eq_true rfl⟩) ((cdf ((updb_ne rfl).trans e1)).trans (cdf ((updb_ne rfl).trans e16))) rfl
        ·exact ops_at ((cdf e1).trans (cdt e16)) rfl (o_fieldAddr rfl rfl rfl tyS_3 (by decide) rfl rfl ⟨_, rfl, Nat.le_of_ble_eq_true rfl⟩) ((cdf ((updb_ne rfl).trans e1)).trans (cdt ((updb_ne rfl).trans e16))) rfl
       ·cases e16 : b 16
        ·exact absurd (hc 2 1 rfl rfl e2) (by rw [e1]; decide)
        ·exact absurd (hc 2 1 rfl rfl e2) (by rw [e1]; decide)
      ·cases e2 : b 2
       ·cases e16 : b 16
        ·exact ops_at (((cdt e1).trans (cdf e2)).trans (cdf e16)) rfl (o_fieldAddr rfl rfl rfl tyS_3 (by decide) rfl rfl ⟨_, rfl, Nat.le_of_ble_eq_true rfl⟩) (((cdt ((updb_ne rfl).trans e1)).trans (cdf ((updb_ne rfl).trans e2))).trans (cdf ((updb_ne rfl).trans e16))) rfl
        ·exact ops_at (((cdt e1).trans (cdf e2)).trans (cdt e16)) rfl (o_fieldAddr rfl rfl rfl tyS_3 (by decide) rfl rfl ⟨_, rfl, Nat.le_of_ble_eq_true rfl⟩) (((cdt ((updb_ne rfl).trans e1)).trans (cdf ((updb_ne rfl).trans e2))).trans (cdt ((updb_ne rfl).trans e16))) rfl
       ·cases e16 : b 16
        ·exact ops_at (((cdt e1).trans (cdt e2)).trans (cdf e16)) rfl (o_fieldAddr rfl rfl rfl tyS_3 (by decide) rfl rfl ⟨_, rfl, Nat.le_of_ble_eq_true rfl⟩) (((cdt ((updb_ne rfl).trans e1)).trans (cdt ((updb_ne rfl).trans e2))).trans (cdf ((updb_ne rfl).trans e16))) rfl
        ·exact ops_at ((((cdt e1).trans (cdt e2)).trans (cdt e16)).trans (cdf (hn 17 rfl))) rfl (o_fieldAddr rfl rfl rfl tyS_3 (by decide) rfl rfl ⟨_, rfl, Nat.le_of_ble_eq_true rfl⟩) ((((cdt ((updb_ne rfl).trans e1)).trans (cdt ((updb_ne rfl).trans e2))).trans (cdt ((updb_ne rfl).trans e16))).trans (cdf ((updb_ne rfl).trans (hn 17 rfl)))) rfl
     refine .cons _ _ _ _ _ ⟨rfl, [(39, .bx 0 3)], AllN.get rfl (.cons rfl .nil), fun b hd hn hk hc => ?_⟩ ?_
     ·cases e1 : b 1
      ·cases e2 : b 2
       ·cases e16 : b 16
        ·exact ops_at ((cdf e1).trans (cdf e16)) rfl (o_loadBx rfl tyS_3 rfl rfl (nb rfl) rfl) ((cdf ((updb_ne rfl).trans e1)).trans (cdf ((updb_ne rfl).trans e16))) rfl
        ·exact ops_at ((cdf e1).trans (cdt e16)) rfl (o_loadBx rfl tyS_3 rfl rfl (nb rfl) rfl) ((cdf ((updb_ne rfl).trans e1)).trans (cdt ((updb_ne rfl).trans e16))) rfl
       ·cases e16 : b 16
        ·exact absurd (hc 2 1 rfl rfl e2) (by rw [e1]; decide)
        ·exact absurd (hc 2 1 rfl rfl e2) (by rw [e1]; decide)
      ·cases e2 : b 2
       ·cases e16 : b 16
        ·exact ops_at (((cdt e1).trans (cdf e2)).trans (cdf e16)) rfl (o_loadBx rfl tyS_3 rfl rfl (nb rfl) rfl) (((cdt ((updb_ne rfl).trans e1)).trans (cdf ((updb_ne rfl).trans e2))).trans (cdf ((updb_ne rfl).trans e16))) rfl
        ·exact ops_at (((cdt e1).trans (cdf e2)).trans (cdt e16)) rfl (o_loadBx rfl tyS_3 rfl rfl (nb rfl) rfl) (((cdt ((updb_ne rfl).trans e1)).trans (cdf ((updb_ne rfl).trans e2))).trans (cdt ((updb_ne rfl).trans e16))) rfl
       ·cases e16 : b 16
        ·exact ops_at (((cdt e1).trans (cdt e2)).trans (cdf e16)) rfl (o_loadBx rfl tyS_3 rfl rfl (nb rfl) rfl) (((cdt ((updb_ne rfl).trans e1)).trans (cdt ((updb_ne rfl).trans e2))).trans (cdf ((updb_ne rfl).trans e16))) rfl
        ·exact ops_at ((((cdt e1).trans (cdt e2)).trans (cdt e16)).trans (cdf (hn 17 rfl))) rfl (o_loadBx rfl tyS_3 rfl rfl (nb rfl) rfl) ((((cdt ((updb_ne rfl).trans e1)).trans (cdt ((updb_ne rfl).trans e2))).trans (cdt ((updb_ne rfl).trans e16))).trans (cdf ((updb_ne rfl).trans (hn 17 rfl)))) rfl
     refine .cons _ _ _ _ _ ⟨rfl, [(0, .bx 0 0)], AllN.get rfl (.cons rfl .nil), fun b hd hn hk hc => ?_⟩ ?_
     ·cases e1 : b 1
      ·cases e2 : b 2
       ·cases e16 : b 16
        ·exact ops_at ((cdf e1).trans (cdf e16)) rfl (o_move rfl rfl) ((cdf ((updb_ne rfl).trans e1)).trans (cdf ((updb_ne rfl).trans e16))) rfl
        ·exact ops_at ((cdf e1).trans (cdt e16)) rfl (o_move rfl rfl) ((cdf ((updb_ne rfl).trans e1)).trans (cdt ((updb_ne rfl).trans e16))) rfl
       ·cases e16 : b 16
        ·exact absurd (hc 2 1 rfl rfl e2) (by rw [e1]; decide)
        ·exact absurd (hc 2 1 rfl rfl e2) (by rw [e1]; decide)
      ·cases e2 : b 2
       ·cases e16 : b 16
        ·exact ops_at (((cdt e1).trans (cdf e2)).trans (cdf e16)) rfl (o_move rfl rfl) (((cdt ((updb_ne rfl).trans e1)).trans (cdf ((updb_ne rfl).trans e2))).trans (cdf ((updb_ne rfl).trans e16))) rfl
        ·exact ops_at (((cdt e1).trans (cdf e2)).trans (cdt e16)) rfl (o_move rfl rfl) (((cdt ((updb_ne rfl).trans e1)).trans (cdf ((updb_ne rfl).trans e2))).trans (cdt ((updb_ne rfl).trans e16))) rfl
       ·cases e16 : b 16
        ·exact ops_at (((cdt e1).trans (cdt e2)).trans (cdf e16)) rfl (o_move rfl rfl) (((cdt ((updb_ne rfl).trans e1)).trans (cdt ((updb_ne rfl).trans e2))).trans (cdf ((updb_ne rfl).trans e16))) rfl
        ·exact ops_at ((((cdt e1).trans (cdt e2)).trans (cdt e16)).trans (cdf (hn 17 rfl))) rfl (o_move rfl rfl) ((((cdt ((updb_ne rfl).trans e1)).trans (cdt ((updb_ne rfl).trans e2))).trans (cdt ((updb_ne rfl).trans e16))).trans (cdf ((updb_ne rfl).trans (hn 17 rfl)))) rfl
     refine .cons _ _ _ _ _ ⟨rfl, [(41, .bx 0 0)], AllN.get rfl (.cons rfl .nil), fun b hd hn hk hc => ?_⟩ ?_
     ·cases e1 : b 1
      ·cases e2 : b 2
       ·cases e16 : b 16
        ·exact ops_at ((cdf e1).trans (cdf e16)) rfl (o_nilCheck rfl rfl rfl) ((cdf ((updb_ne rfl).trans e1)).trans (cdf ((updb_ne rfl).trans e16))) rfl
        ·exact ops_at ((cdf e1).trans (cdt e16)) rfl (o_nilCheck rfl rfl rfl) ((cdf ((updb_ne rfl).trans e1)).trans (cdt ((updb_ne rfl).trans e16))) rfl
       ·cases e16 : b 16
        ·exact absurd (hc 2 1 rfl rfl e2) (by rw [e1]; decide)
        ·exact absurd (hc 2 1 rfl rfl e2) (by rw [e1]; decide)
      ·cases e2 : b 2
       ·cases e16 : b 16
        ·exact ops_at (((cdt e1).trans (cdf e2)).trans (cdf e16)) rfl (o_nilCheck rfl rfl rfl) (((cdt ((updb_ne rfl).trans e1)).trans (cdf ((updb_ne rfl).trans e2))).trans (cdf ((updb_ne rfl).trans e16))) rfl
        ·exact ops_at (((cdt e1).trans (cdf e2)).trans (cdt e16)) rfl (o_nilCheck rfl rfl rfl) (((cdt ((updb_ne rfl).trans e1)).trans (cdf ((updb_ne rfl).trans e2))).trans (cdt ((updb_ne rfl).trans e16))) rfl
       ·cases e16 : b 16
        ·exact ops_at (((cdt e1).trans (cdt e2)).trans (cdf e16)) rfl (o_nilCheck rfl rfl rfl) (((cdt ((updb_ne rfl).trans e1)).trans (cdt ((updb_ne rfl).trans e2))).trans (cdf ((updb_ne rfl).trans e16))) rfl
        ·exact ops_at ((((cdt e1).trans (cdt e2)).trans (cdt e16)).trans (cdf (hn 17 rfl))) rfl (o_nilCheck rfl rfl rfl) ((((cdt ((updb_ne rfl).trans e1)).trans (cdt ((updb_ne rfl).trans e2))).trans (cdt ((updb_ne rfl).trans e16))).trans (cdf ((updb_ne rfl).trans (hn 17 rfl)))) rfl
     refine .cons _ _ _ _ _ ⟨rfl, [(42, .bx 0 0)], AllN.get rfl (.cons rfl .nil), fun b hd hn hk hc => ?_⟩ ?_
     ·cases e1 : b 1
      ·cases e2 : b 2
       ·cases e16 : b 16
        ·exact ops_at ((cdf e1).trans (cdf e16)) rfl (o_fieldAddr rfl rfl rfl tyS_3 (by decide) rfl rfl ⟨_, rfl, Nat.le_of_ble_eq_true rfl⟩) ((cdf ((updb_ne rfl).trans e1)).trans (cdf ((updb_ne rfl).trans e16))) rfl
        ·exact ops_at ((cdf e1).trans (cdt e16)) rfl (o_fieldAddr rfl rfl rfl tyS_3 (by decide) rfl rfl ⟨_, rfl, Nat.le_of_ble_eq_true rfl⟩) ((cdf ((updb_ne rfl).trans e1)).trans (cdt ((updb_ne rfl).trans e16))) rfl
       ·cases e16 : b 16
        ·exact absurd (hc 2 1 rfl rfl e2) (by rw [e1]; decide)
        ·exact absurd (hc 2 1 rfl rfl e2) (by rw [e1]; decide)
      ·cases e2 : b 2
       ·cases e16 : b 16
        ·exact ops_at (((cdt e1).trans (cdf e2)).trans (cdf e16)) rfl (o_fieldAddr rfl rfl rfl tyS_3 (by decide) rfl rfl ⟨_, rfl, Nat.le_of_ble_eq_true rfl⟩) (((cdt ((updb_ne rfl).trans e1)).trans (cdf ((updb_ne rfl).trans e2))).trans (cdf ((updb_ne rfl).trans e16))) rfl
        ·exact ops_at (((cdt e1).trans (cdf e2)).trans (cdt e16)) rfl (o_fieldAddr rfl rfl rfl tyS_3 (by decide) rfl rfl ⟨_, rfl, Nat.le_of_ble_eq_true rfl⟩) (((cdt ((updb_ne rfl).trans e1)).trans (cdf ((updb_ne rfl).trans e2))).trans (cdt ((updb_ne rfl).trans e16))) rfl
       ·cases e16 : b 16
        ·exact ops_at (((cdt e1).trans (cdt e2)).trans (cdf e16)) rfl (o_fieldAddr rfl rfl rfl tyS_3 (by decide) rfl rfl ⟨_, rfl, Nat.le_of_ble_eq_true rfl⟩) (((cdt ((updb_ne rfl).trans e1)).trans (cdt ((updb_ne rfl).trans e2))).trans (cdf ((updb_ne rfl).trans e16))) rfl
        ·exact ops_at ((((cdt e1).trans (cdt e2)).trans (cdt e16)).trans (cdf (hn 17 rfl))) rfl (o_fieldAddr rfl rfl rfl tyS_3 (by decide) rfl rfl ⟨_, rfl, Nat.le_of_ble_eq_true rfl⟩) ((((cdt ((updb_ne rfl).trans e1)).trans (cdt ((updb_ne rfl).trans e2))).trans (cdt ((updb_ne rfl).trans e16))).trans (cdf ((updb_ne rfl).trans (hn 17 rfl)))) rfl
     refine .cons _ _ _ _ _ ⟨rfl, [(43, .bx 0 3)], AllN.get rfl (.cons rfl .nil), fun b hd hn hk hc => ?_⟩ ?_
     ·cases e1 : b 1
      ·cases e2 : b 2
       ·cases e16 : b 16
        ·exact ops_at ((cdf e1).trans (cdf e16)) rfl (o_loadBx rfl tyS_3 rfl rfl (nb rfl) rfl) ((cdf ((updb_ne rfl).trans e1)).trans (cdf ((updb_ne rfl).trans e16))) rfl
        ·exact ops_at ((cdf e1).trans (cdt e16)) rfl (o_loadBx rfl tyS_3 rfl rfl (nb rfl) rfl) ((cdf ((updb_ne rfl).trans e1)).trans (cdt ((updb_ne rfl).trans e16))) rfl
       ·cases e16 : b 16
        ·exact absurd (hc 2 1 rfl rfl e2) (by rw [e1]; decide)
        ·exact absurd (hc 2 1 rfl rfl e2) (by rw [e1]; decide)
      ·cases e2 : b 2
       ·cases e16 : b 16
        ·exact ops_at (((cdt e1).trans (cdf e2)).trans (cdf e16)) rfl (o_loadBx rfl tyS_3 rfl rfl (nb rfl) rfl) (((cdt ((updb_ne rfl).trans e1)).trans (cdf ((updb_ne rfl).trans e2))).trans (cdf ((updb_ne rfl).trans e16))) rfl
        ·exact ops_at (((cdt e1).trans (cdf e2)).trans (cdt e16)) rfl (o_loadBx rfl tyS_3 rfl rfl (nb rfl) rfl) (((cdt ((updb_ne rfl).trans e1)).trans (cdf ((updb_ne rfl).trans e2))).trans (cdt ((updb_ne rfl).trans e16))) rfl
       ·cases e16 : b 16
        ·exact ops_at (((cdt e1).trans (cdt e2)).trans (cdf e16)) rfl (o_loadBx rfl tyS_3 rfl rfl (nb rfl) rfl) (((cdt ((updb_ne rfl).trans e1)).trans (cdt ((updb_ne rfl).trans e2))).trans (cdf ((updb_ne rfl).trans e16))) rfl
        ·exact ops_at ((((cdt e1).trans (cdt e2)).trans (cdt e16)).trans (cdf (hn 17 rfl))) rfl (o_loadBx rfl tyS_3 rfl rfl (nb rfl) rfl) ((((cdt ((updb_ne rfl).trans e1)).trans (cdt ((updb_ne rfl).trans e2))).trans (cdt ((updb_ne rfl).trans e16))).trans (cdf ((updb_ne rfl).trans (hn 17 rfl)))) rfl
     refine .cons _ _ _ _ _ ⟨rfl, [(32, .px 2 0 (s2.length : Int) 0), (34, .str a0.User_), (36, .str a0.Device_), (40, .int .i64 a0.Time_), (44, .int .i64 a0.Time_)], AllN.get rfl (.cons rfl (.cons rfl (.cons rfl (.cons rfl (.cons rfl .nil))))), fun b hd hn hk hc => ?_⟩ ?_
     ·cases e16 : b 16
      ·exact ops_at (((cdt (hd 1 rfl)).trans (cdt (hd 2 rfl))).trans (cdf e16)) rfl (o_build rfl ⟨_, fun _ => rfl, rfl⟩ rfl rfl rfl) (((cdt ((updb_ne rfl).trans (hd 1 rfl))).trans (cdt ((updb_ne rfl).trans (hd 2 rfl)))).trans (cdf ((updb_ne rfl).trans e16))) rfl
      ·exact ops_at ((((cdt (hd 1 rfl)).trans (cdt (hd 2 rfl))).trans (cdt e16)).trans (cdf (hn 17 rfl))) rfl (o_build rfl ⟨_, fun _ => rfl, rfl⟩ rfl rfl rfl) ((((cdt ((updb_ne rfl).trans (hd 1 rfl))).trans (cdt ((updb_ne rfl).trans (hd 2 rfl)))).trans (cdt ((updb_ne rfl).trans e16))).trans (cdf ((updb_ne rfl).trans (hn 17 rfl)))) rfl
     refine .cons _ _ _ _ _ ⟨rfl, [], AllN.get rfl .nil, fun b hd hn hk hc => ?_⟩ ?_
     ·cases e1 : b 1
      ·cases e2 : b 2
       ·exact ops_at ((cdf e1).trans (cdf hk)) rfl (o_allocAt 5 rfl ⟨_, rfl, rfl⟩ rfl) (((cdf ((updb_ne rfl).trans e1)).trans (cdt updb_self)).trans rfl) rfl
       ·exact absurd (hc 2 1 rfl rfl e2) (by rw [e1]; decide)
      ·cases e2 : b 2
       ·exact ops_at (((cdt e1).trans (cdf e2)).trans (cdf hk)) rfl (o_allocAt 5 rfl ⟨_, rfl, rfl⟩ rfl) ((((cdt ((updb_ne rfl).trans e1)).trans (cdf ((updb_ne rfl).trans e2))).trans (cdt updb_self)).trans rfl) rfl
       ·exact ops_at (((cdt e1).trans (cdt e2)).trans (cdf hk)) rfl (o_allocAt 5 rfl ⟨_, rfl, rfl⟩ rfl) (((((cdt ((updb_ne rfl).trans e1)).trans (cdt ((updb_ne rfl).trans e2))).trans (cdt updb_self)).trans (cdf ((updb_ne rfl).trans (hn 17 rfl)))).trans rfl) rfl
     refine .cons _ _ _ _ _ ⟨rfl, [(5, .bx 5 0), (45, .agg [.px 2 0 (s2.length : Int) 0, .str a0.User_, .str a0.Device_, .int .i64 1, .int .i64 a0.Time_, .int .i64 a0.Time_, .bool false])], AllN.get rfl (.cons rfl (.cons rfl .nil)), fun b hd hn hk hc => ?_⟩ ?_
     ·exact ops_at ((((cdt (hd 1 rfl)).trans (cdt (hd 2 rfl))).trans (cdt (hd 16 rfl))).trans (cdf hk)) rfl (o_storeBx rfl tyS_65 rfl rfl rfl rfl (nb rfl) rfl) (((((cdt ((updb_ne rfl).trans (hd 1 rfl))).trans (cdt ((updb_ne rfl).trans (hd 2 rfl)))).trans (cdt ((updb_ne rfl).trans (hd 16 rfl)))).trans (cdt updb_self)).trans rfl) rfl
     exact .nil _
    ·intro b b' h; simp only [h 1 (by decide), h 2 (by decide), h 16 (by decide), h 17 (by decide)]
    refine T.seq ?_
    refine T.conv (Cs.eqS (σ' := [.box (k_spec_l19S 1 2 c0 ({ o8 with now_ := a0.Time_ } : T_spec_l19S)), .arr .raw 7 (o8.list_.map (c_T_spec_l19X 2 false)), .afm 1 ((s2 ++ [some ([r7] : List ByteArray)]).map (c_ax (c_str))), _, _, .box [.px 2 0 (s2.length : Int) 0, .str a0.User_, .str a0.Device_, .int .i64 1, .int .i64 a0.Time_, .int .i64 a0.Time_, .bool false], .dead]) rfl) ?_
    obtain ⟨l12, h13, H⟩ := bind_s H
    refine T.drawS (fr' := [(0, .bx 0 0), (1, .agg (c_T_impl_SessEvent false a0)), (3, .bx 3 0), (4, .bx 4 0), (5, .bx 5 0), (11, .agg (c_T_impl_SessEvent false a0)), (12, .bool r1), (14, .bx 3 1), (15, .int .i64 a0.Time_), (16, .bx 0 0), (17, .bx 0 0), (18, .bx 0 3), (19, .int .i64 s0.now_), (20, .bool (decide (a0.Time_ < s0.now_))), (22, .bx 0 0), (23, .bx 3 1), (24, .int .i64 a0.Time_), (25, .bx 0 0), (26, .bx 0 3), (27, .bx 3 0), (28, .int .i64 a0.Kind_), (29, .bool (a0.Kind_ == 1)), (30, .bx 0 0), (31, .str r7), (32, .px 2 0 (s2.length : Int) 0), (33, .bx 3 2), (34, .str a0.User_), (35, .bx 3 3), (36, .str a0.Device_), (37, .bx 0 0), (38, .bx 0 0), (39, .bx 0 3), (40, .int .i64 a0.Time_), (41, .bx 0 0), (42, .bx 0 0), (43, .bx 0 3), (44, .int .i64 a0.Time_), (45, .agg [.px 2 0 (s2.length : Int) 0, .str a0.User_, .str a0.Device_, .int .i64 1, .int .i64 a0.Time_, .int .i64 a0.Time_, .bool false]), (46, .bx 0 0), (47, .bx 0 0), (48, .bx 0 0), (49, .bx 0 5), (50, .hd 1 o8.list_.length 0 o8.list_.length), (51, .agg [.px 2 0 (s2.length : Int) 0, .str a0.User_, .str a0.Device_, .int .i64 1, .int .i64 a0.Time_, .int .i64 a0.Time_, .bool false]), (52, .hd 7 ([(⟨(s2.length : Int), a0.User_, a0.Device_, 1, a0.Time_, a0.Time_, false⟩ : T_spec_l19X)] : List T_spec_l19X).length 0 ([(⟨(s2.length : Int), a0.User_, a0.Device_, 1, a0.Time_, a0.Time_, false⟩ : T_spec_l19X)] : List T_spec_l19X).length), (53, .hd 1 l12.length 0 l12.length), (54, .bx 0 0), (55, .bx 0 5)]) (R := [⟨some 46, .bx 0 0, .q, []⟩, ⟨some 47, .bx 0 0, .q, []⟩, ⟨some 48, .bx 0 0, .q, []⟩, ⟨some 49, .bx 0 5, .q, []⟩, ⟨some 50, .hd 1 o8.list_.length 0 o8.list_.length, .q, []⟩, ⟨some 51, .agg [.px 2 0 (s2.length : Int) 0, .str a0.User_, .str a0.Device_, .int .i64 1, .int .i64 a0.Time_, .int .i64 a0.Time_, .bool false], .q, []⟩, ⟨some 52, .hd 7 ([(⟨(s2.length : Int), a0.User_, a0.Device_, 1, a0.Time_, a0.Time_, false⟩ : T_spec_l19X)] : List T_spec_l19X).length 0 ([(⟨(s2.length : Int), a0.User_, a0.Device_, 1, a0.Time_, a0.Time_, false⟩ : T_spec_l19X)] : List T_spec_l19X).length, .q, []⟩, ⟨some 53, .hd 1 l12.length 0 l12.length, .q, []⟩, ⟨some 54, .bx 0 0, .q, []⟩, ⟨some 55, .bx 0 5, .q, []⟩, ⟨none, .any, .q, []⟩]) (fun b => cond (b 6) (cond (b 7) (cond (b 10) ([.box (k_spec_l19S 1 2 c0 (⟨o8.c_, a0.Time_, o8.given_, l12⟩ : T_spec_l19S)), .arr .raw 7 (l12.map (c_T_spec_l19X 2 false)), .afm 1 ((s2 ++ [some ([r7] : List ByteArray)]).map (c_ax (c_str))), .box (c_T_impl_SessEvent false a0), .box [.int .i64 0, .str e0, .str e0, .int .i64 0], .box [.px 2 0 (s2.length : Int) 0, .str a0.User_, .str a0.Device_, .int .i64 1, .int .i64 a0.Time_, .int .i64 a0.Time_, .bool false], .dead, .arr .raw 7 (([(⟨(s2.length : Int), a0.User_, a0.Device_, 1, a0.Time_, a0.Time_, false⟩ : T_spec_l19X)] : List T_spec_l19X).map (c_T_spec_l19X 2 false))]) ([.box (k_spec_l19S 1 2 c0 ({ o8 with now_ := a0.Time_ } : T_spec_l19S)), .arr .raw 7 (l12.map (c_T_spec_l19X 2 false)), .afm 1 ((s2 ++ [some ([r7] : List ByteArray)]).map (c_ax (c_str))), .box (c_T_impl_SessEvent false a0), .box [.int .i64 0, .str e0, .str e0, .int .i64 0], .box [.px 2 0 (s2.length : Int) 0, .str a0.User_, .str a0.Device_, .int .i64 1, .int .i64 a0.Time_, .int .i64 a0.Time_, .bool false], .dead, .arr .raw 7 (([(⟨(s2.length : Int), a0.User_, a0.Device_, 1, a0.Time_, a0.Time_, false⟩ : T_spec_l19X)] : List T_spec_l19X).map (c_T_spec_l19X 2 false))])) ([.box (k_spec_l19S 1 2 c0 ({ o8 with now_ := a0.Time_ } : T_spec_l19S)), .arr .raw 7 (o8.list_.map (c_T_spec_l19X 2 false)), .afm 1 ((s2 ++ [some ([r7] : List ByteArray)]).map (c_ax (c_str))), .box (c_T_impl_SessEvent false a0), .box [.int .i64 0, .str e0, .str e0, .int .i64 0], .box [.px 2 0 (s2.length : Int) 0, .str a0.User_, .str a0.Device_, .int .i64 1, .int .i64 a0.Time_, .int .i64 a0.Time_, .bool false], .dead, .arr .raw 7 (([(⟨(s2.length : Int), a0.User_, a0.Device_, 1, a0.Time_, a0.Time_, false⟩ : T_spec_l19X)] : List T_spec_l19X).map (c_T_spec_l19X 2 false))])) ([.box (k_spec_l19S 1 2 c0 ({ o8 with now_ := a0.Time_ } : T_spec_l19S)), .arr .raw 7 (o8.list_.map (c_T_spec_l19X 2 false)), .afm 1 ((s2 ++ [some ([r7] : List ByteArray)]).map (c_ax (c_str))), .box (c_T_impl_SessEvent false a0), .box [.int .i64 0, .str e0, .str e0, .int .i64 0], .box [.px 2 0 (s2.length : Int) 0, .str a0.User_, .str a0.Device_, .int .i64 1, .int .i64 a0.Time_, .int .i64 a0.Time_, .bool false], .dead])) rfl ?_ ?_ rfl rfl (FrL.get (.cons rfl (.cons rfl (.cons rfl (.cons rfl (.cons rfl (.cons rfl (.cons rfl (.cons rfl (.cons rfl (.cons rfl (.cons rfl (.cons rfl (.cons rfl (.cons rfl (.cons rfl (.cons rfl (.cons rfl (.cons rfl (.cons rfl (.cons rfl (.cons rfl (.cons rfl (.cons rfl (.cons rfl (.cons rfl (.cons rfl (.cons rfl (.cons rfl (.cons rfl (.cons rfl (.cons rfl (.cons rfl (.cons rfl (.cons rfl (.cons rfl (.cons rfl (.cons rfl (.cons rfl (.cons rfl (.cons rfl (.cons rfl (.cons rfl (.cons rfl (.cons rfl (.cons rfl (.cons rfl (.cons rfl (.cons rfl .nil))))))))))))))))))))))))))))))))))))))))))))))))) ?_
    ·refine .cons _ _ _ _ _ ⟨rfl, [(0, .bx 0 0)], AllN.get rfl (.cons rfl .nil), fun b hd hn hk hc => ?_⟩ ?_
     ·cases e6 : b 6
      ·cases e7 : b 7
       ·exact ops_at (cdf e6) rfl (o_move rfl rfl) (cdf ((updb_ne rfl).trans e6)) rfl
       ·exact absurd (hc 7 6 rfl rfl e7) (by rw [e6]; decide)
      ·cases e7 : b 7
       ·exact ops_at ((cdt e6).trans (cdf e7)) rfl (o_move rfl rfl) ((cdt ((updb_ne rfl).trans e6)).trans (cdf ((updb_ne rfl).trans e7))) rfl
       ·exact ops_at (((cdt e6).trans (cdt e7)).trans (cdf (hn 10 rfl))) rfl (o_move rfl rfl) (((cdt ((updb_ne rfl).trans e6)).trans (cdt ((updb_ne rfl).trans e7))).trans (cdf ((updb_ne rfl).trans (hn 10 rfl)))) rfl
     refine .cons _ _ _ _ _ ⟨rfl, [(0, .bx 0 0)], AllN.get rfl (.cons rfl .nil), fun b hd hn hk hc => ?_⟩ ?_
     ·cases e6 : b 6
      ·exact ops_at (cdf e6) rfl (o_move rfl rfl) (cdf ((updb_ne rfl).trans e6)) rfl
      ·exact ops_at ((cdt e6).trans (cdf (hn 7 rfl))) rfl (o_move rfl rfl) ((cdt ((updb_ne rfl).trans e6)).trans (cdf ((updb_ne rfl).trans (hn 7 rfl)))) rfl
     refine .cons _ _ _ _ _ ⟨rfl, [(47, .bx 0 0)], AllN.get rfl (.cons rfl .nil), fun b hd hn hk hc => ?_⟩ ?_
     ·cases e6 : b 6
      ·exact ops_at (cdf e6) rfl (o_nilCheck rfl rfl rfl) (cdf ((updb_ne rfl).trans e6)) rfl
      ·exact ops_at ((cdt e6).trans (cdf (hn 7 rfl))) rfl (o_nilCheck rfl rfl rfl) ((cdt ((updb_ne rfl).trans e6)).trans (cdf ((updb_ne rfl).trans (hn 7 rfl)))) rfl
     refine .cons _ _ _ _ _ ⟨rfl, [(48, .bx 0 0)], AllN.get rfl (.cons rfl .nil), fun b hd hn hk hc => ?_⟩ ?_
     ·cases e6 : b 6
      ·exact ops_at (cdf e6) rfl (o_fieldAddr rfl rfl rfl tyS_61 (by decide) rfl rfl ⟨_, rfl, Nat.le_of_ble_eq_true rfl⟩) (cdf ((updb_ne rfl).trans e6)) rfl
      ·exact ops_at ((cdt e6).trans (cdf (hn 7 rfl))) rfl (o_fieldAddr rfl rfl rfl tyS_61 (by decide) rfl rfl ⟨_, rfl, Nat.le_of_ble_eq_true rfl⟩) ((cdt ((updb_ne rfl).trans e6)).trans (cdf ((updb_ne rfl).trans (hn 7 rfl)))) rfl
     refine .cons _ _ _ _ _ ⟨rfl, [(49, .bx 0 5)], AllN.get rfl (.cons rfl .nil), fun b hd hn hk hc => ?_⟩ ?_
     ·cases e6 : b 6
      ·exact ops_at (cdf e6) rfl (o_loadBx rfl tyS_61 rfl rfl (nb rfl) rfl) (cdf ((updb_ne rfl).trans e6)) rfl
      ·exact ops_at ((cdt e6).trans (cdf (hn 7 rfl))) rfl (o_loadBx rfl tyS_61 rfl rfl (nb rfl) rfl) ((cdt ((updb_ne rfl).trans e6)).trans (cdf ((updb_ne rfl).trans (hn 7 rfl)))) rfl
     refine .cons _ _ _ _ _ ⟨rfl, [(5, .bx 5 0)], AllN.get rfl (.cons rfl .nil), fun b hd hn hk hc => ?_⟩ ?_
     ·exact ops_at (cdf (hn 6 rfl)) rfl (o_loadBx rfl tyS_65 rfl rfl (nb rfl) rfl) (cdf ((updb_ne rfl).trans (hn 6 rfl))) rfl
     refine .cons _ _ _ _ _ ⟨rfl, [(51, .agg [.px 2 0 (s2.length : Int) 0, .str a0.User_, .str a0.Device_, .int .i64 1, .int .i64 a0.Time_, .int .i64 a0.Time_, .bool false])], AllN.get rfl (.cons rfl .nil), fun b hd hn hk hc => ?_⟩ ?_
     ·exact ops_at (cdf hk) rfl (o_sliceHd .raw rfl rfl tyS_65 ⟨_, rfl, rfl⟩ (by decide) rfl rfl rfl rfl rfl (fun h => absurd rfl h) (by decide) rfl (by decide)) (((cdt updb_self).trans (cdf ((updb_ne rfl).trans (hn 7 rfl)))).trans rfl) rfl
     refine .cons _ _ _ _ _ ⟨rfl, [(50, .hd 1 o8.list_.length 0 o8.list_.length), (52, .hd 7 ([(⟨(s2.length : Int), a0.User_, a0.Device_, 1, a0.Time_, a0.Time_, false⟩ : T_spec_l19X)] : List T_spec_l19X).length 0 ([(⟨(s2.length : Int), a0.User_, a0.Device_, 1, a0.Time_, a0.Time_, false⟩ : T_spec_l19X)] : List T_spec_l19X).length)], AllN.get rfl (.cons rfl (.cons rfl .nil)), fun b hd hn hk hc => ?_⟩ ?_
     ·exact ops_at ((cdt (hd 6 rfl)).trans (cdf hk)) rfl (o_apX (f := c_T_spec_l19X 2 false) (xs := o8.list_) (ys := ([(⟨(s2.length : Int), a0.User_, a0.Device_, 1, a0.Time_, a0.Time_, false⟩ : T_spec_l19X)] : List T_spec_l19X)) rfl rfl tyE_65 rfl rfl rfl rfl (fun _ => rfl) h13) ((((cdt ((updb_ne rfl).trans (hd 6 rfl))).trans (cdt updb_self)).trans (cdf ((updb_ne rfl).trans (hn 10 rfl)))).trans rfl) rfl
     refine .cons _ _ _ _ _ ⟨rfl, [(46, .bx 0 0)], AllN.get rfl (.cons rfl .nil), fun b hd hn hk hc => ?_⟩ ?_
     ·exact ops_at (((cdt (hd 6 rfl)).trans (cdt (hd 7 rfl))).trans (cdf (hn 10 rfl))) rfl (o_nilCheck rfl rfl rfl) (((cdt ((updb_ne rfl).trans (hd 6 rfl))).trans (cdt ((updb_ne rfl).trans (hd 7 rfl)))).trans (cdf ((updb_ne rfl).trans (hn 10 rfl)))) rfl
     refine .cons _ _ _ _ _ ⟨rfl, [(54, .bx 0 0)], AllN.get rfl (.cons rfl .nil), fun b hd hn hk hc => ?_⟩ ?_
     ·exact ops_at (((cdt (hd 6 rfl)).trans (cdt (hd 7 rfl))).trans (cdf (hn 10 rfl))) rfl (o_fieldAddr rfl rfl rfl tyS_61 (by decide) rfl rfl ⟨_, rfl, Nat.le_of_ble_eq_true rfl⟩) (((cdt ((updb_ne rfl).trans (hd 6 rfl))).trans (cdt ((updb_ne rfl).trans (hd 7 rfl)))).trans (cdf ((updb_ne rfl).trans (hn 10 rfl)))) rfl
     refine .cons _ _ _ _ _ ⟨rfl, [(53, .hd 1 l12.length 0 l12.length), (55, .bx 0 5)], AllN.get rfl (.cons rfl (.cons rfl .nil)), fun b hd hn hk hc => ?_⟩ ?_
     ·exact ops_at (((cdt (hd 6 rfl)).trans (cdt (hd 7 rfl))).trans (cdf hk)) rfl (o_storeBx rfl tyS_61 rfl rfl rfl rfl (nb rfl) (sure_hd rfl (List.length_map ..) rfl)) ((((cdt ((updb_ne rfl).trans (hd 6 rfl))).trans (cdt ((updb_ne rfl).trans (hd 7 rfl)))).trans (cdt updb_self)).trans rfl) rfl
     exact .nil _
    ·intro b b' h; simp only [h 6 (by decide), h 7 (by decide), h 10 (by decide)]
    refine T.seq ?_
    refine T.conv (Cs.eqS (σ' := [.box (k_spec_l19S 1 2 c0 (⟨o8.c_, a0.Time_, o8.given_, l12⟩ : T_spec_l19S)), .arr .raw 7 (l12.map (c_T_spec_l19X 2 false)), _, _, _, _, _, .arr .raw 7 (([(⟨(s2.length : Int), a0.User_, a0.Device_, 1, a0.Time_, a0.Time_, false⟩ : T_spec_l19X)] : List T_spec_l19X).map (c_T_spec_l19X 2 false))]) rfl) ?_
    refine au 2 ?_
    obtain ⟨r14, h15, H⟩ := bind_s H
    refine TL.st rfl rfl rfl (o_callS [2] rfl en_20 rfl rfl (spec_l19Told_p  h15) rfl (by decide) (.cons _ _ _ _ rfl .nil) rfl rfl rfl) ?_
    refine au 3 ?_
    refine thn_ret ?_
    cases some_i H
    exact ⟨trivial, _, (.cell _ _ _ _ _ _ _ _ _ _ rfl rfl tyS_31 (nb rfl) rfl .nil), ⟨rfl, _, rfl⟩⟩
   ·refine au 8 ?_
    refine T.cH H (fun H h => ?_) (fun H h => ?_)
    ·refine au 7 ?_
     refine TL.st rfl rfl rfl (o_lenOwn (f := c_T_spec_l19X 2 false) rfl rfl rfl rfl (List.length_map ..)) ?_
     refine au 3 ?_
     obtain ⟨b18, h25, H⟩ := bind_s H
     refine T.lq (fun s => match s with | (b16, v17) => [(0, .bx 0 0), (3, .bx 3 0), (4, .bx 4 0), (65, .int .i64 (s0.list_.length : Int)), (66, .int .i64 v17)]) (fun s => match s with | (b16, v17) => [.box (k_spec_l19S 1 2 c0 b16), .arr .raw 7 (b16.list_.map (c_T_spec_l19X 2 false)), .afm 1 (s2.map (c_ax (c_str))), .box (c_T_impl_SessEvent false a0), .box [.int .i64 0, .str e0, .str e0, .int .i64 0]]) (fun q ex fr σ => match q with | b18 => ex = .exit 0 ∧ fr = [(3, .bx 3 0), (4, .bx 4 0)] ∧ σ = [.box (k_spec_l19S 1 2 c0 b18), .arr .raw 7 (b18.list_.map (c_T_spec_l19X 2 false)), .afm 1 (s2.map (c_ax (c_str))), .box (c_T_impl_SessEvent false a0), .box [.int .i64 0, .str e0, .str e0, .int .i64 0]]) h25 ?_ ?_
     ·rintro ⟨b16, v17⟩ y19 H
      refine au 5 ?_
      refine T.cH H (fun H h => ?_) (fun H h => ?_)
      ·refine au 9 ?_
       refine T.drawn rfl ?_
       refine ad 5 ?_
       obtain ⟨e20, h21, H⟩ := bind_s H
       refine TD.rs rfl rfl (o_ixh (f := c_T_spec_l19X 2 false) rfl rfl tyS_65 rfl rfl rfl (List.length_map ..) h21 rfl) ?_
       refine TD.rs rfl rfl (o_fieldAddrEl rfl rfl rfl tyS_9 (by decide) rfl rfl (List.length_map ..)) ?_
       refine TD.rs rfl rfl (o_loadEl rfl tyS_9 rfl rfl (List.length_map ..) (by rw [List.getElem?_map, (idx_s h21).2]; rfl) (nb rfl) rfl) ?_
       refine ad 2 ?_
       refine TD.qs rfl rfl (fun _ => o_str rfl rfl rfl rfl) ?_
       refine TD.nil ⟨rfl, ?_⟩
       refine thn_normal ?_
       refine T.cH H (fun H h => ?_) (fun H h => ?_)
       ·refine au 6 ?_
        obtain ⟨e22, h23, H⟩ := bind_s H
        refine TL.st rfl rfl rfl (o_ixh (f := c_T_spec_l19X 2 false) rfl rfl tyS_65 rfl rfl rfl (List.length_map ..) h23 rfl) ?_
        refine TL.st rfl rfl rfl (o_fieldAddrEl rfl rfl rfl tyS_4 (by decide) rfl rfl (List.length_map ..)) ?_
        refine TL.sn rfl rfl (o_stEl (f := c_T_spec_l19X 2 false) (xs := b16.list_) (k := v17) (a := e22) ({ e22 with dead_ := true } : T_spec_l19X) rfl tyS_4 rfl rfl rfl (List.length_map ..) (by decide) h23 rfl rfl rfl (fun h => absurd rfl h) rfl) ?_
        refine TL.conv (Cs.eqS (σ := [.box ((c_T_impl_SessConf c0 b16.c_) ++ [.int .i64 b16.now_, .int .i64 b16.given_, .hd 1 b16.list_.length 0 b16.list_.length]), .arr .raw 7 ((b16.list_.set (Int.toNat v17) ({ e22 with dead_ := true } : T_spec_l19X)).map (c_T_spec_l19X 2 false)), .afm 1 (s2.map (c_ax (c_str))), .box (c_T_impl_SessEvent false a0), .box [.int .i64 0, .str e0, .str e0, .int .i64 0]]) (σ' := [.box ((c_T_impl_SessConf c0 b16.c_) ++ [.int .i64 b16.now_, .int .i64 b16.given_, .hd 1 (b16.list_.set (Int.toNat v17) ({ e22 with dead_ := true } : T_spec_l19X)).length 0 (b16.list_.set (Int.toNat v17) ({ e22 with dead_ := true } : T_spec_l19X)).length]), .arr .raw 7 ((b16.list_.set (Int.toNat v17) ({ e22 with dead_ := true } : T_spec_l19X)).map (c_T_spec_l19X 2 false)), .afm 1 (s2.map (c_ax (c_str))), .box (c_T_impl_SessEvent false a0), .box [.int .i64 0, .str e0, .str e0, .int .i64 0]]) (by simp only [List.length_map, List.length_set])) ?_
        refine TL.conv (Cs.eqV (t := 72) (v' := .hd 1 (b16.list_.set (Int.toNat v17) ({ e22 with dead_ := true } : T_spec_l19X)).length 0 (b16.list_.set (Int.toNat v17) ({ e22 with dead_ := true } : T_spec_l19X)).length) rfl (hd_lenR _ (List.length_set ..))) ?_
        refine TL.conv (Cs.eqV (t := 74) (v' := .el 1 (b16.list_.set (Int.toNat v17) ({ e22 with dead_ := true } : T_spec_l19X)).length (Int.toNat v17) 0) rfl (el_lenR _ _ _ (List.length_set ..))) ?_
        refine TL.conv (Cs.eqV (t := 75) (v' := .el 1 (b16.list_.set (Int.toNat v17) ({ e22 with dead_ := true } : T_spec_l19X)).length (Int.toNat v17) 1) rfl (el_lenR _ _ _ (List.length_set ..))) ?_
        refine TL.conv (Cs.eqV (t := 83) (v' := .hd 1 (b16.list_.set (Int.toNat v17) ({ e22 with dead_ := true } : T_spec_l19X)).length 0 (b16.list_.set (Int.toNat v17) ({ e22 with dead_ := true } : T_spec_l19X)).length) rfl (hd_lenR _ (List.length_set ..))) ?_
        refine TL.conv (Cs.eqV (t := 85) (v' := .el 1 (b16.list_.set (Int.toNat v17) ({ e22 with dead_ := true } : T_spec_l19X)).length (Int.toNat v17) 0) rfl (el_lenR _ _ _ (List.length_set ..))) ?_
        refine TL.conv (Cs.eqV (t := 86) (v' := .el 1 (b16.list_.set (Int.toNat v17) ({ e22 with dead_ := true } : T_spec_l19X)).length (Int.toNat v17) 6) rfl (el_lenR _ _ _ (List.length_set ..))) ?_
        refine au 5 ?_
        exact Pk.of (thn_normal ⟨(({ b16 with list_ := (b16.list_.set (Int.toNat v17) ({ e22 with dead_ := true } : T_spec_l19X)) } : T_spec_l19S), (IntKind.i64.wrap (v17 + 1))), (some_i H).symm, rfl, rfl⟩)
       ·refine au 5 ?_
        exact Pk.of (thn_normal ⟨(b16, (IntKind.i64.wrap (v17 + 1))), (some_i H).symm, rfl, rfl⟩)
      ·refine T.exit ?_
       refine thn_exit ?_
       exact Pk.of (thn_exit ⟨b16, (some_i H).symm, rfl, rfl, rfl⟩)
     ·rintro _ _ _ ⟨rfl, rfl, rfl⟩
      refine inB_here ?_
      refine au 8 ?_
      refine thn_ret ?_
      cases some_i H
      exact ⟨trivial, _, (.cell _ _ _ _ _ _ _ _ _ _ rfl rfl tyS_31 (nb rfl) rfl .nil), ⟨rfl, _, rfl⟩⟩
    ·refine au 12 ?_
     refine TL.st rfl rfl rfl (o_lenOwn (f := c_T_spec_l19X 2 false) rfl rfl rfl rfl (List.length_map ..)) ?_
     refine au 3 ?_
     obtain ⟨v28, h68, H⟩ := bind_s H
     refine T.lq (fun s => match s with | (v26, v27) => [(0, .bx 0 0), (3, .bx 3 0), (4, .bx 4 0), (7, .int .i64 v26), (94, .hd 1 s0.list_.length 0 s0.list_.length), (95, .int .i64 (s0.list_.length : Int)), (96, .int .i64 v27)]) (fun s => match s with | (v26, v27) => [.box (k_spec_l19S 1 2 c0 ({ s0 with now_ := a0.Time_ } : T_spec_l19S)), .arr .raw 7 (s0.list_.map (c_T_spec_l19X 2 false)), .afm 1 (s2.map (c_ax (c_str))), .box (c_T_impl_SessEvent false a0), .box [.int .i64 0, .str e0, .str e0, .int .i64 0]]) (fun q ex fr σ => match q with | v28 => ex = .exit 2 ∧ fr = [(0, .bx 0 0), (3, .bx 3 0), (4, .bx 4 0), (7, .int .i64 v28)] ∧ σ = [.box (k_spec_l19S 1 2 c0 ({ s0 with now_ := a0.Time_ } : T_spec_l19S)), .arr .raw 7 (s0.list_.map (c_T_spec_l19X 2 false)), .afm 1 (s2.map (c_ax (c_str))), .box (c_T_impl_SessEvent false a0), .box [.int .i64 0, .str e0, .str e0, .int .i64 0]]) h68 ?_ ?_
     ·rintro ⟨v26, v27⟩ y60 H
      refine au 5 ?_
      refine T.cH H (fun H h => ?_) (fun H h => ?_)
      ·refine au 6 ?_
       obtain ⟨e61, h62, H⟩ := bind_s H
       refine TL.st rfl rfl rfl (o_ixh (f := c_T_spec_l19X 2 false) rfl rfl tyS_65 rfl rfl rfl (List.length_map ..) h62 rfl) ?_
       refine TL.st rfl rfl rfl (o_loadEl rfl tyS_65 rfl rfl (List.length_map ..) (by rw [List.getElem?_map, (idx_s h62).2]; rfl) (nb rfl) rfl) ?_
       refine au 10 ?_
       obtain ⟨x63, h64, H⟩ := bind_s H
       obtain ⟨r65, h66, H⟩ := bind_s H
       refine TL.st rfl rfl rfl (o_callP rfl en_26 rfl rfl (.cons _ _ _ _ (.ax (f := c_str) h64 rfl) (.cons _ _ _ _ (.cl _ rfl) .nil)) (spec_l3Has_p true h66)) ?_
       refine TL.nil ?_
       refine T.cH H (fun H h => ?_) (fun H h => ?_)
       ·refine au 8 ?_
        exact Pk.of (thn_normal ⟨(v27, (IntKind.i64.wrap (v27 + 1))), (some_i H).symm, rfl, rfl⟩)
       ·refine au 5 ?_
        exact Pk.of (thn_normal ⟨(v26, (IntKind.i64.wrap (v27 + 1))), (some_i H).symm, rfl, rfl⟩)
      ·refine T.exit ?_
       refine thn_exit ?_
       exact Pk.of (thn_exit ⟨v26, (some_i H).symm, rfl, rfl, rfl⟩)
     ·rintro _ _ _ ⟨rfl, rfl, rfl⟩
      refine inB_here ?_
      refine au 6 ?_
      refine T.cH H (fun H h => ?_) (fun H h => ?_)
      ·refine au 2 ?_
       obtain ⟨r29, h30, H⟩ := bind_s H
       refine TL.st rfl rfl rfl (o_callP rfl en_31 rfl rfl (.cons _ _ _ _ (.cl _ rfl) .nil) (spec_l19Err_p  h30)) ?_
       refine au 3 ?_
       refine thn_ret ?_
       cases some_i H
       exact ⟨trivial, _, (.cell _ _ _ _ _ _ _ _ _ _ rfl rfl tyS_31 (nb rfl) rfl .nil), ⟨rfl, _, rfl⟩⟩
      ·refine au 8 ?_
       obtain ⟨e31, h32, H⟩ := bind_s H
       refine TL.st rfl rfl rfl (o_ixh (f := c_T_spec_l19X 2 false) rfl rfl tyS_65 rfl rfl rfl (List.length_map ..) h32 rfl) ?_
       refine au 4 ?_
       refine T.drawn rfl ?_
       refine TD.qs rfl rfl (fun _ => o_move rfl rfl) ?_
       refine TD.rs rfl rfl (o_nilCheckEl rfl rfl rfl (List.length_map ..)) ?_
       refine TD.rs rfl rfl (o_fieldAddrEl rfl rfl rfl tyS_56 (by decide) rfl rfl (List.length_map ..)) ?_
       refine TD.rs rfl rfl (o_loadEl rfl tyS_56 rfl rfl (List.length_map ..) (by rw [List.getElem?_map, (idx_s h32).2]; rfl) (nb rfl) rfl) ?_
       refine TD.qs rfl rfl (fun _ => o_move rfl rfl) ?_
       refine TD.rs rfl rfl (o_nilCheckEl rfl rfl rfl (List.length_map ..)) ?_
       refine TD.rs rfl rfl (o_fieldAddrEl rfl rfl rfl tyS_56 (by decide) rfl rfl (List.length_map ..)) ?_
       refine TD.rs rfl rfl (o_loadEl rfl tyS_56 rfl rfl (List.length_map ..) (by rw [List.getElem?_map, (idx_s h32).2]; rfl) (nb rfl) rfl) ?_
       obtain ⟨x33, h34, H⟩ := bind_s H
       refine TD.rs rfl rfl (o_lenX (f := c_str) (L := s2) (xs := x33) rfl rfl rfl rfl h34) ?_
       refine TD.qs rfl rfl (fun _ => o_ari rfl rfl rfl rfl) ?_
       obtain ⟨e35, h36, H⟩ := bind_s H
       refine TD.rs rfl rfl (o_ixX (f := c_str) (L := s2) (xs := x33) rfl rfl tyS_9 rfl rfl rfl h34 h36) ?_
       refine TD.rs rfl rfl (o_loadX (f := c_str) (L := s2) (xs := x33) (a0 := e35) rfl tyS_9 rfl rfl h34 h36 (nb rfl) rfl) ?_
       refine ad 2 ?_
       refine TD.qs rfl rfl (fun _ => o_str rfl rfl rfl rfl) ?_
       refine ad 2 ?_
       refine TD.cr rfl rfl rfl (.bool _) rfl (fun h => o_nilCheckEl rfl (gv h rfl) rfl (List.length_map ..)) ?_
       refine TD.cr rfl rfl rfl (.bool _) rfl (fun h => o_fieldAddrEl rfl rfl rfl tyS_9 (by decide) (gv h rfl) rfl (List.length_map ..)) ?_
       refine TD.cr rfl rfl rfl (.bool _) rfl (fun h => o_loadEl rfl tyS_9 (gv h rfl) rfl (List.length_map ..) (by rw [List.getElem?_map, (idx_s h32).2]; rfl) (nb rfl) rfl) ?_
       refine ad 2 ?_
       refine TD.cq rfl rfl rfl (.bool _) rfl (fun h _ => o_str rfl (gv h rfl) (gv h rfl) rfl) ?_
       refine TD.qs rfl rfl (fun _ => o_or rfl rfl rfl rfl (fun k => Gd_t k)) ?_
       refine TD.nil ⟨rfl, ?_⟩
       refine thn_normal ?_
       refine T.cH H (fun H h => ?_) (fun H h => ?_)
       ·refine au 3 ?_
        refine TL.st rfl rfl rfl (o_nilCheckEl rfl rfl rfl (List.length_map ..)) ?_
        refine TL.st rfl rfl rfl (o_fieldAddrEl rfl rfl rfl tyS_4 (by decide) rfl rfl (List.length_map ..)) ?_
        refine TL.sn rfl rfl (o_stEl (f := c_T_spec_l19X 2 false) (xs := s0.list_) (k := v28) (a := e31) ({ e31 with dead_ := true } : T_spec_l19X) rfl tyS_4 rfl rfl rfl (List.length_map ..) (by decide) h32 rfl rfl rfl (fun h => absurd rfl h) rfl) ?_
        refine TL.conv (Cs.eqS (σ := [.box ((c_T_impl_SessConf c0 s0.c_) ++ [.int .i64 a0.Time_, .int .i64 s0.given_, .hd 1 s0.list_.length 0 s0.list_.length]), .arr .raw 7 ((s0.list_.set (Int.toNat v28) ({ e31 with dead_ := true } : T_spec_l19X)).map (c_T_spec_l19X 2 false)), .afm 1 (s2.map (c_ax (c_str))), .box (c_T_impl_SessEvent false a0), .box [.int .i64 0, .str e0, .str e0, .int .i64 0]]) (σ' := [.box ((c_T_impl_SessConf c0 s0.c_) ++ [.int .i64 a0.Time_, .int .i64 s0.given_, .hd 1 (s0.list_.set (Int.toNat v28) ({ e31 with dead_ := true } : T_spec_l19X)).length 0 (s0.list_.set (Int.toNat v28) ({ e31 with dead_ := true } : T_spec_l19X)).length]), .arr .raw 7 ((s0.list_.set (Int.toNat v28) ({ e31 with dead_ := true } : T_spec_l19X)).map (c_T_spec_l19X 2 false)), .afm 1 (s2.map (c_ax (c_str))), .box (c_T_impl_SessEvent false a0), .box [.int .i64 0, .str e0, .str e0, .int .i64 0]]) (by simp only [List.length_map, List.length_set])) ?_
        refine TL.conv (Cs.eqV (t := 10) (v' := .el 1 (s0.list_.set (Int.toNat v28) ({ e31 with dead_ := true } : T_spec_l19X)).length (Int.toNat v28) 0) rfl (el_lenR _ _ _ (List.length_set ..))) ?_
        refine TL.conv (Cs.eqV (t := 114) (v' := .hd 1 (s0.list_.set (Int.toNat v28) ({ e31 with dead_ := true } : T_spec_l19X)).length 0 (s0.list_.set (Int.toNat v28) ({ e31 with dead_ := true } : T_spec_l19X)).length) rfl (hd_lenR _ (List.length_set ..))) ?_
        refine TL.conv (Cs.eqV (t := 116) (v' := .el 1 (s0.list_.set (Int.toNat v28) ({ e31 with dead_ := true } : T_spec_l19X)).length (Int.toNat v28) 0) rfl (el_lenR _ _ _ (List.length_set ..))) ?_
        refine TL.conv (Cs.eqV (t := 117) (v' := .el 1 (s0.list_.set (Int.toNat v28) ({ e31 with dead_ := true } : T_spec_l19X)).length (Int.toNat v28) 0) rfl (el_lenR _ _ _ (List.length_set ..))) ?_
        refine TL.conv (Cs.eqV (t := 118) (v' := .el 1 (s0.list_.set (Int.toNat v28) ({ e31 with dead_ := true } : T_spec_l19X)).length (Int.toNat v28) 0) rfl (el_lenR _ _ _ (List.length_set ..))) ?_
        refine TL.conv (Cs.eqV (t := 119) (v' := .el 1 (s0.list_.set (Int.toNat v28) ({ e31 with dead_ := true } : T_spec_l19X)).length (Int.toNat v28) 0) rfl (el_lenR _ _ _ (List.length_set ..))) ?_
        refine TL.conv (Cs.eqV (t := 121) (v' := .el 1 (s0.list_.set (Int.toNat v28) ({ e31 with dead_ := true } : T_spec_l19X)).length (Int.toNat v28) 0) rfl (el_lenR _ _ _ (List.length_set ..))) ?_
        refine TL.conv (Cs.eqV (t := 122) (v' := .el 1 (s0.list_.set (Int.toNat v28) ({ e31 with dead_ := true } : T_spec_l19X)).length (Int.toNat v28) 0) rfl (el_lenR _ _ _ (List.length_set ..))) ?_
        refine TL.conv (Cs.eqV (t := 123) (v' := .el 1 (s0.list_.set (Int.toNat v28) ({ e31 with dead_ := true } : T_spec_l19X)).length (Int.toNat v28) 0) rfl (el_lenR _ _ _ (List.length_set ..))) ?_
        refine TL.conv (Cs.eqV (t := 141) (v' := .el 1 (s0.list_.set (Int.toNat v28) ({ e31 with dead_ := true } : T_spec_l19X)).length (Int.toNat v28) 0) rfl (el_lenR _ _ _ (List.length_set ..))) ?_
        refine TL.conv (Cs.eqV (t := 142) (v' := .el 1 (s0.list_.set (Int.toNat v28) ({ e31 with dead_ := true } : T_spec_l19X)).length (Int.toNat v28) 0) rfl (el_lenR _ _ _ (List.length_set ..))) ?_
        refine TL.conv (Cs.eqV (t := 143) (v' := .el 1 (s0.list_.set (Int.toNat v28) ({ e31 with dead_ := true } : T_spec_l19X)).length (Int.toNat v28) 6) rfl (el_lenR _ _ _ (List.length_set ..))) ?_
        refine au 3 ?_
        obtain ⟨r37, h38, H⟩ := bind_s H
        refine TL.st rfl rfl rfl (o_callP rfl en_31 rfl rfl (.cons _ _ _ _ (.cl _ rfl) .nil) (spec_l19Err_p  h38)) ?_
        refine au 3 ?_
        refine thn_ret ?_
        cases some_i H
        exact ⟨trivial, _, (.cell _ _ _ _ _ _ _ _ _ _ rfl rfl tyS_31 (nb rfl) rfl .nil), ⟨rfl, _, rfl⟩⟩
       ·refine au 5 ?_
        refine TL.st rfl rfl rfl (o_nilCheckEl rfl rfl rfl (List.length_map ..)) ?_
        refine TL.st rfl rfl rfl (o_fieldAddrEl rfl rfl rfl tyS_4 (by decide) rfl rfl (List.length_map ..)) ?_
        refine TL.st rfl rfl rfl (o_loadEl rfl tyS_4 rfl rfl (List.length_map ..) (by rw [List.getElem?_map, (idx_s h32).2]; rfl) (nb rfl) rfl) ?_
        refine TL.nil ?_
        refine T.cH H (fun H h => ?_) (fun H h => ?_)
        ·refine au 2 ?_
         obtain ⟨r39, h40, H⟩ := bind_s H
         refine TL.st rfl rfl rfl (o_callP rfl en_31 rfl rfl (.cons _ _ _ _ (.cl _ rfl) .nil) (spec_l19Err_p  h40)) ?_
         refine au 3 ?_
         refine thn_ret ?_
         cases some_i H
         exact ⟨trivial, _, (.cell _ _ _ _ _ _ _ _ _ _ rfl rfl tyS_31 (nb rfl) rfl .nil), ⟨rfl, _, rfl⟩⟩
        ·refine au 3 ?_
         refine T.drawn rfl ?_
         refine ad 2 ?_
         refine TD.rs rfl rfl (o_nilCheckEl rfl rfl rfl (List.length_map ..)) ?_
         refine TD.rs rfl rfl (o_loadEl rfl tyS_65 rfl rfl (List.length_map ..) (by rw [List.getElem?_map, (idx_s h32).2]; rfl) (nb rfl) rfl) ?_
         refine ad 4 ?_
         obtain ⟨r41, h42, H⟩ := bind_s H
         refine TD.rs rfl rfl (o_callM [0, 1, 2] rfl en_19 rfl rfl (spec_l19S_over_p c0 h42) rfl (by decide) (.cons _ _ _ _ rfl (.cons _ _ _ _ (ren_at rfl (ren_rawO fun _ => rfl)) (.cons _ _ _ _ rfl .nil))) rfl rfl (.cons _ _ _ _ rfl (.cons _ _ _ _ (ren_rawO fun _ => rfl) (.cons _ _ _ _ rfl .nil))) rfl) ?_
         refine TD.nil ⟨rfl, ?_⟩
         refine thn_normal ?_
         refine T.cH H (fun H h => ?_) (fun H h => ?_)
         ·refine au 2 ?_
          obtain ⟨r43, h44, H⟩ := bind_s H
          refine TL.st rfl rfl rfl (o_callP rfl en_31 rfl rfl (.cons _ _ _ _ (.cl _ rfl) .nil) (spec_l19Err_p  h44)) ?_
          refine au 3 ?_
          refine thn_ret ?_
          cases some_i H
          exact ⟨trivial, _, (.cell _ _ _ _ _ _ _ _ _ _ rfl rfl tyS_31 (nb rfl) rfl .nil), ⟨rfl, _, rfl⟩⟩
         ·refine au 8 ?_
          refine TL.st rfl rfl rfl (o_nilCheckEl rfl rfl rfl (List.length_map ..)) ?_
          refine TL.st rfl rfl rfl (o_fieldAddrEl rfl rfl rfl tyS_3 (by decide) rfl rfl (List.length_map ..)) ?_
          refine TL.sn rfl rfl (o_stEl (f := c_T_spec_l19X 2 false) (xs := s0.list_) (k := v28) (a := e31) ({ e31 with last_ := a0.Time_ } : T_spec_l19X) rfl tyS_3 rfl rfl rfl (List.length_map ..) (by decide) h32 rfl rfl rfl (fun h => absurd rfl h) rfl) ?_
          refine TL.conv (Cs.eqS (σ := [.box ((c_T_impl_SessConf c0 s0.c_) ++ [.int .i64 a0.Time_, .int .i64 s0.given_, .hd 1 s0.list_.length 0 s0.list_.length]), .arr .raw 7 ((s0.list_.set (Int.toNat v28) ({ e31 with last_ := a0.Time_ } : T_spec_l19X)).map (c_T_spec_l19X 2 false)), .afm 1 (s2.map (c_ax (c_str))), .box (c_T_impl_SessEvent false a0), .box [.int .i64 0, .str e0, .str e0, .int .i64 0]]) (σ' := [.box ((c_T_impl_SessConf c0 s0.c_) ++ [.int .i64 a0.Time_, .int .i64 s0.given_, .hd 1 (s0.list_.set (Int.toNat v28) ({ e31 with last_ := a0.Time_ } : T_spec_l19X)).length 0 (s0.list_.set (Int.toNat v28) ({ e31 with last_ := a0.Time_ } : T_spec_l19X)).length]), .arr .raw 7 ((s0.list_.set (Int.toNat v28) ({ e31 with last_ := a0.Time_ } : T_spec_l19X)).map (c_T_spec_l19X 2 false)), .afm 1 (s2.map (c_ax (c_str))), .box (c_T_impl_SessEvent false a0), .box [.int .i64 0, .str e0, .str e0, .int .i64 0]]) (by simp only [List.length_map, List.length_set])) ?_
          refine TL.conv (Cs.eqV (t := 10) (v' := .el 1 (s0.list_.set (Int.toNat v28) ({ e31 with last_ := a0.Time_ } : T_spec_l19X)).length (Int.toNat v28) 0) rfl (el_lenR _ _ _ (List.length_set ..))) ?_
          refine TL.conv (Cs.eqV (t := 114) (v' := .hd 1 (s0.list_.set (Int.toNat v28) ({ e31 with last_ := a0.Time_ } : T_spec_l19X)).length 0 (s0.list_.set (Int.toNat v28) ({ e31 with last_ := a0.Time_ } : T_spec_l19X)).length) rfl (hd_lenR _ (List.length_set ..))) ?_
          refine TL.conv (Cs.eqV (t := 116) (v' := .el 1 (s0.list_.set (Int.toNat v28) ({ e31 with last_ := a0.Time_ } : T_spec_l19X)).length (Int.toNat v28) 0) rfl (el_lenR _ _ _ (List.length_set ..))) ?_
          refine TL.conv (Cs.eqV (t := 117) (v' := .el 1 (s0.list_.set (Int.toNat v28) ({ e31 with last_ := a0.Time_ } : T_spec_l19X)).length (Int.toNat v28) 0) rfl (el_lenR _ _ _ (List.length_set ..))) ?_
          refine TL.conv (Cs.eqV (t := 118) (v' := .el 1 (s0.list_.set (Int.toNat v28) ({ e31 with last_ := a0.Time_ } : T_spec_l19X)).length (Int.toNat v28) 0) rfl (el_lenR _ _ _ (List.length_set ..))) ?_
          refine TL.conv (Cs.eqV (t := 119) (v' := .el 1 (s0.list_.set (Int.toNat v28) ({ e31 with last_ := a0.Time_ } : T_spec_l19X)).length (Int.toNat v28) 0) rfl (el_lenR _ _ _ (List.length_set ..))) ?_
          refine TL.conv (Cs.eqV (t := 121) (v' := .el 1 (s0.list_.set (Int.toNat v28) ({ e31 with last_ := a0.Time_ } : T_spec_l19X)).length (Int.toNat v28) 0) rfl (el_lenR _ _ _ (List.length_set ..))) ?_
          refine TL.conv (Cs.eqV (t := 122) (v' := .el 1 (s0.list_.set (Int.toNat v28) ({ e31 with last_ := a0.Time_ } : T_spec_l19X)).length (Int.toNat v28) 0) rfl (el_lenR _ _ _ (List.length_set ..))) ?_
          refine TL.conv (Cs.eqV (t := 123) (v' := .el 1 (s0.list_.set (Int.toNat v28) ({ e31 with last_ := a0.Time_ } : T_spec_l19X)).length (Int.toNat v28) 0) rfl (el_lenR _ _ _ (List.length_set ..))) ?_
          refine TL.conv (Cs.eqV (t := 145) (v' := .el 1 (s0.list_.set (Int.toNat v28) ({ e31 with last_ := a0.Time_ } : T_spec_l19X)).length (Int.toNat v28) 0) rfl (el_lenR _ _ _ (List.length_set ..))) ?_
          refine TL.conv (Cs.eqV (t := 146) (v' := .el 1 (s0.list_.set (Int.toNat v28) ({ e31 with last_ := a0.Time_ } : T_spec_l19X)).length (Int.toNat v28) 0) rfl (el_lenR _ _ _ (List.length_set ..))) ?_
          refine TL.conv (Cs.eqV (t := 147) (v' := .el 1 (s0.list_.set (Int.toNat v28) ({ e31 with last_ := a0.Time_ } : T_spec_l19X)).length (Int.toNat v28) 6) rfl (el_lenR _ _ _ (List.length_set ..))) ?_
          refine TL.conv (Cs.eqV (t := 151) (v' := .el 1 (s0.list_.set (Int.toNat v28) ({ e31 with last_ := a0.Time_ } : T_spec_l19X)).length (Int.toNat v28) 0) rfl (el_lenR _ _ _ (List.length_set ..))) ?_
          refine TL.conv (Cs.eqV (t := 152) (v' := .el 1 (s0.list_.set (Int.toNat v28) ({ e31 with last_ := a0.Time_ } : T_spec_l19X)).length (Int.toNat v28) 0) rfl (el_lenR _ _ _ (List.length_set ..))) ?_
          refine TL.conv (Cs.eqV (t := 160) (v' := .el 1 (s0.list_.set (Int.toNat v28) ({ e31 with last_ := a0.Time_ } : T_spec_l19X)).length (Int.toNat v28) 0) rfl (el_lenR _ _ _ (List.length_set ..))) ?_
          refine TL.conv (Cs.eqV (t := 165) (v' := .el 1 (s0.list_.set (Int.toNat v28) ({ e31 with last_ := a0.Time_ } : T_spec_l19X)).length (Int.toNat v28) 0) rfl (el_lenR _ _ _ (List.length_set ..))) ?_
          refine TL.conv (Cs.eqV (t := 166) (v' := .el 1 (s0.list_.set (Int.toNat v28) ({ e31 with last_ := a0.Time_ } : T_spec_l19X)).length (Int.toNat v28) 5) rfl (el_lenR _ _ _ (List.length_set ..))) ?_
          refine TL.nil ?_
          refine T.cut (fun fr' σ' => ∃ (b45 : T_spec_l19S) (f46 : List (Option (List ByteArray))), fr' = [(4, .bx 4 0), (10, .el 1 b45.list_.length (Int.toNat v28) 0)] ∧ σ' = [.box (k_spec_l19S 1 2 c0 b45), .arr .raw 7 (b45.list_.map (c_T_spec_l19X 2 false)), .afm 1 (f46.map (c_ax (c_str))), .box (c_T_impl_SessEvent false a0), .box [.int .i64 0, .str e0, .str e0, .int .i64 0]] ∧ spec_l19S_do_j1 v28 b45 f46 = some (R0, U0, U2)) (T.pk ?_) ?_
          ·skip
           refine au 11 ?_
           refine T.cH H (fun H h => ?_) (fun H h => ?_)
           ·refine au 4 ?_
            refine TL.st rfl rfl rfl (o_nilCheckEl rfl rfl rfl (List.length_map ..)) ?_
            refine TL.st rfl rfl rfl (o_fieldAddrEl rfl rfl rfl tyS_3 (by decide) rfl rfl (List.length_map ..)) ?_
            refine TL.st rfl rfl rfl (o_loadEl rfl tyS_3 rfl rfl (List.length_map ..) (by rw [List.getElem?_map, (idx_s (idx_set h32)).2]; rfl) (nb rfl) rfl) ?_
            refine TL.st rfl rfl rfl (o_ari rfl rfl rfl rfl) ?_
            obtain ⟨r51, h52, H⟩ := bind_s H
            refine TL.st rfl rfl rfl (o_callP rfl en_24 rfl rfl (.cons _ _ _ _ (.cl _ rfl) (.cons _ _ _ _ (.cl _ rfl) .nil)) (spec_l15Lesser_p  h52)) ?_
            refine TL.st rfl rfl rfl (o_nilCheckEl rfl rfl rfl (List.length_map ..)) ?_
            refine TL.st rfl rfl rfl (o_fieldAddrEl rfl rfl rfl tyS_3 (by decide) rfl rfl (List.length_map ..)) ?_
            refine TL.sn rfl rfl (o_stEl (f := c_T_spec_l19X 2 false) (xs := (s0.list_.set (Int.toNat v28) ({ e31 with last_ := a0.Time_ } : T_spec_l19X))) (k := v28) (a := ({ e31 with last_ := a0.Time_ } : T_spec_l19X)) ({ e31 with level_ := r51, last_ := a0.Time_ } : T_spec_l19X) rfl tyS_3 rfl rfl rfl (List.length_map ..) (by decide) (idx_set h32) rfl rfl rfl (fun h => absurd rfl h) rfl) ?_
            refine TL.conv (Cs.eqS (σ := [.box ((c_T_impl_SessConf c0 s0.c_) ++ [.int .i64 a0.Time_, .int .i64 s0.given_, .hd 1 (s0.list_.set (Int.toNat v28) ({ e31 with last_ := a0.Time_ } : T_spec_l19X)).length 0 (s0.list_.set (Int.toNat v28) ({ e31 with last_ := a0.Time_ } : T_spec_l19X)).length]), .arr .raw 7 (((s0.list_.set (Int.toNat v28) ({ e31 with last_ := a0.Time_ } : T_spec_l19X)).set (Int.toNat v28) ({ e31 with level_ := r51, last_ := a0.Time_ } : T_spec_l19X)).map (c_T_spec_l19X 2 false)), .afm 1 (s2.map (c_ax (c_str))), .box (c_T_impl_SessEvent false a0), .box [.int .i64 0, .str e0, .str e0, .int .i64 0]]) (σ' := [.box ((c_T_impl_SessConf c0 s0.c_) ++ [.int .i64 a0.Time_, .int .i64 s0.given_, .hd 1 ((s0.list_.set (Int.toNat v28) ({ e31 with last_ := a0.Time_ } : T_spec_l19X)).set (Int.toNat v28) ({ e31 with level_ := r51, last_ := a0.Time_ } : T_spec_l19X)).length 0 ((s0.list_.set (Int.toNat v28) ({ e31 with last_ := a0.Time_ } : T_spec_l19X)).set (Int.toNat v28) ({ e31 with level_ := r51, last_ := a0.Time_ } : T_spec_l19X)).length]), .arr .raw 7 (((s0.list_.set (Int.toNat v28) ({ e31 with last_ := a0.Time_ } : T_spec_l19X)).set (Int.toNat v28) ({ e31 with level_ := r51, last_ := a0.Time_ } : T_spec_l19X)).map (c_T_spec_l19X 2 false)), .afm 1 (s2.map (c_ax (c_str))), .box (c_T_impl_SessEvent false a0), .box [.int .i64 0, .str e0, .str e0, .int .i64 0]]) (by simp only [List.length_map, List.length_set])) ?_
            refine TL.conv (Cs.eqV (t := 10) (v' := .el 1 ((s0.list_.set (Int.toNat v28) ({ e31 with last_ := a0.Time_ } : T_spec_l19X)).set (Int.toNat v28) ({ e31 with level_ := r51, last_ := a0.Time_ } : T_spec_l19X)).length (Int.toNat v28) 0) rfl (el_lenR _ _ _ (List.length_set ..))) ?_
            refine TL.conv (Cs.eqV (t := 114) (v' := .hd 1 ((s0.list_.set (Int.toNat v28) ({ e31 with last_ := a0.Time_ } : T_spec_l19X)).set (Int.toNat v28) ({ e31 with level_ := r51, last_ := a0.Time_ } : T_spec_l19X)).length 0 ((s0.list_.set (Int.toNat v28) ({ e31 with last_ := a0.Time_ } : T_spec_l19X)).set (Int.toNat v28) ({ e31 with level_ := r51, last_ := a0.Time_ } : T_spec_l19X)).length) rfl (hd_lenR _ (List.length_set ..))) ?_
            refine TL.conv (Cs.eqV (t := 116) (v' := .el 1 ((s0.list_.set (Int.toNat v28) ({ e31 with last_ := a0.Time_ } : T_spec_l19X)).set (Int.toNat v28) ({ e31 with level_ := r51, last_ := a0.Time_ } : T_spec_l19X)).length (Int.toNat v28) 0) rfl (el_lenR _ _ _ (List.length_set ..))) ?_
            refine TL.conv (Cs.eqV (t := 117) (v' := .el 1 ((s0.list_.set (Int.toNat v28) ({ e31 with last_ := a0.Time_ } : T_spec_l19X)).set (Int.toNat v28) ({ e31 with level_ := r51, last_ := a0.Time_ } : T_spec_l19X)).length (Int.toNat v28) 0) rfl (el_lenR _ _ _ (List.length_set ..))) ?_
            refine TL.conv (Cs.eqV (t := 118) (v' := .el 1 ((s0.list_.set (Int.toNat v28) ({ e31 with last_ := a0.Time_ } : T_spec_l19X)).set (Int.toNat v28) ({ e31 with level_ := r51, last_ := a0.Time_ } : T_spec_l19X)).length (Int.toNat v28) 0) rfl (el_lenR _ _ _ (List.length_set ..))) ?_
            refine TL.conv (Cs.eqV (t := 119) (v' := .el 1 ((s0.list_.set (Int.toNat v28) ({ e31 with last_ := a0.Time_ } : T_spec_l19X)).set (Int.toNat v28) ({ e31 with level_ := r51, last_ := a0.Time_ } : T_spec_l19X)).length (Int.toNat v28) 0) rfl (el_lenR _ _ _ (List.length_set ..))) ?_
            refine TL.conv (Cs.eqV (t := 121) (v' := .el 1 ((s0.list_.set (Int.toNat v28) ({ e31 with last_ := a0.Time_ } : T_spec_l19X)).set (Int.toNat v28) ({ e31 with level_ := r51, last_ := a0.Time_ } : T_spec_l19X)).length (Int.toNat v28) 0) rfl (el_lenR _ _ _ (List.length_set ..))) ?_
            refine TL.conv (Cs.eqV (t := 122) (v' := .el 1 ((s0.list_.set (Int.toNat v28) ({ e31 with last_ := a0.Time_ } : T_spec_l19X)).set (Int.toNat v28) ({ e31 with level_ := r51, last_ := a0.Time_ } : T_spec_l19X)).length (Int.toNat v28) 0) rfl (el_lenR _ _ _ (List.length_set ..))) ?_
            refine TL.conv (Cs.eqV (t := 123) (v' := .el 1 ((s0.list_.set (Int.toNat v28) ({ e31 with last_ := a0.Time_ } : T_spec_l19X)).set (Int.toNat v28) ({ e31 with level_ := r51, last_ := a0.Time_ } : T_spec_l19X)).length (Int.toNat v28) 0) rfl (el_lenR _ _ _ (List.length_set ..))) ?_
            refine TL.conv (Cs.eqV (t := 145) (v' := .el 1 ((s0.list_.set (Int.toNat v28) ({ e31 with last_ := a0.Time_ } : T_spec_l19X)).set (Int.toNat v28) ({ e31 with level_ := r51, last_ := a0.Time_ } : T_spec_l19X)).length (Int.toNat v28) 0) rfl (el_lenR _ _ _ (List.length_set ..))) ?_
            refine TL.conv (Cs.eqV (t := 146) (v' := .el 1 ((s0.list_.set (Int.toNat v28) ({ e31 with last_ := a0.Time_ } : T_spec_l19X)).set (Int.toNat v28) ({ e31 with level_ := r51, last_ := a0.Time_ } : T_spec_l19X)).length (Int.toNat v28) 0) rfl (el_lenR _ _ _ (List.length_set ..))) ?_
            refine TL.conv (Cs.eqV (t := 147) (v' := .el 1 ((s0.list_.set (Int.toNat v28) ({ e31 with last_ := a0.Time_ } : T_spec_l19X)).set (Int.toNat v28) ({ e31 with level_ := r51, last_ := a0.Time_ } : T_spec_l19X)).length (Int.toNat v28) 6) rfl (el_lenR _ _ _ (List.length_set ..))) ?_
            refine TL.conv (Cs.eqV (t := 151) (v' := .el 1 ((s0.list_.set (Int.toNat v28) ({ e31 with last_ := a0.Time_ } : T_spec_l19X)).set (Int.toNat v28) ({ e31 with level_ := r51, last_ := a0.Time_ } : T_spec_l19X)).length (Int.toNat v28) 0) rfl (el_lenR _ _ _ (List.length_set ..))) ?_
            refine TL.conv (Cs.eqV (t := 152) (v' := .el 1 ((s0.list_.set (Int.toNat v28) ({ e31 with last_ := a0.Time_ } : T_spec_l19X)).set (Int.toNat v28) ({ e31 with level_ := r51, last_ := a0.Time_ } : T_spec_l19X)).length (Int.toNat v28) 0) rfl (el_lenR _ _ _ (List.length_set ..))) ?_
            refine TL.conv (Cs.eqV (t := 160) (v' := .el 1 ((s0.list_.set (Int.toNat v28) ({ e31 with last_ := a0.Time_ } : T_spec_l19X)).set (Int.toNat v28) ({ e31 with level_ := r51, last_ := a0.Time_ } : T_spec_l19X)).length (Int.toNat v28) 0) rfl (el_lenR _ _ _ (List.length_set ..))) ?_
            refine TL.conv (Cs.eqV (t := 165) (v' := .el 1 ((s0.list_.set (Int.toNat v28) ({ e31 with last_ := a0.Time_ } : T_spec_l19X)).set (Int.toNat v28) ({ e31 with level_ := r51, last_ := a0.Time_ } : T_spec_l19X)).length (Int.toNat v28) 0) rfl (el_lenR _ _ _ (List.length_set ..))) ?_
            refine TL.conv (Cs.eqV (t := 166) (v' := .el 1 ((s0.list_.set (Int.toNat v28) ({ e31 with last_ := a0.Time_ } : T_spec_l19X)).set (Int.toNat v28) ({ e31 with level_ := r51, last_ := a0.Time_ } : T_spec_l19X)).length (Int.toNat v28) 5) rfl (el_lenR _ _ _ (List.length_set ..))) ?_
            refine TL.conv (Cs.eqV (t := 171) (v' := .el 1 ((s0.list_.set (Int.toNat v28) ({ e31 with last_ := a0.Time_ } : T_spec_l19X)).set (Int.toNat v28) ({ e31 with level_ := r51, last_ := a0.Time_ } : T_spec_l19X)).length (Int.toNat v28) 0) rfl (el_lenR _ _ _ (List.length_set ..))) ?_
            refine TL.conv (Cs.eqV (t := 172) (v' := .el 1 ((s0.list_.set (Int.toNat v28) ({ e31 with last_ := a0.Time_ } : T_spec_l19X)).set (Int.toNat v28) ({ e31 with level_ := r51, last_ := a0.Time_ } : T_spec_l19X)).length (Int.toNat v28) 0) rfl (el_lenR _ _ _ (List.length_set ..))) ?_
            refine TL.conv (Cs.eqV (t := 173) (v' := .el 1 ((s0.list_.set (Int.toNat v28) ({ e31 with last_ := a0.Time_ } : T_spec_l19X)).set (Int.toNat v28) ({ e31 with level_ := r51, last_ := a0.Time_ } : T_spec_l19X)).length (Int.toNat v28) 0) rfl (el_lenR _ _ _ (List.length_set ..))) ?_
            refine TL.conv (Cs.eqV (t := 174) (v' := .el 1 ((s0.list_.set (Int.toNat v28) ({ e31 with last_ := a0.Time_ } : T_spec_l19X)).set (Int.toNat v28) ({ e31 with level_ := r51, last_ := a0.Time_ } : T_spec_l19X)).length (Int.toNat v28) 3) rfl (el_lenR _ _ _ (List.length_set ..))) ?_
            refine TL.conv (Cs.eqV (t := 178) (v' := .el 1 ((s0.list_.set (Int.toNat v28) ({ e31 with last_ := a0.Time_ } : T_spec_l19X)).set (Int.toNat v28) ({ e31 with level_ := r51, last_ := a0.Time_ } : T_spec_l19X)).length (Int.toNat v28) 0) rfl (el_lenR _ _ _ (List.length_set ..))) ?_
            refine TL.conv (Cs.eqV (t := 179) (v' := .el 1 ((s0.list_.set (Int.toNat v28) ({ e31 with last_ := a0.Time_ } : T_spec_l19X)).set (Int.toNat v28) ({ e31 with level_ := r51, last_ := a0.Time_ } : T_spec_l19X)).length (Int.toNat v28) 3) rfl (el_lenR _ _ _ (List.length_set ..))) ?_
            refine TL.nil ?_
            refine thn_normal ?_
            obtain ⟨⟨r53, o54⟩, h55, H⟩ := bind_s H
            obtain ⟨u56, h57, H⟩ := bind_s H
            obtain ⟨l58, h59, H⟩ := bind_s H
            refine T.drawS (fr' := [(0, .bx 0 0), (3, .bx 3 0), (4, .bx 4 0), (7, .int .i64 v28), (10, .el 1 ((s0.list_.set (Int.toNat v28) ({ e31 with last_ := a0.Time_ } : T_spec_l19X)).set (Int.toNat v28) ({ e31 with level_ := r51, last_ := a0.Time_ } : T_spec_l19X)).length (Int.toNat v28) 0), (108, .int .i64 v28), (109, .bool (decide (v28 < 0))), (111, .bx 0 0), (112, .bx 0 0), (113, .bx 0 5), (114, .hd 1 ((s0.list_.set (Int.toNat v28) ({ e31 with last_ := a0.Time_ } : T_spec_l19X)).set (Int.toNat v28) ({ e31 with level_ := r51, last_ := a0.Time_ } : T_spec_l19X)).length 0 ((s0.list_.set (Int.toNat v28) ({ e31 with last_ := a0.Time_ } : T_spec_l19X)).set (Int.toNat v28) ({ e31 with level_ := r51, last_ := a0.Time_ } : T_spec_l19X)).length), (115, .int .i64 v28), (116, .el 1 ((s0.list_.set (Int.toNat v28) ({ e31 with last_ := a0.Time_ } : T_spec_l19X)).set (Int.toNat v28) ({ e31 with level_ := r51, last_ := a0.Time_ } : T_spec_l19X)).length (Int.toNat v28) 0), (117, .el 1 ((s0.list_.set (Int.toNat v28) ({ e31 with last_ := a0.Time_ } : T_spec_l19X)).set (Int.toNat v28) ({ e31 with level_ := r51, last_ := a0.Time_ } : T_spec_l19X)).length (Int.toNat v28) 0), (118, .el 1 ((s0.list_.set (Int.toNat v28) ({ e31 with last_ := a0.Time_ } : T_spec_l19X)).set (Int.toNat v28) ({ e31 with level_ := r51, last_ := a0.Time_ } : T_spec_l19X)).length (Int.toNat v28) 0), (119, .el 1 ((s0.list_.set (Int.toNat v28) ({ e31 with last_ := a0.Time_ } : T_spec_l19X)).set (Int.toNat v28) ({ e31 with level_ := r51, last_ := a0.Time_ } : T_spec_l19X)).length (Int.toNat v28) 0), (120, .px 2 0 e31.ids_ 0), (121, .el 1 ((s0.list_.set (Int.toNat v28) ({ e31 with last_ := a0.Time_ } : T_spec_l19X)).set (Int.toNat v28) ({ e31 with level_ := r51, last_ := a0.Time_ } : T_spec_l19X)).length (Int.toNat v28) 0), (122, .el 1 ((s0.list_.set (Int.toNat v28) ({ e31 with last_ := a0.Time_ } : T_spec_l19X)).set (Int.toNat v28) ({ e31 with level_ := r51, last_ := a0.Time_ } : T_spec_l19X)).length (Int.toNat v28) 0), (123, .el 1 ((s0.list_.set (Int.toNat v28) ({ e31 with last_ := a0.Time_ } : T_spec_l19X)).set (Int.toNat v28) ({ e31 with level_ := r51, last_ := a0.Time_ } : T_spec_l19X)).length (Int.toNat v28) 0), (124, .px 2 0 e31.ids_ 0), (125, .int .i64 (x33.length : Int)), (126, .int .i64 (IntKind.i64.wrap ((x33.length : Int) - 1))), (128, .str e35), (129, .bx 3 4), (130, .str a0.Id_), (131, .bool (!(e35.toList == a0.Id_.toList))), (132, .bool (!(e35.toList == a0.Id_.toList))), (140, .bool ((!(e35.toList == a0.Id_.toList)) || (!(e31.device_.toList == a0.Device_.toList)))), (145, .el 1 ((s0.list_.set (Int.toNat v28) ({ e31 with last_ := a0.Time_ } : T_spec_l19X)).set (Int.toNat v28) ({ e31 with level_ := r51, last_ := a0.Time_ } : T_spec_l19X)).length (Int.toNat v28) 0), (146, .el 1 ((s0.list_.set (Int.toNat v28) ({ e31 with last_ := a0.Time_ } : T_spec_l19X)).set (Int.toNat v28) ({ e31 with level_ := r51, last_ := a0.Time_ } : T_spec_l19X)).length (Int.toNat v28) 0), (147, .el 1 ((s0.list_.set (Int.toNat v28) ({ e31 with last_ := a0.Time_ } : T_spec_l19X)).set (Int.toNat v28) ({ e31 with level_ := r51, last_ := a0.Time_ } : T_spec_l19X)).length (Int.toNat v28) 6), (148, .bool e31.dead_), (150, .bx 0 0), (151, .el 1 ((s0.list_.set (Int.toNat v28) ({ e31 with last_ := a0.Time_ } : T_spec_l19X)).set (Int.toNat v28) ({ e31 with level_ := r51, last_ := a0.Time_ } : T_spec_l19X)).length (Int.toNat v28) 0), (152, .el 1 ((s0.list_.set (Int.toNat v28) ({ e31 with last_ := a0.Time_ } : T_spec_l19X)).set (Int.toNat v28) ({ e31 with level_ := r51, last_ := a0.Time_ } : T_spec_l19X)).length (Int.toNat v28) 0), (153, .agg (c_T_spec_l19X 2 false e31)), (154, .bx 0 0), (155, .bx 0 0), (156, .bx 0 3), (157, .int .i64 a0.Time_), (158, .bool r41), (160, .el 1 ((s0.list_.set (Int.toNat v28) ({ e31 with last_ := a0.Time_ } : T_spec_l19X)).set (Int.toNat v28) ({ e31 with level_ := r51, last_ := a0.Time_ } : T_spec_l19X)).length (Int.toNat v28) 0), (161, .bx 0 0), (162, .bx 0 0), (163, .bx 0 3), (164, .int .i64 a0.Time_), (165, .el 1 ((s0.list_.set (Int.toNat v28) ({ e31 with last_ := a0.Time_ } : T_spec_l19X)).set (Int.toNat v28) ({ e31 with level_ := r51, last_ := a0.Time_ } : T_spec_l19X)).length (Int.toNat v28) 0), (166, .el 1 ((s0.list_.set (Int.toNat v28) ({ e31 with last_ := a0.Time_ } : T_spec_l19X)).set (Int.toNat v28) ({ e31 with level_ := r51, last_ := a0.Time_ } : T_spec_l19X)).length (Int.toNat v28) 5), (167, .bx 3 0), (168, .int .i64 a0.Kind_), (169, .bool (a0.Kind_ == 3)), (170, .bool (a0.Kind_ == 3)), (171, .el 1 ((s0.list_.set (Int.toNat v28) ({ e31 with last_ := a0.Time_ } : T_spec_l19X)).set (Int.toNat v28) ({ e31 with level_ := r51, last_ := a0.Time_ } : T_spec_l19X)).length (Int.toNat v28) 0), (172, .el 1 ((s0.list_.set (Int.toNat v28) ({ e31 with last_ := a0.Time_ } : T_spec_l19X)).set (Int.toNat v28) ({ e31 with level_ := r51, last_ := a0.Time_ } : T_spec_l19X)).length (Int.toNat v28) 0), (173, .el 1 ((s0.list_.set (Int.toNat v28) ({ e31 with last_ := a0.Time_ } : T_spec_l19X)).set (Int.toNat v28) ({ e31 with level_ := r51, last_ := a0.Time_ } : T_spec_l19X)).length (Int.toNat v28) 0), (174, .el 1 ((s0.list_.set (Int.toNat v28) ({ e31 with last_ := a0.Time_ } : T_spec_l19X)).set (Int.toNat v28) ({ e31 with level_ := r51, last_ := a0.Time_ } : T_spec_l19X)).length (Int.toNat v28) 3), (175, .int .i64 e31.level_), (176, .int .i64 (IntKind.i64.wrap (e31.level_ + 1))), (177, .int .i64 r51), (178, .el 1 ((s0.list_.set (Int.toNat v28) ({ e31 with last_ := a0.Time_ } : T_spec_l19X)).set (Int.toNat v28) ({ e31 with level_ := r51, last_ := a0.Time_ } : T_spec_l19X)).length (Int.toNat v28) 0), (179, .el 1 ((s0.list_.set (Int.toNat v28) ({ e31 with last_ := a0.Time_ } : T_spec_l19X)).set (Int.toNat v28) ({ e31 with level_ := r51, last_ := a0.Time_ } : T_spec_l19X)).length (Int.toNat v28) 3), (184, .px 2 0 e31.ids_ 0), (185, .bx 0 0), (186, .str r53), (187, .im false (([r53] : List ByteArray).map (c_str))), (188, .px 2 0 ((s2.set (Int.toNat e31.ids_) none).length : Int) 0)]) (R := [⟨some 180, .el 1 ((s0.list_.set (Int.toNat v28) ({ e31 with last_ := a0.Time_ } : T_spec_l19X)).set (Int.toNat v28) ({ e31 with level_ := r51, last_ := a0.Time_ } : T_spec_l19X)).length (Int.toNat v28) 0, .q, []⟩, ⟨some 181, .el 1 ((s0.list_.set (Int.toNat v28) ({ e31 with last_ := a0.Time_ } : T_spec_l19X)).set (Int.toNat v28) ({ e31 with level_ := r51, last_ := a0.Time_ } : T_spec_l19X)).length (Int.toNat v28) 0, .q, []⟩, ⟨some 182, .el 1 ((s0.list_.set (Int.toNat v28) ({ e31 with last_ := a0.Time_ } : T_spec_l19X)).set (Int.toNat v28) ({ e31 with level_ := r51, last_ := a0.Time_ } : T_spec_l19X)).length (Int.toNat v28) 0, .q, []⟩, ⟨some 183, .el 1 ((s0.list_.set (Int.toNat v28) ({ e31 with last_ := a0.Time_ } : T_spec_l19X)).set (Int.toNat v28) ({ e31 with level_ := r51, last_ := a0.Time_ } : T_spec_l19X)).length (Int.toNat v28) 0, .q, []⟩, ⟨some 184, .px 2 0 e31.ids_ 0, .q, []⟩, ⟨some 185, .bx 0 0, .q, []⟩, ⟨some 186, .str r53, .q, []⟩, ⟨some 187, .im false (([r53] : List ByteArray).map (c_str)), .q, []⟩, ⟨some 188, .px 2 0 ((s2.set (Int.toNat e31.ids_) none).length : Int) 0, .q, []⟩, ⟨some 189, .el 1 ((s0.list_.set (Int.toNat v28) ({ e31 with last_ := a0.Time_ } : T_spec_l19X)).set (Int.toNat v28) ({ e31 with level_ := r51, last_ := a0.Time_ } : T_spec_l19X)).length (Int.toNat v28) 0, .q, []⟩, ⟨some 190, .el 1 ((s0.list_.set (Int.toNat v28) ({ e31 with last_ := a0.Time_ } : T_spec_l19X)).set (Int.toNat v28) ({ e31 with level_ := r51, last_ := a0.Time_ } : T_spec_l19X)).length (Int.toNat v28) 0, .q, []⟩, ⟨none, .any, .q, []⟩]) (fun b => cond (b 6) (cond (b 8) (cond (b 11) ([.box (k_spec_l19S 1 2 c0 ({ o54 with list_ := (((s0.list_.set (Int.toNat v28) ({ e31 with last_ := a0.Time_ } : T_spec_l19X)).set (Int.toNat v28) ({ e31 with level_ := r51, last_ := a0.Time_ } : T_spec_l19X)).set (Int.toNat v28) ({ e31 with ids_ := ((s2.set (Int.toNat e31.ids_) none).length : Int), level_ := r51, last_ := a0.Time_ } : T_spec_l19X)) } : T_spec_l19S)), .arr .raw 7 ((((s0.list_.set (Int.toNat v28) ({ e31 with last_ := a0.Time_ } : T_spec_l19X)).set (Int.toNat v28) ({ e31 with level_ := r51, last_ := a0.Time_ } : T_spec_l19X)).set (Int.toNat v28) ({ e31 with ids_ := ((s2.set (Int.toNat e31.ids_) none).length : Int), level_ := r51, last_ := a0.Time_ } : T_spec_l19X)).map (c_T_spec_l19X 2 false)), .afm 1 (((s2.set (Int.toNat e31.ids_) none) ++ [some l58]).map (c_ax (c_str))), .box (c_T_impl_SessEvent false a0), .box [.int .i64 0, .str e0, .str e0, .int .i64 0], .dead]) ([.box (k_spec_l19S 1 2 c0 ({ o54 with list_ := ((s0.list_.set (Int.toNat v28) ({ e31 with last_ := a0.Time_ } : T_spec_l19X)).set (Int.toNat v28) ({ e31 with level_ := r51, last_ := a0.Time_ } : T_spec_l19X)) } : T_spec_l19S)), .arr .raw 7 (((s0.list_.set (Int.toNat v28) ({ e31 with last_ := a0.Time_ } : T_spec_l19X)).set (Int.toNat v28) ({ e31 with level_ := r51, last_ := a0.Time_ } : T_spec_l19X)).map (c_T_spec_l19X 2 false)), .afm 1 (((s2.set (Int.toNat e31.ids_) none) ++ [some l58]).map (c_ax (c_str))), .box (c_T_impl_SessEvent false a0), .box [.int .i64 0, .str e0, .str e0, .int .i64 0], .dead])) ([.box (k_spec_l19S 1 2 c0 ({ o54 with list_ := ((s0.list_.set (Int.toNat v28) ({ e31 with last_ := a0.Time_ } : T_spec_l19X)).set (Int.toNat v28) ({ e31 with level_ := r51, last_ := a0.Time_ } : T_spec_l19X)) } : T_spec_l19S)), .arr .raw 7 (((s0.list_.set (Int.toNat v28) ({ e31 with last_ := a0.Time_ } : T_spec_l19X)).set (Int.toNat v28) ({ e31 with level_ := r51, last_ := a0.Time_ } : T_spec_l19X)).map (c_T_spec_l19X 2 false)), .afm 1 (s2.map (c_ax (c_str))), .box (c_T_impl_SessEvent false a0), .box [.int .i64 0, .str e0, .str e0, .int .i64 0]])) ([.box (k_spec_l19S 1 2 c0 (⟨s0.c_, a0.Time_, s0.given_, ((s0.list_.set (Int.toNat v28) ({ e31 with last_ := a0.Time_ } : T_spec_l19X)).set (Int.toNat v28) ({ e31 with level_ := r51, last_ := a0.Time_ } : T_spec_l19X))⟩ : T_spec_l19S)), .arr .raw 7 (((s0.list_.set (Int.toNat v28) ({ e31 with last_ := a0.Time_ } : T_spec_l19X)).set (Int.toNat v28) ({ e31 with level_ := r51, last_ := a0.Time_ } : T_spec_l19X)).map (c_T_spec_l19X 2 false)), .afm 1 (s2.map (c_ax (c_str))), .box (c_T_impl_SessEvent false a0), .box [.int .i64 0, .str e0, .str e0, .int .i64 0]])) rfl ?_ ?_ rfl rfl (FrL.get (.cons rfl (.cons rfl (.cons rfl (.cons rfl (.cons rfl (.cons rfl (.cons rfl (.cons rfl (.cons rfl (.cons rfl (.cons rfl (.cons rfl (.cons rfl (.cons rfl (.cons rfl (.cons rfl (.cons rfl (.cons rfl (.cons rfl (.cons rfl (.cons rfl (.cons rfl (.cons rfl (.cons rfl (.cons rfl (.cons rfl (.cons rfl (.cons rfl (.cons rfl (.cons rfl (.cons rfl (.cons rfl (.cons rfl (.cons rfl (.cons rfl (.cons rfl (.cons rfl (.cons rfl (.cons rfl (.cons rfl (.cons rfl (.cons rfl (.cons rfl (.cons rfl (.cons rfl (.cons rfl (.cons rfl (.cons rfl (.cons rfl (.cons rfl (.cons rfl (.cons rfl (.cons rfl (.cons rfl (.cons rfl (.cons rfl (.cons rfl (.cons rfl (.cons rfl (.cons rfl (.cons rfl (.cons rfl (.cons rfl (.cons rfl (.cons rfl (.cons rfl (.cons rfl .nil)))))))))))))))))))))))))))))))))))))))))))))))))))))))))))))))))))) ?_
            ·refine .cons _ _ _ _ _ ⟨rfl, [(10, .el 1 ((s0.list_.set (Int.toNat v28) ({ e31 with last_ := a0.Time_ } : T_spec_l19X)).set (Int.toNat v28) ({ e31 with level_ := r51, last_ := a0.Time_ } : T_spec_l19X)).length (Int.toNat v28) 0)], AllN.get rfl (.cons rfl .nil), fun b hd hn hk hc => ?_⟩ ?_
             ·cases e6 : b 6
              ·cases e8 : b 8
               ·exact ops_at (cdf e6) rfl (o_move rfl rfl) (cdf ((updb_ne rfl).trans e6)) rfl
               ·exact absurd (hc 8 6 rfl rfl e8) (by rw [e6]; decide)
              ·cases e8 : b 8
               ·exact ops_at ((cdt e6).trans (cdf e8)) rfl (o_move rfl rfl) ((cdt ((updb_ne rfl).trans e6)).trans (cdf ((updb_ne rfl).trans e8))) rfl
               ·exact ops_at (((cdt e6).trans (cdt e8)).trans (cdf (hn 11 rfl))) rfl (o_move rfl rfl) (((cdt ((updb_ne rfl).trans e6)).trans (cdt ((updb_ne rfl).trans e8))).trans (cdf ((updb_ne rfl).trans (hn 11 rfl)))) rfl
             refine .cons _ _ _ _ _ ⟨rfl, [(10, .el 1 ((s0.list_.set (Int.toNat v28) ({ e31 with last_ := a0.Time_ } : T_spec_l19X)).set (Int.toNat v28) ({ e31 with level_ := r51, last_ := a0.Time_ } : T_spec_l19X)).length (Int.toNat v28) 0)], AllN.get rfl (.cons rfl .nil), fun b hd hn hk hc => ?_⟩ ?_
             ·cases e6 : b 6
              ·exact ops_at (cdf e6) rfl (o_move rfl rfl) (cdf ((updb_ne rfl).trans e6)) rfl
              ·exact ops_at ((cdt e6).trans (cdf (hn 8 rfl))) rfl (o_move rfl rfl) ((cdt ((updb_ne rfl).trans e6)).trans (cdf ((updb_ne rfl).trans (hn 8 rfl)))) rfl
             refine .cons _ _ _ _ _ ⟨rfl, [(181, .el 1 ((s0.list_.set (Int.toNat v28) ({ e31 with last_ := a0.Time_ } : T_spec_l19X)).set (Int.toNat v28) ({ e31 with level_ := r51, last_ := a0.Time_ } : T_spec_l19X)).length (Int.toNat v28) 0)], AllN.get rfl (.cons rfl .nil), fun b hd hn hk hc => ?_⟩ ?_
             ·cases e6 : b 6
              ·exact ops_at (cdf e6) rfl (o_nilCheckEl rfl rfl rfl (List.length_map ..)) (cdf ((updb_ne rfl).trans e6)) rfl
              ·exact ops_at ((cdt e6).trans (cdf (hn 8 rfl))) rfl (o_nilCheckEl rfl rfl rfl (List.length_map ..)) ((cdt ((updb_ne rfl).trans e6)).trans (cdf ((updb_ne rfl).trans (hn 8 rfl)))) rfl
             refine .cons _ _ _ _ _ ⟨rfl, [(182, .el 1 ((s0.list_.set (Int.toNat v28) ({ e31 with last_ := a0.Time_ } : T_spec_l19X)).set (Int.toNat v28) ({ e31 with level_ := r51, last_ := a0.Time_ } : T_spec_l19X)).length (Int.toNat v28) 0)], AllN.get rfl (.cons rfl .nil), fun b hd hn hk hc => ?_⟩ ?_
             ·cases e6 : b 6
              ·exact ops_at (cdf e6) rfl (o_fieldAddrEl rfl rfl rfl tyS_56 (by decide) rfl rfl (List.length_map ..)) (cdf ((updb_ne rfl).trans e6)) rfl
              ·exact ops_at ((cdt e6).trans (cdf (hn 8 rfl))) rfl (o_fieldAddrEl rfl rfl rfl tyS_56 (by decide) rfl rfl (List.length_map ..)) ((cdt ((updb_ne rfl).trans e6)).trans (cdf ((updb_ne rfl).trans (hn 8 rfl)))) rfl
             refine .cons _ _ _ _ _ ⟨rfl, [(183, .el 1 ((s0.list_.set (Int.toNat v28) ({ e31 with last_ := a0.Time_ } : T_spec_l19X)).set (Int.toNat v28) ({ e31 with level_ := r51, last_ := a0.Time_ } : T_spec_l19X)).length (Int.toNat v28) 0)], AllN.get rfl (.cons rfl .nil), fun b hd hn hk hc => ?_⟩ ?_
             ·cases e6 : b 6
              ·exact ops_at (cdf e6) rfl (o_loadEl rfl tyS_56 rfl rfl (List.length_map ..) (by rw [List.getElem?_map, (idx_s (idx_set (idx_set h32))).2]; rfl) (nb rfl) rfl) (cdf ((updb_ne rfl).trans e6)) rfl
              ·exact ops_at ((cdt e6).trans (cdf (hn 8 rfl))) rfl (o_loadEl rfl tyS_56 rfl rfl (List.length_map ..) (by rw [List.getElem?_map, (idx_s (idx_set (idx_set h32))).2]; rfl) (nb rfl) rfl) ((cdt ((updb_ne rfl).trans e6)).trans (cdf ((updb_ne rfl).trans (hn 8 rfl)))) rfl
             refine .cons _ _ _ _ _ ⟨rfl, [(0, .bx 0 0)], AllN.get rfl (.cons rfl .nil), fun b hd hn hk hc => ?_⟩ ?_
             ·exact ops_at (cdf (hn 6 rfl)) rfl (o_move rfl rfl) (cdf ((updb_ne rfl).trans (hn 6 rfl))) rfl
             refine .cons _ _ _ _ _ ⟨rfl, [(185, .bx 0 0)], AllN.get rfl (.cons rfl .nil), fun b hd hn hk hc => ?_⟩ ?_
             ·exact ops_at (cdf hk) rfl (Does.eqS (eqAtB (show (.box ((c_T_impl_SessConf c0 o54.c_) ++ [.int .i64 o54.now_, .int .i64 o54.given_, .hd 1 o54.list_.length 0 o54.list_.length]) : AO) = .box ((c_T_impl_SessConf c0 o54.c_) ++ [.int .i64 o54.now_, .int .i64 o54.given_, .hd 1 ((s0.list_.set (Int.toNat v28) ({ e31 with last_ := a0.Time_ } : T_spec_l19X)).set (Int.toNat v28) ({ e31 with level_ := r51, last_ := a0.Time_ } : T_spec_l19X)).length 0 ((s0.list_.set (Int.toNat v28) ({ e31 with last_ := a0.Time_ } : T_spec_l19X)).set (Int.toNat v28) ({ e31 with level_ := r51, last_ := a0.Time_ } : T_spec_l19X)).length]) by simp only [eqL_s h57]) (eqAtB (show (.arr .raw 7 (o54.list_.map (c_T_spec_l19X 2 false)) : AO) = .arr .raw 7 (((s0.list_.set (Int.toNat v28) ({ e31 with last_ := a0.Time_ } : T_spec_l19X)).set (Int.toNat v28) ({ e31 with level_ := r51, last_ := a0.Time_ } : T_spec_l19X)).map (c_T_spec_l19X 2 false)) by simp only [eqL_s h57]) rfl)) (o_callM [0, 1, 2] rfl en_32 rfl rfl (spec_l19S_id_p c0 h55) rfl (by decide) (.cons _ _ _ _ rfl (.cons _ _ _ _ (ren_at rfl (ren_rawO fun _ => rfl)) (.cons _ _ _ _ rfl .nil))) rfl rfl (.cons _ _ _ _ rfl (.cons _ _ _ _ (ren_rawO fun _ => rfl) (.cons _ _ _ _ rfl .nil))) rfl)) (((cdt updb_self).trans (cdf ((updb_ne rfl).trans (hn 8 rfl)))).trans rfl) rfl
             refine .cons _ _ _ _ _ ⟨rfl, [(186, .str r53)], AllN.get rfl (.cons rfl .nil), fun b hd hn hk hc => ?_⟩ ?_
             ·exact ops_at ((cdt (hd 6 rfl)).trans (cdf (hn 8 rfl))) rfl (o_sliceIm (rows := ([r53] : List ByteArray).map (c_str)) rfl rfl tyS_9 ⟨_, rfl, rfl⟩ (by decide) rfl rfl rfl rfl rfl rfl) ((cdt ((updb_ne rfl).trans (hd 6 rfl))).trans (cdf ((updb_ne rfl).trans (hn 8 rfl)))) rfl
             refine .cons _ _ _ _ _ ⟨rfl, [(184, .px 2 0 e31.ids_ 0), (187, .im false (([r53] : List ByteArray).map (c_str)))], AllN.get rfl (.cons rfl (.cons rfl .nil)), fun b hd hn hk hc => ?_⟩ ?_
             ·exact ops_at ((cdt (hd 6 rfl)).trans (cdf hk)) rfl (Does.newX (f := c_str) (L := (s2.set (Int.toNat e31.ids_) none)) (xs := l58) 2 (Does.outX (t := 184) (f := c_str) (L := s2) (xs := x33) h34 rfl (by simp [Op.operands, Call.operands]) rfl (o_ap (f := c_str) (xs := x33) (ys := ([r53] : List ByteArray)) rfl rfl tyE_9 rfl rfl rfl rfl (by decide) rfl (fun _ => rfl) h59)) rfl rfl rfl) ((((cdt ((updb_ne rfl).trans (hd 6 rfl))).trans (cdt updb_self)).trans (cdf ((updb_ne rfl).trans (hn 11 rfl)))).trans rfl) rfl
             refine .cons _ _ _ _ _ ⟨rfl, [(180, .el 1 ((s0.list_.set (Int.toNat v28) ({ e31 with last_ := a0.Time_ } : T_spec_l19X)).set (Int.toNat v28) ({ e31 with level_ := r51, last_ := a0.Time_ } : T_spec_l19X)).length (Int.toNat v28) 0)], AllN.get rfl (.cons rfl .nil), fun b hd hn hk hc => ?_⟩ ?_
             ·exact ops_at (((cdt (hd 6 rfl)).trans (cdt (hd 8 rfl))).trans (cdf (hn 11 rfl))) rfl (o_nilCheckEl rfl rfl rfl (List.length_map ..)) (((cdt ((updb_ne rfl).trans (hd 6 rfl))).trans (cdt ((updb_ne rfl).trans (hd 8 rfl)))).trans (cdf ((updb_ne rfl).trans (hn 11 rfl)))) rfl
             refine .cons _ _ _ _ _ ⟨rfl, [(189, .el 1 ((s0.list_.set (Int.toNat v28) ({ e31 with last_ := a0.Time_ } : T_spec_l19X)).set (Int.toNat v28) ({ e31 with level_ := r51, last_ := a0.Time_ } : T_spec_l19X)).length (Int.toNat v28) 0)], AllN.get rfl (.cons rfl .nil), fun b hd hn hk hc => ?_⟩ ?_
             ·exact ops_at (((cdt (hd 6 rfl)).trans (cdt (hd 8 rfl))).trans (cdf (hn 11 rfl))) rfl (o_fieldAddrEl rfl rfl rfl tyS_56 (by decide) rfl rfl (List.length_map ..)) (((cdt ((updb_ne rfl).trans (hd 6 rfl))).trans (cdt ((updb_ne rfl).trans (hd 8 rfl)))).trans (cdf ((updb_ne rfl).trans (hn 11 rfl)))) rfl
             refine .cons _ _ _ _ _ ⟨rfl, [(188, .px 2 0 ((s2.set (Int.toNat e31.ids_) none).length : Int) 0), (190, .el 1 ((s0.list_.set (Int.toNat v28) ({ e31 with last_ := a0.Time_ } : T_spec_l19X)).set (Int.toNat v28) ({ e31 with level_ := r51, last_ := a0.Time_ } : T_spec_l19X)).length (Int.toNat v28) 0)], AllN.get rfl (.cons rfl (.cons rfl .nil)), fun b hd hn hk hc => ?_⟩ ?_
             ·exact ops_at (((cdt (hd 6 rfl)).trans (cdt (hd 8 rfl))).trans (cdf hk)) rfl (Does.to (o_stEl (f := c_T_spec_l19X 2 false) (xs := ((s0.list_.set (Int.toNat v28) ({ e31 with last_ := a0.Time_ } : T_spec_l19X)).set (Int.toNat v28) ({ e31 with level_ := r51, last_ := a0.Time_ } : T_spec_l19X))) (k := v28) (a := ({ e31 with level_ := r51, last_ := a0.Time_ } : T_spec_l19X)) ({ e31 with ids_ := ((s2.set (Int.toNat e31.ids_) none).length : Int), level_ := r51, last_ := a0.Time_ } : T_spec_l19X) rfl tyS_56 rfl rfl rfl (List.length_map ..) (by decide) (idx_set (idx_set h32)) rfl rfl rfl (fun h => absurd rfl h) rfl) (eqAtB (show (.box ((c_T_impl_SessConf c0 o54.c_) ++ [.int .i64 o54.now_, .int .i64 o54.given_, .hd 1 ((s0.list_.set (Int.toNat v28) ({ e31 with last_ := a0.Time_ } : T_spec_l19X)).set (Int.toNat v28) ({ e31 with level_ := r51, last_ := a0.Time_ } : T_spec_l19X)).length 0 ((s0.list_.set (Int.toNat v28) ({ e31 with last_ := a0.Time_ } : T_spec_l19X)).set (Int.toNat v28) ({ e31 with level_ := r51, last_ := a0.Time_ } : T_spec_l19X)).length]) : AO) = .box ((c_T_impl_SessConf c0 o54.c_) ++ [.int .i64 o54.now_, .int .i64 o54.given_, .hd 1 (((s0.list_.set (Int.toNat v28) ({ e31 with last_ := a0.Time_ } : T_spec_l19X)).set (Int.toNat v28) ({ e31 with level_ := r51, last_ := a0.Time_ } : T_spec_l19X)).set (Int.toNat v28) ({ e31 with ids_ := ((s2.set (Int.toNat e31.ids_) none).length : Int), level_ := r51, last_ := a0.Time_ } : T_spec_l19X)).length 0 (((s0.list_.set (Int.toNat v28) ({ e31 with last_ := a0.Time_ } : T_spec_l19X)).set (Int.toNat v28) ({ e31 with level_ := r51, last_ := a0.Time_ } : T_spec_l19X)).set (Int.toNat v28) ({ e31 with ids_ := ((s2.set (Int.toNat e31.ids_) none).length : Int), level_ := r51, last_ := a0.Time_ } : T_spec_l19X)).length]) by simp only [List.length_map, List.length_set]) rfl)) ((((cdt ((updb_ne rfl).trans (hd 6 rfl))).trans (cdt ((updb_ne rfl).trans (hd 8 rfl)))).trans (cdt updb_self)).trans rfl) rfl
             exact .nil _
            ·intro b b' h; simp only [h 6 (by decide), h 8 (by decide), h 11 (by decide)]
            refine inB_normal ?_
            exact Pk.of (thn_normal ⟨({ o54 with list_ := (((s0.list_.set (Int.toNat v28) ({ e31 with last_ := a0.Time_ } : T_spec_l19X)).set (Int.toNat v28) ({ e31 with level_ := r51, last_ := a0.Time_ } : T_spec_l19X)).set (Int.toNat v28) ({ e31 with ids_ := ((s2.set (Int.toNat e31.ids_) none).length : Int), level_ := r51, last_ := a0.Time_ } : T_spec_l19X)) } : T_spec_l19S), ((s2.set (Int.toNat e31.ids_) none) ++ [some l58]), rfl, rfl, H⟩) (hf := (.k 4 rfl rfl (.cons 10 _ (.el 1 ({ o54 with list_ := (((s0.list_.set (Int.toNat v28) ({ e31 with last_ := a0.Time_ } : T_spec_l19X)).set (Int.toNat v28) ({ e31 with level_ := r51, last_ := a0.Time_ } : T_spec_l19X)).set (Int.toNat v28) ({ e31 with ids_ := ((s2.set (Int.toNat e31.ids_) none).length : Int), level_ := r51, last_ := a0.Time_ } : T_spec_l19X)) } : T_spec_l19S).list_.length (Int.toNat v28) 0) _ rfl (.ofEq (el_lenR _ _ _ (List.length_set ..))) rfl .nil)))
           ·refine au 5 ?_
            refine T.cH H (fun H h => ?_) (fun H h => ?_)
            ·refine au 2 ?_
             refine TL.st rfl rfl rfl (o_nilCheckEl rfl rfl rfl (List.length_map ..)) ?_
             refine TL.st rfl rfl rfl (o_fieldAddrEl rfl rfl rfl tyS_4 (by decide) rfl rfl (List.length_map ..)) ?_
             refine TL.sn rfl rfl (o_stEl (f := c_T_spec_l19X 2 false) (xs := (s0.list_.set (Int.toNat v28) ({ e31 with last_ := a0.Time_ } : T_spec_l19X))) (k := v28) (a := ({ e31 with last_ := a0.Time_ } : T_spec_l19X)) ({ e31 with last_ := a0.Time_, dead_ := true } : T_spec_l19X) rfl tyS_4 rfl rfl rfl (List.length_map ..) (by decide) (idx_set h32) rfl rfl rfl (fun h => absurd rfl h) rfl) ?_
             refine TL.conv (Cs.eqS (σ := [.box ((c_T_impl_SessConf c0 s0.c_) ++ [.int .i64 a0.Time_, .int .i64 s0.given_, .hd 1 (s0.list_.set (Int.toNat v28) ({ e31 with last_ := a0.Time_ } : T_spec_l19X)).length 0 (s0.list_.set (Int.toNat v28) ({ e31 with last_ := a0.Time_ } : T_spec_l19X)).length]), .arr .raw 7 (((s0.list_.set (Int.toNat v28) ({ e31 with last_ := a0.Time_ } : T_spec_l19X)).set (Int.toNat v28) ({ e31 with last_ := a0.Time_, dead_ := true } : T_spec_l19X)).map (c_T_spec_l19X 2 false)), .afm 1 (s2.map (c_ax (c_str))), .box (c_T_impl_SessEvent false a0), .box [.int .i64 0, .str e0, .str e0, .int .i64 0]]) (σ' := [.box ((c_T_impl_SessConf c0 s0.c_) ++ [.int .i64 a0.Time_, .int .i64 s0.given_, .hd 1 ((s0.list_.set (Int.toNat v28) ({ e31 with last_ := a0.Time_ } : T_spec_l19X)).set (Int.toNat v28) ({ e31 with last_ := a0.Time_, dead_ := true } : T_spec_l19X)).length 0 ((s0.list_.set (Int.toNat v28) ({ e31 with last_ := a0.Time_ } : T_spec_l19X)).set (Int.toNat v28) ({ e31 with last_ := a0.Time_, dead_ := true } : T_spec_l19X)).length]), .arr .raw 7 (((s0.list_.set (Int.toNat v28) ({ e31 with last_ := a0.Time_ } : T_spec_l19X)).set (Int.toNat v28) ({ e31 with last_ := a0.Time_, dead_ := true } : T_spec_l19X)).map (c_T_spec_l19X 2 false)), .afm 1 (s2.map (c_ax (c_str))), .box (c_T_impl_SessEvent false a0), .box [.int .i64 0, .str e0, .str e0, .int .i64 0]]) (by simp only [List.length_map, List.length_set])) ?_
             refine TL.conv (Cs.eqV (t := 10) (v' := .el 1 ((s0.list_.set (Int.toNat v28) ({ e31 with last_ := a0.Time_ } : T_spec_l19X)).set (Int.toNat v28) ({ e31 with last_ := a0.Time_, dead_ := true } : T_spec_l19X)).length (Int.toNat v28) 0) rfl (el_lenR _ _ _ (List.length_set ..))) ?_
             refine TL.conv (Cs.eqV (t := 114) (v' := .hd 1 ((s0.list_.set (Int.toNat v28) ({ e31 with last_ := a0.Time_ } : T_spec_l19X)).set (Int.toNat v28) ({ e31 with last_ := a0.Time_, dead_ := true } : T_spec_l19X)).length 0 ((s0.list_.set (Int.toNat v28) ({ e31 with last_ := a0.Time_ } : T_spec_l19X)).set (Int.toNat v28) ({ e31 with last_ := a0.Time_, dead_ := true } : T_spec_l19X)).length) rfl (hd_lenR _ (List.length_set ..))) ?_
             refine TL.conv (Cs.eqV (t := 116) (v' := .el 1 ((s0.list_.set (Int.toNat v28) ({ e31 with last_ := a0.Time_ } : T_spec_l19X)).set (Int.toNat v28) ({ e31 with last_ := a0.Time_, dead_ := true } : T_spec_l19X)).length (Int.toNat v28) 0) rfl (el_lenR _ _ _ (List.length_set ..))) ?_
             refine TL.conv (Cs.eqV (t := 117) (v' := .el 1 ((s0.list_.set (Int.toNat v28) ({ e31 with last_ := a0.Time_ } : T_spec_l19X)).set (Int.toNat v28) ({ e31 with last_ := a0.Time_, dead_ := true } : T_spec_l19X)).length (Int.toNat v28) 0) rfl (el_lenR _ _ _ (List.length_set ..))) ?_
             refine TL.conv (Cs.eqV (t := 118) (v' := .el 1 ((s0.list_.set (Int.toNat v28) ({ e31 with last_ := a0.Time_ } : T_spec_l19X)).set (Int.toNat v28) ({ e31 with last_ := a0.Time_, dead_ := true } : T_spec_l19X)).length (Int.toNat v28) 0) rfl (el_lenR _ _ _ (List.length_set ..))) ?_
             refine TL.conv (Cs.eqV (t := 119) (v' := .el 1 ((s0.list_.set (Int.toNat v28) ({ e31 with last_ := a0.Time_ } : T_spec_l19X)).set (Int.toNat v28) ({ e31 with last_ := a0.Time_, dead_ := true } : T_spec_l19X)).length (Int.toNat v28) 0) rfl (el_lenR _ _ _ (List.length_set ..))) ?_
             refine TL.conv (Cs.eqV (t := 121) (v' := .el 1 ((s0.list_.set (Int.toNat v28) ({ e31 with last_ := a0.Time_ } : T_spec_l19X)).set (Int.toNat v28) ({ e31 with last_ := a0.Time_, dead_ := true } : T_spec_l19X)).length (Int.toNat v28) 0) rfl (el_lenR _ _ _ (List.length_set ..))) ?_
             refine TL.conv (Cs.eqV (t := 122) (v' := .el 1 ((s0.list_.set (Int.toNat v28) ({ e31 with last_ := a0.Time_ } : T_spec_l19X)).set (Int.toNat v28) ({ e31 with last_ := a0.Time_, dead_ := true } : T_spec_l19X)).length (Int.toNat v28) 0) rfl (el_lenR _ _ _ (List.length_set ..))) ?_
             refine TL.conv (Cs.eqV (t := 123) (v' := .el 1 ((s0.list_.set (Int.toNat v28) ({ e31 with last_ := a0.Time_ } : T_spec_l19X)).set (Int.toNat v28) ({ e31 with last_ := a0.Time_, dead_ := true } : T_spec_l19X)).length (Int.toNat v28) 0) rfl (el_lenR _ _ _ (List.length_set ..))) ?_
             refine TL.conv (Cs.eqV (t := 145) (v' := .el 1 ((s0.list_.set (Int.toNat v28) ({ e31 with last_ := a0.Time_ } : T_spec_l19X)).set (Int.toNat v28) ({ e31 with last_ := a0.Time_, dead_ := true } : T_spec_l19X)).length (Int.toNat v28) 0) rfl (el_lenR _ _ _ (List.length_set ..))) ?_
             refine TL.conv (Cs.eqV (t := 146) (v' := .el 1 ((s0.list_.set (Int.toNat v28) ({ e31 with last_ := a0.Time_ } : T_spec_l19X)).set (Int.toNat v28) ({ e31 with last_ := a0.Time_, dead_ := true } : T_spec_l19X)).length (Int.toNat v28) 0) rfl (el_lenR _ _ _ (List.length_set ..))) ?_
             refine TL.conv (Cs.eqV (t := 147) (v' := .el 1 ((s0.list_.set (Int.toNat v28) ({ e31 with last_ := a0.Time_ } : T_spec_l19X)).set (Int.toNat v28) ({ e31 with last_ := a0.Time_, dead_ := true } : T_spec_l19X)).length (Int.toNat v28) 6) rfl (el_lenR _ _ _ (List.length_set ..))) ?_
             refine TL.conv (Cs.eqV (t := 151) (v' := .el 1 ((s0.list_.set (Int.toNat v28) ({ e31 with last_ := a0.Time_ } : T_spec_l19X)).set (Int.toNat v28) ({ e31 with last_ := a0.Time_, dead_ := true } : T_spec_l19X)).length (Int.toNat v28) 0) rfl (el_lenR _ _ _ (List.length_set ..))) ?_
             refine TL.conv (Cs.eqV (t := 152) (v' := .el 1 ((s0.list_.set (Int.toNat v28) ({ e31 with last_ := a0.Time_ } : T_spec_l19X)).set (Int.toNat v28) ({ e31 with last_ := a0.Time_, dead_ := true } : T_spec_l19X)).length (Int.toNat v28) 0) rfl (el_lenR _ _ _ (List.length_set ..))) ?_
             refine TL.conv (Cs.eqV (t := 160) (v' := .el 1 ((s0.list_.set (Int.toNat v28) ({ e31 with last_ := a0.Time_ } : T_spec_l19X)).set (Int.toNat v28) ({ e31 with last_ := a0.Time_, dead_ := true } : T_spec_l19X)).length (Int.toNat v28) 0) rfl (el_lenR _ _ _ (List.length_set ..))) ?_
             refine TL.conv (Cs.eqV (t := 165) (v' := .el 1 ((s0.list_.set (Int.toNat v28) ({ e31 with last_ := a0.Time_ } : T_spec_l19X)).set (Int.toNat v28) ({ e31 with last_ := a0.Time_, dead_ := true } : T_spec_l19X)).length (Int.toNat v28) 0) rfl (el_lenR _ _ _ (List.length_set ..))) ?_
             refine TL.conv (Cs.eqV (t := 166) (v' := .el 1 ((s0.list_.set (Int.toNat v28) ({ e31 with last_ := a0.Time_ } : T_spec_l19X)).set (Int.toNat v28) ({ e31 with last_ := a0.Time_, dead_ := true } : T_spec_l19X)).length (Int.toNat v28) 5) rfl (el_lenR _ _ _ (List.length_set ..))) ?_
             refine TL.conv (Cs.eqV (t := 193) (v' := .el 1 ((s0.list_.set (Int.toNat v28) ({ e31 with last_ := a0.Time_ } : T_spec_l19X)).set (Int.toNat v28) ({ e31 with last_ := a0.Time_, dead_ := true } : T_spec_l19X)).length (Int.toNat v28) 0) rfl (el_lenR _ _ _ (List.length_set ..))) ?_
             refine TL.conv (Cs.eqV (t := 194) (v' := .el 1 ((s0.list_.set (Int.toNat v28) ({ e31 with last_ := a0.Time_ } : T_spec_l19X)).set (Int.toNat v28) ({ e31 with last_ := a0.Time_, dead_ := true } : T_spec_l19X)).length (Int.toNat v28) 0) rfl (el_lenR _ _ _ (List.length_set ..))) ?_
             refine TL.conv (Cs.eqV (t := 195) (v' := .el 1 ((s0.list_.set (Int.toNat v28) ({ e31 with last_ := a0.Time_ } : T_spec_l19X)).set (Int.toNat v28) ({ e31 with last_ := a0.Time_, dead_ := true } : T_spec_l19X)).length (Int.toNat v28) 6) rfl (el_lenR _ _ _ (List.length_set ..))) ?_
             refine TL.nil ?_
             refine inB_normal ?_
             exact Pk.of (thn_normal ⟨(⟨s0.c_, a0.Time_, s0.given_, ((s0.list_.set (Int.toNat v28) ({ e31 with last_ := a0.Time_ } : T_spec_l19X)).set (Int.toNat v28) ({ e31 with last_ := a0.Time_, dead_ := true } : T_spec_l19X))⟩ : T_spec_l19S), s2, rfl, rfl, H⟩)
            ·refine T.skip ?_
             refine inB_normal ?_
             exact Pk.of (thn_normal ⟨(⟨s0.c_, a0.Time_, s0.given_, (s0.list_.set (Int.toNat v28) ({ e31 with last_ := a0.Time_ } : T_spec_l19X))⟩ : T_spec_l19S), s2, rfl, rfl, H⟩)
          ·rintro _ _ ⟨b45, f46, rfl, rfl, H⟩
           refine au 3 ?_
           refine TL.st rfl rfl rfl (o_nilCheckEl rfl rfl rfl (List.length_map ..)) ?_
           obtain ⟨e47, h48, H⟩ := bind_s H
           refine TL.st rfl rfl rfl (o_loadEl rfl tyS_65 rfl rfl (List.length_map ..) (by rw [List.getElem?_map, (idx_s h48).2]; rfl) (nb rfl) rfl) ?_
           obtain ⟨r49, h50, H⟩ := bind_s H
           refine TL.st rfl rfl rfl (o_callS [2] rfl en_20 rfl rfl (spec_l19Told_p  h50) rfl (by decide) (.cons _ _ _ _ rfl .nil) rfl rfl rfl) ?_
           refine au 3 ?_
           cases some_i H
           exact ⟨trivial, _, (.cell _ _ _ _ _ _ _ _ _ _ rfl rfl tyS_31 (nb rfl) rfl .nil), ⟨rfl, _, rfl⟩⟩
theorem en_25 : En Tryd.prog 25 := .of Tryd.func25 rfl rfl
theorem tyE_34 : TyE Tryd.prog 34 5 := ⟨_, _, rfl, rfl, rfl, rfl, by decide, by decide⟩
noncomputable def spec_l1Cur_sessEvents_j1 (v11 : Int) (b19 : T_spec_l1Cur) (b20 : T_spec_l19S) (f21 : List (Option (List ByteArray))) (l22 : List T_impl_SessEvent) (l23 : List ByteArray) (l24 : List ByteArray) (v25 : Int) : Option ((T_spec_l1Cur × T_spec_l19S × List (Option (List ByteArray)) × List T_impl_SessEvent × List ByteArray × List ByteArray × Int × Int) ⊕ (T_spec_l1Cur × T_spec_l19S × List (Option (List ByteArray)) × List T_impl_SessEvent × List ByteArray × List ByteArray)) :=
  some (.inl (b19, b20, f21, l22, l23, l24, v25, (IntKind.i64.wrap (v11 - 1))))
noncomputable def spec_l1Cur_sessEvents_j5 (b5 : T_spec_l19S) (f6 : List (Option (List ByteArray))) (l7 : List T_impl_SessEvent) (l8 : List ByteArray) (l9 : List ByteArray) (v11 : Int) (v30 : Int) (b42 : T_spec_l1Cur) (b43 : T_impl_SessEvent) : Option ((T_spec_l1Cur × T_spec_l19S × List (Option (List ByteArray)) × List T_impl_SessEvent × List ByteArray × List ByteArray × Int × Int) ⊕ (T_spec_l1Cur × T_spec_l19S × List (Option (List ByteArray)) × List T_impl_SessEvent × List ByteArray × List ByteArray)) :=
  (spec_l19S_do b43 b5 f6).bind fun q => (match q with | (r44, o45, o46) => (app l7 ([b43] : List T_impl_SessEvent)).bind fun l48 => (gdO ((r44.Err_ == 0) && (!(r44.Id_.toList == e0.toList))) (spec_l3Has l8 r44.Id_)).bind fun r50 => cond (((r44.Err_ == 0) && (!(r44.Id_.toList == e0.toList))) && (!r50)) ((app l8 ([r44.Id_] : List ByteArray)).bind fun l52 => (app l9 ([b43.Device_] : List ByteArray)).bind fun l54 => spec_l1Cur_sessEvents_j1 v11 b42 o45 o46 l48 l52 l54 v30) (spec_l1Cur_sessEvents_j1 v11 b42 o45 o46 l48 l8 l9 v30))
noncomputable def spec_l1Cur_sessEvents_j4 (b5 : T_spec_l19S) (f6 : List (Option (List ByteArray))) (l7 : List T_impl_SessEvent) (l8 : List ByteArray) (l9 : List ByteArray) (v11 : Int) (v30 : Int) (b39 : T_spec_l1Cur) (b41 : T_impl_SessEvent) : Option ((T_spec_l1Cur × T_spec_l19S × List (Option (List ByteArray)) × List T_impl_SessEvent × List ByteArray × List ByteArray × Int × Int) ⊕ (T_spec_l1Cur × T_spec_l19S × List (Option (List ByteArray)) × List T_impl_SessEvent × List ByteArray × List ByteArray)) :=
  (spec_l1Cur_pick 40 b39).bind fun q => (match q with | (r56, o57) => cond (r56 == 0) ((spec_l1Cur_pick 7 o57).bind fun q => (match q with | (r59, o60) => spec_l1Cur_sessEvents_j5 b5 f6 l7 l8 l9 v11 v30 o60 ({ b41 with Kind_ := r59 } : T_impl_SessEvent))) (cond (r56 == 1) (spec_l1Cur_sessEvents_j5 b5 f6 l7 l8 l9 v11 v30 o57 ({ b41 with Time_ := (IntKind.i64.wrap (b41.Time_ - 3)) } : T_impl_SessEvent)) (cond (r56 == 2) (spec_l1Cur_sessEvents_j5 b5 f6 l7 l8 l9 v11 v30 o57 ({ b41 with Id_ := (ByteArray.mk #[115, 101, 115, 115, 49]) } : T_impl_SessEvent)) (spec_l1Cur_sessEvents_j5 b5 f6 l7 l8 l9 v11 v30 o57 b41))))
noncomputable def spec_l1Cur_sessEvents_j3 (b5 : T_spec_l19S) (f6 : List (Option (List ByteArray))) (l7 : List T_impl_SessEvent) (l8 : List ByteArray) (l9 : List ByteArray) (v11 : Int) (v30 : Int) (b39 : T_spec_l1Cur) (b40 : T_impl_SessEvent) : Option ((T_spec_l1Cur × T_spec_l19S × List (Option (List ByteArray)) × List T_impl_SessEvent × List ByteArray × List ByteArray × Int × Int) ⊕ (T_spec_l1Cur × T_spec_l19S × List (Option (List ByteArray)) × List T_impl_SessEvent × List ByteArray × List ByteArray)) :=
  cond (b40.Kind_ == 5) (spec_l1Cur_sessEvents_j4 b5 f6 l7 l8 l9 v11 v30 b39 ({ b40 with Device_ := e0 } : T_impl_SessEvent)) (spec_l1Cur_sessEvents_j4 b5 f6 l7 l8 l9 v11 v30 b39 b40)
noncomputable def spec_l1Cur_sessEvents_j2 (b5 : T_spec_l19S) (f6 : List (Option (List ByteArray))) (l7 : List T_impl_SessEvent) (l8 : List ByteArray) (l9 : List ByteArray) (v11 : Int) (b29 : T_spec_l1Cur) (v30 : Int) : Option ((T_spec_l1Cur × T_spec_l19S × List (Option (List ByteArray)) × List T_impl_SessEvent × List ByteArray × List ByteArray × Int × Int) ⊕ (T_spec_l1Cur × T_spec_l19S × List (Option (List ByteArray)) × List T_impl_SessEvent × List ByteArray × List ByteArray)) :=
  (spec_l1Cur_pick 9 b29).bind fun q => (match q with | (r31, o32) => (idx ([1, 1, 2, 2, 2, 3, 3, 4, 5] : List Int) r31).bind fun e34 => (spec_l1Cur_of ([(ByteArray.mk #[112, 99]), (ByteArray.mk #[112, 104, 111, 110, 101])] : List ByteArray) o32).bind fun q => (match q with | (r36, o37) => cond ((e34 == 1) || (e34 == 5)) ((spec_l1Cur_of ([(ByteArray.mk #[97, 110, 110]), (ByteArray.mk #[98, 111, 98])] : List ByteArray) o37).bind fun q => (match q with | (r62, o63) => spec_l1Cur_sessEvents_j3 b5 f6 l7 l8 l9 v11 v30 o63 (⟨e34, v30, r62, r36, e0⟩ : T_impl_SessEvent))) (cond (decide ((l8.length : Int) > 0)) ((spec_l15Lesser 3 (l8.length : Int)).bind fun r65 => (spec_l1Cur_pick r65 o37).bind fun q => (match q with | (r67, o68) => (idx l8 (IntKind.i64.wrap ((IntKind.i64.wrap ((l8.length : Int) - 1)) - r67))).bind fun e70 => (spec_l1Cur_one 12 o68).bind fun q => (match q with | (r72, o73) => cond (!r72) ((idx l9 (IntKind.i64.wrap ((IntKind.i64.wrap ((l8.length : Int) - 1)) - r67))).bind fun e75 => spec_l1Cur_sessEvents_j3 b5 f6 l7 l8 l9 v11 v30 o73 (⟨e34, v30, e0, e75, e70⟩ : T_impl_SessEvent)) (spec_l1Cur_sessEvents_j3 b5 f6 l7 l8 l9 v11 v30 o73 (⟨e34, v30, e0, r36, e70⟩ : T_impl_SessEvent))))) (spec_l1Cur_sessEvents_j3 b5 f6 l7 l8 l9 v11 v30 o37 (⟨e34, v30, e0, r36, e0⟩ : T_impl_SessEvent)))))
noncomputable def spec_l1Cur_sessEvents_l1  : (T_spec_l1Cur × T_spec_l19S × List (Option (List ByteArray)) × List T_impl_SessEvent × List ByteArray × List ByteArray × Int × Int) → Option ((T_spec_l1Cur × T_spec_l19S × List (Option (List ByteArray)) × List T_impl_SessEvent × List ByteArray × List ByteArray × Int × Int) ⊕ (T_spec_l1Cur × T_spec_l19S × List (Option (List ByteArray)) × List T_impl_SessEvent × List ByteArray × List ByteArray)) := fun s => match s with
  | (b4, b5, f6, l7, l8, l9, v10, v11) => cond (decide (v11 > 0)) ((spec_l1Cur_pick 5 b4).bind fun q => (match q with | (r26, o27) => (spec_l1Cur_one 12 o27).bind fun q => (match q with | (r77, o78) => cond r77 (spec_l1Cur_sessEvents_j2 b5 f6 l7 l8 l9 v11 o78 (IntKind.i64.wrap ((IntKind.i64.wrap (v10 + r26)) + 12))) (spec_l1Cur_sessEvents_j2 b5 f6 l7 l8 l9 v11 o78 (IntKind.i64.wrap (v10 + r26)))))) (some (.inr (b4, b5, f6, l7, l8, l9)))
noncomputable def spec_l1Cur_sessEvents (a0 : T_impl_SessConf) (a1 : Int) (s0 : T_spec_l1Cur) : Option ((List T_impl_SessEvent) × T_spec_l1Cur) :=
  (spec_l1Cur_pick a1 s0).bind fun q => (match q with | (r1, o2) => (loopO (spec_l1Cur_sessEvents_l1) (o2, (⟨a0, 0, 0, ([] : List T_spec_l19X)⟩ : T_spec_l19S), ([] : List (Option (List ByteArray))), ([] : List T_impl_SessEvent), ([] : List ByteArray), ([] : List ByteArray), 0, r1)).bind fun q80 => (match q80 with | (b12, b13, f14, l15, l16, l17) => some (l15, b12)))
theorem spec_l1Cur_sessEvents_p (b0 : Bool) (c0 : Bool) {a0 : T_impl_SessConf} {a1 : Int} {s0 : T_spec_l1Cur} {R0 : (List T_impl_SessEvent)} {U0 : T_spec_l1Cur} (H : spec_l1Cur_sessEvents a0 a1 s0 = some (R0, U0)) : St Tryd.prog 11 [.bx 0 0, .agg (c_T_impl_SessConf b0 a0), .int .i64 a1] [.box (c_T_spec_l1Cur c0 s0)] (.im false (R0.map (c_T_impl_SessEvent false))) [.box (c_T_spec_l1Cur c0 U0)] := by
 refine CallT.fin (CallT.of_TN (n := 134) Tryd.func11 rfl rfl rfl rfl ?_) rfl rfl ⟨(bels_iff.1 rfl), trivial⟩
 refine T.conv (Cs.afm 1 rfl) ?_
 refine T.conv (Cs.wkF (M := 2) (.k 0 rfl rfl (.k 1 rfl rfl (.k 2 rfl rfl .nil)))) ?_
 refine T.conv (Cs.eqS (σ' := [.box (c_T_spec_l1Cur c0 s0), .afm 1 (([] : List (Option (List ByteArray))).map (c_ax (c_str)))]) rfl) ?_
 refine au 33 ?_
 obtain ⟨⟨r1, o2⟩, h3, H⟩ := bind_s H
 refine TL.st rfl rfl rfl (o_callS [0] rfl en_13 rfl rfl (spec_l1Cur_pick_p c0 h3) rfl (by decide) (.cons _ _ _ _ rfl .nil) rfl rfl rfl) ?_
 refine au 2 ?_
 refine T.conv (Cs.eqS (σ' := [.box (c_T_spec_l1Cur c0 o2), _, .box (c_T_impl_SessConf b0 a0), .box ((c_T_impl_SessConf b0 a0) ++ [.int .i64 0, .int .i64 0, .nilS])]) rfl) ?_
 refine T.block ?_
 refine T.conv (Cs.ownCellR (p := 3) 5 7 rfl rfl (by decide)) ?_
 refine T.conv (Cs.own (t := 8) 5 rfl (by decide)) ?_
 refine T.conv (Cs.own (t := 9) 1 rfl (by decide)) ?_
 refine T.conv (Cs.own (t := 10) 1 rfl (by decide)) ?_
 obtain ⟨q80, h81, H⟩ := bind_s H
 refine T.lq (fun s => match s with | (b4, b5, f6, l7, l8, l9, v10, v11) => [(0, .bx 0 0), (7, .bx 3 0), (8, .hd 5 (l7.map (c_T_impl_SessEvent false)).length 0 (l7.map (c_T_impl_SessEvent false)).length), (9, .hd 6 (l8.map (c_str)).length 0 (l8.map (c_str)).length), (10, .hd 7 (l9.map (c_str)).length 0 (l9.map (c_str)).length), (11, .int .i64 v10), (12, .int .i64 v11)]) (fun s => match s with | (b4, b5, f6, l7, l8, l9, v10, v11) => [.box (c_T_spec_l1Cur c0 b4), .afm 1 (f6.map (c_ax (c_str))), .box (c_T_impl_SessConf b0 a0), .box (k_spec_l19S 4 1 b0 b5), .arr .raw 7 (b5.list_.map (c_T_spec_l19X 1 false)), .arr .clo 5 (l7.map (c_T_impl_SessEvent false)), .arr .clo 1 (l8.map (c_str)), .arr .clo 1 (l9.map (c_str))]) (fun q ex fr σ => match q with | (b12, b13, f14, l15, l16, l17) => ex = .exit 0 ∧ fr = [(8, .hd 5 (l15.map (c_T_impl_SessEvent false)).length 0 (l15.map (c_T_impl_SessEvent false)).length)] ∧ σ = [.box (c_T_spec_l1Cur c0 b12), .afm 1 (f14.map (c_ax (c_str))), .box (c_T_impl_SessConf b0 a0), .box (k_spec_l19S 4 1 b0 b13), .arr .raw 7 (b13.list_.map (c_T_spec_l19X 1 false)), .arr .clo 5 (l15.map (c_T_impl_SessEvent false)), .arr .clo 1 (l16.map (c_str)), .arr .clo 1 (l17.map (c_str))]) h81 ?_ ?_
 ·rintro ⟨b4, b5, f6, l7, l8, l9, v10, v11⟩ y18 H
  refine au 6 ?_
  refine T.cH H (fun H h => ?_) (fun H h => ?_)
  ·refine T.skip ?_
   refine T.cut (fun fr' σ' => ∃ (b19 : T_spec_l1Cur) (b20 : T_spec_l19S) (f21 : List (Option (List ByteArray))) (l22 : List T_impl_SessEvent) (l23 : List ByteArray) (l24 : List ByteArray) (v25 : Int), fr' = [(0, .bx 0 0), (7, .bx 3 0), (8, .hd 5 (l22.map (c_T_impl_SessEvent false)).length 0 (l22.map (c_T_impl_SessEvent false)).length), (9, .hd 6 (l23.map (c_str)).length 0 (l23.map (c_str)).length), (10, .hd 7 (l24.map (c_str)).length 0 (l24.map (c_str)).length), (11, .int .i64 v25), (12, .int .i64 v11)] ∧ σ' = [.box (c_T_spec_l1Cur c0 b19), .afm 1 (f21.map (c_ax (c_str))), .box (c_T_impl_SessConf b0 a0), .box (k_spec_l19S 4 1 b0 b20), .arr .raw 7 (b20.list_.map (c_T_spec_l19X 1 false)), .arr .clo 5 (l22.map (c_T_impl_SessEvent false)), .arr .clo 1 (l23.map (c_str)), .arr .clo 1 (l24.map (c_str))] ∧ spec_l1Cur_sessEvents_j1 v11 b19 b20 f21 l22 l23 l24 v25 = some y18) (T.pk ?_) ?_
   ·skip
    refine au 5 ?_
    obtain ⟨⟨r26, o27⟩, h28, H⟩ := bind_s H
    refine TL.st rfl rfl rfl (o_callS [0] rfl en_13 rfl rfl (spec_l1Cur_pick_p c0 h28) rfl (by decide) (.cons _ _ _ _ rfl .nil) rfl rfl rfl) ?_
    refine au 3 ?_
    refine T.cut (fun fr' σ' => ∃ (b29 : T_spec_l1Cur) (v30 : Int), fr' = [(0, .bx 0 0), (7, .bx 3 0), (8, .hd 5 (l7.map (c_T_impl_SessEvent false)).length 0 (l7.map (c_T_impl_SessEvent false)).length), (9, .hd 6 (l8.map (c_str)).length 0 (l8.map (c_str)).length), (10, .hd 7 (l9.map (c_str)).length 0 (l9.map (c_str)).length), (11, .int .i64 v30), (12, .int .i64 v11)] ∧ σ' = [.box (c_T_spec_l1Cur c0 b29), .afm 1 (f6.map (c_ax (c_str))), .box (c_T_impl_SessConf b0 a0), .box (k_spec_l19S 4 1 b0 b5), .arr .raw 7 (b5.list_.map (c_T_spec_l19X 1 false)), .arr .clo 5 (l7.map (c_T_impl_SessEvent false)), .arr .clo 1 (l8.map (c_str)), .arr .clo 1 (l9.map (c_str))] ∧ spec_l1Cur_sessEvents_j2 b5 f6 l7 l8 l9 v11 b29 v30 = some y18) (T.pk ?_) ?_
    ·skip
     refine au 3 ?_
     obtain ⟨⟨r77, o78⟩, h79, H⟩ := bind_s H
     refine TL.st rfl rfl rfl (o_callS [0] rfl en_22 rfl rfl (spec_l1Cur_one_p c0 h79) rfl (by decide) (.cons _ _ _ _ rfl .nil) rfl rfl rfl) ?_
     refine TL.nil ?_
     refine T.cH H (fun H h => ?_) (fun H h => ?_)
     ·refine au 5 ?_
      exact Pk.of (thn_normal ⟨o78, (IntKind.i64.wrap ((IntKind.i64.wrap (v10 + r26)) + 12)), rfl, rfl, H⟩)
     ·refine T.skip ?_
      exact Pk.of (thn_normal ⟨o78, (IntKind.i64.wrap (v10 + r26)), rfl, rfl, H⟩)
    ·rintro _ _ ⟨b29, v30, rfl, rfl, H⟩
     refine T.seq ?_
     obtain ⟨⟨r31, o32⟩, h33, H⟩ := bind_s H
     obtain ⟨e34, h35, H⟩ := bind_s H
     obtain ⟨⟨r36, o37⟩, h38, H⟩ := bind_s H
     refine T.drawS (fr' := [(0, .bx 0 0), (7, .bx 3 0), (8, .hd 5 (l7.map (c_T_impl_SessEvent false)).length 0 (l7.map (c_T_impl_SessEvent false)).length), (9, .hd 6 (l8.map (c_str)).length 0 (l8.map (c_str)).length), (10, .hd 7 (l9.map (c_str)).length 0 (l9.map (c_str)).length), (11, .int .i64 v30), (12, .int .i64 v11), (13, .bx 8 0), (34, .im false (([1, 1, 2, 2, 2, 3, 3, 4, 5] : List Int).map (c_int .i64))), (35, .bx 0 0), (36, .int .i64 r31), (38, .int .i64 e34), (39, .int .i64 v30), (40, .bx 0 0), (41, .im false (([(ByteArray.mk #[112, 99]), (ByteArray.mk #[112, 104, 111, 110, 101])] : List ByteArray).map (c_str))), (42, .str r36), (43, .agg [.int .i64 e34, .int .i64 v30, .str e0, .str r36, .str e0])]) (R := [⟨some 34, .im false (([1, 1, 2, 2, 2, 3, 3, 4, 5] : List Int).map (c_int .i64)), .q, []⟩, ⟨some 35, .bx 0 0, .q, []⟩, ⟨some 36, .int .i64 r31, .q, []⟩, ⟨some 37, .rf false [.int .i64 e34], .q, []⟩, ⟨some 38, .int .i64 e34, .q, []⟩, ⟨some 39, .int .i64 v30, .q, []⟩, ⟨some 40, .bx 0 0, .q, []⟩, ⟨some 41, .im false (([(ByteArray.mk #[112, 99]), (ByteArray.mk #[112, 104, 111, 110, 101])] : List ByteArray).map (c_str)), .q, []⟩, ⟨some 42, .str r36, .q, []⟩, ⟨some 43, .agg [.int .i64 e34, .int .i64 v30, .str e0, .str r36, .str e0], .q, []⟩, ⟨some 13, .bx 8 0, .q, []⟩, ⟨none, .any, .q, []⟩]) (fun b => cond (b 2) (cond (b 8) (cond (b 10) (cond (b 11) ([.box (c_T_spec_l1Cur c0 o37), .afm 1 (f6.map (c_ax (c_str))), .box (c_T_impl_SessConf b0 a0), .box (k_spec_l19S 4 1 b0 b5), .arr .raw 7 (b5.list_.map (c_T_spec_l19X 1 false)), .arr .clo 5 (l7.map (c_T_impl_SessEvent false)), .arr .clo 1 (l8.map (c_str)), .arr .clo 1 (l9.map (c_str)), .box [.int .i64 e34, .int .i64 v30, .str e0, .str r36, .str e0]]) ([.box (c_T_spec_l1Cur c0 o37), .afm 1 (f6.map (c_ax (c_str))), .box (c_T_impl_SessConf b0 a0), .box (k_spec_l19S 4 1 b0 b5), .arr .raw 7 (b5.list_.map (c_T_spec_l19X 1 false)), .arr .clo 5 (l7.map (c_T_impl_SessEvent false)), .arr .clo 1 (l8.map (c_str)), .arr .clo 1 (l9.map (c_str)), .box [.int .i64 0, .int .i64 0, .str e0, .str e0, .str e0]])) ([.box (c_T_spec_l1Cur c0 o37), .afm 1 (f6.map (c_ax (c_str))), .box (c_T_impl_SessConf b0 a0), .box (k_spec_l19S 4 1 b0 b5), .arr .raw 7 (b5.list_.map (c_T_spec_l19X 1 false)), .arr .clo 5 (l7.map (c_T_impl_SessEvent false)), .arr .clo 1 (l8.map (c_str)), .arr .clo 1 (l9.map (c_str))])) (cond (b 10) ([.box (c_T_spec_l1Cur c0 o32), .afm 1 (f6.map (c_ax (c_str))), .box (c_T_impl_SessConf b0 a0), .box (k_spec_l19S 4 1 b0 b5), .arr .raw 7 (b5.list_.map (c_T_spec_l19X 1 false)), .arr .clo 5 (l7.map (c_T_impl_SessEvent false)), .arr .clo 1 (l8.map (c_str)), .arr .clo 1 (l9.map (c_str)), .box [.int .i64 0, .int .i64 0, .str e0, .str e0, .str e0]]) ([.box (c_T_spec_l1Cur c0 o32), .afm 1 (f6.map (c_ax (c_str))), .box (c_T_impl_SessConf b0 a0), .box (k_spec_l19S 4 1 b0 b5), .arr .raw 7 (b5.list_.map (c_T_spec_l19X 1 false)), .arr .clo 5 (l7.map (c_T_impl_SessEvent false)), .arr .clo 1 (l8.map (c_str)), .arr .clo 1 (l9.map (c_str))]))) (cond (b 10) ([.box (c_T_spec_l1Cur c0 b29), .afm 1 (f6.map (c_ax (c_str))), .box (c_T_impl_SessConf b0 a0), .box (k_spec_l19S 4 1 b0 b5), .arr .raw 7 (b5.list_.map (c_T_spec_l19X 1 false)), .arr .clo 5 (l7.map (c_T_impl_SessEvent false)), .arr .clo 1 (l8.map (c_str)), .arr .clo 1 (l9.map (c_str)), .box [.int .i64 0, .int .i64 0, .str e0, .str e0, .str e0]]) ([.box (c_T_spec_l1Cur c0 b29), .afm 1 (f6.map (c_ax (c_str))), .box (c_T_impl_SessConf b0 a0), .box (k_spec_l19S 4 1 b0 b5), .arr .raw 7 (b5.list_.map (c_T_spec_l19X 1 false)), .arr .clo 5 (l7.map (c_T_impl_SessEvent false)), .arr .clo 1 (l8.map (c_str)), .arr .clo 1 (l9.map (c_str))]))) rfl ?_ ?_ rfl rfl (FrL.get (.cons rfl (.cons rfl (.cons rfl (.cons rfl (.cons rfl (.cons rfl (.cons rfl (.cons rfl (.cons rfl (.cons rfl (.cons rfl (.cons rfl (.cons rfl (.cons rfl (.cons rfl (.cons rfl (.cons rfl .nil)))))))))))))))))) ?_
     ·refine .cons _ _ _ _ _ ⟨rfl, [], AllN.get rfl .nil, fun b hd hn hk hc => ?_⟩ ?_
      ·cases e2 : b 2
       ·cases e8 : b 8
        ·cases e10 : b 10
         ·exact ops_at ((cdf e2).trans (cdf e10)) rfl (o_sliceIm (rows := ([1, 1, 2, 2, 2, 3, 3, 4, 5] : List Int).map (c_int .i64)) rfl rfl tyS_3 ⟨_, rfl, rfl⟩ (by decide) rfl rfl rfl rfl rfl rfl) ((cdf ((updb_ne rfl).trans e2)).trans (cdf ((updb_ne rfl).trans e10))) rfl
         ·exact ops_at ((cdf e2).trans (cdt e10)) rfl (o_sliceIm (rows := ([1, 1, 2, 2, 2, 3, 3, 4, 5] : List Int).map (c_int .i64)) rfl rfl tyS_3 ⟨_, rfl, rfl⟩ (by decide) rfl rfl rfl rfl rfl rfl) ((cdf ((updb_ne rfl).trans e2)).trans (cdt ((updb_ne rfl).trans e10))) rfl
        ·cases e10 : b 10
         ·exact absurd (hc 8 2 rfl rfl e8) (by rw [e2]; decide)
         ·exact absurd (hc 8 2 rfl rfl e8) (by rw [e2]; decide)
       ·cases e8 : b 8
        ·cases e10 : b 10
         ·exact ops_at (((cdt e2).trans (cdf e8)).trans (cdf e10)) rfl (o_sliceIm (rows := ([1, 1, 2, 2, 2, 3, 3, 4, 5] : List Int).map (c_int .i64)) rfl rfl tyS_3 ⟨_, rfl, rfl⟩ (by decide) rfl rfl rfl rfl rfl rfl) (((cdt ((updb_ne rfl).trans e2)).trans (cdf ((updb_ne rfl).trans e8))).trans (cdf ((updb_ne rfl).trans e10))) rfl
         ·exact ops_at (((cdt e2).trans (cdf e8)).trans (cdt e10)) rfl (o_sliceIm (rows := ([1, 1, 2, 2, 2, 3, 3, 4, 5] : List Int).map (c_int .i64)) rfl rfl tyS_3 ⟨_, rfl, rfl⟩ (by decide) rfl rfl rfl rfl rfl rfl) (((cdt ((updb_ne rfl).trans e2)).trans (cdf ((updb_ne rfl).trans e8))).trans (cdt ((updb_ne rfl).trans e10))) rfl
        ·cases e10 : b 10
         ·exact ops_at (((cdt e2).trans (cdt e8)).trans (cdf e10)) rfl (o_sliceIm (rows := ([1, 1, 2, 2, 2, 3, 3, 4, 5] : List Int).map (c_int .i64)) rfl rfl tyS_3 ⟨_, rfl, rfl⟩ (by decide) rfl rfl rfl rfl rfl rfl) (((cdt ((updb_ne rfl).trans e2)).trans (cdt ((updb_ne rfl).trans e8))).trans (cdf ((updb_ne rfl).trans e10))) rfl
         ·exact ops_at ((((cdt e2).trans (cdt e8)).trans (cdt e10)).trans (cdf (hn 11 rfl))) rfl (o_sliceIm (rows := ([1, 1, 2, 2, 2, 3, 3, 4, 5] : List Int).map (c_int .i64)) rfl rfl tyS_3 ⟨_, rfl, rfl⟩ (by decide) rfl rfl rfl rfl rfl rfl) ((((cdt ((updb_ne rfl).trans e2)).trans (cdt ((updb_ne rfl).trans e8))).trans (cdt ((updb_ne rfl).trans e10))).trans (cdf ((updb_ne rfl).trans (hn 11 rfl)))) rfl
      refine .cons _ _ _ _ _ ⟨rfl, [(0, .bx 0 0)], AllN.get rfl (.cons rfl .nil), fun b hd hn hk hc => ?_⟩ ?_
      ·cases e10 : b 10
       ·exact ops_at ((cdf (hn 2 rfl)).trans (cdf e10)) rfl (o_move rfl rfl) ((cdf ((updb_ne rfl).trans (hn 2 rfl))).trans (cdf ((updb_ne rfl).trans e10))) rfl
       ·exact ops_at ((cdf (hn 2 rfl)).trans (cdt e10)) rfl (o_move rfl rfl) ((cdf ((updb_ne rfl).trans (hn 2 rfl))).trans (cdt ((updb_ne rfl).trans e10))) rfl
      refine .cons _ _ _ _ _ ⟨rfl, [(35, .bx 0 0)], AllN.get rfl (.cons rfl .nil), fun b hd hn hk hc => ?_⟩ ?_
      ·cases e10 : b 10
       ·exact ops_at ((cdf hk).trans (cdf e10)) rfl (o_callS [0] rfl en_13 rfl rfl (spec_l1Cur_pick_p c0 h33) rfl (by decide) (.cons _ _ _ _ rfl .nil) rfl rfl rfl) ((((cdt updb_self).trans (cdf ((updb_ne rfl).trans (hn 8 rfl)))).trans (cdf ((updb_ne rfl).trans e10))).trans rfl) rfl
       ·exact ops_at ((cdf hk).trans (cdt e10)) rfl (o_callS [0] rfl en_13 rfl rfl (spec_l1Cur_pick_p c0 h33) rfl (by decide) (.cons _ _ _ _ rfl .nil) rfl rfl rfl) ((((cdt updb_self).trans (cdf ((updb_ne rfl).trans (hn 8 rfl)))).trans (cdt ((updb_ne rfl).trans e10))).trans rfl) rfl
      refine .cons _ _ _ _ _ ⟨rfl, [(34, .im false (([1, 1, 2, 2, 2, 3, 3, 4, 5] : List Int).map (c_int .i64))), (36, .int .i64 r31)], AllN.get rfl (.cons rfl (.cons rfl .nil)), fun b hd hn hk hc => ?_⟩ ?_
      ·cases e8 : b 8
       ·cases e10 : b 10
        ·exact ops_at (((cdt (hd 2 rfl)).trans (cdf e8)).trans (cdf e10)) rfl (o_ix (f := c_int .i64) rfl rfl tyS_3 rfl rfl h35 rfl) (((cdt ((updb_ne rfl).trans (hd 2 rfl))).trans (cdf ((updb_ne rfl).trans e8))).trans (cdf ((updb_ne rfl).trans e10))) rfl
        ·exact ops_at (((cdt (hd 2 rfl)).trans (cdf e8)).trans (cdt e10)) rfl (o_ix (f := c_int .i64) rfl rfl tyS_3 rfl rfl h35 rfl) (((cdt ((updb_ne rfl).trans (hd 2 rfl))).trans (cdf ((updb_ne rfl).trans e8))).trans (cdt ((updb_ne rfl).trans e10))) rfl
       ·cases e10 : b 10
        ·exact ops_at (((cdt (hd 2 rfl)).trans (cdt e8)).trans (cdf e10)) rfl (o_ix (f := c_int .i64) rfl rfl tyS_3 rfl rfl h35 rfl) (((cdt ((updb_ne rfl).trans (hd 2 rfl))).trans (cdt ((updb_ne rfl).trans e8))).trans (cdf ((updb_ne rfl).trans e10))) rfl
        ·exact ops_at ((((cdt (hd 2 rfl)).trans (cdt e8)).trans (cdt e10)).trans (cdf (hn 11 rfl))) rfl (o_ix (f := c_int .i64) rfl rfl tyS_3 rfl rfl h35 rfl) ((((cdt ((updb_ne rfl).trans (hd 2 rfl))).trans (cdt ((updb_ne rfl).trans e8))).trans (cdt ((updb_ne rfl).trans e10))).trans (cdf ((updb_ne rfl).trans (hn 11 rfl)))) rfl
      refine .cons _ _ _ _ _ ⟨rfl, [(37, .rf false [.int .i64 e34])], AllN.get rfl (.cons rfl .nil), fun b hd hn hk hc => ?_⟩ ?_
      ·cases e8 : b 8
       ·cases e10 : b 10
        ·exact ops_at (((cdt (hd 2 rfl)).trans (cdf e8)).trans (cdf e10)) rfl (o_loadRf rfl tyS_3 rfl (nb rfl) rfl) (((cdt ((updb_ne rfl).trans (hd 2 rfl))).trans (cdf ((updb_ne rfl).trans e8))).trans (cdf ((updb_ne rfl).trans e10))) rfl
        ·exact ops_at (((cdt (hd 2 rfl)).trans (cdf e8)).trans (cdt e10)) rfl (o_loadRf rfl tyS_3 rfl (nb rfl) rfl) (((cdt ((updb_ne rfl).trans (hd 2 rfl))).trans (cdf ((updb_ne rfl).trans e8))).trans (cdt ((updb_ne rfl).trans e10))) rfl
       ·cases e10 : b 10
        ·exact ops_at (((cdt (hd 2 rfl)).trans (cdt e8)).trans (cdf e10)) rfl (o_loadRf rfl tyS_3 rfl (nb rfl) rfl) (((cdt ((updb_ne rfl).trans (hd 2 rfl))).trans (cdt ((updb_ne rfl).trans e8))).trans (cdf ((updb_ne rfl).trans e10))) rfl
        ·exact ops_at ((((cdt (hd 2 rfl)).trans (cdt e8)).trans (cdt e10)).trans (cdf (hn 11 rfl))) rfl (o_loadRf rfl tyS_3 rfl (nb rfl) rfl) ((((cdt ((updb_ne rfl).trans (hd 2 rfl))).trans (cdt ((updb_ne rfl).trans e8))).trans (cdt ((updb_ne rfl).trans e10))).trans (cdf ((updb_ne rfl).trans (hn 11 rfl)))) rfl
      refine .cons _ _ _ _ _ ⟨rfl, [(11, .int .i64 v30)], AllN.get rfl (.cons rfl .nil), fun b hd hn hk hc => ?_⟩ ?_
      ·cases e2 : b 2
       ·cases e8 : b 8
        ·cases e10 : b 10
         ·exact ops_at ((cdf e2).trans (cdf e10)) rfl (o_move rfl rfl) ((cdf ((updb_ne rfl).trans e2)).trans (cdf ((updb_ne rfl).trans e10))) rfl
         ·exact ops_at ((cdf e2).trans (cdt e10)) rfl (o_move rfl rfl) ((cdf ((updb_ne rfl).trans e2)).trans (cdt ((updb_ne rfl).trans e10))) rfl
        ·cases e10 : b 10
         ·exact absurd (hc 8 2 rfl rfl e8) (by rw [e2]; decide)
         ·exact absurd (hc 8 2 rfl rfl e8) (by rw [e2]; decide)
       ·cases e8 : b 8
        ·cases e10 : b 10
         ·exact ops_at (((cdt e2).trans (cdf e8)).trans (cdf e10)) rfl (o_move rfl rfl) (((cdt ((updb_ne rfl).trans e2)).trans (cdf ((updb_ne rfl).trans e8))).trans (cdf ((updb_ne rfl).trans e10))) rfl
         ·exact ops_at (((cdt e2).trans (cdf e8)).trans (cdt e10)) rfl (o_move rfl rfl) (((cdt ((updb_ne rfl).trans e2)).trans (cdf ((updb_ne rfl).trans e8))).trans (cdt ((updb_ne rfl).trans e10))) rfl
        ·cases e10 : b 10
         ·exact ops_at (((cdt e2).trans (cdt e8)).trans (cdf e10)) rfl (o_move rfl rfl) (((cdt ((updb_ne rfl).trans e2)).trans (cdt ((updb_ne rfl).trans e8))).trans (cdf ((updb_ne rfl).trans e10))) rfl
         ·exact ops_at ((((cdt e2).trans (cdt e8)).trans (cdt e10)).trans (cdf (hn 11 rfl))) rfl (o_move rfl rfl) ((((cdt ((updb_ne rfl).trans e2)).trans (cdt ((updb_ne rfl).trans e8))).trans (cdt ((updb_ne rfl).trans e10))).trans (cdf ((updb_ne rfl).trans (hn 11 rfl)))) rfl
      refine .cons _ _ _ _ _ ⟨rfl, [(0, .bx 0 0)], AllN.get rfl (.cons rfl .nil), fun b hd hn hk hc => ?_⟩ ?_
      ·cases e2 : b 2
       ·cases e10 : b 10
        ·exact ops_at ((cdf e2).trans (cdf e10)) rfl (o_move rfl rfl) ((cdf ((updb_ne rfl).trans e2)).trans (cdf ((updb_ne rfl).trans e10))) rfl
        ·exact ops_at ((cdf e2).trans (cdt e10)) rfl (o_move rfl rfl) ((cdf ((updb_ne rfl).trans e2)).trans (cdt ((updb_ne rfl).trans e10))) rfl
       ·cases e10 : b 10
        ·exact ops_at (((cdt e2).trans (cdf (hn 8 rfl))).trans (cdf e10)) rfl (o_move rfl rfl) (((cdt ((updb_ne rfl).trans e2)).trans (cdf ((updb_ne rfl).trans (hn 8 rfl)))).trans (cdf ((updb_ne rfl).trans e10))) rfl
        ·exact ops_at (((cdt e2).trans (cdf (hn 8 rfl))).trans (cdt e10)) rfl (o_move rfl rfl) (((cdt ((updb_ne rfl).trans e2)).trans (cdf ((updb_ne rfl).trans (hn 8 rfl)))).trans (cdt ((updb_ne rfl).trans e10))) rfl
      refine .cons _ _ _ _ _ ⟨rfl, [], AllN.get rfl .nil, fun b hd hn hk hc => ?_⟩ ?_
      ·cases e2 : b 2
       ·cases e10 : b 10
        ·exact ops_at ((cdf e2).trans (cdf e10)) rfl (o_sliceIm (rows := ([(ByteArray.mk #[112, 99]), (ByteArray.mk #[112, 104, 111, 110, 101])] : List ByteArray).map (c_str)) rfl rfl tyS_9 ⟨_, rfl, rfl⟩ (by decide) rfl rfl rfl rfl rfl rfl) ((cdf ((updb_ne rfl).trans e2)).trans (cdf ((updb_ne rfl).trans e10))) rfl
        ·exact ops_at ((cdf e2).trans (cdt e10)) rfl (o_sliceIm (rows := ([(ByteArray.mk #[112, 99]), (ByteArray.mk #[112, 104, 111, 110, 101])] : List ByteArray).map (c_str)) rfl rfl tyS_9 ⟨_, rfl, rfl⟩ (by decide) rfl rfl rfl rfl rfl rfl) ((cdf ((updb_ne rfl).trans e2)).trans (cdt ((updb_ne rfl).trans e10))) rfl
       ·cases e10 : b 10
        ·exact ops_at (((cdt e2).trans (cdf (hn 8 rfl))).trans (cdf e10)) rfl (o_sliceIm (rows := ([(ByteArray.mk #[112, 99]), (ByteArray.mk #[112, 104, 111, 110, 101])] : List ByteArray).map (c_str)) rfl rfl tyS_9 ⟨_, rfl, rfl⟩ (by decide) rfl rfl rfl rfl rfl rfl) (((cdt ((updb_ne rfl).trans e2)).trans (cdf ((updb_ne rfl).trans (hn 8 rfl)))).trans (cdf ((updb_ne rfl).trans e10))) rfl
        ·exact ops_at (((cdt e2).trans (cdf (hn 8 rfl))).trans (cdt e10)) rfl (o_sliceIm (rows := ([(ByteArray.mk #[112, 99]), (ByteArray.mk #[112, 104, 111, 110, 101])] : List ByteArray).map (c_str)) rfl rfl tyS_9 ⟨_, rfl, rfl⟩ (by decide) rfl rfl rfl rfl rfl rfl) (((cdt ((updb_ne rfl).trans e2)).trans (cdf ((updb_ne rfl).trans (hn 8 rfl)))).trans (cdt ((updb_ne rfl).trans e10))) rfl
      refine .cons _ _ _ _ _ ⟨rfl, [(40, .bx 0 0), (41, .im false (([(ByteArray.mk #[112, 99]), (ByteArray.mk #[112, 104, 111, 110, 101])] : List ByteArray).map (c_str)))], AllN.get rfl (.cons rfl (.cons rfl .nil)), fun b hd hn hk hc => ?_⟩ ?_
      ·cases e10 : b 10
       ·exact ops_at (((cdt (hd 2 rfl)).trans (cdf hk)).trans (cdf e10)) rfl (o_callS [0] rfl en_23 rfl rfl (spec_l1Cur_of_p false c0 h38) rfl (by decide) (.cons _ _ _ _ rfl .nil) rfl rfl rfl) ((((cdt ((updb_ne rfl).trans (hd 2 rfl))).trans (cdt updb_self)).trans (cdf ((updb_ne rfl).trans e10))).trans rfl) rfl
       ·exact ops_at (((cdt (hd 2 rfl)).trans (cdf hk)).trans (cdt e10)) rfl (o_callS [0] rfl en_23 rfl rfl (spec_l1Cur_of_p false c0 h38) rfl (by decide) (.cons _ _ _ _ rfl .nil) rfl rfl rfl) (((((cdt ((updb_ne rfl).trans (hd 2 rfl))).trans (cdt updb_self)).trans (cdt ((updb_ne rfl).trans e10))).trans (cdf ((updb_ne rfl).trans (hn 11 rfl)))).trans rfl) rfl
      refine .cons _ _ _ _ _ ⟨rfl, [(38, .int .i64 e34), (39, .int .i64 v30), (42, .str r36)], AllN.get rfl (.cons rfl (.cons rfl (.cons rfl .nil))), fun b hd hn hk hc => ?_⟩ ?_
      ·cases e10 : b 10
       ·exact ops_at (((cdt (hd 2 rfl)).trans (cdt (hd 8 rfl))).trans (cdf e10)) rfl (o_build rfl ⟨_, fun _ => rfl, rfl⟩ rfl rfl rfl) (((cdt ((updb_ne rfl).trans (hd 2 rfl))).trans (cdt ((updb_ne rfl).trans (hd 8 rfl)))).trans (cdf ((updb_ne rfl).trans e10))) rfl
       ·exact ops_at ((((cdt (hd 2 rfl)).trans (cdt (hd 8 rfl))).trans (cdt e10)).trans (cdf (hn 11 rfl))) rfl (o_build rfl ⟨_, fun _ => rfl, rfl⟩ rfl rfl rfl) ((((cdt ((updb_ne rfl).trans (hd 2 rfl))).trans (cdt ((updb_ne rfl).trans (hd 8 rfl)))).trans (cdt ((updb_ne rfl).trans e10))).trans (cdf ((updb_ne rfl).trans (hn 11 rfl)))) rfl
      refine .cons _ _ _ _ _ ⟨rfl, [], AllN.get rfl .nil, fun b hd hn hk hc => ?_⟩ ?_
      ·cases e2 : b 2
       ·cases e8 : b 8
        ·exact ops_at ((cdf e2).trans (cdf hk)) rfl (o_alloc rfl ⟨_, rfl, rfl⟩) (((cdf ((updb_ne rfl).trans e2)).trans (cdt updb_self)).trans rfl) rfl
        ·exact absurd (hc 8 2 rfl rfl e8) (by rw [e2]; decide)
       ·cases e8 : b 8
        ·exact ops_at (((cdt e2).trans (cdf e8)).trans (cdf hk)) rfl (o_alloc rfl ⟨_, rfl, rfl⟩) ((((cdt ((updb_ne rfl).trans e2)).trans (cdf ((updb_ne rfl).trans e8))).trans (cdt updb_self)).trans rfl) rfl
        ·exact ops_at (((cdt e2).trans (cdt e8)).trans (cdf hk)) rfl (o_alloc rfl ⟨_, rfl, rfl⟩) (((((cdt ((updb_ne rfl).trans e2)).trans (cdt ((updb_ne rfl).trans e8))).trans (cdt updb_self)).trans (cdf ((updb_ne rfl).trans (hn 11 rfl)))).trans rfl) rfl
      refine .cons _ _ _ _ _ ⟨rfl, [(13, .bx 8 0), (43, .agg [.int .i64 e34, .int .i64 v30, .str e0, .str r36, .str e0])], AllN.get rfl (.cons rfl (.cons rfl .nil)), fun b hd hn hk hc => ?_⟩ ?_
      ·exact ops_at ((((cdt (hd 2 rfl)).trans (cdt (hd 8 rfl))).trans (cdt (hd 10 rfl))).trans (cdf hk)) rfl (o_storeBx rfl tyS_34 rfl rfl rfl rfl (nb rfl) rfl) (((((cdt ((updb_ne rfl).trans (hd 2 rfl))).trans (cdt ((updb_ne rfl).trans (hd 8 rfl)))).trans (cdt ((updb_ne rfl).trans (hd 10 rfl)))).trans (cdt updb_self)).trans rfl) rfl
      exact .nil _
     ·intro b b' h; simp only [h 2 (by decide), h 8 (by decide), h 10 (by decide), h 11 (by decide)]
     refine thn_normal ?_
     refine T.cut (fun fr' σ' => ∃ (b39 : T_spec_l1Cur) (b40 : T_impl_SessEvent), fr' = [(0, .bx 0 0), (7, .bx 3 0), (8, .hd 5 (l7.map (c_T_impl_SessEvent false)).length 0 (l7.map (c_T_impl_SessEvent false)).length), (9, .hd 6 (l8.map (c_str)).length 0 (l8.map (c_str)).length), (10, .hd 7 (l9.map (c_str)).length 0 (l9.map (c_str)).length), (11, .int .i64 v30), (12, .int .i64 v11), (13, .bx 8 0)] ∧ σ' = [.box (c_T_spec_l1Cur c0 b39), .afm 1 (f6.map (c_ax (c_str))), .box (c_T_impl_SessConf b0 a0), .box (k_spec_l19S 4 1 b0 b5), .arr .raw 7 (b5.list_.map (c_T_spec_l19X 1 false)), .arr .clo 5 (l7.map (c_T_impl_SessEvent false)), .arr .clo 1 (l8.map (c_str)), .arr .clo 1 (l9.map (c_str)), .box (c_T_impl_SessEvent false b40)] ∧ spec_l1Cur_sessEvents_j3 b5 f6 l7 l8 l9 v11 v30 b39 b40 = some y18) (T.pk ?_) ?_
     ·skip
      refine T.seq ?_
      refine T.conv (Cs.eqS (σ' := [.box (c_T_spec_l1Cur c0 o37), _, _, _, _, _, _, _, .box [.int .i64 e34, .int .i64 v30, .str e0, .str r36, .str e0]]) rfl) ?_
      refine au 10 ?_
      refine T.cH H (fun H h => ?_) (fun H h => ?_)
      ·refine au 2 ?_
       refine TL.st rfl rfl rfl (o_sliceIm (rows := ([(ByteArray.mk #[97, 110, 110]), (ByteArray.mk #[98, 111, 98])] : List ByteArray).map (c_str)) rfl rfl tyS_9 ⟨_, rfl, rfl⟩ (by decide) rfl rfl rfl rfl rfl rfl) ?_
       obtain ⟨⟨r62, o63⟩, h64, H⟩ := bind_s H
       refine TL.st rfl rfl rfl (o_callS [0] rfl en_23 rfl rfl (spec_l1Cur_of_p false c0 h64) rfl (by decide) (.cons _ _ _ _ rfl .nil) rfl rfl rfl) ?_
       refine au 3 ?_
       exact Pk.of (thn_normal ⟨o63, (⟨e34, v30, r62, r36, e0⟩ : T_impl_SessEvent), rfl, rfl, H⟩)
      ·refine au 3 ?_
       refine TL.st rfl rfl rfl (o_lenOwn (f := c_str) rfl rfl rfl rfl rfl) ?_
       refine au 2 ?_
       refine T.cH H (fun H h => ?_) (fun H h => ?_)
       ·refine au 3 ?_
        refine TL.st rfl rfl rfl (o_lenOwn (f := c_str) rfl rfl rfl rfl rfl) ?_
        refine au 3 ?_
        refine TL.st rfl rfl rfl (o_lenOwn (f := c_str) rfl rfl rfl rfl rfl) ?_
        obtain ⟨r65, h66, H⟩ := bind_s H
        refine TL.st rfl rfl rfl (o_callP rfl en_24 rfl rfl (.cons _ _ _ _ (.cl _ rfl) (.cons _ _ _ _ (.cl _ rfl) .nil)) (spec_l15Lesser_p  h66)) ?_
        obtain ⟨⟨r67, o68⟩, h69, H⟩ := bind_s H
        refine TL.st rfl rfl rfl (o_callS [0] rfl en_13 rfl rfl (spec_l1Cur_pick_p c0 h69) rfl (by decide) (.cons _ _ _ _ rfl .nil) rfl rfl rfl) ?_
        refine au 7 ?_
        obtain ⟨e70, h71, H⟩ := bind_s H
        refine TL.st rfl rfl rfl (o_ixh (f := c_str) rfl rfl tyS_9 rfl rfl rfl rfl h71 rfl) ?_
        refine TL.st rfl rfl rfl (o_loadEl rfl tyS_9 rfl rfl rfl (by rw [List.getElem?_map, (idx_s h71).2]; rfl) (nb rfl) rfl) ?_
        refine au 6 ?_
        obtain ⟨⟨r72, o73⟩, h74, H⟩ := bind_s H
        refine TL.st rfl rfl rfl (o_callS [0] rfl en_22 rfl rfl (spec_l1Cur_one_p c0 h74) rfl (by decide) (.cons _ _ _ _ rfl .nil) rfl rfl rfl) ?_
        refine au 2 ?_
        refine T.conv (Cs.eqS (σ' := [.box (c_T_spec_l1Cur c0 o73), _, _, _, _, _, _, _, .box [.int .i64 e34, .int .i64 v30, .str e0, .str r36, .str e70]]) rfl) ?_
        refine T.cH H (fun H h => ?_) (fun H h => ?_)
        ·refine au 3 ?_
         obtain ⟨e75, h76, H⟩ := bind_s H
         refine TL.st rfl rfl rfl (o_ixh (f := c_str) rfl rfl tyS_9 rfl rfl rfl rfl h76 rfl) ?_
         refine TL.st rfl rfl rfl (o_loadEl rfl tyS_9 rfl rfl rfl (by rw [List.getElem?_map, (idx_s h76).2]; rfl) (nb rfl) rfl) ?_
         refine au 3 ?_
         exact Pk.of (thn_normal ⟨o73, (⟨e34, v30, e0, e75, e70⟩ : T_impl_SessEvent), rfl, rfl, H⟩)
        ·refine T.skip ?_
         exact Pk.of (thn_normal ⟨o73, (⟨e34, v30, e0, r36, e70⟩ : T_impl_SessEvent), rfl, rfl, H⟩)
       ·refine T.skip ?_
        exact Pk.of (thn_normal ⟨o37, (⟨e34, v30, e0, r36, e0⟩ : T_impl_SessEvent), rfl, rfl, H⟩)
     ·rintro _ _ ⟨b39, b40, rfl, rfl, H⟩
      refine T.cut (fun fr' σ' => ∃ (b41 : T_impl_SessEvent), fr' = [(0, .bx 0 0), (7, .bx 3 0), (8, .hd 5 (l7.map (c_T_impl_SessEvent false)).length 0 (l7.map (c_T_impl_SessEvent false)).length), (9, .hd 6 (l8.map (c_str)).length 0 (l8.map (c_str)).length), (10, .hd 7 (l9.map (c_str)).length 0 (l9.map (c_str)).length), (11, .int .i64 v30), (12, .int .i64 v11), (13, .bx 8 0)] ∧ σ' = [.box (c_T_spec_l1Cur c0 b39), .afm 1 (f6.map (c_ax (c_str))), .box (c_T_impl_SessConf b0 a0), .box (k_spec_l19S 4 1 b0 b5), .arr .raw 7 (b5.list_.map (c_T_spec_l19X 1 false)), .arr .clo 5 (l7.map (c_T_impl_SessEvent false)), .arr .clo 1 (l8.map (c_str)), .arr .clo 1 (l9.map (c_str)), .box (c_T_impl_SessEvent false b41)] ∧ spec_l1Cur_sessEvents_j4 b5 f6 l7 l8 l9 v11 v30 b39 b41 = some y18) (T.pk ?_) ?_
      ·skip
       refine au 6 ?_
       refine T.cH H (fun H h => ?_) (fun H h => ?_)
       ·refine au 4 ?_
        exact Pk.of (thn_normal ⟨({ b40 with Device_ := e0 } : T_impl_SessEvent), rfl, rfl, H⟩)
       ·refine T.skip ?_
        exact Pk.of (thn_normal ⟨b40, rfl, rfl, H⟩)
      ·rintro _ _ ⟨b41, rfl, rfl, H⟩
       refine T.cut (fun fr' σ' => ∃ (b42 : T_spec_l1Cur) (b43 : T_impl_SessEvent), fr' = [(0, .bx 0 0), (7, .bx 3 0), (8, .hd 5 (l7.map (c_T_impl_SessEvent false)).length 0 (l7.map (c_T_impl_SessEvent false)).length), (9, .hd 6 (l8.map (c_str)).length 0 (l8.map (c_str)).length), (10, .hd 7 (l9.map (c_str)).length 0 (l9.map (c_str)).length), (11, .int .i64 v30), (12, .int .i64 v11), (13, .bx 8 0)] ∧ σ' = [.box (c_T_spec_l1Cur c0 b42), .afm 1 (f6.map (c_ax (c_str))), .box (c_T_impl_SessConf b0 a0), .box (k_spec_l19S 4 1 b0 b5), .arr .raw 7 (b5.list_.map (c_T_spec_l19X 1 false)), .arr .clo 5 (l7.map (c_T_impl_SessEvent false)), .arr .clo 1 (l8.map (c_str)), .arr .clo 1 (l9.map (c_str)), .box (c_T_impl_SessEvent false b43)] ∧ spec_l1Cur_sessEvents_j5 b5 f6 l7 l8 l9 v11 v30 b42 b43 = some y18) (T.pk ?_) ?_
       ·skip
        refine au 3 ?_
        obtain ⟨⟨r56, o57⟩, h58, H⟩ := bind_s H
        refine TL.st rfl rfl rfl (o_callS [0] rfl en_13 rfl rfl (spec_l1Cur_pick_p c0 h58) rfl (by decide) (.cons _ _ _ _ rfl .nil) rfl rfl rfl) ?_
        refine au 7 ?_
        refine T.cH H (fun H h => ?_) (fun H h => ?_)
        ·refine au 2 ?_
         obtain ⟨⟨r59, o60⟩, h61, H⟩ := bind_s H
         refine TL.st rfl rfl rfl (o_callS [0] rfl en_13 rfl rfl (spec_l1Cur_pick_p c0 h61) rfl (by decide) (.cons _ _ _ _ rfl .nil) rfl rfl rfl) ?_
         refine au 3 ?_
         refine inB_normal ?_
         exact Pk.of (thn_normal ⟨o60, ({ b41 with Kind_ := r59 } : T_impl_SessEvent), rfl, rfl, H⟩)
        ·refine au 5 ?_
         refine T.cH H (fun H h => ?_) (fun H h => ?_)
         ·refine au 7 ?_
          refine inB_normal ?_
          exact Pk.of (thn_normal ⟨o57, ({ b41 with Time_ := (IntKind.i64.wrap (b41.Time_ - 3)) } : T_impl_SessEvent), rfl, rfl, H⟩)
         ·refine au 5 ?_
          refine T.cH H (fun H h => ?_) (fun H h => ?_)
          ·refine au 4 ?_
           refine inB_normal ?_
           exact Pk.of (thn_normal ⟨o57, ({ b41 with Id_ := (ByteArray.mk #[115, 101, 115, 115, 49]) } : T_impl_SessEvent), rfl, rfl, H⟩)
          ·refine T.skip ?_
           refine inB_normal ?_
           exact Pk.of (thn_normal ⟨o57, b41, rfl, rfl, H⟩)
       ·rintro _ _ ⟨b42, b43, rfl, rfl, H⟩
        refine au 4 ?_
        obtain ⟨⟨r44, o45, o46⟩, h47, H⟩ := bind_s H
        refine TL.st rfl rfl rfl (o_callM [3, 4, 1] rfl en_25 rfl rfl (spec_l19S_do_p b0 h47) rfl (by decide) (.cons _ _ _ _ rfl (.cons _ _ _ _ (ren_at rfl (ren_rawO fun _ => rfl)) (.cons _ _ _ _ rfl .nil))) rfl rfl (.cons _ _ _ _ rfl (.cons _ _ _ _ (ren_rawO fun _ => rfl) (.cons _ _ _ _ rfl .nil))) rfl) ?_
        refine au 4 ?_
        refine T.conv (Cs.eqS (σ' := [_, .afm 1 (o46.map (c_ax (c_str))), _, .box (k_spec_l19S 4 1 b0 o45), .arr .raw 7 (o45.list_.map (c_T_spec_l19X 1 false)), _, _, _, _, .box (c_T_impl_SessReply false r44)]) rfl) ?_
        refine au 3 ?_
        refine TL.st rfl rfl rfl (o_sliceIm (rows := ([b43] : List T_impl_SessEvent).map (c_T_impl_SessEvent false)) rfl rfl tyS_34 ⟨_, rfl, rfl⟩ (by decide) rfl rfl rfl rfl rfl rfl) ?_
        obtain ⟨l48, h49, H⟩ := bind_s H
        refine TL.st rfl rfl rfl (o_ap (f := c_T_impl_SessEvent false) (xs := l7) (ys := ([b43] : List T_impl_SessEvent)) rfl rfl tyE_34 rfl rfl rfl rfl (by decide) rfl (fun _ => rfl) h49) ?_
        refine au 10 ?_
        refine TL.gcq rfl rfl rfl (.bool _) rfl rfl (fun h => o_str rfl (gv h rfl) rfl rfl) ?_
        refine au 5 ?_
        obtain ⟨r50, h51, H⟩ := bind_s H
        refine TL.gcq rfl rfl rfl (.bool _) rfl rfl (fun h => o_callP rfl en_26 rfl (evl_2 (gv h rfl) (gv h rfl)) (.cons _ _ _ _ (.own rfl (by decide) rfl) (.cons _ _ _ _ (.cl _ rfl) .nil)) (spec_l3Has_p true (gdO_t h51 h))) ?_
        refine au 3 ?_
        refine T.cH H (fun H h => ?_) (fun H h => ?_)
        ·refine au 5 ?_
         refine TL.st rfl rfl rfl (o_sliceIm (rows := ([r44.Id_] : List ByteArray).map (c_str)) rfl rfl tyS_9 ⟨_, rfl, rfl⟩ (by decide) rfl rfl rfl rfl rfl rfl) ?_
         obtain ⟨l52, h53, H⟩ := bind_s H
         refine TL.st rfl rfl rfl (o_ap (f := c_str) (xs := l8) (ys := ([r44.Id_] : List ByteArray)) rfl rfl tyE_9 rfl rfl rfl rfl (by decide) rfl (fun _ => rfl) h53) ?_
         refine au 6 ?_
         refine TL.st rfl rfl rfl (o_sliceIm (rows := ([b43.Device_] : List ByteArray).map (c_str)) rfl rfl tyS_9 ⟨_, rfl, rfl⟩ (by decide) rfl rfl rfl rfl rfl rfl) ?_
         obtain ⟨l54, h55, H⟩ := bind_s H
         refine TL.st rfl rfl rfl (o_ap (f := c_str) (xs := l9) (ys := ([b43.Device_] : List ByteArray)) rfl rfl tyE_9 rfl rfl rfl rfl (by decide) rfl (fun _ => rfl) h55) ?_
         refine au 2 ?_
         refine inB_normal ?_
         exact Pk.of (thn_normal ⟨b42, o45, o46, l48, l52, l54, v30, rfl, rfl, H⟩)
        ·refine T.skip ?_
         refine inB_normal ?_
         exact Pk.of (thn_normal ⟨b42, o45, o46, l48, l8, l9, v30, rfl, rfl, H⟩)
   ·rintro _ _ ⟨b19, b20, f21, l22, l23, l24, v25, rfl, rfl, H⟩
    refine au 5 ?_
    exact Pk.of (thn_normal ⟨(b19, b20, f21, l22, l23, l24, v25, (IntKind.i64.wrap (v11 - 1))), (some_i H).symm, rfl, rfl⟩)
  ·refine T.exit ?_
   refine thn_exit ?_
   exact Pk.of (thn_exit ⟨(b4, b5, f6, l7, l8, l9), (some_i H).symm, rfl, rfl, rfl⟩)
 ·rcases q80 with ⟨b12, b13, f14, l15, l16, l17⟩
  rintro _ _ _ ⟨rfl, rfl, rfl⟩
  refine inB_here ?_
  refine au 5 ?_
  refine T.conv (Cs.frzOwn (t := 6) rfl rfl rfl) ?_
  refine T.ret ?_
  cases some_i H
  exact ⟨trivial, _, (.tmp _ _ _ _ rfl .nil), ⟨rfl, _, rfl⟩⟩
theorem en_11 : En Tryd.prog 11 := .of Tryd.func11 rfl rfl
noncomputable def spec_DrawSignedIn_j1 (r1 : T_impl_SessConf) (r6 : (List T_impl_SessEvent)) (v12 : Int) : Option (T_impl_SessConf × (List T_impl_SessEvent) × Int) :=
  some (r1, r6, v12)
noncomputable def spec_DrawSignedIn (a0 : (List Int)) : Option (T_impl_SessConf × (List T_impl_SessEvent) × Int) :=
  (spec_l1Cur_sessConf (⟨a0, 0, 0⟩ : T_spec_l1Cur)).bind fun q => (match q with | (r1, o2) => (spec_l1Many a0 6 50).bind fun r4 => (spec_l1Cur_sessEvents r1 (IntKind.i64.wrap (10 + r4)) o2).bind fun q => (match q with | (r6, o7) => (spec_l1Cur_pick 12 o7).bind fun q => (match q with | (r9, o10) => cond (decide ((r6.length : Int) > 0)) ((idx r6 (IntKind.i64.wrap ((r6.length : Int) - 1))).bind fun e13 => spec_DrawSignedIn_j1 r1 r6 (IntKind.i64.wrap ((IntKind.i64.wrap (r9 - 1)) + e13.Time_))) (spec_DrawSignedIn_j1 r1 r6 (IntKind.i64.wrap (r9 - 1))))))
theorem spec_DrawSignedIn_p (b0 : Bool) {a0 : (List Int)} {R0 : T_impl_SessConf} {R1 : (List T_impl_SessEvent)} {R2 : Int} (H : spec_DrawSignedIn a0 = some (R0, R1, R2)) : Pure Tryd.prog 4 [.im b0 (a0.map (c_int .u8))] (.tup [.agg (c_T_impl_SessConf false R0), .im false (R1.map (c_T_impl_SessEvent false)), .int .i64 R2]) := by
 refine CallT.of_TN (n := 38) Tryd.func4 rfl rfl rfl rfl ?_
 refine au 16 ?_
 obtain ⟨⟨r1, o2⟩, h3, H⟩ := bind_s H
 refine TL.st rfl rfl rfl (o_callS [1] rfl en_10 rfl rfl (spec_l1Cur_sessConf_p b0 h3) rfl (by decide) (.cons _ _ _ _ rfl .nil) rfl rfl rfl) ?_
 refine au 4 ?_
 refine T.conv (Cs.eqS (σ' := [.box [.nilS, .int .i64 0, .int .i64 0], .box (c_T_spec_l1Cur b0 o2), .box (c_T_impl_SessConf false r1)]) rfl) ?_
 refine T.drawn rfl ?_
 refine ad 3 ?_
 obtain ⟨r4, h5, H⟩ := bind_s H
 refine TD.qs rfl rfl (fun _ => o_callP rfl en_12 rfl rfl (.cons _ _ _ _ (.imv _ _) (.cons _ _ _ _ (.cl _ rfl) (.cons _ _ _ _ (.cl _ rfl) .nil))) (spec_l1Many_p b0 h5)) ?_
 refine TD.qs rfl rfl (fun _ => o_ari rfl rfl rfl rfl) ?_
 obtain ⟨⟨r6, o7⟩, h8, H⟩ := bind_s H
 refine TD.as rfl rfl (o_callS [1] rfl en_11 rfl rfl (spec_l1Cur_sessEvents_p false b0 h8) rfl (by decide) (.cons _ _ _ _ rfl .nil) rfl rfl rfl) ?_
 refine TD.qs rfl rfl (fun _ => o_assign rfl rfl) ?_
 refine TD.nil ⟨rfl, ?_⟩
 refine au 3 ?_
 obtain ⟨⟨r9, o10⟩, h11, H⟩ := bind_s H
 refine TL.st rfl rfl rfl (o_callS [1] rfl en_13 rfl rfl (spec_l1Cur_pick_p b0 h11) rfl (by decide) (.cons _ _ _ _ rfl .nil) rfl rfl rfl) ?_
 refine au 3 ?_
 refine T.cut (fun fr' σ' => ∃ (v12 : Int), fr' = [(2, .bx 0 0), (6, .bx 2 0), (7, .im false (r6.map (c_T_impl_SessEvent false))), (8, .int .i64 v12)] ∧ σ' = [.box [.nilS, .int .i64 0, .int .i64 0], .box (c_T_spec_l1Cur b0 o10), .box (c_T_impl_SessConf false r1)] ∧ spec_DrawSignedIn_j1 r1 r6 v12 = some (R0, R1, R2)) (T.pk ?_) ?_
 ·skip
  refine au 3 ?_
  refine TL.st rfl rfl rfl (o_lenL (f := c_T_impl_SessEvent false) rfl rfl rfl) ?_
  refine au 2 ?_
  refine T.cH H (fun H h => ?_) (fun H h => ?_)
  ·refine au 4 ?_
   refine TL.st rfl rfl rfl (o_lenL (f := c_T_impl_SessEvent false) rfl rfl rfl) ?_
   refine TL.st rfl rfl rfl (o_ari rfl rfl rfl rfl) ?_
   obtain ⟨e13, h14, H⟩ := bind_s H
   refine TL.st rfl rfl rfl (o_ix (f := c_T_impl_SessEvent false) rfl rfl tyS_34 rfl rfl h14 rfl) ?_
   refine TL.st rfl rfl rfl (o_fieldAddr rfl rfl rfl tyS_3 (by decide) rfl rfl trivial) ?_
   refine au 4 ?_
   exact Pk.of (thn_normal ⟨(IntKind.i64.wrap ((IntKind.i64.wrap (r9 - 1)) + e13.Time_)), rfl, rfl, H⟩)
  ·refine T.skip ?_
   exact Pk.of (thn_normal ⟨(IntKind.i64.wrap (r9 - 1)), rfl, rfl, H⟩)
 ·rintro _ _ ⟨v12, rfl, rfl, H⟩
  refine au 10 ?_
  cases some_i H
  exact ⟨trivial, _, (.cell _ _ _ _ _ _ _ _ _ _ rfl rfl tyS_24 (nb rfl) rfl (.tmp _ _ _ _ rfl (.tmp _ _ _ _ rfl .nil))), (.tupL (.cons _ _ _ _ (.cl _ rfl) (.cons _ _ _ _ (.cl _ rfl) (.cons _ _ _ _ (.cl _ rfl) .nil))))⟩
theorem en_4 : En Tryd.prog 4 := .of Tryd.func4 rfl rfl
noncomputable def impl_GoodSessConf (a0 : T_impl_SessConf) : Option Bool :=
  some ((((decide ((a0.Key_.length : Int) ≤ 64) && decide (a0.Idle_ ≥ 1)) && decide (a0.Idle_ ≤ 1000000)) && decide (a0.Most_ ≥ 1)) && decide (a0.Most_ ≤ 1000000))
theorem impl_GoodSessConf_p (b0 : Bool) {a0 : T_impl_SessConf} {R0 : Bool} (H : impl_GoodSessConf a0 = some R0) : Pure Tryd.prog 28 [.agg (c_T_impl_SessConf b0 a0)] (.bool R0) := by
 refine CallT.of_TN (n := 27) Tryd.func28 rfl rfl rfl rfl ?_
 refine au 9 ?_
 refine TL.st rfl rfl rfl (o_lenL (f := c_int .u8) rfl rfl rfl) ?_
 refine au 24 ?_
 cases some_i H
 exact ⟨trivial, _, (.tmp _ _ _ _ rfl .nil), (.cl _ rfl)⟩
theorem en_28 : En Tryd.prog 28 := .of Tryd.func28 rfl rfl
theorem tyS_28 : TyS Tryd.prog 28 false 1 := ⟨rfl, rfl⟩
def k_impl_ysessions (a1 a2 p : Nat) (b : Bool) (x : T_impl_ysessions) : List V := ((c_T_impl_SessConf b x.c_) ++ [.int .i64 x.now_, .int .i64 x.ids_, .hd a1 x.list_.length 0 x.list_.length, .hd a2 (x.reply_.map (c_T_impl_SessReply false)).length 0 (x.reply_.map (c_T_impl_SessReply false)).length])
noncomputable def impl_ydigit (a0 : Int) : Option Bool :=
  some (decide (a0 ≥ 48) && decide (a0 ≤ 57))
theorem impl_ydigit_p  {a0 : Int} {R0 : Bool} (H : impl_ydigit a0 = some R0) : Pure Tryd.prog 41 [.int .u8 a0] (.bool R0) := by
 refine CallT.of_TN (n := 9) Tryd.func41 rfl rfl rfl rfl ?_
 refine au 15 ?_
 cases some_i H
 exact ⟨trivial, _, (.tmp _ _ _ _ rfl .nil), (.cl _ rfl)⟩
theorem en_41 : En Tryd.prog 41 := .of Tryd.func41 rfl rfl
noncomputable def impl_yletter (a0 : Int) : Option Bool :=
  some ((decide (a0 ≥ 97) && decide (a0 ≤ 122)) || (decide (a0 ≥ 65) && decide (a0 ≤ 90)))
theorem impl_yletter_p  {a0 : Int} {R0 : Bool} (H : impl_yletter a0 = some R0) : Pure Tryd.prog 50 [.int .u8 a0] (.bool R0) := by
 refine CallT.of_TN (n := 17) Tryd.func50 rfl rfl rfl rfl ?_
 refine au 15 ?_
 refine TL.gcq rfl rfl rfl (.bool _) rfl rfl (fun h => o_move rfl (gv h rfl)) ?_
 refine TL.gcq rfl rfl rfl (.gd _ _) rfl rfl (fun h => o_move rfl rfl) ?_
 refine TL.gcq rfl rfl rfl (.gd _ _) rfl rfl (fun h => o_ari rfl (gv h rfl) rfl rfl) ?_
 refine TL.gcq rfl rfl rfl (.bool _) rfl rfl (fun h => o_and rfl (gv h rfl) rfl (fun k => Gd_t (andi h k)) rfl) ?_
 refine au 4 ?_
 cases some_i H
 exact ⟨trivial, _, (.tmp _ _ _ _ rfl .nil), (.cl _ rfl)⟩
theorem en_50 : En Tryd.prog 50 := .of Tryd.func50 rfl rfl
noncomputable def impl_ywordByte (a0 : Int) : Option Bool :=
  (impl_yletter a0).bind fun r1 => (gdO (!r1) (impl_ydigit a0)).bind fun r3 => some ((r1 || r3) || (a0 == 95))
theorem impl_ywordByte_p  {a0 : Int} {R0 : Bool} (H : impl_ywordByte a0 = some R0) : Pure Tryd.prog 42 [.int .u8 a0] (.bool R0) := by
 refine CallT.of_TN (n := 13) Tryd.func42 rfl rfl rfl rfl ?_
 refine au 7 ?_
 obtain ⟨r1, h2, H⟩ := bind_s H
 refine TL.st rfl rfl rfl (o_callP rfl en_50 rfl rfl (.cons _ _ _ _ (.cl _ rfl) .nil) (impl_yletter_p  h2)) ?_
 refine au 2 ?_
 obtain ⟨r3, h4, H⟩ := bind_s H
 refine TL.gcq rfl rfl rfl (.bool _) rfl rfl (fun h => o_callP rfl en_41 rfl (evl_1 (gv h rfl)) (.cons _ _ _ _ (.cl _ rfl) .nil) (impl_ydigit_p  (gdO_t h4 h))) ?_
 refine au 8 ?_
 cases some_i H
 exact ⟨trivial, _, (.tmp _ _ _ _ rfl .nil), (.cl _ rfl)⟩
theorem en_42 : En Tryd.prog 42 := .of Tryd.func42 rfl rfl
noncomputable def impl_GoodName_l1 (a0 : ByteArray) : Int → Option (Int ⊕ (Unit ⊕ Bool)) := fun s => match s with
  | v5 => cond (decide (v5 < (a0.size : Int))) ((idxS a0 v5).bind fun b8 => (impl_ywordByte b8).bind fun r10 => cond (!r10) (some (.inr (.inr false))) (some (.inl (IntKind.i64.wrap (v5 + 1))))) (some (.inr (.inl ())))
noncomputable def impl_GoodName (a0 : ByteArray) : Option Bool :=
  (gdO (!((a0.toList == e0.toList) || decide ((a0.size : Int) > 30))) (idxS a0 0)).bind fun b1 => (gdO (!((a0.toList == e0.toList) || decide ((a0.size : Int) > 30))) (impl_ydigit b1)).bind fun r3 => cond (((a0.toList == e0.toList) || decide ((a0.size : Int) > 30)) || r3) (some false) ((loopO (impl_GoodName_l1 a0) 0).bind fun q12 => (match q12 with | .inl _ => some true | .inr q6 => some q6))
theorem impl_GoodName_p  {a0 : ByteArray} {R0 : Bool} (H : impl_GoodName a0 = some R0) : Pure Tryd.prog 33 [.str a0] (.bool R0) := by
 refine CallT.of_TN (n := 27) Tryd.func33 rfl rfl rfl rfl ?_
 refine au 11 ?_
 refine TL.gcq rfl rfl rfl (.bool _) rfl rfl (fun h => o_lenS rfl rfl (gv h rfl)) ?_
 refine au 4 ?_
 obtain ⟨b1, h2, H⟩ := bind_s H
 refine TL.gcq rfl rfl rfl (.bool _) rfl rfl (fun h => o_ixs rfl rfl (gv h rfl) rfl (gdO_t h2 h)) ?_
 obtain ⟨r3, h4, H⟩ := bind_s H
 refine TL.gcq rfl rfl rfl (.bool _) rfl rfl (fun h => o_callP rfl en_41 rfl (evl_1 (gv h rfl)) (.cons _ _ _ _ (.cl _ rfl) .nil) (impl_ydigit_p  (gdO_t h4 h))) ?_
 refine au 2 ?_
 refine T.cH H (fun H h => ?_) (fun H h => ?_)
 ·refine au 5 ?_
  refine thn_ret ?_
  cases some_i H
  exact ⟨trivial, _, (.tmp _ _ _ _ rfl .nil), (.cl _ rfl)⟩
 ·refine au 9 ?_
  obtain ⟨q12, h13, H⟩ := bind_s H
  refine T.lq (fun s => match s with | v5 => [(0, .str a0), (17, .int .i64 (a0.size : Int)), (18, .int .i64 v5)]) (fun s => match s with | v5 => []) (fun q ex fr σ => match q with | .inl _ => ex = .exit 0 ∧ fr = [] ∧ σ = [] | .inr q6 => ex = .ret ∧ RetN Tryd.prog [.tmp 2] (fun v τ => Told τ v (.bool q6)) .ret fr σ) h13 ?_ ?_
  ·rintro v5 y7 H
   refine au 5 ?_
   refine T.cH H (fun H h => ?_) (fun H h => ?_)
   ·refine au 12 ?_
    obtain ⟨b8, h9, H⟩ := bind_s H
    refine TL.st rfl rfl rfl (o_ixs rfl rfl rfl rfl h9) ?_
    obtain ⟨r10, h11, H⟩ := bind_s H
    refine TL.st rfl rfl rfl (o_callP rfl en_42 rfl rfl (.cons _ _ _ _ (.cl _ rfl) .nil) (impl_ywordByte_p  h11)) ?_
    refine au 2 ?_
    refine T.cH H (fun H h => ?_) (fun H h => ?_)
    ·refine au 5 ?_
     refine inB_ret (thn_ret ?_)
     exact Pk.id (thn_ret ⟨.inr false, (some_i H).symm, rfl, ⟨trivial, _, (.tmp _ _ _ _ rfl .nil), (.cl _ rfl)⟩⟩)
    ·refine au 5 ?_
     exact Pk.of (thn_normal ⟨(IntKind.i64.wrap (v5 + 1)), (some_i H).symm, rfl, rfl⟩)
   ·refine T.exit ?_
    refine thn_exit ?_
    exact Pk.of (thn_exit ⟨.inl (), (some_i H).symm, rfl, rfl, rfl⟩)
  ·rcases q12 with ⟨⟩ | q6
   ·rintro _ _ _ ⟨rfl, rfl, rfl⟩
    refine inB_here ?_
    refine au 5 ?_
    cases some_i H
    exact ⟨trivial, _, (.tmp _ _ _ _ rfl .nil), (.cl _ rfl)⟩
   ·rintro _ fr1 σ1 ⟨rfl, hr⟩
    refine inB_ret (thn_ret ?_)
    cases some_i H
    exact hr
theorem en_33 : En Tryd.prog 33 := .of Tryd.func33 rfl rfl
theorem en_51 : En Tryd.prog 51 := .of Tryd.func51 rfl rfl
theorem tyS_100 : TyS Tryd.prog 100 true 4 := ⟨rfl, rfl⟩
noncomputable def impl_Digest_1_l1 (a0 : Int) (s1 : (List Int)) : ((List Int) × Int) → Option (((List Int) × Int) ⊕ (List Int)) := fun s => match s with
  | (b1, v2) => cond (decide (v2 < 4)) ((ixA 4 b1 v2).bind fun e5 => (ixA 4 s1 v2).bind fun e7 => (ixA 4 b1 (Int.tmod (IntKind.i64.wrap (v2 + 1)) 4)).bind fun e9 => (ixA 4 b1 v2).bind fun e11 => some (.inl ((b1.set (Int.toNat v2) (Int.tmod (IntKind.i64.wrap ((IntKind.i64.wrap ((IntKind.i64.wrap ((IntKind.i64.wrap (e5 * e7)) + (IntKind.i64.wrap a0))) + 1)) + e9)) 2147483579)), (IntKind.i64.wrap (v2 + 1))))) (some (.inr b1))
noncomputable def impl_Digest_1 (a0 : Int) (s0 : (List Int)) (s1 : (List Int)) : Option (List Int) :=
  (loopO (impl_Digest_1_l1 a0 s1) (s0, 0)).bind fun b3 => (match b3 with | b3 => some b3)
theorem impl_Digest_1_p  {a0 : Int} {s0 : (List Int)} {s1 : (List Int)} {U0 : (List Int)} (H : impl_Digest_1 a0 s0 s1 = some U0) : St Tryd.prog 66 [.int .u8 a0, .bx 0 0, .bx 1 0] [.box (s0.map (V.int .i64)), .box (s1.map (V.int .i64))] (.tup []) [.box (U0.map (V.int .i64)), .box (s1.map (V.int .i64))] := by
 refine CallT.fin (CallT.of_TN (n := 29) Tryd.func66 rfl rfl rfl rfl ?_) rfl rfl ⟨(belA fun _ => rfl), ⟨(belA fun _ => rfl), trivial⟩⟩
 refine au 5 ?_
 obtain ⟨b3, h14, H⟩ := bind_s H
 refine T.lq (fun s => match s with | (b1, v2) => [(0, .int .u8 a0), (1, .bx 0 0), (2, .bx 1 0), (5, .int .i64 v2)]) (fun s => match s with | (b1, v2) => [.box (b1.map (V.int .i64)), .box (s1.map (V.int .i64))]) (fun q ex fr σ => match q with | b3 => ex = .exit 0 ∧ fr = [] ∧ σ = [.box (b3.map (V.int .i64)), .box (s1.map (V.int .i64))]) h14 ?_ ?_
 ·rintro ⟨b1, v2⟩ y4 H
  refine au 5 ?_
  refine T.cH H (fun H h => ?_) (fun H h => ?_)
  ·refine au 8 ?_
   refine T.drawn rfl ?_
   refine ad 2 ?_
   obtain ⟨e5, h6, H⟩ := bind_s H
   refine TD.rs rfl rfl (o_ixA (f := V.int .i64) (xs := b1) rfl rfl tyS_3 rfl rfl rfl h6 (by decide)) ?_
   refine TD.rs rfl rfl (o_ldA (f := V.int .i64) (xs := b1) (a := e5) rfl tyS_3 rfl rfl h6) ?_
   refine TD.qs rfl rfl (fun _ => o_move rfl rfl) ?_
   obtain ⟨e7, h8, H⟩ := bind_s H
   refine TD.rs rfl rfl (o_ixA (f := V.int .i64) (xs := s1) rfl rfl tyS_3 rfl rfl rfl h8 (by decide)) ?_
   refine TD.rs rfl rfl (o_ldA (f := V.int .i64) (xs := s1) (a := e7) rfl tyS_3 rfl rfl h8) ?_
   refine ad 2 ?_
   refine TD.qs rfl rfl (fun _ => o_conv rfl rfl ⟨_, rfl⟩ rfl) ?_
   refine ad 4 ?_
   refine TD.qs rfl rfl (fun _ => o_rem rfl rfl rfl (by decide)) ?_
   obtain ⟨e9, h10, H⟩ := bind_s H
   refine TD.rs rfl rfl (o_ixA (f := V.int .i64) (xs := b1) rfl rfl tyS_3 rfl rfl rfl h10 (by decide)) ?_
   refine TD.rs rfl rfl (o_ldA (f := V.int .i64) (xs := b1) (a := e9) rfl tyS_3 rfl rfl h10) ?_
   refine TD.qs rfl rfl (fun _ => o_ari rfl rfl rfl rfl) ?_
   refine TD.qs rfl rfl (fun _ => o_rem rfl rfl rfl (by decide)) ?_
   obtain ⟨e11, h12, H⟩ := bind_s H
   refine TD.rs rfl rfl (o_ixA (f := V.int .i64) (xs := b1) rfl rfl tyS_3 rfl rfl rfl h12 (by decide)) ?_
   refine TD.an rfl rfl (o_stA (f := V.int .i64) (xs := b1) (a := e11) (b := (Int.tmod (IntKind.i64.wrap ((IntKind.i64.wrap ((IntKind.i64.wrap ((IntKind.i64.wrap (e5 * e7)) + (IntKind.i64.wrap a0))) + 1)) + e9)) 2147483579)) rfl tyS_3 rfl rfl rfl h12 rfl rfl) ?_
   refine TD.nil ⟨rfl, ?_⟩
   refine au 4 ?_
   exact Pk.of (thn_normal ⟨((b1.set (Int.toNat v2) (Int.tmod (IntKind.i64.wrap ((IntKind.i64.wrap ((IntKind.i64.wrap ((IntKind.i64.wrap (e5 * e7)) + (IntKind.i64.wrap a0))) + 1)) + e9)) 2147483579)), (IntKind.i64.wrap (v2 + 1))), (some_i H).symm, rfl, rfl⟩)
  ·refine T.exit ?_
   refine thn_exit ?_
   exact Pk.of (thn_exit ⟨b1, (some_i H).symm, rfl, rfl, rfl⟩)
 ·rintro _ _ _ ⟨rfl, rfl, rfl⟩
  refine inB_here ?_
  cases some_i H
  exact ⟨trivial, _, .nil, ⟨rfl, _, rfl⟩⟩
theorem en_66 : En Tryd.prog 66 := .of Tryd.func66 rfl rfl
noncomputable def impl_ybytes (a0 : Int) : Option (List Int) :=
  some ([(IntKind.u8.wrap a0), (IntKind.u8.wrap (Int.fdiv a0 (2 ^ (min (Int.toNat 8) IntKind.i64.bits)))), (IntKind.u8.wrap (Int.fdiv a0 (2 ^ (min (Int.toNat 16) IntKind.i64.bits)))), (IntKind.u8.wrap (Int.fdiv a0 (2 ^ (min (Int.toNat 24) IntKind.i64.bits))))] : List Int)
theorem impl_ybytes_p  {a0 : Int} {R0 : (List Int)} (H : impl_ybytes a0 = some R0) : Pure Tryd.prog 67 [.int .i64 a0] (.im false (R0.map (c_int .u8))) := by
 refine CallT.of_TN (n := 15) Tryd.func67 rfl rfl rfl rfl ?_
 refine au 7 ?_
 refine TL.st rfl rfl rfl (o_conv rfl rfl ⟨_, rfl⟩ rfl) ?_
 refine TL.st rfl rfl rfl (o_move rfl rfl) ?_
 refine TL.st rfl rfl rfl (o_shr rfl rfl rfl (by decide)) ?_
 refine TL.st rfl rfl rfl (o_conv rfl rfl ⟨_, rfl⟩ rfl) ?_
 refine TL.st rfl rfl rfl (o_move rfl rfl) ?_
 refine TL.st rfl rfl rfl (o_shr rfl rfl rfl (by decide)) ?_
 refine TL.st rfl rfl rfl (o_conv rfl rfl ⟨_, rfl⟩ rfl) ?_
 refine TL.st rfl rfl rfl (o_move rfl rfl) ?_
 refine TL.st rfl rfl rfl (o_shr rfl rfl rfl (by decide)) ?_
 refine TL.st rfl rfl rfl (o_conv rfl rfl ⟨_, rfl⟩ rfl) ?_
 refine TL.st rfl rfl rfl (o_sliceIm (rows := ([(IntKind.u8.wrap a0), (IntKind.u8.wrap (Int.fdiv a0 (2 ^ (min (Int.toNat 8) IntKind.i64.bits)))), (IntKind.u8.wrap (Int.fdiv a0 (2 ^ (min (Int.toNat 16) IntKind.i64.bits)))), (IntKind.u8.wrap (Int.fdiv a0 (2 ^ (min (Int.toNat 24) IntKind.i64.bits))))] : List Int).map (c_int .u8)) rfl rfl tyS_5 ⟨_, rfl, rfl⟩ (by decide) rfl rfl rfl rfl rfl rfl) ?_
 refine au 3 ?_
 cases some_i H
 exact ⟨trivial, _, (.tmp _ _ _ _ rfl .nil), (.cl _ rfl)⟩
theorem en_67 : En Tryd.prog 67 := .of Tryd.func67 rfl rfl
noncomputable def impl_Digest_l4 (b11 : (List Int)) : (List Int × Int) → Option ((List Int × Int) ⊕ List Int) := fun s => match s with
  | (l14, v15) => cond (decide (v15 < 4)) ((ixA 4 b11 v15).bind fun e18 => (impl_ybytes e18).bind fun r20 => (app l14 r20).bind fun l22 => some (.inl (l22, (IntKind.i64.wrap (v15 + 1))))) (some (.inr l14))
noncomputable def impl_Digest_l3  : ((List Int) × Int) → Option (((List Int) × Int) ⊕ (List Int)) := fun s => match s with
  | (b9, v10) => cond (decide (v10 < 8)) ((impl_Digest_1 0 b9 ([1103515245, 69069, 1664525, 22695477] : List Int)).bind fun o27 => some (.inl (o27, (IntKind.i64.wrap (v10 + 1))))) (some (.inr b9))
noncomputable def impl_Digest_l2 (r4 : (List Int)) : ((List Int) × Int) → Option (((List Int) × Int) ⊕ (List Int)) := fun s => match s with
  | (b6, v7) => cond (decide (v7 < (r4.length : Int))) ((idx r4 v7).bind fun e32 => (impl_Digest_1 e32 b6 ([1103515245, 69069, 1664525, 22695477] : List Int)).bind fun o34 => some (.inl (o34, (IntKind.i64.wrap (v7 + 1))))) (some (.inr b6))
noncomputable def impl_Digest_l1 (a0 : (List Int)) : ((List Int) × Int) → Option (((List Int) × Int) ⊕ (List Int)) := fun s => match s with
  | (b1, v2) => cond (decide (v2 < (a0.length : Int))) ((idx a0 v2).bind fun e39 => (impl_Digest_1 e39 b1 ([1103515245, 69069, 1664525, 22695477] : List Int)).bind fun o41 => some (.inl (o41, (IntKind.i64.wrap (v2 + 1))))) (some (.inr b1))
noncomputable def impl_Digest (a0 : (List Int)) : Option (List Int) :=
  cond (decide ((a0.length : Int) > 20000)) (some ([] : List Int)) ((loopO (impl_Digest_l1 a0) (([11, 22, 33, 44] : List Int), 0)).bind fun b3 => (match b3 with | b3 => (impl_ybytes (a0.length : Int)).bind fun r4 => (loopO (impl_Digest_l2 r4) (b3, 0)).bind fun b8 => (match b8 with | b8 => (loopO (impl_Digest_l3) (b8, 0)).bind fun b11 => (match b11 with | b11 => (lenN 4 b11).bind fun u12 => (loopO (impl_Digest_l4 b11) (([] : List Int), 0)).bind fun l16 => (match l16 with | l16 => some l16)))))
theorem impl_Digest_p (b0 : Bool) {a0 : (List Int)} {R0 : (List Int)} (H : impl_Digest a0 = some R0) : Pure Tryd.prog 61 [.im b0 (a0.map (c_int .u8))] (.im false (R0.map (c_int .u8))) := by
 refine CallT.of_TN (n := 56) Tryd.func61 rfl rfl rfl rfl ?_
 refine au 8 ?_
 refine TL.st rfl rfl rfl (o_lenL (f := c_int .u8) rfl rfl rfl) ?_
 refine au 2 ?_
 refine T.cH H (fun H h => ?_) (fun H h => ?_)
 ·refine au 5 ?_
  refine thn_ret ?_
  cases some_i H
  exact ⟨trivial, _, (.tmp _ _ _ _ rfl .nil), .nil⟩
 ·refine au 14 ?_
  refine T.conv (Cs.eqS (σ' := [.box (([11, 22, 33, 44] : List Int).map (V.int .i64)), .box (([1103515245, 69069, 1664525, 22695477] : List Int).map (V.int .i64))]) rfl) ?_
  refine T.region ?_
  refine TL.st rfl rfl rfl (o_makeFunc rfl rfl rfl) ?_
  refine au 6 ?_
  refine TL.st rfl rfl rfl (o_lenL (f := c_int .u8) rfl rfl rfl) ?_
  refine au 3 ?_
  obtain ⟨b3, h44, H⟩ := bind_s H
  refine T.lq (fun s => match s with | (b1, v2) => [(0, .im b0 (a0.map (c_int .u8))), (3, .bx 0 0), (5, .fn 66 [] [.bx 0 0, .bx 1 0]), (19, .im b0 (a0.map (c_int .u8))), (20, .int .i64 (a0.length : Int)), (21, .int .i64 v2)]) (fun s => match s with | (b1, v2) => [.box (b1.map (V.int .i64)), .box (([1103515245, 69069, 1664525, 22695477] : List Int).map (V.int .i64))]) (fun q ex fr σ => match q with | b3 => ex = .exit 0 ∧ fr = [(0, .im b0 (a0.map (c_int .u8))), (3, .bx 0 0), (5, .fn 66 [] [.bx 0 0, .bx 1 0])] ∧ σ = [.box (b3.map (V.int .i64)), .box (([1103515245, 69069, 1664525, 22695477] : List Int).map (V.int .i64))]) h44 ?_ ?_
  ·rintro ⟨b1, v2⟩ y38 H
   refine au 5 ?_
   refine T.cH H (fun H h => ?_) (fun H h => ?_)
   ·refine au 5 ?_
    obtain ⟨e39, h40, H⟩ := bind_s H
    refine TL.st rfl rfl rfl (o_ix (f := c_int .u8) rfl rfl tyS_5 rfl rfl h40 rfl) ?_
    refine au 6 ?_
    obtain ⟨o41, h42, H⟩ := bind_s H
    refine TL.st rfl rfl rfl (o_callM [0, 1] rfl en_66 rfl rfl (impl_Digest_1_p  h42) rfl (by decide) (.cons _ _ _ _ (ren_at rfl (ren_bxO fun _ => rfl)) (.cons _ _ _ _ (ren_at rfl (ren_bxO fun _ => rfl)) .nil)) rfl rfl (.cons _ _ _ _ (ren_bxO fun _ => rfl) (.cons _ _ _ _ (ren_bxO fun _ => rfl) .nil)) rfl) ?_
    refine au 5 ?_
    exact Pk.of (thn_normal ⟨(o41, (IntKind.i64.wrap (v2 + 1))), (some_i H).symm, rfl, rfl⟩)
   ·refine T.exit ?_
    refine thn_exit ?_
    exact Pk.of (thn_exit ⟨b1, (some_i H).symm, rfl, rfl, rfl⟩)
  ·rintro _ _ _ ⟨rfl, rfl, rfl⟩
   refine inB_here ?_
   refine au 4 ?_
   refine TL.st rfl rfl rfl (o_lenL (f := c_int .u8) rfl rfl rfl) ?_
   obtain ⟨r4, h5, H⟩ := bind_s H
   refine TL.st rfl rfl rfl (o_callP rfl en_67 rfl rfl (.cons _ _ _ _ (.cl _ rfl) .nil) (impl_ybytes_p  h5)) ?_
   refine TL.st rfl rfl rfl (o_lenL (f := c_int .u8) rfl rfl rfl) ?_
   refine au 3 ?_
   obtain ⟨b8, h37, H⟩ := bind_s H
   refine T.lq (fun s => match s with | (b6, v7) => [(3, .bx 0 0), (5, .fn 66 [] [.bx 0 0, .bx 1 0]), (31, .im false (r4.map (c_int .u8))), (32, .int .i64 (r4.length : Int)), (33, .int .i64 v7)]) (fun s => match s with | (b6, v7) => [.box (b6.map (V.int .i64)), .box (([1103515245, 69069, 1664525, 22695477] : List Int).map (V.int .i64))]) (fun q ex fr σ => match q with | b8 => ex = .exit 2 ∧ fr = [(3, .bx 0 0), (5, .fn 66 [] [.bx 0 0, .bx 1 0])] ∧ σ = [.box (b8.map (V.int .i64)), .box (([1103515245, 69069, 1664525, 22695477] : List Int).map (V.int .i64))]) h37 ?_ ?_
   ·rintro ⟨b6, v7⟩ y31 H
    refine au 5 ?_
    refine T.cH H (fun H h => ?_) (fun H h => ?_)
    ·refine au 5 ?_
     obtain ⟨e32, h33, H⟩ := bind_s H
     refine TL.st rfl rfl rfl (o_ix (f := c_int .u8) rfl rfl tyS_5 rfl rfl h33 rfl) ?_
     refine au 6 ?_
     obtain ⟨o34, h35, H⟩ := bind_s H
     refine TL.st rfl rfl rfl (o_callM [0, 1] rfl en_66 rfl rfl (impl_Digest_1_p  h35) rfl (by decide) (.cons _ _ _ _ (ren_at rfl (ren_bxO fun _ => rfl)) (.cons _ _ _ _ (ren_at rfl (ren_bxO fun _ => rfl)) .nil)) rfl rfl (.cons _ _ _ _ (ren_bxO fun _ => rfl) (.cons _ _ _ _ (ren_bxO fun _ => rfl) .nil)) rfl) ?_
     refine au 5 ?_
     exact Pk.of (thn_normal ⟨(o34, (IntKind.i64.wrap (v7 + 1))), (some_i H).symm, rfl, rfl⟩)
    ·refine T.exit ?_
     refine thn_exit ?_
     exact Pk.of (thn_exit ⟨b6, (some_i H).symm, rfl, rfl, rfl⟩)
   ·rintro _ _ _ ⟨rfl, rfl, rfl⟩
    refine inB_here ?_
    refine au 6 ?_
    obtain ⟨b11, h30, H⟩ := bind_s H
    refine T.lq (fun s => match s with | (b9, v10) => [(3, .bx 0 0), (5, .fn 66 [] [.bx 0 0, .bx 1 0]), (41, .int .i64 v10)]) (fun s => match s with | (b9, v10) => [.box (b9.map (V.int .i64)), .box (([1103515245, 69069, 1664525, 22695477] : List Int).map (V.int .i64))]) (fun q ex fr σ => match q with | b11 => ex = .exit 4 ∧ fr = [(3, .bx 0 0)] ∧ σ = [.box (b11.map (V.int .i64)), .box (([1103515245, 69069, 1664525, 22695477] : List Int).map (V.int .i64))]) h30 ?_ ?_
    ·rintro ⟨b9, v10⟩ y26 H
     refine au 5 ?_
     refine T.cH H (fun H h => ?_) (fun H h => ?_)
     ·refine au 5 ?_
      obtain ⟨o27, h28, H⟩ := bind_s H
      refine TL.st rfl rfl rfl (o_callM [0, 1] rfl en_66 rfl rfl (impl_Digest_1_p  h28) rfl (by decide) (.cons _ _ _ _ (ren_at rfl (ren_bxO fun _ => rfl)) (.cons _ _ _ _ (ren_at rfl (ren_bxO fun _ => rfl)) .nil)) rfl rfl (.cons _ _ _ _ (ren_bxO fun _ => rfl) (.cons _ _ _ _ (ren_bxO fun _ => rfl) .nil)) rfl) ?_
      refine au 5 ?_
      exact Pk.of (thn_normal ⟨(o27, (IntKind.i64.wrap (v10 + 1))), (some_i H).symm, rfl, rfl⟩)
     ·refine T.exit ?_
      refine thn_exit ?_
      exact Pk.of (thn_exit ⟨b9, (some_i H).symm, rfl, rfl, rfl⟩)
    ·rintro _ _ _ ⟨rfl, rfl, rfl⟩
     refine inB_here ?_
     refine au 7 ?_
     obtain ⟨u12, h13, H⟩ := bind_s H
     refine TL.st rfl rfl rfl (o_loadA (f := V.int .i64) (xs := b11) rfl tyS_100 rfl rfl h13) ?_
     refine au 3 ?_
     refine T.conv (Cs.own (t := 10) 1 rfl (by decide)) ?_
     obtain ⟨l16, h25, H⟩ := bind_s H
     refine T.lq (fun s => match s with | (l14, v15) => [(10, .hd 2 (l14.map (c_int .u8)).length 0 (l14.map (c_int .u8)).length), (46, .agg (b11.map (V.int .i64))), (47, .int .i64 v15)]) (fun s => match s with | (l14, v15) => [.box (b11.map (V.int .i64)), .box (([1103515245, 69069, 1664525, 22695477] : List Int).map (V.int .i64)), .arr .clo 1 (l14.map (c_int .u8))]) (fun q ex fr σ => match q with | l16 => ex = .exit 6 ∧ fr = [(10, .hd 2 (l16.map (c_int .u8)).length 0 (l16.map (c_int .u8)).length)] ∧ σ = [.box (b11.map (V.int .i64)), .box (([1103515245, 69069, 1664525, 22695477] : List Int).map (V.int .i64)), .arr .clo 1 (l16.map (c_int .u8))]) h25 ?_ ?_
     ·rintro ⟨l14, v15⟩ y17 H
      refine au 5 ?_
      refine T.cH H (fun H h => ?_) (fun H h => ?_)
      ·refine au 5 ?_
       obtain ⟨e18, h19, H⟩ := bind_s H
       refine TL.st rfl rfl rfl (o_ixV (f := V.int .i64) (xs := b11) rfl rfl tyS_3 rfl rfl h19) ?_
       refine au 5 ?_
       obtain ⟨r20, h21, H⟩ := bind_s H
       refine TL.st rfl rfl rfl (o_callP rfl en_67 rfl rfl (.cons _ _ _ _ (.cl _ rfl) .nil) (impl_ybytes_p  h21)) ?_
       obtain ⟨l22, h23, H⟩ := bind_s H
       refine TL.st rfl rfl rfl (o_ap (f := c_int .u8) (xs := l14) (ys := r20) rfl rfl tyE_5 rfl rfl rfl rfl (by decide) rfl (fun _ => rfl) h23) ?_
       refine au 6 ?_
       exact Pk.of (thn_normal ⟨(l22, (IntKind.i64.wrap (v15 + 1))), (some_i H).symm, rfl, rfl⟩)
      ·refine T.exit ?_
       refine thn_exit ?_
       exact Pk.of (thn_exit ⟨l14, (some_i H).symm, rfl, rfl, rfl⟩)
     ·rintro _ _ _ ⟨rfl, rfl, rfl⟩
      refine inB_here ?_
      refine au 6 ?_
      cases some_i H
      exact ⟨trivial, _, (.tmp _ _ _ _ rfl .nil), (.own rfl (by decide) rfl)⟩
theorem en_61 : En Tryd.prog 61 := .of Tryd.func61 rfl rfl
theorem impl_Digest_o (b0 : Bool) {a0 : (List Int)} {R0 : (List Int)} (H : impl_Digest a0 = some R0) : OwnC Tryd.prog 61 [.im b0 (a0.map (c_int .u8))] 1 (R0.map (c_int .u8)) := by
 refine CallT.of_TN (n := 56) Tryd.func61 rfl rfl rfl rfl ?_
 refine au 8 ?_
 refine TL.st rfl rfl rfl (o_lenL (f := c_int .u8) rfl rfl rfl) ?_
 refine au 2 ?_
 refine T.cH H (fun H h => ?_) (fun H h => ?_)
 ·refine au 4 ?_
  refine T.conv (Cs.own (t := 2) 1 rfl (by decide)) ?_
  refine T.ret ?_
  refine thn_ret ?_
  cases some_i H
  exact ⟨trivial, _, (.tmp _ _ _ _ rfl .nil), ⟨rfl, _, rfl⟩⟩
 ·refine au 14 ?_
  refine T.conv (Cs.eqS (σ' := [.box (([11, 22, 33, 44] : List Int).map (V.int .i64)), .box (([1103515245, 69069, 1664525, 22695477] : List Int).map (V.int .i64))]) rfl) ?_
  refine T.region ?_
  refine TL.st rfl rfl rfl (o_makeFunc rfl rfl rfl) ?_
  refine au 6 ?_
  refine TL.st rfl rfl rfl (o_lenL (f := c_int .u8) rfl rfl rfl) ?_
  refine au 3 ?_
  obtain ⟨b3, h44, H⟩ := bind_s H
  refine T.lq (fun s => match s with | (b1, v2) => [(0, .im b0 (a0.map (c_int .u8))), (3, .bx 0 0), (5, .fn 66 [] [.bx 0 0, .bx 1 0]), (19, .im b0 (a0.map (c_int .u8))), (20, .int .i64 (a0.length : Int)), (21, .int .i64 v2)]) (fun s => match s with | (b1, v2) => [.box (b1.map (V.int .i64)), .box (([1103515245, 69069, 1664525, 22695477] : List Int).map (V.int .i64))]) (fun q ex fr σ => match q with | b3 => ex = .exit 0 ∧ fr = [(0, .im b0 (a0.map (c_int .u8))), (3, .bx 0 0), (5, .fn 66 [] [.bx 0 0, .bx 1 0])] ∧ σ = [.box (b3.map (V.int .i64)), .box (([1103515245, 69069, 1664525, 22695477] : List Int).map (V.int .i64))]) h44 ?_ ?_
  ·rintro ⟨b1, v2⟩ y38 H
   refine au 5 ?_
   refine T.cH H (fun H h => ?_) (fun H h => ?_)
   ·refine au 5 ?_
    obtain ⟨e39, h40, H⟩ := bind_s H
    refine TL.st rfl rfl rfl (o_ix (f := c_int .u8) rfl rfl tyS_5 rfl rfl h40 rfl) ?_
    refine au 6 ?_
    obtain ⟨o41, h42, H⟩ := bind_s H
    refine TL.st rfl rfl rfl (o_callM [0, 1] rfl en_66 rfl rfl (impl_Digest_1_p  h42) rfl (by decide) (.cons _ _ _ _ (ren_at rfl (ren_bxO fun _ => rfl)) (.cons _ _ _ _ (ren_at rfl (ren_bxO fun _ => rfl)) .nil)) rfl rfl (.cons _ _ _ _ (ren_bxO fun _ => rfl) (.cons _ _ _ _ (ren_bxO fun _ => rfl) .nil)) rfl) ?_
    refine au 5 ?_
    exact Pk.of (thn_normal ⟨(o41, (IntKind.i64.wrap (v2 + 1))), (some_i H).symm, rfl, rfl⟩)
   ·refine T.exit ?_
    refine thn_exit ?_
    exact Pk.of (thn_exit ⟨b1, (some_i H).symm, rfl, rfl, rfl⟩)
  ·rintro _ _ _ ⟨rfl, rfl, rfl⟩
   refine inB_here ?_
   refine au 4 ?_
   refine TL.st rfl rfl rfl (o_lenL (f := c_int .u8) rfl rfl rfl) ?_
   obtain ⟨r4, h5, H⟩ := bind_s H
   refine TL.st rfl rfl rfl (o_callP rfl en_67 rfl rfl (.cons _ _ _ _ (.cl _ rfl) .nil) (impl_ybytes_p  h5)) ?_
   refine TL.st rfl rfl rfl (o_lenL (f := c_int .u8) rfl rfl rfl) ?_
   refine au 3 ?_
   obtain ⟨b8, h37, H⟩ := bind_s H
   refine T.lq (fun s => match s with | (b6, v7) => [(3, .bx 0 0), (5, .fn 66 [] [.bx 0 0, .bx 1 0]), (31, .im false (r4.map (c_int .u8))), (32, .int .i64 (r4.length : Int)), (33, .int .i64 v7)]) (fun s => match s with | (b6, v7) => [.box (b6.map (V.int .i64)), .box (([1103515245, 69069, 1664525, 22695477] : List Int).map (V.int .i64))]) (fun q ex fr σ => match q with | b8 => ex = .exit 2 ∧ fr = [(3, .bx 0 0), (5, .fn 66 [] [.bx 0 0, .bx 1 0])] ∧ σ = [.box (b8.map (V.int .i64)), .box (([1103515245, 69069, 1664525, 22695477] : List Int).map (V.int .i64))]) h37 ?_ ?_
   ·rintro ⟨b6, v7⟩ y31 H
    refine au 5 ?_
    refine T.cH H (fun H h => ?_) (fun H h => ?_)
    ·refine au 5 ?_
     obtain ⟨e32, h33, H⟩ := bind_s H
     refine TL.st rfl rfl rfl (o_ix (f := c_int .u8) rfl rfl tyS_5 rfl rfl h33 rfl) ?_
     refine au 6 ?_
     obtain ⟨o34, h35, H⟩ := bind_s H
     refine TL.st rfl rfl rfl (o_callM [0, 1] rfl en_66 rfl rfl (impl_Digest_1_p  h35) rfl (by decide) (.cons _ _ _ _ (ren_at rfl (ren_bxO fun _ => rfl)) (.cons _ _ _ _ (ren_at rfl (ren_bxO fun _ => rfl)) .nil)) rfl rfl (.cons _ _ _ _ (ren_bxO fun _ => rfl) (.cons _ _ _ _ (ren_bxO fun _ => rfl) .nil)) rfl) ?_
     refine au 5 ?_
     exact Pk.of (thn_normal ⟨(o34, (IntKind.i64.wrap (v7 + 1))), (some_i H).symm, rfl, rfl⟩)
    ·refine T.exit ?_
     refine thn_exit ?_
     exact Pk.of (thn_exit ⟨b6, (some_i H).symm, rfl, rfl, rfl⟩)
   ·rintro _ _ _ ⟨rfl, rfl, rfl⟩
    refine inB_here ?_
    refine au 6 ?_
    obtain ⟨b11, h30, H⟩ := bind_s H
    refine T.lq (fun s => match s with | (b9, v10) => [(3, .bx 0 0), (5, .fn 66 [] [.bx 0 0, .bx 1 0]), (41, .int .i64 v10)]) (fun s => match s with | (b9, v10) => [.box (b9.map (V.int .i64)), .box (([1103515245, 69069, 1664525, 22695477] : List Int).map (V.int .i64))]) (fun q ex fr σ => match q with | b11 => ex = .exit 4 ∧ fr = [(3, .bx 0 0)] ∧ σ = [.box (b11.map (V.int .i64)), .box (([1103515245, 69069, 1664525, 22695477] : List Int).map (V.int .i64))]) h30 ?_ ?_
    ·rintro ⟨b9, v10⟩ y26 H
     refine au 5 ?_
     refine T.cH H (fun H h => ?_) (fun H h => ?_)
     ·refine au 5 ?_
      obtain ⟨o27, h28, H⟩ := bind_s H
      refine TL.st rfl rfl rfl (o_callM [0, 1] rfl en_66 rfl rfl (impl_Digest_1_p  h28) rfl (by decide) (.cons _ _ _ _ (ren_at rfl (ren_bxO fun _ => rfl)) (.cons _ _ _ _ (ren_at rfl (ren_bxO fun _ => rfl)) .nil)) rfl rfl (.cons _ _ _ _ (ren_bxO fun _ => rfl) (.cons _ _ _ _ (ren_bxO fun _ => rfl) .nil)) rfl) ?_
      refine au 5 ?_
      exact Pk.of (thn_normal ⟨(o27, (IntKind.i64.wrap (v10 + 1))), (some_i H).symm, rfl, rfl⟩)
     ·refine T.exit ?_
      refine thn_exit ?_
      exact Pk.of (thn_exit ⟨b9, (some_i H).symm, rfl, rfl, rfl⟩)
    ·rintro _ _ _ ⟨rfl, rfl, rfl⟩
     refine inB_here ?_
     refine au 7 ?_
     obtain ⟨u12, h13, H⟩ := bind_s H
     refine TL.st rfl rfl rfl (o_loadA (f := V.int .i64) (xs := b11) rfl tyS_100 rfl rfl h13) ?_
     refine au 3 ?_
     refine T.conv (Cs.own (t := 10) 1 rfl (by decide)) ?_
     obtain ⟨l16, h25, H⟩ := bind_s H
     refine T.lq (fun s => match s with | (l14, v15) => [(10, .hd 2 (l14.map (c_int .u8)).length 0 (l14.map (c_int .u8)).length), (46, .agg (b11.map (V.int .i64))), (47, .int .i64 v15)]) (fun s => match s with | (l14, v15) => [.box (b11.map (V.int .i64)), .box (([1103515245, 69069, 1664525, 22695477] : List Int).map (V.int .i64)), .arr .clo 1 (l14.map (c_int .u8))]) (fun q ex fr σ => match q with | l16 => ex = .exit 6 ∧ fr = [(10, .hd 2 (l16.map (c_int .u8)).length 0 (l16.map (c_int .u8)).length)] ∧ σ = [.box (b11.map (V.int .i64)), .box (([1103515245, 69069, 1664525, 22695477] : List Int).map (V.int .i64)), .arr .clo 1 (l16.map (c_int .u8))]) h25 ?_ ?_
     ·rintro ⟨l14, v15⟩ y17 H
      refine au 5 ?_
      refine T.cH H (fun H h => ?_) (fun H h => ?_)
      ·refine au 5 ?_
       obtain ⟨e18, h19, H⟩ := bind_s H
       refine TL.st rfl rfl rfl (o_ixV (f := V.int .i64) (xs := b11) rfl rfl tyS_3 rfl rfl h19) ?_
       refine au 5 ?_
       obtain ⟨r20, h21, H⟩ := bind_s H
       refine TL.st rfl rfl rfl (o_callP rfl en_67 rfl rfl (.cons _ _ _ _ (.cl _ rfl) .nil) (impl_ybytes_p  h21)) ?_
       obtain ⟨l22, h23, H⟩ := bind_s H
       refine TL.st rfl rfl rfl (o_ap (f := c_int .u8) (xs := l14) (ys := r20) rfl rfl tyE_5 rfl rfl rfl rfl (by decide) rfl (fun _ => rfl) h23) ?_
       refine au 6 ?_
       exact Pk.of (thn_normal ⟨(l22, (IntKind.i64.wrap (v15 + 1))), (some_i H).symm, rfl, rfl⟩)
      ·refine T.exit ?_
       refine thn_exit ?_
       exact Pk.of (thn_exit ⟨l14, (some_i H).symm, rfl, rfl, rfl⟩)
     ·rintro _ _ _ ⟨rfl, rfl, rfl⟩
      refine inB_here ?_
      refine au 5 ?_
      refine T.conv (Cs.wkF (M := 3) (.k 2 rfl rfl .nil)) ?_
      refine T.conv (Cs.reloc 0 2 rfl rfl (by decide) rfl rfl rfl (nomS_get rfl)) ?_
      refine T.ret ?_
      cases some_i H
      exact ⟨trivial, _, (.tmp _ _ _ _ rfl .nil), ⟨rfl, _, rfl⟩⟩
noncomputable def impl_Mac (a0 : (List Int)) (a1 : (List Int)) : Option (List Int) :=
  cond (decide ((a0.length : Int) > 20000) || decide ((a1.length : Int) > 20000)) (some ([] : List Int)) ((impl_Digest a0).bind fun r1 => (impl_Digest a1).bind fun r3 => (app r1 r3).bind fun l5 => (impl_Digest l5).bind fun r7 => some r7)
theorem impl_Mac_p (b0 : Bool) (b1 : Bool) {a0 : (List Int)} {a1 : (List Int)} {R0 : (List Int)} (H : impl_Mac a0 a1 = some R0) : Pure Tryd.prog 53 [.im b0 (a0.map (c_int .u8)), .im b1 (a1.map (c_int .u8))] (.im false (R0.map (c_int .u8))) := by
 refine CallT.of_TN (n := 19) Tryd.func53 rfl rfl rfl rfl ?_
 refine au 8 ?_
 refine TL.st rfl rfl rfl (o_lenL (f := c_int .u8) rfl rfl rfl) ?_
 refine au 3 ?_
 refine TL.gcq rfl rfl rfl (.bool _) rfl rfl (fun h => o_lenL (f := c_int .u8) rfl rfl (gv h rfl)) ?_
 refine au 3 ?_
 refine T.cH H (fun H h => ?_) (fun H h => ?_)
 ·refine au 5 ?_
  refine thn_ret ?_
  cases some_i H
  exact ⟨trivial, _, (.tmp _ _ _ _ rfl .nil), .nil⟩
 ·refine au 4 ?_
  obtain ⟨r1, h2, H⟩ := bind_s H
  refine TL.st rfl rfl rfl (o_callOwn rfl en_61 rfl rfl (.cons _ _ _ _ (.imv _ _) .nil) (impl_Digest_o b0 h2)) ?_
  refine TL.st rfl rfl rfl (o_move rfl rfl) ?_
  obtain ⟨r3, h4, H⟩ := bind_s H
  refine TL.st rfl rfl rfl (o_callP rfl en_61 rfl rfl (.cons _ _ _ _ (.imv _ _) .nil) (impl_Digest_p b1 h4)) ?_
  obtain ⟨l5, h6, H⟩ := bind_s H
  refine TL.st rfl rfl rfl (o_ap (f := c_int .u8) (xs := r1) (ys := r3) rfl rfl tyE_5 rfl rfl rfl rfl (by decide) rfl (fun _ => rfl) h6) ?_
  obtain ⟨r7, h8, H⟩ := bind_s H
  refine TL.st rfl rfl rfl (o_callP rfl en_61 rfl rfl (.cons _ _ _ _ (.own rfl (by decide) rfl) .nil) (impl_Digest_p true h8)) ?_
  refine au 3 ?_
  cases some_i H
  exact ⟨trivial, _, (.tmp _ _ _ _ rfl .nil), (.cl _ rfl)⟩
theorem en_53 : En Tryd.prog 53 := .of Tryd.func53 rfl rfl
theorem en_65 : En Tryd.prog 65 := .of Tryd.func65 rfl rfl
noncomputable def strings_Builder_WriteByte (a0 : Int) (s0 : T_strings_Builder) : Option (Unit × T_strings_Builder) :=
  (ccO (⟨(), s0.buf_⟩ : T_strings_Builder).buf_).bind fun u1 => (app s0.buf_ ([a0] : List Int)).bind fun l3 => some ((), (⟨(), l3⟩ : T_strings_Builder))
theorem strings_Builder_WriteByte_p  {a0 : Int} {s0 : T_strings_Builder} {R0 : Unit} {U0 : T_strings_Builder} (H : strings_Builder_WriteByte a0 s0 = some (R0, U0)) : St Tryd.prog 59 [.bx 0 0, .int .u8 a0] [.box [.px 0 93 1 0, .hd 1 (s0.buf_.map (c_int .u8)).length 0 (s0.buf_.map (c_int .u8)).length], .arr (.tg 5) 1 (s0.buf_.map (c_int .u8))] (.nilI) [.box [.px 0 93 1 0, .hd 2 (U0.buf_.map (c_int .u8)).length 0 (U0.buf_.map (c_int .u8)).length], .dead, .arr (.tg 5) 1 (U0.buf_.map (c_int .u8))] := by
 refine CallT.fin (CallT.of_TN (n := 17) Tryd.func59 rfl rfl rfl rfl ?_) rfl rfl ⟨(bels_iff.1 rfl), ⟨trivial, ⟨trivial, trivial⟩⟩⟩
 refine T.conv (Cs.fresh 1 rfl rfl (by decide) rfl (nomS_all rfl rfl)) ?_
 refine T.conv (Cs.wkF (M := 3) (.k 0 rfl rfl (.k 1 rfl rfl .nil))) ?_
 refine T.conv (Cs.eqS (σ' := [.box [.px 0 93 1 0, .hd 2 (s0.buf_.map (c_int .u8)).length 0 (s0.buf_.map (c_int .u8)).length], .dead, .arr (.tg 5) 1 (s0.buf_.map (c_int .u8))]) rfl) ?_
 refine au 7 ?_
 obtain ⟨u1, h2, H⟩ := bind_s H
 refine TL.st rfl rfl rfl (o_callS [0, 2] rfl en_65 rfl rfl (SL.lib_65  h2) rfl (by decide) (.cons _ _ _ _ rfl (.cons _ _ _ _ rfl .nil)) rfl rfl rfl) ?_
 refine au 9 ?_
 refine TL.st rfl rfl rfl (o_sliceIm (rows := ([a0] : List Int).map (c_int .u8)) rfl rfl tyS_5 ⟨_, rfl, rfl⟩ (by decide) rfl rfl rfl rfl rfl rfl) ?_
 obtain ⟨l3, h4, H⟩ := bind_s H
 refine TL.st rfl rfl rfl (o_ap (f := c_int .u8) (xs := s0.buf_) (ys := ([a0] : List Int)) rfl rfl tyE_5 rfl rfl rfl rfl (by decide) rfl (fun _ => rfl) h4) ?_
 refine au 2 ?_
 refine TL.sn rfl rfl (o_storeBx rfl tyS_22 rfl rfl rfl rfl (nb rfl) (sure_hd rfl rfl rfl)) ?_
 refine au 2 ?_
 refine T.conv (Cs.eqS (σ' := [.box [.px 0 93 1 0, .hd 2 (l3.map (c_int .u8)).length 0 (l3.map (c_int .u8)).length], _, .arr (.tg 5) 1 (l3.map (c_int .u8))]) rfl) ?_
 refine au 4 ?_
 cases some_i H
 exact ⟨trivial, _, (.tmp _ _ _ _ rfl .nil), ⟨rfl, _, rfl⟩⟩
theorem en_59 : En Tryd.prog 59 := .of Tryd.func59 rfl rfl
noncomputable def strings_Builder_String (s0 : T_strings_Builder) : Option ByteArray :=
  some (byS s0.buf_)
theorem strings_Builder_String_p  {s0 : T_strings_Builder} {R0 : ByteArray} (H : strings_Builder_String s0 = some R0) : St Tryd.prog 60 [.bx 0 0] [.box [.px 0 93 1 0, .hd 1 (s0.buf_.map (c_int .u8)).length 0 (s0.buf_.map (c_int .u8)).length], .arr (.tg 5) 1 (s0.buf_.map (c_int .u8))] (.str R0) [.box [.px 0 93 1 0, .hd 2 (s0.buf_.map (c_int .u8)).length 0 (s0.buf_.map (c_int .u8)).length], .dead, .dead] := by
 refine CallT.fin (CallT.of_TN (n := 14) Tryd.func60 rfl rfl rfl rfl ?_) rfl rfl ⟨(bels_iff.1 rfl), ⟨trivial, ⟨trivial, trivial⟩⟩⟩
 refine T.conv (Cs.fresh 1 rfl rfl (by decide) rfl (nomS_all rfl rfl)) ?_
 refine T.conv (Cs.wkF (M := 3) (.k 0 rfl rfl .nil)) ?_
 refine T.conv (Cs.eqS (σ' := [.box [.px 0 93 1 0, .hd 2 (s0.buf_.map (c_int .u8)).length 0 (s0.buf_.map (c_int .u8)).length], .dead, .arr (.tg 5) 1 (s0.buf_.map (c_int .u8))]) rfl) ?_
 refine au 5 ?_
 refine T.drawn rfl ?_
 refine ad 4 ?_
 refine TD.rs rfl rfl (o_sliceData rfl rfl rfl rfl rfl) ?_
 refine ad 4 ?_
 refine TD.rs rfl rfl (o_lenOwn (f := c_int .u8) rfl rfl rfl rfl rfl) ?_
 refine TD.as rfl rfl (o_unsafeString (f := c_int .u8) (ns := s0.buf_) rfl rfl rfl (fun _ => rfl) rfl rfl rfl) ?_
 refine TD.qs rfl rfl (fun _ => o_assign rfl rfl) ?_
 refine TD.nil ⟨rfl, ?_⟩
 refine T.ret ?_
 cases some_i H
 exact ⟨trivial, _, (.tmp _ _ _ _ rfl .nil), ⟨rfl, _, rfl⟩⟩
theorem en_60 : En Tryd.prog 60 := .of Tryd.func60 rfl rfl
noncomputable def impl_Armor_l2 (v2 : Int) (e20 : Int) : (T_strings_Builder × Int) → Option ((T_strings_Builder × Int) ⊕ (T_strings_Builder × Int)) := fun s => match s with
  | (b22, v23) => cond (decide (v23 ≥ 5)) ((nn (IntKind.i64.wrap (v23 - 5))).bind fun u29 => (idxS (ByteArray.mk #[48, 49, 50, 51, 52, 53, 54, 55, 56, 57, 97, 98, 99, 100, 101, 102, 103, 104, 105, 106, 107, 108, 109, 110, 111, 112, 113, 114, 115, 116, 117, 118]) (IntKind.i64.wrap (BitVec.ofInt IntKind.i64.bits (Int.fdiv (IntKind.i64.wrap (BitVec.ofInt IntKind.i64.bits (IntKind.i64.wrap (v2 * 2 ^ (min (Int.toNat 8) IntKind.i64.bits))) ||| BitVec.ofInt IntKind.i64.bits (IntKind.i64.wrap e20)).toNat) (2 ^ (min (Int.toNat (IntKind.i64.wrap (v23 - 5))) IntKind.i64.bits))) &&& BitVec.ofInt IntKind.i64.bits 31).toNat)).bind fun b31 => (strings_Builder_WriteByte b31 (⟨(), b22.buf_⟩ : T_strings_Builder)).bind fun q => (match q with | (r33, o34) => some (.inl ((⟨(), o34.buf_⟩ : T_strings_Builder), (IntKind.i64.wrap (v23 - 5)))))) (some (.inr ((⟨(), b22.buf_⟩ : T_strings_Builder), v23)))
noncomputable def impl_Armor_l1 (a0 : (List Int)) : (T_strings_Builder × Int × Int × Int) → Option ((T_strings_Builder × Int × Int × Int) ⊕ (T_strings_Builder × Int × Int)) := fun s => match s with
  | (b1, v2, v3, v4) => cond (decide (v4 < (a0.length : Int))) ((idx a0 v4).bind fun e20 => (loopO (impl_Armor_l2 v2 e20) ((⟨(), b1.buf_⟩ : T_strings_Builder), (IntKind.i64.wrap (v3 + 8)))).bind fun q36 => (match q36 with | (b24, v25) => (nn v25).bind fun u26 => some (.inl ((⟨(), b24.buf_⟩ : T_strings_Builder), (IntKind.i64.wrap (BitVec.ofInt IntKind.i64.bits (IntKind.i64.wrap (BitVec.ofInt IntKind.i64.bits (IntKind.i64.wrap (v2 * 2 ^ (min (Int.toNat 8) IntKind.i64.bits))) ||| BitVec.ofInt IntKind.i64.bits (IntKind.i64.wrap e20)).toNat) &&& BitVec.ofInt IntKind.i64.bits (IntKind.i64.wrap ((IntKind.i64.wrap (1 * 2 ^ (min (Int.toNat v25) IntKind.i64.bits))) - 1))).toNat), v25, (IntKind.i64.wrap (v4 + 1)))))) (some (.inr ((⟨(), b1.buf_⟩ : T_strings_Builder), v2, v3)))
noncomputable def impl_Armor (a0 : (List Int)) : Option ByteArray :=
  cond (decide ((a0.length : Int) > 20000)) (some e0) ((loopO (impl_Armor_l1 a0) ((⟨(), ([] : List Int)⟩ : T_strings_Builder), 0, 0, 0)).bind fun q38 => (match q38 with | (b5, v6, v7) => cond (decide (v7 > 0)) ((nn (IntKind.i64.wrap (5 - v7))).bind fun u8 => (idxS (ByteArray.mk #[48, 49, 50, 51, 52, 53, 54, 55, 56, 57, 97, 98, 99, 100, 101, 102, 103, 104, 105, 106, 107, 108, 109, 110, 111, 112, 113, 114, 115, 116, 117, 118]) (IntKind.i64.wrap (BitVec.ofInt IntKind.i64.bits (IntKind.i64.wrap (v6 * 2 ^ (min (Int.toNat (IntKind.i64.wrap (5 - v7))) IntKind.i64.bits))) &&& BitVec.ofInt IntKind.i64.bits 31).toNat)).bind fun b10 => (strings_Builder_WriteByte b10 (⟨(), b5.buf_⟩ : T_strings_Builder)).bind fun q => (match q with | (r12, o13) => (strings_Builder_String (⟨(), o13.buf_⟩ : T_strings_Builder)).bind fun r15 => some r15)) ((strings_Builder_String (⟨(), b5.buf_⟩ : T_strings_Builder)).bind fun r17 => some r17)))
end Go.G36.SE
