import Derived.Test.YtgfpdlebnbpcfabDoorProg
import Derived.Test.YtgfpdlebnbpcfabDoorSxLib
set_option linter.all false
set_option maxRecDepth 20000
set_option maxHeartbeats 4000000
namespace Go.G36.SX
open Go Go.Proofs Go.G36.SL

def c_int (k : IntKind) (x : Int) : List V := [.int k x]
def c_bool (x : Bool) : List V := [.bool x]
def c_str (x : ByteArray) : List V := [.str x]
def c_raw (x : List V) : List V := x
theorem map_raw (x : List (List V)) : x.map c_raw = x := by
  induction x with
  | nil => rfl
  | cons a l ih => simp [ih, c_raw]
def c_sl {α : Type} (f : α → List V) (x : List α) : List V := [.im false (x.map f)]

structure T_laws_SessConf where
  Key_ : (List Int)
  Idle_ : Int
  Most_ : Int
deriving Inhabited
def c_T_laws_SessConf (b : Bool) (x : T_laws_SessConf) : List V := [.im b (x.Key_.map (c_int .u8)), .int .i64 x.Idle_, .int .i64 x.Most_]
structure T_laws_SessEvent where
  Kind_ : Int
  Time_ : Int
  User_ : ByteArray
  Device_ : ByteArray
  Id_ : ByteArray
deriving Inhabited
def c_T_laws_SessEvent (b : Bool) (x : T_laws_SessEvent) : List V := [.int .i64 x.Kind_, .int .i64 x.Time_, .str x.User_, .str x.Device_, .str x.Id_]
structure T_impl_SessConf where
  Key_ : (List Int)
  Idle_ : Int
  Most_ : Int
deriving Inhabited
def c_T_impl_SessConf (b : Bool) (x : T_impl_SessConf) : List V := [.im b (x.Key_.map (c_int .u8)), .int .i64 x.Idle_, .int .i64 x.Most_]
structure T_impl_SessEvent where
  Kind_ : Int
  Time_ : Int
  User_ : ByteArray
  Device_ : ByteArray
  Id_ : ByteArray
deriving Inhabited
def c_T_impl_SessEvent (b : Bool) (x : T_impl_SessEvent) : List V := [.int .i64 x.Kind_, .int .i64 x.Time_, .str x.User_, .str x.Device_, .str x.Id_]
structure T_impl_SessReply where
  Err_ : Int
  Id_ : ByteArray
  User_ : ByteArray
  Level_ : Int
deriving Inhabited
def c_T_impl_SessReply (b : Bool) (x : T_impl_SessReply) : List V := [.int .i64 x.Err_, .str x.Id_, .str x.User_, .int .i64 x.Level_]
structure T_spec_l19X where
  ids_ : Int
  user_ : ByteArray
  device_ : ByteArray
  level_ : Int
  login_ : Int
  last_ : Int
  dead_ : Bool
deriving Inhabited
def c_T_spec_l19X (p : Nat) (b : Bool) (x : T_spec_l19X) : List V := [.px p 0 x.ids_ 0, .str x.user_, .str x.device_, .int .i64 x.level_, .int .i64 x.login_, .int .i64 x.last_, .bool x.dead_]
structure T_spec_l19S where
  c_ : T_impl_SessConf
  now_ : Int
  given_ : Int
  list_ : (List T_spec_l19X)
deriving Inhabited
def c_T_spec_l19S (p : Nat) (b : Bool) (x : T_spec_l19S) : List V := ((c_T_impl_SessConf b x.c_) ++ [.int .i64 x.now_, .int .i64 x.given_, .im b (x.list_.map (c_T_spec_l19X p false))])
structure T_impl_ysessions where
  c_ : T_impl_SessConf
  now_ : Int
  ids_ : Int
  list_ : (List Int)
  reply_ : (List T_impl_SessReply)
deriving Inhabited
def c_T_impl_ysessions (p : Nat) (b : Bool) (x : T_impl_ysessions) : List V := ((c_T_impl_SessConf b x.c_) ++ [.int .i64 x.now_, .int .i64 x.ids_, .im b (x.list_.map (c_px p)), .im b (x.reply_.map (c_T_impl_SessReply false))])
structure T_impl_ysession where
  ids_ : Int
  user_ : ByteArray
  device_ : ByteArray
  level_ : Int
  login_ : Int
  last_ : Int
  dead_ : Bool
deriving Inhabited
def c_T_impl_ysession (p : Nat) (b : Bool) (x : T_impl_ysession) : List V := [.px p 0 x.ids_ 0, .str x.user_, .str x.device_, .int .i64 x.level_, .int .i64 x.login_, .int .i64 x.last_, .bool x.dead_]
structure T_strings_Builder where
  addr_ : Unit
  buf_ : (List Int)
deriving Inhabited
def c_T_strings_Builder (b : Bool) (x : T_strings_Builder) : List V := [.nilP, .im b (x.buf_.map (c_int .u8))]

theorem tyS_24 : TyS Tryd.prog 24 true 3 := ⟨rfl, rfl⟩
theorem tyS_22 : TyS Tryd.prog 22 false 1 := ⟨rfl, rfl⟩
noncomputable def laws_szByteS (a0 : (List Int)) (a1 : Int) : Option Int :=
  cond (decide ((IntKind.i64.wrap (a1 - (a0.length : Int))) < 0)) (some (-1)) (some (IntKind.i64.wrap (a1 - (a0.length : Int))))
theorem laws_szByteS_p (b0 : Bool) {a0 : (List Int)} {a1 : Int} {R0 : Int} (H : laws_szByteS a0 a1 = some R0) : Pure Tryd.prog 17 [.im b0 (a0.map (c_int .u8)), .int .i64 a1] (.int .i64 R0) := by
 refine CallT.of_TN (n := 12) Tryd.func17 rfl rfl rfl rfl ?_
 refine au 8 ?_
 refine TL.st rfl rfl rfl (o_lenL (f := c_int .u8) rfl rfl rfl) ?_
 refine au 9 ?_
 refine T.cH H (fun H h => ?_) (fun H h => ?_)
 ·refine au 5 ?_
  refine thn_ret ?_
  cases some_i H
  exact ⟨trivial, _, (.tmp _ _ _ _ rfl .nil), (.cl _ rfl)⟩
 ·refine au 7 ?_
  cases some_i H
  exact ⟨trivial, _, (.tmp _ _ _ _ rfl .nil), (.cl _ rfl)⟩
theorem en_17 : En Tryd.prog 17 := .of Tryd.func17 rfl rfl
noncomputable def laws_szSessConf (a0 : T_laws_SessConf) (a1 : Int) : Option Int :=
  (laws_szByteS a0.Key_ a1).bind fun r1 => cond (decide (r1 < 0)) (some (-1)) (some r1)
theorem laws_szSessConf_p (b0 : Bool) {a0 : T_laws_SessConf} {a1 : Int} {R0 : Int} (H : laws_szSessConf a0 a1 = some R0) : Pure Tryd.prog 4 [.agg (c_T_laws_SessConf b0 a0), .int .i64 a1] (.int .i64 R0) := by
 refine CallT.of_TN (n := 12) Tryd.func4 rfl rfl rfl rfl ?_
 refine au 10 ?_
 obtain ⟨r1, h2, H⟩ := bind_s H
 refine TL.st rfl rfl rfl (o_callP rfl en_17 rfl rfl (.cons _ _ _ _ (.imv _ _) (.cons _ _ _ _ (.cl _ rfl) .nil)) (laws_szByteS_p b0 h2)) ?_
 refine au 8 ?_
 refine T.cH H (fun H h => ?_) (fun H h => ?_)
 ·refine au 5 ?_
  refine thn_ret ?_
  cases some_i H
  exact ⟨trivial, _, (.tmp _ _ _ _ rfl .nil), (.cl _ rfl)⟩
 ·refine au 7 ?_
  cases some_i H
  exact ⟨trivial, _, (.tmp _ _ _ _ rfl .nil), (.cl _ rfl)⟩
theorem en_4 : En Tryd.prog 4 := .of Tryd.func4 rfl rfl
theorem tyS_44 : TyS Tryd.prog 44 true 5 := ⟨rfl, rfl⟩
theorem tyS_9 : TyS Tryd.prog 9 false 1 := ⟨rfl, rfl⟩
noncomputable def laws_szSessEvent (a0 : T_laws_SessEvent) (a1 : Int) : Option Int :=
  cond (decide ((IntKind.i64.wrap (a1 - (a0.User_.size : Int))) < 0)) (some (-1)) (cond (decide ((IntKind.i64.wrap ((IntKind.i64.wrap (a1 - (a0.User_.size : Int))) - (a0.Device_.size : Int))) < 0)) (some (-1)) (cond (decide ((IntKind.i64.wrap ((IntKind.i64.wrap ((IntKind.i64.wrap (a1 - (a0.User_.size : Int))) - (a0.Device_.size : Int))) - (a0.Id_.size : Int))) < 0)) (some (-1)) (some (IntKind.i64.wrap ((IntKind.i64.wrap ((IntKind.i64.wrap (a1 - (a0.User_.size : Int))) - (a0.Device_.size : Int))) - (a0.Id_.size : Int))))))
theorem laws_szSessEvent_p  {a0 : T_laws_SessEvent} {a1 : Int} {R0 : Int} (H : laws_szSessEvent a0 a1 = some R0) : Pure Tryd.prog 18 [.agg (c_T_laws_SessEvent false a0), .int .i64 a1] (.int .i64 R0) := by
 refine CallT.of_TN (n := 27) Tryd.func18 rfl rfl rfl rfl ?_
 refine au 20 ?_
 refine T.cH H (fun H h => ?_) (fun H h => ?_)
 ·refine au 5 ?_
  refine thn_ret ?_
  cases some_i H
  exact ⟨trivial, _, (.tmp _ _ _ _ rfl .nil), (.cl _ rfl)⟩
 ·refine au 16 ?_
  refine T.cH H (fun H h => ?_) (fun H h => ?_)
  ·refine au 5 ?_
   refine thn_ret ?_
   cases some_i H
   exact ⟨trivial, _, (.tmp _ _ _ _ rfl .nil), (.cl _ rfl)⟩
  ·refine au 16 ?_
   refine T.cH H (fun H h => ?_) (fun H h => ?_)
   ·refine au 5 ?_
    refine thn_ret ?_
    cases some_i H
    exact ⟨trivial, _, (.tmp _ _ _ _ rfl .nil), (.cl _ rfl)⟩
   ·refine au 7 ?_
    cases some_i H
    exact ⟨trivial, _, (.tmp _ _ _ _ rfl .nil), (.cl _ rfl)⟩
theorem en_18 : En Tryd.prog 18 := .of Tryd.func18 rfl rfl
noncomputable def laws_szSessEventS_l1 (a0 : (List T_laws_SessEvent)) : (Int × Int) → Option ((Int × Int) ⊕ (Int ⊕ Int)) := fun s => match s with
  | (v1, v2) => cond (decide (v2 < (a0.length : Int))) ((idx a0 v2).bind fun e6 => (laws_szSessEvent e6 v1).bind fun r8 => cond (decide (r8 < 0)) (some (.inr (.inr (-1)))) (some (.inl (r8, (IntKind.i64.wrap (v2 + 1)))))) (some (.inr (.inl v1)))
noncomputable def laws_szSessEventS (a0 : (List T_laws_SessEvent)) (a1 : Int) : Option Int :=
  cond (decide ((IntKind.i64.wrap (a1 - (a0.length : Int))) < 0)) (some (-1)) ((loopO (laws_szSessEventS_l1 a0) ((IntKind.i64.wrap (a1 - (a0.length : Int))), 0)).bind fun q10 => (match q10 with | .inl v3 => some v3 | .inr q4 => some q4))
theorem laws_szSessEventS_p (b0 : Bool) {a0 : (List T_laws_SessEvent)} {a1 : Int} {R0 : Int} (H : laws_szSessEventS a0 a1 = some R0) : Pure Tryd.prog 5 [.im b0 (a0.map (c_T_laws_SessEvent false)), .int .i64 a1] (.int .i64 R0) := by
 refine CallT.of_TN (n := 27) Tryd.func5 rfl rfl rfl rfl ?_
 refine au 8 ?_
 refine TL.st rfl rfl rfl (o_lenL (f := c_T_laws_SessEvent false) rfl rfl rfl) ?_
 refine au 9 ?_
 refine T.cH H (fun H h => ?_) (fun H h => ?_)
 ·refine au 5 ?_
  refine thn_ret ?_
  cases some_i H
  exact ⟨trivial, _, (.tmp _ _ _ _ rfl .nil), (.cl _ rfl)⟩
 ·refine au 7 ?_
  obtain ⟨q10, h11, H⟩ := bind_s H
  refine T.lq (fun s => match s with | (v1, v2) => [(0, .im b0 (a0.map (c_T_laws_SessEvent false))), (1, .int .i64 v1), (5, .int .i64 v2)]) (fun s => match s with | (v1, v2) => []) (fun q ex fr σ => match q with | .inl v3 => ex = .exit 0 ∧ fr = [(1, .int .i64 v3)] ∧ σ = [] | .inr q4 => ex = .ret ∧ RetN Tryd.prog [.tmp 4] (fun v τ => Told τ v (.int .i64 q4)) .ret fr σ) h11 ?_ ?_
  ·rintro ⟨v1, v2⟩ y5 H
   refine au 5 ?_
   refine TL.st rfl rfl rfl (o_lenL (f := c_T_laws_SessEvent false) rfl rfl rfl) ?_
   refine au 2 ?_
   refine T.cH H (fun H h => ?_) (fun H h => ?_)
   ·refine au 7 ?_
    obtain ⟨e6, h7, H⟩ := bind_s H
    refine TL.st rfl rfl rfl (o_ix (f := c_T_laws_SessEvent false) rfl rfl tyS_44 rfl rfl h7 rfl) ?_
    refine au 2 ?_
    obtain ⟨r8, h9, H⟩ := bind_s H
    refine TL.st rfl rfl rfl (o_callP rfl en_18 rfl rfl (.cons _ _ _ _ (.cl _ rfl) (.cons _ _ _ _ (.cl _ rfl) .nil)) (laws_szSessEvent_p  h9)) ?_
    refine au 7 ?_
    refine T.cH H (fun H h => ?_) (fun H h => ?_)
    ·refine au 5 ?_
     refine inB_ret (thn_ret ?_)
     exact Pk.id (thn_ret ⟨.inr (-1), (some_i H).symm, rfl, ⟨trivial, _, (.tmp _ _ _ _ rfl .nil), (.cl _ rfl)⟩⟩)
    ·refine au 6 ?_
     exact Pk.of (thn_normal ⟨(r8, (IntKind.i64.wrap (v2 + 1))), (some_i H).symm, rfl, rfl⟩)
   ·refine T.exit ?_
    refine thn_exit ?_
    exact Pk.of (thn_exit ⟨.inl v1, (some_i H).symm, rfl, rfl, rfl⟩)
  ·rcases q10 with v3 | q4
   ·rintro _ _ _ ⟨rfl, rfl, rfl⟩
    refine inB_here ?_
    refine au 6 ?_
    cases some_i H
    exact ⟨trivial, _, (.tmp _ _ _ _ rfl .nil), (.cl _ rfl)⟩
   ·rintro _ fr1 σ1 ⟨rfl, hr⟩
    refine inB_ret (thn_ret ?_)
    cases some_i H
    exact hr
theorem en_5 : En Tryd.prog 5 := .of Tryd.func5 rfl rfl
theorem tyE_5 : TyE Tryd.prog 5 1 := ⟨_, _, rfl, rfl, rfl, rfl, by decide, by decide⟩
theorem tyS_5 : TyS Tryd.prog 5 false 1 := ⟨rfl, rfl⟩
noncomputable def laws_toByteS_l1 (a0 : (List Int)) : (List Int × Int) → Option ((List Int × Int) ⊕ List Int) := fun s => match s with
  | (l3, v4) => cond (decide (v4 < (a0.length : Int))) ((idx a0 v4).bind fun e7 => (idx l3 v4).bind fun e9 => some (.inl ((l3.set (Int.toNat v4) e7), (IntKind.i64.wrap (v4 + 1))))) (some (.inr l3))
noncomputable def laws_toByteS (a0 : (List Int)) : Option (List Int) :=
  (mk 0 (a0.length : Int)).bind fun l1 => (loopO (laws_toByteS_l1 a0) (l1, 0)).bind fun l5 => (match l5 with | l5 => some l5)
theorem laws_toByteS_p (b0 : Bool) {a0 : (List Int)} {R0 : (List Int)} (H : laws_toByteS a0 = some R0) : Pure Tryd.prog 23 [.im b0 (a0.map (c_int .u8))] (.im false (R0.map (c_int .u8))) := by
 refine CallT.of_TN (n := 22) Tryd.func23 rfl rfl rfl rfl ?_
 refine au 7 ?_
 refine TL.st rfl rfl rfl (o_lenL (f := c_int .u8) rfl rfl rfl) ?_
 obtain ⟨l1, h2, H⟩ := bind_s H
 refine TL.st rfl rfl rfl (o_mk (f := c_int .u8) (z := 0) rfl rfl tyE_5 ⟨_, rfl, rfl⟩ rfl rfl h2) ?_
 refine au 8 ?_
 obtain ⟨l5, h12, H⟩ := bind_s H
 refine T.lq (fun s => match s with | (l3, v4) => [(0, .im b0 (a0.map (c_int .u8))), (3, .hd 0 (l3.map (c_int .u8)).length 0 (l3.map (c_int .u8)).length), (4, .int .i64 v4)]) (fun s => match s with | (l3, v4) => [.arr .clo 1 (l3.map (c_int .u8))]) (fun q ex fr σ => match q with | l5 => ex = .exit 0 ∧ fr = [(3, .hd 0 (l5.map (c_int .u8)).length 0 (l5.map (c_int .u8)).length)] ∧ σ = [.arr .clo 1 (l5.map (c_int .u8))]) h12 ?_ ?_
 ·rintro ⟨l3, v4⟩ y6 H
  refine au 5 ?_
  refine TL.st rfl rfl rfl (o_lenL (f := c_int .u8) rfl rfl rfl) ?_
  refine au 2 ?_
  refine T.cH H (fun H h => ?_) (fun H h => ?_)
  ·refine au 8 ?_
   obtain ⟨e7, h8, H⟩ := bind_s H
   refine TL.st rfl rfl rfl (o_ix (f := c_int .u8) rfl rfl tyS_5 rfl rfl h8 rfl) ?_
   refine TL.st rfl rfl rfl (o_loadRf rfl tyS_5 rfl (nb rfl) rfl) ?_
   obtain ⟨e9, h10, H⟩ := bind_s H
   refine TL.st rfl rfl rfl (o_ixh (f := c_int .u8) rfl rfl tyS_5 rfl rfl rfl rfl h10 rfl) ?_
   refine TL.sn rfl rfl (o_stEl (f := c_int .u8) (xs := l3) (k := v4) (a := e9) e7 rfl tyS_5 rfl rfl rfl rfl (by decide) h10 rfl rfl rfl (fun _ => rfl) rfl) ?_
   refine TL.conv (Cs.eqV (t := 3) (v' := .hd 0 ((l3.set (Int.toNat v4) e7).map (c_int .u8)).length 0 ((l3.set (Int.toNat v4) e7).map (c_int .u8)).length) rfl (hd_len _ (List.length_set ..))) ?_
   refine TL.conv (Cs.eqV (t := 14) (v' := .hd 0 ((l3.set (Int.toNat v4) e7).map (c_int .u8)).length 0 ((l3.set (Int.toNat v4) e7).map (c_int .u8)).length) rfl (hd_len _ (List.length_set ..))) ?_
   refine TL.conv (Cs.eqV (t := 20) (v' := .el 0 ((l3.set (Int.toNat v4) e7).map (c_int .u8)).length (Int.toNat v4) 0) rfl (el_len _ _ _ (List.length_set ..))) ?_
   refine au 6 ?_
   exact Pk.of (thn_normal ⟨((l3.set (Int.toNat v4) e7), (IntKind.i64.wrap (v4 + 1))), (some_i H).symm, rfl, rfl⟩)
  ·refine T.exit ?_
   refine thn_exit ?_
   exact Pk.of (thn_exit ⟨l3, (some_i H).symm, rfl, rfl, rfl⟩)
 ·rintro _ _ _ ⟨rfl, rfl, rfl⟩
  refine inB_here ?_
  refine au 6 ?_
  cases some_i H
  exact ⟨trivial, _, (.tmp _ _ _ _ rfl .nil), (.own rfl (by decide) rfl)⟩
theorem en_23 : En Tryd.prog 23 := .of Tryd.func23 rfl rfl
theorem tyS_3 : TyS Tryd.prog 3 false 1 := ⟨rfl, rfl⟩
theorem tyS_30 : TyS Tryd.prog 30 true 3 := ⟨rfl, rfl⟩
noncomputable def laws_toSessConf (a0 : T_laws_SessConf) : Option T_impl_SessConf :=
  (laws_toByteS a0.Key_).bind fun r1 => some (⟨r1, a0.Idle_, a0.Most_⟩ : T_impl_SessConf)
theorem laws_toSessConf_p (b0 : Bool) {a0 : T_laws_SessConf} {R0 : T_impl_SessConf} (H : laws_toSessConf a0 = some R0) : Pure Tryd.prog 7 [.agg (c_T_laws_SessConf b0 a0)] (.agg (c_T_impl_SessConf false R0)) := by
 refine CallT.of_TN (n := 15) Tryd.func7 rfl rfl rfl rfl ?_
 refine au 10 ?_
 refine T.conv (Cs.eqS (σ' := [.box (c_T_laws_SessConf b0 a0), .box [.nilS, .int .i64 0, .int .i64 0], .box [.nilS, .int .i64 0, .int .i64 0]]) rfl) ?_
 refine au 3 ?_
 obtain ⟨r1, h2, H⟩ := bind_s H
 refine TL.st rfl rfl rfl (o_callP rfl en_23 rfl rfl (.cons _ _ _ _ (.imv _ _) .nil) (laws_toByteS_p b0 h2)) ?_
 refine au 18 ?_
 refine T.conv (Cs.eqS (σ' := [_, _, .box [.im false (r1.map (c_int .u8)), .int .i64 a0.Idle_, .int .i64 a0.Most_]]) rfl) ?_
 refine au 5 ?_
 cases some_i H
 exact ⟨trivial, _, (.cell _ _ _ _ _ _ _ _ _ _ rfl rfl tyS_30 (nb rfl) rfl .nil), (.cl _ rfl)⟩
theorem en_7 : En Tryd.prog 7 := .of Tryd.func7 rfl rfl
theorem tyE_60 : TyE Tryd.prog 60 5 := ⟨_, _, rfl, rfl, rfl, rfl, by decide, by decide⟩
theorem tyS_60 : TyS Tryd.prog 60 true 5 := ⟨rfl, rfl⟩
noncomputable def laws_toSessEvent (a0 : T_laws_SessEvent) : Option T_impl_SessEvent :=
  some (⟨a0.Kind_, a0.Time_, a0.User_, a0.Device_, a0.Id_⟩ : T_impl_SessEvent)
theorem laws_toSessEvent_p  {a0 : T_laws_SessEvent} {R0 : T_impl_SessEvent} (H : laws_toSessEvent a0 = some R0) : Pure Tryd.prog 24 [.agg (c_T_laws_SessEvent false a0)] (.agg (c_T_impl_SessEvent false R0)) := by
 refine CallT.of_TN (n := 20) Tryd.func24 rfl rfl rfl rfl ?_
 refine au 10 ?_
 refine T.conv (Cs.eqS (σ' := [.box (c_T_laws_SessEvent false a0), .box [.int .i64 0, .int .i64 0, .str e0, .str e0, .str e0], .box [.int .i64 0, .int .i64 0, .str e0, .str e0, .str e0]]) rfl) ?_
 refine au 21 ?_
 refine T.conv (Cs.eqS (σ' := [_, _, .box [.int .i64 a0.Kind_, .int .i64 a0.Time_, .str a0.User_, .str e0, .str e0]]) rfl) ?_
 refine au 18 ?_
 refine T.conv (Cs.eqS (σ' := [_, .box [.int .i64 a0.Kind_, .int .i64 a0.Time_, .str a0.User_, .str a0.Device_, .str a0.Id_], .box [.int .i64 a0.Kind_, .int .i64 a0.Time_, .str a0.User_, .str a0.Device_, .str a0.Id_]]) rfl) ?_
 refine T.ret ?_
 cases some_i H
 exact ⟨trivial, _, (.cell _ _ _ _ _ _ _ _ _ _ rfl rfl tyS_60 (nb rfl) rfl .nil), (.cl _ rfl)⟩
theorem en_24 : En Tryd.prog 24 := .of Tryd.func24 rfl rfl
noncomputable def laws_toSessEventS_l1 (a0 : (List T_laws_SessEvent)) : (List T_impl_SessEvent × Int) → Option ((List T_impl_SessEvent × Int) ⊕ List T_impl_SessEvent) := fun s => match s with
  | (l3, v4) => cond (decide (v4 < (a0.length : Int))) ((idx a0 v4).bind fun e7 => (laws_toSessEvent e7).bind fun r9 => (idx l3 v4).bind fun e11 => some (.inl ((l3.set (Int.toNat v4) r9), (IntKind.i64.wrap (v4 + 1))))) (some (.inr l3))
noncomputable def laws_toSessEventS (a0 : (List T_laws_SessEvent)) : Option (List T_impl_SessEvent) :=
  (mk (⟨0, 0, e0, e0, e0⟩ : T_impl_SessEvent) (a0.length : Int)).bind fun l1 => (loopO (laws_toSessEventS_l1 a0) (l1, 0)).bind fun l5 => (match l5 with | l5 => some l5)
theorem laws_toSessEventS_p (b0 : Bool) {a0 : (List T_laws_SessEvent)} {R0 : (List T_impl_SessEvent)} (H : laws_toSessEventS a0 = some R0) : Pure Tryd.prog 8 [.im b0 (a0.map (c_T_laws_SessEvent false))] (.im false (R0.map (c_T_impl_SessEvent false))) := by
 refine CallT.of_TN (n := 23) Tryd.func8 rfl rfl rfl rfl ?_
 refine au 7 ?_
 refine TL.st rfl rfl rfl (o_lenL (f := c_T_laws_SessEvent false) rfl rfl rfl) ?_
 obtain ⟨l1, h2, H⟩ := bind_s H
 refine TL.st rfl rfl rfl (o_mk (f := c_T_impl_SessEvent false) (z := (⟨0, 0, e0, e0, e0⟩ : T_impl_SessEvent)) rfl rfl tyE_60 ⟨_, rfl, rfl⟩ rfl rfl h2) ?_
 refine au 8 ?_
 obtain ⟨l5, h14, H⟩ := bind_s H
 refine T.lq (fun s => match s with | (l3, v4) => [(0, .im b0 (a0.map (c_T_laws_SessEvent false))), (3, .hd 0 (l3.map (c_T_impl_SessEvent false)).length 0 (l3.map (c_T_impl_SessEvent false)).length), (4, .int .i64 v4)]) (fun s => match s with | (l3, v4) => [.arr .clo 5 (l3.map (c_T_impl_SessEvent false))]) (fun q ex fr σ => match q with | l5 => ex = .exit 0 ∧ fr = [(3, .hd 0 (l5.map (c_T_impl_SessEvent false)).length 0 (l5.map (c_T_impl_SessEvent false)).length)] ∧ σ = [.arr .clo 5 (l5.map (c_T_impl_SessEvent false))]) h14 ?_ ?_
 ·rintro ⟨l3, v4⟩ y6 H
  refine au 5 ?_
  refine TL.st rfl rfl rfl (o_lenL (f := c_T_laws_SessEvent false) rfl rfl rfl) ?_
  refine au 2 ?_
  refine T.cH H (fun H h => ?_) (fun H h => ?_)
  ·refine au 8 ?_
   obtain ⟨e7, h8, H⟩ := bind_s H
   refine TL.st rfl rfl rfl (o_ix (f := c_T_laws_SessEvent false) rfl rfl tyS_44 rfl rfl h8 rfl) ?_
   refine TL.st rfl rfl rfl (o_loadRf rfl tyS_44 rfl (nb rfl) rfl) ?_
   obtain ⟨r9, h10, H⟩ := bind_s H
   refine TL.st rfl rfl rfl (o_callP rfl en_24 rfl rfl (.cons _ _ _ _ (.cl _ rfl) .nil) (laws_toSessEvent_p  h10)) ?_
   obtain ⟨e11, h12, H⟩ := bind_s H
   refine TL.st rfl rfl rfl (o_ixh (f := c_T_impl_SessEvent false) rfl rfl tyS_60 rfl rfl rfl rfl h12 rfl) ?_
   refine TL.sn rfl rfl (o_stEl (f := c_T_impl_SessEvent false) (xs := l3) (k := v4) (a := e11) r9 rfl tyS_60 rfl rfl rfl rfl (by decide) h12 rfl rfl rfl (fun _ => rfl) rfl) ?_
   refine TL.conv (Cs.eqV (t := 3) (v' := .hd 0 ((l3.set (Int.toNat v4) r9).map (c_T_impl_SessEvent false)).length 0 ((l3.set (Int.toNat v4) r9).map (c_T_impl_SessEvent false)).length) rfl (hd_len _ (List.length_set ..))) ?_
   refine TL.conv (Cs.eqV (t := 14) (v' := .hd 0 ((l3.set (Int.toNat v4) r9).map (c_T_impl_SessEvent false)).length 0 ((l3.set (Int.toNat v4) r9).map (c_T_impl_SessEvent false)).length) rfl (hd_len _ (List.length_set ..))) ?_
   refine TL.conv (Cs.eqV (t := 21) (v' := .el 0 ((l3.set (Int.toNat v4) r9).map (c_T_impl_SessEvent false)).length (Int.toNat v4) 0) rfl (el_len _ _ _ (List.length_set ..))) ?_
   refine au 6 ?_
   exact Pk.of (thn_normal ⟨((l3.set (Int.toNat v4) r9), (IntKind.i64.wrap (v4 + 1))), (some_i H).symm, rfl, rfl⟩)
  ·refine T.exit ?_
   refine thn_exit ?_
   exact Pk.of (thn_exit ⟨l3, (some_i H).symm, rfl, rfl, rfl⟩)
 ·rintro _ _ _ ⟨rfl, rfl, rfl⟩
  refine inB_here ?_
  refine au 6 ?_
  cases some_i H
  exact ⟨trivial, _, (.tmp _ _ _ _ rfl .nil), (.own rfl (by decide) rfl)⟩
theorem en_8 : En Tryd.prog 8 := .of Tryd.func8 rfl rfl
noncomputable def spec_GoodSessConf (a0 : T_impl_SessConf) : Option Bool :=
  some ((((decide ((a0.Key_.length : Int) ≤ 64) && decide (a0.Idle_ ≥ 1)) && decide (a0.Idle_ ≤ 1000000)) && decide (a0.Most_ ≥ 1)) && decide (a0.Most_ ≤ 1000000))
theorem spec_GoodSessConf_p (b0 : Bool) {a0 : T_impl_SessConf} {R0 : Bool} (H : spec_GoodSessConf a0 = some R0) : Pure Tryd.prog 19 [.agg (c_T_impl_SessConf b0 a0)] (.bool R0) := by
 refine CallT.of_TN (n := 27) Tryd.func19 rfl rfl rfl rfl ?_
 refine au 9 ?_
 refine TL.st rfl rfl rfl (o_lenL (f := c_int .u8) rfl rfl rfl) ?_
 refine au 24 ?_
 cases some_i H
 exact ⟨trivial, _, (.tmp _ _ _ _ rfl .nil), (.cl _ rfl)⟩
theorem en_19 : En Tryd.prog 19 := .of Tryd.func19 rfl rfl
def k_spec_l19S (a1 p : Nat) (b : Bool) (x : T_spec_l19S) : List V := ((c_T_impl_SessConf b x.c_) ++ [.int .i64 x.now_, .int .i64 x.given_, .hd a1 x.list_.length 0 x.list_.length])
noncomputable def spec_l1Digit (a0 : Int) : Option Bool :=
  some (decide (a0 ≥ 48) && decide (a0 ≤ 57))
theorem spec_l1Digit_p  {a0 : Int} {R0 : Bool} (H : spec_l1Digit a0 = some R0) : Pure Tryd.prog 53 [.int .u8 a0] (.bool R0) := by
 refine CallT.of_TN (n := 9) Tryd.func53 rfl rfl rfl rfl ?_
 refine au 15 ?_
 cases some_i H
 exact ⟨trivial, _, (.tmp _ _ _ _ rfl .nil), (.cl _ rfl)⟩
theorem en_53 : En Tryd.prog 53 := .of Tryd.func53 rfl rfl
noncomputable def spec_l1Letter (a0 : Int) : Option Bool :=
  some ((decide (a0 ≥ 97) && decide (a0 ≤ 122)) || (decide (a0 ≥ 65) && decide (a0 ≤ 90)))
theorem spec_l1Letter_p  {a0 : Int} {R0 : Bool} (H : spec_l1Letter a0 = some R0) : Pure Tryd.prog 54 [.int .u8 a0] (.bool R0) := by
 refine CallT.of_TN (n := 17) Tryd.func54 rfl rfl rfl rfl ?_
 refine au 15 ?_
 refine TL.gcq rfl rfl rfl (.bool _) rfl rfl (fun h => o_move rfl (gv h rfl)) ?_
 refine TL.gcq rfl rfl rfl (.gd _ _) rfl rfl (fun h => o_move rfl rfl) ?_
 refine TL.gcq rfl rfl rfl (.gd _ _) rfl rfl (fun h => o_ari rfl (gv h rfl) rfl rfl) ?_
 refine TL.gcq rfl rfl rfl (.bool _) rfl rfl (fun h => o_and rfl (gv h rfl) rfl (fun k => Gd_t (andi h k)) rfl) ?_
 refine au 4 ?_
 cases some_i H
 exact ⟨trivial, _, (.tmp _ _ _ _ rfl .nil), (.cl _ rfl)⟩
theorem en_54 : En Tryd.prog 54 := .of Tryd.func54 rfl rfl
noncomputable def spec_GoodName_l1 (a0 : ByteArray) : Int → Option (Int ⊕ (Unit ⊕ Bool)) := fun s => match s with
  | v5 => cond (decide (v5 < (a0.size : Int))) ((idxS a0 v5).bind fun b8 => (spec_l1Letter b8).bind fun r10 => (gdO (!r10) (idxS a0 v5)).bind fun b12 => (gdO (!r10) (spec_l1Digit b12)).bind fun r14 => (gdO ((!r10) && (!r14)) (idxS a0 v5)).bind fun b16 => cond (((!r10) && (!r14)) && (b16 != 95)) (some (.inr (.inr false))) (some (.inl (IntKind.i64.wrap (v5 + 1))))) (some (.inr (.inl ())))
noncomputable def spec_GoodName (a0 : ByteArray) : Option Bool :=
  (gdO (!(decide ((a0.size : Int) < 1) || decide ((a0.size : Int) > 30))) (idxS a0 0)).bind fun b1 => (gdO (!(decide ((a0.size : Int) < 1) || decide ((a0.size : Int) > 30))) (spec_l1Digit b1)).bind fun r3 => cond ((decide ((a0.size : Int) < 1) || decide ((a0.size : Int) > 30)) || r3) (some false) ((loopO (spec_GoodName_l1 a0) 0).bind fun q18 => (match q18 with | .inl _ => some true | .inr q6 => some q6))
theorem spec_GoodName_p  {a0 : ByteArray} {R0 : Bool} (H : spec_GoodName a0 = some R0) : Pure Tryd.prog 47 [.str a0] (.bool R0) := by
 refine CallT.of_TN (n := 41) Tryd.func47 rfl rfl rfl rfl ?_
 refine au 12 ?_
 refine TL.gcq rfl rfl rfl (.bool _) rfl rfl (fun h => o_lenS rfl rfl (gv h rfl)) ?_
 refine au 4 ?_
 obtain ⟨b1, h2, H⟩ := bind_s H
 refine TL.gcq rfl rfl rfl (.bool _) rfl rfl (fun h => o_ixs rfl rfl (gv h rfl) rfl (gdO_t h2 h)) ?_
 obtain ⟨r3, h4, H⟩ := bind_s H
 refine TL.gcq rfl rfl rfl (.bool _) rfl rfl (fun h => o_callP rfl en_53 rfl (evl_1 (gv h rfl)) (.cons _ _ _ _ (.cl _ rfl) .nil) (spec_l1Digit_p  (gdO_t h4 h))) ?_
 refine au 2 ?_
 refine T.cH H (fun H h => ?_) (fun H h => ?_)
 ·refine au 5 ?_
  refine thn_ret ?_
  cases some_i H
  exact ⟨trivial, _, (.tmp _ _ _ _ rfl .nil), (.cl _ rfl)⟩
 ·refine au 7 ?_
  obtain ⟨q18, h19, H⟩ := bind_s H
  refine T.lq (fun s => match s with | v5 => [(0, .str a0), (3, .int .i64 v5)]) (fun s => match s with | v5 => []) (fun q ex fr σ => match q with | .inl _ => ex = .exit 0 ∧ fr = [] ∧ σ = [] | .inr q6 => ex = .ret ∧ RetN Tryd.prog [.tmp 2] (fun v τ => Told τ v (.bool q6)) .ret fr σ) h19 ?_ ?_
  ·rintro v5 y7 H
   refine au 8 ?_
   refine T.cH H (fun H h => ?_) (fun H h => ?_)
   ·refine au 7 ?_
    obtain ⟨b8, h9, H⟩ := bind_s H
    refine TL.st rfl rfl rfl (o_ixs rfl rfl rfl rfl h9) ?_
    obtain ⟨r10, h11, H⟩ := bind_s H
    refine TL.st rfl rfl rfl (o_callP rfl en_54 rfl rfl (.cons _ _ _ _ (.cl _ rfl) .nil) (spec_l1Letter_p  h11)) ?_
    refine au 4 ?_
    obtain ⟨b12, h13, H⟩ := bind_s H
    refine TL.gcq rfl rfl rfl (.bool _) rfl rfl (fun h => o_ixs rfl rfl (gv h rfl) (gv h rfl) (gdO_t h13 h)) ?_
    obtain ⟨r14, h15, H⟩ := bind_s H
    refine TL.gcq rfl rfl rfl (.bool _) rfl rfl (fun h => o_callP rfl en_53 rfl (evl_1 (gv h rfl)) (.cons _ _ _ _ (.cl _ rfl) .nil) (spec_l1Digit_p  (gdO_t h15 h))) ?_
    refine au 5 ?_
    obtain ⟨b16, h17, H⟩ := bind_s H
    refine TL.gcq rfl rfl rfl (.bool _) rfl rfl (fun h => o_ixs rfl rfl (gv h rfl) (gv h rfl) (gdO_t h17 h)) ?_
    refine au 3 ?_
    refine T.cH H (fun H h => ?_) (fun H h => ?_)
    ·refine au 5 ?_
     refine inB_ret (thn_ret ?_)
     exact Pk.id (thn_ret ⟨.inr false, (some_i H).symm, rfl, ⟨trivial, _, (.tmp _ _ _ _ rfl .nil), (.cl _ rfl)⟩⟩)
    ·refine au 6 ?_
     exact Pk.of (thn_normal ⟨(IntKind.i64.wrap (v5 + 1)), (some_i H).symm, rfl, rfl⟩)
   ·refine T.exit ?_
    refine thn_exit ?_
    exact Pk.of (thn_exit ⟨.inl (), (some_i H).symm, rfl, rfl, rfl⟩)
  ·rcases q18 with ⟨⟩ | q6
   ·rintro _ _ _ ⟨rfl, rfl, rfl⟩
    refine inB_here ?_
    refine au 5 ?_
    cases some_i H
    exact ⟨trivial, _, (.tmp _ _ _ _ rfl .nil), (.cl _ rfl)⟩
   ·rintro _ fr1 σ1 ⟨rfl, hr⟩
    refine inB_ret (thn_ret ?_)
    cases some_i H
    exact hr
theorem en_47 : En Tryd.prog 47 := .of Tryd.func47 rfl rfl
noncomputable def spec_l15Not (a0 : Bool) (a1 : ByteArray) (a2 : Bool) : Option Bool :=
  cond a0 (some (!a2)) (some (!(a1.toList == e0.toList)))
theorem spec_l15Not_p  {a0 : Bool} {a1 : ByteArray} {a2 : Bool} {R0 : Bool} (H : spec_l15Not a0 a1 a2 = some R0) : Pure Tryd.prog 46 [.bool a0, .str a1, .bool a2] (.bool R0) := by
 refine CallT.of_TN (n := 12) Tryd.func46 rfl rfl rfl rfl ?_
 refine au 9 ?_
 refine T.cH H (fun H h => ?_) (fun H h => ?_)
 ·refine au 7 ?_
  refine thn_ret ?_
  cases some_i H
  exact ⟨trivial, _, (.tmp _ _ _ _ rfl .nil), (.cl _ rfl)⟩
 ·refine au 8 ?_
  cases some_i H
  exact ⟨trivial, _, (.tmp _ _ _ _ rfl .nil), (.cl _ rfl)⟩
theorem en_46 : En Tryd.prog 46 := .of Tryd.func46 rfl rfl
noncomputable def spec_l19Bad (a0 : T_impl_SessEvent) : Option Bool :=
  cond (((decide (a0.Kind_ < 1) || decide (a0.Kind_ > 5)) || decide (a0.Time_ < 0)) || decide (a0.Time_ > 100000000000)) (some true) ((spec_GoodName a0.User_).bind fun r1 => (spec_l15Not ((a0.Kind_ == 1) || (a0.Kind_ == 5)) a0.User_ r1).bind fun r3 => (gdO (!r3) (spec_GoodName a0.Device_)).bind fun r5 => (gdO (!r3) (spec_l15Not (a0.Kind_ != 5) a0.Device_ r5)).bind fun r7 => some ((r3 || r7) || (((a0.Kind_ == 1) || (a0.Kind_ == 5)) && (!(a0.Id_.toList == e0.toList)))))
theorem spec_l19Bad_p  {a0 : T_impl_SessEvent} {R0 : Bool} (H : spec_l19Bad a0 = some R0) : Pure Tryd.prog 36 [.agg (c_T_impl_SessEvent false a0)] (.bool R0) := by
 refine CallT.of_TN (n := 58) Tryd.func36 rfl rfl rfl rfl ?_
 refine au 27 ?_
 refine T.cH H (fun H h => ?_) (fun H h => ?_)
 ·refine au 5 ?_
  refine thn_ret ?_
  cases some_i H
  exact ⟨trivial, _, (.tmp _ _ _ _ rfl .nil), (.cl _ rfl)⟩
 ·refine au 21 ?_
  refine T.drawn rfl ?_
  refine ad 5 ?_
  obtain ⟨r1, h2, H⟩ := bind_s H
  refine TD.qs rfl rfl (fun _ => o_callP rfl en_47 rfl rfl (.cons _ _ _ _ (.cl _ rfl) .nil) (spec_GoodName_p  h2)) ?_
  obtain ⟨r3, h4, H⟩ := bind_s H
  refine TD.qs rfl rfl (fun _ => o_callP rfl en_46 rfl rfl (.cons _ _ _ _ (.cl _ rfl) (.cons _ _ _ _ (.cl _ rfl) (.cons _ _ _ _ (.cl _ rfl) .nil))) (spec_l15Not_p  h4)) ?_
  refine ad 6 ?_
  obtain ⟨r5, h6, H⟩ := bind_s H
  refine TD.cq rfl rfl rfl (.bool _) rfl (fun h _ => o_callP rfl en_47 rfl (evl_1 (gv h rfl)) (.cons _ _ _ _ (.cl _ rfl) .nil) (spec_GoodName_p  (gdO_t h6 h))) ?_
  obtain ⟨r7, h8, H⟩ := bind_s H
  refine TD.cq rfl rfl rfl (.bool _) rfl (fun h _ => o_callP rfl en_46 rfl (evl_3 (gv h rfl) (gv h rfl) (gv h rfl)) (.cons _ _ _ _ (.cl _ rfl) (.cons _ _ _ _ (.cl _ rfl) (.cons _ _ _ _ (.cl _ rfl) .nil))) (spec_l15Not_p  (gdO_t h8 h))) ?_
  refine ad 3 ?_
  refine TD.cq rfl rfl rfl (.bool _) rfl (fun h _ => o_move rfl (gv h rfl)) ?_
  refine TD.cr rfl rfl rfl (.gd _ _) rfl (fun h => o_fieldAddr rfl rfl rfl tyS_9 (by decide) rfl rfl ⟨_, rfl, Nat.le_of_ble_eq_true rfl⟩) ?_
  refine TD.cr rfl rfl rfl (.gd _ _) rfl (fun h => o_loadBx rfl tyS_9 (gv h rfl) rfl (nb rfl) rfl) ?_
  refine TD.cq rfl rfl rfl (.gd _ _) rfl (fun h _ => o_str rfl (gv h rfl) rfl rfl) ?_
  refine TD.cq rfl rfl rfl (.bool _) rfl (fun h _ => o_and rfl (gv h rfl) rfl (fun k => Gd_t (andi h k)) rfl) ?_
  refine ad 2 ?_
  refine TD.nil ⟨rfl, ?_⟩
  refine T.ret ?_
  cases some_i H
  exact ⟨trivial, _, (.tmp _ _ _ _ rfl .nil), (.cl _ rfl)⟩
theorem en_36 : En Tryd.prog 36 := .of Tryd.func36 rfl rfl
theorem tyS_57 : TyS Tryd.prog 57 true 4 := ⟨rfl, rfl⟩
noncomputable def spec_l19Err (a0 : Int) : Option T_impl_SessReply :=
  some (⟨a0, e0, e0, 0⟩ : T_impl_SessReply)
theorem spec_l19Err_p  {a0 : Int} {R0 : T_impl_SessReply} (H : spec_l19Err a0 = some R0) : Pure Tryd.prog 37 [.int .i64 a0] (.agg (c_T_impl_SessReply false R0)) := by
 refine CallT.of_TN (n := 5) Tryd.func37 rfl rfl rfl rfl ?_
 refine au 11 ?_
 cases some_i H
 exact ⟨trivial, _, (.cell _ _ _ _ _ _ _ _ _ _ rfl rfl tyS_57 (nb rfl) rfl .nil), (.cl _ rfl)⟩
theorem en_37 : En Tryd.prog 37 := .of Tryd.func37 rfl rfl
noncomputable def spec_l1Size_j1 (v1 : Int) (v2 : ByteArray) (v5 : Int) : Option ((Int × ByteArray) ⊕ ByteArray) :=
  (cat (byS ([(IntKind.u8.wrap (IntKind.i64.wrap (48 + v5)))] : List Int)) v2).bind fun s6 => some (.inl ((IntKind.i64.wrap (Int.tdiv v1 10)), s6))
noncomputable def spec_l1Size_l1  : (Int × ByteArray) → Option ((Int × ByteArray) ⊕ ByteArray) := fun s => match s with
  | (v1, v2) => cond (v1 != 0) (cond (decide ((Int.tmod v1 10) < 0)) (spec_l1Size_j1 v1 v2 (IntKind.i64.wrap (-(Int.tmod v1 10)))) (spec_l1Size_j1 v1 v2 (Int.tmod v1 10))) (some (.inr v2))
noncomputable def spec_l1Size (a0 : Int) : Option ByteArray :=
  cond (a0 == 0) (some (ByteArray.mk #[48])) ((loopO (spec_l1Size_l1) (a0, e0)).bind fun v3 => (match v3 with | v3 => some v3))
theorem spec_l1Size_p  {a0 : Int} {R0 : ByteArray} (H : spec_l1Size a0 = some R0) : Pure Tryd.prog 62 [.int .i64 a0] (.str R0) := by
 refine CallT.of_TN (n := 25) Tryd.func62 rfl rfl rfl rfl ?_
 refine au 10 ?_
 refine T.cH H (fun H h => ?_) (fun H h => ?_)
 ·refine au 5 ?_
  refine thn_ret ?_
  cases some_i H
  exact ⟨trivial, _, (.tmp _ _ _ _ rfl .nil), (.cl _ rfl)⟩
 ·refine au 7 ?_
  obtain ⟨v3, h9, H⟩ := bind_s H
  refine T.lq (fun s => match s with | (v1, v2) => [(0, .int .i64 v1), (3, .str v2)]) (fun s => match s with | (v1, v2) => []) (fun q ex fr σ => match q with | v3 => ex = .exit 0 ∧ fr = [(3, .str v3)] ∧ σ = []) h9 ?_ ?_
  ·rintro ⟨v1, v2⟩ y4 H
   refine au 6 ?_
   refine T.cH H (fun H h => ?_) (fun H h => ?_)
   ·refine au 5 ?_
    refine TL.st rfl rfl rfl (o_rem rfl rfl rfl (by decide)) ?_
    refine au 2 ?_
    refine T.cut (fun fr' σ' => ∃ (v5 : Int), fr' = [(0, .int .i64 v1), (3, .str v2), (4, .int .i64 v5)] ∧ σ' = [] ∧ spec_l1Size_j1 v1 v2 v5 = some y4) (T.pk ?_) ?_
    ·skip
     refine au 5 ?_
     refine T.cH H (fun H h => ?_) (fun H h => ?_)
     ·refine au 2 ?_
      refine TL.st rfl rfl rfl (o_neg rfl rfl) ?_
      refine au 2 ?_
      exact Pk.of (thn_normal ⟨(IntKind.i64.wrap (-(Int.tmod v1 10))), rfl, rfl, H⟩)
     ·refine T.skip ?_
      exact Pk.of (thn_normal ⟨(Int.tmod v1 10), rfl, rfl, H⟩)
    ·rintro _ _ ⟨v5, rfl, rfl, H⟩
     refine au 4 ?_
     refine TL.st rfl rfl rfl (o_conv rfl rfl ⟨_, rfl⟩ rfl) ?_
     refine TL.st rfl rfl rfl (o_sliceIm (rows := ([(IntKind.u8.wrap (IntKind.i64.wrap (48 + v5)))] : List Int).map (c_int .u8)) rfl rfl tyS_5 ⟨_, rfl, rfl⟩ (by decide) rfl rfl rfl rfl rfl rfl) ?_
     refine TL.st rfl rfl rfl (o_bs (f := c_int .u8) (ns := ([(IntKind.u8.wrap (IntKind.i64.wrap (48 + v5)))] : List Int)) rfl rfl rfl rfl (fun _ => rfl) rfl) ?_
     refine TL.st rfl rfl rfl (o_move rfl rfl) ?_
     obtain ⟨s6, h7, H⟩ := bind_s H
     refine TL.st rfl rfl rfl (o_ct rfl rfl rfl h7) ?_
     refine au 4 ?_
     refine TL.st rfl rfl rfl (o_quo rfl rfl rfl (by decide)) ?_
     refine au 2 ?_
     refine inB_normal ?_
     exact Pk.of (thn_normal ⟨((IntKind.i64.wrap (Int.tdiv v1 10)), s6), (some_i H).symm, rfl, rfl⟩)
   ·refine T.exit ?_
    refine thn_exit ?_
    exact Pk.of (thn_exit ⟨v2, (some_i H).symm, rfl, rfl, rfl⟩)
  ·rintro _ _ _ ⟨rfl, rfl, rfl⟩
   refine inB_here ?_
   refine au 6 ?_
   cases some_i H
   exact ⟨trivial, _, (.tmp _ _ _ _ rfl .nil), (.cl _ rfl)⟩
theorem en_62 : En Tryd.prog 62 := .of Tryd.func62 rfl rfl
noncomputable def spec_l1Num (a0 : Int) : Option ByteArray :=
  cond (decide (a0 < 0)) ((spec_l1Size a0).bind fun r1 => (cat (ByteArray.mk #[45]) r1).bind fun s3 => some s3) ((spec_l1Size a0).bind fun r5 => some r5)
theorem spec_l1Num_p  {a0 : Int} {R0 : ByteArray} (H : spec_l1Num a0 = some R0) : Pure Tryd.prog 55 [.int .i64 a0] (.str R0) := by
 refine CallT.of_TN (n := 10) Tryd.func55 rfl rfl rfl rfl ?_
 refine au 10 ?_
 refine T.cH H (fun H h => ?_) (fun H h => ?_)
 ·refine au 3 ?_
  obtain ⟨r1, h2, H⟩ := bind_s H
  refine TL.st rfl rfl rfl (o_callP rfl en_62 rfl rfl (.cons _ _ _ _ (.cl _ rfl) .nil) (spec_l1Size_p  h2)) ?_
  obtain ⟨s3, h4, H⟩ := bind_s H
  refine TL.st rfl rfl rfl (o_ct rfl rfl rfl h4) ?_
  refine au 3 ?_
  refine thn_ret ?_
  cases some_i H
  exact ⟨trivial, _, (.tmp _ _ _ _ rfl .nil), (.cl _ rfl)⟩
 ·refine au 4 ?_
  obtain ⟨r5, h6, H⟩ := bind_s H
  refine TL.st rfl rfl rfl (o_callP rfl en_62 rfl rfl (.cons _ _ _ _ (.cl _ rfl) .nil) (spec_l1Size_p  h6)) ?_
  refine au 3 ?_
  cases some_i H
  exact ⟨trivial, _, (.tmp _ _ _ _ rfl .nil), (.cl _ rfl)⟩
theorem en_55 : En Tryd.prog 55 := .of Tryd.func55 rfl rfl
noncomputable def spec_l2Mixx_l1 (a0 : Int) : (List Int × Int) → Option ((List Int × Int) ⊕ List Int) := fun s => match s with
  | (l1, v2) => cond (decide (v2 < 4)) ((idx l1 v2).bind fun e5 => (idx ([1103515245, 69069, 1664525, 22695477] : List Int) v2).bind fun e7 => (idx l1 (Int.tmod (IntKind.i64.wrap (v2 + 1)) 4)).bind fun e9 => (idx l1 v2).bind fun e11 => some (.inl ((l1.set (Int.toNat v2) (Int.tmod (IntKind.i64.wrap ((IntKind.i64.wrap ((IntKind.i64.wrap ((IntKind.i64.wrap (e5 * e7)) + a0)) + 1)) + e9)) 2147483579)), (IntKind.i64.wrap (v2 + 1))))) (some (.inr l1))
noncomputable def spec_l2Mixx (a0 : Int) (s0 : List Int) : Option (List Int) :=
  (loopO (spec_l2Mixx_l1 a0) (s0, 0)).bind fun l3 => (match l3 with | l3 => some l3)
theorem spec_l2Mixx_p  {a0 : Int} {s0 : List Int} {U0 : List Int} (H : spec_l2Mixx a0 s0 = some U0) : St Tryd.prog 70 [.hd 0 (s0.map (c_int .i64)).length 0 (s0.map (c_int .i64)).length, .int .i64 a0] [.arr .clo 1 (s0.map (c_int .i64))] (.tup []) [.arr .clo 1 (U0.map (c_int .i64))] := by
 refine CallT.fin (CallT.of_TN (n := 34) Tryd.func70 rfl rfl rfl rfl ?_) rfl rfl ⟨trivial, trivial⟩
 refine au 2 ?_
 refine TL.st rfl rfl rfl (o_sliceIm (rows := ([1103515245, 69069, 1664525, 22695477] : List Int).map (c_int .i64)) rfl rfl tyS_3 ⟨_, rfl, rfl⟩ (by decide) rfl rfl rfl rfl rfl rfl) ?_
 refine au 7 ?_
 obtain ⟨l3, h14, H⟩ := bind_s H
 refine T.lq (fun s => match s with | (l1, v2) => [(0, .hd 0 (l1.map (c_int .i64)).length 0 (l1.map (c_int .i64)).length), (1, .int .i64 a0), (4, .im false (([1103515245, 69069, 1664525, 22695477] : List Int).map (c_int .i64))), (5, .int .i64 v2)]) (fun s => match s with | (l1, v2) => [.arr .clo 1 (l1.map (c_int .i64))]) (fun q ex fr σ => match q with | l3 => ex = .exit 0 ∧ fr = [] ∧ σ = [.arr .clo 1 (l3.map (c_int .i64))]) h14 ?_ ?_
 ·rintro ⟨l1, v2⟩ y4 H
  refine au 6 ?_
  refine T.cH H (fun H h => ?_) (fun H h => ?_)
  ·refine au 3 ?_
   refine T.drawn rfl ?_
   refine ad 4 ?_
   obtain ⟨e5, h6, H⟩ := bind_s H
   refine TD.rs rfl rfl (o_ixh (f := c_int .i64) rfl rfl tyS_3 rfl rfl rfl rfl h6 rfl) ?_
   refine TD.rs rfl rfl (o_loadEl rfl tyS_3 rfl rfl rfl (by rw [List.getElem?_map, (idx_s h6).2]; rfl) (nb rfl) rfl) ?_
   refine ad 2 ?_
   obtain ⟨e7, h8, H⟩ := bind_s H
   refine TD.qs rfl rfl (fun _ => o_ix (f := c_int .i64) rfl rfl tyS_3 rfl rfl h8 rfl) ?_
   refine TD.qs rfl rfl (fun _ => o_loadRf rfl tyS_3 rfl (nb rfl) rfl) ?_
   refine ad 7 ?_
   refine TD.qs rfl rfl (fun _ => o_rem rfl rfl rfl (by decide)) ?_
   obtain ⟨e9, h10, H⟩ := bind_s H
   refine TD.rs rfl rfl (o_ixh (f := c_int .i64) rfl rfl tyS_3 rfl rfl rfl rfl h10 rfl) ?_
   refine TD.rs rfl rfl (o_loadEl rfl tyS_3 rfl rfl rfl (by rw [List.getElem?_map, (idx_s h10).2]; rfl) (nb rfl) rfl) ?_
   refine TD.qs rfl rfl (fun _ => o_ari rfl rfl rfl rfl) ?_
   refine TD.qs rfl rfl (fun _ => o_rem rfl rfl rfl (by decide)) ?_
   obtain ⟨e11, h12, H⟩ := bind_s H
   refine TD.rs rfl rfl (o_ixh (f := c_int .i64) rfl rfl tyS_3 rfl rfl rfl rfl h12 rfl) ?_
   refine TD.an rfl rfl (o_stEl (f := c_int .i64) (xs := l1) (k := v2) (a := e11) (Int.tmod (IntKind.i64.wrap ((IntKind.i64.wrap ((IntKind.i64.wrap ((IntKind.i64.wrap (e5 * e7)) + a0)) + 1)) + e9)) 2147483579) rfl tyS_3 rfl rfl rfl rfl (by decide) h12 rfl rfl rfl (fun _ => rfl) rfl) ?_
   refine TD.nil ⟨rfl, ?_⟩
   refine inB_normal (thn_normal ?_)
   refine T.conv (Cs.eqV (t := 0) (v' := .hd 0 ((l1.set (Int.toNat v2) (Int.tmod (IntKind.i64.wrap ((IntKind.i64.wrap ((IntKind.i64.wrap ((IntKind.i64.wrap (e5 * e7)) + a0)) + 1)) + e9)) 2147483579)).map (c_int .i64)).length 0 ((l1.set (Int.toNat v2) (Int.tmod (IntKind.i64.wrap ((IntKind.i64.wrap ((IntKind.i64.wrap ((IntKind.i64.wrap (e5 * e7)) + a0)) + 1)) + e9)) 2147483579)).map (c_int .i64)).length) rfl (hd_len _ (List.length_set ..))) ?_
   refine T.conv (Cs.eqV (t := 11) (v' := .hd 0 ((l1.set (Int.toNat v2) (Int.tmod (IntKind.i64.wrap ((IntKind.i64.wrap ((IntKind.i64.wrap ((IntKind.i64.wrap (e5 * e7)) + a0)) + 1)) + e9)) 2147483579)).map (c_int .i64)).length 0 ((l1.set (Int.toNat v2) (Int.tmod (IntKind.i64.wrap ((IntKind.i64.wrap ((IntKind.i64.wrap ((IntKind.i64.wrap (e5 * e7)) + a0)) + 1)) + e9)) 2147483579)).map (c_int .i64)).length) rfl (hd_len _ (List.length_set ..))) ?_
   refine T.conv (Cs.eqV (t := 13) (v' := .hd 0 ((l1.set (Int.toNat v2) (Int.tmod (IntKind.i64.wrap ((IntKind.i64.wrap ((IntKind.i64.wrap ((IntKind.i64.wrap (e5 * e7)) + a0)) + 1)) + e9)) 2147483579)).map (c_int .i64)).length 0 ((l1.set (Int.toNat v2) (Int.tmod (IntKind.i64.wrap ((IntKind.i64.wrap ((IntKind.i64.wrap ((IntKind.i64.wrap (e5 * e7)) + a0)) + 1)) + e9)) 2147483579)).map (c_int .i64)).length) rfl (hd_len _ (List.length_set ..))) ?_
   refine T.conv (Cs.eqV (t := 15) (v' := .el 0 ((l1.set (Int.toNat v2) (Int.tmod (IntKind.i64.wrap ((IntKind.i64.wrap ((IntKind.i64.wrap ((IntKind.i64.wrap (e5 * e7)) + a0)) + 1)) + e9)) 2147483579)).map (c_int .i64)).length (Int.toNat v2) 0) rfl (el_len _ _ _ (List.length_set ..))) ?_
   refine T.conv (Cs.eqV (t := 25) (v' := .hd 0 ((l1.set (Int.toNat v2) (Int.tmod (IntKind.i64.wrap ((IntKind.i64.wrap ((IntKind.i64.wrap ((IntKind.i64.wrap (e5 * e7)) + a0)) + 1)) + e9)) 2147483579)).map (c_int .i64)).length 0 ((l1.set (Int.toNat v2) (Int.tmod (IntKind.i64.wrap ((IntKind.i64.wrap ((IntKind.i64.wrap ((IntKind.i64.wrap (e5 * e7)) + a0)) + 1)) + e9)) 2147483579)).map (c_int .i64)).length) rfl (hd_len _ (List.length_set ..))) ?_
   refine T.conv (Cs.eqV (t := 33) (v' := .el 0 ((l1.set (Int.toNat v2) (Int.tmod (IntKind.i64.wrap ((IntKind.i64.wrap ((IntKind.i64.wrap ((IntKind.i64.wrap (e5 * e7)) + a0)) + 1)) + e9)) 2147483579)).map (c_int .i64)).length (Int.toNat v2) 0) rfl (el_len _ _ _ (List.length_set ..))) ?_
   refine au 5 ?_
   exact Pk.of (thn_normal ⟨((l1.set (Int.toNat v2) (Int.tmod (IntKind.i64.wrap ((IntKind.i64.wrap ((IntKind.i64.wrap ((IntKind.i64.wrap (e5 * e7)) + a0)) + 1)) + e9)) 2147483579)), (IntKind.i64.wrap (v2 + 1))), (some_i H).symm, rfl, rfl⟩)
  ·refine T.exit ?_
   refine thn_exit ?_
   exact Pk.of (thn_exit ⟨l1, (some_i H).symm, rfl, rfl, rfl⟩)
 ·rintro _ _ _ ⟨rfl, rfl, rfl⟩
  refine inB_here ?_
  cases some_i H
  exact ⟨trivial, _, .nil, ⟨rfl, _, rfl⟩⟩
theorem en_70 : En Tryd.prog 70 := .of Tryd.func70 rfl rfl
noncomputable def spec_l2Bytes_l1 (l1 : List Int) : (List Int × Int × Int) → Option ((List Int × Int × Int) ⊕ List Int) := fun s => match s with
  | (l3, v4, v5) => cond (decide (v5 < (l1.length : Int))) ((idx l3 v5).bind fun e8 => some (.inl ((l3.set (Int.toNat v5) (IntKind.u8.wrap (Int.tmod v4 256))), (IntKind.i64.wrap (Int.tdiv v4 256)), (IntKind.i64.wrap (v5 + 1))))) (some (.inr l3))
noncomputable def spec_l2Bytes (a0 : Int) : Option (List Int) :=
  (mk 0 4).bind fun l1 => (loopO (spec_l2Bytes_l1 l1) (l1, a0, 0)).bind fun l6 => (match l6 with | l6 => some l6)
theorem spec_l2Bytes_p  {a0 : Int} {R0 : (List Int)} (H : spec_l2Bytes a0 = some R0) : Pure Tryd.prog 71 [.int .i64 a0] (.im false (R0.map (c_int .u8))) := by
 refine CallT.of_TN (n := 21) Tryd.func71 rfl rfl rfl rfl ?_
 refine au 6 ?_
 obtain ⟨l1, h2, H⟩ := bind_s H
 refine TL.st rfl rfl rfl (o_mk (f := c_int .u8) (z := 0) rfl rfl tyE_5 ⟨_, rfl, rfl⟩ rfl rfl h2) ?_
 refine au 6 ?_
 refine TL.st rfl rfl rfl (o_lenOwn (f := c_int .u8) rfl rfl rfl rfl rfl) ?_
 refine au 3 ?_
 obtain ⟨l6, h11, H⟩ := bind_s H
 refine T.lq (fun s => match s with | (l3, v4, v5) => [(0, .int .i64 v4), (3, .hd 0 (l3.map (c_int .u8)).length 0 (l3.map (c_int .u8)).length), (7, .int .i64 (l1.length : Int)), (8, .int .i64 v5)]) (fun s => match s with | (l3, v4, v5) => [.arr .clo 1 (l3.map (c_int .u8))]) (fun q ex fr σ => match q with | l6 => ex = .exit 0 ∧ fr = [(3, .hd 0 (l6.map (c_int .u8)).length 0 (l6.map (c_int .u8)).length)] ∧ σ = [.arr .clo 1 (l6.map (c_int .u8))]) h11 ?_ ?_
 ·rintro ⟨l3, v4, v5⟩ y7 H
  refine au 5 ?_
  refine T.cH H (fun H h => ?_) (fun H h => ?_)
  ·refine au 13 ?_
   refine TL.st rfl rfl rfl (o_rem rfl rfl rfl (by decide)) ?_
   refine TL.st rfl rfl rfl (o_conv rfl rfl ⟨_, rfl⟩ rfl) ?_
   obtain ⟨e8, h9, H⟩ := bind_s H
   refine TL.st rfl rfl rfl (o_ixh (f := c_int .u8) rfl rfl tyS_5 rfl rfl rfl rfl h9 rfl) ?_
   refine TL.sn rfl rfl (o_stEl (f := c_int .u8) (xs := l3) (k := v5) (a := e8) (IntKind.u8.wrap (Int.tmod v4 256)) rfl tyS_5 rfl rfl rfl rfl (by decide) h9 rfl rfl rfl (fun _ => rfl) rfl) ?_
   refine TL.conv (Cs.eqV (t := 3) (v' := .hd 0 ((l3.set (Int.toNat v5) (IntKind.u8.wrap (Int.tmod v4 256))).map (c_int .u8)).length 0 ((l3.set (Int.toNat v5) (IntKind.u8.wrap (Int.tmod v4 256))).map (c_int .u8)).length) rfl (hd_len _ (List.length_set ..))) ?_
   refine TL.conv (Cs.eqV (t := 11) (v' := .hd 0 ((l3.set (Int.toNat v5) (IntKind.u8.wrap (Int.tmod v4 256))).map (c_int .u8)).length 0 ((l3.set (Int.toNat v5) (IntKind.u8.wrap (Int.tmod v4 256))).map (c_int .u8)).length) rfl (hd_len _ (List.length_set ..))) ?_
   refine TL.conv (Cs.eqV (t := 16) (v' := .el 0 ((l3.set (Int.toNat v5) (IntKind.u8.wrap (Int.tmod v4 256))).map (c_int .u8)).length (Int.toNat v5) 0) rfl (el_len _ _ _ (List.length_set ..))) ?_
   refine au 3 ?_
   refine TL.st rfl rfl rfl (o_quo rfl rfl rfl (by decide)) ?_
   refine au 6 ?_
   exact Pk.of (thn_normal ⟨((l3.set (Int.toNat v5) (IntKind.u8.wrap (Int.tmod v4 256))), (IntKind.i64.wrap (Int.tdiv v4 256)), (IntKind.i64.wrap (v5 + 1))), (some_i H).symm, rfl, rfl⟩)
  ·refine T.exit ?_
   refine thn_exit ?_
   exact Pk.of (thn_exit ⟨l3, (some_i H).symm, rfl, rfl, rfl⟩)
 ·rintro _ _ _ ⟨rfl, rfl, rfl⟩
  refine inB_here ?_
  refine au 6 ?_
  cases some_i H
  exact ⟨trivial, _, (.tmp _ _ _ _ rfl .nil), (.own rfl (by decide) rfl)⟩
theorem en_71 : En Tryd.prog 71 := .of Tryd.func71 rfl rfl
noncomputable def spec_l2Digest_l4 (l11 : List Int) : (List Int × Int) → Option ((List Int × Int) ⊕ List Int) := fun s => match s with
  | (l12, v13) => cond (decide (v13 < (l11.length : Int))) ((idx l11 v13).bind fun e16 => (spec_l2Bytes e16).bind fun r18 => (app l12 r18).bind fun l20 => some (.inl (l20, (IntKind.i64.wrap (v13 + 1))))) (some (.inr l12))
noncomputable def spec_l2Digest_l3  : (List Int × Int) → Option ((List Int × Int) ⊕ List Int) := fun s => match s with
  | (l9, v10) => cond (decide (v10 < 8)) ((spec_l2Mixx 0 l9).bind fun o25 => (lenEq o25 l9).bind fun u27 => some (.inl (o25, (IntKind.i64.wrap (v10 + 1))))) (some (.inr l9))
noncomputable def spec_l2Digest_l2 (r4 : (List Int)) : (List Int × Int) → Option ((List Int × Int) ⊕ List Int) := fun s => match s with
  | (l6, v7) => cond (decide (v7 < (r4.length : Int))) ((idx r4 v7).bind fun e32 => (spec_l2Mixx (IntKind.i64.wrap e32) l6).bind fun o34 => (lenEq o34 l6).bind fun u36 => some (.inl (o34, (IntKind.i64.wrap (v7 + 1))))) (some (.inr l6))
noncomputable def spec_l2Digest_l1 (a0 : (List Int)) : (List Int × Int) → Option ((List Int × Int) ⊕ List Int) := fun s => match s with
  | (l1, v2) => cond (decide (v2 < (a0.length : Int))) ((idx a0 v2).bind fun e41 => (spec_l2Mixx (IntKind.i64.wrap e41) l1).bind fun o43 => (lenEq o43 l1).bind fun u45 => some (.inl (o43, (IntKind.i64.wrap (v2 + 1))))) (some (.inr l1))
noncomputable def spec_l2Digest (a0 : (List Int)) : Option (List Int) :=
  (loopO (spec_l2Digest_l1 a0) (([11, 22, 33, 44] : List Int), 0)).bind fun l3 => (match l3 with | l3 => (spec_l2Bytes (a0.length : Int)).bind fun r4 => (loopO (spec_l2Digest_l2 r4) (l3, 0)).bind fun l8 => (match l8 with | l8 => (loopO (spec_l2Digest_l3) (l8, 0)).bind fun l11 => (match l11 with | l11 => (loopO (spec_l2Digest_l4 l11) (([] : List Int), 0)).bind fun l14 => (match l14 with | l14 => some l14))))
theorem spec_l2Digest_p (b0 : Bool) {a0 : (List Int)} {R0 : (List Int)} (H : spec_l2Digest a0 = some R0) : Pure Tryd.prog 65 [.im b0 (a0.map (c_int .u8))] (.im false (R0.map (c_int .u8))) := by
 refine CallT.of_TN (n := 55) Tryd.func65 rfl rfl rfl rfl ?_
 refine au 6 ?_
 refine TL.st rfl rfl rfl (o_sliceHd (rows := ([11, 22, 33, 44] : List Int).map (c_int .i64)) .clo rfl rfl tyS_3 ⟨_, rfl, rfl⟩ (by decide) rfl rfl rfl rfl (by decide) (fun _ => rfl) (by decide) rfl (by decide)) ?_
 refine au 6 ?_
 refine TL.st rfl rfl rfl (o_lenL (f := c_int .u8) rfl rfl rfl) ?_
 refine au 3 ?_
 obtain ⟨l3, h48, H⟩ := bind_s H
 refine T.lq (fun s => match s with | (l1, v2) => [(0, .im b0 (a0.map (c_int .u8))), (3, .hd 0 (l1.map (c_int .i64)).length 0 (l1.map (c_int .i64)).length), (13, .im b0 (a0.map (c_int .u8))), (14, .int .i64 (a0.length : Int)), (15, .int .i64 v2)]) (fun s => match s with | (l1, v2) => [.arr .clo 1 (l1.map (c_int .i64))]) (fun q ex fr σ => match q with | l3 => ex = .exit 0 ∧ fr = [(0, .im b0 (a0.map (c_int .u8))), (3, .hd 0 (l3.map (c_int .i64)).length 0 (l3.map (c_int .i64)).length)] ∧ σ = [.arr .clo 1 (l3.map (c_int .i64))]) h48 ?_ ?_
 ·rintro ⟨l1, v2⟩ y40 H
  refine au 5 ?_
  refine T.cH H (fun H h => ?_) (fun H h => ?_)
  ·refine au 5 ?_
   obtain ⟨e41, h42, H⟩ := bind_s H
   refine TL.st rfl rfl rfl (o_ix (f := c_int .u8) rfl rfl tyS_5 rfl rfl h42 rfl) ?_
   refine au 6 ?_
   refine TL.st rfl rfl rfl (o_conv rfl rfl ⟨_, rfl⟩ rfl) ?_
   obtain ⟨o43, h44, H⟩ := bind_s H
   obtain ⟨u45, h46, H⟩ := bind_s H
   refine TL.st rfl rfl rfl (o_callS [0] rfl en_70 rfl rfl (spec_l2Mixx_p  h44) rfl (by decide) (.cons _ _ _ _ rfl .nil) rfl rfl rfl) ?_
   refine TL.conv (Cs.eqV (t := 3) (v' := .hd 0 (o43.map (c_int .i64)).length 0 (o43.map (c_int .i64)).length) rfl (hd_len _ (lenEq_s h46))) ?_
   refine TL.conv (Cs.eqV (t := 19) (v' := .hd 0 (o43.map (c_int .i64)).length 0 (o43.map (c_int .i64)).length) rfl (hd_len _ (lenEq_s h46))) ?_
   refine au 5 ?_
   exact Pk.of (thn_normal ⟨(o43, (IntKind.i64.wrap (v2 + 1))), (some_i H).symm, rfl, rfl⟩)
  ·refine T.exit ?_
   refine thn_exit ?_
   exact Pk.of (thn_exit ⟨l1, (some_i H).symm, rfl, rfl, rfl⟩)
 ·rintro _ _ _ ⟨rfl, rfl, rfl⟩
  refine inB_here ?_
  refine au 4 ?_
  refine TL.st rfl rfl rfl (o_lenL (f := c_int .u8) rfl rfl rfl) ?_
  obtain ⟨r4, h5, H⟩ := bind_s H
  refine TL.st rfl rfl rfl (o_callP rfl en_71 rfl rfl (.cons _ _ _ _ (.cl _ rfl) .nil) (spec_l2Bytes_p  h5)) ?_
  refine TL.st rfl rfl rfl (o_lenL (f := c_int .u8) rfl rfl rfl) ?_
  refine au 3 ?_
  obtain ⟨l8, h39, H⟩ := bind_s H
  refine T.lq (fun s => match s with | (l6, v7) => [(3, .hd 0 (l6.map (c_int .i64)).length 0 (l6.map (c_int .i64)).length), (26, .im false (r4.map (c_int .u8))), (27, .int .i64 (r4.length : Int)), (28, .int .i64 v7)]) (fun s => match s with | (l6, v7) => [.arr .clo 1 (l6.map (c_int .i64))]) (fun q ex fr σ => match q with | l8 => ex = .exit 2 ∧ fr = [(3, .hd 0 (l8.map (c_int .i64)).length 0 (l8.map (c_int .i64)).length)] ∧ σ = [.arr .clo 1 (l8.map (c_int .i64))]) h39 ?_ ?_
  ·rintro ⟨l6, v7⟩ y31 H
   refine au 5 ?_
   refine T.cH H (fun H h => ?_) (fun H h => ?_)
   ·refine au 5 ?_
    obtain ⟨e32, h33, H⟩ := bind_s H
    refine TL.st rfl rfl rfl (o_ix (f := c_int .u8) rfl rfl tyS_5 rfl rfl h33 rfl) ?_
    refine au 6 ?_
    refine TL.st rfl rfl rfl (o_conv rfl rfl ⟨_, rfl⟩ rfl) ?_
    obtain ⟨o34, h35, H⟩ := bind_s H
    obtain ⟨u36, h37, H⟩ := bind_s H
    refine TL.st rfl rfl rfl (o_callS [0] rfl en_70 rfl rfl (spec_l2Mixx_p  h35) rfl (by decide) (.cons _ _ _ _ rfl .nil) rfl rfl rfl) ?_
    refine TL.conv (Cs.eqV (t := 3) (v' := .hd 0 (o34.map (c_int .i64)).length 0 (o34.map (c_int .i64)).length) rfl (hd_len _ (lenEq_s h37))) ?_
    refine TL.conv (Cs.eqV (t := 32) (v' := .hd 0 (o34.map (c_int .i64)).length 0 (o34.map (c_int .i64)).length) rfl (hd_len _ (lenEq_s h37))) ?_
    refine au 5 ?_
    exact Pk.of (thn_normal ⟨(o34, (IntKind.i64.wrap (v7 + 1))), (some_i H).symm, rfl, rfl⟩)
   ·refine T.exit ?_
    refine thn_exit ?_
    exact Pk.of (thn_exit ⟨l6, (some_i H).symm, rfl, rfl, rfl⟩)
  ·rintro _ _ _ ⟨rfl, rfl, rfl⟩
   refine inB_here ?_
   refine au 6 ?_
   obtain ⟨l11, h30, H⟩ := bind_s H
   refine T.lq (fun s => match s with | (l9, v10) => [(3, .hd 0 (l9.map (c_int .i64)).length 0 (l9.map (c_int .i64)).length), (8, .int .i64 v10)]) (fun s => match s with | (l9, v10) => [.arr .clo 1 (l9.map (c_int .i64))]) (fun q ex fr σ => match q with | l11 => ex = .exit 4 ∧ fr = [(3, .hd 0 (l11.map (c_int .i64)).length 0 (l11.map (c_int .i64)).length)] ∧ σ = [.arr .clo 1 (l11.map (c_int .i64))]) h30 ?_ ?_
   ·rintro ⟨l9, v10⟩ y24 H
    refine au 6 ?_
    refine T.cH H (fun H h => ?_) (fun H h => ?_)
    ·refine au 5 ?_
     obtain ⟨o25, h26, H⟩ := bind_s H
     obtain ⟨u27, h28, H⟩ := bind_s H
     refine TL.st rfl rfl rfl (o_callS [0] rfl en_70 rfl rfl (spec_l2Mixx_p  h26) rfl (by decide) (.cons _ _ _ _ rfl .nil) rfl rfl rfl) ?_
     refine TL.conv (Cs.eqV (t := 3) (v' := .hd 0 (o25.map (c_int .i64)).length 0 (o25.map (c_int .i64)).length) rfl (hd_len _ (lenEq_s h28))) ?_
     refine TL.conv (Cs.eqV (t := 41) (v' := .hd 0 (o25.map (c_int .i64)).length 0 (o25.map (c_int .i64)).length) rfl (hd_len _ (lenEq_s h28))) ?_
     refine au 6 ?_
     exact Pk.of (thn_normal ⟨(o25, (IntKind.i64.wrap (v10 + 1))), (some_i H).symm, rfl, rfl⟩)
    ·refine T.exit ?_
     refine thn_exit ?_
     exact Pk.of (thn_exit ⟨l9, (some_i H).symm, rfl, rfl, rfl⟩)
   ·rintro _ _ _ ⟨rfl, rfl, rfl⟩
    refine inB_here ?_
    refine au 8 ?_
    refine TL.st rfl rfl rfl (o_lenOwn (f := c_int .i64) rfl rfl rfl rfl rfl) ?_
    refine au 3 ?_
    refine T.conv (Cs.own (t := 9) 1 rfl (by decide)) ?_
    obtain ⟨l14, h23, H⟩ := bind_s H
    refine T.lq (fun s => match s with | (l12, v13) => [(9, .hd 1 (l12.map (c_int .u8)).length 0 (l12.map (c_int .u8)).length), (43, .hd 0 (l11.map (c_int .i64)).length 0 (l11.map (c_int .i64)).length), (44, .int .i64 (l11.length : Int)), (45, .int .i64 v13)]) (fun s => match s with | (l12, v13) => [.arr .clo 1 (l11.map (c_int .i64)), .arr .clo 1 (l12.map (c_int .u8))]) (fun q ex fr σ => match q with | l14 => ex = .exit 6 ∧ fr = [(9, .hd 1 (l14.map (c_int .u8)).length 0 (l14.map (c_int .u8)).length)] ∧ σ = [.arr .clo 1 (l11.map (c_int .i64)), .arr .clo 1 (l14.map (c_int .u8))]) h23 ?_ ?_
    ·rintro ⟨l12, v13⟩ y15 H
     refine au 5 ?_
     refine T.cH H (fun H h => ?_) (fun H h => ?_)
     ·refine au 5 ?_
      obtain ⟨e16, h17, H⟩ := bind_s H
      refine TL.st rfl rfl rfl (o_ixh (f := c_int .i64) rfl rfl tyS_3 rfl rfl rfl rfl h17 rfl) ?_
      refine TL.st rfl rfl rfl (o_loadEl rfl tyS_3 rfl rfl rfl (by rw [List.getElem?_map, (idx_s h17).2]; rfl) (nb rfl) rfl) ?_
      refine au 5 ?_
      obtain ⟨r18, h19, H⟩ := bind_s H
      refine TL.st rfl rfl rfl (o_callP rfl en_71 rfl rfl (.cons _ _ _ _ (.cl _ rfl) .nil) (spec_l2Bytes_p  h19)) ?_
      obtain ⟨l20, h21, H⟩ := bind_s H
      refine TL.st rfl rfl rfl (o_ap (f := c_int .u8) (xs := l12) (ys := r18) rfl rfl tyE_5 rfl rfl rfl rfl (by decide) rfl (fun _ => rfl) h21) ?_
      refine au 6 ?_
      exact Pk.of (thn_normal ⟨(l20, (IntKind.i64.wrap (v13 + 1))), (some_i H).symm, rfl, rfl⟩)
     ·refine T.exit ?_
      refine thn_exit ?_
      exact Pk.of (thn_exit ⟨l12, (some_i H).symm, rfl, rfl, rfl⟩)
    ·rintro _ _ _ ⟨rfl, rfl, rfl⟩
     refine inB_here ?_
     refine au 6 ?_
     cases some_i H
     exact ⟨trivial, _, (.tmp _ _ _ _ rfl .nil), (.own rfl (by decide) rfl)⟩
theorem en_65 : En Tryd.prog 65 := .of Tryd.func65 rfl rfl
noncomputable def spec_l2Two (a0 : (List Int)) (a1 : (List Int)) : Option (List Int) :=
  (app ([] : List Int) a0).bind fun l1 => (app l1 a1).bind fun l3 => (spec_l2Digest l3).bind fun r5 => some r5
theorem spec_l2Two_p (b0 : Bool) (b1 : Bool) {a0 : (List Int)} {a1 : (List Int)} {R0 : (List Int)} (H : spec_l2Two a0 a1 = some R0) : Pure Tryd.prog 64 [.im b0 (a0.map (c_int .u8)), .im b1 (a1.map (c_int .u8))] (.im false (R0.map (c_int .u8))) := by
 refine CallT.of_TN (n := 12) Tryd.func64 rfl rfl rfl rfl ?_
 refine au 12 ?_
 refine TL.conv (Cs.own (t := 6) 1 rfl (by decide)) ?_
 obtain ⟨l1, h2, H⟩ := bind_s H
 refine TL.st rfl rfl rfl (o_ap (f := c_int .u8) (xs := ([] : List Int)) (ys := a0) rfl rfl tyE_5 rfl rfl rfl rfl (by decide) rfl (fun _ => rfl) h2) ?_
 refine TL.st rfl rfl rfl (o_move rfl rfl) ?_
 obtain ⟨l3, h4, H⟩ := bind_s H
 refine TL.st rfl rfl rfl (o_ap (f := c_int .u8) (xs := l1) (ys := a1) rfl rfl tyE_5 rfl rfl rfl rfl (by decide) rfl (fun _ => rfl) h4) ?_
 obtain ⟨r5, h6, H⟩ := bind_s H
 refine TL.st rfl rfl rfl (o_callP rfl en_65 rfl rfl (.cons _ _ _ _ (.own rfl (by decide) rfl) .nil) (spec_l2Digest_p true h6)) ?_
 refine au 3 ?_
 cases some_i H
 exact ⟨trivial, _, (.tmp _ _ _ _ rfl .nil), (.cl _ rfl)⟩
theorem en_64 : En Tryd.prog 64 := .of Tryd.func64 rfl rfl
noncomputable def spec_l2Mac (a0 : (List Int)) (a1 : (List Int)) : Option (List Int) :=
  (spec_l2Digest a0).bind fun r1 => (spec_l2Digest a1).bind fun r3 => (spec_l2Two r1 r3).bind fun r5 => some r5
theorem spec_l2Mac_p (b0 : Bool) (b1 : Bool) {a0 : (List Int)} {a1 : (List Int)} {R0 : (List Int)} (H : spec_l2Mac a0 a1 = some R0) : Pure Tryd.prog 57 [.im b0 (a0.map (c_int .u8)), .im b1 (a1.map (c_int .u8))] (.im false (R0.map (c_int .u8))) := by
 refine CallT.of_TN (n := 10) Tryd.func57 rfl rfl rfl rfl ?_
 refine au 7 ?_
 obtain ⟨r1, h2, H⟩ := bind_s H
 refine TL.st rfl rfl rfl (o_callP rfl en_65 rfl rfl (.cons _ _ _ _ (.imv _ _) .nil) (spec_l2Digest_p b0 h2)) ?_
 refine TL.st rfl rfl rfl (o_move rfl rfl) ?_
 obtain ⟨r3, h4, H⟩ := bind_s H
 refine TL.st rfl rfl rfl (o_callP rfl en_65 rfl rfl (.cons _ _ _ _ (.imv _ _) .nil) (spec_l2Digest_p b1 h4)) ?_
 obtain ⟨r5, h6, H⟩ := bind_s H
 refine TL.st rfl rfl rfl (o_callP rfl en_64 rfl rfl (.cons _ _ _ _ (.cl _ rfl) (.cons _ _ _ _ (.cl _ rfl) .nil)) (spec_l2Two_p false false h6)) ?_
 refine au 3 ?_
 cases some_i H
 exact ⟨trivial, _, (.tmp _ _ _ _ rfl .nil), (.cl _ rfl)⟩
theorem en_57 : En Tryd.prog 57 := .of Tryd.func57 rfl rfl
noncomputable def spec_l2Letters  : Option ByteArray :=
  some (ByteArray.mk #[48, 49, 50, 51, 52, 53, 54, 55, 56, 57, 97, 98, 99, 100, 101, 102, 103, 104, 105, 106, 107, 108, 109, 110, 111, 112, 113, 114, 115, 116, 117, 118])
theorem spec_l2Letters_p   {R0 : ByteArray} (H : spec_l2Letters = some R0) : Pure Tryd.prog 63 [] (.str R0) := by
 refine CallT.of_TN (n := 1) Tryd.func63 rfl rfl rfl rfl ?_
 refine au 9 ?_
 cases some_i H
 exact ⟨trivial, _, (.tmp _ _ _ _ rfl .nil), (.cl _ rfl)⟩
theorem en_63 : En Tryd.prog 63 := .of Tryd.func63 rfl rfl
noncomputable def spec_l2Armor_j1 (v6 : Int) (v15 : Int) : Option ((Int × Int) ⊕ Int) :=
  some (.inl (v15, (IntKind.i64.wrap (v6 + 1))))
noncomputable def spec_l2Armor_l2 (a0 : (List Int)) (v2 : Int) : (Int × Int) → Option ((Int × Int) ⊕ Int) := fun s => match s with
  | (v5, v6) => cond (decide (v6 < (IntKind.i64.wrap (v2 + 5)))) (cond (decide (v6 < (IntKind.i64.wrap ((a0.length : Int) * 8)))) ((idx a0 (IntKind.i64.wrap (Int.tdiv v6 8))).bind fun e16 => (nn (IntKind.u64.wrap (IntKind.i64.wrap (7 - (Int.tmod v6 8))))).bind fun u18 => spec_l2Armor_j1 v6 (IntKind.i64.wrap ((IntKind.i64.wrap (v5 * 2)) + (IntKind.i64.wrap (BitVec.ofInt IntKind.i64.bits (Int.fdiv (IntKind.i64.wrap e16) (2 ^ (min (Int.toNat (IntKind.u64.wrap (IntKind.i64.wrap (7 - (Int.tmod v6 8))))) IntKind.i64.bits))) &&& BitVec.ofInt IntKind.i64.bits 1).toNat)))) (spec_l2Armor_j1 v6 (IntKind.i64.wrap (v5 * 2)))) (some (.inr v5))
noncomputable def spec_l2Armor_l1 (a0 : (List Int)) : (List Int × Int) → Option ((List Int × Int) ⊕ List Int) := fun s => match s with
  | (l1, v2) => cond (decide (v2 < (IntKind.i64.wrap ((a0.length : Int) * 8)))) ((loopO (spec_l2Armor_l2 a0 v2) (0, v2)).bind fun v7 => (match v7 with | v7 => (spec_l2Letters).bind fun r8 => (idxS r8 v7).bind fun b10 => (app l1 ([b10] : List Int)).bind fun l12 => some (.inl (l12, (IntKind.i64.wrap (v2 + 5)))))) (some (.inr l1))
noncomputable def spec_l2Armor (a0 : (List Int)) : Option ByteArray :=
  (loopO (spec_l2Armor_l1 a0) (([] : List Int), 0)).bind fun l3 => (match l3 with | l3 => some (byS l3))
theorem spec_l2Armor_p (b0 : Bool) {a0 : (List Int)} {R0 : ByteArray} (H : spec_l2Armor a0 = some R0) : Pure Tryd.prog 56 [.im b0 (a0.map (c_int .u8))] (.str R0) := by
 refine CallT.of_TN (n := 50) Tryd.func56 rfl rfl rfl rfl ?_
 refine au 14 ?_
 refine T.conv (Cs.own (t := 3) 1 rfl (by decide)) ?_
 obtain ⟨l3, h23, H⟩ := bind_s H
 refine T.lq (fun s => match s with | (l1, v2) => [(0, .im b0 (a0.map (c_int .u8))), (3, .hd 0 (l1.map (c_int .u8)).length 0 (l1.map (c_int .u8)).length), (4, .int .i64 v2)]) (fun s => match s with | (l1, v2) => [.arr .clo 1 (l1.map (c_int .u8))]) (fun q ex fr σ => match q with | l3 => ex = .exit 0 ∧ fr = [(3, .hd 0 (l3.map (c_int .u8)).length 0 (l3.map (c_int .u8)).length)] ∧ σ = [.arr .clo 1 (l3.map (c_int .u8))]) h23 ?_ ?_
 ·rintro ⟨l1, v2⟩ y4 H
  refine au 5 ?_
  refine TL.st rfl rfl rfl (o_lenL (f := c_int .u8) rfl rfl rfl) ?_
  refine au 3 ?_
  refine T.cH H (fun H h => ?_) (fun H h => ?_)
  ·refine au 14 ?_
   obtain ⟨v7, h21, H⟩ := bind_s H
   refine T.lq (fun s => match s with | (v5, v6) => [(0, .im b0 (a0.map (c_int .u8))), (3, .hd 0 (l1.map (c_int .u8)).length 0 (l1.map (c_int .u8)).length), (4, .int .i64 v2), (5, .int .i64 v5), (6, .int .i64 v6)]) (fun s => match s with | (v5, v6) => [.arr .clo 1 (l1.map (c_int .u8))]) (fun q ex fr σ => match q with | v7 => ex = .exit 2 ∧ fr = [(0, .im b0 (a0.map (c_int .u8))), (3, .hd 0 (l1.map (c_int .u8)).length 0 (l1.map (c_int .u8)).length), (4, .int .i64 v2), (5, .int .i64 v7)] ∧ σ = [.arr .clo 1 (l1.map (c_int .u8))]) h21 ?_ ?_
   ·rintro ⟨v5, v6⟩ y14 H
    refine au 8 ?_
    refine T.cH H (fun H h => ?_) (fun H h => ?_)
    ·refine T.skip ?_
     refine T.cut (fun fr' σ' => ∃ (v15 : Int), fr' = [(0, .im b0 (a0.map (c_int .u8))), (3, .hd 0 (l1.map (c_int .u8)).length 0 (l1.map (c_int .u8)).length), (4, .int .i64 v2), (5, .int .i64 v15), (6, .int .i64 v6)] ∧ σ' = [.arr .clo 1 (l1.map (c_int .u8))] ∧ spec_l2Armor_j1 v6 v15 = some y14) (T.pk ?_) ?_
     ·skip
      refine au 11 ?_
      refine TL.st rfl rfl rfl (o_lenL (f := c_int .u8) rfl rfl rfl) ?_
      refine au 3 ?_
      refine T.cH H (fun H h => ?_) (fun H h => ?_)
      ·refine au 4 ?_
       refine TL.st rfl rfl rfl (o_quo rfl rfl rfl (by decide)) ?_
       obtain ⟨e16, h17, H⟩ := bind_s H
       refine TL.st rfl rfl rfl (o_ix (f := c_int .u8) rfl rfl tyS_5 rfl rfl h17 rfl) ?_
       refine TL.st rfl rfl rfl (o_loadRf rfl tyS_5 rfl (nb rfl) rfl) ?_
       refine TL.st rfl rfl rfl (o_conv rfl rfl ⟨_, rfl⟩ rfl) ?_
       refine TL.st rfl rfl rfl (o_move rfl rfl) ?_
       refine TL.st rfl rfl rfl (o_rem rfl rfl rfl (by decide)) ?_
       refine TL.st rfl rfl rfl (o_ari rfl rfl rfl rfl) ?_
       refine TL.st rfl rfl rfl (o_conv rfl rfl ⟨_, rfl⟩ rfl) ?_
       obtain ⟨u18, h19, H⟩ := bind_s H
       refine TL.st rfl rfl rfl (o_shr rfl rfl rfl (nn_s h19)) ?_
       refine TL.st rfl rfl rfl (o_bits rfl rfl rfl rfl) ?_
       refine au 3 ?_
       refine inB_normal ?_
       exact Pk.of (thn_normal ⟨(IntKind.i64.wrap ((IntKind.i64.wrap (v5 * 2)) + (IntKind.i64.wrap (BitVec.ofInt IntKind.i64.bits (Int.fdiv (IntKind.i64.wrap e16) (2 ^ (min (Int.toNat (IntKind.u64.wrap (IntKind.i64.wrap (7 - (Int.tmod v6 8))))) IntKind.i64.bits))) &&& BitVec.ofInt IntKind.i64.bits 1).toNat))), rfl, rfl, H⟩)
      ·refine T.skip ?_
       refine inB_normal ?_
       exact Pk.of (thn_normal ⟨(IntKind.i64.wrap (v5 * 2)), rfl, rfl, H⟩)
     ·rintro _ _ ⟨v15, rfl, rfl, H⟩
      refine au 5 ?_
      exact Pk.of (thn_normal ⟨(v15, (IntKind.i64.wrap (v6 + 1))), (some_i H).symm, rfl, rfl⟩)
    ·refine T.exit ?_
     refine thn_exit ?_
     exact Pk.of (thn_exit ⟨v5, (some_i H).symm, rfl, rfl, rfl⟩)
   ·rintro _ _ _ ⟨rfl, rfl, rfl⟩
    refine inB_here ?_
    refine au 2 ?_
    obtain ⟨r8, h9, H⟩ := bind_s H
    refine TL.st rfl rfl rfl (o_callP rfl en_63 rfl rfl .nil (spec_l2Letters_p  h9)) ?_
    refine TL.st rfl rfl rfl (o_move rfl rfl) ?_
    obtain ⟨b10, h11, H⟩ := bind_s H
    refine TL.st rfl rfl rfl (o_ixs rfl rfl rfl rfl h11) ?_
    refine TL.st rfl rfl rfl (o_sliceIm (rows := ([b10] : List Int).map (c_int .u8)) rfl rfl tyS_5 ⟨_, rfl, rfl⟩ (by decide) rfl rfl rfl rfl rfl rfl) ?_
    obtain ⟨l12, h13, H⟩ := bind_s H
    refine TL.st rfl rfl rfl (o_ap (f := c_int .u8) (xs := l1) (ys := ([b10] : List Int)) rfl rfl tyE_5 rfl rfl rfl rfl (by decide) rfl (fun _ => rfl) h13) ?_
    refine au 7 ?_
    exact Pk.of (thn_normal ⟨(l12, (IntKind.i64.wrap (v2 + 5))), (some_i H).symm, rfl, rfl⟩)
  ·refine T.exit ?_
   refine thn_exit ?_
   exact Pk.of (thn_exit ⟨l1, (some_i H).symm, rfl, rfl, rfl⟩)
 ·rintro _ _ _ ⟨rfl, rfl, rfl⟩
  refine inB_here ?_
  refine au 3 ?_
  refine TL.st rfl rfl rfl (o_bsOwn (f := c_int .u8) rfl rfl rfl rfl (fun _ => rfl) rfl rfl rfl) ?_
  refine au 3 ?_
  cases some_i H
  exact ⟨trivial, _, (.tmp _ _ _ _ rfl .nil), (.cl _ rfl)⟩
theorem en_56 : En Tryd.prog 56 := .of Tryd.func56 rfl rfl
noncomputable def spec_l18Handle (a0 : (List Int)) (a1 : ByteArray) (a2 : Int) : Option ByteArray :=
  (spec_l1Num a2).bind fun r1 => (cat a1 r1).bind fun s3 => (cat s3 (ByteArray.mk #[45])).bind fun s5 => (spec_l2Mac a0 (bys s3)).bind fun r7 => (sub r7 0 10).bind fun l9 => (spec_l2Armor l9).bind fun r11 => (cat s5 r11).bind fun s13 => some s13
theorem spec_l18Handle_p (b0 : Bool) {a0 : (List Int)} {a1 : ByteArray} {a2 : Int} {R0 : ByteArray} (H : spec_l18Handle a0 a1 a2 = some R0) : Pure Tryd.prog 48 [.im b0 (a0.map (c_int .u8)), .str a1, .int .i64 a2] (.str R0) := by
 refine CallT.of_TN (n := 21) Tryd.func48 rfl rfl rfl rfl ?_
 refine au 8 ?_
 obtain ⟨r1, h2, H⟩ := bind_s H
 refine TL.st rfl rfl rfl (o_callP rfl en_55 rfl rfl (.cons _ _ _ _ (.cl _ rfl) .nil) (spec_l1Num_p  h2)) ?_
 obtain ⟨s3, h4, H⟩ := bind_s H
 refine TL.st rfl rfl rfl (o_ct rfl rfl rfl h4) ?_
 refine au 5 ?_
 obtain ⟨s5, h6, H⟩ := bind_s H
 refine TL.st rfl rfl rfl (o_ct rfl rfl rfl h6) ?_
 refine au 2 ?_
 refine TL.st rfl rfl rfl (o_sb (f := c_int .u8) rfl rfl rfl rfl (fun _ => rfl) rfl) ?_
 obtain ⟨r7, h8, H⟩ := bind_s H
 refine TL.st rfl rfl rfl (o_callP rfl en_57 rfl rfl (.cons _ _ _ _ (.imv _ _) (.cons _ _ _ _ (.cl _ rfl) .nil)) (spec_l2Mac_p b0 false h8)) ?_
 obtain ⟨l9, h10, H⟩ := bind_s H
 refine TL.st rfl rfl rfl (o_subL (f := c_int .u8) (xs := r7) rfl rfl tyS_5 rfl rfl rfl (fun _ => rfl) h10) ?_
 obtain ⟨r11, h12, H⟩ := bind_s H
 refine TL.st rfl rfl rfl (o_callP rfl en_56 rfl rfl (.cons _ _ _ _ (.cl _ rfl) .nil) (spec_l2Armor_p false h12)) ?_
 obtain ⟨s13, h14, H⟩ := bind_s H
 refine TL.st rfl rfl rfl (o_ct rfl rfl rfl h14) ?_
 refine au 3 ?_
 cases some_i H
 exact ⟨trivial, _, (.tmp _ _ _ _ rfl .nil), (.cl _ rfl)⟩
theorem en_48 : En Tryd.prog 48 := .of Tryd.func48 rfl rfl
noncomputable def spec_l19S_id (s0 : T_spec_l19S) (s2 : List (Option (List ByteArray))) : Option (ByteArray × T_spec_l19S) :=
  (spec_l18Handle s0.c_.Key_ (ByteArray.mk #[115, 101, 115, 115]) (IntKind.i64.wrap (s0.given_ + 1))).bind fun r1 => some (r1, ({ s0 with given_ := (IntKind.i64.wrap (s0.given_ + 1)) } : T_spec_l19S))
theorem spec_l19S_id_p (c0 : Bool) {s0 : T_spec_l19S} {s2 : List (Option (List ByteArray))} {R0 : ByteArray} {U0 : T_spec_l19S} (H : spec_l19S_id s0 s2 = some (R0, U0)) : St Tryd.prog 38 [.bx 0 0] [.box (k_spec_l19S 1 2 c0 s0), .arr .raw 7 (s0.list_.map (c_T_spec_l19X 2 false)), .afm 1 (s2.map (c_ax (c_str)))] (.str R0) [.box (k_spec_l19S 1 2 c0 (⟨U0.c_, U0.now_, U0.given_, U0.list_⟩ : T_spec_l19S)), .arr .raw 7 (U0.list_.map (c_T_spec_l19X 2 false)), .afm 1 (s2.map (c_ax (c_str)))] := by
 refine CallT.fin (CallT.of_TN (n := 20) Tryd.func38 rfl rfl rfl rfl ?_) rfl rfl ⟨(bels_iff.1 rfl), ⟨(belRaw fun _ => rfl), ⟨trivial, trivial⟩⟩⟩
 refine au 16 ?_
 refine T.drawn rfl ?_
 refine ad 9 ?_
 obtain ⟨r1, h2, H⟩ := bind_s H
 refine TD.qs rfl rfl (fun _ => o_callP rfl en_48 rfl rfl (.cons _ _ _ _ (.imv _ _) (.cons _ _ _ _ (.cl _ rfl) (.cons _ _ _ _ (.cl _ rfl) .nil))) (spec_l18Handle_p c0 h2)) ?_
 refine TD.qs rfl rfl (fun _ => o_assign rfl rfl) ?_
 refine TD.nil ⟨rfl, ?_⟩
 refine T.ret ?_
 cases some_i H
 exact ⟨trivial, _, (.tmp _ _ _ _ rfl .nil), ⟨rfl, _, rfl⟩⟩
theorem en_38 : En Tryd.prog 38 := .of Tryd.func38 rfl rfl
theorem tyS_54 : TyS Tryd.prog 54 true 7 := ⟨rfl, rfl⟩
theorem tyS_49 : TyS Tryd.prog 49 false 1 := ⟨rfl, rfl⟩
theorem tyE_54 : TyE Tryd.prog 54 7 := ⟨_, _, rfl, rfl, rfl, rfl, by decide, by decide⟩
theorem tyS_52 : TyS Tryd.prog 52 false 1 := ⟨rfl, rfl⟩
noncomputable def spec_l19Told (a0 : T_spec_l19X) (s0 : List (Option (List ByteArray))) : Option T_impl_SessReply :=
  (axg s0 a0.ids_).bind fun x1 => (idx x1 (IntKind.i64.wrap ((x1.length : Int) - 1))).bind fun e3 => some (⟨0, e3, a0.user_, a0.level_⟩ : T_impl_SessReply)
theorem spec_l19Told_p  {a0 : T_spec_l19X} {s0 : List (Option (List ByteArray))} {R0 : T_impl_SessReply} (H : spec_l19Told a0 s0 = some R0) : St Tryd.prog 22 [.agg (c_T_spec_l19X 0 false a0)] [.afm 1 (s0.map (c_ax (c_str)))] (.agg (c_T_impl_SessReply false R0)) [.afm 1 (s0.map (c_ax (c_str)))] := by
 refine CallT.fin (CallT.of_TN (n := 16) Tryd.func22 rfl rfl rfl rfl ?_) rfl rfl ⟨trivial, trivial⟩
 refine au 6 ?_
 refine T.drawn rfl ?_
 refine ad 4 ?_
 obtain ⟨x1, h2, H⟩ := bind_s H
 refine TD.rs rfl rfl (o_lenX (f := c_str) (L := s0) (xs := x1) rfl rfl rfl rfl h2) ?_
 refine TD.qs rfl rfl (fun _ => o_ari rfl rfl rfl rfl) ?_
 obtain ⟨e3, h4, H⟩ := bind_s H
 refine TD.rs rfl rfl (o_ixX (f := c_str) (L := s0) (xs := x1) rfl rfl tyS_9 rfl rfl rfl h2 h4) ?_
 refine TD.rs rfl rfl (o_loadX (f := c_str) (L := s0) (xs := x1) (a0 := e3) rfl tyS_9 rfl rfl h2 h4 (nb rfl) rfl) ?_
 refine ad 4 ?_
 refine TD.qs rfl rfl (fun _ => o_build rfl ⟨_, fun _ => rfl, rfl⟩ rfl rfl rfl) ?_
 refine TD.an rfl rfl (o_storeBx rfl tyS_57 rfl rfl rfl rfl (nb rfl) rfl) ?_
 refine TD.nil ⟨rfl, ?_⟩
 refine thn_normal ?_
 refine T.conv (Cs.eqS (σ' := [_, .box (c_T_spec_l19X 0 false a0), .box [.int .i64 0, .str e3, .str a0.user_, .int .i64 a0.level_]]) rfl) ?_
 refine T.ret ?_
 cases some_i H
 exact ⟨trivial, _, (.cell _ _ _ _ _ _ _ _ _ _ rfl rfl tyS_57 (nb rfl) rfl .nil), ⟨rfl, _, rfl⟩⟩
theorem en_22 : En Tryd.prog 22 := .of Tryd.func22 rfl rfl
theorem tyS_4 : TyS Tryd.prog 4 false 1 := ⟨rfl, rfl⟩
noncomputable def spec_l3Has_l1 (a0 : (List ByteArray)) (a1 : ByteArray) : Int → Option (Int ⊕ (Unit ⊕ Bool)) := fun s => match s with
  | v1 => cond (decide (v1 < (a0.length : Int))) ((idx a0 v1).bind fun e4 => cond (e4.toList == a1.toList) (some (.inr (.inr true))) (some (.inl (IntKind.i64.wrap (v1 + 1))))) (some (.inr (.inl ())))
noncomputable def spec_l3Has (a0 : (List ByteArray)) (a1 : ByteArray) : Option Bool :=
  (loopO (spec_l3Has_l1 a0 a1) 0).bind fun q6 => (match q6 with | .inl _ => some false | .inr q2 => some q2)
theorem spec_l3Has_p (b0 : Bool) {a0 : (List ByteArray)} {a1 : ByteArray} {R0 : Bool} (H : spec_l3Has a0 a1 = some R0) : Pure Tryd.prog 39 [.im b0 (a0.map (c_str)), .str a1] (.bool R0) := by
 refine CallT.of_TN (n := 17) Tryd.func39 rfl rfl rfl rfl ?_
 refine au 8 ?_
 refine TL.st rfl rfl rfl (o_lenL (f := c_str) rfl rfl rfl) ?_
 refine au 3 ?_
 obtain ⟨q6, h7, H⟩ := bind_s H
 refine T.lq (fun s => match s with | v1 => [(1, .str a1), (7, .im b0 (a0.map (c_str))), (8, .int .i64 (a0.length : Int)), (9, .int .i64 v1)]) (fun s => match s with | v1 => []) (fun q ex fr σ => match q with | .inl _ => ex = .exit 0 ∧ fr = [] ∧ σ = [] | .inr q2 => ex = .ret ∧ RetN Tryd.prog [.tmp 4] (fun v τ => Told τ v (.bool q2)) .ret fr σ) h7 ?_ ?_
 ·rintro v1 y3 H
  refine au 5 ?_
  refine T.cH H (fun H h => ?_) (fun H h => ?_)
  ·refine au 5 ?_
   obtain ⟨e4, h5, H⟩ := bind_s H
   refine TL.st rfl rfl rfl (o_ix (f := c_str) rfl rfl tyS_9 rfl rfl h5 rfl) ?_
   refine au 9 ?_
   refine T.cH H (fun H h => ?_) (fun H h => ?_)
   ·refine au 5 ?_
    refine inB_ret (thn_ret ?_)
    exact Pk.id (thn_ret ⟨.inr true, (some_i H).symm, rfl, ⟨trivial, _, (.tmp _ _ _ _ rfl .nil), (.cl _ rfl)⟩⟩)
   ·refine au 5 ?_
    exact Pk.of (thn_normal ⟨(IntKind.i64.wrap (v1 + 1)), (some_i H).symm, rfl, rfl⟩)
  ·refine T.exit ?_
   refine thn_exit ?_
   exact Pk.of (thn_exit ⟨.inl (), (some_i H).symm, rfl, rfl, rfl⟩)
 ·rcases q6 with ⟨⟩ | q2
  ·rintro _ _ _ ⟨rfl, rfl, rfl⟩
   refine inB_here ?_
   refine au 5 ?_
   cases some_i H
   exact ⟨trivial, _, (.tmp _ _ _ _ rfl .nil), (.cl _ rfl)⟩
  ·rintro _ fr1 σ1 ⟨rfl, hr⟩
   refine inB_ret (thn_ret ?_)
   cases some_i H
   exact hr
theorem en_39 : En Tryd.prog 39 := .of Tryd.func39 rfl rfl
noncomputable def spec_l19S_over (a0 : T_spec_l19X) (a1 : Int) (s0 : T_spec_l19S) (s2 : List (Option (List ByteArray))) : Option Bool :=
  some (decide (a1 > (IntKind.i64.wrap (a0.last_ + s0.c_.Idle_))) || decide (a1 > (IntKind.i64.wrap (a0.login_ + s0.c_.Most_))))
theorem spec_l19S_over_p (c0 : Bool) {a0 : T_spec_l19X} {a1 : Int} {s0 : T_spec_l19S} {s2 : List (Option (List ByteArray))} {R0 : Bool} (H : spec_l19S_over a0 a1 s0 s2 = some R0) : St Tryd.prog 21 [.bx 0 0, .agg (c_T_spec_l19X 2 false a0), .int .i64 a1] [.box (k_spec_l19S 1 2 c0 s0), .arr .raw 7 (s0.list_.map (c_T_spec_l19X 2 false)), .afm 1 (s2.map (c_ax (c_str)))] (.bool R0) [.box (k_spec_l19S 1 2 c0 s0), .arr .raw 7 (s0.list_.map (c_T_spec_l19X 2 false)), .afm 1 (s2.map (c_ax (c_str)))] := by
 refine CallT.fin (CallT.of_TN (n := 29) Tryd.func21 rfl rfl rfl rfl ?_) rfl rfl ⟨(bels_iff.1 rfl), ⟨(belRaw fun _ => rfl), ⟨trivial, trivial⟩⟩⟩
 refine au 6 ?_
 refine T.drawn rfl ?_
 refine ad 15 ?_
 refine TD.cq rfl rfl rfl (.bool _) rfl (fun h _ => o_nilCheck rfl (gv h rfl) rfl) ?_
 refine TD.cr rfl rfl rfl (.bool _) rfl (fun h => o_fieldAddr rfl rfl rfl tyS_30 (by decide) (gv h rfl) rfl ⟨_, rfl, Nat.le_of_ble_eq_true rfl⟩) ?_
 refine TD.cr rfl rfl rfl (.bool _) rfl (fun h => o_fieldAddr rfl rfl rfl tyS_3 (by decide) (gv h rfl) rfl ⟨_, rfl, Nat.le_of_ble_eq_true rfl⟩) ?_
 refine TD.cr rfl rfl rfl (.bool _) rfl (fun h => o_loadBx rfl tyS_3 (gv h rfl) rfl (nb rfl) rfl) ?_
 refine TD.cq rfl rfl rfl (.bool _) rfl (fun h _ => o_ari rfl (gv h rfl) (gv h rfl) rfl) ?_
 refine TD.cq rfl rfl rfl (.bool _) rfl (fun h _ => o_ari rfl (gv h rfl) (gv h rfl) rfl) ?_
 refine ad 2 ?_
 refine TD.nil ⟨rfl, ?_⟩
 refine T.ret ?_
 cases some_i H
 exact ⟨trivial, _, (.tmp _ _ _ _ rfl .nil), ⟨rfl, _, rfl⟩⟩
theorem en_21 : En Tryd.prog 21 := .of Tryd.func21 rfl rfl
noncomputable def spec_l15Lesser (a0 : Int) (a1 : Int) : Option Int :=
  cond (decide (a0 < a1)) (some a0) (some a1)
theorem spec_l15Lesser_p  {a0 : Int} {a1 : Int} {R0 : Int} (H : spec_l15Lesser a0 a1 = some R0) : Pure Tryd.prog 40 [.int .i64 a0, .int .i64 a1] (.int .i64 R0) := by
 refine CallT.of_TN (n := 10) Tryd.func40 rfl rfl rfl rfl ?_
 refine au 11 ?_
 refine T.cH H (fun H h => ?_) (fun H h => ?_)
 ·refine au 6 ?_
  refine thn_ret ?_
  cases some_i H
  exact ⟨trivial, _, (.tmp _ _ _ _ rfl .nil), (.cl _ rfl)⟩
 ·refine au 7 ?_
  cases some_i H
  exact ⟨trivial, _, (.tmp _ _ _ _ rfl .nil), (.cl _ rfl)⟩
theorem en_40 : En Tryd.prog 40 := .of Tryd.func40 rfl rfl
theorem tyE_9 : TyE Tryd.prog 9 1 := ⟨_, _, rfl, rfl, rfl, rfl, by decide, by decide⟩
noncomputable def spec_l19S_do_l1 (a0 : T_impl_SessEvent) (s0 : T_spec_l19S) : (T_spec_l19S × Int) → Option ((T_spec_l19S × Int) ⊕ T_spec_l19S) := fun s => match s with
  | (b16, v17) => cond (decide (v17 < (s0.list_.length : Int))) ((idx b16.list_ v17).bind fun e20 => cond (e20.user_.toList == a0.User_.toList) ((idx b16.list_ v17).bind fun e22 => some (.inl (({ b16 with list_ := (b16.list_.set (Int.toNat v17) ({ e22 with dead_ := true } : T_spec_l19X)) } : T_spec_l19S), (IntKind.i64.wrap (v17 + 1))))) (some (.inl (b16, (IntKind.i64.wrap (v17 + 1)))))) (some (.inr b16))
noncomputable def spec_l19S_do_j1 (v28 : Int) (b45 : T_spec_l19S) (f46 : List (Option (List ByteArray))) : Option (T_impl_SessReply × T_spec_l19S × List (Option (List ByteArray))) :=
  (idx b45.list_ v28).bind fun e47 => (spec_l19Told e47 f46).bind fun r49 => some (r49, b45, f46)
noncomputable def spec_l19S_do_l2 (a0 : T_impl_SessEvent) (s0 : T_spec_l19S) (s2 : List (Option (List ByteArray))) : (Int × Int) → Option ((Int × Int) ⊕ Int) := fun s => match s with
  | (v26, v27) => cond (decide (v27 < (s0.list_.length : Int))) ((idx s0.list_ v27).bind fun e61 => (axg s2 e61.ids_).bind fun x63 => (spec_l3Has x63 a0.Id_).bind fun r65 => cond r65 (some (.inl (v27, (IntKind.i64.wrap (v27 + 1))))) (some (.inl (v26, (IntKind.i64.wrap (v27 + 1)))))) (some (.inr v26))
noncomputable def spec_l19S_do (a0 : T_impl_SessEvent) (s0 : T_spec_l19S) (s2 : List (Option (List ByteArray))) : Option (T_impl_SessReply × T_spec_l19S × List (Option (List ByteArray))) :=
  (spec_l19Bad a0).bind fun r1 => cond r1 ((spec_l19Err 1).bind fun r3 => some (r3, s0, s2)) (cond (decide (a0.Time_ < s0.now_)) ((spec_l19Err 2).bind fun r5 => some (r5, s0, s2)) (cond (a0.Kind_ == 1) ((spec_l19S_id ({ s0 with now_ := a0.Time_ } : T_spec_l19S) s2).bind fun q => (match q with | (r7, o8) => (eqX o8.now_ a0.Time_).bind fun u10 => (app o8.list_ ([(⟨(s2.length : Int), a0.User_, a0.Device_, 1, a0.Time_, a0.Time_, false⟩ : T_spec_l19X)] : List T_spec_l19X)).bind fun l12 => (spec_l19Told (⟨(s2.length : Int), a0.User_, a0.Device_, 1, a0.Time_, a0.Time_, false⟩ : T_spec_l19X) (s2 ++ [some ([r7] : List ByteArray)])).bind fun r14 => some (r14, (⟨o8.c_, a0.Time_, o8.given_, l12⟩ : T_spec_l19S), (s2 ++ [some ([r7] : List ByteArray)])))) (cond (a0.Kind_ == 5) ((loopO (spec_l19S_do_l1 a0 s0) (({ s0 with now_ := a0.Time_ } : T_spec_l19S), 0)).bind fun b18 => (match b18 with | b18 => some ((⟨0, e0, a0.User_, 0⟩ : T_impl_SessReply), b18, s2))) ((loopO (spec_l19S_do_l2 a0 s0 s2) ((-1), 0)).bind fun v28 => (match v28 with | v28 => cond (decide (v28 < 0)) ((spec_l19Err 3).bind fun r29 => some (r29, ({ s0 with now_ := a0.Time_ } : T_spec_l19S), s2)) ((idx s0.list_ v28).bind fun e31 => (axg s2 e31.ids_).bind fun x33 => (idx x33 (IntKind.i64.wrap ((x33.length : Int) - 1))).bind fun e35 => cond ((!(e35.toList == a0.Id_.toList)) || (!(e31.device_.toList == a0.Device_.toList))) ((spec_l19Err 4).bind fun r37 => some (r37, (⟨s0.c_, a0.Time_, s0.given_, (s0.list_.set (Int.toNat v28) ({ e31 with dead_ := true } : T_spec_l19X))⟩ : T_spec_l19S), s2)) (cond e31.dead_ ((spec_l19Err 5).bind fun r39 => some (r39, ({ s0 with now_ := a0.Time_ } : T_spec_l19S), s2)) ((spec_l19S_over e31 a0.Time_ ({ s0 with now_ := a0.Time_ } : T_spec_l19S) s2).bind fun r41 => cond r41 ((spec_l19Err 6).bind fun r43 => some (r43, ({ s0 with now_ := a0.Time_ } : T_spec_l19S), s2)) (cond (a0.Kind_ == 3) ((spec_l15Lesser (IntKind.i64.wrap (e31.level_ + 1)) 9).bind fun r51 => (spec_l19S_id (⟨s0.c_, a0.Time_, s0.given_, ((s0.list_.set (Int.toNat v28) ({ e31 with last_ := a0.Time_ } : T_spec_l19X)).set (Int.toNat v28) ({ e31 with level_ := r51, last_ := a0.Time_ } : T_spec_l19X))⟩ : T_spec_l19S) s2).bind fun q => (match q with | (r53, o54) => (eqL o54.list_ ((s0.list_.set (Int.toNat v28) ({ e31 with last_ := a0.Time_ } : T_spec_l19X)).set (Int.toNat v28) ({ e31 with level_ := r51, last_ := a0.Time_ } : T_spec_l19X))).bind fun u56 => (app x33 ([r53] : List ByteArray)).bind fun l58 => spec_l19S_do_j1 v28 ({ o54 with list_ := (((s0.list_.set (Int.toNat v28) ({ e31 with last_ := a0.Time_ } : T_spec_l19X)).set (Int.toNat v28) ({ e31 with level_ := r51, last_ := a0.Time_ } : T_spec_l19X)).set (Int.toNat v28) ({ e31 with ids_ := ((s2.set (Int.toNat e31.ids_) none).length : Int), level_ := r51, last_ := a0.Time_ } : T_spec_l19X)) } : T_spec_l19S) ((s2.set (Int.toNat e31.ids_) none) ++ [some l58]))) (cond (a0.Kind_ == 4) (spec_l19S_do_j1 v28 (⟨s0.c_, a0.Time_, s0.given_, ((s0.list_.set (Int.toNat v28) ({ e31 with last_ := a0.Time_ } : T_spec_l19X)).set (Int.toNat v28) ({ e31 with last_ := a0.Time_, dead_ := true } : T_spec_l19X))⟩ : T_spec_l19S) s2) (spec_l19S_do_j1 v28 (⟨s0.c_, a0.Time_, s0.given_, (s0.list_.set (Int.toNat v28) ({ e31 with last_ := a0.Time_ } : T_spec_l19X))⟩ : T_spec_l19S) s2)))))))))))
theorem spec_l19S_do_p (c0 : Bool) {a0 : T_impl_SessEvent} {s0 : T_spec_l19S} {s2 : List (Option (List ByteArray))} {R0 : T_impl_SessReply} {U0 : T_spec_l19S} {U2 : List (Option (List ByteArray))} (H : spec_l19S_do a0 s0 s2 = some (R0, U0, U2)) : St Tryd.prog 33 [.bx 0 0, .agg (c_T_impl_SessEvent false a0)] [.box (k_spec_l19S 1 2 c0 s0), .arr .raw 7 (s0.list_.map (c_T_spec_l19X 2 false)), .afm 1 (s2.map (c_ax (c_str)))] (.agg (c_T_impl_SessReply false R0)) [.box (k_spec_l19S 1 2 c0 (⟨U0.c_, U0.now_, U0.given_, U0.list_⟩ : T_spec_l19S)), .arr .raw 7 (U0.list_.map (c_T_spec_l19X 2 false)), .afm 1 (U2.map (c_ax (c_str)))] := by
 refine CallT.fin (CallT.of_TN (n := 200) Tryd.func33 rfl rfl rfl rfl ?_) rfl rfl ⟨(bels_iff.1 rfl), ⟨(belRaw fun _ => rfl), ⟨trivial, trivial⟩⟩⟩
 refine au 9 ?_
 obtain ⟨r1, h2, H⟩ := bind_s H
 refine TL.st rfl rfl rfl (o_callP rfl en_36 rfl rfl (.cons _ _ _ _ (.cl _ rfl) .nil) (spec_l19Bad_p  h2)) ?_
 refine TL.nil ?_
 refine T.cH H (fun H h => ?_) (fun H h => ?_)
 ·refine au 2 ?_
  obtain ⟨r3, h4, H⟩ := bind_s H
  refine TL.st rfl rfl rfl (o_callP rfl en_37 rfl rfl (.cons _ _ _ _ (.cl _ rfl) .nil) (spec_l19Err_p  h4)) ?_
  refine au 2 ?_
  refine T.conv (Cs.eqS (σ' := [_, _, _, .box (c_T_impl_SessEvent false a0), .box (c_T_impl_SessReply false r3)]) rfl) ?_
  refine T.ret ?_
  refine thn_ret ?_
  cases some_i H
  exact ⟨trivial, _, (.cell _ _ _ _ _ _ _ _ _ _ rfl rfl tyS_57 (nb rfl) rfl .nil), ⟨rfl, _, rfl⟩⟩
 ·refine au 3 ?_
  refine T.drawn rfl ?_
  refine ad 7 ?_
  refine TD.nil ⟨rfl, ?_⟩
  refine thn_normal ?_
  refine T.cH H (fun H h => ?_) (fun H h => ?_)
  ·refine au 2 ?_
   obtain ⟨r5, h6, H⟩ := bind_s H
   refine TL.st rfl rfl rfl (o_callP rfl en_37 rfl rfl (.cons _ _ _ _ (.cl _ rfl) .nil) (spec_l19Err_p  h6)) ?_
   refine au 2 ?_
   refine T.conv (Cs.eqS (σ' := [_, _, _, .box (c_T_impl_SessEvent false a0), .box (c_T_impl_SessReply false r5)]) rfl) ?_
   refine T.ret ?_
   refine thn_ret ?_
   cases some_i H
   exact ⟨trivial, _, (.cell _ _ _ _ _ _ _ _ _ _ rfl rfl tyS_57 (nb rfl) rfl .nil), ⟨rfl, _, rfl⟩⟩
  ·refine au 12 ?_
   refine T.conv (Cs.eqS (σ' := [.box (k_spec_l19S 1 2 c0 ({ s0 with now_ := a0.Time_ } : T_spec_l19S)), _, _, .box (c_T_impl_SessEvent false a0), .box [.int .i64 0, .str e0, .str e0, .int .i64 0]]) rfl) ?_
   refine au 5 ?_
   refine T.cH H (fun H h => ?_) (fun H h => ?_)
   ·refine T.seq ?_
    refine T.conv Cs.pushRes ?_
    obtain ⟨⟨r7, o8⟩, h9, H⟩ := bind_s H
    obtain ⟨u10, h11, H⟩ := bind_s H
    refine T.drawS (fr' := [(0, .bx 0 0), (1, .agg (c_T_impl_SessEvent false a0)), (3, .bx 3 0), (4, .bx 4 0), (5, .bx 5 0), (11, .agg (c_T_impl_SessEvent false a0)), (12, .bool r1), (14, .bx 3 1), (15, .int .i64 a0.Time_), (16, .bx 0 0), (17, .bx 0 0), (18, .bx 0 3), (19, .int .i64 s0.now_), (20, .bool (decide (a0.Time_ < s0.now_))), (22, .bx 0 0), (23, .bx 3 1), (24, .int .i64 a0.Time_), (25, .bx 0 0), (26, .bx 0 3), (27, .bx 3 0), (28, .int .i64 a0.Kind_), (29, .bool (a0.Kind_ == 1)), (30, .bx 0 0), (31, .str r7), (32, .px 2 0 (s2.length : Int) 0), (33, .bx 3 2), (34, .str a0.User_), (35, .bx 3 3), (36, .str a0.Device_), (37, .bx 0 0), (38, .bx 0 0), (39, .bx 0 3), (40, .int .i64 a0.Time_), (41, .bx 0 0), (42, .bx 0 0), (43, .bx 0 3), (44, .int .i64 a0.Time_), (45, .agg [.px 2 0 (s2.length : Int) 0, .str a0.User_, .str a0.Device_, .int .i64 1, .int .i64 a0.Time_, .int .i64 a0.Time_, .bool false])]) (R := [⟨some 30, .bx 0 0, .q, []⟩, ⟨some 31, .str r7, .q, []⟩, ⟨some 32, .px 2 0 (s2.length : Int) 0, .q, []⟩, ⟨some 33, .bx 3 2, .q, []⟩, ⟨some 34, .str a0.User_, .q, []⟩, ⟨some 35, .bx 3 3, .q, []⟩, ⟨some 36, .str a0.Device_, .q, []⟩, ⟨some 37, .bx 0 0, .q, []⟩, ⟨some 38, .bx 0 0, .q, []⟩, ⟨some 39, .bx 0 3, .q, []⟩, ⟨some 40, .int .i64 a0.Time_, .q, []⟩, ⟨some 41, .bx 0 0, .q, []⟩, ⟨some 42, .bx 0 0, .q, []⟩, ⟨some 43, .bx 0 3, .q, []⟩, ⟨some 44, .int .i64 a0.Time_, .q, []⟩, ⟨some 45, .agg [.px 2 0 (s2.length : Int) 0, .str a0.User_, .str a0.Device_, .int .i64 1, .int .i64 a0.Time_, .int .i64 a0.Time_, .bool false], .q, []⟩, ⟨some 5, .bx 5 0, .q, []⟩, ⟨none, .any, .q, []⟩]) (fun b => cond (b 1) (cond (b 2) (cond (b 16) (cond (b 17) ([.box (k_spec_l19S 1 2 c0 ({ o8 with now_ := a0.Time_ } : T_spec_l19S)), .arr .raw 7 (o8.list_.map (c_T_spec_l19X 2 false)), .afm 1 ((s2 ++ [some ([r7] : List ByteArray)]).map (c_ax (c_str))), .box (c_T_impl_SessEvent false a0), .box [.int .i64 0, .str e0, .str e0, .int .i64 0], .box [.px 2 0 (s2.length : Int) 0, .str a0.User_, .str a0.Device_, .int .i64 1, .int .i64 a0.Time_, .int .i64 a0.Time_, .bool false], .dead]) ([.box (k_spec_l19S 1 2 c0 ({ o8 with now_ := a0.Time_ } : T_spec_l19S)), .arr .raw 7 (o8.list_.map (c_T_spec_l19X 2 false)), .afm 1 ((s2 ++ [some ([r7] : List ByteArray)]).map (c_ax (c_str))), .box (c_T_impl_SessEvent false a0), .box [.int .i64 0, .str e0, .str e0, .int .i64 0], .box [.nilS, .str e0, .str e0, .int .i64 0, .int .i64 0, .int .i64 0, .bool false], .dead])) ([.box (k_spec_l19S 1 2 c0 ({ o8 with now_ := a0.Time_ } : T_spec_l19S)), .arr .raw 7 (o8.list_.map (c_T_spec_l19X 2 false)), .afm 1 ((s2 ++ [some ([r7] : List ByteArray)]).map (c_ax (c_str))), .box (c_T_impl_SessEvent false a0), .box [.int .i64 0, .str e0, .str e0, .int .i64 0], .res, .dead])) (cond (b 16) ([.box (k_spec_l19S 1 2 c0 ({ o8 with now_ := a0.Time_ } : T_spec_l19S)), .arr .raw 7 (o8.list_.map (c_T_spec_l19X 2 false)), .afm 1 (s2.map (c_ax (c_str))), .box (c_T_impl_SessEvent false a0), .box [.int .i64 0, .str e0, .str e0, .int .i64 0], .box [.nilS, .str e0, .str e0, .int .i64 0, .int .i64 0, .int .i64 0, .bool false]]) ([.box (k_spec_l19S 1 2 c0 ({ o8 with now_ := a0.Time_ } : T_spec_l19S)), .arr .raw 7 (o8.list_.map (c_T_spec_l19X 2 false)), .afm 1 (s2.map (c_ax (c_str))), .box (c_T_impl_SessEvent false a0), .box [.int .i64 0, .str e0, .str e0, .int .i64 0], .res]))) (cond (b 16) ([.box (k_spec_l19S 1 2 c0 ({ s0 with now_ := a0.Time_ } : T_spec_l19S)), .arr .raw 7 (s0.list_.map (c_T_spec_l19X 2 false)), .afm 1 (s2.map (c_ax (c_str))), .box (c_T_impl_SessEvent false a0), .box [.int .i64 0, .str e0, .str e0, .int .i64 0], .box [.nilS, .str e0, .str e0, .int .i64 0, .int .i64 0, .int .i64 0, .bool false]]) ([.box (k_spec_l19S 1 2 c0 ({ s0 with now_ := a0.Time_ } : T_spec_l19S)), .arr .raw 7 (s0.list_.map (c_T_spec_l19X 2 false)), .afm 1 (s2.map (c_ax (c_str))), .box (c_T_impl_SessEvent false a0), .box [.int .i64 0, .str e0, .str e0, .int .i64 0], .res]))) rfl ?_ ?_ rfl rfl (FrL.get (.cons rfl (.cons rfl (.cons rfl (.cons rfl (.cons rfl (.cons rfl (.cons rfl (.cons rfl (.cons rfl (.cons rfl (.cons rfl (.cons rfl (.cons rfl (.cons rfl (.cons rfl (.cons rfl (.cons rfl (.cons rfl (.cons rfl (.cons rfl (.cons rfl (.cons rfl (.cons rfl (.cons rfl (.cons rfl (.cons rfl (.cons rfl (.cons rfl (.cons rfl (.cons rfl (.cons rfl (.cons rfl (.cons rfl (.cons rfl (.cons rfl (.cons rfl (.cons rfl (.cons rfl .nil))))))))))))))))))))))))))))))))))))))) ?_
    ·refine .cons _ _ _ _ _ ⟨rfl, [(0, .bx 0 0)], AllN.get rfl (.cons rfl .nil), fun b hd hn hk hc => ?_⟩ ?_
     ·cases e16 : b 16
      ·exact ops_at ((cdf (hn 1 rfl)).trans (cdf e16)) rfl (o_move rfl rfl) ((cdf ((updb_ne rfl).trans (hn 1 rfl))).trans (cdf ((updb_ne rfl).trans e16))) rfl
      ·exact ops_at ((cdf (hn 1 rfl)).trans (cdt e16)) rfl (o_move rfl rfl) ((cdf ((updb_ne rfl).trans (hn 1 rfl))).trans (cdt ((updb_ne rfl).trans e16))) rfl
     refine .cons _ _ _ _ _ ⟨rfl, [(30, .bx 0 0)], AllN.get rfl (.cons rfl .nil), fun b hd hn hk hc => ?_⟩ ?_
     ·cases e16 : b 16
      ·exact ops_at ((cdf hk).trans (cdf e16)) rfl (Does.eqS (eqAtB (show (.box ((c_T_impl_SessConf c0 o8.c_) ++ [.int .i64 o8.now_, .int .i64 o8.given_, .hd 1 o8.list_.length 0 o8.list_.length]) : AO) = .box ((c_T_impl_SessConf c0 o8.c_) ++ [.int .i64 a0.Time_, .int .i64 o8.given_, .hd 1 o8.list_.length 0 o8.list_.length]) by simp only [eqX_s h11]) rfl) (o_callM [0, 1, 2] rfl en_38 rfl rfl (spec_l19S_id_p c0 h9) rfl (by decide) (.cons _ _ _ _ rfl (.cons _ _ _ _ (ren_at rfl (ren_rawO fun _ => rfl)) (.cons _ _ _ _ rfl .nil))) rfl rfl (.cons _ _ _ _ rfl (.cons _ _ _ _ (ren_rawO fun _ => rfl) (.cons _ _ _ _ rfl .nil))) rfl)) ((((cdt updb_self).trans (cdf ((updb_ne rfl).trans (hn 2 rfl)))).trans (cdf ((updb_ne rfl).trans e16))).trans rfl) rfl
      ·exact ops_at ((cdf hk).trans (cdt e16)) rfl (Does.eqS (eqAtB (show (.box ((c_T_impl_SessConf c0 o8.c_) ++ [.int .i64 o8.now_, .int .i64 o8.given_, .hd 1 o8.list_.length 0 o8.list_.length]) : AO) = .box ((c_T_impl_SessConf c0 o8.c_) ++ [.int .i64 a0.Time_, .int .i64 o8.given_, .hd 1 o8.list_.length 0 o8.list_.length]) by simp only [eqX_s h11]) rfl) (o_callM [0, 1, 2] rfl en_38 rfl rfl (spec_l19S_id_p c0 h9) rfl (by decide) (.cons _ _ _ _ rfl (.cons _ _ _ _ (ren_at rfl (ren_rawO fun _ => rfl)) (.cons _ _ _ _ rfl .nil))) rfl rfl (.cons _ _ _ _ rfl (.cons _ _ _ _ (ren_rawO fun _ => rfl) (.cons _ _ _ _ rfl .nil))) rfl)) ((((cdt updb_self).trans (cdf ((updb_ne rfl).trans (hn 2 rfl)))).trans (cdt ((updb_ne rfl).trans e16))).trans rfl) rfl
     refine .cons _ _ _ _ _ ⟨rfl, [(31, .str r7)], AllN.get rfl (.cons rfl .nil), fun b hd hn hk hc => ?_⟩ ?_
     ·cases e16 : b 16
      ·exact ops_at (((cdt (hd 1 rfl)).trans (cdf hk)).trans (cdf e16)) rfl (Does.newX (f := c_str) (L := s2) (xs := ([r7] : List ByteArray)) 2 (o_sliceHd (rows := ([r7] : List ByteArray).map (c_str)) .clo rfl rfl tyS_9 ⟨_, rfl, rfl⟩ (by decide) rfl rfl rfl rfl (by decide) (fun _ => rfl) (by decide) rfl (by decide)) rfl rfl rfl) ((((cdt ((updb_ne rfl).trans (hd 1 rfl))).trans (cdt updb_self)).trans (cdf ((updb_ne rfl).trans e16))).trans rfl) rfl
      ·exact ops_at (((cdt (hd 1 rfl)).trans (cdf hk)).trans (cdt e16)) rfl (Does.newX (f := c_str) (L := s2) (xs := ([r7] : List ByteArray)) 2 (o_sliceHd (rows := ([r7] : List ByteArray).map (c_str)) .clo rfl rfl tyS_9 ⟨_, rfl, rfl⟩ (by decide) rfl rfl rfl rfl (by decide) (fun _ => rfl) (by decide) rfl (by decide)) rfl rfl rfl) (((((cdt ((updb_ne rfl).trans (hd 1 rfl))).trans (cdt updb_self)).trans (cdt ((updb_ne rfl).trans e16))).trans (cdf ((updb_ne rfl).trans (hn 17 rfl)))).trans rfl) rfl
     refine .cons _ _ _ _ _ ⟨rfl, [(3, .bx 3 0)], AllN.get rfl (.cons rfl .nil), fun b hd hn hk hc => ?_⟩ ?_
     ·cases e1 : b 1
      ·cases e2 : b 2
       ·cases e16 : b 16
        ·exact ops_at ((cdf e1).trans (cdf e16)) rfl (o_fieldAddr rfl rfl rfl tyS_9 (by decide) rfl rfl ⟨_, rfl, Nat.le_of_ble_eq_true rfl⟩) ((cdf ((updb_ne rfl).trans e1)).trans (cdf ((updb_ne rfl).trans e16))) rfl
        ·exact ops_at ((cdf e1).trans (cdt e16)) rfl (o_fieldAddr rfl rfl rfl tyS_9 (by decide) rfl rfl ⟨_, rfl, Nat.le_of_ble_eq_true rfl⟩) ((cdf ((updb_ne rfl).trans e1)).trans (cdt ((updb_ne rfl).trans e16))) rfl
       ·cases e16 : b 16
        ·exact absurd (hc 2 1 rfl rfl e2) (by rw [e1]; decide)
        ·exact absurd (hc 2 1 rfl rfl e2) (by rw [e1]; decide)
      ·cases e2 : b 2
       ·cases e16 : b 16
        ·exact ops_at (((cdt e1).trans (cdf e2)).trans (cdf e16)) rfl (o_fieldAddr rfl rfl rfl tyS_9 (by decide) rfl rfl ⟨_, rfl, Nat.le_of_ble_eq_true rfl⟩) (((cdt ((updb_ne rfl).trans e1)).trans (cdf ((updb_ne rfl).trans e2))).trans (cdf ((updb_ne rfl).trans e16))) rfl
        ·exact ops_at (((cdt e1).trans (cdf e2)).trans (cdt e16)) rfl (o_fieldAddr rfl rfl rfl tyS_9 (by decide) rfl rfl ⟨_, rfl, Nat.le_of_ble_eq_true rfl⟩) (((cdt ((updb_ne rfl).trans e1)).trans (cdf ((updb_ne rfl).trans e2))).trans (cdt ((updb_ne rfl).trans e16))) rfl
       ·cases e16 : b 16
        ·exact ops_at (((cdt e1).trans (cdt e2)).trans (cdf e16)) rfl (o_fieldAddr rfl rfl rfl tyS_9 (by decide) rfl rfl ⟨_, rfl, Nat.le_of_ble_eq_true rfl⟩) (((cdt ((updb_ne rfl).trans e1)).trans (cdt ((updb_ne rfl).trans e2))).trans (cdf ((updb_ne rfl).trans e16))) rfl
        ·exact ops_at ((((cdt e1).trans (cdt e2)).trans (cdt e16)).trans (cdf (hn 17 rfl))) rfl (o_fieldAddr rfl rfl rfl tyS_9 (by decide) rfl rfl ⟨_, rfl, Nat.le_of_ble_eq_true rfl⟩) ((((cdt ((updb_ne rfl).trans e1)).trans (cdt ((updb_ne rfl).trans e2))).trans (cdt ((updb_ne rfl).trans e16))).trans (cdf ((updb_ne rfl).trans (hn 17 rfl)))) rfl
     refine .cons _ _ _ _ _ ⟨rfl, [(33, .bx 3 2)], AllN.get rfl (.cons rfl .nil), fun b hd hn hk hc => ?_⟩ ?_
     ·cases e1 : b 1
      ·cases e2 : b 2
       ·cases e16 : b 16
        ·exact ops_at ((cdf e1).trans (cdf e16)) rfl (o_loadBx rfl tyS_9 rfl rfl (nb rfl) rfl) ((cdf ((updb_ne rfl).trans e1)).trans (cdf ((updb_ne rfl).trans e16))) rfl
        ·exact ops_at ((cdf e1).trans (cdt e16)) rfl (o_loadBx rfl tyS_9 rfl rfl (nb rfl) rfl) ((cdf ((updb_ne rfl).trans e1)).trans (cdt ((updb_ne rfl).trans e16))) rfl
       ·cases e16 : b 16
        ·exact absurd (hc 2 1 rfl rfl e2) (by rw [e1]; decide)
        ·exact absurd (hc 2 1 rfl rfl e2) (by rw [e1]; decide)
      ·cases e2 : b 2
       ·cases e16 : b 16
        ·exact ops_at (((cdt e1).trans (cdf e2)).trans (cdf e16)) rfl (o_loadBx rfl tyS_9 rfl rfl (nb rfl) rfl) (((cdt ((updb_ne rfl).trans e1)).trans (cdf ((updb_ne rfl).trans e2))).trans (cdf ((updb_ne rfl).trans e16))) rfl
        ·exact ops_at (((cdt e1).trans (cdf e2)).trans (cdt e16)) rfl (o_loadBx rfl tyS_9 rfl rfl (nb rfl) rfl) (((cdt ((updb_ne rfl).trans e1)).trans (cdf ((updb_ne rfl).trans e2))).trans (cdt ((updb_ne rfl).trans e16))) rfl
       ·cases e16 : b 16
        ·exact ops_at (((cdt e1).trans (cdt e2)).trans (cdf e16)) rfl (o_loadBx rfl tyS_9 rfl rfl (nb rfl) rfl) (((cdt ((updb_ne rfl).trans e1)).trans (cdt ((updb_ne rfl).trans e2))).trans (cdf ((updb_ne rfl).trans e16))) rfl
        ·exact ops_at ((((cdt e1).trans (cdt e2)).trans (cdt e16)).trans (cdf (hn 17 rfl))) rfl (o_loadBx rfl tyS_9 rfl rfl (nb rfl) rfl) ((((cdt ((updb_ne rfl).trans e1)).trans (cdt ((updb_ne rfl).trans e2))).trans (cdt ((updb_ne rfl).trans e16))).trans (cdf ((updb_ne rfl).trans (hn 17 rfl)))) rfl
     refine .cons _ _ _ _ _ ⟨rfl, [(3, .bx 3 0)], AllN.get rfl (.cons rfl .nil), fun b hd hn hk hc => ?_⟩ ?_
     ·cases e1 : b 1
      ·cases e2 : b 2
       ·cases e16 : b 16
        ·exact ops_at ((cdf e1).trans (cdf e16)) rfl (o_fieldAddr rfl rfl rfl tyS_9 (by decide) rfl rfl ⟨_, rfl, Nat.le_of_ble_eq_true rfl⟩) ((cdf ((updb_ne rfl).trans e1)).trans (cdf ((updb_ne rfl).trans e16))) rfl
        ·exact ops_at ((cdf e1).trans (cdt e16)) rfl (o_fieldAddr rfl rfl rfl tyS_9 (by decide) rfl rfl ⟨_, rfl, Nat.le_of_ble_eq_true rfl⟩) ((cdf ((updb_ne rfl).trans e1)).trans (cdt ((updb_ne rfl).trans e16))) rfl
       ·cases e16 : b 16
        ·exact absurd (hc 2 1 rfl rfl e2) (by rw [e1]; decide)
        ·exact absurd (hc 2 1 rfl rfl e2) (by rw [e1]; decide)
      ·cases e2 : b 2
       ·cases e16 : b 16
        ·exact ops_at (((cdt e1).trans (cdf e2)).trans (cdf e16)) rfl (o_fieldAddr rfl rfl rfl tyS_9 (by decide) rfl rfl ⟨_, rfl, Nat.le_of_ble_eq_true rfl⟩) (((cdt ((updb_ne rfl).trans e1)).trans (cdf ((updb_ne rfl).trans e2))).trans (cdf ((updb_ne rfl).trans e16))) rfl
        ·exact ops_at (((cdt e1).trans (cdf e2)).trans (cdt e16)) rfl (o_fieldAddr rfl rfl rfl tyS_9 (by decide) rfl rfl ⟨_, rfl, Nat.le_of_ble_eq_true rfl⟩) (((cdt ((updb_ne rfl).trans e1)).trans (cdf ((updb_ne rfl).trans e2))).trans (cdt ((updb_ne rfl).trans e16))) rfl
       ·cases e16 : b 16
        ·exact ops_at (((cdt e1).trans (cdt e2)).trans (cdf e16)) rfl (o_fieldAddr rfl rfl rfl tyS_9 (by decide) rfl rfl ⟨_, rfl, Nat.le_of_ble_eq_true rfl⟩) (((cdt ((updb_ne rfl).trans e1)).trans (cdt ((updb_ne rfl).trans e2))).trans (cdf ((updb_ne rfl).trans e16))) rfl
        ·exact ops_at ((((cdt e1).trans (cdt e2)).trans (cdt e16)).trans (cdf (hn 17 rfl))) rfl (o_fieldAddr rfl rfl rfl tyS_9 (by decide) rfl rfl ⟨_, rfl, Nat.le_of_ble_eq_true rfl⟩) ((((cdt ((updb_ne rfl).trans e1)).trans (cdt ((updb_ne rfl).trans e2))).trans (cdt ((updb_ne rfl).trans e16))).trans (cdf ((updb_ne rfl).trans (hn 17 rfl)))) rfl
     refine .cons _ _ _ _ _ ⟨rfl, [(35, .bx 3 3)], AllN.get rfl (.cons rfl .nil), fun b hd hn hk hc => ?_⟩ ?_
     ·cases e1 : b 1
      ·cases e2 : b 2
       ·cases e16 : b 16
        ·exact ops_at ((cdf e1).trans (cdf e16)) rfl (o_loadBx rfl tyS_9 rfl rfl (nb rfl) rfl) ((cdf ((updb_ne rfl).trans e1)).trans (cdf ((updb_ne rfl).trans e16))) rfl
        ·exact ops_at ((cdf e1).trans (cdt e16)) rfl (o_loadBx rfl tyS_9 rfl rfl (nb rfl) rfl) ((cdf ((updb_ne rfl).trans e1)).trans (cdt ((updb_ne rfl).trans e16))) rfl
       ·cases e16 : b 16
        ·exact absurd (hc 2 1 rfl rfl e2) (by rw [e1]; decide)
        ·exact absurd (hc 2 1 rfl rfl e2) (by rw [e1]; decide)
      ·cases e2 : b 2
       ·cases e16 : b 16
        ·exact ops_at (((cdt e1).trans (cdf e2)).trans (cdf e16)) rfl (o_loadBx rfl tyS_9 rfl rfl (nb rfl) rfl) (((cdt ((updb_ne rfl).trans e1)).trans (cdf ((updb_ne rfl).trans e2))).trans (cdf ((updb_ne rfl).trans e16))) rfl
        ·exact ops_at (((cdt e1).trans (cdf e2)).trans (cdt e16)) rfl (o_loadBx rfl tyS_9 rfl rfl (nb rfl) rfl) (((cdt ((updb_ne rfl).trans e1)).trans (cdf ((updb_ne rfl).trans e2))).trans (cdt ((updb_ne rfl).trans e16))) rfl
       ·cases e16 : b 16
        ·exact ops_at (((cdt e1).trans (cdt e2)).trans (cdf e16)) rfl (o_loadBx rfl tyS_9 rfl rfl (nb rfl) rfl) (((cdt ((updb_ne rfl).trans e1)).trans (cdt ((updb_ne rfl).trans e2))).trans (cdf ((updb_ne rfl).trans e16))) rfl
        ·exact ops_at ((((cdt e1).trans (cdt e2)).trans (cdt e16)).trans (cdf (hn 17 rfl))) rfl (o_loadBx rfl tyS_9 rfl rfl (nb rfl) rfl) ((((cdt ((updb_ne rfl).trans e1)).trans (cdt ((updb_ne rfl).trans e2))).trans (cdt ((updb_ne rfl).trans e16))).trans (cdf ((updb_ne rfl).trans (hn 17 rfl)))) rfl
     refine .cons _ _ _ _ _ ⟨rfl, [(0, .bx 0 0)], AllN.get rfl (.cons rfl .nil), fun b hd hn hk hc => ?_⟩ ?_
     ·cases e1 : b 1
      ·cases e2 : b 2
       ·cases e16 : b 16
        ·exact ops_at ((cdf e1).trans (cdf e16)) rfl (o_move rfl rfl) ((cdf ((updb_ne rfl).trans e1)).trans (cdf ((updb_ne rfl).trans e16))) rfl
        ·exact ops_at ((cdf e1).trans (cdt e16)) rfl (o_move rfl rfl) ((cdf ((updb_ne rfl).trans e1)).trans (cdt ((updb_ne rfl).trans e16))) rfl
       ·cases e16 : b 16
        ·exact absurd (hc 2 1 rfl rfl e2) (by rw [e1]; decide)
        ·exact absurd (hc 2 1 rfl rfl e2) (by rw [e1]; decide)
      ·cases e2 : b 2
       ·cases e16 : b 16
        ·exact ops_at (((cdt e1).trans (cdf e2)).trans (cdf e16)) rfl (o_move rfl rfl) (((cdt ((updb_ne rfl).trans e1)).trans (cdf ((updb_ne rfl).trans e2))).trans (cdf ((updb_ne rfl).trans e16))) rfl
        ·exact ops_at (((cdt e1).trans (cdf e2)).trans (cdt e16)) rfl (o_move rfl rfl) (((cdt ((updb_ne rfl).trans e1)).trans (cdf ((updb_ne rfl).trans e2))).trans (cdt ((updb_ne rfl).trans e16))) rfl
       ·cases e16 : b 16
        ·exact ops_at (((cdt e1).trans (cdt e2)).trans (cdf e16)) rfl (o_move rfl rfl) (((cdt ((updb_ne rfl).trans e1)).trans (cdt ((updb_ne rfl).trans e2))).trans (cdf ((updb_ne rfl).trans e16))) rfl
        ·exact ops_at ((((cdt e1).trans (cdt e2)).trans (cdt e16)).trans (cdf (hn 17 rfl))) rfl (o_move rfl rfl) ((((cdt ((updb_ne rfl).trans e1)).trans (cdt ((updb_ne rfl).trans e2))).trans (cdt ((updb_ne rfl).trans e16))).trans (cdf ((updb_ne rfl).trans (hn 17 rfl)))) rfl
     refine .cons _ _ _ _ _ ⟨rfl, [(37, .bx 0 0)], AllN.get rfl (.cons rfl .nil), fun b hd hn hk hc => ?_⟩ ?_
     ·cases e1 : b 1
      ·cases e2 : b 2
       ·cases e16 : b 16
        ·exact ops_at ((cdf e1).trans (cdf e16)) rfl (o_nilCheck rfl rfl rfl) ((cdf ((updb_ne rfl).trans e1)).trans (cdf ((updb_ne rfl).trans e16))) rfl
        ·exact ops_at ((cdf e1).trans (cdt e16)) rfl (o_nilCheck rfl rfl rfl) ((cdf ((updb_ne rfl).trans e1)).trans (cdt ((updb_ne rfl).trans e16))) rfl
       ·cases e16 : b 16
        ·exact absurd (hc 2 1 rfl rfl e2) (by rw [e1]; decide)
        ·exact absurd (hc 2 1 rfl rfl e2) (by rw [e1]; decide)
      ·cases e2 : b 2
       ·cases e16 : b 16
        ·exact ops_at (((cdt e1).trans (cdf e2)).trans (cdf e16)) rfl (o_nilCheck rfl rfl rfl) (((cdt ((updb_ne rfl).trans e1)).trans (cdf ((updb_ne rfl).trans e2))).trans (cdf ((updb_ne rfl).trans e16))) rfl
        ·exact ops_at (((cdt e1).trans (cdf e2)).trans (cdt e16)) rfl (o_nilCheck rfl rfl rfl) (((cdt ((updb_ne rfl).trans e1)).trans (cdf ((updb_ne rfl).trans e2))).trans (cdt ((updb_ne rfl).trans e16))) rfl
       ·cases e16 : b 16
        ·exact ops_at (((cdt e1).trans (cdt e2)).trans (cdf e16)) rfl (o_nilCheck rfl rfl rfl) (((cdt ((updb_ne rfl).trans e1)).trans (cdt ((updb_ne rfl).trans e2))).trans (cdf ((updb_ne rfl).trans e16))) rfl
        ·exact ops_at ((((cdt e1).trans (cdt e2)).trans (cdt e16)).trans (cdf (hn 17 rfl))) rfl (o_nilCheck rfl rfl rfl) ((((cdt ((updb_ne rfl).trans e1)).trans (cdt ((updb_ne rfl).trans e2))).trans (cdt ((updb_ne rfl).trans e16))).trans (cdf ((updb_ne rfl).trans (hn 17 rfl)))) rfl
     refine .cons _ _ _ _ _ ⟨rfl, [(38, .bx 0 0)], AllN.get rfl (.cons rfl .nil), fun b hd hn hk hc => ?_⟩ ?_
     ·cases e1 : b 1
      ·cases e2 : b 2
       ·cases e16 : b 16
        ·exact ops_at ((cdf e1).trans (cdf e16)) rfl (o_fieldAddr rfl rfl rfl tyS_3 (by decide) rfl rfl ⟨_, rfl, Nat.le_of_ble_eq_true rfl⟩) ((cdf ((updb_ne rfl).trans e1)).trans (cdf ((updb_ne rfl).trans e16))) rfl
        ·exact ops_at ((cdf e1).trans (cdt e16)) rfl (o_fieldAddr rfl rfl rfl tyS_3 (by decide) rfl rfl ⟨_, rfl, Nat.le_of_ble_eq_true rfl⟩) ((cdf ((updb_ne rfl).trans e1)).trans (cdt ((updb_ne rfl).trans e16))) rfl
       ·cases e16 : b 16
        ·exact absurd (hc 2 1 rfl rfl e2) (by rw [e1]; decide)
        ·exact absurd (hc 2 1 rfl rfl e2) (by rw [e1]; decide)
      ·cases e2 : b 2
       ·cases e16 : b 16
        ·exact ops_at (((cdt e1).trans (cdf e2)).trans (cdf e16)) rfl (o_fieldAddr rfl rfl rfl tyS_3 (by decide) rfl rfl ⟨_, rfl, Nat.le_of_ble_eq_true rfl⟩) (((cdt ((updb_ne rfl).trans e1)).trans (cdf ((updb_ne rfl).trans e2))).trans (cdf ((updb_ne rfl).trans e16))) rfl
        ·exact ops_at (((cdt e1).trans (cdf e2)).trans (cdt e16)) rfl (o_fieldAddr rfl rfl rfl tyS_3 (by decide) rfl rfl ⟨_, rfl, Nat.le_of_ble_eq_true rfl⟩) (((cdt ((updb_ne rfl).trans e1)).trans (cdf ((updb_ne rfl).trans e2))).trans (cdt ((updb_ne rfl).trans e16))) rfl
       ·cases e16 : b 16
        ·exact ops_at (((cdt e1).trans (cdt e2)).trans (cdf e16)) rfl (o_fieldAddr rfl rfl rfl tyS_3 (by decide) rfl rfl ⟨_, rfl, Nat.le_of_ble_eq_true rfl⟩) (((cdt ((updb_ne rfl).trans e1)).trans (cdt ((updb_ne rfl).trans e2))).trans (cdf ((updb_ne rfl).trans e16))) rfl
        ·exact ops_at ((((cdt e1).trans (cdt e2)).trans (cdt e16)).trans (cdf (hn 17 rfl))) rfl (o_fieldAddr rfl rfl rfl tyS_3 (by decide) rfl rfl ⟨_, rfl, Nat.le_of_ble_eq_true rfl⟩) ((((cdt ((updb_ne rfl).trans e1)).trans (cdt ((updb_ne rfl).trans e2))).trans (cdt ((updb_ne rfl).trans e16))).trans (cdf ((updb_ne rfl).trans (hn 17 rfl)))) rfl
     refine .cons _ _ _ _ _ ⟨rfl, [(39, .bx 0 3)], AllN.get rfl (.cons rfl .nil), fun b hd hn hk hc => ?_⟩ ?_
     ·cases e1 : b 1
      ·cases e2 : b 2
       ·cases e16 : b 16
        ·exact ops_at ((cdf e1).trans (cdf e16)) rfl (o_loadBx rfl tyS_3 rfl rfl (nb rfl) rfl) ((cdf ((updb_ne rfl).trans e1)).trans (cdf ((updb_ne rfl).trans e16))) rfl
        ·exact ops_at ((cdf e1).trans (cdt e16)) rfl (o_loadBx rfl tyS_3 rfl rfl (nb rfl) rfl) ((cdf ((updb_ne rfl).trans e1)).trans (cdt ((updb_ne rfl).trans e16))) rfl
       ·cases e16 : b 16
        ·exact absurd (hc 2 1 rfl rfl e2) (by rw [e1]; decide)
        ·exact absurd (hc 2 1 rfl rfl e2) (by rw [e1]; decide)
      ·cases e2 : b 2
       ·cases e16 : b 16
        ·exact ops_at (((cdt e1).trans (cdf e2)).trans (cdf e16)) rfl (o_loadBx rfl tyS_3 rfl rfl (nb rfl) rfl) (((cdt ((updb_ne rfl).trans e1)).trans (cdf ((updb_ne rfl).trans e2))).trans (cdf ((updb_ne rfl).trans e16))) rfl
        ·exact ops_at (((cdt e1).trans (cdf e2)).trans (cdt e16)) rfl (o_loadBx rfl tyS_3 rfl rfl (nb rfl) rfl) (((cdt ((updb_ne rfl).trans e1)).trans (cdf ((updb_ne rfl).trans e2))).trans (cdt ((updb_ne rfl).trans e16))) rfl
       ·cases e16 : b 16
        ·exact ops_at (((cdt e1).trans (cdt e2)).trans (cdf e16)) rfl (o_loadBx rfl tyS_3 rfl rfl (nb rfl) rfl) (((cdt ((updb_ne rfl).trans e1)).trans (cdt ((updb_ne rfl).trans e2))).trans (cdf ((updb_ne rfl).trans e16))) rfl
        ·exact ops_at ((((cdt e1).trans (cdt e2)).trans (cdt e16)).trans (cdf (hn 17 rfl))) rfl (o_loadBx rfl tyS_3 rfl rfl (nb rfl) rfl) ((((cdt ((updb_ne rfl).trans e1)).trans (cdt ((updb_ne rfl).trans e2))).trans (cdt ((updb_ne rfl).trans e16))).trans (cdf ((updb_ne rfl).trans (hn 17 rfl)))) rfl
     refine .cons _ _ _ _ _ ⟨rfl, [(0, .bx 0 0)], AllN.get rfl (.cons rfl .nil), fun b hd hn hk hc => ?_⟩ ?_
     ·cases e1 : b 1
      ·cases e2 : b 2
       ·cases e16 : b 16
        ·exact ops_at ((cdf e1).trans (cdf e16)) rfl (o_move rfl rfl) ((cdf ((updb_ne rfl).trans e1)).trans (cdf ((updb_ne rfl).trans e16))) rfl
        ·exact ops_at ((cdf e1).trans (cdt e16)) rfl (o_move rfl rfl) ((cdf ((updb_ne rfl).trans e1)).trans (cdt ((updb_ne rfl).trans e16))) rfl
       ·cases e16 : b 16
        ·exact absurd (hc 2 1 rfl rfl e2) (by rw [e1]; decide)
        ·exact absurd (hc 2 1 rfl rfl e2) (by rw [e1]; decide)
      ·cases e2 : b 2
       ·cases e16 : b 16
        ·exact ops_at (((cdt e1).trans (cdf e2)).trans (cdf e16)) rfl (o_move rfl rfl) (((cdt ((updb_ne rfl).trans e1)).trans (cdf ((updb_ne rfl).trans e2))).trans (cdf ((updb_ne rfl).trans e16))) rfl
        ·exact ops_at (((cdt e1).trans (cdf e2)).trans (cdt e16)) rfl (o_move rfl rfl) (((cdt ((updb_ne rfl).trans e1)).trans (cdf ((updb_ne rfl).trans e2))).trans (cdt ((updb_ne rfl).trans e16))) rfl
       ·cases e16 : b 16
        ·exact ops_at (((cdt e1).trans (cdt e2)).trans (cdf e16)) rfl (o_move rfl rfl) (((cdt ((updb_ne rfl).trans e1)).trans (cdt ((updb_ne rfl).trans e2))).trans (cdf ((updb_ne rfl).trans e16))) rfl
        ·exact ops_at ((((cdt e1).trans (cdt e2)).trans (cdt e16)).trans (cdf (hn 17 rfl))) rfl (o_move rfl rfl) ((((cdt ((updb_ne rfl).trans e1)).trans (cdt ((updb_ne rfl).trans e2))).trans (cdt ((updb_ne rfl).trans e16))).trans (cdf ((updb_ne rfl).trans (hn 17 rfl)))) rfl
     refine .cons _ _ _ _ _ ⟨rfl, [(41, .bx 0 0)], AllN.get rfl (.cons rfl .nil), fun b hd hn hk hc => ?_⟩ ?_
     ·cases e1 : b 1
      ·cases e2 : b 2
       ·cases e16 : b 16
        ·exact ops_at ((cdf e1).trans (cdf e16)) rfl (o_nilCheck rfl rfl rfl) ((cdf ((updb_ne rfl).trans e1)).trans (cdf ((updb_ne rfl).trans e16))) rfl
        ·exact ops_at ((cdf e1).trans (cdt e16)) rfl (o_nilCheck rfl rfl rfl) ((cdf ((updb_ne rfl).trans e1)).trans (cdt ((updb_ne rfl).trans e16))) rfl
       ·cases e16 : b 16
        ·exact absurd (hc 2 1 rfl rfl e2) (by rw [e1]; decide)
        ·exact absurd (hc 2 1 rfl rfl e2) (by rw [e1]; decide)
      ·cases e2 : b 2
       ·cases e16 : b 16
        ·exact ops_at (((cdt e1).trans (cdf e2)).trans (cdf e16)) rfl (o_nilCheck rfl rfl rfl) (((cdt ((updb_ne rfl).trans e1)).trans (cdf ((updb_ne rfl).trans e2))).trans (cdf ((updb_ne rfl).trans e16))) rfl
        ·exact ops_at (((cdt e1).trans (cdf e2)).trans (cdt e16)) rfl (o_nilCheck rfl rfl rfl) (((cdt ((updb_ne rfl).trans e1)).trans (cdf ((updb_ne rfl).trans e2))).trans (cdt ((updb_ne rfl).trans e16))) rfl
       ·cases e16 : b 16
        ·exact ops_at (((cdt e1).trans (cdt e2)).trans (cdf e16)) rfl (o_nilCheck rfl rfl rfl) (((cdt ((updb_ne rfl).trans e1)).trans (cdt ((updb_ne rfl).trans e2))).trans (cdf ((updb_ne rfl).trans e16))) rfl
        ·exact ops_at ((((cdt e1).trans (cdt e2)).trans (cdt e16)).trans (cdf (hn 17 rfl))) rfl (o_nilCheck rfl rfl rfl) ((((cdt ((updb_ne rfl).trans e1)).trans (cdt ((updb_ne rfl).trans e2))).trans (cdt ((updb_ne rfl).trans e16))).trans (cdf ((updb_ne rfl).trans (hn 17 rfl)))) rfl
     refine .cons _ _ _ _ _ ⟨rfl, [(42, .bx 0 0)], AllN.get rfl (.cons rfl .nil), fun b hd hn hk hc => ?_⟩ ?_
     ·cases e1 : b 1
      ·cases e2 : b 2
       ·cases e16 : b 16
        ·exact ops_at ((cdf e1).trans (cdf e16)) rfl (o_fieldAddr rfl rfl rfl tyS_3 (by decide) rfl rfl ⟨_, rfl, Nat.le_of_ble_eq_true rfl⟩) ((cdf ((updb_ne rfl).trans e1)).trans (cdf ((updb_ne rfl).trans e16))) rfl
        ·exact ops_at ((cdf e1).trans (cdt e16)) rfl (o_fieldAddr rfl rfl rfl tyS_3 (by decide) rfl rfl ⟨_, rfl, Nat.le_of_ble_eq_true rfl⟩) ((cdf ((updb_ne rfl).trans e1)).trans (cdt ((updb_ne rfl).trans e16))) rfl
       ·cases e16 : b 16
        ·exact absurd (hc 2 1 rfl rfl e2) (by rw [e1]; decide)
        ·exact absurd (hc 2 1 rfl rfl e2) (by rw [e1]; decide)
      ·cases e2 : b 2
       ·cases e16 : b 16
        ·exact ops_at (((cdt e1).trans (cdf e2)).trans (cdf e16)) rfl (o_fieldAddr rfl rfl rfl tyS_3 (by decide) rfl rfl ⟨_, rfl, Nat.le_of_ble_eq_true rfl⟩) (((cdt ((updb_ne rfl).trans e1)).trans (cdf ((updb_ne rfl).trans e2))).trans (cdf ((updb_ne rfl).trans e16))) rfl
        ·exact ops_at (((cdt e1).trans (cdf e2)).trans (cdt e16)) rfl (o_fieldAddr rfl rfl rfl tyS_3 (by decide) rfl rfl ⟨_, rfl, Nat.le_of_ble_eq_true rfl⟩) (((cdt ((updb_ne rfl).trans e1)).trans (cdf ((updb_ne rfl).trans e2))).trans (cdt ((updb_ne rfl).trans e16))) rfl
       ·cases e16 : b 16
        ·exact ops_at (((cdt e1).trans (cdt e2)).trans (cdf e16)) rfl (o_fieldAddr rfl rfl rfl tyS_3 (by decide) rfl rfl ⟨_, rfl, Nat.le_of_ble_eq_true rfl⟩) (((cdt ((updb_ne rfl).trans e1)).trans (cdt ((updb_ne rfl).trans e2))).trans (cdf ((updb_ne rfl).trans e16))) rfl
        ·exact ops_at ((((cdt e1).trans (cdt e2)).trans (cdt e16)).trans (cdf (hn 17 rfl))) rfl (o_fieldAddr rfl rfl rfl tyS_3 (by decide) rfl rfl ⟨_, rfl, Nat.le_of_ble_eq_true rfl⟩) ((((cdt ((updb_ne rfl).trans e1)).trans (cdt ((updb_ne rfl).trans e2))).trans (cdt ((updb_ne rfl).trans e16))).trans (cdf ((updb_ne rfl).trans (hn 17 rfl)))) rfl
     refine .cons _ _ _ _ _ ⟨rfl, [(43, .bx 0 3)], AllN.get rfl (.cons rfl .nil), fun b hd hn hk hc => ?_⟩ ?_
     ·cases e1 : b 1
      ·cases e2 : b 2
       ·cases e16 : b 16
        ·exact ops_at ((cdf e1).trans (cdf e16)) rfl (o_loadBx rfl tyS_3 rfl rfl (nb rfl) rfl) ((cdf ((updb_ne rfl).trans e1)).trans (cdf ((updb_ne rfl).trans e16))) rfl
        ·exact ops_at ((cdf e1).trans (cdt e16)) rfl (o_loadBx rfl tyS_3 rfl rfl (nb rfl) rfl) ((cdf ((updb_ne rfl).trans e1)).trans (cdt ((updb_ne rfl).trans e16))) rfl
       ·cases e16 : b 16
        ·exact absurd (hc 2 1 rfl rfl e2) (by rw [e1]; decide)
        ·exact absurd (hc 2 1 rfl rfl e2) (by rw [e1]; decide)
      ·cases e2 : b 2
       ·cases e16 : b 16
        ·exact ops_at (((cdt e1).trans (cdf e2)).trans (cdf e16)) rfl (o_loadBx rfl tyS_3 rfl rfl (nb rfl) rfl) (((cdt ((updb_ne rfl).trans e1)).trans (cdf ((updb_ne rfl).trans e2))).trans (cdf ((updb_ne rfl).trans e16))) rfl
        ·exact ops_at (((cdt e1).trans (cdf e2)).trans (cdt e16)) rfl (o_loadBx rfl tyS_3 rfl rfl (nb rfl) rfl) (((cdt ((updb_ne rfl).trans e1)).trans (cdf ((updb_ne rfl).trans e2))).trans (cdt ((updb_ne rfl).trans e16))) rfl
       ·cases e16 : b 16
        ·exact ops_at (((cdt e1).trans (cdt e2)).trans (cdf e16)) rfl (o_loadBx rfl tyS_3 rfl rfl (nb rfl) rfl) (((cdt ((updb_ne rfl).trans e1)).trans (cdt ((updb_ne rfl).trans e2))).trans (cdf ((updb_ne rfl).trans e16))) rfl
        ·exact ops_at ((((cdt e1).trans (cdt e2)).trans (cdt e16)).trans (cdf (hn 17 rfl))) rfl (o_loadBx rfl tyS_3 rfl rfl (nb rfl) rfl) ((((cdt ((updb_ne rfl).trans e1)).trans (cdt ((updb_ne rfl).trans e2))).trans (cdt ((updb_ne rfl).trans e16))).trans (cdf ((updb_ne rfl).trans (hn 17 rfl)))) rfl
     refine .cons _ _ _ _ _ ⟨rfl, [(32, .px 2 0 (s2.length : Int) 0), (34, .str a0.User_), (36, .str a0.Device_), (40, .int .i64 a0.Time_), (44, .int .i64 a0.Time_)], AllN.get rfl (.cons rfl (.cons rfl (.cons rfl (.cons rfl (.cons rfl .nil))))), fun b hd hn hk hc => ?_⟩ ?_
     ·cases e16 : b 16
      ·exact ops_at (((cdt (hd 1 rfl)).trans (cdt (hd 2 rfl))).trans (cdf e16)) rfl (o_build rfl ⟨_, fun _ => rfl, rfl⟩ rfl rfl rfl) (((cdt ((updb_ne rfl).trans (hd 1 rfl))).trans (cdt ((updb_ne rfl).trans (hd 2 rfl)))).trans (cdf ((updb_ne rfl).trans e16))) rfl
      ·exact ops_at ((((cdt (hd 1 rfl)).trans (cdt (hd 2 rfl))).trans (cdt e16)).trans (cdf (hn 17 rfl))) rfl (o_build rfl ⟨_, fun _ => rfl, rfl⟩ rfl rfl rfl) ((((cdt ((updb_ne rfl).trans (hd 1 rfl))).trans (cdt ((updb_ne rfl).trans (hd 2 rfl)))).trans (cdt ((updb_ne rfl).trans e16))).trans (cdf ((updb_ne rfl).trans (hn 17 rfl)))) rfl
     refine .cons _ _ _ _ _ ⟨rfl, [], AllN.get rfl .nil, fun b hd hn hk hc => ?_⟩ ?_
     ·cases e1 : b 1
      ·cases e2 : b 2
       ·exact ops_at ((cdf e1).trans (cdf hk)) rfl (o_allocAt 5 rfl ⟨_, rfl, rfl⟩ rfl) (((cdf ((updb_ne rfl).trans e1)).trans (cdt updb_self)).trans rfl) rfl
       ·exact absurd (hc 2 1 rfl rfl e2) (by rw [e1]; decide)
      ·cases e2 : b 2
       ·exact ops_at (((cdt e1).trans (cdf e2)).trans (cdf hk)) rfl (o_allocAt 5 rfl ⟨_, rfl, rfl⟩ rfl) ((((cdt ((updb_ne rfl).trans e1)).trans (cdf ((updb_ne rfl).trans e2))).trans (cdt updb_self)).trans rfl) rfl
       ·exact ops_at (((cdt e1).trans (cdt e2)).trans (cdf hk)) rfl (o_allocAt 5 rfl ⟨_, rfl, rfl⟩ rfl) (((((cdt ((updb_ne rfl).trans e1)).trans (cdt ((updb_ne rfl).trans e2))).trans (cdt updb_self)).trans (cdf ((updb_ne rfl).trans (hn 17 rfl)))).trans rfl) rfl
     refine .cons _ _ _ _ _ ⟨rfl, [(5, .bx 5 0), (45, .agg [.px 2 0 (s2.length : Int) 0, .str a0.User_, .str a0.Device_, .int .i64 1, .int .i64 a0.Time_, .int .i64 a0.Time_, .bool false])], AllN.get rfl (.cons rfl (.cons rfl .nil)), fun b hd hn hk hc => ?_⟩ ?_
     ·exact ops_at ((((cdt (hd 1 rfl)).trans (cdt (hd 2 rfl))).trans (cdt (hd 16 rfl))).trans (cdf hk)) rfl (o_storeBx rfl tyS_54 rfl rfl rfl rfl (nb rfl) rfl) (((((cdt ((updb_ne rfl).trans (hd 1 rfl))).trans (cdt ((updb_ne rfl).trans (hd 2 rfl)))).trans (cdt ((updb_ne rfl).trans (hd 16 rfl)))).trans (cdt updb_self)).trans rfl) rfl
     exact .nil _
    ·intro b b' h; simp only [h 1 (by decide), h 2 (by decide), h 16 (by decide), h 17 (by decide)]
    refine T.seq ?_
    refine T.conv (Cs.eqS (σ' := [.box (k_spec_l19S 1 2 c0 ({ o8 with now_ := a0.Time_ } : T_spec_l19S)), .arr .raw 7 (o8.list_.map (c_T_spec_l19X 2 false)), .afm 1 ((s2 ++ [some ([r7] : List ByteArray)]).map (c_ax (c_str))), _, _, .box [.px 2 0 (s2.length : Int) 0, .str a0.User_, .str a0.Device_, .int .i64 1, .int .i64 a0.Time_, .int .i64 a0.Time_, .bool false], .dead]) rfl) ?_
    obtain ⟨l12, h13, H⟩ := bind_s H
    refine T.drawS (fr' := [(0, .bx 0 0), (1, .agg (c_T_impl_SessEvent false a0)), (3, .bx 3 0), (4, .bx 4 0), (5, .bx 5 0), (11, .agg (c_T_impl_SessEvent false a0)), (12, .bool r1), (14, .bx 3 1), (15, .int .i64 a0.Time_), (16, .bx 0 0), (17, .bx 0 0), (18, .bx 0 3), (19, .int .i64 s0.now_), (20, .bool (decide (a0.Time_ < s0.now_))), (22, .bx 0 0), (23, .bx 3 1), (24, .int .i64 a0.Time_), (25, .bx 0 0), (26, .bx 0 3), (27, .bx 3 0), (28, .int .i64 a0.Kind_), (29, .bool (a0.Kind_ == 1)), (30, .bx 0 0), (31, .str r7), (32, .px 2 0 (s2.length : Int) 0), (33, .bx 3 2), (34, .str a0.User_), (35, .bx 3 3), (36, .str a0.Device_), (37, .bx 0 0), (38, .bx 0 0), (39, .bx 0 3), (40, .int .i64 a0.Time_), (41, .bx 0 0), (42, .bx 0 0), (43, .bx 0 3), (44, .int .i64 a0.Time_), (45, .agg [.px 2 0 (s2.length : Int) 0, .str a0.User_, .str a0.Device_, .int .i64 1, .int .i64 a0.Time_, .int .i64 a0.Time_, .bool false]), (46, .bx 0 0), (47, .bx 0 0), (48, .bx 0 0), (49, .bx 0 5), (50, .hd 1 o8.list_.length 0 o8.list_.length), (51, .agg [.px 2 0 (s2.length : Int) 0, .str a0.User_, .str a0.Device_, .int .i64 1, .int .i64 a0.Time_, .int .i64 a0.Time_, .bool false]), (52, .hd 7 ([(⟨(s2.length : Int), a0.User_, a0.Device_, 1, a0.Time_, a0.Time_, false⟩ : T_spec_l19X)] : List T_spec_l19X).length 0 ([(⟨(s2.length : Int), a0.User_, a0.Device_, 1, a0.Time_, a0.Time_, false⟩ : T_spec_l19X)] : List T_spec_l19X).length), (53, .hd 1 l12.length 0 l12.length), (54, .bx 0 0), (55, .bx 0 5)]) (R := [⟨some 46, .bx 0 0, .q, []⟩, ⟨some 47, .bx 0 0, .q, []⟩, ⟨some 48, .bx 0 0, .q, []⟩, ⟨some 49, .bx 0 5, .q, []⟩, ⟨some 50, .hd 1 o8.list_.length 0 o8.list_.length, .q, []⟩, ⟨some 51, .agg [.px 2 0 (s2.length : Int) 0, .str a0.User_, .str a0.Device_, .int .i64 1, .int .i64 a0.Time_, .int .i64 a0.Time_, .bool false], .q, []⟩, ⟨some 52, .hd 7 ([(⟨(s2.length : Int), a0.User_, a0.Device_, 1, a0.Time_, a0.Time_, false⟩ : T_spec_l19X)] : List T_spec_l19X).length 0 ([(⟨(s2.length : Int), a0.User_, a0.Device_, 1, a0.Time_, a0.Time_, false⟩ : T_spec_l19X)] : List T_spec_l19X).length, .q, []⟩, ⟨some 53, .hd 1 l12.length 0 l12.length, .q, []⟩, ⟨some 54, .bx 0 0, .q, []⟩, ⟨some 55, .bx 0 5, .q, []⟩, ⟨none, .any, .q, []⟩]) (fun b => cond (b 6) (cond (b 7) (cond (b 10) ([.box (k_spec_l19S 1 2 c0 (⟨o8.c_, a0.Time_, o8.given_, l12⟩ : T_spec_l19S)), .arr .raw 7 (l12.map (c_T_spec_l19X 2 false)), .afm 1 ((s2 ++ [some ([r7] : List ByteArray)]).map (c_ax (c_str))), .box (c_T_impl_SessEvent false a0), .box [.int .i64 0, .str e0, .str e0, .int .i64 0], .box [.px 2 0 (s2.length : Int) 0, .str a0.User_, .str a0.Device_, .int .i64 1, .int .i64 a0.Time_, .int .i64 a0.Time_, .bool false], .dead, .arr .raw 7 (([(⟨(s2.length : Int), a0.User_, a0.Device_, 1, a0.Time_, a0.Time_, false⟩ : T_spec_l19X)] : List T_spec_l19X).map (c_T_spec_l19X 2 false))]) ([.box (k_spec_l19S 1 2 c0 ({ o8 with now_ := a0.Time_ } : T_spec_l19S)), .arr .raw 7 (l12.map (c_T_spec_l19X 2 false)), .afm 1 ((s2 ++ [some ([r7] : List ByteArray)]).map (c_ax (c_str))), .box (c_T_impl_SessEvent false a0), .box [.int .i64 0, .str e0, .str e0, .int .i64 0], .box [.px 2 0 (s2.length : Int) 0, .str a0.User_, .str a0.Device_, .int .i64 1, .int .i64 a0.Time_, .int .i64 a0.Time_, .bool false], .dead, .arr .raw 7 (([(⟨(s2.length : Int), a0.User_, a0.Device_, 1, a0.Time_, a0.Time_, false⟩ : T_spec_l19X)] : List T_spec_l19X).map (c_T_spec_l19X 2 false))])) ([.box (k_spec_l19S 1 2 c0 ({ o8 with now_ := a0.Time_ } : T_spec_l19S)), .arr .raw 7 (o8.list_.map (c_T_spec_l19X 2 false)), .afm 1 ((s2 ++ [some ([r7] : List ByteArray)]).map (c_ax (c_str))), .box (c_T_impl_SessEvent false a0), .box [.int .i64 0, .str e0, .str e0, .int .i64 0], .box [.px 2 0 (s2.length : Int) 0, .str a0.User_, .str a0.Device_, .int .i64 1, .int .i64 a0.Time_, .int .i64 a0.Time_, .bool false], .dead, .arr .raw 7 (([(⟨(s2.length : Int), a0.User_, a0.Device_, 1, a0.Time_, a0.Time_, false⟩ : T_spec_l19X)] : List T_spec_l19X).map (c_T_spec_l19X 2 false))])) ([.box (k_spec_l19S 1 2 c0 ({ o8 with now_ := a0.Time_ } : T_spec_l19S)), .arr .raw 7 (o8.list_.map (c_T_spec_l19X 2 false)), .afm 1 ((s2 ++ [some ([r7] : List ByteArray)]).map (c_ax (c_str))), .box (c_T_impl_SessEvent false a0), .box [.int .i64 0, .str e0, .str e0, .int .i64 0], .box [.px 2 0 (s2.length : Int) 0, .str a0.User_, .str a0.Device_, .int .i64 1, .int .i64 a0.Time_, .int .i64 a0.Time_, .bool false], .dead])) rfl ?_ ?_ rfl rfl (FrL.get (.cons rfl (.cons rfl (.cons rfl (.cons rfl (.cons rfl (.cons rfl (.cons rfl (.cons rfl (.cons rfl (.cons rfl (.cons rfl (.cons rfl (.cons rfl (.cons rfl (.cons rfl (.cons rfl (.cons rfl (.cons rfl (.cons rfl (.cons rfl (.cons rfl (.cons rfl (.cons rfl (.cons rfl (.cons rfl (.cons rfl (.cons rfl (.cons rfl (.cons rfl (.cons rfl (.cons rfl (.cons rfl (.cons rfl (.cons rfl (.cons rfl (.cons rfl (.cons rfl (.cons rfl (.cons rfl (.cons rfl (.cons rfl (.cons rfl (.cons rfl (.cons rfl (.cons rfl (.cons rfl (.cons rfl (.cons rfl .nil))))))))))))))))))))))))))))))))))))))))))))))))) ?_
    ·refine .cons _ _ _ _ _ ⟨rfl, [(0, .bx 0 0)], AllN.get rfl (.cons rfl .nil), fun b hd hn hk hc => ?_⟩ ?_
     ·cases e6 : b 6
      ·cases e7 : b 7
       ·exact ops_at (cdf e6) rfl (o_move rfl rfl) (cdf ((updb_ne rfl).trans e6)) rfl
       ·exact absurd (hc 7 6 rfl rfl e7) (by rw [e6]; decide)
      ·cases e7 : b 7
       ·exact ops_at ((cdt e6).trans (cdf e7)) rfl (o_move rfl rfl) ((cdt ((updb_ne rfl).trans e6)).trans (cdf ((updb_ne rfl).trans e7))) rfl
       ·exact ops_at (((cdt e6).trans (cdt e7)).trans (cdf (hn 10 rfl))) rfl (o_move rfl rfl) (((cdt ((updb_ne rfl).trans e6)).trans (cdt ((updb_ne rfl).trans e7))).trans (cdf ((updb_ne rfl).trans (hn 10 rfl)))) rfl
     refine .cons _ _ _ _ _ ⟨rfl, [(0, .bx 0 0)], AllN.get rfl (.cons rfl .nil), fun b hd hn hk hc => ?_⟩ ?_
     ·cases e6 : b 6
      ·exact ops_at (cdf e6) rfl (o_move rfl rfl) (cdf ((updb_ne rfl).trans e6)) rfl
      ·exact ops_at ((cdt e6).trans (cdf (hn 7 rfl))) rfl (o_move rfl rfl) ((cdt ((updb_ne rfl).trans e6)).trans (cdf ((updb_ne rfl).trans (hn 7 rfl)))) rfl
     refine .cons _ _ _ _ _ ⟨rfl, [(47, .bx 0 0)], AllN.get rfl (.cons rfl .nil), fun b hd hn hk hc => ?_⟩ ?_
     ·cases e6 : b 6
      ·exact ops_at (cdf e6) rfl (o_nilCheck rfl rfl rfl) (cdf ((updb_ne rfl).trans e6)) rfl
      ·exact ops_at ((cdt e6).trans (cdf (hn 7 rfl))) rfl (o_nilCheck rfl rfl rfl) ((cdt ((updb_ne rfl).trans e6)).trans (cdf ((updb_ne rfl).trans (hn 7 rfl)))) rfl
     refine .cons _ _ _ _ _ ⟨rfl, [(48, .bx 0 0)], AllN.get rfl (.cons rfl .nil), fun b hd hn hk hc => ?_⟩ ?_
     ·cases e6 : b 6
      ·exact ops_at (cdf e6) rfl (o_fieldAddr rfl rfl rfl tyS_49 (by decide) rfl rfl ⟨_, rfl, Nat.le_of_ble_eq_true rfl⟩) (cdf ((updb_ne rfl).trans e6)) rfl
      ·exact ops_at ((cdt e6).trans (cdf (hn 7 rfl))) rfl (o_fieldAddr rfl rfl rfl tyS_49 (by decide) rfl rfl ⟨_, rfl, Nat.le_of_ble_eq_true rfl⟩) ((cdt ((updb_ne rfl).trans e6)).trans (cdf ((updb_ne rfl).trans (hn 7 rfl)))) rfl
     refine .cons _ _ _ _ _ ⟨rfl, [(49, .bx 0 5)], AllN.get rfl (.cons rfl .nil), fun b hd hn hk hc => ?_⟩ ?_
     ·cases e6 : b 6
      ·exact ops_at (cdf e6) rfl (o_loadBx rfl tyS_49 rfl rfl (nb rfl) rfl) (cdf ((updb_ne rfl).trans e6)) rfl
      ·exact ops_at ((cdt e6).trans (cdf (hn 7 rfl))) rfl (o_loadBx rfl tyS_49 rfl rfl (nb rfl) rfl) ((cdt ((updb_ne rfl).trans e6)).trans (cdf ((updb_ne rfl).trans (hn 7 rfl)))) rfl
     refine .cons _ _ _ _ _ ⟨rfl, [(5, .bx 5 0)], AllN.get rfl (.cons rfl .nil), fun b hd hn hk hc => ?_⟩ ?_
     ·exact ops_at (cdf (hn 6 rfl)) rfl (o_loadBx rfl tyS_54 rfl rfl (nb rfl) rfl) (cdf ((updb_ne rfl).trans (hn 6 rfl))) rfl
     refine .cons _ _ _ _ _ ⟨rfl, [(51, .agg [.px 2 0 (s2.length : Int) 0, .str a0.User_, .str a0.Device_, .int .i64 1, .int .i64 a0.Time_, .int .i64 a0.Time_, .bool false])], AllN.get rfl (.cons rfl .nil), fun b hd hn hk hc => ?_⟩ ?_
     ·exact ops_at (cdf hk) rfl (o_sliceHd .raw rfl rfl tyS_54 ⟨_, rfl, rfl⟩ (by decide) rfl rfl rfl rfl rfl (fun h => absurd rfl h) (by decide) rfl (by decide)) (((cdt updb_self).trans (cdf ((updb_ne rfl).trans (hn 7 rfl)))).trans rfl) rfl
     refine .cons _ _ _ _ _ ⟨rfl, [(50, .hd 1 o8.list_.length 0 o8.list_.length), (52, .hd 7 ([(⟨(s2.length : Int), a0.User_, a0.Device_, 1, a0.Time_, a0.Time_, false⟩ : T_spec_l19X)] : List T_spec_l19X).length 0 ([(⟨(s2.length : Int), a0.User_, a0.Device_, 1, a0.Time_, a0.Time_, false⟩ : T_spec_l19X)] : List T_spec_l19X).length)], AllN.get rfl (.cons rfl (.cons rfl .nil)), fun b hd hn hk hc => ?_⟩ ?_
     ·exact ops_at ((cdt (hd 6 rfl)).trans (cdf hk)) rfl (o_apX (f := c_T_spec_l19X 2 false) (xs := o8.list_) (ys := ([(⟨(s2.length : Int), a0.User_, a0.Device_, 1, a0.Time_, a0.Time_, false⟩ : T_spec_l19X)] : List T_spec_l19X)) rfl rfl tyE_54 rfl rfl rfl rfl (fun _ => rfl) h13) ((((cdt ((updb_ne rfl).trans (hd 6 rfl))).trans (cdt updb_self)).trans (cdf ((updb_ne rfl).trans (hn 10 rfl)))).trans rfl) rfl
     refine .cons _ _ _ _ _ ⟨rfl, [(46, .bx 0 0)], AllN.get rfl (.cons rfl .nil), fun b hd hn hk hc => ?_⟩ ?_
     ·exact ops_at (((cdt (hd 6 rfl)).trans (cdt (hd 7 rfl))).trans (cdf (hn 10 rfl))) rfl (o_nilCheck rfl rfl rfl) (((cdt ((updb_ne rfl).trans (hd 6 rfl))).trans (cdt ((updb_ne rfl).trans (hd 7 rfl)))).trans (cdf ((updb_ne rfl).trans (hn 10 rfl)))) rfl
     refine .cons _ _ _ _ _ ⟨rfl, [(54, .bx 0 0)], AllN.get rfl (.cons rfl .nil), fun b hd hn hk hc => ?_⟩ ?_
     ·exact ops_at (((cdt (hd 6 rfl)).trans (cdt (hd 7 rfl))).trans (cdf (hn 10 rfl))) rfl (o_fieldAddr rfl rfl rfl tyS_49 (by decide) rfl rfl ⟨_, rfl, Nat.le_of_ble_eq_true rfl⟩) (((cdt ((updb_ne rfl).trans (hd 6 rfl))).trans (cdt ((updb_ne rfl).trans (hd 7 rfl)))).trans (cdf ((updb_ne rfl).trans (hn 10 rfl)))) rfl
     refine .cons _ _ _ _ _ ⟨rfl, [(53, .hd 1 l12.length 0 l12.length), (55, .bx 0 5)], AllN.get rfl (.cons rfl (.cons rfl .nil)), fun b hd hn hk hc => ?_⟩ ?_
     ·exact ops_at (((cdt (hd 6 rfl)).trans (cdt (hd 7 rfl))).trans (cdf hk)) rfl (o_storeBx rfl tyS_49 rfl rfl rfl rfl (nb rfl) (sure_hd rfl (List.length_map ..) rfl)) ((((cdt ((updb_ne rfl).trans (hd 6 rfl))).trans (cdt ((updb_ne rfl).trans (hd 7 rfl)))).trans (cdt updb_self)).trans rfl) rfl
     exact .nil _
    ·intro b b' h; simp only [h 6 (by decide), h 7 (by decide), h 10 (by decide)]
    refine T.seq ?_
    refine T.conv (Cs.eqS (σ' := [.box (k_spec_l19S 1 2 c0 (⟨o8.c_, a0.Time_, o8.given_, l12⟩ : T_spec_l19S)), .arr .raw 7 (l12.map (c_T_spec_l19X 2 false)), _, _, _, _, _, .arr .raw 7 (([(⟨(s2.length : Int), a0.User_, a0.Device_, 1, a0.Time_, a0.Time_, false⟩ : T_spec_l19X)] : List T_spec_l19X).map (c_T_spec_l19X 2 false))]) rfl) ?_
    refine au 2 ?_
    obtain ⟨r14, h15, H⟩ := bind_s H
    refine TL.st rfl rfl rfl (o_callS [2] rfl en_22 rfl rfl (spec_l19Told_p  h15) rfl (by decide) (.cons _ _ _ _ rfl .nil) rfl rfl rfl) ?_
    refine au 3 ?_
    refine thn_ret ?_
    cases some_i H
    exact ⟨trivial, _, (.cell _ _ _ _ _ _ _ _ _ _ rfl rfl tyS_57 (nb rfl) rfl .nil), ⟨rfl, _, rfl⟩⟩
   ·refine au 8 ?_
    refine T.cH H (fun H h => ?_) (fun H h => ?_)
    ·refine au 7 ?_
     refine TL.st rfl rfl rfl (o_lenOwn (f := c_T_spec_l19X 2 false) rfl rfl rfl rfl (List.length_map ..)) ?_
     refine au 3 ?_
     obtain ⟨b18, h25, H⟩ := bind_s H
     refine T.lq (fun s => match s with | (b16, v17) => [(0, .bx 0 0), (3, .bx 3 0), (4, .bx 4 0), (65, .int .i64 (s0.list_.length : Int)), (66, .int .i64 v17)]) (fun s => match s with | (b16, v17) => [.box (k_spec_l19S 1 2 c0 b16), .arr .raw 7 (b16.list_.map (c_T_spec_l19X 2 false)), .afm 1 (s2.map (c_ax (c_str))), .box (c_T_impl_SessEvent false a0), .box [.int .i64 0, .str e0, .str e0, .int .i64 0]]) (fun q ex fr σ => match q with | b18 => ex = .exit 0 ∧ fr = [(3, .bx 3 0), (4, .bx 4 0)] ∧ σ = [.box (k_spec_l19S 1 2 c0 b18), .arr .raw 7 (b18.list_.map (c_T_spec_l19X 2 false)), .afm 1 (s2.map (c_ax (c_str))), .box (c_T_impl_SessEvent false a0), .box [.int .i64 0, .str e0, .str e0, .int .i64 0]]) h25 ?_ ?_
     ·rintro ⟨b16, v17⟩ y19 H
      refine au 5 ?_
      refine T.cH H (fun H h => ?_) (fun H h => ?_)
      ·refine au 9 ?_
       refine T.drawn rfl ?_
       refine ad 5 ?_
       obtain ⟨e20, h21, H⟩ := bind_s H
       refine TD.rs rfl rfl (o_ixh (f := c_T_spec_l19X 2 false) rfl rfl tyS_54 rfl rfl rfl (List.length_map ..) h21 rfl) ?_
       refine TD.rs rfl rfl (o_fieldAddrEl rfl rfl rfl tyS_9 (by decide) rfl rfl (List.length_map ..)) ?_
       refine TD.rs rfl rfl (o_loadEl rfl tyS_9 rfl rfl (List.length_map ..) (by rw [List.getElem?_map, (idx_s h21).2]; rfl) (nb rfl) rfl) ?_
       refine ad 2 ?_
       refine TD.qs rfl rfl (fun _ => o_str rfl rfl rfl rfl) ?_
       refine TD.nil ⟨rfl, ?_⟩
       refine thn_normal ?_
       refine T.cH H (fun H h => ?_) (fun H h => ?_)
       ·refine au 6 ?_
        obtain ⟨e22, h23, H⟩ := bind_s H
        refine TL.st rfl rfl rfl (o_ixh (f := c_T_spec_l19X 2 false) rfl rfl tyS_54 rfl rfl rfl (List.length_map ..) h23 rfl) ?_
        refine TL.st rfl rfl rfl (o_fieldAddrEl rfl rfl rfl tyS_4 (by decide) rfl rfl (List.length_map ..)) ?_
        refine TL.sn rfl rfl (o_stEl (f := c_T_spec_l19X 2 false) (xs := b16.list_) (k := v17) (a := e22) ({ e22 with dead_ := true } : T_spec_l19X) rfl tyS_4 rfl rfl rfl (List.length_map ..) (by decide) h23 rfl rfl rfl (fun h => absurd rfl h) rfl) ?_
        refine TL.conv (Cs.eqS (σ := [.box ((c_T_impl_SessConf c0 b16.c_) ++ [.int .i64 b16.now_, .int .i64 b16.given_, .hd 1 b16.list_.length 0 b16.list_.length]), .arr .raw 7 ((b16.list_.set (Int.toNat v17) ({ e22 with dead_ := true } : T_spec_l19X)).map (c_T_spec_l19X 2 false)), .afm 1 (s2.map (c_ax (c_str))), .box (c_T_impl_SessEvent false a0), .box [.int .i64 0, .str e0, .str e0, .int .i64 0]]) (σ' := [.box ((c_T_impl_SessConf c0 b16.c_) ++ [.int .i64 b16.now_, .int .i64 b16.given_, .hd 1 (b16.list_.set (Int.toNat v17) ({ e22 with dead_ := true } : T_spec_l19X)).length 0 (b16.list_.set (Int.toNat v17) ({ e22 with dead_ := true } : T_spec_l19X)).length]), .arr .raw 7 ((b16.list_.set (Int.toNat v17) ({ e22 with dead_ := true } : T_spec_l19X)).map (c_T_spec_l19X 2 false)), .afm 1 (s2.map (c_ax (c_str))), .box (c_T_impl_SessEvent false a0), .box [.int .i64 0, .str e0, .str e0, .int .i64 0]]) (by simp only [List.length_map, List.length_set])) ?_
        refine TL.conv (Cs.eqV (t := 72) (v' := .hd 1 (b16.list_.set (Int.toNat v17) ({ e22 with dead_ := true } : T_spec_l19X)).length 0 (b16.list_.set (Int.toNat v17) ({ e22 with dead_ := true } : T_spec_l19X)).length) rfl (hd_lenR _ (List.length_set ..))) ?_
        refine TL.conv (Cs.eqV (t := 74) (v' := .el 1 (b16.list_.set (Int.toNat v17) ({ e22 with dead_ := true } : T_spec_l19X)).length (Int.toNat v17) 0) rfl (el_lenR _ _ _ (List.length_set ..))) ?_
        refine TL.conv (Cs.eqV (t := 75) (v' := .el 1 (b16.list_.set (Int.toNat v17) ({ e22 with dead_ := true } : T_spec_l19X)).length (Int.toNat v17) 1) rfl (el_lenR _ _ _ (List.length_set ..))) ?_
        refine TL.conv (Cs.eqV (t := 83) (v' := .hd 1 (b16.list_.set (Int.toNat v17) ({ e22 with dead_ := true } : T_spec_l19X)).length 0 (b16.list_.set (Int.toNat v17) ({ e22 with dead_ := true } : T_spec_l19X)).length) rfl (hd_lenR _ (List.length_set ..))) ?_
        refine TL.conv (Cs.eqV (t := 85) (v' := .el 1 (b16.list_.set (Int.toNat v17) ({ e22 with dead_ := true } : T_spec_l19X)).length (Int.toNat v17) 0) rfl (el_lenR _ _ _ (List.length_set ..))) ?_
        refine TL.conv (Cs.eqV (t := 86) (v' := .el 1 (b16.list_.set (Int.toNat v17) ({ e22 with dead_ := true } : T_spec_l19X)).length (Int.toNat v17) 6) rfl (el_lenR _ _ _ (List.length_set ..))) ?_
        refine au 5 ?_
        exact Pk.of (thn_normal ⟨(({ b16 with list_ := (b16.list_.set (Int.toNat v17) ({ e22 with dead_ := true } : T_spec_l19X)) } : T_spec_l19S), (IntKind.i64.wrap (v17 + 1))), (some_i H).symm, rfl, rfl⟩)
       ·refine au 5 ?_
        exact Pk.of (thn_normal ⟨(b16, (IntKind.i64.wrap (v17 + 1))), (some_i H).symm, rfl, rfl⟩)
      ·refine T.exit ?_
       refine thn_exit ?_
       exact Pk.of (thn_exit ⟨b16, (some_i H).symm, rfl, rfl, rfl⟩)
     ·rintro _ _ _ ⟨rfl, rfl, rfl⟩
      refine inB_here ?_
      refine au 8 ?_
      refine thn_ret ?_
      cases some_i H
      exact ⟨trivial, _, (.cell _ _ _ _ _ _ _ _ _ _ rfl rfl tyS_57 (nb rfl) rfl .nil), ⟨rfl, _, rfl⟩⟩
    ·refine au 12 ?_
     refine TL.st rfl rfl rfl (o_lenOwn (f := c_T_spec_l19X 2 false) rfl rfl rfl rfl (List.length_map ..)) ?_
     refine au 3 ?_
     obtain ⟨v28, h68, H⟩ := bind_s H
     refine T.lq (fun s => match s with | (v26, v27) => [(0, .bx 0 0), (3, .bx 3 0), (4, .bx 4 0), (7, .int .i64 v26), (94, .hd 1 s0.list_.length 0 s0.list_.length), (95, .int .i64 (s0.list_.length : Int)), (96, .int .i64 v27)]) (fun s => match s with | (v26, v27) => [.box (k_spec_l19S 1 2 c0 ({ s0 with now_ := a0.Time_ } : T_spec_l19S)), .arr .raw 7 (s0.list_.map (c_T_spec_l19X 2 false)), .afm 1 (s2.map (c_ax (c_str))), .box (c_T_impl_SessEvent false a0), .box [.int .i64 0, .str e0, .str e0, .int .i64 0]]) (fun q ex fr σ => match q with | v28 => ex = .exit 2 ∧ fr = [(0, .bx 0 0), (3, .bx 3 0), (4, .bx 4 0), (7, .int .i64 v28)] ∧ σ = [.box (k_spec_l19S 1 2 c0 ({ s0 with now_ := a0.Time_ } : T_spec_l19S)), .arr .raw 7 (s0.list_.map (c_T_spec_l19X 2 false)), .afm 1 (s2.map (c_ax (c_str))), .box (c_T_impl_SessEvent false a0), .box [.int .i64 0, .str e0, .str e0, .int .i64 0]]) h68 ?_ ?_
     ·rintro ⟨v26, v27⟩ y60 H
      refine au 5 ?_
      refine T.cH H (fun H h => ?_) (fun H h => ?_)
      ·refine au 6 ?_
       obtain ⟨e61, h62, H⟩ := bind_s H
       refine TL.st rfl rfl rfl (o_ixh (f := c_T_spec_l19X 2 false) rfl rfl tyS_54 rfl rfl rfl (List.length_map ..) h62 rfl) ?_
       refine TL.st rfl rfl rfl (o_loadEl rfl tyS_54 rfl rfl (List.length_map ..) (by rw [List.getElem?_map, (idx_s h62).2]; rfl) (nb rfl) rfl) ?_
       refine au 10 ?_
       obtain ⟨x63, h64, H⟩ := bind_s H
       obtain ⟨r65, h66, H⟩ := bind_s H
       refine TL.st rfl rfl rfl (o_callP rfl en_39 rfl rfl (.cons _ _ _ _ (.ax (f := c_str) h64 rfl) (.cons _ _ _ _ (.cl _ rfl) .nil)) (spec_l3Has_p true h66)) ?_
       refine TL.nil ?_
       refine T.cH H (fun H h => ?_) (fun H h => ?_)
       ·refine au 8 ?_
        exact Pk.of (thn_normal ⟨(v27, (IntKind.i64.wrap (v27 + 1))), (some_i H).symm, rfl, rfl⟩)
       ·refine au 5 ?_
        exact Pk.of (thn_normal ⟨(v26, (IntKind.i64.wrap (v27 + 1))), (some_i H).symm, rfl, rfl⟩)
      ·refine T.exit ?_
       refine thn_exit ?_
       exact Pk.of (thn_exit ⟨v26, (some_i H).symm, rfl, rfl, rfl⟩)
     ·rintro _ _ _ ⟨rfl, rfl, rfl⟩
      refine inB_here ?_
      refine au 6 ?_
      refine T.cH H (fun H h => ?_) (fun H h => ?_)
      ·refine au 2 ?_
       obtain ⟨r29, h30, H⟩ := bind_s H
       refine TL.st rfl rfl rfl (o_callP rfl en_37 rfl rfl (.cons _ _ _ _ (.cl _ rfl) .nil) (spec_l19Err_p  h30)) ?_
       refine au 3 ?_
       refine thn_ret ?_
       cases some_i H
       exact ⟨trivial, _, (.cell _ _ _ _ _ _ _ _ _ _ rfl rfl tyS_57 (nb rfl) rfl .nil), ⟨rfl, _, rfl⟩⟩
      ·refine au 8 ?_
       obtain ⟨e31, h32, H⟩ := bind_s H
       refine TL.st rfl rfl rfl (o_ixh (f := c_T_spec_l19X 2 false) rfl rfl tyS_54 rfl rfl rfl (List.length_map ..) h32 rfl) ?_
       refine au 4 ?_
       refine T.drawn rfl ?_
       refine TD.qs rfl rfl (fun _ => o_move rfl rfl) ?_
       refine TD.rs rfl rfl (o_nilCheckEl rfl rfl rfl (List.length_map ..)) ?_
       refine TD.rs rfl rfl (o_fieldAddrEl rfl rfl rfl tyS_52 (by decide) rfl rfl (List.length_map ..)) ?_
       refine TD.rs rfl rfl (o_loadEl rfl tyS_52 rfl rfl (List.length_map ..) (by rw [List.getElem?_map, (idx_s h32).2]; rfl) (nb rfl) rfl) ?_
       refine TD.qs rfl rfl (fun _ => o_move rfl rfl) ?_
       refine TD.rs rfl rfl (o_nilCheckEl rfl rfl rfl (List.length_map ..)) ?_
       refine TD.rs rfl rfl (o_fieldAddrEl rfl rfl rfl tyS_52 (by decide) rfl rfl (List.length_map ..)) ?_
       refine TD.rs rfl rfl (o_loadEl rfl tyS_52 rfl rfl (List.length_map ..) (by rw [List.getElem?_map, (idx_s h32).2]; rfl) (nb rfl) rfl) ?_
       obtain ⟨x33, h34, H⟩ := bind_s H
       refine TD.rs rfl rfl (o_lenX (f := c_str) (L := s2) (xs := x33) rfl rfl rfl rfl h34) ?_
       refine TD.qs rfl rfl (fun _ => o_ari rfl rfl rfl rfl) ?_
       obtain ⟨e35, h36, H⟩ := bind_s H
       refine TD.rs rfl rfl (o_ixX (f := c_str) (L := s2) (xs := x33) rfl rfl tyS_9 rfl rfl rfl h34 h36) ?_
       refine TD.rs rfl rfl (o_loadX (f := c_str) (L := s2) (xs := x33) (a0 := e35) rfl tyS_9 rfl rfl h34 h36 (nb rfl) rfl) ?_
       refine ad 2 ?_
       refine TD.qs rfl rfl (fun _ => o_str rfl rfl rfl rfl) ?_
       refine ad 2 ?_
       refine TD.cr rfl rfl rfl (.bool _) rfl (fun h => o_nilCheckEl rfl (gv h rfl) rfl (List.length_map ..)) ?_
       refine TD.cr rfl rfl rfl (.bool _) rfl (fun h => o_fieldAddrEl rfl rfl rfl tyS_9 (by decide) (gv h rfl) rfl (List.length_map ..)) ?_
       refine TD.cr rfl rfl rfl (.bool _) rfl (fun h => o_loadEl rfl tyS_9 (gv h rfl) rfl (List.length_map ..) (by rw [List.getElem?_map, (idx_s h32).2]; rfl) (nb rfl) rfl) ?_
       refine ad 2 ?_
       refine TD.cq rfl rfl rfl (.bool _) rfl (fun h _ => o_str rfl (gv h rfl) (gv h rfl) rfl) ?_
       refine TD.qs rfl rfl (fun _ => o_or rfl rfl rfl rfl (fun k => Gd_t k)) ?_
       refine TD.nil ⟨rfl, ?_⟩
       refine thn_normal ?_
       refine T.cH H (fun H h => ?_) (fun H h => ?_)
       ·refine au 3 ?_
        refine TL.st rfl rfl rfl (o_nilCheckEl rfl rfl rfl (List.length_map ..)) ?_
        refine TL.st rfl rfl rfl (o_fieldAddrEl rfl rfl rfl tyS_4 (by decide) rfl rfl (List.length_map ..)) ?_
        refine TL.sn rfl rfl (o_stEl (f := c_T_spec_l19X 2 false) (xs := s0.list_) (k := v28) (a := e31) ({ e31 with dead_ := true } : T_spec_l19X) rfl tyS_4 rfl rfl rfl (List.length_map ..) (by decide) h32 rfl rfl rfl (fun h => absurd rfl h) rfl) ?_
        refine TL.conv (Cs.eqS (σ := [.box ((c_T_impl_SessConf c0 s0.c_) ++ [.int .i64 a0.Time_, .int .i64 s0.given_, .hd 1 s0.list_.length 0 s0.list_.length]), .arr .raw 7 ((s0.list_.set (Int.toNat v28) ({ e31 with dead_ := true } : T_spec_l19X)).map (c_T_spec_l19X 2 false)), .afm 1 (s2.map (c_ax (c_str))), .box (c_T_impl_SessEvent false a0), .box [.int .i64 0, .str e0, .str e0, .int .i64 0]]) (σ' := [.box ((c_T_impl_SessConf c0 s0.c_) ++ [.int .i64 a0.Time_, .int .i64 s0.given_, .hd 1 (s0.list_.set (Int.toNat v28) ({ e31 with dead_ := true } : T_spec_l19X)).length 0 (s0.list_.set (Int.toNat v28) ({ e31 with dead_ := true } : T_spec_l19X)).length]), .arr .raw 7 ((s0.list_.set (Int.toNat v28) ({ e31 with dead_ := true } : T_spec_l19X)).map (c_T_spec_l19X 2 false)), .afm 1 (s2.map (c_ax (c_str))), .box (c_T_impl_SessEvent false a0), .box [.int .i64 0, .str e0, .str e0, .int .i64 0]]) (by simp only [List.length_map, List.length_set])) ?_
        refine TL.conv (Cs.eqV (t := 10) (v' := .el 1 (s0.list_.set (Int.toNat v28) ({ e31 with dead_ := true } : T_spec_l19X)).length (Int.toNat v28) 0) rfl (el_lenR _ _ _ (List.length_set ..))) ?_
        refine TL.conv (Cs.eqV (t := 114) (v' := .hd 1 (s0.list_.set (Int.toNat v28) ({ e31 with dead_ := true } : T_spec_l19X)).length 0 (s0.list_.set (Int.toNat v28) ({ e31 with dead_ := true } : T_spec_l19X)).length) rfl (hd_lenR _ (List.length_set ..))) ?_
        refine TL.conv (Cs.eqV (t := 116) (v' := .el 1 (s0.list_.set (Int.toNat v28) ({ e31 with dead_ := true } : T_spec_l19X)).length (Int.toNat v28) 0) rfl (el_lenR _ _ _ (List.length_set ..))) ?_
        refine TL.conv (Cs.eqV (t := 117) (v' := .el 1 (s0.list_.set (Int.toNat v28) ({ e31 with dead_ := true } : T_spec_l19X)).length (Int.toNat v28) 0) rfl (el_lenR _ _ _ (List.length_set ..))) ?_
        refine TL.conv (Cs.eqV (t := 118) (v' := .el 1 (s0.list_.set (Int.toNat v28) ({ e31 with dead_ := true } : T_spec_l19X)).length (Int.toNat v28) 0) rfl (el_lenR _ _ _ (List.length_set ..))) ?_
        refine TL.conv (Cs.eqV (t := 119) (v' := .el 1 (s0.list_.set (Int.toNat v28) ({ e31 with dead_ := true } : T_spec_l19X)).length (Int.toNat v28) 0) rfl (el_lenR _ _ _ (List.length_set ..))) ?_
        refine TL.conv (Cs.eqV (t := 121) (v' := .el 1 (s0.list_.set (Int.toNat v28) ({ e31 with dead_ := true } : T_spec_l19X)).length (Int.toNat v28) 0) rfl (el_lenR _ _ _ (List.length_set ..))) ?_
        refine TL.conv (Cs.eqV (t := 122) (v' := .el 1 (s0.list_.set (Int.toNat v28) ({ e31 with dead_ := true } : T_spec_l19X)).length (Int.toNat v28) 0) rfl (el_lenR _ _ _ (List.length_set ..))) ?_
        refine TL.conv (Cs.eqV (t := 123) (v' := .el 1 (s0.list_.set (Int.toNat v28) ({ e31 with dead_ := true } : T_spec_l19X)).length (Int.toNat v28) 0) rfl (el_lenR _ _ _ (List.length_set ..))) ?_
        refine TL.conv (Cs.eqV (t := 141) (v' := .el 1 (s0.list_.set (Int.toNat v28) ({ e31 with dead_ := true } : T_spec_l19X)).length (Int.toNat v28) 0) rfl (el_lenR _ _ _ (List.length_set ..))) ?_
        refine TL.conv (Cs.eqV (t := 142) (v' := .el 1 (s0.list_.set (Int.toNat v28) ({ e31 with dead_ := true } : T_spec_l19X)).length (Int.toNat v28) 0) rfl (el_lenR _ _ _ (List.length_set ..))) ?_
        refine TL.conv (Cs.eqV (t := 143) (v' := .el 1 (s0.list_.set (Int.toNat v28) ({ e31 with dead_ := true } : T_spec_l19X)).length (Int.toNat v28) 6) rfl (el_lenR _ _ _ (List.length_set ..))) ?_
        refine au 3 ?_
        obtain ⟨r37, h38, H⟩ := bind_s H
        refine TL.st rfl rfl rfl (o_callP rfl en_37 rfl rfl (.cons _ _ _ _ (.cl _ rfl) .nil) (spec_l19Err_p  h38)) ?_
        refine au 3 ?_
        refine thn_ret ?_
        cases some_i H
        exact ⟨trivial, _, (.cell _ _ _ _ _ _ _ _ _ _ rfl rfl tyS_57 (nb rfl) rfl .nil), ⟨rfl, _, rfl⟩⟩
       ·refine au 5 ?_
        refine TL.st rfl rfl rfl (o_nilCheckEl rfl rfl rfl (List.length_map ..)) ?_
        refine TL.st rfl rfl rfl (o_fieldAddrEl rfl rfl rfl tyS_4 (by decide) rfl rfl (List.length_map ..)) ?_
        refine TL.st rfl rfl rfl (o_loadEl rfl tyS_4 rfl rfl (List.length_map ..) (by rw [List.getElem?_map, (idx_s h32).2]; rfl) (nb rfl) rfl) ?_
        refine TL.nil ?_
        refine T.cH H (fun H h => ?_) (fun H h => ?_)
        ·refine au 2 ?_
         obtain ⟨r39, h40, H⟩ := bind_s H
         refine TL.st rfl rfl rfl (o_callP rfl en_37 rfl rfl (.cons _ _ _ _ (.cl _ rfl) .nil) (spec_l19Err_p  h40)) ?_
         refine au 3 ?_
         refine thn_ret ?_
         cases some_i H
         exact ⟨trivial, _, (.cell _ _ _ _ _ _ _ _ _ _ rfl rfl tyS_57 (nb rfl) rfl .nil), ⟨rfl, _, rfl⟩⟩
        ·refine au 3 ?_
         refine T.drawn rfl ?_
         refine ad 2 ?_
         refine TD.rs rfl rfl (o_nilCheckEl rfl rfl rfl (List.length_map ..)) ?_
         refine TD.rs rfl rfl (o_loadEl rfl tyS_54 rfl rfl (List.length_map ..) (by rw [List.getElem?_map, (idx_s h32).2]; rfl) (nb rfl) rfl) ?_
         refine ad 4 ?_
         obtain ⟨r41, h42, H⟩ := bind_s H
         refine TD.rs rfl rfl (o_callM [0, 1, 2] rfl en_21 rfl rfl (spec_l19S_over_p c0 h42) rfl (by decide) (.cons _ _ _ _ rfl (.cons _ _ _ _ (ren_at rfl (ren_rawO fun _ => rfl)) (.cons _ _ _ _ rfl .nil))) rfl rfl (.cons _ _ _ _ rfl (.cons _ _ _ _ (ren_rawO fun _ => rfl) (.cons _ _ _ _ rfl .nil))) rfl) ?_
         refine TD.nil ⟨rfl, ?_⟩
         refine thn_normal ?_
         refine T.cH H (fun H h => ?_) (fun H h => ?_)
         ·refine au 2 ?_
          obtain ⟨r43, h44, H⟩ := bind_s H
          refine TL.st rfl rfl rfl (o_callP rfl en_37 rfl rfl (.cons _ _ _ _ (.cl _ rfl) .nil) (spec_l19Err_p  h44)) ?_
          refine au 3 ?_
          refine thn_ret ?_
          cases some_i H
          exact ⟨trivial, _, (.cell _ _ _ _ _ _ _ _ _ _ rfl rfl tyS_57 (nb rfl) rfl .nil), ⟨rfl, _, rfl⟩⟩
         ·refine au 8 ?_
          refine TL.st rfl rfl rfl (o_nilCheckEl rfl rfl rfl (List.length_map ..)) ?_
          refine TL.st rfl rfl rfl (o_fieldAddrEl rfl rfl rfl tyS_3 (by decide) rfl rfl (List.length_map ..)) ?_
          refine TL.sn rfl rfl (o_stEl (f := c_T_spec_l19X 2 false) (xs := s0.list_) (k := v28) (a := e31) ({ e31 with last_ := a0.Time_ } : T_spec_l19X) rfl tyS_3 rfl rfl rfl (List.length_map ..) (by decide) h32 rfl rfl rfl (fun h => absurd rfl h) rfl) ?_
          refine TL.conv (Cs.eqS (σ := [.box ((c_T_impl_SessConf c0 s0.c_) ++ [.int .i64 a0.Time_, .int .i64 s0.given_, .hd 1 s0.list_.length 0 s0.list_.length]), .arr .raw 7 ((s0.list_.set (Int.toNat v28) ({ e31 with last_ := a0.Time_ } : T_spec_l19X)).map (c_T_spec_l19X 2 false)), .afm 1 (s2.map (c_ax (c_str))), .box (c_T_impl_SessEvent false a0), .box [.int .i64 0, .str e0, .str e0, .int .i64 0]]) (σ' := [.box ((c_T_impl_SessConf c0 s0.c_) ++ [.int .i64 a0.Time_, .int .i64 s0.given_, .hd 1 (s0.list_.set (Int.toNat v28) ({ e31 with last_ := a0.Time_ } : T_spec_l19X)).length 0 (s0.list_.set (Int.toNat v28) ({ e31 with last_ := a0.Time_ } : T_spec_l19X)).length]), .arr .raw 7 ((s0.list_.set (Int.toNat v28) ({ e31 with last_ := a0.Time_ } : T_spec_l19X)).map (c_T_spec_l19X 2 false)), .afm 1 (s2.map (c_ax (c_str))), .box (c_T_impl_SessEvent false a0), .box [.int .i64 0, .str e0, .str e0, .int .i64 0]]) (by simp only [List.length_map, List.length_set])) ?_
          refine TL.conv (Cs.eqV (t := 10) (v' := .el 1 (s0.list_.set (Int.toNat v28) ({ e31 with last_ := a0.Time_ } : T_spec_l19X)).length (Int.toNat v28) 0) rfl (el_lenR _ _ _ (List.length_set ..))) ?_
          refine TL.conv (Cs.eqV (t := 114) (v' := .hd 1 (s0.list_.set (Int.toNat v28) ({ e31 with last_ := a0.Time_ } : T_spec_l19X)).length 0 (s0.list_.set (Int.toNat v28) ({ e31 with last_ := a0.Time_ } : T_spec_l19X)).length) rfl (hd_lenR _ (List.length_set ..))) ?_
          refine TL.conv (Cs.eqV (t := 116) (v' := .el 1 (s0.list_.set (Int.toNat v28) ({ e31 with last_ := a0.Time_ } : T_spec_l19X)).length (Int.toNat v28) 0) rfl (el_lenR _ _ _ (List.length_set ..))) ?_
          refine TL.conv (Cs.eqV (t := 117) (v' := .el 1 (s0.list_.set (Int.toNat v28) ({ e31 with last_ := a0.Time_ } : T_spec_l19X)).length (Int.toNat v28) 0) rfl (el_lenR _ _ _ (List.length_set ..))) ?_
          refine TL.conv (Cs.eqV (t := 118) (v' := .el 1 (s0.list_.set (Int.toNat v28) ({ e31 with last_ := a0.Time_ } : T_spec_l19X)).length (Int.toNat v28) 0) rfl (el_lenR _ _ _ (List.length_set ..))) ?_
          refine TL.conv (Cs.eqV (t := 119) (v' := .el 1 (s0.list_.set (Int.toNat v28) ({ e31 with last_ := a0.Time_ } : T_spec_l19X)).length (Int.toNat v28) 0) rfl (el_lenR _ _ _ (List.length_set ..))) ?_
          refine TL.conv (Cs.eqV (t := 121) (v' := .el 1 (s0.list_.set (Int.toNat v28) ({ e31 with last_ := a0.Time_ } : T_spec_l19X)).length (Int.toNat v28) 0) rfl (el_lenR _ _ _ (List.length_set ..))) ?_
          refine TL.conv (Cs.eqV (t := 122) (v' := .el 1 (s0.list_.set (Int.toNat v28) ({ e31 with last_ := a0.Time_ } : T_spec_l19X)).length (Int.toNat v28) 0) rfl (el_lenR _ _ _ (List.length_set ..))) ?_
          refine TL.conv (Cs.eqV (t := 123) (v' := .el 1 (s0.list_.set (Int.toNat v28) ({ e31 with last_ := a0.Time_ } : T_spec_l19X)).length (Int.toNat v28) 0) rfl (el_lenR _ _ _ (List.length_set ..))) ?_
          refine TL.conv (Cs.eqV (t := 145) (v' := .el 1 (s0.list_.set (Int.toNat v28) ({ e31 with last_ := a0.Time_ } : T_spec_l19X)).length (Int.toNat v28) 0) rfl (el_lenR _ _ _ (List.length_set ..))) ?_
          refine TL.conv (Cs.eqV (t := 146) (v' := .el 1 (s0.list_.set (Int.toNat v28) ({ e31 with last_ := a0.Time_ } : T_spec_l19X)).length (Int.toNat v28) 0) rfl (el_lenR _ _ _ (List.length_set ..))) ?_
          refine TL.conv (Cs.eqV (t := 147) (v' := .el 1 (s0.list_.set (Int.toNat v28) ({ e31 with last_ := a0.Time_ } : T_spec_l19X)).length (Int.toNat v28) 6) rfl (el_lenR _ _ _ (List.length_set ..))) ?_
          refine TL.conv (Cs.eqV (t := 151) (v' := .el 1 (s0.list_.set (Int.toNat v28) ({ e31 with last_ := a0.Time_ } : T_spec_l19X)).length (Int.toNat v28) 0) rfl (el_lenR _ _ _ (List.length_set ..))) ?_
          refine TL.conv (Cs.eqV (t := 152) (v' := .el 1 (s0.list_.set (Int.toNat v28) ({ e31 with last_ := a0.Time_ } : T_spec_l19X)).length (Int.toNat v28) 0) rfl (el_lenR _ _ _ (List.length_set ..))) ?_
          refine TL.conv (Cs.eqV (t := 160) (v' := .el 1 (s0.list_.set (Int.toNat v28) ({ e31 with last_ := a0.Time_ } : T_spec_l19X)).length (Int.toNat v28) 0) rfl (el_lenR _ _ _ (List.length_set ..))) ?_
          refine TL.conv (Cs.eqV (t := 165) (v' := .el 1 (s0.list_.set (Int.toNat v28) ({ e31 with last_ := a0.Time_ } : T_spec_l19X)).length (Int.toNat v28) 0) rfl (el_lenR _ _ _ (List.length_set ..))) ?_
          refine TL.conv (Cs.eqV (t := 166) (v' := .el 1 (s0.list_.set (Int.toNat v28) ({ e31 with last_ := a0.Time_ } : T_spec_l19X)).length (Int.toNat v28) 5) rfl (el_lenR _ _ _ (List.length_set ..))) ?_
          refine TL.nil ?_
          refine T.cut (fun fr' σ' => ∃ (b45 : T_spec_l19S) (f46 : List (Option (List ByteArray))), fr' = [(4, .bx 4 0), (10, .el 1 b45.list_.length (Int.toNat v28) 0)] ∧ σ' = [.box (k_spec_l19S 1 2 c0 b45), .arr .raw 7 (b45.list_.map (c_T_spec_l19X 2 false)), .afm 1 (f46.map (c_ax (c_str))), .box (c_T_impl_SessEvent false a0), .box [.int .i64 0, .str e0, .str e0, .int .i64 0]] ∧ spec_l19S_do_j1 v28 b45 f46 = some (R0, U0, U2)) (T.pk ?_) ?_
          ·skip
           refine au 11 ?_
           refine T.cH H (fun H h => ?_) (fun H h => ?_)
           ·refine au 4 ?_
            refine TL.st rfl rfl rfl (o_nilCheckEl rfl rfl rfl (List.length_map ..)) ?_
            refine TL.st rfl rfl rfl (o_fieldAddrEl rfl rfl rfl tyS_3 (by decide) rfl rfl (List.length_map ..)) ?_
            refine TL.st rfl rfl rfl (o_loadEl rfl tyS_3 rfl rfl (List.length_map ..) (by rw [List.getElem?_map, (idx_s (idx_set h32)).2]; rfl) (nb rfl) rfl) ?_
            refine TL.st rfl rfl rfl (o_ari rfl rfl rfl rfl) ?_
            obtain ⟨r51, h52, H⟩ := bind_s H
            refine TL.st rfl rfl rfl (o_callP rfl en_40 rfl rfl (.cons _ _ _ _ (.cl _ rfl) (.cons _ _ _ _ (.cl _ rfl) .nil)) (spec_l15Lesser_p  h52)) ?_
            refine TL.st rfl rfl rfl (o_nilCheckEl rfl rfl rfl (List.length_map ..)) ?_
            refine TL.st rfl rfl rfl (o_fieldAddrEl rfl rfl rfl tyS_3 (by decide) rfl rfl (List.length_map ..)) ?_
            refine TL.sn rfl rfl (o_stEl (f := c_T_spec_l19X 2 false) (xs := (s0.list_.set (Int.toNat v28) ({ e31 with last_ := a0.Time_ } : T_spec_l19X))) (k := v28) (a := ({ e31 with last_ := a0.Time_ } : T_spec_l19X)) ({ e31 with level_ := r51, last_ := a0.Time_ } : T_spec_l19X) rfl tyS_3 rfl rfl rfl (List.length_map ..) (by decide) (idx_set h32) rfl rfl rfl (fun h => absurd rfl h) rfl) ?_
            refine TL.conv (Cs.eqS (σ := [.box ((c_T_impl_SessConf c0 s0.c_) ++ [.int .i64 a0.Time_, .int .i64 s0.given_, .hd 1 (s0.list_.set (Int.toNat v28) ({ e31 with last_ := a0.Time_ } : T_spec_l19X)).length 0 (s0.list_.set (Int.toNat v28) ({ e31 with last_ := a0.Time_ } : T_spec_l19X)).length]), .arr .raw 7 (((s0.list_.set (Int.toNat v28) ({ e31 with last_ := a0.Time_ } : T_spec_l19X)).set (Int.toNat v28) ({ e31 with level_ := r51, last_ := a0.Time_ } : T_spec_l19X)).map (c_T_spec_l19X 2 false)), .afm 1 (s2.map (c_ax (c_str))), .box (c_T_impl_SessEvent false a0), .box [.int .i64 0, .str e0, .str e0, .int .i64 0]]) (σ' := [.box ((c_T_impl_SessConf c0 s0.c_) ++ [.int .i64 a0.Time_, .int .i64 s0.given_, .hd 1 ((s0.list_.set (Int.toNat v28) ({ e31 with last_ := a0.Time_ } : T_spec_l19X)).set (Int.toNat v28) ({ e31 with level_ := r51, last_ := a0.Time_ } : T_spec_l19X)).length 0 ((s0.list_.set (Int.toNat v28) ({ e31 with last_ := a0.Time_ } : T_spec_l19X)).set (Int.toNat v28) ({ e31 with level_ := r51, last_ := a0.Time_ } : T_spec_l19X)).length]), .arr .raw 7 (((s0.list_.set (Int.toNat v28) ({ e31 with last_ := a0.Time_ } : T_spec_l19X)).set (Int.toNat v28) ({ e31 with level_ := r51, last_ := a0.Time_ } : T_spec_l19X)).map (c_T_spec_l19X 2 false)), .afm 1 (s2.map (c_ax (c_str))), .box (c_T_impl_SessEvent false a0), .box [.int .i64 0, .str e0, .str e0, .int .i64 0]]) (by simp only [List.length_map, List.length_set])) ?_
            refine TL.conv (Cs.eqV (t := 10) (v' := .el 1 ((s0.list_.set (Int.toNat v28) ({ e31 with last_ := a0.Time_ } : T_spec_l19X)).set (Int.toNat v28) ({ e31 with level_ := r51, last_ := a0.Time_ } : T_spec_l19X)).length (Int.toNat v28) 0) rfl (el_lenR _ _ _ (List.length_set ..))) ?_
            refine TL.conv (Cs.eqV (t := 114) (v' := .hd 1 ((s0.list_.set (Int.toNat v28) ({ e31 with last_ := a0.Time_ } : T_spec_l19X)).set (Int.toNat v28) ({ e31 with level_ := r51, last_ := a0.Time_ } : T_spec_l19X)).length 0 ((s0.list_.set (Int.toNat v28) ({ e31 with last_ := a0.Time_ } : T_spec_l19X)).set (Int.toNat v28) ({ e31 with level_ := r51, last_ := a0.Time_ } : T_spec_l19X)).length) rfl (hd_lenR _ (List.length_set ..))) ?_
            refine TL.conv (Cs.eqV (t := 116) (v' := .el 1 ((s0.list_.set (Int.toNat v28) ({ e31 with last_ := a0.Time_ } : T_spec_l19X)).set (Int.toNat v28) ({ e31 with level_ := r51, last_ := a0.Time_ } : T_spec_l19X)).length (Int.toNat v28) 0) rfl (el_lenR _ _ _ (List.length_set ..))) ?_
            refine TL.conv (Cs.eqV (t := 117) (v' := .el 1 ((s0.list_.set (Int.toNat v28) ({ e31 with last_ := a0.Time_ } : T_spec_l19X)).set (Int.toNat v28) ({ e31 with level_ := r51, last_ := a0.Time_ } : T_spec_l19X)).length (Int.toNat v28) 0) rfl (el_lenR _ _ _ (List.length_set ..))) ?_
            refine TL.conv (Cs.eqV (t := 118) (v' := .el 1 ((s0.list_.set (Int.toNat v28) ({ e31 with last_ := a0.Time_ } : T_spec_l19X)).set (Int.toNat v28) ({ e31 with level_ := r51, last_ := a0.Time_ } : T_spec_l19X)).length (Int.toNat v28) 0) rfl (el_lenR _ _ _ (List.length_set ..))) ?_
            refine TL.conv (Cs.eqV (t := 119) (v' := .el 1 ((s0.list_.set (Int.toNat v28) ({ e31 with last_ := a0.Time_ } : T_spec_l19X)).set (Int.toNat v28) ({ e31 with level_ := r51, last_ := a0.Time_ } : T_spec_l19X)).length (Int.toNat v28) 0) rfl (el_lenR _ _ _ (List.length_set ..))) ?_
            refine TL.conv (Cs.eqV (t := 121) (v' := .el 1 ((s0.list_.set (Int.toNat v28) ({ e31 with last_ := a0.Time_ } : T_spec_l19X)).set (Int.toNat v28) ({ e31 with level_ := r51, last_ := a0.Time_ } : T_spec_l19X)).length (Int.toNat v28) 0) rfl (el_lenR _ _ _ (List.length_set ..))) ?_
            refine TL.conv (Cs.eqV (t := 122) (v' := .el 1 ((s0.list_.set (Int.toNat v28) ({ e31 with last_ := a0.Time_ } : T_spec_l19X)).set (Int.toNat v28) ({ e31 with level_ := r51, last_ := a0.Time_ } : T_spec_l19X)).length (Int.toNat v28) 0) rfl (el_lenR _ _ _ (List.length_set ..))) ?_
            refine TL.conv (Cs.eqV (t := 123) (v' := .el 1 ((s0.list_.set (Int.toNat v28) ({ e31 with last_ := a0.Time_ } : T_spec_l19X)).set (Int.toNat v28) ({ e31 with level_ := r51, last_ := a0.Time_ } : T_spec_l19X)).length (Int.toNat v28) 0) rfl (el_lenR _ _ _ (List.length_set ..))) ?_
            refine TL.conv (Cs.eqV (t := 145) (v' := .el 1 ((s0.list_.set (Int.toNat v28) ({ e31 with last_ := a0.Time_ } : T_spec_l19X)).set (Int.toNat v28) ({ e31 with level_ := r51, last_ := a0.Time_ } : T_spec_l19X)).length (Int.toNat v28) 0) rfl (el_lenR _ _ _ (List.length_set ..))) ?_
            refine TL.conv (Cs.eqV (t := 146) (v' := .el 1 ((s0.list_.set (Int.toNat v28) ({ e31 with last_ := a0.Time_ } : T_spec_l19X)).set (Int.toNat v28) ({ e31 with level_ := r51, last_ := a0.Time_ } : T_spec_l19X)).length (Int.toNat v28) 0) rfl (el_lenR _ _ _ (List.length_set ..))) ?_
            refine TL.conv (Cs.eqV (t := 147) (v' := .el 1 ((s0.list_.set (Int.toNat v28) ({ e31 with last_ := a0.Time_ } : T_spec_l19X)).set (Int.toNat v28) ({ e31 with level_ := r51, last_ := a0.Time_ } : T_spec_l19X)).length (Int.toNat v28) 6) rfl (el_lenR _ _ _ (List.length_set ..))) ?_
            refine TL.conv (Cs.eqV (t := 151) (v' := .el 1 ((s0.list_.set (Int.toNat v28) ({ e31 with last_ := a0.Time_ } : T_spec_l19X)).set (Int.toNat v28) ({ e31 with level_ := r51, last_ := a0.Time_ } : T_spec_l19X)).length (Int.toNat v28) 0) rfl (el_lenR _ _ _ (List.length_set ..))) ?_
            refine TL.conv (Cs.eqV (t := 152) (v' := .el 1 ((s0.list_.set (Int.toNat v28) ({ e31 with last_ := a0.Time_ } : T_spec_l19X)).set (Int.toNat v28) ({ e31 with level_ := r51, last_ := a0.Time_ } : T_spec_l19X)).length (Int.toNat v28) 0) rfl (el_lenR _ _ _ (List.length_set ..))) ?_
            refine TL.conv (Cs.eqV (t := 160) (v' := .el 1 ((s0.list_.set (Int.toNat v28) ({ e31 with last_ := a0.Time_ } : T_spec_l19X)).set (Int.toNat v28) ({ e31 with level_ := r51, last_ := a0.Time_ } : T_spec_l19X)).length (Int.toNat v28) 0) rfl (el_lenR _ _ _ (List.length_set ..))) ?_
            refine TL.conv (Cs.eqV (t := 165) (v' := .el 1 ((s0.list_.set (Int.toNat v28) ({ e31 with last_ := a0.Time_ } : T_spec_l19X)).set (Int.toNat v28) ({ e31 with level_ := r51, last_ := a0.Time_ } : T_spec_l19X)).length (Int.toNat v28) 0) rfl (el_lenR _ _ _ (List.length_set ..))) ?_
            refine TL.conv (Cs.eqV (t := 166) (v' := .el 1 ((s0.list_.set (Int.toNat v28) ({ e31 with last_ := a0.Time_ } : T_spec_l19X)).set (Int.toNat v28) ({ e31 with level_ := r51, last_ := a0.Time_ } : T_spec_l19X)).length (Int.toNat v28) 5) rfl (el_lenR _ _ _ (List.length_set ..))) ?_
            refine TL.conv (Cs.eqV (t := 171) (v' := .el 1 ((s0.list_.set (Int.toNat v28) ({ e31 with last_ := a0.Time_ } : T_spec_l19X)).set (Int.toNat v28) ({ e31 with level_ := r51, last_ := a0.Time_ } : T_spec_l19X)).length (Int.toNat v28) 0) rfl (el_lenR _ _ _ (List.length_set ..))) ?_
            refine TL.conv (Cs.eqV (t := 172) (v' := .el 1 ((s0.list_.set (Int.toNat v28) ({ e31 with last_ := a0.Time_ } : T_spec_l19X)).set (Int.toNat v28) ({ e31 with level_ := r51, last_ := a0.Time_ } : T_spec_l19X)).length (Int.toNat v28) 0) rfl (el_lenR _ _ _ (List.length_set ..))) ?_
            refine TL.conv (Cs.eqV (t := 173) (v' := .el 1 ((s0.list_.set (Int.toNat v28) ({ e31 with last_ := a0.Time_ } : T_spec_l19X)).set (Int.toNat v28) ({ e31 with level_ := r51, last_ := a0.Time_ } : T_spec_l19X)).length (Int.toNat v28) 0) rfl (el_lenR _ _ _ (List.length_set ..))) ?_
            refine TL.conv (Cs.eqV (t := 174) (v' := .el 1 ((s0.list_.set (Int.toNat v28) ({ e31 with last_ := a0.Time_ } : T_spec_l19X)).set (Int.toNat v28) ({ e31 with level_ := r51, last_ := a0.Time_ } : T_spec_l19X)).length (Int.toNat v28) 3) rfl (el_lenR _ _ _ (List.length_set ..))) ?_
            refine TL.conv (Cs.eqV (t := 178) (v' := .el 1 ((s0.list_.set (Int.toNat v28) ({ e31 with last_ := a0.Time_ } : T_spec_l19X)).set (Int.toNat v28) ({ e31 with level_ := r51, last_ := a0.Time_ } : T_spec_l19X)).length (Int.toNat v28) 0) rfl (el_lenR _ _ _ (List.length_set ..))) ?_
            refine TL.conv (Cs.eqV (t := 179) (v' := .el 1 ((s0.list_.set (Int.toNat v28) ({ e31 with last_ := a0.Time_ } : T_spec_l19X)).set (Int.toNat v28) ({ e31 with level_ := r51, last_ := a0.Time_ } : T_spec_l19X)).length (Int.toNat v28) 3) rfl (el_lenR _ _ _ (List.length_set ..))) ?_
            refine TL.nil ?_
            refine thn_normal ?_
            obtain ⟨⟨r53, o54⟩, h55, H⟩ := bind_s H
            obtain ⟨u56, h57, H⟩ := bind_s H
            obtain ⟨l58, h59, H⟩ := bind_s H
            refine T.drawS (fr' := [(0, .bx 0 0), (3, .bx 3 0), (4, .bx 4 0), (7, .int .i64 v28), (10, .el 1 ((s0.list_.set (Int.toNat v28) ({ e31 with last_ := a0.Time_ } : T_spec_l19X)).set (Int.toNat v28) ({ e31 with level_ := r51, last_ := a0.Time_ } : T_spec_l19X)).length (Int.toNat v28) 0), (108, .int .i64 v28), (109, .bool (decide (v28 < 0))), (111, .bx 0 0), (112, .bx 0 0), (113, .bx 0 5), (114, .hd 1 ((s0.list_.set (Int.toNat v28) ({ e31 with last_ := a0.Time_ } : T_spec_l19X)).set (Int.toNat v28) ({ e31 with level_ := r51, last_ := a0.Time_ } : T_spec_l19X)).length 0 ((s0.list_.set (Int.toNat v28) ({ e31 with last_ := a0.Time_ } : T_spec_l19X)).set (Int.toNat v28) ({ e31 with level_ := r51, last_ := a0.Time_ } : T_spec_l19X)).length), (115, .int .i64 v28), (116, .el 1 ((s0.list_.set (Int.toNat v28) ({ e31 with last_ := a0.Time_ } : T_spec_l19X)).set (Int.toNat v28) ({ e31 with level_ := r51, last_ := a0.Time_ } : T_spec_l19X)).length (Int.toNat v28) 0), (117, .el 1 ((s0.list_.set (Int.toNat v28) ({ e31 with last_ := a0.Time_ } : T_spec_l19X)).set (Int.toNat v28) ({ e31 with level_ := r51, last_ := a0.Time_ } : T_spec_l19X)).length (Int.toNat v28) 0), (118, .el 1 ((s0.list_.set (Int.toNat v28) ({ e31 with last_ := a0.Time_ } : T_spec_l19X)).set (Int.toNat v28) ({ e31 with level_ := r51, last_ := a0.Time_ } : T_spec_l19X)).length (Int.toNat v28) 0), (119, .el 1 ((s0.list_.set (Int.toNat v28) ({ e31 with last_ := a0.Time_ } : T_spec_l19X)).set (Int.toNat v28) ({ e31 with level_ := r51, last_ := a0.Time_ } : T_spec_l19X)).length (Int.toNat v28) 0), (120, .px 2 0 e31.ids_ 0), (121, .el 1 ((s0.list_.set (Int.toNat v28) ({ e31 with last_ := a0.Time_ } : T_spec_l19X)).set (Int.toNat v28) ({ e31 with level_ := r51, last_ := a0.Time_ } : T_spec_l19X)).length (Int.toNat v28) 0), (122, .el 1 ((s0.list_.set (Int.toNat v28) ({ e31 with last_ := a0.Time_ } : T_spec_l19X)).set (Int.toNat v28) ({ e31 with level_ := r51, last_ := a0.Time_ } : T_spec_l19X)).length (Int.toNat v28) 0), (123, .el 1 ((s0.list_.set (Int.toNat v28) ({ e31 with last_ := a0.Time_ } : T_spec_l19X)).set (Int.toNat v28) ({ e31 with level_ := r51, last_ := a0.Time_ } : T_spec_l19X)).length (Int.toNat v28) 0), (124, .px 2 0 e31.ids_ 0), (125, .int .i64 (x33.length : Int)), (126, .int .i64 (IntKind.i64.wrap ((x33.length : Int) - 1))), (128, .str e35), (129, .bx 3 4), (130, .str a0.Id_), (131, .bool (!(e35.toList == a0.Id_.toList))), (132, .bool (!(e35.toList == a0.Id_.toList))), (140, .bool ((!(e35.toList == a0.Id_.toList)) || (!(e31.device_.toList == a0.Device_.toList)))), (145, .el 1 ((s0.list_.set (Int.toNat v28) ({ e31 with last_ := a0.Time_ } : T_spec_l19X)).set (Int.toNat v28) ({ e31 with level_ := r51, last_ := a0.Time_ } : T_spec_l19X)).length (Int.toNat v28) 0), (146, .el 1 ((s0.list_.set (Int.toNat v28) ({ e31 with last_ := a0.Time_ } : T_spec_l19X)).set (Int.toNat v28) ({ e31 with level_ := r51, last_ := a0.Time_ } : T_spec_l19X)).length (Int.toNat v28) 0), (147, .el 1 ((s0.list_.set (Int.toNat v28) ({ e31 with last_ := a0.Time_ } : T_spec_l19X)).set (Int.toNat v28) ({ e31 with level_ := r51, last_ := a0.Time_ } : T_spec_l19X)).length (Int.toNat v28) 6), (148, .bool e31.dead_), (150, .bx 0 0), (151, .el 1 ((s0.list_.set (Int.toNat v28) ({ e31 with last_ := a0.Time_ } : T_spec_l19X)).set (Int.toNat v28) ({ e31 with level_ := r51, last_ := a0.Time_ } : T_spec_l19X)).length (Int.toNat v28) 0), (152, .el 1 ((s0.list_.set (Int.toNat v28) ({ e31 with last_ := a0.Time_ } : T_spec_l19X)).set (Int.toNat v28) ({ e31 with level_ := r51, last_ := a0.Time_ } : T_spec_l19X)).length (Int.toNat v28) 0), (153, .agg (c_T_spec_l19X 2 false e31)), (154, .bx 0 0), (155, .bx 0 0), (156, .bx 0 3), (157, .int .i64 a0.Time_), (158, .bool r41), (160, .el 1 ((s0.list_.set (Int.toNat v28) ({ e31 with last_ := a0.Time_ } : T_spec_l19X)).set (Int.toNat v28) ({ e31 with level_ := r51, last_ := a0.Time_ } : T_spec_l19X)).length (Int.toNat v28) 0), (161, .bx 0 0), (162, .bx 0 0), (163, .bx 0 3), (164, .int .i64 a0.Time_), (165, .el 1 ((s0.list_.set (Int.toNat v28) ({ e31 with last_ := a0.Time_ } : T_spec_l19X)).set (Int.toNat v28) ({ e31 with level_ := r51, last_ := a0.Time_ } : T_spec_l19X)).length (Int.toNat v28) 0), (166, .el 1 ((s0.list_.set (Int.toNat v28) ({ e31 with last_ := a0.Time_ } : T_spec_l19X)).set (Int.toNat v28) ({ e31 with level_ := r51, last_ := a0.Time_ } : T_spec_l19X)).length (Int.toNat v28) 5), (167, .bx 3 0), (168, .int .i64 a0.Kind_), (169, .bool (a0.Kind_ == 3)), (170, .bool (a0.Kind_ == 3)), (171, .el 1 ((s0.list_.set (Int.toNat v28) ({ e31 with last_ := a0.Time_ } : T_spec_l19X)).set (Int.toNat v28) ({ e31 with level_ := r51, last_ := a0.Time_ } : T_spec_l19X)).length (Int.toNat v28) 0), (172, .el 1 ((s0.list_.set (Int.toNat v28) ({ e31 with last_ := a0.Time_ } : T_spec_l19X)).set (Int.toNat v28) ({ e31 with level_ := r51, last_ := a0.Time_ } : T_spec_l19X)).length (Int.toNat v28) 0), (173, .el 1 ((s0.list_.set (Int.toNat v28) ({ e31 with last_ := a0.Time_ } : T_spec_l19X)).set (Int.toNat v28) ({ e31 with level_ := r51, last_ := a0.Time_ } : T_spec_l19X)).length (Int.toNat v28) 0), (174, .el 1 ((s0.list_.set (Int.toNat v28) ({ e31 with last_ := a0.Time_ } : T_spec_l19X)).set (Int.toNat v28) ({ e31 with level_ := r51, last_ := a0.Time_ } : T_spec_l19X)).length (Int.toNat v28) 3), (175, .int .i64 e31.level_), (176, .int .i64 (IntKind.i64.wrap (e31.level_ + 1))), (177, .int .i64 r51), (178, .el 1 ((s0.list_.set (Int.toNat v28) ({ e31 with last_ := a0.Time_ } : T_spec_l19X)).set (Int.toNat v28) ({ e31 with level_ := r51, last_ := a0.Time_ } : T_spec_l19X)).length (Int.toNat v28) 0), (179, .el 1 ((s0.list_.set (Int.toNat v28) ({ e31 with last_ := a0.Time_ } : T_spec_l19X)).set (Int.toNat v28) ({ e31 with level_ := r51, last_ := a0.Time_ } : T_spec_l19X)).length (Int.toNat v28) 3), (184, .px 2 0 e31.ids_ 0), (185, .bx 0 0), (186, .str r53), (187, .im false (([r53] : List ByteArray).map (c_str))), (188, .px 2 0 ((s2.set (Int.toNat e31.ids_) none).length : Int) 0)]) (R := [⟨some 180, .el 1 ((s0.list_.set (Int.toNat v28) ({ e31 with last_ := a0.Time_ } : T_spec_l19X)).set (Int.toNat v28) ({ e31 with level_ := r51, last_ := a0.Time_ } : T_spec_l19X)).length (Int.toNat v28) 0, .q, []⟩, ⟨some 181, .el 1 ((s0.list_.set (Int.toNat v28) ({ e31 with last_ := a0.Time_ } : T_spec_l19X)).set (Int.toNat v28) ({ e31 with level_ := r51, last_ := a0.Time_ } : T_spec_l19X)).length (Int.toNat v28) 0, .q, []⟩, ⟨some 182, .el 1 ((s0.list_.set (Int.toNat v28) ({ e31 with last_ := a0.Time_ } : T_spec_l19X)).set (Int.toNat v28) ({ e31 with level_ := r51, last_ := a0.Time_ } : T_spec_l19X)).length (Int.toNat v28) 0, .q, []⟩, ⟨some 183, .el 1 ((s0.list_.set (Int.toNat v28) ({ e31 with last_ := a0.Time_ } : T_spec_l19X)).set (Int.toNat v28) ({ e31 with level_ := r51, last_ := a0.Time_ } : T_spec_l19X)).length (Int.toNat v28) 0, .q, []⟩, ⟨some 184, .px 2 0 e31.ids_ 0, .q, []⟩, ⟨some 185, .bx 0 0, .q, []⟩, ⟨some 186, .str r53, .q, []⟩, ⟨some 187, .im false (([r53] : List ByteArray).map (c_str)), .q, []⟩, ⟨some 188, .px 2 0 ((s2.set (Int.toNat e31.ids_) none).length : Int) 0, .q, []⟩, ⟨some 189, .el 1 ((s0.list_.set (Int.toNat v28) ({ e31 with last_ := a0.Time_ } : T_spec_l19X)).set (Int.toNat v28) ({ e31 with level_ := r51, last_ := a0.Time_ } : T_spec_l19X)).length (Int.toNat v28) 0, .q, []⟩, ⟨some 190, .el 1 ((s0.list_.set (Int.toNat v28) ({ e31 with last_ := a0.Time_ } : T_spec_l19X)).set (Int.toNat v28) ({ e31 with level_ := r51, last_ := a0.Time_ } : T_spec_l19X)).length (Int.toNat v28) 0, .q, []⟩, ⟨none, .any, .q, []⟩]) (fun b => cond (b 6) (cond (b 8) (cond (b 11) ([.box (k_spec_l19S 1 2 c0 ({ o54 with list_ := (((s0.list_.set (Int.toNat v28) ({ e31 with last_ := a0.Time_ } : T_spec_l19X)).set (Int.toNat v28) ({ e31 with level_ := r51, last_ := a0.Time_ } : T_spec_l19X)).set (Int.toNat v28) ({ e31 with ids_ := ((s2.set (Int.toNat e31.ids_) none).length : Int), level_ := r51, last_ := a0.Time_ } : T_spec_l19X)) } : T_spec_l19S)), .arr .raw 7 ((((s0.list_.set (Int.toNat v28) ({ e31 with last_ := a0.Time_ } : T_spec_l19X)).set (Int.toNat v28) ({ e31 with level_ := r51, last_ := a0.Time_ } : T_spec_l19X)).set (Int.toNat v28) ({ e31 with ids_ := ((s2.set (Int.toNat e31.ids_) none).length : Int), level_ := r51, last_ := a0.Time_ } : T_spec_l19X)).map (c_T_spec_l19X 2 false)), .afm 1 (((s2.set (Int.toNat e31.ids_) none) ++ [some l58]).map (c_ax (c_str))), .box (c_T_impl_SessEvent false a0), .box [.int .i64 0, .str e0, .str e0, .int .i64 0], .dead]) ([.box (k_spec_l19S 1 2 c0 ({ o54 with list_ := ((s0.list_.set (Int.toNat v28) ({ e31 with last_ := a0.Time_ } : T_spec_l19X)).set (Int.toNat v28) ({ e31 with level_ := r51, last_ := a0.Time_ } : T_spec_l19X)) } : T_spec_l19S)), .arr .raw 7 (((s0.list_.set (Int.toNat v28) ({ e31 with last_ := a0.Time_ } : T_spec_l19X)).set (Int.toNat v28) ({ e31 with level_ := r51, last_ := a0.Time_ } : T_spec_l19X)).map (c_T_spec_l19X 2 false)), .afm 1 (((s2.set (Int.toNat e31.ids_) none) ++ [some l58]).map (c_ax (c_str))), .box (c_T_impl_SessEvent false a0), .box [.int .i64 0, .str e0, .str e0, .int .i64 0], .dead])) ([.box (k_spec_l19S 1 2 c0 ({ o54 with list_ := ((s0.list_.set (Int.toNat v28) ({ e31 with last_ := a0.Time_ } : T_spec_l19X)).set (Int.toNat v28) ({ e31 with level_ := r51, last_ := a0.Time_ } : T_spec_l19X)) } : T_spec_l19S)), .arr .raw 7 (((s0.list_.set (Int.toNat v28) ({ e31 with last_ := a0.Time_ } : T_spec_l19X)).set (Int.toNat v28) ({ e31 with level_ := r51, last_ := a0.Time_ } : T_spec_l19X)).map (c_T_spec_l19X 2 false)), .afm 1 (s2.map (c_ax (c_str))), .box (c_T_impl_SessEvent false a0), .box [.int .i64 0, .str e0, .str e0, .int .i64 0]])) ([.box (k_spec_l19S 1 2 c0 (⟨s0.c_, a0.Time_, s0.given_, ((s0.list_.set (Int.toNat v28) ({ e31 with last_ := a0.Time_ } : T_spec_l19X)).set (Int.toNat v28) ({ e31 with level_ := r51, last_ := a0.Time_ } : T_spec_l19X))⟩ : T_spec_l19S)), .arr .raw 7 (((s0.list_.set (Int.toNat v28) ({ e31 with last_ := a0.Time_ } : T_spec_l19X)).set (Int.toNat v28) ({ e31 with level_ := r51, last_ := a0.Time_ } : T_spec_l19X)).map (c_T_spec_l19X 2 false)), .afm 1 (s2.map (c_ax (c_str))), .box (c_T_impl_SessEvent false a0), .box [.int .i64 0, .str e0, .str e0, .int .i64 0]])) rfl ?_ ?_ rfl rfl (FrL.get (.cons rfl (.cons rfl (.cons rfl (.cons rfl (.cons rfl (.cons rfl (.cons rfl (.cons rfl (.cons rfl (.cons rfl (.cons rfl (.cons rfl (.cons rfl (.cons rfl (.cons rfl (.cons rfl (.cons rfl (.cons rfl (.cons rfl (.cons rfl (.cons rfl (.cons rfl (.cons rfl (.cons rfl (.cons rfl (.cons rfl (.cons rfl (.cons rfl (.cons rfl (.cons rfl (.cons rfl (.cons rfl (.cons rfl (.cons rfl (.cons rfl (.cons rfl (.cons rfl (.cons rfl (.cons rfl (.cons rfl (.cons rfl (.cons rfl (.cons rfl (.cons rfl (.cons rfl (.cons rfl (.cons rfl (.cons rfl (.cons rfl (.cons rfl (.cons rfl (.cons rfl (.cons rfl (.cons rfl (.cons rfl (.cons rfl (.cons rfl (.cons rfl (.cons rfl (.cons rfl (.cons rfl (.cons rfl (.cons rfl (.cons rfl (.cons rfl (.cons rfl (.cons rfl .nil)))))))))))))))))))))))))))))))))))))))))))))))))))))))))))))))))))) ?_
            ·refine .cons _ _ _ _ _ ⟨rfl, [(10, .el 1 ((s0.list_.set (Int.toNat v28) ({ e31 with last_ := a0.Time_ } : T_spec_l19X)).set (Int.toNat v28) ({ e31 with level_ := r51, last_ := a0.Time_ } : T_spec_l19X)).length (Int.toNat v28) 0)], AllN.get rfl (.cons rfl .nil), fun b hd hn hk hc => ?_⟩ ?_
             ·cases e6 : b 6
              ·cases e8 : b 8
               ·exact ops_at (cdf e6) rfl (o_move rfl rfl) (cdf ((updb_ne rfl).trans e6)) rfl
               ·exact absurd (hc 8 6 rfl rfl e8) (by rw [e6]; decide)
              ·cases e8 : b 8
               ·exact ops_at ((cdt e6).trans (cdf e8)) rfl (o_move rfl rfl) ((cdt ((updb_ne rfl).trans e6)).trans (cdf ((updb_ne rfl).trans e8))) rfl
               ·exact ops_at (((cdt e6).trans (cdt e8)).trans (cdf (hn 11 rfl))) rfl (o_move rfl rfl) (((cdt ((updb_ne rfl).trans e6)).trans (cdt ((updb_ne rfl).trans e8))).trans (cdf ((updb_ne rfl).trans (hn 11 rfl)))) rfl
             refine .cons _ _ _ _ _ ⟨rfl, [(10, .el 1 ((s0.list_.set (Int.toNat v28) ({ e31 with last_ := a0.Time_ } : T_spec_l19X)).set (Int.toNat v28) ({ e31 with level_ := r51, last_ := a0.Time_ } : T_spec_l19X)).length (Int.toNat v28) 0)], AllN.get rfl (.cons rfl .nil), fun b hd hn hk hc => ?_⟩ ?_
             ·cases e6 : b 6
              ·exact ops_at (cdf e6) rfl (o_move rfl rfl) (cdf ((updb_ne rfl).trans e6)) rfl
              ·exact ops_at ((cdt e6).trans (cdf (hn 8 rfl))) rfl (o_move rfl rfl) ((cdt ((updb_ne rfl).trans e6)).trans (cdf ((updb_ne rfl).trans (hn 8 rfl)))) rfl
             refine .cons _ _ _ _ _ ⟨rfl, [(181, .el 1 ((s0.list_.set (Int.toNat v28) ({ e31 with last_ := a0.Time_ } : T_spec_l19X)).set (Int.toNat v28) ({ e31 with level_ := r51, last_ := a0.Time_ } : T_spec_l19X)).length (Int.toNat v28) 0)], AllN.get rfl (.cons rfl .nil), fun b hd hn hk hc => ?_⟩ ?_
             ·cases e6 : b 6
              ·exact ops_at (cdf e6) rfl (o_nilCheckEl rfl rfl rfl (List.length_map ..)) (cdf ((updb_ne rfl).trans e6)) rfl
              ·exact ops_at ((cdt e6).trans (cdf (hn 8 rfl))) rfl (o_nilCheckEl rfl rfl rfl (List.length_map ..)) ((cdt ((updb_ne rfl).trans e6)).trans (cdf ((updb_ne rfl).trans (hn 8 rfl)))) rfl
             refine .cons _ _ _ _ _ ⟨rfl, [(182, .el 1 ((s0.list_.set (Int.toNat v28) ({ e31 with last_ := a0.Time_ } : T_spec_l19X)).set (Int.toNat v28) ({ e31 with level_ := r51, last_ := a0.Time_ } : T_spec_l19X)).length (Int.toNat v28) 0)], AllN.get rfl (.cons rfl .nil), fun b hd hn hk hc => ?_⟩ ?_
             ·cases e6 : b 6
              ·exact ops_at (cdf e6) rfl (o_fieldAddrEl rfl rfl rfl tyS_52 (by decide) rfl rfl (List.length_map ..)) (cdf ((updb_ne rfl).trans e6)) rfl
              ·exact ops_at ((cdt e6).trans (cdf (hn 8 rfl))) rfl (o_fieldAddrEl rfl rfl rfl tyS_52 (by decide) rfl rfl (List.length_map ..)) ((cdt ((updb_ne rfl).trans e6)).trans (cdf ((updb_ne rfl).trans (hn 8 rfl)))) rfl
             refine .cons _ _ _ _ _ ⟨rfl, [(183, .el 1 ((s0.list_.set (Int.toNat v28) ({ e31 with last_ := a0.Time_ } : T_spec_l19X)).set (Int.toNat v28) ({ e31 with level_ := r51, last_ := a0.Time_ } : T_spec_l19X)).length (Int.toNat v28) 0)], AllN.get rfl (.cons rfl .nil), fun b hd hn hk hc => ?_⟩ ?_
             ·cases e6 : b 6
              ·exact ops_at (cdf e6) rfl (o_loadEl rfl tyS_52 rfl rfl (List.length_map ..) (by rw [List.getElem?_map, (idx_s (idx_set (idx_set h32))).2]; rfl) (nb rfl) rfl) (cdf ((updb_ne rfl).trans e6)) rfl
              ·exact ops_at ((cdt e6).trans (cdf (hn 8 rfl))) rfl (o_loadEl rfl tyS_52 rfl rfl (List.length_map ..) (by rw [List.getElem?_map, (idx_s (idx_set (idx_set h32))).2]; rfl) (nb rfl) rfl) ((cdt ((updb_ne rfl).trans e6)).trans (cdf ((updb_ne rfl).trans (hn 8 rfl)))) rfl
             refine .cons _ _ _ _ _ ⟨rfl, [(0, .bx 0 0)], AllN.get rfl (.cons rfl .nil), fun b hd hn hk hc => ?_⟩ ?_
             ·exact ops_at (cdf (hn 6 rfl)) rfl (o_move rfl rfl) (cdf ((updb_ne rfl).trans (hn 6 rfl))) rfl
             refine .cons _ _ _ _ _ ⟨rfl, [(185, .bx 0 0)], AllN.get rfl (.cons rfl .nil), fun b hd hn hk hc => ?_⟩ ?_
             ·exact ops_at (cdf hk) rfl (Does.eqS (eqAtB (show (.box ((c_T_impl_SessConf c0 o54.c_) ++ [.int .i64 o54.now_, .int .i64 o54.given_, .hd 1 o54.list_.length 0 o54.list_.length]) : AO) = .box ((c_T_impl_SessConf c0 o54.c_) ++ [.int .i64 o54.now_, .int .i64 o54.given_, .hd 1 ((s0.list_.set (Int.toNat v28) ({ e31 with last_ := a0.Time_ } : T_spec_l19X)).set (Int.toNat v28) ({ e31 with level_ := r51, last_ := a0.Time_ } : T_spec_l19X)).length 0 ((s0.list_.set (Int.toNat v28) ({ e31 with last_ := a0.Time_ } : T_spec_l19X)).set (Int.toNat v28) ({ e31 with level_ := r51, last_ := a0.Time_ } : T_spec_l19X)).length]) by simp only [eqL_s h57]) (eqAtB (show (.arr .raw 7 (o54.list_.map (c_T_spec_l19X 2 false)) : AO) = .arr .raw 7 (((s0.list_.set (Int.toNat v28) ({ e31 with last_ := a0.Time_ } : T_spec_l19X)).set (Int.toNat v28) ({ e31 with level_ := r51, last_ := a0.Time_ } : T_spec_l19X)).map (c_T_spec_l19X 2 false)) by simp only [eqL_s h57]) rfl)) (o_callM [0, 1, 2] rfl en_38 rfl rfl (spec_l19S_id_p c0 h55) rfl (by decide) (.cons _ _ _ _ rfl (.cons _ _ _ _ (ren_at rfl (ren_rawO fun _ => rfl)) (.cons _ _ _ _ rfl .nil))) rfl rfl (.cons _ _ _ _ rfl (.cons _ _ _ _ (ren_rawO fun _ => rfl) (.cons _ _ _ _ rfl .nil))) rfl)) (((cdt updb_self).trans (cdf ((updb_ne rfl).trans (hn 8 rfl)))).trans rfl) rfl
             refine .cons _ _ _ _ _ ⟨rfl, [(186, .str r53)], AllN.get rfl (.cons rfl .nil), fun b hd hn hk hc => ?_⟩ ?_
             ·exact ops_at ((cdt (hd 6 rfl)).trans (cdf (hn 8 rfl))) rfl (o_sliceIm (rows := ([r53] : List ByteArray).map (c_str)) rfl rfl tyS_9 ⟨_, rfl, rfl⟩ (by decide) rfl rfl rfl rfl rfl rfl) ((cdt ((updb_ne rfl).trans (hd 6 rfl))).trans (cdf ((updb_ne rfl).trans (hn 8 rfl)))) rfl
             refine .cons _ _ _ _ _ ⟨rfl, [(184, .px 2 0 e31.ids_ 0), (187, .im false (([r53] : List ByteArray).map (c_str)))], AllN.get rfl (.cons rfl (.cons rfl .nil)), fun b hd hn hk hc => ?_⟩ ?_
             ·exact ops_at ((cdt (hd 6 rfl)).trans (cdf hk)) rfl (Does.newX (f := c_str) (L := (s2.set (Int.toNat e31.ids_) none)) (xs := l58) 2 (Does.outX (t := 184) (f := c_str) (L := s2) (xs := x33) h34 rfl (by simp [Op.operands, Call.operands]) rfl (o_ap (f := c_str) (xs := x33) (ys := ([r53] : List ByteArray)) rfl rfl tyE_9 rfl rfl rfl rfl (by decide) rfl (fun _ => rfl) h59)) rfl rfl rfl) ((((cdt ((updb_ne rfl).trans (hd 6 rfl))).trans (cdt updb_self)).trans (cdf ((updb_ne rfl).trans (hn 11 rfl)))).trans rfl) rfl
             refine .cons _ _ _ _ _ ⟨rfl, [(180, .el 1 ((s0.list_.set (Int.toNat v28) ({ e31 with last_ := a0.Time_ } : T_spec_l19X)).set (Int.toNat v28) ({ e31 with level_ := r51, last_ := a0.Time_ } : T_spec_l19X)).length (Int.toNat v28) 0)], AllN.get rfl (.cons rfl .nil), fun b hd hn hk hc => ?_⟩ ?_
             ·exact ops_at (((cdt (hd 6 rfl)).trans (cdt (hd 8 rfl))).trans (cdf (hn 11 rfl))) rfl (o_nilCheckEl rfl rfl rfl (List.length_map ..)) (((cdt ((updb_ne rfl).trans (hd 6 rfl))).trans (cdt ((updb_ne rfl).trans (hd 8 rfl)))).trans (cdf ((updb_ne rfl).trans (hn 11 rfl)))) rfl
             refine .cons _ _ _ _ _ ⟨rfl, [(189, .el 1 ((s0.list_.set (Int.toNat v28) ({ e31 with last_ := a0.Time_ } : T_spec_l19X)).set (Int.toNat v28) ({ e31 with level_ := r51, last_ := a0.Time_ } : T_spec_l19X)).length (Int.toNat v28) 0)], AllN.get rfl (.cons rfl .nil), fun b hd hn hk hc => ?_⟩ ?_
             ·exact ops_at (((cdt (hd 6 rfl)).trans (cdt (hd 8 rfl))).trans (cdf (hn 11 rfl))) rfl (o_fieldAddrEl rfl rfl rfl tyS_52 (by decide) rfl rfl (List.length_map ..)) (((cdt ((updb_ne rfl).trans (hd 6 rfl))).trans (cdt ((updb_ne rfl).trans (hd 8 rfl)))).trans (cdf ((updb_ne rfl).trans (hn 11 rfl)))) rfl
             refine .cons _ _ _ _ _ ⟨rfl, [(188, .px 2 0 ((s2.set (Int.toNat e31.ids_) none).length : Int) 0), (190, .el 1 ((s0.list_.set (Int.toNat v28) ({ e31 with last_ := a0.Time_ } : T_spec_l19X)).set (Int.toNat v28) ({ e31 with level_ := r51, last_ := a0.Time_ } : T_spec_l19X)).length (Int.toNat v28) 0)], AllN.get rfl (.cons rfl (.cons rfl .nil)), fun b hd hn hk hc => ?_⟩ ?_
             ·exact ops_at (((cdt (hd 6 rfl)).trans (cdt (hd 8 rfl))).trans (cdf hk)) rfl (Does.to (o_stEl (f := c_T_spec_l19X 2 false) (xs := ((s0.list_.set (Int.toNat v28) ({ e31 with last_ := a0.Time_ } : T_spec_l19X)).set (Int.toNat v28) ({ e31 with level_ := r51, last_ := a0.Time_ } : T_spec_l19X))) (k := v28) (a := ({ e31 with level_ := r51, last_ := a0.Time_ } : T_spec_l19X)) ({ e31 with ids_ := ((s2.set (Int.toNat e31.ids_) none).length : Int), level_ := r51, last_ := a0.Time_ } : T_spec_l19X) rfl tyS_52 rfl rfl rfl (List.length_map ..) (by decide) (idx_set (idx_set h32)) rfl rfl rfl (fun h => absurd rfl h) rfl) (eqAtB (show (.box ((c_T_impl_SessConf c0 o54.c_) ++ [.int .i64 o54.now_, .int .i64 o54.given_, .hd 1 ((s0.list_.set (Int.toNat v28) ({ e31 with last_ := a0.Time_ } : T_spec_l19X)).set (Int.toNat v28) ({ e31 with level_ := r51, last_ := a0.Time_ } : T_spec_l19X)).length 0 ((s0.list_.set (Int.toNat v28) ({ e31 with last_ := a0.Time_ } : T_spec_l19X)).set (Int.toNat v28) ({ e31 with level_ := r51, last_ := a0.Time_ } : T_spec_l19X)).length]) : AO) = .box ((c_T_impl_SessConf c0 o54.c_) ++ [.int .i64 o54.now_, .int .i64 o54.given_, .hd 1 (((s0.list_.set (Int.toNat v28) ({ e31 with last_ := a0.Time_ } : T_spec_l19X)).set (Int.toNat v28) ({ e31 with level_ := r51, last_ := a0.Time_ } : T_spec_l19X)).set (Int.toNat v28) ({ e31 with ids_ := ((s2.set (Int.toNat e31.ids_) none).length : Int), level_ := r51, last_ := a0.Time_ } : T_spec_l19X)).length 0 (((s0.list_.set (Int.toNat v28) ({ e31 with last_ := a0.Time_ } : T_spec_l19X)).set (Int.toNat v28) ({ e31 with level_ := r51, last_ := a0.Time_ } : T_spec_l19X)).set (Int.toNat v28) ({ e31 with ids_ := ((s2.set (Int.toNat e31.ids_) none).length : Int), level_ := r51, last_ := a0.Time_ } : T_spec_l19X)).length]) by simp only [List.length_map, List.length_set]) rfl)) ((((cdt ((updb_ne rfl).trans (hd 6 rfl))).trans (cdt ((updb_ne rfl).trans (hd 8 rfl)))).trans (cdt updb_self)).trans rfl) rfl
             exact .nil _
            ·intro b b' h; simp only [h 6 (by decide), h 8 (by decide), h 11 (by decide)]
            refine inB_normal ?_
            exact Pk.of (thn_normal ⟨({ o54 with list_ := (((s0.list_.set (Int.toNat v28) ({ e31 with last_ := a0.Time_ } : T_spec_l19X)).set (Int.toNat v28) ({ e31 with level_ := r51, last_ := a0.Time_ } : T_spec_l19X)).set (Int.toNat v28) ({ e31 with ids_ := ((s2.set (Int.toNat e31.ids_) none).length : Int), level_ := r51, last_ := a0.Time_ } : T_spec_l19X)) } : T_spec_l19S), ((s2.set (Int.toNat e31.ids_) none) ++ [some l58]), rfl, rfl, H⟩) (hf := (.k 4 rfl rfl (.cons 10 _ (.el 1 ({ o54 with list_ := (((s0.list_.set (Int.toNat v28) ({ e31 with last_ := a0.Time_ } : T_spec_l19X)).set (Int.toNat v28) ({ e31 with level_ := r51, last_ := a0.Time_ } : T_spec_l19X)).set (Int.toNat v28) ({ e31 with ids_ := ((s2.set (Int.toNat e31.ids_) none).length : Int), level_ := r51, last_ := a0.Time_ } : T_spec_l19X)) } : T_spec_l19S).list_.length (Int.toNat v28) 0) _ rfl (.ofEq (el_lenR _ _ _ (List.length_set ..))) rfl .nil)))
           ·refine au 5 ?_
            refine T.cH H (fun H h => ?_) (fun H h => ?_)
            ·refine au 2 ?_
             refine TL.st rfl rfl rfl (o_nilCheckEl rfl rfl rfl (List.length_map ..)) ?_
             refine TL.st rfl rfl rfl (o_fieldAddrEl rfl rfl rfl tyS_4 (by decide) rfl rfl (List.length_map ..)) ?_
             refine TL.sn rfl rfl (o_stEl (f := c_T_spec_l19X 2 false) (xs := (s0.list_.set (Int.toNat v28) ({ e31 with last_ := a0.Time_ } : T_spec_l19X))) (k := v28) (a := ({ e31 with last_ := a0.Time_ } : T_spec_l19X)) ({ e31 with last_ := a0.Time_, dead_ := true } : T_spec_l19X) rfl tyS_4 rfl rfl rfl (List.length_map ..) (by decide) (idx_set h32) rfl rfl rfl (fun h => absurd rfl h) rfl) ?_
             refine TL.conv (Cs.eqS (σ := [.box ((c_T_impl_SessConf c0 s0.c_) ++ [.int .i64 a0.Time_, .int .i64 s0.given_, .hd 1 (s0.list_.set (Int.toNat v28) ({ e31 with last_ := a0.Time_ } : T_spec_l19X)).length 0 (s0.list_.set (Int.toNat v28) ({ e31 with last_ := a0.Time_ } : T_spec_l19X)).length]), .arr .raw 7 (((s0.list_.set (Int.toNat v28) ({ e31 with last_ := a0.Time_ } : T_spec_l19X)).set (Int.toNat v28) ({ e31 with last_ := a0.Time_, dead_ := true } : T_spec_l19X)).map (c_T_spec_l19X 2 false)), .afm 1 (s2.map (c_ax (c_str))), .box (c_T_impl_SessEvent false a0), .box [.int .i64 0, .str e0, .str e0, .int .i64 0]]) (σ' := [.box ((c_T_impl_SessConf c0 s0.c_) ++ [.int .i64 a0.Time_, .int .i64 s0.given_, .hd 1 ((s0.list_.set (Int.toNat v28) ({ e31 with last_ := a0.Time_ } : T_spec_l19X)).set (Int.toNat v28) ({ e31 with last_ := a0.Time_, dead_ := true } : T_spec_l19X)).length 0 ((s0.list_.set (Int.toNat v28) ({ e31 with last_ := a0.Time_ } : T_spec_l19X)).set (Int.toNat v28) ({ e31 with last_ := a0.Time_, dead_ := true } : T_spec_l19X)).length]), .arr .raw 7 (((s0.list_.set (Int.toNat v28) ({ e31 with last_ := a0.Time_ } : T_spec_l19X)).set (Int.toNat v28) ({ e31 with last_ := a0.Time_, dead_ := true } : T_spec_l19X)).map (c_T_spec_l19X 2 false)), .afm 1 (s2.map (c_ax (c_str))), .box (c_T_impl_SessEvent false a0), .box [.int .i64 0, .str e0, .str e0, .int .i64 0]]) (by simp only [List.length_map, List.length_set])) ?_
             refine TL.conv (Cs.eqV (t := 10) (v' := .el 1 ((s0.list_.set (Int.toNat v28) ({ e31 with last_ := a0.Time_ } : T_spec_l19X)).set (Int.toNat v28) ({ e31 with last_ := a0.Time_, dead_ := true } : T_spec_l19X)).length (Int.toNat v28) 0) rfl (el_lenR _ _ _ (List.length_set ..))) ?_
             refine TL.conv (Cs.eqV (t := 114) (v' := .hd 1 ((s0.list_.set (Int.toNat v28) ({ e31 with last_ := a0.Time_ } : T_spec_l19X)).set (Int.toNat v28) ({ e31 with last_ := a0.Time_, dead_ := true } : T_spec_l19X)).length 0 ((s0.list_.set (Int.toNat v28) ({ e31 with last_ := a0.Time_ } : T_spec_l19X)).set (Int.toNat v28) ({ e31 with last_ := a0.Time_, dead_ := true } : T_spec_l19X)).length) rfl (hd_lenR _ (List.length_set ..))) ?_
             refine TL.conv (Cs.eqV (t := 116) (v' := .el 1 ((s0.list_.set (Int.toNat v28) ({ e31 with last_ := a0.Time_ } : T_spec_l19X)).set (Int.toNat v28) ({ e31 with last_ := a0.Time_, dead_ := true } : T_spec_l19X)).length (Int.toNat v28) 0) rfl (el_lenR _ _ _ (List.length_set ..))) ?_
             refine TL.conv (Cs.eqV (t := 117) (v' := .el 1 ((s0.list_.set (Int.toNat v28) ({ e31 with last_ := a0.Time_ } : T_spec_l19X)).set (Int.toNat v28) ({ e31 with last_ := a0.Time_, dead_ := true } : T_spec_l19X)).length (Int.toNat v28) 0) rfl (el_lenR _ _ _ (List.length_set ..))) ?_
             refine TL.conv (Cs.eqV (t := 118) (v' := .el 1 ((s0.list_.set (Int.toNat v28) ({ e31 with last_ := a0.Time_ } : T_spec_l19X)).set (Int.toNat v28) ({ e31 with last_ := a0.Time_, dead_ := true } : T_spec_l19X)).length (Int.toNat v28) 0) rfl (el_lenR _ _ _ (List.length_set ..))) ?_
             refine TL.conv (Cs.eqV (t := 119) (v' := .el 1 ((s0.list_.set (Int.toNat v28) ({ e31 with last_ := a0.Time_ } : T_spec_l19X)).set (Int.toNat v28) ({ e31 with last_ := a0.Time_, dead_ := true } : T_spec_l19X)).length (Int.toNat v28) 0) rfl (el_lenR _ _ _ (List.length_set ..))) ?_
             refine TL.conv (Cs.eqV (t := 121) (v' := .el 1 ((s0.list_.set (Int.toNat v28) ({ e31 with last_ := a0.Time_ } : T_spec_l19X)).set (Int.toNat v28) ({ e31 with last_ := a0.Time_, dead_ := true } : T_spec_l19X)).length (Int.toNat v28) 0) rfl (el_lenR _ _ _ (List.length_set ..))) ?_
             refine TL.conv (Cs.eqV (t := 122) (v' := .el 1 ((s0.list_.set (Int.toNat v28) ({ e31 with last_ := a0.Time_ } : T_spec_l19X)).set (Int.toNat v28) ({ e31 with last_ := a0.Time_, dead_ := true } : T_spec_l19X)).length (Int.toNat v28) 0) rfl (el_lenR _ _ _ (List.length_set ..))) ?_
             refine TL.conv (Cs.eqV (t := 123) (v' := .el 1 ((s0.list_.set (Int.toNat v28) ({ e31 with last_ := a0.Time_ } : T_spec_l19X)).set (Int.toNat v28) ({ e31 with last_ := a0.Time_, dead_ := true } : T_spec_l19X)).length (Int.toNat v28) 0) rfl (el_lenR _ _ _ (List.length_set ..))) ?_
             refine TL.conv (Cs.eqV (t := 145) (v' := .el 1 ((s0.list_.set (Int.toNat v28) ({ e31 with last_ := a0.Time_ } : T_spec_l19X)).set (Int.toNat v28) ({ e31 with last_ := a0.Time_, dead_ := true } : T_spec_l19X)).length (Int.toNat v28) 0) rfl (el_lenR _ _ _ (List.length_set ..))) ?_
             refine TL.conv (Cs.eqV (t := 146) (v' := .el 1 ((s0.list_.set (Int.toNat v28) ({ e31 with last_ := a0.Time_ } : T_spec_l19X)).set (Int.toNat v28) ({ e31 with last_ := a0.Time_, dead_ := true } : T_spec_l19X)).length (Int.toNat v28) 0) rfl (el_lenR _ _ _ (List.length_set ..))) ?_
             refine TL.conv (Cs.eqV (t := 147) (v' := .el 1 ((s0.list_.set (Int.toNat v28) ({ e31 with last_ := a0.Time_ } : T_spec_l19X)).set (Int.toNat v28) ({ e31 with last_ := a0.Time_, dead_ := true } : T_spec_l19X)).length (Int.toNat v28) 6) rfl (el_lenR _ _ _ (List.length_set ..))) ?_
             refine TL.conv (Cs.eqV (t := 151) (v' := .el 1 ((s0.list_.set (Int.toNat v28) ({ e31 with last_ := a0.Time_ } : T_spec_l19X)).set (Int.toNat v28) ({ e31 with last_ := a0.Time_, dead_ := true } : T_spec_l19X)).length (Int.toNat v28) 0) rfl (el_lenR _ _ _ (List.length_set ..))) ?_
             refine TL.conv (Cs.eqV (t := 152) (v' := .el 1 ((s0.list_.set (Int.toNat v28) ({ e31 with last_ := a0.Time_ } : T_spec_l19X)).set (Int.toNat v28) ({ e31 with last_ := a0.Time_, dead_ := true } : T_spec_l19X)).length (Int.toNat v28) 0) rfl (el_lenR _ _ _ (List.length_set ..))) ?_
             refine TL.conv (Cs.eqV (t := 160) (v' := .el 1 ((s0.list_.set (Int.toNat v28) ({ e31 with last_ := a0.Time_ } : T_spec_l19X)).set (Int.toNat v28) ({ e31 with last_ := a0.Time_, dead_ := true } : T_spec_l19X)).length (Int.toNat v28) 0) rfl (el_lenR _ _ _ (List.length_set ..))) ?_
             refine TL.conv (Cs.eqV (t := 165) (v' := .el 1 ((s0.list_.set (Int.toNat v28) ({ e31 with last_ := a0.Time_ } : T_spec_l19X)).set (Int.toNat v28) ({ e31 with last_ := a0.Time_, dead_ := true } : T_spec_l19X)).length (Int.toNat v28) 0) rfl (el_lenR _ _ _ (List.length_set ..))) ?_
             refine TL.conv (Cs.eqV (t := 166) (v' := .el 1 ((s0.list_.set (Int.toNat v28) ({ e31 with last_ := a0.Time_ } : T_spec_l19X)).set (Int.toNat v28) ({ e31 with last_ := a0.Time_, dead_ := true } : T_spec_l19X)).length (Int.toNat v28) 5) rfl (el_lenR _ _ _ (List.length_set ..))) ?_
             refine TL.conv (Cs.eqV (t := 193) (v' := .el 1 ((s0.list_.set (Int.toNat v28) ({ e31 with last_ := a0.Time_ } : T_spec_l19X)).set (Int.toNat v28) ({ e31 with last_ := a0.Time_, dead_ := true } : T_spec_l19X)).length (Int.toNat v28) 0) rfl (el_lenR _ _ _ (List.length_set ..))) ?_
             refine TL.conv (Cs.eqV (t := 194) (v' := .el 1 ((s0.list_.set (Int.toNat v28) ({ e31 with last_ := a0.Time_ } : T_spec_l19X)).set (Int.toNat v28) ({ e31 with last_ := a0.Time_, dead_ := true } : T_spec_l19X)).length (Int.toNat v28) 0) rfl (el_lenR _ _ _ (List.length_set ..))) ?_
             refine TL.conv (Cs.eqV (t := 195) (v' := .el 1 ((s0.list_.set (Int.toNat v28) ({ e31 with last_ := a0.Time_ } : T_spec_l19X)).set (Int.toNat v28) ({ e31 with last_ := a0.Time_, dead_ := true } : T_spec_l19X)).length (Int.toNat v28) 6) rfl (el_lenR _ _ _ (List.length_set ..))) ?_
             refine TL.nil ?_
             refine inB_normal ?_
             exact Pk.of (thn_normal ⟨(⟨s0.c_, a0.Time_, s0.given_, ((s0.list_.set (Int.toNat v28) ({ e31 with last_ := a0.Time_ } : T_spec_l19X)).set (Int.toNat v28) ({ e31 with last_ := a0.Time_, dead_ := true } : T_spec_l19X))⟩ : T_spec_l19S), s2, rfl, rfl, H⟩)
            ·refine T.skip ?_
             refine inB_normal ?_
             exact Pk.of (thn_normal ⟨(⟨s0.c_, a0.Time_, s0.given_, (s0.list_.set (Int.toNat v28) ({ e31 with last_ := a0.Time_ } : T_spec_l19X))⟩ : T_spec_l19S), s2, rfl, rfl, H⟩)
          ·rintro _ _ ⟨b45, f46, rfl, rfl, H⟩
           refine au 3 ?_
           refine TL.st rfl rfl rfl (o_nilCheckEl rfl rfl rfl (List.length_map ..)) ?_
           obtain ⟨e47, h48, H⟩ := bind_s H
           refine TL.st rfl rfl rfl (o_loadEl rfl tyS_54 rfl rfl (List.length_map ..) (by rw [List.getElem?_map, (idx_s h48).2]; rfl) (nb rfl) rfl) ?_
           obtain ⟨r49, h50, H⟩ := bind_s H
           refine TL.st rfl rfl rfl (o_callS [2] rfl en_22 rfl rfl (spec_l19Told_p  h50) rfl (by decide) (.cons _ _ _ _ rfl .nil) rfl rfl rfl) ?_
           refine au 3 ?_
           cases some_i H
           exact ⟨trivial, _, (.cell _ _ _ _ _ _ _ _ _ _ rfl rfl tyS_57 (nb rfl) rfl .nil), ⟨rfl, _, rfl⟩⟩
theorem en_33 : En Tryd.prog 33 := .of Tryd.func33 rfl rfl
theorem tyE_57 : TyE Tryd.prog 57 4 := ⟨_, _, rfl, rfl, rfl, rfl, by decide, by decide⟩
noncomputable def spec_l19Run_l1 (a1 : (List T_impl_SessEvent)) : (T_spec_l19S × List (Option (List ByteArray)) × List T_impl_SessReply × Int) → Option ((T_spec_l19S × List (Option (List ByteArray)) × List T_impl_SessReply × Int) ⊕ (T_spec_l19S × List (Option (List ByteArray)) × List T_impl_SessReply)) := fun s => match s with
  | (b2, f3, l4, v5) => cond (decide (v5 < (a1.length : Int))) ((idx a1 v5).bind fun e10 => (spec_l19S_do e10 b2 f3).bind fun q => (match q with | (r12, o13, o14) => (app l4 ([r12] : List T_impl_SessReply)).bind fun l16 => some (.inl (o13, o14, l16, (IntKind.i64.wrap (v5 + 1)))))) (some (.inr (b2, f3, l4)))
noncomputable def spec_l19Run (a0 : T_impl_SessConf) (a1 : (List T_impl_SessEvent)) : Option (T_spec_l19S × (List T_impl_SessReply) × (List (Option (List ByteArray)))) :=
  (loopO (spec_l19Run_l1 a1) ((⟨a0, 0, 0, ([] : List T_spec_l19X)⟩ : T_spec_l19S), ([] : List (Option (List ByteArray))), ([] : List T_impl_SessReply), 0)).bind fun q18 => (match q18 with | (b6, f7, l8) => some (b6, l8, f7))
theorem spec_l19Run_p (b0 : Bool) (b1 : Bool) {a0 : T_impl_SessConf} {a1 : (List T_impl_SessEvent)} {R : (T_spec_l19S × (List T_impl_SessReply) × (List (Option (List ByteArray))))} (H : spec_l19Run a0 a1 = some R) : CallT Tryd.prog 20 [.agg (c_T_impl_SessConf b0 a0), .im b1 (a1.map (c_T_impl_SessEvent false))] [] (match R with | (x0', x1', x2') => fun v τ' => ∃ ρ, Part ρ τ' [.box (k_spec_l19S 1 2 b0 (⟨x0'.c_, x0'.now_, x0'.given_, x0'.list_⟩ : T_spec_l19S)), .arr .raw 7 (x0'.list_.map (c_T_spec_l19X 2 false)), .afm 1 (x2'.map (c_ax (c_str)))] ∧ v = ren (rho ρ τ'.length) (.tup [.bx 0 0, .im false (x1'.map (c_T_impl_SessReply false))])) := by
 refine CallT.of_TN (n := 28) Tryd.func20 rfl rfl rfl rfl ?_
 refine T.conv (Cs.afm 1 rfl) ?_
 refine T.conv (Cs.wkF (M := 1) (.k 0 rfl rfl (.k 1 rfl rfl .nil))) ?_
 refine T.conv (Cs.eqS (σ' := [.afm 1 (([] : List (Option (List ByteArray))).map (c_ax (c_str)))]) rfl) ?_
 refine au 21 ?_
 refine TL.st rfl rfl rfl (o_lenL (f := c_T_impl_SessEvent false) rfl rfl rfl) ?_
 refine au 3 ?_
 refine T.conv (Cs.ownCellR (p := 2) 5 7 rfl rfl (by decide)) ?_
 refine T.conv (Cs.own (t := 7) 4 rfl (by decide)) ?_
 obtain ⟨q18, h19, H⟩ := bind_s H
 refine T.lq (fun s => match s with | (b2, f3, l4, v5) => [(6, .bx 2 0), (7, .hd 4 (l4.map (c_T_impl_SessReply false)).length 0 (l4.map (c_T_impl_SessReply false)).length), (13, .im b1 (a1.map (c_T_impl_SessEvent false))), (14, .int .i64 (a1.length : Int)), (15, .int .i64 v5)]) (fun s => match s with | (b2, f3, l4, v5) => [.afm 1 (f3.map (c_ax (c_str))), .box (c_T_impl_SessConf b0 a0), .box (k_spec_l19S 3 0 b0 b2), .arr .raw 7 (b2.list_.map (c_T_spec_l19X 0 false)), .arr .clo 4 (l4.map (c_T_impl_SessReply false))]) (fun q ex fr σ => match q with | (b6, f7, l8) => ex = .exit 0 ∧ fr = [(6, .bx 2 0), (7, .hd 4 (l8.map (c_T_impl_SessReply false)).length 0 (l8.map (c_T_impl_SessReply false)).length)] ∧ σ = [.afm 1 (f7.map (c_ax (c_str))), .box (c_T_impl_SessConf b0 a0), .box (k_spec_l19S 3 0 b0 b6), .arr .raw 7 (b6.list_.map (c_T_spec_l19X 0 false)), .arr .clo 4 (l8.map (c_T_impl_SessReply false))]) h19 ?_ ?_
 ·rintro ⟨b2, f3, l4, v5⟩ y9 H
  refine au 5 ?_
  refine T.cH H (fun H h => ?_) (fun H h => ?_)
  ·refine au 5 ?_
   obtain ⟨e10, h11, H⟩ := bind_s H
   refine TL.st rfl rfl rfl (o_ix (f := c_T_impl_SessEvent false) rfl rfl tyS_60 rfl rfl h11 rfl) ?_
   refine au 8 ?_
   obtain ⟨⟨r12, o13, o14⟩, h15, H⟩ := bind_s H
   refine TL.st rfl rfl rfl (o_callM [2, 3, 0] rfl en_33 rfl rfl (spec_l19S_do_p b0 h15) rfl (by decide) (.cons _ _ _ _ rfl (.cons _ _ _ _ (ren_at rfl (ren_rawO fun _ => rfl)) (.cons _ _ _ _ rfl .nil))) rfl rfl (.cons _ _ _ _ rfl (.cons _ _ _ _ (ren_rawO fun _ => rfl) (.cons _ _ _ _ rfl .nil))) rfl) ?_
   refine TL.st rfl rfl rfl (o_sliceIm (rows := ([r12] : List T_impl_SessReply).map (c_T_impl_SessReply false)) rfl rfl tyS_57 ⟨_, rfl, rfl⟩ (by decide) rfl rfl rfl rfl rfl rfl) ?_
   obtain ⟨l16, h17, H⟩ := bind_s H
   refine TL.st rfl rfl rfl (o_ap (f := c_T_impl_SessReply false) (xs := l4) (ys := ([r12] : List T_impl_SessReply)) rfl rfl tyE_57 rfl rfl rfl rfl (by decide) rfl (fun _ => rfl) h17) ?_
   refine au 2 ?_
   refine T.conv (Cs.eqS (σ' := [.afm 1 (o14.map (c_ax (c_str))), _, .box (k_spec_l19S 3 0 b0 o13), .arr .raw 7 (o13.list_.map (c_T_spec_l19X 0 false)), .arr .clo 4 (l16.map (c_T_impl_SessReply false)), .box (c_T_impl_SessEvent false e10)]) rfl) ?_
   refine au 4 ?_
   exact Pk.of (thn_normal ⟨(o13, o14, l16, (IntKind.i64.wrap (v5 + 1))), (some_i H).symm, rfl, rfl⟩)
  ·refine T.exit ?_
   refine thn_exit ?_
   exact Pk.of (thn_exit ⟨(b2, f3, l4), (some_i H).symm, rfl, rfl, rfl⟩)
 ·rcases q18 with ⟨b6, f7, l8⟩
  rintro _ _ _ ⟨rfl, rfl, rfl⟩
  refine inB_here ?_
  refine au 7 ?_
  refine T.conv (Cs.frzOwn (t := 5) rfl rfl rfl) ?_
  refine T.ret ?_
  cases some_i H
  exact ⟨trivial, _, (.tmp _ _ _ _ rfl (.tmp _ _ _ _ rfl .nil)), ⟨[2, 3, 0], Part.of (by decide) (.cons _ _ _ _ rfl (.cons _ _ _ _ (ren_at rfl (ren_rawO fun _ => rfl)) (.cons _ _ _ _ rfl .nil))), rfl⟩⟩
theorem spec_l19Run_p0 (b0 : Bool) (b1 : Bool) {a0 : T_impl_SessConf} {a1 : (List T_impl_SessEvent)} {x0' : T_spec_l19S} {x1' : (List T_impl_SessReply)} {x2' : (List (Option (List ByteArray)))} (H : spec_l19Run a0 a1 = some (x0', x1', x2')) : St Tryd.prog 20 [.agg (c_T_impl_SessConf b0 a0), .im b1 (a1.map (c_T_impl_SessEvent false))] [] (.tup [.bx 0 0, .im false (x1'.map (c_T_impl_SessReply false))]) [.box (k_spec_l19S 1 2 b0 (⟨x0'.c_, x0'.now_, x0'.given_, x0'.list_⟩ : T_spec_l19S)), .arr .raw 7 (x0'.list_.map (c_T_spec_l19X 2 false)), .afm 1 (x2'.map (c_ax (c_str)))] :=
 CallT.sel (spec_l19Run_p b0 b1 H)
theorem en_20 : En Tryd.prog 20 := .of Tryd.func20 rfl rfl
noncomputable def spec_SignedIn_l1 (a2 : Int) (o5 : T_spec_l19S) (o7 : (List (Option (List ByteArray)))) : (List T_impl_SessReply × Int) → Option ((List T_impl_SessReply × Int) ⊕ List T_impl_SessReply) := fun s => match s with
  | (l8, v9) => cond (decide (v9 < (o5.list_.length : Int))) ((idx o5.list_ v9).bind fun e12 => (cond (!e12.dead_) (spec_l19S_over e12 a2 o5 o7) (some (default))).bind fun r14 => cond ((!e12.dead_) && (!r14)) ((spec_l19Told e12 o7).bind fun r16 => (app l8 ([r16] : List T_impl_SessReply)).bind fun l18 => some (.inl (l18, (IntKind.i64.wrap (v9 + 1))))) (some (.inl (l8, (IntKind.i64.wrap (v9 + 1)))))) (some (.inr l8))
noncomputable def spec_SignedIn (a0 : T_impl_SessConf) (a1 : (List T_impl_SessEvent)) (a2 : Int) : Option (List T_impl_SessReply) :=
  (spec_GoodSessConf a0).bind fun r1 => cond ((!r1) || decide ((a1.length : Int) > 200)) (some ([] : List T_impl_SessReply)) ((spec_l19Run a0 a1).bind fun r3 => (match r3 with | (o5, o6, o7) => cond (decide (a2 < o5.now_)) (some ([] : List T_impl_SessReply)) ((loopO (spec_SignedIn_l1 a2 o5 o7) (([] : List T_impl_SessReply), 0)).bind fun l10 => (match l10 with | l10 => some l10))))
theorem spec_SignedIn_p (b0 : Bool) (b1 : Bool) {a0 : T_impl_SessConf} {a1 : (List T_impl_SessEvent)} {a2 : Int} {R0 : (List T_impl_SessReply)} (H : spec_SignedIn a0 a1 a2 = some R0) : Pure Tryd.prog 6 [.agg (c_T_impl_SessConf b0 a0), .im b1 (a1.map (c_T_impl_SessEvent false)), .int .i64 a2] (.im false (R0.map (c_T_impl_SessReply false))) := by
 refine CallT.of_TN (n := 58) Tryd.func6 rfl rfl rfl rfl ?_
 refine au 9 ?_
 obtain ⟨r1, h2, H⟩ := bind_s H
 refine TL.st rfl rfl rfl (o_callP rfl en_19 rfl rfl (.cons _ _ _ _ (Lent.aggL (.cons _ _ _ _ (.imv _ _) (.cons _ _ _ _ (.cl _ rfl) (.cons _ _ _ _ (.cl _ rfl) .nil)))) .nil) (spec_GoodSessConf_p b0 h2)) ?_
 refine au 3 ?_
 refine TL.gcq rfl rfl rfl (.bool _) rfl rfl (fun h => o_lenL (f := c_T_impl_SessEvent false) rfl rfl (gv h rfl)) ?_
 refine au 3 ?_
 refine T.cH H (fun H h => ?_) (fun H h => ?_)
 ·refine au 5 ?_
  refine thn_ret ?_
  cases some_i H
  exact ⟨trivial, _, (.tmp _ _ _ _ rfl .nil), .nil⟩
 ·refine au 5 ?_
  obtain ⟨r3, h4, H⟩ := bind_s H
  rcases r3 with ⟨o5, o6, o7⟩
  refine TL.st rfl rfl rfl (o_callM [] rfl en_20 rfl rfl (spec_l19Run_p0  b0 b1 h4) rfl (by decide) .nil rfl rfl (.cons _ _ _ _ rfl (.cons _ _ _ _ (ren_rawO fun _ => rfl) (.cons _ _ _ _ rfl .nil))) rfl) ?_
  refine au 16 ?_
  refine T.cH H (fun H h => ?_) (fun H h => ?_)
  ·refine au 5 ?_
   refine thn_ret ?_
   cases some_i H
   exact ⟨trivial, _, (.tmp _ _ _ _ rfl .nil), .nil⟩
  ·refine au 12 ?_
   refine TL.st rfl rfl rfl (o_lenOwn (f := c_T_spec_l19X 3 false) rfl rfl rfl rfl (List.length_map ..)) ?_
   refine au 3 ?_
   refine T.conv (Cs.own (t := 9) 4 rfl (by decide)) ?_
   obtain ⟨l10, h21, H⟩ := bind_s H
   refine T.lq (fun s => match s with | (l8, v9) => [(2, .int .i64 a2), (7, .bx 1 0), (9, .hd 4 (l8.map (c_T_impl_SessReply false)).length 0 (l8.map (c_T_impl_SessReply false)).length), (35, .hd 2 o5.list_.length 0 o5.list_.length), (36, .int .i64 (o5.list_.length : Int)), (37, .int .i64 v9)]) (fun s => match s with | (l8, v9) => [.box (c_T_impl_SessConf b0 a0), .box (k_spec_l19S 2 3 b0 o5), .arr .raw 7 (o5.list_.map (c_T_spec_l19X 3 false)), .afm 1 (o7.map (c_ax (c_str))), .arr .clo 4 (l8.map (c_T_impl_SessReply false))]) (fun q ex fr σ => match q with | l10 => ex = .exit 0 ∧ fr = [(9, .hd 4 (l10.map (c_T_impl_SessReply false)).length 0 (l10.map (c_T_impl_SessReply false)).length)] ∧ σ = [.box (c_T_impl_SessConf b0 a0), .box (k_spec_l19S 2 3 b0 o5), .arr .raw 7 (o5.list_.map (c_T_spec_l19X 3 false)), .afm 1 (o7.map (c_ax (c_str))), .arr .clo 4 (l10.map (c_T_impl_SessReply false))]) h21 ?_ ?_
   ·rintro ⟨l8, v9⟩ y11 H
    refine au 5 ?_
    refine T.cH H (fun H h => ?_) (fun H h => ?_)
    ·refine au 5 ?_
     obtain ⟨e12, h13, H⟩ := bind_s H
     refine TL.st rfl rfl rfl (o_ixh (f := c_T_spec_l19X 3 false) rfl rfl tyS_54 rfl rfl rfl (List.length_map ..) h13 rfl) ?_
     refine TL.st rfl rfl rfl (o_loadEl rfl tyS_54 rfl rfl (List.length_map ..) (by rw [List.getElem?_map, (idx_s h13).2]; rfl) (nb rfl) rfl) ?_
     refine au 10 ?_
     refine TL.gcq rfl rfl rfl (.bool _) rfl rfl (fun h => o_loadBx rfl tyS_54 rfl rfl (nb rfl) rfl) ?_
     refine TL.gcq rfl rfl rfl (.bool _) rfl rfl (fun h => o_move rfl rfl) ?_
     obtain ⟨r14, h15, H⟩ := bind_s H
     refine TL.gc rfl rfl rfl (.bool _) rfl rfl (fun h => o_callM [1, 2, 3] rfl en_21 rfl (evl_3 (gv h rfl) (gv h rfl) (gv h rfl)) (spec_l19S_over_p b0 (cond_t h h15)) rfl (by decide) (.cons _ _ _ _ rfl (.cons _ _ _ _ (ren_at rfl (ren_rawO fun _ => rfl)) (.cons _ _ _ _ rfl .nil))) rfl rfl (.cons _ _ _ _ rfl (.cons _ _ _ _ (ren_rawO fun _ => rfl) (.cons _ _ _ _ rfl .nil))) rfl) (fun h => by cases cond_f h h15; rfl) ?_
     refine au 3 ?_
     refine T.conv (Cs.eqS (σ' := [_, _, _, _, _, .box (c_T_spec_l19X 3 false e12)]) rfl) ?_
     refine T.cH H (fun H h => ?_) (fun H h => ?_)
     ·refine au 3 ?_
      obtain ⟨r16, h17, H⟩ := bind_s H
      refine TL.st rfl rfl rfl (o_callS [3] rfl en_22 rfl rfl (spec_l19Told_p  h17) rfl (by decide) (.cons _ _ _ _ rfl .nil) rfl rfl rfl) ?_
      refine TL.st rfl rfl rfl (o_sliceIm (rows := ([r16] : List T_impl_SessReply).map (c_T_impl_SessReply false)) rfl rfl tyS_57 ⟨_, rfl, rfl⟩ (by decide) rfl rfl rfl rfl rfl rfl) ?_
      obtain ⟨l18, h19, H⟩ := bind_s H
      refine TL.st rfl rfl rfl (o_ap (f := c_T_impl_SessReply false) (xs := l8) (ys := ([r16] : List T_impl_SessReply)) rfl rfl tyE_57 rfl rfl rfl rfl (by decide) rfl (fun _ => rfl) h19) ?_
      refine au 6 ?_
      exact Pk.of (thn_normal ⟨(l18, (IntKind.i64.wrap (v9 + 1))), (some_i H).symm, rfl, rfl⟩)
     ·refine au 5 ?_
      exact Pk.of (thn_normal ⟨(l8, (IntKind.i64.wrap (v9 + 1))), (some_i H).symm, rfl, rfl⟩)
    ·refine T.exit ?_
     refine thn_exit ?_
     exact Pk.of (thn_exit ⟨l8, (some_i H).symm, rfl, rfl, rfl⟩)
   ·rintro _ _ _ ⟨rfl, rfl, rfl⟩
    refine inB_here ?_
    refine au 6 ?_
    cases some_i H
    exact ⟨trivial, _, (.tmp _ _ _ _ rfl .nil), (.own rfl (by decide) rfl)⟩
theorem en_6 : En Tryd.prog 6 := .of Tryd.func6 rfl rfl
noncomputable def impl_GoodSessConf (a0 : T_impl_SessConf) : Option Bool :=
  some ((((decide ((a0.Key_.length : Int) ≤ 64) && decide (a0.Idle_ ≥ 1)) && decide (a0.Idle_ ≤ 1000000)) && decide (a0.Most_ ≥ 1)) && decide (a0.Most_ ≤ 1000000))
theorem impl_GoodSessConf_p (b0 : Bool) {a0 : T_impl_SessConf} {R0 : Bool} (H : impl_GoodSessConf a0 = some R0) : Pure Tryd.prog 34 [.agg (c_T_impl_SessConf b0 a0)] (.bool R0) := by
 refine CallT.of_TN (n := 27) Tryd.func34 rfl rfl rfl rfl ?_
 refine au 9 ?_
 refine TL.st rfl rfl rfl (o_lenL (f := c_int .u8) rfl rfl rfl) ?_
 refine au 24 ?_
 cases some_i H
 exact ⟨trivial, _, (.tmp _ _ _ _ rfl .nil), (.cl _ rfl)⟩
theorem en_34 : En Tryd.prog 34 := .of Tryd.func34 rfl rfl
theorem tyS_28 : TyS Tryd.prog 28 false 1 := ⟨rfl, rfl⟩
def k_impl_ysessions (a1 a2 p : Nat) (b : Bool) (x : T_impl_ysessions) : List V := ((c_T_impl_SessConf b x.c_) ++ [.int .i64 x.now_, .int .i64 x.ids_, .hd a1 x.list_.length 0 x.list_.length, .hd a2 (x.reply_.map (c_T_impl_SessReply false)).length 0 (x.reply_.map (c_T_impl_SessReply false)).length])
noncomputable def impl_ydigit (a0 : Int) : Option Bool :=
  some (decide (a0 ≥ 48) && decide (a0 ≤ 57))
theorem impl_ydigit_p  {a0 : Int} {R0 : Bool} (H : impl_ydigit a0 = some R0) : Pure Tryd.prog 49 [.int .u8 a0] (.bool R0) := by
 refine CallT.of_TN (n := 9) Tryd.func49 rfl rfl rfl rfl ?_
 refine au 15 ?_
 cases some_i H
 exact ⟨trivial, _, (.tmp _ _ _ _ rfl .nil), (.cl _ rfl)⟩
theorem en_49 : En Tryd.prog 49 := .of Tryd.func49 rfl rfl
noncomputable def impl_yletter (a0 : Int) : Option Bool :=
  some ((decide (a0 ≥ 97) && decide (a0 ≤ 122)) || (decide (a0 ≥ 65) && decide (a0 ≤ 90)))
theorem impl_yletter_p  {a0 : Int} {R0 : Bool} (H : impl_yletter a0 = some R0) : Pure Tryd.prog 58 [.int .u8 a0] (.bool R0) := by
 refine CallT.of_TN (n := 17) Tryd.func58 rfl rfl rfl rfl ?_
 refine au 15 ?_
 refine TL.gcq rfl rfl rfl (.bool _) rfl rfl (fun h => o_move rfl (gv h rfl)) ?_
 refine TL.gcq rfl rfl rfl (.gd _ _) rfl rfl (fun h => o_move rfl rfl) ?_
 refine TL.gcq rfl rfl rfl (.gd _ _) rfl rfl (fun h => o_ari rfl (gv h rfl) rfl rfl) ?_
 refine TL.gcq rfl rfl rfl (.bool _) rfl rfl (fun h => o_and rfl (gv h rfl) rfl (fun k => Gd_t (andi h k)) rfl) ?_
 refine au 4 ?_
 cases some_i H
 exact ⟨trivial, _, (.tmp _ _ _ _ rfl .nil), (.cl _ rfl)⟩
theorem en_58 : En Tryd.prog 58 := .of Tryd.func58 rfl rfl
noncomputable def impl_ywordByte (a0 : Int) : Option Bool :=
  (impl_yletter a0).bind fun r1 => (gdO (!r1) (impl_ydigit a0)).bind fun r3 => some ((r1 || r3) || (a0 == 95))
theorem impl_ywordByte_p  {a0 : Int} {R0 : Bool} (H : impl_ywordByte a0 = some R0) : Pure Tryd.prog 50 [.int .u8 a0] (.bool R0) := by
 refine CallT.of_TN (n := 13) Tryd.func50 rfl rfl rfl rfl ?_
 refine au 7 ?_
 obtain ⟨r1, h2, H⟩ := bind_s H
 refine TL.st rfl rfl rfl (o_callP rfl en_58 rfl rfl (.cons _ _ _ _ (.cl _ rfl) .nil) (impl_yletter_p  h2)) ?_
 refine au 2 ?_
 obtain ⟨r3, h4, H⟩ := bind_s H
 refine TL.gcq rfl rfl rfl (.bool _) rfl rfl (fun h => o_callP rfl en_49 rfl (evl_1 (gv h rfl)) (.cons _ _ _ _ (.cl _ rfl) .nil) (impl_ydigit_p  (gdO_t h4 h))) ?_
 refine au 8 ?_
 cases some_i H
 exact ⟨trivial, _, (.tmp _ _ _ _ rfl .nil), (.cl _ rfl)⟩
theorem en_50 : En Tryd.prog 50 := .of Tryd.func50 rfl rfl
noncomputable def impl_GoodName_l1 (a0 : ByteArray) : Int → Option (Int ⊕ (Unit ⊕ Bool)) := fun s => match s with
  | v5 => cond (decide (v5 < (a0.size : Int))) ((idxS a0 v5).bind fun b8 => (impl_ywordByte b8).bind fun r10 => cond (!r10) (some (.inr (.inr false))) (some (.inl (IntKind.i64.wrap (v5 + 1))))) (some (.inr (.inl ())))
noncomputable def impl_GoodName (a0 : ByteArray) : Option Bool :=
  (gdO (!((a0.toList == e0.toList) || decide ((a0.size : Int) > 30))) (idxS a0 0)).bind fun b1 => (gdO (!((a0.toList == e0.toList) || decide ((a0.size : Int) > 30))) (impl_ydigit b1)).bind fun r3 => cond (((a0.toList == e0.toList) || decide ((a0.size : Int) > 30)) || r3) (some false) ((loopO (impl_GoodName_l1 a0) 0).bind fun q12 => (match q12 with | .inl _ => some true | .inr q6 => some q6))
theorem impl_GoodName_p  {a0 : ByteArray} {R0 : Bool} (H : impl_GoodName a0 = some R0) : Pure Tryd.prog 41 [.str a0] (.bool R0) := by
 refine CallT.of_TN (n := 27) Tryd.func41 rfl rfl rfl rfl ?_
 refine au 11 ?_
 refine TL.gcq rfl rfl rfl (.bool _) rfl rfl (fun h => o_lenS rfl rfl (gv h rfl)) ?_
 refine au 4 ?_
 obtain ⟨b1, h2, H⟩ := bind_s H
 refine TL.gcq rfl rfl rfl (.bool _) rfl rfl (fun h => o_ixs rfl rfl (gv h rfl) rfl (gdO_t h2 h)) ?_
 obtain ⟨r3, h4, H⟩ := bind_s H
 refine TL.gcq rfl rfl rfl (.bool _) rfl rfl (fun h => o_callP rfl en_49 rfl (evl_1 (gv h rfl)) (.cons _ _ _ _ (.cl _ rfl) .nil) (impl_ydigit_p  (gdO_t h4 h))) ?_
 refine au 2 ?_
 refine T.cH H (fun H h => ?_) (fun H h => ?_)
 ·refine au 5 ?_
  refine thn_ret ?_
  cases some_i H
  exact ⟨trivial, _, (.tmp _ _ _ _ rfl .nil), (.cl _ rfl)⟩
 ·refine au 9 ?_
  obtain ⟨q12, h13, H⟩ := bind_s H
  refine T.lq (fun s => match s with | v5 => [(0, .str a0), (17, .int .i64 (a0.size : Int)), (18, .int .i64 v5)]) (fun s => match s with | v5 => []) (fun q ex fr σ => match q with | .inl _ => ex = .exit 0 ∧ fr = [] ∧ σ = [] | .inr q6 => ex = .ret ∧ RetN Tryd.prog [.tmp 2] (fun v τ => Told τ v (.bool q6)) .ret fr σ) h13 ?_ ?_
  ·rintro v5 y7 H
   refine au 5 ?_
   refine T.cH H (fun H h => ?_) (fun H h => ?_)
   ·refine au 12 ?_
    obtain ⟨b8, h9, H⟩ := bind_s H
    refine TL.st rfl rfl rfl (o_ixs rfl rfl rfl rfl h9) ?_
    obtain ⟨r10, h11, H⟩ := bind_s H
    refine TL.st rfl rfl rfl (o_callP rfl en_50 rfl rfl (.cons _ _ _ _ (.cl _ rfl) .nil) (impl_ywordByte_p  h11)) ?_
    refine au 2 ?_
    refine T.cH H (fun H h => ?_) (fun H h => ?_)
    ·refine au 5 ?_
     refine inB_ret (thn_ret ?_)
     exact Pk.id (thn_ret ⟨.inr false, (some_i H).symm, rfl, ⟨trivial, _, (.tmp _ _ _ _ rfl .nil), (.cl _ rfl)⟩⟩)
    ·refine au 5 ?_
     exact Pk.of (thn_normal ⟨(IntKind.i64.wrap (v5 + 1)), (some_i H).symm, rfl, rfl⟩)
   ·refine T.exit ?_
    refine thn_exit ?_
    exact Pk.of (thn_exit ⟨.inl (), (some_i H).symm, rfl, rfl, rfl⟩)
  ·rcases q12 with ⟨⟩ | q6
   ·rintro _ _ _ ⟨rfl, rfl, rfl⟩
    refine inB_here ?_
    refine au 5 ?_
    cases some_i H
    exact ⟨trivial, _, (.tmp _ _ _ _ rfl .nil), (.cl _ rfl)⟩
   ·rintro _ fr1 σ1 ⟨rfl, hr⟩
    refine inB_ret (thn_ret ?_)
    cases some_i H
    exact hr
theorem en_41 : En Tryd.prog 41 := .of Tryd.func41 rfl rfl
theorem en_59 : En Tryd.prog 59 := .of Tryd.func59 rfl rfl
theorem tyS_104 : TyS Tryd.prog 104 true 4 := ⟨rfl, rfl⟩
noncomputable def impl_Digest_1_l1 (a0 : Int) (s1 : (List Int)) : ((List Int) × Int) → Option (((List Int) × Int) ⊕ (List Int)) := fun s => match s with
  | (b1, v2) => cond (decide (v2 < 4)) ((ixA 4 b1 v2).bind fun e5 => (ixA 4 s1 v2).bind fun e7 => (ixA 4 b1 (Int.tmod (IntKind.i64.wrap (v2 + 1)) 4)).bind fun e9 => (ixA 4 b1 v2).bind fun e11 => some (.inl ((b1.set (Int.toNat v2) (Int.tmod (IntKind.i64.wrap ((IntKind.i64.wrap ((IntKind.i64.wrap ((IntKind.i64.wrap (e5 * e7)) + (IntKind.i64.wrap a0))) + 1)) + e9)) 2147483579)), (IntKind.i64.wrap (v2 + 1))))) (some (.inr b1))
noncomputable def impl_Digest_1 (a0 : Int) (s0 : (List Int)) (s1 : (List Int)) : Option (List Int) :=
  (loopO (impl_Digest_1_l1 a0 s1) (s0, 0)).bind fun b3 => (match b3 with | b3 => some b3)
theorem impl_Digest_1_p  {a0 : Int} {s0 : (List Int)} {s1 : (List Int)} {U0 : (List Int)} (H : impl_Digest_1 a0 s0 s1 = some U0) : St Tryd.prog 74 [.int .u8 a0, .bx 0 0, .bx 1 0] [.box (s0.map (V.int .i64)), .box (s1.map (V.int .i64))] (.tup []) [.box (U0.map (V.int .i64)), .box (s1.map (V.int .i64))] := by
 refine CallT.fin (CallT.of_TN (n := 29) Tryd.func74 rfl rfl rfl rfl ?_) rfl rfl ⟨(belA fun _ => rfl), ⟨(belA fun _ => rfl), trivial⟩⟩
 refine au 5 ?_
 obtain ⟨b3, h14, H⟩ := bind_s H
 refine T.lq (fun s => match s with | (b1, v2) => [(0, .int .u8 a0), (1, .bx 0 0), (2, .bx 1 0), (5, .int .i64 v2)]) (fun s => match s with | (b1, v2) => [.box (b1.map (V.int .i64)), .box (s1.map (V.int .i64))]) (fun q ex fr σ => match q with | b3 => ex = .exit 0 ∧ fr = [] ∧ σ = [.box (b3.map (V.int .i64)), .box (s1.map (V.int .i64))]) h14 ?_ ?_
 ·rintro ⟨b1, v2⟩ y4 H
  refine au 5 ?_
  refine T.cH H (fun H h => ?_) (fun H h => ?_)
  ·refine au 8 ?_
   refine T.drawn rfl ?_
   refine ad 2 ?_
   obtain ⟨e5, h6, H⟩ := bind_s H
   refine TD.rs rfl rfl (o_ixA (f := V.int .i64) (xs := b1) rfl rfl tyS_3 rfl rfl rfl h6 (by decide)) ?_
   refine TD.rs rfl rfl (o_ldA (f := V.int .i64) (xs := b1) (a := e5) rfl tyS_3 rfl rfl h6) ?_
   refine TD.qs rfl rfl (fun _ => o_move rfl rfl) ?_
   obtain ⟨e7, h8, H⟩ := bind_s H
   refine TD.rs rfl rfl (o_ixA (f := V.int .i64) (xs := s1) rfl rfl tyS_3 rfl rfl rfl h8 (by decide)) ?_
   refine TD.rs rfl rfl (o_ldA (f := V.int .i64) (xs := s1) (a := e7) rfl tyS_3 rfl rfl h8) ?_
   refine ad 2 ?_
   refine TD.qs rfl rfl (fun _ => o_conv rfl rfl ⟨_, rfl⟩ rfl) ?_
   refine ad 4 ?_
   refine TD.qs rfl rfl (fun _ => o_rem rfl rfl rfl (by decide)) ?_
   obtain ⟨e9, h10, H⟩ := bind_s H
   refine TD.rs rfl rfl (o_ixA (f := V.int .i64) (xs := b1) rfl rfl tyS_3 rfl rfl rfl h10 (by decide)) ?_
   refine TD.rs rfl rfl (o_ldA (f := V.int .i64) (xs := b1) (a := e9) rfl tyS_3 rfl rfl h10) ?_
   refine TD.qs rfl rfl (fun _ => o_ari rfl rfl rfl rfl) ?_
   refine TD.qs rfl rfl (fun _ => o_rem rfl rfl rfl (by decide)) ?_
   obtain ⟨e11, h12, H⟩ := bind_s H
   refine TD.rs rfl rfl (o_ixA (f := V.int .i64) (xs := b1) rfl rfl tyS_3 rfl rfl rfl h12 (by decide)) ?_
   refine TD.an rfl rfl (o_stA (f := V.int .i64) (xs := b1) (a := e11) (b := (Int.tmod (IntKind.i64.wrap ((IntKind.i64.wrap ((IntKind.i64.wrap ((IntKind.i64.wrap (e5 * e7)) + (IntKind.i64.wrap a0))) + 1)) + e9)) 2147483579)) rfl tyS_3 rfl rfl rfl h12 rfl rfl) ?_
   refine TD.nil ⟨rfl, ?_⟩
   refine au 4 ?_
   exact Pk.of (thn_normal ⟨((b1.set (Int.toNat v2) (Int.tmod (IntKind.i64.wrap ((IntKind.i64.wrap ((IntKind.i64.wrap ((IntKind.i64.wrap (e5 * e7)) + (IntKind.i64.wrap a0))) + 1)) + e9)) 2147483579)), (IntKind.i64.wrap (v2 + 1))), (some_i H).symm, rfl, rfl⟩)
  ·refine T.exit ?_
   refine thn_exit ?_
   exact Pk.of (thn_exit ⟨b1, (some_i H).symm, rfl, rfl, rfl⟩)
 ·rintro _ _ _ ⟨rfl, rfl, rfl⟩
  refine inB_here ?_
  cases some_i H
  exact ⟨trivial, _, .nil, ⟨rfl, _, rfl⟩⟩
theorem en_74 : En Tryd.prog 74 := .of Tryd.func74 rfl rfl
noncomputable def impl_ybytes (a0 : Int) : Option (List Int) :=
  some ([(IntKind.u8.wrap a0), (IntKind.u8.wrap (Int.fdiv a0 (2 ^ (min (Int.toNat 8) IntKind.i64.bits)))), (IntKind.u8.wrap (Int.fdiv a0 (2 ^ (min (Int.toNat 16) IntKind.i64.bits)))), (IntKind.u8.wrap (Int.fdiv a0 (2 ^ (min (Int.toNat 24) IntKind.i64.bits))))] : List Int)
theorem impl_ybytes_p  {a0 : Int} {R0 : (List Int)} (H : impl_ybytes a0 = some R0) : Pure Tryd.prog 75 [.int .i64 a0] (.im false (R0.map (c_int .u8))) := by
 refine CallT.of_TN (n := 15) Tryd.func75 rfl rfl rfl rfl ?_
 refine au 7 ?_
 refine TL.st rfl rfl rfl (o_conv rfl rfl ⟨_, rfl⟩ rfl) ?_
 refine TL.st rfl rfl rfl (o_move rfl rfl) ?_
 refine TL.st rfl rfl rfl (o_shr rfl rfl rfl (by decide)) ?_
 refine TL.st rfl rfl rfl (o_conv rfl rfl ⟨_, rfl⟩ rfl) ?_
 refine TL.st rfl rfl rfl (o_move rfl rfl) ?_
 refine TL.st rfl rfl rfl (o_shr rfl rfl rfl (by decide)) ?_
 refine TL.st rfl rfl rfl (o_conv rfl rfl ⟨_, rfl⟩ rfl) ?_
 refine TL.st rfl rfl rfl (o_move rfl rfl) ?_
 refine TL.st rfl rfl rfl (o_shr rfl rfl rfl (by decide)) ?_
 refine TL.st rfl rfl rfl (o_conv rfl rfl ⟨_, rfl⟩ rfl) ?_
 refine TL.st rfl rfl rfl (o_sliceIm (rows := ([(IntKind.u8.wrap a0), (IntKind.u8.wrap (Int.fdiv a0 (2 ^ (min (Int.toNat 8) IntKind.i64.bits)))), (IntKind.u8.wrap (Int.fdiv a0 (2 ^ (min (Int.toNat 16) IntKind.i64.bits)))), (IntKind.u8.wrap (Int.fdiv a0 (2 ^ (min (Int.toNat 24) IntKind.i64.bits))))] : List Int).map (c_int .u8)) rfl rfl tyS_5 ⟨_, rfl, rfl⟩ (by decide) rfl rfl rfl rfl rfl rfl) ?_
 refine au 3 ?_
 cases some_i H
 exact ⟨trivial, _, (.tmp _ _ _ _ rfl .nil), (.cl _ rfl)⟩
theorem en_75 : En Tryd.prog 75 := .of Tryd.func75 rfl rfl
noncomputable def impl_Digest_l4 (b11 : (List Int)) : (List Int × Int) → Option ((List Int × Int) ⊕ List Int) := fun s => match s with
  | (l14, v15) => cond (decide (v15 < 4)) ((ixA 4 b11 v15).bind fun e18 => (impl_ybytes e18).bind fun r20 => (app l14 r20).bind fun l22 => some (.inl (l22, (IntKind.i64.wrap (v15 + 1))))) (some (.inr l14))
noncomputable def impl_Digest_l3  : ((List Int) × Int) → Option (((List Int) × Int) ⊕ (List Int)) := fun s => match s with
  | (b9, v10) => cond (decide (v10 < 8)) ((impl_Digest_1 0 b9 ([1103515245, 69069, 1664525, 22695477] : List Int)).bind fun o27 => some (.inl (o27, (IntKind.i64.wrap (v10 + 1))))) (some (.inr b9))
noncomputable def impl_Digest_l2 (r4 : (List Int)) : ((List Int) × Int) → Option (((List Int) × Int) ⊕ (List Int)) := fun s => match s with
  | (b6, v7) => cond (decide (v7 < (r4.length : Int))) ((idx r4 v7).bind fun e32 => (impl_Digest_1 e32 b6 ([1103515245, 69069, 1664525, 22695477] : List Int)).bind fun o34 => some (.inl (o34, (IntKind.i64.wrap (v7 + 1))))) (some (.inr b6))
noncomputable def impl_Digest_l1 (a0 : (List Int)) : ((List Int) × Int) → Option (((List Int) × Int) ⊕ (List Int)) := fun s => match s with
  | (b1, v2) => cond (decide (v2 < (a0.length : Int))) ((idx a0 v2).bind fun e39 => (impl_Digest_1 e39 b1 ([1103515245, 69069, 1664525, 22695477] : List Int)).bind fun o41 => some (.inl (o41, (IntKind.i64.wrap (v2 + 1))))) (some (.inr b1))
noncomputable def impl_Digest (a0 : (List Int)) : Option (List Int) :=
  cond (decide ((a0.length : Int) > 20000)) (some ([] : List Int)) ((loopO (impl_Digest_l1 a0) (([11, 22, 33, 44] : List Int), 0)).bind fun b3 => (match b3 with | b3 => (impl_ybytes (a0.length : Int)).bind fun r4 => (loopO (impl_Digest_l2 r4) (b3, 0)).bind fun b8 => (match b8 with | b8 => (loopO (impl_Digest_l3) (b8, 0)).bind fun b11 => (match b11 with | b11 => (lenN 4 b11).bind fun u12 => (loopO (impl_Digest_l4 b11) (([] : List Int), 0)).bind fun l16 => (match l16 with | l16 => some l16)))))
theorem impl_Digest_p (b0 : Bool) {a0 : (List Int)} {R0 : (List Int)} (H : impl_Digest a0 = some R0) : Pure Tryd.prog 69 [.im b0 (a0.map (c_int .u8))] (.im false (R0.map (c_int .u8))) := by
 refine CallT.of_TN (n := 56) Tryd.func69 rfl rfl rfl rfl ?_
 refine au 8 ?_
 refine TL.st rfl rfl rfl (o_lenL (f := c_int .u8) rfl rfl rfl) ?_
 refine au 2 ?_
 refine T.cH H (fun H h => ?_) (fun H h => ?_)
 ·refine au 5 ?_
  refine thn_ret ?_
  cases some_i H
  exact ⟨trivial, _, (.tmp _ _ _ _ rfl .nil), .nil⟩
 ·refine au 14 ?_
  refine T.conv (Cs.eqS (σ' := [.box (([11, 22, 33, 44] : List Int).map (V.int .i64)), .box (([1103515245, 69069, 1664525, 22695477] : List Int).map (V.int .i64))]) rfl) ?_
  refine T.region ?_
  refine TL.st rfl rfl rfl (o_makeFunc rfl rfl rfl) ?_
  refine au 6 ?_
  refine TL.st rfl rfl rfl (o_lenL (f := c_int .u8) rfl rfl rfl) ?_
  refine au 3 ?_
  obtain ⟨b3, h44, H⟩ := bind_s H
  refine T.lq (fun s => match s with | (b1, v2) => [(0, .im b0 (a0.map (c_int .u8))), (3, .bx 0 0), (5, .fn 74 [] [.bx 0 0, .bx 1 0]), (19, .im b0 (a0.map (c_int .u8))), (20, .int .i64 (a0.length : Int)), (21, .int .i64 v2)]) (fun s => match s with | (b1, v2) => [.box (b1.map (V.int .i64)), .box (([1103515245, 69069, 1664525, 22695477] : List Int).map (V.int .i64))]) (fun q ex fr σ => match q with | b3 => ex = .exit 0 ∧ fr = [(0, .im b0 (a0.map (c_int .u8))), (3, .bx 0 0), (5, .fn 74 [] [.bx 0 0, .bx 1 0])] ∧ σ = [.box (b3.map (V.int .i64)), .box (([1103515245, 69069, 1664525, 22695477] : List Int).map (V.int .i64))]) h44 ?_ ?_
  ·rintro ⟨b1, v2⟩ y38 H
   refine au 5 ?_
   refine T.cH H (fun H h => ?_) (fun H h => ?_)
   ·refine au 5 ?_
    obtain ⟨e39, h40, H⟩ := bind_s H
    refine TL.st rfl rfl rfl (o_ix (f := c_int .u8) rfl rfl tyS_5 rfl rfl h40 rfl) ?_
    refine au 6 ?_
    obtain ⟨o41, h42, H⟩ := bind_s H
    refine TL.st rfl rfl rfl (o_callM [0, 1] rfl en_74 rfl rfl (impl_Digest_1_p  h42) rfl (by decide) (.cons _ _ _ _ (ren_at rfl (ren_bxO fun _ => rfl)) (.cons _ _ _ _ (ren_at rfl (ren_bxO fun _ => rfl)) .nil)) rfl rfl (.cons _ _ _ _ (ren_bxO fun _ => rfl) (.cons _ _ _ _ (ren_bxO fun _ => rfl) .nil)) rfl) ?_
    refine au 5 ?_
    exact Pk.of (thn_normal ⟨(o41, (IntKind.i64.wrap (v2 + 1))), (some_i H).symm, rfl, rfl⟩)
   ·refine T.exit ?_
    refine thn_exit ?_
    exact Pk.of (thn_exit ⟨b1, (some_i H).symm, rfl, rfl, rfl⟩)
  ·rintro _ _ _ ⟨rfl, rfl, rfl⟩
   refine inB_here ?_
   refine au 4 ?_
   refine TL.st rfl rfl rfl (o_lenL (f := c_int .u8) rfl rfl rfl) ?_
   obtain ⟨r4, h5, H⟩ := bind_s H
   refine TL.st rfl rfl rfl (o_callP rfl en_75 rfl rfl (.cons _ _ _ _ (.cl _ rfl) .nil) (impl_ybytes_p  h5)) ?_
   refine TL.st rfl rfl rfl (o_lenL (f := c_int .u8) rfl rfl rfl) ?_
   refine au 3 ?_
   obtain ⟨b8, h37, H⟩ := bind_s H
   refine T.lq (fun s => match s with | (b6, v7) => [(3, .bx 0 0), (5, .fn 74 [] [.bx 0 0, .bx 1 0]), (31, .im false (r4.map (c_int .u8))), (32, .int .i64 (r4.length : Int)), (33, .int .i64 v7)]) (fun s => match s with | (b6, v7) => [.box (b6.map (V.int .i64)), .box (([1103515245, 69069, 1664525, 22695477] : List Int).map (V.int .i64))]) (fun q ex fr σ => match q with | b8 => ex = .exit 2 ∧ fr = [(3, .bx 0 0), (5, .fn 74 [] [.bx 0 0, .bx 1 0])] ∧ σ = [.box (b8.map (V.int .i64)), .box (([1103515245, 69069, 1664525, 22695477] : List Int).map (V.int .i64))]) h37 ?_ ?_
   ·rintro ⟨b6, v7⟩ y31 H
    refine au 5 ?_
    refine T.cH H (fun H h => ?_) (fun H h => ?_)
    ·refine au 5 ?_
     obtain ⟨e32, h33, H⟩ := bind_s H
     refine TL.st rfl rfl rfl (o_ix (f := c_int .u8) rfl rfl tyS_5 rfl rfl h33 rfl) ?_
     refine au 6 ?_
     obtain ⟨o34, h35, H⟩ := bind_s H
     refine TL.st rfl rfl rfl (o_callM [0, 1] rfl en_74 rfl rfl (impl_Digest_1_p  h35) rfl (by decide) (.cons _ _ _ _ (ren_at rfl (ren_bxO fun _ => rfl)) (.cons _ _ _ _ (ren_at rfl (ren_bxO fun _ => rfl)) .nil)) rfl rfl (.cons _ _ _ _ (ren_bxO fun _ => rfl) (.cons _ _ _ _ (ren_bxO fun _ => rfl) .nil)) rfl) ?_
     refine au 5 ?_
     exact Pk.of (thn_normal ⟨(o34, (IntKind.i64.wrap (v7 + 1))), (some_i H).symm, rfl, rfl⟩)
    ·refine T.exit ?_
     refine thn_exit ?_
     exact Pk.of (thn_exit ⟨b6, (some_i H).symm, rfl, rfl, rfl⟩)
   ·rintro _ _ _ ⟨rfl, rfl, rfl⟩
    refine inB_here ?_
    refine au 6 ?_
    obtain ⟨b11, h30, H⟩ := bind_s H
    refine T.lq (fun s => match s with | (b9, v10) => [(3, .bx 0 0), (5, .fn 74 [] [.bx 0 0, .bx 1 0]), (41, .int .i64 v10)]) (fun s => match s with | (b9, v10) => [.box (b9.map (V.int .i64)), .box (([1103515245, 69069, 1664525, 22695477] : List Int).map (V.int .i64))]) (fun q ex fr σ => match q with | b11 => ex = .exit 4 ∧ fr = [(3, .bx 0 0)] ∧ σ = [.box (b11.map (V.int .i64)), .box (([1103515245, 69069, 1664525, 22695477] : List Int).map (V.int .i64))]) h30 ?_ ?_
    ·rintro ⟨b9, v10⟩ y26 H
     refine au 5 ?_
     refine T.cH H (fun H h => ?_) (fun H h => ?_)
     ·refine au 5 ?_
      obtain ⟨o27, h28, H⟩ := bind_s H
      refine TL.st rfl rfl rfl (o_callM [0, 1] rfl en_74 rfl rfl (impl_Digest_1_p  h28) rfl (by decide) (.cons _ _ _ _ (ren_at rfl (ren_bxO fun _ => rfl)) (.cons _ _ _ _ (ren_at rfl (ren_bxO fun _ => rfl)) .nil)) rfl rfl (.cons _ _ _ _ (ren_bxO fun _ => rfl) (.cons _ _ _ _ (ren_bxO fun _ => rfl) .nil)) rfl) ?_
      refine au 5 ?_
      exact Pk.of (thn_normal ⟨(o27, (IntKind.i64.wrap (v10 + 1))), (some_i H).symm, rfl, rfl⟩)
     ·refine T.exit ?_
      refine thn_exit ?_
      exact Pk.of (thn_exit ⟨b9, (some_i H).symm, rfl, rfl, rfl⟩)
    ·rintro _ _ _ ⟨rfl, rfl, rfl⟩
     refine inB_here ?_
     refine au 7 ?_
     obtain ⟨u12, h13, H⟩ := bind_s H
     refine TL.st rfl rfl rfl (o_loadA (f := V.int .i64) (xs := b11) rfl tyS_104 rfl rfl h13) ?_
     refine au 3 ?_
     refine T.conv (Cs.own (t := 10) 1 rfl (by decide)) ?_
     obtain ⟨l16, h25, H⟩ := bind_s H
     refine T.lq (fun s => match s with | (l14, v15) => [(10, .hd 2 (l14.map (c_int .u8)).length 0 (l14.map (c_int .u8)).length), (46, .agg (b11.map (V.int .i64))), (47, .int .i64 v15)]) (fun s => match s with | (l14, v15) => [.box (b11.map (V.int .i64)), .box (([1103515245, 69069, 1664525, 22695477] : List Int).map (V.int .i64)), .arr .clo 1 (l14.map (c_int .u8))]) (fun q ex fr σ => match q with | l16 => ex = .exit 6 ∧ fr = [(10, .hd 2 (l16.map (c_int .u8)).length 0 (l16.map (c_int .u8)).length)] ∧ σ = [.box (b11.map (V.int .i64)), .box (([1103515245, 69069, 1664525, 22695477] : List Int).map (V.int .i64)), .arr .clo 1 (l16.map (c_int .u8))]) h25 ?_ ?_
     ·rintro ⟨l14, v15⟩ y17 H
      refine au 5 ?_
      refine T.cH H (fun H h => ?_) (fun H h => ?_)
      ·refine au 5 ?_
       obtain ⟨e18, h19, H⟩ := bind_s H
       refine TL.st rfl rfl rfl (o_ixV (f := V.int .i64) (xs := b11) rfl rfl tyS_3 rfl rfl h19) ?_
       refine au 5 ?_
       obtain ⟨r20, h21, H⟩ := bind_s H
       refine TL.st rfl rfl rfl (o_callP rfl en_75 rfl rfl (.cons _ _ _ _ (.cl _ rfl) .nil) (impl_ybytes_p  h21)) ?_
       obtain ⟨l22, h23, H⟩ := bind_s H
       refine TL.st rfl rfl rfl (o_ap (f := c_int .u8) (xs := l14) (ys := r20) rfl rfl tyE_5 rfl rfl rfl rfl (by decide) rfl (fun _ => rfl) h23) ?_
       refine au 6 ?_
       exact Pk.of (thn_normal ⟨(l22, (IntKind.i64.wrap (v15 + 1))), (some_i H).symm, rfl, rfl⟩)
      ·refine T.exit ?_
       refine thn_exit ?_
       exact Pk.of (thn_exit ⟨l14, (some_i H).symm, rfl, rfl, rfl⟩)
     ·rintro _ _ _ ⟨rfl, rfl, rfl⟩
      refine inB_here ?_
      refine au 6 ?_
      cases some_i H
      exact ⟨trivial, _, (.tmp _ _ _ _ rfl .nil), (.own rfl (by decide) rfl)⟩
theorem en_69 : En Tryd.prog 69 := .of Tryd.func69 rfl rfl
theorem impl_Digest_o (b0 : Bool) {a0 : (List Int)} {R0 : (List Int)} (H : impl_Digest a0 = some R0) : OwnC Tryd.prog 69 [.im b0 (a0.map (c_int .u8))] 1 (R0.map (c_int .u8)) := by
 refine CallT.of_TN (n := 56) Tryd.func69 rfl rfl rfl rfl ?_
 refine au 8 ?_
 refine TL.st rfl rfl rfl (o_lenL (f := c_int .u8) rfl rfl rfl) ?_
 refine au 2 ?_
 refine T.cH H (fun H h => ?_) (fun H h => ?_)
 ·refine au 4 ?_
  refine T.conv (Cs.own (t := 2) 1 rfl (by decide)) ?_
  refine T.ret ?_
  refine thn_ret ?_
  cases some_i H
  exact ⟨trivial, _, (.tmp _ _ _ _ rfl .nil), ⟨rfl, _, rfl⟩⟩
 ·refine au 14 ?_
  refine T.conv (Cs.eqS (σ' := [.box (([11, 22, 33, 44] : List Int).map (V.int .i64)), .box (([1103515245, 69069, 1664525, 22695477] : List Int).map (V.int .i64))]) rfl) ?_
  refine T.region ?_
  refine TL.st rfl rfl rfl (o_makeFunc rfl rfl rfl) ?_
  refine au 6 ?_
  refine TL.st rfl rfl rfl (o_lenL (f := c_int .u8) rfl rfl rfl) ?_
  refine au 3 ?_
  obtain ⟨b3, h44, H⟩ := bind_s H
  refine T.lq (fun s => match s with | (b1, v2) => [(0, .im b0 (a0.map (c_int .u8))), (3, .bx 0 0), (5, .fn 74 [] [.bx 0 0, .bx 1 0]), (19, .im b0 (a0.map (c_int .u8))), (20, .int .i64 (a0.length : Int)), (21, .int .i64 v2)]) (fun s => match s with | (b1, v2) => [.box (b1.map (V.int .i64)), .box (([1103515245, 69069, 1664525, 22695477] : List Int).map (V.int .i64))]) (fun q ex fr σ => match q with | b3 => ex = .exit 0 ∧ fr = [(0, .im b0 (a0.map (c_int .u8))), (3, .bx 0 0), (5, .fn 74 [] [.bx 0 0, .bx 1 0])] ∧ σ = [.box (b3.map (V.int .i64)), .box (([1103515245, 69069, 1664525, 22695477] : List Int).map (V.int .i64))]) h44 ?_ ?_
  ·rintro ⟨b1, v2⟩ y38 H
   refine au 5 ?_
   refine T.cH H (fun H h => ?_) (fun H h => ?_)
   ·refine au 5 ?_
    obtain ⟨e39, h40, H⟩ := bind_s H
    refine TL.st rfl rfl rfl (o_ix (f := c_int .u8) rfl rfl tyS_5 rfl rfl h40 rfl) ?_
    refine au 6 ?_
    obtain ⟨o41, h42, H⟩ := bind_s H
    refine TL.st rfl rfl rfl (o_callM [0, 1] rfl en_74 rfl rfl (impl_Digest_1_p  h42) rfl (by decide) (.cons _ _ _ _ (ren_at rfl (ren_bxO fun _ => rfl)) (.cons _ _ _ _ (ren_at rfl (ren_bxO fun _ => rfl)) .nil)) rfl rfl (.cons _ _ _ _ (ren_bxO fun _ => rfl) (.cons _ _ _ _ (ren_bxO fun _ => rfl) .nil)) rfl) ?_
    refine au 5 ?_
    exact Pk.of (thn_normal ⟨(o41, (IntKind.i64.wrap (v2 + 1))), (some_i H).symm, rfl, rfl⟩)
   ·refine T.exit ?_
    refine thn_exit ?_
    exact Pk.of (thn_exit ⟨b1, (some_i H).symm, rfl, rfl, rfl⟩)
  ·rintro _ _ _ ⟨rfl, rfl, rfl⟩
   refine inB_here ?_
   refine au 4 ?_
   refine TL.st rfl rfl rfl (o_lenL (f := c_int .u8) rfl rfl rfl) ?_
   obtain ⟨r4, h5, H⟩ := bind_s H
   refine TL.st rfl rfl rfl (o_callP rfl en_75 rfl rfl (.cons _ _ _ _ (.cl _ rfl) .nil) (impl_ybytes_p  h5)) ?_
   refine TL.st rfl rfl rfl (o_lenL (f := c_int .u8) rfl rfl rfl) ?_
   refine au 3 ?_
   obtain ⟨b8, h37, H⟩ := bind_s H
   refine T.lq (fun s => match s with | (b6, v7) => [(3, .bx 0 0), (5, .fn 74 [] [.bx 0 0, .bx 1 0]), (31, .im false (r4.map (c_int .u8))), (32, .int .i64 (r4.length : Int)), (33, .int .i64 v7)]) (fun s => match s with | (b6, v7) => [.box (b6.map (V.int .i64)), .box (([1103515245, 69069, 1664525, 22695477] : List Int).map (V.int .i64))]) (fun q ex fr σ => match q with | b8 => ex = .exit 2 ∧ fr = [(3, .bx 0 0), (5, .fn 74 [] [.bx 0 0, .bx 1 0])] ∧ σ = [.box (b8.map (V.int .i64)), .box (([1103515245, 69069, 1664525, 22695477] : List Int).map (V.int .i64))]) h37 ?_ ?_
   ·rintro ⟨b6, v7⟩ y31 H
    refine au 5 ?_
    refine T.cH H (fun H h => ?_) (fun H h => ?_)
    ·refine au 5 ?_
     obtain ⟨e32, h33, H⟩ := bind_s H
     refine TL.st rfl rfl rfl (o_ix (f := c_int .u8) rfl rfl tyS_5 rfl rfl h33 rfl) ?_
     refine au 6 ?_
     obtain ⟨o34, h35, H⟩ := bind_s H
     refine TL.st rfl rfl rfl (o_callM [0, 1] rfl en_74 rfl rfl (impl_Digest_1_p  h35) rfl (by decide) (.cons _ _ _ _ (ren_at rfl (ren_bxO fun _ => rfl)) (.cons _ _ _ _ (ren_at rfl (ren_bxO fun _ => rfl)) .nil)) rfl rfl (.cons _ _ _ _ (ren_bxO fun _ => rfl) (.cons _ _ _ _ (ren_bxO fun _ => rfl) .nil)) rfl) ?_
     refine au 5 ?_
     exact Pk.of (thn_normal ⟨(o34, (IntKind.i64.wrap (v7 + 1))), (some_i H).symm, rfl, rfl⟩)
    ·refine T.exit ?_
     refine thn_exit ?_
     exact Pk.of (thn_exit ⟨b6, (some_i H).symm, rfl, rfl, rfl⟩)
   ·rintro _ _ _ ⟨rfl, rfl, rfl⟩
    refine inB_here ?_
    refine au 6 ?_
    obtain ⟨b11, h30, H⟩ := bind_s H
    refine T.lq (fun s => match s with | (b9, v10) => [(3, .bx 0 0), (5, .fn 74 [] [.bx 0 0, .bx 1 0]), (41, .int .i64 v10)]) (fun s => match s with | (b9, v10) => [.box (b9.map (V.int .i64)), .box (([1103515245, 69069, 1664525, 22695477] : List Int).map (V.int .i64))]) (fun q ex fr σ => match q with | b11 => ex = .exit 4 ∧ fr = [(3, .bx 0 0)] ∧ σ = [.box (b11.map (V.int .i64)), .box (([1103515245, 69069, 1664525, 22695477] : List Int).map (V.int .i64))]) h30 ?_ ?_
    ·rintro ⟨b9, v10⟩ y26 H
     refine au 5 ?_
     refine T.cH H (fun H h => ?_) (fun H h => ?_)
     ·refine au 5 ?_
      obtain ⟨o27, h28, H⟩ := bind_s H
      refine TL.st rfl rfl rfl (o_callM [0, 1] rfl en_74 rfl rfl (impl_Digest_1_p  h28) rfl (by decide) (.cons _ _ _ _ (ren_at rfl (ren_bxO fun _ => rfl)) (.cons _ _ _ _ (ren_at rfl (ren_bxO fun _ => rfl)) .nil)) rfl rfl (.cons _ _ _ _ (ren_bxO fun _ => rfl) (.cons _ _ _ _ (ren_bxO fun _ => rfl) .nil)) rfl) ?_
      refine au 5 ?_
      exact Pk.of (thn_normal ⟨(o27, (IntKind.i64.wrap (v10 + 1))), (some_i H).symm, rfl, rfl⟩)
     ·refine T.exit ?_
      refine thn_exit ?_
      exact Pk.of (thn_exit ⟨b9, (some_i H).symm, rfl, rfl, rfl⟩)
    ·rintro _ _ _ ⟨rfl, rfl, rfl⟩
     refine inB_here ?_
     refine au 7 ?_
     obtain ⟨u12, h13, H⟩ := bind_s H
     refine TL.st rfl rfl rfl (o_loadA (f := V.int .i64) (xs := b11) rfl tyS_104 rfl rfl h13) ?_
     refine au 3 ?_
     refine T.conv (Cs.own (t := 10) 1 rfl (by decide)) ?_
     obtain ⟨l16, h25, H⟩ := bind_s H
     refine T.lq (fun s => match s with | (l14, v15) => [(10, .hd 2 (l14.map (c_int .u8)).length 0 (l14.map (c_int .u8)).length), (46, .agg (b11.map (V.int .i64))), (47, .int .i64 v15)]) (fun s => match s with | (l14, v15) => [.box (b11.map (V.int .i64)), .box (([1103515245, 69069, 1664525, 22695477] : List Int).map (V.int .i64)), .arr .clo 1 (l14.map (c_int .u8))]) (fun q ex fr σ => match q with | l16 => ex = .exit 6 ∧ fr = [(10, .hd 2 (l16.map (c_int .u8)).length 0 (l16.map (c_int .u8)).length)] ∧ σ = [.box (b11.map (V.int .i64)), .box (([1103515245, 69069, 1664525, 22695477] : List Int).map (V.int .i64)), .arr .clo 1 (l16.map (c_int .u8))]) h25 ?_ ?_
     ·rintro ⟨l14, v15⟩ y17 H
      refine au 5 ?_
      refine T.cH H (fun H h => ?_) (fun H h => ?_)
      ·refine au 5 ?_
       obtain ⟨e18, h19, H⟩ := bind_s H
       refine TL.st rfl rfl rfl (o_ixV (f := V.int .i64) (xs := b11) rfl rfl tyS_3 rfl rfl h19) ?_
       refine au 5 ?_
       obtain ⟨r20, h21, H⟩ := bind_s H
       refine TL.st rfl rfl rfl (o_callP rfl en_75 rfl rfl (.cons _ _ _ _ (.cl _ rfl) .nil) (impl_ybytes_p  h21)) ?_
       obtain ⟨l22, h23, H⟩ := bind_s H
       refine TL.st rfl rfl rfl (o_ap (f := c_int .u8) (xs := l14) (ys := r20) rfl rfl tyE_5 rfl rfl rfl rfl (by decide) rfl (fun _ => rfl) h23) ?_
       refine au 6 ?_
       exact Pk.of (thn_normal ⟨(l22, (IntKind.i64.wrap (v15 + 1))), (some_i H).symm, rfl, rfl⟩)
      ·refine T.exit ?_
       refine thn_exit ?_
       exact Pk.of (thn_exit ⟨l14, (some_i H).symm, rfl, rfl, rfl⟩)
     ·rintro _ _ _ ⟨rfl, rfl, rfl⟩
      refine inB_here ?_
      refine au 5 ?_
      refine T.conv (Cs.wkF (M := 3) (.k 2 rfl rfl .nil)) ?_
      refine T.conv (Cs.reloc 0 2 rfl rfl (by decide) rfl rfl rfl (nomS_get rfl)) ?_
      refine T.ret ?_
      cases some_i H
      exact ⟨trivial, _, (.tmp _ _ _ _ rfl .nil), ⟨rfl, _, rfl⟩⟩
noncomputable def impl_Mac (a0 : (List Int)) (a1 : (List Int)) : Option (List Int) :=
  cond (decide ((a0.length : Int) > 20000) || decide ((a1.length : Int) > 20000)) (some ([] : List Int)) ((impl_Digest a0).bind fun r1 => (impl_Digest a1).bind fun r3 => (app r1 r3).bind fun l5 => (impl_Digest l5).bind fun r7 => some r7)
theorem impl_Mac_p (b0 : Bool) (b1 : Bool) {a0 : (List Int)} {a1 : (List Int)} {R0 : (List Int)} (H : impl_Mac a0 a1 = some R0) : Pure Tryd.prog 61 [.im b0 (a0.map (c_int .u8)), .im b1 (a1.map (c_int .u8))] (.im false (R0.map (c_int .u8))) := by
 refine CallT.of_TN (n := 19) Tryd.func61 rfl rfl rfl rfl ?_
 refine au 8 ?_
 refine TL.st rfl rfl rfl (o_lenL (f := c_int .u8) rfl rfl rfl) ?_
 refine au 3 ?_
 refine TL.gcq rfl rfl rfl (.bool _) rfl rfl (fun h => o_lenL (f := c_int .u8) rfl rfl (gv h rfl)) ?_
 refine au 3 ?_
 refine T.cH H (fun H h => ?_) (fun H h => ?_)
 ·refine au 5 ?_
  refine thn_ret ?_
  cases some_i H
  exact ⟨trivial, _, (.tmp _ _ _ _ rfl .nil), .nil⟩
 ·refine au 4 ?_
  obtain ⟨r1, h2, H⟩ := bind_s H
  refine TL.st rfl rfl rfl (o_callOwn rfl en_69 rfl rfl (.cons _ _ _ _ (.imv _ _) .nil) (impl_Digest_o b0 h2)) ?_
  refine TL.st rfl rfl rfl (o_move rfl rfl) ?_
  obtain ⟨r3, h4, H⟩ := bind_s H
  refine TL.st rfl rfl rfl (o_callP rfl en_69 rfl rfl (.cons _ _ _ _ (.imv _ _) .nil) (impl_Digest_p b1 h4)) ?_
  obtain ⟨l5, h6, H⟩ := bind_s H
  refine TL.st rfl rfl rfl (o_ap (f := c_int .u8) (xs := r1) (ys := r3) rfl rfl tyE_5 rfl rfl rfl rfl (by decide) rfl (fun _ => rfl) h6) ?_
  obtain ⟨r7, h8, H⟩ := bind_s H
  refine TL.st rfl rfl rfl (o_callP rfl en_69 rfl rfl (.cons _ _ _ _ (.own rfl (by decide) rfl) .nil) (impl_Digest_p true h8)) ?_
  refine au 3 ?_
  cases some_i H
  exact ⟨trivial, _, (.tmp _ _ _ _ rfl .nil), (.cl _ rfl)⟩
theorem en_61 : En Tryd.prog 61 := .of Tryd.func61 rfl rfl
theorem en_73 : En Tryd.prog 73 := .of Tryd.func73 rfl rfl
noncomputable def strings_Builder_WriteByte (a0 : Int) (s0 : T_strings_Builder) : Option (Unit × T_strings_Builder) :=
  (ccO (⟨(), s0.buf_⟩ : T_strings_Builder).buf_).bind fun u1 => (app s0.buf_ ([a0] : List Int)).bind fun l3 => some ((), (⟨(), l3⟩ : T_strings_Builder))
theorem strings_Builder_WriteByte_p  {a0 : Int} {s0 : T_strings_Builder} {R0 : Unit} {U0 : T_strings_Builder} (H : strings_Builder_WriteByte a0 s0 = some (R0, U0)) : St Tryd.prog 67 [.bx 0 0, .int .u8 a0] [.box [.px 0 95 1 0, .hd 1 (s0.buf_.map (c_int .u8)).length 0 (s0.buf_.map (c_int .u8)).length], .arr (.tg 5) 1 (s0.buf_.map (c_int .u8))] (.nilI) [.box [.px 0 95 1 0, .hd 2 (U0.buf_.map (c_int .u8)).length 0 (U0.buf_.map (c_int .u8)).length], .dead, .arr (.tg 5) 1 (U0.buf_.map (c_int .u8))] := by
 refine CallT.fin (CallT.of_TN (n := 17) Tryd.func67 rfl rfl rfl rfl ?_) rfl rfl ⟨(bels_iff.1 rfl), ⟨trivial, ⟨trivial, trivial⟩⟩⟩
 refine T.conv (Cs.fresh 1 rfl rfl (by decide) rfl (nomS_all rfl rfl)) ?_
 refine T.conv (Cs.wkF (M := 3) (.k 0 rfl rfl (.k 1 rfl rfl .nil))) ?_
 refine T.conv (Cs.eqS (σ' := [.box [.px 0 95 1 0, .hd 2 (s0.buf_.map (c_int .u8)).length 0 (s0.buf_.map (c_int .u8)).length], .dead, .arr (.tg 5) 1 (s0.buf_.map (c_int .u8))]) rfl) ?_
 refine au 7 ?_
 obtain ⟨u1, h2, H⟩ := bind_s H
 refine TL.st rfl rfl rfl (o_callS [0, 2] rfl en_73 rfl rfl (SL.lib_73  h2) rfl (by decide) (.cons _ _ _ _ rfl (.cons _ _ _ _ rfl .nil)) rfl rfl rfl) ?_
 refine au 9 ?_
 refine TL.st rfl rfl rfl (o_sliceIm (rows := ([a0] : List Int).map (c_int .u8)) rfl rfl tyS_5 ⟨_, rfl, rfl⟩ (by decide) rfl rfl rfl rfl rfl rfl) ?_
 obtain ⟨l3, h4, H⟩ := bind_s H
 refine TL.st rfl rfl rfl (o_ap (f := c_int .u8) (xs := s0.buf_) (ys := ([a0] : List Int)) rfl rfl tyE_5 rfl rfl rfl rfl (by decide) rfl (fun _ => rfl) h4) ?_
 refine au 2 ?_
 refine TL.sn rfl rfl (o_storeBx rfl tyS_22 rfl rfl rfl rfl (nb rfl) (sure_hd rfl rfl rfl)) ?_
 refine au 2 ?_
 refine T.conv (Cs.eqS (σ' := [.box [.px 0 95 1 0, .hd 2 (l3.map (c_int .u8)).length 0 (l3.map (c_int .u8)).length], _, .arr (.tg 5) 1 (l3.map (c_int .u8))]) rfl) ?_
 refine au 4 ?_
 cases some_i H
 exact ⟨trivial, _, (.tmp _ _ _ _ rfl .nil), ⟨rfl, _, rfl⟩⟩
theorem en_67 : En Tryd.prog 67 := .of Tryd.func67 rfl rfl
noncomputable def strings_Builder_String (s0 : T_strings_Builder) : Option ByteArray :=
  some (byS s0.buf_)
theorem strings_Builder_String_p  {s0 : T_strings_Builder} {R0 : ByteArray} (H : strings_Builder_String s0 = some R0) : St Tryd.prog 68 [.bx 0 0] [.box [.px 0 95 1 0, .hd 1 (s0.buf_.map (c_int .u8)).length 0 (s0.buf_.map (c_int .u8)).length], .arr (.tg 5) 1 (s0.buf_.map (c_int .u8))] (.str R0) [.box [.px 0 95 1 0, .hd 2 (s0.buf_.map (c_int .u8)).length 0 (s0.buf_.map (c_int .u8)).length], .dead, .dead] := by
 refine CallT.fin (CallT.of_TN (n := 14) Tryd.func68 rfl rfl rfl rfl ?_) rfl rfl ⟨(bels_iff.1 rfl), ⟨trivial, ⟨trivial, trivial⟩⟩⟩
 refine T.conv (Cs.fresh 1 rfl rfl (by decide) rfl (nomS_all rfl rfl)) ?_
 refine T.conv (Cs.wkF (M := 3) (.k 0 rfl rfl .nil)) ?_
 refine T.conv (Cs.eqS (σ' := [.box [.px 0 95 1 0, .hd 2 (s0.buf_.map (c_int .u8)).length 0 (s0.buf_.map (c_int .u8)).length], .dead, .arr (.tg 5) 1 (s0.buf_.map (c_int .u8))]) rfl) ?_
 refine au 5 ?_
 refine T.drawn rfl ?_
 refine ad 4 ?_
 refine TD.rs rfl rfl (o_sliceData rfl rfl rfl rfl rfl) ?_
 refine ad 4 ?_
 refine TD.rs rfl rfl (o_lenOwn (f := c_int .u8) rfl rfl rfl rfl rfl) ?_
 refine TD.as rfl rfl (o_unsafeString (f := c_int .u8) (ns := s0.buf_) rfl rfl rfl (fun _ => rfl) rfl rfl rfl) ?_
 refine TD.qs rfl rfl (fun _ => o_assign rfl rfl) ?_
 refine TD.nil ⟨rfl, ?_⟩
 refine T.ret ?_
 cases some_i H
 exact ⟨trivial, _, (.tmp _ _ _ _ rfl .nil), ⟨rfl, _, rfl⟩⟩
theorem en_68 : En Tryd.prog 68 := .of Tryd.func68 rfl rfl
noncomputable def impl_Armor_l2 (v2 : Int) (e20 : Int) : (T_strings_Builder × Int) → Option ((T_strings_Builder × Int) ⊕ (T_strings_Builder × Int)) := fun s => match s with
  | (b22, v23) => cond (decide (v23 ≥ 5)) ((nn (IntKind.i64.wrap (v23 - 5))).bind fun u29 => (idxS (ByteArray.mk #[48, 49, 50, 51, 52, 53, 54, 55, 56, 57, 97, 98, 99, 100, 101, 102, 103, 104, 105, 106, 107, 108, 109, 110, 111, 112, 113, 114, 115, 116, 117, 118]) (IntKind.i64.wrap (BitVec.ofInt IntKind.i64.bits (Int.fdiv (IntKind.i64.wrap (BitVec.ofInt IntKind.i64.bits (IntKind.i64.wrap (v2 * 2 ^ (min (Int.toNat 8) IntKind.i64.bits))) ||| BitVec.ofInt IntKind.i64.bits (IntKind.i64.wrap e20)).toNat) (2 ^ (min (Int.toNat (IntKind.i64.wrap (v23 - 5))) IntKind.i64.bits))) &&& BitVec.ofInt IntKind.i64.bits 31).toNat)).bind fun b31 => (strings_Builder_WriteByte b31 (⟨(), b22.buf_⟩ : T_strings_Builder)).bind fun q => (match q with | (r33, o34) => some (.inl ((⟨(), o34.buf_⟩ : T_strings_Builder), (IntKind.i64.wrap (v23 - 5)))))) (some (.inr ((⟨(), b22.buf_⟩ : T_strings_Builder), v23)))
noncomputable def impl_Armor_l1 (a0 : (List Int)) : (T_strings_Builder × Int × Int × Int) → Option ((T_strings_Builder × Int × Int × Int) ⊕ (T_strings_Builder × Int × Int)) := fun s => match s with
  | (b1, v2, v3, v4) => cond (decide (v4 < (a0.length : Int))) ((idx a0 v4).bind fun e20 => (loopO (impl_Armor_l2 v2 e20) ((⟨(), b1.buf_⟩ : T_strings_Builder), (IntKind.i64.wrap (v3 + 8)))).bind fun q36 => (match q36 with | (b24, v25) => (nn v25).bind fun u26 => some (.inl ((⟨(), b24.buf_⟩ : T_strings_Builder), (IntKind.i64.wrap (BitVec.ofInt IntKind.i64.bits (IntKind.i64.wrap (BitVec.ofInt IntKind.i64.bits (IntKind.i64.wrap (v2 * 2 ^ (min (Int.toNat 8) IntKind.i64.bits))) ||| BitVec.ofInt IntKind.i64.bits (IntKind.i64.wrap e20)).toNat) &&& BitVec.ofInt IntKind.i64.bits (IntKind.i64.wrap ((IntKind.i64.wrap (1 * 2 ^ (min (Int.toNat v25) IntKind.i64.bits))) - 1))).toNat), v25, (IntKind.i64.wrap (v4 + 1)))))) (some (.inr ((⟨(), b1.buf_⟩ : T_strings_Builder), v2, v3)))
noncomputable def impl_Armor (a0 : (List Int)) : Option ByteArray :=
  cond (decide ((a0.length : Int) > 20000)) (some e0) ((loopO (impl_Armor_l1 a0) ((⟨(), ([] : List Int)⟩ : T_strings_Builder), 0, 0, 0)).bind fun q38 => (match q38 with | (b5, v6, v7) => cond (decide (v7 > 0)) ((nn (IntKind.i64.wrap (5 - v7))).bind fun u8 => (idxS (ByteArray.mk #[48, 49, 50, 51, 52, 53, 54, 55, 56, 57, 97, 98, 99, 100, 101, 102, 103, 104, 105, 106, 107, 108, 109, 110, 111, 112, 113, 114, 115, 116, 117, 118]) (IntKind.i64.wrap (BitVec.ofInt IntKind.i64.bits (IntKind.i64.wrap (v6 * 2 ^ (min (Int.toNat (IntKind.i64.wrap (5 - v7))) IntKind.i64.bits))) &&& BitVec.ofInt IntKind.i64.bits 31).toNat)).bind fun b10 => (strings_Builder_WriteByte b10 (⟨(), b5.buf_⟩ : T_strings_Builder)).bind fun q => (match q with | (r12, o13) => (strings_Builder_String (⟨(), o13.buf_⟩ : T_strings_Builder)).bind fun r15 => some r15)) ((strings_Builder_String (⟨(), b5.buf_⟩ : T_strings_Builder)).bind fun r17 => some r17)))
theorem impl_Armor_p (b0 : Bool) {a0 : (List Int)} {R0 : ByteArray} (H : impl_Armor a0 = some R0) : Pure Tryd.prog 60 [.im b0 (a0.map (c_int .u8))] (.str R0) := by
 refine CallT.of_TN (n := 50) Tryd.func60 rfl rfl rfl rfl ?_
 refine au 8 ?_
 refine TL.st rfl rfl rfl (o_lenL (f := c_int .u8) rfl rfl rfl) ?_
 refine au 2 ?_
 refine T.cH H (fun H h => ?_) (fun H h => ?_)
 ·refine au 5 ?_
  refine thn_ret ?_
  cases some_i H
  exact ⟨trivial, _, (.tmp _ _ _ _ rfl .nil), (.cl _ rfl)⟩
 ·refine au 3 ?_
  refine TL.st rfl rfl rfl (o_allocB rfl ⟨_, rfl, rfl⟩) ?_
  refine au 10 ?_
  refine TL.st rfl rfl rfl (o_lenL (f := c_int .u8) rfl rfl rfl) ?_
  refine au 3 ?_
  refine T.conv (Cs.ownCellT (p := 0) 5 1 1 rfl rfl (by decide)) ?_
  obtain ⟨q38, h39, H⟩ := bind_s H
  refine T.lq (fun s => match s with | (b1, v2, v3, v4) => [(3, .bx 0 0), (4, .int .i64 v2), (5, .int .i64 v3), (11, .im b0 (a0.map (c_int .u8))), (12, .int .i64 (a0.length : Int)), (13, .int .i64 v4)]) (fun s => match s with | (b1, v2, v3, v4) => [.box [.px 0 95 1 0, .hd 1 (b1.buf_.map (c_int .u8)).length 0 (b1.buf_.map (c_int .u8)).length], .arr (.tg 5) 1 (b1.buf_.map (c_int .u8))]) (fun q ex fr σ => match q with | (b5, v6, v7) => ex = .exit 0 ∧ fr = [(3, .bx 0 0), (4, .int .i64 v6), (5, .int .i64 v7)] ∧ σ = [.box [.px 0 95 1 0, .hd 1 (b5.buf_.map (c_int .u8)).length 0 (b5.buf_.map (c_int .u8)).length], .arr (.tg 5) 1 (b5.buf_.map (c_int .u8))]) h39 ?_ ?_
  ·rintro ⟨b1, v2, v3, v4⟩ y19 H
   refine au 5 ?_
   refine T.cH H (fun H h => ?_) (fun H h => ?_)
   ·refine au 5 ?_
    obtain ⟨e20, h21, H⟩ := bind_s H
    refine TL.st rfl rfl rfl (o_ix (f := c_int .u8) rfl rfl tyS_5 rfl rfl h21 rfl) ?_
    refine au 6 ?_
    refine TL.st rfl rfl rfl (o_shl rfl rfl rfl (by decide)) ?_
    refine TL.st rfl rfl rfl (o_move rfl rfl) ?_
    refine TL.st rfl rfl rfl (o_conv rfl rfl ⟨_, rfl⟩ rfl) ?_
    refine TL.st rfl rfl rfl (o_bits rfl rfl rfl rfl) ?_
    refine au 7 ?_
    obtain ⟨q36, h37, H⟩ := bind_s H
    refine T.lq (fun s => match s with | (b22, v23) => [(3, .bx 0 0), (4, .int .i64 (IntKind.i64.wrap (BitVec.ofInt IntKind.i64.bits (IntKind.i64.wrap (v2 * 2 ^ (min (Int.toNat 8) IntKind.i64.bits))) ||| BitVec.ofInt IntKind.i64.bits (IntKind.i64.wrap e20)).toNat)), (5, .int .i64 v23), (11, .im b0 (a0.map (c_int .u8))), (12, .int .i64 (a0.length : Int)), (13, .int .i64 v4)]) (fun s => match s with | (b22, v23) => [.box [.px 0 95 1 0, .hd 1 (b22.buf_.map (c_int .u8)).length 0 (b22.buf_.map (c_int .u8)).length], .arr (.tg 5) 1 (b22.buf_.map (c_int .u8))]) (fun q ex fr σ => match q with | (b24, v25) => ex = .exit 2 ∧ fr = [(3, .bx 0 0), (4, .int .i64 (IntKind.i64.wrap (BitVec.ofInt IntKind.i64.bits (IntKind.i64.wrap (v2 * 2 ^ (min (Int.toNat 8) IntKind.i64.bits))) ||| BitVec.ofInt IntKind.i64.bits (IntKind.i64.wrap e20)).toNat)), (5, .int .i64 v25), (11, .im b0 (a0.map (c_int .u8))), (12, .int .i64 (a0.length : Int)), (13, .int .i64 v4)] ∧ σ = [.box [.px 0 95 1 0, .hd 1 (b24.buf_.map (c_int .u8)).length 0 (b24.buf_.map (c_int .u8)).length], .arr (.tg 5) 1 (b24.buf_.map (c_int .u8))]) h37 ?_ ?_
    ·rintro ⟨b22, v23⟩ y28 H
     refine au 6 ?_
     refine T.cH H (fun H h => ?_) (fun H h => ?_)
     ·refine au 11 ?_
      obtain ⟨u29, h30, H⟩ := bind_s H
      refine TL.st rfl rfl rfl (o_shr rfl rfl rfl (nn_s h30)) ?_
      refine TL.st rfl rfl rfl (o_bits rfl rfl rfl rfl) ?_
      obtain ⟨b31, h32, H⟩ := bind_s H
      refine TL.st rfl rfl rfl (o_ixs rfl rfl rfl rfl h32) ?_
      obtain ⟨⟨r33, o34⟩, h35, H⟩ := bind_s H
      refine TL.st rfl rfl rfl (o_callS [0, 1] rfl en_67 rfl rfl (strings_Builder_WriteByte_p  h35) rfl (by decide) (.cons _ _ _ _ rfl (.cons _ _ _ _ rfl .nil)) rfl rfl rfl) ?_
      refine TL.conv (Cs.wkF (M := 3) (.k 3 rfl rfl (.k 4 rfl rfl (.k 5 rfl rfl (.k 11 rfl rfl (.k 12 rfl rfl (.k 13 rfl rfl (.k 24 rfl rfl (.k 25 rfl rfl (.k 26 rfl rfl (.k 27 rfl rfl (.k 28 rfl rfl (.k 29 rfl rfl (.k 30 rfl rfl (.k 31 rfl rfl (.k 32 rfl rfl (.k 33 rfl rfl .nil))))))))))))))))) ?_
      refine TL.conv (Cs.reloc 1 2 rfl rfl (by decide) rfl rfl rfl (nomS_get rfl)) ?_
      refine TL.conv (Cs.wkF (M := 3) (.k 3 rfl rfl (.k 4 rfl rfl (.k 5 rfl rfl (.k 11 rfl rfl (.k 12 rfl rfl (.k 13 rfl rfl (.k 24 rfl rfl (.k 25 rfl rfl (.k 26 rfl rfl (.k 27 rfl rfl (.k 28 rfl rfl (.k 29 rfl rfl (.k 30 rfl rfl (.k 31 rfl rfl (.k 32 rfl rfl (.k 33 rfl rfl .nil))))))))))))))))) ?_
      refine TL.conv (Cs.eqS (σ' := [.box [.px 0 95 1 0, .hd 1 (o34.buf_.map (c_int .u8)).length 0 (o34.buf_.map (c_int .u8)).length], .arr (.tg 5) 1 (o34.buf_.map (c_int .u8)), .dead]) rfl) ?_
      refine TL.nil ?_
      refine inB_normal ?_
      exact Pk.of (thn_normal ⟨((⟨(), o34.buf_⟩ : T_strings_Builder), (IntKind.i64.wrap (v23 - 5))), (some_i H).symm, rfl, rfl⟩)
     ·refine T.exit ?_
      refine thn_exit ?_
      exact Pk.of (thn_exit ⟨((⟨(), b22.buf_⟩ : T_strings_Builder), v23), (some_i H).symm, rfl, rfl, rfl⟩)
    ·rcases q36 with ⟨b24, v25⟩
     rintro _ _ _ ⟨rfl, rfl, rfl⟩
     refine inB_here ?_
     refine au 3 ?_
     obtain ⟨u26, h27, H⟩ := bind_s H
     refine TL.st rfl rfl rfl (o_shl rfl rfl rfl (nn_s h27)) ?_
     refine TL.st rfl rfl rfl (o_ari rfl rfl rfl rfl) ?_
     refine TL.st rfl rfl rfl (o_bits rfl rfl rfl rfl) ?_
     refine au 6 ?_
     exact Pk.of (thn_normal ⟨((⟨(), b24.buf_⟩ : T_strings_Builder), (IntKind.i64.wrap (BitVec.ofInt IntKind.i64.bits (IntKind.i64.wrap (BitVec.ofInt IntKind.i64.bits (IntKind.i64.wrap (v2 * 2 ^ (min (Int.toNat 8) IntKind.i64.bits))) ||| BitVec.ofInt IntKind.i64.bits (IntKind.i64.wrap e20)).toNat) &&& BitVec.ofInt IntKind.i64.bits (IntKind.i64.wrap ((IntKind.i64.wrap (1 * 2 ^ (min (Int.toNat v25) IntKind.i64.bits))) - 1))).toNat), v25, (IntKind.i64.wrap (v4 + 1))), (some_i H).symm, rfl, rfl⟩)
   ·refine T.exit ?_
    refine thn_exit ?_
    exact Pk.of (thn_exit ⟨((⟨(), b1.buf_⟩ : T_strings_Builder), v2, v3), (some_i H).symm, rfl, rfl, rfl⟩)
  ·rcases q38 with ⟨b5, v6, v7⟩
   rintro _ _ _ ⟨rfl, rfl, rfl⟩
   refine inB_here ?_
   refine au 6 ?_
   refine T.cH H (fun H h => ?_) (fun H h => ?_)
   ·refine au 4 ?_
    obtain ⟨u8, h9, H⟩ := bind_s H
    refine TL.st rfl rfl rfl (o_shl rfl rfl rfl (nn_s h9)) ?_
    refine TL.st rfl rfl rfl (o_bits rfl rfl rfl rfl) ?_
    obtain ⟨b10, h11, H⟩ := bind_s H
    refine TL.st rfl rfl rfl (o_ixs rfl rfl rfl rfl h11) ?_
    obtain ⟨⟨r12, o13⟩, h14, H⟩ := bind_s H
    refine TL.st rfl rfl rfl (o_callS [0, 1] rfl en_67 rfl rfl (strings_Builder_WriteByte_p  h14) rfl (by decide) (.cons _ _ _ _ rfl (.cons _ _ _ _ rfl .nil)) rfl rfl rfl) ?_
    refine TL.conv (Cs.wkF (M := 3) (.k 3 rfl rfl (.k 4 rfl rfl (.k 5 rfl rfl (.k 40 rfl rfl (.k 41 rfl rfl (.k 42 rfl rfl (.k 43 rfl rfl (.k 44 rfl rfl (.k 45 rfl rfl (.k 46 rfl rfl (.k 47 rfl rfl (.k 48 rfl rfl .nil))))))))))))) ?_
    refine TL.conv (Cs.reloc 1 2 rfl rfl (by decide) rfl rfl rfl (nomS_get rfl)) ?_
    refine TL.conv (Cs.wkF (M := 3) (.k 3 rfl rfl (.k 4 rfl rfl (.k 5 rfl rfl (.k 40 rfl rfl (.k 41 rfl rfl (.k 42 rfl rfl (.k 43 rfl rfl (.k 44 rfl rfl (.k 45 rfl rfl (.k 46 rfl rfl (.k 47 rfl rfl (.k 48 rfl rfl .nil))))))))))))) ?_
    refine TL.conv (Cs.eqS (σ' := [.box [.px 0 95 1 0, .hd 1 (o13.buf_.map (c_int .u8)).length 0 (o13.buf_.map (c_int .u8)).length], .arr (.tg 5) 1 (o13.buf_.map (c_int .u8)), .dead]) rfl) ?_
    refine au 3 ?_
    obtain ⟨r15, h16, H⟩ := bind_s H
    refine TL.st rfl rfl rfl (o_callS [0, 1] rfl en_68 rfl rfl (strings_Builder_String_p  h16) rfl (by decide) (.cons _ _ _ _ rfl (.cons _ _ _ _ rfl .nil)) rfl rfl rfl) ?_
    refine au 3 ?_
    cases some_i H
    exact ⟨trivial, _, (.tmp _ _ _ _ rfl .nil), (.cl _ rfl)⟩
   ·refine au 3 ?_
    obtain ⟨r17, h18, H⟩ := bind_s H
    refine TL.st rfl rfl rfl (o_callS [0, 1] rfl en_68 rfl rfl (strings_Builder_String_p  h18) rfl (by decide) (.cons _ _ _ _ rfl (.cons _ _ _ _ rfl .nil)) rfl rfl rfl) ?_
    refine au 3 ?_
    cases some_i H
    exact ⟨trivial, _, (.tmp _ _ _ _ rfl .nil), (.cl _ rfl)⟩
theorem en_60 : En Tryd.prog 60 := .of Tryd.func60 rfl rfl
noncomputable def impl_HandleOf (a0 : (List Int)) (a1 : ByteArray) (a2 : Int) : Option ByteArray :=
  (gdO (!(decide ((a0.length : Int) > 64))) (impl_GoodName a1)).bind fun r1 => cond (((decide ((a0.length : Int) > 64) || (!r1)) || decide (a2 < 1)) || decide (a2 > 1000000)) (some e0) ((itoaO a2).bind fun r3 => (cat a1 r3).bind fun s5 => (cat s5 (ByteArray.mk #[45])).bind fun s7 => (impl_Mac a0 (bys s5)).bind fun r9 => (sub r9 0 10).bind fun l11 => (impl_Armor l11).bind fun r13 => (cat s7 r13).bind fun s15 => some s15)
theorem impl_HandleOf_p (b0 : Bool) {a0 : (List Int)} {a1 : ByteArray} {a2 : Int} {R0 : ByteArray} (H : impl_HandleOf a0 a1 a2 = some R0) : Pure Tryd.prog 51 [.im b0 (a0.map (c_int .u8)), .str a1, .int .i64 a2] (.str R0) := by
 refine CallT.of_TN (n := 37) Tryd.func51 rfl rfl rfl rfl ?_
 refine au 8 ?_
 refine TL.st rfl rfl rfl (o_lenL (f := c_int .u8) rfl rfl rfl) ?_
 refine au 3 ?_
 obtain ⟨r1, h2, H⟩ := bind_s H
 refine TL.gcq rfl rfl rfl (.bool _) rfl rfl (fun h => o_callP rfl en_41 rfl (evl_1 (gv h rfl)) (.cons _ _ _ _ (.cl _ rfl) .nil) (impl_GoodName_p  (gdO_t h2 h))) ?_
 refine au 11 ?_
 refine T.cH H (fun H h => ?_) (fun H h => ?_)
 ·refine au 5 ?_
  refine thn_ret ?_
  cases some_i H
  exact ⟨trivial, _, (.tmp _ _ _ _ rfl .nil), (.cl _ rfl)⟩
 ·refine au 5 ?_
  obtain ⟨r3, h4, H⟩ := bind_s H
  refine TL.st rfl rfl rfl (o_callP rfl en_59 rfl rfl (.cons _ _ _ _ (.cl _ rfl) .nil) (SL.lib_59  h4)) ?_
  obtain ⟨s5, h6, H⟩ := bind_s H
  refine TL.st rfl rfl rfl (o_ct rfl rfl rfl h6) ?_
  refine au 5 ?_
  obtain ⟨s7, h8, H⟩ := bind_s H
  refine TL.st rfl rfl rfl (o_ct rfl rfl rfl h8) ?_
  refine au 2 ?_
  refine TL.st rfl rfl rfl (o_sb (f := c_int .u8) rfl rfl rfl rfl (fun _ => rfl) rfl) ?_
  obtain ⟨r9, h10, H⟩ := bind_s H
  refine TL.st rfl rfl rfl (o_callP rfl en_61 rfl rfl (.cons _ _ _ _ (.imv _ _) (.cons _ _ _ _ (.cl _ rfl) .nil)) (impl_Mac_p b0 false h10)) ?_
  obtain ⟨l11, h12, H⟩ := bind_s H
  refine TL.st rfl rfl rfl (o_subL (f := c_int .u8) (xs := r9) rfl rfl tyS_5 rfl rfl rfl (fun _ => rfl) h12) ?_
  obtain ⟨r13, h14, H⟩ := bind_s H
  refine TL.st rfl rfl rfl (o_callP rfl en_60 rfl rfl (.cons _ _ _ _ (.cl _ rfl) .nil) (impl_Armor_p false h14)) ?_
  obtain ⟨s15, h16, H⟩ := bind_s H
  refine TL.st rfl rfl rfl (o_ct rfl rfl rfl h16) ?_
  refine au 3 ?_
  cases some_i H
  exact ⟨trivial, _, (.tmp _ _ _ _ rfl .nil), (.cl _ rfl)⟩
theorem en_51 : En Tryd.prog 51 := .of Tryd.func51 rfl rfl
noncomputable def impl_ysessions_next (s0 : T_impl_ysessions) (s2 : List T_impl_ysession) (s3 : List (Option (List ByteArray))) : Option (ByteArray × T_impl_ysessions) :=
  (impl_HandleOf s0.c_.Key_ (ByteArray.mk #[115, 101, 115, 115]) (IntKind.i64.wrap (s0.ids_ + 1))).bind fun r1 => some (r1, ({ s0 with ids_ := (IntKind.i64.wrap (s0.ids_ + 1)) } : T_impl_ysessions))
theorem impl_ysessions_next_p (c0 : Bool) {s0 : T_impl_ysessions} {s2 : List T_impl_ysession} {s3 : List (Option (List ByteArray))} {R0 : ByteArray} {U0 : T_impl_ysessions} (H : impl_ysessions_next s0 s2 s3 = some (R0, U0)) : St Tryd.prog 42 [.bx 0 0] [.box (k_impl_ysessions 1 4 2 c0 s0), .arr .raw 1 (s0.list_.map (c_px 2)), .fam (s2.map (c_T_impl_ysession 3 false)), .afm 1 (s3.map (c_ax (c_str))), .arr .clo 4 (s0.reply_.map (c_T_impl_SessReply false))] (.str R0) [.box (k_impl_ysessions 1 4 2 c0 (⟨U0.c_, U0.now_, U0.ids_, U0.list_, U0.reply_⟩ : T_impl_ysessions)), .arr .raw 1 (U0.list_.map (c_px 2)), .fam (s2.map (c_T_impl_ysession 3 false)), .afm 1 (s3.map (c_ax (c_str))), .arr .clo 4 (U0.reply_.map (c_T_impl_SessReply false))] := by
 refine CallT.fin (CallT.of_TN (n := 20) Tryd.func42 rfl rfl rfl rfl ?_) rfl rfl ⟨(bels_iff.1 rfl), ⟨(belRaw fun _ => rfl), ⟨(belFam fun _ => rfl), ⟨trivial, ⟨trivial, trivial⟩⟩⟩⟩⟩
 refine au 16 ?_
 refine T.drawn rfl ?_
 refine ad 9 ?_
 obtain ⟨r1, h2, H⟩ := bind_s H
 refine TD.qs rfl rfl (fun _ => o_callP rfl en_51 rfl rfl (.cons _ _ _ _ (.imv _ _) (.cons _ _ _ _ (.cl _ rfl) (.cons _ _ _ _ (.cl _ rfl) .nil))) (impl_HandleOf_p c0 h2)) ?_
 refine TD.qs rfl rfl (fun _ => o_assign rfl rfl) ?_
 refine TD.nil ⟨rfl, ?_⟩
 refine T.ret ?_
 cases some_i H
 exact ⟨trivial, _, (.tmp _ _ _ _ rfl .nil), ⟨rfl, _, rfl⟩⟩
theorem en_42 : En Tryd.prog 42 := .of Tryd.func42 rfl rfl
theorem tyS_65 : TyS Tryd.prog 65 false 1 := ⟨rfl, rfl⟩
theorem tyS_68 : TyS Tryd.prog 68 false 1 := ⟨rfl, rfl⟩
theorem tyE_68 : TyE Tryd.prog 68 1 := ⟨_, _, rfl, rfl, rfl, rfl, by decide, by decide⟩
noncomputable def impl_ysession_id (a0 : Int) (s0 : List T_impl_ysession) (s1 : List (Option (List ByteArray))) : Option ByteArray :=
  (idx s0 a0).bind fun w1 => (axg s1 w1.ids_).bind fun x3 => (idx x3 (IntKind.i64.wrap ((x3.length : Int) - 1))).bind fun e5 => some e5
theorem impl_ysession_id_p  {a0 : Int} {s0 : List T_impl_ysession} {s1 : List (Option (List ByteArray))} {R0 : ByteArray} (H : impl_ysession_id a0 s0 s1 = some R0) : St Tryd.prog 27 [.px 0 0 a0 0] [.fam (s0.map (c_T_impl_ysession 1 false)), .afm 1 (s1.map (c_ax (c_str)))] (.str R0) [.fam (s0.map (c_T_impl_ysession 1 false)), .afm 1 (s1.map (c_ax (c_str)))] := by
 refine CallT.fin (CallT.of_TN (n := 15) Tryd.func27 rfl rfl rfl rfl ?_) rfl rfl ⟨(belFam fun _ => rfl), ⟨trivial, trivial⟩⟩
 refine au 5 ?_
 refine T.drawn rfl ?_
 refine TD.qs rfl rfl (fun _ => o_move rfl rfl) ?_
 obtain ⟨w1, h2, H⟩ := bind_s H
 refine TD.rs rfl rfl (o_nilCheckP rfl rfl rfl h2) ?_
 refine TD.rs rfl rfl (o_fieldAddrP (a := w1) rfl rfl rfl tyS_52 (by decide) rfl rfl h2) ?_
 refine TD.rs rfl rfl (o_loadP (a := w1) rfl tyS_52 rfl rfl h2 (nb rfl) rfl) ?_
 refine TD.qs rfl rfl (fun _ => o_move rfl rfl) ?_
 refine TD.rs rfl rfl (o_nilCheckP rfl rfl rfl h2) ?_
 refine TD.rs rfl rfl (o_fieldAddrP (a := w1) rfl rfl rfl tyS_52 (by decide) rfl rfl h2) ?_
 refine TD.rs rfl rfl (o_loadP (a := w1) rfl tyS_52 rfl rfl h2 (nb rfl) rfl) ?_
 obtain ⟨x3, h4, H⟩ := bind_s H
 refine TD.rs rfl rfl (o_lenX (f := c_str) (L := s1) (xs := x3) rfl rfl rfl rfl h4) ?_
 refine TD.qs rfl rfl (fun _ => o_ari rfl rfl rfl rfl) ?_
 obtain ⟨e5, h6, H⟩ := bind_s H
 refine TD.rs rfl rfl (o_ixX (f := c_str) (L := s1) (xs := x3) rfl rfl tyS_9 rfl rfl rfl h4 h6) ?_
 refine TD.rs rfl rfl (o_loadX (f := c_str) (L := s1) (xs := x3) (a0 := e5) rfl tyS_9 rfl rfl h4 h6 (nb rfl) rfl) ?_
 refine TD.qs rfl rfl (fun _ => o_assign rfl rfl) ?_
 refine TD.nil ⟨rfl, ?_⟩
 refine T.ret ?_
 cases some_i H
 exact ⟨trivial, _, (.tmp _ _ _ _ rfl .nil), ⟨rfl, _, rfl⟩⟩
theorem en_27 : En Tryd.prog 27 := .of Tryd.func27 rfl rfl
noncomputable def slices_Index_l1 (a0 : (List ByteArray)) (a1 : ByteArray) : Int → Option (Int ⊕ (Unit ⊕ Int)) := fun s => match s with
  | v1 => cond (decide (v1 < (a0.length : Int))) ((idx a0 v1).bind fun e4 => cond (a1.toList == e4.toList) (some (.inr (.inr v1))) (some (.inl (IntKind.i64.wrap (v1 + 1))))) (some (.inr (.inl ())))
noncomputable def slices_Index (a0 : (List ByteArray)) (a1 : ByteArray) : Option Int :=
  (loopO (slices_Index_l1 a0 a1) 0).bind fun q6 => (match q6 with | .inl _ => some (-1) | .inr q2 => some q2)
theorem slices_Index_p (b0 : Bool) {a0 : (List ByteArray)} {a1 : ByteArray} {R0 : Int} (H : slices_Index a0 a1 = some R0) : Pure Tryd.prog 52 [.im b0 (a0.map (c_str)), .str a1] (.int .i64 R0) := by
 refine CallT.of_TN (n := 19) Tryd.func52 rfl rfl rfl rfl ?_
 refine au 8 ?_
 refine TL.st rfl rfl rfl (o_lenL (f := c_str) rfl rfl rfl) ?_
 refine au 3 ?_
 obtain ⟨q6, h7, H⟩ := bind_s H
 refine T.lq (fun s => match s with | v1 => [(0, .im b0 (a0.map (c_str))), (1, .str a1), (7, .int .i64 (a0.length : Int)), (8, .int .i64 v1)]) (fun s => match s with | v1 => []) (fun q ex fr σ => match q with | .inl _ => ex = .exit 0 ∧ fr = [] ∧ σ = [] | .inr q2 => ex = .ret ∧ RetN Tryd.prog [.tmp 4] (fun v τ => Told τ v (.int .i64 q2)) .ret fr σ) h7 ?_ ?_
 ·rintro v1 y3 H
  refine au 5 ?_
  refine T.cH H (fun H h => ?_) (fun H h => ?_)
  ·refine au 13 ?_
   obtain ⟨e4, h5, H⟩ := bind_s H
   refine TL.st rfl rfl rfl (o_ix (f := c_str) rfl rfl tyS_9 rfl rfl h5 rfl) ?_
   refine au 3 ?_
   refine T.cH H (fun H h => ?_) (fun H h => ?_)
   ·refine au 6 ?_
    refine inB_ret (thn_ret ?_)
    exact Pk.id (thn_ret ⟨.inr v1, (some_i H).symm, rfl, ⟨trivial, _, (.tmp _ _ _ _ rfl .nil), (.cl _ rfl)⟩⟩)
   ·refine au 5 ?_
    exact Pk.of (thn_normal ⟨(IntKind.i64.wrap (v1 + 1)), (some_i H).symm, rfl, rfl⟩)
  ·refine T.exit ?_
   refine thn_exit ?_
   exact Pk.of (thn_exit ⟨.inl (), (some_i H).symm, rfl, rfl, rfl⟩)
 ·rcases q6 with ⟨⟩ | q2
  ·rintro _ _ _ ⟨rfl, rfl, rfl⟩
   refine inB_here ?_
   refine au 5 ?_
   cases some_i H
   exact ⟨trivial, _, (.tmp _ _ _ _ rfl .nil), (.cl _ rfl)⟩
  ·rintro _ fr1 σ1 ⟨rfl, hr⟩
   refine inB_ret (thn_ret ?_)
   cases some_i H
   exact hr
theorem en_52 : En Tryd.prog 52 := .of Tryd.func52 rfl rfl
noncomputable def slices_Contains (a0 : (List ByteArray)) (a1 : ByteArray) : Option Bool :=
  (slices_Index a0 a1).bind fun r1 => some (decide (r1 ≥ 0))
theorem slices_Contains_p (b0 : Bool) {a0 : (List ByteArray)} {a1 : ByteArray} {R0 : Bool} (H : slices_Contains a0 a1 = some R0) : Pure Tryd.prog 45 [.im b0 (a0.map (c_str)), .str a1] (.bool R0) := by
 refine CallT.of_TN (n := 9) Tryd.func45 rfl rfl rfl rfl ?_
 refine au 8 ?_
 obtain ⟨r1, h2, H⟩ := bind_s H
 refine TL.st rfl rfl rfl (o_callP rfl en_52 rfl rfl (.cons _ _ _ _ (.imv _ _) (.cons _ _ _ _ (.cl _ rfl) .nil)) (slices_Index_p b0 h2)) ?_
 refine au 4 ?_
 cases some_i H
 exact ⟨trivial, _, (.tmp _ _ _ _ rfl .nil), (.cl _ rfl)⟩
theorem en_45 : En Tryd.prog 45 := .of Tryd.func45 rfl rfl
noncomputable def impl_ysessions_do_1 (a0 : Int) (s0 : List T_impl_ysession) (s1 : List (Option (List ByteArray))) (s2 : T_impl_SessEvent) : Option Bool :=
  (idx s0 a0).bind fun w1 => (axg s1 w1.ids_).bind fun x3 => (slices_Contains x3 s2.Id_).bind fun r5 => some r5
theorem impl_ysessions_do_1_p  {a0 : Int} {s0 : List T_impl_ysession} {s1 : List (Option (List ByteArray))} {s2 : T_impl_SessEvent} {R0 : Bool} (H : impl_ysessions_do_1 a0 s0 s1 s2 = some R0) : St Tryd.prog 44 [.px 0 0 a0 0, .bx 2 0] [.fam (s0.map (c_T_impl_ysession 1 false)), .afm 1 (s1.map (c_ax (c_str))), .box (c_T_impl_SessEvent false s2)] (.bool R0) [.fam (s0.map (c_T_impl_ysession 1 false)), .afm 1 (s1.map (c_ax (c_str))), .box (c_T_impl_SessEvent false s2)] := by
 refine CallT.fin (CallT.of_TN (n := 11) Tryd.func44 rfl rfl rfl rfl ?_) rfl rfl ⟨(belFam fun _ => rfl), ⟨trivial, ⟨(bels_iff.1 rfl), trivial⟩⟩⟩
 refine au 5 ?_
 refine T.drawn rfl ?_
 refine TD.qs rfl rfl (fun _ => o_move rfl rfl) ?_
 obtain ⟨w1, h2, H⟩ := bind_s H
 refine TD.rs rfl rfl (o_nilCheckP rfl rfl rfl h2) ?_
 refine TD.rs rfl rfl (o_fieldAddrP (a := w1) rfl rfl rfl tyS_52 (by decide) rfl rfl h2) ?_
 refine TD.rs rfl rfl (o_loadP (a := w1) rfl tyS_52 rfl rfl h2 (nb rfl) rfl) ?_
 refine ad 2 ?_
 obtain ⟨x3, h4, H⟩ := bind_s H
 obtain ⟨r5, h6, H⟩ := bind_s H
 refine TD.rs rfl rfl (o_callP rfl en_45 rfl rfl (.cons _ _ _ _ (.ax (f := c_str) h4 rfl) (.cons _ _ _ _ (.cl _ rfl) .nil)) (slices_Contains_p true h6)) ?_
 refine TD.qs rfl rfl (fun _ => o_assign rfl rfl) ?_
 refine TD.nil ⟨rfl, ?_⟩
 refine T.ret ?_
 cases some_i H
 exact ⟨trivial, _, (.tmp _ _ _ _ rfl .nil), ⟨rfl, _, rfl⟩⟩
theorem en_44 : En Tryd.prog 44 := .of Tryd.func44 rfl rfl
noncomputable def impl_ysession__l1 (s0 : List Int) (s1 : List T_impl_ysession) (s2 : List (Option (List ByteArray))) (s3 : T_impl_SessEvent) : Int → Option (Int ⊕ (Unit ⊕ Int)) := fun s => match s with
  | v1 => cond (decide (v1 < (s0.length : Int))) ((idx s0 v1).bind fun e4 => (impl_ysessions_do_1 e4 s1 s2 s3).bind fun r6 => cond r6 (some (.inr (.inr v1))) (some (.inl (IntKind.i64.wrap (v1 + 1))))) (some (.inr (.inl ())))
noncomputable def impl_ysession_ (s0 : List Int) (s1 : List T_impl_ysession) (s2 : List (Option (List ByteArray))) (s3 : T_impl_SessEvent) : Option Int :=
  (loopO (impl_ysession__l1 s0 s1 s2 s3) 0).bind fun q8 => (match q8 with | .inl _ => some (-1) | .inr q2 => some q2)
theorem impl_ysession__p  {s0 : List Int} {s1 : List T_impl_ysession} {s2 : List (Option (List ByteArray))} {s3 : T_impl_SessEvent} {R0 : Int} (H : impl_ysession_ s0 s1 s2 s3 = some R0) : St Tryd.prog 43 [.hd 0 s0.length 0 s0.length, .fn 44 [] [.bx 3 0]] [.arr .raw 1 (s0.map (c_px 1)), .fam (s1.map (c_T_impl_ysession 2 false)), .afm 1 (s2.map (c_ax (c_str))), .box (c_T_impl_SessEvent false s3)] (.int .i64 R0) [.arr .raw 1 (s0.map (c_px 1)), .fam (s1.map (c_T_impl_ysession 2 false)), .afm 1 (s2.map (c_ax (c_str))), .box (c_T_impl_SessEvent false s3)] := by
 refine CallT.fin (CallT.of_TN (n := 19) Tryd.func43 rfl rfl rfl rfl ?_) rfl rfl ⟨(belRaw fun _ => rfl), ⟨(belFam fun _ => rfl), ⟨trivial, ⟨(bels_iff.1 rfl), trivial⟩⟩⟩⟩
 refine au 8 ?_
 refine TL.st rfl rfl rfl (o_lenOwn (f := c_px 1) rfl rfl rfl rfl (List.length_map ..)) ?_
 refine au 3 ?_
 obtain ⟨q8, h9, H⟩ := bind_s H
 refine T.lq (fun s => match s with | v1 => [(0, .hd 0 s0.length 0 s0.length), (1, .fn 44 [] [.bx 3 0]), (7, .int .i64 (s0.length : Int)), (8, .int .i64 v1)]) (fun s => match s with | v1 => [.arr .raw 1 (s0.map (c_px 1)), .fam (s1.map (c_T_impl_ysession 2 false)), .afm 1 (s2.map (c_ax (c_str))), .box (c_T_impl_SessEvent false s3)]) (fun q ex fr σ => match q with | .inl _ => ex = .exit 0 ∧ fr = [] ∧ σ = [.arr .raw 1 (s0.map (c_px 1)), .fam (s1.map (c_T_impl_ysession 2 false)), .afm 1 (s2.map (c_ax (c_str))), .box (c_T_impl_SessEvent false s3)] | .inr q2 => ex = .ret ∧ RetN Tryd.prog [.tmp 4] (Fin [.arr .raw 1 (s0.map (c_px 1)), .fam (s1.map (c_T_impl_ysession 2 false)), .afm 1 (s2.map (c_ax (c_str))), .box (c_T_impl_SessEvent false s3)] (.int .i64 q2)) .ret fr σ) h9 ?_ ?_
 ·rintro v1 y3 H
  refine au 5 ?_
  refine T.cH H (fun H h => ?_) (fun H h => ?_)
  ·refine au 13 ?_
   obtain ⟨e4, h5, H⟩ := bind_s H
   refine TL.st rfl rfl rfl (o_ixh (f := c_px 1) rfl rfl tyS_68 rfl rfl rfl (List.length_map ..) h5 rfl) ?_
   refine TL.st rfl rfl rfl (o_loadEl rfl tyS_68 rfl rfl (List.length_map ..) (by rw [List.getElem?_map, (idx_s h5).2]; rfl) (nb rfl) rfl) ?_
   obtain ⟨r6, h7, H⟩ := bind_s H
   refine TL.st rfl rfl rfl (o_callM [1, 2, 3] rfl en_44 rfl rfl (impl_ysessions_do_1_p  h7) rfl (by decide) (.cons _ _ _ _ (ren_at rfl (ren_famO fun _ => rfl)) (.cons _ _ _ _ rfl (.cons _ _ _ _ rfl .nil))) rfl rfl (.cons _ _ _ _ (ren_famO fun _ => rfl) (.cons _ _ _ _ rfl (.cons _ _ _ _ rfl .nil))) rfl) ?_
   refine TL.nil ?_
   refine T.cH H (fun H h => ?_) (fun H h => ?_)
   ·refine au 6 ?_
    refine inB_ret (thn_ret ?_)
    exact Pk.id (thn_ret ⟨.inr v1, (some_i H).symm, rfl, ⟨trivial, _, (.tmp _ _ _ _ rfl .nil), ⟨rfl, _, rfl⟩⟩⟩)
   ·refine au 5 ?_
    exact Pk.of (thn_normal ⟨(IntKind.i64.wrap (v1 + 1)), (some_i H).symm, rfl, rfl⟩)
  ·refine T.exit ?_
   refine thn_exit ?_
   exact Pk.of (thn_exit ⟨.inl (), (some_i H).symm, rfl, rfl, rfl⟩)
 ·rcases q8 with ⟨⟩ | q2
  ·rintro _ _ _ ⟨rfl, rfl, rfl⟩
   refine inB_here ?_
   refine au 5 ?_
   cases some_i H
   exact ⟨trivial, _, (.tmp _ _ _ _ rfl .nil), ⟨rfl, _, rfl⟩⟩
  ·rintro _ fr1 σ1 ⟨rfl, hr⟩
   refine inB_ret (thn_ret ?_)
   cases some_i H
   exact hr
theorem en_43 : En Tryd.prog 43 := .of Tryd.func43 rfl rfl
noncomputable def impl_ysessions_over (a0 : Int) (a1 : Int) (s0 : T_impl_ysessions) (s2 : List T_impl_ysession) (s3 : List (Option (List ByteArray))) : Option Bool :=
  (idx s2 a0).bind fun w1 => (gdO (!(decide (a1 > (IntKind.i64.wrap (w1.last_ + s0.c_.Idle_))))) (idx s2 a0)).bind fun w3 => (gdO (!(decide (a1 > (IntKind.i64.wrap (w1.last_ + s0.c_.Idle_))))) (idx s2 a0)).bind fun w5 => (gdO (!(decide (a1 > (IntKind.i64.wrap (w1.last_ + s0.c_.Idle_))))) (idx s2 a0)).bind fun w7 => some (decide (a1 > (IntKind.i64.wrap (w1.last_ + s0.c_.Idle_))) || decide (a1 > (IntKind.i64.wrap (w7.login_ + s0.c_.Most_))))
theorem impl_ysessions_over_p (c0 : Bool) {a0 : Int} {a1 : Int} {s0 : T_impl_ysessions} {s2 : List T_impl_ysession} {s3 : List (Option (List ByteArray))} {R0 : Bool} (H : impl_ysessions_over a0 a1 s0 s2 s3 = some R0) : St Tryd.prog 26 [.bx 0 0, .px 2 0 a0 0, .int .i64 a1] [.box (k_impl_ysessions 1 4 2 c0 s0), .arr .raw 1 (s0.list_.map (c_px 2)), .fam (s2.map (c_T_impl_ysession 3 false)), .afm 1 (s3.map (c_ax (c_str))), .arr .clo 4 (s0.reply_.map (c_T_impl_SessReply false))] (.bool R0) [.box (k_impl_ysessions 1 4 2 c0 s0), .arr .raw 1 (s0.list_.map (c_px 2)), .fam (s2.map (c_T_impl_ysession 3 false)), .afm 1 (s3.map (c_ax (c_str))), .arr .clo 4 (s0.reply_.map (c_T_impl_SessReply false))] := by
 refine CallT.fin (CallT.of_TN (n := 33) Tryd.func26 rfl rfl rfl rfl ?_) rfl rfl ⟨(bels_iff.1 rfl), ⟨(belRaw fun _ => rfl), ⟨(belFam fun _ => rfl), ⟨trivial, ⟨trivial, trivial⟩⟩⟩⟩⟩
 refine au 5 ?_
 refine T.drawn rfl ?_
 refine ad 2 ?_
 obtain ⟨w1, h2, H⟩ := bind_s H
 refine TD.rs rfl rfl (o_nilCheckP rfl rfl rfl h2) ?_
 refine TD.rs rfl rfl (o_fieldAddrP (a := w1) rfl rfl rfl tyS_3 (by decide) rfl rfl h2) ?_
 refine TD.rs rfl rfl (o_loadP (a := w1) rfl tyS_3 rfl rfl h2 (nb rfl) rfl) ?_
 refine ad 10 ?_
 obtain ⟨w3, h4, H⟩ := bind_s H
 refine TD.cr rfl rfl rfl (.bool _) rfl (fun h => o_nilCheckP rfl (gv h rfl) rfl (gdO_t h4 h)) ?_
 obtain ⟨w5, h6, H⟩ := bind_s H
 refine TD.cr rfl rfl rfl (.bool _) rfl (fun h => o_fieldAddrP (a := w5) rfl rfl rfl tyS_3 (by decide) (gv h rfl) rfl (gdO_t h6 h)) ?_
 obtain ⟨w7, h8, H⟩ := bind_s H
 refine TD.cr rfl rfl rfl (.bool _) rfl (fun h => o_loadP (a := w7) rfl tyS_3 (gv h rfl) rfl (gdO_t h8 h) (nb rfl) rfl) ?_
 refine TD.cq rfl rfl rfl (.bool _) rfl (fun h _ => o_move rfl rfl) ?_
 refine TD.cq rfl rfl rfl (.bool _) rfl (fun h _ => o_nilCheck rfl (gv h rfl) rfl) ?_
 refine TD.cr rfl rfl rfl (.bool _) rfl (fun h => o_fieldAddr rfl rfl rfl tyS_30 (by decide) (gv h rfl) rfl ⟨_, rfl, Nat.le_of_ble_eq_true rfl⟩) ?_
 refine TD.cr rfl rfl rfl (.bool _) rfl (fun h => o_fieldAddr rfl rfl rfl tyS_3 (by decide) (gv h rfl) rfl ⟨_, rfl, Nat.le_of_ble_eq_true rfl⟩) ?_
 refine TD.cr rfl rfl rfl (.bool _) rfl (fun h => o_loadBx rfl tyS_3 (gv h rfl) rfl (nb rfl) rfl) ?_
 refine TD.cq rfl rfl rfl (.bool _) rfl (fun h _ => o_ari rfl (gv h rfl) (gv h rfl) rfl) ?_
 refine TD.cq rfl rfl rfl (.bool _) rfl (fun h _ => o_ari rfl (gv h rfl) (gv h rfl) rfl) ?_
 refine ad 2 ?_
 refine TD.nil ⟨rfl, ?_⟩
 refine T.ret ?_
 cases some_i H
 exact ⟨trivial, _, (.tmp _ _ _ _ rfl .nil), ⟨rfl, _, rfl⟩⟩
theorem en_26 : En Tryd.prog 26 := .of Tryd.func26 rfl rfl
noncomputable def impl_ysessions_do_l1 (a0 : T_impl_SessEvent) (s0 : T_impl_ysessions) : (List T_impl_ysession × Int) → Option ((List T_impl_ysession × Int) ⊕ List T_impl_ysession) := fun s => match s with
  | (f16, v17) => cond (decide (v17 < (s0.list_.length : Int))) ((idx s0.list_ v17).bind fun e20 => (idx f16 e20).bind fun w22 => (gdO (!w22.dead_) (idx f16 e20)).bind fun w24 => (gdO (!w22.dead_) (idx f16 e20)).bind fun w26 => (gdO (!w22.dead_) (idx f16 e20)).bind fun w28 => some (.inl ((f16.set (Int.toNat e20) ({ w22 with dead_ := (w22.dead_ || (w28.user_.toList == a0.User_.toList)) } : T_impl_ysession)), (IntKind.i64.wrap (v17 + 1))))) (some (.inr f16))
noncomputable def impl_ysessions_do_j1 (e34 : Int) (b50 : T_impl_ysessions) (f51 : List T_impl_ysession) (f52 : List (Option (List ByteArray))) : Option (T_impl_SessReply × T_impl_ysessions × List T_impl_ysession × List (Option (List ByteArray))) :=
  (impl_ysession_id e34 f51 f52).bind fun r53 => (idx f51 e34).bind fun w55 => some ((⟨0, r53, w55.user_, w55.level_⟩ : T_impl_SessReply), b50, f51, f52)
noncomputable def impl_ysessions_do (a0 : T_impl_SessEvent) (s0 : T_impl_ysessions) (s2 : List T_impl_ysession) (s3 : List (Option (List ByteArray))) : Option (T_impl_SessReply × T_impl_ysessions × List T_impl_ysession × List (Option (List ByteArray))) :=
  (gdO ((!(((decide (a0.Kind_ < 1) || decide (a0.Kind_ > 5)) || decide (a0.Time_ < 0)) || decide (a0.Time_ > 100000000000))) && ((a0.Kind_ == 1) || (a0.Kind_ == 5))) (impl_GoodName a0.User_)).bind fun r1 => (gdO ((!(((((decide (a0.Kind_ < 1) || decide (a0.Kind_ > 5)) || decide (a0.Time_ < 0)) || decide (a0.Time_ > 100000000000)) || (((a0.Kind_ == 1) || (a0.Kind_ == 5)) && (!r1))) || ((!((a0.Kind_ == 1) || (a0.Kind_ == 5))) && (!(a0.User_.toList == e0.toList))))) && (a0.Kind_ != 5)) (impl_GoodName a0.Device_)).bind fun r3 => cond ((((((((decide (a0.Kind_ < 1) || decide (a0.Kind_ > 5)) || decide (a0.Time_ < 0)) || decide (a0.Time_ > 100000000000)) || (((a0.Kind_ == 1) || (a0.Kind_ == 5)) && (!r1))) || ((!((a0.Kind_ == 1) || (a0.Kind_ == 5))) && (!(a0.User_.toList == e0.toList)))) || ((a0.Kind_ != 5) && (!r3))) || ((!(a0.Kind_ != 5)) && (!(a0.Device_.toList == e0.toList)))) || (((a0.Kind_ == 1) || (a0.Kind_ == 5)) && (!(a0.Id_.toList == e0.toList)))) (some ((⟨1, e0, e0, 0⟩ : T_impl_SessReply), s0, s2, s3)) (cond (decide (a0.Time_ < s0.now_)) (some ((⟨2, e0, e0, 0⟩ : T_impl_SessReply), s0, s2, s3)) (cond (a0.Kind_ == 1) ((impl_ysessions_next ({ s0 with now_ := a0.Time_ } : T_impl_ysessions) s2 s3).bind fun q => (match q with | (r5, o6) => (eqX o6.now_ a0.Time_).bind fun u8 => (app o6.list_ ([(s2.length : Int)] : List Int)).bind fun l10 => (impl_ysession_id (s2.length : Int) (s2 ++ [(⟨(s3.length : Int), a0.User_, a0.Device_, 1, a0.Time_, a0.Time_, false⟩ : T_impl_ysession)]) (s3 ++ [some ([r5] : List ByteArray)])).bind fun r12 => (idx (s2 ++ [(⟨(s3.length : Int), a0.User_, a0.Device_, 1, a0.Time_, a0.Time_, false⟩ : T_impl_ysession)]) (s2.length : Int)).bind fun w14 => some ((⟨0, r12, w14.user_, w14.level_⟩ : T_impl_SessReply), ({ o6 with now_ := a0.Time_, list_ := l10 } : T_impl_ysessions), (s2 ++ [(⟨(s3.length : Int), a0.User_, a0.Device_, 1, a0.Time_, a0.Time_, false⟩ : T_impl_ysession)]), (s3 ++ [some ([r5] : List ByteArray)])))) (cond (a0.Kind_ == 5) ((loopO (impl_ysessions_do_l1 a0 s0) (s2, 0)).bind fun f18 => (match f18 with | f18 => some ((⟨0, e0, a0.User_, 0⟩ : T_impl_SessReply), ({ s0 with now_ := a0.Time_ } : T_impl_ysessions), f18, s3))) ((impl_ysession_ s0.list_ s2 s3 a0).bind fun r32 => cond (decide (r32 < 0)) (some ((⟨3, e0, e0, 0⟩ : T_impl_SessReply), ({ s0 with now_ := a0.Time_ } : T_impl_ysessions), s2, s3)) ((idx s0.list_ r32).bind fun e34 => (impl_ysession_id e34 s2 s3).bind fun r36 => (gdO (!(!(r36.toList == a0.Id_.toList))) (idx s2 e34)).bind fun w38 => (gdO (!(!(r36.toList == a0.Id_.toList))) (idx s2 e34)).bind fun w40 => (gdO (!(!(r36.toList == a0.Id_.toList))) (idx s2 e34)).bind fun w42 => cond ((!(r36.toList == a0.Id_.toList)) || (!(w42.device_.toList == a0.Device_.toList))) ((idx s2 e34).bind fun w44 => some ((⟨4, e0, e0, 0⟩ : T_impl_SessReply), ({ s0 with now_ := a0.Time_ } : T_impl_ysessions), (s2.set (Int.toNat e34) ({ w44 with dead_ := true } : T_impl_ysession)), s3)) ((idx s2 e34).bind fun w46 => cond w46.dead_ (some ((⟨5, e0, e0, 0⟩ : T_impl_SessReply), ({ s0 with now_ := a0.Time_ } : T_impl_ysessions), s2, s3)) ((impl_ysessions_over e34 a0.Time_ ({ s0 with now_ := a0.Time_ } : T_impl_ysessions) s2 s3).bind fun r48 => cond r48 (some ((⟨6, e0, e0, 0⟩ : T_impl_SessReply), ({ s0 with now_ := a0.Time_ } : T_impl_ysessions), s2, s3)) (cond (a0.Kind_ == 3) ((idx (s2.set (Int.toNat e34) ({ w46 with last_ := a0.Time_ } : T_impl_ysession)) e34).bind fun w57 => (idx ((s2.set (Int.toNat e34) ({ w46 with last_ := a0.Time_ } : T_impl_ysession)).set (Int.toNat e34) ({ w57 with level_ := (if (IntKind.i64.wrap (w57.level_ + 1)) < 9 then (IntKind.i64.wrap (w57.level_ + 1)) else 9) } : T_impl_ysession)) e34).bind fun w59 => (impl_ysessions_next ({ s0 with now_ := a0.Time_ } : T_impl_ysessions) ((s2.set (Int.toNat e34) ({ w46 with last_ := a0.Time_ } : T_impl_ysession)).set (Int.toNat e34) ({ w57 with level_ := (if (IntKind.i64.wrap (w57.level_ + 1)) < 9 then (IntKind.i64.wrap (w57.level_ + 1)) else 9) } : T_impl_ysession)) s3).bind fun q => (match q with | (r61, o62) => (axg s3 w59.ids_).bind fun x64 => (app x64 ([r61] : List ByteArray)).bind fun l66 => impl_ysessions_do_j1 e34 o62 (((s2.set (Int.toNat e34) ({ w46 with last_ := a0.Time_ } : T_impl_ysession)).set (Int.toNat e34) ({ w57 with level_ := (if (IntKind.i64.wrap (w57.level_ + 1)) < 9 then (IntKind.i64.wrap (w57.level_ + 1)) else 9) } : T_impl_ysession)).set (Int.toNat e34) ({ w59 with ids_ := ((s3.set (Int.toNat w59.ids_) none).length : Int) } : T_impl_ysession)) ((s3.set (Int.toNat w59.ids_) none) ++ [some l66]))) (cond (a0.Kind_ == 4) ((idx (s2.set (Int.toNat e34) ({ w46 with last_ := a0.Time_ } : T_impl_ysession)) e34).bind fun w68 => impl_ysessions_do_j1 e34 ({ s0 with now_ := a0.Time_ } : T_impl_ysessions) ((s2.set (Int.toNat e34) ({ w46 with last_ := a0.Time_ } : T_impl_ysession)).set (Int.toNat e34) ({ w68 with dead_ := true } : T_impl_ysession)) s3) (impl_ysessions_do_j1 e34 ({ s0 with now_ := a0.Time_ } : T_impl_ysessions) (s2.set (Int.toNat e34) ({ w46 with last_ := a0.Time_ } : T_impl_ysession)) s3))))))))))
end Go.G36.SX
