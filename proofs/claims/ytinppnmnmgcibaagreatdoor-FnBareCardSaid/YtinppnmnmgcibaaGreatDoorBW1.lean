import Derived.Test.YtinppnmnmgcibaaGreatDoorProg
import Derived.Test.YtinppnmnmgcibaaGreatDoorBdLib
set_option linter.all false
set_option maxRecDepth 20000
set_option maxHeartbeats 4000000
namespace Go.G36.BW
open Go Go.Proofs Go.G36.BD

def c_int (k : IntKind) (x : Int) : List V := [.int k x]
def c_bool (x : Bool) : List V := [.bool x]
def c_str (x : ByteArray) : List V := [.str x]
def c_raw (x : List V) : List V := x
theorem map_raw (x : List (List V)) : x.map c_raw = x := by
  induction x with
  | nil => rfl
  | cons a l ih => simp [ih, c_raw]
def c_sl {α : Type} (f : α → List V) (x : List α) : List V := [.im false (x.map f)]

structure T_impl_Client where
  Id_ : ByteArray
  Secret_ : (List Int)
  Redirects_ : (List ByteArray)
  Scopes_ : (List ByteArray)
  Kinds_ : (List Int)
deriving Inhabited
def c_T_impl_Client (b : Bool) (x : T_impl_Client) : List V := [.str x.Id_, .im b (x.Secret_.map (c_int .u8)), .im b (x.Redirects_.map (c_str)), .im b (x.Scopes_.map (c_str)), .im b (x.Kinds_.map (c_int .i64))]
structure T_impl_Server where
  Clients_ : (List T_impl_Client)
  Key_ : (List Int)
  Short_ : Int
  Long_ : Int
deriving Inhabited
def c_T_impl_Server (b : Bool) (x : T_impl_Server) : List V := [.im b (x.Clients_.map (c_T_impl_Client false)), .im b (x.Key_.map (c_int .u8)), .int .i64 x.Short_, .int .i64 x.Long_]
structure T_impl_AttackConf where
  Server_ : T_impl_Server
  Client_ : ByteArray
  Secret_ : ByteArray
  Leak_ : Bool
  Bare_ : Bool
deriving Inhabited
def c_T_impl_AttackConf (b : Bool) (x : T_impl_AttackConf) : List V := ((c_T_impl_Server b x.Server_) ++ [.str x.Client_, .str x.Secret_, .bool x.Leak_, .bool x.Bare_])
structure T_spec_l1Cur where
  code_ : (List Int)
  at_ : Int
  seed_ : Int
deriving Inhabited
def c_T_spec_l1Cur (b : Bool) (x : T_spec_l1Cur) : List V := [.im b (x.code_.map (c_int .u8)), .int .i64 x.at_, .int .u64 x.seed_]
structure T_impl_Move where
  Kind_ : Int
  Wait_ : Int
  Pick_ : Int
  Other_ : Int
deriving Inhabited
def c_T_impl_Move (b : Bool) (x : T_impl_Move) : List V := [.int .i64 x.Kind_, .int .i64 x.Wait_, .int .i64 x.Pick_, .int .i64 x.Other_]
structure T_impl_AttackRes where
  Errs_ : (List Int)
  Known_ : (List ByteArray)
  Won_ : Bool
  Injected_ : Bool
deriving Inhabited
def c_T_impl_AttackRes (b : Bool) (x : T_impl_AttackRes) : List V := [.im b (x.Errs_.map (c_int .i64)), .im b (x.Known_.map (c_str)), .bool x.Won_, .bool x.Injected_]
structure T_impl_yserver where
  s_ : T_impl_Server
  now_ : Int
  held_ : (List Int)
  ended_ : (List (Int × Bool))
  grants_ : Int
deriving Inhabited
def c_T_impl_yserver (p : Nat) (b : Bool) (x : T_impl_yserver) : List V := ((c_T_impl_Server b x.s_) ++ [.int .i64 x.now_, .im b (x.held_.map (c_px p)), .any, .int .i64 x.grants_])
structure T_impl_GrantAsk where
  Kind_ : Int
  Time_ : Int
  Client_ : ByteArray
  Secret_ : ByteArray
  Redirect_ : ByteArray
  Challenge_ : ByteArray
  Verifier_ : ByteArray
  User_ : ByteArray
  Code_ : ByteArray
  Scopes_ : (List ByteArray)
  Audience_ : ByteArray
  Deny_ : Bool
deriving Inhabited
def c_T_impl_GrantAsk (b : Bool) (x : T_impl_GrantAsk) : List V := [.int .i64 x.Kind_, .int .i64 x.Time_, .str x.Client_, .str x.Secret_, .str x.Redirect_, .str x.Challenge_, .str x.Verifier_, .str x.User_, .str x.Code_, .im b (x.Scopes_.map (c_str)), .str x.Audience_, .bool x.Deny_]
structure T_impl_yattack where
  c_ : T_impl_AttackConf
  x_ : T_impl_Client
  v_ : T_impl_yserver
  time_ : Int
  asks_ : (List T_impl_GrantAsk)
  res_ : T_impl_AttackRes
  begun_ : Int
  open_ : ByteArray
  verifier_ : ByteArray
deriving Inhabited
def c_T_impl_yattack (p : Nat) (b : Bool) (x : T_impl_yattack) : List V := ((c_T_impl_AttackConf b x.c_) ++ (c_T_impl_Client b x.x_) ++ [.any, .int .i64 x.time_, .im b (x.asks_.map (c_T_impl_GrantAsk false))] ++ (c_T_impl_AttackRes b x.res_) ++ [.int .i64 x.begun_, .str x.open_, .str x.verifier_])
structure T_impl_GrantReply where
  Err_ : Int
  Code_ : ByteArray
  Access_ : ByteArray
  Refresh_ : ByteArray
  Scopes_ : (List ByteArray)
  User_ : ByteArray
  Client_ : ByteArray
  Active_ : Bool
deriving Inhabited
def c_T_impl_GrantReply (b : Bool) (x : T_impl_GrantReply) : List V := [.int .i64 x.Err_, .str x.Code_, .str x.Access_, .str x.Refresh_, .im b (x.Scopes_.map (c_str)), .str x.User_, .str x.Client_, .bool x.Active_]
structure T_impl_yheld where
  kind_ : ByteArray
  handle_ : ByteArray
  grant_ : Int
  client_ : ByteArray
  user_ : ByteArray
  scopes_ : (List ByteArray)
  audience_ : ByteArray
  redirect_ : ByteArray
  challenge_ : ByteArray
  until_ : Int
  used_ : Bool
  revoked_ : Bool
  approved_ : Bool
  denied_ : Bool
  polled_ : Bool
  last_ : Int
  of_ : Int
deriving Inhabited
def c_T_impl_yheld (p : Nat) (b : Bool) (x : T_impl_yheld) : List V := [.str x.kind_, .str x.handle_, .int .i64 x.grant_, .str x.client_, .str x.user_, .im b (x.scopes_.map (c_str)), .str x.audience_, .str x.redirect_, .str x.challenge_, .int .i64 x.until_, .bool x.used_, .bool x.revoked_, .bool x.approved_, .bool x.denied_, .bool x.polled_, .int .i64 x.last_, .px p 0 x.of_ 0]
structure T_strings_Builder where
  addr_ : Unit
  buf_ : (List Int)
deriving Inhabited
def c_T_strings_Builder (b : Bool) (x : T_strings_Builder) : List V := [.nilP, .im b (x.buf_.map (c_int .u8))]

theorem tyS_3 : TyS Go.Proofs.Tryz.prog 3 false 1 := ⟨rfl, rfl⟩
theorem tyS_22 : TyS Go.Proofs.Tryz.prog 22 false 1 := ⟨rfl, rfl⟩
theorem tyS_5 : TyS Go.Proofs.Tryz.prog 5 false 1 := ⟨rfl, rfl⟩
theorem tyS_42 : TyS Go.Proofs.Tryz.prog 42 false 1 := ⟨rfl, rfl⟩
noncomputable def spec_l1Cur_next_j1 (s0 : T_spec_l1Cur) (v1 : Int) : Option (Int × T_spec_l1Cur) :=
  cond (decide ((IntKind.i64.wrap (s0.at_ + 1)) ≤ (s0.code_.length : Int))) (some (v1, (⟨s0.code_, (IntKind.i64.wrap (s0.at_ + 1)), (IntKind.u64.wrap ((IntKind.u64.wrap ((IntKind.u64.wrap (s0.seed_ * 6364136223846793005)) + (IntKind.u64.wrap v1))) + 1442695040888963407))⟩ : T_spec_l1Cur))) (some ((IntKind.i64.wrap (IntKind.u64.wrap (BitVec.ofInt IntKind.u64.bits (Int.fdiv (IntKind.u64.wrap ((IntKind.u64.wrap ((IntKind.u64.wrap (s0.seed_ * 6364136223846793005)) + (IntKind.u64.wrap v1))) + 1442695040888963407)) (2 ^ (min (Int.toNat 40) IntKind.u64.bits))) &&& BitVec.ofInt IntKind.u64.bits 255).toNat)), (⟨s0.code_, (IntKind.i64.wrap (s0.at_ + 1)), (IntKind.u64.wrap ((IntKind.u64.wrap ((IntKind.u64.wrap (s0.seed_ * 6364136223846793005)) + (IntKind.u64.wrap v1))) + 1442695040888963407))⟩ : T_spec_l1Cur)))
noncomputable def spec_l1Cur_next (s0 : T_spec_l1Cur) : Option (Int × T_spec_l1Cur) :=
  cond (decide (s0.at_ < (s0.code_.length : Int))) ((idx s0.code_ s0.at_).bind fun e2 => spec_l1Cur_next_j1 s0 (IntKind.i64.wrap e2)) (spec_l1Cur_next_j1 s0 0)
theorem spec_l1Cur_next_p (c0 : Bool) {s0 : T_spec_l1Cur} {R0 : Int} {U0 : T_spec_l1Cur} (H : spec_l1Cur_next s0 = some (R0, U0)) : St Go.Proofs.Tryz.prog 30 [.bx 0 0] [.box (c_T_spec_l1Cur c0 s0)] (.int .i64 R0) [.box (c_T_spec_l1Cur c0 U0)] := by
 refine CallT.fin (CallT.of_TN (n := 62) Go.Proofs.Tryz.func30 rfl rfl rfl rfl ?_) rfl rfl ⟨(bels_iff.1 rfl), trivial⟩
 refine T.seq (T.region (TL.st rfl rfl rfl (o_assign rfl rfl) (TL.nil (thn_normal (T.seq (T.region (TL.st rfl rfl rfl (o_assign rfl rfl) (TL.nil (thn_normal (T.cut (fun fr' σ' => ∃ (v1 : Int), fr' = [(0, .bx 0 0), (3, .int .i64 v1)] ∧ σ' = [.box (c_T_spec_l1Cur c0 s0)] ∧ spec_l1Cur_next_j1 s0 v1 = some (R0, U0)) (T.pk ?_) ?_))))))))))
 ·skip
  refine T.seq (T.drawn rfl ?_)
  refine TD.qs rfl rfl (fun _ => o_move rfl rfl) (TD.qs rfl rfl (fun _ => o_nilCheck rfl rfl rfl) (TD.rs rfl rfl (o_fieldAddr rfl rfl rfl tyS_3 (by decide) rfl rfl ⟨_, rfl, Nat.le_of_ble_eq_true rfl⟩) ?_))
  refine TD.rs rfl rfl (o_loadBx rfl tyS_3 rfl rfl (Nat.le_of_ble_eq_true rfl) rfl) ?_
  refine TD.qs rfl rfl (fun _ => o_move rfl rfl) (TD.qs rfl rfl (fun _ => o_nilCheck rfl rfl rfl) (TD.rs rfl rfl (o_fieldAddr rfl rfl rfl tyS_22 (by decide) rfl rfl ⟨_, rfl, Nat.le_of_ble_eq_true rfl⟩) ?_))
  refine TD.rs rfl rfl (o_loadBx rfl tyS_22 rfl rfl (Nat.le_of_ble_eq_true rfl) rfl) ?_
  refine TD.qs rfl rfl (fun _ => o_lenL (f := c_int .u8) rfl rfl rfl) ?_
  refine TD.qs rfl rfl (fun _ => o_ari rfl rfl rfl rfl) ?_
  refine TD.nil ⟨rfl, ?_⟩
  refine thn_normal ?_
  refine T.cond (decide (s0.at_ < (s0.code_.length : Int))) rfl (fun h => ?_) (fun h => ?_)
  ·replace H := cond_t h H
   refine T.drawn rfl ?_
   refine TD.qs rfl rfl (fun _ => o_move rfl rfl) (TD.qs rfl rfl (fun _ => o_nilCheck rfl rfl rfl) (TD.rs rfl rfl (o_fieldAddr rfl rfl rfl tyS_22 (by decide) rfl rfl ⟨_, rfl, Nat.le_of_ble_eq_true rfl⟩) ?_))
   refine TD.rs rfl rfl (o_loadBx rfl tyS_22 rfl rfl (Nat.le_of_ble_eq_true rfl) rfl) ?_
   refine TD.qs rfl rfl (fun _ => o_move rfl rfl) (TD.qs rfl rfl (fun _ => o_nilCheck rfl rfl rfl) (TD.rs rfl rfl (o_fieldAddr rfl rfl rfl tyS_3 (by decide) rfl rfl ⟨_, rfl, Nat.le_of_ble_eq_true rfl⟩) ?_))
   refine TD.rs rfl rfl (o_loadBx rfl tyS_3 rfl rfl (Nat.le_of_ble_eq_true rfl) rfl) ?_
   obtain ⟨e2, h3, H⟩ := bind_s H
   refine TD.qs rfl rfl (fun _ => o_ix (f := c_int .u8) rfl rfl tyS_5 rfl rfl h3 rfl) ?_
   refine TD.qs rfl rfl (fun _ => o_loadRf rfl tyS_5 rfl (Nat.le_of_ble_eq_true rfl) rfl) ?_
   refine TD.qs rfl rfl (fun _ => o_conv rfl rfl ⟨_, rfl⟩ rfl) ?_
   refine TD.qs rfl rfl (fun _ => o_assign rfl rfl) ?_
   refine TD.nil ⟨rfl, ?_⟩
   exact Pk.of (thn_normal ⟨(IntKind.i64.wrap e2), rfl, rfl, H⟩)
  ·replace H := cond_f h H
   refine T.skip ?_
   exact Pk.of (thn_normal ⟨0, rfl, rfl, H⟩)
 ·rintro _ _ ⟨v1, rfl, rfl, H⟩
  refine T.seq (T.region (TL.st rfl rfl rfl (o_move rfl rfl) (TL.st rfl rfl rfl (o_nilCheck rfl rfl rfl) (TL.st rfl rfl rfl (o_fieldAddr rfl rfl rfl tyS_3 (by decide) rfl rfl ⟨_, rfl, Nat.le_of_ble_eq_true rfl⟩) ?_))))
  refine TL.st rfl rfl rfl (o_loadBx rfl tyS_3 rfl rfl (Nat.le_of_ble_eq_true rfl) rfl) ?_
  refine TL.st rfl rfl rfl (o_ari rfl rfl rfl rfl) (TL.st rfl rfl rfl (o_nilCheck rfl rfl rfl) (TL.st rfl rfl rfl (o_fieldAddr rfl rfl rfl tyS_3 (by decide) rfl rfl ⟨_, rfl, Nat.le_of_ble_eq_true rfl⟩) ?_))
  refine TL.sn rfl rfl (o_storeBx rfl tyS_3 rfl rfl rfl rfl (Nat.le_of_ble_eq_true rfl) rfl) ?_
  refine TL.nil (thn_normal (T.seq (T.region (TL.st rfl rfl rfl (o_move rfl rfl) (TL.st rfl rfl rfl (o_move rfl rfl) (TL.st rfl rfl rfl (o_nilCheck rfl rfl rfl) (TL.st rfl rfl rfl (o_fieldAddr rfl rfl rfl tyS_42 (by decide) rfl rfl ⟨_, rfl, Nat.le_of_ble_eq_true rfl⟩) ?_)))))))
  refine TL.st rfl rfl rfl (o_loadBx rfl tyS_42 rfl rfl (Nat.le_of_ble_eq_true rfl) rfl) ?_
  refine TL.st rfl rfl rfl (o_ari rfl rfl rfl rfl) (TL.st rfl rfl rfl (o_move rfl rfl) (TL.st rfl rfl rfl (o_conv rfl rfl ⟨_, rfl⟩ rfl) ?_))
  refine TL.st rfl rfl rfl (o_ari rfl rfl rfl rfl) (TL.st rfl rfl rfl (o_ari rfl rfl rfl rfl) (TL.st rfl rfl rfl (o_nilCheck rfl rfl rfl) (TL.st rfl rfl rfl (o_fieldAddr rfl rfl rfl tyS_42 (by decide) rfl rfl ⟨_, rfl, Nat.le_of_ble_eq_true rfl⟩) ?_)))
  refine TL.sn rfl rfl (o_storeBx rfl tyS_42 rfl rfl rfl rfl (Nat.le_of_ble_eq_true rfl) rfl) ?_
  refine TL.nil (thn_normal (T.seq (T.seq (T.drawn rfl ?_))))
  refine TD.qs rfl rfl (fun _ => o_move rfl rfl) (TD.qs rfl rfl (fun _ => o_nilCheck rfl rfl rfl) (TD.rs rfl rfl (o_fieldAddr rfl rfl rfl tyS_3 (by decide) rfl rfl ⟨_, rfl, Nat.le_of_ble_eq_true rfl⟩) ?_))
  refine TD.rs rfl rfl (o_loadBx rfl tyS_3 rfl rfl (Nat.le_of_ble_eq_true rfl) rfl) ?_
  refine TD.qs rfl rfl (fun _ => o_move rfl rfl) (TD.qs rfl rfl (fun _ => o_nilCheck rfl rfl rfl) (TD.rs rfl rfl (o_fieldAddr rfl rfl rfl tyS_22 (by decide) rfl rfl ⟨_, rfl, Nat.le_of_ble_eq_true rfl⟩) ?_))
  refine TD.rs rfl rfl (o_loadBx rfl tyS_22 rfl rfl (Nat.le_of_ble_eq_true rfl) rfl) ?_
  refine TD.qs rfl rfl (fun _ => o_lenL (f := c_int .u8) rfl rfl rfl) ?_
  refine TD.qs rfl rfl (fun _ => o_ari rfl rfl rfl rfl) ?_
  refine TD.nil ⟨rfl, ?_⟩
  refine thn_normal ?_
  refine T.cond (decide ((IntKind.i64.wrap (s0.at_ + 1)) ≤ (s0.code_.length : Int))) rfl (fun h => ?_) (fun h => ?_)
  ·replace H := cond_t h H
   refine T.seq (T.region (TL.st rfl rfl rfl (o_move rfl rfl) (TL.st rfl rfl rfl (o_assign rfl rfl) (TL.nil (thn_normal (T.ret (thn_ret ?_)))))))
   cases some_i H
   exact ⟨trivial, _, (.tmp _ _ _ _ rfl .nil), ⟨rfl, _, rfl⟩⟩
  ·replace H := cond_f h H
   refine T.skip (thn_normal (T.seq (T.region (TL.st rfl rfl rfl (o_move rfl rfl) (TL.st rfl rfl rfl (o_nilCheck rfl rfl rfl) (TL.st rfl rfl rfl (o_fieldAddr rfl rfl rfl tyS_42 (by decide) rfl rfl ⟨_, rfl, Nat.le_of_ble_eq_true rfl⟩) ?_))))))
   refine TL.st rfl rfl rfl (o_loadBx rfl tyS_42 rfl rfl (Nat.le_of_ble_eq_true rfl) rfl) ?_
   refine TL.st rfl rfl rfl (o_shr rfl rfl rfl (by decide)) ?_
   refine TL.st rfl rfl rfl (o_bits rfl rfl rfl rfl) ?_
   refine TL.st rfl rfl rfl (o_conv rfl rfl ⟨_, rfl⟩ rfl) ?_
   refine TL.st rfl rfl rfl (o_assign rfl rfl) (TL.nil (thn_normal (T.ret ?_)))
   cases some_i H
   exact ⟨trivial, _, (.tmp _ _ _ _ rfl .nil), ⟨rfl, _, rfl⟩⟩
theorem en_30 (us : Array Value) (w : World) : (callFunc 30 us).run Go.Proofs.Tryz.prog w = .ok (.enter 30 us) w := enters Go.Proofs.Tryz.func30 rfl rfl us w
noncomputable def spec_l1Cur_pick_j1 (a0 : Int) (b4 : T_spec_l1Cur) (v5 : Int) : Option (Int × T_spec_l1Cur) :=
  (nz a0).bind fun z6 => some ((Int.tmod v5 a0), b4)
noncomputable def spec_l1Cur_pick (a0 : Int) (s0 : T_spec_l1Cur) : Option (Int × T_spec_l1Cur) :=
  cond (decide (a0 ≤ 1)) (some (0, s0)) ((spec_l1Cur_next s0).bind fun q => (match q with | (r1, o2) => cond (decide (a0 > 200)) ((spec_l1Cur_next o2).bind fun q => (match q with | (r8, o9) => spec_l1Cur_pick_j1 a0 o9 (IntKind.i64.wrap ((IntKind.i64.wrap (r1 * 256)) + r8)))) (spec_l1Cur_pick_j1 a0 o2 r1)))
theorem spec_l1Cur_pick_p (c0 : Bool) {a0 : Int} {s0 : T_spec_l1Cur} {R0 : Int} {U0 : T_spec_l1Cur} (H : spec_l1Cur_pick a0 s0 = some (R0, U0)) : St Go.Proofs.Tryz.prog 18 [.bx 0 0, .int .i64 a0] [.box (c_T_spec_l1Cur c0 s0)] (.int .i64 R0) [.box (c_T_spec_l1Cur c0 U0)] := by
 refine CallT.fin (CallT.of_TN (n := 20) Go.Proofs.Tryz.func18 rfl rfl rfl rfl ?_) rfl rfl ⟨(bels_iff.1 rfl), trivial⟩
 refine T.seq (T.region (TL.st rfl rfl rfl (o_assign rfl rfl) (TL.nil (thn_normal (T.seq (T.seq (T.region (TL.st rfl rfl rfl (o_move rfl rfl) (TL.st rfl rfl rfl (o_ari rfl rfl rfl rfl) (TL.nil (thn_normal ?_)))))))))))
 refine T.cond (decide (a0 ≤ 1)) rfl (fun h => ?_) (fun h => ?_)
 ·replace H := cond_t h H
  refine T.seq (T.region (TL.st rfl rfl rfl (o_assign rfl rfl) (TL.nil (thn_normal (T.ret (thn_ret ?_))))))
  cases some_i H
  exact ⟨trivial, _, (.tmp _ _ _ _ rfl .nil), ⟨rfl, _, rfl⟩⟩
 ·replace H := cond_f h H
  refine T.skip (thn_normal (T.seq (T.region (TL.st rfl rfl rfl (o_move rfl rfl) ?_))))
  obtain ⟨⟨r1, o2⟩, h3, H⟩ := bind_s H
  refine TL.st rfl rfl rfl (o_callS [0] rfl en_30 rfl rfl (spec_l1Cur_next_p c0 h3) rfl (by decide) (.cons _ _ _ _ rfl .nil) rfl rfl rfl) ?_
  refine TL.st rfl rfl rfl (o_assign rfl rfl) (TL.nil (thn_normal (T.cut (fun fr' σ' => ∃ (b4 : T_spec_l1Cur) (v5 : Int), fr' = [(1, .int .i64 a0), (5, .int .i64 v5)] ∧ σ' = [.box (c_T_spec_l1Cur c0 b4)] ∧ spec_l1Cur_pick_j1 a0 b4 v5 = some (R0, U0)) (T.pk ?_) ?_)))
  ·skip
   refine T.seq (T.region (TL.st rfl rfl rfl (o_move rfl rfl) (TL.st rfl rfl rfl (o_ari rfl rfl rfl rfl) (TL.nil (thn_normal ?_)))))
   refine T.cond (decide (a0 > 200)) rfl (fun h => ?_) (fun h => ?_)
   ·replace H := cond_t h H
    refine T.region (TL.st rfl rfl rfl (o_move rfl rfl) (TL.st rfl rfl rfl (o_ari rfl rfl rfl rfl) (TL.st rfl rfl rfl (o_move rfl rfl) ?_)))
    obtain ⟨⟨r8, o9⟩, h10, H⟩ := bind_s H
    refine TL.st rfl rfl rfl (o_callS [0] rfl en_30 rfl rfl (spec_l1Cur_next_p c0 h10) rfl (by decide) (.cons _ _ _ _ rfl .nil) rfl rfl rfl) ?_
    refine TL.st rfl rfl rfl (o_ari rfl rfl rfl rfl) (TL.st rfl rfl rfl (o_assign rfl rfl) (TL.nil ?_))
    exact Pk.of (thn_normal ⟨o9, (IntKind.i64.wrap ((IntKind.i64.wrap (r1 * 256)) + r8)), rfl, rfl, H⟩)
   ·replace H := cond_f h H
    refine T.skip ?_
    exact Pk.of (thn_normal ⟨o2, r1, rfl, rfl, H⟩)
  ·rintro _ _ ⟨b4, v5, rfl, rfl, H⟩
   refine T.seq (T.region (TL.st rfl rfl rfl (o_move rfl rfl) (TL.st rfl rfl rfl (o_move rfl rfl) ?_)))
   obtain ⟨z6, h7, H⟩ := bind_s H
   refine TL.st rfl rfl rfl (o_rem rfl rfl rfl (nz_s h7).1) ?_
   refine TL.st rfl rfl rfl (o_assign rfl rfl) (TL.nil (thn_normal (T.ret ?_)))
   cases some_i H
   exact ⟨trivial, _, (.tmp _ _ _ _ rfl .nil), ⟨rfl, _, rfl⟩⟩
theorem en_18 (us : Array Value) (w : World) : (callFunc 18 us).run Go.Proofs.Tryz.prog w = .ok (.enter 18 us) w := enters Go.Proofs.Tryz.func18 rfl rfl us w
theorem tyE_5 : TyE Go.Proofs.Tryz.prog 5 1 := ⟨_, _, rfl, rfl, rfl, rfl, by decide, by decide⟩
noncomputable def spec_l1Cur_bytes_l1  : (T_spec_l1Cur × List Int × Int) → Option ((T_spec_l1Cur × List Int × Int) ⊕ (T_spec_l1Cur × List Int)) := fun s => match s with
  | (b4, l5, v6) => cond (decide (v6 > 0)) ((spec_l1Cur_next b4).bind fun q => (match q with | (r10, o11) => (app l5 ([(IntKind.u8.wrap r10)] : List Int)).bind fun l13 => some (.inl (o11, l13, (IntKind.i64.wrap (v6 - 1)))))) (some (.inr (b4, l5)))
noncomputable def spec_l1Cur_bytes (a0 : Int) (s0 : T_spec_l1Cur) : Option ((List Int) × T_spec_l1Cur) :=
  (spec_l1Cur_pick a0 s0).bind fun q => (match q with | (r1, o2) => (loopO (spec_l1Cur_bytes_l1) (o2, ([] : List Int), r1)).bind fun q15 => (match q15 with | (b7, l8) => some (l8, b7)))
theorem spec_l1Cur_bytes_p (c0 : Bool) {a0 : Int} {s0 : T_spec_l1Cur} {R0 : (List Int)} {U0 : T_spec_l1Cur} (H : spec_l1Cur_bytes a0 s0 = some (R0, U0)) : St Go.Proofs.Tryz.prog 29 [.bx 0 0, .int .i64 a0] [.box (c_T_spec_l1Cur c0 s0)] (.im false (R0.map (c_int .u8))) [.box (c_T_spec_l1Cur c0 U0)] := by
 refine CallT.fin (CallT.of_TN (n := 21) Go.Proofs.Tryz.func29 rfl rfl rfl rfl ?_) rfl rfl ⟨(bels_iff.1 rfl), trivial⟩
 refine T.seq (T.region (TL.st rfl rfl rfl (o_assign rfl rfl) (TL.nil (thn_normal (T.seq (T.region (TL.st rfl rfl rfl (o_assign rfl rfl) (TL.nil (thn_normal (T.seq (T.seq (T.region (TL.st rfl rfl rfl (o_move rfl rfl) (TL.st rfl rfl rfl (o_move rfl rfl) ?_))))))))))))))
 obtain ⟨⟨r1, o2⟩, h3, H⟩ := bind_s H
 refine TL.st rfl rfl rfl (o_callS [0] rfl en_18 rfl rfl (spec_l1Cur_pick_p c0 h3) rfl (by decide) (.cons _ _ _ _ rfl .nil) rfl rfl rfl) ?_
 refine TL.st rfl rfl rfl (o_assign rfl rfl) (TL.nil (thn_normal (T.block (T.conv (Cs.own (t := 5) 1 rfl (by decide)) ?_))))
 obtain ⟨q15, h16, H⟩ := bind_s H
 refine T.lq (fun s => match s with | (b4, l5, v6) => [(0, .bx 0 0), (5, .hd 1 (l5.map (c_int .u8)).length 0 (l5.map (c_int .u8)).length), (6, .int .i64 v6)]) (fun s => match s with | (b4, l5, v6) => [.box (c_T_spec_l1Cur c0 b4), .arr .clo 1 (l5.map (c_int .u8))]) (fun q ex fr σ => match q with | (b7, l8) => ex = .exit 0 ∧ fr = [(5, .hd 1 (l8.map (c_int .u8)).length 0 (l8.map (c_int .u8)).length)] ∧ σ = [.box (c_T_spec_l1Cur c0 b7), .arr .clo 1 (l8.map (c_int .u8))]) h16 ?_ ?_
 ·rintro ⟨b4, l5, v6⟩ y9 H
  refine T.seq (T.seq (T.region (TL.st rfl rfl rfl (o_move rfl rfl) (TL.st rfl rfl rfl (o_ari rfl rfl rfl rfl) (TL.nil (thn_normal ?_))))))
  refine T.cond (decide (v6 > 0)) rfl (fun h => ?_) (fun h => ?_)
  ·replace H := cond_t h H
   refine T.skip (thn_normal (T.seq (T.block (T.region (TL.st rfl rfl rfl (o_move rfl rfl) (TL.st rfl rfl rfl (o_move rfl rfl) ?_))))))
   obtain ⟨⟨r10, o11⟩, h12, H⟩ := bind_s H
   refine TL.st rfl rfl rfl (o_callS [0] rfl en_30 rfl rfl (spec_l1Cur_next_p c0 h12) rfl (by decide) (.cons _ _ _ _ rfl .nil) rfl rfl rfl) ?_
   refine TL.st rfl rfl rfl (o_conv rfl rfl ⟨_, rfl⟩ rfl) ?_
   refine TL.st rfl rfl rfl (o_sliceIm (rows := ([(IntKind.u8.wrap r10)] : List Int).map (c_int .u8)) rfl rfl tyS_5 ⟨_, rfl, rfl⟩ (by decide) rfl rfl rfl rfl rfl rfl) ?_
   obtain ⟨l13, h14, H⟩ := bind_s H
   refine TL.st rfl rfl rfl (o_ap (f := c_int .u8) (xs := l5) (ys := ([(IntKind.u8.wrap r10)] : List Int)) rfl rfl tyE_5 rfl rfl rfl rfl (by decide) rfl (fun _ => rfl) h14) ?_
   refine TL.st rfl rfl rfl (o_assign rfl rfl) (TL.nil (inB_normal (thn_normal (T.region (TL.st rfl rfl rfl (o_move rfl rfl) (TL.st rfl rfl rfl (o_ari rfl rfl rfl rfl) (TL.st rfl rfl rfl (o_assign rfl rfl) (TL.nil ?_))))))))
   exact Pk.of (thn_normal ⟨(o11, l13, (IntKind.i64.wrap (v6 - 1))), (some_i H).symm, rfl, rfl⟩)
  ·replace H := cond_f h H
   refine T.exit (thn_exit ?_)
   exact Pk.of (thn_exit ⟨(b4, l5), (some_i H).symm, rfl, rfl, rfl⟩)
 ·rcases q15 with ⟨b7, l8⟩
  rintro _ _ _ ⟨rfl, rfl, rfl⟩
  refine inB_here (thn_normal (T.seq (T.region (TL.st rfl rfl rfl (o_move rfl rfl) (TL.st rfl rfl rfl (o_assign rfl rfl) (TL.nil (thn_normal (T.conv (Cs.frzOwn (t := 4) rfl rfl rfl) ?_))))))))
  refine T.ret ?_
  cases some_i H
  exact ⟨trivial, _, (.tmp _ _ _ _ rfl .nil), ⟨rfl, _, rfl⟩⟩
theorem en_29 (us : Array Value) (w : World) : (callFunc 29 us).run Go.Proofs.Tryz.prog w = .ok (.enter 29 us) w := enters Go.Proofs.Tryz.func29 rfl rfl us w
theorem tyS_25 : TyS Go.Proofs.Tryz.prog 25 true 4 := ⟨rfl, rfl⟩
theorem tyS_9 : TyS Go.Proofs.Tryz.prog 9 false 1 := ⟨rfl, rfl⟩
noncomputable def spec_l2Mixx_l1 (a0 : Int) : (List Int × Int) → Option ((List Int × Int) ⊕ List Int) := fun s => match s with
  | (l1, v2) => cond (decide (v2 < 4)) ((idx l1 v2).bind fun e5 => (idx ([1103515245, 69069, 1664525, 22695477] : List Int) v2).bind fun e7 => (idx l1 (Int.tmod (IntKind.i64.wrap (v2 + 1)) 4)).bind fun e9 => (idx l1 v2).bind fun e11 => some (.inl ((l1.set (Int.toNat v2) (Int.tmod (IntKind.i64.wrap ((IntKind.i64.wrap ((IntKind.i64.wrap ((IntKind.i64.wrap (e5 * e7)) + a0)) + 1)) + e9)) 2147483579)), (IntKind.i64.wrap (v2 + 1))))) (some (.inr l1))
noncomputable def spec_l2Mixx (a0 : Int) (s0 : List Int) : Option (List Int) :=
  (loopO (spec_l2Mixx_l1 a0) (s0, 0)).bind fun l3 => (match l3 with | l3 => some l3)
theorem spec_l2Mixx_p  {a0 : Int} {s0 : List Int} {U0 : List Int} (H : spec_l2Mixx a0 s0 = some U0) : St Go.Proofs.Tryz.prog 23 [.hd 0 (s0.map (c_int .i64)).length 0 (s0.map (c_int .i64)).length, .int .i64 a0] [.arr .clo 1 (s0.map (c_int .i64))] (.tup []) [.arr .clo 1 (U0.map (c_int .i64))] := by
 refine CallT.fin (CallT.of_TN (n := 34) Go.Proofs.Tryz.func23 rfl rfl rfl rfl ?_) rfl rfl ⟨trivial, trivial⟩
 refine T.seq (T.region (TL.st rfl rfl rfl (o_sliceIm (rows := ([1103515245, 69069, 1664525, 22695477] : List Int).map (c_int .i64)) rfl rfl tyS_3 ⟨_, rfl, rfl⟩ (by decide) rfl rfl rfl rfl rfl rfl) ?_))
 refine TL.st rfl rfl rfl (o_assign rfl rfl) (TL.nil (thn_normal (T.seq (T.region (TL.st rfl rfl rfl (o_assign rfl rfl) (TL.nil (thn_normal (T.block ?_))))))))
 obtain ⟨l3, h14, H⟩ := bind_s H
 refine T.lq (fun s => match s with | (l1, v2) => [(0, .hd 0 (l1.map (c_int .i64)).length 0 (l1.map (c_int .i64)).length), (1, .int .i64 a0), (4, .im false (([1103515245, 69069, 1664525, 22695477] : List Int).map (c_int .i64))), (5, .int .i64 v2)]) (fun s => match s with | (l1, v2) => [.arr .clo 1 (l1.map (c_int .i64))]) (fun q ex fr σ => match q with | l3 => ex = .exit 0 ∧ fr = [] ∧ σ = [.arr .clo 1 (l3.map (c_int .i64))]) h14 ?_ ?_
 ·rintro ⟨l1, v2⟩ y4 H
  refine T.seq (T.seq (T.region (TL.st rfl rfl rfl (o_move rfl rfl) (TL.st rfl rfl rfl (o_ari rfl rfl rfl rfl) (TL.nil (thn_normal ?_))))))
  refine T.cond (decide (v2 < 4)) rfl (fun h => ?_) (fun h => ?_)
  ·replace H := cond_t h H
   refine T.skip (thn_normal (T.seq (T.block (T.drawn rfl ?_))))
   refine TD.qs rfl rfl (fun _ => o_move rfl rfl) (TD.qs rfl rfl (fun _ => o_move rfl rfl) (TD.qs rfl rfl (fun _ => o_move rfl rfl) (TD.qs rfl rfl (fun _ => o_move rfl rfl) ?_)))
   obtain ⟨e5, h6, H⟩ := bind_s H
   refine TD.rs rfl rfl (o_ixh (f := c_int .i64) rfl rfl tyS_3 rfl rfl rfl rfl h6 rfl) ?_
   refine TD.rs rfl rfl (o_loadEl rfl tyS_3 rfl rfl rfl (by rw [List.getElem?_map, (idx_s h6).2]; rfl) (Nat.le_of_ble_eq_true rfl) rfl) ?_
   refine TD.qs rfl rfl (fun _ => o_move rfl rfl) (TD.qs rfl rfl (fun _ => o_move rfl rfl) ?_)
   obtain ⟨e7, h8, H⟩ := bind_s H
   refine TD.qs rfl rfl (fun _ => o_ix (f := c_int .i64) rfl rfl tyS_3 rfl rfl h8 rfl) ?_
   refine TD.qs rfl rfl (fun _ => o_loadRf rfl tyS_3 rfl (Nat.le_of_ble_eq_true rfl) rfl) ?_
   refine TD.qs rfl rfl (fun _ => o_ari rfl rfl rfl rfl) ?_
   refine TD.qs rfl rfl (fun _ => o_move rfl rfl) (TD.qs rfl rfl (fun _ => o_ari rfl rfl rfl rfl) ?_)
   refine TD.qs rfl rfl (fun _ => o_ari rfl rfl rfl rfl) ?_
   refine TD.qs rfl rfl (fun _ => o_move rfl rfl) (TD.qs rfl rfl (fun _ => o_move rfl rfl) (TD.qs rfl rfl (fun _ => o_ari rfl rfl rfl rfl) ?_))
   refine TD.qs rfl rfl (fun _ => o_rem rfl rfl rfl (by decide)) ?_
   obtain ⟨e9, h10, H⟩ := bind_s H
   refine TD.rs rfl rfl (o_ixh (f := c_int .i64) rfl rfl tyS_3 rfl rfl rfl rfl h10 rfl) ?_
   refine TD.rs rfl rfl (o_loadEl rfl tyS_3 rfl rfl rfl (by rw [List.getElem?_map, (idx_s h10).2]; rfl) (Nat.le_of_ble_eq_true rfl) rfl) ?_
   refine TD.qs rfl rfl (fun _ => o_ari rfl rfl rfl rfl) ?_
   refine TD.qs rfl rfl (fun _ => o_rem rfl rfl rfl (by decide)) ?_
   obtain ⟨e11, h12, H⟩ := bind_s H
   refine TD.rs rfl rfl (o_ixh (f := c_int .i64) rfl rfl tyS_3 rfl rfl rfl rfl h12 rfl) ?_
   refine TD.an rfl rfl (o_stEl (f := c_int .i64) (xs := l1) (k := v2) (a := e11) (Int.tmod (IntKind.i64.wrap ((IntKind.i64.wrap ((IntKind.i64.wrap ((IntKind.i64.wrap (e5 * e7)) + a0)) + 1)) + e9)) 2147483579) rfl tyS_3 rfl rfl rfl rfl (by decide) h12 rfl rfl rfl (fun _ => rfl) rfl) ?_
   refine TD.nil ⟨rfl, ?_⟩
   refine inB_normal (thn_normal (T.conv (Cs.eqV (t := 0) (v' := .hd 0 ((l1.set (Int.toNat v2) (Int.tmod (IntKind.i64.wrap ((IntKind.i64.wrap ((IntKind.i64.wrap ((IntKind.i64.wrap (e5 * e7)) + a0)) + 1)) + e9)) 2147483579)).map (c_int .i64)).length 0 ((l1.set (Int.toNat v2) (Int.tmod (IntKind.i64.wrap ((IntKind.i64.wrap ((IntKind.i64.wrap ((IntKind.i64.wrap (e5 * e7)) + a0)) + 1)) + e9)) 2147483579)).map (c_int .i64)).length) rfl (hd_len _ (List.length_set ..))) ?_))
   refine T.conv (Cs.eqV (t := 11) (v' := .hd 0 ((l1.set (Int.toNat v2) (Int.tmod (IntKind.i64.wrap ((IntKind.i64.wrap ((IntKind.i64.wrap ((IntKind.i64.wrap (e5 * e7)) + a0)) + 1)) + e9)) 2147483579)).map (c_int .i64)).length 0 ((l1.set (Int.toNat v2) (Int.tmod (IntKind.i64.wrap ((IntKind.i64.wrap ((IntKind.i64.wrap ((IntKind.i64.wrap (e5 * e7)) + a0)) + 1)) + e9)) 2147483579)).map (c_int .i64)).length) rfl (hd_len _ (List.length_set ..))) ?_
   refine T.conv (Cs.eqV (t := 13) (v' := .hd 0 ((l1.set (Int.toNat v2) (Int.tmod (IntKind.i64.wrap ((IntKind.i64.wrap ((IntKind.i64.wrap ((IntKind.i64.wrap (e5 * e7)) + a0)) + 1)) + e9)) 2147483579)).map (c_int .i64)).length 0 ((l1.set (Int.toNat v2) (Int.tmod (IntKind.i64.wrap ((IntKind.i64.wrap ((IntKind.i64.wrap ((IntKind.i64.wrap (e5 * e7)) + a0)) + 1)) + e9)) 2147483579)).map (c_int .i64)).length) rfl (hd_len _ (List.length_set ..))) ?_
   refine T.conv (Cs.eqV (t := 25) (v' := .hd 0 ((l1.set (Int.toNat v2) (Int.tmod (IntKind.i64.wrap ((IntKind.i64.wrap ((IntKind.i64.wrap ((IntKind.i64.wrap (e5 * e7)) + a0)) + 1)) + e9)) 2147483579)).map (c_int .i64)).length 0 ((l1.set (Int.toNat v2) (Int.tmod (IntKind.i64.wrap ((IntKind.i64.wrap ((IntKind.i64.wrap ((IntKind.i64.wrap (e5 * e7)) + a0)) + 1)) + e9)) 2147483579)).map (c_int .i64)).length) rfl (hd_len _ (List.length_set ..))) ?_
   refine T.region (TL.st rfl rfl rfl (o_move rfl rfl) (TL.st rfl rfl rfl (o_ari rfl rfl rfl rfl) (TL.st rfl rfl rfl (o_assign rfl rfl) (TL.nil ?_))))
   exact Pk.of (thn_normal ⟨((l1.set (Int.toNat v2) (Int.tmod (IntKind.i64.wrap ((IntKind.i64.wrap ((IntKind.i64.wrap ((IntKind.i64.wrap (e5 * e7)) + a0)) + 1)) + e9)) 2147483579)), (IntKind.i64.wrap (v2 + 1))), (some_i H).symm, rfl, rfl⟩)
  ·replace H := cond_f h H
   refine T.exit (thn_exit ?_)
   exact Pk.of (thn_exit ⟨l1, (some_i H).symm, rfl, rfl, rfl⟩)
 ·rintro _ _ _ ⟨rfl, rfl, rfl⟩
  refine inB_here ?_
  cases some_i H
  exact ⟨trivial, _, .nil, ⟨rfl, _, rfl⟩⟩
theorem en_23 (us : Array Value) (w : World) : (callFunc 23 us).run Go.Proofs.Tryz.prog w = .ok (.enter 23 us) w := enters Go.Proofs.Tryz.func23 rfl rfl us w
noncomputable def spec_l2Bytes_l1 (l1 : List Int) : (List Int × Int × Int) → Option ((List Int × Int × Int) ⊕ List Int) := fun s => match s with
  | (l3, v4, v5) => cond (decide (v5 < (l1.length : Int))) ((idx l3 v5).bind fun e8 => some (.inl ((l3.set (Int.toNat v5) (IntKind.u8.wrap (Int.tmod v4 256))), (IntKind.i64.wrap (Int.tdiv v4 256)), (IntKind.i64.wrap (v5 + 1))))) (some (.inr l3))
noncomputable def spec_l2Bytes (a0 : Int) : Option (List Int) :=
  (mk 0 4).bind fun l1 => (loopO (spec_l2Bytes_l1 l1) (l1, a0, 0)).bind fun l6 => (match l6 with | l6 => some l6)
theorem spec_l2Bytes_p  {a0 : Int} {R0 : (List Int)} (H : spec_l2Bytes a0 = some R0) : Pure Go.Proofs.Tryz.prog 24 [.int .i64 a0] (.im false (R0.map (c_int .u8))) := by
 refine CallT.of_TN (n := 21) Go.Proofs.Tryz.func24 rfl rfl rfl rfl ?_
 refine T.seq (T.region (TL.st rfl rfl rfl (o_assign rfl rfl) (TL.nil (thn_normal (T.seq (T.region ?_))))))
 obtain ⟨l1, h2, H⟩ := bind_s H
 refine TL.st rfl rfl rfl (o_mk (f := c_int .u8) (z := 0) rfl rfl tyE_5 ⟨_, rfl, rfl⟩ rfl rfl h2) ?_
 refine TL.st rfl rfl rfl (o_assign rfl rfl) (TL.nil (thn_normal (T.seq (T.seq (T.region (TL.st rfl rfl rfl (o_move rfl rfl) (TL.st rfl rfl rfl (o_lenOwn (f := c_int .u8) rfl rfl rfl rfl rfl) ?_)))))))
 refine TL.st rfl rfl rfl (o_move rfl rfl) (TL.nil (thn_normal (T.block ?_)))
 obtain ⟨l6, h11, H⟩ := bind_s H
 refine T.lq (fun s => match s with | (l3, v4, v5) => [(0, .int .i64 v4), (3, .hd 0 (l3.map (c_int .u8)).length 0 (l3.map (c_int .u8)).length), (7, .int .i64 (l1.length : Int)), (8, .int .i64 v5)]) (fun s => match s with | (l3, v4, v5) => [.arr .clo 1 (l3.map (c_int .u8))]) (fun q ex fr σ => match q with | l6 => ex = .exit 0 ∧ fr = [(3, .hd 0 (l6.map (c_int .u8)).length 0 (l6.map (c_int .u8)).length)] ∧ σ = [.arr .clo 1 (l6.map (c_int .u8))]) h11 ?_ ?_
 ·rintro ⟨l3, v4, v5⟩ y7 H
  refine T.seq (T.region (TL.st rfl rfl rfl (o_ari rfl rfl rfl rfl) (TL.nil (thn_normal (T.seq ?_)))))
  refine T.cond (decide (v5 < (l1.length : Int))) rfl (fun h => ?_) (fun h => ?_)
  ·replace H := cond_t h H
   refine T.skip (thn_normal (T.seq (T.block (T.seq (T.region (TL.st rfl rfl rfl (o_move rfl rfl) (TL.st rfl rfl rfl (o_assign rfl rfl) (TL.nil (thn_normal (T.seq (T.region (TL.st rfl rfl rfl (o_move rfl rfl) (TL.st rfl rfl rfl (o_move rfl rfl) (TL.st rfl rfl rfl (o_move rfl rfl) (TL.st rfl rfl rfl (o_rem rfl rfl rfl (by decide)) ?_)))))))))))))))
   refine TL.st rfl rfl rfl (o_conv rfl rfl ⟨_, rfl⟩ rfl) ?_
   obtain ⟨e8, h9, H⟩ := bind_s H
   refine TL.st rfl rfl rfl (o_ixh (f := c_int .u8) rfl rfl tyS_5 rfl rfl rfl rfl h9 rfl) ?_
   refine TL.sn rfl rfl (o_stEl (f := c_int .u8) (xs := l3) (k := v5) (a := e8) (IntKind.u8.wrap (Int.tmod v4 256)) rfl tyS_5 rfl rfl rfl rfl (by decide) h9 rfl rfl rfl (fun _ => rfl) rfl) ?_
   refine TL.conv (Cs.eqV (t := 3) (v' := .hd 0 ((l3.set (Int.toNat v5) (IntKind.u8.wrap (Int.tmod v4 256))).map (c_int .u8)).length 0 ((l3.set (Int.toNat v5) (IntKind.u8.wrap (Int.tmod v4 256))).map (c_int .u8)).length) rfl (hd_len _ (List.length_set ..))) ?_
   refine TL.conv (Cs.eqV (t := 11) (v' := .hd 0 ((l3.set (Int.toNat v5) (IntKind.u8.wrap (Int.tmod v4 256))).map (c_int .u8)).length 0 ((l3.set (Int.toNat v5) (IntKind.u8.wrap (Int.tmod v4 256))).map (c_int .u8)).length) rfl (hd_len _ (List.length_set ..))) ?_
   refine TL.nil (thn_normal (T.region (TL.st rfl rfl rfl (o_move rfl rfl) (TL.st rfl rfl rfl (o_quo rfl rfl rfl (by decide)) ?_))))
   refine TL.st rfl rfl rfl (o_assign rfl rfl) (TL.nil (inB_normal (thn_normal (T.region (TL.st rfl rfl rfl (o_ari rfl rfl rfl rfl) (TL.st rfl rfl rfl (o_move rfl rfl) (TL.nil ?_)))))))
   exact Pk.of (thn_normal ⟨((l3.set (Int.toNat v5) (IntKind.u8.wrap (Int.tmod v4 256))), (IntKind.i64.wrap (Int.tdiv v4 256)), (IntKind.i64.wrap (v5 + 1))), (some_i H).symm, rfl, rfl⟩)
  ·replace H := cond_f h H
   refine T.exit (thn_exit ?_)
   exact Pk.of (thn_exit ⟨l3, (some_i H).symm, rfl, rfl, rfl⟩)
 ·rintro _ _ _ ⟨rfl, rfl, rfl⟩
  refine inB_here (thn_normal (T.seq (T.region (TL.st rfl rfl rfl (o_move rfl rfl) (TL.st rfl rfl rfl (o_assign rfl rfl) (TL.nil (thn_normal (T.ret ?_))))))))
  cases some_i H
  exact ⟨trivial, _, (.tmp _ _ _ _ rfl .nil), (.own rfl (by decide) rfl)⟩
theorem en_24 (us : Array Value) (w : World) : (callFunc 24 us).run Go.Proofs.Tryz.prog w = .ok (.enter 24 us) w := enters Go.Proofs.Tryz.func24 rfl rfl us w
noncomputable def spec_l2Digest_l4 (l11 : List Int) : (List Int × Int) → Option ((List Int × Int) ⊕ List Int) := fun s => match s with
  | (l12, v13) => cond (decide (v13 < (l11.length : Int))) ((idx l11 v13).bind fun e16 => (spec_l2Bytes e16).bind fun r18 => (app l12 r18).bind fun l20 => some (.inl (l20, (IntKind.i64.wrap (v13 + 1))))) (some (.inr l12))
noncomputable def spec_l2Digest_l3  : (List Int × Int) → Option ((List Int × Int) ⊕ List Int) := fun s => match s with
  | (l9, v10) => cond (decide (v10 < 8)) ((spec_l2Mixx 0 l9).bind fun o25 => (lenEq o25 l9).bind fun u27 => some (.inl (o25, (IntKind.i64.wrap (v10 + 1))))) (some (.inr l9))
noncomputable def spec_l2Digest_l2 (r4 : (List Int)) : (List Int × Int) → Option ((List Int × Int) ⊕ List Int) := fun s => match s with
  | (l6, v7) => cond (decide (v7 < (r4.length : Int))) ((idx r4 v7).bind fun e32 => (spec_l2Mixx (IntKind.i64.wrap e32) l6).bind fun o34 => (lenEq o34 l6).bind fun u36 => some (.inl (o34, (IntKind.i64.wrap (v7 + 1))))) (some (.inr l6))
noncomputable def spec_l2Digest_l1 (a0 : (List Int)) : (List Int × Int) → Option ((List Int × Int) ⊕ List Int) := fun s => match s with
  | (l1, v2) => cond (decide (v2 < (a0.length : Int))) ((idx a0 v2).bind fun e41 => (spec_l2Mixx (IntKind.i64.wrap e41) l1).bind fun o43 => (lenEq o43 l1).bind fun u45 => some (.inl (o43, (IntKind.i64.wrap (v2 + 1))))) (some (.inr l1))
noncomputable def spec_l2Digest (a0 : (List Int)) : Option (List Int) :=
  (loopO (spec_l2Digest_l1 a0) (([11, 22, 33, 44] : List Int), 0)).bind fun l3 => (match l3 with | l3 => (spec_l2Bytes (a0.length : Int)).bind fun r4 => (loopO (spec_l2Digest_l2 r4) (l3, 0)).bind fun l8 => (match l8 with | l8 => (loopO (spec_l2Digest_l3) (l8, 0)).bind fun l11 => (match l11 with | l11 => (loopO (spec_l2Digest_l4 l11) (([] : List Int), 0)).bind fun l14 => (match l14 with | l14 => some l14))))
theorem spec_l2Digest_p (b0 : Bool) {a0 : (List Int)} {R0 : (List Int)} (H : spec_l2Digest a0 = some R0) : Pure Go.Proofs.Tryz.prog 11 [.im b0 (a0.map (c_int .u8))] (.im false (R0.map (c_int .u8))) := by
 refine CallT.of_TN (n := 55) Go.Proofs.Tryz.func11 rfl rfl rfl rfl ?_
 refine T.seq (T.region (TL.st rfl rfl rfl (o_assign rfl rfl) (TL.nil (thn_normal (T.seq (T.region (TL.st rfl rfl rfl (o_sliceHd (rows := ([11, 22, 33, 44] : List Int).map (c_int .i64)) .clo rfl rfl tyS_3 ⟨_, rfl, rfl⟩ (by decide) rfl rfl rfl rfl (by decide) (fun _ => rfl) (by decide) rfl (by decide)) ?_)))))))
 refine TL.st rfl rfl rfl (o_assign rfl rfl) (TL.nil (thn_normal (T.seq (T.seq (T.region (TL.st rfl rfl rfl (o_move rfl rfl) (TL.st rfl rfl rfl (o_lenL (f := c_int .u8) rfl rfl rfl) ?_)))))))
 refine TL.st rfl rfl rfl (o_move rfl rfl) (TL.nil (thn_normal (T.block ?_)))
 obtain ⟨l3, h48, H⟩ := bind_s H
 refine T.lq (fun s => match s with | (l1, v2) => [(0, .im b0 (a0.map (c_int .u8))), (3, .hd 0 (l1.map (c_int .i64)).length 0 (l1.map (c_int .i64)).length), (13, .im b0 (a0.map (c_int .u8))), (14, .int .i64 (a0.length : Int)), (15, .int .i64 v2)]) (fun s => match s with | (l1, v2) => [.arr .clo 1 (l1.map (c_int .i64))]) (fun q ex fr σ => match q with | l3 => ex = .exit 0 ∧ fr = [(0, .im b0 (a0.map (c_int .u8))), (3, .hd 0 (l3.map (c_int .i64)).length 0 (l3.map (c_int .i64)).length)] ∧ σ = [.arr .clo 1 (l3.map (c_int .i64))]) h48 ?_ ?_
 ·rintro ⟨l1, v2⟩ y40 H
  refine T.seq (T.region (TL.st rfl rfl rfl (o_ari rfl rfl rfl rfl) (TL.nil (thn_normal (T.seq ?_)))))
  refine T.cond (decide (v2 < (a0.length : Int))) rfl (fun h => ?_) (fun h => ?_)
  ·replace H := cond_t h H
   refine T.skip (thn_normal (T.seq (T.block (T.seq (T.region ?_)))))
   obtain ⟨e41, h42, H⟩ := bind_s H
   refine TL.st rfl rfl rfl (o_ix (f := c_int .u8) rfl rfl tyS_5 rfl rfl h42 rfl) ?_
   refine TL.st rfl rfl rfl (o_loadRf rfl tyS_5 rfl (Nat.le_of_ble_eq_true rfl) rfl) ?_
   refine TL.st rfl rfl rfl (o_assign rfl rfl) (TL.nil (thn_normal (T.region (TL.st rfl rfl rfl (o_move rfl rfl) (TL.st rfl rfl rfl (o_move rfl rfl) (TL.st rfl rfl rfl (o_conv rfl rfl ⟨_, rfl⟩ rfl) ?_))))))
   obtain ⟨o43, h44, H⟩ := bind_s H
   obtain ⟨u45, h46, H⟩ := bind_s H
   refine TL.st rfl rfl rfl (o_callS [0] rfl en_23 rfl rfl (spec_l2Mixx_p  h44) rfl (by decide) (.cons _ _ _ _ rfl .nil) rfl rfl rfl) ?_
   refine TL.conv (Cs.eqV (t := 3) (v' := .hd 0 (o43.map (c_int .i64)).length 0 (o43.map (c_int .i64)).length) rfl (hd_len _ (lenEq_s h46))) ?_
   refine TL.conv (Cs.eqV (t := 19) (v' := .hd 0 (o43.map (c_int .i64)).length 0 (o43.map (c_int .i64)).length) rfl (hd_len _ (lenEq_s h46))) ?_
   refine TL.nil (inB_normal (thn_normal (T.region (TL.st rfl rfl rfl (o_ari rfl rfl rfl rfl) (TL.st rfl rfl rfl (o_move rfl rfl) (TL.nil ?_))))))
   exact Pk.of (thn_normal ⟨(o43, (IntKind.i64.wrap (v2 + 1))), (some_i H).symm, rfl, rfl⟩)
  ·replace H := cond_f h H
   refine T.exit (thn_exit ?_)
   exact Pk.of (thn_exit ⟨l1, (some_i H).symm, rfl, rfl, rfl⟩)
 ·rintro _ _ _ ⟨rfl, rfl, rfl⟩
  refine inB_here (thn_normal (T.seq (T.seq (T.region (TL.st rfl rfl rfl (o_move rfl rfl) (TL.st rfl rfl rfl (o_lenL (f := c_int .u8) rfl rfl rfl) ?_))))))
  obtain ⟨r4, h5, H⟩ := bind_s H
  refine TL.st rfl rfl rfl (o_callP rfl en_24 rfl rfl (.cons _ _ _ _ (.cl _ rfl) .nil) (spec_l2Bytes_p  h5)) ?_
  refine TL.st rfl rfl rfl (o_lenL (f := c_int .u8) rfl rfl rfl) ?_
  refine TL.st rfl rfl rfl (o_move rfl rfl) (TL.nil (thn_normal (T.block ?_)))
  obtain ⟨l8, h39, H⟩ := bind_s H
  refine T.lq (fun s => match s with | (l6, v7) => [(3, .hd 0 (l6.map (c_int .i64)).length 0 (l6.map (c_int .i64)).length), (26, .im false (r4.map (c_int .u8))), (27, .int .i64 (r4.length : Int)), (28, .int .i64 v7)]) (fun s => match s with | (l6, v7) => [.arr .clo 1 (l6.map (c_int .i64))]) (fun q ex fr σ => match q with | l8 => ex = .exit 2 ∧ fr = [(3, .hd 0 (l8.map (c_int .i64)).length 0 (l8.map (c_int .i64)).length)] ∧ σ = [.arr .clo 1 (l8.map (c_int .i64))]) h39 ?_ ?_
  ·rintro ⟨l6, v7⟩ y31 H
   refine T.seq (T.region (TL.st rfl rfl rfl (o_ari rfl rfl rfl rfl) (TL.nil (thn_normal (T.seq ?_)))))
   refine T.cond (decide (v7 < (r4.length : Int))) rfl (fun h => ?_) (fun h => ?_)
   ·replace H := cond_t h H
    refine T.skip (thn_normal (T.seq (T.block (T.seq (T.region ?_)))))
    obtain ⟨e32, h33, H⟩ := bind_s H
    refine TL.st rfl rfl rfl (o_ix (f := c_int .u8) rfl rfl tyS_5 rfl rfl h33 rfl) ?_
    refine TL.st rfl rfl rfl (o_loadRf rfl tyS_5 rfl (Nat.le_of_ble_eq_true rfl) rfl) ?_
    refine TL.st rfl rfl rfl (o_assign rfl rfl) (TL.nil (thn_normal (T.region (TL.st rfl rfl rfl (o_move rfl rfl) (TL.st rfl rfl rfl (o_move rfl rfl) (TL.st rfl rfl rfl (o_conv rfl rfl ⟨_, rfl⟩ rfl) ?_))))))
    obtain ⟨o34, h35, H⟩ := bind_s H
    obtain ⟨u36, h37, H⟩ := bind_s H
    refine TL.st rfl rfl rfl (o_callS [0] rfl en_23 rfl rfl (spec_l2Mixx_p  h35) rfl (by decide) (.cons _ _ _ _ rfl .nil) rfl rfl rfl) ?_
    refine TL.conv (Cs.eqV (t := 3) (v' := .hd 0 (o34.map (c_int .i64)).length 0 (o34.map (c_int .i64)).length) rfl (hd_len _ (lenEq_s h37))) ?_
    refine TL.conv (Cs.eqV (t := 32) (v' := .hd 0 (o34.map (c_int .i64)).length 0 (o34.map (c_int .i64)).length) rfl (hd_len _ (lenEq_s h37))) ?_
    refine TL.nil (inB_normal (thn_normal (T.region (TL.st rfl rfl rfl (o_ari rfl rfl rfl rfl) (TL.st rfl rfl rfl (o_move rfl rfl) (TL.nil ?_))))))
    exact Pk.of (thn_normal ⟨(o34, (IntKind.i64.wrap (v7 + 1))), (some_i H).symm, rfl, rfl⟩)
   ·replace H := cond_f h H
    refine T.exit (thn_exit ?_)
    exact Pk.of (thn_exit ⟨l6, (some_i H).symm, rfl, rfl, rfl⟩)
  ·rintro _ _ _ ⟨rfl, rfl, rfl⟩
   refine inB_here (thn_normal (T.seq (T.seq (T.region (TL.st rfl rfl rfl (o_assign rfl rfl) (TL.nil (thn_normal (T.block ?_))))))))
   obtain ⟨l11, h30, H⟩ := bind_s H
   refine T.lq (fun s => match s with | (l9, v10) => [(3, .hd 0 (l9.map (c_int .i64)).length 0 (l9.map (c_int .i64)).length), (8, .int .i64 v10)]) (fun s => match s with | (l9, v10) => [.arr .clo 1 (l9.map (c_int .i64))]) (fun q ex fr σ => match q with | l11 => ex = .exit 4 ∧ fr = [(3, .hd 0 (l11.map (c_int .i64)).length 0 (l11.map (c_int .i64)).length)] ∧ σ = [.arr .clo 1 (l11.map (c_int .i64))]) h30 ?_ ?_
   ·rintro ⟨l9, v10⟩ y24 H
    refine T.seq (T.seq (T.region (TL.st rfl rfl rfl (o_move rfl rfl) (TL.st rfl rfl rfl (o_ari rfl rfl rfl rfl) (TL.nil (thn_normal ?_))))))
    refine T.cond (decide (v10 < 8)) rfl (fun h => ?_) (fun h => ?_)
    ·replace H := cond_t h H
     refine T.skip (thn_normal (T.seq (T.block (T.region (TL.st rfl rfl rfl (o_move rfl rfl) ?_)))))
     obtain ⟨o25, h26, H⟩ := bind_s H
     obtain ⟨u27, h28, H⟩ := bind_s H
     refine TL.st rfl rfl rfl (o_callS [0] rfl en_23 rfl rfl (spec_l2Mixx_p  h26) rfl (by decide) (.cons _ _ _ _ rfl .nil) rfl rfl rfl) ?_
     refine TL.conv (Cs.eqV (t := 3) (v' := .hd 0 (o25.map (c_int .i64)).length 0 (o25.map (c_int .i64)).length) rfl (hd_len _ (lenEq_s h28))) ?_
     refine TL.conv (Cs.eqV (t := 41) (v' := .hd 0 (o25.map (c_int .i64)).length 0 (o25.map (c_int .i64)).length) rfl (hd_len _ (lenEq_s h28))) ?_
     refine TL.nil (inB_normal (thn_normal (T.region (TL.st rfl rfl rfl (o_move rfl rfl) (TL.st rfl rfl rfl (o_ari rfl rfl rfl rfl) (TL.st rfl rfl rfl (o_assign rfl rfl) (TL.nil ?_)))))))
     exact Pk.of (thn_normal ⟨(o25, (IntKind.i64.wrap (v10 + 1))), (some_i H).symm, rfl, rfl⟩)
    ·replace H := cond_f h H
     refine T.exit (thn_exit ?_)
     exact Pk.of (thn_exit ⟨l9, (some_i H).symm, rfl, rfl, rfl⟩)
   ·rintro _ _ _ ⟨rfl, rfl, rfl⟩
    refine inB_here (thn_normal (T.seq (T.region (TL.st rfl rfl rfl (o_assign rfl rfl) (TL.nil (thn_normal (T.seq (T.seq (T.region (TL.st rfl rfl rfl (o_move rfl rfl) (TL.st rfl rfl rfl (o_lenOwn (f := c_int .i64) rfl rfl rfl rfl rfl) ?_)))))))))))
    refine TL.st rfl rfl rfl (o_move rfl rfl) (TL.nil (thn_normal (T.block (T.conv (Cs.own (t := 9) 1 rfl (by decide)) ?_))))
    obtain ⟨l14, h23, H⟩ := bind_s H
    refine T.lq (fun s => match s with | (l12, v13) => [(9, .hd 1 (l12.map (c_int .u8)).length 0 (l12.map (c_int .u8)).length), (43, .hd 0 (l11.map (c_int .i64)).length 0 (l11.map (c_int .i64)).length), (44, .int .i64 (l11.length : Int)), (45, .int .i64 v13)]) (fun s => match s with | (l12, v13) => [.arr .clo 1 (l11.map (c_int .i64)), .arr .clo 1 (l12.map (c_int .u8))]) (fun q ex fr σ => match q with | l14 => ex = .exit 6 ∧ fr = [(9, .hd 1 (l14.map (c_int .u8)).length 0 (l14.map (c_int .u8)).length)] ∧ σ = [.arr .clo 1 (l11.map (c_int .i64)), .arr .clo 1 (l14.map (c_int .u8))]) h23 ?_ ?_
    ·rintro ⟨l12, v13⟩ y15 H
     refine T.seq (T.region (TL.st rfl rfl rfl (o_ari rfl rfl rfl rfl) (TL.nil (thn_normal (T.seq ?_)))))
     refine T.cond (decide (v13 < (l11.length : Int))) rfl (fun h => ?_) (fun h => ?_)
     ·replace H := cond_t h H
      refine T.skip (thn_normal (T.seq (T.block (T.seq (T.region ?_)))))
      obtain ⟨e16, h17, H⟩ := bind_s H
      refine TL.st rfl rfl rfl (o_ixh (f := c_int .i64) rfl rfl tyS_3 rfl rfl rfl rfl h17 rfl) ?_
      refine TL.st rfl rfl rfl (o_loadEl rfl tyS_3 rfl rfl rfl (by rw [List.getElem?_map, (idx_s h17).2]; rfl) (Nat.le_of_ble_eq_true rfl) rfl) ?_
      refine TL.st rfl rfl rfl (o_assign rfl rfl) (TL.nil (thn_normal (T.region (TL.st rfl rfl rfl (o_move rfl rfl) (TL.st rfl rfl rfl (o_move rfl rfl) ?_)))))
      obtain ⟨r18, h19, H⟩ := bind_s H
      refine TL.st rfl rfl rfl (o_callP rfl en_24 rfl rfl (.cons _ _ _ _ (.cl _ rfl) .nil) (spec_l2Bytes_p  h19)) ?_
      obtain ⟨l20, h21, H⟩ := bind_s H
      refine TL.st rfl rfl rfl (o_ap (f := c_int .u8) (xs := l12) (ys := r18) rfl rfl tyE_5 rfl rfl rfl rfl (by decide) rfl (fun _ => rfl) h21) ?_
      refine TL.st rfl rfl rfl (o_assign rfl rfl) (TL.nil (inB_normal (thn_normal (T.region (TL.st rfl rfl rfl (o_ari rfl rfl rfl rfl) (TL.st rfl rfl rfl (o_move rfl rfl) (TL.nil ?_)))))))
      exact Pk.of (thn_normal ⟨(l20, (IntKind.i64.wrap (v13 + 1))), (some_i H).symm, rfl, rfl⟩)
     ·replace H := cond_f h H
      refine T.exit (thn_exit ?_)
      exact Pk.of (thn_exit ⟨l12, (some_i H).symm, rfl, rfl, rfl⟩)
    ·rintro _ _ _ ⟨rfl, rfl, rfl⟩
     refine inB_here (thn_normal (T.seq (T.region (TL.st rfl rfl rfl (o_move rfl rfl) (TL.st rfl rfl rfl (o_assign rfl rfl) (TL.nil (thn_normal (T.ret ?_))))))))
     cases some_i H
     exact ⟨trivial, _, (.tmp _ _ _ _ rfl .nil), (.own rfl (by decide) rfl)⟩
theorem en_11 (us : Array Value) (w : World) : (callFunc 11 us).run Go.Proofs.Tryz.prog w = .ok (.enter 11 us) w := enters Go.Proofs.Tryz.func11 rfl rfl us w
theorem tyS_50 : TyS Go.Proofs.Tryz.prog 50 true 5 := ⟨rfl, rfl⟩
theorem tyS_23 : TyS Go.Proofs.Tryz.prog 23 false 1 := ⟨rfl, rfl⟩
def k_impl_Server (a1 : Nat) (b : Bool) (x : T_impl_Server) : List V := [.hd a1 (x.Clients_.map (c_T_impl_Client false)).length 0 (x.Clients_.map (c_T_impl_Client false)).length, .im b (x.Key_.map (c_int .u8)), .int .i64 x.Short_, .int .i64 x.Long_]
theorem tyS_29 : TyS Go.Proofs.Tryz.prog 29 false 1 := ⟨rfl, rfl⟩
noncomputable def spec_l1Cur_server (s0 : T_spec_l1Cur) : Option (T_impl_Server × T_spec_l1Cur) :=
  (spec_l1Cur_bytes 4 s0).bind fun q => (match q with | (r1, o2) => (spec_l1Cur_pick 30 o2).bind fun q => (match q with | (r4, o5) => (spec_l1Cur_pick 100 o5).bind fun q => (match q with | (r7, o8) => (spec_l2Digest ([115, 51, 99, 114, 101, 116] : List Int)).bind fun r10 => (spec_l1Cur_pick 30 o8).bind fun q => (match q with | (r12, o13) => cond (r12 == 0) ((spec_l1Cur_pick 3 o13).bind fun q => (match q with | (r15, o16) => (idx ([0, 1000000, 1000001] : List Int) r15).bind fun e18 => some ((⟨([(⟨(ByteArray.mk #[97, 112, 112]), ([] : List Int), ([(ByteArray.mk #[104, 116, 116, 112, 115, 58, 47, 47, 97, 112, 112, 47, 99, 98]), (ByteArray.mk #[97, 112, 112, 58, 99, 98])] : List ByteArray), ([(ByteArray.mk #[109, 97, 105, 108]), (ByteArray.mk #[114, 101, 97, 100]), (ByteArray.mk #[119, 114, 105, 116, 101])] : List ByteArray), ([1, 2, 3] : List Int)⟩ : T_impl_Client), (⟨(ByteArray.mk #[115, 118, 99]), r10, ([(ByteArray.mk #[104, 116, 116, 112, 115, 58, 47, 47, 115, 118, 99, 47, 99, 98])] : List ByteArray), ([(ByteArray.mk #[114, 101, 97, 100]), (ByteArray.mk #[119, 114, 105, 116, 101])] : List ByteArray), ([1, 2, 4] : List Int)⟩ : T_impl_Client), (⟨(ByteArray.mk #[116, 118]), ([] : List Int), ([] : List ByteArray), ([(ByteArray.mk #[114, 101, 97, 100])] : List ByteArray), ([3] : List Int)⟩ : T_impl_Client)] : List T_impl_Client), r1, e18, (IntKind.i64.wrap (30 + r7))⟩ : T_impl_Server), o16))) (cond (r12 == 1) ((idx ([(⟨(ByteArray.mk #[97, 112, 112]), ([] : List Int), ([(ByteArray.mk #[104, 116, 116, 112, 115, 58, 47, 47, 97, 112, 112, 47, 99, 98]), (ByteArray.mk #[97, 112, 112, 58, 99, 98])] : List ByteArray), ([(ByteArray.mk #[109, 97, 105, 108]), (ByteArray.mk #[114, 101, 97, 100]), (ByteArray.mk #[119, 114, 105, 116, 101])] : List ByteArray), ([1, 2, 3] : List Int)⟩ : T_impl_Client), (⟨(ByteArray.mk #[115, 118, 99]), r10, ([(ByteArray.mk #[104, 116, 116, 112, 115, 58, 47, 47, 115, 118, 99, 47, 99, 98])] : List ByteArray), ([(ByteArray.mk #[114, 101, 97, 100]), (ByteArray.mk #[119, 114, 105, 116, 101])] : List ByteArray), ([1, 2, 4] : List Int)⟩ : T_impl_Client), (⟨(ByteArray.mk #[116, 118]), ([] : List Int), ([] : List ByteArray), ([(ByteArray.mk #[114, 101, 97, 100])] : List ByteArray), ([3] : List Int)⟩ : T_impl_Client)] : List T_impl_Client) 0).bind fun e20 => some ((⟨(([(⟨(ByteArray.mk #[97, 112, 112]), ([] : List Int), ([(ByteArray.mk #[104, 116, 116, 112, 115, 58, 47, 47, 97, 112, 112, 47, 99, 98]), (ByteArray.mk #[97, 112, 112, 58, 99, 98])] : List ByteArray), ([(ByteArray.mk #[109, 97, 105, 108]), (ByteArray.mk #[114, 101, 97, 100]), (ByteArray.mk #[119, 114, 105, 116, 101])] : List ByteArray), ([1, 2, 3] : List Int)⟩ : T_impl_Client), (⟨(ByteArray.mk #[115, 118, 99]), r10, ([(ByteArray.mk #[104, 116, 116, 112, 115, 58, 47, 47, 115, 118, 99, 47, 99, 98])] : List ByteArray), ([(ByteArray.mk #[114, 101, 97, 100]), (ByteArray.mk #[119, 114, 105, 116, 101])] : List ByteArray), ([1, 2, 4] : List Int)⟩ : T_impl_Client), (⟨(ByteArray.mk #[116, 118]), ([] : List Int), ([] : List ByteArray), ([(ByteArray.mk #[114, 101, 97, 100])] : List ByteArray), ([3] : List Int)⟩ : T_impl_Client)] : List T_impl_Client).set (Int.toNat 0) ({ e20 with Id_ := (ByteArray.mk #[122, 101, 100]) } : T_impl_Client)), r1, (IntKind.i64.wrap (10 + r4)), (IntKind.i64.wrap (30 + r7))⟩ : T_impl_Server), o13)) (cond (r12 == 2) ((idx ([(⟨(ByteArray.mk #[97, 112, 112]), ([] : List Int), ([(ByteArray.mk #[104, 116, 116, 112, 115, 58, 47, 47, 97, 112, 112, 47, 99, 98]), (ByteArray.mk #[97, 112, 112, 58, 99, 98])] : List ByteArray), ([(ByteArray.mk #[109, 97, 105, 108]), (ByteArray.mk #[114, 101, 97, 100]), (ByteArray.mk #[119, 114, 105, 116, 101])] : List ByteArray), ([1, 2, 3] : List Int)⟩ : T_impl_Client), (⟨(ByteArray.mk #[115, 118, 99]), r10, ([(ByteArray.mk #[104, 116, 116, 112, 115, 58, 47, 47, 115, 118, 99, 47, 99, 98])] : List ByteArray), ([(ByteArray.mk #[114, 101, 97, 100]), (ByteArray.mk #[119, 114, 105, 116, 101])] : List ByteArray), ([1, 2, 4] : List Int)⟩ : T_impl_Client), (⟨(ByteArray.mk #[116, 118]), ([] : List Int), ([] : List ByteArray), ([(ByteArray.mk #[114, 101, 97, 100])] : List ByteArray), ([3] : List Int)⟩ : T_impl_Client)] : List T_impl_Client) 1).bind fun e22 => some ((⟨(([(⟨(ByteArray.mk #[97, 112, 112]), ([] : List Int), ([(ByteArray.mk #[104, 116, 116, 112, 115, 58, 47, 47, 97, 112, 112, 47, 99, 98]), (ByteArray.mk #[97, 112, 112, 58, 99, 98])] : List ByteArray), ([(ByteArray.mk #[109, 97, 105, 108]), (ByteArray.mk #[114, 101, 97, 100]), (ByteArray.mk #[119, 114, 105, 116, 101])] : List ByteArray), ([1, 2, 3] : List Int)⟩ : T_impl_Client), (⟨(ByteArray.mk #[115, 118, 99]), r10, ([(ByteArray.mk #[104, 116, 116, 112, 115, 58, 47, 47, 115, 118, 99, 47, 99, 98])] : List ByteArray), ([(ByteArray.mk #[114, 101, 97, 100]), (ByteArray.mk #[119, 114, 105, 116, 101])] : List ByteArray), ([1, 2, 4] : List Int)⟩ : T_impl_Client), (⟨(ByteArray.mk #[116, 118]), ([] : List Int), ([] : List ByteArray), ([(ByteArray.mk #[114, 101, 97, 100])] : List ByteArray), ([3] : List Int)⟩ : T_impl_Client)] : List T_impl_Client).set (Int.toNat 1) ({ e22 with Secret_ := ([1] : List Int) } : T_impl_Client)), r1, (IntKind.i64.wrap (10 + r4)), (IntKind.i64.wrap (30 + r7))⟩ : T_impl_Server), o13)) (cond (r12 == 3) ((idx ([(⟨(ByteArray.mk #[97, 112, 112]), ([] : List Int), ([(ByteArray.mk #[104, 116, 116, 112, 115, 58, 47, 47, 97, 112, 112, 47, 99, 98]), (ByteArray.mk #[97, 112, 112, 58, 99, 98])] : List ByteArray), ([(ByteArray.mk #[109, 97, 105, 108]), (ByteArray.mk #[114, 101, 97, 100]), (ByteArray.mk #[119, 114, 105, 116, 101])] : List ByteArray), ([1, 2, 3] : List Int)⟩ : T_impl_Client), (⟨(ByteArray.mk #[115, 118, 99]), r10, ([(ByteArray.mk #[104, 116, 116, 112, 115, 58, 47, 47, 115, 118, 99, 47, 99, 98])] : List ByteArray), ([(ByteArray.mk #[114, 101, 97, 100]), (ByteArray.mk #[119, 114, 105, 116, 101])] : List ByteArray), ([1, 2, 4] : List Int)⟩ : T_impl_Client), (⟨(ByteArray.mk #[116, 118]), ([] : List Int), ([] : List ByteArray), ([(ByteArray.mk #[114, 101, 97, 100])] : List ByteArray), ([3] : List Int)⟩ : T_impl_Client)] : List T_impl_Client) 0).bind fun e24 => some ((⟨(([(⟨(ByteArray.mk #[97, 112, 112]), ([] : List Int), ([(ByteArray.mk #[104, 116, 116, 112, 115, 58, 47, 47, 97, 112, 112, 47, 99, 98]), (ByteArray.mk #[97, 112, 112, 58, 99, 98])] : List ByteArray), ([(ByteArray.mk #[109, 97, 105, 108]), (ByteArray.mk #[114, 101, 97, 100]), (ByteArray.mk #[119, 114, 105, 116, 101])] : List ByteArray), ([1, 2, 3] : List Int)⟩ : T_impl_Client), (⟨(ByteArray.mk #[115, 118, 99]), r10, ([(ByteArray.mk #[104, 116, 116, 112, 115, 58, 47, 47, 115, 118, 99, 47, 99, 98])] : List ByteArray), ([(ByteArray.mk #[114, 101, 97, 100]), (ByteArray.mk #[119, 114, 105, 116, 101])] : List ByteArray), ([1, 2, 4] : List Int)⟩ : T_impl_Client), (⟨(ByteArray.mk #[116, 118]), ([] : List Int), ([] : List ByteArray), ([(ByteArray.mk #[114, 101, 97, 100])] : List ByteArray), ([3] : List Int)⟩ : T_impl_Client)] : List T_impl_Client).set (Int.toNat 0) ({ e24 with Kinds_ := ([5] : List Int) } : T_impl_Client)), r1, (IntKind.i64.wrap (10 + r4)), (IntKind.i64.wrap (30 + r7))⟩ : T_impl_Server), o13)) (some ((⟨([(⟨(ByteArray.mk #[97, 112, 112]), ([] : List Int), ([(ByteArray.mk #[104, 116, 116, 112, 115, 58, 47, 47, 97, 112, 112, 47, 99, 98]), (ByteArray.mk #[97, 112, 112, 58, 99, 98])] : List ByteArray), ([(ByteArray.mk #[109, 97, 105, 108]), (ByteArray.mk #[114, 101, 97, 100]), (ByteArray.mk #[119, 114, 105, 116, 101])] : List ByteArray), ([1, 2, 3] : List Int)⟩ : T_impl_Client), (⟨(ByteArray.mk #[115, 118, 99]), r10, ([(ByteArray.mk #[104, 116, 116, 112, 115, 58, 47, 47, 115, 118, 99, 47, 99, 98])] : List ByteArray), ([(ByteArray.mk #[114, 101, 97, 100]), (ByteArray.mk #[119, 114, 105, 116, 101])] : List ByteArray), ([1, 2, 4] : List Int)⟩ : T_impl_Client), (⟨(ByteArray.mk #[116, 118]), ([] : List Int), ([] : List ByteArray), ([(ByteArray.mk #[114, 101, 97, 100])] : List ByteArray), ([3] : List Int)⟩ : T_impl_Client)] : List T_impl_Client), r1, (IntKind.i64.wrap (10 + r4)), (IntKind.i64.wrap (30 + r7))⟩ : T_impl_Server), o13)))))))))
theorem spec_l1Cur_server_p (c0 : Bool) {s0 : T_spec_l1Cur} {R0 : T_impl_Server} {U0 : T_spec_l1Cur} (H : spec_l1Cur_server s0 = some (R0, U0)) : St Go.Proofs.Tryz.prog 15 [.bx 0 0] [.box (c_T_spec_l1Cur c0 s0)] (.agg (c_T_impl_Server false R0)) [.box (c_T_spec_l1Cur c0 U0)] := by
 refine CallT.fin (CallT.of_TN (n := 60) Go.Proofs.Tryz.func15 rfl rfl rfl rfl ?_) rfl rfl ⟨(bels_iff.1 rfl), trivial⟩
 refine T.seq (T.region (TL.st rfl rfl rfl (o_alloc rfl ⟨_, rfl, rfl⟩) (TL.nil (thn_normal (T.seq (T.region (TL.st rfl rfl rfl (o_move rfl rfl) ?_)))))))
 obtain ⟨⟨r1, o2⟩, h3, H⟩ := bind_s H
 refine TL.st rfl rfl rfl (o_callS [0] rfl en_29 rfl rfl (spec_l1Cur_bytes_p c0 h3) rfl (by decide) (.cons _ _ _ _ rfl .nil) rfl rfl rfl) ?_
 refine TL.st rfl rfl rfl (o_move rfl rfl) ?_
 obtain ⟨⟨r4, o5⟩, h6, H⟩ := bind_s H
 refine TL.st rfl rfl rfl (o_callS [0] rfl en_18 rfl rfl (spec_l1Cur_pick_p c0 h6) rfl (by decide) (.cons _ _ _ _ rfl .nil) rfl rfl rfl) ?_
 refine TL.st rfl rfl rfl (o_ari rfl rfl rfl rfl) (TL.st rfl rfl rfl (o_move rfl rfl) ?_)
 obtain ⟨⟨r7, o8⟩, h9, H⟩ := bind_s H
 refine TL.st rfl rfl rfl (o_callS [0] rfl en_18 rfl rfl (spec_l1Cur_pick_p c0 h9) rfl (by decide) (.cons _ _ _ _ rfl .nil) rfl rfl rfl) ?_
 refine TL.st rfl rfl rfl (o_ari rfl rfl rfl rfl) (TL.st rfl rfl rfl (o_build rfl ⟨_, fun _ => rfl, rfl⟩ rfl rfl rfl) ?_)
 refine TL.st rfl rfl rfl (o_alloc rfl ⟨_, rfl, rfl⟩) (TL.sn rfl rfl (o_storeBx rfl tyS_25 rfl rfl rfl rfl (Nat.le_of_ble_eq_true rfl) rfl) ?_)
 refine TL.nil (thn_normal (T.seq (T.conv (Cs.eqS (σ' := [.box (c_T_spec_l1Cur c0 o8), .box [.nilS, .nilS, .int .i64 0, .int .i64 0], .box [.nilS, .im false (r1.map (c_int .u8)), .int .i64 (IntKind.i64.wrap (10 + r4)), .int .i64 (IntKind.i64.wrap (30 + r7))]]) rfl) ?_)))
 refine T.region (TL.st rfl rfl rfl (o_sliceIm (rows := ([(ByteArray.mk #[104, 116, 116, 112, 115, 58, 47, 47, 97, 112, 112, 47, 99, 98]), (ByteArray.mk #[97, 112, 112, 58, 99, 98])] : List ByteArray).map (c_str)) rfl rfl tyS_9 ⟨_, rfl, rfl⟩ (by decide) rfl rfl rfl rfl rfl rfl) ?_)
 refine TL.st rfl rfl rfl (o_sliceIm (rows := ([(ByteArray.mk #[109, 97, 105, 108]), (ByteArray.mk #[114, 101, 97, 100]), (ByteArray.mk #[119, 114, 105, 116, 101])] : List ByteArray).map (c_str)) rfl rfl tyS_9 ⟨_, rfl, rfl⟩ (by decide) rfl rfl rfl rfl rfl rfl) ?_
 refine TL.st rfl rfl rfl (o_sliceIm (rows := ([1, 2, 3] : List Int).map (c_int .i64)) rfl rfl tyS_3 ⟨_, rfl, rfl⟩ (by decide) rfl rfl rfl rfl rfl rfl) ?_
 refine TL.st rfl rfl rfl (Does.wk (o_build rfl ⟨_, fun _ => rfl, rfl⟩ rfl rfl rfl) (.aggL (.cons _ _ _ _ (.same _) (.cons _ _ _ _ .nil (.cons _ _ _ _ (.same _) (.cons _ _ _ _ (.same _) (.cons _ _ _ _ (.same _) .nil))))))) ?_
 refine TL.st rfl rfl rfl (o_sliceHd (rows := ([115, 51, 99, 114, 101, 116] : List Int).map (c_int .u8)) .clo rfl rfl tyS_5 ⟨_, rfl, rfl⟩ (by decide) rfl rfl rfl rfl (by decide) (fun _ => rfl) (by decide) rfl (by decide)) ?_
 refine TL.st rfl rfl rfl (o_convOwn rfl rfl rfl rfl rfl rfl rfl) ?_
 obtain ⟨r10, h11, H⟩ := bind_s H
 refine TL.st rfl rfl rfl (o_callP rfl en_11 rfl rfl (.cons _ _ _ _ (.cl _ rfl) .nil) (spec_l2Digest_p false h11)) ?_
 refine TL.st rfl rfl rfl (o_sliceIm (rows := ([(ByteArray.mk #[104, 116, 116, 112, 115, 58, 47, 47, 115, 118, 99, 47, 99, 98])] : List ByteArray).map (c_str)) rfl rfl tyS_9 ⟨_, rfl, rfl⟩ (by decide) rfl rfl rfl rfl rfl rfl) ?_
 refine TL.st rfl rfl rfl (o_sliceIm (rows := ([(ByteArray.mk #[114, 101, 97, 100]), (ByteArray.mk #[119, 114, 105, 116, 101])] : List ByteArray).map (c_str)) rfl rfl tyS_9 ⟨_, rfl, rfl⟩ (by decide) rfl rfl rfl rfl rfl rfl) ?_
 refine TL.st rfl rfl rfl (o_sliceIm (rows := ([1, 2, 4] : List Int).map (c_int .i64)) rfl rfl tyS_3 ⟨_, rfl, rfl⟩ (by decide) rfl rfl rfl rfl rfl rfl) ?_
 refine TL.st rfl rfl rfl (o_build rfl ⟨_, fun _ => rfl, rfl⟩ rfl rfl rfl) ?_
 refine TL.st rfl rfl rfl (o_sliceIm (rows := ([(ByteArray.mk #[114, 101, 97, 100])] : List ByteArray).map (c_str)) rfl rfl tyS_9 ⟨_, rfl, rfl⟩ (by decide) rfl rfl rfl rfl rfl rfl) ?_
 refine TL.st rfl rfl rfl (o_sliceIm (rows := ([3] : List Int).map (c_int .i64)) rfl rfl tyS_3 ⟨_, rfl, rfl⟩ (by decide) rfl rfl rfl rfl rfl rfl) ?_
 refine TL.st rfl rfl rfl (Does.wk (o_build rfl ⟨_, fun _ => rfl, rfl⟩ rfl rfl rfl) (.aggL (.cons _ _ _ _ (.same _) (.cons _ _ _ _ .nil (.cons _ _ _ _ .nil (.cons _ _ _ _ (.same _) (.cons _ _ _ _ (.same _) .nil))))))) ?_
 refine TL.st rfl rfl rfl (o_sliceHd (rows := ([(⟨(ByteArray.mk #[97, 112, 112]), ([] : List Int), ([(ByteArray.mk #[104, 116, 116, 112, 115, 58, 47, 47, 97, 112, 112, 47, 99, 98]), (ByteArray.mk #[97, 112, 112, 58, 99, 98])] : List ByteArray), ([(ByteArray.mk #[109, 97, 105, 108]), (ByteArray.mk #[114, 101, 97, 100]), (ByteArray.mk #[119, 114, 105, 116, 101])] : List ByteArray), ([1, 2, 3] : List Int)⟩ : T_impl_Client), (⟨(ByteArray.mk #[115, 118, 99]), r10, ([(ByteArray.mk #[104, 116, 116, 112, 115, 58, 47, 47, 115, 118, 99, 47, 99, 98])] : List ByteArray), ([(ByteArray.mk #[114, 101, 97, 100]), (ByteArray.mk #[119, 114, 105, 116, 101])] : List ByteArray), ([1, 2, 4] : List Int)⟩ : T_impl_Client), (⟨(ByteArray.mk #[116, 118]), ([] : List Int), ([] : List ByteArray), ([(ByteArray.mk #[114, 101, 97, 100])] : List ByteArray), ([3] : List Int)⟩ : T_impl_Client)] : List T_impl_Client).map (c_T_impl_Client false)) .clo rfl rfl tyS_50 ⟨_, rfl, rfl⟩ (by decide) rfl rfl rfl rfl (by decide) (fun _ => rfl) (by decide) rfl (by decide)) ?_
 refine TL.st rfl rfl rfl (o_fieldAddr rfl rfl rfl tyS_23 (by decide) rfl rfl ⟨_, rfl, Nat.le_of_ble_eq_true rfl⟩) ?_
 refine TL.sn rfl rfl (o_storeBx rfl tyS_23 rfl rfl rfl rfl (Nat.le_of_ble_eq_true rfl) (sure_hd rfl rfl rfl)) ?_
 refine TL.nil (thn_normal (T.seq (T.seq (T.conv (Cs.eqS (σ' := [.box (c_T_spec_l1Cur c0 o8), .box [.nilS, .nilS, .int .i64 0, .int .i64 0], .box (k_impl_Server 4 false (⟨([(⟨(ByteArray.mk #[97, 112, 112]), ([] : List Int), ([(ByteArray.mk #[104, 116, 116, 112, 115, 58, 47, 47, 97, 112, 112, 47, 99, 98]), (ByteArray.mk #[97, 112, 112, 58, 99, 98])] : List ByteArray), ([(ByteArray.mk #[109, 97, 105, 108]), (ByteArray.mk #[114, 101, 97, 100]), (ByteArray.mk #[119, 114, 105, 116, 101])] : List ByteArray), ([1, 2, 3] : List Int)⟩ : T_impl_Client), (⟨(ByteArray.mk #[115, 118, 99]), r10, ([(ByteArray.mk #[104, 116, 116, 112, 115, 58, 47, 47, 115, 118, 99, 47, 99, 98])] : List ByteArray), ([(ByteArray.mk #[114, 101, 97, 100]), (ByteArray.mk #[119, 114, 105, 116, 101])] : List ByteArray), ([1, 2, 4] : List Int)⟩ : T_impl_Client), (⟨(ByteArray.mk #[116, 118]), ([] : List Int), ([] : List ByteArray), ([(ByteArray.mk #[114, 101, 97, 100])] : List ByteArray), ([3] : List Int)⟩ : T_impl_Client)] : List T_impl_Client), r1, (IntKind.i64.wrap (10 + r4)), (IntKind.i64.wrap (30 + r7))⟩ : T_impl_Server)), .dead, .arr .clo 5 (([(⟨(ByteArray.mk #[97, 112, 112]), ([] : List Int), ([(ByteArray.mk #[104, 116, 116, 112, 115, 58, 47, 47, 97, 112, 112, 47, 99, 98]), (ByteArray.mk #[97, 112, 112, 58, 99, 98])] : List ByteArray), ([(ByteArray.mk #[109, 97, 105, 108]), (ByteArray.mk #[114, 101, 97, 100]), (ByteArray.mk #[119, 114, 105, 116, 101])] : List ByteArray), ([1, 2, 3] : List Int)⟩ : T_impl_Client), (⟨(ByteArray.mk #[115, 118, 99]), r10, ([(ByteArray.mk #[104, 116, 116, 112, 115, 58, 47, 47, 115, 118, 99, 47, 99, 98])] : List ByteArray), ([(ByteArray.mk #[114, 101, 97, 100]), (ByteArray.mk #[119, 114, 105, 116, 101])] : List ByteArray), ([1, 2, 4] : List Int)⟩ : T_impl_Client), (⟨(ByteArray.mk #[116, 118]), ([] : List Int), ([] : List ByteArray), ([(ByteArray.mk #[114, 101, 97, 100])] : List ByteArray), ([3] : List Int)⟩ : T_impl_Client)] : List T_impl_Client).map (c_T_impl_Client false))]) rfl) ?_))))
 refine T.region (TL.st rfl rfl rfl (o_move rfl rfl) ?_)
 obtain ⟨⟨r12, o13⟩, h14, H⟩ := bind_s H
 refine TL.st rfl rfl rfl (o_callS [0] rfl en_18 rfl rfl (spec_l1Cur_pick_p c0 h14) rfl (by decide) (.cons _ _ _ _ rfl .nil) rfl rfl rfl) ?_
 refine TL.nil (thn_normal (T.block (T.seq (T.region (TL.st rfl rfl rfl (o_ari rfl rfl rfl rfl) (TL.st rfl rfl rfl (o_assign rfl rfl) (TL.nil (thn_normal ?_))))))))
 refine T.cond ((r12 == 0)) rfl (fun h => ?_) (fun h => ?_)
 ·replace H := cond_t h H
  refine T.region (TL.st rfl rfl rfl (o_sliceIm (rows := ([0, 1000000, 1000001] : List Int).map (c_int .i64)) rfl rfl tyS_3 ⟨_, rfl, rfl⟩ (by decide) rfl rfl rfl rfl rfl rfl) ?_)
  refine TL.st rfl rfl rfl (o_move rfl rfl) ?_
  obtain ⟨⟨r15, o16⟩, h17, H⟩ := bind_s H
  refine TL.st rfl rfl rfl (o_callS [0] rfl en_18 rfl rfl (spec_l1Cur_pick_p c0 h17) rfl (by decide) (.cons _ _ _ _ rfl .nil) rfl rfl rfl) ?_
  obtain ⟨e18, h19, H⟩ := bind_s H
  refine TL.st rfl rfl rfl (o_ix (f := c_int .i64) rfl rfl tyS_3 rfl rfl h19 rfl) ?_
  refine TL.st rfl rfl rfl (o_loadRf rfl tyS_3 rfl (Nat.le_of_ble_eq_true rfl) rfl) ?_
  refine TL.st rfl rfl rfl (o_fieldAddr rfl rfl rfl tyS_3 (by decide) rfl rfl ⟨_, rfl, Nat.le_of_ble_eq_true rfl⟩) ?_
  refine TL.sn rfl rfl (o_storeBx rfl tyS_3 rfl rfl rfl rfl (Nat.le_of_ble_eq_true rfl) rfl) ?_
  refine TL.nil (inB_normal (thn_normal (T.seq (T.conv (Cs.eqS (σ' := [.box (c_T_spec_l1Cur c0 o16), .box [.nilS, .nilS, .int .i64 0, .int .i64 0], .box (k_impl_Server 4 false (⟨([(⟨(ByteArray.mk #[97, 112, 112]), ([] : List Int), ([(ByteArray.mk #[104, 116, 116, 112, 115, 58, 47, 47, 97, 112, 112, 47, 99, 98]), (ByteArray.mk #[97, 112, 112, 58, 99, 98])] : List ByteArray), ([(ByteArray.mk #[109, 97, 105, 108]), (ByteArray.mk #[114, 101, 97, 100]), (ByteArray.mk #[119, 114, 105, 116, 101])] : List ByteArray), ([1, 2, 3] : List Int)⟩ : T_impl_Client), (⟨(ByteArray.mk #[115, 118, 99]), r10, ([(ByteArray.mk #[104, 116, 116, 112, 115, 58, 47, 47, 115, 118, 99, 47, 99, 98])] : List ByteArray), ([(ByteArray.mk #[114, 101, 97, 100]), (ByteArray.mk #[119, 114, 105, 116, 101])] : List ByteArray), ([1, 2, 4] : List Int)⟩ : T_impl_Client), (⟨(ByteArray.mk #[116, 118]), ([] : List Int), ([] : List ByteArray), ([(ByteArray.mk #[114, 101, 97, 100])] : List ByteArray), ([3] : List Int)⟩ : T_impl_Client)] : List T_impl_Client), r1, e18, (IntKind.i64.wrap (30 + r7))⟩ : T_impl_Server)), .dead, .arr .clo 5 (([(⟨(ByteArray.mk #[97, 112, 112]), ([] : List Int), ([(ByteArray.mk #[104, 116, 116, 112, 115, 58, 47, 47, 97, 112, 112, 47, 99, 98]), (ByteArray.mk #[97, 112, 112, 58, 99, 98])] : List ByteArray), ([(ByteArray.mk #[109, 97, 105, 108]), (ByteArray.mk #[114, 101, 97, 100]), (ByteArray.mk #[119, 114, 105, 116, 101])] : List ByteArray), ([1, 2, 3] : List Int)⟩ : T_impl_Client), (⟨(ByteArray.mk #[115, 118, 99]), r10, ([(ByteArray.mk #[104, 116, 116, 112, 115, 58, 47, 47, 115, 118, 99, 47, 99, 98])] : List ByteArray), ([(ByteArray.mk #[114, 101, 97, 100]), (ByteArray.mk #[119, 114, 105, 116, 101])] : List ByteArray), ([1, 2, 4] : List Int)⟩ : T_impl_Client), (⟨(ByteArray.mk #[116, 118]), ([] : List Int), ([] : List ByteArray), ([(ByteArray.mk #[114, 101, 97, 100])] : List ByteArray), ([3] : List Int)⟩ : T_impl_Client)] : List T_impl_Client).map (c_T_impl_Client false))]) rfl) ?_))))
  refine T.region (TL.st rfl rfl rfl (o_loadBx rfl tyS_25 rfl rfl (Nat.le_of_ble_eq_true rfl) rfl) ?_)
  refine TL.sn rfl rfl (o_storeBx rfl tyS_25 rfl rfl rfl rfl (Nat.le_of_ble_eq_true rfl) (sure_hd rfl rfl (sure_c rfl (sure_c rfl (sure_c rfl rfl))))) ?_
  refine TL.nil (thn_normal (T.conv (Cs.frzCell (p := 4) (q := 1) 0 rfl rfl rfl rfl rfl) ?_))
  refine T.ret ?_
  cases some_i H
  exact ⟨trivial, _, (.cell _ _ _ _ _ _ _ _ _ _ rfl rfl tyS_25 (Nat.le_of_ble_eq_true rfl) rfl .nil), ⟨rfl, _, rfl⟩⟩
 ·replace H := cond_f h H
  refine T.seq (T.region (TL.st rfl rfl rfl (o_ari rfl rfl rfl rfl) (TL.st rfl rfl rfl (o_assign rfl rfl) (TL.nil (thn_normal ?_)))))
  refine T.cond ((r12 == 1)) rfl (fun h => ?_) (fun h => ?_)
  ·replace H := cond_t h H
   refine T.region (TL.st rfl rfl rfl (o_fieldAddr rfl rfl rfl tyS_23 (by decide) rfl rfl ⟨_, rfl, Nat.le_of_ble_eq_true rfl⟩) ?_)
   refine TL.st rfl rfl rfl (o_loadBx rfl tyS_23 rfl rfl (Nat.le_of_ble_eq_true rfl) rfl) ?_
   obtain ⟨e20, h21, H⟩ := bind_s H
   refine TL.st rfl rfl rfl (o_ixh (f := c_T_impl_Client false) rfl rfl tyS_50 rfl rfl rfl rfl h21 rfl) ?_
   refine TL.st rfl rfl rfl (o_fieldAddrEl rfl rfl rfl tyS_9 (by decide) rfl rfl rfl) ?_
   refine TL.sn rfl rfl (o_stEl (f := c_T_impl_Client false) (xs := ([(⟨(ByteArray.mk #[97, 112, 112]), ([] : List Int), ([(ByteArray.mk #[104, 116, 116, 112, 115, 58, 47, 47, 97, 112, 112, 47, 99, 98]), (ByteArray.mk #[97, 112, 112, 58, 99, 98])] : List ByteArray), ([(ByteArray.mk #[109, 97, 105, 108]), (ByteArray.mk #[114, 101, 97, 100]), (ByteArray.mk #[119, 114, 105, 116, 101])] : List ByteArray), ([1, 2, 3] : List Int)⟩ : T_impl_Client), (⟨(ByteArray.mk #[115, 118, 99]), r10, ([(ByteArray.mk #[104, 116, 116, 112, 115, 58, 47, 47, 115, 118, 99, 47, 99, 98])] : List ByteArray), ([(ByteArray.mk #[114, 101, 97, 100]), (ByteArray.mk #[119, 114, 105, 116, 101])] : List ByteArray), ([1, 2, 4] : List Int)⟩ : T_impl_Client), (⟨(ByteArray.mk #[116, 118]), ([] : List Int), ([] : List ByteArray), ([(ByteArray.mk #[114, 101, 97, 100])] : List ByteArray), ([3] : List Int)⟩ : T_impl_Client)] : List T_impl_Client)) (k := 0) (a := e20) ({ e20 with Id_ := (ByteArray.mk #[122, 101, 100]) } : T_impl_Client) rfl tyS_9 rfl rfl rfl rfl (by decide) h21 rfl rfl rfl (fun _ => rfl) rfl) ?_
   refine TL.conv (Cs.eqS (σ := [.box (c_T_spec_l1Cur c0 o13), .box [.nilS, .nilS, .int .i64 0, .int .i64 0], .box [.hd 4 (([(⟨(ByteArray.mk #[97, 112, 112]), ([] : List Int), ([(ByteArray.mk #[104, 116, 116, 112, 115, 58, 47, 47, 97, 112, 112, 47, 99, 98]), (ByteArray.mk #[97, 112, 112, 58, 99, 98])] : List ByteArray), ([(ByteArray.mk #[109, 97, 105, 108]), (ByteArray.mk #[114, 101, 97, 100]), (ByteArray.mk #[119, 114, 105, 116, 101])] : List ByteArray), ([1, 2, 3] : List Int)⟩ : T_impl_Client), (⟨(ByteArray.mk #[115, 118, 99]), r10, ([(ByteArray.mk #[104, 116, 116, 112, 115, 58, 47, 47, 115, 118, 99, 47, 99, 98])] : List ByteArray), ([(ByteArray.mk #[114, 101, 97, 100]), (ByteArray.mk #[119, 114, 105, 116, 101])] : List ByteArray), ([1, 2, 4] : List Int)⟩ : T_impl_Client), (⟨(ByteArray.mk #[116, 118]), ([] : List Int), ([] : List ByteArray), ([(ByteArray.mk #[114, 101, 97, 100])] : List ByteArray), ([3] : List Int)⟩ : T_impl_Client)] : List T_impl_Client).map (c_T_impl_Client false)).length 0 (([(⟨(ByteArray.mk #[97, 112, 112]), ([] : List Int), ([(ByteArray.mk #[104, 116, 116, 112, 115, 58, 47, 47, 97, 112, 112, 47, 99, 98]), (ByteArray.mk #[97, 112, 112, 58, 99, 98])] : List ByteArray), ([(ByteArray.mk #[109, 97, 105, 108]), (ByteArray.mk #[114, 101, 97, 100]), (ByteArray.mk #[119, 114, 105, 116, 101])] : List ByteArray), ([1, 2, 3] : List Int)⟩ : T_impl_Client), (⟨(ByteArray.mk #[115, 118, 99]), r10, ([(ByteArray.mk #[104, 116, 116, 112, 115, 58, 47, 47, 115, 118, 99, 47, 99, 98])] : List ByteArray), ([(ByteArray.mk #[114, 101, 97, 100]), (ByteArray.mk #[119, 114, 105, 116, 101])] : List ByteArray), ([1, 2, 4] : List Int)⟩ : T_impl_Client), (⟨(ByteArray.mk #[116, 118]), ([] : List Int), ([] : List ByteArray), ([(ByteArray.mk #[114, 101, 97, 100])] : List ByteArray), ([3] : List Int)⟩ : T_impl_Client)] : List T_impl_Client).map (c_T_impl_Client false)).length, .im false (r1.map (c_int .u8)), .int .i64 (IntKind.i64.wrap (10 + r4)), .int .i64 (IntKind.i64.wrap (30 + r7))], .dead, .arr .clo 5 ((([(⟨(ByteArray.mk #[97, 112, 112]), ([] : List Int), ([(ByteArray.mk #[104, 116, 116, 112, 115, 58, 47, 47, 97, 112, 112, 47, 99, 98]), (ByteArray.mk #[97, 112, 112, 58, 99, 98])] : List ByteArray), ([(ByteArray.mk #[109, 97, 105, 108]), (ByteArray.mk #[114, 101, 97, 100]), (ByteArray.mk #[119, 114, 105, 116, 101])] : List ByteArray), ([1, 2, 3] : List Int)⟩ : T_impl_Client), (⟨(ByteArray.mk #[115, 118, 99]), r10, ([(ByteArray.mk #[104, 116, 116, 112, 115, 58, 47, 47, 115, 118, 99, 47, 99, 98])] : List ByteArray), ([(ByteArray.mk #[114, 101, 97, 100]), (ByteArray.mk #[119, 114, 105, 116, 101])] : List ByteArray), ([1, 2, 4] : List Int)⟩ : T_impl_Client), (⟨(ByteArray.mk #[116, 118]), ([] : List Int), ([] : List ByteArray), ([(ByteArray.mk #[114, 101, 97, 100])] : List ByteArray), ([3] : List Int)⟩ : T_impl_Client)] : List T_impl_Client).set (Int.toNat 0) ({ e20 with Id_ := (ByteArray.mk #[122, 101, 100]) } : T_impl_Client)).map (c_T_impl_Client false))]) (σ' := [.box (c_T_spec_l1Cur c0 o13), .box [.nilS, .nilS, .int .i64 0, .int .i64 0], .box [.hd 4 ((([(⟨(ByteArray.mk #[97, 112, 112]), ([] : List Int), ([(ByteArray.mk #[104, 116, 116, 112, 115, 58, 47, 47, 97, 112, 112, 47, 99, 98]), (ByteArray.mk #[97, 112, 112, 58, 99, 98])] : List ByteArray), ([(ByteArray.mk #[109, 97, 105, 108]), (ByteArray.mk #[114, 101, 97, 100]), (ByteArray.mk #[119, 114, 105, 116, 101])] : List ByteArray), ([1, 2, 3] : List Int)⟩ : T_impl_Client), (⟨(ByteArray.mk #[115, 118, 99]), r10, ([(ByteArray.mk #[104, 116, 116, 112, 115, 58, 47, 47, 115, 118, 99, 47, 99, 98])] : List ByteArray), ([(ByteArray.mk #[114, 101, 97, 100]), (ByteArray.mk #[119, 114, 105, 116, 101])] : List ByteArray), ([1, 2, 4] : List Int)⟩ : T_impl_Client), (⟨(ByteArray.mk #[116, 118]), ([] : List Int), ([] : List ByteArray), ([(ByteArray.mk #[114, 101, 97, 100])] : List ByteArray), ([3] : List Int)⟩ : T_impl_Client)] : List T_impl_Client).set (Int.toNat 0) ({ e20 with Id_ := (ByteArray.mk #[122, 101, 100]) } : T_impl_Client)).map (c_T_impl_Client false)).length 0 ((([(⟨(ByteArray.mk #[97, 112, 112]), ([] : List Int), ([(ByteArray.mk #[104, 116, 116, 112, 115, 58, 47, 47, 97, 112, 112, 47, 99, 98]), (ByteArray.mk #[97, 112, 112, 58, 99, 98])] : List ByteArray), ([(ByteArray.mk #[109, 97, 105, 108]), (ByteArray.mk #[114, 101, 97, 100]), (ByteArray.mk #[119, 114, 105, 116, 101])] : List ByteArray), ([1, 2, 3] : List Int)⟩ : T_impl_Client), (⟨(ByteArray.mk #[115, 118, 99]), r10, ([(ByteArray.mk #[104, 116, 116, 112, 115, 58, 47, 47, 115, 118, 99, 47, 99, 98])] : List ByteArray), ([(ByteArray.mk #[114, 101, 97, 100]), (ByteArray.mk #[119, 114, 105, 116, 101])] : List ByteArray), ([1, 2, 4] : List Int)⟩ : T_impl_Client), (⟨(ByteArray.mk #[116, 118]), ([] : List Int), ([] : List ByteArray), ([(ByteArray.mk #[114, 101, 97, 100])] : List ByteArray), ([3] : List Int)⟩ : T_impl_Client)] : List T_impl_Client).set (Int.toNat 0) ({ e20 with Id_ := (ByteArray.mk #[122, 101, 100]) } : T_impl_Client)).map (c_T_impl_Client false)).length, .im false (r1.map (c_int .u8)), .int .i64 (IntKind.i64.wrap (10 + r4)), .int .i64 (IntKind.i64.wrap (30 + r7))], .dead, .arr .clo 5 ((([(⟨(ByteArray.mk #[97, 112, 112]), ([] : List Int), ([(ByteArray.mk #[104, 116, 116, 112, 115, 58, 47, 47, 97, 112, 112, 47, 99, 98]), (ByteArray.mk #[97, 112, 112, 58, 99, 98])] : List ByteArray), ([(ByteArray.mk #[109, 97, 105, 108]), (ByteArray.mk #[114, 101, 97, 100]), (ByteArray.mk #[119, 114, 105, 116, 101])] : List ByteArray), ([1, 2, 3] : List Int)⟩ : T_impl_Client), (⟨(ByteArray.mk #[115, 118, 99]), r10, ([(ByteArray.mk #[104, 116, 116, 112, 115, 58, 47, 47, 115, 118, 99, 47, 99, 98])] : List ByteArray), ([(ByteArray.mk #[114, 101, 97, 100]), (ByteArray.mk #[119, 114, 105, 116, 101])] : List ByteArray), ([1, 2, 4] : List Int)⟩ : T_impl_Client), (⟨(ByteArray.mk #[116, 118]), ([] : List Int), ([] : List ByteArray), ([(ByteArray.mk #[114, 101, 97, 100])] : List ByteArray), ([3] : List Int)⟩ : T_impl_Client)] : List T_impl_Client).set (Int.toNat 0) ({ e20 with Id_ := (ByteArray.mk #[122, 101, 100]) } : T_impl_Client)).map (c_T_impl_Client false))]) (by simp only [List.length_map, List.length_set])) ?_
   refine TL.conv (Cs.eqV (t := 27) (v' := .hd 4 ((([(⟨(ByteArray.mk #[97, 112, 112]), ([] : List Int), ([(ByteArray.mk #[104, 116, 116, 112, 115, 58, 47, 47, 97, 112, 112, 47, 99, 98]), (ByteArray.mk #[97, 112, 112, 58, 99, 98])] : List ByteArray), ([(ByteArray.mk #[109, 97, 105, 108]), (ByteArray.mk #[114, 101, 97, 100]), (ByteArray.mk #[119, 114, 105, 116, 101])] : List ByteArray), ([1, 2, 3] : List Int)⟩ : T_impl_Client), (⟨(ByteArray.mk #[115, 118, 99]), r10, ([(ByteArray.mk #[104, 116, 116, 112, 115, 58, 47, 47, 115, 118, 99, 47, 99, 98])] : List ByteArray), ([(ByteArray.mk #[114, 101, 97, 100]), (ByteArray.mk #[119, 114, 105, 116, 101])] : List ByteArray), ([1, 2, 4] : List Int)⟩ : T_impl_Client), (⟨(ByteArray.mk #[116, 118]), ([] : List Int), ([] : List ByteArray), ([(ByteArray.mk #[114, 101, 97, 100])] : List ByteArray), ([3] : List Int)⟩ : T_impl_Client)] : List T_impl_Client).set (Int.toNat 0) ({ e20 with Id_ := (ByteArray.mk #[122, 101, 100]) } : T_impl_Client)).map (c_T_impl_Client false)).length 0 ((([(⟨(ByteArray.mk #[97, 112, 112]), ([] : List Int), ([(ByteArray.mk #[104, 116, 116, 112, 115, 58, 47, 47, 97, 112, 112, 47, 99, 98]), (ByteArray.mk #[97, 112, 112, 58, 99, 98])] : List ByteArray), ([(ByteArray.mk #[109, 97, 105, 108]), (ByteArray.mk #[114, 101, 97, 100]), (ByteArray.mk #[119, 114, 105, 116, 101])] : List ByteArray), ([1, 2, 3] : List Int)⟩ : T_impl_Client), (⟨(ByteArray.mk #[115, 118, 99]), r10, ([(ByteArray.mk #[104, 116, 116, 112, 115, 58, 47, 47, 115, 118, 99, 47, 99, 98])] : List ByteArray), ([(ByteArray.mk #[114, 101, 97, 100]), (ByteArray.mk #[119, 114, 105, 116, 101])] : List ByteArray), ([1, 2, 4] : List Int)⟩ : T_impl_Client), (⟨(ByteArray.mk #[116, 118]), ([] : List Int), ([] : List ByteArray), ([(ByteArray.mk #[114, 101, 97, 100])] : List ByteArray), ([3] : List Int)⟩ : T_impl_Client)] : List T_impl_Client).set (Int.toNat 0) ({ e20 with Id_ := (ByteArray.mk #[122, 101, 100]) } : T_impl_Client)).map (c_T_impl_Client false)).length) rfl (rfl)) ?_
   refine TL.conv (Cs.eqV (t := 42) (v' := .hd 4 ((([(⟨(ByteArray.mk #[97, 112, 112]), ([] : List Int), ([(ByteArray.mk #[104, 116, 116, 112, 115, 58, 47, 47, 97, 112, 112, 47, 99, 98]), (ByteArray.mk #[97, 112, 112, 58, 99, 98])] : List ByteArray), ([(ByteArray.mk #[109, 97, 105, 108]), (ByteArray.mk #[114, 101, 97, 100]), (ByteArray.mk #[119, 114, 105, 116, 101])] : List ByteArray), ([1, 2, 3] : List Int)⟩ : T_impl_Client), (⟨(ByteArray.mk #[115, 118, 99]), r10, ([(ByteArray.mk #[104, 116, 116, 112, 115, 58, 47, 47, 115, 118, 99, 47, 99, 98])] : List ByteArray), ([(ByteArray.mk #[114, 101, 97, 100]), (ByteArray.mk #[119, 114, 105, 116, 101])] : List ByteArray), ([1, 2, 4] : List Int)⟩ : T_impl_Client), (⟨(ByteArray.mk #[116, 118]), ([] : List Int), ([] : List ByteArray), ([(ByteArray.mk #[114, 101, 97, 100])] : List ByteArray), ([3] : List Int)⟩ : T_impl_Client)] : List T_impl_Client).set (Int.toNat 0) ({ e20 with Id_ := (ByteArray.mk #[122, 101, 100]) } : T_impl_Client)).map (c_T_impl_Client false)).length 0 ((([(⟨(ByteArray.mk #[97, 112, 112]), ([] : List Int), ([(ByteArray.mk #[104, 116, 116, 112, 115, 58, 47, 47, 97, 112, 112, 47, 99, 98]), (ByteArray.mk #[97, 112, 112, 58, 99, 98])] : List ByteArray), ([(ByteArray.mk #[109, 97, 105, 108]), (ByteArray.mk #[114, 101, 97, 100]), (ByteArray.mk #[119, 114, 105, 116, 101])] : List ByteArray), ([1, 2, 3] : List Int)⟩ : T_impl_Client), (⟨(ByteArray.mk #[115, 118, 99]), r10, ([(ByteArray.mk #[104, 116, 116, 112, 115, 58, 47, 47, 115, 118, 99, 47, 99, 98])] : List ByteArray), ([(ByteArray.mk #[114, 101, 97, 100]), (ByteArray.mk #[119, 114, 105, 116, 101])] : List ByteArray), ([1, 2, 4] : List Int)⟩ : T_impl_Client), (⟨(ByteArray.mk #[116, 118]), ([] : List Int), ([] : List ByteArray), ([(ByteArray.mk #[114, 101, 97, 100])] : List ByteArray), ([3] : List Int)⟩ : T_impl_Client)] : List T_impl_Client).set (Int.toNat 0) ({ e20 with Id_ := (ByteArray.mk #[122, 101, 100]) } : T_impl_Client)).map (c_T_impl_Client false)).length) rfl (rfl)) ?_
   refine TL.nil (inB_normal (thn_normal (T.seq (T.region (TL.st rfl rfl rfl (o_loadBx rfl tyS_25 rfl rfl (Nat.le_of_ble_eq_true rfl) rfl) ?_)))))
   refine TL.sn rfl rfl (o_storeBx rfl tyS_25 rfl rfl rfl rfl (Nat.le_of_ble_eq_true rfl) (sure_hd rfl rfl (sure_c rfl (sure_c rfl (sure_c rfl rfl))))) ?_
   refine TL.nil (thn_normal (T.conv (Cs.eqS (σ' := [.box (c_T_spec_l1Cur c0 o13), .box (k_impl_Server 4 false (⟨(([(⟨(ByteArray.mk #[97, 112, 112]), ([] : List Int), ([(ByteArray.mk #[104, 116, 116, 112, 115, 58, 47, 47, 97, 112, 112, 47, 99, 98]), (ByteArray.mk #[97, 112, 112, 58, 99, 98])] : List ByteArray), ([(ByteArray.mk #[109, 97, 105, 108]), (ByteArray.mk #[114, 101, 97, 100]), (ByteArray.mk #[119, 114, 105, 116, 101])] : List ByteArray), ([1, 2, 3] : List Int)⟩ : T_impl_Client), (⟨(ByteArray.mk #[115, 118, 99]), r10, ([(ByteArray.mk #[104, 116, 116, 112, 115, 58, 47, 47, 115, 118, 99, 47, 99, 98])] : List ByteArray), ([(ByteArray.mk #[114, 101, 97, 100]), (ByteArray.mk #[119, 114, 105, 116, 101])] : List ByteArray), ([1, 2, 4] : List Int)⟩ : T_impl_Client), (⟨(ByteArray.mk #[116, 118]), ([] : List Int), ([] : List ByteArray), ([(ByteArray.mk #[114, 101, 97, 100])] : List ByteArray), ([3] : List Int)⟩ : T_impl_Client)] : List T_impl_Client).set (Int.toNat 0) ({ e20 with Id_ := (ByteArray.mk #[122, 101, 100]) } : T_impl_Client)), r1, (IntKind.i64.wrap (10 + r4)), (IntKind.i64.wrap (30 + r7))⟩ : T_impl_Server)), .box (k_impl_Server 4 false (⟨(([(⟨(ByteArray.mk #[97, 112, 112]), ([] : List Int), ([(ByteArray.mk #[104, 116, 116, 112, 115, 58, 47, 47, 97, 112, 112, 47, 99, 98]), (ByteArray.mk #[97, 112, 112, 58, 99, 98])] : List ByteArray), ([(ByteArray.mk #[109, 97, 105, 108]), (ByteArray.mk #[114, 101, 97, 100]), (ByteArray.mk #[119, 114, 105, 116, 101])] : List ByteArray), ([1, 2, 3] : List Int)⟩ : T_impl_Client), (⟨(ByteArray.mk #[115, 118, 99]), r10, ([(ByteArray.mk #[104, 116, 116, 112, 115, 58, 47, 47, 115, 118, 99, 47, 99, 98])] : List ByteArray), ([(ByteArray.mk #[114, 101, 97, 100]), (ByteArray.mk #[119, 114, 105, 116, 101])] : List ByteArray), ([1, 2, 4] : List Int)⟩ : T_impl_Client), (⟨(ByteArray.mk #[116, 118]), ([] : List Int), ([] : List ByteArray), ([(ByteArray.mk #[114, 101, 97, 100])] : List ByteArray), ([3] : List Int)⟩ : T_impl_Client)] : List T_impl_Client).set (Int.toNat 0) ({ e20 with Id_ := (ByteArray.mk #[122, 101, 100]) } : T_impl_Client)), r1, (IntKind.i64.wrap (10 + r4)), (IntKind.i64.wrap (30 + r7))⟩ : T_impl_Server)), .dead, .arr .clo 5 ((([(⟨(ByteArray.mk #[97, 112, 112]), ([] : List Int), ([(ByteArray.mk #[104, 116, 116, 112, 115, 58, 47, 47, 97, 112, 112, 47, 99, 98]), (ByteArray.mk #[97, 112, 112, 58, 99, 98])] : List ByteArray), ([(ByteArray.mk #[109, 97, 105, 108]), (ByteArray.mk #[114, 101, 97, 100]), (ByteArray.mk #[119, 114, 105, 116, 101])] : List ByteArray), ([1, 2, 3] : List Int)⟩ : T_impl_Client), (⟨(ByteArray.mk #[115, 118, 99]), r10, ([(ByteArray.mk #[104, 116, 116, 112, 115, 58, 47, 47, 115, 118, 99, 47, 99, 98])] : List ByteArray), ([(ByteArray.mk #[114, 101, 97, 100]), (ByteArray.mk #[119, 114, 105, 116, 101])] : List ByteArray), ([1, 2, 4] : List Int)⟩ : T_impl_Client), (⟨(ByteArray.mk #[116, 118]), ([] : List Int), ([] : List ByteArray), ([(ByteArray.mk #[114, 101, 97, 100])] : List ByteArray), ([3] : List Int)⟩ : T_impl_Client)] : List T_impl_Client).set (Int.toNat 0) ({ e20 with Id_ := (ByteArray.mk #[122, 101, 100]) } : T_impl_Client)).map (c_T_impl_Client false))]) rfl) ?_))
   refine T.conv (Cs.frzCell (p := 4) (q := 1) 0 rfl rfl rfl rfl rfl) ?_
   refine T.ret ?_
   cases some_i H
   exact ⟨trivial, _, (.cell _ _ _ _ _ _ _ _ _ _ rfl rfl tyS_25 (Nat.le_of_ble_eq_true rfl) rfl .nil), ⟨rfl, _, rfl⟩⟩
  ·replace H := cond_f h H
   refine T.seq (T.region (TL.st rfl rfl rfl (o_ari rfl rfl rfl rfl) (TL.st rfl rfl rfl (o_assign rfl rfl) (TL.nil (thn_normal ?_)))))
   refine T.cond ((r12 == 2)) rfl (fun h => ?_) (fun h => ?_)
   ·replace H := cond_t h H
    refine T.region (TL.st rfl rfl rfl (o_fieldAddr rfl rfl rfl tyS_23 (by decide) rfl rfl ⟨_, rfl, Nat.le_of_ble_eq_true rfl⟩) ?_)
    refine TL.st rfl rfl rfl (o_loadBx rfl tyS_23 rfl rfl (Nat.le_of_ble_eq_true rfl) rfl) ?_
    refine TL.st rfl rfl rfl (o_sliceIm (rows := ([1] : List Int).map (c_int .u8)) rfl rfl tyS_5 ⟨_, rfl, rfl⟩ (by decide) rfl rfl rfl rfl rfl rfl) ?_
    obtain ⟨e22, h23, H⟩ := bind_s H
    refine TL.st rfl rfl rfl (o_ixh (f := c_T_impl_Client false) rfl rfl tyS_50 rfl rfl rfl rfl h23 rfl) ?_
    refine TL.st rfl rfl rfl (o_fieldAddrEl rfl rfl rfl tyS_22 (by decide) rfl rfl rfl) ?_
    refine TL.sn rfl rfl (o_stEl (f := c_T_impl_Client false) (xs := ([(⟨(ByteArray.mk #[97, 112, 112]), ([] : List Int), ([(ByteArray.mk #[104, 116, 116, 112, 115, 58, 47, 47, 97, 112, 112, 47, 99, 98]), (ByteArray.mk #[97, 112, 112, 58, 99, 98])] : List ByteArray), ([(ByteArray.mk #[109, 97, 105, 108]), (ByteArray.mk #[114, 101, 97, 100]), (ByteArray.mk #[119, 114, 105, 116, 101])] : List ByteArray), ([1, 2, 3] : List Int)⟩ : T_impl_Client), (⟨(ByteArray.mk #[115, 118, 99]), r10, ([(ByteArray.mk #[104, 116, 116, 112, 115, 58, 47, 47, 115, 118, 99, 47, 99, 98])] : List ByteArray), ([(ByteArray.mk #[114, 101, 97, 100]), (ByteArray.mk #[119, 114, 105, 116, 101])] : List ByteArray), ([1, 2, 4] : List Int)⟩ : T_impl_Client), (⟨(ByteArray.mk #[116, 118]), ([] : List Int), ([] : List ByteArray), ([(ByteArray.mk #[114, 101, 97, 100])] : List ByteArray), ([3] : List Int)⟩ : T_impl_Client)] : List T_impl_Client)) (k := 1) (a := e22) ({ e22 with Secret_ := ([1] : List Int) } : T_impl_Client) rfl tyS_22 rfl rfl rfl rfl (by decide) h23 rfl rfl rfl (fun _ => rfl) rfl) ?_
    refine TL.conv (Cs.eqS (σ := [.box (c_T_spec_l1Cur c0 o13), .box [.nilS, .nilS, .int .i64 0, .int .i64 0], .box [.hd 4 (([(⟨(ByteArray.mk #[97, 112, 112]), ([] : List Int), ([(ByteArray.mk #[104, 116, 116, 112, 115, 58, 47, 47, 97, 112, 112, 47, 99, 98]), (ByteArray.mk #[97, 112, 112, 58, 99, 98])] : List ByteArray), ([(ByteArray.mk #[109, 97, 105, 108]), (ByteArray.mk #[114, 101, 97, 100]), (ByteArray.mk #[119, 114, 105, 116, 101])] : List ByteArray), ([1, 2, 3] : List Int)⟩ : T_impl_Client), (⟨(ByteArray.mk #[115, 118, 99]), r10, ([(ByteArray.mk #[104, 116, 116, 112, 115, 58, 47, 47, 115, 118, 99, 47, 99, 98])] : List ByteArray), ([(ByteArray.mk #[114, 101, 97, 100]), (ByteArray.mk #[119, 114, 105, 116, 101])] : List ByteArray), ([1, 2, 4] : List Int)⟩ : T_impl_Client), (⟨(ByteArray.mk #[116, 118]), ([] : List Int), ([] : List ByteArray), ([(ByteArray.mk #[114, 101, 97, 100])] : List ByteArray), ([3] : List Int)⟩ : T_impl_Client)] : List T_impl_Client).map (c_T_impl_Client false)).length 0 (([(⟨(ByteArray.mk #[97, 112, 112]), ([] : List Int), ([(ByteArray.mk #[104, 116, 116, 112, 115, 58, 47, 47, 97, 112, 112, 47, 99, 98]), (ByteArray.mk #[97, 112, 112, 58, 99, 98])] : List ByteArray), ([(ByteArray.mk #[109, 97, 105, 108]), (ByteArray.mk #[114, 101, 97, 100]), (ByteArray.mk #[119, 114, 105, 116, 101])] : List ByteArray), ([1, 2, 3] : List Int)⟩ : T_impl_Client), (⟨(ByteArray.mk #[115, 118, 99]), r10, ([(ByteArray.mk #[104, 116, 116, 112, 115, 58, 47, 47, 115, 118, 99, 47, 99, 98])] : List ByteArray), ([(ByteArray.mk #[114, 101, 97, 100]), (ByteArray.mk #[119, 114, 105, 116, 101])] : List ByteArray), ([1, 2, 4] : List Int)⟩ : T_impl_Client), (⟨(ByteArray.mk #[116, 118]), ([] : List Int), ([] : List ByteArray), ([(ByteArray.mk #[114, 101, 97, 100])] : List ByteArray), ([3] : List Int)⟩ : T_impl_Client)] : List T_impl_Client).map (c_T_impl_Client false)).length, .im false (r1.map (c_int .u8)), .int .i64 (IntKind.i64.wrap (10 + r4)), .int .i64 (IntKind.i64.wrap (30 + r7))], .dead, .arr .clo 5 ((([(⟨(ByteArray.mk #[97, 112, 112]), ([] : List Int), ([(ByteArray.mk #[104, 116, 116, 112, 115, 58, 47, 47, 97, 112, 112, 47, 99, 98]), (ByteArray.mk #[97, 112, 112, 58, 99, 98])] : List ByteArray), ([(ByteArray.mk #[109, 97, 105, 108]), (ByteArray.mk #[114, 101, 97, 100]), (ByteArray.mk #[119, 114, 105, 116, 101])] : List ByteArray), ([1, 2, 3] : List Int)⟩ : T_impl_Client), (⟨(ByteArray.mk #[115, 118, 99]), r10, ([(ByteArray.mk #[104, 116, 116, 112, 115, 58, 47, 47, 115, 118, 99, 47, 99, 98])] : List ByteArray), ([(ByteArray.mk #[114, 101, 97, 100]), (ByteArray.mk #[119, 114, 105, 116, 101])] : List ByteArray), ([1, 2, 4] : List Int)⟩ : T_impl_Client), (⟨(ByteArray.mk #[116, 118]), ([] : List Int), ([] : List ByteArray), ([(ByteArray.mk #[114, 101, 97, 100])] : List ByteArray), ([3] : List Int)⟩ : T_impl_Client)] : List T_impl_Client).set (Int.toNat 1) ({ e22 with Secret_ := ([1] : List Int) } : T_impl_Client)).map (c_T_impl_Client false))]) (σ' := [.box (c_T_spec_l1Cur c0 o13), .box [.nilS, .nilS, .int .i64 0, .int .i64 0], .box [.hd 4 ((([(⟨(ByteArray.mk #[97, 112, 112]), ([] : List Int), ([(ByteArray.mk #[104, 116, 116, 112, 115, 58, 47, 47, 97, 112, 112, 47, 99, 98]), (ByteArray.mk #[97, 112, 112, 58, 99, 98])] : List ByteArray), ([(ByteArray.mk #[109, 97, 105, 108]), (ByteArray.mk #[114, 101, 97, 100]), (ByteArray.mk #[119, 114, 105, 116, 101])] : List ByteArray), ([1, 2, 3] : List Int)⟩ : T_impl_Client), (⟨(ByteArray.mk #[115, 118, 99]), r10, ([(ByteArray.mk #[104, 116, 116, 112, 115, 58, 47, 47, 115, 118, 99, 47, 99, 98])] : List ByteArray), ([(ByteArray.mk #[114, 101, 97, 100]), (ByteArray.mk #[119, 114, 105, 116, 101])] : List ByteArray), ([1, 2, 4] : List Int)⟩ : T_impl_Client), (⟨(ByteArray.mk #[116, 118]), ([] : List Int), ([] : List ByteArray), ([(ByteArray.mk #[114, 101, 97, 100])] : List ByteArray), ([3] : List Int)⟩ : T_impl_Client)] : List T_impl_Client).set (Int.toNat 1) ({ e22 with Secret_ := ([1] : List Int) } : T_impl_Client)).map (c_T_impl_Client false)).length 0 ((([(⟨(ByteArray.mk #[97, 112, 112]), ([] : List Int), ([(ByteArray.mk #[104, 116, 116, 112, 115, 58, 47, 47, 97, 112, 112, 47, 99, 98]), (ByteArray.mk #[97, 112, 112, 58, 99, 98])] : List ByteArray), ([(ByteArray.mk #[109, 97, 105, 108]), (ByteArray.mk #[114, 101, 97, 100]), (ByteArray.mk #[119, 114, 105, 116, 101])] : List ByteArray), ([1, 2, 3] : List Int)⟩ : T_impl_Client), (⟨(ByteArray.mk #[115, 118, 99]), r10, ([(ByteArray.mk #[104, 116, 116, 112, 115, 58, 47, 47, 115, 118, 99, 47, 99, 98])] : List ByteArray), ([(ByteArray.mk #[114, 101, 97, 100]), (ByteArray.mk #[119, 114, 105, 116, 101])] : List ByteArray), ([1, 2, 4] : List Int)⟩ : T_impl_Client), (⟨(ByteArray.mk #[116, 118]), ([] : List Int), ([] : List ByteArray), ([(ByteArray.mk #[114, 101, 97, 100])] : List ByteArray), ([3] : List Int)⟩ : T_impl_Client)] : List T_impl_Client).set (Int.toNat 1) ({ e22 with Secret_ := ([1] : List Int) } : T_impl_Client)).map (c_T_impl_Client false)).length, .im false (r1.map (c_int .u8)), .int .i64 (IntKind.i64.wrap (10 + r4)), .int .i64 (IntKind.i64.wrap (30 + r7))], .dead, .arr .clo 5 ((([(⟨(ByteArray.mk #[97, 112, 112]), ([] : List Int), ([(ByteArray.mk #[104, 116, 116, 112, 115, 58, 47, 47, 97, 112, 112, 47, 99, 98]), (ByteArray.mk #[97, 112, 112, 58, 99, 98])] : List ByteArray), ([(ByteArray.mk #[109, 97, 105, 108]), (ByteArray.mk #[114, 101, 97, 100]), (ByteArray.mk #[119, 114, 105, 116, 101])] : List ByteArray), ([1, 2, 3] : List Int)⟩ : T_impl_Client), (⟨(ByteArray.mk #[115, 118, 99]), r10, ([(ByteArray.mk #[104, 116, 116, 112, 115, 58, 47, 47, 115, 118, 99, 47, 99, 98])] : List ByteArray), ([(ByteArray.mk #[114, 101, 97, 100]), (ByteArray.mk #[119, 114, 105, 116, 101])] : List ByteArray), ([1, 2, 4] : List Int)⟩ : T_impl_Client), (⟨(ByteArray.mk #[116, 118]), ([] : List Int), ([] : List ByteArray), ([(ByteArray.mk #[114, 101, 97, 100])] : List ByteArray), ([3] : List Int)⟩ : T_impl_Client)] : List T_impl_Client).set (Int.toNat 1) ({ e22 with Secret_ := ([1] : List Int) } : T_impl_Client)).map (c_T_impl_Client false))]) (by simp only [List.length_map, List.length_set])) ?_
    refine TL.conv (Cs.eqV (t := 27) (v' := .hd 4 ((([(⟨(ByteArray.mk #[97, 112, 112]), ([] : List Int), ([(ByteArray.mk #[104, 116, 116, 112, 115, 58, 47, 47, 97, 112, 112, 47, 99, 98]), (ByteArray.mk #[97, 112, 112, 58, 99, 98])] : List ByteArray), ([(ByteArray.mk #[109, 97, 105, 108]), (ByteArray.mk #[114, 101, 97, 100]), (ByteArray.mk #[119, 114, 105, 116, 101])] : List ByteArray), ([1, 2, 3] : List Int)⟩ : T_impl_Client), (⟨(ByteArray.mk #[115, 118, 99]), r10, ([(ByteArray.mk #[104, 116, 116, 112, 115, 58, 47, 47, 115, 118, 99, 47, 99, 98])] : List ByteArray), ([(ByteArray.mk #[114, 101, 97, 100]), (ByteArray.mk #[119, 114, 105, 116, 101])] : List ByteArray), ([1, 2, 4] : List Int)⟩ : T_impl_Client), (⟨(ByteArray.mk #[116, 118]), ([] : List Int), ([] : List ByteArray), ([(ByteArray.mk #[114, 101, 97, 100])] : List ByteArray), ([3] : List Int)⟩ : T_impl_Client)] : List T_impl_Client).set (Int.toNat 1) ({ e22 with Secret_ := ([1] : List Int) } : T_impl_Client)).map (c_T_impl_Client false)).length 0 ((([(⟨(ByteArray.mk #[97, 112, 112]), ([] : List Int), ([(ByteArray.mk #[104, 116, 116, 112, 115, 58, 47, 47, 97, 112, 112, 47, 99, 98]), (ByteArray.mk #[97, 112, 112, 58, 99, 98])] : List ByteArray), ([(ByteArray.mk #[109, 97, 105, 108]), (ByteArray.mk #[114, 101, 97, 100]), (ByteArray.mk #[119, 114, 105, 116, 101])] : List ByteArray), ([1, 2, 3] : List Int)⟩ : T_impl_Client), (⟨(ByteArray.mk #[115, 118, 99]), r10, ([(ByteArray.mk #[104, 116, 116, 112, 115, 58, 47, 47, 115, 118, 99, 47, 99, 98])] : List ByteArray), ([(ByteArray.mk #[114, 101, 97, 100]), (ByteArray.mk #[119, 114, 105, 116, 101])] : List ByteArray), ([1, 2, 4] : List Int)⟩ : T_impl_Client), (⟨(ByteArray.mk #[116, 118]), ([] : List Int), ([] : List ByteArray), ([(ByteArray.mk #[114, 101, 97, 100])] : List ByteArray), ([3] : List Int)⟩ : T_impl_Client)] : List T_impl_Client).set (Int.toNat 1) ({ e22 with Secret_ := ([1] : List Int) } : T_impl_Client)).map (c_T_impl_Client false)).length) rfl (rfl)) ?_
    refine TL.conv (Cs.eqV (t := 48) (v' := .hd 4 ((([(⟨(ByteArray.mk #[97, 112, 112]), ([] : List Int), ([(ByteArray.mk #[104, 116, 116, 112, 115, 58, 47, 47, 97, 112, 112, 47, 99, 98]), (ByteArray.mk #[97, 112, 112, 58, 99, 98])] : List ByteArray), ([(ByteArray.mk #[109, 97, 105, 108]), (ByteArray.mk #[114, 101, 97, 100]), (ByteArray.mk #[119, 114, 105, 116, 101])] : List ByteArray), ([1, 2, 3] : List Int)⟩ : T_impl_Client), (⟨(ByteArray.mk #[115, 118, 99]), r10, ([(ByteArray.mk #[104, 116, 116, 112, 115, 58, 47, 47, 115, 118, 99, 47, 99, 98])] : List ByteArray), ([(ByteArray.mk #[114, 101, 97, 100]), (ByteArray.mk #[119, 114, 105, 116, 101])] : List ByteArray), ([1, 2, 4] : List Int)⟩ : T_impl_Client), (⟨(ByteArray.mk #[116, 118]), ([] : List Int), ([] : List ByteArray), ([(ByteArray.mk #[114, 101, 97, 100])] : List ByteArray), ([3] : List Int)⟩ : T_impl_Client)] : List T_impl_Client).set (Int.toNat 1) ({ e22 with Secret_ := ([1] : List Int) } : T_impl_Client)).map (c_T_impl_Client false)).length 0 ((([(⟨(ByteArray.mk #[97, 112, 112]), ([] : List Int), ([(ByteArray.mk #[104, 116, 116, 112, 115, 58, 47, 47, 97, 112, 112, 47, 99, 98]), (ByteArray.mk #[97, 112, 112, 58, 99, 98])] : List ByteArray), ([(ByteArray.mk #[109, 97, 105, 108]), (ByteArray.mk #[114, 101, 97, 100]), (ByteArray.mk #[119, 114, 105, 116, 101])] : List ByteArray), ([1, 2, 3] : List Int)⟩ : T_impl_Client), (⟨(ByteArray.mk #[115, 118, 99]), r10, ([(ByteArray.mk #[104, 116, 116, 112, 115, 58, 47, 47, 115, 118, 99, 47, 99, 98])] : List ByteArray), ([(ByteArray.mk #[114, 101, 97, 100]), (ByteArray.mk #[119, 114, 105, 116, 101])] : List ByteArray), ([1, 2, 4] : List Int)⟩ : T_impl_Client), (⟨(ByteArray.mk #[116, 118]), ([] : List Int), ([] : List ByteArray), ([(ByteArray.mk #[114, 101, 97, 100])] : List ByteArray), ([3] : List Int)⟩ : T_impl_Client)] : List T_impl_Client).set (Int.toNat 1) ({ e22 with Secret_ := ([1] : List Int) } : T_impl_Client)).map (c_T_impl_Client false)).length) rfl (rfl)) ?_
    refine TL.nil (inB_normal (thn_normal (T.seq (T.region (TL.st rfl rfl rfl (o_loadBx rfl tyS_25 rfl rfl (Nat.le_of_ble_eq_true rfl) rfl) ?_)))))
    refine TL.sn rfl rfl (o_storeBx rfl tyS_25 rfl rfl rfl rfl (Nat.le_of_ble_eq_true rfl) (sure_hd rfl rfl (sure_c rfl (sure_c rfl (sure_c rfl rfl))))) ?_
    refine TL.nil (thn_normal (T.conv (Cs.eqS (σ' := [.box (c_T_spec_l1Cur c0 o13), .box (k_impl_Server 4 false (⟨(([(⟨(ByteArray.mk #[97, 112, 112]), ([] : List Int), ([(ByteArray.mk #[104, 116, 116, 112, 115, 58, 47, 47, 97, 112, 112, 47, 99, 98]), (ByteArray.mk #[97, 112, 112, 58, 99, 98])] : List ByteArray), ([(ByteArray.mk #[109, 97, 105, 108]), (ByteArray.mk #[114, 101, 97, 100]), (ByteArray.mk #[119, 114, 105, 116, 101])] : List ByteArray), ([1, 2, 3] : List Int)⟩ : T_impl_Client), (⟨(ByteArray.mk #[115, 118, 99]), r10, ([(ByteArray.mk #[104, 116, 116, 112, 115, 58, 47, 47, 115, 118, 99, 47, 99, 98])] : List ByteArray), ([(ByteArray.mk #[114, 101, 97, 100]), (ByteArray.mk #[119, 114, 105, 116, 101])] : List ByteArray), ([1, 2, 4] : List Int)⟩ : T_impl_Client), (⟨(ByteArray.mk #[116, 118]), ([] : List Int), ([] : List ByteArray), ([(ByteArray.mk #[114, 101, 97, 100])] : List ByteArray), ([3] : List Int)⟩ : T_impl_Client)] : List T_impl_Client).set (Int.toNat 1) ({ e22 with Secret_ := ([1] : List Int) } : T_impl_Client)), r1, (IntKind.i64.wrap (10 + r4)), (IntKind.i64.wrap (30 + r7))⟩ : T_impl_Server)), .box (k_impl_Server 4 false (⟨(([(⟨(ByteArray.mk #[97, 112, 112]), ([] : List Int), ([(ByteArray.mk #[104, 116, 116, 112, 115, 58, 47, 47, 97, 112, 112, 47, 99, 98]), (ByteArray.mk #[97, 112, 112, 58, 99, 98])] : List ByteArray), ([(ByteArray.mk #[109, 97, 105, 108]), (ByteArray.mk #[114, 101, 97, 100]), (ByteArray.mk #[119, 114, 105, 116, 101])] : List ByteArray), ([1, 2, 3] : List Int)⟩ : T_impl_Client), (⟨(ByteArray.mk #[115, 118, 99]), r10, ([(ByteArray.mk #[104, 116, 116, 112, 115, 58, 47, 47, 115, 118, 99, 47, 99, 98])] : List ByteArray), ([(ByteArray.mk #[114, 101, 97, 100]), (ByteArray.mk #[119, 114, 105, 116, 101])] : List ByteArray), ([1, 2, 4] : List Int)⟩ : T_impl_Client), (⟨(ByteArray.mk #[116, 118]), ([] : List Int), ([] : List ByteArray), ([(ByteArray.mk #[114, 101, 97, 100])] : List ByteArray), ([3] : List Int)⟩ : T_impl_Client)] : List T_impl_Client).set (Int.toNat 1) ({ e22 with Secret_ := ([1] : List Int) } : T_impl_Client)), r1, (IntKind.i64.wrap (10 + r4)), (IntKind.i64.wrap (30 + r7))⟩ : T_impl_Server)), .dead, .arr .clo 5 ((([(⟨(ByteArray.mk #[97, 112, 112]), ([] : List Int), ([(ByteArray.mk #[104, 116, 116, 112, 115, 58, 47, 47, 97, 112, 112, 47, 99, 98]), (ByteArray.mk #[97, 112, 112, 58, 99, 98])] : List ByteArray), ([(ByteArray.mk #[109, 97, 105, 108]), (ByteArray.mk #[114, 101, 97, 100]), (ByteArray.mk #[119, 114, 105, 116, 101])] : List ByteArray), ([1, 2, 3] : List Int)⟩ : T_impl_Client), (⟨(ByteArray.mk #[115, 118, 99]), r10, ([(ByteArray.mk #[104, 116, 116, 112, 115, 58, 47, 47, 115, 118, 99, 47, 99, 98])] : List ByteArray), ([(ByteArray.mk #[114, 101, 97, 100]), (ByteArray.mk #[119, 114, 105, 116, 101])] : List ByteArray), ([1, 2, 4] : List Int)⟩ : T_impl_Client), (⟨(ByteArray.mk #[116, 118]), ([] : List Int), ([] : List ByteArray), ([(ByteArray.mk #[114, 101, 97, 100])] : List ByteArray), ([3] : List Int)⟩ : T_impl_Client)] : List T_impl_Client).set (Int.toNat 1) ({ e22 with Secret_ := ([1] : List Int) } : T_impl_Client)).map (c_T_impl_Client false))]) rfl) ?_))
    refine T.conv (Cs.frzCell (p := 4) (q := 1) 0 rfl rfl rfl rfl rfl) ?_
    refine T.ret ?_
    cases some_i H
    exact ⟨trivial, _, (.cell _ _ _ _ _ _ _ _ _ _ rfl rfl tyS_25 (Nat.le_of_ble_eq_true rfl) rfl .nil), ⟨rfl, _, rfl⟩⟩
   ·replace H := cond_f h H
    refine T.seq (T.region (TL.st rfl rfl rfl (o_ari rfl rfl rfl rfl) (TL.st rfl rfl rfl (o_assign rfl rfl) (TL.nil (thn_normal ?_)))))
    refine T.cond ((r12 == 3)) rfl (fun h => ?_) (fun h => ?_)
    ·replace H := cond_t h H
     refine T.region (TL.st rfl rfl rfl (o_fieldAddr rfl rfl rfl tyS_23 (by decide) rfl rfl ⟨_, rfl, Nat.le_of_ble_eq_true rfl⟩) ?_)
     refine TL.st rfl rfl rfl (o_loadBx rfl tyS_23 rfl rfl (Nat.le_of_ble_eq_true rfl) rfl) ?_
     refine TL.st rfl rfl rfl (o_sliceIm (rows := ([5] : List Int).map (c_int .i64)) rfl rfl tyS_3 ⟨_, rfl, rfl⟩ (by decide) rfl rfl rfl rfl rfl rfl) ?_
     obtain ⟨e24, h25, H⟩ := bind_s H
     refine TL.st rfl rfl rfl (o_ixh (f := c_T_impl_Client false) rfl rfl tyS_50 rfl rfl rfl rfl h25 rfl) ?_
     refine TL.st rfl rfl rfl (o_fieldAddrEl rfl rfl rfl tyS_29 (by decide) rfl rfl rfl) ?_
     refine TL.sn rfl rfl (o_stEl (f := c_T_impl_Client false) (xs := ([(⟨(ByteArray.mk #[97, 112, 112]), ([] : List Int), ([(ByteArray.mk #[104, 116, 116, 112, 115, 58, 47, 47, 97, 112, 112, 47, 99, 98]), (ByteArray.mk #[97, 112, 112, 58, 99, 98])] : List ByteArray), ([(ByteArray.mk #[109, 97, 105, 108]), (ByteArray.mk #[114, 101, 97, 100]), (ByteArray.mk #[119, 114, 105, 116, 101])] : List ByteArray), ([1, 2, 3] : List Int)⟩ : T_impl_Client), (⟨(ByteArray.mk #[115, 118, 99]), r10, ([(ByteArray.mk #[104, 116, 116, 112, 115, 58, 47, 47, 115, 118, 99, 47, 99, 98])] : List ByteArray), ([(ByteArray.mk #[114, 101, 97, 100]), (ByteArray.mk #[119, 114, 105, 116, 101])] : List ByteArray), ([1, 2, 4] : List Int)⟩ : T_impl_Client), (⟨(ByteArray.mk #[116, 118]), ([] : List Int), ([] : List ByteArray), ([(ByteArray.mk #[114, 101, 97, 100])] : List ByteArray), ([3] : List Int)⟩ : T_impl_Client)] : List T_impl_Client)) (k := 0) (a := e24) ({ e24 with Kinds_ := ([5] : List Int) } : T_impl_Client) rfl tyS_29 rfl rfl rfl rfl (by decide) h25 rfl rfl rfl (fun _ => rfl) rfl) ?_
     refine TL.conv (Cs.eqS (σ := [.box (c_T_spec_l1Cur c0 o13), .box [.nilS, .nilS, .int .i64 0, .int .i64 0], .box [.hd 4 (([(⟨(ByteArray.mk #[97, 112, 112]), ([] : List Int), ([(ByteArray.mk #[104, 116, 116, 112, 115, 58, 47, 47, 97, 112, 112, 47, 99, 98]), (ByteArray.mk #[97, 112, 112, 58, 99, 98])] : List ByteArray), ([(ByteArray.mk #[109, 97, 105, 108]), (ByteArray.mk #[114, 101, 97, 100]), (ByteArray.mk #[119, 114, 105, 116, 101])] : List ByteArray), ([1, 2, 3] : List Int)⟩ : T_impl_Client), (⟨(ByteArray.mk #[115, 118, 99]), r10, ([(ByteArray.mk #[104, 116, 116, 112, 115, 58, 47, 47, 115, 118, 99, 47, 99, 98])] : List ByteArray), ([(ByteArray.mk #[114, 101, 97, 100]), (ByteArray.mk #[119, 114, 105, 116, 101])] : List ByteArray), ([1, 2, 4] : List Int)⟩ : T_impl_Client), (⟨(ByteArray.mk #[116, 118]), ([] : List Int), ([] : List ByteArray), ([(ByteArray.mk #[114, 101, 97, 100])] : List ByteArray), ([3] : List Int)⟩ : T_impl_Client)] : List T_impl_Client).map (c_T_impl_Client false)).length 0 (([(⟨(ByteArray.mk #[97, 112, 112]), ([] : List Int), ([(ByteArray.mk #[104, 116, 116, 112, 115, 58, 47, 47, 97, 112, 112, 47, 99, 98]), (ByteArray.mk #[97, 112, 112, 58, 99, 98])] : List ByteArray), ([(ByteArray.mk #[109, 97, 105, 108]), (ByteArray.mk #[114, 101, 97, 100]), (ByteArray.mk #[119, 114, 105, 116, 101])] : List ByteArray), ([1, 2, 3] : List Int)⟩ : T_impl_Client), (⟨(ByteArray.mk #[115, 118, 99]), r10, ([(ByteArray.mk #[104, 116, 116, 112, 115, 58, 47, 47, 115, 118, 99, 47, 99, 98])] : List ByteArray), ([(ByteArray.mk #[114, 101, 97, 100]), (ByteArray.mk #[119, 114, 105, 116, 101])] : List ByteArray), ([1, 2, 4] : List Int)⟩ : T_impl_Client), (⟨(ByteArray.mk #[116, 118]), ([] : List Int), ([] : List ByteArray), ([(ByteArray.mk #[114, 101, 97, 100])] : List ByteArray), ([3] : List Int)⟩ : T_impl_Client)] : List T_impl_Client).map (c_T_impl_Client false)).length, .im false (r1.map (c_int .u8)), .int .i64 (IntKind.i64.wrap (10 + r4)), .int .i64 (IntKind.i64.wrap (30 + r7))], .dead, .arr .clo 5 ((([(⟨(ByteArray.mk #[97, 112, 112]), ([] : List Int), ([(ByteArray.mk #[104, 116, 116, 112, 115, 58, 47, 47, 97, 112, 112, 47, 99, 98]), (ByteArray.mk #[97, 112, 112, 58, 99, 98])] : List ByteArray), ([(ByteArray.mk #[109, 97, 105, 108]), (ByteArray.mk #[114, 101, 97, 100]), (ByteArray.mk #[119, 114, 105, 116, 101])] : List ByteArray), ([1, 2, 3] : List Int)⟩ : T_impl_Client), (⟨(ByteArray.mk #[115, 118, 99]), r10, ([(ByteArray.mk #[104, 116, 116, 112, 115, 58, 47, 47, 115, 118, 99, 47, 99, 98])] : List ByteArray), ([(ByteArray.mk #[114, 101, 97, 100]), (ByteArray.mk #[119, 114, 105, 116, 101])] : List ByteArray), ([1, 2, 4] : List Int)⟩ : T_impl_Client), (⟨(ByteArray.mk #[116, 118]), ([] : List Int), ([] : List ByteArray), ([(ByteArray.mk #[114, 101, 97, 100])] : List ByteArray), ([3] : List Int)⟩ : T_impl_Client)] : List T_impl_Client).set (Int.toNat 0) ({ e24 with Kinds_ := ([5] : List Int) } : T_impl_Client)).map (c_T_impl_Client false))]) (σ' := [.box (c_T_spec_l1Cur c0 o13), .box [.nilS, .nilS, .int .i64 0, .int .i64 0], .box [.hd 4 ((([(⟨(ByteArray.mk #[97, 112, 112]), ([] : List Int), ([(ByteArray.mk #[104, 116, 116, 112, 115, 58, 47, 47, 97, 112, 112, 47, 99, 98]), (ByteArray.mk #[97, 112, 112, 58, 99, 98])] : List ByteArray), ([(ByteArray.mk #[109, 97, 105, 108]), (ByteArray.mk #[114, 101, 97, 100]), (ByteArray.mk #[119, 114, 105, 116, 101])] : List ByteArray), ([1, 2, 3] : List Int)⟩ : T_impl_Client), (⟨(ByteArray.mk #[115, 118, 99]), r10, ([(ByteArray.mk #[104, 116, 116, 112, 115, 58, 47, 47, 115, 118, 99, 47, 99, 98])] : List ByteArray), ([(ByteArray.mk #[114, 101, 97, 100]), (ByteArray.mk #[119, 114, 105, 116, 101])] : List ByteArray), ([1, 2, 4] : List Int)⟩ : T_impl_Client), (⟨(ByteArray.mk #[116, 118]), ([] : List Int), ([] : List ByteArray), ([(ByteArray.mk #[114, 101, 97, 100])] : List ByteArray), ([3] : List Int)⟩ : T_impl_Client)] : List T_impl_Client).set (Int.toNat 0) ({ e24 with Kinds_ := ([5] : List Int) } : T_impl_Client)).map (c_T_impl_Client false)).length 0 ((([(⟨(ByteArray.mk #[97, 112, 112]), ([] : List Int), ([(ByteArray.mk #[104, 116, 116, 112, 115, 58, 47, 47, 97, 112, 112, 47, 99, 98]), (ByteArray.mk #[97, 112, 112, 58, 99, 98])] : List ByteArray), ([(ByteArray.mk #[109, 97, 105, 108]), (ByteArray.mk #[114, 101, 97, 100]), (ByteArray.mk #[119, 114, 105, 116, 101])] : List ByteArray), ([1, 2, 3] : List Int)⟩ : T_impl_Client), (⟨(ByteArray.mk #[115, 118, 99]), r10, ([(ByteArray.mk #[104, 116, 116, 112, 115, 58, 47, 47, 115, 118, 99, 47, 99, 98])] : List ByteArray), ([(ByteArray.mk #[114, 101, 97, 100]), (ByteArray.mk #[119, 114, 105, 116, 101])] : List ByteArray), ([1, 2, 4] : List Int)⟩ : T_impl_Client), (⟨(ByteArray.mk #[116, 118]), ([] : List Int), ([] : List ByteArray), ([(ByteArray.mk #[114, 101, 97, 100])] : List ByteArray), ([3] : List Int)⟩ : T_impl_Client)] : List T_impl_Client).set (Int.toNat 0) ({ e24 with Kinds_ := ([5] : List Int) } : T_impl_Client)).map (c_T_impl_Client false)).length, .im false (r1.map (c_int .u8)), .int .i64 (IntKind.i64.wrap (10 + r4)), .int .i64 (IntKind.i64.wrap (30 + r7))], .dead, .arr .clo 5 ((([(⟨(ByteArray.mk #[97, 112, 112]), ([] : List Int), ([(ByteArray.mk #[104, 116, 116, 112, 115, 58, 47, 47, 97, 112, 112, 47, 99, 98]), (ByteArray.mk #[97, 112, 112, 58, 99, 98])] : List ByteArray), ([(ByteArray.mk #[109, 97, 105, 108]), (ByteArray.mk #[114, 101, 97, 100]), (ByteArray.mk #[119, 114, 105, 116, 101])] : List ByteArray), ([1, 2, 3] : List Int)⟩ : T_impl_Client), (⟨(ByteArray.mk #[115, 118, 99]), r10, ([(ByteArray.mk #[104, 116, 116, 112, 115, 58, 47, 47, 115, 118, 99, 47, 99, 98])] : List ByteArray), ([(ByteArray.mk #[114, 101, 97, 100]), (ByteArray.mk #[119, 114, 105, 116, 101])] : List ByteArray), ([1, 2, 4] : List Int)⟩ : T_impl_Client), (⟨(ByteArray.mk #[116, 118]), ([] : List Int), ([] : List ByteArray), ([(ByteArray.mk #[114, 101, 97, 100])] : List ByteArray), ([3] : List Int)⟩ : T_impl_Client)] : List T_impl_Client).set (Int.toNat 0) ({ e24 with Kinds_ := ([5] : List Int) } : T_impl_Client)).map (c_T_impl_Client false))]) (by simp only [List.length_map, List.length_set])) ?_
     refine TL.conv (Cs.eqV (t := 27) (v' := .hd 4 ((([(⟨(ByteArray.mk #[97, 112, 112]), ([] : List Int), ([(ByteArray.mk #[104, 116, 116, 112, 115, 58, 47, 47, 97, 112, 112, 47, 99, 98]), (ByteArray.mk #[97, 112, 112, 58, 99, 98])] : List ByteArray), ([(ByteArray.mk #[109, 97, 105, 108]), (ByteArray.mk #[114, 101, 97, 100]), (ByteArray.mk #[119, 114, 105, 116, 101])] : List ByteArray), ([1, 2, 3] : List Int)⟩ : T_impl_Client), (⟨(ByteArray.mk #[115, 118, 99]), r10, ([(ByteArray.mk #[104, 116, 116, 112, 115, 58, 47, 47, 115, 118, 99, 47, 99, 98])] : List ByteArray), ([(ByteArray.mk #[114, 101, 97, 100]), (ByteArray.mk #[119, 114, 105, 116, 101])] : List ByteArray), ([1, 2, 4] : List Int)⟩ : T_impl_Client), (⟨(ByteArray.mk #[116, 118]), ([] : List Int), ([] : List ByteArray), ([(ByteArray.mk #[114, 101, 97, 100])] : List ByteArray), ([3] : List Int)⟩ : T_impl_Client)] : List T_impl_Client).set (Int.toNat 0) ({ e24 with Kinds_ := ([5] : List Int) } : T_impl_Client)).map (c_T_impl_Client false)).length 0 ((([(⟨(ByteArray.mk #[97, 112, 112]), ([] : List Int), ([(ByteArray.mk #[104, 116, 116, 112, 115, 58, 47, 47, 97, 112, 112, 47, 99, 98]), (ByteArray.mk #[97, 112, 112, 58, 99, 98])] : List ByteArray), ([(ByteArray.mk #[109, 97, 105, 108]), (ByteArray.mk #[114, 101, 97, 100]), (ByteArray.mk #[119, 114, 105, 116, 101])] : List ByteArray), ([1, 2, 3] : List Int)⟩ : T_impl_Client), (⟨(ByteArray.mk #[115, 118, 99]), r10, ([(ByteArray.mk #[104, 116, 116, 112, 115, 58, 47, 47, 115, 118, 99, 47, 99, 98])] : List ByteArray), ([(ByteArray.mk #[114, 101, 97, 100]), (ByteArray.mk #[119, 114, 105, 116, 101])] : List ByteArray), ([1, 2, 4] : List Int)⟩ : T_impl_Client), (⟨(ByteArray.mk #[116, 118]), ([] : List Int), ([] : List ByteArray), ([(ByteArray.mk #[114, 101, 97, 100])] : List ByteArray), ([3] : List Int)⟩ : T_impl_Client)] : List T_impl_Client).set (Int.toNat 0) ({ e24 with Kinds_ := ([5] : List Int) } : T_impl_Client)).map (c_T_impl_Client false)).length) rfl (rfl)) ?_
     refine TL.conv (Cs.eqV (t := 55) (v' := .hd 4 ((([(⟨(ByteArray.mk #[97, 112, 112]), ([] : List Int), ([(ByteArray.mk #[104, 116, 116, 112, 115, 58, 47, 47, 97, 112, 112, 47, 99, 98]), (ByteArray.mk #[97, 112, 112, 58, 99, 98])] : List ByteArray), ([(ByteArray.mk #[109, 97, 105, 108]), (ByteArray.mk #[114, 101, 97, 100]), (ByteArray.mk #[119, 114, 105, 116, 101])] : List ByteArray), ([1, 2, 3] : List Int)⟩ : T_impl_Client), (⟨(ByteArray.mk #[115, 118, 99]), r10, ([(ByteArray.mk #[104, 116, 116, 112, 115, 58, 47, 47, 115, 118, 99, 47, 99, 98])] : List ByteArray), ([(ByteArray.mk #[114, 101, 97, 100]), (ByteArray.mk #[119, 114, 105, 116, 101])] : List ByteArray), ([1, 2, 4] : List Int)⟩ : T_impl_Client), (⟨(ByteArray.mk #[116, 118]), ([] : List Int), ([] : List ByteArray), ([(ByteArray.mk #[114, 101, 97, 100])] : List ByteArray), ([3] : List Int)⟩ : T_impl_Client)] : List T_impl_Client).set (Int.toNat 0) ({ e24 with Kinds_ := ([5] : List Int) } : T_impl_Client)).map (c_T_impl_Client false)).length 0 ((([(⟨(ByteArray.mk #[97, 112, 112]), ([] : List Int), ([(ByteArray.mk #[104, 116, 116, 112, 115, 58, 47, 47, 97, 112, 112, 47, 99, 98]), (ByteArray.mk #[97, 112, 112, 58, 99, 98])] : List ByteArray), ([(ByteArray.mk #[109, 97, 105, 108]), (ByteArray.mk #[114, 101, 97, 100]), (ByteArray.mk #[119, 114, 105, 116, 101])] : List ByteArray), ([1, 2, 3] : List Int)⟩ : T_impl_Client), (⟨(ByteArray.mk #[115, 118, 99]), r10, ([(ByteArray.mk #[104, 116, 116, 112, 115, 58, 47, 47, 115, 118, 99, 47, 99, 98])] : List ByteArray), ([(ByteArray.mk #[114, 101, 97, 100]), (ByteArray.mk #[119, 114, 105, 116, 101])] : List ByteArray), ([1, 2, 4] : List Int)⟩ : T_impl_Client), (⟨(ByteArray.mk #[116, 118]), ([] : List Int), ([] : List ByteArray), ([(ByteArray.mk #[114, 101, 97, 100])] : List ByteArray), ([3] : List Int)⟩ : T_impl_Client)] : List T_impl_Client).set (Int.toNat 0) ({ e24 with Kinds_ := ([5] : List Int) } : T_impl_Client)).map (c_T_impl_Client false)).length) rfl (rfl)) ?_
     refine TL.nil (inB_normal (thn_normal (T.seq (T.region (TL.st rfl rfl rfl (o_loadBx rfl tyS_25 rfl rfl (Nat.le_of_ble_eq_true rfl) rfl) ?_)))))
     refine TL.sn rfl rfl (o_storeBx rfl tyS_25 rfl rfl rfl rfl (Nat.le_of_ble_eq_true rfl) (sure_hd rfl rfl (sure_c rfl (sure_c rfl (sure_c rfl rfl))))) ?_
     refine TL.nil (thn_normal (T.conv (Cs.eqS (σ' := [.box (c_T_spec_l1Cur c0 o13), .box (k_impl_Server 4 false (⟨(([(⟨(ByteArray.mk #[97, 112, 112]), ([] : List Int), ([(ByteArray.mk #[104, 116, 116, 112, 115, 58, 47, 47, 97, 112, 112, 47, 99, 98]), (ByteArray.mk #[97, 112, 112, 58, 99, 98])] : List ByteArray), ([(ByteArray.mk #[109, 97, 105, 108]), (ByteArray.mk #[114, 101, 97, 100]), (ByteArray.mk #[119, 114, 105, 116, 101])] : List ByteArray), ([1, 2, 3] : List Int)⟩ : T_impl_Client), (⟨(ByteArray.mk #[115, 118, 99]), r10, ([(ByteArray.mk #[104, 116, 116, 112, 115, 58, 47, 47, 115, 118, 99, 47, 99, 98])] : List ByteArray), ([(ByteArray.mk #[114, 101, 97, 100]), (ByteArray.mk #[119, 114, 105, 116, 101])] : List ByteArray), ([1, 2, 4] : List Int)⟩ : T_impl_Client), (⟨(ByteArray.mk #[116, 118]), ([] : List Int), ([] : List ByteArray), ([(ByteArray.mk #[114, 101, 97, 100])] : List ByteArray), ([3] : List Int)⟩ : T_impl_Client)] : List T_impl_Client).set (Int.toNat 0) ({ e24 with Kinds_ := ([5] : List Int) } : T_impl_Client)), r1, (IntKind.i64.wrap (10 + r4)), (IntKind.i64.wrap (30 + r7))⟩ : T_impl_Server)), .box (k_impl_Server 4 false (⟨(([(⟨(ByteArray.mk #[97, 112, 112]), ([] : List Int), ([(ByteArray.mk #[104, 116, 116, 112, 115, 58, 47, 47, 97, 112, 112, 47, 99, 98]), (ByteArray.mk #[97, 112, 112, 58, 99, 98])] : List ByteArray), ([(ByteArray.mk #[109, 97, 105, 108]), (ByteArray.mk #[114, 101, 97, 100]), (ByteArray.mk #[119, 114, 105, 116, 101])] : List ByteArray), ([1, 2, 3] : List Int)⟩ : T_impl_Client), (⟨(ByteArray.mk #[115, 118, 99]), r10, ([(ByteArray.mk #[104, 116, 116, 112, 115, 58, 47, 47, 115, 118, 99, 47, 99, 98])] : List ByteArray), ([(ByteArray.mk #[114, 101, 97, 100]), (ByteArray.mk #[119, 114, 105, 116, 101])] : List ByteArray), ([1, 2, 4] : List Int)⟩ : T_impl_Client), (⟨(ByteArray.mk #[116, 118]), ([] : List Int), ([] : List ByteArray), ([(ByteArray.mk #[114, 101, 97, 100])] : List ByteArray), ([3] : List Int)⟩ : T_impl_Client)] : List T_impl_Client).set (Int.toNat 0) ({ e24 with Kinds_ := ([5] : List Int) } : T_impl_Client)), r1, (IntKind.i64.wrap (10 + r4)), (IntKind.i64.wrap (30 + r7))⟩ : T_impl_Server)), .dead, .arr .clo 5 ((([(⟨(ByteArray.mk #[97, 112, 112]), ([] : List Int), ([(ByteArray.mk #[104, 116, 116, 112, 115, 58, 47, 47, 97, 112, 112, 47, 99, 98]), (ByteArray.mk #[97, 112, 112, 58, 99, 98])] : List ByteArray), ([(ByteArray.mk #[109, 97, 105, 108]), (ByteArray.mk #[114, 101, 97, 100]), (ByteArray.mk #[119, 114, 105, 116, 101])] : List ByteArray), ([1, 2, 3] : List Int)⟩ : T_impl_Client), (⟨(ByteArray.mk #[115, 118, 99]), r10, ([(ByteArray.mk #[104, 116, 116, 112, 115, 58, 47, 47, 115, 118, 99, 47, 99, 98])] : List ByteArray), ([(ByteArray.mk #[114, 101, 97, 100]), (ByteArray.mk #[119, 114, 105, 116, 101])] : List ByteArray), ([1, 2, 4] : List Int)⟩ : T_impl_Client), (⟨(ByteArray.mk #[116, 118]), ([] : List Int), ([] : List ByteArray), ([(ByteArray.mk #[114, 101, 97, 100])] : List ByteArray), ([3] : List Int)⟩ : T_impl_Client)] : List T_impl_Client).set (Int.toNat 0) ({ e24 with Kinds_ := ([5] : List Int) } : T_impl_Client)).map (c_T_impl_Client false))]) rfl) ?_))
     refine T.conv (Cs.frzCell (p := 4) (q := 1) 0 rfl rfl rfl rfl rfl) ?_
     refine T.ret ?_
     cases some_i H
     exact ⟨trivial, _, (.cell _ _ _ _ _ _ _ _ _ _ rfl rfl tyS_25 (Nat.le_of_ble_eq_true rfl) rfl .nil), ⟨rfl, _, rfl⟩⟩
    ·replace H := cond_f h H
     refine T.skip (inB_normal (thn_normal (T.seq (T.region (TL.st rfl rfl rfl (o_loadBx rfl tyS_25 rfl rfl (Nat.le_of_ble_eq_true rfl) rfl) ?_)))))
     refine TL.sn rfl rfl (o_storeBx rfl tyS_25 rfl rfl rfl rfl (Nat.le_of_ble_eq_true rfl) (sure_hd rfl rfl (sure_c rfl (sure_c rfl (sure_c rfl rfl))))) ?_
     refine TL.nil (thn_normal (T.conv (Cs.frzCell (p := 4) (q := 1) 0 rfl rfl rfl rfl rfl) ?_))
     refine T.ret ?_
     cases some_i H
     exact ⟨trivial, _, (.cell _ _ _ _ _ _ _ _ _ _ rfl rfl tyS_25 (Nat.le_of_ble_eq_true rfl) rfl .nil), ⟨rfl, _, rfl⟩⟩
theorem en_15 (us : Array Value) (w : World) : (callFunc 15 us).run Go.Proofs.Tryz.prog w = .ok (.enter 15 us) w := enters Go.Proofs.Tryz.func15 rfl rfl us w
noncomputable def spec_l1Cur_of (a0 : (List ByteArray)) (s0 : T_spec_l1Cur) : Option (ByteArray × T_spec_l1Cur) :=
  (spec_l1Cur_pick (a0.length : Int) s0).bind fun q => (match q with | (r1, o2) => (idx a0 r1).bind fun e4 => some (e4, o2))
theorem spec_l1Cur_of_p (b0 : Bool) (c0 : Bool) {a0 : (List ByteArray)} {s0 : T_spec_l1Cur} {R0 : ByteArray} {U0 : T_spec_l1Cur} (H : spec_l1Cur_of a0 s0 = some (R0, U0)) : St Go.Proofs.Tryz.prog 16 [.bx 0 0, .im b0 (a0.map (c_str))] [.box (c_T_spec_l1Cur c0 s0)] (.str R0) [.box (c_T_spec_l1Cur c0 U0)] := by
 refine CallT.fin (CallT.of_TN (n := 12) Go.Proofs.Tryz.func16 rfl rfl rfl rfl ?_) rfl rfl ⟨(bels_iff.1 rfl), trivial⟩
 refine T.seq (T.region (TL.st rfl rfl rfl (o_assign rfl rfl) (TL.nil (thn_normal (T.seq (T.region (TL.st rfl rfl rfl (o_move rfl rfl) (TL.st rfl rfl rfl (o_move rfl rfl) (TL.st rfl rfl rfl (o_move rfl rfl) (TL.st rfl rfl rfl (o_lenL (f := c_str) rfl rfl rfl) ?_))))))))))
 obtain ⟨⟨r1, o2⟩, h3, H⟩ := bind_s H
 refine TL.st rfl rfl rfl (o_callS [0] rfl en_18 rfl rfl (spec_l1Cur_pick_p c0 h3) rfl (by decide) (.cons _ _ _ _ rfl .nil) rfl rfl rfl) ?_
 obtain ⟨e4, h5, H⟩ := bind_s H
 refine TL.st rfl rfl rfl (o_ix (f := c_str) rfl rfl tyS_9 rfl rfl h5 rfl) ?_
 refine TL.st rfl rfl rfl (o_loadRf rfl tyS_9 rfl (Nat.le_of_ble_eq_true rfl) rfl) ?_
 refine TL.st rfl rfl rfl (o_assign rfl rfl) (TL.nil (thn_normal (T.ret ?_)))
 cases some_i H
 exact ⟨trivial, _, (.tmp _ _ _ _ rfl .nil), ⟨rfl, _, rfl⟩⟩
theorem en_16 (us : Array Value) (w : World) : (callFunc 16 us).run Go.Proofs.Tryz.prog w = .ok (.enter 16 us) w := enters Go.Proofs.Tryz.func16 rfl rfl us w
noncomputable def spec_l1Cur_one (a0 : Int) (s0 : T_spec_l1Cur) : Option (Bool × T_spec_l1Cur) :=
  (spec_l1Cur_pick a0 s0).bind fun q => (match q with | (r1, o2) => some ((r1 == 0), o2))
theorem spec_l1Cur_one_p (c0 : Bool) {a0 : Int} {s0 : T_spec_l1Cur} {R0 : Bool} {U0 : T_spec_l1Cur} (H : spec_l1Cur_one a0 s0 = some (R0, U0)) : St Go.Proofs.Tryz.prog 17 [.bx 0 0, .int .i64 a0] [.box (c_T_spec_l1Cur c0 s0)] (.bool R0) [.box (c_T_spec_l1Cur c0 U0)] := by
 refine CallT.fin (CallT.of_TN (n := 9) Go.Proofs.Tryz.func17 rfl rfl rfl rfl ?_) rfl rfl ⟨(bels_iff.1 rfl), trivial⟩
 refine T.seq (T.region (TL.st rfl rfl rfl (o_assign rfl rfl) (TL.nil (thn_normal (T.seq (T.region (TL.st rfl rfl rfl (o_move rfl rfl) (TL.st rfl rfl rfl (o_move rfl rfl) ?_))))))))
 obtain ⟨⟨r1, o2⟩, h3, H⟩ := bind_s H
 refine TL.st rfl rfl rfl (o_callS [0] rfl en_18 rfl rfl (spec_l1Cur_pick_p c0 h3) rfl (by decide) (.cons _ _ _ _ rfl .nil) rfl rfl rfl) ?_
 refine TL.st rfl rfl rfl (o_ari rfl rfl rfl rfl) (TL.st rfl rfl rfl (o_assign rfl rfl) (TL.nil (thn_normal (T.ret ?_))))
 cases some_i H
 exact ⟨trivial, _, (.tmp _ _ _ _ rfl .nil), ⟨rfl, _, rfl⟩⟩
theorem en_17 (us : Array Value) (w : World) : (callFunc 17 us).run Go.Proofs.Tryz.prog w = .ok (.enter 17 us) w := enters Go.Proofs.Tryz.func17 rfl rfl us w
theorem tyS_27 : TyS Go.Proofs.Tryz.prog 27 true 8 := ⟨rfl, rfl⟩
noncomputable def spec_l1Cur_attack_j1 (o11 : T_spec_l1Cur) (b13 : T_impl_AttackConf) : Option (T_impl_AttackConf × T_spec_l1Cur) :=
  (spec_l1Cur_pick 24 o11).bind fun q => (match q with | (r14, o15) => cond (r14 == 0) ((spec_l1Cur_of ([(ByteArray.mk #[116, 118]), (ByteArray.mk #[110, 111, 110, 101])] : List ByteArray) o15).bind fun q => (match q with | (r17, o18) => some (({ b13 with Client_ := r17 } : T_impl_AttackConf), o18))) (cond (r14 == 1) ((spec_l1Cur_of ([(ByteArray.mk #[]), (ByteArray.mk #[120]), (ByteArray.mk #[115, 51, 99, 114, 101, 116])] : List ByteArray) o15).bind fun q => (match q with | (r20, o21) => some (({ b13 with Secret_ := r20 } : T_impl_AttackConf), o21))) (some (b13, o15))))
noncomputable def spec_l1Cur_attack (s0 : T_spec_l1Cur) : Option (T_impl_AttackConf × T_spec_l1Cur) :=
  (spec_l1Cur_server s0).bind fun q => (match q with | (r1, o2) => (spec_l1Cur_of ([(ByteArray.mk #[97, 112, 112]), (ByteArray.mk #[115, 118, 99]), (ByteArray.mk #[97, 112, 112])] : List ByteArray) o2).bind fun q => (match q with | (r4, o5) => (spec_l1Cur_one 3 o5).bind fun q => (match q with | (r7, o8) => (spec_l1Cur_one 4 o8).bind fun q => (match q with | (r10, o11) => cond (r4.toList == (ByteArray.mk #[115, 118, 99]).toList) (spec_l1Cur_attack_j1 o11 (⟨r1, r4, (ByteArray.mk #[115, 51, 99, 114, 101, 116]), (!r7), r10⟩ : T_impl_AttackConf)) (spec_l1Cur_attack_j1 o11 (⟨r1, r4, (ByteArray.mk #[]), (!r7), r10⟩ : T_impl_AttackConf))))))
theorem spec_l1Cur_attack_p (c0 : Bool) {s0 : T_spec_l1Cur} {R0 : T_impl_AttackConf} {U0 : T_spec_l1Cur} (H : spec_l1Cur_attack s0 = some (R0, U0)) : St Go.Proofs.Tryz.prog 9 [.bx 0 0] [.box (c_T_spec_l1Cur c0 s0)] (.agg (c_T_impl_AttackConf false R0)) [.box (c_T_spec_l1Cur c0 U0)] := by
 refine CallT.fin (CallT.of_TN (n := 34) Go.Proofs.Tryz.func9 rfl rfl rfl rfl ?_) rfl rfl ⟨(bels_iff.1 rfl), trivial⟩
 refine T.seq (T.region (TL.st rfl rfl rfl (o_alloc rfl ⟨_, rfl, rfl⟩) (TL.nil (thn_normal (T.seq (T.region (TL.st rfl rfl rfl (o_move rfl rfl) ?_)))))))
 obtain ⟨⟨r1, o2⟩, h3, H⟩ := bind_s H
 refine TL.st rfl rfl rfl (o_callS [0] rfl en_15 rfl rfl (spec_l1Cur_server_p c0 h3) rfl (by decide) (.cons _ _ _ _ rfl .nil) rfl rfl rfl) ?_
 refine TL.st rfl rfl rfl (o_move rfl rfl) (TL.st rfl rfl rfl (o_sliceIm (rows := ([(ByteArray.mk #[97, 112, 112]), (ByteArray.mk #[115, 118, 99]), (ByteArray.mk #[97, 112, 112])] : List ByteArray).map (c_str)) rfl rfl tyS_9 ⟨_, rfl, rfl⟩ (by decide) rfl rfl rfl rfl rfl rfl) ?_)
 obtain ⟨⟨r4, o5⟩, h6, H⟩ := bind_s H
 refine TL.st rfl rfl rfl (o_callS [0] rfl en_16 rfl rfl (spec_l1Cur_of_p false c0 h6) rfl (by decide) (.cons _ _ _ _ rfl .nil) rfl rfl rfl) ?_
 refine TL.st rfl rfl rfl (o_move rfl rfl) ?_
 obtain ⟨⟨r7, o8⟩, h9, H⟩ := bind_s H
 refine TL.st rfl rfl rfl (o_callS [0] rfl en_17 rfl rfl (spec_l1Cur_one_p c0 h9) rfl (by decide) (.cons _ _ _ _ rfl .nil) rfl rfl rfl) ?_
 refine TL.st rfl rfl rfl (o_not rfl rfl) ?_
 refine TL.st rfl rfl rfl (o_move rfl rfl) ?_
 obtain ⟨⟨r10, o11⟩, h12, H⟩ := bind_s H
 refine TL.st rfl rfl rfl (o_callS [0] rfl en_17 rfl rfl (spec_l1Cur_one_p c0 h12) rfl (by decide) (.cons _ _ _ _ rfl .nil) rfl rfl rfl) ?_
 refine TL.st rfl rfl rfl (o_build rfl ⟨_, fun _ => rfl, rfl⟩ rfl rfl rfl) ?_
 refine TL.st rfl rfl rfl (o_alloc rfl ⟨_, rfl, rfl⟩) (TL.sn rfl rfl (o_storeBx rfl tyS_27 rfl rfl rfl rfl (Nat.le_of_ble_eq_true rfl) rfl) ?_)
 refine TL.nil (thn_normal (T.cut (fun fr' σ' => ∃ (b13 : T_impl_AttackConf), fr' = [(0, .bx 0 0), (2, .bx 1 0), (3, .bx 2 0)] ∧ σ' = [.box (c_T_spec_l1Cur c0 o11), .box [.nilS, .nilS, .int .i64 0, .int .i64 0, .str (ByteArray.mk #[]), .str (ByteArray.mk #[]), .bool false, .bool false], .box (c_T_impl_AttackConf false b13)] ∧ spec_l1Cur_attack_j1 o11 b13 = some (R0, U0)) (T.pk ?_) ?_))
 ·skip
  refine T.seq (T.conv (Cs.eqS (σ' := [.box (c_T_spec_l1Cur c0 o11), .box [.nilS, .nilS, .int .i64 0, .int .i64 0, .str (ByteArray.mk #[]), .str (ByteArray.mk #[]), .bool false, .bool false], .box ((c_T_impl_Server false r1) ++ [.str r4, .str (ByteArray.mk #[]), .bool (!r7), .bool r10])]) rfl) ?_)
  refine T.region (TL.st rfl rfl rfl (o_fieldAddr rfl rfl rfl tyS_9 (by decide) rfl rfl ⟨_, rfl, Nat.le_of_ble_eq_true rfl⟩) ?_)
  refine TL.st rfl rfl rfl (o_loadBx rfl tyS_9 rfl rfl (Nat.le_of_ble_eq_true rfl) rfl) ?_
  refine TL.st rfl rfl rfl (o_str rfl rfl rfl rfl) ?_
  refine TL.nil (thn_normal ?_)
  refine T.cond ((r4.toList == (ByteArray.mk #[115, 118, 99]).toList)) rfl (fun h => ?_) (fun h => ?_)
  ·replace H := cond_t h H
   refine T.region (TL.st rfl rfl rfl (o_fieldAddr rfl rfl rfl tyS_9 (by decide) rfl rfl ⟨_, rfl, Nat.le_of_ble_eq_true rfl⟩) ?_)
   refine TL.sn rfl rfl (o_storeBx rfl tyS_9 rfl rfl rfl rfl (Nat.le_of_ble_eq_true rfl) rfl) ?_
   refine TL.nil ?_
   exact Pk.of (thn_normal ⟨(⟨r1, r4, (ByteArray.mk #[115, 51, 99, 114, 101, 116]), (!r7), r10⟩ : T_impl_AttackConf), rfl, rfl, H⟩)
  ·replace H := cond_f h H
   refine T.skip ?_
   exact Pk.of (thn_normal ⟨(⟨r1, r4, (ByteArray.mk #[]), (!r7), r10⟩ : T_impl_AttackConf), rfl, rfl, H⟩)
 ·rintro _ _ ⟨b13, rfl, rfl, H⟩
  refine T.seq (T.seq (T.region (TL.st rfl rfl rfl (o_move rfl rfl) ?_)))
  obtain ⟨⟨r14, o15⟩, h16, H⟩ := bind_s H
  refine TL.st rfl rfl rfl (o_callS [0] rfl en_18 rfl rfl (spec_l1Cur_pick_p c0 h16) rfl (by decide) (.cons _ _ _ _ rfl .nil) rfl rfl rfl) ?_
  refine TL.nil (thn_normal (T.block (T.seq (T.region (TL.st rfl rfl rfl (o_ari rfl rfl rfl rfl) (TL.st rfl rfl rfl (o_assign rfl rfl) (TL.nil (thn_normal ?_))))))))
  refine T.cond ((r14 == 0)) rfl (fun h => ?_) (fun h => ?_)
  ·replace H := cond_t h H
   refine T.region (TL.st rfl rfl rfl (o_move rfl rfl) (TL.st rfl rfl rfl (o_sliceIm (rows := ([(ByteArray.mk #[116, 118]), (ByteArray.mk #[110, 111, 110, 101])] : List ByteArray).map (c_str)) rfl rfl tyS_9 ⟨_, rfl, rfl⟩ (by decide) rfl rfl rfl rfl rfl rfl) ?_))
   obtain ⟨⟨r17, o18⟩, h19, H⟩ := bind_s H
   refine TL.st rfl rfl rfl (o_callS [0] rfl en_16 rfl rfl (spec_l1Cur_of_p false c0 h19) rfl (by decide) (.cons _ _ _ _ rfl .nil) rfl rfl rfl) ?_
   refine TL.st rfl rfl rfl (o_fieldAddr rfl rfl rfl tyS_9 (by decide) rfl rfl ⟨_, rfl, Nat.le_of_ble_eq_true rfl⟩) ?_
   refine TL.sn rfl rfl (o_storeBx rfl tyS_9 rfl rfl rfl rfl (Nat.le_of_ble_eq_true rfl) rfl) ?_
   refine TL.nil (inB_normal (thn_normal (T.seq (T.conv (Cs.eqS (σ' := [.box (c_T_spec_l1Cur c0 o18), .box [.nilS, .nilS, .int .i64 0, .int .i64 0, .str (ByteArray.mk #[]), .str (ByteArray.mk #[]), .bool false, .bool false], .box ((c_T_impl_Server false b13.Server_) ++ [.str r17, .str b13.Secret_, .bool b13.Leak_, .bool b13.Bare_])]) rfl) ?_))))
   refine T.region (TL.st rfl rfl rfl (o_loadBx rfl tyS_27 rfl rfl (Nat.le_of_ble_eq_true rfl) rfl) ?_)
   refine TL.sn rfl rfl (o_storeBx rfl tyS_27 rfl rfl rfl rfl (Nat.le_of_ble_eq_true rfl) rfl) ?_
   refine TL.nil (thn_normal (T.ret ?_))
   cases some_i H
   exact ⟨trivial, _, (.cell _ _ _ _ _ _ _ _ _ _ rfl rfl tyS_27 (Nat.le_of_ble_eq_true rfl) rfl .nil), ⟨rfl, _, rfl⟩⟩
  ·replace H := cond_f h H
   refine T.seq (T.region (TL.st rfl rfl rfl (o_ari rfl rfl rfl rfl) (TL.st rfl rfl rfl (o_assign rfl rfl) (TL.nil (thn_normal ?_)))))
   refine T.cond ((r14 == 1)) rfl (fun h => ?_) (fun h => ?_)
   ·replace H := cond_t h H
    refine T.region (TL.st rfl rfl rfl (o_move rfl rfl) (TL.st rfl rfl rfl (o_sliceIm (rows := ([(ByteArray.mk #[]), (ByteArray.mk #[120]), (ByteArray.mk #[115, 51, 99, 114, 101, 116])] : List ByteArray).map (c_str)) rfl rfl tyS_9 ⟨_, rfl, rfl⟩ (by decide) rfl rfl rfl rfl rfl rfl) ?_))
    obtain ⟨⟨r20, o21⟩, h22, H⟩ := bind_s H
    refine TL.st rfl rfl rfl (o_callS [0] rfl en_16 rfl rfl (spec_l1Cur_of_p false c0 h22) rfl (by decide) (.cons _ _ _ _ rfl .nil) rfl rfl rfl) ?_
    refine TL.st rfl rfl rfl (o_fieldAddr rfl rfl rfl tyS_9 (by decide) rfl rfl ⟨_, rfl, Nat.le_of_ble_eq_true rfl⟩) ?_
    refine TL.sn rfl rfl (o_storeBx rfl tyS_9 rfl rfl rfl rfl (Nat.le_of_ble_eq_true rfl) rfl) ?_
    refine TL.nil (inB_normal (thn_normal (T.seq (T.conv (Cs.eqS (σ' := [.box (c_T_spec_l1Cur c0 o21), .box [.nilS, .nilS, .int .i64 0, .int .i64 0, .str (ByteArray.mk #[]), .str (ByteArray.mk #[]), .bool false, .bool false], .box ((c_T_impl_Server false b13.Server_) ++ [.str b13.Client_, .str r20, .bool b13.Leak_, .bool b13.Bare_])]) rfl) ?_))))
    refine T.region (TL.st rfl rfl rfl (o_loadBx rfl tyS_27 rfl rfl (Nat.le_of_ble_eq_true rfl) rfl) ?_)
    refine TL.sn rfl rfl (o_storeBx rfl tyS_27 rfl rfl rfl rfl (Nat.le_of_ble_eq_true rfl) rfl) ?_
    refine TL.nil (thn_normal (T.ret ?_))
    cases some_i H
    exact ⟨trivial, _, (.cell _ _ _ _ _ _ _ _ _ _ rfl rfl tyS_27 (Nat.le_of_ble_eq_true rfl) rfl .nil), ⟨rfl, _, rfl⟩⟩
   ·replace H := cond_f h H
    refine T.skip (inB_normal (thn_normal (T.seq (T.region (TL.st rfl rfl rfl (o_loadBx rfl tyS_27 rfl rfl (Nat.le_of_ble_eq_true rfl) rfl) ?_)))))
    refine TL.sn rfl rfl (o_storeBx rfl tyS_27 rfl rfl rfl rfl (Nat.le_of_ble_eq_true rfl) rfl) ?_
    refine TL.nil (thn_normal (T.ret ?_))
    cases some_i H
    exact ⟨trivial, _, (.cell _ _ _ _ _ _ _ _ _ _ rfl rfl tyS_27 (Nat.le_of_ble_eq_true rfl) rfl .nil), ⟨rfl, _, rfl⟩⟩
theorem en_9 (us : Array Value) (w : World) : (callFunc 9 us).run Go.Proofs.Tryz.prog w = .ok (.enter 9 us) w := enters Go.Proofs.Tryz.func9 rfl rfl us w
noncomputable def spec_DrawGoodAttack (a0 : (List Int)) : Option T_impl_AttackConf :=
  (spec_l1Cur_attack (⟨a0, 0, 0⟩ : T_spec_l1Cur)).bind fun q => (match q with | (r1, o2) => some r1)
theorem spec_DrawGoodAttack_p (b0 : Bool) {a0 : (List Int)} {R0 : T_impl_AttackConf} (H : spec_DrawGoodAttack a0 = some R0) : Pure Go.Proofs.Tryz.prog 4 [.im b0 (a0.map (c_int .u8))] (.agg (c_T_impl_AttackConf false R0)) := by
 refine CallT.of_TN (n := 9) Go.Proofs.Tryz.func4 rfl rfl rfl rfl ?_
 refine T.seq (T.region (TL.st rfl rfl rfl (o_alloc rfl ⟨_, rfl, rfl⟩) (TL.nil (thn_normal (T.seq (T.region (TL.st rfl rfl rfl (o_move rfl rfl) (TL.st rfl rfl rfl (o_build rfl ⟨_, fun _ => rfl, rfl⟩ rfl rfl rfl) ?_))))))))
 refine TL.st rfl rfl rfl (o_box rfl rfl rfl) (TL.st rfl rfl rfl (o_assign rfl rfl) (TL.nil (thn_normal (T.seq (T.region (TL.st rfl rfl rfl (o_move rfl rfl) ?_))))))
 obtain ⟨⟨r1, o2⟩, h3, H⟩ := bind_s H
 refine TL.st rfl rfl rfl (o_callS [1] rfl en_9 rfl rfl (spec_l1Cur_attack_p b0 h3) rfl (by decide) (.cons _ _ _ _ rfl .nil) rfl rfl rfl) ?_
 refine TL.sn rfl rfl (o_storeBx rfl tyS_27 rfl rfl rfl rfl (Nat.le_of_ble_eq_true rfl) rfl) ?_
 refine TL.nil (thn_normal (T.conv (Cs.eqS (σ' := [.box (c_T_impl_AttackConf false r1), .box (c_T_spec_l1Cur b0 o2)]) rfl) ?_))
 refine T.ret ?_
 cases some_i H
 exact ⟨trivial, _, (.cell _ _ _ _ _ _ _ _ _ _ rfl rfl tyS_27 (Nat.le_of_ble_eq_true rfl) rfl .nil), (.cl _ rfl)⟩
theorem en_4 (us : Array Value) (w : World) : (callFunc 4 us).run Go.Proofs.Tryz.prog w = .ok (.enter 4 us) w := enters Go.Proofs.Tryz.func4 rfl rfl us w
theorem tyS_4 : TyS Go.Proofs.Tryz.prog 4 false 1 := ⟨rfl, rfl⟩
theorem tyS_35 : TyS Go.Proofs.Tryz.prog 35 true 4 := ⟨rfl, rfl⟩
noncomputable def impl_AttackConf_yclient_1 (a0 : T_impl_Client) : Option ByteArray :=
  some a0.Id_
theorem impl_AttackConf_yclient_1_p (b0 : Bool) {a0 : T_impl_Client} {R0 : ByteArray} (H : impl_AttackConf_yclient_1 a0 = some R0) : Pure Go.Proofs.Tryz.prog 36 [.agg (c_T_impl_Client b0 a0)] (.str R0) := by
 refine CallT.of_TN (n := 5) Go.Proofs.Tryz.func36 rfl rfl rfl rfl ?_
 refine T.seq (T.region (TL.st rfl rfl rfl (o_box rfl rfl rfl) (TL.st rfl rfl rfl (o_assign rfl rfl) (TL.nil (thn_normal (T.seq (T.region (TL.st rfl rfl rfl (o_fieldAddr rfl rfl rfl tyS_9 (by decide) rfl rfl ⟨_, rfl, Nat.le_of_ble_eq_true rfl⟩) ?_))))))))
 refine TL.st rfl rfl rfl (o_loadBx rfl tyS_9 rfl rfl (Nat.le_of_ble_eq_true rfl) rfl) ?_
 refine TL.st rfl rfl rfl (o_assign rfl rfl) (TL.nil (thn_normal (T.ret ?_)))
 cases some_i H
 exact ⟨trivial, _, (.tmp _ _ _ _ rfl .nil), (.cl _ rfl)⟩
theorem en_36 (us : Array Value) (w : World) : (callFunc 36 us).run Go.Proofs.Tryz.prog w = .ok (.enter 36 us) w := enters Go.Proofs.Tryz.func36 rfl rfl us w
noncomputable def impl_Client__l1 (a0 : (List T_impl_Client)) (a1 : ByteArray) : Int → Option (Int ⊕ (Unit ⊕ (T_impl_Client × Bool))) := fun s => match s with
  | v1 => cond (decide (v1 < (a0.length : Int))) ((idx a0 v1).bind fun e4 => (impl_AttackConf_yclient_1 e4).bind fun r6 => cond (r6.toList == a1.toList) (some (.inr (.inr (e4, true)))) (some (.inl (IntKind.i64.wrap (v1 + 1))))) (some (.inr (.inl ())))
noncomputable def impl_Client_ (a0 : (List T_impl_Client)) (a1 : ByteArray) : Option (T_impl_Client × Bool) :=
  (loopO (impl_Client__l1 a0 a1) 0).bind fun q8 => (match q8 with | .inl _ => some ((⟨(ByteArray.mk #[]), ([] : List Int), ([] : List ByteArray), ([] : List ByteArray), ([] : List Int)⟩ : T_impl_Client), false) | .inr q2 => some q2)
theorem impl_Client__p (b0 : Bool) {a0 : (List T_impl_Client)} {a1 : ByteArray} {R0 : T_impl_Client} {R1 : Bool} (H : impl_Client_ a0 a1 = some (R0, R1)) : Pure Go.Proofs.Tryz.prog 35 [.im b0 (a0.map (c_T_impl_Client false)), .fn 36 [] [], .str a1] (.tup [.agg (c_T_impl_Client false R0), .bool R1]) := by
 refine CallT.of_TN (n := 25) Go.Proofs.Tryz.func35 rfl rfl rfl rfl ?_
 refine T.seq (T.region (TL.st rfl rfl rfl (o_alloc rfl ⟨_, rfl, rfl⟩) (TL.st rfl rfl rfl (o_assign rfl rfl) (TL.nil (thn_normal (T.seq (T.seq (T.region (TL.st rfl rfl rfl (o_move rfl rfl) (TL.st rfl rfl rfl (o_lenL (f := c_T_impl_Client false) rfl rfl rfl) ?_))))))))))
 refine TL.st rfl rfl rfl (o_move rfl rfl) (TL.nil (thn_normal (T.block ?_)))
 obtain ⟨q8, h9, H⟩ := bind_s H
 refine T.lq (fun s => match s with | v1 => [(1, .fn 36 [] []), (2, .str a1), (6, .bx 0 0), (11, .im b0 (a0.map (c_T_impl_Client false))), (12, .int .i64 (a0.length : Int)), (13, .int .i64 v1)]) (fun s => match s with | v1 => [.box [.str (ByteArray.mk #[]), .nilS, .nilS, .nilS, .nilS]]) (fun q ex fr σ => match q with | .inl _ => ex = .exit 0 ∧ fr = [(6, .bx 0 0)] ∧ σ = [.box [.str (ByteArray.mk #[]), .nilS, .nilS, .nilS, .nilS]] | .inr q2 => ex = .ret ∧ RetN Go.Proofs.Tryz.prog [.cell 6 50, .tmp 7] (fun v τ => Told τ v (.tup [.agg (c_T_impl_Client false q2.1), .bool q2.2])) .ret fr σ) h9 ?_ ?_
 ·rintro v1 y3 H
  refine T.seq (T.region (TL.st rfl rfl rfl (o_ari rfl rfl rfl rfl) (TL.nil (thn_normal (T.seq ?_)))))
  refine T.cond (decide (v1 < (a0.length : Int))) rfl (fun h => ?_) (fun h => ?_)
  ·replace H := cond_t h H
   refine T.skip (thn_normal (T.seq (T.block (T.seq (T.region ?_)))))
   obtain ⟨e4, h5, H⟩ := bind_s H
   refine TL.st rfl rfl rfl (o_ix (f := c_T_impl_Client false) rfl rfl tyS_50 rfl rfl h5 rfl) ?_
   refine TL.st rfl rfl rfl (o_loadRf rfl tyS_50 rfl (Nat.le_of_ble_eq_true rfl) rfl) ?_
   refine TL.st rfl rfl rfl (o_alloc rfl ⟨_, rfl, rfl⟩) (TL.sn rfl rfl (o_storeBx rfl tyS_50 rfl rfl rfl rfl (Nat.le_of_ble_eq_true rfl) rfl) ?_)
   refine TL.nil (thn_normal (T.seq (T.region (TL.st rfl rfl rfl (o_move rfl rfl) (TL.st rfl rfl rfl (o_loadBx rfl tyS_50 rfl rfl (Nat.le_of_ble_eq_true rfl) rfl) ?_)))))
   obtain ⟨r6, h7, H⟩ := bind_s H
   refine TL.st rfl rfl rfl (o_callP rfl en_36 rfl rfl (.cons _ _ _ _ (.cl _ rfl) .nil) (impl_AttackConf_yclient_1_p false h7)) ?_
   refine TL.st rfl rfl rfl (o_move rfl rfl) (TL.st rfl rfl rfl (o_str rfl rfl rfl rfl) ?_)
   refine TL.nil (thn_normal ?_)
   refine T.cond ((r6.toList == a1.toList)) rfl (fun h => ?_) (fun h => ?_)
   ·replace H := cond_t h H
    refine T.seq (T.region (TL.st rfl rfl rfl (o_loadBx rfl tyS_50 rfl rfl (Nat.le_of_ble_eq_true rfl) rfl) ?_))
    refine TL.sn rfl rfl (o_storeBx rfl tyS_50 rfl rfl rfl rfl (Nat.le_of_ble_eq_true rfl) rfl) ?_
    refine TL.st rfl rfl rfl (o_assign rfl rfl) (TL.nil (thn_normal (T.conv (Cs.eqS (σ' := [.box (c_T_impl_Client false e4), .box (c_T_impl_Client false e4)]) rfl) ?_)))
    refine T.ret (inB_ret (thn_ret ?_))
    exact Pk.id (thn_ret ⟨.inr (e4, true), (some_i H).symm, rfl, ⟨trivial, _, (.cell _ _ _ _ _ _ _ _ _ _ rfl rfl tyS_50 (Nat.le_of_ble_eq_true rfl) rfl (.tmp _ _ _ _ rfl .nil)), (.tupL (.cons _ _ _ _ (.cl _ rfl) (.cons _ _ _ _ (.cl _ rfl) .nil)))⟩⟩)
   ·replace H := cond_f h H
    refine T.skip (inB_normal (thn_normal (T.region (TL.st rfl rfl rfl (o_ari rfl rfl rfl rfl) (TL.st rfl rfl rfl (o_move rfl rfl) (TL.nil ?_))))))
    exact Pk.of (thn_normal ⟨(IntKind.i64.wrap (v1 + 1)), (some_i H).symm, rfl, rfl⟩)
  ·replace H := cond_f h H
   refine T.exit (thn_exit ?_)
   exact Pk.of (thn_exit ⟨.inl (), (some_i H).symm, rfl, rfl, rfl⟩)
 ·rcases q8 with ⟨⟩ | q2
  ·rintro _ _ _ ⟨rfl, rfl, rfl⟩
   refine inB_here (thn_normal (T.seq (T.region (TL.st rfl rfl rfl (o_alloc rfl ⟨_, rfl, rfl⟩) (TL.nil (thn_normal (T.seq (T.region (TL.st rfl rfl rfl (o_loadBx rfl tyS_50 rfl rfl (Nat.le_of_ble_eq_true rfl) rfl) ?_)))))))))
   refine TL.sn rfl rfl (o_storeBx rfl tyS_50 rfl rfl rfl rfl (Nat.le_of_ble_eq_true rfl) rfl) ?_
   refine TL.st rfl rfl rfl (o_assign rfl rfl) (TL.nil (thn_normal (T.ret ?_)))
   cases some_i H
   exact ⟨trivial, _, (.cell _ _ _ _ _ _ _ _ _ _ rfl rfl tyS_50 (Nat.le_of_ble_eq_true rfl) rfl (.tmp _ _ _ _ rfl .nil)), (.tupL (.cons _ _ _ _ (.aggL (.cons _ _ _ _ (.cl _ rfl) (.cons _ _ _ _ .nil (.cons _ _ _ _ .nil (.cons _ _ _ _ .nil (.cons _ _ _ _ .nil .nil)))))) (.cons _ _ _ _ (.cl _ rfl) .nil)))⟩
  ·rintro _ fr1 σ1 ⟨rfl, hr⟩
   refine inB_ret (thn_ret ?_)
   cases some_i H
   exact hr
theorem en_35 (us : Array Value) (w : World) : (callFunc 35 us).run Go.Proofs.Tryz.prog w = .ok (.enter 35 us) w := enters Go.Proofs.Tryz.func35 rfl rfl us w
noncomputable def impl_AttackConf_yclient (a0 : T_impl_AttackConf) : Option (T_impl_Client × Bool) :=
  (impl_Client_ a0.Server_.Clients_ a0.Client_).bind fun q => (match q with | (r1, r2) => some (r1, r2))
theorem impl_AttackConf_yclient_p (b0 : Bool) {a0 : T_impl_AttackConf} {R0 : T_impl_Client} {R1 : Bool} (H : impl_AttackConf_yclient a0 = some (R0, R1)) : Pure Go.Proofs.Tryz.prog 20 [.agg (c_T_impl_AttackConf b0 a0)] (.tup [.agg (c_T_impl_Client false R0), .bool R1]) := by
 refine CallT.of_TN (n := 12) Go.Proofs.Tryz.func20 rfl rfl rfl rfl ?_
 refine T.seq (T.region (TL.st rfl rfl rfl (o_box rfl rfl rfl) (TL.st rfl rfl rfl (o_alloc rfl ⟨_, rfl, rfl⟩) (TL.st rfl rfl rfl (o_assign rfl rfl) (TL.nil (thn_normal (T.seq (T.region (TL.st rfl rfl rfl (o_fieldAddr rfl rfl rfl tyS_25 (by decide) rfl rfl ⟨_, rfl, Nat.le_of_ble_eq_true rfl⟩) ?_)))))))))
 refine TL.st rfl rfl rfl (o_fieldAddr rfl rfl rfl tyS_23 (by decide) rfl rfl ⟨_, rfl, Nat.le_of_ble_eq_true rfl⟩) ?_
 refine TL.st rfl rfl rfl (o_loadBx rfl tyS_23 rfl rfl (Nat.le_of_ble_eq_true rfl) rfl) ?_
 refine TL.st rfl rfl rfl (o_fieldAddr rfl rfl rfl tyS_9 (by decide) rfl rfl ⟨_, rfl, Nat.le_of_ble_eq_true rfl⟩) ?_
 refine TL.st rfl rfl rfl (o_loadBx rfl tyS_9 rfl rfl (Nat.le_of_ble_eq_true rfl) rfl) ?_
 obtain ⟨⟨r1, r2⟩, h3, H⟩ := bind_s H
 refine TL.st rfl rfl rfl (o_callP rfl en_35 rfl rfl (.cons _ _ _ _ (.imv _ _) (.cons _ _ _ _ (.fn _ _ _ _ _ rfl rfl (fun i c d h => by simp at h) (fun i c d h => by simp at h)) (.cons _ _ _ _ (.cl _ rfl) .nil))) (impl_Client__p b0 h3)) ?_
 refine TL.st rfl rfl rfl (o_extract rfl rfl rfl) (TL.st rfl rfl rfl (o_extract rfl rfl rfl) (TL.sn rfl rfl (o_storeBx rfl tyS_50 rfl rfl rfl rfl (Nat.le_of_ble_eq_true rfl) rfl) ?_))
 refine TL.st rfl rfl rfl (o_assign rfl rfl) (TL.nil (thn_normal (T.conv (Cs.eqS (σ' := [.box (c_T_impl_AttackConf b0 a0), .box (c_T_impl_Client false r1)]) rfl) ?_)))
 refine T.ret ?_
 cases some_i H
 exact ⟨trivial, _, (.cell _ _ _ _ _ _ _ _ _ _ rfl rfl tyS_50 (Nat.le_of_ble_eq_true rfl) rfl (.tmp _ _ _ _ rfl .nil)), (.tupL (.cons _ _ _ _ (.cl _ rfl) (.cons _ _ _ _ (.cl _ rfl) .nil)))⟩
theorem en_20 (us : Array Value) (w : World) : (callFunc 20 us).run Go.Proofs.Tryz.prog w = .ok (.enter 20 us) w := enters Go.Proofs.Tryz.func20 rfl rfl us w
noncomputable def impl_yletter (a0 : Int) : Option Bool :=
  some ((decide (a0 ≥ 97) && decide (a0 ≤ 122)) || (decide (a0 ≥ 65) && decide (a0 ≤ 90)))
theorem impl_yletter_p  {a0 : Int} {R0 : Bool} (H : impl_yletter a0 = some R0) : Pure Go.Proofs.Tryz.prog 86 [.int .u8 a0] (.bool R0) := by
 refine CallT.of_TN (n := 17) Go.Proofs.Tryz.func86 rfl rfl rfl rfl ?_
 refine T.seq (T.region (TL.st rfl rfl rfl (o_assign rfl rfl) (TL.nil (thn_normal (T.seq (T.region (TL.st rfl rfl rfl (o_move rfl rfl) (TL.st rfl rfl rfl (o_ari rfl rfl rfl rfl) (TL.st rfl rfl rfl (o_move rfl rfl) (TL.gcq rfl rfl rfl (.bool _) rfl rfl (fun h => o_move rfl rfl) (TL.gcq rfl rfl rfl (.bool _) rfl rfl (fun h => o_ari rfl (gv h rfl) rfl rfl) ?_)))))))))))
 refine TL.st rfl rfl rfl (o_and rfl rfl rfl (fun k => Gd_t k) rfl) (TL.st rfl rfl rfl (o_move rfl rfl) (TL.gcq rfl rfl rfl (.bool _) rfl rfl (fun h => o_move rfl rfl) (TL.gcq rfl rfl rfl (.bool _) rfl rfl (fun h => o_ari rfl (gv h rfl) rfl rfl) ?_)))
 refine TL.gcq rfl rfl rfl (.bool _) rfl rfl (fun h => o_move rfl (gv h rfl)) ?_
 refine TL.gcq rfl rfl rfl (.gd _ _) rfl rfl (fun h => o_move rfl rfl) ?_
 refine TL.gcq rfl rfl rfl (.gd _ _) rfl rfl (fun h => o_ari rfl (gv h rfl) rfl rfl) ?_
 refine TL.gcq rfl rfl rfl (.bool _) rfl rfl (fun h => o_and rfl (gv h rfl) rfl (fun k => Gd_t (andi h k)) rfl) ?_
 refine TL.st rfl rfl rfl (o_or rfl rfl rfl rfl (fun k => Gd_t k)) (TL.st rfl rfl rfl (o_assign rfl rfl) (TL.nil (thn_normal (T.ret ?_))))
 cases some_i H
 exact ⟨trivial, _, (.tmp _ _ _ _ rfl .nil), (.cl _ rfl)⟩
theorem en_86 (us : Array Value) (w : World) : (callFunc 86 us).run Go.Proofs.Tryz.prog w = .ok (.enter 86 us) w := enters Go.Proofs.Tryz.func86 rfl rfl us w
noncomputable def impl_ydigit (a0 : Int) : Option Bool :=
  some (decide (a0 ≥ 48) && decide (a0 ≤ 57))
theorem impl_ydigit_p  {a0 : Int} {R0 : Bool} (H : impl_ydigit a0 = some R0) : Pure Go.Proofs.Tryz.prog 87 [.int .u8 a0] (.bool R0) := by
 refine CallT.of_TN (n := 9) Go.Proofs.Tryz.func87 rfl rfl rfl rfl ?_
 refine T.seq (T.region (TL.st rfl rfl rfl (o_assign rfl rfl) (TL.nil (thn_normal (T.seq (T.region (TL.st rfl rfl rfl (o_move rfl rfl) (TL.st rfl rfl rfl (o_ari rfl rfl rfl rfl) (TL.st rfl rfl rfl (o_move rfl rfl) (TL.gcq rfl rfl rfl (.bool _) rfl rfl (fun h => o_move rfl rfl) (TL.gcq rfl rfl rfl (.bool _) rfl rfl (fun h => o_ari rfl (gv h rfl) rfl rfl) ?_)))))))))))
 refine TL.st rfl rfl rfl (o_and rfl rfl rfl (fun k => Gd_t k) rfl) (TL.st rfl rfl rfl (o_assign rfl rfl) (TL.nil (thn_normal (T.ret ?_))))
 cases some_i H
 exact ⟨trivial, _, (.tmp _ _ _ _ rfl .nil), (.cl _ rfl)⟩
theorem en_87 (us : Array Value) (w : World) : (callFunc 87 us).run Go.Proofs.Tryz.prog w = .ok (.enter 87 us) w := enters Go.Proofs.Tryz.func87 rfl rfl us w
noncomputable def impl_ywordByte (a0 : Int) : Option Bool :=
  (impl_yletter a0).bind fun r1 => (gdO (!r1) (impl_ydigit a0)).bind fun r3 => some ((r1 || r3) || (a0 == 95))
theorem impl_ywordByte_p  {a0 : Int} {R0 : Bool} (H : impl_ywordByte a0 = some R0) : Pure Go.Proofs.Tryz.prog 74 [.int .u8 a0] (.bool R0) := by
 refine CallT.of_TN (n := 13) Go.Proofs.Tryz.func74 rfl rfl rfl rfl ?_
 refine T.seq (T.region (TL.st rfl rfl rfl (o_assign rfl rfl) (TL.nil (thn_normal (T.seq (T.region (TL.st rfl rfl rfl (o_move rfl rfl) ?_)))))))
 obtain ⟨r1, h2, H⟩ := bind_s H
 refine TL.st rfl rfl rfl (o_callP rfl en_86 rfl rfl (.cons _ _ _ _ (.cl _ rfl) .nil) (impl_yletter_p  h2)) ?_
 refine TL.st rfl rfl rfl (o_move rfl rfl) (TL.gcq rfl rfl rfl (.bool _) rfl rfl (fun h => o_move rfl rfl) ?_)
 obtain ⟨r3, h4, H⟩ := bind_s H
 refine TL.gcq rfl rfl rfl (.bool _) rfl rfl (fun h => o_callP rfl en_87 rfl (evl_1 (gv h rfl)) (.cons _ _ _ _ (.cl _ rfl) .nil) (impl_ydigit_p  (gdO_t h4 h))) ?_
 refine TL.st rfl rfl rfl (o_or rfl rfl rfl rfl (fun k => Gd_t k)) (TL.st rfl rfl rfl (o_move rfl rfl) (TL.gcq rfl rfl rfl (.bool _) rfl rfl (fun h => o_move rfl rfl) (TL.gcq rfl rfl rfl (.bool _) rfl rfl (fun h => o_ari rfl (gv h rfl) rfl rfl) ?_)))
 refine TL.st rfl rfl rfl (o_or rfl rfl rfl rfl (fun k => Gd_t k)) (TL.st rfl rfl rfl (o_assign rfl rfl) (TL.nil (thn_normal (T.ret ?_))))
 cases some_i H
 exact ⟨trivial, _, (.tmp _ _ _ _ rfl .nil), (.cl _ rfl)⟩
theorem en_74 (us : Array Value) (w : World) : (callFunc 74 us).run Go.Proofs.Tryz.prog w = .ok (.enter 74 us) w := enters Go.Proofs.Tryz.func74 rfl rfl us w
noncomputable def impl_ygoodId_l1 (a0 : ByteArray) : Int → Option (Int ⊕ (Unit ⊕ Bool)) := fun s => match s with
  | v1 => cond (decide (v1 < (a0.size : Int))) ((idxS a0 v1).bind fun b4 => (impl_ywordByte b4).bind fun r6 => (gdO (!r6) (idxS a0 v1)).bind fun b8 => (gdO ((!r6) && (b8 != 45)) (idxS a0 v1)).bind fun b10 => cond (((!r6) && (b8 != 45)) && (b10 != 46)) (some (.inr (.inr false))) (some (.inl (IntKind.i64.wrap (v1 + 1))))) (some (.inr (.inl ())))
noncomputable def impl_ygoodId (a0 : ByteArray) : Option Bool :=
  cond (decide ((a0.size : Int) < 1) || decide ((a0.size : Int) > 40)) (some false) ((loopO (impl_ygoodId_l1 a0) 0).bind fun q12 => (match q12 with | .inl _ => some true | .inr q2 => some q2))
theorem impl_ygoodId_p  {a0 : ByteArray} {R0 : Bool} (H : impl_ygoodId a0 = some R0) : Pure Go.Proofs.Tryz.prog 48 [.str a0] (.bool R0) := by
 refine CallT.of_TN (n := 35) Go.Proofs.Tryz.func48 rfl rfl rfl rfl ?_
 refine T.seq (T.region (TL.st rfl rfl rfl (o_assign rfl rfl) (TL.nil (thn_normal (T.seq (T.seq (T.region (TL.st rfl rfl rfl (o_move rfl rfl) (TL.st rfl rfl rfl (o_lenS rfl rfl rfl) ?_)))))))))
 refine TL.st rfl rfl rfl (o_ari rfl rfl rfl rfl) (TL.st rfl rfl rfl (o_move rfl rfl) (TL.gcq rfl rfl rfl (.bool _) rfl rfl (fun h => o_move rfl rfl) (TL.gcq rfl rfl rfl (.bool _) rfl rfl (fun h => o_lenS rfl rfl (gv h rfl)) ?_)))
 refine TL.gcq rfl rfl rfl (.bool _) rfl rfl (fun h => o_ari rfl (gv h rfl) rfl rfl) ?_
 refine TL.st rfl rfl rfl (o_or rfl rfl rfl rfl (fun k => Gd_t k)) (TL.nil (thn_normal ?_))
 refine T.cond ((decide ((a0.size : Int) < 1) || decide ((a0.size : Int) > 40))) rfl (fun h => ?_) (fun h => ?_)
 ·replace H := cond_t h H
  refine T.seq (T.region (TL.st rfl rfl rfl (o_assign rfl rfl) (TL.nil (thn_normal (T.ret (thn_ret ?_))))))
  cases some_i H
  exact ⟨trivial, _, (.tmp _ _ _ _ rfl .nil), (.cl _ rfl)⟩
 ·replace H := cond_f h H
  refine T.skip (thn_normal (T.seq (T.seq (T.region (TL.st rfl rfl rfl (o_move rfl rfl) (TL.st rfl rfl rfl (o_lenS rfl rfl rfl) ?_))))))
  refine TL.st rfl rfl rfl (o_move rfl rfl) (TL.nil (thn_normal (T.block ?_)))
  obtain ⟨q12, h13, H⟩ := bind_s H
  refine T.lq (fun s => match s with | v1 => [(0, .str a0), (13, .int .i64 (a0.size : Int)), (14, .int .i64 v1)]) (fun s => match s with | v1 => []) (fun q ex fr σ => match q with | .inl _ => ex = .exit 0 ∧ fr = [] ∧ σ = [] | .inr q2 => ex = .ret ∧ RetN Go.Proofs.Tryz.prog [.tmp 2] (fun v τ => Told τ v (.bool q2)) .ret fr σ) h13 ?_ ?_
  ·rintro v1 y3 H
   refine T.seq (T.region (TL.st rfl rfl rfl (o_ari rfl rfl rfl rfl) (TL.nil (thn_normal (T.seq ?_)))))
   refine T.cond (decide (v1 < (a0.size : Int))) rfl (fun h => ?_) (fun h => ?_)
   ·replace H := cond_t h H
    refine T.skip (thn_normal (T.seq (T.block (T.seq (T.region (TL.st rfl rfl rfl (o_move rfl rfl) (TL.st rfl rfl rfl (o_assign rfl rfl) (TL.nil (thn_normal (T.seq (T.region (TL.st rfl rfl rfl (o_move rfl rfl) (TL.st rfl rfl rfl (o_move rfl rfl) ?_)))))))))))))
    obtain ⟨b4, h5, H⟩ := bind_s H
    refine TL.st rfl rfl rfl (o_ixs rfl rfl rfl rfl h5) ?_
    obtain ⟨r6, h7, H⟩ := bind_s H
    refine TL.st rfl rfl rfl (o_callP rfl en_74 rfl rfl (.cons _ _ _ _ (.cl _ rfl) .nil) (impl_ywordByte_p  h7)) ?_
    refine TL.st rfl rfl rfl (o_not rfl rfl) ?_
    refine TL.st rfl rfl rfl (o_move rfl rfl) (TL.gcq rfl rfl rfl (.bool _) rfl rfl (fun h => o_move rfl rfl) (TL.gcq rfl rfl rfl (.bool _) rfl rfl (fun h => o_move rfl rfl) ?_))
    obtain ⟨b8, h9, H⟩ := bind_s H
    refine TL.gcq rfl rfl rfl (.bool _) rfl rfl (fun h => o_ixs rfl rfl (gv h rfl) (gv h rfl) (gdO_t h9 h)) ?_
    refine TL.gcq rfl rfl rfl (.bool _) rfl rfl (fun h => o_ari rfl (gv h rfl) rfl rfl) ?_
    refine TL.st rfl rfl rfl (o_and rfl rfl rfl (fun k => Gd_t k) rfl) (TL.st rfl rfl rfl (o_move rfl rfl) (TL.gcq rfl rfl rfl (.bool _) rfl rfl (fun h => o_move rfl rfl) (TL.gcq rfl rfl rfl (.bool _) rfl rfl (fun h => o_move rfl rfl) ?_)))
    obtain ⟨b10, h11, H⟩ := bind_s H
    refine TL.gcq rfl rfl rfl (.bool _) rfl rfl (fun h => o_ixs rfl rfl (gv h rfl) (gv h rfl) (gdO_t h11 h)) ?_
    refine TL.gcq rfl rfl rfl (.bool _) rfl rfl (fun h => o_ari rfl (gv h rfl) rfl rfl) ?_
    refine TL.st rfl rfl rfl (o_and rfl rfl rfl (fun k => Gd_t k) rfl) (TL.nil (thn_normal ?_))
    refine T.cond ((((!r6) && (b8 != 45)) && (b10 != 46))) rfl (fun h => ?_) (fun h => ?_)
    ·replace H := cond_t h H
     refine T.seq (T.region (TL.st rfl rfl rfl (o_assign rfl rfl) (TL.nil (thn_normal (T.ret (inB_ret (thn_ret ?_)))))))
     exact Pk.id (thn_ret ⟨.inr false, (some_i H).symm, rfl, ⟨trivial, _, (.tmp _ _ _ _ rfl .nil), (.cl _ rfl)⟩⟩)
    ·replace H := cond_f h H
     refine T.skip (inB_normal (thn_normal (T.region (TL.st rfl rfl rfl (o_ari rfl rfl rfl rfl) (TL.st rfl rfl rfl (o_move rfl rfl) (TL.nil ?_))))))
     exact Pk.of (thn_normal ⟨(IntKind.i64.wrap (v1 + 1)), (some_i H).symm, rfl, rfl⟩)
   ·replace H := cond_f h H
    refine T.exit (thn_exit ?_)
    exact Pk.of (thn_exit ⟨.inl (), (some_i H).symm, rfl, rfl, rfl⟩)
  ·rcases q12 with ⟨⟩ | q2
   ·rintro _ _ _ ⟨rfl, rfl, rfl⟩
    refine inB_here (thn_normal (T.seq (T.region (TL.st rfl rfl rfl (o_assign rfl rfl) (TL.nil (thn_normal (T.ret ?_)))))))
    cases some_i H
    exact ⟨trivial, _, (.tmp _ _ _ _ rfl .nil), (.cl _ rfl)⟩
   ·rintro _ fr1 σ1 ⟨rfl, hr⟩
    refine inB_ret (thn_ret ?_)
    cases some_i H
    exact hr
theorem en_48 (us : Array Value) (w : World) : (callFunc 48 us).run Go.Proofs.Tryz.prog w = .ok (.enter 48 us) w := enters Go.Proofs.Tryz.func48 rfl rfl us w
theorem tyS_30 : TyS Go.Proofs.Tryz.prog 30 false 1 := ⟨rfl, rfl⟩
noncomputable def impl_yrising_l1 (a0 : (List ByteArray)) : Int → Option (Int ⊕ (Unit ⊕ Bool)) := fun s => match s with
  | v1 => cond (decide (v1 < (a0.length : Int))) ((idx a0 v1).bind fun e4 => (gdO (decide (v1 > 0)) (idx a0 (IntKind.i64.wrap (v1 - 1)))).bind fun e6 => cond (decide (v1 > 0) && (!(Op.bytesLess e6.toList e4.toList))) (some (.inr (.inr false))) (some (.inl (IntKind.i64.wrap (v1 + 1))))) (some (.inr (.inl ())))
noncomputable def impl_yrising (a0 : (List ByteArray)) : Option Bool :=
  (loopO (impl_yrising_l1 a0) 0).bind fun q8 => (match q8 with | .inl _ => some true | .inr q2 => some q2)
theorem impl_yrising_p (b0 : Bool) {a0 : (List ByteArray)} {R0 : Bool} (H : impl_yrising a0 = some R0) : Pure Go.Proofs.Tryz.prog 75 [.im b0 (a0.map (c_str))] (.bool R0) := by
 refine CallT.of_TN (n := 24) Go.Proofs.Tryz.func75 rfl rfl rfl rfl ?_
 refine T.seq (T.region (TL.st rfl rfl rfl (o_assign rfl rfl) (TL.nil (thn_normal (T.seq (T.seq (T.region (TL.st rfl rfl rfl (o_move rfl rfl) (TL.st rfl rfl rfl (o_lenL (f := c_str) rfl rfl rfl) ?_)))))))))
 refine TL.st rfl rfl rfl (o_move rfl rfl) (TL.nil (thn_normal (T.block ?_)))
 obtain ⟨q8, h9, H⟩ := bind_s H
 refine T.lq (fun s => match s with | v1 => [(0, .im b0 (a0.map (c_str))), (5, .im b0 (a0.map (c_str))), (6, .int .i64 (a0.length : Int)), (7, .int .i64 v1)]) (fun s => match s with | v1 => []) (fun q ex fr σ => match q with | .inl _ => ex = .exit 0 ∧ fr = [] ∧ σ = [] | .inr q2 => ex = .ret ∧ RetN Go.Proofs.Tryz.prog [.tmp 2] (fun v τ => Told τ v (.bool q2)) .ret fr σ) h9 ?_ ?_
 ·rintro v1 y3 H
  refine T.seq (T.region (TL.st rfl rfl rfl (o_ari rfl rfl rfl rfl) (TL.nil (thn_normal (T.seq ?_)))))
  refine T.cond (decide (v1 < (a0.length : Int))) rfl (fun h => ?_) (fun h => ?_)
  ·replace H := cond_t h H
   refine T.skip (thn_normal (T.seq (T.block (T.seq (T.region (TL.st rfl rfl rfl (o_move rfl rfl) ?_))))))
   obtain ⟨e4, h5, H⟩ := bind_s H
   refine TL.st rfl rfl rfl (o_ix (f := c_str) rfl rfl tyS_9 rfl rfl h5 rfl) ?_
   refine TL.st rfl rfl rfl (o_loadRf rfl tyS_9 rfl (Nat.le_of_ble_eq_true rfl) rfl) ?_
   refine TL.st rfl rfl rfl (o_assign rfl rfl) (TL.st rfl rfl rfl (o_assign rfl rfl) (TL.nil (thn_normal (T.seq (T.region (TL.st rfl rfl rfl (o_move rfl rfl) (TL.st rfl rfl rfl (o_ari rfl rfl rfl rfl) (TL.st rfl rfl rfl (o_move rfl rfl) (TL.gcq rfl rfl rfl (.bool _) rfl rfl (fun h => o_move rfl rfl) (TL.gcq rfl rfl rfl (.bool _) rfl rfl (fun h => o_move rfl rfl) (TL.gcq rfl rfl rfl (.bool _) rfl rfl (fun h => o_ari rfl (gv h rfl) rfl rfl) ?_)))))))))))
   obtain ⟨e6, h7, H⟩ := bind_s H
   refine TL.gcq rfl rfl rfl (.bool _) rfl rfl (fun h => o_ix (f := c_str) rfl rfl tyS_9 (gv h rfl) (gv h rfl) (gdO_t h7 h) rfl) ?_
   refine TL.gcq rfl rfl rfl (.bool _) rfl rfl (fun h => o_loadRf rfl tyS_9 (gv h rfl) (Nat.le_of_ble_eq_true rfl) rfl) ?_
   refine TL.gcq rfl rfl rfl (.bool _) rfl rfl (fun h => o_move rfl rfl) (TL.gcq rfl rfl rfl (.bool _) rfl rfl (fun h => o_str rfl (gv h rfl) (gv h rfl) rfl) ?_)
   refine TL.st rfl rfl rfl (o_and rfl rfl rfl (fun k => Gd_t k) rfl) (TL.nil (thn_normal ?_))
   refine T.cond ((decide (v1 > 0) && (!(Op.bytesLess e6.toList e4.toList)))) rfl (fun h => ?_) (fun h => ?_)
   ·replace H := cond_t h H
    refine T.seq (T.region (TL.st rfl rfl rfl (o_assign rfl rfl) (TL.nil (thn_normal (T.ret (inB_ret (thn_ret ?_)))))))
    exact Pk.id (thn_ret ⟨.inr false, (some_i H).symm, rfl, ⟨trivial, _, (.tmp _ _ _ _ rfl .nil), (.cl _ rfl)⟩⟩)
   ·replace H := cond_f h H
    refine T.skip (inB_normal (thn_normal (T.region (TL.st rfl rfl rfl (o_ari rfl rfl rfl rfl) (TL.st rfl rfl rfl (o_move rfl rfl) (TL.nil ?_))))))
    exact Pk.of (thn_normal ⟨(IntKind.i64.wrap (v1 + 1)), (some_i H).symm, rfl, rfl⟩)
  ·replace H := cond_f h H
   refine T.exit (thn_exit ?_)
   exact Pk.of (thn_exit ⟨.inl (), (some_i H).symm, rfl, rfl, rfl⟩)
 ·rcases q8 with ⟨⟩ | q2
  ·rintro _ _ _ ⟨rfl, rfl, rfl⟩
   refine inB_here (thn_normal (T.seq (T.region (TL.st rfl rfl rfl (o_assign rfl rfl) (TL.nil (thn_normal (T.ret ?_)))))))
   cases some_i H
   exact ⟨trivial, _, (.tmp _ _ _ _ rfl .nil), (.cl _ rfl)⟩
  ·rintro _ fr1 σ1 ⟨rfl, hr⟩
   refine inB_ret (thn_ret ?_)
   cases some_i H
   exact hr
theorem en_75 (us : Array Value) (w : World) : (callFunc 75 us).run Go.Proofs.Tryz.prog w = .ok (.enter 75 us) w := enters Go.Proofs.Tryz.func75 rfl rfl us w
noncomputable def impl_GoodName_l1 (a0 : ByteArray) : Int → Option (Int ⊕ (Unit ⊕ Bool)) := fun s => match s with
  | v5 => cond (decide (v5 < (a0.size : Int))) ((idxS a0 v5).bind fun b8 => (impl_ywordByte b8).bind fun r10 => cond (!r10) (some (.inr (.inr false))) (some (.inl (IntKind.i64.wrap (v5 + 1))))) (some (.inr (.inl ())))
noncomputable def impl_GoodName (a0 : ByteArray) : Option Bool :=
  (gdO (!((a0.toList == (ByteArray.mk #[]).toList) || decide ((a0.size : Int) > 30))) (idxS a0 0)).bind fun b1 => (gdO (!((a0.toList == (ByteArray.mk #[]).toList) || decide ((a0.size : Int) > 30))) (impl_ydigit b1)).bind fun r3 => cond (((a0.toList == (ByteArray.mk #[]).toList) || decide ((a0.size : Int) > 30)) || r3) (some false) ((loopO (impl_GoodName_l1 a0) 0).bind fun q12 => (match q12 with | .inl _ => some true | .inr q6 => some q6))
theorem impl_GoodName_p  {a0 : ByteArray} {R0 : Bool} (H : impl_GoodName a0 = some R0) : Pure Go.Proofs.Tryz.prog 80 [.str a0] (.bool R0) := by
 refine CallT.of_TN (n := 27) Go.Proofs.Tryz.func80 rfl rfl rfl rfl ?_
 refine T.seq (T.region (TL.st rfl rfl rfl (o_assign rfl rfl) (TL.nil (thn_normal (T.seq (T.seq (T.region (TL.st rfl rfl rfl (o_move rfl rfl) (TL.st rfl rfl rfl (o_str rfl rfl rfl rfl) ?_)))))))))
 refine TL.st rfl rfl rfl (o_move rfl rfl) (TL.gcq rfl rfl rfl (.bool _) rfl rfl (fun h => o_move rfl rfl) (TL.gcq rfl rfl rfl (.bool _) rfl rfl (fun h => o_lenS rfl rfl (gv h rfl)) ?_))
 refine TL.gcq rfl rfl rfl (.bool _) rfl rfl (fun h => o_ari rfl (gv h rfl) rfl rfl) ?_
 refine TL.st rfl rfl rfl (o_or rfl rfl rfl rfl (fun k => Gd_t k)) (TL.st rfl rfl rfl (o_move rfl rfl) (TL.gcq rfl rfl rfl (.bool _) rfl rfl (fun h => o_move rfl rfl) ?_))
 obtain ⟨b1, h2, H⟩ := bind_s H
 refine TL.gcq rfl rfl rfl (.bool _) rfl rfl (fun h => o_ixs rfl rfl (gv h rfl) rfl (gdO_t h2 h)) ?_
 obtain ⟨r3, h4, H⟩ := bind_s H
 refine TL.gcq rfl rfl rfl (.bool _) rfl rfl (fun h => o_callP rfl en_87 rfl (evl_1 (gv h rfl)) (.cons _ _ _ _ (.cl _ rfl) .nil) (impl_ydigit_p  (gdO_t h4 h))) ?_
 refine TL.st rfl rfl rfl (o_or rfl rfl rfl rfl (fun k => Gd_t k)) (TL.nil (thn_normal ?_))
 refine T.cond ((((a0.toList == (ByteArray.mk #[]).toList) || decide ((a0.size : Int) > 30)) || r3)) rfl (fun h => ?_) (fun h => ?_)
 ·replace H := cond_t h H
  refine T.seq (T.region (TL.st rfl rfl rfl (o_assign rfl rfl) (TL.nil (thn_normal (T.ret (thn_ret ?_))))))
  cases some_i H
  exact ⟨trivial, _, (.tmp _ _ _ _ rfl .nil), (.cl _ rfl)⟩
 ·replace H := cond_f h H
  refine T.skip (thn_normal (T.seq (T.seq (T.region (TL.st rfl rfl rfl (o_move rfl rfl) (TL.st rfl rfl rfl (o_lenS rfl rfl rfl) ?_))))))
  refine TL.st rfl rfl rfl (o_move rfl rfl) (TL.nil (thn_normal (T.block ?_)))
  obtain ⟨q12, h13, H⟩ := bind_s H
  refine T.lq (fun s => match s with | v5 => [(0, .str a0), (17, .int .i64 (a0.size : Int)), (18, .int .i64 v5)]) (fun s => match s with | v5 => []) (fun q ex fr σ => match q with | .inl _ => ex = .exit 0 ∧ fr = [] ∧ σ = [] | .inr q6 => ex = .ret ∧ RetN Go.Proofs.Tryz.prog [.tmp 2] (fun v τ => Told τ v (.bool q6)) .ret fr σ) h13 ?_ ?_
  ·rintro v5 y7 H
   refine T.seq (T.region (TL.st rfl rfl rfl (o_ari rfl rfl rfl rfl) (TL.nil (thn_normal (T.seq ?_)))))
   refine T.cond (decide (v5 < (a0.size : Int))) rfl (fun h => ?_) (fun h => ?_)
   ·replace H := cond_t h H
    refine T.skip (thn_normal (T.seq (T.block (T.seq (T.region (TL.st rfl rfl rfl (o_move rfl rfl) (TL.st rfl rfl rfl (o_assign rfl rfl) (TL.nil (thn_normal (T.seq (T.region (TL.st rfl rfl rfl (o_move rfl rfl) (TL.st rfl rfl rfl (o_move rfl rfl) ?_)))))))))))))
    obtain ⟨b8, h9, H⟩ := bind_s H
    refine TL.st rfl rfl rfl (o_ixs rfl rfl rfl rfl h9) ?_
    obtain ⟨r10, h11, H⟩ := bind_s H
    refine TL.st rfl rfl rfl (o_callP rfl en_74 rfl rfl (.cons _ _ _ _ (.cl _ rfl) .nil) (impl_ywordByte_p  h11)) ?_
    refine TL.st rfl rfl rfl (o_not rfl rfl) ?_
    refine TL.nil (thn_normal ?_)
    refine T.cond ((!r10)) rfl (fun h => ?_) (fun h => ?_)
    ·replace H := cond_t h H
     refine T.seq (T.region (TL.st rfl rfl rfl (o_assign rfl rfl) (TL.nil (thn_normal (T.ret (inB_ret (thn_ret ?_)))))))
     exact Pk.id (thn_ret ⟨.inr false, (some_i H).symm, rfl, ⟨trivial, _, (.tmp _ _ _ _ rfl .nil), (.cl _ rfl)⟩⟩)
    ·replace H := cond_f h H
     refine T.skip (inB_normal (thn_normal (T.region (TL.st rfl rfl rfl (o_ari rfl rfl rfl rfl) (TL.st rfl rfl rfl (o_move rfl rfl) (TL.nil ?_))))))
     exact Pk.of (thn_normal ⟨(IntKind.i64.wrap (v5 + 1)), (some_i H).symm, rfl, rfl⟩)
   ·replace H := cond_f h H
    refine T.exit (thn_exit ?_)
    exact Pk.of (thn_exit ⟨.inl (), (some_i H).symm, rfl, rfl, rfl⟩)
  ·rcases q12 with ⟨⟩ | q6
   ·rintro _ _ _ ⟨rfl, rfl, rfl⟩
    refine inB_here (thn_normal (T.seq (T.region (TL.st rfl rfl rfl (o_assign rfl rfl) (TL.nil (thn_normal (T.ret ?_)))))))
    cases some_i H
    exact ⟨trivial, _, (.tmp _ _ _ _ rfl .nil), (.cl _ rfl)⟩
   ·rintro _ fr1 σ1 ⟨rfl, hr⟩
    refine inB_ret (thn_ret ?_)
    cases some_i H
    exact hr
theorem en_80 (us : Array Value) (w : World) : (callFunc 80 us).run Go.Proofs.Tryz.prog w = .ok (.enter 80 us) w := enters Go.Proofs.Tryz.func80 rfl rfl us w
noncomputable def impl_yallNames_1 (a0 : ByteArray) : Option Bool :=
  (impl_GoodName a0).bind fun r1 => some (!r1)
theorem impl_yallNames_1_p  {a0 : ByteArray} {R0 : Bool} (H : impl_yallNames_1 a0 = some R0) : Pure Go.Proofs.Tryz.prog 88 [.str a0] (.bool R0) := by
 refine CallT.of_TN (n := 6) Go.Proofs.Tryz.func88 rfl rfl rfl rfl ?_
 refine T.seq (T.region (TL.st rfl rfl rfl (o_assign rfl rfl) (TL.nil (thn_normal (T.seq (T.region (TL.st rfl rfl rfl (o_move rfl rfl) ?_)))))))
 obtain ⟨r1, h2, H⟩ := bind_s H
 refine TL.st rfl rfl rfl (o_callP rfl en_80 rfl rfl (.cons _ _ _ _ (.cl _ rfl) .nil) (impl_GoodName_p  h2)) ?_
 refine TL.st rfl rfl rfl (o_not rfl rfl) ?_
 refine TL.st rfl rfl rfl (o_assign rfl rfl) (TL.nil (thn_normal (T.ret ?_)))
 cases some_i H
 exact ⟨trivial, _, (.tmp _ _ _ _ rfl .nil), (.cl _ rfl)⟩
theorem en_88 (us : Array Value) (w : World) : (callFunc 88 us).run Go.Proofs.Tryz.prog w = .ok (.enter 88 us) w := enters Go.Proofs.Tryz.func88 rfl rfl us w
noncomputable def slices_IndexFunc_l1 (a0 : (List ByteArray)) : Int → Option (Int ⊕ (Unit ⊕ Int)) := fun s => match s with
  | v1 => cond (decide (v1 < (a0.length : Int))) ((idx a0 v1).bind fun e4 => (impl_yallNames_1 e4).bind fun r6 => cond r6 (some (.inr (.inr v1))) (some (.inl (IntKind.i64.wrap (v1 + 1))))) (some (.inr (.inl ())))
noncomputable def slices_IndexFunc (a0 : (List ByteArray)) : Option Int :=
  (loopO (slices_IndexFunc_l1 a0) 0).bind fun q8 => (match q8 with | .inl _ => some (-1) | .inr q2 => some q2)
theorem slices_IndexFunc_p (b0 : Bool) {a0 : (List ByteArray)} {R0 : Int} (H : slices_IndexFunc a0 = some R0) : Pure Go.Proofs.Tryz.prog 77 [.im b0 (a0.map (c_str)), .fn 88 [] []] (.int .i64 R0) := by
 refine CallT.of_TN (n := 19) Go.Proofs.Tryz.func77 rfl rfl rfl rfl ?_
 refine T.seq (T.region (TL.st rfl rfl rfl (o_assign rfl rfl) (TL.nil (thn_normal (T.seq (T.seq (T.region (TL.st rfl rfl rfl (o_move rfl rfl) (TL.st rfl rfl rfl (o_lenL (f := c_str) rfl rfl rfl) ?_)))))))))
 refine TL.st rfl rfl rfl (o_move rfl rfl) (TL.nil (thn_normal (T.block ?_)))
 obtain ⟨q8, h9, H⟩ := bind_s H
 refine T.lq (fun s => match s with | v1 => [(0, .im b0 (a0.map (c_str))), (1, .fn 88 [] []), (7, .int .i64 (a0.length : Int)), (8, .int .i64 v1)]) (fun s => match s with | v1 => []) (fun q ex fr σ => match q with | .inl _ => ex = .exit 0 ∧ fr = [] ∧ σ = [] | .inr q2 => ex = .ret ∧ RetN Go.Proofs.Tryz.prog [.tmp 4] (fun v τ => Told τ v (.int .i64 q2)) .ret fr σ) h9 ?_ ?_
 ·rintro v1 y3 H
  refine T.seq (T.region (TL.st rfl rfl rfl (o_ari rfl rfl rfl rfl) (TL.nil (thn_normal (T.seq ?_)))))
  refine T.cond (decide (v1 < (a0.length : Int))) rfl (fun h => ?_) (fun h => ?_)
  ·replace H := cond_t h H
   refine T.skip (thn_normal (T.seq (T.block (T.seq (T.region (TL.st rfl rfl rfl (o_move rfl rfl) (TL.st rfl rfl rfl (o_assign rfl rfl) (TL.nil (thn_normal (T.seq (T.region (TL.st rfl rfl rfl (o_move rfl rfl) (TL.st rfl rfl rfl (o_move rfl rfl) (TL.st rfl rfl rfl (o_move rfl rfl) ?_))))))))))))))
   obtain ⟨e4, h5, H⟩ := bind_s H
   refine TL.st rfl rfl rfl (o_ix (f := c_str) rfl rfl tyS_9 rfl rfl h5 rfl) ?_
   refine TL.st rfl rfl rfl (o_loadRf rfl tyS_9 rfl (Nat.le_of_ble_eq_true rfl) rfl) ?_
   obtain ⟨r6, h7, H⟩ := bind_s H
   refine TL.st rfl rfl rfl (o_callP rfl en_88 rfl rfl (.cons _ _ _ _ (.cl _ rfl) .nil) (impl_yallNames_1_p  h7)) ?_
   refine TL.nil (thn_normal ?_)
   refine T.cond (r6) rfl (fun h => ?_) (fun h => ?_)
   ·replace H := cond_t h H
    refine T.seq (T.region (TL.st rfl rfl rfl (o_move rfl rfl) (TL.st rfl rfl rfl (o_assign rfl rfl) (TL.nil (thn_normal (T.ret (inB_ret (thn_ret ?_))))))))
    exact Pk.id (thn_ret ⟨.inr v1, (some_i H).symm, rfl, ⟨trivial, _, (.tmp _ _ _ _ rfl .nil), (.cl _ rfl)⟩⟩)
   ·replace H := cond_f h H
    refine T.skip (inB_normal (thn_normal (T.region (TL.st rfl rfl rfl (o_ari rfl rfl rfl rfl) (TL.st rfl rfl rfl (o_move rfl rfl) (TL.nil ?_))))))
    exact Pk.of (thn_normal ⟨(IntKind.i64.wrap (v1 + 1)), (some_i H).symm, rfl, rfl⟩)
  ·replace H := cond_f h H
   refine T.exit (thn_exit ?_)
   exact Pk.of (thn_exit ⟨.inl (), (some_i H).symm, rfl, rfl, rfl⟩)
 ·rcases q8 with ⟨⟩ | q2
  ·rintro _ _ _ ⟨rfl, rfl, rfl⟩
   refine inB_here (thn_normal (T.seq (T.region (TL.st rfl rfl rfl (o_assign rfl rfl) (TL.nil (thn_normal (T.ret ?_)))))))
   cases some_i H
   exact ⟨trivial, _, (.tmp _ _ _ _ rfl .nil), (.cl _ rfl)⟩
  ·rintro _ fr1 σ1 ⟨rfl, hr⟩
   refine inB_ret (thn_ret ?_)
   cases some_i H
   exact hr
theorem en_77 (us : Array Value) (w : World) : (callFunc 77 us).run Go.Proofs.Tryz.prog w = .ok (.enter 77 us) w := enters Go.Proofs.Tryz.func77 rfl rfl us w
noncomputable def slices_ContainsFunc (a0 : (List ByteArray)) : Option Bool :=
  (slices_IndexFunc a0).bind fun r1 => some (decide (r1 ≥ 0))
theorem slices_ContainsFunc_p (b0 : Bool) {a0 : (List ByteArray)} {R0 : Bool} (H : slices_ContainsFunc a0 = some R0) : Pure Go.Proofs.Tryz.prog 50 [.im b0 (a0.map (c_str)), .fn 88 [] []] (.bool R0) := by
 refine CallT.of_TN (n := 9) Go.Proofs.Tryz.func50 rfl rfl rfl rfl ?_
 refine T.seq (T.region (TL.st rfl rfl rfl (o_assign rfl rfl) (TL.nil (thn_normal (T.seq (T.region (TL.st rfl rfl rfl (o_move rfl rfl) (TL.st rfl rfl rfl (o_move rfl rfl) ?_))))))))
 obtain ⟨r1, h2, H⟩ := bind_s H
 refine TL.st rfl rfl rfl (o_callP rfl en_77 rfl rfl (.cons _ _ _ _ (.imv _ _) (.cons _ _ _ _ (.fn _ _ _ _ _ rfl rfl (fun i c d h => by simp at h) (fun i c d h => by simp at h)) .nil)) (slices_IndexFunc_p b0 h2)) ?_
 refine TL.st rfl rfl rfl (o_ari rfl rfl rfl rfl) (TL.st rfl rfl rfl (o_assign rfl rfl) (TL.nil (thn_normal (T.ret ?_))))
 cases some_i H
 exact ⟨trivial, _, (.tmp _ _ _ _ rfl .nil), (.cl _ rfl)⟩
theorem en_50 (us : Array Value) (w : World) : (callFunc 50 us).run Go.Proofs.Tryz.prog w = .ok (.enter 50 us) w := enters Go.Proofs.Tryz.func50 rfl rfl us w
noncomputable def impl_yallNames (a0 : (List ByteArray)) : Option Bool :=
  (slices_ContainsFunc a0).bind fun r1 => some (!r1)
theorem impl_yallNames_p (b0 : Bool) {a0 : (List ByteArray)} {R0 : Bool} (H : impl_yallNames a0 = some R0) : Pure Go.Proofs.Tryz.prog 76 [.im b0 (a0.map (c_str))] (.bool R0) := by
 refine CallT.of_TN (n := 6) Go.Proofs.Tryz.func76 rfl rfl rfl rfl ?_
 refine T.seq (T.region (TL.st rfl rfl rfl (o_assign rfl rfl) (TL.nil (thn_normal (T.seq (T.region (TL.st rfl rfl rfl (o_move rfl rfl) ?_)))))))
 obtain ⟨r1, h2, H⟩ := bind_s H
 refine TL.st rfl rfl rfl (o_callP rfl en_50 rfl rfl (.cons _ _ _ _ (.imv _ _) (.cons _ _ _ _ (.fn _ _ _ _ _ rfl rfl (fun i c d h => by simp at h) (fun i c d h => by simp at h)) .nil)) (slices_ContainsFunc_p b0 h2)) ?_
 refine TL.st rfl rfl rfl (o_not rfl rfl) ?_
 refine TL.st rfl rfl rfl (o_assign rfl rfl) (TL.nil (thn_normal (T.ret ?_)))
 cases some_i H
 exact ⟨trivial, _, (.tmp _ _ _ _ rfl .nil), (.cl _ rfl)⟩
theorem en_76 (us : Array Value) (w : World) : (callFunc 76 us).run Go.Proofs.Tryz.prog w = .ok (.enter 76 us) w := enters Go.Proofs.Tryz.func76 rfl rfl us w
noncomputable def impl_yfitScopes (a0 : (List ByteArray)) : Option Bool :=
  (gdO (decide ((a0.length : Int) ≤ 20)) (impl_yrising a0)).bind fun r1 => (gdO (decide ((a0.length : Int) ≤ 20) && r1) (impl_yallNames a0)).bind fun r3 => some ((decide ((a0.length : Int) ≤ 20) && r1) && r3)
theorem impl_yfitScopes_p (b0 : Bool) {a0 : (List ByteArray)} {R0 : Bool} (H : impl_yfitScopes a0 = some R0) : Pure Go.Proofs.Tryz.prog 49 [.im b0 (a0.map (c_str))] (.bool R0) := by
 refine CallT.of_TN (n := 14) Go.Proofs.Tryz.func49 rfl rfl rfl rfl ?_
 refine T.seq (T.region (TL.st rfl rfl rfl (o_assign rfl rfl) (TL.nil (thn_normal (T.seq (T.region (TL.st rfl rfl rfl (o_move rfl rfl) (TL.st rfl rfl rfl (o_lenL (f := c_str) rfl rfl rfl) ?_))))))))
 refine TL.st rfl rfl rfl (o_ari rfl rfl rfl rfl) (TL.st rfl rfl rfl (o_move rfl rfl) (TL.gcq rfl rfl rfl (.bool _) rfl rfl (fun h => o_move rfl rfl) ?_))
 obtain ⟨r1, h2, H⟩ := bind_s H
 refine TL.gcq rfl rfl rfl (.bool _) rfl rfl (fun h => o_callP rfl en_75 rfl (evl_1 (gv h rfl)) (.cons _ _ _ _ (.imv _ _) .nil) (impl_yrising_p b0 (gdO_t h2 h))) ?_
 refine TL.st rfl rfl rfl (o_and rfl rfl rfl (fun k => Gd_t k) rfl) (TL.st rfl rfl rfl (o_move rfl rfl) (TL.gcq rfl rfl rfl (.bool _) rfl rfl (fun h => o_move rfl rfl) ?_))
 obtain ⟨r3, h4, H⟩ := bind_s H
 refine TL.gcq rfl rfl rfl (.bool _) rfl rfl (fun h => o_callP rfl en_76 rfl (evl_1 (gv h rfl)) (.cons _ _ _ _ (.imv _ _) .nil) (impl_yallNames_p b0 (gdO_t h4 h))) ?_
 refine TL.st rfl rfl rfl (o_and rfl rfl rfl (fun k => Gd_t k) rfl) (TL.st rfl rfl rfl (o_assign rfl rfl) (TL.nil (thn_normal (T.ret ?_))))
 cases some_i H
 exact ⟨trivial, _, (.tmp _ _ _ _ rfl .nil), (.cl _ rfl)⟩
theorem en_49 (us : Array Value) (w : World) : (callFunc 49 us).run Go.Proofs.Tryz.prog w = .ok (.enter 49 us) w := enters Go.Proofs.Tryz.func49 rfl rfl us w
noncomputable def impl_yprinted_l1 (a0 : ByteArray) : Int → Option (Int ⊕ (Unit ⊕ Bool)) := fun s => match s with
  | v1 => cond (decide (v1 < (a0.size : Int))) ((idxS a0 v1).bind fun b4 => (gdO (!(decide (b4 < 32))) (idxS a0 v1)).bind fun b6 => cond (decide (b4 < 32) || decide (b6 > 126)) (some (.inr (.inr false))) (some (.inl (IntKind.i64.wrap (v1 + 1))))) (some (.inr (.inl ())))
noncomputable def impl_yprinted (a0 : ByteArray) (a1 : Int) (a2 : Int) : Option Bool :=
  cond (decide ((a0.size : Int) < a1) || decide ((a0.size : Int) > a2)) (some false) ((loopO (impl_yprinted_l1 a0) 0).bind fun q8 => (match q8 with | .inl _ => some true | .inr q2 => some q2))
theorem impl_yprinted_p  {a0 : ByteArray} {a1 : Int} {a2 : Int} {R0 : Bool} (H : impl_yprinted a0 a1 a2 = some R0) : Pure Go.Proofs.Tryz.prog 52 [.str a0, .int .i64 a1, .int .i64 a2] (.bool R0) := by
 refine CallT.of_TN (n := 34) Go.Proofs.Tryz.func52 rfl rfl rfl rfl ?_
 refine T.seq (T.region (TL.st rfl rfl rfl (o_assign rfl rfl) (TL.nil (thn_normal (T.seq (T.seq (T.region (TL.st rfl rfl rfl (o_move rfl rfl) (TL.st rfl rfl rfl (o_lenS rfl rfl rfl) ?_)))))))))
 refine TL.st rfl rfl rfl (o_move rfl rfl) (TL.st rfl rfl rfl (o_ari rfl rfl rfl rfl) (TL.st rfl rfl rfl (o_move rfl rfl) (TL.gcq rfl rfl rfl (.bool _) rfl rfl (fun h => o_move rfl rfl) (TL.gcq rfl rfl rfl (.bool _) rfl rfl (fun h => o_lenS rfl rfl (gv h rfl)) ?_))))
 refine TL.gcq rfl rfl rfl (.bool _) rfl rfl (fun h => o_move rfl rfl) (TL.gcq rfl rfl rfl (.bool _) rfl rfl (fun h => o_ari rfl (gv h rfl) (gv h rfl) rfl) ?_)
 refine TL.st rfl rfl rfl (o_or rfl rfl rfl rfl (fun k => Gd_t k)) (TL.nil (thn_normal ?_))
 refine T.cond ((decide ((a0.size : Int) < a1) || decide ((a0.size : Int) > a2))) rfl (fun h => ?_) (fun h => ?_)
 ·replace H := cond_t h H
  refine T.seq (T.region (TL.st rfl rfl rfl (o_assign rfl rfl) (TL.nil (thn_normal (T.ret (thn_ret ?_))))))
  cases some_i H
  exact ⟨trivial, _, (.tmp _ _ _ _ rfl .nil), (.cl _ rfl)⟩
 ·replace H := cond_f h H
  refine T.skip (thn_normal (T.seq (T.seq (T.region (TL.st rfl rfl rfl (o_move rfl rfl) (TL.st rfl rfl rfl (o_lenS rfl rfl rfl) ?_))))))
  refine TL.st rfl rfl rfl (o_move rfl rfl) (TL.nil (thn_normal (T.block ?_)))
  obtain ⟨q8, h9, H⟩ := bind_s H
  refine T.lq (fun s => match s with | v1 => [(0, .str a0), (19, .int .i64 (a0.size : Int)), (20, .int .i64 v1)]) (fun s => match s with | v1 => []) (fun q ex fr σ => match q with | .inl _ => ex = .exit 0 ∧ fr = [] ∧ σ = [] | .inr q2 => ex = .ret ∧ RetN Go.Proofs.Tryz.prog [.tmp 6] (fun v τ => Told τ v (.bool q2)) .ret fr σ) h9 ?_ ?_
  ·rintro v1 y3 H
   refine T.seq (T.region (TL.st rfl rfl rfl (o_ari rfl rfl rfl rfl) (TL.nil (thn_normal (T.seq ?_)))))
   refine T.cond (decide (v1 < (a0.size : Int))) rfl (fun h => ?_) (fun h => ?_)
   ·replace H := cond_t h H
    refine T.skip (thn_normal (T.seq (T.block (T.seq (T.region (TL.st rfl rfl rfl (o_move rfl rfl) (TL.st rfl rfl rfl (o_assign rfl rfl) (TL.nil (thn_normal (T.seq (T.region (TL.st rfl rfl rfl (o_move rfl rfl) (TL.st rfl rfl rfl (o_move rfl rfl) ?_)))))))))))))
    obtain ⟨b4, h5, H⟩ := bind_s H
    refine TL.st rfl rfl rfl (o_ixs rfl rfl rfl rfl h5) ?_
    refine TL.st rfl rfl rfl (o_ari rfl rfl rfl rfl) (TL.st rfl rfl rfl (o_move rfl rfl) (TL.gcq rfl rfl rfl (.bool _) rfl rfl (fun h => o_move rfl rfl) (TL.gcq rfl rfl rfl (.bool _) rfl rfl (fun h => o_move rfl rfl) ?_)))
    obtain ⟨b6, h7, H⟩ := bind_s H
    refine TL.gcq rfl rfl rfl (.bool _) rfl rfl (fun h => o_ixs rfl rfl (gv h rfl) (gv h rfl) (gdO_t h7 h)) ?_
    refine TL.gcq rfl rfl rfl (.bool _) rfl rfl (fun h => o_ari rfl (gv h rfl) rfl rfl) ?_
    refine TL.st rfl rfl rfl (o_or rfl rfl rfl rfl (fun k => Gd_t k)) (TL.nil (thn_normal ?_))
    refine T.cond ((decide (b4 < 32) || decide (b6 > 126))) rfl (fun h => ?_) (fun h => ?_)
    ·replace H := cond_t h H
     refine T.seq (T.region (TL.st rfl rfl rfl (o_assign rfl rfl) (TL.nil (thn_normal (T.ret (inB_ret (thn_ret ?_)))))))
     exact Pk.id (thn_ret ⟨.inr false, (some_i H).symm, rfl, ⟨trivial, _, (.tmp _ _ _ _ rfl .nil), (.cl _ rfl)⟩⟩)
    ·replace H := cond_f h H
     refine T.skip (inB_normal (thn_normal (T.region (TL.st rfl rfl rfl (o_ari rfl rfl rfl rfl) (TL.st rfl rfl rfl (o_move rfl rfl) (TL.nil ?_))))))
     exact Pk.of (thn_normal ⟨(IntKind.i64.wrap (v1 + 1)), (some_i H).symm, rfl, rfl⟩)
   ·replace H := cond_f h H
    refine T.exit (thn_exit ?_)
    exact Pk.of (thn_exit ⟨.inl (), (some_i H).symm, rfl, rfl, rfl⟩)
  ·rcases q8 with ⟨⟩ | q2
   ·rintro _ _ _ ⟨rfl, rfl, rfl⟩
    refine inB_here (thn_normal (T.seq (T.region (TL.st rfl rfl rfl (o_assign rfl rfl) (TL.nil (thn_normal (T.ret ?_)))))))
    cases some_i H
    exact ⟨trivial, _, (.tmp _ _ _ _ rfl .nil), (.cl _ rfl)⟩
   ·rintro _ fr1 σ1 ⟨rfl, hr⟩
    refine inB_ret (thn_ret ?_)
    cases some_i H
    exact hr
theorem en_52 (us : Array Value) (w : World) : (callFunc 52 us).run Go.Proofs.Tryz.prog w = .ok (.enter 52 us) w := enters Go.Proofs.Tryz.func52 rfl rfl us w
noncomputable def impl_GoodServer_1 (a0 : ByteArray) : Option Bool :=
  (impl_yprinted a0 1 200).bind fun r1 => some (!r1)
theorem impl_GoodServer_1_p  {a0 : ByteArray} {R0 : Bool} (H : impl_GoodServer_1 a0 = some R0) : Pure Go.Proofs.Tryz.prog 51 [.str a0] (.bool R0) := by
 refine CallT.of_TN (n := 6) Go.Proofs.Tryz.func51 rfl rfl rfl rfl ?_
 refine T.seq (T.region (TL.st rfl rfl rfl (o_assign rfl rfl) (TL.nil (thn_normal (T.seq (T.region (TL.st rfl rfl rfl (o_move rfl rfl) ?_)))))))
 obtain ⟨r1, h2, H⟩ := bind_s H
 refine TL.st rfl rfl rfl (o_callP rfl en_52 rfl rfl (.cons _ _ _ _ (.cl _ rfl) (.cons _ _ _ _ (.cl _ rfl) (.cons _ _ _ _ (.cl _ rfl) .nil))) (impl_yprinted_p  h2)) ?_
 refine TL.st rfl rfl rfl (o_not rfl rfl) ?_
 refine TL.st rfl rfl rfl (o_assign rfl rfl) (TL.nil (thn_normal (T.ret ?_)))
 cases some_i H
 exact ⟨trivial, _, (.tmp _ _ _ _ rfl .nil), (.cl _ rfl)⟩
theorem en_51 (us : Array Value) (w : World) : (callFunc 51 us).run Go.Proofs.Tryz.prog w = .ok (.enter 51 us) w := enters Go.Proofs.Tryz.func51 rfl rfl us w
noncomputable def slices_IndexFuncx_l1 (a0 : (List ByteArray)) : Int → Option (Int ⊕ (Unit ⊕ Int)) := fun s => match s with
  | v1 => cond (decide (v1 < (a0.length : Int))) ((idx a0 v1).bind fun e4 => (impl_GoodServer_1 e4).bind fun r6 => cond r6 (some (.inr (.inr v1))) (some (.inl (IntKind.i64.wrap (v1 + 1))))) (some (.inr (.inl ())))
noncomputable def slices_IndexFuncx (a0 : (List ByteArray)) : Option Int :=
  (loopO (slices_IndexFuncx_l1 a0) 0).bind fun q8 => (match q8 with | .inl _ => some (-1) | .inr q2 => some q2)
theorem slices_IndexFuncx_p (b0 : Bool) {a0 : (List ByteArray)} {R0 : Int} (H : slices_IndexFuncx a0 = some R0) : Pure Go.Proofs.Tryz.prog 77 [.im b0 (a0.map (c_str)), .fn 51 [] []] (.int .i64 R0) := by
 refine CallT.of_TN (n := 19) Go.Proofs.Tryz.func77 rfl rfl rfl rfl ?_
 refine T.seq (T.region (TL.st rfl rfl rfl (o_assign rfl rfl) (TL.nil (thn_normal (T.seq (T.seq (T.region (TL.st rfl rfl rfl (o_move rfl rfl) (TL.st rfl rfl rfl (o_lenL (f := c_str) rfl rfl rfl) ?_)))))))))
 refine TL.st rfl rfl rfl (o_move rfl rfl) (TL.nil (thn_normal (T.block ?_)))
 obtain ⟨q8, h9, H⟩ := bind_s H
 refine T.lq (fun s => match s with | v1 => [(0, .im b0 (a0.map (c_str))), (1, .fn 51 [] []), (7, .int .i64 (a0.length : Int)), (8, .int .i64 v1)]) (fun s => match s with | v1 => []) (fun q ex fr σ => match q with | .inl _ => ex = .exit 0 ∧ fr = [] ∧ σ = [] | .inr q2 => ex = .ret ∧ RetN Go.Proofs.Tryz.prog [.tmp 4] (fun v τ => Told τ v (.int .i64 q2)) .ret fr σ) h9 ?_ ?_
 ·rintro v1 y3 H
  refine T.seq (T.region (TL.st rfl rfl rfl (o_ari rfl rfl rfl rfl) (TL.nil (thn_normal (T.seq ?_)))))
  refine T.cond (decide (v1 < (a0.length : Int))) rfl (fun h => ?_) (fun h => ?_)
  ·replace H := cond_t h H
   refine T.skip (thn_normal (T.seq (T.block (T.seq (T.region (TL.st rfl rfl rfl (o_move rfl rfl) (TL.st rfl rfl rfl (o_assign rfl rfl) (TL.nil (thn_normal (T.seq (T.region (TL.st rfl rfl rfl (o_move rfl rfl) (TL.st rfl rfl rfl (o_move rfl rfl) (TL.st rfl rfl rfl (o_move rfl rfl) ?_))))))))))))))
   obtain ⟨e4, h5, H⟩ := bind_s H
   refine TL.st rfl rfl rfl (o_ix (f := c_str) rfl rfl tyS_9 rfl rfl h5 rfl) ?_
   refine TL.st rfl rfl rfl (o_loadRf rfl tyS_9 rfl (Nat.le_of_ble_eq_true rfl) rfl) ?_
   obtain ⟨r6, h7, H⟩ := bind_s H
   refine TL.st rfl rfl rfl (o_callP rfl en_51 rfl rfl (.cons _ _ _ _ (.cl _ rfl) .nil) (impl_GoodServer_1_p  h7)) ?_
   refine TL.nil (thn_normal ?_)
   refine T.cond (r6) rfl (fun h => ?_) (fun h => ?_)
   ·replace H := cond_t h H
    refine T.seq (T.region (TL.st rfl rfl rfl (o_move rfl rfl) (TL.st rfl rfl rfl (o_assign rfl rfl) (TL.nil (thn_normal (T.ret (inB_ret (thn_ret ?_))))))))
    exact Pk.id (thn_ret ⟨.inr v1, (some_i H).symm, rfl, ⟨trivial, _, (.tmp _ _ _ _ rfl .nil), (.cl _ rfl)⟩⟩)
   ·replace H := cond_f h H
    refine T.skip (inB_normal (thn_normal (T.region (TL.st rfl rfl rfl (o_ari rfl rfl rfl rfl) (TL.st rfl rfl rfl (o_move rfl rfl) (TL.nil ?_))))))
    exact Pk.of (thn_normal ⟨(IntKind.i64.wrap (v1 + 1)), (some_i H).symm, rfl, rfl⟩)
  ·replace H := cond_f h H
   refine T.exit (thn_exit ?_)
   exact Pk.of (thn_exit ⟨.inl (), (some_i H).symm, rfl, rfl, rfl⟩)
 ·rcases q8 with ⟨⟩ | q2
  ·rintro _ _ _ ⟨rfl, rfl, rfl⟩
   refine inB_here (thn_normal (T.seq (T.region (TL.st rfl rfl rfl (o_assign rfl rfl) (TL.nil (thn_normal (T.ret ?_)))))))
   cases some_i H
   exact ⟨trivial, _, (.tmp _ _ _ _ rfl .nil), (.cl _ rfl)⟩
  ·rintro _ fr1 σ1 ⟨rfl, hr⟩
   refine inB_ret (thn_ret ?_)
   cases some_i H
   exact hr
noncomputable def slices_ContainsFuncx (a0 : (List ByteArray)) : Option Bool :=
  (slices_IndexFuncx a0).bind fun r1 => some (decide (r1 ≥ 0))
theorem slices_ContainsFuncx_p (b0 : Bool) {a0 : (List ByteArray)} {R0 : Bool} (H : slices_ContainsFuncx a0 = some R0) : Pure Go.Proofs.Tryz.prog 50 [.im b0 (a0.map (c_str)), .fn 51 [] []] (.bool R0) := by
 refine CallT.of_TN (n := 9) Go.Proofs.Tryz.func50 rfl rfl rfl rfl ?_
 refine T.seq (T.region (TL.st rfl rfl rfl (o_assign rfl rfl) (TL.nil (thn_normal (T.seq (T.region (TL.st rfl rfl rfl (o_move rfl rfl) (TL.st rfl rfl rfl (o_move rfl rfl) ?_))))))))
 obtain ⟨r1, h2, H⟩ := bind_s H
 refine TL.st rfl rfl rfl (o_callP rfl en_77 rfl rfl (.cons _ _ _ _ (.imv _ _) (.cons _ _ _ _ (.fn _ _ _ _ _ rfl rfl (fun i c d h => by simp at h) (fun i c d h => by simp at h)) .nil)) (slices_IndexFuncx_p b0 h2)) ?_
 refine TL.st rfl rfl rfl (o_ari rfl rfl rfl rfl) (TL.st rfl rfl rfl (o_assign rfl rfl) (TL.nil (thn_normal (T.ret ?_))))
 cases some_i H
 exact ⟨trivial, _, (.tmp _ _ _ _ rfl .nil), (.cl _ rfl)⟩
noncomputable def impl_GoodServer_2 (a0 : Int) : Option Bool :=
  some (decide (a0 < 1) || decide (a0 > 4))
theorem impl_GoodServer_2_p  {a0 : Int} {R0 : Bool} (H : impl_GoodServer_2 a0 = some R0) : Pure Go.Proofs.Tryz.prog 54 [.int .i64 a0] (.bool R0) := by
 refine CallT.of_TN (n := 9) Go.Proofs.Tryz.func54 rfl rfl rfl rfl ?_
 refine T.seq (T.region (TL.st rfl rfl rfl (o_assign rfl rfl) (TL.nil (thn_normal (T.seq (T.region (TL.st rfl rfl rfl (o_move rfl rfl) (TL.st rfl rfl rfl (o_ari rfl rfl rfl rfl) (TL.st rfl rfl rfl (o_move rfl rfl) (TL.gcq rfl rfl rfl (.bool _) rfl rfl (fun h => o_move rfl rfl) (TL.gcq rfl rfl rfl (.bool _) rfl rfl (fun h => o_ari rfl (gv h rfl) rfl rfl) ?_)))))))))))
 refine TL.st rfl rfl rfl (o_or rfl rfl rfl rfl (fun k => Gd_t k)) (TL.st rfl rfl rfl (o_assign rfl rfl) (TL.nil (thn_normal (T.ret ?_))))
 cases some_i H
 exact ⟨trivial, _, (.tmp _ _ _ _ rfl .nil), (.cl _ rfl)⟩
theorem en_54 (us : Array Value) (w : World) : (callFunc 54 us).run Go.Proofs.Tryz.prog w = .ok (.enter 54 us) w := enters Go.Proofs.Tryz.func54 rfl rfl us w
noncomputable def slices_IndexFuncxx_l1 (a0 : (List Int)) : Int → Option (Int ⊕ (Unit ⊕ Int)) := fun s => match s with
  | v1 => cond (decide (v1 < (a0.length : Int))) ((idx a0 v1).bind fun e4 => (impl_GoodServer_2 e4).bind fun r6 => cond r6 (some (.inr (.inr v1))) (some (.inl (IntKind.i64.wrap (v1 + 1))))) (some (.inr (.inl ())))
noncomputable def slices_IndexFuncxx (a0 : (List Int)) : Option Int :=
  (loopO (slices_IndexFuncxx_l1 a0) 0).bind fun q8 => (match q8 with | .inl _ => some (-1) | .inr q2 => some q2)
theorem slices_IndexFuncxx_p (b0 : Bool) {a0 : (List Int)} {R0 : Int} (H : slices_IndexFuncxx a0 = some R0) : Pure Go.Proofs.Tryz.prog 78 [.im b0 (a0.map (c_int .i64)), .fn 54 [] []] (.int .i64 R0) := by
 refine CallT.of_TN (n := 19) Go.Proofs.Tryz.func78 rfl rfl rfl rfl ?_
 refine T.seq (T.region (TL.st rfl rfl rfl (o_assign rfl rfl) (TL.nil (thn_normal (T.seq (T.seq (T.region (TL.st rfl rfl rfl (o_move rfl rfl) (TL.st rfl rfl rfl (o_lenL (f := c_int .i64) rfl rfl rfl) ?_)))))))))
 refine TL.st rfl rfl rfl (o_move rfl rfl) (TL.nil (thn_normal (T.block ?_)))
 obtain ⟨q8, h9, H⟩ := bind_s H
 refine T.lq (fun s => match s with | v1 => [(0, .im b0 (a0.map (c_int .i64))), (1, .fn 54 [] []), (7, .int .i64 (a0.length : Int)), (8, .int .i64 v1)]) (fun s => match s with | v1 => []) (fun q ex fr σ => match q with | .inl _ => ex = .exit 0 ∧ fr = [] ∧ σ = [] | .inr q2 => ex = .ret ∧ RetN Go.Proofs.Tryz.prog [.tmp 4] (fun v τ => Told τ v (.int .i64 q2)) .ret fr σ) h9 ?_ ?_
 ·rintro v1 y3 H
  refine T.seq (T.region (TL.st rfl rfl rfl (o_ari rfl rfl rfl rfl) (TL.nil (thn_normal (T.seq ?_)))))
  refine T.cond (decide (v1 < (a0.length : Int))) rfl (fun h => ?_) (fun h => ?_)
  ·replace H := cond_t h H
   refine T.skip (thn_normal (T.seq (T.block (T.seq (T.region (TL.st rfl rfl rfl (o_move rfl rfl) (TL.st rfl rfl rfl (o_assign rfl rfl) (TL.nil (thn_normal (T.seq (T.region (TL.st rfl rfl rfl (o_move rfl rfl) (TL.st rfl rfl rfl (o_move rfl rfl) (TL.st rfl rfl rfl (o_move rfl rfl) ?_))))))))))))))
   obtain ⟨e4, h5, H⟩ := bind_s H
   refine TL.st rfl rfl rfl (o_ix (f := c_int .i64) rfl rfl tyS_3 rfl rfl h5 rfl) ?_
   refine TL.st rfl rfl rfl (o_loadRf rfl tyS_3 rfl (Nat.le_of_ble_eq_true rfl) rfl) ?_
   obtain ⟨r6, h7, H⟩ := bind_s H
   refine TL.st rfl rfl rfl (o_callP rfl en_54 rfl rfl (.cons _ _ _ _ (.cl _ rfl) .nil) (impl_GoodServer_2_p  h7)) ?_
   refine TL.nil (thn_normal ?_)
   refine T.cond (r6) rfl (fun h => ?_) (fun h => ?_)
   ·replace H := cond_t h H
    refine T.seq (T.region (TL.st rfl rfl rfl (o_move rfl rfl) (TL.st rfl rfl rfl (o_assign rfl rfl) (TL.nil (thn_normal (T.ret (inB_ret (thn_ret ?_))))))))
    exact Pk.id (thn_ret ⟨.inr v1, (some_i H).symm, rfl, ⟨trivial, _, (.tmp _ _ _ _ rfl .nil), (.cl _ rfl)⟩⟩)
   ·replace H := cond_f h H
    refine T.skip (inB_normal (thn_normal (T.region (TL.st rfl rfl rfl (o_ari rfl rfl rfl rfl) (TL.st rfl rfl rfl (o_move rfl rfl) (TL.nil ?_))))))
    exact Pk.of (thn_normal ⟨(IntKind.i64.wrap (v1 + 1)), (some_i H).symm, rfl, rfl⟩)
  ·replace H := cond_f h H
   refine T.exit (thn_exit ?_)
   exact Pk.of (thn_exit ⟨.inl (), (some_i H).symm, rfl, rfl, rfl⟩)
 ·rcases q8 with ⟨⟩ | q2
  ·rintro _ _ _ ⟨rfl, rfl, rfl⟩
   refine inB_here (thn_normal (T.seq (T.region (TL.st rfl rfl rfl (o_assign rfl rfl) (TL.nil (thn_normal (T.ret ?_)))))))
   cases some_i H
   exact ⟨trivial, _, (.tmp _ _ _ _ rfl .nil), (.cl _ rfl)⟩
  ·rintro _ fr1 σ1 ⟨rfl, hr⟩
   refine inB_ret (thn_ret ?_)
   cases some_i H
   exact hr
theorem en_78 (us : Array Value) (w : World) : (callFunc 78 us).run Go.Proofs.Tryz.prog w = .ok (.enter 78 us) w := enters Go.Proofs.Tryz.func78 rfl rfl us w
noncomputable def slices_ContainsFuncxx (a0 : (List Int)) : Option Bool :=
  (slices_IndexFuncxx a0).bind fun r1 => some (decide (r1 ≥ 0))
theorem slices_ContainsFuncxx_p (b0 : Bool) {a0 : (List Int)} {R0 : Bool} (H : slices_ContainsFuncxx a0 = some R0) : Pure Go.Proofs.Tryz.prog 53 [.im b0 (a0.map (c_int .i64)), .fn 54 [] []] (.bool R0) := by
 refine CallT.of_TN (n := 9) Go.Proofs.Tryz.func53 rfl rfl rfl rfl ?_
 refine T.seq (T.region (TL.st rfl rfl rfl (o_assign rfl rfl) (TL.nil (thn_normal (T.seq (T.region (TL.st rfl rfl rfl (o_move rfl rfl) (TL.st rfl rfl rfl (o_move rfl rfl) ?_))))))))
 obtain ⟨r1, h2, H⟩ := bind_s H
 refine TL.st rfl rfl rfl (o_callP rfl en_78 rfl rfl (.cons _ _ _ _ (.imv _ _) (.cons _ _ _ _ (.fn _ _ _ _ _ rfl rfl (fun i c d h => by simp at h) (fun i c d h => by simp at h)) .nil)) (slices_IndexFuncxx_p b0 h2)) ?_
 refine TL.st rfl rfl rfl (o_ari rfl rfl rfl rfl) (TL.st rfl rfl rfl (o_assign rfl rfl) (TL.nil (thn_normal (T.ret ?_))))
 cases some_i H
 exact ⟨trivial, _, (.tmp _ _ _ _ rfl .nil), (.cl _ rfl)⟩
theorem en_53 (us : Array Value) (w : World) : (callFunc 53 us).run Go.Proofs.Tryz.prog w = .ok (.enter 53 us) w := enters Go.Proofs.Tryz.func53 rfl rfl us w
noncomputable def impl_GoodServer_l1 (a0 : T_impl_Server) : Int → Option (Int ⊕ (Unit ⊕ Bool)) := fun s => match s with
  | v1 => cond (decide (v1 < (a0.Clients_.length : Int))) ((idx a0.Clients_ v1).bind fun e4 => (impl_ygoodId e4.Id_).bind fun r6 => (gdO ((!(!r6)) && decide (v1 > 0)) (idx a0.Clients_ (IntKind.i64.wrap (v1 - 1)))).bind fun e8 => (gdO (!((((!r6) || (decide (v1 > 0) && (!(Op.bytesLess e8.Id_.toList e4.Id_.toList)))) || (((e4.Secret_.length : Int) != 0) && ((e4.Secret_.length : Int) != 16))) || decide ((e4.Redirects_.length : Int) > 5))) (impl_yfitScopes e4.Scopes_)).bind fun r10 => cond ((((((!r6) || (decide (v1 > 0) && (!(Op.bytesLess e8.Id_.toList e4.Id_.toList)))) || (((e4.Secret_.length : Int) != 0) && ((e4.Secret_.length : Int) != 16))) || decide ((e4.Redirects_.length : Int) > 5)) || (!r10)) || decide ((e4.Kinds_.length : Int) > 4)) (some (.inr (.inr false))) ((slices_ContainsFuncx e4.Redirects_).bind fun r12 => (gdO (!r12) (slices_ContainsFuncxx e4.Kinds_)).bind fun r14 => cond (r12 || r14) (some (.inr (.inr false))) (some (.inl (IntKind.i64.wrap (v1 + 1)))))) (some (.inr (.inl ())))
noncomputable def impl_GoodServer (a0 : T_impl_Server) : Option Bool :=
  cond (((((decide ((a0.Clients_.length : Int) > 20) || decide ((a0.Key_.length : Int) > 64)) || decide (a0.Short_ < 1)) || decide (a0.Short_ > 1000000)) || decide (a0.Long_ < 1)) || decide (a0.Long_ > 1000000)) (some false) ((loopO (impl_GoodServer_l1 a0) 0).bind fun q16 => (match q16 with | .inl _ => some true | .inr q2 => some q2))
theorem impl_GoodServer_p (b0 : Bool) {a0 : T_impl_Server} {R0 : Bool} (H : impl_GoodServer a0 = some R0) : Pure Go.Proofs.Tryz.prog 31 [.agg (c_T_impl_Server b0 a0)] (.bool R0) := by
 refine CallT.of_TN (n := 102) Go.Proofs.Tryz.func31 rfl rfl rfl rfl ?_
 refine T.seq (T.region (TL.st rfl rfl rfl (o_box rfl rfl rfl) (TL.st rfl rfl rfl (o_assign rfl rfl) (TL.nil (thn_normal (T.seq (T.seq (T.region (TL.st rfl rfl rfl (o_fieldAddr rfl rfl rfl tyS_23 (by decide) rfl rfl ⟨_, rfl, Nat.le_of_ble_eq_true rfl⟩) ?_)))))))))
 refine TL.st rfl rfl rfl (o_loadBx rfl tyS_23 rfl rfl (Nat.le_of_ble_eq_true rfl) rfl) ?_
 refine TL.st rfl rfl rfl (o_lenL (f := c_T_impl_Client false) rfl rfl rfl) ?_
 refine TL.st rfl rfl rfl (o_ari rfl rfl rfl rfl) (TL.st rfl rfl rfl (o_move rfl rfl) (TL.gcq rfl rfl rfl (.bool _) rfl rfl (fun h => o_fieldAddr rfl rfl rfl tyS_22 (by decide) rfl rfl ⟨_, rfl, Nat.le_of_ble_eq_true rfl⟩) ?_))
 refine TL.gcq rfl rfl rfl (.bool _) rfl rfl (fun h => o_loadBx rfl tyS_22 (gv h rfl) rfl (Nat.le_of_ble_eq_true rfl) rfl) ?_
 refine TL.gcq rfl rfl rfl (.bool _) rfl rfl (fun h => o_lenL (f := c_int .u8) rfl rfl (gv h rfl)) ?_
 refine TL.gcq rfl rfl rfl (.bool _) rfl rfl (fun h => o_ari rfl (gv h rfl) rfl rfl) ?_
 refine TL.st rfl rfl rfl (o_or rfl rfl rfl rfl (fun k => Gd_t k)) (TL.st rfl rfl rfl (o_move rfl rfl) (TL.gcq rfl rfl rfl (.bool _) rfl rfl (fun h => o_fieldAddr rfl rfl rfl tyS_3 (by decide) rfl rfl ⟨_, rfl, Nat.le_of_ble_eq_true rfl⟩) ?_))
 refine TL.gcq rfl rfl rfl (.bool _) rfl rfl (fun h => o_loadBx rfl tyS_3 (gv h rfl) rfl (Nat.le_of_ble_eq_true rfl) rfl) ?_
 refine TL.gcq rfl rfl rfl (.bool _) rfl rfl (fun h => o_ari rfl (gv h rfl) rfl rfl) ?_
 refine TL.st rfl rfl rfl (o_or rfl rfl rfl rfl (fun k => Gd_t k)) (TL.st rfl rfl rfl (o_move rfl rfl) (TL.gcq rfl rfl rfl (.bool _) rfl rfl (fun h => o_fieldAddr rfl rfl rfl tyS_3 (by decide) rfl rfl ⟨_, rfl, Nat.le_of_ble_eq_true rfl⟩) ?_))
 refine TL.gcq rfl rfl rfl (.bool _) rfl rfl (fun h => o_loadBx rfl tyS_3 (gv h rfl) rfl (Nat.le_of_ble_eq_true rfl) rfl) ?_
 refine TL.gcq rfl rfl rfl (.bool _) rfl rfl (fun h => o_ari rfl (gv h rfl) rfl rfl) ?_
 refine TL.st rfl rfl rfl (o_or rfl rfl rfl rfl (fun k => Gd_t k)) (TL.st rfl rfl rfl (o_move rfl rfl) (TL.gcq rfl rfl rfl (.bool _) rfl rfl (fun h => o_fieldAddr rfl rfl rfl tyS_3 (by decide) rfl rfl ⟨_, rfl, Nat.le_of_ble_eq_true rfl⟩) ?_))
 refine TL.gcq rfl rfl rfl (.bool _) rfl rfl (fun h => o_loadBx rfl tyS_3 (gv h rfl) rfl (Nat.le_of_ble_eq_true rfl) rfl) ?_
 refine TL.gcq rfl rfl rfl (.bool _) rfl rfl (fun h => o_ari rfl (gv h rfl) rfl rfl) ?_
 refine TL.st rfl rfl rfl (o_or rfl rfl rfl rfl (fun k => Gd_t k)) (TL.st rfl rfl rfl (o_move rfl rfl) (TL.gcq rfl rfl rfl (.bool _) rfl rfl (fun h => o_fieldAddr rfl rfl rfl tyS_3 (by decide) rfl rfl ⟨_, rfl, Nat.le_of_ble_eq_true rfl⟩) ?_))
 refine TL.gcq rfl rfl rfl (.bool _) rfl rfl (fun h => o_loadBx rfl tyS_3 (gv h rfl) rfl (Nat.le_of_ble_eq_true rfl) rfl) ?_
 refine TL.gcq rfl rfl rfl (.bool _) rfl rfl (fun h => o_ari rfl (gv h rfl) rfl rfl) ?_
 refine TL.st rfl rfl rfl (o_or rfl rfl rfl rfl (fun k => Gd_t k)) (TL.nil (thn_normal ?_))
 refine T.cond ((((((decide ((a0.Clients_.length : Int) > 20) || decide ((a0.Key_.length : Int) > 64)) || decide (a0.Short_ < 1)) || decide (a0.Short_ > 1000000)) || decide (a0.Long_ < 1)) || decide (a0.Long_ > 1000000))) rfl (fun h => ?_) (fun h => ?_)
 ·replace H := cond_t h H
  refine T.seq (T.region (TL.st rfl rfl rfl (o_assign rfl rfl) (TL.nil (thn_normal (T.ret (thn_ret ?_))))))
  cases some_i H
  exact ⟨trivial, _, (.tmp _ _ _ _ rfl .nil), (.cl _ rfl)⟩
 ·replace H := cond_f h H
  refine T.skip (thn_normal (T.seq (T.seq (T.region (TL.st rfl rfl rfl (o_fieldAddr rfl rfl rfl tyS_23 (by decide) rfl rfl ⟨_, rfl, Nat.le_of_ble_eq_true rfl⟩) ?_)))))
  refine TL.st rfl rfl rfl (o_loadBx rfl tyS_23 rfl rfl (Nat.le_of_ble_eq_true rfl) rfl) ?_
  refine TL.st rfl rfl rfl (o_lenL (f := c_T_impl_Client false) rfl rfl rfl) ?_
  refine TL.st rfl rfl rfl (o_move rfl rfl) (TL.nil (thn_normal (T.block ?_)))
  obtain ⟨q16, h17, H⟩ := bind_s H
  refine T.lq (fun s => match s with | v1 => [(1, .bx 0 0), (36, .im b0 (a0.Clients_.map (c_T_impl_Client false))), (37, .int .i64 (a0.Clients_.length : Int)), (38, .int .i64 v1)]) (fun s => match s with | v1 => [.box (c_T_impl_Server b0 a0)]) (fun q ex fr σ => match q with | .inl _ => ex = .exit 0 ∧ fr = [] ∧ σ = [.box (c_T_impl_Server b0 a0)] | .inr q2 => ex = .ret ∧ RetN Go.Proofs.Tryz.prog [.tmp 2] (fun v τ => Told τ v (.bool q2)) .ret fr σ) h17 ?_ ?_
  ·rintro v1 y3 H
   refine T.seq (T.region (TL.st rfl rfl rfl (o_ari rfl rfl rfl rfl) (TL.nil (thn_normal (T.seq ?_)))))
   refine T.cond (decide (v1 < (a0.Clients_.length : Int))) rfl (fun h => ?_) (fun h => ?_)
   ·replace H := cond_t h H
    refine T.skip (thn_normal (T.seq (T.block (T.seq (T.region (TL.st rfl rfl rfl (o_move rfl rfl) ?_))))))
    obtain ⟨e4, h5, H⟩ := bind_s H
    refine TL.st rfl rfl rfl (o_ix (f := c_T_impl_Client false) rfl rfl tyS_50 rfl rfl h5 rfl) ?_
    refine TL.st rfl rfl rfl (o_loadRf rfl tyS_50 rfl (Nat.le_of_ble_eq_true rfl) rfl) ?_
    refine TL.st rfl rfl rfl (o_alloc rfl ⟨_, rfl, rfl⟩) (TL.st rfl rfl rfl (o_assign rfl rfl) (TL.sn rfl rfl (o_storeBx rfl tyS_50 rfl rfl rfl rfl (Nat.le_of_ble_eq_true rfl) rfl) ?_))
    refine TL.nil (thn_normal (T.seq (T.seq (T.drawn rfl ?_))))
    refine TD.rs rfl rfl (o_fieldAddr rfl rfl rfl tyS_9 (by decide) rfl rfl ⟨_, rfl, Nat.le_of_ble_eq_true rfl⟩) ?_
    refine TD.rs rfl rfl (o_loadBx rfl tyS_9 rfl rfl (Nat.le_of_ble_eq_true rfl) rfl) ?_
    obtain ⟨r6, h7, H⟩ := bind_s H
    refine TD.qs rfl rfl (fun _ => o_callP rfl en_48 rfl rfl (.cons _ _ _ _ (.cl _ rfl) .nil) (impl_ygoodId_p  h7)) ?_
    refine TD.qs rfl rfl (fun _ => o_not rfl rfl) ?_
    refine TD.qs rfl rfl (fun _ => o_move rfl rfl) (TD.cq rfl rfl rfl (.bool _) rfl (fun h _ => o_move rfl rfl) ?_)
    refine TD.cq rfl rfl rfl (.bool _) rfl (fun h _ => o_ari rfl (gv h rfl) rfl rfl) ?_
    refine TD.cq rfl rfl rfl (.bool _) rfl (fun h _ => o_move rfl (gv h rfl)) ?_
    refine TD.cr rfl rfl rfl (.gd _ _) rfl (fun h => o_fieldAddr rfl rfl rfl tyS_23 (by decide) rfl rfl ⟨_, rfl, Nat.le_of_ble_eq_true rfl⟩) ?_
    refine TD.cr rfl rfl rfl (.gd _ _) rfl (fun h => o_loadBx rfl tyS_23 (gv h rfl) rfl (Nat.le_of_ble_eq_true rfl) rfl) ?_
    refine TD.cq rfl rfl rfl (.gd _ _) rfl (fun h _ => o_move rfl rfl) ?_
    refine TD.cq rfl rfl rfl (.gd _ _) rfl (fun h _ => o_ari rfl (gv h rfl) rfl rfl) ?_
    obtain ⟨e8, h9, H⟩ := bind_s H
    refine TD.cq rfl rfl rfl (.gd _ _) rfl (fun h _ => o_ix (f := c_T_impl_Client false) rfl rfl tyS_50 (gv h rfl) (gv h rfl) (gdO_t h9 h) rfl) ?_
    refine TD.cq rfl rfl rfl (.gd _ _) rfl (fun h _ => o_fieldAddr rfl rfl rfl tyS_9 (by decide) (gv h rfl) rfl trivial) ?_
    refine TD.cq rfl rfl rfl (.gd _ _) rfl (fun h _ => o_loadRf rfl tyS_9 (gv h rfl) (Nat.le_of_ble_eq_true rfl) rfl) ?_
    refine TD.cr rfl rfl rfl (.gd _ _) rfl (fun h => o_fieldAddr rfl rfl rfl tyS_9 (by decide) rfl rfl ⟨_, rfl, Nat.le_of_ble_eq_true rfl⟩) ?_
    refine TD.cr rfl rfl rfl (.gd _ _) rfl (fun h => o_loadBx rfl tyS_9 (gv h rfl) rfl (Nat.le_of_ble_eq_true rfl) rfl) ?_
    refine TD.cq rfl rfl rfl (.gd _ _) rfl (fun h _ => o_str rfl (gv h rfl) (gv h rfl) rfl) ?_
    refine TD.cq rfl rfl rfl (.bool _) rfl (fun h _ => o_and rfl (gv h rfl) rfl (fun k => Gd_t (andi h k)) rfl) ?_
    refine TD.qs rfl rfl (fun _ => o_or rfl rfl rfl rfl (fun k => Gd_t k)) ?_
    refine TD.qs rfl rfl (fun _ => o_move rfl rfl) (TD.cr rfl rfl rfl (.bool _) rfl (fun h => o_fieldAddr rfl rfl rfl tyS_22 (by decide) rfl rfl ⟨_, rfl, Nat.le_of_ble_eq_true rfl⟩) ?_)
    refine TD.cr rfl rfl rfl (.bool _) rfl (fun h => o_loadBx rfl tyS_22 (gv h rfl) rfl (Nat.le_of_ble_eq_true rfl) rfl) ?_
    refine TD.cq rfl rfl rfl (.bool _) rfl (fun h _ => o_lenL (f := c_int .u8) rfl rfl (gv h rfl)) ?_
    refine TD.cq rfl rfl rfl (.bool _) rfl (fun h _ => o_ari rfl (gv h rfl) rfl rfl) ?_
    refine TD.cq rfl rfl rfl (.bool _) rfl (fun h _ => o_move rfl (gv h rfl)) ?_
    refine TD.cr rfl rfl rfl (.gd _ _) rfl (fun h => o_fieldAddr rfl rfl rfl tyS_22 (by decide) rfl rfl ⟨_, rfl, Nat.le_of_ble_eq_true rfl⟩) ?_
    refine TD.cr rfl rfl rfl (.gd _ _) rfl (fun h => o_loadBx rfl tyS_22 (gv h rfl) rfl (Nat.le_of_ble_eq_true rfl) rfl) ?_
    refine TD.cq rfl rfl rfl (.gd _ _) rfl (fun h _ => o_lenL (f := c_int .u8) rfl rfl (gv h rfl)) ?_
    refine TD.cq rfl rfl rfl (.gd _ _) rfl (fun h _ => o_ari rfl (gv h rfl) rfl rfl) ?_
    refine TD.cq rfl rfl rfl (.bool _) rfl (fun h _ => o_and rfl (gv h rfl) rfl (fun k => Gd_t (andi h k)) rfl) ?_
    refine TD.qs rfl rfl (fun _ => o_or rfl rfl rfl rfl (fun k => Gd_t k)) ?_
    refine TD.qs rfl rfl (fun _ => o_move rfl rfl) (TD.cr rfl rfl rfl (.bool _) rfl (fun h => o_fieldAddr rfl rfl rfl tyS_30 (by decide) rfl rfl ⟨_, rfl, Nat.le_of_ble_eq_true rfl⟩) ?_)
    refine TD.cr rfl rfl rfl (.bool _) rfl (fun h => o_loadBx rfl tyS_30 (gv h rfl) rfl (Nat.le_of_ble_eq_true rfl) rfl) ?_
    refine TD.cq rfl rfl rfl (.bool _) rfl (fun h _ => o_lenL (f := c_str) rfl rfl (gv h rfl)) ?_
    refine TD.cq rfl rfl rfl (.bool _) rfl (fun h _ => o_ari rfl (gv h rfl) rfl rfl) ?_
    refine TD.qs rfl rfl (fun _ => o_or rfl rfl rfl rfl (fun k => Gd_t k)) ?_
    refine TD.qs rfl rfl (fun _ => o_move rfl rfl) (TD.cr rfl rfl rfl (.bool _) rfl (fun h => o_fieldAddr rfl rfl rfl tyS_30 (by decide) rfl rfl ⟨_, rfl, Nat.le_of_ble_eq_true rfl⟩) ?_)
    refine TD.cr rfl rfl rfl (.bool _) rfl (fun h => o_loadBx rfl tyS_30 (gv h rfl) rfl (Nat.le_of_ble_eq_true rfl) rfl) ?_
    obtain ⟨r10, h11, H⟩ := bind_s H
    refine TD.cq rfl rfl rfl (.bool _) rfl (fun h _ => o_callP rfl en_49 rfl (evl_1 (gv h rfl)) (.cons _ _ _ _ (.cl _ rfl) .nil) (impl_yfitScopes_p false (gdO_t h11 h))) ?_
    refine TD.cq rfl rfl rfl (.bool _) rfl (fun h _ => o_not rfl (gv h rfl)) ?_
    refine TD.qs rfl rfl (fun _ => o_or rfl rfl rfl rfl (fun k => Gd_t k)) ?_
    refine TD.qs rfl rfl (fun _ => o_move rfl rfl) (TD.cr rfl rfl rfl (.bool _) rfl (fun h => o_fieldAddr rfl rfl rfl tyS_29 (by decide) rfl rfl ⟨_, rfl, Nat.le_of_ble_eq_true rfl⟩) ?_)
    refine TD.cr rfl rfl rfl (.bool _) rfl (fun h => o_loadBx rfl tyS_29 (gv h rfl) rfl (Nat.le_of_ble_eq_true rfl) rfl) ?_
    refine TD.cq rfl rfl rfl (.bool _) rfl (fun h _ => o_lenL (f := c_int .i64) rfl rfl (gv h rfl)) ?_
    refine TD.cq rfl rfl rfl (.bool _) rfl (fun h _ => o_ari rfl (gv h rfl) rfl rfl) ?_
    refine TD.qs rfl rfl (fun _ => o_or rfl rfl rfl rfl (fun k => Gd_t k)) ?_
    refine TD.nil ⟨rfl, ?_⟩
    refine thn_normal ?_
    refine T.cond (((((((!r6) || (decide (v1 > 0) && (!(Op.bytesLess e8.Id_.toList e4.Id_.toList)))) || (((e4.Secret_.length : Int) != 0) && ((e4.Secret_.length : Int) != 16))) || decide ((e4.Redirects_.length : Int) > 5)) || (!r10)) || decide ((e4.Kinds_.length : Int) > 4))) rfl (fun h => ?_) (fun h => ?_)
    ·replace H := cond_t h H
     refine T.seq (T.region (TL.st rfl rfl rfl (o_assign rfl rfl) (TL.nil (thn_normal (T.ret (thn_ret (inB_ret (thn_ret ?_))))))))
     exact Pk.id (thn_ret ⟨.inr false, (some_i H).symm, rfl, ⟨trivial, _, (.tmp _ _ _ _ rfl .nil), (.cl _ rfl)⟩⟩)
    ·replace H := cond_f h H
     refine T.skip (thn_normal (T.seq (T.region (TL.st rfl rfl rfl (o_fieldAddr rfl rfl rfl tyS_30 (by decide) rfl rfl ⟨_, rfl, Nat.le_of_ble_eq_true rfl⟩) ?_))))
     refine TL.st rfl rfl rfl (o_loadBx rfl tyS_30 rfl rfl (Nat.le_of_ble_eq_true rfl) rfl) ?_
     obtain ⟨r12, h13, H⟩ := bind_s H
     refine TL.st rfl rfl rfl (o_callP rfl en_50 rfl rfl (.cons _ _ _ _ (.cl _ rfl) (.cons _ _ _ _ (.fn _ _ _ _ _ rfl rfl (fun i c d h => by simp at h) (fun i c d h => by simp at h)) .nil)) (slices_ContainsFuncx_p false h13)) ?_
     refine TL.st rfl rfl rfl (o_move rfl rfl) (TL.gcq rfl rfl rfl (.bool _) rfl rfl (fun h => o_fieldAddr rfl rfl rfl tyS_29 (by decide) rfl rfl ⟨_, rfl, Nat.le_of_ble_eq_true rfl⟩) ?_)
     refine TL.gcq rfl rfl rfl (.bool _) rfl rfl (fun h => o_loadBx rfl tyS_29 (gv h rfl) rfl (Nat.le_of_ble_eq_true rfl) rfl) ?_
     obtain ⟨r14, h15, H⟩ := bind_s H
     refine TL.gcq rfl rfl rfl (.bool _) rfl rfl (fun h => o_callP rfl en_53 rfl (evl_2 (gv h rfl) rfl) (.cons _ _ _ _ (.cl _ rfl) (.cons _ _ _ _ (.fn _ _ _ _ _ rfl rfl (fun i c d h => by simp at h) (fun i c d h => by simp at h)) .nil)) (slices_ContainsFuncxx_p false (gdO_t h15 h))) ?_
     refine TL.st rfl rfl rfl (o_or rfl rfl rfl rfl (fun k => Gd_t k)) (TL.nil (thn_normal ?_))
     refine T.cond ((r12 || r14)) rfl (fun h => ?_) (fun h => ?_)
     ·replace H := cond_t h H
      refine T.seq (T.region (TL.st rfl rfl rfl (o_assign rfl rfl) (TL.nil (thn_normal (T.ret (inB_ret (thn_ret ?_)))))))
      exact Pk.id (thn_ret ⟨.inr false, (some_i H).symm, rfl, ⟨trivial, _, (.tmp _ _ _ _ rfl .nil), (.cl _ rfl)⟩⟩)
     ·replace H := cond_f h H
      refine T.skip (inB_normal (thn_normal (T.region (TL.st rfl rfl rfl (o_ari rfl rfl rfl rfl) (TL.st rfl rfl rfl (o_move rfl rfl) (TL.nil ?_))))))
      exact Pk.of (thn_normal ⟨(IntKind.i64.wrap (v1 + 1)), (some_i H).symm, rfl, rfl⟩)
   ·replace H := cond_f h H
    refine T.exit (thn_exit ?_)
    exact Pk.of (thn_exit ⟨.inl (), (some_i H).symm, rfl, rfl, rfl⟩)
  ·rcases q16 with ⟨⟩ | q2
   ·rintro _ _ _ ⟨rfl, rfl, rfl⟩
    refine inB_here (thn_normal (T.seq (T.region (TL.st rfl rfl rfl (o_assign rfl rfl) (TL.nil (thn_normal (T.ret ?_)))))))
    cases some_i H
    exact ⟨trivial, _, (.tmp _ _ _ _ rfl .nil), (.cl _ rfl)⟩
   ·rintro _ fr1 σ1 ⟨rfl, hr⟩
    refine inB_ret (thn_ret ?_)
    cases some_i H
    exact hr
theorem en_31 (us : Array Value) (w : World) : (callFunc 31 us).run Go.Proofs.Tryz.prog w = .ok (.enter 31 us) w := enters Go.Proofs.Tryz.func31 rfl rfl us w
noncomputable def slices_Index_l1 (a0 : (List Int)) (a1 : Int) : Int → Option (Int ⊕ (Unit ⊕ Int)) := fun s => match s with
  | v1 => cond (decide (v1 < (a0.length : Int))) ((idx a0 v1).bind fun e4 => cond (a1 == e4) (some (.inr (.inr v1))) (some (.inl (IntKind.i64.wrap (v1 + 1))))) (some (.inr (.inl ())))
noncomputable def slices_Index (a0 : (List Int)) (a1 : Int) : Option Int :=
  (loopO (slices_Index_l1 a0 a1) 0).bind fun q6 => (match q6 with | .inl _ => some (-1) | .inr q2 => some q2)
theorem slices_Index_p (b0 : Bool) {a0 : (List Int)} {a1 : Int} {R0 : Int} (H : slices_Index a0 a1 = some R0) : Pure Go.Proofs.Tryz.prog 55 [.im b0 (a0.map (c_int .i64)), .int .i64 a1] (.int .i64 R0) := by
 refine CallT.of_TN (n := 19) Go.Proofs.Tryz.func55 rfl rfl rfl rfl ?_
 refine T.seq (T.region (TL.st rfl rfl rfl (o_assign rfl rfl) (TL.nil (thn_normal (T.seq (T.seq (T.region (TL.st rfl rfl rfl (o_move rfl rfl) (TL.st rfl rfl rfl (o_lenL (f := c_int .i64) rfl rfl rfl) ?_)))))))))
 refine TL.st rfl rfl rfl (o_move rfl rfl) (TL.nil (thn_normal (T.block ?_)))
 obtain ⟨q6, h7, H⟩ := bind_s H
 refine T.lq (fun s => match s with | v1 => [(0, .im b0 (a0.map (c_int .i64))), (1, .int .i64 a1), (7, .int .i64 (a0.length : Int)), (8, .int .i64 v1)]) (fun s => match s with | v1 => []) (fun q ex fr σ => match q with | .inl _ => ex = .exit 0 ∧ fr = [] ∧ σ = [] | .inr q2 => ex = .ret ∧ RetN Go.Proofs.Tryz.prog [.tmp 4] (fun v τ => Told τ v (.int .i64 q2)) .ret fr σ) h7 ?_ ?_
 ·rintro v1 y3 H
  refine T.seq (T.region (TL.st rfl rfl rfl (o_ari rfl rfl rfl rfl) (TL.nil (thn_normal (T.seq ?_)))))
  refine T.cond (decide (v1 < (a0.length : Int))) rfl (fun h => ?_) (fun h => ?_)
  ·replace H := cond_t h H
   refine T.skip (thn_normal (T.seq (T.block (T.seq (T.region (TL.st rfl rfl rfl (o_move rfl rfl) (TL.st rfl rfl rfl (o_assign rfl rfl) (TL.nil (thn_normal (T.seq (T.region (TL.st rfl rfl rfl (o_move rfl rfl) (TL.st rfl rfl rfl (o_move rfl rfl) (TL.st rfl rfl rfl (o_move rfl rfl) ?_))))))))))))))
   obtain ⟨e4, h5, H⟩ := bind_s H
   refine TL.st rfl rfl rfl (o_ix (f := c_int .i64) rfl rfl tyS_3 rfl rfl h5 rfl) ?_
   refine TL.st rfl rfl rfl (o_loadRf rfl tyS_3 rfl (Nat.le_of_ble_eq_true rfl) rfl) ?_
   refine TL.st rfl rfl rfl (o_ari rfl rfl rfl rfl) (TL.nil (thn_normal ?_))
   refine T.cond ((a1 == e4)) rfl (fun h => ?_) (fun h => ?_)
   ·replace H := cond_t h H
    refine T.seq (T.region (TL.st rfl rfl rfl (o_move rfl rfl) (TL.st rfl rfl rfl (o_assign rfl rfl) (TL.nil (thn_normal (T.ret (inB_ret (thn_ret ?_))))))))
    exact Pk.id (thn_ret ⟨.inr v1, (some_i H).symm, rfl, ⟨trivial, _, (.tmp _ _ _ _ rfl .nil), (.cl _ rfl)⟩⟩)
   ·replace H := cond_f h H
    refine T.skip (inB_normal (thn_normal (T.region (TL.st rfl rfl rfl (o_ari rfl rfl rfl rfl) (TL.st rfl rfl rfl (o_move rfl rfl) (TL.nil ?_))))))
    exact Pk.of (thn_normal ⟨(IntKind.i64.wrap (v1 + 1)), (some_i H).symm, rfl, rfl⟩)
  ·replace H := cond_f h H
   refine T.exit (thn_exit ?_)
   exact Pk.of (thn_exit ⟨.inl (), (some_i H).symm, rfl, rfl, rfl⟩)
 ·rcases q6 with ⟨⟩ | q2
  ·rintro _ _ _ ⟨rfl, rfl, rfl⟩
   refine inB_here (thn_normal (T.seq (T.region (TL.st rfl rfl rfl (o_assign rfl rfl) (TL.nil (thn_normal (T.ret ?_)))))))
   cases some_i H
   exact ⟨trivial, _, (.tmp _ _ _ _ rfl .nil), (.cl _ rfl)⟩
  ·rintro _ fr1 σ1 ⟨rfl, hr⟩
   refine inB_ret (thn_ret ?_)
   cases some_i H
   exact hr
theorem en_55 (us : Array Value) (w : World) : (callFunc 55 us).run Go.Proofs.Tryz.prog w = .ok (.enter 55 us) w := enters Go.Proofs.Tryz.func55 rfl rfl us w
noncomputable def slices_Contains (a0 : (List Int)) (a1 : Int) : Option Bool :=
  (slices_Index a0 a1).bind fun r1 => some (decide (r1 ≥ 0))
theorem slices_Contains_p (b0 : Bool) {a0 : (List Int)} {a1 : Int} {R0 : Bool} (H : slices_Contains a0 a1 = some R0) : Pure Go.Proofs.Tryz.prog 32 [.im b0 (a0.map (c_int .i64)), .int .i64 a1] (.bool R0) := by
 refine CallT.of_TN (n := 9) Go.Proofs.Tryz.func32 rfl rfl rfl rfl ?_
 refine T.seq (T.region (TL.st rfl rfl rfl (o_assign rfl rfl) (TL.nil (thn_normal (T.seq (T.region (TL.st rfl rfl rfl (o_move rfl rfl) (TL.st rfl rfl rfl (o_move rfl rfl) ?_))))))))
 obtain ⟨r1, h2, H⟩ := bind_s H
 refine TL.st rfl rfl rfl (o_callP rfl en_55 rfl rfl (.cons _ _ _ _ (.imv _ _) (.cons _ _ _ _ (.cl _ rfl) .nil)) (slices_Index_p b0 h2)) ?_
 refine TL.st rfl rfl rfl (o_ari rfl rfl rfl rfl) (TL.st rfl rfl rfl (o_assign rfl rfl) (TL.nil (thn_normal (T.ret ?_))))
 cases some_i H
 exact ⟨trivial, _, (.tmp _ _ _ _ rfl .nil), (.cl _ rfl)⟩
theorem en_32 (us : Array Value) (w : World) : (callFunc 32 us).run Go.Proofs.Tryz.prog w = .ok (.enter 32 us) w := enters Go.Proofs.Tryz.func32 rfl rfl us w
theorem tyS_97 : TyS Go.Proofs.Tryz.prog 97 true 4 := ⟨rfl, rfl⟩
noncomputable def impl_Digest_1_l1 (a0 : Int) (s1 : (List Int)) : ((List Int) × Int) → Option (((List Int) × Int) ⊕ (List Int)) := fun s => match s with
  | (b1, v2) => cond (decide (v2 < 4)) ((ixA 4 b1 v2).bind fun e5 => (ixA 4 s1 v2).bind fun e7 => (ixA 4 b1 (Int.tmod (IntKind.i64.wrap (v2 + 1)) 4)).bind fun e9 => (ixA 4 b1 v2).bind fun e11 => some (.inl ((b1.set (Int.toNat v2) (Int.tmod (IntKind.i64.wrap ((IntKind.i64.wrap ((IntKind.i64.wrap ((IntKind.i64.wrap (e5 * e7)) + (IntKind.i64.wrap a0))) + 1)) + e9)) 2147483579)), (IntKind.i64.wrap (v2 + 1))))) (some (.inr b1))
noncomputable def impl_Digest_1 (a0 : Int) (s0 : (List Int)) (s1 : (List Int)) : Option (List Int) :=
  (loopO (impl_Digest_1_l1 a0 s1) (s0, 0)).bind fun b3 => (match b3 with | b3 => some b3)
theorem impl_Digest_1_p  {a0 : Int} {s0 : (List Int)} {s1 : (List Int)} {U0 : (List Int)} (H : impl_Digest_1 a0 s0 s1 = some U0) : St Go.Proofs.Tryz.prog 56 [.int .u8 a0, .bx 0 0, .bx 1 0] [.box (s0.map (V.int .i64)), .box (s1.map (V.int .i64))] (.tup []) [.box (U0.map (V.int .i64)), .box (s1.map (V.int .i64))] := by
 refine CallT.fin (CallT.of_TN (n := 29) Go.Proofs.Tryz.func56 rfl rfl rfl rfl ?_) rfl rfl ⟨(belA fun _ => rfl), ⟨(belA fun _ => rfl), trivial⟩⟩
 refine T.seq (T.region (TL.st rfl rfl rfl (o_move rfl rfl) (TL.nil (thn_normal (T.block ?_)))))
 obtain ⟨b3, h14, H⟩ := bind_s H
 refine T.lq (fun s => match s with | (b1, v2) => [(0, .int .u8 a0), (1, .bx 0 0), (2, .bx 1 0), (5, .int .i64 v2)]) (fun s => match s with | (b1, v2) => [.box (b1.map (V.int .i64)), .box (s1.map (V.int .i64))]) (fun q ex fr σ => match q with | b3 => ex = .exit 0 ∧ fr = [] ∧ σ = [.box (b3.map (V.int .i64)), .box (s1.map (V.int .i64))]) h14 ?_ ?_
 ·rintro ⟨b1, v2⟩ y4 H
  refine T.seq (T.region (TL.st rfl rfl rfl (o_ari rfl rfl rfl rfl) (TL.nil (thn_normal (T.seq ?_)))))
  refine T.cond (decide (v2 < 4)) rfl (fun h => ?_) (fun h => ?_)
  ·replace H := cond_t h H
   refine T.skip (thn_normal (T.seq (T.block (T.seq (T.region (TL.st rfl rfl rfl (o_move rfl rfl) (TL.st rfl rfl rfl (o_assign rfl rfl) (TL.nil (thn_normal (T.drawn rfl ?_))))))))))
   refine TD.qs rfl rfl (fun _ => o_move rfl rfl) (TD.qs rfl rfl (fun _ => o_move rfl rfl) ?_)
   obtain ⟨e5, h6, H⟩ := bind_s H
   refine TD.rs rfl rfl (o_ixA (f := V.int .i64) (xs := b1) rfl rfl tyS_3 rfl rfl rfl h6 (by decide)) ?_
   refine TD.rs rfl rfl (o_ldA (f := V.int .i64) (xs := b1) (a := e5) rfl tyS_3 rfl rfl h6) ?_
   refine TD.qs rfl rfl (fun _ => o_move rfl rfl) ?_
   obtain ⟨e7, h8, H⟩ := bind_s H
   refine TD.rs rfl rfl (o_ixA (f := V.int .i64) (xs := s1) rfl rfl tyS_3 rfl rfl rfl h8 (by decide)) ?_
   refine TD.rs rfl rfl (o_ldA (f := V.int .i64) (xs := s1) (a := e7) rfl tyS_3 rfl rfl h8) ?_
   refine TD.qs rfl rfl (fun _ => o_ari rfl rfl rfl rfl) ?_
   refine TD.qs rfl rfl (fun _ => o_move rfl rfl) (TD.qs rfl rfl (fun _ => o_conv rfl rfl ⟨_, rfl⟩ rfl) ?_)
   refine TD.qs rfl rfl (fun _ => o_ari rfl rfl rfl rfl) ?_
   refine TD.qs rfl rfl (fun _ => o_ari rfl rfl rfl rfl) ?_
   refine TD.qs rfl rfl (fun _ => o_move rfl rfl) (TD.qs rfl rfl (fun _ => o_ari rfl rfl rfl rfl) ?_)
   refine TD.qs rfl rfl (fun _ => o_rem rfl rfl rfl (by decide)) ?_
   obtain ⟨e9, h10, H⟩ := bind_s H
   refine TD.rs rfl rfl (o_ixA (f := V.int .i64) (xs := b1) rfl rfl tyS_3 rfl rfl rfl h10 (by decide)) ?_
   refine TD.rs rfl rfl (o_ldA (f := V.int .i64) (xs := b1) (a := e9) rfl tyS_3 rfl rfl h10) ?_
   refine TD.qs rfl rfl (fun _ => o_ari rfl rfl rfl rfl) ?_
   refine TD.qs rfl rfl (fun _ => o_rem rfl rfl rfl (by decide)) ?_
   obtain ⟨e11, h12, H⟩ := bind_s H
   refine TD.rs rfl rfl (o_ixA (f := V.int .i64) (xs := b1) rfl rfl tyS_3 rfl rfl rfl h12 (by decide)) ?_
   refine TD.an rfl rfl (o_stA (f := V.int .i64) (xs := b1) (a := e11) (b := (Int.tmod (IntKind.i64.wrap ((IntKind.i64.wrap ((IntKind.i64.wrap ((IntKind.i64.wrap (e5 * e7)) + (IntKind.i64.wrap a0))) + 1)) + e9)) 2147483579)) rfl tyS_3 rfl rfl rfl h12 rfl rfl) ?_
   refine TD.nil ⟨rfl, ?_⟩
   refine inB_normal (thn_normal (T.region (TL.st rfl rfl rfl (o_ari rfl rfl rfl rfl) (TL.st rfl rfl rfl (o_move rfl rfl) (TL.nil ?_)))))
   exact Pk.of (thn_normal ⟨((b1.set (Int.toNat v2) (Int.tmod (IntKind.i64.wrap ((IntKind.i64.wrap ((IntKind.i64.wrap ((IntKind.i64.wrap (e5 * e7)) + (IntKind.i64.wrap a0))) + 1)) + e9)) 2147483579)), (IntKind.i64.wrap (v2 + 1))), (some_i H).symm, rfl, rfl⟩)
  ·replace H := cond_f h H
   refine T.exit (thn_exit ?_)
   exact Pk.of (thn_exit ⟨b1, (some_i H).symm, rfl, rfl, rfl⟩)
 ·rintro _ _ _ ⟨rfl, rfl, rfl⟩
  refine inB_here ?_
  cases some_i H
  exact ⟨trivial, _, .nil, ⟨rfl, _, rfl⟩⟩
theorem en_56 (us : Array Value) (w : World) : (callFunc 56 us).run Go.Proofs.Tryz.prog w = .ok (.enter 56 us) w := enters Go.Proofs.Tryz.func56 rfl rfl us w
noncomputable def impl_ybytes (a0 : Int) : Option (List Int) :=
  some ([(IntKind.u8.wrap a0), (IntKind.u8.wrap (Int.fdiv a0 (2 ^ (min (Int.toNat 8) IntKind.i64.bits)))), (IntKind.u8.wrap (Int.fdiv a0 (2 ^ (min (Int.toNat 16) IntKind.i64.bits)))), (IntKind.u8.wrap (Int.fdiv a0 (2 ^ (min (Int.toNat 24) IntKind.i64.bits))))] : List Int)
theorem impl_ybytes_p  {a0 : Int} {R0 : (List Int)} (H : impl_ybytes a0 = some R0) : Pure Go.Proofs.Tryz.prog 57 [.int .i64 a0] (.im false (R0.map (c_int .u8))) := by
 refine CallT.of_TN (n := 15) Go.Proofs.Tryz.func57 rfl rfl rfl rfl ?_
 refine T.seq (T.region (TL.st rfl rfl rfl (o_assign rfl rfl) (TL.nil (thn_normal (T.seq (T.region (TL.st rfl rfl rfl (o_move rfl rfl) (TL.st rfl rfl rfl (o_conv rfl rfl ⟨_, rfl⟩ rfl) ?_))))))))
 refine TL.st rfl rfl rfl (o_move rfl rfl) (TL.st rfl rfl rfl (o_shr rfl rfl rfl (by decide)) ?_)
 refine TL.st rfl rfl rfl (o_conv rfl rfl ⟨_, rfl⟩ rfl) ?_
 refine TL.st rfl rfl rfl (o_move rfl rfl) (TL.st rfl rfl rfl (o_shr rfl rfl rfl (by decide)) ?_)
 refine TL.st rfl rfl rfl (o_conv rfl rfl ⟨_, rfl⟩ rfl) ?_
 refine TL.st rfl rfl rfl (o_move rfl rfl) (TL.st rfl rfl rfl (o_shr rfl rfl rfl (by decide)) ?_)
 refine TL.st rfl rfl rfl (o_conv rfl rfl ⟨_, rfl⟩ rfl) ?_
 refine TL.st rfl rfl rfl (o_sliceIm (rows := ([(IntKind.u8.wrap a0), (IntKind.u8.wrap (Int.fdiv a0 (2 ^ (min (Int.toNat 8) IntKind.i64.bits)))), (IntKind.u8.wrap (Int.fdiv a0 (2 ^ (min (Int.toNat 16) IntKind.i64.bits)))), (IntKind.u8.wrap (Int.fdiv a0 (2 ^ (min (Int.toNat 24) IntKind.i64.bits))))] : List Int).map (c_int .u8)) rfl rfl tyS_5 ⟨_, rfl, rfl⟩ (by decide) rfl rfl rfl rfl rfl rfl) ?_
 refine TL.st rfl rfl rfl (o_assign rfl rfl) (TL.nil (thn_normal (T.ret ?_)))
 cases some_i H
 exact ⟨trivial, _, (.tmp _ _ _ _ rfl .nil), (.cl _ rfl)⟩
theorem en_57 (us : Array Value) (w : World) : (callFunc 57 us).run Go.Proofs.Tryz.prog w = .ok (.enter 57 us) w := enters Go.Proofs.Tryz.func57 rfl rfl us w
noncomputable def impl_Digest_l4 (b11 : (List Int)) : (List Int × Int) → Option ((List Int × Int) ⊕ List Int) := fun s => match s with
  | (l14, v15) => cond (decide (v15 < 4)) ((ixA 4 b11 v15).bind fun e18 => (impl_ybytes e18).bind fun r20 => (app l14 r20).bind fun l22 => some (.inl (l22, (IntKind.i64.wrap (v15 + 1))))) (some (.inr l14))
noncomputable def impl_Digest_l3  : ((List Int) × Int) → Option (((List Int) × Int) ⊕ (List Int)) := fun s => match s with
  | (b9, v10) => cond (decide (v10 < 8)) ((impl_Digest_1 0 b9 ([1103515245, 69069, 1664525, 22695477] : List Int)).bind fun o27 => some (.inl (o27, (IntKind.i64.wrap (v10 + 1))))) (some (.inr b9))
noncomputable def impl_Digest_l2 (r4 : (List Int)) : ((List Int) × Int) → Option (((List Int) × Int) ⊕ (List Int)) := fun s => match s with
  | (b6, v7) => cond (decide (v7 < (r4.length : Int))) ((idx r4 v7).bind fun e32 => (impl_Digest_1 e32 b6 ([1103515245, 69069, 1664525, 22695477] : List Int)).bind fun o34 => some (.inl (o34, (IntKind.i64.wrap (v7 + 1))))) (some (.inr b6))
noncomputable def impl_Digest_l1 (a0 : (List Int)) : ((List Int) × Int) → Option (((List Int) × Int) ⊕ (List Int)) := fun s => match s with
  | (b1, v2) => cond (decide (v2 < (a0.length : Int))) ((idx a0 v2).bind fun e39 => (impl_Digest_1 e39 b1 ([1103515245, 69069, 1664525, 22695477] : List Int)).bind fun o41 => some (.inl (o41, (IntKind.i64.wrap (v2 + 1))))) (some (.inr b1))
noncomputable def impl_Digest (a0 : (List Int)) : Option (List Int) :=
  cond (decide ((a0.length : Int) > 20000)) (some ([] : List Int)) ((loopO (impl_Digest_l1 a0) (([11, 22, 33, 44] : List Int), 0)).bind fun b3 => (match b3 with | b3 => (impl_ybytes (a0.length : Int)).bind fun r4 => (loopO (impl_Digest_l2 r4) (b3, 0)).bind fun b8 => (match b8 with | b8 => (loopO (impl_Digest_l3) (b8, 0)).bind fun b11 => (match b11 with | b11 => (lenN 4 b11).bind fun u12 => (loopO (impl_Digest_l4 b11) (([] : List Int), 0)).bind fun l16 => (match l16 with | l16 => some l16)))))
theorem impl_Digest_p (b0 : Bool) {a0 : (List Int)} {R0 : (List Int)} (H : impl_Digest a0 = some R0) : Pure Go.Proofs.Tryz.prog 34 [.im b0 (a0.map (c_int .u8))] (.im false (R0.map (c_int .u8))) := by
 refine CallT.of_TN (n := 56) Go.Proofs.Tryz.func34 rfl rfl rfl rfl ?_
 refine T.seq (T.region (TL.st rfl rfl rfl (o_assign rfl rfl) (TL.nil (thn_normal (T.seq (T.seq (T.region (TL.st rfl rfl rfl (o_move rfl rfl) (TL.st rfl rfl rfl (o_lenL (f := c_int .u8) rfl rfl rfl) ?_)))))))))
 refine TL.st rfl rfl rfl (o_ari rfl rfl rfl rfl) (TL.nil (thn_normal ?_))
 refine T.cond (decide ((a0.length : Int) > 20000)) rfl (fun h => ?_) (fun h => ?_)
 ·replace H := cond_t h H
  refine T.seq (T.region (TL.st rfl rfl rfl (o_assign rfl rfl) (TL.nil (thn_normal (T.ret (thn_ret ?_))))))
  cases some_i H
  exact ⟨trivial, _, (.tmp _ _ _ _ rfl .nil), .nil⟩
 ·replace H := cond_f h H
  refine T.skip (thn_normal (T.seq (T.region (TL.st rfl rfl rfl (o_build rfl ⟨_, fun _ => rfl, rfl⟩ rfl rfl rfl) ?_))))
  refine TL.st rfl rfl rfl (o_alloc rfl ⟨_, rfl, rfl⟩) (TL.sn rfl rfl (o_storeBx rfl tyS_97 rfl rfl rfl rfl (Nat.le_of_ble_eq_true rfl) rfl) ?_)
  refine TL.nil (thn_normal (T.seq (T.region (TL.st rfl rfl rfl (o_build rfl ⟨_, fun _ => rfl, rfl⟩ rfl rfl rfl) ?_))))
  refine TL.st rfl rfl rfl (o_alloc rfl ⟨_, rfl, rfl⟩) (TL.sn rfl rfl (o_storeBx rfl tyS_97 rfl rfl rfl rfl (Nat.le_of_ble_eq_true rfl) rfl) ?_)
  refine TL.nil (thn_normal (T.seq (T.conv (Cs.eqS (σ' := [.box (([11, 22, 33, 44] : List Int).map (V.int .i64)), .box (([1103515245, 69069, 1664525, 22695477] : List Int).map (V.int .i64))]) rfl) ?_)))
  refine T.region (TL.st rfl rfl rfl (o_makeFunc rfl rfl rfl) ?_)
  refine TL.st rfl rfl rfl (o_assign rfl rfl) (TL.nil (thn_normal (T.seq (T.seq (T.region (TL.st rfl rfl rfl (o_move rfl rfl) (TL.st rfl rfl rfl (o_lenL (f := c_int .u8) rfl rfl rfl) ?_)))))))
  refine TL.st rfl rfl rfl (o_move rfl rfl) (TL.nil (thn_normal (T.block ?_)))
  obtain ⟨b3, h44, H⟩ := bind_s H
  refine T.lq (fun s => match s with | (b1, v2) => [(0, .im b0 (a0.map (c_int .u8))), (3, .bx 0 0), (5, .fn 56 [] [.bx 0 0, .bx 1 0]), (19, .im b0 (a0.map (c_int .u8))), (20, .int .i64 (a0.length : Int)), (21, .int .i64 v2)]) (fun s => match s with | (b1, v2) => [.box (b1.map (V.int .i64)), .box (([1103515245, 69069, 1664525, 22695477] : List Int).map (V.int .i64))]) (fun q ex fr σ => match q with | b3 => ex = .exit 0 ∧ fr = [(0, .im b0 (a0.map (c_int .u8))), (3, .bx 0 0), (5, .fn 56 [] [.bx 0 0, .bx 1 0])] ∧ σ = [.box (b3.map (V.int .i64)), .box (([1103515245, 69069, 1664525, 22695477] : List Int).map (V.int .i64))]) h44 ?_ ?_
  ·rintro ⟨b1, v2⟩ y38 H
   refine T.seq (T.region (TL.st rfl rfl rfl (o_ari rfl rfl rfl rfl) (TL.nil (thn_normal (T.seq ?_)))))
   refine T.cond (decide (v2 < (a0.length : Int))) rfl (fun h => ?_) (fun h => ?_)
   ·replace H := cond_t h H
    refine T.skip (thn_normal (T.seq (T.block (T.seq (T.region ?_)))))
    obtain ⟨e39, h40, H⟩ := bind_s H
    refine TL.st rfl rfl rfl (o_ix (f := c_int .u8) rfl rfl tyS_5 rfl rfl h40 rfl) ?_
    refine TL.st rfl rfl rfl (o_loadRf rfl tyS_5 rfl (Nat.le_of_ble_eq_true rfl) rfl) ?_
    refine TL.st rfl rfl rfl (o_assign rfl rfl) (TL.nil (thn_normal (T.region (TL.st rfl rfl rfl (o_move rfl rfl) (TL.st rfl rfl rfl (o_move rfl rfl) ?_)))))
    obtain ⟨o41, h42, H⟩ := bind_s H
    refine TL.st rfl rfl rfl (o_callM [0, 1] rfl en_56 rfl rfl (impl_Digest_1_p  h42) rfl (by decide) (.cons _ _ _ _ (ren_at rfl (ren_bxO fun _ => rfl)) (.cons _ _ _ _ (ren_at rfl (ren_bxO fun _ => rfl)) .nil)) rfl rfl (.cons _ _ _ _ (ren_bxO fun _ => rfl) (.cons _ _ _ _ (ren_bxO fun _ => rfl) .nil)) rfl) ?_
    refine TL.nil (inB_normal (thn_normal (T.region (TL.st rfl rfl rfl (o_ari rfl rfl rfl rfl) (TL.st rfl rfl rfl (o_move rfl rfl) (TL.nil ?_))))))
    exact Pk.of (thn_normal ⟨(o41, (IntKind.i64.wrap (v2 + 1))), (some_i H).symm, rfl, rfl⟩)
   ·replace H := cond_f h H
    refine T.exit (thn_exit ?_)
    exact Pk.of (thn_exit ⟨b1, (some_i H).symm, rfl, rfl, rfl⟩)
  ·rintro _ _ _ ⟨rfl, rfl, rfl⟩
   refine inB_here (thn_normal (T.seq (T.seq (T.region (TL.st rfl rfl rfl (o_move rfl rfl) (TL.st rfl rfl rfl (o_lenL (f := c_int .u8) rfl rfl rfl) ?_))))))
   obtain ⟨r4, h5, H⟩ := bind_s H
   refine TL.st rfl rfl rfl (o_callP rfl en_57 rfl rfl (.cons _ _ _ _ (.cl _ rfl) .nil) (impl_ybytes_p  h5)) ?_
   refine TL.st rfl rfl rfl (o_lenL (f := c_int .u8) rfl rfl rfl) ?_
   refine TL.st rfl rfl rfl (o_move rfl rfl) (TL.nil (thn_normal (T.block ?_)))
   obtain ⟨b8, h37, H⟩ := bind_s H
   refine T.lq (fun s => match s with | (b6, v7) => [(3, .bx 0 0), (5, .fn 56 [] [.bx 0 0, .bx 1 0]), (31, .im false (r4.map (c_int .u8))), (32, .int .i64 (r4.length : Int)), (33, .int .i64 v7)]) (fun s => match s with | (b6, v7) => [.box (b6.map (V.int .i64)), .box (([1103515245, 69069, 1664525, 22695477] : List Int).map (V.int .i64))]) (fun q ex fr σ => match q with | b8 => ex = .exit 2 ∧ fr = [(3, .bx 0 0), (5, .fn 56 [] [.bx 0 0, .bx 1 0])] ∧ σ = [.box (b8.map (V.int .i64)), .box (([1103515245, 69069, 1664525, 22695477] : List Int).map (V.int .i64))]) h37 ?_ ?_
   ·rintro ⟨b6, v7⟩ y31 H
    refine T.seq (T.region (TL.st rfl rfl rfl (o_ari rfl rfl rfl rfl) (TL.nil (thn_normal (T.seq ?_)))))
    refine T.cond (decide (v7 < (r4.length : Int))) rfl (fun h => ?_) (fun h => ?_)
    ·replace H := cond_t h H
     refine T.skip (thn_normal (T.seq (T.block (T.seq (T.region ?_)))))
     obtain ⟨e32, h33, H⟩ := bind_s H
     refine TL.st rfl rfl rfl (o_ix (f := c_int .u8) rfl rfl tyS_5 rfl rfl h33 rfl) ?_
     refine TL.st rfl rfl rfl (o_loadRf rfl tyS_5 rfl (Nat.le_of_ble_eq_true rfl) rfl) ?_
     refine TL.st rfl rfl rfl (o_assign rfl rfl) (TL.nil (thn_normal (T.region (TL.st rfl rfl rfl (o_move rfl rfl) (TL.st rfl rfl rfl (o_move rfl rfl) ?_)))))
     obtain ⟨o34, h35, H⟩ := bind_s H
     refine TL.st rfl rfl rfl (o_callM [0, 1] rfl en_56 rfl rfl (impl_Digest_1_p  h35) rfl (by decide) (.cons _ _ _ _ (ren_at rfl (ren_bxO fun _ => rfl)) (.cons _ _ _ _ (ren_at rfl (ren_bxO fun _ => rfl)) .nil)) rfl rfl (.cons _ _ _ _ (ren_bxO fun _ => rfl) (.cons _ _ _ _ (ren_bxO fun _ => rfl) .nil)) rfl) ?_
     refine TL.nil (inB_normal (thn_normal (T.region (TL.st rfl rfl rfl (o_ari rfl rfl rfl rfl) (TL.st rfl rfl rfl (o_move rfl rfl) (TL.nil ?_))))))
     exact Pk.of (thn_normal ⟨(o34, (IntKind.i64.wrap (v7 + 1))), (some_i H).symm, rfl, rfl⟩)
    ·replace H := cond_f h H
     refine T.exit (thn_exit ?_)
     exact Pk.of (thn_exit ⟨b6, (some_i H).symm, rfl, rfl, rfl⟩)
   ·rintro _ _ _ ⟨rfl, rfl, rfl⟩
    refine inB_here (thn_normal (T.seq (T.seq (T.region (TL.st rfl rfl rfl (o_move rfl rfl) (TL.nil (thn_normal (T.block ?_))))))))
    obtain ⟨b11, h30, H⟩ := bind_s H
    refine T.lq (fun s => match s with | (b9, v10) => [(3, .bx 0 0), (5, .fn 56 [] [.bx 0 0, .bx 1 0]), (41, .int .i64 v10)]) (fun s => match s with | (b9, v10) => [.box (b9.map (V.int .i64)), .box (([1103515245, 69069, 1664525, 22695477] : List Int).map (V.int .i64))]) (fun q ex fr σ => match q with | b11 => ex = .exit 4 ∧ fr = [(3, .bx 0 0)] ∧ σ = [.box (b11.map (V.int .i64)), .box (([1103515245, 69069, 1664525, 22695477] : List Int).map (V.int .i64))]) h30 ?_ ?_
    ·rintro ⟨b9, v10⟩ y26 H
     refine T.seq (T.region (TL.st rfl rfl rfl (o_ari rfl rfl rfl rfl) (TL.nil (thn_normal (T.seq ?_)))))
     refine T.cond (decide (v10 < 8)) rfl (fun h => ?_) (fun h => ?_)
     ·replace H := cond_t h H
      refine T.skip (thn_normal (T.seq (T.block (T.region (TL.st rfl rfl rfl (o_move rfl rfl) ?_)))))
      obtain ⟨o27, h28, H⟩ := bind_s H
      refine TL.st rfl rfl rfl (o_callM [0, 1] rfl en_56 rfl rfl (impl_Digest_1_p  h28) rfl (by decide) (.cons _ _ _ _ (ren_at rfl (ren_bxO fun _ => rfl)) (.cons _ _ _ _ (ren_at rfl (ren_bxO fun _ => rfl)) .nil)) rfl rfl (.cons _ _ _ _ (ren_bxO fun _ => rfl) (.cons _ _ _ _ (ren_bxO fun _ => rfl) .nil)) rfl) ?_
      refine TL.nil (inB_normal (thn_normal (T.region (TL.st rfl rfl rfl (o_ari rfl rfl rfl rfl) (TL.st rfl rfl rfl (o_move rfl rfl) (TL.nil ?_))))))
      exact Pk.of (thn_normal ⟨(o27, (IntKind.i64.wrap (v10 + 1))), (some_i H).symm, rfl, rfl⟩)
     ·replace H := cond_f h H
      refine T.exit (thn_exit ?_)
      exact Pk.of (thn_exit ⟨b9, (some_i H).symm, rfl, rfl, rfl⟩)
    ·rintro _ _ _ ⟨rfl, rfl, rfl⟩
     refine inB_here (thn_normal (T.seq (T.region (TL.st rfl rfl rfl (o_assign rfl rfl) (TL.nil (thn_normal (T.seq (T.seq (T.region ?_)))))))))
     obtain ⟨u12, h13, H⟩ := bind_s H
     refine TL.st rfl rfl rfl (o_loadA (f := V.int .i64) (xs := b11) rfl tyS_97 rfl rfl h13) ?_
     refine TL.st rfl rfl rfl (o_move rfl rfl) (TL.nil (thn_normal (T.block (T.conv (Cs.own (t := 10) 1 rfl (by decide)) ?_))))
     obtain ⟨l16, h25, H⟩ := bind_s H
     refine T.lq (fun s => match s with | (l14, v15) => [(10, .hd 2 (l14.map (c_int .u8)).length 0 (l14.map (c_int .u8)).length), (46, .agg (b11.map (V.int .i64))), (47, .int .i64 v15)]) (fun s => match s with | (l14, v15) => [.box (b11.map (V.int .i64)), .box (([1103515245, 69069, 1664525, 22695477] : List Int).map (V.int .i64)), .arr .clo 1 (l14.map (c_int .u8))]) (fun q ex fr σ => match q with | l16 => ex = .exit 6 ∧ fr = [(10, .hd 2 (l16.map (c_int .u8)).length 0 (l16.map (c_int .u8)).length)] ∧ σ = [.box (b11.map (V.int .i64)), .box (([1103515245, 69069, 1664525, 22695477] : List Int).map (V.int .i64)), .arr .clo 1 (l16.map (c_int .u8))]) h25 ?_ ?_
     ·rintro ⟨l14, v15⟩ y17 H
      refine T.seq (T.region (TL.st rfl rfl rfl (o_ari rfl rfl rfl rfl) (TL.nil (thn_normal (T.seq ?_)))))
      refine T.cond (decide (v15 < 4)) rfl (fun h => ?_) (fun h => ?_)
      ·replace H := cond_t h H
       refine T.skip (thn_normal (T.seq (T.block (T.seq (T.region ?_)))))
       obtain ⟨e18, h19, H⟩ := bind_s H
       refine TL.st rfl rfl rfl (o_ixV (f := V.int .i64) (xs := b11) rfl rfl tyS_3 rfl rfl h19) ?_
       refine TL.st rfl rfl rfl (o_assign rfl rfl) (TL.nil (thn_normal (T.region (TL.st rfl rfl rfl (o_move rfl rfl) (TL.st rfl rfl rfl (o_move rfl rfl) ?_)))))
       obtain ⟨r20, h21, H⟩ := bind_s H
       refine TL.st rfl rfl rfl (o_callP rfl en_57 rfl rfl (.cons _ _ _ _ (.cl _ rfl) .nil) (impl_ybytes_p  h21)) ?_
       obtain ⟨l22, h23, H⟩ := bind_s H
       refine TL.st rfl rfl rfl (o_ap (f := c_int .u8) (xs := l14) (ys := r20) rfl rfl tyE_5 rfl rfl rfl rfl (by decide) rfl (fun _ => rfl) h23) ?_
       refine TL.st rfl rfl rfl (o_assign rfl rfl) (TL.nil (inB_normal (thn_normal (T.region (TL.st rfl rfl rfl (o_ari rfl rfl rfl rfl) (TL.st rfl rfl rfl (o_move rfl rfl) (TL.nil ?_)))))))
       exact Pk.of (thn_normal ⟨(l22, (IntKind.i64.wrap (v15 + 1))), (some_i H).symm, rfl, rfl⟩)
      ·replace H := cond_f h H
       refine T.exit (thn_exit ?_)
       exact Pk.of (thn_exit ⟨l14, (some_i H).symm, rfl, rfl, rfl⟩)
     ·rintro _ _ _ ⟨rfl, rfl, rfl⟩
      refine inB_here (thn_normal (T.seq (T.region (TL.st rfl rfl rfl (o_move rfl rfl) (TL.st rfl rfl rfl (o_assign rfl rfl) (TL.nil (thn_normal (T.ret ?_))))))))
      cases some_i H
      exact ⟨trivial, _, (.tmp _ _ _ _ rfl .nil), (.own rfl (by decide) rfl)⟩
theorem en_34 (us : Array Value) (w : World) : (callFunc 34 us).run Go.Proofs.Tryz.prog w = .ok (.enter 34 us) w := enters Go.Proofs.Tryz.func34 rfl rfl us w
noncomputable def bytes_Equal (a0 : (List Int)) (a1 : (List Int)) : Option Bool :=
  some ((byS a0).toList == (byS a1).toList)
theorem bytes_Equal_p (b0 : Bool) (b1 : Bool) {a0 : (List Int)} {a1 : (List Int)} {R0 : Bool} (H : bytes_Equal a0 a1 = some R0) : Pure Go.Proofs.Tryz.prog 33 [.im b0 (a0.map (c_int .u8)), .im b1 (a1.map (c_int .u8))] (.bool R0) := by
 refine CallT.of_TN (n := 10) Go.Proofs.Tryz.func33 rfl rfl rfl rfl ?_
 refine T.seq (T.region (TL.st rfl rfl rfl (o_assign rfl rfl) (TL.nil (thn_normal (T.seq (T.region (TL.st rfl rfl rfl (o_move rfl rfl) (TL.st rfl rfl rfl (o_bs (f := c_int .u8) (ns := a0) rfl rfl rfl rfl (fun _ => rfl) rfl) ?_))))))))
 refine TL.st rfl rfl rfl (o_move rfl rfl) (TL.st rfl rfl rfl (o_bs (f := c_int .u8) (ns := a1) rfl rfl rfl rfl (fun _ => rfl) rfl) ?_)
 refine TL.st rfl rfl rfl (o_str rfl rfl rfl rfl) ?_
 refine TL.st rfl rfl rfl (o_assign rfl rfl) (TL.nil (thn_normal (T.ret ?_)))
 cases some_i H
 exact ⟨trivial, _, (.tmp _ _ _ _ rfl .nil), (.cl _ rfl)⟩
theorem en_33 (us : Array Value) (w : World) : (callFunc 33 us).run Go.Proofs.Tryz.prog w = .ok (.enter 33 us) w := enters Go.Proofs.Tryz.func33 rfl rfl us w
noncomputable def impl_GoodAttack (a0 : T_impl_AttackConf) : Option Bool :=
  (impl_AttackConf_yclient a0).bind fun q => (match q with | (r1, r2) => (impl_GoodServer a0.Server_).bind fun r4 => (gdO (!((((!r4) || (!r2)) || ((r1.Redirects_.length : Int) == 0)) || ((r1.Scopes_.length : Int) == 0))) (slices_Contains r1.Kinds_ 1)).bind fun r6 => cond (((((!r4) || (!r2)) || ((r1.Redirects_.length : Int) == 0)) || ((r1.Scopes_.length : Int) == 0)) || (!r6)) (some false) (cond ((r1.Secret_.length : Int) == 0) (some (a0.Secret_.toList == (ByteArray.mk #[]).toList)) ((gdO (decide ((a0.Secret_.size : Int) ≥ 1) && decide ((a0.Secret_.size : Int) ≤ 200)) (impl_Digest (bys a0.Secret_))).bind fun r8 => (gdO (decide ((a0.Secret_.size : Int) ≥ 1) && decide ((a0.Secret_.size : Int) ≤ 200)) (bytes_Equal r8 r1.Secret_)).bind fun r10 => some ((decide ((a0.Secret_.size : Int) ≥ 1) && decide ((a0.Secret_.size : Int) ≤ 200)) && r10))))
theorem impl_GoodAttack_p (b0 : Bool) {a0 : T_impl_AttackConf} {R0 : Bool} (H : impl_GoodAttack a0 = some R0) : Pure Go.Proofs.Tryz.prog 19 [.agg (c_T_impl_AttackConf b0 a0)] (.bool R0) := by
 refine CallT.of_TN (n := 62) Go.Proofs.Tryz.func19 rfl rfl rfl rfl ?_
 refine T.seq (T.region (TL.st rfl rfl rfl (o_box rfl rfl rfl) (TL.st rfl rfl rfl (o_assign rfl rfl) (TL.nil (thn_normal (T.seq (T.region (TL.st rfl rfl rfl (o_loadBx rfl tyS_27 rfl rfl (Nat.le_of_ble_eq_true rfl) rfl) ?_))))))))
 obtain ⟨⟨r1, r2⟩, h3, H⟩ := bind_s H
 refine TL.st rfl rfl rfl (o_callP rfl en_20 rfl rfl (.cons _ _ _ _ (Lent.aggL (.cons _ _ _ _ (.imv _ _) (.cons _ _ _ _ (.imv _ _) (.cons _ _ _ _ (.cl _ rfl) (.cons _ _ _ _ (.cl _ rfl) (.cons _ _ _ _ (.cl _ rfl) (.cons _ _ _ _ (.cl _ rfl) (.cons _ _ _ _ (.cl _ rfl) (.cons _ _ _ _ (.cl _ rfl) .nil))))))))) .nil) (impl_AttackConf_yclient_p b0 h3)) ?_
 refine TL.st rfl rfl rfl (o_move rfl rfl) (TL.st rfl rfl rfl (o_extract rfl rfl rfl) (TL.st rfl rfl rfl (o_extract rfl rfl rfl) (TL.st rfl rfl rfl (o_alloc rfl ⟨_, rfl, rfl⟩) (TL.sn rfl rfl (o_storeBx rfl tyS_50 rfl rfl rfl rfl (Nat.le_of_ble_eq_true rfl) rfl) ?_))))
 refine TL.st rfl rfl rfl (o_assign rfl rfl) (TL.nil (thn_normal (T.seq (T.seq (T.conv (Cs.eqS (σ' := [.box (c_T_impl_AttackConf b0 a0), .box (c_T_impl_Client false r1)]) rfl) ?_)))))
 refine T.region (TL.st rfl rfl rfl (o_fieldAddr rfl rfl rfl tyS_25 (by decide) rfl rfl ⟨_, rfl, Nat.le_of_ble_eq_true rfl⟩) ?_)
 refine TL.st rfl rfl rfl (o_loadBx rfl tyS_25 rfl rfl (Nat.le_of_ble_eq_true rfl) rfl) ?_
 obtain ⟨r4, h5, H⟩ := bind_s H
 refine TL.st rfl rfl rfl (o_callP rfl en_31 rfl rfl (.cons _ _ _ _ (Lent.aggL (.cons _ _ _ _ (.imv _ _) (.cons _ _ _ _ (.imv _ _) (.cons _ _ _ _ (.cl _ rfl) (.cons _ _ _ _ (.cl _ rfl) .nil))))) .nil) (impl_GoodServer_p b0 h5)) ?_
 refine TL.st rfl rfl rfl (o_not rfl rfl) ?_
 refine TL.st rfl rfl rfl (o_move rfl rfl) (TL.gcq rfl rfl rfl (.bool _) rfl rfl (fun h => o_move rfl rfl) (TL.gcq rfl rfl rfl (.bool _) rfl rfl (fun h => o_not rfl (gv h rfl)) ?_))
 refine TL.st rfl rfl rfl (o_or rfl rfl rfl rfl (fun k => Gd_t k)) (TL.st rfl rfl rfl (o_move rfl rfl) (TL.gcq rfl rfl rfl (.bool _) rfl rfl (fun h => o_fieldAddr rfl rfl rfl tyS_30 (by decide) rfl rfl ⟨_, rfl, Nat.le_of_ble_eq_true rfl⟩) ?_))
 refine TL.gcq rfl rfl rfl (.bool _) rfl rfl (fun h => o_loadBx rfl tyS_30 (gv h rfl) rfl (Nat.le_of_ble_eq_true rfl) rfl) ?_
 refine TL.gcq rfl rfl rfl (.bool _) rfl rfl (fun h => o_lenL (f := c_str) rfl rfl (gv h rfl)) ?_
 refine TL.gcq rfl rfl rfl (.bool _) rfl rfl (fun h => o_ari rfl (gv h rfl) rfl rfl) ?_
 refine TL.st rfl rfl rfl (o_or rfl rfl rfl rfl (fun k => Gd_t k)) (TL.st rfl rfl rfl (o_move rfl rfl) (TL.gcq rfl rfl rfl (.bool _) rfl rfl (fun h => o_fieldAddr rfl rfl rfl tyS_30 (by decide) rfl rfl ⟨_, rfl, Nat.le_of_ble_eq_true rfl⟩) ?_))
 refine TL.gcq rfl rfl rfl (.bool _) rfl rfl (fun h => o_loadBx rfl tyS_30 (gv h rfl) rfl (Nat.le_of_ble_eq_true rfl) rfl) ?_
 refine TL.gcq rfl rfl rfl (.bool _) rfl rfl (fun h => o_lenL (f := c_str) rfl rfl (gv h rfl)) ?_
 refine TL.gcq rfl rfl rfl (.bool _) rfl rfl (fun h => o_ari rfl (gv h rfl) rfl rfl) ?_
 refine TL.st rfl rfl rfl (o_or rfl rfl rfl rfl (fun k => Gd_t k)) (TL.st rfl rfl rfl (o_move rfl rfl) (TL.gcq rfl rfl rfl (.bool _) rfl rfl (fun h => o_fieldAddr rfl rfl rfl tyS_29 (by decide) rfl rfl ⟨_, rfl, Nat.le_of_ble_eq_true rfl⟩) ?_))
 refine TL.gcq rfl rfl rfl (.bool _) rfl rfl (fun h => o_loadBx rfl tyS_29 (gv h rfl) rfl (Nat.le_of_ble_eq_true rfl) rfl) ?_
 obtain ⟨r6, h7, H⟩ := bind_s H
 refine TL.gcq rfl rfl rfl (.bool _) rfl rfl (fun h => o_callP rfl en_32 rfl (evl_2 (gv h rfl) rfl) (.cons _ _ _ _ (.cl _ rfl) (.cons _ _ _ _ (.cl _ rfl) .nil)) (slices_Contains_p false (gdO_t h7 h))) ?_
 refine TL.gcq rfl rfl rfl (.bool _) rfl rfl (fun h => o_not rfl (gv h rfl)) ?_
 refine TL.st rfl rfl rfl (o_or rfl rfl rfl rfl (fun k => Gd_t k)) (TL.nil (thn_normal ?_))
 refine T.cond ((((((!r4) || (!r2)) || ((r1.Redirects_.length : Int) == 0)) || ((r1.Scopes_.length : Int) == 0)) || (!r6))) rfl (fun h => ?_) (fun h => ?_)
 ·replace H := cond_t h H
  refine T.seq (T.region (TL.st rfl rfl rfl (o_assign rfl rfl) (TL.nil (thn_normal (T.ret (thn_ret ?_))))))
  cases some_i H
  exact ⟨trivial, _, (.tmp _ _ _ _ rfl .nil), (.cl _ rfl)⟩
 ·replace H := cond_f h H
  refine T.skip (thn_normal (T.seq (T.seq (T.region (TL.st rfl rfl rfl (o_fieldAddr rfl rfl rfl tyS_22 (by decide) rfl rfl ⟨_, rfl, Nat.le_of_ble_eq_true rfl⟩) ?_)))))
  refine TL.st rfl rfl rfl (o_loadBx rfl tyS_22 rfl rfl (Nat.le_of_ble_eq_true rfl) rfl) ?_
  refine TL.st rfl rfl rfl (o_lenL (f := c_int .u8) rfl rfl rfl) ?_
  refine TL.st rfl rfl rfl (o_ari rfl rfl rfl rfl) (TL.nil (thn_normal ?_))
  refine T.cond (((r1.Secret_.length : Int) == 0)) rfl (fun h => ?_) (fun h => ?_)
  ·replace H := cond_t h H
   refine T.seq (T.region (TL.st rfl rfl rfl (o_fieldAddr rfl rfl rfl tyS_9 (by decide) rfl rfl ⟨_, rfl, Nat.le_of_ble_eq_true rfl⟩) ?_))
   refine TL.st rfl rfl rfl (o_loadBx rfl tyS_9 rfl rfl (Nat.le_of_ble_eq_true rfl) rfl) ?_
   refine TL.st rfl rfl rfl (o_str rfl rfl rfl rfl) ?_
   refine TL.st rfl rfl rfl (o_assign rfl rfl) (TL.nil (thn_normal (T.ret (thn_ret ?_))))
   cases some_i H
   exact ⟨trivial, _, (.tmp _ _ _ _ rfl .nil), (.cl _ rfl)⟩
  ·replace H := cond_f h H
   refine T.skip (thn_normal (T.seq (T.drawn rfl ?_)))
   refine TD.rs rfl rfl (o_fieldAddr rfl rfl rfl tyS_9 (by decide) rfl rfl ⟨_, rfl, Nat.le_of_ble_eq_true rfl⟩) ?_
   refine TD.rs rfl rfl (o_loadBx rfl tyS_9 rfl rfl (Nat.le_of_ble_eq_true rfl) rfl) ?_
   refine TD.qs rfl rfl (fun _ => o_lenS rfl rfl rfl) ?_
   refine TD.qs rfl rfl (fun _ => o_ari rfl rfl rfl rfl) ?_
   refine TD.qs rfl rfl (fun _ => o_move rfl rfl) (TD.cr rfl rfl rfl (.bool _) rfl (fun h => o_fieldAddr rfl rfl rfl tyS_9 (by decide) rfl rfl ⟨_, rfl, Nat.le_of_ble_eq_true rfl⟩) ?_)
   refine TD.cr rfl rfl rfl (.bool _) rfl (fun h => o_loadBx rfl tyS_9 (gv h rfl) rfl (Nat.le_of_ble_eq_true rfl) rfl) ?_
   refine TD.cq rfl rfl rfl (.bool _) rfl (fun h _ => o_lenS rfl rfl (gv h rfl)) ?_
   refine TD.cq rfl rfl rfl (.bool _) rfl (fun h _ => o_ari rfl (gv h rfl) rfl rfl) ?_
   refine TD.qs rfl rfl (fun _ => o_and rfl rfl rfl (fun k => Gd_t k) rfl) ?_
   refine TD.qs rfl rfl (fun _ => o_move rfl rfl) (TD.cr rfl rfl rfl (.bool _) rfl (fun h => o_fieldAddr rfl rfl rfl tyS_9 (by decide) rfl rfl ⟨_, rfl, Nat.le_of_ble_eq_true rfl⟩) ?_)
   refine TD.cr rfl rfl rfl (.bool _) rfl (fun h => o_loadBx rfl tyS_9 (gv h rfl) rfl (Nat.le_of_ble_eq_true rfl) rfl) ?_
   refine TD.cq rfl rfl rfl (.bool _) rfl (fun h _ => o_sb (f := c_int .u8) rfl rfl rfl rfl (fun _ => rfl) (gv h rfl)) ?_
   obtain ⟨r8, h9, H⟩ := bind_s H
   refine TD.cq rfl rfl rfl (.bool _) rfl (fun h _ => o_callP rfl en_34 rfl (evl_1 (gv h rfl)) (.cons _ _ _ _ (.cl _ rfl) .nil) (impl_Digest_p false (gdO_t h9 h))) ?_
   refine TD.cr rfl rfl rfl (.bool _) rfl (fun h => o_fieldAddr rfl rfl rfl tyS_22 (by decide) rfl rfl ⟨_, rfl, Nat.le_of_ble_eq_true rfl⟩) ?_
   refine TD.cr rfl rfl rfl (.bool _) rfl (fun h => o_loadBx rfl tyS_22 (gv h rfl) rfl (Nat.le_of_ble_eq_true rfl) rfl) ?_
   obtain ⟨r10, h11, H⟩ := bind_s H
   refine TD.cq rfl rfl rfl (.bool _) rfl (fun h _ => o_callP rfl en_33 rfl (evl_2 (gv h rfl) (gv h rfl)) (.cons _ _ _ _ (.cl _ rfl) (.cons _ _ _ _ (.cl _ rfl) .nil)) (bytes_Equal_p false false (gdO_t h11 h))) ?_
   refine TD.qs rfl rfl (fun _ => o_and rfl rfl rfl (fun k => Gd_t k) rfl) ?_
   refine TD.qs rfl rfl (fun _ => o_assign rfl rfl) ?_
   refine TD.nil ⟨rfl, ?_⟩
   refine thn_normal (T.ret ?_)
   cases some_i H
   exact ⟨trivial, _, (.tmp _ _ _ _ rfl .nil), (.cl _ rfl)⟩
theorem en_19 (us : Array Value) (w : World) : (callFunc 19 us).run Go.Proofs.Tryz.prog w = .ok (.enter 19 us) w := enters Go.Proofs.Tryz.func19 rfl rfl us w
theorem tyS_82 : TyS Go.Proofs.Tryz.prog 82 true 12 := ⟨rfl, rfl⟩
def k_impl_yserver (a1 a2 p : Nat) (b : Bool) (x : T_impl_yserver) : List V := ((c_T_impl_Server b x.s_) ++ [.int .i64 x.now_, .hd a1 x.held_.length 0 x.held_.length, .mp a2, .int .i64 x.grants_])
theorem tyE_9 : TyE Go.Proofs.Tryz.prog 9 1 := ⟨_, _, rfl, rfl, rfl, rfl, by decide, by decide⟩
noncomputable def impl_yserver_badForm_l1 (l1 : (List ByteArray)) : Int → Option (Int ⊕ (Unit ⊕ Bool)) := fun s => match s with
  | v3 => cond (decide (v3 < (l1.length : Int))) ((idx l1 v3).bind fun e8 => cond (decide ((e8.size : Int) > 200)) (some (.inr (.inr true))) (some (.inl (IntKind.i64.wrap (v3 + 1))))) (some (.inr (.inl ())))
noncomputable def impl_yserver_badForm (a0 : T_impl_GrantAsk) (s0 : T_impl_yserver) (s2 : List T_impl_yheld) : Option Bool :=
  (app ([a0.Client_, a0.Secret_, a0.Redirect_, a0.Challenge_, a0.Verifier_, a0.User_, a0.Code_, a0.Audience_] : List ByteArray) a0.Scopes_).bind fun l1 => (loopO (impl_yserver_badForm_l1 l1) 0).bind fun q10 => (match q10 with | .inl _ => (gdO (!(((decide (a0.Kind_ < 1) || decide (a0.Kind_ > 9)) || decide (a0.Time_ < 0)) || decide (a0.Time_ > 100000000000))) (impl_yfitScopes a0.Scopes_)).bind fun r5 => some ((((decide (a0.Kind_ < 1) || decide (a0.Kind_ > 9)) || decide (a0.Time_ < 0)) || decide (a0.Time_ > 100000000000)) || (!r5)) | .inr q4 => some q4)
theorem impl_yserver_badForm_p (b0 : Bool) (c0 : Bool) {a0 : T_impl_GrantAsk} {s0 : T_impl_yserver} {s2 : List T_impl_yheld} {R0 : Bool} (H : impl_yserver_badForm a0 s0 s2 = some R0) : St Go.Proofs.Tryz.prog 58 [.bx 0 0, .agg (c_T_impl_GrantAsk b0 a0)] [.box (k_impl_yserver 1 3 2 c0 s0), .arr .raw 1 (s0.held_.map (c_px 2)), .fam (s2.map (c_T_impl_yheld 2 false)), mpO (V.int .i64) (V.bool) s0.ended_] (.bool R0) [.box (k_impl_yserver 1 3 2 c0 s0), .arr .raw 1 (s0.held_.map (c_px 2)), .fam (s2.map (c_T_impl_yheld 2 false)), mpO (V.int .i64) (V.bool) s0.ended_] := by
 refine CallT.fin (CallT.of_TN (n := 60) Go.Proofs.Tryz.func58 rfl rfl rfl rfl ?_) rfl rfl ⟨(bels_iff.1 rfl), ⟨(belRaw fun _ => rfl), ⟨(belFam fun _ => rfl), ⟨(belMap fun _ => rfl), trivial⟩⟩⟩⟩
 refine T.seq (T.region (TL.st rfl rfl rfl (o_box rfl rfl rfl) (TL.st rfl rfl rfl (o_assign rfl rfl) (TL.nil (thn_normal (T.seq (T.seq (T.region (TL.st rfl rfl rfl (o_fieldAddr rfl rfl rfl tyS_9 (by decide) rfl rfl ⟨_, rfl, Nat.le_of_ble_eq_true rfl⟩) ?_)))))))))
 refine TL.st rfl rfl rfl (o_loadBx rfl tyS_9 rfl rfl (Nat.le_of_ble_eq_true rfl) rfl) ?_
 refine TL.st rfl rfl rfl (o_fieldAddr rfl rfl rfl tyS_9 (by decide) rfl rfl ⟨_, rfl, Nat.le_of_ble_eq_true rfl⟩) ?_
 refine TL.st rfl rfl rfl (o_loadBx rfl tyS_9 rfl rfl (Nat.le_of_ble_eq_true rfl) rfl) ?_
 refine TL.st rfl rfl rfl (o_fieldAddr rfl rfl rfl tyS_9 (by decide) rfl rfl ⟨_, rfl, Nat.le_of_ble_eq_true rfl⟩) ?_
 refine TL.st rfl rfl rfl (o_loadBx rfl tyS_9 rfl rfl (Nat.le_of_ble_eq_true rfl) rfl) ?_
 refine TL.st rfl rfl rfl (o_fieldAddr rfl rfl rfl tyS_9 (by decide) rfl rfl ⟨_, rfl, Nat.le_of_ble_eq_true rfl⟩) ?_
 refine TL.st rfl rfl rfl (o_loadBx rfl tyS_9 rfl rfl (Nat.le_of_ble_eq_true rfl) rfl) ?_
 refine TL.st rfl rfl rfl (o_fieldAddr rfl rfl rfl tyS_9 (by decide) rfl rfl ⟨_, rfl, Nat.le_of_ble_eq_true rfl⟩) ?_
 refine TL.st rfl rfl rfl (o_loadBx rfl tyS_9 rfl rfl (Nat.le_of_ble_eq_true rfl) rfl) ?_
 refine TL.st rfl rfl rfl (o_fieldAddr rfl rfl rfl tyS_9 (by decide) rfl rfl ⟨_, rfl, Nat.le_of_ble_eq_true rfl⟩) ?_
 refine TL.st rfl rfl rfl (o_loadBx rfl tyS_9 rfl rfl (Nat.le_of_ble_eq_true rfl) rfl) ?_
 refine TL.st rfl rfl rfl (o_fieldAddr rfl rfl rfl tyS_9 (by decide) rfl rfl ⟨_, rfl, Nat.le_of_ble_eq_true rfl⟩) ?_
 refine TL.st rfl rfl rfl (o_loadBx rfl tyS_9 rfl rfl (Nat.le_of_ble_eq_true rfl) rfl) ?_
 refine TL.st rfl rfl rfl (o_fieldAddr rfl rfl rfl tyS_9 (by decide) rfl rfl ⟨_, rfl, Nat.le_of_ble_eq_true rfl⟩) ?_
 refine TL.st rfl rfl rfl (o_loadBx rfl tyS_9 rfl rfl (Nat.le_of_ble_eq_true rfl) rfl) ?_
 refine TL.st rfl rfl rfl (o_sliceHd (rows := ([a0.Client_, a0.Secret_, a0.Redirect_, a0.Challenge_, a0.Verifier_, a0.User_, a0.Code_, a0.Audience_] : List ByteArray).map (c_str)) .clo rfl rfl tyS_9 ⟨_, rfl, rfl⟩ (by decide) rfl rfl rfl rfl (by decide) (fun _ => rfl) (by decide) rfl (by decide)) ?_
 refine TL.st rfl rfl rfl (o_fieldAddr rfl rfl rfl tyS_30 (by decide) rfl rfl ⟨_, rfl, Nat.le_of_ble_eq_true rfl⟩) ?_
 refine TL.st rfl rfl rfl (o_loadBx rfl tyS_30 rfl rfl (Nat.le_of_ble_eq_true rfl) rfl) ?_
 obtain ⟨l1, h2, H⟩ := bind_s H
 refine TL.st rfl rfl rfl (o_ap (f := c_str) (xs := ([a0.Client_, a0.Secret_, a0.Redirect_, a0.Challenge_, a0.Verifier_, a0.User_, a0.Code_, a0.Audience_] : List ByteArray)) (ys := a0.Scopes_) rfl rfl tyE_9 rfl rfl rfl rfl (by decide) rfl (fun _ => rfl) h2) ?_
 refine TL.st rfl rfl rfl (o_lenOwn (f := c_str) rfl rfl rfl rfl rfl) ?_
 refine TL.st rfl rfl rfl (o_move rfl rfl) (TL.nil (thn_normal (T.conv (Cs.eqS (σ' := [.box (k_impl_yserver 1 3 2 c0 s0), .arr .raw 1 (s0.held_.map (c_px 2)), .fam (s2.map (c_T_impl_yheld 2 false)), mpO (V.int .i64) (V.bool) s0.ended_, .box (c_T_impl_GrantAsk b0 a0), .arr .clo 1 (l1.map (c_str))]) rfl) ?_)))
 refine T.block ?_
 obtain ⟨q10, h11, H⟩ := bind_s H
 refine T.lq (fun s => match s with | v3 => [(3, .bx 4 0), (26, .hd 5 (l1.map (c_str)).length 0 (l1.map (c_str)).length), (27, .int .i64 (l1.length : Int)), (28, .int .i64 v3)]) (fun s => match s with | v3 => [.box (k_impl_yserver 1 3 2 c0 s0), .arr .raw 1 (s0.held_.map (c_px 2)), .fam (s2.map (c_T_impl_yheld 2 false)), mpO (V.int .i64) (V.bool) s0.ended_, .box (c_T_impl_GrantAsk b0 a0), .arr .clo 1 (l1.map (c_str))]) (fun q ex fr σ => match q with | .inl _ => ex = .exit 0 ∧ fr = [(3, .bx 4 0)] ∧ σ = [.box (k_impl_yserver 1 3 2 c0 s0), .arr .raw 1 (s0.held_.map (c_px 2)), .fam (s2.map (c_T_impl_yheld 2 false)), mpO (V.int .i64) (V.bool) s0.ended_, .box (c_T_impl_GrantAsk b0 a0), .arr .clo 1 (l1.map (c_str))] | .inr q4 => ex = .ret ∧ RetN Go.Proofs.Tryz.prog [.tmp 4] (Fin [.box (k_impl_yserver 1 3 2 c0 s0), .arr .raw 1 (s0.held_.map (c_px 2)), .fam (s2.map (c_T_impl_yheld 2 false)), mpO (V.int .i64) (V.bool) s0.ended_] (.bool q4)) .ret fr σ) h11 ?_ ?_
 ·rintro v3 y7 H
  refine T.seq (T.region (TL.st rfl rfl rfl (o_ari rfl rfl rfl rfl) (TL.nil (thn_normal (T.seq ?_)))))
  refine T.cond (decide (v3 < (l1.length : Int))) rfl (fun h => ?_) (fun h => ?_)
  ·replace H := cond_t h H
   refine T.skip (thn_normal (T.seq (T.block (T.seq (T.region ?_)))))
   obtain ⟨e8, h9, H⟩ := bind_s H
   refine TL.st rfl rfl rfl (o_ixh (f := c_str) rfl rfl tyS_9 rfl rfl rfl rfl h9 rfl) ?_
   refine TL.st rfl rfl rfl (o_loadEl rfl tyS_9 rfl rfl rfl (by rw [List.getElem?_map, (idx_s h9).2]; rfl) (Nat.le_of_ble_eq_true rfl) rfl) ?_
   refine TL.st rfl rfl rfl (o_assign rfl rfl) (TL.nil (thn_normal (T.seq (T.region (TL.st rfl rfl rfl (o_move rfl rfl) (TL.st rfl rfl rfl (o_lenS rfl rfl rfl) ?_))))))
   refine TL.st rfl rfl rfl (o_ari rfl rfl rfl rfl) (TL.nil (thn_normal ?_))
   refine T.cond (decide ((e8.size : Int) > 200)) rfl (fun h => ?_) (fun h => ?_)
   ·replace H := cond_t h H
    refine T.seq (T.region (TL.st rfl rfl rfl (o_assign rfl rfl) (TL.nil (thn_normal (T.ret (inB_ret (thn_ret ?_)))))))
    exact Pk.id (thn_ret ⟨.inr true, (some_i H).symm, rfl, ⟨trivial, _, (.tmp _ _ _ _ rfl .nil), ⟨rfl, _, rfl⟩⟩⟩)
   ·replace H := cond_f h H
    refine T.skip (inB_normal (thn_normal (T.region (TL.st rfl rfl rfl (o_ari rfl rfl rfl rfl) (TL.st rfl rfl rfl (o_move rfl rfl) (TL.nil ?_))))))
    exact Pk.of (thn_normal ⟨(IntKind.i64.wrap (v3 + 1)), (some_i H).symm, rfl, rfl⟩)
  ·replace H := cond_f h H
   refine T.exit (thn_exit ?_)
   exact Pk.of (thn_exit ⟨.inl (), (some_i H).symm, rfl, rfl, rfl⟩)
 ·rcases q10 with ⟨⟩ | q4
  ·rintro _ _ _ ⟨rfl, rfl, rfl⟩
   refine inB_here (thn_normal (T.seq (T.region (TL.st rfl rfl rfl (o_fieldAddr rfl rfl rfl tyS_3 (by decide) rfl rfl ⟨_, rfl, Nat.le_of_ble_eq_true rfl⟩) ?_))))
   refine TL.st rfl rfl rfl (o_loadBx rfl tyS_3 rfl rfl (Nat.le_of_ble_eq_true rfl) rfl) ?_
   refine TL.st rfl rfl rfl (o_ari rfl rfl rfl rfl) (TL.st rfl rfl rfl (o_move rfl rfl) (TL.gcq rfl rfl rfl (.bool _) rfl rfl (fun h => o_fieldAddr rfl rfl rfl tyS_3 (by decide) rfl rfl ⟨_, rfl, Nat.le_of_ble_eq_true rfl⟩) ?_))
   refine TL.gcq rfl rfl rfl (.bool _) rfl rfl (fun h => o_loadBx rfl tyS_3 (gv h rfl) rfl (Nat.le_of_ble_eq_true rfl) rfl) ?_
   refine TL.gcq rfl rfl rfl (.bool _) rfl rfl (fun h => o_ari rfl (gv h rfl) rfl rfl) ?_
   refine TL.st rfl rfl rfl (o_or rfl rfl rfl rfl (fun k => Gd_t k)) (TL.st rfl rfl rfl (o_move rfl rfl) (TL.gcq rfl rfl rfl (.bool _) rfl rfl (fun h => o_fieldAddr rfl rfl rfl tyS_3 (by decide) rfl rfl ⟨_, rfl, Nat.le_of_ble_eq_true rfl⟩) ?_))
   refine TL.gcq rfl rfl rfl (.bool _) rfl rfl (fun h => o_loadBx rfl tyS_3 (gv h rfl) rfl (Nat.le_of_ble_eq_true rfl) rfl) ?_
   refine TL.gcq rfl rfl rfl (.bool _) rfl rfl (fun h => o_ari rfl (gv h rfl) rfl rfl) ?_
   refine TL.st rfl rfl rfl (o_or rfl rfl rfl rfl (fun k => Gd_t k)) (TL.st rfl rfl rfl (o_move rfl rfl) (TL.gcq rfl rfl rfl (.bool _) rfl rfl (fun h => o_fieldAddr rfl rfl rfl tyS_3 (by decide) rfl rfl ⟨_, rfl, Nat.le_of_ble_eq_true rfl⟩) ?_))
   refine TL.gcq rfl rfl rfl (.bool _) rfl rfl (fun h => o_loadBx rfl tyS_3 (gv h rfl) rfl (Nat.le_of_ble_eq_true rfl) rfl) ?_
   refine TL.gcq rfl rfl rfl (.bool _) rfl rfl (fun h => o_ari rfl (gv h rfl) rfl rfl) ?_
   refine TL.st rfl rfl rfl (o_or rfl rfl rfl rfl (fun k => Gd_t k)) (TL.st rfl rfl rfl (o_move rfl rfl) (TL.gcq rfl rfl rfl (.bool _) rfl rfl (fun h => o_fieldAddr rfl rfl rfl tyS_30 (by decide) rfl rfl ⟨_, rfl, Nat.le_of_ble_eq_true rfl⟩) ?_))
   refine TL.gcq rfl rfl rfl (.bool _) rfl rfl (fun h => o_loadBx rfl tyS_30 (gv h rfl) rfl (Nat.le_of_ble_eq_true rfl) rfl) ?_
   obtain ⟨r5, h6, H⟩ := bind_s H
   refine TL.gcq rfl rfl rfl (.bool _) rfl rfl (fun h => o_callP rfl en_49 rfl (evl_1 (gv h rfl)) (.cons _ _ _ _ (.imv _ _) .nil) (impl_yfitScopes_p b0 (gdO_t h6 h))) ?_
   refine TL.gcq rfl rfl rfl (.bool _) rfl rfl (fun h => o_not rfl (gv h rfl)) ?_
   refine TL.st rfl rfl rfl (o_or rfl rfl rfl rfl (fun k => Gd_t k)) (TL.st rfl rfl rfl (o_assign rfl rfl) (TL.nil (thn_normal (T.ret ?_))))
   cases some_i H
   exact ⟨trivial, _, (.tmp _ _ _ _ rfl .nil), ⟨rfl, _, rfl⟩⟩
  ·rintro _ fr1 σ1 ⟨rfl, hr⟩
   refine inB_ret (thn_ret ?_)
   cases some_i H
   exact hr
theorem en_58 (us : Array Value) (w : World) : (callFunc 58 us).run Go.Proofs.Tryz.prog w = .ok (.enter 58 us) w := enters Go.Proofs.Tryz.func58 rfl rfl us w
theorem tyS_84 : TyS Go.Proofs.Tryz.prog 84 true 8 := ⟨rfl, rfl⟩
noncomputable def impl_yserver_ask_1 (a0 : T_impl_Client) : Option ByteArray :=
  some a0.Id_
theorem impl_yserver_ask_1_p (b0 : Bool) {a0 : T_impl_Client} {R0 : ByteArray} (H : impl_yserver_ask_1 a0 = some R0) : Pure Go.Proofs.Tryz.prog 59 [.agg (c_T_impl_Client b0 a0)] (.str R0) := by
 refine CallT.of_TN (n := 5) Go.Proofs.Tryz.func59 rfl rfl rfl rfl ?_
 refine T.seq (T.region (TL.st rfl rfl rfl (o_box rfl rfl rfl) (TL.st rfl rfl rfl (o_assign rfl rfl) (TL.nil (thn_normal (T.seq (T.region (TL.st rfl rfl rfl (o_fieldAddr rfl rfl rfl tyS_9 (by decide) rfl rfl ⟨_, rfl, Nat.le_of_ble_eq_true rfl⟩) ?_))))))))
 refine TL.st rfl rfl rfl (o_loadBx rfl tyS_9 rfl rfl (Nat.le_of_ble_eq_true rfl) rfl) ?_
 refine TL.st rfl rfl rfl (o_assign rfl rfl) (TL.nil (thn_normal (T.ret ?_)))
 cases some_i H
 exact ⟨trivial, _, (.tmp _ _ _ _ rfl .nil), (.cl _ rfl)⟩
theorem en_59 (us : Array Value) (w : World) : (callFunc 59 us).run Go.Proofs.Tryz.prog w = .ok (.enter 59 us) w := enters Go.Proofs.Tryz.func59 rfl rfl us w
noncomputable def impl_Client_x_l1 (a0 : (List T_impl_Client)) (a1 : ByteArray) : Int → Option (Int ⊕ (Unit ⊕ (T_impl_Client × Bool))) := fun s => match s with
  | v1 => cond (decide (v1 < (a0.length : Int))) ((idx a0 v1).bind fun e4 => (impl_yserver_ask_1 e4).bind fun r6 => cond (r6.toList == a1.toList) (some (.inr (.inr (e4, true)))) (some (.inl (IntKind.i64.wrap (v1 + 1))))) (some (.inr (.inl ())))
noncomputable def impl_Client_x (a0 : (List T_impl_Client)) (a1 : ByteArray) : Option (T_impl_Client × Bool) :=
  (loopO (impl_Client_x_l1 a0 a1) 0).bind fun q8 => (match q8 with | .inl _ => some ((⟨(ByteArray.mk #[]), ([] : List Int), ([] : List ByteArray), ([] : List ByteArray), ([] : List Int)⟩ : T_impl_Client), false) | .inr q2 => some q2)
theorem impl_Client_x_p (b0 : Bool) {a0 : (List T_impl_Client)} {a1 : ByteArray} {R0 : T_impl_Client} {R1 : Bool} (H : impl_Client_x a0 a1 = some (R0, R1)) : Pure Go.Proofs.Tryz.prog 35 [.im b0 (a0.map (c_T_impl_Client false)), .fn 59 [] [], .str a1] (.tup [.agg (c_T_impl_Client false R0), .bool R1]) := by
 refine CallT.of_TN (n := 25) Go.Proofs.Tryz.func35 rfl rfl rfl rfl ?_
 refine T.seq (T.region (TL.st rfl rfl rfl (o_alloc rfl ⟨_, rfl, rfl⟩) (TL.st rfl rfl rfl (o_assign rfl rfl) (TL.nil (thn_normal (T.seq (T.seq (T.region (TL.st rfl rfl rfl (o_move rfl rfl) (TL.st rfl rfl rfl (o_lenL (f := c_T_impl_Client false) rfl rfl rfl) ?_))))))))))
 refine TL.st rfl rfl rfl (o_move rfl rfl) (TL.nil (thn_normal (T.block ?_)))
 obtain ⟨q8, h9, H⟩ := bind_s H
 refine T.lq (fun s => match s with | v1 => [(1, .fn 59 [] []), (2, .str a1), (6, .bx 0 0), (11, .im b0 (a0.map (c_T_impl_Client false))), (12, .int .i64 (a0.length : Int)), (13, .int .i64 v1)]) (fun s => match s with | v1 => [.box [.str (ByteArray.mk #[]), .nilS, .nilS, .nilS, .nilS]]) (fun q ex fr σ => match q with | .inl _ => ex = .exit 0 ∧ fr = [(6, .bx 0 0)] ∧ σ = [.box [.str (ByteArray.mk #[]), .nilS, .nilS, .nilS, .nilS]] | .inr q2 => ex = .ret ∧ RetN Go.Proofs.Tryz.prog [.cell 6 50, .tmp 7] (fun v τ => Told τ v (.tup [.agg (c_T_impl_Client false q2.1), .bool q2.2])) .ret fr σ) h9 ?_ ?_
 ·rintro v1 y3 H
  refine T.seq (T.region (TL.st rfl rfl rfl (o_ari rfl rfl rfl rfl) (TL.nil (thn_normal (T.seq ?_)))))
  refine T.cond (decide (v1 < (a0.length : Int))) rfl (fun h => ?_) (fun h => ?_)
  ·replace H := cond_t h H
   refine T.skip (thn_normal (T.seq (T.block (T.seq (T.region ?_)))))
   obtain ⟨e4, h5, H⟩ := bind_s H
   refine TL.st rfl rfl rfl (o_ix (f := c_T_impl_Client false) rfl rfl tyS_50 rfl rfl h5 rfl) ?_
   refine TL.st rfl rfl rfl (o_loadRf rfl tyS_50 rfl (Nat.le_of_ble_eq_true rfl) rfl) ?_
   refine TL.st rfl rfl rfl (o_alloc rfl ⟨_, rfl, rfl⟩) (TL.sn rfl rfl (o_storeBx rfl tyS_50 rfl rfl rfl rfl (Nat.le_of_ble_eq_true rfl) rfl) ?_)
   refine TL.nil (thn_normal (T.seq (T.region (TL.st rfl rfl rfl (o_move rfl rfl) (TL.st rfl rfl rfl (o_loadBx rfl tyS_50 rfl rfl (Nat.le_of_ble_eq_true rfl) rfl) ?_)))))
   obtain ⟨r6, h7, H⟩ := bind_s H
   refine TL.st rfl rfl rfl (o_callP rfl en_59 rfl rfl (.cons _ _ _ _ (.cl _ rfl) .nil) (impl_yserver_ask_1_p false h7)) ?_
   refine TL.st rfl rfl rfl (o_move rfl rfl) (TL.st rfl rfl rfl (o_str rfl rfl rfl rfl) ?_)
   refine TL.nil (thn_normal ?_)
   refine T.cond ((r6.toList == a1.toList)) rfl (fun h => ?_) (fun h => ?_)
   ·replace H := cond_t h H
    refine T.seq (T.region (TL.st rfl rfl rfl (o_loadBx rfl tyS_50 rfl rfl (Nat.le_of_ble_eq_true rfl) rfl) ?_))
    refine TL.sn rfl rfl (o_storeBx rfl tyS_50 rfl rfl rfl rfl (Nat.le_of_ble_eq_true rfl) rfl) ?_
    refine TL.st rfl rfl rfl (o_assign rfl rfl) (TL.nil (thn_normal (T.conv (Cs.eqS (σ' := [.box (c_T_impl_Client false e4), .box (c_T_impl_Client false e4)]) rfl) ?_)))
    refine T.ret (inB_ret (thn_ret ?_))
    exact Pk.id (thn_ret ⟨.inr (e4, true), (some_i H).symm, rfl, ⟨trivial, _, (.cell _ _ _ _ _ _ _ _ _ _ rfl rfl tyS_50 (Nat.le_of_ble_eq_true rfl) rfl (.tmp _ _ _ _ rfl .nil)), (.tupL (.cons _ _ _ _ (.cl _ rfl) (.cons _ _ _ _ (.cl _ rfl) .nil)))⟩⟩)
   ·replace H := cond_f h H
    refine T.skip (inB_normal (thn_normal (T.region (TL.st rfl rfl rfl (o_ari rfl rfl rfl rfl) (TL.st rfl rfl rfl (o_move rfl rfl) (TL.nil ?_))))))
    exact Pk.of (thn_normal ⟨(IntKind.i64.wrap (v1 + 1)), (some_i H).symm, rfl, rfl⟩)
  ·replace H := cond_f h H
   refine T.exit (thn_exit ?_)
   exact Pk.of (thn_exit ⟨.inl (), (some_i H).symm, rfl, rfl, rfl⟩)
 ·rcases q8 with ⟨⟩ | q2
  ·rintro _ _ _ ⟨rfl, rfl, rfl⟩
   refine inB_here (thn_normal (T.seq (T.region (TL.st rfl rfl rfl (o_alloc rfl ⟨_, rfl, rfl⟩) (TL.nil (thn_normal (T.seq (T.region (TL.st rfl rfl rfl (o_loadBx rfl tyS_50 rfl rfl (Nat.le_of_ble_eq_true rfl) rfl) ?_)))))))))
   refine TL.sn rfl rfl (o_storeBx rfl tyS_50 rfl rfl rfl rfl (Nat.le_of_ble_eq_true rfl) rfl) ?_
   refine TL.st rfl rfl rfl (o_assign rfl rfl) (TL.nil (thn_normal (T.ret ?_)))
   cases some_i H
   exact ⟨trivial, _, (.cell _ _ _ _ _ _ _ _ _ _ rfl rfl tyS_50 (Nat.le_of_ble_eq_true rfl) rfl (.tmp _ _ _ _ rfl .nil)), (.tupL (.cons _ _ _ _ (.aggL (.cons _ _ _ _ (.cl _ rfl) (.cons _ _ _ _ .nil (.cons _ _ _ _ .nil (.cons _ _ _ _ .nil (.cons _ _ _ _ .nil .nil)))))) (.cons _ _ _ _ (.cl _ rfl) .nil)))⟩
  ·rintro _ fr1 σ1 ⟨rfl, hr⟩
   refine inB_ret (thn_ret ?_)
   cases some_i H
   exact hr
noncomputable def slices_Indexx_l1 (a0 : (List ByteArray)) (a1 : ByteArray) : Int → Option (Int ⊕ (Unit ⊕ Int)) := fun s => match s with
  | v1 => cond (decide (v1 < (a0.length : Int))) ((idx a0 v1).bind fun e4 => cond (a1.toList == e4.toList) (some (.inr (.inr v1))) (some (.inl (IntKind.i64.wrap (v1 + 1))))) (some (.inr (.inl ())))
noncomputable def slices_Indexx (a0 : (List ByteArray)) (a1 : ByteArray) : Option Int :=
  (loopO (slices_Indexx_l1 a0 a1) 0).bind fun q6 => (match q6 with | .inl _ => some (-1) | .inr q2 => some q2)
theorem slices_Indexx_p (b0 : Bool) {a0 : (List ByteArray)} {a1 : ByteArray} {R0 : Int} (H : slices_Indexx a0 a1 = some R0) : Pure Go.Proofs.Tryz.prog 85 [.im b0 (a0.map (c_str)), .str a1] (.int .i64 R0) := by
 refine CallT.of_TN (n := 19) Go.Proofs.Tryz.func85 rfl rfl rfl rfl ?_
 refine T.seq (T.region (TL.st rfl rfl rfl (o_assign rfl rfl) (TL.nil (thn_normal (T.seq (T.seq (T.region (TL.st rfl rfl rfl (o_move rfl rfl) (TL.st rfl rfl rfl (o_lenL (f := c_str) rfl rfl rfl) ?_)))))))))
 refine TL.st rfl rfl rfl (o_move rfl rfl) (TL.nil (thn_normal (T.block ?_)))
 obtain ⟨q6, h7, H⟩ := bind_s H
 refine T.lq (fun s => match s with | v1 => [(0, .im b0 (a0.map (c_str))), (1, .str a1), (7, .int .i64 (a0.length : Int)), (8, .int .i64 v1)]) (fun s => match s with | v1 => []) (fun q ex fr σ => match q with | .inl _ => ex = .exit 0 ∧ fr = [] ∧ σ = [] | .inr q2 => ex = .ret ∧ RetN Go.Proofs.Tryz.prog [.tmp 4] (fun v τ => Told τ v (.int .i64 q2)) .ret fr σ) h7 ?_ ?_
 ·rintro v1 y3 H
  refine T.seq (T.region (TL.st rfl rfl rfl (o_ari rfl rfl rfl rfl) (TL.nil (thn_normal (T.seq ?_)))))
  refine T.cond (decide (v1 < (a0.length : Int))) rfl (fun h => ?_) (fun h => ?_)
  ·replace H := cond_t h H
   refine T.skip (thn_normal (T.seq (T.block (T.seq (T.region (TL.st rfl rfl rfl (o_move rfl rfl) (TL.st rfl rfl rfl (o_assign rfl rfl) (TL.nil (thn_normal (T.seq (T.region (TL.st rfl rfl rfl (o_move rfl rfl) (TL.st rfl rfl rfl (o_move rfl rfl) (TL.st rfl rfl rfl (o_move rfl rfl) ?_))))))))))))))
   obtain ⟨e4, h5, H⟩ := bind_s H
   refine TL.st rfl rfl rfl (o_ix (f := c_str) rfl rfl tyS_9 rfl rfl h5 rfl) ?_
   refine TL.st rfl rfl rfl (o_loadRf rfl tyS_9 rfl (Nat.le_of_ble_eq_true rfl) rfl) ?_
   refine TL.st rfl rfl rfl (o_str rfl rfl rfl rfl) ?_
   refine TL.nil (thn_normal ?_)
   refine T.cond ((a1.toList == e4.toList)) rfl (fun h => ?_) (fun h => ?_)
   ·replace H := cond_t h H
    refine T.seq (T.region (TL.st rfl rfl rfl (o_move rfl rfl) (TL.st rfl rfl rfl (o_assign rfl rfl) (TL.nil (thn_normal (T.ret (inB_ret (thn_ret ?_))))))))
    exact Pk.id (thn_ret ⟨.inr v1, (some_i H).symm, rfl, ⟨trivial, _, (.tmp _ _ _ _ rfl .nil), (.cl _ rfl)⟩⟩)
   ·replace H := cond_f h H
    refine T.skip (inB_normal (thn_normal (T.region (TL.st rfl rfl rfl (o_ari rfl rfl rfl rfl) (TL.st rfl rfl rfl (o_move rfl rfl) (TL.nil ?_))))))
    exact Pk.of (thn_normal ⟨(IntKind.i64.wrap (v1 + 1)), (some_i H).symm, rfl, rfl⟩)
  ·replace H := cond_f h H
   refine T.exit (thn_exit ?_)
   exact Pk.of (thn_exit ⟨.inl (), (some_i H).symm, rfl, rfl, rfl⟩)
 ·rcases q6 with ⟨⟩ | q2
  ·rintro _ _ _ ⟨rfl, rfl, rfl⟩
   refine inB_here (thn_normal (T.seq (T.region (TL.st rfl rfl rfl (o_assign rfl rfl) (TL.nil (thn_normal (T.ret ?_)))))))
   cases some_i H
   exact ⟨trivial, _, (.tmp _ _ _ _ rfl .nil), (.cl _ rfl)⟩
  ·rintro _ fr1 σ1 ⟨rfl, hr⟩
   refine inB_ret (thn_ret ?_)
   cases some_i H
   exact hr
theorem en_85 (us : Array Value) (w : World) : (callFunc 85 us).run Go.Proofs.Tryz.prog w = .ok (.enter 85 us) w := enters Go.Proofs.Tryz.func85 rfl rfl us w
noncomputable def slices_Containsx (a0 : (List ByteArray)) (a1 : ByteArray) : Option Bool :=
  (slices_Indexx a0 a1).bind fun r1 => some (decide (r1 ≥ 0))
theorem slices_Containsx_p (b0 : Bool) {a0 : (List ByteArray)} {a1 : ByteArray} {R0 : Bool} (H : slices_Containsx a0 a1 = some R0) : Pure Go.Proofs.Tryz.prog 73 [.im b0 (a0.map (c_str)), .str a1] (.bool R0) := by
 refine CallT.of_TN (n := 9) Go.Proofs.Tryz.func73 rfl rfl rfl rfl ?_
 refine T.seq (T.region (TL.st rfl rfl rfl (o_assign rfl rfl) (TL.nil (thn_normal (T.seq (T.region (TL.st rfl rfl rfl (o_move rfl rfl) (TL.st rfl rfl rfl (o_move rfl rfl) ?_))))))))
 obtain ⟨r1, h2, H⟩ := bind_s H
 refine TL.st rfl rfl rfl (o_callP rfl en_85 rfl rfl (.cons _ _ _ _ (.imv _ _) (.cons _ _ _ _ (.cl _ rfl) .nil)) (slices_Indexx_p b0 h2)) ?_
 refine TL.st rfl rfl rfl (o_ari rfl rfl rfl rfl) (TL.st rfl rfl rfl (o_assign rfl rfl) (TL.nil (thn_normal (T.ret ?_))))
 cases some_i H
 exact ⟨trivial, _, (.tmp _ _ _ _ rfl .nil), (.cl _ rfl)⟩
theorem en_73 (us : Array Value) (w : World) : (callFunc 73 us).run Go.Proofs.Tryz.prog w = .ok (.enter 73 us) w := enters Go.Proofs.Tryz.func73 rfl rfl us w
noncomputable def impl_yamong_1 (a0 : ByteArray) (s0 : (List ByteArray)) : Option Bool :=
  (slices_Containsx s0 a0).bind fun r1 => some (!r1)
theorem impl_yamong_1_p (c0 : Bool) {a0 : ByteArray} {s0 : (List ByteArray)} {R0 : Bool} (H : impl_yamong_1 a0 s0 = some R0) : St Go.Proofs.Tryz.prog 89 [.str a0, .bx 0 0] [.box [.im c0 (s0.map (c_str))]] (.bool R0) [.box [.im c0 (s0.map (c_str))]] := by
 refine CallT.fin (CallT.of_TN (n := 8) Go.Proofs.Tryz.func89 rfl rfl rfl rfl ?_) rfl rfl ⟨(bels_iff.1 rfl), trivial⟩
 refine T.seq (T.region (TL.st rfl rfl rfl (o_assign rfl rfl) (TL.nil (thn_normal (T.seq (T.region (TL.st rfl rfl rfl (o_loadBx rfl tyS_30 rfl rfl (Nat.le_of_ble_eq_true rfl) rfl) ?_)))))))
 refine TL.st rfl rfl rfl (o_move rfl rfl) ?_
 obtain ⟨r1, h2, H⟩ := bind_s H
 refine TL.st rfl rfl rfl (o_callP rfl en_73 rfl rfl (.cons _ _ _ _ (.imv _ _) (.cons _ _ _ _ (.cl _ rfl) .nil)) (slices_Containsx_p c0 h2)) ?_
 refine TL.st rfl rfl rfl (o_not rfl rfl) ?_
 refine TL.st rfl rfl rfl (o_assign rfl rfl) (TL.nil (thn_normal (T.ret ?_)))
 cases some_i H
 exact ⟨trivial, _, (.tmp _ _ _ _ rfl .nil), ⟨rfl, _, rfl⟩⟩
theorem en_89 (us : Array Value) (w : World) : (callFunc 89 us).run Go.Proofs.Tryz.prog w = .ok (.enter 89 us) w := enters Go.Proofs.Tryz.func89 rfl rfl us w
noncomputable def slices_IndexFuncxxx_l1 (a0 : (List ByteArray)) (s0 : (List ByteArray)) : Int → Option (Int ⊕ (Unit ⊕ Int)) := fun s => match s with
  | v1 => cond (decide (v1 < (a0.length : Int))) ((idx a0 v1).bind fun e4 => (impl_yamong_1 e4 s0).bind fun r6 => cond r6 (some (.inr (.inr v1))) (some (.inl (IntKind.i64.wrap (v1 + 1))))) (some (.inr (.inl ())))
noncomputable def slices_IndexFuncxxx (a0 : (List ByteArray)) (s0 : (List ByteArray)) : Option Int :=
  (loopO (slices_IndexFuncxxx_l1 a0 s0) 0).bind fun q8 => (match q8 with | .inl _ => some (-1) | .inr q2 => some q2)
theorem slices_IndexFuncxxx_p (b0 : Bool) (c0 : Bool) {a0 : (List ByteArray)} {s0 : (List ByteArray)} {R0 : Int} (H : slices_IndexFuncxxx a0 s0 = some R0) : St Go.Proofs.Tryz.prog 77 [.im b0 (a0.map (c_str)), .fn 89 [] [.bx 0 0]] [.box [.im c0 (s0.map (c_str))]] (.int .i64 R0) [.box [.im c0 (s0.map (c_str))]] := by
 refine CallT.fin (CallT.of_TN (n := 19) Go.Proofs.Tryz.func77 rfl rfl rfl rfl ?_) rfl rfl ⟨(bels_iff.1 rfl), trivial⟩
 refine T.seq (T.region (TL.st rfl rfl rfl (o_assign rfl rfl) (TL.nil (thn_normal (T.seq (T.seq (T.region (TL.st rfl rfl rfl (o_move rfl rfl) (TL.st rfl rfl rfl (o_lenL (f := c_str) rfl rfl rfl) ?_)))))))))
 refine TL.st rfl rfl rfl (o_move rfl rfl) (TL.nil (thn_normal (T.block ?_)))
 obtain ⟨q8, h9, H⟩ := bind_s H
 refine T.lq (fun s => match s with | v1 => [(0, .im b0 (a0.map (c_str))), (1, .fn 89 [] [.bx 0 0]), (7, .int .i64 (a0.length : Int)), (8, .int .i64 v1)]) (fun s => match s with | v1 => [.box [.im c0 (s0.map (c_str))]]) (fun q ex fr σ => match q with | .inl _ => ex = .exit 0 ∧ fr = [] ∧ σ = [.box [.im c0 (s0.map (c_str))]] | .inr q2 => ex = .ret ∧ RetN Go.Proofs.Tryz.prog [.tmp 4] (Fin [.box [.im c0 (s0.map (c_str))]] (.int .i64 q2)) .ret fr σ) h9 ?_ ?_
 ·rintro v1 y3 H
  refine T.seq (T.region (TL.st rfl rfl rfl (o_ari rfl rfl rfl rfl) (TL.nil (thn_normal (T.seq ?_)))))
  refine T.cond (decide (v1 < (a0.length : Int))) rfl (fun h => ?_) (fun h => ?_)
  ·replace H := cond_t h H
   refine T.skip (thn_normal (T.seq (T.block (T.seq (T.region (TL.st rfl rfl rfl (o_move rfl rfl) (TL.st rfl rfl rfl (o_assign rfl rfl) (TL.nil (thn_normal (T.seq (T.region (TL.st rfl rfl rfl (o_move rfl rfl) (TL.st rfl rfl rfl (o_move rfl rfl) (TL.st rfl rfl rfl (o_move rfl rfl) ?_))))))))))))))
   obtain ⟨e4, h5, H⟩ := bind_s H
   refine TL.st rfl rfl rfl (o_ix (f := c_str) rfl rfl tyS_9 rfl rfl h5 rfl) ?_
   refine TL.st rfl rfl rfl (o_loadRf rfl tyS_9 rfl (Nat.le_of_ble_eq_true rfl) rfl) ?_
   obtain ⟨r6, h7, H⟩ := bind_s H
   refine TL.st rfl rfl rfl (o_callS [0] rfl en_89 rfl rfl (impl_yamong_1_p c0 h7) rfl (by decide) (.cons _ _ _ _ rfl .nil) rfl rfl rfl) ?_
   refine TL.nil (thn_normal ?_)
   refine T.cond (r6) rfl (fun h => ?_) (fun h => ?_)
   ·replace H := cond_t h H
    refine T.seq (T.region (TL.st rfl rfl rfl (o_move rfl rfl) (TL.st rfl rfl rfl (o_assign rfl rfl) (TL.nil (thn_normal (T.ret (inB_ret (thn_ret ?_))))))))
    exact Pk.id (thn_ret ⟨.inr v1, (some_i H).symm, rfl, ⟨trivial, _, (.tmp _ _ _ _ rfl .nil), ⟨rfl, _, rfl⟩⟩⟩)
   ·replace H := cond_f h H
    refine T.skip (inB_normal (thn_normal (T.region (TL.st rfl rfl rfl (o_ari rfl rfl rfl rfl) (TL.st rfl rfl rfl (o_move rfl rfl) (TL.nil ?_))))))
    exact Pk.of (thn_normal ⟨(IntKind.i64.wrap (v1 + 1)), (some_i H).symm, rfl, rfl⟩)
  ·replace H := cond_f h H
   refine T.exit (thn_exit ?_)
   exact Pk.of (thn_exit ⟨.inl (), (some_i H).symm, rfl, rfl, rfl⟩)
 ·rcases q8 with ⟨⟩ | q2
  ·rintro _ _ _ ⟨rfl, rfl, rfl⟩
   refine inB_here (thn_normal (T.seq (T.region (TL.st rfl rfl rfl (o_assign rfl rfl) (TL.nil (thn_normal (T.ret ?_)))))))
   cases some_i H
   exact ⟨trivial, _, (.tmp _ _ _ _ rfl .nil), ⟨rfl, _, rfl⟩⟩
  ·rintro _ fr1 σ1 ⟨rfl, hr⟩
   refine inB_ret (thn_ret ?_)
   cases some_i H
   exact hr
noncomputable def slices_ContainsFuncxxx (a0 : (List ByteArray)) (s0 : (List ByteArray)) : Option Bool :=
  (slices_IndexFuncxxx a0 s0).bind fun r1 => some (decide (r1 ≥ 0))
theorem slices_ContainsFuncxxx_p (b0 : Bool) (c0 : Bool) {a0 : (List ByteArray)} {s0 : (List ByteArray)} {R0 : Bool} (H : slices_ContainsFuncxxx a0 s0 = some R0) : St Go.Proofs.Tryz.prog 50 [.im b0 (a0.map (c_str)), .fn 89 [] [.bx 0 0]] [.box [.im c0 (s0.map (c_str))]] (.bool R0) [.box [.im c0 (s0.map (c_str))]] := by
 refine CallT.fin (CallT.of_TN (n := 9) Go.Proofs.Tryz.func50 rfl rfl rfl rfl ?_) rfl rfl ⟨(bels_iff.1 rfl), trivial⟩
 refine T.seq (T.region (TL.st rfl rfl rfl (o_assign rfl rfl) (TL.nil (thn_normal (T.seq (T.region (TL.st rfl rfl rfl (o_move rfl rfl) (TL.st rfl rfl rfl (o_move rfl rfl) ?_))))))))
 obtain ⟨r1, h2, H⟩ := bind_s H
 refine TL.st rfl rfl rfl (o_callS [0] rfl en_77 rfl rfl (slices_IndexFuncxxx_p b0 c0 h2) rfl (by decide) (.cons _ _ _ _ rfl .nil) rfl rfl rfl) ?_
 refine TL.st rfl rfl rfl (o_ari rfl rfl rfl rfl) (TL.st rfl rfl rfl (o_assign rfl rfl) (TL.nil (thn_normal (T.ret ?_))))
 cases some_i H
 exact ⟨trivial, _, (.tmp _ _ _ _ rfl .nil), ⟨rfl, _, rfl⟩⟩
noncomputable def impl_yamong (a0 : (List ByteArray)) (a1 : (List ByteArray)) : Option Bool :=
  (slices_ContainsFuncxxx a0 a1).bind fun r1 => some (!r1)
theorem impl_yamong_p (b0 : Bool) (b1 : Bool) {a0 : (List ByteArray)} {a1 : (List ByteArray)} {R0 : Bool} (H : impl_yamong a0 a1 = some R0) : Pure Go.Proofs.Tryz.prog 79 [.im b0 (a0.map (c_str)), .im b1 (a1.map (c_str))] (.bool R0) := by
 refine CallT.of_TN (n := 9) Go.Proofs.Tryz.func79 rfl rfl rfl rfl ?_
 refine T.seq (T.region (TL.st rfl rfl rfl (o_box rfl rfl rfl) (TL.st rfl rfl rfl (o_assign rfl rfl) (TL.nil (thn_normal (T.seq (T.region (TL.st rfl rfl rfl (o_move rfl rfl) (TL.st rfl rfl rfl (o_makeFunc rfl rfl rfl) ?_)))))))))
 obtain ⟨r1, h2, H⟩ := bind_s H
 refine TL.st rfl rfl rfl (o_callS [0] rfl en_50 rfl rfl (slices_ContainsFuncxxx_p b0 b1 h2) rfl (by decide) (.cons _ _ _ _ rfl .nil) rfl rfl rfl) ?_
 refine TL.st rfl rfl rfl (o_not rfl rfl) ?_
 refine TL.st rfl rfl rfl (o_assign rfl rfl) (TL.nil (thn_normal (T.ret ?_)))
 cases some_i H
 exact ⟨trivial, _, (.tmp _ _ _ _ rfl .nil), (.cl _ rfl)⟩
theorem en_79 (us : Array Value) (w : World) : (callFunc 79 us).run Go.Proofs.Tryz.prog w = .ok (.enter 79 us) w := enters Go.Proofs.Tryz.func79 rfl rfl us w
theorem tyS_78 : TyS Go.Proofs.Tryz.prog 78 false 1 := ⟨rfl, rfl⟩
theorem en_71 (us : Array Value) (w : World) : (callFunc 71 us).run Go.Proofs.Tryz.prog w = .ok (.enter 71 us) w := enters Go.Proofs.Tryz.func71 rfl rfl us w
theorem impl_Digest_o (b0 : Bool) {a0 : (List Int)} {R0 : (List Int)} (H : impl_Digest a0 = some R0) : OwnC Go.Proofs.Tryz.prog 34 [.im b0 (a0.map (c_int .u8))] 1 (R0.map (c_int .u8)) := by
 refine CallT.of_TN (n := 56) Go.Proofs.Tryz.func34 rfl rfl rfl rfl ?_
 refine T.seq (T.region (TL.st rfl rfl rfl (o_assign rfl rfl) (TL.nil (thn_normal (T.seq (T.seq (T.region (TL.st rfl rfl rfl (o_move rfl rfl) (TL.st rfl rfl rfl (o_lenL (f := c_int .u8) rfl rfl rfl) ?_)))))))))
 refine TL.st rfl rfl rfl (o_ari rfl rfl rfl rfl) (TL.nil (thn_normal ?_))
 refine T.cond (decide ((a0.length : Int) > 20000)) rfl (fun h => ?_) (fun h => ?_)
 ·replace H := cond_t h H
  refine T.seq (T.region (TL.st rfl rfl rfl (o_assign rfl rfl) (TL.nil (thn_normal (T.conv (Cs.own (t := 2) 1 rfl (by decide)) ?_)))))
  refine T.ret (thn_ret ?_)
  cases some_i H
  exact ⟨trivial, _, (.tmp _ _ _ _ rfl .nil), ⟨rfl, _, rfl⟩⟩
 ·replace H := cond_f h H
  refine T.skip (thn_normal (T.seq (T.region (TL.st rfl rfl rfl (o_build rfl ⟨_, fun _ => rfl, rfl⟩ rfl rfl rfl) ?_))))
  refine TL.st rfl rfl rfl (o_alloc rfl ⟨_, rfl, rfl⟩) (TL.sn rfl rfl (o_storeBx rfl tyS_97 rfl rfl rfl rfl (Nat.le_of_ble_eq_true rfl) rfl) ?_)
  refine TL.nil (thn_normal (T.seq (T.region (TL.st rfl rfl rfl (o_build rfl ⟨_, fun _ => rfl, rfl⟩ rfl rfl rfl) ?_))))
  refine TL.st rfl rfl rfl (o_alloc rfl ⟨_, rfl, rfl⟩) (TL.sn rfl rfl (o_storeBx rfl tyS_97 rfl rfl rfl rfl (Nat.le_of_ble_eq_true rfl) rfl) ?_)
  refine TL.nil (thn_normal (T.seq (T.conv (Cs.eqS (σ' := [.box (([11, 22, 33, 44] : List Int).map (V.int .i64)), .box (([1103515245, 69069, 1664525, 22695477] : List Int).map (V.int .i64))]) rfl) ?_)))
  refine T.region (TL.st rfl rfl rfl (o_makeFunc rfl rfl rfl) ?_)
  refine TL.st rfl rfl rfl (o_assign rfl rfl) (TL.nil (thn_normal (T.seq (T.seq (T.region (TL.st rfl rfl rfl (o_move rfl rfl) (TL.st rfl rfl rfl (o_lenL (f := c_int .u8) rfl rfl rfl) ?_)))))))
  refine TL.st rfl rfl rfl (o_move rfl rfl) (TL.nil (thn_normal (T.block ?_)))
  obtain ⟨b3, h44, H⟩ := bind_s H
  refine T.lq (fun s => match s with | (b1, v2) => [(0, .im b0 (a0.map (c_int .u8))), (3, .bx 0 0), (5, .fn 56 [] [.bx 0 0, .bx 1 0]), (19, .im b0 (a0.map (c_int .u8))), (20, .int .i64 (a0.length : Int)), (21, .int .i64 v2)]) (fun s => match s with | (b1, v2) => [.box (b1.map (V.int .i64)), .box (([1103515245, 69069, 1664525, 22695477] : List Int).map (V.int .i64))]) (fun q ex fr σ => match q with | b3 => ex = .exit 0 ∧ fr = [(0, .im b0 (a0.map (c_int .u8))), (3, .bx 0 0), (5, .fn 56 [] [.bx 0 0, .bx 1 0])] ∧ σ = [.box (b3.map (V.int .i64)), .box (([1103515245, 69069, 1664525, 22695477] : List Int).map (V.int .i64))]) h44 ?_ ?_
  ·rintro ⟨b1, v2⟩ y38 H
   refine T.seq (T.region (TL.st rfl rfl rfl (o_ari rfl rfl rfl rfl) (TL.nil (thn_normal (T.seq ?_)))))
   refine T.cond (decide (v2 < (a0.length : Int))) rfl (fun h => ?_) (fun h => ?_)
   ·replace H := cond_t h H
    refine T.skip (thn_normal (T.seq (T.block (T.seq (T.region ?_)))))
    obtain ⟨e39, h40, H⟩ := bind_s H
    refine TL.st rfl rfl rfl (o_ix (f := c_int .u8) rfl rfl tyS_5 rfl rfl h40 rfl) ?_
    refine TL.st rfl rfl rfl (o_loadRf rfl tyS_5 rfl (Nat.le_of_ble_eq_true rfl) rfl) ?_
    refine TL.st rfl rfl rfl (o_assign rfl rfl) (TL.nil (thn_normal (T.region (TL.st rfl rfl rfl (o_move rfl rfl) (TL.st rfl rfl rfl (o_move rfl rfl) ?_)))))
    obtain ⟨o41, h42, H⟩ := bind_s H
    refine TL.st rfl rfl rfl (o_callM [0, 1] rfl en_56 rfl rfl (impl_Digest_1_p  h42) rfl (by decide) (.cons _ _ _ _ (ren_at rfl (ren_bxO fun _ => rfl)) (.cons _ _ _ _ (ren_at rfl (ren_bxO fun _ => rfl)) .nil)) rfl rfl (.cons _ _ _ _ (ren_bxO fun _ => rfl) (.cons _ _ _ _ (ren_bxO fun _ => rfl) .nil)) rfl) ?_
    refine TL.nil (inB_normal (thn_normal (T.region (TL.st rfl rfl rfl (o_ari rfl rfl rfl rfl) (TL.st rfl rfl rfl (o_move rfl rfl) (TL.nil ?_))))))
    exact Pk.of (thn_normal ⟨(o41, (IntKind.i64.wrap (v2 + 1))), (some_i H).symm, rfl, rfl⟩)
   ·replace H := cond_f h H
    refine T.exit (thn_exit ?_)
    exact Pk.of (thn_exit ⟨b1, (some_i H).symm, rfl, rfl, rfl⟩)
  ·rintro _ _ _ ⟨rfl, rfl, rfl⟩
   refine inB_here (thn_normal (T.seq (T.seq (T.region (TL.st rfl rfl rfl (o_move rfl rfl) (TL.st rfl rfl rfl (o_lenL (f := c_int .u8) rfl rfl rfl) ?_))))))
   obtain ⟨r4, h5, H⟩ := bind_s H
   refine TL.st rfl rfl rfl (o_callP rfl en_57 rfl rfl (.cons _ _ _ _ (.cl _ rfl) .nil) (impl_ybytes_p  h5)) ?_
   refine TL.st rfl rfl rfl (o_lenL (f := c_int .u8) rfl rfl rfl) ?_
   refine TL.st rfl rfl rfl (o_move rfl rfl) (TL.nil (thn_normal (T.block ?_)))
   obtain ⟨b8, h37, H⟩ := bind_s H
   refine T.lq (fun s => match s with | (b6, v7) => [(3, .bx 0 0), (5, .fn 56 [] [.bx 0 0, .bx 1 0]), (31, .im false (r4.map (c_int .u8))), (32, .int .i64 (r4.length : Int)), (33, .int .i64 v7)]) (fun s => match s with | (b6, v7) => [.box (b6.map (V.int .i64)), .box (([1103515245, 69069, 1664525, 22695477] : List Int).map (V.int .i64))]) (fun q ex fr σ => match q with | b8 => ex = .exit 2 ∧ fr = [(3, .bx 0 0), (5, .fn 56 [] [.bx 0 0, .bx 1 0])] ∧ σ = [.box (b8.map (V.int .i64)), .box (([1103515245, 69069, 1664525, 22695477] : List Int).map (V.int .i64))]) h37 ?_ ?_
   ·rintro ⟨b6, v7⟩ y31 H
    refine T.seq (T.region (TL.st rfl rfl rfl (o_ari rfl rfl rfl rfl) (TL.nil (thn_normal (T.seq ?_)))))
    refine T.cond (decide (v7 < (r4.length : Int))) rfl (fun h => ?_) (fun h => ?_)
    ·replace H := cond_t h H
     refine T.skip (thn_normal (T.seq (T.block (T.seq (T.region ?_)))))
     obtain ⟨e32, h33, H⟩ := bind_s H
     refine TL.st rfl rfl rfl (o_ix (f := c_int .u8) rfl rfl tyS_5 rfl rfl h33 rfl) ?_
     refine TL.st rfl rfl rfl (o_loadRf rfl tyS_5 rfl (Nat.le_of_ble_eq_true rfl) rfl) ?_
     refine TL.st rfl rfl rfl (o_assign rfl rfl) (TL.nil (thn_normal (T.region (TL.st rfl rfl rfl (o_move rfl rfl) (TL.st rfl rfl rfl (o_move rfl rfl) ?_)))))
     obtain ⟨o34, h35, H⟩ := bind_s H
     refine TL.st rfl rfl rfl (o_callM [0, 1] rfl en_56 rfl rfl (impl_Digest_1_p  h35) rfl (by decide) (.cons _ _ _ _ (ren_at rfl (ren_bxO fun _ => rfl)) (.cons _ _ _ _ (ren_at rfl (ren_bxO fun _ => rfl)) .nil)) rfl rfl (.cons _ _ _ _ (ren_bxO fun _ => rfl) (.cons _ _ _ _ (ren_bxO fun _ => rfl) .nil)) rfl) ?_
     refine TL.nil (inB_normal (thn_normal (T.region (TL.st rfl rfl rfl (o_ari rfl rfl rfl rfl) (TL.st rfl rfl rfl (o_move rfl rfl) (TL.nil ?_))))))
     exact Pk.of (thn_normal ⟨(o34, (IntKind.i64.wrap (v7 + 1))), (some_i H).symm, rfl, rfl⟩)
    ·replace H := cond_f h H
     refine T.exit (thn_exit ?_)
     exact Pk.of (thn_exit ⟨b6, (some_i H).symm, rfl, rfl, rfl⟩)
   ·rintro _ _ _ ⟨rfl, rfl, rfl⟩
    refine inB_here (thn_normal (T.seq (T.seq (T.region (TL.st rfl rfl rfl (o_move rfl rfl) (TL.nil (thn_normal (T.block ?_))))))))
    obtain ⟨b11, h30, H⟩ := bind_s H
    refine T.lq (fun s => match s with | (b9, v10) => [(3, .bx 0 0), (5, .fn 56 [] [.bx 0 0, .bx 1 0]), (41, .int .i64 v10)]) (fun s => match s with | (b9, v10) => [.box (b9.map (V.int .i64)), .box (([1103515245, 69069, 1664525, 22695477] : List Int).map (V.int .i64))]) (fun q ex fr σ => match q with | b11 => ex = .exit 4 ∧ fr = [(3, .bx 0 0)] ∧ σ = [.box (b11.map (V.int .i64)), .box (([1103515245, 69069, 1664525, 22695477] : List Int).map (V.int .i64))]) h30 ?_ ?_
    ·rintro ⟨b9, v10⟩ y26 H
     refine T.seq (T.region (TL.st rfl rfl rfl (o_ari rfl rfl rfl rfl) (TL.nil (thn_normal (T.seq ?_)))))
     refine T.cond (decide (v10 < 8)) rfl (fun h => ?_) (fun h => ?_)
     ·replace H := cond_t h H
      refine T.skip (thn_normal (T.seq (T.block (T.region (TL.st rfl rfl rfl (o_move rfl rfl) ?_)))))
      obtain ⟨o27, h28, H⟩ := bind_s H
      refine TL.st rfl rfl rfl (o_callM [0, 1] rfl en_56 rfl rfl (impl_Digest_1_p  h28) rfl (by decide) (.cons _ _ _ _ (ren_at rfl (ren_bxO fun _ => rfl)) (.cons _ _ _ _ (ren_at rfl (ren_bxO fun _ => rfl)) .nil)) rfl rfl (.cons _ _ _ _ (ren_bxO fun _ => rfl) (.cons _ _ _ _ (ren_bxO fun _ => rfl) .nil)) rfl) ?_
      refine TL.nil (inB_normal (thn_normal (T.region (TL.st rfl rfl rfl (o_ari rfl rfl rfl rfl) (TL.st rfl rfl rfl (o_move rfl rfl) (TL.nil ?_))))))
      exact Pk.of (thn_normal ⟨(o27, (IntKind.i64.wrap (v10 + 1))), (some_i H).symm, rfl, rfl⟩)
     ·replace H := cond_f h H
      refine T.exit (thn_exit ?_)
      exact Pk.of (thn_exit ⟨b9, (some_i H).symm, rfl, rfl, rfl⟩)
    ·rintro _ _ _ ⟨rfl, rfl, rfl⟩
     refine inB_here (thn_normal (T.seq (T.region (TL.st rfl rfl rfl (o_assign rfl rfl) (TL.nil (thn_normal (T.seq (T.seq (T.region ?_)))))))))
     obtain ⟨u12, h13, H⟩ := bind_s H
     refine TL.st rfl rfl rfl (o_loadA (f := V.int .i64) (xs := b11) rfl tyS_97 rfl rfl h13) ?_
     refine TL.st rfl rfl rfl (o_move rfl rfl) (TL.nil (thn_normal (T.block (T.conv (Cs.own (t := 10) 1 rfl (by decide)) ?_))))
     obtain ⟨l16, h25, H⟩ := bind_s H
     refine T.lq (fun s => match s with | (l14, v15) => [(10, .hd 2 (l14.map (c_int .u8)).length 0 (l14.map (c_int .u8)).length), (46, .agg (b11.map (V.int .i64))), (47, .int .i64 v15)]) (fun s => match s with | (l14, v15) => [.box (b11.map (V.int .i64)), .box (([1103515245, 69069, 1664525, 22695477] : List Int).map (V.int .i64)), .arr .clo 1 (l14.map (c_int .u8))]) (fun q ex fr σ => match q with | l16 => ex = .exit 6 ∧ fr = [(10, .hd 2 (l16.map (c_int .u8)).length 0 (l16.map (c_int .u8)).length)] ∧ σ = [.box (b11.map (V.int .i64)), .box (([1103515245, 69069, 1664525, 22695477] : List Int).map (V.int .i64)), .arr .clo 1 (l16.map (c_int .u8))]) h25 ?_ ?_
     ·rintro ⟨l14, v15⟩ y17 H
      refine T.seq (T.region (TL.st rfl rfl rfl (o_ari rfl rfl rfl rfl) (TL.nil (thn_normal (T.seq ?_)))))
      refine T.cond (decide (v15 < 4)) rfl (fun h => ?_) (fun h => ?_)
      ·replace H := cond_t h H
       refine T.skip (thn_normal (T.seq (T.block (T.seq (T.region ?_)))))
       obtain ⟨e18, h19, H⟩ := bind_s H
       refine TL.st rfl rfl rfl (o_ixV (f := V.int .i64) (xs := b11) rfl rfl tyS_3 rfl rfl h19) ?_
       refine TL.st rfl rfl rfl (o_assign rfl rfl) (TL.nil (thn_normal (T.region (TL.st rfl rfl rfl (o_move rfl rfl) (TL.st rfl rfl rfl (o_move rfl rfl) ?_)))))
       obtain ⟨r20, h21, H⟩ := bind_s H
       refine TL.st rfl rfl rfl (o_callP rfl en_57 rfl rfl (.cons _ _ _ _ (.cl _ rfl) .nil) (impl_ybytes_p  h21)) ?_
       obtain ⟨l22, h23, H⟩ := bind_s H
       refine TL.st rfl rfl rfl (o_ap (f := c_int .u8) (xs := l14) (ys := r20) rfl rfl tyE_5 rfl rfl rfl rfl (by decide) rfl (fun _ => rfl) h23) ?_
       refine TL.st rfl rfl rfl (o_assign rfl rfl) (TL.nil (inB_normal (thn_normal (T.region (TL.st rfl rfl rfl (o_ari rfl rfl rfl rfl) (TL.st rfl rfl rfl (o_move rfl rfl) (TL.nil ?_)))))))
       exact Pk.of (thn_normal ⟨(l22, (IntKind.i64.wrap (v15 + 1))), (some_i H).symm, rfl, rfl⟩)
      ·replace H := cond_f h H
       refine T.exit (thn_exit ?_)
       exact Pk.of (thn_exit ⟨l14, (some_i H).symm, rfl, rfl, rfl⟩)
     ·rintro _ _ _ ⟨rfl, rfl, rfl⟩
      refine inB_here (thn_normal (T.seq (T.region (TL.st rfl rfl rfl (o_move rfl rfl) (TL.st rfl rfl rfl (o_assign rfl rfl) (TL.nil (thn_normal (T.conv (Cs.wkF (M := 3) (.k 2 rfl rfl .nil)) ?_))))))))
      refine T.conv (Cs.reloc 0 2 rfl rfl (by decide) rfl rfl rfl (nomS_get rfl)) ?_
      refine T.ret ?_
      cases some_i H
      exact ⟨trivial, _, (.tmp _ _ _ _ rfl .nil), ⟨rfl, _, rfl⟩⟩
noncomputable def impl_Mac (a0 : (List Int)) (a1 : (List Int)) : Option (List Int) :=
  cond (decide ((a0.length : Int) > 20000) || decide ((a1.length : Int) > 20000)) (some ([] : List Int)) ((impl_Digest a0).bind fun r1 => (impl_Digest a1).bind fun r3 => (app r1 r3).bind fun l5 => (impl_Digest l5).bind fun r7 => some r7)
theorem impl_Mac_p (b0 : Bool) (b1 : Bool) {a0 : (List Int)} {a1 : (List Int)} {R0 : (List Int)} (H : impl_Mac a0 a1 = some R0) : Pure Go.Proofs.Tryz.prog 94 [.im b0 (a0.map (c_int .u8)), .im b1 (a1.map (c_int .u8))] (.im false (R0.map (c_int .u8))) := by
 refine CallT.of_TN (n := 19) Go.Proofs.Tryz.func94 rfl rfl rfl rfl ?_
 refine T.seq (T.region (TL.st rfl rfl rfl (o_assign rfl rfl) (TL.nil (thn_normal (T.seq (T.seq (T.region (TL.st rfl rfl rfl (o_move rfl rfl) (TL.st rfl rfl rfl (o_lenL (f := c_int .u8) rfl rfl rfl) ?_)))))))))
 refine TL.st rfl rfl rfl (o_ari rfl rfl rfl rfl) (TL.st rfl rfl rfl (o_move rfl rfl) (TL.gcq rfl rfl rfl (.bool _) rfl rfl (fun h => o_move rfl rfl) (TL.gcq rfl rfl rfl (.bool _) rfl rfl (fun h => o_lenL (f := c_int .u8) rfl rfl (gv h rfl)) ?_)))
 refine TL.gcq rfl rfl rfl (.bool _) rfl rfl (fun h => o_ari rfl (gv h rfl) rfl rfl) ?_
 refine TL.st rfl rfl rfl (o_or rfl rfl rfl rfl (fun k => Gd_t k)) (TL.nil (thn_normal ?_))
 refine T.cond ((decide ((a0.length : Int) > 20000) || decide ((a1.length : Int) > 20000))) rfl (fun h => ?_) (fun h => ?_)
 ·replace H := cond_t h H
  refine T.seq (T.region (TL.st rfl rfl rfl (o_assign rfl rfl) (TL.nil (thn_normal (T.ret (thn_ret ?_))))))
  cases some_i H
  exact ⟨trivial, _, (.tmp _ _ _ _ rfl .nil), .nil⟩
 ·replace H := cond_f h H
  refine T.skip (thn_normal (T.seq (T.region (TL.st rfl rfl rfl (o_move rfl rfl) ?_))))
  obtain ⟨r1, h2, H⟩ := bind_s H
  refine TL.st rfl rfl rfl (o_callOwn rfl en_34 rfl rfl (.cons _ _ _ _ (.imv _ _) .nil) (impl_Digest_o b0 h2)) ?_
  refine TL.st rfl rfl rfl (o_move rfl rfl) ?_
  obtain ⟨r3, h4, H⟩ := bind_s H
  refine TL.st rfl rfl rfl (o_callP rfl en_34 rfl rfl (.cons _ _ _ _ (.imv _ _) .nil) (impl_Digest_p b1 h4)) ?_
  obtain ⟨l5, h6, H⟩ := bind_s H
  refine TL.st rfl rfl rfl (o_ap (f := c_int .u8) (xs := r1) (ys := r3) rfl rfl tyE_5 rfl rfl rfl rfl (by decide) rfl (fun _ => rfl) h6) ?_
  obtain ⟨r7, h8, H⟩ := bind_s H
  refine TL.st rfl rfl rfl (o_callP rfl en_34 rfl rfl (.cons _ _ _ _ (.own rfl (by decide) rfl) .nil) (impl_Digest_p true h8)) ?_
  refine TL.st rfl rfl rfl (o_assign rfl rfl) (TL.nil (thn_normal (T.ret ?_)))
  cases some_i H
  exact ⟨trivial, _, (.tmp _ _ _ _ rfl .nil), (.cl _ rfl)⟩
theorem en_94 (us : Array Value) (w : World) : (callFunc 94 us).run Go.Proofs.Tryz.prog w = .ok (.enter 94 us) w := enters Go.Proofs.Tryz.func94 rfl rfl us w
theorem en_99 (us : Array Value) (w : World) : (callFunc 99 us).run Go.Proofs.Tryz.prog w = .ok (.enter 99 us) w := enters Go.Proofs.Tryz.func99 rfl rfl us w
noncomputable def strings_Builder_WriteByte (a0 : Int) (s0 : T_strings_Builder) : Option (Unit × T_strings_Builder) :=
  (ccO (⟨(), s0.buf_⟩ : T_strings_Builder).buf_).bind fun u1 => (app s0.buf_ ([a0] : List Int)).bind fun l3 => some ((), (⟨(), l3⟩ : T_strings_Builder))
end Go.G36.BW
