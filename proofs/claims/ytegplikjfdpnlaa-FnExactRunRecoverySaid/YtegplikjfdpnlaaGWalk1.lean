import Derived.Test.YtegplikjfdpnlaaProg
import Derived.Test.YtegplikjfdpnlaaKy
set_option linter.all false
set_option maxRecDepth 20000
set_option maxHeartbeats 4000000
namespace Go.G36.GWalk
open Go Go.Proofs

def c_int (k : IntKind) (x : Int) : List V := [.int k x]
def c_bool (x : Bool) : List V := [.bool x]
def c_str (x : ByteArray) : List V := [.str x]
def c_sl {α : Type} (f : α → List V) (x : List α) : List V := [.im false (x.map f)]

structure T_impl_RecoverEvent where
  Kind_ : Int
  Time_ : Int
  Who_ : ByteArray
deriving Inhabited
def c_T_impl_RecoverEvent (b : Bool) (x : T_impl_RecoverEvent) : List V := [.int .i64 x.Kind_, .int .i64 x.Time_, .str x.Who_]
structure T_spec_l1Cur where
  code_ : (List Int)
  at_ : Int
  seed_ : Int
deriving Inhabited
def c_T_spec_l1Cur (b : Bool) (x : T_spec_l1Cur) : List V := [.im b (x.code_.map (c_int .u8)), .int .i64 x.at_, .int .u64 x.seed_]
structure T_spec_l16R where
  now_ : Int
  under_ : Bool
  ready_ : Int
  votes_ : (List ByteArray)
deriving Inhabited
def c_T_spec_l16R (b : Bool) (x : T_spec_l16R) : List V := [.int .i64 x.now_, .bool x.under_, .int .i64 x.ready_, .im b (x.votes_.map (c_str))]
structure T_laws_RecoverEvent where
  Kind_ : Int
  Time_ : Int
  Who_ : ByteArray
deriving Inhabited
def c_T_laws_RecoverEvent (b : Bool) (x : T_laws_RecoverEvent) : List V := [.int .i64 x.Kind_, .int .i64 x.Time_, .str x.Who_]

theorem tyS_9 : TyS Go.Proofs.Try.prog 9 false 1 := ⟨rfl, rfl⟩
noncomputable def spec_l1Many (a0 : (List Int)) (a1 : Int) (a2 : Int) : Option Int :=
  (nz a1).bind fun z1 => cond (decide ((IntKind.i64.wrap (Int.tdiv (a0.length : Int) a1)) > a2)) (some a2) (some (IntKind.i64.wrap (Int.tdiv (a0.length : Int) a1)))
theorem spec_l1Many_p (b0 : Bool) {a0 : (List Int)} {a1 : Int} {a2 : Int} {R0 : Int} (H : spec_l1Many a0 a1 a2 = some R0) : Pure Go.Proofs.Try.prog 21 [.im b0 (a0.map (c_int .u8)), .int .i64 a1, .int .i64 a2] (.int .i64 R0) := by
  refine CallT.of_TN (n := 17) Go.Proofs.Try.func21 rfl rfl rfl rfl ?_
  refine T.seq ?_
  refine T.region ?_
  refine TL.st rfl rfl rfl (o_assign rfl rfl) ?_
  refine TL.nil ?_
  refine thn_normal ?_
  refine T.seq ?_
  refine T.region ?_
  refine TL.st rfl rfl rfl (o_move rfl rfl) ?_
  refine TL.st rfl rfl rfl (o_lenL (f := c_int .u8) rfl rfl rfl) ?_
  refine TL.st rfl rfl rfl (o_move rfl rfl) ?_
  obtain ⟨z1, h2, H⟩ := bind_s H
  refine TL.st rfl rfl rfl (o_quo rfl rfl rfl (nz_s h2).1) ?_
  refine TL.st rfl rfl rfl (o_assign rfl rfl) ?_
  refine TL.nil ?_
  refine thn_normal ?_
  refine T.seq ?_
  refine T.seq ?_
  refine T.region ?_
  refine TL.st rfl rfl rfl (o_move rfl rfl) ?_
  refine TL.st rfl rfl rfl (o_move rfl rfl) ?_
  refine TL.st rfl rfl rfl (o_ari rfl rfl rfl rfl) ?_
  refine TL.nil ?_
  refine thn_normal ?_
  refine T.cond (decide ((IntKind.i64.wrap (Int.tdiv (a0.length : Int) a1)) > a2)) rfl (fun h => ?_) (fun h => ?_)
  · replace H := cond_t h H
    refine T.seq ?_
    refine T.region ?_
    refine TL.st rfl rfl rfl (o_move rfl rfl) ?_
    refine TL.st rfl rfl rfl (o_assign rfl rfl) ?_
    refine TL.nil ?_
    refine thn_normal ?_
    refine T.ret ?_
    refine thn_ret ?_
    cases some_i H
    exact ⟨trivial, _, (.tmp _ _ _ _ rfl .nil), (.cl _ rfl)⟩
  · replace H := cond_f h H
    refine T.skip ?_
    refine thn_normal ?_
    refine T.seq ?_
    refine T.region ?_
    refine TL.st rfl rfl rfl (o_move rfl rfl) ?_
    refine TL.st rfl rfl rfl (o_assign rfl rfl) ?_
    refine TL.nil ?_
    refine thn_normal ?_
    refine T.ret ?_
    cases some_i H
    exact ⟨trivial, _, (.tmp _ _ _ _ rfl .nil), (.cl _ rfl)⟩
theorem en_21 (us : Array Value) (w : World) : (callFunc 21 us).run Go.Proofs.Try.prog w = .ok (.enter 21 us) w := enters Go.Proofs.Try.func21 rfl rfl us w
theorem tyS_3 : TyS Go.Proofs.Try.prog 3 false 1 := ⟨rfl, rfl⟩
theorem tyS_22 : TyS Go.Proofs.Try.prog 22 false 1 := ⟨rfl, rfl⟩
theorem tyS_5 : TyS Go.Proofs.Try.prog 5 false 1 := ⟨rfl, rfl⟩
theorem tyS_44 : TyS Go.Proofs.Try.prog 44 false 1 := ⟨rfl, rfl⟩
noncomputable def spec_l1Cur_next_j1 (s0 : T_spec_l1Cur) (v1 : Int) : Option (Int × T_spec_l1Cur) :=
  cond (decide ((IntKind.i64.wrap (s0.at_ + 1)) ≤ (s0.code_.length : Int))) (some (v1, (⟨s0.code_, (IntKind.i64.wrap (s0.at_ + 1)), (IntKind.u64.wrap ((IntKind.u64.wrap ((IntKind.u64.wrap (s0.seed_ * 6364136223846793005)) + (IntKind.u64.wrap v1))) + 1442695040888963407))⟩ : T_spec_l1Cur))) (some ((IntKind.i64.wrap (IntKind.u64.wrap (BitVec.ofInt IntKind.u64.bits (Int.fdiv (IntKind.u64.wrap ((IntKind.u64.wrap ((IntKind.u64.wrap (s0.seed_ * 6364136223846793005)) + (IntKind.u64.wrap v1))) + 1442695040888963407)) (2 ^ (min (Int.toNat 40) IntKind.u64.bits))) &&& BitVec.ofInt IntKind.u64.bits 255).toNat)), (⟨s0.code_, (IntKind.i64.wrap (s0.at_ + 1)), (IntKind.u64.wrap ((IntKind.u64.wrap ((IntKind.u64.wrap (s0.seed_ * 6364136223846793005)) + (IntKind.u64.wrap v1))) + 1442695040888963407))⟩ : T_spec_l1Cur)))
noncomputable def spec_l1Cur_next (s0 : T_spec_l1Cur) : Option (Int × T_spec_l1Cur) :=
  cond (decide (s0.at_ < (s0.code_.length : Int))) ((idx s0.code_ s0.at_).bind fun e2 => spec_l1Cur_next_j1 s0 (IntKind.i64.wrap e2)) (spec_l1Cur_next_j1 s0 0)
theorem spec_l1Cur_next_p (c0 : Bool) {s0 : T_spec_l1Cur} {R0 : Int} {U0 : T_spec_l1Cur} (H : spec_l1Cur_next s0 = some (R0, U0)) : St Go.Proofs.Try.prog 36 [.bx 0 0] [.box (c_T_spec_l1Cur c0 s0)] (.int .i64 R0) [.box (c_T_spec_l1Cur c0 U0)] := by
  refine CallT.fin (CallT.of_TN (n := 62) Go.Proofs.Try.func36 rfl rfl rfl rfl ?_) rfl rfl ⟨(bels_iff.1 rfl), trivial⟩
  refine T.seq ?_
  refine T.region ?_
  refine TL.st rfl rfl rfl (o_assign rfl rfl) ?_
  refine TL.nil ?_
  refine thn_normal ?_
  refine T.seq ?_
  refine T.region ?_
  refine TL.st rfl rfl rfl (o_assign rfl rfl) ?_
  refine TL.nil ?_
  refine thn_normal ?_
  refine T.cut (fun fr' σ' => ∃ (v1 : Int), fr' = [(0, .bx 0 0), (3, .int .i64 v1)] ∧ σ' = [.box (c_T_spec_l1Cur c0 s0)] ∧ spec_l1Cur_next_j1 s0 v1 = some (R0, U0)) (T.pk ?_) ?_
  · skip
    refine T.seq ?_
    refine T.drawn rfl ?_
    refine TD.qs rfl rfl (fun _ => o_move rfl rfl) ?_
    refine TD.qs rfl rfl (fun _ => o_nilCheck rfl rfl rfl) ?_
    refine TD.rs rfl rfl (o_fieldAddr rfl rfl rfl tyS_3 (by decide) rfl rfl ⟨_, rfl, Nat.le_of_ble_eq_true rfl⟩) ?_
    refine TD.rs rfl rfl (o_loadBx rfl tyS_3 rfl rfl (Nat.le_of_ble_eq_true rfl) rfl) ?_
    refine TD.qs rfl rfl (fun _ => o_move rfl rfl) ?_
    refine TD.qs rfl rfl (fun _ => o_nilCheck rfl rfl rfl) ?_
    refine TD.rs rfl rfl (o_fieldAddr rfl rfl rfl tyS_22 (by decide) rfl rfl ⟨_, rfl, Nat.le_of_ble_eq_true rfl⟩) ?_
    refine TD.rs rfl rfl (o_loadBx rfl tyS_22 rfl rfl (Nat.le_of_ble_eq_true rfl) rfl) ?_
    refine TD.qs rfl rfl (fun _ => o_lenL (f := c_int .u8) rfl rfl rfl) ?_
    refine TD.qs rfl rfl (fun _ => o_ari rfl rfl rfl rfl) ?_
    refine TD.nil ⟨rfl, ?_⟩
    refine thn_normal ?_
    refine T.cond (decide (s0.at_ < (s0.code_.length : Int))) rfl (fun h => ?_) (fun h => ?_)
    · replace H := cond_t h H
      refine T.drawn rfl ?_
      refine TD.qs rfl rfl (fun _ => o_move rfl rfl) ?_
      refine TD.qs rfl rfl (fun _ => o_nilCheck rfl rfl rfl) ?_
      refine TD.rs rfl rfl (o_fieldAddr rfl rfl rfl tyS_22 (by decide) rfl rfl ⟨_, rfl, Nat.le_of_ble_eq_true rfl⟩) ?_
      refine TD.rs rfl rfl (o_loadBx rfl tyS_22 rfl rfl (Nat.le_of_ble_eq_true rfl) rfl) ?_
      refine TD.qs rfl rfl (fun _ => o_move rfl rfl) ?_
      refine TD.qs rfl rfl (fun _ => o_nilCheck rfl rfl rfl) ?_
      refine TD.rs rfl rfl (o_fieldAddr rfl rfl rfl tyS_3 (by decide) rfl rfl ⟨_, rfl, Nat.le_of_ble_eq_true rfl⟩) ?_
      refine TD.rs rfl rfl (o_loadBx rfl tyS_3 rfl rfl (Nat.le_of_ble_eq_true rfl) rfl) ?_
      obtain ⟨e2, h3, H⟩ := bind_s H
      refine TD.qs rfl rfl (fun _ => o_ix (f := c_int .u8) rfl rfl tyS_5 rfl rfl h3 rfl) ?_
      refine TD.qs rfl rfl (fun _ => o_loadRf rfl tyS_5 rfl (Nat.le_of_ble_eq_true rfl) rfl) ?_
      refine TD.qs rfl rfl (fun _ => o_conv rfl rfl ⟨_, rfl⟩ rfl) ?_
      refine TD.qs rfl rfl (fun _ => o_assign rfl rfl) ?_
      refine TD.nil ⟨rfl, ?_⟩
      exact Pk.go (fr' := [(0, .bx 0 0), (3, .int .i64 (IntKind.i64.wrap e2))]) (σ' := [.box (c_T_spec_l1Cur c0 s0)]) _ rfl rfl ⟨(bels_iff.1 rfl), trivial⟩ (.cons 0 _ (.bx 0 0) _ rfl (.same _) rfl (.cons 3 _ (.int .i64 (IntKind.i64.wrap e2)) _ rfl (.same _) rfl .nil)) (thn_normal ⟨(IntKind.i64.wrap e2), rfl, rfl, H⟩)
    · replace H := cond_f h H
      refine T.skip ?_
      exact Pk.go (fr' := [(0, .bx 0 0), (3, .int .i64 0)]) (σ' := [.box (c_T_spec_l1Cur c0 s0)]) _ rfl rfl ⟨(bels_iff.1 rfl), trivial⟩ (.cons 0 _ (.bx 0 0) _ rfl (.same _) rfl (.cons 3 _ (.int .i64 0) _ rfl (.same _) rfl .nil)) (thn_normal ⟨0, rfl, rfl, H⟩)
  · rintro _ _ ⟨v1, rfl, rfl, H⟩
    refine T.seq ?_
    refine T.region ?_
    refine TL.st rfl rfl rfl (o_move rfl rfl) ?_
    refine TL.st rfl rfl rfl (o_nilCheck rfl rfl rfl) ?_
    refine TL.st rfl rfl rfl (o_fieldAddr rfl rfl rfl tyS_3 (by decide) rfl rfl ⟨_, rfl, Nat.le_of_ble_eq_true rfl⟩) ?_
    refine TL.st rfl rfl rfl (o_loadBx rfl tyS_3 rfl rfl (Nat.le_of_ble_eq_true rfl) rfl) ?_
    refine TL.st rfl rfl rfl (o_ari rfl rfl rfl rfl) ?_
    refine TL.st rfl rfl rfl (o_nilCheck rfl rfl rfl) ?_
    refine TL.st rfl rfl rfl (o_fieldAddr rfl rfl rfl tyS_3 (by decide) rfl rfl ⟨_, rfl, Nat.le_of_ble_eq_true rfl⟩) ?_
    refine TL.sn rfl rfl (o_storeBx rfl tyS_3 rfl rfl rfl rfl (Nat.le_of_ble_eq_true rfl) rfl) ?_
    refine TL.nil ?_
    refine thn_normal ?_
    refine T.seq ?_
    refine T.region ?_
    refine TL.st rfl rfl rfl (o_move rfl rfl) ?_
    refine TL.st rfl rfl rfl (o_move rfl rfl) ?_
    refine TL.st rfl rfl rfl (o_nilCheck rfl rfl rfl) ?_
    refine TL.st rfl rfl rfl (o_fieldAddr rfl rfl rfl tyS_44 (by decide) rfl rfl ⟨_, rfl, Nat.le_of_ble_eq_true rfl⟩) ?_
    refine TL.st rfl rfl rfl (o_loadBx rfl tyS_44 rfl rfl (Nat.le_of_ble_eq_true rfl) rfl) ?_
    refine TL.st rfl rfl rfl (o_ari rfl rfl rfl rfl) ?_
    refine TL.st rfl rfl rfl (o_move rfl rfl) ?_
    refine TL.st rfl rfl rfl (o_conv rfl rfl ⟨_, rfl⟩ rfl) ?_
    refine TL.st rfl rfl rfl (o_ari rfl rfl rfl rfl) ?_
    refine TL.st rfl rfl rfl (o_ari rfl rfl rfl rfl) ?_
    refine TL.st rfl rfl rfl (o_nilCheck rfl rfl rfl) ?_
    refine TL.st rfl rfl rfl (o_fieldAddr rfl rfl rfl tyS_44 (by decide) rfl rfl ⟨_, rfl, Nat.le_of_ble_eq_true rfl⟩) ?_
    refine TL.sn rfl rfl (o_storeBx rfl tyS_44 rfl rfl rfl rfl (Nat.le_of_ble_eq_true rfl) rfl) ?_
    refine TL.nil ?_
    refine thn_normal ?_
    refine T.seq ?_
    refine T.seq ?_
    refine T.drawn rfl ?_
    refine TD.qs rfl rfl (fun _ => o_move rfl rfl) ?_
    refine TD.qs rfl rfl (fun _ => o_nilCheck rfl rfl rfl) ?_
    refine TD.rs rfl rfl (o_fieldAddr rfl rfl rfl tyS_3 (by decide) rfl rfl ⟨_, rfl, Nat.le_of_ble_eq_true rfl⟩) ?_
    refine TD.rs rfl rfl (o_loadBx rfl tyS_3 rfl rfl (Nat.le_of_ble_eq_true rfl) rfl) ?_
    refine TD.qs rfl rfl (fun _ => o_move rfl rfl) ?_
    refine TD.qs rfl rfl (fun _ => o_nilCheck rfl rfl rfl) ?_
    refine TD.rs rfl rfl (o_fieldAddr rfl rfl rfl tyS_22 (by decide) rfl rfl ⟨_, rfl, Nat.le_of_ble_eq_true rfl⟩) ?_
    refine TD.rs rfl rfl (o_loadBx rfl tyS_22 rfl rfl (Nat.le_of_ble_eq_true rfl) rfl) ?_
    refine TD.qs rfl rfl (fun _ => o_lenL (f := c_int .u8) rfl rfl rfl) ?_
    refine TD.qs rfl rfl (fun _ => o_ari rfl rfl rfl rfl) ?_
    refine TD.nil ⟨rfl, ?_⟩
    refine thn_normal ?_
    refine T.cond (decide ((IntKind.i64.wrap (s0.at_ + 1)) ≤ (s0.code_.length : Int))) rfl (fun h => ?_) (fun h => ?_)
    · replace H := cond_t h H
      refine T.seq ?_
      refine T.region ?_
      refine TL.st rfl rfl rfl (o_move rfl rfl) ?_
      refine TL.st rfl rfl rfl (o_assign rfl rfl) ?_
      refine TL.nil ?_
      refine thn_normal ?_
      refine T.ret ?_
      refine thn_ret ?_
      cases some_i H
      exact ⟨trivial, _, (.tmp _ _ _ _ rfl .nil), ⟨rfl, _, rfl⟩⟩
    · replace H := cond_f h H
      refine T.skip ?_
      refine thn_normal ?_
      refine T.seq ?_
      refine T.region ?_
      refine TL.st rfl rfl rfl (o_move rfl rfl) ?_
      refine TL.st rfl rfl rfl (o_nilCheck rfl rfl rfl) ?_
      refine TL.st rfl rfl rfl (o_fieldAddr rfl rfl rfl tyS_44 (by decide) rfl rfl ⟨_, rfl, Nat.le_of_ble_eq_true rfl⟩) ?_
      refine TL.st rfl rfl rfl (o_loadBx rfl tyS_44 rfl rfl (Nat.le_of_ble_eq_true rfl) rfl) ?_
      refine TL.st rfl rfl rfl (o_shr rfl rfl rfl (by decide)) ?_
      refine TL.st rfl rfl rfl (o_bits rfl rfl rfl rfl) ?_
      refine TL.st rfl rfl rfl (o_conv rfl rfl ⟨_, rfl⟩ rfl) ?_
      refine TL.st rfl rfl rfl (o_assign rfl rfl) ?_
      refine TL.nil ?_
      refine thn_normal ?_
      refine T.ret ?_
      cases some_i H
      exact ⟨trivial, _, (.tmp _ _ _ _ rfl .nil), ⟨rfl, _, rfl⟩⟩
theorem en_36 (us : Array Value) (w : World) : (callFunc 36 us).run Go.Proofs.Try.prog w = .ok (.enter 36 us) w := enters Go.Proofs.Try.func36 rfl rfl us w
noncomputable def spec_l1Cur_pick_j1 (a0 : Int) (b4 : T_spec_l1Cur) (v5 : Int) : Option (Int × T_spec_l1Cur) :=
  (nz a0).bind fun z6 => some ((Int.tmod v5 a0), b4)
noncomputable def spec_l1Cur_pick (a0 : Int) (s0 : T_spec_l1Cur) : Option (Int × T_spec_l1Cur) :=
  cond (decide (a0 ≤ 1)) (some (0, s0)) ((spec_l1Cur_next s0).bind fun q => (match q with | (r1, o2) => cond (decide (a0 > 200)) ((spec_l1Cur_next o2).bind fun q => (match q with | (r8, o9) => spec_l1Cur_pick_j1 a0 o9 (IntKind.i64.wrap ((IntKind.i64.wrap (r1 * 256)) + r8)))) (spec_l1Cur_pick_j1 a0 o2 r1)))
theorem spec_l1Cur_pick_p (c0 : Bool) {a0 : Int} {s0 : T_spec_l1Cur} {R0 : Int} {U0 : T_spec_l1Cur} (H : spec_l1Cur_pick a0 s0 = some (R0, U0)) : St Go.Proofs.Try.prog 20 [.bx 0 0, .int .i64 a0] [.box (c_T_spec_l1Cur c0 s0)] (.int .i64 R0) [.box (c_T_spec_l1Cur c0 U0)] := by
  refine CallT.fin (CallT.of_TN (n := 20) Go.Proofs.Try.func20 rfl rfl rfl rfl ?_) rfl rfl ⟨(bels_iff.1 rfl), trivial⟩
  refine T.seq ?_
  refine T.region ?_
  refine TL.st rfl rfl rfl (o_assign rfl rfl) ?_
  refine TL.nil ?_
  refine thn_normal ?_
  refine T.seq ?_
  refine T.seq ?_
  refine T.region ?_
  refine TL.st rfl rfl rfl (o_move rfl rfl) ?_
  refine TL.st rfl rfl rfl (o_ari rfl rfl rfl rfl) ?_
  refine TL.nil ?_
  refine thn_normal ?_
  refine T.cond (decide (a0 ≤ 1)) rfl (fun h => ?_) (fun h => ?_)
  · replace H := cond_t h H
    refine T.seq ?_
    refine T.region ?_
    refine TL.st rfl rfl rfl (o_assign rfl rfl) ?_
    refine TL.nil ?_
    refine thn_normal ?_
    refine T.ret ?_
    refine thn_ret ?_
    cases some_i H
    exact ⟨trivial, _, (.tmp _ _ _ _ rfl .nil), ⟨rfl, _, rfl⟩⟩
  · replace H := cond_f h H
    refine T.skip ?_
    refine thn_normal ?_
    refine T.seq ?_
    refine T.region ?_
    refine TL.st rfl rfl rfl (o_move rfl rfl) ?_
    obtain ⟨⟨r1, o2⟩, h3, H⟩ := bind_s H
    refine TL.st rfl rfl rfl (o_callS [0] rfl en_36 rfl rfl (spec_l1Cur_next_p c0 h3) rfl (by decide) (.cons _ _ _ _ rfl .nil) rfl rfl rfl) ?_
    refine TL.st rfl rfl rfl (o_assign rfl rfl) ?_
    refine TL.nil ?_
    refine thn_normal ?_
    refine T.cut (fun fr' σ' => ∃ (b4 : T_spec_l1Cur) (v5 : Int), fr' = [(1, .int .i64 a0), (5, .int .i64 v5)] ∧ σ' = [.box (c_T_spec_l1Cur c0 b4)] ∧ spec_l1Cur_pick_j1 a0 b4 v5 = some (R0, U0)) (T.pk ?_) ?_
    · skip
      refine T.seq ?_
      refine T.region ?_
      refine TL.st rfl rfl rfl (o_move rfl rfl) ?_
      refine TL.st rfl rfl rfl (o_ari rfl rfl rfl rfl) ?_
      refine TL.nil ?_
      refine thn_normal ?_
      refine T.cond (decide (a0 > 200)) rfl (fun h => ?_) (fun h => ?_)
      · replace H := cond_t h H
        refine T.region ?_
        refine TL.st rfl rfl rfl (o_move rfl rfl) ?_
        refine TL.st rfl rfl rfl (o_ari rfl rfl rfl rfl) ?_
        refine TL.st rfl rfl rfl (o_move rfl rfl) ?_
        obtain ⟨⟨r8, o9⟩, h10, H⟩ := bind_s H
        refine TL.st rfl rfl rfl (o_callS [0] rfl en_36 rfl rfl (spec_l1Cur_next_p c0 h10) rfl (by decide) (.cons _ _ _ _ rfl .nil) rfl rfl rfl) ?_
        refine TL.st rfl rfl rfl (o_ari rfl rfl rfl rfl) ?_
        refine TL.st rfl rfl rfl (o_assign rfl rfl) ?_
        refine TL.nil ?_
        exact Pk.go (fr' := [(1, .int .i64 a0), (5, .int .i64 (IntKind.i64.wrap ((IntKind.i64.wrap (r1 * 256)) + r8)))]) (σ' := [.box (c_T_spec_l1Cur c0 o9)]) _ rfl rfl ⟨(bels_iff.1 rfl), trivial⟩ (.cons 1 _ (.int .i64 a0) _ rfl (.same _) rfl (.cons 5 _ (.int .i64 (IntKind.i64.wrap ((IntKind.i64.wrap (r1 * 256)) + r8))) _ rfl (.same _) rfl .nil)) (thn_normal ⟨o9, (IntKind.i64.wrap ((IntKind.i64.wrap (r1 * 256)) + r8)), rfl, rfl, H⟩)
      · replace H := cond_f h H
        refine T.skip ?_
        exact Pk.go (fr' := [(1, .int .i64 a0), (5, .int .i64 r1)]) (σ' := [.box (c_T_spec_l1Cur c0 o2)]) _ rfl rfl ⟨(bels_iff.1 rfl), trivial⟩ (.cons 1 _ (.int .i64 a0) _ rfl (.same _) rfl (.cons 5 _ (.int .i64 r1) _ rfl (.same _) rfl .nil)) (thn_normal ⟨o2, r1, rfl, rfl, H⟩)
    · rintro _ _ ⟨b4, v5, rfl, rfl, H⟩
      refine T.seq ?_
      refine T.region ?_
      refine TL.st rfl rfl rfl (o_move rfl rfl) ?_
      refine TL.st rfl rfl rfl (o_move rfl rfl) ?_
      obtain ⟨z6, h7, H⟩ := bind_s H
      refine TL.st rfl rfl rfl (o_rem rfl rfl rfl (nz_s h7).1) ?_
      refine TL.st rfl rfl rfl (o_assign rfl rfl) ?_
      refine TL.nil ?_
      refine thn_normal ?_
      refine T.ret ?_
      cases some_i H
      exact ⟨trivial, _, (.tmp _ _ _ _ rfl .nil), ⟨rfl, _, rfl⟩⟩
theorem en_20 (us : Array Value) (w : World) : (callFunc 20 us).run Go.Proofs.Try.prog w = .ok (.enter 20 us) w := enters Go.Proofs.Try.func20 rfl rfl us w
theorem tyS_31 : TyS Go.Proofs.Try.prog 31 true 3 := ⟨rfl, rfl⟩
noncomputable def spec_l1Cur_one (a0 : Int) (s0 : T_spec_l1Cur) : Option (Bool × T_spec_l1Cur) :=
  (spec_l1Cur_pick a0 s0).bind fun q => (match q with | (r1, o2) => some ((r1 == 0), o2))
theorem spec_l1Cur_one_p (c0 : Bool) {a0 : Int} {s0 : T_spec_l1Cur} {R0 : Bool} {U0 : T_spec_l1Cur} (H : spec_l1Cur_one a0 s0 = some (R0, U0)) : St Go.Proofs.Try.prog 22 [.bx 0 0, .int .i64 a0] [.box (c_T_spec_l1Cur c0 s0)] (.bool R0) [.box (c_T_spec_l1Cur c0 U0)] := by
  refine CallT.fin (CallT.of_TN (n := 9) Go.Proofs.Try.func22 rfl rfl rfl rfl ?_) rfl rfl ⟨(bels_iff.1 rfl), trivial⟩
  refine T.seq ?_
  refine T.region ?_
  refine TL.st rfl rfl rfl (o_assign rfl rfl) ?_
  refine TL.nil ?_
  refine thn_normal ?_
  refine T.seq ?_
  refine T.region ?_
  refine TL.st rfl rfl rfl (o_move rfl rfl) ?_
  refine TL.st rfl rfl rfl (o_move rfl rfl) ?_
  obtain ⟨⟨r1, o2⟩, h3, H⟩ := bind_s H
  refine TL.st rfl rfl rfl (o_callS [0] rfl en_20 rfl rfl (spec_l1Cur_pick_p c0 h3) rfl (by decide) (.cons _ _ _ _ rfl .nil) rfl rfl rfl) ?_
  refine TL.st rfl rfl rfl (o_ari rfl rfl rfl rfl) ?_
  refine TL.st rfl rfl rfl (o_assign rfl rfl) ?_
  refine TL.nil ?_
  refine thn_normal ?_
  refine T.ret ?_
  cases some_i H
  exact ⟨trivial, _, (.tmp _ _ _ _ rfl .nil), ⟨rfl, _, rfl⟩⟩
theorem en_22 (us : Array Value) (w : World) : (callFunc 22 us).run Go.Proofs.Try.prog w = .ok (.enter 22 us) w := enters Go.Proofs.Try.func22 rfl rfl us w
noncomputable def spec_l1Cur_of (a0 : (List ByteArray)) (s0 : T_spec_l1Cur) : Option (ByteArray × T_spec_l1Cur) :=
  (spec_l1Cur_pick (a0.length : Int) s0).bind fun q => (match q with | (r1, o2) => (idx a0 r1).bind fun e4 => some (e4, o2))
theorem spec_l1Cur_of_p (b0 : Bool) (c0 : Bool) {a0 : (List ByteArray)} {s0 : T_spec_l1Cur} {R0 : ByteArray} {U0 : T_spec_l1Cur} (H : spec_l1Cur_of a0 s0 = some (R0, U0)) : St Go.Proofs.Try.prog 23 [.bx 0 0, .im b0 (a0.map (c_str))] [.box (c_T_spec_l1Cur c0 s0)] (.str R0) [.box (c_T_spec_l1Cur c0 U0)] := by
  refine CallT.fin (CallT.of_TN (n := 12) Go.Proofs.Try.func23 rfl rfl rfl rfl ?_) rfl rfl ⟨(bels_iff.1 rfl), trivial⟩
  refine T.seq ?_
  refine T.region ?_
  refine TL.st rfl rfl rfl (o_assign rfl rfl) ?_
  refine TL.nil ?_
  refine thn_normal ?_
  refine T.seq ?_
  refine T.region ?_
  refine TL.st rfl rfl rfl (o_move rfl rfl) ?_
  refine TL.st rfl rfl rfl (o_move rfl rfl) ?_
  refine TL.st rfl rfl rfl (o_move rfl rfl) ?_
  refine TL.st rfl rfl rfl (o_lenL (f := c_str) rfl rfl rfl) ?_
  obtain ⟨⟨r1, o2⟩, h3, H⟩ := bind_s H
  refine TL.st rfl rfl rfl (o_callS [0] rfl en_20 rfl rfl (spec_l1Cur_pick_p c0 h3) rfl (by decide) (.cons _ _ _ _ rfl .nil) rfl rfl rfl) ?_
  obtain ⟨e4, h5, H⟩ := bind_s H
  refine TL.st rfl rfl rfl (o_ix (f := c_str) rfl rfl tyS_9 rfl rfl h5 rfl) ?_
  refine TL.st rfl rfl rfl (o_loadRf rfl tyS_9 rfl (Nat.le_of_ble_eq_true rfl) rfl) ?_
  refine TL.st rfl rfl rfl (o_assign rfl rfl) ?_
  refine TL.nil ?_
  refine thn_normal ?_
  refine T.ret ?_
  cases some_i H
  exact ⟨trivial, _, (.tmp _ _ _ _ rfl .nil), ⟨rfl, _, rfl⟩⟩
theorem en_23 (us : Array Value) (w : World) : (callFunc 23 us).run Go.Proofs.Try.prog w = .ok (.enter 23 us) w := enters Go.Proofs.Try.func23 rfl rfl us w
theorem tyE_31 : TyE Go.Proofs.Try.prog 31 3 := ⟨_, _, rfl, rfl, rfl, rfl, by decide, by decide⟩
noncomputable def spec_l1Cur_rare (a0 : Int) (s0 : T_spec_l1Cur) : Option (Int × T_spec_l1Cur) :=
  (spec_l1Cur_one 8 s0).bind fun q => (match q with | (r1, o2) => cond (!r1) (some (0, o2)) ((spec_l1Cur_pick (IntKind.i64.wrap (a0 - 1)) o2).bind fun q => (match q with | (r4, o5) => some ((IntKind.i64.wrap (1 + r4)), o5))))
theorem spec_l1Cur_rare_p (c0 : Bool) {a0 : Int} {s0 : T_spec_l1Cur} {R0 : Int} {U0 : T_spec_l1Cur} (H : spec_l1Cur_rare a0 s0 = some (R0, U0)) : St Go.Proofs.Try.prog 24 [.bx 0 0, .int .i64 a0] [.box (c_T_spec_l1Cur c0 s0)] (.int .i64 R0) [.box (c_T_spec_l1Cur c0 U0)] := by
  refine CallT.fin (CallT.of_TN (n := 13) Go.Proofs.Try.func24 rfl rfl rfl rfl ?_) rfl rfl ⟨(bels_iff.1 rfl), trivial⟩
  refine T.seq ?_
  refine T.region ?_
  refine TL.st rfl rfl rfl (o_assign rfl rfl) ?_
  refine TL.nil ?_
  refine thn_normal ?_
  refine T.seq ?_
  refine T.seq ?_
  refine T.region ?_
  refine TL.st rfl rfl rfl (o_move rfl rfl) ?_
  obtain ⟨⟨r1, o2⟩, h3, H⟩ := bind_s H
  refine TL.st rfl rfl rfl (o_callS [0] rfl en_22 rfl rfl (spec_l1Cur_one_p c0 h3) rfl (by decide) (.cons _ _ _ _ rfl .nil) rfl rfl rfl) ?_
  refine TL.st rfl rfl rfl (o_not rfl rfl) ?_
  refine TL.nil ?_
  refine thn_normal ?_
  refine T.cond ((!r1)) rfl (fun h => ?_) (fun h => ?_)
  · replace H := cond_t h H
    refine T.seq ?_
    refine T.region ?_
    refine TL.st rfl rfl rfl (o_assign rfl rfl) ?_
    refine TL.nil ?_
    refine thn_normal ?_
    refine T.ret ?_
    refine thn_ret ?_
    cases some_i H
    exact ⟨trivial, _, (.tmp _ _ _ _ rfl .nil), ⟨rfl, _, rfl⟩⟩
  · replace H := cond_f h H
    refine T.skip ?_
    refine thn_normal ?_
    refine T.seq ?_
    refine T.region ?_
    refine TL.st rfl rfl rfl (o_move rfl rfl) ?_
    refine TL.st rfl rfl rfl (o_move rfl rfl) ?_
    refine TL.st rfl rfl rfl (o_ari rfl rfl rfl rfl) ?_
    obtain ⟨⟨r4, o5⟩, h6, H⟩ := bind_s H
    refine TL.st rfl rfl rfl (o_callS [0] rfl en_20 rfl rfl (spec_l1Cur_pick_p c0 h6) rfl (by decide) (.cons _ _ _ _ rfl .nil) rfl rfl rfl) ?_
    refine TL.st rfl rfl rfl (o_ari rfl rfl rfl rfl) ?_
    refine TL.st rfl rfl rfl (o_assign rfl rfl) ?_
    refine TL.nil ?_
    refine thn_normal ?_
    refine T.ret ?_
    cases some_i H
    exact ⟨trivial, _, (.tmp _ _ _ _ rfl .nil), ⟨rfl, _, rfl⟩⟩
theorem en_24 (us : Array Value) (w : World) : (callFunc 24 us).run Go.Proofs.Try.prog w = .ok (.enter 24 us) w := enters Go.Proofs.Try.func24 rfl rfl us w
noncomputable def spec_DrawRunRecovery_j1 (l11 : List T_impl_RecoverEvent) (b12 : T_spec_l1Cur) (v13 : (List ByteArray)) : Option (Int × Int × (List ByteArray) × (List T_impl_RecoverEvent)) :=
  (spec_l1Cur_pick 3 b12).bind fun q => (match q with | (r14, o15) => (spec_l1Cur_rare 4 o15).bind fun q => (match q with | (r17, o18) => (idx ([(IntKind.i64.wrap (1 + r14)), 0, 10, 11] : List Int) r17).bind fun e20 => (spec_l1Cur_pick 9 o18).bind fun q => (match q with | (r22, o23) => some (e20, r22, v13, l11))))
noncomputable def spec_DrawRunRecovery_j3 (l7 : List T_impl_RecoverEvent) (v8 : Int) (v9 : Int) (r29 : Int) (b39 : T_spec_l1Cur) (b40 : T_impl_RecoverEvent) : Option ((T_spec_l1Cur × List T_impl_RecoverEvent × Int × Int) ⊕ (T_spec_l1Cur × List T_impl_RecoverEvent)) :=
  (app l7 ([b40] : List T_impl_RecoverEvent)).bind fun l41 => some (.inl (b39, l41, (IntKind.i64.wrap (v8 + r29)), (IntKind.i64.wrap (v9 - 1))))
noncomputable def spec_DrawRunRecovery_j2 (l7 : List T_impl_RecoverEvent) (v8 : Int) (v9 : Int) (r29 : Int) (b37 : T_spec_l1Cur) (b38 : T_impl_RecoverEvent) : Option ((T_spec_l1Cur × List T_impl_RecoverEvent × Int × Int) ⊕ (T_spec_l1Cur × List T_impl_RecoverEvent)) :=
  (spec_l1Cur_one 20 b37).bind fun q => (match q with | (r43, o44) => cond r43 (spec_DrawRunRecovery_j3 l7 v8 v9 r29 o44 (⟨b38.Kind_, (IntKind.i64.wrap (b38.Time_ - 5)), b38.Who_⟩ : T_impl_RecoverEvent)) (spec_DrawRunRecovery_j3 l7 v8 v9 r29 o44 b38))
noncomputable def spec_DrawRunRecovery_l1  : (T_spec_l1Cur × List T_impl_RecoverEvent × Int × Int) → Option ((T_spec_l1Cur × List T_impl_RecoverEvent × Int × Int) ⊕ (T_spec_l1Cur × List T_impl_RecoverEvent)) := fun s => match s with
  | (b6, l7, v8, v9) => cond (decide (v9 > 0)) ((spec_l1Cur_pick 6 b6).bind fun q => (match q with | (r29, o30) => (spec_l1Cur_pick 30 o30).bind fun q => (match q with | (r32, o33) => (idx ([1, 2, 2, 2, 4, 4, 3, 0] : List Int) (Int.tmod r32 8)).bind fun e35 => (cond (!(e35 == 2)) (spec_l1Cur_one 30 o33) (some (default, o33))).bind fun q => (match q with | (r46, o47) => cond ((e35 == 2) || r46) ((spec_l1Cur_of ([(ByteArray.mk #[98, 111, 98]), (ByteArray.mk #[99, 121]), (ByteArray.mk #[100, 97, 110]), (ByteArray.mk #[101, 118, 101])] : List ByteArray) o47).bind fun q => (match q with | (r49, o50) => spec_DrawRunRecovery_j2 l7 v8 v9 r29 o50 (⟨e35, (IntKind.i64.wrap (v8 + r29)), r49⟩ : T_impl_RecoverEvent))) (spec_DrawRunRecovery_j2 l7 v8 v9 r29 o47 (⟨e35, (IntKind.i64.wrap (v8 + r29)), (ByteArray.mk #[])⟩ : T_impl_RecoverEvent)))))) (some (.inr (b6, l7)))
noncomputable def spec_DrawRunRecovery (a0 : (List Int)) : Option (Int × Int × (List ByteArray) × (List T_impl_RecoverEvent)) :=
  (spec_l1Many a0 10 30).bind fun r1 => (spec_l1Cur_pick (IntKind.i64.wrap (14 + r1)) (⟨a0, 0, 0⟩ : T_spec_l1Cur)).bind fun q => (match q with | (r3, o4) => (loopO (spec_DrawRunRecovery_l1) (o4, ([] : List T_impl_RecoverEvent), 0, r3)).bind fun q52 => (match q52 with | (b10, l11) => (spec_l1Cur_one 20 b10).bind fun q => (match q with | (r25, o26) => cond r25 (spec_DrawRunRecovery_j1 l11 o26 ([(ByteArray.mk #[99, 121]), (ByteArray.mk #[98, 111, 98])] : List ByteArray)) (spec_DrawRunRecovery_j1 l11 o26 ([(ByteArray.mk #[98, 111, 98]), (ByteArray.mk #[99, 121]), (ByteArray.mk #[100, 97, 110])] : List ByteArray)))))
theorem spec_DrawRunRecovery_p (b0 : Bool) {a0 : (List Int)} {R0 : Int} {R1 : Int} {R2 : (List ByteArray)} {R3 : (List T_impl_RecoverEvent)} (H : spec_DrawRunRecovery a0 = some (R0, R1, R2, R3)) : Pure Go.Proofs.Try.prog 5 [.im b0 (a0.map (c_int .u8))] (.tup [.int .i64 R0, .int .i64 R1, .im false (R2.map (c_str)), .im false (R3.map (c_T_impl_RecoverEvent false))]) := by
  refine CallT.of_TN (n := 73) Go.Proofs.Try.func5 rfl rfl rfl rfl ?_
  refine T.seq ?_
  refine T.region ?_
  refine TL.st rfl rfl rfl (o_assign rfl rfl) ?_
  refine TL.st rfl rfl rfl (o_assign rfl rfl) ?_
  refine TL.st rfl rfl rfl (o_assign rfl rfl) ?_
  refine TL.st rfl rfl rfl (o_assign rfl rfl) ?_
  refine TL.nil ?_
  refine thn_normal ?_
  refine T.seq ?_
  refine T.region ?_
  refine TL.st rfl rfl rfl (o_move rfl rfl) ?_
  refine TL.st rfl rfl rfl (o_build rfl ⟨_, fun _ => rfl, rfl⟩ rfl rfl rfl) ?_
  refine TL.st rfl rfl rfl (o_box rfl rfl rfl) ?_
  refine TL.st rfl rfl rfl (o_assign rfl rfl) ?_
  refine TL.nil ?_
  refine thn_normal ?_
  refine T.seq ?_
  refine T.region ?_
  refine TL.st rfl rfl rfl (o_sliceIm rfl rfl tyS_9 ⟨_, rfl, rfl⟩ (by decide) rfl rfl rfl rfl rfl rfl) ?_
  refine TL.st rfl rfl rfl (o_assign rfl rfl) ?_
  refine TL.nil ?_
  refine thn_normal ?_
  refine T.seq ?_
  refine T.region ?_
  refine TL.st rfl rfl rfl (o_assign rfl rfl) ?_
  refine TL.nil ?_
  refine thn_normal ?_
  refine T.seq ?_
  refine T.region ?_
  refine TL.st rfl rfl rfl (o_assign rfl rfl) ?_
  refine TL.nil ?_
  refine thn_normal ?_
  refine T.seq ?_
  refine T.seq ?_
  refine T.region ?_
  refine TL.st rfl rfl rfl (o_move rfl rfl) ?_
  refine TL.st rfl rfl rfl (o_move rfl rfl) ?_
  obtain ⟨r1, h2, H⟩ := bind_s H
  refine TL.st rfl rfl rfl (o_callP rfl en_21 rfl rfl (.cons _ _ _ _ (.imv _ _) (.cons _ _ _ _ (.cl _ rfl) (.cons _ _ _ _ (.cl _ rfl) .nil))) (spec_l1Many_p b0 h2)) ?_
  refine TL.st rfl rfl rfl (o_ari rfl rfl rfl rfl) ?_
  obtain ⟨⟨r3, o4⟩, h5, H⟩ := bind_s H
  refine TL.st rfl rfl rfl (o_callS [0] rfl en_20 rfl rfl (spec_l1Cur_pick_p b0 h5) rfl (by decide) (.cons _ _ _ _ rfl .nil) rfl rfl rfl) ?_
  refine TL.st rfl rfl rfl (o_assign rfl rfl) ?_
  refine TL.nil ?_
  refine thn_normal ?_
  refine T.block ?_
  refine T.conv (Cs.own (t := 8) 3 rfl (by decide)) ?_
  obtain ⟨q52, h53, H⟩ := bind_s H
  refine T.to (.cons 6 _ (.bx 0 0) _ rfl (.same _) rfl (.cons 7 _ (.im false (([(ByteArray.mk #[98, 111, 98]), (ByteArray.mk #[99, 121]), (ByteArray.mk #[100, 97, 110])] : List ByteArray).map (c_str))) _ rfl (.same _) rfl (.cons 8 _ (.hd 1 (([] : List T_impl_RecoverEvent).map (c_T_impl_RecoverEvent false)).length 0 (([] : List T_impl_RecoverEvent).map (c_T_impl_RecoverEvent false)).length) _ rfl (.same _) rfl (.cons 9 _ (.int .i64 0) _ rfl (.same _) rfl (.cons 10 _ (.int .i64 r3) _ rfl (.same _) rfl .nil))))) ?_
  refine T.lp (fun s => match s with | (b6, l7, v8, v9) => [(6, .bx 0 0), (7, .im false (([(ByteArray.mk #[98, 111, 98]), (ByteArray.mk #[99, 121]), (ByteArray.mk #[100, 97, 110])] : List ByteArray).map (c_str))), (8, .hd 1 (l7.map (c_T_impl_RecoverEvent false)).length 0 (l7.map (c_T_impl_RecoverEvent false)).length), (9, .int .i64 v8), (10, .int .i64 v9)]) (fun s => match s with | (b6, l7, v8, v9) => [.box (c_T_spec_l1Cur b0 b6), .arr .clo 3 (l7.map (c_T_impl_RecoverEvent false))]) (fun q ex fr σ => match q with | (b10, l11) => ex = .exit 0 ∧ fr = [(6, .bx 0 0), (7, .im false (([(ByteArray.mk #[98, 111, 98]), (ByteArray.mk #[99, 121]), (ByteArray.mk #[100, 97, 110])] : List ByteArray).map (c_str))), (8, .hd 1 (l11.map (c_T_impl_RecoverEvent false)).length 0 (l11.map (c_T_impl_RecoverEvent false)).length)] ∧ σ = [.box (c_T_spec_l1Cur b0 b10), .arr .clo 3 (l11.map (c_T_impl_RecoverEvent false))]) h53 ?_ ?_ ?_ ?_ ?_
  · rintro ⟨b6, l7, v8, v9⟩ y28 H
    refine T.seq ?_
    refine T.seq ?_
    refine T.region ?_
    refine TL.st rfl rfl rfl (o_move rfl rfl) ?_
    refine TL.st rfl rfl rfl (o_ari rfl rfl rfl rfl) ?_
    refine TL.nil ?_
    refine thn_normal ?_
    refine T.cond (decide (v9 > 0)) rfl (fun h => ?_) (fun h => ?_)
    · replace H := cond_t h H
      refine T.skip ?_
      refine thn_normal ?_
      refine T.seq ?_
      refine T.block ?_
      refine T.seq ?_
      refine T.region ?_
      refine TL.st rfl rfl rfl (o_move rfl rfl) ?_
      refine TL.st rfl rfl rfl (o_move rfl rfl) ?_
      obtain ⟨⟨r29, o30⟩, h31, H⟩ := bind_s H
      refine TL.st rfl rfl rfl (o_callS [0] rfl en_20 rfl rfl (spec_l1Cur_pick_p b0 h31) rfl (by decide) (.cons _ _ _ _ rfl .nil) rfl rfl rfl) ?_
      refine TL.st rfl rfl rfl (o_ari rfl rfl rfl rfl) ?_
      refine TL.st rfl rfl rfl (o_assign rfl rfl) ?_
      refine TL.nil ?_
      refine thn_normal ?_
      refine T.seq ?_
      refine T.region ?_
      refine TL.st rfl rfl rfl (o_sliceIm rfl rfl tyS_3 ⟨_, rfl, rfl⟩ (by decide) rfl rfl rfl rfl rfl rfl) ?_
      refine TL.st rfl rfl rfl (o_move rfl rfl) ?_
      obtain ⟨⟨r32, o33⟩, h34, H⟩ := bind_s H
      refine TL.st rfl rfl rfl (o_callS [0] rfl en_20 rfl rfl (spec_l1Cur_pick_p b0 h34) rfl (by decide) (.cons _ _ _ _ rfl .nil) rfl rfl rfl) ?_
      refine TL.st rfl rfl rfl (o_rem rfl rfl rfl (by decide)) ?_
      obtain ⟨e35, h36, H⟩ := bind_s H
      refine TL.st rfl rfl rfl (o_ix (f := c_int .i64) rfl rfl tyS_3 rfl rfl h36 rfl) ?_
      refine TL.st rfl rfl rfl (o_loadRf rfl tyS_3 rfl (Nat.le_of_ble_eq_true rfl) rfl) ?_
      refine TL.st rfl rfl rfl (o_move rfl rfl) ?_
      refine TL.st rfl rfl rfl (o_build rfl ⟨_, fun _ => rfl, rfl⟩ rfl rfl rfl) ?_
      refine TL.st rfl rfl rfl (o_alloc rfl ⟨_, rfl, rfl⟩) ?_
      refine TL.sn rfl rfl (o_storeBx rfl tyS_31 rfl rfl rfl rfl (Nat.le_of_ble_eq_true rfl) rfl) ?_
      refine TL.nil ?_
      refine thn_normal ?_
      refine T.cut (fun fr' σ' => ∃ (b37 : T_spec_l1Cur) (b38 : T_impl_RecoverEvent), fr' = [(6, .bx 0 0), (7, .im false (([(ByteArray.mk #[98, 111, 98]), (ByteArray.mk #[99, 121]), (ByteArray.mk #[100, 97, 110])] : List ByteArray).map (c_str))), (8, .hd 1 (l7.map (c_T_impl_RecoverEvent false)).length 0 (l7.map (c_T_impl_RecoverEvent false)).length), (9, .int .i64 (IntKind.i64.wrap (v8 + r29))), (10, .int .i64 v9), (11, .bx 2 0)] ∧ σ' = [.box (c_T_spec_l1Cur b0 b37), .arr .clo 3 (l7.map (c_T_impl_RecoverEvent false)), .box (c_T_impl_RecoverEvent false b38)] ∧ spec_DrawRunRecovery_j2 l7 v8 v9 r29 b37 b38 = some y28) (T.pk ?_) ?_
      · skip
        refine T.seq ?_
        refine T.region ?_
        refine TL.st rfl rfl rfl (o_fieldAddr rfl rfl rfl tyS_3 (by decide) rfl rfl ⟨_, rfl, Nat.le_of_ble_eq_true rfl⟩) ?_
        refine TL.st rfl rfl rfl (o_loadBx rfl tyS_3 rfl rfl (Nat.le_of_ble_eq_true rfl) rfl) ?_
        refine TL.st rfl rfl rfl (o_ari rfl rfl rfl rfl) ?_
        refine TL.st rfl rfl rfl (o_move rfl rfl) ?_
        refine TL.gcq rfl rfl rfl (.bool _) rfl rfl (fun h => o_move rfl rfl) ?_
        obtain ⟨⟨r46, o47⟩, h48, H⟩ := bind_s H
        refine TL.gc rfl rfl rfl (.bool _) rfl rfl (fun h => o_callS [0] rfl en_22 rfl (evl_2 (gv h rfl) rfl) (spec_l1Cur_one_p b0 (cond_t h h48)) rfl (by decide) (.cons _ _ _ _ rfl .nil) rfl rfl rfl) (fun h => by cases cond_f h h48; rfl) ?_
        refine TL.st rfl rfl rfl (o_or rfl rfl rfl rfl (fun k => Gd_t k)) ?_
        refine TL.nil ?_
        refine thn_normal ?_
        refine T.cond (((e35 == 2) || r46)) rfl (fun h => ?_) (fun h => ?_)
        · replace H := cond_t h H
          refine T.region ?_
          refine TL.st rfl rfl rfl (o_move rfl rfl) ?_
          refine TL.st rfl rfl rfl (o_sliceIm rfl rfl tyS_9 ⟨_, rfl, rfl⟩ (by decide) rfl rfl rfl rfl rfl rfl) ?_
          obtain ⟨⟨r49, o50⟩, h51, H⟩ := bind_s H
          refine TL.st rfl rfl rfl (o_callS [0] rfl en_23 rfl rfl (spec_l1Cur_of_p false b0 h51) rfl (by decide) (.cons _ _ _ _ rfl .nil) rfl rfl rfl) ?_
          refine TL.st rfl rfl rfl (o_fieldAddr rfl rfl rfl tyS_9 (by decide) rfl rfl ⟨_, rfl, Nat.le_of_ble_eq_true rfl⟩) ?_
          refine TL.sn rfl rfl (o_storeBx rfl tyS_9 rfl rfl rfl rfl (Nat.le_of_ble_eq_true rfl) rfl) ?_
          refine TL.nil ?_
          exact Pk.go (fr' := [(6, .bx 0 0), (7, .im false (([(ByteArray.mk #[98, 111, 98]), (ByteArray.mk #[99, 121]), (ByteArray.mk #[100, 97, 110])] : List ByteArray).map (c_str))), (8, .hd 1 (l7.map (c_T_impl_RecoverEvent false)).length 0 (l7.map (c_T_impl_RecoverEvent false)).length), (9, .int .i64 (IntKind.i64.wrap (v8 + r29))), (10, .int .i64 v9), (11, .bx 2 0)]) (σ' := [.box (c_T_spec_l1Cur b0 o50), .arr .clo 3 (l7.map (c_T_impl_RecoverEvent false)), .box (c_T_impl_RecoverEvent false (⟨e35, (IntKind.i64.wrap (v8 + r29)), r49⟩ : T_impl_RecoverEvent))]) _ rfl rfl ⟨(bels_iff.1 rfl), ⟨trivial, ⟨(bels_iff.1 rfl), trivial⟩⟩⟩ (.cons 6 _ (.bx 0 0) _ rfl (.same _) rfl (.cons 7 _ (.im false (([(ByteArray.mk #[98, 111, 98]), (ByteArray.mk #[99, 121]), (ByteArray.mk #[100, 97, 110])] : List ByteArray).map (c_str))) _ rfl (.same _) rfl (.cons 8 _ (.hd 1 (l7.map (c_T_impl_RecoverEvent false)).length 0 (l7.map (c_T_impl_RecoverEvent false)).length) _ rfl (.same _) rfl (.cons 9 _ (.int .i64 (IntKind.i64.wrap (v8 + r29))) _ rfl (.same _) rfl (.cons 10 _ (.int .i64 v9) _ rfl (.same _) rfl (.cons 11 _ (.bx 2 0) _ rfl (.same _) rfl .nil)))))) (thn_normal ⟨o50, (⟨e35, (IntKind.i64.wrap (v8 + r29)), r49⟩ : T_impl_RecoverEvent), rfl, rfl, H⟩)
        · replace H := cond_f h H
          refine T.skip ?_
          exact Pk.go (fr' := [(6, .bx 0 0), (7, .im false (([(ByteArray.mk #[98, 111, 98]), (ByteArray.mk #[99, 121]), (ByteArray.mk #[100, 97, 110])] : List ByteArray).map (c_str))), (8, .hd 1 (l7.map (c_T_impl_RecoverEvent false)).length 0 (l7.map (c_T_impl_RecoverEvent false)).length), (9, .int .i64 (IntKind.i64.wrap (v8 + r29))), (10, .int .i64 v9), (11, .bx 2 0)]) (σ' := [.box (c_T_spec_l1Cur b0 o47), .arr .clo 3 (l7.map (c_T_impl_RecoverEvent false)), .box (c_T_impl_RecoverEvent false (⟨e35, (IntKind.i64.wrap (v8 + r29)), (ByteArray.mk #[])⟩ : T_impl_RecoverEvent))]) _ rfl rfl ⟨(bels_iff.1 rfl), ⟨trivial, ⟨(bels_iff.1 rfl), trivial⟩⟩⟩ (.cons 6 _ (.bx 0 0) _ rfl (.same _) rfl (.cons 7 _ (.im false (([(ByteArray.mk #[98, 111, 98]), (ByteArray.mk #[99, 121]), (ByteArray.mk #[100, 97, 110])] : List ByteArray).map (c_str))) _ rfl (.same _) rfl (.cons 8 _ (.hd 1 (l7.map (c_T_impl_RecoverEvent false)).length 0 (l7.map (c_T_impl_RecoverEvent false)).length) _ rfl (.same _) rfl (.cons 9 _ (.int .i64 (IntKind.i64.wrap (v8 + r29))) _ rfl (.same _) rfl (.cons 10 _ (.int .i64 v9) _ rfl (.same _) rfl (.cons 11 _ (.bx 2 0) _ rfl (.same _) rfl .nil)))))) (thn_normal ⟨o47, (⟨e35, (IntKind.i64.wrap (v8 + r29)), (ByteArray.mk #[])⟩ : T_impl_RecoverEvent), rfl, rfl, H⟩)
      · rintro _ _ ⟨b37, b38, rfl, rfl, H⟩
        refine T.cut (fun fr' σ' => ∃ (b39 : T_spec_l1Cur) (b40 : T_impl_RecoverEvent), fr' = [(6, .bx 0 0), (7, .im false (([(ByteArray.mk #[98, 111, 98]), (ByteArray.mk #[99, 121]), (ByteArray.mk #[100, 97, 110])] : List ByteArray).map (c_str))), (8, .hd 1 (l7.map (c_T_impl_RecoverEvent false)).length 0 (l7.map (c_T_impl_RecoverEvent false)).length), (9, .int .i64 (IntKind.i64.wrap (v8 + r29))), (10, .int .i64 v9), (11, .bx 2 0)] ∧ σ' = [.box (c_T_spec_l1Cur b0 b39), .arr .clo 3 (l7.map (c_T_impl_RecoverEvent false)), .box (c_T_impl_RecoverEvent false b40)] ∧ spec_DrawRunRecovery_j3 l7 v8 v9 r29 b39 b40 = some y28) (T.pk ?_) ?_
        · skip
          refine T.seq ?_
          refine T.region ?_
          refine TL.st rfl rfl rfl (o_move rfl rfl) ?_
          obtain ⟨⟨r43, o44⟩, h45, H⟩ := bind_s H
          refine TL.st rfl rfl rfl (o_callS [0] rfl en_22 rfl rfl (spec_l1Cur_one_p b0 h45) rfl (by decide) (.cons _ _ _ _ rfl .nil) rfl rfl rfl) ?_
          refine TL.nil ?_
          refine thn_normal ?_
          refine T.cond (r43) rfl (fun h => ?_) (fun h => ?_)
          · replace H := cond_t h H
            refine T.region ?_
            refine TL.st rfl rfl rfl (o_fieldAddr rfl rfl rfl tyS_3 (by decide) rfl rfl ⟨_, rfl, Nat.le_of_ble_eq_true rfl⟩) ?_
            refine TL.st rfl rfl rfl (o_loadBx rfl tyS_3 rfl rfl (Nat.le_of_ble_eq_true rfl) rfl) ?_
            refine TL.st rfl rfl rfl (o_ari rfl rfl rfl rfl) ?_
            refine TL.st rfl rfl rfl (o_fieldAddr rfl rfl rfl tyS_3 (by decide) rfl rfl ⟨_, rfl, Nat.le_of_ble_eq_true rfl⟩) ?_
            refine TL.sn rfl rfl (o_storeBx rfl tyS_3 rfl rfl rfl rfl (Nat.le_of_ble_eq_true rfl) rfl) ?_
            refine TL.nil ?_
            exact Pk.go (fr' := [(6, .bx 0 0), (7, .im false (([(ByteArray.mk #[98, 111, 98]), (ByteArray.mk #[99, 121]), (ByteArray.mk #[100, 97, 110])] : List ByteArray).map (c_str))), (8, .hd 1 (l7.map (c_T_impl_RecoverEvent false)).length 0 (l7.map (c_T_impl_RecoverEvent false)).length), (9, .int .i64 (IntKind.i64.wrap (v8 + r29))), (10, .int .i64 v9), (11, .bx 2 0)]) (σ' := [.box (c_T_spec_l1Cur b0 o44), .arr .clo 3 (l7.map (c_T_impl_RecoverEvent false)), .box (c_T_impl_RecoverEvent false (⟨b38.Kind_, (IntKind.i64.wrap (b38.Time_ - 5)), b38.Who_⟩ : T_impl_RecoverEvent))]) _ rfl rfl ⟨(bels_iff.1 rfl), ⟨trivial, ⟨(bels_iff.1 rfl), trivial⟩⟩⟩ (.cons 6 _ (.bx 0 0) _ rfl (.same _) rfl (.cons 7 _ (.im false (([(ByteArray.mk #[98, 111, 98]), (ByteArray.mk #[99, 121]), (ByteArray.mk #[100, 97, 110])] : List ByteArray).map (c_str))) _ rfl (.same _) rfl (.cons 8 _ (.hd 1 (l7.map (c_T_impl_RecoverEvent false)).length 0 (l7.map (c_T_impl_RecoverEvent false)).length) _ rfl (.same _) rfl (.cons 9 _ (.int .i64 (IntKind.i64.wrap (v8 + r29))) _ rfl (.same _) rfl (.cons 10 _ (.int .i64 v9) _ rfl (.same _) rfl (.cons 11 _ (.bx 2 0) _ rfl (.same _) rfl .nil)))))) (thn_normal ⟨o44, (⟨b38.Kind_, (IntKind.i64.wrap (b38.Time_ - 5)), b38.Who_⟩ : T_impl_RecoverEvent), rfl, rfl, H⟩)
          · replace H := cond_f h H
            refine T.skip ?_
            exact Pk.go (fr' := [(6, .bx 0 0), (7, .im false (([(ByteArray.mk #[98, 111, 98]), (ByteArray.mk #[99, 121]), (ByteArray.mk #[100, 97, 110])] : List ByteArray).map (c_str))), (8, .hd 1 (l7.map (c_T_impl_RecoverEvent false)).length 0 (l7.map (c_T_impl_RecoverEvent false)).length), (9, .int .i64 (IntKind.i64.wrap (v8 + r29))), (10, .int .i64 v9), (11, .bx 2 0)]) (σ' := [.box (c_T_spec_l1Cur b0 o44), .arr .clo 3 (l7.map (c_T_impl_RecoverEvent false)), .box (c_T_impl_RecoverEvent false b38)]) _ rfl rfl ⟨(bels_iff.1 rfl), ⟨trivial, ⟨(bels_iff.1 rfl), trivial⟩⟩⟩ (.cons 6 _ (.bx 0 0) _ rfl (.same _) rfl (.cons 7 _ (.im false (([(ByteArray.mk #[98, 111, 98]), (ByteArray.mk #[99, 121]), (ByteArray.mk #[100, 97, 110])] : List ByteArray).map (c_str))) _ rfl (.same _) rfl (.cons 8 _ (.hd 1 (l7.map (c_T_impl_RecoverEvent false)).length 0 (l7.map (c_T_impl_RecoverEvent false)).length) _ rfl (.same _) rfl (.cons 9 _ (.int .i64 (IntKind.i64.wrap (v8 + r29))) _ rfl (.same _) rfl (.cons 10 _ (.int .i64 v9) _ rfl (.same _) rfl (.cons 11 _ (.bx 2 0) _ rfl (.same _) rfl .nil)))))) (thn_normal ⟨o44, b38, rfl, rfl, H⟩)
        · rintro _ _ ⟨b39, b40, rfl, rfl, H⟩
          refine T.region ?_
          refine TL.st rfl rfl rfl (o_move rfl rfl) ?_
          refine TL.st rfl rfl rfl (o_loadBx rfl tyS_31 rfl rfl (Nat.le_of_ble_eq_true rfl) rfl) ?_
          refine TL.st rfl rfl rfl (o_sliceIm rfl rfl tyS_31 ⟨_, rfl, rfl⟩ (by decide) rfl rfl rfl rfl rfl rfl) ?_
          obtain ⟨l41, h42, H⟩ := bind_s H
          refine TL.st rfl rfl rfl (o_ap (f := c_T_impl_RecoverEvent false) (xs := l7) (ys := ([b40] : List T_impl_RecoverEvent)) rfl rfl tyE_31 rfl rfl rfl rfl (by decide) rfl (fun _ => rfl) h42) ?_
          refine TL.st rfl rfl rfl (o_assign rfl rfl) ?_
          refine TL.nil ?_
          refine inB_normal ?_
          refine thn_normal ?_
          refine T.region ?_
          refine TL.st rfl rfl rfl (o_move rfl rfl) ?_
          refine TL.st rfl rfl rfl (o_ari rfl rfl rfl rfl) ?_
          refine TL.st rfl rfl rfl (o_assign rfl rfl) ?_
          refine TL.nil ?_
          exact Pk.go (fr' := [(6, .bx 0 0), (7, .im false (([(ByteArray.mk #[98, 111, 98]), (ByteArray.mk #[99, 121]), (ByteArray.mk #[100, 97, 110])] : List ByteArray).map (c_str))), (8, .hd 1 (l41.map (c_T_impl_RecoverEvent false)).length 0 (l41.map (c_T_impl_RecoverEvent false)).length), (9, .int .i64 (IntKind.i64.wrap (v8 + r29))), (10, .int .i64 (IntKind.i64.wrap (v9 - 1)))]) (σ' := [.box (c_T_spec_l1Cur b0 b39), .arr .clo 3 (l41.map (c_T_impl_RecoverEvent false))]) _ rfl rfl ⟨(bels_iff.1 rfl), ⟨trivial, trivial⟩⟩ (.cons 6 _ (.bx 0 0) _ rfl (.same _) rfl (.cons 7 _ (.im false (([(ByteArray.mk #[98, 111, 98]), (ByteArray.mk #[99, 121]), (ByteArray.mk #[100, 97, 110])] : List ByteArray).map (c_str))) _ rfl (.same _) rfl (.cons 8 _ (.hd 1 (l41.map (c_T_impl_RecoverEvent false)).length 0 (l41.map (c_T_impl_RecoverEvent false)).length) _ rfl (.same _) rfl (.cons 9 _ (.int .i64 (IntKind.i64.wrap (v8 + r29))) _ rfl (.same _) rfl (.cons 10 _ (.int .i64 (IntKind.i64.wrap (v9 - 1))) _ rfl (.same _) rfl .nil))))) (thn_normal ⟨(b39, l41, (IntKind.i64.wrap (v8 + r29)), (IntKind.i64.wrap (v9 - 1))), (some_i H).symm, rfl, rfl⟩)
    · replace H := cond_f h H
      refine T.exit ?_
      refine thn_exit ?_
      exact Pk.go (fr' := [(6, .bx 0 0), (7, .im false (([(ByteArray.mk #[98, 111, 98]), (ByteArray.mk #[99, 121]), (ByteArray.mk #[100, 97, 110])] : List ByteArray).map (c_str))), (8, .hd 1 (l7.map (c_T_impl_RecoverEvent false)).length 0 (l7.map (c_T_impl_RecoverEvent false)).length)]) (σ' := [.box (c_T_spec_l1Cur b0 b6), .arr .clo 3 (l7.map (c_T_impl_RecoverEvent false))]) _ rfl rfl ⟨(bels_iff.1 rfl), ⟨trivial, trivial⟩⟩ (.cons 6 _ (.bx 0 0) _ rfl (.same _) rfl (.cons 7 _ (.im false (([(ByteArray.mk #[98, 111, 98]), (ByteArray.mk #[99, 121]), (ByteArray.mk #[100, 97, 110])] : List ByteArray).map (c_str))) _ rfl (.same _) rfl (.cons 8 _ (.hd 1 (l7.map (c_T_impl_RecoverEvent false)).length 0 (l7.map (c_T_impl_RecoverEvent false)).length) _ rfl (.same _) rfl .nil))) (thn_exit ⟨(b6, l7), (some_i H).symm, rfl, rfl, rfl⟩)
  · rintro ⟨b6, l7, v8, v9⟩ ⟨b6', l7', v8', v9'⟩; rfl
  · rintro ⟨b6, l7, v8, v9⟩; exact ⟨(bels_iff.1 rfl), ⟨trivial, trivial⟩⟩
  · rintro ⟨b6, l7, v8, v9⟩; exact (.cons _ _ _ rfl rfl (.cons _ _ _ rfl rfl (.cons _ _ _ rfl rfl (.cons _ _ _ rfl rfl (.cons _ _ _ rfl rfl .nil)))))
  · rcases q52 with ⟨b10, l11⟩
    rintro _ _ _ ⟨rfl, rfl, rfl⟩
    refine inB_here ?_
    refine thn_normal ?_
    refine T.cut (fun fr' σ' => ∃ (b12 : T_spec_l1Cur) (v13 : (List ByteArray)), fr' = [(6, .bx 0 0), (7, .im false (v13.map (c_str))), (8, .hd 1 (l11.map (c_T_impl_RecoverEvent false)).length 0 (l11.map (c_T_impl_RecoverEvent false)).length)] ∧ σ' = [.box (c_T_spec_l1Cur b0 b12), .arr .clo 3 (l11.map (c_T_impl_RecoverEvent false))] ∧ spec_DrawRunRecovery_j1 l11 b12 v13 = some (R0, R1, R2, R3)) (T.pk ?_) ?_
    · skip
      refine T.seq ?_
      refine T.region ?_
      refine TL.st rfl rfl rfl (o_move rfl rfl) ?_
      obtain ⟨⟨r25, o26⟩, h27, H⟩ := bind_s H
      refine TL.st rfl rfl rfl (o_callS [0] rfl en_22 rfl rfl (spec_l1Cur_one_p b0 h27) rfl (by decide) (.cons _ _ _ _ rfl .nil) rfl rfl rfl) ?_
      refine TL.nil ?_
      refine thn_normal ?_
      refine T.cond (r25) rfl (fun h => ?_) (fun h => ?_)
      · replace H := cond_t h H
        refine T.region ?_
        refine TL.st rfl rfl rfl (o_sliceIm rfl rfl tyS_9 ⟨_, rfl, rfl⟩ (by decide) rfl rfl rfl rfl rfl rfl) ?_
        refine TL.st rfl rfl rfl (o_assign rfl rfl) ?_
        refine TL.nil ?_
        exact Pk.go (fr' := [(6, .bx 0 0), (7, .im false (([(ByteArray.mk #[99, 121]), (ByteArray.mk #[98, 111, 98])] : List ByteArray).map (c_str))), (8, .hd 1 (l11.map (c_T_impl_RecoverEvent false)).length 0 (l11.map (c_T_impl_RecoverEvent false)).length)]) (σ' := [.box (c_T_spec_l1Cur b0 o26), .arr .clo 3 (l11.map (c_T_impl_RecoverEvent false))]) _ rfl rfl ⟨(bels_iff.1 rfl), ⟨trivial, trivial⟩⟩ (.cons 6 _ (.bx 0 0) _ rfl (.same _) rfl (.cons 7 _ (.im false (([(ByteArray.mk #[99, 121]), (ByteArray.mk #[98, 111, 98])] : List ByteArray).map (c_str))) _ rfl (.same _) rfl (.cons 8 _ (.hd 1 (l11.map (c_T_impl_RecoverEvent false)).length 0 (l11.map (c_T_impl_RecoverEvent false)).length) _ rfl (.same _) rfl .nil))) (thn_normal ⟨o26, ([(ByteArray.mk #[99, 121]), (ByteArray.mk #[98, 111, 98])] : List ByteArray), rfl, rfl, H⟩)
      · replace H := cond_f h H
        refine T.skip ?_
        exact Pk.go (fr' := [(6, .bx 0 0), (7, .im false (([(ByteArray.mk #[98, 111, 98]), (ByteArray.mk #[99, 121]), (ByteArray.mk #[100, 97, 110])] : List ByteArray).map (c_str))), (8, .hd 1 (l11.map (c_T_impl_RecoverEvent false)).length 0 (l11.map (c_T_impl_RecoverEvent false)).length)]) (σ' := [.box (c_T_spec_l1Cur b0 o26), .arr .clo 3 (l11.map (c_T_impl_RecoverEvent false))]) _ rfl rfl ⟨(bels_iff.1 rfl), ⟨trivial, trivial⟩⟩ (.cons 6 _ (.bx 0 0) _ rfl (.same _) rfl (.cons 7 _ (.im false (([(ByteArray.mk #[98, 111, 98]), (ByteArray.mk #[99, 121]), (ByteArray.mk #[100, 97, 110])] : List ByteArray).map (c_str))) _ rfl (.same _) rfl (.cons 8 _ (.hd 1 (l11.map (c_T_impl_RecoverEvent false)).length 0 (l11.map (c_T_impl_RecoverEvent false)).length) _ rfl (.same _) rfl .nil))) (thn_normal ⟨o26, ([(ByteArray.mk #[98, 111, 98]), (ByteArray.mk #[99, 121]), (ByteArray.mk #[100, 97, 110])] : List ByteArray), rfl, rfl, H⟩)
    · rintro _ _ ⟨b12, v13, rfl, rfl, H⟩
      refine T.seq ?_
      refine T.drawn rfl ?_
      refine TD.qs rfl rfl (fun _ => o_move rfl rfl) ?_
      obtain ⟨⟨r14, o15⟩, h16, H⟩ := bind_s H
      refine TD.as rfl rfl (o_callS [0] rfl en_20 rfl rfl (spec_l1Cur_pick_p b0 h16) rfl (by decide) (.cons _ _ _ _ rfl .nil) rfl rfl rfl) ?_
      refine TD.qs rfl rfl (fun _ => o_ari rfl rfl rfl rfl) ?_
      refine TD.qs rfl rfl (fun _ => o_sliceIm rfl rfl tyS_3 ⟨_, rfl, rfl⟩ (by decide) rfl rfl rfl rfl rfl rfl) ?_
      refine TD.qs rfl rfl (fun _ => o_move rfl rfl) ?_
      obtain ⟨⟨r17, o18⟩, h19, H⟩ := bind_s H
      refine TD.as rfl rfl (o_callS [0] rfl en_24 rfl rfl (spec_l1Cur_rare_p b0 h19) rfl (by decide) (.cons _ _ _ _ rfl .nil) rfl rfl rfl) ?_
      obtain ⟨e20, h21, H⟩ := bind_s H
      refine TD.qs rfl rfl (fun _ => o_ix (f := c_int .i64) rfl rfl tyS_3 rfl rfl h21 rfl) ?_
      refine TD.qs rfl rfl (fun _ => o_loadRf rfl tyS_3 rfl (Nat.le_of_ble_eq_true rfl) rfl) ?_
      refine TD.qs rfl rfl (fun _ => o_move rfl rfl) ?_
      obtain ⟨⟨r22, o23⟩, h24, H⟩ := bind_s H
      refine TD.as rfl rfl (o_callS [0] rfl en_20 rfl rfl (spec_l1Cur_pick_p b0 h24) rfl (by decide) (.cons _ _ _ _ rfl .nil) rfl rfl rfl) ?_
      refine TD.qs rfl rfl (fun _ => o_move rfl rfl) ?_
      refine TD.qs rfl rfl (fun _ => o_move rfl rfl) ?_
      refine TD.qs rfl rfl (fun _ => o_assign rfl rfl) ?_
      refine TD.qs rfl rfl (fun _ => o_assign rfl rfl) ?_
      refine TD.qs rfl rfl (fun _ => o_assign rfl rfl) ?_
      refine TD.qs rfl rfl (fun _ => o_assign rfl rfl) ?_
      refine TD.nil ⟨rfl, ?_⟩
      refine thn_normal ?_
      refine T.ret ?_
      cases some_i H
      exact ⟨trivial, _, (.tmp _ _ _ _ rfl (.tmp _ _ _ _ rfl (.tmp _ _ _ _ rfl (.tmp _ _ _ _ rfl .nil)))), (.tupL (.cons _ _ _ _ (.cl _ rfl) (.cons _ _ _ _ (.cl _ rfl) (.cons _ _ _ _ (.cl _ rfl) (.cons _ _ _ _ (.own rfl (by decide) rfl) .nil)))))⟩
theorem en_5 (us : Array Value) (w : World) : (callFunc 5 us).run Go.Proofs.Try.prog w = .ok (.enter 5 us) w := enters Go.Proofs.Try.func5 rfl rfl us w
theorem tyS_23 : TyS Go.Proofs.Try.prog 23 false 1 := ⟨rfl, rfl⟩
noncomputable def impl_yrising_l1 (a0 : (List ByteArray)) : Int → Option (Int ⊕ (Unit ⊕ Bool)) := fun s => match s with
  | v1 => cond (decide (v1 < (a0.length : Int))) ((idx a0 v1).bind fun e4 => (gdO (decide (v1 > 0)) (idx a0 (IntKind.i64.wrap (v1 - 1)))).bind fun e6 => cond (decide (v1 > 0) && (!(Op.bytesLess e6.toList e4.toList))) (some (.inr (.inr false))) (some (.inl (IntKind.i64.wrap (v1 + 1))))) (some (.inr (.inl ())))
noncomputable def impl_yrising (a0 : (List ByteArray)) : Option Bool :=
  (loopO (impl_yrising_l1 a0) 0).bind fun q8 => (match q8 with | .inl _ => some true | .inr q2 => some q2)
theorem impl_yrising_p (b0 : Bool) {a0 : (List ByteArray)} {R0 : Bool} (H : impl_yrising a0 = some R0) : Pure Go.Proofs.Try.prog 25 [.im b0 (a0.map (c_str))] (.bool R0) := by
  refine CallT.of_TN (n := 24) Go.Proofs.Try.func25 rfl rfl rfl rfl ?_
  refine T.seq ?_
  refine T.region ?_
  refine TL.st rfl rfl rfl (o_assign rfl rfl) ?_
  refine TL.nil ?_
  refine thn_normal ?_
  refine T.seq ?_
  refine T.seq ?_
  refine T.region ?_
  refine TL.st rfl rfl rfl (o_move rfl rfl) ?_
  refine TL.st rfl rfl rfl (o_lenL (f := c_str) rfl rfl rfl) ?_
  refine TL.st rfl rfl rfl (o_move rfl rfl) ?_
  refine TL.nil ?_
  refine thn_normal ?_
  refine T.block ?_
  obtain ⟨q8, h9, H⟩ := bind_s H
  refine T.to (.cons 0 _ (.im b0 (a0.map (c_str))) _ rfl (.same _) rfl (.cons 5 _ (.im b0 (a0.map (c_str))) _ rfl (.same _) rfl (.cons 6 _ (.int .i64 (a0.length : Int)) _ rfl (.same _) rfl (.cons 7 _ (.int .i64 0) _ rfl (.same _) rfl .nil)))) ?_
  refine T.lp (fun s => match s with | v1 => [(0, .im b0 (a0.map (c_str))), (5, .im b0 (a0.map (c_str))), (6, .int .i64 (a0.length : Int)), (7, .int .i64 v1)]) (fun s => match s with | v1 => []) (fun q ex fr σ => match q with | .inl _ => ex = .exit 0 ∧ fr = [] ∧ σ = [] | .inr q2 => ex = .ret ∧ RetN Go.Proofs.Try.prog [.tmp 2] (fun v τ => Told τ v (.bool q2)) .ret fr σ) h9 ?_ ?_ ?_ ?_ ?_
  · rintro v1 y3 H
    refine T.seq ?_
    refine T.region ?_
    refine TL.st rfl rfl rfl (o_ari rfl rfl rfl rfl) ?_
    refine TL.nil ?_
    refine thn_normal ?_
    refine T.seq ?_
    refine T.cond (decide (v1 < (a0.length : Int))) rfl (fun h => ?_) (fun h => ?_)
    · replace H := cond_t h H
      refine T.skip ?_
      refine thn_normal ?_
      refine T.seq ?_
      refine T.block ?_
      refine T.seq ?_
      refine T.region ?_
      refine TL.st rfl rfl rfl (o_move rfl rfl) ?_
      obtain ⟨e4, h5, H⟩ := bind_s H
      refine TL.st rfl rfl rfl (o_ix (f := c_str) rfl rfl tyS_9 rfl rfl h5 rfl) ?_
      refine TL.st rfl rfl rfl (o_loadRf rfl tyS_9 rfl (Nat.le_of_ble_eq_true rfl) rfl) ?_
      refine TL.st rfl rfl rfl (o_assign rfl rfl) ?_
      refine TL.st rfl rfl rfl (o_assign rfl rfl) ?_
      refine TL.nil ?_
      refine thn_normal ?_
      refine T.seq ?_
      refine T.region ?_
      refine TL.st rfl rfl rfl (o_move rfl rfl) ?_
      refine TL.st rfl rfl rfl (o_ari rfl rfl rfl rfl) ?_
      refine TL.st rfl rfl rfl (o_move rfl rfl) ?_
      refine TL.gcq rfl rfl rfl (.bool _) rfl rfl (fun h => o_move rfl rfl) ?_
      refine TL.gcq rfl rfl rfl (.bool _) rfl rfl (fun h => o_move rfl rfl) ?_
      refine TL.gcq rfl rfl rfl (.bool _) rfl rfl (fun h => o_ari rfl (gv h rfl) rfl rfl) ?_
      obtain ⟨e6, h7, H⟩ := bind_s H
      refine TL.gcq rfl rfl rfl (.bool _) rfl rfl (fun h => o_ix (f := c_str) rfl rfl tyS_9 (gv h rfl) (gv h rfl) (gdO_t h7 h) rfl) ?_
      refine TL.gcq rfl rfl rfl (.bool _) rfl rfl (fun h => o_loadRf rfl tyS_9 (gv h rfl) (Nat.le_of_ble_eq_true rfl) rfl) ?_
      refine TL.gcq rfl rfl rfl (.bool _) rfl rfl (fun h => o_move rfl rfl) ?_
      refine TL.gcq rfl rfl rfl (.bool _) rfl rfl (fun h => o_str rfl (gv h rfl) (gv h rfl) rfl) ?_
      refine TL.st rfl rfl rfl (o_and rfl rfl rfl (fun k => Gd_t k) rfl) ?_
      refine TL.nil ?_
      refine thn_normal ?_
      refine T.cond ((decide (v1 > 0) && (!(Op.bytesLess e6.toList e4.toList)))) rfl (fun h => ?_) (fun h => ?_)
      · replace H := cond_t h H
        refine T.seq ?_
        refine T.region ?_
        refine TL.st rfl rfl rfl (o_assign rfl rfl) ?_
        refine TL.nil ?_
        refine thn_normal ?_
        refine T.ret ?_
        refine inB_ret ?_
        refine thn_ret ?_
        exact Pk.id (thn_ret ⟨.inr false, (some_i H).symm, rfl, ⟨trivial, _, (.tmp _ _ _ _ rfl .nil), (.cl _ rfl)⟩⟩)
      · replace H := cond_f h H
        refine T.skip ?_
        refine inB_normal ?_
        refine thn_normal ?_
        refine T.region ?_
        refine TL.st rfl rfl rfl (o_ari rfl rfl rfl rfl) ?_
        refine TL.st rfl rfl rfl (o_move rfl rfl) ?_
        refine TL.nil ?_
        exact Pk.go (fr' := [(0, .im b0 (a0.map (c_str))), (5, .im b0 (a0.map (c_str))), (6, .int .i64 (a0.length : Int)), (7, .int .i64 (IntKind.i64.wrap (v1 + 1)))]) (σ' := []) _ rfl rfl trivial (.cons 0 _ (.im b0 (a0.map (c_str))) _ rfl (.same _) rfl (.cons 5 _ (.im b0 (a0.map (c_str))) _ rfl (.same _) rfl (.cons 6 _ (.int .i64 (a0.length : Int)) _ rfl (.same _) rfl (.cons 7 _ (.int .i64 (IntKind.i64.wrap (v1 + 1))) _ rfl (.same _) rfl .nil)))) (thn_normal ⟨(IntKind.i64.wrap (v1 + 1)), (some_i H).symm, rfl, rfl⟩)
    · replace H := cond_f h H
      refine T.exit ?_
      refine thn_exit ?_
      exact Pk.go (fr' := []) (σ' := []) _ rfl rfl trivial .nil (thn_exit ⟨.inl (), (some_i H).symm, rfl, rfl, rfl⟩)
  · rintro v1 v1'; rfl
  · rintro v1; exact trivial
  · rintro v1; exact (.cons _ _ _ rfl rfl (.cons _ _ _ rfl rfl (.cons _ _ _ rfl rfl (.cons _ _ _ rfl rfl .nil))))
  · rcases q8 with ⟨⟩ | q2
    · rintro _ _ _ ⟨rfl, rfl, rfl⟩
      refine inB_here ?_
      refine thn_normal ?_
      refine T.seq ?_
      refine T.region ?_
      refine TL.st rfl rfl rfl (o_assign rfl rfl) ?_
      refine TL.nil ?_
      refine thn_normal ?_
      refine T.ret ?_
      cases some_i H
      exact ⟨trivial, _, (.tmp _ _ _ _ rfl .nil), (.cl _ rfl)⟩
    · rintro _ fr1 σ1 ⟨rfl, hr⟩
      refine inB_ret ?_
      refine thn_ret ?_
      cases some_i H
      exact hr
theorem en_25 (us : Array Value) (w : World) : (callFunc 25 us).run Go.Proofs.Try.prog w = .ok (.enter 25 us) w := enters Go.Proofs.Try.func25 rfl rfl us w
noncomputable def impl_ydigit (a0 : Int) : Option Bool :=
  some (decide (a0 ≥ 48) && decide (a0 ≤ 57))
theorem impl_ydigit_p  {a0 : Int} {R0 : Bool} (H : impl_ydigit a0 = some R0) : Pure Go.Proofs.Try.prog 46 [.int .u8 a0] (.bool R0) := by
  refine CallT.of_TN (n := 9) Go.Proofs.Try.func46 rfl rfl rfl rfl ?_
  refine T.seq ?_
  refine T.region ?_
  refine TL.st rfl rfl rfl (o_assign rfl rfl) ?_
  refine TL.nil ?_
  refine thn_normal ?_
  refine T.seq ?_
  refine T.region ?_
  refine TL.st rfl rfl rfl (o_move rfl rfl) ?_
  refine TL.st rfl rfl rfl (o_ari rfl rfl rfl rfl) ?_
  refine TL.st rfl rfl rfl (o_move rfl rfl) ?_
  refine TL.gcq rfl rfl rfl (.bool _) rfl rfl (fun h => o_move rfl rfl) ?_
  refine TL.gcq rfl rfl rfl (.bool _) rfl rfl (fun h => o_ari rfl (gv h rfl) rfl rfl) ?_
  refine TL.st rfl rfl rfl (o_and rfl rfl rfl (fun k => Gd_t k) rfl) ?_
  refine TL.st rfl rfl rfl (o_assign rfl rfl) ?_
  refine TL.nil ?_
  refine thn_normal ?_
  refine T.ret ?_
  cases some_i H
  exact ⟨trivial, _, (.tmp _ _ _ _ rfl .nil), (.cl _ rfl)⟩
theorem en_46 (us : Array Value) (w : World) : (callFunc 46 us).run Go.Proofs.Try.prog w = .ok (.enter 46 us) w := enters Go.Proofs.Try.func46 rfl rfl us w
noncomputable def impl_yletter (a0 : Int) : Option Bool :=
  some ((decide (a0 ≥ 97) && decide (a0 ≤ 122)) || (decide (a0 ≥ 65) && decide (a0 ≤ 90)))
theorem impl_yletter_p  {a0 : Int} {R0 : Bool} (H : impl_yletter a0 = some R0) : Pure Go.Proofs.Try.prog 49 [.int .u8 a0] (.bool R0) := by
  refine CallT.of_TN (n := 17) Go.Proofs.Try.func49 rfl rfl rfl rfl ?_
  refine T.seq ?_
  refine T.region ?_
  refine TL.st rfl rfl rfl (o_assign rfl rfl) ?_
  refine TL.nil ?_
  refine thn_normal ?_
  refine T.seq ?_
  refine T.region ?_
  refine TL.st rfl rfl rfl (o_move rfl rfl) ?_
  refine TL.st rfl rfl rfl (o_ari rfl rfl rfl rfl) ?_
  refine TL.st rfl rfl rfl (o_move rfl rfl) ?_
  refine TL.gcq rfl rfl rfl (.bool _) rfl rfl (fun h => o_move rfl rfl) ?_
  refine TL.gcq rfl rfl rfl (.bool _) rfl rfl (fun h => o_ari rfl (gv h rfl) rfl rfl) ?_
  refine TL.st rfl rfl rfl (o_and rfl rfl rfl (fun k => Gd_t k) rfl) ?_
  refine TL.st rfl rfl rfl (o_move rfl rfl) ?_
  refine TL.gcq rfl rfl rfl (.bool _) rfl rfl (fun h => o_move rfl rfl) ?_
  refine TL.gcq rfl rfl rfl (.bool _) rfl rfl (fun h => o_ari rfl (gv h rfl) rfl rfl) ?_
  refine TL.gcq rfl rfl rfl (.bool _) rfl rfl (fun h => o_move rfl (gv h rfl)) ?_
  refine TL.gcq rfl rfl rfl (.gd _ _) rfl rfl (fun h => o_move rfl rfl) ?_
  refine TL.gcq rfl rfl rfl (.gd _ _) rfl rfl (fun h => o_ari rfl (gv h rfl) rfl rfl) ?_
  refine TL.gcq rfl rfl rfl (.bool _) rfl rfl (fun h => o_and rfl (gv h rfl) rfl (fun k => Gd_t (andi h k)) rfl) ?_
  refine TL.st rfl rfl rfl (o_or rfl rfl rfl rfl (fun k => Gd_t k)) ?_
  refine TL.st rfl rfl rfl (o_assign rfl rfl) ?_
  refine TL.nil ?_
  refine thn_normal ?_
  refine T.ret ?_
  cases some_i H
  exact ⟨trivial, _, (.tmp _ _ _ _ rfl .nil), (.cl _ rfl)⟩
theorem en_49 (us : Array Value) (w : World) : (callFunc 49 us).run Go.Proofs.Try.prog w = .ok (.enter 49 us) w := enters Go.Proofs.Try.func49 rfl rfl us w
noncomputable def impl_ywordByte (a0 : Int) : Option Bool :=
  (impl_yletter a0).bind fun r1 => (gdO (!r1) (impl_ydigit a0)).bind fun r3 => some ((r1 || r3) || (a0 == 95))
theorem impl_ywordByte_p  {a0 : Int} {R0 : Bool} (H : impl_ywordByte a0 = some R0) : Pure Go.Proofs.Try.prog 47 [.int .u8 a0] (.bool R0) := by
  refine CallT.of_TN (n := 13) Go.Proofs.Try.func47 rfl rfl rfl rfl ?_
  refine T.seq ?_
  refine T.region ?_
  refine TL.st rfl rfl rfl (o_assign rfl rfl) ?_
  refine TL.nil ?_
  refine thn_normal ?_
  refine T.seq ?_
  refine T.region ?_
  refine TL.st rfl rfl rfl (o_move rfl rfl) ?_
  obtain ⟨r1, h2, H⟩ := bind_s H
  refine TL.st rfl rfl rfl (o_callP rfl en_49 rfl rfl (.cons _ _ _ _ (.cl _ rfl) .nil) (impl_yletter_p  h2)) ?_
  refine TL.st rfl rfl rfl (o_move rfl rfl) ?_
  refine TL.gcq rfl rfl rfl (.bool _) rfl rfl (fun h => o_move rfl rfl) ?_
  obtain ⟨r3, h4, H⟩ := bind_s H
  refine TL.gcq rfl rfl rfl (.bool _) rfl rfl (fun h => o_callP rfl en_46 rfl (evl_1 (gv h rfl)) (.cons _ _ _ _ (.cl _ rfl) .nil) (impl_ydigit_p  (gdO_t h4 h))) ?_
  refine TL.st rfl rfl rfl (o_or rfl rfl rfl rfl (fun k => Gd_t k)) ?_
  refine TL.st rfl rfl rfl (o_move rfl rfl) ?_
  refine TL.gcq rfl rfl rfl (.bool _) rfl rfl (fun h => o_move rfl rfl) ?_
  refine TL.gcq rfl rfl rfl (.bool _) rfl rfl (fun h => o_ari rfl (gv h rfl) rfl rfl) ?_
  refine TL.st rfl rfl rfl (o_or rfl rfl rfl rfl (fun k => Gd_t k)) ?_
  refine TL.st rfl rfl rfl (o_assign rfl rfl) ?_
  refine TL.nil ?_
  refine thn_normal ?_
  refine T.ret ?_
  cases some_i H
  exact ⟨trivial, _, (.tmp _ _ _ _ rfl .nil), (.cl _ rfl)⟩
theorem en_47 (us : Array Value) (w : World) : (callFunc 47 us).run Go.Proofs.Try.prog w = .ok (.enter 47 us) w := enters Go.Proofs.Try.func47 rfl rfl us w
noncomputable def impl_GoodName_l1 (a0 : ByteArray) : Int → Option (Int ⊕ (Unit ⊕ Bool)) := fun s => match s with
  | v5 => cond (decide (v5 < (a0.size : Int))) ((idxS a0 v5).bind fun b8 => (impl_ywordByte b8).bind fun r10 => cond (!r10) (some (.inr (.inr false))) (some (.inl (IntKind.i64.wrap (v5 + 1))))) (some (.inr (.inl ())))
noncomputable def impl_GoodName (a0 : ByteArray) : Option Bool :=
  (gdO (!((a0.toList == (ByteArray.mk #[]).toList) || decide ((a0.size : Int) > 30))) (idxS a0 0)).bind fun b1 => (gdO (!((a0.toList == (ByteArray.mk #[]).toList) || decide ((a0.size : Int) > 30))) (impl_ydigit b1)).bind fun r3 => cond (((a0.toList == (ByteArray.mk #[]).toList) || decide ((a0.size : Int) > 30)) || r3) (some false) ((loopO (impl_GoodName_l1 a0) 0).bind fun q12 => (match q12 with | .inl _ => some true | .inr q6 => some q6))
theorem impl_GoodName_p  {a0 : ByteArray} {R0 : Bool} (H : impl_GoodName a0 = some R0) : Pure Go.Proofs.Try.prog 39 [.str a0] (.bool R0) := by
  refine CallT.of_TN (n := 27) Go.Proofs.Try.func39 rfl rfl rfl rfl ?_
  refine T.seq ?_
  refine T.region ?_
  refine TL.st rfl rfl rfl (o_assign rfl rfl) ?_
  refine TL.nil ?_
  refine thn_normal ?_
  refine T.seq ?_
  refine T.seq ?_
  refine T.region ?_
  refine TL.st rfl rfl rfl (o_move rfl rfl) ?_
  refine TL.st rfl rfl rfl (o_str rfl rfl rfl rfl) ?_
  refine TL.st rfl rfl rfl (o_move rfl rfl) ?_
  refine TL.gcq rfl rfl rfl (.bool _) rfl rfl (fun h => o_move rfl rfl) ?_
  refine TL.gcq rfl rfl rfl (.bool _) rfl rfl (fun h => o_lenS rfl rfl (gv h rfl)) ?_
  refine TL.gcq rfl rfl rfl (.bool _) rfl rfl (fun h => o_ari rfl (gv h rfl) rfl rfl) ?_
  refine TL.st rfl rfl rfl (o_or rfl rfl rfl rfl (fun k => Gd_t k)) ?_
  refine TL.st rfl rfl rfl (o_move rfl rfl) ?_
  refine TL.gcq rfl rfl rfl (.bool _) rfl rfl (fun h => o_move rfl rfl) ?_
  obtain ⟨b1, h2, H⟩ := bind_s H
  refine TL.gcq rfl rfl rfl (.bool _) rfl rfl (fun h => o_ixs rfl rfl (gv h rfl) rfl (gdO_t h2 h)) ?_
  obtain ⟨r3, h4, H⟩ := bind_s H
  refine TL.gcq rfl rfl rfl (.bool _) rfl rfl (fun h => o_callP rfl en_46 rfl (evl_1 (gv h rfl)) (.cons _ _ _ _ (.cl _ rfl) .nil) (impl_ydigit_p  (gdO_t h4 h))) ?_
  refine TL.st rfl rfl rfl (o_or rfl rfl rfl rfl (fun k => Gd_t k)) ?_
  refine TL.nil ?_
  refine thn_normal ?_
  refine T.cond ((((a0.toList == (ByteArray.mk #[]).toList) || decide ((a0.size : Int) > 30)) || r3)) rfl (fun h => ?_) (fun h => ?_)
  · replace H := cond_t h H
    refine T.seq ?_
    refine T.region ?_
    refine TL.st rfl rfl rfl (o_assign rfl rfl) ?_
    refine TL.nil ?_
    refine thn_normal ?_
    refine T.ret ?_
    refine thn_ret ?_
    cases some_i H
    exact ⟨trivial, _, (.tmp _ _ _ _ rfl .nil), (.cl _ rfl)⟩
  · replace H := cond_f h H
    refine T.skip ?_
    refine thn_normal ?_
    refine T.seq ?_
    refine T.seq ?_
    refine T.region ?_
    refine TL.st rfl rfl rfl (o_move rfl rfl) ?_
    refine TL.st rfl rfl rfl (o_lenS rfl rfl rfl) ?_
    refine TL.st rfl rfl rfl (o_move rfl rfl) ?_
    refine TL.nil ?_
    refine thn_normal ?_
    refine T.block ?_
    obtain ⟨q12, h13, H⟩ := bind_s H
    refine T.to (.cons 0 _ (.str a0) _ rfl (.same _) rfl (.cons 17 _ (.int .i64 (a0.size : Int)) _ rfl (.same _) rfl (.cons 18 _ (.int .i64 0) _ rfl (.same _) rfl .nil))) ?_
    refine T.lp (fun s => match s with | v5 => [(0, .str a0), (17, .int .i64 (a0.size : Int)), (18, .int .i64 v5)]) (fun s => match s with | v5 => []) (fun q ex fr σ => match q with | .inl _ => ex = .exit 0 ∧ fr = [] ∧ σ = [] | .inr q6 => ex = .ret ∧ RetN Go.Proofs.Try.prog [.tmp 2] (fun v τ => Told τ v (.bool q6)) .ret fr σ) h13 ?_ ?_ ?_ ?_ ?_
    · rintro v5 y7 H
      refine T.seq ?_
      refine T.region ?_
      refine TL.st rfl rfl rfl (o_ari rfl rfl rfl rfl) ?_
      refine TL.nil ?_
      refine thn_normal ?_
      refine T.seq ?_
      refine T.cond (decide (v5 < (a0.size : Int))) rfl (fun h => ?_) (fun h => ?_)
      · replace H := cond_t h H
        refine T.skip ?_
        refine thn_normal ?_
        refine T.seq ?_
        refine T.block ?_
        refine T.seq ?_
        refine T.region ?_
        refine TL.st rfl rfl rfl (o_move rfl rfl) ?_
        refine TL.st rfl rfl rfl (o_assign rfl rfl) ?_
        refine TL.nil ?_
        refine thn_normal ?_
        refine T.seq ?_
        refine T.region ?_
        refine TL.st rfl rfl rfl (o_move rfl rfl) ?_
        refine TL.st rfl rfl rfl (o_move rfl rfl) ?_
        obtain ⟨b8, h9, H⟩ := bind_s H
        refine TL.st rfl rfl rfl (o_ixs rfl rfl rfl rfl h9) ?_
        obtain ⟨r10, h11, H⟩ := bind_s H
        refine TL.st rfl rfl rfl (o_callP rfl en_47 rfl rfl (.cons _ _ _ _ (.cl _ rfl) .nil) (impl_ywordByte_p  h11)) ?_
        refine TL.st rfl rfl rfl (o_not rfl rfl) ?_
        refine TL.nil ?_
        refine thn_normal ?_
        refine T.cond ((!r10)) rfl (fun h => ?_) (fun h => ?_)
        · replace H := cond_t h H
          refine T.seq ?_
          refine T.region ?_
          refine TL.st rfl rfl rfl (o_assign rfl rfl) ?_
          refine TL.nil ?_
          refine thn_normal ?_
          refine T.ret ?_
          refine inB_ret ?_
          refine thn_ret ?_
          exact Pk.id (thn_ret ⟨.inr false, (some_i H).symm, rfl, ⟨trivial, _, (.tmp _ _ _ _ rfl .nil), (.cl _ rfl)⟩⟩)
        · replace H := cond_f h H
          refine T.skip ?_
          refine inB_normal ?_
          refine thn_normal ?_
          refine T.region ?_
          refine TL.st rfl rfl rfl (o_ari rfl rfl rfl rfl) ?_
          refine TL.st rfl rfl rfl (o_move rfl rfl) ?_
          refine TL.nil ?_
          exact Pk.go (fr' := [(0, .str a0), (17, .int .i64 (a0.size : Int)), (18, .int .i64 (IntKind.i64.wrap (v5 + 1)))]) (σ' := []) _ rfl rfl trivial (.cons 0 _ (.str a0) _ rfl (.same _) rfl (.cons 17 _ (.int .i64 (a0.size : Int)) _ rfl (.same _) rfl (.cons 18 _ (.int .i64 (IntKind.i64.wrap (v5 + 1))) _ rfl (.same _) rfl .nil))) (thn_normal ⟨(IntKind.i64.wrap (v5 + 1)), (some_i H).symm, rfl, rfl⟩)
      · replace H := cond_f h H
        refine T.exit ?_
        refine thn_exit ?_
        exact Pk.go (fr' := []) (σ' := []) _ rfl rfl trivial .nil (thn_exit ⟨.inl (), (some_i H).symm, rfl, rfl, rfl⟩)
    · rintro v5 v5'; rfl
    · rintro v5; exact trivial
    · rintro v5; exact (.cons _ _ _ rfl rfl (.cons _ _ _ rfl rfl (.cons _ _ _ rfl rfl .nil)))
    · rcases q12 with ⟨⟩ | q6
      · rintro _ _ _ ⟨rfl, rfl, rfl⟩
        refine inB_here ?_
        refine thn_normal ?_
        refine T.seq ?_
        refine T.region ?_
        refine TL.st rfl rfl rfl (o_assign rfl rfl) ?_
        refine TL.nil ?_
        refine thn_normal ?_
        refine T.ret ?_
        cases some_i H
        exact ⟨trivial, _, (.tmp _ _ _ _ rfl .nil), (.cl _ rfl)⟩
      · rintro _ fr1 σ1 ⟨rfl, hr⟩
        refine inB_ret ?_
        refine thn_ret ?_
        cases some_i H
        exact hr
theorem en_39 (us : Array Value) (w : World) : (callFunc 39 us).run Go.Proofs.Try.prog w = .ok (.enter 39 us) w := enters Go.Proofs.Try.func39 rfl rfl us w
noncomputable def impl_yallNames_1 (a0 : ByteArray) : Option Bool :=
  (impl_GoodName a0).bind fun r1 => some (!r1)
theorem impl_yallNames_1_p  {a0 : ByteArray} {R0 : Bool} (H : impl_yallNames_1 a0 = some R0) : Pure Go.Proofs.Try.prog 38 [.str a0] (.bool R0) := by
  refine CallT.of_TN (n := 6) Go.Proofs.Try.func38 rfl rfl rfl rfl ?_
  refine T.seq ?_
  refine T.region ?_
  refine TL.st rfl rfl rfl (o_assign rfl rfl) ?_
  refine TL.nil ?_
  refine thn_normal ?_
  refine T.seq ?_
  refine T.region ?_
  refine TL.st rfl rfl rfl (o_move rfl rfl) ?_
  obtain ⟨r1, h2, H⟩ := bind_s H
  refine TL.st rfl rfl rfl (o_callP rfl en_39 rfl rfl (.cons _ _ _ _ (.cl _ rfl) .nil) (impl_GoodName_p  h2)) ?_
  refine TL.st rfl rfl rfl (o_not rfl rfl) ?_
  refine TL.st rfl rfl rfl (o_assign rfl rfl) ?_
  refine TL.nil ?_
  refine thn_normal ?_
  refine T.ret ?_
  cases some_i H
  exact ⟨trivial, _, (.tmp _ _ _ _ rfl .nil), (.cl _ rfl)⟩
theorem en_38 (us : Array Value) (w : World) : (callFunc 38 us).run Go.Proofs.Try.prog w = .ok (.enter 38 us) w := enters Go.Proofs.Try.func38 rfl rfl us w
noncomputable def slices_IndexFunc_l1 (a0 : (List ByteArray)) : Int → Option (Int ⊕ (Unit ⊕ Int)) := fun s => match s with
  | v1 => cond (decide (v1 < (a0.length : Int))) ((idx a0 v1).bind fun e4 => (impl_yallNames_1 e4).bind fun r6 => cond r6 (some (.inr (.inr v1))) (some (.inl (IntKind.i64.wrap (v1 + 1))))) (some (.inr (.inl ())))
noncomputable def slices_IndexFunc (a0 : (List ByteArray)) : Option Int :=
  (loopO (slices_IndexFunc_l1 a0) 0).bind fun q8 => (match q8 with | .inl _ => some (-1) | .inr q2 => some q2)
theorem slices_IndexFunc_p (b0 : Bool) {a0 : (List ByteArray)} {R0 : Int} (H : slices_IndexFunc a0 = some R0) : Pure Go.Proofs.Try.prog 45 [.im b0 (a0.map (c_str)), .fn 38 [] []] (.int .i64 R0) := by
  refine CallT.of_TN (n := 19) Go.Proofs.Try.func45 rfl rfl rfl rfl ?_
  refine T.seq ?_
  refine T.region ?_
  refine TL.st rfl rfl rfl (o_assign rfl rfl) ?_
  refine TL.nil ?_
  refine thn_normal ?_
  refine T.seq ?_
  refine T.seq ?_
  refine T.region ?_
  refine TL.st rfl rfl rfl (o_move rfl rfl) ?_
  refine TL.st rfl rfl rfl (o_lenL (f := c_str) rfl rfl rfl) ?_
  refine TL.st rfl rfl rfl (o_move rfl rfl) ?_
  refine TL.nil ?_
  refine thn_normal ?_
  refine T.block ?_
  obtain ⟨q8, h9, H⟩ := bind_s H
  refine T.to (.cons 0 _ (.im b0 (a0.map (c_str))) _ rfl (.same _) rfl (.cons 1 _ (.fn 38 [] []) _ rfl (.same _) rfl (.cons 7 _ (.int .i64 (a0.length : Int)) _ rfl (.same _) rfl (.cons 8 _ (.int .i64 0) _ rfl (.same _) rfl .nil)))) ?_
  refine T.lp (fun s => match s with | v1 => [(0, .im b0 (a0.map (c_str))), (1, .fn 38 [] []), (7, .int .i64 (a0.length : Int)), (8, .int .i64 v1)]) (fun s => match s with | v1 => []) (fun q ex fr σ => match q with | .inl _ => ex = .exit 0 ∧ fr = [] ∧ σ = [] | .inr q2 => ex = .ret ∧ RetN Go.Proofs.Try.prog [.tmp 4] (fun v τ => Told τ v (.int .i64 q2)) .ret fr σ) h9 ?_ ?_ ?_ ?_ ?_
  · rintro v1 y3 H
    refine T.seq ?_
    refine T.region ?_
    refine TL.st rfl rfl rfl (o_ari rfl rfl rfl rfl) ?_
    refine TL.nil ?_
    refine thn_normal ?_
    refine T.seq ?_
    refine T.cond (decide (v1 < (a0.length : Int))) rfl (fun h => ?_) (fun h => ?_)
    · replace H := cond_t h H
      refine T.skip ?_
      refine thn_normal ?_
      refine T.seq ?_
      refine T.block ?_
      refine T.seq ?_
      refine T.region ?_
      refine TL.st rfl rfl rfl (o_move rfl rfl) ?_
      refine TL.st rfl rfl rfl (o_assign rfl rfl) ?_
      refine TL.nil ?_
      refine thn_normal ?_
      refine T.seq ?_
      refine T.region ?_
      refine TL.st rfl rfl rfl (o_move rfl rfl) ?_
      refine TL.st rfl rfl rfl (o_move rfl rfl) ?_
      refine TL.st rfl rfl rfl (o_move rfl rfl) ?_
      obtain ⟨e4, h5, H⟩ := bind_s H
      refine TL.st rfl rfl rfl (o_ix (f := c_str) rfl rfl tyS_9 rfl rfl h5 rfl) ?_
      refine TL.st rfl rfl rfl (o_loadRf rfl tyS_9 rfl (Nat.le_of_ble_eq_true rfl) rfl) ?_
      obtain ⟨r6, h7, H⟩ := bind_s H
      refine TL.st rfl rfl rfl (o_callP rfl en_38 rfl rfl (.cons _ _ _ _ (.cl _ rfl) .nil) (impl_yallNames_1_p  h7)) ?_
      refine TL.nil ?_
      refine thn_normal ?_
      refine T.cond (r6) rfl (fun h => ?_) (fun h => ?_)
      · replace H := cond_t h H
        refine T.seq ?_
        refine T.region ?_
        refine TL.st rfl rfl rfl (o_move rfl rfl) ?_
        refine TL.st rfl rfl rfl (o_assign rfl rfl) ?_
        refine TL.nil ?_
        refine thn_normal ?_
        refine T.ret ?_
        refine inB_ret ?_
        refine thn_ret ?_
        exact Pk.id (thn_ret ⟨.inr v1, (some_i H).symm, rfl, ⟨trivial, _, (.tmp _ _ _ _ rfl .nil), (.cl _ rfl)⟩⟩)
      · replace H := cond_f h H
        refine T.skip ?_
        refine inB_normal ?_
        refine thn_normal ?_
        refine T.region ?_
        refine TL.st rfl rfl rfl (o_ari rfl rfl rfl rfl) ?_
        refine TL.st rfl rfl rfl (o_move rfl rfl) ?_
        refine TL.nil ?_
        exact Pk.go (fr' := [(0, .im b0 (a0.map (c_str))), (1, .fn 38 [] []), (7, .int .i64 (a0.length : Int)), (8, .int .i64 (IntKind.i64.wrap (v1 + 1)))]) (σ' := []) _ rfl rfl trivial (.cons 0 _ (.im b0 (a0.map (c_str))) _ rfl (.same _) rfl (.cons 1 _ (.fn 38 [] []) _ rfl (.same _) rfl (.cons 7 _ (.int .i64 (a0.length : Int)) _ rfl (.same _) rfl (.cons 8 _ (.int .i64 (IntKind.i64.wrap (v1 + 1))) _ rfl (.same _) rfl .nil)))) (thn_normal ⟨(IntKind.i64.wrap (v1 + 1)), (some_i H).symm, rfl, rfl⟩)
    · replace H := cond_f h H
      refine T.exit ?_
      refine thn_exit ?_
      exact Pk.go (fr' := []) (σ' := []) _ rfl rfl trivial .nil (thn_exit ⟨.inl (), (some_i H).symm, rfl, rfl, rfl⟩)
  · rintro v1 v1'; rfl
  · rintro v1; exact trivial
  · rintro v1; exact (.cons _ _ _ rfl rfl (.cons _ _ _ rfl rfl (.cons _ _ _ rfl rfl (.cons _ _ _ rfl rfl .nil))))
  · rcases q8 with ⟨⟩ | q2
    · rintro _ _ _ ⟨rfl, rfl, rfl⟩
      refine inB_here ?_
      refine thn_normal ?_
      refine T.seq ?_
      refine T.region ?_
      refine TL.st rfl rfl rfl (o_assign rfl rfl) ?_
      refine TL.nil ?_
      refine thn_normal ?_
      refine T.ret ?_
      cases some_i H
      exact ⟨trivial, _, (.tmp _ _ _ _ rfl .nil), (.cl _ rfl)⟩
    · rintro _ fr1 σ1 ⟨rfl, hr⟩
      refine inB_ret ?_
      refine thn_ret ?_
      cases some_i H
      exact hr
theorem en_45 (us : Array Value) (w : World) : (callFunc 45 us).run Go.Proofs.Try.prog w = .ok (.enter 45 us) w := enters Go.Proofs.Try.func45 rfl rfl us w
noncomputable def slices_ContainsFunc (a0 : (List ByteArray)) : Option Bool :=
  (slices_IndexFunc a0).bind fun r1 => some (decide (r1 ≥ 0))
theorem slices_ContainsFunc_p (b0 : Bool) {a0 : (List ByteArray)} {R0 : Bool} (H : slices_ContainsFunc a0 = some R0) : Pure Go.Proofs.Try.prog 37 [.im b0 (a0.map (c_str)), .fn 38 [] []] (.bool R0) := by
  refine CallT.of_TN (n := 9) Go.Proofs.Try.func37 rfl rfl rfl rfl ?_
  refine T.seq ?_
  refine T.region ?_
  refine TL.st rfl rfl rfl (o_assign rfl rfl) ?_
  refine TL.nil ?_
  refine thn_normal ?_
  refine T.seq ?_
  refine T.region ?_
  refine TL.st rfl rfl rfl (o_move rfl rfl) ?_
  refine TL.st rfl rfl rfl (o_move rfl rfl) ?_
  obtain ⟨r1, h2, H⟩ := bind_s H
  refine TL.st rfl rfl rfl (o_callP rfl en_45 rfl rfl (.cons _ _ _ _ (.imv _ _) (.cons _ _ _ _ (.fn _ _ _ _ _ rfl rfl (fun i c d h => by simp at h) (fun i c d h => by simp at h)) .nil)) (slices_IndexFunc_p b0 h2)) ?_
  refine TL.st rfl rfl rfl (o_ari rfl rfl rfl rfl) ?_
  refine TL.st rfl rfl rfl (o_assign rfl rfl) ?_
  refine TL.nil ?_
  refine thn_normal ?_
  refine T.ret ?_
  cases some_i H
  exact ⟨trivial, _, (.tmp _ _ _ _ rfl .nil), (.cl _ rfl)⟩
theorem en_37 (us : Array Value) (w : World) : (callFunc 37 us).run Go.Proofs.Try.prog w = .ok (.enter 37 us) w := enters Go.Proofs.Try.func37 rfl rfl us w
noncomputable def impl_yallNames (a0 : (List ByteArray)) : Option Bool :=
  (slices_ContainsFunc a0).bind fun r1 => some (!r1)
theorem impl_yallNames_p (b0 : Bool) {a0 : (List ByteArray)} {R0 : Bool} (H : impl_yallNames a0 = some R0) : Pure Go.Proofs.Try.prog 26 [.im b0 (a0.map (c_str))] (.bool R0) := by
  refine CallT.of_TN (n := 6) Go.Proofs.Try.func26 rfl rfl rfl rfl ?_
  refine T.seq ?_
  refine T.region ?_
  refine TL.st rfl rfl rfl (o_assign rfl rfl) ?_
  refine TL.nil ?_
  refine thn_normal ?_
  refine T.seq ?_
  refine T.region ?_
  refine TL.st rfl rfl rfl (o_move rfl rfl) ?_
  obtain ⟨r1, h2, H⟩ := bind_s H
  refine TL.st rfl rfl rfl (o_callP rfl en_37 rfl rfl (.cons _ _ _ _ (.imv _ _) (.cons _ _ _ _ (.fn _ _ _ _ _ rfl rfl (fun i c d h => by simp at h) (fun i c d h => by simp at h)) .nil)) (slices_ContainsFunc_p b0 h2)) ?_
  refine TL.st rfl rfl rfl (o_not rfl rfl) ?_
  refine TL.st rfl rfl rfl (o_assign rfl rfl) ?_
  refine TL.nil ?_
  refine thn_normal ?_
  refine T.ret ?_
  cases some_i H
  exact ⟨trivial, _, (.tmp _ _ _ _ rfl .nil), (.cl _ rfl)⟩
theorem en_26 (us : Array Value) (w : World) : (callFunc 26 us).run Go.Proofs.Try.prog w = .ok (.enter 26 us) w := enters Go.Proofs.Try.func26 rfl rfl us w
theorem tyS_4 : TyS Go.Proofs.Try.prog 4 false 1 := ⟨rfl, rfl⟩
theorem tyS_52 : TyS Go.Proofs.Try.prog 52 false 1 := ⟨rfl, rfl⟩
noncomputable def slices_Index_l1 (a0 : (List ByteArray)) (a1 : ByteArray) : Int → Option (Int ⊕ (Unit ⊕ Int)) := fun s => match s with
  | v1 => cond (decide (v1 < (a0.length : Int))) ((idx a0 v1).bind fun e4 => cond (a1.toList == e4.toList) (some (.inr (.inr v1))) (some (.inl (IntKind.i64.wrap (v1 + 1))))) (some (.inr (.inl ())))
noncomputable def slices_Index (a0 : (List ByteArray)) (a1 : ByteArray) : Option Int :=
  (loopO (slices_Index_l1 a0 a1) 0).bind fun q6 => (match q6 with | .inl _ => some (-1) | .inr q2 => some q2)
theorem slices_Index_p (b0 : Bool) {a0 : (List ByteArray)} {a1 : ByteArray} {R0 : Int} (H : slices_Index a0 a1 = some R0) : Pure Go.Proofs.Try.prog 40 [.im b0 (a0.map (c_str)), .str a1] (.int .i64 R0) := by
  refine CallT.of_TN (n := 19) Go.Proofs.Try.func40 rfl rfl rfl rfl ?_
  refine T.seq ?_
  refine T.region ?_
  refine TL.st rfl rfl rfl (o_assign rfl rfl) ?_
  refine TL.nil ?_
  refine thn_normal ?_
  refine T.seq ?_
  refine T.seq ?_
  refine T.region ?_
  refine TL.st rfl rfl rfl (o_move rfl rfl) ?_
  refine TL.st rfl rfl rfl (o_lenL (f := c_str) rfl rfl rfl) ?_
  refine TL.st rfl rfl rfl (o_move rfl rfl) ?_
  refine TL.nil ?_
  refine thn_normal ?_
  refine T.block ?_
  obtain ⟨q6, h7, H⟩ := bind_s H
  refine T.to (.cons 0 _ (.im b0 (a0.map (c_str))) _ rfl (.same _) rfl (.cons 1 _ (.str a1) _ rfl (.same _) rfl (.cons 7 _ (.int .i64 (a0.length : Int)) _ rfl (.same _) rfl (.cons 8 _ (.int .i64 0) _ rfl (.same _) rfl .nil)))) ?_
  refine T.lp (fun s => match s with | v1 => [(0, .im b0 (a0.map (c_str))), (1, .str a1), (7, .int .i64 (a0.length : Int)), (8, .int .i64 v1)]) (fun s => match s with | v1 => []) (fun q ex fr σ => match q with | .inl _ => ex = .exit 0 ∧ fr = [] ∧ σ = [] | .inr q2 => ex = .ret ∧ RetN Go.Proofs.Try.prog [.tmp 4] (fun v τ => Told τ v (.int .i64 q2)) .ret fr σ) h7 ?_ ?_ ?_ ?_ ?_
  · rintro v1 y3 H
    refine T.seq ?_
    refine T.region ?_
    refine TL.st rfl rfl rfl (o_ari rfl rfl rfl rfl) ?_
    refine TL.nil ?_
    refine thn_normal ?_
    refine T.seq ?_
    refine T.cond (decide (v1 < (a0.length : Int))) rfl (fun h => ?_) (fun h => ?_)
    · replace H := cond_t h H
      refine T.skip ?_
      refine thn_normal ?_
      refine T.seq ?_
      refine T.block ?_
      refine T.seq ?_
      refine T.region ?_
      refine TL.st rfl rfl rfl (o_move rfl rfl) ?_
      refine TL.st rfl rfl rfl (o_assign rfl rfl) ?_
      refine TL.nil ?_
      refine thn_normal ?_
      refine T.seq ?_
      refine T.region ?_
      refine TL.st rfl rfl rfl (o_move rfl rfl) ?_
      refine TL.st rfl rfl rfl (o_move rfl rfl) ?_
      refine TL.st rfl rfl rfl (o_move rfl rfl) ?_
      obtain ⟨e4, h5, H⟩ := bind_s H
      refine TL.st rfl rfl rfl (o_ix (f := c_str) rfl rfl tyS_9 rfl rfl h5 rfl) ?_
      refine TL.st rfl rfl rfl (o_loadRf rfl tyS_9 rfl (Nat.le_of_ble_eq_true rfl) rfl) ?_
      refine TL.st rfl rfl rfl (o_str rfl rfl rfl rfl) ?_
      refine TL.nil ?_
      refine thn_normal ?_
      refine T.cond ((a1.toList == e4.toList)) rfl (fun h => ?_) (fun h => ?_)
      · replace H := cond_t h H
        refine T.seq ?_
        refine T.region ?_
        refine TL.st rfl rfl rfl (o_move rfl rfl) ?_
        refine TL.st rfl rfl rfl (o_assign rfl rfl) ?_
        refine TL.nil ?_
        refine thn_normal ?_
        refine T.ret ?_
        refine inB_ret ?_
        refine thn_ret ?_
        exact Pk.id (thn_ret ⟨.inr v1, (some_i H).symm, rfl, ⟨trivial, _, (.tmp _ _ _ _ rfl .nil), (.cl _ rfl)⟩⟩)
      · replace H := cond_f h H
        refine T.skip ?_
        refine inB_normal ?_
        refine thn_normal ?_
        refine T.region ?_
        refine TL.st rfl rfl rfl (o_ari rfl rfl rfl rfl) ?_
        refine TL.st rfl rfl rfl (o_move rfl rfl) ?_
        refine TL.nil ?_
        exact Pk.go (fr' := [(0, .im b0 (a0.map (c_str))), (1, .str a1), (7, .int .i64 (a0.length : Int)), (8, .int .i64 (IntKind.i64.wrap (v1 + 1)))]) (σ' := []) _ rfl rfl trivial (.cons 0 _ (.im b0 (a0.map (c_str))) _ rfl (.same _) rfl (.cons 1 _ (.str a1) _ rfl (.same _) rfl (.cons 7 _ (.int .i64 (a0.length : Int)) _ rfl (.same _) rfl (.cons 8 _ (.int .i64 (IntKind.i64.wrap (v1 + 1))) _ rfl (.same _) rfl .nil)))) (thn_normal ⟨(IntKind.i64.wrap (v1 + 1)), (some_i H).symm, rfl, rfl⟩)
    · replace H := cond_f h H
      refine T.exit ?_
      refine thn_exit ?_
      exact Pk.go (fr' := []) (σ' := []) _ rfl rfl trivial .nil (thn_exit ⟨.inl (), (some_i H).symm, rfl, rfl, rfl⟩)
  · rintro v1 v1'; rfl
  · rintro v1; exact trivial
  · rintro v1; exact (.cons _ _ _ rfl rfl (.cons _ _ _ rfl rfl (.cons _ _ _ rfl rfl (.cons _ _ _ rfl rfl .nil))))
  · rcases q6 with ⟨⟩ | q2
    · rintro _ _ _ ⟨rfl, rfl, rfl⟩
      refine inB_here ?_
      refine thn_normal ?_
      refine T.seq ?_
      refine T.region ?_
      refine TL.st rfl rfl rfl (o_assign rfl rfl) ?_
      refine TL.nil ?_
      refine thn_normal ?_
      refine T.ret ?_
      cases some_i H
      exact ⟨trivial, _, (.tmp _ _ _ _ rfl .nil), (.cl _ rfl)⟩
    · rintro _ fr1 σ1 ⟨rfl, hr⟩
      refine inB_ret ?_
      refine thn_ret ?_
      cases some_i H
      exact hr
theorem en_40 (us : Array Value) (w : World) : (callFunc 40 us).run Go.Proofs.Try.prog w = .ok (.enter 40 us) w := enters Go.Proofs.Try.func40 rfl rfl us w
noncomputable def slices_Contains (a0 : (List ByteArray)) (a1 : ByteArray) : Option Bool :=
  (slices_Index a0 a1).bind fun r1 => some (decide (r1 ≥ 0))
theorem slices_Contains_p (b0 : Bool) {a0 : (List ByteArray)} {a1 : ByteArray} {R0 : Bool} (H : slices_Contains a0 a1 = some R0) : Pure Go.Proofs.Try.prog 28 [.im b0 (a0.map (c_str)), .str a1] (.bool R0) := by
  refine CallT.of_TN (n := 9) Go.Proofs.Try.func28 rfl rfl rfl rfl ?_
  refine T.seq ?_
  refine T.region ?_
  refine TL.st rfl rfl rfl (o_assign rfl rfl) ?_
  refine TL.nil ?_
  refine thn_normal ?_
  refine T.seq ?_
  refine T.region ?_
  refine TL.st rfl rfl rfl (o_move rfl rfl) ?_
  refine TL.st rfl rfl rfl (o_move rfl rfl) ?_
  obtain ⟨r1, h2, H⟩ := bind_s H
  refine TL.st rfl rfl rfl (o_callP rfl en_40 rfl rfl (.cons _ _ _ _ (.imv _ _) (.cons _ _ _ _ (.cl _ rfl) .nil)) (slices_Index_p b0 h2)) ?_
  refine TL.st rfl rfl rfl (o_ari rfl rfl rfl rfl) ?_
  refine TL.st rfl rfl rfl (o_assign rfl rfl) ?_
  refine TL.nil ?_
  refine thn_normal ?_
  refine T.ret ?_
  cases some_i H
  exact ⟨trivial, _, (.tmp _ _ _ _ rfl .nil), (.cl _ rfl)⟩
theorem en_28 (us : Array Value) (w : World) : (callFunc 28 us).run Go.Proofs.Try.prog w = .ok (.enter 28 us) w := enters Go.Proofs.Try.func28 rfl rfl us w
noncomputable def impl_RunRecovery_1 (a0 : T_impl_RecoverEvent) (s0 : Int) (s1 : Bool) (s2 : Int) (s3 : Int) (s5 : (List (ByteArray × Bool))) (s6 : (List ByteArray)) (s7 : Int) : Option (Int × Bool × Int × (List (ByteArray × Bool))) :=
  cond ((((decide (a0.Kind_ < 1) || decide (a0.Kind_ > 4)) || decide (a0.Time_ < 0)) || decide (a0.Time_ > 100000000000)) || ((!(a0.Who_.toList == (ByteArray.mk #[]).toList)) && (a0.Kind_ != 2))) (some (1, s1, s3, s5)) (cond (decide (a0.Time_ < s0)) (some (2, s1, s3, s5)) (cond (s1 == (a0.Kind_ == 1)) (some (3, s1, s3, s5)) (cond (a0.Kind_ == 1) (some (0, true, (IntKind.i64.wrap (a0.Time_ + s2)), ([] : List (ByteArray × Bool)))) (cond (a0.Kind_ == 2) ((slices_Contains s6 a0.Who_).bind fun r1 => cond (!r1) (some (4, s1, s3, s5)) (cond ((mget s5 a0.Who_).getD false) (some (5, s1, s3, s5)) (some (0, s1, s3, (mput s5 a0.Who_ true))))) (cond (a0.Kind_ == 3) (some (0, false, s3, s5)) (cond (a0.Kind_ == 4) (cond (decide ((s5.length : Int) < s7)) (some (6, s1, s3, s5)) (cond (decide (a0.Time_ < s3)) (some (7, s1, s3, s5)) (some (0, false, s3, s5)))) (some (0, s1, s3, s5))))))))
theorem impl_RunRecovery_1_p (c6 : Bool) {a0 : T_impl_RecoverEvent} {s0 : Int} {s1 : Bool} {s2 : Int} {s3 : Int} {s5 : (List (ByteArray × Bool))} {s6 : (List ByteArray)} {s7 : Int} {R0 : Int} {U1 : Bool} {U3 : Int} {U5 : (List (ByteArray × Bool))} (H : impl_RunRecovery_1 a0 s0 s1 s2 s3 s5 s6 s7 = some (R0, U1, U3, U5)) : St Go.Proofs.Try.prog 27 [.agg (c_T_impl_RecoverEvent false a0), .bx 0 0, .bx 1 0, .bx 2 0, .bx 3 0, .bx 4 0, .bx 6 0, .bx 7 0] [.box [.int .i64 s0], .box [.bool s1], .box [.int .i64 s2], .box [.int .i64 s3], .box [.mp 5], mpO (V.str) (V.bool) s5, .box [.im c6 (s6.map (c_str))], .box [.int .i64 s7]] (.int .i64 R0) [.box [.int .i64 s0], .box [.bool U1], .box [.int .i64 s2], .box [.int .i64 U3], .box [.mp 5], mpO (V.str) (V.bool) U5, .box [.im c6 (s6.map (c_str))], .box [.int .i64 s7]] := by
  refine CallT.fin (CallT.of_TN (n := 85) Go.Proofs.Try.func27 rfl rfl rfl rfl ?_) rfl rfl ⟨(bels_iff.1 rfl), ⟨(bels_iff.1 rfl), ⟨(bels_iff.1 rfl), ⟨(bels_iff.1 rfl), ⟨(bels_iff.1 rfl), ⟨(belMap fun _ => rfl), ⟨(bels_iff.1 rfl), ⟨(bels_iff.1 rfl), trivial⟩⟩⟩⟩⟩⟩⟩⟩
  refine T.seq ?_
  refine T.region ?_
  refine TL.st rfl rfl rfl (o_box rfl rfl rfl) ?_
  refine TL.st rfl rfl rfl (o_assign rfl rfl) ?_
  refine TL.nil ?_
  refine thn_normal ?_
  refine T.seq ?_
  refine T.block ?_
  refine T.seq ?_
  refine T.region ?_
  refine TL.st rfl rfl rfl (o_fieldAddr rfl rfl rfl tyS_3 (by decide) rfl rfl ⟨_, rfl, Nat.le_of_ble_eq_true rfl⟩) ?_
  refine TL.st rfl rfl rfl (o_loadBx rfl tyS_3 rfl rfl (Nat.le_of_ble_eq_true rfl) rfl) ?_
  refine TL.st rfl rfl rfl (o_ari rfl rfl rfl rfl) ?_
  refine TL.st rfl rfl rfl (o_move rfl rfl) ?_
  refine TL.gcq rfl rfl rfl (.bool _) rfl rfl (fun h => o_fieldAddr rfl rfl rfl tyS_3 (by decide) rfl rfl ⟨_, rfl, Nat.le_of_ble_eq_true rfl⟩) ?_
  refine TL.gcq rfl rfl rfl (.bool _) rfl rfl (fun h => o_loadBx rfl tyS_3 (gv h rfl) rfl (Nat.le_of_ble_eq_true rfl) rfl) ?_
  refine TL.gcq rfl rfl rfl (.bool _) rfl rfl (fun h => o_ari rfl (gv h rfl) rfl rfl) ?_
  refine TL.st rfl rfl rfl (o_or rfl rfl rfl rfl (fun k => Gd_t k)) ?_
  refine TL.st rfl rfl rfl (o_move rfl rfl) ?_
  refine TL.gcq rfl rfl rfl (.bool _) rfl rfl (fun h => o_fieldAddr rfl rfl rfl tyS_3 (by decide) rfl rfl ⟨_, rfl, Nat.le_of_ble_eq_true rfl⟩) ?_
  refine TL.gcq rfl rfl rfl (.bool _) rfl rfl (fun h => o_loadBx rfl tyS_3 (gv h rfl) rfl (Nat.le_of_ble_eq_true rfl) rfl) ?_
  refine TL.gcq rfl rfl rfl (.bool _) rfl rfl (fun h => o_ari rfl (gv h rfl) rfl rfl) ?_
  refine TL.st rfl rfl rfl (o_or rfl rfl rfl rfl (fun k => Gd_t k)) ?_
  refine TL.st rfl rfl rfl (o_move rfl rfl) ?_
  refine TL.gcq rfl rfl rfl (.bool _) rfl rfl (fun h => o_fieldAddr rfl rfl rfl tyS_3 (by decide) rfl rfl ⟨_, rfl, Nat.le_of_ble_eq_true rfl⟩) ?_
  refine TL.gcq rfl rfl rfl (.bool _) rfl rfl (fun h => o_loadBx rfl tyS_3 (gv h rfl) rfl (Nat.le_of_ble_eq_true rfl) rfl) ?_
  refine TL.gcq rfl rfl rfl (.bool _) rfl rfl (fun h => o_ari rfl (gv h rfl) rfl rfl) ?_
  refine TL.st rfl rfl rfl (o_or rfl rfl rfl rfl (fun k => Gd_t k)) ?_
  refine TL.st rfl rfl rfl (o_move rfl rfl) ?_
  refine TL.gcq rfl rfl rfl (.bool _) rfl rfl (fun h => o_fieldAddr rfl rfl rfl tyS_9 (by decide) rfl rfl ⟨_, rfl, Nat.le_of_ble_eq_true rfl⟩) ?_
  refine TL.gcq rfl rfl rfl (.bool _) rfl rfl (fun h => o_loadBx rfl tyS_9 (gv h rfl) rfl (Nat.le_of_ble_eq_true rfl) rfl) ?_
  refine TL.gcq rfl rfl rfl (.bool _) rfl rfl (fun h => o_str rfl (gv h rfl) rfl rfl) ?_
  refine TL.gcq rfl rfl rfl (.bool _) rfl rfl (fun h => o_move rfl (gv h rfl)) ?_
  refine TL.gcq rfl rfl rfl (.gd _ _) rfl rfl (fun h => o_fieldAddr rfl rfl rfl tyS_3 (by decide) rfl rfl ⟨_, rfl, Nat.le_of_ble_eq_true rfl⟩) ?_
  refine TL.gcq rfl rfl rfl (.gd _ _) rfl rfl (fun h => o_loadBx rfl tyS_3 (gv h rfl) rfl (Nat.le_of_ble_eq_true rfl) rfl) ?_
  refine TL.gcq rfl rfl rfl (.gd _ _) rfl rfl (fun h => o_ari rfl (gv h rfl) rfl rfl) ?_
  refine TL.gcq rfl rfl rfl (.bool _) rfl rfl (fun h => o_and rfl (gv h rfl) rfl (fun k => Gd_t (andi h k)) rfl) ?_
  refine TL.st rfl rfl rfl (o_or rfl rfl rfl rfl (fun k => Gd_t k)) ?_
  refine TL.st rfl rfl rfl (o_assign rfl rfl) ?_
  refine TL.nil ?_
  refine thn_normal ?_
  refine T.cond (((((decide (a0.Kind_ < 1) || decide (a0.Kind_ > 4)) || decide (a0.Time_ < 0)) || decide (a0.Time_ > 100000000000)) || ((!(a0.Who_.toList == (ByteArray.mk #[]).toList)) && (a0.Kind_ != 2)))) rfl (fun h => ?_) (fun h => ?_)
  · replace H := cond_t h H
    refine T.seq ?_
    refine T.region ?_
    refine TL.st rfl rfl rfl (o_assign rfl rfl) ?_
    refine TL.nil ?_
    refine thn_normal ?_
    refine T.ret ?_
    refine inB_ret ?_
    refine thn_ret ?_
    cases some_i H
    exact ⟨trivial, _, (.tmp _ _ _ _ rfl .nil), ⟨rfl, _, rfl⟩⟩
  · replace H := cond_f h H
    refine T.seq ?_
    refine T.region ?_
    refine TL.st rfl rfl rfl (o_fieldAddr rfl rfl rfl tyS_3 (by decide) rfl rfl ⟨_, rfl, Nat.le_of_ble_eq_true rfl⟩) ?_
    refine TL.st rfl rfl rfl (o_loadBx rfl tyS_3 rfl rfl (Nat.le_of_ble_eq_true rfl) rfl) ?_
    refine TL.st rfl rfl rfl (o_loadBx rfl tyS_3 rfl rfl (Nat.le_of_ble_eq_true rfl) rfl) ?_
    refine TL.st rfl rfl rfl (o_ari rfl rfl rfl rfl) ?_
    refine TL.st rfl rfl rfl (o_assign rfl rfl) ?_
    refine TL.nil ?_
    refine thn_normal ?_
    refine T.cond (decide (a0.Time_ < s0)) rfl (fun h => ?_) (fun h => ?_)
    · replace H := cond_t h H
      refine T.seq ?_
      refine T.region ?_
      refine TL.st rfl rfl rfl (o_assign rfl rfl) ?_
      refine TL.nil ?_
      refine thn_normal ?_
      refine T.ret ?_
      refine inB_ret ?_
      refine thn_ret ?_
      cases some_i H
      exact ⟨trivial, _, (.tmp _ _ _ _ rfl .nil), ⟨rfl, _, rfl⟩⟩
    · replace H := cond_f h H
      refine T.seq ?_
      refine T.region ?_
      refine TL.st rfl rfl rfl (o_loadBx rfl tyS_4 rfl rfl (Nat.le_of_ble_eq_true rfl) rfl) ?_
      refine TL.st rfl rfl rfl (o_fieldAddr rfl rfl rfl tyS_3 (by decide) rfl rfl ⟨_, rfl, Nat.le_of_ble_eq_true rfl⟩) ?_
      refine TL.st rfl rfl rfl (o_loadBx rfl tyS_3 rfl rfl (Nat.le_of_ble_eq_true rfl) rfl) ?_
      refine TL.st rfl rfl rfl (o_ari rfl rfl rfl rfl) ?_
      refine TL.st rfl rfl rfl (o_beq rfl rfl rfl rfl) ?_
      refine TL.st rfl rfl rfl (o_assign rfl rfl) ?_
      refine TL.nil ?_
      refine thn_normal ?_
      refine T.cond ((s1 == (a0.Kind_ == 1))) rfl (fun h => ?_) (fun h => ?_)
      · replace H := cond_t h H
        refine T.seq ?_
        refine T.region ?_
        refine TL.st rfl rfl rfl (o_assign rfl rfl) ?_
        refine TL.nil ?_
        refine thn_normal ?_
        refine T.ret ?_
        refine inB_ret ?_
        refine thn_ret ?_
        cases some_i H
        exact ⟨trivial, _, (.tmp _ _ _ _ rfl .nil), ⟨rfl, _, rfl⟩⟩
      · replace H := cond_f h H
        refine T.skip ?_
        refine inB_normal ?_
        refine thn_normal ?_
        refine T.seq ?_
        refine T.seq ?_
        refine T.region ?_
        refine TL.st rfl rfl rfl (o_fieldAddr rfl rfl rfl tyS_3 (by decide) rfl rfl ⟨_, rfl, Nat.le_of_ble_eq_true rfl⟩) ?_
        refine TL.st rfl rfl rfl (o_loadBx rfl tyS_3 rfl rfl (Nat.le_of_ble_eq_true rfl) rfl) ?_
        refine TL.nil ?_
        refine thn_normal ?_
        refine T.block ?_
        refine T.seq ?_
        refine T.region ?_
        refine TL.st rfl rfl rfl (o_ari rfl rfl rfl rfl) ?_
        refine TL.st rfl rfl rfl (o_assign rfl rfl) ?_
        refine TL.nil ?_
        refine thn_normal ?_
        refine T.cond ((a0.Kind_ == 1)) rfl (fun h => ?_) (fun h => ?_)
        · replace H := cond_t h H
          refine T.seq ?_
          refine T.drawnG (fun τ => τ = [.box [.int .i64 s0], .box [.bool s1], .box [.int .i64 s2], .box [.int .i64 s3], .box [.mp 5], mpO (V.str) (V.bool) s5, .box [.im c6 (s6.map (c_str))], .box [.int .i64 s7], .box (c_T_impl_RecoverEvent false a0)] ∨ τ = [.box [.int .i64 s0], .box [.bool true], .box [.int .i64 s2], .box [.int .i64 s3], .box [.mp 5], mpO (V.str) (V.bool) s5, .box [.im c6 (s6.map (c_str))], .box [.int .i64 s7], .box (c_T_impl_RecoverEvent false a0)] ∨ τ = [.box [.int .i64 s0], .box [.bool true], .box [.int .i64 s2], .box [.int .i64 (IntKind.i64.wrap (a0.Time_ + s2))], .box [.mp 5], mpO (V.str) (V.bool) s5, .box [.im c6 (s6.map (c_str))], .box [.int .i64 s7], .box (c_T_impl_RecoverEvent false a0)]) rfl (.inl rfl) ?_
          refine TE.ls rfl rfl (fun τ hτ => by rcases hτ with rfl | rfl | rfl <;> exact o_fieldAddr rfl rfl rfl tyS_3 (by decide) rfl rfl ⟨_, rfl, Nat.le_of_ble_eq_true rfl⟩) ?_
          refine TE.ls rfl rfl (fun τ hτ => by rcases hτ with rfl | rfl | rfl <;> exact o_loadBx rfl tyS_3 rfl rfl (Nat.le_of_ble_eq_true rfl) rfl) ?_
          refine TE.ls rfl rfl (fun τ hτ => by rcases hτ with rfl | rfl | rfl <;> exact o_loadBx rfl tyS_3 rfl rfl (Nat.le_of_ble_eq_true rfl) rfl) ?_
          refine TE.qs rfl rfl (fun _ => o_ari rfl rfl rfl rfl) ?_
          refine TE.an rfl rfl (o_storeBx rfl tyS_4 rfl rfl rfl rfl (Nat.le_of_ble_eq_true rfl) rfl) (.inr (.inl rfl)) ?_
          refine TE.an rfl rfl (o_storeBx rfl tyS_3 rfl rfl rfl rfl (Nat.le_of_ble_eq_true rfl) rfl) (.inr (.inr rfl)) ?_
          refine TE.nil ⟨rfl, ?_⟩
          refine thn_normal ?_
          refine T.region ?_
          refine TL.st rfl rfl rfl (o_loadBx rfl tyS_52 rfl rfl (Nat.le_of_ble_eq_true rfl) rfl) ?_
          refine TL.sn rfl rfl (o_clearMap rfl rfl rfl rfl) ?_
          refine TL.nil ?_
          refine inB_normal ?_
          refine thn_normal ?_
          refine T.seq ?_
          refine T.region ?_
          refine TL.st rfl rfl rfl (o_assign rfl rfl) ?_
          refine TL.nil ?_
          refine thn_normal ?_
          refine T.ret ?_
          cases some_i H
          exact ⟨trivial, _, (.tmp _ _ _ _ rfl .nil), ⟨rfl, _, rfl⟩⟩
        · replace H := cond_f h H
          refine T.seq ?_
          refine T.region ?_
          refine TL.st rfl rfl rfl (o_ari rfl rfl rfl rfl) ?_
          refine TL.st rfl rfl rfl (o_assign rfl rfl) ?_
          refine TL.nil ?_
          refine thn_normal ?_
          refine T.cond ((a0.Kind_ == 2)) rfl (fun h => ?_) (fun h => ?_)
          · replace H := cond_t h H
            refine T.seq ?_
            refine T.seq ?_
            refine T.region ?_
            refine TL.st rfl rfl rfl (o_loadBx rfl tyS_23 rfl rfl (Nat.le_of_ble_eq_true rfl) rfl) ?_
            refine TL.st rfl rfl rfl (o_fieldAddr rfl rfl rfl tyS_9 (by decide) rfl rfl ⟨_, rfl, Nat.le_of_ble_eq_true rfl⟩) ?_
            refine TL.st rfl rfl rfl (o_loadBx rfl tyS_9 rfl rfl (Nat.le_of_ble_eq_true rfl) rfl) ?_
            obtain ⟨r1, h2, H⟩ := bind_s H
            refine TL.st rfl rfl rfl (o_callP rfl en_28 rfl rfl (.cons _ _ _ _ (.imv _ _) (.cons _ _ _ _ (.cl _ rfl) .nil)) (slices_Contains_p c6 h2)) ?_
            refine TL.st rfl rfl rfl (o_not rfl rfl) ?_
            refine TL.nil ?_
            refine thn_normal ?_
            refine T.cond ((!r1)) rfl (fun h => ?_) (fun h => ?_)
            · replace H := cond_t h H
              refine T.seq ?_
              refine T.region ?_
              refine TL.st rfl rfl rfl (o_assign rfl rfl) ?_
              refine TL.nil ?_
              refine thn_normal ?_
              refine T.ret ?_
              refine thn_ret ?_
              refine inB_ret ?_
              refine thn_ret ?_
              cases some_i H
              exact ⟨trivial, _, (.tmp _ _ _ _ rfl .nil), ⟨rfl, _, rfl⟩⟩
            · replace H := cond_f h H
              refine T.skip ?_
              refine thn_normal ?_
              refine T.seq ?_
              refine T.seq ?_
              refine T.region ?_
              refine TL.st rfl rfl rfl (o_loadBx rfl tyS_52 rfl rfl (Nat.le_of_ble_eq_true rfl) rfl) ?_
              refine TL.st rfl rfl rfl (o_fieldAddr rfl rfl rfl tyS_9 (by decide) rfl rfl ⟨_, rfl, Nat.le_of_ble_eq_true rfl⟩) ?_
              refine TL.st rfl rfl rfl (o_loadBx rfl tyS_9 rfl rfl (Nat.le_of_ble_eq_true rfl) rfl) ?_
              refine TL.st rfl rfl rfl (o_lookup (fk := V.str) (fv := V.bool) (xs := s5) (z := false) rfl rfl (key_str rfl) rfl rfl rfl rfl (fun S w => ⟨_, rfl, .bool _⟩)) ?_
              refine TL.nil ?_
              refine thn_normal ?_
              refine T.cond (((mget s5 a0.Who_).getD false)) rfl (fun h => ?_) (fun h => ?_)
              · replace H := cond_t h H
                refine T.seq ?_
                refine T.region ?_
                refine TL.st rfl rfl rfl (o_assign rfl rfl) ?_
                refine TL.nil ?_
                refine thn_normal ?_
                refine T.ret ?_
                refine thn_ret ?_
                refine inB_ret ?_
                refine thn_ret ?_
                cases some_i H
                exact ⟨trivial, _, (.tmp _ _ _ _ rfl .nil), ⟨rfl, _, rfl⟩⟩
              · replace H := cond_f h H
                refine T.skip ?_
                refine thn_normal ?_
                refine T.region ?_
                refine TL.st rfl rfl rfl (o_loadBx rfl tyS_52 rfl rfl (Nat.le_of_ble_eq_true rfl) rfl) ?_
                refine TL.st rfl rfl rfl (o_fieldAddr rfl rfl rfl tyS_9 (by decide) rfl rfl ⟨_, rfl, Nat.le_of_ble_eq_true rfl⟩) ?_
                refine TL.st rfl rfl rfl (o_loadBx rfl tyS_9 rfl rfl (Nat.le_of_ble_eq_true rfl) rfl) ?_
                refine TL.sn rfl rfl (o_mapUpdate (fk := V.str) (fv := V.bool) (xs := s5) rfl rfl (key_str rfl) rfl rfl rfl rfl rfl) ?_
                refine TL.nil ?_
                refine inB_normal ?_
                refine thn_normal ?_
                refine T.seq ?_
                refine T.region ?_
                refine TL.st rfl rfl rfl (o_assign rfl rfl) ?_
                refine TL.nil ?_
                refine thn_normal ?_
                refine T.ret ?_
                cases some_i H
                exact ⟨trivial, _, (.tmp _ _ _ _ rfl .nil), ⟨rfl, _, rfl⟩⟩
          · replace H := cond_f h H
            refine T.seq ?_
            refine T.region ?_
            refine TL.st rfl rfl rfl (o_ari rfl rfl rfl rfl) ?_
            refine TL.st rfl rfl rfl (o_assign rfl rfl) ?_
            refine TL.nil ?_
            refine thn_normal ?_
            refine T.cond ((a0.Kind_ == 3)) rfl (fun h => ?_) (fun h => ?_)
            · replace H := cond_t h H
              refine T.region ?_
              refine TL.sn rfl rfl (o_storeBx rfl tyS_4 rfl rfl rfl rfl (Nat.le_of_ble_eq_true rfl) rfl) ?_
              refine TL.nil ?_
              refine inB_normal ?_
              refine thn_normal ?_
              refine T.seq ?_
              refine T.region ?_
              refine TL.st rfl rfl rfl (o_assign rfl rfl) ?_
              refine TL.nil ?_
              refine thn_normal ?_
              refine T.ret ?_
              cases some_i H
              exact ⟨trivial, _, (.tmp _ _ _ _ rfl .nil), ⟨rfl, _, rfl⟩⟩
            · replace H := cond_f h H
              refine T.seq ?_
              refine T.region ?_
              refine TL.st rfl rfl rfl (o_ari rfl rfl rfl rfl) ?_
              refine TL.st rfl rfl rfl (o_assign rfl rfl) ?_
              refine TL.nil ?_
              refine thn_normal ?_
              refine T.cond ((a0.Kind_ == 4)) rfl (fun h => ?_) (fun h => ?_)
              · replace H := cond_t h H
                refine T.seq ?_
                refine T.seq ?_
                refine T.region ?_
                refine TL.st rfl rfl rfl (o_loadBx rfl tyS_52 rfl rfl (Nat.le_of_ble_eq_true rfl) rfl) ?_
                refine TL.st rfl rfl rfl (o_lenMap (fk := V.str) (fv := V.bool) (xs := s5) rfl rfl rfl rfl) ?_
                refine TL.st rfl rfl rfl (o_loadBx rfl tyS_3 rfl rfl (Nat.le_of_ble_eq_true rfl) rfl) ?_
                refine TL.st rfl rfl rfl (o_ari rfl rfl rfl rfl) ?_
                refine TL.nil ?_
                refine thn_normal ?_
                refine T.cond (decide ((s5.length : Int) < s7)) rfl (fun h => ?_) (fun h => ?_)
                · replace H := cond_t h H
                  refine T.seq ?_
                  refine T.region ?_
                  refine TL.st rfl rfl rfl (o_assign rfl rfl) ?_
                  refine TL.nil ?_
                  refine thn_normal ?_
                  refine T.ret ?_
                  refine thn_ret ?_
                  refine inB_ret ?_
                  refine thn_ret ?_
                  cases some_i H
                  exact ⟨trivial, _, (.tmp _ _ _ _ rfl .nil), ⟨rfl, _, rfl⟩⟩
                · replace H := cond_f h H
                  refine T.skip ?_
                  refine thn_normal ?_
                  refine T.seq ?_
                  refine T.seq ?_
                  refine T.region ?_
                  refine TL.st rfl rfl rfl (o_fieldAddr rfl rfl rfl tyS_3 (by decide) rfl rfl ⟨_, rfl, Nat.le_of_ble_eq_true rfl⟩) ?_
                  refine TL.st rfl rfl rfl (o_loadBx rfl tyS_3 rfl rfl (Nat.le_of_ble_eq_true rfl) rfl) ?_
                  refine TL.st rfl rfl rfl (o_loadBx rfl tyS_3 rfl rfl (Nat.le_of_ble_eq_true rfl) rfl) ?_
                  refine TL.st rfl rfl rfl (o_ari rfl rfl rfl rfl) ?_
                  refine TL.nil ?_
                  refine thn_normal ?_
                  refine T.cond (decide (a0.Time_ < s3)) rfl (fun h => ?_) (fun h => ?_)
                  · replace H := cond_t h H
                    refine T.seq ?_
                    refine T.region ?_
                    refine TL.st rfl rfl rfl (o_assign rfl rfl) ?_
                    refine TL.nil ?_
                    refine thn_normal ?_
                    refine T.ret ?_
                    refine thn_ret ?_
                    refine inB_ret ?_
                    refine thn_ret ?_
                    cases some_i H
                    exact ⟨trivial, _, (.tmp _ _ _ _ rfl .nil), ⟨rfl, _, rfl⟩⟩
                  · replace H := cond_f h H
                    refine T.skip ?_
                    refine thn_normal ?_
                    refine T.region ?_
                    refine TL.sn rfl rfl (o_storeBx rfl tyS_4 rfl rfl rfl rfl (Nat.le_of_ble_eq_true rfl) rfl) ?_
                    refine TL.nil ?_
                    refine inB_normal ?_
                    refine thn_normal ?_
                    refine T.seq ?_
                    refine T.region ?_
                    refine TL.st rfl rfl rfl (o_assign rfl rfl) ?_
                    refine TL.nil ?_
                    refine thn_normal ?_
                    refine T.ret ?_
                    cases some_i H
                    exact ⟨trivial, _, (.tmp _ _ _ _ rfl .nil), ⟨rfl, _, rfl⟩⟩
              · replace H := cond_f h H
                refine T.skip ?_
                refine inB_normal ?_
                refine thn_normal ?_
                refine T.seq ?_
                refine T.region ?_
                refine TL.st rfl rfl rfl (o_assign rfl rfl) ?_
                refine TL.nil ?_
                refine thn_normal ?_
                refine T.ret ?_
                cases some_i H
                exact ⟨trivial, _, (.tmp _ _ _ _ rfl .nil), ⟨rfl, _, rfl⟩⟩
theorem en_27 (us : Array Value) (w : World) : (callFunc 27 us).run Go.Proofs.Try.prog w = .ok (.enter 27 us) w := enters Go.Proofs.Try.func27 rfl rfl us w
theorem tyE_3 : TyE Go.Proofs.Try.prog 3 1 := ⟨_, _, rfl, rfl, rfl, rfl, by decide, by decide⟩
noncomputable def impl_RunRecovery_j1 (l9 : List Int) (v10 : Int) (r19 : Int) (o20 : Bool) (o21 : Int) (o22 : (List (ByteArray × Bool))) (b24 : Int) : Option ((Int × Int × Bool × List (ByteArray × Bool) × List Int × Int) ⊕ (Int × Int × Bool × List (ByteArray × Bool) × List Int)) :=
  (app l9 ([r19] : List Int)).bind fun l25 => some (.inl (b24, o21, o20, o22, l25, (IntKind.i64.wrap (v10 + 1))))
noncomputable def impl_RunRecovery_l1 (a0 : Int) (a1 : Int) (a2 : (List ByteArray)) (a3 : (List T_impl_RecoverEvent)) : (Int × Int × Bool × List (ByteArray × Bool) × List Int × Int) → Option ((Int × Int × Bool × List (ByteArray × Bool) × List Int × Int) ⊕ (Int × Int × Bool × List (ByteArray × Bool) × List Int)) := fun s => match s with
  | (b5, b6, b7, m8, l9, v10) => cond (decide (v10 < (a3.length : Int))) ((idx a3 v10).bind fun e17 => (impl_RunRecovery_1 e17 b5 b7 a1 b6 m8 a2 a0).bind fun q => (match q with | (r19, o20, o21, o22) => cond (r19 == 0) (impl_RunRecovery_j1 l9 v10 r19 o20 o21 o22 e17.Time_) (impl_RunRecovery_j1 l9 v10 r19 o20 o21 o22 b5))) (some (.inr (b5, b6, b7, m8, l9)))
noncomputable def impl_RunRecovery (a0 : Int) (a1 : Int) (a2 : (List ByteArray)) (a3 : (List T_impl_RecoverEvent)) : Option (List Int) :=
  (gdO (!((((decide (a0 < 1) || decide (a0 > 10)) || decide (a1 < 0)) || decide (a1 > 100000000000)) || decide ((a2.length : Int) > 10))) (impl_yrising a2)).bind fun r1 => (gdO (!(((((decide (a0 < 1) || decide (a0 > 10)) || decide (a1 < 0)) || decide (a1 > 100000000000)) || decide ((a2.length : Int) > 10)) || (!r1))) (impl_yallNames a2)).bind fun r3 => cond (((((((decide (a0 < 1) || decide (a0 > 10)) || decide (a1 < 0)) || decide (a1 > 100000000000)) || decide ((a2.length : Int) > 10)) || (!r1)) || (!r3)) || decide ((a3.length : Int) > 200)) (some ([] : List Int)) ((loopO (impl_RunRecovery_l1 a0 a1 a2 a3) (0, 0, false, ([] : List (ByteArray × Bool)), ([] : List Int), 0)).bind fun q27 => (match q27 with | (b11, b12, b13, m14, l15) => some l15))
theorem impl_RunRecovery_p (b0 : Bool) (b1 : Bool) {a0 : Int} {a1 : Int} {a2 : (List ByteArray)} {a3 : (List T_impl_RecoverEvent)} {R0 : (List Int)} (H : impl_RunRecovery a0 a1 a2 a3 = some R0) : Pure Go.Proofs.Try.prog 6 [.int .i64 a0, .int .i64 a1, .im b0 (a2.map (c_str)), .im b1 (a3.map (c_T_impl_RecoverEvent false))] (.im false (R0.map (c_int .i64))) := by
  refine CallT.of_TN (n := 73) Go.Proofs.Try.func6 rfl rfl rfl rfl ?_
  refine T.seq ?_
  refine T.region ?_
  refine TL.st rfl rfl rfl (o_box rfl rfl rfl) ?_
  refine TL.st rfl rfl rfl (o_box rfl rfl rfl) ?_
  refine TL.st rfl rfl rfl (o_box rfl rfl rfl) ?_
  refine TL.st rfl rfl rfl (o_assign rfl rfl) ?_
  refine TL.nil ?_
  refine thn_normal ?_
  refine T.seq ?_
  refine T.seq ?_
  refine T.region ?_
  refine TL.st rfl rfl rfl (o_loadBx rfl tyS_3 rfl rfl (Nat.le_of_ble_eq_true rfl) rfl) ?_
  refine TL.st rfl rfl rfl (o_ari rfl rfl rfl rfl) ?_
  refine TL.st rfl rfl rfl (o_move rfl rfl) ?_
  refine TL.gcq rfl rfl rfl (.bool _) rfl rfl (fun h => o_loadBx rfl tyS_3 rfl rfl (Nat.le_of_ble_eq_true rfl) rfl) ?_
  refine TL.gcq rfl rfl rfl (.bool _) rfl rfl (fun h => o_ari rfl (gv h rfl) rfl rfl) ?_
  refine TL.st rfl rfl rfl (o_or rfl rfl rfl rfl (fun k => Gd_t k)) ?_
  refine TL.st rfl rfl rfl (o_move rfl rfl) ?_
  refine TL.gcq rfl rfl rfl (.bool _) rfl rfl (fun h => o_loadBx rfl tyS_3 rfl rfl (Nat.le_of_ble_eq_true rfl) rfl) ?_
  refine TL.gcq rfl rfl rfl (.bool _) rfl rfl (fun h => o_ari rfl (gv h rfl) rfl rfl) ?_
  refine TL.st rfl rfl rfl (o_or rfl rfl rfl rfl (fun k => Gd_t k)) ?_
  refine TL.st rfl rfl rfl (o_move rfl rfl) ?_
  refine TL.gcq rfl rfl rfl (.bool _) rfl rfl (fun h => o_loadBx rfl tyS_3 rfl rfl (Nat.le_of_ble_eq_true rfl) rfl) ?_
  refine TL.gcq rfl rfl rfl (.bool _) rfl rfl (fun h => o_ari rfl (gv h rfl) rfl rfl) ?_
  refine TL.st rfl rfl rfl (o_or rfl rfl rfl rfl (fun k => Gd_t k)) ?_
  refine TL.st rfl rfl rfl (o_move rfl rfl) ?_
  refine TL.gcq rfl rfl rfl (.bool _) rfl rfl (fun h => o_loadBx rfl tyS_23 rfl rfl (Nat.le_of_ble_eq_true rfl) rfl) ?_
  refine TL.gcq rfl rfl rfl (.bool _) rfl rfl (fun h => o_lenL (f := c_str) rfl rfl (gv h rfl)) ?_
  refine TL.gcq rfl rfl rfl (.bool _) rfl rfl (fun h => o_ari rfl (gv h rfl) rfl rfl) ?_
  refine TL.st rfl rfl rfl (o_or rfl rfl rfl rfl (fun k => Gd_t k)) ?_
  refine TL.st rfl rfl rfl (o_move rfl rfl) ?_
  refine TL.gcq rfl rfl rfl (.bool _) rfl rfl (fun h => o_loadBx rfl tyS_23 rfl rfl (Nat.le_of_ble_eq_true rfl) rfl) ?_
  obtain ⟨r1, h2, H⟩ := bind_s H
  refine TL.gcq rfl rfl rfl (.bool _) rfl rfl (fun h => o_callP rfl en_25 rfl (evl_1 (gv h rfl)) (.cons _ _ _ _ (.imv _ _) .nil) (impl_yrising_p b0 (gdO_t h2 h))) ?_
  refine TL.gcq rfl rfl rfl (.bool _) rfl rfl (fun h => o_not rfl (gv h rfl)) ?_
  refine TL.st rfl rfl rfl (o_or rfl rfl rfl rfl (fun k => Gd_t k)) ?_
  refine TL.st rfl rfl rfl (o_move rfl rfl) ?_
  refine TL.gcq rfl rfl rfl (.bool _) rfl rfl (fun h => o_loadBx rfl tyS_23 rfl rfl (Nat.le_of_ble_eq_true rfl) rfl) ?_
  obtain ⟨r3, h4, H⟩ := bind_s H
  refine TL.gcq rfl rfl rfl (.bool _) rfl rfl (fun h => o_callP rfl en_26 rfl (evl_1 (gv h rfl)) (.cons _ _ _ _ (.imv _ _) .nil) (impl_yallNames_p b0 (gdO_t h4 h))) ?_
  refine TL.gcq rfl rfl rfl (.bool _) rfl rfl (fun h => o_not rfl (gv h rfl)) ?_
  refine TL.st rfl rfl rfl (o_or rfl rfl rfl rfl (fun k => Gd_t k)) ?_
  refine TL.st rfl rfl rfl (o_move rfl rfl) ?_
  refine TL.gcq rfl rfl rfl (.bool _) rfl rfl (fun h => o_move rfl rfl) ?_
  refine TL.gcq rfl rfl rfl (.bool _) rfl rfl (fun h => o_lenL (f := c_T_impl_RecoverEvent false) rfl rfl (gv h rfl)) ?_
  refine TL.gcq rfl rfl rfl (.bool _) rfl rfl (fun h => o_ari rfl (gv h rfl) rfl rfl) ?_
  refine TL.st rfl rfl rfl (o_or rfl rfl rfl rfl (fun k => Gd_t k)) ?_
  refine TL.nil ?_
  refine thn_normal ?_
  refine T.cond ((((((((decide (a0 < 1) || decide (a0 > 10)) || decide (a1 < 0)) || decide (a1 > 100000000000)) || decide ((a2.length : Int) > 10)) || (!r1)) || (!r3)) || decide ((a3.length : Int) > 200))) rfl (fun h => ?_) (fun h => ?_)
  · replace H := cond_t h H
    refine T.seq ?_
    refine T.region ?_
    refine TL.st rfl rfl rfl (o_assign rfl rfl) ?_
    refine TL.nil ?_
    refine thn_normal ?_
    refine T.ret ?_
    refine thn_ret ?_
    cases some_i H
    exact ⟨trivial, _, (.tmp _ _ _ _ rfl .nil), .nil⟩
  · replace H := cond_f h H
    refine T.skip ?_
    refine thn_normal ?_
    refine T.seq ?_
    refine T.region ?_
    refine TL.st rfl rfl rfl (o_alloc rfl ⟨_, rfl, rfl⟩) ?_
    refine TL.st rfl rfl rfl (o_alloc rfl ⟨_, rfl, rfl⟩) ?_
    refine TL.st rfl rfl rfl (o_alloc rfl ⟨_, rfl, rfl⟩) ?_
    refine TL.sn rfl rfl (o_storeBx rfl tyS_3 rfl rfl rfl rfl (Nat.le_of_ble_eq_true rfl) rfl) ?_
    refine TL.sn rfl rfl (o_storeBx rfl tyS_3 rfl rfl rfl rfl (Nat.le_of_ble_eq_true rfl) rfl) ?_
    refine TL.sn rfl rfl (o_storeBx rfl tyS_4 rfl rfl rfl rfl (Nat.le_of_ble_eq_true rfl) rfl) ?_
    refine TL.nil ?_
    refine thn_normal ?_
    refine T.seq ?_
    refine T.region ?_
    refine TL.st rfl rfl rfl (o_makeMap rfl) ?_
    refine TL.st rfl rfl rfl (o_alloc rfl ⟨_, rfl, rfl⟩) ?_
    refine TL.sn rfl rfl (o_storeBx rfl tyS_52 rfl rfl rfl rfl (Nat.le_of_ble_eq_true rfl) rfl) ?_
    refine TL.nil ?_
    refine thn_normal ?_
    refine T.seq ?_
    refine T.region ?_
    refine TL.st rfl rfl rfl (o_makeFunc rfl rfl rfl) ?_
    refine TL.st rfl rfl rfl (o_assign rfl rfl) ?_
    refine TL.nil ?_
    refine thn_normal ?_
    refine T.seq ?_
    refine T.region ?_
    refine TL.st rfl rfl rfl (o_assign rfl rfl) ?_
    refine TL.nil ?_
    refine thn_normal ?_
    refine T.seq ?_
    refine T.seq ?_
    refine T.region ?_
    refine TL.st rfl rfl rfl (o_move rfl rfl) ?_
    refine TL.st rfl rfl rfl (o_lenL (f := c_T_impl_RecoverEvent false) rfl rfl rfl) ?_
    refine TL.st rfl rfl rfl (o_move rfl rfl) ?_
    refine TL.nil ?_
    refine thn_normal ?_
    refine T.block ?_
    refine T.conv (Cs.own (t := 14) 1 rfl (by decide)) ?_
    obtain ⟨q27, h28, H⟩ := bind_s H
    refine T.to (.cons 9 _ (.bx 3 0) _ rfl (.same _) rfl (.cons 13 _ (.fn 27 [] [.bx 3 0, .bx 5 0, .bx 1 0, .bx 4 0, .bx 7 0, .bx 2 0, .bx 0 0]) _ rfl (.same _) rfl (.cons 14 _ (.hd 8 (([] : List Int).map (c_int .i64)).length 0 (([] : List Int).map (c_int .i64)).length) _ rfl (.same _) rfl (.cons 54 _ (.im b1 (a3.map (c_T_impl_RecoverEvent false))) _ rfl (.same _) rfl (.cons 55 _ (.int .i64 (a3.length : Int)) _ rfl (.same _) rfl (.cons 56 _ (.int .i64 0) _ rfl (.same _) rfl .nil)))))) ?_
    refine T.lp (fun s => match s with | (b5, b6, b7, m8, l9, v10) => [(9, .bx 3 0), (13, .fn 27 [] [.bx 3 0, .bx 5 0, .bx 1 0, .bx 4 0, .bx 7 0, .bx 2 0, .bx 0 0]), (14, .hd 8 (l9.map (c_int .i64)).length 0 (l9.map (c_int .i64)).length), (54, .im b1 (a3.map (c_T_impl_RecoverEvent false))), (55, .int .i64 (a3.length : Int)), (56, .int .i64 v10)]) (fun s => match s with | (b5, b6, b7, m8, l9, v10) => [.box [.int .i64 a0], .box [.int .i64 a1], .box [.im b0 (a2.map (c_str))], .box [.int .i64 b5], .box [.int .i64 b6], .box [.bool b7], mpO (V.str) (V.bool) m8, .box [.mp 6], .arr .clo 1 (l9.map (c_int .i64))]) (fun q ex fr σ => match q with | (b11, b12, b13, m14, l15) => ex = .exit 0 ∧ fr = [(14, .hd 8 (l15.map (c_int .i64)).length 0 (l15.map (c_int .i64)).length)] ∧ σ = [.box [.int .i64 a0], .box [.int .i64 a1], .box [.im b0 (a2.map (c_str))], .box [.int .i64 b11], .box [.int .i64 b12], .box [.bool b13], mpO (V.str) (V.bool) m14, .box [.mp 6], .arr .clo 1 (l15.map (c_int .i64))]) h28 ?_ ?_ ?_ ?_ ?_
    · rintro ⟨b5, b6, b7, m8, l9, v10⟩ y16 H
      refine T.seq ?_
      refine T.region ?_
      refine TL.st rfl rfl rfl (o_ari rfl rfl rfl rfl) ?_
      refine TL.nil ?_
      refine thn_normal ?_
      refine T.seq ?_
      refine T.cond (decide (v10 < (a3.length : Int))) rfl (fun h => ?_) (fun h => ?_)
      · replace H := cond_t h H
        refine T.skip ?_
        refine thn_normal ?_
        refine T.seq ?_
        refine T.block ?_
        refine T.seq ?_
        refine T.region ?_
        obtain ⟨e17, h18, H⟩ := bind_s H
        refine TL.st rfl rfl rfl (o_ix (f := c_T_impl_RecoverEvent false) rfl rfl tyS_31 rfl rfl h18 rfl) ?_
        refine TL.st rfl rfl rfl (o_loadRf rfl tyS_31 rfl (Nat.le_of_ble_eq_true rfl) rfl) ?_
        refine TL.st rfl rfl rfl (o_alloc rfl ⟨_, rfl, rfl⟩) ?_
        refine TL.sn rfl rfl (o_storeBx rfl tyS_31 rfl rfl rfl rfl (Nat.le_of_ble_eq_true rfl) rfl) ?_
        refine TL.nil ?_
        refine thn_normal ?_
        refine T.seq ?_
        refine T.region ?_
        refine TL.st rfl rfl rfl (o_move rfl rfl) ?_
        refine TL.st rfl rfl rfl (o_loadBx rfl tyS_31 rfl rfl (Nat.le_of_ble_eq_true rfl) rfl) ?_
        obtain ⟨⟨r19, o20, o21, o22⟩, h23, H⟩ := bind_s H
        refine TL.st rfl rfl rfl (o_callM [3, 5, 1, 4, 7, 6, 2, 0] rfl en_27 rfl rfl (impl_RunRecovery_1_p b0 h23) rfl (by decide) (.cons _ _ _ _ rfl (.cons _ _ _ _ rfl (.cons _ _ _ _ rfl (.cons _ _ _ _ rfl (.cons _ _ _ _ rfl (.cons _ _ _ _ (ren_mp rfl fun _ => rfl) (.cons _ _ _ _ rfl (.cons _ _ _ _ rfl .nil)))))))) rfl rfl (.cons _ _ _ _ rfl (.cons _ _ _ _ rfl (.cons _ _ _ _ rfl (.cons _ _ _ _ rfl (.cons _ _ _ _ rfl (.cons _ _ _ _ (ren_mpO fun _ => rfl) (.cons _ _ _ _ rfl (.cons _ _ _ _ rfl .nil)))))))) rfl) ?_
        refine TL.st rfl rfl rfl (o_assign rfl rfl) ?_
        refine TL.nil ?_
        refine thn_normal ?_
        refine T.cut (fun fr' σ' => ∃ (b24 : Int), fr' = [(9, .bx 3 0), (13, .fn 27 [] [.bx 3 0, .bx 5 0, .bx 1 0, .bx 4 0, .bx 7 0, .bx 2 0, .bx 0 0]), (14, .hd 8 (l9.map (c_int .i64)).length 0 (l9.map (c_int .i64)).length), (17, .int .i64 r19), (54, .im b1 (a3.map (c_T_impl_RecoverEvent false))), (55, .int .i64 (a3.length : Int)), (56, .int .i64 v10)] ∧ σ' = [.box [.int .i64 a0], .box [.int .i64 a1], .box [.im b0 (a2.map (c_str))], .box [.int .i64 b24], .box [.int .i64 o21], .box [.bool o20], mpO (V.str) (V.bool) o22, .box [.mp 6], .arr .clo 1 (l9.map (c_int .i64)), .box (c_T_impl_RecoverEvent false e17)] ∧ impl_RunRecovery_j1 l9 v10 r19 o20 o21 o22 b24 = some y16) (T.pk ?_) ?_
        · skip
          refine T.seq ?_
          refine T.region ?_
          refine TL.st rfl rfl rfl (o_move rfl rfl) ?_
          refine TL.st rfl rfl rfl (o_ari rfl rfl rfl rfl) ?_
          refine TL.nil ?_
          refine thn_normal ?_
          refine T.cond ((r19 == 0)) rfl (fun h => ?_) (fun h => ?_)
          · replace H := cond_t h H
            refine T.region ?_
            refine TL.st rfl rfl rfl (o_fieldAddr rfl rfl rfl tyS_3 (by decide) rfl rfl ⟨_, rfl, Nat.le_of_ble_eq_true rfl⟩) ?_
            refine TL.st rfl rfl rfl (o_loadBx rfl tyS_3 rfl rfl (Nat.le_of_ble_eq_true rfl) rfl) ?_
            refine TL.sn rfl rfl (o_storeBx rfl tyS_3 rfl rfl rfl rfl (Nat.le_of_ble_eq_true rfl) rfl) ?_
            refine TL.nil ?_
            exact Pk.go (fr' := [(9, .bx 3 0), (13, .fn 27 [] [.bx 3 0, .bx 5 0, .bx 1 0, .bx 4 0, .bx 7 0, .bx 2 0, .bx 0 0]), (14, .hd 8 (l9.map (c_int .i64)).length 0 (l9.map (c_int .i64)).length), (17, .int .i64 r19), (54, .im b1 (a3.map (c_T_impl_RecoverEvent false))), (55, .int .i64 (a3.length : Int)), (56, .int .i64 v10)]) (σ' := [.box [.int .i64 a0], .box [.int .i64 a1], .box [.im b0 (a2.map (c_str))], .box [.int .i64 e17.Time_], .box [.int .i64 o21], .box [.bool o20], mpO (V.str) (V.bool) o22, .box [.mp 6], .arr .clo 1 (l9.map (c_int .i64)), .box (c_T_impl_RecoverEvent false e17)]) _ rfl rfl ⟨(bels_iff.1 rfl), ⟨(bels_iff.1 rfl), ⟨(bels_iff.1 rfl), ⟨(bels_iff.1 rfl), ⟨(bels_iff.1 rfl), ⟨(bels_iff.1 rfl), ⟨(belMap fun _ => rfl), ⟨(bels_iff.1 rfl), ⟨trivial, ⟨(bels_iff.1 rfl), trivial⟩⟩⟩⟩⟩⟩⟩⟩⟩⟩ (.cons 9 _ (.bx 3 0) _ rfl (.same _) rfl (.cons 13 _ (.fn 27 [] [.bx 3 0, .bx 5 0, .bx 1 0, .bx 4 0, .bx 7 0, .bx 2 0, .bx 0 0]) _ rfl (.same _) rfl (.cons 14 _ (.hd 8 (l9.map (c_int .i64)).length 0 (l9.map (c_int .i64)).length) _ rfl (.same _) rfl (.cons 17 _ (.int .i64 r19) _ rfl (.same _) rfl (.cons 54 _ (.im b1 (a3.map (c_T_impl_RecoverEvent false))) _ rfl (.same _) rfl (.cons 55 _ (.int .i64 (a3.length : Int)) _ rfl (.same _) rfl (.cons 56 _ (.int .i64 v10) _ rfl (.same _) rfl .nil))))))) (thn_normal ⟨e17.Time_, rfl, rfl, H⟩)
          · replace H := cond_f h H
            refine T.skip ?_
            exact Pk.go (fr' := [(9, .bx 3 0), (13, .fn 27 [] [.bx 3 0, .bx 5 0, .bx 1 0, .bx 4 0, .bx 7 0, .bx 2 0, .bx 0 0]), (14, .hd 8 (l9.map (c_int .i64)).length 0 (l9.map (c_int .i64)).length), (17, .int .i64 r19), (54, .im b1 (a3.map (c_T_impl_RecoverEvent false))), (55, .int .i64 (a3.length : Int)), (56, .int .i64 v10)]) (σ' := [.box [.int .i64 a0], .box [.int .i64 a1], .box [.im b0 (a2.map (c_str))], .box [.int .i64 b5], .box [.int .i64 o21], .box [.bool o20], mpO (V.str) (V.bool) o22, .box [.mp 6], .arr .clo 1 (l9.map (c_int .i64)), .box (c_T_impl_RecoverEvent false e17)]) _ rfl rfl ⟨(bels_iff.1 rfl), ⟨(bels_iff.1 rfl), ⟨(bels_iff.1 rfl), ⟨(bels_iff.1 rfl), ⟨(bels_iff.1 rfl), ⟨(bels_iff.1 rfl), ⟨(belMap fun _ => rfl), ⟨(bels_iff.1 rfl), ⟨trivial, ⟨(bels_iff.1 rfl), trivial⟩⟩⟩⟩⟩⟩⟩⟩⟩⟩ (.cons 9 _ (.bx 3 0) _ rfl (.same _) rfl (.cons 13 _ (.fn 27 [] [.bx 3 0, .bx 5 0, .bx 1 0, .bx 4 0, .bx 7 0, .bx 2 0, .bx 0 0]) _ rfl (.same _) rfl (.cons 14 _ (.hd 8 (l9.map (c_int .i64)).length 0 (l9.map (c_int .i64)).length) _ rfl (.same _) rfl (.cons 17 _ (.int .i64 r19) _ rfl (.same _) rfl (.cons 54 _ (.im b1 (a3.map (c_T_impl_RecoverEvent false))) _ rfl (.same _) rfl (.cons 55 _ (.int .i64 (a3.length : Int)) _ rfl (.same _) rfl (.cons 56 _ (.int .i64 v10) _ rfl (.same _) rfl .nil))))))) (thn_normal ⟨b5, rfl, rfl, H⟩)
        · rintro _ _ ⟨b24, rfl, rfl, H⟩
          refine T.region ?_
          refine TL.st rfl rfl rfl (o_move rfl rfl) ?_
          refine TL.st rfl rfl rfl (o_move rfl rfl) ?_
          refine TL.st rfl rfl rfl (o_sliceIm rfl rfl tyS_3 ⟨_, rfl, rfl⟩ (by decide) rfl rfl rfl rfl rfl rfl) ?_
          obtain ⟨l25, h26, H⟩ := bind_s H
          refine TL.st rfl rfl rfl (o_ap (f := c_int .i64) (xs := l9) (ys := ([r19] : List Int)) rfl rfl tyE_3 rfl rfl rfl rfl (by decide) rfl (fun _ => rfl) h26) ?_
          refine TL.st rfl rfl rfl (o_assign rfl rfl) ?_
          refine TL.nil ?_
          refine inB_normal ?_
          refine thn_normal ?_
          refine T.region ?_
          refine TL.st rfl rfl rfl (o_ari rfl rfl rfl rfl) ?_
          refine TL.st rfl rfl rfl (o_move rfl rfl) ?_
          refine TL.nil ?_
          exact Pk.go (fr' := [(9, .bx 3 0), (13, .fn 27 [] [.bx 3 0, .bx 5 0, .bx 1 0, .bx 4 0, .bx 7 0, .bx 2 0, .bx 0 0]), (14, .hd 8 (l25.map (c_int .i64)).length 0 (l25.map (c_int .i64)).length), (54, .im b1 (a3.map (c_T_impl_RecoverEvent false))), (55, .int .i64 (a3.length : Int)), (56, .int .i64 (IntKind.i64.wrap (v10 + 1)))]) (σ' := [.box [.int .i64 a0], .box [.int .i64 a1], .box [.im b0 (a2.map (c_str))], .box [.int .i64 b24], .box [.int .i64 o21], .box [.bool o20], mpO (V.str) (V.bool) o22, .box [.mp 6], .arr .clo 1 (l25.map (c_int .i64))]) _ rfl rfl ⟨(bels_iff.1 rfl), ⟨(bels_iff.1 rfl), ⟨(bels_iff.1 rfl), ⟨(bels_iff.1 rfl), ⟨(bels_iff.1 rfl), ⟨(bels_iff.1 rfl), ⟨(belMap fun _ => rfl), ⟨(bels_iff.1 rfl), ⟨trivial, trivial⟩⟩⟩⟩⟩⟩⟩⟩⟩ (.cons 9 _ (.bx 3 0) _ rfl (.same _) rfl (.cons 13 _ (.fn 27 [] [.bx 3 0, .bx 5 0, .bx 1 0, .bx 4 0, .bx 7 0, .bx 2 0, .bx 0 0]) _ rfl (.same _) rfl (.cons 14 _ (.hd 8 (l25.map (c_int .i64)).length 0 (l25.map (c_int .i64)).length) _ rfl (.same _) rfl (.cons 54 _ (.im b1 (a3.map (c_T_impl_RecoverEvent false))) _ rfl (.same _) rfl (.cons 55 _ (.int .i64 (a3.length : Int)) _ rfl (.same _) rfl (.cons 56 _ (.int .i64 (IntKind.i64.wrap (v10 + 1))) _ rfl (.same _) rfl .nil)))))) (thn_normal ⟨(b24, o21, o20, o22, l25, (IntKind.i64.wrap (v10 + 1))), (some_i H).symm, rfl, rfl⟩)
      · replace H := cond_f h H
        refine T.exit ?_
        refine thn_exit ?_
        exact Pk.go (fr' := [(14, .hd 8 (l9.map (c_int .i64)).length 0 (l9.map (c_int .i64)).length)]) (σ' := [.box [.int .i64 a0], .box [.int .i64 a1], .box [.im b0 (a2.map (c_str))], .box [.int .i64 b5], .box [.int .i64 b6], .box [.bool b7], mpO (V.str) (V.bool) m8, .box [.mp 6], .arr .clo 1 (l9.map (c_int .i64))]) _ rfl rfl ⟨(bels_iff.1 rfl), ⟨(bels_iff.1 rfl), ⟨(bels_iff.1 rfl), ⟨(bels_iff.1 rfl), ⟨(bels_iff.1 rfl), ⟨(bels_iff.1 rfl), ⟨(belMap fun _ => rfl), ⟨(bels_iff.1 rfl), ⟨trivial, trivial⟩⟩⟩⟩⟩⟩⟩⟩⟩ (.cons 14 _ (.hd 8 (l9.map (c_int .i64)).length 0 (l9.map (c_int .i64)).length) _ rfl (.same _) rfl .nil) (thn_exit ⟨(b5, b6, b7, m8, l9), (some_i H).symm, rfl, rfl, rfl⟩)
    · rintro ⟨b5, b6, b7, m8, l9, v10⟩ ⟨b5', b6', b7', m8', l9', v10'⟩; rfl
    · rintro ⟨b5, b6, b7, m8, l9, v10⟩; exact ⟨(bels_iff.1 rfl), ⟨(bels_iff.1 rfl), ⟨(bels_iff.1 rfl), ⟨(bels_iff.1 rfl), ⟨(bels_iff.1 rfl), ⟨(bels_iff.1 rfl), ⟨(belMap fun _ => rfl), ⟨(bels_iff.1 rfl), ⟨trivial, trivial⟩⟩⟩⟩⟩⟩⟩⟩⟩
    · rintro ⟨b5, b6, b7, m8, l9, v10⟩; exact (.cons _ _ _ rfl rfl (.cons _ _ _ rfl rfl (.cons _ _ _ rfl rfl (.cons _ _ _ rfl rfl (.cons _ _ _ rfl rfl (.cons _ _ _ rfl rfl .nil))))))
    · rcases q27 with ⟨b11, b12, b13, m14, l15⟩
      rintro _ _ _ ⟨rfl, rfl, rfl⟩
      refine inB_here ?_
      refine thn_normal ?_
      refine T.seq ?_
      refine T.region ?_
      refine TL.st rfl rfl rfl (o_move rfl rfl) ?_
      refine TL.st rfl rfl rfl (o_assign rfl rfl) ?_
      refine TL.nil ?_
      refine thn_normal ?_
      refine T.ret ?_
      cases some_i H
      exact ⟨trivial, _, (.tmp _ _ _ _ rfl .nil), (.own rfl (by decide) rfl)⟩
theorem en_6 (us : Array Value) (w : World) : (callFunc 6 us).run Go.Proofs.Try.prog w = .ok (.enter 6 us) w := enters Go.Proofs.Try.func6 rfl rfl us w
noncomputable def spec_l1CmpNum (a0 : Int) (a1 : Int) : Option Int :=
  cond (decide (a0 < a1)) (some (-1)) (cond (decide (a0 > a1)) (some 1) (some 0))
theorem spec_l1CmpNum_p  {a0 : Int} {a1 : Int} {R0 : Int} (H : spec_l1CmpNum a0 a1 = some R0) : Pure Go.Proofs.Try.prog 48 [.int .i64 a0, .int .i64 a1] (.int .i64 R0) := by
  refine CallT.of_TN (n := 11) Go.Proofs.Try.func48 rfl rfl rfl rfl ?_
  refine T.seq ?_
  refine T.region ?_
  refine TL.st rfl rfl rfl (o_assign rfl rfl) ?_
  refine TL.nil ?_
  refine thn_normal ?_
  refine T.seq ?_
  refine T.seq ?_
  refine T.region ?_
  refine TL.st rfl rfl rfl (o_move rfl rfl) ?_
  refine TL.st rfl rfl rfl (o_move rfl rfl) ?_
  refine TL.st rfl rfl rfl (o_ari rfl rfl rfl rfl) ?_
  refine TL.nil ?_
  refine thn_normal ?_
  refine T.cond (decide (a0 < a1)) rfl (fun h => ?_) (fun h => ?_)
  · replace H := cond_t h H
    refine T.seq ?_
    refine T.region ?_
    refine TL.st rfl rfl rfl (o_assign rfl rfl) ?_
    refine TL.nil ?_
    refine thn_normal ?_
    refine T.ret ?_
    refine thn_ret ?_
    cases some_i H
    exact ⟨trivial, _, (.tmp _ _ _ _ rfl .nil), (.cl _ rfl)⟩
  · replace H := cond_f h H
    refine T.skip ?_
    refine thn_normal ?_
    refine T.seq ?_
    refine T.seq ?_
    refine T.region ?_
    refine TL.st rfl rfl rfl (o_move rfl rfl) ?_
    refine TL.st rfl rfl rfl (o_move rfl rfl) ?_
    refine TL.st rfl rfl rfl (o_ari rfl rfl rfl rfl) ?_
    refine TL.nil ?_
    refine thn_normal ?_
    refine T.cond (decide (a0 > a1)) rfl (fun h => ?_) (fun h => ?_)
    · replace H := cond_t h H
      refine T.seq ?_
      refine T.region ?_
      refine TL.st rfl rfl rfl (o_assign rfl rfl) ?_
      refine TL.nil ?_
      refine thn_normal ?_
      refine T.ret ?_
      refine thn_ret ?_
      cases some_i H
      exact ⟨trivial, _, (.tmp _ _ _ _ rfl .nil), (.cl _ rfl)⟩
    · replace H := cond_f h H
      refine T.skip ?_
      refine thn_normal ?_
      refine T.seq ?_
      refine T.region ?_
      refine TL.st rfl rfl rfl (o_assign rfl rfl) ?_
      refine TL.nil ?_
      refine thn_normal ?_
      refine T.ret ?_
      cases some_i H
      exact ⟨trivial, _, (.tmp _ _ _ _ rfl .nil), (.cl _ rfl)⟩
theorem en_48 (us : Array Value) (w : World) : (callFunc 48 us).run Go.Proofs.Try.prog w = .ok (.enter 48 us) w := enters Go.Proofs.Try.func48 rfl rfl us w
noncomputable def spec_l1CmpText_l1 (a0 : ByteArray) (a1 : ByteArray) : Int → Option (Int ⊕ (Unit ⊕ Int)) := fun s => match s with
  | v1 => cond (decide (v1 < (a0.size : Int)) && decide (v1 < (a1.size : Int))) ((idxS a0 v1).bind fun b6 => (idxS a1 v1).bind fun b8 => cond (b6 != b8) ((idxS a0 v1).bind fun b10 => (idxS a1 v1).bind fun b12 => (spec_l1CmpNum (IntKind.i64.wrap b10) (IntKind.i64.wrap b12)).bind fun r14 => some (.inr (.inr r14))) (some (.inl (IntKind.i64.wrap (v1 + 1))))) (some (.inr (.inl ())))
noncomputable def spec_l1CmpText (a0 : ByteArray) (a1 : ByteArray) : Option Int :=
  (loopO (spec_l1CmpText_l1 a0 a1) 0).bind fun q16 => (match q16 with | .inl _ => (spec_l1CmpNum (a0.size : Int) (a1.size : Int)).bind fun r3 => some r3 | .inr q2 => some q2)
theorem spec_l1CmpText_p  {a0 : ByteArray} {a1 : ByteArray} {R0 : Int} (H : spec_l1CmpText a0 a1 = some R0) : Pure Go.Proofs.Try.prog 41 [.str a0, .str a1] (.int .i64 R0) := by
  refine CallT.of_TN (n := 39) Go.Proofs.Try.func41 rfl rfl rfl rfl ?_
  refine T.seq ?_
  refine T.region ?_
  refine TL.st rfl rfl rfl (o_assign rfl rfl) ?_
  refine TL.nil ?_
  refine thn_normal ?_
  refine T.seq ?_
  refine T.seq ?_
  refine T.region ?_
  refine TL.st rfl rfl rfl (o_assign rfl rfl) ?_
  refine TL.nil ?_
  refine thn_normal ?_
  refine T.block ?_
  obtain ⟨q16, h17, H⟩ := bind_s H
  refine T.to (.cons 0 _ (.str a0) _ rfl (.same _) rfl (.cons 1 _ (.str a1) _ rfl (.same _) rfl (.cons 5 _ (.int .i64 0) _ rfl (.same _) rfl .nil))) ?_
  refine T.lp (fun s => match s with | v1 => [(0, .str a0), (1, .str a1), (5, .int .i64 v1)]) (fun s => match s with | v1 => []) (fun q ex fr σ => match q with | .inl _ => ex = .exit 0 ∧ fr = [(0, .str a0), (1, .str a1)] ∧ σ = [] | .inr q2 => ex = .ret ∧ RetN Go.Proofs.Try.prog [.tmp 4] (fun v τ => Told τ v (.int .i64 q2)) .ret fr σ) h17 ?_ ?_ ?_ ?_ ?_
  · rintro v1 y5 H
    refine T.seq ?_
    refine T.seq ?_
    refine T.region ?_
    refine TL.st rfl rfl rfl (o_move rfl rfl) ?_
    refine TL.st rfl rfl rfl (o_move rfl rfl) ?_
    refine TL.st rfl rfl rfl (o_lenS rfl rfl rfl) ?_
    refine TL.st rfl rfl rfl (o_ari rfl rfl rfl rfl) ?_
    refine TL.st rfl rfl rfl (o_move rfl rfl) ?_
    refine TL.gcq rfl rfl rfl (.bool _) rfl rfl (fun h => o_move rfl rfl) ?_
    refine TL.gcq rfl rfl rfl (.bool _) rfl rfl (fun h => o_move rfl rfl) ?_
    refine TL.gcq rfl rfl rfl (.bool _) rfl rfl (fun h => o_lenS rfl rfl (gv h rfl)) ?_
    refine TL.gcq rfl rfl rfl (.bool _) rfl rfl (fun h => o_ari rfl (gv h rfl) (gv h rfl) rfl) ?_
    refine TL.st rfl rfl rfl (o_and rfl rfl rfl (fun k => Gd_t k) rfl) ?_
    refine TL.nil ?_
    refine thn_normal ?_
    refine T.cond ((decide (v1 < (a0.size : Int)) && decide (v1 < (a1.size : Int)))) rfl (fun h => ?_) (fun h => ?_)
    · replace H := cond_t h H
      refine T.skip ?_
      refine thn_normal ?_
      refine T.seq ?_
      refine T.block ?_
      refine T.seq ?_
      refine T.drawn rfl ?_
      refine TD.qs rfl rfl (fun _ => o_move rfl rfl) ?_
      refine TD.qs rfl rfl (fun _ => o_move rfl rfl) ?_
      obtain ⟨b6, h7, H⟩ := bind_s H
      refine TD.qs rfl rfl (fun _ => o_ixs rfl rfl rfl rfl h7) ?_
      refine TD.qs rfl rfl (fun _ => o_move rfl rfl) ?_
      refine TD.qs rfl rfl (fun _ => o_move rfl rfl) ?_
      obtain ⟨b8, h9, H⟩ := bind_s H
      refine TD.qs rfl rfl (fun _ => o_ixs rfl rfl rfl rfl h9) ?_
      refine TD.qs rfl rfl (fun _ => o_ari rfl rfl rfl rfl) ?_
      refine TD.nil ⟨rfl, ?_⟩
      refine thn_normal ?_
      refine T.cond ((b6 != b8)) rfl (fun h => ?_) (fun h => ?_)
      · replace H := cond_t h H
        refine T.seq ?_
        refine T.drawn rfl ?_
        refine TD.qs rfl rfl (fun _ => o_move rfl rfl) ?_
        refine TD.qs rfl rfl (fun _ => o_move rfl rfl) ?_
        obtain ⟨b10, h11, H⟩ := bind_s H
        refine TD.qs rfl rfl (fun _ => o_ixs rfl rfl rfl rfl h11) ?_
        refine TD.qs rfl rfl (fun _ => o_conv rfl rfl ⟨_, rfl⟩ rfl) ?_
        refine TD.qs rfl rfl (fun _ => o_move rfl rfl) ?_
        refine TD.qs rfl rfl (fun _ => o_move rfl rfl) ?_
        obtain ⟨b12, h13, H⟩ := bind_s H
        refine TD.qs rfl rfl (fun _ => o_ixs rfl rfl rfl rfl h13) ?_
        refine TD.qs rfl rfl (fun _ => o_conv rfl rfl ⟨_, rfl⟩ rfl) ?_
        obtain ⟨r14, h15, H⟩ := bind_s H
        refine TD.qs rfl rfl (fun _ => o_callP rfl en_48 rfl rfl (.cons _ _ _ _ (.cl _ rfl) (.cons _ _ _ _ (.cl _ rfl) .nil)) (spec_l1CmpNum_p  h15)) ?_
        refine TD.qs rfl rfl (fun _ => o_assign rfl rfl) ?_
        refine TD.nil ⟨rfl, ?_⟩
        refine thn_normal ?_
        refine T.ret ?_
        refine inB_ret ?_
        refine thn_ret ?_
        exact Pk.id (thn_ret ⟨.inr r14, (some_i H).symm, rfl, ⟨trivial, _, (.tmp _ _ _ _ rfl .nil), (.cl _ rfl)⟩⟩)
      · replace H := cond_f h H
        refine T.skip ?_
        refine inB_normal ?_
        refine thn_normal ?_
        refine T.region ?_
        refine TL.st rfl rfl rfl (o_move rfl rfl) ?_
        refine TL.st rfl rfl rfl (o_ari rfl rfl rfl rfl) ?_
        refine TL.st rfl rfl rfl (o_assign rfl rfl) ?_
        refine TL.nil ?_
        exact Pk.go (fr' := [(0, .str a0), (1, .str a1), (5, .int .i64 (IntKind.i64.wrap (v1 + 1)))]) (σ' := []) _ rfl rfl trivial (.cons 0 _ (.str a0) _ rfl (.same _) rfl (.cons 1 _ (.str a1) _ rfl (.same _) rfl (.cons 5 _ (.int .i64 (IntKind.i64.wrap (v1 + 1))) _ rfl (.same _) rfl .nil))) (thn_normal ⟨(IntKind.i64.wrap (v1 + 1)), (some_i H).symm, rfl, rfl⟩)
    · replace H := cond_f h H
      refine T.exit ?_
      refine thn_exit ?_
      exact Pk.go (fr' := [(0, .str a0), (1, .str a1)]) (σ' := []) _ rfl rfl trivial (.cons 0 _ (.str a0) _ rfl (.same _) rfl (.cons 1 _ (.str a1) _ rfl (.same _) rfl .nil)) (thn_exit ⟨.inl (), (some_i H).symm, rfl, rfl, rfl⟩)
  · rintro v1 v1'; rfl
  · rintro v1; exact trivial
  · rintro v1; exact (.cons _ _ _ rfl rfl (.cons _ _ _ rfl rfl (.cons _ _ _ rfl rfl .nil)))
  · rcases q16 with ⟨⟩ | q2
    · rintro _ _ _ ⟨rfl, rfl, rfl⟩
      refine inB_here ?_
      refine thn_normal ?_
      refine T.seq ?_
      refine T.region ?_
      refine TL.st rfl rfl rfl (o_move rfl rfl) ?_
      refine TL.st rfl rfl rfl (o_lenS rfl rfl rfl) ?_
      refine TL.st rfl rfl rfl (o_move rfl rfl) ?_
      refine TL.st rfl rfl rfl (o_lenS rfl rfl rfl) ?_
      obtain ⟨r3, h4, H⟩ := bind_s H
      refine TL.st rfl rfl rfl (o_callP rfl en_48 rfl rfl (.cons _ _ _ _ (.cl _ rfl) (.cons _ _ _ _ (.cl _ rfl) .nil)) (spec_l1CmpNum_p  h4)) ?_
      refine TL.st rfl rfl rfl (o_assign rfl rfl) ?_
      refine TL.nil ?_
      refine thn_normal ?_
      refine T.ret ?_
      cases some_i H
      exact ⟨trivial, _, (.tmp _ _ _ _ rfl .nil), (.cl _ rfl)⟩
    · rintro _ fr1 σ1 ⟨rfl, hr⟩
      refine inB_ret ?_
      refine thn_ret ?_
      cases some_i H
      exact hr
theorem en_41 (us : Array Value) (w : World) : (callFunc 41 us).run Go.Proofs.Try.prog w = .ok (.enter 41 us) w := enters Go.Proofs.Try.func41 rfl rfl us w
noncomputable def spec_l3Rising_l1 (a0 : (List ByteArray)) : Int → Option (Int ⊕ (Unit ⊕ Bool)) := fun s => match s with
  | v1 => cond (decide (v1 < (a0.length : Int))) ((idx a0 (IntKind.i64.wrap (v1 - 1))).bind fun e4 => (idx a0 v1).bind fun e6 => (spec_l1CmpText e4 e6).bind fun r8 => cond (decide (r8 ≥ 0)) (some (.inr (.inr false))) (some (.inl (IntKind.i64.wrap (v1 + 1))))) (some (.inr (.inl ())))
noncomputable def spec_l3Rising (a0 : (List ByteArray)) : Option Bool :=
  (loopO (spec_l3Rising_l1 a0) 1).bind fun q10 => (match q10 with | .inl _ => some true | .inr q2 => some q2)
theorem spec_l3Rising_p (b0 : Bool) {a0 : (List ByteArray)} {R0 : Bool} (H : spec_l3Rising a0 = some R0) : Pure Go.Proofs.Try.prog 29 [.im b0 (a0.map (c_str))] (.bool R0) := by
  refine CallT.of_TN (n := 21) Go.Proofs.Try.func29 rfl rfl rfl rfl ?_
  refine T.seq ?_
  refine T.region ?_
  refine TL.st rfl rfl rfl (o_assign rfl rfl) ?_
  refine TL.nil ?_
  refine thn_normal ?_
  refine T.seq ?_
  refine T.seq ?_
  refine T.region ?_
  refine TL.st rfl rfl rfl (o_assign rfl rfl) ?_
  refine TL.nil ?_
  refine thn_normal ?_
  refine T.block ?_
  obtain ⟨q10, h11, H⟩ := bind_s H
  refine T.to (.cons 0 _ (.im b0 (a0.map (c_str))) _ rfl (.same _) rfl (.cons 3 _ (.int .i64 1) _ rfl (.same _) rfl .nil)) ?_
  refine T.lp (fun s => match s with | v1 => [(0, .im b0 (a0.map (c_str))), (3, .int .i64 v1)]) (fun s => match s with | v1 => []) (fun q ex fr σ => match q with | .inl _ => ex = .exit 0 ∧ fr = [] ∧ σ = [] | .inr q2 => ex = .ret ∧ RetN Go.Proofs.Try.prog [.tmp 2] (fun v τ => Told τ v (.bool q2)) .ret fr σ) h11 ?_ ?_ ?_ ?_ ?_
  · rintro v1 y3 H
    refine T.seq ?_
    refine T.seq ?_
    refine T.region ?_
    refine TL.st rfl rfl rfl (o_move rfl rfl) ?_
    refine TL.st rfl rfl rfl (o_move rfl rfl) ?_
    refine TL.st rfl rfl rfl (o_lenL (f := c_str) rfl rfl rfl) ?_
    refine TL.st rfl rfl rfl (o_ari rfl rfl rfl rfl) ?_
    refine TL.nil ?_
    refine thn_normal ?_
    refine T.cond (decide (v1 < (a0.length : Int))) rfl (fun h => ?_) (fun h => ?_)
    · replace H := cond_t h H
      refine T.skip ?_
      refine thn_normal ?_
      refine T.seq ?_
      refine T.block ?_
      refine T.seq ?_
      refine T.drawn rfl ?_
      refine TD.qs rfl rfl (fun _ => o_move rfl rfl) ?_
      refine TD.qs rfl rfl (fun _ => o_move rfl rfl) ?_
      refine TD.qs rfl rfl (fun _ => o_ari rfl rfl rfl rfl) ?_
      obtain ⟨e4, h5, H⟩ := bind_s H
      refine TD.qs rfl rfl (fun _ => o_ix (f := c_str) rfl rfl tyS_9 rfl rfl h5 rfl) ?_
      refine TD.qs rfl rfl (fun _ => o_loadRf rfl tyS_9 rfl (Nat.le_of_ble_eq_true rfl) rfl) ?_
      refine TD.qs rfl rfl (fun _ => o_move rfl rfl) ?_
      refine TD.qs rfl rfl (fun _ => o_move rfl rfl) ?_
      obtain ⟨e6, h7, H⟩ := bind_s H
      refine TD.qs rfl rfl (fun _ => o_ix (f := c_str) rfl rfl tyS_9 rfl rfl h7 rfl) ?_
      refine TD.qs rfl rfl (fun _ => o_loadRf rfl tyS_9 rfl (Nat.le_of_ble_eq_true rfl) rfl) ?_
      obtain ⟨r8, h9, H⟩ := bind_s H
      refine TD.qs rfl rfl (fun _ => o_callP rfl en_41 rfl rfl (.cons _ _ _ _ (.cl _ rfl) (.cons _ _ _ _ (.cl _ rfl) .nil)) (spec_l1CmpText_p  h9)) ?_
      refine TD.qs rfl rfl (fun _ => o_ari rfl rfl rfl rfl) ?_
      refine TD.nil ⟨rfl, ?_⟩
      refine thn_normal ?_
      refine T.cond (decide (r8 ≥ 0)) rfl (fun h => ?_) (fun h => ?_)
      · replace H := cond_t h H
        refine T.seq ?_
        refine T.region ?_
        refine TL.st rfl rfl rfl (o_assign rfl rfl) ?_
        refine TL.nil ?_
        refine thn_normal ?_
        refine T.ret ?_
        refine inB_ret ?_
        refine thn_ret ?_
        exact Pk.id (thn_ret ⟨.inr false, (some_i H).symm, rfl, ⟨trivial, _, (.tmp _ _ _ _ rfl .nil), (.cl _ rfl)⟩⟩)
      · replace H := cond_f h H
        refine T.skip ?_
        refine inB_normal ?_
        refine thn_normal ?_
        refine T.region ?_
        refine TL.st rfl rfl rfl (o_move rfl rfl) ?_
        refine TL.st rfl rfl rfl (o_ari rfl rfl rfl rfl) ?_
        refine TL.st rfl rfl rfl (o_assign rfl rfl) ?_
        refine TL.nil ?_
        exact Pk.go (fr' := [(0, .im b0 (a0.map (c_str))), (3, .int .i64 (IntKind.i64.wrap (v1 + 1)))]) (σ' := []) _ rfl rfl trivial (.cons 0 _ (.im b0 (a0.map (c_str))) _ rfl (.same _) rfl (.cons 3 _ (.int .i64 (IntKind.i64.wrap (v1 + 1))) _ rfl (.same _) rfl .nil)) (thn_normal ⟨(IntKind.i64.wrap (v1 + 1)), (some_i H).symm, rfl, rfl⟩)
    · replace H := cond_f h H
      refine T.exit ?_
      refine thn_exit ?_
      exact Pk.go (fr' := []) (σ' := []) _ rfl rfl trivial .nil (thn_exit ⟨.inl (), (some_i H).symm, rfl, rfl, rfl⟩)
  · rintro v1 v1'; rfl
  · rintro v1; exact trivial
  · rintro v1; exact (.cons _ _ _ rfl rfl (.cons _ _ _ rfl rfl .nil))
  · rcases q10 with ⟨⟩ | q2
    · rintro _ _ _ ⟨rfl, rfl, rfl⟩
      refine inB_here ?_
      refine thn_normal ?_
      refine T.seq ?_
      refine T.region ?_
      refine TL.st rfl rfl rfl (o_assign rfl rfl) ?_
      refine TL.nil ?_
      refine thn_normal ?_
      refine T.ret ?_
      cases some_i H
      exact ⟨trivial, _, (.tmp _ _ _ _ rfl .nil), (.cl _ rfl)⟩
    · rintro _ fr1 σ1 ⟨rfl, hr⟩
      refine inB_ret ?_
      refine thn_ret ?_
      cases some_i H
      exact hr
theorem en_29 (us : Array Value) (w : World) : (callFunc 29 us).run Go.Proofs.Try.prog w = .ok (.enter 29 us) w := enters Go.Proofs.Try.func29 rfl rfl us w
noncomputable def spec_l1Digit (a0 : Int) : Option Bool :=
  some (decide (a0 ≥ 48) && decide (a0 ≤ 57))
theorem spec_l1Digit_p  {a0 : Int} {R0 : Bool} (H : spec_l1Digit a0 = some R0) : Pure Go.Proofs.Try.prog 42 [.int .u8 a0] (.bool R0) := by
  refine CallT.of_TN (n := 9) Go.Proofs.Try.func42 rfl rfl rfl rfl ?_
  refine T.seq ?_
  refine T.region ?_
  refine TL.st rfl rfl rfl (o_assign rfl rfl) ?_
  refine TL.nil ?_
  refine thn_normal ?_
  refine T.seq ?_
  refine T.region ?_
  refine TL.st rfl rfl rfl (o_move rfl rfl) ?_
  refine TL.st rfl rfl rfl (o_ari rfl rfl rfl rfl) ?_
  refine TL.st rfl rfl rfl (o_move rfl rfl) ?_
  refine TL.gcq rfl rfl rfl (.bool _) rfl rfl (fun h => o_move rfl rfl) ?_
  refine TL.gcq rfl rfl rfl (.bool _) rfl rfl (fun h => o_ari rfl (gv h rfl) rfl rfl) ?_
  refine TL.st rfl rfl rfl (o_and rfl rfl rfl (fun k => Gd_t k) rfl) ?_
  refine TL.st rfl rfl rfl (o_assign rfl rfl) ?_
  refine TL.nil ?_
  refine thn_normal ?_
  refine T.ret ?_
  cases some_i H
  exact ⟨trivial, _, (.tmp _ _ _ _ rfl .nil), (.cl _ rfl)⟩
theorem en_42 (us : Array Value) (w : World) : (callFunc 42 us).run Go.Proofs.Try.prog w = .ok (.enter 42 us) w := enters Go.Proofs.Try.func42 rfl rfl us w
noncomputable def spec_l1Letter (a0 : Int) : Option Bool :=
  some ((decide (a0 ≥ 97) && decide (a0 ≤ 122)) || (decide (a0 ≥ 65) && decide (a0 ≤ 90)))
theorem spec_l1Letter_p  {a0 : Int} {R0 : Bool} (H : spec_l1Letter a0 = some R0) : Pure Go.Proofs.Try.prog 43 [.int .u8 a0] (.bool R0) := by
  refine CallT.of_TN (n := 17) Go.Proofs.Try.func43 rfl rfl rfl rfl ?_
  refine T.seq ?_
  refine T.region ?_
  refine TL.st rfl rfl rfl (o_assign rfl rfl) ?_
  refine TL.nil ?_
  refine thn_normal ?_
  refine T.seq ?_
  refine T.region ?_
  refine TL.st rfl rfl rfl (o_move rfl rfl) ?_
  refine TL.st rfl rfl rfl (o_ari rfl rfl rfl rfl) ?_
  refine TL.st rfl rfl rfl (o_move rfl rfl) ?_
  refine TL.gcq rfl rfl rfl (.bool _) rfl rfl (fun h => o_move rfl rfl) ?_
  refine TL.gcq rfl rfl rfl (.bool _) rfl rfl (fun h => o_ari rfl (gv h rfl) rfl rfl) ?_
  refine TL.st rfl rfl rfl (o_and rfl rfl rfl (fun k => Gd_t k) rfl) ?_
  refine TL.st rfl rfl rfl (o_move rfl rfl) ?_
  refine TL.gcq rfl rfl rfl (.bool _) rfl rfl (fun h => o_move rfl rfl) ?_
  refine TL.gcq rfl rfl rfl (.bool _) rfl rfl (fun h => o_ari rfl (gv h rfl) rfl rfl) ?_
  refine TL.gcq rfl rfl rfl (.bool _) rfl rfl (fun h => o_move rfl (gv h rfl)) ?_
  refine TL.gcq rfl rfl rfl (.gd _ _) rfl rfl (fun h => o_move rfl rfl) ?_
  refine TL.gcq rfl rfl rfl (.gd _ _) rfl rfl (fun h => o_ari rfl (gv h rfl) rfl rfl) ?_
  refine TL.gcq rfl rfl rfl (.bool _) rfl rfl (fun h => o_and rfl (gv h rfl) rfl (fun k => Gd_t (andi h k)) rfl) ?_
  refine TL.st rfl rfl rfl (o_or rfl rfl rfl rfl (fun k => Gd_t k)) ?_
  refine TL.st rfl rfl rfl (o_assign rfl rfl) ?_
  refine TL.nil ?_
  refine thn_normal ?_
  refine T.ret ?_
  cases some_i H
  exact ⟨trivial, _, (.tmp _ _ _ _ rfl .nil), (.cl _ rfl)⟩
theorem en_43 (us : Array Value) (w : World) : (callFunc 43 us).run Go.Proofs.Try.prog w = .ok (.enter 43 us) w := enters Go.Proofs.Try.func43 rfl rfl us w
noncomputable def spec_GoodName_l1 (a0 : ByteArray) : Int → Option (Int ⊕ (Unit ⊕ Bool)) := fun s => match s with
  | v5 => cond (decide (v5 < (a0.size : Int))) ((idxS a0 v5).bind fun b8 => (spec_l1Letter b8).bind fun r10 => (gdO (!r10) (idxS a0 v5)).bind fun b12 => (gdO (!r10) (spec_l1Digit b12)).bind fun r14 => (gdO ((!r10) && (!r14)) (idxS a0 v5)).bind fun b16 => cond (((!r10) && (!r14)) && (b16 != 95)) (some (.inr (.inr false))) (some (.inl (IntKind.i64.wrap (v5 + 1))))) (some (.inr (.inl ())))
noncomputable def spec_GoodName (a0 : ByteArray) : Option Bool :=
  (gdO (!(decide ((a0.size : Int) < 1) || decide ((a0.size : Int) > 30))) (idxS a0 0)).bind fun b1 => (gdO (!(decide ((a0.size : Int) < 1) || decide ((a0.size : Int) > 30))) (spec_l1Digit b1)).bind fun r3 => cond ((decide ((a0.size : Int) < 1) || decide ((a0.size : Int) > 30)) || r3) (some false) ((loopO (spec_GoodName_l1 a0) 0).bind fun q18 => (match q18 with | .inl _ => some true | .inr q6 => some q6))
theorem spec_GoodName_p  {a0 : ByteArray} {R0 : Bool} (H : spec_GoodName a0 = some R0) : Pure Go.Proofs.Try.prog 30 [.str a0] (.bool R0) := by
  refine CallT.of_TN (n := 41) Go.Proofs.Try.func30 rfl rfl rfl rfl ?_
  refine T.seq ?_
  refine T.region ?_
  refine TL.st rfl rfl rfl (o_assign rfl rfl) ?_
  refine TL.nil ?_
  refine thn_normal ?_
  refine T.seq ?_
  refine T.seq ?_
  refine T.region ?_
  refine TL.st rfl rfl rfl (o_move rfl rfl) ?_
  refine TL.st rfl rfl rfl (o_lenS rfl rfl rfl) ?_
  refine TL.st rfl rfl rfl (o_ari rfl rfl rfl rfl) ?_
  refine TL.st rfl rfl rfl (o_move rfl rfl) ?_
  refine TL.gcq rfl rfl rfl (.bool _) rfl rfl (fun h => o_move rfl rfl) ?_
  refine TL.gcq rfl rfl rfl (.bool _) rfl rfl (fun h => o_lenS rfl rfl (gv h rfl)) ?_
  refine TL.gcq rfl rfl rfl (.bool _) rfl rfl (fun h => o_ari rfl (gv h rfl) rfl rfl) ?_
  refine TL.st rfl rfl rfl (o_or rfl rfl rfl rfl (fun k => Gd_t k)) ?_
  refine TL.st rfl rfl rfl (o_move rfl rfl) ?_
  refine TL.gcq rfl rfl rfl (.bool _) rfl rfl (fun h => o_move rfl rfl) ?_
  obtain ⟨b1, h2, H⟩ := bind_s H
  refine TL.gcq rfl rfl rfl (.bool _) rfl rfl (fun h => o_ixs rfl rfl (gv h rfl) rfl (gdO_t h2 h)) ?_
  obtain ⟨r3, h4, H⟩ := bind_s H
  refine TL.gcq rfl rfl rfl (.bool _) rfl rfl (fun h => o_callP rfl en_42 rfl (evl_1 (gv h rfl)) (.cons _ _ _ _ (.cl _ rfl) .nil) (spec_l1Digit_p  (gdO_t h4 h))) ?_
  refine TL.st rfl rfl rfl (o_or rfl rfl rfl rfl (fun k => Gd_t k)) ?_
  refine TL.nil ?_
  refine thn_normal ?_
  refine T.cond (((decide ((a0.size : Int) < 1) || decide ((a0.size : Int) > 30)) || r3)) rfl (fun h => ?_) (fun h => ?_)
  · replace H := cond_t h H
    refine T.seq ?_
    refine T.region ?_
    refine TL.st rfl rfl rfl (o_assign rfl rfl) ?_
    refine TL.nil ?_
    refine thn_normal ?_
    refine T.ret ?_
    refine thn_ret ?_
    cases some_i H
    exact ⟨trivial, _, (.tmp _ _ _ _ rfl .nil), (.cl _ rfl)⟩
  · replace H := cond_f h H
    refine T.skip ?_
    refine thn_normal ?_
    refine T.seq ?_
    refine T.seq ?_
    refine T.region ?_
    refine TL.st rfl rfl rfl (o_assign rfl rfl) ?_
    refine TL.nil ?_
    refine thn_normal ?_
    refine T.block ?_
    obtain ⟨q18, h19, H⟩ := bind_s H
    refine T.to (.cons 0 _ (.str a0) _ rfl (.same _) rfl (.cons 3 _ (.int .i64 0) _ rfl (.same _) rfl .nil)) ?_
    refine T.lp (fun s => match s with | v5 => [(0, .str a0), (3, .int .i64 v5)]) (fun s => match s with | v5 => []) (fun q ex fr σ => match q with | .inl _ => ex = .exit 0 ∧ fr = [] ∧ σ = [] | .inr q6 => ex = .ret ∧ RetN Go.Proofs.Try.prog [.tmp 2] (fun v τ => Told τ v (.bool q6)) .ret fr σ) h19 ?_ ?_ ?_ ?_ ?_
    · rintro v5 y7 H
      refine T.seq ?_
      refine T.seq ?_
      refine T.region ?_
      refine TL.st rfl rfl rfl (o_move rfl rfl) ?_
      refine TL.st rfl rfl rfl (o_move rfl rfl) ?_
      refine TL.st rfl rfl rfl (o_lenS rfl rfl rfl) ?_
      refine TL.st rfl rfl rfl (o_ari rfl rfl rfl rfl) ?_
      refine TL.nil ?_
      refine thn_normal ?_
      refine T.cond (decide (v5 < (a0.size : Int))) rfl (fun h => ?_) (fun h => ?_)
      · replace H := cond_t h H
        refine T.skip ?_
        refine thn_normal ?_
        refine T.seq ?_
        refine T.block ?_
        refine T.seq ?_
        refine T.region ?_
        refine TL.st rfl rfl rfl (o_move rfl rfl) ?_
        refine TL.st rfl rfl rfl (o_move rfl rfl) ?_
        obtain ⟨b8, h9, H⟩ := bind_s H
        refine TL.st rfl rfl rfl (o_ixs rfl rfl rfl rfl h9) ?_
        obtain ⟨r10, h11, H⟩ := bind_s H
        refine TL.st rfl rfl rfl (o_callP rfl en_43 rfl rfl (.cons _ _ _ _ (.cl _ rfl) .nil) (spec_l1Letter_p  h11)) ?_
        refine TL.st rfl rfl rfl (o_not rfl rfl) ?_
        refine TL.st rfl rfl rfl (o_move rfl rfl) ?_
        refine TL.gcq rfl rfl rfl (.bool _) rfl rfl (fun h => o_move rfl rfl) ?_
        refine TL.gcq rfl rfl rfl (.bool _) rfl rfl (fun h => o_move rfl rfl) ?_
        obtain ⟨b12, h13, H⟩ := bind_s H
        refine TL.gcq rfl rfl rfl (.bool _) rfl rfl (fun h => o_ixs rfl rfl (gv h rfl) (gv h rfl) (gdO_t h13 h)) ?_
        obtain ⟨r14, h15, H⟩ := bind_s H
        refine TL.gcq rfl rfl rfl (.bool _) rfl rfl (fun h => o_callP rfl en_42 rfl (evl_1 (gv h rfl)) (.cons _ _ _ _ (.cl _ rfl) .nil) (spec_l1Digit_p  (gdO_t h15 h))) ?_
        refine TL.gcq rfl rfl rfl (.bool _) rfl rfl (fun h => o_not rfl (gv h rfl)) ?_
        refine TL.st rfl rfl rfl (o_and rfl rfl rfl (fun k => Gd_t k) rfl) ?_
        refine TL.st rfl rfl rfl (o_move rfl rfl) ?_
        refine TL.gcq rfl rfl rfl (.bool _) rfl rfl (fun h => o_move rfl rfl) ?_
        refine TL.gcq rfl rfl rfl (.bool _) rfl rfl (fun h => o_move rfl rfl) ?_
        obtain ⟨b16, h17, H⟩ := bind_s H
        refine TL.gcq rfl rfl rfl (.bool _) rfl rfl (fun h => o_ixs rfl rfl (gv h rfl) (gv h rfl) (gdO_t h17 h)) ?_
        refine TL.gcq rfl rfl rfl (.bool _) rfl rfl (fun h => o_ari rfl (gv h rfl) rfl rfl) ?_
        refine TL.st rfl rfl rfl (o_and rfl rfl rfl (fun k => Gd_t k) rfl) ?_
        refine TL.nil ?_
        refine thn_normal ?_
        refine T.cond ((((!r10) && (!r14)) && (b16 != 95))) rfl (fun h => ?_) (fun h => ?_)
        · replace H := cond_t h H
          refine T.seq ?_
          refine T.region ?_
          refine TL.st rfl rfl rfl (o_assign rfl rfl) ?_
          refine TL.nil ?_
          refine thn_normal ?_
          refine T.ret ?_
          refine inB_ret ?_
          refine thn_ret ?_
          exact Pk.id (thn_ret ⟨.inr false, (some_i H).symm, rfl, ⟨trivial, _, (.tmp _ _ _ _ rfl .nil), (.cl _ rfl)⟩⟩)
        · replace H := cond_f h H
          refine T.skip ?_
          refine inB_normal ?_
          refine thn_normal ?_
          refine T.region ?_
          refine TL.st rfl rfl rfl (o_move rfl rfl) ?_
          refine TL.st rfl rfl rfl (o_ari rfl rfl rfl rfl) ?_
          refine TL.st rfl rfl rfl (o_assign rfl rfl) ?_
          refine TL.nil ?_
          exact Pk.go (fr' := [(0, .str a0), (3, .int .i64 (IntKind.i64.wrap (v5 + 1)))]) (σ' := []) _ rfl rfl trivial (.cons 0 _ (.str a0) _ rfl (.same _) rfl (.cons 3 _ (.int .i64 (IntKind.i64.wrap (v5 + 1))) _ rfl (.same _) rfl .nil)) (thn_normal ⟨(IntKind.i64.wrap (v5 + 1)), (some_i H).symm, rfl, rfl⟩)
      · replace H := cond_f h H
        refine T.exit ?_
        refine thn_exit ?_
        exact Pk.go (fr' := []) (σ' := []) _ rfl rfl trivial .nil (thn_exit ⟨.inl (), (some_i H).symm, rfl, rfl, rfl⟩)
    · rintro v5 v5'; rfl
    · rintro v5; exact trivial
    · rintro v5; exact (.cons _ _ _ rfl rfl (.cons _ _ _ rfl rfl .nil))
    · rcases q18 with ⟨⟩ | q6
      · rintro _ _ _ ⟨rfl, rfl, rfl⟩
        refine inB_here ?_
        refine thn_normal ?_
        refine T.seq ?_
        refine T.region ?_
        refine TL.st rfl rfl rfl (o_assign rfl rfl) ?_
        refine TL.nil ?_
        refine thn_normal ?_
        refine T.ret ?_
        cases some_i H
        exact ⟨trivial, _, (.tmp _ _ _ _ rfl .nil), (.cl _ rfl)⟩
      · rintro _ fr1 σ1 ⟨rfl, hr⟩
        refine inB_ret ?_
        refine thn_ret ?_
        cases some_i H
        exact hr
theorem en_30 (us : Array Value) (w : World) : (callFunc 30 us).run Go.Proofs.Try.prog w = .ok (.enter 30 us) w := enters Go.Proofs.Try.func30 rfl rfl us w
noncomputable def spec_l3Has_l1 (a0 : (List ByteArray)) (a1 : ByteArray) : Int → Option (Int ⊕ (Unit ⊕ Bool)) := fun s => match s with
  | v1 => cond (decide (v1 < (a0.length : Int))) ((idx a0 v1).bind fun e4 => cond (e4.toList == a1.toList) (some (.inr (.inr true))) (some (.inl (IntKind.i64.wrap (v1 + 1))))) (some (.inr (.inl ())))
noncomputable def spec_l3Has (a0 : (List ByteArray)) (a1 : ByteArray) : Option Bool :=
  (loopO (spec_l3Has_l1 a0 a1) 0).bind fun q6 => (match q6 with | .inl _ => some false | .inr q2 => some q2)
theorem spec_l3Has_p (b0 : Bool) {a0 : (List ByteArray)} {a1 : ByteArray} {R0 : Bool} (H : spec_l3Has a0 a1 = some R0) : Pure Go.Proofs.Try.prog 44 [.im b0 (a0.map (c_str)), .str a1] (.bool R0) := by
  refine CallT.of_TN (n := 17) Go.Proofs.Try.func44 rfl rfl rfl rfl ?_
  refine T.seq ?_
  refine T.region ?_
  refine TL.st rfl rfl rfl (o_assign rfl rfl) ?_
  refine TL.nil ?_
  refine thn_normal ?_
  refine T.seq ?_
  refine T.seq ?_
  refine T.region ?_
  refine TL.st rfl rfl rfl (o_move rfl rfl) ?_
  refine TL.st rfl rfl rfl (o_lenL (f := c_str) rfl rfl rfl) ?_
  refine TL.st rfl rfl rfl (o_move rfl rfl) ?_
  refine TL.nil ?_
  refine thn_normal ?_
  refine T.block ?_
  obtain ⟨q6, h7, H⟩ := bind_s H
  refine T.to (.cons 1 _ (.str a1) _ rfl (.same _) rfl (.cons 7 _ (.im b0 (a0.map (c_str))) _ rfl (.same _) rfl (.cons 8 _ (.int .i64 (a0.length : Int)) _ rfl (.same _) rfl (.cons 9 _ (.int .i64 0) _ rfl (.same _) rfl .nil)))) ?_
  refine T.lp (fun s => match s with | v1 => [(1, .str a1), (7, .im b0 (a0.map (c_str))), (8, .int .i64 (a0.length : Int)), (9, .int .i64 v1)]) (fun s => match s with | v1 => []) (fun q ex fr σ => match q with | .inl _ => ex = .exit 0 ∧ fr = [] ∧ σ = [] | .inr q2 => ex = .ret ∧ RetN Go.Proofs.Try.prog [.tmp 4] (fun v τ => Told τ v (.bool q2)) .ret fr σ) h7 ?_ ?_ ?_ ?_ ?_
  · rintro v1 y3 H
    refine T.seq ?_
    refine T.region ?_
    refine TL.st rfl rfl rfl (o_ari rfl rfl rfl rfl) ?_
    refine TL.nil ?_
    refine thn_normal ?_
    refine T.seq ?_
    refine T.cond (decide (v1 < (a0.length : Int))) rfl (fun h => ?_) (fun h => ?_)
    · replace H := cond_t h H
      refine T.skip ?_
      refine thn_normal ?_
      refine T.seq ?_
      refine T.block ?_
      refine T.seq ?_
      refine T.region ?_
      obtain ⟨e4, h5, H⟩ := bind_s H
      refine TL.st rfl rfl rfl (o_ix (f := c_str) rfl rfl tyS_9 rfl rfl h5 rfl) ?_
      refine TL.st rfl rfl rfl (o_loadRf rfl tyS_9 rfl (Nat.le_of_ble_eq_true rfl) rfl) ?_
      refine TL.st rfl rfl rfl (o_assign rfl rfl) ?_
      refine TL.nil ?_
      refine thn_normal ?_
      refine T.seq ?_
      refine T.region ?_
      refine TL.st rfl rfl rfl (o_move rfl rfl) ?_
      refine TL.st rfl rfl rfl (o_move rfl rfl) ?_
      refine TL.st rfl rfl rfl (o_str rfl rfl rfl rfl) ?_
      refine TL.nil ?_
      refine thn_normal ?_
      refine T.cond ((e4.toList == a1.toList)) rfl (fun h => ?_) (fun h => ?_)
      · replace H := cond_t h H
        refine T.seq ?_
        refine T.region ?_
        refine TL.st rfl rfl rfl (o_assign rfl rfl) ?_
        refine TL.nil ?_
        refine thn_normal ?_
        refine T.ret ?_
        refine inB_ret ?_
        refine thn_ret ?_
        exact Pk.id (thn_ret ⟨.inr true, (some_i H).symm, rfl, ⟨trivial, _, (.tmp _ _ _ _ rfl .nil), (.cl _ rfl)⟩⟩)
      · replace H := cond_f h H
        refine T.skip ?_
        refine inB_normal ?_
        refine thn_normal ?_
        refine T.region ?_
        refine TL.st rfl rfl rfl (o_ari rfl rfl rfl rfl) ?_
        refine TL.st rfl rfl rfl (o_move rfl rfl) ?_
        refine TL.nil ?_
        exact Pk.go (fr' := [(1, .str a1), (7, .im b0 (a0.map (c_str))), (8, .int .i64 (a0.length : Int)), (9, .int .i64 (IntKind.i64.wrap (v1 + 1)))]) (σ' := []) _ rfl rfl trivial (.cons 1 _ (.str a1) _ rfl (.same _) rfl (.cons 7 _ (.im b0 (a0.map (c_str))) _ rfl (.same _) rfl (.cons 8 _ (.int .i64 (a0.length : Int)) _ rfl (.same _) rfl (.cons 9 _ (.int .i64 (IntKind.i64.wrap (v1 + 1))) _ rfl (.same _) rfl .nil)))) (thn_normal ⟨(IntKind.i64.wrap (v1 + 1)), (some_i H).symm, rfl, rfl⟩)
    · replace H := cond_f h H
      refine T.exit ?_
      refine thn_exit ?_
      exact Pk.go (fr' := []) (σ' := []) _ rfl rfl trivial .nil (thn_exit ⟨.inl (), (some_i H).symm, rfl, rfl, rfl⟩)
  · rintro v1 v1'; rfl
  · rintro v1; exact trivial
  · rintro v1; exact (.cons _ _ _ rfl rfl (.cons _ _ _ rfl rfl (.cons _ _ _ rfl rfl (.cons _ _ _ rfl rfl .nil))))
  · rcases q6 with ⟨⟩ | q2
    · rintro _ _ _ ⟨rfl, rfl, rfl⟩
      refine inB_here ?_
      refine thn_normal ?_
      refine T.seq ?_
      refine T.region ?_
      refine TL.st rfl rfl rfl (o_assign rfl rfl) ?_
      refine TL.nil ?_
      refine thn_normal ?_
      refine T.ret ?_
      cases some_i H
      exact ⟨trivial, _, (.tmp _ _ _ _ rfl .nil), (.cl _ rfl)⟩
    · rintro _ fr1 σ1 ⟨rfl, hr⟩
      refine inB_ret ?_
      refine thn_ret ?_
      cases some_i H
      exact hr
theorem en_44 (us : Array Value) (w : World) : (callFunc 44 us).run Go.Proofs.Try.prog w = .ok (.enter 44 us) w := enters Go.Proofs.Try.func44 rfl rfl us w
theorem tyE_9 : TyE Go.Proofs.Try.prog 9 1 := ⟨_, _, rfl, rfl, rfl, rfl, by decide, by decide⟩
noncomputable def spec_l16R_do_j1 (a3 : T_impl_RecoverEvent) (b1 : T_spec_l16R) : Option (Int × T_spec_l16R) :=
  some (0, (⟨a3.Time_, b1.under_, b1.ready_, b1.votes_⟩ : T_spec_l16R))
noncomputable def spec_l16R_do (a0 : Int) (a1 : Int) (a2 : (List ByteArray)) (a3 : T_impl_RecoverEvent) (s0 : T_spec_l16R) : Option (Int × T_spec_l16R) :=
  cond ((((decide (a3.Kind_ < 1) || decide (a3.Kind_ > 4)) || decide (a3.Time_ < 0)) || decide (a3.Time_ > 100000000000)) || ((!(a3.Who_.toList == (ByteArray.mk #[]).toList)) && (a3.Kind_ != 2))) (some (1, s0)) (cond (decide (a3.Time_ < s0.now_)) (some (2, s0)) (cond (s0.under_ == (a3.Kind_ == 1)) (some (3, s0)) (cond (a3.Kind_ == 1) (spec_l16R_do_j1 a3 (⟨s0.now_, true, (IntKind.i64.wrap (a3.Time_ + a1)), ([] : List ByteArray)⟩ : T_spec_l16R)) (cond (a3.Kind_ == 2) ((spec_l3Has a2 a3.Who_).bind fun r2 => cond (!r2) (some (4, s0)) ((spec_l3Has s0.votes_ a3.Who_).bind fun r4 => cond r4 (some (5, s0)) ((app s0.votes_ ([a3.Who_] : List ByteArray)).bind fun l6 => spec_l16R_do_j1 a3 (⟨s0.now_, s0.under_, s0.ready_, l6⟩ : T_spec_l16R)))) (cond (a3.Kind_ == 4) (cond (decide ((s0.votes_.length : Int) < a0)) (some (6, s0)) (cond (decide (a3.Time_ < s0.ready_)) (some (7, s0)) (spec_l16R_do_j1 a3 (⟨s0.now_, false, s0.ready_, s0.votes_⟩ : T_spec_l16R)))) (spec_l16R_do_j1 a3 (⟨s0.now_, false, s0.ready_, s0.votes_⟩ : T_spec_l16R)))))))
theorem spec_l16R_do_p (b0 : Bool) {a0 : Int} {a1 : Int} {a2 : (List ByteArray)} {a3 : T_impl_RecoverEvent} {s0 : T_spec_l16R} {R0 : Int} {U0 : T_spec_l16R} (H : spec_l16R_do a0 a1 a2 a3 s0 = some (R0, U0)) : St Go.Proofs.Try.prog 31 [.bx 0 0, .int .i64 a0, .int .i64 a1, .im b0 (a2.map (c_str)), .agg (c_T_impl_RecoverEvent false a3)] [.box [.int .i64 s0.now_, .bool s0.under_, .int .i64 s0.ready_, .hd 1 (s0.votes_.map (c_str)).length 0 (s0.votes_.map (c_str)).length], .arr .clo 1 (s0.votes_.map (c_str))] (.int .i64 R0) [.box [.int .i64 U0.now_, .bool U0.under_, .int .i64 U0.ready_, .hd 2 (U0.votes_.map (c_str)).length 0 (U0.votes_.map (c_str)).length], .dead, .arr .clo 1 (U0.votes_.map (c_str))] := by
  refine CallT.fin (CallT.of_TN (n := 123) Go.Proofs.Try.func31 rfl rfl rfl rfl ?_) rfl rfl ⟨(bels_iff.1 rfl), ⟨trivial, ⟨trivial, trivial⟩⟩⟩
  refine T.conv (Cs.fresh 1 rfl rfl (by decide) rfl (nomS_all rfl rfl)) ?_
  refine T.conv (Cs.wkF (M := 3) (.cons 0 _ (.bx 0 0) _ rfl (.same _) rfl (.cons 1 _ (.int .i64 a0) _ rfl (.same _) rfl (.cons 2 _ (.int .i64 a1) _ rfl (.same _) rfl (.cons 3 _ (.im b0 (a2.map (c_str))) _ rfl (.same _) rfl (.cons 4 _ (.agg (c_T_impl_RecoverEvent false a3)) _ rfl (.same _) rfl .nil)))))) ?_
  refine T.conv (Cs.eqS (σ' := [.box [.int .i64 s0.now_, .bool s0.under_, .int .i64 s0.ready_, .hd 2 (s0.votes_.map (c_str)).length 0 (s0.votes_.map (c_str)).length], .dead, .arr .clo 1 (s0.votes_.map (c_str))]) rfl) ?_
  refine T.seq ?_
  refine T.region ?_
  refine TL.st rfl rfl rfl (o_box rfl rfl rfl) ?_
  refine TL.st rfl rfl rfl (o_assign rfl rfl) ?_
  refine TL.nil ?_
  refine thn_normal ?_
  refine T.seq ?_
  refine T.seq ?_
  refine T.region ?_
  refine TL.st rfl rfl rfl (o_fieldAddr rfl rfl rfl tyS_3 (by decide) rfl rfl ⟨_, rfl, Nat.le_of_ble_eq_true rfl⟩) ?_
  refine TL.st rfl rfl rfl (o_loadBx rfl tyS_3 rfl rfl (Nat.le_of_ble_eq_true rfl) rfl) ?_
  refine TL.st rfl rfl rfl (o_ari rfl rfl rfl rfl) ?_
  refine TL.st rfl rfl rfl (o_move rfl rfl) ?_
  refine TL.gcq rfl rfl rfl (.bool _) rfl rfl (fun h => o_fieldAddr rfl rfl rfl tyS_3 (by decide) rfl rfl ⟨_, rfl, Nat.le_of_ble_eq_true rfl⟩) ?_
  refine TL.gcq rfl rfl rfl (.bool _) rfl rfl (fun h => o_loadBx rfl tyS_3 (gv h rfl) rfl (Nat.le_of_ble_eq_true rfl) rfl) ?_
  refine TL.gcq rfl rfl rfl (.bool _) rfl rfl (fun h => o_ari rfl (gv h rfl) rfl rfl) ?_
  refine TL.st rfl rfl rfl (o_or rfl rfl rfl rfl (fun k => Gd_t k)) ?_
  refine TL.st rfl rfl rfl (o_move rfl rfl) ?_
  refine TL.gcq rfl rfl rfl (.bool _) rfl rfl (fun h => o_fieldAddr rfl rfl rfl tyS_3 (by decide) rfl rfl ⟨_, rfl, Nat.le_of_ble_eq_true rfl⟩) ?_
  refine TL.gcq rfl rfl rfl (.bool _) rfl rfl (fun h => o_loadBx rfl tyS_3 (gv h rfl) rfl (Nat.le_of_ble_eq_true rfl) rfl) ?_
  refine TL.gcq rfl rfl rfl (.bool _) rfl rfl (fun h => o_ari rfl (gv h rfl) rfl rfl) ?_
  refine TL.st rfl rfl rfl (o_or rfl rfl rfl rfl (fun k => Gd_t k)) ?_
  refine TL.st rfl rfl rfl (o_move rfl rfl) ?_
  refine TL.gcq rfl rfl rfl (.bool _) rfl rfl (fun h => o_fieldAddr rfl rfl rfl tyS_3 (by decide) rfl rfl ⟨_, rfl, Nat.le_of_ble_eq_true rfl⟩) ?_
  refine TL.gcq rfl rfl rfl (.bool _) rfl rfl (fun h => o_loadBx rfl tyS_3 (gv h rfl) rfl (Nat.le_of_ble_eq_true rfl) rfl) ?_
  refine TL.gcq rfl rfl rfl (.bool _) rfl rfl (fun h => o_ari rfl (gv h rfl) rfl rfl) ?_
  refine TL.st rfl rfl rfl (o_or rfl rfl rfl rfl (fun k => Gd_t k)) ?_
  refine TL.st rfl rfl rfl (o_move rfl rfl) ?_
  refine TL.gcq rfl rfl rfl (.bool _) rfl rfl (fun h => o_fieldAddr rfl rfl rfl tyS_9 (by decide) rfl rfl ⟨_, rfl, Nat.le_of_ble_eq_true rfl⟩) ?_
  refine TL.gcq rfl rfl rfl (.bool _) rfl rfl (fun h => o_loadBx rfl tyS_9 (gv h rfl) rfl (Nat.le_of_ble_eq_true rfl) rfl) ?_
  refine TL.gcq rfl rfl rfl (.bool _) rfl rfl (fun h => o_str rfl (gv h rfl) rfl rfl) ?_
  refine TL.gcq rfl rfl rfl (.bool _) rfl rfl (fun h => o_move rfl (gv h rfl)) ?_
  refine TL.gcq rfl rfl rfl (.gd _ _) rfl rfl (fun h => o_fieldAddr rfl rfl rfl tyS_3 (by decide) rfl rfl ⟨_, rfl, Nat.le_of_ble_eq_true rfl⟩) ?_
  refine TL.gcq rfl rfl rfl (.gd _ _) rfl rfl (fun h => o_loadBx rfl tyS_3 (gv h rfl) rfl (Nat.le_of_ble_eq_true rfl) rfl) ?_
  refine TL.gcq rfl rfl rfl (.gd _ _) rfl rfl (fun h => o_ari rfl (gv h rfl) rfl rfl) ?_
  refine TL.gcq rfl rfl rfl (.bool _) rfl rfl (fun h => o_and rfl (gv h rfl) rfl (fun k => Gd_t (andi h k)) rfl) ?_
  refine TL.st rfl rfl rfl (o_or rfl rfl rfl rfl (fun k => Gd_t k)) ?_
  refine TL.nil ?_
  refine thn_normal ?_
  refine T.cond (((((decide (a3.Kind_ < 1) || decide (a3.Kind_ > 4)) || decide (a3.Time_ < 0)) || decide (a3.Time_ > 100000000000)) || ((!(a3.Who_.toList == (ByteArray.mk #[]).toList)) && (a3.Kind_ != 2)))) rfl (fun h => ?_) (fun h => ?_)
  · replace H := cond_t h H
    refine T.seq ?_
    refine T.region ?_
    refine TL.st rfl rfl rfl (o_assign rfl rfl) ?_
    refine TL.nil ?_
    refine thn_normal ?_
    refine T.ret ?_
    refine thn_ret ?_
    cases some_i H
    exact ⟨trivial, _, (.tmp _ _ _ _ rfl .nil), ⟨rfl, _, rfl⟩⟩
  · replace H := cond_f h H
    refine T.skip ?_
    refine thn_normal ?_
    refine T.seq ?_
    refine T.seq ?_
    refine T.drawn rfl ?_
    refine TD.rs rfl rfl (o_fieldAddr rfl rfl rfl tyS_3 (by decide) rfl rfl ⟨_, rfl, Nat.le_of_ble_eq_true rfl⟩) ?_
    refine TD.rs rfl rfl (o_loadBx rfl tyS_3 rfl rfl (Nat.le_of_ble_eq_true rfl) rfl) ?_
    refine TD.qs rfl rfl (fun _ => o_move rfl rfl) ?_
    refine TD.qs rfl rfl (fun _ => o_nilCheck rfl rfl rfl) ?_
    refine TD.rs rfl rfl (o_fieldAddr rfl rfl rfl tyS_3 (by decide) rfl rfl ⟨_, rfl, Nat.le_of_ble_eq_true rfl⟩) ?_
    refine TD.rs rfl rfl (o_loadBx rfl tyS_3 rfl rfl (Nat.le_of_ble_eq_true rfl) rfl) ?_
    refine TD.qs rfl rfl (fun _ => o_ari rfl rfl rfl rfl) ?_
    refine TD.nil ⟨rfl, ?_⟩
    refine thn_normal ?_
    refine T.cond (decide (a3.Time_ < s0.now_)) rfl (fun h => ?_) (fun h => ?_)
    · replace H := cond_t h H
      refine T.seq ?_
      refine T.region ?_
      refine TL.st rfl rfl rfl (o_assign rfl rfl) ?_
      refine TL.nil ?_
      refine thn_normal ?_
      refine T.ret ?_
      refine thn_ret ?_
      cases some_i H
      exact ⟨trivial, _, (.tmp _ _ _ _ rfl .nil), ⟨rfl, _, rfl⟩⟩
    · replace H := cond_f h H
      refine T.skip ?_
      refine thn_normal ?_
      refine T.seq ?_
      refine T.seq ?_
      refine T.drawn rfl ?_
      refine TD.qs rfl rfl (fun _ => o_move rfl rfl) ?_
      refine TD.qs rfl rfl (fun _ => o_nilCheck rfl rfl rfl) ?_
      refine TD.rs rfl rfl (o_fieldAddr rfl rfl rfl tyS_4 (by decide) rfl rfl ⟨_, rfl, Nat.le_of_ble_eq_true rfl⟩) ?_
      refine TD.rs rfl rfl (o_loadBx rfl tyS_4 rfl rfl (Nat.le_of_ble_eq_true rfl) rfl) ?_
      refine TD.rs rfl rfl (o_fieldAddr rfl rfl rfl tyS_3 (by decide) rfl rfl ⟨_, rfl, Nat.le_of_ble_eq_true rfl⟩) ?_
      refine TD.rs rfl rfl (o_loadBx rfl tyS_3 rfl rfl (Nat.le_of_ble_eq_true rfl) rfl) ?_
      refine TD.qs rfl rfl (fun _ => o_ari rfl rfl rfl rfl) ?_
      refine TD.qs rfl rfl (fun _ => o_beq rfl rfl rfl rfl) ?_
      refine TD.nil ⟨rfl, ?_⟩
      refine thn_normal ?_
      refine T.cond ((s0.under_ == (a3.Kind_ == 1))) rfl (fun h => ?_) (fun h => ?_)
      · replace H := cond_t h H
        refine T.seq ?_
        refine T.region ?_
        refine TL.st rfl rfl rfl (o_assign rfl rfl) ?_
        refine TL.nil ?_
        refine thn_normal ?_
        refine T.ret ?_
        refine thn_ret ?_
        cases some_i H
        exact ⟨trivial, _, (.tmp _ _ _ _ rfl .nil), ⟨rfl, _, rfl⟩⟩
      · replace H := cond_f h H
        refine T.skip ?_
        refine thn_normal ?_
        refine T.cut (fun fr' σ' => ∃ (b1 : T_spec_l16R), fr' = [(0, .bx 0 0), (9, .bx 3 0)] ∧ σ' = [.box [.int .i64 b1.now_, .bool b1.under_, .int .i64 b1.ready_, .hd 2 (b1.votes_.map (c_str)).length 0 (b1.votes_.map (c_str)).length], .dead, .arr .clo 1 (b1.votes_.map (c_str)), .box (c_T_impl_RecoverEvent false a3)] ∧ spec_l16R_do_j1 a3 b1 = some (R0, U0)) (T.pk ?_) ?_
        · skip
          refine T.seq ?_
          refine T.region ?_
          refine TL.st rfl rfl rfl (o_fieldAddr rfl rfl rfl tyS_3 (by decide) rfl rfl ⟨_, rfl, Nat.le_of_ble_eq_true rfl⟩) ?_
          refine TL.st rfl rfl rfl (o_loadBx rfl tyS_3 rfl rfl (Nat.le_of_ble_eq_true rfl) rfl) ?_
          refine TL.nil ?_
          refine thn_normal ?_
          refine T.block ?_
          refine T.seq ?_
          refine T.region ?_
          refine TL.st rfl rfl rfl (o_ari rfl rfl rfl rfl) ?_
          refine TL.st rfl rfl rfl (o_assign rfl rfl) ?_
          refine TL.nil ?_
          refine thn_normal ?_
          refine T.cond ((a3.Kind_ == 1)) rfl (fun h => ?_) (fun h => ?_)
          · replace H := cond_t h H
            refine T.seq ?_
            refine T.region ?_
            refine TL.st rfl rfl rfl (o_move rfl rfl) ?_
            refine TL.st rfl rfl rfl (o_nilCheck rfl rfl rfl) ?_
            refine TL.st rfl rfl rfl (o_fieldAddr rfl rfl rfl tyS_4 (by decide) rfl rfl ⟨_, rfl, Nat.le_of_ble_eq_true rfl⟩) ?_
            refine TL.sn rfl rfl (o_storeBx rfl tyS_4 rfl rfl rfl rfl (Nat.le_of_ble_eq_true rfl) rfl) ?_
            refine TL.nil ?_
            refine thn_normal ?_
            refine T.seq ?_
            refine T.region ?_
            refine TL.st rfl rfl rfl (o_move rfl rfl) ?_
            refine TL.st rfl rfl rfl (o_fieldAddr rfl rfl rfl tyS_3 (by decide) rfl rfl ⟨_, rfl, Nat.le_of_ble_eq_true rfl⟩) ?_
            refine TL.st rfl rfl rfl (o_loadBx rfl tyS_3 rfl rfl (Nat.le_of_ble_eq_true rfl) rfl) ?_
            refine TL.st rfl rfl rfl (o_move rfl rfl) ?_
            refine TL.st rfl rfl rfl (o_ari rfl rfl rfl rfl) ?_
            refine TL.st rfl rfl rfl (o_nilCheck rfl rfl rfl) ?_
            refine TL.st rfl rfl rfl (o_fieldAddr rfl rfl rfl tyS_3 (by decide) rfl rfl ⟨_, rfl, Nat.le_of_ble_eq_true rfl⟩) ?_
            refine TL.sn rfl rfl (o_storeBx rfl tyS_3 rfl rfl rfl rfl (Nat.le_of_ble_eq_true rfl) rfl) ?_
            refine TL.nil ?_
            refine thn_normal ?_
            refine T.region ?_
            refine TL.st rfl rfl rfl (o_move rfl rfl) ?_
            refine TL.st rfl rfl rfl (o_nilCheck rfl rfl rfl) ?_
            refine TL.st rfl rfl rfl (o_fieldAddr rfl rfl rfl tyS_23 (by decide) rfl rfl ⟨_, rfl, Nat.le_of_ble_eq_true rfl⟩) ?_
            refine TL.sn rfl rfl (o_storeBx rfl tyS_23 rfl rfl rfl rfl (Nat.le_of_ble_eq_true rfl) rfl) ?_
            refine TL.conv (Cs.ownCell (p := 0) 3 1 rfl rfl (by decide)) ?_
            refine TL.conv (Cs.wkF (M := 5) (.cons 0 _ (.bx 0 0) _ rfl (.same _) rfl (.cons 1 _ (.int .i64 a0) _ rfl (.same _) rfl (.cons 2 _ (.int .i64 a1) _ rfl (.same _) rfl (.cons 3 _ (.im b0 (a2.map (c_str))) _ rfl (.same _) rfl (.cons 4 _ (.agg (c_T_impl_RecoverEvent false a3)) _ rfl (.same _) rfl (.cons 9 _ (.bx 3 0) _ rfl (.same _) rfl (.cons 10 _ (.int .i64 0) _ rfl (.same _) rfl (.cons 11 _ (.bx 3 0) _ rfl (.same _) rfl (.cons 12 _ (.int .i64 a3.Kind_) _ rfl (.same _) rfl (.cons 13 _ (.bool (decide (a3.Kind_ < 1))) _ rfl (.same _) rfl (.cons 14 _ (.bool (decide (a3.Kind_ < 1))) _ rfl (.same _) rfl (.cons 18 _ (.bool (decide (a3.Kind_ < 1) || decide (a3.Kind_ > 4))) _ rfl (.same _) rfl (.cons 19 _ (.bool (decide (a3.Kind_ < 1) || decide (a3.Kind_ > 4))) _ rfl (.same _) rfl (.cons 23 _ (.bool ((decide (a3.Kind_ < 1) || decide (a3.Kind_ > 4)) || decide (a3.Time_ < 0))) _ rfl (.same _) rfl (.cons 24 _ (.bool ((decide (a3.Kind_ < 1) || decide (a3.Kind_ > 4)) || decide (a3.Time_ < 0))) _ rfl (.same _) rfl (.cons 28 _ (.bool (((decide (a3.Kind_ < 1) || decide (a3.Kind_ > 4)) || decide (a3.Time_ < 0)) || decide (a3.Time_ > 100000000000))) _ rfl (.same _) rfl (.cons 29 _ (.bool (((decide (a3.Kind_ < 1) || decide (a3.Kind_ > 4)) || decide (a3.Time_ < 0)) || decide (a3.Time_ > 100000000000))) _ rfl (.same _) rfl (.cons 38 _ (.bool ((((decide (a3.Kind_ < 1) || decide (a3.Kind_ > 4)) || decide (a3.Time_ < 0)) || decide (a3.Time_ > 100000000000)) || ((!(a3.Who_.toList == (ByteArray.mk #[]).toList)) && (a3.Kind_ != 2)))) _ rfl (.same _) rfl (.cons 39 _ (.bx 3 1) _ rfl (.same _) rfl (.cons 40 _ (.int .i64 a3.Time_) _ rfl (.same _) rfl (.cons 41 _ (.bx 0 0) _ rfl (.same _) rfl (.cons 42 _ (.bx 0 0) _ rfl (.same _) rfl (.cons 43 _ (.bx 0 0) _ rfl (.same _) rfl (.cons 44 _ (.int .i64 s0.now_) _ rfl (.same _) rfl (.cons 45 _ (.bool (decide (a3.Time_ < s0.now_))) _ rfl (.same _) rfl (.cons 46 _ (.bx 0 0) _ rfl (.same _) rfl (.cons 47 _ (.bx 0 0) _ rfl (.same _) rfl (.cons 48 _ (.bx 0 1) _ rfl (.same _) rfl (.cons 49 _ (.bool s0.under_) _ rfl (.same _) rfl (.cons 50 _ (.bx 3 0) _ rfl (.same _) rfl (.cons 51 _ (.int .i64 a3.Kind_) _ rfl (.same _) rfl (.cons 52 _ (.bool (a3.Kind_ == 1)) _ rfl (.same _) rfl (.cons 53 _ (.bool (s0.under_ == (a3.Kind_ == 1))) _ rfl (.same _) rfl (.cons 54 _ (.bx 3 0) _ rfl (.same _) rfl (.cons 55 _ (.int .i64 a3.Kind_) _ rfl (.same _) rfl (.cons 59 _ (.bool (a3.Kind_ == 1)) _ rfl (.same _) rfl (.cons 60 _ (.bool (a3.Kind_ == 1)) _ rfl (.same _) rfl (.cons 61 _ (.bx 0 0) _ rfl (.same _) rfl (.cons 62 _ (.bx 0 0) _ rfl (.same _) rfl (.cons 63 _ (.bx 0 1) _ rfl (.same _) rfl (.cons 64 _ (.bx 0 0) _ rfl (.same _) rfl (.cons 65 _ (.bx 3 1) _ rfl (.same _) rfl (.cons 66 _ (.int .i64 a3.Time_) _ rfl (.same _) rfl (.cons 67 _ (.int .i64 a1) _ rfl (.same _) rfl (.cons 68 _ (.int .i64 (IntKind.i64.wrap (a3.Time_ + a1))) _ rfl (.same _) rfl (.cons 69 _ (.bx 0 0) _ rfl (.same _) rfl (.cons 70 _ (.bx 0 2) _ rfl (.same _) rfl (.cons 71 _ (.bx 0 0) _ rfl (.same _) rfl (.cons 72 _ (.bx 0 0) _ rfl (.same _) rfl (.cons 73 _ (.bx 0 3) _ rfl (.same _) rfl .nil))))))))))))))))))))))))))))))))))))))))))))))))))) ?_
            refine TL.conv (Cs.reloc 2 4 rfl rfl (by decide) rfl rfl rfl (nomS_get rfl)) ?_
            refine TL.conv (Cs.wkF (M := 5) (.cons 0 _ (.bx 0 0) _ rfl (.same _) rfl (.cons 1 _ (.int .i64 a0) _ rfl (.same _) rfl (.cons 2 _ (.int .i64 a1) _ rfl (.same _) rfl (.cons 3 _ (.im b0 (a2.map (c_str))) _ rfl (.same _) rfl (.cons 4 _ (.agg (c_T_impl_RecoverEvent false a3)) _ rfl (.same _) rfl (.cons 9 _ (.bx 3 0) _ rfl (.same _) rfl (.cons 10 _ (.int .i64 0) _ rfl (.same _) rfl (.cons 11 _ (.bx 3 0) _ rfl (.same _) rfl (.cons 12 _ (.int .i64 a3.Kind_) _ rfl (.same _) rfl (.cons 13 _ (.bool (decide (a3.Kind_ < 1))) _ rfl (.same _) rfl (.cons 14 _ (.bool (decide (a3.Kind_ < 1))) _ rfl (.same _) rfl (.cons 18 _ (.bool (decide (a3.Kind_ < 1) || decide (a3.Kind_ > 4))) _ rfl (.same _) rfl (.cons 19 _ (.bool (decide (a3.Kind_ < 1) || decide (a3.Kind_ > 4))) _ rfl (.same _) rfl (.cons 23 _ (.bool ((decide (a3.Kind_ < 1) || decide (a3.Kind_ > 4)) || decide (a3.Time_ < 0))) _ rfl (.same _) rfl (.cons 24 _ (.bool ((decide (a3.Kind_ < 1) || decide (a3.Kind_ > 4)) || decide (a3.Time_ < 0))) _ rfl (.same _) rfl (.cons 28 _ (.bool (((decide (a3.Kind_ < 1) || decide (a3.Kind_ > 4)) || decide (a3.Time_ < 0)) || decide (a3.Time_ > 100000000000))) _ rfl (.same _) rfl (.cons 29 _ (.bool (((decide (a3.Kind_ < 1) || decide (a3.Kind_ > 4)) || decide (a3.Time_ < 0)) || decide (a3.Time_ > 100000000000))) _ rfl (.same _) rfl (.cons 38 _ (.bool ((((decide (a3.Kind_ < 1) || decide (a3.Kind_ > 4)) || decide (a3.Time_ < 0)) || decide (a3.Time_ > 100000000000)) || ((!(a3.Who_.toList == (ByteArray.mk #[]).toList)) && (a3.Kind_ != 2)))) _ rfl (.same _) rfl (.cons 39 _ (.bx 3 1) _ rfl (.same _) rfl (.cons 40 _ (.int .i64 a3.Time_) _ rfl (.same _) rfl (.cons 41 _ (.bx 0 0) _ rfl (.same _) rfl (.cons 42 _ (.bx 0 0) _ rfl (.same _) rfl (.cons 43 _ (.bx 0 0) _ rfl (.same _) rfl (.cons 44 _ (.int .i64 s0.now_) _ rfl (.same _) rfl (.cons 45 _ (.bool (decide (a3.Time_ < s0.now_))) _ rfl (.same _) rfl (.cons 46 _ (.bx 0 0) _ rfl (.same _) rfl (.cons 47 _ (.bx 0 0) _ rfl (.same _) rfl (.cons 48 _ (.bx 0 1) _ rfl (.same _) rfl (.cons 49 _ (.bool s0.under_) _ rfl (.same _) rfl (.cons 50 _ (.bx 3 0) _ rfl (.same _) rfl (.cons 51 _ (.int .i64 a3.Kind_) _ rfl (.same _) rfl (.cons 52 _ (.bool (a3.Kind_ == 1)) _ rfl (.same _) rfl (.cons 53 _ (.bool (s0.under_ == (a3.Kind_ == 1))) _ rfl (.same _) rfl (.cons 54 _ (.bx 3 0) _ rfl (.same _) rfl (.cons 55 _ (.int .i64 a3.Kind_) _ rfl (.same _) rfl (.cons 59 _ (.bool (a3.Kind_ == 1)) _ rfl (.same _) rfl (.cons 60 _ (.bool (a3.Kind_ == 1)) _ rfl (.same _) rfl (.cons 61 _ (.bx 0 0) _ rfl (.same _) rfl (.cons 62 _ (.bx 0 0) _ rfl (.same _) rfl (.cons 63 _ (.bx 0 1) _ rfl (.same _) rfl (.cons 64 _ (.bx 0 0) _ rfl (.same _) rfl (.cons 65 _ (.bx 3 1) _ rfl (.same _) rfl (.cons 66 _ (.int .i64 a3.Time_) _ rfl (.same _) rfl (.cons 67 _ (.int .i64 a1) _ rfl (.same _) rfl (.cons 68 _ (.int .i64 (IntKind.i64.wrap (a3.Time_ + a1))) _ rfl (.same _) rfl (.cons 69 _ (.bx 0 0) _ rfl (.same _) rfl (.cons 70 _ (.bx 0 2) _ rfl (.same _) rfl (.cons 71 _ (.bx 0 0) _ rfl (.same _) rfl (.cons 72 _ (.bx 0 0) _ rfl (.same _) rfl (.cons 73 _ (.bx 0 3) _ rfl (.same _) rfl .nil))))))))))))))))))))))))))))))))))))))))))))))))))) ?_
            refine TL.conv (Cs.eqS (σ' := [.box [.int .i64 s0.now_, .bool true, .int .i64 (IntKind.i64.wrap (a3.Time_ + a1)), .hd 2 (([] : List ByteArray).map (c_str)).length 0 (([] : List ByteArray).map (c_str)).length], .dead, .arr .clo 1 (([] : List ByteArray).map (c_str)), .box (c_T_impl_RecoverEvent false a3), .dead]) rfl) ?_
            refine TL.nil ?_
            refine inB_normal ?_
            exact Pk.go (fr' := [(0, .bx 0 0), (9, .bx 3 0)]) (σ' := [.box [.int .i64 (⟨s0.now_, true, (IntKind.i64.wrap (a3.Time_ + a1)), ([] : List ByteArray)⟩ : T_spec_l16R).now_, .bool (⟨s0.now_, true, (IntKind.i64.wrap (a3.Time_ + a1)), ([] : List ByteArray)⟩ : T_spec_l16R).under_, .int .i64 (⟨s0.now_, true, (IntKind.i64.wrap (a3.Time_ + a1)), ([] : List ByteArray)⟩ : T_spec_l16R).ready_, .hd 2 ((⟨s0.now_, true, (IntKind.i64.wrap (a3.Time_ + a1)), ([] : List ByteArray)⟩ : T_spec_l16R).votes_.map (c_str)).length 0 ((⟨s0.now_, true, (IntKind.i64.wrap (a3.Time_ + a1)), ([] : List ByteArray)⟩ : T_spec_l16R).votes_.map (c_str)).length], .dead, .arr .clo 1 ((⟨s0.now_, true, (IntKind.i64.wrap (a3.Time_ + a1)), ([] : List ByteArray)⟩ : T_spec_l16R).votes_.map (c_str)), .box (c_T_impl_RecoverEvent false a3)]) _ rfl rfl ⟨(bels_iff.1 rfl), ⟨trivial, ⟨trivial, ⟨(bels_iff.1 rfl), trivial⟩⟩⟩⟩ (.cons 0 _ (.bx 0 0) _ rfl (.same _) rfl (.cons 9 _ (.bx 3 0) _ rfl (.same _) rfl .nil)) (thn_normal ⟨(⟨s0.now_, true, (IntKind.i64.wrap (a3.Time_ + a1)), ([] : List ByteArray)⟩ : T_spec_l16R), rfl, rfl, H⟩)
          · replace H := cond_f h H
            refine T.seq ?_
            refine T.region ?_
            refine TL.st rfl rfl rfl (o_ari rfl rfl rfl rfl) ?_
            refine TL.st rfl rfl rfl (o_assign rfl rfl) ?_
            refine TL.nil ?_
            refine thn_normal ?_
            refine T.cond ((a3.Kind_ == 2)) rfl (fun h => ?_) (fun h => ?_)
            · replace H := cond_t h H
              refine T.seq ?_
              refine T.seq ?_
              refine T.region ?_
              refine TL.st rfl rfl rfl (o_move rfl rfl) ?_
              refine TL.st rfl rfl rfl (o_fieldAddr rfl rfl rfl tyS_9 (by decide) rfl rfl ⟨_, rfl, Nat.le_of_ble_eq_true rfl⟩) ?_
              refine TL.st rfl rfl rfl (o_loadBx rfl tyS_9 rfl rfl (Nat.le_of_ble_eq_true rfl) rfl) ?_
              obtain ⟨r2, h3, H⟩ := bind_s H
              refine TL.st rfl rfl rfl (o_callP rfl en_44 rfl rfl (.cons _ _ _ _ (.imv _ _) (.cons _ _ _ _ (.cl _ rfl) .nil)) (spec_l3Has_p b0 h3)) ?_
              refine TL.st rfl rfl rfl (o_not rfl rfl) ?_
              refine TL.nil ?_
              refine thn_normal ?_
              refine T.cond ((!r2)) rfl (fun h => ?_) (fun h => ?_)
              · replace H := cond_t h H
                refine T.seq ?_
                refine T.region ?_
                refine TL.st rfl rfl rfl (o_assign rfl rfl) ?_
                refine TL.nil ?_
                refine thn_normal ?_
                refine T.ret ?_
                refine thn_ret ?_
                refine inB_ret ?_
                refine Pk.id (thn_ret ?_)
                cases some_i H
                exact ⟨trivial, _, (.tmp _ _ _ _ rfl .nil), ⟨rfl, _, rfl⟩⟩
              · replace H := cond_f h H
                refine T.skip ?_
                refine thn_normal ?_
                refine T.seq ?_
                refine T.seq ?_
                refine T.drawn rfl ?_
                refine TD.qs rfl rfl (fun _ => o_move rfl rfl) ?_
                refine TD.qs rfl rfl (fun _ => o_nilCheck rfl rfl rfl) ?_
                refine TD.rs rfl rfl (o_fieldAddr rfl rfl rfl tyS_23 (by decide) rfl rfl ⟨_, rfl, Nat.le_of_ble_eq_true rfl⟩) ?_
                refine TD.rs rfl rfl (o_loadBx rfl tyS_23 rfl rfl (Nat.le_of_ble_eq_true rfl) rfl) ?_
                refine TD.rs rfl rfl (o_fieldAddr rfl rfl rfl tyS_9 (by decide) rfl rfl ⟨_, rfl, Nat.le_of_ble_eq_true rfl⟩) ?_
                refine TD.rs rfl rfl (o_loadBx rfl tyS_9 rfl rfl (Nat.le_of_ble_eq_true rfl) rfl) ?_
                obtain ⟨r4, h5, H⟩ := bind_s H
                refine TD.rs rfl rfl (o_callP rfl en_44 rfl rfl (.cons _ _ _ _ (.own rfl (by decide) rfl) (.cons _ _ _ _ (.cl _ rfl) .nil)) (spec_l3Has_p true h5)) ?_
                refine TD.nil ⟨rfl, ?_⟩
                refine thn_normal ?_
                refine T.cond (r4) rfl (fun h => ?_) (fun h => ?_)
                · replace H := cond_t h H
                  refine T.seq ?_
                  refine T.region ?_
                  refine TL.st rfl rfl rfl (o_assign rfl rfl) ?_
                  refine TL.nil ?_
                  refine thn_normal ?_
                  refine T.ret ?_
                  refine thn_ret ?_
                  refine inB_ret ?_
                  refine Pk.id (thn_ret ?_)
                  cases some_i H
                  exact ⟨trivial, _, (.tmp _ _ _ _ rfl .nil), ⟨rfl, _, rfl⟩⟩
                · replace H := cond_f h H
                  refine T.skip ?_
                  refine thn_normal ?_
                  refine T.drawn rfl ?_
                  refine TD.qs rfl rfl (fun _ => o_move rfl rfl) ?_
                  refine TD.qs rfl rfl (fun _ => o_move rfl rfl) ?_
                  refine TD.qs rfl rfl (fun _ => o_nilCheck rfl rfl rfl) ?_
                  refine TD.rs rfl rfl (o_fieldAddr rfl rfl rfl tyS_23 (by decide) rfl rfl ⟨_, rfl, Nat.le_of_ble_eq_true rfl⟩) ?_
                  refine TD.rs rfl rfl (o_loadBx rfl tyS_23 rfl rfl (Nat.le_of_ble_eq_true rfl) rfl) ?_
                  refine TD.rs rfl rfl (o_fieldAddr rfl rfl rfl tyS_9 (by decide) rfl rfl ⟨_, rfl, Nat.le_of_ble_eq_true rfl⟩) ?_
                  refine TD.rs rfl rfl (o_loadBx rfl tyS_9 rfl rfl (Nat.le_of_ble_eq_true rfl) rfl) ?_
                  refine TD.qs rfl rfl (fun _ => o_sliceIm rfl rfl tyS_9 ⟨_, rfl, rfl⟩ (by decide) rfl rfl rfl rfl rfl rfl) ?_
                  obtain ⟨l6, h7, H⟩ := bind_s H
                  refine TD.as rfl rfl (o_ap (f := c_str) (xs := s0.votes_) (ys := ([a3.Who_] : List ByteArray)) rfl rfl tyE_9 rfl rfl rfl rfl (by decide) rfl (fun _ => rfl) h7) ?_
                  refine TD.qs rfl rfl (fun _ => o_nilCheck rfl rfl rfl) ?_
                  refine TD.rs rfl rfl (o_fieldAddr rfl rfl rfl tyS_23 (by decide) rfl rfl ⟨_, rfl, Nat.le_of_ble_eq_true rfl⟩) ?_
                  refine TD.an rfl rfl (o_storeBx rfl tyS_23 rfl rfl rfl rfl (Nat.le_of_ble_eq_true rfl) (sure_hd rfl rfl rfl)) ?_
                  refine TD.nil ⟨rfl, ?_⟩
                  refine inB_normal ?_
                  exact Pk.go (fr' := [(0, .bx 0 0), (9, .bx 3 0)]) (σ' := [.box [.int .i64 (⟨s0.now_, s0.under_, s0.ready_, l6⟩ : T_spec_l16R).now_, .bool (⟨s0.now_, s0.under_, s0.ready_, l6⟩ : T_spec_l16R).under_, .int .i64 (⟨s0.now_, s0.under_, s0.ready_, l6⟩ : T_spec_l16R).ready_, .hd 2 ((⟨s0.now_, s0.under_, s0.ready_, l6⟩ : T_spec_l16R).votes_.map (c_str)).length 0 ((⟨s0.now_, s0.under_, s0.ready_, l6⟩ : T_spec_l16R).votes_.map (c_str)).length], .dead, .arr .clo 1 ((⟨s0.now_, s0.under_, s0.ready_, l6⟩ : T_spec_l16R).votes_.map (c_str)), .box (c_T_impl_RecoverEvent false a3)]) _ rfl rfl ⟨(bels_iff.1 rfl), ⟨trivial, ⟨trivial, ⟨(bels_iff.1 rfl), trivial⟩⟩⟩⟩ (.cons 0 _ (.bx 0 0) _ rfl (.same _) rfl (.cons 9 _ (.bx 3 0) _ rfl (.same _) rfl .nil)) (thn_normal ⟨(⟨s0.now_, s0.under_, s0.ready_, l6⟩ : T_spec_l16R), rfl, rfl, H⟩)
            · replace H := cond_f h H
              refine T.seq ?_
              refine T.region ?_
              refine TL.st rfl rfl rfl (o_ari rfl rfl rfl rfl) ?_
              refine TL.st rfl rfl rfl (o_assign rfl rfl) ?_
              refine TL.nil ?_
              refine thn_normal ?_
              refine T.cond ((a3.Kind_ == 4)) rfl (fun h => ?_) (fun h => ?_)
              · replace H := cond_t h H
                refine T.seq ?_
                refine T.seq ?_
                refine T.region ?_
                refine TL.st rfl rfl rfl (o_move rfl rfl) ?_
                refine TL.st rfl rfl rfl (o_nilCheck rfl rfl rfl) ?_
                refine TL.st rfl rfl rfl (o_fieldAddr rfl rfl rfl tyS_23 (by decide) rfl rfl ⟨_, rfl, Nat.le_of_ble_eq_true rfl⟩) ?_
                refine TL.st rfl rfl rfl (o_loadBx rfl tyS_23 rfl rfl (Nat.le_of_ble_eq_true rfl) rfl) ?_
                refine TL.st rfl rfl rfl (o_lenOwn (f := c_str) rfl rfl rfl rfl rfl) ?_
                refine TL.st rfl rfl rfl (o_move rfl rfl) ?_
                refine TL.st rfl rfl rfl (o_ari rfl rfl rfl rfl) ?_
                refine TL.nil ?_
                refine thn_normal ?_
                refine T.cond (decide ((s0.votes_.length : Int) < a0)) rfl (fun h => ?_) (fun h => ?_)
                · replace H := cond_t h H
                  refine T.seq ?_
                  refine T.region ?_
                  refine TL.st rfl rfl rfl (o_assign rfl rfl) ?_
                  refine TL.nil ?_
                  refine thn_normal ?_
                  refine T.ret ?_
                  refine thn_ret ?_
                  refine inB_ret ?_
                  refine Pk.id (thn_ret ?_)
                  cases some_i H
                  exact ⟨trivial, _, (.tmp _ _ _ _ rfl .nil), ⟨rfl, _, rfl⟩⟩
                · replace H := cond_f h H
                  refine T.skip ?_
                  refine thn_normal ?_
                  refine T.seq ?_
                  refine T.seq ?_
                  refine T.drawn rfl ?_
                  refine TD.rs rfl rfl (o_fieldAddr rfl rfl rfl tyS_3 (by decide) rfl rfl ⟨_, rfl, Nat.le_of_ble_eq_true rfl⟩) ?_
                  refine TD.rs rfl rfl (o_loadBx rfl tyS_3 rfl rfl (Nat.le_of_ble_eq_true rfl) rfl) ?_
                  refine TD.qs rfl rfl (fun _ => o_move rfl rfl) ?_
                  refine TD.qs rfl rfl (fun _ => o_nilCheck rfl rfl rfl) ?_
                  refine TD.rs rfl rfl (o_fieldAddr rfl rfl rfl tyS_3 (by decide) rfl rfl ⟨_, rfl, Nat.le_of_ble_eq_true rfl⟩) ?_
                  refine TD.rs rfl rfl (o_loadBx rfl tyS_3 rfl rfl (Nat.le_of_ble_eq_true rfl) rfl) ?_
                  refine TD.qs rfl rfl (fun _ => o_ari rfl rfl rfl rfl) ?_
                  refine TD.nil ⟨rfl, ?_⟩
                  refine thn_normal ?_
                  refine T.cond (decide (a3.Time_ < s0.ready_)) rfl (fun h => ?_) (fun h => ?_)
                  · replace H := cond_t h H
                    refine T.seq ?_
                    refine T.region ?_
                    refine TL.st rfl rfl rfl (o_assign rfl rfl) ?_
                    refine TL.nil ?_
                    refine thn_normal ?_
                    refine T.ret ?_
                    refine thn_ret ?_
                    refine inB_ret ?_
                    refine Pk.id (thn_ret ?_)
                    cases some_i H
                    exact ⟨trivial, _, (.tmp _ _ _ _ rfl .nil), ⟨rfl, _, rfl⟩⟩
                  · replace H := cond_f h H
                    refine T.skip ?_
                    refine thn_normal ?_
                    refine T.region ?_
                    refine TL.st rfl rfl rfl (o_move rfl rfl) ?_
                    refine TL.st rfl rfl rfl (o_nilCheck rfl rfl rfl) ?_
                    refine TL.st rfl rfl rfl (o_fieldAddr rfl rfl rfl tyS_4 (by decide) rfl rfl ⟨_, rfl, Nat.le_of_ble_eq_true rfl⟩) ?_
                    refine TL.sn rfl rfl (o_storeBx rfl tyS_4 rfl rfl rfl rfl (Nat.le_of_ble_eq_true rfl) rfl) ?_
                    refine TL.nil ?_
                    refine inB_normal ?_
                    exact Pk.go (fr' := [(0, .bx 0 0), (9, .bx 3 0)]) (σ' := [.box [.int .i64 (⟨s0.now_, false, s0.ready_, s0.votes_⟩ : T_spec_l16R).now_, .bool (⟨s0.now_, false, s0.ready_, s0.votes_⟩ : T_spec_l16R).under_, .int .i64 (⟨s0.now_, false, s0.ready_, s0.votes_⟩ : T_spec_l16R).ready_, .hd 2 ((⟨s0.now_, false, s0.ready_, s0.votes_⟩ : T_spec_l16R).votes_.map (c_str)).length 0 ((⟨s0.now_, false, s0.ready_, s0.votes_⟩ : T_spec_l16R).votes_.map (c_str)).length], .dead, .arr .clo 1 ((⟨s0.now_, false, s0.ready_, s0.votes_⟩ : T_spec_l16R).votes_.map (c_str)), .box (c_T_impl_RecoverEvent false a3)]) _ rfl rfl ⟨(bels_iff.1 rfl), ⟨trivial, ⟨trivial, ⟨(bels_iff.1 rfl), trivial⟩⟩⟩⟩ (.cons 0 _ (.bx 0 0) _ rfl (.same _) rfl (.cons 9 _ (.bx 3 0) _ rfl (.same _) rfl .nil)) (thn_normal ⟨(⟨s0.now_, false, s0.ready_, s0.votes_⟩ : T_spec_l16R), rfl, rfl, H⟩)
              · replace H := cond_f h H
                refine T.region ?_
                refine TL.st rfl rfl rfl (o_move rfl rfl) ?_
                refine TL.st rfl rfl rfl (o_nilCheck rfl rfl rfl) ?_
                refine TL.st rfl rfl rfl (o_fieldAddr rfl rfl rfl tyS_4 (by decide) rfl rfl ⟨_, rfl, Nat.le_of_ble_eq_true rfl⟩) ?_
                refine TL.sn rfl rfl (o_storeBx rfl tyS_4 rfl rfl rfl rfl (Nat.le_of_ble_eq_true rfl) rfl) ?_
                refine TL.nil ?_
                refine inB_normal ?_
                exact Pk.go (fr' := [(0, .bx 0 0), (9, .bx 3 0)]) (σ' := [.box [.int .i64 (⟨s0.now_, false, s0.ready_, s0.votes_⟩ : T_spec_l16R).now_, .bool (⟨s0.now_, false, s0.ready_, s0.votes_⟩ : T_spec_l16R).under_, .int .i64 (⟨s0.now_, false, s0.ready_, s0.votes_⟩ : T_spec_l16R).ready_, .hd 2 ((⟨s0.now_, false, s0.ready_, s0.votes_⟩ : T_spec_l16R).votes_.map (c_str)).length 0 ((⟨s0.now_, false, s0.ready_, s0.votes_⟩ : T_spec_l16R).votes_.map (c_str)).length], .dead, .arr .clo 1 ((⟨s0.now_, false, s0.ready_, s0.votes_⟩ : T_spec_l16R).votes_.map (c_str)), .box (c_T_impl_RecoverEvent false a3)]) _ rfl rfl ⟨(bels_iff.1 rfl), ⟨trivial, ⟨trivial, ⟨(bels_iff.1 rfl), trivial⟩⟩⟩⟩ (.cons 0 _ (.bx 0 0) _ rfl (.same _) rfl (.cons 9 _ (.bx 3 0) _ rfl (.same _) rfl .nil)) (thn_normal ⟨(⟨s0.now_, false, s0.ready_, s0.votes_⟩ : T_spec_l16R), rfl, rfl, H⟩)
        · rintro _ _ ⟨b1, rfl, rfl, H⟩
          refine T.seq ?_
          refine T.region ?_
          refine TL.st rfl rfl rfl (o_move rfl rfl) ?_
          refine TL.st rfl rfl rfl (o_fieldAddr rfl rfl rfl tyS_3 (by decide) rfl rfl ⟨_, rfl, Nat.le_of_ble_eq_true rfl⟩) ?_
          refine TL.st rfl rfl rfl (o_loadBx rfl tyS_3 rfl rfl (Nat.le_of_ble_eq_true rfl) rfl) ?_
          refine TL.st rfl rfl rfl (o_nilCheck rfl rfl rfl) ?_
          refine TL.st rfl rfl rfl (o_fieldAddr rfl rfl rfl tyS_3 (by decide) rfl rfl ⟨_, rfl, Nat.le_of_ble_eq_true rfl⟩) ?_
          refine TL.sn rfl rfl (o_storeBx rfl tyS_3 rfl rfl rfl rfl (Nat.le_of_ble_eq_true rfl) rfl) ?_
          refine TL.nil ?_
          refine thn_normal ?_
          refine T.seq ?_
          refine T.region ?_
          refine TL.st rfl rfl rfl (o_assign rfl rfl) ?_
          refine TL.nil ?_
          refine thn_normal ?_
          refine T.ret ?_
          cases some_i H
          exact ⟨trivial, _, (.tmp _ _ _ _ rfl .nil), ⟨rfl, _, rfl⟩⟩
theorem en_31 (us : Array Value) (w : World) : (callFunc 31 us).run Go.Proofs.Try.prog w = .ok (.enter 31 us) w := enters Go.Proofs.Try.func31 rfl rfl us w
noncomputable def spec_RunRecovery_l2 (a0 : Int) (a1 : Int) (a2 : (List ByteArray)) (a3 : (List T_impl_RecoverEvent)) : (T_spec_l16R × List Int × Int) → Option ((T_spec_l16R × List Int × Int) ⊕ (T_spec_l16R × List Int)) := fun s => match s with
  | (b5, l6, v7) => cond (decide (v7 < (a3.length : Int))) ((idx a3 v7).bind fun e11 => (spec_l16R_do a0 a1 a2 e11 b5).bind fun q => (match q with | (r13, o14) => (app l6 ([r13] : List Int)).bind fun l16 => some (.inl (o14, l16, (IntKind.i64.wrap (v7 + 1)))))) (some (.inr (b5, l6)))
noncomputable def spec_RunRecovery_l1 (a2 : (List ByteArray)) : Int → Option (Int ⊕ (Unit ⊕ (List Int))) := fun s => match s with
  | v3 => cond (decide (v3 < (a2.length : Int))) ((idx a2 v3).bind fun e21 => (spec_GoodName e21).bind fun r23 => cond (!r23) (some (.inr (.inr ([] : List Int)))) (some (.inl (IntKind.i64.wrap (v3 + 1))))) (some (.inr (.inl ())))
noncomputable def spec_RunRecovery (a0 : Int) (a1 : Int) (a2 : (List ByteArray)) (a3 : (List T_impl_RecoverEvent)) : Option (List Int) :=
  (gdO (!((((decide (a0 < 1) || decide (a0 > 10)) || decide (a1 < 0)) || decide (a1 > 100000000000)) || decide ((a2.length : Int) > 10))) (spec_l3Rising a2)).bind fun r1 => cond ((((((decide (a0 < 1) || decide (a0 > 10)) || decide (a1 < 0)) || decide (a1 > 100000000000)) || decide ((a2.length : Int) > 10)) || (!r1)) || decide ((a3.length : Int) > 200)) (some ([] : List Int)) ((loopO (spec_RunRecovery_l1 a2) 0).bind fun q25 => (match q25 with | .inl _ => (loopO (spec_RunRecovery_l2 a0 a1 a2 a3) ((⟨0, false, 0, ([] : List ByteArray)⟩ : T_spec_l16R), ([] : List Int), 0)).bind fun q18 => (match q18 with | (b8, l9) => some l9) | .inr q4 => some q4))
theorem spec_RunRecovery_p (b0 : Bool) (b1 : Bool) {a0 : Int} {a1 : Int} {a2 : (List ByteArray)} {a3 : (List T_impl_RecoverEvent)} {R0 : (List Int)} (H : spec_RunRecovery a0 a1 a2 a3 = some R0) : Pure Go.Proofs.Try.prog 8 [.int .i64 a0, .int .i64 a1, .im b0 (a2.map (c_str)), .im b1 (a3.map (c_T_impl_RecoverEvent false))] (.im false (R0.map (c_int .i64))) := by
  refine CallT.of_TN (n := 73) Go.Proofs.Try.func8 rfl rfl rfl rfl ?_
  refine T.seq ?_
  refine T.region ?_
  refine TL.st rfl rfl rfl (o_assign rfl rfl) ?_
  refine TL.nil ?_
  refine thn_normal ?_
  refine T.seq ?_
  refine T.seq ?_
  refine T.region ?_
  refine TL.st rfl rfl rfl (o_move rfl rfl) ?_
  refine TL.st rfl rfl rfl (o_ari rfl rfl rfl rfl) ?_
  refine TL.st rfl rfl rfl (o_move rfl rfl) ?_
  refine TL.gcq rfl rfl rfl (.bool _) rfl rfl (fun h => o_move rfl rfl) ?_
  refine TL.gcq rfl rfl rfl (.bool _) rfl rfl (fun h => o_ari rfl (gv h rfl) rfl rfl) ?_
  refine TL.st rfl rfl rfl (o_or rfl rfl rfl rfl (fun k => Gd_t k)) ?_
  refine TL.st rfl rfl rfl (o_move rfl rfl) ?_
  refine TL.gcq rfl rfl rfl (.bool _) rfl rfl (fun h => o_move rfl rfl) ?_
  refine TL.gcq rfl rfl rfl (.bool _) rfl rfl (fun h => o_ari rfl (gv h rfl) rfl rfl) ?_
  refine TL.st rfl rfl rfl (o_or rfl rfl rfl rfl (fun k => Gd_t k)) ?_
  refine TL.st rfl rfl rfl (o_move rfl rfl) ?_
  refine TL.gcq rfl rfl rfl (.bool _) rfl rfl (fun h => o_move rfl rfl) ?_
  refine TL.gcq rfl rfl rfl (.bool _) rfl rfl (fun h => o_ari rfl (gv h rfl) rfl rfl) ?_
  refine TL.st rfl rfl rfl (o_or rfl rfl rfl rfl (fun k => Gd_t k)) ?_
  refine TL.st rfl rfl rfl (o_move rfl rfl) ?_
  refine TL.gcq rfl rfl rfl (.bool _) rfl rfl (fun h => o_move rfl rfl) ?_
  refine TL.gcq rfl rfl rfl (.bool _) rfl rfl (fun h => o_lenL (f := c_str) rfl rfl (gv h rfl)) ?_
  refine TL.gcq rfl rfl rfl (.bool _) rfl rfl (fun h => o_ari rfl (gv h rfl) rfl rfl) ?_
  refine TL.st rfl rfl rfl (o_or rfl rfl rfl rfl (fun k => Gd_t k)) ?_
  refine TL.st rfl rfl rfl (o_move rfl rfl) ?_
  refine TL.gcq rfl rfl rfl (.bool _) rfl rfl (fun h => o_move rfl rfl) ?_
  obtain ⟨r1, h2, H⟩ := bind_s H
  refine TL.gcq rfl rfl rfl (.bool _) rfl rfl (fun h => o_callP rfl en_29 rfl (evl_1 (gv h rfl)) (.cons _ _ _ _ (.imv _ _) .nil) (spec_l3Rising_p b0 (gdO_t h2 h))) ?_
  refine TL.gcq rfl rfl rfl (.bool _) rfl rfl (fun h => o_not rfl (gv h rfl)) ?_
  refine TL.st rfl rfl rfl (o_or rfl rfl rfl rfl (fun k => Gd_t k)) ?_
  refine TL.st rfl rfl rfl (o_move rfl rfl) ?_
  refine TL.gcq rfl rfl rfl (.bool _) rfl rfl (fun h => o_move rfl rfl) ?_
  refine TL.gcq rfl rfl rfl (.bool _) rfl rfl (fun h => o_lenL (f := c_T_impl_RecoverEvent false) rfl rfl (gv h rfl)) ?_
  refine TL.gcq rfl rfl rfl (.bool _) rfl rfl (fun h => o_ari rfl (gv h rfl) rfl rfl) ?_
  refine TL.st rfl rfl rfl (o_or rfl rfl rfl rfl (fun k => Gd_t k)) ?_
  refine TL.nil ?_
  refine thn_normal ?_
  refine T.cond (((((((decide (a0 < 1) || decide (a0 > 10)) || decide (a1 < 0)) || decide (a1 > 100000000000)) || decide ((a2.length : Int) > 10)) || (!r1)) || decide ((a3.length : Int) > 200))) rfl (fun h => ?_) (fun h => ?_)
  · replace H := cond_t h H
    refine T.seq ?_
    refine T.region ?_
    refine TL.st rfl rfl rfl (o_assign rfl rfl) ?_
    refine TL.nil ?_
    refine thn_normal ?_
    refine T.ret ?_
    refine thn_ret ?_
    cases some_i H
    exact ⟨trivial, _, (.tmp _ _ _ _ rfl .nil), .nil⟩
  · replace H := cond_f h H
    refine T.skip ?_
    refine thn_normal ?_
    refine T.seq ?_
    refine T.seq ?_
    refine T.region ?_
    refine TL.st rfl rfl rfl (o_move rfl rfl) ?_
    refine TL.st rfl rfl rfl (o_lenL (f := c_str) rfl rfl rfl) ?_
    refine TL.st rfl rfl rfl (o_move rfl rfl) ?_
    refine TL.nil ?_
    refine thn_normal ?_
    refine T.block ?_
    obtain ⟨q25, h26, H⟩ := bind_s H
    refine T.to (.cons 0 _ (.int .i64 a0) _ rfl (.same _) rfl (.cons 1 _ (.int .i64 a1) _ rfl (.same _) rfl (.cons 2 _ (.im b0 (a2.map (c_str))) _ rfl (.same _) rfl (.cons 3 _ (.im b1 (a3.map (c_T_impl_RecoverEvent false))) _ rfl (.same _) rfl (.cons 44 _ (.im b0 (a2.map (c_str))) _ rfl (.same _) rfl (.cons 45 _ (.int .i64 (a2.length : Int)) _ rfl (.same _) rfl (.cons 46 _ (.int .i64 0) _ rfl (.same _) rfl .nil))))))) ?_
    refine T.lp (fun s => match s with | v3 => [(0, .int .i64 a0), (1, .int .i64 a1), (2, .im b0 (a2.map (c_str))), (3, .im b1 (a3.map (c_T_impl_RecoverEvent false))), (44, .im b0 (a2.map (c_str))), (45, .int .i64 (a2.length : Int)), (46, .int .i64 v3)]) (fun s => match s with | v3 => []) (fun q ex fr σ => match q with | .inl _ => ex = .exit 0 ∧ fr = [(0, .int .i64 a0), (1, .int .i64 a1), (2, .im b0 (a2.map (c_str))), (3, .im b1 (a3.map (c_T_impl_RecoverEvent false)))] ∧ σ = [] | .inr q4 => ex = .ret ∧ RetN Go.Proofs.Try.prog [.tmp 8] (fun v τ => Told τ v (.im false (q4.map (c_int .i64)))) .ret fr σ) h26 ?_ ?_ ?_ ?_ ?_
    · rintro v3 y20 H
      refine T.seq ?_
      refine T.region ?_
      refine TL.st rfl rfl rfl (o_ari rfl rfl rfl rfl) ?_
      refine TL.nil ?_
      refine thn_normal ?_
      refine T.seq ?_
      refine T.cond (decide (v3 < (a2.length : Int))) rfl (fun h => ?_) (fun h => ?_)
      · replace H := cond_t h H
        refine T.skip ?_
        refine thn_normal ?_
        refine T.seq ?_
        refine T.block ?_
        refine T.seq ?_
        refine T.region ?_
        obtain ⟨e21, h22, H⟩ := bind_s H
        refine TL.st rfl rfl rfl (o_ix (f := c_str) rfl rfl tyS_9 rfl rfl h22 rfl) ?_
        refine TL.st rfl rfl rfl (o_loadRf rfl tyS_9 rfl (Nat.le_of_ble_eq_true rfl) rfl) ?_
        refine TL.st rfl rfl rfl (o_assign rfl rfl) ?_
        refine TL.nil ?_
        refine thn_normal ?_
        refine T.seq ?_
        refine T.region ?_
        refine TL.st rfl rfl rfl (o_move rfl rfl) ?_
        obtain ⟨r23, h24, H⟩ := bind_s H
        refine TL.st rfl rfl rfl (o_callP rfl en_30 rfl rfl (.cons _ _ _ _ (.cl _ rfl) .nil) (spec_GoodName_p  h24)) ?_
        refine TL.st rfl rfl rfl (o_not rfl rfl) ?_
        refine TL.nil ?_
        refine thn_normal ?_
        refine T.cond ((!r23)) rfl (fun h => ?_) (fun h => ?_)
        · replace H := cond_t h H
          refine T.seq ?_
          refine T.region ?_
          refine TL.st rfl rfl rfl (o_assign rfl rfl) ?_
          refine TL.nil ?_
          refine thn_normal ?_
          refine T.ret ?_
          refine inB_ret ?_
          refine thn_ret ?_
          exact Pk.id (thn_ret ⟨.inr ([] : List Int), (some_i H).symm, rfl, ⟨trivial, _, (.tmp _ _ _ _ rfl .nil), .nil⟩⟩)
        · replace H := cond_f h H
          refine T.skip ?_
          refine inB_normal ?_
          refine thn_normal ?_
          refine T.region ?_
          refine TL.st rfl rfl rfl (o_ari rfl rfl rfl rfl) ?_
          refine TL.st rfl rfl rfl (o_move rfl rfl) ?_
          refine TL.nil ?_
          exact Pk.go (fr' := [(0, .int .i64 a0), (1, .int .i64 a1), (2, .im b0 (a2.map (c_str))), (3, .im b1 (a3.map (c_T_impl_RecoverEvent false))), (44, .im b0 (a2.map (c_str))), (45, .int .i64 (a2.length : Int)), (46, .int .i64 (IntKind.i64.wrap (v3 + 1)))]) (σ' := []) _ rfl rfl trivial (.cons 0 _ (.int .i64 a0) _ rfl (.same _) rfl (.cons 1 _ (.int .i64 a1) _ rfl (.same _) rfl (.cons 2 _ (.im b0 (a2.map (c_str))) _ rfl (.same _) rfl (.cons 3 _ (.im b1 (a3.map (c_T_impl_RecoverEvent false))) _ rfl (.same _) rfl (.cons 44 _ (.im b0 (a2.map (c_str))) _ rfl (.same _) rfl (.cons 45 _ (.int .i64 (a2.length : Int)) _ rfl (.same _) rfl (.cons 46 _ (.int .i64 (IntKind.i64.wrap (v3 + 1))) _ rfl (.same _) rfl .nil))))))) (thn_normal ⟨(IntKind.i64.wrap (v3 + 1)), (some_i H).symm, rfl, rfl⟩)
      · replace H := cond_f h H
        refine T.exit ?_
        refine thn_exit ?_
        exact Pk.go (fr' := [(0, .int .i64 a0), (1, .int .i64 a1), (2, .im b0 (a2.map (c_str))), (3, .im b1 (a3.map (c_T_impl_RecoverEvent false)))]) (σ' := []) _ rfl rfl trivial (.cons 0 _ (.int .i64 a0) _ rfl (.same _) rfl (.cons 1 _ (.int .i64 a1) _ rfl (.same _) rfl (.cons 2 _ (.im b0 (a2.map (c_str))) _ rfl (.same _) rfl (.cons 3 _ (.im b1 (a3.map (c_T_impl_RecoverEvent false))) _ rfl (.same _) rfl .nil)))) (thn_exit ⟨.inl (), (some_i H).symm, rfl, rfl, rfl⟩)
    · rintro v3 v3'; rfl
    · rintro v3; exact trivial
    · rintro v3; exact (.cons _ _ _ rfl rfl (.cons _ _ _ rfl rfl (.cons _ _ _ rfl rfl (.cons _ _ _ rfl rfl (.cons _ _ _ rfl rfl (.cons _ _ _ rfl rfl (.cons _ _ _ rfl rfl .nil)))))))
    · rcases q25 with ⟨⟩ | q4
      · rintro _ _ _ ⟨rfl, rfl, rfl⟩
        refine inB_here ?_
        refine thn_normal ?_
        refine T.seq ?_
        refine T.region ?_
        refine TL.st rfl rfl rfl (o_build rfl ⟨_, fun _ => rfl, rfl⟩ rfl rfl rfl) ?_
        refine TL.st rfl rfl rfl (o_box rfl rfl rfl) ?_
        refine TL.st rfl rfl rfl (o_assign rfl rfl) ?_
        refine TL.nil ?_
        refine thn_normal ?_
        refine T.seq ?_
        refine T.region ?_
        refine TL.st rfl rfl rfl (o_assign rfl rfl) ?_
        refine TL.nil ?_
        refine thn_normal ?_
        refine T.seq ?_
        refine T.seq ?_
        refine T.region ?_
        refine TL.st rfl rfl rfl (o_move rfl rfl) ?_
        refine TL.st rfl rfl rfl (o_lenL (f := c_T_impl_RecoverEvent false) rfl rfl rfl) ?_
        refine TL.st rfl rfl rfl (o_move rfl rfl) ?_
        refine TL.nil ?_
        refine thn_normal ?_
        refine T.block ?_
        refine T.conv (Cs.ownCell (p := 0) 3 1 rfl rfl (by decide)) ?_
        refine T.conv (Cs.own (t := 12) 1 rfl (by decide)) ?_
        obtain ⟨q18, h19, H⟩ := bind_s H
        refine T.to (.cons 0 _ (.int .i64 a0) _ rfl (.same _) rfl (.cons 1 _ (.int .i64 a1) _ rfl (.same _) rfl (.cons 2 _ (.im b0 (a2.map (c_str))) _ rfl (.same _) rfl (.cons 11 _ (.bx 0 0) _ rfl (.same _) rfl (.cons 12 _ (.hd 2 (([] : List Int).map (c_int .i64)).length 0 (([] : List Int).map (c_int .i64)).length) _ rfl (.same _) rfl (.cons 56 _ (.im b1 (a3.map (c_T_impl_RecoverEvent false))) _ rfl (.same _) rfl (.cons 57 _ (.int .i64 (a3.length : Int)) _ rfl (.same _) rfl (.cons 58 _ (.int .i64 0) _ rfl (.same _) rfl .nil)))))))) ?_
        refine T.lp (fun s => match s with | (b5, l6, v7) => [(0, .int .i64 a0), (1, .int .i64 a1), (2, .im b0 (a2.map (c_str))), (11, .bx 0 0), (12, .hd 2 (l6.map (c_int .i64)).length 0 (l6.map (c_int .i64)).length), (56, .im b1 (a3.map (c_T_impl_RecoverEvent false))), (57, .int .i64 (a3.length : Int)), (58, .int .i64 v7)]) (fun s => match s with | (b5, l6, v7) => [.box [.int .i64 b5.now_, .bool b5.under_, .int .i64 b5.ready_, .hd 1 (b5.votes_.map (c_str)).length 0 (b5.votes_.map (c_str)).length], .arr .clo 1 (b5.votes_.map (c_str)), .arr .clo 1 (l6.map (c_int .i64))]) (fun q ex fr σ => match q with | (b8, l9) => ex = .exit 2 ∧ fr = [(12, .hd 2 (l9.map (c_int .i64)).length 0 (l9.map (c_int .i64)).length)] ∧ σ = [.box [.int .i64 b8.now_, .bool b8.under_, .int .i64 b8.ready_, .hd 1 (b8.votes_.map (c_str)).length 0 (b8.votes_.map (c_str)).length], .arr .clo 1 (b8.votes_.map (c_str)), .arr .clo 1 (l9.map (c_int .i64))]) h19 ?_ ?_ ?_ ?_ ?_
        · rintro ⟨b5, l6, v7⟩ y10 H
          refine T.seq ?_
          refine T.region ?_
          refine TL.st rfl rfl rfl (o_ari rfl rfl rfl rfl) ?_
          refine TL.nil ?_
          refine thn_normal ?_
          refine T.seq ?_
          refine T.cond (decide (v7 < (a3.length : Int))) rfl (fun h => ?_) (fun h => ?_)
          · replace H := cond_t h H
            refine T.skip ?_
            refine thn_normal ?_
            refine T.seq ?_
            refine T.block ?_
            refine T.seq ?_
            refine T.region ?_
            obtain ⟨e11, h12, H⟩ := bind_s H
            refine TL.st rfl rfl rfl (o_ix (f := c_T_impl_RecoverEvent false) rfl rfl tyS_31 rfl rfl h12 rfl) ?_
            refine TL.st rfl rfl rfl (o_loadRf rfl tyS_31 rfl (Nat.le_of_ble_eq_true rfl) rfl) ?_
            refine TL.st rfl rfl rfl (o_alloc rfl ⟨_, rfl, rfl⟩) ?_
            refine TL.sn rfl rfl (o_storeBx rfl tyS_31 rfl rfl rfl rfl (Nat.le_of_ble_eq_true rfl) rfl) ?_
            refine TL.nil ?_
            refine thn_normal ?_
            refine T.region ?_
            refine TL.st rfl rfl rfl (o_move rfl rfl) ?_
            refine TL.st rfl rfl rfl (o_move rfl rfl) ?_
            refine TL.st rfl rfl rfl (o_move rfl rfl) ?_
            refine TL.st rfl rfl rfl (o_move rfl rfl) ?_
            refine TL.st rfl rfl rfl (o_move rfl rfl) ?_
            refine TL.st rfl rfl rfl (o_loadBx rfl tyS_31 rfl rfl (Nat.le_of_ble_eq_true rfl) rfl) ?_
            obtain ⟨⟨r13, o14⟩, h15, H⟩ := bind_s H
            refine TL.st rfl rfl rfl (o_callS [0, 1] rfl en_31 rfl rfl (spec_l16R_do_p b0 h15) rfl (by decide) (.cons _ _ _ _ rfl (.cons _ _ _ _ rfl .nil)) rfl rfl rfl) ?_
            refine TL.conv (Cs.wkF (M := 5) (.cons 0 _ (.int .i64 a0) _ rfl (.same _) rfl (.cons 1 _ (.int .i64 a1) _ rfl (.same _) rfl (.cons 2 _ (.im b0 (a2.map (c_str))) _ rfl (.same _) rfl (.cons 11 _ (.bx 0 0) _ rfl (.same _) rfl (.cons 12 _ (.hd 2 (l6.map (c_int .i64)).length 0 (l6.map (c_int .i64)).length) _ rfl (.same _) rfl (.cons 14 _ (.bx 3 0) _ rfl (.same _) rfl (.cons 56 _ (.im b1 (a3.map (c_T_impl_RecoverEvent false))) _ rfl (.same _) rfl (.cons 57 _ (.int .i64 (a3.length : Int)) _ rfl (.same _) rfl (.cons 58 _ (.int .i64 v7) _ rfl (.same _) rfl (.cons 59 _ (.bool (decide (v7 < (a3.length : Int)))) _ rfl (.same _) rfl (.cons 61 _ (.agg (c_T_impl_RecoverEvent false e11)) _ rfl (.same _) rfl (.cons 62 _ (.hd 2 (l6.map (c_int .i64)).length 0 (l6.map (c_int .i64)).length) _ rfl (.same _) rfl (.cons 63 _ (.bx 0 0) _ rfl (.same _) rfl (.cons 64 _ (.int .i64 a0) _ rfl (.same _) rfl (.cons 65 _ (.int .i64 a1) _ rfl (.same _) rfl (.cons 66 _ (.im b0 (a2.map (c_str))) _ rfl (.same _) rfl (.cons 67 _ (.agg (c_T_impl_RecoverEvent false e11)) _ rfl (.same _) rfl (.cons 68 _ (.int .i64 r13) _ rfl (.same _) rfl .nil))))))))))))))))))) ?_
            refine TL.conv (Cs.reloc 1 4 rfl rfl (by decide) rfl rfl rfl (nomS_get rfl)) ?_
            refine TL.conv (Cs.wkF (M := 5) (.cons 0 _ (.int .i64 a0) _ rfl (.same _) rfl (.cons 1 _ (.int .i64 a1) _ rfl (.same _) rfl (.cons 2 _ (.im b0 (a2.map (c_str))) _ rfl (.same _) rfl (.cons 11 _ (.bx 0 0) _ rfl (.same _) rfl (.cons 12 _ (.hd 2 (l6.map (c_int .i64)).length 0 (l6.map (c_int .i64)).length) _ rfl (.same _) rfl (.cons 14 _ (.bx 3 0) _ rfl (.same _) rfl (.cons 56 _ (.im b1 (a3.map (c_T_impl_RecoverEvent false))) _ rfl (.same _) rfl (.cons 57 _ (.int .i64 (a3.length : Int)) _ rfl (.same _) rfl (.cons 58 _ (.int .i64 v7) _ rfl (.same _) rfl (.cons 59 _ (.bool (decide (v7 < (a3.length : Int)))) _ rfl (.same _) rfl (.cons 61 _ (.agg (c_T_impl_RecoverEvent false e11)) _ rfl (.same _) rfl (.cons 62 _ (.hd 2 (l6.map (c_int .i64)).length 0 (l6.map (c_int .i64)).length) _ rfl (.same _) rfl (.cons 63 _ (.bx 0 0) _ rfl (.same _) rfl (.cons 64 _ (.int .i64 a0) _ rfl (.same _) rfl (.cons 65 _ (.int .i64 a1) _ rfl (.same _) rfl (.cons 66 _ (.im b0 (a2.map (c_str))) _ rfl (.same _) rfl (.cons 67 _ (.agg (c_T_impl_RecoverEvent false e11)) _ rfl (.same _) rfl (.cons 68 _ (.int .i64 r13) _ rfl (.same _) rfl .nil))))))))))))))))))) ?_
            refine TL.conv (Cs.eqS (σ' := [.box [.int .i64 o14.now_, .bool o14.under_, .int .i64 o14.ready_, .hd 1 (o14.votes_.map (c_str)).length 0 (o14.votes_.map (c_str)).length], .arr .clo 1 (o14.votes_.map (c_str)), .arr .clo 1 (l6.map (c_int .i64)), .box (c_T_impl_RecoverEvent false e11), .dead]) rfl) ?_
            refine TL.st rfl rfl rfl (o_sliceIm rfl rfl tyS_3 ⟨_, rfl, rfl⟩ (by decide) rfl rfl rfl rfl rfl rfl) ?_
            obtain ⟨l16, h17, H⟩ := bind_s H
            refine TL.st rfl rfl rfl (o_ap (f := c_int .i64) (xs := l6) (ys := ([r13] : List Int)) rfl rfl tyE_3 rfl rfl rfl rfl (by decide) rfl (fun _ => rfl) h17) ?_
            refine TL.st rfl rfl rfl (o_assign rfl rfl) ?_
            refine TL.nil ?_
            refine inB_normal ?_
            refine thn_normal ?_
            refine T.region ?_
            refine TL.st rfl rfl rfl (o_ari rfl rfl rfl rfl) ?_
            refine TL.st rfl rfl rfl (o_move rfl rfl) ?_
            refine TL.nil ?_
            exact Pk.go (fr' := [(0, .int .i64 a0), (1, .int .i64 a1), (2, .im b0 (a2.map (c_str))), (11, .bx 0 0), (12, .hd 2 (l16.map (c_int .i64)).length 0 (l16.map (c_int .i64)).length), (56, .im b1 (a3.map (c_T_impl_RecoverEvent false))), (57, .int .i64 (a3.length : Int)), (58, .int .i64 (IntKind.i64.wrap (v7 + 1)))]) (σ' := [.box [.int .i64 o14.now_, .bool o14.under_, .int .i64 o14.ready_, .hd 1 (o14.votes_.map (c_str)).length 0 (o14.votes_.map (c_str)).length], .arr .clo 1 (o14.votes_.map (c_str)), .arr .clo 1 (l16.map (c_int .i64))]) _ rfl rfl ⟨(bels_iff.1 rfl), ⟨trivial, ⟨trivial, trivial⟩⟩⟩ (.cons 0 _ (.int .i64 a0) _ rfl (.same _) rfl (.cons 1 _ (.int .i64 a1) _ rfl (.same _) rfl (.cons 2 _ (.im b0 (a2.map (c_str))) _ rfl (.same _) rfl (.cons 11 _ (.bx 0 0) _ rfl (.same _) rfl (.cons 12 _ (.hd 2 (l16.map (c_int .i64)).length 0 (l16.map (c_int .i64)).length) _ rfl (.same _) rfl (.cons 56 _ (.im b1 (a3.map (c_T_impl_RecoverEvent false))) _ rfl (.same _) rfl (.cons 57 _ (.int .i64 (a3.length : Int)) _ rfl (.same _) rfl (.cons 58 _ (.int .i64 (IntKind.i64.wrap (v7 + 1))) _ rfl (.same _) rfl .nil)))))))) (thn_normal ⟨(o14, l16, (IntKind.i64.wrap (v7 + 1))), (some_i H).symm, rfl, rfl⟩)
          · replace H := cond_f h H
            refine T.exit ?_
            refine thn_exit ?_
            exact Pk.go (fr' := [(12, .hd 2 (l6.map (c_int .i64)).length 0 (l6.map (c_int .i64)).length)]) (σ' := [.box [.int .i64 b5.now_, .bool b5.under_, .int .i64 b5.ready_, .hd 1 (b5.votes_.map (c_str)).length 0 (b5.votes_.map (c_str)).length], .arr .clo 1 (b5.votes_.map (c_str)), .arr .clo 1 (l6.map (c_int .i64))]) _ rfl rfl ⟨(bels_iff.1 rfl), ⟨trivial, ⟨trivial, trivial⟩⟩⟩ (.cons 12 _ (.hd 2 (l6.map (c_int .i64)).length 0 (l6.map (c_int .i64)).length) _ rfl (.same _) rfl .nil) (thn_exit ⟨(b5, l6), (some_i H).symm, rfl, rfl, rfl⟩)
        · rintro ⟨b5, l6, v7⟩ ⟨b5', l6', v7'⟩; rfl
        · rintro ⟨b5, l6, v7⟩; exact ⟨(bels_iff.1 rfl), ⟨trivial, ⟨trivial, trivial⟩⟩⟩
        · rintro ⟨b5, l6, v7⟩; exact (.cons _ _ _ rfl rfl (.cons _ _ _ rfl rfl (.cons _ _ _ rfl rfl (.cons _ _ _ rfl rfl (.cons _ _ _ rfl rfl (.cons _ _ _ rfl rfl (.cons _ _ _ rfl rfl (.cons _ _ _ rfl rfl .nil))))))))
        · rcases q18 with ⟨b8, l9⟩
          rintro _ _ _ ⟨rfl, rfl, rfl⟩
          refine inB_here ?_
          refine thn_normal ?_
          refine T.seq ?_
          refine T.region ?_
          refine TL.st rfl rfl rfl (o_move rfl rfl) ?_
          refine TL.st rfl rfl rfl (o_assign rfl rfl) ?_
          refine TL.nil ?_
          refine thn_normal ?_
          refine T.ret ?_
          cases some_i H
          exact ⟨trivial, _, (.tmp _ _ _ _ rfl .nil), (.own rfl (by decide) rfl)⟩
      · rintro _ fr1 σ1 ⟨rfl, hr⟩
        refine inB_ret ?_
        refine thn_ret ?_
        cases some_i H
        exact hr
theorem en_8 (us : Array Value) (w : World) : (callFunc 8 us).run Go.Proofs.Try.prog w = .ok (.enter 8 us) w := enters Go.Proofs.Try.func8 rfl rfl us w
noncomputable def laws_zInts_l1 (a0 : (List Int)) (a1 : (List Int)) : Int → Option (Int ⊕ (Unit ⊕ Bool)) := fun s => match s with
  | v1 => cond (decide (v1 < (a0.length : Int))) ((idx a0 v1).bind fun e4 => (idx a1 v1).bind fun e6 => cond (e4 != e6) (some (.inr (.inr false))) (some (.inl (IntKind.i64.wrap (v1 + 1))))) (some (.inr (.inl ())))
noncomputable def laws_zInts (a0 : (List Int)) (a1 : (List Int)) : Option Bool :=
  cond ((a0.length : Int) != (a1.length : Int)) (some false) ((loopO (laws_zInts_l1 a0 a1) 0).bind fun q8 => (match q8 with | .inl _ => some true | .inr q2 => some q2))
theorem laws_zInts_p (b0 : Bool) (b1 : Bool) {a0 : (List Int)} {a1 : (List Int)} {R0 : Bool} (H : laws_zInts a0 a1 = some R0) : Pure Go.Proofs.Try.prog 7 [.im b0 (a0.map (c_int .i64)), .im b1 (a1.map (c_int .i64))] (.bool R0) := by
  refine CallT.of_TN (n := 26) Go.Proofs.Try.func7 rfl rfl rfl rfl ?_
  refine T.seq ?_
  refine T.region ?_
  refine TL.st rfl rfl rfl (o_assign rfl rfl) ?_
  refine TL.nil ?_
  refine thn_normal ?_
  refine T.seq ?_
  refine T.seq ?_
  refine T.region ?_
  refine TL.st rfl rfl rfl (o_move rfl rfl) ?_
  refine TL.st rfl rfl rfl (o_lenL (f := c_int .i64) rfl rfl rfl) ?_
  refine TL.st rfl rfl rfl (o_move rfl rfl) ?_
  refine TL.st rfl rfl rfl (o_lenL (f := c_int .i64) rfl rfl rfl) ?_
  refine TL.st rfl rfl rfl (o_ari rfl rfl rfl rfl) ?_
  refine TL.nil ?_
  refine thn_normal ?_
  refine T.cond (((a0.length : Int) != (a1.length : Int))) rfl (fun h => ?_) (fun h => ?_)
  · replace H := cond_t h H
    refine T.seq ?_
    refine T.region ?_
    refine TL.st rfl rfl rfl (o_assign rfl rfl) ?_
    refine TL.nil ?_
    refine thn_normal ?_
    refine T.ret ?_
    refine thn_ret ?_
    cases some_i H
    exact ⟨trivial, _, (.tmp _ _ _ _ rfl .nil), (.cl _ rfl)⟩
  · replace H := cond_f h H
    refine T.skip ?_
    refine thn_normal ?_
    refine T.seq ?_
    refine T.seq ?_
    refine T.region ?_
    refine TL.st rfl rfl rfl (o_move rfl rfl) ?_
    refine TL.st rfl rfl rfl (o_lenL (f := c_int .i64) rfl rfl rfl) ?_
    refine TL.st rfl rfl rfl (o_move rfl rfl) ?_
    refine TL.nil ?_
    refine thn_normal ?_
    refine T.block ?_
    obtain ⟨q8, h9, H⟩ := bind_s H
    refine T.to (.cons 0 _ (.im b0 (a0.map (c_int .i64))) _ rfl (.same _) rfl (.cons 1 _ (.im b1 (a1.map (c_int .i64))) _ rfl (.same _) rfl (.cons 12 _ (.int .i64 (a0.length : Int)) _ rfl (.same _) rfl (.cons 13 _ (.int .i64 0) _ rfl (.same _) rfl .nil)))) ?_
    refine T.lp (fun s => match s with | v1 => [(0, .im b0 (a0.map (c_int .i64))), (1, .im b1 (a1.map (c_int .i64))), (12, .int .i64 (a0.length : Int)), (13, .int .i64 v1)]) (fun s => match s with | v1 => []) (fun q ex fr σ => match q with | .inl _ => ex = .exit 0 ∧ fr = [] ∧ σ = [] | .inr q2 => ex = .ret ∧ RetN Go.Proofs.Try.prog [.tmp 4] (fun v τ => Told τ v (.bool q2)) .ret fr σ) h9 ?_ ?_ ?_ ?_ ?_
    · rintro v1 y3 H
      refine T.seq ?_
      refine T.region ?_
      refine TL.st rfl rfl rfl (o_ari rfl rfl rfl rfl) ?_
      refine TL.nil ?_
      refine thn_normal ?_
      refine T.seq ?_
      refine T.cond (decide (v1 < (a0.length : Int))) rfl (fun h => ?_) (fun h => ?_)
      · replace H := cond_t h H
        refine T.skip ?_
        refine thn_normal ?_
        refine T.seq ?_
        refine T.block ?_
        refine T.seq ?_
        refine T.region ?_
        refine TL.st rfl rfl rfl (o_move rfl rfl) ?_
        refine TL.st rfl rfl rfl (o_assign rfl rfl) ?_
        refine TL.nil ?_
        refine thn_normal ?_
        refine T.seq ?_
        refine T.drawn rfl ?_
        refine TD.qs rfl rfl (fun _ => o_move rfl rfl) ?_
        refine TD.qs rfl rfl (fun _ => o_move rfl rfl) ?_
        obtain ⟨e4, h5, H⟩ := bind_s H
        refine TD.qs rfl rfl (fun _ => o_ix (f := c_int .i64) rfl rfl tyS_3 rfl rfl h5 rfl) ?_
        refine TD.qs rfl rfl (fun _ => o_loadRf rfl tyS_3 rfl (Nat.le_of_ble_eq_true rfl) rfl) ?_
        refine TD.qs rfl rfl (fun _ => o_move rfl rfl) ?_
        refine TD.qs rfl rfl (fun _ => o_move rfl rfl) ?_
        obtain ⟨e6, h7, H⟩ := bind_s H
        refine TD.qs rfl rfl (fun _ => o_ix (f := c_int .i64) rfl rfl tyS_3 rfl rfl h7 rfl) ?_
        refine TD.qs rfl rfl (fun _ => o_loadRf rfl tyS_3 rfl (Nat.le_of_ble_eq_true rfl) rfl) ?_
        refine TD.qs rfl rfl (fun _ => o_ari rfl rfl rfl rfl) ?_
        refine TD.nil ⟨rfl, ?_⟩
        refine thn_normal ?_
        refine T.cond ((e4 != e6)) rfl (fun h => ?_) (fun h => ?_)
        · replace H := cond_t h H
          refine T.seq ?_
          refine T.region ?_
          refine TL.st rfl rfl rfl (o_assign rfl rfl) ?_
          refine TL.nil ?_
          refine thn_normal ?_
          refine T.ret ?_
          refine inB_ret ?_
          refine thn_ret ?_
          exact Pk.id (thn_ret ⟨.inr false, (some_i H).symm, rfl, ⟨trivial, _, (.tmp _ _ _ _ rfl .nil), (.cl _ rfl)⟩⟩)
        · replace H := cond_f h H
          refine T.skip ?_
          refine inB_normal ?_
          refine thn_normal ?_
          refine T.region ?_
          refine TL.st rfl rfl rfl (o_ari rfl rfl rfl rfl) ?_
          refine TL.st rfl rfl rfl (o_move rfl rfl) ?_
          refine TL.nil ?_
          exact Pk.go (fr' := [(0, .im b0 (a0.map (c_int .i64))), (1, .im b1 (a1.map (c_int .i64))), (12, .int .i64 (a0.length : Int)), (13, .int .i64 (IntKind.i64.wrap (v1 + 1)))]) (σ' := []) _ rfl rfl trivial (.cons 0 _ (.im b0 (a0.map (c_int .i64))) _ rfl (.same _) rfl (.cons 1 _ (.im b1 (a1.map (c_int .i64))) _ rfl (.same _) rfl (.cons 12 _ (.int .i64 (a0.length : Int)) _ rfl (.same _) rfl (.cons 13 _ (.int .i64 (IntKind.i64.wrap (v1 + 1))) _ rfl (.same _) rfl .nil)))) (thn_normal ⟨(IntKind.i64.wrap (v1 + 1)), (some_i H).symm, rfl, rfl⟩)
      · replace H := cond_f h H
        refine T.exit ?_
        refine thn_exit ?_
        exact Pk.go (fr' := []) (σ' := []) _ rfl rfl trivial .nil (thn_exit ⟨.inl (), (some_i H).symm, rfl, rfl, rfl⟩)
    · rintro v1 v1'; rfl
    · rintro v1; exact trivial
    · rintro v1; exact (.cons _ _ _ rfl rfl (.cons _ _ _ rfl rfl (.cons _ _ _ rfl rfl (.cons _ _ _ rfl rfl .nil))))
    · rcases q8 with ⟨⟩ | q2
      · rintro _ _ _ ⟨rfl, rfl, rfl⟩
        refine inB_here ?_
        refine thn_normal ?_
        refine T.seq ?_
        refine T.region ?_
        refine TL.st rfl rfl rfl (o_assign rfl rfl) ?_
        refine TL.nil ?_
        refine thn_normal ?_
        refine T.ret ?_
        cases some_i H
        exact ⟨trivial, _, (.tmp _ _ _ _ rfl .nil), (.cl _ rfl)⟩
      · rintro _ fr1 σ1 ⟨rfl, hr⟩
        refine inB_ret ?_
        refine thn_ret ?_
        cases some_i H
        exact hr
theorem en_7 (us : Array Value) (w : World) : (callFunc 7 us).run Go.Proofs.Try.prog w = .ok (.enter 7 us) w := enters Go.Proofs.Try.func7 rfl rfl us w
noncomputable def laws_FnRecovered_j1 (v21 : Int) (v28 : Int) (v29 : Int) : Option ((Int × Int × Int) ⊕ ((Int × Int) ⊕ Bool)) :=
  some (.inl (v28, v29, (IntKind.i64.wrap (v21 - 1))))
noncomputable def laws_FnRecovered_l2 (r4 : (List T_impl_RecoverEvent)) (r6 : (List Int)) : (Int × Int × Int) → Option ((Int × Int × Int) ⊕ ((Int × Int) ⊕ Bool)) := fun s => match s with
  | (v19, v20, v21) => cond (decide (v21 ≥ 0) && decide (v20 < 0)) ((idx r6 v21).bind fun e30 => cond (e30 != 0) (laws_FnRecovered_j1 v21 v19 v20) ((idx r4 v21).bind fun e32 => cond (e32.Kind_ == 2) (laws_FnRecovered_j1 v21 (IntKind.i64.wrap (v19 + 1)) v20) (cond (e32.Kind_ == 1) ((idx r4 v21).bind fun e34 => laws_FnRecovered_j1 v21 v19 e34.Time_) (some (.inr (.inr false)))))) (some (.inr (.inl (v19, v20))))
noncomputable def laws_FnRecovered_l1 (r1 : Int) (r2 : Int) (r4 : (List T_impl_RecoverEvent)) (r6 : (List Int)) : Int → Option (Int ⊕ (Unit ⊕ Bool)) := fun s => match s with
  | v12 => cond (decide (v12 < (r6.length : Int))) ((idx r6 v12).bind fun e15 => (gdO (!(e15 != 0)) (idx r4 v12)).bind fun e17 => cond ((e15 != 0) || (e17.Kind_ != 4)) (some (.inl (IntKind.i64.wrap (v12 + 1)))) ((loopO (laws_FnRecovered_l2 r4 r6) (0, (-1), (IntKind.i64.wrap (v12 - 1)))).bind fun q36 => (match q36 with | .inl (v22, v23) => (gdO (!(decide (v23 < 0) || decide (v22 < r1))) (idx r4 v12)).bind fun e25 => cond ((decide (v23 < 0) || decide (v22 < r1)) || decide (e25.Time_ < (IntKind.i64.wrap (v23 + r2)))) (some (.inr (.inr false))) (some (.inl (IntKind.i64.wrap (v12 + 1)))) | .inr q24 => some (.inr (.inr q24))))) (some (.inr (.inl ())))
noncomputable def laws_FnRecovered (a0 : (List Int)) : Option Bool :=
  cond (decide ((a0.length : Int) > 1048576)) (some true) ((spec_DrawRunRecovery a0).bind fun q => (match q with | (r1, r2, r3, r4) => (impl_RunRecovery r1 r2 r3 r4).bind fun r6 => (spec_RunRecovery r1 r2 r3 r4).bind fun r8 => (laws_zInts r6 r8).bind fun r10 => cond (!r10) (some false) ((loopO (laws_FnRecovered_l1 r1 r2 r4 r6) 0).bind fun q38 => (match q38 with | .inl _ => some true | .inr q13 => some q13))))
end Go.G36.GWalk
