import Derived.Test.YtnndbiialpaccaaDoorProg
import Derived.Test.YtnndbiialpaccaaDoorRvLib
set_option linter.all false
set_option maxRecDepth 20000
set_option maxHeartbeats 4000000
namespace Go.G36.RV1
open Go Go.Proofs Go.G36.RV

def c_int (k : IntKind) (x : Int) : List V := [.int k x]
def c_bool (x : Bool) : List V := [.bool x]
def c_str (x : ByteArray) : List V := [.str x]
def c_raw (x : List V) : List V := x
theorem map_raw (x : List (List V)) : x.map c_raw = x := by
  induction x with
  | nil => rfl
  | cons a l ih => simp [ih, c_raw]
def c_sl {α : Type} (f : α → List V) (x : List α) : List V := [.im false (x.map f)]

structure T_spec_l1Cur where
  code_ : (List Int)
  at_ : Int
  seed_ : Int
deriving Inhabited
def c_T_spec_l1Cur (b : Bool) (x : T_spec_l1Cur) : List V := [.im b (x.code_.map (c_int .u8)), .int .i64 x.at_, .int .u64 x.seed_]
structure T_strings_Builder where
  addr_ : Unit
  buf_ : (List Int)
deriving Inhabited
def c_T_strings_Builder (b : Bool) (x : T_strings_Builder) : List V := [.nilP, .im b (x.buf_.map (c_int .u8))]

theorem tyS_3 : TyS Go.Proofs.Tryd.prog 3 false 1 := ⟨rfl, rfl⟩
theorem tyS_22 : TyS Go.Proofs.Tryd.prog 22 false 1 := ⟨rfl, rfl⟩
theorem tyS_5 : TyS Go.Proofs.Tryd.prog 5 false 1 := ⟨rfl, rfl⟩
theorem tyS_32 : TyS Go.Proofs.Tryd.prog 32 false 1 := ⟨rfl, rfl⟩
noncomputable def spec_l1Cur_next_j1 (s0 : T_spec_l1Cur) (v1 : Int) : Option (Int × T_spec_l1Cur) :=
  cond (decide ((IntKind.i64.wrap (s0.at_ + 1)) ≤ (s0.code_.length : Int))) (some (v1, (⟨s0.code_, (IntKind.i64.wrap (s0.at_ + 1)), (IntKind.u64.wrap ((IntKind.u64.wrap ((IntKind.u64.wrap (s0.seed_ * 6364136223846793005)) + (IntKind.u64.wrap v1))) + 1442695040888963407))⟩ : T_spec_l1Cur))) (some ((IntKind.i64.wrap (IntKind.u64.wrap (BitVec.ofInt IntKind.u64.bits (Int.fdiv (IntKind.u64.wrap ((IntKind.u64.wrap ((IntKind.u64.wrap (s0.seed_ * 6364136223846793005)) + (IntKind.u64.wrap v1))) + 1442695040888963407)) (2 ^ (min (Int.toNat 40) IntKind.u64.bits))) &&& BitVec.ofInt IntKind.u64.bits 255).toNat)), (⟨s0.code_, (IntKind.i64.wrap (s0.at_ + 1)), (IntKind.u64.wrap ((IntKind.u64.wrap ((IntKind.u64.wrap (s0.seed_ * 6364136223846793005)) + (IntKind.u64.wrap v1))) + 1442695040888963407))⟩ : T_spec_l1Cur)))
noncomputable def spec_l1Cur_next (s0 : T_spec_l1Cur) : Option (Int × T_spec_l1Cur) :=
  cond (decide (s0.at_ < (s0.code_.length : Int))) ((idx s0.code_ s0.at_).bind fun e2 => spec_l1Cur_next_j1 s0 (IntKind.i64.wrap e2)) (spec_l1Cur_next_j1 s0 0)
theorem spec_l1Cur_next_p (c0 : Bool) {s0 : T_spec_l1Cur} {R0 : Int} {U0 : T_spec_l1Cur} (H : spec_l1Cur_next s0 = some (R0, U0)) : St Go.Proofs.Tryd.prog 27 [.bx 0 0] [.box (c_T_spec_l1Cur c0 s0)] (.int .i64 R0) [.box (c_T_spec_l1Cur c0 U0)] := by
  refine CallT.fin (CallT.of_TN (n := 62) Go.Proofs.Tryd.func27 rfl rfl rfl rfl ?_) rfl rfl ⟨(bels_iff.1 rfl), trivial⟩
  refine T.seq ?_
  refine T.region ?_
  refine TL.st rfl rfl rfl (o_assign rfl rfl) ?_
  refine TL.nil ?_
  refine thn_normal ?_
  refine T.seq ?_
  refine T.region ?_
  refine TL.st rfl rfl rfl (o_assign rfl rfl) ?_
  refine TL.nil ?_
  refine thn_normal ?_
  refine T.cut (fun fr' σ' => ∃ (v1 : Int), fr' = [(0, .bx 0 0), (3, .int .i64 v1)] ∧ σ' = [.box (c_T_spec_l1Cur c0 s0)] ∧ spec_l1Cur_next_j1 s0 v1 = some (R0, U0)) (T.pk ?_) ?_
  · skip
    refine T.seq ?_
    refine T.drawn rfl ?_
    refine TD.qs rfl rfl (fun _ => o_move rfl rfl) ?_
    refine TD.qs rfl rfl (fun _ => o_nilCheck rfl rfl rfl) ?_
    refine TD.rs rfl rfl (o_fieldAddr rfl rfl rfl tyS_3 (by decide) rfl rfl ⟨_, rfl, Nat.le_of_ble_eq_true rfl⟩) ?_
    refine TD.rs rfl rfl (o_loadBx rfl tyS_3 rfl rfl (Nat.le_of_ble_eq_true rfl) rfl) ?_
    refine TD.qs rfl rfl (fun _ => o_move rfl rfl) ?_
    refine TD.qs rfl rfl (fun _ => o_nilCheck rfl rfl rfl) ?_
    refine TD.rs rfl rfl (o_fieldAddr rfl rfl rfl tyS_22 (by decide) rfl rfl ⟨_, rfl, Nat.le_of_ble_eq_true rfl⟩) ?_
    refine TD.rs rfl rfl (o_loadBx rfl tyS_22 rfl rfl (Nat.le_of_ble_eq_true rfl) rfl) ?_
    refine TD.qs rfl rfl (fun _ => o_lenL (f := c_int .u8) rfl rfl rfl) ?_
    refine TD.qs rfl rfl (fun _ => o_ari rfl rfl rfl rfl) ?_
    refine TD.nil ⟨rfl, ?_⟩
    refine thn_normal ?_
    refine T.cond (decide (s0.at_ < (s0.code_.length : Int))) rfl (fun h => ?_) (fun h => ?_)
    · replace H := cond_t h H
      refine T.drawn rfl ?_
      refine TD.qs rfl rfl (fun _ => o_move rfl rfl) ?_
      refine TD.qs rfl rfl (fun _ => o_nilCheck rfl rfl rfl) ?_
      refine TD.rs rfl rfl (o_fieldAddr rfl rfl rfl tyS_22 (by decide) rfl rfl ⟨_, rfl, Nat.le_of_ble_eq_true rfl⟩) ?_
      refine TD.rs rfl rfl (o_loadBx rfl tyS_22 rfl rfl (Nat.le_of_ble_eq_true rfl) rfl) ?_
      refine TD.qs rfl rfl (fun _ => o_move rfl rfl) ?_
      refine TD.qs rfl rfl (fun _ => o_nilCheck rfl rfl rfl) ?_
      refine TD.rs rfl rfl (o_fieldAddr rfl rfl rfl tyS_3 (by decide) rfl rfl ⟨_, rfl, Nat.le_of_ble_eq_true rfl⟩) ?_
      refine TD.rs rfl rfl (o_loadBx rfl tyS_3 rfl rfl (Nat.le_of_ble_eq_true rfl) rfl) ?_
      obtain ⟨e2, h3, H⟩ := bind_s H
      refine TD.qs rfl rfl (fun _ => o_ix (f := c_int .u8) rfl rfl tyS_5 rfl rfl h3 rfl) ?_
      refine TD.qs rfl rfl (fun _ => o_loadRf rfl tyS_5 rfl (Nat.le_of_ble_eq_true rfl) rfl) ?_
      refine TD.qs rfl rfl (fun _ => o_conv rfl rfl ⟨_, rfl⟩ rfl) ?_
      refine TD.qs rfl rfl (fun _ => o_assign rfl rfl) ?_
      refine TD.nil ⟨rfl, ?_⟩
      exact Pk.go (fr' := [(0, .bx 0 0), (3, .int .i64 (IntKind.i64.wrap e2))]) (σ' := [.box (c_T_spec_l1Cur c0 s0)]) _ rfl rfl ⟨(bels_iff.1 rfl), trivial⟩ (.cons 0 _ (.bx 0 0) _ rfl (.same _) rfl (.cons 3 _ (.int .i64 (IntKind.i64.wrap e2)) _ rfl (.same _) rfl .nil)) (thn_normal ⟨(IntKind.i64.wrap e2), rfl, rfl, H⟩)
    · replace H := cond_f h H
      refine T.skip ?_
      exact Pk.go (fr' := [(0, .bx 0 0), (3, .int .i64 0)]) (σ' := [.box (c_T_spec_l1Cur c0 s0)]) _ rfl rfl ⟨(bels_iff.1 rfl), trivial⟩ (.cons 0 _ (.bx 0 0) _ rfl (.same _) rfl (.cons 3 _ (.int .i64 0) _ rfl (.same _) rfl .nil)) (thn_normal ⟨0, rfl, rfl, H⟩)
  · rintro _ _ ⟨v1, rfl, rfl, H⟩
    refine T.seq ?_
    refine T.region ?_
    refine TL.st rfl rfl rfl (o_move rfl rfl) ?_
    refine TL.st rfl rfl rfl (o_nilCheck rfl rfl rfl) ?_
    refine TL.st rfl rfl rfl (o_fieldAddr rfl rfl rfl tyS_3 (by decide) rfl rfl ⟨_, rfl, Nat.le_of_ble_eq_true rfl⟩) ?_
    refine TL.st rfl rfl rfl (o_loadBx rfl tyS_3 rfl rfl (Nat.le_of_ble_eq_true rfl) rfl) ?_
    refine TL.st rfl rfl rfl (o_ari rfl rfl rfl rfl) ?_
    refine TL.st rfl rfl rfl (o_nilCheck rfl rfl rfl) ?_
    refine TL.st rfl rfl rfl (o_fieldAddr rfl rfl rfl tyS_3 (by decide) rfl rfl ⟨_, rfl, Nat.le_of_ble_eq_true rfl⟩) ?_
    refine TL.sn rfl rfl (o_storeBx rfl tyS_3 rfl rfl rfl rfl (Nat.le_of_ble_eq_true rfl) rfl) ?_
    refine TL.nil ?_
    refine thn_normal ?_
    refine T.seq ?_
    refine T.region ?_
    refine TL.st rfl rfl rfl (o_move rfl rfl) ?_
    refine TL.st rfl rfl rfl (o_move rfl rfl) ?_
    refine TL.st rfl rfl rfl (o_nilCheck rfl rfl rfl) ?_
    refine TL.st rfl rfl rfl (o_fieldAddr rfl rfl rfl tyS_32 (by decide) rfl rfl ⟨_, rfl, Nat.le_of_ble_eq_true rfl⟩) ?_
    refine TL.st rfl rfl rfl (o_loadBx rfl tyS_32 rfl rfl (Nat.le_of_ble_eq_true rfl) rfl) ?_
    refine TL.st rfl rfl rfl (o_ari rfl rfl rfl rfl) ?_
    refine TL.st rfl rfl rfl (o_move rfl rfl) ?_
    refine TL.st rfl rfl rfl (o_conv rfl rfl ⟨_, rfl⟩ rfl) ?_
    refine TL.st rfl rfl rfl (o_ari rfl rfl rfl rfl) ?_
    refine TL.st rfl rfl rfl (o_ari rfl rfl rfl rfl) ?_
    refine TL.st rfl rfl rfl (o_nilCheck rfl rfl rfl) ?_
    refine TL.st rfl rfl rfl (o_fieldAddr rfl rfl rfl tyS_32 (by decide) rfl rfl ⟨_, rfl, Nat.le_of_ble_eq_true rfl⟩) ?_
    refine TL.sn rfl rfl (o_storeBx rfl tyS_32 rfl rfl rfl rfl (Nat.le_of_ble_eq_true rfl) rfl) ?_
    refine TL.nil ?_
    refine thn_normal ?_
    refine T.seq ?_
    refine T.seq ?_
    refine T.drawn rfl ?_
    refine TD.qs rfl rfl (fun _ => o_move rfl rfl) ?_
    refine TD.qs rfl rfl (fun _ => o_nilCheck rfl rfl rfl) ?_
    refine TD.rs rfl rfl (o_fieldAddr rfl rfl rfl tyS_3 (by decide) rfl rfl ⟨_, rfl, Nat.le_of_ble_eq_true rfl⟩) ?_
    refine TD.rs rfl rfl (o_loadBx rfl tyS_3 rfl rfl (Nat.le_of_ble_eq_true rfl) rfl) ?_
    refine TD.qs rfl rfl (fun _ => o_move rfl rfl) ?_
    refine TD.qs rfl rfl (fun _ => o_nilCheck rfl rfl rfl) ?_
    refine TD.rs rfl rfl (o_fieldAddr rfl rfl rfl tyS_22 (by decide) rfl rfl ⟨_, rfl, Nat.le_of_ble_eq_true rfl⟩) ?_
    refine TD.rs rfl rfl (o_loadBx rfl tyS_22 rfl rfl (Nat.le_of_ble_eq_true rfl) rfl) ?_
    refine TD.qs rfl rfl (fun _ => o_lenL (f := c_int .u8) rfl rfl rfl) ?_
    refine TD.qs rfl rfl (fun _ => o_ari rfl rfl rfl rfl) ?_
    refine TD.nil ⟨rfl, ?_⟩
    refine thn_normal ?_
    refine T.cond (decide ((IntKind.i64.wrap (s0.at_ + 1)) ≤ (s0.code_.length : Int))) rfl (fun h => ?_) (fun h => ?_)
    · replace H := cond_t h H
      refine T.seq ?_
      refine T.region ?_
      refine TL.st rfl rfl rfl (o_move rfl rfl) ?_
      refine TL.st rfl rfl rfl (o_assign rfl rfl) ?_
      refine TL.nil ?_
      refine thn_normal ?_
      refine T.ret ?_
      refine thn_ret ?_
      cases some_i H
      exact ⟨trivial, _, (.tmp _ _ _ _ rfl .nil), ⟨rfl, _, rfl⟩⟩
    · replace H := cond_f h H
      refine T.skip ?_
      refine thn_normal ?_
      refine T.seq ?_
      refine T.region ?_
      refine TL.st rfl rfl rfl (o_move rfl rfl) ?_
      refine TL.st rfl rfl rfl (o_nilCheck rfl rfl rfl) ?_
      refine TL.st rfl rfl rfl (o_fieldAddr rfl rfl rfl tyS_32 (by decide) rfl rfl ⟨_, rfl, Nat.le_of_ble_eq_true rfl⟩) ?_
      refine TL.st rfl rfl rfl (o_loadBx rfl tyS_32 rfl rfl (Nat.le_of_ble_eq_true rfl) rfl) ?_
      refine TL.st rfl rfl rfl (o_shr rfl rfl rfl (by decide)) ?_
      refine TL.st rfl rfl rfl (o_bits rfl rfl rfl rfl) ?_
      refine TL.st rfl rfl rfl (o_conv rfl rfl ⟨_, rfl⟩ rfl) ?_
      refine TL.st rfl rfl rfl (o_assign rfl rfl) ?_
      refine TL.nil ?_
      refine thn_normal ?_
      refine T.ret ?_
      cases some_i H
      exact ⟨trivial, _, (.tmp _ _ _ _ rfl .nil), ⟨rfl, _, rfl⟩⟩
theorem en_27 (us : Array Value) (w : World) : (callFunc 27 us).run Go.Proofs.Tryd.prog w = .ok (.enter 27 us) w := enters Go.Proofs.Tryd.func27 rfl rfl us w
noncomputable def spec_l1Cur_pick_j1 (a0 : Int) (b4 : T_spec_l1Cur) (v5 : Int) : Option (Int × T_spec_l1Cur) :=
  (nz a0).bind fun z6 => some ((Int.tmod v5 a0), b4)
noncomputable def spec_l1Cur_pick (a0 : Int) (s0 : T_spec_l1Cur) : Option (Int × T_spec_l1Cur) :=
  cond (decide (a0 ≤ 1)) (some (0, s0)) ((spec_l1Cur_next s0).bind fun q => (match q with | (r1, o2) => cond (decide (a0 > 200)) ((spec_l1Cur_next o2).bind fun q => (match q with | (r8, o9) => spec_l1Cur_pick_j1 a0 o9 (IntKind.i64.wrap ((IntKind.i64.wrap (r1 * 256)) + r8)))) (spec_l1Cur_pick_j1 a0 o2 r1)))
theorem spec_l1Cur_pick_p (c0 : Bool) {a0 : Int} {s0 : T_spec_l1Cur} {R0 : Int} {U0 : T_spec_l1Cur} (H : spec_l1Cur_pick a0 s0 = some (R0, U0)) : St Go.Proofs.Tryd.prog 11 [.bx 0 0, .int .i64 a0] [.box (c_T_spec_l1Cur c0 s0)] (.int .i64 R0) [.box (c_T_spec_l1Cur c0 U0)] := by
  refine CallT.fin (CallT.of_TN (n := 20) Go.Proofs.Tryd.func11 rfl rfl rfl rfl ?_) rfl rfl ⟨(bels_iff.1 rfl), trivial⟩
  refine T.seq ?_
  refine T.region ?_
  refine TL.st rfl rfl rfl (o_assign rfl rfl) ?_
  refine TL.nil ?_
  refine thn_normal ?_
  refine T.seq ?_
  refine T.seq ?_
  refine T.region ?_
  refine TL.st rfl rfl rfl (o_move rfl rfl) ?_
  refine TL.st rfl rfl rfl (o_ari rfl rfl rfl rfl) ?_
  refine TL.nil ?_
  refine thn_normal ?_
  refine T.cond (decide (a0 ≤ 1)) rfl (fun h => ?_) (fun h => ?_)
  · replace H := cond_t h H
    refine T.seq ?_
    refine T.region ?_
    refine TL.st rfl rfl rfl (o_assign rfl rfl) ?_
    refine TL.nil ?_
    refine thn_normal ?_
    refine T.ret ?_
    refine thn_ret ?_
    cases some_i H
    exact ⟨trivial, _, (.tmp _ _ _ _ rfl .nil), ⟨rfl, _, rfl⟩⟩
  · replace H := cond_f h H
    refine T.skip ?_
    refine thn_normal ?_
    refine T.seq ?_
    refine T.region ?_
    refine TL.st rfl rfl rfl (o_move rfl rfl) ?_
    obtain ⟨⟨r1, o2⟩, h3, H⟩ := bind_s H
    refine TL.st rfl rfl rfl (o_callS [0] rfl en_27 rfl rfl (spec_l1Cur_next_p c0 h3) rfl (by decide) (.cons _ _ _ _ rfl .nil) rfl rfl rfl) ?_
    refine TL.st rfl rfl rfl (o_assign rfl rfl) ?_
    refine TL.nil ?_
    refine thn_normal ?_
    refine T.cut (fun fr' σ' => ∃ (b4 : T_spec_l1Cur) (v5 : Int), fr' = [(1, .int .i64 a0), (5, .int .i64 v5)] ∧ σ' = [.box (c_T_spec_l1Cur c0 b4)] ∧ spec_l1Cur_pick_j1 a0 b4 v5 = some (R0, U0)) (T.pk ?_) ?_
    · skip
      refine T.seq ?_
      refine T.region ?_
      refine TL.st rfl rfl rfl (o_move rfl rfl) ?_
      refine TL.st rfl rfl rfl (o_ari rfl rfl rfl rfl) ?_
      refine TL.nil ?_
      refine thn_normal ?_
      refine T.cond (decide (a0 > 200)) rfl (fun h => ?_) (fun h => ?_)
      · replace H := cond_t h H
        refine T.region ?_
        refine TL.st rfl rfl rfl (o_move rfl rfl) ?_
        refine TL.st rfl rfl rfl (o_ari rfl rfl rfl rfl) ?_
        refine TL.st rfl rfl rfl (o_move rfl rfl) ?_
        obtain ⟨⟨r8, o9⟩, h10, H⟩ := bind_s H
        refine TL.st rfl rfl rfl (o_callS [0] rfl en_27 rfl rfl (spec_l1Cur_next_p c0 h10) rfl (by decide) (.cons _ _ _ _ rfl .nil) rfl rfl rfl) ?_
        refine TL.st rfl rfl rfl (o_ari rfl rfl rfl rfl) ?_
        refine TL.st rfl rfl rfl (o_assign rfl rfl) ?_
        refine TL.nil ?_
        exact Pk.go (fr' := [(1, .int .i64 a0), (5, .int .i64 (IntKind.i64.wrap ((IntKind.i64.wrap (r1 * 256)) + r8)))]) (σ' := [.box (c_T_spec_l1Cur c0 o9)]) _ rfl rfl ⟨(bels_iff.1 rfl), trivial⟩ (.cons 1 _ (.int .i64 a0) _ rfl (.same _) rfl (.cons 5 _ (.int .i64 (IntKind.i64.wrap ((IntKind.i64.wrap (r1 * 256)) + r8))) _ rfl (.same _) rfl .nil)) (thn_normal ⟨o9, (IntKind.i64.wrap ((IntKind.i64.wrap (r1 * 256)) + r8)), rfl, rfl, H⟩)
      · replace H := cond_f h H
        refine T.skip ?_
        exact Pk.go (fr' := [(1, .int .i64 a0), (5, .int .i64 r1)]) (σ' := [.box (c_T_spec_l1Cur c0 o2)]) _ rfl rfl ⟨(bels_iff.1 rfl), trivial⟩ (.cons 1 _ (.int .i64 a0) _ rfl (.same _) rfl (.cons 5 _ (.int .i64 r1) _ rfl (.same _) rfl .nil)) (thn_normal ⟨o2, r1, rfl, rfl, H⟩)
    · rintro _ _ ⟨b4, v5, rfl, rfl, H⟩
      refine T.seq ?_
      refine T.region ?_
      refine TL.st rfl rfl rfl (o_move rfl rfl) ?_
      refine TL.st rfl rfl rfl (o_move rfl rfl) ?_
      obtain ⟨z6, h7, H⟩ := bind_s H
      refine TL.st rfl rfl rfl (o_rem rfl rfl rfl (nz_s h7).1) ?_
      refine TL.st rfl rfl rfl (o_assign rfl rfl) ?_
      refine TL.nil ?_
      refine thn_normal ?_
      refine T.ret ?_
      cases some_i H
      exact ⟨trivial, _, (.tmp _ _ _ _ rfl .nil), ⟨rfl, _, rfl⟩⟩
theorem en_11 (us : Array Value) (w : World) : (callFunc 11 us).run Go.Proofs.Tryd.prog w = .ok (.enter 11 us) w := enters Go.Proofs.Tryd.func11 rfl rfl us w
noncomputable def spec_l1Cur_one (a0 : Int) (s0 : T_spec_l1Cur) : Option (Bool × T_spec_l1Cur) :=
  (spec_l1Cur_pick a0 s0).bind fun q => (match q with | (r1, o2) => some ((r1 == 0), o2))
theorem spec_l1Cur_one_p (c0 : Bool) {a0 : Int} {s0 : T_spec_l1Cur} {R0 : Bool} {U0 : T_spec_l1Cur} (H : spec_l1Cur_one a0 s0 = some (R0, U0)) : St Go.Proofs.Tryd.prog 23 [.bx 0 0, .int .i64 a0] [.box (c_T_spec_l1Cur c0 s0)] (.bool R0) [.box (c_T_spec_l1Cur c0 U0)] := by
  refine CallT.fin (CallT.of_TN (n := 9) Go.Proofs.Tryd.func23 rfl rfl rfl rfl ?_) rfl rfl ⟨(bels_iff.1 rfl), trivial⟩
  refine T.seq ?_
  refine T.region ?_
  refine TL.st rfl rfl rfl (o_assign rfl rfl) ?_
  refine TL.nil ?_
  refine thn_normal ?_
  refine T.seq ?_
  refine T.region ?_
  refine TL.st rfl rfl rfl (o_move rfl rfl) ?_
  refine TL.st rfl rfl rfl (o_move rfl rfl) ?_
  obtain ⟨⟨r1, o2⟩, h3, H⟩ := bind_s H
  refine TL.st rfl rfl rfl (o_callS [0] rfl en_11 rfl rfl (spec_l1Cur_pick_p c0 h3) rfl (by decide) (.cons _ _ _ _ rfl .nil) rfl rfl rfl) ?_
  refine TL.st rfl rfl rfl (o_ari rfl rfl rfl rfl) ?_
  refine TL.st rfl rfl rfl (o_assign rfl rfl) ?_
  refine TL.nil ?_
  refine thn_normal ?_
  refine T.ret ?_
  cases some_i H
  exact ⟨trivial, _, (.tmp _ _ _ _ rfl .nil), ⟨rfl, _, rfl⟩⟩
theorem en_23 (us : Array Value) (w : World) : (callFunc 23 us).run Go.Proofs.Tryd.prog w = .ok (.enter 23 us) w := enters Go.Proofs.Tryd.func23 rfl rfl us w
noncomputable def spec_l1Cur_secret (s0 : T_spec_l1Cur) : Option (Int × T_spec_l1Cur) :=
  (spec_l1Cur_one 16 s0).bind fun q => (match q with | (r1, o2) => cond r1 ((spec_l1Cur_pick 6 o2).bind fun q => (match q with | (r4, o5) => (idx ([0, (-1), 1, 1073741788, 1073741789, 1073741794] : List Int) r4).bind fun e7 => some (e7, o5))) ((spec_l1Cur_pick 60000 o2).bind fun q => (match q with | (r9, o10) => (spec_l1Cur_pick 60000 o10).bind fun q => (match q with | (r12, o13) => some ((IntKind.i64.wrap (1 + (Int.tmod (IntKind.i64.wrap ((IntKind.i64.wrap (r9 * 60000)) + r12)) 1073741788))), o13)))))
theorem spec_l1Cur_secret_p (c0 : Bool) {s0 : T_spec_l1Cur} {R0 : Int} {U0 : T_spec_l1Cur} (H : spec_l1Cur_secret s0 = some (R0, U0)) : St Go.Proofs.Tryd.prog 10 [.bx 0 0] [.box (c_T_spec_l1Cur c0 s0)] (.int .i64 R0) [.box (c_T_spec_l1Cur c0 U0)] := by
  refine CallT.fin (CallT.of_TN (n := 18) Go.Proofs.Tryd.func10 rfl rfl rfl rfl ?_) rfl rfl ⟨(bels_iff.1 rfl), trivial⟩
  refine T.seq ?_
  refine T.region ?_
  refine TL.st rfl rfl rfl (o_assign rfl rfl) ?_
  refine TL.nil ?_
  refine thn_normal ?_
  refine T.seq ?_
  refine T.seq ?_
  refine T.region ?_
  refine TL.st rfl rfl rfl (o_move rfl rfl) ?_
  obtain ⟨⟨r1, o2⟩, h3, H⟩ := bind_s H
  refine TL.st rfl rfl rfl (o_callS [0] rfl en_23 rfl rfl (spec_l1Cur_one_p c0 h3) rfl (by decide) (.cons _ _ _ _ rfl .nil) rfl rfl rfl) ?_
  refine TL.nil ?_
  refine thn_normal ?_
  refine T.cond (r1) rfl (fun h => ?_) (fun h => ?_)
  · replace H := cond_t h H
    refine T.seq ?_
    refine T.region ?_
    refine TL.st rfl rfl rfl (o_sliceIm rfl rfl tyS_3 ⟨_, rfl, rfl⟩ (by decide) rfl rfl rfl rfl rfl rfl) ?_
    refine TL.st rfl rfl rfl (o_move rfl rfl) ?_
    obtain ⟨⟨r4, o5⟩, h6, H⟩ := bind_s H
    refine TL.st rfl rfl rfl (o_callS [0] rfl en_11 rfl rfl (spec_l1Cur_pick_p c0 h6) rfl (by decide) (.cons _ _ _ _ rfl .nil) rfl rfl rfl) ?_
    obtain ⟨e7, h8, H⟩ := bind_s H
    refine TL.st rfl rfl rfl (o_ix (f := c_int .i64) rfl rfl tyS_3 rfl rfl h8 rfl) ?_
    refine TL.st rfl rfl rfl (o_loadRf rfl tyS_3 rfl (Nat.le_of_ble_eq_true rfl) rfl) ?_
    refine TL.st rfl rfl rfl (o_assign rfl rfl) ?_
    refine TL.nil ?_
    refine thn_normal ?_
    refine T.ret ?_
    refine thn_ret ?_
    cases some_i H
    exact ⟨trivial, _, (.tmp _ _ _ _ rfl .nil), ⟨rfl, _, rfl⟩⟩
  · replace H := cond_f h H
    refine T.skip ?_
    refine thn_normal ?_
    refine T.seq ?_
    refine T.region ?_
    refine TL.st rfl rfl rfl (o_move rfl rfl) ?_
    obtain ⟨⟨r9, o10⟩, h11, H⟩ := bind_s H
    refine TL.st rfl rfl rfl (o_callS [0] rfl en_11 rfl rfl (spec_l1Cur_pick_p c0 h11) rfl (by decide) (.cons _ _ _ _ rfl .nil) rfl rfl rfl) ?_
    refine TL.st rfl rfl rfl (o_ari rfl rfl rfl rfl) ?_
    refine TL.st rfl rfl rfl (o_move rfl rfl) ?_
    obtain ⟨⟨r12, o13⟩, h14, H⟩ := bind_s H
    refine TL.st rfl rfl rfl (o_callS [0] rfl en_11 rfl rfl (spec_l1Cur_pick_p c0 h14) rfl (by decide) (.cons _ _ _ _ rfl .nil) rfl rfl rfl) ?_
    refine TL.st rfl rfl rfl (o_ari rfl rfl rfl rfl) ?_
    refine TL.st rfl rfl rfl (o_rem rfl rfl rfl (by decide)) ?_
    refine TL.st rfl rfl rfl (o_ari rfl rfl rfl rfl) ?_
    refine TL.st rfl rfl rfl (o_assign rfl rfl) ?_
    refine TL.nil ?_
    refine thn_normal ?_
    refine T.ret ?_
    cases some_i H
    exact ⟨trivial, _, (.tmp _ _ _ _ rfl .nil), ⟨rfl, _, rfl⟩⟩
theorem en_10 (us : Array Value) (w : World) : (callFunc 10 us).run Go.Proofs.Tryd.prog w = .ok (.enter 10 us) w := enters Go.Proofs.Tryd.func10 rfl rfl us w
noncomputable def spec_l1Cur_rare (a0 : Int) (s0 : T_spec_l1Cur) : Option (Int × T_spec_l1Cur) :=
  (spec_l1Cur_one 8 s0).bind fun q => (match q with | (r1, o2) => cond (!r1) (some (0, o2)) ((spec_l1Cur_pick (IntKind.i64.wrap (a0 - 1)) o2).bind fun q => (match q with | (r4, o5) => some ((IntKind.i64.wrap (1 + r4)), o5))))
theorem spec_l1Cur_rare_p (c0 : Bool) {a0 : Int} {s0 : T_spec_l1Cur} {R0 : Int} {U0 : T_spec_l1Cur} (H : spec_l1Cur_rare a0 s0 = some (R0, U0)) : St Go.Proofs.Tryd.prog 12 [.bx 0 0, .int .i64 a0] [.box (c_T_spec_l1Cur c0 s0)] (.int .i64 R0) [.box (c_T_spec_l1Cur c0 U0)] := by
  refine CallT.fin (CallT.of_TN (n := 13) Go.Proofs.Tryd.func12 rfl rfl rfl rfl ?_) rfl rfl ⟨(bels_iff.1 rfl), trivial⟩
  refine T.seq ?_
  refine T.region ?_
  refine TL.st rfl rfl rfl (o_assign rfl rfl) ?_
  refine TL.nil ?_
  refine thn_normal ?_
  refine T.seq ?_
  refine T.seq ?_
  refine T.region ?_
  refine TL.st rfl rfl rfl (o_move rfl rfl) ?_
  obtain ⟨⟨r1, o2⟩, h3, H⟩ := bind_s H
  refine TL.st rfl rfl rfl (o_callS [0] rfl en_23 rfl rfl (spec_l1Cur_one_p c0 h3) rfl (by decide) (.cons _ _ _ _ rfl .nil) rfl rfl rfl) ?_
  refine TL.st rfl rfl rfl (o_not rfl rfl) ?_
  refine TL.nil ?_
  refine thn_normal ?_
  refine T.cond ((!r1)) rfl (fun h => ?_) (fun h => ?_)
  · replace H := cond_t h H
    refine T.seq ?_
    refine T.region ?_
    refine TL.st rfl rfl rfl (o_assign rfl rfl) ?_
    refine TL.nil ?_
    refine thn_normal ?_
    refine T.ret ?_
    refine thn_ret ?_
    cases some_i H
    exact ⟨trivial, _, (.tmp _ _ _ _ rfl .nil), ⟨rfl, _, rfl⟩⟩
  · replace H := cond_f h H
    refine T.skip ?_
    refine thn_normal ?_
    refine T.seq ?_
    refine T.region ?_
    refine TL.st rfl rfl rfl (o_move rfl rfl) ?_
    refine TL.st rfl rfl rfl (o_move rfl rfl) ?_
    refine TL.st rfl rfl rfl (o_ari rfl rfl rfl rfl) ?_
    obtain ⟨⟨r4, o5⟩, h6, H⟩ := bind_s H
    refine TL.st rfl rfl rfl (o_callS [0] rfl en_11 rfl rfl (spec_l1Cur_pick_p c0 h6) rfl (by decide) (.cons _ _ _ _ rfl .nil) rfl rfl rfl) ?_
    refine TL.st rfl rfl rfl (o_ari rfl rfl rfl rfl) ?_
    refine TL.st rfl rfl rfl (o_assign rfl rfl) ?_
    refine TL.nil ?_
    refine thn_normal ?_
    refine T.ret ?_
    cases some_i H
    exact ⟨trivial, _, (.tmp _ _ _ _ rfl .nil), ⟨rfl, _, rfl⟩⟩
theorem en_12 (us : Array Value) (w : World) : (callFunc 12 us).run Go.Proofs.Tryd.prog w = .ok (.enter 12 us) w := enters Go.Proofs.Tryd.func12 rfl rfl us w
noncomputable def spec_DrawTokenOf (a0 : (List Int)) : Option (Int × Int) :=
  (spec_l1Cur_secret (⟨a0, 0, 0⟩ : T_spec_l1Cur)).bind fun q => (match q with | (r1, o2) => (spec_l1Cur_pick 60000 o2).bind fun q => (match q with | (r4, o5) => (spec_l1Cur_rare 5 o5).bind fun q => (match q with | (r7, o8) => (idx ([r4, 0, (-1), 1000000, 1000001] : List Int) r7).bind fun e10 => some (r1, e10))))
theorem spec_DrawTokenOf_p (b0 : Bool) {a0 : (List Int)} {R0 : Int} {R1 : Int} (H : spec_DrawTokenOf a0 = some (R0, R1)) : Pure Go.Proofs.Tryd.prog 4 [.im b0 (a0.map (c_int .u8))] (.tup [.int .i64 R0, .int .i64 R1]) := by
  refine CallT.of_TN (n := 19) Go.Proofs.Tryd.func4 rfl rfl rfl rfl ?_
  refine T.seq ?_
  refine T.region ?_
  refine TL.st rfl rfl rfl (o_assign rfl rfl) ?_
  refine TL.st rfl rfl rfl (o_assign rfl rfl) ?_
  refine TL.nil ?_
  refine thn_normal ?_
  refine T.seq ?_
  refine T.region ?_
  refine TL.st rfl rfl rfl (o_move rfl rfl) ?_
  refine TL.st rfl rfl rfl (o_build rfl ⟨_, fun _ => rfl, rfl⟩ rfl rfl rfl) ?_
  refine TL.st rfl rfl rfl (o_box rfl rfl rfl) ?_
  refine TL.st rfl rfl rfl (o_assign rfl rfl) ?_
  refine TL.nil ?_
  refine thn_normal ?_
  refine T.seq ?_
  refine T.region ?_
  refine TL.st rfl rfl rfl (o_move rfl rfl) ?_
  obtain ⟨⟨r1, o2⟩, h3, H⟩ := bind_s H
  refine TL.st rfl rfl rfl (o_callS [0] rfl en_10 rfl rfl (spec_l1Cur_secret_p b0 h3) rfl (by decide) (.cons _ _ _ _ rfl .nil) rfl rfl rfl) ?_
  refine TL.st rfl rfl rfl (o_assign rfl rfl) ?_
  refine TL.nil ?_
  refine thn_normal ?_
  refine T.seq ?_
  refine T.drawn rfl ?_
  refine TD.qs rfl rfl (fun _ => o_move rfl rfl) ?_
  refine TD.qs rfl rfl (fun _ => o_move rfl rfl) ?_
  obtain ⟨⟨r4, o5⟩, h6, H⟩ := bind_s H
  refine TD.as rfl rfl (o_callS [0] rfl en_11 rfl rfl (spec_l1Cur_pick_p b0 h6) rfl (by decide) (.cons _ _ _ _ rfl .nil) rfl rfl rfl) ?_
  refine TD.qs rfl rfl (fun _ => o_sliceIm rfl rfl tyS_3 ⟨_, rfl, rfl⟩ (by decide) rfl rfl rfl rfl rfl rfl) ?_
  refine TD.qs rfl rfl (fun _ => o_move rfl rfl) ?_
  obtain ⟨⟨r7, o8⟩, h9, H⟩ := bind_s H
  refine TD.as rfl rfl (o_callS [0] rfl en_12 rfl rfl (spec_l1Cur_rare_p b0 h9) rfl (by decide) (.cons _ _ _ _ rfl .nil) rfl rfl rfl) ?_
  obtain ⟨e10, h11, H⟩ := bind_s H
  refine TD.qs rfl rfl (fun _ => o_ix (f := c_int .i64) rfl rfl tyS_3 rfl rfl h11 rfl) ?_
  refine TD.qs rfl rfl (fun _ => o_loadRf rfl tyS_3 rfl (Nat.le_of_ble_eq_true rfl) rfl) ?_
  refine TD.qs rfl rfl (fun _ => o_assign rfl rfl) ?_
  refine TD.qs rfl rfl (fun _ => o_assign rfl rfl) ?_
  refine TD.nil ⟨rfl, ?_⟩
  refine thn_normal ?_
  refine T.ret ?_
  cases some_i H
  exact ⟨trivial, _, (.tmp _ _ _ _ rfl (.tmp _ _ _ _ rfl .nil)), (.tupL (.cons _ _ _ _ (.cl _ rfl) (.cons _ _ _ _ (.cl _ rfl) .nil)))⟩
theorem en_4 (us : Array Value) (w : World) : (callFunc 4 us).run Go.Proofs.Tryd.prog w = .ok (.enter 4 us) w := enters Go.Proofs.Tryd.func4 rfl rfl us w
noncomputable def impl_ysecret (a0 : Int) : Option Bool :=
  some (decide (a0 ≥ 1) && decide (a0 < 1073741789))
theorem impl_ysecret_p  {a0 : Int} {R0 : Bool} (H : impl_ysecret a0 = some R0) : Pure Go.Proofs.Tryd.prog 13 [.int .i64 a0] (.bool R0) := by
  refine CallT.of_TN (n := 9) Go.Proofs.Tryd.func13 rfl rfl rfl rfl ?_
  refine T.seq ?_
  refine T.region ?_
  refine TL.st rfl rfl rfl (o_assign rfl rfl) ?_
  refine TL.nil ?_
  refine thn_normal ?_
  refine T.seq ?_
  refine T.region ?_
  refine TL.st rfl rfl rfl (o_move rfl rfl) ?_
  refine TL.st rfl rfl rfl (o_ari rfl rfl rfl rfl) ?_
  refine TL.st rfl rfl rfl (o_move rfl rfl) ?_
  refine TL.gcq rfl rfl rfl (.bool _) rfl rfl (fun h => o_move rfl rfl) ?_
  refine TL.gcq rfl rfl rfl (.bool _) rfl rfl (fun h => o_ari rfl (gv h rfl) rfl rfl) ?_
  refine TL.st rfl rfl rfl (o_and rfl rfl rfl (fun k => Gd_t k) rfl) ?_
  refine TL.st rfl rfl rfl (o_assign rfl rfl) ?_
  refine TL.nil ?_
  refine thn_normal ?_
  refine T.ret ?_
  cases some_i H
  exact ⟨trivial, _, (.tmp _ _ _ _ rfl .nil), (.cl _ rfl)⟩
theorem en_13 (us : Array Value) (w : World) : (callFunc 13 us).run Go.Proofs.Tryd.prog w = .ok (.enter 13 us) w := enters Go.Proofs.Tryd.func13 rfl rfl us w
theorem en_14 (us : Array Value) (w : World) : (callFunc 14 us).run Go.Proofs.Tryd.prog w = .ok (.enter 14 us) w := enters Go.Proofs.Tryd.func14 rfl rfl us w
noncomputable def impl_ybytes (a0 : Int) : Option (List Int) :=
  some ([(IntKind.u8.wrap a0), (IntKind.u8.wrap (Int.fdiv a0 (2 ^ (min (Int.toNat 8) IntKind.i64.bits)))), (IntKind.u8.wrap (Int.fdiv a0 (2 ^ (min (Int.toNat 16) IntKind.i64.bits)))), (IntKind.u8.wrap (Int.fdiv a0 (2 ^ (min (Int.toNat 24) IntKind.i64.bits))))] : List Int)
theorem impl_ybytes_p  {a0 : Int} {R0 : (List Int)} (H : impl_ybytes a0 = some R0) : Pure Go.Proofs.Tryd.prog 17 [.int .i64 a0] (.im false (R0.map (c_int .u8))) := by
  refine CallT.of_TN (n := 15) Go.Proofs.Tryd.func17 rfl rfl rfl rfl ?_
  refine T.seq ?_
  refine T.region ?_
  refine TL.st rfl rfl rfl (o_assign rfl rfl) ?_
  refine TL.nil ?_
  refine thn_normal ?_
  refine T.seq ?_
  refine T.region ?_
  refine TL.st rfl rfl rfl (o_move rfl rfl) ?_
  refine TL.st rfl rfl rfl (o_conv rfl rfl ⟨_, rfl⟩ rfl) ?_
  refine TL.st rfl rfl rfl (o_move rfl rfl) ?_
  refine TL.st rfl rfl rfl (o_shr rfl rfl rfl (by decide)) ?_
  refine TL.st rfl rfl rfl (o_conv rfl rfl ⟨_, rfl⟩ rfl) ?_
  refine TL.st rfl rfl rfl (o_move rfl rfl) ?_
  refine TL.st rfl rfl rfl (o_shr rfl rfl rfl (by decide)) ?_
  refine TL.st rfl rfl rfl (o_conv rfl rfl ⟨_, rfl⟩ rfl) ?_
  refine TL.st rfl rfl rfl (o_move rfl rfl) ?_
  refine TL.st rfl rfl rfl (o_shr rfl rfl rfl (by decide)) ?_
  refine TL.st rfl rfl rfl (o_conv rfl rfl ⟨_, rfl⟩ rfl) ?_
  refine TL.st rfl rfl rfl (o_sliceIm rfl rfl tyS_5 ⟨_, rfl, rfl⟩ (by decide) rfl rfl rfl rfl rfl rfl) ?_
  refine TL.st rfl rfl rfl (o_assign rfl rfl) ?_
  refine TL.nil ?_
  refine thn_normal ?_
  refine T.ret ?_
  cases some_i H
  exact ⟨trivial, _, (.tmp _ _ _ _ rfl .nil), (.cl _ rfl)⟩
theorem en_17 (us : Array Value) (w : World) : (callFunc 17 us).run Go.Proofs.Tryd.prog w = .ok (.enter 17 us) w := enters Go.Proofs.Tryd.func17 rfl rfl us w
theorem tyS_63 : TyS Go.Proofs.Tryd.prog 63 true 4 := ⟨rfl, rfl⟩
noncomputable def impl_Digest_1_l1 (a0 : Int) (s1 : (List Int)) : ((List Int) × Int) → Option (((List Int) × Int) ⊕ (List Int)) := fun s => match s with
  | (b1, v2) => cond (decide (v2 < 4)) ((ixA 4 b1 v2).bind fun e5 => (ixA 4 s1 v2).bind fun e7 => (ixA 4 b1 (Int.tmod (IntKind.i64.wrap (v2 + 1)) 4)).bind fun e9 => (ixA 4 b1 v2).bind fun e11 => some (.inl ((b1.set (Int.toNat v2) (Int.tmod (IntKind.i64.wrap ((IntKind.i64.wrap ((IntKind.i64.wrap ((IntKind.i64.wrap (e5 * e7)) + (IntKind.i64.wrap a0))) + 1)) + e9)) 2147483579)), (IntKind.i64.wrap (v2 + 1))))) (some (.inr b1))
noncomputable def impl_Digest_1 (a0 : Int) (s0 : (List Int)) (s1 : (List Int)) : Option (List Int) :=
  (loopO (impl_Digest_1_l1 a0 s1) (s0, 0)).bind fun b3 => (match b3 with | b3 => some b3)
theorem impl_Digest_1_p  {a0 : Int} {s0 : (List Int)} {s1 : (List Int)} {U0 : (List Int)} (H : impl_Digest_1 a0 s0 s1 = some U0) : St Go.Proofs.Tryd.prog 42 [.int .u8 a0, .bx 0 0, .bx 1 0] [.box (s0.map (V.int .i64)), .box (s1.map (V.int .i64))] (.tup []) [.box (U0.map (V.int .i64)), .box (s1.map (V.int .i64))] := by
  refine CallT.fin (CallT.of_TN (n := 29) Go.Proofs.Tryd.func42 rfl rfl rfl rfl ?_) rfl rfl ⟨(belA fun _ => rfl), ⟨(belA fun _ => rfl), trivial⟩⟩
  refine T.seq ?_
  refine T.region ?_
  refine TL.st rfl rfl rfl (o_move rfl rfl) ?_
  refine TL.nil ?_
  refine thn_normal ?_
  refine T.block ?_
  obtain ⟨b3, h14, H⟩ := bind_s H
  refine T.to (.cons 0 _ (.int .u8 a0) _ rfl (.same _) rfl (.cons 1 _ (.bx 0 0) _ rfl (.same _) rfl (.cons 2 _ (.bx 1 0) _ rfl (.same _) rfl (.cons 5 _ (.int .i64 0) _ rfl (.same _) rfl .nil)))) ?_
  refine T.lp (fun s => match s with | (b1, v2) => [(0, .int .u8 a0), (1, .bx 0 0), (2, .bx 1 0), (5, .int .i64 v2)]) (fun s => match s with | (b1, v2) => [.box (b1.map (V.int .i64)), .box (s1.map (V.int .i64))]) (fun q ex fr σ => match q with | b3 => ex = .exit 0 ∧ fr = [] ∧ σ = [.box (b3.map (V.int .i64)), .box (s1.map (V.int .i64))]) h14 ?_ ?_ ?_ ?_ ?_
  · rintro ⟨b1, v2⟩ y4 H
    refine T.seq ?_
    refine T.region ?_
    refine TL.st rfl rfl rfl (o_ari rfl rfl rfl rfl) ?_
    refine TL.nil ?_
    refine thn_normal ?_
    refine T.seq ?_
    refine T.cond (decide (v2 < 4)) rfl (fun h => ?_) (fun h => ?_)
    · replace H := cond_t h H
      refine T.skip ?_
      refine thn_normal ?_
      refine T.seq ?_
      refine T.block ?_
      refine T.seq ?_
      refine T.region ?_
      refine TL.st rfl rfl rfl (o_move rfl rfl) ?_
      refine TL.st rfl rfl rfl (o_assign rfl rfl) ?_
      refine TL.nil ?_
      refine thn_normal ?_
      refine T.drawn rfl ?_
      refine TD.qs rfl rfl (fun _ => o_move rfl rfl) ?_
      refine TD.qs rfl rfl (fun _ => o_move rfl rfl) ?_
      obtain ⟨e5, h6, H⟩ := bind_s H
      refine TD.rs rfl rfl (o_ixA (f := V.int .i64) (xs := b1) rfl rfl tyS_3 rfl rfl rfl h6 (by decide)) ?_
      refine TD.rs rfl rfl (o_ldA (f := V.int .i64) (xs := b1) (a := e5) rfl tyS_3 rfl rfl h6) ?_
      refine TD.qs rfl rfl (fun _ => o_move rfl rfl) ?_
      obtain ⟨e7, h8, H⟩ := bind_s H
      refine TD.rs rfl rfl (o_ixA (f := V.int .i64) (xs := s1) rfl rfl tyS_3 rfl rfl rfl h8 (by decide)) ?_
      refine TD.rs rfl rfl (o_ldA (f := V.int .i64) (xs := s1) (a := e7) rfl tyS_3 rfl rfl h8) ?_
      refine TD.qs rfl rfl (fun _ => o_ari rfl rfl rfl rfl) ?_
      refine TD.qs rfl rfl (fun _ => o_move rfl rfl) ?_
      refine TD.qs rfl rfl (fun _ => o_conv rfl rfl ⟨_, rfl⟩ rfl) ?_
      refine TD.qs rfl rfl (fun _ => o_ari rfl rfl rfl rfl) ?_
      refine TD.qs rfl rfl (fun _ => o_ari rfl rfl rfl rfl) ?_
      refine TD.qs rfl rfl (fun _ => o_move rfl rfl) ?_
      refine TD.qs rfl rfl (fun _ => o_ari rfl rfl rfl rfl) ?_
      refine TD.qs rfl rfl (fun _ => o_rem rfl rfl rfl (by decide)) ?_
      obtain ⟨e9, h10, H⟩ := bind_s H
      refine TD.rs rfl rfl (o_ixA (f := V.int .i64) (xs := b1) rfl rfl tyS_3 rfl rfl rfl h10 (by decide)) ?_
      refine TD.rs rfl rfl (o_ldA (f := V.int .i64) (xs := b1) (a := e9) rfl tyS_3 rfl rfl h10) ?_
      refine TD.qs rfl rfl (fun _ => o_ari rfl rfl rfl rfl) ?_
      refine TD.qs rfl rfl (fun _ => o_rem rfl rfl rfl (by decide)) ?_
      obtain ⟨e11, h12, H⟩ := bind_s H
      refine TD.rs rfl rfl (o_ixA (f := V.int .i64) (xs := b1) rfl rfl tyS_3 rfl rfl rfl h12 (by decide)) ?_
      refine TD.an rfl rfl (o_stA (f := V.int .i64) (xs := b1) (a := e11) (b := (Int.tmod (IntKind.i64.wrap ((IntKind.i64.wrap ((IntKind.i64.wrap ((IntKind.i64.wrap (e5 * e7)) + (IntKind.i64.wrap a0))) + 1)) + e9)) 2147483579)) rfl tyS_3 rfl rfl rfl h12 rfl rfl) ?_
      refine TD.nil ⟨rfl, ?_⟩
      refine inB_normal ?_
      refine thn_normal ?_
      refine T.region ?_
      refine TL.st rfl rfl rfl (o_ari rfl rfl rfl rfl) ?_
      refine TL.st rfl rfl rfl (o_move rfl rfl) ?_
      refine TL.nil ?_
      exact Pk.go (fr' := [(0, .int .u8 a0), (1, .bx 0 0), (2, .bx 1 0), (5, .int .i64 (IntKind.i64.wrap (v2 + 1)))]) (σ' := [.box ((b1.set (Int.toNat v2) (Int.tmod (IntKind.i64.wrap ((IntKind.i64.wrap ((IntKind.i64.wrap ((IntKind.i64.wrap (e5 * e7)) + (IntKind.i64.wrap a0))) + 1)) + e9)) 2147483579)).map (V.int .i64)), .box (s1.map (V.int .i64))]) _ rfl rfl ⟨(belA fun _ => rfl), ⟨(belA fun _ => rfl), trivial⟩⟩ (.cons 0 _ (.int .u8 a0) _ rfl (.same _) rfl (.cons 1 _ (.bx 0 0) _ rfl (.same _) rfl (.cons 2 _ (.bx 1 0) _ rfl (.same _) rfl (.cons 5 _ (.int .i64 (IntKind.i64.wrap (v2 + 1))) _ rfl (.same _) rfl .nil)))) (thn_normal ⟨((b1.set (Int.toNat v2) (Int.tmod (IntKind.i64.wrap ((IntKind.i64.wrap ((IntKind.i64.wrap ((IntKind.i64.wrap (e5 * e7)) + (IntKind.i64.wrap a0))) + 1)) + e9)) 2147483579)), (IntKind.i64.wrap (v2 + 1))), (some_i H).symm, rfl, rfl⟩)
    · replace H := cond_f h H
      refine T.exit ?_
      refine thn_exit ?_
      exact Pk.go (fr' := []) (σ' := [.box (b1.map (V.int .i64)), .box (s1.map (V.int .i64))]) _ rfl rfl ⟨(belA fun _ => rfl), ⟨(belA fun _ => rfl), trivial⟩⟩ .nil (thn_exit ⟨b1, (some_i H).symm, rfl, rfl, rfl⟩)
  · rintro ⟨b1, v2⟩ ⟨b1', v2'⟩; rfl
  · rintro ⟨b1, v2⟩; exact ⟨(belA fun _ => rfl), ⟨(belA fun _ => rfl), trivial⟩⟩
  · rintro ⟨b1, v2⟩; exact (.cons _ _ _ rfl rfl (.cons _ _ _ rfl rfl (.cons _ _ _ rfl rfl (.cons _ _ _ rfl rfl .nil))))
  · rintro _ _ _ ⟨rfl, rfl, rfl⟩
    refine inB_here ?_
    cases some_i H
    exact ⟨trivial, _, .nil, ⟨rfl, _, rfl⟩⟩
theorem en_42 (us : Array Value) (w : World) : (callFunc 42 us).run Go.Proofs.Tryd.prog w = .ok (.enter 42 us) w := enters Go.Proofs.Tryd.func42 rfl rfl us w
theorem tyE_5 : TyE Go.Proofs.Tryd.prog 5 1 := ⟨_, _, rfl, rfl, rfl, rfl, by decide, by decide⟩
noncomputable def impl_Digest_l4 (b11 : (List Int)) : (List Int × Int) → Option ((List Int × Int) ⊕ List Int) := fun s => match s with
  | (l14, v15) => cond (decide (v15 < 4)) ((ixA 4 b11 v15).bind fun e18 => (impl_ybytes e18).bind fun r20 => (app l14 r20).bind fun l22 => some (.inl (l22, (IntKind.i64.wrap (v15 + 1))))) (some (.inr l14))
noncomputable def impl_Digest_l3  : ((List Int) × Int) → Option (((List Int) × Int) ⊕ (List Int)) := fun s => match s with
  | (b9, v10) => cond (decide (v10 < 8)) ((impl_Digest_1 0 b9 ([1103515245, 69069, 1664525, 22695477] : List Int)).bind fun o27 => some (.inl (o27, (IntKind.i64.wrap (v10 + 1))))) (some (.inr b9))
noncomputable def impl_Digest_l2 (r4 : (List Int)) : ((List Int) × Int) → Option (((List Int) × Int) ⊕ (List Int)) := fun s => match s with
  | (b6, v7) => cond (decide (v7 < (r4.length : Int))) ((idx r4 v7).bind fun e32 => (impl_Digest_1 e32 b6 ([1103515245, 69069, 1664525, 22695477] : List Int)).bind fun o34 => some (.inl (o34, (IntKind.i64.wrap (v7 + 1))))) (some (.inr b6))
noncomputable def impl_Digest_l1 (a0 : (List Int)) : ((List Int) × Int) → Option (((List Int) × Int) ⊕ (List Int)) := fun s => match s with
  | (b1, v2) => cond (decide (v2 < (a0.length : Int))) ((idx a0 v2).bind fun e39 => (impl_Digest_1 e39 b1 ([1103515245, 69069, 1664525, 22695477] : List Int)).bind fun o41 => some (.inl (o41, (IntKind.i64.wrap (v2 + 1))))) (some (.inr b1))
noncomputable def impl_Digest (a0 : (List Int)) : Option (List Int) :=
  cond (decide ((a0.length : Int) > 20000)) (some ([] : List Int)) ((loopO (impl_Digest_l1 a0) (([11, 22, 33, 44] : List Int), 0)).bind fun b3 => (match b3 with | b3 => (impl_ybytes (a0.length : Int)).bind fun r4 => (loopO (impl_Digest_l2 r4) (b3, 0)).bind fun b8 => (match b8 with | b8 => (loopO (impl_Digest_l3) (b8, 0)).bind fun b11 => (match b11 with | b11 => (lenN 4 b11).bind fun u12 => (loopO (impl_Digest_l4 b11) (([] : List Int), 0)).bind fun l16 => (match l16 with | l16 => some l16)))))
theorem impl_Digest_p (b0 : Bool) {a0 : (List Int)} {R0 : (List Int)} (H : impl_Digest a0 = some R0) : Pure Go.Proofs.Tryd.prog 31 [.im b0 (a0.map (c_int .u8))] (.im false (R0.map (c_int .u8))) := by
  refine CallT.of_TN (n := 56) Go.Proofs.Tryd.func31 rfl rfl rfl rfl ?_
  refine T.seq ?_
  refine T.region ?_
  refine TL.st rfl rfl rfl (o_assign rfl rfl) ?_
  refine TL.nil ?_
  refine thn_normal ?_
  refine T.seq ?_
  refine T.seq ?_
  refine T.region ?_
  refine TL.st rfl rfl rfl (o_move rfl rfl) ?_
  refine TL.st rfl rfl rfl (o_lenL (f := c_int .u8) rfl rfl rfl) ?_
  refine TL.st rfl rfl rfl (o_ari rfl rfl rfl rfl) ?_
  refine TL.nil ?_
  refine thn_normal ?_
  refine T.cond (decide ((a0.length : Int) > 20000)) rfl (fun h => ?_) (fun h => ?_)
  · replace H := cond_t h H
    refine T.seq ?_
    refine T.region ?_
    refine TL.st rfl rfl rfl (o_assign rfl rfl) ?_
    refine TL.nil ?_
    refine thn_normal ?_
    refine T.ret ?_
    refine thn_ret ?_
    cases some_i H
    exact ⟨trivial, _, (.tmp _ _ _ _ rfl .nil), .nil⟩
  · replace H := cond_f h H
    refine T.skip ?_
    refine thn_normal ?_
    refine T.seq ?_
    refine T.region ?_
    refine TL.st rfl rfl rfl (o_build rfl ⟨_, fun _ => rfl, rfl⟩ rfl rfl rfl) ?_
    refine TL.st rfl rfl rfl (o_alloc rfl ⟨_, rfl, rfl⟩) ?_
    refine TL.sn rfl rfl (o_storeBx rfl tyS_63 rfl rfl rfl rfl (Nat.le_of_ble_eq_true rfl) rfl) ?_
    refine TL.nil ?_
    refine thn_normal ?_
    refine T.seq ?_
    refine T.region ?_
    refine TL.st rfl rfl rfl (o_build rfl ⟨_, fun _ => rfl, rfl⟩ rfl rfl rfl) ?_
    refine TL.st rfl rfl rfl (o_alloc rfl ⟨_, rfl, rfl⟩) ?_
    refine TL.sn rfl rfl (o_storeBx rfl tyS_63 rfl rfl rfl rfl (Nat.le_of_ble_eq_true rfl) rfl) ?_
    refine TL.nil ?_
    refine thn_normal ?_
    refine T.seq ?_
    refine T.region ?_
    refine TL.st rfl rfl rfl (o_makeFunc rfl rfl rfl) ?_
    refine TL.st rfl rfl rfl (o_assign rfl rfl) ?_
    refine TL.nil ?_
    refine thn_normal ?_
    refine T.seq ?_
    refine T.seq ?_
    refine T.region ?_
    refine TL.st rfl rfl rfl (o_move rfl rfl) ?_
    refine TL.st rfl rfl rfl (o_lenL (f := c_int .u8) rfl rfl rfl) ?_
    refine TL.st rfl rfl rfl (o_move rfl rfl) ?_
    refine TL.nil ?_
    refine thn_normal ?_
    refine T.block ?_
    obtain ⟨b3, h44, H⟩ := bind_s H
    refine T.to (.cons 0 _ (.im b0 (a0.map (c_int .u8))) _ rfl (.same _) rfl (.cons 3 _ (.bx 0 0) _ rfl (.same _) rfl (.cons 5 _ (.fn 42 [] [.bx 0 0, .bx 1 0]) _ rfl (.same _) rfl (.cons 19 _ (.im b0 (a0.map (c_int .u8))) _ rfl (.same _) rfl (.cons 20 _ (.int .i64 (a0.length : Int)) _ rfl (.same _) rfl (.cons 21 _ (.int .i64 0) _ rfl (.same _) rfl .nil)))))) ?_
    refine T.lp (fun s => match s with | (b1, v2) => [(0, .im b0 (a0.map (c_int .u8))), (3, .bx 0 0), (5, .fn 42 [] [.bx 0 0, .bx 1 0]), (19, .im b0 (a0.map (c_int .u8))), (20, .int .i64 (a0.length : Int)), (21, .int .i64 v2)]) (fun s => match s with | (b1, v2) => [.box (b1.map (V.int .i64)), .box (([1103515245, 69069, 1664525, 22695477] : List Int).map (V.int .i64))]) (fun q ex fr σ => match q with | b3 => ex = .exit 0 ∧ fr = [(0, .im b0 (a0.map (c_int .u8))), (3, .bx 0 0), (5, .fn 42 [] [.bx 0 0, .bx 1 0])] ∧ σ = [.box (b3.map (V.int .i64)), .box (([1103515245, 69069, 1664525, 22695477] : List Int).map (V.int .i64))]) h44 ?_ ?_ ?_ ?_ ?_
    · rintro ⟨b1, v2⟩ y38 H
      refine T.seq ?_
      refine T.region ?_
      refine TL.st rfl rfl rfl (o_ari rfl rfl rfl rfl) ?_
      refine TL.nil ?_
      refine thn_normal ?_
      refine T.seq ?_
      refine T.cond (decide (v2 < (a0.length : Int))) rfl (fun h => ?_) (fun h => ?_)
      · replace H := cond_t h H
        refine T.skip ?_
        refine thn_normal ?_
        refine T.seq ?_
        refine T.block ?_
        refine T.seq ?_
        refine T.region ?_
        obtain ⟨e39, h40, H⟩ := bind_s H
        refine TL.st rfl rfl rfl (o_ix (f := c_int .u8) rfl rfl tyS_5 rfl rfl h40 rfl) ?_
        refine TL.st rfl rfl rfl (o_loadRf rfl tyS_5 rfl (Nat.le_of_ble_eq_true rfl) rfl) ?_
        refine TL.st rfl rfl rfl (o_assign rfl rfl) ?_
        refine TL.nil ?_
        refine thn_normal ?_
        refine T.region ?_
        refine TL.st rfl rfl rfl (o_move rfl rfl) ?_
        refine TL.st rfl rfl rfl (o_move rfl rfl) ?_
        obtain ⟨o41, h42, H⟩ := bind_s H
        refine TL.st rfl rfl rfl (o_callM [0, 1] rfl en_42 rfl rfl (impl_Digest_1_p  h42) rfl (by decide) (.cons _ _ _ _ (ren_bx rfl fun _ => rfl) (.cons _ _ _ _ (ren_bx rfl fun _ => rfl) .nil)) rfl rfl (.cons _ _ _ _ (ren_bxO fun _ => rfl) (.cons _ _ _ _ (ren_bxO fun _ => rfl) .nil)) rfl) ?_
        refine TL.nil ?_
        refine inB_normal ?_
        refine thn_normal ?_
        refine T.region ?_
        refine TL.st rfl rfl rfl (o_ari rfl rfl rfl rfl) ?_
        refine TL.st rfl rfl rfl (o_move rfl rfl) ?_
        refine TL.nil ?_
        exact Pk.go (fr' := [(0, .im b0 (a0.map (c_int .u8))), (3, .bx 0 0), (5, .fn 42 [] [.bx 0 0, .bx 1 0]), (19, .im b0 (a0.map (c_int .u8))), (20, .int .i64 (a0.length : Int)), (21, .int .i64 (IntKind.i64.wrap (v2 + 1)))]) (σ' := [.box (o41.map (V.int .i64)), .box (([1103515245, 69069, 1664525, 22695477] : List Int).map (V.int .i64))]) _ rfl rfl ⟨(belA fun _ => rfl), ⟨(belA fun _ => rfl), trivial⟩⟩ (.cons 0 _ (.im b0 (a0.map (c_int .u8))) _ rfl (.same _) rfl (.cons 3 _ (.bx 0 0) _ rfl (.same _) rfl (.cons 5 _ (.fn 42 [] [.bx 0 0, .bx 1 0]) _ rfl (.same _) rfl (.cons 19 _ (.im b0 (a0.map (c_int .u8))) _ rfl (.same _) rfl (.cons 20 _ (.int .i64 (a0.length : Int)) _ rfl (.same _) rfl (.cons 21 _ (.int .i64 (IntKind.i64.wrap (v2 + 1))) _ rfl (.same _) rfl .nil)))))) (thn_normal ⟨(o41, (IntKind.i64.wrap (v2 + 1))), (some_i H).symm, rfl, rfl⟩)
      · replace H := cond_f h H
        refine T.exit ?_
        refine thn_exit ?_
        exact Pk.go (fr' := [(0, .im b0 (a0.map (c_int .u8))), (3, .bx 0 0), (5, .fn 42 [] [.bx 0 0, .bx 1 0])]) (σ' := [.box (b1.map (V.int .i64)), .box (([1103515245, 69069, 1664525, 22695477] : List Int).map (V.int .i64))]) _ rfl rfl ⟨(belA fun _ => rfl), ⟨(belA fun _ => rfl), trivial⟩⟩ (.cons 0 _ (.im b0 (a0.map (c_int .u8))) _ rfl (.same _) rfl (.cons 3 _ (.bx 0 0) _ rfl (.same _) rfl (.cons 5 _ (.fn 42 [] [.bx 0 0, .bx 1 0]) _ rfl (.same _) rfl .nil))) (thn_exit ⟨b1, (some_i H).symm, rfl, rfl, rfl⟩)
    · rintro ⟨b1, v2⟩ ⟨b1', v2'⟩; rfl
    · rintro ⟨b1, v2⟩; exact ⟨(belA fun _ => rfl), ⟨(belA fun _ => rfl), trivial⟩⟩
    · rintro ⟨b1, v2⟩; exact (.cons _ _ _ rfl rfl (.cons _ _ _ rfl rfl (.cons _ _ _ rfl rfl (.cons _ _ _ rfl rfl (.cons _ _ _ rfl rfl (.cons _ _ _ rfl rfl .nil))))))
    · rintro _ _ _ ⟨rfl, rfl, rfl⟩
      refine inB_here ?_
      refine thn_normal ?_
      refine T.seq ?_
      refine T.seq ?_
      refine T.region ?_
      refine TL.st rfl rfl rfl (o_move rfl rfl) ?_
      refine TL.st rfl rfl rfl (o_lenL (f := c_int .u8) rfl rfl rfl) ?_
      obtain ⟨r4, h5, H⟩ := bind_s H
      refine TL.st rfl rfl rfl (o_callP rfl en_17 rfl rfl (.cons _ _ _ _ (.cl _ rfl) .nil) (impl_ybytes_p  h5)) ?_
      refine TL.st rfl rfl rfl (o_lenL (f := c_int .u8) rfl rfl rfl) ?_
      refine TL.st rfl rfl rfl (o_move rfl rfl) ?_
      refine TL.nil ?_
      refine thn_normal ?_
      refine T.block ?_
      obtain ⟨b8, h37, H⟩ := bind_s H
      refine T.to (.cons 3 _ (.bx 0 0) _ rfl (.same _) rfl (.cons 5 _ (.fn 42 [] [.bx 0 0, .bx 1 0]) _ rfl (.same _) rfl (.cons 31 _ (.im false (r4.map (c_int .u8))) _ rfl (.same _) rfl (.cons 32 _ (.int .i64 (r4.length : Int)) _ rfl (.same _) rfl (.cons 33 _ (.int .i64 0) _ rfl (.same _) rfl .nil))))) ?_
      refine T.lp (fun s => match s with | (b6, v7) => [(3, .bx 0 0), (5, .fn 42 [] [.bx 0 0, .bx 1 0]), (31, .im false (r4.map (c_int .u8))), (32, .int .i64 (r4.length : Int)), (33, .int .i64 v7)]) (fun s => match s with | (b6, v7) => [.box (b6.map (V.int .i64)), .box (([1103515245, 69069, 1664525, 22695477] : List Int).map (V.int .i64))]) (fun q ex fr σ => match q with | b8 => ex = .exit 2 ∧ fr = [(3, .bx 0 0), (5, .fn 42 [] [.bx 0 0, .bx 1 0])] ∧ σ = [.box (b8.map (V.int .i64)), .box (([1103515245, 69069, 1664525, 22695477] : List Int).map (V.int .i64))]) h37 ?_ ?_ ?_ ?_ ?_
      · rintro ⟨b6, v7⟩ y31 H
        refine T.seq ?_
        refine T.region ?_
        refine TL.st rfl rfl rfl (o_ari rfl rfl rfl rfl) ?_
        refine TL.nil ?_
        refine thn_normal ?_
        refine T.seq ?_
        refine T.cond (decide (v7 < (r4.length : Int))) rfl (fun h => ?_) (fun h => ?_)
        · replace H := cond_t h H
          refine T.skip ?_
          refine thn_normal ?_
          refine T.seq ?_
          refine T.block ?_
          refine T.seq ?_
          refine T.region ?_
          obtain ⟨e32, h33, H⟩ := bind_s H
          refine TL.st rfl rfl rfl (o_ix (f := c_int .u8) rfl rfl tyS_5 rfl rfl h33 rfl) ?_
          refine TL.st rfl rfl rfl (o_loadRf rfl tyS_5 rfl (Nat.le_of_ble_eq_true rfl) rfl) ?_
          refine TL.st rfl rfl rfl (o_assign rfl rfl) ?_
          refine TL.nil ?_
          refine thn_normal ?_
          refine T.region ?_
          refine TL.st rfl rfl rfl (o_move rfl rfl) ?_
          refine TL.st rfl rfl rfl (o_move rfl rfl) ?_
          obtain ⟨o34, h35, H⟩ := bind_s H
          refine TL.st rfl rfl rfl (o_callM [0, 1] rfl en_42 rfl rfl (impl_Digest_1_p  h35) rfl (by decide) (.cons _ _ _ _ (ren_bx rfl fun _ => rfl) (.cons _ _ _ _ (ren_bx rfl fun _ => rfl) .nil)) rfl rfl (.cons _ _ _ _ (ren_bxO fun _ => rfl) (.cons _ _ _ _ (ren_bxO fun _ => rfl) .nil)) rfl) ?_
          refine TL.nil ?_
          refine inB_normal ?_
          refine thn_normal ?_
          refine T.region ?_
          refine TL.st rfl rfl rfl (o_ari rfl rfl rfl rfl) ?_
          refine TL.st rfl rfl rfl (o_move rfl rfl) ?_
          refine TL.nil ?_
          exact Pk.go (fr' := [(3, .bx 0 0), (5, .fn 42 [] [.bx 0 0, .bx 1 0]), (31, .im false (r4.map (c_int .u8))), (32, .int .i64 (r4.length : Int)), (33, .int .i64 (IntKind.i64.wrap (v7 + 1)))]) (σ' := [.box (o34.map (V.int .i64)), .box (([1103515245, 69069, 1664525, 22695477] : List Int).map (V.int .i64))]) _ rfl rfl ⟨(belA fun _ => rfl), ⟨(belA fun _ => rfl), trivial⟩⟩ (.cons 3 _ (.bx 0 0) _ rfl (.same _) rfl (.cons 5 _ (.fn 42 [] [.bx 0 0, .bx 1 0]) _ rfl (.same _) rfl (.cons 31 _ (.im false (r4.map (c_int .u8))) _ rfl (.same _) rfl (.cons 32 _ (.int .i64 (r4.length : Int)) _ rfl (.same _) rfl (.cons 33 _ (.int .i64 (IntKind.i64.wrap (v7 + 1))) _ rfl (.same _) rfl .nil))))) (thn_normal ⟨(o34, (IntKind.i64.wrap (v7 + 1))), (some_i H).symm, rfl, rfl⟩)
        · replace H := cond_f h H
          refine T.exit ?_
          refine thn_exit ?_
          exact Pk.go (fr' := [(3, .bx 0 0), (5, .fn 42 [] [.bx 0 0, .bx 1 0])]) (σ' := [.box (b6.map (V.int .i64)), .box (([1103515245, 69069, 1664525, 22695477] : List Int).map (V.int .i64))]) _ rfl rfl ⟨(belA fun _ => rfl), ⟨(belA fun _ => rfl), trivial⟩⟩ (.cons 3 _ (.bx 0 0) _ rfl (.same _) rfl (.cons 5 _ (.fn 42 [] [.bx 0 0, .bx 1 0]) _ rfl (.same _) rfl .nil)) (thn_exit ⟨b6, (some_i H).symm, rfl, rfl, rfl⟩)
      · rintro ⟨b6, v7⟩ ⟨b6', v7'⟩; rfl
      · rintro ⟨b6, v7⟩; exact ⟨(belA fun _ => rfl), ⟨(belA fun _ => rfl), trivial⟩⟩
      · rintro ⟨b6, v7⟩; exact (.cons _ _ _ rfl rfl (.cons _ _ _ rfl rfl (.cons _ _ _ rfl rfl (.cons _ _ _ rfl rfl (.cons _ _ _ rfl rfl .nil)))))
      · rintro _ _ _ ⟨rfl, rfl, rfl⟩
        refine inB_here ?_
        refine thn_normal ?_
        refine T.seq ?_
        refine T.seq ?_
        refine T.region ?_
        refine TL.st rfl rfl rfl (o_move rfl rfl) ?_
        refine TL.nil ?_
        refine thn_normal ?_
        refine T.block ?_
        obtain ⟨b11, h30, H⟩ := bind_s H
        refine T.to (.cons 3 _ (.bx 0 0) _ rfl (.same _) rfl (.cons 5 _ (.fn 42 [] [.bx 0 0, .bx 1 0]) _ rfl (.same _) rfl (.cons 41 _ (.int .i64 0) _ rfl (.same _) rfl .nil))) ?_
        refine T.lp (fun s => match s with | (b9, v10) => [(3, .bx 0 0), (5, .fn 42 [] [.bx 0 0, .bx 1 0]), (41, .int .i64 v10)]) (fun s => match s with | (b9, v10) => [.box (b9.map (V.int .i64)), .box (([1103515245, 69069, 1664525, 22695477] : List Int).map (V.int .i64))]) (fun q ex fr σ => match q with | b11 => ex = .exit 4 ∧ fr = [(3, .bx 0 0)] ∧ σ = [.box (b11.map (V.int .i64)), .box (([1103515245, 69069, 1664525, 22695477] : List Int).map (V.int .i64))]) h30 ?_ ?_ ?_ ?_ ?_
        · rintro ⟨b9, v10⟩ y26 H
          refine T.seq ?_
          refine T.region ?_
          refine TL.st rfl rfl rfl (o_ari rfl rfl rfl rfl) ?_
          refine TL.nil ?_
          refine thn_normal ?_
          refine T.seq ?_
          refine T.cond (decide (v10 < 8)) rfl (fun h => ?_) (fun h => ?_)
          · replace H := cond_t h H
            refine T.skip ?_
            refine thn_normal ?_
            refine T.seq ?_
            refine T.block ?_
            refine T.region ?_
            refine TL.st rfl rfl rfl (o_move rfl rfl) ?_
            obtain ⟨o27, h28, H⟩ := bind_s H
            refine TL.st rfl rfl rfl (o_callM [0, 1] rfl en_42 rfl rfl (impl_Digest_1_p  h28) rfl (by decide) (.cons _ _ _ _ (ren_bx rfl fun _ => rfl) (.cons _ _ _ _ (ren_bx rfl fun _ => rfl) .nil)) rfl rfl (.cons _ _ _ _ (ren_bxO fun _ => rfl) (.cons _ _ _ _ (ren_bxO fun _ => rfl) .nil)) rfl) ?_
            refine TL.nil ?_
            refine inB_normal ?_
            refine thn_normal ?_
            refine T.region ?_
            refine TL.st rfl rfl rfl (o_ari rfl rfl rfl rfl) ?_
            refine TL.st rfl rfl rfl (o_move rfl rfl) ?_
            refine TL.nil ?_
            exact Pk.go (fr' := [(3, .bx 0 0), (5, .fn 42 [] [.bx 0 0, .bx 1 0]), (41, .int .i64 (IntKind.i64.wrap (v10 + 1)))]) (σ' := [.box (o27.map (V.int .i64)), .box (([1103515245, 69069, 1664525, 22695477] : List Int).map (V.int .i64))]) _ rfl rfl ⟨(belA fun _ => rfl), ⟨(belA fun _ => rfl), trivial⟩⟩ (.cons 3 _ (.bx 0 0) _ rfl (.same _) rfl (.cons 5 _ (.fn 42 [] [.bx 0 0, .bx 1 0]) _ rfl (.same _) rfl (.cons 41 _ (.int .i64 (IntKind.i64.wrap (v10 + 1))) _ rfl (.same _) rfl .nil))) (thn_normal ⟨(o27, (IntKind.i64.wrap (v10 + 1))), (some_i H).symm, rfl, rfl⟩)
          · replace H := cond_f h H
            refine T.exit ?_
            refine thn_exit ?_
            exact Pk.go (fr' := [(3, .bx 0 0)]) (σ' := [.box (b9.map (V.int .i64)), .box (([1103515245, 69069, 1664525, 22695477] : List Int).map (V.int .i64))]) _ rfl rfl ⟨(belA fun _ => rfl), ⟨(belA fun _ => rfl), trivial⟩⟩ (.cons 3 _ (.bx 0 0) _ rfl (.same _) rfl .nil) (thn_exit ⟨b9, (some_i H).symm, rfl, rfl, rfl⟩)
        · rintro ⟨b9, v10⟩ ⟨b9', v10'⟩; rfl
        · rintro ⟨b9, v10⟩; exact ⟨(belA fun _ => rfl), ⟨(belA fun _ => rfl), trivial⟩⟩
        · rintro ⟨b9, v10⟩; exact (.cons _ _ _ rfl rfl (.cons _ _ _ rfl rfl (.cons _ _ _ rfl rfl .nil)))
        · rintro _ _ _ ⟨rfl, rfl, rfl⟩
          refine inB_here ?_
          refine thn_normal ?_
          refine T.seq ?_
          refine T.region ?_
          refine TL.st rfl rfl rfl (o_assign rfl rfl) ?_
          refine TL.nil ?_
          refine thn_normal ?_
          refine T.seq ?_
          refine T.seq ?_
          refine T.region ?_
          obtain ⟨u12, h13, H⟩ := bind_s H
          refine TL.st rfl rfl rfl (o_loadA (f := V.int .i64) (xs := b11) rfl tyS_63 rfl rfl h13) ?_
          refine TL.st rfl rfl rfl (o_move rfl rfl) ?_
          refine TL.nil ?_
          refine thn_normal ?_
          refine T.block ?_
          refine T.conv (Cs.own (t := 10) 1 rfl (by decide)) ?_
          obtain ⟨l16, h25, H⟩ := bind_s H
          refine T.to (.cons 10 _ (.hd 2 (([] : List Int).map (c_int .u8)).length 0 (([] : List Int).map (c_int .u8)).length) _ rfl (.same _) rfl (.cons 46 _ (.agg (b11.map (V.int .i64))) _ rfl (.same _) (belAg fun _ => rfl) (.cons 47 _ (.int .i64 0) _ rfl (.same _) rfl .nil))) ?_
          refine T.lp (fun s => match s with | (l14, v15) => [(10, .hd 2 (l14.map (c_int .u8)).length 0 (l14.map (c_int .u8)).length), (46, .agg (b11.map (V.int .i64))), (47, .int .i64 v15)]) (fun s => match s with | (l14, v15) => [.box (b11.map (V.int .i64)), .box (([1103515245, 69069, 1664525, 22695477] : List Int).map (V.int .i64)), .arr .clo 1 (l14.map (c_int .u8))]) (fun q ex fr σ => match q with | l16 => ex = .exit 6 ∧ fr = [(10, .hd 2 (l16.map (c_int .u8)).length 0 (l16.map (c_int .u8)).length)] ∧ σ = [.box (b11.map (V.int .i64)), .box (([1103515245, 69069, 1664525, 22695477] : List Int).map (V.int .i64)), .arr .clo 1 (l16.map (c_int .u8))]) h25 ?_ ?_ ?_ ?_ ?_
          · rintro ⟨l14, v15⟩ y17 H
            refine T.seq ?_
            refine T.region ?_
            refine TL.st rfl rfl rfl (o_ari rfl rfl rfl rfl) ?_
            refine TL.nil ?_
            refine thn_normal ?_
            refine T.seq ?_
            refine T.cond (decide (v15 < 4)) rfl (fun h => ?_) (fun h => ?_)
            · replace H := cond_t h H
              refine T.skip ?_
              refine thn_normal ?_
              refine T.seq ?_
              refine T.block ?_
              refine T.seq ?_
              refine T.region ?_
              obtain ⟨e18, h19, H⟩ := bind_s H
              refine TL.st rfl rfl rfl (o_ixV (f := V.int .i64) (xs := b11) rfl rfl tyS_3 rfl rfl h19) ?_
              refine TL.st rfl rfl rfl (o_assign rfl rfl) ?_
              refine TL.nil ?_
              refine thn_normal ?_
              refine T.region ?_
              refine TL.st rfl rfl rfl (o_move rfl rfl) ?_
              refine TL.st rfl rfl rfl (o_move rfl rfl) ?_
              obtain ⟨r20, h21, H⟩ := bind_s H
              refine TL.st rfl rfl rfl (o_callP rfl en_17 rfl rfl (.cons _ _ _ _ (.cl _ rfl) .nil) (impl_ybytes_p  h21)) ?_
              obtain ⟨l22, h23, H⟩ := bind_s H
              refine TL.st rfl rfl rfl (o_ap (f := c_int .u8) (xs := l14) (ys := r20) rfl rfl tyE_5 rfl rfl rfl rfl (by decide) rfl (fun _ => rfl) h23) ?_
              refine TL.st rfl rfl rfl (o_assign rfl rfl) ?_
              refine TL.nil ?_
              refine inB_normal ?_
              refine thn_normal ?_
              refine T.region ?_
              refine TL.st rfl rfl rfl (o_ari rfl rfl rfl rfl) ?_
              refine TL.st rfl rfl rfl (o_move rfl rfl) ?_
              refine TL.nil ?_
              exact Pk.go (fr' := [(10, .hd 2 (l22.map (c_int .u8)).length 0 (l22.map (c_int .u8)).length), (46, .agg (b11.map (V.int .i64))), (47, .int .i64 (IntKind.i64.wrap (v15 + 1)))]) (σ' := [.box (b11.map (V.int .i64)), .box (([1103515245, 69069, 1664525, 22695477] : List Int).map (V.int .i64)), .arr .clo 1 (l22.map (c_int .u8))]) _ rfl rfl ⟨(belA fun _ => rfl), ⟨(belA fun _ => rfl), ⟨trivial, trivial⟩⟩⟩ (.cons 10 _ (.hd 2 (l22.map (c_int .u8)).length 0 (l22.map (c_int .u8)).length) _ rfl (.same _) rfl (.cons 46 _ (.agg (b11.map (V.int .i64))) _ rfl (.same _) (belAg fun _ => rfl) (.cons 47 _ (.int .i64 (IntKind.i64.wrap (v15 + 1))) _ rfl (.same _) rfl .nil))) (thn_normal ⟨(l22, (IntKind.i64.wrap (v15 + 1))), (some_i H).symm, rfl, rfl⟩)
            · replace H := cond_f h H
              refine T.exit ?_
              refine thn_exit ?_
              exact Pk.go (fr' := [(10, .hd 2 (l14.map (c_int .u8)).length 0 (l14.map (c_int .u8)).length)]) (σ' := [.box (b11.map (V.int .i64)), .box (([1103515245, 69069, 1664525, 22695477] : List Int).map (V.int .i64)), .arr .clo 1 (l14.map (c_int .u8))]) _ rfl rfl ⟨(belA fun _ => rfl), ⟨(belA fun _ => rfl), ⟨trivial, trivial⟩⟩⟩ (.cons 10 _ (.hd 2 (l14.map (c_int .u8)).length 0 (l14.map (c_int .u8)).length) _ rfl (.same _) rfl .nil) (thn_exit ⟨l14, (some_i H).symm, rfl, rfl, rfl⟩)
          · rintro ⟨l14, v15⟩ ⟨l14', v15'⟩; rfl
          · rintro ⟨l14, v15⟩; exact ⟨(belA fun _ => rfl), ⟨(belA fun _ => rfl), ⟨trivial, trivial⟩⟩⟩
          · rintro ⟨l14, v15⟩; exact (.cons _ _ _ rfl rfl (.cons _ _ _ rfl (belAg fun _ => rfl) (.cons _ _ _ rfl rfl .nil)))
          · rintro _ _ _ ⟨rfl, rfl, rfl⟩
            refine inB_here ?_
            refine thn_normal ?_
            refine T.seq ?_
            refine T.region ?_
            refine TL.st rfl rfl rfl (o_move rfl rfl) ?_
            refine TL.st rfl rfl rfl (o_assign rfl rfl) ?_
            refine TL.nil ?_
            refine thn_normal ?_
            refine T.ret ?_
            cases some_i H
            exact ⟨trivial, _, (.tmp _ _ _ _ rfl .nil), (.own rfl (by decide) rfl)⟩
theorem en_31 (us : Array Value) (w : World) : (callFunc 31 us).run Go.Proofs.Tryd.prog w = .ok (.enter 31 us) w := enters Go.Proofs.Tryd.func31 rfl rfl us w
theorem impl_Digest_o (b0 : Bool) {a0 : (List Int)} {R0 : (List Int)} (H : impl_Digest a0 = some R0) : OwnC Go.Proofs.Tryd.prog 31 [.im b0 (a0.map (c_int .u8))] 1 (R0.map (c_int .u8)) := by
  refine CallT.of_TN (n := 56) Go.Proofs.Tryd.func31 rfl rfl rfl rfl ?_
  refine T.seq ?_
  refine T.region ?_
  refine TL.st rfl rfl rfl (o_assign rfl rfl) ?_
  refine TL.nil ?_
  refine thn_normal ?_
  refine T.seq ?_
  refine T.seq ?_
  refine T.region ?_
  refine TL.st rfl rfl rfl (o_move rfl rfl) ?_
  refine TL.st rfl rfl rfl (o_lenL (f := c_int .u8) rfl rfl rfl) ?_
  refine TL.st rfl rfl rfl (o_ari rfl rfl rfl rfl) ?_
  refine TL.nil ?_
  refine thn_normal ?_
  refine T.cond (decide ((a0.length : Int) > 20000)) rfl (fun h => ?_) (fun h => ?_)
  · replace H := cond_t h H
    refine T.seq ?_
    refine T.region ?_
    refine TL.st rfl rfl rfl (o_assign rfl rfl) ?_
    refine TL.nil ?_
    refine thn_normal ?_
    refine T.conv (Cs.own (t := 2) 1 rfl (by decide)) ?_
    refine T.ret ?_
    refine thn_ret ?_
    cases some_i H
    exact ⟨trivial, _, (.tmp _ _ _ _ rfl .nil), ⟨rfl, _, rfl⟩⟩
  · replace H := cond_f h H
    refine T.skip ?_
    refine thn_normal ?_
    refine T.seq ?_
    refine T.region ?_
    refine TL.st rfl rfl rfl (o_build rfl ⟨_, fun _ => rfl, rfl⟩ rfl rfl rfl) ?_
    refine TL.st rfl rfl rfl (o_alloc rfl ⟨_, rfl, rfl⟩) ?_
    refine TL.sn rfl rfl (o_storeBx rfl tyS_63 rfl rfl rfl rfl (Nat.le_of_ble_eq_true rfl) rfl) ?_
    refine TL.nil ?_
    refine thn_normal ?_
    refine T.seq ?_
    refine T.region ?_
    refine TL.st rfl rfl rfl (o_build rfl ⟨_, fun _ => rfl, rfl⟩ rfl rfl rfl) ?_
    refine TL.st rfl rfl rfl (o_alloc rfl ⟨_, rfl, rfl⟩) ?_
    refine TL.sn rfl rfl (o_storeBx rfl tyS_63 rfl rfl rfl rfl (Nat.le_of_ble_eq_true rfl) rfl) ?_
    refine TL.nil ?_
    refine thn_normal ?_
    refine T.seq ?_
    refine T.region ?_
    refine TL.st rfl rfl rfl (o_makeFunc rfl rfl rfl) ?_
    refine TL.st rfl rfl rfl (o_assign rfl rfl) ?_
    refine TL.nil ?_
    refine thn_normal ?_
    refine T.seq ?_
    refine T.seq ?_
    refine T.region ?_
    refine TL.st rfl rfl rfl (o_move rfl rfl) ?_
    refine TL.st rfl rfl rfl (o_lenL (f := c_int .u8) rfl rfl rfl) ?_
    refine TL.st rfl rfl rfl (o_move rfl rfl) ?_
    refine TL.nil ?_
    refine thn_normal ?_
    refine T.block ?_
    obtain ⟨b3, h44, H⟩ := bind_s H
    refine T.to (.cons 0 _ (.im b0 (a0.map (c_int .u8))) _ rfl (.same _) rfl (.cons 3 _ (.bx 0 0) _ rfl (.same _) rfl (.cons 5 _ (.fn 42 [] [.bx 0 0, .bx 1 0]) _ rfl (.same _) rfl (.cons 19 _ (.im b0 (a0.map (c_int .u8))) _ rfl (.same _) rfl (.cons 20 _ (.int .i64 (a0.length : Int)) _ rfl (.same _) rfl (.cons 21 _ (.int .i64 0) _ rfl (.same _) rfl .nil)))))) ?_
    refine T.lp (fun s => match s with | (b1, v2) => [(0, .im b0 (a0.map (c_int .u8))), (3, .bx 0 0), (5, .fn 42 [] [.bx 0 0, .bx 1 0]), (19, .im b0 (a0.map (c_int .u8))), (20, .int .i64 (a0.length : Int)), (21, .int .i64 v2)]) (fun s => match s with | (b1, v2) => [.box (b1.map (V.int .i64)), .box (([1103515245, 69069, 1664525, 22695477] : List Int).map (V.int .i64))]) (fun q ex fr σ => match q with | b3 => ex = .exit 0 ∧ fr = [(0, .im b0 (a0.map (c_int .u8))), (3, .bx 0 0), (5, .fn 42 [] [.bx 0 0, .bx 1 0])] ∧ σ = [.box (b3.map (V.int .i64)), .box (([1103515245, 69069, 1664525, 22695477] : List Int).map (V.int .i64))]) h44 ?_ ?_ ?_ ?_ ?_
    · rintro ⟨b1, v2⟩ y38 H
      refine T.seq ?_
      refine T.region ?_
      refine TL.st rfl rfl rfl (o_ari rfl rfl rfl rfl) ?_
      refine TL.nil ?_
      refine thn_normal ?_
      refine T.seq ?_
      refine T.cond (decide (v2 < (a0.length : Int))) rfl (fun h => ?_) (fun h => ?_)
      · replace H := cond_t h H
        refine T.skip ?_
        refine thn_normal ?_
        refine T.seq ?_
        refine T.block ?_
        refine T.seq ?_
        refine T.region ?_
        obtain ⟨e39, h40, H⟩ := bind_s H
        refine TL.st rfl rfl rfl (o_ix (f := c_int .u8) rfl rfl tyS_5 rfl rfl h40 rfl) ?_
        refine TL.st rfl rfl rfl (o_loadRf rfl tyS_5 rfl (Nat.le_of_ble_eq_true rfl) rfl) ?_
        refine TL.st rfl rfl rfl (o_assign rfl rfl) ?_
        refine TL.nil ?_
        refine thn_normal ?_
        refine T.region ?_
        refine TL.st rfl rfl rfl (o_move rfl rfl) ?_
        refine TL.st rfl rfl rfl (o_move rfl rfl) ?_
        obtain ⟨o41, h42, H⟩ := bind_s H
        refine TL.st rfl rfl rfl (o_callM [0, 1] rfl en_42 rfl rfl (impl_Digest_1_p  h42) rfl (by decide) (.cons _ _ _ _ (ren_bx rfl fun _ => rfl) (.cons _ _ _ _ (ren_bx rfl fun _ => rfl) .nil)) rfl rfl (.cons _ _ _ _ (ren_bxO fun _ => rfl) (.cons _ _ _ _ (ren_bxO fun _ => rfl) .nil)) rfl) ?_
        refine TL.nil ?_
        refine inB_normal ?_
        refine thn_normal ?_
        refine T.region ?_
        refine TL.st rfl rfl rfl (o_ari rfl rfl rfl rfl) ?_
        refine TL.st rfl rfl rfl (o_move rfl rfl) ?_
        refine TL.nil ?_
        exact Pk.go (fr' := [(0, .im b0 (a0.map (c_int .u8))), (3, .bx 0 0), (5, .fn 42 [] [.bx 0 0, .bx 1 0]), (19, .im b0 (a0.map (c_int .u8))), (20, .int .i64 (a0.length : Int)), (21, .int .i64 (IntKind.i64.wrap (v2 + 1)))]) (σ' := [.box (o41.map (V.int .i64)), .box (([1103515245, 69069, 1664525, 22695477] : List Int).map (V.int .i64))]) _ rfl rfl ⟨(belA fun _ => rfl), ⟨(belA fun _ => rfl), trivial⟩⟩ (.cons 0 _ (.im b0 (a0.map (c_int .u8))) _ rfl (.same _) rfl (.cons 3 _ (.bx 0 0) _ rfl (.same _) rfl (.cons 5 _ (.fn 42 [] [.bx 0 0, .bx 1 0]) _ rfl (.same _) rfl (.cons 19 _ (.im b0 (a0.map (c_int .u8))) _ rfl (.same _) rfl (.cons 20 _ (.int .i64 (a0.length : Int)) _ rfl (.same _) rfl (.cons 21 _ (.int .i64 (IntKind.i64.wrap (v2 + 1))) _ rfl (.same _) rfl .nil)))))) (thn_normal ⟨(o41, (IntKind.i64.wrap (v2 + 1))), (some_i H).symm, rfl, rfl⟩)
      · replace H := cond_f h H
        refine T.exit ?_
        refine thn_exit ?_
        exact Pk.go (fr' := [(0, .im b0 (a0.map (c_int .u8))), (3, .bx 0 0), (5, .fn 42 [] [.bx 0 0, .bx 1 0])]) (σ' := [.box (b1.map (V.int .i64)), .box (([1103515245, 69069, 1664525, 22695477] : List Int).map (V.int .i64))]) _ rfl rfl ⟨(belA fun _ => rfl), ⟨(belA fun _ => rfl), trivial⟩⟩ (.cons 0 _ (.im b0 (a0.map (c_int .u8))) _ rfl (.same _) rfl (.cons 3 _ (.bx 0 0) _ rfl (.same _) rfl (.cons 5 _ (.fn 42 [] [.bx 0 0, .bx 1 0]) _ rfl (.same _) rfl .nil))) (thn_exit ⟨b1, (some_i H).symm, rfl, rfl, rfl⟩)
    · rintro ⟨b1, v2⟩ ⟨b1', v2'⟩; rfl
    · rintro ⟨b1, v2⟩; exact ⟨(belA fun _ => rfl), ⟨(belA fun _ => rfl), trivial⟩⟩
    · rintro ⟨b1, v2⟩; exact (.cons _ _ _ rfl rfl (.cons _ _ _ rfl rfl (.cons _ _ _ rfl rfl (.cons _ _ _ rfl rfl (.cons _ _ _ rfl rfl (.cons _ _ _ rfl rfl .nil))))))
    · rintro _ _ _ ⟨rfl, rfl, rfl⟩
      refine inB_here ?_
      refine thn_normal ?_
      refine T.seq ?_
      refine T.seq ?_
      refine T.region ?_
      refine TL.st rfl rfl rfl (o_move rfl rfl) ?_
      refine TL.st rfl rfl rfl (o_lenL (f := c_int .u8) rfl rfl rfl) ?_
      obtain ⟨r4, h5, H⟩ := bind_s H
      refine TL.st rfl rfl rfl (o_callP rfl en_17 rfl rfl (.cons _ _ _ _ (.cl _ rfl) .nil) (impl_ybytes_p  h5)) ?_
      refine TL.st rfl rfl rfl (o_lenL (f := c_int .u8) rfl rfl rfl) ?_
      refine TL.st rfl rfl rfl (o_move rfl rfl) ?_
      refine TL.nil ?_
      refine thn_normal ?_
      refine T.block ?_
      obtain ⟨b8, h37, H⟩ := bind_s H
      refine T.to (.cons 3 _ (.bx 0 0) _ rfl (.same _) rfl (.cons 5 _ (.fn 42 [] [.bx 0 0, .bx 1 0]) _ rfl (.same _) rfl (.cons 31 _ (.im false (r4.map (c_int .u8))) _ rfl (.same _) rfl (.cons 32 _ (.int .i64 (r4.length : Int)) _ rfl (.same _) rfl (.cons 33 _ (.int .i64 0) _ rfl (.same _) rfl .nil))))) ?_
      refine T.lp (fun s => match s with | (b6, v7) => [(3, .bx 0 0), (5, .fn 42 [] [.bx 0 0, .bx 1 0]), (31, .im false (r4.map (c_int .u8))), (32, .int .i64 (r4.length : Int)), (33, .int .i64 v7)]) (fun s => match s with | (b6, v7) => [.box (b6.map (V.int .i64)), .box (([1103515245, 69069, 1664525, 22695477] : List Int).map (V.int .i64))]) (fun q ex fr σ => match q with | b8 => ex = .exit 2 ∧ fr = [(3, .bx 0 0), (5, .fn 42 [] [.bx 0 0, .bx 1 0])] ∧ σ = [.box (b8.map (V.int .i64)), .box (([1103515245, 69069, 1664525, 22695477] : List Int).map (V.int .i64))]) h37 ?_ ?_ ?_ ?_ ?_
      · rintro ⟨b6, v7⟩ y31 H
        refine T.seq ?_
        refine T.region ?_
        refine TL.st rfl rfl rfl (o_ari rfl rfl rfl rfl) ?_
        refine TL.nil ?_
        refine thn_normal ?_
        refine T.seq ?_
        refine T.cond (decide (v7 < (r4.length : Int))) rfl (fun h => ?_) (fun h => ?_)
        · replace H := cond_t h H
          refine T.skip ?_
          refine thn_normal ?_
          refine T.seq ?_
          refine T.block ?_
          refine T.seq ?_
          refine T.region ?_
          obtain ⟨e32, h33, H⟩ := bind_s H
          refine TL.st rfl rfl rfl (o_ix (f := c_int .u8) rfl rfl tyS_5 rfl rfl h33 rfl) ?_
          refine TL.st rfl rfl rfl (o_loadRf rfl tyS_5 rfl (Nat.le_of_ble_eq_true rfl) rfl) ?_
          refine TL.st rfl rfl rfl (o_assign rfl rfl) ?_
          refine TL.nil ?_
          refine thn_normal ?_
          refine T.region ?_
          refine TL.st rfl rfl rfl (o_move rfl rfl) ?_
          refine TL.st rfl rfl rfl (o_move rfl rfl) ?_
          obtain ⟨o34, h35, H⟩ := bind_s H
          refine TL.st rfl rfl rfl (o_callM [0, 1] rfl en_42 rfl rfl (impl_Digest_1_p  h35) rfl (by decide) (.cons _ _ _ _ (ren_bx rfl fun _ => rfl) (.cons _ _ _ _ (ren_bx rfl fun _ => rfl) .nil)) rfl rfl (.cons _ _ _ _ (ren_bxO fun _ => rfl) (.cons _ _ _ _ (ren_bxO fun _ => rfl) .nil)) rfl) ?_
          refine TL.nil ?_
          refine inB_normal ?_
          refine thn_normal ?_
          refine T.region ?_
          refine TL.st rfl rfl rfl (o_ari rfl rfl rfl rfl) ?_
          refine TL.st rfl rfl rfl (o_move rfl rfl) ?_
          refine TL.nil ?_
          exact Pk.go (fr' := [(3, .bx 0 0), (5, .fn 42 [] [.bx 0 0, .bx 1 0]), (31, .im false (r4.map (c_int .u8))), (32, .int .i64 (r4.length : Int)), (33, .int .i64 (IntKind.i64.wrap (v7 + 1)))]) (σ' := [.box (o34.map (V.int .i64)), .box (([1103515245, 69069, 1664525, 22695477] : List Int).map (V.int .i64))]) _ rfl rfl ⟨(belA fun _ => rfl), ⟨(belA fun _ => rfl), trivial⟩⟩ (.cons 3 _ (.bx 0 0) _ rfl (.same _) rfl (.cons 5 _ (.fn 42 [] [.bx 0 0, .bx 1 0]) _ rfl (.same _) rfl (.cons 31 _ (.im false (r4.map (c_int .u8))) _ rfl (.same _) rfl (.cons 32 _ (.int .i64 (r4.length : Int)) _ rfl (.same _) rfl (.cons 33 _ (.int .i64 (IntKind.i64.wrap (v7 + 1))) _ rfl (.same _) rfl .nil))))) (thn_normal ⟨(o34, (IntKind.i64.wrap (v7 + 1))), (some_i H).symm, rfl, rfl⟩)
        · replace H := cond_f h H
          refine T.exit ?_
          refine thn_exit ?_
          exact Pk.go (fr' := [(3, .bx 0 0), (5, .fn 42 [] [.bx 0 0, .bx 1 0])]) (σ' := [.box (b6.map (V.int .i64)), .box (([1103515245, 69069, 1664525, 22695477] : List Int).map (V.int .i64))]) _ rfl rfl ⟨(belA fun _ => rfl), ⟨(belA fun _ => rfl), trivial⟩⟩ (.cons 3 _ (.bx 0 0) _ rfl (.same _) rfl (.cons 5 _ (.fn 42 [] [.bx 0 0, .bx 1 0]) _ rfl (.same _) rfl .nil)) (thn_exit ⟨b6, (some_i H).symm, rfl, rfl, rfl⟩)
      · rintro ⟨b6, v7⟩ ⟨b6', v7'⟩; rfl
      · rintro ⟨b6, v7⟩; exact ⟨(belA fun _ => rfl), ⟨(belA fun _ => rfl), trivial⟩⟩
      · rintro ⟨b6, v7⟩; exact (.cons _ _ _ rfl rfl (.cons _ _ _ rfl rfl (.cons _ _ _ rfl rfl (.cons _ _ _ rfl rfl (.cons _ _ _ rfl rfl .nil)))))
      · rintro _ _ _ ⟨rfl, rfl, rfl⟩
        refine inB_here ?_
        refine thn_normal ?_
        refine T.seq ?_
        refine T.seq ?_
        refine T.region ?_
        refine TL.st rfl rfl rfl (o_move rfl rfl) ?_
        refine TL.nil ?_
        refine thn_normal ?_
        refine T.block ?_
        obtain ⟨b11, h30, H⟩ := bind_s H
        refine T.to (.cons 3 _ (.bx 0 0) _ rfl (.same _) rfl (.cons 5 _ (.fn 42 [] [.bx 0 0, .bx 1 0]) _ rfl (.same _) rfl (.cons 41 _ (.int .i64 0) _ rfl (.same _) rfl .nil))) ?_
        refine T.lp (fun s => match s with | (b9, v10) => [(3, .bx 0 0), (5, .fn 42 [] [.bx 0 0, .bx 1 0]), (41, .int .i64 v10)]) (fun s => match s with | (b9, v10) => [.box (b9.map (V.int .i64)), .box (([1103515245, 69069, 1664525, 22695477] : List Int).map (V.int .i64))]) (fun q ex fr σ => match q with | b11 => ex = .exit 4 ∧ fr = [(3, .bx 0 0)] ∧ σ = [.box (b11.map (V.int .i64)), .box (([1103515245, 69069, 1664525, 22695477] : List Int).map (V.int .i64))]) h30 ?_ ?_ ?_ ?_ ?_
        · rintro ⟨b9, v10⟩ y26 H
          refine T.seq ?_
          refine T.region ?_
          refine TL.st rfl rfl rfl (o_ari rfl rfl rfl rfl) ?_
          refine TL.nil ?_
          refine thn_normal ?_
          refine T.seq ?_
          refine T.cond (decide (v10 < 8)) rfl (fun h => ?_) (fun h => ?_)
          · replace H := cond_t h H
            refine T.skip ?_
            refine thn_normal ?_
            refine T.seq ?_
            refine T.block ?_
            refine T.region ?_
            refine TL.st rfl rfl rfl (o_move rfl rfl) ?_
            obtain ⟨o27, h28, H⟩ := bind_s H
            refine TL.st rfl rfl rfl (o_callM [0, 1] rfl en_42 rfl rfl (impl_Digest_1_p  h28) rfl (by decide) (.cons _ _ _ _ (ren_bx rfl fun _ => rfl) (.cons _ _ _ _ (ren_bx rfl fun _ => rfl) .nil)) rfl rfl (.cons _ _ _ _ (ren_bxO fun _ => rfl) (.cons _ _ _ _ (ren_bxO fun _ => rfl) .nil)) rfl) ?_
            refine TL.nil ?_
            refine inB_normal ?_
            refine thn_normal ?_
            refine T.region ?_
            refine TL.st rfl rfl rfl (o_ari rfl rfl rfl rfl) ?_
            refine TL.st rfl rfl rfl (o_move rfl rfl) ?_
            refine TL.nil ?_
            exact Pk.go (fr' := [(3, .bx 0 0), (5, .fn 42 [] [.bx 0 0, .bx 1 0]), (41, .int .i64 (IntKind.i64.wrap (v10 + 1)))]) (σ' := [.box (o27.map (V.int .i64)), .box (([1103515245, 69069, 1664525, 22695477] : List Int).map (V.int .i64))]) _ rfl rfl ⟨(belA fun _ => rfl), ⟨(belA fun _ => rfl), trivial⟩⟩ (.cons 3 _ (.bx 0 0) _ rfl (.same _) rfl (.cons 5 _ (.fn 42 [] [.bx 0 0, .bx 1 0]) _ rfl (.same _) rfl (.cons 41 _ (.int .i64 (IntKind.i64.wrap (v10 + 1))) _ rfl (.same _) rfl .nil))) (thn_normal ⟨(o27, (IntKind.i64.wrap (v10 + 1))), (some_i H).symm, rfl, rfl⟩)
          · replace H := cond_f h H
            refine T.exit ?_
            refine thn_exit ?_
            exact Pk.go (fr' := [(3, .bx 0 0)]) (σ' := [.box (b9.map (V.int .i64)), .box (([1103515245, 69069, 1664525, 22695477] : List Int).map (V.int .i64))]) _ rfl rfl ⟨(belA fun _ => rfl), ⟨(belA fun _ => rfl), trivial⟩⟩ (.cons 3 _ (.bx 0 0) _ rfl (.same _) rfl .nil) (thn_exit ⟨b9, (some_i H).symm, rfl, rfl, rfl⟩)
        · rintro ⟨b9, v10⟩ ⟨b9', v10'⟩; rfl
        · rintro ⟨b9, v10⟩; exact ⟨(belA fun _ => rfl), ⟨(belA fun _ => rfl), trivial⟩⟩
        · rintro ⟨b9, v10⟩; exact (.cons _ _ _ rfl rfl (.cons _ _ _ rfl rfl (.cons _ _ _ rfl rfl .nil)))
        · rintro _ _ _ ⟨rfl, rfl, rfl⟩
          refine inB_here ?_
          refine thn_normal ?_
          refine T.seq ?_
          refine T.region ?_
          refine TL.st rfl rfl rfl (o_assign rfl rfl) ?_
          refine TL.nil ?_
          refine thn_normal ?_
          refine T.seq ?_
          refine T.seq ?_
          refine T.region ?_
          obtain ⟨u12, h13, H⟩ := bind_s H
          refine TL.st rfl rfl rfl (o_loadA (f := V.int .i64) (xs := b11) rfl tyS_63 rfl rfl h13) ?_
          refine TL.st rfl rfl rfl (o_move rfl rfl) ?_
          refine TL.nil ?_
          refine thn_normal ?_
          refine T.block ?_
          refine T.conv (Cs.own (t := 10) 1 rfl (by decide)) ?_
          obtain ⟨l16, h25, H⟩ := bind_s H
          refine T.to (.cons 10 _ (.hd 2 (([] : List Int).map (c_int .u8)).length 0 (([] : List Int).map (c_int .u8)).length) _ rfl (.same _) rfl (.cons 46 _ (.agg (b11.map (V.int .i64))) _ rfl (.same _) (belAg fun _ => rfl) (.cons 47 _ (.int .i64 0) _ rfl (.same _) rfl .nil))) ?_
          refine T.lp (fun s => match s with | (l14, v15) => [(10, .hd 2 (l14.map (c_int .u8)).length 0 (l14.map (c_int .u8)).length), (46, .agg (b11.map (V.int .i64))), (47, .int .i64 v15)]) (fun s => match s with | (l14, v15) => [.box (b11.map (V.int .i64)), .box (([1103515245, 69069, 1664525, 22695477] : List Int).map (V.int .i64)), .arr .clo 1 (l14.map (c_int .u8))]) (fun q ex fr σ => match q with | l16 => ex = .exit 6 ∧ fr = [(10, .hd 2 (l16.map (c_int .u8)).length 0 (l16.map (c_int .u8)).length)] ∧ σ = [.box (b11.map (V.int .i64)), .box (([1103515245, 69069, 1664525, 22695477] : List Int).map (V.int .i64)), .arr .clo 1 (l16.map (c_int .u8))]) h25 ?_ ?_ ?_ ?_ ?_
          · rintro ⟨l14, v15⟩ y17 H
            refine T.seq ?_
            refine T.region ?_
            refine TL.st rfl rfl rfl (o_ari rfl rfl rfl rfl) ?_
            refine TL.nil ?_
            refine thn_normal ?_
            refine T.seq ?_
            refine T.cond (decide (v15 < 4)) rfl (fun h => ?_) (fun h => ?_)
            · replace H := cond_t h H
              refine T.skip ?_
              refine thn_normal ?_
              refine T.seq ?_
              refine T.block ?_
              refine T.seq ?_
              refine T.region ?_
              obtain ⟨e18, h19, H⟩ := bind_s H
              refine TL.st rfl rfl rfl (o_ixV (f := V.int .i64) (xs := b11) rfl rfl tyS_3 rfl rfl h19) ?_
              refine TL.st rfl rfl rfl (o_assign rfl rfl) ?_
              refine TL.nil ?_
              refine thn_normal ?_
              refine T.region ?_
              refine TL.st rfl rfl rfl (o_move rfl rfl) ?_
              refine TL.st rfl rfl rfl (o_move rfl rfl) ?_
              obtain ⟨r20, h21, H⟩ := bind_s H
              refine TL.st rfl rfl rfl (o_callP rfl en_17 rfl rfl (.cons _ _ _ _ (.cl _ rfl) .nil) (impl_ybytes_p  h21)) ?_
              obtain ⟨l22, h23, H⟩ := bind_s H
              refine TL.st rfl rfl rfl (o_ap (f := c_int .u8) (xs := l14) (ys := r20) rfl rfl tyE_5 rfl rfl rfl rfl (by decide) rfl (fun _ => rfl) h23) ?_
              refine TL.st rfl rfl rfl (o_assign rfl rfl) ?_
              refine TL.nil ?_
              refine inB_normal ?_
              refine thn_normal ?_
              refine T.region ?_
              refine TL.st rfl rfl rfl (o_ari rfl rfl rfl rfl) ?_
              refine TL.st rfl rfl rfl (o_move rfl rfl) ?_
              refine TL.nil ?_
              exact Pk.go (fr' := [(10, .hd 2 (l22.map (c_int .u8)).length 0 (l22.map (c_int .u8)).length), (46, .agg (b11.map (V.int .i64))), (47, .int .i64 (IntKind.i64.wrap (v15 + 1)))]) (σ' := [.box (b11.map (V.int .i64)), .box (([1103515245, 69069, 1664525, 22695477] : List Int).map (V.int .i64)), .arr .clo 1 (l22.map (c_int .u8))]) _ rfl rfl ⟨(belA fun _ => rfl), ⟨(belA fun _ => rfl), ⟨trivial, trivial⟩⟩⟩ (.cons 10 _ (.hd 2 (l22.map (c_int .u8)).length 0 (l22.map (c_int .u8)).length) _ rfl (.same _) rfl (.cons 46 _ (.agg (b11.map (V.int .i64))) _ rfl (.same _) (belAg fun _ => rfl) (.cons 47 _ (.int .i64 (IntKind.i64.wrap (v15 + 1))) _ rfl (.same _) rfl .nil))) (thn_normal ⟨(l22, (IntKind.i64.wrap (v15 + 1))), (some_i H).symm, rfl, rfl⟩)
            · replace H := cond_f h H
              refine T.exit ?_
              refine thn_exit ?_
              exact Pk.go (fr' := [(10, .hd 2 (l14.map (c_int .u8)).length 0 (l14.map (c_int .u8)).length)]) (σ' := [.box (b11.map (V.int .i64)), .box (([1103515245, 69069, 1664525, 22695477] : List Int).map (V.int .i64)), .arr .clo 1 (l14.map (c_int .u8))]) _ rfl rfl ⟨(belA fun _ => rfl), ⟨(belA fun _ => rfl), ⟨trivial, trivial⟩⟩⟩ (.cons 10 _ (.hd 2 (l14.map (c_int .u8)).length 0 (l14.map (c_int .u8)).length) _ rfl (.same _) rfl .nil) (thn_exit ⟨l14, (some_i H).symm, rfl, rfl, rfl⟩)
          · rintro ⟨l14, v15⟩ ⟨l14', v15'⟩; rfl
          · rintro ⟨l14, v15⟩; exact ⟨(belA fun _ => rfl), ⟨(belA fun _ => rfl), ⟨trivial, trivial⟩⟩⟩
          · rintro ⟨l14, v15⟩; exact (.cons _ _ _ rfl rfl (.cons _ _ _ rfl (belAg fun _ => rfl) (.cons _ _ _ rfl rfl .nil)))
          · rintro _ _ _ ⟨rfl, rfl, rfl⟩
            refine inB_here ?_
            refine thn_normal ?_
            refine T.seq ?_
            refine T.region ?_
            refine TL.st rfl rfl rfl (o_move rfl rfl) ?_
            refine TL.st rfl rfl rfl (o_assign rfl rfl) ?_
            refine TL.nil ?_
            refine thn_normal ?_
            refine T.conv (Cs.wkF (M := 3) (.cons 2 _ (.hd 2 (l16.map (c_int .u8)).length 0 (l16.map (c_int .u8)).length) _ rfl (.same _) rfl .nil)) ?_
            refine T.conv (Cs.reloc 0 2 rfl rfl (by decide) rfl rfl rfl (nomS_get rfl)) ?_
            refine T.ret ?_
            cases some_i H
            exact ⟨trivial, _, (.tmp _ _ _ _ rfl .nil), ⟨rfl, _, rfl⟩⟩
noncomputable def impl_Mac (a0 : (List Int)) (a1 : (List Int)) : Option (List Int) :=
  cond (decide ((a0.length : Int) > 20000) || decide ((a1.length : Int) > 20000)) (some ([] : List Int)) ((impl_Digest a0).bind fun r1 => (impl_Digest a1).bind fun r3 => (app r1 r3).bind fun l5 => (impl_Digest l5).bind fun r7 => some r7)
theorem impl_Mac_p (b0 : Bool) (b1 : Bool) {a0 : (List Int)} {a1 : (List Int)} {R0 : (List Int)} (H : impl_Mac a0 a1 = some R0) : Pure Go.Proofs.Tryd.prog 16 [.im b0 (a0.map (c_int .u8)), .im b1 (a1.map (c_int .u8))] (.im false (R0.map (c_int .u8))) := by
  refine CallT.of_TN (n := 19) Go.Proofs.Tryd.func16 rfl rfl rfl rfl ?_
  refine T.seq ?_
  refine T.region ?_
  refine TL.st rfl rfl rfl (o_assign rfl rfl) ?_
  refine TL.nil ?_
  refine thn_normal ?_
  refine T.seq ?_
  refine T.seq ?_
  refine T.region ?_
  refine TL.st rfl rfl rfl (o_move rfl rfl) ?_
  refine TL.st rfl rfl rfl (o_lenL (f := c_int .u8) rfl rfl rfl) ?_
  refine TL.st rfl rfl rfl (o_ari rfl rfl rfl rfl) ?_
  refine TL.st rfl rfl rfl (o_move rfl rfl) ?_
  refine TL.gcq rfl rfl rfl (.bool _) rfl rfl (fun h => o_move rfl rfl) ?_
  refine TL.gcq rfl rfl rfl (.bool _) rfl rfl (fun h => o_lenL (f := c_int .u8) rfl rfl (gv h rfl)) ?_
  refine TL.gcq rfl rfl rfl (.bool _) rfl rfl (fun h => o_ari rfl (gv h rfl) rfl rfl) ?_
  refine TL.st rfl rfl rfl (o_or rfl rfl rfl rfl (fun k => Gd_t k)) ?_
  refine TL.nil ?_
  refine thn_normal ?_
  refine T.cond ((decide ((a0.length : Int) > 20000) || decide ((a1.length : Int) > 20000))) rfl (fun h => ?_) (fun h => ?_)
  · replace H := cond_t h H
    refine T.seq ?_
    refine T.region ?_
    refine TL.st rfl rfl rfl (o_assign rfl rfl) ?_
    refine TL.nil ?_
    refine thn_normal ?_
    refine T.ret ?_
    refine thn_ret ?_
    cases some_i H
    exact ⟨trivial, _, (.tmp _ _ _ _ rfl .nil), .nil⟩
  · replace H := cond_f h H
    refine T.skip ?_
    refine thn_normal ?_
    refine T.seq ?_
    refine T.region ?_
    refine TL.st rfl rfl rfl (o_move rfl rfl) ?_
    obtain ⟨r1, h2, H⟩ := bind_s H
    refine TL.st rfl rfl rfl (o_callOwn rfl en_31 rfl rfl (.cons _ _ _ _ (.imv _ _) .nil) (impl_Digest_o b0 h2)) ?_
    refine TL.st rfl rfl rfl (o_move rfl rfl) ?_
    obtain ⟨r3, h4, H⟩ := bind_s H
    refine TL.st rfl rfl rfl (o_callP rfl en_31 rfl rfl (.cons _ _ _ _ (.imv _ _) .nil) (impl_Digest_p b1 h4)) ?_
    obtain ⟨l5, h6, H⟩ := bind_s H
    refine TL.st rfl rfl rfl (o_ap (f := c_int .u8) (xs := r1) (ys := r3) rfl rfl tyE_5 rfl rfl rfl rfl (by decide) rfl (fun _ => rfl) h6) ?_
    obtain ⟨r7, h8, H⟩ := bind_s H
    refine TL.st rfl rfl rfl (o_callP rfl en_31 rfl rfl (.cons _ _ _ _ (.own rfl (by decide) rfl) .nil) (impl_Digest_p true h8)) ?_
    refine TL.st rfl rfl rfl (o_assign rfl rfl) ?_
    refine TL.nil ?_
    refine thn_normal ?_
    refine T.ret ?_
    cases some_i H
    exact ⟨trivial, _, (.tmp _ _ _ _ rfl .nil), (.cl _ rfl)⟩
theorem en_16 (us : Array Value) (w : World) : (callFunc 16 us).run Go.Proofs.Tryd.prog w = .ok (.enter 16 us) w := enters Go.Proofs.Tryd.func16 rfl rfl us w
theorem en_41 (us : Array Value) (w : World) : (callFunc 41 us).run Go.Proofs.Tryd.prog w = .ok (.enter 41 us) w := enters Go.Proofs.Tryd.func41 rfl rfl us w
noncomputable def strings_Builder_WriteByte (a0 : Int) (s0 : T_strings_Builder) : Option (Unit × T_strings_Builder) :=
  (ccO (⟨(), s0.buf_⟩ : T_strings_Builder).buf_).bind fun u1 => (app s0.buf_ ([a0] : List Int)).bind fun l3 => some ((), (⟨(), l3⟩ : T_strings_Builder))
theorem strings_Builder_WriteByte_p  {a0 : Int} {s0 : T_strings_Builder} {R0 : Unit} {U0 : T_strings_Builder} (H : strings_Builder_WriteByte a0 s0 = some (R0, U0)) : St Go.Proofs.Tryd.prog 29 [.bx 0 0, .int .u8 a0] [.box [.px 0 51 1 0, .hd 1 (s0.buf_.map (c_int .u8)).length 0 (s0.buf_.map (c_int .u8)).length], .arr (.tg 5) 1 (s0.buf_.map (c_int .u8))] (.nilI) [.box [.px 0 51 1 0, .hd 2 (U0.buf_.map (c_int .u8)).length 0 (U0.buf_.map (c_int .u8)).length], .dead, .arr (.tg 5) 1 (U0.buf_.map (c_int .u8))] := by
  refine CallT.fin (CallT.of_TN (n := 17) Go.Proofs.Tryd.func29 rfl rfl rfl rfl ?_) rfl rfl ⟨(bels_iff.1 rfl), ⟨trivial, ⟨trivial, trivial⟩⟩⟩
  refine T.conv (Cs.fresh 1 rfl rfl (by decide) rfl (nomS_all rfl rfl)) ?_
  refine T.conv (Cs.wkF (M := 3) (.cons 0 _ (.bx 0 0) _ rfl (.same _) rfl (.cons 1 _ (.int .u8 a0) _ rfl (.same _) rfl .nil))) ?_
  refine T.conv (Cs.eqS (σ' := [.box [.px 0 51 1 0, .hd 2 (s0.buf_.map (c_int .u8)).length 0 (s0.buf_.map (c_int .u8)).length], .dead, .arr (.tg 5) 1 (s0.buf_.map (c_int .u8))]) rfl) ?_
  refine T.seq ?_
  refine T.region ?_
  refine TL.st rfl rfl rfl (o_assign rfl rfl) ?_
  refine TL.nil ?_
  refine thn_normal ?_
  refine T.seq ?_
  refine T.region ?_
  refine TL.st rfl rfl rfl (o_move rfl rfl) ?_
  obtain ⟨u1, h2, H⟩ := bind_s H
  refine TL.st rfl rfl rfl (o_callS [0, 2] rfl en_41 rfl rfl (RV.lib_41  h2) rfl (by decide) (.cons _ _ _ _ rfl (.cons _ _ _ _ rfl .nil)) rfl rfl rfl) ?_
  refine TL.nil ?_
  refine thn_normal ?_
  refine T.seq ?_
  refine T.region ?_
  refine TL.st rfl rfl rfl (o_move rfl rfl) ?_
  refine TL.st rfl rfl rfl (o_move rfl rfl) ?_
  refine TL.st rfl rfl rfl (o_nilCheck rfl rfl rfl) ?_
  refine TL.st rfl rfl rfl (o_fieldAddr rfl rfl rfl tyS_22 (by decide) rfl rfl ⟨_, rfl, Nat.le_of_ble_eq_true rfl⟩) ?_
  refine TL.st rfl rfl rfl (o_loadBx rfl tyS_22 rfl rfl (Nat.le_of_ble_eq_true rfl) rfl) ?_
  refine TL.st rfl rfl rfl (o_move rfl rfl) ?_
  refine TL.st rfl rfl rfl (o_sliceIm rfl rfl tyS_5 ⟨_, rfl, rfl⟩ (by decide) rfl rfl rfl rfl rfl rfl) ?_
  obtain ⟨l3, h4, H⟩ := bind_s H
  refine TL.st rfl rfl rfl (o_ap (f := c_int .u8) (xs := s0.buf_) (ys := ([a0] : List Int)) rfl rfl tyE_5 rfl rfl rfl rfl (by decide) rfl (fun _ => rfl) h4) ?_
  refine TL.st rfl rfl rfl (o_nilCheck rfl rfl rfl) ?_
  refine TL.st rfl rfl rfl (o_fieldAddr rfl rfl rfl tyS_22 (by decide) rfl rfl ⟨_, rfl, Nat.le_of_ble_eq_true rfl⟩) ?_
  refine TL.sn rfl rfl (o_storeBx rfl tyS_22 rfl rfl rfl rfl (Nat.le_of_ble_eq_true rfl) (sure_hd rfl rfl rfl)) ?_
  refine TL.nil ?_
  refine thn_normal ?_
  refine T.seq ?_
  refine T.region ?_
  refine TL.st rfl rfl rfl (o_assign rfl rfl) ?_
  refine TL.nil ?_
  refine thn_normal ?_
  refine T.ret ?_
  cases some_i H
  exact ⟨trivial, _, (.tmp _ _ _ _ rfl .nil), ⟨rfl, _, rfl⟩⟩
theorem en_29 (us : Array Value) (w : World) : (callFunc 29 us).run Go.Proofs.Tryd.prog w = .ok (.enter 29 us) w := enters Go.Proofs.Tryd.func29 rfl rfl us w
noncomputable def strings_Builder_String (s0 : T_strings_Builder) : Option ByteArray :=
  some (byS s0.buf_)
theorem strings_Builder_String_p  {s0 : T_strings_Builder} {R0 : ByteArray} (H : strings_Builder_String s0 = some R0) : St Go.Proofs.Tryd.prog 30 [.bx 0 0] [.box [.px 0 51 1 0, .hd 1 (s0.buf_.map (c_int .u8)).length 0 (s0.buf_.map (c_int .u8)).length], .arr (.tg 5) 1 (s0.buf_.map (c_int .u8))] (.str R0) [.box [.px 0 51 1 0, .hd 2 (s0.buf_.map (c_int .u8)).length 0 (s0.buf_.map (c_int .u8)).length], .dead, .dead] := by
  refine CallT.fin (CallT.of_TN (n := 14) Go.Proofs.Tryd.func30 rfl rfl rfl rfl ?_) rfl rfl ⟨(bels_iff.1 rfl), ⟨trivial, ⟨trivial, trivial⟩⟩⟩
  refine T.conv (Cs.fresh 1 rfl rfl (by decide) rfl (nomS_all rfl rfl)) ?_
  refine T.conv (Cs.wkF (M := 3) (.cons 0 _ (.bx 0 0) _ rfl (.same _) rfl .nil)) ?_
  refine T.conv (Cs.eqS (σ' := [.box [.px 0 51 1 0, .hd 2 (s0.buf_.map (c_int .u8)).length 0 (s0.buf_.map (c_int .u8)).length], .dead, .arr (.tg 5) 1 (s0.buf_.map (c_int .u8))]) rfl) ?_
  refine T.seq ?_
  refine T.region ?_
  refine TL.st rfl rfl rfl (o_assign rfl rfl) ?_
  refine TL.nil ?_
  refine thn_normal ?_
  refine T.seq ?_
  refine T.drawn rfl ?_
  refine TD.qs rfl rfl (fun _ => o_move rfl rfl) ?_
  refine TD.qs rfl rfl (fun _ => o_nilCheck rfl rfl rfl) ?_
  refine TD.rs rfl rfl (o_fieldAddr rfl rfl rfl tyS_22 (by decide) rfl rfl ⟨_, rfl, Nat.le_of_ble_eq_true rfl⟩) ?_
  refine TD.rs rfl rfl (o_loadBx rfl tyS_22 rfl rfl (Nat.le_of_ble_eq_true rfl) rfl) ?_
  refine TD.rs rfl rfl (o_sliceData rfl rfl rfl rfl rfl) ?_
  refine TD.qs rfl rfl (fun _ => o_move rfl rfl) ?_
  refine TD.qs rfl rfl (fun _ => o_nilCheck rfl rfl rfl) ?_
  refine TD.rs rfl rfl (o_fieldAddr rfl rfl rfl tyS_22 (by decide) rfl rfl ⟨_, rfl, Nat.le_of_ble_eq_true rfl⟩) ?_
  refine TD.rs rfl rfl (o_loadBx rfl tyS_22 rfl rfl (Nat.le_of_ble_eq_true rfl) rfl) ?_
  refine TD.rs rfl rfl (o_lenOwn (f := c_int .u8) rfl rfl rfl rfl rfl) ?_
  refine TD.as rfl rfl (o_unsafeString (f := c_int .u8) (ns := s0.buf_) rfl rfl rfl (fun _ => rfl) rfl rfl rfl) ?_
  refine TD.qs rfl rfl (fun _ => o_assign rfl rfl) ?_
  refine TD.nil ⟨rfl, ?_⟩
  refine thn_normal ?_
  refine T.ret ?_
  cases some_i H
  exact ⟨trivial, _, (.tmp _ _ _ _ rfl .nil), ⟨rfl, _, rfl⟩⟩
theorem en_30 (us : Array Value) (w : World) : (callFunc 30 us).run Go.Proofs.Tryd.prog w = .ok (.enter 30 us) w := enters Go.Proofs.Tryd.func30 rfl rfl us w
noncomputable def impl_Armor_l2 (v2 : Int) (e20 : Int) : (T_strings_Builder × Int) → Option ((T_strings_Builder × Int) ⊕ (T_strings_Builder × Int)) := fun s => match s with
  | (b22, v23) => cond (decide (v23 ≥ 5)) ((nn (IntKind.i64.wrap (v23 - 5))).bind fun u29 => (idxS (ByteArray.mk #[48, 49, 50, 51, 52, 53, 54, 55, 56, 57, 97, 98, 99, 100, 101, 102, 103, 104, 105, 106, 107, 108, 109, 110, 111, 112, 113, 114, 115, 116, 117, 118]) (IntKind.i64.wrap (BitVec.ofInt IntKind.i64.bits (Int.fdiv (IntKind.i64.wrap (BitVec.ofInt IntKind.i64.bits (IntKind.i64.wrap (v2 * 2 ^ (min (Int.toNat 8) IntKind.i64.bits))) ||| BitVec.ofInt IntKind.i64.bits (IntKind.i64.wrap e20)).toNat) (2 ^ (min (Int.toNat (IntKind.i64.wrap (v23 - 5))) IntKind.i64.bits))) &&& BitVec.ofInt IntKind.i64.bits 31).toNat)).bind fun b31 => (strings_Builder_WriteByte b31 (⟨(), b22.buf_⟩ : T_strings_Builder)).bind fun q => (match q with | (r33, o34) => some (.inl ((⟨(), o34.buf_⟩ : T_strings_Builder), (IntKind.i64.wrap (v23 - 5)))))) (some (.inr ((⟨(), b22.buf_⟩ : T_strings_Builder), v23)))
noncomputable def impl_Armor_l1 (a0 : (List Int)) : (T_strings_Builder × Int × Int × Int) → Option ((T_strings_Builder × Int × Int × Int) ⊕ (T_strings_Builder × Int × Int)) := fun s => match s with
  | (b1, v2, v3, v4) => cond (decide (v4 < (a0.length : Int))) ((idx a0 v4).bind fun e20 => (loopO (impl_Armor_l2 v2 e20) ((⟨(), b1.buf_⟩ : T_strings_Builder), (IntKind.i64.wrap (v3 + 8)))).bind fun q36 => (match q36 with | (b24, v25) => (nn v25).bind fun u26 => some (.inl ((⟨(), b24.buf_⟩ : T_strings_Builder), (IntKind.i64.wrap (BitVec.ofInt IntKind.i64.bits (IntKind.i64.wrap (BitVec.ofInt IntKind.i64.bits (IntKind.i64.wrap (v2 * 2 ^ (min (Int.toNat 8) IntKind.i64.bits))) ||| BitVec.ofInt IntKind.i64.bits (IntKind.i64.wrap e20)).toNat) &&& BitVec.ofInt IntKind.i64.bits (IntKind.i64.wrap ((IntKind.i64.wrap (1 * 2 ^ (min (Int.toNat v25) IntKind.i64.bits))) - 1))).toNat), v25, (IntKind.i64.wrap (v4 + 1)))))) (some (.inr ((⟨(), b1.buf_⟩ : T_strings_Builder), v2, v3)))
end Go.G36.RV1
