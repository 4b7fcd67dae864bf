import Derived.Test.YtnndbiialpaccaaGreatDoorProg
import Derived.Test.YtnndbiialpaccaaGreatDoorKzg
set_option linter.all false
set_option maxRecDepth 20000
set_option maxHeartbeats 4000000
namespace Go.G36.ZL
open Go Go.Proofs

def c_int (k : IntKind) (x : Int) : List V := [.int k x]
def c_bool (x : Bool) : List V := [.bool x]
def c_str (x : ByteArray) : List V := [.str x]
def c_raw (x : List V) : List V := x
theorem map_raw (x : List (List V)) : x.map c_raw = x := by
  induction x with
  | nil => rfl
  | cons a l ih => simp [ih, c_raw]
def c_sl {α : Type} (f : α → List V) (x : List α) : List V := [.im false (x.map f)]

structure T_impl_Atom where
  Kind_ : Int
  Num_ : Int
  Text_ : ByteArray
  Type_ : ByteArray
deriving Inhabited
@[reducible] instance : BEq T_impl_Atom := ⟨fun a b => ((a.Kind_ == b.Kind_) && ((a.Num_ == b.Num_) && ((a.Text_.toList == b.Text_.toList) && ((a.Type_.toList == b.Type_.toList) && true))))⟩
def c_T_impl_Atom (b : Bool) (x : T_impl_Atom) : List V := [.int .i64 x.Kind_, .int .i64 x.Num_, .str x.Text_, .str x.Type_]
structure T_impl_Head where
  Kind_ : Int
  Atom_ : T_impl_Atom
  Type_ : ByteArray
deriving Inhabited
@[reducible] instance : BEq T_impl_Head := ⟨fun a b => ((a.Kind_ == b.Kind_) && ((a.Atom_ == b.Atom_) && ((a.Type_.toList == b.Type_.toList) && true)))⟩
def c_T_impl_Head (b : Bool) (x : T_impl_Head) : List V := ([.int .i64 x.Kind_] ++ (c_T_impl_Atom b x.Atom_) ++ [.str x.Type_])
structure T_impl_Expr where
  Kind_ : Int
  Text_ : ByteArray
  Atom_ : T_impl_Atom
  Kids_ : Int
deriving Inhabited
@[reducible] instance : BEq T_impl_Expr := ⟨fun a b => ((a.Kind_ == b.Kind_) && ((a.Text_.toList == b.Text_.toList) && ((a.Atom_ == b.Atom_) && ((a.Kids_ == b.Kids_) && true))))⟩
def c_T_impl_Expr (b : Bool) (x : T_impl_Expr) : List V := ([.int .i64 x.Kind_, .str x.Text_] ++ (c_T_impl_Atom b x.Atom_) ++ [.int .i64 x.Kids_])
structure T_impl_Policy where
  Id_ : ByteArray
  Permit_ : Bool
  Principal_ : T_impl_Head
  Action_ : T_impl_Head
  Resource_ : T_impl_Head
  When_ : (List T_impl_Expr)
deriving Inhabited
def c_T_impl_Policy (b : Bool) (x : T_impl_Policy) : List V := ([.str x.Id_, .bool x.Permit_] ++ (c_T_impl_Head b x.Principal_) ++ (c_T_impl_Head b x.Action_) ++ (c_T_impl_Head b x.Resource_) ++ [.im b (x.When_.map (c_T_impl_Expr false))])
structure T_spec_l1Cur where
  code_ : (List Int)
  at_ : Int
  seed_ : Int
deriving Inhabited
def c_T_spec_l1Cur (b : Bool) (x : T_spec_l1Cur) : List V := [.im b (x.code_.map (c_int .u8)), .int .i64 x.at_, .int .u64 x.seed_]
structure T_spec_l10E where
  n_ : T_impl_Expr
  kids_ : (List (List V))
deriving Inhabited
def c_T_spec_l10E (b : Bool) (x : T_spec_l10E) : List V := ((c_T_impl_Expr b x.n_) ++ [.im b (x.kids_.map (c_raw))])
def dec_T_spec_l10E : List V → Option T_spec_l10E
  | [.int .i64 y2, .str y3, .int .i64 y5, .int .i64 y6, .str y7, .str y8, .int .i64 y9, .im false y10] => some ⟨(⟨y2, y3, (⟨y5, y6, y7, y8⟩ : T_impl_Atom), y9⟩ : T_impl_Expr), y10⟩
  | _ => none
theorem dec_T_spec_l10E_s {r : List V} {x : T_spec_l10E} (h : dec_T_spec_l10E r = some x) : c_raw r = c_T_spec_l10E false x := by
  unfold dec_T_spec_l10E at h
  split at h
  · injection h with h; subst h; simp [c_raw, c_T_spec_l10E, map_raw, c_T_impl_Expr, c_T_impl_Atom]
  · cases h
structure T_impl_Value where
  Kind_ : Int
  Atom_ : T_impl_Atom
  Items_ : (List T_impl_Atom)
  Names_ : (List ByteArray)
deriving Inhabited
def c_T_impl_Value (b : Bool) (x : T_impl_Value) : List V := ([.int .i64 x.Kind_] ++ (c_T_impl_Atom b x.Atom_) ++ [.im b (x.Items_.map (c_T_impl_Atom false)), .im b (x.Names_.map (c_str))])
structure T_impl_Thing where
  Ref_ : T_impl_Atom
  Parents_ : (List T_impl_Atom)
  Names_ : (List ByteArray)
  Values_ : (List T_impl_Value)
deriving Inhabited
def c_T_impl_Thing (b : Bool) (x : T_impl_Thing) : List V := ((c_T_impl_Atom b x.Ref_) ++ [.im b (x.Parents_.map (c_T_impl_Atom false)), .im b (x.Names_.map (c_str)), .im b (x.Values_.map (c_T_impl_Value false))])
def gv_0 : (List ByteArray) := [ByteArray.mk #[112, 114, 105, 110, 99, 105, 112, 97, 108], ByteArray.mk #[97, 99, 116, 105, 111, 110], ByteArray.mk #[114, 101, 115, 111, 117, 114, 99, 101], ByteArray.mk #[99, 111, 110, 116, 101, 120, 116]]
@[reducible] instance genvI : Genv := ⟨fun g => match g with | 0 => some [.im false (gv_0.map (c_str))] | _ => none⟩

theorem tyS_3 : TyS Go.Proofs.Tryz.prog 3 false 1 := ⟨rfl, rfl⟩
theorem tyS_22 : TyS Go.Proofs.Tryz.prog 22 false 1 := ⟨rfl, rfl⟩
theorem tyS_5 : TyS Go.Proofs.Tryz.prog 5 false 1 := ⟨rfl, rfl⟩
theorem tyS_41 : TyS Go.Proofs.Tryz.prog 41 false 1 := ⟨rfl, rfl⟩
noncomputable def spec_l1Cur_next_j1 (s0 : T_spec_l1Cur) (v1 : Int) : Option (Int × T_spec_l1Cur) :=
  cond (decide ((IntKind.i64.wrap (s0.at_ + 1)) ≤ (s0.code_.length : Int))) (some (v1, (⟨s0.code_, (IntKind.i64.wrap (s0.at_ + 1)), (IntKind.u64.wrap ((IntKind.u64.wrap ((IntKind.u64.wrap (s0.seed_ * 6364136223846793005)) + (IntKind.u64.wrap v1))) + 1442695040888963407))⟩ : T_spec_l1Cur))) (some ((IntKind.i64.wrap (IntKind.u64.wrap (BitVec.ofInt IntKind.u64.bits (Int.fdiv (IntKind.u64.wrap ((IntKind.u64.wrap ((IntKind.u64.wrap (s0.seed_ * 6364136223846793005)) + (IntKind.u64.wrap v1))) + 1442695040888963407)) (2 ^ (min (Int.toNat 40) IntKind.u64.bits))) &&& BitVec.ofInt IntKind.u64.bits 255).toNat)), (⟨s0.code_, (IntKind.i64.wrap (s0.at_ + 1)), (IntKind.u64.wrap ((IntKind.u64.wrap ((IntKind.u64.wrap (s0.seed_ * 6364136223846793005)) + (IntKind.u64.wrap v1))) + 1442695040888963407))⟩ : T_spec_l1Cur)))
noncomputable def spec_l1Cur_next (s0 : T_spec_l1Cur) : Option (Int × T_spec_l1Cur) :=
  cond (decide (s0.at_ < (s0.code_.length : Int))) ((idx s0.code_ s0.at_).bind fun e2 => spec_l1Cur_next_j1 s0 (IntKind.i64.wrap e2)) (spec_l1Cur_next_j1 s0 0)
theorem spec_l1Cur_next_p (c0 : Bool) {s0 : T_spec_l1Cur} {R0 : Int} {U0 : T_spec_l1Cur} (H : spec_l1Cur_next s0 = some (R0, U0)) : St Go.Proofs.Tryz.prog 39 [.bx 0 0] [.box (c_T_spec_l1Cur c0 s0)] (.int .i64 R0) [.box (c_T_spec_l1Cur c0 U0)] := by
 refine CallT.fin (CallT.of_TN (n := 62) Go.Proofs.Tryz.func39 rfl rfl rfl rfl ?_) rfl rfl ⟨(bels_iff.1 rfl), trivial⟩
 refine T.seq (T.region (TL.st rfl rfl rfl (o_assign rfl rfl) (TL.nil (thn_normal (T.seq (T.region (TL.st rfl rfl rfl (o_assign rfl rfl) (TL.nil (thn_normal (T.cut (fun fr' σ' => ∃ (v1 : Int), fr' = [(0, .bx 0 0), (3, .int .i64 v1)] ∧ σ' = [.box (c_T_spec_l1Cur c0 s0)] ∧ spec_l1Cur_next_j1 s0 v1 = some (R0, U0)) (T.pk ?_) ?_))))))))))
 ·skip
  refine T.seq (T.drawn rfl ?_)
  refine TD.qs rfl rfl (fun _ => o_move rfl rfl) (TD.qs rfl rfl (fun _ => o_nilCheck rfl rfl rfl) (TD.rs rfl rfl (o_fieldAddr rfl rfl rfl tyS_3 (by decide) rfl rfl ⟨_, rfl, Nat.le_of_ble_eq_true rfl⟩) ?_))
  refine TD.rs rfl rfl (o_loadBx rfl tyS_3 rfl rfl (Nat.le_of_ble_eq_true rfl) rfl) ?_
  refine TD.qs rfl rfl (fun _ => o_move rfl rfl) (TD.qs rfl rfl (fun _ => o_nilCheck rfl rfl rfl) (TD.rs rfl rfl (o_fieldAddr rfl rfl rfl tyS_22 (by decide) rfl rfl ⟨_, rfl, Nat.le_of_ble_eq_true rfl⟩) ?_))
  refine TD.rs rfl rfl (o_loadBx rfl tyS_22 rfl rfl (Nat.le_of_ble_eq_true rfl) rfl) ?_
  refine TD.qs rfl rfl (fun _ => o_lenL (f := c_int .u8) rfl rfl rfl) ?_
  refine TD.qs rfl rfl (fun _ => o_ari rfl rfl rfl rfl) ?_
  refine TD.nil ⟨rfl, ?_⟩
  refine thn_normal ?_
  refine T.cond (decide (s0.at_ < (s0.code_.length : Int))) rfl (fun h => ?_) (fun h => ?_)
  ·replace H := cond_t h H
   refine T.drawn rfl ?_
   refine TD.qs rfl rfl (fun _ => o_move rfl rfl) (TD.qs rfl rfl (fun _ => o_nilCheck rfl rfl rfl) (TD.rs rfl rfl (o_fieldAddr rfl rfl rfl tyS_22 (by decide) rfl rfl ⟨_, rfl, Nat.le_of_ble_eq_true rfl⟩) ?_))
   refine TD.rs rfl rfl (o_loadBx rfl tyS_22 rfl rfl (Nat.le_of_ble_eq_true rfl) rfl) ?_
   refine TD.qs rfl rfl (fun _ => o_move rfl rfl) (TD.qs rfl rfl (fun _ => o_nilCheck rfl rfl rfl) (TD.rs rfl rfl (o_fieldAddr rfl rfl rfl tyS_3 (by decide) rfl rfl ⟨_, rfl, Nat.le_of_ble_eq_true rfl⟩) ?_))
   refine TD.rs rfl rfl (o_loadBx rfl tyS_3 rfl rfl (Nat.le_of_ble_eq_true rfl) rfl) ?_
   obtain ⟨e2, h3, H⟩ := bind_s H
   refine TD.qs rfl rfl (fun _ => o_ix (f := c_int .u8) rfl rfl tyS_5 rfl rfl h3 rfl) ?_
   refine TD.qs rfl rfl (fun _ => o_loadRf rfl tyS_5 rfl (Nat.le_of_ble_eq_true rfl) rfl) ?_
   refine TD.qs rfl rfl (fun _ => o_conv rfl rfl ⟨_, rfl⟩ rfl) ?_
   refine TD.qs rfl rfl (fun _ => o_assign rfl rfl) ?_
   refine TD.nil ⟨rfl, ?_⟩
   exact Pk.go (fr' := [(0, .bx 0 0), (3, .int .i64 (IntKind.i64.wrap e2))]) (σ' := [.box (c_T_spec_l1Cur c0 s0)]) _ rfl rfl ⟨(bels_iff.1 rfl), trivial⟩ (.cons 0 _ (.bx 0 0) _ rfl (.same _) rfl (.cons 3 _ (.int .i64 (IntKind.i64.wrap e2)) _ rfl (.same _) rfl .nil)) (thn_normal ⟨(IntKind.i64.wrap e2), rfl, rfl, H⟩)
  ·replace H := cond_f h H
   refine T.skip ?_
   exact Pk.go (fr' := [(0, .bx 0 0), (3, .int .i64 0)]) (σ' := [.box (c_T_spec_l1Cur c0 s0)]) _ rfl rfl ⟨(bels_iff.1 rfl), trivial⟩ (.cons 0 _ (.bx 0 0) _ rfl (.same _) rfl (.cons 3 _ (.int .i64 0) _ rfl (.same _) rfl .nil)) (thn_normal ⟨0, rfl, rfl, H⟩)
 ·rintro _ _ ⟨v1, rfl, rfl, H⟩
  refine T.seq (T.region (TL.st rfl rfl rfl (o_move rfl rfl) (TL.st rfl rfl rfl (o_nilCheck rfl rfl rfl) (TL.st rfl rfl rfl (o_fieldAddr rfl rfl rfl tyS_3 (by decide) rfl rfl ⟨_, rfl, Nat.le_of_ble_eq_true rfl⟩) ?_))))
  refine TL.st rfl rfl rfl (o_loadBx rfl tyS_3 rfl rfl (Nat.le_of_ble_eq_true rfl) rfl) ?_
  refine TL.st rfl rfl rfl (o_ari rfl rfl rfl rfl) (TL.st rfl rfl rfl (o_nilCheck rfl rfl rfl) (TL.st rfl rfl rfl (o_fieldAddr rfl rfl rfl tyS_3 (by decide) rfl rfl ⟨_, rfl, Nat.le_of_ble_eq_true rfl⟩) ?_))
  refine TL.sn rfl rfl (o_storeBx rfl tyS_3 rfl rfl rfl rfl (Nat.le_of_ble_eq_true rfl) rfl) ?_
  refine TL.nil (thn_normal (T.seq (T.region (TL.st rfl rfl rfl (o_move rfl rfl) (TL.st rfl rfl rfl (o_move rfl rfl) (TL.st rfl rfl rfl (o_nilCheck rfl rfl rfl) (TL.st rfl rfl rfl (o_fieldAddr rfl rfl rfl tyS_41 (by decide) rfl rfl ⟨_, rfl, Nat.le_of_ble_eq_true rfl⟩) ?_)))))))
  refine TL.st rfl rfl rfl (o_loadBx rfl tyS_41 rfl rfl (Nat.le_of_ble_eq_true rfl) rfl) ?_
  refine TL.st rfl rfl rfl (o_ari rfl rfl rfl rfl) (TL.st rfl rfl rfl (o_move rfl rfl) (TL.st rfl rfl rfl (o_conv rfl rfl ⟨_, rfl⟩ rfl) ?_))
  refine TL.st rfl rfl rfl (o_ari rfl rfl rfl rfl) (TL.st rfl rfl rfl (o_ari rfl rfl rfl rfl) (TL.st rfl rfl rfl (o_nilCheck rfl rfl rfl) (TL.st rfl rfl rfl (o_fieldAddr rfl rfl rfl tyS_41 (by decide) rfl rfl ⟨_, rfl, Nat.le_of_ble_eq_true rfl⟩) ?_)))
  refine TL.sn rfl rfl (o_storeBx rfl tyS_41 rfl rfl rfl rfl (Nat.le_of_ble_eq_true rfl) rfl) ?_
  refine TL.nil (thn_normal (T.seq (T.seq (T.drawn rfl ?_))))
  refine TD.qs rfl rfl (fun _ => o_move rfl rfl) (TD.qs rfl rfl (fun _ => o_nilCheck rfl rfl rfl) (TD.rs rfl rfl (o_fieldAddr rfl rfl rfl tyS_3 (by decide) rfl rfl ⟨_, rfl, Nat.le_of_ble_eq_true rfl⟩) ?_))
  refine TD.rs rfl rfl (o_loadBx rfl tyS_3 rfl rfl (Nat.le_of_ble_eq_true rfl) rfl) ?_
  refine TD.qs rfl rfl (fun _ => o_move rfl rfl) (TD.qs rfl rfl (fun _ => o_nilCheck rfl rfl rfl) (TD.rs rfl rfl (o_fieldAddr rfl rfl rfl tyS_22 (by decide) rfl rfl ⟨_, rfl, Nat.le_of_ble_eq_true rfl⟩) ?_))
  refine TD.rs rfl rfl (o_loadBx rfl tyS_22 rfl rfl (Nat.le_of_ble_eq_true rfl) rfl) ?_
  refine TD.qs rfl rfl (fun _ => o_lenL (f := c_int .u8) rfl rfl rfl) ?_
  refine TD.qs rfl rfl (fun _ => o_ari rfl rfl rfl rfl) ?_
  refine TD.nil ⟨rfl, ?_⟩
  refine thn_normal ?_
  refine T.cond (decide ((IntKind.i64.wrap (s0.at_ + 1)) ≤ (s0.code_.length : Int))) rfl (fun h => ?_) (fun h => ?_)
  ·replace H := cond_t h H
   refine T.seq (T.region (TL.st rfl rfl rfl (o_move rfl rfl) (TL.st rfl rfl rfl (o_assign rfl rfl) (TL.nil (thn_normal (T.ret (thn_ret ?_)))))))
   cases some_i H
   exact ⟨trivial, _, (.tmp _ _ _ _ rfl .nil), ⟨rfl, _, rfl⟩⟩
  ·replace H := cond_f h H
   refine T.skip (thn_normal (T.seq (T.region (TL.st rfl rfl rfl (o_move rfl rfl) (TL.st rfl rfl rfl (o_nilCheck rfl rfl rfl) (TL.st rfl rfl rfl (o_fieldAddr rfl rfl rfl tyS_41 (by decide) rfl rfl ⟨_, rfl, Nat.le_of_ble_eq_true rfl⟩) ?_))))))
   refine TL.st rfl rfl rfl (o_loadBx rfl tyS_41 rfl rfl (Nat.le_of_ble_eq_true rfl) rfl) ?_
   refine TL.st rfl rfl rfl (o_shr rfl rfl rfl (by decide)) ?_
   refine TL.st rfl rfl rfl (o_bits rfl rfl rfl rfl) ?_
   refine TL.st rfl rfl rfl (o_conv rfl rfl ⟨_, rfl⟩ rfl) ?_
   refine TL.st rfl rfl rfl (o_assign rfl rfl) (TL.nil (thn_normal (T.ret ?_)))
   cases some_i H
   exact ⟨trivial, _, (.tmp _ _ _ _ rfl .nil), ⟨rfl, _, rfl⟩⟩
theorem en_39 (us : Array Value) (w : World) : (callFunc 39 us).run Go.Proofs.Tryz.prog w = .ok (.enter 39 us) w := enters Go.Proofs.Tryz.func39 rfl rfl us w
noncomputable def spec_l1Cur_pick_j1 (a0 : Int) (b4 : T_spec_l1Cur) (v5 : Int) : Option (Int × T_spec_l1Cur) :=
  (nz a0).bind fun z6 => some ((Int.tmod v5 a0), b4)
noncomputable def spec_l1Cur_pick (a0 : Int) (s0 : T_spec_l1Cur) : Option (Int × T_spec_l1Cur) :=
  cond (decide (a0 ≤ 1)) (some (0, s0)) ((spec_l1Cur_next s0).bind fun q => (match q with | (r1, o2) => cond (decide (a0 > 200)) ((spec_l1Cur_next o2).bind fun q => (match q with | (r8, o9) => spec_l1Cur_pick_j1 a0 o9 (IntKind.i64.wrap ((IntKind.i64.wrap (r1 * 256)) + r8)))) (spec_l1Cur_pick_j1 a0 o2 r1)))
theorem spec_l1Cur_pick_p (c0 : Bool) {a0 : Int} {s0 : T_spec_l1Cur} {R0 : Int} {U0 : T_spec_l1Cur} (H : spec_l1Cur_pick a0 s0 = some (R0, U0)) : St Go.Proofs.Tryz.prog 14 [.bx 0 0, .int .i64 a0] [.box (c_T_spec_l1Cur c0 s0)] (.int .i64 R0) [.box (c_T_spec_l1Cur c0 U0)] := by
 refine CallT.fin (CallT.of_TN (n := 20) Go.Proofs.Tryz.func14 rfl rfl rfl rfl ?_) rfl rfl ⟨(bels_iff.1 rfl), trivial⟩
 refine T.seq (T.region (TL.st rfl rfl rfl (o_assign rfl rfl) (TL.nil (thn_normal (T.seq (T.seq (T.region (TL.st rfl rfl rfl (o_move rfl rfl) (TL.st rfl rfl rfl (o_ari rfl rfl rfl rfl) (TL.nil (thn_normal ?_)))))))))))
 refine T.cond (decide (a0 ≤ 1)) rfl (fun h => ?_) (fun h => ?_)
 ·replace H := cond_t h H
  refine T.seq (T.region (TL.st rfl rfl rfl (o_assign rfl rfl) (TL.nil (thn_normal (T.ret (thn_ret ?_))))))
  cases some_i H
  exact ⟨trivial, _, (.tmp _ _ _ _ rfl .nil), ⟨rfl, _, rfl⟩⟩
 ·replace H := cond_f h H
  refine T.skip (thn_normal (T.seq (T.region (TL.st rfl rfl rfl (o_move rfl rfl) ?_))))
  obtain ⟨⟨r1, o2⟩, h3, H⟩ := bind_s H
  refine TL.st rfl rfl rfl (o_callS [0] rfl en_39 rfl rfl (spec_l1Cur_next_p c0 h3) rfl (by decide) (.cons _ _ _ _ rfl .nil) rfl rfl rfl) ?_
  refine TL.st rfl rfl rfl (o_assign rfl rfl) (TL.nil (thn_normal (T.cut (fun fr' σ' => ∃ (b4 : T_spec_l1Cur) (v5 : Int), fr' = [(1, .int .i64 a0), (5, .int .i64 v5)] ∧ σ' = [.box (c_T_spec_l1Cur c0 b4)] ∧ spec_l1Cur_pick_j1 a0 b4 v5 = some (R0, U0)) (T.pk ?_) ?_)))
  ·skip
   refine T.seq (T.region (TL.st rfl rfl rfl (o_move rfl rfl) (TL.st rfl rfl rfl (o_ari rfl rfl rfl rfl) (TL.nil (thn_normal ?_)))))
   refine T.cond (decide (a0 > 200)) rfl (fun h => ?_) (fun h => ?_)
   ·replace H := cond_t h H
    refine T.region (TL.st rfl rfl rfl (o_move rfl rfl) (TL.st rfl rfl rfl (o_ari rfl rfl rfl rfl) (TL.st rfl rfl rfl (o_move rfl rfl) ?_)))
    obtain ⟨⟨r8, o9⟩, h10, H⟩ := bind_s H
    refine TL.st rfl rfl rfl (o_callS [0] rfl en_39 rfl rfl (spec_l1Cur_next_p c0 h10) rfl (by decide) (.cons _ _ _ _ rfl .nil) rfl rfl rfl) ?_
    refine TL.st rfl rfl rfl (o_ari rfl rfl rfl rfl) (TL.st rfl rfl rfl (o_assign rfl rfl) (TL.nil ?_))
    exact Pk.go (fr' := [(1, .int .i64 a0), (5, .int .i64 (IntKind.i64.wrap ((IntKind.i64.wrap (r1 * 256)) + r8)))]) (σ' := [.box (c_T_spec_l1Cur c0 o9)]) _ rfl rfl ⟨(bels_iff.1 rfl), trivial⟩ (.cons 1 _ (.int .i64 a0) _ rfl (.same _) rfl (.cons 5 _ (.int .i64 (IntKind.i64.wrap ((IntKind.i64.wrap (r1 * 256)) + r8))) _ rfl (.same _) rfl .nil)) (thn_normal ⟨o9, (IntKind.i64.wrap ((IntKind.i64.wrap (r1 * 256)) + r8)), rfl, rfl, H⟩)
   ·replace H := cond_f h H
    refine T.skip ?_
    exact Pk.go (fr' := [(1, .int .i64 a0), (5, .int .i64 r1)]) (σ' := [.box (c_T_spec_l1Cur c0 o2)]) _ rfl rfl ⟨(bels_iff.1 rfl), trivial⟩ (.cons 1 _ (.int .i64 a0) _ rfl (.same _) rfl (.cons 5 _ (.int .i64 r1) _ rfl (.same _) rfl .nil)) (thn_normal ⟨o2, r1, rfl, rfl, H⟩)
  ·rintro _ _ ⟨b4, v5, rfl, rfl, H⟩
   refine T.seq (T.region (TL.st rfl rfl rfl (o_move rfl rfl) (TL.st rfl rfl rfl (o_move rfl rfl) ?_)))
   obtain ⟨z6, h7, H⟩ := bind_s H
   refine TL.st rfl rfl rfl (o_rem rfl rfl rfl (nz_s h7).1) ?_
   refine TL.st rfl rfl rfl (o_assign rfl rfl) (TL.nil (thn_normal (T.ret ?_)))
   cases some_i H
   exact ⟨trivial, _, (.tmp _ _ _ _ rfl .nil), ⟨rfl, _, rfl⟩⟩
theorem en_14 (us : Array Value) (w : World) : (callFunc 14 us).run Go.Proofs.Tryz.prog w = .ok (.enter 14 us) w := enters Go.Proofs.Tryz.func14 rfl rfl us w
noncomputable def spec_l1Cur_one (a0 : Int) (s0 : T_spec_l1Cur) : Option (Bool × T_spec_l1Cur) :=
  (spec_l1Cur_pick a0 s0).bind fun q => (match q with | (r1, o2) => some ((r1 == 0), o2))
theorem spec_l1Cur_one_p (c0 : Bool) {a0 : Int} {s0 : T_spec_l1Cur} {R0 : Bool} {U0 : T_spec_l1Cur} (H : spec_l1Cur_one a0 s0 = some (R0, U0)) : St Go.Proofs.Tryz.prog 13 [.bx 0 0, .int .i64 a0] [.box (c_T_spec_l1Cur c0 s0)] (.bool R0) [.box (c_T_spec_l1Cur c0 U0)] := by
 refine CallT.fin (CallT.of_TN (n := 9) Go.Proofs.Tryz.func13 rfl rfl rfl rfl ?_) rfl rfl ⟨(bels_iff.1 rfl), trivial⟩
 refine T.seq (T.region (TL.st rfl rfl rfl (o_assign rfl rfl) (TL.nil (thn_normal (T.seq (T.region (TL.st rfl rfl rfl (o_move rfl rfl) (TL.st rfl rfl rfl (o_move rfl rfl) ?_))))))))
 obtain ⟨⟨r1, o2⟩, h3, H⟩ := bind_s H
 refine TL.st rfl rfl rfl (o_callS [0] rfl en_14 rfl rfl (spec_l1Cur_pick_p c0 h3) rfl (by decide) (.cons _ _ _ _ rfl .nil) rfl rfl rfl) ?_
 refine TL.st rfl rfl rfl (o_ari rfl rfl rfl rfl) (TL.st rfl rfl rfl (o_assign rfl rfl) (TL.nil (thn_normal (T.ret ?_))))
 cases some_i H
 exact ⟨trivial, _, (.tmp _ _ _ _ rfl .nil), ⟨rfl, _, rfl⟩⟩
theorem en_13 (us : Array Value) (w : World) : (callFunc 13 us).run Go.Proofs.Tryz.prog w = .ok (.enter 13 us) w := enters Go.Proofs.Tryz.func13 rfl rfl us w
theorem tyS_9 : TyS Go.Proofs.Tryz.prog 9 false 1 := ⟨rfl, rfl⟩
noncomputable def spec_l1Cur_of (a0 : (List ByteArray)) (s0 : T_spec_l1Cur) : Option (ByteArray × T_spec_l1Cur) :=
  (spec_l1Cur_pick (a0.length : Int) s0).bind fun q => (match q with | (r1, o2) => (idx a0 r1).bind fun e4 => some (e4, o2))
theorem spec_l1Cur_of_p (b0 : Bool) (c0 : Bool) {a0 : (List ByteArray)} {s0 : T_spec_l1Cur} {R0 : ByteArray} {U0 : T_spec_l1Cur} (H : spec_l1Cur_of a0 s0 = some (R0, U0)) : St Go.Proofs.Tryz.prog 17 [.bx 0 0, .im b0 (a0.map (c_str))] [.box (c_T_spec_l1Cur c0 s0)] (.str R0) [.box (c_T_spec_l1Cur c0 U0)] := by
 refine CallT.fin (CallT.of_TN (n := 12) Go.Proofs.Tryz.func17 rfl rfl rfl rfl ?_) rfl rfl ⟨(bels_iff.1 rfl), trivial⟩
 refine T.seq (T.region (TL.st rfl rfl rfl (o_assign rfl rfl) (TL.nil (thn_normal (T.seq (T.region (TL.st rfl rfl rfl (o_move rfl rfl) (TL.st rfl rfl rfl (o_move rfl rfl) (TL.st rfl rfl rfl (o_move rfl rfl) (TL.st rfl rfl rfl (o_lenL (f := c_str) rfl rfl rfl) ?_))))))))))
 obtain ⟨⟨r1, o2⟩, h3, H⟩ := bind_s H
 refine TL.st rfl rfl rfl (o_callS [0] rfl en_14 rfl rfl (spec_l1Cur_pick_p c0 h3) rfl (by decide) (.cons _ _ _ _ rfl .nil) rfl rfl rfl) ?_
 obtain ⟨e4, h5, H⟩ := bind_s H
 refine TL.st rfl rfl rfl (o_ix (f := c_str) rfl rfl tyS_9 rfl rfl h5 rfl) ?_
 refine TL.st rfl rfl rfl (o_loadRf rfl tyS_9 rfl (Nat.le_of_ble_eq_true rfl) rfl) ?_
 refine TL.st rfl rfl rfl (o_assign rfl rfl) (TL.nil (thn_normal (T.ret ?_)))
 cases some_i H
 exact ⟨trivial, _, (.tmp _ _ _ _ rfl .nil), ⟨rfl, _, rfl⟩⟩
theorem en_17 (us : Array Value) (w : World) : (callFunc 17 us).run Go.Proofs.Tryz.prog w = .ok (.enter 17 us) w := enters Go.Proofs.Tryz.func17 rfl rfl us w
theorem tyS_24 : TyS Go.Proofs.Tryz.prog 24 true 4 := ⟨rfl, rfl⟩
noncomputable def spec_l10Ref (a0 : ByteArray) (a1 : ByteArray) : Option T_impl_Atom :=
  some (⟨4, 0, a1, a0⟩ : T_impl_Atom)
theorem spec_l10Ref_p  {a0 : ByteArray} {a1 : ByteArray} {R0 : T_impl_Atom} (H : spec_l10Ref a0 a1 = some R0) : Pure Go.Proofs.Tryz.prog 35 [.str a0, .str a1] (.agg (c_T_impl_Atom false R0)) := by
 refine CallT.of_TN (n := 8) Go.Proofs.Tryz.func35 rfl rfl rfl rfl ?_
 refine T.seq (T.region (TL.st rfl rfl rfl (o_alloc rfl ⟨_, rfl, rfl⟩) (TL.nil (thn_normal (T.seq (T.region (TL.st rfl rfl rfl (o_move rfl rfl) (TL.st rfl rfl rfl (o_move rfl rfl) (TL.st rfl rfl rfl (o_build rfl ⟨_, fun _ => rfl, rfl⟩ rfl rfl rfl) ?_)))))))))
 refine TL.sn rfl rfl (o_storeBx rfl tyS_24 rfl rfl rfl rfl (Nat.le_of_ble_eq_true rfl) rfl) ?_
 refine TL.nil (thn_normal (T.ret ?_))
 cases some_i H
 exact ⟨trivial, _, (.cell _ _ _ _ _ _ _ _ _ _ rfl rfl tyS_24 (Nat.le_of_ble_eq_true rfl) rfl .nil), (.cl _ rfl)⟩
theorem en_35 (us : Array Value) (w : World) : (callFunc 35 us).run Go.Proofs.Tryz.prog w = .ok (.enter 35 us) w := enters Go.Proofs.Tryz.func35 rfl rfl us w
noncomputable def spec_l1Cur_thingRef (s0 : T_spec_l1Cur) : Option (T_impl_Atom × T_spec_l1Cur) :=
  (spec_l1Cur_pick 4 s0).bind fun q => (match q with | (r1, o2) => cond (r1 == 0) ((spec_l1Cur_of ([(ByteArray.mk #[103, 49]), (ByteArray.mk #[103, 50])] : List ByteArray) o2).bind fun q => (match q with | (r4, o5) => (spec_l10Ref (ByteArray.mk #[71, 114, 111, 117, 112]) r4).bind fun r7 => some (r7, o5))) (cond (r1 == 1) ((spec_l1Cur_of ([(ByteArray.mk #[100, 49]), (ByteArray.mk #[100, 50])] : List ByteArray) o2).bind fun q => (match q with | (r9, o10) => (spec_l10Ref (ByteArray.mk #[68, 111, 99]) r9).bind fun r12 => some (r12, o10))) ((spec_l1Cur_of ([(ByteArray.mk #[97, 110, 110]), (ByteArray.mk #[98, 111, 98]), (ByteArray.mk #[99, 121])] : List ByteArray) o2).bind fun q => (match q with | (r14, o15) => (spec_l10Ref (ByteArray.mk #[85, 115, 101, 114]) r14).bind fun r17 => some (r17, o15)))))
theorem spec_l1Cur_thingRef_p (c0 : Bool) {s0 : T_spec_l1Cur} {R0 : T_impl_Atom} {U0 : T_spec_l1Cur} (H : spec_l1Cur_thingRef s0 = some (R0, U0)) : St Go.Proofs.Tryz.prog 15 [.bx 0 0] [.box (c_T_spec_l1Cur c0 s0)] (.agg (c_T_impl_Atom false R0)) [.box (c_T_spec_l1Cur c0 U0)] := by
 refine CallT.fin (CallT.of_TN (n := 21) Go.Proofs.Tryz.func15 rfl rfl rfl rfl ?_) rfl rfl ⟨(bels_iff.1 rfl), trivial⟩
 refine T.seq (T.region (TL.st rfl rfl rfl (o_alloc rfl ⟨_, rfl, rfl⟩) (TL.nil (thn_normal (T.seq (T.seq (T.region (TL.st rfl rfl rfl (o_move rfl rfl) ?_))))))))
 obtain ⟨⟨r1, o2⟩, h3, H⟩ := bind_s H
 refine TL.st rfl rfl rfl (o_callS [0] rfl en_14 rfl rfl (spec_l1Cur_pick_p c0 h3) rfl (by decide) (.cons _ _ _ _ rfl .nil) rfl rfl rfl) ?_
 refine TL.nil (thn_normal (T.block (T.seq (T.region (TL.st rfl rfl rfl (o_ari rfl rfl rfl rfl) (TL.st rfl rfl rfl (o_assign rfl rfl) (TL.nil (thn_normal ?_))))))))
 refine T.cond ((r1 == 0)) rfl (fun h => ?_) (fun h => ?_)
 ·replace H := cond_t h H
  refine T.seq (T.region (TL.st rfl rfl rfl (o_move rfl rfl) (TL.st rfl rfl rfl (o_sliceIm rfl rfl tyS_9 ⟨_, rfl, rfl⟩ (by decide) rfl rfl rfl rfl rfl rfl) ?_)))
  obtain ⟨⟨r4, o5⟩, h6, H⟩ := bind_s H
  refine TL.st rfl rfl rfl (o_callS [0] rfl en_17 rfl rfl (spec_l1Cur_of_p false c0 h6) rfl (by decide) (.cons _ _ _ _ rfl .nil) rfl rfl rfl) ?_
  obtain ⟨r7, h8, H⟩ := bind_s H
  refine TL.st rfl rfl rfl (o_callP rfl en_35 rfl rfl (.cons _ _ _ _ (.cl _ rfl) (.cons _ _ _ _ (.cl _ rfl) .nil)) (spec_l10Ref_p  h8)) ?_
  refine TL.sn rfl rfl (o_storeBx rfl tyS_24 rfl rfl rfl rfl (Nat.le_of_ble_eq_true rfl) rfl) ?_
  refine TL.nil (thn_normal (T.ret (inB_ret (thn_ret ?_))))
  cases some_i H
  exact ⟨trivial, _, (.cell _ _ _ _ _ _ _ _ _ _ rfl rfl tyS_24 (Nat.le_of_ble_eq_true rfl) rfl .nil), ⟨rfl, _, rfl⟩⟩
 ·replace H := cond_f h H
  refine T.seq (T.region (TL.st rfl rfl rfl (o_ari rfl rfl rfl rfl) (TL.st rfl rfl rfl (o_assign rfl rfl) (TL.nil (thn_normal ?_)))))
  refine T.cond ((r1 == 1)) rfl (fun h => ?_) (fun h => ?_)
  ·replace H := cond_t h H
   refine T.seq (T.region (TL.st rfl rfl rfl (o_move rfl rfl) (TL.st rfl rfl rfl (o_sliceIm rfl rfl tyS_9 ⟨_, rfl, rfl⟩ (by decide) rfl rfl rfl rfl rfl rfl) ?_)))
   obtain ⟨⟨r9, o10⟩, h11, H⟩ := bind_s H
   refine TL.st rfl rfl rfl (o_callS [0] rfl en_17 rfl rfl (spec_l1Cur_of_p false c0 h11) rfl (by decide) (.cons _ _ _ _ rfl .nil) rfl rfl rfl) ?_
   obtain ⟨r12, h13, H⟩ := bind_s H
   refine TL.st rfl rfl rfl (o_callP rfl en_35 rfl rfl (.cons _ _ _ _ (.cl _ rfl) (.cons _ _ _ _ (.cl _ rfl) .nil)) (spec_l10Ref_p  h13)) ?_
   refine TL.sn rfl rfl (o_storeBx rfl tyS_24 rfl rfl rfl rfl (Nat.le_of_ble_eq_true rfl) rfl) ?_
   refine TL.nil (thn_normal (T.ret (inB_ret (thn_ret ?_))))
   cases some_i H
   exact ⟨trivial, _, (.cell _ _ _ _ _ _ _ _ _ _ rfl rfl tyS_24 (Nat.le_of_ble_eq_true rfl) rfl .nil), ⟨rfl, _, rfl⟩⟩
  ·replace H := cond_f h H
   refine T.skip (inB_normal (thn_normal (T.seq (T.region (TL.st rfl rfl rfl (o_move rfl rfl) (TL.st rfl rfl rfl (o_sliceIm rfl rfl tyS_9 ⟨_, rfl, rfl⟩ (by decide) rfl rfl rfl rfl rfl rfl) ?_))))))
   obtain ⟨⟨r14, o15⟩, h16, H⟩ := bind_s H
   refine TL.st rfl rfl rfl (o_callS [0] rfl en_17 rfl rfl (spec_l1Cur_of_p false c0 h16) rfl (by decide) (.cons _ _ _ _ rfl .nil) rfl rfl rfl) ?_
   obtain ⟨r17, h18, H⟩ := bind_s H
   refine TL.st rfl rfl rfl (o_callP rfl en_35 rfl rfl (.cons _ _ _ _ (.cl _ rfl) (.cons _ _ _ _ (.cl _ rfl) .nil)) (spec_l10Ref_p  h18)) ?_
   refine TL.sn rfl rfl (o_storeBx rfl tyS_24 rfl rfl rfl rfl (Nat.le_of_ble_eq_true rfl) rfl) ?_
   refine TL.nil (thn_normal (T.ret ?_))
   cases some_i H
   exact ⟨trivial, _, (.cell _ _ _ _ _ _ _ _ _ _ rfl rfl tyS_24 (Nat.le_of_ble_eq_true rfl) rfl .nil), ⟨rfl, _, rfl⟩⟩
theorem en_15 (us : Array Value) (w : World) : (callFunc 15 us).run Go.Proofs.Tryz.prog w = .ok (.enter 15 us) w := enters Go.Proofs.Tryz.func15 rfl rfl us w
theorem tyS_26 : TyS Go.Proofs.Tryz.prog 26 true 6 := ⟨rfl, rfl⟩
noncomputable def spec_l1Cur_head (a0 : Bool) (s0 : T_spec_l1Cur) : Option (T_impl_Head × T_spec_l1Cur) :=
  (spec_l1Cur_pick 7 s0).bind fun q => (match q with | (r1, o2) => cond (r1 == 0) ((spec_l1Cur_thingRef o2).bind fun q => (match q with | (r4, o5) => some ((⟨2, r4, (ByteArray.mk #[])⟩ : T_impl_Head), o5))) (cond (r1 == 1) ((spec_l1Cur_thingRef o2).bind fun q => (match q with | (r7, o8) => some ((⟨3, r7, (ByteArray.mk #[])⟩ : T_impl_Head), o8))) (cond (r1 == 2) ((spec_l1Cur_of ([(ByteArray.mk #[85, 115, 101, 114]), (ByteArray.mk #[68, 111, 99]), (ByteArray.mk #[71, 114, 111, 117, 112])] : List ByteArray) o2).bind fun q => (match q with | (r10, o11) => some ((⟨4, (⟨0, 0, (ByteArray.mk #[]), (ByteArray.mk #[])⟩ : T_impl_Atom), r10⟩ : T_impl_Head), o11))) (cond (r1 == 3) ((cond a0 (spec_l1Cur_one 3 o2) (some (default, o2))).bind fun q => (match q with | (r13, o14) => cond (a0 && r13) ((spec_l1Cur_pick 2 o14).bind fun q => (match q with | (r16, o17) => some ((⟨(IntKind.i64.wrap (5 + r16)), (⟨0, 0, (ByteArray.mk #[]), (ByteArray.mk #[])⟩ : T_impl_Atom), (ByteArray.mk #[])⟩ : T_impl_Head), o17))) (some ((⟨1, (⟨0, 0, (ByteArray.mk #[]), (ByteArray.mk #[])⟩ : T_impl_Atom), (ByteArray.mk #[])⟩ : T_impl_Head), o14)))) (some ((⟨1, (⟨0, 0, (ByteArray.mk #[]), (ByteArray.mk #[])⟩ : T_impl_Atom), (ByteArray.mk #[])⟩ : T_impl_Head), o2))))))
theorem spec_l1Cur_head_p (c0 : Bool) {a0 : Bool} {s0 : T_spec_l1Cur} {R0 : T_impl_Head} {U0 : T_spec_l1Cur} (H : spec_l1Cur_head a0 s0 = some (R0, U0)) : St Go.Proofs.Tryz.prog 34 [.bx 0 0, .bool a0] [.box (c_T_spec_l1Cur c0 s0)] (.agg (c_T_impl_Head false R0)) [.box (c_T_spec_l1Cur c0 U0)] := by
 refine CallT.fin (CallT.of_TN (n := 35) Go.Proofs.Tryz.func34 rfl rfl rfl rfl ?_) rfl rfl ⟨(bels_iff.1 rfl), trivial⟩
 refine T.seq (T.region (TL.st rfl rfl rfl (o_alloc rfl ⟨_, rfl, rfl⟩) (TL.nil (thn_normal (T.seq (T.seq (T.region (TL.st rfl rfl rfl (o_move rfl rfl) ?_))))))))
 obtain ⟨⟨r1, o2⟩, h3, H⟩ := bind_s H
 refine TL.st rfl rfl rfl (o_callS [0] rfl en_14 rfl rfl (spec_l1Cur_pick_p c0 h3) rfl (by decide) (.cons _ _ _ _ rfl .nil) rfl rfl rfl) ?_
 refine TL.nil (thn_normal (T.block (T.seq (T.region (TL.st rfl rfl rfl (o_ari rfl rfl rfl rfl) (TL.st rfl rfl rfl (o_assign rfl rfl) (TL.nil (thn_normal ?_))))))))
 refine T.cond ((r1 == 0)) rfl (fun h => ?_) (fun h => ?_)
 ·replace H := cond_t h H
  refine T.seq (T.region (TL.st rfl rfl rfl (o_move rfl rfl) ?_))
  obtain ⟨⟨r4, o5⟩, h6, H⟩ := bind_s H
  refine TL.st rfl rfl rfl (o_callS [0] rfl en_15 rfl rfl (spec_l1Cur_thingRef_p c0 h6) rfl (by decide) (.cons _ _ _ _ rfl .nil) rfl rfl rfl) ?_
  refine TL.st rfl rfl rfl (o_build rfl ⟨_, fun _ => rfl, rfl⟩ rfl rfl rfl) ?_
  refine TL.sn rfl rfl (o_storeBx rfl tyS_26 rfl rfl rfl rfl (Nat.le_of_ble_eq_true rfl) rfl) ?_
  refine TL.nil (thn_normal (T.ret (inB_ret (thn_ret ?_))))
  cases some_i H
  exact ⟨trivial, _, (.cell _ _ _ _ _ _ _ _ _ _ rfl rfl tyS_26 (Nat.le_of_ble_eq_true rfl) rfl .nil), ⟨rfl, _, rfl⟩⟩
 ·replace H := cond_f h H
  refine T.seq (T.region (TL.st rfl rfl rfl (o_ari rfl rfl rfl rfl) (TL.st rfl rfl rfl (o_assign rfl rfl) (TL.nil (thn_normal ?_)))))
  refine T.cond ((r1 == 1)) rfl (fun h => ?_) (fun h => ?_)
  ·replace H := cond_t h H
   refine T.seq (T.region (TL.st rfl rfl rfl (o_move rfl rfl) ?_))
   obtain ⟨⟨r7, o8⟩, h9, H⟩ := bind_s H
   refine TL.st rfl rfl rfl (o_callS [0] rfl en_15 rfl rfl (spec_l1Cur_thingRef_p c0 h9) rfl (by decide) (.cons _ _ _ _ rfl .nil) rfl rfl rfl) ?_
   refine TL.st rfl rfl rfl (o_build rfl ⟨_, fun _ => rfl, rfl⟩ rfl rfl rfl) ?_
   refine TL.sn rfl rfl (o_storeBx rfl tyS_26 rfl rfl rfl rfl (Nat.le_of_ble_eq_true rfl) rfl) ?_
   refine TL.nil (thn_normal (T.ret (inB_ret (thn_ret ?_))))
   cases some_i H
   exact ⟨trivial, _, (.cell _ _ _ _ _ _ _ _ _ _ rfl rfl tyS_26 (Nat.le_of_ble_eq_true rfl) rfl .nil), ⟨rfl, _, rfl⟩⟩
  ·replace H := cond_f h H
   refine T.seq (T.region (TL.st rfl rfl rfl (o_ari rfl rfl rfl rfl) (TL.st rfl rfl rfl (o_assign rfl rfl) (TL.nil (thn_normal ?_)))))
   refine T.cond ((r1 == 2)) rfl (fun h => ?_) (fun h => ?_)
   ·replace H := cond_t h H
    refine T.seq (T.region (TL.st rfl rfl rfl (o_move rfl rfl) (TL.st rfl rfl rfl (o_sliceIm rfl rfl tyS_9 ⟨_, rfl, rfl⟩ (by decide) rfl rfl rfl rfl rfl rfl) ?_)))
    obtain ⟨⟨r10, o11⟩, h12, H⟩ := bind_s H
    refine TL.st rfl rfl rfl (o_callS [0] rfl en_17 rfl rfl (spec_l1Cur_of_p false c0 h12) rfl (by decide) (.cons _ _ _ _ rfl .nil) rfl rfl rfl) ?_
    refine TL.st rfl rfl rfl (o_build rfl ⟨_, fun _ => rfl, rfl⟩ rfl rfl rfl) ?_
    refine TL.sn rfl rfl (o_storeBx rfl tyS_26 rfl rfl rfl rfl (Nat.le_of_ble_eq_true rfl) rfl) ?_
    refine TL.nil (thn_normal (T.ret (inB_ret (thn_ret ?_))))
    cases some_i H
    exact ⟨trivial, _, (.cell _ _ _ _ _ _ _ _ _ _ rfl rfl tyS_26 (Nat.le_of_ble_eq_true rfl) rfl .nil), ⟨rfl, _, rfl⟩⟩
   ·replace H := cond_f h H
    refine T.seq (T.region (TL.st rfl rfl rfl (o_ari rfl rfl rfl rfl) (TL.st rfl rfl rfl (o_assign rfl rfl) (TL.nil (thn_normal ?_)))))
    refine T.cond ((r1 == 3)) rfl (fun h => ?_) (fun h => ?_)
    ·replace H := cond_t h H
     refine T.seq (T.region (TL.st rfl rfl rfl (o_move rfl rfl) (TL.st rfl rfl rfl (o_move rfl rfl) (TL.gcq rfl rfl rfl (.bool _) rfl rfl (fun h => o_move rfl rfl) ?_))))
     obtain ⟨⟨r13, o14⟩, h15, H⟩ := bind_s H
     refine TL.gc rfl rfl rfl (.bool _) rfl rfl (fun h => o_callS [0] rfl en_13 rfl (evl_2 (gv h rfl) rfl) (spec_l1Cur_one_p c0 (cond_t h h15)) rfl (by decide) (.cons _ _ _ _ rfl .nil) rfl rfl rfl) (fun h => by cases cond_f h h15; rfl) ?_
     refine TL.st rfl rfl rfl (o_and rfl rfl rfl (fun k => Gd_t k) rfl) (TL.nil (thn_normal ?_))
     refine T.cond ((a0 && r13)) rfl (fun h => ?_) (fun h => ?_)
     ·replace H := cond_t h H
      refine T.seq (T.region (TL.st rfl rfl rfl (o_move rfl rfl) ?_))
      obtain ⟨⟨r16, o17⟩, h18, H⟩ := bind_s H
      refine TL.st rfl rfl rfl (o_callS [0] rfl en_14 rfl rfl (spec_l1Cur_pick_p c0 h18) rfl (by decide) (.cons _ _ _ _ rfl .nil) rfl rfl rfl) ?_
      refine TL.st rfl rfl rfl (o_ari rfl rfl rfl rfl) (TL.st rfl rfl rfl (o_build rfl ⟨_, fun _ => rfl, rfl⟩ rfl rfl rfl) ?_)
      refine TL.sn rfl rfl (o_storeBx rfl tyS_26 rfl rfl rfl rfl (Nat.le_of_ble_eq_true rfl) rfl) ?_
      refine TL.nil (thn_normal (T.ret (inB_ret (thn_ret ?_))))
      cases some_i H
      exact ⟨trivial, _, (.cell _ _ _ _ _ _ _ _ _ _ rfl rfl tyS_26 (Nat.le_of_ble_eq_true rfl) rfl .nil), ⟨rfl, _, rfl⟩⟩
     ·replace H := cond_f h H
      refine T.skip (inB_normal (thn_normal (T.seq (T.region (TL.st rfl rfl rfl (o_build rfl ⟨_, fun _ => rfl, rfl⟩ rfl rfl rfl) ?_)))))
      refine TL.sn rfl rfl (o_storeBx rfl tyS_26 rfl rfl rfl rfl (Nat.le_of_ble_eq_true rfl) rfl) ?_
      refine TL.nil (thn_normal (T.ret ?_))
      cases some_i H
      exact ⟨trivial, _, (.cell _ _ _ _ _ _ _ _ _ _ rfl rfl tyS_26 (Nat.le_of_ble_eq_true rfl) rfl .nil), ⟨rfl, _, rfl⟩⟩
    ·replace H := cond_f h H
     refine T.skip (inB_normal (thn_normal (T.seq (T.region (TL.st rfl rfl rfl (o_build rfl ⟨_, fun _ => rfl, rfl⟩ rfl rfl rfl) ?_)))))
     refine TL.sn rfl rfl (o_storeBx rfl tyS_26 rfl rfl rfl rfl (Nat.le_of_ble_eq_true rfl) rfl) ?_
     refine TL.nil (thn_normal (T.ret ?_))
     cases some_i H
     exact ⟨trivial, _, (.cell _ _ _ _ _ _ _ _ _ _ rfl rfl tyS_26 (Nat.le_of_ble_eq_true rfl) rfl .nil), ⟨rfl, _, rfl⟩⟩
theorem en_34 (us : Array Value) (w : World) : (callFunc 34 us).run Go.Proofs.Tryz.prog w = .ok (.enter 34 us) w := enters Go.Proofs.Tryz.func34 rfl rfl us w
theorem tyS_29 : TyS Go.Proofs.Tryz.prog 29 true 21 := ⟨rfl, rfl⟩
theorem en_37 (us : Array Value) (w : World) : (callFunc 37 us).run Go.Proofs.Tryz.prog w = .ok (.enter 37 us) w := enters Go.Proofs.Tryz.func37 rfl rfl us w
theorem tyS_67 : TyS Go.Proofs.Tryz.prog 67 true 8 := ⟨rfl, rfl⟩
noncomputable def spec_l10Node (a0 : Int) (a1 : ByteArray) (a2 : (List (List V))) : Option T_spec_l10E :=
  some (⟨(⟨a0, a1, (⟨0, 0, (ByteArray.mk #[]), (ByteArray.mk #[])⟩ : T_impl_Atom), 0⟩ : T_impl_Expr), a2⟩ : T_spec_l10E)
theorem spec_l10Node_p (_u0 : Bool) {a0 : Int} {a1 : ByteArray} {a2 : (List (List V))} {R0 : T_spec_l10E} (H : spec_l10Node a0 a1 a2 = some R0) : Pure Go.Proofs.Tryz.prog 60 [.int .i64 a0, .str a1, .im false (a2.map (c_raw))] (.agg (c_T_spec_l10E false R0)) := by
 refine CallT.of_TN (n := 12) Go.Proofs.Tryz.func60 rfl rfl rfl rfl ?_
 refine T.seq (T.region (TL.st rfl rfl rfl (o_alloc rfl ⟨_, rfl, rfl⟩) (TL.nil (thn_normal (T.seq (T.region (TL.st rfl rfl rfl (o_move rfl rfl) (TL.st rfl rfl rfl (o_move rfl rfl) (TL.st rfl rfl rfl (o_build rfl ⟨_, fun _ => rfl, rfl⟩ rfl rfl rfl) ?_)))))))))
 refine TL.st rfl rfl rfl (o_move rfl rfl) (TL.st rfl rfl rfl (o_build rfl ⟨_, fun _ => rfl, rfl⟩ rfl rfl rfl) ?_)
 refine TL.sn rfl rfl (o_storeBx rfl tyS_67 rfl rfl rfl rfl (Nat.le_of_ble_eq_true rfl) rfl) ?_
 refine TL.nil (thn_normal (T.ret ?_))
 cases some_i H
 exact ⟨trivial, _, (.cell _ _ _ _ _ _ _ _ _ _ rfl rfl tyS_67 (Nat.le_of_ble_eq_true rfl) rfl .nil), (.cl _ rfl)⟩
theorem en_60 (us : Array Value) (w : World) : (callFunc 60 us).run Go.Proofs.Tryz.prog w = .ok (.enter 60 us) w := enters Go.Proofs.Tryz.func60 rfl rfl us w
noncomputable def spec_l1Cur_path (s0 : T_spec_l1Cur) : Option (T_spec_l10E × T_spec_l1Cur) :=
  (spec_l1Cur_of ([(ByteArray.mk #[112, 114, 105, 110, 99, 105, 112, 97, 108]), (ByteArray.mk #[114, 101, 115, 111, 117, 114, 99, 101]), (ByteArray.mk #[99, 111, 110, 116, 101, 120, 116])] : List ByteArray) s0).bind fun q => (match q with | (r1, o2) => (spec_l10Node 3 r1 ([] : List (List V))).bind fun r4 => (spec_l1Cur_of ([(ByteArray.mk #[97, 103, 101]), (ByteArray.mk #[111, 112, 101, 110]), (ByteArray.mk #[100, 101, 112, 116]), (ByteArray.mk #[116, 97, 103, 115]), (ByteArray.mk #[98, 111, 115, 115]), (ByteArray.mk #[111, 119, 110, 101, 114]), (ByteArray.mk #[119, 104, 101, 110]), (ByteArray.mk #[102, 114, 111, 109])] : List ByteArray) o2).bind fun q => (match q with | (r6, o7) => (spec_l10Node 4 r6 ([(c_T_spec_l10E false r4)] : List (List V))).bind fun r9 => (spec_l1Cur_one 8 o7).bind fun q => (match q with | (r11, o12) => cond r11 ((spec_l1Cur_of ([(ByteArray.mk #[97, 103, 101]), (ByteArray.mk #[98, 111, 115, 115])] : List ByteArray) o12).bind fun q => (match q with | (r14, o15) => (spec_l10Node 4 r14 ([(c_T_spec_l10E false r9)] : List (List V))).bind fun r17 => some (r17, o15))) (some (r9, o12)))))
theorem spec_l1Cur_path_p (c0 : Bool) {s0 : T_spec_l1Cur} {R0 : T_spec_l10E} {U0 : T_spec_l1Cur} (H : spec_l1Cur_path s0 = some (R0, U0)) : St Go.Proofs.Tryz.prog 61 [.bx 0 0] [.box (c_T_spec_l1Cur c0 s0)] (.agg (c_T_spec_l10E false R0)) [.box (c_T_spec_l1Cur c0 U0)] := by
 refine CallT.fin (CallT.of_TN (n := 24) Go.Proofs.Tryz.func61 rfl rfl rfl rfl ?_) rfl rfl ⟨(bels_iff.1 rfl), trivial⟩
 refine T.seq (T.region (TL.st rfl rfl rfl (o_alloc rfl ⟨_, rfl, rfl⟩) (TL.nil (thn_normal (T.seq (T.region (TL.st rfl rfl rfl (o_move rfl rfl) (TL.st rfl rfl rfl (o_sliceIm rfl rfl tyS_9 ⟨_, rfl, rfl⟩ (by decide) rfl rfl rfl rfl rfl rfl) ?_))))))))
 obtain ⟨⟨r1, o2⟩, h3, H⟩ := bind_s H
 refine TL.st rfl rfl rfl (o_callS [0] rfl en_17 rfl rfl (spec_l1Cur_of_p false c0 h3) rfl (by decide) (.cons _ _ _ _ rfl .nil) rfl rfl rfl) ?_
 obtain ⟨r4, h5, H⟩ := bind_s H
 refine TL.st rfl rfl rfl (o_callP rfl en_60 rfl rfl (.cons _ _ _ _ (.cl _ rfl) (.cons _ _ _ _ (.cl _ rfl) (.cons _ _ _ _ .nil .nil))) (spec_l10Node_p false h5)) ?_
 refine TL.st rfl rfl rfl (o_alloc rfl ⟨_, rfl, rfl⟩) (TL.sn rfl rfl (o_storeBx rfl tyS_67 rfl rfl rfl rfl (Nat.le_of_ble_eq_true rfl) rfl) ?_)
 refine TL.nil (thn_normal (T.seq ?_))
 obtain ⟨⟨r6, o7⟩, h8, H⟩ := bind_s H
 obtain ⟨r9, h10, H⟩ := bind_s H
 refine T.drawS (fr' := [(0, .bx 0 0), (2, .bx 1 0), (3, .bx 2 0), (4, .bx 3 0), (5, .bx 0 0), (6, .im false (([(ByteArray.mk #[112, 114, 105, 110, 99, 105, 112, 97, 108]), (ByteArray.mk #[114, 101, 115, 111, 117, 114, 99, 101]), (ByteArray.mk #[99, 111, 110, 116, 101, 120, 116])] : List ByteArray).map (c_str))), (7, .str r1), (8, .agg (c_T_spec_l10E false r4)), (9, .bx 0 0), (10, .im false (([(ByteArray.mk #[97, 103, 101]), (ByteArray.mk #[111, 112, 101, 110]), (ByteArray.mk #[100, 101, 112, 116]), (ByteArray.mk #[116, 97, 103, 115]), (ByteArray.mk #[98, 111, 115, 115]), (ByteArray.mk #[111, 119, 110, 101, 114]), (ByteArray.mk #[119, 104, 101, 110]), (ByteArray.mk #[102, 114, 111, 109])] : List ByteArray).map (c_str))), (11, .str r6), (12, .agg (c_T_spec_l10E false r4)), (13, .im false (([(c_T_spec_l10E false r4)] : List (List V)).map (c_raw))), (14, .agg (c_T_spec_l10E false r9))]) (R := [⟨some 9, .bx 0 0, .q, []⟩, ⟨some 10, .im false (([(ByteArray.mk #[97, 103, 101]), (ByteArray.mk #[111, 112, 101, 110]), (ByteArray.mk #[100, 101, 112, 116]), (ByteArray.mk #[116, 97, 103, 115]), (ByteArray.mk #[98, 111, 115, 115]), (ByteArray.mk #[111, 119, 110, 101, 114]), (ByteArray.mk #[119, 104, 101, 110]), (ByteArray.mk #[102, 114, 111, 109])] : List ByteArray).map (c_str)), .q, []⟩, ⟨some 11, .str r6, .q, []⟩, ⟨some 12, .agg (c_T_spec_l10E false r4), .q, []⟩, ⟨some 13, .im false (([(c_T_spec_l10E false r4)] : List (List V)).map (c_raw)), .q, []⟩, ⟨some 14, .agg (c_T_spec_l10E false r9), .q, []⟩, ⟨some 4, .bx 3 0, .q, []⟩, ⟨none, .any, .q, []⟩]) (fun b => cond (b 2) (cond (b 6) (cond (b 7) ([.box (c_T_spec_l1Cur c0 o7), .box [.int .i64 0, .str (ByteArray.mk #[]), .int .i64 0, .int .i64 0, .str (ByteArray.mk #[]), .str (ByteArray.mk #[]), .int .i64 0, .nilS], .box (c_T_spec_l10E false r4), .box (c_T_spec_l10E false r9)]) ([.box (c_T_spec_l1Cur c0 o7), .box [.int .i64 0, .str (ByteArray.mk #[]), .int .i64 0, .int .i64 0, .str (ByteArray.mk #[]), .str (ByteArray.mk #[]), .int .i64 0, .nilS], .box (c_T_spec_l10E false r4), .box [.int .i64 0, .str (ByteArray.mk #[]), .int .i64 0, .int .i64 0, .str (ByteArray.mk #[]), .str (ByteArray.mk #[]), .int .i64 0, .nilS]])) ([.box (c_T_spec_l1Cur c0 o7), .box [.int .i64 0, .str (ByteArray.mk #[]), .int .i64 0, .int .i64 0, .str (ByteArray.mk #[]), .str (ByteArray.mk #[]), .int .i64 0, .nilS], .box (c_T_spec_l10E false r4)])) (cond (b 6) ([.box (c_T_spec_l1Cur c0 o2), .box [.int .i64 0, .str (ByteArray.mk #[]), .int .i64 0, .int .i64 0, .str (ByteArray.mk #[]), .str (ByteArray.mk #[]), .int .i64 0, .nilS], .box (c_T_spec_l10E false r4), .box [.int .i64 0, .str (ByteArray.mk #[]), .int .i64 0, .int .i64 0, .str (ByteArray.mk #[]), .str (ByteArray.mk #[]), .int .i64 0, .nilS]]) ([.box (c_T_spec_l1Cur c0 o2), .box [.int .i64 0, .str (ByteArray.mk #[]), .int .i64 0, .int .i64 0, .str (ByteArray.mk #[]), .str (ByteArray.mk #[]), .int .i64 0, .nilS], .box (c_T_spec_l10E false r4)]))) rfl ?_ ?_ rfl rfl (FrL.get (.cons rfl (.cons rfl (.cons rfl (.cons rfl (.cons rfl (.cons rfl (.cons rfl (.cons rfl (.cons rfl (.cons rfl (.cons rfl (.cons rfl (.cons rfl (.cons rfl .nil))))))))))))))) ?_
 ·refine .cons _ _ _ _ _ ⟨rfl, [(0, .bx 0 0)], AllN.get rfl (.cons rfl .nil), fun b hd hn hk hc => ?_⟩ ?_
  ·cases e6 : b 6
   ·exact ops_at (σ1 := [.box (c_T_spec_l1Cur c0 o2), .box [.int .i64 0, .str (ByteArray.mk #[]), .int .i64 0, .int .i64 0, .str (ByteArray.mk #[]), .str (ByteArray.mk #[]), .int .i64 0, .nilS], .box (c_T_spec_l10E false r4)]) (by simp only [show b 2 = false from (hn 2 rfl), show b 6 = false from e6, show b 7 = false from (hn 7 rfl), cond_true, cond_false]) rfl (o_move rfl rfl) (Eq.trans (b := [.box (c_T_spec_l1Cur c0 o2), .box [.int .i64 0, .str (ByteArray.mk #[]), .int .i64 0, .int .i64 0, .str (ByteArray.mk #[]), .str (ByteArray.mk #[]), .int .i64 0, .nilS], .box (c_T_spec_l10E false r4)]) (by simp only [show updb b 0 2 = false from (updb_ne rfl).trans (hn 2 rfl), show updb b 0 6 = false from (updb_ne rfl).trans e6, show updb b 0 7 = false from (updb_ne rfl).trans (hn 7 rfl), cond_true, cond_false]) rfl) rfl
   ·exact ops_at (σ1 := [.box (c_T_spec_l1Cur c0 o2), .box [.int .i64 0, .str (ByteArray.mk #[]), .int .i64 0, .int .i64 0, .str (ByteArray.mk #[]), .str (ByteArray.mk #[]), .int .i64 0, .nilS], .box (c_T_spec_l10E false r4), .box [.int .i64 0, .str (ByteArray.mk #[]), .int .i64 0, .int .i64 0, .str (ByteArray.mk #[]), .str (ByteArray.mk #[]), .int .i64 0, .nilS]]) (by simp only [show b 2 = false from (hn 2 rfl), show b 6 = true from e6, show b 7 = false from (hn 7 rfl), cond_true, cond_false]) rfl (o_move rfl rfl) (Eq.trans (b := [.box (c_T_spec_l1Cur c0 o2), .box [.int .i64 0, .str (ByteArray.mk #[]), .int .i64 0, .int .i64 0, .str (ByteArray.mk #[]), .str (ByteArray.mk #[]), .int .i64 0, .nilS], .box (c_T_spec_l10E false r4), .box [.int .i64 0, .str (ByteArray.mk #[]), .int .i64 0, .int .i64 0, .str (ByteArray.mk #[]), .str (ByteArray.mk #[]), .int .i64 0, .nilS]]) (by simp only [show updb b 0 2 = false from (updb_ne rfl).trans (hn 2 rfl), show updb b 0 6 = true from (updb_ne rfl).trans e6, show updb b 0 7 = false from (updb_ne rfl).trans (hn 7 rfl), cond_true, cond_false]) rfl) rfl
  refine .cons _ _ _ _ _ ⟨rfl, [], AllN.get rfl .nil, fun b hd hn hk hc => ?_⟩ ?_
  ·cases e6 : b 6
   ·exact ops_at (σ1 := [.box (c_T_spec_l1Cur c0 o2), .box [.int .i64 0, .str (ByteArray.mk #[]), .int .i64 0, .int .i64 0, .str (ByteArray.mk #[]), .str (ByteArray.mk #[]), .int .i64 0, .nilS], .box (c_T_spec_l10E false r4)]) (by simp only [show b 2 = false from (hn 2 rfl), show b 6 = false from e6, show b 7 = false from (hn 7 rfl), cond_true, cond_false]) rfl (o_sliceIm rfl rfl tyS_9 ⟨_, rfl, rfl⟩ (by decide) rfl rfl rfl rfl rfl rfl) (Eq.trans (b := [.box (c_T_spec_l1Cur c0 o2), .box [.int .i64 0, .str (ByteArray.mk #[]), .int .i64 0, .int .i64 0, .str (ByteArray.mk #[]), .str (ByteArray.mk #[]), .int .i64 0, .nilS], .box (c_T_spec_l10E false r4)]) (by simp only [show updb b 1 2 = false from (updb_ne rfl).trans (hn 2 rfl), show updb b 1 6 = false from (updb_ne rfl).trans e6, show updb b 1 7 = false from (updb_ne rfl).trans (hn 7 rfl), cond_true, cond_false]) rfl) rfl
   ·exact ops_at (σ1 := [.box (c_T_spec_l1Cur c0 o2), .box [.int .i64 0, .str (ByteArray.mk #[]), .int .i64 0, .int .i64 0, .str (ByteArray.mk #[]), .str (ByteArray.mk #[]), .int .i64 0, .nilS], .box (c_T_spec_l10E false r4), .box [.int .i64 0, .str (ByteArray.mk #[]), .int .i64 0, .int .i64 0, .str (ByteArray.mk #[]), .str (ByteArray.mk #[]), .int .i64 0, .nilS]]) (by simp only [show b 2 = false from (hn 2 rfl), show b 6 = true from e6, show b 7 = false from (hn 7 rfl), cond_true, cond_false]) rfl (o_sliceIm rfl rfl tyS_9 ⟨_, rfl, rfl⟩ (by decide) rfl rfl rfl rfl rfl rfl) (Eq.trans (b := [.box (c_T_spec_l1Cur c0 o2), .box [.int .i64 0, .str (ByteArray.mk #[]), .int .i64 0, .int .i64 0, .str (ByteArray.mk #[]), .str (ByteArray.mk #[]), .int .i64 0, .nilS], .box (c_T_spec_l10E false r4), .box [.int .i64 0, .str (ByteArray.mk #[]), .int .i64 0, .int .i64 0, .str (ByteArray.mk #[]), .str (ByteArray.mk #[]), .int .i64 0, .nilS]]) (by simp only [show updb b 1 2 = false from (updb_ne rfl).trans (hn 2 rfl), show updb b 1 6 = true from (updb_ne rfl).trans e6, show updb b 1 7 = false from (updb_ne rfl).trans (hn 7 rfl), cond_true, cond_false]) rfl) rfl
  refine .cons _ _ _ _ _ ⟨rfl, [(9, .bx 0 0), (10, .im false (([(ByteArray.mk #[97, 103, 101]), (ByteArray.mk #[111, 112, 101, 110]), (ByteArray.mk #[100, 101, 112, 116]), (ByteArray.mk #[116, 97, 103, 115]), (ByteArray.mk #[98, 111, 115, 115]), (ByteArray.mk #[111, 119, 110, 101, 114]), (ByteArray.mk #[119, 104, 101, 110]), (ByteArray.mk #[102, 114, 111, 109])] : List ByteArray).map (c_str)))], AllN.get rfl (.cons rfl (.cons rfl .nil)), fun b hd hn hk hc => ?_⟩ ?_
  ·cases e6 : b 6
   ·exact ops_at (σ1 := [.box (c_T_spec_l1Cur c0 o2), .box [.int .i64 0, .str (ByteArray.mk #[]), .int .i64 0, .int .i64 0, .str (ByteArray.mk #[]), .str (ByteArray.mk #[]), .int .i64 0, .nilS], .box (c_T_spec_l10E false r4)]) (by simp only [show b 2 = false from hk, show b 6 = false from e6, show b 7 = false from (hn 7 rfl), cond_true, cond_false]) rfl (o_callS [0] rfl en_17 rfl rfl (spec_l1Cur_of_p false c0 h8) rfl (by decide) (.cons _ _ _ _ rfl .nil) rfl rfl rfl) (Eq.trans (b := [.box (c_T_spec_l1Cur c0 o7), .box [.int .i64 0, .str (ByteArray.mk #[]), .int .i64 0, .int .i64 0, .str (ByteArray.mk #[]), .str (ByteArray.mk #[]), .int .i64 0, .nilS], .box (c_T_spec_l10E false r4)]) (by simp only [show updb b 2 2 = true from updb_self, show updb b 2 6 = false from (updb_ne rfl).trans e6, show updb b 2 7 = false from (updb_ne rfl).trans (hn 7 rfl), cond_true, cond_false]) rfl) rfl
   ·exact ops_at (σ1 := [.box (c_T_spec_l1Cur c0 o2), .box [.int .i64 0, .str (ByteArray.mk #[]), .int .i64 0, .int .i64 0, .str (ByteArray.mk #[]), .str (ByteArray.mk #[]), .int .i64 0, .nilS], .box (c_T_spec_l10E false r4), .box [.int .i64 0, .str (ByteArray.mk #[]), .int .i64 0, .int .i64 0, .str (ByteArray.mk #[]), .str (ByteArray.mk #[]), .int .i64 0, .nilS]]) (by simp only [show b 2 = false from hk, show b 6 = true from e6, show b 7 = false from (hn 7 rfl), cond_true, cond_false]) rfl (o_callS [0] rfl en_17 rfl rfl (spec_l1Cur_of_p false c0 h8) rfl (by decide) (.cons _ _ _ _ rfl .nil) rfl rfl rfl) (Eq.trans (b := [.box (c_T_spec_l1Cur c0 o7), .box [.int .i64 0, .str (ByteArray.mk #[]), .int .i64 0, .int .i64 0, .str (ByteArray.mk #[]), .str (ByteArray.mk #[]), .int .i64 0, .nilS], .box (c_T_spec_l10E false r4), .box [.int .i64 0, .str (ByteArray.mk #[]), .int .i64 0, .int .i64 0, .str (ByteArray.mk #[]), .str (ByteArray.mk #[]), .int .i64 0, .nilS]]) (by simp only [show updb b 2 2 = true from updb_self, show updb b 2 6 = true from (updb_ne rfl).trans e6, show updb b 2 7 = false from (updb_ne rfl).trans (hn 7 rfl), cond_true, cond_false]) rfl) rfl
  refine .cons _ _ _ _ _ ⟨rfl, [(3, .bx 2 0)], AllN.get rfl (.cons rfl .nil), fun b hd hn hk hc => ?_⟩ ?_
  ·cases e2 : b 2
   ·cases e6 : b 6
    ·exact ops_at (σ1 := [.box (c_T_spec_l1Cur c0 o2), .box [.int .i64 0, .str (ByteArray.mk #[]), .int .i64 0, .int .i64 0, .str (ByteArray.mk #[]), .str (ByteArray.mk #[]), .int .i64 0, .nilS], .box (c_T_spec_l10E false r4)]) (by simp only [show b 2 = false from e2, show b 6 = false from e6, show b 7 = false from (hn 7 rfl), cond_true, cond_false]) rfl (o_loadBx rfl tyS_67 rfl rfl (Nat.le_of_ble_eq_true rfl) rfl) (Eq.trans (b := [.box (c_T_spec_l1Cur c0 o2), .box [.int .i64 0, .str (ByteArray.mk #[]), .int .i64 0, .int .i64 0, .str (ByteArray.mk #[]), .str (ByteArray.mk #[]), .int .i64 0, .nilS], .box (c_T_spec_l10E false r4)]) (by simp only [show updb b 3 2 = false from (updb_ne rfl).trans e2, show updb b 3 6 = false from (updb_ne rfl).trans e6, show updb b 3 7 = false from (updb_ne rfl).trans (hn 7 rfl), cond_true, cond_false]) rfl) rfl
    ·exact ops_at (σ1 := [.box (c_T_spec_l1Cur c0 o2), .box [.int .i64 0, .str (ByteArray.mk #[]), .int .i64 0, .int .i64 0, .str (ByteArray.mk #[]), .str (ByteArray.mk #[]), .int .i64 0, .nilS], .box (c_T_spec_l10E false r4), .box [.int .i64 0, .str (ByteArray.mk #[]), .int .i64 0, .int .i64 0, .str (ByteArray.mk #[]), .str (ByteArray.mk #[]), .int .i64 0, .nilS]]) (by simp only [show b 2 = false from e2, show b 6 = true from e6, show b 7 = false from (hn 7 rfl), cond_true, cond_false]) rfl (o_loadBx rfl tyS_67 rfl rfl (Nat.le_of_ble_eq_true rfl) rfl) (Eq.trans (b := [.box (c_T_spec_l1Cur c0 o2), .box [.int .i64 0, .str (ByteArray.mk #[]), .int .i64 0, .int .i64 0, .str (ByteArray.mk #[]), .str (ByteArray.mk #[]), .int .i64 0, .nilS], .box (c_T_spec_l10E false r4), .box [.int .i64 0, .str (ByteArray.mk #[]), .int .i64 0, .int .i64 0, .str (ByteArray.mk #[]), .str (ByteArray.mk #[]), .int .i64 0, .nilS]]) (by simp only [show updb b 3 2 = false from (updb_ne rfl).trans e2, show updb b 3 6 = true from (updb_ne rfl).trans e6, show updb b 3 7 = false from (updb_ne rfl).trans (hn 7 rfl), cond_true, cond_false]) rfl) rfl
   ·cases e6 : b 6
    ·exact ops_at (σ1 := [.box (c_T_spec_l1Cur c0 o7), .box [.int .i64 0, .str (ByteArray.mk #[]), .int .i64 0, .int .i64 0, .str (ByteArray.mk #[]), .str (ByteArray.mk #[]), .int .i64 0, .nilS], .box (c_T_spec_l10E false r4)]) (by simp only [show b 2 = true from e2, show b 6 = false from e6, show b 7 = false from (hn 7 rfl), cond_true, cond_false]) rfl (o_loadBx rfl tyS_67 rfl rfl (Nat.le_of_ble_eq_true rfl) rfl) (Eq.trans (b := [.box (c_T_spec_l1Cur c0 o7), .box [.int .i64 0, .str (ByteArray.mk #[]), .int .i64 0, .int .i64 0, .str (ByteArray.mk #[]), .str (ByteArray.mk #[]), .int .i64 0, .nilS], .box (c_T_spec_l10E false r4)]) (by simp only [show updb b 3 2 = true from (updb_ne rfl).trans e2, show updb b 3 6 = false from (updb_ne rfl).trans e6, show updb b 3 7 = false from (updb_ne rfl).trans (hn 7 rfl), cond_true, cond_false]) rfl) rfl
    ·exact ops_at (σ1 := [.box (c_T_spec_l1Cur c0 o7), .box [.int .i64 0, .str (ByteArray.mk #[]), .int .i64 0, .int .i64 0, .str (ByteArray.mk #[]), .str (ByteArray.mk #[]), .int .i64 0, .nilS], .box (c_T_spec_l10E false r4), .box [.int .i64 0, .str (ByteArray.mk #[]), .int .i64 0, .int .i64 0, .str (ByteArray.mk #[]), .str (ByteArray.mk #[]), .int .i64 0, .nilS]]) (by simp only [show b 2 = true from e2, show b 6 = true from e6, show b 7 = false from (hn 7 rfl), cond_true, cond_false]) rfl (o_loadBx rfl tyS_67 rfl rfl (Nat.le_of_ble_eq_true rfl) rfl) (Eq.trans (b := [.box (c_T_spec_l1Cur c0 o7), .box [.int .i64 0, .str (ByteArray.mk #[]), .int .i64 0, .int .i64 0, .str (ByteArray.mk #[]), .str (ByteArray.mk #[]), .int .i64 0, .nilS], .box (c_T_spec_l10E false r4), .box [.int .i64 0, .str (ByteArray.mk #[]), .int .i64 0, .int .i64 0, .str (ByteArray.mk #[]), .str (ByteArray.mk #[]), .int .i64 0, .nilS]]) (by simp only [show updb b 3 2 = true from (updb_ne rfl).trans e2, show updb b 3 6 = true from (updb_ne rfl).trans e6, show updb b 3 7 = false from (updb_ne rfl).trans (hn 7 rfl), cond_true, cond_false]) rfl) rfl
  refine .cons _ _ _ _ _ ⟨rfl, [(12, .agg (c_T_spec_l10E false r4))], AllN.get rfl (.cons rfl .nil), fun b hd hn hk hc => ?_⟩ ?_
  ·cases e2 : b 2
   ·cases e6 : b 6
    ·exact ops_at (σ1 := [.box (c_T_spec_l1Cur c0 o2), .box [.int .i64 0, .str (ByteArray.mk #[]), .int .i64 0, .int .i64 0, .str (ByteArray.mk #[]), .str (ByteArray.mk #[]), .int .i64 0, .nilS], .box (c_T_spec_l10E false r4)]) (by simp only [show b 2 = false from e2, show b 6 = false from e6, show b 7 = false from (hn 7 rfl), cond_true, cond_false]) rfl (o_sliceIm rfl rfl tyS_67 ⟨_, rfl, rfl⟩ (by decide) rfl rfl rfl rfl rfl rfl) (Eq.trans (b := [.box (c_T_spec_l1Cur c0 o2), .box [.int .i64 0, .str (ByteArray.mk #[]), .int .i64 0, .int .i64 0, .str (ByteArray.mk #[]), .str (ByteArray.mk #[]), .int .i64 0, .nilS], .box (c_T_spec_l10E false r4)]) (by simp only [show updb b 4 2 = false from (updb_ne rfl).trans e2, show updb b 4 6 = false from (updb_ne rfl).trans e6, show updb b 4 7 = false from (updb_ne rfl).trans (hn 7 rfl), cond_true, cond_false]) rfl) rfl
    ·exact ops_at (σ1 := [.box (c_T_spec_l1Cur c0 o2), .box [.int .i64 0, .str (ByteArray.mk #[]), .int .i64 0, .int .i64 0, .str (ByteArray.mk #[]), .str (ByteArray.mk #[]), .int .i64 0, .nilS], .box (c_T_spec_l10E false r4), .box [.int .i64 0, .str (ByteArray.mk #[]), .int .i64 0, .int .i64 0, .str (ByteArray.mk #[]), .str (ByteArray.mk #[]), .int .i64 0, .nilS]]) (by simp only [show b 2 = false from e2, show b 6 = true from e6, show b 7 = false from (hn 7 rfl), cond_true, cond_false]) rfl (o_sliceIm rfl rfl tyS_67 ⟨_, rfl, rfl⟩ (by decide) rfl rfl rfl rfl rfl rfl) (Eq.trans (b := [.box (c_T_spec_l1Cur c0 o2), .box [.int .i64 0, .str (ByteArray.mk #[]), .int .i64 0, .int .i64 0, .str (ByteArray.mk #[]), .str (ByteArray.mk #[]), .int .i64 0, .nilS], .box (c_T_spec_l10E false r4), .box [.int .i64 0, .str (ByteArray.mk #[]), .int .i64 0, .int .i64 0, .str (ByteArray.mk #[]), .str (ByteArray.mk #[]), .int .i64 0, .nilS]]) (by simp only [show updb b 4 2 = false from (updb_ne rfl).trans e2, show updb b 4 6 = true from (updb_ne rfl).trans e6, show updb b 4 7 = false from (updb_ne rfl).trans (hn 7 rfl), cond_true, cond_false]) rfl) rfl
   ·cases e6 : b 6
    ·exact ops_at (σ1 := [.box (c_T_spec_l1Cur c0 o7), .box [.int .i64 0, .str (ByteArray.mk #[]), .int .i64 0, .int .i64 0, .str (ByteArray.mk #[]), .str (ByteArray.mk #[]), .int .i64 0, .nilS], .box (c_T_spec_l10E false r4)]) (by simp only [show b 2 = true from e2, show b 6 = false from e6, show b 7 = false from (hn 7 rfl), cond_true, cond_false]) rfl (o_sliceIm rfl rfl tyS_67 ⟨_, rfl, rfl⟩ (by decide) rfl rfl rfl rfl rfl rfl) (Eq.trans (b := [.box (c_T_spec_l1Cur c0 o7), .box [.int .i64 0, .str (ByteArray.mk #[]), .int .i64 0, .int .i64 0, .str (ByteArray.mk #[]), .str (ByteArray.mk #[]), .int .i64 0, .nilS], .box (c_T_spec_l10E false r4)]) (by simp only [show updb b 4 2 = true from (updb_ne rfl).trans e2, show updb b 4 6 = false from (updb_ne rfl).trans e6, show updb b 4 7 = false from (updb_ne rfl).trans (hn 7 rfl), cond_true, cond_false]) rfl) rfl
    ·exact ops_at (σ1 := [.box (c_T_spec_l1Cur c0 o7), .box [.int .i64 0, .str (ByteArray.mk #[]), .int .i64 0, .int .i64 0, .str (ByteArray.mk #[]), .str (ByteArray.mk #[]), .int .i64 0, .nilS], .box (c_T_spec_l10E false r4), .box [.int .i64 0, .str (ByteArray.mk #[]), .int .i64 0, .int .i64 0, .str (ByteArray.mk #[]), .str (ByteArray.mk #[]), .int .i64 0, .nilS]]) (by simp only [show b 2 = true from e2, show b 6 = true from e6, show b 7 = false from (hn 7 rfl), cond_true, cond_false]) rfl (o_sliceIm rfl rfl tyS_67 ⟨_, rfl, rfl⟩ (by decide) rfl rfl rfl rfl rfl rfl) (Eq.trans (b := [.box (c_T_spec_l1Cur c0 o7), .box [.int .i64 0, .str (ByteArray.mk #[]), .int .i64 0, .int .i64 0, .str (ByteArray.mk #[]), .str (ByteArray.mk #[]), .int .i64 0, .nilS], .box (c_T_spec_l10E false r4), .box [.int .i64 0, .str (ByteArray.mk #[]), .int .i64 0, .int .i64 0, .str (ByteArray.mk #[]), .str (ByteArray.mk #[]), .int .i64 0, .nilS]]) (by simp only [show updb b 4 2 = true from (updb_ne rfl).trans e2, show updb b 4 6 = true from (updb_ne rfl).trans e6, show updb b 4 7 = false from (updb_ne rfl).trans (hn 7 rfl), cond_true, cond_false]) rfl) rfl
  refine .cons _ _ _ _ _ ⟨rfl, [(11, .str r6), (13, .im false (([(c_T_spec_l10E false r4)] : List (List V)).map (c_raw)))], AllN.get rfl (.cons rfl (.cons rfl .nil)), fun b hd hn hk hc => ?_⟩ ?_
  ·cases e6 : b 6
   ·exact ops_at (σ1 := [.box (c_T_spec_l1Cur c0 o7), .box [.int .i64 0, .str (ByteArray.mk #[]), .int .i64 0, .int .i64 0, .str (ByteArray.mk #[]), .str (ByteArray.mk #[]), .int .i64 0, .nilS], .box (c_T_spec_l10E false r4)]) (by simp only [show b 2 = true from (hd 2 rfl), show b 6 = false from e6, show b 7 = false from (hn 7 rfl), cond_true, cond_false]) rfl (o_callP rfl en_60 rfl rfl (.cons _ _ _ _ (.cl _ rfl) (.cons _ _ _ _ (.cl _ rfl) (.cons _ _ _ _ (.cl _ rfl) .nil))) (spec_l10Node_p false h10)) (Eq.trans (b := [.box (c_T_spec_l1Cur c0 o7), .box [.int .i64 0, .str (ByteArray.mk #[]), .int .i64 0, .int .i64 0, .str (ByteArray.mk #[]), .str (ByteArray.mk #[]), .int .i64 0, .nilS], .box (c_T_spec_l10E false r4)]) (by simp only [show updb b 5 2 = true from (updb_ne rfl).trans (hd 2 rfl), show updb b 5 6 = false from (updb_ne rfl).trans e6, show updb b 5 7 = false from (updb_ne rfl).trans (hn 7 rfl), cond_true, cond_false]) rfl) rfl
   ·exact ops_at (σ1 := [.box (c_T_spec_l1Cur c0 o7), .box [.int .i64 0, .str (ByteArray.mk #[]), .int .i64 0, .int .i64 0, .str (ByteArray.mk #[]), .str (ByteArray.mk #[]), .int .i64 0, .nilS], .box (c_T_spec_l10E false r4), .box [.int .i64 0, .str (ByteArray.mk #[]), .int .i64 0, .int .i64 0, .str (ByteArray.mk #[]), .str (ByteArray.mk #[]), .int .i64 0, .nilS]]) (by simp only [show b 2 = true from (hd 2 rfl), show b 6 = true from e6, show b 7 = false from (hn 7 rfl), cond_true, cond_false]) rfl (o_callP rfl en_60 rfl rfl (.cons _ _ _ _ (.cl _ rfl) (.cons _ _ _ _ (.cl _ rfl) (.cons _ _ _ _ (.cl _ rfl) .nil))) (spec_l10Node_p false h10)) (Eq.trans (b := [.box (c_T_spec_l1Cur c0 o7), .box [.int .i64 0, .str (ByteArray.mk #[]), .int .i64 0, .int .i64 0, .str (ByteArray.mk #[]), .str (ByteArray.mk #[]), .int .i64 0, .nilS], .box (c_T_spec_l10E false r4), .box [.int .i64 0, .str (ByteArray.mk #[]), .int .i64 0, .int .i64 0, .str (ByteArray.mk #[]), .str (ByteArray.mk #[]), .int .i64 0, .nilS]]) (by simp only [show updb b 5 2 = true from (updb_ne rfl).trans (hd 2 rfl), show updb b 5 6 = true from (updb_ne rfl).trans e6, show updb b 5 7 = false from (updb_ne rfl).trans (hn 7 rfl), cond_true, cond_false]) rfl) rfl
  refine .cons _ _ _ _ _ ⟨rfl, [], AllN.get rfl .nil, fun b hd hn hk hc => ?_⟩ ?_
  ·cases e2 : b 2
   ·exact ops_at (σ1 := [.box (c_T_spec_l1Cur c0 o2), .box [.int .i64 0, .str (ByteArray.mk #[]), .int .i64 0, .int .i64 0, .str (ByteArray.mk #[]), .str (ByteArray.mk #[]), .int .i64 0, .nilS], .box (c_T_spec_l10E false r4)]) (by simp only [show b 2 = false from e2, show b 6 = false from hk, show b 7 = false from (hn 7 rfl), cond_true, cond_false]) rfl (o_alloc rfl ⟨_, rfl, rfl⟩) (Eq.trans (b := [.box (c_T_spec_l1Cur c0 o2), .box [.int .i64 0, .str (ByteArray.mk #[]), .int .i64 0, .int .i64 0, .str (ByteArray.mk #[]), .str (ByteArray.mk #[]), .int .i64 0, .nilS], .box (c_T_spec_l10E false r4), .box [.int .i64 0, .str (ByteArray.mk #[]), .int .i64 0, .int .i64 0, .str (ByteArray.mk #[]), .str (ByteArray.mk #[]), .int .i64 0, .nilS]]) (by simp only [show updb b 6 2 = false from (updb_ne rfl).trans e2, show updb b 6 6 = true from updb_self, show updb b 6 7 = false from (updb_ne rfl).trans (hn 7 rfl), cond_true, cond_false]) rfl) rfl
   ·exact ops_at (σ1 := [.box (c_T_spec_l1Cur c0 o7), .box [.int .i64 0, .str (ByteArray.mk #[]), .int .i64 0, .int .i64 0, .str (ByteArray.mk #[]), .str (ByteArray.mk #[]), .int .i64 0, .nilS], .box (c_T_spec_l10E false r4)]) (by simp only [show b 2 = true from e2, show b 6 = false from hk, show b 7 = false from (hn 7 rfl), cond_true, cond_false]) rfl (o_alloc rfl ⟨_, rfl, rfl⟩) (Eq.trans (b := [.box (c_T_spec_l1Cur c0 o7), .box [.int .i64 0, .str (ByteArray.mk #[]), .int .i64 0, .int .i64 0, .str (ByteArray.mk #[]), .str (ByteArray.mk #[]), .int .i64 0, .nilS], .box (c_T_spec_l10E false r4), .box [.int .i64 0, .str (ByteArray.mk #[]), .int .i64 0, .int .i64 0, .str (ByteArray.mk #[]), .str (ByteArray.mk #[]), .int .i64 0, .nilS]]) (by simp only [show updb b 6 2 = true from (updb_ne rfl).trans e2, show updb b 6 6 = true from updb_self, show updb b 6 7 = false from (updb_ne rfl).trans (hn 7 rfl), cond_true, cond_false]) rfl) rfl
  refine .cons _ _ _ _ _ ⟨rfl, [(4, .bx 3 0), (14, .agg (c_T_spec_l10E false r9))], AllN.get rfl (.cons rfl (.cons rfl .nil)), fun b hd hn hk hc => ?_⟩ ?_
  ·exact ops_at (σ1 := [.box (c_T_spec_l1Cur c0 o7), .box [.int .i64 0, .str (ByteArray.mk #[]), .int .i64 0, .int .i64 0, .str (ByteArray.mk #[]), .str (ByteArray.mk #[]), .int .i64 0, .nilS], .box (c_T_spec_l10E false r4), .box [.int .i64 0, .str (ByteArray.mk #[]), .int .i64 0, .int .i64 0, .str (ByteArray.mk #[]), .str (ByteArray.mk #[]), .int .i64 0, .nilS]]) (by simp only [show b 2 = true from (hd 2 rfl), show b 6 = true from (hd 6 rfl), show b 7 = false from hk, cond_true, cond_false]) rfl (o_storeBx rfl tyS_67 rfl rfl rfl rfl (Nat.le_of_ble_eq_true rfl) rfl) (Eq.trans (b := [.box (c_T_spec_l1Cur c0 o7), .box [.int .i64 0, .str (ByteArray.mk #[]), .int .i64 0, .int .i64 0, .str (ByteArray.mk #[]), .str (ByteArray.mk #[]), .int .i64 0, .nilS], .box (c_T_spec_l10E false r4), .box (c_T_spec_l10E false r9)]) (by simp only [show updb b 7 2 = true from (updb_ne rfl).trans (hd 2 rfl), show updb b 7 6 = true from (updb_ne rfl).trans (hd 6 rfl), show updb b 7 7 = true from updb_self, cond_true, cond_false]) rfl) rfl
  exact .nil _
 ·intro b b' h; simp only [h 2 (by decide), h 6 (by decide), h 7 (by decide)]
 refine thn_normal (T.seq (T.seq (T.region (TL.st rfl rfl rfl (o_move rfl rfl) ?_))))
 obtain ⟨⟨r11, o12⟩, h13, H⟩ := bind_s H
 refine TL.st rfl rfl rfl (o_callS [0] rfl en_13 rfl rfl (spec_l1Cur_one_p c0 h13) rfl (by decide) (.cons _ _ _ _ rfl .nil) rfl rfl rfl) ?_
 refine TL.nil (thn_normal ?_)
 refine T.cond (r11) rfl (fun h => ?_) (fun h => ?_)
 ·replace H := cond_t h H
  obtain ⟨⟨r14, o15⟩, h16, H⟩ := bind_s H
  obtain ⟨r17, h18, H⟩ := bind_s H
  refine T.drawS (fr' := [(0, .bx 0 0), (2, .bx 1 0), (3, .bx 2 0), (4, .bx 3 0), (5, .bx 0 0), (6, .im false (([(ByteArray.mk #[112, 114, 105, 110, 99, 105, 112, 97, 108]), (ByteArray.mk #[114, 101, 115, 111, 117, 114, 99, 101]), (ByteArray.mk #[99, 111, 110, 116, 101, 120, 116])] : List ByteArray).map (c_str))), (7, .str r1), (8, .agg (c_T_spec_l10E false r4)), (9, .bx 0 0), (10, .im false (([(ByteArray.mk #[97, 103, 101]), (ByteArray.mk #[111, 112, 101, 110]), (ByteArray.mk #[100, 101, 112, 116]), (ByteArray.mk #[116, 97, 103, 115]), (ByteArray.mk #[98, 111, 115, 115]), (ByteArray.mk #[111, 119, 110, 101, 114]), (ByteArray.mk #[119, 104, 101, 110]), (ByteArray.mk #[102, 114, 111, 109])] : List ByteArray).map (c_str))), (11, .str r6), (12, .agg (c_T_spec_l10E false r4)), (13, .im false (([(c_T_spec_l10E false r4)] : List (List V)).map (c_raw))), (14, .agg (c_T_spec_l10E false r9)), (15, .bx 0 0), (16, .bool r11), (17, .bx 0 0), (18, .im false (([(ByteArray.mk #[97, 103, 101]), (ByteArray.mk #[98, 111, 115, 115])] : List ByteArray).map (c_str))), (19, .str r14), (20, .agg (c_T_spec_l10E false r9)), (21, .im false (([(c_T_spec_l10E false r9)] : List (List V)).map (c_raw))), (22, .agg (c_T_spec_l10E false r17))]) (R := [⟨some 17, .bx 0 0, .q, []⟩, ⟨some 18, .im false (([(ByteArray.mk #[97, 103, 101]), (ByteArray.mk #[98, 111, 115, 115])] : List ByteArray).map (c_str)), .q, []⟩, ⟨some 19, .str r14, .q, []⟩, ⟨some 20, .agg (c_T_spec_l10E false r9), .q, []⟩, ⟨some 21, .im false (([(c_T_spec_l10E false r9)] : List (List V)).map (c_raw)), .q, []⟩, ⟨some 22, .agg (c_T_spec_l10E false r17), .q, []⟩, ⟨none, .any, .q, []⟩]) (fun b => cond (b 2) (cond (b 6) ([.box (c_T_spec_l1Cur c0 o15), .box [.int .i64 0, .str (ByteArray.mk #[]), .int .i64 0, .int .i64 0, .str (ByteArray.mk #[]), .str (ByteArray.mk #[]), .int .i64 0, .nilS], .box (c_T_spec_l10E false r4), .box (c_T_spec_l10E false r17)]) ([.box (c_T_spec_l1Cur c0 o15), .box [.int .i64 0, .str (ByteArray.mk #[]), .int .i64 0, .int .i64 0, .str (ByteArray.mk #[]), .str (ByteArray.mk #[]), .int .i64 0, .nilS], .box (c_T_spec_l10E false r4), .box (c_T_spec_l10E false r9)])) ([.box (c_T_spec_l1Cur c0 o12), .box [.int .i64 0, .str (ByteArray.mk #[]), .int .i64 0, .int .i64 0, .str (ByteArray.mk #[]), .str (ByteArray.mk #[]), .int .i64 0, .nilS], .box (c_T_spec_l10E false r4), .box (c_T_spec_l10E false r9)])) rfl ?_ ?_ rfl rfl (FrL.get (.cons rfl (.cons rfl (.cons rfl (.cons rfl (.cons rfl (.cons rfl (.cons rfl (.cons rfl (.cons rfl (.cons rfl (.cons rfl (.cons rfl (.cons rfl (.cons rfl (.cons rfl (.cons rfl (.cons rfl (.cons rfl (.cons rfl (.cons rfl (.cons rfl (.cons rfl .nil))))))))))))))))))))))) ?_
  ·refine .cons _ _ _ _ _ ⟨rfl, [(0, .bx 0 0)], AllN.get rfl (.cons rfl .nil), fun b hd hn hk hc => ?_⟩ ?_
   ·exact ops_at (σ1 := [.box (c_T_spec_l1Cur c0 o12), .box [.int .i64 0, .str (ByteArray.mk #[]), .int .i64 0, .int .i64 0, .str (ByteArray.mk #[]), .str (ByteArray.mk #[]), .int .i64 0, .nilS], .box (c_T_spec_l10E false r4), .box (c_T_spec_l10E false r9)]) (by simp only [show b 2 = false from (hn 2 rfl), show b 6 = false from (hn 6 rfl), cond_true, cond_false]) rfl (o_move rfl rfl) (Eq.trans (b := [.box (c_T_spec_l1Cur c0 o12), .box [.int .i64 0, .str (ByteArray.mk #[]), .int .i64 0, .int .i64 0, .str (ByteArray.mk #[]), .str (ByteArray.mk #[]), .int .i64 0, .nilS], .box (c_T_spec_l10E false r4), .box (c_T_spec_l10E false r9)]) (by simp only [show updb b 0 2 = false from (updb_ne rfl).trans (hn 2 rfl), show updb b 0 6 = false from (updb_ne rfl).trans (hn 6 rfl), cond_true, cond_false]) rfl) rfl
   refine .cons _ _ _ _ _ ⟨rfl, [], AllN.get rfl .nil, fun b hd hn hk hc => ?_⟩ ?_
   ·exact ops_at (σ1 := [.box (c_T_spec_l1Cur c0 o12), .box [.int .i64 0, .str (ByteArray.mk #[]), .int .i64 0, .int .i64 0, .str (ByteArray.mk #[]), .str (ByteArray.mk #[]), .int .i64 0, .nilS], .box (c_T_spec_l10E false r4), .box (c_T_spec_l10E false r9)]) (by simp only [show b 2 = false from (hn 2 rfl), show b 6 = false from (hn 6 rfl), cond_true, cond_false]) rfl (o_sliceIm rfl rfl tyS_9 ⟨_, rfl, rfl⟩ (by decide) rfl rfl rfl rfl rfl rfl) (Eq.trans (b := [.box (c_T_spec_l1Cur c0 o12), .box [.int .i64 0, .str (ByteArray.mk #[]), .int .i64 0, .int .i64 0, .str (ByteArray.mk #[]), .str (ByteArray.mk #[]), .int .i64 0, .nilS], .box (c_T_spec_l10E false r4), .box (c_T_spec_l10E false r9)]) (by simp only [show updb b 1 2 = false from (updb_ne rfl).trans (hn 2 rfl), show updb b 1 6 = false from (updb_ne rfl).trans (hn 6 rfl), cond_true, cond_false]) rfl) rfl
   refine .cons _ _ _ _ _ ⟨rfl, [(17, .bx 0 0), (18, .im false (([(ByteArray.mk #[97, 103, 101]), (ByteArray.mk #[98, 111, 115, 115])] : List ByteArray).map (c_str)))], AllN.get rfl (.cons rfl (.cons rfl .nil)), fun b hd hn hk hc => ?_⟩ ?_
   ·exact ops_at (σ1 := [.box (c_T_spec_l1Cur c0 o12), .box [.int .i64 0, .str (ByteArray.mk #[]), .int .i64 0, .int .i64 0, .str (ByteArray.mk #[]), .str (ByteArray.mk #[]), .int .i64 0, .nilS], .box (c_T_spec_l10E false r4), .box (c_T_spec_l10E false r9)]) (by simp only [show b 2 = false from hk, show b 6 = false from (hn 6 rfl), cond_true, cond_false]) rfl (o_callS [0] rfl en_17 rfl rfl (spec_l1Cur_of_p false c0 h16) rfl (by decide) (.cons _ _ _ _ rfl .nil) rfl rfl rfl) (Eq.trans (b := [.box (c_T_spec_l1Cur c0 o15), .box [.int .i64 0, .str (ByteArray.mk #[]), .int .i64 0, .int .i64 0, .str (ByteArray.mk #[]), .str (ByteArray.mk #[]), .int .i64 0, .nilS], .box (c_T_spec_l10E false r4), .box (c_T_spec_l10E false r9)]) (by simp only [show updb b 2 2 = true from updb_self, show updb b 2 6 = false from (updb_ne rfl).trans (hn 6 rfl), cond_true, cond_false]) rfl) rfl
   refine .cons _ _ _ _ _ ⟨rfl, [(4, .bx 3 0)], AllN.get rfl (.cons rfl .nil), fun b hd hn hk hc => ?_⟩ ?_
   ·cases e2 : b 2
    ·exact ops_at (σ1 := [.box (c_T_spec_l1Cur c0 o12), .box [.int .i64 0, .str (ByteArray.mk #[]), .int .i64 0, .int .i64 0, .str (ByteArray.mk #[]), .str (ByteArray.mk #[]), .int .i64 0, .nilS], .box (c_T_spec_l10E false r4), .box (c_T_spec_l10E false r9)]) (by simp only [show b 2 = false from e2, show b 6 = false from (hn 6 rfl), cond_true, cond_false]) rfl (o_loadBx rfl tyS_67 rfl rfl (Nat.le_of_ble_eq_true rfl) rfl) (Eq.trans (b := [.box (c_T_spec_l1Cur c0 o12), .box [.int .i64 0, .str (ByteArray.mk #[]), .int .i64 0, .int .i64 0, .str (ByteArray.mk #[]), .str (ByteArray.mk #[]), .int .i64 0, .nilS], .box (c_T_spec_l10E false r4), .box (c_T_spec_l10E false r9)]) (by simp only [show updb b 3 2 = false from (updb_ne rfl).trans e2, show updb b 3 6 = false from (updb_ne rfl).trans (hn 6 rfl), cond_true, cond_false]) rfl) rfl
    ·exact ops_at (σ1 := [.box (c_T_spec_l1Cur c0 o15), .box [.int .i64 0, .str (ByteArray.mk #[]), .int .i64 0, .int .i64 0, .str (ByteArray.mk #[]), .str (ByteArray.mk #[]), .int .i64 0, .nilS], .box (c_T_spec_l10E false r4), .box (c_T_spec_l10E false r9)]) (by simp only [show b 2 = true from e2, show b 6 = false from (hn 6 rfl), cond_true, cond_false]) rfl (o_loadBx rfl tyS_67 rfl rfl (Nat.le_of_ble_eq_true rfl) rfl) (Eq.trans (b := [.box (c_T_spec_l1Cur c0 o15), .box [.int .i64 0, .str (ByteArray.mk #[]), .int .i64 0, .int .i64 0, .str (ByteArray.mk #[]), .str (ByteArray.mk #[]), .int .i64 0, .nilS], .box (c_T_spec_l10E false r4), .box (c_T_spec_l10E false r9)]) (by simp only [show updb b 3 2 = true from (updb_ne rfl).trans e2, show updb b 3 6 = false from (updb_ne rfl).trans (hn 6 rfl), cond_true, cond_false]) rfl) rfl
   refine .cons _ _ _ _ _ ⟨rfl, [(20, .agg (c_T_spec_l10E false r9))], AllN.get rfl (.cons rfl .nil), fun b hd hn hk hc => ?_⟩ ?_
   ·cases e2 : b 2
    ·exact ops_at (σ1 := [.box (c_T_spec_l1Cur c0 o12), .box [.int .i64 0, .str (ByteArray.mk #[]), .int .i64 0, .int .i64 0, .str (ByteArray.mk #[]), .str (ByteArray.mk #[]), .int .i64 0, .nilS], .box (c_T_spec_l10E false r4), .box (c_T_spec_l10E false r9)]) (by simp only [show b 2 = false from e2, show b 6 = false from (hn 6 rfl), cond_true, cond_false]) rfl (o_sliceIm rfl rfl tyS_67 ⟨_, rfl, rfl⟩ (by decide) rfl rfl rfl rfl rfl rfl) (Eq.trans (b := [.box (c_T_spec_l1Cur c0 o12), .box [.int .i64 0, .str (ByteArray.mk #[]), .int .i64 0, .int .i64 0, .str (ByteArray.mk #[]), .str (ByteArray.mk #[]), .int .i64 0, .nilS], .box (c_T_spec_l10E false r4), .box (c_T_spec_l10E false r9)]) (by simp only [show updb b 4 2 = false from (updb_ne rfl).trans e2, show updb b 4 6 = false from (updb_ne rfl).trans (hn 6 rfl), cond_true, cond_false]) rfl) rfl
    ·exact ops_at (σ1 := [.box (c_T_spec_l1Cur c0 o15), .box [.int .i64 0, .str (ByteArray.mk #[]), .int .i64 0, .int .i64 0, .str (ByteArray.mk #[]), .str (ByteArray.mk #[]), .int .i64 0, .nilS], .box (c_T_spec_l10E false r4), .box (c_T_spec_l10E false r9)]) (by simp only [show b 2 = true from e2, show b 6 = false from (hn 6 rfl), cond_true, cond_false]) rfl (o_sliceIm rfl rfl tyS_67 ⟨_, rfl, rfl⟩ (by decide) rfl rfl rfl rfl rfl rfl) (Eq.trans (b := [.box (c_T_spec_l1Cur c0 o15), .box [.int .i64 0, .str (ByteArray.mk #[]), .int .i64 0, .int .i64 0, .str (ByteArray.mk #[]), .str (ByteArray.mk #[]), .int .i64 0, .nilS], .box (c_T_spec_l10E false r4), .box (c_T_spec_l10E false r9)]) (by simp only [show updb b 4 2 = true from (updb_ne rfl).trans e2, show updb b 4 6 = false from (updb_ne rfl).trans (hn 6 rfl), cond_true, cond_false]) rfl) rfl
   refine .cons _ _ _ _ _ ⟨rfl, [(19, .str r14), (21, .im false (([(c_T_spec_l10E false r9)] : List (List V)).map (c_raw)))], AllN.get rfl (.cons rfl (.cons rfl .nil)), fun b hd hn hk hc => ?_⟩ ?_
   ·exact ops_at (σ1 := [.box (c_T_spec_l1Cur c0 o15), .box [.int .i64 0, .str (ByteArray.mk #[]), .int .i64 0, .int .i64 0, .str (ByteArray.mk #[]), .str (ByteArray.mk #[]), .int .i64 0, .nilS], .box (c_T_spec_l10E false r4), .box (c_T_spec_l10E false r9)]) (by simp only [show b 2 = true from (hd 2 rfl), show b 6 = false from (hn 6 rfl), cond_true, cond_false]) rfl (o_callP rfl en_60 rfl rfl (.cons _ _ _ _ (.cl _ rfl) (.cons _ _ _ _ (.cl _ rfl) (.cons _ _ _ _ (.cl _ rfl) .nil))) (spec_l10Node_p false h18)) (Eq.trans (b := [.box (c_T_spec_l1Cur c0 o15), .box [.int .i64 0, .str (ByteArray.mk #[]), .int .i64 0, .int .i64 0, .str (ByteArray.mk #[]), .str (ByteArray.mk #[]), .int .i64 0, .nilS], .box (c_T_spec_l10E false r4), .box (c_T_spec_l10E false r9)]) (by simp only [show updb b 5 2 = true from (updb_ne rfl).trans (hd 2 rfl), show updb b 5 6 = false from (updb_ne rfl).trans (hn 6 rfl), cond_true, cond_false]) rfl) rfl
   refine .cons _ _ _ _ _ ⟨rfl, [(4, .bx 3 0), (22, .agg (c_T_spec_l10E false r17))], AllN.get rfl (.cons rfl (.cons rfl .nil)), fun b hd hn hk hc => ?_⟩ ?_
   ·exact ops_at (σ1 := [.box (c_T_spec_l1Cur c0 o15), .box [.int .i64 0, .str (ByteArray.mk #[]), .int .i64 0, .int .i64 0, .str (ByteArray.mk #[]), .str (ByteArray.mk #[]), .int .i64 0, .nilS], .box (c_T_spec_l10E false r4), .box (c_T_spec_l10E false r9)]) (by simp only [show b 2 = true from (hd 2 rfl), show b 6 = false from hk, cond_true, cond_false]) rfl (o_storeBx rfl tyS_67 rfl rfl rfl rfl (Nat.le_of_ble_eq_true rfl) rfl) (Eq.trans (b := [.box (c_T_spec_l1Cur c0 o15), .box [.int .i64 0, .str (ByteArray.mk #[]), .int .i64 0, .int .i64 0, .str (ByteArray.mk #[]), .str (ByteArray.mk #[]), .int .i64 0, .nilS], .box (c_T_spec_l10E false r4), .box (c_T_spec_l10E false r17)]) (by simp only [show updb b 6 2 = true from (updb_ne rfl).trans (hd 2 rfl), show updb b 6 6 = true from updb_self, cond_true, cond_false]) rfl) rfl
   exact .nil _
  ·intro b b' h; simp only [h 2 (by decide), h 6 (by decide)]
  refine thn_normal (T.seq (T.region (TL.st rfl rfl rfl (o_loadBx rfl tyS_67 rfl rfl (Nat.le_of_ble_eq_true rfl) rfl) ?_)))
  refine TL.sn rfl rfl (o_storeBx rfl tyS_67 rfl rfl rfl rfl (Nat.le_of_ble_eq_true rfl) rfl) ?_
  refine TL.nil (thn_normal (T.ret ?_))
  cases some_i H
  exact ⟨trivial, _, (.cell _ _ _ _ _ _ _ _ _ _ rfl rfl tyS_67 (Nat.le_of_ble_eq_true rfl) rfl .nil), ⟨rfl, _, rfl⟩⟩
 ·replace H := cond_f h H
  refine T.skip (thn_normal (T.seq (T.region (TL.st rfl rfl rfl (o_loadBx rfl tyS_67 rfl rfl (Nat.le_of_ble_eq_true rfl) rfl) ?_))))
  refine TL.sn rfl rfl (o_storeBx rfl tyS_67 rfl rfl rfl rfl (Nat.le_of_ble_eq_true rfl) rfl) ?_
  refine TL.nil (thn_normal (T.ret ?_))
  cases some_i H
  exact ⟨trivial, _, (.cell _ _ _ _ _ _ _ _ _ _ rfl rfl tyS_67 (Nat.le_of_ble_eq_true rfl) rfl .nil), ⟨rfl, _, rfl⟩⟩
theorem en_61 (us : Array Value) (w : World) : (callFunc 61 us).run Go.Proofs.Tryz.prog w = .ok (.enter 61 us) w := enters Go.Proofs.Tryz.func61 rfl rfl us w
theorem tyS_57 : TyS Go.Proofs.Tryz.prog 57 true 7 := ⟨rfl, rfl⟩
theorem tyS_65 : TyS Go.Proofs.Tryz.prog 65 false 1 := ⟨rfl, rfl⟩
theorem en_62 (us : Array Value) (w : World) : (callFunc 62 us).run Go.Proofs.Tryz.prog w = .ok (.enter 62 us) w := enters Go.Proofs.Tryz.func62 rfl rfl us w
noncomputable def spec_l10Lit (a0 : T_impl_Atom) : Option T_spec_l10E :=
  some (⟨(⟨1, (ByteArray.mk #[]), a0, 0⟩ : T_impl_Expr), ([] : List (List V))⟩ : T_spec_l10E)
theorem spec_l10Lit_p  {a0 : T_impl_Atom} {R0 : T_spec_l10E} (H : spec_l10Lit a0 = some R0) : Pure Go.Proofs.Tryz.prog 63 [.agg (c_T_impl_Atom false a0)] (.agg (c_T_spec_l10E false R0)) := by
 refine CallT.of_TN (n := 6) Go.Proofs.Tryz.func63 rfl rfl rfl rfl ?_
 refine T.seq (T.region (TL.st rfl rfl rfl (o_box rfl rfl rfl) (TL.st rfl rfl rfl (o_alloc rfl ⟨_, rfl, rfl⟩) (TL.nil (thn_normal (T.seq (T.region (TL.st rfl rfl rfl (o_loadBx rfl tyS_24 rfl rfl (Nat.le_of_ble_eq_true rfl) rfl) ?_))))))))
 refine TL.st rfl rfl rfl (o_build rfl ⟨_, fun _ => rfl, rfl⟩ rfl rfl rfl) ?_
 refine TL.st rfl rfl rfl (o_build rfl ⟨_, fun _ => rfl, rfl⟩ rfl rfl rfl) ?_
 refine TL.sn rfl rfl (o_storeBx rfl tyS_67 rfl rfl rfl rfl (Nat.le_of_ble_eq_true rfl) rfl) ?_
 refine TL.nil (thn_normal (T.ret ?_))
 cases some_i H
 exact ⟨trivial, _, (.cell _ _ _ _ _ _ _ _ _ _ rfl rfl tyS_67 (Nat.le_of_ble_eq_true rfl) rfl .nil), (.aggL (.cons _ _ _ _ (.cl _ rfl) (.cons _ _ _ _ (.cl _ rfl) (.cons _ _ _ _ (.cl _ rfl) (.cons _ _ _ _ (.cl _ rfl) (.cons _ _ _ _ (.cl _ rfl) (.cons _ _ _ _ (.cl _ rfl) (.cons _ _ _ _ (.cl _ rfl) (.cons _ _ _ _ .nil .nil)))))))))⟩
theorem en_63 (us : Array Value) (w : World) : (callFunc 63 us).run Go.Proofs.Tryz.prog w = .ok (.enter 63 us) w := enters Go.Proofs.Tryz.func63 rfl rfl us w
noncomputable def spec_l1Cur_numExpr_j3 (o2 : T_spec_l1Cur) (v22 : Bool) : Option (T_spec_l10E × T_spec_l1Cur) :=
  cond v22 ((spec_l1Cur_of ([(ByteArray.mk #[112, 114, 105, 110, 99, 105, 112, 97, 108]), (ByteArray.mk #[99, 111, 110, 116, 101, 120, 116])] : List ByteArray) o2).bind fun q => (match q with | (r23, o24) => (spec_l10Node 3 r23 ([] : List (List V))).bind fun r26 => (spec_l10Node 4 (ByteArray.mk #[97, 103, 101]) ([(c_T_spec_l10E false r26)] : List (List V))).bind fun r28 => some (r28, o24))) ((spec_l1Cur_pick 9 o2).bind fun q => (match q with | (r30, o31) => (spec_l10Lit (⟨2, (IntKind.i64.wrap (r30 - 3)), (ByteArray.mk #[]), (ByteArray.mk #[])⟩ : T_impl_Atom)).bind fun r33 => some (r33, o31)))
noncomputable def spec_l1Cur_numExpr_j2 (a0 : Int) (rec_spec_l1Cur_numExpr : (Int × T_spec_l1Cur) → Option (T_spec_l10E × T_spec_l1Cur)) (o2 : T_spec_l1Cur) (v4 : Int) (v5 : Bool) : Option (T_spec_l10E × T_spec_l1Cur) :=
  cond v5 ((spec_l1Cur_pick 3 o2).bind fun q => (match q with | (r6, o7) => (rec_spec_l1Cur_numExpr ((IntKind.i64.wrap (a0 - 1)), o7)).bind fun q => (match q with | (r9, o10) => (rec_spec_l1Cur_numExpr ((IntKind.i64.wrap (a0 - 1)), o10)).bind fun q => (match q with | (r12, o13) => (spec_l10Node (IntKind.i64.wrap (14 + r6)) (ByteArray.mk #[]) ([(c_T_spec_l10E false r9), (c_T_spec_l10E false r12)] : List (List V))).bind fun r15 => some (r15, o13))))) (cond (v4 == 2) ((rec_spec_l1Cur_numExpr ((IntKind.i64.wrap (a0 - 1)), o2)).bind fun q => (match q with | (r17, o18) => (spec_l10Node 7 (ByteArray.mk #[]) ([(c_T_spec_l10E false r17)] : List (List V))).bind fun r20 => some (r20, o18))) (cond (v4 == 3) (spec_l1Cur_numExpr_j3 o2 (v4 == 3)) (spec_l1Cur_numExpr_j3 o2 (v4 == 4))))
noncomputable def spec_l1Cur_numExpr_j1 (a0 : Int) (rec_spec_l1Cur_numExpr : (Int × T_spec_l1Cur) → Option (T_spec_l10E × T_spec_l1Cur)) (o2 : T_spec_l1Cur) (v4 : Int) : Option (T_spec_l10E × T_spec_l1Cur) :=
  cond (v4 == 0) (spec_l1Cur_numExpr_j2 a0 rec_spec_l1Cur_numExpr o2 v4 (v4 == 0)) (spec_l1Cur_numExpr_j2 a0 rec_spec_l1Cur_numExpr o2 v4 (v4 == 1))
noncomputable def spec_l1Cur_numExpr_b (rec_spec_l1Cur_numExpr : (Int × T_spec_l1Cur) → Option (T_spec_l10E × T_spec_l1Cur)) (a0 : Int) (s0 : T_spec_l1Cur) : Option (T_spec_l10E × T_spec_l1Cur) :=
  (spec_l1Cur_pick 8 s0).bind fun q => (match q with | (r1, o2) => cond (decide (a0 ≤ 0) && decide (r1 < 3)) (spec_l1Cur_numExpr_j1 a0 rec_spec_l1Cur_numExpr o2 (IntKind.i64.wrap (r1 + 3))) (spec_l1Cur_numExpr_j1 a0 rec_spec_l1Cur_numExpr o2 r1))
noncomputable def spec_l1Cur_numExpr (a0 : Int) (s0 : T_spec_l1Cur) : Option (T_spec_l10E × T_spec_l1Cur) := fixO (fun rec_spec_l1Cur_numExpr x => match x with | (a0, s0) => spec_l1Cur_numExpr_b rec_spec_l1Cur_numExpr a0 s0) (a0, s0)
theorem spec_l1Cur_numExpr_pb {rec_spec_l1Cur_numExpr : (Int × T_spec_l1Cur) → Option (T_spec_l10E × T_spec_l1Cur)} (Hrec_spec_l1Cur_numExpr : ∀ (c0 : Bool) {a0 : Int} {s0 : T_spec_l1Cur} {R0 : T_spec_l10E} {U0 : T_spec_l1Cur}, rec_spec_l1Cur_numExpr (a0, s0) = some (R0, U0) → St Go.Proofs.Tryz.prog 62 [.bx 0 0, .int .i64 a0] [.box (c_T_spec_l1Cur c0 s0)] (.agg (c_T_spec_l10E false R0)) [.box (c_T_spec_l1Cur c0 U0)]) (c0 : Bool) {a0 : Int} {s0 : T_spec_l1Cur} {R0 : T_spec_l10E} {U0 : T_spec_l1Cur} (H : spec_l1Cur_numExpr_b rec_spec_l1Cur_numExpr a0 s0 = some (R0, U0)) : St Go.Proofs.Tryz.prog 62 [.bx 0 0, .int .i64 a0] [.box (c_T_spec_l1Cur c0 s0)] (.agg (c_T_spec_l10E false R0)) [.box (c_T_spec_l1Cur c0 U0)] := by
 refine CallT.fin (CallT.of_TN (n := 55) Go.Proofs.Tryz.func62 rfl rfl rfl rfl ?_) rfl rfl ⟨(bels_iff.1 rfl), trivial⟩
 refine T.seq (T.region (TL.st rfl rfl rfl (o_alloc rfl ⟨_, rfl, rfl⟩) (TL.nil (thn_normal (T.seq (T.region (TL.st rfl rfl rfl (o_move rfl rfl) ?_)))))))
 obtain ⟨⟨r1, o2⟩, h3, H⟩ := bind_s H
 refine TL.st rfl rfl rfl (o_callS [0] rfl en_14 rfl rfl (spec_l1Cur_pick_p c0 h3) rfl (by decide) (.cons _ _ _ _ rfl .nil) rfl rfl rfl) ?_
 refine TL.st rfl rfl rfl (o_assign rfl rfl) (TL.nil (thn_normal (T.cut (fun fr' σ' => ∃ (v4 : Int), fr' = [(0, .bx 0 0), (1, .int .i64 a0), (4, .bx 1 0), (5, .int .i64 v4)] ∧ σ' = [.box (c_T_spec_l1Cur c0 o2), .box [.int .i64 0, .str (ByteArray.mk #[]), .int .i64 0, .int .i64 0, .str (ByteArray.mk #[]), .str (ByteArray.mk #[]), .int .i64 0, .nilS]] ∧ spec_l1Cur_numExpr_j1 a0 rec_spec_l1Cur_numExpr o2 v4 = some (R0, U0)) (T.pk ?_) ?_)))
 ·skip
  refine T.seq (T.region (TL.st rfl rfl rfl (o_move rfl rfl) (TL.st rfl rfl rfl (o_ari rfl rfl rfl rfl) (TL.st rfl rfl rfl (o_move rfl rfl) (TL.gcq rfl rfl rfl (.bool _) rfl rfl (fun h => o_move rfl rfl) (TL.gcq rfl rfl rfl (.bool _) rfl rfl (fun h => o_ari rfl (gv h rfl) rfl rfl) ?_))))))
  refine TL.st rfl rfl rfl (o_and rfl rfl rfl (fun k => Gd_t k) rfl) (TL.nil (thn_normal ?_))
  refine T.cond ((decide (a0 ≤ 0) && decide (r1 < 3))) rfl (fun h => ?_) (fun h => ?_)
  ·replace H := cond_t h H
   refine T.region (TL.st rfl rfl rfl (o_move rfl rfl) (TL.st rfl rfl rfl (o_ari rfl rfl rfl rfl) (TL.st rfl rfl rfl (o_assign rfl rfl) (TL.nil ?_))))
   exact Pk.go (fr' := [(0, .bx 0 0), (1, .int .i64 a0), (4, .bx 1 0), (5, .int .i64 (IntKind.i64.wrap (r1 + 3)))]) (σ' := [.box (c_T_spec_l1Cur c0 o2), .box [.int .i64 0, .str (ByteArray.mk #[]), .int .i64 0, .int .i64 0, .str (ByteArray.mk #[]), .str (ByteArray.mk #[]), .int .i64 0, .nilS]]) _ rfl rfl ⟨(bels_iff.1 rfl), ⟨(bels_iff.1 rfl), trivial⟩⟩ (.cons 0 _ (.bx 0 0) _ rfl (.same _) rfl (.cons 1 _ (.int .i64 a0) _ rfl (.same _) rfl (.cons 4 _ (.bx 1 0) _ rfl (.same _) rfl (.cons 5 _ (.int .i64 (IntKind.i64.wrap (r1 + 3))) _ rfl (.same _) rfl .nil)))) (thn_normal ⟨(IntKind.i64.wrap (r1 + 3)), rfl, rfl, H⟩)
  ·replace H := cond_f h H
   refine T.skip ?_
   exact Pk.go (fr' := [(0, .bx 0 0), (1, .int .i64 a0), (4, .bx 1 0), (5, .int .i64 r1)]) (σ' := [.box (c_T_spec_l1Cur c0 o2), .box [.int .i64 0, .str (ByteArray.mk #[]), .int .i64 0, .int .i64 0, .str (ByteArray.mk #[]), .str (ByteArray.mk #[]), .int .i64 0, .nilS]]) _ rfl rfl ⟨(bels_iff.1 rfl), ⟨(bels_iff.1 rfl), trivial⟩⟩ (.cons 0 _ (.bx 0 0) _ rfl (.same _) rfl (.cons 1 _ (.int .i64 a0) _ rfl (.same _) rfl (.cons 4 _ (.bx 1 0) _ rfl (.same _) rfl (.cons 5 _ (.int .i64 r1) _ rfl (.same _) rfl .nil)))) (thn_normal ⟨r1, rfl, rfl, H⟩)
 ·rintro _ _ ⟨v4, rfl, rfl, H⟩
  refine T.seq (T.seq (T.region (TL.st rfl rfl rfl (o_move rfl rfl) (TL.nil (thn_normal (T.block (T.cut (fun fr' σ' => ∃ (v5 : Bool), fr' = [(0, .bx 0 0), (1, .int .i64 a0), (4, .bx 1 0), (16, .int .i64 v4), (17, .bool v5)] ∧ σ' = [.box (c_T_spec_l1Cur c0 o2), .box [.int .i64 0, .str (ByteArray.mk #[]), .int .i64 0, .int .i64 0, .str (ByteArray.mk #[]), .str (ByteArray.mk #[]), .int .i64 0, .nilS]] ∧ spec_l1Cur_numExpr_j2 a0 rec_spec_l1Cur_numExpr o2 v4 v5 = some (R0, U0)) (T.pk ?_) ?_)))))))
  ·skip
   refine T.seq (T.region (TL.st rfl rfl rfl (o_ari rfl rfl rfl rfl) (TL.st rfl rfl rfl (o_assign rfl rfl) (TL.nil (thn_normal ?_)))))
   refine T.cond ((v4 == 0)) rfl (fun h => ?_) (fun h => ?_)
   ·replace H := cond_t h H
    refine T.skip ?_
    exact Pk.go (fr' := [(0, .bx 0 0), (1, .int .i64 a0), (4, .bx 1 0), (16, .int .i64 v4), (17, .bool (v4 == 0))]) (σ' := [.box (c_T_spec_l1Cur c0 o2), .box [.int .i64 0, .str (ByteArray.mk #[]), .int .i64 0, .int .i64 0, .str (ByteArray.mk #[]), .str (ByteArray.mk #[]), .int .i64 0, .nilS]]) _ rfl rfl ⟨(bels_iff.1 rfl), ⟨(bels_iff.1 rfl), trivial⟩⟩ (.cons 0 _ (.bx 0 0) _ rfl (.same _) rfl (.cons 1 _ (.int .i64 a0) _ rfl (.same _) rfl (.cons 4 _ (.bx 1 0) _ rfl (.same _) rfl (.cons 16 _ (.int .i64 v4) _ rfl (.same _) rfl (.cons 17 _ (.bool (v4 == 0)) _ rfl (.same _) rfl .nil))))) (thn_normal ⟨(v4 == 0), rfl, rfl, H⟩)
   ·replace H := cond_f h H
    refine T.region (TL.st rfl rfl rfl (o_ari rfl rfl rfl rfl) (TL.st rfl rfl rfl (o_assign rfl rfl) (TL.nil ?_)))
    exact Pk.go (fr' := [(0, .bx 0 0), (1, .int .i64 a0), (4, .bx 1 0), (16, .int .i64 v4), (17, .bool (v4 == 1))]) (σ' := [.box (c_T_spec_l1Cur c0 o2), .box [.int .i64 0, .str (ByteArray.mk #[]), .int .i64 0, .int .i64 0, .str (ByteArray.mk #[]), .str (ByteArray.mk #[]), .int .i64 0, .nilS]]) _ rfl rfl ⟨(bels_iff.1 rfl), ⟨(bels_iff.1 rfl), trivial⟩⟩ (.cons 0 _ (.bx 0 0) _ rfl (.same _) rfl (.cons 1 _ (.int .i64 a0) _ rfl (.same _) rfl (.cons 4 _ (.bx 1 0) _ rfl (.same _) rfl (.cons 16 _ (.int .i64 v4) _ rfl (.same _) rfl (.cons 17 _ (.bool (v4 == 1)) _ rfl (.same _) rfl .nil))))) (thn_normal ⟨(v4 == 1), rfl, rfl, H⟩)
  ·rintro _ _ ⟨v5, rfl, rfl, H⟩
   refine T.cond (v5) rfl (fun h => ?_) (fun h => ?_)
   ·replace H := cond_t h H
    refine T.seq (T.region (TL.st rfl rfl rfl (o_move rfl rfl) ?_))
    obtain ⟨⟨r6, o7⟩, h8, H⟩ := bind_s H
    refine TL.st rfl rfl rfl (o_callS [0] rfl en_14 rfl rfl (spec_l1Cur_pick_p c0 h8) rfl (by decide) (.cons _ _ _ _ rfl .nil) rfl rfl rfl) ?_
    refine TL.st rfl rfl rfl (o_ari rfl rfl rfl rfl) (TL.st rfl rfl rfl (o_move rfl rfl) (TL.st rfl rfl rfl (o_move rfl rfl) (TL.st rfl rfl rfl (o_ari rfl rfl rfl rfl) ?_)))
    obtain ⟨⟨r9, o10⟩, h11, H⟩ := bind_s H
    refine TL.st rfl rfl rfl (o_callS [0] rfl en_62 rfl rfl (Hrec_spec_l1Cur_numExpr c0 h11) rfl (by decide) (.cons _ _ _ _ rfl .nil) rfl rfl rfl) ?_
    refine TL.st rfl rfl rfl (o_move rfl rfl) (TL.st rfl rfl rfl (o_move rfl rfl) (TL.st rfl rfl rfl (o_ari rfl rfl rfl rfl) ?_))
    obtain ⟨⟨r12, o13⟩, h14, H⟩ := bind_s H
    refine TL.st rfl rfl rfl (o_callS [0] rfl en_62 rfl rfl (Hrec_spec_l1Cur_numExpr c0 h14) rfl (by decide) (.cons _ _ _ _ rfl .nil) rfl rfl rfl) ?_
    refine TL.st rfl rfl rfl (o_sliceIm rfl rfl tyS_67 ⟨_, rfl, rfl⟩ (by decide) rfl rfl rfl rfl rfl rfl) ?_
    obtain ⟨r15, h16, H⟩ := bind_s H
    refine TL.st rfl rfl rfl (o_callP rfl en_60 rfl rfl (.cons _ _ _ _ (.cl _ rfl) (.cons _ _ _ _ (.cl _ rfl) (.cons _ _ _ _ (.cl _ rfl) .nil))) (spec_l10Node_p false h16)) ?_
    refine TL.sn rfl rfl (o_storeBx rfl tyS_67 rfl rfl rfl rfl (Nat.le_of_ble_eq_true rfl) rfl) ?_
    refine TL.nil (thn_normal (T.ret (inB_ret (thn_ret ?_))))
    cases some_i H
    exact ⟨trivial, _, (.cell _ _ _ _ _ _ _ _ _ _ rfl rfl tyS_67 (Nat.le_of_ble_eq_true rfl) rfl .nil), ⟨rfl, _, rfl⟩⟩
   ·replace H := cond_f h H
    refine T.seq (T.region (TL.st rfl rfl rfl (o_ari rfl rfl rfl rfl) (TL.st rfl rfl rfl (o_assign rfl rfl) (TL.nil (thn_normal ?_)))))
    refine T.cond ((v4 == 2)) rfl (fun h => ?_) (fun h => ?_)
    ·replace H := cond_t h H
     refine T.seq (T.region (TL.st rfl rfl rfl (o_move rfl rfl) (TL.st rfl rfl rfl (o_move rfl rfl) (TL.st rfl rfl rfl (o_ari rfl rfl rfl rfl) ?_))))
     obtain ⟨⟨r17, o18⟩, h19, H⟩ := bind_s H
     refine TL.st rfl rfl rfl (o_callS [0] rfl en_62 rfl rfl (Hrec_spec_l1Cur_numExpr c0 h19) rfl (by decide) (.cons _ _ _ _ rfl .nil) rfl rfl rfl) ?_
     refine TL.st rfl rfl rfl (o_sliceIm rfl rfl tyS_67 ⟨_, rfl, rfl⟩ (by decide) rfl rfl rfl rfl rfl rfl) ?_
     obtain ⟨r20, h21, H⟩ := bind_s H
     refine TL.st rfl rfl rfl (o_callP rfl en_60 rfl rfl (.cons _ _ _ _ (.cl _ rfl) (.cons _ _ _ _ (.cl _ rfl) (.cons _ _ _ _ (.cl _ rfl) .nil))) (spec_l10Node_p false h21)) ?_
     refine TL.sn rfl rfl (o_storeBx rfl tyS_67 rfl rfl rfl rfl (Nat.le_of_ble_eq_true rfl) rfl) ?_
     refine TL.nil (thn_normal (T.ret (inB_ret (thn_ret ?_))))
     cases some_i H
     exact ⟨trivial, _, (.cell _ _ _ _ _ _ _ _ _ _ rfl rfl tyS_67 (Nat.le_of_ble_eq_true rfl) rfl .nil), ⟨rfl, _, rfl⟩⟩
    ·replace H := cond_f h H
     refine T.cut (fun fr' σ' => ∃ (v22 : Bool), fr' = [(0, .bx 0 0), (4, .bx 1 0), (41, .bool v22)] ∧ σ' = [.box (c_T_spec_l1Cur c0 o2), .box [.int .i64 0, .str (ByteArray.mk #[]), .int .i64 0, .int .i64 0, .str (ByteArray.mk #[]), .str (ByteArray.mk #[]), .int .i64 0, .nilS]] ∧ spec_l1Cur_numExpr_j3 o2 v22 = some (R0, U0)) (T.pk ?_) ?_
     ·skip
      refine T.seq (T.region (TL.st rfl rfl rfl (o_ari rfl rfl rfl rfl) (TL.st rfl rfl rfl (o_assign rfl rfl) (TL.nil (thn_normal ?_)))))
      refine T.cond ((v4 == 3)) rfl (fun h => ?_) (fun h => ?_)
      ·replace H := cond_t h H
       refine T.skip ?_
       exact Pk.go (fr' := [(0, .bx 0 0), (4, .bx 1 0), (41, .bool (v4 == 3))]) (σ' := [.box (c_T_spec_l1Cur c0 o2), .box [.int .i64 0, .str (ByteArray.mk #[]), .int .i64 0, .int .i64 0, .str (ByteArray.mk #[]), .str (ByteArray.mk #[]), .int .i64 0, .nilS]]) _ rfl rfl ⟨(bels_iff.1 rfl), ⟨(bels_iff.1 rfl), trivial⟩⟩ (.cons 0 _ (.bx 0 0) _ rfl (.same _) rfl (.cons 4 _ (.bx 1 0) _ rfl (.same _) rfl (.cons 41 _ (.bool (v4 == 3)) _ rfl (.same _) rfl .nil))) (thn_normal ⟨(v4 == 3), rfl, rfl, H⟩)
      ·replace H := cond_f h H
       refine T.region (TL.st rfl rfl rfl (o_ari rfl rfl rfl rfl) (TL.st rfl rfl rfl (o_assign rfl rfl) (TL.nil ?_)))
       exact Pk.go (fr' := [(0, .bx 0 0), (4, .bx 1 0), (41, .bool (v4 == 4))]) (σ' := [.box (c_T_spec_l1Cur c0 o2), .box [.int .i64 0, .str (ByteArray.mk #[]), .int .i64 0, .int .i64 0, .str (ByteArray.mk #[]), .str (ByteArray.mk #[]), .int .i64 0, .nilS]]) _ rfl rfl ⟨(bels_iff.1 rfl), ⟨(bels_iff.1 rfl), trivial⟩⟩ (.cons 0 _ (.bx 0 0) _ rfl (.same _) rfl (.cons 4 _ (.bx 1 0) _ rfl (.same _) rfl (.cons 41 _ (.bool (v4 == 4)) _ rfl (.same _) rfl .nil))) (thn_normal ⟨(v4 == 4), rfl, rfl, H⟩)
     ·rintro _ _ ⟨v22, rfl, rfl, H⟩
      refine T.cond (v22) rfl (fun h => ?_) (fun h => ?_)
      ·replace H := cond_t h H
       refine T.seq (T.region (TL.st rfl rfl rfl (o_move rfl rfl) (TL.st rfl rfl rfl (o_sliceIm rfl rfl tyS_9 ⟨_, rfl, rfl⟩ (by decide) rfl rfl rfl rfl rfl rfl) ?_)))
       obtain ⟨⟨r23, o24⟩, h25, H⟩ := bind_s H
       refine TL.st rfl rfl rfl (o_callS [0] rfl en_17 rfl rfl (spec_l1Cur_of_p false c0 h25) rfl (by decide) (.cons _ _ _ _ rfl .nil) rfl rfl rfl) ?_
       obtain ⟨r26, h27, H⟩ := bind_s H
       refine TL.st rfl rfl rfl (o_callP rfl en_60 rfl rfl (.cons _ _ _ _ (.cl _ rfl) (.cons _ _ _ _ (.cl _ rfl) (.cons _ _ _ _ .nil .nil))) (spec_l10Node_p false h27)) ?_
       refine TL.st rfl rfl rfl (o_sliceIm rfl rfl tyS_67 ⟨_, rfl, rfl⟩ (by decide) rfl rfl rfl rfl rfl rfl) ?_
       obtain ⟨r28, h29, H⟩ := bind_s H
       refine TL.st rfl rfl rfl (o_callP rfl en_60 rfl rfl (.cons _ _ _ _ (.cl _ rfl) (.cons _ _ _ _ (.cl _ rfl) (.cons _ _ _ _ (.cl _ rfl) .nil))) (spec_l10Node_p false h29)) ?_
       refine TL.sn rfl rfl (o_storeBx rfl tyS_67 rfl rfl rfl rfl (Nat.le_of_ble_eq_true rfl) rfl) ?_
       refine TL.nil (thn_normal (T.ret (inB_ret (thn_ret ?_))))
       cases some_i H
       exact ⟨trivial, _, (.cell _ _ _ _ _ _ _ _ _ _ rfl rfl tyS_67 (Nat.le_of_ble_eq_true rfl) rfl .nil), ⟨rfl, _, rfl⟩⟩
      ·replace H := cond_f h H
       refine T.skip (inB_normal (thn_normal (T.seq (T.region (TL.st rfl rfl rfl (o_move rfl rfl) ?_)))))
       obtain ⟨⟨r30, o31⟩, h32, H⟩ := bind_s H
       refine TL.st rfl rfl rfl (o_callS [0] rfl en_14 rfl rfl (spec_l1Cur_pick_p c0 h32) rfl (by decide) (.cons _ _ _ _ rfl .nil) rfl rfl rfl) ?_
       refine TL.st rfl rfl rfl (o_ari rfl rfl rfl rfl) (TL.st rfl rfl rfl (o_build rfl ⟨_, fun _ => rfl, rfl⟩ rfl rfl rfl) ?_)
       obtain ⟨r33, h34, H⟩ := bind_s H
       refine TL.st rfl rfl rfl (o_callP rfl en_63 rfl rfl (.cons _ _ _ _ (.cl _ rfl) .nil) (spec_l10Lit_p  h34)) ?_
       refine TL.sn rfl rfl (o_storeBx rfl tyS_67 rfl rfl rfl rfl (Nat.le_of_ble_eq_true rfl) rfl) ?_
       refine TL.nil (thn_normal (T.ret ?_))
       cases some_i H
       exact ⟨trivial, _, (.cell _ _ _ _ _ _ _ _ _ _ rfl rfl tyS_67 (Nat.le_of_ble_eq_true rfl) rfl .nil), ⟨rfl, _, rfl⟩⟩
theorem spec_l1Cur_numExpr_p (c0 : Bool) {a0 : Int} {s0 : T_spec_l1Cur} {R0 : T_spec_l10E} {U0 : T_spec_l1Cur} (H : spec_l1Cur_numExpr a0 s0 = some (R0, U0)) : St Go.Proofs.Tryz.prog 62 [.bx 0 0, .int .i64 a0] [.box (c_T_spec_l1Cur c0 s0)] (.agg (c_T_spec_l10E false R0)) [.box (c_T_spec_l1Cur c0 U0)] :=
 fixO_ind (fun x r => match x, r with | (a0, s0), (R0, U0) => ∀ (c0 : Bool), St Go.Proofs.Tryz.prog 62 [.bx 0 0, .int .i64 a0] [.box (c_T_spec_l1Cur c0 s0)] (.agg (c_T_spec_l10E false R0)) [.box (c_T_spec_l1Cur c0 U0)]) (fun rec_spec_l1Cur_numExpr Hrec x r h => match x, r, h with | (a0, s0), (R0, U0), h => fun c0 => spec_l1Cur_numExpr_pb (fun c0 {a0} {s0} {R0} {U0} h => Hrec (a0, s0) (R0, U0) h c0) c0 h) H c0
noncomputable def spec_l1Cur_wide_l1  : (T_spec_l1Cur × Int × Int) → Option ((T_spec_l1Cur × Int × Int) ⊕ (T_spec_l1Cur × Int)) := fun s => match s with
  | (b1, v2, v3) => cond (decide (v3 < 8)) ((spec_l1Cur_next b1).bind fun q => (match q with | (r7, o8) => some (.inl (o8, (IntKind.i64.wrap (BitVec.ofInt IntKind.i64.bits (IntKind.i64.wrap (v2 * 2 ^ (min (Int.toNat 8) IntKind.i64.bits))) ||| BitVec.ofInt IntKind.i64.bits r7).toNat), (IntKind.i64.wrap (v3 + 1)))))) (some (.inr (b1, v2)))
noncomputable def spec_l1Cur_wide (s0 : T_spec_l1Cur) : Option (Int × T_spec_l1Cur) :=
  (loopO (spec_l1Cur_wide_l1) (s0, 0, 0)).bind fun q10 => (match q10 with | (b4, v5) => some (v5, b4))
theorem spec_l1Cur_wide_p (c0 : Bool) {s0 : T_spec_l1Cur} {R0 : Int} {U0 : T_spec_l1Cur} (H : spec_l1Cur_wide s0 = some (R0, U0)) : St Go.Proofs.Tryz.prog 40 [.bx 0 0] [.box (c_T_spec_l1Cur c0 s0)] (.int .i64 R0) [.box (c_T_spec_l1Cur c0 U0)] := by
 refine CallT.fin (CallT.of_TN (n := 15) Go.Proofs.Tryz.func40 rfl rfl rfl rfl ?_) rfl rfl ⟨(bels_iff.1 rfl), trivial⟩
 refine T.seq (T.region (TL.st rfl rfl rfl (o_assign rfl rfl) (TL.nil (thn_normal (T.seq (T.region (TL.st rfl rfl rfl (o_assign rfl rfl) (TL.nil (thn_normal (T.seq (T.seq (T.region (TL.st rfl rfl rfl (o_assign rfl rfl) (TL.nil (thn_normal (T.block ?_))))))))))))))))
 obtain ⟨q10, h11, H⟩ := bind_s H
 refine T.to (.cons 0 _ (.bx 0 0) _ rfl (.same _) rfl (.cons 3 _ (.int .i64 0) _ rfl (.same _) rfl (.cons 4 _ (.int .i64 0) _ rfl (.same _) rfl .nil))) ?_
 refine T.lp (fun s => match s with | (b1, v2, v3) => [(0, .bx 0 0), (3, .int .i64 v2), (4, .int .i64 v3)]) (fun s => match s with | (b1, v2, v3) => [.box (c_T_spec_l1Cur c0 b1)]) (fun q ex fr σ => match q with | (b4, v5) => ex = .exit 0 ∧ fr = [(3, .int .i64 v5)] ∧ σ = [.box (c_T_spec_l1Cur c0 b4)]) h11 ?_ ?_ ?_ ?_ ?_
 ·rintro ⟨b1, v2, v3⟩ y6 H
  refine T.seq (T.seq (T.region (TL.st rfl rfl rfl (o_move rfl rfl) (TL.st rfl rfl rfl (o_ari rfl rfl rfl rfl) (TL.nil (thn_normal ?_))))))
  refine T.cond (decide (v3 < 8)) rfl (fun h => ?_) (fun h => ?_)
  ·replace H := cond_t h H
   refine T.skip (thn_normal (T.seq (T.block (T.region (TL.st rfl rfl rfl (o_move rfl rfl) (TL.st rfl rfl rfl (o_shl rfl rfl rfl (by decide)) ?_))))))
   refine TL.st rfl rfl rfl (o_move rfl rfl) ?_
   obtain ⟨⟨r7, o8⟩, h9, H⟩ := bind_s H
   refine TL.st rfl rfl rfl (o_callS [0] rfl en_39 rfl rfl (spec_l1Cur_next_p c0 h9) rfl (by decide) (.cons _ _ _ _ rfl .nil) rfl rfl rfl) ?_
   refine TL.st rfl rfl rfl (o_bits rfl rfl rfl rfl) ?_
   refine TL.st rfl rfl rfl (o_assign rfl rfl) (TL.nil (inB_normal (thn_normal (T.region (TL.st rfl rfl rfl (o_move rfl rfl) (TL.st rfl rfl rfl (o_ari rfl rfl rfl rfl) (TL.st rfl rfl rfl (o_assign rfl rfl) (TL.nil ?_))))))))
   exact Pk.go (fr' := [(0, .bx 0 0), (3, .int .i64 (IntKind.i64.wrap (BitVec.ofInt IntKind.i64.bits (IntKind.i64.wrap (v2 * 2 ^ (min (Int.toNat 8) IntKind.i64.bits))) ||| BitVec.ofInt IntKind.i64.bits r7).toNat)), (4, .int .i64 (IntKind.i64.wrap (v3 + 1)))]) (σ' := [.box (c_T_spec_l1Cur c0 o8)]) _ rfl rfl ⟨(bels_iff.1 rfl), trivial⟩ (.cons 0 _ (.bx 0 0) _ rfl (.same _) rfl (.cons 3 _ (.int .i64 (IntKind.i64.wrap (BitVec.ofInt IntKind.i64.bits (IntKind.i64.wrap (v2 * 2 ^ (min (Int.toNat 8) IntKind.i64.bits))) ||| BitVec.ofInt IntKind.i64.bits r7).toNat)) _ rfl (.same _) rfl (.cons 4 _ (.int .i64 (IntKind.i64.wrap (v3 + 1))) _ rfl (.same _) rfl .nil))) (thn_normal ⟨(o8, (IntKind.i64.wrap (BitVec.ofInt IntKind.i64.bits (IntKind.i64.wrap (v2 * 2 ^ (min (Int.toNat 8) IntKind.i64.bits))) ||| BitVec.ofInt IntKind.i64.bits r7).toNat), (IntKind.i64.wrap (v3 + 1))), (some_i H).symm, rfl, rfl⟩)
  ·replace H := cond_f h H
   refine T.exit (thn_exit ?_)
   exact Pk.go (fr' := [(3, .int .i64 v2)]) (σ' := [.box (c_T_spec_l1Cur c0 b1)]) _ rfl rfl ⟨(bels_iff.1 rfl), trivial⟩ (.cons 3 _ (.int .i64 v2) _ rfl (.same _) rfl .nil) (thn_exit ⟨(b1, v2), (some_i H).symm, rfl, rfl, rfl⟩)
 ·rintro ⟨b1, v2, v3⟩ ⟨b1', v2', v3'⟩; rfl
 ·rintro ⟨b1, v2, v3⟩; exact ⟨(bels_iff.1 rfl), trivial⟩
 ·rintro ⟨b1, v2, v3⟩; exact (.cons _ _ _ rfl rfl (.cons _ _ _ rfl rfl (.cons _ _ _ rfl rfl .nil)))
 ·rcases q10 with ⟨b4, v5⟩
  rintro _ _ _ ⟨rfl, rfl, rfl⟩
  refine inB_here (thn_normal (T.seq (T.region (TL.st rfl rfl rfl (o_move rfl rfl) (TL.st rfl rfl rfl (o_assign rfl rfl) (TL.nil (thn_normal (T.ret ?_))))))))
  cases some_i H
  exact ⟨trivial, _, (.tmp _ _ _ _ rfl .nil), ⟨rfl, _, rfl⟩⟩
theorem en_40 (us : Array Value) (w : World) : (callFunc 40 us).run Go.Proofs.Tryz.prog w = .ok (.enter 40 us) w := enters Go.Proofs.Tryz.func40 rfl rfl us w
theorem tyE_5 : TyE Go.Proofs.Tryz.prog 5 1 := ⟨_, _, rfl, rfl, rfl, rfl, by decide, by decide⟩
noncomputable def spec_l1Cur_printed_l1  : (T_spec_l1Cur × List Int × Int) → Option ((T_spec_l1Cur × List Int × Int) ⊕ (T_spec_l1Cur × List Int)) := fun s => match s with
  | (b4, l5, v6) => cond (decide (v6 > 0)) ((spec_l1Cur_pick 18 b4).bind fun q => (match q with | (r10, o11) => (idxS (ByteArray.mk #[97, 98, 42, 92, 34, 44, 58, 32, 91, 93, 123, 125, 64, 49, 46, 47, 120, 126, 32]) r10).bind fun b13 => (app l5 ([b13] : List Int)).bind fun l15 => some (.inl (o11, l15, (IntKind.i64.wrap (v6 - 1)))))) (some (.inr (b4, l5)))
noncomputable def spec_l1Cur_printed (s0 : T_spec_l1Cur) : Option (ByteArray × T_spec_l1Cur) :=
  (spec_l1Cur_pick 6 s0).bind fun q => (match q with | (r1, o2) => (loopO (spec_l1Cur_printed_l1) (o2, ([] : List Int), r1)).bind fun q17 => (match q17 with | (b7, l8) => some ((byS l8), b7)))
theorem spec_l1Cur_printed_p (c0 : Bool) {s0 : T_spec_l1Cur} {R0 : ByteArray} {U0 : T_spec_l1Cur} (H : spec_l1Cur_printed s0 = some (R0, U0)) : St Go.Proofs.Tryz.prog 41 [.bx 0 0] [.box (c_T_spec_l1Cur c0 s0)] (.str R0) [.box (c_T_spec_l1Cur c0 U0)] := by
 refine CallT.fin (CallT.of_TN (n := 19) Go.Proofs.Tryz.func41 rfl rfl rfl rfl ?_) rfl rfl ⟨(bels_iff.1 rfl), trivial⟩
 refine T.seq (T.region (TL.st rfl rfl rfl (o_assign rfl rfl) (TL.nil (thn_normal (T.seq (T.region (TL.st rfl rfl rfl (o_assign rfl rfl) (TL.nil (thn_normal (T.seq (T.seq (T.region (TL.st rfl rfl rfl (o_move rfl rfl) ?_)))))))))))))
 obtain ⟨⟨r1, o2⟩, h3, H⟩ := bind_s H
 refine TL.st rfl rfl rfl (o_callS [0] rfl en_14 rfl rfl (spec_l1Cur_pick_p c0 h3) rfl (by decide) (.cons _ _ _ _ rfl .nil) rfl rfl rfl) ?_
 refine TL.st rfl rfl rfl (o_assign rfl rfl) (TL.nil (thn_normal (T.block (T.conv (Cs.own (t := 3) 1 rfl (by decide)) ?_))))
 obtain ⟨q17, h18, H⟩ := bind_s H
 refine T.to (.cons 0 _ (.bx 0 0) _ rfl (.same _) rfl (.cons 3 _ (.hd 1 (([] : List Int).map (c_int .u8)).length 0 (([] : List Int).map (c_int .u8)).length) _ rfl (.same _) rfl (.cons 4 _ (.int .i64 r1) _ rfl (.same _) rfl .nil))) ?_
 refine T.lp (fun s => match s with | (b4, l5, v6) => [(0, .bx 0 0), (3, .hd 1 (l5.map (c_int .u8)).length 0 (l5.map (c_int .u8)).length), (4, .int .i64 v6)]) (fun s => match s with | (b4, l5, v6) => [.box (c_T_spec_l1Cur c0 b4), .arr .clo 1 (l5.map (c_int .u8))]) (fun q ex fr σ => match q with | (b7, l8) => ex = .exit 0 ∧ fr = [(3, .hd 1 (l8.map (c_int .u8)).length 0 (l8.map (c_int .u8)).length)] ∧ σ = [.box (c_T_spec_l1Cur c0 b7), .arr .clo 1 (l8.map (c_int .u8))]) h18 ?_ ?_ ?_ ?_ ?_
 ·rintro ⟨b4, l5, v6⟩ y9 H
  refine T.seq (T.seq (T.region (TL.st rfl rfl rfl (o_move rfl rfl) (TL.st rfl rfl rfl (o_ari rfl rfl rfl rfl) (TL.nil (thn_normal ?_))))))
  refine T.cond (decide (v6 > 0)) rfl (fun h => ?_) (fun h => ?_)
  ·replace H := cond_t h H
   refine T.skip (thn_normal (T.seq (T.block (T.region (TL.st rfl rfl rfl (o_move rfl rfl) (TL.st rfl rfl rfl (o_move rfl rfl) ?_))))))
   obtain ⟨⟨r10, o11⟩, h12, H⟩ := bind_s H
   refine TL.st rfl rfl rfl (o_callS [0] rfl en_14 rfl rfl (spec_l1Cur_pick_p c0 h12) rfl (by decide) (.cons _ _ _ _ rfl .nil) rfl rfl rfl) ?_
   obtain ⟨b13, h14, H⟩ := bind_s H
   refine TL.st rfl rfl rfl (o_ixs rfl rfl rfl rfl h14) ?_
   refine TL.st rfl rfl rfl (o_sliceIm rfl rfl tyS_5 ⟨_, rfl, rfl⟩ (by decide) rfl rfl rfl rfl rfl rfl) ?_
   obtain ⟨l15, h16, H⟩ := bind_s H
   refine TL.st rfl rfl rfl (o_ap (f := c_int .u8) (xs := l5) (ys := ([b13] : List Int)) rfl rfl tyE_5 rfl rfl rfl rfl (by decide) rfl (fun _ => rfl) h16) ?_
   refine TL.st rfl rfl rfl (o_assign rfl rfl) (TL.nil (inB_normal (thn_normal (T.region (TL.st rfl rfl rfl (o_move rfl rfl) (TL.st rfl rfl rfl (o_ari rfl rfl rfl rfl) (TL.st rfl rfl rfl (o_assign rfl rfl) (TL.nil ?_))))))))
   exact Pk.go (fr' := [(0, .bx 0 0), (3, .hd 1 (l15.map (c_int .u8)).length 0 (l15.map (c_int .u8)).length), (4, .int .i64 (IntKind.i64.wrap (v6 - 1)))]) (σ' := [.box (c_T_spec_l1Cur c0 o11), .arr .clo 1 (l15.map (c_int .u8))]) _ rfl rfl ⟨(bels_iff.1 rfl), ⟨trivial, trivial⟩⟩ (.cons 0 _ (.bx 0 0) _ rfl (.same _) rfl (.cons 3 _ (.hd 1 (l15.map (c_int .u8)).length 0 (l15.map (c_int .u8)).length) _ rfl (.same _) rfl (.cons 4 _ (.int .i64 (IntKind.i64.wrap (v6 - 1))) _ rfl (.same _) rfl .nil))) (thn_normal ⟨(o11, l15, (IntKind.i64.wrap (v6 - 1))), (some_i H).symm, rfl, rfl⟩)
  ·replace H := cond_f h H
   refine T.exit (thn_exit ?_)
   exact Pk.go (fr' := [(3, .hd 1 (l5.map (c_int .u8)).length 0 (l5.map (c_int .u8)).length)]) (σ' := [.box (c_T_spec_l1Cur c0 b4), .arr .clo 1 (l5.map (c_int .u8))]) _ rfl rfl ⟨(bels_iff.1 rfl), ⟨trivial, trivial⟩⟩ (.cons 3 _ (.hd 1 (l5.map (c_int .u8)).length 0 (l5.map (c_int .u8)).length) _ rfl (.same _) rfl .nil) (thn_exit ⟨(b4, l5), (some_i H).symm, rfl, rfl, rfl⟩)
 ·rintro ⟨b4, l5, v6⟩ ⟨b4', l5', v6'⟩; rfl
 ·rintro ⟨b4, l5, v6⟩; exact ⟨(bels_iff.1 rfl), ⟨trivial, trivial⟩⟩
 ·rintro ⟨b4, l5, v6⟩; exact (.cons _ _ _ rfl rfl (.cons _ _ _ rfl rfl (.cons _ _ _ rfl rfl .nil)))
 ·rcases q17 with ⟨b7, l8⟩
  rintro _ _ _ ⟨rfl, rfl, rfl⟩
  refine inB_here (thn_normal (T.seq (T.region (TL.st rfl rfl rfl (o_move rfl rfl) (TL.st rfl rfl rfl (o_bsOwn (f := c_int .u8) rfl rfl rfl rfl (fun _ => rfl) rfl rfl rfl) ?_)))))
  refine TL.st rfl rfl rfl (o_assign rfl rfl) (TL.nil (thn_normal (T.ret ?_)))
  cases some_i H
  exact ⟨trivial, _, (.tmp _ _ _ _ rfl .nil), ⟨rfl, _, rfl⟩⟩
theorem en_41 (us : Array Value) (w : World) : (callFunc 41 us).run Go.Proofs.Tryz.prog w = .ok (.enter 41 us) w := enters Go.Proofs.Tryz.func41 rfl rfl us w
noncomputable def spec_l1Pow2_l1 (a0 : Int) : (Int × Int) → Option ((Int × Int) ⊕ Int) := fun s => match s with
  | (v1, v2) => cond (decide (v2 < a0)) (some (.inl ((IntKind.i64.wrap (v1 * 2)), (IntKind.i64.wrap (v2 + 1))))) (some (.inr v1))
noncomputable def spec_l1Pow2 (a0 : Int) : Option Int :=
  (loopO (spec_l1Pow2_l1 a0) (1, 0)).bind fun v3 => (match v3 with | v3 => some v3)
theorem spec_l1Pow2_p  {a0 : Int} {R0 : Int} (H : spec_l1Pow2 a0 = some R0) : Pure Go.Proofs.Tryz.prog 52 [.int .i64 a0] (.int .i64 R0) := by
 refine CallT.of_TN (n := 13) Go.Proofs.Tryz.func52 rfl rfl rfl rfl ?_
 refine T.seq (T.region (TL.st rfl rfl rfl (o_assign rfl rfl) (TL.nil (thn_normal (T.seq (T.region (TL.st rfl rfl rfl (o_assign rfl rfl) (TL.nil (thn_normal (T.seq (T.seq (T.region (TL.st rfl rfl rfl (o_assign rfl rfl) (TL.nil (thn_normal (T.block ?_))))))))))))))))
 obtain ⟨v3, h6, H⟩ := bind_s H
 refine T.to (.cons 0 _ (.int .i64 a0) _ rfl (.same _) rfl (.cons 3 _ (.int .i64 1) _ rfl (.same _) rfl (.cons 4 _ (.int .i64 0) _ rfl (.same _) rfl .nil))) ?_
 refine T.lp (fun s => match s with | (v1, v2) => [(0, .int .i64 a0), (3, .int .i64 v1), (4, .int .i64 v2)]) (fun s => match s with | (v1, v2) => []) (fun q ex fr σ => match q with | v3 => ex = .exit 0 ∧ fr = [(3, .int .i64 v3)] ∧ σ = []) h6 ?_ ?_ ?_ ?_ ?_
 ·rintro ⟨v1, v2⟩ y4 H
  refine T.seq (T.seq (T.region (TL.st rfl rfl rfl (o_move rfl rfl) (TL.st rfl rfl rfl (o_move rfl rfl) (TL.st rfl rfl rfl (o_ari rfl rfl rfl rfl) (TL.nil (thn_normal ?_)))))))
  refine T.cond (decide (v2 < a0)) rfl (fun h => ?_) (fun h => ?_)
  ·replace H := cond_t h H
   refine T.skip (thn_normal (T.seq (T.block (T.region (TL.st rfl rfl rfl (o_move rfl rfl) (TL.st rfl rfl rfl (o_ari rfl rfl rfl rfl) (TL.st rfl rfl rfl (o_assign rfl rfl) (TL.nil (inB_normal (thn_normal (T.region (TL.st rfl rfl rfl (o_move rfl rfl) (TL.st rfl rfl rfl (o_ari rfl rfl rfl rfl) (TL.st rfl rfl rfl (o_assign rfl rfl) (TL.nil ?_)))))))))))))))
   exact Pk.go (fr' := [(0, .int .i64 a0), (3, .int .i64 (IntKind.i64.wrap (v1 * 2))), (4, .int .i64 (IntKind.i64.wrap (v2 + 1)))]) (σ' := []) _ rfl rfl trivial (.cons 0 _ (.int .i64 a0) _ rfl (.same _) rfl (.cons 3 _ (.int .i64 (IntKind.i64.wrap (v1 * 2))) _ rfl (.same _) rfl (.cons 4 _ (.int .i64 (IntKind.i64.wrap (v2 + 1))) _ rfl (.same _) rfl .nil))) (thn_normal ⟨((IntKind.i64.wrap (v1 * 2)), (IntKind.i64.wrap (v2 + 1))), (some_i H).symm, rfl, rfl⟩)
  ·replace H := cond_f h H
   refine T.exit (thn_exit ?_)
   exact Pk.go (fr' := [(3, .int .i64 v1)]) (σ' := []) _ rfl rfl trivial (.cons 3 _ (.int .i64 v1) _ rfl (.same _) rfl .nil) (thn_exit ⟨v1, (some_i H).symm, rfl, rfl, rfl⟩)
 ·rintro ⟨v1, v2⟩ ⟨v1', v2'⟩; rfl
 ·rintro ⟨v1, v2⟩; exact trivial
 ·rintro ⟨v1, v2⟩; exact (.cons _ _ _ rfl rfl (.cons _ _ _ rfl rfl (.cons _ _ _ rfl rfl .nil)))
 ·rintro _ _ _ ⟨rfl, rfl, rfl⟩
  refine inB_here (thn_normal (T.seq (T.region (TL.st rfl rfl rfl (o_move rfl rfl) (TL.st rfl rfl rfl (o_assign rfl rfl) (TL.nil (thn_normal (T.ret ?_))))))))
  cases some_i H
  exact ⟨trivial, _, (.tmp _ _ _ _ rfl .nil), (.cl _ rfl)⟩
theorem en_52 (us : Array Value) (w : World) : (callFunc 52 us).run Go.Proofs.Tryz.prog w = .ok (.enter 52 us) w := enters Go.Proofs.Tryz.func52 rfl rfl us w
noncomputable def spec_l1Cur_block (s0 : T_spec_l1Cur) : Option (T_impl_Atom × T_spec_l1Cur) :=
  (spec_l1Cur_pick 6 s0).bind fun q => (match q with | (r1, o2) => (idx ([0, 8, 16, 24, 31, 32] : List Int) r1).bind fun e4 => (spec_l1Cur_pick 4 o2).bind fun q => (match q with | (r6, o7) => (idx ([10, 10, 192, 255] : List Int) r6).bind fun e9 => (spec_l1Cur_pick 3 o7).bind fun q => (match q with | (r11, o12) => (spec_l1Cur_pick 2 o12).bind fun q => (match q with | (r14, o15) => (spec_l1Cur_pick 4 o15).bind fun q => (match q with | (r17, o18) => (spec_l1Pow2 (IntKind.i64.wrap (32 - e4))).bind fun r20 => (nz r20).bind fun z22 => some ((⟨6, (IntKind.i64.wrap ((IntKind.i64.wrap ((IntKind.i64.wrap ((IntKind.i64.wrap (Int.tdiv (IntKind.i64.wrap ((IntKind.i64.wrap ((IntKind.i64.wrap ((IntKind.i64.wrap (e9 * 16777216)) + (IntKind.i64.wrap (r11 * 65536)))) + (IntKind.i64.wrap (r14 * 256)))) + r17)) r20)) * r20)) * 64)) + e4)), (ByteArray.mk #[]), (ByteArray.mk #[])⟩ : T_impl_Atom), o18))))))
theorem spec_l1Cur_block_p (c0 : Bool) {s0 : T_spec_l1Cur} {R0 : T_impl_Atom} {U0 : T_spec_l1Cur} (H : spec_l1Cur_block s0 = some (R0, U0)) : St Go.Proofs.Tryz.prog 42 [.bx 0 0] [.box (c_T_spec_l1Cur c0 s0)] (.agg (c_T_impl_Atom false R0)) [.box (c_T_spec_l1Cur c0 U0)] := by
 refine CallT.fin (CallT.of_TN (n := 40) Go.Proofs.Tryz.func42 rfl rfl rfl rfl ?_) rfl rfl ⟨(bels_iff.1 rfl), trivial⟩
 refine T.seq (T.region (TL.st rfl rfl rfl (o_alloc rfl ⟨_, rfl, rfl⟩) (TL.nil (thn_normal (T.seq (T.region (TL.st rfl rfl rfl (o_sliceIm rfl rfl tyS_3 ⟨_, rfl, rfl⟩ (by decide) rfl rfl rfl rfl rfl rfl) ?_)))))))
 refine TL.st rfl rfl rfl (o_move rfl rfl) ?_
 obtain ⟨⟨r1, o2⟩, h3, H⟩ := bind_s H
 refine TL.st rfl rfl rfl (o_callS [0] rfl en_14 rfl rfl (spec_l1Cur_pick_p c0 h3) rfl (by decide) (.cons _ _ _ _ rfl .nil) rfl rfl rfl) ?_
 obtain ⟨e4, h5, H⟩ := bind_s H
 refine TL.st rfl rfl rfl (o_ix (f := c_int .i64) rfl rfl tyS_3 rfl rfl h5 rfl) ?_
 refine TL.st rfl rfl rfl (o_loadRf rfl tyS_3 rfl (Nat.le_of_ble_eq_true rfl) rfl) ?_
 refine TL.st rfl rfl rfl (o_assign rfl rfl) (TL.nil (thn_normal (T.seq (T.drawn rfl ?_))))
 refine TD.qs rfl rfl (fun _ => o_sliceIm rfl rfl tyS_3 ⟨_, rfl, rfl⟩ (by decide) rfl rfl rfl rfl rfl rfl) ?_
 refine TD.qs rfl rfl (fun _ => o_move rfl rfl) ?_
 obtain ⟨⟨r6, o7⟩, h8, H⟩ := bind_s H
 refine TD.as rfl rfl (o_callS [0] rfl en_14 rfl rfl (spec_l1Cur_pick_p c0 h8) rfl (by decide) (.cons _ _ _ _ rfl .nil) rfl rfl rfl) ?_
 obtain ⟨e9, h10, H⟩ := bind_s H
 refine TD.qs rfl rfl (fun _ => o_ix (f := c_int .i64) rfl rfl tyS_3 rfl rfl h10 rfl) ?_
 refine TD.qs rfl rfl (fun _ => o_loadRf rfl tyS_3 rfl (Nat.le_of_ble_eq_true rfl) rfl) ?_
 refine TD.qs rfl rfl (fun _ => o_ari rfl rfl rfl rfl) ?_
 refine TD.qs rfl rfl (fun _ => o_move rfl rfl) ?_
 obtain ⟨⟨r11, o12⟩, h13, H⟩ := bind_s H
 refine TD.as rfl rfl (o_callS [0] rfl en_14 rfl rfl (spec_l1Cur_pick_p c0 h13) rfl (by decide) (.cons _ _ _ _ rfl .nil) rfl rfl rfl) ?_
 refine TD.qs rfl rfl (fun _ => o_ari rfl rfl rfl rfl) ?_
 refine TD.qs rfl rfl (fun _ => o_ari rfl rfl rfl rfl) ?_
 refine TD.qs rfl rfl (fun _ => o_move rfl rfl) ?_
 obtain ⟨⟨r14, o15⟩, h16, H⟩ := bind_s H
 refine TD.as rfl rfl (o_callS [0] rfl en_14 rfl rfl (spec_l1Cur_pick_p c0 h16) rfl (by decide) (.cons _ _ _ _ rfl .nil) rfl rfl rfl) ?_
 refine TD.qs rfl rfl (fun _ => o_ari rfl rfl rfl rfl) ?_
 refine TD.qs rfl rfl (fun _ => o_ari rfl rfl rfl rfl) ?_
 refine TD.qs rfl rfl (fun _ => o_move rfl rfl) ?_
 obtain ⟨⟨r17, o18⟩, h19, H⟩ := bind_s H
 refine TD.as rfl rfl (o_callS [0] rfl en_14 rfl rfl (spec_l1Cur_pick_p c0 h19) rfl (by decide) (.cons _ _ _ _ rfl .nil) rfl rfl rfl) ?_
 refine TD.qs rfl rfl (fun _ => o_ari rfl rfl rfl rfl) ?_
 refine TD.qs rfl rfl (fun _ => o_assign rfl rfl) ?_
 refine TD.nil ⟨rfl, ?_⟩
 refine thn_normal (T.seq (T.region (TL.st rfl rfl rfl (o_move rfl rfl) (TL.st rfl rfl rfl (o_ari rfl rfl rfl rfl) ?_))))
 obtain ⟨r20, h21, H⟩ := bind_s H
 refine TL.st rfl rfl rfl (o_callP rfl en_52 rfl rfl (.cons _ _ _ _ (.cl _ rfl) .nil) (spec_l1Pow2_p  h21)) ?_
 refine TL.st rfl rfl rfl (o_assign rfl rfl) (TL.nil (thn_normal (T.seq (T.region (TL.st rfl rfl rfl (o_move rfl rfl) (TL.st rfl rfl rfl (o_move rfl rfl) ?_))))))
 obtain ⟨z22, h23, H⟩ := bind_s H
 refine TL.st rfl rfl rfl (o_quo rfl rfl rfl (nz_s h23).1) ?_
 refine TL.st rfl rfl rfl (o_move rfl rfl) (TL.st rfl rfl rfl (o_ari rfl rfl rfl rfl) (TL.st rfl rfl rfl (o_ari rfl rfl rfl rfl) (TL.st rfl rfl rfl (o_move rfl rfl) (TL.st rfl rfl rfl (o_ari rfl rfl rfl rfl) (TL.st rfl rfl rfl (o_build rfl ⟨_, fun _ => rfl, rfl⟩ rfl rfl rfl) ?_)))))
 refine TL.sn rfl rfl (o_storeBx rfl tyS_24 rfl rfl rfl rfl (Nat.le_of_ble_eq_true rfl) rfl) ?_
 refine TL.nil (thn_normal (T.ret ?_))
 cases some_i H
 exact ⟨trivial, _, (.cell _ _ _ _ _ _ _ _ _ _ rfl rfl tyS_24 (Nat.le_of_ble_eq_true rfl) rfl .nil), ⟨rfl, _, rfl⟩⟩
theorem en_42 (us : Array Value) (w : World) : (callFunc 42 us).run Go.Proofs.Tryz.prog w = .ok (.enter 42 us) w := enters Go.Proofs.Tryz.func42 rfl rfl us w
noncomputable def spec_l1Cur_atom (s0 : T_spec_l1Cur) : Option (T_impl_Atom × T_spec_l1Cur) :=
  (spec_l1Cur_pick 9 s0).bind fun q => (match q with | (r1, o2) => cond (r1 == 0) ((spec_l1Cur_pick 2 o2).bind fun q => (match q with | (r4, o5) => some ((⟨1, r4, (ByteArray.mk #[]), (ByteArray.mk #[])⟩ : T_impl_Atom), o5))) (cond (r1 == 1) ((spec_l1Cur_pick 7 o2).bind fun q => (match q with | (r7, o8) => some ((⟨2, (IntKind.i64.wrap (r7 - 3)), (ByteArray.mk #[]), (ByteArray.mk #[])⟩ : T_impl_Atom), o8))) (cond (r1 == 2) ((spec_l1Cur_wide o2).bind fun q => (match q with | (r10, o11) => some ((⟨2, r10, (ByteArray.mk #[]), (ByteArray.mk #[])⟩ : T_impl_Atom), o11))) (cond (r1 == 3) ((spec_l1Cur_printed o2).bind fun q => (match q with | (r13, o14) => some ((⟨3, 0, r13, (ByteArray.mk #[])⟩ : T_impl_Atom), o14))) (cond (r1 == 4) ((spec_l1Cur_of ([(ByteArray.mk #[85, 115, 101, 114]), (ByteArray.mk #[68, 111, 99]), (ByteArray.mk #[95, 103, 49])] : List ByteArray) o2).bind fun q => (match q with | (r16, o17) => (spec_l1Cur_of ([(ByteArray.mk #[97, 110, 110]), (ByteArray.mk #[98, 111, 98]), (ByteArray.mk #[97, 32, 98]), (ByteArray.mk #[120, 34, 121]), (ByteArray.mk #[92])] : List ByteArray) o17).bind fun q => (match q with | (r19, o20) => some ((⟨4, 0, r19, r16⟩ : T_impl_Atom), o20)))) (cond (r1 == 5) ((spec_l1Cur_pick 40000 o2).bind fun q => (match q with | (r22, o23) => some ((⟨5, (IntKind.i64.wrap (r22 - 20000)), (ByteArray.mk #[]), (ByteArray.mk #[])⟩ : T_impl_Atom), o23))) (cond (r1 == 6) ((spec_l1Cur_block o2).bind fun q => (match q with | (r25, o26) => some (r25, o26))) (cond (r1 == 7) ((spec_l1Cur_pick 1000 o2).bind fun q => (match q with | (r28, o29) => some ((⟨7, (IntKind.i64.wrap (r28 - 10)), (ByteArray.mk #[]), (ByteArray.mk #[])⟩ : T_impl_Atom), o29))) ((spec_l1Cur_wide o2).bind fun q => (match q with | (r31, o32) => some ((⟨5, r31, (ByteArray.mk #[]), (ByteArray.mk #[])⟩ : T_impl_Atom), o32)))))))))))
theorem spec_l1Cur_atom_p (c0 : Bool) {s0 : T_spec_l1Cur} {R0 : T_impl_Atom} {U0 : T_spec_l1Cur} (H : spec_l1Cur_atom s0 = some (R0, U0)) : St Go.Proofs.Tryz.prog 16 [.bx 0 0] [.box (c_T_spec_l1Cur c0 s0)] (.agg (c_T_impl_Atom false R0)) [.box (c_T_spec_l1Cur c0 U0)] := by
 refine CallT.fin (CallT.of_TN (n := 54) Go.Proofs.Tryz.func16 rfl rfl rfl rfl ?_) rfl rfl ⟨(bels_iff.1 rfl), trivial⟩
 refine T.seq (T.region (TL.st rfl rfl rfl (o_alloc rfl ⟨_, rfl, rfl⟩) (TL.nil (thn_normal (T.seq (T.seq (T.region (TL.st rfl rfl rfl (o_move rfl rfl) ?_))))))))
 obtain ⟨⟨r1, o2⟩, h3, H⟩ := bind_s H
 refine TL.st rfl rfl rfl (o_callS [0] rfl en_14 rfl rfl (spec_l1Cur_pick_p c0 h3) rfl (by decide) (.cons _ _ _ _ rfl .nil) rfl rfl rfl) ?_
 refine TL.nil (thn_normal (T.block (T.seq (T.region (TL.st rfl rfl rfl (o_ari rfl rfl rfl rfl) (TL.st rfl rfl rfl (o_assign rfl rfl) (TL.nil (thn_normal ?_))))))))
 refine T.cond ((r1 == 0)) rfl (fun h => ?_) (fun h => ?_)
 ·replace H := cond_t h H
  refine T.seq (T.region (TL.st rfl rfl rfl (o_move rfl rfl) ?_))
  obtain ⟨⟨r4, o5⟩, h6, H⟩ := bind_s H
  refine TL.st rfl rfl rfl (o_callS [0] rfl en_14 rfl rfl (spec_l1Cur_pick_p c0 h6) rfl (by decide) (.cons _ _ _ _ rfl .nil) rfl rfl rfl) ?_
  refine TL.st rfl rfl rfl (o_build rfl ⟨_, fun _ => rfl, rfl⟩ rfl rfl rfl) ?_
  refine TL.sn rfl rfl (o_storeBx rfl tyS_24 rfl rfl rfl rfl (Nat.le_of_ble_eq_true rfl) rfl) ?_
  refine TL.nil (thn_normal (T.ret (inB_ret (thn_ret ?_))))
  cases some_i H
  exact ⟨trivial, _, (.cell _ _ _ _ _ _ _ _ _ _ rfl rfl tyS_24 (Nat.le_of_ble_eq_true rfl) rfl .nil), ⟨rfl, _, rfl⟩⟩
 ·replace H := cond_f h H
  refine T.seq (T.region (TL.st rfl rfl rfl (o_ari rfl rfl rfl rfl) (TL.st rfl rfl rfl (o_assign rfl rfl) (TL.nil (thn_normal ?_)))))
  refine T.cond ((r1 == 1)) rfl (fun h => ?_) (fun h => ?_)
  ·replace H := cond_t h H
   refine T.seq (T.region (TL.st rfl rfl rfl (o_move rfl rfl) ?_))
   obtain ⟨⟨r7, o8⟩, h9, H⟩ := bind_s H
   refine TL.st rfl rfl rfl (o_callS [0] rfl en_14 rfl rfl (spec_l1Cur_pick_p c0 h9) rfl (by decide) (.cons _ _ _ _ rfl .nil) rfl rfl rfl) ?_
   refine TL.st rfl rfl rfl (o_ari rfl rfl rfl rfl) (TL.st rfl rfl rfl (o_build rfl ⟨_, fun _ => rfl, rfl⟩ rfl rfl rfl) ?_)
   refine TL.sn rfl rfl (o_storeBx rfl tyS_24 rfl rfl rfl rfl (Nat.le_of_ble_eq_true rfl) rfl) ?_
   refine TL.nil (thn_normal (T.ret (inB_ret (thn_ret ?_))))
   cases some_i H
   exact ⟨trivial, _, (.cell _ _ _ _ _ _ _ _ _ _ rfl rfl tyS_24 (Nat.le_of_ble_eq_true rfl) rfl .nil), ⟨rfl, _, rfl⟩⟩
  ·replace H := cond_f h H
   refine T.seq (T.region (TL.st rfl rfl rfl (o_ari rfl rfl rfl rfl) (TL.st rfl rfl rfl (o_assign rfl rfl) (TL.nil (thn_normal ?_)))))
   refine T.cond ((r1 == 2)) rfl (fun h => ?_) (fun h => ?_)
   ·replace H := cond_t h H
    refine T.seq (T.region (TL.st rfl rfl rfl (o_move rfl rfl) ?_))
    obtain ⟨⟨r10, o11⟩, h12, H⟩ := bind_s H
    refine TL.st rfl rfl rfl (o_callS [0] rfl en_40 rfl rfl (spec_l1Cur_wide_p c0 h12) rfl (by decide) (.cons _ _ _ _ rfl .nil) rfl rfl rfl) ?_
    refine TL.st rfl rfl rfl (o_build rfl ⟨_, fun _ => rfl, rfl⟩ rfl rfl rfl) ?_
    refine TL.sn rfl rfl (o_storeBx rfl tyS_24 rfl rfl rfl rfl (Nat.le_of_ble_eq_true rfl) rfl) ?_
    refine TL.nil (thn_normal (T.ret (inB_ret (thn_ret ?_))))
    cases some_i H
    exact ⟨trivial, _, (.cell _ _ _ _ _ _ _ _ _ _ rfl rfl tyS_24 (Nat.le_of_ble_eq_true rfl) rfl .nil), ⟨rfl, _, rfl⟩⟩
   ·replace H := cond_f h H
    refine T.seq (T.region (TL.st rfl rfl rfl (o_ari rfl rfl rfl rfl) (TL.st rfl rfl rfl (o_assign rfl rfl) (TL.nil (thn_normal ?_)))))
    refine T.cond ((r1 == 3)) rfl (fun h => ?_) (fun h => ?_)
    ·replace H := cond_t h H
     refine T.seq (T.region (TL.st rfl rfl rfl (o_move rfl rfl) ?_))
     obtain ⟨⟨r13, o14⟩, h15, H⟩ := bind_s H
     refine TL.st rfl rfl rfl (o_callS [0] rfl en_41 rfl rfl (spec_l1Cur_printed_p c0 h15) rfl (by decide) (.cons _ _ _ _ rfl .nil) rfl rfl rfl) ?_
     refine TL.st rfl rfl rfl (o_build rfl ⟨_, fun _ => rfl, rfl⟩ rfl rfl rfl) ?_
     refine TL.sn rfl rfl (o_storeBx rfl tyS_24 rfl rfl rfl rfl (Nat.le_of_ble_eq_true rfl) rfl) ?_
     refine TL.nil (thn_normal (T.ret (inB_ret (thn_ret ?_))))
     cases some_i H
     exact ⟨trivial, _, (.cell _ _ _ _ _ _ _ _ _ _ rfl rfl tyS_24 (Nat.le_of_ble_eq_true rfl) rfl .nil), ⟨rfl, _, rfl⟩⟩
    ·replace H := cond_f h H
     refine T.seq (T.region (TL.st rfl rfl rfl (o_ari rfl rfl rfl rfl) (TL.st rfl rfl rfl (o_assign rfl rfl) (TL.nil (thn_normal ?_)))))
     refine T.cond ((r1 == 4)) rfl (fun h => ?_) (fun h => ?_)
     ·replace H := cond_t h H
      refine T.seq (T.region (TL.st rfl rfl rfl (o_move rfl rfl) (TL.st rfl rfl rfl (o_sliceIm rfl rfl tyS_9 ⟨_, rfl, rfl⟩ (by decide) rfl rfl rfl rfl rfl rfl) ?_)))
      obtain ⟨⟨r16, o17⟩, h18, H⟩ := bind_s H
      refine TL.st rfl rfl rfl (o_callS [0] rfl en_17 rfl rfl (spec_l1Cur_of_p false c0 h18) rfl (by decide) (.cons _ _ _ _ rfl .nil) rfl rfl rfl) ?_
      refine TL.st rfl rfl rfl (o_move rfl rfl) (TL.st rfl rfl rfl (o_sliceIm rfl rfl tyS_9 ⟨_, rfl, rfl⟩ (by decide) rfl rfl rfl rfl rfl rfl) ?_)
      obtain ⟨⟨r19, o20⟩, h21, H⟩ := bind_s H
      refine TL.st rfl rfl rfl (o_callS [0] rfl en_17 rfl rfl (spec_l1Cur_of_p false c0 h21) rfl (by decide) (.cons _ _ _ _ rfl .nil) rfl rfl rfl) ?_
      refine TL.st rfl rfl rfl (o_build rfl ⟨_, fun _ => rfl, rfl⟩ rfl rfl rfl) ?_
      refine TL.sn rfl rfl (o_storeBx rfl tyS_24 rfl rfl rfl rfl (Nat.le_of_ble_eq_true rfl) rfl) ?_
      refine TL.nil (thn_normal (T.ret (inB_ret (thn_ret ?_))))
      cases some_i H
      exact ⟨trivial, _, (.cell _ _ _ _ _ _ _ _ _ _ rfl rfl tyS_24 (Nat.le_of_ble_eq_true rfl) rfl .nil), ⟨rfl, _, rfl⟩⟩
     ·replace H := cond_f h H
      refine T.seq (T.region (TL.st rfl rfl rfl (o_ari rfl rfl rfl rfl) (TL.st rfl rfl rfl (o_assign rfl rfl) (TL.nil (thn_normal ?_)))))
      refine T.cond ((r1 == 5)) rfl (fun h => ?_) (fun h => ?_)
      ·replace H := cond_t h H
       refine T.seq (T.region (TL.st rfl rfl rfl (o_move rfl rfl) ?_))
       obtain ⟨⟨r22, o23⟩, h24, H⟩ := bind_s H
       refine TL.st rfl rfl rfl (o_callS [0] rfl en_14 rfl rfl (spec_l1Cur_pick_p c0 h24) rfl (by decide) (.cons _ _ _ _ rfl .nil) rfl rfl rfl) ?_
       refine TL.st rfl rfl rfl (o_ari rfl rfl rfl rfl) (TL.st rfl rfl rfl (o_build rfl ⟨_, fun _ => rfl, rfl⟩ rfl rfl rfl) ?_)
       refine TL.sn rfl rfl (o_storeBx rfl tyS_24 rfl rfl rfl rfl (Nat.le_of_ble_eq_true rfl) rfl) ?_
       refine TL.nil (thn_normal (T.ret (inB_ret (thn_ret ?_))))
       cases some_i H
       exact ⟨trivial, _, (.cell _ _ _ _ _ _ _ _ _ _ rfl rfl tyS_24 (Nat.le_of_ble_eq_true rfl) rfl .nil), ⟨rfl, _, rfl⟩⟩
      ·replace H := cond_f h H
       refine T.seq (T.region (TL.st rfl rfl rfl (o_ari rfl rfl rfl rfl) (TL.st rfl rfl rfl (o_assign rfl rfl) (TL.nil (thn_normal ?_)))))
       refine T.cond ((r1 == 6)) rfl (fun h => ?_) (fun h => ?_)
       ·replace H := cond_t h H
        refine T.seq (T.region (TL.st rfl rfl rfl (o_move rfl rfl) ?_))
        obtain ⟨⟨r25, o26⟩, h27, H⟩ := bind_s H
        refine TL.st rfl rfl rfl (o_callS [0] rfl en_42 rfl rfl (spec_l1Cur_block_p c0 h27) rfl (by decide) (.cons _ _ _ _ rfl .nil) rfl rfl rfl) ?_
        refine TL.sn rfl rfl (o_storeBx rfl tyS_24 rfl rfl rfl rfl (Nat.le_of_ble_eq_true rfl) rfl) ?_
        refine TL.nil (thn_normal (T.ret (inB_ret (thn_ret ?_))))
        cases some_i H
        exact ⟨trivial, _, (.cell _ _ _ _ _ _ _ _ _ _ rfl rfl tyS_24 (Nat.le_of_ble_eq_true rfl) rfl .nil), ⟨rfl, _, rfl⟩⟩
       ·replace H := cond_f h H
        refine T.seq (T.region (TL.st rfl rfl rfl (o_ari rfl rfl rfl rfl) (TL.st rfl rfl rfl (o_assign rfl rfl) (TL.nil (thn_normal ?_)))))
        refine T.cond ((r1 == 7)) rfl (fun h => ?_) (fun h => ?_)
        ·replace H := cond_t h H
         refine T.seq (T.region (TL.st rfl rfl rfl (o_move rfl rfl) ?_))
         obtain ⟨⟨r28, o29⟩, h30, H⟩ := bind_s H
         refine TL.st rfl rfl rfl (o_callS [0] rfl en_14 rfl rfl (spec_l1Cur_pick_p c0 h30) rfl (by decide) (.cons _ _ _ _ rfl .nil) rfl rfl rfl) ?_
         refine TL.st rfl rfl rfl (o_ari rfl rfl rfl rfl) (TL.st rfl rfl rfl (o_build rfl ⟨_, fun _ => rfl, rfl⟩ rfl rfl rfl) ?_)
         refine TL.sn rfl rfl (o_storeBx rfl tyS_24 rfl rfl rfl rfl (Nat.le_of_ble_eq_true rfl) rfl) ?_
         refine TL.nil (thn_normal (T.ret (inB_ret (thn_ret ?_))))
         cases some_i H
         exact ⟨trivial, _, (.cell _ _ _ _ _ _ _ _ _ _ rfl rfl tyS_24 (Nat.le_of_ble_eq_true rfl) rfl .nil), ⟨rfl, _, rfl⟩⟩
        ·replace H := cond_f h H
         refine T.skip (inB_normal (thn_normal (T.seq (T.region (TL.st rfl rfl rfl (o_move rfl rfl) ?_)))))
         obtain ⟨⟨r31, o32⟩, h33, H⟩ := bind_s H
         refine TL.st rfl rfl rfl (o_callS [0] rfl en_40 rfl rfl (spec_l1Cur_wide_p c0 h33) rfl (by decide) (.cons _ _ _ _ rfl .nil) rfl rfl rfl) ?_
         refine TL.st rfl rfl rfl (o_build rfl ⟨_, fun _ => rfl, rfl⟩ rfl rfl rfl) ?_
         refine TL.sn rfl rfl (o_storeBx rfl tyS_24 rfl rfl rfl rfl (Nat.le_of_ble_eq_true rfl) rfl) ?_
         refine TL.nil (thn_normal (T.ret ?_))
         cases some_i H
         exact ⟨trivial, _, (.cell _ _ _ _ _ _ _ _ _ _ rfl rfl tyS_24 (Nat.le_of_ble_eq_true rfl) rfl .nil), ⟨rfl, _, rfl⟩⟩
theorem en_16 (us : Array Value) (w : World) : (callFunc 16 us).run Go.Proofs.Tryz.prog w = .ok (.enter 16 us) w := enters Go.Proofs.Tryz.func16 rfl rfl us w
noncomputable def spec_l1Cur_ofContext (s0 : T_spec_l1Cur) : Option (T_spec_l10E × T_spec_l1Cur) :=
  (spec_l1Cur_pick 2 s0).bind fun q => (match q with | (r1, o2) => (spec_l1Cur_of ([(ByteArray.mk #[99, 111, 110, 116, 101, 120, 116]), (ByteArray.mk #[99, 111, 110, 116, 101, 120, 116]), (ByteArray.mk #[112, 114, 105, 110, 99, 105, 112, 97, 108]), (ByteArray.mk #[114, 101, 115, 111, 117, 114, 99, 101])] : List ByteArray) o2).bind fun q => (match q with | (r4, o5) => (spec_l10Node 3 r4 ([] : List (List V))).bind fun r7 => (spec_l1Cur_of ([(ByteArray.mk #[99, 111, 110, 116, 101, 120, 116]), (ByteArray.mk #[99, 111, 110, 116, 101, 120, 116]), (ByteArray.mk #[112, 114, 105, 110, 99, 105, 112, 97, 108]), (ByteArray.mk #[114, 101, 115, 111, 117, 114, 99, 101])] : List ByteArray) o5).bind fun q => (match q with | (r9, o10) => (spec_l10Node 3 r9 ([] : List (List V))).bind fun r12 => (spec_l10Lit (⟨1, r1, (ByteArray.mk #[]), (ByteArray.mk #[])⟩ : T_impl_Atom)).bind fun r14 => (spec_l10Node 10 (ByteArray.mk #[]) ([(c_T_spec_l10E false r14), (c_T_spec_l10E false r7), (c_T_spec_l10E false r12)] : List (List V))).bind fun r16 => (spec_l1Cur_pick 2 o10).bind fun q => (match q with | (r18, o19) => (spec_l1Cur_of ([(ByteArray.mk #[97, 103, 101]), (ByteArray.mk #[102, 114, 111, 109]), (ByteArray.mk #[111, 112, 101, 110]), (ByteArray.mk #[119, 104, 101, 110])] : List ByteArray) o19).bind fun q => (match q with | (r21, o22) => (spec_l10Node (IntKind.i64.wrap (4 + r18)) r21 ([(c_T_spec_l10E false r16)] : List (List V))).bind fun r24 => some (r24, o22))))))
theorem spec_l1Cur_ofContext_p (c0 : Bool) {s0 : T_spec_l1Cur} {R0 : T_spec_l10E} {U0 : T_spec_l1Cur} (H : spec_l1Cur_ofContext s0 = some (R0, U0)) : St Go.Proofs.Tryz.prog 64 [.bx 0 0] [.box (c_T_spec_l1Cur c0 s0)] (.agg (c_T_spec_l10E false R0)) [.box (c_T_spec_l1Cur c0 U0)] := by
 refine CallT.fin (CallT.of_TN (n := 35) Go.Proofs.Tryz.func64 rfl rfl rfl rfl ?_) rfl rfl ⟨(bels_iff.1 rfl), trivial⟩
 refine T.seq (T.region (TL.st rfl rfl rfl (o_alloc rfl ⟨_, rfl, rfl⟩) (TL.nil (thn_normal (T.seq (T.region (TL.st rfl rfl rfl (o_move rfl rfl) ?_)))))))
 obtain ⟨⟨r1, o2⟩, h3, H⟩ := bind_s H
 refine TL.st rfl rfl rfl (o_callS [0] rfl en_14 rfl rfl (spec_l1Cur_pick_p c0 h3) rfl (by decide) (.cons _ _ _ _ rfl .nil) rfl rfl rfl) ?_
 refine TL.st rfl rfl rfl (o_build rfl ⟨_, fun _ => rfl, rfl⟩ rfl rfl rfl) ?_
 refine TL.st rfl rfl rfl (o_alloc rfl ⟨_, rfl, rfl⟩) (TL.sn rfl rfl (o_storeBx rfl tyS_24 rfl rfl rfl rfl (Nat.le_of_ble_eq_true rfl) rfl) ?_)
 refine TL.nil (thn_normal (T.seq (T.region (TL.st rfl rfl rfl (o_sliceIm rfl rfl tyS_9 ⟨_, rfl, rfl⟩ (by decide) rfl rfl rfl rfl rfl rfl) ?_))))
 refine TL.st rfl rfl rfl (o_assign rfl rfl) (TL.nil (thn_normal (T.seq (T.region (TL.st rfl rfl rfl (o_move rfl rfl) (TL.st rfl rfl rfl (o_move rfl rfl) ?_))))))
 obtain ⟨⟨r4, o5⟩, h6, H⟩ := bind_s H
 refine TL.st rfl rfl rfl (o_callS [0] rfl en_17 rfl rfl (spec_l1Cur_of_p false c0 h6) rfl (by decide) (.cons _ _ _ _ rfl .nil) rfl rfl rfl) ?_
 obtain ⟨r7, h8, H⟩ := bind_s H
 refine TL.st rfl rfl rfl (o_callP rfl en_60 rfl rfl (.cons _ _ _ _ (.cl _ rfl) (.cons _ _ _ _ (.cl _ rfl) (.cons _ _ _ _ .nil .nil))) (spec_l10Node_p false h8)) ?_
 refine TL.st rfl rfl rfl (o_alloc rfl ⟨_, rfl, rfl⟩) (TL.sn rfl rfl (o_storeBx rfl tyS_67 rfl rfl rfl rfl (Nat.le_of_ble_eq_true rfl) rfl) ?_)
 refine TL.nil (thn_normal (T.seq (T.region (TL.st rfl rfl rfl (o_move rfl rfl) (TL.st rfl rfl rfl (o_move rfl rfl) ?_)))))
 obtain ⟨⟨r9, o10⟩, h11, H⟩ := bind_s H
 refine TL.st rfl rfl rfl (o_callS [0] rfl en_17 rfl rfl (spec_l1Cur_of_p false c0 h11) rfl (by decide) (.cons _ _ _ _ rfl .nil) rfl rfl rfl) ?_
 obtain ⟨r12, h13, H⟩ := bind_s H
 refine TL.st rfl rfl rfl (o_callP rfl en_60 rfl rfl (.cons _ _ _ _ (.cl _ rfl) (.cons _ _ _ _ (.cl _ rfl) (.cons _ _ _ _ .nil .nil))) (spec_l10Node_p false h13)) ?_
 refine TL.st rfl rfl rfl (o_alloc rfl ⟨_, rfl, rfl⟩) (TL.sn rfl rfl (o_storeBx rfl tyS_67 rfl rfl rfl rfl (Nat.le_of_ble_eq_true rfl) rfl) ?_)
 refine TL.nil (thn_normal (T.seq ?_))
 obtain ⟨r14, h15, H⟩ := bind_s H
 obtain ⟨r16, h17, H⟩ := bind_s H
 refine T.drawS (fr' := [(0, .bx 0 0), (2, .bx 1 0), (3, .bx 2 0), (4, .im false (([(ByteArray.mk #[99, 111, 110, 116, 101, 120, 116]), (ByteArray.mk #[99, 111, 110, 116, 101, 120, 116]), (ByteArray.mk #[112, 114, 105, 110, 99, 105, 112, 97, 108]), (ByteArray.mk #[114, 101, 115, 111, 117, 114, 99, 101])] : List ByteArray).map (c_str))), (5, .bx 3 0), (6, .bx 4 0), (7, .bx 5 0), (8, .bx 0 0), (9, .int .i64 r1), (10, .agg [.int .i64 1, .int .i64 r1, .str (ByteArray.mk #[]), .str (ByteArray.mk #[])]), (11, .im false (([(ByteArray.mk #[99, 111, 110, 116, 101, 120, 116]), (ByteArray.mk #[99, 111, 110, 116, 101, 120, 116]), (ByteArray.mk #[112, 114, 105, 110, 99, 105, 112, 97, 108]), (ByteArray.mk #[114, 101, 115, 111, 117, 114, 99, 101])] : List ByteArray).map (c_str))), (12, .bx 0 0), (13, .im false (([(ByteArray.mk #[99, 111, 110, 116, 101, 120, 116]), (ByteArray.mk #[99, 111, 110, 116, 101, 120, 116]), (ByteArray.mk #[112, 114, 105, 110, 99, 105, 112, 97, 108]), (ByteArray.mk #[114, 101, 115, 111, 117, 114, 99, 101])] : List ByteArray).map (c_str))), (14, .str r4), (15, .agg (c_T_spec_l10E false r7)), (16, .bx 0 0), (17, .im false (([(ByteArray.mk #[99, 111, 110, 116, 101, 120, 116]), (ByteArray.mk #[99, 111, 110, 116, 101, 120, 116]), (ByteArray.mk #[112, 114, 105, 110, 99, 105, 112, 97, 108]), (ByteArray.mk #[114, 101, 115, 111, 117, 114, 99, 101])] : List ByteArray).map (c_str))), (18, .str r9), (19, .agg (c_T_spec_l10E false r12)), (20, .agg [.int .i64 1, .int .i64 r1, .str (ByteArray.mk #[]), .str (ByteArray.mk #[])]), (21, .agg (c_T_spec_l10E false r14)), (22, .agg (c_T_spec_l10E false r7)), (23, .agg (c_T_spec_l10E false r12)), (24, .im false (([(c_T_spec_l10E false r14), (c_T_spec_l10E false r7), (c_T_spec_l10E false r12)] : List (List V)).map (c_raw))), (25, .agg (c_T_spec_l10E false r16))]) (R := [⟨some 20, .agg [.int .i64 1, .int .i64 r1, .str (ByteArray.mk #[]), .str (ByteArray.mk #[])], .q, []⟩, ⟨some 21, .agg (c_T_spec_l10E false r14), .q, []⟩, ⟨some 22, .agg (c_T_spec_l10E false r7), .q, []⟩, ⟨some 23, .agg (c_T_spec_l10E false r12), .q, []⟩, ⟨some 24, .im false (([(c_T_spec_l10E false r14), (c_T_spec_l10E false r7), (c_T_spec_l10E false r12)] : List (List V)).map (c_raw)), .q, []⟩, ⟨some 25, .agg (c_T_spec_l10E false r16), .q, []⟩, ⟨some 7, .bx 5 0, .q, []⟩, ⟨none, .any, .q, []⟩]) (fun b => cond (b 6) (cond (b 7) ([.box (c_T_spec_l1Cur c0 o10), .box [.int .i64 0, .str (ByteArray.mk #[]), .int .i64 0, .int .i64 0, .str (ByteArray.mk #[]), .str (ByteArray.mk #[]), .int .i64 0, .nilS], .box [.int .i64 1, .int .i64 r1, .str (ByteArray.mk #[]), .str (ByteArray.mk #[])], .box (c_T_spec_l10E false r7), .box (c_T_spec_l10E false r12), .box (c_T_spec_l10E false r16)]) ([.box (c_T_spec_l1Cur c0 o10), .box [.int .i64 0, .str (ByteArray.mk #[]), .int .i64 0, .int .i64 0, .str (ByteArray.mk #[]), .str (ByteArray.mk #[]), .int .i64 0, .nilS], .box [.int .i64 1, .int .i64 r1, .str (ByteArray.mk #[]), .str (ByteArray.mk #[])], .box (c_T_spec_l10E false r7), .box (c_T_spec_l10E false r12), .box [.int .i64 0, .str (ByteArray.mk #[]), .int .i64 0, .int .i64 0, .str (ByteArray.mk #[]), .str (ByteArray.mk #[]), .int .i64 0, .nilS]])) ([.box (c_T_spec_l1Cur c0 o10), .box [.int .i64 0, .str (ByteArray.mk #[]), .int .i64 0, .int .i64 0, .str (ByteArray.mk #[]), .str (ByteArray.mk #[]), .int .i64 0, .nilS], .box [.int .i64 1, .int .i64 r1, .str (ByteArray.mk #[]), .str (ByteArray.mk #[])], .box (c_T_spec_l10E false r7), .box (c_T_spec_l10E false r12)])) rfl ?_ ?_ rfl rfl (FrL.get (.cons rfl (.cons rfl (.cons rfl (.cons rfl (.cons rfl (.cons rfl (.cons rfl (.cons rfl (.cons rfl (.cons rfl (.cons rfl (.cons rfl (.cons rfl (.cons rfl (.cons rfl (.cons rfl (.cons rfl (.cons rfl (.cons rfl (.cons rfl (.cons rfl (.cons rfl (.cons rfl (.cons rfl (.cons rfl .nil)))))))))))))))))))))))))) ?_
 ·refine .cons _ _ _ _ _ ⟨rfl, [(3, .bx 2 0)], AllN.get rfl (.cons rfl .nil), fun b hd hn hk hc => ?_⟩ ?_
  ·cases e6 : b 6
   ·exact ops_at (σ1 := [.box (c_T_spec_l1Cur c0 o10), .box [.int .i64 0, .str (ByteArray.mk #[]), .int .i64 0, .int .i64 0, .str (ByteArray.mk #[]), .str (ByteArray.mk #[]), .int .i64 0, .nilS], .box [.int .i64 1, .int .i64 r1, .str (ByteArray.mk #[]), .str (ByteArray.mk #[])], .box (c_T_spec_l10E false r7), .box (c_T_spec_l10E false r12)]) (by simp only [show b 6 = false from e6, show b 7 = false from (hn 7 rfl), cond_true, cond_false]) rfl (o_loadBx rfl tyS_24 rfl rfl (Nat.le_of_ble_eq_true rfl) rfl) (Eq.trans (b := [.box (c_T_spec_l1Cur c0 o10), .box [.int .i64 0, .str (ByteArray.mk #[]), .int .i64 0, .int .i64 0, .str (ByteArray.mk #[]), .str (ByteArray.mk #[]), .int .i64 0, .nilS], .box [.int .i64 1, .int .i64 r1, .str (ByteArray.mk #[]), .str (ByteArray.mk #[])], .box (c_T_spec_l10E false r7), .box (c_T_spec_l10E false r12)]) (by simp only [show updb b 0 6 = false from (updb_ne rfl).trans e6, show updb b 0 7 = false from (updb_ne rfl).trans (hn 7 rfl), cond_true, cond_false]) rfl) rfl
   ·exact ops_at (σ1 := [.box (c_T_spec_l1Cur c0 o10), .box [.int .i64 0, .str (ByteArray.mk #[]), .int .i64 0, .int .i64 0, .str (ByteArray.mk #[]), .str (ByteArray.mk #[]), .int .i64 0, .nilS], .box [.int .i64 1, .int .i64 r1, .str (ByteArray.mk #[]), .str (ByteArray.mk #[])], .box (c_T_spec_l10E false r7), .box (c_T_spec_l10E false r12), .box [.int .i64 0, .str (ByteArray.mk #[]), .int .i64 0, .int .i64 0, .str (ByteArray.mk #[]), .str (ByteArray.mk #[]), .int .i64 0, .nilS]]) (by simp only [show b 6 = true from e6, show b 7 = false from (hn 7 rfl), cond_true, cond_false]) rfl (o_loadBx rfl tyS_24 rfl rfl (Nat.le_of_ble_eq_true rfl) rfl) (Eq.trans (b := [.box (c_T_spec_l1Cur c0 o10), .box [.int .i64 0, .str (ByteArray.mk #[]), .int .i64 0, .int .i64 0, .str (ByteArray.mk #[]), .str (ByteArray.mk #[]), .int .i64 0, .nilS], .box [.int .i64 1, .int .i64 r1, .str (ByteArray.mk #[]), .str (ByteArray.mk #[])], .box (c_T_spec_l10E false r7), .box (c_T_spec_l10E false r12), .box [.int .i64 0, .str (ByteArray.mk #[]), .int .i64 0, .int .i64 0, .str (ByteArray.mk #[]), .str (ByteArray.mk #[]), .int .i64 0, .nilS]]) (by simp only [show updb b 0 6 = true from (updb_ne rfl).trans e6, show updb b 0 7 = false from (updb_ne rfl).trans (hn 7 rfl), cond_true, cond_false]) rfl) rfl
  refine .cons _ _ _ _ _ ⟨rfl, [(20, .agg [.int .i64 1, .int .i64 r1, .str (ByteArray.mk #[]), .str (ByteArray.mk #[])])], AllN.get rfl (.cons rfl .nil), fun b hd hn hk hc => ?_⟩ ?_
  ·cases e6 : b 6
   ·exact ops_at (σ1 := [.box (c_T_spec_l1Cur c0 o10), .box [.int .i64 0, .str (ByteArray.mk #[]), .int .i64 0, .int .i64 0, .str (ByteArray.mk #[]), .str (ByteArray.mk #[]), .int .i64 0, .nilS], .box [.int .i64 1, .int .i64 r1, .str (ByteArray.mk #[]), .str (ByteArray.mk #[])], .box (c_T_spec_l10E false r7), .box (c_T_spec_l10E false r12)]) (by simp only [show b 6 = false from e6, show b 7 = false from (hn 7 rfl), cond_true, cond_false]) rfl (o_callP rfl en_63 rfl rfl (.cons _ _ _ _ (.cl _ rfl) .nil) (spec_l10Lit_p  h15)) (Eq.trans (b := [.box (c_T_spec_l1Cur c0 o10), .box [.int .i64 0, .str (ByteArray.mk #[]), .int .i64 0, .int .i64 0, .str (ByteArray.mk #[]), .str (ByteArray.mk #[]), .int .i64 0, .nilS], .box [.int .i64 1, .int .i64 r1, .str (ByteArray.mk #[]), .str (ByteArray.mk #[])], .box (c_T_spec_l10E false r7), .box (c_T_spec_l10E false r12)]) (by simp only [show updb b 1 6 = false from (updb_ne rfl).trans e6, show updb b 1 7 = false from (updb_ne rfl).trans (hn 7 rfl), cond_true, cond_false]) rfl) rfl
   ·exact ops_at (σ1 := [.box (c_T_spec_l1Cur c0 o10), .box [.int .i64 0, .str (ByteArray.mk #[]), .int .i64 0, .int .i64 0, .str (ByteArray.mk #[]), .str (ByteArray.mk #[]), .int .i64 0, .nilS], .box [.int .i64 1, .int .i64 r1, .str (ByteArray.mk #[]), .str (ByteArray.mk #[])], .box (c_T_spec_l10E false r7), .box (c_T_spec_l10E false r12), .box [.int .i64 0, .str (ByteArray.mk #[]), .int .i64 0, .int .i64 0, .str (ByteArray.mk #[]), .str (ByteArray.mk #[]), .int .i64 0, .nilS]]) (by simp only [show b 6 = true from e6, show b 7 = false from (hn 7 rfl), cond_true, cond_false]) rfl (o_callP rfl en_63 rfl rfl (.cons _ _ _ _ (.cl _ rfl) .nil) (spec_l10Lit_p  h15)) (Eq.trans (b := [.box (c_T_spec_l1Cur c0 o10), .box [.int .i64 0, .str (ByteArray.mk #[]), .int .i64 0, .int .i64 0, .str (ByteArray.mk #[]), .str (ByteArray.mk #[]), .int .i64 0, .nilS], .box [.int .i64 1, .int .i64 r1, .str (ByteArray.mk #[]), .str (ByteArray.mk #[])], .box (c_T_spec_l10E false r7), .box (c_T_spec_l10E false r12), .box [.int .i64 0, .str (ByteArray.mk #[]), .int .i64 0, .int .i64 0, .str (ByteArray.mk #[]), .str (ByteArray.mk #[]), .int .i64 0, .nilS]]) (by simp only [show updb b 1 6 = true from (updb_ne rfl).trans e6, show updb b 1 7 = false from (updb_ne rfl).trans (hn 7 rfl), cond_true, cond_false]) rfl) rfl
  refine .cons _ _ _ _ _ ⟨rfl, [(5, .bx 3 0)], AllN.get rfl (.cons rfl .nil), fun b hd hn hk hc => ?_⟩ ?_
  ·cases e6 : b 6
   ·exact ops_at (σ1 := [.box (c_T_spec_l1Cur c0 o10), .box [.int .i64 0, .str (ByteArray.mk #[]), .int .i64 0, .int .i64 0, .str (ByteArray.mk #[]), .str (ByteArray.mk #[]), .int .i64 0, .nilS], .box [.int .i64 1, .int .i64 r1, .str (ByteArray.mk #[]), .str (ByteArray.mk #[])], .box (c_T_spec_l10E false r7), .box (c_T_spec_l10E false r12)]) (by simp only [show b 6 = false from e6, show b 7 = false from (hn 7 rfl), cond_true, cond_false]) rfl (o_loadBx rfl tyS_67 rfl rfl (Nat.le_of_ble_eq_true rfl) rfl) (Eq.trans (b := [.box (c_T_spec_l1Cur c0 o10), .box [.int .i64 0, .str (ByteArray.mk #[]), .int .i64 0, .int .i64 0, .str (ByteArray.mk #[]), .str (ByteArray.mk #[]), .int .i64 0, .nilS], .box [.int .i64 1, .int .i64 r1, .str (ByteArray.mk #[]), .str (ByteArray.mk #[])], .box (c_T_spec_l10E false r7), .box (c_T_spec_l10E false r12)]) (by simp only [show updb b 2 6 = false from (updb_ne rfl).trans e6, show updb b 2 7 = false from (updb_ne rfl).trans (hn 7 rfl), cond_true, cond_false]) rfl) rfl
   ·exact ops_at (σ1 := [.box (c_T_spec_l1Cur c0 o10), .box [.int .i64 0, .str (ByteArray.mk #[]), .int .i64 0, .int .i64 0, .str (ByteArray.mk #[]), .str (ByteArray.mk #[]), .int .i64 0, .nilS], .box [.int .i64 1, .int .i64 r1, .str (ByteArray.mk #[]), .str (ByteArray.mk #[])], .box (c_T_spec_l10E false r7), .box (c_T_spec_l10E false r12), .box [.int .i64 0, .str (ByteArray.mk #[]), .int .i64 0, .int .i64 0, .str (ByteArray.mk #[]), .str (ByteArray.mk #[]), .int .i64 0, .nilS]]) (by simp only [show b 6 = true from e6, show b 7 = false from (hn 7 rfl), cond_true, cond_false]) rfl (o_loadBx rfl tyS_67 rfl rfl (Nat.le_of_ble_eq_true rfl) rfl) (Eq.trans (b := [.box (c_T_spec_l1Cur c0 o10), .box [.int .i64 0, .str (ByteArray.mk #[]), .int .i64 0, .int .i64 0, .str (ByteArray.mk #[]), .str (ByteArray.mk #[]), .int .i64 0, .nilS], .box [.int .i64 1, .int .i64 r1, .str (ByteArray.mk #[]), .str (ByteArray.mk #[])], .box (c_T_spec_l10E false r7), .box (c_T_spec_l10E false r12), .box [.int .i64 0, .str (ByteArray.mk #[]), .int .i64 0, .int .i64 0, .str (ByteArray.mk #[]), .str (ByteArray.mk #[]), .int .i64 0, .nilS]]) (by simp only [show updb b 2 6 = true from (updb_ne rfl).trans e6, show updb b 2 7 = false from (updb_ne rfl).trans (hn 7 rfl), cond_true, cond_false]) rfl) rfl
  refine .cons _ _ _ _ _ ⟨rfl, [(6, .bx 4 0)], AllN.get rfl (.cons rfl .nil), fun b hd hn hk hc => ?_⟩ ?_
  ·cases e6 : b 6
   ·exact ops_at (σ1 := [.box (c_T_spec_l1Cur c0 o10), .box [.int .i64 0, .str (ByteArray.mk #[]), .int .i64 0, .int .i64 0, .str (ByteArray.mk #[]), .str (ByteArray.mk #[]), .int .i64 0, .nilS], .box [.int .i64 1, .int .i64 r1, .str (ByteArray.mk #[]), .str (ByteArray.mk #[])], .box (c_T_spec_l10E false r7), .box (c_T_spec_l10E false r12)]) (by simp only [show b 6 = false from e6, show b 7 = false from (hn 7 rfl), cond_true, cond_false]) rfl (o_loadBx rfl tyS_67 rfl rfl (Nat.le_of_ble_eq_true rfl) rfl) (Eq.trans (b := [.box (c_T_spec_l1Cur c0 o10), .box [.int .i64 0, .str (ByteArray.mk #[]), .int .i64 0, .int .i64 0, .str (ByteArray.mk #[]), .str (ByteArray.mk #[]), .int .i64 0, .nilS], .box [.int .i64 1, .int .i64 r1, .str (ByteArray.mk #[]), .str (ByteArray.mk #[])], .box (c_T_spec_l10E false r7), .box (c_T_spec_l10E false r12)]) (by simp only [show updb b 3 6 = false from (updb_ne rfl).trans e6, show updb b 3 7 = false from (updb_ne rfl).trans (hn 7 rfl), cond_true, cond_false]) rfl) rfl
   ·exact ops_at (σ1 := [.box (c_T_spec_l1Cur c0 o10), .box [.int .i64 0, .str (ByteArray.mk #[]), .int .i64 0, .int .i64 0, .str (ByteArray.mk #[]), .str (ByteArray.mk #[]), .int .i64 0, .nilS], .box [.int .i64 1, .int .i64 r1, .str (ByteArray.mk #[]), .str (ByteArray.mk #[])], .box (c_T_spec_l10E false r7), .box (c_T_spec_l10E false r12), .box [.int .i64 0, .str (ByteArray.mk #[]), .int .i64 0, .int .i64 0, .str (ByteArray.mk #[]), .str (ByteArray.mk #[]), .int .i64 0, .nilS]]) (by simp only [show b 6 = true from e6, show b 7 = false from (hn 7 rfl), cond_true, cond_false]) rfl (o_loadBx rfl tyS_67 rfl rfl (Nat.le_of_ble_eq_true rfl) rfl) (Eq.trans (b := [.box (c_T_spec_l1Cur c0 o10), .box [.int .i64 0, .str (ByteArray.mk #[]), .int .i64 0, .int .i64 0, .str (ByteArray.mk #[]), .str (ByteArray.mk #[]), .int .i64 0, .nilS], .box [.int .i64 1, .int .i64 r1, .str (ByteArray.mk #[]), .str (ByteArray.mk #[])], .box (c_T_spec_l10E false r7), .box (c_T_spec_l10E false r12), .box [.int .i64 0, .str (ByteArray.mk #[]), .int .i64 0, .int .i64 0, .str (ByteArray.mk #[]), .str (ByteArray.mk #[]), .int .i64 0, .nilS]]) (by simp only [show updb b 3 6 = true from (updb_ne rfl).trans e6, show updb b 3 7 = false from (updb_ne rfl).trans (hn 7 rfl), cond_true, cond_false]) rfl) rfl
  refine .cons _ _ _ _ _ ⟨rfl, [(21, .agg (c_T_spec_l10E false r14)), (22, .agg (c_T_spec_l10E false r7)), (23, .agg (c_T_spec_l10E false r12))], AllN.get rfl (.cons rfl (.cons rfl (.cons rfl .nil))), fun b hd hn hk hc => ?_⟩ ?_
  ·cases e6 : b 6
   ·exact ops_at (σ1 := [.box (c_T_spec_l1Cur c0 o10), .box [.int .i64 0, .str (ByteArray.mk #[]), .int .i64 0, .int .i64 0, .str (ByteArray.mk #[]), .str (ByteArray.mk #[]), .int .i64 0, .nilS], .box [.int .i64 1, .int .i64 r1, .str (ByteArray.mk #[]), .str (ByteArray.mk #[])], .box (c_T_spec_l10E false r7), .box (c_T_spec_l10E false r12)]) (by simp only [show b 6 = false from e6, show b 7 = false from (hn 7 rfl), cond_true, cond_false]) rfl (o_sliceIm rfl rfl tyS_67 ⟨_, rfl, rfl⟩ (by decide) rfl rfl rfl rfl rfl rfl) (Eq.trans (b := [.box (c_T_spec_l1Cur c0 o10), .box [.int .i64 0, .str (ByteArray.mk #[]), .int .i64 0, .int .i64 0, .str (ByteArray.mk #[]), .str (ByteArray.mk #[]), .int .i64 0, .nilS], .box [.int .i64 1, .int .i64 r1, .str (ByteArray.mk #[]), .str (ByteArray.mk #[])], .box (c_T_spec_l10E false r7), .box (c_T_spec_l10E false r12)]) (by simp only [show updb b 4 6 = false from (updb_ne rfl).trans e6, show updb b 4 7 = false from (updb_ne rfl).trans (hn 7 rfl), cond_true, cond_false]) rfl) rfl
   ·exact ops_at (σ1 := [.box (c_T_spec_l1Cur c0 o10), .box [.int .i64 0, .str (ByteArray.mk #[]), .int .i64 0, .int .i64 0, .str (ByteArray.mk #[]), .str (ByteArray.mk #[]), .int .i64 0, .nilS], .box [.int .i64 1, .int .i64 r1, .str (ByteArray.mk #[]), .str (ByteArray.mk #[])], .box (c_T_spec_l10E false r7), .box (c_T_spec_l10E false r12), .box [.int .i64 0, .str (ByteArray.mk #[]), .int .i64 0, .int .i64 0, .str (ByteArray.mk #[]), .str (ByteArray.mk #[]), .int .i64 0, .nilS]]) (by simp only [show b 6 = true from e6, show b 7 = false from (hn 7 rfl), cond_true, cond_false]) rfl (o_sliceIm rfl rfl tyS_67 ⟨_, rfl, rfl⟩ (by decide) rfl rfl rfl rfl rfl rfl) (Eq.trans (b := [.box (c_T_spec_l1Cur c0 o10), .box [.int .i64 0, .str (ByteArray.mk #[]), .int .i64 0, .int .i64 0, .str (ByteArray.mk #[]), .str (ByteArray.mk #[]), .int .i64 0, .nilS], .box [.int .i64 1, .int .i64 r1, .str (ByteArray.mk #[]), .str (ByteArray.mk #[])], .box (c_T_spec_l10E false r7), .box (c_T_spec_l10E false r12), .box [.int .i64 0, .str (ByteArray.mk #[]), .int .i64 0, .int .i64 0, .str (ByteArray.mk #[]), .str (ByteArray.mk #[]), .int .i64 0, .nilS]]) (by simp only [show updb b 4 6 = true from (updb_ne rfl).trans e6, show updb b 4 7 = false from (updb_ne rfl).trans (hn 7 rfl), cond_true, cond_false]) rfl) rfl
  refine .cons _ _ _ _ _ ⟨rfl, [(24, .im false (([(c_T_spec_l10E false r14), (c_T_spec_l10E false r7), (c_T_spec_l10E false r12)] : List (List V)).map (c_raw)))], AllN.get rfl (.cons rfl .nil), fun b hd hn hk hc => ?_⟩ ?_
  ·cases e6 : b 6
   ·exact ops_at (σ1 := [.box (c_T_spec_l1Cur c0 o10), .box [.int .i64 0, .str (ByteArray.mk #[]), .int .i64 0, .int .i64 0, .str (ByteArray.mk #[]), .str (ByteArray.mk #[]), .int .i64 0, .nilS], .box [.int .i64 1, .int .i64 r1, .str (ByteArray.mk #[]), .str (ByteArray.mk #[])], .box (c_T_spec_l10E false r7), .box (c_T_spec_l10E false r12)]) (by simp only [show b 6 = false from e6, show b 7 = false from (hn 7 rfl), cond_true, cond_false]) rfl (o_callP rfl en_60 rfl rfl (.cons _ _ _ _ (.cl _ rfl) (.cons _ _ _ _ (.cl _ rfl) (.cons _ _ _ _ (.cl _ rfl) .nil))) (spec_l10Node_p false h17)) (Eq.trans (b := [.box (c_T_spec_l1Cur c0 o10), .box [.int .i64 0, .str (ByteArray.mk #[]), .int .i64 0, .int .i64 0, .str (ByteArray.mk #[]), .str (ByteArray.mk #[]), .int .i64 0, .nilS], .box [.int .i64 1, .int .i64 r1, .str (ByteArray.mk #[]), .str (ByteArray.mk #[])], .box (c_T_spec_l10E false r7), .box (c_T_spec_l10E false r12)]) (by simp only [show updb b 5 6 = false from (updb_ne rfl).trans e6, show updb b 5 7 = false from (updb_ne rfl).trans (hn 7 rfl), cond_true, cond_false]) rfl) rfl
   ·exact ops_at (σ1 := [.box (c_T_spec_l1Cur c0 o10), .box [.int .i64 0, .str (ByteArray.mk #[]), .int .i64 0, .int .i64 0, .str (ByteArray.mk #[]), .str (ByteArray.mk #[]), .int .i64 0, .nilS], .box [.int .i64 1, .int .i64 r1, .str (ByteArray.mk #[]), .str (ByteArray.mk #[])], .box (c_T_spec_l10E false r7), .box (c_T_spec_l10E false r12), .box [.int .i64 0, .str (ByteArray.mk #[]), .int .i64 0, .int .i64 0, .str (ByteArray.mk #[]), .str (ByteArray.mk #[]), .int .i64 0, .nilS]]) (by simp only [show b 6 = true from e6, show b 7 = false from (hn 7 rfl), cond_true, cond_false]) rfl (o_callP rfl en_60 rfl rfl (.cons _ _ _ _ (.cl _ rfl) (.cons _ _ _ _ (.cl _ rfl) (.cons _ _ _ _ (.cl _ rfl) .nil))) (spec_l10Node_p false h17)) (Eq.trans (b := [.box (c_T_spec_l1Cur c0 o10), .box [.int .i64 0, .str (ByteArray.mk #[]), .int .i64 0, .int .i64 0, .str (ByteArray.mk #[]), .str (ByteArray.mk #[]), .int .i64 0, .nilS], .box [.int .i64 1, .int .i64 r1, .str (ByteArray.mk #[]), .str (ByteArray.mk #[])], .box (c_T_spec_l10E false r7), .box (c_T_spec_l10E false r12), .box [.int .i64 0, .str (ByteArray.mk #[]), .int .i64 0, .int .i64 0, .str (ByteArray.mk #[]), .str (ByteArray.mk #[]), .int .i64 0, .nilS]]) (by simp only [show updb b 5 6 = true from (updb_ne rfl).trans e6, show updb b 5 7 = false from (updb_ne rfl).trans (hn 7 rfl), cond_true, cond_false]) rfl) rfl
  refine .cons _ _ _ _ _ ⟨rfl, [], AllN.get rfl .nil, fun b hd hn hk hc => ?_⟩ ?_
  ·exact ops_at (σ1 := [.box (c_T_spec_l1Cur c0 o10), .box [.int .i64 0, .str (ByteArray.mk #[]), .int .i64 0, .int .i64 0, .str (ByteArray.mk #[]), .str (ByteArray.mk #[]), .int .i64 0, .nilS], .box [.int .i64 1, .int .i64 r1, .str (ByteArray.mk #[]), .str (ByteArray.mk #[])], .box (c_T_spec_l10E false r7), .box (c_T_spec_l10E false r12)]) (by simp only [show b 6 = false from hk, show b 7 = false from (hn 7 rfl), cond_true, cond_false]) rfl (o_alloc rfl ⟨_, rfl, rfl⟩) (Eq.trans (b := [.box (c_T_spec_l1Cur c0 o10), .box [.int .i64 0, .str (ByteArray.mk #[]), .int .i64 0, .int .i64 0, .str (ByteArray.mk #[]), .str (ByteArray.mk #[]), .int .i64 0, .nilS], .box [.int .i64 1, .int .i64 r1, .str (ByteArray.mk #[]), .str (ByteArray.mk #[])], .box (c_T_spec_l10E false r7), .box (c_T_spec_l10E false r12), .box [.int .i64 0, .str (ByteArray.mk #[]), .int .i64 0, .int .i64 0, .str (ByteArray.mk #[]), .str (ByteArray.mk #[]), .int .i64 0, .nilS]]) (by simp only [show updb b 6 6 = true from updb_self, show updb b 6 7 = false from (updb_ne rfl).trans (hn 7 rfl), cond_true, cond_false]) rfl) rfl
  refine .cons _ _ _ _ _ ⟨rfl, [(7, .bx 5 0), (25, .agg (c_T_spec_l10E false r16))], AllN.get rfl (.cons rfl (.cons rfl .nil)), fun b hd hn hk hc => ?_⟩ ?_
  ·exact ops_at (σ1 := [.box (c_T_spec_l1Cur c0 o10), .box [.int .i64 0, .str (ByteArray.mk #[]), .int .i64 0, .int .i64 0, .str (ByteArray.mk #[]), .str (ByteArray.mk #[]), .int .i64 0, .nilS], .box [.int .i64 1, .int .i64 r1, .str (ByteArray.mk #[]), .str (ByteArray.mk #[])], .box (c_T_spec_l10E false r7), .box (c_T_spec_l10E false r12), .box [.int .i64 0, .str (ByteArray.mk #[]), .int .i64 0, .int .i64 0, .str (ByteArray.mk #[]), .str (ByteArray.mk #[]), .int .i64 0, .nilS]]) (by simp only [show b 6 = true from (hd 6 rfl), show b 7 = false from hk, cond_true, cond_false]) rfl (o_storeBx rfl tyS_67 rfl rfl rfl rfl (Nat.le_of_ble_eq_true rfl) rfl) (Eq.trans (b := [.box (c_T_spec_l1Cur c0 o10), .box [.int .i64 0, .str (ByteArray.mk #[]), .int .i64 0, .int .i64 0, .str (ByteArray.mk #[]), .str (ByteArray.mk #[]), .int .i64 0, .nilS], .box [.int .i64 1, .int .i64 r1, .str (ByteArray.mk #[]), .str (ByteArray.mk #[])], .box (c_T_spec_l10E false r7), .box (c_T_spec_l10E false r12), .box (c_T_spec_l10E false r16)]) (by simp only [show updb b 7 6 = true from (updb_ne rfl).trans (hd 6 rfl), show updb b 7 7 = true from updb_self, cond_true, cond_false]) rfl) rfl
  exact .nil _
 ·intro b b' h; simp only [h 6 (by decide), h 7 (by decide)]
 refine thn_normal (T.seq ?_)
 obtain ⟨⟨r18, o19⟩, h20, H⟩ := bind_s H
 obtain ⟨⟨r21, o22⟩, h23, H⟩ := bind_s H
 obtain ⟨r24, h25, H⟩ := bind_s H
 refine T.drawS (fr' := [(0, .bx 0 0), (2, .bx 1 0), (3, .bx 2 0), (4, .im false (([(ByteArray.mk #[99, 111, 110, 116, 101, 120, 116]), (ByteArray.mk #[99, 111, 110, 116, 101, 120, 116]), (ByteArray.mk #[112, 114, 105, 110, 99, 105, 112, 97, 108]), (ByteArray.mk #[114, 101, 115, 111, 117, 114, 99, 101])] : List ByteArray).map (c_str))), (5, .bx 3 0), (6, .bx 4 0), (7, .bx 5 0), (8, .bx 0 0), (9, .int .i64 r1), (10, .agg [.int .i64 1, .int .i64 r1, .str (ByteArray.mk #[]), .str (ByteArray.mk #[])]), (11, .im false (([(ByteArray.mk #[99, 111, 110, 116, 101, 120, 116]), (ByteArray.mk #[99, 111, 110, 116, 101, 120, 116]), (ByteArray.mk #[112, 114, 105, 110, 99, 105, 112, 97, 108]), (ByteArray.mk #[114, 101, 115, 111, 117, 114, 99, 101])] : List ByteArray).map (c_str))), (12, .bx 0 0), (13, .im false (([(ByteArray.mk #[99, 111, 110, 116, 101, 120, 116]), (ByteArray.mk #[99, 111, 110, 116, 101, 120, 116]), (ByteArray.mk #[112, 114, 105, 110, 99, 105, 112, 97, 108]), (ByteArray.mk #[114, 101, 115, 111, 117, 114, 99, 101])] : List ByteArray).map (c_str))), (14, .str r4), (15, .agg (c_T_spec_l10E false r7)), (16, .bx 0 0), (17, .im false (([(ByteArray.mk #[99, 111, 110, 116, 101, 120, 116]), (ByteArray.mk #[99, 111, 110, 116, 101, 120, 116]), (ByteArray.mk #[112, 114, 105, 110, 99, 105, 112, 97, 108]), (ByteArray.mk #[114, 101, 115, 111, 117, 114, 99, 101])] : List ByteArray).map (c_str))), (18, .str r9), (19, .agg (c_T_spec_l10E false r12)), (20, .agg [.int .i64 1, .int .i64 r1, .str (ByteArray.mk #[]), .str (ByteArray.mk #[])]), (21, .agg (c_T_spec_l10E false r14)), (22, .agg (c_T_spec_l10E false r7)), (23, .agg (c_T_spec_l10E false r12)), (24, .im false (([(c_T_spec_l10E false r14), (c_T_spec_l10E false r7), (c_T_spec_l10E false r12)] : List (List V)).map (c_raw))), (25, .agg (c_T_spec_l10E false r16)), (26, .bx 0 0), (27, .int .i64 r18), (28, .int .i64 (IntKind.i64.wrap (4 + r18))), (29, .bx 0 0), (30, .im false (([(ByteArray.mk #[97, 103, 101]), (ByteArray.mk #[102, 114, 111, 109]), (ByteArray.mk #[111, 112, 101, 110]), (ByteArray.mk #[119, 104, 101, 110])] : List ByteArray).map (c_str))), (31, .str r21), (32, .agg (c_T_spec_l10E false r16)), (33, .im false (([(c_T_spec_l10E false r16)] : List (List V)).map (c_raw))), (34, .agg (c_T_spec_l10E false r24))]) (R := [⟨some 26, .bx 0 0, .q, []⟩, ⟨some 27, .int .i64 r18, .q, []⟩, ⟨some 28, .int .i64 (IntKind.i64.wrap (4 + r18)), .q, []⟩, ⟨some 29, .bx 0 0, .q, []⟩, ⟨some 30, .im false (([(ByteArray.mk #[97, 103, 101]), (ByteArray.mk #[102, 114, 111, 109]), (ByteArray.mk #[111, 112, 101, 110]), (ByteArray.mk #[119, 104, 101, 110])] : List ByteArray).map (c_str)), .q, []⟩, ⟨some 31, .str r21, .q, []⟩, ⟨some 32, .agg (c_T_spec_l10E false r16), .q, []⟩, ⟨some 33, .im false (([(c_T_spec_l10E false r16)] : List (List V)).map (c_raw)), .q, []⟩, ⟨some 34, .agg (c_T_spec_l10E false r24), .q, []⟩, ⟨none, .any, .q, []⟩]) (fun b => cond (b 1) (cond (b 5) (cond (b 9) ([.box (c_T_spec_l1Cur c0 o22), .box (c_T_spec_l10E false r24), .box [.int .i64 1, .int .i64 r1, .str (ByteArray.mk #[]), .str (ByteArray.mk #[])], .box (c_T_spec_l10E false r7), .box (c_T_spec_l10E false r12), .box (c_T_spec_l10E false r16)]) ([.box (c_T_spec_l1Cur c0 o22), .box [.int .i64 0, .str (ByteArray.mk #[]), .int .i64 0, .int .i64 0, .str (ByteArray.mk #[]), .str (ByteArray.mk #[]), .int .i64 0, .nilS], .box [.int .i64 1, .int .i64 r1, .str (ByteArray.mk #[]), .str (ByteArray.mk #[])], .box (c_T_spec_l10E false r7), .box (c_T_spec_l10E false r12), .box (c_T_spec_l10E false r16)])) ([.box (c_T_spec_l1Cur c0 o19), .box [.int .i64 0, .str (ByteArray.mk #[]), .int .i64 0, .int .i64 0, .str (ByteArray.mk #[]), .str (ByteArray.mk #[]), .int .i64 0, .nilS], .box [.int .i64 1, .int .i64 r1, .str (ByteArray.mk #[]), .str (ByteArray.mk #[])], .box (c_T_spec_l10E false r7), .box (c_T_spec_l10E false r12), .box (c_T_spec_l10E false r16)])) ([.box (c_T_spec_l1Cur c0 o10), .box [.int .i64 0, .str (ByteArray.mk #[]), .int .i64 0, .int .i64 0, .str (ByteArray.mk #[]), .str (ByteArray.mk #[]), .int .i64 0, .nilS], .box [.int .i64 1, .int .i64 r1, .str (ByteArray.mk #[]), .str (ByteArray.mk #[])], .box (c_T_spec_l10E false r7), .box (c_T_spec_l10E false r12), .box (c_T_spec_l10E false r16)])) rfl ?_ ?_ rfl rfl (FrL.get (.cons rfl (.cons rfl (.cons rfl (.cons rfl (.cons rfl (.cons rfl (.cons rfl (.cons rfl (.cons rfl (.cons rfl (.cons rfl (.cons rfl (.cons rfl (.cons rfl (.cons rfl (.cons rfl (.cons rfl (.cons rfl (.cons rfl (.cons rfl (.cons rfl (.cons rfl (.cons rfl (.cons rfl (.cons rfl (.cons rfl (.cons rfl (.cons rfl (.cons rfl (.cons rfl (.cons rfl (.cons rfl (.cons rfl (.cons rfl .nil))))))))))))))))))))))))))))))))))) ?_
 ·refine .cons _ _ _ _ _ ⟨rfl, [(0, .bx 0 0)], AllN.get rfl (.cons rfl .nil), fun b hd hn hk hc => ?_⟩ ?_
  ·exact ops_at (σ1 := [.box (c_T_spec_l1Cur c0 o10), .box [.int .i64 0, .str (ByteArray.mk #[]), .int .i64 0, .int .i64 0, .str (ByteArray.mk #[]), .str (ByteArray.mk #[]), .int .i64 0, .nilS], .box [.int .i64 1, .int .i64 r1, .str (ByteArray.mk #[]), .str (ByteArray.mk #[])], .box (c_T_spec_l10E false r7), .box (c_T_spec_l10E false r12), .box (c_T_spec_l10E false r16)]) (by simp only [show b 1 = false from (hn 1 rfl), show b 5 = false from (hn 5 rfl), show b 9 = false from (hn 9 rfl), cond_true, cond_false]) rfl (o_move rfl rfl) (Eq.trans (b := [.box (c_T_spec_l1Cur c0 o10), .box [.int .i64 0, .str (ByteArray.mk #[]), .int .i64 0, .int .i64 0, .str (ByteArray.mk #[]), .str (ByteArray.mk #[]), .int .i64 0, .nilS], .box [.int .i64 1, .int .i64 r1, .str (ByteArray.mk #[]), .str (ByteArray.mk #[])], .box (c_T_spec_l10E false r7), .box (c_T_spec_l10E false r12), .box (c_T_spec_l10E false r16)]) (by simp only [show updb b 0 1 = false from (updb_ne rfl).trans (hn 1 rfl), show updb b 0 5 = false from (updb_ne rfl).trans (hn 5 rfl), show updb b 0 9 = false from (updb_ne rfl).trans (hn 9 rfl), cond_true, cond_false]) rfl) rfl
  refine .cons _ _ _ _ _ ⟨rfl, [(26, .bx 0 0)], AllN.get rfl (.cons rfl .nil), fun b hd hn hk hc => ?_⟩ ?_
  ·exact ops_at (σ1 := [.box (c_T_spec_l1Cur c0 o10), .box [.int .i64 0, .str (ByteArray.mk #[]), .int .i64 0, .int .i64 0, .str (ByteArray.mk #[]), .str (ByteArray.mk #[]), .int .i64 0, .nilS], .box [.int .i64 1, .int .i64 r1, .str (ByteArray.mk #[]), .str (ByteArray.mk #[])], .box (c_T_spec_l10E false r7), .box (c_T_spec_l10E false r12), .box (c_T_spec_l10E false r16)]) (by simp only [show b 1 = false from hk, show b 5 = false from (hn 5 rfl), show b 9 = false from (hn 9 rfl), cond_true, cond_false]) rfl (o_callS [0] rfl en_14 rfl rfl (spec_l1Cur_pick_p c0 h20) rfl (by decide) (.cons _ _ _ _ rfl .nil) rfl rfl rfl) (Eq.trans (b := [.box (c_T_spec_l1Cur c0 o19), .box [.int .i64 0, .str (ByteArray.mk #[]), .int .i64 0, .int .i64 0, .str (ByteArray.mk #[]), .str (ByteArray.mk #[]), .int .i64 0, .nilS], .box [.int .i64 1, .int .i64 r1, .str (ByteArray.mk #[]), .str (ByteArray.mk #[])], .box (c_T_spec_l10E false r7), .box (c_T_spec_l10E false r12), .box (c_T_spec_l10E false r16)]) (by simp only [show updb b 1 1 = true from updb_self, show updb b 1 5 = false from (updb_ne rfl).trans (hn 5 rfl), show updb b 1 9 = false from (updb_ne rfl).trans (hn 9 rfl), cond_true, cond_false]) rfl) rfl
  refine .cons _ _ _ _ _ ⟨rfl, [(27, .int .i64 r18)], AllN.get rfl (.cons rfl .nil), fun b hd hn hk hc => ?_⟩ ?_
  ·cases e5 : b 5
   ·exact ops_at (σ1 := [.box (c_T_spec_l1Cur c0 o19), .box [.int .i64 0, .str (ByteArray.mk #[]), .int .i64 0, .int .i64 0, .str (ByteArray.mk #[]), .str (ByteArray.mk #[]), .int .i64 0, .nilS], .box [.int .i64 1, .int .i64 r1, .str (ByteArray.mk #[]), .str (ByteArray.mk #[])], .box (c_T_spec_l10E false r7), .box (c_T_spec_l10E false r12), .box (c_T_spec_l10E false r16)]) (by simp only [show b 1 = true from (hd 1 rfl), show b 5 = false from e5, show b 9 = false from (hn 9 rfl), cond_true, cond_false]) rfl (o_ari rfl rfl rfl rfl) (Eq.trans (b := [.box (c_T_spec_l1Cur c0 o19), .box [.int .i64 0, .str (ByteArray.mk #[]), .int .i64 0, .int .i64 0, .str (ByteArray.mk #[]), .str (ByteArray.mk #[]), .int .i64 0, .nilS], .box [.int .i64 1, .int .i64 r1, .str (ByteArray.mk #[]), .str (ByteArray.mk #[])], .box (c_T_spec_l10E false r7), .box (c_T_spec_l10E false r12), .box (c_T_spec_l10E false r16)]) (by simp only [show updb b 2 1 = true from (updb_ne rfl).trans (hd 1 rfl), show updb b 2 5 = false from (updb_ne rfl).trans e5, show updb b 2 9 = false from (updb_ne rfl).trans (hn 9 rfl), cond_true, cond_false]) rfl) rfl
   ·exact ops_at (σ1 := [.box (c_T_spec_l1Cur c0 o22), .box [.int .i64 0, .str (ByteArray.mk #[]), .int .i64 0, .int .i64 0, .str (ByteArray.mk #[]), .str (ByteArray.mk #[]), .int .i64 0, .nilS], .box [.int .i64 1, .int .i64 r1, .str (ByteArray.mk #[]), .str (ByteArray.mk #[])], .box (c_T_spec_l10E false r7), .box (c_T_spec_l10E false r12), .box (c_T_spec_l10E false r16)]) (by simp only [show b 1 = true from (hd 1 rfl), show b 5 = true from e5, show b 9 = false from (hn 9 rfl), cond_true, cond_false]) rfl (o_ari rfl rfl rfl rfl) (Eq.trans (b := [.box (c_T_spec_l1Cur c0 o22), .box [.int .i64 0, .str (ByteArray.mk #[]), .int .i64 0, .int .i64 0, .str (ByteArray.mk #[]), .str (ByteArray.mk #[]), .int .i64 0, .nilS], .box [.int .i64 1, .int .i64 r1, .str (ByteArray.mk #[]), .str (ByteArray.mk #[])], .box (c_T_spec_l10E false r7), .box (c_T_spec_l10E false r12), .box (c_T_spec_l10E false r16)]) (by simp only [show updb b 2 1 = true from (updb_ne rfl).trans (hd 1 rfl), show updb b 2 5 = true from (updb_ne rfl).trans e5, show updb b 2 9 = false from (updb_ne rfl).trans (hn 9 rfl), cond_true, cond_false]) rfl) rfl
  refine .cons _ _ _ _ _ ⟨rfl, [(0, .bx 0 0)], AllN.get rfl (.cons rfl .nil), fun b hd hn hk hc => ?_⟩ ?_
  ·cases e1 : b 1
   ·exact ops_at (σ1 := [.box (c_T_spec_l1Cur c0 o10), .box [.int .i64 0, .str (ByteArray.mk #[]), .int .i64 0, .int .i64 0, .str (ByteArray.mk #[]), .str (ByteArray.mk #[]), .int .i64 0, .nilS], .box [.int .i64 1, .int .i64 r1, .str (ByteArray.mk #[]), .str (ByteArray.mk #[])], .box (c_T_spec_l10E false r7), .box (c_T_spec_l10E false r12), .box (c_T_spec_l10E false r16)]) (by simp only [show b 1 = false from e1, show b 5 = false from (hn 5 rfl), show b 9 = false from (hn 9 rfl), cond_true, cond_false]) rfl (o_move rfl rfl) (Eq.trans (b := [.box (c_T_spec_l1Cur c0 o10), .box [.int .i64 0, .str (ByteArray.mk #[]), .int .i64 0, .int .i64 0, .str (ByteArray.mk #[]), .str (ByteArray.mk #[]), .int .i64 0, .nilS], .box [.int .i64 1, .int .i64 r1, .str (ByteArray.mk #[]), .str (ByteArray.mk #[])], .box (c_T_spec_l10E false r7), .box (c_T_spec_l10E false r12), .box (c_T_spec_l10E false r16)]) (by simp only [show updb b 3 1 = false from (updb_ne rfl).trans e1, show updb b 3 5 = false from (updb_ne rfl).trans (hn 5 rfl), show updb b 3 9 = false from (updb_ne rfl).trans (hn 9 rfl), cond_true, cond_false]) rfl) rfl
   ·exact ops_at (σ1 := [.box (c_T_spec_l1Cur c0 o19), .box [.int .i64 0, .str (ByteArray.mk #[]), .int .i64 0, .int .i64 0, .str (ByteArray.mk #[]), .str (ByteArray.mk #[]), .int .i64 0, .nilS], .box [.int .i64 1, .int .i64 r1, .str (ByteArray.mk #[]), .str (ByteArray.mk #[])], .box (c_T_spec_l10E false r7), .box (c_T_spec_l10E false r12), .box (c_T_spec_l10E false r16)]) (by simp only [show b 1 = true from e1, show b 5 = false from (hn 5 rfl), show b 9 = false from (hn 9 rfl), cond_true, cond_false]) rfl (o_move rfl rfl) (Eq.trans (b := [.box (c_T_spec_l1Cur c0 o19), .box [.int .i64 0, .str (ByteArray.mk #[]), .int .i64 0, .int .i64 0, .str (ByteArray.mk #[]), .str (ByteArray.mk #[]), .int .i64 0, .nilS], .box [.int .i64 1, .int .i64 r1, .str (ByteArray.mk #[]), .str (ByteArray.mk #[])], .box (c_T_spec_l10E false r7), .box (c_T_spec_l10E false r12), .box (c_T_spec_l10E false r16)]) (by simp only [show updb b 3 1 = true from (updb_ne rfl).trans e1, show updb b 3 5 = false from (updb_ne rfl).trans (hn 5 rfl), show updb b 3 9 = false from (updb_ne rfl).trans (hn 9 rfl), cond_true, cond_false]) rfl) rfl
  refine .cons _ _ _ _ _ ⟨rfl, [], AllN.get rfl .nil, fun b hd hn hk hc => ?_⟩ ?_
  ·cases e1 : b 1
   ·exact ops_at (σ1 := [.box (c_T_spec_l1Cur c0 o10), .box [.int .i64 0, .str (ByteArray.mk #[]), .int .i64 0, .int .i64 0, .str (ByteArray.mk #[]), .str (ByteArray.mk #[]), .int .i64 0, .nilS], .box [.int .i64 1, .int .i64 r1, .str (ByteArray.mk #[]), .str (ByteArray.mk #[])], .box (c_T_spec_l10E false r7), .box (c_T_spec_l10E false r12), .box (c_T_spec_l10E false r16)]) (by simp only [show b 1 = false from e1, show b 5 = false from (hn 5 rfl), show b 9 = false from (hn 9 rfl), cond_true, cond_false]) rfl (o_sliceIm rfl rfl tyS_9 ⟨_, rfl, rfl⟩ (by decide) rfl rfl rfl rfl rfl rfl) (Eq.trans (b := [.box (c_T_spec_l1Cur c0 o10), .box [.int .i64 0, .str (ByteArray.mk #[]), .int .i64 0, .int .i64 0, .str (ByteArray.mk #[]), .str (ByteArray.mk #[]), .int .i64 0, .nilS], .box [.int .i64 1, .int .i64 r1, .str (ByteArray.mk #[]), .str (ByteArray.mk #[])], .box (c_T_spec_l10E false r7), .box (c_T_spec_l10E false r12), .box (c_T_spec_l10E false r16)]) (by simp only [show updb b 4 1 = false from (updb_ne rfl).trans e1, show updb b 4 5 = false from (updb_ne rfl).trans (hn 5 rfl), show updb b 4 9 = false from (updb_ne rfl).trans (hn 9 rfl), cond_true, cond_false]) rfl) rfl
   ·exact ops_at (σ1 := [.box (c_T_spec_l1Cur c0 o19), .box [.int .i64 0, .str (ByteArray.mk #[]), .int .i64 0, .int .i64 0, .str (ByteArray.mk #[]), .str (ByteArray.mk #[]), .int .i64 0, .nilS], .box [.int .i64 1, .int .i64 r1, .str (ByteArray.mk #[]), .str (ByteArray.mk #[])], .box (c_T_spec_l10E false r7), .box (c_T_spec_l10E false r12), .box (c_T_spec_l10E false r16)]) (by simp only [show b 1 = true from e1, show b 5 = false from (hn 5 rfl), show b 9 = false from (hn 9 rfl), cond_true, cond_false]) rfl (o_sliceIm rfl rfl tyS_9 ⟨_, rfl, rfl⟩ (by decide) rfl rfl rfl rfl rfl rfl) (Eq.trans (b := [.box (c_T_spec_l1Cur c0 o19), .box [.int .i64 0, .str (ByteArray.mk #[]), .int .i64 0, .int .i64 0, .str (ByteArray.mk #[]), .str (ByteArray.mk #[]), .int .i64 0, .nilS], .box [.int .i64 1, .int .i64 r1, .str (ByteArray.mk #[]), .str (ByteArray.mk #[])], .box (c_T_spec_l10E false r7), .box (c_T_spec_l10E false r12), .box (c_T_spec_l10E false r16)]) (by simp only [show updb b 4 1 = true from (updb_ne rfl).trans e1, show updb b 4 5 = false from (updb_ne rfl).trans (hn 5 rfl), show updb b 4 9 = false from (updb_ne rfl).trans (hn 9 rfl), cond_true, cond_false]) rfl) rfl
  refine .cons _ _ _ _ _ ⟨rfl, [(29, .bx 0 0), (30, .im false (([(ByteArray.mk #[97, 103, 101]), (ByteArray.mk #[102, 114, 111, 109]), (ByteArray.mk #[111, 112, 101, 110]), (ByteArray.mk #[119, 104, 101, 110])] : List ByteArray).map (c_str)))], AllN.get rfl (.cons rfl (.cons rfl .nil)), fun b hd hn hk hc => ?_⟩ ?_
  ·exact ops_at (σ1 := [.box (c_T_spec_l1Cur c0 o19), .box [.int .i64 0, .str (ByteArray.mk #[]), .int .i64 0, .int .i64 0, .str (ByteArray.mk #[]), .str (ByteArray.mk #[]), .int .i64 0, .nilS], .box [.int .i64 1, .int .i64 r1, .str (ByteArray.mk #[]), .str (ByteArray.mk #[])], .box (c_T_spec_l10E false r7), .box (c_T_spec_l10E false r12), .box (c_T_spec_l10E false r16)]) (by simp only [show b 1 = true from (hd 1 rfl), show b 5 = false from hk, show b 9 = false from (hn 9 rfl), cond_true, cond_false]) rfl (o_callS [0] rfl en_17 rfl rfl (spec_l1Cur_of_p false c0 h23) rfl (by decide) (.cons _ _ _ _ rfl .nil) rfl rfl rfl) (Eq.trans (b := [.box (c_T_spec_l1Cur c0 o22), .box [.int .i64 0, .str (ByteArray.mk #[]), .int .i64 0, .int .i64 0, .str (ByteArray.mk #[]), .str (ByteArray.mk #[]), .int .i64 0, .nilS], .box [.int .i64 1, .int .i64 r1, .str (ByteArray.mk #[]), .str (ByteArray.mk #[])], .box (c_T_spec_l10E false r7), .box (c_T_spec_l10E false r12), .box (c_T_spec_l10E false r16)]) (by simp only [show updb b 5 1 = true from (updb_ne rfl).trans (hd 1 rfl), show updb b 5 5 = true from updb_self, show updb b 5 9 = false from (updb_ne rfl).trans (hn 9 rfl), cond_true, cond_false]) rfl) rfl
  refine .cons _ _ _ _ _ ⟨rfl, [(7, .bx 5 0)], AllN.get rfl (.cons rfl .nil), fun b hd hn hk hc => ?_⟩ ?_
  ·cases e1 : b 1
   ·cases e5 : b 5
    ·exact ops_at (σ1 := [.box (c_T_spec_l1Cur c0 o10), .box [.int .i64 0, .str (ByteArray.mk #[]), .int .i64 0, .int .i64 0, .str (ByteArray.mk #[]), .str (ByteArray.mk #[]), .int .i64 0, .nilS], .box [.int .i64 1, .int .i64 r1, .str (ByteArray.mk #[]), .str (ByteArray.mk #[])], .box (c_T_spec_l10E false r7), .box (c_T_spec_l10E false r12), .box (c_T_spec_l10E false r16)]) (by simp only [show b 1 = false from e1, show b 5 = false from e5, show b 9 = false from (hn 9 rfl), cond_true, cond_false]) rfl (o_loadBx rfl tyS_67 rfl rfl (Nat.le_of_ble_eq_true rfl) rfl) (Eq.trans (b := [.box (c_T_spec_l1Cur c0 o10), .box [.int .i64 0, .str (ByteArray.mk #[]), .int .i64 0, .int .i64 0, .str (ByteArray.mk #[]), .str (ByteArray.mk #[]), .int .i64 0, .nilS], .box [.int .i64 1, .int .i64 r1, .str (ByteArray.mk #[]), .str (ByteArray.mk #[])], .box (c_T_spec_l10E false r7), .box (c_T_spec_l10E false r12), .box (c_T_spec_l10E false r16)]) (by simp only [show updb b 6 1 = false from (updb_ne rfl).trans e1, show updb b 6 5 = false from (updb_ne rfl).trans e5, show updb b 6 9 = false from (updb_ne rfl).trans (hn 9 rfl), cond_true, cond_false]) rfl) rfl
    ·exact absurd (hc 5 1 rfl rfl e5) (by rw [e1]; decide)
   ·cases e5 : b 5
    ·exact ops_at (σ1 := [.box (c_T_spec_l1Cur c0 o19), .box [.int .i64 0, .str (ByteArray.mk #[]), .int .i64 0, .int .i64 0, .str (ByteArray.mk #[]), .str (ByteArray.mk #[]), .int .i64 0, .nilS], .box [.int .i64 1, .int .i64 r1, .str (ByteArray.mk #[]), .str (ByteArray.mk #[])], .box (c_T_spec_l10E false r7), .box (c_T_spec_l10E false r12), .box (c_T_spec_l10E false r16)]) (by simp only [show b 1 = true from e1, show b 5 = false from e5, show b 9 = false from (hn 9 rfl), cond_true, cond_false]) rfl (o_loadBx rfl tyS_67 rfl rfl (Nat.le_of_ble_eq_true rfl) rfl) (Eq.trans (b := [.box (c_T_spec_l1Cur c0 o19), .box [.int .i64 0, .str (ByteArray.mk #[]), .int .i64 0, .int .i64 0, .str (ByteArray.mk #[]), .str (ByteArray.mk #[]), .int .i64 0, .nilS], .box [.int .i64 1, .int .i64 r1, .str (ByteArray.mk #[]), .str (ByteArray.mk #[])], .box (c_T_spec_l10E false r7), .box (c_T_spec_l10E false r12), .box (c_T_spec_l10E false r16)]) (by simp only [show updb b 6 1 = true from (updb_ne rfl).trans e1, show updb b 6 5 = false from (updb_ne rfl).trans e5, show updb b 6 9 = false from (updb_ne rfl).trans (hn 9 rfl), cond_true, cond_false]) rfl) rfl
    ·exact ops_at (σ1 := [.box (c_T_spec_l1Cur c0 o22), .box [.int .i64 0, .str (ByteArray.mk #[]), .int .i64 0, .int .i64 0, .str (ByteArray.mk #[]), .str (ByteArray.mk #[]), .int .i64 0, .nilS], .box [.int .i64 1, .int .i64 r1, .str (ByteArray.mk #[]), .str (ByteArray.mk #[])], .box (c_T_spec_l10E false r7), .box (c_T_spec_l10E false r12), .box (c_T_spec_l10E false r16)]) (by simp only [show b 1 = true from e1, show b 5 = true from e5, show b 9 = false from (hn 9 rfl), cond_true, cond_false]) rfl (o_loadBx rfl tyS_67 rfl rfl (Nat.le_of_ble_eq_true rfl) rfl) (Eq.trans (b := [.box (c_T_spec_l1Cur c0 o22), .box [.int .i64 0, .str (ByteArray.mk #[]), .int .i64 0, .int .i64 0, .str (ByteArray.mk #[]), .str (ByteArray.mk #[]), .int .i64 0, .nilS], .box [.int .i64 1, .int .i64 r1, .str (ByteArray.mk #[]), .str (ByteArray.mk #[])], .box (c_T_spec_l10E false r7), .box (c_T_spec_l10E false r12), .box (c_T_spec_l10E false r16)]) (by simp only [show updb b 6 1 = true from (updb_ne rfl).trans e1, show updb b 6 5 = true from (updb_ne rfl).trans e5, show updb b 6 9 = false from (updb_ne rfl).trans (hn 9 rfl), cond_true, cond_false]) rfl) rfl
  refine .cons _ _ _ _ _ ⟨rfl, [(32, .agg (c_T_spec_l10E false r16))], AllN.get rfl (.cons rfl .nil), fun b hd hn hk hc => ?_⟩ ?_
  ·cases e1 : b 1
   ·cases e5 : b 5
    ·exact ops_at (σ1 := [.box (c_T_spec_l1Cur c0 o10), .box [.int .i64 0, .str (ByteArray.mk #[]), .int .i64 0, .int .i64 0, .str (ByteArray.mk #[]), .str (ByteArray.mk #[]), .int .i64 0, .nilS], .box [.int .i64 1, .int .i64 r1, .str (ByteArray.mk #[]), .str (ByteArray.mk #[])], .box (c_T_spec_l10E false r7), .box (c_T_spec_l10E false r12), .box (c_T_spec_l10E false r16)]) (by simp only [show b 1 = false from e1, show b 5 = false from e5, show b 9 = false from (hn 9 rfl), cond_true, cond_false]) rfl (o_sliceIm rfl rfl tyS_67 ⟨_, rfl, rfl⟩ (by decide) rfl rfl rfl rfl rfl rfl) (Eq.trans (b := [.box (c_T_spec_l1Cur c0 o10), .box [.int .i64 0, .str (ByteArray.mk #[]), .int .i64 0, .int .i64 0, .str (ByteArray.mk #[]), .str (ByteArray.mk #[]), .int .i64 0, .nilS], .box [.int .i64 1, .int .i64 r1, .str (ByteArray.mk #[]), .str (ByteArray.mk #[])], .box (c_T_spec_l10E false r7), .box (c_T_spec_l10E false r12), .box (c_T_spec_l10E false r16)]) (by simp only [show updb b 7 1 = false from (updb_ne rfl).trans e1, show updb b 7 5 = false from (updb_ne rfl).trans e5, show updb b 7 9 = false from (updb_ne rfl).trans (hn 9 rfl), cond_true, cond_false]) rfl) rfl
    ·exact absurd (hc 5 1 rfl rfl e5) (by rw [e1]; decide)
   ·cases e5 : b 5
    ·exact ops_at (σ1 := [.box (c_T_spec_l1Cur c0 o19), .box [.int .i64 0, .str (ByteArray.mk #[]), .int .i64 0, .int .i64 0, .str (ByteArray.mk #[]), .str (ByteArray.mk #[]), .int .i64 0, .nilS], .box [.int .i64 1, .int .i64 r1, .str (ByteArray.mk #[]), .str (ByteArray.mk #[])], .box (c_T_spec_l10E false r7), .box (c_T_spec_l10E false r12), .box (c_T_spec_l10E false r16)]) (by simp only [show b 1 = true from e1, show b 5 = false from e5, show b 9 = false from (hn 9 rfl), cond_true, cond_false]) rfl (o_sliceIm rfl rfl tyS_67 ⟨_, rfl, rfl⟩ (by decide) rfl rfl rfl rfl rfl rfl) (Eq.trans (b := [.box (c_T_spec_l1Cur c0 o19), .box [.int .i64 0, .str (ByteArray.mk #[]), .int .i64 0, .int .i64 0, .str (ByteArray.mk #[]), .str (ByteArray.mk #[]), .int .i64 0, .nilS], .box [.int .i64 1, .int .i64 r1, .str (ByteArray.mk #[]), .str (ByteArray.mk #[])], .box (c_T_spec_l10E false r7), .box (c_T_spec_l10E false r12), .box (c_T_spec_l10E false r16)]) (by simp only [show updb b 7 1 = true from (updb_ne rfl).trans e1, show updb b 7 5 = false from (updb_ne rfl).trans e5, show updb b 7 9 = false from (updb_ne rfl).trans (hn 9 rfl), cond_true, cond_false]) rfl) rfl
    ·exact ops_at (σ1 := [.box (c_T_spec_l1Cur c0 o22), .box [.int .i64 0, .str (ByteArray.mk #[]), .int .i64 0, .int .i64 0, .str (ByteArray.mk #[]), .str (ByteArray.mk #[]), .int .i64 0, .nilS], .box [.int .i64 1, .int .i64 r1, .str (ByteArray.mk #[]), .str (ByteArray.mk #[])], .box (c_T_spec_l10E false r7), .box (c_T_spec_l10E false r12), .box (c_T_spec_l10E false r16)]) (by simp only [show b 1 = true from e1, show b 5 = true from e5, show b 9 = false from (hn 9 rfl), cond_true, cond_false]) rfl (o_sliceIm rfl rfl tyS_67 ⟨_, rfl, rfl⟩ (by decide) rfl rfl rfl rfl rfl rfl) (Eq.trans (b := [.box (c_T_spec_l1Cur c0 o22), .box [.int .i64 0, .str (ByteArray.mk #[]), .int .i64 0, .int .i64 0, .str (ByteArray.mk #[]), .str (ByteArray.mk #[]), .int .i64 0, .nilS], .box [.int .i64 1, .int .i64 r1, .str (ByteArray.mk #[]), .str (ByteArray.mk #[])], .box (c_T_spec_l10E false r7), .box (c_T_spec_l10E false r12), .box (c_T_spec_l10E false r16)]) (by simp only [show updb b 7 1 = true from (updb_ne rfl).trans e1, show updb b 7 5 = true from (updb_ne rfl).trans e5, show updb b 7 9 = false from (updb_ne rfl).trans (hn 9 rfl), cond_true, cond_false]) rfl) rfl
  refine .cons _ _ _ _ _ ⟨rfl, [(28, .int .i64 (IntKind.i64.wrap (4 + r18))), (31, .str r21), (33, .im false (([(c_T_spec_l10E false r16)] : List (List V)).map (c_raw)))], AllN.get rfl (.cons rfl (.cons rfl (.cons rfl .nil))), fun b hd hn hk hc => ?_⟩ ?_
  ·exact ops_at (σ1 := [.box (c_T_spec_l1Cur c0 o22), .box [.int .i64 0, .str (ByteArray.mk #[]), .int .i64 0, .int .i64 0, .str (ByteArray.mk #[]), .str (ByteArray.mk #[]), .int .i64 0, .nilS], .box [.int .i64 1, .int .i64 r1, .str (ByteArray.mk #[]), .str (ByteArray.mk #[])], .box (c_T_spec_l10E false r7), .box (c_T_spec_l10E false r12), .box (c_T_spec_l10E false r16)]) (by simp only [show b 1 = true from (hd 1 rfl), show b 5 = true from (hd 5 rfl), show b 9 = false from (hn 9 rfl), cond_true, cond_false]) rfl (o_callP rfl en_60 rfl rfl (.cons _ _ _ _ (.cl _ rfl) (.cons _ _ _ _ (.cl _ rfl) (.cons _ _ _ _ (.cl _ rfl) .nil))) (spec_l10Node_p false h25)) (Eq.trans (b := [.box (c_T_spec_l1Cur c0 o22), .box [.int .i64 0, .str (ByteArray.mk #[]), .int .i64 0, .int .i64 0, .str (ByteArray.mk #[]), .str (ByteArray.mk #[]), .int .i64 0, .nilS], .box [.int .i64 1, .int .i64 r1, .str (ByteArray.mk #[]), .str (ByteArray.mk #[])], .box (c_T_spec_l10E false r7), .box (c_T_spec_l10E false r12), .box (c_T_spec_l10E false r16)]) (by simp only [show updb b 8 1 = true from (updb_ne rfl).trans (hd 1 rfl), show updb b 8 5 = true from (updb_ne rfl).trans (hd 5 rfl), show updb b 8 9 = false from (updb_ne rfl).trans (hn 9 rfl), cond_true, cond_false]) rfl) rfl
  refine .cons _ _ _ _ _ ⟨rfl, [(2, .bx 1 0), (34, .agg (c_T_spec_l10E false r24))], AllN.get rfl (.cons rfl (.cons rfl .nil)), fun b hd hn hk hc => ?_⟩ ?_
  ·exact ops_at (σ1 := [.box (c_T_spec_l1Cur c0 o22), .box [.int .i64 0, .str (ByteArray.mk #[]), .int .i64 0, .int .i64 0, .str (ByteArray.mk #[]), .str (ByteArray.mk #[]), .int .i64 0, .nilS], .box [.int .i64 1, .int .i64 r1, .str (ByteArray.mk #[]), .str (ByteArray.mk #[])], .box (c_T_spec_l10E false r7), .box (c_T_spec_l10E false r12), .box (c_T_spec_l10E false r16)]) (by simp only [show b 1 = true from (hd 1 rfl), show b 5 = true from (hd 5 rfl), show b 9 = false from hk, cond_true, cond_false]) rfl (o_storeBx rfl tyS_67 rfl rfl rfl rfl (Nat.le_of_ble_eq_true rfl) rfl) (Eq.trans (b := [.box (c_T_spec_l1Cur c0 o22), .box (c_T_spec_l10E false r24), .box [.int .i64 1, .int .i64 r1, .str (ByteArray.mk #[]), .str (ByteArray.mk #[])], .box (c_T_spec_l10E false r7), .box (c_T_spec_l10E false r12), .box (c_T_spec_l10E false r16)]) (by simp only [show updb b 9 1 = true from (updb_ne rfl).trans (hd 1 rfl), show updb b 9 5 = true from (updb_ne rfl).trans (hd 5 rfl), show updb b 9 9 = true from updb_self, cond_true, cond_false]) rfl) rfl
  exact .nil _
 ·intro b b' h; simp only [h 1 (by decide), h 5 (by decide), h 9 (by decide)]
 refine thn_normal (T.ret ?_)
 cases some_i H
 exact ⟨trivial, _, (.cell _ _ _ _ _ _ _ _ _ _ rfl rfl tyS_67 (Nat.le_of_ble_eq_true rfl) rfl .nil), ⟨rfl, _, rfl⟩⟩
theorem en_64 (us : Array Value) (w : World) : (callFunc 64 us).run Go.Proofs.Tryz.prog w = .ok (.enter 64 us) w := enters Go.Proofs.Tryz.func64 rfl rfl us w
noncomputable def spec_l1Cur_boolExpr_j3 (a0 : Int) (rec_spec_l1Cur_boolExpr : (Int × T_spec_l1Cur) → Option (T_spec_l10E × T_spec_l1Cur)) (o2 : T_spec_l1Cur) (v4 : Int) (v14 : Bool) : Option (T_spec_l10E × T_spec_l1Cur) :=
  cond v14 ((rec_spec_l1Cur_boolExpr ((IntKind.i64.wrap (a0 - 1)), o2)).bind fun q => (match q with | (r15, o16) => (rec_spec_l1Cur_boolExpr ((IntKind.i64.wrap (a0 - 1)), o16)).bind fun q => (match q with | (r18, o19) => (spec_l10Node 9 (ByteArray.mk #[]) ([(c_T_spec_l10E false r15), (c_T_spec_l10E false r18)] : List (List V))).bind fun r21 => some (r21, o19)))) (cond (v4 == 5) ((rec_spec_l1Cur_boolExpr ((IntKind.i64.wrap (a0 - 1)), o2)).bind fun q => (match q with | (r23, o24) => (spec_l10Node 6 (ByteArray.mk #[]) ([(c_T_spec_l10E false r23)] : List (List V))).bind fun r26 => some (r26, o24))) (cond (v4 == 6) ((rec_spec_l1Cur_boolExpr ((IntKind.i64.wrap (a0 - 1)), o2)).bind fun q => (match q with | (r28, o29) => (rec_spec_l1Cur_boolExpr ((IntKind.i64.wrap (a0 - 1)), o29)).bind fun q => (match q with | (r31, o32) => (rec_spec_l1Cur_boolExpr ((IntKind.i64.wrap (a0 - 1)), o32)).bind fun q => (match q with | (r34, o35) => (spec_l10Node 10 (ByteArray.mk #[]) ([(c_T_spec_l10E false r28), (c_T_spec_l10E false r31), (c_T_spec_l10E false r34)] : List (List V))).bind fun r37 => some (r37, o35))))) (cond (v4 == 7) ((spec_l1Cur_path o2).bind fun q => (match q with | (r39, o40) => (spec_l10Node 5 r39.n_.Text_ r39.kids_).bind fun r42 => (spec_l1Cur_numExpr a0 o40).bind fun q => (match q with | (r44, o45) => (spec_l10Node 13 (ByteArray.mk #[]) ([(c_T_spec_l10E false r39), (c_T_spec_l10E false r44)] : List (List V))).bind fun r47 => (spec_l10Node 8 (ByteArray.mk #[]) ([(c_T_spec_l10E false r42), (c_T_spec_l10E false r47)] : List (List V))).bind fun r49 => some (r49, o45)))) (cond (v4 == 8) ((spec_l1Cur_pick 3 o2).bind fun q => (match q with | (r51, o52) => (spec_l1Cur_numExpr a0 o52).bind fun q => (match q with | (r54, o55) => (spec_l1Cur_numExpr a0 o55).bind fun q => (match q with | (r57, o58) => (spec_l10Node (IntKind.i64.wrap (11 + r51)) (ByteArray.mk #[]) ([(c_T_spec_l10E false r54), (c_T_spec_l10E false r57)] : List (List V))).bind fun r60 => some (r60, o58))))) (cond (v4 == 9) ((spec_l1Cur_of ([(ByteArray.mk #[112, 114, 105, 110, 99, 105, 112, 97, 108]), (ByteArray.mk #[114, 101, 115, 111, 117, 114, 99, 101])] : List ByteArray) o2).bind fun q => (match q with | (r62, o63) => (spec_l10Node 3 r62 ([] : List (List V))).bind fun r65 => (spec_l1Cur_thingRef o63).bind fun q => (match q with | (r67, o68) => (spec_l10Lit r67).bind fun r70 => (spec_l10Node 17 (ByteArray.mk #[]) ([(c_T_spec_l10E false r65), (c_T_spec_l10E false r70)] : List (List V))).bind fun r72 => some (r72, o68)))) (cond (v4 == 10) ((spec_l1Cur_of ([(ByteArray.mk #[100, 101, 112, 116]), (ByteArray.mk #[111, 112, 101, 110]), (ByteArray.mk #[111, 119, 110, 101, 114])] : List ByteArray) o2).bind fun q => (match q with | (r74, o75) => (spec_l1Cur_of ([(ByteArray.mk #[112, 114, 105, 110, 99, 105, 112, 97, 108]), (ByteArray.mk #[114, 101, 115, 111, 117, 114, 99, 101])] : List ByteArray) o75).bind fun q => (match q with | (r77, o78) => (spec_l10Node 3 r77 ([] : List (List V))).bind fun r80 => (spec_l10Node 4 r74 ([(c_T_spec_l10E false r80)] : List (List V))).bind fun r82 => (spec_l1Cur_thingRef o78).bind fun q => (match q with | (r84, o85) => (spec_l1Cur_atom o85).bind fun q => (match q with | (r87, o88) => (spec_l1Cur_pick 3 o88).bind fun q => (match q with | (r90, o91) => (idx ([(⟨3, 0, (ByteArray.mk #[108, 97, 98]), (ByteArray.mk #[])⟩ : T_impl_Atom), r84, r87] : List T_impl_Atom) r90).bind fun e93 => (spec_l10Lit e93).bind fun r95 => (spec_l10Node 11 (ByteArray.mk #[]) ([(c_T_spec_l10E false r82), (c_T_spec_l10E false r95)] : List (List V))).bind fun r97 => some (r97, o91))))))) (cond (v4 == 11) ((spec_l1Cur_path o2).bind fun q => (match q with | (r99, o100) => (spec_l1Cur_of ([(ByteArray.mk #[97]), (ByteArray.mk #[98])] : List ByteArray) o100).bind fun q => (match q with | (r102, o103) => (spec_l10Lit (⟨3, 0, r102, (ByteArray.mk #[])⟩ : T_impl_Atom)).bind fun r105 => (spec_l10Node 18 (ByteArray.mk #[]) ([(c_T_spec_l10E false r99), (c_T_spec_l10E false r105)] : List (List V))).bind fun r107 => some (r107, o103)))) (cond (v4 == 12) ((spec_l1Cur_of ([(ByteArray.mk #[108, 42]), (ByteArray.mk #[42]), (ByteArray.mk #[97, 92, 42, 98]), (ByteArray.mk #[])] : List ByteArray) o2).bind fun q => (match q with | (r109, o110) => (spec_l1Cur_path o110).bind fun q => (match q with | (r112, o113) => (spec_l10Node 20 r109 ([(c_T_spec_l10E false r112)] : List (List V))).bind fun r115 => some (r115, o113)))) (cond (v4 == 13) ((spec_l1Cur_of ([(ByteArray.mk #[85, 115, 101, 114]), (ByteArray.mk #[68, 111, 99])] : List ByteArray) o2).bind fun q => (match q with | (r117, o118) => (spec_l1Cur_of ([(ByteArray.mk #[112, 114, 105, 110, 99, 105, 112, 97, 108]), (ByteArray.mk #[114, 101, 115, 111, 117, 114, 99, 101])] : List ByteArray) o118).bind fun q => (match q with | (r120, o121) => (spec_l10Node 3 r120 ([] : List (List V))).bind fun r123 => (spec_l10Node 21 r117 ([(c_T_spec_l10E false r123)] : List (List V))).bind fun r125 => some (r125, o121)))) (cond (v4 == 14) ((spec_l10Node 3 (ByteArray.mk #[99, 111, 110, 116, 101, 120, 116]) ([] : List (List V))).bind fun r127 => (spec_l10Node 4 (ByteArray.mk #[102, 114, 111, 109]) ([(c_T_spec_l10E false r127)] : List (List V))).bind fun r129 => (spec_l1Cur_block o2).bind fun q => (match q with | (r131, o132) => (spec_l10Lit r131).bind fun r134 => (spec_l10Node 19 (ByteArray.mk #[]) ([(c_T_spec_l10E false r129), (c_T_spec_l10E false r134)] : List (List V))).bind fun r136 => some (r136, o132))) ((spec_l1Cur_one 3 o2).bind fun q => (match q with | (r138, o139) => cond r138 ((spec_l1Cur_atom o139).bind fun q => (match q with | (r141, o142) => (spec_l10Lit r141).bind fun r144 => some (r144, o142))) ((spec_l1Cur_one 3 o139).bind fun q => (match q with | (r146, o147) => cond r146 ((spec_l1Cur_ofContext o147).bind fun q => (match q with | (r149, o150) => some (r149, o150))) ((spec_l1Cur_path o147).bind fun q => (match q with | (r152, o153) => some (r152, o153)))))))))))))))))
noncomputable def spec_l1Cur_boolExpr_j2 (a0 : Int) (rec_spec_l1Cur_boolExpr : (Int × T_spec_l1Cur) → Option (T_spec_l10E × T_spec_l1Cur)) (o2 : T_spec_l1Cur) (v4 : Int) (v5 : Bool) : Option (T_spec_l10E × T_spec_l1Cur) :=
  cond v5 ((rec_spec_l1Cur_boolExpr ((IntKind.i64.wrap (a0 - 1)), o2)).bind fun q => (match q with | (r6, o7) => (rec_spec_l1Cur_boolExpr ((IntKind.i64.wrap (a0 - 1)), o7)).bind fun q => (match q with | (r9, o10) => (spec_l10Node 8 (ByteArray.mk #[]) ([(c_T_spec_l10E false r6), (c_T_spec_l10E false r9)] : List (List V))).bind fun r12 => some (r12, o10)))) (cond (v4 == 3) (spec_l1Cur_boolExpr_j3 a0 rec_spec_l1Cur_boolExpr o2 v4 (v4 == 3)) (spec_l1Cur_boolExpr_j3 a0 rec_spec_l1Cur_boolExpr o2 v4 (v4 == 4)))
noncomputable def spec_l1Cur_boolExpr_j1 (a0 : Int) (rec_spec_l1Cur_boolExpr : (Int × T_spec_l1Cur) → Option (T_spec_l10E × T_spec_l1Cur)) (o2 : T_spec_l1Cur) (v4 : Int) : Option (T_spec_l10E × T_spec_l1Cur) :=
  cond (v4 == 0) (spec_l1Cur_boolExpr_j2 a0 rec_spec_l1Cur_boolExpr o2 v4 (v4 == 0)) (cond (v4 == 1) (spec_l1Cur_boolExpr_j2 a0 rec_spec_l1Cur_boolExpr o2 v4 (v4 == 1)) (spec_l1Cur_boolExpr_j2 a0 rec_spec_l1Cur_boolExpr o2 v4 (v4 == 2)))
noncomputable def spec_l1Cur_boolExpr_b (rec_spec_l1Cur_boolExpr : (Int × T_spec_l1Cur) → Option (T_spec_l10E × T_spec_l1Cur)) (a0 : Int) (s0 : T_spec_l1Cur) : Option (T_spec_l10E × T_spec_l1Cur) :=
  (spec_l1Cur_pick 16 s0).bind fun q => (match q with | (r1, o2) => cond ((a0 == 0) && decide (r1 < 7)) (spec_l1Cur_boolExpr_j1 a0 rec_spec_l1Cur_boolExpr o2 (IntKind.i64.wrap (r1 + 7))) (spec_l1Cur_boolExpr_j1 a0 rec_spec_l1Cur_boolExpr o2 r1))
noncomputable def spec_l1Cur_boolExpr (a0 : Int) (s0 : T_spec_l1Cur) : Option (T_spec_l10E × T_spec_l1Cur) := fixO (fun rec_spec_l1Cur_boolExpr x => match x with | (a0, s0) => spec_l1Cur_boolExpr_b rec_spec_l1Cur_boolExpr a0 s0) (a0, s0)
theorem spec_l1Cur_boolExpr_pb {rec_spec_l1Cur_boolExpr : (Int × T_spec_l1Cur) → Option (T_spec_l10E × T_spec_l1Cur)} (Hrec_spec_l1Cur_boolExpr : ∀ (c0 : Bool) {a0 : Int} {s0 : T_spec_l1Cur} {R0 : T_spec_l10E} {U0 : T_spec_l1Cur}, rec_spec_l1Cur_boolExpr (a0, s0) = some (R0, U0) → St Go.Proofs.Tryz.prog 37 [.bx 0 0, .int .i64 a0] [.box (c_T_spec_l1Cur c0 s0)] (.agg (c_T_spec_l10E false R0)) [.box (c_T_spec_l1Cur c0 U0)]) (c0 : Bool) {a0 : Int} {s0 : T_spec_l1Cur} {R0 : T_spec_l10E} {U0 : T_spec_l1Cur} (H : spec_l1Cur_boolExpr_b rec_spec_l1Cur_boolExpr a0 s0 = some (R0, U0)) : St Go.Proofs.Tryz.prog 37 [.bx 0 0, .int .i64 a0] [.box (c_T_spec_l1Cur c0 s0)] (.agg (c_T_spec_l10E false R0)) [.box (c_T_spec_l1Cur c0 U0)] := by
 refine CallT.fin (CallT.of_TN (n := 187) Go.Proofs.Tryz.func37 rfl rfl rfl rfl ?_) rfl rfl ⟨(bels_iff.1 rfl), trivial⟩
 refine T.seq (T.region (TL.st rfl rfl rfl (o_alloc rfl ⟨_, rfl, rfl⟩) (TL.nil (thn_normal (T.seq (T.region (TL.st rfl rfl rfl (o_move rfl rfl) ?_)))))))
 obtain ⟨⟨r1, o2⟩, h3, H⟩ := bind_s H
 refine TL.st rfl rfl rfl (o_callS [0] rfl en_14 rfl rfl (spec_l1Cur_pick_p c0 h3) rfl (by decide) (.cons _ _ _ _ rfl .nil) rfl rfl rfl) ?_
 refine TL.st rfl rfl rfl (o_assign rfl rfl) (TL.nil (thn_normal (T.cut (fun fr' σ' => ∃ (v4 : Int), fr' = [(0, .bx 0 0), (1, .int .i64 a0), (4, .bx 1 0), (5, .int .i64 v4)] ∧ σ' = [.box (c_T_spec_l1Cur c0 o2), .box [.int .i64 0, .str (ByteArray.mk #[]), .int .i64 0, .int .i64 0, .str (ByteArray.mk #[]), .str (ByteArray.mk #[]), .int .i64 0, .nilS]] ∧ spec_l1Cur_boolExpr_j1 a0 rec_spec_l1Cur_boolExpr o2 v4 = some (R0, U0)) (T.pk ?_) ?_)))
 ·skip
  refine T.seq (T.region (TL.st rfl rfl rfl (o_move rfl rfl) (TL.st rfl rfl rfl (o_ari rfl rfl rfl rfl) (TL.st rfl rfl rfl (o_move rfl rfl) (TL.gcq rfl rfl rfl (.bool _) rfl rfl (fun h => o_move rfl rfl) (TL.gcq rfl rfl rfl (.bool _) rfl rfl (fun h => o_ari rfl (gv h rfl) rfl rfl) ?_))))))
  refine TL.st rfl rfl rfl (o_and rfl rfl rfl (fun k => Gd_t k) rfl) (TL.nil (thn_normal ?_))
  refine T.cond (((a0 == 0) && decide (r1 < 7))) rfl (fun h => ?_) (fun h => ?_)
  ·replace H := cond_t h H
   refine T.region (TL.st rfl rfl rfl (o_move rfl rfl) (TL.st rfl rfl rfl (o_ari rfl rfl rfl rfl) (TL.st rfl rfl rfl (o_assign rfl rfl) (TL.nil ?_))))
   exact Pk.go (fr' := [(0, .bx 0 0), (1, .int .i64 a0), (4, .bx 1 0), (5, .int .i64 (IntKind.i64.wrap (r1 + 7)))]) (σ' := [.box (c_T_spec_l1Cur c0 o2), .box [.int .i64 0, .str (ByteArray.mk #[]), .int .i64 0, .int .i64 0, .str (ByteArray.mk #[]), .str (ByteArray.mk #[]), .int .i64 0, .nilS]]) _ rfl rfl ⟨(bels_iff.1 rfl), ⟨(bels_iff.1 rfl), trivial⟩⟩ (.cons 0 _ (.bx 0 0) _ rfl (.same _) rfl (.cons 1 _ (.int .i64 a0) _ rfl (.same _) rfl (.cons 4 _ (.bx 1 0) _ rfl (.same _) rfl (.cons 5 _ (.int .i64 (IntKind.i64.wrap (r1 + 7))) _ rfl (.same _) rfl .nil)))) (thn_normal ⟨(IntKind.i64.wrap (r1 + 7)), rfl, rfl, H⟩)
  ·replace H := cond_f h H
   refine T.skip ?_
   exact Pk.go (fr' := [(0, .bx 0 0), (1, .int .i64 a0), (4, .bx 1 0), (5, .int .i64 r1)]) (σ' := [.box (c_T_spec_l1Cur c0 o2), .box [.int .i64 0, .str (ByteArray.mk #[]), .int .i64 0, .int .i64 0, .str (ByteArray.mk #[]), .str (ByteArray.mk #[]), .int .i64 0, .nilS]]) _ rfl rfl ⟨(bels_iff.1 rfl), ⟨(bels_iff.1 rfl), trivial⟩⟩ (.cons 0 _ (.bx 0 0) _ rfl (.same _) rfl (.cons 1 _ (.int .i64 a0) _ rfl (.same _) rfl (.cons 4 _ (.bx 1 0) _ rfl (.same _) rfl (.cons 5 _ (.int .i64 r1) _ rfl (.same _) rfl .nil)))) (thn_normal ⟨r1, rfl, rfl, H⟩)
 ·rintro _ _ ⟨v4, rfl, rfl, H⟩
  refine T.seq (T.seq (T.region (TL.st rfl rfl rfl (o_move rfl rfl) (TL.nil (thn_normal (T.block (T.cut (fun fr' σ' => ∃ (v5 : Bool), fr' = [(0, .bx 0 0), (1, .int .i64 a0), (4, .bx 1 0), (17, .int .i64 v4), (18, .bool v5)] ∧ σ' = [.box (c_T_spec_l1Cur c0 o2), .box [.int .i64 0, .str (ByteArray.mk #[]), .int .i64 0, .int .i64 0, .str (ByteArray.mk #[]), .str (ByteArray.mk #[]), .int .i64 0, .nilS]] ∧ spec_l1Cur_boolExpr_j2 a0 rec_spec_l1Cur_boolExpr o2 v4 v5 = some (R0, U0)) (T.pk ?_) ?_)))))))
  ·skip
   refine T.seq (T.region (TL.st rfl rfl rfl (o_ari rfl rfl rfl rfl) (TL.st rfl rfl rfl (o_assign rfl rfl) (TL.nil (thn_normal ?_)))))
   refine T.cond ((v4 == 0)) rfl (fun h => ?_) (fun h => ?_)
   ·replace H := cond_t h H
    refine T.skip ?_
    exact Pk.go (fr' := [(0, .bx 0 0), (1, .int .i64 a0), (4, .bx 1 0), (17, .int .i64 v4), (18, .bool (v4 == 0))]) (σ' := [.box (c_T_spec_l1Cur c0 o2), .box [.int .i64 0, .str (ByteArray.mk #[]), .int .i64 0, .int .i64 0, .str (ByteArray.mk #[]), .str (ByteArray.mk #[]), .int .i64 0, .nilS]]) _ rfl rfl ⟨(bels_iff.1 rfl), ⟨(bels_iff.1 rfl), trivial⟩⟩ (.cons 0 _ (.bx 0 0) _ rfl (.same _) rfl (.cons 1 _ (.int .i64 a0) _ rfl (.same _) rfl (.cons 4 _ (.bx 1 0) _ rfl (.same _) rfl (.cons 17 _ (.int .i64 v4) _ rfl (.same _) rfl (.cons 18 _ (.bool (v4 == 0)) _ rfl (.same _) rfl .nil))))) (thn_normal ⟨(v4 == 0), rfl, rfl, H⟩)
   ·replace H := cond_f h H
    refine T.seq (T.region (TL.st rfl rfl rfl (o_ari rfl rfl rfl rfl) (TL.st rfl rfl rfl (o_assign rfl rfl) (TL.nil (thn_normal ?_)))))
    refine T.cond ((v4 == 1)) rfl (fun h => ?_) (fun h => ?_)
    ·replace H := cond_t h H
     refine T.skip ?_
     exact Pk.go (fr' := [(0, .bx 0 0), (1, .int .i64 a0), (4, .bx 1 0), (17, .int .i64 v4), (18, .bool (v4 == 1))]) (σ' := [.box (c_T_spec_l1Cur c0 o2), .box [.int .i64 0, .str (ByteArray.mk #[]), .int .i64 0, .int .i64 0, .str (ByteArray.mk #[]), .str (ByteArray.mk #[]), .int .i64 0, .nilS]]) _ rfl rfl ⟨(bels_iff.1 rfl), ⟨(bels_iff.1 rfl), trivial⟩⟩ (.cons 0 _ (.bx 0 0) _ rfl (.same _) rfl (.cons 1 _ (.int .i64 a0) _ rfl (.same _) rfl (.cons 4 _ (.bx 1 0) _ rfl (.same _) rfl (.cons 17 _ (.int .i64 v4) _ rfl (.same _) rfl (.cons 18 _ (.bool (v4 == 1)) _ rfl (.same _) rfl .nil))))) (thn_normal ⟨(v4 == 1), rfl, rfl, H⟩)
    ·replace H := cond_f h H
     refine T.region (TL.st rfl rfl rfl (o_ari rfl rfl rfl rfl) (TL.st rfl rfl rfl (o_assign rfl rfl) (TL.nil ?_)))
     exact Pk.go (fr' := [(0, .bx 0 0), (1, .int .i64 a0), (4, .bx 1 0), (17, .int .i64 v4), (18, .bool (v4 == 2))]) (σ' := [.box (c_T_spec_l1Cur c0 o2), .box [.int .i64 0, .str (ByteArray.mk #[]), .int .i64 0, .int .i64 0, .str (ByteArray.mk #[]), .str (ByteArray.mk #[]), .int .i64 0, .nilS]]) _ rfl rfl ⟨(bels_iff.1 rfl), ⟨(bels_iff.1 rfl), trivial⟩⟩ (.cons 0 _ (.bx 0 0) _ rfl (.same _) rfl (.cons 1 _ (.int .i64 a0) _ rfl (.same _) rfl (.cons 4 _ (.bx 1 0) _ rfl (.same _) rfl (.cons 17 _ (.int .i64 v4) _ rfl (.same _) rfl (.cons 18 _ (.bool (v4 == 2)) _ rfl (.same _) rfl .nil))))) (thn_normal ⟨(v4 == 2), rfl, rfl, H⟩)
  ·rintro _ _ ⟨v5, rfl, rfl, H⟩
   refine T.cond (v5) rfl (fun h => ?_) (fun h => ?_)
   ·replace H := cond_t h H
    refine T.seq (T.region (TL.st rfl rfl rfl (o_move rfl rfl) (TL.st rfl rfl rfl (o_move rfl rfl) (TL.st rfl rfl rfl (o_ari rfl rfl rfl rfl) ?_))))
    obtain ⟨⟨r6, o7⟩, h8, H⟩ := bind_s H
    refine TL.st rfl rfl rfl (o_callS [0] rfl en_37 rfl rfl (Hrec_spec_l1Cur_boolExpr c0 h8) rfl (by decide) (.cons _ _ _ _ rfl .nil) rfl rfl rfl) ?_
    refine TL.st rfl rfl rfl (o_move rfl rfl) (TL.st rfl rfl rfl (o_move rfl rfl) (TL.st rfl rfl rfl (o_ari rfl rfl rfl rfl) ?_))
    obtain ⟨⟨r9, o10⟩, h11, H⟩ := bind_s H
    refine TL.st rfl rfl rfl (o_callS [0] rfl en_37 rfl rfl (Hrec_spec_l1Cur_boolExpr c0 h11) rfl (by decide) (.cons _ _ _ _ rfl .nil) rfl rfl rfl) ?_
    refine TL.st rfl rfl rfl (o_sliceIm rfl rfl tyS_67 ⟨_, rfl, rfl⟩ (by decide) rfl rfl rfl rfl rfl rfl) ?_
    obtain ⟨r12, h13, H⟩ := bind_s H
    refine TL.st rfl rfl rfl (o_callP rfl en_60 rfl rfl (.cons _ _ _ _ (.cl _ rfl) (.cons _ _ _ _ (.cl _ rfl) (.cons _ _ _ _ (.cl _ rfl) .nil))) (spec_l10Node_p false h13)) ?_
    refine TL.sn rfl rfl (o_storeBx rfl tyS_67 rfl rfl rfl rfl (Nat.le_of_ble_eq_true rfl) rfl) ?_
    refine TL.nil (thn_normal (T.ret (inB_ret (thn_ret ?_))))
    cases some_i H
    exact ⟨trivial, _, (.cell _ _ _ _ _ _ _ _ _ _ rfl rfl tyS_67 (Nat.le_of_ble_eq_true rfl) rfl .nil), ⟨rfl, _, rfl⟩⟩
   ·replace H := cond_f h H
    refine T.cut (fun fr' σ' => ∃ (v14 : Bool), fr' = [(0, .bx 0 0), (1, .int .i64 a0), (4, .bx 1 0), (17, .int .i64 v4), (32, .bool v14)] ∧ σ' = [.box (c_T_spec_l1Cur c0 o2), .box [.int .i64 0, .str (ByteArray.mk #[]), .int .i64 0, .int .i64 0, .str (ByteArray.mk #[]), .str (ByteArray.mk #[]), .int .i64 0, .nilS]] ∧ spec_l1Cur_boolExpr_j3 a0 rec_spec_l1Cur_boolExpr o2 v4 v14 = some (R0, U0)) (T.pk ?_) ?_
    ·skip
     refine T.seq (T.region (TL.st rfl rfl rfl (o_ari rfl rfl rfl rfl) (TL.st rfl rfl rfl (o_assign rfl rfl) (TL.nil (thn_normal ?_)))))
     refine T.cond ((v4 == 3)) rfl (fun h => ?_) (fun h => ?_)
     ·replace H := cond_t h H
      refine T.skip ?_
      exact Pk.go (fr' := [(0, .bx 0 0), (1, .int .i64 a0), (4, .bx 1 0), (17, .int .i64 v4), (32, .bool (v4 == 3))]) (σ' := [.box (c_T_spec_l1Cur c0 o2), .box [.int .i64 0, .str (ByteArray.mk #[]), .int .i64 0, .int .i64 0, .str (ByteArray.mk #[]), .str (ByteArray.mk #[]), .int .i64 0, .nilS]]) _ rfl rfl ⟨(bels_iff.1 rfl), ⟨(bels_iff.1 rfl), trivial⟩⟩ (.cons 0 _ (.bx 0 0) _ rfl (.same _) rfl (.cons 1 _ (.int .i64 a0) _ rfl (.same _) rfl (.cons 4 _ (.bx 1 0) _ rfl (.same _) rfl (.cons 17 _ (.int .i64 v4) _ rfl (.same _) rfl (.cons 32 _ (.bool (v4 == 3)) _ rfl (.same _) rfl .nil))))) (thn_normal ⟨(v4 == 3), rfl, rfl, H⟩)
     ·replace H := cond_f h H
      refine T.region (TL.st rfl rfl rfl (o_ari rfl rfl rfl rfl) (TL.st rfl rfl rfl (o_assign rfl rfl) (TL.nil ?_)))
      exact Pk.go (fr' := [(0, .bx 0 0), (1, .int .i64 a0), (4, .bx 1 0), (17, .int .i64 v4), (32, .bool (v4 == 4))]) (σ' := [.box (c_T_spec_l1Cur c0 o2), .box [.int .i64 0, .str (ByteArray.mk #[]), .int .i64 0, .int .i64 0, .str (ByteArray.mk #[]), .str (ByteArray.mk #[]), .int .i64 0, .nilS]]) _ rfl rfl ⟨(bels_iff.1 rfl), ⟨(bels_iff.1 rfl), trivial⟩⟩ (.cons 0 _ (.bx 0 0) _ rfl (.same _) rfl (.cons 1 _ (.int .i64 a0) _ rfl (.same _) rfl (.cons 4 _ (.bx 1 0) _ rfl (.same _) rfl (.cons 17 _ (.int .i64 v4) _ rfl (.same _) rfl (.cons 32 _ (.bool (v4 == 4)) _ rfl (.same _) rfl .nil))))) (thn_normal ⟨(v4 == 4), rfl, rfl, H⟩)
    ·rintro _ _ ⟨v14, rfl, rfl, H⟩
     refine T.cond (v14) rfl (fun h => ?_) (fun h => ?_)
     ·replace H := cond_t h H
      refine T.seq (T.region (TL.st rfl rfl rfl (o_move rfl rfl) (TL.st rfl rfl rfl (o_move rfl rfl) (TL.st rfl rfl rfl (o_ari rfl rfl rfl rfl) ?_))))
      obtain ⟨⟨r15, o16⟩, h17, H⟩ := bind_s H
      refine TL.st rfl rfl rfl (o_callS [0] rfl en_37 rfl rfl (Hrec_spec_l1Cur_boolExpr c0 h17) rfl (by decide) (.cons _ _ _ _ rfl .nil) rfl rfl rfl) ?_
      refine TL.st rfl rfl rfl (o_move rfl rfl) (TL.st rfl rfl rfl (o_move rfl rfl) (TL.st rfl rfl rfl (o_ari rfl rfl rfl rfl) ?_))
      obtain ⟨⟨r18, o19⟩, h20, H⟩ := bind_s H
      refine TL.st rfl rfl rfl (o_callS [0] rfl en_37 rfl rfl (Hrec_spec_l1Cur_boolExpr c0 h20) rfl (by decide) (.cons _ _ _ _ rfl .nil) rfl rfl rfl) ?_
      refine TL.st rfl rfl rfl (o_sliceIm rfl rfl tyS_67 ⟨_, rfl, rfl⟩ (by decide) rfl rfl rfl rfl rfl rfl) ?_
      obtain ⟨r21, h22, H⟩ := bind_s H
      refine TL.st rfl rfl rfl (o_callP rfl en_60 rfl rfl (.cons _ _ _ _ (.cl _ rfl) (.cons _ _ _ _ (.cl _ rfl) (.cons _ _ _ _ (.cl _ rfl) .nil))) (spec_l10Node_p false h22)) ?_
      refine TL.sn rfl rfl (o_storeBx rfl tyS_67 rfl rfl rfl rfl (Nat.le_of_ble_eq_true rfl) rfl) ?_
      refine TL.nil (thn_normal (T.ret (inB_ret (thn_ret ?_))))
      cases some_i H
      exact ⟨trivial, _, (.cell _ _ _ _ _ _ _ _ _ _ rfl rfl tyS_67 (Nat.le_of_ble_eq_true rfl) rfl .nil), ⟨rfl, _, rfl⟩⟩
     ·replace H := cond_f h H
      refine T.seq (T.region (TL.st rfl rfl rfl (o_ari rfl rfl rfl rfl) (TL.st rfl rfl rfl (o_assign rfl rfl) (TL.nil (thn_normal ?_)))))
      refine T.cond ((v4 == 5)) rfl (fun h => ?_) (fun h => ?_)
      ·replace H := cond_t h H
       refine T.seq (T.region (TL.st rfl rfl rfl (o_move rfl rfl) (TL.st rfl rfl rfl (o_move rfl rfl) (TL.st rfl rfl rfl (o_ari rfl rfl rfl rfl) ?_))))
       obtain ⟨⟨r23, o24⟩, h25, H⟩ := bind_s H
       refine TL.st rfl rfl rfl (o_callS [0] rfl en_37 rfl rfl (Hrec_spec_l1Cur_boolExpr c0 h25) rfl (by decide) (.cons _ _ _ _ rfl .nil) rfl rfl rfl) ?_
       refine TL.st rfl rfl rfl (o_sliceIm rfl rfl tyS_67 ⟨_, rfl, rfl⟩ (by decide) rfl rfl rfl rfl rfl rfl) ?_
       obtain ⟨r26, h27, H⟩ := bind_s H
       refine TL.st rfl rfl rfl (o_callP rfl en_60 rfl rfl (.cons _ _ _ _ (.cl _ rfl) (.cons _ _ _ _ (.cl _ rfl) (.cons _ _ _ _ (.cl _ rfl) .nil))) (spec_l10Node_p false h27)) ?_
       refine TL.sn rfl rfl (o_storeBx rfl tyS_67 rfl rfl rfl rfl (Nat.le_of_ble_eq_true rfl) rfl) ?_
       refine TL.nil (thn_normal (T.ret (inB_ret (thn_ret ?_))))
       cases some_i H
       exact ⟨trivial, _, (.cell _ _ _ _ _ _ _ _ _ _ rfl rfl tyS_67 (Nat.le_of_ble_eq_true rfl) rfl .nil), ⟨rfl, _, rfl⟩⟩
      ·replace H := cond_f h H
       refine T.seq (T.region (TL.st rfl rfl rfl (o_ari rfl rfl rfl rfl) (TL.st rfl rfl rfl (o_assign rfl rfl) (TL.nil (thn_normal ?_)))))
       refine T.cond ((v4 == 6)) rfl (fun h => ?_) (fun h => ?_)
       ·replace H := cond_t h H
        refine T.seq (T.region (TL.st rfl rfl rfl (o_move rfl rfl) (TL.st rfl rfl rfl (o_move rfl rfl) (TL.st rfl rfl rfl (o_ari rfl rfl rfl rfl) ?_))))
        obtain ⟨⟨r28, o29⟩, h30, H⟩ := bind_s H
        refine TL.st rfl rfl rfl (o_callS [0] rfl en_37 rfl rfl (Hrec_spec_l1Cur_boolExpr c0 h30) rfl (by decide) (.cons _ _ _ _ rfl .nil) rfl rfl rfl) ?_
        refine TL.st rfl rfl rfl (o_move rfl rfl) (TL.st rfl rfl rfl (o_move rfl rfl) (TL.st rfl rfl rfl (o_ari rfl rfl rfl rfl) ?_))
        obtain ⟨⟨r31, o32⟩, h33, H⟩ := bind_s H
        refine TL.st rfl rfl rfl (o_callS [0] rfl en_37 rfl rfl (Hrec_spec_l1Cur_boolExpr c0 h33) rfl (by decide) (.cons _ _ _ _ rfl .nil) rfl rfl rfl) ?_
        refine TL.st rfl rfl rfl (o_move rfl rfl) (TL.st rfl rfl rfl (o_move rfl rfl) (TL.st rfl rfl rfl (o_ari rfl rfl rfl rfl) ?_))
        obtain ⟨⟨r34, o35⟩, h36, H⟩ := bind_s H
        refine TL.st rfl rfl rfl (o_callS [0] rfl en_37 rfl rfl (Hrec_spec_l1Cur_boolExpr c0 h36) rfl (by decide) (.cons _ _ _ _ rfl .nil) rfl rfl rfl) ?_
        refine TL.st rfl rfl rfl (o_sliceIm rfl rfl tyS_67 ⟨_, rfl, rfl⟩ (by decide) rfl rfl rfl rfl rfl rfl) ?_
        obtain ⟨r37, h38, H⟩ := bind_s H
        refine TL.st rfl rfl rfl (o_callP rfl en_60 rfl rfl (.cons _ _ _ _ (.cl _ rfl) (.cons _ _ _ _ (.cl _ rfl) (.cons _ _ _ _ (.cl _ rfl) .nil))) (spec_l10Node_p false h38)) ?_
        refine TL.sn rfl rfl (o_storeBx rfl tyS_67 rfl rfl rfl rfl (Nat.le_of_ble_eq_true rfl) rfl) ?_
        refine TL.nil (thn_normal (T.ret (inB_ret (thn_ret ?_))))
        cases some_i H
        exact ⟨trivial, _, (.cell _ _ _ _ _ _ _ _ _ _ rfl rfl tyS_67 (Nat.le_of_ble_eq_true rfl) rfl .nil), ⟨rfl, _, rfl⟩⟩
       ·replace H := cond_f h H
        refine T.seq (T.region (TL.st rfl rfl rfl (o_ari rfl rfl rfl rfl) (TL.st rfl rfl rfl (o_assign rfl rfl) (TL.nil (thn_normal ?_)))))
        refine T.cond ((v4 == 7)) rfl (fun h => ?_) (fun h => ?_)
        ·replace H := cond_t h H
         refine T.seq (T.region (TL.st rfl rfl rfl (o_move rfl rfl) ?_))
         obtain ⟨⟨r39, o40⟩, h41, H⟩ := bind_s H
         refine TL.st rfl rfl rfl (o_callS [0] rfl en_61 rfl rfl (spec_l1Cur_path_p c0 h41) rfl (by decide) (.cons _ _ _ _ rfl .nil) rfl rfl rfl) ?_
         refine TL.st rfl rfl rfl (o_alloc rfl ⟨_, rfl, rfl⟩) (TL.sn rfl rfl (o_storeBx rfl tyS_67 rfl rfl rfl rfl (Nat.le_of_ble_eq_true rfl) rfl) ?_)
         refine TL.nil (thn_normal (T.seq ?_))
         obtain ⟨r42, h43, H⟩ := bind_s H
         obtain ⟨⟨r44, o45⟩, h46, H⟩ := bind_s H
         obtain ⟨r47, h48, H⟩ := bind_s H
         obtain ⟨r49, h50, H⟩ := bind_s H
         refine T.drawS (fr' := [(0, .bx 0 0), (1, .int .i64 a0), (4, .bx 1 0), (6, .bx 2 0), (17, .int .i64 v4), (32, .bool v14), (45, .bool (v4 == 5)), (46, .bool (v4 == 5)), (53, .bool (v4 == 6)), (54, .bool (v4 == 6)), (69, .bool (v4 == 7)), (70, .bool (v4 == 7)), (71, .bx 0 0), (72, .agg (c_T_spec_l10E false r39)), (73, .bx 2 0), (74, .bx 2 1), (75, .str r39.n_.Text_), (76, .bx 2 7), (77, .im false (r39.kids_.map (c_raw))), (78, .agg (c_T_spec_l10E false r42)), (79, .agg (c_T_spec_l10E false r39)), (80, .bx 0 0), (81, .int .i64 a0), (82, .agg (c_T_spec_l10E false r44)), (83, .im false (([(c_T_spec_l10E false r39), (c_T_spec_l10E false r44)] : List (List V)).map (c_raw))), (84, .agg (c_T_spec_l10E false r47)), (85, .im false (([(c_T_spec_l10E false r42), (c_T_spec_l10E false r47)] : List (List V)).map (c_raw))), (86, .agg (c_T_spec_l10E false r49))]) (R := [⟨some 73, .bx 2 0, .q, []⟩, ⟨some 74, .bx 2 1, .q, []⟩, ⟨some 75, .str r39.n_.Text_, .q, []⟩, ⟨some 76, .bx 2 7, .q, []⟩, ⟨some 77, .im false (r39.kids_.map (c_raw)), .q, []⟩, ⟨some 78, .agg (c_T_spec_l10E false r42), .q, []⟩, ⟨some 79, .agg (c_T_spec_l10E false r39), .q, []⟩, ⟨some 80, .bx 0 0, .q, []⟩, ⟨some 81, .int .i64 a0, .q, []⟩, ⟨some 82, .agg (c_T_spec_l10E false r44), .q, []⟩, ⟨some 83, .im false (([(c_T_spec_l10E false r39), (c_T_spec_l10E false r44)] : List (List V)).map (c_raw)), .q, []⟩, ⟨some 84, .agg (c_T_spec_l10E false r47), .q, []⟩, ⟨some 85, .im false (([(c_T_spec_l10E false r42), (c_T_spec_l10E false r47)] : List (List V)).map (c_raw)), .q, []⟩, ⟨some 86, .agg (c_T_spec_l10E false r49), .q, []⟩, ⟨none, .any, .q, []⟩]) (fun b => cond (b 9) (cond (b 14) ([.box (c_T_spec_l1Cur c0 o45), .box (c_T_spec_l10E false r49), .box (c_T_spec_l10E false r39)]) ([.box (c_T_spec_l1Cur c0 o45), .box [.int .i64 0, .str (ByteArray.mk #[]), .int .i64 0, .int .i64 0, .str (ByteArray.mk #[]), .str (ByteArray.mk #[]), .int .i64 0, .nilS], .box (c_T_spec_l10E false r39)])) ([.box (c_T_spec_l1Cur c0 o40), .box [.int .i64 0, .str (ByteArray.mk #[]), .int .i64 0, .int .i64 0, .str (ByteArray.mk #[]), .str (ByteArray.mk #[]), .int .i64 0, .nilS], .box (c_T_spec_l10E false r39)])) rfl ?_ ?_ rfl rfl (FrL.get (.cons rfl (.cons rfl (.cons rfl (.cons rfl (.cons rfl (.cons rfl (.cons rfl (.cons rfl (.cons rfl (.cons rfl (.cons rfl (.cons rfl (.cons rfl (.cons rfl (.cons rfl (.cons rfl (.cons rfl (.cons rfl (.cons rfl (.cons rfl (.cons rfl (.cons rfl (.cons rfl (.cons rfl (.cons rfl (.cons rfl (.cons rfl (.cons rfl .nil))))))))))))))))))))))))))))) ?_
         ·refine .cons _ _ _ _ _ ⟨rfl, [(6, .bx 2 0)], AllN.get rfl (.cons rfl .nil), fun b hd hn hk hc => ?_⟩ ?_
          ·exact ops_at (σ1 := [.box (c_T_spec_l1Cur c0 o40), .box [.int .i64 0, .str (ByteArray.mk #[]), .int .i64 0, .int .i64 0, .str (ByteArray.mk #[]), .str (ByteArray.mk #[]), .int .i64 0, .nilS], .box (c_T_spec_l10E false r39)]) (by simp only [show b 9 = false from (hn 9 rfl), show b 14 = false from (hn 14 rfl), cond_true, cond_false]) rfl (o_fieldAddr rfl rfl rfl tyS_57 (by decide) rfl rfl ⟨_, rfl, Nat.le_of_ble_eq_true rfl⟩) (Eq.trans (b := [.box (c_T_spec_l1Cur c0 o40), .box [.int .i64 0, .str (ByteArray.mk #[]), .int .i64 0, .int .i64 0, .str (ByteArray.mk #[]), .str (ByteArray.mk #[]), .int .i64 0, .nilS], .box (c_T_spec_l10E false r39)]) (by simp only [show updb b 0 9 = false from (updb_ne rfl).trans (hn 9 rfl), show updb b 0 14 = false from (updb_ne rfl).trans (hn 14 rfl), cond_true, cond_false]) rfl) rfl
          refine .cons _ _ _ _ _ ⟨rfl, [(73, .bx 2 0)], AllN.get rfl (.cons rfl .nil), fun b hd hn hk hc => ?_⟩ ?_
          ·exact ops_at (σ1 := [.box (c_T_spec_l1Cur c0 o40), .box [.int .i64 0, .str (ByteArray.mk #[]), .int .i64 0, .int .i64 0, .str (ByteArray.mk #[]), .str (ByteArray.mk #[]), .int .i64 0, .nilS], .box (c_T_spec_l10E false r39)]) (by simp only [show b 9 = false from (hn 9 rfl), show b 14 = false from (hn 14 rfl), cond_true, cond_false]) rfl (o_fieldAddr rfl rfl rfl tyS_9 (by decide) rfl rfl ⟨_, rfl, Nat.le_of_ble_eq_true rfl⟩) (Eq.trans (b := [.box (c_T_spec_l1Cur c0 o40), .box [.int .i64 0, .str (ByteArray.mk #[]), .int .i64 0, .int .i64 0, .str (ByteArray.mk #[]), .str (ByteArray.mk #[]), .int .i64 0, .nilS], .box (c_T_spec_l10E false r39)]) (by simp only [show updb b 1 9 = false from (updb_ne rfl).trans (hn 9 rfl), show updb b 1 14 = false from (updb_ne rfl).trans (hn 14 rfl), cond_true, cond_false]) rfl) rfl
          refine .cons _ _ _ _ _ ⟨rfl, [(74, .bx 2 1)], AllN.get rfl (.cons rfl .nil), fun b hd hn hk hc => ?_⟩ ?_
          ·exact ops_at (σ1 := [.box (c_T_spec_l1Cur c0 o40), .box [.int .i64 0, .str (ByteArray.mk #[]), .int .i64 0, .int .i64 0, .str (ByteArray.mk #[]), .str (ByteArray.mk #[]), .int .i64 0, .nilS], .box (c_T_spec_l10E false r39)]) (by simp only [show b 9 = false from (hn 9 rfl), show b 14 = false from (hn 14 rfl), cond_true, cond_false]) rfl (o_loadBx rfl tyS_9 rfl rfl (Nat.le_of_ble_eq_true rfl) rfl) (Eq.trans (b := [.box (c_T_spec_l1Cur c0 o40), .box [.int .i64 0, .str (ByteArray.mk #[]), .int .i64 0, .int .i64 0, .str (ByteArray.mk #[]), .str (ByteArray.mk #[]), .int .i64 0, .nilS], .box (c_T_spec_l10E false r39)]) (by simp only [show updb b 2 9 = false from (updb_ne rfl).trans (hn 9 rfl), show updb b 2 14 = false from (updb_ne rfl).trans (hn 14 rfl), cond_true, cond_false]) rfl) rfl
          refine .cons _ _ _ _ _ ⟨rfl, [(6, .bx 2 0)], AllN.get rfl (.cons rfl .nil), fun b hd hn hk hc => ?_⟩ ?_
          ·exact ops_at (σ1 := [.box (c_T_spec_l1Cur c0 o40), .box [.int .i64 0, .str (ByteArray.mk #[]), .int .i64 0, .int .i64 0, .str (ByteArray.mk #[]), .str (ByteArray.mk #[]), .int .i64 0, .nilS], .box (c_T_spec_l10E false r39)]) (by simp only [show b 9 = false from (hn 9 rfl), show b 14 = false from (hn 14 rfl), cond_true, cond_false]) rfl (o_fieldAddr rfl rfl rfl tyS_65 (by decide) rfl rfl ⟨_, rfl, Nat.le_of_ble_eq_true rfl⟩) (Eq.trans (b := [.box (c_T_spec_l1Cur c0 o40), .box [.int .i64 0, .str (ByteArray.mk #[]), .int .i64 0, .int .i64 0, .str (ByteArray.mk #[]), .str (ByteArray.mk #[]), .int .i64 0, .nilS], .box (c_T_spec_l10E false r39)]) (by simp only [show updb b 3 9 = false from (updb_ne rfl).trans (hn 9 rfl), show updb b 3 14 = false from (updb_ne rfl).trans (hn 14 rfl), cond_true, cond_false]) rfl) rfl
          refine .cons _ _ _ _ _ ⟨rfl, [(76, .bx 2 7)], AllN.get rfl (.cons rfl .nil), fun b hd hn hk hc => ?_⟩ ?_
          ·exact ops_at (σ1 := [.box (c_T_spec_l1Cur c0 o40), .box [.int .i64 0, .str (ByteArray.mk #[]), .int .i64 0, .int .i64 0, .str (ByteArray.mk #[]), .str (ByteArray.mk #[]), .int .i64 0, .nilS], .box (c_T_spec_l10E false r39)]) (by simp only [show b 9 = false from (hn 9 rfl), show b 14 = false from (hn 14 rfl), cond_true, cond_false]) rfl (o_loadBx rfl tyS_65 rfl rfl (Nat.le_of_ble_eq_true rfl) rfl) (Eq.trans (b := [.box (c_T_spec_l1Cur c0 o40), .box [.int .i64 0, .str (ByteArray.mk #[]), .int .i64 0, .int .i64 0, .str (ByteArray.mk #[]), .str (ByteArray.mk #[]), .int .i64 0, .nilS], .box (c_T_spec_l10E false r39)]) (by simp only [show updb b 4 9 = false from (updb_ne rfl).trans (hn 9 rfl), show updb b 4 14 = false from (updb_ne rfl).trans (hn 14 rfl), cond_true, cond_false]) rfl) rfl
          refine .cons _ _ _ _ _ ⟨rfl, [(75, .str r39.n_.Text_), (77, .im false (r39.kids_.map (c_raw)))], AllN.get rfl (.cons rfl (.cons rfl .nil)), fun b hd hn hk hc => ?_⟩ ?_
          ·exact ops_at (σ1 := [.box (c_T_spec_l1Cur c0 o40), .box [.int .i64 0, .str (ByteArray.mk #[]), .int .i64 0, .int .i64 0, .str (ByteArray.mk #[]), .str (ByteArray.mk #[]), .int .i64 0, .nilS], .box (c_T_spec_l10E false r39)]) (by simp only [show b 9 = false from (hn 9 rfl), show b 14 = false from (hn 14 rfl), cond_true, cond_false]) rfl (o_callP rfl en_60 rfl rfl (.cons _ _ _ _ (.cl _ rfl) (.cons _ _ _ _ (.cl _ rfl) (.cons _ _ _ _ (.cl _ rfl) .nil))) (spec_l10Node_p false h43)) (Eq.trans (b := [.box (c_T_spec_l1Cur c0 o40), .box [.int .i64 0, .str (ByteArray.mk #[]), .int .i64 0, .int .i64 0, .str (ByteArray.mk #[]), .str (ByteArray.mk #[]), .int .i64 0, .nilS], .box (c_T_spec_l10E false r39)]) (by simp only [show updb b 5 9 = false from (updb_ne rfl).trans (hn 9 rfl), show updb b 5 14 = false from (updb_ne rfl).trans (hn 14 rfl), cond_true, cond_false]) rfl) rfl
          refine .cons _ _ _ _ _ ⟨rfl, [(6, .bx 2 0)], AllN.get rfl (.cons rfl .nil), fun b hd hn hk hc => ?_⟩ ?_
          ·cases e9 : b 9
           ·exact ops_at (σ1 := [.box (c_T_spec_l1Cur c0 o40), .box [.int .i64 0, .str (ByteArray.mk #[]), .int .i64 0, .int .i64 0, .str (ByteArray.mk #[]), .str (ByteArray.mk #[]), .int .i64 0, .nilS], .box (c_T_spec_l10E false r39)]) (by simp only [show b 9 = false from e9, show b 14 = false from (hn 14 rfl), cond_true, cond_false]) rfl (o_loadBx rfl tyS_67 rfl rfl (Nat.le_of_ble_eq_true rfl) rfl) (Eq.trans (b := [.box (c_T_spec_l1Cur c0 o40), .box [.int .i64 0, .str (ByteArray.mk #[]), .int .i64 0, .int .i64 0, .str (ByteArray.mk #[]), .str (ByteArray.mk #[]), .int .i64 0, .nilS], .box (c_T_spec_l10E false r39)]) (by simp only [show updb b 6 9 = false from (updb_ne rfl).trans e9, show updb b 6 14 = false from (updb_ne rfl).trans (hn 14 rfl), cond_true, cond_false]) rfl) rfl
           ·exact ops_at (σ1 := [.box (c_T_spec_l1Cur c0 o45), .box [.int .i64 0, .str (ByteArray.mk #[]), .int .i64 0, .int .i64 0, .str (ByteArray.mk #[]), .str (ByteArray.mk #[]), .int .i64 0, .nilS], .box (c_T_spec_l10E false r39)]) (by simp only [show b 9 = true from e9, show b 14 = false from (hn 14 rfl), cond_true, cond_false]) rfl (o_loadBx rfl tyS_67 rfl rfl (Nat.le_of_ble_eq_true rfl) rfl) (Eq.trans (b := [.box (c_T_spec_l1Cur c0 o45), .box [.int .i64 0, .str (ByteArray.mk #[]), .int .i64 0, .int .i64 0, .str (ByteArray.mk #[]), .str (ByteArray.mk #[]), .int .i64 0, .nilS], .box (c_T_spec_l10E false r39)]) (by simp only [show updb b 6 9 = true from (updb_ne rfl).trans e9, show updb b 6 14 = false from (updb_ne rfl).trans (hn 14 rfl), cond_true, cond_false]) rfl) rfl
          refine .cons _ _ _ _ _ ⟨rfl, [(0, .bx 0 0)], AllN.get rfl (.cons rfl .nil), fun b hd hn hk hc => ?_⟩ ?_
          ·exact ops_at (σ1 := [.box (c_T_spec_l1Cur c0 o40), .box [.int .i64 0, .str (ByteArray.mk #[]), .int .i64 0, .int .i64 0, .str (ByteArray.mk #[]), .str (ByteArray.mk #[]), .int .i64 0, .nilS], .box (c_T_spec_l10E false r39)]) (by simp only [show b 9 = false from (hn 9 rfl), show b 14 = false from (hn 14 rfl), cond_true, cond_false]) rfl (o_move rfl rfl) (Eq.trans (b := [.box (c_T_spec_l1Cur c0 o40), .box [.int .i64 0, .str (ByteArray.mk #[]), .int .i64 0, .int .i64 0, .str (ByteArray.mk #[]), .str (ByteArray.mk #[]), .int .i64 0, .nilS], .box (c_T_spec_l10E false r39)]) (by simp only [show updb b 7 9 = false from (updb_ne rfl).trans (hn 9 rfl), show updb b 7 14 = false from (updb_ne rfl).trans (hn 14 rfl), cond_true, cond_false]) rfl) rfl
          refine .cons _ _ _ _ _ ⟨rfl, [(1, .int .i64 a0)], AllN.get rfl (.cons rfl .nil), fun b hd hn hk hc => ?_⟩ ?_
          ·exact ops_at (σ1 := [.box (c_T_spec_l1Cur c0 o40), .box [.int .i64 0, .str (ByteArray.mk #[]), .int .i64 0, .int .i64 0, .str (ByteArray.mk #[]), .str (ByteArray.mk #[]), .int .i64 0, .nilS], .box (c_T_spec_l10E false r39)]) (by simp only [show b 9 = false from (hn 9 rfl), show b 14 = false from (hn 14 rfl), cond_true, cond_false]) rfl (o_move rfl rfl) (Eq.trans (b := [.box (c_T_spec_l1Cur c0 o40), .box [.int .i64 0, .str (ByteArray.mk #[]), .int .i64 0, .int .i64 0, .str (ByteArray.mk #[]), .str (ByteArray.mk #[]), .int .i64 0, .nilS], .box (c_T_spec_l10E false r39)]) (by simp only [show updb b 8 9 = false from (updb_ne rfl).trans (hn 9 rfl), show updb b 8 14 = false from (updb_ne rfl).trans (hn 14 rfl), cond_true, cond_false]) rfl) rfl
          refine .cons _ _ _ _ _ ⟨rfl, [(80, .bx 0 0), (81, .int .i64 a0)], AllN.get rfl (.cons rfl (.cons rfl .nil)), fun b hd hn hk hc => ?_⟩ ?_
          ·exact ops_at (σ1 := [.box (c_T_spec_l1Cur c0 o40), .box [.int .i64 0, .str (ByteArray.mk #[]), .int .i64 0, .int .i64 0, .str (ByteArray.mk #[]), .str (ByteArray.mk #[]), .int .i64 0, .nilS], .box (c_T_spec_l10E false r39)]) (by simp only [show b 9 = false from hk, show b 14 = false from (hn 14 rfl), cond_true, cond_false]) rfl (o_callS [0] rfl en_62 rfl rfl (spec_l1Cur_numExpr_p c0 h46) rfl (by decide) (.cons _ _ _ _ rfl .nil) rfl rfl rfl) (Eq.trans (b := [.box (c_T_spec_l1Cur c0 o45), .box [.int .i64 0, .str (ByteArray.mk #[]), .int .i64 0, .int .i64 0, .str (ByteArray.mk #[]), .str (ByteArray.mk #[]), .int .i64 0, .nilS], .box (c_T_spec_l10E false r39)]) (by simp only [show updb b 9 9 = true from updb_self, show updb b 9 14 = false from (updb_ne rfl).trans (hn 14 rfl), cond_true, cond_false]) rfl) rfl
          refine .cons _ _ _ _ _ ⟨rfl, [(79, .agg (c_T_spec_l10E false r39)), (82, .agg (c_T_spec_l10E false r44))], AllN.get rfl (.cons rfl (.cons rfl .nil)), fun b hd hn hk hc => ?_⟩ ?_
          ·exact ops_at (σ1 := [.box (c_T_spec_l1Cur c0 o45), .box [.int .i64 0, .str (ByteArray.mk #[]), .int .i64 0, .int .i64 0, .str (ByteArray.mk #[]), .str (ByteArray.mk #[]), .int .i64 0, .nilS], .box (c_T_spec_l10E false r39)]) (by simp only [show b 9 = true from (hd 9 rfl), show b 14 = false from (hn 14 rfl), cond_true, cond_false]) rfl (o_sliceIm rfl rfl tyS_67 ⟨_, rfl, rfl⟩ (by decide) rfl rfl rfl rfl rfl rfl) (Eq.trans (b := [.box (c_T_spec_l1Cur c0 o45), .box [.int .i64 0, .str (ByteArray.mk #[]), .int .i64 0, .int .i64 0, .str (ByteArray.mk #[]), .str (ByteArray.mk #[]), .int .i64 0, .nilS], .box (c_T_spec_l10E false r39)]) (by simp only [show updb b 10 9 = true from (updb_ne rfl).trans (hd 9 rfl), show updb b 10 14 = false from (updb_ne rfl).trans (hn 14 rfl), cond_true, cond_false]) rfl) rfl
          refine .cons _ _ _ _ _ ⟨rfl, [(83, .im false (([(c_T_spec_l10E false r39), (c_T_spec_l10E false r44)] : List (List V)).map (c_raw)))], AllN.get rfl (.cons rfl .nil), fun b hd hn hk hc => ?_⟩ ?_
          ·exact ops_at (σ1 := [.box (c_T_spec_l1Cur c0 o45), .box [.int .i64 0, .str (ByteArray.mk #[]), .int .i64 0, .int .i64 0, .str (ByteArray.mk #[]), .str (ByteArray.mk #[]), .int .i64 0, .nilS], .box (c_T_spec_l10E false r39)]) (by simp only [show b 9 = true from (hd 9 rfl), show b 14 = false from (hn 14 rfl), cond_true, cond_false]) rfl (o_callP rfl en_60 rfl rfl (.cons _ _ _ _ (.cl _ rfl) (.cons _ _ _ _ (.cl _ rfl) (.cons _ _ _ _ (.cl _ rfl) .nil))) (spec_l10Node_p false h48)) (Eq.trans (b := [.box (c_T_spec_l1Cur c0 o45), .box [.int .i64 0, .str (ByteArray.mk #[]), .int .i64 0, .int .i64 0, .str (ByteArray.mk #[]), .str (ByteArray.mk #[]), .int .i64 0, .nilS], .box (c_T_spec_l10E false r39)]) (by simp only [show updb b 11 9 = true from (updb_ne rfl).trans (hd 9 rfl), show updb b 11 14 = false from (updb_ne rfl).trans (hn 14 rfl), cond_true, cond_false]) rfl) rfl
          refine .cons _ _ _ _ _ ⟨rfl, [(78, .agg (c_T_spec_l10E false r42)), (84, .agg (c_T_spec_l10E false r47))], AllN.get rfl (.cons rfl (.cons rfl .nil)), fun b hd hn hk hc => ?_⟩ ?_
          ·exact ops_at (σ1 := [.box (c_T_spec_l1Cur c0 o45), .box [.int .i64 0, .str (ByteArray.mk #[]), .int .i64 0, .int .i64 0, .str (ByteArray.mk #[]), .str (ByteArray.mk #[]), .int .i64 0, .nilS], .box (c_T_spec_l10E false r39)]) (by simp only [show b 9 = true from (hd 9 rfl), show b 14 = false from (hn 14 rfl), cond_true, cond_false]) rfl (o_sliceIm rfl rfl tyS_67 ⟨_, rfl, rfl⟩ (by decide) rfl rfl rfl rfl rfl rfl) (Eq.trans (b := [.box (c_T_spec_l1Cur c0 o45), .box [.int .i64 0, .str (ByteArray.mk #[]), .int .i64 0, .int .i64 0, .str (ByteArray.mk #[]), .str (ByteArray.mk #[]), .int .i64 0, .nilS], .box (c_T_spec_l10E false r39)]) (by simp only [show updb b 12 9 = true from (updb_ne rfl).trans (hd 9 rfl), show updb b 12 14 = false from (updb_ne rfl).trans (hn 14 rfl), cond_true, cond_false]) rfl) rfl
          refine .cons _ _ _ _ _ ⟨rfl, [(85, .im false (([(c_T_spec_l10E false r42), (c_T_spec_l10E false r47)] : List (List V)).map (c_raw)))], AllN.get rfl (.cons rfl .nil), fun b hd hn hk hc => ?_⟩ ?_
          ·exact ops_at (σ1 := [.box (c_T_spec_l1Cur c0 o45), .box [.int .i64 0, .str (ByteArray.mk #[]), .int .i64 0, .int .i64 0, .str (ByteArray.mk #[]), .str (ByteArray.mk #[]), .int .i64 0, .nilS], .box (c_T_spec_l10E false r39)]) (by simp only [show b 9 = true from (hd 9 rfl), show b 14 = false from (hn 14 rfl), cond_true, cond_false]) rfl (o_callP rfl en_60 rfl rfl (.cons _ _ _ _ (.cl _ rfl) (.cons _ _ _ _ (.cl _ rfl) (.cons _ _ _ _ (.cl _ rfl) .nil))) (spec_l10Node_p false h50)) (Eq.trans (b := [.box (c_T_spec_l1Cur c0 o45), .box [.int .i64 0, .str (ByteArray.mk #[]), .int .i64 0, .int .i64 0, .str (ByteArray.mk #[]), .str (ByteArray.mk #[]), .int .i64 0, .nilS], .box (c_T_spec_l10E false r39)]) (by simp only [show updb b 13 9 = true from (updb_ne rfl).trans (hd 9 rfl), show updb b 13 14 = false from (updb_ne rfl).trans (hn 14 rfl), cond_true, cond_false]) rfl) rfl
          refine .cons _ _ _ _ _ ⟨rfl, [(4, .bx 1 0), (86, .agg (c_T_spec_l10E false r49))], AllN.get rfl (.cons rfl (.cons rfl .nil)), fun b hd hn hk hc => ?_⟩ ?_
          ·exact ops_at (σ1 := [.box (c_T_spec_l1Cur c0 o45), .box [.int .i64 0, .str (ByteArray.mk #[]), .int .i64 0, .int .i64 0, .str (ByteArray.mk #[]), .str (ByteArray.mk #[]), .int .i64 0, .nilS], .box (c_T_spec_l10E false r39)]) (by simp only [show b 9 = true from (hd 9 rfl), show b 14 = false from hk, cond_true, cond_false]) rfl (o_storeBx rfl tyS_67 rfl rfl rfl rfl (Nat.le_of_ble_eq_true rfl) rfl) (Eq.trans (b := [.box (c_T_spec_l1Cur c0 o45), .box (c_T_spec_l10E false r49), .box (c_T_spec_l10E false r39)]) (by simp only [show updb b 14 9 = true from (updb_ne rfl).trans (hd 9 rfl), show updb b 14 14 = true from updb_self, cond_true, cond_false]) rfl) rfl
          exact .nil _
         ·intro b b' h; simp only [h 9 (by decide), h 14 (by decide)]
         refine thn_normal (T.ret (inB_ret (thn_ret ?_)))
         cases some_i H
         exact ⟨trivial, _, (.cell _ _ _ _ _ _ _ _ _ _ rfl rfl tyS_67 (Nat.le_of_ble_eq_true rfl) rfl .nil), ⟨rfl, _, rfl⟩⟩
        ·replace H := cond_f h H
         refine T.seq (T.region (TL.st rfl rfl rfl (o_ari rfl rfl rfl rfl) (TL.st rfl rfl rfl (o_assign rfl rfl) (TL.nil (thn_normal ?_)))))
         refine T.cond ((v4 == 8)) rfl (fun h => ?_) (fun h => ?_)
         ·replace H := cond_t h H
          refine T.seq (T.region (TL.st rfl rfl rfl (o_move rfl rfl) ?_))
          obtain ⟨⟨r51, o52⟩, h53, H⟩ := bind_s H
          refine TL.st rfl rfl rfl (o_callS [0] rfl en_14 rfl rfl (spec_l1Cur_pick_p c0 h53) rfl (by decide) (.cons _ _ _ _ rfl .nil) rfl rfl rfl) ?_
          refine TL.st rfl rfl rfl (o_ari rfl rfl rfl rfl) (TL.st rfl rfl rfl (o_move rfl rfl) (TL.st rfl rfl rfl (o_move rfl rfl) ?_))
          obtain ⟨⟨r54, o55⟩, h56, H⟩ := bind_s H
          refine TL.st rfl rfl rfl (o_callS [0] rfl en_62 rfl rfl (spec_l1Cur_numExpr_p c0 h56) rfl (by decide) (.cons _ _ _ _ rfl .nil) rfl rfl rfl) ?_
          refine TL.st rfl rfl rfl (o_move rfl rfl) (TL.st rfl rfl rfl (o_move rfl rfl) ?_)
          obtain ⟨⟨r57, o58⟩, h59, H⟩ := bind_s H
          refine TL.st rfl rfl rfl (o_callS [0] rfl en_62 rfl rfl (spec_l1Cur_numExpr_p c0 h59) rfl (by decide) (.cons _ _ _ _ rfl .nil) rfl rfl rfl) ?_
          refine TL.st rfl rfl rfl (o_sliceIm rfl rfl tyS_67 ⟨_, rfl, rfl⟩ (by decide) rfl rfl rfl rfl rfl rfl) ?_
          obtain ⟨r60, h61, H⟩ := bind_s H
          refine TL.st rfl rfl rfl (o_callP rfl en_60 rfl rfl (.cons _ _ _ _ (.cl _ rfl) (.cons _ _ _ _ (.cl _ rfl) (.cons _ _ _ _ (.cl _ rfl) .nil))) (spec_l10Node_p false h61)) ?_
          refine TL.sn rfl rfl (o_storeBx rfl tyS_67 rfl rfl rfl rfl (Nat.le_of_ble_eq_true rfl) rfl) ?_
          refine TL.nil (thn_normal (T.ret (inB_ret (thn_ret ?_))))
          cases some_i H
          exact ⟨trivial, _, (.cell _ _ _ _ _ _ _ _ _ _ rfl rfl tyS_67 (Nat.le_of_ble_eq_true rfl) rfl .nil), ⟨rfl, _, rfl⟩⟩
         ·replace H := cond_f h H
          refine T.seq (T.region (TL.st rfl rfl rfl (o_ari rfl rfl rfl rfl) (TL.st rfl rfl rfl (o_assign rfl rfl) (TL.nil (thn_normal ?_)))))
          refine T.cond ((v4 == 9)) rfl (fun h => ?_) (fun h => ?_)
          ·replace H := cond_t h H
           refine T.seq (T.region (TL.st rfl rfl rfl (o_move rfl rfl) (TL.st rfl rfl rfl (o_sliceIm rfl rfl tyS_9 ⟨_, rfl, rfl⟩ (by decide) rfl rfl rfl rfl rfl rfl) ?_)))
           obtain ⟨⟨r62, o63⟩, h64, H⟩ := bind_s H
           refine TL.st rfl rfl rfl (o_callS [0] rfl en_17 rfl rfl (spec_l1Cur_of_p false c0 h64) rfl (by decide) (.cons _ _ _ _ rfl .nil) rfl rfl rfl) ?_
           obtain ⟨r65, h66, H⟩ := bind_s H
           refine TL.st rfl rfl rfl (o_callP rfl en_60 rfl rfl (.cons _ _ _ _ (.cl _ rfl) (.cons _ _ _ _ (.cl _ rfl) (.cons _ _ _ _ .nil .nil))) (spec_l10Node_p false h66)) ?_
           refine TL.st rfl rfl rfl (o_move rfl rfl) ?_
           obtain ⟨⟨r67, o68⟩, h69, H⟩ := bind_s H
           refine TL.st rfl rfl rfl (o_callS [0] rfl en_15 rfl rfl (spec_l1Cur_thingRef_p c0 h69) rfl (by decide) (.cons _ _ _ _ rfl .nil) rfl rfl rfl) ?_
           obtain ⟨r70, h71, H⟩ := bind_s H
           refine TL.st rfl rfl rfl (o_callP rfl en_63 rfl rfl (.cons _ _ _ _ (.cl _ rfl) .nil) (spec_l10Lit_p  h71)) ?_
           refine TL.st rfl rfl rfl (o_sliceIm rfl rfl tyS_67 ⟨_, rfl, rfl⟩ (by decide) rfl rfl rfl rfl rfl rfl) ?_
           obtain ⟨r72, h73, H⟩ := bind_s H
           refine TL.st rfl rfl rfl (o_callP rfl en_60 rfl rfl (.cons _ _ _ _ (.cl _ rfl) (.cons _ _ _ _ (.cl _ rfl) (.cons _ _ _ _ (.cl _ rfl) .nil))) (spec_l10Node_p false h73)) ?_
           refine TL.sn rfl rfl (o_storeBx rfl tyS_67 rfl rfl rfl rfl (Nat.le_of_ble_eq_true rfl) rfl) ?_
           refine TL.nil (thn_normal (T.ret (inB_ret (thn_ret ?_))))
           cases some_i H
           exact ⟨trivial, _, (.cell _ _ _ _ _ _ _ _ _ _ rfl rfl tyS_67 (Nat.le_of_ble_eq_true rfl) rfl .nil), ⟨rfl, _, rfl⟩⟩
          ·replace H := cond_f h H
           refine T.seq (T.region (TL.st rfl rfl rfl (o_ari rfl rfl rfl rfl) (TL.st rfl rfl rfl (o_assign rfl rfl) (TL.nil (thn_normal ?_)))))
           refine T.cond ((v4 == 10)) rfl (fun h => ?_) (fun h => ?_)
           ·replace H := cond_t h H
            refine T.seq (T.region (TL.st rfl rfl rfl (o_move rfl rfl) (TL.st rfl rfl rfl (o_sliceIm rfl rfl tyS_9 ⟨_, rfl, rfl⟩ (by decide) rfl rfl rfl rfl rfl rfl) ?_)))
            obtain ⟨⟨r74, o75⟩, h76, H⟩ := bind_s H
            refine TL.st rfl rfl rfl (o_callS [0] rfl en_17 rfl rfl (spec_l1Cur_of_p false c0 h76) rfl (by decide) (.cons _ _ _ _ rfl .nil) rfl rfl rfl) ?_
            refine TL.st rfl rfl rfl (o_move rfl rfl) (TL.st rfl rfl rfl (o_sliceIm rfl rfl tyS_9 ⟨_, rfl, rfl⟩ (by decide) rfl rfl rfl rfl rfl rfl) ?_)
            obtain ⟨⟨r77, o78⟩, h79, H⟩ := bind_s H
            refine TL.st rfl rfl rfl (o_callS [0] rfl en_17 rfl rfl (spec_l1Cur_of_p false c0 h79) rfl (by decide) (.cons _ _ _ _ rfl .nil) rfl rfl rfl) ?_
            obtain ⟨r80, h81, H⟩ := bind_s H
            refine TL.st rfl rfl rfl (o_callP rfl en_60 rfl rfl (.cons _ _ _ _ (.cl _ rfl) (.cons _ _ _ _ (.cl _ rfl) (.cons _ _ _ _ .nil .nil))) (spec_l10Node_p false h81)) ?_
            refine TL.st rfl rfl rfl (o_sliceIm rfl rfl tyS_67 ⟨_, rfl, rfl⟩ (by decide) rfl rfl rfl rfl rfl rfl) ?_
            obtain ⟨r82, h83, H⟩ := bind_s H
            refine TL.st rfl rfl rfl (o_callP rfl en_60 rfl rfl (.cons _ _ _ _ (.cl _ rfl) (.cons _ _ _ _ (.cl _ rfl) (.cons _ _ _ _ (.cl _ rfl) .nil))) (spec_l10Node_p false h83)) ?_
            refine TL.st rfl rfl rfl (o_build rfl ⟨_, fun _ => rfl, rfl⟩ rfl rfl rfl) ?_
            refine TL.st rfl rfl rfl (o_move rfl rfl) ?_
            obtain ⟨⟨r84, o85⟩, h86, H⟩ := bind_s H
            refine TL.st rfl rfl rfl (o_callS [0] rfl en_15 rfl rfl (spec_l1Cur_thingRef_p c0 h86) rfl (by decide) (.cons _ _ _ _ rfl .nil) rfl rfl rfl) ?_
            refine TL.st rfl rfl rfl (o_move rfl rfl) ?_
            obtain ⟨⟨r87, o88⟩, h89, H⟩ := bind_s H
            refine TL.st rfl rfl rfl (o_callS [0] rfl en_16 rfl rfl (spec_l1Cur_atom_p c0 h89) rfl (by decide) (.cons _ _ _ _ rfl .nil) rfl rfl rfl) ?_
            refine TL.st rfl rfl rfl (o_sliceIm rfl rfl tyS_24 ⟨_, rfl, rfl⟩ (by decide) rfl rfl rfl rfl rfl rfl) ?_
            refine TL.st rfl rfl rfl (o_move rfl rfl) ?_
            obtain ⟨⟨r90, o91⟩, h92, H⟩ := bind_s H
            refine TL.st rfl rfl rfl (o_callS [0] rfl en_14 rfl rfl (spec_l1Cur_pick_p c0 h92) rfl (by decide) (.cons _ _ _ _ rfl .nil) rfl rfl rfl) ?_
            obtain ⟨e93, h94, H⟩ := bind_s H
            refine TL.st rfl rfl rfl (o_ix (f := c_T_impl_Atom false) rfl rfl tyS_24 rfl rfl h94 rfl) ?_
            refine TL.st rfl rfl rfl (o_loadRf rfl tyS_24 rfl (Nat.le_of_ble_eq_true rfl) rfl) ?_
            obtain ⟨r95, h96, H⟩ := bind_s H
            refine TL.st rfl rfl rfl (o_callP rfl en_63 rfl rfl (.cons _ _ _ _ (.cl _ rfl) .nil) (spec_l10Lit_p  h96)) ?_
            refine TL.st rfl rfl rfl (o_sliceIm rfl rfl tyS_67 ⟨_, rfl, rfl⟩ (by decide) rfl rfl rfl rfl rfl rfl) ?_
            obtain ⟨r97, h98, H⟩ := bind_s H
            refine TL.st rfl rfl rfl (o_callP rfl en_60 rfl rfl (.cons _ _ _ _ (.cl _ rfl) (.cons _ _ _ _ (.cl _ rfl) (.cons _ _ _ _ (.cl _ rfl) .nil))) (spec_l10Node_p false h98)) ?_
            refine TL.sn rfl rfl (o_storeBx rfl tyS_67 rfl rfl rfl rfl (Nat.le_of_ble_eq_true rfl) rfl) ?_
            refine TL.nil (thn_normal (T.ret (inB_ret (thn_ret ?_))))
            cases some_i H
            exact ⟨trivial, _, (.cell _ _ _ _ _ _ _ _ _ _ rfl rfl tyS_67 (Nat.le_of_ble_eq_true rfl) rfl .nil), ⟨rfl, _, rfl⟩⟩
           ·replace H := cond_f h H
            refine T.seq (T.region (TL.st rfl rfl rfl (o_ari rfl rfl rfl rfl) (TL.st rfl rfl rfl (o_assign rfl rfl) (TL.nil (thn_normal ?_)))))
            refine T.cond ((v4 == 11)) rfl (fun h => ?_) (fun h => ?_)
            ·replace H := cond_t h H
             refine T.seq (T.region (TL.st rfl rfl rfl (o_move rfl rfl) ?_))
             obtain ⟨⟨r99, o100⟩, h101, H⟩ := bind_s H
             refine TL.st rfl rfl rfl (o_callS [0] rfl en_61 rfl rfl (spec_l1Cur_path_p c0 h101) rfl (by decide) (.cons _ _ _ _ rfl .nil) rfl rfl rfl) ?_
             refine TL.st rfl rfl rfl (o_move rfl rfl) (TL.st rfl rfl rfl (o_sliceIm rfl rfl tyS_9 ⟨_, rfl, rfl⟩ (by decide) rfl rfl rfl rfl rfl rfl) ?_)
             obtain ⟨⟨r102, o103⟩, h104, H⟩ := bind_s H
             refine TL.st rfl rfl rfl (o_callS [0] rfl en_17 rfl rfl (spec_l1Cur_of_p false c0 h104) rfl (by decide) (.cons _ _ _ _ rfl .nil) rfl rfl rfl) ?_
             refine TL.st rfl rfl rfl (o_build rfl ⟨_, fun _ => rfl, rfl⟩ rfl rfl rfl) ?_
             obtain ⟨r105, h106, H⟩ := bind_s H
             refine TL.st rfl rfl rfl (o_callP rfl en_63 rfl rfl (.cons _ _ _ _ (.cl _ rfl) .nil) (spec_l10Lit_p  h106)) ?_
             refine TL.st rfl rfl rfl (o_sliceIm rfl rfl tyS_67 ⟨_, rfl, rfl⟩ (by decide) rfl rfl rfl rfl rfl rfl) ?_
             obtain ⟨r107, h108, H⟩ := bind_s H
             refine TL.st rfl rfl rfl (o_callP rfl en_60 rfl rfl (.cons _ _ _ _ (.cl _ rfl) (.cons _ _ _ _ (.cl _ rfl) (.cons _ _ _ _ (.cl _ rfl) .nil))) (spec_l10Node_p false h108)) ?_
             refine TL.sn rfl rfl (o_storeBx rfl tyS_67 rfl rfl rfl rfl (Nat.le_of_ble_eq_true rfl) rfl) ?_
             refine TL.nil (thn_normal (T.ret (inB_ret (thn_ret ?_))))
             cases some_i H
             exact ⟨trivial, _, (.cell _ _ _ _ _ _ _ _ _ _ rfl rfl tyS_67 (Nat.le_of_ble_eq_true rfl) rfl .nil), ⟨rfl, _, rfl⟩⟩
            ·replace H := cond_f h H
             refine T.seq (T.region (TL.st rfl rfl rfl (o_ari rfl rfl rfl rfl) (TL.st rfl rfl rfl (o_assign rfl rfl) (TL.nil (thn_normal ?_)))))
             refine T.cond ((v4 == 12)) rfl (fun h => ?_) (fun h => ?_)
             ·replace H := cond_t h H
              refine T.seq (T.region (TL.st rfl rfl rfl (o_move rfl rfl) (TL.st rfl rfl rfl (o_sliceIm rfl rfl tyS_9 ⟨_, rfl, rfl⟩ (by decide) rfl rfl rfl rfl rfl rfl) ?_)))
              obtain ⟨⟨r109, o110⟩, h111, H⟩ := bind_s H
              refine TL.st rfl rfl rfl (o_callS [0] rfl en_17 rfl rfl (spec_l1Cur_of_p false c0 h111) rfl (by decide) (.cons _ _ _ _ rfl .nil) rfl rfl rfl) ?_
              refine TL.st rfl rfl rfl (o_move rfl rfl) ?_
              obtain ⟨⟨r112, o113⟩, h114, H⟩ := bind_s H
              refine TL.st rfl rfl rfl (o_callS [0] rfl en_61 rfl rfl (spec_l1Cur_path_p c0 h114) rfl (by decide) (.cons _ _ _ _ rfl .nil) rfl rfl rfl) ?_
              refine TL.st rfl rfl rfl (o_sliceIm rfl rfl tyS_67 ⟨_, rfl, rfl⟩ (by decide) rfl rfl rfl rfl rfl rfl) ?_
              obtain ⟨r115, h116, H⟩ := bind_s H
              refine TL.st rfl rfl rfl (o_callP rfl en_60 rfl rfl (.cons _ _ _ _ (.cl _ rfl) (.cons _ _ _ _ (.cl _ rfl) (.cons _ _ _ _ (.cl _ rfl) .nil))) (spec_l10Node_p false h116)) ?_
              refine TL.sn rfl rfl (o_storeBx rfl tyS_67 rfl rfl rfl rfl (Nat.le_of_ble_eq_true rfl) rfl) ?_
              refine TL.nil (thn_normal (T.ret (inB_ret (thn_ret ?_))))
              cases some_i H
              exact ⟨trivial, _, (.cell _ _ _ _ _ _ _ _ _ _ rfl rfl tyS_67 (Nat.le_of_ble_eq_true rfl) rfl .nil), ⟨rfl, _, rfl⟩⟩
             ·replace H := cond_f h H
              refine T.seq (T.region (TL.st rfl rfl rfl (o_ari rfl rfl rfl rfl) (TL.st rfl rfl rfl (o_assign rfl rfl) (TL.nil (thn_normal ?_)))))
              refine T.cond ((v4 == 13)) rfl (fun h => ?_) (fun h => ?_)
              ·replace H := cond_t h H
               refine T.seq (T.region (TL.st rfl rfl rfl (o_move rfl rfl) (TL.st rfl rfl rfl (o_sliceIm rfl rfl tyS_9 ⟨_, rfl, rfl⟩ (by decide) rfl rfl rfl rfl rfl rfl) ?_)))
               obtain ⟨⟨r117, o118⟩, h119, H⟩ := bind_s H
               refine TL.st rfl rfl rfl (o_callS [0] rfl en_17 rfl rfl (spec_l1Cur_of_p false c0 h119) rfl (by decide) (.cons _ _ _ _ rfl .nil) rfl rfl rfl) ?_
               refine TL.st rfl rfl rfl (o_move rfl rfl) (TL.st rfl rfl rfl (o_sliceIm rfl rfl tyS_9 ⟨_, rfl, rfl⟩ (by decide) rfl rfl rfl rfl rfl rfl) ?_)
               obtain ⟨⟨r120, o121⟩, h122, H⟩ := bind_s H
               refine TL.st rfl rfl rfl (o_callS [0] rfl en_17 rfl rfl (spec_l1Cur_of_p false c0 h122) rfl (by decide) (.cons _ _ _ _ rfl .nil) rfl rfl rfl) ?_
               obtain ⟨r123, h124, H⟩ := bind_s H
               refine TL.st rfl rfl rfl (o_callP rfl en_60 rfl rfl (.cons _ _ _ _ (.cl _ rfl) (.cons _ _ _ _ (.cl _ rfl) (.cons _ _ _ _ .nil .nil))) (spec_l10Node_p false h124)) ?_
               refine TL.st rfl rfl rfl (o_sliceIm rfl rfl tyS_67 ⟨_, rfl, rfl⟩ (by decide) rfl rfl rfl rfl rfl rfl) ?_
               obtain ⟨r125, h126, H⟩ := bind_s H
               refine TL.st rfl rfl rfl (o_callP rfl en_60 rfl rfl (.cons _ _ _ _ (.cl _ rfl) (.cons _ _ _ _ (.cl _ rfl) (.cons _ _ _ _ (.cl _ rfl) .nil))) (spec_l10Node_p false h126)) ?_
               refine TL.sn rfl rfl (o_storeBx rfl tyS_67 rfl rfl rfl rfl (Nat.le_of_ble_eq_true rfl) rfl) ?_
               refine TL.nil (thn_normal (T.ret (inB_ret (thn_ret ?_))))
               cases some_i H
               exact ⟨trivial, _, (.cell _ _ _ _ _ _ _ _ _ _ rfl rfl tyS_67 (Nat.le_of_ble_eq_true rfl) rfl .nil), ⟨rfl, _, rfl⟩⟩
              ·replace H := cond_f h H
               refine T.seq (T.region (TL.st rfl rfl rfl (o_ari rfl rfl rfl rfl) (TL.st rfl rfl rfl (o_assign rfl rfl) (TL.nil (thn_normal ?_)))))
               refine T.cond ((v4 == 14)) rfl (fun h => ?_) (fun h => ?_)
               ·replace H := cond_t h H
                refine T.seq (T.region ?_)
                obtain ⟨r127, h128, H⟩ := bind_s H
                refine TL.st rfl rfl rfl (o_callP rfl en_60 rfl rfl (.cons _ _ _ _ (.cl _ rfl) (.cons _ _ _ _ (.cl _ rfl) (.cons _ _ _ _ .nil .nil))) (spec_l10Node_p false h128)) ?_
                refine TL.st rfl rfl rfl (o_sliceIm rfl rfl tyS_67 ⟨_, rfl, rfl⟩ (by decide) rfl rfl rfl rfl rfl rfl) ?_
                obtain ⟨r129, h130, H⟩ := bind_s H
                refine TL.st rfl rfl rfl (o_callP rfl en_60 rfl rfl (.cons _ _ _ _ (.cl _ rfl) (.cons _ _ _ _ (.cl _ rfl) (.cons _ _ _ _ (.cl _ rfl) .nil))) (spec_l10Node_p false h130)) ?_
                refine TL.st rfl rfl rfl (o_move rfl rfl) ?_
                obtain ⟨⟨r131, o132⟩, h133, H⟩ := bind_s H
                refine TL.st rfl rfl rfl (o_callS [0] rfl en_42 rfl rfl (spec_l1Cur_block_p c0 h133) rfl (by decide) (.cons _ _ _ _ rfl .nil) rfl rfl rfl) ?_
                obtain ⟨r134, h135, H⟩ := bind_s H
                refine TL.st rfl rfl rfl (o_callP rfl en_63 rfl rfl (.cons _ _ _ _ (.cl _ rfl) .nil) (spec_l10Lit_p  h135)) ?_
                refine TL.st rfl rfl rfl (o_sliceIm rfl rfl tyS_67 ⟨_, rfl, rfl⟩ (by decide) rfl rfl rfl rfl rfl rfl) ?_
                obtain ⟨r136, h137, H⟩ := bind_s H
                refine TL.st rfl rfl rfl (o_callP rfl en_60 rfl rfl (.cons _ _ _ _ (.cl _ rfl) (.cons _ _ _ _ (.cl _ rfl) (.cons _ _ _ _ (.cl _ rfl) .nil))) (spec_l10Node_p false h137)) ?_
                refine TL.sn rfl rfl (o_storeBx rfl tyS_67 rfl rfl rfl rfl (Nat.le_of_ble_eq_true rfl) rfl) ?_
                refine TL.nil (thn_normal (T.ret (inB_ret (thn_ret ?_))))
                cases some_i H
                exact ⟨trivial, _, (.cell _ _ _ _ _ _ _ _ _ _ rfl rfl tyS_67 (Nat.le_of_ble_eq_true rfl) rfl .nil), ⟨rfl, _, rfl⟩⟩
               ·replace H := cond_f h H
                refine T.skip (inB_normal (thn_normal (T.seq (T.seq (T.region (TL.st rfl rfl rfl (o_move rfl rfl) ?_))))))
                obtain ⟨⟨r138, o139⟩, h140, H⟩ := bind_s H
                refine TL.st rfl rfl rfl (o_callS [0] rfl en_13 rfl rfl (spec_l1Cur_one_p c0 h140) rfl (by decide) (.cons _ _ _ _ rfl .nil) rfl rfl rfl) ?_
                refine TL.nil (thn_normal ?_)
                refine T.cond (r138) rfl (fun h => ?_) (fun h => ?_)
                ·replace H := cond_t h H
                 refine T.seq (T.region (TL.st rfl rfl rfl (o_move rfl rfl) ?_))
                 obtain ⟨⟨r141, o142⟩, h143, H⟩ := bind_s H
                 refine TL.st rfl rfl rfl (o_callS [0] rfl en_16 rfl rfl (spec_l1Cur_atom_p c0 h143) rfl (by decide) (.cons _ _ _ _ rfl .nil) rfl rfl rfl) ?_
                 obtain ⟨r144, h145, H⟩ := bind_s H
                 refine TL.st rfl rfl rfl (o_callP rfl en_63 rfl rfl (.cons _ _ _ _ (.cl _ rfl) .nil) (spec_l10Lit_p  h145)) ?_
                 refine TL.sn rfl rfl (o_storeBx rfl tyS_67 rfl rfl rfl rfl (Nat.le_of_ble_eq_true rfl) rfl) ?_
                 refine TL.nil (thn_normal (T.ret (thn_ret ?_)))
                 cases some_i H
                 exact ⟨trivial, _, (.cell _ _ _ _ _ _ _ _ _ _ rfl rfl tyS_67 (Nat.le_of_ble_eq_true rfl) rfl .nil), ⟨rfl, _, rfl⟩⟩
                ·replace H := cond_f h H
                 refine T.skip (thn_normal (T.seq (T.seq (T.region (TL.st rfl rfl rfl (o_move rfl rfl) ?_)))))
                 obtain ⟨⟨r146, o147⟩, h148, H⟩ := bind_s H
                 refine TL.st rfl rfl rfl (o_callS [0] rfl en_13 rfl rfl (spec_l1Cur_one_p c0 h148) rfl (by decide) (.cons _ _ _ _ rfl .nil) rfl rfl rfl) ?_
                 refine TL.nil (thn_normal ?_)
                 refine T.cond (r146) rfl (fun h => ?_) (fun h => ?_)
                 ·replace H := cond_t h H
                  refine T.seq (T.region (TL.st rfl rfl rfl (o_move rfl rfl) ?_))
                  obtain ⟨⟨r149, o150⟩, h151, H⟩ := bind_s H
                  refine TL.st rfl rfl rfl (o_callS [0] rfl en_64 rfl rfl (spec_l1Cur_ofContext_p c0 h151) rfl (by decide) (.cons _ _ _ _ rfl .nil) rfl rfl rfl) ?_
                  refine TL.sn rfl rfl (o_storeBx rfl tyS_67 rfl rfl rfl rfl (Nat.le_of_ble_eq_true rfl) rfl) ?_
                  refine TL.nil (thn_normal (T.ret (thn_ret ?_)))
                  cases some_i H
                  exact ⟨trivial, _, (.cell _ _ _ _ _ _ _ _ _ _ rfl rfl tyS_67 (Nat.le_of_ble_eq_true rfl) rfl .nil), ⟨rfl, _, rfl⟩⟩
                 ·replace H := cond_f h H
                  refine T.skip (thn_normal (T.seq (T.region (TL.st rfl rfl rfl (o_move rfl rfl) ?_))))
                  obtain ⟨⟨r152, o153⟩, h154, H⟩ := bind_s H
                  refine TL.st rfl rfl rfl (o_callS [0] rfl en_61 rfl rfl (spec_l1Cur_path_p c0 h154) rfl (by decide) (.cons _ _ _ _ rfl .nil) rfl rfl rfl) ?_
                  refine TL.sn rfl rfl (o_storeBx rfl tyS_67 rfl rfl rfl rfl (Nat.le_of_ble_eq_true rfl) rfl) ?_
                  refine TL.nil (thn_normal (T.ret ?_))
                  cases some_i H
                  exact ⟨trivial, _, (.cell _ _ _ _ _ _ _ _ _ _ rfl rfl tyS_67 (Nat.le_of_ble_eq_true rfl) rfl .nil), ⟨rfl, _, rfl⟩⟩
theorem spec_l1Cur_boolExpr_p (c0 : Bool) {a0 : Int} {s0 : T_spec_l1Cur} {R0 : T_spec_l10E} {U0 : T_spec_l1Cur} (H : spec_l1Cur_boolExpr a0 s0 = some (R0, U0)) : St Go.Proofs.Tryz.prog 37 [.bx 0 0, .int .i64 a0] [.box (c_T_spec_l1Cur c0 s0)] (.agg (c_T_spec_l10E false R0)) [.box (c_T_spec_l1Cur c0 U0)] :=
 fixO_ind (fun x r => match x, r with | (a0, s0), (R0, U0) => ∀ (c0 : Bool), St Go.Proofs.Tryz.prog 37 [.bx 0 0, .int .i64 a0] [.box (c_T_spec_l1Cur c0 s0)] (.agg (c_T_spec_l10E false R0)) [.box (c_T_spec_l1Cur c0 U0)]) (fun rec_spec_l1Cur_boolExpr Hrec x r h => match x, r, h with | (a0, s0), (R0, U0), h => fun c0 => spec_l1Cur_boolExpr_pb (fun c0 {a0} {s0} {R0} {U0} h => Hrec (a0, s0) (R0, U0) h c0) c0 h) H c0
theorem tyE_57 : TyE Go.Proofs.Tryz.prog 57 7 := ⟨_, _, rfl, rfl, rfl, rfl, by decide, by decide⟩
theorem en_36 (us : Array Value) (w : World) : (callFunc 36 us).run Go.Proofs.Tryz.prog w = .ok (.enter 36 us) w := enters Go.Proofs.Tryz.func36 rfl rfl us w
noncomputable def spec_l10Putxx_l1 (a0 : T_spec_l10E) (rec_spec_l10Putxx : (T_spec_l10E × List T_impl_Expr) → Option (List T_impl_Expr)) : (List T_impl_Expr × Int) → Option ((List T_impl_Expr × Int) ⊕ List T_impl_Expr) := fun s => match s with
  | (l3, v4) => cond (decide (v4 < (a0.kids_.length : Int))) ((idx a0.kids_ v4).bind fun w8 => (dec_T_spec_l10E w8).bind fun e7 => (rec_spec_l10Putxx (e7, l3)).bind fun r11 => some (.inl (r11, (IntKind.i64.wrap (v4 + 1))))) (some (.inr l3))
noncomputable def spec_l10Putxx_b (rec_spec_l10Putxx : (T_spec_l10E × List T_impl_Expr) → Option (List T_impl_Expr)) (a0 : T_spec_l10E) (s0 : List T_impl_Expr) : Option (List T_impl_Expr) :=
  (app s0 ([(⟨a0.n_.Kind_, a0.n_.Text_, a0.n_.Atom_, (a0.kids_.length : Int)⟩ : T_impl_Expr)] : List T_impl_Expr)).bind fun l1 => (loopO (spec_l10Putxx_l1 a0 rec_spec_l10Putxx) (l1, 0)).bind fun l5 => (match l5 with | l5 => some l5)
noncomputable def spec_l10Putxx (a0 : T_spec_l10E) (s0 : List T_impl_Expr) : Option (List T_impl_Expr) := fixO (fun rec_spec_l10Putxx x => match x with | (a0, s0) => spec_l10Putxx_b rec_spec_l10Putxx a0 s0) (a0, s0)
theorem spec_l10Putxx_ob {rec_spec_l10Putxx : (T_spec_l10E × List T_impl_Expr) → Option (List T_impl_Expr)} (Hrec_spec_l10Putxx : ∀ (b0 : Bool) {a0 : T_spec_l10E} {s0 : List T_impl_Expr} {R0 : (List T_impl_Expr)}, rec_spec_l10Putxx (a0, s0) = some R0 → St Go.Proofs.Tryz.prog 36 [.hd 0 (s0.map (c_T_impl_Expr false)).length 0 (s0.map (c_T_impl_Expr false)).length, .agg (c_T_spec_l10E b0 a0)] [.arr .clo 7 (s0.map (c_T_impl_Expr false))] (.hd 2 (R0.map (c_T_impl_Expr false)).length 0 (R0.map (c_T_impl_Expr false)).length) [.dead, .dead, .arr .clo 7 (R0.map (c_T_impl_Expr false))]) (b0 : Bool) {a0 : T_spec_l10E} {s0 : List T_impl_Expr} {R0 : (List T_impl_Expr)} (H : spec_l10Putxx_b rec_spec_l10Putxx a0 s0 = some R0) : St Go.Proofs.Tryz.prog 36 [.hd 0 (s0.map (c_T_impl_Expr false)).length 0 (s0.map (c_T_impl_Expr false)).length, .agg (c_T_spec_l10E b0 a0)] [.arr .clo 7 (s0.map (c_T_impl_Expr false))] (.hd 2 (R0.map (c_T_impl_Expr false)).length 0 (R0.map (c_T_impl_Expr false)).length) [.dead, .dead, .arr .clo 7 (R0.map (c_T_impl_Expr false))] := by
 refine CallT.finR (CallT.of_TN (n := 30) Go.Proofs.Tryz.func36 rfl rfl rfl rfl ?_) rfl rfl ⟨trivial, ⟨trivial, ⟨trivial, trivial⟩⟩⟩
 refine T.conv (Cs.fresh 0 rfl rfl (by decide) rfl (nomS_all rfl rfl)) ?_
 refine T.conv Cs.pushDead ?_
 refine T.conv (Cs.wkF (M := 3) (.cons 0 _ (.hd 1 (s0.map (c_T_impl_Expr false)).length 0 (s0.map (c_T_impl_Expr false)).length) _ rfl (.same _) rfl (.cons 1 _ (.agg (c_T_spec_l10E b0 a0)) _ rfl (.same _) rfl .nil))) ?_
 refine T.conv (Cs.eqS (σ' := [.dead, .arr .clo 7 (s0.map (c_T_impl_Expr false)), .dead]) rfl) ?_
 refine T.seq (T.region (TL.st rfl rfl rfl (o_box rfl rfl rfl) (TL.st rfl rfl rfl (o_assign rfl rfl) (TL.nil (thn_normal (T.seq (T.region (TL.st rfl rfl rfl (o_fieldAddr rfl rfl rfl tyS_57 (by decide) rfl rfl ⟨_, rfl, Nat.le_of_ble_eq_true rfl⟩) ?_))))))))
 refine TL.st rfl rfl rfl (o_loadBx rfl tyS_57 rfl rfl (Nat.le_of_ble_eq_true rfl) rfl) ?_
 refine TL.st rfl rfl rfl (o_alloc rfl ⟨_, rfl, rfl⟩) (TL.sn rfl rfl (o_storeBx rfl tyS_57 rfl rfl rfl rfl (Nat.le_of_ble_eq_true rfl) rfl) ?_)
 refine TL.nil (thn_normal (T.seq (T.region (TL.st rfl rfl rfl (o_fieldAddr rfl rfl rfl tyS_65 (by decide) rfl rfl ⟨_, rfl, Nat.le_of_ble_eq_true rfl⟩) ?_))))
 refine TL.st rfl rfl rfl (o_loadBx rfl tyS_65 rfl rfl (Nat.le_of_ble_eq_true rfl) rfl) ?_
 refine TL.st rfl rfl rfl (o_lenL (f := c_raw) rfl rfl rfl) ?_
 refine TL.st rfl rfl rfl (o_fieldAddr rfl rfl rfl tyS_3 (by decide) rfl rfl ⟨_, rfl, Nat.le_of_ble_eq_true rfl⟩) ?_
 refine TL.sn rfl rfl (o_storeBx rfl tyS_3 rfl rfl rfl rfl (Nat.le_of_ble_eq_true rfl) rfl) ?_
 refine TL.nil (thn_normal (T.seq (T.region (TL.st rfl rfl rfl (o_move rfl rfl) (TL.st rfl rfl rfl (o_loadBx rfl tyS_57 rfl rfl (Nat.le_of_ble_eq_true rfl) rfl) ?_)))))
 refine TL.st rfl rfl rfl (o_sliceIm rfl rfl tyS_57 ⟨_, rfl, rfl⟩ (by decide) rfl rfl rfl rfl rfl rfl) ?_
 obtain ⟨l1, h2, H⟩ := bind_s H
 refine TL.st rfl rfl rfl (o_ap (f := c_T_impl_Expr false) (xs := s0) (ys := ([(⟨a0.n_.Kind_, a0.n_.Text_, a0.n_.Atom_, (a0.kids_.length : Int)⟩ : T_impl_Expr)] : List T_impl_Expr)) rfl rfl tyE_57 rfl rfl rfl rfl (by decide) rfl (fun _ => rfl) h2) ?_
 refine TL.st rfl rfl rfl (o_assign rfl rfl) (TL.nil (thn_normal (T.seq (T.seq (T.region (TL.st rfl rfl rfl (o_fieldAddr rfl rfl rfl tyS_65 (by decide) rfl rfl ⟨_, rfl, Nat.le_of_ble_eq_true rfl⟩) ?_))))))
 refine TL.st rfl rfl rfl (o_loadBx rfl tyS_65 rfl rfl (Nat.le_of_ble_eq_true rfl) rfl) ?_
 refine TL.st rfl rfl rfl (o_lenL (f := c_raw) rfl rfl rfl) ?_
 refine TL.st rfl rfl rfl (o_move rfl rfl) (TL.nil (thn_normal (T.block ?_)))
 obtain ⟨l5, h14, H⟩ := bind_s H
 refine T.to (.cons 0 _ (.hd 1 (l1.map (c_T_impl_Expr false)).length 0 (l1.map (c_T_impl_Expr false)).length) _ rfl (.same _) rfl (.cons 19 _ (.im b0 (a0.kids_.map (c_raw))) _ rfl (.same _) rfl (.cons 20 _ (.int .i64 (a0.kids_.length : Int)) _ rfl (.same _) rfl (.cons 21 _ (.int .i64 0) _ rfl (.same _) rfl .nil)))) ?_
 refine T.lp (fun s => match s with | (l3, v4) => [(0, .hd 1 (l3.map (c_T_impl_Expr false)).length 0 (l3.map (c_T_impl_Expr false)).length), (19, .im b0 (a0.kids_.map (c_raw))), (20, .int .i64 (a0.kids_.length : Int)), (21, .int .i64 v4)]) (fun s => match s with | (l3, v4) => [.dead, .arr .clo 7 (l3.map (c_T_impl_Expr false)), .dead, .box (c_T_spec_l10E b0 a0), .box ([.int .i64 a0.n_.Kind_, .str a0.n_.Text_] ++ (c_T_impl_Atom b0 a0.n_.Atom_) ++ [.int .i64 (a0.kids_.length : Int)])]) (fun q ex fr σ => match q with | l5 => ex = .exit 0 ∧ fr = [(0, .hd 1 (l5.map (c_T_impl_Expr false)).length 0 (l5.map (c_T_impl_Expr false)).length)] ∧ σ = [.dead, .arr .clo 7 (l5.map (c_T_impl_Expr false)), .dead, .box (c_T_spec_l10E b0 a0), .box ([.int .i64 a0.n_.Kind_, .str a0.n_.Text_] ++ (c_T_impl_Atom b0 a0.n_.Atom_) ++ [.int .i64 (a0.kids_.length : Int)])]) h14 ?_ ?_ ?_ ?_ ?_
 ·rintro ⟨l3, v4⟩ y6 H
  refine T.seq (T.region (TL.st rfl rfl rfl (o_ari rfl rfl rfl rfl) (TL.nil (thn_normal (T.seq ?_)))))
  refine T.cond (decide (v4 < (a0.kids_.length : Int))) rfl (fun h => ?_) (fun h => ?_)
  ·replace H := cond_t h H
   refine T.skip (thn_normal (T.seq (T.block (T.seq (T.region ?_)))))
   obtain ⟨w8, h9, H⟩ := bind_s H
   obtain ⟨e7, h10, H⟩ := bind_s H
   refine TL.st rfl rfl rfl (o_ixR (f := c_raw) rfl rfl tyS_67 rfl rfl h9 (dec_T_spec_l10E_s h10) rfl) ?_
   refine TL.st rfl rfl rfl (o_loadRf rfl tyS_67 rfl (Nat.le_of_ble_eq_true rfl) rfl) ?_
   refine TL.st rfl rfl rfl (o_alloc rfl ⟨_, rfl, rfl⟩) (TL.sn rfl rfl (o_storeBx rfl tyS_67 rfl rfl rfl rfl (Nat.le_of_ble_eq_true rfl) rfl) ?_)
   refine TL.nil (thn_normal (T.region (TL.st rfl rfl rfl (o_move rfl rfl) (TL.st rfl rfl rfl (o_loadBx rfl tyS_67 rfl rfl (Nat.le_of_ble_eq_true rfl) rfl) ?_))))
   obtain ⟨r11, h12, H⟩ := bind_s H
   refine TL.st rfl rfl rfl (o_callS [1] rfl en_36 rfl rfl (Hrec_spec_l10Putxx false h12) rfl (by decide) (.cons _ _ _ _ rfl .nil) rfl rfl rfl) ?_
   refine TL.conv (Cs.wkF (M := 8) (.cons 7 _ (.bx 5 0) _ rfl (.same _) rfl (.cons 19 _ (.im b0 (a0.kids_.map (c_raw))) _ rfl (.same _) rfl (.cons 20 _ (.int .i64 (a0.kids_.length : Int)) _ rfl (.same _) rfl (.cons 21 _ (.int .i64 v4) _ rfl (.same _) rfl (.cons 22 _ (.bool (decide (v4 < (a0.kids_.length : Int)))) _ rfl (.same _) rfl (.cons 24 _ (.agg (c_T_spec_l10E false e7)) _ rfl (.same _) rfl (.cons 26 _ (.agg (c_T_spec_l10E false e7)) _ rfl (.same _) rfl (.cons 27 _ (.hd 7 (r11.map (c_T_impl_Expr false)).length 0 (r11.map (c_T_impl_Expr false)).length) _ rfl (.same _) rfl .nil))))))))) ?_
   refine TL.conv (Cs.reloc 1 7 rfl rfl (by decide) rfl rfl rfl (nomS_get rfl)) ?_
   refine TL.conv (Cs.wkF (M := 8) (.cons 7 _ (.bx 5 0) _ rfl (.same _) rfl (.cons 19 _ (.im b0 (a0.kids_.map (c_raw))) _ rfl (.same _) rfl (.cons 20 _ (.int .i64 (a0.kids_.length : Int)) _ rfl (.same _) rfl (.cons 21 _ (.int .i64 v4) _ rfl (.same _) rfl (.cons 22 _ (.bool (decide (v4 < (a0.kids_.length : Int)))) _ rfl (.same _) rfl (.cons 24 _ (.agg (c_T_spec_l10E false e7)) _ rfl (.same _) rfl (.cons 26 _ (.agg (c_T_spec_l10E false e7)) _ rfl (.same _) rfl (.cons 27 _ (.hd 1 (r11.map (c_T_impl_Expr false)).length 0 (r11.map (c_T_impl_Expr false)).length) _ rfl (.same _) rfl .nil))))))))) ?_
   refine TL.conv (Cs.eqS (σ' := [.dead, .arr .clo 7 (r11.map (c_T_impl_Expr false)), .dead, .box (c_T_spec_l10E b0 a0), .box ([.int .i64 a0.n_.Kind_, .str a0.n_.Text_] ++ (c_T_impl_Atom b0 a0.n_.Atom_) ++ [.int .i64 (a0.kids_.length : Int)]), .box (c_T_spec_l10E false e7), .dead, .dead]) rfl) ?_
   refine TL.st rfl rfl rfl (o_assign rfl rfl) (TL.nil (inB_normal (thn_normal (T.region (TL.st rfl rfl rfl (o_ari rfl rfl rfl rfl) (TL.st rfl rfl rfl (o_move rfl rfl) (TL.nil ?_)))))))
   exact Pk.go (fr' := [(0, .hd 1 (r11.map (c_T_impl_Expr false)).length 0 (r11.map (c_T_impl_Expr false)).length), (19, .im b0 (a0.kids_.map (c_raw))), (20, .int .i64 (a0.kids_.length : Int)), (21, .int .i64 (IntKind.i64.wrap (v4 + 1)))]) (σ' := [.dead, .arr .clo 7 (r11.map (c_T_impl_Expr false)), .dead, .box (c_T_spec_l10E b0 a0), .box ([.int .i64 a0.n_.Kind_, .str a0.n_.Text_] ++ (c_T_impl_Atom b0 a0.n_.Atom_) ++ [.int .i64 (a0.kids_.length : Int)])]) _ rfl rfl ⟨trivial, ⟨trivial, ⟨trivial, ⟨(bels_iff.1 rfl), ⟨(bels_iff.1 rfl), trivial⟩⟩⟩⟩⟩ (.cons 0 _ (.hd 1 (r11.map (c_T_impl_Expr false)).length 0 (r11.map (c_T_impl_Expr false)).length) _ rfl (.same _) rfl (.cons 19 _ (.im b0 (a0.kids_.map (c_raw))) _ rfl (.same _) rfl (.cons 20 _ (.int .i64 (a0.kids_.length : Int)) _ rfl (.same _) rfl (.cons 21 _ (.int .i64 (IntKind.i64.wrap (v4 + 1))) _ rfl (.same _) rfl .nil)))) (thn_normal ⟨(r11, (IntKind.i64.wrap (v4 + 1))), (some_i H).symm, rfl, rfl⟩)
  ·replace H := cond_f h H
   refine T.exit (thn_exit ?_)
   exact Pk.go (fr' := [(0, .hd 1 (l3.map (c_T_impl_Expr false)).length 0 (l3.map (c_T_impl_Expr false)).length)]) (σ' := [.dead, .arr .clo 7 (l3.map (c_T_impl_Expr false)), .dead, .box (c_T_spec_l10E b0 a0), .box ([.int .i64 a0.n_.Kind_, .str a0.n_.Text_] ++ (c_T_impl_Atom b0 a0.n_.Atom_) ++ [.int .i64 (a0.kids_.length : Int)])]) _ rfl rfl ⟨trivial, ⟨trivial, ⟨trivial, ⟨(bels_iff.1 rfl), ⟨(bels_iff.1 rfl), trivial⟩⟩⟩⟩⟩ (.cons 0 _ (.hd 1 (l3.map (c_T_impl_Expr false)).length 0 (l3.map (c_T_impl_Expr false)).length) _ rfl (.same _) rfl .nil) (thn_exit ⟨l3, (some_i H).symm, rfl, rfl, rfl⟩)
 ·rintro ⟨l3, v4⟩ ⟨l3', v4'⟩; rfl
 ·rintro ⟨l3, v4⟩; exact ⟨trivial, ⟨trivial, ⟨trivial, ⟨(bels_iff.1 rfl), ⟨(bels_iff.1 rfl), trivial⟩⟩⟩⟩⟩
 ·rintro ⟨l3, v4⟩; exact (.cons _ _ _ rfl rfl (.cons _ _ _ rfl rfl (.cons _ _ _ rfl rfl (.cons _ _ _ rfl rfl .nil))))
 ·rintro _ _ _ ⟨rfl, rfl, rfl⟩
  refine inB_here (thn_normal (T.seq (T.region (TL.st rfl rfl rfl (o_move rfl rfl) (TL.st rfl rfl rfl (o_assign rfl rfl) (TL.nil (thn_normal (T.conv (Cs.wkF (M := 5) (.cons 4 _ (.hd 1 (l5.map (c_T_impl_Expr false)).length 0 (l5.map (c_T_impl_Expr false)).length) _ rfl (.same _) rfl .nil)) ?_))))))))
  refine T.conv (Cs.reloc 2 1 rfl rfl (by decide) rfl rfl rfl (nomS_get rfl)) ?_
  refine T.conv (Cs.wkF (M := 5) (.cons 4 _ (.hd 2 (l5.map (c_T_impl_Expr false)).length 0 (l5.map (c_T_impl_Expr false)).length) _ rfl (.same _) rfl .nil)) ?_
  refine T.conv (Cs.eqS (σ' := [.dead, .dead, .arr .clo 7 (l5.map (c_T_impl_Expr false)), .box (c_T_spec_l10E b0 a0), .box ([.int .i64 a0.n_.Kind_, .str a0.n_.Text_] ++ (c_T_impl_Atom b0 a0.n_.Atom_) ++ [.int .i64 (a0.kids_.length : Int)])]) rfl) ?_
  refine T.ret ?_
  cases some_i H
  exact ⟨trivial, _, (.tmp _ _ _ _ rfl .nil), ⟨rfl, _, rfl⟩⟩
theorem spec_l10Putxx_o (b0 : Bool) {a0 : T_spec_l10E} {s0 : List T_impl_Expr} {R0 : (List T_impl_Expr)} (H : spec_l10Putxx a0 s0 = some R0) : St Go.Proofs.Tryz.prog 36 [.hd 0 (s0.map (c_T_impl_Expr false)).length 0 (s0.map (c_T_impl_Expr false)).length, .agg (c_T_spec_l10E b0 a0)] [.arr .clo 7 (s0.map (c_T_impl_Expr false))] (.hd 2 (R0.map (c_T_impl_Expr false)).length 0 (R0.map (c_T_impl_Expr false)).length) [.dead, .dead, .arr .clo 7 (R0.map (c_T_impl_Expr false))] :=
 fixO_ind (fun x r => match x, r with | (a0, s0), R0 => ∀ (b0 : Bool), St Go.Proofs.Tryz.prog 36 [.hd 0 (s0.map (c_T_impl_Expr false)).length 0 (s0.map (c_T_impl_Expr false)).length, .agg (c_T_spec_l10E b0 a0)] [.arr .clo 7 (s0.map (c_T_impl_Expr false))] (.hd 2 (R0.map (c_T_impl_Expr false)).length 0 (R0.map (c_T_impl_Expr false)).length) [.dead, .dead, .arr .clo 7 (R0.map (c_T_impl_Expr false))]) (fun rec_spec_l10Putxx Hrec x r h => match x, r, h with | (a0, s0), R0, h => fun b0 => spec_l10Putxx_ob (fun b0 {a0} {s0} {R0} h => Hrec (a0, s0) R0 h b0) b0 h) H b0
noncomputable def spec_l10Putx_l1 (a0 : T_spec_l10E) : (List T_impl_Expr × Int) → Option ((List T_impl_Expr × Int) ⊕ List T_impl_Expr) := fun s => match s with
  | (l3, v4) => cond (decide (v4 < (a0.kids_.length : Int))) ((idx a0.kids_ v4).bind fun w8 => (dec_T_spec_l10E w8).bind fun e7 => (spec_l10Putxx e7 l3).bind fun r11 => some (.inl (r11, (IntKind.i64.wrap (v4 + 1))))) (some (.inr l3))
noncomputable def spec_l10Putx (a0 : T_spec_l10E) : Option (List T_impl_Expr) :=
  (app ([] : List T_impl_Expr) ([(⟨a0.n_.Kind_, a0.n_.Text_, a0.n_.Atom_, (a0.kids_.length : Int)⟩ : T_impl_Expr)] : List T_impl_Expr)).bind fun l1 => (loopO (spec_l10Putx_l1 a0) (l1, 0)).bind fun l5 => (match l5 with | l5 => some l5)
theorem spec_l10Putx_p (b0 : Bool) {a0 : T_spec_l10E} {R0 : (List T_impl_Expr)} (H : spec_l10Putx a0 = some R0) : Pure Go.Proofs.Tryz.prog 36 [.nilS, .agg (c_T_spec_l10E b0 a0)] (.im false (R0.map (c_T_impl_Expr false))) := by
 refine CallT.of_TN (n := 30) Go.Proofs.Tryz.func36 rfl rfl rfl rfl ?_
 refine T.seq (T.region (TL.st rfl rfl rfl (o_box rfl rfl rfl) (TL.st rfl rfl rfl (o_assign rfl rfl) (TL.nil (thn_normal (T.seq (T.region (TL.st rfl rfl rfl (o_fieldAddr rfl rfl rfl tyS_57 (by decide) rfl rfl ⟨_, rfl, Nat.le_of_ble_eq_true rfl⟩) ?_))))))))
 refine TL.st rfl rfl rfl (o_loadBx rfl tyS_57 rfl rfl (Nat.le_of_ble_eq_true rfl) rfl) ?_
 refine TL.st rfl rfl rfl (o_alloc rfl ⟨_, rfl, rfl⟩) (TL.sn rfl rfl (o_storeBx rfl tyS_57 rfl rfl rfl rfl (Nat.le_of_ble_eq_true rfl) rfl) ?_)
 refine TL.nil (thn_normal (T.seq (T.region (TL.st rfl rfl rfl (o_fieldAddr rfl rfl rfl tyS_65 (by decide) rfl rfl ⟨_, rfl, Nat.le_of_ble_eq_true rfl⟩) ?_))))
 refine TL.st rfl rfl rfl (o_loadBx rfl tyS_65 rfl rfl (Nat.le_of_ble_eq_true rfl) rfl) ?_
 refine TL.st rfl rfl rfl (o_lenL (f := c_raw) rfl rfl rfl) ?_
 refine TL.st rfl rfl rfl (o_fieldAddr rfl rfl rfl tyS_3 (by decide) rfl rfl ⟨_, rfl, Nat.le_of_ble_eq_true rfl⟩) ?_
 refine TL.sn rfl rfl (o_storeBx rfl tyS_3 rfl rfl rfl rfl (Nat.le_of_ble_eq_true rfl) rfl) ?_
 refine TL.nil (thn_normal (T.seq (T.region (TL.st rfl rfl rfl (o_move rfl rfl) (TL.st rfl rfl rfl (o_loadBx rfl tyS_57 rfl rfl (Nat.le_of_ble_eq_true rfl) rfl) ?_)))))
 refine TL.st rfl rfl rfl (o_sliceIm rfl rfl tyS_57 ⟨_, rfl, rfl⟩ (by decide) rfl rfl rfl rfl rfl rfl) ?_
 refine TL.conv (Cs.own (t := 14) 7 rfl (by decide)) ?_
 obtain ⟨l1, h2, H⟩ := bind_s H
 refine TL.st rfl rfl rfl (o_ap (f := c_T_impl_Expr false) (xs := ([] : List T_impl_Expr)) (ys := ([(⟨a0.n_.Kind_, a0.n_.Text_, a0.n_.Atom_, (a0.kids_.length : Int)⟩ : T_impl_Expr)] : List T_impl_Expr)) rfl rfl tyE_57 rfl rfl rfl rfl (by decide) rfl (fun _ => rfl) h2) ?_
 refine TL.st rfl rfl rfl (o_assign rfl rfl) (TL.nil (thn_normal (T.seq (T.seq (T.region (TL.st rfl rfl rfl (o_fieldAddr rfl rfl rfl tyS_65 (by decide) rfl rfl ⟨_, rfl, Nat.le_of_ble_eq_true rfl⟩) ?_))))))
 refine TL.st rfl rfl rfl (o_loadBx rfl tyS_65 rfl rfl (Nat.le_of_ble_eq_true rfl) rfl) ?_
 refine TL.st rfl rfl rfl (o_lenL (f := c_raw) rfl rfl rfl) ?_
 refine TL.st rfl rfl rfl (o_move rfl rfl) (TL.nil (thn_normal (T.block ?_)))
 obtain ⟨l5, h14, H⟩ := bind_s H
 refine T.to (.cons 0 _ (.hd 2 (l1.map (c_T_impl_Expr false)).length 0 (l1.map (c_T_impl_Expr false)).length) _ rfl (.same _) rfl (.cons 19 _ (.im b0 (a0.kids_.map (c_raw))) _ rfl (.same _) rfl (.cons 20 _ (.int .i64 (a0.kids_.length : Int)) _ rfl (.same _) rfl (.cons 21 _ (.int .i64 0) _ rfl (.same _) rfl .nil)))) ?_
 refine T.lp (fun s => match s with | (l3, v4) => [(0, .hd 2 (l3.map (c_T_impl_Expr false)).length 0 (l3.map (c_T_impl_Expr false)).length), (19, .im b0 (a0.kids_.map (c_raw))), (20, .int .i64 (a0.kids_.length : Int)), (21, .int .i64 v4)]) (fun s => match s with | (l3, v4) => [.box (c_T_spec_l10E b0 a0), .box ([.int .i64 a0.n_.Kind_, .str a0.n_.Text_] ++ (c_T_impl_Atom b0 a0.n_.Atom_) ++ [.int .i64 (a0.kids_.length : Int)]), .arr .clo 7 (l3.map (c_T_impl_Expr false))]) (fun q ex fr σ => match q with | l5 => ex = .exit 0 ∧ fr = [(0, .hd 2 (l5.map (c_T_impl_Expr false)).length 0 (l5.map (c_T_impl_Expr false)).length)] ∧ σ = [.box (c_T_spec_l10E b0 a0), .box ([.int .i64 a0.n_.Kind_, .str a0.n_.Text_] ++ (c_T_impl_Atom b0 a0.n_.Atom_) ++ [.int .i64 (a0.kids_.length : Int)]), .arr .clo 7 (l5.map (c_T_impl_Expr false))]) h14 ?_ ?_ ?_ ?_ ?_
 ·rintro ⟨l3, v4⟩ y6 H
  refine T.seq (T.region (TL.st rfl rfl rfl (o_ari rfl rfl rfl rfl) (TL.nil (thn_normal (T.seq ?_)))))
  refine T.cond (decide (v4 < (a0.kids_.length : Int))) rfl (fun h => ?_) (fun h => ?_)
  ·replace H := cond_t h H
   refine T.skip (thn_normal (T.seq (T.block (T.seq (T.region ?_)))))
   obtain ⟨w8, h9, H⟩ := bind_s H
   obtain ⟨e7, h10, H⟩ := bind_s H
   refine TL.st rfl rfl rfl (o_ixR (f := c_raw) rfl rfl tyS_67 rfl rfl h9 (dec_T_spec_l10E_s h10) rfl) ?_
   refine TL.st rfl rfl rfl (o_loadRf rfl tyS_67 rfl (Nat.le_of_ble_eq_true rfl) rfl) ?_
   refine TL.st rfl rfl rfl (o_alloc rfl ⟨_, rfl, rfl⟩) (TL.sn rfl rfl (o_storeBx rfl tyS_67 rfl rfl rfl rfl (Nat.le_of_ble_eq_true rfl) rfl) ?_)
   refine TL.nil (thn_normal (T.region (TL.st rfl rfl rfl (o_move rfl rfl) (TL.st rfl rfl rfl (o_loadBx rfl tyS_67 rfl rfl (Nat.le_of_ble_eq_true rfl) rfl) ?_))))
   obtain ⟨r11, h12, H⟩ := bind_s H
   refine TL.st rfl rfl rfl (o_callS [2] rfl en_36 rfl rfl (spec_l10Putxx_o false h12) rfl (by decide) (.cons _ _ _ _ rfl .nil) rfl rfl rfl) ?_
   refine TL.conv (Cs.wkF (M := 6) (.cons 7 _ (.bx 3 0) _ rfl (.same _) rfl (.cons 19 _ (.im b0 (a0.kids_.map (c_raw))) _ rfl (.same _) rfl (.cons 20 _ (.int .i64 (a0.kids_.length : Int)) _ rfl (.same _) rfl (.cons 21 _ (.int .i64 v4) _ rfl (.same _) rfl (.cons 22 _ (.bool (decide (v4 < (a0.kids_.length : Int)))) _ rfl (.same _) rfl (.cons 24 _ (.agg (c_T_spec_l10E false e7)) _ rfl (.same _) rfl (.cons 26 _ (.agg (c_T_spec_l10E false e7)) _ rfl (.same _) rfl (.cons 27 _ (.hd 5 (r11.map (c_T_impl_Expr false)).length 0 (r11.map (c_T_impl_Expr false)).length) _ rfl (.same _) rfl .nil))))))))) ?_
   refine TL.conv (Cs.reloc 2 5 rfl rfl (by decide) rfl rfl rfl (nomS_get rfl)) ?_
   refine TL.conv (Cs.wkF (M := 6) (.cons 7 _ (.bx 3 0) _ rfl (.same _) rfl (.cons 19 _ (.im b0 (a0.kids_.map (c_raw))) _ rfl (.same _) rfl (.cons 20 _ (.int .i64 (a0.kids_.length : Int)) _ rfl (.same _) rfl (.cons 21 _ (.int .i64 v4) _ rfl (.same _) rfl (.cons 22 _ (.bool (decide (v4 < (a0.kids_.length : Int)))) _ rfl (.same _) rfl (.cons 24 _ (.agg (c_T_spec_l10E false e7)) _ rfl (.same _) rfl (.cons 26 _ (.agg (c_T_spec_l10E false e7)) _ rfl (.same _) rfl (.cons 27 _ (.hd 2 (r11.map (c_T_impl_Expr false)).length 0 (r11.map (c_T_impl_Expr false)).length) _ rfl (.same _) rfl .nil))))))))) ?_
   refine TL.conv (Cs.eqS (σ' := [.box (c_T_spec_l10E b0 a0), .box ([.int .i64 a0.n_.Kind_, .str a0.n_.Text_] ++ (c_T_impl_Atom b0 a0.n_.Atom_) ++ [.int .i64 (a0.kids_.length : Int)]), .arr .clo 7 (r11.map (c_T_impl_Expr false)), .box (c_T_spec_l10E false e7), .dead, .dead]) rfl) ?_
   refine TL.st rfl rfl rfl (o_assign rfl rfl) (TL.nil (inB_normal (thn_normal (T.region (TL.st rfl rfl rfl (o_ari rfl rfl rfl rfl) (TL.st rfl rfl rfl (o_move rfl rfl) (TL.nil ?_)))))))
   exact Pk.go (fr' := [(0, .hd 2 (r11.map (c_T_impl_Expr false)).length 0 (r11.map (c_T_impl_Expr false)).length), (19, .im b0 (a0.kids_.map (c_raw))), (20, .int .i64 (a0.kids_.length : Int)), (21, .int .i64 (IntKind.i64.wrap (v4 + 1)))]) (σ' := [.box (c_T_spec_l10E b0 a0), .box ([.int .i64 a0.n_.Kind_, .str a0.n_.Text_] ++ (c_T_impl_Atom b0 a0.n_.Atom_) ++ [.int .i64 (a0.kids_.length : Int)]), .arr .clo 7 (r11.map (c_T_impl_Expr false))]) _ rfl rfl ⟨(bels_iff.1 rfl), ⟨(bels_iff.1 rfl), ⟨trivial, trivial⟩⟩⟩ (.cons 0 _ (.hd 2 (r11.map (c_T_impl_Expr false)).length 0 (r11.map (c_T_impl_Expr false)).length) _ rfl (.same _) rfl (.cons 19 _ (.im b0 (a0.kids_.map (c_raw))) _ rfl (.same _) rfl (.cons 20 _ (.int .i64 (a0.kids_.length : Int)) _ rfl (.same _) rfl (.cons 21 _ (.int .i64 (IntKind.i64.wrap (v4 + 1))) _ rfl (.same _) rfl .nil)))) (thn_normal ⟨(r11, (IntKind.i64.wrap (v4 + 1))), (some_i H).symm, rfl, rfl⟩)
  ·replace H := cond_f h H
   refine T.exit (thn_exit ?_)
   exact Pk.go (fr' := [(0, .hd 2 (l3.map (c_T_impl_Expr false)).length 0 (l3.map (c_T_impl_Expr false)).length)]) (σ' := [.box (c_T_spec_l10E b0 a0), .box ([.int .i64 a0.n_.Kind_, .str a0.n_.Text_] ++ (c_T_impl_Atom b0 a0.n_.Atom_) ++ [.int .i64 (a0.kids_.length : Int)]), .arr .clo 7 (l3.map (c_T_impl_Expr false))]) _ rfl rfl ⟨(bels_iff.1 rfl), ⟨(bels_iff.1 rfl), ⟨trivial, trivial⟩⟩⟩ (.cons 0 _ (.hd 2 (l3.map (c_T_impl_Expr false)).length 0 (l3.map (c_T_impl_Expr false)).length) _ rfl (.same _) rfl .nil) (thn_exit ⟨l3, (some_i H).symm, rfl, rfl, rfl⟩)
 ·rintro ⟨l3, v4⟩ ⟨l3', v4'⟩; rfl
 ·rintro ⟨l3, v4⟩; exact ⟨(bels_iff.1 rfl), ⟨(bels_iff.1 rfl), ⟨trivial, trivial⟩⟩⟩
 ·rintro ⟨l3, v4⟩; exact (.cons _ _ _ rfl rfl (.cons _ _ _ rfl rfl (.cons _ _ _ rfl rfl (.cons _ _ _ rfl rfl .nil))))
 ·rintro _ _ _ ⟨rfl, rfl, rfl⟩
  refine inB_here (thn_normal (T.seq (T.region (TL.st rfl rfl rfl (o_move rfl rfl) (TL.st rfl rfl rfl (o_assign rfl rfl) (TL.nil (thn_normal (T.ret ?_))))))))
  cases some_i H
  exact ⟨trivial, _, (.tmp _ _ _ _ rfl .nil), (.own rfl (by decide) rfl)⟩
theorem tyS_27 : TyS Go.Proofs.Tryz.prog 27 false 1 := ⟨rfl, rfl⟩
theorem en_38 (us : Array Value) (w : World) : (callFunc 38 us).run Go.Proofs.Tryz.prog w = .ok (.enter 38 us) w := enters Go.Proofs.Tryz.func38 rfl rfl us w
theorem en_65 (us : Array Value) (w : World) : (callFunc 65 us).run Go.Proofs.Tryz.prog w = .ok (.enter 65 us) w := enters Go.Proofs.Tryz.func65 rfl rfl us w
noncomputable def spec_l1Cur_kindNum_j1 (b1 : T_spec_l1Cur) : Option (T_spec_l10E × T_spec_l1Cur) :=
  (spec_l10Node 3 (ByteArray.mk #[112, 114, 105, 110, 99, 105, 112, 97, 108]) ([] : List (List V))).bind fun r2 => (spec_l10Node 4 (ByteArray.mk #[97, 103, 101]) ([(c_T_spec_l10E false r2)] : List (List V))).bind fun r4 => some (r4, b1)
noncomputable def spec_l1Cur_kindNum_b (rec_spec_l1Cur_kindNum : (Int × T_spec_l1Cur) → Option (T_spec_l10E × T_spec_l1Cur)) (a0 : Int) (s0 : T_spec_l1Cur) : Option (T_spec_l10E × T_spec_l1Cur) :=
  (spec_l1Cur_pick 4 s0).bind fun q => (match q with | (r6, o7) => cond (r6 == 0) (cond (decide (a0 > 0)) ((spec_l1Cur_pick 3 o7).bind fun q => (match q with | (r9, o10) => (rec_spec_l1Cur_kindNum ((IntKind.i64.wrap (a0 - 1)), o10)).bind fun q => (match q with | (r12, o13) => (rec_spec_l1Cur_kindNum ((IntKind.i64.wrap (a0 - 1)), o13)).bind fun q => (match q with | (r15, o16) => (spec_l10Node (IntKind.i64.wrap (14 + r9)) (ByteArray.mk #[]) ([(c_T_spec_l10E false r12), (c_T_spec_l10E false r15)] : List (List V))).bind fun r18 => some (r18, o16))))) (spec_l1Cur_kindNum_j1 o7)) (cond (r6 == 1) ((spec_l10Node 3 (ByteArray.mk #[114, 101, 115, 111, 117, 114, 99, 101]) ([] : List (List V))).bind fun r20 => (spec_l10Node 4 (ByteArray.mk #[111, 119, 110, 101, 114]) ([(c_T_spec_l10E false r20)] : List (List V))).bind fun r22 => (spec_l10Node 4 (ByteArray.mk #[97, 103, 101]) ([(c_T_spec_l10E false r22)] : List (List V))).bind fun r24 => some (r24, o7)) (cond (r6 == 2) ((spec_l1Cur_pick 9 o7).bind fun q => (match q with | (r26, o27) => (spec_l10Lit (⟨2, (IntKind.i64.wrap (r26 - 3)), (ByteArray.mk #[]), (ByteArray.mk #[])⟩ : T_impl_Atom)).bind fun r29 => some (r29, o27))) (spec_l1Cur_kindNum_j1 o7))))
noncomputable def spec_l1Cur_kindNum (a0 : Int) (s0 : T_spec_l1Cur) : Option (T_spec_l10E × T_spec_l1Cur) := fixO (fun rec_spec_l1Cur_kindNum x => match x with | (a0, s0) => spec_l1Cur_kindNum_b rec_spec_l1Cur_kindNum a0 s0) (a0, s0)
theorem spec_l1Cur_kindNum_pb {rec_spec_l1Cur_kindNum : (Int × T_spec_l1Cur) → Option (T_spec_l10E × T_spec_l1Cur)} (Hrec_spec_l1Cur_kindNum : ∀ (c0 : Bool) {a0 : Int} {s0 : T_spec_l1Cur} {R0 : T_spec_l10E} {U0 : T_spec_l1Cur}, rec_spec_l1Cur_kindNum (a0, s0) = some (R0, U0) → St Go.Proofs.Tryz.prog 65 [.bx 0 0, .int .i64 a0] [.box (c_T_spec_l1Cur c0 s0)] (.agg (c_T_spec_l10E false R0)) [.box (c_T_spec_l1Cur c0 U0)]) (c0 : Bool) {a0 : Int} {s0 : T_spec_l1Cur} {R0 : T_spec_l10E} {U0 : T_spec_l1Cur} (H : spec_l1Cur_kindNum_b rec_spec_l1Cur_kindNum a0 s0 = some (R0, U0)) : St Go.Proofs.Tryz.prog 65 [.bx 0 0, .int .i64 a0] [.box (c_T_spec_l1Cur c0 s0)] (.agg (c_T_spec_l10E false R0)) [.box (c_T_spec_l1Cur c0 U0)] := by
 refine CallT.fin (CallT.of_TN (n := 41) Go.Proofs.Tryz.func65 rfl rfl rfl rfl ?_) rfl rfl ⟨(bels_iff.1 rfl), trivial⟩
 refine T.seq (T.region (TL.st rfl rfl rfl (o_alloc rfl ⟨_, rfl, rfl⟩) (TL.nil (thn_normal (T.cut (fun fr' σ' => ∃ (b1 : T_spec_l1Cur), fr' = [(4, .bx 1 0)] ∧ σ' = [.box (c_T_spec_l1Cur c0 b1), .box [.int .i64 0, .str (ByteArray.mk #[]), .int .i64 0, .int .i64 0, .str (ByteArray.mk #[]), .str (ByteArray.mk #[]), .int .i64 0, .nilS]] ∧ spec_l1Cur_kindNum_j1 b1 = some (R0, U0)) (T.pk ?_) ?_)))))
 ·skip
  refine T.seq (T.region (TL.st rfl rfl rfl (o_move rfl rfl) ?_))
  obtain ⟨⟨r6, o7⟩, h8, H⟩ := bind_s H
  refine TL.st rfl rfl rfl (o_callS [0] rfl en_14 rfl rfl (spec_l1Cur_pick_p c0 h8) rfl (by decide) (.cons _ _ _ _ rfl .nil) rfl rfl rfl) ?_
  refine TL.nil (thn_normal (T.block (T.seq (T.region (TL.st rfl rfl rfl (o_ari rfl rfl rfl rfl) (TL.st rfl rfl rfl (o_assign rfl rfl) (TL.nil (thn_normal ?_))))))))
  refine T.cond ((r6 == 0)) rfl (fun h => ?_) (fun h => ?_)
  ·replace H := cond_t h H
   refine T.seq (T.region (TL.st rfl rfl rfl (o_move rfl rfl) (TL.st rfl rfl rfl (o_ari rfl rfl rfl rfl) (TL.nil (thn_normal ?_)))))
   refine T.cond (decide (a0 > 0)) rfl (fun h => ?_) (fun h => ?_)
   ·replace H := cond_t h H
    refine T.seq (T.region (TL.st rfl rfl rfl (o_move rfl rfl) ?_))
    obtain ⟨⟨r9, o10⟩, h11, H⟩ := bind_s H
    refine TL.st rfl rfl rfl (o_callS [0] rfl en_14 rfl rfl (spec_l1Cur_pick_p c0 h11) rfl (by decide) (.cons _ _ _ _ rfl .nil) rfl rfl rfl) ?_
    refine TL.st rfl rfl rfl (o_ari rfl rfl rfl rfl) (TL.st rfl rfl rfl (o_move rfl rfl) (TL.st rfl rfl rfl (o_move rfl rfl) (TL.st rfl rfl rfl (o_ari rfl rfl rfl rfl) ?_)))
    obtain ⟨⟨r12, o13⟩, h14, H⟩ := bind_s H
    refine TL.st rfl rfl rfl (o_callS [0] rfl en_65 rfl rfl (Hrec_spec_l1Cur_kindNum c0 h14) rfl (by decide) (.cons _ _ _ _ rfl .nil) rfl rfl rfl) ?_
    refine TL.st rfl rfl rfl (o_move rfl rfl) (TL.st rfl rfl rfl (o_move rfl rfl) (TL.st rfl rfl rfl (o_ari rfl rfl rfl rfl) ?_))
    obtain ⟨⟨r15, o16⟩, h17, H⟩ := bind_s H
    refine TL.st rfl rfl rfl (o_callS [0] rfl en_65 rfl rfl (Hrec_spec_l1Cur_kindNum c0 h17) rfl (by decide) (.cons _ _ _ _ rfl .nil) rfl rfl rfl) ?_
    refine TL.st rfl rfl rfl (o_sliceIm rfl rfl tyS_67 ⟨_, rfl, rfl⟩ (by decide) rfl rfl rfl rfl rfl rfl) ?_
    obtain ⟨r18, h19, H⟩ := bind_s H
    refine TL.st rfl rfl rfl (o_callP rfl en_60 rfl rfl (.cons _ _ _ _ (.cl _ rfl) (.cons _ _ _ _ (.cl _ rfl) (.cons _ _ _ _ (.cl _ rfl) .nil))) (spec_l10Node_p false h19)) ?_
    refine TL.sn rfl rfl (o_storeBx rfl tyS_67 rfl rfl rfl rfl (Nat.le_of_ble_eq_true rfl) rfl) ?_
    refine TL.nil (thn_normal (T.ret (inB_ret ?_)))
    refine Pk.id (thn_ret ?_)
    cases some_i H
    exact ⟨trivial, _, (.cell _ _ _ _ _ _ _ _ _ _ rfl rfl tyS_67 (Nat.le_of_ble_eq_true rfl) rfl .nil), ⟨rfl, _, rfl⟩⟩
   ·replace H := cond_f h H
    refine T.skip (inB_normal ?_)
    exact Pk.go (fr' := [(4, .bx 1 0)]) (σ' := [.box (c_T_spec_l1Cur c0 o7), .box [.int .i64 0, .str (ByteArray.mk #[]), .int .i64 0, .int .i64 0, .str (ByteArray.mk #[]), .str (ByteArray.mk #[]), .int .i64 0, .nilS]]) _ rfl rfl ⟨(bels_iff.1 rfl), ⟨(bels_iff.1 rfl), trivial⟩⟩ (.cons 4 _ (.bx 1 0) _ rfl (.same _) rfl .nil) (thn_normal ⟨o7, rfl, rfl, H⟩)
  ·replace H := cond_f h H
   refine T.seq (T.region (TL.st rfl rfl rfl (o_ari rfl rfl rfl rfl) (TL.st rfl rfl rfl (o_assign rfl rfl) (TL.nil (thn_normal ?_)))))
   refine T.cond ((r6 == 1)) rfl (fun h => ?_) (fun h => ?_)
   ·replace H := cond_t h H
    refine T.seq (T.region ?_)
    obtain ⟨r20, h21, H⟩ := bind_s H
    refine TL.st rfl rfl rfl (o_callP rfl en_60 rfl rfl (.cons _ _ _ _ (.cl _ rfl) (.cons _ _ _ _ (.cl _ rfl) (.cons _ _ _ _ .nil .nil))) (spec_l10Node_p false h21)) ?_
    refine TL.st rfl rfl rfl (o_sliceIm rfl rfl tyS_67 ⟨_, rfl, rfl⟩ (by decide) rfl rfl rfl rfl rfl rfl) ?_
    obtain ⟨r22, h23, H⟩ := bind_s H
    refine TL.st rfl rfl rfl (o_callP rfl en_60 rfl rfl (.cons _ _ _ _ (.cl _ rfl) (.cons _ _ _ _ (.cl _ rfl) (.cons _ _ _ _ (.cl _ rfl) .nil))) (spec_l10Node_p false h23)) ?_
    refine TL.st rfl rfl rfl (o_sliceIm rfl rfl tyS_67 ⟨_, rfl, rfl⟩ (by decide) rfl rfl rfl rfl rfl rfl) ?_
    obtain ⟨r24, h25, H⟩ := bind_s H
    refine TL.st rfl rfl rfl (o_callP rfl en_60 rfl rfl (.cons _ _ _ _ (.cl _ rfl) (.cons _ _ _ _ (.cl _ rfl) (.cons _ _ _ _ (.cl _ rfl) .nil))) (spec_l10Node_p false h25)) ?_
    refine TL.sn rfl rfl (o_storeBx rfl tyS_67 rfl rfl rfl rfl (Nat.le_of_ble_eq_true rfl) rfl) ?_
    refine TL.nil (thn_normal (T.ret (inB_ret ?_)))
    refine Pk.id (thn_ret ?_)
    cases some_i H
    exact ⟨trivial, _, (.cell _ _ _ _ _ _ _ _ _ _ rfl rfl tyS_67 (Nat.le_of_ble_eq_true rfl) rfl .nil), ⟨rfl, _, rfl⟩⟩
   ·replace H := cond_f h H
    refine T.seq (T.region (TL.st rfl rfl rfl (o_ari rfl rfl rfl rfl) (TL.st rfl rfl rfl (o_assign rfl rfl) (TL.nil (thn_normal ?_)))))
    refine T.cond ((r6 == 2)) rfl (fun h => ?_) (fun h => ?_)
    ·replace H := cond_t h H
     refine T.seq (T.region (TL.st rfl rfl rfl (o_move rfl rfl) ?_))
     obtain ⟨⟨r26, o27⟩, h28, H⟩ := bind_s H
     refine TL.st rfl rfl rfl (o_callS [0] rfl en_14 rfl rfl (spec_l1Cur_pick_p c0 h28) rfl (by decide) (.cons _ _ _ _ rfl .nil) rfl rfl rfl) ?_
     refine TL.st rfl rfl rfl (o_ari rfl rfl rfl rfl) (TL.st rfl rfl rfl (o_build rfl ⟨_, fun _ => rfl, rfl⟩ rfl rfl rfl) ?_)
     obtain ⟨r29, h30, H⟩ := bind_s H
     refine TL.st rfl rfl rfl (o_callP rfl en_63 rfl rfl (.cons _ _ _ _ (.cl _ rfl) .nil) (spec_l10Lit_p  h30)) ?_
     refine TL.sn rfl rfl (o_storeBx rfl tyS_67 rfl rfl rfl rfl (Nat.le_of_ble_eq_true rfl) rfl) ?_
     refine TL.nil (thn_normal (T.ret (inB_ret ?_)))
     refine Pk.id (thn_ret ?_)
     cases some_i H
     exact ⟨trivial, _, (.cell _ _ _ _ _ _ _ _ _ _ rfl rfl tyS_67 (Nat.le_of_ble_eq_true rfl) rfl .nil), ⟨rfl, _, rfl⟩⟩
    ·replace H := cond_f h H
     refine T.skip (inB_normal ?_)
     exact Pk.go (fr' := [(4, .bx 1 0)]) (σ' := [.box (c_T_spec_l1Cur c0 o7), .box [.int .i64 0, .str (ByteArray.mk #[]), .int .i64 0, .int .i64 0, .str (ByteArray.mk #[]), .str (ByteArray.mk #[]), .int .i64 0, .nilS]]) _ rfl rfl ⟨(bels_iff.1 rfl), ⟨(bels_iff.1 rfl), trivial⟩⟩ (.cons 4 _ (.bx 1 0) _ rfl (.same _) rfl .nil) (thn_normal ⟨o7, rfl, rfl, H⟩)
 ·rintro _ _ ⟨b1, rfl, rfl, H⟩
  refine T.seq (T.region ?_)
  obtain ⟨r2, h3, H⟩ := bind_s H
  refine TL.st rfl rfl rfl (o_callP rfl en_60 rfl rfl (.cons _ _ _ _ (.cl _ rfl) (.cons _ _ _ _ (.cl _ rfl) (.cons _ _ _ _ .nil .nil))) (spec_l10Node_p false h3)) ?_
  refine TL.st rfl rfl rfl (o_sliceIm rfl rfl tyS_67 ⟨_, rfl, rfl⟩ (by decide) rfl rfl rfl rfl rfl rfl) ?_
  obtain ⟨r4, h5, H⟩ := bind_s H
  refine TL.st rfl rfl rfl (o_callP rfl en_60 rfl rfl (.cons _ _ _ _ (.cl _ rfl) (.cons _ _ _ _ (.cl _ rfl) (.cons _ _ _ _ (.cl _ rfl) .nil))) (spec_l10Node_p false h5)) ?_
  refine TL.sn rfl rfl (o_storeBx rfl tyS_67 rfl rfl rfl rfl (Nat.le_of_ble_eq_true rfl) rfl) ?_
  refine TL.nil (thn_normal (T.ret ?_))
  cases some_i H
  exact ⟨trivial, _, (.cell _ _ _ _ _ _ _ _ _ _ rfl rfl tyS_67 (Nat.le_of_ble_eq_true rfl) rfl .nil), ⟨rfl, _, rfl⟩⟩
theorem spec_l1Cur_kindNum_p (c0 : Bool) {a0 : Int} {s0 : T_spec_l1Cur} {R0 : T_spec_l10E} {U0 : T_spec_l1Cur} (H : spec_l1Cur_kindNum a0 s0 = some (R0, U0)) : St Go.Proofs.Tryz.prog 65 [.bx 0 0, .int .i64 a0] [.box (c_T_spec_l1Cur c0 s0)] (.agg (c_T_spec_l10E false R0)) [.box (c_T_spec_l1Cur c0 U0)] :=
 fixO_ind (fun x r => match x, r with | (a0, s0), (R0, U0) => ∀ (c0 : Bool), St Go.Proofs.Tryz.prog 65 [.bx 0 0, .int .i64 a0] [.box (c_T_spec_l1Cur c0 s0)] (.agg (c_T_spec_l10E false R0)) [.box (c_T_spec_l1Cur c0 U0)]) (fun rec_spec_l1Cur_kindNum Hrec x r h => match x, r, h with | (a0, s0), (R0, U0), h => fun c0 => spec_l1Cur_kindNum_pb (fun c0 {a0} {s0} {R0} {U0} h => Hrec (a0, s0) (R0, U0) h c0) c0 h) H c0
noncomputable def spec_l1Cur_kindBool_j2 (a0 : Int) (rec_spec_l1Cur_kindBool : (Int × T_spec_l1Cur) → Option (T_spec_l10E × T_spec_l1Cur)) (o2 : T_spec_l1Cur) (v4 : Int) (r5 : T_spec_l10E) (r7 : T_spec_l10E) (v9 : Bool) : Option (T_spec_l10E × T_spec_l1Cur) :=
  cond v9 ((spec_l1Cur_pick 2 o2).bind fun q => (match q with | (r10, o11) => (rec_spec_l1Cur_kindBool ((IntKind.i64.wrap (a0 - 1)), o11)).bind fun q => (match q with | (r13, o14) => (rec_spec_l1Cur_kindBool ((IntKind.i64.wrap (a0 - 1)), o14)).bind fun q => (match q with | (r16, o17) => (spec_l10Node (IntKind.i64.wrap (8 + r10)) (ByteArray.mk #[]) ([(c_T_spec_l10E false r13), (c_T_spec_l10E false r16)] : List (List V))).bind fun r19 => some (r19, o17))))) (cond (v4 == 2) ((rec_spec_l1Cur_kindBool ((IntKind.i64.wrap (a0 - 1)), o2)).bind fun q => (match q with | (r21, o22) => (rec_spec_l1Cur_kindBool ((IntKind.i64.wrap (a0 - 1)), o22)).bind fun q => (match q with | (r24, o25) => (rec_spec_l1Cur_kindBool ((IntKind.i64.wrap (a0 - 1)), o25)).bind fun q => (match q with | (r27, o28) => (spec_l10Node 10 (ByteArray.mk #[]) ([(c_T_spec_l10E false r21), (c_T_spec_l10E false r24), (c_T_spec_l10E false r27)] : List (List V))).bind fun r30 => some (r30, o28))))) (cond (v4 == 3) ((rec_spec_l1Cur_kindBool ((IntKind.i64.wrap (a0 - 1)), o2)).bind fun q => (match q with | (r32, o33) => (spec_l10Node 6 (ByteArray.mk #[]) ([(c_T_spec_l10E false r32)] : List (List V))).bind fun r35 => some (r35, o33))) (cond (v4 == 4) ((spec_l10Node 4 (ByteArray.mk #[98, 111, 115, 115]) ([(c_T_spec_l10E false r7)] : List (List V))).bind fun r37 => (spec_l10Node 5 (ByteArray.mk #[98, 111, 115, 115]) ([(c_T_spec_l10E false r7)] : List (List V))).bind fun r39 => (spec_l10Node 4 (ByteArray.mk #[97, 103, 101]) ([(c_T_spec_l10E false r37)] : List (List V))).bind fun r41 => (spec_l1Cur_kindNum 1 o2).bind fun q => (match q with | (r43, o44) => (spec_l10Node 13 (ByteArray.mk #[]) ([(c_T_spec_l10E false r41), (c_T_spec_l10E false r43)] : List (List V))).bind fun r46 => (spec_l10Node 8 (ByteArray.mk #[]) ([(c_T_spec_l10E false r39), (c_T_spec_l10E false r46)] : List (List V))).bind fun r48 => some (r48, o44))) (cond (v4 == 5) ((spec_l10Node 4 (ByteArray.mk #[116, 97, 103, 115]) ([(c_T_spec_l10E false r7)] : List (List V))).bind fun r50 => (spec_l1Cur_of ([(ByteArray.mk #[97]), (ByteArray.mk #[98])] : List ByteArray) o2).bind fun q => (match q with | (r52, o53) => (spec_l10Lit (⟨3, 0, r52, (ByteArray.mk #[])⟩ : T_impl_Atom)).bind fun r55 => (spec_l10Node 18 (ByteArray.mk #[]) ([(c_T_spec_l10E false r50), (c_T_spec_l10E false r55)] : List (List V))).bind fun r57 => some (r57, o53))) (cond (v4 == 6) ((spec_l10Node 4 (ByteArray.mk #[111, 112, 101, 110]) ([(c_T_spec_l10E false r5)] : List (List V))).bind fun r59 => some (r59, o2)) (cond (v4 == 7) ((spec_l10Node 4 (ByteArray.mk #[111, 119, 110, 101, 114]) ([(c_T_spec_l10E false r5)] : List (List V))).bind fun r61 => (spec_l10Node 11 (ByteArray.mk #[]) ([(c_T_spec_l10E false r61), (c_T_spec_l10E false r7)] : List (List V))).bind fun r63 => some (r63, o2)) (cond (v4 == 8) ((spec_l10Node 4 (ByteArray.mk #[100, 101, 112, 116]) ([(c_T_spec_l10E false r5)] : List (List V))).bind fun r65 => (spec_l10Node 20 (ByteArray.mk #[108, 42]) ([(c_T_spec_l10E false r65)] : List (List V))).bind fun r67 => some (r67, o2)) (cond (v4 == 9) ((spec_l1Cur_ofContext o2).bind fun q => (match q with | (r69, o70) => some (r69, o70))) ((spec_l1Cur_pick 3 o2).bind fun q => (match q with | (r72, o73) => (spec_l1Cur_kindNum 2 o73).bind fun q => (match q with | (r75, o76) => (spec_l1Cur_kindNum 1 o76).bind fun q => (match q with | (r78, o79) => (spec_l10Node (IntKind.i64.wrap (11 + r72)) (ByteArray.mk #[]) ([(c_T_spec_l10E false r75), (c_T_spec_l10E false r78)] : List (List V))).bind fun r81 => some (r81, o79)))))))))))))
noncomputable def spec_l1Cur_kindBool_j1 (a0 : Int) (rec_spec_l1Cur_kindBool : (Int × T_spec_l1Cur) → Option (T_spec_l10E × T_spec_l1Cur)) (o2 : T_spec_l1Cur) (v4 : Int) : Option (T_spec_l10E × T_spec_l1Cur) :=
  (spec_l10Node 3 (ByteArray.mk #[114, 101, 115, 111, 117, 114, 99, 101]) ([] : List (List V))).bind fun r5 => (spec_l10Node 3 (ByteArray.mk #[112, 114, 105, 110, 99, 105, 112, 97, 108]) ([] : List (List V))).bind fun r7 => cond (v4 == 0) (spec_l1Cur_kindBool_j2 a0 rec_spec_l1Cur_kindBool o2 v4 r5 r7 (v4 == 0)) (spec_l1Cur_kindBool_j2 a0 rec_spec_l1Cur_kindBool o2 v4 r5 r7 (v4 == 1))
noncomputable def spec_l1Cur_kindBool_b (rec_spec_l1Cur_kindBool : (Int × T_spec_l1Cur) → Option (T_spec_l10E × T_spec_l1Cur)) (a0 : Int) (s0 : T_spec_l1Cur) : Option (T_spec_l10E × T_spec_l1Cur) :=
  (spec_l1Cur_pick 11 s0).bind fun q => (match q with | (r1, o2) => cond ((a0 == 0) && decide (r1 < 4)) (spec_l1Cur_kindBool_j1 a0 rec_spec_l1Cur_kindBool o2 (IntKind.i64.wrap (r1 + 4))) (spec_l1Cur_kindBool_j1 a0 rec_spec_l1Cur_kindBool o2 r1))
noncomputable def spec_l1Cur_kindBool (a0 : Int) (s0 : T_spec_l1Cur) : Option (T_spec_l10E × T_spec_l1Cur) := fixO (fun rec_spec_l1Cur_kindBool x => match x with | (a0, s0) => spec_l1Cur_kindBool_b rec_spec_l1Cur_kindBool a0 s0) (a0, s0)
end Go.G36.ZL
