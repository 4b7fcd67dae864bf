import Derived.Test.YtnohlppnebcefaaGreatProg
import Derived.Test.YtnohlppnebcefaaGreatKzv
set_option linter.all false
set_option maxRecDepth 20000
set_option maxHeartbeats 4000000
namespace Go.G36.AB
open Go Go.Proofs

def c_int (k : IntKind) (x : Int) : List V := [.int k x]
def c_str (x : ByteArray) : List V := [.str x]
structure T_impl_Atom where
  Kind_ : Int
  Num_ : Int
  Text_ : ByteArray
  Type_ : ByteArray
deriving Inhabited
@[reducible] instance : BEq T_impl_Atom := ⟨fun a b => ((a.Kind_ == b.Kind_) && ((a.Num_ == b.Num_) && ((a.Text_.toList == b.Text_.toList) && ((a.Type_.toList == b.Type_.toList) && true))))⟩
def c_T_impl_Atom (b : Bool) (x : T_impl_Atom) : List V := [.int .i64 x.Kind_, .int .i64 x.Num_, .str x.Text_, .str x.Type_]
structure T_impl_Value where
  Kind_ : Int
  Atom_ : T_impl_Atom
  Items_ : (List T_impl_Atom)
  Names_ : (List ByteArray)
deriving Inhabited
def c_T_impl_Value (b : Bool) (x : T_impl_Value) : List V := ([.int .i64 x.Kind_] ++ (c_T_impl_Atom b x.Atom_) ++ [.im b (x.Items_.map (c_T_impl_Atom false)), .im b (x.Names_.map (c_str))])
structure T_impl_Thing where
  Ref_ : T_impl_Atom
  Parents_ : (List T_impl_Atom)
  Names_ : (List ByteArray)
  Values_ : (List T_impl_Value)
deriving Inhabited
def c_T_impl_Thing (b : Bool) (x : T_impl_Thing) : List V := ((c_T_impl_Atom b x.Ref_) ++ [.im b (x.Parents_.map (c_T_impl_Atom false)), .im b (x.Names_.map (c_str)), .im b (x.Values_.map (c_T_impl_Value false))])
structure T_spec_l1Cur where
  code_ : (List Int)
  at_ : Int
  seed_ : Int
deriving Inhabited
def c_T_spec_l1Cur (b : Bool) (x : T_spec_l1Cur) : List V := [.im b (x.code_.map (c_int .u8)), .int .i64 x.at_, .int .u64 x.seed_]
structure T_impl_AttrKind where
  Name_ : ByteArray
  Kind_ : ByteArray
  Must_ : Bool
deriving Inhabited
def c_T_impl_AttrKind (b : Bool) (x : T_impl_AttrKind) : List V := [.str x.Name_, .str x.Kind_, .bool x.Must_]
structure T_impl_ThingType where
  Name_ : ByteArray
  Ups_ : (List ByteArray)
  Attrs_ : (List T_impl_AttrKind)
deriving Inhabited
def c_T_impl_ThingType (b : Bool) (x : T_impl_ThingType) : List V := [.str x.Name_, .im b (x.Ups_.map (c_str)), .im b (x.Attrs_.map (c_T_impl_AttrKind false))]
structure T_impl_ActionType where
  Id_ : ByteArray
  Principals_ : (List ByteArray)
  Resources_ : (List ByteArray)
  Context_ : (List T_impl_AttrKind)
deriving Inhabited
def c_T_impl_ActionType (b : Bool) (x : T_impl_ActionType) : List V := [.str x.Id_, .im b (x.Principals_.map (c_str)), .im b (x.Resources_.map (c_str)), .im b (x.Context_.map (c_T_impl_AttrKind false))]
structure T_impl_PolSchema where
  Things_ : (List T_impl_ThingType)
  Actions_ : (List T_impl_ActionType)
deriving Inhabited
def c_T_impl_PolSchema (b : Bool) (x : T_impl_PolSchema) : List V := [.im b (x.Things_.map (c_T_impl_ThingType false)), .im b (x.Actions_.map (c_T_impl_ActionType false))]
structure T_impl_Request where
  Principal_ : T_impl_Atom
  Action_ : T_impl_Atom
  Resource_ : T_impl_Atom
  Names_ : (List ByteArray)
  Values_ : (List T_impl_Value)
deriving Inhabited
def c_T_impl_Request (b : Bool) (x : T_impl_Request) : List V := ((c_T_impl_Atom b x.Principal_) ++ (c_T_impl_Atom b x.Action_) ++ (c_T_impl_Atom b x.Resource_) ++ [.im b (x.Names_.map (c_str)), .im b (x.Values_.map (c_T_impl_Value false))])
structure T_impl_Head where
  Kind_ : Int
  Atom_ : T_impl_Atom
  Type_ : ByteArray
deriving Inhabited
def c_T_impl_Head (b : Bool) (x : T_impl_Head) : List V := ([.int .i64 x.Kind_] ++ (c_T_impl_Atom b x.Atom_) ++ [.str x.Type_])
@[reducible] instance genvI : Genv := { genv := fun g => match g with | _ => none }

theorem tyS_63 : TyS Tryz.prog 63 true 7 := ⟨rfl, rfl⟩
theorem tyS_25 : TyS Tryz.prog 25 true 4 := ⟨rfl, rfl⟩
theorem tyS_3 : TyS Tryz.prog 3 false 1 := ⟨rfl, rfl⟩
theorem tyS_9 : TyS Tryz.prog 9 false 1 := ⟨rfl, rfl⟩
noncomputable def impl_yprinted_l1 (a0 : ByteArray) : Int → Option (Int ⊕ (Unit ⊕ Bool)) := fun s => match s with
  | v1 => cond (decide (v1 < (a0.size : Int))) ((idxS a0 v1).bind fun b4 => (gdO (!(decide (b4 < 32))) (idxS a0 v1)).bind fun b6 => cond (decide (b4 < 32) || decide (b6 > 126)) (some (.inr (.inr false))) (some (.inl (IntKind.i64.wrap (v1 + 1))))) (some (.inr (.inl ())))
noncomputable def impl_yprinted (a0 : ByteArray) (a1 : Int) (a2 : Int) : Option Bool :=
  cond (decide ((a0.size : Int) < a1) || decide ((a0.size : Int) > a2)) (some false) ((loopO (impl_yprinted_l1 a0) 0).bind fun q8 => (match q8 with | .inl _ => some true | .inr q2 => some q2))
theorem impl_yprinted_p  {a0 : ByteArray} {a1 : Int} {a2 : Int} {R0 : Bool} (H : impl_yprinted a0 a1 a2 = some R0) : Pure Tryz.prog 69 [.str a0, .int .i64 a1, .int .i64 a2] (.bool R0) := by
 refine CallT.of_TN (n := 34) Tryz.func69 rfl rfl rfl rfl ?_
 refine au 13 ?_
 refine TL.gcq rfl rfl rfl (.bool _) rfl rfl (fun h => o_lenS rfl rfl (gv h rfl)) ?_
 refine TL.gcq rfl rfl rfl (.bool _) rfl rfl (fun h => o_move rfl rfl) ?_
 refine TL.gcq rfl rfl rfl (.bool _) rfl rfl (fun h => o_ari rfl (gv h rfl) (gv h rfl) rfl) ?_
 refine au 2 ?_
 refine T.cH H (fun H h => ?_) (fun H h => ?_)
 ·refine au 5 ?_
  refine thn_ret ?_
  cases some_i H
  exact ⟨trivial, _, (.tmp _ _ _ _ rfl .nil), (.cl _ rfl)⟩
 ·refine au 9 ?_
  obtain ⟨q8, h9, H⟩ := bind_s H
  refine T.lq (fun s => match s with | v1 => [(0, .str a0), (19, .int .i64 (a0.size : Int)), (20, .int .i64 v1)]) (fun s => match s with | v1 => []) (fun q ex fr σ => match q with | .inl _ => ex = .exit 0 ∧ fr = [] ∧ σ = [] | .inr q2 => ex = .ret ∧ RetN Tryz.prog [.tmp 6] (fun v τ => Told τ v (.bool q2)) .ret fr σ) h9 ?_ ?_
  ·rintro v1 y3 H
   refine au 5 ?_
   refine T.cH H (fun H h => ?_) (fun H h => ?_)
   ·refine au 12 ?_
    obtain ⟨b4, h5, H⟩ := bind_s H
    refine TL.st rfl rfl rfl (o_ixs rfl rfl rfl rfl h5) ?_
    refine au 4 ?_
    obtain ⟨b6, h7, H⟩ := bind_s H
    refine TL.gcq rfl rfl rfl (.bool _) rfl rfl (fun h => o_ixs rfl rfl (gv h rfl) (gv h rfl) (gdO_t h7 h)) ?_
    refine au 3 ?_
    refine T.cH H (fun H h => ?_) (fun H h => ?_)
    ·refine au 5 ?_
     refine inB_ret (thn_ret ?_)
     exact Pk.id (thn_ret ⟨.inr false, (some_i H).symm, rfl, ⟨trivial, _, (.tmp _ _ _ _ rfl .nil), (.cl _ rfl)⟩⟩)
    ·refine au 5 ?_
     exact Pk.of (thn_normal ⟨(IntKind.i64.wrap (v1 + 1)), (some_i H).symm, rfl, rfl⟩)
   ·refine T.exit ?_
    refine thn_exit ?_
    exact Pk.of (thn_exit ⟨.inl (), (some_i H).symm, rfl, rfl, rfl⟩)
  ·rcases q8 with ⟨⟩ | q2
   ·rintro _ _ _ ⟨rfl, rfl, rfl⟩
    refine inB_here ?_
    refine au 5 ?_
    cases some_i H
    exact ⟨trivial, _, (.tmp _ _ _ _ rfl .nil), (.cl _ rfl)⟩
   ·rintro _ fr1 σ1 ⟨rfl, hr⟩
    refine inB_ret (thn_ret ?_)
    cases some_i H
    exact hr
theorem en_69 : En Tryz.prog 69 := .of Tryz.func69 rfl rfl
noncomputable def impl_ydigit (a0 : Int) : Option Bool :=
  some (decide (a0 ≥ 48) && decide (a0 ≤ 57))
theorem impl_ydigit_p  {a0 : Int} {R0 : Bool} (H : impl_ydigit a0 = some R0) : Pure Tryz.prog 90 [.int .u8 a0] (.bool R0) := by
 refine CallT.of_TN (n := 9) Tryz.func90 rfl rfl rfl rfl ?_
 refine au 15 ?_
 cases some_i H
 exact ⟨trivial, _, (.tmp _ _ _ _ rfl .nil), (.cl _ rfl)⟩
theorem en_90 : En Tryz.prog 90 := .of Tryz.func90 rfl rfl
noncomputable def impl_yletter (a0 : Int) : Option Bool :=
  some ((decide (a0 ≥ 97) && decide (a0 ≤ 122)) || (decide (a0 ≥ 65) && decide (a0 ≤ 90)))
theorem impl_yletter_p  {a0 : Int} {R0 : Bool} (H : impl_yletter a0 = some R0) : Pure Tryz.prog 106 [.int .u8 a0] (.bool R0) := by
 refine CallT.of_TN (n := 17) Tryz.func106 rfl rfl rfl rfl ?_
 refine au 15 ?_
 refine TL.gcq rfl rfl rfl (.bool _) rfl rfl (fun h => o_move rfl (gv h rfl)) ?_
 refine TL.gcq rfl rfl rfl (.gd _ _) rfl rfl (fun h => o_move rfl rfl) ?_
 refine TL.gcq rfl rfl rfl (.gd _ _) rfl rfl (fun h => o_ari rfl (gv h rfl) rfl rfl) ?_
 refine TL.gcq rfl rfl rfl (.bool _) rfl rfl (fun h => o_and rfl (gv h rfl) rfl (fun k => Gd_t (andi h k)) rfl) ?_
 refine au 4 ?_
 cases some_i H
 exact ⟨trivial, _, (.tmp _ _ _ _ rfl .nil), (.cl _ rfl)⟩
theorem en_106 : En Tryz.prog 106 := .of Tryz.func106 rfl rfl
noncomputable def impl_ywordByte (a0 : Int) : Option Bool :=
  (impl_yletter a0).bind fun r1 => (gdO (!r1) (impl_ydigit a0)).bind fun r3 => some ((r1 || r3) || (a0 == 95))
theorem impl_ywordByte_p  {a0 : Int} {R0 : Bool} (H : impl_ywordByte a0 = some R0) : Pure Tryz.prog 91 [.int .u8 a0] (.bool R0) := by
 refine CallT.of_TN (n := 13) Tryz.func91 rfl rfl rfl rfl ?_
 refine au 7 ?_
 obtain ⟨r1, h2, H⟩ := bind_s H
 refine TL.st rfl rfl rfl (o_callP rfl en_106 rfl rfl (.cons _ _ _ _ (.cl _ rfl) .nil) (impl_yletter_p  h2)) ?_
 refine au 2 ?_
 obtain ⟨r3, h4, H⟩ := bind_s H
 refine TL.gcq rfl rfl rfl (.bool _) rfl rfl (fun h => o_callP rfl en_90 rfl (evl_1 (gv h rfl)) (.cons _ _ _ _ (.cl _ rfl) .nil) (impl_ydigit_p  (gdO_t h4 h))) ?_
 refine au 8 ?_
 cases some_i H
 exact ⟨trivial, _, (.tmp _ _ _ _ rfl .nil), (.cl _ rfl)⟩
theorem en_91 : En Tryz.prog 91 := .of Tryz.func91 rfl rfl
noncomputable def impl_GoodName_l1 (a0 : ByteArray) : Int → Option (Int ⊕ (Unit ⊕ Bool)) := fun s => match s with
  | v5 => cond (decide (v5 < (a0.size : Int))) ((idxS a0 v5).bind fun b8 => (impl_ywordByte b8).bind fun r10 => cond (!r10) (some (.inr (.inr false))) (some (.inl (IntKind.i64.wrap (v5 + 1))))) (some (.inr (.inl ())))
noncomputable def impl_GoodName (a0 : ByteArray) : Option Bool :=
  (gdO (!((a0.toList == e0.toList) || decide ((a0.size : Int) > 30))) (idxS a0 0)).bind fun b1 => (gdO (!((a0.toList == e0.toList) || decide ((a0.size : Int) > 30))) (impl_ydigit b1)).bind fun r3 => cond (((a0.toList == e0.toList) || decide ((a0.size : Int) > 30)) || r3) (some false) ((loopO (impl_GoodName_l1 a0) 0).bind fun q12 => (match q12 with | .inl _ => some true | .inr q6 => some q6))
theorem impl_GoodName_p  {a0 : ByteArray} {R0 : Bool} (H : impl_GoodName a0 = some R0) : Pure Tryz.prog 55 [.str a0] (.bool R0) := by
 refine CallT.of_TN (n := 27) Tryz.func55 rfl rfl rfl rfl ?_
 refine au 11 ?_
 refine TL.gcq rfl rfl rfl (.bool _) rfl rfl (fun h => o_lenS rfl rfl (gv h rfl)) ?_
 refine au 4 ?_
 obtain ⟨b1, h2, H⟩ := bind_s H
 refine TL.gcq rfl rfl rfl (.bool _) rfl rfl (fun h => o_ixs rfl rfl (gv h rfl) rfl (gdO_t h2 h)) ?_
 obtain ⟨r3, h4, H⟩ := bind_s H
 refine TL.gcq rfl rfl rfl (.bool _) rfl rfl (fun h => o_callP rfl en_90 rfl (evl_1 (gv h rfl)) (.cons _ _ _ _ (.cl _ rfl) .nil) (impl_ydigit_p  (gdO_t h4 h))) ?_
 refine au 2 ?_
 refine T.cH H (fun H h => ?_) (fun H h => ?_)
 ·refine au 5 ?_
  refine thn_ret ?_
  cases some_i H
  exact ⟨trivial, _, (.tmp _ _ _ _ rfl .nil), (.cl _ rfl)⟩
 ·refine au 9 ?_
  obtain ⟨q12, h13, H⟩ := bind_s H
  refine T.lq (fun s => match s with | v5 => [(0, .str a0), (17, .int .i64 (a0.size : Int)), (18, .int .i64 v5)]) (fun s => match s with | v5 => []) (fun q ex fr σ => match q with | .inl _ => ex = .exit 0 ∧ fr = [] ∧ σ = [] | .inr q6 => ex = .ret ∧ RetN Tryz.prog [.tmp 2] (fun v τ => Told τ v (.bool q6)) .ret fr σ) h13 ?_ ?_
  ·rintro v5 y7 H
   refine au 5 ?_
   refine T.cH H (fun H h => ?_) (fun H h => ?_)
   ·refine au 12 ?_
    obtain ⟨b8, h9, H⟩ := bind_s H
    refine TL.st rfl rfl rfl (o_ixs rfl rfl rfl rfl h9) ?_
    obtain ⟨r10, h11, H⟩ := bind_s H
    refine TL.st rfl rfl rfl (o_callP rfl en_91 rfl rfl (.cons _ _ _ _ (.cl _ rfl) .nil) (impl_ywordByte_p  h11)) ?_
    refine au 2 ?_
    refine T.cH H (fun H h => ?_) (fun H h => ?_)
    ·refine au 5 ?_
     refine inB_ret (thn_ret ?_)
     exact Pk.id (thn_ret ⟨.inr false, (some_i H).symm, rfl, ⟨trivial, _, (.tmp _ _ _ _ rfl .nil), (.cl _ rfl)⟩⟩)
    ·refine au 5 ?_
     exact Pk.of (thn_normal ⟨(IntKind.i64.wrap (v5 + 1)), (some_i H).symm, rfl, rfl⟩)
   ·refine T.exit ?_
    refine thn_exit ?_
    exact Pk.of (thn_exit ⟨.inl (), (some_i H).symm, rfl, rfl, rfl⟩)
  ·rcases q12 with ⟨⟩ | q6
   ·rintro _ _ _ ⟨rfl, rfl, rfl⟩
    refine inB_here ?_
    refine au 5 ?_
    cases some_i H
    exact ⟨trivial, _, (.tmp _ _ _ _ rfl .nil), (.cl _ rfl)⟩
   ·rintro _ fr1 σ1 ⟨rfl, hr⟩
    refine inB_ret (thn_ret ?_)
    cases some_i H
    exact hr
theorem en_55 : En Tryz.prog 55 := .of Tryz.func55 rfl rfl
noncomputable def impl_GoodAtom_j1 (a0 : T_impl_Atom) (v1 : Bool) : Option Bool :=
  cond v1 (some ((a0.Text_.toList == e0.toList) && (a0.Type_.toList == e0.toList))) (cond (a0.Kind_ == 3) ((gdO ((a0.Num_ == 0) && (a0.Type_.toList == e0.toList)) (impl_yprinted a0.Text_ 0 200)).bind fun r2 => some (((a0.Num_ == 0) && (a0.Type_.toList == e0.toList)) && r2)) (cond (a0.Kind_ == 4) ((gdO (a0.Num_ == 0) (impl_GoodName a0.Type_)).bind fun r4 => (gdO ((a0.Num_ == 0) && r4) (impl_yprinted a0.Text_ 1 200)).bind fun r6 => some (((a0.Num_ == 0) && r4) && r6)) (cond (a0.Kind_ == 6) (cond ((!((a0.Text_.toList == e0.toList) && (a0.Type_.toList == e0.toList))) || decide (a0.Num_ < 0)) (some false) ((gdO (decide ((Int.tmod a0.Num_ 64) ≤ 32) && decide ((IntKind.i64.wrap (Int.tdiv a0.Num_ 64)) < 4294967296)) (nn (IntKind.i64.wrap (32 - (Int.tmod a0.Num_ 64))))).bind fun u8 => (gdO (decide ((Int.tmod a0.Num_ 64) ≤ 32) && decide ((IntKind.i64.wrap (Int.tdiv a0.Num_ 64)) < 4294967296)) (nz (IntKind.i64.wrap (1 * 2 ^ (min (Int.toNat (IntKind.i64.wrap (32 - (Int.tmod a0.Num_ 64)))) IntKind.i64.bits))))).bind fun z10 => some ((decide ((Int.tmod a0.Num_ 64) ≤ 32) && decide ((IntKind.i64.wrap (Int.tdiv a0.Num_ 64)) < 4294967296)) && ((Int.tmod (IntKind.i64.wrap (Int.tdiv a0.Num_ 64)) (IntKind.i64.wrap (1 * 2 ^ (min (Int.toNat (IntKind.i64.wrap (32 - (Int.tmod a0.Num_ 64)))) IntKind.i64.bits)))) == 0)))) (cond (a0.Kind_ == 7) (some ((((a0.Text_.toList == e0.toList) && (a0.Type_.toList == e0.toList)) && decide (a0.Num_ ≥ (-100000000000))) && decide (a0.Num_ ≤ 100000000000))) (some false)))))
noncomputable def impl_GoodAtom (a0 : T_impl_Atom) : Option Bool :=
  cond (a0.Kind_ == 1) (some (((a0.Text_.toList == e0.toList) && (a0.Type_.toList == e0.toList)) && ((a0.Num_ == 0) || (a0.Num_ == 1)))) (cond (a0.Kind_ == 2) (impl_GoodAtom_j1 a0 (a0.Kind_ == 2)) (impl_GoodAtom_j1 a0 (a0.Kind_ == 5)))
theorem impl_GoodAtom_p  {a0 : T_impl_Atom} {R0 : Bool} (H : impl_GoodAtom a0 = some R0) : Pure Tryz.prog 42 [.agg (c_T_impl_Atom false a0)] (.bool R0) := by
 refine CallT.of_TN (n := 105) Tryz.func42 rfl rfl rfl rfl ?_
 refine au 13 ?_
 refine TL.gcq rfl rfl rfl (.bool _) rfl rfl (fun h => o_str rfl (gv h rfl) rfl rfl) ?_
 refine au 15 ?_
 refine T.cH H (fun H h => ?_) (fun H h => ?_)
 ·refine au 7 ?_
  refine TL.gcq rfl rfl rfl (.bool _) rfl rfl (fun h => o_move rfl (gv h rfl)) ?_
  refine TL.gcq rfl rfl rfl (.gd _ _) rfl rfl (fun h => o_fieldAddr rfl rfl rfl tyS_3 (by decide) rfl rfl ⟨_, rfl, Nat.le_of_ble_eq_true rfl⟩) ?_
  refine TL.gcq rfl rfl rfl (.gd _ _) rfl rfl (fun h => o_loadBx rfl tyS_3 (gv h rfl) rfl (nb rfl) rfl) ?_
  refine TL.gcq rfl rfl rfl (.gd _ _) rfl rfl (fun h => o_ari rfl (gv h rfl) rfl rfl) ?_
  refine TL.gcq rfl rfl rfl (.bool _) rfl rfl (fun h => o_or rfl (gv h rfl) rfl rfl (fun k => Gd_t (andi h k))) ?_
  refine au 4 ?_
  refine inB_ret (thn_ret ?_)
  cases some_i H
  exact ⟨trivial, _, (.tmp _ _ _ _ rfl .nil), (.cl _ rfl)⟩
 ·refine T.cut (fun fr' σ' => ∃ (v1 : Bool), fr' = [(1, .bx 0 0), (3, .bool ((a0.Text_.toList == e0.toList) && (a0.Type_.toList == e0.toList))), (15, .int .i64 a0.Kind_), (29, .bool v1)] ∧ σ' = [.box (c_T_impl_Atom false a0)] ∧ impl_GoodAtom_j1 a0 v1 = some R0) (T.pk ?_) ?_
  ·skip
   refine au 5 ?_
   refine T.cH H (fun H h => ?_) (fun H h => ?_)
   ·refine T.skip ?_
    exact Pk.of (thn_normal ⟨(a0.Kind_ == 2), rfl, rfl, H⟩)
   ·refine au 4 ?_
    exact Pk.of (thn_normal ⟨(a0.Kind_ == 5), rfl, rfl, H⟩)
  ·rintro _ _ ⟨v1, rfl, rfl, H⟩
   refine T.cH H (fun H h => ?_) (fun H h => ?_)
   ·refine au 6 ?_
    refine inB_ret (thn_ret ?_)
    cases some_i H
    exact ⟨trivial, _, (.tmp _ _ _ _ rfl .nil), (.cl _ rfl)⟩
   ·refine au 5 ?_
    refine T.cH H (fun H h => ?_) (fun H h => ?_)
    ·refine au 8 ?_
     refine TL.gcq rfl rfl rfl (.bool _) rfl rfl (fun h => o_str rfl (gv h rfl) rfl rfl) ?_
     refine au 4 ?_
     obtain ⟨r2, h3, H⟩ := bind_s H
     refine TL.gcq rfl rfl rfl (.bool _) rfl rfl (fun h => o_callP rfl en_69 rfl (evl_3 (gv h rfl) rfl rfl) (.cons _ _ _ _ (.cl _ rfl) (.cons _ _ _ _ (.cl _ rfl) (.cons _ _ _ _ (.cl _ rfl) .nil))) (impl_yprinted_p  (gdO_t h3 h))) ?_
     refine au 4 ?_
     refine inB_ret (thn_ret ?_)
     cases some_i H
     exact ⟨trivial, _, (.tmp _ _ _ _ rfl .nil), (.cl _ rfl)⟩
    ·refine au 5 ?_
     refine T.cH H (fun H h => ?_) (fun H h => ?_)
     ·refine au 8 ?_
      obtain ⟨r4, h5, H⟩ := bind_s H
      refine TL.gcq rfl rfl rfl (.bool _) rfl rfl (fun h => o_callP rfl en_55 rfl (evl_1 (gv h rfl)) (.cons _ _ _ _ (.cl _ rfl) .nil) (impl_GoodName_p  (gdO_t h5 h))) ?_
      refine au 4 ?_
      obtain ⟨r6, h7, H⟩ := bind_s H
      refine TL.gcq rfl rfl rfl (.bool _) rfl rfl (fun h => o_callP rfl en_69 rfl (evl_3 (gv h rfl) rfl rfl) (.cons _ _ _ _ (.cl _ rfl) (.cons _ _ _ _ (.cl _ rfl) (.cons _ _ _ _ (.cl _ rfl) .nil))) (impl_yprinted_p  (gdO_t h7 h))) ?_
      refine au 4 ?_
      refine inB_ret (thn_ret ?_)
      cases some_i H
      exact ⟨trivial, _, (.tmp _ _ _ _ rfl .nil), (.cl _ rfl)⟩
     ·refine au 5 ?_
      refine T.cH H (fun H h => ?_) (fun H h => ?_)
      ·refine au 11 ?_
       refine T.cH H (fun H h => ?_) (fun H h => ?_)
       ·refine au 5 ?_
        refine thn_ret (inB_ret (thn_ret ?_))
        cases some_i H
        exact ⟨trivial, _, (.tmp _ _ _ _ rfl .nil), (.cl _ rfl)⟩
       ·refine au 2 ?_
        refine T.drawn rfl ?_
        refine ad 2 ?_
        refine TD.qs rfl rfl (fun _ => o_quo rfl rfl rfl (by decide)) ?_
        refine ad 2 ?_
        refine TD.qs rfl rfl (fun _ => o_rem rfl rfl rfl (by decide)) ?_
        refine ad 2 ?_
        refine TD.nil ⟨rfl, ?_⟩
        refine au 11 ?_
        refine TL.gcq rfl rfl rfl (.bool _) rfl rfl (fun h => o_ari rfl rfl (gv h rfl) rfl) ?_
        obtain ⟨u8, h9, H⟩ := bind_s H
        refine TL.gcq rfl rfl rfl (.bool _) rfl rfl (fun h => o_shl rfl rfl (gv h rfl) (nn_s (gdO_t h9 h))) ?_
        obtain ⟨z10, h11, H⟩ := bind_s H
        refine TL.gcq rfl rfl rfl (.bool _) rfl rfl (fun h => o_rem rfl (gv h rfl) (gv h rfl) (nz_s (gdO_t h11 h)).1) ?_
        refine au 5 ?_
        refine inB_ret (thn_ret ?_)
        cases some_i H
        exact ⟨trivial, _, (.tmp _ _ _ _ rfl .nil), (.cl _ rfl)⟩
      ·refine au 5 ?_
       refine T.cH H (fun H h => ?_) (fun H h => ?_)
       ·refine au 16 ?_
        refine inB_ret (thn_ret ?_)
        cases some_i H
        exact ⟨trivial, _, (.tmp _ _ _ _ rfl .nil), (.cl _ rfl)⟩
       ·refine au 6 ?_
        cases some_i H
        exact ⟨trivial, _, (.tmp _ _ _ _ rfl .nil), (.cl _ rfl)⟩
theorem en_42 : En Tryz.prog 42 := .of Tryz.func42 rfl rfl
noncomputable def impl_ygoodRef (a0 : T_impl_Atom) : Option Bool :=
  (gdO (a0.Kind_ == 4) (impl_GoodAtom a0)).bind fun r1 => some ((a0.Kind_ == 4) && r1)
theorem impl_ygoodRef_p  {a0 : T_impl_Atom} {R0 : Bool} (H : impl_ygoodRef a0 = some R0) : Pure Tryz.prog 17 [.agg (c_T_impl_Atom false a0)] (.bool R0) := by
 refine CallT.of_TN (n := 10) Tryz.func17 rfl rfl rfl rfl ?_
 refine au 11 ?_
 refine TL.gcq rfl rfl rfl (.bool _) rfl rfl (fun h => o_loadBx rfl tyS_25 rfl rfl (nb rfl) rfl) ?_
 obtain ⟨r1, h2, H⟩ := bind_s H
 refine TL.gcq rfl rfl rfl (.bool _) rfl rfl (fun h => o_callP rfl en_42 rfl (evl_1 (gv h rfl)) (.cons _ _ _ _ (.cl _ rfl) .nil) (impl_GoodAtom_p  (gdO_t h2 h))) ?_
 refine au 4 ?_
 cases some_i H
 exact ⟨trivial, _, (.tmp _ _ _ _ rfl .nil), (.cl _ rfl)⟩
theorem en_17 : En Tryz.prog 17 := .of Tryz.func17 rfl rfl
noncomputable def cmp_isNaN (a0 : Int) : Option Bool :=
  some (a0 != a0)
theorem cmp_isNaN_p  {a0 : Int} {R0 : Bool} (H : cmp_isNaN a0 = some R0) : Pure Tryz.prog 82 [.int .i64 a0] (.bool R0) := by
 refine CallT.of_TN (n := 6) Tryz.func82 rfl rfl rfl rfl ?_
 refine au 12 ?_
 cases some_i H
 exact ⟨trivial, _, (.tmp _ _ _ _ rfl .nil), (.cl _ rfl)⟩
theorem en_82 : En Tryz.prog 82 := .of Tryz.func82 rfl rfl
noncomputable def cmp_Compare (a0 : Int) (a1 : Int) : Option Int :=
  (cmp_isNaN a0).bind fun r1 => (cmp_isNaN a1).bind fun r3 => cond r1 (cond r3 (some 0) (some (-1))) (cond r3 (some 1) (cond (decide (a0 < a1)) (some (-1)) (cond (decide (a0 > a1)) (some 1) (some 0))))
theorem cmp_Compare_p  {a0 : Int} {a1 : Int} {R0 : Int} (H : cmp_Compare a0 a1 = some R0) : Pure Tryz.prog 47 [.int .i64 a0, .int .i64 a1] (.int .i64 R0) := by
 refine CallT.of_TN (n := 20) Tryz.func47 rfl rfl rfl rfl ?_
 refine au 7 ?_
 obtain ⟨r1, h2, H⟩ := bind_s H
 refine TL.st rfl rfl rfl (o_callP rfl en_82 rfl rfl (.cons _ _ _ _ (.cl _ rfl) .nil) (cmp_isNaN_p  h2)) ?_
 refine au 5 ?_
 obtain ⟨r3, h4, H⟩ := bind_s H
 refine TL.st rfl rfl rfl (o_callP rfl en_82 rfl rfl (.cons _ _ _ _ (.cl _ rfl) .nil) (cmp_isNaN_p  h4)) ?_
 refine au 7 ?_
 refine T.cH H (fun H h => ?_) (fun H h => ?_)
 ·refine au 5 ?_
  refine T.cH H (fun H h => ?_) (fun H h => ?_)
  ·refine au 5 ?_
   refine thn_ret (thn_ret ?_)
   cases some_i H
   exact ⟨trivial, _, (.tmp _ _ _ _ rfl .nil), (.cl _ rfl)⟩
  ·refine au 6 ?_
   refine thn_ret ?_
   cases some_i H
   exact ⟨trivial, _, (.tmp _ _ _ _ rfl .nil), (.cl _ rfl)⟩
 ·refine au 6 ?_
  refine T.cH H (fun H h => ?_) (fun H h => ?_)
  ·refine au 5 ?_
   refine thn_ret ?_
   cases some_i H
   exact ⟨trivial, _, (.tmp _ _ _ _ rfl .nil), (.cl _ rfl)⟩
  ·refine au 8 ?_
   refine T.cH H (fun H h => ?_) (fun H h => ?_)
   ·refine au 5 ?_
    refine thn_ret ?_
    cases some_i H
    exact ⟨trivial, _, (.tmp _ _ _ _ rfl .nil), (.cl _ rfl)⟩
   ·refine au 8 ?_
    refine T.cH H (fun H h => ?_) (fun H h => ?_)
    ·refine au 5 ?_
     refine thn_ret ?_
     cases some_i H
     exact ⟨trivial, _, (.tmp _ _ _ _ rfl .nil), (.cl _ rfl)⟩
    ·refine au 6 ?_
     cases some_i H
     exact ⟨trivial, _, (.tmp _ _ _ _ rfl .nil), (.cl _ rfl)⟩
theorem en_47 : En Tryz.prog 47 := .of Tryz.func47 rfl rfl
noncomputable def cmp_isNaNx (a0 : ByteArray) : Option Bool :=
  some (!(a0.toList == a0.toList))
theorem cmp_isNaNx_p  {a0 : ByteArray} {R0 : Bool} (H : cmp_isNaNx a0 = some R0) : Pure Tryz.prog 83 [.str a0] (.bool R0) := by
 refine CallT.of_TN (n := 6) Tryz.func83 rfl rfl rfl rfl ?_
 refine au 12 ?_
 cases some_i H
 exact ⟨trivial, _, (.tmp _ _ _ _ rfl .nil), (.cl _ rfl)⟩
theorem en_83 : En Tryz.prog 83 := .of Tryz.func83 rfl rfl
noncomputable def cmp_Comparex (a0 : ByteArray) (a1 : ByteArray) : Option Int :=
  (cmp_isNaNx a0).bind fun r1 => (cmp_isNaNx a1).bind fun r3 => cond r1 (cond r3 (some 0) (some (-1))) (cond r3 (some 1) (cond (Op.bytesLess a0.toList a1.toList) (some (-1)) (cond (!(Op.bytesLess a0.toList a1.toList) && !(a0.toList == a1.toList)) (some 1) (some 0))))
theorem cmp_Comparex_p  {a0 : ByteArray} {a1 : ByteArray} {R0 : Int} (H : cmp_Comparex a0 a1 = some R0) : Pure Tryz.prog 48 [.str a0, .str a1] (.int .i64 R0) := by
 refine CallT.of_TN (n := 20) Tryz.func48 rfl rfl rfl rfl ?_
 refine au 7 ?_
 obtain ⟨r1, h2, H⟩ := bind_s H
 refine TL.st rfl rfl rfl (o_callP rfl en_83 rfl rfl (.cons _ _ _ _ (.cl _ rfl) .nil) (cmp_isNaNx_p  h2)) ?_
 refine au 5 ?_
 obtain ⟨r3, h4, H⟩ := bind_s H
 refine TL.st rfl rfl rfl (o_callP rfl en_83 rfl rfl (.cons _ _ _ _ (.cl _ rfl) .nil) (cmp_isNaNx_p  h4)) ?_
 refine au 7 ?_
 refine T.cH H (fun H h => ?_) (fun H h => ?_)
 ·refine au 5 ?_
  refine T.cH H (fun H h => ?_) (fun H h => ?_)
  ·refine au 5 ?_
   refine thn_ret (thn_ret ?_)
   cases some_i H
   exact ⟨trivial, _, (.tmp _ _ _ _ rfl .nil), (.cl _ rfl)⟩
  ·refine au 6 ?_
   refine thn_ret ?_
   cases some_i H
   exact ⟨trivial, _, (.tmp _ _ _ _ rfl .nil), (.cl _ rfl)⟩
 ·refine au 6 ?_
  refine T.cH H (fun H h => ?_) (fun H h => ?_)
  ·refine au 5 ?_
   refine thn_ret ?_
   cases some_i H
   exact ⟨trivial, _, (.tmp _ _ _ _ rfl .nil), (.cl _ rfl)⟩
  ·refine au 8 ?_
   refine T.cH H (fun H h => ?_) (fun H h => ?_)
   ·refine au 5 ?_
    refine thn_ret ?_
    cases some_i H
    exact ⟨trivial, _, (.tmp _ _ _ _ rfl .nil), (.cl _ rfl)⟩
   ·refine au 8 ?_
    refine T.cH H (fun H h => ?_) (fun H h => ?_)
    ·refine au 5 ?_
     refine thn_ret ?_
     cases some_i H
     exact ⟨trivial, _, (.tmp _ _ _ _ rfl .nil), (.cl _ rfl)⟩
    ·refine au 6 ?_
     cases some_i H
     exact ⟨trivial, _, (.tmp _ _ _ _ rfl .nil), (.cl _ rfl)⟩
theorem en_48 : En Tryz.prog 48 := .of Tryz.func48 rfl rfl
noncomputable def cmp_Or_l1 (a0 : (List Int)) : Int → Option (Int ⊕ (Unit ⊕ Int)) := fun s => match s with
  | v1 => cond (decide (v1 < (a0.length : Int))) ((idx a0 v1).bind fun e4 => cond (e4 != 0) (some (.inr (.inr e4))) (some (.inl (IntKind.i64.wrap (v1 + 1))))) (some (.inr (.inl ())))
noncomputable def cmp_Or (a0 : (List Int)) : Option Int :=
  (loopO (cmp_Or_l1 a0) 0).bind fun q6 => (match q6 with | .inl _ => some 0 | .inr q2 => some q2)
theorem cmp_Or_p (b0 : Bool) {a0 : (List Int)} {R0 : Int} (H : cmp_Or a0 = some R0) : Pure Tryz.prog 46 [.im b0 (a0.map (c_int .i64))] (.int .i64 R0) := by
 refine CallT.of_TN (n := 18) Tryz.func46 rfl rfl rfl rfl ?_
 refine au 12 ?_
 refine TL.st rfl rfl rfl (o_lenL (f := c_int .i64) rfl rfl rfl) ?_
 refine au 3 ?_
 obtain ⟨q6, h7, H⟩ := bind_s H
 refine T.lq (fun s => match s with | v1 => [(3, .int .i64 0), (6, .im b0 (a0.map (c_int .i64))), (7, .int .i64 (a0.length : Int)), (8, .int .i64 v1)]) (fun s => match s with | v1 => []) (fun q ex fr σ => match q with | .inl _ => ex = .exit 0 ∧ fr = [(3, .int .i64 0)] ∧ σ = [] | .inr q2 => ex = .ret ∧ RetN Tryz.prog [.tmp 2] (fun v τ => Told τ v (.int .i64 q2)) .ret fr σ) h7 ?_ ?_
 ·rintro v1 y3 H
  refine au 5 ?_
  refine T.cH H (fun H h => ?_) (fun H h => ?_)
  ·refine au 5 ?_
   obtain ⟨e4, h5, H⟩ := bind_s H
   refine TL.st rfl rfl rfl (o_ix (f := c_int .i64) rfl rfl tyS_3 rfl rfl h5 rfl) ?_
   refine au 9 ?_
   refine T.cH H (fun H h => ?_) (fun H h => ?_)
   ·refine au 6 ?_
    refine inB_ret (thn_ret ?_)
    exact Pk.id (thn_ret ⟨.inr e4, (some_i H).symm, rfl, ⟨trivial, _, (.tmp _ _ _ _ rfl .nil), (.cl _ rfl)⟩⟩)
   ·refine au 5 ?_
    exact Pk.of (thn_normal ⟨(IntKind.i64.wrap (v1 + 1)), (some_i H).symm, rfl, rfl⟩)
  ·refine T.exit ?_
   refine thn_exit ?_
   exact Pk.of (thn_exit ⟨.inl (), (some_i H).symm, rfl, rfl, rfl⟩)
 ·rcases q6 with ⟨⟩ | q2
  ·rintro _ _ _ ⟨rfl, rfl, rfl⟩
   refine inB_here ?_
   refine au 6 ?_
   cases some_i H
   exact ⟨trivial, _, (.tmp _ _ _ _ rfl .nil), (.cl _ rfl)⟩
  ·rintro _ fr1 σ1 ⟨rfl, hr⟩
   refine inB_ret (thn_ret ?_)
   cases some_i H
   exact hr
theorem en_46 : En Tryz.prog 46 := .of Tryz.func46 rfl rfl
noncomputable def impl_ycmpAtom (a0 : T_impl_Atom) (a1 : T_impl_Atom) : Option Int :=
  (cmp_Compare a0.Kind_ a1.Kind_).bind fun r1 => (cmp_Compare a0.Num_ a1.Num_).bind fun r3 => (cmp_Comparex a0.Type_ a1.Type_).bind fun r5 => (cmp_Comparex a0.Text_ a1.Text_).bind fun r7 => (cmp_Or ([r1, r3, r5, r7] : List Int)).bind fun r9 => some r9
theorem impl_ycmpAtom_p  {a0 : T_impl_Atom} {a1 : T_impl_Atom} {R0 : Int} (H : impl_ycmpAtom a0 a1 = some R0) : Pure Tryz.prog 20 [.agg (c_T_impl_Atom false a0), .agg (c_T_impl_Atom false a1)] (.int .i64 R0) := by
 refine CallT.of_TN (n := 27) Tryz.func20 rfl rfl rfl rfl ?_
 refine au 7 ?_
 refine T.drawn rfl ?_
 refine ad 4 ?_
 obtain ⟨r1, h2, H⟩ := bind_s H
 refine TD.qs rfl rfl (fun _ => o_callP rfl en_47 rfl rfl (.cons _ _ _ _ (.cl _ rfl) (.cons _ _ _ _ (.cl _ rfl) .nil)) (cmp_Compare_p  h2)) ?_
 refine ad 4 ?_
 obtain ⟨r3, h4, H⟩ := bind_s H
 refine TD.qs rfl rfl (fun _ => o_callP rfl en_47 rfl rfl (.cons _ _ _ _ (.cl _ rfl) (.cons _ _ _ _ (.cl _ rfl) .nil)) (cmp_Compare_p  h4)) ?_
 refine ad 4 ?_
 obtain ⟨r5, h6, H⟩ := bind_s H
 refine TD.qs rfl rfl (fun _ => o_callP rfl en_48 rfl rfl (.cons _ _ _ _ (.cl _ rfl) (.cons _ _ _ _ (.cl _ rfl) .nil)) (cmp_Comparex_p  h6)) ?_
 refine ad 4 ?_
 obtain ⟨r7, h8, H⟩ := bind_s H
 refine TD.qs rfl rfl (fun _ => o_callP rfl en_48 rfl rfl (.cons _ _ _ _ (.cl _ rfl) (.cons _ _ _ _ (.cl _ rfl) .nil)) (cmp_Comparex_p  h8)) ?_
 refine TD.qs rfl rfl (fun _ => o_sliceIm (rows := ([r1, r3, r5, r7] : List Int).map (c_int .i64)) rfl rfl tyS_3 ⟨_, rfl, rfl⟩ (by decide) rfl rfl rfl rfl rfl rfl) ?_
 obtain ⟨r9, h10, H⟩ := bind_s H
 refine TD.qs rfl rfl (fun _ => o_callP rfl en_46 rfl rfl (.cons _ _ _ _ (.cl _ rfl) .nil) (cmp_Or_p false h10)) ?_
 refine TD.qs rfl rfl (fun _ => o_assign rfl rfl) ?_
 refine TD.nil ⟨rfl, ?_⟩
 refine T.ret ?_
 cases some_i H
 exact ⟨trivial, _, (.tmp _ _ _ _ rfl .nil), (.cl _ rfl)⟩
theorem en_20 : En Tryz.prog 20 := .of Tryz.func20 rfl rfl
theorem tyS_28 : TyS Tryz.prog 28 false 1 := ⟨rfl, rfl⟩
noncomputable def impl_yrisingAtoms_l1 (a0 : (List T_impl_Atom)) : Int → Option (Int ⊕ (Unit ⊕ Bool)) := fun s => match s with
  | v1 => cond (decide (v1 < (a0.length : Int))) ((idx a0 v1).bind fun e4 => (impl_GoodAtom e4).bind fun r6 => (gdO ((!(!r6)) && decide (v1 > 0)) (idx a0 (IntKind.i64.wrap (v1 - 1)))).bind fun e8 => (gdO ((!(!r6)) && decide (v1 > 0)) (impl_ycmpAtom e8 e4)).bind fun r10 => cond ((!r6) || (decide (v1 > 0) && decide (r10 ≥ 0))) (some (.inr (.inr false))) (some (.inl (IntKind.i64.wrap (v1 + 1))))) (some (.inr (.inl ())))
noncomputable def impl_yrisingAtoms (a0 : (List T_impl_Atom)) : Option Bool :=
  (loopO (impl_yrisingAtoms_l1 a0) 0).bind fun q12 => (match q12 with | .inl _ => some true | .inr q2 => some q2)
theorem impl_yrisingAtoms_p (b0 : Bool) {a0 : (List T_impl_Atom)} {R0 : Bool} (H : impl_yrisingAtoms a0 = some R0) : Pure Tryz.prog 61 [.im b0 (a0.map (c_T_impl_Atom false))] (.bool R0) := by
 refine CallT.of_TN (n := 30) Tryz.func61 rfl rfl rfl rfl ?_
 refine au 8 ?_
 refine TL.st rfl rfl rfl (o_lenL (f := c_T_impl_Atom false) rfl rfl rfl) ?_
 refine au 3 ?_
 obtain ⟨q12, h13, H⟩ := bind_s H
 refine T.lq (fun s => match s with | v1 => [(0, .im b0 (a0.map (c_T_impl_Atom false))), (5, .im b0 (a0.map (c_T_impl_Atom false))), (6, .int .i64 (a0.length : Int)), (7, .int .i64 v1)]) (fun s => match s with | v1 => []) (fun q ex fr σ => match q with | .inl _ => ex = .exit 0 ∧ fr = [] ∧ σ = [] | .inr q2 => ex = .ret ∧ RetN Tryz.prog [.tmp 2] (fun v τ => Told τ v (.bool q2)) .ret fr σ) h13 ?_ ?_
 ·rintro v1 y3 H
  refine au 5 ?_
  refine T.cH H (fun H h => ?_) (fun H h => ?_)
  ·refine au 6 ?_
   obtain ⟨e4, h5, H⟩ := bind_s H
   refine TL.st rfl rfl rfl (o_ix (f := c_T_impl_Atom false) rfl rfl tyS_25 rfl rfl h5 rfl) ?_
   refine au 6 ?_
   refine T.drawn rfl ?_
   refine TD.rs rfl rfl (o_loadBx rfl tyS_25 rfl rfl (nb rfl) rfl) ?_
   obtain ⟨r6, h7, H⟩ := bind_s H
   refine TD.qs rfl rfl (fun _ => o_callP rfl en_42 rfl rfl (.cons _ _ _ _ (.cl _ rfl) .nil) (impl_GoodAtom_p  h7)) ?_
   refine ad 3 ?_
   refine TD.cq rfl rfl rfl (.bool _) rfl (fun h _ => o_ari rfl (gv h rfl) rfl rfl) ?_
   refine TD.cq rfl rfl rfl (.bool _) rfl (fun h _ => o_move rfl (gv h rfl)) ?_
   refine TD.cq rfl rfl rfl (.gd _ _) rfl (fun h _ => o_move rfl rfl) ?_
   refine TD.cq rfl rfl rfl (.gd _ _) rfl (fun h _ => o_move rfl rfl) ?_
   refine TD.cq rfl rfl rfl (.gd _ _) rfl (fun h _ => o_ari rfl (gv h rfl) rfl rfl) ?_
   obtain ⟨e8, h9, H⟩ := bind_s H
   refine TD.cq rfl rfl rfl (.gd _ _) rfl (fun h _ => o_ix (f := c_T_impl_Atom false) rfl rfl tyS_25 (gv h rfl) (gv h rfl) (gdO_t h9 h) rfl) ?_
   refine TD.cq rfl rfl rfl (.gd _ _) rfl (fun h _ => o_loadRf rfl tyS_25 (gv h rfl) (nb rfl) rfl) ?_
   refine TD.cr rfl rfl rfl (.gd _ _) rfl (fun h => o_loadBx rfl tyS_25 rfl rfl (nb rfl) rfl) ?_
   obtain ⟨r10, h11, H⟩ := bind_s H
   refine TD.cq rfl rfl rfl (.gd _ _) rfl (fun h _ => o_callP rfl en_20 rfl (evl_2 (gv h rfl) (gv h rfl)) (.cons _ _ _ _ (.cl _ rfl) (.cons _ _ _ _ (.cl _ rfl) .nil)) (impl_ycmpAtom_p  (gdO_t h11 h))) ?_
   refine TD.cq rfl rfl rfl (.gd _ _) rfl (fun h _ => o_ari rfl (gv h rfl) rfl rfl) ?_
   refine TD.cq rfl rfl rfl (.bool _) rfl (fun h _ => o_and rfl (gv h rfl) rfl (fun k => Gd_t (andi h k)) rfl) ?_
   refine TD.qs rfl rfl (fun _ => o_or rfl rfl rfl rfl (fun k => Gd_t k)) ?_
   refine TD.nil ⟨rfl, ?_⟩
   refine thn_normal ?_
   refine T.cH H (fun H h => ?_) (fun H h => ?_)
   ·refine au 5 ?_
    refine inB_ret (thn_ret ?_)
    exact Pk.id (thn_ret ⟨.inr false, (some_i H).symm, rfl, ⟨trivial, _, (.tmp _ _ _ _ rfl .nil), (.cl _ rfl)⟩⟩)
   ·refine au 5 ?_
    exact Pk.of (thn_normal ⟨(IntKind.i64.wrap (v1 + 1)), (some_i H).symm, rfl, rfl⟩)
  ·refine T.exit ?_
   refine thn_exit ?_
   exact Pk.of (thn_exit ⟨.inl (), (some_i H).symm, rfl, rfl, rfl⟩)
 ·rcases q12 with ⟨⟩ | q2
  ·rintro _ _ _ ⟨rfl, rfl, rfl⟩
   refine inB_here ?_
   refine au 5 ?_
   cases some_i H
   exact ⟨trivial, _, (.tmp _ _ _ _ rfl .nil), (.cl _ rfl)⟩
  ·rintro _ fr1 σ1 ⟨rfl, hr⟩
   refine inB_ret (thn_ret ?_)
   cases some_i H
   exact hr
theorem en_61 : En Tryz.prog 61 := .of Tryz.func61 rfl rfl
noncomputable def impl_ygoodRefs_1 (a0 : T_impl_Atom) : Option Bool :=
  some (a0.Kind_ != 4)
theorem impl_ygoodRefs_1_p  {a0 : T_impl_Atom} {R0 : Bool} (H : impl_ygoodRefs_1 a0 = some R0) : Pure Tryz.prog 63 [.agg (c_T_impl_Atom false a0)] (.bool R0) := by
 refine CallT.of_TN (n := 6) Tryz.func63 rfl rfl rfl rfl ?_
 refine au 13 ?_
 cases some_i H
 exact ⟨trivial, _, (.tmp _ _ _ _ rfl .nil), (.cl _ rfl)⟩
theorem en_63 : En Tryz.prog 63 := .of Tryz.func63 rfl rfl
noncomputable def impl_Atom_x_l1 (a0 : (List T_impl_Atom)) : Int → Option (Int ⊕ (Unit ⊕ Int)) := fun s => match s with
  | v1 => cond (decide (v1 < (a0.length : Int))) ((idx a0 v1).bind fun e4 => (impl_ygoodRefs_1 e4).bind fun r6 => cond r6 (some (.inr (.inr v1))) (some (.inl (IntKind.i64.wrap (v1 + 1))))) (some (.inr (.inl ())))
noncomputable def impl_Atom_x (a0 : (List T_impl_Atom)) : Option Int :=
  (loopO (impl_Atom_x_l1 a0) 0).bind fun q8 => (match q8 with | .inl _ => some (-1) | .inr q2 => some q2)
theorem impl_Atom_x_p (b0 : Bool) {a0 : (List T_impl_Atom)} {R0 : Int} (H : impl_Atom_x a0 = some R0) : Pure Tryz.prog 94 [.im b0 (a0.map (c_T_impl_Atom false)), .fn 63 [] []] (.int .i64 R0) := by
 refine CallT.of_TN (n := 19) Tryz.func94 rfl rfl rfl rfl ?_
 refine au 8 ?_
 refine TL.st rfl rfl rfl (o_lenL (f := c_T_impl_Atom false) rfl rfl rfl) ?_
 refine au 3 ?_
 obtain ⟨q8, h9, H⟩ := bind_s H
 refine T.lq (fun s => match s with | v1 => [(0, .im b0 (a0.map (c_T_impl_Atom false))), (1, .fn 63 [] []), (7, .int .i64 (a0.length : Int)), (8, .int .i64 v1)]) (fun s => match s with | v1 => []) (fun q ex fr σ => match q with | .inl _ => ex = .exit 0 ∧ fr = [] ∧ σ = [] | .inr q2 => ex = .ret ∧ RetN Tryz.prog [.tmp 4] (fun v τ => Told τ v (.int .i64 q2)) .ret fr σ) h9 ?_ ?_
 ·rintro v1 y3 H
  refine au 5 ?_
  refine T.cH H (fun H h => ?_) (fun H h => ?_)
  ·refine au 13 ?_
   obtain ⟨e4, h5, H⟩ := bind_s H
   refine TL.st rfl rfl rfl (o_ix (f := c_T_impl_Atom false) rfl rfl tyS_25 rfl rfl h5 rfl) ?_
   refine TL.st rfl rfl rfl (o_loadRf rfl tyS_25 rfl (nb rfl) rfl) ?_
   obtain ⟨r6, h7, H⟩ := bind_s H
   refine TL.st rfl rfl rfl (o_callP rfl en_63 rfl rfl (.cons _ _ _ _ (.cl _ rfl) .nil) (impl_ygoodRefs_1_p  h7)) ?_
   refine TL.nil ?_
   refine T.cH H (fun H h => ?_) (fun H h => ?_)
   ·refine au 6 ?_
    refine inB_ret (thn_ret ?_)
    exact Pk.id (thn_ret ⟨.inr v1, (some_i H).symm, rfl, ⟨trivial, _, (.tmp _ _ _ _ rfl .nil), (.cl _ rfl)⟩⟩)
   ·refine au 5 ?_
    exact Pk.of (thn_normal ⟨(IntKind.i64.wrap (v1 + 1)), (some_i H).symm, rfl, rfl⟩)
  ·refine T.exit ?_
   refine thn_exit ?_
   exact Pk.of (thn_exit ⟨.inl (), (some_i H).symm, rfl, rfl, rfl⟩)
 ·rcases q8 with ⟨⟩ | q2
  ·rintro _ _ _ ⟨rfl, rfl, rfl⟩
   refine inB_here ?_
   refine au 5 ?_
   cases some_i H
   exact ⟨trivial, _, (.tmp _ _ _ _ rfl .nil), (.cl _ rfl)⟩
  ·rintro _ fr1 σ1 ⟨rfl, hr⟩
   refine inB_ret (thn_ret ?_)
   cases some_i H
   exact hr
theorem en_94 : En Tryz.prog 94 := .of Tryz.func94 rfl rfl
noncomputable def impl_Atom_ (a0 : (List T_impl_Atom)) : Option Bool :=
  (impl_Atom_x a0).bind fun r1 => some (decide (r1 ≥ 0))
theorem impl_Atom__p (b0 : Bool) {a0 : (List T_impl_Atom)} {R0 : Bool} (H : impl_Atom_ a0 = some R0) : Pure Tryz.prog 62 [.im b0 (a0.map (c_T_impl_Atom false)), .fn 63 [] []] (.bool R0) := by
 refine CallT.of_TN (n := 9) Tryz.func62 rfl rfl rfl rfl ?_
 refine au 8 ?_
 obtain ⟨r1, h2, H⟩ := bind_s H
 refine TL.st rfl rfl rfl (o_callP rfl en_94 rfl rfl (.cons _ _ _ _ (.imv _ _) (.cons _ _ _ _ (.fn _ _ _ _ _ rfl rfl (fun i c d h => by simp at h) (fun i c d h => by simp at h)) .nil)) (impl_Atom_x_p b0 h2)) ?_
 refine au 4 ?_
 cases some_i H
 exact ⟨trivial, _, (.tmp _ _ _ _ rfl .nil), (.cl _ rfl)⟩
theorem en_62 : En Tryz.prog 62 := .of Tryz.func62 rfl rfl
noncomputable def impl_ygoodRefs (a0 : (List T_impl_Atom)) (a1 : Int) : Option Bool :=
  (gdO (decide ((a0.length : Int) ≤ a1)) (impl_yrisingAtoms a0)).bind fun r1 => (gdO (decide ((a0.length : Int) ≤ a1) && r1) (impl_Atom_ a0)).bind fun r3 => some ((decide ((a0.length : Int) ≤ a1) && r1) && (!r3))
theorem impl_ygoodRefs_p (b0 : Bool) {a0 : (List T_impl_Atom)} {a1 : Int} {R0 : Bool} (H : impl_ygoodRefs a0 a1 = some R0) : Pure Tryz.prog 40 [.im b0 (a0.map (c_T_impl_Atom false)), .int .i64 a1] (.bool R0) := by
 refine CallT.of_TN (n := 18) Tryz.func40 rfl rfl rfl rfl ?_
 refine au 7 ?_
 refine TL.st rfl rfl rfl (o_lenL (f := c_T_impl_Atom false) rfl rfl rfl) ?_
 refine au 4 ?_
 obtain ⟨r1, h2, H⟩ := bind_s H
 refine TL.gcq rfl rfl rfl (.bool _) rfl rfl (fun h => o_callP rfl en_61 rfl (evl_1 (gv h rfl)) (.cons _ _ _ _ (.imv _ _) .nil) (impl_yrisingAtoms_p b0 (gdO_t h2 h))) ?_
 refine au 3 ?_
 obtain ⟨r3, h4, H⟩ := bind_s H
 refine TL.gcq rfl rfl rfl (.bool _) rfl rfl (fun h => o_callP rfl en_62 rfl (evl_2 (gv h rfl) rfl) (.cons _ _ _ _ (.imv _ _) (.cons _ _ _ _ (.fn _ _ _ _ _ rfl rfl (fun i c d h => by simp at h) (fun i c d h => by simp at h)) .nil)) (impl_Atom__p b0 (gdO_t h4 h))) ?_
 refine au 5 ?_
 cases some_i H
 exact ⟨trivial, _, (.tmp _ _ _ _ rfl .nil), (.cl _ rfl)⟩
theorem en_40 : En Tryz.prog 40 := .of Tryz.func40 rfl rfl
theorem tyS_40 : TyS Tryz.prog 40 false 1 := ⟨rfl, rfl⟩
theorem tyS_41 : TyS Tryz.prog 41 false 1 := ⟨rfl, rfl⟩
noncomputable def impl_yallNames_1 (a0 : ByteArray) : Option Bool :=
  (impl_GoodName a0).bind fun r1 => some (!r1)
theorem impl_yallNames_1_p  {a0 : ByteArray} {R0 : Bool} (H : impl_yallNames_1 a0 = some R0) : Pure Tryz.prog 96 [.str a0] (.bool R0) := by
 refine CallT.of_TN (n := 6) Tryz.func96 rfl rfl rfl rfl ?_
 refine au 7 ?_
 obtain ⟨r1, h2, H⟩ := bind_s H
 refine TL.st rfl rfl rfl (o_callP rfl en_55 rfl rfl (.cons _ _ _ _ (.cl _ rfl) .nil) (impl_GoodName_p  h2)) ?_
 refine au 4 ?_
 cases some_i H
 exact ⟨trivial, _, (.tmp _ _ _ _ rfl .nil), (.cl _ rfl)⟩
theorem en_96 : En Tryz.prog 96 := .of Tryz.func96 rfl rfl
noncomputable def slices_IndexFunc_l1 (a0 : (List ByteArray)) : Int → Option (Int ⊕ (Unit ⊕ Int)) := fun s => match s with
  | v1 => cond (decide (v1 < (a0.length : Int))) ((idx a0 v1).bind fun e4 => (impl_yallNames_1 e4).bind fun r6 => cond r6 (some (.inr (.inr v1))) (some (.inl (IntKind.i64.wrap (v1 + 1))))) (some (.inr (.inl ())))
noncomputable def slices_IndexFunc (a0 : (List ByteArray)) : Option Int :=
  (loopO (slices_IndexFunc_l1 a0) 0).bind fun q8 => (match q8 with | .inl _ => some (-1) | .inr q2 => some q2)
theorem slices_IndexFunc_p (b0 : Bool) {a0 : (List ByteArray)} {R0 : Int} (H : slices_IndexFunc a0 = some R0) : Pure Tryz.prog 107 [.im b0 (a0.map (c_str)), .fn 96 [] []] (.int .i64 R0) := by
 refine CallT.of_TN (n := 19) Tryz.func107 rfl rfl rfl rfl ?_
 refine au 8 ?_
 refine TL.st rfl rfl rfl (o_lenL (f := c_str) rfl rfl rfl) ?_
 refine au 3 ?_
 obtain ⟨q8, h9, H⟩ := bind_s H
 refine T.lq (fun s => match s with | v1 => [(0, .im b0 (a0.map (c_str))), (1, .fn 96 [] []), (7, .int .i64 (a0.length : Int)), (8, .int .i64 v1)]) (fun s => match s with | v1 => []) (fun q ex fr σ => match q with | .inl _ => ex = .exit 0 ∧ fr = [] ∧ σ = [] | .inr q2 => ex = .ret ∧ RetN Tryz.prog [.tmp 4] (fun v τ => Told τ v (.int .i64 q2)) .ret fr σ) h9 ?_ ?_
 ·rintro v1 y3 H
  refine au 5 ?_
  refine T.cH H (fun H h => ?_) (fun H h => ?_)
  ·refine au 13 ?_
   obtain ⟨e4, h5, H⟩ := bind_s H
   refine TL.st rfl rfl rfl (o_ix (f := c_str) rfl rfl tyS_9 rfl rfl h5 rfl) ?_
   refine TL.st rfl rfl rfl (o_loadRf rfl tyS_9 rfl (nb rfl) rfl) ?_
   obtain ⟨r6, h7, H⟩ := bind_s H
   refine TL.st rfl rfl rfl (o_callP rfl en_96 rfl rfl (.cons _ _ _ _ (.cl _ rfl) .nil) (impl_yallNames_1_p  h7)) ?_
   refine TL.nil ?_
   refine T.cH H (fun H h => ?_) (fun H h => ?_)
   ·refine au 6 ?_
    refine inB_ret (thn_ret ?_)
    exact Pk.id (thn_ret ⟨.inr v1, (some_i H).symm, rfl, ⟨trivial, _, (.tmp _ _ _ _ rfl .nil), (.cl _ rfl)⟩⟩)
   ·refine au 5 ?_
    exact Pk.of (thn_normal ⟨(IntKind.i64.wrap (v1 + 1)), (some_i H).symm, rfl, rfl⟩)
  ·refine T.exit ?_
   refine thn_exit ?_
   exact Pk.of (thn_exit ⟨.inl (), (some_i H).symm, rfl, rfl, rfl⟩)
 ·rcases q8 with ⟨⟩ | q2
  ·rintro _ _ _ ⟨rfl, rfl, rfl⟩
   refine inB_here ?_
   refine au 5 ?_
   cases some_i H
   exact ⟨trivial, _, (.tmp _ _ _ _ rfl .nil), (.cl _ rfl)⟩
  ·rintro _ fr1 σ1 ⟨rfl, hr⟩
   refine inB_ret (thn_ret ?_)
   cases some_i H
   exact hr
theorem en_107 : En Tryz.prog 107 := .of Tryz.func107 rfl rfl
noncomputable def slices_ContainsFunc (a0 : (List ByteArray)) : Option Bool :=
  (slices_IndexFunc a0).bind fun r1 => some (decide (r1 ≥ 0))
theorem slices_ContainsFunc_p (b0 : Bool) {a0 : (List ByteArray)} {R0 : Bool} (H : slices_ContainsFunc a0 = some R0) : Pure Tryz.prog 95 [.im b0 (a0.map (c_str)), .fn 96 [] []] (.bool R0) := by
 refine CallT.of_TN (n := 9) Tryz.func95 rfl rfl rfl rfl ?_
 refine au 8 ?_
 obtain ⟨r1, h2, H⟩ := bind_s H
 refine TL.st rfl rfl rfl (o_callP rfl en_107 rfl rfl (.cons _ _ _ _ (.imv _ _) (.cons _ _ _ _ (.fn _ _ _ _ _ rfl rfl (fun i c d h => by simp at h) (fun i c d h => by simp at h)) .nil)) (slices_IndexFunc_p b0 h2)) ?_
 refine au 4 ?_
 cases some_i H
 exact ⟨trivial, _, (.tmp _ _ _ _ rfl .nil), (.cl _ rfl)⟩
theorem en_95 : En Tryz.prog 95 := .of Tryz.func95 rfl rfl
noncomputable def impl_yallNames (a0 : (List ByteArray)) : Option Bool :=
  (slices_ContainsFunc a0).bind fun r1 => some (!r1)
theorem impl_yallNames_p (b0 : Bool) {a0 : (List ByteArray)} {R0 : Bool} (H : impl_yallNames a0 = some R0) : Pure Tryz.prog 64 [.im b0 (a0.map (c_str))] (.bool R0) := by
 refine CallT.of_TN (n := 6) Tryz.func64 rfl rfl rfl rfl ?_
 refine au 7 ?_
 obtain ⟨r1, h2, H⟩ := bind_s H
 refine TL.st rfl rfl rfl (o_callP rfl en_95 rfl rfl (.cons _ _ _ _ (.imv _ _) (.cons _ _ _ _ (.fn _ _ _ _ _ rfl rfl (fun i c d h => by simp at h) (fun i c d h => by simp at h)) .nil)) (slices_ContainsFunc_p b0 h2)) ?_
 refine au 4 ?_
 cases some_i H
 exact ⟨trivial, _, (.tmp _ _ _ _ rfl .nil), (.cl _ rfl)⟩
theorem en_64 : En Tryz.prog 64 := .of Tryz.func64 rfl rfl
noncomputable def impl_yrising_l1 (a0 : (List ByteArray)) : Int → Option (Int ⊕ (Unit ⊕ Bool)) := fun s => match s with
  | v1 => cond (decide (v1 < (a0.length : Int))) ((idx a0 v1).bind fun e4 => (gdO (decide (v1 > 0)) (idx a0 (IntKind.i64.wrap (v1 - 1)))).bind fun e6 => cond (decide (v1 > 0) && (!(Op.bytesLess e6.toList e4.toList))) (some (.inr (.inr false))) (some (.inl (IntKind.i64.wrap (v1 + 1))))) (some (.inr (.inl ())))
noncomputable def impl_yrising (a0 : (List ByteArray)) : Option Bool :=
  (loopO (impl_yrising_l1 a0) 0).bind fun q8 => (match q8 with | .inl _ => some true | .inr q2 => some q2)
theorem impl_yrising_p (b0 : Bool) {a0 : (List ByteArray)} {R0 : Bool} (H : impl_yrising a0 = some R0) : Pure Tryz.prog 65 [.im b0 (a0.map (c_str))] (.bool R0) := by
 refine CallT.of_TN (n := 24) Tryz.func65 rfl rfl rfl rfl ?_
 refine au 8 ?_
 refine TL.st rfl rfl rfl (o_lenL (f := c_str) rfl rfl rfl) ?_
 refine au 3 ?_
 obtain ⟨q8, h9, H⟩ := bind_s H
 refine T.lq (fun s => match s with | v1 => [(0, .im b0 (a0.map (c_str))), (5, .im b0 (a0.map (c_str))), (6, .int .i64 (a0.length : Int)), (7, .int .i64 v1)]) (fun s => match s with | v1 => []) (fun q ex fr σ => match q with | .inl _ => ex = .exit 0 ∧ fr = [] ∧ σ = [] | .inr q2 => ex = .ret ∧ RetN Tryz.prog [.tmp 2] (fun v τ => Told τ v (.bool q2)) .ret fr σ) h9 ?_ ?_
 ·rintro v1 y3 H
  refine au 5 ?_
  refine T.cH H (fun H h => ?_) (fun H h => ?_)
  ·refine au 6 ?_
   obtain ⟨e4, h5, H⟩ := bind_s H
   refine TL.st rfl rfl rfl (o_ix (f := c_str) rfl rfl tyS_9 rfl rfl h5 rfl) ?_
   refine au 12 ?_
   obtain ⟨e6, h7, H⟩ := bind_s H
   refine TL.gcq rfl rfl rfl (.bool _) rfl rfl (fun h => o_ix (f := c_str) rfl rfl tyS_9 (gv h rfl) (gv h rfl) (gdO_t h7 h) rfl) ?_
   refine TL.gcq rfl rfl rfl (.bool _) rfl rfl (fun h => o_loadRf rfl tyS_9 (gv h rfl) (nb rfl) rfl) ?_
   refine TL.gcq rfl rfl rfl (.bool _) rfl rfl (fun h => o_move rfl rfl) ?_
   refine TL.gcq rfl rfl rfl (.bool _) rfl rfl (fun h => o_str rfl (gv h rfl) (gv h rfl) rfl) ?_
   refine au 2 ?_
   refine T.cH H (fun H h => ?_) (fun H h => ?_)
   ·refine au 5 ?_
    refine inB_ret (thn_ret ?_)
    exact Pk.id (thn_ret ⟨.inr false, (some_i H).symm, rfl, ⟨trivial, _, (.tmp _ _ _ _ rfl .nil), (.cl _ rfl)⟩⟩)
   ·refine au 5 ?_
    exact Pk.of (thn_normal ⟨(IntKind.i64.wrap (v1 + 1)), (some_i H).symm, rfl, rfl⟩)
  ·refine T.exit ?_
   refine thn_exit ?_
   exact Pk.of (thn_exit ⟨.inl (), (some_i H).symm, rfl, rfl, rfl⟩)
 ·rcases q8 with ⟨⟩ | q2
  ·rintro _ _ _ ⟨rfl, rfl, rfl⟩
   refine inB_here ?_
   refine au 5 ?_
   cases some_i H
   exact ⟨trivial, _, (.tmp _ _ _ _ rfl .nil), (.cl _ rfl)⟩
  ·rintro _ fr1 σ1 ⟨rfl, hr⟩
   refine inB_ret (thn_ret ?_)
   cases some_i H
   exact hr
theorem en_65 : En Tryz.prog 65 := .of Tryz.func65 rfl rfl
theorem tyS_83 : TyS Tryz.prog 83 true 7 := ⟨rfl, rfl⟩
theorem eqT_25 : ∀ a b : T_impl_Atom, EqT Tryz.prog true 10000 25 [] 0 (c_T_impl_Atom false a) (c_T_impl_Atom false b) (a == b) := fun a b => .struct rfl (by kernel_rfl) (.cons (c := [.int .i64 a.Kind_]) (d := [.int .i64 b.Kind_]) rfl rfl tyS_3 rfl rfl (fun _ => rfl) (fun h => Bool.noConfusion h) (fun _ => ne_struct rfl rfl) (.int rfl) (.cons (c := [.int .i64 a.Num_]) (d := [.int .i64 b.Num_]) rfl rfl tyS_3 rfl rfl (fun _ => rfl) (fun h => Bool.noConfusion h) (fun _ => ne_struct rfl rfl) (.int rfl) (.cons (c := [.str a.Text_]) (d := [.str b.Text_]) rfl rfl tyS_9 rfl rfl (fun _ => rfl) (fun h => Bool.noConfusion h) (fun _ => ne_struct rfl rfl) (.str rfl) (.cons (c := [.str a.Type_]) (d := [.str b.Type_]) rfl rfl tyS_9 rfl rfl (fun _ => rfl) (fun h => Bool.noConfusion h) (fun _ => ne_struct rfl rfl) (.str rfl) .nil))))
theorem eqG_25 : Program.eqGuardType Tryz.prog Tryz.prog.depth 25 = false := by kernel_rfl
noncomputable def impl_yzeroAtom (a0 : T_impl_Atom) : Option Bool :=
  some (a0 == (⟨0, 0, e0, e0⟩ : T_impl_Atom))
theorem impl_yzeroAtom_p  {a0 : T_impl_Atom} {R0 : Bool} (H : impl_yzeroAtom a0 = some R0) : Pure Tryz.prog 54 [.agg (c_T_impl_Atom false a0)] (.bool R0) := by
 refine CallT.of_TN (n := 6) Tryz.func54 rfl rfl rfl rfl ?_
 refine au 9 ?_
 refine TL.st rfl rfl rfl (o_eqA rfl rfl eqG_25 rfl rfl rfl rfl (eqT_25 a0 (⟨0, 0, e0, e0⟩ : T_impl_Atom))) ?_
 refine au 3 ?_
 cases some_i H
 exact ⟨trivial, _, (.tmp _ _ _ _ rfl .nil), (.cl _ rfl)⟩
theorem en_54 : En Tryz.prog 54 := .of Tryz.func54 rfl rfl
noncomputable def impl_GoodValue_1 (a0 : T_impl_Atom) : Option Bool :=
  (impl_GoodAtom a0).bind fun r1 => some (!r1)
theorem impl_GoodValue_1_p  {a0 : T_impl_Atom} {R0 : Bool} (H : impl_GoodValue_1 a0 = some R0) : Pure Tryz.prog 98 [.agg (c_T_impl_Atom false a0)] (.bool R0) := by
 refine CallT.of_TN (n := 6) Tryz.func98 rfl rfl rfl rfl ?_
 refine au 8 ?_
 obtain ⟨r1, h2, H⟩ := bind_s H
 refine TL.st rfl rfl rfl (o_callP rfl en_42 rfl rfl (.cons _ _ _ _ (.cl _ rfl) .nil) (impl_GoodAtom_p  h2)) ?_
 refine au 4 ?_
 cases some_i H
 exact ⟨trivial, _, (.tmp _ _ _ _ rfl .nil), (.cl _ rfl)⟩
theorem en_98 : En Tryz.prog 98 := .of Tryz.func98 rfl rfl
noncomputable def impl_Atom_xxx_l1 (a0 : (List T_impl_Atom)) : Int → Option (Int ⊕ (Unit ⊕ Int)) := fun s => match s with
  | v1 => cond (decide (v1 < (a0.length : Int))) ((idx a0 v1).bind fun e4 => (impl_GoodValue_1 e4).bind fun r6 => cond r6 (some (.inr (.inr v1))) (some (.inl (IntKind.i64.wrap (v1 + 1))))) (some (.inr (.inl ())))
noncomputable def impl_Atom_xxx (a0 : (List T_impl_Atom)) : Option Int :=
  (loopO (impl_Atom_xxx_l1 a0) 0).bind fun q8 => (match q8 with | .inl _ => some (-1) | .inr q2 => some q2)
theorem impl_Atom_xxx_p (b0 : Bool) {a0 : (List T_impl_Atom)} {R0 : Int} (H : impl_Atom_xxx a0 = some R0) : Pure Tryz.prog 94 [.im b0 (a0.map (c_T_impl_Atom false)), .fn 98 [] []] (.int .i64 R0) := by
 refine CallT.of_TN (n := 19) Tryz.func94 rfl rfl rfl rfl ?_
 refine au 8 ?_
 refine TL.st rfl rfl rfl (o_lenL (f := c_T_impl_Atom false) rfl rfl rfl) ?_
 refine au 3 ?_
 obtain ⟨q8, h9, H⟩ := bind_s H
 refine T.lq (fun s => match s with | v1 => [(0, .im b0 (a0.map (c_T_impl_Atom false))), (1, .fn 98 [] []), (7, .int .i64 (a0.length : Int)), (8, .int .i64 v1)]) (fun s => match s with | v1 => []) (fun q ex fr σ => match q with | .inl _ => ex = .exit 0 ∧ fr = [] ∧ σ = [] | .inr q2 => ex = .ret ∧ RetN Tryz.prog [.tmp 4] (fun v τ => Told τ v (.int .i64 q2)) .ret fr σ) h9 ?_ ?_
 ·rintro v1 y3 H
  refine au 5 ?_
  refine T.cH H (fun H h => ?_) (fun H h => ?_)
  ·refine au 13 ?_
   obtain ⟨e4, h5, H⟩ := bind_s H
   refine TL.st rfl rfl rfl (o_ix (f := c_T_impl_Atom false) rfl rfl tyS_25 rfl rfl h5 rfl) ?_
   refine TL.st rfl rfl rfl (o_loadRf rfl tyS_25 rfl (nb rfl) rfl) ?_
   obtain ⟨r6, h7, H⟩ := bind_s H
   refine TL.st rfl rfl rfl (o_callP rfl en_98 rfl rfl (.cons _ _ _ _ (.cl _ rfl) .nil) (impl_GoodValue_1_p  h7)) ?_
   refine TL.nil ?_
   refine T.cH H (fun H h => ?_) (fun H h => ?_)
   ·refine au 6 ?_
    refine inB_ret (thn_ret ?_)
    exact Pk.id (thn_ret ⟨.inr v1, (some_i H).symm, rfl, ⟨trivial, _, (.tmp _ _ _ _ rfl .nil), (.cl _ rfl)⟩⟩)
   ·refine au 5 ?_
    exact Pk.of (thn_normal ⟨(IntKind.i64.wrap (v1 + 1)), (some_i H).symm, rfl, rfl⟩)
  ·refine T.exit ?_
   refine thn_exit ?_
   exact Pk.of (thn_exit ⟨.inl (), (some_i H).symm, rfl, rfl, rfl⟩)
 ·rcases q8 with ⟨⟩ | q2
  ·rintro _ _ _ ⟨rfl, rfl, rfl⟩
   refine inB_here ?_
   refine au 5 ?_
   cases some_i H
   exact ⟨trivial, _, (.tmp _ _ _ _ rfl .nil), (.cl _ rfl)⟩
  ·rintro _ fr1 σ1 ⟨rfl, hr⟩
   refine inB_ret (thn_ret ?_)
   cases some_i H
   exact hr
noncomputable def impl_Atom_xx (a0 : (List T_impl_Atom)) : Option Bool :=
  (impl_Atom_xxx a0).bind fun r1 => some (decide (r1 ≥ 0))
theorem impl_Atom_xx_p (b0 : Bool) {a0 : (List T_impl_Atom)} {R0 : Bool} (H : impl_Atom_xx a0 = some R0) : Pure Tryz.prog 62 [.im b0 (a0.map (c_T_impl_Atom false)), .fn 98 [] []] (.bool R0) := by
 refine CallT.of_TN (n := 9) Tryz.func62 rfl rfl rfl rfl ?_
 refine au 8 ?_
 obtain ⟨r1, h2, H⟩ := bind_s H
 refine TL.st rfl rfl rfl (o_callP rfl en_94 rfl rfl (.cons _ _ _ _ (.imv _ _) (.cons _ _ _ _ (.fn _ _ _ _ _ rfl rfl (fun i c d h => by simp at h) (fun i c d h => by simp at h)) .nil)) (impl_Atom_xxx_p b0 h2)) ?_
 refine au 4 ?_
 cases some_i H
 exact ⟨trivial, _, (.tmp _ _ _ _ rfl .nil), (.cl _ rfl)⟩
noncomputable def impl_GoodValue (a0 : T_impl_Value) : Option Bool :=
  cond (a0.Kind_ == 1) ((impl_GoodAtom a0.Atom_).bind fun r1 => some ((r1 && ((a0.Items_.length : Int) == 0)) && ((a0.Names_.length : Int) == 0))) (cond (a0.Kind_ == 2) ((impl_yzeroAtom a0.Atom_).bind fun r3 => (gdO ((r3 && decide ((a0.Items_.length : Int) ≤ 50)) && ((a0.Names_.length : Int) == 0)) (impl_yrisingAtoms a0.Items_)).bind fun r5 => some (((r3 && decide ((a0.Items_.length : Int) ≤ 50)) && ((a0.Names_.length : Int) == 0)) && r5)) (cond (a0.Kind_ == 3) ((impl_yzeroAtom a0.Atom_).bind fun r7 => (gdO ((r7 && decide ((a0.Names_.length : Int) ≤ 50)) && ((a0.Items_.length : Int) == (a0.Names_.length : Int))) (impl_yallNames a0.Names_)).bind fun r9 => (gdO (((r7 && decide ((a0.Names_.length : Int) ≤ 50)) && ((a0.Items_.length : Int) == (a0.Names_.length : Int))) && r9) (impl_yrising a0.Names_)).bind fun r11 => (gdO ((((r7 && decide ((a0.Names_.length : Int) ≤ 50)) && ((a0.Items_.length : Int) == (a0.Names_.length : Int))) && r9) && r11) (impl_Atom_xx a0.Items_)).bind fun r13 => some (((((r7 && decide ((a0.Names_.length : Int) ≤ 50)) && ((a0.Items_.length : Int) == (a0.Names_.length : Int))) && r9) && r11) && (!r13))) (some false)))
theorem impl_GoodValue_p (b0 : Bool) {a0 : T_impl_Value} {R0 : Bool} (H : impl_GoodValue a0 = some R0) : Pure Tryz.prog 68 [.agg (c_T_impl_Value b0 a0)] (.bool R0) := by
 refine CallT.of_TN (n := 80) Tryz.func68 rfl rfl rfl rfl ?_
 refine au 17 ?_
 refine T.cH H (fun H h => ?_) (fun H h => ?_)
 ·refine au 4 ?_
  obtain ⟨r1, h2, H⟩ := bind_s H
  refine TL.st rfl rfl rfl (o_callP rfl en_42 rfl rfl (.cons _ _ _ _ (.cl _ rfl) .nil) (impl_GoodAtom_p  h2)) ?_
  refine au 3 ?_
  refine TL.gcq rfl rfl rfl (.bool _) rfl rfl (fun h => o_lenL (f := c_T_impl_Atom false) rfl rfl (gv h rfl)) ?_
  refine au 5 ?_
  refine TL.gcq rfl rfl rfl (.bool _) rfl rfl (fun h => o_lenL (f := c_str) rfl rfl (gv h rfl)) ?_
  refine au 5 ?_
  refine inB_ret (thn_ret ?_)
  cases some_i H
  exact ⟨trivial, _, (.tmp _ _ _ _ rfl .nil), (.cl _ rfl)⟩
 ·refine au 5 ?_
  refine T.cH H (fun H h => ?_) (fun H h => ?_)
  ·refine au 4 ?_
   obtain ⟨r3, h4, H⟩ := bind_s H
   refine TL.st rfl rfl rfl (o_callP rfl en_54 rfl rfl (.cons _ _ _ _ (.cl _ rfl) .nil) (impl_yzeroAtom_p  h4)) ?_
   refine au 3 ?_
   refine TL.gcq rfl rfl rfl (.bool _) rfl rfl (fun h => o_lenL (f := c_T_impl_Atom false) rfl rfl (gv h rfl)) ?_
   refine au 5 ?_
   refine TL.gcq rfl rfl rfl (.bool _) rfl rfl (fun h => o_lenL (f := c_str) rfl rfl (gv h rfl)) ?_
   refine au 5 ?_
   obtain ⟨r5, h6, H⟩ := bind_s H
   refine TL.gcq rfl rfl rfl (.bool _) rfl rfl (fun h => o_callP rfl en_61 rfl (evl_1 (gv h rfl)) (.cons _ _ _ _ (.imv _ _) .nil) (impl_yrisingAtoms_p b0 (gdO_t h6 h))) ?_
   refine au 4 ?_
   refine inB_ret (thn_ret ?_)
   cases some_i H
   exact ⟨trivial, _, (.tmp _ _ _ _ rfl .nil), (.cl _ rfl)⟩
  ·refine au 5 ?_
   refine T.cH H (fun H h => ?_) (fun H h => ?_)
   ·refine au 4 ?_
    obtain ⟨r7, h8, H⟩ := bind_s H
    refine TL.st rfl rfl rfl (o_callP rfl en_54 rfl rfl (.cons _ _ _ _ (.cl _ rfl) .nil) (impl_yzeroAtom_p  h8)) ?_
    refine au 3 ?_
    refine TL.gcq rfl rfl rfl (.bool _) rfl rfl (fun h => o_lenL (f := c_str) rfl rfl (gv h rfl)) ?_
    refine au 5 ?_
    refine TL.gcq rfl rfl rfl (.bool _) rfl rfl (fun h => o_lenL (f := c_T_impl_Atom false) rfl rfl (gv h rfl)) ?_
    refine au 2 ?_
    refine TL.gcq rfl rfl rfl (.bool _) rfl rfl (fun h => o_lenL (f := c_str) rfl rfl (gv h rfl)) ?_
    refine TL.gcq rfl rfl rfl (.bool _) rfl rfl (fun h => o_ari rfl (gv h rfl) (gv h rfl) rfl) ?_
    refine au 4 ?_
    obtain ⟨r9, h10, H⟩ := bind_s H
    refine TL.gcq rfl rfl rfl (.bool _) rfl rfl (fun h => o_callP rfl en_64 rfl (evl_1 (gv h rfl)) (.cons _ _ _ _ (.imv _ _) .nil) (impl_yallNames_p b0 (gdO_t h10 h))) ?_
    refine au 4 ?_
    obtain ⟨r11, h12, H⟩ := bind_s H
    refine TL.gcq rfl rfl rfl (.bool _) rfl rfl (fun h => o_callP rfl en_65 rfl (evl_1 (gv h rfl)) (.cons _ _ _ _ (.imv _ _) .nil) (impl_yrising_p b0 (gdO_t h12 h))) ?_
    refine au 4 ?_
    obtain ⟨r13, h14, H⟩ := bind_s H
    refine TL.gcq rfl rfl rfl (.bool _) rfl rfl (fun h => o_callP rfl en_62 rfl (evl_2 (gv h rfl) rfl) (.cons _ _ _ _ (.imv _ _) (.cons _ _ _ _ (.fn _ _ _ _ _ rfl rfl (fun i c d h => by simp at h) (fun i c d h => by simp at h)) .nil)) (impl_Atom_xx_p b0 (gdO_t h14 h))) ?_
    refine au 5 ?_
    refine inB_ret (thn_ret ?_)
    cases some_i H
    exact ⟨trivial, _, (.tmp _ _ _ _ rfl .nil), (.cl _ rfl)⟩
   ·refine au 6 ?_
    cases some_i H
    exact ⟨trivial, _, (.tmp _ _ _ _ rfl .nil), (.cl _ rfl)⟩
theorem en_68 : En Tryz.prog 68 := .of Tryz.func68 rfl rfl
noncomputable def impl_ygoodFields_1 (a0 : T_impl_Value) : Option Bool :=
  (gdO (!(a0.Kind_ == 3)) (impl_GoodValue a0)).bind fun r1 => some ((a0.Kind_ == 3) || (!r1))
theorem impl_ygoodFields_1_p (b0 : Bool) {a0 : T_impl_Value} {R0 : Bool} (H : impl_ygoodFields_1 a0 = some R0) : Pure Tryz.prog 67 [.agg (c_T_impl_Value b0 a0)] (.bool R0) := by
 refine CallT.of_TN (n := 11) Tryz.func67 rfl rfl rfl rfl ?_
 refine au 11 ?_
 refine TL.gcq rfl rfl rfl (.bool _) rfl rfl (fun h => o_loadBx rfl tyS_83 rfl rfl (nb rfl) rfl) ?_
 obtain ⟨r1, h2, H⟩ := bind_s H
 refine TL.gcq rfl rfl rfl (.bool _) rfl rfl (fun h => o_callP rfl en_68 rfl (evl_1 (gv h rfl)) (.cons _ _ _ _ (Lent.aggL (.cons _ _ _ _ (.cl _ rfl) (.cons _ _ _ _ (.cl _ rfl) (.cons _ _ _ _ (.cl _ rfl) (.cons _ _ _ _ (.cl _ rfl) (.cons _ _ _ _ (.cl _ rfl) (.cons _ _ _ _ (.imv _ _) (.cons _ _ _ _ (.imv _ _) .nil)))))))) .nil) (impl_GoodValue_p b0 (gdO_t h2 h))) ?_
 refine au 5 ?_
 cases some_i H
 exact ⟨trivial, _, (.tmp _ _ _ _ rfl .nil), (.cl _ rfl)⟩
theorem en_67 : En Tryz.prog 67 := .of Tryz.func67 rfl rfl
noncomputable def impl_Value_x_l1 (a0 : (List T_impl_Value)) : Int → Option (Int ⊕ (Unit ⊕ Int)) := fun s => match s with
  | v1 => cond (decide (v1 < (a0.length : Int))) ((idx a0 v1).bind fun e4 => (impl_ygoodFields_1 e4).bind fun r6 => cond r6 (some (.inr (.inr v1))) (some (.inl (IntKind.i64.wrap (v1 + 1))))) (some (.inr (.inl ())))
noncomputable def impl_Value_x (a0 : (List T_impl_Value)) : Option Int :=
  (loopO (impl_Value_x_l1 a0) 0).bind fun q8 => (match q8 with | .inl _ => some (-1) | .inr q2 => some q2)
theorem impl_Value_x_p (b0 : Bool) {a0 : (List T_impl_Value)} {R0 : Int} (H : impl_Value_x a0 = some R0) : Pure Tryz.prog 97 [.im b0 (a0.map (c_T_impl_Value false)), .fn 67 [] []] (.int .i64 R0) := by
 refine CallT.of_TN (n := 19) Tryz.func97 rfl rfl rfl rfl ?_
 refine au 8 ?_
 refine TL.st rfl rfl rfl (o_lenL (f := c_T_impl_Value false) rfl rfl rfl) ?_
 refine au 3 ?_
 obtain ⟨q8, h9, H⟩ := bind_s H
 refine T.lq (fun s => match s with | v1 => [(0, .im b0 (a0.map (c_T_impl_Value false))), (1, .fn 67 [] []), (7, .int .i64 (a0.length : Int)), (8, .int .i64 v1)]) (fun s => match s with | v1 => []) (fun q ex fr σ => match q with | .inl _ => ex = .exit 0 ∧ fr = [] ∧ σ = [] | .inr q2 => ex = .ret ∧ RetN Tryz.prog [.tmp 4] (fun v τ => Told τ v (.int .i64 q2)) .ret fr σ) h9 ?_ ?_
 ·rintro v1 y3 H
  refine au 5 ?_
  refine T.cH H (fun H h => ?_) (fun H h => ?_)
  ·refine au 13 ?_
   obtain ⟨e4, h5, H⟩ := bind_s H
   refine TL.st rfl rfl rfl (o_ix (f := c_T_impl_Value false) rfl rfl tyS_83 rfl rfl h5 rfl) ?_
   refine TL.st rfl rfl rfl (o_loadRf rfl tyS_83 rfl (nb rfl) rfl) ?_
   obtain ⟨r6, h7, H⟩ := bind_s H
   refine TL.st rfl rfl rfl (o_callP rfl en_67 rfl rfl (.cons _ _ _ _ (.cl _ rfl) .nil) (impl_ygoodFields_1_p false h7)) ?_
   refine TL.nil ?_
   refine T.cH H (fun H h => ?_) (fun H h => ?_)
   ·refine au 6 ?_
    refine inB_ret (thn_ret ?_)
    exact Pk.id (thn_ret ⟨.inr v1, (some_i H).symm, rfl, ⟨trivial, _, (.tmp _ _ _ _ rfl .nil), (.cl _ rfl)⟩⟩)
   ·refine au 5 ?_
    exact Pk.of (thn_normal ⟨(IntKind.i64.wrap (v1 + 1)), (some_i H).symm, rfl, rfl⟩)
  ·refine T.exit ?_
   refine thn_exit ?_
   exact Pk.of (thn_exit ⟨.inl (), (some_i H).symm, rfl, rfl, rfl⟩)
 ·rcases q8 with ⟨⟩ | q2
  ·rintro _ _ _ ⟨rfl, rfl, rfl⟩
   refine inB_here ?_
   refine au 5 ?_
   cases some_i H
   exact ⟨trivial, _, (.tmp _ _ _ _ rfl .nil), (.cl _ rfl)⟩
  ·rintro _ fr1 σ1 ⟨rfl, hr⟩
   refine inB_ret (thn_ret ?_)
   cases some_i H
   exact hr
theorem en_97 : En Tryz.prog 97 := .of Tryz.func97 rfl rfl
noncomputable def impl_Value_ (a0 : (List T_impl_Value)) : Option Bool :=
  (impl_Value_x a0).bind fun r1 => some (decide (r1 ≥ 0))
theorem impl_Value__p (b0 : Bool) {a0 : (List T_impl_Value)} {R0 : Bool} (H : impl_Value_ a0 = some R0) : Pure Tryz.prog 66 [.im b0 (a0.map (c_T_impl_Value false)), .fn 67 [] []] (.bool R0) := by
 refine CallT.of_TN (n := 9) Tryz.func66 rfl rfl rfl rfl ?_
 refine au 8 ?_
 obtain ⟨r1, h2, H⟩ := bind_s H
 refine TL.st rfl rfl rfl (o_callP rfl en_97 rfl rfl (.cons _ _ _ _ (.imv _ _) (.cons _ _ _ _ (.fn _ _ _ _ _ rfl rfl (fun i c d h => by simp at h) (fun i c d h => by simp at h)) .nil)) (impl_Value_x_p b0 h2)) ?_
 refine au 4 ?_
 cases some_i H
 exact ⟨trivial, _, (.tmp _ _ _ _ rfl .nil), (.cl _ rfl)⟩
theorem en_66 : En Tryz.prog 66 := .of Tryz.func66 rfl rfl
noncomputable def impl_ygoodFields (a0 : (List ByteArray)) (a1 : (List T_impl_Value)) : Option Bool :=
  (gdO (decide ((a0.length : Int) ≤ 20) && ((a0.length : Int) == (a1.length : Int))) (impl_yallNames a0)).bind fun r1 => (gdO ((decide ((a0.length : Int) ≤ 20) && ((a0.length : Int) == (a1.length : Int))) && r1) (impl_yrising a0)).bind fun r3 => (gdO (((decide ((a0.length : Int) ≤ 20) && ((a0.length : Int) == (a1.length : Int))) && r1) && r3) (impl_Value_ a1)).bind fun r5 => some ((((decide ((a0.length : Int) ≤ 20) && ((a0.length : Int) == (a1.length : Int))) && r1) && r3) && (!r5))
theorem impl_ygoodFields_p (b0 : Bool) (b1 : Bool) {a0 : (List ByteArray)} {a1 : (List T_impl_Value)} {R0 : Bool} (H : impl_ygoodFields a0 a1 = some R0) : Pure Tryz.prog 41 [.im b0 (a0.map (c_str)), .im b1 (a1.map (c_T_impl_Value false))] (.bool R0) := by
 refine CallT.of_TN (n := 28) Tryz.func41 rfl rfl rfl rfl ?_
 refine au 7 ?_
 refine TL.st rfl rfl rfl (o_lenL (f := c_str) rfl rfl rfl) ?_
 refine au 3 ?_
 refine TL.gcq rfl rfl rfl (.bool _) rfl rfl (fun h => o_lenL (f := c_str) rfl rfl (gv h rfl)) ?_
 refine TL.gcq rfl rfl rfl (.bool _) rfl rfl (fun h => o_move rfl rfl) ?_
 refine TL.gcq rfl rfl rfl (.bool _) rfl rfl (fun h => o_lenL (f := c_T_impl_Value false) rfl rfl (gv h rfl)) ?_
 refine TL.gcq rfl rfl rfl (.bool _) rfl rfl (fun h => o_ari rfl (gv h rfl) (gv h rfl) rfl) ?_
 refine au 3 ?_
 obtain ⟨r1, h2, H⟩ := bind_s H
 refine TL.gcq rfl rfl rfl (.bool _) rfl rfl (fun h => o_callP rfl en_64 rfl (evl_1 (gv h rfl)) (.cons _ _ _ _ (.imv _ _) .nil) (impl_yallNames_p b0 (gdO_t h2 h))) ?_
 refine au 3 ?_
 obtain ⟨r3, h4, H⟩ := bind_s H
 refine TL.gcq rfl rfl rfl (.bool _) rfl rfl (fun h => o_callP rfl en_65 rfl (evl_1 (gv h rfl)) (.cons _ _ _ _ (.imv _ _) .nil) (impl_yrising_p b0 (gdO_t h4 h))) ?_
 refine au 3 ?_
 obtain ⟨r5, h6, H⟩ := bind_s H
 refine TL.gcq rfl rfl rfl (.bool _) rfl rfl (fun h => o_callP rfl en_66 rfl (evl_2 (gv h rfl) rfl) (.cons _ _ _ _ (.imv _ _) (.cons _ _ _ _ (.fn _ _ _ _ _ rfl rfl (fun i c d h => by simp at h) (fun i c d h => by simp at h)) .nil)) (impl_Value__p b1 (gdO_t h6 h))) ?_
 refine au 5 ?_
 cases some_i H
 exact ⟨trivial, _, (.tmp _ _ _ _ rfl .nil), (.cl _ rfl)⟩
theorem en_41 : En Tryz.prog 41 := .of Tryz.func41 rfl rfl
noncomputable def impl_GoodThings_l1 (a0 : (List T_impl_Thing)) : Int → Option (Int ⊕ (Unit ⊕ Bool)) := fun s => match s with
  | v1 => cond (decide (v1 < (a0.length : Int))) ((idx a0 v1).bind fun e4 => (impl_ygoodRef e4.Ref_).bind fun r6 => (gdO ((!(!r6)) && decide (v1 > 0)) (idx a0 (IntKind.i64.wrap (v1 - 1)))).bind fun e8 => (gdO ((!(!r6)) && decide (v1 > 0)) (impl_ycmpAtom e8.Ref_ e4.Ref_)).bind fun r10 => (gdO (!((!r6) || (decide (v1 > 0) && decide (r10 ≥ 0)))) (impl_ygoodRefs e4.Parents_ 50)).bind fun r12 => (gdO (!(((!r6) || (decide (v1 > 0) && decide (r10 ≥ 0))) || (!r12))) (impl_ygoodFields e4.Names_ e4.Values_)).bind fun r14 => cond ((((!r6) || (decide (v1 > 0) && decide (r10 ≥ 0))) || (!r12)) || (!r14)) (some (.inr (.inr false))) (some (.inl (IntKind.i64.wrap (v1 + 1))))) (some (.inr (.inl ())))
noncomputable def impl_GoodThings (a0 : (List T_impl_Thing)) : Option Bool :=
  cond (decide ((a0.length : Int) > 100)) (some false) ((loopO (impl_GoodThings_l1 a0) 0).bind fun q16 => (match q16 with | .inl _ => some true | .inr q2 => some q2))
theorem impl_GoodThings_p (b0 : Bool) {a0 : (List T_impl_Thing)} {R0 : Bool} (H : impl_GoodThings a0 = some R0) : Pure Tryz.prog 16 [.im b0 (a0.map (c_T_impl_Thing false))] (.bool R0) := by
 refine CallT.of_TN (n := 50) Tryz.func16 rfl rfl rfl rfl ?_
 refine au 8 ?_
 refine TL.st rfl rfl rfl (o_lenL (f := c_T_impl_Thing false) rfl rfl rfl) ?_
 refine au 2 ?_
 refine T.cH H (fun H h => ?_) (fun H h => ?_)
 ·refine au 5 ?_
  refine thn_ret ?_
  cases some_i H
  exact ⟨trivial, _, (.tmp _ _ _ _ rfl .nil), (.cl _ rfl)⟩
 ·refine au 5 ?_
  refine TL.st rfl rfl rfl (o_lenL (f := c_T_impl_Thing false) rfl rfl rfl) ?_
  refine au 3 ?_
  obtain ⟨q16, h17, H⟩ := bind_s H
  refine T.lq (fun s => match s with | v1 => [(0, .im b0 (a0.map (c_T_impl_Thing false))), (8, .im b0 (a0.map (c_T_impl_Thing false))), (9, .int .i64 (a0.length : Int)), (10, .int .i64 v1)]) (fun s => match s with | v1 => []) (fun q ex fr σ => match q with | .inl _ => ex = .exit 0 ∧ fr = [] ∧ σ = [] | .inr q2 => ex = .ret ∧ RetN Tryz.prog [.tmp 2] (fun v τ => Told τ v (.bool q2)) .ret fr σ) h17 ?_ ?_
  ·rintro v1 y3 H
   refine au 5 ?_
   refine T.cH H (fun H h => ?_) (fun H h => ?_)
   ·refine au 6 ?_
    obtain ⟨e4, h5, H⟩ := bind_s H
    refine TL.st rfl rfl rfl (o_ix (f := c_T_impl_Thing false) rfl rfl tyS_63 rfl rfl h5 rfl) ?_
    refine au 6 ?_
    refine T.drawn rfl ?_
    refine ad 2 ?_
    obtain ⟨r6, h7, H⟩ := bind_s H
    refine TD.qs rfl rfl (fun _ => o_callP rfl en_17 rfl rfl (.cons _ _ _ _ (.cl _ rfl) .nil) (impl_ygoodRef_p  h7)) ?_
    refine ad 3 ?_
    refine TD.cq rfl rfl rfl (.bool _) rfl (fun h _ => o_ari rfl (gv h rfl) rfl rfl) ?_
    refine TD.cq rfl rfl rfl (.bool _) rfl (fun h _ => o_move rfl (gv h rfl)) ?_
    refine TD.cq rfl rfl rfl (.gd _ _) rfl (fun h _ => o_move rfl rfl) ?_
    refine TD.cq rfl rfl rfl (.gd _ _) rfl (fun h _ => o_move rfl rfl) ?_
    refine TD.cq rfl rfl rfl (.gd _ _) rfl (fun h _ => o_ari rfl (gv h rfl) rfl rfl) ?_
    obtain ⟨e8, h9, H⟩ := bind_s H
    refine TD.cq rfl rfl rfl (.gd _ _) rfl (fun h _ => o_ix (f := c_T_impl_Thing false) rfl rfl tyS_63 (gv h rfl) (gv h rfl) (gdO_t h9 h) rfl) ?_
    refine TD.cq rfl rfl rfl (.gd _ _) rfl (fun h _ => o_fieldAddr rfl rfl rfl tyS_25 (by decide) (gv h rfl) rfl trivial) ?_
    refine TD.cq rfl rfl rfl (.gd _ _) rfl (fun h _ => o_loadRf rfl tyS_25 (gv h rfl) (nb rfl) rfl) ?_
    refine TD.cr rfl rfl rfl (.gd _ _) rfl (fun h => o_fieldAddr rfl rfl rfl tyS_25 (by decide) rfl rfl ⟨_, rfl, Nat.le_of_ble_eq_true rfl⟩) ?_
    refine TD.cr rfl rfl rfl (.gd _ _) rfl (fun h => o_loadBx rfl tyS_25 (gv h rfl) rfl (nb rfl) rfl) ?_
    obtain ⟨r10, h11, H⟩ := bind_s H
    refine TD.cq rfl rfl rfl (.gd _ _) rfl (fun h _ => o_callP rfl en_20 rfl (evl_2 (gv h rfl) (gv h rfl)) (.cons _ _ _ _ (.cl _ rfl) (.cons _ _ _ _ (.cl _ rfl) .nil)) (impl_ycmpAtom_p  (gdO_t h11 h))) ?_
    refine TD.cq rfl rfl rfl (.gd _ _) rfl (fun h _ => o_ari rfl (gv h rfl) rfl rfl) ?_
    refine TD.cq rfl rfl rfl (.bool _) rfl (fun h _ => o_and rfl (gv h rfl) rfl (fun k => Gd_t (andi h k)) rfl) ?_
    refine ad 4 ?_
    obtain ⟨r12, h13, H⟩ := bind_s H
    refine TD.cq rfl rfl rfl (.bool _) rfl (fun h _ => o_callP rfl en_40 rfl (evl_2 (gv h rfl) rfl) (.cons _ _ _ _ (.cl _ rfl) (.cons _ _ _ _ (.cl _ rfl) .nil)) (impl_ygoodRefs_p false (gdO_t h13 h))) ?_
    refine TD.cq rfl rfl rfl (.bool _) rfl (fun h _ => o_not rfl (gv h rfl)) ?_
    refine ad 6 ?_
    obtain ⟨r14, h15, H⟩ := bind_s H
    refine TD.cq rfl rfl rfl (.bool _) rfl (fun h _ => o_callP rfl en_41 rfl (evl_2 (gv h rfl) (gv h rfl)) (.cons _ _ _ _ (.cl _ rfl) (.cons _ _ _ _ (.cl _ rfl) .nil)) (impl_ygoodFields_p false false (gdO_t h15 h))) ?_
    refine TD.cq rfl rfl rfl (.bool _) rfl (fun h _ => o_not rfl (gv h rfl)) ?_
    refine TD.qs rfl rfl (fun _ => o_or rfl rfl rfl rfl (fun k => Gd_t k)) ?_
    refine TD.nil ⟨rfl, ?_⟩
    refine thn_normal ?_
    refine T.cH H (fun H h => ?_) (fun H h => ?_)
    ·refine au 5 ?_
     refine inB_ret (thn_ret ?_)
     exact Pk.id (thn_ret ⟨.inr false, (some_i H).symm, rfl, ⟨trivial, _, (.tmp _ _ _ _ rfl .nil), (.cl _ rfl)⟩⟩)
    ·refine au 5 ?_
     exact Pk.of (thn_normal ⟨(IntKind.i64.wrap (v1 + 1)), (some_i H).symm, rfl, rfl⟩)
   ·refine T.exit ?_
    refine thn_exit ?_
    exact Pk.of (thn_exit ⟨.inl (), (some_i H).symm, rfl, rfl, rfl⟩)
  ·rcases q16 with ⟨⟩ | q2
   ·rintro _ _ _ ⟨rfl, rfl, rfl⟩
    refine inB_here ?_
    refine au 5 ?_
    cases some_i H
    exact ⟨trivial, _, (.tmp _ _ _ _ rfl .nil), (.cl _ rfl)⟩
   ·rintro _ fr1 σ1 ⟨rfl, hr⟩
    refine inB_ret (thn_ret ?_)
    cases some_i H
    exact hr
noncomputable def impl_yfindThing_1 (a0 : T_impl_Thing) (s0 : T_impl_Atom) : Option Bool :=
  some (a0.Ref_ == s0)
theorem impl_yfindThing_1_p (b0 : Bool) {a0 : T_impl_Thing} {s0 : T_impl_Atom} {R0 : Bool} (H : impl_yfindThing_1 a0 s0 = some R0) : St Tryz.prog 71 [.agg (c_T_impl_Thing b0 a0), .bx 0 0] [.box (c_T_impl_Atom false s0)] (.bool R0) [.box (c_T_impl_Atom false s0)] := by
 refine CallT.fin (CallT.of_TN (n := 8) Tryz.func71 rfl rfl rfl rfl ?_) rfl rfl ⟨(bels_iff.1 rfl), trivial⟩
 refine au 10 ?_
 refine TL.st rfl rfl rfl (o_eqA rfl rfl eqG_25 rfl rfl rfl rfl (eqT_25 a0.Ref_ s0)) ?_
 refine au 3 ?_
 cases some_i H
 exact ⟨trivial, _, (.tmp _ _ _ _ rfl .nil), ⟨rfl, _, rfl⟩⟩
theorem en_71 : En Tryz.prog 71 := .of Tryz.func71 rfl rfl
noncomputable def impl_Thing__l1 (a0 : (List T_impl_Thing)) (s0 : T_impl_Atom) : Int → Option (Int ⊕ (Unit ⊕ Int)) := fun s => match s with
  | v1 => cond (decide (v1 < (a0.length : Int))) ((idx a0 v1).bind fun e4 => (impl_yfindThing_1 e4 s0).bind fun r6 => cond r6 (some (.inr (.inr v1))) (some (.inl (IntKind.i64.wrap (v1 + 1))))) (some (.inr (.inl ())))
noncomputable def impl_Thing_ (a0 : (List T_impl_Thing)) (s0 : T_impl_Atom) : Option Int :=
  (loopO (impl_Thing__l1 a0 s0) 0).bind fun q8 => (match q8 with | .inl _ => some (-1) | .inr q2 => some q2)
theorem impl_Thing__p (b0 : Bool) {a0 : (List T_impl_Thing)} {s0 : T_impl_Atom} {R0 : Int} (H : impl_Thing_ a0 s0 = some R0) : St Tryz.prog 70 [.im b0 (a0.map (c_T_impl_Thing false)), .fn 71 [] [.bx 0 0]] [.box (c_T_impl_Atom false s0)] (.int .i64 R0) [.box (c_T_impl_Atom false s0)] := by
 refine CallT.fin (CallT.of_TN (n := 19) Tryz.func70 rfl rfl rfl rfl ?_) rfl rfl ⟨(bels_iff.1 rfl), trivial⟩
 refine au 8 ?_
 refine TL.st rfl rfl rfl (o_lenL (f := c_T_impl_Thing false) rfl rfl rfl) ?_
 refine au 3 ?_
 obtain ⟨q8, h9, H⟩ := bind_s H
 refine T.lq (fun s => match s with | v1 => [(0, .im b0 (a0.map (c_T_impl_Thing false))), (1, .fn 71 [] [.bx 0 0]), (7, .int .i64 (a0.length : Int)), (8, .int .i64 v1)]) (fun s => match s with | v1 => [.box (c_T_impl_Atom false s0)]) (fun q ex fr σ => match q with | .inl _ => ex = .exit 0 ∧ fr = [] ∧ σ = [.box (c_T_impl_Atom false s0)] | .inr q2 => ex = .ret ∧ RetN Tryz.prog [.tmp 4] (Fin [.box (c_T_impl_Atom false s0)] (.int .i64 q2)) .ret fr σ) h9 ?_ ?_
 ·rintro v1 y3 H
  refine au 5 ?_
  refine T.cH H (fun H h => ?_) (fun H h => ?_)
  ·refine au 13 ?_
   obtain ⟨e4, h5, H⟩ := bind_s H
   refine TL.st rfl rfl rfl (o_ix (f := c_T_impl_Thing false) rfl rfl tyS_63 rfl rfl h5 rfl) ?_
   refine TL.st rfl rfl rfl (o_loadRf rfl tyS_63 rfl (nb rfl) rfl) ?_
   obtain ⟨r6, h7, H⟩ := bind_s H
   refine TL.st rfl rfl rfl (o_callS [0] rfl en_71 rfl rfl (impl_yfindThing_1_p false h7) rfl (by decide) (.cons _ _ _ _ rfl .nil) rfl rfl rfl) ?_
   refine TL.nil ?_
   refine T.cH H (fun H h => ?_) (fun H h => ?_)
   ·refine au 6 ?_
    refine inB_ret (thn_ret ?_)
    exact Pk.id (thn_ret ⟨.inr v1, (some_i H).symm, rfl, ⟨trivial, _, (.tmp _ _ _ _ rfl .nil), ⟨rfl, _, rfl⟩⟩⟩)
   ·refine au 5 ?_
    exact Pk.of (thn_normal ⟨(IntKind.i64.wrap (v1 + 1)), (some_i H).symm, rfl, rfl⟩)
  ·refine T.exit ?_
   refine thn_exit ?_
   exact Pk.of (thn_exit ⟨.inl (), (some_i H).symm, rfl, rfl, rfl⟩)
 ·rcases q8 with ⟨⟩ | q2
  ·rintro _ _ _ ⟨rfl, rfl, rfl⟩
   refine inB_here ?_
   refine au 5 ?_
   cases some_i H
   exact ⟨trivial, _, (.tmp _ _ _ _ rfl .nil), ⟨rfl, _, rfl⟩⟩
  ·rintro _ fr1 σ1 ⟨rfl, hr⟩
   refine inB_ret (thn_ret ?_)
   cases some_i H
   exact hr
theorem en_70 : En Tryz.prog 70 := .of Tryz.func70 rfl rfl
noncomputable def impl_yfindThing (a0 : (List T_impl_Thing)) (a1 : T_impl_Atom) : Option (T_impl_Thing × Bool) :=
  (impl_Thing_ a0 a1).bind fun r1 => cond (decide (r1 < 0)) (some ((⟨(⟨0, 0, e0, e0⟩ : T_impl_Atom), ([] : List T_impl_Atom), ([] : List ByteArray), ([] : List T_impl_Value)⟩ : T_impl_Thing), false)) ((idx a0 r1).bind fun e3 => some (e3, true))
theorem impl_yfindThing_p (b0 : Bool) {a0 : (List T_impl_Thing)} {a1 : T_impl_Atom} {R0 : T_impl_Thing} {R1 : Bool} (H : impl_yfindThing a0 a1 = some (R0, R1)) : Pure Tryz.prog 43 [.im b0 (a0.map (c_T_impl_Thing false)), .agg (c_T_impl_Atom false a1)] (.tup [.agg (c_T_impl_Thing false R0), .bool R1]) := by
 refine CallT.of_TN (n := 17) Tryz.func43 rfl rfl rfl rfl ?_
 refine au 9 ?_
 refine TL.st rfl rfl rfl (o_makeFunc rfl rfl rfl) ?_
 obtain ⟨r1, h2, H⟩ := bind_s H
 refine TL.st rfl rfl rfl (o_callS [0] rfl en_70 rfl rfl (impl_Thing__p b0 h2) rfl (by decide) (.cons _ _ _ _ rfl .nil) rfl rfl rfl) ?_
 refine au 4 ?_
 refine T.conv (Cs.eqS (σ' := [.box (c_T_impl_Atom false a1), .box [.int .i64 0, .int .i64 0, .str e0, .str e0, .nilS, .nilS, .nilS]]) rfl) ?_
 refine au 4 ?_
 refine T.cH H (fun H h => ?_) (fun H h => ?_)
 ·refine au 7 ?_
  refine thn_ret ?_
  cases some_i H
  exact ⟨trivial, _, (.cell _ _ _ _ _ _ _ _ _ _ rfl rfl tyS_63 (nb rfl) rfl (.tmp _ _ _ _ rfl .nil)), (.tupL (.cons _ _ _ _ (.aggL (.cons _ _ _ _ (.cl _ rfl) (.cons _ _ _ _ (.cl _ rfl) (.cons _ _ _ _ (.cl _ rfl) (.cons _ _ _ _ (.cl _ rfl) (.cons _ _ _ _ .nil (.cons _ _ _ _ .nil (.cons _ _ _ _ .nil .nil)))))))) (.cons _ _ _ _ (.cl _ rfl) .nil)))⟩
 ·refine au 5 ?_
  obtain ⟨e3, h4, H⟩ := bind_s H
  refine TL.st rfl rfl rfl (o_ix (f := c_T_impl_Thing false) rfl rfl tyS_63 rfl rfl h4 rfl) ?_
  refine au 5 ?_
  cases some_i H
  exact ⟨trivial, _, (.cell _ _ _ _ _ _ _ _ _ _ rfl rfl tyS_63 (nb rfl) rfl (.tmp _ _ _ _ rfl .nil)), (.tupL (.cons _ _ _ _ (.cl _ rfl) (.cons _ _ _ _ (.cl _ rfl) .nil)))⟩
end Go.G36.AB
