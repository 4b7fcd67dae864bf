import Derived.Test.YtkhaafonmkjjmaaGreatDoorProg
import Derived.Test.YtkhaafonmkjjmaaGreatDoorFtLib
set_option linter.all false
set_option maxRecDepth 20000
set_option maxHeartbeats 4000000
namespace Go.G36.FT
open Go Go.Proofs Go.G36.MT

def c_int (k : IntKind) (x : Int) : List V:=[.int k x]
def c_bool (x : Bool) : List V:=[.bool x]
def c_str (x : ByteArray) : List V:=[.str x]
def c_raw (x : List V) : List V:=x
theorem map_raw (x : List (List V)) : x.map c_raw = x:=by
  induction x with
  | nil=>rfl
  | cons a l ih=>simp [ih,c_raw]
def c_sl {α : Type} (f : α → List V) (x : List α) : List V:=[.im false (x.map f)]

structure I_AttrType where
  Name_ : ByteArray
  Syntax_ : Int
  Single_ : Bool
deriving Inhabited
def c_I_AttrType (b : Bool) (x : I_AttrType) : List V:=[.str x.Name_,.int .i64 x.Syntax_,.bool x.Single_]
structure I_Class where
  Name_ : ByteArray
  Up_ : ByteArray
  Must_ : (List ByteArray)
  May_ : (List ByteArray)
deriving Inhabited
def c_I_Class (b : Bool) (x : I_Class) : List V:=[.str x.Name_,.str x.Up_,.im b (x.Must_.map (c_str)),.im b (x.May_.map (c_str))]
structure I_DirSchema where
  Types_ : (List I_AttrType)
  Classes_ : (List I_Class)
deriving Inhabited
def c_I_DirSchema (b : Bool) (x : I_DirSchema) : List V:=[.im b (x.Types_.map (c_I_AttrType false)),.im b (x.Classes_.map (c_I_Class false))]
structure I_Part where
  Attr_ : ByteArray
  Text_ : ByteArray
deriving Inhabited
@[reducible] instance : BEq I_Part:=⟨fun a b=>((a.Attr_.toList == b.Attr_.toList) && ((a.Text_.toList == b.Text_.toList) && true))⟩
def c_I_Part (b : Bool) (x : I_Part) : List V:=[.str x.Attr_,.str x.Text_]
structure I_Attr where
  Name_ : ByteArray
  Values_ : (List ByteArray)
deriving Inhabited
def c_I_Attr (b : Bool) (x : I_Attr) : List V:=[.str x.Name_,.im b (x.Values_.map (c_str))]
structure I_Entry where
  Name_ : (List I_Part)
  Attrs_ : (List I_Attr)
deriving Inhabited
def c_I_Entry (b : Bool) (x : I_Entry) : List V:=[.im b (x.Name_.map (c_I_Part false)),.im b (x.Attrs_.map (c_I_Attr false))]
structure I_FilterNode where
  Kind_ : Int
  Attr_ : ByteArray
  Text_ : ByteArray
  Kids_ : Int
deriving Inhabited
def c_I_FilterNode (b : Bool) (x : I_FilterNode) : List V:=[.int .i64 x.Kind_,.str x.Attr_,.str x.Text_,.int .i64 x.Kids_]
structure T_spec_l1Cur where
  code_ : (List Int)
  at_ : Int
  seed_ : Int
deriving Inhabited
def c_T_spec_l1Cur (b : Bool) (x : T_spec_l1Cur) : List V:=[.im b (x.code_.map (c_int .u8)),.int .i64 x.at_,.int .u64 x.seed_]
structure T_strings_Builder where
  addr_ : Unit
  buf_ : (List Int)
deriving Inhabited
structure T_spec_l3F where
  n_ : I_FilterNode
  kids_ : (List (List V))
deriving Inhabited
def c_T_spec_l3F (b : Bool) (x : T_spec_l3F) : List V:=((c_I_FilterNode b x.n_) ++ [.im b (x.kids_.map (c_raw))])
def dec_T_spec_l3F : List V → Option T_spec_l3F
  | [.int .i64 y2,.str y3,.str y4,.int .i64 y5,.im false y6]=>some ⟨(⟨y2,y3,y4,y5⟩ : I_FilterNode),y6⟩
  | _=>none
theorem dec_T_spec_l3F_s {r : List V} {x : T_spec_l3F} (h : dec_T_spec_l3F r = some x) : c_raw r = c_T_spec_l3F false x:=by
  unfold dec_T_spec_l3F at h
  split at h
  · injection h with h; subst h; simp [c_raw,c_T_spec_l3F,map_raw,c_I_FilterNode]
  · cases h

theorem tyS_26 : TyS Tryz.prog 26 true 2:=⟨rfl,rfl⟩
theorem tyS_9 : TyS Tryz.prog 9 false 1:=⟨rfl,rfl⟩
theorem tyS_106 : TyS Tryz.prog 106 true 3:=⟨rfl,rfl⟩
theorem tyS_3 : TyS Tryz.prog 3 false 1:=⟨rfl,rfl⟩
theorem tyS_4 : TyS Tryz.prog 4 false 1:=⟨rfl,rfl⟩
theorem tyS_22 : TyS Tryz.prog 22 false 1:=⟨rfl,rfl⟩
theorem tyS_5 : TyS Tryz.prog 5 false 1:=⟨rfl,rfl⟩
noncomputable def spec_l1Cur_next_j1 (s0 : T_spec_l1Cur) (v1 : Int) : Option (Int × T_spec_l1Cur) :=
  cond (decide ((IntKind.i64.wrap (s0.at_ + 1)) ≤ (s0.code_.length : Int))) (some (v1,(⟨s0.code_,(IntKind.i64.wrap (s0.at_ + 1)),(IntKind.u64.wrap ((IntKind.u64.wrap ((IntKind.u64.wrap (s0.seed_ * 6364136223846793005)) + (IntKind.u64.wrap v1))) + 1442695040888963407))⟩ : T_spec_l1Cur))) (some ((IntKind.i64.wrap (IntKind.u64.wrap (BitVec.ofInt IntKind.u64.bits (Int.fdiv (IntKind.u64.wrap ((IntKind.u64.wrap ((IntKind.u64.wrap (s0.seed_ * 6364136223846793005)) + (IntKind.u64.wrap v1))) + 1442695040888963407)) (2 ^ (min (Int.toNat 40) IntKind.u64.bits))) &&& BitVec.ofInt IntKind.u64.bits 255).toNat)),(⟨s0.code_,(IntKind.i64.wrap (s0.at_ + 1)),(IntKind.u64.wrap ((IntKind.u64.wrap ((IntKind.u64.wrap (s0.seed_ * 6364136223846793005)) + (IntKind.u64.wrap v1))) + 1442695040888963407))⟩ : T_spec_l1Cur)))
noncomputable def spec_l1Cur_next (s0 : T_spec_l1Cur) : Option (Int × T_spec_l1Cur) :=
  cond (decide (s0.at_ < (s0.code_.length : Int))) ((idx s0.code_ s0.at_).bind fun e2=>spec_l1Cur_next_j1 s0 (IntKind.i64.wrap e2)) (spec_l1Cur_next_j1 s0 0)
theorem spec_l1Cur_next_p (c0 : Bool) {s0 : T_spec_l1Cur} {R0 : Int} {U0 : T_spec_l1Cur} (H : spec_l1Cur_next s0 = some (R0,U0)) : St Tryz.prog 89 [.bx 0 0] [.box (c_T_spec_l1Cur c0 s0)] (.int .i64 R0) [.box (c_T_spec_l1Cur c0 U0)]:=by
 refine CallT.fin (CallT.of_TN (n:=62) Tryz.func89 rfl rfl rfl rfl ?_) rfl rfl ⟨(bels_iff.1 rfl),trivial⟩
 refine au 8 ?_
 refine T.cut (fun fr' σ'=>∃ (v1 : Int),fr' = [(0,.bx 0 0),(3,.int .i64 v1)] ∧ σ' = [.box (c_T_spec_l1Cur c0 s0)] ∧ spec_l1Cur_next_j1 s0 v1 = some (R0,U0)) (T.pk ?_) ?_
 ·skip
  refine T.seq ?_
  refine T.drawn rfl ?_
  refine ad 8 ?_
  refine TD.qs rfl rfl (fun _=>o_lenL (f:=c_int .u8) rfl rfl rfl) ?_
  refine TD.qs rfl rfl (fun _=>o_ari rfl rfl rfl rfl) ?_
  refine TD.nil ⟨rfl,?_⟩
  refine thn_normal ?_
  refine T.cH H ?_ ?_<;>intro H h
  ·refine T.drawn rfl ?_
   refine ad 8 ?_
   obtain ⟨e2,h3,H⟩:=bind_s H
   refine TD.qs rfl rfl (fun _=>o_ix (f:=c_int .u8) rfl rfl tyS_5 rfl rfl h3 rfl) ?_
   refine TD.qs rfl rfl (fun _=>o_loadRf rfl tyS_5 rfl (nb rfl) rfl) ?_
   refine TD.qs rfl rfl (fun _=>o_conv rfl rfl ⟨_,rfl⟩ rfl) ?_
   refine TD.qs rfl rfl (fun _=>o_assign rfl rfl) ?_
   refine TD.nil ⟨rfl,?_⟩
   exact Pk.of (thn_normal ⟨(IntKind.i64.wrap e2),rfl,rfl,H⟩)
  ·refine T.skip ?_
   exact Pk.of (thn_normal ⟨0,rfl,rfl,H⟩)
 ·rintro _ _ ⟨v1,rfl,rfl,H⟩
  refine au 20 ?_
  refine TL.st rfl rfl rfl (o_conv rfl rfl ⟨_,rfl⟩ rfl) ?_
  refine au 8 ?_
  refine T.drawn rfl ?_
  refine ad 8 ?_
  refine TD.qs rfl rfl (fun _=>o_lenL (f:=c_int .u8) rfl rfl rfl) ?_
  refine TD.qs rfl rfl (fun _=>o_ari rfl rfl rfl rfl) ?_
  refine TD.nil ⟨rfl,?_⟩
  refine thn_normal ?_
  refine T.cH H ?_ ?_<;>intro H h
  ·refine au 6 ?_
   refine thn_ret ?_
   cases some_i H
   exact ⟨trivial,_,(.tmp _ _ _ _ rfl .nil),⟨rfl,_,rfl⟩⟩
  ·refine au 7 ?_
   refine TL.st rfl rfl rfl (o_shr rfl rfl rfl (by decide)) ?_
   refine TL.st rfl rfl rfl (o_bits rfl rfl rfl rfl) ?_
   refine TL.st rfl rfl rfl (o_conv rfl rfl ⟨_,rfl⟩ rfl) ?_
   refine au 3 ?_
   cases some_i H
   exact ⟨trivial,_,(.tmp _ _ _ _ rfl .nil),⟨rfl,_,rfl⟩⟩
theorem en_89 : En Tryz.prog 89:=.of Tryz.func89 rfl rfl
noncomputable def spec_l1Cur_pick_j1 (a0 : Int) (b4 : T_spec_l1Cur) (v5 : Int) : Option (Int × T_spec_l1Cur) :=
  (nz a0).bind fun z6=>some ((Int.tmod v5 a0),b4)
noncomputable def spec_l1Cur_pick (a0 : Int) (s0 : T_spec_l1Cur) : Option (Int × T_spec_l1Cur) :=
  cond (decide (a0 ≤ 1)) (some (0,s0)) ((spec_l1Cur_next s0).bind fun q=>(match q with | (r1,o2)=>cond (decide (a0 > 200)) ((spec_l1Cur_next o2).bind fun q=>(match q with | (r8,o9)=>spec_l1Cur_pick_j1 a0 o9 (IntKind.i64.wrap ((IntKind.i64.wrap (r1 * 256)) + r8)))) (spec_l1Cur_pick_j1 a0 o2 r1)))
theorem spec_l1Cur_pick_p (c0 : Bool) {a0 : Int} {s0 : T_spec_l1Cur} {R0 : Int} {U0 : T_spec_l1Cur} (H : spec_l1Cur_pick a0 s0 = some (R0,U0)) : St Tryz.prog 42 [.bx 0 0,.int .i64 a0] [.box (c_T_spec_l1Cur c0 s0)] (.int .i64 R0) [.box (c_T_spec_l1Cur c0 U0)]:=by
 refine CallT.fin (CallT.of_TN (n:=20) Tryz.func42 rfl rfl rfl rfl ?_) rfl rfl ⟨(bels_iff.1 rfl),trivial⟩
 refine au 10 ?_
 refine T.cH H ?_ ?_<;>intro H h
 ·refine au 5 ?_
  refine thn_ret ?_
  cases some_i H
  exact ⟨trivial,_,(.tmp _ _ _ _ rfl .nil),⟨rfl,_,rfl⟩⟩
 ·refine au 4 ?_
  obtain ⟨⟨r1,o2⟩,h3,H⟩:=bind_s H
  refine TL.st rfl rfl rfl (o_callS [0] rfl en_89 rfl rfl (spec_l1Cur_next_p c0 h3) rfl (by decide) (.cons _ _ _ _ rfl .nil) rfl rfl rfl) ?_
  refine au 2 ?_
  refine T.cut (fun fr' σ'=>∃ (b4 : T_spec_l1Cur) (v5 : Int),fr' = [(1,.int .i64 a0),(5,.int .i64 v5)] ∧ σ' = [.box (c_T_spec_l1Cur c0 b4)] ∧ spec_l1Cur_pick_j1 a0 b4 v5 = some (R0,U0)) (T.pk ?_) ?_
  ·skip
   refine au 5 ?_
   refine T.cH H ?_ ?_<;>intro H h
   ·refine au 4 ?_
    obtain ⟨⟨r8,o9⟩,h10,H⟩:=bind_s H
    refine TL.st rfl rfl rfl (o_callS [0] rfl en_89 rfl rfl (spec_l1Cur_next_p c0 h10) rfl (by decide) (.cons _ _ _ _ rfl .nil) rfl rfl rfl) ?_
    refine au 3 ?_
    exact Pk.of (thn_normal ⟨o9,(IntKind.i64.wrap ((IntKind.i64.wrap (r1 * 256)) + r8)),rfl,rfl,H⟩)
   ·refine T.skip ?_
    exact Pk.of (thn_normal ⟨o2,r1,rfl,rfl,H⟩)
  ·rintro _ _ ⟨b4,v5,rfl,rfl,H⟩
   refine au 4 ?_
   obtain ⟨z6,h7,H⟩:=bind_s H
   refine TL.st rfl rfl rfl (o_rem rfl rfl rfl (nz_s h7).1) ?_
   refine au 3 ?_
   cases some_i H
   exact ⟨trivial,_,(.tmp _ _ _ _ rfl .nil),⟨rfl,_,rfl⟩⟩
theorem en_42 : En Tryz.prog 42:=.of Tryz.func42 rfl rfl
noncomputable def spec_l1Cur_one (a0 : Int) (s0 : T_spec_l1Cur) : Option (Bool × T_spec_l1Cur) :=
  (spec_l1Cur_pick a0 s0).bind fun q=>(match q with | (r1,o2)=>some ((r1 == 0),o2))
theorem spec_l1Cur_one_p (c0 : Bool) {a0 : Int} {s0 : T_spec_l1Cur} {R0 : Bool} {U0 : T_spec_l1Cur} (H : spec_l1Cur_one a0 s0 = some (R0,U0)) : St Tryz.prog 41 [.bx 0 0,.int .i64 a0] [.box (c_T_spec_l1Cur c0 s0)] (.bool R0) [.box (c_T_spec_l1Cur c0 U0)]:=by
 refine CallT.fin (CallT.of_TN (n:=9) Tryz.func41 rfl rfl rfl rfl ?_) rfl rfl ⟨(bels_iff.1 rfl),trivial⟩
 refine au 8 ?_
 obtain ⟨⟨r1,o2⟩,h3,H⟩:=bind_s H
 refine TL.st rfl rfl rfl (o_callS [0] rfl en_42 rfl rfl (spec_l1Cur_pick_p c0 h3) rfl (by decide) (.cons _ _ _ _ rfl .nil) rfl rfl rfl) ?_
 refine au 4 ?_
 cases some_i H
 exact ⟨trivial,_,(.tmp _ _ _ _ rfl .nil),⟨rfl,_,rfl⟩⟩
theorem en_41 : En Tryz.prog 41:=.of Tryz.func41 rfl rfl
theorem tyS_23 : TyS Tryz.prog 23 false 1:=⟨rfl,rfl⟩
theorem tyE_106 : TyE Tryz.prog 106 3:=⟨_,_,rfl,rfl,rfl,rfl,by decide,by decide⟩
def k_impl_DirSchema (a1 a2 : Nat) (b : Bool) (x : I_DirSchema) : List V:=[.hd a1 (x.Types_.map (c_I_AttrType false)).length 0 (x.Types_.map (c_I_AttrType false)).length,.hd a2 (x.Classes_.map (c_I_Class false)).length 0 (x.Classes_.map (c_I_Class false)).length]
theorem tyS_108 : TyS Tryz.prog 108 true 4:=⟨rfl,rfl⟩
theorem tyS_43 : TyS Tryz.prog 43 false 1:=⟨rfl,rfl⟩
noncomputable def spec_l3Type_l1 (a0 : I_DirSchema) (a1 : ByteArray) : Int → Option (Int ⊕ (Unit ⊕ (I_AttrType × Bool))):=fun s=>match s with
  | v1=>cond (decide (v1 < (a0.Types_.length : Int))) ((idx a0.Types_ v1).bind fun e4=>cond (e4.Name_.toList == a1.toList) (some (.inr (.inr (e4,true)))) (some (.inl (IntKind.i64.wrap (v1 + 1))))) (some (.inr (.inl ())))
noncomputable def spec_l3Type (a0 : I_DirSchema) (a1 : ByteArray) : Option (I_AttrType × Bool) :=
  (loopO (spec_l3Type_l1 a0 a1) 0).bind fun q6=>(match q6 with | .inl _=>some ((⟨e0,0,false⟩ : I_AttrType),false) | .inr q2=>some q2)
theorem spec_l3Type_p (b0 : Bool) {a0 : I_DirSchema} {a1 : ByteArray} {R0 : I_AttrType} {R1 : Bool} (H : spec_l3Type a0 a1 = some (R0,R1)) : Pure Tryz.prog 65 [.agg (c_I_DirSchema b0 a0),.str a1] (.tup [.agg (c_I_AttrType false R0),.bool R1]):=by
 refine CallT.of_TN (n:=22) Tryz.func65 rfl rfl rfl rfl ?_
 refine au 11 ?_
 refine TL.st rfl rfl rfl (o_lenL (f:=c_I_AttrType false) rfl rfl rfl) ?_
 refine au 3 ?_
 obtain ⟨q6,h7,H⟩:=bind_s H
 refine T.lq (fun s=>match s with | v1=>[(1,.str a1),(4,.bx 1 0),(9,.im b0 (a0.Types_.map (c_I_AttrType false))),(10,.int .i64 (a0.Types_.length : Int)),(11,.int .i64 v1)]) (fun s=>match s with | v1=>[.box (c_I_DirSchema b0 a0),.box [.str e0,.int .i64 0,.bool false]]) (fun q ex fr σ=>match q with | .inl _=>ex = .exit 0 ∧ fr = [(4,.bx 1 0)] ∧ σ = [.box (c_I_DirSchema b0 a0),.box [.str e0,.int .i64 0,.bool false]] | .inr q2=>ex = .ret ∧ RetN Tryz.prog [.cell 4 106,.tmp 5] (fun v τ=>Told τ v (.tup [.agg (c_I_AttrType false q2.1),.bool q2.2])) .ret fr σ) h7 ?_ ?_
 ·rintro v1 y3 H
  refine au 5 ?_
  refine T.cH H ?_ ?_<;>intro H h
  ·refine au 5 ?_
   obtain ⟨e4,h5,H⟩:=bind_s H
   refine TL.st rfl rfl rfl (o_ix (f:=c_I_AttrType false) rfl rfl tyS_106 rfl rfl h5 rfl) ?_
   refine au 11 ?_
   refine T.cH H ?_ ?_<;>intro H h
   ·refine au 6 ?_
    refine T.conv (Cs.eqS (σ':=[_,.box (c_I_AttrType false e4),.box (c_I_AttrType false e4)]) rfl) ?_
    refine T.ret ?_
    refine inB_ret (thn_ret ?_)
    exact Pk.id (thn_ret ⟨.inr (e4,true),(some_i H).symm,rfl,⟨trivial,_,(.cell _ _ _ _ _ _ _ _ _ _ rfl rfl tyS_106 (nb rfl) rfl (.tmp _ _ _ _ rfl .nil)),(.tupL (.cons _ _ _ _ (.cl _ rfl) (.cons _ _ _ _ (.cl _ rfl) .nil)))⟩⟩)
   ·refine au 5 ?_
    exact Pk.of (thn_normal ⟨(IntKind.i64.wrap (v1 + 1)),(some_i H).symm,rfl,rfl⟩)
  ·refine T.exit ?_
   refine thn_exit ?_
   exact Pk.of (thn_exit ⟨.inl (),(some_i H).symm,rfl,rfl,rfl⟩)
 ·rcases q6 with ⟨⟩ | q2
  ·rintro _ _ _ ⟨rfl,rfl,rfl⟩
   refine inB_here ?_
   refine au 7 ?_
   cases some_i H
   exact ⟨trivial,_,(.cell _ _ _ _ _ _ _ _ _ _ rfl rfl tyS_106 (nb rfl) rfl (.tmp _ _ _ _ rfl .nil)),(.tupL (.cons _ _ _ _ (.cl _ rfl) (.cons _ _ _ _ (.cl _ rfl) .nil)))⟩
  ·rintro _ fr1 σ1 ⟨rfl,hr⟩
   refine inB_ret (thn_ret ?_)
   cases some_i H
   exact hr
theorem en_65 : En Tryz.prog 65:=.of Tryz.func65 rfl rfl
theorem tyE_9 : TyE Tryz.prog 9 1:=⟨_,_,rfl,rfl,rfl,rfl,by decide,by decide⟩
theorem tyE_43 : TyE Tryz.prog 43 1:=⟨_,_,rfl,rfl,rfl,rfl,by decide,by decide⟩
theorem tyS_24 : TyS Tryz.prog 24 false 1:=⟨rfl,rfl⟩
theorem tyE_108 : TyE Tryz.prog 108 4:=⟨_,_,rfl,rfl,rfl,rfl,by decide,by decide⟩
noncomputable def spec_l1Cur_dirSchema_l4 (b6 : I_DirSchema) (e22 : (List ByteArray)) : (List ByteArray × Int) → Option ((List ByteArray × Int) ⊕ List ByteArray):=fun s=>match s with
  | (l24,v25)=>cond (decide (v25 < (e22.length : Int))) ((idx e22 v25).bind fun e30=>(spec_l3Type b6 e30).bind fun q=>(match q with | (r32,r33)=>cond r33 ((app l24 ([e30] : List ByteArray)).bind fun l35=>some (.inl (l35,(IntKind.i64.wrap (v25 + 1))))) (some (.inl (l24,(IntKind.i64.wrap (v25 + 1))))))) (some (.inr l24))
noncomputable def spec_l1Cur_dirSchema_l3 (b6 : I_DirSchema) (e10 : I_Class) : (List (List ByteArray) × Int) → Option ((List (List ByteArray) × Int) ⊕ List (List ByteArray)):=fun s=>match s with
  | (l12,v13)=>cond (decide (v13 < (([e10.Must_,e10.May_] : List (List ByteArray)).length : Int))) ((idx ([e10.Must_,e10.May_] : List (List ByteArray)) v13).bind fun e22=>(loopO (spec_l1Cur_dirSchema_l4 b6 e22) (([] : List ByteArray),0)).bind fun l26=>(match l26 with | l26=>(app l12 ([l26] : List (List ByteArray))).bind fun l27=>some (.inl (l27,(IntKind.i64.wrap (v13 + 1)))))) (some (.inr l12))
noncomputable def spec_l1Cur_dirSchema_l2  : (I_DirSchema × Int) → Option ((I_DirSchema × Int) ⊕ I_DirSchema):=fun s=>match s with
  | (b6,v7)=>cond (decide (v7 < (([(⟨(ByteArray.mk #[71,114,111,117,112]),(ByteArray.mk #[84,111,112]),([] : List ByteArray),([(ByteArray.mk #[109,101,109,98,101,114])] : List ByteArray)⟩ : I_Class),(⟨(ByteArray.mk #[80,101,114,115,111,110]),(ByteArray.mk #[84,111,112]),([(ByteArray.mk #[99,110])] : List ByteArray),([(ByteArray.mk #[97,103,101]),(ByteArray.mk #[98,111,115,115]),(ByteArray.mk #[109,97,105,108])] : List ByteArray)⟩ : I_Class),(⟨(ByteArray.mk #[83,116,97,102,102]),(ByteArray.mk #[80,101,114,115,111,110]),([(ByteArray.mk #[97,103,101])] : List ByteArray),([] : List ByteArray)⟩ : I_Class),(⟨(ByteArray.mk #[84,111,112]),e0,([] : List ByteArray),([(ByteArray.mk #[111,117]),(ByteArray.mk #[114,101,102])] : List ByteArray)⟩ : I_Class)] : List I_Class).length : Int))) ((idx ([(⟨(ByteArray.mk #[71,114,111,117,112]),(ByteArray.mk #[84,111,112]),([] : List ByteArray),([(ByteArray.mk #[109,101,109,98,101,114])] : List ByteArray)⟩ : I_Class),(⟨(ByteArray.mk #[80,101,114,115,111,110]),(ByteArray.mk #[84,111,112]),([(ByteArray.mk #[99,110])] : List ByteArray),([(ByteArray.mk #[97,103,101]),(ByteArray.mk #[98,111,115,115]),(ByteArray.mk #[109,97,105,108])] : List ByteArray)⟩ : I_Class),(⟨(ByteArray.mk #[83,116,97,102,102]),(ByteArray.mk #[80,101,114,115,111,110]),([(ByteArray.mk #[97,103,101])] : List ByteArray),([] : List ByteArray)⟩ : I_Class),(⟨(ByteArray.mk #[84,111,112]),e0,([] : List ByteArray),([(ByteArray.mk #[111,117]),(ByteArray.mk #[114,101,102])] : List ByteArray)⟩ : I_Class)] : List I_Class) v7).bind fun e10=>(loopO (spec_l1Cur_dirSchema_l3 b6 e10) (([] : List (List ByteArray)),0)).bind fun l14=>(match l14 with | l14=>(idx l14 0).bind fun e15=>(idx l14 1).bind fun e17=>(app b6.Classes_ ([(⟨e10.Name_,e10.Up_,e15,e17⟩ : I_Class)] : List I_Class)).bind fun l19=>some (.inl ((⟨b6.Types_,l19⟩ : I_DirSchema),(IntKind.i64.wrap (v7 + 1)))))) (some (.inr b6))
noncomputable def spec_l1Cur_dirSchema_j1 (b1 : T_spec_l1Cur) (b2 : I_DirSchema) (v3 : Int) (e44 : ByteArray) (b46 : I_AttrType) : Option ((T_spec_l1Cur × I_DirSchema × Int) ⊕ (T_spec_l1Cur × I_DirSchema)) :=
  (cond (!(e44.toList == (ByteArray.mk #[99,108,97,115,115]).toList)) (spec_l1Cur_one 9 b1) (some (default,b1))).bind fun q=>(match q with | (r47,o48)=>cond ((e44.toList == (ByteArray.mk #[99,108,97,115,115]).toList) || (!r47)) ((app b2.Types_ ([b46] : List I_AttrType)).bind fun l50=>some (.inl (o48,(⟨l50,b2.Classes_⟩ : I_DirSchema),(IntKind.i64.wrap (v3 + 1))))) (some (.inl (o48,b2,(IntKind.i64.wrap (v3 + 1))))))
noncomputable def spec_l1Cur_dirSchema_j2 (b1 : T_spec_l1Cur) (b2 : I_DirSchema) (v3 : Int) (e44 : ByteArray) (v52 : Bool) : Option ((T_spec_l1Cur × I_DirSchema × Int) ⊕ (T_spec_l1Cur × I_DirSchema)) :=
  cond v52 (spec_l1Cur_dirSchema_j1 b1 b2 v3 e44 (⟨e44,4,(e44.toList == (ByteArray.mk #[98,111,115,115]).toList)⟩ : I_AttrType)) (cond (e44.toList == (ByteArray.mk #[109,97,105,108]).toList) (spec_l1Cur_dirSchema_j1 b1 b2 v3 e44 (⟨e44,2,false⟩ : I_AttrType)) (spec_l1Cur_dirSchema_j1 b1 b2 v3 e44 (⟨e44,1,false⟩ : I_AttrType)))
noncomputable def spec_l1Cur_dirSchema_l1  : (T_spec_l1Cur × I_DirSchema × Int) → Option ((T_spec_l1Cur × I_DirSchema × Int) ⊕ (T_spec_l1Cur × I_DirSchema)):=fun s=>match s with
  | (b1,b2,v3)=>cond (decide (v3 < (([(ByteArray.mk #[97,103,101]),(ByteArray.mk #[98,111,115,115]),(ByteArray.mk #[99,108,97,115,115]),(ByteArray.mk #[99,110]),(ByteArray.mk #[109,97,105,108]),(ByteArray.mk #[109,101,109,98,101,114]),(ByteArray.mk #[111,117]),(ByteArray.mk #[114,101,102])] : List ByteArray).length : Int))) ((idx ([(ByteArray.mk #[97,103,101]),(ByteArray.mk #[98,111,115,115]),(ByteArray.mk #[99,108,97,115,115]),(ByteArray.mk #[99,110]),(ByteArray.mk #[109,97,105,108]),(ByteArray.mk #[109,101,109,98,101,114]),(ByteArray.mk #[111,117]),(ByteArray.mk #[114,101,102])] : List ByteArray) v3).bind fun e44=>cond (e44.toList == (ByteArray.mk #[99,108,97,115,115]).toList) (spec_l1Cur_dirSchema_j1 b1 b2 v3 e44 (⟨e44,2,false⟩ : I_AttrType)) (cond (e44.toList == (ByteArray.mk #[97,103,101]).toList) (spec_l1Cur_dirSchema_j1 b1 b2 v3 e44 (⟨e44,3,true⟩ : I_AttrType)) (cond (e44.toList == (ByteArray.mk #[98,111,115,115]).toList) (spec_l1Cur_dirSchema_j2 b1 b2 v3 e44 (e44.toList == (ByteArray.mk #[98,111,115,115]).toList)) (spec_l1Cur_dirSchema_j2 b1 b2 v3 e44 (e44.toList == (ByteArray.mk #[109,101,109,98,101,114]).toList))))) (some (.inr (b1,b2)))
noncomputable def spec_l1Cur_dirSchema (s0 : T_spec_l1Cur) : Option (I_DirSchema × T_spec_l1Cur) :=
  (loopO (spec_l1Cur_dirSchema_l1) (s0,(⟨([] : List I_AttrType),([] : List I_Class)⟩ : I_DirSchema),0)).bind fun q53=>(match q53 with | (b4,b5)=>(loopO (spec_l1Cur_dirSchema_l2) (b5,0)).bind fun b8=>(match b8 with | b8=>some (b8,b4)))
theorem en_25 : En Tryz.prog 25:=.of Tryz.func25 rfl rfl
theorem spec_l1Cur_dirSchema_o (c0 : Bool) {s0 : T_spec_l1Cur} {R0 : I_DirSchema} {U0 : T_spec_l1Cur} (H : spec_l1Cur_dirSchema s0 = some (R0, U0)) : St Tryz.prog 25 [.bx 0 0] [.box (c_T_spec_l1Cur c0 s0)] (.agg [.hd 1 (R0.Types_.map (c_I_AttrType false)).length 0 (R0.Types_.map (c_I_AttrType false)).length, .hd 2 (R0.Classes_.map (c_I_Class false)).length 0 (R0.Classes_.map (c_I_Class false)).length]) [.box (c_T_spec_l1Cur c0 U0), .arr .clo 3 (R0.Types_.map (c_I_AttrType false)), .arr .clo 4 (R0.Classes_.map (c_I_Class false))] := by
 refine CallT.finR (CallT.of_TN (n:=122) Tryz.func25 rfl rfl rfl rfl ?_) rfl rfl ⟨(bels_iff.1 rfl),⟨trivial,⟨trivial,trivial⟩⟩⟩
 refine T.conv Cs.pushDead ?_
 refine T.conv Cs.pushDead ?_
 refine T.conv (Cs.wkF (M:=3) (.k 0 rfl rfl .nil)) ?_
 refine T.conv (Cs.eqS (σ':=[.box (c_T_spec_l1Cur c0 s0),.dead,.dead]) rfl) ?_
 refine au 12 ?_
 refine T.conv (Cs.eqS (σ':=[_,_,_,.box [.nilS,.nilS],.box [.nilS,.nilS]]) rfl) ?_
 refine T.region ?_
 refine TL.st rfl rfl rfl (o_sliceIm (rows:=([(ByteArray.mk #[97,103,101]),(ByteArray.mk #[98,111,115,115]),(ByteArray.mk #[99,108,97,115,115]),(ByteArray.mk #[99,110]),(ByteArray.mk #[109,97,105,108]),(ByteArray.mk #[109,101,109,98,101,114]),(ByteArray.mk #[111,117]),(ByteArray.mk #[114,101,102])] : List ByteArray).map (c_str)) rfl rfl tyS_9 ⟨_,rfl,rfl⟩ (by decide) rfl rfl rfl rfl rfl rfl) ?_
 refine TL.st rfl rfl rfl (o_lenL (f:=c_str) rfl rfl rfl) ?_
 refine au 3 ?_
 refine T.conv (Cs.ownCell (p:=4) 0 3 rfl rfl (by decide)) ?_
 refine T.conv (Cs.ownCell (p:=4) 1 4 rfl rfl (by decide)) ?_
 obtain ⟨q53,h54,H⟩:=bind_s H
 refine T.lq (fun s=>match s with | (b1,b2,v3)=>[(0,.bx 0 0),(2,.bx 3 0),(3,.bx 4 0),(18,.im false (([(ByteArray.mk #[97,103,101]),(ByteArray.mk #[98,111,115,115]),(ByteArray.mk #[99,108,97,115,115]),(ByteArray.mk #[99,110]),(ByteArray.mk #[109,97,105,108]),(ByteArray.mk #[109,101,109,98,101,114]),(ByteArray.mk #[111,117]),(ByteArray.mk #[114,101,102])] : List ByteArray).map (c_str))),(19,.int .i64 (([(ByteArray.mk #[97,103,101]),(ByteArray.mk #[98,111,115,115]),(ByteArray.mk #[99,108,97,115,115]),(ByteArray.mk #[99,110]),(ByteArray.mk #[109,97,105,108]),(ByteArray.mk #[109,101,109,98,101,114]),(ByteArray.mk #[111,117]),(ByteArray.mk #[114,101,102])] : List ByteArray).length : Int)),(20,.int .i64 v3)]) (fun s=>match s with | (b1,b2,v3)=>[.box (c_T_spec_l1Cur c0 b1),.dead,.dead,.box [.nilS,.nilS],.box (k_impl_DirSchema 5 6 false b2),.arr .clo 3 (b2.Types_.map (c_I_AttrType false)),.arr .clo 4 (b2.Classes_.map (c_I_Class false))]) (fun q ex fr σ=>match q with | (b4,b5)=>ex = .exit 0 ∧ fr = [(2,.bx 3 0),(3,.bx 4 0)] ∧ σ = [.box (c_T_spec_l1Cur c0 b4),.dead,.dead,.box [.nilS,.nilS],.box (k_impl_DirSchema 5 6 false b5),.arr .clo 3 (b5.Types_.map (c_I_AttrType false)),.arr .clo 4 (b5.Classes_.map (c_I_Class false))]) h54 ?_ ?_
 ·rintro ⟨b1, b2, v3⟩ y43 H
  refine au 5 ?_
  refine T.cH H ?_ ?_<;>intro H h
  ·refine au 5 ?_
   obtain ⟨e44,h45,H⟩:=bind_s H
   refine TL.st rfl rfl rfl (o_ix (f:=c_str) rfl rfl tyS_9 rfl rfl h45 rfl) ?_
   refine au 10 ?_
   refine T.cut (fun fr' σ'=>∃ (b46 : I_AttrType),fr' = [(0,.bx 0 0),(2,.bx 3 0),(3,.bx 4 0),(5,.str e44),(6,.bx 7 0),(18,.im false (([(ByteArray.mk #[97,103,101]),(ByteArray.mk #[98,111,115,115]),(ByteArray.mk #[99,108,97,115,115]),(ByteArray.mk #[99,110]),(ByteArray.mk #[109,97,105,108]),(ByteArray.mk #[109,101,109,98,101,114]),(ByteArray.mk #[111,117]),(ByteArray.mk #[114,101,102])] : List ByteArray).map (c_str))),(19,.int .i64 (([(ByteArray.mk #[97,103,101]),(ByteArray.mk #[98,111,115,115]),(ByteArray.mk #[99,108,97,115,115]),(ByteArray.mk #[99,110]),(ByteArray.mk #[109,97,105,108]),(ByteArray.mk #[109,101,109,98,101,114]),(ByteArray.mk #[111,117]),(ByteArray.mk #[114,101,102])] : List ByteArray).length : Int)),(20,.int .i64 v3)] ∧ σ' = [.box (c_T_spec_l1Cur c0 b1),.dead,.dead,.box [.nilS,.nilS],.box (k_impl_DirSchema 5 6 false b2),.arr .clo 3 (b2.Types_.map (c_I_AttrType false)),.arr .clo 4 (b2.Classes_.map (c_I_Class false)),.box (c_I_AttrType false b46)] ∧ spec_l1Cur_dirSchema_j1 b1 b2 v3 e44 b46 = some y43) (T.pk ?_) ?_
   ·skip
    refine au 10 ?_
    refine T.cH H ?_ ?_<;>intro H h
    ·refine au 4 ?_
     refine inB_normal ?_
     exact Pk.of (thn_normal ⟨(⟨e44,2,false⟩ : I_AttrType),rfl,rfl,H⟩)
    ·refine au 5 ?_
     refine T.cH H ?_ ?_<;>intro H h
     ·refine au 5 ?_
      refine T.conv (Cs.eqS (σ':=[_,_,_,_,_,_,_,.box [.str e44,.int .i64 3,.bool false]]) rfl) ?_
      refine au 4 ?_
      refine inB_normal ?_
      exact Pk.of (thn_normal ⟨(⟨e44,3,true⟩ : I_AttrType),rfl,rfl,H⟩)
     ·refine T.cut (fun fr' σ'=>∃ (v52 : Bool),fr' = [(0,.bx 0 0),(2,.bx 3 0),(3,.bx 4 0),(5,.str e44),(6,.bx 7 0),(18,.im false (([(ByteArray.mk #[97,103,101]),(ByteArray.mk #[98,111,115,115]),(ByteArray.mk #[99,108,97,115,115]),(ByteArray.mk #[99,110]),(ByteArray.mk #[109,97,105,108]),(ByteArray.mk #[109,101,109,98,101,114]),(ByteArray.mk #[111,117]),(ByteArray.mk #[114,101,102])] : List ByteArray).map (c_str))),(19,.int .i64 (([(ByteArray.mk #[97,103,101]),(ByteArray.mk #[98,111,115,115]),(ByteArray.mk #[99,108,97,115,115]),(ByteArray.mk #[99,110]),(ByteArray.mk #[109,97,105,108]),(ByteArray.mk #[109,101,109,98,101,114]),(ByteArray.mk #[111,117]),(ByteArray.mk #[114,101,102])] : List ByteArray).length : Int)),(20,.int .i64 v3),(26,.str e44),(34,.bool v52)] ∧ σ' = [.box (c_T_spec_l1Cur c0 b1),.dead,.dead,.box [.nilS,.nilS],.box (k_impl_DirSchema 5 6 false b2),.arr .clo 3 (b2.Types_.map (c_I_AttrType false)),.arr .clo 4 (b2.Classes_.map (c_I_Class false)),.box [.str e44,.int .i64 1,.bool false]] ∧ spec_l1Cur_dirSchema_j2 b1 b2 v3 e44 v52 = some y43) (T.pk ?_) ?_
      ·skip
       refine au 5 ?_
       refine T.cH H ?_ ?_<;>intro H h
       ·refine T.skip ?_
        exact Pk.of (thn_normal ⟨(e44.toList == (ByteArray.mk #[98,111,115,115]).toList),rfl,rfl,H⟩)
       ·refine au 4 ?_
        exact Pk.of (thn_normal ⟨(e44.toList == (ByteArray.mk #[109,101,109,98,101,114]).toList),rfl,rfl,H⟩)
      ·rintro _ _ ⟨v52,rfl,rfl,H⟩
       refine T.cH H ?_ ?_<;>intro H h
       ·refine au 11 ?_
        refine inB_normal ?_
        exact Pk.of (thn_normal ⟨(⟨e44,4,(e44.toList == (ByteArray.mk #[98,111,115,115]).toList)⟩ : I_AttrType),rfl,rfl,H⟩)
       ·refine au 5 ?_
        refine T.cH H ?_ ?_<;>intro H h
        ·refine au 4 ?_
         refine inB_normal ?_
         exact Pk.of (thn_normal ⟨(⟨e44,2,false⟩ : I_AttrType),rfl,rfl,H⟩)
        ·refine T.skip ?_
         refine inB_normal ?_
         exact Pk.of (thn_normal ⟨(⟨e44,1,false⟩ : I_AttrType),rfl,rfl,H⟩)
   ·rintro _ _ ⟨b46,rfl,rfl,H⟩
    refine au 6 ?_
    obtain ⟨⟨r47,o48⟩,h49,H⟩:=bind_s H
    refine TL.gc rfl rfl rfl (.bool _) rfl rfl (fun h=>o_callS [0] rfl en_41 rfl (evl_2 (gv h rfl) rfl) (spec_l1Cur_one_p c0 (cond_t h h49)) rfl (by decide) (.cons _ _ _ _ rfl .nil) rfl rfl rfl) (fun h=>by cases cond_f h h49; rfl) ?_
    refine au 3 ?_
    refine T.cH H ?_ ?_<;>intro H h
    ·refine au 4 ?_
     refine TL.st rfl rfl rfl (o_sliceIm (rows:=([b46] : List I_AttrType).map (c_I_AttrType false)) rfl rfl tyS_106 ⟨_,rfl,rfl⟩ (by decide) rfl rfl rfl rfl rfl rfl) ?_
     obtain ⟨l50,h51,H⟩:=bind_s H
     refine TL.st rfl rfl rfl (o_ap (f:=c_I_AttrType false) (xs:=b2.Types_) (ys:=([b46] : List I_AttrType)) rfl rfl tyE_106 rfl rfl rfl rfl (by decide) rfl (fun _=>rfl) h51) ?_
     refine TL.st rfl rfl rfl (o_fieldAddr rfl rfl rfl tyS_23 (by decide) rfl rfl ⟨_,rfl,Nat.le_of_ble_eq_true rfl⟩) ?_
     refine TL.sn rfl rfl (o_storeBx rfl tyS_23 rfl rfl rfl rfl (nb rfl) (sure_hd rfl rfl rfl)) ?_
     refine TL.nil ?_
     refine T.conv (Cs.eqS (σ':=[.box (c_T_spec_l1Cur c0 o48),_,_,_,.box (k_impl_DirSchema 5 6 false (⟨l50,b2.Classes_⟩ : I_DirSchema)),.arr .clo 3 (l50.map (c_I_AttrType false)),_,_]) rfl) ?_
     refine au 4 ?_
     exact Pk.of (thn_normal ⟨(o48,(⟨l50,b2.Classes_⟩ : I_DirSchema),(IntKind.i64.wrap (v3 + 1))),(some_i H).symm,rfl,rfl⟩)
    ·refine au 5 ?_
     exact Pk.of (thn_normal ⟨(o48,b2,(IntKind.i64.wrap (v3 + 1))),(some_i H).symm,rfl,rfl⟩)
  ·refine T.exit ?_
   refine thn_exit ?_
   exact Pk.of (thn_exit ⟨(b1,b2),(some_i H).symm,rfl,rfl,rfl⟩)
 ·rcases q53 with ⟨b4, b5⟩
  rintro _ _ _ ⟨rfl,rfl,rfl⟩
  refine inB_here ?_
  refine au 3 ?_
  refine TL.st rfl rfl rfl (o_sliceIm (rows:=([(ByteArray.mk #[109,101,109,98,101,114])] : List ByteArray).map (c_str)) rfl rfl tyS_9 ⟨_,rfl,rfl⟩ (by decide) rfl rfl rfl rfl rfl rfl) ?_
  refine TL.st rfl rfl rfl (Does.wk (o_build rfl ⟨_,fun _=>rfl,rfl⟩ rfl rfl rfl) (.aggL (.cons _ _ _ _ (.same _) (.cons _ _ _ _ (.same _) (.cons _ _ _ _ .nil (.cons _ _ _ _ (.same _) .nil)))))) ?_
  refine TL.st rfl rfl rfl (o_sliceIm (rows:=([(ByteArray.mk #[99,110])] : List ByteArray).map (c_str)) rfl rfl tyS_9 ⟨_,rfl,rfl⟩ (by decide) rfl rfl rfl rfl rfl rfl) ?_
  refine TL.st rfl rfl rfl (o_sliceIm (rows:=([(ByteArray.mk #[97,103,101]),(ByteArray.mk #[98,111,115,115]),(ByteArray.mk #[109,97,105,108])] : List ByteArray).map (c_str)) rfl rfl tyS_9 ⟨_,rfl,rfl⟩ (by decide) rfl rfl rfl rfl rfl rfl) ?_
  refine TL.st rfl rfl rfl (o_build rfl ⟨_,fun _=>rfl,rfl⟩ rfl rfl rfl) ?_
  refine TL.st rfl rfl rfl (o_sliceIm (rows:=([(ByteArray.mk #[97,103,101])] : List ByteArray).map (c_str)) rfl rfl tyS_9 ⟨_,rfl,rfl⟩ (by decide) rfl rfl rfl rfl rfl rfl) ?_
  refine TL.st rfl rfl rfl (Does.wk (o_build rfl ⟨_,fun _=>rfl,rfl⟩ rfl rfl rfl) (.aggL (.cons _ _ _ _ (.same _) (.cons _ _ _ _ (.same _) (.cons _ _ _ _ (.same _) (.cons _ _ _ _ .nil .nil)))))) ?_
  refine TL.st rfl rfl rfl (o_sliceIm (rows:=([(ByteArray.mk #[111,117]),(ByteArray.mk #[114,101,102])] : List ByteArray).map (c_str)) rfl rfl tyS_9 ⟨_,rfl,rfl⟩ (by decide) rfl rfl rfl rfl rfl rfl) ?_
  refine TL.st rfl rfl rfl (Does.wk (o_build rfl ⟨_,fun _=>rfl,rfl⟩ rfl rfl rfl) (.aggL (.cons _ _ _ _ (.same _) (.cons _ _ _ _ (.same _) (.cons _ _ _ _ .nil (.cons _ _ _ _ (.same _) .nil)))))) ?_
  refine TL.st rfl rfl rfl (o_sliceIm (rows:=([(⟨(ByteArray.mk #[71,114,111,117,112]),(ByteArray.mk #[84,111,112]),([] : List ByteArray),([(ByteArray.mk #[109,101,109,98,101,114])] : List ByteArray)⟩ : I_Class),(⟨(ByteArray.mk #[80,101,114,115,111,110]),(ByteArray.mk #[84,111,112]),([(ByteArray.mk #[99,110])] : List ByteArray),([(ByteArray.mk #[97,103,101]),(ByteArray.mk #[98,111,115,115]),(ByteArray.mk #[109,97,105,108])] : List ByteArray)⟩ : I_Class),(⟨(ByteArray.mk #[83,116,97,102,102]),(ByteArray.mk #[80,101,114,115,111,110]),([(ByteArray.mk #[97,103,101])] : List ByteArray),([] : List ByteArray)⟩ : I_Class),(⟨(ByteArray.mk #[84,111,112]),e0,([] : List ByteArray),([(ByteArray.mk #[111,117]),(ByteArray.mk #[114,101,102])] : List ByteArray)⟩ : I_Class)] : List I_Class).map (c_I_Class false)) rfl rfl tyS_108 ⟨_,rfl,rfl⟩ (by decide) rfl rfl rfl rfl rfl rfl) ?_
  refine TL.st rfl rfl rfl (o_lenL (f:=c_I_Class false) rfl rfl rfl) ?_
  refine au 3 ?_
  obtain ⟨b8,h42,H⟩:=bind_s H
  refine T.lq (fun s=>match s with | (b6,v7)=>[(2,.bx 3 0),(3,.bx 4 0),(67,.im false (([(⟨(ByteArray.mk #[71,114,111,117,112]),(ByteArray.mk #[84,111,112]),([] : List ByteArray),([(ByteArray.mk #[109,101,109,98,101,114])] : List ByteArray)⟩ : I_Class),(⟨(ByteArray.mk #[80,101,114,115,111,110]),(ByteArray.mk #[84,111,112]),([(ByteArray.mk #[99,110])] : List ByteArray),([(ByteArray.mk #[97,103,101]),(ByteArray.mk #[98,111,115,115]),(ByteArray.mk #[109,97,105,108])] : List ByteArray)⟩ : I_Class),(⟨(ByteArray.mk #[83,116,97,102,102]),(ByteArray.mk #[80,101,114,115,111,110]),([(ByteArray.mk #[97,103,101])] : List ByteArray),([] : List ByteArray)⟩ : I_Class),(⟨(ByteArray.mk #[84,111,112]),e0,([] : List ByteArray),([(ByteArray.mk #[111,117]),(ByteArray.mk #[114,101,102])] : List ByteArray)⟩ : I_Class)] : List I_Class).map (c_I_Class false))),(68,.int .i64 (([(⟨(ByteArray.mk #[71,114,111,117,112]),(ByteArray.mk #[84,111,112]),([] : List ByteArray),([(ByteArray.mk #[109,101,109,98,101,114])] : List ByteArray)⟩ : I_Class),(⟨(ByteArray.mk #[80,101,114,115,111,110]),(ByteArray.mk #[84,111,112]),([(ByteArray.mk #[99,110])] : List ByteArray),([(ByteArray.mk #[97,103,101]),(ByteArray.mk #[98,111,115,115]),(ByteArray.mk #[109,97,105,108])] : List ByteArray)⟩ : I_Class),(⟨(ByteArray.mk #[83,116,97,102,102]),(ByteArray.mk #[80,101,114,115,111,110]),([(ByteArray.mk #[97,103,101])] : List ByteArray),([] : List ByteArray)⟩ : I_Class),(⟨(ByteArray.mk #[84,111,112]),e0,([] : List ByteArray),([(ByteArray.mk #[111,117]),(ByteArray.mk #[114,101,102])] : List ByteArray)⟩ : I_Class)] : List I_Class).length : Int)),(69,.int .i64 v7)]) (fun s=>match s with | (b6,v7)=>[.box (c_T_spec_l1Cur c0 b4),.dead,.dead,.box [.nilS,.nilS],.box (k_impl_DirSchema 5 6 false b6),.arr .clo 3 (b6.Types_.map (c_I_AttrType false)),.arr .clo 4 (b6.Classes_.map (c_I_Class false))]) (fun q ex fr σ=>match q with | b8=>ex = .exit 3 ∧ fr = [(2,.bx 3 0),(3,.bx 4 0)] ∧ σ = [.box (c_T_spec_l1Cur c0 b4),.dead,.dead,.box [.nilS,.nilS],.box (k_impl_DirSchema 5 6 false b8),.arr .clo 3 (b8.Types_.map (c_I_AttrType false)),.arr .clo 4 (b8.Classes_.map (c_I_Class false))]) h42 ?_ ?_
  ·rintro ⟨b6,v7⟩ y9 H
   refine au 5 ?_
   refine T.cH H ?_ ?_<;>intro H h
   ·refine au 5 ?_
    obtain ⟨e10,h11,H⟩:=bind_s H
    refine TL.st rfl rfl rfl (o_ix (f:=c_I_Class false) rfl rfl tyS_108 rfl rfl h11 rfl) ?_
    refine au 15 ?_
    refine TL.st rfl rfl rfl (o_sliceIm (rows:=([e10.Must_,e10.May_] : List (List ByteArray)).map (c_sl (c_str))) rfl rfl tyS_43 ⟨_,rfl,rfl⟩ (by decide) rfl rfl rfl rfl rfl rfl) ?_
    refine TL.st rfl rfl rfl (o_lenL (f:=c_sl (c_str)) rfl rfl rfl) ?_
    refine au 3 ?_
    refine T.conv (Cs.own (t:=9) 1 rfl (by decide)) ?_
    obtain ⟨l14,h40,H⟩:=bind_s H
    refine T.lq (fun s=>match s with | (l12,v13)=>[(2,.bx 3 0),(3,.bx 4 0),(8,.bx 7 0),(9,.hd 8 (l12.map (c_sl (c_str))).length 0 (l12.map (c_sl (c_str))).length),(67,.im false (([(⟨(ByteArray.mk #[71,114,111,117,112]),(ByteArray.mk #[84,111,112]),([] : List ByteArray),([(ByteArray.mk #[109,101,109,98,101,114])] : List ByteArray)⟩ : I_Class),(⟨(ByteArray.mk #[80,101,114,115,111,110]),(ByteArray.mk #[84,111,112]),([(ByteArray.mk #[99,110])] : List ByteArray),([(ByteArray.mk #[97,103,101]),(ByteArray.mk #[98,111,115,115]),(ByteArray.mk #[109,97,105,108])] : List ByteArray)⟩ : I_Class),(⟨(ByteArray.mk #[83,116,97,102,102]),(ByteArray.mk #[80,101,114,115,111,110]),([(ByteArray.mk #[97,103,101])] : List ByteArray),([] : List ByteArray)⟩ : I_Class),(⟨(ByteArray.mk #[84,111,112]),e0,([] : List ByteArray),([(ByteArray.mk #[111,117]),(ByteArray.mk #[114,101,102])] : List ByteArray)⟩ : I_Class)] : List I_Class).map (c_I_Class false))),(68,.int .i64 (([(⟨(ByteArray.mk #[71,114,111,117,112]),(ByteArray.mk #[84,111,112]),([] : List ByteArray),([(ByteArray.mk #[109,101,109,98,101,114])] : List ByteArray)⟩ : I_Class),(⟨(ByteArray.mk #[80,101,114,115,111,110]),(ByteArray.mk #[84,111,112]),([(ByteArray.mk #[99,110])] : List ByteArray),([(ByteArray.mk #[97,103,101]),(ByteArray.mk #[98,111,115,115]),(ByteArray.mk #[109,97,105,108])] : List ByteArray)⟩ : I_Class),(⟨(ByteArray.mk #[83,116,97,102,102]),(ByteArray.mk #[80,101,114,115,111,110]),([(ByteArray.mk #[97,103,101])] : List ByteArray),([] : List ByteArray)⟩ : I_Class),(⟨(ByteArray.mk #[84,111,112]),e0,([] : List ByteArray),([(ByteArray.mk #[111,117]),(ByteArray.mk #[114,101,102])] : List ByteArray)⟩ : I_Class)] : List I_Class).length : Int)),(69,.int .i64 v7),(77,.im false (([e10.Must_,e10.May_] : List (List ByteArray)).map (c_sl (c_str)))),(78,.int .i64 (([e10.Must_,e10.May_] : List (List ByteArray)).length : Int)),(79,.int .i64 v13)]) (fun s=>match s with | (l12,v13)=>[.box (c_T_spec_l1Cur c0 b4),.dead,.dead,.box [.nilS,.nilS],.box (k_impl_DirSchema 5 6 false b6),.arr .clo 3 (b6.Types_.map (c_I_AttrType false)),.arr .clo 4 (b6.Classes_.map (c_I_Class false)),.box (c_I_Class false e10),.arr .clo 1 (l12.map (c_sl (c_str)))]) (fun q ex fr σ=>match q with | l14=>ex = .exit 5 ∧ fr = [(2,.bx 3 0),(3,.bx 4 0),(8,.bx 7 0),(9,.hd 8 (l14.map (c_sl (c_str))).length 0 (l14.map (c_sl (c_str))).length),(67,.im false (([(⟨(ByteArray.mk #[71,114,111,117,112]),(ByteArray.mk #[84,111,112]),([] : List ByteArray),([(ByteArray.mk #[109,101,109,98,101,114])] : List ByteArray)⟩ : I_Class),(⟨(ByteArray.mk #[80,101,114,115,111,110]),(ByteArray.mk #[84,111,112]),([(ByteArray.mk #[99,110])] : List ByteArray),([(ByteArray.mk #[97,103,101]),(ByteArray.mk #[98,111,115,115]),(ByteArray.mk #[109,97,105,108])] : List ByteArray)⟩ : I_Class),(⟨(ByteArray.mk #[83,116,97,102,102]),(ByteArray.mk #[80,101,114,115,111,110]),([(ByteArray.mk #[97,103,101])] : List ByteArray),([] : List ByteArray)⟩ : I_Class),(⟨(ByteArray.mk #[84,111,112]),e0,([] : List ByteArray),([(ByteArray.mk #[111,117]),(ByteArray.mk #[114,101,102])] : List ByteArray)⟩ : I_Class)] : List I_Class).map (c_I_Class false))),(68,.int .i64 (([(⟨(ByteArray.mk #[71,114,111,117,112]),(ByteArray.mk #[84,111,112]),([] : List ByteArray),([(ByteArray.mk #[109,101,109,98,101,114])] : List ByteArray)⟩ : I_Class),(⟨(ByteArray.mk #[80,101,114,115,111,110]),(ByteArray.mk #[84,111,112]),([(ByteArray.mk #[99,110])] : List ByteArray),([(ByteArray.mk #[97,103,101]),(ByteArray.mk #[98,111,115,115]),(ByteArray.mk #[109,97,105,108])] : List ByteArray)⟩ : I_Class),(⟨(ByteArray.mk #[83,116,97,102,102]),(ByteArray.mk #[80,101,114,115,111,110]),([(ByteArray.mk #[97,103,101])] : List ByteArray),([] : List ByteArray)⟩ : I_Class),(⟨(ByteArray.mk #[84,111,112]),e0,([] : List ByteArray),([(ByteArray.mk #[111,117]),(ByteArray.mk #[114,101,102])] : List ByteArray)⟩ : I_Class)] : List I_Class).length : Int)),(69,.int .i64 v7)] ∧ σ = [.box (c_T_spec_l1Cur c0 b4),.dead,.dead,.box [.nilS,.nilS],.box (k_impl_DirSchema 5 6 false b6),.arr .clo 3 (b6.Types_.map (c_I_AttrType false)),.arr .clo 4 (b6.Classes_.map (c_I_Class false)),.box (c_I_Class false e10),.arr .clo 1 (l14.map (c_sl (c_str)))]) h40 ?_ ?_
    ·rintro ⟨l12,v13⟩ y21 H
     refine au 5 ?_
     refine T.cH H ?_ ?_<;>intro H h
     ·refine au 5 ?_
      obtain ⟨e22,h23,H⟩:=bind_s H
      refine TL.st rfl rfl rfl (o_ix (f:=c_sl (c_str)) rfl rfl tyS_43 rfl rfl h23 rfl) ?_
      refine au 11 ?_
      refine TL.st rfl rfl rfl (o_lenL (f:=c_str) rfl rfl rfl) ?_
      refine au 3 ?_
      refine T.conv (Cs.own (t:=12) 1 rfl (by decide)) ?_
      obtain ⟨l26,h38,H⟩:=bind_s H
      refine T.lq (fun s=>match s with | (l24,v25)=>[(2,.bx 3 0),(3,.bx 4 0),(8,.bx 7 0),(9,.hd 8 (l12.map (c_sl (c_str))).length 0 (l12.map (c_sl (c_str))).length),(12,.hd 9 (l24.map (c_str)).length 0 (l24.map (c_str)).length),(67,.im false (([(⟨(ByteArray.mk #[71,114,111,117,112]),(ByteArray.mk #[84,111,112]),([] : List ByteArray),([(ByteArray.mk #[109,101,109,98,101,114])] : List ByteArray)⟩ : I_Class),(⟨(ByteArray.mk #[80,101,114,115,111,110]),(ByteArray.mk #[84,111,112]),([(ByteArray.mk #[99,110])] : List ByteArray),([(ByteArray.mk #[97,103,101]),(ByteArray.mk #[98,111,115,115]),(ByteArray.mk #[109,97,105,108])] : List ByteArray)⟩ : I_Class),(⟨(ByteArray.mk #[83,116,97,102,102]),(ByteArray.mk #[80,101,114,115,111,110]),([(ByteArray.mk #[97,103,101])] : List ByteArray),([] : List ByteArray)⟩ : I_Class),(⟨(ByteArray.mk #[84,111,112]),e0,([] : List ByteArray),([(ByteArray.mk #[111,117]),(ByteArray.mk #[114,101,102])] : List ByteArray)⟩ : I_Class)] : List I_Class).map (c_I_Class false))),(68,.int .i64 (([(⟨(ByteArray.mk #[71,114,111,117,112]),(ByteArray.mk #[84,111,112]),([] : List ByteArray),([(ByteArray.mk #[109,101,109,98,101,114])] : List ByteArray)⟩ : I_Class),(⟨(ByteArray.mk #[80,101,114,115,111,110]),(ByteArray.mk #[84,111,112]),([(ByteArray.mk #[99,110])] : List ByteArray),([(ByteArray.mk #[97,103,101]),(ByteArray.mk #[98,111,115,115]),(ByteArray.mk #[109,97,105,108])] : List ByteArray)⟩ : I_Class),(⟨(ByteArray.mk #[83,116,97,102,102]),(ByteArray.mk #[80,101,114,115,111,110]),([(ByteArray.mk #[97,103,101])] : List ByteArray),([] : List ByteArray)⟩ : I_Class),(⟨(ByteArray.mk #[84,111,112]),e0,([] : List ByteArray),([(ByteArray.mk #[111,117]),(ByteArray.mk #[114,101,102])] : List ByteArray)⟩ : I_Class)] : List I_Class).length : Int)),(69,.int .i64 v7),(77,.im false (([e10.Must_,e10.May_] : List (List ByteArray)).map (c_sl (c_str)))),(78,.int .i64 (([e10.Must_,e10.May_] : List (List ByteArray)).length : Int)),(79,.int .i64 v13),(83,.im false (e22.map (c_str))),(84,.int .i64 (e22.length : Int)),(85,.int .i64 v25)]) (fun s=>match s with | (l24,v25)=>[.box (c_T_spec_l1Cur c0 b4),.dead,.dead,.box [.nilS,.nilS],.box (k_impl_DirSchema 5 6 false b6),.arr .clo 3 (b6.Types_.map (c_I_AttrType false)),.arr .clo 4 (b6.Classes_.map (c_I_Class false)),.box (c_I_Class false e10),.arr .clo 1 (l12.map (c_sl (c_str))),.arr .clo 1 (l24.map (c_str))]) (fun q ex fr σ=>match q with | l26=>ex = .exit 7 ∧ fr = [(2,.bx 3 0),(3,.bx 4 0),(8,.bx 7 0),(9,.hd 8 (l12.map (c_sl (c_str))).length 0 (l12.map (c_sl (c_str))).length),(12,.hd 9 (l26.map (c_str)).length 0 (l26.map (c_str)).length),(67,.im false (([(⟨(ByteArray.mk #[71,114,111,117,112]),(ByteArray.mk #[84,111,112]),([] : List ByteArray),([(ByteArray.mk #[109,101,109,98,101,114])] : List ByteArray)⟩ : I_Class),(⟨(ByteArray.mk #[80,101,114,115,111,110]),(ByteArray.mk #[84,111,112]),([(ByteArray.mk #[99,110])] : List ByteArray),([(ByteArray.mk #[97,103,101]),(ByteArray.mk #[98,111,115,115]),(ByteArray.mk #[109,97,105,108])] : List ByteArray)⟩ : I_Class),(⟨(ByteArray.mk #[83,116,97,102,102]),(ByteArray.mk #[80,101,114,115,111,110]),([(ByteArray.mk #[97,103,101])] : List ByteArray),([] : List ByteArray)⟩ : I_Class),(⟨(ByteArray.mk #[84,111,112]),e0,([] : List ByteArray),([(ByteArray.mk #[111,117]),(ByteArray.mk #[114,101,102])] : List ByteArray)⟩ : I_Class)] : List I_Class).map (c_I_Class false))),(68,.int .i64 (([(⟨(ByteArray.mk #[71,114,111,117,112]),(ByteArray.mk #[84,111,112]),([] : List ByteArray),([(ByteArray.mk #[109,101,109,98,101,114])] : List ByteArray)⟩ : I_Class),(⟨(ByteArray.mk #[80,101,114,115,111,110]),(ByteArray.mk #[84,111,112]),([(ByteArray.mk #[99,110])] : List ByteArray),([(ByteArray.mk #[97,103,101]),(ByteArray.mk #[98,111,115,115]),(ByteArray.mk #[109,97,105,108])] : List ByteArray)⟩ : I_Class),(⟨(ByteArray.mk #[83,116,97,102,102]),(ByteArray.mk #[80,101,114,115,111,110]),([(ByteArray.mk #[97,103,101])] : List ByteArray),([] : List ByteArray)⟩ : I_Class),(⟨(ByteArray.mk #[84,111,112]),e0,([] : List ByteArray),([(ByteArray.mk #[111,117]),(ByteArray.mk #[114,101,102])] : List ByteArray)⟩ : I_Class)] : List I_Class).length : Int)),(69,.int .i64 v7),(77,.im false (([e10.Must_,e10.May_] : List (List ByteArray)).map (c_sl (c_str)))),(78,.int .i64 (([e10.Must_,e10.May_] : List (List ByteArray)).length : Int)),(79,.int .i64 v13)] ∧ σ = [.box (c_T_spec_l1Cur c0 b4),.dead,.dead,.box [.nilS,.nilS],.box (k_impl_DirSchema 5 6 false b6),.arr .clo 3 (b6.Types_.map (c_I_AttrType false)),.arr .clo 4 (b6.Classes_.map (c_I_Class false)),.box (c_I_Class false e10),.arr .clo 1 (l12.map (c_sl (c_str))),.arr .clo 1 (l26.map (c_str))]) h38 ?_ ?_
      ·rintro ⟨l24,v25⟩ y29 H
       refine au 5 ?_
       refine T.cH H ?_ ?_<;>intro H h
       ·refine au 5 ?_
        obtain ⟨e30,h31,H⟩:=bind_s H
        refine TL.st rfl rfl rfl (o_ix (f:=c_str) rfl rfl tyS_9 rfl rfl h31 rfl) ?_
        refine au 7 ?_
        obtain ⟨⟨r32,r33⟩,h34,H⟩:=bind_s H
        refine TL.st rfl rfl rfl (o_callP rfl en_65 rfl rfl (.cons _ _ _ _ (Lent.aggL (.cons _ _ _ _ (.own rfl (by decide) rfl) (.cons _ _ _ _ (.own rfl (by decide) rfl) .nil))) (.cons _ _ _ _ (.cl _ rfl) .nil)) (spec_l3Type_p true h34)) ?_
        refine au 11 ?_
        refine T.cH H ?_ ?_<;>intro H h
        ·refine au 3 ?_
         refine TL.st rfl rfl rfl (o_sliceIm (rows:=([e30] : List ByteArray).map (c_str)) rfl rfl tyS_9 ⟨_,rfl,rfl⟩ (by decide) rfl rfl rfl rfl rfl rfl) ?_
         obtain ⟨l35,h36,H⟩:=bind_s H
         refine TL.st rfl rfl rfl (o_ap (f:=c_str) (xs:=l24) (ys:=([e30] : List ByteArray)) rfl rfl tyE_9 rfl rfl rfl rfl (by decide) rfl (fun _=>rfl) h36) ?_
         refine au 2 ?_
         refine T.conv (Cs.eqS (σ':=[_,_,_,_,_,_,_,_,_,.arr .clo 1 (l35.map (c_str)),.box (c_I_AttrType false r32)]) rfl) ?_
         refine au 4 ?_
         exact Pk.of (thn_normal ⟨(l35,(IntKind.i64.wrap (v25 + 1))),(some_i H).symm,rfl,rfl⟩)
        ·refine au 5 ?_
         exact Pk.of (thn_normal ⟨(l24,(IntKind.i64.wrap (v25 + 1))),(some_i H).symm,rfl,rfl⟩)
       ·refine T.exit ?_
        refine thn_exit ?_
        exact Pk.of (thn_exit ⟨l24,(some_i H).symm,rfl,rfl,rfl⟩)
      ·rintro _ _ _ ⟨rfl,rfl,rfl⟩
       refine inB_here ?_
       refine au 3 ?_
       refine TL.conv (Cs.frzOwn (t:=102) rfl rfl rfl) ?_
       refine TL.st rfl rfl rfl (o_sliceIm (rows:=([l26] : List (List ByteArray)).map (c_sl (c_str))) rfl rfl tyS_43 ⟨_,rfl,rfl⟩ (by decide) rfl rfl rfl rfl rfl rfl) ?_
       obtain ⟨l27,h28,H⟩:=bind_s H
       refine TL.st rfl rfl rfl (o_ap (f:=c_sl (c_str)) (xs:=l12) (ys:=([l26] : List (List ByteArray))) rfl rfl tyE_43 rfl rfl rfl rfl (by decide) rfl (fun _=>rfl) h28) ?_
       refine au 6 ?_
       exact Pk.of (thn_normal ⟨(l27,(IntKind.i64.wrap (v13 + 1))),(some_i H).symm,rfl,rfl⟩)
     ·refine T.exit ?_
      refine thn_exit ?_
      exact Pk.of (thn_exit ⟨l12,(some_i H).symm,rfl,rfl,rfl⟩)
    ·rintro _ _ _ ⟨rfl,rfl,rfl⟩
     refine inB_here ?_
     refine au 3 ?_
     obtain ⟨e15,h16,H⟩:=bind_s H
     refine TL.st rfl rfl rfl (o_ixh (f:=c_sl (c_str)) rfl rfl tyS_43 rfl rfl rfl rfl h16 rfl) ?_
     refine TL.st rfl rfl rfl (o_loadEl rfl tyS_43 rfl rfl rfl (by rw [List.getElem?_map,(idx_s h16).2]; rfl) (nb rfl) rfl) ?_
     refine au 6 ?_
     obtain ⟨e17,h18,H⟩:=bind_s H
     refine TL.st rfl rfl rfl (o_ixh (f:=c_sl (c_str)) rfl rfl tyS_43 rfl rfl rfl rfl h18 rfl) ?_
     refine TL.st rfl rfl rfl (o_loadEl rfl tyS_43 rfl rfl rfl (by rw [List.getElem?_map,(idx_s h18).2]; rfl) (nb rfl) rfl) ?_
     refine au 7 ?_
     refine TL.st rfl rfl rfl (o_sliceIm (rows:=([(⟨e10.Name_,e10.Up_,e15,e17⟩ : I_Class)] : List I_Class).map (c_I_Class false)) rfl rfl tyS_108 ⟨_,rfl,rfl⟩ (by decide) rfl rfl rfl rfl rfl rfl) ?_
     obtain ⟨l19,h20,H⟩:=bind_s H
     refine TL.st rfl rfl rfl (o_ap (f:=c_I_Class false) (xs:=b6.Classes_) (ys:=([(⟨e10.Name_,e10.Up_,e15,e17⟩ : I_Class)] : List I_Class)) rfl rfl tyE_108 rfl rfl rfl rfl (by decide) rfl (fun _=>rfl) h20) ?_
     refine TL.st rfl rfl rfl (o_fieldAddr rfl rfl rfl tyS_24 (by decide) rfl rfl ⟨_,rfl,Nat.le_of_ble_eq_true rfl⟩) ?_
     refine TL.sn rfl rfl (o_storeBx rfl tyS_24 rfl rfl rfl rfl (nb rfl) (sure_hd rfl rfl rfl)) ?_
     refine TL.nil ?_
     refine T.conv (Cs.eqS (σ':=[_,_,_,_,.box (k_impl_DirSchema 5 6 false (⟨b6.Types_,l19⟩ : I_DirSchema)),_,.arr .clo 4 (l19.map (c_I_Class false)),.box [.str e10.Name_,.str e10.Up_,.im false (e15.map (c_str)),.im false (e17.map (c_str))],_]) rfl) ?_
     refine au 4 ?_
     exact Pk.of (thn_normal ⟨((⟨b6.Types_,l19⟩ : I_DirSchema),(IntKind.i64.wrap (v7 + 1))),(some_i H).symm,rfl,rfl⟩)
   ·refine T.exit ?_
    refine thn_exit ?_
    exact Pk.of (thn_exit ⟨b6,(some_i H).symm,rfl,rfl,rfl⟩)
  ·rintro _ _ _ ⟨rfl,rfl,rfl⟩
   refine inB_here ?_
   refine au 3 ?_
   refine TL.sn rfl rfl (o_storeBx rfl tyS_26 rfl rfl rfl rfl (nb rfl) (sure_hd rfl rfl (sure_hd rfl rfl rfl))) ?_
   refine TL.nil ?_
   refine T.conv (Cs.wkF (M:=7) (.k 2 rfl rfl .nil)) ?_
   refine T.conv (Cs.reloc 1 5 rfl rfl (by decide) rfl rfl rfl (nomS_get rfl)) ?_
   refine T.conv (Cs.wkF (M:=7) (.k 2 rfl rfl .nil)) ?_
   refine T.conv (Cs.eqS (σ':=[_,.arr .clo 3 (b8.Types_.map (c_I_AttrType false)),_,.box (k_impl_DirSchema 1 6 false b8),.box (k_impl_DirSchema 1 6 false b8),.dead,_]) rfl) ?_
   refine T.conv (Cs.reloc 2 6 rfl rfl (by decide) rfl rfl rfl (nomS_get rfl)) ?_
   refine T.conv (Cs.wkF (M:=7) (.k 2 rfl rfl .nil)) ?_
   refine T.conv (Cs.eqS (σ':=[_,_,.arr .clo 4 (b8.Classes_.map (c_I_Class false)),.box (k_impl_DirSchema 1 2 false b8),.box (k_impl_DirSchema 1 2 false b8),_,.dead]) rfl) ?_
   refine T.ret ?_
   cases some_i H
   exact ⟨trivial,_,(.cell _ _ _ _ _ _ _ _ _ _ rfl rfl tyS_26 (nb rfl) rfl .nil),⟨rfl,_,rfl⟩⟩
noncomputable def spec_l1Cur_of (a0 : (List ByteArray)) (s0 : T_spec_l1Cur) : Option (ByteArray × T_spec_l1Cur) :=
  (spec_l1Cur_pick (a0.length : Int) s0).bind fun q=>(match q with | (r1,o2)=>(idx a0 r1).bind fun e4=>some (e4,o2))
theorem spec_l1Cur_of_p (b0 : Bool) (c0 : Bool) {a0 : (List ByteArray)} {s0 : T_spec_l1Cur} {R0 : ByteArray} {U0 : T_spec_l1Cur} (H : spec_l1Cur_of a0 s0 = some (R0,U0)) : St Tryz.prog 43 [.bx 0 0,.im b0 (a0.map (c_str))] [.box (c_T_spec_l1Cur c0 s0)] (.str R0) [.box (c_T_spec_l1Cur c0 U0)]:=by
 refine CallT.fin (CallT.of_TN (n:=12) Tryz.func43 rfl rfl rfl rfl ?_) rfl rfl ⟨(bels_iff.1 rfl),trivial⟩
 refine au 9 ?_
 refine TL.st rfl rfl rfl (o_lenL (f:=c_str) rfl rfl rfl) ?_
 obtain ⟨⟨r1,o2⟩,h3,H⟩:=bind_s H
 refine TL.st rfl rfl rfl (o_callS [0] rfl en_42 rfl rfl (spec_l1Cur_pick_p c0 h3) rfl (by decide) (.cons _ _ _ _ rfl .nil) rfl rfl rfl) ?_
 obtain ⟨e4,h5,H⟩:=bind_s H
 refine TL.st rfl rfl rfl (o_ix (f:=c_str) rfl rfl tyS_9 rfl rfl h5 rfl) ?_
 refine au 4 ?_
 cases some_i H
 exact ⟨trivial,_,(.tmp _ _ _ _ rfl .nil),⟨rfl,_,rfl⟩⟩
theorem en_43 : En Tryz.prog 43:=.of Tryz.func43 rfl rfl
noncomputable def spec_l1Cur_oddDirSchemax (a0 : I_DirSchema) (s0 : T_spec_l1Cur) : Option (I_DirSchema × T_spec_l1Cur) :=
  (spec_l1Cur_pick 20 s0).bind fun q=>(match q with | (r1,o2)=>cond (r1 == 0) ((spec_l1Cur_pick (a0.Types_.length : Int) o2).bind fun q=>(match q with | (r4,o5)=>(spec_l1Cur_pick 3 o5).bind fun q=>(match q with | (r7,o8)=>(idx ([0,5,2] : List Int) r7).bind fun e10=>(idx a0.Types_ r4).bind fun e12=>some ((⟨(a0.Types_.set (Int.toNat r4) (⟨e12.Name_,e10,e12.Single_⟩ : I_AttrType)),a0.Classes_⟩ : I_DirSchema),o8)))) (cond (r1 == 1) ((spec_l1Cur_pick (a0.Types_.length : Int) o2).bind fun q=>(match q with | (r14,o15)=>(spec_l1Cur_of ([(ByteArray.mk #[122,122]),e0,(ByteArray.mk #[97,103,101])] : List ByteArray) o15).bind fun q=>(match q with | (r17,o18)=>(idx a0.Types_ r14).bind fun e20=>some ((⟨(a0.Types_.set (Int.toNat r14) (⟨r17,e20.Syntax_,e20.Single_⟩ : I_AttrType)),a0.Classes_⟩ : I_DirSchema),o18)))) (cond (r1 == 2) ((spec_l1Cur_pick (a0.Classes_.length : Int) o2).bind fun q=>(match q with | (r22,o23)=>(spec_l1Cur_of ([e0,(ByteArray.mk #[83,116,97,102,102]),(ByteArray.mk #[71,114,111,117,112]),(ByteArray.mk #[78,111,110,101]),(ByteArray.mk #[84,111,112])] : List ByteArray) o23).bind fun q=>(match q with | (r25,o26)=>(idx a0.Classes_ r22).bind fun e28=>some ((⟨a0.Types_,(a0.Classes_.set (Int.toNat r22) ({ e28 with Up_:=r25 } : I_Class))⟩ : I_DirSchema),o26)))) (cond (r1 == 3) ((spec_l1Cur_pick (a0.Classes_.length : Int) o2).bind fun q=>(match q with | (r30,o31)=>(spec_l1Cur_of ([(ByteArray.mk #[110,111,115,117,99,104]),(ByteArray.mk #[99,108,97,115,115]),(ByteArray.mk #[99,110])] : List ByteArray) o31).bind fun q=>(match q with | (r33,o34)=>(idx a0.Classes_ r30).bind fun e36=>some ((⟨a0.Types_,(a0.Classes_.set (Int.toNat r30) ({ e36 with Must_:=([r33] : List ByteArray) } : I_Class))⟩ : I_DirSchema),o34)))) (cond (r1 == 4) ((idx a0.Types_ 0).bind fun e38=>some ((⟨(a0.Types_.set (Int.toNat 0) (⟨e38.Name_,e38.Syntax_,true⟩ : I_AttrType)),a0.Classes_⟩ : I_DirSchema),o2)) (some (a0,o2)))))))
theorem spec_l1Cur_oddDirSchemax_o (c0 : Bool) {a0 : I_DirSchema} {s0 : T_spec_l1Cur} {R0 : I_DirSchema} {U0 : T_spec_l1Cur} (H : spec_l1Cur_oddDirSchemax a0 s0 = some (R0, U0)) : St Tryz.prog 24 [.bx 0 0, .agg [.hd 1 (a0.Types_.map (c_I_AttrType false)).length 0 (a0.Types_.map (c_I_AttrType false)).length, .hd 2 (a0.Classes_.map (c_I_Class false)).length 0 (a0.Classes_.map (c_I_Class false)).length]] [.box (c_T_spec_l1Cur c0 s0), .arr .clo 3 (a0.Types_.map (c_I_AttrType false)), .arr .clo 4 (a0.Classes_.map (c_I_Class false))] (.agg [.hd 5 (R0.Types_.map (c_I_AttrType false)).length 0 (R0.Types_.map (c_I_AttrType false)).length, .hd 6 (R0.Classes_.map (c_I_Class false)).length 0 (R0.Classes_.map (c_I_Class false)).length]) [.box (c_T_spec_l1Cur c0 U0), .dead, .dead, .dead, .dead, .arr .clo 3 (R0.Types_.map (c_I_AttrType false)), .arr .clo 4 (R0.Classes_.map (c_I_Class false))] := by
 refine CallT.finR (CallT.of_TN (n:=73) Tryz.func24 rfl rfl rfl rfl ?_) rfl rfl ⟨(bels_iff.1 rfl),⟨trivial,⟨trivial,⟨trivial,⟨trivial,⟨trivial,⟨trivial,trivial⟩⟩⟩⟩⟩⟩⟩
 refine T.conv (Cs.fresh 1 rfl rfl (by decide) rfl (nomS_all rfl rfl)) ?_
 refine T.conv (Cs.fresh 2 rfl rfl (by decide) rfl (nomS_all rfl rfl)) ?_
 refine T.conv Cs.pushDead ?_
 refine T.conv Cs.pushDead ?_
 refine T.conv (Cs.wkF (M:=7) (.k 0 rfl rfl (.k 1 rfl rfl .nil))) ?_
 refine T.conv (Cs.eqS (σ':=[.box (c_T_spec_l1Cur c0 s0),.dead,.dead,.arr .clo 3 (a0.Types_.map (c_I_AttrType false)),.arr .clo 4 (a0.Classes_.map (c_I_Class false)),.dead,.dead]) rfl) ?_
 refine au 2 ?_
 refine TL.st rfl rfl rfl (o_box rfl rfl (sure_hd rfl rfl (sure_hd rfl rfl rfl))) ?_
 refine au 6 ?_
 obtain ⟨⟨r1,o2⟩,h3,H⟩:=bind_s H
 refine TL.st rfl rfl rfl (o_callS [0] rfl en_42 rfl rfl (spec_l1Cur_pick_p c0 h3) rfl (by decide) (.cons _ _ _ _ rfl .nil) rfl rfl rfl) ?_
 refine TL.nil ?_
 refine T.conv (Cs.eqS (σ':=[.box (c_T_spec_l1Cur c0 o2),_,_,_,_,_,_,.box (k_impl_DirSchema 3 4 false a0),.box [.nilS,.nilS]]) rfl) ?_
 refine au 6 ?_
 refine T.cH H ?_ ?_<;>intro H h
 ·obtain ⟨⟨r4,o5⟩,h6,H⟩:=bind_s H
  obtain ⟨⟨r7,o8⟩,h9,H⟩:=bind_s H
  obtain ⟨e10,h11,H⟩:=bind_s H
  obtain ⟨e12,h13,H⟩:=bind_s H
  refine T.drawS (fr':=[(0,.bx 0 0),(1,.agg [.hd 3 (a0.Types_.map (c_I_AttrType false)).length 0 (a0.Types_.map (c_I_AttrType false)).length,.hd 4 (a0.Classes_.map (c_I_Class false)).length 0 (a0.Classes_.map (c_I_Class false)).length]),(3,.bx 7 0),(4,.bx 8 0),(5,.bx 0 0),(6,.int .i64 r1),(7,.bool (r1 == 0)),(8,.bool (r1 == 0)),(9,.bx 7 0),(10,.hd 3 (a0.Types_.map (c_I_AttrType false)).length 0 (a0.Types_.map (c_I_AttrType false)).length),(11,.bx 0 0),(12,.bx 7 0),(13,.hd 3 (a0.Types_.map (c_I_AttrType false)).length 0 (a0.Types_.map (c_I_AttrType false)).length),(14,.int .i64 (a0.Types_.length : Int)),(15,.int .i64 r4),(16,.im false (([0,5,2] : List Int).map (c_int .i64))),(17,.bx 0 0),(18,.int .i64 r7),(20,.int .i64 e10)]) (R:=[⟨some 9,.bx 7 0,.q,[]⟩,⟨some 10,.hd 3 (a0.Types_.map (c_I_AttrType false)).length 0 (a0.Types_.map (c_I_AttrType false)).length,.q,[]⟩,⟨some 11,.bx 0 0,.q,[]⟩,⟨some 12,.bx 7 0,.q,[]⟩,⟨some 13,.hd 3 (a0.Types_.map (c_I_AttrType false)).length 0 (a0.Types_.map (c_I_AttrType false)).length,.q,[]⟩,⟨some 14,.int .i64 (a0.Types_.length : Int),.q,[]⟩,⟨some 15,.int .i64 r4,.q,[]⟩,⟨some 16,.im false (([0,5,2] : List Int).map (c_int .i64)),.q,[]⟩,⟨some 17,.bx 0 0,.q,[]⟩,⟨some 18,.int .i64 r7,.q,[]⟩,⟨some 19,.rf false [.int .i64 e10],.q,[]⟩,⟨some 20,.int .i64 e10,.q,[]⟩,⟨some 21,.el 3 (a0.Types_.map (c_I_AttrType false)).length (Int.toNat r4) 0,.q,[]⟩,⟨some 22,.el 3 (a0.Types_.map (c_I_AttrType false)).length (Int.toNat r4) 1,.q,[]⟩,⟨none,.any,.q,[]⟩]) (fun b=>cond (b 6) (cond (b 9) (cond (b 14) ([.box (c_T_spec_l1Cur c0 o8),.dead,.dead,.arr .clo 3 ((a0.Types_.set (Int.toNat r4) (⟨e12.Name_,e10,e12.Single_⟩ : I_AttrType)).map (c_I_AttrType false)),.arr .clo 4 (a0.Classes_.map (c_I_Class false)),.dead,.dead,.box (k_impl_DirSchema 3 4 false (⟨(a0.Types_.set (Int.toNat r4) (⟨e12.Name_,e10,e12.Single_⟩ : I_AttrType)),a0.Classes_⟩ : I_DirSchema)),.box [.nilS,.nilS]]) ([.box (c_T_spec_l1Cur c0 o8),.dead,.dead,.arr .clo 3 (a0.Types_.map (c_I_AttrType false)),.arr .clo 4 (a0.Classes_.map (c_I_Class false)),.dead,.dead,.box (k_impl_DirSchema 3 4 false a0),.box [.nilS,.nilS]])) ([.box (c_T_spec_l1Cur c0 o5),.dead,.dead,.arr .clo 3 (a0.Types_.map (c_I_AttrType false)),.arr .clo 4 (a0.Classes_.map (c_I_Class false)),.dead,.dead,.box (k_impl_DirSchema 3 4 false a0),.box [.nilS,.nilS]])) ([.box (c_T_spec_l1Cur c0 o2),.dead,.dead,.arr .clo 3 (a0.Types_.map (c_I_AttrType false)),.arr .clo 4 (a0.Classes_.map (c_I_Class false)),.dead,.dead,.box (k_impl_DirSchema 3 4 false a0),.box [.nilS,.nilS]])) rfl ?_ ?_ rfl rfl (FrL.get (.cons rfl (.cons rfl (.cons rfl (.cons rfl (.cons rfl (.cons rfl (.cons rfl (.cons rfl (.cons rfl (.cons rfl (.cons rfl (.cons rfl (.cons rfl (.cons rfl (.cons rfl (.cons rfl (.cons rfl (.cons rfl (.cons rfl .nil)))))))))))))))))))) ?_
  ·refine .cons _ _ _ _ _ ⟨rfl,[(3,.bx 7 0)],AllN.get rfl (.cons rfl .nil),fun b hd hn hk hc=>?_⟩ ?_
   ·cases e6 : b 6
    ·cases e9 : b 9
     ·exact ops_at (cdf e6) rfl (o_fieldAddr rfl rfl rfl tyS_23 (by decide) rfl rfl ⟨_,rfl,Nat.le_of_ble_eq_true rfl⟩) (cdf ((updb_ne rfl).trans e6)) rfl
     ·exact absurd (hc 9 6 rfl rfl e9) (by rw [e6]; decide)
    ·cases e9 : b 9
     ·exact ops_at ((cdt e6).trans (cdf e9)) rfl (o_fieldAddr rfl rfl rfl tyS_23 (by decide) rfl rfl ⟨_,rfl,Nat.le_of_ble_eq_true rfl⟩) ((cdt ((updb_ne rfl).trans e6)).trans (cdf ((updb_ne rfl).trans e9))) rfl
     ·exact ops_at (((cdt e6).trans (cdt e9)).trans (cdf (hn 14 rfl))) rfl (o_fieldAddr rfl rfl rfl tyS_23 (by decide) rfl rfl ⟨_,rfl,Nat.le_of_ble_eq_true rfl⟩) (((cdt ((updb_ne rfl).trans e6)).trans (cdt ((updb_ne rfl).trans e9))).trans (cdf ((updb_ne rfl).trans (hn 14 rfl)))) rfl
   refine .cons _ _ _ _ _ ⟨rfl,[(9,.bx 7 0)],AllN.get rfl (.cons rfl .nil),fun b hd hn hk hc=>?_⟩ ?_
   ·cases e6 : b 6
    ·cases e9 : b 9
     ·exact ops_at (cdf e6) rfl (o_loadBx rfl tyS_23 rfl rfl (nb rfl) rfl) (cdf ((updb_ne rfl).trans e6)) rfl
     ·exact absurd (hc 9 6 rfl rfl e9) (by rw [e6]; decide)
    ·cases e9 : b 9
     ·exact ops_at ((cdt e6).trans (cdf e9)) rfl (o_loadBx rfl tyS_23 rfl rfl (nb rfl) rfl) ((cdt ((updb_ne rfl).trans e6)).trans (cdf ((updb_ne rfl).trans e9))) rfl
     ·exact ops_at (((cdt e6).trans (cdt e9)).trans (cdf (hn 14 rfl))) rfl (o_loadBx rfl tyS_23 rfl rfl (nb rfl) rfl) (((cdt ((updb_ne rfl).trans e6)).trans (cdt ((updb_ne rfl).trans e9))).trans (cdf ((updb_ne rfl).trans (hn 14 rfl)))) rfl
   refine .cons _ _ _ _ _ ⟨rfl,[(0,.bx 0 0)],AllN.get rfl (.cons rfl .nil),fun b hd hn hk hc=>?_⟩ ?_
   ·exact ops_at (cdf (hn 6 rfl)) rfl (o_move rfl rfl) (cdf ((updb_ne rfl).trans (hn 6 rfl))) rfl
   refine .cons _ _ _ _ _ ⟨rfl,[(3,.bx 7 0)],AllN.get rfl (.cons rfl .nil),fun b hd hn hk hc=>?_⟩ ?_
   ·exact ops_at (cdf (hn 6 rfl)) rfl (o_fieldAddr rfl rfl rfl tyS_23 (by decide) rfl rfl ⟨_,rfl,Nat.le_of_ble_eq_true rfl⟩) (cdf ((updb_ne rfl).trans (hn 6 rfl))) rfl
   refine .cons _ _ _ _ _ ⟨rfl,[(12,.bx 7 0)],AllN.get rfl (.cons rfl .nil),fun b hd hn hk hc=>?_⟩ ?_
   ·exact ops_at (cdf (hn 6 rfl)) rfl (o_loadBx rfl tyS_23 rfl rfl (nb rfl) rfl) (cdf ((updb_ne rfl).trans (hn 6 rfl))) rfl
   refine .cons _ _ _ _ _ ⟨rfl,[(13,.hd 3 (a0.Types_.map (c_I_AttrType false)).length 0 (a0.Types_.map (c_I_AttrType false)).length)],AllN.get rfl (.cons rfl .nil),fun b hd hn hk hc=>?_⟩ ?_
   ·exact ops_at (cdf (hn 6 rfl)) rfl (o_lenOwn (f:=c_I_AttrType false) rfl rfl rfl rfl rfl) (cdf ((updb_ne rfl).trans (hn 6 rfl))) rfl
   refine .cons _ _ _ _ _ ⟨rfl,[(11,.bx 0 0),(14,.int .i64 (a0.Types_.length : Int))],AllN.get rfl (.cons rfl (.cons rfl .nil)),fun b hd hn hk hc=>?_⟩ ?_
   ·exact ops_at (cdf hk) rfl (o_callS [0] rfl en_42 rfl rfl (spec_l1Cur_pick_p c0 h6) rfl (by decide) (.cons _ _ _ _ rfl .nil) rfl rfl rfl) (((cdt updb_self).trans (cdf ((updb_ne rfl).trans (hn 9 rfl)))).trans rfl) rfl
   refine .cons _ _ _ _ _ ⟨rfl,[],AllN.get rfl .nil,fun b hd hn hk hc=>?_⟩ ?_
   ·cases e6 : b 6
    ·cases e9 : b 9
     ·exact ops_at (cdf e6) rfl (o_sliceIm (rows:=([0,5,2] : List Int).map (c_int .i64)) rfl rfl tyS_3 ⟨_,rfl,rfl⟩ (by decide) rfl rfl rfl rfl rfl rfl) (cdf ((updb_ne rfl).trans e6)) rfl
     ·exact absurd (hc 9 6 rfl rfl e9) (by rw [e6]; decide)
    ·cases e9 : b 9
     ·exact ops_at ((cdt e6).trans (cdf e9)) rfl (o_sliceIm (rows:=([0,5,2] : List Int).map (c_int .i64)) rfl rfl tyS_3 ⟨_,rfl,rfl⟩ (by decide) rfl rfl rfl rfl rfl rfl) ((cdt ((updb_ne rfl).trans e6)).trans (cdf ((updb_ne rfl).trans e9))) rfl
     ·exact ops_at (((cdt e6).trans (cdt e9)).trans (cdf (hn 14 rfl))) rfl (o_sliceIm (rows:=([0,5,2] : List Int).map (c_int .i64)) rfl rfl tyS_3 ⟨_,rfl,rfl⟩ (by decide) rfl rfl rfl rfl rfl rfl) (((cdt ((updb_ne rfl).trans e6)).trans (cdt ((updb_ne rfl).trans e9))).trans (cdf ((updb_ne rfl).trans (hn 14 rfl)))) rfl
   refine .cons _ _ _ _ _ ⟨rfl,[(0,.bx 0 0)],AllN.get rfl (.cons rfl .nil),fun b hd hn hk hc=>?_⟩ ?_
   ·cases e6 : b 6
    ·exact ops_at (cdf e6) rfl (o_move rfl rfl) (cdf ((updb_ne rfl).trans e6)) rfl
    ·exact ops_at ((cdt e6).trans (cdf (hn 9 rfl))) rfl (o_move rfl rfl) ((cdt ((updb_ne rfl).trans e6)).trans (cdf ((updb_ne rfl).trans (hn 9 rfl)))) rfl
   refine .cons _ _ _ _ _ ⟨rfl,[(17,.bx 0 0)],AllN.get rfl (.cons rfl .nil),fun b hd hn hk hc=>?_⟩ ?_
   ·exact ops_at ((cdt (hd 6 rfl)).trans (cdf hk)) rfl (o_callS [0] rfl en_42 rfl rfl (spec_l1Cur_pick_p c0 h9) rfl (by decide) (.cons _ _ _ _ rfl .nil) rfl rfl rfl) ((((cdt ((updb_ne rfl).trans (hd 6 rfl))).trans (cdt updb_self)).trans (cdf ((updb_ne rfl).trans (hn 14 rfl)))).trans rfl) rfl
   refine .cons _ _ _ _ _ ⟨rfl,[(16,.im false (([0,5,2] : List Int).map (c_int .i64))),(18,.int .i64 r7)],AllN.get rfl (.cons rfl (.cons rfl .nil)),fun b hd hn hk hc=>?_⟩ ?_
   ·exact ops_at (((cdt (hd 6 rfl)).trans (cdt (hd 9 rfl))).trans (cdf (hn 14 rfl))) rfl (o_ix (f:=c_int .i64) rfl rfl tyS_3 rfl rfl h11 rfl) (((cdt ((updb_ne rfl).trans (hd 6 rfl))).trans (cdt ((updb_ne rfl).trans (hd 9 rfl)))).trans (cdf ((updb_ne rfl).trans (hn 14 rfl)))) rfl
   refine .cons _ _ _ _ _ ⟨rfl,[(19,.rf false [.int .i64 e10])],AllN.get rfl (.cons rfl .nil),fun b hd hn hk hc=>?_⟩ ?_
   ·exact ops_at (((cdt (hd 6 rfl)).trans (cdt (hd 9 rfl))).trans (cdf (hn 14 rfl))) rfl (o_loadRf rfl tyS_3 rfl (nb rfl) rfl) (((cdt ((updb_ne rfl).trans (hd 6 rfl))).trans (cdt ((updb_ne rfl).trans (hd 9 rfl)))).trans (cdf ((updb_ne rfl).trans (hn 14 rfl)))) rfl
   refine .cons _ _ _ _ _ ⟨rfl,[(10,.hd 3 (a0.Types_.map (c_I_AttrType false)).length 0 (a0.Types_.map (c_I_AttrType false)).length),(15,.int .i64 r4)],AllN.get rfl (.cons rfl (.cons rfl .nil)),fun b hd hn hk hc=>?_⟩ ?_
   ·exact ops_at (((cdt (hd 6 rfl)).trans (cdt (hd 9 rfl))).trans (cdf (hn 14 rfl))) rfl (o_ixh (f:=c_I_AttrType false) rfl rfl tyS_106 rfl rfl rfl rfl h13 rfl) (((cdt ((updb_ne rfl).trans (hd 6 rfl))).trans (cdt ((updb_ne rfl).trans (hd 9 rfl)))).trans (cdf ((updb_ne rfl).trans (hn 14 rfl)))) rfl
   refine .cons _ _ _ _ _ ⟨rfl,[(21,.el 3 (a0.Types_.map (c_I_AttrType false)).length (Int.toNat r4) 0)],AllN.get rfl (.cons rfl .nil),fun b hd hn hk hc=>?_⟩ ?_
   ·exact ops_at (((cdt (hd 6 rfl)).trans (cdt (hd 9 rfl))).trans (cdf (hn 14 rfl))) rfl (o_fieldAddrEl rfl rfl rfl tyS_3 (by decide) rfl rfl rfl) (((cdt ((updb_ne rfl).trans (hd 6 rfl))).trans (cdt ((updb_ne rfl).trans (hd 9 rfl)))).trans (cdf ((updb_ne rfl).trans (hn 14 rfl)))) rfl
   refine .cons _ _ _ _ _ ⟨rfl,[(20,.int .i64 e10),(22,.el 3 (a0.Types_.map (c_I_AttrType false)).length (Int.toNat r4) 1)],AllN.get rfl (.cons rfl (.cons rfl .nil)),fun b hd hn hk hc=>?_⟩ ?_
   ·exact ops_at (((cdt (hd 6 rfl)).trans (cdt (hd 9 rfl))).trans (cdf hk)) rfl (Does.to (o_stEl (f:=c_I_AttrType false) (xs:=a0.Types_) (k:=r4) (a:=e12) (⟨e12.Name_,e10,e12.Single_⟩ : I_AttrType) rfl tyS_3 rfl rfl rfl rfl (by decide) h13 rfl rfl rfl (fun _=>rfl) rfl) (eqAtS (eqAtS (eqAtS (eqAtS (eqAtS (eqAtS (eqAtS (eqAtB (show (.box [.hd 3 (a0.Types_.map (c_I_AttrType false)).length 0 (a0.Types_.map (c_I_AttrType false)).length,.hd 4 (a0.Classes_.map (c_I_Class false)).length 0 (a0.Classes_.map (c_I_Class false)).length] : AO) = .box [.hd 3 ((a0.Types_.set (Int.toNat r4) (⟨e12.Name_,e10,e12.Single_⟩ : I_AttrType)).map (c_I_AttrType false)).length 0 ((a0.Types_.set (Int.toNat r4) (⟨e12.Name_,e10,e12.Single_⟩ : I_AttrType)).map (c_I_AttrType false)).length,.hd 4 (a0.Classes_.map (c_I_Class false)).length 0 (a0.Classes_.map (c_I_Class false)).length] by simp only [List.length_map,List.length_set]) rfl))))))))) ((((cdt ((updb_ne rfl).trans (hd 6 rfl))).trans (cdt ((updb_ne rfl).trans (hd 9 rfl)))).trans (cdt updb_self)).trans rfl) rfl
   exact .nil _
  ·intro b b' h; simp only [h 6 (by decide),h 9 (by decide),h 14 (by decide)]
  refine inB_normal (thn_normal ?_)
  refine T.conv (Cs.eqV (t:=10) (v':=.hd 3 ((a0.Types_.set (Int.toNat r4) (⟨e12.Name_,e10,e12.Single_⟩ : I_AttrType)).map (c_I_AttrType false)).length 0 ((a0.Types_.set (Int.toNat r4) (⟨e12.Name_,e10,e12.Single_⟩ : I_AttrType)).map (c_I_AttrType false)).length) rfl (hd_len _ (List.length_set ..))) ?_
  refine T.conv (Cs.eqV (t:=13) (v':=.hd 3 ((a0.Types_.set (Int.toNat r4) (⟨e12.Name_,e10,e12.Single_⟩ : I_AttrType)).map (c_I_AttrType false)).length 0 ((a0.Types_.set (Int.toNat r4) (⟨e12.Name_,e10,e12.Single_⟩ : I_AttrType)).map (c_I_AttrType false)).length) rfl (hd_len _ (List.length_set ..))) ?_
  refine T.seq ?_
  refine T.conv (Cs.eqS (σ':=[.box (c_T_spec_l1Cur c0 o8),_,_,.arr .clo 3 ((a0.Types_.set (Int.toNat r4) (⟨e12.Name_,e10,e12.Single_⟩ : I_AttrType)).map (c_I_AttrType false)),_,_,_,.box (k_impl_DirSchema 3 4 false (⟨(a0.Types_.set (Int.toNat r4) (⟨e12.Name_,e10,e12.Single_⟩ : I_AttrType)),a0.Classes_⟩ : I_DirSchema)),_]) rfl) ?_
  refine au 2 ?_
  refine TL.sn rfl rfl (o_storeBx rfl tyS_26 rfl rfl rfl rfl (nb rfl) (sure_hd rfl rfl (sure_hd rfl rfl rfl))) ?_
  refine TL.nil ?_
  refine T.conv (Cs.wkF (M:=9) (.k 4 rfl rfl .nil)) ?_
  refine T.conv (Cs.reloc 5 3 rfl rfl (by decide) rfl rfl rfl (nomS_get rfl)) ?_
  refine T.conv (Cs.wkF (M:=9) (.k 4 rfl rfl .nil)) ?_
  refine T.conv (Cs.eqS (σ':=[_,_,_,.dead,_,.arr .clo 3 ((a0.Types_.set (Int.toNat r4) (⟨e12.Name_,e10,e12.Single_⟩ : I_AttrType)).map (c_I_AttrType false)),_,.box (k_impl_DirSchema 5 4 false (⟨(a0.Types_.set (Int.toNat r4) (⟨e12.Name_,e10,e12.Single_⟩ : I_AttrType)),a0.Classes_⟩ : I_DirSchema)),.box (k_impl_DirSchema 5 4 false (⟨(a0.Types_.set (Int.toNat r4) (⟨e12.Name_,e10,e12.Single_⟩ : I_AttrType)),a0.Classes_⟩ : I_DirSchema))]) rfl) ?_
  refine T.conv (Cs.reloc 6 4 rfl rfl (by decide) rfl rfl rfl (nomS_get rfl)) ?_
  refine T.conv (Cs.wkF (M:=9) (.k 4 rfl rfl .nil)) ?_
  refine T.conv (Cs.eqS (σ':=[_,_,_,_,.dead,_,.arr .clo 4 (a0.Classes_.map (c_I_Class false)),.box (k_impl_DirSchema 5 6 false (⟨(a0.Types_.set (Int.toNat r4) (⟨e12.Name_,e10,e12.Single_⟩ : I_AttrType)),a0.Classes_⟩ : I_DirSchema)),.box (k_impl_DirSchema 5 6 false (⟨(a0.Types_.set (Int.toNat r4) (⟨e12.Name_,e10,e12.Single_⟩ : I_AttrType)),a0.Classes_⟩ : I_DirSchema))]) rfl) ?_
  refine T.ret ?_
  cases some_i H
  exact ⟨trivial,_,(.cell _ _ _ _ _ _ _ _ _ _ rfl rfl tyS_26 (nb rfl) rfl .nil),⟨rfl,_,rfl⟩⟩
 ·refine au 5 ?_
  refine T.cH H ?_ ?_<;>intro H h
  ·obtain ⟨⟨r14,o15⟩,h16,H⟩:=bind_s H
   obtain ⟨⟨r17,o18⟩,h19,H⟩:=bind_s H
   obtain ⟨e20,h21,H⟩:=bind_s H
   refine T.drawS (fr':=[(0,.bx 0 0),(1,.agg [.hd 3 (a0.Types_.map (c_I_AttrType false)).length 0 (a0.Types_.map (c_I_AttrType false)).length,.hd 4 (a0.Classes_.map (c_I_Class false)).length 0 (a0.Classes_.map (c_I_Class false)).length]),(3,.bx 7 0),(4,.bx 8 0),(5,.bx 0 0),(6,.int .i64 r1),(7,.bool (r1 == 0)),(8,.bool (r1 == 0)),(23,.bool (r1 == 1)),(24,.bool (r1 == 1)),(25,.bx 7 0),(26,.hd 3 (a0.Types_.map (c_I_AttrType false)).length 0 (a0.Types_.map (c_I_AttrType false)).length),(27,.bx 0 0),(28,.bx 7 0),(29,.hd 3 (a0.Types_.map (c_I_AttrType false)).length 0 (a0.Types_.map (c_I_AttrType false)).length),(30,.int .i64 (a0.Types_.length : Int)),(31,.int .i64 r14),(32,.bx 0 0),(33,.im false (([(ByteArray.mk #[122,122]),e0,(ByteArray.mk #[97,103,101])] : List ByteArray).map (c_str))),(34,.str r17)]) (R:=[⟨some 25,.bx 7 0,.q,[]⟩,⟨some 26,.hd 3 (a0.Types_.map (c_I_AttrType false)).length 0 (a0.Types_.map (c_I_AttrType false)).length,.q,[]⟩,⟨some 27,.bx 0 0,.q,[]⟩,⟨some 28,.bx 7 0,.q,[]⟩,⟨some 29,.hd 3 (a0.Types_.map (c_I_AttrType false)).length 0 (a0.Types_.map (c_I_AttrType false)).length,.q,[]⟩,⟨some 30,.int .i64 (a0.Types_.length : Int),.q,[]⟩,⟨some 31,.int .i64 r14,.q,[]⟩,⟨some 32,.bx 0 0,.q,[]⟩,⟨some 33,.im false (([(ByteArray.mk #[122,122]),e0,(ByteArray.mk #[97,103,101])] : List ByteArray).map (c_str)),.q,[]⟩,⟨some 34,.str r17,.q,[]⟩,⟨some 35,.el 3 (a0.Types_.map (c_I_AttrType false)).length (Int.toNat r14) 0,.q,[]⟩,⟨some 36,.el 3 (a0.Types_.map (c_I_AttrType false)).length (Int.toNat r14) 0,.q,[]⟩,⟨none,.any,.q,[]⟩]) (fun b=>cond (b 6) (cond (b 9) (cond (b 12) ([.box (c_T_spec_l1Cur c0 o18),.dead,.dead,.arr .clo 3 ((a0.Types_.set (Int.toNat r14) (⟨r17,e20.Syntax_,e20.Single_⟩ : I_AttrType)).map (c_I_AttrType false)),.arr .clo 4 (a0.Classes_.map (c_I_Class false)),.dead,.dead,.box (k_impl_DirSchema 3 4 false (⟨(a0.Types_.set (Int.toNat r14) (⟨r17,e20.Syntax_,e20.Single_⟩ : I_AttrType)),a0.Classes_⟩ : I_DirSchema)),.box [.nilS,.nilS]]) ([.box (c_T_spec_l1Cur c0 o18),.dead,.dead,.arr .clo 3 (a0.Types_.map (c_I_AttrType false)),.arr .clo 4 (a0.Classes_.map (c_I_Class false)),.dead,.dead,.box (k_impl_DirSchema 3 4 false a0),.box [.nilS,.nilS]])) ([.box (c_T_spec_l1Cur c0 o15),.dead,.dead,.arr .clo 3 (a0.Types_.map (c_I_AttrType false)),.arr .clo 4 (a0.Classes_.map (c_I_Class false)),.dead,.dead,.box (k_impl_DirSchema 3 4 false a0),.box [.nilS,.nilS]])) ([.box (c_T_spec_l1Cur c0 o2),.dead,.dead,.arr .clo 3 (a0.Types_.map (c_I_AttrType false)),.arr .clo 4 (a0.Classes_.map (c_I_Class false)),.dead,.dead,.box (k_impl_DirSchema 3 4 false a0),.box [.nilS,.nilS]])) rfl ?_ ?_ rfl rfl (FrL.get (.cons rfl (.cons rfl (.cons rfl (.cons rfl (.cons rfl (.cons rfl (.cons rfl (.cons rfl (.cons rfl (.cons rfl (.cons rfl (.cons rfl (.cons rfl (.cons rfl (.cons rfl (.cons rfl (.cons rfl (.cons rfl (.cons rfl (.cons rfl .nil))))))))))))))))))))) ?_
   ·refine .cons _ _ _ _ _ ⟨rfl,[(3,.bx 7 0)],AllN.get rfl (.cons rfl .nil),fun b hd hn hk hc=>?_⟩ ?_
    ·cases e6 : b 6
     ·cases e9 : b 9
      ·exact ops_at (cdf e6) rfl (o_fieldAddr rfl rfl rfl tyS_23 (by decide) rfl rfl ⟨_,rfl,Nat.le_of_ble_eq_true rfl⟩) (cdf ((updb_ne rfl).trans e6)) rfl
      ·exact absurd (hc 9 6 rfl rfl e9) (by rw [e6]; decide)
     ·cases e9 : b 9
      ·exact ops_at ((cdt e6).trans (cdf e9)) rfl (o_fieldAddr rfl rfl rfl tyS_23 (by decide) rfl rfl ⟨_,rfl,Nat.le_of_ble_eq_true rfl⟩) ((cdt ((updb_ne rfl).trans e6)).trans (cdf ((updb_ne rfl).trans e9))) rfl
      ·exact ops_at (((cdt e6).trans (cdt e9)).trans (cdf (hn 12 rfl))) rfl (o_fieldAddr rfl rfl rfl tyS_23 (by decide) rfl rfl ⟨_,rfl,Nat.le_of_ble_eq_true rfl⟩) (((cdt ((updb_ne rfl).trans e6)).trans (cdt ((updb_ne rfl).trans e9))).trans (cdf ((updb_ne rfl).trans (hn 12 rfl)))) rfl
    refine .cons _ _ _ _ _ ⟨rfl,[(25,.bx 7 0)],AllN.get rfl (.cons rfl .nil),fun b hd hn hk hc=>?_⟩ ?_
    ·cases e6 : b 6
     ·cases e9 : b 9
      ·exact ops_at (cdf e6) rfl (o_loadBx rfl tyS_23 rfl rfl (nb rfl) rfl) (cdf ((updb_ne rfl).trans e6)) rfl
      ·exact absurd (hc 9 6 rfl rfl e9) (by rw [e6]; decide)
     ·cases e9 : b 9
      ·exact ops_at ((cdt e6).trans (cdf e9)) rfl (o_loadBx rfl tyS_23 rfl rfl (nb rfl) rfl) ((cdt ((updb_ne rfl).trans e6)).trans (cdf ((updb_ne rfl).trans e9))) rfl
      ·exact ops_at (((cdt e6).trans (cdt e9)).trans (cdf (hn 12 rfl))) rfl (o_loadBx rfl tyS_23 rfl rfl (nb rfl) rfl) (((cdt ((updb_ne rfl).trans e6)).trans (cdt ((updb_ne rfl).trans e9))).trans (cdf ((updb_ne rfl).trans (hn 12 rfl)))) rfl
    refine .cons _ _ _ _ _ ⟨rfl,[(0,.bx 0 0)],AllN.get rfl (.cons rfl .nil),fun b hd hn hk hc=>?_⟩ ?_
    ·exact ops_at (cdf (hn 6 rfl)) rfl (o_move rfl rfl) (cdf ((updb_ne rfl).trans (hn 6 rfl))) rfl
    refine .cons _ _ _ _ _ ⟨rfl,[(3,.bx 7 0)],AllN.get rfl (.cons rfl .nil),fun b hd hn hk hc=>?_⟩ ?_
    ·exact ops_at (cdf (hn 6 rfl)) rfl (o_fieldAddr rfl rfl rfl tyS_23 (by decide) rfl rfl ⟨_,rfl,Nat.le_of_ble_eq_true rfl⟩) (cdf ((updb_ne rfl).trans (hn 6 rfl))) rfl
    refine .cons _ _ _ _ _ ⟨rfl,[(28,.bx 7 0)],AllN.get rfl (.cons rfl .nil),fun b hd hn hk hc=>?_⟩ ?_
    ·exact ops_at (cdf (hn 6 rfl)) rfl (o_loadBx rfl tyS_23 rfl rfl (nb rfl) rfl) (cdf ((updb_ne rfl).trans (hn 6 rfl))) rfl
    refine .cons _ _ _ _ _ ⟨rfl,[(29,.hd 3 (a0.Types_.map (c_I_AttrType false)).length 0 (a0.Types_.map (c_I_AttrType false)).length)],AllN.get rfl (.cons rfl .nil),fun b hd hn hk hc=>?_⟩ ?_
    ·exact ops_at (cdf (hn 6 rfl)) rfl (o_lenOwn (f:=c_I_AttrType false) rfl rfl rfl rfl rfl) (cdf ((updb_ne rfl).trans (hn 6 rfl))) rfl
    refine .cons _ _ _ _ _ ⟨rfl,[(27,.bx 0 0),(30,.int .i64 (a0.Types_.length : Int))],AllN.get rfl (.cons rfl (.cons rfl .nil)),fun b hd hn hk hc=>?_⟩ ?_
    ·exact ops_at (cdf hk) rfl (o_callS [0] rfl en_42 rfl rfl (spec_l1Cur_pick_p c0 h16) rfl (by decide) (.cons _ _ _ _ rfl .nil) rfl rfl rfl) (((cdt updb_self).trans (cdf ((updb_ne rfl).trans (hn 9 rfl)))).trans rfl) rfl
    refine .cons _ _ _ _ _ ⟨rfl,[(0,.bx 0 0)],AllN.get rfl (.cons rfl .nil),fun b hd hn hk hc=>?_⟩ ?_
    ·cases e6 : b 6
     ·exact ops_at (cdf e6) rfl (o_move rfl rfl) (cdf ((updb_ne rfl).trans e6)) rfl
     ·exact ops_at ((cdt e6).trans (cdf (hn 9 rfl))) rfl (o_move rfl rfl) ((cdt ((updb_ne rfl).trans e6)).trans (cdf ((updb_ne rfl).trans (hn 9 rfl)))) rfl
    refine .cons _ _ _ _ _ ⟨rfl,[],AllN.get rfl .nil,fun b hd hn hk hc=>?_⟩ ?_
    ·cases e6 : b 6
     ·exact ops_at (cdf e6) rfl (o_sliceIm (rows:=([(ByteArray.mk #[122,122]),e0,(ByteArray.mk #[97,103,101])] : List ByteArray).map (c_str)) rfl rfl tyS_9 ⟨_,rfl,rfl⟩ (by decide) rfl rfl rfl rfl rfl rfl) (cdf ((updb_ne rfl).trans e6)) rfl
     ·exact ops_at ((cdt e6).trans (cdf (hn 9 rfl))) rfl (o_sliceIm (rows:=([(ByteArray.mk #[122,122]),e0,(ByteArray.mk #[97,103,101])] : List ByteArray).map (c_str)) rfl rfl tyS_9 ⟨_,rfl,rfl⟩ (by decide) rfl rfl rfl rfl rfl rfl) ((cdt ((updb_ne rfl).trans e6)).trans (cdf ((updb_ne rfl).trans (hn 9 rfl)))) rfl
    refine .cons _ _ _ _ _ ⟨rfl,[(32,.bx 0 0),(33,.im false (([(ByteArray.mk #[122,122]),e0,(ByteArray.mk #[97,103,101])] : List ByteArray).map (c_str)))],AllN.get rfl (.cons rfl (.cons rfl .nil)),fun b hd hn hk hc=>?_⟩ ?_
    ·exact ops_at ((cdt (hd 6 rfl)).trans (cdf hk)) rfl (o_callS [0] rfl en_43 rfl rfl (spec_l1Cur_of_p false c0 h19) rfl (by decide) (.cons _ _ _ _ rfl .nil) rfl rfl rfl) ((((cdt ((updb_ne rfl).trans (hd 6 rfl))).trans (cdt updb_self)).trans (cdf ((updb_ne rfl).trans (hn 12 rfl)))).trans rfl) rfl
    refine .cons _ _ _ _ _ ⟨rfl,[(26,.hd 3 (a0.Types_.map (c_I_AttrType false)).length 0 (a0.Types_.map (c_I_AttrType false)).length),(31,.int .i64 r14)],AllN.get rfl (.cons rfl (.cons rfl .nil)),fun b hd hn hk hc=>?_⟩ ?_
    ·exact ops_at (((cdt (hd 6 rfl)).trans (cdt (hd 9 rfl))).trans (cdf (hn 12 rfl))) rfl (o_ixh (f:=c_I_AttrType false) rfl rfl tyS_106 rfl rfl rfl rfl h21 rfl) (((cdt ((updb_ne rfl).trans (hd 6 rfl))).trans (cdt ((updb_ne rfl).trans (hd 9 rfl)))).trans (cdf ((updb_ne rfl).trans (hn 12 rfl)))) rfl
    refine .cons _ _ _ _ _ ⟨rfl,[(35,.el 3 (a0.Types_.map (c_I_AttrType false)).length (Int.toNat r14) 0)],AllN.get rfl (.cons rfl .nil),fun b hd hn hk hc=>?_⟩ ?_
    ·exact ops_at (((cdt (hd 6 rfl)).trans (cdt (hd 9 rfl))).trans (cdf (hn 12 rfl))) rfl (o_fieldAddrEl rfl rfl rfl tyS_9 (by decide) rfl rfl rfl) (((cdt ((updb_ne rfl).trans (hd 6 rfl))).trans (cdt ((updb_ne rfl).trans (hd 9 rfl)))).trans (cdf ((updb_ne rfl).trans (hn 12 rfl)))) rfl
    refine .cons _ _ _ _ _ ⟨rfl,[(34,.str r17),(36,.el 3 (a0.Types_.map (c_I_AttrType false)).length (Int.toNat r14) 0)],AllN.get rfl (.cons rfl (.cons rfl .nil)),fun b hd hn hk hc=>?_⟩ ?_
    ·exact ops_at (((cdt (hd 6 rfl)).trans (cdt (hd 9 rfl))).trans (cdf hk)) rfl (Does.to (o_stEl (f:=c_I_AttrType false) (xs:=a0.Types_) (k:=r14) (a:=e20) (⟨r17,e20.Syntax_,e20.Single_⟩ : I_AttrType) rfl tyS_9 rfl rfl rfl rfl (by decide) h21 rfl rfl rfl (fun _=>rfl) rfl) (eqAtS (eqAtS (eqAtS (eqAtS (eqAtS (eqAtS (eqAtS (eqAtB (show (.box [.hd 3 (a0.Types_.map (c_I_AttrType false)).length 0 (a0.Types_.map (c_I_AttrType false)).length,.hd 4 (a0.Classes_.map (c_I_Class false)).length 0 (a0.Classes_.map (c_I_Class false)).length] : AO) = .box [.hd 3 ((a0.Types_.set (Int.toNat r14) (⟨r17,e20.Syntax_,e20.Single_⟩ : I_AttrType)).map (c_I_AttrType false)).length 0 ((a0.Types_.set (Int.toNat r14) (⟨r17,e20.Syntax_,e20.Single_⟩ : I_AttrType)).map (c_I_AttrType false)).length,.hd 4 (a0.Classes_.map (c_I_Class false)).length 0 (a0.Classes_.map (c_I_Class false)).length] by simp only [List.length_map,List.length_set]) rfl))))))))) ((((cdt ((updb_ne rfl).trans (hd 6 rfl))).trans (cdt ((updb_ne rfl).trans (hd 9 rfl)))).trans (cdt updb_self)).trans rfl) rfl
    exact .nil _
   ·intro b b' h; simp only [h 6 (by decide),h 9 (by decide),h 12 (by decide)]
   refine inB_normal (thn_normal ?_)
   refine T.conv (Cs.eqV (t:=26) (v':=.hd 3 ((a0.Types_.set (Int.toNat r14) (⟨r17,e20.Syntax_,e20.Single_⟩ : I_AttrType)).map (c_I_AttrType false)).length 0 ((a0.Types_.set (Int.toNat r14) (⟨r17,e20.Syntax_,e20.Single_⟩ : I_AttrType)).map (c_I_AttrType false)).length) rfl (hd_len _ (List.length_set ..))) ?_
   refine T.conv (Cs.eqV (t:=29) (v':=.hd 3 ((a0.Types_.set (Int.toNat r14) (⟨r17,e20.Syntax_,e20.Single_⟩ : I_AttrType)).map (c_I_AttrType false)).length 0 ((a0.Types_.set (Int.toNat r14) (⟨r17,e20.Syntax_,e20.Single_⟩ : I_AttrType)).map (c_I_AttrType false)).length) rfl (hd_len _ (List.length_set ..))) ?_
   refine T.seq ?_
   refine T.conv (Cs.eqS (σ':=[.box (c_T_spec_l1Cur c0 o18),_,_,.arr .clo 3 ((a0.Types_.set (Int.toNat r14) (⟨r17,e20.Syntax_,e20.Single_⟩ : I_AttrType)).map (c_I_AttrType false)),_,_,_,.box (k_impl_DirSchema 3 4 false (⟨(a0.Types_.set (Int.toNat r14) (⟨r17,e20.Syntax_,e20.Single_⟩ : I_AttrType)),a0.Classes_⟩ : I_DirSchema)),_]) rfl) ?_
   refine au 2 ?_
   refine TL.sn rfl rfl (o_storeBx rfl tyS_26 rfl rfl rfl rfl (nb rfl) (sure_hd rfl rfl (sure_hd rfl rfl rfl))) ?_
   refine TL.nil ?_
   refine T.conv (Cs.wkF (M:=9) (.k 4 rfl rfl .nil)) ?_
   refine T.conv (Cs.reloc 5 3 rfl rfl (by decide) rfl rfl rfl (nomS_get rfl)) ?_
   refine T.conv (Cs.wkF (M:=9) (.k 4 rfl rfl .nil)) ?_
   refine T.conv (Cs.eqS (σ':=[_,_,_,.dead,_,.arr .clo 3 ((a0.Types_.set (Int.toNat r14) (⟨r17,e20.Syntax_,e20.Single_⟩ : I_AttrType)).map (c_I_AttrType false)),_,.box (k_impl_DirSchema 5 4 false (⟨(a0.Types_.set (Int.toNat r14) (⟨r17,e20.Syntax_,e20.Single_⟩ : I_AttrType)),a0.Classes_⟩ : I_DirSchema)),.box (k_impl_DirSchema 5 4 false (⟨(a0.Types_.set (Int.toNat r14) (⟨r17,e20.Syntax_,e20.Single_⟩ : I_AttrType)),a0.Classes_⟩ : I_DirSchema))]) rfl) ?_
   refine T.conv (Cs.reloc 6 4 rfl rfl (by decide) rfl rfl rfl (nomS_get rfl)) ?_
   refine T.conv (Cs.wkF (M:=9) (.k 4 rfl rfl .nil)) ?_
   refine T.conv (Cs.eqS (σ':=[_,_,_,_,.dead,_,.arr .clo 4 (a0.Classes_.map (c_I_Class false)),.box (k_impl_DirSchema 5 6 false (⟨(a0.Types_.set (Int.toNat r14) (⟨r17,e20.Syntax_,e20.Single_⟩ : I_AttrType)),a0.Classes_⟩ : I_DirSchema)),.box (k_impl_DirSchema 5 6 false (⟨(a0.Types_.set (Int.toNat r14) (⟨r17,e20.Syntax_,e20.Single_⟩ : I_AttrType)),a0.Classes_⟩ : I_DirSchema))]) rfl) ?_
   refine T.ret ?_
   cases some_i H
   exact ⟨trivial,_,(.cell _ _ _ _ _ _ _ _ _ _ rfl rfl tyS_26 (nb rfl) rfl .nil),⟨rfl,_,rfl⟩⟩
  ·refine au 5 ?_
   refine T.cH H ?_ ?_<;>intro H h
   ·obtain ⟨⟨r22,o23⟩,h24,H⟩:=bind_s H
    obtain ⟨⟨r25,o26⟩,h27,H⟩:=bind_s H
    obtain ⟨e28,h29,H⟩:=bind_s H
    refine T.drawS (fr':=[(0,.bx 0 0),(1,.agg [.hd 3 (a0.Types_.map (c_I_AttrType false)).length 0 (a0.Types_.map (c_I_AttrType false)).length,.hd 4 (a0.Classes_.map (c_I_Class false)).length 0 (a0.Classes_.map (c_I_Class false)).length]),(3,.bx 7 0),(4,.bx 8 0),(5,.bx 0 0),(6,.int .i64 r1),(7,.bool (r1 == 0)),(8,.bool (r1 == 0)),(23,.bool (r1 == 1)),(24,.bool (r1 == 1)),(37,.bool (r1 == 2)),(38,.bool (r1 == 2)),(39,.bx 7 1),(40,.hd 4 (a0.Classes_.map (c_I_Class false)).length 0 (a0.Classes_.map (c_I_Class false)).length),(41,.bx 0 0),(42,.bx 7 1),(43,.hd 4 (a0.Classes_.map (c_I_Class false)).length 0 (a0.Classes_.map (c_I_Class false)).length),(44,.int .i64 (a0.Classes_.length : Int)),(45,.int .i64 r22),(46,.bx 0 0),(47,.im false (([e0,(ByteArray.mk #[83,116,97,102,102]),(ByteArray.mk #[71,114,111,117,112]),(ByteArray.mk #[78,111,110,101]),(ByteArray.mk #[84,111,112])] : List ByteArray).map (c_str))),(48,.str r25)]) (R:=[⟨some 39,.bx 7 1,.q,[]⟩,⟨some 40,.hd 4 (a0.Classes_.map (c_I_Class false)).length 0 (a0.Classes_.map (c_I_Class false)).length,.q,[]⟩,⟨some 41,.bx 0 0,.q,[]⟩,⟨some 42,.bx 7 1,.q,[]⟩,⟨some 43,.hd 4 (a0.Classes_.map (c_I_Class false)).length 0 (a0.Classes_.map (c_I_Class false)).length,.q,[]⟩,⟨some 44,.int .i64 (a0.Classes_.length : Int),.q,[]⟩,⟨some 45,.int .i64 r22,.q,[]⟩,⟨some 46,.bx 0 0,.q,[]⟩,⟨some 47,.im false (([e0,(ByteArray.mk #[83,116,97,102,102]),(ByteArray.mk #[71,114,111,117,112]),(ByteArray.mk #[78,111,110,101]),(ByteArray.mk #[84,111,112])] : List ByteArray).map (c_str)),.q,[]⟩,⟨some 48,.str r25,.q,[]⟩,⟨some 49,.el 4 (a0.Classes_.map (c_I_Class false)).length (Int.toNat r22) 0,.q,[]⟩,⟨some 50,.el 4 (a0.Classes_.map (c_I_Class false)).length (Int.toNat r22) 1,.q,[]⟩,⟨none,.any,.q,[]⟩]) (fun b=>cond (b 6) (cond (b 9) (cond (b 12) ([.box (c_T_spec_l1Cur c0 o26),.dead,.dead,.arr .clo 3 (a0.Types_.map (c_I_AttrType false)),.arr .clo 4 ((a0.Classes_.set (Int.toNat r22) ({ e28 with Up_:=r25 } : I_Class)).map (c_I_Class false)),.dead,.dead,.box (k_impl_DirSchema 3 4 false (⟨a0.Types_,(a0.Classes_.set (Int.toNat r22) ({ e28 with Up_:=r25 } : I_Class))⟩ : I_DirSchema)),.box [.nilS,.nilS]]) ([.box (c_T_spec_l1Cur c0 o26),.dead,.dead,.arr .clo 3 (a0.Types_.map (c_I_AttrType false)),.arr .clo 4 (a0.Classes_.map (c_I_Class false)),.dead,.dead,.box (k_impl_DirSchema 3 4 false a0),.box [.nilS,.nilS]])) ([.box (c_T_spec_l1Cur c0 o23),.dead,.dead,.arr .clo 3 (a0.Types_.map (c_I_AttrType false)),.arr .clo 4 (a0.Classes_.map (c_I_Class false)),.dead,.dead,.box (k_impl_DirSchema 3 4 false a0),.box [.nilS,.nilS]])) ([.box (c_T_spec_l1Cur c0 o2),.dead,.dead,.arr .clo 3 (a0.Types_.map (c_I_AttrType false)),.arr .clo 4 (a0.Classes_.map (c_I_Class false)),.dead,.dead,.box (k_impl_DirSchema 3 4 false a0),.box [.nilS,.nilS]])) rfl ?_ ?_ rfl rfl (FrL.get (.cons rfl (.cons rfl (.cons rfl (.cons rfl (.cons rfl (.cons rfl (.cons rfl (.cons rfl (.cons rfl (.cons rfl (.cons rfl (.cons rfl (.cons rfl (.cons rfl (.cons rfl (.cons rfl (.cons rfl (.cons rfl (.cons rfl (.cons rfl (.cons rfl (.cons rfl .nil))))))))))))))))))))))) ?_
    ·refine .cons _ _ _ _ _ ⟨rfl,[(3,.bx 7 0)],AllN.get rfl (.cons rfl .nil),fun b hd hn hk hc=>?_⟩ ?_
     ·cases e6 : b 6
      ·cases e9 : b 9
       ·exact ops_at (cdf e6) rfl (o_fieldAddr rfl rfl rfl tyS_24 (by decide) rfl rfl ⟨_,rfl,Nat.le_of_ble_eq_true rfl⟩) (cdf ((updb_ne rfl).trans e6)) rfl
       ·exact absurd (hc 9 6 rfl rfl e9) (by rw [e6]; decide)
      ·cases e9 : b 9
       ·exact ops_at ((cdt e6).trans (cdf e9)) rfl (o_fieldAddr rfl rfl rfl tyS_24 (by decide) rfl rfl ⟨_,rfl,Nat.le_of_ble_eq_true rfl⟩) ((cdt ((updb_ne rfl).trans e6)).trans (cdf ((updb_ne rfl).trans e9))) rfl
       ·exact ops_at (((cdt e6).trans (cdt e9)).trans (cdf (hn 12 rfl))) rfl (o_fieldAddr rfl rfl rfl tyS_24 (by decide) rfl rfl ⟨_,rfl,Nat.le_of_ble_eq_true rfl⟩) (((cdt ((updb_ne rfl).trans e6)).trans (cdt ((updb_ne rfl).trans e9))).trans (cdf ((updb_ne rfl).trans (hn 12 rfl)))) rfl
     refine .cons _ _ _ _ _ ⟨rfl,[(39,.bx 7 1)],AllN.get rfl (.cons rfl .nil),fun b hd hn hk hc=>?_⟩ ?_
     ·cases e6 : b 6
      ·cases e9 : b 9
       ·exact ops_at (cdf e6) rfl (o_loadBx rfl tyS_24 rfl rfl (nb rfl) rfl) (cdf ((updb_ne rfl).trans e6)) rfl
       ·exact absurd (hc 9 6 rfl rfl e9) (by rw [e6]; decide)
      ·cases e9 : b 9
       ·exact ops_at ((cdt e6).trans (cdf e9)) rfl (o_loadBx rfl tyS_24 rfl rfl (nb rfl) rfl) ((cdt ((updb_ne rfl).trans e6)).trans (cdf ((updb_ne rfl).trans e9))) rfl
       ·exact ops_at (((cdt e6).trans (cdt e9)).trans (cdf (hn 12 rfl))) rfl (o_loadBx rfl tyS_24 rfl rfl (nb rfl) rfl) (((cdt ((updb_ne rfl).trans e6)).trans (cdt ((updb_ne rfl).trans e9))).trans (cdf ((updb_ne rfl).trans (hn 12 rfl)))) rfl
     refine .cons _ _ _ _ _ ⟨rfl,[(0,.bx 0 0)],AllN.get rfl (.cons rfl .nil),fun b hd hn hk hc=>?_⟩ ?_
     ·exact ops_at (cdf (hn 6 rfl)) rfl (o_move rfl rfl) (cdf ((updb_ne rfl).trans (hn 6 rfl))) rfl
     refine .cons _ _ _ _ _ ⟨rfl,[(3,.bx 7 0)],AllN.get rfl (.cons rfl .nil),fun b hd hn hk hc=>?_⟩ ?_
     ·exact ops_at (cdf (hn 6 rfl)) rfl (o_fieldAddr rfl rfl rfl tyS_24 (by decide) rfl rfl ⟨_,rfl,Nat.le_of_ble_eq_true rfl⟩) (cdf ((updb_ne rfl).trans (hn 6 rfl))) rfl
     refine .cons _ _ _ _ _ ⟨rfl,[(42,.bx 7 1)],AllN.get rfl (.cons rfl .nil),fun b hd hn hk hc=>?_⟩ ?_
     ·exact ops_at (cdf (hn 6 rfl)) rfl (o_loadBx rfl tyS_24 rfl rfl (nb rfl) rfl) (cdf ((updb_ne rfl).trans (hn 6 rfl))) rfl
     refine .cons _ _ _ _ _ ⟨rfl,[(43,.hd 4 (a0.Classes_.map (c_I_Class false)).length 0 (a0.Classes_.map (c_I_Class false)).length)],AllN.get rfl (.cons rfl .nil),fun b hd hn hk hc=>?_⟩ ?_
     ·exact ops_at (cdf (hn 6 rfl)) rfl (o_lenOwn (f:=c_I_Class false) rfl rfl rfl rfl rfl) (cdf ((updb_ne rfl).trans (hn 6 rfl))) rfl
     refine .cons _ _ _ _ _ ⟨rfl,[(41,.bx 0 0),(44,.int .i64 (a0.Classes_.length : Int))],AllN.get rfl (.cons rfl (.cons rfl .nil)),fun b hd hn hk hc=>?_⟩ ?_
     ·exact ops_at (cdf hk) rfl (o_callS [0] rfl en_42 rfl rfl (spec_l1Cur_pick_p c0 h24) rfl (by decide) (.cons _ _ _ _ rfl .nil) rfl rfl rfl) (((cdt updb_self).trans (cdf ((updb_ne rfl).trans (hn 9 rfl)))).trans rfl) rfl
     refine .cons _ _ _ _ _ ⟨rfl,[(0,.bx 0 0)],AllN.get rfl (.cons rfl .nil),fun b hd hn hk hc=>?_⟩ ?_
     ·cases e6 : b 6
      ·exact ops_at (cdf e6) rfl (o_move rfl rfl) (cdf ((updb_ne rfl).trans e6)) rfl
      ·exact ops_at ((cdt e6).trans (cdf (hn 9 rfl))) rfl (o_move rfl rfl) ((cdt ((updb_ne rfl).trans e6)).trans (cdf ((updb_ne rfl).trans (hn 9 rfl)))) rfl
     refine .cons _ _ _ _ _ ⟨rfl,[],AllN.get rfl .nil,fun b hd hn hk hc=>?_⟩ ?_
     ·cases e6 : b 6
      ·exact ops_at (cdf e6) rfl (o_sliceIm (rows:=([e0,(ByteArray.mk #[83,116,97,102,102]),(ByteArray.mk #[71,114,111,117,112]),(ByteArray.mk #[78,111,110,101]),(ByteArray.mk #[84,111,112])] : List ByteArray).map (c_str)) rfl rfl tyS_9 ⟨_,rfl,rfl⟩ (by decide) rfl rfl rfl rfl rfl rfl) (cdf ((updb_ne rfl).trans e6)) rfl
      ·exact ops_at ((cdt e6).trans (cdf (hn 9 rfl))) rfl (o_sliceIm (rows:=([e0,(ByteArray.mk #[83,116,97,102,102]),(ByteArray.mk #[71,114,111,117,112]),(ByteArray.mk #[78,111,110,101]),(ByteArray.mk #[84,111,112])] : List ByteArray).map (c_str)) rfl rfl tyS_9 ⟨_,rfl,rfl⟩ (by decide) rfl rfl rfl rfl rfl rfl) ((cdt ((updb_ne rfl).trans e6)).trans (cdf ((updb_ne rfl).trans (hn 9 rfl)))) rfl
     refine .cons _ _ _ _ _ ⟨rfl,[(46,.bx 0 0),(47,.im false (([e0,(ByteArray.mk #[83,116,97,102,102]),(ByteArray.mk #[71,114,111,117,112]),(ByteArray.mk #[78,111,110,101]),(ByteArray.mk #[84,111,112])] : List ByteArray).map (c_str)))],AllN.get rfl (.cons rfl (.cons rfl .nil)),fun b hd hn hk hc=>?_⟩ ?_
     ·exact ops_at ((cdt (hd 6 rfl)).trans (cdf hk)) rfl (o_callS [0] rfl en_43 rfl rfl (spec_l1Cur_of_p false c0 h27) rfl (by decide) (.cons _ _ _ _ rfl .nil) rfl rfl rfl) ((((cdt ((updb_ne rfl).trans (hd 6 rfl))).trans (cdt updb_self)).trans (cdf ((updb_ne rfl).trans (hn 12 rfl)))).trans rfl) rfl
     refine .cons _ _ _ _ _ ⟨rfl,[(40,.hd 4 (a0.Classes_.map (c_I_Class false)).length 0 (a0.Classes_.map (c_I_Class false)).length),(45,.int .i64 r22)],AllN.get rfl (.cons rfl (.cons rfl .nil)),fun b hd hn hk hc=>?_⟩ ?_
     ·exact ops_at (((cdt (hd 6 rfl)).trans (cdt (hd 9 rfl))).trans (cdf (hn 12 rfl))) rfl (o_ixh (f:=c_I_Class false) rfl rfl tyS_108 rfl rfl rfl rfl h29 rfl) (((cdt ((updb_ne rfl).trans (hd 6 rfl))).trans (cdt ((updb_ne rfl).trans (hd 9 rfl)))).trans (cdf ((updb_ne rfl).trans (hn 12 rfl)))) rfl
     refine .cons _ _ _ _ _ ⟨rfl,[(49,.el 4 (a0.Classes_.map (c_I_Class false)).length (Int.toNat r22) 0)],AllN.get rfl (.cons rfl .nil),fun b hd hn hk hc=>?_⟩ ?_
     ·exact ops_at (((cdt (hd 6 rfl)).trans (cdt (hd 9 rfl))).trans (cdf (hn 12 rfl))) rfl (o_fieldAddrEl rfl rfl rfl tyS_9 (by decide) rfl rfl rfl) (((cdt ((updb_ne rfl).trans (hd 6 rfl))).trans (cdt ((updb_ne rfl).trans (hd 9 rfl)))).trans (cdf ((updb_ne rfl).trans (hn 12 rfl)))) rfl
     refine .cons _ _ _ _ _ ⟨rfl,[(48,.str r25),(50,.el 4 (a0.Classes_.map (c_I_Class false)).length (Int.toNat r22) 1)],AllN.get rfl (.cons rfl (.cons rfl .nil)),fun b hd hn hk hc=>?_⟩ ?_
     ·exact ops_at (((cdt (hd 6 rfl)).trans (cdt (hd 9 rfl))).trans (cdf hk)) rfl (Does.to (o_stEl (f:=c_I_Class false) (xs:=a0.Classes_) (k:=r22) (a:=e28) ({ e28 with Up_:=r25 } : I_Class) rfl tyS_9 rfl rfl rfl rfl (by decide) h29 rfl rfl rfl (fun _=>rfl) rfl) (eqAtS (eqAtS (eqAtS (eqAtS (eqAtS (eqAtS (eqAtS (eqAtB (show (.box [.hd 3 (a0.Types_.map (c_I_AttrType false)).length 0 (a0.Types_.map (c_I_AttrType false)).length,.hd 4 (a0.Classes_.map (c_I_Class false)).length 0 (a0.Classes_.map (c_I_Class false)).length] : AO) = .box [.hd 3 (a0.Types_.map (c_I_AttrType false)).length 0 (a0.Types_.map (c_I_AttrType false)).length,.hd 4 ((a0.Classes_.set (Int.toNat r22) ({ e28 with Up_:=r25 } : I_Class)).map (c_I_Class false)).length 0 ((a0.Classes_.set (Int.toNat r22) ({ e28 with Up_:=r25 } : I_Class)).map (c_I_Class false)).length] by simp only [List.length_map,List.length_set]) rfl))))))))) ((((cdt ((updb_ne rfl).trans (hd 6 rfl))).trans (cdt ((updb_ne rfl).trans (hd 9 rfl)))).trans (cdt updb_self)).trans rfl) rfl
     exact .nil _
    ·intro b b' h; simp only [h 6 (by decide),h 9 (by decide),h 12 (by decide)]
    refine inB_normal (thn_normal ?_)
    refine T.conv (Cs.eqV (t:=40) (v':=.hd 4 ((a0.Classes_.set (Int.toNat r22) ({ e28 with Up_:=r25 } : I_Class)).map (c_I_Class false)).length 0 ((a0.Classes_.set (Int.toNat r22) ({ e28 with Up_:=r25 } : I_Class)).map (c_I_Class false)).length) rfl (hd_len _ (List.length_set ..))) ?_
    refine T.conv (Cs.eqV (t:=43) (v':=.hd 4 ((a0.Classes_.set (Int.toNat r22) ({ e28 with Up_:=r25 } : I_Class)).map (c_I_Class false)).length 0 ((a0.Classes_.set (Int.toNat r22) ({ e28 with Up_:=r25 } : I_Class)).map (c_I_Class false)).length) rfl (hd_len _ (List.length_set ..))) ?_
    refine T.seq ?_
    refine T.conv (Cs.eqS (σ':=[.box (c_T_spec_l1Cur c0 o26),_,_,_,.arr .clo 4 ((a0.Classes_.set (Int.toNat r22) ({ e28 with Up_:=r25 } : I_Class)).map (c_I_Class false)),_,_,.box (k_impl_DirSchema 3 4 false (⟨a0.Types_,(a0.Classes_.set (Int.toNat r22) ({ e28 with Up_:=r25 } : I_Class))⟩ : I_DirSchema)),_]) rfl) ?_
    refine au 2 ?_
    refine TL.sn rfl rfl (o_storeBx rfl tyS_26 rfl rfl rfl rfl (nb rfl) (sure_hd rfl rfl (sure_hd rfl rfl rfl))) ?_
    refine TL.nil ?_
    refine T.conv (Cs.wkF (M:=9) (.k 4 rfl rfl .nil)) ?_
    refine T.conv (Cs.reloc 5 3 rfl rfl (by decide) rfl rfl rfl (nomS_get rfl)) ?_
    refine T.conv (Cs.wkF (M:=9) (.k 4 rfl rfl .nil)) ?_
    refine T.conv (Cs.eqS (σ':=[_,_,_,.dead,_,.arr .clo 3 (a0.Types_.map (c_I_AttrType false)),_,.box (k_impl_DirSchema 5 4 false (⟨a0.Types_,(a0.Classes_.set (Int.toNat r22) ({ e28 with Up_:=r25 } : I_Class))⟩ : I_DirSchema)),.box (k_impl_DirSchema 5 4 false (⟨a0.Types_,(a0.Classes_.set (Int.toNat r22) ({ e28 with Up_:=r25 } : I_Class))⟩ : I_DirSchema))]) rfl) ?_
    refine T.conv (Cs.reloc 6 4 rfl rfl (by decide) rfl rfl rfl (nomS_get rfl)) ?_
    refine T.conv (Cs.wkF (M:=9) (.k 4 rfl rfl .nil)) ?_
    refine T.conv (Cs.eqS (σ':=[_,_,_,_,.dead,_,.arr .clo 4 ((a0.Classes_.set (Int.toNat r22) ({ e28 with Up_:=r25 } : I_Class)).map (c_I_Class false)),.box (k_impl_DirSchema 5 6 false (⟨a0.Types_,(a0.Classes_.set (Int.toNat r22) ({ e28 with Up_:=r25 } : I_Class))⟩ : I_DirSchema)),.box (k_impl_DirSchema 5 6 false (⟨a0.Types_,(a0.Classes_.set (Int.toNat r22) ({ e28 with Up_:=r25 } : I_Class))⟩ : I_DirSchema))]) rfl) ?_
    refine T.ret ?_
    cases some_i H
    exact ⟨trivial,_,(.cell _ _ _ _ _ _ _ _ _ _ rfl rfl tyS_26 (nb rfl) rfl .nil),⟨rfl,_,rfl⟩⟩
   ·refine au 5 ?_
    refine T.cH H ?_ ?_<;>intro H h
    ·obtain ⟨⟨r30,o31⟩,h32,H⟩:=bind_s H
     obtain ⟨⟨r33,o34⟩,h35,H⟩:=bind_s H
     obtain ⟨e36,h37,H⟩:=bind_s H
     refine T.drawS (fr':=[(0,.bx 0 0),(1,.agg [.hd 3 (a0.Types_.map (c_I_AttrType false)).length 0 (a0.Types_.map (c_I_AttrType false)).length,.hd 4 (a0.Classes_.map (c_I_Class false)).length 0 (a0.Classes_.map (c_I_Class false)).length]),(3,.bx 7 0),(4,.bx 8 0),(5,.bx 0 0),(6,.int .i64 r1),(7,.bool (r1 == 0)),(8,.bool (r1 == 0)),(23,.bool (r1 == 1)),(24,.bool (r1 == 1)),(37,.bool (r1 == 2)),(38,.bool (r1 == 2)),(51,.bool (r1 == 3)),(52,.bool (r1 == 3)),(53,.bx 7 1),(54,.hd 4 (a0.Classes_.map (c_I_Class false)).length 0 (a0.Classes_.map (c_I_Class false)).length),(55,.bx 0 0),(56,.bx 7 1),(57,.hd 4 (a0.Classes_.map (c_I_Class false)).length 0 (a0.Classes_.map (c_I_Class false)).length),(58,.int .i64 (a0.Classes_.length : Int)),(59,.int .i64 r30),(60,.bx 0 0),(61,.im false (([(ByteArray.mk #[110,111,115,117,99,104]),(ByteArray.mk #[99,108,97,115,115]),(ByteArray.mk #[99,110])] : List ByteArray).map (c_str))),(62,.str r33),(63,.im false (([r33] : List ByteArray).map (c_str)))]) (R:=[⟨some 53,.bx 7 1,.q,[]⟩,⟨some 54,.hd 4 (a0.Classes_.map (c_I_Class false)).length 0 (a0.Classes_.map (c_I_Class false)).length,.q,[]⟩,⟨some 55,.bx 0 0,.q,[]⟩,⟨some 56,.bx 7 1,.q,[]⟩,⟨some 57,.hd 4 (a0.Classes_.map (c_I_Class false)).length 0 (a0.Classes_.map (c_I_Class false)).length,.q,[]⟩,⟨some 58,.int .i64 (a0.Classes_.length : Int),.q,[]⟩,⟨some 59,.int .i64 r30,.q,[]⟩,⟨some 60,.bx 0 0,.q,[]⟩,⟨some 61,.im false (([(ByteArray.mk #[110,111,115,117,99,104]),(ByteArray.mk #[99,108,97,115,115]),(ByteArray.mk #[99,110])] : List ByteArray).map (c_str)),.q,[]⟩,⟨some 62,.str r33,.q,[]⟩,⟨some 63,.im false (([r33] : List ByteArray).map (c_str)),.q,[]⟩,⟨some 64,.el 4 (a0.Classes_.map (c_I_Class false)).length (Int.toNat r30) 0,.q,[]⟩,⟨some 65,.el 4 (a0.Classes_.map (c_I_Class false)).length (Int.toNat r30) 2,.q,[]⟩,⟨none,.any,.q,[]⟩]) (fun b=>cond (b 6) (cond (b 9) (cond (b 13) ([.box (c_T_spec_l1Cur c0 o34),.dead,.dead,.arr .clo 3 (a0.Types_.map (c_I_AttrType false)),.arr .clo 4 ((a0.Classes_.set (Int.toNat r30) ({ e36 with Must_:=([r33] : List ByteArray) } : I_Class)).map (c_I_Class false)),.dead,.dead,.box (k_impl_DirSchema 3 4 false (⟨a0.Types_,(a0.Classes_.set (Int.toNat r30) ({ e36 with Must_:=([r33] : List ByteArray) } : I_Class))⟩ : I_DirSchema)),.box [.nilS,.nilS]]) ([.box (c_T_spec_l1Cur c0 o34),.dead,.dead,.arr .clo 3 (a0.Types_.map (c_I_AttrType false)),.arr .clo 4 (a0.Classes_.map (c_I_Class false)),.dead,.dead,.box (k_impl_DirSchema 3 4 false a0),.box [.nilS,.nilS]])) ([.box (c_T_spec_l1Cur c0 o31),.dead,.dead,.arr .clo 3 (a0.Types_.map (c_I_AttrType false)),.arr .clo 4 (a0.Classes_.map (c_I_Class false)),.dead,.dead,.box (k_impl_DirSchema 3 4 false a0),.box [.nilS,.nilS]])) ([.box (c_T_spec_l1Cur c0 o2),.dead,.dead,.arr .clo 3 (a0.Types_.map (c_I_AttrType false)),.arr .clo 4 (a0.Classes_.map (c_I_Class false)),.dead,.dead,.box (k_impl_DirSchema 3 4 false a0),.box [.nilS,.nilS]])) rfl ?_ ?_ rfl rfl (FrL.get (.cons rfl (.cons rfl (.cons rfl (.cons rfl (.cons rfl (.cons rfl (.cons rfl (.cons rfl (.cons rfl (.cons rfl (.cons rfl (.cons rfl (.cons rfl (.cons rfl (.cons rfl (.cons rfl (.cons rfl (.cons rfl (.cons rfl (.cons rfl (.cons rfl (.cons rfl (.cons rfl (.cons rfl (.cons rfl .nil)))))))))))))))))))))))))) ?_
     ·refine .cons _ _ _ _ _ ⟨rfl,[(3,.bx 7 0)],AllN.get rfl (.cons rfl .nil),fun b hd hn hk hc=>?_⟩ ?_
      ·cases e6 : b 6
       ·cases e9 : b 9
        ·exact ops_at (cdf e6) rfl (o_fieldAddr rfl rfl rfl tyS_24 (by decide) rfl rfl ⟨_,rfl,Nat.le_of_ble_eq_true rfl⟩) (cdf ((updb_ne rfl).trans e6)) rfl
        ·exact absurd (hc 9 6 rfl rfl e9) (by rw [e6]; decide)
       ·cases e9 : b 9
        ·exact ops_at ((cdt e6).trans (cdf e9)) rfl (o_fieldAddr rfl rfl rfl tyS_24 (by decide) rfl rfl ⟨_,rfl,Nat.le_of_ble_eq_true rfl⟩) ((cdt ((updb_ne rfl).trans e6)).trans (cdf ((updb_ne rfl).trans e9))) rfl
        ·exact ops_at (((cdt e6).trans (cdt e9)).trans (cdf (hn 13 rfl))) rfl (o_fieldAddr rfl rfl rfl tyS_24 (by decide) rfl rfl ⟨_,rfl,Nat.le_of_ble_eq_true rfl⟩) (((cdt ((updb_ne rfl).trans e6)).trans (cdt ((updb_ne rfl).trans e9))).trans (cdf ((updb_ne rfl).trans (hn 13 rfl)))) rfl
      refine .cons _ _ _ _ _ ⟨rfl,[(53,.bx 7 1)],AllN.get rfl (.cons rfl .nil),fun b hd hn hk hc=>?_⟩ ?_
      ·cases e6 : b 6
       ·cases e9 : b 9
        ·exact ops_at (cdf e6) rfl (o_loadBx rfl tyS_24 rfl rfl (nb rfl) rfl) (cdf ((updb_ne rfl).trans e6)) rfl
        ·exact absurd (hc 9 6 rfl rfl e9) (by rw [e6]; decide)
       ·cases e9 : b 9
        ·exact ops_at ((cdt e6).trans (cdf e9)) rfl (o_loadBx rfl tyS_24 rfl rfl (nb rfl) rfl) ((cdt ((updb_ne rfl).trans e6)).trans (cdf ((updb_ne rfl).trans e9))) rfl
        ·exact ops_at (((cdt e6).trans (cdt e9)).trans (cdf (hn 13 rfl))) rfl (o_loadBx rfl tyS_24 rfl rfl (nb rfl) rfl) (((cdt ((updb_ne rfl).trans e6)).trans (cdt ((updb_ne rfl).trans e9))).trans (cdf ((updb_ne rfl).trans (hn 13 rfl)))) rfl
      refine .cons _ _ _ _ _ ⟨rfl,[(0,.bx 0 0)],AllN.get rfl (.cons rfl .nil),fun b hd hn hk hc=>?_⟩ ?_
      ·exact ops_at (cdf (hn 6 rfl)) rfl (o_move rfl rfl) (cdf ((updb_ne rfl).trans (hn 6 rfl))) rfl
      refine .cons _ _ _ _ _ ⟨rfl,[(3,.bx 7 0)],AllN.get rfl (.cons rfl .nil),fun b hd hn hk hc=>?_⟩ ?_
      ·exact ops_at (cdf (hn 6 rfl)) rfl (o_fieldAddr rfl rfl rfl tyS_24 (by decide) rfl rfl ⟨_,rfl,Nat.le_of_ble_eq_true rfl⟩) (cdf ((updb_ne rfl).trans (hn 6 rfl))) rfl
      refine .cons _ _ _ _ _ ⟨rfl,[(56,.bx 7 1)],AllN.get rfl (.cons rfl .nil),fun b hd hn hk hc=>?_⟩ ?_
      ·exact ops_at (cdf (hn 6 rfl)) rfl (o_loadBx rfl tyS_24 rfl rfl (nb rfl) rfl) (cdf ((updb_ne rfl).trans (hn 6 rfl))) rfl
      refine .cons _ _ _ _ _ ⟨rfl,[(57,.hd 4 (a0.Classes_.map (c_I_Class false)).length 0 (a0.Classes_.map (c_I_Class false)).length)],AllN.get rfl (.cons rfl .nil),fun b hd hn hk hc=>?_⟩ ?_
      ·exact ops_at (cdf (hn 6 rfl)) rfl (o_lenOwn (f:=c_I_Class false) rfl rfl rfl rfl rfl) (cdf ((updb_ne rfl).trans (hn 6 rfl))) rfl
      refine .cons _ _ _ _ _ ⟨rfl,[(55,.bx 0 0),(58,.int .i64 (a0.Classes_.length : Int))],AllN.get rfl (.cons rfl (.cons rfl .nil)),fun b hd hn hk hc=>?_⟩ ?_
      ·exact ops_at (cdf hk) rfl (o_callS [0] rfl en_42 rfl rfl (spec_l1Cur_pick_p c0 h32) rfl (by decide) (.cons _ _ _ _ rfl .nil) rfl rfl rfl) (((cdt updb_self).trans (cdf ((updb_ne rfl).trans (hn 9 rfl)))).trans rfl) rfl
      refine .cons _ _ _ _ _ ⟨rfl,[(0,.bx 0 0)],AllN.get rfl (.cons rfl .nil),fun b hd hn hk hc=>?_⟩ ?_
      ·cases e6 : b 6
       ·exact ops_at (cdf e6) rfl (o_move rfl rfl) (cdf ((updb_ne rfl).trans e6)) rfl
       ·exact ops_at ((cdt e6).trans (cdf (hn 9 rfl))) rfl (o_move rfl rfl) ((cdt ((updb_ne rfl).trans e6)).trans (cdf ((updb_ne rfl).trans (hn 9 rfl)))) rfl
      refine .cons _ _ _ _ _ ⟨rfl,[],AllN.get rfl .nil,fun b hd hn hk hc=>?_⟩ ?_
      ·cases e6 : b 6
       ·exact ops_at (cdf e6) rfl (o_sliceIm (rows:=([(ByteArray.mk #[110,111,115,117,99,104]),(ByteArray.mk #[99,108,97,115,115]),(ByteArray.mk #[99,110])] : List ByteArray).map (c_str)) rfl rfl tyS_9 ⟨_,rfl,rfl⟩ (by decide) rfl rfl rfl rfl rfl rfl) (cdf ((updb_ne rfl).trans e6)) rfl
       ·exact ops_at ((cdt e6).trans (cdf (hn 9 rfl))) rfl (o_sliceIm (rows:=([(ByteArray.mk #[110,111,115,117,99,104]),(ByteArray.mk #[99,108,97,115,115]),(ByteArray.mk #[99,110])] : List ByteArray).map (c_str)) rfl rfl tyS_9 ⟨_,rfl,rfl⟩ (by decide) rfl rfl rfl rfl rfl rfl) ((cdt ((updb_ne rfl).trans e6)).trans (cdf ((updb_ne rfl).trans (hn 9 rfl)))) rfl
      refine .cons _ _ _ _ _ ⟨rfl,[(60,.bx 0 0),(61,.im false (([(ByteArray.mk #[110,111,115,117,99,104]),(ByteArray.mk #[99,108,97,115,115]),(ByteArray.mk #[99,110])] : List ByteArray).map (c_str)))],AllN.get rfl (.cons rfl (.cons rfl .nil)),fun b hd hn hk hc=>?_⟩ ?_
      ·exact ops_at ((cdt (hd 6 rfl)).trans (cdf hk)) rfl (o_callS [0] rfl en_43 rfl rfl (spec_l1Cur_of_p false c0 h35) rfl (by decide) (.cons _ _ _ _ rfl .nil) rfl rfl rfl) ((((cdt ((updb_ne rfl).trans (hd 6 rfl))).trans (cdt updb_self)).trans (cdf ((updb_ne rfl).trans (hn 13 rfl)))).trans rfl) rfl
      refine .cons _ _ _ _ _ ⟨rfl,[(62,.str r33)],AllN.get rfl (.cons rfl .nil),fun b hd hn hk hc=>?_⟩ ?_
      ·exact ops_at (((cdt (hd 6 rfl)).trans (cdt (hd 9 rfl))).trans (cdf (hn 13 rfl))) rfl (o_sliceIm (rows:=([r33] : List ByteArray).map (c_str)) rfl rfl tyS_9 ⟨_,rfl,rfl⟩ (by decide) rfl rfl rfl rfl rfl rfl) (((cdt ((updb_ne rfl).trans (hd 6 rfl))).trans (cdt ((updb_ne rfl).trans (hd 9 rfl)))).trans (cdf ((updb_ne rfl).trans (hn 13 rfl)))) rfl
      refine .cons _ _ _ _ _ ⟨rfl,[(54,.hd 4 (a0.Classes_.map (c_I_Class false)).length 0 (a0.Classes_.map (c_I_Class false)).length),(59,.int .i64 r30)],AllN.get rfl (.cons rfl (.cons rfl .nil)),fun b hd hn hk hc=>?_⟩ ?_
      ·exact ops_at (((cdt (hd 6 rfl)).trans (cdt (hd 9 rfl))).trans (cdf (hn 13 rfl))) rfl (o_ixh (f:=c_I_Class false) rfl rfl tyS_108 rfl rfl rfl rfl h37 rfl) (((cdt ((updb_ne rfl).trans (hd 6 rfl))).trans (cdt ((updb_ne rfl).trans (hd 9 rfl)))).trans (cdf ((updb_ne rfl).trans (hn 13 rfl)))) rfl
      refine .cons _ _ _ _ _ ⟨rfl,[(64,.el 4 (a0.Classes_.map (c_I_Class false)).length (Int.toNat r30) 0)],AllN.get rfl (.cons rfl .nil),fun b hd hn hk hc=>?_⟩ ?_
      ·exact ops_at (((cdt (hd 6 rfl)).trans (cdt (hd 9 rfl))).trans (cdf (hn 13 rfl))) rfl (o_fieldAddrEl rfl rfl rfl tyS_43 (by decide) rfl rfl rfl) (((cdt ((updb_ne rfl).trans (hd 6 rfl))).trans (cdt ((updb_ne rfl).trans (hd 9 rfl)))).trans (cdf ((updb_ne rfl).trans (hn 13 rfl)))) rfl
      refine .cons _ _ _ _ _ ⟨rfl,[(63,.im false (([r33] : List ByteArray).map (c_str))),(65,.el 4 (a0.Classes_.map (c_I_Class false)).length (Int.toNat r30) 2)],AllN.get rfl (.cons rfl (.cons rfl .nil)),fun b hd hn hk hc=>?_⟩ ?_
      ·exact ops_at (((cdt (hd 6 rfl)).trans (cdt (hd 9 rfl))).trans (cdf hk)) rfl (Does.to (o_stEl (f:=c_I_Class false) (xs:=a0.Classes_) (k:=r30) (a:=e36) ({ e36 with Must_:=([r33] : List ByteArray) } : I_Class) rfl tyS_43 rfl rfl rfl rfl (by decide) h37 rfl rfl rfl (fun _=>rfl) rfl) (eqAtS (eqAtS (eqAtS (eqAtS (eqAtS (eqAtS (eqAtS (eqAtB (show (.box [.hd 3 (a0.Types_.map (c_I_AttrType false)).length 0 (a0.Types_.map (c_I_AttrType false)).length,.hd 4 (a0.Classes_.map (c_I_Class false)).length 0 (a0.Classes_.map (c_I_Class false)).length] : AO) = .box [.hd 3 (a0.Types_.map (c_I_AttrType false)).length 0 (a0.Types_.map (c_I_AttrType false)).length,.hd 4 ((a0.Classes_.set (Int.toNat r30) ({ e36 with Must_:=([r33] : List ByteArray) } : I_Class)).map (c_I_Class false)).length 0 ((a0.Classes_.set (Int.toNat r30) ({ e36 with Must_:=([r33] : List ByteArray) } : I_Class)).map (c_I_Class false)).length] by simp only [List.length_map,List.length_set]) rfl))))))))) ((((cdt ((updb_ne rfl).trans (hd 6 rfl))).trans (cdt ((updb_ne rfl).trans (hd 9 rfl)))).trans (cdt updb_self)).trans rfl) rfl
      exact .nil _
     ·intro b b' h; simp only [h 6 (by decide),h 9 (by decide),h 13 (by decide)]
     refine inB_normal (thn_normal ?_)
     refine T.conv (Cs.eqV (t:=54) (v':=.hd 4 ((a0.Classes_.set (Int.toNat r30) ({ e36 with Must_:=([r33] : List ByteArray) } : I_Class)).map (c_I_Class false)).length 0 ((a0.Classes_.set (Int.toNat r30) ({ e36 with Must_:=([r33] : List ByteArray) } : I_Class)).map (c_I_Class false)).length) rfl (hd_len _ (List.length_set ..))) ?_
     refine T.conv (Cs.eqV (t:=57) (v':=.hd 4 ((a0.Classes_.set (Int.toNat r30) ({ e36 with Must_:=([r33] : List ByteArray) } : I_Class)).map (c_I_Class false)).length 0 ((a0.Classes_.set (Int.toNat r30) ({ e36 with Must_:=([r33] : List ByteArray) } : I_Class)).map (c_I_Class false)).length) rfl (hd_len _ (List.length_set ..))) ?_
     refine T.seq ?_
     refine T.conv (Cs.eqS (σ':=[.box (c_T_spec_l1Cur c0 o34),_,_,_,.arr .clo 4 ((a0.Classes_.set (Int.toNat r30) ({ e36 with Must_:=([r33] : List ByteArray) } : I_Class)).map (c_I_Class false)),_,_,.box (k_impl_DirSchema 3 4 false (⟨a0.Types_,(a0.Classes_.set (Int.toNat r30) ({ e36 with Must_:=([r33] : List ByteArray) } : I_Class))⟩ : I_DirSchema)),_]) rfl) ?_
     refine au 2 ?_
     refine TL.sn rfl rfl (o_storeBx rfl tyS_26 rfl rfl rfl rfl (nb rfl) (sure_hd rfl rfl (sure_hd rfl rfl rfl))) ?_
     refine TL.nil ?_
     refine T.conv (Cs.wkF (M:=9) (.k 4 rfl rfl .nil)) ?_
     refine T.conv (Cs.reloc 5 3 rfl rfl (by decide) rfl rfl rfl (nomS_get rfl)) ?_
     refine T.conv (Cs.wkF (M:=9) (.k 4 rfl rfl .nil)) ?_
     refine T.conv (Cs.eqS (σ':=[_,_,_,.dead,_,.arr .clo 3 (a0.Types_.map (c_I_AttrType false)),_,.box (k_impl_DirSchema 5 4 false (⟨a0.Types_,(a0.Classes_.set (Int.toNat r30) ({ e36 with Must_:=([r33] : List ByteArray) } : I_Class))⟩ : I_DirSchema)),.box (k_impl_DirSchema 5 4 false (⟨a0.Types_,(a0.Classes_.set (Int.toNat r30) ({ e36 with Must_:=([r33] : List ByteArray) } : I_Class))⟩ : I_DirSchema))]) rfl) ?_
     refine T.conv (Cs.reloc 6 4 rfl rfl (by decide) rfl rfl rfl (nomS_get rfl)) ?_
     refine T.conv (Cs.wkF (M:=9) (.k 4 rfl rfl .nil)) ?_
     refine T.conv (Cs.eqS (σ':=[_,_,_,_,.dead,_,.arr .clo 4 ((a0.Classes_.set (Int.toNat r30) ({ e36 with Must_:=([r33] : List ByteArray) } : I_Class)).map (c_I_Class false)),.box (k_impl_DirSchema 5 6 false (⟨a0.Types_,(a0.Classes_.set (Int.toNat r30) ({ e36 with Must_:=([r33] : List ByteArray) } : I_Class))⟩ : I_DirSchema)),.box (k_impl_DirSchema 5 6 false (⟨a0.Types_,(a0.Classes_.set (Int.toNat r30) ({ e36 with Must_:=([r33] : List ByteArray) } : I_Class))⟩ : I_DirSchema))]) rfl) ?_
     refine T.ret ?_
     cases some_i H
     exact ⟨trivial,_,(.cell _ _ _ _ _ _ _ _ _ _ rfl rfl tyS_26 (nb rfl) rfl .nil),⟨rfl,_,rfl⟩⟩
    ·refine au 5 ?_
     refine T.cH H ?_ ?_<;>intro H h
     ·refine au 3 ?_
      obtain ⟨e38,h39,H⟩:=bind_s H
      refine TL.st rfl rfl rfl (o_ixh (f:=c_I_AttrType false) rfl rfl tyS_106 rfl rfl rfl rfl h39 rfl) ?_
      refine TL.st rfl rfl rfl (o_fieldAddrEl rfl rfl rfl tyS_4 (by decide) rfl rfl rfl) ?_
      refine TL.sn rfl rfl (o_stEl (f:=c_I_AttrType false) (xs:=a0.Types_) (k:=0) (a:=e38) (⟨e38.Name_,e38.Syntax_,true⟩ : I_AttrType) rfl tyS_4 rfl rfl rfl rfl (by decide) h39 rfl rfl rfl (fun _=>rfl) rfl) ?_
      refine TL.conv (Cs.eqS (σ:=[.box (c_T_spec_l1Cur c0 o2),.dead,.dead,.arr .clo 3 ((a0.Types_.set (Int.toNat 0) (⟨e38.Name_,e38.Syntax_,true⟩ : I_AttrType)).map (c_I_AttrType false)),.arr .clo 4 (a0.Classes_.map (c_I_Class false)),.dead,.dead,.box [.hd 3 (a0.Types_.map (c_I_AttrType false)).length 0 (a0.Types_.map (c_I_AttrType false)).length,.hd 4 (a0.Classes_.map (c_I_Class false)).length 0 (a0.Classes_.map (c_I_Class false)).length],.box [.nilS,.nilS]]) (σ':=[.box (c_T_spec_l1Cur c0 o2),.dead,.dead,.arr .clo 3 ((a0.Types_.set (Int.toNat 0) (⟨e38.Name_,e38.Syntax_,true⟩ : I_AttrType)).map (c_I_AttrType false)),.arr .clo 4 (a0.Classes_.map (c_I_Class false)),.dead,.dead,.box [.hd 3 ((a0.Types_.set (Int.toNat 0) (⟨e38.Name_,e38.Syntax_,true⟩ : I_AttrType)).map (c_I_AttrType false)).length 0 ((a0.Types_.set (Int.toNat 0) (⟨e38.Name_,e38.Syntax_,true⟩ : I_AttrType)).map (c_I_AttrType false)).length,.hd 4 (a0.Classes_.map (c_I_Class false)).length 0 (a0.Classes_.map (c_I_Class false)).length],.box [.nilS,.nilS]]) (by simp only [List.length_map,List.length_set])) ?_
      refine TL.conv (Cs.eqV (t:=69) (v':=.hd 3 ((a0.Types_.set (Int.toNat 0) (⟨e38.Name_,e38.Syntax_,true⟩ : I_AttrType)).map (c_I_AttrType false)).length 0 ((a0.Types_.set (Int.toNat 0) (⟨e38.Name_,e38.Syntax_,true⟩ : I_AttrType)).map (c_I_AttrType false)).length) rfl (hd_len _ (List.length_set ..))) ?_
      refine TL.conv (Cs.eqV (t:=70) (v':=.el 3 ((a0.Types_.set (Int.toNat 0) (⟨e38.Name_,e38.Syntax_,true⟩ : I_AttrType)).map (c_I_AttrType false)).length (Int.toNat 0) 0) rfl (el_len _ _ _ (List.length_set ..))) ?_
      refine TL.conv (Cs.eqV (t:=71) (v':=.el 3 ((a0.Types_.set (Int.toNat 0) (⟨e38.Name_,e38.Syntax_,true⟩ : I_AttrType)).map (c_I_AttrType false)).length (Int.toNat 0) 2) rfl (el_len _ _ _ (List.length_set ..))) ?_
      refine au 4 ?_
      refine TL.sn rfl rfl (o_storeBx rfl tyS_26 rfl rfl rfl rfl (nb rfl) (sure_hd rfl rfl (sure_hd rfl rfl rfl))) ?_
      refine TL.nil ?_
      refine T.conv (Cs.wkF (M:=9) (.k 4 rfl rfl .nil)) ?_
      refine T.conv (Cs.reloc 5 3 rfl rfl (by decide) rfl rfl rfl (nomS_get rfl)) ?_
      refine T.conv (Cs.wkF (M:=9) (.k 4 rfl rfl .nil)) ?_
      refine T.conv (Cs.eqS (σ':=[_,_,_,.dead,_,.arr .clo 3 ((a0.Types_.set (Int.toNat 0) (⟨e38.Name_,e38.Syntax_,true⟩ : I_AttrType)).map (c_I_AttrType false)),_,.box (k_impl_DirSchema 5 4 false (⟨(a0.Types_.set (Int.toNat 0) (⟨e38.Name_,e38.Syntax_,true⟩ : I_AttrType)),a0.Classes_⟩ : I_DirSchema)),.box (k_impl_DirSchema 5 4 false (⟨(a0.Types_.set (Int.toNat 0) (⟨e38.Name_,e38.Syntax_,true⟩ : I_AttrType)),a0.Classes_⟩ : I_DirSchema))]) rfl) ?_
      refine T.conv (Cs.reloc 6 4 rfl rfl (by decide) rfl rfl rfl (nomS_get rfl)) ?_
      refine T.conv (Cs.wkF (M:=9) (.k 4 rfl rfl .nil)) ?_
      refine T.conv (Cs.eqS (σ':=[_,_,_,_,.dead,_,.arr .clo 4 (a0.Classes_.map (c_I_Class false)),.box (k_impl_DirSchema 5 6 false (⟨(a0.Types_.set (Int.toNat 0) (⟨e38.Name_,e38.Syntax_,true⟩ : I_AttrType)),a0.Classes_⟩ : I_DirSchema)),.box (k_impl_DirSchema 5 6 false (⟨(a0.Types_.set (Int.toNat 0) (⟨e38.Name_,e38.Syntax_,true⟩ : I_AttrType)),a0.Classes_⟩ : I_DirSchema))]) rfl) ?_
      refine T.ret ?_
      cases some_i H
      exact ⟨trivial,_,(.cell _ _ _ _ _ _ _ _ _ _ rfl rfl tyS_26 (nb rfl) rfl .nil),⟨rfl,_,rfl⟩⟩
     ·refine au 4 ?_
      refine TL.sn rfl rfl (o_storeBx rfl tyS_26 rfl rfl rfl rfl (nb rfl) (sure_hd rfl rfl (sure_hd rfl rfl rfl))) ?_
      refine TL.nil ?_
      refine T.conv (Cs.wkF (M:=9) (.k 4 rfl rfl .nil)) ?_
      refine T.conv (Cs.reloc 5 3 rfl rfl (by decide) rfl rfl rfl (nomS_get rfl)) ?_
      refine T.conv (Cs.wkF (M:=9) (.k 4 rfl rfl .nil)) ?_
      refine T.conv (Cs.eqS (σ':=[_,_,_,.dead,_,.arr .clo 3 (a0.Types_.map (c_I_AttrType false)),_,.box (k_impl_DirSchema 5 4 false a0),.box (k_impl_DirSchema 5 4 false a0)]) rfl) ?_
      refine T.conv (Cs.reloc 6 4 rfl rfl (by decide) rfl rfl rfl (nomS_get rfl)) ?_
      refine T.conv (Cs.wkF (M:=9) (.k 4 rfl rfl .nil)) ?_
      refine T.conv (Cs.eqS (σ':=[_,_,_,_,.dead,_,.arr .clo 4 (a0.Classes_.map (c_I_Class false)),.box (k_impl_DirSchema 5 6 false a0),.box (k_impl_DirSchema 5 6 false a0)]) rfl) ?_
      refine T.ret ?_
      cases some_i H
      exact ⟨trivial,_,(.cell _ _ _ _ _ _ _ _ _ _ rfl rfl tyS_26 (nb rfl) rfl .nil),⟨rfl,_,rfl⟩⟩
theorem en_24 : En Tryz.prog 24:=.of Tryz.func24 rfl rfl
theorem tyS_96 : TyS Tryz.prog 96 true 2:=⟨rfl,rfl⟩
theorem tyE_96 : TyE Tryz.prog 96 2:=⟨_,_,rfl,rfl,rfl,rfl,by decide,by decide⟩
noncomputable def spec_l1Cur_dirName_j2 (b4 : T_spec_l1Cur) (l5 : List I_Part) : Option ((List I_Part) × T_spec_l1Cur) :=
  (app l5 ([(⟨(ByteArray.mk #[111]),(ByteArray.mk #[111,114,103])⟩ : I_Part)] : List I_Part)).bind fun l6=>some (l6,b4)
noncomputable def spec_l1Cur_dirName_j1 (b2 : T_spec_l1Cur) (l3 : List I_Part) : Option ((List I_Part) × T_spec_l1Cur) :=
  (spec_l1Cur_one 3 b2).bind fun q=>(match q with | (r8,o9)=>cond (!r8) ((spec_l1Cur_of ([(ByteArray.mk #[108,97,98]),(ByteArray.mk #[115,97,108,101,115])] : List ByteArray) o9).bind fun q=>(match q with | (r11,o12)=>(app l3 ([(⟨(ByteArray.mk #[111,117]),r11⟩ : I_Part)] : List I_Part)).bind fun l14=>spec_l1Cur_dirName_j2 o12 l14)) (spec_l1Cur_dirName_j2 o9 l3))
noncomputable def spec_l1Cur_dirName (s0 : T_spec_l1Cur) : Option ((List I_Part) × T_spec_l1Cur) :=
  (spec_l1Cur_one 4 s0).bind fun q=>(match q with | (r16,o17)=>cond (!r16) ((spec_l1Cur_of ([(ByteArray.mk #[97,110,110]),(ByteArray.mk #[98,111,98]),(ByteArray.mk #[67,121]),(ByteArray.mk #[100,44,101]),(ByteArray.mk #[92,102])] : List ByteArray) o17).bind fun q=>(match q with | (r19,o20)=>(app ([] : List I_Part) ([(⟨(ByteArray.mk #[99,110]),r19⟩ : I_Part)] : List I_Part)).bind fun l22=>spec_l1Cur_dirName_j1 o20 l22)) (spec_l1Cur_dirName_j1 o17 ([] : List I_Part)))
theorem spec_l1Cur_dirName_p (c0 : Bool) {s0 : T_spec_l1Cur} {R0 : (List I_Part)} {U0 : T_spec_l1Cur} (H : spec_l1Cur_dirName s0 = some (R0,U0)) : St Tryz.prog 40 [.bx 0 0] [.box (c_T_spec_l1Cur c0 s0)] (.im false (R0.map (c_I_Part false))) [.box (c_T_spec_l1Cur c0 U0)]:=by
 refine CallT.fin (CallT.of_TN (n:=28) Tryz.func40 rfl rfl rfl rfl ?_) rfl rfl ⟨(bels_iff.1 rfl),trivial⟩
 refine au 8 ?_
 refine T.conv (Cs.own (t:=3) 2 rfl (by decide)) ?_
 refine T.cut (fun fr' σ'=>∃ (b2 : T_spec_l1Cur) (l3 : List I_Part),fr' = [(0,.bx 0 0),(3,.hd 1 (l3.map (c_I_Part false)).length 0 (l3.map (c_I_Part false)).length)] ∧ σ' = [.box (c_T_spec_l1Cur c0 b2),.arr .clo 2 (l3.map (c_I_Part false))] ∧ spec_l1Cur_dirName_j1 b2 l3 = some (R0,U0)) (T.pk ?_) ?_
 ·skip
  refine au 3 ?_
  obtain ⟨⟨r16,o17⟩,h18,H⟩:=bind_s H
  refine TL.st rfl rfl rfl (o_callS [0] rfl en_41 rfl rfl (spec_l1Cur_one_p c0 h18) rfl (by decide) (.cons _ _ _ _ rfl .nil) rfl rfl rfl) ?_
  refine au 2 ?_
  refine T.cH H ?_ ?_<;>intro H h
  ·refine au 3 ?_
   refine TL.st rfl rfl rfl (o_sliceIm (rows:=([(ByteArray.mk #[97,110,110]),(ByteArray.mk #[98,111,98]),(ByteArray.mk #[67,121]),(ByteArray.mk #[100,44,101]),(ByteArray.mk #[92,102])] : List ByteArray).map (c_str)) rfl rfl tyS_9 ⟨_,rfl,rfl⟩ (by decide) rfl rfl rfl rfl rfl rfl) ?_
   obtain ⟨⟨r19,o20⟩,h21,H⟩:=bind_s H
   refine TL.st rfl rfl rfl (o_callS [0] rfl en_43 rfl rfl (spec_l1Cur_of_p false c0 h21) rfl (by decide) (.cons _ _ _ _ rfl .nil) rfl rfl rfl) ?_
   refine TL.st rfl rfl rfl (o_build rfl ⟨_,fun _=>rfl,rfl⟩ rfl rfl rfl) ?_
   refine TL.st rfl rfl rfl (o_sliceIm (rows:=([(⟨(ByteArray.mk #[99,110]),r19⟩ : I_Part)] : List I_Part).map (c_I_Part false)) rfl rfl tyS_96 ⟨_,rfl,rfl⟩ (by decide) rfl rfl rfl rfl rfl rfl) ?_
   obtain ⟨l22,h23,H⟩:=bind_s H
   refine TL.st rfl rfl rfl (o_ap (f:=c_I_Part false) (xs:=([] : List I_Part)) (ys:=([(⟨(ByteArray.mk #[99,110]),r19⟩ : I_Part)] : List I_Part)) rfl rfl tyE_96 rfl rfl rfl rfl (by decide) rfl (fun _=>rfl) h23) ?_
   refine au 2 ?_
   exact Pk.of (thn_normal ⟨o20,l22,rfl,rfl,H⟩)
  ·refine T.skip ?_
   exact Pk.of (thn_normal ⟨o17,([] : List I_Part),rfl,rfl,H⟩)
 ·rintro _ _ ⟨b2,l3,rfl,rfl,H⟩
  refine T.cut (fun fr' σ'=>∃ (b4 : T_spec_l1Cur) (l5 : List I_Part),fr' = [(3,.hd 1 (l5.map (c_I_Part false)).length 0 (l5.map (c_I_Part false)).length)] ∧ σ' = [.box (c_T_spec_l1Cur c0 b4),.arr .clo 2 (l5.map (c_I_Part false))] ∧ spec_l1Cur_dirName_j2 b4 l5 = some (R0,U0)) (T.pk ?_) ?_
  ·skip
   refine au 3 ?_
   obtain ⟨⟨r8,o9⟩,h10,H⟩:=bind_s H
   refine TL.st rfl rfl rfl (o_callS [0] rfl en_41 rfl rfl (spec_l1Cur_one_p c0 h10) rfl (by decide) (.cons _ _ _ _ rfl .nil) rfl rfl rfl) ?_
   refine au 2 ?_
   refine T.cH H ?_ ?_<;>intro H h
   ·refine au 3 ?_
    refine TL.st rfl rfl rfl (o_sliceIm (rows:=([(ByteArray.mk #[108,97,98]),(ByteArray.mk #[115,97,108,101,115])] : List ByteArray).map (c_str)) rfl rfl tyS_9 ⟨_,rfl,rfl⟩ (by decide) rfl rfl rfl rfl rfl rfl) ?_
    obtain ⟨⟨r11,o12⟩,h13,H⟩:=bind_s H
    refine TL.st rfl rfl rfl (o_callS [0] rfl en_43 rfl rfl (spec_l1Cur_of_p false c0 h13) rfl (by decide) (.cons _ _ _ _ rfl .nil) rfl rfl rfl) ?_
    refine TL.st rfl rfl rfl (o_build rfl ⟨_,fun _=>rfl,rfl⟩ rfl rfl rfl) ?_
    refine TL.st rfl rfl rfl (o_sliceIm (rows:=([(⟨(ByteArray.mk #[111,117]),r11⟩ : I_Part)] : List I_Part).map (c_I_Part false)) rfl rfl tyS_96 ⟨_,rfl,rfl⟩ (by decide) rfl rfl rfl rfl rfl rfl) ?_
    obtain ⟨l14,h15,H⟩:=bind_s H
    refine TL.st rfl rfl rfl (o_ap (f:=c_I_Part false) (xs:=l3) (ys:=([(⟨(ByteArray.mk #[111,117]),r11⟩ : I_Part)] : List I_Part)) rfl rfl tyE_96 rfl rfl rfl rfl (by decide) rfl (fun _=>rfl) h15) ?_
    refine au 2 ?_
    exact Pk.of (thn_normal ⟨o12,l14,rfl,rfl,H⟩)
   ·refine T.skip ?_
    exact Pk.of (thn_normal ⟨o9,l3,rfl,rfl,H⟩)
  ·rintro _ _ ⟨b4,l5,rfl,rfl,H⟩
   refine au 4 ?_
   refine TL.st rfl rfl rfl (o_sliceIm (rows:=([(⟨(ByteArray.mk #[111]),(ByteArray.mk #[111,114,103])⟩ : I_Part)] : List I_Part).map (c_I_Part false)) rfl rfl tyS_96 ⟨_,rfl,rfl⟩ (by decide) rfl rfl rfl rfl rfl rfl) ?_
   obtain ⟨l6,h7,H⟩:=bind_s H
   refine TL.st rfl rfl rfl (o_ap (f:=c_I_Part false) (xs:=l5) (ys:=([(⟨(ByteArray.mk #[111]),(ByteArray.mk #[111,114,103])⟩ : I_Part)] : List I_Part)) rfl rfl tyE_96 rfl rfl rfl rfl (by decide) rfl (fun _=>rfl) h7) ?_
   refine au 2 ?_
   refine T.conv (Cs.frzOwn (t:=2) rfl rfl rfl) ?_
   refine T.ret ?_
   cases some_i H
   exact ⟨trivial,_,(.tmp _ _ _ _ rfl .nil),⟨rfl,_,rfl⟩⟩
theorem en_40 : En Tryz.prog 40:=.of Tryz.func40 rfl rfl
theorem tyS_30 : TyS Tryz.prog 30 true 2:=⟨rfl,rfl⟩
noncomputable def spec_l1Cur_attrText_j1 (s0 : T_spec_l1Cur) (v7 : Bool) : Option (ByteArray × T_spec_l1Cur) :=
  cond v7 ((spec_l1Cur_of ([(ByteArray.mk #[99,110,61,97,110,110,44,111,61,111,114,103]),(ByteArray.mk #[99,110,61,98,111,98,44,111,117,61,108,97,98,44,111,61,111,114,103]),e0,(ByteArray.mk #[120]),(ByteArray.mk #[99,110,61,67,121,44,111,61,111,114,103])] : List ByteArray) s0).bind fun q=>(match q with | (r8,o9)=>some (r8,o9))) ((spec_l1Cur_of ([(ByteArray.mk #[97,110,110]),(ByteArray.mk #[65,110,110]),(ByteArray.mk #[98,111,98]),(ByteArray.mk #[97,42,98]),(ByteArray.mk #[40,120,41]),(ByteArray.mk #[108,97,98]),(ByteArray.mk #[126,116]),(ByteArray.mk #[100,44,101])] : List ByteArray) s0).bind fun q=>(match q with | (r11,o12)=>some (r11,o12)))
noncomputable def spec_l1Cur_attrText (a0 : ByteArray) (s0 : T_spec_l1Cur) : Option (ByteArray × T_spec_l1Cur) :=
  cond (a0.toList == (ByteArray.mk #[99,108,97,115,115]).toList) ((spec_l1Cur_of ([(ByteArray.mk #[80,101,114,115,111,110]),(ByteArray.mk #[83,116,97,102,102]),(ByteArray.mk #[71,114,111,117,112]),(ByteArray.mk #[84,111,112]),(ByteArray.mk #[80,101,114,115,111,110]),(ByteArray.mk #[82,111,98,111,116])] : List ByteArray) s0).bind fun q=>(match q with | (r1,o2)=>some (r1,o2))) (cond (a0.toList == (ByteArray.mk #[97,103,101]).toList) ((spec_l1Cur_of ([(ByteArray.mk #[55]),(ByteArray.mk #[51,48]),(ByteArray.mk #[45,49]),(ByteArray.mk #[48,55]),(ByteArray.mk #[111,108,100])] : List ByteArray) s0).bind fun q=>(match q with | (r4,o5)=>some (r4,o5))) (cond (a0.toList == (ByteArray.mk #[98,111,115,115]).toList) (spec_l1Cur_attrText_j1 s0 (a0.toList == (ByteArray.mk #[98,111,115,115]).toList)) (spec_l1Cur_attrText_j1 s0 (a0.toList == (ByteArray.mk #[109,101,109,98,101,114]).toList))))
theorem spec_l1Cur_attrText_p (c0 : Bool) {a0 : ByteArray} {s0 : T_spec_l1Cur} {R0 : ByteArray} {U0 : T_spec_l1Cur} (H : spec_l1Cur_attrText a0 s0 = some (R0,U0)) : St Tryz.prog 67 [.bx 0 0,.str a0] [.box (c_T_spec_l1Cur c0 s0)] (.str R0) [.box (c_T_spec_l1Cur c0 U0)]:=by
 refine CallT.fin (CallT.of_TN (n:=25) Tryz.func67 rfl rfl rfl rfl ?_) rfl rfl ⟨(bels_iff.1 rfl),trivial⟩
 refine au 15 ?_
 refine T.cH H ?_ ?_<;>intro H h
 ·refine au 3 ?_
  refine TL.st rfl rfl rfl (o_sliceIm (rows:=([(ByteArray.mk #[80,101,114,115,111,110]),(ByteArray.mk #[83,116,97,102,102]),(ByteArray.mk #[71,114,111,117,112]),(ByteArray.mk #[84,111,112]),(ByteArray.mk #[80,101,114,115,111,110]),(ByteArray.mk #[82,111,98,111,116])] : List ByteArray).map (c_str)) rfl rfl tyS_9 ⟨_,rfl,rfl⟩ (by decide) rfl rfl rfl rfl rfl rfl) ?_
  obtain ⟨⟨r1,o2⟩,h3,H⟩:=bind_s H
  refine TL.st rfl rfl rfl (o_callS [0] rfl en_43 rfl rfl (spec_l1Cur_of_p false c0 h3) rfl (by decide) (.cons _ _ _ _ rfl .nil) rfl rfl rfl) ?_
  refine au 3 ?_
  refine inB_ret (thn_ret ?_)
  cases some_i H
  exact ⟨trivial,_,(.tmp _ _ _ _ rfl .nil),⟨rfl,_,rfl⟩⟩
 ·refine au 5 ?_
  refine T.cH H ?_ ?_<;>intro H h
  ·refine au 3 ?_
   refine TL.st rfl rfl rfl (o_sliceIm (rows:=([(ByteArray.mk #[55]),(ByteArray.mk #[51,48]),(ByteArray.mk #[45,49]),(ByteArray.mk #[48,55]),(ByteArray.mk #[111,108,100])] : List ByteArray).map (c_str)) rfl rfl tyS_9 ⟨_,rfl,rfl⟩ (by decide) rfl rfl rfl rfl rfl rfl) ?_
   obtain ⟨⟨r4,o5⟩,h6,H⟩:=bind_s H
   refine TL.st rfl rfl rfl (o_callS [0] rfl en_43 rfl rfl (spec_l1Cur_of_p false c0 h6) rfl (by decide) (.cons _ _ _ _ rfl .nil) rfl rfl rfl) ?_
   refine au 3 ?_
   refine inB_ret (thn_ret ?_)
   cases some_i H
   exact ⟨trivial,_,(.tmp _ _ _ _ rfl .nil),⟨rfl,_,rfl⟩⟩
  ·refine T.cut (fun fr' σ'=>∃ (v7 : Bool),fr' = [(0,.bx 0 0),(16,.bool v7)] ∧ σ' = [.box (c_T_spec_l1Cur c0 s0)] ∧ spec_l1Cur_attrText_j1 s0 v7 = some (R0,U0)) (T.pk ?_) ?_
   ·skip
    refine au 5 ?_
    refine T.cH H ?_ ?_<;>intro H h
    ·refine T.skip ?_
     exact Pk.of (thn_normal ⟨(a0.toList == (ByteArray.mk #[98,111,115,115]).toList),rfl,rfl,H⟩)
    ·refine au 4 ?_
     exact Pk.of (thn_normal ⟨(a0.toList == (ByteArray.mk #[109,101,109,98,101,114]).toList),rfl,rfl,H⟩)
   ·rintro _ _ ⟨v7,rfl,rfl,H⟩
    refine T.cH H ?_ ?_<;>intro H h
    ·refine au 3 ?_
     refine TL.st rfl rfl rfl (o_sliceIm (rows:=([(ByteArray.mk #[99,110,61,97,110,110,44,111,61,111,114,103]),(ByteArray.mk #[99,110,61,98,111,98,44,111,117,61,108,97,98,44,111,61,111,114,103]),e0,(ByteArray.mk #[120]),(ByteArray.mk #[99,110,61,67,121,44,111,61,111,114,103])] : List ByteArray).map (c_str)) rfl rfl tyS_9 ⟨_,rfl,rfl⟩ (by decide) rfl rfl rfl rfl rfl rfl) ?_
     obtain ⟨⟨r8,o9⟩,h10,H⟩:=bind_s H
     refine TL.st rfl rfl rfl (o_callS [0] rfl en_43 rfl rfl (spec_l1Cur_of_p false c0 h10) rfl (by decide) (.cons _ _ _ _ rfl .nil) rfl rfl rfl) ?_
     refine au 3 ?_
     refine inB_ret (thn_ret ?_)
     cases some_i H
     exact ⟨trivial,_,(.tmp _ _ _ _ rfl .nil),⟨rfl,_,rfl⟩⟩
    ·refine au 4 ?_
     refine TL.st rfl rfl rfl (o_sliceIm (rows:=([(ByteArray.mk #[97,110,110]),(ByteArray.mk #[65,110,110]),(ByteArray.mk #[98,111,98]),(ByteArray.mk #[97,42,98]),(ByteArray.mk #[40,120,41]),(ByteArray.mk #[108,97,98]),(ByteArray.mk #[126,116]),(ByteArray.mk #[100,44,101])] : List ByteArray).map (c_str)) rfl rfl tyS_9 ⟨_,rfl,rfl⟩ (by decide) rfl rfl rfl rfl rfl rfl) ?_
     obtain ⟨⟨r11,o12⟩,h13,H⟩:=bind_s H
     refine TL.st rfl rfl rfl (o_callS [0] rfl en_43 rfl rfl (spec_l1Cur_of_p false c0 h13) rfl (by decide) (.cons _ _ _ _ rfl .nil) rfl rfl rfl) ?_
     refine au 3 ?_
     cases some_i H
     exact ⟨trivial,_,(.tmp _ _ _ _ rfl .nil),⟨rfl,_,rfl⟩⟩
theorem en_67 : En Tryz.prog 67:=.of Tryz.func67 rfl rfl
noncomputable def spec_l1CmpNum (a0 : Int) (a1 : Int) : Option Int :=
  cond (decide (a0 < a1)) (some (-1)) (cond (decide (a0 > a1)) (some 1) (some 0))
theorem spec_l1CmpNum_p  {a0 : Int} {a1 : Int} {R0 : Int} (H : spec_l1CmpNum a0 a1 = some R0) : Pure Tryz.prog 106 [.int .i64 a0,.int .i64 a1] (.int .i64 R0):=by
 refine CallT.of_TN (n:=11) Tryz.func106 rfl rfl rfl rfl ?_
 refine au 11 ?_
 refine T.cH H ?_ ?_<;>intro H h
 ·refine au 5 ?_
  refine thn_ret ?_
  cases some_i H
  exact ⟨trivial,_,(.tmp _ _ _ _ rfl .nil),(.cl _ rfl)⟩
 ·refine au 8 ?_
  refine T.cH H ?_ ?_<;>intro H h
  ·refine au 5 ?_
   refine thn_ret ?_
   cases some_i H
   exact ⟨trivial,_,(.tmp _ _ _ _ rfl .nil),(.cl _ rfl)⟩
  ·refine au 6 ?_
   cases some_i H
   exact ⟨trivial,_,(.tmp _ _ _ _ rfl .nil),(.cl _ rfl)⟩
theorem en_106 : En Tryz.prog 106:=.of Tryz.func106 rfl rfl
noncomputable def spec_l1CmpText_l1 (a0 : ByteArray) (a1 : ByteArray) : Int → Option (Int ⊕ (Unit ⊕ Int)):=fun s=>match s with
  | v1=>cond (decide (v1 < (a0.size : Int)) && decide (v1 < (a1.size : Int))) ((idxS a0 v1).bind fun b6=>(idxS a1 v1).bind fun b8=>cond (b6 != b8) ((idxS a0 v1).bind fun b10=>(idxS a1 v1).bind fun b12=>(spec_l1CmpNum (IntKind.i64.wrap b10) (IntKind.i64.wrap b12)).bind fun r14=>some (.inr (.inr r14))) (some (.inl (IntKind.i64.wrap (v1 + 1))))) (some (.inr (.inl ())))
noncomputable def spec_l1CmpText (a0 : ByteArray) (a1 : ByteArray) : Option Int :=
  (loopO (spec_l1CmpText_l1 a0 a1) 0).bind fun q16=>(match q16 with | .inl _=>(spec_l1CmpNum (a0.size : Int) (a1.size : Int)).bind fun r3=>some r3 | .inr q2=>some q2)
theorem spec_l1CmpText_p  {a0 : ByteArray} {a1 : ByteArray} {R0 : Int} (H : spec_l1CmpText a0 a1 = some R0) : Pure Tryz.prog 61 [.str a0,.str a1] (.int .i64 R0):=by
 refine CallT.of_TN (n:=39) Tryz.func61 rfl rfl rfl rfl ?_
 refine au 10 ?_
 obtain ⟨q16,h17,H⟩:=bind_s H
 refine T.lq (fun s=>match s with | v1=>[(0,.str a0),(1,.str a1),(5,.int .i64 v1)]) (fun s=>match s with | v1=>[]) (fun q ex fr σ=>match q with | .inl _=>ex = .exit 0 ∧ fr = [(0,.str a0),(1,.str a1)] ∧ σ = [] | .inr q2=>ex = .ret ∧ RetN Tryz.prog [.tmp 4] (fun v τ=>Told τ v (.int .i64 q2)) .ret fr σ) h17 ?_ ?_
 ·rintro v1 y5 H
  refine au 10 ?_
  refine TL.gcq rfl rfl rfl (.bool _) rfl rfl (fun h=>o_lenS rfl rfl (gv h rfl)) ?_
  refine TL.gcq rfl rfl rfl (.bool _) rfl rfl (fun h=>o_ari rfl (gv h rfl) (gv h rfl) rfl) ?_
  refine au 2 ?_
  refine T.cH H ?_ ?_<;>intro H h
  ·refine au 4 ?_
   refine T.drawn rfl ?_
   refine ad 2 ?_
   obtain ⟨b6,h7,H⟩:=bind_s H
   refine TD.qs rfl rfl (fun _=>o_ixs rfl rfl rfl rfl h7) ?_
   refine ad 2 ?_
   obtain ⟨b8,h9,H⟩:=bind_s H
   refine TD.qs rfl rfl (fun _=>o_ixs rfl rfl rfl rfl h9) ?_
   refine TD.qs rfl rfl (fun _=>o_ari rfl rfl rfl rfl) ?_
   refine TD.nil ⟨rfl,?_⟩
   refine thn_normal ?_
   refine T.cH H ?_ ?_<;>intro H h
   ·refine T.seq ?_
    refine T.drawn rfl ?_
    refine ad 2 ?_
    obtain ⟨b10,h11,H⟩:=bind_s H
    refine TD.qs rfl rfl (fun _=>o_ixs rfl rfl rfl rfl h11) ?_
    refine TD.qs rfl rfl (fun _=>o_conv rfl rfl ⟨_,rfl⟩ rfl) ?_
    refine ad 2 ?_
    obtain ⟨b12,h13,H⟩:=bind_s H
    refine TD.qs rfl rfl (fun _=>o_ixs rfl rfl rfl rfl h13) ?_
    refine TD.qs rfl rfl (fun _=>o_conv rfl rfl ⟨_,rfl⟩ rfl) ?_
    obtain ⟨r14,h15,H⟩:=bind_s H
    refine TD.qs rfl rfl (fun _=>o_callP rfl en_106 rfl rfl (.cons _ _ _ _ (.cl _ rfl) (.cons _ _ _ _ (.cl _ rfl) .nil)) (spec_l1CmpNum_p  h15)) ?_
    refine TD.qs rfl rfl (fun _=>o_assign rfl rfl) ?_
    refine TD.nil ⟨rfl,?_⟩
    refine T.ret ?_
    refine inB_ret (thn_ret ?_)
    exact Pk.id (thn_ret ⟨.inr r14,(some_i H).symm,rfl,⟨trivial,_,(.tmp _ _ _ _ rfl .nil),(.cl _ rfl)⟩⟩)
   ·refine au 6 ?_
    exact Pk.of (thn_normal ⟨(IntKind.i64.wrap (v1 + 1)),(some_i H).symm,rfl,rfl⟩)
  ·refine T.exit ?_
   refine thn_exit ?_
   exact Pk.of (thn_exit ⟨.inl (),(some_i H).symm,rfl,rfl,rfl⟩)
 ·rcases q16 with ⟨⟩ | q2
  ·rintro _ _ _ ⟨rfl,rfl,rfl⟩
   refine inB_here ?_
   refine au 6 ?_
   obtain ⟨r3,h4,H⟩:=bind_s H
   refine TL.st rfl rfl rfl (o_callP rfl en_106 rfl rfl (.cons _ _ _ _ (.cl _ rfl) (.cons _ _ _ _ (.cl _ rfl) .nil)) (spec_l1CmpNum_p  h4)) ?_
   refine au 3 ?_
   cases some_i H
   exact ⟨trivial,_,(.tmp _ _ _ _ rfl .nil),(.cl _ rfl)⟩
  ·rintro _ fr1 σ1 ⟨rfl,hr⟩
   refine inB_ret (thn_ret ?_)
   cases some_i H
   exact hr
theorem en_61 : En Tryz.prog 61:=.of Tryz.func61 rfl rfl
theorem tyS_28 : TyS Tryz.prog 28 false 1:=⟨rfl,rfl⟩
theorem tyS_114 : TyS Tryz.prog 114 true 2:=⟨rfl,rfl⟩
theorem tyE_114 : TyE Tryz.prog 114 2:=⟨_,_,rfl,rfl,rfl,rfl,by decide,by decide⟩
def k_impl_Entry (a1 : Nat) (b : Bool) (x : I_Entry) : List V:=[.im b (x.Name_.map (c_I_Part false)),.hd a1 (x.Attrs_.map (c_I_Attr false)).length 0 (x.Attrs_.map (c_I_Attr false)).length]
theorem tyS_27 : TyS Tryz.prog 27 false 1:=⟨rfl,rfl⟩
noncomputable def spec_l1Cur_entry_l2 (b8 : I_Entry) : (I_Entry × Int) → Option ((I_Entry × Int) ⊕ I_Entry):=fun s=>match s with
  | (b14,v15)=>cond (decide (v15 < (b8.Attrs_.length : Int))) ((idx b14.Attrs_ v15).bind fun e18=>cond (e18.Name_.toList == (ByteArray.mk #[99,110]).toList) ((idx b14.Name_ 0).bind fun e20=>(idx b14.Attrs_ v15).bind fun e22=>some (.inl ((⟨b14.Name_,(b14.Attrs_.set (Int.toNat v15) (⟨e22.Name_,([e20.Text_] : List ByteArray)⟩ : I_Attr))⟩ : I_Entry),(IntKind.i64.wrap (v15 + 1))))) (some (.inl (b14,(IntKind.i64.wrap (v15 + 1)))))) (some (.inr b14))
noncomputable def spec_l1Cur_entry_j1 (v40 : Int) (b46 : T_spec_l1Cur) (l47 : List ByteArray) : Option ((T_spec_l1Cur × List ByteArray × Int) ⊕ (T_spec_l1Cur × List ByteArray)) :=
  some (.inl (b46,l47,(IntKind.i64.wrap (v40 - 1))))
noncomputable def spec_l1Cur_entry_j2 (l39 : List ByteArray) (v40 : Int) (o49 : T_spec_l1Cur) (v51 : ByteArray) : Option ((T_spec_l1Cur × List ByteArray × Int) ⊕ (T_spec_l1Cur × List ByteArray)) :=
  (gdO (!((l39.length : Int) == 0)) (idx l39 (IntKind.i64.wrap ((l39.length : Int) - 1)))).bind fun e52=>(gdO (!((l39.length : Int) == 0)) (spec_l1CmpText e52 v51)).bind fun r54=>cond (((l39.length : Int) == 0) || decide (r54 < 0)) ((app l39 ([v51] : List ByteArray)).bind fun l56=>spec_l1Cur_entry_j1 v40 o49 l56) (spec_l1Cur_entry_j1 v40 o49 l39)
noncomputable def spec_l1Cur_entry_l3 (e27 : ByteArray) : (T_spec_l1Cur × List ByteArray × Int) → Option ((T_spec_l1Cur × List ByteArray × Int) ⊕ (T_spec_l1Cur × List ByteArray)):=fun s=>match s with
  | (b38,l39,v40)=>cond (decide (v40 > 0)) ((spec_l1Cur_attrText e27 b38).bind fun q=>(match q with | (r48,o49)=>cond (r48.toList == e0.toList) (spec_l1Cur_entry_j2 l39 v40 o49 (ByteArray.mk #[99,110,61,98,111,98,44,111,61,111,114,103])) (spec_l1Cur_entry_j2 l39 v40 o49 r48))) (some (.inr (b38,l39)))
noncomputable def spec_l1Cur_entry_l1  : (T_spec_l1Cur × I_Entry × Int) → Option ((T_spec_l1Cur × I_Entry × Int) ⊕ (T_spec_l1Cur × I_Entry)):=fun s=>match s with
  | (b4,b5,v6)=>cond (decide (v6 < (([(ByteArray.mk #[97,103,101]),(ByteArray.mk #[98,111,115,115]),(ByteArray.mk #[99,108,97,115,115]),(ByteArray.mk #[99,110]),(ByteArray.mk #[109,97,105,108]),(ByteArray.mk #[109,101,109,98,101,114]),(ByteArray.mk #[110,105,99,107]),(ByteArray.mk #[111,117]),(ByteArray.mk #[114,101,102])] : List ByteArray).length : Int))) ((idx ([(ByteArray.mk #[97,103,101]),(ByteArray.mk #[98,111,115,115]),(ByteArray.mk #[99,108,97,115,115]),(ByteArray.mk #[99,110]),(ByteArray.mk #[109,97,105,108]),(ByteArray.mk #[109,101,109,98,101,114]),(ByteArray.mk #[110,105,99,107]),(ByteArray.mk #[111,117]),(ByteArray.mk #[114,101,102])] : List ByteArray) v6).bind fun e27=>(cond ((!(e27.toList == (ByteArray.mk #[99,108,97,115,115]).toList)) && (!(e27.toList == (ByteArray.mk #[99,110]).toList))) (spec_l1Cur_one 3 b4) (some (default,b4))).bind fun q=>(match q with | (r29,o30)=>(cond ((!(((!(e27.toList == (ByteArray.mk #[99,108,97,115,115]).toList)) && (!(e27.toList == (ByteArray.mk #[99,110]).toList))) && (!r29))) && (e27.toList == (ByteArray.mk #[114,101,102]).toList)) (spec_l1Cur_one 3 o30) (some (default,o30))).bind fun q=>(match q with | (r32,o33)=>cond ((((!(e27.toList == (ByteArray.mk #[99,108,97,115,115]).toList)) && (!(e27.toList == (ByteArray.mk #[99,110]).toList))) && (!r29)) || ((e27.toList == (ByteArray.mk #[114,101,102]).toList) && (!r32))) (some (.inl (o33,b5,(IntKind.i64.wrap (v6 + 1))))) ((spec_l1Cur_pick 2 o33).bind fun q=>(match q with | (r35,o36)=>(loopO (spec_l1Cur_entry_l3 e27) (o36,([] : List ByteArray),(IntKind.i64.wrap (1 + r35)))).bind fun q58=>(match q58 with | (b41,l42)=>(app b5.Attrs_ ([(⟨e27,l42⟩ : I_Attr)] : List I_Attr)).bind fun l43=>some (.inl (b41,(⟨b5.Name_,l43⟩ : I_Entry),(IntKind.i64.wrap (v6 + 1)))))))))) (some (.inr (b4,b5)))
noncomputable def spec_l1Cur_entry (s0 : T_spec_l1Cur) : Option (I_Entry × T_spec_l1Cur) :=
  (spec_l1Cur_dirName s0).bind fun q=>(match q with | (r1,o2)=>(loopO (spec_l1Cur_entry_l1) (o2,(⟨r1,([] : List I_Attr)⟩ : I_Entry),0)).bind fun q60=>(match q60 with | (b7,b8)=>(spec_l1Cur_one 2 b7).bind fun q=>(match q with | (r9,o10)=>(gdO r9 (idx b8.Name_ 0)).bind fun e12=>cond (r9 && (e12.Attr_.toList == (ByteArray.mk #[99,110]).toList)) ((loopO (spec_l1Cur_entry_l2 b8) (b8,0)).bind fun b16=>(match b16 with | b16=>some (b16,o10))) (some (b8,o10)))))
theorem spec_l1Cur_entry_p (c0 : Bool) {s0 : T_spec_l1Cur} {R0 : I_Entry} {U0 : T_spec_l1Cur} (H : spec_l1Cur_entry s0 = some (R0, U0)) : St Tryz.prog 27 [.bx 0 0] [.box (c_T_spec_l1Cur c0 s0)] (.agg (c_I_Entry false R0)) [.box (c_T_spec_l1Cur c0 U0)] := by
 refine CallT.fin (CallT.of_TN (n:=113) Tryz.func27 rfl rfl rfl rfl ?_) rfl rfl ⟨(bels_iff.1 rfl),trivial⟩
 refine au 7 ?_
 obtain ⟨⟨r1,o2⟩,h3,H⟩:=bind_s H
 refine TL.st rfl rfl rfl (o_callS [0] rfl en_40 rfl rfl (spec_l1Cur_dirName_p c0 h3) rfl (by decide) (.cons _ _ _ _ rfl .nil) rfl rfl rfl) ?_
 refine au 6 ?_
 refine T.conv (Cs.eqS (σ':=[.box (c_T_spec_l1Cur c0 o2),.box [.nilS,.nilS],.box [.im false (r1.map (c_I_Part false)),.nilS]]) rfl) ?_
 refine T.region ?_
 refine TL.st rfl rfl rfl (o_sliceIm (rows:=([(ByteArray.mk #[97,103,101]),(ByteArray.mk #[98,111,115,115]),(ByteArray.mk #[99,108,97,115,115]),(ByteArray.mk #[99,110]),(ByteArray.mk #[109,97,105,108]),(ByteArray.mk #[109,101,109,98,101,114]),(ByteArray.mk #[110,105,99,107]),(ByteArray.mk #[111,117]),(ByteArray.mk #[114,101,102])] : List ByteArray).map (c_str)) rfl rfl tyS_9 ⟨_,rfl,rfl⟩ (by decide) rfl rfl rfl rfl rfl rfl) ?_
 refine TL.st rfl rfl rfl (o_lenL (f:=c_str) rfl rfl rfl) ?_
 refine au 3 ?_
 refine T.conv (Cs.ownCell (p:=2) 1 2 rfl rfl (by decide)) ?_
 obtain ⟨q60,h61,H⟩:=bind_s H
 refine T.lq (fun s=>match s with | (b4,b5,v6)=>[(0,.bx 0 0),(2,.bx 1 0),(3,.bx 2 0),(14,.im false (([(ByteArray.mk #[97,103,101]),(ByteArray.mk #[98,111,115,115]),(ByteArray.mk #[99,108,97,115,115]),(ByteArray.mk #[99,110]),(ByteArray.mk #[109,97,105,108]),(ByteArray.mk #[109,101,109,98,101,114]),(ByteArray.mk #[110,105,99,107]),(ByteArray.mk #[111,117]),(ByteArray.mk #[114,101,102])] : List ByteArray).map (c_str))),(15,.int .i64 (([(ByteArray.mk #[97,103,101]),(ByteArray.mk #[98,111,115,115]),(ByteArray.mk #[99,108,97,115,115]),(ByteArray.mk #[99,110]),(ByteArray.mk #[109,97,105,108]),(ByteArray.mk #[109,101,109,98,101,114]),(ByteArray.mk #[110,105,99,107]),(ByteArray.mk #[111,117]),(ByteArray.mk #[114,101,102])] : List ByteArray).length : Int)),(16,.int .i64 v6)]) (fun s=>match s with | (b4,b5,v6)=>[.box (c_T_spec_l1Cur c0 b4),.box [.nilS,.nilS],.box (k_impl_Entry 3 false b5),.arr .clo 2 (b5.Attrs_.map (c_I_Attr false))]) (fun q ex fr σ=>match q with | (b7,b8)=>ex = .exit 0 ∧ fr = [(0,.bx 0 0),(2,.bx 1 0),(3,.bx 2 0)] ∧ σ = [.box (c_T_spec_l1Cur c0 b7),.box [.nilS,.nilS],.box (k_impl_Entry 3 false b8),.arr .clo 2 (b8.Attrs_.map (c_I_Attr false))]) h61 ?_ ?_
 ·rintro ⟨b4, b5, v6⟩ y26 H
  refine au 5 ?_
  refine T.cH H ?_ ?_<;>intro H h
  ·refine au 5 ?_
   obtain ⟨e27,h28,H⟩:=bind_s H
   refine TL.st rfl rfl rfl (o_ix (f:=c_str) rfl rfl tyS_9 rfl rfl h28 rfl) ?_
   refine au 10 ?_
   refine TL.gcq rfl rfl rfl (.bool _) rfl rfl (fun h=>o_str rfl (gv h rfl) rfl rfl) ?_
   refine au 3 ?_
   obtain ⟨⟨r29,o30⟩,h31,H⟩:=bind_s H
   refine TL.gc rfl rfl rfl (.bool _) rfl rfl (fun h=>o_callS [0] rfl en_41 rfl (evl_2 (gv h rfl) rfl) (spec_l1Cur_one_p c0 (cond_t h h31)) rfl (by decide) (.cons _ _ _ _ rfl .nil) rfl rfl rfl) (fun h=>by cases cond_f h h31; rfl) ?_
   refine au 4 ?_
   refine TL.gcq rfl rfl rfl (.bool _) rfl rfl (fun h=>o_str rfl (gv h rfl) rfl rfl) ?_
   refine TL.gcq rfl rfl rfl (.bool _) rfl rfl (fun h=>o_move rfl (gv h rfl)) ?_
   refine TL.gcq rfl rfl rfl (.gd _ _) rfl rfl (fun h=>o_move rfl rfl) ?_
   obtain ⟨⟨r32,o33⟩,h34,H⟩:=bind_s H
   refine TL.gc rfl rfl rfl (.gd _ _) rfl rfl (fun h=>o_callS [0] rfl en_41 rfl (evl_2 (gv h rfl) rfl) (spec_l1Cur_one_p c0 (cond_t h h34)) rfl (by decide) (.cons _ _ _ _ rfl .nil) rfl rfl rfl) (fun h=>by cases cond_f h h34; rfl) ?_
   refine TL.gcq rfl rfl rfl (.gd _ _) rfl rfl (fun h=>o_not rfl (gv h rfl)) ?_
   refine TL.gcq rfl rfl rfl (.bool _) rfl rfl (fun h=>o_and rfl (gv h rfl) rfl (fun k=>Gd_t (andi h k)) rfl) ?_
   refine au 2 ?_
   refine T.cH H ?_ ?_<;>intro H h
   ·refine T.exit ?_
    refine thn_exit ?_
    refine inB_here ?_
    refine au 4 ?_
    exact Pk.of (thn_normal ⟨(o33,b5,(IntKind.i64.wrap (v6 + 1))),(some_i H).symm,rfl,rfl⟩)
   ·refine au 9 ?_
    obtain ⟨⟨r35,o36⟩,h37,H⟩:=bind_s H
    refine TL.st rfl rfl rfl (o_callS [0] rfl en_42 rfl rfl (spec_l1Cur_pick_p c0 h37) rfl (by decide) (.cons _ _ _ _ rfl .nil) rfl rfl rfl) ?_
    refine au 3 ?_
    refine T.conv (Cs.eqS (σ':=[.box (c_T_spec_l1Cur c0 o36),_,_,_]) rfl) ?_
    refine T.block ?_
    refine T.conv (Cs.own (t:=6) 1 rfl (by decide)) ?_
    obtain ⟨q58,h59,H⟩:=bind_s H
    refine T.lq (fun s=>match s with | (b38,l39,v40)=>[(0,.bx 0 0),(2,.bx 1 0),(3,.bx 2 0),(5,.str e27),(6,.hd 4 (l39.map (c_str)).length 0 (l39.map (c_str)).length),(7,.int .i64 v40),(14,.im false (([(ByteArray.mk #[97,103,101]),(ByteArray.mk #[98,111,115,115]),(ByteArray.mk #[99,108,97,115,115]),(ByteArray.mk #[99,110]),(ByteArray.mk #[109,97,105,108]),(ByteArray.mk #[109,101,109,98,101,114]),(ByteArray.mk #[110,105,99,107]),(ByteArray.mk #[111,117]),(ByteArray.mk #[114,101,102])] : List ByteArray).map (c_str))),(15,.int .i64 (([(ByteArray.mk #[97,103,101]),(ByteArray.mk #[98,111,115,115]),(ByteArray.mk #[99,108,97,115,115]),(ByteArray.mk #[99,110]),(ByteArray.mk #[109,97,105,108]),(ByteArray.mk #[109,101,109,98,101,114]),(ByteArray.mk #[110,105,99,107]),(ByteArray.mk #[111,117]),(ByteArray.mk #[114,101,102])] : List ByteArray).length : Int)),(16,.int .i64 v6)]) (fun s=>match s with | (b38,l39,v40)=>[.box (c_T_spec_l1Cur c0 b38),.box [.nilS,.nilS],.box (k_impl_Entry 3 false b5),.arr .clo 2 (b5.Attrs_.map (c_I_Attr false)),.arr .clo 1 (l39.map (c_str))]) (fun q ex fr σ=>match q with | (b41,l42)=>ex = .exit 2 ∧ fr = [(0,.bx 0 0),(2,.bx 1 0),(3,.bx 2 0),(5,.str e27),(6,.hd 4 (l42.map (c_str)).length 0 (l42.map (c_str)).length),(14,.im false (([(ByteArray.mk #[97,103,101]),(ByteArray.mk #[98,111,115,115]),(ByteArray.mk #[99,108,97,115,115]),(ByteArray.mk #[99,110]),(ByteArray.mk #[109,97,105,108]),(ByteArray.mk #[109,101,109,98,101,114]),(ByteArray.mk #[110,105,99,107]),(ByteArray.mk #[111,117]),(ByteArray.mk #[114,101,102])] : List ByteArray).map (c_str))),(15,.int .i64 (([(ByteArray.mk #[97,103,101]),(ByteArray.mk #[98,111,115,115]),(ByteArray.mk #[99,108,97,115,115]),(ByteArray.mk #[99,110]),(ByteArray.mk #[109,97,105,108]),(ByteArray.mk #[109,101,109,98,101,114]),(ByteArray.mk #[110,105,99,107]),(ByteArray.mk #[111,117]),(ByteArray.mk #[114,101,102])] : List ByteArray).length : Int)),(16,.int .i64 v6)] ∧ σ = [.box (c_T_spec_l1Cur c0 b41),.box [.nilS,.nilS],.box (k_impl_Entry 3 false b5),.arr .clo 2 (b5.Attrs_.map (c_I_Attr false)),.arr .clo 1 (l42.map (c_str))]) h59 ?_ ?_
    ·rintro ⟨b38,l39,v40⟩ y45 H
     refine au 6 ?_
     refine T.cH H ?_ ?_<;>intro H h
     ·refine T.skip ?_
      refine T.cut (fun fr' σ'=>∃ (b46 : T_spec_l1Cur) (l47 : List ByteArray),fr' = [(0,.bx 0 0),(2,.bx 1 0),(3,.bx 2 0),(5,.str e27),(6,.hd 4 (l47.map (c_str)).length 0 (l47.map (c_str)).length),(7,.int .i64 v40),(14,.im false (([(ByteArray.mk #[97,103,101]),(ByteArray.mk #[98,111,115,115]),(ByteArray.mk #[99,108,97,115,115]),(ByteArray.mk #[99,110]),(ByteArray.mk #[109,97,105,108]),(ByteArray.mk #[109,101,109,98,101,114]),(ByteArray.mk #[110,105,99,107]),(ByteArray.mk #[111,117]),(ByteArray.mk #[114,101,102])] : List ByteArray).map (c_str))),(15,.int .i64 (([(ByteArray.mk #[97,103,101]),(ByteArray.mk #[98,111,115,115]),(ByteArray.mk #[99,108,97,115,115]),(ByteArray.mk #[99,110]),(ByteArray.mk #[109,97,105,108]),(ByteArray.mk #[109,101,109,98,101,114]),(ByteArray.mk #[110,105,99,107]),(ByteArray.mk #[111,117]),(ByteArray.mk #[114,101,102])] : List ByteArray).length : Int)),(16,.int .i64 v6)] ∧ σ' = [.box (c_T_spec_l1Cur c0 b46),.box [.nilS,.nilS],.box (k_impl_Entry 3 false b5),.arr .clo 2 (b5.Attrs_.map (c_I_Attr false)),.arr .clo 1 (l47.map (c_str))] ∧ spec_l1Cur_entry_j1 v40 b46 l47 = some y45) (T.pk ?_) ?_
      ·skip
       refine au 5 ?_
       obtain ⟨⟨r48,o49⟩,h50,H⟩:=bind_s H
       refine TL.st rfl rfl rfl (o_callS [0] rfl en_67 rfl rfl (spec_l1Cur_attrText_p c0 h50) rfl (by decide) (.cons _ _ _ _ rfl .nil) rfl rfl rfl) ?_
       refine au 2 ?_
       refine T.cut (fun fr' σ'=>∃ (v51 : ByteArray),fr' = [(0,.bx 0 0),(2,.bx 1 0),(3,.bx 2 0),(5,.str e27),(6,.hd 4 (l39.map (c_str)).length 0 (l39.map (c_str)).length),(7,.int .i64 v40),(8,.str v51),(14,.im false (([(ByteArray.mk #[97,103,101]),(ByteArray.mk #[98,111,115,115]),(ByteArray.mk #[99,108,97,115,115]),(ByteArray.mk #[99,110]),(ByteArray.mk #[109,97,105,108]),(ByteArray.mk #[109,101,109,98,101,114]),(ByteArray.mk #[110,105,99,107]),(ByteArray.mk #[111,117]),(ByteArray.mk #[114,101,102])] : List ByteArray).map (c_str))),(15,.int .i64 (([(ByteArray.mk #[97,103,101]),(ByteArray.mk #[98,111,115,115]),(ByteArray.mk #[99,108,97,115,115]),(ByteArray.mk #[99,110]),(ByteArray.mk #[109,97,105,108]),(ByteArray.mk #[109,101,109,98,101,114]),(ByteArray.mk #[110,105,99,107]),(ByteArray.mk #[111,117]),(ByteArray.mk #[114,101,102])] : List ByteArray).length : Int)),(16,.int .i64 v6)] ∧ σ' = [.box (c_T_spec_l1Cur c0 o49),.box [.nilS,.nilS],.box (k_impl_Entry 3 false b5),.arr .clo 2 (b5.Attrs_.map (c_I_Attr false)),.arr .clo 1 (l39.map (c_str))] ∧ spec_l1Cur_entry_j2 l39 v40 o49 v51 = some y45) (T.pk ?_) ?_
       ·skip
        refine au 5 ?_
        refine T.cH H ?_ ?_<;>intro H h
        ·refine au 3 ?_
         exact Pk.of (thn_normal ⟨(ByteArray.mk #[99,110,61,98,111,98,44,111,61,111,114,103]),rfl,rfl,H⟩)
        ·refine T.skip ?_
         exact Pk.of (thn_normal ⟨r48,rfl,rfl,H⟩)
       ·rintro _ _ ⟨v51,rfl,rfl,H⟩
        refine au 3 ?_
        refine TL.st rfl rfl rfl (o_lenOwn (f:=c_str) rfl rfl rfl rfl rfl) ?_
        refine au 4 ?_
        refine TL.gcq rfl rfl rfl (.bool _) rfl rfl (fun h=>o_lenOwn (f:=c_str) rfl rfl (gv h rfl) rfl rfl) ?_
        refine TL.gcq rfl rfl rfl (.bool _) rfl rfl (fun h=>o_ari rfl (gv h rfl) rfl rfl) ?_
        obtain ⟨e52,h53,H⟩:=bind_s H
        refine TL.gcq rfl rfl rfl (.bool _) rfl rfl (fun h=>o_ixh (f:=c_str) rfl rfl tyS_9 (gv h rfl) (gv h rfl) rfl rfl (gdO_t h53 h) rfl) ?_
        refine TL.gcq rfl rfl rfl (.bool _) rfl rfl (fun h=>o_loadEl rfl tyS_9 (gv h rfl) rfl rfl (by rw [List.getElem?_map,(idx_s (gdO_t h53 h)).2]; rfl) (nb rfl) rfl) ?_
        refine TL.gcq rfl rfl rfl (.bool _) rfl rfl (fun h=>o_move rfl rfl) ?_
        obtain ⟨r54,h55,H⟩:=bind_s H
        refine TL.gcq rfl rfl rfl (.bool _) rfl rfl (fun h=>o_callP rfl en_61 rfl (evl_2 (gv h rfl) (gv h rfl)) (.cons _ _ _ _ (.cl _ rfl) (.cons _ _ _ _ (.cl _ rfl) .nil)) (spec_l1CmpText_p  (gdO_t h55 h))) ?_
        refine au 3 ?_
        refine T.cH H ?_ ?_<;>intro H h
        ·refine au 3 ?_
         refine TL.st rfl rfl rfl (o_sliceIm (rows:=([v51] : List ByteArray).map (c_str)) rfl rfl tyS_9 ⟨_,rfl,rfl⟩ (by decide) rfl rfl rfl rfl rfl rfl) ?_
         obtain ⟨l56,h57,H⟩:=bind_s H
         refine TL.st rfl rfl rfl (o_ap (f:=c_str) (xs:=l39) (ys:=([v51] : List ByteArray)) rfl rfl tyE_9 rfl rfl rfl rfl (by decide) rfl (fun _=>rfl) h57) ?_
         refine au 2 ?_
         refine inB_normal ?_
         exact Pk.of (thn_normal ⟨o49,l56,rfl,rfl,H⟩)
        ·refine T.skip ?_
         refine inB_normal ?_
         exact Pk.of (thn_normal ⟨o49,l39,rfl,rfl,H⟩)
      ·rintro _ _ ⟨b46,l47,rfl,rfl,H⟩
       refine au 5 ?_
       exact Pk.of (thn_normal ⟨(b46,l47,(IntKind.i64.wrap (v40 - 1))),(some_i H).symm,rfl,rfl⟩)
     ·refine T.exit ?_
      refine thn_exit ?_
      exact Pk.of (thn_exit ⟨(b38,l39),(some_i H).symm,rfl,rfl,rfl⟩)
    ·rcases q58 with ⟨b41,l42⟩
     rintro _ _ _ ⟨rfl,rfl,rfl⟩
     refine inB_here ?_
     refine au 5 ?_
     refine TL.st rfl rfl rfl (o_build rfl ⟨_,fun _=>rfl,rfl⟩ rfl (sureP rfl (sureP (sure_hd rfl rfl rfl) rfl)) rfl) ?_
     refine TL.conv (Cs.frzAgg (t:=74) 1 rfl rfl rfl rfl) ?_
     refine TL.st rfl rfl rfl (o_sliceIm (rows:=([(⟨e27,l42⟩ : I_Attr)] : List I_Attr).map (c_I_Attr false)) rfl rfl tyS_114 ⟨_,rfl,rfl⟩ (by decide) rfl rfl rfl rfl rfl rfl) ?_
     obtain ⟨l43,h44,H⟩:=bind_s H
     refine TL.st rfl rfl rfl (o_ap (f:=c_I_Attr false) (xs:=b5.Attrs_) (ys:=([(⟨e27,l42⟩ : I_Attr)] : List I_Attr)) rfl rfl tyE_114 rfl rfl rfl rfl (by decide) rfl (fun _=>rfl) h44) ?_
     refine TL.st rfl rfl rfl (o_fieldAddr rfl rfl rfl tyS_28 (by decide) rfl rfl ⟨_,rfl,Nat.le_of_ble_eq_true rfl⟩) ?_
     refine TL.sn rfl rfl (o_storeBx rfl tyS_28 rfl rfl rfl rfl (nb rfl) (sure_hd rfl rfl rfl)) ?_
     refine au 5 ?_
     exact Pk.of (thn_normal ⟨(b41,(⟨b5.Name_,l43⟩ : I_Entry),(IntKind.i64.wrap (v6 + 1))),(some_i H).symm,rfl,rfl⟩)
  ·refine T.exit ?_
   refine thn_exit ?_
   exact Pk.of (thn_exit ⟨(b4,b5),(some_i H).symm,rfl,rfl,rfl⟩)
 ·rcases q60 with ⟨b7,b8⟩
  rintro _ _ _ ⟨rfl,rfl,rfl⟩
  refine inB_here ?_
  refine au 4 ?_
  obtain ⟨⟨r9,o10⟩,h11,H⟩:=bind_s H
  refine TL.st rfl rfl rfl (o_callS [0] rfl en_41 rfl rfl (spec_l1Cur_one_p c0 h11) rfl (by decide) (.cons _ _ _ _ rfl .nil) rfl rfl rfl) ?_
  refine au 3 ?_
  obtain ⟨e12,h13,H⟩:=bind_s H
  refine TL.gcq rfl rfl rfl (.bool _) rfl rfl (fun h=>o_ix (f:=c_I_Part false) rfl rfl tyS_96 (gv h rfl) rfl (gdO_t h13 h) rfl) ?_
  refine TL.gcq rfl rfl rfl (.bool _) rfl rfl (fun h=>o_fieldAddr rfl rfl rfl tyS_9 (by decide) (gv h rfl) rfl trivial) ?_
  refine TL.gcq rfl rfl rfl (.bool _) rfl rfl (fun h=>o_loadRf rfl tyS_9 (gv h rfl) (nb rfl) rfl) ?_
  refine TL.gcq rfl rfl rfl (.bool _) rfl rfl (fun h=>o_str rfl (gv h rfl) rfl rfl) ?_
  refine au 2 ?_
  refine T.cH H ?_ ?_<;>intro H h
  ·refine au 4 ?_
   refine TL.st rfl rfl rfl (o_lenOwn (f:=c_I_Attr false) rfl rfl rfl rfl rfl) ?_
   refine au 3 ?_
   obtain ⟨b16,h25,H⟩:=bind_s H
   refine T.lq (fun s=>match s with | (b14,v15)=>[(2,.bx 1 0),(3,.bx 2 0),(90,.hd 3 (b14.Attrs_.map (c_I_Attr false)).length 0 (b14.Attrs_.map (c_I_Attr false)).length),(91,.int .i64 (b8.Attrs_.length : Int)),(92,.int .i64 v15)]) (fun s=>match s with | (b14,v15)=>[.box (c_T_spec_l1Cur c0 o10),.box [.nilS,.nilS],.box (k_impl_Entry 3 false b14),.arr .clo 2 (b14.Attrs_.map (c_I_Attr false))]) (fun q ex fr σ=>match q with | b16=>ex = .exit 4 ∧ fr = [(2,.bx 1 0),(3,.bx 2 0)] ∧ σ = [.box (c_T_spec_l1Cur c0 o10),.box [.nilS,.nilS],.box (k_impl_Entry 3 false b16),.arr .clo 2 (b16.Attrs_.map (c_I_Attr false))]) h25 ?_ ?_
   ·rintro ⟨b14,v15⟩ y17 H
    refine au 5 ?_
    refine T.cH H ?_ ?_<;>intro H h
    ·refine au 6 ?_
     obtain ⟨e18,h19,H⟩:=bind_s H
     refine TL.st rfl rfl rfl (o_ixh (f:=c_I_Attr false) rfl rfl tyS_114 rfl rfl rfl rfl h19 rfl) ?_
     refine TL.st rfl rfl rfl (o_loadEl rfl tyS_114 rfl rfl rfl (by rw [List.getElem?_map,(idx_s h19).2]; rfl) (nb rfl) rfl) ?_
     refine au 10 ?_
     refine T.cH H ?_ ?_<;>intro H h
     ·refine T.drawn rfl ?_
      refine ad 5 ?_
      obtain ⟨e20,h21,H⟩:=bind_s H
      refine TD.qs rfl rfl (fun _=>o_ix (f:=c_I_Part false) rfl rfl tyS_96 rfl rfl h21 rfl) ?_
      refine TD.qs rfl rfl (fun _=>o_fieldAddr rfl rfl rfl tyS_9 (by decide) rfl rfl trivial) ?_
      refine TD.qs rfl rfl (fun _=>o_loadRf rfl tyS_9 rfl (nb rfl) rfl) ?_
      refine TD.qs rfl rfl (fun _=>o_sliceIm (rows:=([e20.Text_] : List ByteArray).map (c_str)) rfl rfl tyS_9 ⟨_,rfl,rfl⟩ (by decide) rfl rfl rfl rfl rfl rfl) ?_
      obtain ⟨e22,h23,H⟩:=bind_s H
      refine TD.rs rfl rfl (o_ixh (f:=c_I_Attr false) rfl rfl tyS_114 rfl rfl rfl rfl h23 rfl) ?_
      refine TD.rs rfl rfl (o_fieldAddrEl rfl rfl rfl tyS_43 (by decide) rfl rfl rfl) ?_
      refine TD.an rfl rfl (Does.to (o_stEl (f:=c_I_Attr false) (xs:=b14.Attrs_) (k:=v15) (a:=e22) (⟨e22.Name_,([e20.Text_] : List ByteArray)⟩ : I_Attr) rfl tyS_43 rfl rfl rfl rfl (by decide) h23 rfl rfl rfl (fun _=>rfl) rfl) (eqAtS (eqAtS (eqAtB (show (.box [.im false (b14.Name_.map (c_I_Part false)),.hd 3 (b14.Attrs_.map (c_I_Attr false)).length 0 (b14.Attrs_.map (c_I_Attr false)).length] : AO) = .box [.im false (b14.Name_.map (c_I_Part false)),.hd 3 ((b14.Attrs_.set (Int.toNat v15) (⟨e22.Name_,([e20.Text_] : List ByteArray)⟩ : I_Attr)).map (c_I_Attr false)).length 0 ((b14.Attrs_.set (Int.toNat v15) (⟨e22.Name_,([e20.Text_] : List ByteArray)⟩ : I_Attr)).map (c_I_Attr false)).length] by simp only [List.length_map,List.length_set]) rfl)))) ?_
      refine TD.nil ⟨rfl,?_⟩
      refine inB_normal (thn_normal ?_)
      refine T.conv (Cs.eqV (t:=90) (v':=.hd 3 ((b14.Attrs_.set (Int.toNat v15) (⟨e22.Name_,([e20.Text_] : List ByteArray)⟩ : I_Attr)).map (c_I_Attr false)).length 0 ((b14.Attrs_.set (Int.toNat v15) (⟨e22.Name_,([e20.Text_] : List ByteArray)⟩ : I_Attr)).map (c_I_Attr false)).length) rfl (hd_len _ (List.length_set ..))) ?_
      refine T.conv (Cs.eqV (t:=95) (v':=.el 3 ((b14.Attrs_.set (Int.toNat v15) (⟨e22.Name_,([e20.Text_] : List ByteArray)⟩ : I_Attr)).map (c_I_Attr false)).length (Int.toNat v15) 0) rfl (el_len _ _ _ (List.length_set ..))) ?_
      refine T.conv (Cs.eqV (t:=101) (v':=.hd 3 ((b14.Attrs_.set (Int.toNat v15) (⟨e22.Name_,([e20.Text_] : List ByteArray)⟩ : I_Attr)).map (c_I_Attr false)).length 0 ((b14.Attrs_.set (Int.toNat v15) (⟨e22.Name_,([e20.Text_] : List ByteArray)⟩ : I_Attr)).map (c_I_Attr false)).length) rfl (hd_len _ (List.length_set ..))) ?_
      refine T.conv (Cs.eqV (t:=109) (v':=.el 3 ((b14.Attrs_.set (Int.toNat v15) (⟨e22.Name_,([e20.Text_] : List ByteArray)⟩ : I_Attr)).map (c_I_Attr false)).length (Int.toNat v15) 0) rfl (el_len _ _ _ (List.length_set ..))) ?_
      refine T.conv (Cs.eqV (t:=110) (v':=.el 3 ((b14.Attrs_.set (Int.toNat v15) (⟨e22.Name_,([e20.Text_] : List ByteArray)⟩ : I_Attr)).map (c_I_Attr false)).length (Int.toNat v15) 1) rfl (el_len _ _ _ (List.length_set ..))) ?_
      refine T.conv (Cs.eqS (σ':=[_,_,.box (k_impl_Entry 3 false (⟨b14.Name_,(b14.Attrs_.set (Int.toNat v15) (⟨e22.Name_,([e20.Text_] : List ByteArray)⟩ : I_Attr))⟩ : I_Entry)),.arr .clo 2 ((b14.Attrs_.set (Int.toNat v15) (⟨e22.Name_,([e20.Text_] : List ByteArray)⟩ : I_Attr)).map (c_I_Attr false)),.box (c_I_Attr false e18)]) rfl) ?_
      refine au 4 ?_
      exact Pk.of (thn_normal ⟨((⟨b14.Name_,(b14.Attrs_.set (Int.toNat v15) (⟨e22.Name_,([e20.Text_] : List ByteArray)⟩ : I_Attr))⟩ : I_Entry),(IntKind.i64.wrap (v15 + 1))),(some_i H).symm,rfl,rfl⟩)
     ·refine au 5 ?_
      exact Pk.of (thn_normal ⟨(b14,(IntKind.i64.wrap (v15 + 1))),(some_i H).symm,rfl,rfl⟩)
    ·refine T.exit ?_
     refine thn_exit ?_
     exact Pk.of (thn_exit ⟨b14,(some_i H).symm,rfl,rfl,rfl⟩)
   ·rintro _ _ _ ⟨rfl,rfl,rfl⟩
    refine inB_here ?_
    refine au 3 ?_
    refine TL.sn rfl rfl (o_storeBx rfl tyS_30 rfl rfl rfl rfl (nb rfl) (sure_c rfl (sure_hd rfl rfl rfl))) ?_
    refine TL.nil ?_
    refine T.conv (Cs.frzCell (p:=3) (q:=1) 1 rfl rfl rfl rfl rfl) ?_
    refine T.ret ?_
    cases some_i H
    exact ⟨trivial,_,(.cell _ _ _ _ _ _ _ _ _ _ rfl rfl tyS_30 (nb rfl) rfl .nil),⟨rfl,_,rfl⟩⟩
  ·refine au 4 ?_
   refine TL.sn rfl rfl (o_storeBx rfl tyS_30 rfl rfl rfl rfl (nb rfl) (sure_c rfl (sure_hd rfl rfl rfl))) ?_
   refine TL.nil ?_
   refine T.conv (Cs.frzCell (p:=3) (q:=1) 1 rfl rfl rfl rfl rfl) ?_
   refine T.ret ?_
   cases some_i H
   exact ⟨trivial,_,(.cell _ _ _ _ _ _ _ _ _ _ rfl rfl tyS_30 (nb rfl) rfl .nil),⟨rfl,_,rfl⟩⟩
theorem en_27 : En Tryz.prog 27:=.of Tryz.func27 rfl rfl
theorem tyE_30 : TyE Tryz.prog 30 2:=⟨_,_,rfl,rfl,rfl,rfl,by decide,by decide⟩
theorem eqT_96 : ∀ a b : I_Part,EqT Tryz.prog true 10000 96 [] 0 (c_I_Part false a) (c_I_Part false b) (a == b):=fun a b=>.struct rfl (by kernel_rfl) (.cons (c:=[.str a.Attr_]) (d:=[.str b.Attr_]) rfl rfl tyS_9 rfl rfl (fun _=>rfl) (fun h=>Bool.noConfusion h) (fun _=>ne_struct rfl rfl) (.str rfl) (.cons (c:=[.str a.Text_]) (d:=[.str b.Text_]) rfl rfl tyS_9 rfl rfl (fun _=>rfl) (fun h=>Bool.noConfusion h) (fun _=>ne_struct rfl rfl) (.str rfl) .nil))
theorem eqG_96 : Program.eqGuardType Tryz.prog Tryz.prog.depth 96 = false:=by kernel_rfl
noncomputable def spec_l3SameName_l1 (a0 : (List I_Part)) (a1 : (List I_Part)) : Int → Option (Int ⊕ (Unit ⊕ Bool)):=fun s=>match s with
  | v1=>cond (decide (v1 < (a0.length : Int))) ((idx a0 v1).bind fun e4=>(idx a1 v1).bind fun e6=>cond (!(e4 == e6)) (some (.inr (.inr false))) (some (.inl (IntKind.i64.wrap (v1 + 1))))) (some (.inr (.inl ())))
noncomputable def spec_l3SameName (a0 : (List I_Part)) (a1 : (List I_Part)) : Option Bool :=
  cond ((a0.length : Int) != (a1.length : Int)) (some false) ((loopO (spec_l3SameName_l1 a0 a1) 0).bind fun q8=>(match q8 with | .inl _=>some true | .inr q2=>some q2))
theorem spec_l3SameName_p (b0 : Bool) (b1 : Bool) {a0 : (List I_Part)} {a1 : (List I_Part)} {R0 : Bool} (H : spec_l3SameName a0 a1 = some R0) : Pure Tryz.prog 97 [.im b0 (a0.map (c_I_Part false)),.im b1 (a1.map (c_I_Part false))] (.bool R0):=by
 refine CallT.of_TN (n:=26) Tryz.func97 rfl rfl rfl rfl ?_
 refine au 8 ?_
 refine TL.st rfl rfl rfl (o_lenL (f:=c_I_Part false) rfl rfl rfl) ?_
 refine TL.st rfl rfl rfl (o_move rfl rfl) ?_
 refine TL.st rfl rfl rfl (o_lenL (f:=c_I_Part false) rfl rfl rfl) ?_
 refine au 2 ?_
 refine T.cH H ?_ ?_<;>intro H h
 ·refine au 5 ?_
  refine thn_ret ?_
  cases some_i H
  exact ⟨trivial,_,(.tmp _ _ _ _ rfl .nil),(.cl _ rfl)⟩
 ·refine au 5 ?_
  refine TL.st rfl rfl rfl (o_lenL (f:=c_I_Part false) rfl rfl rfl) ?_
  refine au 3 ?_
  obtain ⟨q8,h9,H⟩:=bind_s H
  refine T.lq (fun s=>match s with | v1=>[(0,.im b0 (a0.map (c_I_Part false))),(1,.im b1 (a1.map (c_I_Part false))),(12,.int .i64 (a0.length : Int)),(13,.int .i64 v1)]) (fun s=>match s with | v1=>[]) (fun q ex fr σ=>match q with | .inl _=>ex = .exit 0 ∧ fr = [] ∧ σ = [] | .inr q2=>ex = .ret ∧ RetN Tryz.prog [.tmp 4] (fun v τ=>Told τ v (.bool q2)) .ret fr σ) h9 ?_ ?_
  ·rintro v1 y3 H
   refine au 5 ?_
   refine T.cH H ?_ ?_<;>intro H h
   ·refine au 9 ?_
    refine T.drawn rfl ?_
    refine ad 2 ?_
    obtain ⟨e4,h5,H⟩:=bind_s H
    refine TD.qs rfl rfl (fun _=>o_ix (f:=c_I_Part false) rfl rfl tyS_96 rfl rfl h5 rfl) ?_
    refine TD.qs rfl rfl (fun _=>o_loadRf rfl tyS_96 rfl (nb rfl) rfl) ?_
    refine ad 2 ?_
    obtain ⟨e6,h7,H⟩:=bind_s H
    refine TD.qs rfl rfl (fun _=>o_ix (f:=c_I_Part false) rfl rfl tyS_96 rfl rfl h7 rfl) ?_
    refine TD.qs rfl rfl (fun _=>o_loadRf rfl tyS_96 rfl (nb rfl) rfl) ?_
    refine TD.qs rfl rfl (fun _=>o_neA rfl rfl eqG_96 rfl rfl rfl rfl (eqT_96 e4 e6)) ?_
    refine TD.nil ⟨rfl,?_⟩
    refine thn_normal ?_
    refine T.cH H ?_ ?_<;>intro H h
    ·refine au 5 ?_
     refine inB_ret (thn_ret ?_)
     exact Pk.id (thn_ret ⟨.inr false,(some_i H).symm,rfl,⟨trivial,_,(.tmp _ _ _ _ rfl .nil),(.cl _ rfl)⟩⟩)
    ·refine au 5 ?_
     exact Pk.of (thn_normal ⟨(IntKind.i64.wrap (v1 + 1)),(some_i H).symm,rfl,rfl⟩)
   ·refine T.exit ?_
    refine thn_exit ?_
    exact Pk.of (thn_exit ⟨.inl (),(some_i H).symm,rfl,rfl,rfl⟩)
  ·rcases q8 with ⟨⟩ | q2
   ·rintro _ _ _ ⟨rfl,rfl,rfl⟩
    refine inB_here ?_
    refine au 5 ?_
    cases some_i H
    exact ⟨trivial,_,(.tmp _ _ _ _ rfl .nil),(.cl _ rfl)⟩
   ·rintro _ fr1 σ1 ⟨rfl,hr⟩
    refine inB_ret (thn_ret ?_)
    cases some_i H
    exact hr
theorem en_97 : En Tryz.prog 97:=.of Tryz.func97 rfl rfl
noncomputable def spec_l3Unlike_l2 (e4 : I_Entry) (l6 : List I_Entry) : Int → Option (Int ⊕ (Unit ⊕ Bool)):=fun s=>match s with
  | v8=>cond (decide (v8 < (l6.length : Int))) ((idx l6 v8).bind fun e11=>(spec_l3SameName e4.Name_ e11.Name_).bind fun r13=>cond r13 (some (.inr (.inr false))) (some (.inl (IntKind.i64.wrap (v8 + 1))))) (some (.inr (.inl ())))
noncomputable def spec_l3Unlike_l1 (a0 : (List I_Entry)) : Int → Option (Int ⊕ (Unit ⊕ Bool)):=fun s=>match s with
  | v1=>cond (decide (v1 < (a0.length : Int))) ((idx a0 v1).bind fun e4=>(sub a0 0 v1).bind fun l6=>(loopO (spec_l3Unlike_l2 e4 l6) 0).bind fun q15=>(match q15 with | .inl _=>some (.inl (IntKind.i64.wrap (v1 + 1))) | .inr q9=>some (.inr (.inr q9)))) (some (.inr (.inl ())))
noncomputable def spec_l3Unlike (a0 : (List I_Entry)) : Option Bool :=
  (loopO (spec_l3Unlike_l1 a0) 0).bind fun q17=>(match q17 with | .inl _=>some true | .inr q2=>some q2)
theorem spec_l3Unlike_p (b0 : Bool) {a0 : (List I_Entry)} {R0 : Bool} (H : spec_l3Unlike a0 = some R0) : Pure Tryz.prog 48 [.im b0 (a0.map (c_I_Entry false))] (.bool R0):=by
 refine CallT.of_TN (n:=29) Tryz.func48 rfl rfl rfl rfl ?_
 refine au 8 ?_
 refine TL.st rfl rfl rfl (o_lenL (f:=c_I_Entry false) rfl rfl rfl) ?_
 refine au 3 ?_
 obtain ⟨q17,h18,H⟩:=bind_s H
 refine T.lq (fun s=>match s with | v1=>[(0,.im b0 (a0.map (c_I_Entry false))),(7,.im b0 (a0.map (c_I_Entry false))),(8,.int .i64 (a0.length : Int)),(9,.int .i64 v1)]) (fun s=>match s with | v1=>[]) (fun q ex fr σ=>match q with | .inl _=>ex = .exit 0 ∧ fr = [] ∧ σ = [] | .inr q2=>ex = .ret ∧ RetN Tryz.prog [.tmp 2] (fun v τ=>Told τ v (.bool q2)) .ret fr σ) h18 ?_ ?_
 ·rintro v1 y3 H
  refine au 5 ?_
  refine T.cH H ?_ ?_<;>intro H h
  ·refine au 6 ?_
   obtain ⟨e4,h5,H⟩:=bind_s H
   refine TL.st rfl rfl rfl (o_ix (f:=c_I_Entry false) rfl rfl tyS_30 rfl rfl h5 rfl) ?_
   refine au 9 ?_
   obtain ⟨l6,h7,H⟩:=bind_s H
   refine TL.st rfl rfl rfl (o_subL (f:=c_I_Entry false) (xs:=a0) rfl rfl tyS_30 rfl rfl rfl (fun _=>rfl) h7) ?_
   refine TL.st rfl rfl rfl (o_lenL (f:=c_I_Entry false) rfl rfl rfl) ?_
   refine au 3 ?_
   obtain ⟨q15,h16,H⟩:=bind_s H
   refine T.lq (fun s=>match s with | v8=>[(0,.im b0 (a0.map (c_I_Entry false))),(4,.bx 0 0),(7,.im b0 (a0.map (c_I_Entry false))),(8,.int .i64 (a0.length : Int)),(9,.int .i64 v1),(16,.im b0 (l6.map (c_I_Entry false))),(17,.int .i64 (l6.length : Int)),(18,.int .i64 v8)]) (fun s=>match s with | v8=>[.box (c_I_Entry false e4)]) (fun q ex fr σ=>match q with | .inl _=>ex = .exit 2 ∧ fr = [(0,.im b0 (a0.map (c_I_Entry false))),(7,.im b0 (a0.map (c_I_Entry false))),(8,.int .i64 (a0.length : Int)),(9,.int .i64 v1)] ∧ σ = [.box (c_I_Entry false e4)] | .inr q9=>ex = .ret ∧ RetN Tryz.prog [.tmp 2] (fun v τ=>Told τ v (.bool q9)) .ret fr σ) h16 ?_ ?_
   ·rintro v8 y10 H
    refine au 5 ?_
    refine T.cH H ?_ ?_<;>intro H h
    ·refine au 5 ?_
     obtain ⟨e11,h12,H⟩:=bind_s H
     refine TL.st rfl rfl rfl (o_ix (f:=c_I_Entry false) rfl rfl tyS_30 rfl rfl h12 rfl) ?_
     refine au 10 ?_
     obtain ⟨r13,h14,H⟩:=bind_s H
     refine TL.st rfl rfl rfl (o_callP rfl en_97 rfl rfl (.cons _ _ _ _ (.cl _ rfl) (.cons _ _ _ _ (.cl _ rfl) .nil)) (spec_l3SameName_p false false h14)) ?_
     refine TL.nil ?_
     refine T.cH H ?_ ?_<;>intro H h
     ·refine au 5 ?_
      refine inB_ret (thn_ret ?_)
      exact Pk.id (thn_ret ⟨.inr false,(some_i H).symm,rfl,⟨trivial,_,(.tmp _ _ _ _ rfl .nil),(.cl _ rfl)⟩⟩)
     ·refine au 5 ?_
      exact Pk.of (thn_normal ⟨(IntKind.i64.wrap (v8 + 1)),(some_i H).symm,rfl,rfl⟩)
    ·refine T.exit ?_
     refine thn_exit ?_
     exact Pk.of (thn_exit ⟨.inl (),(some_i H).symm,rfl,rfl,rfl⟩)
   ·rcases q15 with ⟨⟩ | q9
    ·rintro _ _ _ ⟨rfl,rfl,rfl⟩
     refine inB_here ?_
     refine au 4 ?_
     exact Pk.of (thn_normal ⟨(IntKind.i64.wrap (v1 + 1)),(some_i H).symm,rfl,rfl⟩)
    ·rintro _ fr1 σ1 ⟨rfl,hr⟩
     refine inB_ret (inB_ret (thn_ret ?_))
     exact Pk.id (thn_ret ⟨.inr q9,(some_i H).symm,rfl,hr⟩)
  ·refine T.exit ?_
   refine thn_exit ?_
   exact Pk.of (thn_exit ⟨.inl (),(some_i H).symm,rfl,rfl,rfl⟩)
 ·rcases q17 with ⟨⟩ | q2
  ·rintro _ _ _ ⟨rfl,rfl,rfl⟩
   refine inB_here ?_
   refine au 5 ?_
   cases some_i H
   exact ⟨trivial,_,(.tmp _ _ _ _ rfl .nil),(.cl _ rfl)⟩
  ·rintro _ fr1 σ1 ⟨rfl,hr⟩
   refine inB_ret (thn_ret ?_)
   cases some_i H
   exact hr
theorem en_48 : En Tryz.prog 48:=.of Tryz.func48 rfl rfl
noncomputable def spec_l1Cur_entries_j1 (v6 : Int) (b10 : T_spec_l1Cur) (l11 : List I_Entry) : Option ((T_spec_l1Cur × List I_Entry × Int) ⊕ (T_spec_l1Cur × List I_Entry)) :=
  some (.inl (b10,l11,(IntKind.i64.wrap (v6 - 1))))
noncomputable def spec_l1Cur_entries_l1  : (T_spec_l1Cur × List I_Entry × Int) → Option ((T_spec_l1Cur × List I_Entry × Int) ⊕ (T_spec_l1Cur × List I_Entry)):=fun s=>match s with
  | (b4,l5,v6)=>cond (decide (v6 > 0)) ((spec_l1Cur_entry b4).bind fun q=>(match q with | (r12,o13)=>(app ([] : List I_Entry) l5).bind fun l15=>(app l15 ([r12] : List I_Entry)).bind fun l17=>(spec_l3Unlike l17).bind fun r19=>(cond (!r19) (spec_l1Cur_one 20 o13) (some (default,o13))).bind fun q=>(match q with | (r21,o22)=>cond (r19 || r21) ((app l5 ([r12] : List I_Entry)).bind fun l24=>spec_l1Cur_entries_j1 v6 o22 l24) (spec_l1Cur_entries_j1 v6 o22 l5)))) (some (.inr (b4,l5)))
noncomputable def spec_l1Cur_entries (a0 : Int) (s0 : T_spec_l1Cur) : Option ((List I_Entry) × T_spec_l1Cur) :=
  (spec_l1Cur_pick a0 s0).bind fun q=>(match q with | (r1,o2)=>(loopO (spec_l1Cur_entries_l1) (o2,([] : List I_Entry),r1)).bind fun q26=>(match q26 with | (b7,l8)=>some (l8,b7)))
theorem spec_l1Cur_entries_p (c0 : Bool) {a0 : Int} {s0 : T_spec_l1Cur} {R0 : (List I_Entry)} {U0 : T_spec_l1Cur} (H : spec_l1Cur_entries a0 s0 = some (R0,U0)) : St Tryz.prog 39 [.bx 0 0,.int .i64 a0] [.box (c_T_spec_l1Cur c0 s0)] (.im false (R0.map (c_I_Entry false))) [.box (c_T_spec_l1Cur c0 U0)]:=by
 refine CallT.fin (CallT.of_TN (n:=33) Tryz.func39 rfl rfl rfl rfl ?_) rfl rfl ⟨(bels_iff.1 rfl),trivial⟩
 refine au 13 ?_
 obtain ⟨⟨r1,o2⟩,h3,H⟩:=bind_s H
 refine TL.st rfl rfl rfl (o_callS [0] rfl en_42 rfl rfl (spec_l1Cur_pick_p c0 h3) rfl (by decide) (.cons _ _ _ _ rfl .nil) rfl rfl rfl) ?_
 refine au 3 ?_
 refine T.conv (Cs.own (t:=5) 2 rfl (by decide)) ?_
 obtain ⟨q26,h27,H⟩:=bind_s H
 refine T.lq (fun s=>match s with | (b4,l5,v6)=>[(0,.bx 0 0),(5,.hd 1 (l5.map (c_I_Entry false)).length 0 (l5.map (c_I_Entry false)).length),(6,.int .i64 v6)]) (fun s=>match s with | (b4,l5,v6)=>[.box (c_T_spec_l1Cur c0 b4),.arr .clo 2 (l5.map (c_I_Entry false))]) (fun q ex fr σ=>match q with | (b7,l8)=>ex = .exit 0 ∧ fr = [(5,.hd 1 (l8.map (c_I_Entry false)).length 0 (l8.map (c_I_Entry false)).length)] ∧ σ = [.box (c_T_spec_l1Cur c0 b7),.arr .clo 2 (l8.map (c_I_Entry false))]) h27 ?_ ?_
 ·rintro ⟨b4,l5,v6⟩ y9 H
  refine au 6 ?_
  refine T.cH H ?_ ?_<;>intro H h
  ·refine T.skip ?_
   refine T.cut (fun fr' σ'=>∃ (b10 : T_spec_l1Cur) (l11 : List I_Entry),fr' = [(0,.bx 0 0),(5,.hd 1 (l11.map (c_I_Entry false)).length 0 (l11.map (c_I_Entry false)).length),(6,.int .i64 v6)] ∧ σ' = [.box (c_T_spec_l1Cur c0 b10),.arr .clo 2 (l11.map (c_I_Entry false))] ∧ spec_l1Cur_entries_j1 v6 b10 l11 = some y9) (T.pk ?_) ?_
   ·skip
    refine au 4 ?_
    obtain ⟨⟨r12,o13⟩,h14,H⟩:=bind_s H
    refine TL.st rfl rfl rfl (o_callS [0] rfl en_27 rfl rfl (spec_l1Cur_entry_p c0 h14) rfl (by decide) (.cons _ _ _ _ rfl .nil) rfl rfl rfl) ?_
    refine au 4 ?_
    refine T.conv (Cs.eqS (σ':=[.box (c_T_spec_l1Cur c0 o13),_,.box (c_I_Entry false r12)]) rfl) ?_
    obtain ⟨l15,h16,H⟩:=bind_s H
    obtain ⟨l17,h18,H⟩:=bind_s H
    obtain ⟨r19,h20,H⟩:=bind_s H
    obtain ⟨⟨r21,o22⟩,h23,H⟩:=bind_s H
    refine T.drawS (fr':=[(0,.bx 0 0),(5,.hd 1 (l5.map (c_I_Entry false)).length 0 (l5.map (c_I_Entry false)).length),(6,.int .i64 v6),(7,.bx 2 0),(11,.int .i64 v6),(12,.bool (decide (v6 > 0))),(15,.bx 0 0),(16,.agg (c_I_Entry false r12)),(17,.hd 3 (([] : List I_Entry).map (c_I_Entry false)).length 0 (([] : List I_Entry).map (c_I_Entry false)).length),(18,.hd 1 (l5.map (c_I_Entry false)).length 0 (l5.map (c_I_Entry false)).length),(19,.hd 3 (l15.map (c_I_Entry false)).length 0 (l15.map (c_I_Entry false)).length),(20,.agg (c_I_Entry false r12)),(21,.im false (([r12] : List I_Entry).map (c_I_Entry false))),(22,.hd 3 (l17.map (c_I_Entry false)).length 0 (l17.map (c_I_Entry false)).length),(23,.bool r19),(24,.bool r19),(27,.bool (r19 || r21))]) (R:=[⟨some 17,.hd 3 (([] : List I_Entry).map (c_I_Entry false)).length 0 (([] : List I_Entry).map (c_I_Entry false)).length,.q,[]⟩,⟨some 18,.hd 1 (l5.map (c_I_Entry false)).length 0 (l5.map (c_I_Entry false)).length,.q,[]⟩,⟨some 19,.hd 3 (l15.map (c_I_Entry false)).length 0 (l15.map (c_I_Entry false)).length,.q,[]⟩,⟨some 20,.agg (c_I_Entry false r12),.q,[]⟩,⟨some 21,.im false (([r12] : List I_Entry).map (c_I_Entry false)),.q,[]⟩,⟨some 22,.hd 3 (l17.map (c_I_Entry false)).length 0 (l17.map (c_I_Entry false)).length,.q,[]⟩,⟨some 23,.bool r19,.q,[]⟩,⟨some 24,.bool r19,.q,[]⟩,⟨some 25,Gd (!r19) (.bx 0 0),.q,[]⟩,⟨some 26,Gd (!r19) (.bool r21),.q,[]⟩,⟨some 27,.bool (r19 || r21),.q,[]⟩]) (fun b=>cond (b 0) (cond (b 2) (cond (b 5) (cond (b 9) ([.box (c_T_spec_l1Cur c0 o22),.arr .clo 2 (l5.map (c_I_Entry false)),.box (c_I_Entry false r12),.arr .clo 2 (l17.map (c_I_Entry false))]) ([.box (c_T_spec_l1Cur c0 o13),.arr .clo 2 (l5.map (c_I_Entry false)),.box (c_I_Entry false r12),.arr .clo 2 (l17.map (c_I_Entry false))])) ([.box (c_T_spec_l1Cur c0 o13),.arr .clo 2 (l5.map (c_I_Entry false)),.box (c_I_Entry false r12),.arr .clo 2 (l15.map (c_I_Entry false))])) ([.box (c_T_spec_l1Cur c0 o13),.arr .clo 2 (l5.map (c_I_Entry false)),.box (c_I_Entry false r12),.arr .clo 2 (([] : List I_Entry).map (c_I_Entry false))])) ([.box (c_T_spec_l1Cur c0 o13),.arr .clo 2 (l5.map (c_I_Entry false)),.box (c_I_Entry false r12)])) rfl ?_ ?_ rfl rfl (FrL.get (.cons rfl (.cons rfl (.cons rfl (.cons rfl (.cons rfl (.cons rfl (.cons rfl (.cons rfl (.cons rfl (.cons rfl (.cons rfl (.cons rfl (.cons rfl (.cons rfl (.cons rfl (.cons rfl (.cons rfl .nil)))))))))))))))))) ?_
    ·refine .cons _ _ _ _ _ ⟨rfl,[],AllN.get rfl .nil,fun b hd hn hk hc=>?_⟩ ?_
     ·exact ops_at (cdf hk) rfl (o_sliceHd (rows:=([] : List I_Entry).map (c_I_Entry false)) .clo rfl rfl tyS_30 ⟨_,rfl,rfl⟩ (by decide) rfl rfl rfl rfl (by decide) (fun _=>rfl) (by decide) rfl (by decide)) (((cdt updb_self).trans (cdf ((updb_ne rfl).trans (hn 2 rfl)))).trans rfl) rfl
     refine .cons _ _ _ _ _ ⟨rfl,[(5,.hd 1 (l5.map (c_I_Entry false)).length 0 (l5.map (c_I_Entry false)).length)],AllN.get rfl (.cons rfl .nil),fun b hd hn hk hc=>?_⟩ ?_
     ·cases e0 : b 0
      ·exact ops_at (cdf e0) rfl (o_move rfl rfl) (cdf ((updb_ne rfl).trans e0)) rfl
      ·exact ops_at ((cdt e0).trans (cdf (hn 2 rfl))) rfl (o_move rfl rfl) ((cdt ((updb_ne rfl).trans e0)).trans (cdf ((updb_ne rfl).trans (hn 2 rfl)))) rfl
     refine .cons _ _ _ _ _ ⟨rfl,[(17,.hd 3 (([] : List I_Entry).map (c_I_Entry false)).length 0 (([] : List I_Entry).map (c_I_Entry false)).length),(18,.hd 1 (l5.map (c_I_Entry false)).length 0 (l5.map (c_I_Entry false)).length)],AllN.get rfl (.cons rfl (.cons rfl .nil)),fun b hd hn hk hc=>?_⟩ ?_
     ·exact ops_at ((cdt (hd 0 rfl)).trans (cdf hk)) rfl (o_ap (f:=c_I_Entry false) (xs:=([] : List I_Entry)) (ys:=l5) rfl rfl tyE_30 rfl rfl rfl rfl (by decide) (src_own rfl (by decide) rfl) (fun _=>rfl) h16) ((((cdt ((updb_ne rfl).trans (hd 0 rfl))).trans (cdt updb_self)).trans (cdf ((updb_ne rfl).trans (hn 5 rfl)))).trans rfl) rfl
     refine .cons _ _ _ _ _ ⟨rfl,[(7,.bx 2 0)],AllN.get rfl (.cons rfl .nil),fun b hd hn hk hc=>?_⟩ ?_
     ·cases e0 : b 0
      ·cases e2 : b 2
       ·exact ops_at (cdf e0) rfl (o_loadBx rfl tyS_30 rfl rfl (nb rfl) rfl) (cdf ((updb_ne rfl).trans e0)) rfl
       ·exact absurd (hc 2 0 rfl rfl e2) (by rw [e0]; decide)
      ·cases e2 : b 2
       ·exact ops_at ((cdt e0).trans (cdf e2)) rfl (o_loadBx rfl tyS_30 rfl rfl (nb rfl) rfl) ((cdt ((updb_ne rfl).trans e0)).trans (cdf ((updb_ne rfl).trans e2))) rfl
       ·exact ops_at (((cdt e0).trans (cdt e2)).trans (cdf (hn 5 rfl))) rfl (o_loadBx rfl tyS_30 rfl rfl (nb rfl) rfl) (((cdt ((updb_ne rfl).trans e0)).trans (cdt ((updb_ne rfl).trans e2))).trans (cdf ((updb_ne rfl).trans (hn 5 rfl)))) rfl
     refine .cons _ _ _ _ _ ⟨rfl,[(20,.agg (c_I_Entry false r12))],AllN.get rfl (.cons rfl .nil),fun b hd hn hk hc=>?_⟩ ?_
     ·cases e0 : b 0
      ·cases e2 : b 2
       ·exact ops_at (cdf e0) rfl (o_sliceIm (rows:=([r12] : List I_Entry).map (c_I_Entry false)) rfl rfl tyS_30 ⟨_,rfl,rfl⟩ (by decide) rfl rfl rfl rfl rfl rfl) (cdf ((updb_ne rfl).trans e0)) rfl
       ·exact absurd (hc 2 0 rfl rfl e2) (by rw [e0]; decide)
      ·cases e2 : b 2
       ·exact ops_at ((cdt e0).trans (cdf e2)) rfl (o_sliceIm (rows:=([r12] : List I_Entry).map (c_I_Entry false)) rfl rfl tyS_30 ⟨_,rfl,rfl⟩ (by decide) rfl rfl rfl rfl rfl rfl) ((cdt ((updb_ne rfl).trans e0)).trans (cdf ((updb_ne rfl).trans e2))) rfl
       ·exact ops_at (((cdt e0).trans (cdt e2)).trans (cdf (hn 5 rfl))) rfl (o_sliceIm (rows:=([r12] : List I_Entry).map (c_I_Entry false)) rfl rfl tyS_30 ⟨_,rfl,rfl⟩ (by decide) rfl rfl rfl rfl rfl rfl) (((cdt ((updb_ne rfl).trans e0)).trans (cdt ((updb_ne rfl).trans e2))).trans (cdf ((updb_ne rfl).trans (hn 5 rfl)))) rfl
     refine .cons _ _ _ _ _ ⟨rfl,[(19,.hd 3 (l15.map (c_I_Entry false)).length 0 (l15.map (c_I_Entry false)).length),(21,.im false (([r12] : List I_Entry).map (c_I_Entry false)))],AllN.get rfl (.cons rfl (.cons rfl .nil)),fun b hd hn hk hc=>?_⟩ ?_
     ·exact ops_at (((cdt (hd 0 rfl)).trans (cdt (hd 2 rfl))).trans (cdf hk)) rfl (o_ap (f:=c_I_Entry false) (xs:=l15) (ys:=([r12] : List I_Entry)) rfl rfl tyE_30 rfl rfl rfl rfl (by decide) rfl (fun _=>rfl) h18) (((((cdt ((updb_ne rfl).trans (hd 0 rfl))).trans (cdt ((updb_ne rfl).trans (hd 2 rfl)))).trans (cdt updb_self)).trans (cdf ((updb_ne rfl).trans (hn 9 rfl)))).trans rfl) rfl
     refine .cons _ _ _ _ _ ⟨rfl,[(22,.hd 3 (l17.map (c_I_Entry false)).length 0 (l17.map (c_I_Entry false)).length)],AllN.get rfl (.cons rfl .nil),fun b hd hn hk hc=>?_⟩ ?_
     ·exact ops_at ((((cdt (hd 0 rfl)).trans (cdt (hd 2 rfl))).trans (cdt (hd 5 rfl))).trans (cdf (hn 9 rfl))) rfl (o_callP rfl en_48 rfl rfl (.cons _ _ _ _ (.own rfl (by decide) rfl) .nil) (spec_l3Unlike_p true h20)) ((((cdt ((updb_ne rfl).trans (hd 0 rfl))).trans (cdt ((updb_ne rfl).trans (hd 2 rfl)))).trans (cdt ((updb_ne rfl).trans (hd 5 rfl)))).trans (cdf ((updb_ne rfl).trans (hn 9 rfl)))) rfl
     refine .cons _ _ _ _ _ ⟨rfl,[(23,.bool r19)],AllN.get rfl (.cons rfl .nil),fun b hd hn hk hc=>?_⟩ ?_
     ·exact ops_at ((((cdt (hd 0 rfl)).trans (cdt (hd 2 rfl))).trans (cdt (hd 5 rfl))).trans (cdf (hn 9 rfl))) rfl (o_move rfl rfl) ((((cdt ((updb_ne rfl).trans (hd 0 rfl))).trans (cdt ((updb_ne rfl).trans (hd 2 rfl)))).trans (cdt ((updb_ne rfl).trans (hd 5 rfl)))).trans (cdf ((updb_ne rfl).trans (hn 9 rfl)))) rfl
     refine .cons _ _ _ _ _ ⟨rfl,[(0,.bx 0 0),(24,.bool r19)],AllN.get rfl (.cons rfl (.cons rfl .nil)),fun b hd hn hk hc=>?_⟩ ?_
     ·exact ops_atG ((((cdt (hd 0 rfl)).trans (cdt (hd 2 rfl))).trans (cdt (hd 5 rfl))).trans (cdf (hn 9 rfl))) rfl rfl rfl (.bool _) (fun h=>o_move rfl rfl) ((((cdt ((updb_ne rfl).trans (hd 0 rfl))).trans (cdt ((updb_ne rfl).trans (hd 2 rfl)))).trans (cdt ((updb_ne rfl).trans (hd 5 rfl)))).trans (cdf ((updb_ne rfl).trans (hn 9 rfl)))) (fun _=>rfl) rfl
     refine .cons _ _ _ _ _ ⟨rfl,[(24,.bool r19),(25,Gd (!r19) (.bx 0 0))],AllN.get rfl (.cons rfl (.cons rfl .nil)),fun b hd hn hk hc=>?_⟩ ?_
     ·exact ops_atG ((((cdt (hd 0 rfl)).trans (cdt (hd 2 rfl))).trans (cdt (hd 5 rfl))).trans (cdf hk)) rfl rfl rfl (.bool _) (fun h=>o_callS [0] rfl en_41 rfl (evl_2 (gv h rfl) rfl) (spec_l1Cur_one_p c0 (cond_t h h23)) rfl (by decide) (.cons _ _ _ _ rfl .nil) rfl rfl rfl) (((((cdt ((updb_ne rfl).trans (hd 0 rfl))).trans (cdt ((updb_ne rfl).trans (hd 2 rfl)))).trans (cdt ((updb_ne rfl).trans (hd 5 rfl)))).trans (cdt updb_self)).trans rfl) (fun h=>by cases cond_f h h23; rfl) rfl
     refine .cons _ _ _ _ _ ⟨rfl,[(24,.bool r19),(26,Gd (!r19) (.bool r21))],AllN.get rfl (.cons rfl (.cons rfl .nil)),fun b hd hn hk hc=>?_⟩ ?_
     ·exact ops_at ((((cdt (hd 0 rfl)).trans (cdt (hd 2 rfl))).trans (cdt (hd 5 rfl))).trans (cdt (hd 9 rfl))) rfl (o_or rfl rfl rfl rfl (fun k=>Gd_t k)) ((((cdt ((updb_ne rfl).trans (hd 0 rfl))).trans (cdt ((updb_ne rfl).trans (hd 2 rfl)))).trans (cdt ((updb_ne rfl).trans (hd 5 rfl)))).trans (cdt ((updb_ne rfl).trans (hd 9 rfl)))) rfl
     exact .nil _
    ·intro b b' h; simp only [h 0 (by decide),h 2 (by decide),h 5 (by decide),h 9 (by decide)]
    refine thn_normal ?_
    refine T.conv (Cs.eqS (σ':=[.box (c_T_spec_l1Cur c0 o22),_,_,.arr .clo 2 (l17.map (c_I_Entry false))]) rfl) ?_
    refine T.cH H ?_ ?_<;>intro H h
    ·refine au 3 ?_
     refine TL.st rfl rfl rfl (o_sliceIm (rows:=([r12] : List I_Entry).map (c_I_Entry false)) rfl rfl tyS_30 ⟨_,rfl,rfl⟩ (by decide) rfl rfl rfl rfl rfl rfl) ?_
     obtain ⟨l24,h25,H⟩:=bind_s H
     refine TL.st rfl rfl rfl (o_ap (f:=c_I_Entry false) (xs:=l5) (ys:=([r12] : List I_Entry)) rfl rfl tyE_30 rfl rfl rfl rfl (by decide) rfl (fun _=>rfl) h25) ?_
     refine au 2 ?_
     refine inB_normal ?_
     exact Pk.of (thn_normal ⟨o22,l24,rfl,rfl,H⟩)
    ·refine T.skip ?_
     refine inB_normal ?_
     exact Pk.of (thn_normal ⟨o22,l5,rfl,rfl,H⟩)
   ·rintro _ _ ⟨b10,l11,rfl,rfl,H⟩
    refine au 5 ?_
    exact Pk.of (thn_normal ⟨(b10,l11,(IntKind.i64.wrap (v6 - 1))),(some_i H).symm,rfl,rfl⟩)
  ·refine T.exit ?_
   refine thn_exit ?_
   exact Pk.of (thn_exit ⟨(b4,l5),(some_i H).symm,rfl,rfl,rfl⟩)
 ·rcases q26 with ⟨b7,l8⟩
  rintro _ _ _ ⟨rfl,rfl,rfl⟩
  refine inB_here ?_
  refine au 5 ?_
  refine T.conv (Cs.frzOwn (t:=4) rfl rfl rfl) ?_
  refine T.ret ?_
  cases some_i H
  exact ⟨trivial,_,(.tmp _ _ _ _ rfl .nil),⟨rfl,_,rfl⟩⟩
theorem en_39 : En Tryz.prog 39:=.of Tryz.func39 rfl rfl
theorem tyS_77 : TyS Tryz.prog 77 true 4:=⟨rfl,rfl⟩
theorem en_29 : En Tryz.prog 29:=.of Tryz.func29 rfl rfl
theorem tyE_77 : TyE Tryz.prog 77 4:=⟨_,_,rfl,rfl,rfl,rfl,by decide,by decide⟩
noncomputable def spec_l1Cur_filterOf_l1 (a0 : Int) (rec_spec_l1Cur_filterOf : (Int × T_spec_l1Cur) → Option ((List I_FilterNode) × T_spec_l1Cur)) (r6 : Int) : (T_spec_l1Cur × List I_FilterNode × Int) → Option ((T_spec_l1Cur × List I_FilterNode × Int) ⊕ (T_spec_l1Cur × List I_FilterNode)):=fun s=>match s with
  | (b9,l10,v11)=>cond (decide (v11 < r6)) ((rec_spec_l1Cur_filterOf ((IntKind.i64.wrap (a0 - 1)),b9)).bind fun q=>(match q with | (r15,o16)=>(app l10 r15).bind fun l18=>some (.inl (o16,l18,(IntKind.i64.wrap (v11 + 1)))))) (some (.inr (b9,l10)))
noncomputable def spec_l1Cur_filterOf_j4 (v4 : Int) (r27 : ByteArray) (o31 : T_spec_l1Cur) (v33 : ByteArray) (v34 : Bool) : Option ((List I_FilterNode) × T_spec_l1Cur) :=
  cond v34 (some (([(⟨4,r27,v33,0⟩ : I_FilterNode)] : List I_FilterNode),o31)) (cond (v4 == 5) ((spec_l1Cur_pick 2 o31).bind fun q=>(match q with | (r35,o36)=>some (([(⟨(IntKind.i64.wrap (5 + r35)),r27,v33,0⟩ : I_FilterNode)] : List I_FilterNode),o36))) (cond (v4 == 6) (some (([(⟨7,r27,e0,0⟩ : I_FilterNode)] : List I_FilterNode),o31)) ((spec_l1Cur_of ([(ByteArray.mk #[97,42]),(ByteArray.mk #[42,110,42]),(ByteArray.mk #[42]),(ByteArray.mk #[97,92,42,98]),(ByteArray.mk #[66,42]),(ByteArray.mk #[40,120,41]),(ByteArray.mk #[126,116]),(ByteArray.mk #[97,110,110])] : List ByteArray) o31).bind fun q=>(match q with | (r38,o39)=>some (([(⟨8,r27,r38,0⟩ : I_FilterNode)] : List I_FilterNode),o39)))))
noncomputable def spec_l1Cur_filterOf_j3 (v4 : Int) (r27 : ByteArray) (o31 : T_spec_l1Cur) (v33 : ByteArray) : Option ((List I_FilterNode) × T_spec_l1Cur) :=
  cond (v4 == 3) (spec_l1Cur_filterOf_j4 v4 r27 o31 v33 (v4 == 3)) (spec_l1Cur_filterOf_j4 v4 r27 o31 v33 (v4 == 4))
noncomputable def spec_l1Cur_filterOf_j2 (a0 : Int) (rec_spec_l1Cur_filterOf : (Int × T_spec_l1Cur) → Option ((List I_FilterNode) × T_spec_l1Cur)) (o2 : T_spec_l1Cur) (v4 : Int) (v5 : Bool) : Option ((List I_FilterNode) × T_spec_l1Cur) :=
  cond v5 ((spec_l1Cur_pick 4 o2).bind fun q=>(match q with | (r6,o7)=>(loopO (spec_l1Cur_filterOf_l1 a0 rec_spec_l1Cur_filterOf r6) (o7,([(⟨(IntKind.i64.wrap (1 + v4)),e0,e0,r6⟩ : I_FilterNode)] : List I_FilterNode),0)).bind fun q20=>(match q20 with | (b12,l13)=>some (l13,b12)))) (cond (v4 == 2) ((rec_spec_l1Cur_filterOf ((IntKind.i64.wrap (a0 - 1)),o2)).bind fun q=>(match q with | (r22,o23)=>(app ([(⟨3,e0,e0,1⟩ : I_FilterNode)] : List I_FilterNode) r22).bind fun l25=>some (l25,o23))) ((spec_l1Cur_of ([(ByteArray.mk #[97,103,101]),(ByteArray.mk #[98,111,115,115]),(ByteArray.mk #[99,108,97,115,115]),(ByteArray.mk #[99,110]),(ByteArray.mk #[109,97,105,108]),(ByteArray.mk #[109,101,109,98,101,114]),(ByteArray.mk #[111,117]),(ByteArray.mk #[110,111,115,117,99,104])] : List ByteArray) o2).bind fun q=>(match q with | (r27,o28)=>(spec_l1Cur_attrText r27 o28).bind fun q=>(match q with | (r30,o31)=>cond (r30.toList == e0.toList) (spec_l1Cur_filterOf_j3 v4 r27 o31 (ByteArray.mk #[42])) (spec_l1Cur_filterOf_j3 v4 r27 o31 r30)))))
noncomputable def spec_l1Cur_filterOf_j1 (a0 : Int) (rec_spec_l1Cur_filterOf : (Int × T_spec_l1Cur) → Option ((List I_FilterNode) × T_spec_l1Cur)) (o2 : T_spec_l1Cur) (v4 : Int) : Option ((List I_FilterNode) × T_spec_l1Cur) :=
  cond (v4 == 0) (spec_l1Cur_filterOf_j2 a0 rec_spec_l1Cur_filterOf o2 v4 (v4 == 0)) (spec_l1Cur_filterOf_j2 a0 rec_spec_l1Cur_filterOf o2 v4 (v4 == 1))
noncomputable def spec_l1Cur_filterOf_b (rec_spec_l1Cur_filterOf : (Int × T_spec_l1Cur) → Option ((List I_FilterNode) × T_spec_l1Cur)) (a0 : Int) (s0 : T_spec_l1Cur) : Option ((List I_FilterNode) × T_spec_l1Cur) :=
  (spec_l1Cur_pick 9 s0).bind fun q=>(match q with | (r1,o2)=>cond ((a0 == 0) && decide (r1 < 3)) (spec_l1Cur_filterOf_j1 a0 rec_spec_l1Cur_filterOf o2 3) (spec_l1Cur_filterOf_j1 a0 rec_spec_l1Cur_filterOf o2 r1))
noncomputable def spec_l1Cur_filterOf (a0 : Int) (s0 : T_spec_l1Cur) : Option ((List I_FilterNode) × T_spec_l1Cur):=fixO (fun rec_spec_l1Cur_filterOf x=>match x with | (a0,s0)=>spec_l1Cur_filterOf_b rec_spec_l1Cur_filterOf a0 s0) (a0,s0)
theorem spec_l1Cur_filterOf_pb {rec_spec_l1Cur_filterOf : (Int × T_spec_l1Cur) → Option ((List I_FilterNode) × T_spec_l1Cur)} (Hrec_spec_l1Cur_filterOf : ∀ (c0 : Bool) {a0 : Int} {s0 : T_spec_l1Cur} {R0 : (List I_FilterNode)} {U0 : T_spec_l1Cur}, rec_spec_l1Cur_filterOf (a0, s0) = some (R0, U0) → St Tryz.prog 29 [.bx 0 0, .int .i64 a0] [.box (c_T_spec_l1Cur c0 s0)] (.im false (R0.map (c_I_FilterNode false))) [.box (c_T_spec_l1Cur c0 U0)]) (c0 : Bool) {a0 : Int} {s0 : T_spec_l1Cur} {R0 : (List I_FilterNode)} {U0 : T_spec_l1Cur} (H : spec_l1Cur_filterOf_b rec_spec_l1Cur_filterOf a0 s0 = some (R0, U0)) : St Tryz.prog 29 [.bx 0 0, .int .i64 a0] [.box (c_T_spec_l1Cur c0 s0)] (.im false (R0.map (c_I_FilterNode false))) [.box (c_T_spec_l1Cur c0 U0)] := by
 refine CallT.fin (CallT.of_TN (n:=87) Tryz.func29 rfl rfl rfl rfl ?_) rfl rfl ⟨(bels_iff.1 rfl),trivial⟩
 refine au 7 ?_
 obtain ⟨⟨r1,o2⟩,h3,H⟩:=bind_s H
 refine TL.st rfl rfl rfl (o_callS [0] rfl en_42 rfl rfl (spec_l1Cur_pick_p c0 h3) rfl (by decide) (.cons _ _ _ _ rfl .nil) rfl rfl rfl) ?_
 refine au 2 ?_
 refine T.cut (fun fr' σ'=>∃ (v4 : Int),fr' = [(0,.bx 0 0),(1,.int .i64 a0),(5,.int .i64 v4)] ∧ σ' = [.box (c_T_spec_l1Cur c0 o2)] ∧ spec_l1Cur_filterOf_j1 a0 rec_spec_l1Cur_filterOf o2 v4 = some (R0,U0)) (T.pk ?_) ?_
 ·skip
  refine au 9 ?_
  refine T.cH H ?_ ?_<;>intro H h
  ·refine au 3 ?_
   exact Pk.of (thn_normal ⟨3,rfl,rfl,H⟩)
  ·refine T.skip ?_
   exact Pk.of (thn_normal ⟨r1,rfl,rfl,H⟩)
 ·rintro _ _ ⟨v4, rfl, rfl, H⟩
  refine au 6 ?_
  refine T.cut (fun fr' σ'=>∃ (v5 : Bool),fr' = [(0,.bx 0 0),(1,.int .i64 a0),(5,.int .i64 v4),(19,.int .i64 v4),(20,.bool v5)] ∧ σ' = [.box (c_T_spec_l1Cur c0 o2)] ∧ spec_l1Cur_filterOf_j2 a0 rec_spec_l1Cur_filterOf o2 v4 v5 = some (R0,U0)) (T.pk ?_) ?_
  ·skip
   refine au 5 ?_
   refine T.cH H ?_ ?_<;>intro H h
   ·refine T.skip ?_
    exact Pk.of (thn_normal ⟨(v4 == 0),rfl,rfl,H⟩)
   ·refine au 4 ?_
    exact Pk.of (thn_normal ⟨(v4 == 1),rfl,rfl,H⟩)
  ·rintro _ _ ⟨v5, rfl, rfl, H⟩
   refine T.cH H ?_ ?_<;>intro H h
   ·refine au 3 ?_
    obtain ⟨⟨r6,o7⟩,h8,H⟩:=bind_s H
    refine TL.st rfl rfl rfl (o_callS [0] rfl en_42 rfl rfl (spec_l1Cur_pick_p c0 h8) rfl (by decide) (.cons _ _ _ _ rfl .nil) rfl rfl rfl) ?_
    refine au 8 ?_
    refine TL.st rfl rfl rfl (o_sliceHd (rows:=([(⟨(IntKind.i64.wrap (1 + v4)),e0,e0,r6⟩ : I_FilterNode)] : List I_FilterNode).map (c_I_FilterNode false)) .clo rfl rfl tyS_77 ⟨_,rfl,rfl⟩ (by decide) rfl rfl rfl rfl (by decide) (fun _=>rfl) (by decide) rfl (by decide)) ?_
    refine au 8 ?_
    obtain ⟨q20,h21,H⟩:=bind_s H
    refine T.lq (fun s=>match s with | (b9,l10,v11)=>[(0,.bx 0 0),(1,.int .i64 a0),(6,.int .i64 r6),(7,.hd 1 (l10.map (c_I_FilterNode false)).length 0 (l10.map (c_I_FilterNode false)).length),(8,.int .i64 v11)]) (fun s=>match s with | (b9,l10,v11)=>[.box (c_T_spec_l1Cur c0 b9),.arr .clo 4 (l10.map (c_I_FilterNode false))]) (fun q ex fr σ=>match q with | (b12,l13)=>ex = .exit 1 ∧ fr = [(7,.hd 1 (l13.map (c_I_FilterNode false)).length 0 (l13.map (c_I_FilterNode false)).length)] ∧ σ = [.box (c_T_spec_l1Cur c0 b12),.arr .clo 4 (l13.map (c_I_FilterNode false))]) h21 ?_ ?_
    ·rintro ⟨b9,l10,v11⟩ y14 H
     refine au 7 ?_
     refine T.cH H ?_ ?_<;>intro H h
     ·refine au 8 ?_
      obtain ⟨⟨r15,o16⟩,h17,H⟩:=bind_s H
      refine TL.st rfl rfl rfl (o_callS [0] rfl en_29 rfl rfl (Hrec_spec_l1Cur_filterOf c0 h17) rfl (by decide) (.cons _ _ _ _ rfl .nil) rfl rfl rfl) ?_
      obtain ⟨l18,h19,H⟩:=bind_s H
      refine TL.st rfl rfl rfl (o_ap (f:=c_I_FilterNode false) (xs:=l10) (ys:=r15) rfl rfl tyE_77 rfl rfl rfl rfl (by decide) rfl (fun _=>rfl) h19) ?_
      refine au 7 ?_
      exact Pk.of (thn_normal ⟨(o16,l18,(IntKind.i64.wrap (v11 + 1))),(some_i H).symm,rfl,rfl⟩)
     ·refine T.exit ?_
      refine thn_exit ?_
      exact Pk.of (thn_exit ⟨(b9,l10),(some_i H).symm,rfl,rfl,rfl⟩)
    ·rcases q20 with ⟨b12,l13⟩
     rintro _ _ _ ⟨rfl,rfl,rfl⟩
     refine inB_here ?_
     refine au 5 ?_
     refine T.conv (Cs.frzOwn (t:=4) rfl rfl rfl) ?_
     refine T.ret ?_
     refine inB_ret (thn_ret ?_)
     cases some_i H
     exact ⟨trivial,_,(.tmp _ _ _ _ rfl .nil),⟨rfl,_,rfl⟩⟩
   ·refine au 5 ?_
    refine T.cH H ?_ ?_<;>intro H h
    ·refine au 3 ?_
     refine TL.st rfl rfl rfl (o_sliceHd (rows:=([(⟨3,e0,e0,1⟩ : I_FilterNode)] : List I_FilterNode).map (c_I_FilterNode false)) .clo rfl rfl tyS_77 ⟨_,rfl,rfl⟩ (by decide) rfl rfl rfl rfl (by decide) (fun _=>rfl) (by decide) rfl (by decide)) ?_
     refine au 3 ?_
     obtain ⟨⟨r22,o23⟩,h24,H⟩:=bind_s H
     refine TL.st rfl rfl rfl (o_callS [0] rfl en_29 rfl rfl (Hrec_spec_l1Cur_filterOf c0 h24) rfl (by decide) (.cons _ _ _ _ rfl .nil) rfl rfl rfl) ?_
     obtain ⟨l25,h26,H⟩:=bind_s H
     refine TL.st rfl rfl rfl (o_ap (f:=c_I_FilterNode false) (xs:=([(⟨3,e0,e0,1⟩ : I_FilterNode)] : List I_FilterNode)) (ys:=r22) rfl rfl tyE_77 rfl rfl rfl rfl (by decide) rfl (fun _=>rfl) h26) ?_
     refine au 2 ?_
     refine T.conv (Cs.eqS (σ':=[.box (c_T_spec_l1Cur c0 o23),.arr .clo 4 (l25.map (c_I_FilterNode false))]) rfl) ?_
     refine T.conv (Cs.frzOwn (t:=4) rfl rfl rfl) ?_
     refine T.ret ?_
     refine inB_ret (thn_ret ?_)
     cases some_i H
     exact ⟨trivial,_,(.tmp _ _ _ _ rfl .nil),⟨rfl,_,rfl⟩⟩
    ·refine au 4 ?_
     refine TL.st rfl rfl rfl (o_sliceIm (rows:=([(ByteArray.mk #[97,103,101]),(ByteArray.mk #[98,111,115,115]),(ByteArray.mk #[99,108,97,115,115]),(ByteArray.mk #[99,110]),(ByteArray.mk #[109,97,105,108]),(ByteArray.mk #[109,101,109,98,101,114]),(ByteArray.mk #[111,117]),(ByteArray.mk #[110,111,115,117,99,104])] : List ByteArray).map (c_str)) rfl rfl tyS_9 ⟨_,rfl,rfl⟩ (by decide) rfl rfl rfl rfl rfl rfl) ?_
     obtain ⟨⟨r27,o28⟩,h29,H⟩:=bind_s H
     refine TL.st rfl rfl rfl (o_callS [0] rfl en_43 rfl rfl (spec_l1Cur_of_p false c0 h29) rfl (by decide) (.cons _ _ _ _ rfl .nil) rfl rfl rfl) ?_
     refine au 6 ?_
     obtain ⟨⟨r30,o31⟩,h32,H⟩:=bind_s H
     refine TL.st rfl rfl rfl (o_callS [0] rfl en_67 rfl rfl (spec_l1Cur_attrText_p c0 h32) rfl (by decide) (.cons _ _ _ _ rfl .nil) rfl rfl rfl) ?_
     refine au 2 ?_
     refine T.cut (fun fr' σ'=>∃ (v33 : ByteArray),fr' = [(0,.bx 0 0),(5,.int .i64 v4),(9,.str r27),(10,.str v33)] ∧ σ' = [.box (c_T_spec_l1Cur c0 o31)] ∧ spec_l1Cur_filterOf_j3 v4 r27 o31 v33 = some (R0,U0)) (T.pk ?_) ?_
     ·skip
      refine au 5 ?_
      refine T.cH H ?_ ?_<;>intro H h
      ·refine au 3 ?_
       exact Pk.of (thn_normal ⟨(ByteArray.mk #[42]),rfl,rfl,H⟩)
      ·refine T.skip ?_
       exact Pk.of (thn_normal ⟨r30,rfl,rfl,H⟩)
     ·rintro _ _ ⟨v33,rfl,rfl,H⟩
      refine au 6 ?_
      refine T.cut (fun fr' σ'=>∃ (v34 : Bool),fr' = [(0,.bx 0 0),(9,.str r27),(10,.str v33),(59,.int .i64 v4),(60,.bool v34)] ∧ σ' = [.box (c_T_spec_l1Cur c0 o31)] ∧ spec_l1Cur_filterOf_j4 v4 r27 o31 v33 v34 = some (R0,U0)) (T.pk ?_) ?_
      ·skip
       refine au 5 ?_
       refine T.cH H ?_ ?_<;>intro H h
       ·refine T.skip ?_
        exact Pk.of (thn_normal ⟨(v4 == 3),rfl,rfl,H⟩)
       ·refine au 4 ?_
        exact Pk.of (thn_normal ⟨(v4 == 4),rfl,rfl,H⟩)
      ·rintro _ _ ⟨v34,rfl,rfl,H⟩
       refine T.cH H ?_ ?_<;>intro H h
       ·refine au 5 ?_
        refine TL.st rfl rfl rfl (o_sliceIm (rows:=([(⟨4,r27,v33,0⟩ : I_FilterNode)] : List I_FilterNode).map (c_I_FilterNode false)) rfl rfl tyS_77 ⟨_,rfl,rfl⟩ (by decide) rfl rfl rfl rfl rfl rfl) ?_
        refine au 3 ?_
        refine inB_ret (thn_ret ?_)
        cases some_i H
        exact ⟨trivial,_,(.tmp _ _ _ _ rfl .nil),⟨rfl,_,rfl⟩⟩
       ·refine au 5 ?_
        refine T.cH H ?_ ?_<;>intro H h
        ·refine au 3 ?_
         obtain ⟨⟨r35,o36⟩,h37,H⟩:=bind_s H
         refine TL.st rfl rfl rfl (o_callS [0] rfl en_42 rfl rfl (spec_l1Cur_pick_p c0 h37) rfl (by decide) (.cons _ _ _ _ rfl .nil) rfl rfl rfl) ?_
         refine au 4 ?_
         refine TL.st rfl rfl rfl (o_sliceIm (rows:=([(⟨(IntKind.i64.wrap (5 + r35)),r27,v33,0⟩ : I_FilterNode)] : List I_FilterNode).map (c_I_FilterNode false)) rfl rfl tyS_77 ⟨_,rfl,rfl⟩ (by decide) rfl rfl rfl rfl rfl rfl) ?_
         refine au 3 ?_
         refine inB_ret (thn_ret ?_)
         cases some_i H
         exact ⟨trivial,_,(.tmp _ _ _ _ rfl .nil),⟨rfl,_,rfl⟩⟩
        ·refine au 5 ?_
         refine T.cH H ?_ ?_<;>intro H h
         ·refine au 4 ?_
          refine TL.st rfl rfl rfl (o_sliceIm (rows:=([(⟨7,r27,e0,0⟩ : I_FilterNode)] : List I_FilterNode).map (c_I_FilterNode false)) rfl rfl tyS_77 ⟨_,rfl,rfl⟩ (by decide) rfl rfl rfl rfl rfl rfl) ?_
          refine au 3 ?_
          refine inB_ret (thn_ret ?_)
          cases some_i H
          exact ⟨trivial,_,(.tmp _ _ _ _ rfl .nil),⟨rfl,_,rfl⟩⟩
         ·refine au 5 ?_
          refine TL.st rfl rfl rfl (o_sliceIm (rows:=([(ByteArray.mk #[97,42]),(ByteArray.mk #[42,110,42]),(ByteArray.mk #[42]),(ByteArray.mk #[97,92,42,98]),(ByteArray.mk #[66,42]),(ByteArray.mk #[40,120,41]),(ByteArray.mk #[126,116]),(ByteArray.mk #[97,110,110])] : List ByteArray).map (c_str)) rfl rfl tyS_9 ⟨_,rfl,rfl⟩ (by decide) rfl rfl rfl rfl rfl rfl) ?_
          obtain ⟨⟨r38,o39⟩,h40,H⟩:=bind_s H
          refine TL.st rfl rfl rfl (o_callS [0] rfl en_43 rfl rfl (spec_l1Cur_of_p false c0 h40) rfl (by decide) (.cons _ _ _ _ rfl .nil) rfl rfl rfl) ?_
          refine TL.st rfl rfl rfl (o_build rfl ⟨_,fun _=>rfl,rfl⟩ rfl rfl rfl) ?_
          refine TL.st rfl rfl rfl (o_sliceIm (rows:=([(⟨8,r27,r38,0⟩ : I_FilterNode)] : List I_FilterNode).map (c_I_FilterNode false)) rfl rfl tyS_77 ⟨_,rfl,rfl⟩ (by decide) rfl rfl rfl rfl rfl rfl) ?_
          refine au 3 ?_
          cases some_i H
          exact ⟨trivial,_,(.tmp _ _ _ _ rfl .nil),⟨rfl,_,rfl⟩⟩
theorem spec_l1Cur_filterOf_p (c0 : Bool) {a0 : Int} {s0 : T_spec_l1Cur} {R0 : (List I_FilterNode)} {U0 : T_spec_l1Cur} (H : spec_l1Cur_filterOf a0 s0 = some (R0,U0)) : St Tryz.prog 29 [.bx 0 0,.int .i64 a0] [.box (c_T_spec_l1Cur c0 s0)] (.im false (R0.map (c_I_FilterNode false))) [.box (c_T_spec_l1Cur c0 U0)] :=
 fixO_ind (fun x r=>match x,r with | (a0,s0),(R0,U0)=>∀ (c0 : Bool),St Tryz.prog 29 [.bx 0 0,.int .i64 a0] [.box (c_T_spec_l1Cur c0 s0)] (.im false (R0.map (c_I_FilterNode false))) [.box (c_T_spec_l1Cur c0 U0)]) (fun rec_spec_l1Cur_filterOf Hrec x r h=>match x,r,h with | (a0,s0),(R0,U0),h=>fun c0=>spec_l1Cur_filterOf_pb (fun c0 {a0} {s0} {R0} {U0} h=>Hrec (a0,s0) (R0,U0) h c0) c0 h) H c0
noncomputable def spec_DrawSearch_j2 (r4 : I_DirSchema) (r7 : (List I_Entry)) (l18 : List I_Part) (b23 : T_spec_l1Cur) (v24 : (List I_FilterNode)) : Option (I_DirSchema × (List I_Entry) × (List I_Part) × Int × (List I_FilterNode)) :=
  (spec_l1Cur_pick 5 b23).bind fun q=>(match q with | (r25,o26)=>(spec_l1Cur_pick 5 o26).bind fun q=>(match q with | (r28,o29)=>(idx ([3,2,1,3,r25] : List Int) r28).bind fun e31=>some (r4,r7,l18,e31,v24)))
noncomputable def spec_DrawSearch_j1 (r4 : I_DirSchema) (r7 : (List I_Entry)) (b13 : T_spec_l1Cur) (v14 : (List I_Part)) : Option (I_DirSchema × (List I_Entry) × (List I_Part) × Int × (List I_FilterNode)) :=
  (spec_l1Cur_pick (v14.length : Int) b13).bind fun q=>(match q with | (r15,o16)=>(sub v14 r15 (v14.length : Int)).bind fun l18=>(spec_l1Cur_filterOf 2 o16).bind fun q=>(match q with | (r20,o21)=>(spec_l1Cur_one 3 o21).bind fun q=>(match q with | (r33,o34)=>cond (!r33) ((spec_l1Cur_of ([(ByteArray.mk #[99,108,97,115,115]),(ByteArray.mk #[99,110])] : List ByteArray) o34).bind fun q=>(match q with | (r36,o37)=>spec_DrawSearch_j2 r4 r7 l18 o37 ([(⟨7,r36,e0,0⟩ : I_FilterNode)] : List I_FilterNode))) (spec_DrawSearch_j2 r4 r7 l18 o34 r20))))
noncomputable def spec_DrawSearch (a0 : (List Int)) : Option (I_DirSchema × (List I_Entry) × (List I_Part) × Int × (List I_FilterNode)) :=
  (spec_l1Cur_dirSchema (⟨a0,0,0⟩ : T_spec_l1Cur)).bind fun q=>(match q with | (r1,o2)=>(spec_l1Cur_oddDirSchemax r1 o2).bind fun q=>(match q with | (r4,o5)=>(spec_l1Cur_entries 12 o5).bind fun q=>(match q with | (r7,o8)=>(spec_l1Cur_dirName o8).bind fun q=>(match q with | (r10,o11)=>(cond (decide ((r7.length : Int) > 0)) (spec_l1Cur_one 4 o11) (some (default,o11))).bind fun q=>(match q with | (r39,o40)=>cond (decide ((r7.length : Int) > 0) && (!r39)) ((spec_l1Cur_pick (r7.length : Int) o40).bind fun q=>(match q with | (r42,o43)=>(idx r7 r42).bind fun e45=>(app ([] : List I_Part) e45.Name_).bind fun l47=>spec_DrawSearch_j1 r4 r7 o43 l47)) (spec_DrawSearch_j1 r4 r7 o40 r10))))))
theorem spec_DrawSearch_p (b0 : Bool) {a0 : (List Int)} {R0 : I_DirSchema} {R1 : (List I_Entry)} {R2 : (List I_Part)} {R3 : Int} {R4 : (List I_FilterNode)} (H : spec_DrawSearch a0 = some (R0,R1,R2,R3,R4)) : Pure Tryz.prog 12 [.im b0 (a0.map (c_int .u8))] (.tup [.agg (c_I_DirSchema false R0),.im false (R1.map (c_I_Entry false)),.im false (R2.map (c_I_Part false)),.int .i64 R3,.im false (R4.map (c_I_FilterNode false))]):=by
 refine CallT.of_TN (n:=68) Tryz.func12 rfl rfl rfl rfl ?_
 refine au 19 ?_
 obtain ⟨⟨r1,o2⟩,h3,H⟩:=bind_s H
 refine TL.st rfl rfl rfl (o_callS [1] rfl en_25 rfl rfl (spec_l1Cur_dirSchema_o b0 h3) rfl (by decide) (.cons _ _ _ _ rfl .nil) rfl rfl rfl) ?_
 obtain ⟨⟨r4,o5⟩,h6,H⟩:=bind_s H
 refine TL.st rfl rfl rfl (o_callS [1,2,3] rfl en_24 rfl rfl (spec_l1Cur_oddDirSchemax_o b0 h6) rfl (by decide) (.cons _ _ _ _ rfl (.cons _ _ _ _ rfl (.cons _ _ _ _ rfl .nil))) rfl rfl rfl) ?_
 refine TL.st rfl rfl rfl (o_alloc rfl ⟨_,rfl,rfl⟩) ?_
 refine TL.sn rfl rfl (o_storeBx rfl tyS_26 rfl rfl rfl rfl (nb rfl) (sure_hd rfl rfl (sure_hd rfl rfl rfl))) ?_
 refine au 2 ?_
 refine T.conv (Cs.eqS (σ':=[.box [.nilS,.nilS],.box (c_T_spec_l1Cur b0 o5),.dead,.dead,.dead,.dead,.arr .clo 3 (r4.Types_.map (c_I_AttrType false)),.arr .clo 4 (r4.Classes_.map (c_I_Class false)),.box (k_impl_DirSchema 6 7 false r4)]) rfl) ?_
 refine au 2 ?_
 obtain ⟨⟨r7,o8⟩,h9,H⟩:=bind_s H
 refine TL.st rfl rfl rfl (o_callS [1] rfl en_39 rfl rfl (spec_l1Cur_entries_p b0 h9) rfl (by decide) (.cons _ _ _ _ rfl .nil) rfl rfl rfl) ?_
 refine au 5 ?_
 obtain ⟨⟨r10,o11⟩,h12,H⟩:=bind_s H
 refine TL.st rfl rfl rfl (o_callS [1] rfl en_40 rfl rfl (spec_l1Cur_dirName_p b0 h12) rfl (by decide) (.cons _ _ _ _ rfl .nil) rfl rfl rfl) ?_
 refine au 2 ?_
 refine T.cut (fun fr' σ'=>∃ (b13 : T_spec_l1Cur) (v14 : (List I_Part)),fr' = [(2,.bx 0 0),(7,.bx 1 0),(8,.bx 8 0),(9,.im false (r7.map (c_I_Entry false))),(10,.im false (v14.map (c_I_Part false)))] ∧ σ' = [.box [.nilS,.nilS],.box (c_T_spec_l1Cur b0 b13),.dead,.dead,.dead,.dead,.arr .clo 3 (r4.Types_.map (c_I_AttrType false)),.arr .clo 4 (r4.Classes_.map (c_I_Class false)),.box (k_impl_DirSchema 6 7 false r4)] ∧ spec_DrawSearch_j1 r4 r7 b13 v14 = some (R0,R1,R2,R3,R4)) (T.pk ?_) ?_
 ·skip
  refine au 3 ?_
  refine TL.st rfl rfl rfl (o_lenL (f:=c_I_Entry false) rfl rfl rfl) ?_
  refine au 3 ?_
  obtain ⟨⟨r39,o40⟩,h41,H⟩:=bind_s H
  refine TL.gc rfl rfl rfl (.bool _) rfl rfl (fun h=>o_callS [1] rfl en_41 rfl (evl_2 (gv h rfl) rfl) (spec_l1Cur_one_p b0 (cond_t h h41)) rfl (by decide) (.cons _ _ _ _ rfl .nil) rfl rfl rfl) (fun h=>by cases cond_f h h41; rfl) ?_
  refine au 3 ?_
  refine T.conv (Cs.eqS (σ':=[_,.box (c_T_spec_l1Cur b0 o40),_,_,_,_,_,_,_]) rfl) ?_
  refine T.cH H ?_ ?_<;>intro H h
  ·refine T.region ?_
   refine TL.st rfl rfl rfl (o_sliceHd (rows:=([] : List I_Part).map (c_I_Part false)) .clo rfl rfl tyS_96 ⟨_,rfl,rfl⟩ (by decide) rfl rfl rfl rfl (by decide) (fun _=>rfl) (by decide) rfl (by decide)) ?_
   refine au 3 ?_
   refine TL.st rfl rfl rfl (o_lenL (f:=c_I_Entry false) rfl rfl rfl) ?_
   obtain ⟨⟨r42,o43⟩,h44,H⟩:=bind_s H
   refine TL.st rfl rfl rfl (o_callS [1] rfl en_42 rfl rfl (spec_l1Cur_pick_p b0 h44) rfl (by decide) (.cons _ _ _ _ rfl .nil) rfl rfl rfl) ?_
   obtain ⟨e45,h46,H⟩:=bind_s H
   refine TL.st rfl rfl rfl (o_ix (f:=c_I_Entry false) rfl rfl tyS_30 rfl rfl h46 rfl) ?_
   refine TL.st rfl rfl rfl (o_fieldAddr rfl rfl rfl tyS_27 (by decide) rfl rfl trivial) ?_
   refine TL.st rfl rfl rfl (o_loadRf rfl tyS_27 rfl (nb rfl) rfl) ?_
   obtain ⟨l47,h48,H⟩:=bind_s H
   refine TL.st rfl rfl rfl (o_ap (f:=c_I_Part false) (xs:=([] : List I_Part)) (ys:=e45.Name_) rfl rfl tyE_96 rfl rfl rfl rfl (by decide) rfl (fun _=>rfl) h48) ?_
   refine TL.st rfl rfl rfl (o_assign rfl rfl) ?_
   refine TL.conv (Cs.frzOwn (t:=10) rfl rfl rfl) ?_
   refine TL.nil ?_
   exact Pk.of (thn_normal ⟨o43,l47,rfl,rfl,H⟩)
  ·refine T.skip ?_
   exact Pk.of (thn_normal ⟨o40,r10,rfl,rfl,H⟩)
 ·rintro _ _ ⟨b13,v14,rfl,rfl,H⟩
  refine au 5 ?_
  refine TL.st rfl rfl rfl (o_lenL (f:=c_I_Part false) rfl rfl rfl) ?_
  obtain ⟨⟨r15,o16⟩,h17,H⟩:=bind_s H
  refine TL.st rfl rfl rfl (o_callS [1] rfl en_42 rfl rfl (spec_l1Cur_pick_p b0 h17) rfl (by decide) (.cons _ _ _ _ rfl .nil) rfl rfl rfl) ?_
  obtain ⟨l18,h19,H⟩:=bind_s H
  refine TL.st rfl rfl rfl (o_subL (f:=c_I_Part false) (xs:=v14) rfl rfl tyS_96 rfl rfl rfl (fun _=>rfl) h19) ?_
  refine au 5 ?_
  obtain ⟨⟨r20,o21⟩,h22,H⟩:=bind_s H
  refine TL.st rfl rfl rfl (o_callS [1] rfl en_29 rfl rfl (spec_l1Cur_filterOf_p b0 h22) rfl (by decide) (.cons _ _ _ _ rfl .nil) rfl rfl rfl) ?_
  refine au 2 ?_
  refine T.cut (fun fr' σ'=>∃ (b23 : T_spec_l1Cur) (v24 : (List I_FilterNode)),fr' = [(2,.bx 0 0),(7,.bx 1 0),(8,.bx 8 0),(9,.im false (r7.map (c_I_Entry false))),(10,.im false (l18.map (c_I_Part false))),(11,.im false (v24.map (c_I_FilterNode false)))] ∧ σ' = [.box [.nilS,.nilS],.box (c_T_spec_l1Cur b0 b23),.dead,.dead,.dead,.dead,.arr .clo 3 (r4.Types_.map (c_I_AttrType false)),.arr .clo 4 (r4.Classes_.map (c_I_Class false)),.box (k_impl_DirSchema 6 7 false r4)] ∧ spec_DrawSearch_j2 r4 r7 l18 b23 v24 = some (R0,R1,R2,R3,R4)) (T.pk ?_) ?_
  ·skip
   refine au 3 ?_
   obtain ⟨⟨r33,o34⟩,h35,H⟩:=bind_s H
   refine TL.st rfl rfl rfl (o_callS [1] rfl en_41 rfl rfl (spec_l1Cur_one_p b0 h35) rfl (by decide) (.cons _ _ _ _ rfl .nil) rfl rfl rfl) ?_
   refine au 2 ?_
   refine T.conv (Cs.eqS (σ':=[_,.box (c_T_spec_l1Cur b0 o34),_,_,_,_,_,_,_]) rfl) ?_
   refine T.cH H ?_ ?_<;>intro H h
   ·refine au 2 ?_
    refine TL.st rfl rfl rfl (o_sliceIm (rows:=([(ByteArray.mk #[99,108,97,115,115]),(ByteArray.mk #[99,110])] : List ByteArray).map (c_str)) rfl rfl tyS_9 ⟨_,rfl,rfl⟩ (by decide) rfl rfl rfl rfl rfl rfl) ?_
    obtain ⟨⟨r36,o37⟩,h38,H⟩:=bind_s H
    refine TL.st rfl rfl rfl (o_callS [1] rfl en_43 rfl rfl (spec_l1Cur_of_p false b0 h38) rfl (by decide) (.cons _ _ _ _ rfl .nil) rfl rfl rfl) ?_
    refine TL.st rfl rfl rfl (o_build rfl ⟨_,fun _=>rfl,rfl⟩ rfl rfl rfl) ?_
    refine TL.st rfl rfl rfl (o_sliceIm (rows:=([(⟨7,r36,e0,0⟩ : I_FilterNode)] : List I_FilterNode).map (c_I_FilterNode false)) rfl rfl tyS_77 ⟨_,rfl,rfl⟩ (by decide) rfl rfl rfl rfl rfl rfl) ?_
    refine au 2 ?_
    exact Pk.of (thn_normal ⟨o37,([(⟨7,r36,e0,0⟩ : I_FilterNode)] : List I_FilterNode),rfl,rfl,H⟩)
   ·refine T.skip ?_
    exact Pk.of (thn_normal ⟨o34,r20,rfl,rfl,H⟩)
  ·rintro _ _ ⟨b23,v24,rfl,rfl,H⟩
   refine T.seq ?_
   obtain ⟨⟨r25,o26⟩,h27,H⟩:=bind_s H
   obtain ⟨⟨r28,o29⟩,h30,H⟩:=bind_s H
   obtain ⟨e31,h32,H⟩:=bind_s H
   refine T.drawS (fr':=[(2,.bx 0 0),(3,.im false (r7.map (c_I_Entry false))),(4,.im false (l18.map (c_I_Part false))),(5,.int .i64 e31),(6,.im false (v24.map (c_I_FilterNode false))),(7,.bx 1 0),(8,.bx 8 0),(9,.im false (r7.map (c_I_Entry false))),(10,.im false (l18.map (c_I_Part false))),(11,.im false (v24.map (c_I_FilterNode false))),(57,.agg [.hd 6 (r4.Types_.map (c_I_AttrType false)).length 0 (r4.Types_.map (c_I_AttrType false)).length,.hd 7 (r4.Classes_.map (c_I_Class false)).length 0 (r4.Classes_.map (c_I_Class false)).length]),(58,.im false (r7.map (c_I_Entry false))),(59,.im false (l18.map (c_I_Part false))),(60,.bx 1 0),(61,.int .i64 r25),(62,.im false (([3,2,1,3,r25] : List Int).map (c_int .i64))),(63,.bx 1 0),(64,.int .i64 r28),(66,.int .i64 e31),(67,.im false (v24.map (c_I_FilterNode false)))]) (R:=[⟨some 57,.agg [.hd 6 (r4.Types_.map (c_I_AttrType false)).length 0 (r4.Types_.map (c_I_AttrType false)).length,.hd 7 (r4.Classes_.map (c_I_Class false)).length 0 (r4.Classes_.map (c_I_Class false)).length],.q,[]⟩,⟨some 58,.im false (r7.map (c_I_Entry false)),.q,[]⟩,⟨some 59,.im false (l18.map (c_I_Part false)),.q,[]⟩,⟨some 60,.bx 1 0,.q,[]⟩,⟨some 61,.int .i64 r25,.q,[]⟩,⟨some 62,.im false (([3,2,1,3,r25] : List Int).map (c_int .i64)),.q,[]⟩,⟨some 63,.bx 1 0,.q,[]⟩,⟨some 64,.int .i64 r28,.q,[]⟩,⟨some 65,.rf false [.int .i64 e31],.q,[]⟩,⟨some 66,.int .i64 e31,.q,[]⟩,⟨some 67,.im false (v24.map (c_I_FilterNode false)),.q,[]⟩,⟨none,.any,.q,[]⟩,⟨some 3,.im false (r7.map (c_I_Entry false)),.q,[]⟩,⟨some 4,.im false (l18.map (c_I_Part false)),.q,[]⟩,⟨some 5,.int .i64 e31,.q,[]⟩,⟨some 6,.im false (v24.map (c_I_FilterNode false)),.q,[]⟩]) (fun b=>cond (b 4) (cond (b 7) (cond (b 11) ([.box (k_impl_DirSchema 6 7 false r4),.box (c_T_spec_l1Cur b0 o29),.dead,.dead,.dead,.dead,.arr .clo 3 (r4.Types_.map (c_I_AttrType false)),.arr .clo 4 (r4.Classes_.map (c_I_Class false)),.box (k_impl_DirSchema 6 7 false r4)]) ([.box [.nilS,.nilS],.box (c_T_spec_l1Cur b0 o29),.dead,.dead,.dead,.dead,.arr .clo 3 (r4.Types_.map (c_I_AttrType false)),.arr .clo 4 (r4.Classes_.map (c_I_Class false)),.box (k_impl_DirSchema 6 7 false r4)])) ([.box [.nilS,.nilS],.box (c_T_spec_l1Cur b0 o26),.dead,.dead,.dead,.dead,.arr .clo 3 (r4.Types_.map (c_I_AttrType false)),.arr .clo 4 (r4.Classes_.map (c_I_Class false)),.box (k_impl_DirSchema 6 7 false r4)])) ([.box [.nilS,.nilS],.box (c_T_spec_l1Cur b0 b23),.dead,.dead,.dead,.dead,.arr .clo 3 (r4.Types_.map (c_I_AttrType false)),.arr .clo 4 (r4.Classes_.map (c_I_Class false)),.box (k_impl_DirSchema 6 7 false r4)])) rfl ?_ ?_ rfl rfl (FrL.get (.cons rfl (.cons rfl (.cons rfl (.cons rfl (.cons rfl (.cons rfl (.cons rfl (.cons rfl (.cons rfl (.cons rfl (.cons rfl (.cons rfl (.cons rfl (.cons rfl (.cons rfl (.cons rfl (.cons rfl (.cons rfl (.cons rfl (.cons rfl .nil))))))))))))))))))))) ?_
   ·refine .cons _ _ _ _ _ ⟨rfl,[(8,.bx 8 0)],AllN.get rfl (.cons rfl .nil),fun b hd hn hk hc=>?_⟩ ?_
    ·cases e4 : b 4
     ·cases e7 : b 7
      ·exact ops_at (cdf e4) rfl (o_loadBx rfl tyS_26 rfl rfl (nb rfl) rfl) (cdf ((updb_ne rfl).trans e4)) rfl
      ·exact absurd (hc 7 4 rfl rfl e7) (by rw [e4]; decide)
     ·cases e7 : b 7
      ·exact ops_at ((cdt e4).trans (cdf e7)) rfl (o_loadBx rfl tyS_26 rfl rfl (nb rfl) rfl) ((cdt ((updb_ne rfl).trans e4)).trans (cdf ((updb_ne rfl).trans e7))) rfl
      ·exact ops_at (((cdt e4).trans (cdt e7)).trans (cdf (hn 11 rfl))) rfl (o_loadBx rfl tyS_26 rfl rfl (nb rfl) rfl) (((cdt ((updb_ne rfl).trans e4)).trans (cdt ((updb_ne rfl).trans e7))).trans (cdf ((updb_ne rfl).trans (hn 11 rfl)))) rfl
    refine .cons _ _ _ _ _ ⟨rfl,[(9,.im false (r7.map (c_I_Entry false)))],AllN.get rfl (.cons rfl .nil),fun b hd hn hk hc=>?_⟩ ?_
    ·cases e4 : b 4
     ·cases e7 : b 7
      ·cases e11 : b 11
       ·exact ops_at (cdf e4) rfl (o_move rfl rfl) (cdf ((updb_ne rfl).trans e4)) rfl
       ·exact absurd (hc 11 4 rfl rfl e11) (by rw [e4]; decide)
      ·cases e11 : b 11
       ·exact absurd (hc 7 4 rfl rfl e7) (by rw [e4]; decide)
       ·exact absurd (hc 7 4 rfl rfl e7) (by rw [e4]; decide)
     ·cases e7 : b 7
      ·cases e11 : b 11
       ·exact ops_at ((cdt e4).trans (cdf e7)) rfl (o_move rfl rfl) ((cdt ((updb_ne rfl).trans e4)).trans (cdf ((updb_ne rfl).trans e7))) rfl
       ·exact absurd (hc 11 7 rfl rfl e11) (by rw [e7]; decide)
      ·cases e11 : b 11
       ·exact ops_at (((cdt e4).trans (cdt e7)).trans (cdf e11)) rfl (o_move rfl rfl) (((cdt ((updb_ne rfl).trans e4)).trans (cdt ((updb_ne rfl).trans e7))).trans (cdf ((updb_ne rfl).trans e11))) rfl
       ·exact ops_at (((cdt e4).trans (cdt e7)).trans (cdt e11)) rfl (o_move rfl rfl) (((cdt ((updb_ne rfl).trans e4)).trans (cdt ((updb_ne rfl).trans e7))).trans (cdt ((updb_ne rfl).trans e11))) rfl
    refine .cons _ _ _ _ _ ⟨rfl,[(10,.im false (l18.map (c_I_Part false)))],AllN.get rfl (.cons rfl .nil),fun b hd hn hk hc=>?_⟩ ?_
    ·cases e4 : b 4
     ·cases e7 : b 7
      ·cases e11 : b 11
       ·exact ops_at (cdf e4) rfl (o_move rfl rfl) (cdf ((updb_ne rfl).trans e4)) rfl
       ·exact absurd (hc 11 4 rfl rfl e11) (by rw [e4]; decide)
      ·cases e11 : b 11
       ·exact absurd (hc 7 4 rfl rfl e7) (by rw [e4]; decide)
       ·exact absurd (hc 7 4 rfl rfl e7) (by rw [e4]; decide)
     ·cases e7 : b 7
      ·cases e11 : b 11
       ·exact ops_at ((cdt e4).trans (cdf e7)) rfl (o_move rfl rfl) ((cdt ((updb_ne rfl).trans e4)).trans (cdf ((updb_ne rfl).trans e7))) rfl
       ·exact absurd (hc 11 7 rfl rfl e11) (by rw [e7]; decide)
      ·cases e11 : b 11
       ·exact ops_at (((cdt e4).trans (cdt e7)).trans (cdf e11)) rfl (o_move rfl rfl) (((cdt ((updb_ne rfl).trans e4)).trans (cdt ((updb_ne rfl).trans e7))).trans (cdf ((updb_ne rfl).trans e11))) rfl
       ·exact ops_at (((cdt e4).trans (cdt e7)).trans (cdt e11)) rfl (o_move rfl rfl) (((cdt ((updb_ne rfl).trans e4)).trans (cdt ((updb_ne rfl).trans e7))).trans (cdt ((updb_ne rfl).trans e11))) rfl
    refine .cons _ _ _ _ _ ⟨rfl,[(7,.bx 1 0)],AllN.get rfl (.cons rfl .nil),fun b hd hn hk hc=>?_⟩ ?_
    ·exact ops_at (cdf (hn 4 rfl)) rfl (o_move rfl rfl) (cdf ((updb_ne rfl).trans (hn 4 rfl))) rfl
    refine .cons _ _ _ _ _ ⟨rfl,[(60,.bx 1 0)],AllN.get rfl (.cons rfl .nil),fun b hd hn hk hc=>?_⟩ ?_
    ·exact ops_at (cdf hk) rfl (o_callS [1] rfl en_42 rfl rfl (spec_l1Cur_pick_p b0 h27) rfl (by decide) (.cons _ _ _ _ rfl .nil) rfl rfl rfl) (((cdt updb_self).trans (cdf ((updb_ne rfl).trans (hn 7 rfl)))).trans rfl) rfl
    refine .cons _ _ _ _ _ ⟨rfl,[(61,.int .i64 r25)],AllN.get rfl (.cons rfl .nil),fun b hd hn hk hc=>?_⟩ ?_
    ·cases e7 : b 7
     ·cases e11 : b 11
      ·exact ops_at ((cdt (hd 4 rfl)).trans (cdf e7)) rfl (o_sliceIm (rows:=([3,2,1,3,r25] : List Int).map (c_int .i64)) rfl rfl tyS_3 ⟨_,rfl,rfl⟩ (by decide) rfl rfl rfl rfl rfl rfl) ((cdt ((updb_ne rfl).trans (hd 4 rfl))).trans (cdf ((updb_ne rfl).trans e7))) rfl
      ·exact absurd (hc 11 7 rfl rfl e11) (by rw [e7]; decide)
     ·cases e11 : b 11
      ·exact ops_at (((cdt (hd 4 rfl)).trans (cdt e7)).trans (cdf e11)) rfl (o_sliceIm (rows:=([3,2,1,3,r25] : List Int).map (c_int .i64)) rfl rfl tyS_3 ⟨_,rfl,rfl⟩ (by decide) rfl rfl rfl rfl rfl rfl) (((cdt ((updb_ne rfl).trans (hd 4 rfl))).trans (cdt ((updb_ne rfl).trans e7))).trans (cdf ((updb_ne rfl).trans e11))) rfl
      ·exact ops_at (((cdt (hd 4 rfl)).trans (cdt e7)).trans (cdt e11)) rfl (o_sliceIm (rows:=([3,2,1,3,r25] : List Int).map (c_int .i64)) rfl rfl tyS_3 ⟨_,rfl,rfl⟩ (by decide) rfl rfl rfl rfl rfl rfl) (((cdt ((updb_ne rfl).trans (hd 4 rfl))).trans (cdt ((updb_ne rfl).trans e7))).trans (cdt ((updb_ne rfl).trans e11))) rfl
    refine .cons _ _ _ _ _ ⟨rfl,[(7,.bx 1 0)],AllN.get rfl (.cons rfl .nil),fun b hd hn hk hc=>?_⟩ ?_
    ·cases e4 : b 4
     ·exact ops_at (cdf e4) rfl (o_move rfl rfl) (cdf ((updb_ne rfl).trans e4)) rfl
     ·exact ops_at ((cdt e4).trans (cdf (hn 7 rfl))) rfl (o_move rfl rfl) ((cdt ((updb_ne rfl).trans e4)).trans (cdf ((updb_ne rfl).trans (hn 7 rfl)))) rfl
    refine .cons _ _ _ _ _ ⟨rfl,[(63,.bx 1 0)],AllN.get rfl (.cons rfl .nil),fun b hd hn hk hc=>?_⟩ ?_
    ·exact ops_at ((cdt (hd 4 rfl)).trans (cdf hk)) rfl (o_callS [1] rfl en_42 rfl rfl (spec_l1Cur_pick_p b0 h30) rfl (by decide) (.cons _ _ _ _ rfl .nil) rfl rfl rfl) ((((cdt ((updb_ne rfl).trans (hd 4 rfl))).trans (cdt updb_self)).trans (cdf ((updb_ne rfl).trans (hn 11 rfl)))).trans rfl) rfl
    refine .cons _ _ _ _ _ ⟨rfl,[(62,.im false (([3,2,1,3,r25] : List Int).map (c_int .i64))),(64,.int .i64 r28)],AllN.get rfl (.cons rfl (.cons rfl .nil)),fun b hd hn hk hc=>?_⟩ ?_
    ·cases e11 : b 11
     ·exact ops_at (((cdt (hd 4 rfl)).trans (cdt (hd 7 rfl))).trans (cdf e11)) rfl (o_ix (f:=c_int .i64) rfl rfl tyS_3 rfl rfl h32 rfl) (((cdt ((updb_ne rfl).trans (hd 4 rfl))).trans (cdt ((updb_ne rfl).trans (hd 7 rfl)))).trans (cdf ((updb_ne rfl).trans e11))) rfl
     ·exact ops_at (((cdt (hd 4 rfl)).trans (cdt (hd 7 rfl))).trans (cdt e11)) rfl (o_ix (f:=c_int .i64) rfl rfl tyS_3 rfl rfl h32 rfl) (((cdt ((updb_ne rfl).trans (hd 4 rfl))).trans (cdt ((updb_ne rfl).trans (hd 7 rfl)))).trans (cdt ((updb_ne rfl).trans e11))) rfl
    refine .cons _ _ _ _ _ ⟨rfl,[(65,.rf false [.int .i64 e31])],AllN.get rfl (.cons rfl .nil),fun b hd hn hk hc=>?_⟩ ?_
    ·cases e11 : b 11
     ·exact ops_at (((cdt (hd 4 rfl)).trans (cdt (hd 7 rfl))).trans (cdf e11)) rfl (o_loadRf rfl tyS_3 rfl (nb rfl) rfl) (((cdt ((updb_ne rfl).trans (hd 4 rfl))).trans (cdt ((updb_ne rfl).trans (hd 7 rfl)))).trans (cdf ((updb_ne rfl).trans e11))) rfl
     ·exact ops_at (((cdt (hd 4 rfl)).trans (cdt (hd 7 rfl))).trans (cdt e11)) rfl (o_loadRf rfl tyS_3 rfl (nb rfl) rfl) (((cdt ((updb_ne rfl).trans (hd 4 rfl))).trans (cdt ((updb_ne rfl).trans (hd 7 rfl)))).trans (cdt ((updb_ne rfl).trans e11))) rfl
    refine .cons _ _ _ _ _ ⟨rfl,[(11,.im false (v24.map (c_I_FilterNode false)))],AllN.get rfl (.cons rfl .nil),fun b hd hn hk hc=>?_⟩ ?_
    ·cases e4 : b 4
     ·cases e7 : b 7
      ·cases e11 : b 11
       ·exact ops_at (cdf e4) rfl (o_move rfl rfl) (cdf ((updb_ne rfl).trans e4)) rfl
       ·exact absurd (hc 11 4 rfl rfl e11) (by rw [e4]; decide)
      ·cases e11 : b 11
       ·exact absurd (hc 7 4 rfl rfl e7) (by rw [e4]; decide)
       ·exact absurd (hc 7 4 rfl rfl e7) (by rw [e4]; decide)
     ·cases e7 : b 7
      ·cases e11 : b 11
       ·exact ops_at ((cdt e4).trans (cdf e7)) rfl (o_move rfl rfl) ((cdt ((updb_ne rfl).trans e4)).trans (cdf ((updb_ne rfl).trans e7))) rfl
       ·exact absurd (hc 11 7 rfl rfl e11) (by rw [e7]; decide)
      ·cases e11 : b 11
       ·exact ops_at (((cdt e4).trans (cdt e7)).trans (cdf e11)) rfl (o_move rfl rfl) (((cdt ((updb_ne rfl).trans e4)).trans (cdt ((updb_ne rfl).trans e7))).trans (cdf ((updb_ne rfl).trans e11))) rfl
       ·exact ops_at (((cdt e4).trans (cdt e7)).trans (cdt e11)) rfl (o_move rfl rfl) (((cdt ((updb_ne rfl).trans e4)).trans (cdt ((updb_ne rfl).trans e7))).trans (cdt ((updb_ne rfl).trans e11))) rfl
    refine .cons _ _ _ _ _ ⟨rfl,[(2,.bx 0 0),(57,.agg [.hd 6 (r4.Types_.map (c_I_AttrType false)).length 0 (r4.Types_.map (c_I_AttrType false)).length,.hd 7 (r4.Classes_.map (c_I_Class false)).length 0 (r4.Classes_.map (c_I_Class false)).length])],AllN.get rfl (.cons rfl (.cons rfl .nil)),fun b hd hn hk hc=>?_⟩ ?_
    ·exact ops_at (((cdt (hd 4 rfl)).trans (cdt (hd 7 rfl))).trans (cdf hk)) rfl (o_storeBx rfl tyS_26 rfl rfl rfl rfl (nb rfl) (sure_hd rfl rfl (sure_hd rfl rfl rfl))) ((((cdt ((updb_ne rfl).trans (hd 4 rfl))).trans (cdt ((updb_ne rfl).trans (hd 7 rfl)))).trans (cdt updb_self)).trans rfl) rfl
    refine .cons _ _ _ _ _ ⟨rfl,[(58,.im false (r7.map (c_I_Entry false)))],AllN.get rfl (.cons rfl .nil),fun b hd hn hk hc=>?_⟩ ?_
    ·exact ops_at (((cdt (hd 4 rfl)).trans (cdt (hd 7 rfl))).trans (cdt (hd 11 rfl))) rfl (o_assign rfl rfl) (((cdt ((updb_ne rfl).trans (hd 4 rfl))).trans (cdt ((updb_ne rfl).trans (hd 7 rfl)))).trans (cdt ((updb_ne rfl).trans (hd 11 rfl)))) rfl
    refine .cons _ _ _ _ _ ⟨rfl,[(59,.im false (l18.map (c_I_Part false)))],AllN.get rfl (.cons rfl .nil),fun b hd hn hk hc=>?_⟩ ?_
    ·exact ops_at (((cdt (hd 4 rfl)).trans (cdt (hd 7 rfl))).trans (cdt (hd 11 rfl))) rfl (o_assign rfl rfl) (((cdt ((updb_ne rfl).trans (hd 4 rfl))).trans (cdt ((updb_ne rfl).trans (hd 7 rfl)))).trans (cdt ((updb_ne rfl).trans (hd 11 rfl)))) rfl
    refine .cons _ _ _ _ _ ⟨rfl,[(66,.int .i64 e31)],AllN.get rfl (.cons rfl .nil),fun b hd hn hk hc=>?_⟩ ?_
    ·exact ops_at (((cdt (hd 4 rfl)).trans (cdt (hd 7 rfl))).trans (cdt (hd 11 rfl))) rfl (o_assign rfl rfl) (((cdt ((updb_ne rfl).trans (hd 4 rfl))).trans (cdt ((updb_ne rfl).trans (hd 7 rfl)))).trans (cdt ((updb_ne rfl).trans (hd 11 rfl)))) rfl
    refine .cons _ _ _ _ _ ⟨rfl,[(67,.im false (v24.map (c_I_FilterNode false)))],AllN.get rfl (.cons rfl .nil),fun b hd hn hk hc=>?_⟩ ?_
    ·exact ops_at (((cdt (hd 4 rfl)).trans (cdt (hd 7 rfl))).trans (cdt (hd 11 rfl))) rfl (o_assign rfl rfl) (((cdt ((updb_ne rfl).trans (hd 4 rfl))).trans (cdt ((updb_ne rfl).trans (hd 7 rfl)))).trans (cdt ((updb_ne rfl).trans (hd 11 rfl)))) rfl
    exact .nil _
   ·intro b b' h; simp only [h 4 (by decide),h 7 (by decide),h 11 (by decide)]
   refine thn_normal ?_
   refine T.conv (Cs.eqS (σ':=[.box (k_impl_DirSchema 6 7 false r4),.box (c_T_spec_l1Cur b0 o29),_,_,_,_,_,_,_]) rfl) ?_
   refine T.ret ?_
   cases some_i H
   exact ⟨trivial,_,(.cell _ _ _ _ _ _ _ _ _ _ rfl rfl tyS_26 (nb rfl) rfl (.tmp _ _ _ _ rfl (.tmp _ _ _ _ rfl (.tmp _ _ _ _ rfl (.tmp _ _ _ _ rfl .nil))))),(.tupL (.cons _ _ _ _ (.aggL (.cons _ _ _ _ (.own rfl (by decide) rfl) (.cons _ _ _ _ (.own rfl (by decide) rfl) .nil))) (.cons _ _ _ _ (.cl _ rfl) (.cons _ _ _ _ (.cl _ rfl) (.cons _ _ _ _ (.cl _ rfl) (.cons _ _ _ _ (.cl _ rfl) .nil))))))⟩
theorem en_12 : En Tryz.prog 12:=.of Tryz.func12 rfl rfl
noncomputable def impl_ydigit (a0 : Int) : Option Bool :=
  some (decide (a0 ≥ 48) && decide (a0 ≤ 57))
theorem impl_ydigit_p  {a0 : Int} {R0 : Bool} (H : impl_ydigit a0 = some R0) : Pure Tryz.prog 99 [.int .u8 a0] (.bool R0):=by
 refine CallT.of_TN (n:=9) Tryz.func99 rfl rfl rfl rfl ?_
 refine au 15 ?_
 cases some_i H
 exact ⟨trivial,_,(.tmp _ _ _ _ rfl .nil),(.cl _ rfl)⟩
theorem en_99 : En Tryz.prog 99:=.of Tryz.func99 rfl rfl
noncomputable def impl_yletter (a0 : Int) : Option Bool :=
  some ((decide (a0 ≥ 97) && decide (a0 ≤ 122)) || (decide (a0 ≥ 65) && decide (a0 ≤ 90)))
theorem impl_yletter_p  {a0 : Int} {R0 : Bool} (H : impl_yletter a0 = some R0) : Pure Tryz.prog 137 [.int .u8 a0] (.bool R0):=by
 refine CallT.of_TN (n:=17) Tryz.func137 rfl rfl rfl rfl ?_
 refine au 15 ?_
 refine TL.gcq rfl rfl rfl (.bool _) rfl rfl (fun h=>o_move rfl (gv h rfl)) ?_
 refine TL.gcq rfl rfl rfl (.gd _ _) rfl rfl (fun h=>o_move rfl rfl) ?_
 refine TL.gcq rfl rfl rfl (.gd _ _) rfl rfl (fun h=>o_ari rfl (gv h rfl) rfl rfl) ?_
 refine TL.gcq rfl rfl rfl (.bool _) rfl rfl (fun h=>o_and rfl (gv h rfl) rfl (fun k=>Gd_t (andi h k)) rfl) ?_
 refine au 4 ?_
 cases some_i H
 exact ⟨trivial,_,(.tmp _ _ _ _ rfl .nil),(.cl _ rfl)⟩
theorem en_137 : En Tryz.prog 137:=.of Tryz.func137 rfl rfl
noncomputable def impl_ywordByte (a0 : Int) : Option Bool :=
  (impl_yletter a0).bind fun r1=>(gdO (!r1) (impl_ydigit a0)).bind fun r3=>some ((r1 || r3) || (a0 == 95))
theorem impl_ywordByte_p  {a0 : Int} {R0 : Bool} (H : impl_ywordByte a0 = some R0) : Pure Tryz.prog 100 [.int .u8 a0] (.bool R0):=by
 refine CallT.of_TN (n:=13) Tryz.func100 rfl rfl rfl rfl ?_
 refine au 7 ?_
 obtain ⟨r1,h2,H⟩:=bind_s H
 refine TL.st rfl rfl rfl (o_callP rfl en_137 rfl rfl (.cons _ _ _ _ (.cl _ rfl) .nil) (impl_yletter_p  h2)) ?_
 refine au 2 ?_
 obtain ⟨r3,h4,H⟩:=bind_s H
 refine TL.gcq rfl rfl rfl (.bool _) rfl rfl (fun h=>o_callP rfl en_99 rfl (evl_1 (gv h rfl)) (.cons _ _ _ _ (.cl _ rfl) .nil) (impl_ydigit_p  (gdO_t h4 h))) ?_
 refine au 8 ?_
 cases some_i H
 exact ⟨trivial,_,(.tmp _ _ _ _ rfl .nil),(.cl _ rfl)⟩
theorem en_100 : En Tryz.prog 100:=.of Tryz.func100 rfl rfl
noncomputable def impl_GoodName_l1 (a0 : ByteArray) : Int → Option (Int ⊕ (Unit ⊕ Bool)):=fun s=>match s with
  | v5=>cond (decide (v5 < (a0.size : Int))) ((idxS a0 v5).bind fun b8=>(impl_ywordByte b8).bind fun r10=>cond (!r10) (some (.inr (.inr false))) (some (.inl (IntKind.i64.wrap (v5 + 1))))) (some (.inr (.inl ())))
noncomputable def impl_GoodName (a0 : ByteArray) : Option Bool :=
  (gdO (!((a0.toList == e0.toList) || decide ((a0.size : Int) > 30))) (idxS a0 0)).bind fun b1=>(gdO (!((a0.toList == e0.toList) || decide ((a0.size : Int) > 30))) (impl_ydigit b1)).bind fun r3=>cond (((a0.toList == e0.toList) || decide ((a0.size : Int) > 30)) || r3) (some false) ((loopO (impl_GoodName_l1 a0) 0).bind fun q12=>(match q12 with | .inl _=>some true | .inr q6=>some q6))
theorem impl_GoodName_p  {a0 : ByteArray} {R0 : Bool} (H : impl_GoodName a0 = some R0) : Pure Tryz.prog 55 [.str a0] (.bool R0):=by
 refine CallT.of_TN (n:=27) Tryz.func55 rfl rfl rfl rfl ?_
 refine au 11 ?_
 refine TL.gcq rfl rfl rfl (.bool _) rfl rfl (fun h=>o_lenS rfl rfl (gv h rfl)) ?_
 refine au 4 ?_
 obtain ⟨b1,h2,H⟩:=bind_s H
 refine TL.gcq rfl rfl rfl (.bool _) rfl rfl (fun h=>o_ixs rfl rfl (gv h rfl) rfl (gdO_t h2 h)) ?_
 obtain ⟨r3,h4,H⟩:=bind_s H
 refine TL.gcq rfl rfl rfl (.bool _) rfl rfl (fun h=>o_callP rfl en_99 rfl (evl_1 (gv h rfl)) (.cons _ _ _ _ (.cl _ rfl) .nil) (impl_ydigit_p  (gdO_t h4 h))) ?_
 refine au 2 ?_
 refine T.cH H ?_ ?_<;>intro H h
 ·refine au 5 ?_
  refine thn_ret ?_
  cases some_i H
  exact ⟨trivial,_,(.tmp _ _ _ _ rfl .nil),(.cl _ rfl)⟩
 ·refine au 9 ?_
  obtain ⟨q12,h13,H⟩:=bind_s H
  refine T.lq (fun s=>match s with | v5=>[(0,.str a0),(17,.int .i64 (a0.size : Int)),(18,.int .i64 v5)]) (fun s=>match s with | v5=>[]) (fun q ex fr σ=>match q with | .inl _=>ex = .exit 0 ∧ fr = [] ∧ σ = [] | .inr q6=>ex = .ret ∧ RetN Tryz.prog [.tmp 2] (fun v τ=>Told τ v (.bool q6)) .ret fr σ) h13 ?_ ?_
  ·rintro v5 y7 H
   refine au 5 ?_
   refine T.cH H ?_ ?_<;>intro H h
   ·refine au 12 ?_
    obtain ⟨b8,h9,H⟩:=bind_s H
    refine TL.st rfl rfl rfl (o_ixs rfl rfl rfl rfl h9) ?_
    obtain ⟨r10,h11,H⟩:=bind_s H
    refine TL.st rfl rfl rfl (o_callP rfl en_100 rfl rfl (.cons _ _ _ _ (.cl _ rfl) .nil) (impl_ywordByte_p  h11)) ?_
    refine au 2 ?_
    refine T.cH H ?_ ?_<;>intro H h
    ·refine au 5 ?_
     refine inB_ret (thn_ret ?_)
     exact Pk.id (thn_ret ⟨.inr false,(some_i H).symm,rfl,⟨trivial,_,(.tmp _ _ _ _ rfl .nil),(.cl _ rfl)⟩⟩)
    ·refine au 5 ?_
     exact Pk.of (thn_normal ⟨(IntKind.i64.wrap (v5 + 1)),(some_i H).symm,rfl,rfl⟩)
   ·refine T.exit ?_
    refine thn_exit ?_
    exact Pk.of (thn_exit ⟨.inl (),(some_i H).symm,rfl,rfl,rfl⟩)
  ·rcases q12 with ⟨⟩ | q6
   ·rintro _ _ _ ⟨rfl,rfl,rfl⟩
    refine inB_here ?_
    refine au 5 ?_
    cases some_i H
    exact ⟨trivial,_,(.tmp _ _ _ _ rfl .nil),(.cl _ rfl)⟩
   ·rintro _ fr1 σ1 ⟨rfl,hr⟩
    refine inB_ret (thn_ret ?_)
    cases some_i H
    exact hr
theorem en_55 : En Tryz.prog 55:=.of Tryz.func55 rfl rfl
noncomputable def impl_DirSchema_yattrType_1 (a0 : I_AttrType) : Option ByteArray :=
  some a0.Name_
theorem impl_DirSchema_yattrType_1_p  {a0 : I_AttrType} {R0 : ByteArray} (H : impl_DirSchema_yattrType_1 a0 = some R0) : Pure Tryz.prog 111 [.agg (c_I_AttrType false a0)] (.str R0):=by
 refine CallT.of_TN (n:=5) Tryz.func111 rfl rfl rfl rfl ?_
 refine au 12 ?_
 cases some_i H
 exact ⟨trivial,_,(.tmp _ _ _ _ rfl .nil),(.cl _ rfl)⟩
theorem en_111 : En Tryz.prog 111:=.of Tryz.func111 rfl rfl
noncomputable def impl_AttrType__l1 (a0 : (List I_AttrType)) (a1 : ByteArray) : Int → Option (Int ⊕ (Unit ⊕ (I_AttrType × Bool))):=fun s=>match s with
  | v1=>cond (decide (v1 < (a0.length : Int))) ((idx a0 v1).bind fun e4=>(impl_DirSchema_yattrType_1 e4).bind fun r6=>cond (r6.toList == a1.toList) (some (.inr (.inr (e4,true)))) (some (.inl (IntKind.i64.wrap (v1 + 1))))) (some (.inr (.inl ())))
noncomputable def impl_AttrType_ (a0 : (List I_AttrType)) (a1 : ByteArray) : Option (I_AttrType × Bool) :=
  (loopO (impl_AttrType__l1 a0 a1) 0).bind fun q8=>(match q8 with | .inl _=>some ((⟨e0,0,false⟩ : I_AttrType),false) | .inr q2=>some q2)
theorem impl_AttrType__p (b0 : Bool) {a0 : (List I_AttrType)} {a1 : ByteArray} {R0 : I_AttrType} {R1 : Bool} (H : impl_AttrType_ a0 a1 = some (R0,R1)) : Pure Tryz.prog 110 [.im b0 (a0.map (c_I_AttrType false)),.fn 111 [] [],.str a1] (.tup [.agg (c_I_AttrType false R0),.bool R1]):=by
 refine CallT.of_TN (n:=25) Tryz.func110 rfl rfl rfl rfl ?_
 refine au 9 ?_
 refine TL.st rfl rfl rfl (o_lenL (f:=c_I_AttrType false) rfl rfl rfl) ?_
 refine au 3 ?_
 obtain ⟨q8,h9,H⟩:=bind_s H
 refine T.lq (fun s=>match s with | v1=>[(1,.fn 111 [] []),(2,.str a1),(6,.bx 0 0),(11,.im b0 (a0.map (c_I_AttrType false))),(12,.int .i64 (a0.length : Int)),(13,.int .i64 v1)]) (fun s=>match s with | v1=>[.box [.str e0,.int .i64 0,.bool false]]) (fun q ex fr σ=>match q with | .inl _=>ex = .exit 0 ∧ fr = [(6,.bx 0 0)] ∧ σ = [.box [.str e0,.int .i64 0,.bool false]] | .inr q2=>ex = .ret ∧ RetN Tryz.prog [.cell 6 106,.tmp 7] (fun v τ=>Told τ v (.tup [.agg (c_I_AttrType false q2.1),.bool q2.2])) .ret fr σ) h9 ?_ ?_
 ·rintro v1 y3 H
  refine au 5 ?_
  refine T.cH H ?_ ?_<;>intro H h
  ·refine au 5 ?_
   obtain ⟨e4,h5,H⟩:=bind_s H
   refine TL.st rfl rfl rfl (o_ix (f:=c_I_AttrType false) rfl rfl tyS_106 rfl rfl h5 rfl) ?_
   refine au 8 ?_
   obtain ⟨r6,h7,H⟩:=bind_s H
   refine TL.st rfl rfl rfl (o_callP rfl en_111 rfl rfl (.cons _ _ _ _ (.cl _ rfl) .nil) (impl_DirSchema_yattrType_1_p  h7)) ?_
   refine au 3 ?_
   refine T.cH H ?_ ?_<;>intro H h
   ·refine au 6 ?_
    refine T.conv (Cs.eqS (σ':=[.box (c_I_AttrType false e4),.box (c_I_AttrType false e4)]) rfl) ?_
    refine T.ret ?_
    refine inB_ret (thn_ret ?_)
    exact Pk.id (thn_ret ⟨.inr (e4,true),(some_i H).symm,rfl,⟨trivial,_,(.cell _ _ _ _ _ _ _ _ _ _ rfl rfl tyS_106 (nb rfl) rfl (.tmp _ _ _ _ rfl .nil)),(.tupL (.cons _ _ _ _ (.cl _ rfl) (.cons _ _ _ _ (.cl _ rfl) .nil)))⟩⟩)
   ·refine au 5 ?_
    exact Pk.of (thn_normal ⟨(IntKind.i64.wrap (v1 + 1)),(some_i H).symm,rfl,rfl⟩)
  ·refine T.exit ?_
   refine thn_exit ?_
   exact Pk.of (thn_exit ⟨.inl (),(some_i H).symm,rfl,rfl,rfl⟩)
 ·rcases q8 with ⟨⟩ | q2
  ·rintro _ _ _ ⟨rfl,rfl,rfl⟩
   refine inB_here ?_
   refine au 11 ?_
   cases some_i H
   exact ⟨trivial,_,(.cell _ _ _ _ _ _ _ _ _ _ rfl rfl tyS_106 (nb rfl) rfl (.tmp _ _ _ _ rfl .nil)),(.tupL (.cons _ _ _ _ (.cl _ rfl) (.cons _ _ _ _ (.cl _ rfl) .nil)))⟩
  ·rintro _ fr1 σ1 ⟨rfl,hr⟩
   refine inB_ret (thn_ret ?_)
   cases some_i H
   exact hr
theorem en_110 : En Tryz.prog 110:=.of Tryz.func110 rfl rfl
noncomputable def impl_DirSchema_yattrType (a0 : I_DirSchema) (a1 : ByteArray) : Option (I_AttrType × Bool) :=
  (impl_AttrType_ a0.Types_ a1).bind fun q=>(match q with | (r1,r2)=>some (r1,r2))
theorem impl_DirSchema_yattrType_p (b0 : Bool) {a0 : I_DirSchema} {a1 : ByteArray} {R0 : I_AttrType} {R1 : Bool} (H : impl_DirSchema_yattrType a0 a1 = some (R0,R1)) : Pure Tryz.prog 68 [.agg (c_I_DirSchema b0 a0),.str a1] (.tup [.agg (c_I_AttrType false R0),.bool R1]):=by
 refine CallT.of_TN (n:=12) Tryz.func68 rfl rfl rfl rfl ?_
 refine au 11 ?_
 obtain ⟨⟨r1,r2⟩,h3,H⟩:=bind_s H
 refine TL.st rfl rfl rfl (o_callP rfl en_110 rfl rfl (.cons _ _ _ _ (.imv _ _) (.cons _ _ _ _ (.fn _ _ _ _ _ rfl rfl (fun i c d h=>by simp at h) (fun i c d h=>by simp at h)) (.cons _ _ _ _ (.cl _ rfl) .nil))) (impl_AttrType__p b0 h3)) ?_
 refine au 5 ?_
 refine T.conv (Cs.eqS (σ':=[.box (c_I_DirSchema b0 a0),.box (c_I_AttrType false r1)]) rfl) ?_
 refine T.ret ?_
 cases some_i H
 exact ⟨trivial,_,(.cell _ _ _ _ _ _ _ _ _ _ rfl rfl tyS_106 (nb rfl) rfl (.tmp _ _ _ _ rfl .nil)),(.tupL (.cons _ _ _ _ (.cl _ rfl) (.cons _ _ _ _ (.cl _ rfl) .nil)))⟩
theorem en_68 : En Tryz.prog 68:=.of Tryz.func68 rfl rfl
noncomputable def impl_yrising_l1 (a0 : (List ByteArray)) : Int → Option (Int ⊕ (Unit ⊕ Bool)):=fun s=>match s with
  | v1=>cond (decide (v1 < (a0.length : Int))) ((idx a0 v1).bind fun e4=>(gdO (decide (v1 > 0)) (idx a0 (IntKind.i64.wrap (v1 - 1)))).bind fun e6=>cond (decide (v1 > 0) && (!(Op.bytesLess e6.toList e4.toList))) (some (.inr (.inr false))) (some (.inl (IntKind.i64.wrap (v1 + 1))))) (some (.inr (.inl ())))
noncomputable def impl_yrising (a0 : (List ByteArray)) : Option Bool :=
  (loopO (impl_yrising_l1 a0) 0).bind fun q8=>(match q8 with | .inl _=>some true | .inr q2=>some q2)
theorem impl_yrising_p (b0 : Bool) {a0 : (List ByteArray)} {R0 : Bool} (H : impl_yrising a0 = some R0) : Pure Tryz.prog 69 [.im b0 (a0.map (c_str))] (.bool R0):=by
 refine CallT.of_TN (n:=24) Tryz.func69 rfl rfl rfl rfl ?_
 refine au 8 ?_
 refine TL.st rfl rfl rfl (o_lenL (f:=c_str) rfl rfl rfl) ?_
 refine au 3 ?_
 obtain ⟨q8,h9,H⟩:=bind_s H
 refine T.lq (fun s=>match s with | v1=>[(0,.im b0 (a0.map (c_str))),(5,.im b0 (a0.map (c_str))),(6,.int .i64 (a0.length : Int)),(7,.int .i64 v1)]) (fun s=>match s with | v1=>[]) (fun q ex fr σ=>match q with | .inl _=>ex = .exit 0 ∧ fr = [] ∧ σ = [] | .inr q2=>ex = .ret ∧ RetN Tryz.prog [.tmp 2] (fun v τ=>Told τ v (.bool q2)) .ret fr σ) h9 ?_ ?_
 ·rintro v1 y3 H
  refine au 5 ?_
  refine T.cH H ?_ ?_<;>intro H h
  ·refine au 6 ?_
   obtain ⟨e4,h5,H⟩:=bind_s H
   refine TL.st rfl rfl rfl (o_ix (f:=c_str) rfl rfl tyS_9 rfl rfl h5 rfl) ?_
   refine au 12 ?_
   obtain ⟨e6,h7,H⟩:=bind_s H
   refine TL.gcq rfl rfl rfl (.bool _) rfl rfl (fun h=>o_ix (f:=c_str) rfl rfl tyS_9 (gv h rfl) (gv h rfl) (gdO_t h7 h) rfl) ?_
   refine TL.gcq rfl rfl rfl (.bool _) rfl rfl (fun h=>o_loadRf rfl tyS_9 (gv h rfl) (nb rfl) rfl) ?_
   refine TL.gcq rfl rfl rfl (.bool _) rfl rfl (fun h=>o_move rfl rfl) ?_
   refine TL.gcq rfl rfl rfl (.bool _) rfl rfl (fun h=>o_str rfl (gv h rfl) (gv h rfl) rfl) ?_
   refine au 2 ?_
   refine T.cH H ?_ ?_<;>intro H h
   ·refine au 5 ?_
    refine inB_ret (thn_ret ?_)
    exact Pk.id (thn_ret ⟨.inr false,(some_i H).symm,rfl,⟨trivial,_,(.tmp _ _ _ _ rfl .nil),(.cl _ rfl)⟩⟩)
   ·refine au 5 ?_
    exact Pk.of (thn_normal ⟨(IntKind.i64.wrap (v1 + 1)),(some_i H).symm,rfl,rfl⟩)
  ·refine T.exit ?_
   refine thn_exit ?_
   exact Pk.of (thn_exit ⟨.inl (),(some_i H).symm,rfl,rfl,rfl⟩)
 ·rcases q8 with ⟨⟩ | q2
  ·rintro _ _ _ ⟨rfl,rfl,rfl⟩
   refine inB_here ?_
   refine au 5 ?_
   cases some_i H
   exact ⟨trivial,_,(.tmp _ _ _ _ rfl .nil),(.cl _ rfl)⟩
  ·rintro _ fr1 σ1 ⟨rfl,hr⟩
   refine inB_ret (thn_ret ?_)
   cases some_i H
   exact hr
theorem en_69 : En Tryz.prog 69:=.of Tryz.func69 rfl rfl
noncomputable def impl_DirSchema_yclass_1 (a0 : I_Class) : Option ByteArray :=
  some a0.Name_
theorem impl_DirSchema_yclass_1_p (b0 : Bool) {a0 : I_Class} {R0 : ByteArray} (H : impl_DirSchema_yclass_1 a0 = some R0) : Pure Tryz.prog 113 [.agg (c_I_Class b0 a0)] (.str R0):=by
 refine CallT.of_TN (n:=5) Tryz.func113 rfl rfl rfl rfl ?_
 refine au 12 ?_
 cases some_i H
 exact ⟨trivial,_,(.tmp _ _ _ _ rfl .nil),(.cl _ rfl)⟩
theorem en_113 : En Tryz.prog 113:=.of Tryz.func113 rfl rfl
noncomputable def impl_Class__l1 (a0 : (List I_Class)) (a1 : ByteArray) : Int → Option (Int ⊕ (Unit ⊕ (I_Class × Bool))):=fun s=>match s with
  | v1=>cond (decide (v1 < (a0.length : Int))) ((idx a0 v1).bind fun e4=>(impl_DirSchema_yclass_1 e4).bind fun r6=>cond (r6.toList == a1.toList) (some (.inr (.inr (e4,true)))) (some (.inl (IntKind.i64.wrap (v1 + 1))))) (some (.inr (.inl ())))
noncomputable def impl_Class_ (a0 : (List I_Class)) (a1 : ByteArray) : Option (I_Class × Bool) :=
  (loopO (impl_Class__l1 a0 a1) 0).bind fun q8=>(match q8 with | .inl _=>some ((⟨e0,e0,([] : List ByteArray),([] : List ByteArray)⟩ : I_Class),false) | .inr q2=>some q2)
theorem impl_Class__p (b0 : Bool) {a0 : (List I_Class)} {a1 : ByteArray} {R0 : I_Class} {R1 : Bool} (H : impl_Class_ a0 a1 = some (R0,R1)) : Pure Tryz.prog 112 [.im b0 (a0.map (c_I_Class false)),.fn 113 [] [],.str a1] (.tup [.agg (c_I_Class false R0),.bool R1]):=by
 refine CallT.of_TN (n:=25) Tryz.func112 rfl rfl rfl rfl ?_
 refine au 9 ?_
 refine TL.st rfl rfl rfl (o_lenL (f:=c_I_Class false) rfl rfl rfl) ?_
 refine au 3 ?_
 obtain ⟨q8,h9,H⟩:=bind_s H
 refine T.lq (fun s=>match s with | v1=>[(1,.fn 113 [] []),(2,.str a1),(6,.bx 0 0),(11,.im b0 (a0.map (c_I_Class false))),(12,.int .i64 (a0.length : Int)),(13,.int .i64 v1)]) (fun s=>match s with | v1=>[.box [.str e0,.str e0,.nilS,.nilS]]) (fun q ex fr σ=>match q with | .inl _=>ex = .exit 0 ∧ fr = [(6,.bx 0 0)] ∧ σ = [.box [.str e0,.str e0,.nilS,.nilS]] | .inr q2=>ex = .ret ∧ RetN Tryz.prog [.cell 6 108,.tmp 7] (fun v τ=>Told τ v (.tup [.agg (c_I_Class false q2.1),.bool q2.2])) .ret fr σ) h9 ?_ ?_
 ·rintro v1 y3 H
  refine au 5 ?_
  refine T.cH H ?_ ?_<;>intro H h
  ·refine au 5 ?_
   obtain ⟨e4,h5,H⟩:=bind_s H
   refine TL.st rfl rfl rfl (o_ix (f:=c_I_Class false) rfl rfl tyS_108 rfl rfl h5 rfl) ?_
   refine au 8 ?_
   obtain ⟨r6,h7,H⟩:=bind_s H
   refine TL.st rfl rfl rfl (o_callP rfl en_113 rfl rfl (.cons _ _ _ _ (.cl _ rfl) .nil) (impl_DirSchema_yclass_1_p false h7)) ?_
   refine au 3 ?_
   refine T.cH H ?_ ?_<;>intro H h
   ·refine au 6 ?_
    refine T.conv (Cs.eqS (σ':=[.box (c_I_Class false e4),.box (c_I_Class false e4)]) rfl) ?_
    refine T.ret ?_
    refine inB_ret (thn_ret ?_)
    exact Pk.id (thn_ret ⟨.inr (e4,true),(some_i H).symm,rfl,⟨trivial,_,(.cell _ _ _ _ _ _ _ _ _ _ rfl rfl tyS_108 (nb rfl) rfl (.tmp _ _ _ _ rfl .nil)),(.tupL (.cons _ _ _ _ (.cl _ rfl) (.cons _ _ _ _ (.cl _ rfl) .nil)))⟩⟩)
   ·refine au 5 ?_
    exact Pk.of (thn_normal ⟨(IntKind.i64.wrap (v1 + 1)),(some_i H).symm,rfl,rfl⟩)
  ·refine T.exit ?_
   refine thn_exit ?_
   exact Pk.of (thn_exit ⟨.inl (),(some_i H).symm,rfl,rfl,rfl⟩)
 ·rcases q8 with ⟨⟩ | q2
  ·rintro _ _ _ ⟨rfl,rfl,rfl⟩
   refine inB_here ?_
   refine au 11 ?_
   cases some_i H
   exact ⟨trivial,_,(.cell _ _ _ _ _ _ _ _ _ _ rfl rfl tyS_108 (nb rfl) rfl (.tmp _ _ _ _ rfl .nil)),(.tupL (.cons _ _ _ _ (.aggL (.cons _ _ _ _ (.cl _ rfl) (.cons _ _ _ _ (.cl _ rfl) (.cons _ _ _ _ .nil (.cons _ _ _ _ .nil .nil))))) (.cons _ _ _ _ (.cl _ rfl) .nil)))⟩
  ·rintro _ fr1 σ1 ⟨rfl,hr⟩
   refine inB_ret (thn_ret ?_)
   cases some_i H
   exact hr
theorem en_112 : En Tryz.prog 112:=.of Tryz.func112 rfl rfl
noncomputable def impl_DirSchema_yclass (a0 : I_DirSchema) (a1 : ByteArray) : Option (I_Class × Bool) :=
  (impl_Class_ a0.Classes_ a1).bind fun q=>(match q with | (r1,r2)=>some (r1,r2))
theorem impl_DirSchema_yclass_p (b0 : Bool) {a0 : I_DirSchema} {a1 : ByteArray} {R0 : I_Class} {R1 : Bool} (H : impl_DirSchema_yclass a0 a1 = some (R0,R1)) : Pure Tryz.prog 70 [.agg (c_I_DirSchema b0 a0),.str a1] (.tup [.agg (c_I_Class false R0),.bool R1]):=by
 refine CallT.of_TN (n:=12) Tryz.func70 rfl rfl rfl rfl ?_
 refine au 11 ?_
 obtain ⟨⟨r1,r2⟩,h3,H⟩:=bind_s H
 refine TL.st rfl rfl rfl (o_callP rfl en_112 rfl rfl (.cons _ _ _ _ (.imv _ _) (.cons _ _ _ _ (.fn _ _ _ _ _ rfl rfl (fun i c d h=>by simp at h) (fun i c d h=>by simp at h)) (.cons _ _ _ _ (.cl _ rfl) .nil))) (impl_Class__p b0 h3)) ?_
 refine au 5 ?_
 refine T.conv (Cs.eqS (σ':=[.box (c_I_DirSchema b0 a0),.box (c_I_Class false r1)]) rfl) ?_
 refine T.ret ?_
 cases some_i H
 exact ⟨trivial,_,(.cell _ _ _ _ _ _ _ _ _ _ rfl rfl tyS_108 (nb rfl) rfl (.tmp _ _ _ _ rfl .nil)),(.tupL (.cons _ _ _ _ (.cl _ rfl) (.cons _ _ _ _ (.cl _ rfl) .nil)))⟩
theorem en_70 : En Tryz.prog 70:=.of Tryz.func70 rfl rfl
noncomputable def impl_GoodDirSchema_l4 (a0 : I_DirSchema) : (I_Class × Int) → Option ((I_Class × Int) ⊕ (I_Class ⊕ Bool)):=fun s=>match s with
  | (b17,v18)=>cond (!(b17.Up_.toList == e0.toList)) ((impl_DirSchema_yclass a0 b17.Up_).bind fun q=>(match q with | (r22,r23)=>cond ((!r23) || decide (v18 > 20)) (some (.inr (.inr false))) (some (.inl (r22,(IntKind.i64.wrap (v18 + 1))))))) (some (.inr (.inl b17)))
noncomputable def impl_GoodDirSchema_l5 (a0 : I_DirSchema) (e28 : (List ByteArray)) : Int → Option (Int ⊕ (Unit ⊕ Bool)):=fun s=>match s with
  | v32=>cond (decide (v32 < (e28.length : Int))) ((idx e28 v32).bind fun e35=>(impl_DirSchema_yattrType a0 e35).bind fun q=>(match q with | (r37,r38)=>cond (!r38) (some (.inr (.inr false))) (some (.inl (IntKind.i64.wrap (v32 + 1)))))) (some (.inr (.inl ())))
noncomputable def impl_GoodDirSchema_l3 (a0 : I_DirSchema) (e9 : I_Class) : Int → Option (Int ⊕ (Unit ⊕ Bool)):=fun s=>match s with
  | v15=>cond (decide (v15 < (([e9.Must_,e9.May_] : List (List ByteArray)).length : Int))) ((idx ([e9.Must_,e9.May_] : List (List ByteArray)) v15).bind fun e28=>(gdO (!(decide ((e28.length : Int) > 30))) (impl_yrising e28)).bind fun r30=>cond (decide ((e28.length : Int) > 30) || (!r30)) (some (.inr (.inr false))) ((loopO (impl_GoodDirSchema_l5 a0 e28) 0).bind fun q40=>(match q40 with | .inl _=>some (.inl (IntKind.i64.wrap (v15 + 1))) | .inr q33=>some (.inr (.inr q33))))) (some (.inr (.inl ())))
noncomputable def impl_GoodDirSchema_l2 (a0 : I_DirSchema) : Int → Option (Int ⊕ (Unit ⊕ Bool)):=fun s=>match s with
  | v6=>cond (decide (v6 < (a0.Classes_.length : Int))) ((idx a0.Classes_ v6).bind fun e9=>(impl_GoodName e9.Name_).bind fun r11=>(gdO ((!(!r11)) && decide (v6 > 0)) (idx a0.Classes_ (IntKind.i64.wrap (v6 - 1)))).bind fun e13=>cond ((!r11) || (decide (v6 > 0) && (!(Op.bytesLess e13.Name_.toList e9.Name_.toList)))) (some (.inr (.inr false))) ((loopO (impl_GoodDirSchema_l3 a0 e9) 0).bind fun q42=>(match q42 with | .inl _=>(loopO (impl_GoodDirSchema_l4 a0) (e9,0)).bind fun q25=>(match q25 with | .inl b19=>some (.inl (IntKind.i64.wrap (v6 + 1))) | .inr q20=>some (.inr (.inr q20))) | .inr q16=>some (.inr (.inr q16))))) (some (.inr (.inl ())))
noncomputable def impl_GoodDirSchema_l1 (a0 : I_DirSchema) : Int → Option (Int ⊕ (Unit ⊕ Bool)):=fun s=>match s with
  | v1=>cond (decide (v1 < (a0.Types_.length : Int))) ((idx a0.Types_ v1).bind fun e47=>(impl_GoodName e47.Name_).bind fun r49=>(gdO ((!(!r49)) && decide (v1 > 0)) (idx a0.Types_ (IntKind.i64.wrap (v1 - 1)))).bind fun e51=>cond ((((!r49) || (decide (v1 > 0) && (!(Op.bytesLess e51.Name_.toList e47.Name_.toList)))) || decide (e47.Syntax_ < 1)) || decide (e47.Syntax_ > 4)) (some (.inr (.inr false))) (some (.inl (IntKind.i64.wrap (v1 + 1))))) (some (.inr (.inl ())))
noncomputable def impl_GoodDirSchema (a0 : I_DirSchema) : Option Bool :=
  cond (decide ((a0.Types_.length : Int) > 40) || decide ((a0.Classes_.length : Int) > 20)) (some false) ((loopO (impl_GoodDirSchema_l1 a0) 0).bind fun q53=>(match q53 with | .inl _=>(impl_DirSchema_yattrType a0 (ByteArray.mk #[99,108,97,115,115])).bind fun q=>(match q with | (r3,r4)=>cond (((!r4) || (r3.Syntax_ != 2)) || r3.Single_) (some false) ((loopO (impl_GoodDirSchema_l2 a0) 0).bind fun q44=>(match q44 with | .inl _=>some true | .inr q7=>some q7))) | .inr q2=>some q2))
end Go.G36.FT
