import Derived.Test.YtkhaafonmkjjmaaGreatDoorProg
import Derived.Test.YtkhaafonmkjjmaaGreatDoorMtLib
set_option linter.all false
set_option maxRecDepth 20000
set_option maxHeartbeats 4000000
namespace Go.G36.MT
open Go Go.Proofs Go.G36.MT

def c_int (k : IntKind) (x : Int) : List V:=[.int k x]
def c_bool (x : Bool) : List V:=[.bool x]
def c_str (x : ByteArray) : List V:=[.str x]
def c_raw (x : List V) : List V:=x
theorem map_raw (x : List (List V)) : x.map c_raw = x:=by
  induction x with
  | nil=>rfl
  | cons a l ih=>simp [ih,c_raw]
def c_sl {α : Type} (f : α → List V) (x : List α) : List V:=[.im false (x.map f)]

structure I_AttrType where
  Name_ : ByteArray
  Syntax_ : Int
  Single_ : Bool
deriving Inhabited
def c_I_AttrType (b : Bool) (x : I_AttrType) : List V:=[.str x.Name_,.int .i64 x.Syntax_,.bool x.Single_]
structure I_Class where
  Name_ : ByteArray
  Up_ : ByteArray
  Must_ : (List ByteArray)
  May_ : (List ByteArray)
deriving Inhabited
def c_I_Class (b : Bool) (x : I_Class) : List V:=[.str x.Name_,.str x.Up_,.im b (x.Must_.map (c_str)),.im b (x.May_.map (c_str))]
structure I_DirSchema where
  Types_ : (List I_AttrType)
  Classes_ : (List I_Class)
deriving Inhabited
def c_I_DirSchema (b : Bool) (x : I_DirSchema) : List V:=[.im b (x.Types_.map (c_I_AttrType false)),.im b (x.Classes_.map (c_I_Class false))]
structure I_Part where
  Attr_ : ByteArray
  Text_ : ByteArray
deriving Inhabited
def c_I_Part (b : Bool) (x : I_Part) : List V:=[.str x.Attr_,.str x.Text_]
structure I_Attr where
  Name_ : ByteArray
  Values_ : (List ByteArray)
deriving Inhabited
def c_I_Attr (b : Bool) (x : I_Attr) : List V:=[.str x.Name_,.im b (x.Values_.map (c_str))]
structure I_Entry where
  Name_ : (List I_Part)
  Attrs_ : (List I_Attr)
deriving Inhabited
def c_I_Entry (b : Bool) (x : I_Entry) : List V:=[.im b (x.Name_.map (c_I_Part false)),.im b (x.Attrs_.map (c_I_Attr false))]
structure I_FilterNode where
  Kind_ : Int
  Attr_ : ByteArray
  Text_ : ByteArray
  Kids_ : Int
deriving Inhabited
def c_I_FilterNode (b : Bool) (x : I_FilterNode) : List V:=[.int .i64 x.Kind_,.str x.Attr_,.str x.Text_,.int .i64 x.Kids_]
structure T_spec_l1Cur where
  code_ : (List Int)
  at_ : Int
  seed_ : Int
deriving Inhabited
def c_T_spec_l1Cur (b : Bool) (x : T_spec_l1Cur) : List V:=[.im b (x.code_.map (c_int .u8)),.int .i64 x.at_,.int .u64 x.seed_]
structure T_strings_Builder where
  addr_ : Unit
  buf_ : (List Int)
deriving Inhabited
structure T_spec_l3F where
  n_ : I_FilterNode
  kids_ : (List (List V))
deriving Inhabited
def c_T_spec_l3F (b : Bool) (x : T_spec_l3F) : List V:=((c_I_FilterNode b x.n_) ++ [.im b (x.kids_.map (c_raw))])
def dec_T_spec_l3F : List V → Option T_spec_l3F
  | [.int .i64 y2,.str y3,.str y4,.int .i64 y5,.im false y6]=>some ⟨(⟨y2,y3,y4,y5⟩ : I_FilterNode),y6⟩
  | _=>none
theorem dec_T_spec_l3F_s {r : List V} {x : T_spec_l3F} (h : dec_T_spec_l3F r = some x) : c_raw r = c_T_spec_l3F false x:=by
  unfold dec_T_spec_l3F at h
  split at h
  · injection h with h; subst h; simp [c_raw,c_T_spec_l3F,map_raw,c_I_FilterNode]
  · cases h

theorem tyS_26 : TyS Tryz.prog 26 true 2:=⟨rfl,rfl⟩
theorem tyS_9 : TyS Tryz.prog 9 false 1:=⟨rfl,rfl⟩
theorem tyS_106 : TyS Tryz.prog 106 true 3:=⟨rfl,rfl⟩
theorem tyS_3 : TyS Tryz.prog 3 false 1:=⟨rfl,rfl⟩
theorem tyS_4 : TyS Tryz.prog 4 false 1:=⟨rfl,rfl⟩
theorem tyS_22 : TyS Tryz.prog 22 false 1:=⟨rfl,rfl⟩
theorem tyS_5 : TyS Tryz.prog 5 false 1:=⟨rfl,rfl⟩
noncomputable def spec_l1Cur_next_j1 (s0 : T_spec_l1Cur) (v1 : Int) : Option (Int × T_spec_l1Cur) :=
  cond (decide ((IntKind.i64.wrap (s0.at_ + 1)) ≤ (s0.code_.length : Int))) (some (v1,(⟨s0.code_,(IntKind.i64.wrap (s0.at_ + 1)),(IntKind.u64.wrap ((IntKind.u64.wrap ((IntKind.u64.wrap (s0.seed_ * 6364136223846793005)) + (IntKind.u64.wrap v1))) + 1442695040888963407))⟩ : T_spec_l1Cur))) (some ((IntKind.i64.wrap (IntKind.u64.wrap (BitVec.ofInt IntKind.u64.bits (Int.fdiv (IntKind.u64.wrap ((IntKind.u64.wrap ((IntKind.u64.wrap (s0.seed_ * 6364136223846793005)) + (IntKind.u64.wrap v1))) + 1442695040888963407)) (2 ^ (min (Int.toNat 40) IntKind.u64.bits))) &&& BitVec.ofInt IntKind.u64.bits 255).toNat)),(⟨s0.code_,(IntKind.i64.wrap (s0.at_ + 1)),(IntKind.u64.wrap ((IntKind.u64.wrap ((IntKind.u64.wrap (s0.seed_ * 6364136223846793005)) + (IntKind.u64.wrap v1))) + 1442695040888963407))⟩ : T_spec_l1Cur)))
noncomputable def spec_l1Cur_next (s0 : T_spec_l1Cur) : Option (Int × T_spec_l1Cur) :=
  cond (decide (s0.at_ < (s0.code_.length : Int))) ((idx s0.code_ s0.at_).bind fun e2=>spec_l1Cur_next_j1 s0 (IntKind.i64.wrap e2)) (spec_l1Cur_next_j1 s0 0)
theorem spec_l1Cur_next_p (c0 : Bool) {s0 : T_spec_l1Cur} {R0 : Int} {U0 : T_spec_l1Cur} (H : spec_l1Cur_next s0 = some (R0,U0)) : St Tryz.prog 89 [.bx 0 0] [.box (c_T_spec_l1Cur c0 s0)] (.int .i64 R0) [.box (c_T_spec_l1Cur c0 U0)]:=by
 refine CallT.fin (CallT.of_TN (n:=62) Tryz.func89 rfl rfl rfl rfl ?_) rfl rfl ⟨(bels_iff.1 rfl),trivial⟩
 refine au 8 ?_
 refine T.cut (fun fr' σ'=>∃ (v1 : Int),fr' = [(0,.bx 0 0),(3,.int .i64 v1)] ∧ σ' = [.box (c_T_spec_l1Cur c0 s0)] ∧ spec_l1Cur_next_j1 s0 v1 = some (R0,U0)) (T.pk ?_) ?_
 ·skip
  refine T.seq ?_
  refine T.drawn rfl ?_
  refine ad 8 ?_
  refine TD.qs rfl rfl (fun _=>o_lenL (f:=c_int .u8) rfl rfl rfl) ?_
  refine TD.qs rfl rfl (fun _=>o_ari rfl rfl rfl rfl) ?_
  refine TD.nil ⟨rfl,?_⟩
  refine thn_normal ?_
  refine T.cH H ?_ ?_<;>intro H h
  ·refine T.drawn rfl ?_
   refine ad 8 ?_
   obtain ⟨e2,h3,H⟩:=bind_s H
   refine TD.qs rfl rfl (fun _=>o_ix (f:=c_int .u8) rfl rfl tyS_5 rfl rfl h3 rfl) ?_
   refine TD.qs rfl rfl (fun _=>o_loadRf rfl tyS_5 rfl (nb rfl) rfl) ?_
   refine TD.qs rfl rfl (fun _=>o_conv rfl rfl ⟨_,rfl⟩ rfl) ?_
   refine TD.qs rfl rfl (fun _=>o_assign rfl rfl) ?_
   refine TD.nil ⟨rfl,?_⟩
   exact Pk.of (thn_normal ⟨(IntKind.i64.wrap e2),rfl,rfl,H⟩)
  ·refine T.skip ?_
   exact Pk.of (thn_normal ⟨0,rfl,rfl,H⟩)
 ·rintro _ _ ⟨v1,rfl,rfl,H⟩
  refine au 20 ?_
  refine TL.st rfl rfl rfl (o_conv rfl rfl ⟨_,rfl⟩ rfl) ?_
  refine au 8 ?_
  refine T.drawn rfl ?_
  refine ad 8 ?_
  refine TD.qs rfl rfl (fun _=>o_lenL (f:=c_int .u8) rfl rfl rfl) ?_
  refine TD.qs rfl rfl (fun _=>o_ari rfl rfl rfl rfl) ?_
  refine TD.nil ⟨rfl,?_⟩
  refine thn_normal ?_
  refine T.cH H ?_ ?_<;>intro H h
  ·refine au 6 ?_
   refine thn_ret ?_
   cases some_i H
   exact ⟨trivial,_,(.tmp _ _ _ _ rfl .nil),⟨rfl,_,rfl⟩⟩
  ·refine au 7 ?_
   refine TL.st rfl rfl rfl (o_shr rfl rfl rfl (by decide)) ?_
   refine TL.st rfl rfl rfl (o_bits rfl rfl rfl rfl) ?_
   refine TL.st rfl rfl rfl (o_conv rfl rfl ⟨_,rfl⟩ rfl) ?_
   refine au 3 ?_
   cases some_i H
   exact ⟨trivial,_,(.tmp _ _ _ _ rfl .nil),⟨rfl,_,rfl⟩⟩
theorem en_89 : En Tryz.prog 89:=.of Tryz.func89 rfl rfl
noncomputable def spec_l1Cur_pick_j1 (a0 : Int) (b4 : T_spec_l1Cur) (v5 : Int) : Option (Int × T_spec_l1Cur) :=
  (nz a0).bind fun z6=>some ((Int.tmod v5 a0),b4)
noncomputable def spec_l1Cur_pick (a0 : Int) (s0 : T_spec_l1Cur) : Option (Int × T_spec_l1Cur) :=
  cond (decide (a0 ≤ 1)) (some (0,s0)) ((spec_l1Cur_next s0).bind fun q=>(match q with | (r1,o2)=>cond (decide (a0 > 200)) ((spec_l1Cur_next o2).bind fun q=>(match q with | (r8,o9)=>spec_l1Cur_pick_j1 a0 o9 (IntKind.i64.wrap ((IntKind.i64.wrap (r1 * 256)) + r8)))) (spec_l1Cur_pick_j1 a0 o2 r1)))
theorem spec_l1Cur_pick_p (c0 : Bool) {a0 : Int} {s0 : T_spec_l1Cur} {R0 : Int} {U0 : T_spec_l1Cur} (H : spec_l1Cur_pick a0 s0 = some (R0,U0)) : St Tryz.prog 42 [.bx 0 0,.int .i64 a0] [.box (c_T_spec_l1Cur c0 s0)] (.int .i64 R0) [.box (c_T_spec_l1Cur c0 U0)]:=by
 refine CallT.fin (CallT.of_TN (n:=20) Tryz.func42 rfl rfl rfl rfl ?_) rfl rfl ⟨(bels_iff.1 rfl),trivial⟩
 refine au 10 ?_
 refine T.cH H ?_ ?_<;>intro H h
 ·refine au 5 ?_
  refine thn_ret ?_
  cases some_i H
  exact ⟨trivial,_,(.tmp _ _ _ _ rfl .nil),⟨rfl,_,rfl⟩⟩
 ·refine au 4 ?_
  obtain ⟨⟨r1,o2⟩,h3,H⟩:=bind_s H
  refine TL.st rfl rfl rfl (o_callS [0] rfl en_89 rfl rfl (spec_l1Cur_next_p c0 h3) rfl (by decide) (.cons _ _ _ _ rfl .nil) rfl rfl rfl) ?_
  refine au 2 ?_
  refine T.cut (fun fr' σ'=>∃ (b4 : T_spec_l1Cur) (v5 : Int),fr' = [(1,.int .i64 a0),(5,.int .i64 v5)] ∧ σ' = [.box (c_T_spec_l1Cur c0 b4)] ∧ spec_l1Cur_pick_j1 a0 b4 v5 = some (R0,U0)) (T.pk ?_) ?_
  ·skip
   refine au 5 ?_
   refine T.cH H ?_ ?_<;>intro H h
   ·refine au 4 ?_
    obtain ⟨⟨r8,o9⟩,h10,H⟩:=bind_s H
    refine TL.st rfl rfl rfl (o_callS [0] rfl en_89 rfl rfl (spec_l1Cur_next_p c0 h10) rfl (by decide) (.cons _ _ _ _ rfl .nil) rfl rfl rfl) ?_
    refine au 3 ?_
    exact Pk.of (thn_normal ⟨o9,(IntKind.i64.wrap ((IntKind.i64.wrap (r1 * 256)) + r8)),rfl,rfl,H⟩)
   ·refine T.skip ?_
    exact Pk.of (thn_normal ⟨o2,r1,rfl,rfl,H⟩)
  ·rintro _ _ ⟨b4,v5,rfl,rfl,H⟩
   refine au 4 ?_
   obtain ⟨z6,h7,H⟩:=bind_s H
   refine TL.st rfl rfl rfl (o_rem rfl rfl rfl (nz_s h7).1) ?_
   refine au 3 ?_
   cases some_i H
   exact ⟨trivial,_,(.tmp _ _ _ _ rfl .nil),⟨rfl,_,rfl⟩⟩
theorem en_42 : En Tryz.prog 42:=.of Tryz.func42 rfl rfl
noncomputable def spec_l1Cur_one (a0 : Int) (s0 : T_spec_l1Cur) : Option (Bool × T_spec_l1Cur) :=
  (spec_l1Cur_pick a0 s0).bind fun q=>(match q with | (r1,o2)=>some ((r1 == 0),o2))
theorem spec_l1Cur_one_p (c0 : Bool) {a0 : Int} {s0 : T_spec_l1Cur} {R0 : Bool} {U0 : T_spec_l1Cur} (H : spec_l1Cur_one a0 s0 = some (R0,U0)) : St Tryz.prog 41 [.bx 0 0,.int .i64 a0] [.box (c_T_spec_l1Cur c0 s0)] (.bool R0) [.box (c_T_spec_l1Cur c0 U0)]:=by
 refine CallT.fin (CallT.of_TN (n:=9) Tryz.func41 rfl rfl rfl rfl ?_) rfl rfl ⟨(bels_iff.1 rfl),trivial⟩
 refine au 8 ?_
 obtain ⟨⟨r1,o2⟩,h3,H⟩:=bind_s H
 refine TL.st rfl rfl rfl (o_callS [0] rfl en_42 rfl rfl (spec_l1Cur_pick_p c0 h3) rfl (by decide) (.cons _ _ _ _ rfl .nil) rfl rfl rfl) ?_
 refine au 4 ?_
 cases some_i H
 exact ⟨trivial,_,(.tmp _ _ _ _ rfl .nil),⟨rfl,_,rfl⟩⟩
theorem en_41 : En Tryz.prog 41:=.of Tryz.func41 rfl rfl
theorem tyS_23 : TyS Tryz.prog 23 false 1:=⟨rfl,rfl⟩
theorem tyE_106 : TyE Tryz.prog 106 3:=⟨_,_,rfl,rfl,rfl,rfl,by decide,by decide⟩
def k_impl_DirSchema (a1 a2 : Nat) (b : Bool) (x : I_DirSchema) : List V:=[.hd a1 (x.Types_.map (c_I_AttrType false)).length 0 (x.Types_.map (c_I_AttrType false)).length,.hd a2 (x.Classes_.map (c_I_Class false)).length 0 (x.Classes_.map (c_I_Class false)).length]
theorem tyS_108 : TyS Tryz.prog 108 true 4:=⟨rfl,rfl⟩
theorem tyS_43 : TyS Tryz.prog 43 false 1:=⟨rfl,rfl⟩
noncomputable def spec_l3Type_l1 (a0 : I_DirSchema) (a1 : ByteArray) : Int → Option (Int ⊕ (Unit ⊕ (I_AttrType × Bool))):=fun s=>match s with
  | v1=>cond (decide (v1 < (a0.Types_.length : Int))) ((idx a0.Types_ v1).bind fun e4=>cond (e4.Name_.toList == a1.toList) (some (.inr (.inr (e4,true)))) (some (.inl (IntKind.i64.wrap (v1 + 1))))) (some (.inr (.inl ())))
noncomputable def spec_l3Type (a0 : I_DirSchema) (a1 : ByteArray) : Option (I_AttrType × Bool) :=
  (loopO (spec_l3Type_l1 a0 a1) 0).bind fun q6=>(match q6 with | .inl _=>some ((⟨e0,0,false⟩ : I_AttrType),false) | .inr q2=>some q2)
theorem spec_l3Type_p (b0 : Bool) {a0 : I_DirSchema} {a1 : ByteArray} {R0 : I_AttrType} {R1 : Bool} (H : spec_l3Type a0 a1 = some (R0,R1)) : Pure Tryz.prog 65 [.agg (c_I_DirSchema b0 a0),.str a1] (.tup [.agg (c_I_AttrType false R0),.bool R1]):=by
 refine CallT.of_TN (n:=22) Tryz.func65 rfl rfl rfl rfl ?_
 refine au 11 ?_
 refine TL.st rfl rfl rfl (o_lenL (f:=c_I_AttrType false) rfl rfl rfl) ?_
 refine au 3 ?_
 obtain ⟨q6,h7,H⟩:=bind_s H
 refine T.lq (fun s=>match s with | v1=>[(1,.str a1),(4,.bx 1 0),(9,.im b0 (a0.Types_.map (c_I_AttrType false))),(10,.int .i64 (a0.Types_.length : Int)),(11,.int .i64 v1)]) (fun s=>match s with | v1=>[.box (c_I_DirSchema b0 a0),.box [.str e0,.int .i64 0,.bool false]]) (fun q ex fr σ=>match q with | .inl _=>ex = .exit 0 ∧ fr = [(4,.bx 1 0)] ∧ σ = [.box (c_I_DirSchema b0 a0),.box [.str e0,.int .i64 0,.bool false]] | .inr q2=>ex = .ret ∧ RetN Tryz.prog [.cell 4 106,.tmp 5] (fun v τ=>Told τ v (.tup [.agg (c_I_AttrType false q2.1),.bool q2.2])) .ret fr σ) h7 ?_ ?_
 ·rintro v1 y3 H
  refine au 5 ?_
  refine T.cH H ?_ ?_<;>intro H h
  ·refine au 5 ?_
   obtain ⟨e4,h5,H⟩:=bind_s H
   refine TL.st rfl rfl rfl (o_ix (f:=c_I_AttrType false) rfl rfl tyS_106 rfl rfl h5 rfl) ?_
   refine au 11 ?_
   refine T.cH H ?_ ?_<;>intro H h
   ·refine au 6 ?_
    refine T.conv (Cs.eqS (σ':=[_,.box (c_I_AttrType false e4),.box (c_I_AttrType false e4)]) rfl) ?_
    refine T.ret ?_
    refine inB_ret (thn_ret ?_)
    exact Pk.id (thn_ret ⟨.inr (e4,true),(some_i H).symm,rfl,⟨trivial,_,(.cell _ _ _ _ _ _ _ _ _ _ rfl rfl tyS_106 (nb rfl) rfl (.tmp _ _ _ _ rfl .nil)),(.tupL (.cons _ _ _ _ (.cl _ rfl) (.cons _ _ _ _ (.cl _ rfl) .nil)))⟩⟩)
   ·refine au 5 ?_
    exact Pk.of (thn_normal ⟨(IntKind.i64.wrap (v1 + 1)),(some_i H).symm,rfl,rfl⟩)
  ·refine T.exit ?_
   refine thn_exit ?_
   exact Pk.of (thn_exit ⟨.inl (),(some_i H).symm,rfl,rfl,rfl⟩)
 ·rcases q6 with ⟨⟩ | q2
  ·rintro _ _ _ ⟨rfl,rfl,rfl⟩
   refine inB_here ?_
   refine au 7 ?_
   cases some_i H
   exact ⟨trivial,_,(.cell _ _ _ _ _ _ _ _ _ _ rfl rfl tyS_106 (nb rfl) rfl (.tmp _ _ _ _ rfl .nil)),(.tupL (.cons _ _ _ _ (.cl _ rfl) (.cons _ _ _ _ (.cl _ rfl) .nil)))⟩
  ·rintro _ fr1 σ1 ⟨rfl,hr⟩
   refine inB_ret (thn_ret ?_)
   cases some_i H
   exact hr
theorem en_65 : En Tryz.prog 65:=.of Tryz.func65 rfl rfl
theorem tyE_9 : TyE Tryz.prog 9 1:=⟨_,_,rfl,rfl,rfl,rfl,by decide,by decide⟩
theorem tyE_43 : TyE Tryz.prog 43 1:=⟨_,_,rfl,rfl,rfl,rfl,by decide,by decide⟩
theorem tyS_24 : TyS Tryz.prog 24 false 1:=⟨rfl,rfl⟩
theorem tyE_108 : TyE Tryz.prog 108 4:=⟨_,_,rfl,rfl,rfl,rfl,by decide,by decide⟩
noncomputable def spec_l1Cur_dirSchema_l4 (b6 : I_DirSchema) (e22 : (List ByteArray)) : (List ByteArray × Int) → Option ((List ByteArray × Int) ⊕ List ByteArray):=fun s=>match s with
  | (l24,v25)=>cond (decide (v25 < (e22.length : Int))) ((idx e22 v25).bind fun e30=>(spec_l3Type b6 e30).bind fun q=>(match q with | (r32,r33)=>cond r33 ((app l24 ([e30] : List ByteArray)).bind fun l35=>some (.inl (l35,(IntKind.i64.wrap (v25 + 1))))) (some (.inl (l24,(IntKind.i64.wrap (v25 + 1))))))) (some (.inr l24))
noncomputable def spec_l1Cur_dirSchema_l3 (b6 : I_DirSchema) (e10 : I_Class) : (List (List ByteArray) × Int) → Option ((List (List ByteArray) × Int) ⊕ List (List ByteArray)):=fun s=>match s with
  | (l12,v13)=>cond (decide (v13 < (([e10.Must_,e10.May_] : List (List ByteArray)).length : Int))) ((idx ([e10.Must_,e10.May_] : List (List ByteArray)) v13).bind fun e22=>(loopO (spec_l1Cur_dirSchema_l4 b6 e22) (([] : List ByteArray),0)).bind fun l26=>(match l26 with | l26=>(app l12 ([l26] : List (List ByteArray))).bind fun l27=>some (.inl (l27,(IntKind.i64.wrap (v13 + 1)))))) (some (.inr l12))
noncomputable def spec_l1Cur_dirSchema_l2  : (I_DirSchema × Int) → Option ((I_DirSchema × Int) ⊕ I_DirSchema):=fun s=>match s with
  | (b6,v7)=>cond (decide (v7 < (([(⟨(ByteArray.mk #[71,114,111,117,112]),(ByteArray.mk #[84,111,112]),([] : List ByteArray),([(ByteArray.mk #[109,101,109,98,101,114])] : List ByteArray)⟩ : I_Class),(⟨(ByteArray.mk #[80,101,114,115,111,110]),(ByteArray.mk #[84,111,112]),([(ByteArray.mk #[99,110])] : List ByteArray),([(ByteArray.mk #[97,103,101]),(ByteArray.mk #[98,111,115,115]),(ByteArray.mk #[109,97,105,108])] : List ByteArray)⟩ : I_Class),(⟨(ByteArray.mk #[83,116,97,102,102]),(ByteArray.mk #[80,101,114,115,111,110]),([(ByteArray.mk #[97,103,101])] : List ByteArray),([] : List ByteArray)⟩ : I_Class),(⟨(ByteArray.mk #[84,111,112]),e0,([] : List ByteArray),([(ByteArray.mk #[111,117]),(ByteArray.mk #[114,101,102])] : List ByteArray)⟩ : I_Class)] : List I_Class).length : Int))) ((idx ([(⟨(ByteArray.mk #[71,114,111,117,112]),(ByteArray.mk #[84,111,112]),([] : List ByteArray),([(ByteArray.mk #[109,101,109,98,101,114])] : List ByteArray)⟩ : I_Class),(⟨(ByteArray.mk #[80,101,114,115,111,110]),(ByteArray.mk #[84,111,112]),([(ByteArray.mk #[99,110])] : List ByteArray),([(ByteArray.mk #[97,103,101]),(ByteArray.mk #[98,111,115,115]),(ByteArray.mk #[109,97,105,108])] : List ByteArray)⟩ : I_Class),(⟨(ByteArray.mk #[83,116,97,102,102]),(ByteArray.mk #[80,101,114,115,111,110]),([(ByteArray.mk #[97,103,101])] : List ByteArray),([] : List ByteArray)⟩ : I_Class),(⟨(ByteArray.mk #[84,111,112]),e0,([] : List ByteArray),([(ByteArray.mk #[111,117]),(ByteArray.mk #[114,101,102])] : List ByteArray)⟩ : I_Class)] : List I_Class) v7).bind fun e10=>(loopO (spec_l1Cur_dirSchema_l3 b6 e10) (([] : List (List ByteArray)),0)).bind fun l14=>(match l14 with | l14=>(idx l14 0).bind fun e15=>(idx l14 1).bind fun e17=>(app b6.Classes_ ([(⟨e10.Name_,e10.Up_,e15,e17⟩ : I_Class)] : List I_Class)).bind fun l19=>some (.inl ((⟨b6.Types_,l19⟩ : I_DirSchema),(IntKind.i64.wrap (v7 + 1)))))) (some (.inr b6))
noncomputable def spec_l1Cur_dirSchema_j1 (b1 : T_spec_l1Cur) (b2 : I_DirSchema) (v3 : Int) (e44 : ByteArray) (b46 : I_AttrType) : Option ((T_spec_l1Cur × I_DirSchema × Int) ⊕ (T_spec_l1Cur × I_DirSchema)) :=
  (cond (!(e44.toList == (ByteArray.mk #[99,108,97,115,115]).toList)) (spec_l1Cur_one 9 b1) (some (default,b1))).bind fun q=>(match q with | (r47,o48)=>cond ((e44.toList == (ByteArray.mk #[99,108,97,115,115]).toList) || (!r47)) ((app b2.Types_ ([b46] : List I_AttrType)).bind fun l50=>some (.inl (o48,(⟨l50,b2.Classes_⟩ : I_DirSchema),(IntKind.i64.wrap (v3 + 1))))) (some (.inl (o48,b2,(IntKind.i64.wrap (v3 + 1))))))
noncomputable def spec_l1Cur_dirSchema_j2 (b1 : T_spec_l1Cur) (b2 : I_DirSchema) (v3 : Int) (e44 : ByteArray) (v52 : Bool) : Option ((T_spec_l1Cur × I_DirSchema × Int) ⊕ (T_spec_l1Cur × I_DirSchema)) :=
  cond v52 (spec_l1Cur_dirSchema_j1 b1 b2 v3 e44 (⟨e44,4,(e44.toList == (ByteArray.mk #[98,111,115,115]).toList)⟩ : I_AttrType)) (cond (e44.toList == (ByteArray.mk #[109,97,105,108]).toList) (spec_l1Cur_dirSchema_j1 b1 b2 v3 e44 (⟨e44,2,false⟩ : I_AttrType)) (spec_l1Cur_dirSchema_j1 b1 b2 v3 e44 (⟨e44,1,false⟩ : I_AttrType)))
noncomputable def spec_l1Cur_dirSchema_l1  : (T_spec_l1Cur × I_DirSchema × Int) → Option ((T_spec_l1Cur × I_DirSchema × Int) ⊕ (T_spec_l1Cur × I_DirSchema)):=fun s=>match s with
  | (b1,b2,v3)=>cond (decide (v3 < (([(ByteArray.mk #[97,103,101]),(ByteArray.mk #[98,111,115,115]),(ByteArray.mk #[99,108,97,115,115]),(ByteArray.mk #[99,110]),(ByteArray.mk #[109,97,105,108]),(ByteArray.mk #[109,101,109,98,101,114]),(ByteArray.mk #[111,117]),(ByteArray.mk #[114,101,102])] : List ByteArray).length : Int))) ((idx ([(ByteArray.mk #[97,103,101]),(ByteArray.mk #[98,111,115,115]),(ByteArray.mk #[99,108,97,115,115]),(ByteArray.mk #[99,110]),(ByteArray.mk #[109,97,105,108]),(ByteArray.mk #[109,101,109,98,101,114]),(ByteArray.mk #[111,117]),(ByteArray.mk #[114,101,102])] : List ByteArray) v3).bind fun e44=>cond (e44.toList == (ByteArray.mk #[99,108,97,115,115]).toList) (spec_l1Cur_dirSchema_j1 b1 b2 v3 e44 (⟨e44,2,false⟩ : I_AttrType)) (cond (e44.toList == (ByteArray.mk #[97,103,101]).toList) (spec_l1Cur_dirSchema_j1 b1 b2 v3 e44 (⟨e44,3,true⟩ : I_AttrType)) (cond (e44.toList == (ByteArray.mk #[98,111,115,115]).toList) (spec_l1Cur_dirSchema_j2 b1 b2 v3 e44 (e44.toList == (ByteArray.mk #[98,111,115,115]).toList)) (spec_l1Cur_dirSchema_j2 b1 b2 v3 e44 (e44.toList == (ByteArray.mk #[109,101,109,98,101,114]).toList))))) (some (.inr (b1,b2)))
noncomputable def spec_l1Cur_dirSchema (s0 : T_spec_l1Cur) : Option (I_DirSchema × T_spec_l1Cur) :=
  (loopO (spec_l1Cur_dirSchema_l1) (s0,(⟨([] : List I_AttrType),([] : List I_Class)⟩ : I_DirSchema),0)).bind fun q53=>(match q53 with | (b4,b5)=>(loopO (spec_l1Cur_dirSchema_l2) (b5,0)).bind fun b8=>(match b8 with | b8=>some (b8,b4)))
theorem en_25 : En Tryz.prog 25:=.of Tryz.func25 rfl rfl
theorem spec_l1Cur_dirSchema_o (c0 : Bool) {s0 : T_spec_l1Cur} {R0 : I_DirSchema} {U0 : T_spec_l1Cur} (H : spec_l1Cur_dirSchema s0 = some (R0, U0)) : St Tryz.prog 25 [.bx 0 0] [.box (c_T_spec_l1Cur c0 s0)] (.agg [.hd 1 (R0.Types_.map (c_I_AttrType false)).length 0 (R0.Types_.map (c_I_AttrType false)).length, .hd 2 (R0.Classes_.map (c_I_Class false)).length 0 (R0.Classes_.map (c_I_Class false)).length]) [.box (c_T_spec_l1Cur c0 U0), .arr .clo 3 (R0.Types_.map (c_I_AttrType false)), .arr .clo 4 (R0.Classes_.map (c_I_Class false))] := by
 refine CallT.finR (CallT.of_TN (n:=122) Tryz.func25 rfl rfl rfl rfl ?_) rfl rfl ⟨(bels_iff.1 rfl),⟨trivial,⟨trivial,trivial⟩⟩⟩
 refine T.conv Cs.pushDead ?_
 refine T.conv Cs.pushDead ?_
 refine T.conv (Cs.wkF (M:=3) (.k 0 rfl rfl .nil)) ?_
 refine T.conv (Cs.eqS (σ':=[.box (c_T_spec_l1Cur c0 s0),.dead,.dead]) rfl) ?_
 refine au 12 ?_
 refine T.conv (Cs.eqS (σ':=[_,_,_,.box [.nilS,.nilS],.box [.nilS,.nilS]]) rfl) ?_
 refine T.region ?_
 refine TL.st rfl rfl rfl (o_sliceIm (rows:=([(ByteArray.mk #[97,103,101]),(ByteArray.mk #[98,111,115,115]),(ByteArray.mk #[99,108,97,115,115]),(ByteArray.mk #[99,110]),(ByteArray.mk #[109,97,105,108]),(ByteArray.mk #[109,101,109,98,101,114]),(ByteArray.mk #[111,117]),(ByteArray.mk #[114,101,102])] : List ByteArray).map (c_str)) rfl rfl tyS_9 ⟨_,rfl,rfl⟩ (by decide) rfl rfl rfl rfl rfl rfl) ?_
 refine TL.st rfl rfl rfl (o_lenL (f:=c_str) rfl rfl rfl) ?_
 refine au 3 ?_
 refine T.conv (Cs.ownCell (p:=4) 0 3 rfl rfl (by decide)) ?_
 refine T.conv (Cs.ownCell (p:=4) 1 4 rfl rfl (by decide)) ?_
 obtain ⟨q53,h54,H⟩:=bind_s H
 refine T.lq (fun s=>match s with | (b1,b2,v3)=>[(0,.bx 0 0),(2,.bx 3 0),(3,.bx 4 0),(18,.im false (([(ByteArray.mk #[97,103,101]),(ByteArray.mk #[98,111,115,115]),(ByteArray.mk #[99,108,97,115,115]),(ByteArray.mk #[99,110]),(ByteArray.mk #[109,97,105,108]),(ByteArray.mk #[109,101,109,98,101,114]),(ByteArray.mk #[111,117]),(ByteArray.mk #[114,101,102])] : List ByteArray).map (c_str))),(19,.int .i64 (([(ByteArray.mk #[97,103,101]),(ByteArray.mk #[98,111,115,115]),(ByteArray.mk #[99,108,97,115,115]),(ByteArray.mk #[99,110]),(ByteArray.mk #[109,97,105,108]),(ByteArray.mk #[109,101,109,98,101,114]),(ByteArray.mk #[111,117]),(ByteArray.mk #[114,101,102])] : List ByteArray).length : Int)),(20,.int .i64 v3)]) (fun s=>match s with | (b1,b2,v3)=>[.box (c_T_spec_l1Cur c0 b1),.dead,.dead,.box [.nilS,.nilS],.box (k_impl_DirSchema 5 6 false b2),.arr .clo 3 (b2.Types_.map (c_I_AttrType false)),.arr .clo 4 (b2.Classes_.map (c_I_Class false))]) (fun q ex fr σ=>match q with | (b4,b5)=>ex = .exit 0 ∧ fr = [(2,.bx 3 0),(3,.bx 4 0)] ∧ σ = [.box (c_T_spec_l1Cur c0 b4),.dead,.dead,.box [.nilS,.nilS],.box (k_impl_DirSchema 5 6 false b5),.arr .clo 3 (b5.Types_.map (c_I_AttrType false)),.arr .clo 4 (b5.Classes_.map (c_I_Class false))]) h54 ?_ ?_
 ·rintro ⟨b1, b2, v3⟩ y43 H
  refine au 5 ?_
  refine T.cH H ?_ ?_<;>intro H h
  ·refine au 5 ?_
   obtain ⟨e44,h45,H⟩:=bind_s H
   refine TL.st rfl rfl rfl (o_ix (f:=c_str) rfl rfl tyS_9 rfl rfl h45 rfl) ?_
   refine au 10 ?_
   refine T.cut (fun fr' σ'=>∃ (b46 : I_AttrType),fr' = [(0,.bx 0 0),(2,.bx 3 0),(3,.bx 4 0),(5,.str e44),(6,.bx 7 0),(18,.im false (([(ByteArray.mk #[97,103,101]),(ByteArray.mk #[98,111,115,115]),(ByteArray.mk #[99,108,97,115,115]),(ByteArray.mk #[99,110]),(ByteArray.mk #[109,97,105,108]),(ByteArray.mk #[109,101,109,98,101,114]),(ByteArray.mk #[111,117]),(ByteArray.mk #[114,101,102])] : List ByteArray).map (c_str))),(19,.int .i64 (([(ByteArray.mk #[97,103,101]),(ByteArray.mk #[98,111,115,115]),(ByteArray.mk #[99,108,97,115,115]),(ByteArray.mk #[99,110]),(ByteArray.mk #[109,97,105,108]),(ByteArray.mk #[109,101,109,98,101,114]),(ByteArray.mk #[111,117]),(ByteArray.mk #[114,101,102])] : List ByteArray).length : Int)),(20,.int .i64 v3)] ∧ σ' = [.box (c_T_spec_l1Cur c0 b1),.dead,.dead,.box [.nilS,.nilS],.box (k_impl_DirSchema 5 6 false b2),.arr .clo 3 (b2.Types_.map (c_I_AttrType false)),.arr .clo 4 (b2.Classes_.map (c_I_Class false)),.box (c_I_AttrType false b46)] ∧ spec_l1Cur_dirSchema_j1 b1 b2 v3 e44 b46 = some y43) (T.pk ?_) ?_
   ·skip
    refine au 10 ?_
    refine T.cH H ?_ ?_<;>intro H h
    ·refine au 4 ?_
     refine inB_normal ?_
     exact Pk.of (thn_normal ⟨(⟨e44,2,false⟩ : I_AttrType),rfl,rfl,H⟩)
    ·refine au 5 ?_
     refine T.cH H ?_ ?_<;>intro H h
     ·refine au 5 ?_
      refine T.conv (Cs.eqS (σ':=[_,_,_,_,_,_,_,.box [.str e44,.int .i64 3,.bool false]]) rfl) ?_
      refine au 4 ?_
      refine inB_normal ?_
      exact Pk.of (thn_normal ⟨(⟨e44,3,true⟩ : I_AttrType),rfl,rfl,H⟩)
     ·refine T.cut (fun fr' σ'=>∃ (v52 : Bool),fr' = [(0,.bx 0 0),(2,.bx 3 0),(3,.bx 4 0),(5,.str e44),(6,.bx 7 0),(18,.im false (([(ByteArray.mk #[97,103,101]),(ByteArray.mk #[98,111,115,115]),(ByteArray.mk #[99,108,97,115,115]),(ByteArray.mk #[99,110]),(ByteArray.mk #[109,97,105,108]),(ByteArray.mk #[109,101,109,98,101,114]),(ByteArray.mk #[111,117]),(ByteArray.mk #[114,101,102])] : List ByteArray).map (c_str))),(19,.int .i64 (([(ByteArray.mk #[97,103,101]),(ByteArray.mk #[98,111,115,115]),(ByteArray.mk #[99,108,97,115,115]),(ByteArray.mk #[99,110]),(ByteArray.mk #[109,97,105,108]),(ByteArray.mk #[109,101,109,98,101,114]),(ByteArray.mk #[111,117]),(ByteArray.mk #[114,101,102])] : List ByteArray).length : Int)),(20,.int .i64 v3),(26,.str e44),(34,.bool v52)] ∧ σ' = [.box (c_T_spec_l1Cur c0 b1),.dead,.dead,.box [.nilS,.nilS],.box (k_impl_DirSchema 5 6 false b2),.arr .clo 3 (b2.Types_.map (c_I_AttrType false)),.arr .clo 4 (b2.Classes_.map (c_I_Class false)),.box [.str e44,.int .i64 1,.bool false]] ∧ spec_l1Cur_dirSchema_j2 b1 b2 v3 e44 v52 = some y43) (T.pk ?_) ?_
      ·skip
       refine au 5 ?_
       refine T.cH H ?_ ?_<;>intro H h
       ·refine T.skip ?_
        exact Pk.of (thn_normal ⟨(e44.toList == (ByteArray.mk #[98,111,115,115]).toList),rfl,rfl,H⟩)
       ·refine au 4 ?_
        exact Pk.of (thn_normal ⟨(e44.toList == (ByteArray.mk #[109,101,109,98,101,114]).toList),rfl,rfl,H⟩)
      ·rintro _ _ ⟨v52,rfl,rfl,H⟩
       refine T.cH H ?_ ?_<;>intro H h
       ·refine au 11 ?_
        refine inB_normal ?_
        exact Pk.of (thn_normal ⟨(⟨e44,4,(e44.toList == (ByteArray.mk #[98,111,115,115]).toList)⟩ : I_AttrType),rfl,rfl,H⟩)
       ·refine au 5 ?_
        refine T.cH H ?_ ?_<;>intro H h
        ·refine au 4 ?_
         refine inB_normal ?_
         exact Pk.of (thn_normal ⟨(⟨e44,2,false⟩ : I_AttrType),rfl,rfl,H⟩)
        ·refine T.skip ?_
         refine inB_normal ?_
         exact Pk.of (thn_normal ⟨(⟨e44,1,false⟩ : I_AttrType),rfl,rfl,H⟩)
   ·rintro _ _ ⟨b46,rfl,rfl,H⟩
    refine au 6 ?_
    obtain ⟨⟨r47,o48⟩,h49,H⟩:=bind_s H
    refine TL.gc rfl rfl rfl (.bool _) rfl rfl (fun h=>o_callS [0] rfl en_41 rfl (evl_2 (gv h rfl) rfl) (spec_l1Cur_one_p c0 (cond_t h h49)) rfl (by decide) (.cons _ _ _ _ rfl .nil) rfl rfl rfl) (fun h=>by cases cond_f h h49; rfl) ?_
    refine au 3 ?_
    refine T.cH H ?_ ?_<;>intro H h
    ·refine au 4 ?_
     refine TL.st rfl rfl rfl (o_sliceIm (rows:=([b46] : List I_AttrType).map (c_I_AttrType false)) rfl rfl tyS_106 ⟨_,rfl,rfl⟩ (by decide) rfl rfl rfl rfl rfl rfl) ?_
     obtain ⟨l50,h51,H⟩:=bind_s H
     refine TL.st rfl rfl rfl (o_ap (f:=c_I_AttrType false) (xs:=b2.Types_) (ys:=([b46] : List I_AttrType)) rfl rfl tyE_106 rfl rfl rfl rfl (by decide) rfl (fun _=>rfl) h51) ?_
     refine TL.st rfl rfl rfl (o_fieldAddr rfl rfl rfl tyS_23 (by decide) rfl rfl ⟨_,rfl,Nat.le_of_ble_eq_true rfl⟩) ?_
     refine TL.sn rfl rfl (o_storeBx rfl tyS_23 rfl rfl rfl rfl (nb rfl) (sure_hd rfl rfl rfl)) ?_
     refine TL.nil ?_
     refine T.conv (Cs.eqS (σ':=[.box (c_T_spec_l1Cur c0 o48),_,_,_,.box (k_impl_DirSchema 5 6 false (⟨l50,b2.Classes_⟩ : I_DirSchema)),.arr .clo 3 (l50.map (c_I_AttrType false)),_,_]) rfl) ?_
     refine au 4 ?_
     exact Pk.of (thn_normal ⟨(o48,(⟨l50,b2.Classes_⟩ : I_DirSchema),(IntKind.i64.wrap (v3 + 1))),(some_i H).symm,rfl,rfl⟩)
    ·refine au 5 ?_
     exact Pk.of (thn_normal ⟨(o48,b2,(IntKind.i64.wrap (v3 + 1))),(some_i H).symm,rfl,rfl⟩)
  ·refine T.exit ?_
   refine thn_exit ?_
   exact Pk.of (thn_exit ⟨(b1,b2),(some_i H).symm,rfl,rfl,rfl⟩)
 ·rcases q53 with ⟨b4, b5⟩
  rintro _ _ _ ⟨rfl,rfl,rfl⟩
  refine inB_here ?_
  refine au 3 ?_
  refine TL.st rfl rfl rfl (o_sliceIm (rows:=([(ByteArray.mk #[109,101,109,98,101,114])] : List ByteArray).map (c_str)) rfl rfl tyS_9 ⟨_,rfl,rfl⟩ (by decide) rfl rfl rfl rfl rfl rfl) ?_
  refine TL.st rfl rfl rfl (Does.wk (o_build rfl ⟨_,fun _=>rfl,rfl⟩ rfl rfl rfl) (.aggL (.cons _ _ _ _ (.same _) (.cons _ _ _ _ (.same _) (.cons _ _ _ _ .nil (.cons _ _ _ _ (.same _) .nil)))))) ?_
  refine TL.st rfl rfl rfl (o_sliceIm (rows:=([(ByteArray.mk #[99,110])] : List ByteArray).map (c_str)) rfl rfl tyS_9 ⟨_,rfl,rfl⟩ (by decide) rfl rfl rfl rfl rfl rfl) ?_
  refine TL.st rfl rfl rfl (o_sliceIm (rows:=([(ByteArray.mk #[97,103,101]),(ByteArray.mk #[98,111,115,115]),(ByteArray.mk #[109,97,105,108])] : List ByteArray).map (c_str)) rfl rfl tyS_9 ⟨_,rfl,rfl⟩ (by decide) rfl rfl rfl rfl rfl rfl) ?_
  refine TL.st rfl rfl rfl (o_build rfl ⟨_,fun _=>rfl,rfl⟩ rfl rfl rfl) ?_
  refine TL.st rfl rfl rfl (o_sliceIm (rows:=([(ByteArray.mk #[97,103,101])] : List ByteArray).map (c_str)) rfl rfl tyS_9 ⟨_,rfl,rfl⟩ (by decide) rfl rfl rfl rfl rfl rfl) ?_
  refine TL.st rfl rfl rfl (Does.wk (o_build rfl ⟨_,fun _=>rfl,rfl⟩ rfl rfl rfl) (.aggL (.cons _ _ _ _ (.same _) (.cons _ _ _ _ (.same _) (.cons _ _ _ _ (.same _) (.cons _ _ _ _ .nil .nil)))))) ?_
  refine TL.st rfl rfl rfl (o_sliceIm (rows:=([(ByteArray.mk #[111,117]),(ByteArray.mk #[114,101,102])] : List ByteArray).map (c_str)) rfl rfl tyS_9 ⟨_,rfl,rfl⟩ (by decide) rfl rfl rfl rfl rfl rfl) ?_
  refine TL.st rfl rfl rfl (Does.wk (o_build rfl ⟨_,fun _=>rfl,rfl⟩ rfl rfl rfl) (.aggL (.cons _ _ _ _ (.same _) (.cons _ _ _ _ (.same _) (.cons _ _ _ _ .nil (.cons _ _ _ _ (.same _) .nil)))))) ?_
  refine TL.st rfl rfl rfl (o_sliceIm (rows:=([(⟨(ByteArray.mk #[71,114,111,117,112]),(ByteArray.mk #[84,111,112]),([] : List ByteArray),([(ByteArray.mk #[109,101,109,98,101,114])] : List ByteArray)⟩ : I_Class),(⟨(ByteArray.mk #[80,101,114,115,111,110]),(ByteArray.mk #[84,111,112]),([(ByteArray.mk #[99,110])] : List ByteArray),([(ByteArray.mk #[97,103,101]),(ByteArray.mk #[98,111,115,115]),(ByteArray.mk #[109,97,105,108])] : List ByteArray)⟩ : I_Class),(⟨(ByteArray.mk #[83,116,97,102,102]),(ByteArray.mk #[80,101,114,115,111,110]),([(ByteArray.mk #[97,103,101])] : List ByteArray),([] : List ByteArray)⟩ : I_Class),(⟨(ByteArray.mk #[84,111,112]),e0,([] : List ByteArray),([(ByteArray.mk #[111,117]),(ByteArray.mk #[114,101,102])] : List ByteArray)⟩ : I_Class)] : List I_Class).map (c_I_Class false)) rfl rfl tyS_108 ⟨_,rfl,rfl⟩ (by decide) rfl rfl rfl rfl rfl rfl) ?_
  refine TL.st rfl rfl rfl (o_lenL (f:=c_I_Class false) rfl rfl rfl) ?_
  refine au 3 ?_
  obtain ⟨b8,h42,H⟩:=bind_s H
  refine T.lq (fun s=>match s with | (b6,v7)=>[(2,.bx 3 0),(3,.bx 4 0),(67,.im false (([(⟨(ByteArray.mk #[71,114,111,117,112]),(ByteArray.mk #[84,111,112]),([] : List ByteArray),([(ByteArray.mk #[109,101,109,98,101,114])] : List ByteArray)⟩ : I_Class),(⟨(ByteArray.mk #[80,101,114,115,111,110]),(ByteArray.mk #[84,111,112]),([(ByteArray.mk #[99,110])] : List ByteArray),([(ByteArray.mk #[97,103,101]),(ByteArray.mk #[98,111,115,115]),(ByteArray.mk #[109,97,105,108])] : List ByteArray)⟩ : I_Class),(⟨(ByteArray.mk #[83,116,97,102,102]),(ByteArray.mk #[80,101,114,115,111,110]),([(ByteArray.mk #[97,103,101])] : List ByteArray),([] : List ByteArray)⟩ : I_Class),(⟨(ByteArray.mk #[84,111,112]),e0,([] : List ByteArray),([(ByteArray.mk #[111,117]),(ByteArray.mk #[114,101,102])] : List ByteArray)⟩ : I_Class)] : List I_Class).map (c_I_Class false))),(68,.int .i64 (([(⟨(ByteArray.mk #[71,114,111,117,112]),(ByteArray.mk #[84,111,112]),([] : List ByteArray),([(ByteArray.mk #[109,101,109,98,101,114])] : List ByteArray)⟩ : I_Class),(⟨(ByteArray.mk #[80,101,114,115,111,110]),(ByteArray.mk #[84,111,112]),([(ByteArray.mk #[99,110])] : List ByteArray),([(ByteArray.mk #[97,103,101]),(ByteArray.mk #[98,111,115,115]),(ByteArray.mk #[109,97,105,108])] : List ByteArray)⟩ : I_Class),(⟨(ByteArray.mk #[83,116,97,102,102]),(ByteArray.mk #[80,101,114,115,111,110]),([(ByteArray.mk #[97,103,101])] : List ByteArray),([] : List ByteArray)⟩ : I_Class),(⟨(ByteArray.mk #[84,111,112]),e0,([] : List ByteArray),([(ByteArray.mk #[111,117]),(ByteArray.mk #[114,101,102])] : List ByteArray)⟩ : I_Class)] : List I_Class).length : Int)),(69,.int .i64 v7)]) (fun s=>match s with | (b6,v7)=>[.box (c_T_spec_l1Cur c0 b4),.dead,.dead,.box [.nilS,.nilS],.box (k_impl_DirSchema 5 6 false b6),.arr .clo 3 (b6.Types_.map (c_I_AttrType false)),.arr .clo 4 (b6.Classes_.map (c_I_Class false))]) (fun q ex fr σ=>match q with | b8=>ex = .exit 3 ∧ fr = [(2,.bx 3 0),(3,.bx 4 0)] ∧ σ = [.box (c_T_spec_l1Cur c0 b4),.dead,.dead,.box [.nilS,.nilS],.box (k_impl_DirSchema 5 6 false b8),.arr .clo 3 (b8.Types_.map (c_I_AttrType false)),.arr .clo 4 (b8.Classes_.map (c_I_Class false))]) h42 ?_ ?_
  ·rintro ⟨b6,v7⟩ y9 H
   refine au 5 ?_
   refine T.cH H ?_ ?_<;>intro H h
   ·refine au 5 ?_
    obtain ⟨e10,h11,H⟩:=bind_s H
    refine TL.st rfl rfl rfl (o_ix (f:=c_I_Class false) rfl rfl tyS_108 rfl rfl h11 rfl) ?_
    refine au 15 ?_
    refine TL.st rfl rfl rfl (o_sliceIm (rows:=([e10.Must_,e10.May_] : List (List ByteArray)).map (c_sl (c_str))) rfl rfl tyS_43 ⟨_,rfl,rfl⟩ (by decide) rfl rfl rfl rfl rfl rfl) ?_
    refine TL.st rfl rfl rfl (o_lenL (f:=c_sl (c_str)) rfl rfl rfl) ?_
    refine au 3 ?_
    refine T.conv (Cs.own (t:=9) 1 rfl (by decide)) ?_
    obtain ⟨l14,h40,H⟩:=bind_s H
    refine T.lq (fun s=>match s with | (l12,v13)=>[(2,.bx 3 0),(3,.bx 4 0),(8,.bx 7 0),(9,.hd 8 (l12.map (c_sl (c_str))).length 0 (l12.map (c_sl (c_str))).length),(67,.im false (([(⟨(ByteArray.mk #[71,114,111,117,112]),(ByteArray.mk #[84,111,112]),([] : List ByteArray),([(ByteArray.mk #[109,101,109,98,101,114])] : List ByteArray)⟩ : I_Class),(⟨(ByteArray.mk #[80,101,114,115,111,110]),(ByteArray.mk #[84,111,112]),([(ByteArray.mk #[99,110])] : List ByteArray),([(ByteArray.mk #[97,103,101]),(ByteArray.mk #[98,111,115,115]),(ByteArray.mk #[109,97,105,108])] : List ByteArray)⟩ : I_Class),(⟨(ByteArray.mk #[83,116,97,102,102]),(ByteArray.mk #[80,101,114,115,111,110]),([(ByteArray.mk #[97,103,101])] : List ByteArray),([] : List ByteArray)⟩ : I_Class),(⟨(ByteArray.mk #[84,111,112]),e0,([] : List ByteArray),([(ByteArray.mk #[111,117]),(ByteArray.mk #[114,101,102])] : List ByteArray)⟩ : I_Class)] : List I_Class).map (c_I_Class false))),(68,.int .i64 (([(⟨(ByteArray.mk #[71,114,111,117,112]),(ByteArray.mk #[84,111,112]),([] : List ByteArray),([(ByteArray.mk #[109,101,109,98,101,114])] : List ByteArray)⟩ : I_Class),(⟨(ByteArray.mk #[80,101,114,115,111,110]),(ByteArray.mk #[84,111,112]),([(ByteArray.mk #[99,110])] : List ByteArray),([(ByteArray.mk #[97,103,101]),(ByteArray.mk #[98,111,115,115]),(ByteArray.mk #[109,97,105,108])] : List ByteArray)⟩ : I_Class),(⟨(ByteArray.mk #[83,116,97,102,102]),(ByteArray.mk #[80,101,114,115,111,110]),([(ByteArray.mk #[97,103,101])] : List ByteArray),([] : List ByteArray)⟩ : I_Class),(⟨(ByteArray.mk #[84,111,112]),e0,([] : List ByteArray),([(ByteArray.mk #[111,117]),(ByteArray.mk #[114,101,102])] : List ByteArray)⟩ : I_Class)] : List I_Class).length : Int)),(69,.int .i64 v7),(77,.im false (([e10.Must_,e10.May_] : List (List ByteArray)).map (c_sl (c_str)))),(78,.int .i64 (([e10.Must_,e10.May_] : List (List ByteArray)).length : Int)),(79,.int .i64 v13)]) (fun s=>match s with | (l12,v13)=>[.box (c_T_spec_l1Cur c0 b4),.dead,.dead,.box [.nilS,.nilS],.box (k_impl_DirSchema 5 6 false b6),.arr .clo 3 (b6.Types_.map (c_I_AttrType false)),.arr .clo 4 (b6.Classes_.map (c_I_Class false)),.box (c_I_Class false e10),.arr .clo 1 (l12.map (c_sl (c_str)))]) (fun q ex fr σ=>match q with | l14=>ex = .exit 5 ∧ fr = [(2,.bx 3 0),(3,.bx 4 0),(8,.bx 7 0),(9,.hd 8 (l14.map (c_sl (c_str))).length 0 (l14.map (c_sl (c_str))).length),(67,.im false (([(⟨(ByteArray.mk #[71,114,111,117,112]),(ByteArray.mk #[84,111,112]),([] : List ByteArray),([(ByteArray.mk #[109,101,109,98,101,114])] : List ByteArray)⟩ : I_Class),(⟨(ByteArray.mk #[80,101,114,115,111,110]),(ByteArray.mk #[84,111,112]),([(ByteArray.mk #[99,110])] : List ByteArray),([(ByteArray.mk #[97,103,101]),(ByteArray.mk #[98,111,115,115]),(ByteArray.mk #[109,97,105,108])] : List ByteArray)⟩ : I_Class),(⟨(ByteArray.mk #[83,116,97,102,102]),(ByteArray.mk #[80,101,114,115,111,110]),([(ByteArray.mk #[97,103,101])] : List ByteArray),([] : List ByteArray)⟩ : I_Class),(⟨(ByteArray.mk #[84,111,112]),e0,([] : List ByteArray),([(ByteArray.mk #[111,117]),(ByteArray.mk #[114,101,102])] : List ByteArray)⟩ : I_Class)] : List I_Class).map (c_I_Class false))),(68,.int .i64 (([(⟨(ByteArray.mk #[71,114,111,117,112]),(ByteArray.mk #[84,111,112]),([] : List ByteArray),([(ByteArray.mk #[109,101,109,98,101,114])] : List ByteArray)⟩ : I_Class),(⟨(ByteArray.mk #[80,101,114,115,111,110]),(ByteArray.mk #[84,111,112]),([(ByteArray.mk #[99,110])] : List ByteArray),([(ByteArray.mk #[97,103,101]),(ByteArray.mk #[98,111,115,115]),(ByteArray.mk #[109,97,105,108])] : List ByteArray)⟩ : I_Class),(⟨(ByteArray.mk #[83,116,97,102,102]),(ByteArray.mk #[80,101,114,115,111,110]),([(ByteArray.mk #[97,103,101])] : List ByteArray),([] : List ByteArray)⟩ : I_Class),(⟨(ByteArray.mk #[84,111,112]),e0,([] : List ByteArray),([(ByteArray.mk #[111,117]),(ByteArray.mk #[114,101,102])] : List ByteArray)⟩ : I_Class)] : List I_Class).length : Int)),(69,.int .i64 v7)] ∧ σ = [.box (c_T_spec_l1Cur c0 b4),.dead,.dead,.box [.nilS,.nilS],.box (k_impl_DirSchema 5 6 false b6),.arr .clo 3 (b6.Types_.map (c_I_AttrType false)),.arr .clo 4 (b6.Classes_.map (c_I_Class false)),.box (c_I_Class false e10),.arr .clo 1 (l14.map (c_sl (c_str)))]) h40 ?_ ?_
    ·rintro ⟨l12,v13⟩ y21 H
     refine au 5 ?_
     refine T.cH H ?_ ?_<;>intro H h
     ·refine au 5 ?_
      obtain ⟨e22,h23,H⟩:=bind_s H
      refine TL.st rfl rfl rfl (o_ix (f:=c_sl (c_str)) rfl rfl tyS_43 rfl rfl h23 rfl) ?_
      refine au 11 ?_
      refine TL.st rfl rfl rfl (o_lenL (f:=c_str) rfl rfl rfl) ?_
      refine au 3 ?_
      refine T.conv (Cs.own (t:=12) 1 rfl (by decide)) ?_
      obtain ⟨l26,h38,H⟩:=bind_s H
      refine T.lq (fun s=>match s with | (l24,v25)=>[(2,.bx 3 0),(3,.bx 4 0),(8,.bx 7 0),(9,.hd 8 (l12.map (c_sl (c_str))).length 0 (l12.map (c_sl (c_str))).length),(12,.hd 9 (l24.map (c_str)).length 0 (l24.map (c_str)).length),(67,.im false (([(⟨(ByteArray.mk #[71,114,111,117,112]),(ByteArray.mk #[84,111,112]),([] : List ByteArray),([(ByteArray.mk #[109,101,109,98,101,114])] : List ByteArray)⟩ : I_Class),(⟨(ByteArray.mk #[80,101,114,115,111,110]),(ByteArray.mk #[84,111,112]),([(ByteArray.mk #[99,110])] : List ByteArray),([(ByteArray.mk #[97,103,101]),(ByteArray.mk #[98,111,115,115]),(ByteArray.mk #[109,97,105,108])] : List ByteArray)⟩ : I_Class),(⟨(ByteArray.mk #[83,116,97,102,102]),(ByteArray.mk #[80,101,114,115,111,110]),([(ByteArray.mk #[97,103,101])] : List ByteArray),([] : List ByteArray)⟩ : I_Class),(⟨(ByteArray.mk #[84,111,112]),e0,([] : List ByteArray),([(ByteArray.mk #[111,117]),(ByteArray.mk #[114,101,102])] : List ByteArray)⟩ : I_Class)] : List I_Class).map (c_I_Class false))),(68,.int .i64 (([(⟨(ByteArray.mk #[71,114,111,117,112]),(ByteArray.mk #[84,111,112]),([] : List ByteArray),([(ByteArray.mk #[109,101,109,98,101,114])] : List ByteArray)⟩ : I_Class),(⟨(ByteArray.mk #[80,101,114,115,111,110]),(ByteArray.mk #[84,111,112]),([(ByteArray.mk #[99,110])] : List ByteArray),([(ByteArray.mk #[97,103,101]),(ByteArray.mk #[98,111,115,115]),(ByteArray.mk #[109,97,105,108])] : List ByteArray)⟩ : I_Class),(⟨(ByteArray.mk #[83,116,97,102,102]),(ByteArray.mk #[80,101,114,115,111,110]),([(ByteArray.mk #[97,103,101])] : List ByteArray),([] : List ByteArray)⟩ : I_Class),(⟨(ByteArray.mk #[84,111,112]),e0,([] : List ByteArray),([(ByteArray.mk #[111,117]),(ByteArray.mk #[114,101,102])] : List ByteArray)⟩ : I_Class)] : List I_Class).length : Int)),(69,.int .i64 v7),(77,.im false (([e10.Must_,e10.May_] : List (List ByteArray)).map (c_sl (c_str)))),(78,.int .i64 (([e10.Must_,e10.May_] : List (List ByteArray)).length : Int)),(79,.int .i64 v13),(83,.im false (e22.map (c_str))),(84,.int .i64 (e22.length : Int)),(85,.int .i64 v25)]) (fun s=>match s with | (l24,v25)=>[.box (c_T_spec_l1Cur c0 b4),.dead,.dead,.box [.nilS,.nilS],.box (k_impl_DirSchema 5 6 false b6),.arr .clo 3 (b6.Types_.map (c_I_AttrType false)),.arr .clo 4 (b6.Classes_.map (c_I_Class false)),.box (c_I_Class false e10),.arr .clo 1 (l12.map (c_sl (c_str))),.arr .clo 1 (l24.map (c_str))]) (fun q ex fr σ=>match q with | l26=>ex = .exit 7 ∧ fr = [(2,.bx 3 0),(3,.bx 4 0),(8,.bx 7 0),(9,.hd 8 (l12.map (c_sl (c_str))).length 0 (l12.map (c_sl (c_str))).length),(12,.hd 9 (l26.map (c_str)).length 0 (l26.map (c_str)).length),(67,.im false (([(⟨(ByteArray.mk #[71,114,111,117,112]),(ByteArray.mk #[84,111,112]),([] : List ByteArray),([(ByteArray.mk #[109,101,109,98,101,114])] : List ByteArray)⟩ : I_Class),(⟨(ByteArray.mk #[80,101,114,115,111,110]),(ByteArray.mk #[84,111,112]),([(ByteArray.mk #[99,110])] : List ByteArray),([(ByteArray.mk #[97,103,101]),(ByteArray.mk #[98,111,115,115]),(ByteArray.mk #[109,97,105,108])] : List ByteArray)⟩ : I_Class),(⟨(ByteArray.mk #[83,116,97,102,102]),(ByteArray.mk #[80,101,114,115,111,110]),([(ByteArray.mk #[97,103,101])] : List ByteArray),([] : List ByteArray)⟩ : I_Class),(⟨(ByteArray.mk #[84,111,112]),e0,([] : List ByteArray),([(ByteArray.mk #[111,117]),(ByteArray.mk #[114,101,102])] : List ByteArray)⟩ : I_Class)] : List I_Class).map (c_I_Class false))),(68,.int .i64 (([(⟨(ByteArray.mk #[71,114,111,117,112]),(ByteArray.mk #[84,111,112]),([] : List ByteArray),([(ByteArray.mk #[109,101,109,98,101,114])] : List ByteArray)⟩ : I_Class),(⟨(ByteArray.mk #[80,101,114,115,111,110]),(ByteArray.mk #[84,111,112]),([(ByteArray.mk #[99,110])] : List ByteArray),([(ByteArray.mk #[97,103,101]),(ByteArray.mk #[98,111,115,115]),(ByteArray.mk #[109,97,105,108])] : List ByteArray)⟩ : I_Class),(⟨(ByteArray.mk #[83,116,97,102,102]),(ByteArray.mk #[80,101,114,115,111,110]),([(ByteArray.mk #[97,103,101])] : List ByteArray),([] : List ByteArray)⟩ : I_Class),(⟨(ByteArray.mk #[84,111,112]),e0,([] : List ByteArray),([(ByteArray.mk #[111,117]),(ByteArray.mk #[114,101,102])] : List ByteArray)⟩ : I_Class)] : List I_Class).length : Int)),(69,.int .i64 v7),(77,.im false (([e10.Must_,e10.May_] : List (List ByteArray)).map (c_sl (c_str)))),(78,.int .i64 (([e10.Must_,e10.May_] : List (List ByteArray)).length : Int)),(79,.int .i64 v13)] ∧ σ = [.box (c_T_spec_l1Cur c0 b4),.dead,.dead,.box [.nilS,.nilS],.box (k_impl_DirSchema 5 6 false b6),.arr .clo 3 (b6.Types_.map (c_I_AttrType false)),.arr .clo 4 (b6.Classes_.map (c_I_Class false)),.box (c_I_Class false e10),.arr .clo 1 (l12.map (c_sl (c_str))),.arr .clo 1 (l26.map (c_str))]) h38 ?_ ?_
      ·rintro ⟨l24,v25⟩ y29 H
       refine au 5 ?_
       refine T.cH H ?_ ?_<;>intro H h
       ·refine au 5 ?_
        obtain ⟨e30,h31,H⟩:=bind_s H
        refine TL.st rfl rfl rfl (o_ix (f:=c_str) rfl rfl tyS_9 rfl rfl h31 rfl) ?_
        refine au 7 ?_
        obtain ⟨⟨r32,r33⟩,h34,H⟩:=bind_s H
        refine TL.st rfl rfl rfl (o_callP rfl en_65 rfl rfl (.cons _ _ _ _ (Lent.aggL (.cons _ _ _ _ (.own rfl (by decide) rfl) (.cons _ _ _ _ (.own rfl (by decide) rfl) .nil))) (.cons _ _ _ _ (.cl _ rfl) .nil)) (spec_l3Type_p true h34)) ?_
        refine au 11 ?_
        refine T.cH H ?_ ?_<;>intro H h
        ·refine au 3 ?_
         refine TL.st rfl rfl rfl (o_sliceIm (rows:=([e30] : List ByteArray).map (c_str)) rfl rfl tyS_9 ⟨_,rfl,rfl⟩ (by decide) rfl rfl rfl rfl rfl rfl) ?_
         obtain ⟨l35,h36,H⟩:=bind_s H
         refine TL.st rfl rfl rfl (o_ap (f:=c_str) (xs:=l24) (ys:=([e30] : List ByteArray)) rfl rfl tyE_9 rfl rfl rfl rfl (by decide) rfl (fun _=>rfl) h36) ?_
         refine au 2 ?_
         refine T.conv (Cs.eqS (σ':=[_,_,_,_,_,_,_,_,_,.arr .clo 1 (l35.map (c_str)),.box (c_I_AttrType false r32)]) rfl) ?_
         refine au 4 ?_
         exact Pk.of (thn_normal ⟨(l35,(IntKind.i64.wrap (v25 + 1))),(some_i H).symm,rfl,rfl⟩)
        ·refine au 5 ?_
         exact Pk.of (thn_normal ⟨(l24,(IntKind.i64.wrap (v25 + 1))),(some_i H).symm,rfl,rfl⟩)
       ·refine T.exit ?_
        refine thn_exit ?_
        exact Pk.of (thn_exit ⟨l24,(some_i H).symm,rfl,rfl,rfl⟩)
      ·rintro _ _ _ ⟨rfl,rfl,rfl⟩
       refine inB_here ?_
       refine au 3 ?_
       refine TL.conv (Cs.frzOwn (t:=102) rfl rfl rfl) ?_
       refine TL.st rfl rfl rfl (o_sliceIm (rows:=([l26] : List (List ByteArray)).map (c_sl (c_str))) rfl rfl tyS_43 ⟨_,rfl,rfl⟩ (by decide) rfl rfl rfl rfl rfl rfl) ?_
       obtain ⟨l27,h28,H⟩:=bind_s H
       refine TL.st rfl rfl rfl (o_ap (f:=c_sl (c_str)) (xs:=l12) (ys:=([l26] : List (List ByteArray))) rfl rfl tyE_43 rfl rfl rfl rfl (by decide) rfl (fun _=>rfl) h28) ?_
       refine au 6 ?_
       exact Pk.of (thn_normal ⟨(l27,(IntKind.i64.wrap (v13 + 1))),(some_i H).symm,rfl,rfl⟩)
     ·refine T.exit ?_
      refine thn_exit ?_
      exact Pk.of (thn_exit ⟨l12,(some_i H).symm,rfl,rfl,rfl⟩)
    ·rintro _ _ _ ⟨rfl,rfl,rfl⟩
     refine inB_here ?_
     refine au 3 ?_
     obtain ⟨e15,h16,H⟩:=bind_s H
     refine TL.st rfl rfl rfl (o_ixh (f:=c_sl (c_str)) rfl rfl tyS_43 rfl rfl rfl rfl h16 rfl) ?_
     refine TL.st rfl rfl rfl (o_loadEl rfl tyS_43 rfl rfl rfl (by rw [List.getElem?_map,(idx_s h16).2]; rfl) (nb rfl) rfl) ?_
     refine au 6 ?_
     obtain ⟨e17,h18,H⟩:=bind_s H
     refine TL.st rfl rfl rfl (o_ixh (f:=c_sl (c_str)) rfl rfl tyS_43 rfl rfl rfl rfl h18 rfl) ?_
     refine TL.st rfl rfl rfl (o_loadEl rfl tyS_43 rfl rfl rfl (by rw [List.getElem?_map,(idx_s h18).2]; rfl) (nb rfl) rfl) ?_
     refine au 7 ?_
     refine TL.st rfl rfl rfl (o_sliceIm (rows:=([(⟨e10.Name_,e10.Up_,e15,e17⟩ : I_Class)] : List I_Class).map (c_I_Class false)) rfl rfl tyS_108 ⟨_,rfl,rfl⟩ (by decide) rfl rfl rfl rfl rfl rfl) ?_
     obtain ⟨l19,h20,H⟩:=bind_s H
     refine TL.st rfl rfl rfl (o_ap (f:=c_I_Class false) (xs:=b6.Classes_) (ys:=([(⟨e10.Name_,e10.Up_,e15,e17⟩ : I_Class)] : List I_Class)) rfl rfl tyE_108 rfl rfl rfl rfl (by decide) rfl (fun _=>rfl) h20) ?_
     refine TL.st rfl rfl rfl (o_fieldAddr rfl rfl rfl tyS_24 (by decide) rfl rfl ⟨_,rfl,Nat.le_of_ble_eq_true rfl⟩) ?_
     refine TL.sn rfl rfl (o_storeBx rfl tyS_24 rfl rfl rfl rfl (nb rfl) (sure_hd rfl rfl rfl)) ?_
     refine TL.nil ?_
     refine T.conv (Cs.eqS (σ':=[_,_,_,_,.box (k_impl_DirSchema 5 6 false (⟨b6.Types_,l19⟩ : I_DirSchema)),_,.arr .clo 4 (l19.map (c_I_Class false)),.box [.str e10.Name_,.str e10.Up_,.im false (e15.map (c_str)),.im false (e17.map (c_str))],_]) rfl) ?_
     refine au 4 ?_
     exact Pk.of (thn_normal ⟨((⟨b6.Types_,l19⟩ : I_DirSchema),(IntKind.i64.wrap (v7 + 1))),(some_i H).symm,rfl,rfl⟩)
   ·refine T.exit ?_
    refine thn_exit ?_
    exact Pk.of (thn_exit ⟨b6,(some_i H).symm,rfl,rfl,rfl⟩)
  ·rintro _ _ _ ⟨rfl,rfl,rfl⟩
   refine inB_here ?_
   refine au 3 ?_
   refine TL.sn rfl rfl (o_storeBx rfl tyS_26 rfl rfl rfl rfl (nb rfl) (sure_hd rfl rfl (sure_hd rfl rfl rfl))) ?_
   refine TL.nil ?_
   refine T.conv (Cs.wkF (M:=7) (.k 2 rfl rfl .nil)) ?_
   refine T.conv (Cs.reloc 1 5 rfl rfl (by decide) rfl rfl rfl (nomS_get rfl)) ?_
   refine T.conv (Cs.wkF (M:=7) (.k 2 rfl rfl .nil)) ?_
   refine T.conv (Cs.eqS (σ':=[_,.arr .clo 3 (b8.Types_.map (c_I_AttrType false)),_,.box (k_impl_DirSchema 1 6 false b8),.box (k_impl_DirSchema 1 6 false b8),.dead,_]) rfl) ?_
   refine T.conv (Cs.reloc 2 6 rfl rfl (by decide) rfl rfl rfl (nomS_get rfl)) ?_
   refine T.conv (Cs.wkF (M:=7) (.k 2 rfl rfl .nil)) ?_
   refine T.conv (Cs.eqS (σ':=[_,_,.arr .clo 4 (b8.Classes_.map (c_I_Class false)),.box (k_impl_DirSchema 1 2 false b8),.box (k_impl_DirSchema 1 2 false b8),_,.dead]) rfl) ?_
   refine T.ret ?_
   cases some_i H
   exact ⟨trivial,_,(.cell _ _ _ _ _ _ _ _ _ _ rfl rfl tyS_26 (nb rfl) rfl .nil),⟨rfl,_,rfl⟩⟩
noncomputable def spec_l1Cur_of (a0 : (List ByteArray)) (s0 : T_spec_l1Cur) : Option (ByteArray × T_spec_l1Cur) :=
  (spec_l1Cur_pick (a0.length : Int) s0).bind fun q=>(match q with | (r1,o2)=>(idx a0 r1).bind fun e4=>some (e4,o2))
theorem spec_l1Cur_of_p (b0 : Bool) (c0 : Bool) {a0 : (List ByteArray)} {s0 : T_spec_l1Cur} {R0 : ByteArray} {U0 : T_spec_l1Cur} (H : spec_l1Cur_of a0 s0 = some (R0,U0)) : St Tryz.prog 43 [.bx 0 0,.im b0 (a0.map (c_str))] [.box (c_T_spec_l1Cur c0 s0)] (.str R0) [.box (c_T_spec_l1Cur c0 U0)]:=by
 refine CallT.fin (CallT.of_TN (n:=12) Tryz.func43 rfl rfl rfl rfl ?_) rfl rfl ⟨(bels_iff.1 rfl),trivial⟩
 refine au 9 ?_
 refine TL.st rfl rfl rfl (o_lenL (f:=c_str) rfl rfl rfl) ?_
 obtain ⟨⟨r1,o2⟩,h3,H⟩:=bind_s H
 refine TL.st rfl rfl rfl (o_callS [0] rfl en_42 rfl rfl (spec_l1Cur_pick_p c0 h3) rfl (by decide) (.cons _ _ _ _ rfl .nil) rfl rfl rfl) ?_
 obtain ⟨e4,h5,H⟩:=bind_s H
 refine TL.st rfl rfl rfl (o_ix (f:=c_str) rfl rfl tyS_9 rfl rfl h5 rfl) ?_
 refine au 4 ?_
 cases some_i H
 exact ⟨trivial,_,(.tmp _ _ _ _ rfl .nil),⟨rfl,_,rfl⟩⟩
theorem en_43 : En Tryz.prog 43:=.of Tryz.func43 rfl rfl
noncomputable def spec_l1Cur_oddDirSchemax (a0 : I_DirSchema) (s0 : T_spec_l1Cur) : Option (I_DirSchema × T_spec_l1Cur) :=
  (spec_l1Cur_pick 20 s0).bind fun q=>(match q with | (r1,o2)=>cond (r1 == 0) ((spec_l1Cur_pick (a0.Types_.length : Int) o2).bind fun q=>(match q with | (r4,o5)=>(spec_l1Cur_pick 3 o5).bind fun q=>(match q with | (r7,o8)=>(idx ([0,5,2] : List Int) r7).bind fun e10=>(idx a0.Types_ r4).bind fun e12=>some ((⟨(a0.Types_.set (Int.toNat r4) (⟨e12.Name_,e10,e12.Single_⟩ : I_AttrType)),a0.Classes_⟩ : I_DirSchema),o8)))) (cond (r1 == 1) ((spec_l1Cur_pick (a0.Types_.length : Int) o2).bind fun q=>(match q with | (r14,o15)=>(spec_l1Cur_of ([(ByteArray.mk #[122,122]),e0,(ByteArray.mk #[97,103,101])] : List ByteArray) o15).bind fun q=>(match q with | (r17,o18)=>(idx a0.Types_ r14).bind fun e20=>some ((⟨(a0.Types_.set (Int.toNat r14) (⟨r17,e20.Syntax_,e20.Single_⟩ : I_AttrType)),a0.Classes_⟩ : I_DirSchema),o18)))) (cond (r1 == 2) ((spec_l1Cur_pick (a0.Classes_.length : Int) o2).bind fun q=>(match q with | (r22,o23)=>(spec_l1Cur_of ([e0,(ByteArray.mk #[83,116,97,102,102]),(ByteArray.mk #[71,114,111,117,112]),(ByteArray.mk #[78,111,110,101]),(ByteArray.mk #[84,111,112])] : List ByteArray) o23).bind fun q=>(match q with | (r25,o26)=>(idx a0.Classes_ r22).bind fun e28=>some ((⟨a0.Types_,(a0.Classes_.set (Int.toNat r22) ({ e28 with Up_:=r25 } : I_Class))⟩ : I_DirSchema),o26)))) (cond (r1 == 3) ((spec_l1Cur_pick (a0.Classes_.length : Int) o2).bind fun q=>(match q with | (r30,o31)=>(spec_l1Cur_of ([(ByteArray.mk #[110,111,115,117,99,104]),(ByteArray.mk #[99,108,97,115,115]),(ByteArray.mk #[99,110])] : List ByteArray) o31).bind fun q=>(match q with | (r33,o34)=>(idx a0.Classes_ r30).bind fun e36=>some ((⟨a0.Types_,(a0.Classes_.set (Int.toNat r30) ({ e36 with Must_:=([r33] : List ByteArray) } : I_Class))⟩ : I_DirSchema),o34)))) (cond (r1 == 4) ((idx a0.Types_ 0).bind fun e38=>some ((⟨(a0.Types_.set (Int.toNat 0) (⟨e38.Name_,e38.Syntax_,true⟩ : I_AttrType)),a0.Classes_⟩ : I_DirSchema),o2)) (some (a0,o2)))))))
theorem spec_l1Cur_oddDirSchemax_o (c0 : Bool) {a0 : I_DirSchema} {s0 : T_spec_l1Cur} {R0 : I_DirSchema} {U0 : T_spec_l1Cur} (H : spec_l1Cur_oddDirSchemax a0 s0 = some (R0, U0)) : St Tryz.prog 24 [.bx 0 0, .agg [.hd 1 (a0.Types_.map (c_I_AttrType false)).length 0 (a0.Types_.map (c_I_AttrType false)).length, .hd 2 (a0.Classes_.map (c_I_Class false)).length 0 (a0.Classes_.map (c_I_Class false)).length]] [.box (c_T_spec_l1Cur c0 s0), .arr .clo 3 (a0.Types_.map (c_I_AttrType false)), .arr .clo 4 (a0.Classes_.map (c_I_Class false))] (.agg [.hd 5 (R0.Types_.map (c_I_AttrType false)).length 0 (R0.Types_.map (c_I_AttrType false)).length, .hd 6 (R0.Classes_.map (c_I_Class false)).length 0 (R0.Classes_.map (c_I_Class false)).length]) [.box (c_T_spec_l1Cur c0 U0), .dead, .dead, .dead, .dead, .arr .clo 3 (R0.Types_.map (c_I_AttrType false)), .arr .clo 4 (R0.Classes_.map (c_I_Class false))] := by
 refine CallT.finR (CallT.of_TN (n:=73) Tryz.func24 rfl rfl rfl rfl ?_) rfl rfl ⟨(bels_iff.1 rfl),⟨trivial,⟨trivial,⟨trivial,⟨trivial,⟨trivial,⟨trivial,trivial⟩⟩⟩⟩⟩⟩⟩
 refine T.conv (Cs.fresh 1 rfl rfl (by decide) rfl (nomS_all rfl rfl)) ?_
 refine T.conv (Cs.fresh 2 rfl rfl (by decide) rfl (nomS_all rfl rfl)) ?_
 refine T.conv Cs.pushDead ?_
 refine T.conv Cs.pushDead ?_
 refine T.conv (Cs.wkF (M:=7) (.k 0 rfl rfl (.k 1 rfl rfl .nil))) ?_
 refine T.conv (Cs.eqS (σ':=[.box (c_T_spec_l1Cur c0 s0),.dead,.dead,.arr .clo 3 (a0.Types_.map (c_I_AttrType false)),.arr .clo 4 (a0.Classes_.map (c_I_Class false)),.dead,.dead]) rfl) ?_
 refine au 2 ?_
 refine TL.st rfl rfl rfl (o_box rfl rfl (sure_hd rfl rfl (sure_hd rfl rfl rfl))) ?_
 refine au 6 ?_
 obtain ⟨⟨r1,o2⟩,h3,H⟩:=bind_s H
 refine TL.st rfl rfl rfl (o_callS [0] rfl en_42 rfl rfl (spec_l1Cur_pick_p c0 h3) rfl (by decide) (.cons _ _ _ _ rfl .nil) rfl rfl rfl) ?_
 refine TL.nil ?_
 refine T.conv (Cs.eqS (σ':=[.box (c_T_spec_l1Cur c0 o2),_,_,_,_,_,_,.box (k_impl_DirSchema 3 4 false a0),.box [.nilS,.nilS]]) rfl) ?_
 refine au 6 ?_
 refine T.cH H ?_ ?_<;>intro H h
 ·obtain ⟨⟨r4,o5⟩,h6,H⟩:=bind_s H
  obtain ⟨⟨r7,o8⟩,h9,H⟩:=bind_s H
  obtain ⟨e10,h11,H⟩:=bind_s H
  obtain ⟨e12,h13,H⟩:=bind_s H
  refine T.drawS (fr':=[(0,.bx 0 0),(1,.agg [.hd 3 (a0.Types_.map (c_I_AttrType false)).length 0 (a0.Types_.map (c_I_AttrType false)).length,.hd 4 (a0.Classes_.map (c_I_Class false)).length 0 (a0.Classes_.map (c_I_Class false)).length]),(3,.bx 7 0),(4,.bx 8 0),(5,.bx 0 0),(6,.int .i64 r1),(7,.bool (r1 == 0)),(8,.bool (r1 == 0)),(9,.bx 7 0),(10,.hd 3 (a0.Types_.map (c_I_AttrType false)).length 0 (a0.Types_.map (c_I_AttrType false)).length),(11,.bx 0 0),(12,.bx 7 0),(13,.hd 3 (a0.Types_.map (c_I_AttrType false)).length 0 (a0.Types_.map (c_I_AttrType false)).length),(14,.int .i64 (a0.Types_.length : Int)),(15,.int .i64 r4),(16,.im false (([0,5,2] : List Int).map (c_int .i64))),(17,.bx 0 0),(18,.int .i64 r7),(20,.int .i64 e10)]) (R:=[⟨some 9,.bx 7 0,.q,[]⟩,⟨some 10,.hd 3 (a0.Types_.map (c_I_AttrType false)).length 0 (a0.Types_.map (c_I_AttrType false)).length,.q,[]⟩,⟨some 11,.bx 0 0,.q,[]⟩,⟨some 12,.bx 7 0,.q,[]⟩,⟨some 13,.hd 3 (a0.Types_.map (c_I_AttrType false)).length 0 (a0.Types_.map (c_I_AttrType false)).length,.q,[]⟩,⟨some 14,.int .i64 (a0.Types_.length : Int),.q,[]⟩,⟨some 15,.int .i64 r4,.q,[]⟩,⟨some 16,.im false (([0,5,2] : List Int).map (c_int .i64)),.q,[]⟩,⟨some 17,.bx 0 0,.q,[]⟩,⟨some 18,.int .i64 r7,.q,[]⟩,⟨some 19,.rf false [.int .i64 e10],.q,[]⟩,⟨some 20,.int .i64 e10,.q,[]⟩,⟨some 21,.el 3 (a0.Types_.map (c_I_AttrType false)).length (Int.toNat r4) 0,.q,[]⟩,⟨some 22,.el 3 (a0.Types_.map (c_I_AttrType false)).length (Int.toNat r4) 1,.q,[]⟩,⟨none,.any,.q,[]⟩]) (fun b=>cond (b 6) (cond (b 9) (cond (b 14) ([.box (c_T_spec_l1Cur c0 o8),.dead,.dead,.arr .clo 3 ((a0.Types_.set (Int.toNat r4) (⟨e12.Name_,e10,e12.Single_⟩ : I_AttrType)).map (c_I_AttrType false)),.arr .clo 4 (a0.Classes_.map (c_I_Class false)),.dead,.dead,.box (k_impl_DirSchema 3 4 false (⟨(a0.Types_.set (Int.toNat r4) (⟨e12.Name_,e10,e12.Single_⟩ : I_AttrType)),a0.Classes_⟩ : I_DirSchema)),.box [.nilS,.nilS]]) ([.box (c_T_spec_l1Cur c0 o8),.dead,.dead,.arr .clo 3 (a0.Types_.map (c_I_AttrType false)),.arr .clo 4 (a0.Classes_.map (c_I_Class false)),.dead,.dead,.box (k_impl_DirSchema 3 4 false a0),.box [.nilS,.nilS]])) ([.box (c_T_spec_l1Cur c0 o5),.dead,.dead,.arr .clo 3 (a0.Types_.map (c_I_AttrType false)),.arr .clo 4 (a0.Classes_.map (c_I_Class false)),.dead,.dead,.box (k_impl_DirSchema 3 4 false a0),.box [.nilS,.nilS]])) ([.box (c_T_spec_l1Cur c0 o2),.dead,.dead,.arr .clo 3 (a0.Types_.map (c_I_AttrType false)),.arr .clo 4 (a0.Classes_.map (c_I_Class false)),.dead,.dead,.box (k_impl_DirSchema 3 4 false a0),.box [.nilS,.nilS]])) rfl ?_ ?_ rfl rfl (FrL.get (.cons rfl (.cons rfl (.cons rfl (.cons rfl (.cons rfl (.cons rfl (.cons rfl (.cons rfl (.cons rfl (.cons rfl (.cons rfl (.cons rfl (.cons rfl (.cons rfl (.cons rfl (.cons rfl (.cons rfl (.cons rfl (.cons rfl .nil)))))))))))))))))))) ?_
  ·refine .cons _ _ _ _ _ ⟨rfl,[(3,.bx 7 0)],AllN.get rfl (.cons rfl .nil),fun b hd hn hk hc=>?_⟩ ?_
   ·cases e6 : b 6
    ·cases e9 : b 9
     ·exact ops_at (cdf e6) rfl (o_fieldAddr rfl rfl rfl tyS_23 (by decide) rfl rfl ⟨_,rfl,Nat.le_of_ble_eq_true rfl⟩) (cdf ((updb_ne rfl).trans e6)) rfl
     ·exact absurd (hc 9 6 rfl rfl e9) (by rw [e6]; decide)
    ·cases e9 : b 9
     ·exact ops_at ((cdt e6).trans (cdf e9)) rfl (o_fieldAddr rfl rfl rfl tyS_23 (by decide) rfl rfl ⟨_,rfl,Nat.le_of_ble_eq_true rfl⟩) ((cdt ((updb_ne rfl).trans e6)).trans (cdf ((updb_ne rfl).trans e9))) rfl
     ·exact ops_at (((cdt e6).trans (cdt e9)).trans (cdf (hn 14 rfl))) rfl (o_fieldAddr rfl rfl rfl tyS_23 (by decide) rfl rfl ⟨_,rfl,Nat.le_of_ble_eq_true rfl⟩) (((cdt ((updb_ne rfl).trans e6)).trans (cdt ((updb_ne rfl).trans e9))).trans (cdf ((updb_ne rfl).trans (hn 14 rfl)))) rfl
   refine .cons _ _ _ _ _ ⟨rfl,[(9,.bx 7 0)],AllN.get rfl (.cons rfl .nil),fun b hd hn hk hc=>?_⟩ ?_
   ·cases e6 : b 6
    ·cases e9 : b 9
     ·exact ops_at (cdf e6) rfl (o_loadBx rfl tyS_23 rfl rfl (nb rfl) rfl) (cdf ((updb_ne rfl).trans e6)) rfl
     ·exact absurd (hc 9 6 rfl rfl e9) (by rw [e6]; decide)
    ·cases e9 : b 9
     ·exact ops_at ((cdt e6).trans (cdf e9)) rfl (o_loadBx rfl tyS_23 rfl rfl (nb rfl) rfl) ((cdt ((updb_ne rfl).trans e6)).trans (cdf ((updb_ne rfl).trans e9))) rfl
     ·exact ops_at (((cdt e6).trans (cdt e9)).trans (cdf (hn 14 rfl))) rfl (o_loadBx rfl tyS_23 rfl rfl (nb rfl) rfl) (((cdt ((updb_ne rfl).trans e6)).trans (cdt ((updb_ne rfl).trans e9))).trans (cdf ((updb_ne rfl).trans (hn 14 rfl)))) rfl
   refine .cons _ _ _ _ _ ⟨rfl,[(0,.bx 0 0)],AllN.get rfl (.cons rfl .nil),fun b hd hn hk hc=>?_⟩ ?_
   ·exact ops_at (cdf (hn 6 rfl)) rfl (o_move rfl rfl) (cdf ((updb_ne rfl).trans (hn 6 rfl))) rfl
   refine .cons _ _ _ _ _ ⟨rfl,[(3,.bx 7 0)],AllN.get rfl (.cons rfl .nil),fun b hd hn hk hc=>?_⟩ ?_
   ·exact ops_at (cdf (hn 6 rfl)) rfl (o_fieldAddr rfl rfl rfl tyS_23 (by decide) rfl rfl ⟨_,rfl,Nat.le_of_ble_eq_true rfl⟩) (cdf ((updb_ne rfl).trans (hn 6 rfl))) rfl
   refine .cons _ _ _ _ _ ⟨rfl,[(12,.bx 7 0)],AllN.get rfl (.cons rfl .nil),fun b hd hn hk hc=>?_⟩ ?_
   ·exact ops_at (cdf (hn 6 rfl)) rfl (o_loadBx rfl tyS_23 rfl rfl (nb rfl) rfl) (cdf ((updb_ne rfl).trans (hn 6 rfl))) rfl
   refine .cons _ _ _ _ _ ⟨rfl,[(13,.hd 3 (a0.Types_.map (c_I_AttrType false)).length 0 (a0.Types_.map (c_I_AttrType false)).length)],AllN.get rfl (.cons rfl .nil),fun b hd hn hk hc=>?_⟩ ?_
   ·exact ops_at (cdf (hn 6 rfl)) rfl (o_lenOwn (f:=c_I_AttrType false) rfl rfl rfl rfl rfl) (cdf ((updb_ne rfl).trans (hn 6 rfl))) rfl
   refine .cons _ _ _ _ _ ⟨rfl,[(11,.bx 0 0),(14,.int .i64 (a0.Types_.length : Int))],AllN.get rfl (.cons rfl (.cons rfl .nil)),fun b hd hn hk hc=>?_⟩ ?_
   ·exact ops_at (cdf hk) rfl (o_callS [0] rfl en_42 rfl rfl (spec_l1Cur_pick_p c0 h6) rfl (by decide) (.cons _ _ _ _ rfl .nil) rfl rfl rfl) (((cdt updb_self).trans (cdf ((updb_ne rfl).trans (hn 9 rfl)))).trans rfl) rfl
   refine .cons _ _ _ _ _ ⟨rfl,[],AllN.get rfl .nil,fun b hd hn hk hc=>?_⟩ ?_
   ·cases e6 : b 6
    ·cases e9 : b 9
     ·exact ops_at (cdf e6) rfl (o_sliceIm (rows:=([0,5,2] : List Int).map (c_int .i64)) rfl rfl tyS_3 ⟨_,rfl,rfl⟩ (by decide) rfl rfl rfl rfl rfl rfl) (cdf ((updb_ne rfl).trans e6)) rfl
     ·exact absurd (hc 9 6 rfl rfl e9) (by rw [e6]; decide)
    ·cases e9 : b 9
     ·exact ops_at ((cdt e6).trans (cdf e9)) rfl (o_sliceIm (rows:=([0,5,2] : List Int).map (c_int .i64)) rfl rfl tyS_3 ⟨_,rfl,rfl⟩ (by decide) rfl rfl rfl rfl rfl rfl) ((cdt ((updb_ne rfl).trans e6)).trans (cdf ((updb_ne rfl).trans e9))) rfl
     ·exact ops_at (((cdt e6).trans (cdt e9)).trans (cdf (hn 14 rfl))) rfl (o_sliceIm (rows:=([0,5,2] : List Int).map (c_int .i64)) rfl rfl tyS_3 ⟨_,rfl,rfl⟩ (by decide) rfl rfl rfl rfl rfl rfl) (((cdt ((updb_ne rfl).trans e6)).trans (cdt ((updb_ne rfl).trans e9))).trans (cdf ((updb_ne rfl).trans (hn 14 rfl)))) rfl
   refine .cons _ _ _ _ _ ⟨rfl,[(0,.bx 0 0)],AllN.get rfl (.cons rfl .nil),fun b hd hn hk hc=>?_⟩ ?_
   ·cases e6 : b 6
    ·exact ops_at (cdf e6) rfl (o_move rfl rfl) (cdf ((updb_ne rfl).trans e6)) rfl
    ·exact ops_at ((cdt e6).trans (cdf (hn 9 rfl))) rfl (o_move rfl rfl) ((cdt ((updb_ne rfl).trans e6)).trans (cdf ((updb_ne rfl).trans (hn 9 rfl)))) rfl
   refine .cons _ _ _ _ _ ⟨rfl,[(17,.bx 0 0)],AllN.get rfl (.cons rfl .nil),fun b hd hn hk hc=>?_⟩ ?_
   ·exact ops_at ((cdt (hd 6 rfl)).trans (cdf hk)) rfl (o_callS [0] rfl en_42 rfl rfl (spec_l1Cur_pick_p c0 h9) rfl (by decide) (.cons _ _ _ _ rfl .nil) rfl rfl rfl) ((((cdt ((updb_ne rfl).trans (hd 6 rfl))).trans (cdt updb_self)).trans (cdf ((updb_ne rfl).trans (hn 14 rfl)))).trans rfl) rfl
   refine .cons _ _ _ _ _ ⟨rfl,[(16,.im false (([0,5,2] : List Int).map (c_int .i64))),(18,.int .i64 r7)],AllN.get rfl (.cons rfl (.cons rfl .nil)),fun b hd hn hk hc=>?_⟩ ?_
   ·exact ops_at (((cdt (hd 6 rfl)).trans (cdt (hd 9 rfl))).trans (cdf (hn 14 rfl))) rfl (o_ix (f:=c_int .i64) rfl rfl tyS_3 rfl rfl h11 rfl) (((cdt ((updb_ne rfl).trans (hd 6 rfl))).trans (cdt ((updb_ne rfl).trans (hd 9 rfl)))).trans (cdf ((updb_ne rfl).trans (hn 14 rfl)))) rfl
   refine .cons _ _ _ _ _ ⟨rfl,[(19,.rf false [.int .i64 e10])],AllN.get rfl (.cons rfl .nil),fun b hd hn hk hc=>?_⟩ ?_
   ·exact ops_at (((cdt (hd 6 rfl)).trans (cdt (hd 9 rfl))).trans (cdf (hn 14 rfl))) rfl (o_loadRf rfl tyS_3 rfl (nb rfl) rfl) (((cdt ((updb_ne rfl).trans (hd 6 rfl))).trans (cdt ((updb_ne rfl).trans (hd 9 rfl)))).trans (cdf ((updb_ne rfl).trans (hn 14 rfl)))) rfl
   refine .cons _ _ _ _ _ ⟨rfl,[(10,.hd 3 (a0.Types_.map (c_I_AttrType false)).length 0 (a0.Types_.map (c_I_AttrType false)).length),(15,.int .i64 r4)],AllN.get rfl (.cons rfl (.cons rfl .nil)),fun b hd hn hk hc=>?_⟩ ?_
   ·exact ops_at (((cdt (hd 6 rfl)).trans (cdt (hd 9 rfl))).trans (cdf (hn 14 rfl))) rfl (o_ixh (f:=c_I_AttrType false) rfl rfl tyS_106 rfl rfl rfl rfl h13 rfl) (((cdt ((updb_ne rfl).trans (hd 6 rfl))).trans (cdt ((updb_ne rfl).trans (hd 9 rfl)))).trans (cdf ((updb_ne rfl).trans (hn 14 rfl)))) rfl
   refine .cons _ _ _ _ _ ⟨rfl,[(21,.el 3 (a0.Types_.map (c_I_AttrType false)).length (Int.toNat r4) 0)],AllN.get rfl (.cons rfl .nil),fun b hd hn hk hc=>?_⟩ ?_
   ·exact ops_at (((cdt (hd 6 rfl)).trans (cdt (hd 9 rfl))).trans (cdf (hn 14 rfl))) rfl (o_fieldAddrEl rfl rfl rfl tyS_3 (by decide) rfl rfl rfl) (((cdt ((updb_ne rfl).trans (hd 6 rfl))).trans (cdt ((updb_ne rfl).trans (hd 9 rfl)))).trans (cdf ((updb_ne rfl).trans (hn 14 rfl)))) rfl
   refine .cons _ _ _ _ _ ⟨rfl,[(20,.int .i64 e10),(22,.el 3 (a0.Types_.map (c_I_AttrType false)).length (Int.toNat r4) 1)],AllN.get rfl (.cons rfl (.cons rfl .nil)),fun b hd hn hk hc=>?_⟩ ?_
   ·exact ops_at (((cdt (hd 6 rfl)).trans (cdt (hd 9 rfl))).trans (cdf hk)) rfl (Does.to (o_stEl (f:=c_I_AttrType false) (xs:=a0.Types_) (k:=r4) (a:=e12) (⟨e12.Name_,e10,e12.Single_⟩ : I_AttrType) rfl tyS_3 rfl rfl rfl rfl (by decide) h13 rfl rfl rfl (fun _=>rfl) rfl) (eqAtS (eqAtS (eqAtS (eqAtS (eqAtS (eqAtS (eqAtS (eqAtB (show (.box [.hd 3 (a0.Types_.map (c_I_AttrType false)).length 0 (a0.Types_.map (c_I_AttrType false)).length,.hd 4 (a0.Classes_.map (c_I_Class false)).length 0 (a0.Classes_.map (c_I_Class false)).length] : AO) = .box [.hd 3 ((a0.Types_.set (Int.toNat r4) (⟨e12.Name_,e10,e12.Single_⟩ : I_AttrType)).map (c_I_AttrType false)).length 0 ((a0.Types_.set (Int.toNat r4) (⟨e12.Name_,e10,e12.Single_⟩ : I_AttrType)).map (c_I_AttrType false)).length,.hd 4 (a0.Classes_.map (c_I_Class false)).length 0 (a0.Classes_.map (c_I_Class false)).length] by simp only [List.length_map,List.length_set]) rfl))))))))) ((((cdt ((updb_ne rfl).trans (hd 6 rfl))).trans (cdt ((updb_ne rfl).trans (hd 9 rfl)))).trans (cdt updb_self)).trans rfl) rfl
   exact .nil _
  ·intro b b' h; simp only [h 6 (by decide),h 9 (by decide),h 14 (by decide)]
  refine inB_normal (thn_normal ?_)
  refine T.conv (Cs.eqV (t:=10) (v':=.hd 3 ((a0.Types_.set (Int.toNat r4) (⟨e12.Name_,e10,e12.Single_⟩ : I_AttrType)).map (c_I_AttrType false)).length 0 ((a0.Types_.set (Int.toNat r4) (⟨e12.Name_,e10,e12.Single_⟩ : I_AttrType)).map (c_I_AttrType false)).length) rfl (hd_len _ (List.length_set ..))) ?_
  refine T.conv (Cs.eqV (t:=13) (v':=.hd 3 ((a0.Types_.set (Int.toNat r4) (⟨e12.Name_,e10,e12.Single_⟩ : I_AttrType)).map (c_I_AttrType false)).length 0 ((a0.Types_.set (Int.toNat r4) (⟨e12.Name_,e10,e12.Single_⟩ : I_AttrType)).map (c_I_AttrType false)).length) rfl (hd_len _ (List.length_set ..))) ?_
  refine T.seq ?_
  refine T.conv (Cs.eqS (σ':=[.box (c_T_spec_l1Cur c0 o8),_,_,.arr .clo 3 ((a0.Types_.set (Int.toNat r4) (⟨e12.Name_,e10,e12.Single_⟩ : I_AttrType)).map (c_I_AttrType false)),_,_,_,.box (k_impl_DirSchema 3 4 false (⟨(a0.Types_.set (Int.toNat r4) (⟨e12.Name_,e10,e12.Single_⟩ : I_AttrType)),a0.Classes_⟩ : I_DirSchema)),_]) rfl) ?_
  refine au 2 ?_
  refine TL.sn rfl rfl (o_storeBx rfl tyS_26 rfl rfl rfl rfl (nb rfl) (sure_hd rfl rfl (sure_hd rfl rfl rfl))) ?_
  refine TL.nil ?_
  refine T.conv (Cs.wkF (M:=9) (.k 4 rfl rfl .nil)) ?_
  refine T.conv (Cs.reloc 5 3 rfl rfl (by decide) rfl rfl rfl (nomS_get rfl)) ?_
  refine T.conv (Cs.wkF (M:=9) (.k 4 rfl rfl .nil)) ?_
  refine T.conv (Cs.eqS (σ':=[_,_,_,.dead,_,.arr .clo 3 ((a0.Types_.set (Int.toNat r4) (⟨e12.Name_,e10,e12.Single_⟩ : I_AttrType)).map (c_I_AttrType false)),_,.box (k_impl_DirSchema 5 4 false (⟨(a0.Types_.set (Int.toNat r4) (⟨e12.Name_,e10,e12.Single_⟩ : I_AttrType)),a0.Classes_⟩ : I_DirSchema)),.box (k_impl_DirSchema 5 4 false (⟨(a0.Types_.set (Int.toNat r4) (⟨e12.Name_,e10,e12.Single_⟩ : I_AttrType)),a0.Classes_⟩ : I_DirSchema))]) rfl) ?_
  refine T.conv (Cs.reloc 6 4 rfl rfl (by decide) rfl rfl rfl (nomS_get rfl)) ?_
  refine T.conv (Cs.wkF (M:=9) (.k 4 rfl rfl .nil)) ?_
  refine T.conv (Cs.eqS (σ':=[_,_,_,_,.dead,_,.arr .clo 4 (a0.Classes_.map (c_I_Class false)),.box (k_impl_DirSchema 5 6 false (⟨(a0.Types_.set (Int.toNat r4) (⟨e12.Name_,e10,e12.Single_⟩ : I_AttrType)),a0.Classes_⟩ : I_DirSchema)),.box (k_impl_DirSchema 5 6 false (⟨(a0.Types_.set (Int.toNat r4) (⟨e12.Name_,e10,e12.Single_⟩ : I_AttrType)),a0.Classes_⟩ : I_DirSchema))]) rfl) ?_
  refine T.ret ?_
  cases some_i H
  exact ⟨trivial,_,(.cell _ _ _ _ _ _ _ _ _ _ rfl rfl tyS_26 (nb rfl) rfl .nil),⟨rfl,_,rfl⟩⟩
 ·refine au 5 ?_
  refine T.cH H ?_ ?_<;>intro H h
  ·obtain ⟨⟨r14,o15⟩,h16,H⟩:=bind_s H
   obtain ⟨⟨r17,o18⟩,h19,H⟩:=bind_s H
   obtain ⟨e20,h21,H⟩:=bind_s H
   refine T.drawS (fr':=[(0,.bx 0 0),(1,.agg [.hd 3 (a0.Types_.map (c_I_AttrType false)).length 0 (a0.Types_.map (c_I_AttrType false)).length,.hd 4 (a0.Classes_.map (c_I_Class false)).length 0 (a0.Classes_.map (c_I_Class false)).length]),(3,.bx 7 0),(4,.bx 8 0),(5,.bx 0 0),(6,.int .i64 r1),(7,.bool (r1 == 0)),(8,.bool (r1 == 0)),(23,.bool (r1 == 1)),(24,.bool (r1 == 1)),(25,.bx 7 0),(26,.hd 3 (a0.Types_.map (c_I_AttrType false)).length 0 (a0.Types_.map (c_I_AttrType false)).length),(27,.bx 0 0),(28,.bx 7 0),(29,.hd 3 (a0.Types_.map (c_I_AttrType false)).length 0 (a0.Types_.map (c_I_AttrType false)).length),(30,.int .i64 (a0.Types_.length : Int)),(31,.int .i64 r14),(32,.bx 0 0),(33,.im false (([(ByteArray.mk #[122,122]),e0,(ByteArray.mk #[97,103,101])] : List ByteArray).map (c_str))),(34,.str r17)]) (R:=[⟨some 25,.bx 7 0,.q,[]⟩,⟨some 26,.hd 3 (a0.Types_.map (c_I_AttrType false)).length 0 (a0.Types_.map (c_I_AttrType false)).length,.q,[]⟩,⟨some 27,.bx 0 0,.q,[]⟩,⟨some 28,.bx 7 0,.q,[]⟩,⟨some 29,.hd 3 (a0.Types_.map (c_I_AttrType false)).length 0 (a0.Types_.map (c_I_AttrType false)).length,.q,[]⟩,⟨some 30,.int .i64 (a0.Types_.length : Int),.q,[]⟩,⟨some 31,.int .i64 r14,.q,[]⟩,⟨some 32,.bx 0 0,.q,[]⟩,⟨some 33,.im false (([(ByteArray.mk #[122,122]),e0,(ByteArray.mk #[97,103,101])] : List ByteArray).map (c_str)),.q,[]⟩,⟨some 34,.str r17,.q,[]⟩,⟨some 35,.el 3 (a0.Types_.map (c_I_AttrType false)).length (Int.toNat r14) 0,.q,[]⟩,⟨some 36,.el 3 (a0.Types_.map (c_I_AttrType false)).length (Int.toNat r14) 0,.q,[]⟩,⟨none,.any,.q,[]⟩]) (fun b=>cond (b 6) (cond (b 9) (cond (b 12) ([.box (c_T_spec_l1Cur c0 o18),.dead,.dead,.arr .clo 3 ((a0.Types_.set (Int.toNat r14) (⟨r17,e20.Syntax_,e20.Single_⟩ : I_AttrType)).map (c_I_AttrType false)),.arr .clo 4 (a0.Classes_.map (c_I_Class false)),.dead,.dead,.box (k_impl_DirSchema 3 4 false (⟨(a0.Types_.set (Int.toNat r14) (⟨r17,e20.Syntax_,e20.Single_⟩ : I_AttrType)),a0.Classes_⟩ : I_DirSchema)),.box [.nilS,.nilS]]) ([.box (c_T_spec_l1Cur c0 o18),.dead,.dead,.arr .clo 3 (a0.Types_.map (c_I_AttrType false)),.arr .clo 4 (a0.Classes_.map (c_I_Class false)),.dead,.dead,.box (k_impl_DirSchema 3 4 false a0),.box [.nilS,.nilS]])) ([.box (c_T_spec_l1Cur c0 o15),.dead,.dead,.arr .clo 3 (a0.Types_.map (c_I_AttrType false)),.arr .clo 4 (a0.Classes_.map (c_I_Class false)),.dead,.dead,.box (k_impl_DirSchema 3 4 false a0),.box [.nilS,.nilS]])) ([.box (c_T_spec_l1Cur c0 o2),.dead,.dead,.arr .clo 3 (a0.Types_.map (c_I_AttrType false)),.arr .clo 4 (a0.Classes_.map (c_I_Class false)),.dead,.dead,.box (k_impl_DirSchema 3 4 false a0),.box [.nilS,.nilS]])) rfl ?_ ?_ rfl rfl (FrL.get (.cons rfl (.cons rfl (.cons rfl (.cons rfl (.cons rfl (.cons rfl (.cons rfl (.cons rfl (.cons rfl (.cons rfl (.cons rfl (.cons rfl (.cons rfl (.cons rfl (.cons rfl (.cons rfl (.cons rfl (.cons rfl (.cons rfl (.cons rfl .nil))))))))))))))))))))) ?_
   ·refine .cons _ _ _ _ _ ⟨rfl,[(3,.bx 7 0)],AllN.get rfl (.cons rfl .nil),fun b hd hn hk hc=>?_⟩ ?_
    ·cases e6 : b 6
     ·cases e9 : b 9
      ·exact ops_at (cdf e6) rfl (o_fieldAddr rfl rfl rfl tyS_23 (by decide) rfl rfl ⟨_,rfl,Nat.le_of_ble_eq_true rfl⟩) (cdf ((updb_ne rfl).trans e6)) rfl
      ·exact absurd (hc 9 6 rfl rfl e9) (by rw [e6]; decide)
     ·cases e9 : b 9
      ·exact ops_at ((cdt e6).trans (cdf e9)) rfl (o_fieldAddr rfl rfl rfl tyS_23 (by decide) rfl rfl ⟨_,rfl,Nat.le_of_ble_eq_true rfl⟩) ((cdt ((updb_ne rfl).trans e6)).trans (cdf ((updb_ne rfl).trans e9))) rfl
      ·exact ops_at (((cdt e6).trans (cdt e9)).trans (cdf (hn 12 rfl))) rfl (o_fieldAddr rfl rfl rfl tyS_23 (by decide) rfl rfl ⟨_,rfl,Nat.le_of_ble_eq_true rfl⟩) (((cdt ((updb_ne rfl).trans e6)).trans (cdt ((updb_ne rfl).trans e9))).trans (cdf ((updb_ne rfl).trans (hn 12 rfl)))) rfl
    refine .cons _ _ _ _ _ ⟨rfl,[(25,.bx 7 0)],AllN.get rfl (.cons rfl .nil),fun b hd hn hk hc=>?_⟩ ?_
    ·cases e6 : b 6
     ·cases e9 : b 9
      ·exact ops_at (cdf e6) rfl (o_loadBx rfl tyS_23 rfl rfl (nb rfl) rfl) (cdf ((updb_ne rfl).trans e6)) rfl
      ·exact absurd (hc 9 6 rfl rfl e9) (by rw [e6]; decide)
     ·cases e9 : b 9
      ·exact ops_at ((cdt e6).trans (cdf e9)) rfl (o_loadBx rfl tyS_23 rfl rfl (nb rfl) rfl) ((cdt ((updb_ne rfl).trans e6)).trans (cdf ((updb_ne rfl).trans e9))) rfl
      ·exact ops_at (((cdt e6).trans (cdt e9)).trans (cdf (hn 12 rfl))) rfl (o_loadBx rfl tyS_23 rfl rfl (nb rfl) rfl) (((cdt ((updb_ne rfl).trans e6)).trans (cdt ((updb_ne rfl).trans e9))).trans (cdf ((updb_ne rfl).trans (hn 12 rfl)))) rfl
    refine .cons _ _ _ _ _ ⟨rfl,[(0,.bx 0 0)],AllN.get rfl (.cons rfl .nil),fun b hd hn hk hc=>?_⟩ ?_
    ·exact ops_at (cdf (hn 6 rfl)) rfl (o_move rfl rfl) (cdf ((updb_ne rfl).trans (hn 6 rfl))) rfl
    refine .cons _ _ _ _ _ ⟨rfl,[(3,.bx 7 0)],AllN.get rfl (.cons rfl .nil),fun b hd hn hk hc=>?_⟩ ?_
    ·exact ops_at (cdf (hn 6 rfl)) rfl (o_fieldAddr rfl rfl rfl tyS_23 (by decide) rfl rfl ⟨_,rfl,Nat.le_of_ble_eq_true rfl⟩) (cdf ((updb_ne rfl).trans (hn 6 rfl))) rfl
    refine .cons _ _ _ _ _ ⟨rfl,[(28,.bx 7 0)],AllN.get rfl (.cons rfl .nil),fun b hd hn hk hc=>?_⟩ ?_
    ·exact ops_at (cdf (hn 6 rfl)) rfl (o_loadBx rfl tyS_23 rfl rfl (nb rfl) rfl) (cdf ((updb_ne rfl).trans (hn 6 rfl))) rfl
    refine .cons _ _ _ _ _ ⟨rfl,[(29,.hd 3 (a0.Types_.map (c_I_AttrType false)).length 0 (a0.Types_.map (c_I_AttrType false)).length)],AllN.get rfl (.cons rfl .nil),fun b hd hn hk hc=>?_⟩ ?_
    ·exact ops_at (cdf (hn 6 rfl)) rfl (o_lenOwn (f:=c_I_AttrType false) rfl rfl rfl rfl rfl) (cdf ((updb_ne rfl).trans (hn 6 rfl))) rfl
    refine .cons _ _ _ _ _ ⟨rfl,[(27,.bx 0 0),(30,.int .i64 (a0.Types_.length : Int))],AllN.get rfl (.cons rfl (.cons rfl .nil)),fun b hd hn hk hc=>?_⟩ ?_
    ·exact ops_at (cdf hk) rfl (o_callS [0] rfl en_42 rfl rfl (spec_l1Cur_pick_p c0 h16) rfl (by decide) (.cons _ _ _ _ rfl .nil) rfl rfl rfl) (((cdt updb_self).trans (cdf ((updb_ne rfl).trans (hn 9 rfl)))).trans rfl) rfl
    refine .cons _ _ _ _ _ ⟨rfl,[(0,.bx 0 0)],AllN.get rfl (.cons rfl .nil),fun b hd hn hk hc=>?_⟩ ?_
    ·cases e6 : b 6
     ·exact ops_at (cdf e6) rfl (o_move rfl rfl) (cdf ((updb_ne rfl).trans e6)) rfl
     ·exact ops_at ((cdt e6).trans (cdf (hn 9 rfl))) rfl (o_move rfl rfl) ((cdt ((updb_ne rfl).trans e6)).trans (cdf ((updb_ne rfl).trans (hn 9 rfl)))) rfl
    refine .cons _ _ _ _ _ ⟨rfl,[],AllN.get rfl .nil,fun b hd hn hk hc=>?_⟩ ?_
    ·cases e6 : b 6
     ·exact ops_at (cdf e6) rfl (o_sliceIm (rows:=([(ByteArray.mk #[122,122]),e0,(ByteArray.mk #[97,103,101])] : List ByteArray).map (c_str)) rfl rfl tyS_9 ⟨_,rfl,rfl⟩ (by decide) rfl rfl rfl rfl rfl rfl) (cdf ((updb_ne rfl).trans e6)) rfl
     ·exact ops_at ((cdt e6).trans (cdf (hn 9 rfl))) rfl (o_sliceIm (rows:=([(ByteArray.mk #[122,122]),e0,(ByteArray.mk #[97,103,101])] : List ByteArray).map (c_str)) rfl rfl tyS_9 ⟨_,rfl,rfl⟩ (by decide) rfl rfl rfl rfl rfl rfl) ((cdt ((updb_ne rfl).trans e6)).trans (cdf ((updb_ne rfl).trans (hn 9 rfl)))) rfl
    refine .cons _ _ _ _ _ ⟨rfl,[(32,.bx 0 0),(33,.im false (([(ByteArray.mk #[122,122]),e0,(ByteArray.mk #[97,103,101])] : List ByteArray).map (c_str)))],AllN.get rfl (.cons rfl (.cons rfl .nil)),fun b hd hn hk hc=>?_⟩ ?_
    ·exact ops_at ((cdt (hd 6 rfl)).trans (cdf hk)) rfl (o_callS [0] rfl en_43 rfl rfl (spec_l1Cur_of_p false c0 h19) rfl (by decide) (.cons _ _ _ _ rfl .nil) rfl rfl rfl) ((((cdt ((updb_ne rfl).trans (hd 6 rfl))).trans (cdt updb_self)).trans (cdf ((updb_ne rfl).trans (hn 12 rfl)))).trans rfl) rfl
    refine .cons _ _ _ _ _ ⟨rfl,[(26,.hd 3 (a0.Types_.map (c_I_AttrType false)).length 0 (a0.Types_.map (c_I_AttrType false)).length),(31,.int .i64 r14)],AllN.get rfl (.cons rfl (.cons rfl .nil)),fun b hd hn hk hc=>?_⟩ ?_
    ·exact ops_at (((cdt (hd 6 rfl)).trans (cdt (hd 9 rfl))).trans (cdf (hn 12 rfl))) rfl (o_ixh (f:=c_I_AttrType false) rfl rfl tyS_106 rfl rfl rfl rfl h21 rfl) (((cdt ((updb_ne rfl).trans (hd 6 rfl))).trans (cdt ((updb_ne rfl).trans (hd 9 rfl)))).trans (cdf ((updb_ne rfl).trans (hn 12 rfl)))) rfl
    refine .cons _ _ _ _ _ ⟨rfl,[(35,.el 3 (a0.Types_.map (c_I_AttrType false)).length (Int.toNat r14) 0)],AllN.get rfl (.cons rfl .nil),fun b hd hn hk hc=>?_⟩ ?_
    ·exact ops_at (((cdt (hd 6 rfl)).trans (cdt (hd 9 rfl))).trans (cdf (hn 12 rfl))) rfl (o_fieldAddrEl rfl rfl rfl tyS_9 (by decide) rfl rfl rfl) (((cdt ((updb_ne rfl).trans (hd 6 rfl))).trans (cdt ((updb_ne rfl).trans (hd 9 rfl)))).trans (cdf ((updb_ne rfl).trans (hn 12 rfl)))) rfl
    refine .cons _ _ _ _ _ ⟨rfl,[(34,.str r17),(36,.el 3 (a0.Types_.map (c_I_AttrType false)).length (Int.toNat r14) 0)],AllN.get rfl (.cons rfl (.cons rfl .nil)),fun b hd hn hk hc=>?_⟩ ?_
    ·exact ops_at (((cdt (hd 6 rfl)).trans (cdt (hd 9 rfl))).trans (cdf hk)) rfl (Does.to (o_stEl (f:=c_I_AttrType false) (xs:=a0.Types_) (k:=r14) (a:=e20) (⟨r17,e20.Syntax_,e20.Single_⟩ : I_AttrType) rfl tyS_9 rfl rfl rfl rfl (by decide) h21 rfl rfl rfl (fun _=>rfl) rfl) (eqAtS (eqAtS (eqAtS (eqAtS (eqAtS (eqAtS (eqAtS (eqAtB (show (.box [.hd 3 (a0.Types_.map (c_I_AttrType false)).length 0 (a0.Types_.map (c_I_AttrType false)).length,.hd 4 (a0.Classes_.map (c_I_Class false)).length 0 (a0.Classes_.map (c_I_Class false)).length] : AO) = .box [.hd 3 ((a0.Types_.set (Int.toNat r14) (⟨r17,e20.Syntax_,e20.Single_⟩ : I_AttrType)).map (c_I_AttrType false)).length 0 ((a0.Types_.set (Int.toNat r14) (⟨r17,e20.Syntax_,e20.Single_⟩ : I_AttrType)).map (c_I_AttrType false)).length,.hd 4 (a0.Classes_.map (c_I_Class false)).length 0 (a0.Classes_.map (c_I_Class false)).length] by simp only [List.length_map,List.length_set]) rfl))))))))) ((((cdt ((updb_ne rfl).trans (hd 6 rfl))).trans (cdt ((updb_ne rfl).trans (hd 9 rfl)))).trans (cdt updb_self)).trans rfl) rfl
    exact .nil _
   ·intro b b' h; simp only [h 6 (by decide),h 9 (by decide),h 12 (by decide)]
   refine inB_normal (thn_normal ?_)
   refine T.conv (Cs.eqV (t:=26) (v':=.hd 3 ((a0.Types_.set (Int.toNat r14) (⟨r17,e20.Syntax_,e20.Single_⟩ : I_AttrType)).map (c_I_AttrType false)).length 0 ((a0.Types_.set (Int.toNat r14) (⟨r17,e20.Syntax_,e20.Single_⟩ : I_AttrType)).map (c_I_AttrType false)).length) rfl (hd_len _ (List.length_set ..))) ?_
   refine T.conv (Cs.eqV (t:=29) (v':=.hd 3 ((a0.Types_.set (Int.toNat r14) (⟨r17,e20.Syntax_,e20.Single_⟩ : I_AttrType)).map (c_I_AttrType false)).length 0 ((a0.Types_.set (Int.toNat r14) (⟨r17,e20.Syntax_,e20.Single_⟩ : I_AttrType)).map (c_I_AttrType false)).length) rfl (hd_len _ (List.length_set ..))) ?_
   refine T.seq ?_
   refine T.conv (Cs.eqS (σ':=[.box (c_T_spec_l1Cur c0 o18),_,_,.arr .clo 3 ((a0.Types_.set (Int.toNat r14) (⟨r17,e20.Syntax_,e20.Single_⟩ : I_AttrType)).map (c_I_AttrType false)),_,_,_,.box (k_impl_DirSchema 3 4 false (⟨(a0.Types_.set (Int.toNat r14) (⟨r17,e20.Syntax_,e20.Single_⟩ : I_AttrType)),a0.Classes_⟩ : I_DirSchema)),_]) rfl) ?_
   refine au 2 ?_
   refine TL.sn rfl rfl (o_storeBx rfl tyS_26 rfl rfl rfl rfl (nb rfl) (sure_hd rfl rfl (sure_hd rfl rfl rfl))) ?_
   refine TL.nil ?_
   refine T.conv (Cs.wkF (M:=9) (.k 4 rfl rfl .nil)) ?_
   refine T.conv (Cs.reloc 5 3 rfl rfl (by decide) rfl rfl rfl (nomS_get rfl)) ?_
   refine T.conv (Cs.wkF (M:=9) (.k 4 rfl rfl .nil)) ?_
   refine T.conv (Cs.eqS (σ':=[_,_,_,.dead,_,.arr .clo 3 ((a0.Types_.set (Int.toNat r14) (⟨r17,e20.Syntax_,e20.Single_⟩ : I_AttrType)).map (c_I_AttrType false)),_,.box (k_impl_DirSchema 5 4 false (⟨(a0.Types_.set (Int.toNat r14) (⟨r17,e20.Syntax_,e20.Single_⟩ : I_AttrType)),a0.Classes_⟩ : I_DirSchema)),.box (k_impl_DirSchema 5 4 false (⟨(a0.Types_.set (Int.toNat r14) (⟨r17,e20.Syntax_,e20.Single_⟩ : I_AttrType)),a0.Classes_⟩ : I_DirSchema))]) rfl) ?_
   refine T.conv (Cs.reloc 6 4 rfl rfl (by decide) rfl rfl rfl (nomS_get rfl)) ?_
   refine T.conv (Cs.wkF (M:=9) (.k 4 rfl rfl .nil)) ?_
   refine T.conv (Cs.eqS (σ':=[_,_,_,_,.dead,_,.arr .clo 4 (a0.Classes_.map (c_I_Class false)),.box (k_impl_DirSchema 5 6 false (⟨(a0.Types_.set (Int.toNat r14) (⟨r17,e20.Syntax_,e20.Single_⟩ : I_AttrType)),a0.Classes_⟩ : I_DirSchema)),.box (k_impl_DirSchema 5 6 false (⟨(a0.Types_.set (Int.toNat r14) (⟨r17,e20.Syntax_,e20.Single_⟩ : I_AttrType)),a0.Classes_⟩ : I_DirSchema))]) rfl) ?_
   refine T.ret ?_
   cases some_i H
   exact ⟨trivial,_,(.cell _ _ _ _ _ _ _ _ _ _ rfl rfl tyS_26 (nb rfl) rfl .nil),⟨rfl,_,rfl⟩⟩
  ·refine au 5 ?_
   refine T.cH H ?_ ?_<;>intro H h
   ·obtain ⟨⟨r22,o23⟩,h24,H⟩:=bind_s H
    obtain ⟨⟨r25,o26⟩,h27,H⟩:=bind_s H
    obtain ⟨e28,h29,H⟩:=bind_s H
    refine T.drawS (fr':=[(0,.bx 0 0),(1,.agg [.hd 3 (a0.Types_.map (c_I_AttrType false)).length 0 (a0.Types_.map (c_I_AttrType false)).length,.hd 4 (a0.Classes_.map (c_I_Class false)).length 0 (a0.Classes_.map (c_I_Class false)).length]),(3,.bx 7 0),(4,.bx 8 0),(5,.bx 0 0),(6,.int .i64 r1),(7,.bool (r1 == 0)),(8,.bool (r1 == 0)),(23,.bool (r1 == 1)),(24,.bool (r1 == 1)),(37,.bool (r1 == 2)),(38,.bool (r1 == 2)),(39,.bx 7 1),(40,.hd 4 (a0.Classes_.map (c_I_Class false)).length 0 (a0.Classes_.map (c_I_Class false)).length),(41,.bx 0 0),(42,.bx 7 1),(43,.hd 4 (a0.Classes_.map (c_I_Class false)).length 0 (a0.Classes_.map (c_I_Class false)).length),(44,.int .i64 (a0.Classes_.length : Int)),(45,.int .i64 r22),(46,.bx 0 0),(47,.im false (([e0,(ByteArray.mk #[83,116,97,102,102]),(ByteArray.mk #[71,114,111,117,112]),(ByteArray.mk #[78,111,110,101]),(ByteArray.mk #[84,111,112])] : List ByteArray).map (c_str))),(48,.str r25)]) (R:=[⟨some 39,.bx 7 1,.q,[]⟩,⟨some 40,.hd 4 (a0.Classes_.map (c_I_Class false)).length 0 (a0.Classes_.map (c_I_Class false)).length,.q,[]⟩,⟨some 41,.bx 0 0,.q,[]⟩,⟨some 42,.bx 7 1,.q,[]⟩,⟨some 43,.hd 4 (a0.Classes_.map (c_I_Class false)).length 0 (a0.Classes_.map (c_I_Class false)).length,.q,[]⟩,⟨some 44,.int .i64 (a0.Classes_.length : Int),.q,[]⟩,⟨some 45,.int .i64 r22,.q,[]⟩,⟨some 46,.bx 0 0,.q,[]⟩,⟨some 47,.im false (([e0,(ByteArray.mk #[83,116,97,102,102]),(ByteArray.mk #[71,114,111,117,112]),(ByteArray.mk #[78,111,110,101]),(ByteArray.mk #[84,111,112])] : List ByteArray).map (c_str)),.q,[]⟩,⟨some 48,.str r25,.q,[]⟩,⟨some 49,.el 4 (a0.Classes_.map (c_I_Class false)).length (Int.toNat r22) 0,.q,[]⟩,⟨some 50,.el 4 (a0.Classes_.map (c_I_Class false)).length (Int.toNat r22) 1,.q,[]⟩,⟨none,.any,.q,[]⟩]) (fun b=>cond (b 6) (cond (b 9) (cond (b 12) ([.box (c_T_spec_l1Cur c0 o26),.dead,.dead,.arr .clo 3 (a0.Types_.map (c_I_AttrType false)),.arr .clo 4 ((a0.Classes_.set (Int.toNat r22) ({ e28 with Up_:=r25 } : I_Class)).map (c_I_Class false)),.dead,.dead,.box (k_impl_DirSchema 3 4 false (⟨a0.Types_,(a0.Classes_.set (Int.toNat r22) ({ e28 with Up_:=r25 } : I_Class))⟩ : I_DirSchema)),.box [.nilS,.nilS]]) ([.box (c_T_spec_l1Cur c0 o26),.dead,.dead,.arr .clo 3 (a0.Types_.map (c_I_AttrType false)),.arr .clo 4 (a0.Classes_.map (c_I_Class false)),.dead,.dead,.box (k_impl_DirSchema 3 4 false a0),.box [.nilS,.nilS]])) ([.box (c_T_spec_l1Cur c0 o23),.dead,.dead,.arr .clo 3 (a0.Types_.map (c_I_AttrType false)),.arr .clo 4 (a0.Classes_.map (c_I_Class false)),.dead,.dead,.box (k_impl_DirSchema 3 4 false a0),.box [.nilS,.nilS]])) ([.box (c_T_spec_l1Cur c0 o2),.dead,.dead,.arr .clo 3 (a0.Types_.map (c_I_AttrType false)),.arr .clo 4 (a0.Classes_.map (c_I_Class false)),.dead,.dead,.box (k_impl_DirSchema 3 4 false a0),.box [.nilS,.nilS]])) rfl ?_ ?_ rfl rfl (FrL.get (.cons rfl (.cons rfl (.cons rfl (.cons rfl (.cons rfl (.cons rfl (.cons rfl (.cons rfl (.cons rfl (.cons rfl (.cons rfl (.cons rfl (.cons rfl (.cons rfl (.cons rfl (.cons rfl (.cons rfl (.cons rfl (.cons rfl (.cons rfl (.cons rfl (.cons rfl .nil))))))))))))))))))))))) ?_
    ·refine .cons _ _ _ _ _ ⟨rfl,[(3,.bx 7 0)],AllN.get rfl (.cons rfl .nil),fun b hd hn hk hc=>?_⟩ ?_
     ·cases e6 : b 6
      ·cases e9 : b 9
       ·exact ops_at (cdf e6) rfl (o_fieldAddr rfl rfl rfl tyS_24 (by decide) rfl rfl ⟨_,rfl,Nat.le_of_ble_eq_true rfl⟩) (cdf ((updb_ne rfl).trans e6)) rfl
       ·exact absurd (hc 9 6 rfl rfl e9) (by rw [e6]; decide)
      ·cases e9 : b 9
       ·exact ops_at ((cdt e6).trans (cdf e9)) rfl (o_fieldAddr rfl rfl rfl tyS_24 (by decide) rfl rfl ⟨_,rfl,Nat.le_of_ble_eq_true rfl⟩) ((cdt ((updb_ne rfl).trans e6)).trans (cdf ((updb_ne rfl).trans e9))) rfl
       ·exact ops_at (((cdt e6).trans (cdt e9)).trans (cdf (hn 12 rfl))) rfl (o_fieldAddr rfl rfl rfl tyS_24 (by decide) rfl rfl ⟨_,rfl,Nat.le_of_ble_eq_true rfl⟩) (((cdt ((updb_ne rfl).trans e6)).trans (cdt ((updb_ne rfl).trans e9))).trans (cdf ((updb_ne rfl).trans (hn 12 rfl)))) rfl
     refine .cons _ _ _ _ _ ⟨rfl,[(39,.bx 7 1)],AllN.get rfl (.cons rfl .nil),fun b hd hn hk hc=>?_⟩ ?_
     ·cases e6 : b 6
      ·cases e9 : b 9
       ·exact ops_at (cdf e6) rfl (o_loadBx rfl tyS_24 rfl rfl (nb rfl) rfl) (cdf ((updb_ne rfl).trans e6)) rfl
       ·exact absurd (hc 9 6 rfl rfl e9) (by rw [e6]; decide)
      ·cases e9 : b 9
       ·exact ops_at ((cdt e6).trans (cdf e9)) rfl (o_loadBx rfl tyS_24 rfl rfl (nb rfl) rfl) ((cdt ((updb_ne rfl).trans e6)).trans (cdf ((updb_ne rfl).trans e9))) rfl
       ·exact ops_at (((cdt e6).trans (cdt e9)).trans (cdf (hn 12 rfl))) rfl (o_loadBx rfl tyS_24 rfl rfl (nb rfl) rfl) (((cdt ((updb_ne rfl).trans e6)).trans (cdt ((updb_ne rfl).trans e9))).trans (cdf ((updb_ne rfl).trans (hn 12 rfl)))) rfl
     refine .cons _ _ _ _ _ ⟨rfl,[(0,.bx 0 0)],AllN.get rfl (.cons rfl .nil),fun b hd hn hk hc=>?_⟩ ?_
     ·exact ops_at (cdf (hn 6 rfl)) rfl (o_move rfl rfl) (cdf ((updb_ne rfl).trans (hn 6 rfl))) rfl
     refine .cons _ _ _ _ _ ⟨rfl,[(3,.bx 7 0)],AllN.get rfl (.cons rfl .nil),fun b hd hn hk hc=>?_⟩ ?_
     ·exact ops_at (cdf (hn 6 rfl)) rfl (o_fieldAddr rfl rfl rfl tyS_24 (by decide) rfl rfl ⟨_,rfl,Nat.le_of_ble_eq_true rfl⟩) (cdf ((updb_ne rfl).trans (hn 6 rfl))) rfl
     refine .cons _ _ _ _ _ ⟨rfl,[(42,.bx 7 1)],AllN.get rfl (.cons rfl .nil),fun b hd hn hk hc=>?_⟩ ?_
     ·exact ops_at (cdf (hn 6 rfl)) rfl (o_loadBx rfl tyS_24 rfl rfl (nb rfl) rfl) (cdf ((updb_ne rfl).trans (hn 6 rfl))) rfl
     refine .cons _ _ _ _ _ ⟨rfl,[(43,.hd 4 (a0.Classes_.map (c_I_Class false)).length 0 (a0.Classes_.map (c_I_Class false)).length)],AllN.get rfl (.cons rfl .nil),fun b hd hn hk hc=>?_⟩ ?_
     ·exact ops_at (cdf (hn 6 rfl)) rfl (o_lenOwn (f:=c_I_Class false) rfl rfl rfl rfl rfl) (cdf ((updb_ne rfl).trans (hn 6 rfl))) rfl
     refine .cons _ _ _ _ _ ⟨rfl,[(41,.bx 0 0),(44,.int .i64 (a0.Classes_.length : Int))],AllN.get rfl (.cons rfl (.cons rfl .nil)),fun b hd hn hk hc=>?_⟩ ?_
     ·exact ops_at (cdf hk) rfl (o_callS [0] rfl en_42 rfl rfl (spec_l1Cur_pick_p c0 h24) rfl (by decide) (.cons _ _ _ _ rfl .nil) rfl rfl rfl) (((cdt updb_self).trans (cdf ((updb_ne rfl).trans (hn 9 rfl)))).trans rfl) rfl
     refine .cons _ _ _ _ _ ⟨rfl,[(0,.bx 0 0)],AllN.get rfl (.cons rfl .nil),fun b hd hn hk hc=>?_⟩ ?_
     ·cases e6 : b 6
      ·exact ops_at (cdf e6) rfl (o_move rfl rfl) (cdf ((updb_ne rfl).trans e6)) rfl
      ·exact ops_at ((cdt e6).trans (cdf (hn 9 rfl))) rfl (o_move rfl rfl) ((cdt ((updb_ne rfl).trans e6)).trans (cdf ((updb_ne rfl).trans (hn 9 rfl)))) rfl
     refine .cons _ _ _ _ _ ⟨rfl,[],AllN.get rfl .nil,fun b hd hn hk hc=>?_⟩ ?_
     ·cases e6 : b 6
      ·exact ops_at (cdf e6) rfl (o_sliceIm (rows:=([e0,(ByteArray.mk #[83,116,97,102,102]),(ByteArray.mk #[71,114,111,117,112]),(ByteArray.mk #[78,111,110,101]),(ByteArray.mk #[84,111,112])] : List ByteArray).map (c_str)) rfl rfl tyS_9 ⟨_,rfl,rfl⟩ (by decide) rfl rfl rfl rfl rfl rfl) (cdf ((updb_ne rfl).trans e6)) rfl
      ·exact ops_at ((cdt e6).trans (cdf (hn 9 rfl))) rfl (o_sliceIm (rows:=([e0,(ByteArray.mk #[83,116,97,102,102]),(ByteArray.mk #[71,114,111,117,112]),(ByteArray.mk #[78,111,110,101]),(ByteArray.mk #[84,111,112])] : List ByteArray).map (c_str)) rfl rfl tyS_9 ⟨_,rfl,rfl⟩ (by decide) rfl rfl rfl rfl rfl rfl) ((cdt ((updb_ne rfl).trans e6)).trans (cdf ((updb_ne rfl).trans (hn 9 rfl)))) rfl
     refine .cons _ _ _ _ _ ⟨rfl,[(46,.bx 0 0),(47,.im false (([e0,(ByteArray.mk #[83,116,97,102,102]),(ByteArray.mk #[71,114,111,117,112]),(ByteArray.mk #[78,111,110,101]),(ByteArray.mk #[84,111,112])] : List ByteArray).map (c_str)))],AllN.get rfl (.cons rfl (.cons rfl .nil)),fun b hd hn hk hc=>?_⟩ ?_
     ·exact ops_at ((cdt (hd 6 rfl)).trans (cdf hk)) rfl (o_callS [0] rfl en_43 rfl rfl (spec_l1Cur_of_p false c0 h27) rfl (by decide) (.cons _ _ _ _ rfl .nil) rfl rfl rfl) ((((cdt ((updb_ne rfl).trans (hd 6 rfl))).trans (cdt updb_self)).trans (cdf ((updb_ne rfl).trans (hn 12 rfl)))).trans rfl) rfl
     refine .cons _ _ _ _ _ ⟨rfl,[(40,.hd 4 (a0.Classes_.map (c_I_Class false)).length 0 (a0.Classes_.map (c_I_Class false)).length),(45,.int .i64 r22)],AllN.get rfl (.cons rfl (.cons rfl .nil)),fun b hd hn hk hc=>?_⟩ ?_
     ·exact ops_at (((cdt (hd 6 rfl)).trans (cdt (hd 9 rfl))).trans (cdf (hn 12 rfl))) rfl (o_ixh (f:=c_I_Class false) rfl rfl tyS_108 rfl rfl rfl rfl h29 rfl) (((cdt ((updb_ne rfl).trans (hd 6 rfl))).trans (cdt ((updb_ne rfl).trans (hd 9 rfl)))).trans (cdf ((updb_ne rfl).trans (hn 12 rfl)))) rfl
     refine .cons _ _ _ _ _ ⟨rfl,[(49,.el 4 (a0.Classes_.map (c_I_Class false)).length (Int.toNat r22) 0)],AllN.get rfl (.cons rfl .nil),fun b hd hn hk hc=>?_⟩ ?_
     ·exact ops_at (((cdt (hd 6 rfl)).trans (cdt (hd 9 rfl))).trans (cdf (hn 12 rfl))) rfl (o_fieldAddrEl rfl rfl rfl tyS_9 (by decide) rfl rfl rfl) (((cdt ((updb_ne rfl).trans (hd 6 rfl))).trans (cdt ((updb_ne rfl).trans (hd 9 rfl)))).trans (cdf ((updb_ne rfl).trans (hn 12 rfl)))) rfl
     refine .cons _ _ _ _ _ ⟨rfl,[(48,.str r25),(50,.el 4 (a0.Classes_.map (c_I_Class false)).length (Int.toNat r22) 1)],AllN.get rfl (.cons rfl (.cons rfl .nil)),fun b hd hn hk hc=>?_⟩ ?_
     ·exact ops_at (((cdt (hd 6 rfl)).trans (cdt (hd 9 rfl))).trans (cdf hk)) rfl (Does.to (o_stEl (f:=c_I_Class false) (xs:=a0.Classes_) (k:=r22) (a:=e28) ({ e28 with Up_:=r25 } : I_Class) rfl tyS_9 rfl rfl rfl rfl (by decide) h29 rfl rfl rfl (fun _=>rfl) rfl) (eqAtS (eqAtS (eqAtS (eqAtS (eqAtS (eqAtS (eqAtS (eqAtB (show (.box [.hd 3 (a0.Types_.map (c_I_AttrType false)).length 0 (a0.Types_.map (c_I_AttrType false)).length,.hd 4 (a0.Classes_.map (c_I_Class false)).length 0 (a0.Classes_.map (c_I_Class false)).length] : AO) = .box [.hd 3 (a0.Types_.map (c_I_AttrType false)).length 0 (a0.Types_.map (c_I_AttrType false)).length,.hd 4 ((a0.Classes_.set (Int.toNat r22) ({ e28 with Up_:=r25 } : I_Class)).map (c_I_Class false)).length 0 ((a0.Classes_.set (Int.toNat r22) ({ e28 with Up_:=r25 } : I_Class)).map (c_I_Class false)).length] by simp only [List.length_map,List.length_set]) rfl))))))))) ((((cdt ((updb_ne rfl).trans (hd 6 rfl))).trans (cdt ((updb_ne rfl).trans (hd 9 rfl)))).trans (cdt updb_self)).trans rfl) rfl
     exact .nil _
    ·intro b b' h; simp only [h 6 (by decide),h 9 (by decide),h 12 (by decide)]
    refine inB_normal (thn_normal ?_)
    refine T.conv (Cs.eqV (t:=40) (v':=.hd 4 ((a0.Classes_.set (Int.toNat r22) ({ e28 with Up_:=r25 } : I_Class)).map (c_I_Class false)).length 0 ((a0.Classes_.set (Int.toNat r22) ({ e28 with Up_:=r25 } : I_Class)).map (c_I_Class false)).length) rfl (hd_len _ (List.length_set ..))) ?_
    refine T.conv (Cs.eqV (t:=43) (v':=.hd 4 ((a0.Classes_.set (Int.toNat r22) ({ e28 with Up_:=r25 } : I_Class)).map (c_I_Class false)).length 0 ((a0.Classes_.set (Int.toNat r22) ({ e28 with Up_:=r25 } : I_Class)).map (c_I_Class false)).length) rfl (hd_len _ (List.length_set ..))) ?_
    refine T.seq ?_
    refine T.conv (Cs.eqS (σ':=[.box (c_T_spec_l1Cur c0 o26),_,_,_,.arr .clo 4 ((a0.Classes_.set (Int.toNat r22) ({ e28 with Up_:=r25 } : I_Class)).map (c_I_Class false)),_,_,.box (k_impl_DirSchema 3 4 false (⟨a0.Types_,(a0.Classes_.set (Int.toNat r22) ({ e28 with Up_:=r25 } : I_Class))⟩ : I_DirSchema)),_]) rfl) ?_
    refine au 2 ?_
    refine TL.sn rfl rfl (o_storeBx rfl tyS_26 rfl rfl rfl rfl (nb rfl) (sure_hd rfl rfl (sure_hd rfl rfl rfl))) ?_
    refine TL.nil ?_
    refine T.conv (Cs.wkF (M:=9) (.k 4 rfl rfl .nil)) ?_
    refine T.conv (Cs.reloc 5 3 rfl rfl (by decide) rfl rfl rfl (nomS_get rfl)) ?_
    refine T.conv (Cs.wkF (M:=9) (.k 4 rfl rfl .nil)) ?_
    refine T.conv (Cs.eqS (σ':=[_,_,_,.dead,_,.arr .clo 3 (a0.Types_.map (c_I_AttrType false)),_,.box (k_impl_DirSchema 5 4 false (⟨a0.Types_,(a0.Classes_.set (Int.toNat r22) ({ e28 with Up_:=r25 } : I_Class))⟩ : I_DirSchema)),.box (k_impl_DirSchema 5 4 false (⟨a0.Types_,(a0.Classes_.set (Int.toNat r22) ({ e28 with Up_:=r25 } : I_Class))⟩ : I_DirSchema))]) rfl) ?_
    refine T.conv (Cs.reloc 6 4 rfl rfl (by decide) rfl rfl rfl (nomS_get rfl)) ?_
    refine T.conv (Cs.wkF (M:=9) (.k 4 rfl rfl .nil)) ?_
    refine T.conv (Cs.eqS (σ':=[_,_,_,_,.dead,_,.arr .clo 4 ((a0.Classes_.set (Int.toNat r22) ({ e28 with Up_:=r25 } : I_Class)).map (c_I_Class false)),.box (k_impl_DirSchema 5 6 false (⟨a0.Types_,(a0.Classes_.set (Int.toNat r22) ({ e28 with Up_:=r25 } : I_Class))⟩ : I_DirSchema)),.box (k_impl_DirSchema 5 6 false (⟨a0.Types_,(a0.Classes_.set (Int.toNat r22) ({ e28 with Up_:=r25 } : I_Class))⟩ : I_DirSchema))]) rfl) ?_
    refine T.ret ?_
    cases some_i H
    exact ⟨trivial,_,(.cell _ _ _ _ _ _ _ _ _ _ rfl rfl tyS_26 (nb rfl) rfl .nil),⟨rfl,_,rfl⟩⟩
   ·refine au 5 ?_
    refine T.cH H ?_ ?_<;>intro H h
    ·obtain ⟨⟨r30,o31⟩,h32,H⟩:=bind_s H
     obtain ⟨⟨r33,o34⟩,h35,H⟩:=bind_s H
     obtain ⟨e36,h37,H⟩:=bind_s H
     refine T.drawS (fr':=[(0,.bx 0 0),(1,.agg [.hd 3 (a0.Types_.map (c_I_AttrType false)).length 0 (a0.Types_.map (c_I_AttrType false)).length,.hd 4 (a0.Classes_.map (c_I_Class false)).length 0 (a0.Classes_.map (c_I_Class false)).length]),(3,.bx 7 0),(4,.bx 8 0),(5,.bx 0 0),(6,.int .i64 r1),(7,.bool (r1 == 0)),(8,.bool (r1 == 0)),(23,.bool (r1 == 1)),(24,.bool (r1 == 1)),(37,.bool (r1 == 2)),(38,.bool (r1 == 2)),(51,.bool (r1 == 3)),(52,.bool (r1 == 3)),(53,.bx 7 1),(54,.hd 4 (a0.Classes_.map (c_I_Class false)).length 0 (a0.Classes_.map (c_I_Class false)).length),(55,.bx 0 0),(56,.bx 7 1),(57,.hd 4 (a0.Classes_.map (c_I_Class false)).length 0 (a0.Classes_.map (c_I_Class false)).length),(58,.int .i64 (a0.Classes_.length : Int)),(59,.int .i64 r30),(60,.bx 0 0),(61,.im false (([(ByteArray.mk #[110,111,115,117,99,104]),(ByteArray.mk #[99,108,97,115,115]),(ByteArray.mk #[99,110])] : List ByteArray).map (c_str))),(62,.str r33),(63,.im false (([r33] : List ByteArray).map (c_str)))]) (R:=[⟨some 53,.bx 7 1,.q,[]⟩,⟨some 54,.hd 4 (a0.Classes_.map (c_I_Class false)).length 0 (a0.Classes_.map (c_I_Class false)).length,.q,[]⟩,⟨some 55,.bx 0 0,.q,[]⟩,⟨some 56,.bx 7 1,.q,[]⟩,⟨some 57,.hd 4 (a0.Classes_.map (c_I_Class false)).length 0 (a0.Classes_.map (c_I_Class false)).length,.q,[]⟩,⟨some 58,.int .i64 (a0.Classes_.length : Int),.q,[]⟩,⟨some 59,.int .i64 r30,.q,[]⟩,⟨some 60,.bx 0 0,.q,[]⟩,⟨some 61,.im false (([(ByteArray.mk #[110,111,115,117,99,104]),(ByteArray.mk #[99,108,97,115,115]),(ByteArray.mk #[99,110])] : List ByteArray).map (c_str)),.q,[]⟩,⟨some 62,.str r33,.q,[]⟩,⟨some 63,.im false (([r33] : List ByteArray).map (c_str)),.q,[]⟩,⟨some 64,.el 4 (a0.Classes_.map (c_I_Class false)).length (Int.toNat r30) 0,.q,[]⟩,⟨some 65,.el 4 (a0.Classes_.map (c_I_Class false)).length (Int.toNat r30) 2,.q,[]⟩,⟨none,.any,.q,[]⟩]) (fun b=>cond (b 6) (cond (b 9) (cond (b 13) ([.box (c_T_spec_l1Cur c0 o34),.dead,.dead,.arr .clo 3 (a0.Types_.map (c_I_AttrType false)),.arr .clo 4 ((a0.Classes_.set (Int.toNat r30) ({ e36 with Must_:=([r33] : List ByteArray) } : I_Class)).map (c_I_Class false)),.dead,.dead,.box (k_impl_DirSchema 3 4 false (⟨a0.Types_,(a0.Classes_.set (Int.toNat r30) ({ e36 with Must_:=([r33] : List ByteArray) } : I_Class))⟩ : I_DirSchema)),.box [.nilS,.nilS]]) ([.box (c_T_spec_l1Cur c0 o34),.dead,.dead,.arr .clo 3 (a0.Types_.map (c_I_AttrType false)),.arr .clo 4 (a0.Classes_.map (c_I_Class false)),.dead,.dead,.box (k_impl_DirSchema 3 4 false a0),.box [.nilS,.nilS]])) ([.box (c_T_spec_l1Cur c0 o31),.dead,.dead,.arr .clo 3 (a0.Types_.map (c_I_AttrType false)),.arr .clo 4 (a0.Classes_.map (c_I_Class false)),.dead,.dead,.box (k_impl_DirSchema 3 4 false a0),.box [.nilS,.nilS]])) ([.box (c_T_spec_l1Cur c0 o2),.dead,.dead,.arr .clo 3 (a0.Types_.map (c_I_AttrType false)),.arr .clo 4 (a0.Classes_.map (c_I_Class false)),.dead,.dead,.box (k_impl_DirSchema 3 4 false a0),.box [.nilS,.nilS]])) rfl ?_ ?_ rfl rfl (FrL.get (.cons rfl (.cons rfl (.cons rfl (.cons rfl (.cons rfl (.cons rfl (.cons rfl (.cons rfl (.cons rfl (.cons rfl (.cons rfl (.cons rfl (.cons rfl (.cons rfl (.cons rfl (.cons rfl (.cons rfl (.cons rfl (.cons rfl (.cons rfl (.cons rfl (.cons rfl (.cons rfl (.cons rfl (.cons rfl .nil)))))))))))))))))))))))))) ?_
     ·refine .cons _ _ _ _ _ ⟨rfl,[(3,.bx 7 0)],AllN.get rfl (.cons rfl .nil),fun b hd hn hk hc=>?_⟩ ?_
      ·cases e6 : b 6
       ·cases e9 : b 9
        ·exact ops_at (cdf e6) rfl (o_fieldAddr rfl rfl rfl tyS_24 (by decide) rfl rfl ⟨_,rfl,Nat.le_of_ble_eq_true rfl⟩) (cdf ((updb_ne rfl).trans e6)) rfl
        ·exact absurd (hc 9 6 rfl rfl e9) (by rw [e6]; decide)
       ·cases e9 : b 9
        ·exact ops_at ((cdt e6).trans (cdf e9)) rfl (o_fieldAddr rfl rfl rfl tyS_24 (by decide) rfl rfl ⟨_,rfl,Nat.le_of_ble_eq_true rfl⟩) ((cdt ((updb_ne rfl).trans e6)).trans (cdf ((updb_ne rfl).trans e9))) rfl
        ·exact ops_at (((cdt e6).trans (cdt e9)).trans (cdf (hn 13 rfl))) rfl (o_fieldAddr rfl rfl rfl tyS_24 (by decide) rfl rfl ⟨_,rfl,Nat.le_of_ble_eq_true rfl⟩) (((cdt ((updb_ne rfl).trans e6)).trans (cdt ((updb_ne rfl).trans e9))).trans (cdf ((updb_ne rfl).trans (hn 13 rfl)))) rfl
      refine .cons _ _ _ _ _ ⟨rfl,[(53,.bx 7 1)],AllN.get rfl (.cons rfl .nil),fun b hd hn hk hc=>?_⟩ ?_
      ·cases e6 : b 6
       ·cases e9 : b 9
        ·exact ops_at (cdf e6) rfl (o_loadBx rfl tyS_24 rfl rfl (nb rfl) rfl) (cdf ((updb_ne rfl).trans e6)) rfl
        ·exact absurd (hc 9 6 rfl rfl e9) (by rw [e6]; decide)
       ·cases e9 : b 9
        ·exact ops_at ((cdt e6).trans (cdf e9)) rfl (o_loadBx rfl tyS_24 rfl rfl (nb rfl) rfl) ((cdt ((updb_ne rfl).trans e6)).trans (cdf ((updb_ne rfl).trans e9))) rfl
        ·exact ops_at (((cdt e6).trans (cdt e9)).trans (cdf (hn 13 rfl))) rfl (o_loadBx rfl tyS_24 rfl rfl (nb rfl) rfl) (((cdt ((updb_ne rfl).trans e6)).trans (cdt ((updb_ne rfl).trans e9))).trans (cdf ((updb_ne rfl).trans (hn 13 rfl)))) rfl
      refine .cons _ _ _ _ _ ⟨rfl,[(0,.bx 0 0)],AllN.get rfl (.cons rfl .nil),fun b hd hn hk hc=>?_⟩ ?_
      ·exact ops_at (cdf (hn 6 rfl)) rfl (o_move rfl rfl) (cdf ((updb_ne rfl).trans (hn 6 rfl))) rfl
      refine .cons _ _ _ _ _ ⟨rfl,[(3,.bx 7 0)],AllN.get rfl (.cons rfl .nil),fun b hd hn hk hc=>?_⟩ ?_
      ·exact ops_at (cdf (hn 6 rfl)) rfl (o_fieldAddr rfl rfl rfl tyS_24 (by decide) rfl rfl ⟨_,rfl,Nat.le_of_ble_eq_true rfl⟩) (cdf ((updb_ne rfl).trans (hn 6 rfl))) rfl
      refine .cons _ _ _ _ _ ⟨rfl,[(56,.bx 7 1)],AllN.get rfl (.cons rfl .nil),fun b hd hn hk hc=>?_⟩ ?_
      ·exact ops_at (cdf (hn 6 rfl)) rfl (o_loadBx rfl tyS_24 rfl rfl (nb rfl) rfl) (cdf ((updb_ne rfl).trans (hn 6 rfl))) rfl
      refine .cons _ _ _ _ _ ⟨rfl,[(57,.hd 4 (a0.Classes_.map (c_I_Class false)).length 0 (a0.Classes_.map (c_I_Class false)).length)],AllN.get rfl (.cons rfl .nil),fun b hd hn hk hc=>?_⟩ ?_
      ·exact ops_at (cdf (hn 6 rfl)) rfl (o_lenOwn (f:=c_I_Class false) rfl rfl rfl rfl rfl) (cdf ((updb_ne rfl).trans (hn 6 rfl))) rfl
      refine .cons _ _ _ _ _ ⟨rfl,[(55,.bx 0 0),(58,.int .i64 (a0.Classes_.length : Int))],AllN.get rfl (.cons rfl (.cons rfl .nil)),fun b hd hn hk hc=>?_⟩ ?_
      ·exact ops_at (cdf hk) rfl (o_callS [0] rfl en_42 rfl rfl (spec_l1Cur_pick_p c0 h32) rfl (by decide) (.cons _ _ _ _ rfl .nil) rfl rfl rfl) (((cdt updb_self).trans (cdf ((updb_ne rfl).trans (hn 9 rfl)))).trans rfl) rfl
      refine .cons _ _ _ _ _ ⟨rfl,[(0,.bx 0 0)],AllN.get rfl (.cons rfl .nil),fun b hd hn hk hc=>?_⟩ ?_
      ·cases e6 : b 6
       ·exact ops_at (cdf e6) rfl (o_move rfl rfl) (cdf ((updb_ne rfl).trans e6)) rfl
       ·exact ops_at ((cdt e6).trans (cdf (hn 9 rfl))) rfl (o_move rfl rfl) ((cdt ((updb_ne rfl).trans e6)).trans (cdf ((updb_ne rfl).trans (hn 9 rfl)))) rfl
      refine .cons _ _ _ _ _ ⟨rfl,[],AllN.get rfl .nil,fun b hd hn hk hc=>?_⟩ ?_
      ·cases e6 : b 6
       ·exact ops_at (cdf e6) rfl (o_sliceIm (rows:=([(ByteArray.mk #[110,111,115,117,99,104]),(ByteArray.mk #[99,108,97,115,115]),(ByteArray.mk #[99,110])] : List ByteArray).map (c_str)) rfl rfl tyS_9 ⟨_,rfl,rfl⟩ (by decide) rfl rfl rfl rfl rfl rfl) (cdf ((updb_ne rfl).trans e6)) rfl
       ·exact ops_at ((cdt e6).trans (cdf (hn 9 rfl))) rfl (o_sliceIm (rows:=([(ByteArray.mk #[110,111,115,117,99,104]),(ByteArray.mk #[99,108,97,115,115]),(ByteArray.mk #[99,110])] : List ByteArray).map (c_str)) rfl rfl tyS_9 ⟨_,rfl,rfl⟩ (by decide) rfl rfl rfl rfl rfl rfl) ((cdt ((updb_ne rfl).trans e6)).trans (cdf ((updb_ne rfl).trans (hn 9 rfl)))) rfl
      refine .cons _ _ _ _ _ ⟨rfl,[(60,.bx 0 0),(61,.im false (([(ByteArray.mk #[110,111,115,117,99,104]),(ByteArray.mk #[99,108,97,115,115]),(ByteArray.mk #[99,110])] : List ByteArray).map (c_str)))],AllN.get rfl (.cons rfl (.cons rfl .nil)),fun b hd hn hk hc=>?_⟩ ?_
      ·exact ops_at ((cdt (hd 6 rfl)).trans (cdf hk)) rfl (o_callS [0] rfl en_43 rfl rfl (spec_l1Cur_of_p false c0 h35) rfl (by decide) (.cons _ _ _ _ rfl .nil) rfl rfl rfl) ((((cdt ((updb_ne rfl).trans (hd 6 rfl))).trans (cdt updb_self)).trans (cdf ((updb_ne rfl).trans (hn 13 rfl)))).trans rfl) rfl
      refine .cons _ _ _ _ _ ⟨rfl,[(62,.str r33)],AllN.get rfl (.cons rfl .nil),fun b hd hn hk hc=>?_⟩ ?_
      ·exact ops_at (((cdt (hd 6 rfl)).trans (cdt (hd 9 rfl))).trans (cdf (hn 13 rfl))) rfl (o_sliceIm (rows:=([r33] : List ByteArray).map (c_str)) rfl rfl tyS_9 ⟨_,rfl,rfl⟩ (by decide) rfl rfl rfl rfl rfl rfl) (((cdt ((updb_ne rfl).trans (hd 6 rfl))).trans (cdt ((updb_ne rfl).trans (hd 9 rfl)))).trans (cdf ((updb_ne rfl).trans (hn 13 rfl)))) rfl
      refine .cons _ _ _ _ _ ⟨rfl,[(54,.hd 4 (a0.Classes_.map (c_I_Class false)).length 0 (a0.Classes_.map (c_I_Class false)).length),(59,.int .i64 r30)],AllN.get rfl (.cons rfl (.cons rfl .nil)),fun b hd hn hk hc=>?_⟩ ?_
      ·exact ops_at (((cdt (hd 6 rfl)).trans (cdt (hd 9 rfl))).trans (cdf (hn 13 rfl))) rfl (o_ixh (f:=c_I_Class false) rfl rfl tyS_108 rfl rfl rfl rfl h37 rfl) (((cdt ((updb_ne rfl).trans (hd 6 rfl))).trans (cdt ((updb_ne rfl).trans (hd 9 rfl)))).trans (cdf ((updb_ne rfl).trans (hn 13 rfl)))) rfl
      refine .cons _ _ _ _ _ ⟨rfl,[(64,.el 4 (a0.Classes_.map (c_I_Class false)).length (Int.toNat r30) 0)],AllN.get rfl (.cons rfl .nil),fun b hd hn hk hc=>?_⟩ ?_
      ·exact ops_at (((cdt (hd 6 rfl)).trans (cdt (hd 9 rfl))).trans (cdf (hn 13 rfl))) rfl (o_fieldAddrEl rfl rfl rfl tyS_43 (by decide) rfl rfl rfl) (((cdt ((updb_ne rfl).trans (hd 6 rfl))).trans (cdt ((updb_ne rfl).trans (hd 9 rfl)))).trans (cdf ((updb_ne rfl).trans (hn 13 rfl)))) rfl
      refine .cons _ _ _ _ _ ⟨rfl,[(63,.im false (([r33] : List ByteArray).map (c_str))),(65,.el 4 (a0.Classes_.map (c_I_Class false)).length (Int.toNat r30) 2)],AllN.get rfl (.cons rfl (.cons rfl .nil)),fun b hd hn hk hc=>?_⟩ ?_
      ·exact ops_at (((cdt (hd 6 rfl)).trans (cdt (hd 9 rfl))).trans (cdf hk)) rfl (Does.to (o_stEl (f:=c_I_Class false) (xs:=a0.Classes_) (k:=r30) (a:=e36) ({ e36 with Must_:=([r33] : List ByteArray) } : I_Class) rfl tyS_43 rfl rfl rfl rfl (by decide) h37 rfl rfl rfl (fun _=>rfl) rfl) (eqAtS (eqAtS (eqAtS (eqAtS (eqAtS (eqAtS (eqAtS (eqAtB (show (.box [.hd 3 (a0.Types_.map (c_I_AttrType false)).length 0 (a0.Types_.map (c_I_AttrType false)).length,.hd 4 (a0.Classes_.map (c_I_Class false)).length 0 (a0.Classes_.map (c_I_Class false)).length] : AO) = .box [.hd 3 (a0.Types_.map (c_I_AttrType false)).length 0 (a0.Types_.map (c_I_AttrType false)).length,.hd 4 ((a0.Classes_.set (Int.toNat r30) ({ e36 with Must_:=([r33] : List ByteArray) } : I_Class)).map (c_I_Class false)).length 0 ((a0.Classes_.set (Int.toNat r30) ({ e36 with Must_:=([r33] : List ByteArray) } : I_Class)).map (c_I_Class false)).length] by simp only [List.length_map,List.length_set]) rfl))))))))) ((((cdt ((updb_ne rfl).trans (hd 6 rfl))).trans (cdt ((updb_ne rfl).trans (hd 9 rfl)))).trans (cdt updb_self)).trans rfl) rfl
      exact .nil _
     ·intro b b' h; simp only [h 6 (by decide),h 9 (by decide),h 13 (by decide)]
     refine inB_normal (thn_normal ?_)
     refine T.conv (Cs.eqV (t:=54) (v':=.hd 4 ((a0.Classes_.set (Int.toNat r30) ({ e36 with Must_:=([r33] : List ByteArray) } : I_Class)).map (c_I_Class false)).length 0 ((a0.Classes_.set (Int.toNat r30) ({ e36 with Must_:=([r33] : List ByteArray) } : I_Class)).map (c_I_Class false)).length) rfl (hd_len _ (List.length_set ..))) ?_
     refine T.conv (Cs.eqV (t:=57) (v':=.hd 4 ((a0.Classes_.set (Int.toNat r30) ({ e36 with Must_:=([r33] : List ByteArray) } : I_Class)).map (c_I_Class false)).length 0 ((a0.Classes_.set (Int.toNat r30) ({ e36 with Must_:=([r33] : List ByteArray) } : I_Class)).map (c_I_Class false)).length) rfl (hd_len _ (List.length_set ..))) ?_
     refine T.seq ?_
     refine T.conv (Cs.eqS (σ':=[.box (c_T_spec_l1Cur c0 o34),_,_,_,.arr .clo 4 ((a0.Classes_.set (Int.toNat r30) ({ e36 with Must_:=([r33] : List ByteArray) } : I_Class)).map (c_I_Class false)),_,_,.box (k_impl_DirSchema 3 4 false (⟨a0.Types_,(a0.Classes_.set (Int.toNat r30) ({ e36 with Must_:=([r33] : List ByteArray) } : I_Class))⟩ : I_DirSchema)),_]) rfl) ?_
     refine au 2 ?_
     refine TL.sn rfl rfl (o_storeBx rfl tyS_26 rfl rfl rfl rfl (nb rfl) (sure_hd rfl rfl (sure_hd rfl rfl rfl))) ?_
     refine TL.nil ?_
     refine T.conv (Cs.wkF (M:=9) (.k 4 rfl rfl .nil)) ?_
     refine T.conv (Cs.reloc 5 3 rfl rfl (by decide) rfl rfl rfl (nomS_get rfl)) ?_
     refine T.conv (Cs.wkF (M:=9) (.k 4 rfl rfl .nil)) ?_
     refine T.conv (Cs.eqS (σ':=[_,_,_,.dead,_,.arr .clo 3 (a0.Types_.map (c_I_AttrType false)),_,.box (k_impl_DirSchema 5 4 false (⟨a0.Types_,(a0.Classes_.set (Int.toNat r30) ({ e36 with Must_:=([r33] : List ByteArray) } : I_Class))⟩ : I_DirSchema)),.box (k_impl_DirSchema 5 4 false (⟨a0.Types_,(a0.Classes_.set (Int.toNat r30) ({ e36 with Must_:=([r33] : List ByteArray) } : I_Class))⟩ : I_DirSchema))]) rfl) ?_
     refine T.conv (Cs.reloc 6 4 rfl rfl (by decide) rfl rfl rfl (nomS_get rfl)) ?_
     refine T.conv (Cs.wkF (M:=9) (.k 4 rfl rfl .nil)) ?_
     refine T.conv (Cs.eqS (σ':=[_,_,_,_,.dead,_,.arr .clo 4 ((a0.Classes_.set (Int.toNat r30) ({ e36 with Must_:=([r33] : List ByteArray) } : I_Class)).map (c_I_Class false)),.box (k_impl_DirSchema 5 6 false (⟨a0.Types_,(a0.Classes_.set (Int.toNat r30) ({ e36 with Must_:=([r33] : List ByteArray) } : I_Class))⟩ : I_DirSchema)),.box (k_impl_DirSchema 5 6 false (⟨a0.Types_,(a0.Classes_.set (Int.toNat r30) ({ e36 with Must_:=([r33] : List ByteArray) } : I_Class))⟩ : I_DirSchema))]) rfl) ?_
     refine T.ret ?_
     cases some_i H
     exact ⟨trivial,_,(.cell _ _ _ _ _ _ _ _ _ _ rfl rfl tyS_26 (nb rfl) rfl .nil),⟨rfl,_,rfl⟩⟩
    ·refine au 5 ?_
     refine T.cH H ?_ ?_<;>intro H h
     ·refine au 3 ?_
      obtain ⟨e38,h39,H⟩:=bind_s H
      refine TL.st rfl rfl rfl (o_ixh (f:=c_I_AttrType false) rfl rfl tyS_106 rfl rfl rfl rfl h39 rfl) ?_
      refine TL.st rfl rfl rfl (o_fieldAddrEl rfl rfl rfl tyS_4 (by decide) rfl rfl rfl) ?_
      refine TL.sn rfl rfl (o_stEl (f:=c_I_AttrType false) (xs:=a0.Types_) (k:=0) (a:=e38) (⟨e38.Name_,e38.Syntax_,true⟩ : I_AttrType) rfl tyS_4 rfl rfl rfl rfl (by decide) h39 rfl rfl rfl (fun _=>rfl) rfl) ?_
      refine TL.conv (Cs.eqS (σ:=[.box (c_T_spec_l1Cur c0 o2),.dead,.dead,.arr .clo 3 ((a0.Types_.set (Int.toNat 0) (⟨e38.Name_,e38.Syntax_,true⟩ : I_AttrType)).map (c_I_AttrType false)),.arr .clo 4 (a0.Classes_.map (c_I_Class false)),.dead,.dead,.box [.hd 3 (a0.Types_.map (c_I_AttrType false)).length 0 (a0.Types_.map (c_I_AttrType false)).length,.hd 4 (a0.Classes_.map (c_I_Class false)).length 0 (a0.Classes_.map (c_I_Class false)).length],.box [.nilS,.nilS]]) (σ':=[.box (c_T_spec_l1Cur c0 o2),.dead,.dead,.arr .clo 3 ((a0.Types_.set (Int.toNat 0) (⟨e38.Name_,e38.Syntax_,true⟩ : I_AttrType)).map (c_I_AttrType false)),.arr .clo 4 (a0.Classes_.map (c_I_Class false)),.dead,.dead,.box [.hd 3 ((a0.Types_.set (Int.toNat 0) (⟨e38.Name_,e38.Syntax_,true⟩ : I_AttrType)).map (c_I_AttrType false)).length 0 ((a0.Types_.set (Int.toNat 0) (⟨e38.Name_,e38.Syntax_,true⟩ : I_AttrType)).map (c_I_AttrType false)).length,.hd 4 (a0.Classes_.map (c_I_Class false)).length 0 (a0.Classes_.map (c_I_Class false)).length],.box [.nilS,.nilS]]) (by simp only [List.length_map,List.length_set])) ?_
      refine TL.conv (Cs.eqV (t:=69) (v':=.hd 3 ((a0.Types_.set (Int.toNat 0) (⟨e38.Name_,e38.Syntax_,true⟩ : I_AttrType)).map (c_I_AttrType false)).length 0 ((a0.Types_.set (Int.toNat 0) (⟨e38.Name_,e38.Syntax_,true⟩ : I_AttrType)).map (c_I_AttrType false)).length) rfl (hd_len _ (List.length_set ..))) ?_
      refine TL.conv (Cs.eqV (t:=70) (v':=.el 3 ((a0.Types_.set (Int.toNat 0) (⟨e38.Name_,e38.Syntax_,true⟩ : I_AttrType)).map (c_I_AttrType false)).length (Int.toNat 0) 0) rfl (el_len _ _ _ (List.length_set ..))) ?_
      refine TL.conv (Cs.eqV (t:=71) (v':=.el 3 ((a0.Types_.set (Int.toNat 0) (⟨e38.Name_,e38.Syntax_,true⟩ : I_AttrType)).map (c_I_AttrType false)).length (Int.toNat 0) 2) rfl (el_len _ _ _ (List.length_set ..))) ?_
      refine au 4 ?_
      refine TL.sn rfl rfl (o_storeBx rfl tyS_26 rfl rfl rfl rfl (nb rfl) (sure_hd rfl rfl (sure_hd rfl rfl rfl))) ?_
      refine TL.nil ?_
      refine T.conv (Cs.wkF (M:=9) (.k 4 rfl rfl .nil)) ?_
      refine T.conv (Cs.reloc 5 3 rfl rfl (by decide) rfl rfl rfl (nomS_get rfl)) ?_
      refine T.conv (Cs.wkF (M:=9) (.k 4 rfl rfl .nil)) ?_
      refine T.conv (Cs.eqS (σ':=[_,_,_,.dead,_,.arr .clo 3 ((a0.Types_.set (Int.toNat 0) (⟨e38.Name_,e38.Syntax_,true⟩ : I_AttrType)).map (c_I_AttrType false)),_,.box (k_impl_DirSchema 5 4 false (⟨(a0.Types_.set (Int.toNat 0) (⟨e38.Name_,e38.Syntax_,true⟩ : I_AttrType)),a0.Classes_⟩ : I_DirSchema)),.box (k_impl_DirSchema 5 4 false (⟨(a0.Types_.set (Int.toNat 0) (⟨e38.Name_,e38.Syntax_,true⟩ : I_AttrType)),a0.Classes_⟩ : I_DirSchema))]) rfl) ?_
      refine T.conv (Cs.reloc 6 4 rfl rfl (by decide) rfl rfl rfl (nomS_get rfl)) ?_
      refine T.conv (Cs.wkF (M:=9) (.k 4 rfl rfl .nil)) ?_
      refine T.conv (Cs.eqS (σ':=[_,_,_,_,.dead,_,.arr .clo 4 (a0.Classes_.map (c_I_Class false)),.box (k_impl_DirSchema 5 6 false (⟨(a0.Types_.set (Int.toNat 0) (⟨e38.Name_,e38.Syntax_,true⟩ : I_AttrType)),a0.Classes_⟩ : I_DirSchema)),.box (k_impl_DirSchema 5 6 false (⟨(a0.Types_.set (Int.toNat 0) (⟨e38.Name_,e38.Syntax_,true⟩ : I_AttrType)),a0.Classes_⟩ : I_DirSchema))]) rfl) ?_
      refine T.ret ?_
      cases some_i H
      exact ⟨trivial,_,(.cell _ _ _ _ _ _ _ _ _ _ rfl rfl tyS_26 (nb rfl) rfl .nil),⟨rfl,_,rfl⟩⟩
     ·refine au 4 ?_
      refine TL.sn rfl rfl (o_storeBx rfl tyS_26 rfl rfl rfl rfl (nb rfl) (sure_hd rfl rfl (sure_hd rfl rfl rfl))) ?_
      refine TL.nil ?_
      refine T.conv (Cs.wkF (M:=9) (.k 4 rfl rfl .nil)) ?_
      refine T.conv (Cs.reloc 5 3 rfl rfl (by decide) rfl rfl rfl (nomS_get rfl)) ?_
      refine T.conv (Cs.wkF (M:=9) (.k 4 rfl rfl .nil)) ?_
      refine T.conv (Cs.eqS (σ':=[_,_,_,.dead,_,.arr .clo 3 (a0.Types_.map (c_I_AttrType false)),_,.box (k_impl_DirSchema 5 4 false a0),.box (k_impl_DirSchema 5 4 false a0)]) rfl) ?_
      refine T.conv (Cs.reloc 6 4 rfl rfl (by decide) rfl rfl rfl (nomS_get rfl)) ?_
      refine T.conv (Cs.wkF (M:=9) (.k 4 rfl rfl .nil)) ?_
      refine T.conv (Cs.eqS (σ':=[_,_,_,_,.dead,_,.arr .clo 4 (a0.Classes_.map (c_I_Class false)),.box (k_impl_DirSchema 5 6 false a0),.box (k_impl_DirSchema 5 6 false a0)]) rfl) ?_
      refine T.ret ?_
      cases some_i H
      exact ⟨trivial,_,(.cell _ _ _ _ _ _ _ _ _ _ rfl rfl tyS_26 (nb rfl) rfl .nil),⟨rfl,_,rfl⟩⟩
theorem en_24 : En Tryz.prog 24:=.of Tryz.func24 rfl rfl
theorem tyS_96 : TyS Tryz.prog 96 true 2:=⟨rfl,rfl⟩
theorem tyE_96 : TyE Tryz.prog 96 2:=⟨_,_,rfl,rfl,rfl,rfl,by decide,by decide⟩
noncomputable def spec_l1Cur_dirName_j2 (b4 : T_spec_l1Cur) (l5 : List I_Part) : Option ((List I_Part) × T_spec_l1Cur) :=
  (app l5 ([(⟨(ByteArray.mk #[111]),(ByteArray.mk #[111,114,103])⟩ : I_Part)] : List I_Part)).bind fun l6=>some (l6,b4)
noncomputable def spec_l1Cur_dirName_j1 (b2 : T_spec_l1Cur) (l3 : List I_Part) : Option ((List I_Part) × T_spec_l1Cur) :=
  (spec_l1Cur_one 3 b2).bind fun q=>(match q with | (r8,o9)=>cond (!r8) ((spec_l1Cur_of ([(ByteArray.mk #[108,97,98]),(ByteArray.mk #[115,97,108,101,115])] : List ByteArray) o9).bind fun q=>(match q with | (r11,o12)=>(app l3 ([(⟨(ByteArray.mk #[111,117]),r11⟩ : I_Part)] : List I_Part)).bind fun l14=>spec_l1Cur_dirName_j2 o12 l14)) (spec_l1Cur_dirName_j2 o9 l3))
noncomputable def spec_l1Cur_dirName (s0 : T_spec_l1Cur) : Option ((List I_Part) × T_spec_l1Cur) :=
  (spec_l1Cur_one 4 s0).bind fun q=>(match q with | (r16,o17)=>cond (!r16) ((spec_l1Cur_of ([(ByteArray.mk #[97,110,110]),(ByteArray.mk #[98,111,98]),(ByteArray.mk #[67,121]),(ByteArray.mk #[100,44,101]),(ByteArray.mk #[92,102])] : List ByteArray) o17).bind fun q=>(match q with | (r19,o20)=>(app ([] : List I_Part) ([(⟨(ByteArray.mk #[99,110]),r19⟩ : I_Part)] : List I_Part)).bind fun l22=>spec_l1Cur_dirName_j1 o20 l22)) (spec_l1Cur_dirName_j1 o17 ([] : List I_Part)))
theorem en_40 : En Tryz.prog 40:=.of Tryz.func40 rfl rfl
theorem tyS_30 : TyS Tryz.prog 30 true 2:=⟨rfl,rfl⟩
noncomputable def spec_l1Cur_attrText_j1 (s0 : T_spec_l1Cur) (v7 : Bool) : Option (ByteArray × T_spec_l1Cur) :=
  cond v7 ((spec_l1Cur_of ([(ByteArray.mk #[99,110,61,97,110,110,44,111,61,111,114,103]),(ByteArray.mk #[99,110,61,98,111,98,44,111,117,61,108,97,98,44,111,61,111,114,103]),e0,(ByteArray.mk #[120]),(ByteArray.mk #[99,110,61,67,121,44,111,61,111,114,103])] : List ByteArray) s0).bind fun q=>(match q with | (r8,o9)=>some (r8,o9))) ((spec_l1Cur_of ([(ByteArray.mk #[97,110,110]),(ByteArray.mk #[65,110,110]),(ByteArray.mk #[98,111,98]),(ByteArray.mk #[97,42,98]),(ByteArray.mk #[40,120,41]),(ByteArray.mk #[108,97,98]),(ByteArray.mk #[126,116]),(ByteArray.mk #[100,44,101])] : List ByteArray) s0).bind fun q=>(match q with | (r11,o12)=>some (r11,o12)))
noncomputable def spec_l1Cur_attrText (a0 : ByteArray) (s0 : T_spec_l1Cur) : Option (ByteArray × T_spec_l1Cur) :=
  cond (a0.toList == (ByteArray.mk #[99,108,97,115,115]).toList) ((spec_l1Cur_of ([(ByteArray.mk #[80,101,114,115,111,110]),(ByteArray.mk #[83,116,97,102,102]),(ByteArray.mk #[71,114,111,117,112]),(ByteArray.mk #[84,111,112]),(ByteArray.mk #[80,101,114,115,111,110]),(ByteArray.mk #[82,111,98,111,116])] : List ByteArray) s0).bind fun q=>(match q with | (r1,o2)=>some (r1,o2))) (cond (a0.toList == (ByteArray.mk #[97,103,101]).toList) ((spec_l1Cur_of ([(ByteArray.mk #[55]),(ByteArray.mk #[51,48]),(ByteArray.mk #[45,49]),(ByteArray.mk #[48,55]),(ByteArray.mk #[111,108,100])] : List ByteArray) s0).bind fun q=>(match q with | (r4,o5)=>some (r4,o5))) (cond (a0.toList == (ByteArray.mk #[98,111,115,115]).toList) (spec_l1Cur_attrText_j1 s0 (a0.toList == (ByteArray.mk #[98,111,115,115]).toList)) (spec_l1Cur_attrText_j1 s0 (a0.toList == (ByteArray.mk #[109,101,109,98,101,114]).toList))))
theorem spec_l1Cur_attrText_p (c0 : Bool) {a0 : ByteArray} {s0 : T_spec_l1Cur} {R0 : ByteArray} {U0 : T_spec_l1Cur} (H : spec_l1Cur_attrText a0 s0 = some (R0,U0)) : St Tryz.prog 67 [.bx 0 0,.str a0] [.box (c_T_spec_l1Cur c0 s0)] (.str R0) [.box (c_T_spec_l1Cur c0 U0)]:=by
 refine CallT.fin (CallT.of_TN (n:=25) Tryz.func67 rfl rfl rfl rfl ?_) rfl rfl ⟨(bels_iff.1 rfl),trivial⟩
 refine au 15 ?_
 refine T.cH H ?_ ?_<;>intro H h
 ·refine au 3 ?_
  refine TL.st rfl rfl rfl (o_sliceIm (rows:=([(ByteArray.mk #[80,101,114,115,111,110]),(ByteArray.mk #[83,116,97,102,102]),(ByteArray.mk #[71,114,111,117,112]),(ByteArray.mk #[84,111,112]),(ByteArray.mk #[80,101,114,115,111,110]),(ByteArray.mk #[82,111,98,111,116])] : List ByteArray).map (c_str)) rfl rfl tyS_9 ⟨_,rfl,rfl⟩ (by decide) rfl rfl rfl rfl rfl rfl) ?_
  obtain ⟨⟨r1,o2⟩,h3,H⟩:=bind_s H
  refine TL.st rfl rfl rfl (o_callS [0] rfl en_43 rfl rfl (spec_l1Cur_of_p false c0 h3) rfl (by decide) (.cons _ _ _ _ rfl .nil) rfl rfl rfl) ?_
  refine au 3 ?_
  refine inB_ret (thn_ret ?_)
  cases some_i H
  exact ⟨trivial,_,(.tmp _ _ _ _ rfl .nil),⟨rfl,_,rfl⟩⟩
 ·refine au 5 ?_
  refine T.cH H ?_ ?_<;>intro H h
  ·refine au 3 ?_
   refine TL.st rfl rfl rfl (o_sliceIm (rows:=([(ByteArray.mk #[55]),(ByteArray.mk #[51,48]),(ByteArray.mk #[45,49]),(ByteArray.mk #[48,55]),(ByteArray.mk #[111,108,100])] : List ByteArray).map (c_str)) rfl rfl tyS_9 ⟨_,rfl,rfl⟩ (by decide) rfl rfl rfl rfl rfl rfl) ?_
   obtain ⟨⟨r4,o5⟩,h6,H⟩:=bind_s H
   refine TL.st rfl rfl rfl (o_callS [0] rfl en_43 rfl rfl (spec_l1Cur_of_p false c0 h6) rfl (by decide) (.cons _ _ _ _ rfl .nil) rfl rfl rfl) ?_
   refine au 3 ?_
   refine inB_ret (thn_ret ?_)
   cases some_i H
   exact ⟨trivial,_,(.tmp _ _ _ _ rfl .nil),⟨rfl,_,rfl⟩⟩
  ·refine T.cut (fun fr' σ'=>∃ (v7 : Bool),fr' = [(0,.bx 0 0),(16,.bool v7)] ∧ σ' = [.box (c_T_spec_l1Cur c0 s0)] ∧ spec_l1Cur_attrText_j1 s0 v7 = some (R0,U0)) (T.pk ?_) ?_
   ·skip
    refine au 5 ?_
    refine T.cH H ?_ ?_<;>intro H h
    ·refine T.skip ?_
     exact Pk.of (thn_normal ⟨(a0.toList == (ByteArray.mk #[98,111,115,115]).toList),rfl,rfl,H⟩)
    ·refine au 4 ?_
     exact Pk.of (thn_normal ⟨(a0.toList == (ByteArray.mk #[109,101,109,98,101,114]).toList),rfl,rfl,H⟩)
   ·rintro _ _ ⟨v7,rfl,rfl,H⟩
    refine T.cH H ?_ ?_<;>intro H h
    ·refine au 3 ?_
     refine TL.st rfl rfl rfl (o_sliceIm (rows:=([(ByteArray.mk #[99,110,61,97,110,110,44,111,61,111,114,103]),(ByteArray.mk #[99,110,61,98,111,98,44,111,117,61,108,97,98,44,111,61,111,114,103]),e0,(ByteArray.mk #[120]),(ByteArray.mk #[99,110,61,67,121,44,111,61,111,114,103])] : List ByteArray).map (c_str)) rfl rfl tyS_9 ⟨_,rfl,rfl⟩ (by decide) rfl rfl rfl rfl rfl rfl) ?_
     obtain ⟨⟨r8,o9⟩,h10,H⟩:=bind_s H
     refine TL.st rfl rfl rfl (o_callS [0] rfl en_43 rfl rfl (spec_l1Cur_of_p false c0 h10) rfl (by decide) (.cons _ _ _ _ rfl .nil) rfl rfl rfl) ?_
     refine au 3 ?_
     refine inB_ret (thn_ret ?_)
     cases some_i H
     exact ⟨trivial,_,(.tmp _ _ _ _ rfl .nil),⟨rfl,_,rfl⟩⟩
    ·refine au 4 ?_
     refine TL.st rfl rfl rfl (o_sliceIm (rows:=([(ByteArray.mk #[97,110,110]),(ByteArray.mk #[65,110,110]),(ByteArray.mk #[98,111,98]),(ByteArray.mk #[97,42,98]),(ByteArray.mk #[40,120,41]),(ByteArray.mk #[108,97,98]),(ByteArray.mk #[126,116]),(ByteArray.mk #[100,44,101])] : List ByteArray).map (c_str)) rfl rfl tyS_9 ⟨_,rfl,rfl⟩ (by decide) rfl rfl rfl rfl rfl rfl) ?_
     obtain ⟨⟨r11,o12⟩,h13,H⟩:=bind_s H
     refine TL.st rfl rfl rfl (o_callS [0] rfl en_43 rfl rfl (spec_l1Cur_of_p false c0 h13) rfl (by decide) (.cons _ _ _ _ rfl .nil) rfl rfl rfl) ?_
     refine au 3 ?_
     cases some_i H
     exact ⟨trivial,_,(.tmp _ _ _ _ rfl .nil),⟨rfl,_,rfl⟩⟩
theorem en_67 : En Tryz.prog 67:=.of Tryz.func67 rfl rfl
noncomputable def spec_l1CmpNum (a0 : Int) (a1 : Int) : Option Int :=
  cond (decide (a0 < a1)) (some (-1)) (cond (decide (a0 > a1)) (some 1) (some 0))
theorem spec_l1CmpNum_p  {a0 : Int} {a1 : Int} {R0 : Int} (H : spec_l1CmpNum a0 a1 = some R0) : Pure Tryz.prog 106 [.int .i64 a0,.int .i64 a1] (.int .i64 R0):=by
 refine CallT.of_TN (n:=11) Tryz.func106 rfl rfl rfl rfl ?_
 refine au 11 ?_
 refine T.cH H ?_ ?_<;>intro H h
 ·refine au 5 ?_
  refine thn_ret ?_
  cases some_i H
  exact ⟨trivial,_,(.tmp _ _ _ _ rfl .nil),(.cl _ rfl)⟩
 ·refine au 8 ?_
  refine T.cH H ?_ ?_<;>intro H h
  ·refine au 5 ?_
   refine thn_ret ?_
   cases some_i H
   exact ⟨trivial,_,(.tmp _ _ _ _ rfl .nil),(.cl _ rfl)⟩
  ·refine au 6 ?_
   cases some_i H
   exact ⟨trivial,_,(.tmp _ _ _ _ rfl .nil),(.cl _ rfl)⟩
theorem en_106 : En Tryz.prog 106:=.of Tryz.func106 rfl rfl
noncomputable def spec_l1CmpText_l1 (a0 : ByteArray) (a1 : ByteArray) : Int → Option (Int ⊕ (Unit ⊕ Int)):=fun s=>match s with
  | v1=>cond (decide (v1 < (a0.size : Int)) && decide (v1 < (a1.size : Int))) ((idxS a0 v1).bind fun b6=>(idxS a1 v1).bind fun b8=>cond (b6 != b8) ((idxS a0 v1).bind fun b10=>(idxS a1 v1).bind fun b12=>(spec_l1CmpNum (IntKind.i64.wrap b10) (IntKind.i64.wrap b12)).bind fun r14=>some (.inr (.inr r14))) (some (.inl (IntKind.i64.wrap (v1 + 1))))) (some (.inr (.inl ())))
noncomputable def spec_l1CmpText (a0 : ByteArray) (a1 : ByteArray) : Option Int :=
  (loopO (spec_l1CmpText_l1 a0 a1) 0).bind fun q16=>(match q16 with | .inl _=>(spec_l1CmpNum (a0.size : Int) (a1.size : Int)).bind fun r3=>some r3 | .inr q2=>some q2)
theorem spec_l1CmpText_p  {a0 : ByteArray} {a1 : ByteArray} {R0 : Int} (H : spec_l1CmpText a0 a1 = some R0) : Pure Tryz.prog 61 [.str a0,.str a1] (.int .i64 R0):=by
 refine CallT.of_TN (n:=39) Tryz.func61 rfl rfl rfl rfl ?_
 refine au 10 ?_
 obtain ⟨q16,h17,H⟩:=bind_s H
 refine T.lq (fun s=>match s with | v1=>[(0,.str a0),(1,.str a1),(5,.int .i64 v1)]) (fun s=>match s with | v1=>[]) (fun q ex fr σ=>match q with | .inl _=>ex = .exit 0 ∧ fr = [(0,.str a0),(1,.str a1)] ∧ σ = [] | .inr q2=>ex = .ret ∧ RetN Tryz.prog [.tmp 4] (fun v τ=>Told τ v (.int .i64 q2)) .ret fr σ) h17 ?_ ?_
 ·rintro v1 y5 H
  refine au 10 ?_
  refine TL.gcq rfl rfl rfl (.bool _) rfl rfl (fun h=>o_lenS rfl rfl (gv h rfl)) ?_
  refine TL.gcq rfl rfl rfl (.bool _) rfl rfl (fun h=>o_ari rfl (gv h rfl) (gv h rfl) rfl) ?_
  refine au 2 ?_
  refine T.cH H ?_ ?_<;>intro H h
  ·refine au 4 ?_
   refine T.drawn rfl ?_
   refine ad 2 ?_
   obtain ⟨b6,h7,H⟩:=bind_s H
   refine TD.qs rfl rfl (fun _=>o_ixs rfl rfl rfl rfl h7) ?_
   refine ad 2 ?_
   obtain ⟨b8,h9,H⟩:=bind_s H
   refine TD.qs rfl rfl (fun _=>o_ixs rfl rfl rfl rfl h9) ?_
   refine TD.qs rfl rfl (fun _=>o_ari rfl rfl rfl rfl) ?_
   refine TD.nil ⟨rfl,?_⟩
   refine thn_normal ?_
   refine T.cH H ?_ ?_<;>intro H h
   ·refine T.seq ?_
    refine T.drawn rfl ?_
    refine ad 2 ?_
    obtain ⟨b10,h11,H⟩:=bind_s H
    refine TD.qs rfl rfl (fun _=>o_ixs rfl rfl rfl rfl h11) ?_
    refine TD.qs rfl rfl (fun _=>o_conv rfl rfl ⟨_,rfl⟩ rfl) ?_
    refine ad 2 ?_
    obtain ⟨b12,h13,H⟩:=bind_s H
    refine TD.qs rfl rfl (fun _=>o_ixs rfl rfl rfl rfl h13) ?_
    refine TD.qs rfl rfl (fun _=>o_conv rfl rfl ⟨_,rfl⟩ rfl) ?_
    obtain ⟨r14,h15,H⟩:=bind_s H
    refine TD.qs rfl rfl (fun _=>o_callP rfl en_106 rfl rfl (.cons _ _ _ _ (.cl _ rfl) (.cons _ _ _ _ (.cl _ rfl) .nil)) (spec_l1CmpNum_p  h15)) ?_
    refine TD.qs rfl rfl (fun _=>o_assign rfl rfl) ?_
    refine TD.nil ⟨rfl,?_⟩
    refine T.ret ?_
    refine inB_ret (thn_ret ?_)
    exact Pk.id (thn_ret ⟨.inr r14,(some_i H).symm,rfl,⟨trivial,_,(.tmp _ _ _ _ rfl .nil),(.cl _ rfl)⟩⟩)
   ·refine au 6 ?_
    exact Pk.of (thn_normal ⟨(IntKind.i64.wrap (v1 + 1)),(some_i H).symm,rfl,rfl⟩)
  ·refine T.exit ?_
   refine thn_exit ?_
   exact Pk.of (thn_exit ⟨.inl (),(some_i H).symm,rfl,rfl,rfl⟩)
 ·rcases q16 with ⟨⟩ | q2
  ·rintro _ _ _ ⟨rfl,rfl,rfl⟩
   refine inB_here ?_
   refine au 6 ?_
   obtain ⟨r3,h4,H⟩:=bind_s H
   refine TL.st rfl rfl rfl (o_callP rfl en_106 rfl rfl (.cons _ _ _ _ (.cl _ rfl) (.cons _ _ _ _ (.cl _ rfl) .nil)) (spec_l1CmpNum_p  h4)) ?_
   refine au 3 ?_
   cases some_i H
   exact ⟨trivial,_,(.tmp _ _ _ _ rfl .nil),(.cl _ rfl)⟩
  ·rintro _ fr1 σ1 ⟨rfl,hr⟩
   refine inB_ret (thn_ret ?_)
   cases some_i H
   exact hr
theorem en_61 : En Tryz.prog 61:=.of Tryz.func61 rfl rfl
theorem tyS_28 : TyS Tryz.prog 28 false 1:=⟨rfl,rfl⟩
theorem tyS_114 : TyS Tryz.prog 114 true 2:=⟨rfl,rfl⟩
theorem tyE_114 : TyE Tryz.prog 114 2:=⟨_,_,rfl,rfl,rfl,rfl,by decide,by decide⟩
theorem tyS_27 : TyS Tryz.prog 27 false 1:=⟨rfl,rfl⟩
noncomputable def spec_l1Cur_entry_l2 (b8 : I_Entry) : (I_Entry × Int) → Option ((I_Entry × Int) ⊕ I_Entry):=fun s=>match s with
  | (b14,v15)=>cond (decide (v15 < (b8.Attrs_.length : Int))) ((idx b14.Attrs_ v15).bind fun e18=>cond (e18.Name_.toList == (ByteArray.mk #[99,110]).toList) ((idx b14.Name_ 0).bind fun e20=>(idx b14.Attrs_ v15).bind fun e22=>some (.inl ((⟨b14.Name_,(b14.Attrs_.set (Int.toNat v15) (⟨e22.Name_,([e20.Text_] : List ByteArray)⟩ : I_Attr))⟩ : I_Entry),(IntKind.i64.wrap (v15 + 1))))) (some (.inl (b14,(IntKind.i64.wrap (v15 + 1)))))) (some (.inr b14))
noncomputable def spec_l1Cur_entry_j1 (v40 : Int) (b46 : T_spec_l1Cur) (l47 : List ByteArray) : Option ((T_spec_l1Cur × List ByteArray × Int) ⊕ (T_spec_l1Cur × List ByteArray)) :=
  some (.inl (b46,l47,(IntKind.i64.wrap (v40 - 1))))
noncomputable def spec_l1Cur_entry_j2 (l39 : List ByteArray) (v40 : Int) (o49 : T_spec_l1Cur) (v51 : ByteArray) : Option ((T_spec_l1Cur × List ByteArray × Int) ⊕ (T_spec_l1Cur × List ByteArray)) :=
  (gdO (!((l39.length : Int) == 0)) (idx l39 (IntKind.i64.wrap ((l39.length : Int) - 1)))).bind fun e52=>(gdO (!((l39.length : Int) == 0)) (spec_l1CmpText e52 v51)).bind fun r54=>cond (((l39.length : Int) == 0) || decide (r54 < 0)) ((app l39 ([v51] : List ByteArray)).bind fun l56=>spec_l1Cur_entry_j1 v40 o49 l56) (spec_l1Cur_entry_j1 v40 o49 l39)
noncomputable def spec_l1Cur_entry_l3 (e27 : ByteArray) : (T_spec_l1Cur × List ByteArray × Int) → Option ((T_spec_l1Cur × List ByteArray × Int) ⊕ (T_spec_l1Cur × List ByteArray)):=fun s=>match s with
  | (b38,l39,v40)=>cond (decide (v40 > 0)) ((spec_l1Cur_attrText e27 b38).bind fun q=>(match q with | (r48,o49)=>cond (r48.toList == e0.toList) (spec_l1Cur_entry_j2 l39 v40 o49 (ByteArray.mk #[99,110,61,98,111,98,44,111,61,111,114,103])) (spec_l1Cur_entry_j2 l39 v40 o49 r48))) (some (.inr (b38,l39)))
noncomputable def spec_l1Cur_entry_l1  : (T_spec_l1Cur × I_Entry × Int) → Option ((T_spec_l1Cur × I_Entry × Int) ⊕ (T_spec_l1Cur × I_Entry)):=fun s=>match s with
  | (b4,b5,v6)=>cond (decide (v6 < (([(ByteArray.mk #[97,103,101]),(ByteArray.mk #[98,111,115,115]),(ByteArray.mk #[99,108,97,115,115]),(ByteArray.mk #[99,110]),(ByteArray.mk #[109,97,105,108]),(ByteArray.mk #[109,101,109,98,101,114]),(ByteArray.mk #[110,105,99,107]),(ByteArray.mk #[111,117]),(ByteArray.mk #[114,101,102])] : List ByteArray).length : Int))) ((idx ([(ByteArray.mk #[97,103,101]),(ByteArray.mk #[98,111,115,115]),(ByteArray.mk #[99,108,97,115,115]),(ByteArray.mk #[99,110]),(ByteArray.mk #[109,97,105,108]),(ByteArray.mk #[109,101,109,98,101,114]),(ByteArray.mk #[110,105,99,107]),(ByteArray.mk #[111,117]),(ByteArray.mk #[114,101,102])] : List ByteArray) v6).bind fun e27=>(cond ((!(e27.toList == (ByteArray.mk #[99,108,97,115,115]).toList)) && (!(e27.toList == (ByteArray.mk #[99,110]).toList))) (spec_l1Cur_one 3 b4) (some (default,b4))).bind fun q=>(match q with | (r29,o30)=>(cond ((!(((!(e27.toList == (ByteArray.mk #[99,108,97,115,115]).toList)) && (!(e27.toList == (ByteArray.mk #[99,110]).toList))) && (!r29))) && (e27.toList == (ByteArray.mk #[114,101,102]).toList)) (spec_l1Cur_one 3 o30) (some (default,o30))).bind fun q=>(match q with | (r32,o33)=>cond ((((!(e27.toList == (ByteArray.mk #[99,108,97,115,115]).toList)) && (!(e27.toList == (ByteArray.mk #[99,110]).toList))) && (!r29)) || ((e27.toList == (ByteArray.mk #[114,101,102]).toList) && (!r32))) (some (.inl (o33,b5,(IntKind.i64.wrap (v6 + 1))))) ((spec_l1Cur_pick 2 o33).bind fun q=>(match q with | (r35,o36)=>(loopO (spec_l1Cur_entry_l3 e27) (o36,([] : List ByteArray),(IntKind.i64.wrap (1 + r35)))).bind fun q58=>(match q58 with | (b41,l42)=>(app b5.Attrs_ ([(⟨e27,l42⟩ : I_Attr)] : List I_Attr)).bind fun l43=>some (.inl (b41,(⟨b5.Name_,l43⟩ : I_Entry),(IntKind.i64.wrap (v6 + 1)))))))))) (some (.inr (b4,b5)))
noncomputable def spec_l1Cur_entry (s0 : T_spec_l1Cur) : Option (I_Entry × T_spec_l1Cur) :=
  (spec_l1Cur_dirName s0).bind fun q=>(match q with | (r1,o2)=>(loopO (spec_l1Cur_entry_l1) (o2,(⟨r1,([] : List I_Attr)⟩ : I_Entry),0)).bind fun q60=>(match q60 with | (b7,b8)=>(spec_l1Cur_one 2 b7).bind fun q=>(match q with | (r9,o10)=>(gdO r9 (idx b8.Name_ 0)).bind fun e12=>cond (r9 && (e12.Attr_.toList == (ByteArray.mk #[99,110]).toList)) ((loopO (spec_l1Cur_entry_l2 b8) (b8,0)).bind fun b16=>(match b16 with | b16=>some (b16,o10))) (some (b8,o10)))))
theorem en_27 : En Tryz.prog 27:=.of Tryz.func27 rfl rfl
theorem spec_l1Cur_dirName_o (c0 : Bool) {s0 : T_spec_l1Cur} {R0 : (List I_Part)} {U0 : T_spec_l1Cur} (H : spec_l1Cur_dirName s0 = some (R0,U0)) : St Tryz.prog 40 [.bx 0 0] [.box (c_T_spec_l1Cur c0 s0)] (.hd 1 (R0.map (c_I_Part false)).length 0 (R0.map (c_I_Part false)).length) [.box (c_T_spec_l1Cur c0 U0),.arr .clo 2 (R0.map (c_I_Part false))]:=by
 refine CallT.finR (CallT.of_TN (n:=28) Tryz.func40 rfl rfl rfl rfl ?_) rfl rfl ⟨(bels_iff.1 rfl),⟨trivial,trivial⟩⟩
 refine T.conv Cs.pushDead ?_
 refine T.conv (Cs.wkF (M:=2) (.k 0 rfl rfl .nil)) ?_
 refine T.conv (Cs.eqS (σ':=[.box (c_T_spec_l1Cur c0 s0),.dead]) rfl) ?_
 refine au 8 ?_
 refine T.conv (Cs.own (t:=3) 2 rfl (by decide)) ?_
 refine T.cut (fun fr' σ'=>∃ (b2 : T_spec_l1Cur) (l3 : List I_Part),fr' = [(0,.bx 0 0),(3,.hd 2 (l3.map (c_I_Part false)).length 0 (l3.map (c_I_Part false)).length)] ∧ σ' = [.box (c_T_spec_l1Cur c0 b2),.dead,.arr .clo 2 (l3.map (c_I_Part false))] ∧ spec_l1Cur_dirName_j1 b2 l3 = some (R0,U0)) (T.pk ?_) ?_
 ·skip
  refine au 3 ?_
  obtain ⟨⟨r16,o17⟩,h18,H⟩:=bind_s H
  refine TL.st rfl rfl rfl (o_callS [0] rfl en_41 rfl rfl (spec_l1Cur_one_p c0 h18) rfl (by decide) (.cons _ _ _ _ rfl .nil) rfl rfl rfl) ?_
  refine au 2 ?_
  refine T.cH H ?_ ?_<;>intro H h
  ·refine au 3 ?_
   refine TL.st rfl rfl rfl (o_sliceIm (rows:=([(ByteArray.mk #[97,110,110]),(ByteArray.mk #[98,111,98]),(ByteArray.mk #[67,121]),(ByteArray.mk #[100,44,101]),(ByteArray.mk #[92,102])] : List ByteArray).map (c_str)) rfl rfl tyS_9 ⟨_,rfl,rfl⟩ (by decide) rfl rfl rfl rfl rfl rfl) ?_
   obtain ⟨⟨r19,o20⟩,h21,H⟩:=bind_s H
   refine TL.st rfl rfl rfl (o_callS [0] rfl en_43 rfl rfl (spec_l1Cur_of_p false c0 h21) rfl (by decide) (.cons _ _ _ _ rfl .nil) rfl rfl rfl) ?_
   refine TL.st rfl rfl rfl (o_build rfl ⟨_,fun _=>rfl,rfl⟩ rfl rfl rfl) ?_
   refine TL.st rfl rfl rfl (o_sliceIm (rows:=([(⟨(ByteArray.mk #[99,110]),r19⟩ : I_Part)] : List I_Part).map (c_I_Part false)) rfl rfl tyS_96 ⟨_,rfl,rfl⟩ (by decide) rfl rfl rfl rfl rfl rfl) ?_
   obtain ⟨l22,h23,H⟩:=bind_s H
   refine TL.st rfl rfl rfl (o_ap (f:=c_I_Part false) (xs:=([] : List I_Part)) (ys:=([(⟨(ByteArray.mk #[99,110]),r19⟩ : I_Part)] : List I_Part)) rfl rfl tyE_96 rfl rfl rfl rfl (by decide) rfl (fun _=>rfl) h23) ?_
   refine au 2 ?_
   exact Pk.of (thn_normal ⟨o20,l22,rfl,rfl,H⟩)
  ·refine T.skip ?_
   exact Pk.of (thn_normal ⟨o17,([] : List I_Part),rfl,rfl,H⟩)
 ·rintro _ _ ⟨b2,l3,rfl,rfl,H⟩
  refine T.cut (fun fr' σ'=>∃ (b4 : T_spec_l1Cur) (l5 : List I_Part),fr' = [(3,.hd 2 (l5.map (c_I_Part false)).length 0 (l5.map (c_I_Part false)).length)] ∧ σ' = [.box (c_T_spec_l1Cur c0 b4),.dead,.arr .clo 2 (l5.map (c_I_Part false))] ∧ spec_l1Cur_dirName_j2 b4 l5 = some (R0,U0)) (T.pk ?_) ?_
  ·skip
   refine au 3 ?_
   obtain ⟨⟨r8,o9⟩,h10,H⟩:=bind_s H
   refine TL.st rfl rfl rfl (o_callS [0] rfl en_41 rfl rfl (spec_l1Cur_one_p c0 h10) rfl (by decide) (.cons _ _ _ _ rfl .nil) rfl rfl rfl) ?_
   refine au 2 ?_
   refine T.cH H ?_ ?_<;>intro H h
   ·refine au 3 ?_
    refine TL.st rfl rfl rfl (o_sliceIm (rows:=([(ByteArray.mk #[108,97,98]),(ByteArray.mk #[115,97,108,101,115])] : List ByteArray).map (c_str)) rfl rfl tyS_9 ⟨_,rfl,rfl⟩ (by decide) rfl rfl rfl rfl rfl rfl) ?_
    obtain ⟨⟨r11,o12⟩,h13,H⟩:=bind_s H
    refine TL.st rfl rfl rfl (o_callS [0] rfl en_43 rfl rfl (spec_l1Cur_of_p false c0 h13) rfl (by decide) (.cons _ _ _ _ rfl .nil) rfl rfl rfl) ?_
    refine TL.st rfl rfl rfl (o_build rfl ⟨_,fun _=>rfl,rfl⟩ rfl rfl rfl) ?_
    refine TL.st rfl rfl rfl (o_sliceIm (rows:=([(⟨(ByteArray.mk #[111,117]),r11⟩ : I_Part)] : List I_Part).map (c_I_Part false)) rfl rfl tyS_96 ⟨_,rfl,rfl⟩ (by decide) rfl rfl rfl rfl rfl rfl) ?_
    obtain ⟨l14,h15,H⟩:=bind_s H
    refine TL.st rfl rfl rfl (o_ap (f:=c_I_Part false) (xs:=l3) (ys:=([(⟨(ByteArray.mk #[111,117]),r11⟩ : I_Part)] : List I_Part)) rfl rfl tyE_96 rfl rfl rfl rfl (by decide) rfl (fun _=>rfl) h15) ?_
    refine au 2 ?_
    exact Pk.of (thn_normal ⟨o12,l14,rfl,rfl,H⟩)
   ·refine T.skip ?_
    exact Pk.of (thn_normal ⟨o9,l3,rfl,rfl,H⟩)
  ·rintro _ _ ⟨b4,l5,rfl,rfl,H⟩
   refine au 4 ?_
   refine TL.st rfl rfl rfl (o_sliceIm (rows:=([(⟨(ByteArray.mk #[111]),(ByteArray.mk #[111,114,103])⟩ : I_Part)] : List I_Part).map (c_I_Part false)) rfl rfl tyS_96 ⟨_,rfl,rfl⟩ (by decide) rfl rfl rfl rfl rfl rfl) ?_
   obtain ⟨l6,h7,H⟩:=bind_s H
   refine TL.st rfl rfl rfl (o_ap (f:=c_I_Part false) (xs:=l5) (ys:=([(⟨(ByteArray.mk #[111]),(ByteArray.mk #[111,114,103])⟩ : I_Part)] : List I_Part)) rfl rfl tyE_96 rfl rfl rfl rfl (by decide) rfl (fun _=>rfl) h7) ?_
   refine au 2 ?_
   refine T.conv (Cs.wkF (M:=3) (.k 2 rfl rfl .nil)) ?_
   refine T.conv (Cs.reloc 1 2 rfl rfl (by decide) rfl rfl rfl (nomS_get rfl)) ?_
   refine T.conv (Cs.wkF (M:=3) (.k 2 rfl rfl .nil)) ?_
   refine T.conv (Cs.eqS (σ':=[_,.arr .clo 2 (l6.map (c_I_Part false)),.dead]) rfl) ?_
   refine T.ret ?_
   cases some_i H
   exact ⟨trivial,_,(.tmp _ _ _ _ rfl .nil),⟨rfl,_,rfl⟩⟩
def k_impl_Entryx (a1 a2 : Nat) (b : Bool) (x : I_Entry) : List V:=[.hd a1 (x.Name_.map (c_I_Part false)).length 0 (x.Name_.map (c_I_Part false)).length,.hd a2 (x.Attrs_.map (c_I_Attr false)).length 0 (x.Attrs_.map (c_I_Attr false)).length]
theorem spec_l1Cur_entry_o (c0 : Bool) {s0 : T_spec_l1Cur} {R0 : I_Entry} {U0 : T_spec_l1Cur} (H : spec_l1Cur_entry s0 = some (R0, U0)) : St Tryz.prog 27 [.bx 0 0] [.box (c_T_spec_l1Cur c0 s0)] (.agg [.hd 1 (R0.Name_.map (c_I_Part false)).length 0 (R0.Name_.map (c_I_Part false)).length, .hd 2 (R0.Attrs_.map (c_I_Attr false)).length 0 (R0.Attrs_.map (c_I_Attr false)).length]) [.box (c_T_spec_l1Cur c0 U0), .arr .clo 2 (R0.Name_.map (c_I_Part false)), .arr .clo 2 (R0.Attrs_.map (c_I_Attr false))] := by
 refine CallT.finR (CallT.of_TN (n:=113) Tryz.func27 rfl rfl rfl rfl ?_) rfl rfl ⟨(bels_iff.1 rfl),⟨trivial,⟨trivial,trivial⟩⟩⟩
 refine T.conv Cs.pushDead ?_
 refine T.conv Cs.pushDead ?_
 refine T.conv (Cs.wkF (M:=3) (.k 0 rfl rfl .nil)) ?_
 refine T.conv (Cs.eqS (σ':=[.box (c_T_spec_l1Cur c0 s0),.dead,.dead]) rfl) ?_
 refine au 7 ?_
 obtain ⟨⟨r1,o2⟩,h3,H⟩:=bind_s H
 refine TL.st rfl rfl rfl (o_callS [0] rfl en_40 rfl rfl (spec_l1Cur_dirName_o c0 h3) rfl (by decide) (.cons _ _ _ _ rfl .nil) rfl rfl rfl) ?_
 refine TL.st rfl rfl rfl (o_build rfl ⟨_,fun _=>rfl,rfl⟩ rfl (sureP (sure_hd rfl rfl rfl) rfl) rfl) ?_
 refine TL.st rfl rfl rfl (o_alloc rfl ⟨_,rfl,rfl⟩) ?_
 refine TL.sn rfl rfl (o_storeBx rfl tyS_30 rfl rfl rfl rfl (nb rfl) (sure_hd rfl rfl (sure_c rfl rfl))) ?_
 refine au 3 ?_
 refine T.conv (Cs.eqS (σ':=[.box (c_T_spec_l1Cur c0 o2),_,_,.box [.nilS,.nilS],.arr .clo 2 (r1.map (c_I_Part false)),.box [.hd 4 (r1.map (c_I_Part false)).length 0 (r1.map (c_I_Part false)).length,.nilS]]) rfl) ?_
 refine T.region ?_
 refine TL.st rfl rfl rfl (o_sliceIm (rows:=([(ByteArray.mk #[97,103,101]),(ByteArray.mk #[98,111,115,115]),(ByteArray.mk #[99,108,97,115,115]),(ByteArray.mk #[99,110]),(ByteArray.mk #[109,97,105,108]),(ByteArray.mk #[109,101,109,98,101,114]),(ByteArray.mk #[110,105,99,107]),(ByteArray.mk #[111,117]),(ByteArray.mk #[114,101,102])] : List ByteArray).map (c_str)) rfl rfl tyS_9 ⟨_,rfl,rfl⟩ (by decide) rfl rfl rfl rfl rfl rfl) ?_
 refine TL.st rfl rfl rfl (o_lenL (f:=c_str) rfl rfl rfl) ?_
 refine au 3 ?_
 refine T.conv (Cs.ownCell (p:=5) 1 2 rfl rfl (by decide)) ?_
 obtain ⟨q60,h61,H⟩:=bind_s H
 refine T.lq (fun s=>match s with | (b4,b5,v6)=>[(0,.bx 0 0),(2,.bx 3 0),(3,.bx 5 0),(14,.im false (([(ByteArray.mk #[97,103,101]),(ByteArray.mk #[98,111,115,115]),(ByteArray.mk #[99,108,97,115,115]),(ByteArray.mk #[99,110]),(ByteArray.mk #[109,97,105,108]),(ByteArray.mk #[109,101,109,98,101,114]),(ByteArray.mk #[110,105,99,107]),(ByteArray.mk #[111,117]),(ByteArray.mk #[114,101,102])] : List ByteArray).map (c_str))),(15,.int .i64 (([(ByteArray.mk #[97,103,101]),(ByteArray.mk #[98,111,115,115]),(ByteArray.mk #[99,108,97,115,115]),(ByteArray.mk #[99,110]),(ByteArray.mk #[109,97,105,108]),(ByteArray.mk #[109,101,109,98,101,114]),(ByteArray.mk #[110,105,99,107]),(ByteArray.mk #[111,117]),(ByteArray.mk #[114,101,102])] : List ByteArray).length : Int)),(16,.int .i64 v6)]) (fun s=>match s with | (b4,b5,v6)=>[.box (c_T_spec_l1Cur c0 b4),.dead,.dead,.box [.nilS,.nilS],.arr .clo 2 (b5.Name_.map (c_I_Part false)),.box (k_impl_Entryx 4 6 false b5),.arr .clo 2 (b5.Attrs_.map (c_I_Attr false))]) (fun q ex fr σ=>match q with | (b7,b8)=>ex = .exit 0 ∧ fr = [(0,.bx 0 0),(2,.bx 3 0),(3,.bx 5 0)] ∧ σ = [.box (c_T_spec_l1Cur c0 b7),.dead,.dead,.box [.nilS,.nilS],.arr .clo 2 (b8.Name_.map (c_I_Part false)),.box (k_impl_Entryx 4 6 false b8),.arr .clo 2 (b8.Attrs_.map (c_I_Attr false))]) h61 ?_ ?_
 ·rintro ⟨b4, b5, v6⟩ y26 H
  refine au 5 ?_
  refine T.cH H ?_ ?_<;>intro H h
  ·refine au 5 ?_
   obtain ⟨e27,h28,H⟩:=bind_s H
   refine TL.st rfl rfl rfl (o_ix (f:=c_str) rfl rfl tyS_9 rfl rfl h28 rfl) ?_
   refine au 10 ?_
   refine TL.gcq rfl rfl rfl (.bool _) rfl rfl (fun h=>o_str rfl (gv h rfl) rfl rfl) ?_
   refine au 3 ?_
   obtain ⟨⟨r29,o30⟩,h31,H⟩:=bind_s H
   refine TL.gc rfl rfl rfl (.bool _) rfl rfl (fun h=>o_callS [0] rfl en_41 rfl (evl_2 (gv h rfl) rfl) (spec_l1Cur_one_p c0 (cond_t h h31)) rfl (by decide) (.cons _ _ _ _ rfl .nil) rfl rfl rfl) (fun h=>by cases cond_f h h31; rfl) ?_
   refine au 4 ?_
   refine TL.gcq rfl rfl rfl (.bool _) rfl rfl (fun h=>o_str rfl (gv h rfl) rfl rfl) ?_
   refine TL.gcq rfl rfl rfl (.bool _) rfl rfl (fun h=>o_move rfl (gv h rfl)) ?_
   refine TL.gcq rfl rfl rfl (.gd _ _) rfl rfl (fun h=>o_move rfl rfl) ?_
   obtain ⟨⟨r32,o33⟩,h34,H⟩:=bind_s H
   refine TL.gc rfl rfl rfl (.gd _ _) rfl rfl (fun h=>o_callS [0] rfl en_41 rfl (evl_2 (gv h rfl) rfl) (spec_l1Cur_one_p c0 (cond_t h h34)) rfl (by decide) (.cons _ _ _ _ rfl .nil) rfl rfl rfl) (fun h=>by cases cond_f h h34; rfl) ?_
   refine TL.gcq rfl rfl rfl (.gd _ _) rfl rfl (fun h=>o_not rfl (gv h rfl)) ?_
   refine TL.gcq rfl rfl rfl (.bool _) rfl rfl (fun h=>o_and rfl (gv h rfl) rfl (fun k=>Gd_t (andi h k)) rfl) ?_
   refine au 2 ?_
   refine T.cH H ?_ ?_<;>intro H h
   ·refine T.exit ?_
    refine thn_exit ?_
    refine inB_here ?_
    refine au 4 ?_
    exact Pk.of (thn_normal ⟨(o33,b5,(IntKind.i64.wrap (v6 + 1))),(some_i H).symm,rfl,rfl⟩)
   ·refine au 9 ?_
    obtain ⟨⟨r35,o36⟩,h37,H⟩:=bind_s H
    refine TL.st rfl rfl rfl (o_callS [0] rfl en_42 rfl rfl (spec_l1Cur_pick_p c0 h37) rfl (by decide) (.cons _ _ _ _ rfl .nil) rfl rfl rfl) ?_
    refine au 3 ?_
    refine T.conv (Cs.eqS (σ':=[.box (c_T_spec_l1Cur c0 o36),_,_,_,_,_,_]) rfl) ?_
    refine T.block ?_
    refine T.conv (Cs.own (t:=6) 1 rfl (by decide)) ?_
    obtain ⟨q58,h59,H⟩:=bind_s H
    refine T.lq (fun s=>match s with | (b38,l39,v40)=>[(0,.bx 0 0),(2,.bx 3 0),(3,.bx 5 0),(5,.str e27),(6,.hd 7 (l39.map (c_str)).length 0 (l39.map (c_str)).length),(7,.int .i64 v40),(14,.im false (([(ByteArray.mk #[97,103,101]),(ByteArray.mk #[98,111,115,115]),(ByteArray.mk #[99,108,97,115,115]),(ByteArray.mk #[99,110]),(ByteArray.mk #[109,97,105,108]),(ByteArray.mk #[109,101,109,98,101,114]),(ByteArray.mk #[110,105,99,107]),(ByteArray.mk #[111,117]),(ByteArray.mk #[114,101,102])] : List ByteArray).map (c_str))),(15,.int .i64 (([(ByteArray.mk #[97,103,101]),(ByteArray.mk #[98,111,115,115]),(ByteArray.mk #[99,108,97,115,115]),(ByteArray.mk #[99,110]),(ByteArray.mk #[109,97,105,108]),(ByteArray.mk #[109,101,109,98,101,114]),(ByteArray.mk #[110,105,99,107]),(ByteArray.mk #[111,117]),(ByteArray.mk #[114,101,102])] : List ByteArray).length : Int)),(16,.int .i64 v6)]) (fun s=>match s with | (b38,l39,v40)=>[.box (c_T_spec_l1Cur c0 b38),.dead,.dead,.box [.nilS,.nilS],.arr .clo 2 (b5.Name_.map (c_I_Part false)),.box (k_impl_Entryx 4 6 false b5),.arr .clo 2 (b5.Attrs_.map (c_I_Attr false)),.arr .clo 1 (l39.map (c_str))]) (fun q ex fr σ=>match q with | (b41,l42)=>ex = .exit 2 ∧ fr = [(0,.bx 0 0),(2,.bx 3 0),(3,.bx 5 0),(5,.str e27),(6,.hd 7 (l42.map (c_str)).length 0 (l42.map (c_str)).length),(14,.im false (([(ByteArray.mk #[97,103,101]),(ByteArray.mk #[98,111,115,115]),(ByteArray.mk #[99,108,97,115,115]),(ByteArray.mk #[99,110]),(ByteArray.mk #[109,97,105,108]),(ByteArray.mk #[109,101,109,98,101,114]),(ByteArray.mk #[110,105,99,107]),(ByteArray.mk #[111,117]),(ByteArray.mk #[114,101,102])] : List ByteArray).map (c_str))),(15,.int .i64 (([(ByteArray.mk #[97,103,101]),(ByteArray.mk #[98,111,115,115]),(ByteArray.mk #[99,108,97,115,115]),(ByteArray.mk #[99,110]),(ByteArray.mk #[109,97,105,108]),(ByteArray.mk #[109,101,109,98,101,114]),(ByteArray.mk #[110,105,99,107]),(ByteArray.mk #[111,117]),(ByteArray.mk #[114,101,102])] : List ByteArray).length : Int)),(16,.int .i64 v6)] ∧ σ = [.box (c_T_spec_l1Cur c0 b41),.dead,.dead,.box [.nilS,.nilS],.arr .clo 2 (b5.Name_.map (c_I_Part false)),.box (k_impl_Entryx 4 6 false b5),.arr .clo 2 (b5.Attrs_.map (c_I_Attr false)),.arr .clo 1 (l42.map (c_str))]) h59 ?_ ?_
    ·rintro ⟨b38,l39,v40⟩ y45 H
     refine au 6 ?_
     refine T.cH H ?_ ?_<;>intro H h
     ·refine T.skip ?_
      refine T.cut (fun fr' σ'=>∃ (b46 : T_spec_l1Cur) (l47 : List ByteArray),fr' = [(0,.bx 0 0),(2,.bx 3 0),(3,.bx 5 0),(5,.str e27),(6,.hd 7 (l47.map (c_str)).length 0 (l47.map (c_str)).length),(7,.int .i64 v40),(14,.im false (([(ByteArray.mk #[97,103,101]),(ByteArray.mk #[98,111,115,115]),(ByteArray.mk #[99,108,97,115,115]),(ByteArray.mk #[99,110]),(ByteArray.mk #[109,97,105,108]),(ByteArray.mk #[109,101,109,98,101,114]),(ByteArray.mk #[110,105,99,107]),(ByteArray.mk #[111,117]),(ByteArray.mk #[114,101,102])] : List ByteArray).map (c_str))),(15,.int .i64 (([(ByteArray.mk #[97,103,101]),(ByteArray.mk #[98,111,115,115]),(ByteArray.mk #[99,108,97,115,115]),(ByteArray.mk #[99,110]),(ByteArray.mk #[109,97,105,108]),(ByteArray.mk #[109,101,109,98,101,114]),(ByteArray.mk #[110,105,99,107]),(ByteArray.mk #[111,117]),(ByteArray.mk #[114,101,102])] : List ByteArray).length : Int)),(16,.int .i64 v6)] ∧ σ' = [.box (c_T_spec_l1Cur c0 b46),.dead,.dead,.box [.nilS,.nilS],.arr .clo 2 (b5.Name_.map (c_I_Part false)),.box (k_impl_Entryx 4 6 false b5),.arr .clo 2 (b5.Attrs_.map (c_I_Attr false)),.arr .clo 1 (l47.map (c_str))] ∧ spec_l1Cur_entry_j1 v40 b46 l47 = some y45) (T.pk ?_) ?_
      ·skip
       refine au 5 ?_
       obtain ⟨⟨r48,o49⟩,h50,H⟩:=bind_s H
       refine TL.st rfl rfl rfl (o_callS [0] rfl en_67 rfl rfl (spec_l1Cur_attrText_p c0 h50) rfl (by decide) (.cons _ _ _ _ rfl .nil) rfl rfl rfl) ?_
       refine au 2 ?_
       refine T.cut (fun fr' σ'=>∃ (v51 : ByteArray),fr' = [(0,.bx 0 0),(2,.bx 3 0),(3,.bx 5 0),(5,.str e27),(6,.hd 7 (l39.map (c_str)).length 0 (l39.map (c_str)).length),(7,.int .i64 v40),(8,.str v51),(14,.im false (([(ByteArray.mk #[97,103,101]),(ByteArray.mk #[98,111,115,115]),(ByteArray.mk #[99,108,97,115,115]),(ByteArray.mk #[99,110]),(ByteArray.mk #[109,97,105,108]),(ByteArray.mk #[109,101,109,98,101,114]),(ByteArray.mk #[110,105,99,107]),(ByteArray.mk #[111,117]),(ByteArray.mk #[114,101,102])] : List ByteArray).map (c_str))),(15,.int .i64 (([(ByteArray.mk #[97,103,101]),(ByteArray.mk #[98,111,115,115]),(ByteArray.mk #[99,108,97,115,115]),(ByteArray.mk #[99,110]),(ByteArray.mk #[109,97,105,108]),(ByteArray.mk #[109,101,109,98,101,114]),(ByteArray.mk #[110,105,99,107]),(ByteArray.mk #[111,117]),(ByteArray.mk #[114,101,102])] : List ByteArray).length : Int)),(16,.int .i64 v6)] ∧ σ' = [.box (c_T_spec_l1Cur c0 o49),.dead,.dead,.box [.nilS,.nilS],.arr .clo 2 (b5.Name_.map (c_I_Part false)),.box (k_impl_Entryx 4 6 false b5),.arr .clo 2 (b5.Attrs_.map (c_I_Attr false)),.arr .clo 1 (l39.map (c_str))] ∧ spec_l1Cur_entry_j2 l39 v40 o49 v51 = some y45) (T.pk ?_) ?_
       ·skip
        refine au 5 ?_
        refine T.cH H ?_ ?_<;>intro H h
        ·refine au 3 ?_
         exact Pk.of (thn_normal ⟨(ByteArray.mk #[99,110,61,98,111,98,44,111,61,111,114,103]),rfl,rfl,H⟩)
        ·refine T.skip ?_
         exact Pk.of (thn_normal ⟨r48,rfl,rfl,H⟩)
       ·rintro _ _ ⟨v51,rfl,rfl,H⟩
        refine au 3 ?_
        refine TL.st rfl rfl rfl (o_lenOwn (f:=c_str) rfl rfl rfl rfl rfl) ?_
        refine au 4 ?_
        refine TL.gcq rfl rfl rfl (.bool _) rfl rfl (fun h=>o_lenOwn (f:=c_str) rfl rfl (gv h rfl) rfl rfl) ?_
        refine TL.gcq rfl rfl rfl (.bool _) rfl rfl (fun h=>o_ari rfl (gv h rfl) rfl rfl) ?_
        obtain ⟨e52,h53,H⟩:=bind_s H
        refine TL.gcq rfl rfl rfl (.bool _) rfl rfl (fun h=>o_ixh (f:=c_str) rfl rfl tyS_9 (gv h rfl) (gv h rfl) rfl rfl (gdO_t h53 h) rfl) ?_
        refine TL.gcq rfl rfl rfl (.bool _) rfl rfl (fun h=>o_loadEl rfl tyS_9 (gv h rfl) rfl rfl (by rw [List.getElem?_map,(idx_s (gdO_t h53 h)).2]; rfl) (nb rfl) rfl) ?_
        refine TL.gcq rfl rfl rfl (.bool _) rfl rfl (fun h=>o_move rfl rfl) ?_
        obtain ⟨r54,h55,H⟩:=bind_s H
        refine TL.gcq rfl rfl rfl (.bool _) rfl rfl (fun h=>o_callP rfl en_61 rfl (evl_2 (gv h rfl) (gv h rfl)) (.cons _ _ _ _ (.cl _ rfl) (.cons _ _ _ _ (.cl _ rfl) .nil)) (spec_l1CmpText_p  (gdO_t h55 h))) ?_
        refine au 3 ?_
        refine T.cH H ?_ ?_<;>intro H h
        ·refine au 3 ?_
         refine TL.st rfl rfl rfl (o_sliceIm (rows:=([v51] : List ByteArray).map (c_str)) rfl rfl tyS_9 ⟨_,rfl,rfl⟩ (by decide) rfl rfl rfl rfl rfl rfl) ?_
         obtain ⟨l56,h57,H⟩:=bind_s H
         refine TL.st rfl rfl rfl (o_ap (f:=c_str) (xs:=l39) (ys:=([v51] : List ByteArray)) rfl rfl tyE_9 rfl rfl rfl rfl (by decide) rfl (fun _=>rfl) h57) ?_
         refine au 2 ?_
         refine inB_normal ?_
         exact Pk.of (thn_normal ⟨o49,l56,rfl,rfl,H⟩)
        ·refine T.skip ?_
         refine inB_normal ?_
         exact Pk.of (thn_normal ⟨o49,l39,rfl,rfl,H⟩)
      ·rintro _ _ ⟨b46,l47,rfl,rfl,H⟩
       refine au 5 ?_
       exact Pk.of (thn_normal ⟨(b46,l47,(IntKind.i64.wrap (v40 - 1))),(some_i H).symm,rfl,rfl⟩)
     ·refine T.exit ?_
      refine thn_exit ?_
      exact Pk.of (thn_exit ⟨(b38,l39),(some_i H).symm,rfl,rfl,rfl⟩)
    ·rcases q58 with ⟨b41,l42⟩
     rintro _ _ _ ⟨rfl,rfl,rfl⟩
     refine inB_here ?_
     refine au 5 ?_
     refine TL.st rfl rfl rfl (o_build rfl ⟨_,fun _=>rfl,rfl⟩ rfl (sureP rfl (sureP (sure_hd rfl rfl rfl) rfl)) rfl) ?_
     refine TL.conv (Cs.frzAgg (t:=74) 1 rfl rfl rfl rfl) ?_
     refine TL.st rfl rfl rfl (o_sliceIm (rows:=([(⟨e27,l42⟩ : I_Attr)] : List I_Attr).map (c_I_Attr false)) rfl rfl tyS_114 ⟨_,rfl,rfl⟩ (by decide) rfl rfl rfl rfl rfl rfl) ?_
     obtain ⟨l43,h44,H⟩:=bind_s H
     refine TL.st rfl rfl rfl (o_ap (f:=c_I_Attr false) (xs:=b5.Attrs_) (ys:=([(⟨e27,l42⟩ : I_Attr)] : List I_Attr)) rfl rfl tyE_114 rfl rfl rfl rfl (by decide) rfl (fun _=>rfl) h44) ?_
     refine TL.st rfl rfl rfl (o_fieldAddr rfl rfl rfl tyS_28 (by decide) rfl rfl ⟨_,rfl,Nat.le_of_ble_eq_true rfl⟩) ?_
     refine TL.sn rfl rfl (o_storeBx rfl tyS_28 rfl rfl rfl rfl (nb rfl) (sure_hd rfl rfl rfl)) ?_
     refine au 5 ?_
     exact Pk.of (thn_normal ⟨(b41,(⟨b5.Name_,l43⟩ : I_Entry),(IntKind.i64.wrap (v6 + 1))),(some_i H).symm,rfl,rfl⟩)
  ·refine T.exit ?_
   refine thn_exit ?_
   exact Pk.of (thn_exit ⟨(b4,b5),(some_i H).symm,rfl,rfl,rfl⟩)
 ·rcases q60 with ⟨b7,b8⟩
  rintro _ _ _ ⟨rfl,rfl,rfl⟩
  refine inB_here ?_
  refine au 4 ?_
  obtain ⟨⟨r9,o10⟩,h11,H⟩:=bind_s H
  refine TL.st rfl rfl rfl (o_callS [0] rfl en_41 rfl rfl (spec_l1Cur_one_p c0 h11) rfl (by decide) (.cons _ _ _ _ rfl .nil) rfl rfl rfl) ?_
  refine au 3 ?_
  obtain ⟨e12,h13,H⟩:=bind_s H
  refine TL.gcq rfl rfl rfl (.bool _) rfl rfl (fun h=>o_ixh (f:=c_I_Part false) rfl rfl tyS_96 (gv h rfl) rfl rfl rfl (gdO_t h13 h) rfl) ?_
  refine TL.gcq rfl rfl rfl (.bool _) rfl rfl (fun h=>o_fieldAddrEl rfl rfl rfl tyS_9 (by decide) (gv h rfl) rfl rfl) ?_
  refine TL.gcq rfl rfl rfl (.bool _) rfl rfl (fun h=>o_loadEl rfl tyS_9 (gv h rfl) rfl rfl (by rw [List.getElem?_map,(idx_s (gdO_t h13 h)).2]; rfl) (nb rfl) rfl) ?_
  refine TL.gcq rfl rfl rfl (.bool _) rfl rfl (fun h=>o_str rfl (gv h rfl) rfl rfl) ?_
  refine au 2 ?_
  refine T.cH H ?_ ?_<;>intro H h
  ·refine au 4 ?_
   refine TL.st rfl rfl rfl (o_lenOwn (f:=c_I_Attr false) rfl rfl rfl rfl rfl) ?_
   refine au 3 ?_
   obtain ⟨b16,h25,H⟩:=bind_s H
   refine T.lq (fun s=>match s with | (b14,v15)=>[(2,.bx 3 0),(3,.bx 5 0),(90,.hd 6 (b14.Attrs_.map (c_I_Attr false)).length 0 (b14.Attrs_.map (c_I_Attr false)).length),(91,.int .i64 (b8.Attrs_.length : Int)),(92,.int .i64 v15)]) (fun s=>match s with | (b14,v15)=>[.box (c_T_spec_l1Cur c0 o10),.dead,.dead,.box [.nilS,.nilS],.arr .clo 2 (b14.Name_.map (c_I_Part false)),.box (k_impl_Entryx 4 6 false b14),.arr .clo 2 (b14.Attrs_.map (c_I_Attr false))]) (fun q ex fr σ=>match q with | b16=>ex = .exit 4 ∧ fr = [(2,.bx 3 0),(3,.bx 5 0)] ∧ σ = [.box (c_T_spec_l1Cur c0 o10),.dead,.dead,.box [.nilS,.nilS],.arr .clo 2 (b16.Name_.map (c_I_Part false)),.box (k_impl_Entryx 4 6 false b16),.arr .clo 2 (b16.Attrs_.map (c_I_Attr false))]) h25 ?_ ?_
   ·rintro ⟨b14,v15⟩ y17 H
    refine au 5 ?_
    refine T.cH H ?_ ?_<;>intro H h
    ·refine au 6 ?_
     obtain ⟨e18,h19,H⟩:=bind_s H
     refine TL.st rfl rfl rfl (o_ixh (f:=c_I_Attr false) rfl rfl tyS_114 rfl rfl rfl rfl h19 rfl) ?_
     refine TL.st rfl rfl rfl (o_loadEl rfl tyS_114 rfl rfl rfl (by rw [List.getElem?_map,(idx_s h19).2]; rfl) (nb rfl) rfl) ?_
     refine au 10 ?_
     refine T.cH H ?_ ?_<;>intro H h
     ·refine T.drawn rfl ?_
      refine ad 5 ?_
      obtain ⟨e20,h21,H⟩:=bind_s H
      refine TD.rs rfl rfl (o_ixh (f:=c_I_Part false) rfl rfl tyS_96 rfl rfl rfl rfl h21 rfl) ?_
      refine TD.rs rfl rfl (o_fieldAddrEl rfl rfl rfl tyS_9 (by decide) rfl rfl rfl) ?_
      refine TD.rs rfl rfl (o_loadEl rfl tyS_9 rfl rfl rfl (by rw [List.getElem?_map,(idx_s h21).2]; rfl) (nb rfl) rfl) ?_
      refine TD.qs rfl rfl (fun _=>o_sliceIm (rows:=([e20.Text_] : List ByteArray).map (c_str)) rfl rfl tyS_9 ⟨_,rfl,rfl⟩ (by decide) rfl rfl rfl rfl rfl rfl) ?_
      obtain ⟨e22,h23,H⟩:=bind_s H
      refine TD.rs rfl rfl (o_ixh (f:=c_I_Attr false) rfl rfl tyS_114 rfl rfl rfl rfl h23 rfl) ?_
      refine TD.rs rfl rfl (o_fieldAddrEl rfl rfl rfl tyS_43 (by decide) rfl rfl rfl) ?_
      refine TD.an rfl rfl (Does.to (o_stEl (f:=c_I_Attr false) (xs:=b14.Attrs_) (k:=v15) (a:=e22) (⟨e22.Name_,([e20.Text_] : List ByteArray)⟩ : I_Attr) rfl tyS_43 rfl rfl rfl rfl (by decide) h23 rfl rfl rfl (fun _=>rfl) rfl) (eqAtS (eqAtS (eqAtS (eqAtS (eqAtS (eqAtB (show (.box [.hd 4 (b14.Name_.map (c_I_Part false)).length 0 (b14.Name_.map (c_I_Part false)).length,.hd 6 (b14.Attrs_.map (c_I_Attr false)).length 0 (b14.Attrs_.map (c_I_Attr false)).length] : AO) = .box [.hd 4 (b14.Name_.map (c_I_Part false)).length 0 (b14.Name_.map (c_I_Part false)).length,.hd 6 ((b14.Attrs_.set (Int.toNat v15) (⟨e22.Name_,([e20.Text_] : List ByteArray)⟩ : I_Attr)).map (c_I_Attr false)).length 0 ((b14.Attrs_.set (Int.toNat v15) (⟨e22.Name_,([e20.Text_] : List ByteArray)⟩ : I_Attr)).map (c_I_Attr false)).length] by simp only [List.length_map,List.length_set]) rfl))))))) ?_
      refine TD.nil ⟨rfl,?_⟩
      refine inB_normal (thn_normal ?_)
      refine T.conv (Cs.eqV (t:=90) (v':=.hd 6 ((b14.Attrs_.set (Int.toNat v15) (⟨e22.Name_,([e20.Text_] : List ByteArray)⟩ : I_Attr)).map (c_I_Attr false)).length 0 ((b14.Attrs_.set (Int.toNat v15) (⟨e22.Name_,([e20.Text_] : List ByteArray)⟩ : I_Attr)).map (c_I_Attr false)).length) rfl (hd_len _ (List.length_set ..))) ?_
      refine T.conv (Cs.eqV (t:=95) (v':=.el 6 ((b14.Attrs_.set (Int.toNat v15) (⟨e22.Name_,([e20.Text_] : List ByteArray)⟩ : I_Attr)).map (c_I_Attr false)).length (Int.toNat v15) 0) rfl (el_len _ _ _ (List.length_set ..))) ?_
      refine T.conv (Cs.eqV (t:=101) (v':=.hd 6 ((b14.Attrs_.set (Int.toNat v15) (⟨e22.Name_,([e20.Text_] : List ByteArray)⟩ : I_Attr)).map (c_I_Attr false)).length 0 ((b14.Attrs_.set (Int.toNat v15) (⟨e22.Name_,([e20.Text_] : List ByteArray)⟩ : I_Attr)).map (c_I_Attr false)).length) rfl (hd_len _ (List.length_set ..))) ?_
      refine T.conv (Cs.eqV (t:=109) (v':=.el 6 ((b14.Attrs_.set (Int.toNat v15) (⟨e22.Name_,([e20.Text_] : List ByteArray)⟩ : I_Attr)).map (c_I_Attr false)).length (Int.toNat v15) 0) rfl (el_len _ _ _ (List.length_set ..))) ?_
      refine T.conv (Cs.eqV (t:=110) (v':=.el 6 ((b14.Attrs_.set (Int.toNat v15) (⟨e22.Name_,([e20.Text_] : List ByteArray)⟩ : I_Attr)).map (c_I_Attr false)).length (Int.toNat v15) 1) rfl (el_len _ _ _ (List.length_set ..))) ?_
      refine T.conv (Cs.eqS (σ':=[_,_,_,_,_,.box (k_impl_Entryx 4 6 false (⟨b14.Name_,(b14.Attrs_.set (Int.toNat v15) (⟨e22.Name_,([e20.Text_] : List ByteArray)⟩ : I_Attr))⟩ : I_Entry)),.arr .clo 2 ((b14.Attrs_.set (Int.toNat v15) (⟨e22.Name_,([e20.Text_] : List ByteArray)⟩ : I_Attr)).map (c_I_Attr false)),.box (c_I_Attr false e18)]) rfl) ?_
      refine au 4 ?_
      exact Pk.of (thn_normal ⟨((⟨b14.Name_,(b14.Attrs_.set (Int.toNat v15) (⟨e22.Name_,([e20.Text_] : List ByteArray)⟩ : I_Attr))⟩ : I_Entry),(IntKind.i64.wrap (v15 + 1))),(some_i H).symm,rfl,rfl⟩)
     ·refine au 5 ?_
      exact Pk.of (thn_normal ⟨(b14,(IntKind.i64.wrap (v15 + 1))),(some_i H).symm,rfl,rfl⟩)
    ·refine T.exit ?_
     refine thn_exit ?_
     exact Pk.of (thn_exit ⟨b14,(some_i H).symm,rfl,rfl,rfl⟩)
   ·rintro _ _ _ ⟨rfl,rfl,rfl⟩
    refine inB_here ?_
    refine au 3 ?_
    refine TL.sn rfl rfl (o_storeBx rfl tyS_30 rfl rfl rfl rfl (nb rfl) (sure_hd rfl rfl (sure_hd rfl rfl rfl))) ?_
    refine TL.nil ?_
    refine T.conv (Cs.wkF (M:=7) (.k 2 rfl rfl .nil)) ?_
    refine T.conv (Cs.reloc 1 4 rfl rfl (by decide) rfl rfl rfl (nomS_get rfl)) ?_
    refine T.conv (Cs.wkF (M:=7) (.k 2 rfl rfl .nil)) ?_
    refine T.conv (Cs.eqS (σ':=[_,.arr .clo 2 (b16.Name_.map (c_I_Part false)),_,.box (k_impl_Entryx 1 6 false b16),.dead,.box (k_impl_Entryx 1 6 false b16),_]) rfl) ?_
    refine T.conv (Cs.reloc 2 6 rfl rfl (by decide) rfl rfl rfl (nomS_get rfl)) ?_
    refine T.conv (Cs.wkF (M:=7) (.k 2 rfl rfl .nil)) ?_
    refine T.conv (Cs.eqS (σ':=[_,_,.arr .clo 2 (b16.Attrs_.map (c_I_Attr false)),.box (k_impl_Entryx 1 2 false b16),_,.box (k_impl_Entryx 1 2 false b16),.dead]) rfl) ?_
    refine T.ret ?_
    cases some_i H
    exact ⟨trivial,_,(.cell _ _ _ _ _ _ _ _ _ _ rfl rfl tyS_30 (nb rfl) rfl .nil),⟨rfl,_,rfl⟩⟩
  ·refine au 4 ?_
   refine TL.sn rfl rfl (o_storeBx rfl tyS_30 rfl rfl rfl rfl (nb rfl) (sure_hd rfl rfl (sure_hd rfl rfl rfl))) ?_
   refine TL.nil ?_
   refine T.conv (Cs.wkF (M:=7) (.k 2 rfl rfl .nil)) ?_
   refine T.conv (Cs.reloc 1 4 rfl rfl (by decide) rfl rfl rfl (nomS_get rfl)) ?_
   refine T.conv (Cs.wkF (M:=7) (.k 2 rfl rfl .nil)) ?_
   refine T.conv (Cs.eqS (σ':=[.box (c_T_spec_l1Cur c0 o10),.arr .clo 2 (b8.Name_.map (c_I_Part false)),_,.box (k_impl_Entryx 1 6 false b8),.dead,.box (k_impl_Entryx 1 6 false b8),_]) rfl) ?_
   refine T.conv (Cs.reloc 2 6 rfl rfl (by decide) rfl rfl rfl (nomS_get rfl)) ?_
   refine T.conv (Cs.wkF (M:=7) (.k 2 rfl rfl .nil)) ?_
   refine T.conv (Cs.eqS (σ':=[_,_,.arr .clo 2 (b8.Attrs_.map (c_I_Attr false)),.box (k_impl_Entryx 1 2 false b8),_,.box (k_impl_Entryx 1 2 false b8),.dead]) rfl) ?_
   refine T.ret ?_
   cases some_i H
   exact ⟨trivial,_,(.cell _ _ _ _ _ _ _ _ _ _ rfl rfl tyS_30 (nb rfl) rfl .nil),⟨rfl,_,rfl⟩⟩
theorem tyE_5 : TyE Tryz.prog 5 1:=⟨_,_,rfl,rfl,rfl,rfl,by decide,by decide⟩
noncomputable def spec_l1Cur_oddDirNamex_l1 (l12 : List Int) : (List Int × Int) → Option ((List Int × Int) ⊕ List Int):=fun s=>match s with
  | (l14,v15)=>cond (decide (v15 < (l12.length : Int))) ((idx l14 v15).bind fun e20=>some (.inl ((l14.set (Int.toNat v15) 119),(IntKind.i64.wrap (v15 + 1))))) (some (.inr l14))
noncomputable def spec_l1Cur_oddDirNamex_l2 (r29 : Int) : List I_Part → Option (List I_Part ⊕ List I_Part):=fun s=>match s with
  | l32=>cond (decide ((l32.length : Int) < (IntKind.i64.wrap (7 + r29)))) ((app l32 ([(⟨(ByteArray.mk #[120]),(ByteArray.mk #[121])⟩ : I_Part)] : List I_Part)).bind fun l35=>some (.inl l35)) (some (.inr l32))
noncomputable def spec_l1Cur_oddDirNamex (s0 : T_spec_l1Cur) (s1 : List I_Part) : Option ((List I_Part) × T_spec_l1Cur) :=
  (spec_l1Cur_pick 14 s0).bind fun q=>(match q with | (r1,o2)=>cond (r1 == 0) ((spec_l1Cur_of ([e0,(ByteArray.mk #[49]),(ByteArray.mk #[97,45,98])] : List ByteArray) o2).bind fun q=>(match q with | (r4,o5)=>(idx s1 0).bind fun e7=>some ((s1.set (Int.toNat 0) (⟨r4,e7.Text_⟩ : I_Part)),o5))) (cond (r1 == 1) ((spec_l1Cur_pick 3 o2).bind fun q=>(match q with | (r9,o10)=>(mk 0 (IntKind.i64.wrap (59 + r9))).bind fun l12=>(loopO (spec_l1Cur_oddDirNamex_l1 l12) (l12,0)).bind fun l16=>(match l16 with | l16=>(idx s1 0).bind fun e17=>some ((s1.set (Int.toNat 0) (⟨e17.Attr_,(byS l16)⟩ : I_Part)),o10)))) (cond (r1 == 2) ((spec_l1Cur_of ([e0,(ByteArray.mk #[9])] : List ByteArray) o2).bind fun q=>(match q with | (r24,o25)=>(idx s1 0).bind fun e27=>some ((s1.set (Int.toNat 0) (⟨e27.Attr_,r24⟩ : I_Part)),o25))) (cond (r1 == 3) ((spec_l1Cur_pick 3 o2).bind fun q=>(match q with | (r29,o30)=>(loopO (spec_l1Cur_oddDirNamex_l2 r29) s1).bind fun l33=>(match l33 with | l33=>some (l33,o30)))) (some (s1,o2))))))
theorem spec_l1Cur_oddDirNamex_o (c0 : Bool) {s0 : T_spec_l1Cur} {s1 : List I_Part} {R0 : (List I_Part)} {U0 : T_spec_l1Cur} (H : spec_l1Cur_oddDirNamex s0 s1 = some (R0,U0)) : St Tryz.prog 66 [.bx 0 0,.hd 1 (s1.map (c_I_Part false)).length 0 (s1.map (c_I_Part false)).length] [.box (c_T_spec_l1Cur c0 s0),.arr .clo 2 (s1.map (c_I_Part false))] (.hd 3 (R0.map (c_I_Part false)).length 0 (R0.map (c_I_Part false)).length) [.box (c_T_spec_l1Cur c0 U0),.dead,.dead,.arr .clo 2 (R0.map (c_I_Part false))]:=by
 refine CallT.finR (CallT.of_TN (n:=60) Tryz.func66 rfl rfl rfl rfl ?_) rfl rfl ⟨(bels_iff.1 rfl),⟨trivial,⟨trivial,⟨trivial,trivial⟩⟩⟩⟩
 refine T.conv (Cs.fresh 1 rfl rfl (by decide) rfl (nomS_all rfl rfl)) ?_
 refine T.conv Cs.pushDead ?_
 refine T.conv (Cs.wkF (M:=4) (.k 0 rfl rfl (.k 1 rfl rfl .nil))) ?_
 refine T.conv (Cs.eqS (σ':=[.box (c_T_spec_l1Cur c0 s0),.dead,.arr .clo 2 (s1.map (c_I_Part false)),.dead]) rfl) ?_
 refine au 8 ?_
 obtain ⟨⟨r1,o2⟩,h3,H⟩:=bind_s H
 refine TL.st rfl rfl rfl (o_callS [0] rfl en_42 rfl rfl (spec_l1Cur_pick_p c0 h3) rfl (by decide) (.cons _ _ _ _ rfl .nil) rfl rfl rfl) ?_
 refine au 7 ?_
 refine T.cH H ?_ ?_<;>intro H h
 ·refine au 3 ?_
  refine TL.st rfl rfl rfl (o_sliceIm (rows:=([e0,(ByteArray.mk #[49]),(ByteArray.mk #[97,45,98])] : List ByteArray).map (c_str)) rfl rfl tyS_9 ⟨_,rfl,rfl⟩ (by decide) rfl rfl rfl rfl rfl rfl) ?_
  obtain ⟨⟨r4,o5⟩,h6,H⟩:=bind_s H
  refine TL.st rfl rfl rfl (o_callS [0] rfl en_43 rfl rfl (spec_l1Cur_of_p false c0 h6) rfl (by decide) (.cons _ _ _ _ rfl .nil) rfl rfl rfl) ?_
  obtain ⟨e7,h8,H⟩:=bind_s H
  refine TL.st rfl rfl rfl (o_ixh (f:=c_I_Part false) rfl rfl tyS_96 rfl rfl rfl rfl h8 rfl) ?_
  refine TL.st rfl rfl rfl (o_fieldAddrEl rfl rfl rfl tyS_9 (by decide) rfl rfl rfl) ?_
  refine TL.sn rfl rfl (o_stEl (f:=c_I_Part false) (xs:=s1) (k:=0) (a:=e7) (⟨r4,e7.Text_⟩ : I_Part) rfl tyS_9 rfl rfl rfl rfl (by decide) h8 rfl rfl rfl (fun _=>rfl) rfl) ?_
  refine TL.conv (Cs.eqV (t:=1) (v':=.hd 2 ((s1.set (Int.toNat 0) (⟨r4,e7.Text_⟩ : I_Part)).map (c_I_Part false)).length 0 ((s1.set (Int.toNat 0) (⟨r4,e7.Text_⟩ : I_Part)).map (c_I_Part false)).length) rfl (hd_len _ (List.length_set ..))) ?_
  refine TL.conv (Cs.eqV (t:=12) (v':=.hd 2 ((s1.set (Int.toNat 0) (⟨r4,e7.Text_⟩ : I_Part)).map (c_I_Part false)).length 0 ((s1.set (Int.toNat 0) (⟨r4,e7.Text_⟩ : I_Part)).map (c_I_Part false)).length) rfl (hd_len _ (List.length_set ..))) ?_
  refine TL.conv (Cs.eqV (t:=16) (v':=.el 2 ((s1.set (Int.toNat 0) (⟨r4,e7.Text_⟩ : I_Part)).map (c_I_Part false)).length (Int.toNat 0) 0) rfl (el_len _ _ _ (List.length_set ..))) ?_
  refine TL.conv (Cs.eqV (t:=17) (v':=.el 2 ((s1.set (Int.toNat 0) (⟨r4,e7.Text_⟩ : I_Part)).map (c_I_Part false)).length (Int.toNat 0) 0) rfl (el_len _ _ _ (List.length_set ..))) ?_
  refine au 2 ?_
  refine T.conv (Cs.eqS (σ':=[.box (c_T_spec_l1Cur c0 o5),_,.arr .clo 2 ((s1.set (Int.toNat 0) (⟨r4,e7.Text_⟩ : I_Part)).map (c_I_Part false)),_]) rfl) ?_
  refine au 4 ?_
  refine T.conv (Cs.wkF (M:=4) (.k 4 rfl rfl .nil)) ?_
  refine T.conv (Cs.reloc 3 2 rfl rfl (by decide) rfl rfl rfl (nomS_get rfl)) ?_
  refine T.conv (Cs.wkF (M:=4) (.k 4 rfl rfl .nil)) ?_
  refine T.conv (Cs.eqS (σ':=[_,_,.dead,.arr .clo 2 ((s1.set (Int.toNat 0) (⟨r4,e7.Text_⟩ : I_Part)).map (c_I_Part false))]) rfl) ?_
  refine T.ret ?_
  cases some_i H
  exact ⟨trivial,_,(.tmp _ _ _ _ rfl .nil),⟨rfl,_,rfl⟩⟩
 ·refine au 5 ?_
  refine T.cH H ?_ ?_<;>intro H h
  ·refine au 3 ?_
   obtain ⟨⟨r9,o10⟩,h11,H⟩:=bind_s H
   refine TL.st rfl rfl rfl (o_callS [0] rfl en_42 rfl rfl (spec_l1Cur_pick_p c0 h11) rfl (by decide) (.cons _ _ _ _ rfl .nil) rfl rfl rfl) ?_
   refine TL.st rfl rfl rfl (o_ari rfl rfl rfl rfl) ?_
   obtain ⟨l12,h13,H⟩:=bind_s H
   refine TL.st rfl rfl rfl (o_mk (f:=c_int .u8) (z:=0) rfl rfl tyE_5 ⟨_,rfl,rfl⟩ rfl rfl h13) ?_
   refine au 4 ?_
   refine T.conv (Cs.eqS (σ':=[.box (c_T_spec_l1Cur c0 o10),_,_,_,.arr .clo 1 (l12.map (c_int .u8))]) rfl) ?_
   refine au 2 ?_
   refine TL.st rfl rfl rfl (o_lenOwn (f:=c_int .u8) rfl rfl rfl rfl rfl) ?_
   refine au 3 ?_
   obtain ⟨l16,h23,H⟩:=bind_s H
   refine T.lq (fun s=>match s with | (l14,v15)=>[(1,.hd 2 (s1.map (c_I_Part false)).length 0 (s1.map (c_I_Part false)).length),(5,.hd 4 (l14.map (c_int .u8)).length 0 (l14.map (c_int .u8)).length),(25,.int .i64 (l12.length : Int)),(26,.int .i64 v15)]) (fun s=>match s with | (l14,v15)=>[.box (c_T_spec_l1Cur c0 o10),.dead,.arr .clo 2 (s1.map (c_I_Part false)),.dead,.arr .clo 1 (l14.map (c_int .u8))]) (fun q ex fr σ=>match q with | l16=>ex = .exit 1 ∧ fr = [(1,.hd 2 (s1.map (c_I_Part false)).length 0 (s1.map (c_I_Part false)).length),(5,.hd 4 (l16.map (c_int .u8)).length 0 (l16.map (c_int .u8)).length)] ∧ σ = [.box (c_T_spec_l1Cur c0 o10),.dead,.arr .clo 2 (s1.map (c_I_Part false)),.dead,.arr .clo 1 (l16.map (c_int .u8))]) h23 ?_ ?_
   ·rintro ⟨l14,v15⟩ y19 H
    refine au 5 ?_
    refine T.cH H ?_ ?_<;>intro H h
    ·refine au 11 ?_
     obtain ⟨e20,h21,H⟩:=bind_s H
     refine TL.st rfl rfl rfl (o_ixh (f:=c_int .u8) rfl rfl tyS_5 rfl rfl rfl rfl h21 rfl) ?_
     refine TL.sn rfl rfl (o_stEl (f:=c_int .u8) (xs:=l14) (k:=v15) (a:=e20) 119 rfl tyS_5 rfl rfl rfl rfl (by decide) h21 rfl rfl rfl (fun _=>rfl) rfl) ?_
     refine TL.conv (Cs.eqV (t:=5) (v':=.hd 4 ((l14.set (Int.toNat v15) 119).map (c_int .u8)).length 0 ((l14.set (Int.toNat v15) 119).map (c_int .u8)).length) rfl (hd_len _ (List.length_set ..))) ?_
     refine TL.conv (Cs.eqV (t:=29) (v':=.hd 4 ((l14.set (Int.toNat v15) 119).map (c_int .u8)).length 0 ((l14.set (Int.toNat v15) 119).map (c_int .u8)).length) rfl (hd_len _ (List.length_set ..))) ?_
     refine TL.conv (Cs.eqV (t:=31) (v':=.el 4 ((l14.set (Int.toNat v15) 119).map (c_int .u8)).length (Int.toNat v15) 0) rfl (el_len _ _ _ (List.length_set ..))) ?_
     refine au 5 ?_
     exact Pk.of (thn_normal ⟨((l14.set (Int.toNat v15) 119),(IntKind.i64.wrap (v15 + 1))),(some_i H).symm,rfl,rfl⟩)
    ·refine T.exit ?_
     refine thn_exit ?_
     exact Pk.of (thn_exit ⟨l14,(some_i H).symm,rfl,rfl,rfl⟩)
   ·rintro _ _ _ ⟨rfl,rfl,rfl⟩
    refine inB_here ?_
    refine au 3 ?_
    refine TL.st rfl rfl rfl (o_bsOwn (f:=c_int .u8) rfl rfl rfl rfl (fun _=>rfl) rfl rfl rfl) ?_
    obtain ⟨e17,h18,H⟩:=bind_s H
    refine TL.st rfl rfl rfl (o_ixh (f:=c_I_Part false) rfl rfl tyS_96 rfl rfl rfl rfl h18 rfl) ?_
    refine TL.st rfl rfl rfl (o_fieldAddrEl rfl rfl rfl tyS_9 (by decide) rfl rfl rfl) ?_
    refine TL.sn rfl rfl (o_stEl (f:=c_I_Part false) (xs:=s1) (k:=0) (a:=e17) (⟨e17.Attr_,(byS l16)⟩ : I_Part) rfl tyS_9 rfl rfl rfl rfl (by decide) h18 rfl rfl rfl (fun _=>rfl) rfl) ?_
    refine TL.conv (Cs.eqV (t:=1) (v':=.hd 2 ((s1.set (Int.toNat 0) (⟨e17.Attr_,(byS l16)⟩ : I_Part)).map (c_I_Part false)).length 0 ((s1.set (Int.toNat 0) (⟨e17.Attr_,(byS l16)⟩ : I_Part)).map (c_I_Part false)).length) rfl (hd_len _ (List.length_set ..))) ?_
    refine TL.conv (Cs.eqV (t:=33) (v':=.hd 2 ((s1.set (Int.toNat 0) (⟨e17.Attr_,(byS l16)⟩ : I_Part)).map (c_I_Part false)).length 0 ((s1.set (Int.toNat 0) (⟨e17.Attr_,(byS l16)⟩ : I_Part)).map (c_I_Part false)).length) rfl (hd_len _ (List.length_set ..))) ?_
    refine TL.conv (Cs.eqV (t:=36) (v':=.el 2 ((s1.set (Int.toNat 0) (⟨e17.Attr_,(byS l16)⟩ : I_Part)).map (c_I_Part false)).length (Int.toNat 0) 0) rfl (el_len _ _ _ (List.length_set ..))) ?_
    refine TL.conv (Cs.eqV (t:=37) (v':=.el 2 ((s1.set (Int.toNat 0) (⟨e17.Attr_,(byS l16)⟩ : I_Part)).map (c_I_Part false)).length (Int.toNat 0) 1) rfl (el_len _ _ _ (List.length_set ..))) ?_
    refine au 6 ?_
    refine T.conv (Cs.wkF (M:=5) (.k 4 rfl rfl .nil)) ?_
    refine T.conv (Cs.reloc 3 2 rfl rfl (by decide) rfl rfl rfl (nomS_get rfl)) ?_
    refine T.conv (Cs.wkF (M:=5) (.k 4 rfl rfl .nil)) ?_
    refine T.conv (Cs.eqS (σ':=[_,_,.dead,.arr .clo 2 ((s1.set (Int.toNat 0) (⟨e17.Attr_,(byS l16)⟩ : I_Part)).map (c_I_Part false)),_]) rfl) ?_
    refine T.ret ?_
    cases some_i H
    exact ⟨trivial,_,(.tmp _ _ _ _ rfl .nil),⟨rfl,_,rfl⟩⟩
  ·refine au 5 ?_
   refine T.cH H ?_ ?_<;>intro H h
   ·refine au 3 ?_
    refine TL.st rfl rfl rfl (o_sliceIm (rows:=([e0,(ByteArray.mk #[9])] : List ByteArray).map (c_str)) rfl rfl tyS_9 ⟨_,rfl,rfl⟩ (by decide) rfl rfl rfl rfl rfl rfl) ?_
    obtain ⟨⟨r24,o25⟩,h26,H⟩:=bind_s H
    refine TL.st rfl rfl rfl (o_callS [0] rfl en_43 rfl rfl (spec_l1Cur_of_p false c0 h26) rfl (by decide) (.cons _ _ _ _ rfl .nil) rfl rfl rfl) ?_
    obtain ⟨e27,h28,H⟩:=bind_s H
    refine TL.st rfl rfl rfl (o_ixh (f:=c_I_Part false) rfl rfl tyS_96 rfl rfl rfl rfl h28 rfl) ?_
    refine TL.st rfl rfl rfl (o_fieldAddrEl rfl rfl rfl tyS_9 (by decide) rfl rfl rfl) ?_
    refine TL.sn rfl rfl (o_stEl (f:=c_I_Part false) (xs:=s1) (k:=0) (a:=e27) (⟨e27.Attr_,r24⟩ : I_Part) rfl tyS_9 rfl rfl rfl rfl (by decide) h28 rfl rfl rfl (fun _=>rfl) rfl) ?_
    refine TL.conv (Cs.eqV (t:=1) (v':=.hd 2 ((s1.set (Int.toNat 0) (⟨e27.Attr_,r24⟩ : I_Part)).map (c_I_Part false)).length 0 ((s1.set (Int.toNat 0) (⟨e27.Attr_,r24⟩ : I_Part)).map (c_I_Part false)).length) rfl (hd_len _ (List.length_set ..))) ?_
    refine TL.conv (Cs.eqV (t:=40) (v':=.hd 2 ((s1.set (Int.toNat 0) (⟨e27.Attr_,r24⟩ : I_Part)).map (c_I_Part false)).length 0 ((s1.set (Int.toNat 0) (⟨e27.Attr_,r24⟩ : I_Part)).map (c_I_Part false)).length) rfl (hd_len _ (List.length_set ..))) ?_
    refine TL.conv (Cs.eqV (t:=44) (v':=.el 2 ((s1.set (Int.toNat 0) (⟨e27.Attr_,r24⟩ : I_Part)).map (c_I_Part false)).length (Int.toNat 0) 0) rfl (el_len _ _ _ (List.length_set ..))) ?_
    refine TL.conv (Cs.eqV (t:=45) (v':=.el 2 ((s1.set (Int.toNat 0) (⟨e27.Attr_,r24⟩ : I_Part)).map (c_I_Part false)).length (Int.toNat 0) 1) rfl (el_len _ _ _ (List.length_set ..))) ?_
    refine au 2 ?_
    refine T.conv (Cs.eqS (σ':=[.box (c_T_spec_l1Cur c0 o25),_,.arr .clo 2 ((s1.set (Int.toNat 0) (⟨e27.Attr_,r24⟩ : I_Part)).map (c_I_Part false)),_]) rfl) ?_
    refine au 4 ?_
    refine T.conv (Cs.wkF (M:=4) (.k 4 rfl rfl .nil)) ?_
    refine T.conv (Cs.reloc 3 2 rfl rfl (by decide) rfl rfl rfl (nomS_get rfl)) ?_
    refine T.conv (Cs.wkF (M:=4) (.k 4 rfl rfl .nil)) ?_
    refine T.conv (Cs.eqS (σ':=[_,_,.dead,.arr .clo 2 ((s1.set (Int.toNat 0) (⟨e27.Attr_,r24⟩ : I_Part)).map (c_I_Part false))]) rfl) ?_
    refine T.ret ?_
    cases some_i H
    exact ⟨trivial,_,(.tmp _ _ _ _ rfl .nil),⟨rfl,_,rfl⟩⟩
   ·refine au 5 ?_
    refine T.cH H ?_ ?_<;>intro H h
    ·refine au 3 ?_
     obtain ⟨⟨r29,o30⟩,h31,H⟩:=bind_s H
     refine TL.st rfl rfl rfl (o_callS [0] rfl en_42 rfl rfl (spec_l1Cur_pick_p c0 h31) rfl (by decide) (.cons _ _ _ _ rfl .nil) rfl rfl rfl) ?_
     refine au 4 ?_
     obtain ⟨l33,h38,H⟩:=bind_s H
     refine T.lq (fun s=>match s with | l32=>[(1,.hd 2 (l32.map (c_I_Part false)).length 0 (l32.map (c_I_Part false)).length),(7,.int .i64 (IntKind.i64.wrap (7 + r29)))]) (fun s=>match s with | l32=>[.box (c_T_spec_l1Cur c0 o30),.dead,.arr .clo 2 (l32.map (c_I_Part false)),.dead]) (fun q ex fr σ=>match q with | l33=>ex = .exit 3 ∧ fr = [(1,.hd 2 (l33.map (c_I_Part false)).length 0 (l33.map (c_I_Part false)).length)] ∧ σ = [.box (c_T_spec_l1Cur c0 o30),.dead,.arr .clo 2 (l33.map (c_I_Part false)),.dead]) h38 ?_ ?_
     ·rintro l32 y34 H
      refine au 4 ?_
      refine TL.st rfl rfl rfl (o_lenOwn (f:=c_I_Part false) rfl rfl rfl rfl rfl) ?_
      refine au 3 ?_
      refine T.cH H ?_ ?_<;>intro H h
      ·refine au 5 ?_
       refine TL.st rfl rfl rfl (o_sliceIm (rows:=([(⟨(ByteArray.mk #[120]),(ByteArray.mk #[121])⟩ : I_Part)] : List I_Part).map (c_I_Part false)) rfl rfl tyS_96 ⟨_,rfl,rfl⟩ (by decide) rfl rfl rfl rfl rfl rfl) ?_
       obtain ⟨l35,h36,H⟩:=bind_s H
       refine TL.st rfl rfl rfl (o_ap (f:=c_I_Part false) (xs:=l32) (ys:=([(⟨(ByteArray.mk #[120]),(ByteArray.mk #[121])⟩ : I_Part)] : List I_Part)) rfl rfl tyE_96 rfl rfl rfl rfl (by decide) rfl (fun _=>rfl) h36) ?_
       refine au 2 ?_
       refine inB_normal ?_
       exact Pk.of (thn_normal ⟨l35,(some_i H).symm,rfl,rfl⟩)
      ·refine T.exit ?_
       refine thn_exit ?_
       exact Pk.of (thn_exit ⟨l32,(some_i H).symm,rfl,rfl,rfl⟩)
     ·rintro _ _ _ ⟨rfl,rfl,rfl⟩
      refine inB_here ?_
      refine au 5 ?_
      refine T.conv (Cs.wkF (M:=4) (.k 4 rfl rfl .nil)) ?_
      refine T.conv (Cs.reloc 3 2 rfl rfl (by decide) rfl rfl rfl (nomS_get rfl)) ?_
      refine T.conv (Cs.wkF (M:=4) (.k 4 rfl rfl .nil)) ?_
      refine T.conv (Cs.eqS (σ':=[_,_,.dead,.arr .clo 2 (l33.map (c_I_Part false))]) rfl) ?_
      refine T.ret ?_
      cases some_i H
      exact ⟨trivial,_,(.tmp _ _ _ _ rfl .nil),⟨rfl,_,rfl⟩⟩
    ·refine au 6 ?_
     refine T.conv (Cs.wkF (M:=4) (.k 4 rfl rfl .nil)) ?_
     refine T.conv (Cs.reloc 3 2 rfl rfl (by decide) rfl rfl rfl (nomS_get rfl)) ?_
     refine T.conv (Cs.wkF (M:=4) (.k 4 rfl rfl .nil)) ?_
     refine T.conv (Cs.eqS (σ':=[.box (c_T_spec_l1Cur c0 o2),_,.dead,.arr .clo 2 (s1.map (c_I_Part false))]) rfl) ?_
     refine T.ret ?_
     cases some_i H
     exact ⟨trivial,_,(.tmp _ _ _ _ rfl .nil),⟨rfl,_,rfl⟩⟩
theorem en_66 : En Tryz.prog 66:=.of Tryz.func66 rfl rfl
noncomputable def spec_l1Cur_oddEntryx (a0 : I_Entry) (s0 : T_spec_l1Cur) : Option (I_Entry × T_spec_l1Cur) :=
  (spec_l1Cur_pick 14 s0).bind fun q=>(match q with | (r1,o2)=>cond (((a0.Attrs_.length : Int) == 0) || ((a0.Name_.length : Int) == 0)) (some (a0,o2)) (cond (r1 == 0) ((spec_l1Cur_oddDirNamex o2 a0.Name_).bind fun q=>(match q with | (r4,o5)=>some ((⟨r4,a0.Attrs_⟩ : I_Entry),o5))) (cond (r1 == 1) ((spec_l1Cur_of ([(ByteArray.mk #[122,122]),e0,(ByteArray.mk #[49,97])] : List ByteArray) o2).bind fun q=>(match q with | (r7,o8)=>(idx a0.Attrs_ 0).bind fun e10=>some ((⟨a0.Name_,(a0.Attrs_.set (Int.toNat 0) (⟨r7,e10.Values_⟩ : I_Attr))⟩ : I_Entry),o8))) (cond (r1 == 2) ((spec_l1Cur_of ([e0,(ByteArray.mk #[10]),(ByteArray.mk #[98])] : List ByteArray) o2).bind fun q=>(match q with | (r12,o13)=>(idx a0.Attrs_ 0).bind fun e15=>some ((⟨a0.Name_,(a0.Attrs_.set (Int.toNat 0) (⟨e15.Name_,([r12,(ByteArray.mk #[97])] : List ByteArray)⟩ : I_Attr))⟩ : I_Entry),o13))) (cond (r1 == 3) (some ((⟨a0.Name_,([] : List I_Attr)⟩ : I_Entry),o2)) (cond (r1 == 4) (some ((⟨([] : List I_Part),a0.Attrs_⟩ : I_Entry),o2)) (some (a0,o2))))))))
theorem spec_l1Cur_oddEntryx_o (c0 : Bool) {a0 : I_Entry} {s0 : T_spec_l1Cur} {R0 : I_Entry} {U0 : T_spec_l1Cur} (H : spec_l1Cur_oddEntryx a0 s0 = some (R0,U0)) : St Tryz.prog 26 [.bx 0 0,.agg [.hd 1 (a0.Name_.map (c_I_Part false)).length 0 (a0.Name_.map (c_I_Part false)).length,.hd 2 (a0.Attrs_.map (c_I_Attr false)).length 0 (a0.Attrs_.map (c_I_Attr false)).length]] [.box (c_T_spec_l1Cur c0 s0),.arr .clo 2 (a0.Name_.map (c_I_Part false)),.arr .clo 2 (a0.Attrs_.map (c_I_Attr false))] (.agg [.hd 5 (R0.Name_.map (c_I_Part false)).length 0 (R0.Name_.map (c_I_Part false)).length,.hd 6 (R0.Attrs_.map (c_I_Attr false)).length 0 (R0.Attrs_.map (c_I_Attr false)).length]) [.box (c_T_spec_l1Cur c0 U0),.dead,.dead,.dead,.dead,.arr .clo 2 (R0.Name_.map (c_I_Part false)),.arr .clo 2 (R0.Attrs_.map (c_I_Attr false))]:=by
 refine CallT.finR (CallT.of_TN (n:=53) Tryz.func26 rfl rfl rfl rfl ?_) rfl rfl ⟨(bels_iff.1 rfl),⟨trivial,⟨trivial,⟨trivial,⟨trivial,⟨trivial,⟨trivial,trivial⟩⟩⟩⟩⟩⟩⟩
 refine T.conv (Cs.fresh 1 rfl rfl (by decide) rfl (nomS_all rfl rfl)) ?_
 refine T.conv (Cs.fresh 2 rfl rfl (by decide) rfl (nomS_all rfl rfl)) ?_
 refine T.conv Cs.pushDead ?_
 refine T.conv Cs.pushDead ?_
 refine T.conv (Cs.wkF (M:=7) (.k 0 rfl rfl (.k 1 rfl rfl .nil))) ?_
 refine T.conv (Cs.eqS (σ':=[.box (c_T_spec_l1Cur c0 s0),.dead,.dead,.arr .clo 2 (a0.Name_.map (c_I_Part false)),.arr .clo 2 (a0.Attrs_.map (c_I_Attr false)),.dead,.dead]) rfl) ?_
 refine au 2 ?_
 refine TL.st rfl rfl rfl (o_box rfl rfl (sure_hd rfl rfl (sure_hd rfl rfl rfl))) ?_
 refine au 5 ?_
 obtain ⟨⟨r1,o2⟩,h3,H⟩:=bind_s H
 refine TL.st rfl rfl rfl (o_callS [0] rfl en_42 rfl rfl (spec_l1Cur_pick_p c0 h3) rfl (by decide) (.cons _ _ _ _ rfl .nil) rfl rfl rfl) ?_
 refine au 4 ?_
 refine T.conv (Cs.eqS (σ':=[.box (c_T_spec_l1Cur c0 o2),_,_,_,_,_,_,.box (k_impl_Entryx 3 4 false a0),.box [.nilS,.nilS]]) rfl) ?_
 refine au 3 ?_
 refine TL.st rfl rfl rfl (o_lenOwn (f:=c_I_Attr false) rfl rfl rfl rfl rfl) ?_
 refine au 4 ?_
 refine TL.gcq rfl rfl rfl (.bool _) rfl rfl (fun h=>o_lenOwn (f:=c_I_Part false) rfl rfl (gv h rfl) rfl rfl) ?_
 refine au 3 ?_
 refine T.cH H ?_ ?_<;>intro H h
 ·refine au 3 ?_
  refine TL.sn rfl rfl (o_storeBx rfl tyS_30 rfl rfl rfl rfl (nb rfl) (sure_hd rfl rfl (sure_hd rfl rfl rfl))) ?_
  refine TL.nil ?_
  refine T.conv (Cs.wkF (M:=9) (.k 4 rfl rfl .nil)) ?_
  refine T.conv (Cs.reloc 5 3 rfl rfl (by decide) rfl rfl rfl (nomS_get rfl)) ?_
  refine T.conv (Cs.wkF (M:=9) (.k 4 rfl rfl .nil)) ?_
  refine T.conv (Cs.eqS (σ':=[_,_,_,.dead,_,.arr .clo 2 (a0.Name_.map (c_I_Part false)),_,.box (k_impl_Entryx 5 4 false a0),.box (k_impl_Entryx 5 4 false a0)]) rfl) ?_
  refine T.conv (Cs.reloc 6 4 rfl rfl (by decide) rfl rfl rfl (nomS_get rfl)) ?_
  refine T.conv (Cs.wkF (M:=9) (.k 4 rfl rfl .nil)) ?_
  refine T.conv (Cs.eqS (σ':=[_,_,_,_,.dead,_,.arr .clo 2 (a0.Attrs_.map (c_I_Attr false)),.box (k_impl_Entryx 5 6 false a0),.box (k_impl_Entryx 5 6 false a0)]) rfl) ?_
  refine T.ret ?_
  refine thn_ret ?_
  cases some_i H
  exact ⟨trivial,_,(.cell _ _ _ _ _ _ _ _ _ _ rfl rfl tyS_30 (nb rfl) rfl .nil),⟨rfl,_,rfl⟩⟩
 ·refine au 12 ?_
  refine T.cH H ?_ ?_<;>intro H h
  ·refine au 4 ?_
   obtain ⟨⟨r4,o5⟩,h6,H⟩:=bind_s H
   refine TL.st rfl rfl rfl (o_callS [0,3] rfl en_66 rfl rfl (spec_l1Cur_oddDirNamex_o c0 h6) rfl (by decide) (.cons _ _ _ _ rfl (.cons _ _ _ _ rfl .nil)) rfl rfl rfl) ?_
   refine TL.st rfl rfl rfl (o_fieldAddr rfl rfl rfl tyS_27 (by decide) rfl rfl ⟨_,rfl,Nat.le_of_ble_eq_true rfl⟩) ?_
   refine TL.sn rfl rfl (o_storeBx rfl tyS_27 rfl rfl rfl rfl (nb rfl) (sure_hd rfl rfl rfl)) ?_
   refine TL.conv (Cs.wkF (M:=11) (.k 0 rfl rfl (.k 1 rfl rfl (.k 3 rfl rfl (.k 4 rfl rfl (.k 5 rfl rfl (.k 6 rfl rfl (.k 7 rfl rfl (.k 8 rfl rfl (.k 9 rfl rfl (.k 10 rfl rfl (.k 11 rfl rfl (.k 12 rfl rfl (.k 17 rfl rfl (.k 19 rfl rfl (.k 20 rfl rfl (.k 21 rfl rfl (.k 22 rfl rfl (.k 23 rfl rfl (.k 24 rfl rfl (.k 26 rfl rfl .nil))))))))))))))))))))) ?_
   refine TL.conv (Cs.reloc 9 10 rfl rfl (by decide) rfl rfl rfl (nomS_get rfl)) ?_
   refine TL.conv (Cs.wkF (M:=11) (.k 0 rfl rfl (.k 1 rfl rfl (.k 3 rfl rfl (.k 4 rfl rfl (.k 5 rfl rfl (.k 6 rfl rfl (.k 7 rfl rfl (.k 8 rfl rfl (.k 9 rfl rfl (.k 10 rfl rfl (.k 11 rfl rfl (.k 12 rfl rfl (.k 17 rfl rfl (.k 19 rfl rfl (.k 20 rfl rfl (.k 21 rfl rfl (.k 22 rfl rfl (.k 23 rfl rfl (.k 24 rfl rfl (.k 26 rfl rfl .nil))))))))))))))))))))) ?_
   refine TL.conv (Cs.eqS (σ':=[.box (c_T_spec_l1Cur c0 o5),_,_,.dead,_,_,_,.box (k_impl_Entryx 9 4 false (⟨r4,a0.Attrs_⟩ : I_Entry)),_,.arr .clo 2 (r4.map (c_I_Part false)),.dead]) rfl) ?_
   refine au 4 ?_
   refine TL.sn rfl rfl (o_storeBx rfl tyS_30 rfl rfl rfl rfl (nb rfl) (sure_hd rfl rfl (sure_hd rfl rfl rfl))) ?_
   refine TL.nil ?_
   refine T.conv (Cs.eqS (σ':=[_,_,_,_,_,_,_,_,.box (k_impl_Entryx 9 4 false (⟨r4,a0.Attrs_⟩ : I_Entry)),_,_]) rfl) ?_
   refine T.conv (Cs.wkF (M:=11) (.k 4 rfl rfl .nil)) ?_
   refine T.conv (Cs.reloc 5 9 rfl rfl (by decide) rfl rfl rfl (nomS_get rfl)) ?_
   refine T.conv (Cs.wkF (M:=11) (.k 4 rfl rfl .nil)) ?_
   refine T.conv (Cs.eqS (σ':=[_,_,_,_,_,.arr .clo 2 (r4.map (c_I_Part false)),_,.box (k_impl_Entryx 5 4 false (⟨r4,a0.Attrs_⟩ : I_Entry)),.box (k_impl_Entryx 5 4 false (⟨r4,a0.Attrs_⟩ : I_Entry)),.dead,_]) rfl) ?_
   refine T.conv (Cs.reloc 6 4 rfl rfl (by decide) rfl rfl rfl (nomS_get rfl)) ?_
   refine T.conv (Cs.wkF (M:=11) (.k 4 rfl rfl .nil)) ?_
   refine T.conv (Cs.eqS (σ':=[_,_,_,_,.dead,_,.arr .clo 2 (a0.Attrs_.map (c_I_Attr false)),.box (k_impl_Entryx 5 6 false (⟨r4,a0.Attrs_⟩ : I_Entry)),.box (k_impl_Entryx 5 6 false (⟨r4,a0.Attrs_⟩ : I_Entry)),_,_]) rfl) ?_
   refine T.ret ?_
   cases some_i H
   exact ⟨trivial,_,(.cell _ _ _ _ _ _ _ _ _ _ rfl rfl tyS_30 (nb rfl) rfl .nil),⟨rfl,_,rfl⟩⟩
  ·refine au 5 ?_
   refine T.cH H ?_ ?_<;>intro H h
   ·obtain ⟨⟨r7,o8⟩,h9,H⟩:=bind_s H
    obtain ⟨e10,h11,H⟩:=bind_s H
    refine T.drawS (fr':=[(0,.bx 0 0),(1,.agg [.hd 3 (a0.Name_.map (c_I_Part false)).length 0 (a0.Name_.map (c_I_Part false)).length,.hd 4 (a0.Attrs_.map (c_I_Attr false)).length 0 (a0.Attrs_.map (c_I_Attr false)).length]),(3,.bx 7 0),(4,.bx 8 0),(5,.int .i64 r1),(6,.bx 0 0),(7,.int .i64 r1),(8,.bx 7 1),(9,.hd 4 (a0.Attrs_.map (c_I_Attr false)).length 0 (a0.Attrs_.map (c_I_Attr false)).length),(10,.int .i64 (a0.Attrs_.length : Int)),(11,.bool ((a0.Attrs_.length : Int) == 0)),(12,.bool ((a0.Attrs_.length : Int) == 0)),(17,.bool (((a0.Attrs_.length : Int) == 0) || ((a0.Name_.length : Int) == 0))),(19,.int .i64 r1),(20,.bool (r1 == 0)),(21,.bool (r1 == 0)),(27,.bool (r1 == 1)),(28,.bool (r1 == 1)),(29,.bx 7 1),(30,.hd 4 (a0.Attrs_.map (c_I_Attr false)).length 0 (a0.Attrs_.map (c_I_Attr false)).length),(31,.bx 0 0),(32,.im false (([(ByteArray.mk #[122,122]),e0,(ByteArray.mk #[49,97])] : List ByteArray).map (c_str))),(33,.str r7)]) (R:=[⟨some 29,.bx 7 1,.q,[]⟩,⟨some 30,.hd 4 (a0.Attrs_.map (c_I_Attr false)).length 0 (a0.Attrs_.map (c_I_Attr false)).length,.q,[]⟩,⟨some 31,.bx 0 0,.q,[]⟩,⟨some 32,.im false (([(ByteArray.mk #[122,122]),e0,(ByteArray.mk #[49,97])] : List ByteArray).map (c_str)),.q,[]⟩,⟨some 33,.str r7,.q,[]⟩,⟨some 34,.el 4 (a0.Attrs_.map (c_I_Attr false)).length (Int.toNat 0) 0,.q,[]⟩,⟨some 35,.el 4 (a0.Attrs_.map (c_I_Attr false)).length (Int.toNat 0) 0,.q,[]⟩,⟨none,.any,.q,[]⟩]) (fun b=>cond (b 4) (cond (b 7) ([.box (c_T_spec_l1Cur c0 o8),.dead,.dead,.arr .clo 2 (a0.Name_.map (c_I_Part false)),.arr .clo 2 ((a0.Attrs_.set (Int.toNat 0) (⟨r7,e10.Values_⟩ : I_Attr)).map (c_I_Attr false)),.dead,.dead,.box (k_impl_Entryx 3 4 false (⟨a0.Name_,(a0.Attrs_.set (Int.toNat 0) (⟨r7,e10.Values_⟩ : I_Attr))⟩ : I_Entry)),.box [.nilS,.nilS]]) ([.box (c_T_spec_l1Cur c0 o8),.dead,.dead,.arr .clo 2 (a0.Name_.map (c_I_Part false)),.arr .clo 2 (a0.Attrs_.map (c_I_Attr false)),.dead,.dead,.box (k_impl_Entryx 3 4 false a0),.box [.nilS,.nilS]])) ([.box (c_T_spec_l1Cur c0 o2),.dead,.dead,.arr .clo 2 (a0.Name_.map (c_I_Part false)),.arr .clo 2 (a0.Attrs_.map (c_I_Attr false)),.dead,.dead,.box (k_impl_Entryx 3 4 false a0),.box [.nilS,.nilS]])) rfl ?_ ?_ rfl rfl (FrL.get (.cons rfl (.cons rfl (.cons rfl (.cons rfl (.cons rfl (.cons rfl (.cons rfl (.cons rfl (.cons rfl (.cons rfl (.cons rfl (.cons rfl (.cons rfl (.cons rfl (.cons rfl (.cons rfl (.cons rfl (.cons rfl (.cons rfl (.cons rfl (.cons rfl (.cons rfl (.cons rfl .nil)))))))))))))))))))))))) ?_
    ·refine .cons _ _ _ _ _ ⟨rfl,[(3,.bx 7 0)],AllN.get rfl (.cons rfl .nil),fun b hd hn hk hc=>?_⟩ ?_
     ·cases e4 : b 4
      ·exact ops_at (cdf e4) rfl (o_fieldAddr rfl rfl rfl tyS_28 (by decide) rfl rfl ⟨_,rfl,Nat.le_of_ble_eq_true rfl⟩) (cdf ((updb_ne rfl).trans e4)) rfl
      ·exact ops_at ((cdt e4).trans (cdf (hn 7 rfl))) rfl (o_fieldAddr rfl rfl rfl tyS_28 (by decide) rfl rfl ⟨_,rfl,Nat.le_of_ble_eq_true rfl⟩) ((cdt ((updb_ne rfl).trans e4)).trans (cdf ((updb_ne rfl).trans (hn 7 rfl)))) rfl
     refine .cons _ _ _ _ _ ⟨rfl,[(29,.bx 7 1)],AllN.get rfl (.cons rfl .nil),fun b hd hn hk hc=>?_⟩ ?_
     ·cases e4 : b 4
      ·exact ops_at (cdf e4) rfl (o_loadBx rfl tyS_28 rfl rfl (nb rfl) rfl) (cdf ((updb_ne rfl).trans e4)) rfl
      ·exact ops_at ((cdt e4).trans (cdf (hn 7 rfl))) rfl (o_loadBx rfl tyS_28 rfl rfl (nb rfl) rfl) ((cdt ((updb_ne rfl).trans e4)).trans (cdf ((updb_ne rfl).trans (hn 7 rfl)))) rfl
     refine .cons _ _ _ _ _ ⟨rfl,[(0,.bx 0 0)],AllN.get rfl (.cons rfl .nil),fun b hd hn hk hc=>?_⟩ ?_
     ·exact ops_at (cdf (hn 4 rfl)) rfl (o_move rfl rfl) (cdf ((updb_ne rfl).trans (hn 4 rfl))) rfl
     refine .cons _ _ _ _ _ ⟨rfl,[],AllN.get rfl .nil,fun b hd hn hk hc=>?_⟩ ?_
     ·exact ops_at (cdf (hn 4 rfl)) rfl (o_sliceIm (rows:=([(ByteArray.mk #[122,122]),e0,(ByteArray.mk #[49,97])] : List ByteArray).map (c_str)) rfl rfl tyS_9 ⟨_,rfl,rfl⟩ (by decide) rfl rfl rfl rfl rfl rfl) (cdf ((updb_ne rfl).trans (hn 4 rfl))) rfl
     refine .cons _ _ _ _ _ ⟨rfl,[(31,.bx 0 0),(32,.im false (([(ByteArray.mk #[122,122]),e0,(ByteArray.mk #[49,97])] : List ByteArray).map (c_str)))],AllN.get rfl (.cons rfl (.cons rfl .nil)),fun b hd hn hk hc=>?_⟩ ?_
     ·exact ops_at (cdf hk) rfl (o_callS [0] rfl en_43 rfl rfl (spec_l1Cur_of_p false c0 h9) rfl (by decide) (.cons _ _ _ _ rfl .nil) rfl rfl rfl) (((cdt updb_self).trans (cdf ((updb_ne rfl).trans (hn 7 rfl)))).trans rfl) rfl
     refine .cons _ _ _ _ _ ⟨rfl,[(30,.hd 4 (a0.Attrs_.map (c_I_Attr false)).length 0 (a0.Attrs_.map (c_I_Attr false)).length)],AllN.get rfl (.cons rfl .nil),fun b hd hn hk hc=>?_⟩ ?_
     ·exact ops_at ((cdt (hd 4 rfl)).trans (cdf (hn 7 rfl))) rfl (o_ixh (f:=c_I_Attr false) rfl rfl tyS_114 rfl rfl rfl rfl h11 rfl) ((cdt ((updb_ne rfl).trans (hd 4 rfl))).trans (cdf ((updb_ne rfl).trans (hn 7 rfl)))) rfl
     refine .cons _ _ _ _ _ ⟨rfl,[(34,.el 4 (a0.Attrs_.map (c_I_Attr false)).length (Int.toNat 0) 0)],AllN.get rfl (.cons rfl .nil),fun b hd hn hk hc=>?_⟩ ?_
     ·exact ops_at ((cdt (hd 4 rfl)).trans (cdf (hn 7 rfl))) rfl (o_fieldAddrEl rfl rfl rfl tyS_9 (by decide) rfl rfl rfl) ((cdt ((updb_ne rfl).trans (hd 4 rfl))).trans (cdf ((updb_ne rfl).trans (hn 7 rfl)))) rfl
     refine .cons _ _ _ _ _ ⟨rfl,[(33,.str r7),(35,.el 4 (a0.Attrs_.map (c_I_Attr false)).length (Int.toNat 0) 0)],AllN.get rfl (.cons rfl (.cons rfl .nil)),fun b hd hn hk hc=>?_⟩ ?_
     ·exact ops_at ((cdt (hd 4 rfl)).trans (cdf hk)) rfl (Does.to (o_stEl (f:=c_I_Attr false) (xs:=a0.Attrs_) (k:=0) (a:=e10) (⟨r7,e10.Values_⟩ : I_Attr) rfl tyS_9 rfl rfl rfl rfl (by decide) h11 rfl rfl rfl (fun _=>rfl) rfl) (eqAtS (eqAtS (eqAtS (eqAtS (eqAtS (eqAtS (eqAtS (eqAtB (show (.box [.hd 3 (a0.Name_.map (c_I_Part false)).length 0 (a0.Name_.map (c_I_Part false)).length,.hd 4 (a0.Attrs_.map (c_I_Attr false)).length 0 (a0.Attrs_.map (c_I_Attr false)).length] : AO) = .box [.hd 3 (a0.Name_.map (c_I_Part false)).length 0 (a0.Name_.map (c_I_Part false)).length,.hd 4 ((a0.Attrs_.set (Int.toNat 0) (⟨r7,e10.Values_⟩ : I_Attr)).map (c_I_Attr false)).length 0 ((a0.Attrs_.set (Int.toNat 0) (⟨r7,e10.Values_⟩ : I_Attr)).map (c_I_Attr false)).length] by simp only [List.length_map,List.length_set]) rfl))))))))) (((cdt ((updb_ne rfl).trans (hd 4 rfl))).trans (cdt updb_self)).trans rfl) rfl
     exact .nil _
    ·intro b b' h; simp only [h 4 (by decide),h 7 (by decide)]
    refine inB_normal (thn_normal ?_)
    refine T.conv (Cs.eqV (t:=9) (v':=.hd 4 ((a0.Attrs_.set (Int.toNat 0) (⟨r7,e10.Values_⟩ : I_Attr)).map (c_I_Attr false)).length 0 ((a0.Attrs_.set (Int.toNat 0) (⟨r7,e10.Values_⟩ : I_Attr)).map (c_I_Attr false)).length) rfl (hd_len _ (List.length_set ..))) ?_
    refine T.conv (Cs.eqV (t:=30) (v':=.hd 4 ((a0.Attrs_.set (Int.toNat 0) (⟨r7,e10.Values_⟩ : I_Attr)).map (c_I_Attr false)).length 0 ((a0.Attrs_.set (Int.toNat 0) (⟨r7,e10.Values_⟩ : I_Attr)).map (c_I_Attr false)).length) rfl (hd_len _ (List.length_set ..))) ?_
    refine au 3 ?_
    refine TL.sn rfl rfl (o_storeBx rfl tyS_30 rfl rfl rfl rfl (nb rfl) (sure_hd rfl rfl (sure_hd rfl rfl rfl))) ?_
    refine TL.nil ?_
    refine T.conv (Cs.eqS (σ':=[.box (c_T_spec_l1Cur c0 o8),_,_,_,.arr .clo 2 ((a0.Attrs_.set (Int.toNat 0) (⟨r7,e10.Values_⟩ : I_Attr)).map (c_I_Attr false)),_,_,.box (k_impl_Entryx 3 4 false (⟨a0.Name_,(a0.Attrs_.set (Int.toNat 0) (⟨r7,e10.Values_⟩ : I_Attr))⟩ : I_Entry)),.box (k_impl_Entryx 3 4 false (⟨a0.Name_,(a0.Attrs_.set (Int.toNat 0) (⟨r7,e10.Values_⟩ : I_Attr))⟩ : I_Entry))]) rfl) ?_
    refine T.conv (Cs.wkF (M:=9) (.k 4 rfl rfl .nil)) ?_
    refine T.conv (Cs.reloc 5 3 rfl rfl (by decide) rfl rfl rfl (nomS_get rfl)) ?_
    refine T.conv (Cs.wkF (M:=9) (.k 4 rfl rfl .nil)) ?_
    refine T.conv (Cs.eqS (σ':=[_,_,_,.dead,_,.arr .clo 2 (a0.Name_.map (c_I_Part false)),_,.box (k_impl_Entryx 5 4 false (⟨a0.Name_,(a0.Attrs_.set (Int.toNat 0) (⟨r7,e10.Values_⟩ : I_Attr))⟩ : I_Entry)),.box (k_impl_Entryx 5 4 false (⟨a0.Name_,(a0.Attrs_.set (Int.toNat 0) (⟨r7,e10.Values_⟩ : I_Attr))⟩ : I_Entry))]) rfl) ?_
    refine T.conv (Cs.reloc 6 4 rfl rfl (by decide) rfl rfl rfl (nomS_get rfl)) ?_
    refine T.conv (Cs.wkF (M:=9) (.k 4 rfl rfl .nil)) ?_
    refine T.conv (Cs.eqS (σ':=[_,_,_,_,.dead,_,.arr .clo 2 ((a0.Attrs_.set (Int.toNat 0) (⟨r7,e10.Values_⟩ : I_Attr)).map (c_I_Attr false)),.box (k_impl_Entryx 5 6 false (⟨a0.Name_,(a0.Attrs_.set (Int.toNat 0) (⟨r7,e10.Values_⟩ : I_Attr))⟩ : I_Entry)),.box (k_impl_Entryx 5 6 false (⟨a0.Name_,(a0.Attrs_.set (Int.toNat 0) (⟨r7,e10.Values_⟩ : I_Attr))⟩ : I_Entry))]) rfl) ?_
    refine T.ret ?_
    cases some_i H
    exact ⟨trivial,_,(.cell _ _ _ _ _ _ _ _ _ _ rfl rfl tyS_30 (nb rfl) rfl .nil),⟨rfl,_,rfl⟩⟩
   ·refine au 5 ?_
    refine T.cH H ?_ ?_<;>intro H h
    ·obtain ⟨⟨r12,o13⟩,h14,H⟩:=bind_s H
     obtain ⟨e15,h16,H⟩:=bind_s H
     refine T.drawS (fr':=[(0,.bx 0 0),(1,.agg [.hd 3 (a0.Name_.map (c_I_Part false)).length 0 (a0.Name_.map (c_I_Part false)).length,.hd 4 (a0.Attrs_.map (c_I_Attr false)).length 0 (a0.Attrs_.map (c_I_Attr false)).length]),(3,.bx 7 0),(4,.bx 8 0),(5,.int .i64 r1),(6,.bx 0 0),(7,.int .i64 r1),(8,.bx 7 1),(9,.hd 4 (a0.Attrs_.map (c_I_Attr false)).length 0 (a0.Attrs_.map (c_I_Attr false)).length),(10,.int .i64 (a0.Attrs_.length : Int)),(11,.bool ((a0.Attrs_.length : Int) == 0)),(12,.bool ((a0.Attrs_.length : Int) == 0)),(17,.bool (((a0.Attrs_.length : Int) == 0) || ((a0.Name_.length : Int) == 0))),(19,.int .i64 r1),(20,.bool (r1 == 0)),(21,.bool (r1 == 0)),(27,.bool (r1 == 1)),(28,.bool (r1 == 1)),(36,.bool (r1 == 2)),(37,.bool (r1 == 2)),(38,.bx 7 1),(39,.hd 4 (a0.Attrs_.map (c_I_Attr false)).length 0 (a0.Attrs_.map (c_I_Attr false)).length),(40,.bx 0 0),(41,.im false (([e0,(ByteArray.mk #[10]),(ByteArray.mk #[98])] : List ByteArray).map (c_str))),(42,.str r12),(43,.im false (([r12,(ByteArray.mk #[97])] : List ByteArray).map (c_str)))]) (R:=[⟨some 38,.bx 7 1,.q,[]⟩,⟨some 39,.hd 4 (a0.Attrs_.map (c_I_Attr false)).length 0 (a0.Attrs_.map (c_I_Attr false)).length,.q,[]⟩,⟨some 40,.bx 0 0,.q,[]⟩,⟨some 41,.im false (([e0,(ByteArray.mk #[10]),(ByteArray.mk #[98])] : List ByteArray).map (c_str)),.q,[]⟩,⟨some 42,.str r12,.q,[]⟩,⟨some 43,.im false (([r12,(ByteArray.mk #[97])] : List ByteArray).map (c_str)),.q,[]⟩,⟨some 44,.el 4 (a0.Attrs_.map (c_I_Attr false)).length (Int.toNat 0) 0,.q,[]⟩,⟨some 45,.el 4 (a0.Attrs_.map (c_I_Attr false)).length (Int.toNat 0) 1,.q,[]⟩,⟨none,.any,.q,[]⟩]) (fun b=>cond (b 4) (cond (b 8) ([.box (c_T_spec_l1Cur c0 o13),.dead,.dead,.arr .clo 2 (a0.Name_.map (c_I_Part false)),.arr .clo 2 ((a0.Attrs_.set (Int.toNat 0) (⟨e15.Name_,([r12,(ByteArray.mk #[97])] : List ByteArray)⟩ : I_Attr)).map (c_I_Attr false)),.dead,.dead,.box (k_impl_Entryx 3 4 false (⟨a0.Name_,(a0.Attrs_.set (Int.toNat 0) (⟨e15.Name_,([r12,(ByteArray.mk #[97])] : List ByteArray)⟩ : I_Attr))⟩ : I_Entry)),.box [.nilS,.nilS]]) ([.box (c_T_spec_l1Cur c0 o13),.dead,.dead,.arr .clo 2 (a0.Name_.map (c_I_Part false)),.arr .clo 2 (a0.Attrs_.map (c_I_Attr false)),.dead,.dead,.box (k_impl_Entryx 3 4 false a0),.box [.nilS,.nilS]])) ([.box (c_T_spec_l1Cur c0 o2),.dead,.dead,.arr .clo 2 (a0.Name_.map (c_I_Part false)),.arr .clo 2 (a0.Attrs_.map (c_I_Attr false)),.dead,.dead,.box (k_impl_Entryx 3 4 false a0),.box [.nilS,.nilS]])) rfl ?_ ?_ rfl rfl (FrL.get (.cons rfl (.cons rfl (.cons rfl (.cons rfl (.cons rfl (.cons rfl (.cons rfl (.cons rfl (.cons rfl (.cons rfl (.cons rfl (.cons rfl (.cons rfl (.cons rfl (.cons rfl (.cons rfl (.cons rfl (.cons rfl (.cons rfl (.cons rfl (.cons rfl (.cons rfl (.cons rfl (.cons rfl (.cons rfl (.cons rfl .nil))))))))))))))))))))))))))) ?_
     ·refine .cons _ _ _ _ _ ⟨rfl,[(3,.bx 7 0)],AllN.get rfl (.cons rfl .nil),fun b hd hn hk hc=>?_⟩ ?_
      ·cases e4 : b 4
       ·exact ops_at (cdf e4) rfl (o_fieldAddr rfl rfl rfl tyS_28 (by decide) rfl rfl ⟨_,rfl,Nat.le_of_ble_eq_true rfl⟩) (cdf ((updb_ne rfl).trans e4)) rfl
       ·exact ops_at ((cdt e4).trans (cdf (hn 8 rfl))) rfl (o_fieldAddr rfl rfl rfl tyS_28 (by decide) rfl rfl ⟨_,rfl,Nat.le_of_ble_eq_true rfl⟩) ((cdt ((updb_ne rfl).trans e4)).trans (cdf ((updb_ne rfl).trans (hn 8 rfl)))) rfl
      refine .cons _ _ _ _ _ ⟨rfl,[(38,.bx 7 1)],AllN.get rfl (.cons rfl .nil),fun b hd hn hk hc=>?_⟩ ?_
      ·cases e4 : b 4
       ·exact ops_at (cdf e4) rfl (o_loadBx rfl tyS_28 rfl rfl (nb rfl) rfl) (cdf ((updb_ne rfl).trans e4)) rfl
       ·exact ops_at ((cdt e4).trans (cdf (hn 8 rfl))) rfl (o_loadBx rfl tyS_28 rfl rfl (nb rfl) rfl) ((cdt ((updb_ne rfl).trans e4)).trans (cdf ((updb_ne rfl).trans (hn 8 rfl)))) rfl
      refine .cons _ _ _ _ _ ⟨rfl,[(0,.bx 0 0)],AllN.get rfl (.cons rfl .nil),fun b hd hn hk hc=>?_⟩ ?_
      ·exact ops_at (cdf (hn 4 rfl)) rfl (o_move rfl rfl) (cdf ((updb_ne rfl).trans (hn 4 rfl))) rfl
      refine .cons _ _ _ _ _ ⟨rfl,[],AllN.get rfl .nil,fun b hd hn hk hc=>?_⟩ ?_
      ·exact ops_at (cdf (hn 4 rfl)) rfl (o_sliceIm (rows:=([e0,(ByteArray.mk #[10]),(ByteArray.mk #[98])] : List ByteArray).map (c_str)) rfl rfl tyS_9 ⟨_,rfl,rfl⟩ (by decide) rfl rfl rfl rfl rfl rfl) (cdf ((updb_ne rfl).trans (hn 4 rfl))) rfl
      refine .cons _ _ _ _ _ ⟨rfl,[(40,.bx 0 0),(41,.im false (([e0,(ByteArray.mk #[10]),(ByteArray.mk #[98])] : List ByteArray).map (c_str)))],AllN.get rfl (.cons rfl (.cons rfl .nil)),fun b hd hn hk hc=>?_⟩ ?_
      ·exact ops_at (cdf hk) rfl (o_callS [0] rfl en_43 rfl rfl (spec_l1Cur_of_p false c0 h14) rfl (by decide) (.cons _ _ _ _ rfl .nil) rfl rfl rfl) (((cdt updb_self).trans (cdf ((updb_ne rfl).trans (hn 8 rfl)))).trans rfl) rfl
      refine .cons _ _ _ _ _ ⟨rfl,[(42,.str r12)],AllN.get rfl (.cons rfl .nil),fun b hd hn hk hc=>?_⟩ ?_
      ·exact ops_at ((cdt (hd 4 rfl)).trans (cdf (hn 8 rfl))) rfl (o_sliceIm (rows:=([r12,(ByteArray.mk #[97])] : List ByteArray).map (c_str)) rfl rfl tyS_9 ⟨_,rfl,rfl⟩ (by decide) rfl rfl rfl rfl rfl rfl) ((cdt ((updb_ne rfl).trans (hd 4 rfl))).trans (cdf ((updb_ne rfl).trans (hn 8 rfl)))) rfl
      refine .cons _ _ _ _ _ ⟨rfl,[(39,.hd 4 (a0.Attrs_.map (c_I_Attr false)).length 0 (a0.Attrs_.map (c_I_Attr false)).length)],AllN.get rfl (.cons rfl .nil),fun b hd hn hk hc=>?_⟩ ?_
      ·exact ops_at ((cdt (hd 4 rfl)).trans (cdf (hn 8 rfl))) rfl (o_ixh (f:=c_I_Attr false) rfl rfl tyS_114 rfl rfl rfl rfl h16 rfl) ((cdt ((updb_ne rfl).trans (hd 4 rfl))).trans (cdf ((updb_ne rfl).trans (hn 8 rfl)))) rfl
      refine .cons _ _ _ _ _ ⟨rfl,[(44,.el 4 (a0.Attrs_.map (c_I_Attr false)).length (Int.toNat 0) 0)],AllN.get rfl (.cons rfl .nil),fun b hd hn hk hc=>?_⟩ ?_
      ·exact ops_at ((cdt (hd 4 rfl)).trans (cdf (hn 8 rfl))) rfl (o_fieldAddrEl rfl rfl rfl tyS_43 (by decide) rfl rfl rfl) ((cdt ((updb_ne rfl).trans (hd 4 rfl))).trans (cdf ((updb_ne rfl).trans (hn 8 rfl)))) rfl
      refine .cons _ _ _ _ _ ⟨rfl,[(43,.im false (([r12,(ByteArray.mk #[97])] : List ByteArray).map (c_str))),(45,.el 4 (a0.Attrs_.map (c_I_Attr false)).length (Int.toNat 0) 1)],AllN.get rfl (.cons rfl (.cons rfl .nil)),fun b hd hn hk hc=>?_⟩ ?_
      ·exact ops_at ((cdt (hd 4 rfl)).trans (cdf hk)) rfl (Does.to (o_stEl (f:=c_I_Attr false) (xs:=a0.Attrs_) (k:=0) (a:=e15) (⟨e15.Name_,([r12,(ByteArray.mk #[97])] : List ByteArray)⟩ : I_Attr) rfl tyS_43 rfl rfl rfl rfl (by decide) h16 rfl rfl rfl (fun _=>rfl) rfl) (eqAtS (eqAtS (eqAtS (eqAtS (eqAtS (eqAtS (eqAtS (eqAtB (show (.box [.hd 3 (a0.Name_.map (c_I_Part false)).length 0 (a0.Name_.map (c_I_Part false)).length,.hd 4 (a0.Attrs_.map (c_I_Attr false)).length 0 (a0.Attrs_.map (c_I_Attr false)).length] : AO) = .box [.hd 3 (a0.Name_.map (c_I_Part false)).length 0 (a0.Name_.map (c_I_Part false)).length,.hd 4 ((a0.Attrs_.set (Int.toNat 0) (⟨e15.Name_,([r12,(ByteArray.mk #[97])] : List ByteArray)⟩ : I_Attr)).map (c_I_Attr false)).length 0 ((a0.Attrs_.set (Int.toNat 0) (⟨e15.Name_,([r12,(ByteArray.mk #[97])] : List ByteArray)⟩ : I_Attr)).map (c_I_Attr false)).length] by simp only [List.length_map,List.length_set]) rfl))))))))) (((cdt ((updb_ne rfl).trans (hd 4 rfl))).trans (cdt updb_self)).trans rfl) rfl
      exact .nil _
     ·intro b b' h; simp only [h 4 (by decide),h 8 (by decide)]
     refine inB_normal (thn_normal ?_)
     refine T.conv (Cs.eqV (t:=9) (v':=.hd 4 ((a0.Attrs_.set (Int.toNat 0) (⟨e15.Name_,([r12,(ByteArray.mk #[97])] : List ByteArray)⟩ : I_Attr)).map (c_I_Attr false)).length 0 ((a0.Attrs_.set (Int.toNat 0) (⟨e15.Name_,([r12,(ByteArray.mk #[97])] : List ByteArray)⟩ : I_Attr)).map (c_I_Attr false)).length) rfl (hd_len _ (List.length_set ..))) ?_
     refine T.conv (Cs.eqV (t:=39) (v':=.hd 4 ((a0.Attrs_.set (Int.toNat 0) (⟨e15.Name_,([r12,(ByteArray.mk #[97])] : List ByteArray)⟩ : I_Attr)).map (c_I_Attr false)).length 0 ((a0.Attrs_.set (Int.toNat 0) (⟨e15.Name_,([r12,(ByteArray.mk #[97])] : List ByteArray)⟩ : I_Attr)).map (c_I_Attr false)).length) rfl (hd_len _ (List.length_set ..))) ?_
     refine au 3 ?_
     refine TL.sn rfl rfl (o_storeBx rfl tyS_30 rfl rfl rfl rfl (nb rfl) (sure_hd rfl rfl (sure_hd rfl rfl rfl))) ?_
     refine TL.nil ?_
     refine T.conv (Cs.eqS (σ':=[.box (c_T_spec_l1Cur c0 o13),_,_,_,.arr .clo 2 ((a0.Attrs_.set (Int.toNat 0) (⟨e15.Name_,([r12,(ByteArray.mk #[97])] : List ByteArray)⟩ : I_Attr)).map (c_I_Attr false)),_,_,.box (k_impl_Entryx 3 4 false (⟨a0.Name_,(a0.Attrs_.set (Int.toNat 0) (⟨e15.Name_,([r12,(ByteArray.mk #[97])] : List ByteArray)⟩ : I_Attr))⟩ : I_Entry)),.box (k_impl_Entryx 3 4 false (⟨a0.Name_,(a0.Attrs_.set (Int.toNat 0) (⟨e15.Name_,([r12,(ByteArray.mk #[97])] : List ByteArray)⟩ : I_Attr))⟩ : I_Entry))]) rfl) ?_
     refine T.conv (Cs.wkF (M:=9) (.k 4 rfl rfl .nil)) ?_
     refine T.conv (Cs.reloc 5 3 rfl rfl (by decide) rfl rfl rfl (nomS_get rfl)) ?_
     refine T.conv (Cs.wkF (M:=9) (.k 4 rfl rfl .nil)) ?_
     refine T.conv (Cs.eqS (σ':=[_,_,_,.dead,_,.arr .clo 2 (a0.Name_.map (c_I_Part false)),_,.box (k_impl_Entryx 5 4 false (⟨a0.Name_,(a0.Attrs_.set (Int.toNat 0) (⟨e15.Name_,([r12,(ByteArray.mk #[97])] : List ByteArray)⟩ : I_Attr))⟩ : I_Entry)),.box (k_impl_Entryx 5 4 false (⟨a0.Name_,(a0.Attrs_.set (Int.toNat 0) (⟨e15.Name_,([r12,(ByteArray.mk #[97])] : List ByteArray)⟩ : I_Attr))⟩ : I_Entry))]) rfl) ?_
     refine T.conv (Cs.reloc 6 4 rfl rfl (by decide) rfl rfl rfl (nomS_get rfl)) ?_
     refine T.conv (Cs.wkF (M:=9) (.k 4 rfl rfl .nil)) ?_
     refine T.conv (Cs.eqS (σ':=[_,_,_,_,.dead,_,.arr .clo 2 ((a0.Attrs_.set (Int.toNat 0) (⟨e15.Name_,([r12,(ByteArray.mk #[97])] : List ByteArray)⟩ : I_Attr)).map (c_I_Attr false)),.box (k_impl_Entryx 5 6 false (⟨a0.Name_,(a0.Attrs_.set (Int.toNat 0) (⟨e15.Name_,([r12,(ByteArray.mk #[97])] : List ByteArray)⟩ : I_Attr))⟩ : I_Entry)),.box (k_impl_Entryx 5 6 false (⟨a0.Name_,(a0.Attrs_.set (Int.toNat 0) (⟨e15.Name_,([r12,(ByteArray.mk #[97])] : List ByteArray)⟩ : I_Attr))⟩ : I_Entry))]) rfl) ?_
     refine T.ret ?_
     cases some_i H
     exact ⟨trivial,_,(.cell _ _ _ _ _ _ _ _ _ _ rfl rfl tyS_30 (nb rfl) rfl .nil),⟨rfl,_,rfl⟩⟩
    ·refine au 5 ?_
     refine T.cH H ?_ ?_<;>intro H h
     ·refine au 3 ?_
      refine TL.conv (Cs.ownCell (p:=7) 1 2 rfl rfl (by decide)) ?_
      refine TL.conv (Cs.wkF (M:=10) (.k 0 rfl rfl (.k 3 rfl rfl (.k 4 rfl rfl (.k 5 rfl rfl (.k 6 rfl rfl (.k 7 rfl rfl (.k 8 rfl rfl (.k 10 rfl rfl (.k 11 rfl rfl (.k 12 rfl rfl (.k 17 rfl rfl (.k 19 rfl rfl (.k 20 rfl rfl (.k 21 rfl rfl (.k 27 rfl rfl (.k 28 rfl rfl (.k 36 rfl rfl (.k 37 rfl rfl (.k 46 rfl rfl (.k 47 rfl rfl (.k 48 rfl rfl .nil)))))))))))))))))))))) ?_
      refine TL.conv (Cs.reloc 4 9 rfl rfl (by decide) rfl rfl rfl (nomS_get rfl)) ?_
      refine TL.conv (Cs.wkF (M:=10) (.k 0 rfl rfl (.k 3 rfl rfl (.k 4 rfl rfl (.k 5 rfl rfl (.k 6 rfl rfl (.k 7 rfl rfl (.k 8 rfl rfl (.k 10 rfl rfl (.k 11 rfl rfl (.k 12 rfl rfl (.k 17 rfl rfl (.k 19 rfl rfl (.k 20 rfl rfl (.k 21 rfl rfl (.k 27 rfl rfl (.k 28 rfl rfl (.k 36 rfl rfl (.k 37 rfl rfl (.k 46 rfl rfl (.k 47 rfl rfl (.k 48 rfl rfl .nil)))))))))))))))))))))) ?_
      refine TL.conv (Cs.eqS (σ':=[_,_,_,_,.arr .clo 2 (([] : List I_Attr).map (c_I_Attr false)),_,_,.box (k_impl_Entryx 3 4 false (⟨a0.Name_,([] : List I_Attr)⟩ : I_Entry)),_,.dead]) rfl) ?_
      refine au 4 ?_
      refine TL.sn rfl rfl (o_storeBx rfl tyS_30 rfl rfl rfl rfl (nb rfl) (sure_hd rfl rfl (sure_hd rfl rfl rfl))) ?_
      refine TL.nil ?_
      refine T.conv (Cs.wkF (M:=10) (.k 4 rfl rfl .nil)) ?_
      refine T.conv (Cs.reloc 5 3 rfl rfl (by decide) rfl rfl rfl (nomS_get rfl)) ?_
      refine T.conv (Cs.wkF (M:=10) (.k 4 rfl rfl .nil)) ?_
      refine T.conv (Cs.eqS (σ':=[_,_,_,.dead,_,.arr .clo 2 (a0.Name_.map (c_I_Part false)),_,.box (k_impl_Entryx 5 4 false (⟨a0.Name_,([] : List I_Attr)⟩ : I_Entry)),.box (k_impl_Entryx 5 4 false (⟨a0.Name_,([] : List I_Attr)⟩ : I_Entry)),_]) rfl) ?_
      refine T.conv (Cs.reloc 6 4 rfl rfl (by decide) rfl rfl rfl (nomS_get rfl)) ?_
      refine T.conv (Cs.wkF (M:=10) (.k 4 rfl rfl .nil)) ?_
      refine T.conv (Cs.eqS (σ':=[_,_,_,_,.dead,_,.arr .clo 2 (([] : List I_Attr).map (c_I_Attr false)),.box (k_impl_Entryx 5 6 false (⟨a0.Name_,([] : List I_Attr)⟩ : I_Entry)),.box (k_impl_Entryx 5 6 false (⟨a0.Name_,([] : List I_Attr)⟩ : I_Entry)),_]) rfl) ?_
      refine T.ret ?_
      cases some_i H
      exact ⟨trivial,_,(.cell _ _ _ _ _ _ _ _ _ _ rfl rfl tyS_30 (nb rfl) rfl .nil),⟨rfl,_,rfl⟩⟩
     ·refine au 5 ?_
      refine T.cH H ?_ ?_<;>intro H h
      ·refine au 3 ?_
       refine TL.conv (Cs.ownCell (p:=7) 0 2 rfl rfl (by decide)) ?_
       refine TL.conv (Cs.wkF (M:=10) (.k 0 rfl rfl (.k 3 rfl rfl (.k 4 rfl rfl (.k 5 rfl rfl (.k 6 rfl rfl (.k 7 rfl rfl (.k 8 rfl rfl (.k 9 rfl rfl (.k 10 rfl rfl (.k 11 rfl rfl (.k 12 rfl rfl (.k 17 rfl rfl (.k 19 rfl rfl (.k 20 rfl rfl (.k 21 rfl rfl (.k 27 rfl rfl (.k 28 rfl rfl (.k 36 rfl rfl (.k 37 rfl rfl (.k 46 rfl rfl (.k 47 rfl rfl (.k 49 rfl rfl (.k 50 rfl rfl (.k 51 rfl rfl .nil))))))))))))))))))))))))) ?_
       refine TL.conv (Cs.reloc 3 9 rfl rfl (by decide) rfl rfl rfl (nomS_get rfl)) ?_
       refine TL.conv (Cs.wkF (M:=10) (.k 0 rfl rfl (.k 3 rfl rfl (.k 4 rfl rfl (.k 5 rfl rfl (.k 6 rfl rfl (.k 7 rfl rfl (.k 8 rfl rfl (.k 9 rfl rfl (.k 10 rfl rfl (.k 11 rfl rfl (.k 12 rfl rfl (.k 17 rfl rfl (.k 19 rfl rfl (.k 20 rfl rfl (.k 21 rfl rfl (.k 27 rfl rfl (.k 28 rfl rfl (.k 36 rfl rfl (.k 37 rfl rfl (.k 46 rfl rfl (.k 47 rfl rfl (.k 49 rfl rfl (.k 50 rfl rfl (.k 51 rfl rfl .nil))))))))))))))))))))))))) ?_
       refine TL.conv (Cs.eqS (σ':=[_,_,_,.arr .clo 2 (([] : List I_Part).map (c_I_Part false)),_,_,_,.box (k_impl_Entryx 3 4 false (⟨([] : List I_Part),a0.Attrs_⟩ : I_Entry)),_,.dead]) rfl) ?_
       refine au 4 ?_
       refine TL.sn rfl rfl (o_storeBx rfl tyS_30 rfl rfl rfl rfl (nb rfl) (sure_hd rfl rfl (sure_hd rfl rfl rfl))) ?_
       refine TL.nil ?_
       refine T.conv (Cs.wkF (M:=10) (.k 4 rfl rfl .nil)) ?_
       refine T.conv (Cs.reloc 5 3 rfl rfl (by decide) rfl rfl rfl (nomS_get rfl)) ?_
       refine T.conv (Cs.wkF (M:=10) (.k 4 rfl rfl .nil)) ?_
       refine T.conv (Cs.eqS (σ':=[_,_,_,.dead,_,.arr .clo 2 (([] : List I_Part).map (c_I_Part false)),_,.box (k_impl_Entryx 5 4 false (⟨([] : List I_Part),a0.Attrs_⟩ : I_Entry)),.box (k_impl_Entryx 5 4 false (⟨([] : List I_Part),a0.Attrs_⟩ : I_Entry)),_]) rfl) ?_
       refine T.conv (Cs.reloc 6 4 rfl rfl (by decide) rfl rfl rfl (nomS_get rfl)) ?_
       refine T.conv (Cs.wkF (M:=10) (.k 4 rfl rfl .nil)) ?_
       refine T.conv (Cs.eqS (σ':=[_,_,_,_,.dead,_,.arr .clo 2 (a0.Attrs_.map (c_I_Attr false)),.box (k_impl_Entryx 5 6 false (⟨([] : List I_Part),a0.Attrs_⟩ : I_Entry)),.box (k_impl_Entryx 5 6 false (⟨([] : List I_Part),a0.Attrs_⟩ : I_Entry)),_]) rfl) ?_
       refine T.ret ?_
       cases some_i H
       exact ⟨trivial,_,(.cell _ _ _ _ _ _ _ _ _ _ rfl rfl tyS_30 (nb rfl) rfl .nil),⟨rfl,_,rfl⟩⟩
      ·refine au 4 ?_
       refine TL.sn rfl rfl (o_storeBx rfl tyS_30 rfl rfl rfl rfl (nb rfl) (sure_hd rfl rfl (sure_hd rfl rfl rfl))) ?_
       refine TL.nil ?_
       refine T.conv (Cs.wkF (M:=9) (.k 4 rfl rfl .nil)) ?_
       refine T.conv (Cs.reloc 5 3 rfl rfl (by decide) rfl rfl rfl (nomS_get rfl)) ?_
       refine T.conv (Cs.wkF (M:=9) (.k 4 rfl rfl .nil)) ?_
       refine T.conv (Cs.eqS (σ':=[_,_,_,.dead,_,.arr .clo 2 (a0.Name_.map (c_I_Part false)),_,.box (k_impl_Entryx 5 4 false a0),.box (k_impl_Entryx 5 4 false a0)]) rfl) ?_
       refine T.conv (Cs.reloc 6 4 rfl rfl (by decide) rfl rfl rfl (nomS_get rfl)) ?_
       refine T.conv (Cs.wkF (M:=9) (.k 4 rfl rfl .nil)) ?_
       refine T.conv (Cs.eqS (σ':=[_,_,_,_,.dead,_,.arr .clo 2 (a0.Attrs_.map (c_I_Attr false)),.box (k_impl_Entryx 5 6 false a0),.box (k_impl_Entryx 5 6 false a0)]) rfl) ?_
       refine T.ret ?_
       cases some_i H
       exact ⟨trivial,_,(.cell _ _ _ _ _ _ _ _ _ _ rfl rfl tyS_30 (nb rfl) rfl .nil),⟨rfl,_,rfl⟩⟩
theorem en_26 : En Tryz.prog 26:=.of Tryz.func26 rfl rfl
theorem tyS_77 : TyS Tryz.prog 77 true 4:=⟨rfl,rfl⟩
theorem en_29 : En Tryz.prog 29:=.of Tryz.func29 rfl rfl
theorem tyE_77 : TyE Tryz.prog 77 4:=⟨_,_,rfl,rfl,rfl,rfl,by decide,by decide⟩
noncomputable def spec_l1Cur_filterOf_l1 (a0 : Int) (rec_spec_l1Cur_filterOf : (Int × T_spec_l1Cur) → Option ((List I_FilterNode) × T_spec_l1Cur)) (r6 : Int) : (T_spec_l1Cur × List I_FilterNode × Int) → Option ((T_spec_l1Cur × List I_FilterNode × Int) ⊕ (T_spec_l1Cur × List I_FilterNode)):=fun s=>match s with
  | (b9,l10,v11)=>cond (decide (v11 < r6)) ((rec_spec_l1Cur_filterOf ((IntKind.i64.wrap (a0 - 1)),b9)).bind fun q=>(match q with | (r15,o16)=>(app l10 r15).bind fun l18=>some (.inl (o16,l18,(IntKind.i64.wrap (v11 + 1)))))) (some (.inr (b9,l10)))
noncomputable def spec_l1Cur_filterOf_j4 (v4 : Int) (r27 : ByteArray) (o31 : T_spec_l1Cur) (v33 : ByteArray) (v34 : Bool) : Option ((List I_FilterNode) × T_spec_l1Cur) :=
  cond v34 (some (([(⟨4,r27,v33,0⟩ : I_FilterNode)] : List I_FilterNode),o31)) (cond (v4 == 5) ((spec_l1Cur_pick 2 o31).bind fun q=>(match q with | (r35,o36)=>some (([(⟨(IntKind.i64.wrap (5 + r35)),r27,v33,0⟩ : I_FilterNode)] : List I_FilterNode),o36))) (cond (v4 == 6) (some (([(⟨7,r27,e0,0⟩ : I_FilterNode)] : List I_FilterNode),o31)) ((spec_l1Cur_of ([(ByteArray.mk #[97,42]),(ByteArray.mk #[42,110,42]),(ByteArray.mk #[42]),(ByteArray.mk #[97,92,42,98]),(ByteArray.mk #[66,42]),(ByteArray.mk #[40,120,41]),(ByteArray.mk #[126,116]),(ByteArray.mk #[97,110,110])] : List ByteArray) o31).bind fun q=>(match q with | (r38,o39)=>some (([(⟨8,r27,r38,0⟩ : I_FilterNode)] : List I_FilterNode),o39)))))
noncomputable def spec_l1Cur_filterOf_j3 (v4 : Int) (r27 : ByteArray) (o31 : T_spec_l1Cur) (v33 : ByteArray) : Option ((List I_FilterNode) × T_spec_l1Cur) :=
  cond (v4 == 3) (spec_l1Cur_filterOf_j4 v4 r27 o31 v33 (v4 == 3)) (spec_l1Cur_filterOf_j4 v4 r27 o31 v33 (v4 == 4))
noncomputable def spec_l1Cur_filterOf_j2 (a0 : Int) (rec_spec_l1Cur_filterOf : (Int × T_spec_l1Cur) → Option ((List I_FilterNode) × T_spec_l1Cur)) (o2 : T_spec_l1Cur) (v4 : Int) (v5 : Bool) : Option ((List I_FilterNode) × T_spec_l1Cur) :=
  cond v5 ((spec_l1Cur_pick 4 o2).bind fun q=>(match q with | (r6,o7)=>(loopO (spec_l1Cur_filterOf_l1 a0 rec_spec_l1Cur_filterOf r6) (o7,([(⟨(IntKind.i64.wrap (1 + v4)),e0,e0,r6⟩ : I_FilterNode)] : List I_FilterNode),0)).bind fun q20=>(match q20 with | (b12,l13)=>some (l13,b12)))) (cond (v4 == 2) ((rec_spec_l1Cur_filterOf ((IntKind.i64.wrap (a0 - 1)),o2)).bind fun q=>(match q with | (r22,o23)=>(app ([(⟨3,e0,e0,1⟩ : I_FilterNode)] : List I_FilterNode) r22).bind fun l25=>some (l25,o23))) ((spec_l1Cur_of ([(ByteArray.mk #[97,103,101]),(ByteArray.mk #[98,111,115,115]),(ByteArray.mk #[99,108,97,115,115]),(ByteArray.mk #[99,110]),(ByteArray.mk #[109,97,105,108]),(ByteArray.mk #[109,101,109,98,101,114]),(ByteArray.mk #[111,117]),(ByteArray.mk #[110,111,115,117,99,104])] : List ByteArray) o2).bind fun q=>(match q with | (r27,o28)=>(spec_l1Cur_attrText r27 o28).bind fun q=>(match q with | (r30,o31)=>cond (r30.toList == e0.toList) (spec_l1Cur_filterOf_j3 v4 r27 o31 (ByteArray.mk #[42])) (spec_l1Cur_filterOf_j3 v4 r27 o31 r30)))))
noncomputable def spec_l1Cur_filterOf_j1 (a0 : Int) (rec_spec_l1Cur_filterOf : (Int × T_spec_l1Cur) → Option ((List I_FilterNode) × T_spec_l1Cur)) (o2 : T_spec_l1Cur) (v4 : Int) : Option ((List I_FilterNode) × T_spec_l1Cur) :=
  cond (v4 == 0) (spec_l1Cur_filterOf_j2 a0 rec_spec_l1Cur_filterOf o2 v4 (v4 == 0)) (spec_l1Cur_filterOf_j2 a0 rec_spec_l1Cur_filterOf o2 v4 (v4 == 1))
noncomputable def spec_l1Cur_filterOf_b (rec_spec_l1Cur_filterOf : (Int × T_spec_l1Cur) → Option ((List I_FilterNode) × T_spec_l1Cur)) (a0 : Int) (s0 : T_spec_l1Cur) : Option ((List I_FilterNode) × T_spec_l1Cur) :=
  (spec_l1Cur_pick 9 s0).bind fun q=>(match q with | (r1,o2)=>cond ((a0 == 0) && decide (r1 < 3)) (spec_l1Cur_filterOf_j1 a0 rec_spec_l1Cur_filterOf o2 3) (spec_l1Cur_filterOf_j1 a0 rec_spec_l1Cur_filterOf o2 r1))
noncomputable def spec_l1Cur_filterOf (a0 : Int) (s0 : T_spec_l1Cur) : Option ((List I_FilterNode) × T_spec_l1Cur):=fixO (fun rec_spec_l1Cur_filterOf x=>match x with | (a0,s0)=>spec_l1Cur_filterOf_b rec_spec_l1Cur_filterOf a0 s0) (a0,s0)
end Go.G36.MT
