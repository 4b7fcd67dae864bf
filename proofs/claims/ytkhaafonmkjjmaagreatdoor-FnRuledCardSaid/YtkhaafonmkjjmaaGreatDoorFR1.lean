import Derived.Test.YtkhaafonmkjjmaaGreatDoorProg
import Derived.Test.YtkhaafonmkjjmaaGreatDoorFrLib
set_option linter.all false
set_option maxRecDepth 20000
set_option maxHeartbeats 4000000
namespace Go.G36.FR
open Go Go.Proofs Go.G36.MT

def c_int(k:IntKind)(x:Int):List V:=[.int k x]
def Be(x:Bool):List V:=[.bool x]
def Aw(x:ByteArray):List V:=[.str x]
def Ek(x:List V):List V:=x
theorem map_raw(x:List (List V)):x.map Ek=x:=by
  induction x with
  | nil=>rfl
  | cons a l ih=>simp[ih,Ek]
def Et{α:Type}(f:α→List V)(x:List α):List V:=[.im false (x.map f)]

structure Ar where
  Name_:ByteArray
  Syntax_:Int
  Single_:Bool
deriving Inhabited
def Ae(b:Bool)(x:Ar):List V:=[.str x.Name_,.int .i64 x.Syntax_,.bool x.Single_]
structure Ax where
  Name_:ByteArray
  Up_:ByteArray
  Must_:(List ByteArray)
  May_:(List ByteArray)
deriving Inhabited
def Ak(b:Bool)(x:Ax):List V:=[.str x.Name_,.str x.Up_,.im b (x.Must_.map (Aw)),.im b (x.May_.map (Aw))]
structure Ah where
  Types_:(List Ar)
  Classes_:(List Ax)
deriving Inhabited
def At(b:Bool)(x:Ah):List V:=[.im b (x.Types_.map (Ae false)),.im b (x.Classes_.map (Ak false))]
structure A4 where
  Attr_:ByteArray
  Text_:ByteArray
deriving Inhabited
@[reducible] instance:BEq A4:=⟨fun a b=>((a.Attr_.toList==b.Attr_.toList)&&((a.Text_.toList==b.Text_.toList)&&true))⟩
def A5(b:Bool)(x:A4):List V:=[.str x.Attr_,.str x.Text_]
structure B8 where
  Name_:ByteArray
  Values_:(List ByteArray)
deriving Inhabited
def Bj(b:Bool)(x:B8):List V:=[.str x.Name_,.im b (x.Values_.map (Aw))]
structure Ay where
  Name_:(List A4)
  Attrs_:(List B8)
deriving Inhabited
def An(b:Bool)(x:Ay):List V:=[.im b (x.Name_.map (A5 false)),.im b (x.Attrs_.map (Bj false))]
structure Aa where
  Kind_:Int
  Attr_:ByteArray
  Text_:ByteArray
  Kids_:Int
deriving Inhabited
def Ab(b:Bool)(x:Aa):List V:=[.int .i64 x.Kind_,.str x.Attr_,.str x.Text_,.int .i64 x.Kids_]
structure A9 where
  Group_:ByteArray
  Filter_:(List Aa)
deriving Inhabited
def A2(b:Bool)(x:A9):List V:=[.str x.Group_,.im b (x.Filter_.map (Ab false))]
structure Ag where
  code_:(List Int)
  at_:Int
  seed_:Int
deriving Inhabited
def Ai(b:Bool)(x:Ag):List V:=[.im b (x.code_.map (c_int .u8)),.int .i64 x.at_,.int .u64 x.seed_]
structure Bc where
  Group_:ByteArray
  Member_:ByteArray
deriving Inhabited
@[reducible] instance:BEq Bc:=⟨fun a b=>((a.Group_.toList==b.Group_.toList)&&((a.Member_.toList==b.Member_.toList)&&true))⟩
def Au(b:Bool)(x:Bc):List V:=[.str x.Group_,.str x.Member_]
structure Bd where
  addr_:Unit
  buf_:(List Int)
deriving Inhabited
structure A3 where
  n_:Aa
  kids_:(List (List V))
deriving Inhabited
def A7(b:Bool)(x:A3):List V:=((Ab b x.n_) ++ [.im b (x.kids_.map (Ek))])
def dec_T_spec_l3F:List V→Option A3
  | [.int .i64 y2,.str y3,.str y4,.int .i64 y5,.im false y6]=>some ⟨(⟨y2,y3,y4,y5⟩:Aa),y6⟩
  | _=>none
theorem dec_T_spec_l3F_s{r:List V}{x:A3}(h:dec_T_spec_l3F r=some x):Ek r=A7 false x:=by
  unfold dec_T_spec_l3F at h
  split at h
  · injection h with h;subst h;simp[Ek,A7,map_raw,Ab]
  · cases h

theorem Dy:TyS Tryz.prog 26 true 2:=⟨rfl,rfl⟩
theorem Bm:TyS Tryz.prog 9 false 1:=⟨rfl,rfl⟩
theorem D6:TyS Tryz.prog 106 true 3:=⟨rfl,rfl⟩
theorem Dj:TyS Tryz.prog 3 false 1:=⟨rfl,rfl⟩
theorem Cz:TyS Tryz.prog 4 false 1:=⟨rfl,rfl⟩
theorem tyS_22:TyS Tryz.prog 22 false 1:=⟨rfl,rfl⟩
theorem tyS_5:TyS Tryz.prog 5 false 1:=⟨rfl,rfl⟩
noncomputable def spec_l1Cur_next_j1(s0:Ag)(v1:Int):Option (Int×Ag) :=
  cond (decide ((IntKind.i64.wrap (s0.at_+1))≤(s0.code_.length:Int))) (some (v1,(⟨s0.code_,(IntKind.i64.wrap (s0.at_+1)),(IntKind.u64.wrap ((IntKind.u64.wrap ((IntKind.u64.wrap (s0.seed_*6364136223846793005))+(IntKind.u64.wrap v1)))+1442695040888963407))⟩:Ag))) (some ((IntKind.i64.wrap (IntKind.u64.wrap (BitVec.ofInt IntKind.u64.bits (Int.fdiv (IntKind.u64.wrap ((IntKind.u64.wrap ((IntKind.u64.wrap (s0.seed_*6364136223846793005))+(IntKind.u64.wrap v1)))+1442695040888963407)) (2 ^ (min (Int.toNat 40) IntKind.u64.bits))) &&& BitVec.ofInt IntKind.u64.bits 255).toNat)),(⟨s0.code_,(IntKind.i64.wrap (s0.at_+1)),(IntKind.u64.wrap ((IntKind.u64.wrap ((IntKind.u64.wrap (s0.seed_*6364136223846793005))+(IntKind.u64.wrap v1)))+1442695040888963407))⟩:Ag)))
noncomputable def spec_l1Cur_next(s0:Ag):Option (Int×Ag) :=
  cond (decide (s0.at_<(s0.code_.length:Int))) ((idx s0.code_ s0.at_).bind fun e2=>spec_l1Cur_next_j1 s0 (IntKind.i64.wrap e2)) (spec_l1Cur_next_j1 s0 0)
theorem spec_l1Cur_next_p(c0:Bool){s0:Ag}{R0:Int}{U0:Ag}(H:spec_l1Cur_next s0=some (R0,U0)):St Tryz.prog 89 [.bx 0 0] [.box (Ai c0 s0)] (.int .i64 R0) [.box (Ai c0 U0)]:=by
 refine Ba.fin (Ba.of_TN (n:=62) Tryz.func89 rfl rfl rfl rfl ?_) rfl rfl ⟨(Bt.1 rfl),trivial⟩
 refine au 8 ?_
 refine T.cut (fun fr' σ'=>∃ (v1:Int),fr' = [(0,.bx 0 0),(3,.int .i64 v1)]∧σ' = [.box (Ai c0 s0)]∧spec_l1Cur_next_j1 s0 v1=some (R0,U0)) (T.pk ?_) ?_
 ·skip
  refine T.seq ?_
  refine T.drawn rfl ?_
  refine ad 8 ?_
  refine TD.qs rfl rfl (fun _=>Bf (f:=c_int .u8) rfl rfl rfl) ?_
  refine TD.qs rfl rfl (fun _=>B3 rfl rfl rfl rfl) ?_
  refine TD.nil ⟨rfl,?_⟩
  refine Af ?_
  refine T.cH H ?_ ?_<;>intro H h
  ·refine T.drawn rfl ?_
   refine ad 8 ?_
   obtain⟨e2,h3,H⟩:=Ac H
   refine TD.qs rfl rfl (fun _=>B7 (f:=c_int .u8) rfl rfl tyS_5 rfl rfl h3 rfl) ?_
   refine TD.qs rfl rfl (fun _=>Bx rfl tyS_5 rfl (nb rfl) rfl) ?_
   refine TD.qs rfl rfl (fun _=>o_conv rfl rfl ⟨_,rfl⟩ rfl) ?_
   refine TD.qs rfl rfl (fun _=>Dm rfl rfl) ?_
   refine TD.nil ⟨rfl,?_⟩
   exact Pk.of (Af ⟨(IntKind.i64.wrap e2),rfl,rfl,H⟩)
  ·refine T.skip ?_
   exact Pk.of (Af ⟨0,rfl,rfl,H⟩)
 ·rintro _ _ ⟨v1,rfl,rfl,H⟩
  refine au 20 ?_
  refine TL.st rfl rfl rfl (o_conv rfl rfl ⟨_,rfl⟩ rfl) ?_
  refine au 8 ?_
  refine T.drawn rfl ?_
  refine ad 8 ?_
  refine TD.qs rfl rfl (fun _=>Bf (f:=c_int .u8) rfl rfl rfl) ?_
  refine TD.qs rfl rfl (fun _=>B3 rfl rfl rfl rfl) ?_
  refine TD.nil ⟨rfl,?_⟩
  refine Af ?_
  refine T.cH H ?_ ?_<;>intro H h
  ·refine au 6 ?_
   refine Aj ?_
   cases Ad H
   exact⟨trivial,_,(.tmp _ _ _ _ rfl .nil),⟨rfl,_,rfl⟩⟩
  ·refine au 7 ?_
   refine TL.st rfl rfl rfl (o_shr rfl rfl rfl (by decide)) ?_
   refine TL.st rfl rfl rfl (o_bits rfl rfl rfl rfl) ?_
   refine TL.st rfl rfl rfl (o_conv rfl rfl ⟨_,rfl⟩ rfl) ?_
   refine au 3 ?_
   cases Ad H
   exact⟨trivial,_,(.tmp _ _ _ _ rfl .nil),⟨rfl,_,rfl⟩⟩
theorem en_89:En Tryz.prog 89:=.of Tryz.func89 rfl rfl
noncomputable def spec_l1Cur_pick_j1(a0:Int)(b4:Ag)(v5:Int):Option (Int×Ag) :=
  (nz a0).bind fun z6=>some ((Int.tmod v5 a0),b4)
noncomputable def Br(a0:Int)(s0:Ag):Option (Int×Ag) :=
  cond (decide (a0≤1)) (some (0,s0)) ((spec_l1Cur_next s0).bind fun q=>(match q with | (r1,o2)=>cond (decide (a0 > 200)) ((spec_l1Cur_next o2).bind fun q=>(match q with | (r8,o9)=>spec_l1Cur_pick_j1 a0 o9 (IntKind.i64.wrap ((IntKind.i64.wrap (r1*256))+r8)))) (spec_l1Cur_pick_j1 a0 o2 r1)))
theorem spec_l1Cur_pick_p(c0:Bool){a0:Int}{s0:Ag}{R0:Int}{U0:Ag}(H:Br a0 s0=some (R0,U0)):St Tryz.prog 42 [.bx 0 0,.int .i64 a0] [.box (Ai c0 s0)] (.int .i64 R0) [.box (Ai c0 U0)]:=by
 refine Ba.fin (Ba.of_TN (n:=20) Tryz.func42 rfl rfl rfl rfl ?_) rfl rfl ⟨(Bt.1 rfl),trivial⟩
 refine au 10 ?_
 refine T.cH H ?_ ?_<;>intro H h
 ·refine au 5 ?_
  refine Aj ?_
  cases Ad H
  exact⟨trivial,_,(.tmp _ _ _ _ rfl .nil),⟨rfl,_,rfl⟩⟩
 ·refine au 4 ?_
  obtain⟨⟨r1,o2⟩,h3,H⟩:=Ac H
  refine TL.st rfl rfl rfl (Bn [0] rfl en_89 rfl rfl (spec_l1Cur_next_p c0 h3) rfl (by decide) (.cons _ _ _ _ rfl .nil) rfl rfl rfl) ?_
  refine au 2 ?_
  refine T.cut (fun fr' σ'=>∃ (b4:Ag) (v5:Int),fr' = [(1,.int .i64 a0),(5,.int .i64 v5)]∧σ' = [.box (Ai c0 b4)]∧spec_l1Cur_pick_j1 a0 b4 v5=some (R0,U0)) (T.pk ?_) ?_
  ·skip
   refine au 5 ?_
   refine T.cH H ?_ ?_<;>intro H h
   ·refine au 4 ?_
    obtain⟨⟨r8,o9⟩,h10,H⟩:=Ac H
    refine TL.st rfl rfl rfl (Bn [0] rfl en_89 rfl rfl (spec_l1Cur_next_p c0 h10) rfl (by decide) (.cons _ _ _ _ rfl .nil) rfl rfl rfl) ?_
    refine au 3 ?_
    exact Pk.of (Af ⟨o9,(IntKind.i64.wrap ((IntKind.i64.wrap (r1*256))+r8)),rfl,rfl,H⟩)
   ·refine T.skip ?_
    exact Pk.of (Af ⟨o2,r1,rfl,rfl,H⟩)
  ·rintro _ _ ⟨b4,v5,rfl,rfl,H⟩
   refine au 4 ?_
   obtain⟨z6,h7,H⟩:=Ac H
   refine TL.st rfl rfl rfl (o_rem rfl rfl rfl (nz_s h7).1) ?_
   refine au 3 ?_
   cases Ad H
   exact⟨trivial,_,(.tmp _ _ _ _ rfl .nil),⟨rfl,_,rfl⟩⟩
theorem Ey:En Tryz.prog 42:=.of Tryz.func42 rfl rfl
noncomputable def Cg(a0:Int)(s0:Ag):Option (Bool×Ag) :=
  (Br a0 s0).bind fun q=>(match q with | (r1,o2)=>some ((r1==0),o2))
theorem spec_l1Cur_one_p(c0:Bool){a0:Int}{s0:Ag}{R0:Bool}{U0:Ag}(H:Cg a0 s0=some (R0,U0)):St Tryz.prog 41 [.bx 0 0,.int .i64 a0] [.box (Ai c0 s0)] (.bool R0) [.box (Ai c0 U0)]:=by
 refine Ba.fin (Ba.of_TN (n:=9) Tryz.func41 rfl rfl rfl rfl ?_) rfl rfl ⟨(Bt.1 rfl),trivial⟩
 refine au 8 ?_
 obtain⟨⟨r1,o2⟩,h3,H⟩:=Ac H
 refine TL.st rfl rfl rfl (Bn [0] rfl Ey rfl rfl (spec_l1Cur_pick_p c0 h3) rfl (by decide) (.cons _ _ _ _ rfl .nil) rfl rfl rfl) ?_
 refine au 4 ?_
 cases Ad H
 exact⟨trivial,_,(.tmp _ _ _ _ rfl .nil),⟨rfl,_,rfl⟩⟩
theorem en_41:En Tryz.prog 41:=.of Tryz.func41 rfl rfl
theorem Ds:TyS Tryz.prog 23 false 1:=⟨rfl,rfl⟩
theorem tyE_106:TyE Tryz.prog 106 3:=⟨_,_,rfl,rfl,rfl,rfl,by decide,by decide⟩
def As(a1 a2:Nat)(b:Bool)(x:Ah):List V:=[.hd a1 (x.Types_.map (Ae false)).length 0 (x.Types_.map (Ae false)).length,.hd a2 (x.Classes_.map (Ak false)).length 0 (x.Classes_.map (Ak false)).length]
theorem Dw:TyS Tryz.prog 108 true 4:=⟨rfl,rfl⟩
theorem E0:TyS Tryz.prog 43 false 1:=⟨rfl,rfl⟩
noncomputable def spec_l3Type_l1(a0:Ah)(a1:ByteArray):Int→Option (Int⊕(Unit⊕(Ar×Bool))):=fun s=>match s with
  | v1=>cond (decide (v1<(a0.Types_.length:Int))) ((idx a0.Types_ v1).bind fun e4=>cond (e4.Name_.toList==a1.toList) (some (.inr (.inr (e4,true)))) (some (.inl (IntKind.i64.wrap (v1+1))))) (some (.inr (.inl ())))
noncomputable def spec_l3Type(a0:Ah)(a1:ByteArray):Option (Ar×Bool) :=
  (loopO (spec_l3Type_l1 a0 a1) 0).bind fun q6=>(match q6 with | .inl _=>some ((⟨e0,0,false⟩:Ar),false) | .inr q2=>some q2)
theorem spec_l3Type_p(b0:Bool){a0:Ah}{a1:ByteArray}{R0:Ar}{R1:Bool}(H:spec_l3Type a0 a1=some (R0,R1)):Bu Tryz.prog 65 [.agg (At b0 a0),.str a1] (.tup [.agg (Ae false R0),.bool R1]):=by
 refine Ba.of_TN (n:=22) Tryz.func65 rfl rfl rfl rfl ?_
 refine au 11 ?_
 refine TL.st rfl rfl rfl (Bf (f:=Ae false) rfl rfl rfl) ?_
 refine au 3 ?_
 obtain⟨q6,h7,H⟩:=Ac H
 refine T.lq (fun s=>match s with | v1=>[(1,.str a1),(4,.bx 1 0),(9,.im b0 (a0.Types_.map (Ae false))),(10,.int .i64 (a0.Types_.length:Int)),(11,.int .i64 v1)]) (fun s=>match s with | v1=>[.box (At b0 a0),.box [.str e0,.int .i64 0,.bool false]]) (fun q ex fr σ=>match q with | .inl _=>ex = .exit 0∧fr = [(4,.bx 1 0)]∧σ = [.box (At b0 a0),.box [.str e0,.int .i64 0,.bool false]] | .inr q2=>ex = .ret∧C5 Tryz.prog [.cell 4 106,.tmp 5] (fun v τ=>Told τ v (.tup [.agg (Ae false q2.1),.bool q2.2])) .ret fr σ) h7 ?_ ?_
 ·rintro v1 y3 H
  refine au 5 ?_
  refine T.cH H ?_ ?_<;>intro H h
  ·refine au 5 ?_
   obtain⟨e4,h5,H⟩:=Ac H
   refine TL.st rfl rfl rfl (B7 (f:=Ae false) rfl rfl D6 rfl rfl h5 rfl) ?_
   refine au 11 ?_
   refine T.cH H ?_ ?_<;>intro H h
   ·refine au 6 ?_
    refine T.conv (Cs.eqS (σ':=[_,.box (Ae false e4),.box (Ae false e4)]) rfl) ?_
    refine T.ret ?_
    refine Av (Aj ?_)
    exact Pk.id (Aj ⟨.inr (e4,true),(Ad H).symm,rfl,⟨trivial,_,(.cell _ _ _ _ _ _ _ _ _ _ rfl rfl D6 (nb rfl) rfl (.tmp _ _ _ _ rfl .nil)),(.tupL (.cons _ _ _ _ (.cl _ rfl) (.cons _ _ _ _ (.cl _ rfl) .nil)))⟩⟩)
   ·refine au 5 ?_
    exact Pk.of (Af ⟨(IntKind.i64.wrap (v1+1)),(Ad H).symm,rfl,rfl⟩)
  ·refine T.exit ?_
   refine Am ?_
   exact Pk.of (Am ⟨.inl (),(Ad H).symm,rfl,rfl,rfl⟩)
 ·rcases q6 with ⟨⟩ | q2
  ·rintro _ _ _ ⟨rfl,rfl,rfl⟩
   refine A6 ?_
   refine au 7 ?_
   cases Ad H
   exact⟨trivial,_,(.cell _ _ _ _ _ _ _ _ _ _ rfl rfl D6 (nb rfl) rfl (.tmp _ _ _ _ rfl .nil)),(.tupL (.cons _ _ _ _ (.cl _ rfl) (.cons _ _ _ _ (.cl _ rfl) .nil)))⟩
  ·rintro _ fr1 σ1 ⟨rfl,hr⟩
   refine Av (Aj ?_)
   cases Ad H
   exact hr
theorem en_65:En Tryz.prog 65:=.of Tryz.func65 rfl rfl
theorem tyE_9:TyE Tryz.prog 9 1:=⟨_,_,rfl,rfl,rfl,rfl,by decide,by decide⟩
theorem tyE_43:TyE Tryz.prog 43 1:=⟨_,_,rfl,rfl,rfl,rfl,by decide,by decide⟩
theorem Dr:TyS Tryz.prog 24 false 1:=⟨rfl,rfl⟩
theorem tyE_108:TyE Tryz.prog 108 4:=⟨_,_,rfl,rfl,rfl,rfl,by decide,by decide⟩
noncomputable def spec_l1Cur_dirSchema_l4(b6:Ah)(e22:(List ByteArray)):(List ByteArray×Int)→Option ((List ByteArray×Int)⊕List ByteArray):=fun s=>match s with
  | (l24,v25)=>cond (decide (v25<(e22.length:Int))) ((idx e22 v25).bind fun e30=>(spec_l3Type b6 e30).bind fun q=>(match q with | (r32,r33)=>cond r33 ((app l24 ([e30]:List ByteArray)).bind fun l35=>some (.inl (l35,(IntKind.i64.wrap (v25+1))))) (some (.inl (l24,(IntKind.i64.wrap (v25+1))))))) (some (.inr l24))
noncomputable def spec_l1Cur_dirSchema_l3(b6:Ah)(e10:Ax):(List (List ByteArray)×Int)→Option ((List (List ByteArray)×Int)⊕List (List ByteArray)):=fun s=>match s with
  | (l12,v13)=>cond (decide (v13<(([e10.Must_,e10.May_]:List (List ByteArray)).length:Int))) ((idx ([e10.Must_,e10.May_]:List (List ByteArray)) v13).bind fun e22=>(loopO (spec_l1Cur_dirSchema_l4 b6 e22) (([]:List ByteArray),0)).bind fun l26=>(match l26 with | l26=>(app l12 ([l26]:List (List ByteArray))).bind fun l27=>some (.inl (l27,(IntKind.i64.wrap (v13+1)))))) (some (.inr l12))
noncomputable def spec_l1Cur_dirSchema_l2 : (Ah×Int)→Option ((Ah×Int)⊕Ah):=fun s=>match s with
  | (b6,v7)=>cond (decide (v7<(([(⟨(ByteArray.mk #[71,114,111,117,112]),(ByteArray.mk #[84,111,112]),([]:List ByteArray),([(ByteArray.mk #[109,101,109,98,101,114])]:List ByteArray)⟩:Ax),(⟨(ByteArray.mk #[80,101,114,115,111,110]),(ByteArray.mk #[84,111,112]),([(ByteArray.mk #[99,110])]:List ByteArray),([(ByteArray.mk #[97,103,101]),(ByteArray.mk #[98,111,115,115]),(ByteArray.mk #[109,97,105,108])]:List ByteArray)⟩:Ax),(⟨(ByteArray.mk #[83,116,97,102,102]),(ByteArray.mk #[80,101,114,115,111,110]),([(ByteArray.mk #[97,103,101])]:List ByteArray),([]:List ByteArray)⟩:Ax),(⟨(ByteArray.mk #[84,111,112]),e0,([]:List ByteArray),([(ByteArray.mk #[111,117]),(ByteArray.mk #[114,101,102])]:List ByteArray)⟩:Ax)]:List Ax).length:Int))) ((idx ([(⟨(ByteArray.mk #[71,114,111,117,112]),(ByteArray.mk #[84,111,112]),([]:List ByteArray),([(ByteArray.mk #[109,101,109,98,101,114])]:List ByteArray)⟩:Ax),(⟨(ByteArray.mk #[80,101,114,115,111,110]),(ByteArray.mk #[84,111,112]),([(ByteArray.mk #[99,110])]:List ByteArray),([(ByteArray.mk #[97,103,101]),(ByteArray.mk #[98,111,115,115]),(ByteArray.mk #[109,97,105,108])]:List ByteArray)⟩:Ax),(⟨(ByteArray.mk #[83,116,97,102,102]),(ByteArray.mk #[80,101,114,115,111,110]),([(ByteArray.mk #[97,103,101])]:List ByteArray),([]:List ByteArray)⟩:Ax),(⟨(ByteArray.mk #[84,111,112]),e0,([]:List ByteArray),([(ByteArray.mk #[111,117]),(ByteArray.mk #[114,101,102])]:List ByteArray)⟩:Ax)]:List Ax) v7).bind fun e10=>(loopO (spec_l1Cur_dirSchema_l3 b6 e10) (([]:List (List ByteArray)),0)).bind fun l14=>(match l14 with | l14=>(idx l14 0).bind fun e15=>(idx l14 1).bind fun e17=>(app b6.Classes_ ([(⟨e10.Name_,e10.Up_,e15,e17⟩:Ax)]:List Ax)).bind fun l19=>some (.inl ((⟨b6.Types_,l19⟩:Ah),(IntKind.i64.wrap (v7+1)))))) (some (.inr b6))
noncomputable def spec_l1Cur_dirSchema_j1(b1:Ag)(b2:Ah)(v3:Int)(e44:ByteArray)(b46:Ar):Option ((Ag×Ah×Int)⊕(Ag×Ah)) :=
  (cond (!(e44.toList==(ByteArray.mk #[99,108,97,115,115]).toList)) (Cg 9 b1) (some (default,b1))).bind fun q=>(match q with | (r47,o48)=>cond ((e44.toList==(ByteArray.mk #[99,108,97,115,115]).toList)||(!r47)) ((app b2.Types_ ([b46]:List Ar)).bind fun l50=>some (.inl (o48,(⟨l50,b2.Classes_⟩:Ah),(IntKind.i64.wrap (v3+1))))) (some (.inl (o48,b2,(IntKind.i64.wrap (v3+1))))))
noncomputable def spec_l1Cur_dirSchema_j2(b1:Ag)(b2:Ah)(v3:Int)(e44:ByteArray)(v52:Bool):Option ((Ag×Ah×Int)⊕(Ag×Ah)) :=
  cond v52 (spec_l1Cur_dirSchema_j1 b1 b2 v3 e44 (⟨e44,4,(e44.toList==(ByteArray.mk #[98,111,115,115]).toList)⟩:Ar)) (cond (e44.toList==(ByteArray.mk #[109,97,105,108]).toList) (spec_l1Cur_dirSchema_j1 b1 b2 v3 e44 (⟨e44,2,false⟩:Ar)) (spec_l1Cur_dirSchema_j1 b1 b2 v3 e44 (⟨e44,1,false⟩:Ar)))
noncomputable def spec_l1Cur_dirSchema_l1 : (Ag×Ah×Int)→Option ((Ag×Ah×Int)⊕(Ag×Ah)):=fun s=>match s with
  | (b1,b2,v3)=>cond (decide (v3<(([(ByteArray.mk #[97,103,101]),(ByteArray.mk #[98,111,115,115]),(ByteArray.mk #[99,108,97,115,115]),(ByteArray.mk #[99,110]),(ByteArray.mk #[109,97,105,108]),(ByteArray.mk #[109,101,109,98,101,114]),(ByteArray.mk #[111,117]),(ByteArray.mk #[114,101,102])]:List ByteArray).length:Int))) ((idx ([(ByteArray.mk #[97,103,101]),(ByteArray.mk #[98,111,115,115]),(ByteArray.mk #[99,108,97,115,115]),(ByteArray.mk #[99,110]),(ByteArray.mk #[109,97,105,108]),(ByteArray.mk #[109,101,109,98,101,114]),(ByteArray.mk #[111,117]),(ByteArray.mk #[114,101,102])]:List ByteArray) v3).bind fun e44=>cond (e44.toList==(ByteArray.mk #[99,108,97,115,115]).toList) (spec_l1Cur_dirSchema_j1 b1 b2 v3 e44 (⟨e44,2,false⟩:Ar)) (cond (e44.toList==(ByteArray.mk #[97,103,101]).toList) (spec_l1Cur_dirSchema_j1 b1 b2 v3 e44 (⟨e44,3,true⟩:Ar)) (cond (e44.toList==(ByteArray.mk #[98,111,115,115]).toList) (spec_l1Cur_dirSchema_j2 b1 b2 v3 e44 (e44.toList==(ByteArray.mk #[98,111,115,115]).toList)) (spec_l1Cur_dirSchema_j2 b1 b2 v3 e44 (e44.toList==(ByteArray.mk #[109,101,109,98,101,114]).toList))))) (some (.inr (b1,b2)))
noncomputable def spec_l1Cur_dirSchema(s0:Ag):Option (Ah×Ag) :=
  (loopO (spec_l1Cur_dirSchema_l1) (s0,(⟨([]:List Ar),([]:List Ax)⟩:Ah),0)).bind fun q53=>(match q53 with | (b4,b5)=>(loopO (spec_l1Cur_dirSchema_l2) (b5,0)).bind fun b8=>(match b8 with | b8=>some (b8,b4)))
theorem en_25:En Tryz.prog 25:=.of Tryz.func25 rfl rfl
theorem spec_l1Cur_dirSchema_o (c0 : Bool) {s0 :           Ag} {R0 :          Ah} {U0 :           Ag} (H : spec_l1Cur_dirSchema s0 = some (R0, U0)) : St Tryz.prog 25 [.bx 0 0] [.box (            Ai c0 s0)] (.agg [.hd 1 (R0.Types_.map (          Ae false)).length 0 (R0.Types_.map (          Ae false)).length, .hd 2 (R0.Classes_.map (       Ak false)).length 0 (R0.Classes_.map (       Ak false)).length]) [.box (            Ai c0 U0), .arr .clo 3 (R0.Types_.map (          Ae false)), .arr .clo 4 (R0.Classes_.map (       Ak false))] := by
 refine Ba.finR (Ba.of_TN (n:=122) Tryz.func25 rfl rfl rfl rfl ?_) rfl rfl ⟨(Bt.1 rfl),⟨trivial,⟨trivial,trivial⟩⟩⟩
 refine T.conv Cs.pushDead ?_
 refine T.conv Cs.pushDead ?_
 refine T.conv (Cs.wkF (M:=3) (.k 0 rfl rfl .nil)) ?_
 refine T.conv (Cs.eqS (σ':=[.box (Ai c0 s0),.dead,.dead]) rfl) ?_
 refine au 12 ?_
 refine T.conv (Cs.eqS (σ':=[_,_,_,.box [.nilS,.nilS],.box [.nilS,.nilS]]) rfl) ?_
 refine T.region ?_
 refine TL.st rfl rfl rfl (A8 (rows:=([(ByteArray.mk #[97,103,101]),(ByteArray.mk #[98,111,115,115]),(ByteArray.mk #[99,108,97,115,115]),(ByteArray.mk #[99,110]),(ByteArray.mk #[109,97,105,108]),(ByteArray.mk #[109,101,109,98,101,114]),(ByteArray.mk #[111,117]),(ByteArray.mk #[114,101,102])]:List ByteArray).map (Aw)) rfl rfl Bm ⟨_,rfl,rfl⟩ (by decide) rfl rfl rfl rfl rfl rfl) ?_
 refine TL.st rfl rfl rfl (Bf (f:=Aw) rfl rfl rfl) ?_
 refine au 3 ?_
 refine T.conv (Cs.ownCell (p:=4) 0 3 rfl rfl (by decide)) ?_
 refine T.conv (Cs.ownCell (p:=4) 1 4 rfl rfl (by decide)) ?_
 obtain⟨q53,h54,H⟩:=Ac H
 refine T.lq (fun s=>match s with | (b1,b2,v3)=>[(0,.bx 0 0),(2,.bx 3 0),(3,.bx 4 0),(18,.im false (([(ByteArray.mk #[97,103,101]),(ByteArray.mk #[98,111,115,115]),(ByteArray.mk #[99,108,97,115,115]),(ByteArray.mk #[99,110]),(ByteArray.mk #[109,97,105,108]),(ByteArray.mk #[109,101,109,98,101,114]),(ByteArray.mk #[111,117]),(ByteArray.mk #[114,101,102])]:List ByteArray).map (Aw))),(19,.int .i64 (([(ByteArray.mk #[97,103,101]),(ByteArray.mk #[98,111,115,115]),(ByteArray.mk #[99,108,97,115,115]),(ByteArray.mk #[99,110]),(ByteArray.mk #[109,97,105,108]),(ByteArray.mk #[109,101,109,98,101,114]),(ByteArray.mk #[111,117]),(ByteArray.mk #[114,101,102])]:List ByteArray).length:Int)),(20,.int .i64 v3)]) (fun s=>match s with | (b1,b2,v3)=>[.box (Ai c0 b1),.dead,.dead,.box [.nilS,.nilS],.box (As 5 6 false b2),.arr .clo 3 (b2.Types_.map (Ae false)),.arr .clo 4 (b2.Classes_.map (Ak false))]) (fun q ex fr σ=>match q with | (b4,b5)=>ex = .exit 0∧fr = [(2,.bx 3 0),(3,.bx 4 0)]∧σ = [.box (Ai c0 b4),.dead,.dead,.box [.nilS,.nilS],.box (As 5 6 false b5),.arr .clo 3 (b5.Types_.map (Ae false)),.arr .clo 4 (b5.Classes_.map (Ak false))]) h54 ?_ ?_
 ·rintro ⟨b1, b2, v3⟩ y43 H
  refine au 5 ?_
  refine T.cH H ?_ ?_<;>intro H h
  ·refine au 5 ?_
   obtain⟨e44,h45,H⟩:=Ac H
   refine TL.st rfl rfl rfl (B7 (f:=Aw) rfl rfl Bm rfl rfl h45 rfl) ?_
   refine au 10 ?_
   refine T.cut (fun fr' σ'=>∃ (b46:Ar),fr' = [(0,.bx 0 0),(2,.bx 3 0),(3,.bx 4 0),(5,.str e44),(6,.bx 7 0),(18,.im false (([(ByteArray.mk #[97,103,101]),(ByteArray.mk #[98,111,115,115]),(ByteArray.mk #[99,108,97,115,115]),(ByteArray.mk #[99,110]),(ByteArray.mk #[109,97,105,108]),(ByteArray.mk #[109,101,109,98,101,114]),(ByteArray.mk #[111,117]),(ByteArray.mk #[114,101,102])]:List ByteArray).map (Aw))),(19,.int .i64 (([(ByteArray.mk #[97,103,101]),(ByteArray.mk #[98,111,115,115]),(ByteArray.mk #[99,108,97,115,115]),(ByteArray.mk #[99,110]),(ByteArray.mk #[109,97,105,108]),(ByteArray.mk #[109,101,109,98,101,114]),(ByteArray.mk #[111,117]),(ByteArray.mk #[114,101,102])]:List ByteArray).length:Int)),(20,.int .i64 v3)]∧σ' = [.box (Ai c0 b1),.dead,.dead,.box [.nilS,.nilS],.box (As 5 6 false b2),.arr .clo 3 (b2.Types_.map (Ae false)),.arr .clo 4 (b2.Classes_.map (Ak false)),.box (Ae false b46)]∧spec_l1Cur_dirSchema_j1 b1 b2 v3 e44 b46=some y43) (T.pk ?_) ?_
   ·skip
    refine au 10 ?_
    refine T.cH H ?_ ?_<;>intro H h
    ·refine au 4 ?_
     refine Bh ?_
     exact Pk.of (Af ⟨(⟨e44,2,false⟩:Ar),rfl,rfl,H⟩)
    ·refine au 5 ?_
     refine T.cH H ?_ ?_<;>intro H h
     ·refine au 5 ?_
      refine T.conv (Cs.eqS (σ':=[_,_,_,_,_,_,_,.box [.str e44,.int .i64 3,.bool false]]) rfl) ?_
      refine au 4 ?_
      refine Bh ?_
      exact Pk.of (Af ⟨(⟨e44,3,true⟩:Ar),rfl,rfl,H⟩)
     ·refine T.cut (fun fr' σ'=>∃ (v52:Bool),fr' = [(0,.bx 0 0),(2,.bx 3 0),(3,.bx 4 0),(5,.str e44),(6,.bx 7 0),(18,.im false (([(ByteArray.mk #[97,103,101]),(ByteArray.mk #[98,111,115,115]),(ByteArray.mk #[99,108,97,115,115]),(ByteArray.mk #[99,110]),(ByteArray.mk #[109,97,105,108]),(ByteArray.mk #[109,101,109,98,101,114]),(ByteArray.mk #[111,117]),(ByteArray.mk #[114,101,102])]:List ByteArray).map (Aw))),(19,.int .i64 (([(ByteArray.mk #[97,103,101]),(ByteArray.mk #[98,111,115,115]),(ByteArray.mk #[99,108,97,115,115]),(ByteArray.mk #[99,110]),(ByteArray.mk #[109,97,105,108]),(ByteArray.mk #[109,101,109,98,101,114]),(ByteArray.mk #[111,117]),(ByteArray.mk #[114,101,102])]:List ByteArray).length:Int)),(20,.int .i64 v3),(26,.str e44),(34,.bool v52)]∧σ' = [.box (Ai c0 b1),.dead,.dead,.box [.nilS,.nilS],.box (As 5 6 false b2),.arr .clo 3 (b2.Types_.map (Ae false)),.arr .clo 4 (b2.Classes_.map (Ak false)),.box [.str e44,.int .i64 1,.bool false]]∧spec_l1Cur_dirSchema_j2 b1 b2 v3 e44 v52=some y43) (T.pk ?_) ?_
      ·skip
       refine au 5 ?_
       refine T.cH H ?_ ?_<;>intro H h
       ·refine T.skip ?_
        exact Pk.of (Af ⟨(e44.toList==(ByteArray.mk #[98,111,115,115]).toList),rfl,rfl,H⟩)
       ·refine au 4 ?_
        exact Pk.of (Af ⟨(e44.toList==(ByteArray.mk #[109,101,109,98,101,114]).toList),rfl,rfl,H⟩)
      ·rintro _ _ ⟨v52,rfl,rfl,H⟩
       refine T.cH H ?_ ?_<;>intro H h
       ·refine au 11 ?_
        refine Bh ?_
        exact Pk.of (Af ⟨(⟨e44,4,(e44.toList==(ByteArray.mk #[98,111,115,115]).toList)⟩:Ar),rfl,rfl,H⟩)
       ·refine au 5 ?_
        refine T.cH H ?_ ?_<;>intro H h
        ·refine au 4 ?_
         refine Bh ?_
         exact Pk.of (Af ⟨(⟨e44,2,false⟩:Ar),rfl,rfl,H⟩)
        ·refine T.skip ?_
         refine Bh ?_
         exact Pk.of (Af ⟨(⟨e44,1,false⟩:Ar),rfl,rfl,H⟩)
   ·rintro _ _ ⟨b46,rfl,rfl,H⟩
    refine au 6 ?_
    obtain⟨⟨r47,o48⟩,h49,H⟩:=Ac H
    refine TL.gc rfl rfl rfl (.bool _) rfl rfl (fun h=>Bn [0] rfl en_41 rfl (E5 (gv h rfl) rfl) (spec_l1Cur_one_p c0 (cond_t h h49)) rfl (by decide) (.cons _ _ _ _ rfl .nil) rfl rfl rfl) (fun h=>by cases cond_f h h49;rfl) ?_
    refine au 3 ?_
    refine T.cH H ?_ ?_<;>intro H h
    ·refine au 4 ?_
     refine TL.st rfl rfl rfl (A8 (rows:=([b46]:List Ar).map (Ae false)) rfl rfl D6 ⟨_,rfl,rfl⟩ (by decide) rfl rfl rfl rfl rfl rfl) ?_
     obtain⟨l50,h51,H⟩:=Ac H
     refine TL.st rfl rfl rfl (Ee (f:=Ae false) (xs:=b2.Types_) (ys:=([b46]:List Ar)) rfl rfl tyE_106 rfl rfl rfl rfl (by decide) rfl (fun _=>rfl) h51) ?_
     refine TL.st rfl rfl rfl (Bb rfl rfl rfl Ds (by decide) rfl rfl ⟨_,rfl,Nat.le_of_ble_eq_true rfl⟩) ?_
     refine TL.sn rfl rfl (Cm rfl Ds rfl rfl rfl rfl (nb rfl) (Ci rfl rfl rfl)) ?_
     refine TL.nil ?_
     refine T.conv (Cs.eqS (σ':=[.box (Ai c0 o48),_,_,_,.box (As 5 6 false (⟨l50,b2.Classes_⟩:Ah)),.arr .clo 3 (l50.map (Ae false)),_,_]) rfl) ?_
     refine au 4 ?_
     exact Pk.of (Af ⟨(o48,(⟨l50,b2.Classes_⟩:Ah),(IntKind.i64.wrap (v3+1))),(Ad H).symm,rfl,rfl⟩)
    ·refine au 5 ?_
     exact Pk.of (Af ⟨(o48,b2,(IntKind.i64.wrap (v3+1))),(Ad H).symm,rfl,rfl⟩)
  ·refine T.exit ?_
   refine Am ?_
   exact Pk.of (Am ⟨(b1,b2),(Ad H).symm,rfl,rfl,rfl⟩)
 ·rcases q53 with ⟨b4, b5⟩
  rintro _ _ _ ⟨rfl,rfl,rfl⟩
  refine A6 ?_
  refine au 3 ?_
  refine TL.st rfl rfl rfl (A8 (rows:=([(ByteArray.mk #[109,101,109,98,101,114])]:List ByteArray).map (Aw)) rfl rfl Bm ⟨_,rfl,rfl⟩ (by decide) rfl rfl rfl rfl rfl rfl) ?_
  refine TL.st rfl rfl rfl (B1.wk (Es rfl ⟨_,fun _=>rfl,rfl⟩ rfl rfl rfl) (.aggL (.cons _ _ _ _ (.same _) (.cons _ _ _ _ (.same _) (.cons _ _ _ _ .nil (.cons _ _ _ _ (.same _) .nil)))))) ?_
  refine TL.st rfl rfl rfl (A8 (rows:=([(ByteArray.mk #[99,110])]:List ByteArray).map (Aw)) rfl rfl Bm ⟨_,rfl,rfl⟩ (by decide) rfl rfl rfl rfl rfl rfl) ?_
  refine TL.st rfl rfl rfl (A8 (rows:=([(ByteArray.mk #[97,103,101]),(ByteArray.mk #[98,111,115,115]),(ByteArray.mk #[109,97,105,108])]:List ByteArray).map (Aw)) rfl rfl Bm ⟨_,rfl,rfl⟩ (by decide) rfl rfl rfl rfl rfl rfl) ?_
  refine TL.st rfl rfl rfl (Es rfl ⟨_,fun _=>rfl,rfl⟩ rfl rfl rfl) ?_
  refine TL.st rfl rfl rfl (A8 (rows:=([(ByteArray.mk #[97,103,101])]:List ByteArray).map (Aw)) rfl rfl Bm ⟨_,rfl,rfl⟩ (by decide) rfl rfl rfl rfl rfl rfl) ?_
  refine TL.st rfl rfl rfl (B1.wk (Es rfl ⟨_,fun _=>rfl,rfl⟩ rfl rfl rfl) (.aggL (.cons _ _ _ _ (.same _) (.cons _ _ _ _ (.same _) (.cons _ _ _ _ (.same _) (.cons _ _ _ _ .nil .nil)))))) ?_
  refine TL.st rfl rfl rfl (A8 (rows:=([(ByteArray.mk #[111,117]),(ByteArray.mk #[114,101,102])]:List ByteArray).map (Aw)) rfl rfl Bm ⟨_,rfl,rfl⟩ (by decide) rfl rfl rfl rfl rfl rfl) ?_
  refine TL.st rfl rfl rfl (B1.wk (Es rfl ⟨_,fun _=>rfl,rfl⟩ rfl rfl rfl) (.aggL (.cons _ _ _ _ (.same _) (.cons _ _ _ _ (.same _) (.cons _ _ _ _ .nil (.cons _ _ _ _ (.same _) .nil)))))) ?_
  refine TL.st rfl rfl rfl (A8 (rows:=([(⟨(ByteArray.mk #[71,114,111,117,112]),(ByteArray.mk #[84,111,112]),([]:List ByteArray),([(ByteArray.mk #[109,101,109,98,101,114])]:List ByteArray)⟩:Ax),(⟨(ByteArray.mk #[80,101,114,115,111,110]),(ByteArray.mk #[84,111,112]),([(ByteArray.mk #[99,110])]:List ByteArray),([(ByteArray.mk #[97,103,101]),(ByteArray.mk #[98,111,115,115]),(ByteArray.mk #[109,97,105,108])]:List ByteArray)⟩:Ax),(⟨(ByteArray.mk #[83,116,97,102,102]),(ByteArray.mk #[80,101,114,115,111,110]),([(ByteArray.mk #[97,103,101])]:List ByteArray),([]:List ByteArray)⟩:Ax),(⟨(ByteArray.mk #[84,111,112]),e0,([]:List ByteArray),([(ByteArray.mk #[111,117]),(ByteArray.mk #[114,101,102])]:List ByteArray)⟩:Ax)]:List Ax).map (Ak false)) rfl rfl Dw ⟨_,rfl,rfl⟩ (by decide) rfl rfl rfl rfl rfl rfl) ?_
  refine TL.st rfl rfl rfl (Bf (f:=Ak false) rfl rfl rfl) ?_
  refine au 3 ?_
  obtain⟨b8,h42,H⟩:=Ac H
  refine T.lq (fun s=>match s with | (b6,v7)=>[(2,.bx 3 0),(3,.bx 4 0),(67,.im false (([(⟨(ByteArray.mk #[71,114,111,117,112]),(ByteArray.mk #[84,111,112]),([]:List ByteArray),([(ByteArray.mk #[109,101,109,98,101,114])]:List ByteArray)⟩:Ax),(⟨(ByteArray.mk #[80,101,114,115,111,110]),(ByteArray.mk #[84,111,112]),([(ByteArray.mk #[99,110])]:List ByteArray),([(ByteArray.mk #[97,103,101]),(ByteArray.mk #[98,111,115,115]),(ByteArray.mk #[109,97,105,108])]:List ByteArray)⟩:Ax),(⟨(ByteArray.mk #[83,116,97,102,102]),(ByteArray.mk #[80,101,114,115,111,110]),([(ByteArray.mk #[97,103,101])]:List ByteArray),([]:List ByteArray)⟩:Ax),(⟨(ByteArray.mk #[84,111,112]),e0,([]:List ByteArray),([(ByteArray.mk #[111,117]),(ByteArray.mk #[114,101,102])]:List ByteArray)⟩:Ax)]:List Ax).map (Ak false))),(68,.int .i64 (([(⟨(ByteArray.mk #[71,114,111,117,112]),(ByteArray.mk #[84,111,112]),([]:List ByteArray),([(ByteArray.mk #[109,101,109,98,101,114])]:List ByteArray)⟩:Ax),(⟨(ByteArray.mk #[80,101,114,115,111,110]),(ByteArray.mk #[84,111,112]),([(ByteArray.mk #[99,110])]:List ByteArray),([(ByteArray.mk #[97,103,101]),(ByteArray.mk #[98,111,115,115]),(ByteArray.mk #[109,97,105,108])]:List ByteArray)⟩:Ax),(⟨(ByteArray.mk #[83,116,97,102,102]),(ByteArray.mk #[80,101,114,115,111,110]),([(ByteArray.mk #[97,103,101])]:List ByteArray),([]:List ByteArray)⟩:Ax),(⟨(ByteArray.mk #[84,111,112]),e0,([]:List ByteArray),([(ByteArray.mk #[111,117]),(ByteArray.mk #[114,101,102])]:List ByteArray)⟩:Ax)]:List Ax).length:Int)),(69,.int .i64 v7)]) (fun s=>match s with | (b6,v7)=>[.box (Ai c0 b4),.dead,.dead,.box [.nilS,.nilS],.box (As 5 6 false b6),.arr .clo 3 (b6.Types_.map (Ae false)),.arr .clo 4 (b6.Classes_.map (Ak false))]) (fun q ex fr σ=>match q with | b8=>ex = .exit 3∧fr = [(2,.bx 3 0),(3,.bx 4 0)]∧σ = [.box (Ai c0 b4),.dead,.dead,.box [.nilS,.nilS],.box (As 5 6 false b8),.arr .clo 3 (b8.Types_.map (Ae false)),.arr .clo 4 (b8.Classes_.map (Ak false))]) h42 ?_ ?_
  ·rintro⟨b6,v7⟩ y9 H
   refine au 5 ?_
   refine T.cH H ?_ ?_<;>intro H h
   ·refine au 5 ?_
    obtain⟨e10,h11,H⟩:=Ac H
    refine TL.st rfl rfl rfl (B7 (f:=Ak false) rfl rfl Dw rfl rfl h11 rfl) ?_
    refine au 15 ?_
    refine TL.st rfl rfl rfl (A8 (rows:=([e10.Must_,e10.May_]:List (List ByteArray)).map (Et (Aw))) rfl rfl E0 ⟨_,rfl,rfl⟩ (by decide) rfl rfl rfl rfl rfl rfl) ?_
    refine TL.st rfl rfl rfl (Bf (f:=Et (Aw)) rfl rfl rfl) ?_
    refine au 3 ?_
    refine T.conv (Cs.own (t:=9) 1 rfl (by decide)) ?_
    obtain⟨l14,h40,H⟩:=Ac H
    refine T.lq (fun s=>match s with | (l12,v13)=>[(2,.bx 3 0),(3,.bx 4 0),(8,.bx 7 0),(9,.hd 8 (l12.map (Et (Aw))).length 0 (l12.map (Et (Aw))).length),(67,.im false (([(⟨(ByteArray.mk #[71,114,111,117,112]),(ByteArray.mk #[84,111,112]),([]:List ByteArray),([(ByteArray.mk #[109,101,109,98,101,114])]:List ByteArray)⟩:Ax),(⟨(ByteArray.mk #[80,101,114,115,111,110]),(ByteArray.mk #[84,111,112]),([(ByteArray.mk #[99,110])]:List ByteArray),([(ByteArray.mk #[97,103,101]),(ByteArray.mk #[98,111,115,115]),(ByteArray.mk #[109,97,105,108])]:List ByteArray)⟩:Ax),(⟨(ByteArray.mk #[83,116,97,102,102]),(ByteArray.mk #[80,101,114,115,111,110]),([(ByteArray.mk #[97,103,101])]:List ByteArray),([]:List ByteArray)⟩:Ax),(⟨(ByteArray.mk #[84,111,112]),e0,([]:List ByteArray),([(ByteArray.mk #[111,117]),(ByteArray.mk #[114,101,102])]:List ByteArray)⟩:Ax)]:List Ax).map (Ak false))),(68,.int .i64 (([(⟨(ByteArray.mk #[71,114,111,117,112]),(ByteArray.mk #[84,111,112]),([]:List ByteArray),([(ByteArray.mk #[109,101,109,98,101,114])]:List ByteArray)⟩:Ax),(⟨(ByteArray.mk #[80,101,114,115,111,110]),(ByteArray.mk #[84,111,112]),([(ByteArray.mk #[99,110])]:List ByteArray),([(ByteArray.mk #[97,103,101]),(ByteArray.mk #[98,111,115,115]),(ByteArray.mk #[109,97,105,108])]:List ByteArray)⟩:Ax),(⟨(ByteArray.mk #[83,116,97,102,102]),(ByteArray.mk #[80,101,114,115,111,110]),([(ByteArray.mk #[97,103,101])]:List ByteArray),([]:List ByteArray)⟩:Ax),(⟨(ByteArray.mk #[84,111,112]),e0,([]:List ByteArray),([(ByteArray.mk #[111,117]),(ByteArray.mk #[114,101,102])]:List ByteArray)⟩:Ax)]:List Ax).length:Int)),(69,.int .i64 v7),(77,.im false (([e10.Must_,e10.May_]:List (List ByteArray)).map (Et (Aw)))),(78,.int .i64 (([e10.Must_,e10.May_]:List (List ByteArray)).length:Int)),(79,.int .i64 v13)]) (fun s=>match s with | (l12,v13)=>[.box (Ai c0 b4),.dead,.dead,.box [.nilS,.nilS],.box (As 5 6 false b6),.arr .clo 3 (b6.Types_.map (Ae false)),.arr .clo 4 (b6.Classes_.map (Ak false)),.box (Ak false e10),.arr .clo 1 (l12.map (Et (Aw)))]) (fun q ex fr σ=>match q with | l14=>ex = .exit 5∧fr = [(2,.bx 3 0),(3,.bx 4 0),(8,.bx 7 0),(9,.hd 8 (l14.map (Et (Aw))).length 0 (l14.map (Et (Aw))).length),(67,.im false (([(⟨(ByteArray.mk #[71,114,111,117,112]),(ByteArray.mk #[84,111,112]),([]:List ByteArray),([(ByteArray.mk #[109,101,109,98,101,114])]:List ByteArray)⟩:Ax),(⟨(ByteArray.mk #[80,101,114,115,111,110]),(ByteArray.mk #[84,111,112]),([(ByteArray.mk #[99,110])]:List ByteArray),([(ByteArray.mk #[97,103,101]),(ByteArray.mk #[98,111,115,115]),(ByteArray.mk #[109,97,105,108])]:List ByteArray)⟩:Ax),(⟨(ByteArray.mk #[83,116,97,102,102]),(ByteArray.mk #[80,101,114,115,111,110]),([(ByteArray.mk #[97,103,101])]:List ByteArray),([]:List ByteArray)⟩:Ax),(⟨(ByteArray.mk #[84,111,112]),e0,([]:List ByteArray),([(ByteArray.mk #[111,117]),(ByteArray.mk #[114,101,102])]:List ByteArray)⟩:Ax)]:List Ax).map (Ak false))),(68,.int .i64 (([(⟨(ByteArray.mk #[71,114,111,117,112]),(ByteArray.mk #[84,111,112]),([]:List ByteArray),([(ByteArray.mk #[109,101,109,98,101,114])]:List ByteArray)⟩:Ax),(⟨(ByteArray.mk #[80,101,114,115,111,110]),(ByteArray.mk #[84,111,112]),([(ByteArray.mk #[99,110])]:List ByteArray),([(ByteArray.mk #[97,103,101]),(ByteArray.mk #[98,111,115,115]),(ByteArray.mk #[109,97,105,108])]:List ByteArray)⟩:Ax),(⟨(ByteArray.mk #[83,116,97,102,102]),(ByteArray.mk #[80,101,114,115,111,110]),([(ByteArray.mk #[97,103,101])]:List ByteArray),([]:List ByteArray)⟩:Ax),(⟨(ByteArray.mk #[84,111,112]),e0,([]:List ByteArray),([(ByteArray.mk #[111,117]),(ByteArray.mk #[114,101,102])]:List ByteArray)⟩:Ax)]:List Ax).length:Int)),(69,.int .i64 v7)]∧σ = [.box (Ai c0 b4),.dead,.dead,.box [.nilS,.nilS],.box (As 5 6 false b6),.arr .clo 3 (b6.Types_.map (Ae false)),.arr .clo 4 (b6.Classes_.map (Ak false)),.box (Ak false e10),.arr .clo 1 (l14.map (Et (Aw)))]) h40 ?_ ?_
    ·rintro⟨l12,v13⟩ y21 H
     refine au 5 ?_
     refine T.cH H ?_ ?_<;>intro H h
     ·refine au 5 ?_
      obtain⟨e22,h23,H⟩:=Ac H
      refine TL.st rfl rfl rfl (B7 (f:=Et (Aw)) rfl rfl E0 rfl rfl h23 rfl) ?_
      refine au 11 ?_
      refine TL.st rfl rfl rfl (Bf (f:=Aw) rfl rfl rfl) ?_
      refine au 3 ?_
      refine T.conv (Cs.own (t:=12) 1 rfl (by decide)) ?_
      obtain⟨l26,h38,H⟩:=Ac H
      refine T.lq (fun s=>match s with | (l24,v25)=>[(2,.bx 3 0),(3,.bx 4 0),(8,.bx 7 0),(9,.hd 8 (l12.map (Et (Aw))).length 0 (l12.map (Et (Aw))).length),(12,.hd 9 (l24.map (Aw)).length 0 (l24.map (Aw)).length),(67,.im false (([(⟨(ByteArray.mk #[71,114,111,117,112]),(ByteArray.mk #[84,111,112]),([]:List ByteArray),([(ByteArray.mk #[109,101,109,98,101,114])]:List ByteArray)⟩:Ax),(⟨(ByteArray.mk #[80,101,114,115,111,110]),(ByteArray.mk #[84,111,112]),([(ByteArray.mk #[99,110])]:List ByteArray),([(ByteArray.mk #[97,103,101]),(ByteArray.mk #[98,111,115,115]),(ByteArray.mk #[109,97,105,108])]:List ByteArray)⟩:Ax),(⟨(ByteArray.mk #[83,116,97,102,102]),(ByteArray.mk #[80,101,114,115,111,110]),([(ByteArray.mk #[97,103,101])]:List ByteArray),([]:List ByteArray)⟩:Ax),(⟨(ByteArray.mk #[84,111,112]),e0,([]:List ByteArray),([(ByteArray.mk #[111,117]),(ByteArray.mk #[114,101,102])]:List ByteArray)⟩:Ax)]:List Ax).map (Ak false))),(68,.int .i64 (([(⟨(ByteArray.mk #[71,114,111,117,112]),(ByteArray.mk #[84,111,112]),([]:List ByteArray),([(ByteArray.mk #[109,101,109,98,101,114])]:List ByteArray)⟩:Ax),(⟨(ByteArray.mk #[80,101,114,115,111,110]),(ByteArray.mk #[84,111,112]),([(ByteArray.mk #[99,110])]:List ByteArray),([(ByteArray.mk #[97,103,101]),(ByteArray.mk #[98,111,115,115]),(ByteArray.mk #[109,97,105,108])]:List ByteArray)⟩:Ax),(⟨(ByteArray.mk #[83,116,97,102,102]),(ByteArray.mk #[80,101,114,115,111,110]),([(ByteArray.mk #[97,103,101])]:List ByteArray),([]:List ByteArray)⟩:Ax),(⟨(ByteArray.mk #[84,111,112]),e0,([]:List ByteArray),([(ByteArray.mk #[111,117]),(ByteArray.mk #[114,101,102])]:List ByteArray)⟩:Ax)]:List Ax).length:Int)),(69,.int .i64 v7),(77,.im false (([e10.Must_,e10.May_]:List (List ByteArray)).map (Et (Aw)))),(78,.int .i64 (([e10.Must_,e10.May_]:List (List ByteArray)).length:Int)),(79,.int .i64 v13),(83,.im false (e22.map (Aw))),(84,.int .i64 (e22.length:Int)),(85,.int .i64 v25)]) (fun s=>match s with | (l24,v25)=>[.box (Ai c0 b4),.dead,.dead,.box [.nilS,.nilS],.box (As 5 6 false b6),.arr .clo 3 (b6.Types_.map (Ae false)),.arr .clo 4 (b6.Classes_.map (Ak false)),.box (Ak false e10),.arr .clo 1 (l12.map (Et (Aw))),.arr .clo 1 (l24.map (Aw))]) (fun q ex fr σ=>match q with | l26=>ex = .exit 7∧fr = [(2,.bx 3 0),(3,.bx 4 0),(8,.bx 7 0),(9,.hd 8 (l12.map (Et (Aw))).length 0 (l12.map (Et (Aw))).length),(12,.hd 9 (l26.map (Aw)).length 0 (l26.map (Aw)).length),(67,.im false (([(⟨(ByteArray.mk #[71,114,111,117,112]),(ByteArray.mk #[84,111,112]),([]:List ByteArray),([(ByteArray.mk #[109,101,109,98,101,114])]:List ByteArray)⟩:Ax),(⟨(ByteArray.mk #[80,101,114,115,111,110]),(ByteArray.mk #[84,111,112]),([(ByteArray.mk #[99,110])]:List ByteArray),([(ByteArray.mk #[97,103,101]),(ByteArray.mk #[98,111,115,115]),(ByteArray.mk #[109,97,105,108])]:List ByteArray)⟩:Ax),(⟨(ByteArray.mk #[83,116,97,102,102]),(ByteArray.mk #[80,101,114,115,111,110]),([(ByteArray.mk #[97,103,101])]:List ByteArray),([]:List ByteArray)⟩:Ax),(⟨(ByteArray.mk #[84,111,112]),e0,([]:List ByteArray),([(ByteArray.mk #[111,117]),(ByteArray.mk #[114,101,102])]:List ByteArray)⟩:Ax)]:List Ax).map (Ak false))),(68,.int .i64 (([(⟨(ByteArray.mk #[71,114,111,117,112]),(ByteArray.mk #[84,111,112]),([]:List ByteArray),([(ByteArray.mk #[109,101,109,98,101,114])]:List ByteArray)⟩:Ax),(⟨(ByteArray.mk #[80,101,114,115,111,110]),(ByteArray.mk #[84,111,112]),([(ByteArray.mk #[99,110])]:List ByteArray),([(ByteArray.mk #[97,103,101]),(ByteArray.mk #[98,111,115,115]),(ByteArray.mk #[109,97,105,108])]:List ByteArray)⟩:Ax),(⟨(ByteArray.mk #[83,116,97,102,102]),(ByteArray.mk #[80,101,114,115,111,110]),([(ByteArray.mk #[97,103,101])]:List ByteArray),([]:List ByteArray)⟩:Ax),(⟨(ByteArray.mk #[84,111,112]),e0,([]:List ByteArray),([(ByteArray.mk #[111,117]),(ByteArray.mk #[114,101,102])]:List ByteArray)⟩:Ax)]:List Ax).length:Int)),(69,.int .i64 v7),(77,.im false (([e10.Must_,e10.May_]:List (List ByteArray)).map (Et (Aw)))),(78,.int .i64 (([e10.Must_,e10.May_]:List (List ByteArray)).length:Int)),(79,.int .i64 v13)]∧σ = [.box (Ai c0 b4),.dead,.dead,.box [.nilS,.nilS],.box (As 5 6 false b6),.arr .clo 3 (b6.Types_.map (Ae false)),.arr .clo 4 (b6.Classes_.map (Ak false)),.box (Ak false e10),.arr .clo 1 (l12.map (Et (Aw))),.arr .clo 1 (l26.map (Aw))]) h38 ?_ ?_
      ·rintro⟨l24,v25⟩ y29 H
       refine au 5 ?_
       refine T.cH H ?_ ?_<;>intro H h
       ·refine au 5 ?_
        obtain⟨e30,h31,H⟩:=Ac H
        refine TL.st rfl rfl rfl (B7 (f:=Aw) rfl rfl Bm rfl rfl h31 rfl) ?_
        refine au 7 ?_
        obtain⟨⟨r32,r33⟩,h34,H⟩:=Ac H
        refine TL.st rfl rfl rfl (Aq rfl en_65 rfl rfl (.cons _ _ _ _ (Lent.aggL (.cons _ _ _ _ (.own rfl (by decide) rfl) (.cons _ _ _ _ (.own rfl (by decide) rfl) .nil))) (.cons _ _ _ _ (.cl _ rfl) .nil)) (spec_l3Type_p true h34)) ?_
        refine au 11 ?_
        refine T.cH H ?_ ?_<;>intro H h
        ·refine au 3 ?_
         refine TL.st rfl rfl rfl (A8 (rows:=([e30]:List ByteArray).map (Aw)) rfl rfl Bm ⟨_,rfl,rfl⟩ (by decide) rfl rfl rfl rfl rfl rfl) ?_
         obtain⟨l35,h36,H⟩:=Ac H
         refine TL.st rfl rfl rfl (Ee (f:=Aw) (xs:=l24) (ys:=([e30]:List ByteArray)) rfl rfl tyE_9 rfl rfl rfl rfl (by decide) rfl (fun _=>rfl) h36) ?_
         refine au 2 ?_
         refine T.conv (Cs.eqS (σ':=[_,_,_,_,_,_,_,_,_,.arr .clo 1 (l35.map (Aw)),.box (Ae false r32)]) rfl) ?_
         refine au 4 ?_
         exact Pk.of (Af ⟨(l35,(IntKind.i64.wrap (v25+1))),(Ad H).symm,rfl,rfl⟩)
        ·refine au 5 ?_
         exact Pk.of (Af ⟨(l24,(IntKind.i64.wrap (v25+1))),(Ad H).symm,rfl,rfl⟩)
       ·refine T.exit ?_
        refine Am ?_
        exact Pk.of (Am ⟨l24,(Ad H).symm,rfl,rfl,rfl⟩)
      ·rintro _ _ _ ⟨rfl,rfl,rfl⟩
       refine A6 ?_
       refine au 3 ?_
       refine TL.conv (Cs.frzOwn (t:=102) rfl rfl rfl) ?_
       refine TL.st rfl rfl rfl (A8 (rows:=([l26]:List (List ByteArray)).map (Et (Aw))) rfl rfl E0 ⟨_,rfl,rfl⟩ (by decide) rfl rfl rfl rfl rfl rfl) ?_
       obtain⟨l27,h28,H⟩:=Ac H
       refine TL.st rfl rfl rfl (Ee (f:=Et (Aw)) (xs:=l12) (ys:=([l26]:List (List ByteArray))) rfl rfl tyE_43 rfl rfl rfl rfl (by decide) rfl (fun _=>rfl) h28) ?_
       refine au 6 ?_
       exact Pk.of (Af ⟨(l27,(IntKind.i64.wrap (v13+1))),(Ad H).symm,rfl,rfl⟩)
     ·refine T.exit ?_
      refine Am ?_
      exact Pk.of (Am ⟨l12,(Ad H).symm,rfl,rfl,rfl⟩)
    ·rintro _ _ _ ⟨rfl,rfl,rfl⟩
     refine A6 ?_
     refine au 3 ?_
     obtain⟨e15,h16,H⟩:=Ac H
     refine TL.st rfl rfl rfl (C2 (f:=Et (Aw)) rfl rfl E0 rfl rfl rfl rfl h16 rfl) ?_
     refine TL.st rfl rfl rfl (Cx rfl E0 rfl rfl rfl (by rw[List.getElem?_map,(Ej h16).2];rfl) (nb rfl) rfl) ?_
     refine au 6 ?_
     obtain⟨e17,h18,H⟩:=Ac H
     refine TL.st rfl rfl rfl (C2 (f:=Et (Aw)) rfl rfl E0 rfl rfl rfl rfl h18 rfl) ?_
     refine TL.st rfl rfl rfl (Cx rfl E0 rfl rfl rfl (by rw[List.getElem?_map,(Ej h18).2];rfl) (nb rfl) rfl) ?_
     refine au 7 ?_
     refine TL.st rfl rfl rfl (A8 (rows:=([(⟨e10.Name_,e10.Up_,e15,e17⟩:Ax)]:List Ax).map (Ak false)) rfl rfl Dw ⟨_,rfl,rfl⟩ (by decide) rfl rfl rfl rfl rfl rfl) ?_
     obtain⟨l19,h20,H⟩:=Ac H
     refine TL.st rfl rfl rfl (Ee (f:=Ak false) (xs:=b6.Classes_) (ys:=([(⟨e10.Name_,e10.Up_,e15,e17⟩:Ax)]:List Ax)) rfl rfl tyE_108 rfl rfl rfl rfl (by decide) rfl (fun _=>rfl) h20) ?_
     refine TL.st rfl rfl rfl (Bb rfl rfl rfl Dr (by decide) rfl rfl ⟨_,rfl,Nat.le_of_ble_eq_true rfl⟩) ?_
     refine TL.sn rfl rfl (Cm rfl Dr rfl rfl rfl rfl (nb rfl) (Ci rfl rfl rfl)) ?_
     refine TL.nil ?_
     refine T.conv (Cs.eqS (σ':=[_,_,_,_,.box (As 5 6 false (⟨b6.Types_,l19⟩:Ah)),_,.arr .clo 4 (l19.map (Ak false)),.box [.str e10.Name_,.str e10.Up_,.im false (e15.map (Aw)),.im false (e17.map (Aw))],_]) rfl) ?_
     refine au 4 ?_
     exact Pk.of (Af ⟨((⟨b6.Types_,l19⟩:Ah),(IntKind.i64.wrap (v7+1))),(Ad H).symm,rfl,rfl⟩)
   ·refine T.exit ?_
    refine Am ?_
    exact Pk.of (Am ⟨b6,(Ad H).symm,rfl,rfl,rfl⟩)
  ·rintro _ _ _ ⟨rfl,rfl,rfl⟩
   refine A6 ?_
   refine au 3 ?_
   refine TL.sn rfl rfl (Cm rfl Dy rfl rfl rfl rfl (nb rfl) (Ci rfl rfl (Ci rfl rfl rfl))) ?_
   refine TL.nil ?_
   refine T.conv (Cs.wkF (M:=7) (.k 2 rfl rfl .nil)) ?_
   refine T.conv (Cs.reloc 1 5 rfl rfl (by decide) rfl rfl rfl (Bv rfl)) ?_
   refine T.conv (Cs.wkF (M:=7) (.k 2 rfl rfl .nil)) ?_
   refine T.conv (Cs.eqS (σ':=[_,.arr .clo 3 (b8.Types_.map (Ae false)),_,.box (As 1 6 false b8),.box (As 1 6 false b8),.dead,_]) rfl) ?_
   refine T.conv (Cs.reloc 2 6 rfl rfl (by decide) rfl rfl rfl (Bv rfl)) ?_
   refine T.conv (Cs.wkF (M:=7) (.k 2 rfl rfl .nil)) ?_
   refine T.conv (Cs.eqS (σ':=[_,_,.arr .clo 4 (b8.Classes_.map (Ak false)),.box (As 1 2 false b8),.box (As 1 2 false b8),_,.dead]) rfl) ?_
   refine T.ret ?_
   cases Ad H
   exact⟨trivial,_,(.cell _ _ _ _ _ _ _ _ _ _ rfl rfl Dy (nb rfl) rfl .nil),⟨rfl,_,rfl⟩⟩
noncomputable def Bw(a0:(List ByteArray))(s0:Ag):Option (ByteArray×Ag) :=
  (Br (a0.length:Int) s0).bind fun q=>(match q with | (r1,o2)=>(idx a0 r1).bind fun e4=>some (e4,o2))
theorem spec_l1Cur_of_p(b0:Bool)(c0:Bool){a0:(List ByteArray)}{s0:Ag}{R0:ByteArray}{U0:Ag}(H:Bw a0 s0=some (R0,U0)):St Tryz.prog 43 [.bx 0 0,.im b0 (a0.map (Aw))] [.box (Ai c0 s0)] (.str R0) [.box (Ai c0 U0)]:=by
 refine Ba.fin (Ba.of_TN (n:=12) Tryz.func43 rfl rfl rfl rfl ?_) rfl rfl ⟨(Bt.1 rfl),trivial⟩
 refine au 9 ?_
 refine TL.st rfl rfl rfl (Bf (f:=Aw) rfl rfl rfl) ?_
 obtain⟨⟨r1,o2⟩,h3,H⟩:=Ac H
 refine TL.st rfl rfl rfl (Bn [0] rfl Ey rfl rfl (spec_l1Cur_pick_p c0 h3) rfl (by decide) (.cons _ _ _ _ rfl .nil) rfl rfl rfl) ?_
 obtain⟨e4,h5,H⟩:=Ac H
 refine TL.st rfl rfl rfl (B7 (f:=Aw) rfl rfl Bm rfl rfl h5 rfl) ?_
 refine au 4 ?_
 cases Ad H
 exact⟨trivial,_,(.tmp _ _ _ _ rfl .nil),⟨rfl,_,rfl⟩⟩
theorem en_43:En Tryz.prog 43:=.of Tryz.func43 rfl rfl
noncomputable def spec_l1Cur_oddDirSchemax(a0:Ah)(s0:Ag):Option (Ah×Ag) :=
  (Br 20 s0).bind fun q=>(match q with | (r1,o2)=>cond (r1==0) ((Br (a0.Types_.length:Int) o2).bind fun q=>(match q with | (r4,o5)=>(Br 3 o5).bind fun q=>(match q with | (r7,o8)=>(idx ([0,5,2]:List Int) r7).bind fun e10=>(idx a0.Types_ r4).bind fun e12=>some ((⟨(a0.Types_.set (Int.toNat r4) (⟨e12.Name_,e10,e12.Single_⟩:Ar)),a0.Classes_⟩:Ah),o8)))) (cond (r1==1) ((Br (a0.Types_.length:Int) o2).bind fun q=>(match q with | (r14,o15)=>(Bw ([(ByteArray.mk #[122,122]),e0,(ByteArray.mk #[97,103,101])]:List ByteArray) o15).bind fun q=>(match q with | (r17,o18)=>(idx a0.Types_ r14).bind fun e20=>some ((⟨(a0.Types_.set (Int.toNat r14) (⟨r17,e20.Syntax_,e20.Single_⟩:Ar)),a0.Classes_⟩:Ah),o18)))) (cond (r1==2) ((Br (a0.Classes_.length:Int) o2).bind fun q=>(match q with | (r22,o23)=>(Bw ([e0,(ByteArray.mk #[83,116,97,102,102]),(ByteArray.mk #[71,114,111,117,112]),(ByteArray.mk #[78,111,110,101]),(ByteArray.mk #[84,111,112])]:List ByteArray) o23).bind fun q=>(match q with | (r25,o26)=>(idx a0.Classes_ r22).bind fun e28=>some ((⟨a0.Types_,(a0.Classes_.set (Int.toNat r22) ({ e28 with Up_:=r25 }:Ax))⟩:Ah),o26)))) (cond (r1==3) ((Br (a0.Classes_.length:Int) o2).bind fun q=>(match q with | (r30,o31)=>(Bw ([(ByteArray.mk #[110,111,115,117,99,104]),(ByteArray.mk #[99,108,97,115,115]),(ByteArray.mk #[99,110])]:List ByteArray) o31).bind fun q=>(match q with | (r33,o34)=>(idx a0.Classes_ r30).bind fun e36=>some ((⟨a0.Types_,(a0.Classes_.set (Int.toNat r30) ({ e36 with Must_:=([r33]:List ByteArray) }:Ax))⟩:Ah),o34)))) (cond (r1==4) ((idx a0.Types_ 0).bind fun e38=>some ((⟨(a0.Types_.set (Int.toNat 0) (⟨e38.Name_,e38.Syntax_,true⟩:Ar)),a0.Classes_⟩:Ah),o2)) (some (a0,o2)))))))
theorem spec_l1Cur_oddDirSchemax_o (c0 : Bool) {a0 :          Ah} {s0 :           Ag} {R0 :          Ah} {U0 :           Ag} (H : spec_l1Cur_oddDirSchemax a0 s0 = some (R0, U0)) : St Tryz.prog 24 [.bx 0 0, .agg [.hd 1 (a0.Types_.map (          Ae false)).length 0 (a0.Types_.map (          Ae false)).length, .hd 2 (a0.Classes_.map (       Ak false)).length 0 (a0.Classes_.map (       Ak false)).length]] [.box (            Ai c0 s0), .arr .clo 3 (a0.Types_.map (          Ae false)), .arr .clo 4 (a0.Classes_.map (       Ak false))] (.agg [.hd 5 (R0.Types_.map (          Ae false)).length 0 (R0.Types_.map (          Ae false)).length, .hd 6 (R0.Classes_.map (       Ak false)).length 0 (R0.Classes_.map (       Ak false)).length]) [.box (            Ai c0 U0), .dead, .dead, .dead, .dead, .arr .clo 3 (R0.Types_.map (          Ae false)), .arr .clo 4 (R0.Classes_.map (       Ak false))] := by
 refine Ba.finR (Ba.of_TN (n:=73) Tryz.func24 rfl rfl rfl rfl ?_) rfl rfl ⟨(Bt.1 rfl),⟨trivial,⟨trivial,⟨trivial,⟨trivial,⟨trivial,⟨trivial,trivial⟩⟩⟩⟩⟩⟩⟩
 refine T.conv (Cs.fresh 1 rfl rfl (by decide) rfl (nomS_all rfl rfl)) ?_
 refine T.conv (Cs.fresh 2 rfl rfl (by decide) rfl (nomS_all rfl rfl)) ?_
 refine T.conv Cs.pushDead ?_
 refine T.conv Cs.pushDead ?_
 refine T.conv (Cs.wkF (M:=7) (.k 0 rfl rfl (.k 1 rfl rfl .nil))) ?_
 refine T.conv (Cs.eqS (σ':=[.box (Ai c0 s0),.dead,.dead,.arr .clo 3 (a0.Types_.map (Ae false)),.arr .clo 4 (a0.Classes_.map (Ak false)),.dead,.dead]) rfl) ?_
 refine au 2 ?_
 refine TL.st rfl rfl rfl (o_box rfl rfl (Ci rfl rfl (Ci rfl rfl rfl))) ?_
 refine au 6 ?_
 obtain⟨⟨r1,o2⟩,h3,H⟩:=Ac H
 refine TL.st rfl rfl rfl (Bn [0] rfl Ey rfl rfl (spec_l1Cur_pick_p c0 h3) rfl (by decide) (.cons _ _ _ _ rfl .nil) rfl rfl rfl) ?_
 refine TL.nil ?_
 refine T.conv (Cs.eqS (σ':=[.box (Ai c0 o2),_,_,_,_,_,_,.box (As 3 4 false a0),.box [.nilS,.nilS]]) rfl) ?_
 refine au 6 ?_
 refine T.cH H ?_ ?_<;>intro H h
 ·obtain⟨⟨r4,o5⟩,h6,H⟩:=Ac H
  obtain⟨⟨r7,o8⟩,h9,H⟩:=Ac H
  obtain⟨e10,h11,H⟩:=Ac H
  obtain⟨e12,h13,H⟩:=Ac H
  refine T.drawS (fr':=[(0,.bx 0 0),(1,.agg [.hd 3 (a0.Types_.map (Ae false)).length 0 (a0.Types_.map (Ae false)).length,.hd 4 (a0.Classes_.map (Ak false)).length 0 (a0.Classes_.map (Ak false)).length]),(3,.bx 7 0),(4,.bx 8 0),(5,.bx 0 0),(6,.int .i64 r1),(7,.bool (r1==0)),(8,.bool (r1==0)),(9,.bx 7 0),(10,.hd 3 (a0.Types_.map (Ae false)).length 0 (a0.Types_.map (Ae false)).length),(11,.bx 0 0),(12,.bx 7 0),(13,.hd 3 (a0.Types_.map (Ae false)).length 0 (a0.Types_.map (Ae false)).length),(14,.int .i64 (a0.Types_.length:Int)),(15,.int .i64 r4),(16,.im false (([0,5,2]:List Int).map (c_int .i64))),(17,.bx 0 0),(18,.int .i64 r7),(20,.int .i64 e10)]) (R:=[⟨some 9,.bx 7 0,.q,[]⟩,⟨some 10,.hd 3 (a0.Types_.map (Ae false)).length 0 (a0.Types_.map (Ae false)).length,.q,[]⟩,⟨some 11,.bx 0 0,.q,[]⟩,⟨some 12,.bx 7 0,.q,[]⟩,⟨some 13,.hd 3 (a0.Types_.map (Ae false)).length 0 (a0.Types_.map (Ae false)).length,.q,[]⟩,⟨some 14,.int .i64 (a0.Types_.length:Int),.q,[]⟩,⟨some 15,.int .i64 r4,.q,[]⟩,⟨some 16,.im false (([0,5,2]:List Int).map (c_int .i64)),.q,[]⟩,⟨some 17,.bx 0 0,.q,[]⟩,⟨some 18,.int .i64 r7,.q,[]⟩,⟨some 19,.rf false [.int .i64 e10],.q,[]⟩,⟨some 20,.int .i64 e10,.q,[]⟩,⟨some 21,.el 3 (a0.Types_.map (Ae false)).length (Int.toNat r4) 0,.q,[]⟩,⟨some 22,.el 3 (a0.Types_.map (Ae false)).length (Int.toNat r4) 1,.q,[]⟩,⟨none,.any,.q,[]⟩]) (fun b=>cond (b 6) (cond (b 9) (cond (b 14) ([.box (Ai c0 o8),.dead,.dead,.arr .clo 3 ((a0.Types_.set (Int.toNat r4) (⟨e12.Name_,e10,e12.Single_⟩:Ar)).map (Ae false)),.arr .clo 4 (a0.Classes_.map (Ak false)),.dead,.dead,.box (As 3 4 false (⟨(a0.Types_.set (Int.toNat r4) (⟨e12.Name_,e10,e12.Single_⟩:Ar)),a0.Classes_⟩:Ah)),.box [.nilS,.nilS]]) ([.box (Ai c0 o8),.dead,.dead,.arr .clo 3 (a0.Types_.map (Ae false)),.arr .clo 4 (a0.Classes_.map (Ak false)),.dead,.dead,.box (As 3 4 false a0),.box [.nilS,.nilS]])) ([.box (Ai c0 o5),.dead,.dead,.arr .clo 3 (a0.Types_.map (Ae false)),.arr .clo 4 (a0.Classes_.map (Ak false)),.dead,.dead,.box (As 3 4 false a0),.box [.nilS,.nilS]])) ([.box (Ai c0 o2),.dead,.dead,.arr .clo 3 (a0.Types_.map (Ae false)),.arr .clo 4 (a0.Classes_.map (Ak false)),.dead,.dead,.box (As 3 4 false a0),.box [.nilS,.nilS]])) rfl ?_ ?_ rfl rfl (FrL.get (.cons rfl (.cons rfl (.cons rfl (.cons rfl (.cons rfl (.cons rfl (.cons rfl (.cons rfl (.cons rfl (.cons rfl (.cons rfl (.cons rfl (.cons rfl (.cons rfl (.cons rfl (.cons rfl (.cons rfl (.cons rfl (.cons rfl .nil)))))))))))))))))))) ?_
  ·refine .cons _ _ _ _ _ ⟨rfl,[(3,.bx 7 0)],AllN.get rfl (.cons rfl .nil),fun b hd hn hk hc=>?_⟩ ?_
   ·cases e6:b 6
    ·cases e9:b 9
     ·exact Bg (cdf e6) rfl (Bb rfl rfl rfl Ds (by decide) rfl rfl ⟨_,rfl,Nat.le_of_ble_eq_true rfl⟩) (cdf ((Ap rfl).trans e6)) rfl
     ·exact absurd (hc 9 6 rfl rfl e9) (by rw[e6];decide)
    ·cases e9:b 9
     ·exact Bg ((cdt e6).trans (cdf e9)) rfl (Bb rfl rfl rfl Ds (by decide) rfl rfl ⟨_,rfl,Nat.le_of_ble_eq_true rfl⟩) ((cdt ((Ap rfl).trans e6)).trans (cdf ((Ap rfl).trans e9))) rfl
     ·exact Bg (((cdt e6).trans (cdt e9)).trans (cdf (hn 14 rfl))) rfl (Bb rfl rfl rfl Ds (by decide) rfl rfl ⟨_,rfl,Nat.le_of_ble_eq_true rfl⟩) (((cdt ((Ap rfl).trans e6)).trans (cdt ((Ap rfl).trans e9))).trans (cdf ((Ap rfl).trans (hn 14 rfl)))) rfl
   refine .cons _ _ _ _ _ ⟨rfl,[(9,.bx 7 0)],AllN.get rfl (.cons rfl .nil),fun b hd hn hk hc=>?_⟩ ?_
   ·cases e6:b 6
    ·cases e9:b 9
     ·exact Bg (cdf e6) rfl (Bs rfl Ds rfl rfl (nb rfl) rfl) (cdf ((Ap rfl).trans e6)) rfl
     ·exact absurd (hc 9 6 rfl rfl e9) (by rw[e6];decide)
    ·cases e9:b 9
     ·exact Bg ((cdt e6).trans (cdf e9)) rfl (Bs rfl Ds rfl rfl (nb rfl) rfl) ((cdt ((Ap rfl).trans e6)).trans (cdf ((Ap rfl).trans e9))) rfl
     ·exact Bg (((cdt e6).trans (cdt e9)).trans (cdf (hn 14 rfl))) rfl (Bs rfl Ds rfl rfl (nb rfl) rfl) (((cdt ((Ap rfl).trans e6)).trans (cdt ((Ap rfl).trans e9))).trans (cdf ((Ap rfl).trans (hn 14 rfl)))) rfl
   refine .cons _ _ _ _ _ ⟨rfl,[(0,.bx 0 0)],AllN.get rfl (.cons rfl .nil),fun b hd hn hk hc=>?_⟩ ?_
   ·exact Bg (cdf (hn 6 rfl)) rfl (Bp rfl rfl) (cdf ((Ap rfl).trans (hn 6 rfl))) rfl
   refine .cons _ _ _ _ _ ⟨rfl,[(3,.bx 7 0)],AllN.get rfl (.cons rfl .nil),fun b hd hn hk hc=>?_⟩ ?_
   ·exact Bg (cdf (hn 6 rfl)) rfl (Bb rfl rfl rfl Ds (by decide) rfl rfl ⟨_,rfl,Nat.le_of_ble_eq_true rfl⟩) (cdf ((Ap rfl).trans (hn 6 rfl))) rfl
   refine .cons _ _ _ _ _ ⟨rfl,[(12,.bx 7 0)],AllN.get rfl (.cons rfl .nil),fun b hd hn hk hc=>?_⟩ ?_
   ·exact Bg (cdf (hn 6 rfl)) rfl (Bs rfl Ds rfl rfl (nb rfl) rfl) (cdf ((Ap rfl).trans (hn 6 rfl))) rfl
   refine .cons _ _ _ _ _ ⟨rfl,[(13,.hd 3 (a0.Types_.map (Ae false)).length 0 (a0.Types_.map (Ae false)).length)],AllN.get rfl (.cons rfl .nil),fun b hd hn hk hc=>?_⟩ ?_
   ·exact Bg (cdf (hn 6 rfl)) rfl (Dt (f:=Ae false) rfl rfl rfl rfl rfl) (cdf ((Ap rfl).trans (hn 6 rfl))) rfl
   refine .cons _ _ _ _ _ ⟨rfl,[(11,.bx 0 0),(14,.int .i64 (a0.Types_.length:Int))],AllN.get rfl (.cons rfl (.cons rfl .nil)),fun b hd hn hk hc=>?_⟩ ?_
   ·exact Bg (cdf hk) rfl (Bn [0] rfl Ey rfl rfl (spec_l1Cur_pick_p c0 h6) rfl (by decide) (.cons _ _ _ _ rfl .nil) rfl rfl rfl) (((cdt Cu).trans (cdf ((Ap rfl).trans (hn 9 rfl)))).trans rfl) rfl
   refine .cons _ _ _ _ _ ⟨rfl,[],AllN.get rfl .nil,fun b hd hn hk hc=>?_⟩ ?_
   ·cases e6:b 6
    ·cases e9:b 9
     ·exact Bg (cdf e6) rfl (A8 (rows:=([0,5,2]:List Int).map (c_int .i64)) rfl rfl Dj ⟨_,rfl,rfl⟩ (by decide) rfl rfl rfl rfl rfl rfl) (cdf ((Ap rfl).trans e6)) rfl
     ·exact absurd (hc 9 6 rfl rfl e9) (by rw[e6];decide)
    ·cases e9:b 9
     ·exact Bg ((cdt e6).trans (cdf e9)) rfl (A8 (rows:=([0,5,2]:List Int).map (c_int .i64)) rfl rfl Dj ⟨_,rfl,rfl⟩ (by decide) rfl rfl rfl rfl rfl rfl) ((cdt ((Ap rfl).trans e6)).trans (cdf ((Ap rfl).trans e9))) rfl
     ·exact Bg (((cdt e6).trans (cdt e9)).trans (cdf (hn 14 rfl))) rfl (A8 (rows:=([0,5,2]:List Int).map (c_int .i64)) rfl rfl Dj ⟨_,rfl,rfl⟩ (by decide) rfl rfl rfl rfl rfl rfl) (((cdt ((Ap rfl).trans e6)).trans (cdt ((Ap rfl).trans e9))).trans (cdf ((Ap rfl).trans (hn 14 rfl)))) rfl
   refine .cons _ _ _ _ _ ⟨rfl,[(0,.bx 0 0)],AllN.get rfl (.cons rfl .nil),fun b hd hn hk hc=>?_⟩ ?_
   ·cases e6:b 6
    ·exact Bg (cdf e6) rfl (Bp rfl rfl) (cdf ((Ap rfl).trans e6)) rfl
    ·exact Bg ((cdt e6).trans (cdf (hn 9 rfl))) rfl (Bp rfl rfl) ((cdt ((Ap rfl).trans e6)).trans (cdf ((Ap rfl).trans (hn 9 rfl)))) rfl
   refine .cons _ _ _ _ _ ⟨rfl,[(17,.bx 0 0)],AllN.get rfl (.cons rfl .nil),fun b hd hn hk hc=>?_⟩ ?_
   ·exact Bg ((cdt (hd 6 rfl)).trans (cdf hk)) rfl (Bn [0] rfl Ey rfl rfl (spec_l1Cur_pick_p c0 h9) rfl (by decide) (.cons _ _ _ _ rfl .nil) rfl rfl rfl) ((((cdt ((Ap rfl).trans (hd 6 rfl))).trans (cdt Cu)).trans (cdf ((Ap rfl).trans (hn 14 rfl)))).trans rfl) rfl
   refine .cons _ _ _ _ _ ⟨rfl,[(16,.im false (([0,5,2]:List Int).map (c_int .i64))),(18,.int .i64 r7)],AllN.get rfl (.cons rfl (.cons rfl .nil)),fun b hd hn hk hc=>?_⟩ ?_
   ·exact Bg (((cdt (hd 6 rfl)).trans (cdt (hd 9 rfl))).trans (cdf (hn 14 rfl))) rfl (B7 (f:=c_int .i64) rfl rfl Dj rfl rfl h11 rfl) (((cdt ((Ap rfl).trans (hd 6 rfl))).trans (cdt ((Ap rfl).trans (hd 9 rfl)))).trans (cdf ((Ap rfl).trans (hn 14 rfl)))) rfl
   refine .cons _ _ _ _ _ ⟨rfl,[(19,.rf false [.int .i64 e10])],AllN.get rfl (.cons rfl .nil),fun b hd hn hk hc=>?_⟩ ?_
   ·exact Bg (((cdt (hd 6 rfl)).trans (cdt (hd 9 rfl))).trans (cdf (hn 14 rfl))) rfl (Bx rfl Dj rfl (nb rfl) rfl) (((cdt ((Ap rfl).trans (hd 6 rfl))).trans (cdt ((Ap rfl).trans (hd 9 rfl)))).trans (cdf ((Ap rfl).trans (hn 14 rfl)))) rfl
   refine .cons _ _ _ _ _ ⟨rfl,[(10,.hd 3 (a0.Types_.map (Ae false)).length 0 (a0.Types_.map (Ae false)).length),(15,.int .i64 r4)],AllN.get rfl (.cons rfl (.cons rfl .nil)),fun b hd hn hk hc=>?_⟩ ?_
   ·exact Bg (((cdt (hd 6 rfl)).trans (cdt (hd 9 rfl))).trans (cdf (hn 14 rfl))) rfl (C2 (f:=Ae false) rfl rfl D6 rfl rfl rfl rfl h13 rfl) (((cdt ((Ap rfl).trans (hd 6 rfl))).trans (cdt ((Ap rfl).trans (hd 9 rfl)))).trans (cdf ((Ap rfl).trans (hn 14 rfl)))) rfl
   refine .cons _ _ _ _ _ ⟨rfl,[(21,.el 3 (a0.Types_.map (Ae false)).length (Int.toNat r4) 0)],AllN.get rfl (.cons rfl .nil),fun b hd hn hk hc=>?_⟩ ?_
   ·exact Bg (((cdt (hd 6 rfl)).trans (cdt (hd 9 rfl))).trans (cdf (hn 14 rfl))) rfl (Cn rfl rfl rfl Dj (by decide) rfl rfl rfl) (((cdt ((Ap rfl).trans (hd 6 rfl))).trans (cdt ((Ap rfl).trans (hd 9 rfl)))).trans (cdf ((Ap rfl).trans (hn 14 rfl)))) rfl
   refine .cons _ _ _ _ _ ⟨rfl,[(20,.int .i64 e10),(22,.el 3 (a0.Types_.map (Ae false)).length (Int.toNat r4) 1)],AllN.get rfl (.cons rfl (.cons rfl .nil)),fun b hd hn hk hc=>?_⟩ ?_
   ·exact Bg (((cdt (hd 6 rfl)).trans (cdt (hd 9 rfl))).trans (cdf hk)) rfl (B1.to (Dz (f:=Ae false) (xs:=a0.Types_) (k:=r4) (a:=e12) (⟨e12.Name_,e10,e12.Single_⟩:Ar) rfl Dj rfl rfl rfl rfl (by decide) h13 rfl rfl rfl (fun _=>rfl) rfl) (Dq (Dq (Dq (Dq (Dq (Dq (Dq (eqAtB (show (.box [.hd 3 (a0.Types_.map (Ae false)).length 0 (a0.Types_.map (Ae false)).length,.hd 4 (a0.Classes_.map (Ak false)).length 0 (a0.Classes_.map (Ak false)).length]:AO) = .box [.hd 3 ((a0.Types_.set (Int.toNat r4) (⟨e12.Name_,e10,e12.Single_⟩:Ar)).map (Ae false)).length 0 ((a0.Types_.set (Int.toNat r4) (⟨e12.Name_,e10,e12.Single_⟩:Ar)).map (Ae false)).length,.hd 4 (a0.Classes_.map (Ak false)).length 0 (a0.Classes_.map (Ak false)).length] by simp only[List.length_map,List.length_set]) rfl))))))))) ((((cdt ((Ap rfl).trans (hd 6 rfl))).trans (cdt ((Ap rfl).trans (hd 9 rfl)))).trans (cdt Cu)).trans rfl) rfl
   exact .nil _
  ·intro b b' h;simp only[h 6 (by decide),h 9 (by decide),h 14 (by decide)]
  refine Bh (Af ?_)
  refine T.conv (Cs.eqV (t:=10) (v':=.hd 3 ((a0.Types_.set (Int.toNat r4) (⟨e12.Name_,e10,e12.Single_⟩:Ar)).map (Ae false)).length 0 ((a0.Types_.set (Int.toNat r4) (⟨e12.Name_,e10,e12.Single_⟩:Ar)).map (Ae false)).length) rfl (B2 _ (List.length_set ..))) ?_
  refine T.conv (Cs.eqV (t:=13) (v':=.hd 3 ((a0.Types_.set (Int.toNat r4) (⟨e12.Name_,e10,e12.Single_⟩:Ar)).map (Ae false)).length 0 ((a0.Types_.set (Int.toNat r4) (⟨e12.Name_,e10,e12.Single_⟩:Ar)).map (Ae false)).length) rfl (B2 _ (List.length_set ..))) ?_
  refine T.seq ?_
  refine T.conv (Cs.eqS (σ':=[.box (Ai c0 o8),_,_,.arr .clo 3 ((a0.Types_.set (Int.toNat r4) (⟨e12.Name_,e10,e12.Single_⟩:Ar)).map (Ae false)),_,_,_,.box (As 3 4 false (⟨(a0.Types_.set (Int.toNat r4) (⟨e12.Name_,e10,e12.Single_⟩:Ar)),a0.Classes_⟩:Ah)),_]) rfl) ?_
  refine au 2 ?_
  refine TL.sn rfl rfl (Cm rfl Dy rfl rfl rfl rfl (nb rfl) (Ci rfl rfl (Ci rfl rfl rfl))) ?_
  refine TL.nil ?_
  refine T.conv (Cs.wkF (M:=9) (.k 4 rfl rfl .nil)) ?_
  refine T.conv (Cs.reloc 5 3 rfl rfl (by decide) rfl rfl rfl (Bv rfl)) ?_
  refine T.conv (Cs.wkF (M:=9) (.k 4 rfl rfl .nil)) ?_
  refine T.conv (Cs.eqS (σ':=[_,_,_,.dead,_,.arr .clo 3 ((a0.Types_.set (Int.toNat r4) (⟨e12.Name_,e10,e12.Single_⟩:Ar)).map (Ae false)),_,.box (As 5 4 false (⟨(a0.Types_.set (Int.toNat r4) (⟨e12.Name_,e10,e12.Single_⟩:Ar)),a0.Classes_⟩:Ah)),.box (As 5 4 false (⟨(a0.Types_.set (Int.toNat r4) (⟨e12.Name_,e10,e12.Single_⟩:Ar)),a0.Classes_⟩:Ah))]) rfl) ?_
  refine T.conv (Cs.reloc 6 4 rfl rfl (by decide) rfl rfl rfl (Bv rfl)) ?_
  refine T.conv (Cs.wkF (M:=9) (.k 4 rfl rfl .nil)) ?_
  refine T.conv (Cs.eqS (σ':=[_,_,_,_,.dead,_,.arr .clo 4 (a0.Classes_.map (Ak false)),.box (As 5 6 false (⟨(a0.Types_.set (Int.toNat r4) (⟨e12.Name_,e10,e12.Single_⟩:Ar)),a0.Classes_⟩:Ah)),.box (As 5 6 false (⟨(a0.Types_.set (Int.toNat r4) (⟨e12.Name_,e10,e12.Single_⟩:Ar)),a0.Classes_⟩:Ah))]) rfl) ?_
  refine T.ret ?_
  cases Ad H
  exact⟨trivial,_,(.cell _ _ _ _ _ _ _ _ _ _ rfl rfl Dy (nb rfl) rfl .nil),⟨rfl,_,rfl⟩⟩
 ·refine au 5 ?_
  refine T.cH H ?_ ?_<;>intro H h
  ·obtain⟨⟨r14,o15⟩,h16,H⟩:=Ac H
   obtain⟨⟨r17,o18⟩,h19,H⟩:=Ac H
   obtain⟨e20,h21,H⟩:=Ac H
   refine T.drawS (fr':=[(0,.bx 0 0),(1,.agg [.hd 3 (a0.Types_.map (Ae false)).length 0 (a0.Types_.map (Ae false)).length,.hd 4 (a0.Classes_.map (Ak false)).length 0 (a0.Classes_.map (Ak false)).length]),(3,.bx 7 0),(4,.bx 8 0),(5,.bx 0 0),(6,.int .i64 r1),(7,.bool (r1==0)),(8,.bool (r1==0)),(23,.bool (r1==1)),(24,.bool (r1==1)),(25,.bx 7 0),(26,.hd 3 (a0.Types_.map (Ae false)).length 0 (a0.Types_.map (Ae false)).length),(27,.bx 0 0),(28,.bx 7 0),(29,.hd 3 (a0.Types_.map (Ae false)).length 0 (a0.Types_.map (Ae false)).length),(30,.int .i64 (a0.Types_.length:Int)),(31,.int .i64 r14),(32,.bx 0 0),(33,.im false (([(ByteArray.mk #[122,122]),e0,(ByteArray.mk #[97,103,101])]:List ByteArray).map (Aw))),(34,.str r17)]) (R:=[⟨some 25,.bx 7 0,.q,[]⟩,⟨some 26,.hd 3 (a0.Types_.map (Ae false)).length 0 (a0.Types_.map (Ae false)).length,.q,[]⟩,⟨some 27,.bx 0 0,.q,[]⟩,⟨some 28,.bx 7 0,.q,[]⟩,⟨some 29,.hd 3 (a0.Types_.map (Ae false)).length 0 (a0.Types_.map (Ae false)).length,.q,[]⟩,⟨some 30,.int .i64 (a0.Types_.length:Int),.q,[]⟩,⟨some 31,.int .i64 r14,.q,[]⟩,⟨some 32,.bx 0 0,.q,[]⟩,⟨some 33,.im false (([(ByteArray.mk #[122,122]),e0,(ByteArray.mk #[97,103,101])]:List ByteArray).map (Aw)),.q,[]⟩,⟨some 34,.str r17,.q,[]⟩,⟨some 35,.el 3 (a0.Types_.map (Ae false)).length (Int.toNat r14) 0,.q,[]⟩,⟨some 36,.el 3 (a0.Types_.map (Ae false)).length (Int.toNat r14) 0,.q,[]⟩,⟨none,.any,.q,[]⟩]) (fun b=>cond (b 6) (cond (b 9) (cond (b 12) ([.box (Ai c0 o18),.dead,.dead,.arr .clo 3 ((a0.Types_.set (Int.toNat r14) (⟨r17,e20.Syntax_,e20.Single_⟩:Ar)).map (Ae false)),.arr .clo 4 (a0.Classes_.map (Ak false)),.dead,.dead,.box (As 3 4 false (⟨(a0.Types_.set (Int.toNat r14) (⟨r17,e20.Syntax_,e20.Single_⟩:Ar)),a0.Classes_⟩:Ah)),.box [.nilS,.nilS]]) ([.box (Ai c0 o18),.dead,.dead,.arr .clo 3 (a0.Types_.map (Ae false)),.arr .clo 4 (a0.Classes_.map (Ak false)),.dead,.dead,.box (As 3 4 false a0),.box [.nilS,.nilS]])) ([.box (Ai c0 o15),.dead,.dead,.arr .clo 3 (a0.Types_.map (Ae false)),.arr .clo 4 (a0.Classes_.map (Ak false)),.dead,.dead,.box (As 3 4 false a0),.box [.nilS,.nilS]])) ([.box (Ai c0 o2),.dead,.dead,.arr .clo 3 (a0.Types_.map (Ae false)),.arr .clo 4 (a0.Classes_.map (Ak false)),.dead,.dead,.box (As 3 4 false a0),.box [.nilS,.nilS]])) rfl ?_ ?_ rfl rfl (FrL.get (.cons rfl (.cons rfl (.cons rfl (.cons rfl (.cons rfl (.cons rfl (.cons rfl (.cons rfl (.cons rfl (.cons rfl (.cons rfl (.cons rfl (.cons rfl (.cons rfl (.cons rfl (.cons rfl (.cons rfl (.cons rfl (.cons rfl (.cons rfl .nil))))))))))))))))))))) ?_
   ·refine .cons _ _ _ _ _ ⟨rfl,[(3,.bx 7 0)],AllN.get rfl (.cons rfl .nil),fun b hd hn hk hc=>?_⟩ ?_
    ·cases e6:b 6
     ·cases e9:b 9
      ·exact Bg (cdf e6) rfl (Bb rfl rfl rfl Ds (by decide) rfl rfl ⟨_,rfl,Nat.le_of_ble_eq_true rfl⟩) (cdf ((Ap rfl).trans e6)) rfl
      ·exact absurd (hc 9 6 rfl rfl e9) (by rw[e6];decide)
     ·cases e9:b 9
      ·exact Bg ((cdt e6).trans (cdf e9)) rfl (Bb rfl rfl rfl Ds (by decide) rfl rfl ⟨_,rfl,Nat.le_of_ble_eq_true rfl⟩) ((cdt ((Ap rfl).trans e6)).trans (cdf ((Ap rfl).trans e9))) rfl
      ·exact Bg (((cdt e6).trans (cdt e9)).trans (cdf (hn 12 rfl))) rfl (Bb rfl rfl rfl Ds (by decide) rfl rfl ⟨_,rfl,Nat.le_of_ble_eq_true rfl⟩) (((cdt ((Ap rfl).trans e6)).trans (cdt ((Ap rfl).trans e9))).trans (cdf ((Ap rfl).trans (hn 12 rfl)))) rfl
    refine .cons _ _ _ _ _ ⟨rfl,[(25,.bx 7 0)],AllN.get rfl (.cons rfl .nil),fun b hd hn hk hc=>?_⟩ ?_
    ·cases e6:b 6
     ·cases e9:b 9
      ·exact Bg (cdf e6) rfl (Bs rfl Ds rfl rfl (nb rfl) rfl) (cdf ((Ap rfl).trans e6)) rfl
      ·exact absurd (hc 9 6 rfl rfl e9) (by rw[e6];decide)
     ·cases e9:b 9
      ·exact Bg ((cdt e6).trans (cdf e9)) rfl (Bs rfl Ds rfl rfl (nb rfl) rfl) ((cdt ((Ap rfl).trans e6)).trans (cdf ((Ap rfl).trans e9))) rfl
      ·exact Bg (((cdt e6).trans (cdt e9)).trans (cdf (hn 12 rfl))) rfl (Bs rfl Ds rfl rfl (nb rfl) rfl) (((cdt ((Ap rfl).trans e6)).trans (cdt ((Ap rfl).trans e9))).trans (cdf ((Ap rfl).trans (hn 12 rfl)))) rfl
    refine .cons _ _ _ _ _ ⟨rfl,[(0,.bx 0 0)],AllN.get rfl (.cons rfl .nil),fun b hd hn hk hc=>?_⟩ ?_
    ·exact Bg (cdf (hn 6 rfl)) rfl (Bp rfl rfl) (cdf ((Ap rfl).trans (hn 6 rfl))) rfl
    refine .cons _ _ _ _ _ ⟨rfl,[(3,.bx 7 0)],AllN.get rfl (.cons rfl .nil),fun b hd hn hk hc=>?_⟩ ?_
    ·exact Bg (cdf (hn 6 rfl)) rfl (Bb rfl rfl rfl Ds (by decide) rfl rfl ⟨_,rfl,Nat.le_of_ble_eq_true rfl⟩) (cdf ((Ap rfl).trans (hn 6 rfl))) rfl
    refine .cons _ _ _ _ _ ⟨rfl,[(28,.bx 7 0)],AllN.get rfl (.cons rfl .nil),fun b hd hn hk hc=>?_⟩ ?_
    ·exact Bg (cdf (hn 6 rfl)) rfl (Bs rfl Ds rfl rfl (nb rfl) rfl) (cdf ((Ap rfl).trans (hn 6 rfl))) rfl
    refine .cons _ _ _ _ _ ⟨rfl,[(29,.hd 3 (a0.Types_.map (Ae false)).length 0 (a0.Types_.map (Ae false)).length)],AllN.get rfl (.cons rfl .nil),fun b hd hn hk hc=>?_⟩ ?_
    ·exact Bg (cdf (hn 6 rfl)) rfl (Dt (f:=Ae false) rfl rfl rfl rfl rfl) (cdf ((Ap rfl).trans (hn 6 rfl))) rfl
    refine .cons _ _ _ _ _ ⟨rfl,[(27,.bx 0 0),(30,.int .i64 (a0.Types_.length:Int))],AllN.get rfl (.cons rfl (.cons rfl .nil)),fun b hd hn hk hc=>?_⟩ ?_
    ·exact Bg (cdf hk) rfl (Bn [0] rfl Ey rfl rfl (spec_l1Cur_pick_p c0 h16) rfl (by decide) (.cons _ _ _ _ rfl .nil) rfl rfl rfl) (((cdt Cu).trans (cdf ((Ap rfl).trans (hn 9 rfl)))).trans rfl) rfl
    refine .cons _ _ _ _ _ ⟨rfl,[(0,.bx 0 0)],AllN.get rfl (.cons rfl .nil),fun b hd hn hk hc=>?_⟩ ?_
    ·cases e6:b 6
     ·exact Bg (cdf e6) rfl (Bp rfl rfl) (cdf ((Ap rfl).trans e6)) rfl
     ·exact Bg ((cdt e6).trans (cdf (hn 9 rfl))) rfl (Bp rfl rfl) ((cdt ((Ap rfl).trans e6)).trans (cdf ((Ap rfl).trans (hn 9 rfl)))) rfl
    refine .cons _ _ _ _ _ ⟨rfl,[],AllN.get rfl .nil,fun b hd hn hk hc=>?_⟩ ?_
    ·cases e6:b 6
     ·exact Bg (cdf e6) rfl (A8 (rows:=([(ByteArray.mk #[122,122]),e0,(ByteArray.mk #[97,103,101])]:List ByteArray).map (Aw)) rfl rfl Bm ⟨_,rfl,rfl⟩ (by decide) rfl rfl rfl rfl rfl rfl) (cdf ((Ap rfl).trans e6)) rfl
     ·exact Bg ((cdt e6).trans (cdf (hn 9 rfl))) rfl (A8 (rows:=([(ByteArray.mk #[122,122]),e0,(ByteArray.mk #[97,103,101])]:List ByteArray).map (Aw)) rfl rfl Bm ⟨_,rfl,rfl⟩ (by decide) rfl rfl rfl rfl rfl rfl) ((cdt ((Ap rfl).trans e6)).trans (cdf ((Ap rfl).trans (hn 9 rfl)))) rfl
    refine .cons _ _ _ _ _ ⟨rfl,[(32,.bx 0 0),(33,.im false (([(ByteArray.mk #[122,122]),e0,(ByteArray.mk #[97,103,101])]:List ByteArray).map (Aw)))],AllN.get rfl (.cons rfl (.cons rfl .nil)),fun b hd hn hk hc=>?_⟩ ?_
    ·exact Bg ((cdt (hd 6 rfl)).trans (cdf hk)) rfl (Bn [0] rfl en_43 rfl rfl (spec_l1Cur_of_p false c0 h19) rfl (by decide) (.cons _ _ _ _ rfl .nil) rfl rfl rfl) ((((cdt ((Ap rfl).trans (hd 6 rfl))).trans (cdt Cu)).trans (cdf ((Ap rfl).trans (hn 12 rfl)))).trans rfl) rfl
    refine .cons _ _ _ _ _ ⟨rfl,[(26,.hd 3 (a0.Types_.map (Ae false)).length 0 (a0.Types_.map (Ae false)).length),(31,.int .i64 r14)],AllN.get rfl (.cons rfl (.cons rfl .nil)),fun b hd hn hk hc=>?_⟩ ?_
    ·exact Bg (((cdt (hd 6 rfl)).trans (cdt (hd 9 rfl))).trans (cdf (hn 12 rfl))) rfl (C2 (f:=Ae false) rfl rfl D6 rfl rfl rfl rfl h21 rfl) (((cdt ((Ap rfl).trans (hd 6 rfl))).trans (cdt ((Ap rfl).trans (hd 9 rfl)))).trans (cdf ((Ap rfl).trans (hn 12 rfl)))) rfl
    refine .cons _ _ _ _ _ ⟨rfl,[(35,.el 3 (a0.Types_.map (Ae false)).length (Int.toNat r14) 0)],AllN.get rfl (.cons rfl .nil),fun b hd hn hk hc=>?_⟩ ?_
    ·exact Bg (((cdt (hd 6 rfl)).trans (cdt (hd 9 rfl))).trans (cdf (hn 12 rfl))) rfl (Cn rfl rfl rfl Bm (by decide) rfl rfl rfl) (((cdt ((Ap rfl).trans (hd 6 rfl))).trans (cdt ((Ap rfl).trans (hd 9 rfl)))).trans (cdf ((Ap rfl).trans (hn 12 rfl)))) rfl
    refine .cons _ _ _ _ _ ⟨rfl,[(34,.str r17),(36,.el 3 (a0.Types_.map (Ae false)).length (Int.toNat r14) 0)],AllN.get rfl (.cons rfl (.cons rfl .nil)),fun b hd hn hk hc=>?_⟩ ?_
    ·exact Bg (((cdt (hd 6 rfl)).trans (cdt (hd 9 rfl))).trans (cdf hk)) rfl (B1.to (Dz (f:=Ae false) (xs:=a0.Types_) (k:=r14) (a:=e20) (⟨r17,e20.Syntax_,e20.Single_⟩:Ar) rfl Bm rfl rfl rfl rfl (by decide) h21 rfl rfl rfl (fun _=>rfl) rfl) (Dq (Dq (Dq (Dq (Dq (Dq (Dq (eqAtB (show (.box [.hd 3 (a0.Types_.map (Ae false)).length 0 (a0.Types_.map (Ae false)).length,.hd 4 (a0.Classes_.map (Ak false)).length 0 (a0.Classes_.map (Ak false)).length]:AO) = .box [.hd 3 ((a0.Types_.set (Int.toNat r14) (⟨r17,e20.Syntax_,e20.Single_⟩:Ar)).map (Ae false)).length 0 ((a0.Types_.set (Int.toNat r14) (⟨r17,e20.Syntax_,e20.Single_⟩:Ar)).map (Ae false)).length,.hd 4 (a0.Classes_.map (Ak false)).length 0 (a0.Classes_.map (Ak false)).length] by simp only[List.length_map,List.length_set]) rfl))))))))) ((((cdt ((Ap rfl).trans (hd 6 rfl))).trans (cdt ((Ap rfl).trans (hd 9 rfl)))).trans (cdt Cu)).trans rfl) rfl
    exact .nil _
   ·intro b b' h;simp only[h 6 (by decide),h 9 (by decide),h 12 (by decide)]
   refine Bh (Af ?_)
   refine T.conv (Cs.eqV (t:=26) (v':=.hd 3 ((a0.Types_.set (Int.toNat r14) (⟨r17,e20.Syntax_,e20.Single_⟩:Ar)).map (Ae false)).length 0 ((a0.Types_.set (Int.toNat r14) (⟨r17,e20.Syntax_,e20.Single_⟩:Ar)).map (Ae false)).length) rfl (B2 _ (List.length_set ..))) ?_
   refine T.conv (Cs.eqV (t:=29) (v':=.hd 3 ((a0.Types_.set (Int.toNat r14) (⟨r17,e20.Syntax_,e20.Single_⟩:Ar)).map (Ae false)).length 0 ((a0.Types_.set (Int.toNat r14) (⟨r17,e20.Syntax_,e20.Single_⟩:Ar)).map (Ae false)).length) rfl (B2 _ (List.length_set ..))) ?_
   refine T.seq ?_
   refine T.conv (Cs.eqS (σ':=[.box (Ai c0 o18),_,_,.arr .clo 3 ((a0.Types_.set (Int.toNat r14) (⟨r17,e20.Syntax_,e20.Single_⟩:Ar)).map (Ae false)),_,_,_,.box (As 3 4 false (⟨(a0.Types_.set (Int.toNat r14) (⟨r17,e20.Syntax_,e20.Single_⟩:Ar)),a0.Classes_⟩:Ah)),_]) rfl) ?_
   refine au 2 ?_
   refine TL.sn rfl rfl (Cm rfl Dy rfl rfl rfl rfl (nb rfl) (Ci rfl rfl (Ci rfl rfl rfl))) ?_
   refine TL.nil ?_
   refine T.conv (Cs.wkF (M:=9) (.k 4 rfl rfl .nil)) ?_
   refine T.conv (Cs.reloc 5 3 rfl rfl (by decide) rfl rfl rfl (Bv rfl)) ?_
   refine T.conv (Cs.wkF (M:=9) (.k 4 rfl rfl .nil)) ?_
   refine T.conv (Cs.eqS (σ':=[_,_,_,.dead,_,.arr .clo 3 ((a0.Types_.set (Int.toNat r14) (⟨r17,e20.Syntax_,e20.Single_⟩:Ar)).map (Ae false)),_,.box (As 5 4 false (⟨(a0.Types_.set (Int.toNat r14) (⟨r17,e20.Syntax_,e20.Single_⟩:Ar)),a0.Classes_⟩:Ah)),.box (As 5 4 false (⟨(a0.Types_.set (Int.toNat r14) (⟨r17,e20.Syntax_,e20.Single_⟩:Ar)),a0.Classes_⟩:Ah))]) rfl) ?_
   refine T.conv (Cs.reloc 6 4 rfl rfl (by decide) rfl rfl rfl (Bv rfl)) ?_
   refine T.conv (Cs.wkF (M:=9) (.k 4 rfl rfl .nil)) ?_
   refine T.conv (Cs.eqS (σ':=[_,_,_,_,.dead,_,.arr .clo 4 (a0.Classes_.map (Ak false)),.box (As 5 6 false (⟨(a0.Types_.set (Int.toNat r14) (⟨r17,e20.Syntax_,e20.Single_⟩:Ar)),a0.Classes_⟩:Ah)),.box (As 5 6 false (⟨(a0.Types_.set (Int.toNat r14) (⟨r17,e20.Syntax_,e20.Single_⟩:Ar)),a0.Classes_⟩:Ah))]) rfl) ?_
   refine T.ret ?_
   cases Ad H
   exact⟨trivial,_,(.cell _ _ _ _ _ _ _ _ _ _ rfl rfl Dy (nb rfl) rfl .nil),⟨rfl,_,rfl⟩⟩
  ·refine au 5 ?_
   refine T.cH H ?_ ?_<;>intro H h
   ·obtain⟨⟨r22,o23⟩,h24,H⟩:=Ac H
    obtain⟨⟨r25,o26⟩,h27,H⟩:=Ac H
    obtain⟨e28,h29,H⟩:=Ac H
    refine T.drawS (fr':=[(0,.bx 0 0),(1,.agg [.hd 3 (a0.Types_.map (Ae false)).length 0 (a0.Types_.map (Ae false)).length,.hd 4 (a0.Classes_.map (Ak false)).length 0 (a0.Classes_.map (Ak false)).length]),(3,.bx 7 0),(4,.bx 8 0),(5,.bx 0 0),(6,.int .i64 r1),(7,.bool (r1==0)),(8,.bool (r1==0)),(23,.bool (r1==1)),(24,.bool (r1==1)),(37,.bool (r1==2)),(38,.bool (r1==2)),(39,.bx 7 1),(40,.hd 4 (a0.Classes_.map (Ak false)).length 0 (a0.Classes_.map (Ak false)).length),(41,.bx 0 0),(42,.bx 7 1),(43,.hd 4 (a0.Classes_.map (Ak false)).length 0 (a0.Classes_.map (Ak false)).length),(44,.int .i64 (a0.Classes_.length:Int)),(45,.int .i64 r22),(46,.bx 0 0),(47,.im false (([e0,(ByteArray.mk #[83,116,97,102,102]),(ByteArray.mk #[71,114,111,117,112]),(ByteArray.mk #[78,111,110,101]),(ByteArray.mk #[84,111,112])]:List ByteArray).map (Aw))),(48,.str r25)]) (R:=[⟨some 39,.bx 7 1,.q,[]⟩,⟨some 40,.hd 4 (a0.Classes_.map (Ak false)).length 0 (a0.Classes_.map (Ak false)).length,.q,[]⟩,⟨some 41,.bx 0 0,.q,[]⟩,⟨some 42,.bx 7 1,.q,[]⟩,⟨some 43,.hd 4 (a0.Classes_.map (Ak false)).length 0 (a0.Classes_.map (Ak false)).length,.q,[]⟩,⟨some 44,.int .i64 (a0.Classes_.length:Int),.q,[]⟩,⟨some 45,.int .i64 r22,.q,[]⟩,⟨some 46,.bx 0 0,.q,[]⟩,⟨some 47,.im false (([e0,(ByteArray.mk #[83,116,97,102,102]),(ByteArray.mk #[71,114,111,117,112]),(ByteArray.mk #[78,111,110,101]),(ByteArray.mk #[84,111,112])]:List ByteArray).map (Aw)),.q,[]⟩,⟨some 48,.str r25,.q,[]⟩,⟨some 49,.el 4 (a0.Classes_.map (Ak false)).length (Int.toNat r22) 0,.q,[]⟩,⟨some 50,.el 4 (a0.Classes_.map (Ak false)).length (Int.toNat r22) 1,.q,[]⟩,⟨none,.any,.q,[]⟩]) (fun b=>cond (b 6) (cond (b 9) (cond (b 12) ([.box (Ai c0 o26),.dead,.dead,.arr .clo 3 (a0.Types_.map (Ae false)),.arr .clo 4 ((a0.Classes_.set (Int.toNat r22) ({ e28 with Up_:=r25 }:Ax)).map (Ak false)),.dead,.dead,.box (As 3 4 false (⟨a0.Types_,(a0.Classes_.set (Int.toNat r22) ({ e28 with Up_:=r25 }:Ax))⟩:Ah)),.box [.nilS,.nilS]]) ([.box (Ai c0 o26),.dead,.dead,.arr .clo 3 (a0.Types_.map (Ae false)),.arr .clo 4 (a0.Classes_.map (Ak false)),.dead,.dead,.box (As 3 4 false a0),.box [.nilS,.nilS]])) ([.box (Ai c0 o23),.dead,.dead,.arr .clo 3 (a0.Types_.map (Ae false)),.arr .clo 4 (a0.Classes_.map (Ak false)),.dead,.dead,.box (As 3 4 false a0),.box [.nilS,.nilS]])) ([.box (Ai c0 o2),.dead,.dead,.arr .clo 3 (a0.Types_.map (Ae false)),.arr .clo 4 (a0.Classes_.map (Ak false)),.dead,.dead,.box (As 3 4 false a0),.box [.nilS,.nilS]])) rfl ?_ ?_ rfl rfl (FrL.get (.cons rfl (.cons rfl (.cons rfl (.cons rfl (.cons rfl (.cons rfl (.cons rfl (.cons rfl (.cons rfl (.cons rfl (.cons rfl (.cons rfl (.cons rfl (.cons rfl (.cons rfl (.cons rfl (.cons rfl (.cons rfl (.cons rfl (.cons rfl (.cons rfl (.cons rfl .nil))))))))))))))))))))))) ?_
    ·refine .cons _ _ _ _ _ ⟨rfl,[(3,.bx 7 0)],AllN.get rfl (.cons rfl .nil),fun b hd hn hk hc=>?_⟩ ?_
     ·cases e6:b 6
      ·cases e9:b 9
       ·exact Bg (cdf e6) rfl (Bb rfl rfl rfl Dr (by decide) rfl rfl ⟨_,rfl,Nat.le_of_ble_eq_true rfl⟩) (cdf ((Ap rfl).trans e6)) rfl
       ·exact absurd (hc 9 6 rfl rfl e9) (by rw[e6];decide)
      ·cases e9:b 9
       ·exact Bg ((cdt e6).trans (cdf e9)) rfl (Bb rfl rfl rfl Dr (by decide) rfl rfl ⟨_,rfl,Nat.le_of_ble_eq_true rfl⟩) ((cdt ((Ap rfl).trans e6)).trans (cdf ((Ap rfl).trans e9))) rfl
       ·exact Bg (((cdt e6).trans (cdt e9)).trans (cdf (hn 12 rfl))) rfl (Bb rfl rfl rfl Dr (by decide) rfl rfl ⟨_,rfl,Nat.le_of_ble_eq_true rfl⟩) (((cdt ((Ap rfl).trans e6)).trans (cdt ((Ap rfl).trans e9))).trans (cdf ((Ap rfl).trans (hn 12 rfl)))) rfl
     refine .cons _ _ _ _ _ ⟨rfl,[(39,.bx 7 1)],AllN.get rfl (.cons rfl .nil),fun b hd hn hk hc=>?_⟩ ?_
     ·cases e6:b 6
      ·cases e9:b 9
       ·exact Bg (cdf e6) rfl (Bs rfl Dr rfl rfl (nb rfl) rfl) (cdf ((Ap rfl).trans e6)) rfl
       ·exact absurd (hc 9 6 rfl rfl e9) (by rw[e6];decide)
      ·cases e9:b 9
       ·exact Bg ((cdt e6).trans (cdf e9)) rfl (Bs rfl Dr rfl rfl (nb rfl) rfl) ((cdt ((Ap rfl).trans e6)).trans (cdf ((Ap rfl).trans e9))) rfl
       ·exact Bg (((cdt e6).trans (cdt e9)).trans (cdf (hn 12 rfl))) rfl (Bs rfl Dr rfl rfl (nb rfl) rfl) (((cdt ((Ap rfl).trans e6)).trans (cdt ((Ap rfl).trans e9))).trans (cdf ((Ap rfl).trans (hn 12 rfl)))) rfl
     refine .cons _ _ _ _ _ ⟨rfl,[(0,.bx 0 0)],AllN.get rfl (.cons rfl .nil),fun b hd hn hk hc=>?_⟩ ?_
     ·exact Bg (cdf (hn 6 rfl)) rfl (Bp rfl rfl) (cdf ((Ap rfl).trans (hn 6 rfl))) rfl
     refine .cons _ _ _ _ _ ⟨rfl,[(3,.bx 7 0)],AllN.get rfl (.cons rfl .nil),fun b hd hn hk hc=>?_⟩ ?_
     ·exact Bg (cdf (hn 6 rfl)) rfl (Bb rfl rfl rfl Dr (by decide) rfl rfl ⟨_,rfl,Nat.le_of_ble_eq_true rfl⟩) (cdf ((Ap rfl).trans (hn 6 rfl))) rfl
     refine .cons _ _ _ _ _ ⟨rfl,[(42,.bx 7 1)],AllN.get rfl (.cons rfl .nil),fun b hd hn hk hc=>?_⟩ ?_
     ·exact Bg (cdf (hn 6 rfl)) rfl (Bs rfl Dr rfl rfl (nb rfl) rfl) (cdf ((Ap rfl).trans (hn 6 rfl))) rfl
     refine .cons _ _ _ _ _ ⟨rfl,[(43,.hd 4 (a0.Classes_.map (Ak false)).length 0 (a0.Classes_.map (Ak false)).length)],AllN.get rfl (.cons rfl .nil),fun b hd hn hk hc=>?_⟩ ?_
     ·exact Bg (cdf (hn 6 rfl)) rfl (Dt (f:=Ak false) rfl rfl rfl rfl rfl) (cdf ((Ap rfl).trans (hn 6 rfl))) rfl
     refine .cons _ _ _ _ _ ⟨rfl,[(41,.bx 0 0),(44,.int .i64 (a0.Classes_.length:Int))],AllN.get rfl (.cons rfl (.cons rfl .nil)),fun b hd hn hk hc=>?_⟩ ?_
     ·exact Bg (cdf hk) rfl (Bn [0] rfl Ey rfl rfl (spec_l1Cur_pick_p c0 h24) rfl (by decide) (.cons _ _ _ _ rfl .nil) rfl rfl rfl) (((cdt Cu).trans (cdf ((Ap rfl).trans (hn 9 rfl)))).trans rfl) rfl
     refine .cons _ _ _ _ _ ⟨rfl,[(0,.bx 0 0)],AllN.get rfl (.cons rfl .nil),fun b hd hn hk hc=>?_⟩ ?_
     ·cases e6:b 6
      ·exact Bg (cdf e6) rfl (Bp rfl rfl) (cdf ((Ap rfl).trans e6)) rfl
      ·exact Bg ((cdt e6).trans (cdf (hn 9 rfl))) rfl (Bp rfl rfl) ((cdt ((Ap rfl).trans e6)).trans (cdf ((Ap rfl).trans (hn 9 rfl)))) rfl
     refine .cons _ _ _ _ _ ⟨rfl,[],AllN.get rfl .nil,fun b hd hn hk hc=>?_⟩ ?_
     ·cases e6:b 6
      ·exact Bg (cdf e6) rfl (A8 (rows:=([e0,(ByteArray.mk #[83,116,97,102,102]),(ByteArray.mk #[71,114,111,117,112]),(ByteArray.mk #[78,111,110,101]),(ByteArray.mk #[84,111,112])]:List ByteArray).map (Aw)) rfl rfl Bm ⟨_,rfl,rfl⟩ (by decide) rfl rfl rfl rfl rfl rfl) (cdf ((Ap rfl).trans e6)) rfl
      ·exact Bg ((cdt e6).trans (cdf (hn 9 rfl))) rfl (A8 (rows:=([e0,(ByteArray.mk #[83,116,97,102,102]),(ByteArray.mk #[71,114,111,117,112]),(ByteArray.mk #[78,111,110,101]),(ByteArray.mk #[84,111,112])]:List ByteArray).map (Aw)) rfl rfl Bm ⟨_,rfl,rfl⟩ (by decide) rfl rfl rfl rfl rfl rfl) ((cdt ((Ap rfl).trans e6)).trans (cdf ((Ap rfl).trans (hn 9 rfl)))) rfl
     refine .cons _ _ _ _ _ ⟨rfl,[(46,.bx 0 0),(47,.im false (([e0,(ByteArray.mk #[83,116,97,102,102]),(ByteArray.mk #[71,114,111,117,112]),(ByteArray.mk #[78,111,110,101]),(ByteArray.mk #[84,111,112])]:List ByteArray).map (Aw)))],AllN.get rfl (.cons rfl (.cons rfl .nil)),fun b hd hn hk hc=>?_⟩ ?_
     ·exact Bg ((cdt (hd 6 rfl)).trans (cdf hk)) rfl (Bn [0] rfl en_43 rfl rfl (spec_l1Cur_of_p false c0 h27) rfl (by decide) (.cons _ _ _ _ rfl .nil) rfl rfl rfl) ((((cdt ((Ap rfl).trans (hd 6 rfl))).trans (cdt Cu)).trans (cdf ((Ap rfl).trans (hn 12 rfl)))).trans rfl) rfl
     refine .cons _ _ _ _ _ ⟨rfl,[(40,.hd 4 (a0.Classes_.map (Ak false)).length 0 (a0.Classes_.map (Ak false)).length),(45,.int .i64 r22)],AllN.get rfl (.cons rfl (.cons rfl .nil)),fun b hd hn hk hc=>?_⟩ ?_
     ·exact Bg (((cdt (hd 6 rfl)).trans (cdt (hd 9 rfl))).trans (cdf (hn 12 rfl))) rfl (C2 (f:=Ak false) rfl rfl Dw rfl rfl rfl rfl h29 rfl) (((cdt ((Ap rfl).trans (hd 6 rfl))).trans (cdt ((Ap rfl).trans (hd 9 rfl)))).trans (cdf ((Ap rfl).trans (hn 12 rfl)))) rfl
     refine .cons _ _ _ _ _ ⟨rfl,[(49,.el 4 (a0.Classes_.map (Ak false)).length (Int.toNat r22) 0)],AllN.get rfl (.cons rfl .nil),fun b hd hn hk hc=>?_⟩ ?_
     ·exact Bg (((cdt (hd 6 rfl)).trans (cdt (hd 9 rfl))).trans (cdf (hn 12 rfl))) rfl (Cn rfl rfl rfl Bm (by decide) rfl rfl rfl) (((cdt ((Ap rfl).trans (hd 6 rfl))).trans (cdt ((Ap rfl).trans (hd 9 rfl)))).trans (cdf ((Ap rfl).trans (hn 12 rfl)))) rfl
     refine .cons _ _ _ _ _ ⟨rfl,[(48,.str r25),(50,.el 4 (a0.Classes_.map (Ak false)).length (Int.toNat r22) 1)],AllN.get rfl (.cons rfl (.cons rfl .nil)),fun b hd hn hk hc=>?_⟩ ?_
     ·exact Bg (((cdt (hd 6 rfl)).trans (cdt (hd 9 rfl))).trans (cdf hk)) rfl (B1.to (Dz (f:=Ak false) (xs:=a0.Classes_) (k:=r22) (a:=e28) ({ e28 with Up_:=r25 }:Ax) rfl Bm rfl rfl rfl rfl (by decide) h29 rfl rfl rfl (fun _=>rfl) rfl) (Dq (Dq (Dq (Dq (Dq (Dq (Dq (eqAtB (show (.box [.hd 3 (a0.Types_.map (Ae false)).length 0 (a0.Types_.map (Ae false)).length,.hd 4 (a0.Classes_.map (Ak false)).length 0 (a0.Classes_.map (Ak false)).length]:AO) = .box [.hd 3 (a0.Types_.map (Ae false)).length 0 (a0.Types_.map (Ae false)).length,.hd 4 ((a0.Classes_.set (Int.toNat r22) ({ e28 with Up_:=r25 }:Ax)).map (Ak false)).length 0 ((a0.Classes_.set (Int.toNat r22) ({ e28 with Up_:=r25 }:Ax)).map (Ak false)).length] by simp only[List.length_map,List.length_set]) rfl))))))))) ((((cdt ((Ap rfl).trans (hd 6 rfl))).trans (cdt ((Ap rfl).trans (hd 9 rfl)))).trans (cdt Cu)).trans rfl) rfl
     exact .nil _
    ·intro b b' h;simp only[h 6 (by decide),h 9 (by decide),h 12 (by decide)]
    refine Bh (Af ?_)
    refine T.conv (Cs.eqV (t:=40) (v':=.hd 4 ((a0.Classes_.set (Int.toNat r22) ({ e28 with Up_:=r25 }:Ax)).map (Ak false)).length 0 ((a0.Classes_.set (Int.toNat r22) ({ e28 with Up_:=r25 }:Ax)).map (Ak false)).length) rfl (B2 _ (List.length_set ..))) ?_
    refine T.conv (Cs.eqV (t:=43) (v':=.hd 4 ((a0.Classes_.set (Int.toNat r22) ({ e28 with Up_:=r25 }:Ax)).map (Ak false)).length 0 ((a0.Classes_.set (Int.toNat r22) ({ e28 with Up_:=r25 }:Ax)).map (Ak false)).length) rfl (B2 _ (List.length_set ..))) ?_
    refine T.seq ?_
    refine T.conv (Cs.eqS (σ':=[.box (Ai c0 o26),_,_,_,.arr .clo 4 ((a0.Classes_.set (Int.toNat r22) ({ e28 with Up_:=r25 }:Ax)).map (Ak false)),_,_,.box (As 3 4 false (⟨a0.Types_,(a0.Classes_.set (Int.toNat r22) ({ e28 with Up_:=r25 }:Ax))⟩:Ah)),_]) rfl) ?_
    refine au 2 ?_
    refine TL.sn rfl rfl (Cm rfl Dy rfl rfl rfl rfl (nb rfl) (Ci rfl rfl (Ci rfl rfl rfl))) ?_
    refine TL.nil ?_
    refine T.conv (Cs.wkF (M:=9) (.k 4 rfl rfl .nil)) ?_
    refine T.conv (Cs.reloc 5 3 rfl rfl (by decide) rfl rfl rfl (Bv rfl)) ?_
    refine T.conv (Cs.wkF (M:=9) (.k 4 rfl rfl .nil)) ?_
    refine T.conv (Cs.eqS (σ':=[_,_,_,.dead,_,.arr .clo 3 (a0.Types_.map (Ae false)),_,.box (As 5 4 false (⟨a0.Types_,(a0.Classes_.set (Int.toNat r22) ({ e28 with Up_:=r25 }:Ax))⟩:Ah)),.box (As 5 4 false (⟨a0.Types_,(a0.Classes_.set (Int.toNat r22) ({ e28 with Up_:=r25 }:Ax))⟩:Ah))]) rfl) ?_
    refine T.conv (Cs.reloc 6 4 rfl rfl (by decide) rfl rfl rfl (Bv rfl)) ?_
    refine T.conv (Cs.wkF (M:=9) (.k 4 rfl rfl .nil)) ?_
    refine T.conv (Cs.eqS (σ':=[_,_,_,_,.dead,_,.arr .clo 4 ((a0.Classes_.set (Int.toNat r22) ({ e28 with Up_:=r25 }:Ax)).map (Ak false)),.box (As 5 6 false (⟨a0.Types_,(a0.Classes_.set (Int.toNat r22) ({ e28 with Up_:=r25 }:Ax))⟩:Ah)),.box (As 5 6 false (⟨a0.Types_,(a0.Classes_.set (Int.toNat r22) ({ e28 with Up_:=r25 }:Ax))⟩:Ah))]) rfl) ?_
    refine T.ret ?_
    cases Ad H
    exact⟨trivial,_,(.cell _ _ _ _ _ _ _ _ _ _ rfl rfl Dy (nb rfl) rfl .nil),⟨rfl,_,rfl⟩⟩
   ·refine au 5 ?_
    refine T.cH H ?_ ?_<;>intro H h
    ·obtain⟨⟨r30,o31⟩,h32,H⟩:=Ac H
     obtain⟨⟨r33,o34⟩,h35,H⟩:=Ac H
     obtain⟨e36,h37,H⟩:=Ac H
     refine T.drawS (fr':=[(0,.bx 0 0),(1,.agg [.hd 3 (a0.Types_.map (Ae false)).length 0 (a0.Types_.map (Ae false)).length,.hd 4 (a0.Classes_.map (Ak false)).length 0 (a0.Classes_.map (Ak false)).length]),(3,.bx 7 0),(4,.bx 8 0),(5,.bx 0 0),(6,.int .i64 r1),(7,.bool (r1==0)),(8,.bool (r1==0)),(23,.bool (r1==1)),(24,.bool (r1==1)),(37,.bool (r1==2)),(38,.bool (r1==2)),(51,.bool (r1==3)),(52,.bool (r1==3)),(53,.bx 7 1),(54,.hd 4 (a0.Classes_.map (Ak false)).length 0 (a0.Classes_.map (Ak false)).length),(55,.bx 0 0),(56,.bx 7 1),(57,.hd 4 (a0.Classes_.map (Ak false)).length 0 (a0.Classes_.map (Ak false)).length),(58,.int .i64 (a0.Classes_.length:Int)),(59,.int .i64 r30),(60,.bx 0 0),(61,.im false (([(ByteArray.mk #[110,111,115,117,99,104]),(ByteArray.mk #[99,108,97,115,115]),(ByteArray.mk #[99,110])]:List ByteArray).map (Aw))),(62,.str r33),(63,.im false (([r33]:List ByteArray).map (Aw)))]) (R:=[⟨some 53,.bx 7 1,.q,[]⟩,⟨some 54,.hd 4 (a0.Classes_.map (Ak false)).length 0 (a0.Classes_.map (Ak false)).length,.q,[]⟩,⟨some 55,.bx 0 0,.q,[]⟩,⟨some 56,.bx 7 1,.q,[]⟩,⟨some 57,.hd 4 (a0.Classes_.map (Ak false)).length 0 (a0.Classes_.map (Ak false)).length,.q,[]⟩,⟨some 58,.int .i64 (a0.Classes_.length:Int),.q,[]⟩,⟨some 59,.int .i64 r30,.q,[]⟩,⟨some 60,.bx 0 0,.q,[]⟩,⟨some 61,.im false (([(ByteArray.mk #[110,111,115,117,99,104]),(ByteArray.mk #[99,108,97,115,115]),(ByteArray.mk #[99,110])]:List ByteArray).map (Aw)),.q,[]⟩,⟨some 62,.str r33,.q,[]⟩,⟨some 63,.im false (([r33]:List ByteArray).map (Aw)),.q,[]⟩,⟨some 64,.el 4 (a0.Classes_.map (Ak false)).length (Int.toNat r30) 0,.q,[]⟩,⟨some 65,.el 4 (a0.Classes_.map (Ak false)).length (Int.toNat r30) 2,.q,[]⟩,⟨none,.any,.q,[]⟩]) (fun b=>cond (b 6) (cond (b 9) (cond (b 13) ([.box (Ai c0 o34),.dead,.dead,.arr .clo 3 (a0.Types_.map (Ae false)),.arr .clo 4 ((a0.Classes_.set (Int.toNat r30) ({ e36 with Must_:=([r33]:List ByteArray) }:Ax)).map (Ak false)),.dead,.dead,.box (As 3 4 false (⟨a0.Types_,(a0.Classes_.set (Int.toNat r30) ({ e36 with Must_:=([r33]:List ByteArray) }:Ax))⟩:Ah)),.box [.nilS,.nilS]]) ([.box (Ai c0 o34),.dead,.dead,.arr .clo 3 (a0.Types_.map (Ae false)),.arr .clo 4 (a0.Classes_.map (Ak false)),.dead,.dead,.box (As 3 4 false a0),.box [.nilS,.nilS]])) ([.box (Ai c0 o31),.dead,.dead,.arr .clo 3 (a0.Types_.map (Ae false)),.arr .clo 4 (a0.Classes_.map (Ak false)),.dead,.dead,.box (As 3 4 false a0),.box [.nilS,.nilS]])) ([.box (Ai c0 o2),.dead,.dead,.arr .clo 3 (a0.Types_.map (Ae false)),.arr .clo 4 (a0.Classes_.map (Ak false)),.dead,.dead,.box (As 3 4 false a0),.box [.nilS,.nilS]])) rfl ?_ ?_ rfl rfl (FrL.get (.cons rfl (.cons rfl (.cons rfl (.cons rfl (.cons rfl (.cons rfl (.cons rfl (.cons rfl (.cons rfl (.cons rfl (.cons rfl (.cons rfl (.cons rfl (.cons rfl (.cons rfl (.cons rfl (.cons rfl (.cons rfl (.cons rfl (.cons rfl (.cons rfl (.cons rfl (.cons rfl (.cons rfl (.cons rfl .nil)))))))))))))))))))))))))) ?_
     ·refine .cons _ _ _ _ _ ⟨rfl,[(3,.bx 7 0)],AllN.get rfl (.cons rfl .nil),fun b hd hn hk hc=>?_⟩ ?_
      ·cases e6:b 6
       ·cases e9:b 9
        ·exact Bg (cdf e6) rfl (Bb rfl rfl rfl Dr (by decide) rfl rfl ⟨_,rfl,Nat.le_of_ble_eq_true rfl⟩) (cdf ((Ap rfl).trans e6)) rfl
        ·exact absurd (hc 9 6 rfl rfl e9) (by rw[e6];decide)
       ·cases e9:b 9
        ·exact Bg ((cdt e6).trans (cdf e9)) rfl (Bb rfl rfl rfl Dr (by decide) rfl rfl ⟨_,rfl,Nat.le_of_ble_eq_true rfl⟩) ((cdt ((Ap rfl).trans e6)).trans (cdf ((Ap rfl).trans e9))) rfl
        ·exact Bg (((cdt e6).trans (cdt e9)).trans (cdf (hn 13 rfl))) rfl (Bb rfl rfl rfl Dr (by decide) rfl rfl ⟨_,rfl,Nat.le_of_ble_eq_true rfl⟩) (((cdt ((Ap rfl).trans e6)).trans (cdt ((Ap rfl).trans e9))).trans (cdf ((Ap rfl).trans (hn 13 rfl)))) rfl
      refine .cons _ _ _ _ _ ⟨rfl,[(53,.bx 7 1)],AllN.get rfl (.cons rfl .nil),fun b hd hn hk hc=>?_⟩ ?_
      ·cases e6:b 6
       ·cases e9:b 9
        ·exact Bg (cdf e6) rfl (Bs rfl Dr rfl rfl (nb rfl) rfl) (cdf ((Ap rfl).trans e6)) rfl
        ·exact absurd (hc 9 6 rfl rfl e9) (by rw[e6];decide)
       ·cases e9:b 9
        ·exact Bg ((cdt e6).trans (cdf e9)) rfl (Bs rfl Dr rfl rfl (nb rfl) rfl) ((cdt ((Ap rfl).trans e6)).trans (cdf ((Ap rfl).trans e9))) rfl
        ·exact Bg (((cdt e6).trans (cdt e9)).trans (cdf (hn 13 rfl))) rfl (Bs rfl Dr rfl rfl (nb rfl) rfl) (((cdt ((Ap rfl).trans e6)).trans (cdt ((Ap rfl).trans e9))).trans (cdf ((Ap rfl).trans (hn 13 rfl)))) rfl
      refine .cons _ _ _ _ _ ⟨rfl,[(0,.bx 0 0)],AllN.get rfl (.cons rfl .nil),fun b hd hn hk hc=>?_⟩ ?_
      ·exact Bg (cdf (hn 6 rfl)) rfl (Bp rfl rfl) (cdf ((Ap rfl).trans (hn 6 rfl))) rfl
      refine .cons _ _ _ _ _ ⟨rfl,[(3,.bx 7 0)],AllN.get rfl (.cons rfl .nil),fun b hd hn hk hc=>?_⟩ ?_
      ·exact Bg (cdf (hn 6 rfl)) rfl (Bb rfl rfl rfl Dr (by decide) rfl rfl ⟨_,rfl,Nat.le_of_ble_eq_true rfl⟩) (cdf ((Ap rfl).trans (hn 6 rfl))) rfl
      refine .cons _ _ _ _ _ ⟨rfl,[(56,.bx 7 1)],AllN.get rfl (.cons rfl .nil),fun b hd hn hk hc=>?_⟩ ?_
      ·exact Bg (cdf (hn 6 rfl)) rfl (Bs rfl Dr rfl rfl (nb rfl) rfl) (cdf ((Ap rfl).trans (hn 6 rfl))) rfl
      refine .cons _ _ _ _ _ ⟨rfl,[(57,.hd 4 (a0.Classes_.map (Ak false)).length 0 (a0.Classes_.map (Ak false)).length)],AllN.get rfl (.cons rfl .nil),fun b hd hn hk hc=>?_⟩ ?_
      ·exact Bg (cdf (hn 6 rfl)) rfl (Dt (f:=Ak false) rfl rfl rfl rfl rfl) (cdf ((Ap rfl).trans (hn 6 rfl))) rfl
      refine .cons _ _ _ _ _ ⟨rfl,[(55,.bx 0 0),(58,.int .i64 (a0.Classes_.length:Int))],AllN.get rfl (.cons rfl (.cons rfl .nil)),fun b hd hn hk hc=>?_⟩ ?_
      ·exact Bg (cdf hk) rfl (Bn [0] rfl Ey rfl rfl (spec_l1Cur_pick_p c0 h32) rfl (by decide) (.cons _ _ _ _ rfl .nil) rfl rfl rfl) (((cdt Cu).trans (cdf ((Ap rfl).trans (hn 9 rfl)))).trans rfl) rfl
      refine .cons _ _ _ _ _ ⟨rfl,[(0,.bx 0 0)],AllN.get rfl (.cons rfl .nil),fun b hd hn hk hc=>?_⟩ ?_
      ·cases e6:b 6
       ·exact Bg (cdf e6) rfl (Bp rfl rfl) (cdf ((Ap rfl).trans e6)) rfl
       ·exact Bg ((cdt e6).trans (cdf (hn 9 rfl))) rfl (Bp rfl rfl) ((cdt ((Ap rfl).trans e6)).trans (cdf ((Ap rfl).trans (hn 9 rfl)))) rfl
      refine .cons _ _ _ _ _ ⟨rfl,[],AllN.get rfl .nil,fun b hd hn hk hc=>?_⟩ ?_
      ·cases e6:b 6
       ·exact Bg (cdf e6) rfl (A8 (rows:=([(ByteArray.mk #[110,111,115,117,99,104]),(ByteArray.mk #[99,108,97,115,115]),(ByteArray.mk #[99,110])]:List ByteArray).map (Aw)) rfl rfl Bm ⟨_,rfl,rfl⟩ (by decide) rfl rfl rfl rfl rfl rfl) (cdf ((Ap rfl).trans e6)) rfl
       ·exact Bg ((cdt e6).trans (cdf (hn 9 rfl))) rfl (A8 (rows:=([(ByteArray.mk #[110,111,115,117,99,104]),(ByteArray.mk #[99,108,97,115,115]),(ByteArray.mk #[99,110])]:List ByteArray).map (Aw)) rfl rfl Bm ⟨_,rfl,rfl⟩ (by decide) rfl rfl rfl rfl rfl rfl) ((cdt ((Ap rfl).trans e6)).trans (cdf ((Ap rfl).trans (hn 9 rfl)))) rfl
      refine .cons _ _ _ _ _ ⟨rfl,[(60,.bx 0 0),(61,.im false (([(ByteArray.mk #[110,111,115,117,99,104]),(ByteArray.mk #[99,108,97,115,115]),(ByteArray.mk #[99,110])]:List ByteArray).map (Aw)))],AllN.get rfl (.cons rfl (.cons rfl .nil)),fun b hd hn hk hc=>?_⟩ ?_
      ·exact Bg ((cdt (hd 6 rfl)).trans (cdf hk)) rfl (Bn [0] rfl en_43 rfl rfl (spec_l1Cur_of_p false c0 h35) rfl (by decide) (.cons _ _ _ _ rfl .nil) rfl rfl rfl) ((((cdt ((Ap rfl).trans (hd 6 rfl))).trans (cdt Cu)).trans (cdf ((Ap rfl).trans (hn 13 rfl)))).trans rfl) rfl
      refine .cons _ _ _ _ _ ⟨rfl,[(62,.str r33)],AllN.get rfl (.cons rfl .nil),fun b hd hn hk hc=>?_⟩ ?_
      ·exact Bg (((cdt (hd 6 rfl)).trans (cdt (hd 9 rfl))).trans (cdf (hn 13 rfl))) rfl (A8 (rows:=([r33]:List ByteArray).map (Aw)) rfl rfl Bm ⟨_,rfl,rfl⟩ (by decide) rfl rfl rfl rfl rfl rfl) (((cdt ((Ap rfl).trans (hd 6 rfl))).trans (cdt ((Ap rfl).trans (hd 9 rfl)))).trans (cdf ((Ap rfl).trans (hn 13 rfl)))) rfl
      refine .cons _ _ _ _ _ ⟨rfl,[(54,.hd 4 (a0.Classes_.map (Ak false)).length 0 (a0.Classes_.map (Ak false)).length),(59,.int .i64 r30)],AllN.get rfl (.cons rfl (.cons rfl .nil)),fun b hd hn hk hc=>?_⟩ ?_
      ·exact Bg (((cdt (hd 6 rfl)).trans (cdt (hd 9 rfl))).trans (cdf (hn 13 rfl))) rfl (C2 (f:=Ak false) rfl rfl Dw rfl rfl rfl rfl h37 rfl) (((cdt ((Ap rfl).trans (hd 6 rfl))).trans (cdt ((Ap rfl).trans (hd 9 rfl)))).trans (cdf ((Ap rfl).trans (hn 13 rfl)))) rfl
      refine .cons _ _ _ _ _ ⟨rfl,[(64,.el 4 (a0.Classes_.map (Ak false)).length (Int.toNat r30) 0)],AllN.get rfl (.cons rfl .nil),fun b hd hn hk hc=>?_⟩ ?_
      ·exact Bg (((cdt (hd 6 rfl)).trans (cdt (hd 9 rfl))).trans (cdf (hn 13 rfl))) rfl (Cn rfl rfl rfl E0 (by decide) rfl rfl rfl) (((cdt ((Ap rfl).trans (hd 6 rfl))).trans (cdt ((Ap rfl).trans (hd 9 rfl)))).trans (cdf ((Ap rfl).trans (hn 13 rfl)))) rfl
      refine .cons _ _ _ _ _ ⟨rfl,[(63,.im false (([r33]:List ByteArray).map (Aw))),(65,.el 4 (a0.Classes_.map (Ak false)).length (Int.toNat r30) 2)],AllN.get rfl (.cons rfl (.cons rfl .nil)),fun b hd hn hk hc=>?_⟩ ?_
      ·exact Bg (((cdt (hd 6 rfl)).trans (cdt (hd 9 rfl))).trans (cdf hk)) rfl (B1.to (Dz (f:=Ak false) (xs:=a0.Classes_) (k:=r30) (a:=e36) ({ e36 with Must_:=([r33]:List ByteArray) }:Ax) rfl E0 rfl rfl rfl rfl (by decide) h37 rfl rfl rfl (fun _=>rfl) rfl) (Dq (Dq (Dq (Dq (Dq (Dq (Dq (eqAtB (show (.box [.hd 3 (a0.Types_.map (Ae false)).length 0 (a0.Types_.map (Ae false)).length,.hd 4 (a0.Classes_.map (Ak false)).length 0 (a0.Classes_.map (Ak false)).length]:AO) = .box [.hd 3 (a0.Types_.map (Ae false)).length 0 (a0.Types_.map (Ae false)).length,.hd 4 ((a0.Classes_.set (Int.toNat r30) ({ e36 with Must_:=([r33]:List ByteArray) }:Ax)).map (Ak false)).length 0 ((a0.Classes_.set (Int.toNat r30) ({ e36 with Must_:=([r33]:List ByteArray) }:Ax)).map (Ak false)).length] by simp only[List.length_map,List.length_set]) rfl))))))))) ((((cdt ((Ap rfl).trans (hd 6 rfl))).trans (cdt ((Ap rfl).trans (hd 9 rfl)))).trans (cdt Cu)).trans rfl) rfl
      exact .nil _
     ·intro b b' h;simp only[h 6 (by decide),h 9 (by decide),h 13 (by decide)]
     refine Bh (Af ?_)
     refine T.conv (Cs.eqV (t:=54) (v':=.hd 4 ((a0.Classes_.set (Int.toNat r30) ({ e36 with Must_:=([r33]:List ByteArray) }:Ax)).map (Ak false)).length 0 ((a0.Classes_.set (Int.toNat r30) ({ e36 with Must_:=([r33]:List ByteArray) }:Ax)).map (Ak false)).length) rfl (B2 _ (List.length_set ..))) ?_
     refine T.conv (Cs.eqV (t:=57) (v':=.hd 4 ((a0.Classes_.set (Int.toNat r30) ({ e36 with Must_:=([r33]:List ByteArray) }:Ax)).map (Ak false)).length 0 ((a0.Classes_.set (Int.toNat r30) ({ e36 with Must_:=([r33]:List ByteArray) }:Ax)).map (Ak false)).length) rfl (B2 _ (List.length_set ..))) ?_
     refine T.seq ?_
     refine T.conv (Cs.eqS (σ':=[.box (Ai c0 o34),_,_,_,.arr .clo 4 ((a0.Classes_.set (Int.toNat r30) ({ e36 with Must_:=([r33]:List ByteArray) }:Ax)).map (Ak false)),_,_,.box (As 3 4 false (⟨a0.Types_,(a0.Classes_.set (Int.toNat r30) ({ e36 with Must_:=([r33]:List ByteArray) }:Ax))⟩:Ah)),_]) rfl) ?_
     refine au 2 ?_
     refine TL.sn rfl rfl (Cm rfl Dy rfl rfl rfl rfl (nb rfl) (Ci rfl rfl (Ci rfl rfl rfl))) ?_
     refine TL.nil ?_
     refine T.conv (Cs.wkF (M:=9) (.k 4 rfl rfl .nil)) ?_
     refine T.conv (Cs.reloc 5 3 rfl rfl (by decide) rfl rfl rfl (Bv rfl)) ?_
     refine T.conv (Cs.wkF (M:=9) (.k 4 rfl rfl .nil)) ?_
     refine T.conv (Cs.eqS (σ':=[_,_,_,.dead,_,.arr .clo 3 (a0.Types_.map (Ae false)),_,.box (As 5 4 false (⟨a0.Types_,(a0.Classes_.set (Int.toNat r30) ({ e36 with Must_:=([r33]:List ByteArray) }:Ax))⟩:Ah)),.box (As 5 4 false (⟨a0.Types_,(a0.Classes_.set (Int.toNat r30) ({ e36 with Must_:=([r33]:List ByteArray) }:Ax))⟩:Ah))]) rfl) ?_
     refine T.conv (Cs.reloc 6 4 rfl rfl (by decide) rfl rfl rfl (Bv rfl)) ?_
     refine T.conv (Cs.wkF (M:=9) (.k 4 rfl rfl .nil)) ?_
     refine T.conv (Cs.eqS (σ':=[_,_,_,_,.dead,_,.arr .clo 4 ((a0.Classes_.set (Int.toNat r30) ({ e36 with Must_:=([r33]:List ByteArray) }:Ax)).map (Ak false)),.box (As 5 6 false (⟨a0.Types_,(a0.Classes_.set (Int.toNat r30) ({ e36 with Must_:=([r33]:List ByteArray) }:Ax))⟩:Ah)),.box (As 5 6 false (⟨a0.Types_,(a0.Classes_.set (Int.toNat r30) ({ e36 with Must_:=([r33]:List ByteArray) }:Ax))⟩:Ah))]) rfl) ?_
     refine T.ret ?_
     cases Ad H
     exact⟨trivial,_,(.cell _ _ _ _ _ _ _ _ _ _ rfl rfl Dy (nb rfl) rfl .nil),⟨rfl,_,rfl⟩⟩
    ·refine au 5 ?_
     refine T.cH H ?_ ?_<;>intro H h
     ·refine au 3 ?_
      obtain⟨e38,h39,H⟩:=Ac H
      refine TL.st rfl rfl rfl (C2 (f:=Ae false) rfl rfl D6 rfl rfl rfl rfl h39 rfl) ?_
      refine TL.st rfl rfl rfl (Cn rfl rfl rfl Cz (by decide) rfl rfl rfl) ?_
      refine TL.sn rfl rfl (Dz (f:=Ae false) (xs:=a0.Types_) (k:=0) (a:=e38) (⟨e38.Name_,e38.Syntax_,true⟩:Ar) rfl Cz rfl rfl rfl rfl (by decide) h39 rfl rfl rfl (fun _=>rfl) rfl) ?_
      refine TL.conv (Cs.eqS (σ:=[.box (Ai c0 o2),.dead,.dead,.arr .clo 3 ((a0.Types_.set (Int.toNat 0) (⟨e38.Name_,e38.Syntax_,true⟩:Ar)).map (Ae false)),.arr .clo 4 (a0.Classes_.map (Ak false)),.dead,.dead,.box [.hd 3 (a0.Types_.map (Ae false)).length 0 (a0.Types_.map (Ae false)).length,.hd 4 (a0.Classes_.map (Ak false)).length 0 (a0.Classes_.map (Ak false)).length],.box [.nilS,.nilS]]) (σ':=[.box (Ai c0 o2),.dead,.dead,.arr .clo 3 ((a0.Types_.set (Int.toNat 0) (⟨e38.Name_,e38.Syntax_,true⟩:Ar)).map (Ae false)),.arr .clo 4 (a0.Classes_.map (Ak false)),.dead,.dead,.box [.hd 3 ((a0.Types_.set (Int.toNat 0) (⟨e38.Name_,e38.Syntax_,true⟩:Ar)).map (Ae false)).length 0 ((a0.Types_.set (Int.toNat 0) (⟨e38.Name_,e38.Syntax_,true⟩:Ar)).map (Ae false)).length,.hd 4 (a0.Classes_.map (Ak false)).length 0 (a0.Classes_.map (Ak false)).length],.box [.nilS,.nilS]]) (by simp only[List.length_map,List.length_set])) ?_
      refine TL.conv (Cs.eqV (t:=69) (v':=.hd 3 ((a0.Types_.set (Int.toNat 0) (⟨e38.Name_,e38.Syntax_,true⟩:Ar)).map (Ae false)).length 0 ((a0.Types_.set (Int.toNat 0) (⟨e38.Name_,e38.Syntax_,true⟩:Ar)).map (Ae false)).length) rfl (B2 _ (List.length_set ..))) ?_
      refine TL.conv (Cs.eqV (t:=70) (v':=.el 3 ((a0.Types_.set (Int.toNat 0) (⟨e38.Name_,e38.Syntax_,true⟩:Ar)).map (Ae false)).length (Int.toNat 0) 0) rfl (Dv _ _ _ (List.length_set ..))) ?_
      refine TL.conv (Cs.eqV (t:=71) (v':=.el 3 ((a0.Types_.set (Int.toNat 0) (⟨e38.Name_,e38.Syntax_,true⟩:Ar)).map (Ae false)).length (Int.toNat 0) 2) rfl (Dv _ _ _ (List.length_set ..))) ?_
      refine au 4 ?_
      refine TL.sn rfl rfl (Cm rfl Dy rfl rfl rfl rfl (nb rfl) (Ci rfl rfl (Ci rfl rfl rfl))) ?_
      refine TL.nil ?_
      refine T.conv (Cs.wkF (M:=9) (.k 4 rfl rfl .nil)) ?_
      refine T.conv (Cs.reloc 5 3 rfl rfl (by decide) rfl rfl rfl (Bv rfl)) ?_
      refine T.conv (Cs.wkF (M:=9) (.k 4 rfl rfl .nil)) ?_
      refine T.conv (Cs.eqS (σ':=[_,_,_,.dead,_,.arr .clo 3 ((a0.Types_.set (Int.toNat 0) (⟨e38.Name_,e38.Syntax_,true⟩:Ar)).map (Ae false)),_,.box (As 5 4 false (⟨(a0.Types_.set (Int.toNat 0) (⟨e38.Name_,e38.Syntax_,true⟩:Ar)),a0.Classes_⟩:Ah)),.box (As 5 4 false (⟨(a0.Types_.set (Int.toNat 0) (⟨e38.Name_,e38.Syntax_,true⟩:Ar)),a0.Classes_⟩:Ah))]) rfl) ?_
      refine T.conv (Cs.reloc 6 4 rfl rfl (by decide) rfl rfl rfl (Bv rfl)) ?_
      refine T.conv (Cs.wkF (M:=9) (.k 4 rfl rfl .nil)) ?_
      refine T.conv (Cs.eqS (σ':=[_,_,_,_,.dead,_,.arr .clo 4 (a0.Classes_.map (Ak false)),.box (As 5 6 false (⟨(a0.Types_.set (Int.toNat 0) (⟨e38.Name_,e38.Syntax_,true⟩:Ar)),a0.Classes_⟩:Ah)),.box (As 5 6 false (⟨(a0.Types_.set (Int.toNat 0) (⟨e38.Name_,e38.Syntax_,true⟩:Ar)),a0.Classes_⟩:Ah))]) rfl) ?_
      refine T.ret ?_
      cases Ad H
      exact⟨trivial,_,(.cell _ _ _ _ _ _ _ _ _ _ rfl rfl Dy (nb rfl) rfl .nil),⟨rfl,_,rfl⟩⟩
     ·refine au 4 ?_
      refine TL.sn rfl rfl (Cm rfl Dy rfl rfl rfl rfl (nb rfl) (Ci rfl rfl (Ci rfl rfl rfl))) ?_
      refine TL.nil ?_
      refine T.conv (Cs.wkF (M:=9) (.k 4 rfl rfl .nil)) ?_
      refine T.conv (Cs.reloc 5 3 rfl rfl (by decide) rfl rfl rfl (Bv rfl)) ?_
      refine T.conv (Cs.wkF (M:=9) (.k 4 rfl rfl .nil)) ?_
      refine T.conv (Cs.eqS (σ':=[_,_,_,.dead,_,.arr .clo 3 (a0.Types_.map (Ae false)),_,.box (As 5 4 false a0),.box (As 5 4 false a0)]) rfl) ?_
      refine T.conv (Cs.reloc 6 4 rfl rfl (by decide) rfl rfl rfl (Bv rfl)) ?_
      refine T.conv (Cs.wkF (M:=9) (.k 4 rfl rfl .nil)) ?_
      refine T.conv (Cs.eqS (σ':=[_,_,_,_,.dead,_,.arr .clo 4 (a0.Classes_.map (Ak false)),.box (As 5 6 false a0),.box (As 5 6 false a0)]) rfl) ?_
      refine T.ret ?_
      cases Ad H
      exact⟨trivial,_,(.cell _ _ _ _ _ _ _ _ _ _ rfl rfl Dy (nb rfl) rfl .nil),⟨rfl,_,rfl⟩⟩
theorem en_24:En Tryz.prog 24:=.of Tryz.func24 rfl rfl
theorem Em:TyS Tryz.prog 96 true 2:=⟨rfl,rfl⟩
theorem tyE_96:TyE Tryz.prog 96 2:=⟨_,_,rfl,rfl,rfl,rfl,by decide,by decide⟩
noncomputable def spec_l1Cur_dirName_j2(b4:Ag)(l5:List A4):Option ((List A4)×Ag) :=
  (app l5 ([(⟨(ByteArray.mk #[111]),(ByteArray.mk #[111,114,103])⟩:A4)]:List A4)).bind fun l6=>some (l6,b4)
noncomputable def spec_l1Cur_dirName_j1(b2:Ag)(l3:List A4):Option ((List A4)×Ag) :=
  (Cg 3 b2).bind fun q=>(match q with | (r8,o9)=>cond (!r8) ((Bw ([(ByteArray.mk #[108,97,98]),(ByteArray.mk #[115,97,108,101,115])]:List ByteArray) o9).bind fun q=>(match q with | (r11,o12)=>(app l3 ([(⟨(ByteArray.mk #[111,117]),r11⟩:A4)]:List A4)).bind fun l14=>spec_l1Cur_dirName_j2 o12 l14)) (spec_l1Cur_dirName_j2 o9 l3))
noncomputable def spec_l1Cur_dirName(s0:Ag):Option ((List A4)×Ag) :=
  (Cg 4 s0).bind fun q=>(match q with | (r16,o17)=>cond (!r16) ((Bw ([(ByteArray.mk #[97,110,110]),(ByteArray.mk #[98,111,98]),(ByteArray.mk #[67,121]),(ByteArray.mk #[100,44,101]),(ByteArray.mk #[92,102])]:List ByteArray) o17).bind fun q=>(match q with | (r19,o20)=>(app ([]:List A4) ([(⟨(ByteArray.mk #[99,110]),r19⟩:A4)]:List A4)).bind fun l22=>spec_l1Cur_dirName_j1 o20 l22)) (spec_l1Cur_dirName_j1 o17 ([]:List A4)))
theorem spec_l1Cur_dirName_p(c0:Bool){s0:Ag}{R0:(List A4)}{U0:Ag}(H:spec_l1Cur_dirName s0=some (R0,U0)):St Tryz.prog 40 [.bx 0 0] [.box (Ai c0 s0)] (.im false (R0.map (A5 false))) [.box (Ai c0 U0)]:=by
 refine Ba.fin (Ba.of_TN (n:=28) Tryz.func40 rfl rfl rfl rfl ?_) rfl rfl ⟨(Bt.1 rfl),trivial⟩
 refine au 8 ?_
 refine T.conv (Cs.own (t:=3) 2 rfl (by decide)) ?_
 refine T.cut (fun fr' σ'=>∃ (b2:Ag) (l3:List A4),fr' = [(0,.bx 0 0),(3,.hd 1 (l3.map (A5 false)).length 0 (l3.map (A5 false)).length)]∧σ' = [.box (Ai c0 b2),.arr .clo 2 (l3.map (A5 false))]∧spec_l1Cur_dirName_j1 b2 l3=some (R0,U0)) (T.pk ?_) ?_
 ·skip
  refine au 3 ?_
  obtain⟨⟨r16,o17⟩,h18,H⟩:=Ac H
  refine TL.st rfl rfl rfl (Bn [0] rfl en_41 rfl rfl (spec_l1Cur_one_p c0 h18) rfl (by decide) (.cons _ _ _ _ rfl .nil) rfl rfl rfl) ?_
  refine au 2 ?_
  refine T.cH H ?_ ?_<;>intro H h
  ·refine au 3 ?_
   refine TL.st rfl rfl rfl (A8 (rows:=([(ByteArray.mk #[97,110,110]),(ByteArray.mk #[98,111,98]),(ByteArray.mk #[67,121]),(ByteArray.mk #[100,44,101]),(ByteArray.mk #[92,102])]:List ByteArray).map (Aw)) rfl rfl Bm ⟨_,rfl,rfl⟩ (by decide) rfl rfl rfl rfl rfl rfl) ?_
   obtain⟨⟨r19,o20⟩,h21,H⟩:=Ac H
   refine TL.st rfl rfl rfl (Bn [0] rfl en_43 rfl rfl (spec_l1Cur_of_p false c0 h21) rfl (by decide) (.cons _ _ _ _ rfl .nil) rfl rfl rfl) ?_
   refine TL.st rfl rfl rfl (Es rfl ⟨_,fun _=>rfl,rfl⟩ rfl rfl rfl) ?_
   refine TL.st rfl rfl rfl (A8 (rows:=([(⟨(ByteArray.mk #[99,110]),r19⟩:A4)]:List A4).map (A5 false)) rfl rfl Em ⟨_,rfl,rfl⟩ (by decide) rfl rfl rfl rfl rfl rfl) ?_
   obtain⟨l22,h23,H⟩:=Ac H
   refine TL.st rfl rfl rfl (Ee (f:=A5 false) (xs:=([]:List A4)) (ys:=([(⟨(ByteArray.mk #[99,110]),r19⟩:A4)]:List A4)) rfl rfl tyE_96 rfl rfl rfl rfl (by decide) rfl (fun _=>rfl) h23) ?_
   refine au 2 ?_
   exact Pk.of (Af ⟨o20,l22,rfl,rfl,H⟩)
  ·refine T.skip ?_
   exact Pk.of (Af ⟨o17,([]:List A4),rfl,rfl,H⟩)
 ·rintro _ _ ⟨b2,l3,rfl,rfl,H⟩
  refine T.cut (fun fr' σ'=>∃ (b4:Ag) (l5:List A4),fr' = [(3,.hd 1 (l5.map (A5 false)).length 0 (l5.map (A5 false)).length)]∧σ' = [.box (Ai c0 b4),.arr .clo 2 (l5.map (A5 false))]∧spec_l1Cur_dirName_j2 b4 l5=some (R0,U0)) (T.pk ?_) ?_
  ·skip
   refine au 3 ?_
   obtain⟨⟨r8,o9⟩,h10,H⟩:=Ac H
   refine TL.st rfl rfl rfl (Bn [0] rfl en_41 rfl rfl (spec_l1Cur_one_p c0 h10) rfl (by decide) (.cons _ _ _ _ rfl .nil) rfl rfl rfl) ?_
   refine au 2 ?_
   refine T.cH H ?_ ?_<;>intro H h
   ·refine au 3 ?_
    refine TL.st rfl rfl rfl (A8 (rows:=([(ByteArray.mk #[108,97,98]),(ByteArray.mk #[115,97,108,101,115])]:List ByteArray).map (Aw)) rfl rfl Bm ⟨_,rfl,rfl⟩ (by decide) rfl rfl rfl rfl rfl rfl) ?_
    obtain⟨⟨r11,o12⟩,h13,H⟩:=Ac H
    refine TL.st rfl rfl rfl (Bn [0] rfl en_43 rfl rfl (spec_l1Cur_of_p false c0 h13) rfl (by decide) (.cons _ _ _ _ rfl .nil) rfl rfl rfl) ?_
    refine TL.st rfl rfl rfl (Es rfl ⟨_,fun _=>rfl,rfl⟩ rfl rfl rfl) ?_
    refine TL.st rfl rfl rfl (A8 (rows:=([(⟨(ByteArray.mk #[111,117]),r11⟩:A4)]:List A4).map (A5 false)) rfl rfl Em ⟨_,rfl,rfl⟩ (by decide) rfl rfl rfl rfl rfl rfl) ?_
    obtain⟨l14,h15,H⟩:=Ac H
    refine TL.st rfl rfl rfl (Ee (f:=A5 false) (xs:=l3) (ys:=([(⟨(ByteArray.mk #[111,117]),r11⟩:A4)]:List A4)) rfl rfl tyE_96 rfl rfl rfl rfl (by decide) rfl (fun _=>rfl) h15) ?_
    refine au 2 ?_
    exact Pk.of (Af ⟨o12,l14,rfl,rfl,H⟩)
   ·refine T.skip ?_
    exact Pk.of (Af ⟨o9,l3,rfl,rfl,H⟩)
  ·rintro _ _ ⟨b4,l5,rfl,rfl,H⟩
   refine au 4 ?_
   refine TL.st rfl rfl rfl (A8 (rows:=([(⟨(ByteArray.mk #[111]),(ByteArray.mk #[111,114,103])⟩:A4)]:List A4).map (A5 false)) rfl rfl Em ⟨_,rfl,rfl⟩ (by decide) rfl rfl rfl rfl rfl rfl) ?_
   obtain⟨l6,h7,H⟩:=Ac H
   refine TL.st rfl rfl rfl (Ee (f:=A5 false) (xs:=l5) (ys:=([(⟨(ByteArray.mk #[111]),(ByteArray.mk #[111,114,103])⟩:A4)]:List A4)) rfl rfl tyE_96 rfl rfl rfl rfl (by decide) rfl (fun _=>rfl) h7) ?_
   refine au 2 ?_
   refine T.conv (Cs.frzOwn (t:=2) rfl rfl rfl) ?_
   refine T.ret ?_
   cases Ad H
   exact⟨trivial,_,(.tmp _ _ _ _ rfl .nil),⟨rfl,_,rfl⟩⟩
theorem en_40:En Tryz.prog 40:=.of Tryz.func40 rfl rfl
theorem De:TyS Tryz.prog 30 true 2:=⟨rfl,rfl⟩
noncomputable def spec_l1Cur_attrText_j1(s0:Ag)(v7:Bool):Option (ByteArray×Ag) :=
  cond v7 ((Bw ([(ByteArray.mk #[99,110,61,97,110,110,44,111,61,111,114,103]),(ByteArray.mk #[99,110,61,98,111,98,44,111,117,61,108,97,98,44,111,61,111,114,103]),e0,(ByteArray.mk #[120]),(ByteArray.mk #[99,110,61,67,121,44,111,61,111,114,103])]:List ByteArray) s0).bind fun q=>(match q with | (r8,o9)=>some (r8,o9))) ((Bw ([(ByteArray.mk #[97,110,110]),(ByteArray.mk #[65,110,110]),(ByteArray.mk #[98,111,98]),(ByteArray.mk #[97,42,98]),(ByteArray.mk #[40,120,41]),(ByteArray.mk #[108,97,98]),(ByteArray.mk #[126,116]),(ByteArray.mk #[100,44,101])]:List ByteArray) s0).bind fun q=>(match q with | (r11,o12)=>some (r11,o12)))
noncomputable def spec_l1Cur_attrText(a0:ByteArray)(s0:Ag):Option (ByteArray×Ag) :=
  cond (a0.toList==(ByteArray.mk #[99,108,97,115,115]).toList) ((Bw ([(ByteArray.mk #[80,101,114,115,111,110]),(ByteArray.mk #[83,116,97,102,102]),(ByteArray.mk #[71,114,111,117,112]),(ByteArray.mk #[84,111,112]),(ByteArray.mk #[80,101,114,115,111,110]),(ByteArray.mk #[82,111,98,111,116])]:List ByteArray) s0).bind fun q=>(match q with | (r1,o2)=>some (r1,o2))) (cond (a0.toList==(ByteArray.mk #[97,103,101]).toList) ((Bw ([(ByteArray.mk #[55]),(ByteArray.mk #[51,48]),(ByteArray.mk #[45,49]),(ByteArray.mk #[48,55]),(ByteArray.mk #[111,108,100])]:List ByteArray) s0).bind fun q=>(match q with | (r4,o5)=>some (r4,o5))) (cond (a0.toList==(ByteArray.mk #[98,111,115,115]).toList) (spec_l1Cur_attrText_j1 s0 (a0.toList==(ByteArray.mk #[98,111,115,115]).toList)) (spec_l1Cur_attrText_j1 s0 (a0.toList==(ByteArray.mk #[109,101,109,98,101,114]).toList))))
theorem spec_l1Cur_attrText_p(c0:Bool){a0:ByteArray}{s0:Ag}{R0:ByteArray}{U0:Ag}(H:spec_l1Cur_attrText a0 s0=some (R0,U0)):St Tryz.prog 67 [.bx 0 0,.str a0] [.box (Ai c0 s0)] (.str R0) [.box (Ai c0 U0)]:=by
 refine Ba.fin (Ba.of_TN (n:=25) Tryz.func67 rfl rfl rfl rfl ?_) rfl rfl ⟨(Bt.1 rfl),trivial⟩
 refine au 15 ?_
 refine T.cH H ?_ ?_<;>intro H h
 ·refine au 3 ?_
  refine TL.st rfl rfl rfl (A8 (rows:=([(ByteArray.mk #[80,101,114,115,111,110]),(ByteArray.mk #[83,116,97,102,102]),(ByteArray.mk #[71,114,111,117,112]),(ByteArray.mk #[84,111,112]),(ByteArray.mk #[80,101,114,115,111,110]),(ByteArray.mk #[82,111,98,111,116])]:List ByteArray).map (Aw)) rfl rfl Bm ⟨_,rfl,rfl⟩ (by decide) rfl rfl rfl rfl rfl rfl) ?_
  obtain⟨⟨r1,o2⟩,h3,H⟩:=Ac H
  refine TL.st rfl rfl rfl (Bn [0] rfl en_43 rfl rfl (spec_l1Cur_of_p false c0 h3) rfl (by decide) (.cons _ _ _ _ rfl .nil) rfl rfl rfl) ?_
  refine au 3 ?_
  refine Av (Aj ?_)
  cases Ad H
  exact⟨trivial,_,(.tmp _ _ _ _ rfl .nil),⟨rfl,_,rfl⟩⟩
 ·refine au 5 ?_
  refine T.cH H ?_ ?_<;>intro H h
  ·refine au 3 ?_
   refine TL.st rfl rfl rfl (A8 (rows:=([(ByteArray.mk #[55]),(ByteArray.mk #[51,48]),(ByteArray.mk #[45,49]),(ByteArray.mk #[48,55]),(ByteArray.mk #[111,108,100])]:List ByteArray).map (Aw)) rfl rfl Bm ⟨_,rfl,rfl⟩ (by decide) rfl rfl rfl rfl rfl rfl) ?_
   obtain⟨⟨r4,o5⟩,h6,H⟩:=Ac H
   refine TL.st rfl rfl rfl (Bn [0] rfl en_43 rfl rfl (spec_l1Cur_of_p false c0 h6) rfl (by decide) (.cons _ _ _ _ rfl .nil) rfl rfl rfl) ?_
   refine au 3 ?_
   refine Av (Aj ?_)
   cases Ad H
   exact⟨trivial,_,(.tmp _ _ _ _ rfl .nil),⟨rfl,_,rfl⟩⟩
  ·refine T.cut (fun fr' σ'=>∃ (v7:Bool),fr' = [(0,.bx 0 0),(16,.bool v7)]∧σ' = [.box (Ai c0 s0)]∧spec_l1Cur_attrText_j1 s0 v7=some (R0,U0)) (T.pk ?_) ?_
   ·skip
    refine au 5 ?_
    refine T.cH H ?_ ?_<;>intro H h
    ·refine T.skip ?_
     exact Pk.of (Af ⟨(a0.toList==(ByteArray.mk #[98,111,115,115]).toList),rfl,rfl,H⟩)
    ·refine au 4 ?_
     exact Pk.of (Af ⟨(a0.toList==(ByteArray.mk #[109,101,109,98,101,114]).toList),rfl,rfl,H⟩)
   ·rintro _ _ ⟨v7,rfl,rfl,H⟩
    refine T.cH H ?_ ?_<;>intro H h
    ·refine au 3 ?_
     refine TL.st rfl rfl rfl (A8 (rows:=([(ByteArray.mk #[99,110,61,97,110,110,44,111,61,111,114,103]),(ByteArray.mk #[99,110,61,98,111,98,44,111,117,61,108,97,98,44,111,61,111,114,103]),e0,(ByteArray.mk #[120]),(ByteArray.mk #[99,110,61,67,121,44,111,61,111,114,103])]:List ByteArray).map (Aw)) rfl rfl Bm ⟨_,rfl,rfl⟩ (by decide) rfl rfl rfl rfl rfl rfl) ?_
     obtain⟨⟨r8,o9⟩,h10,H⟩:=Ac H
     refine TL.st rfl rfl rfl (Bn [0] rfl en_43 rfl rfl (spec_l1Cur_of_p false c0 h10) rfl (by decide) (.cons _ _ _ _ rfl .nil) rfl rfl rfl) ?_
     refine au 3 ?_
     refine Av (Aj ?_)
     cases Ad H
     exact⟨trivial,_,(.tmp _ _ _ _ rfl .nil),⟨rfl,_,rfl⟩⟩
    ·refine au 4 ?_
     refine TL.st rfl rfl rfl (A8 (rows:=([(ByteArray.mk #[97,110,110]),(ByteArray.mk #[65,110,110]),(ByteArray.mk #[98,111,98]),(ByteArray.mk #[97,42,98]),(ByteArray.mk #[40,120,41]),(ByteArray.mk #[108,97,98]),(ByteArray.mk #[126,116]),(ByteArray.mk #[100,44,101])]:List ByteArray).map (Aw)) rfl rfl Bm ⟨_,rfl,rfl⟩ (by decide) rfl rfl rfl rfl rfl rfl) ?_
     obtain⟨⟨r11,o12⟩,h13,H⟩:=Ac H
     refine TL.st rfl rfl rfl (Bn [0] rfl en_43 rfl rfl (spec_l1Cur_of_p false c0 h13) rfl (by decide) (.cons _ _ _ _ rfl .nil) rfl rfl rfl) ?_
     refine au 3 ?_
     cases Ad H
     exact⟨trivial,_,(.tmp _ _ _ _ rfl .nil),⟨rfl,_,rfl⟩⟩
theorem en_67:En Tryz.prog 67:=.of Tryz.func67 rfl rfl
noncomputable def spec_l1CmpNum(a0:Int)(a1:Int):Option Int :=
  cond (decide (a0<a1)) (some (-1)) (cond (decide (a0 > a1)) (some 1) (some 0))
theorem spec_l1CmpNum_p {a0:Int} {a1:Int} {R0:Int} (H:spec_l1CmpNum a0 a1=some R0):Bu Tryz.prog 106 [.int .i64 a0,.int .i64 a1] (.int .i64 R0):=by
 refine Ba.of_TN (n:=11) Tryz.func106 rfl rfl rfl rfl ?_
 refine au 11 ?_
 refine T.cH H ?_ ?_<;>intro H h
 ·refine au 5 ?_
  refine Aj ?_
  cases Ad H
  exact⟨trivial,_,(.tmp _ _ _ _ rfl .nil),(.cl _ rfl)⟩
 ·refine au 8 ?_
  refine T.cH H ?_ ?_<;>intro H h
  ·refine au 5 ?_
   refine Aj ?_
   cases Ad H
   exact⟨trivial,_,(.tmp _ _ _ _ rfl .nil),(.cl _ rfl)⟩
  ·refine au 6 ?_
   cases Ad H
   exact⟨trivial,_,(.tmp _ _ _ _ rfl .nil),(.cl _ rfl)⟩
theorem en_106:En Tryz.prog 106:=.of Tryz.func106 rfl rfl
noncomputable def spec_l1CmpText_l1(a0:ByteArray)(a1:ByteArray):Int→Option (Int⊕(Unit⊕Int)):=fun s=>match s with
  | v1=>cond (decide (v1<(a0.size:Int))&&decide (v1<(a1.size:Int))) ((Cr a0 v1).bind fun b6=>(Cr a1 v1).bind fun b8=>cond (b6 != b8) ((Cr a0 v1).bind fun b10=>(Cr a1 v1).bind fun b12=>(spec_l1CmpNum (IntKind.i64.wrap b10) (IntKind.i64.wrap b12)).bind fun r14=>some (.inr (.inr r14))) (some (.inl (IntKind.i64.wrap (v1+1))))) (some (.inr (.inl ())))
noncomputable def B0(a0:ByteArray)(a1:ByteArray):Option Int :=
  (loopO (spec_l1CmpText_l1 a0 a1) 0).bind fun q16=>(match q16 with | .inl _=>(spec_l1CmpNum (a0.size:Int) (a1.size:Int)).bind fun r3=>some r3 | .inr q2=>some q2)
theorem spec_l1CmpText_p {a0:ByteArray} {a1:ByteArray} {R0:Int} (H:B0 a0 a1=some R0):Bu Tryz.prog 61 [.str a0,.str a1] (.int .i64 R0):=by
 refine Ba.of_TN (n:=39) Tryz.func61 rfl rfl rfl rfl ?_
 refine au 10 ?_
 obtain⟨q16,h17,H⟩:=Ac H
 refine T.lq (fun s=>match s with | v1=>[(0,.str a0),(1,.str a1),(5,.int .i64 v1)]) (fun s=>match s with | v1=>[]) (fun q ex fr σ=>match q with | .inl _=>ex = .exit 0∧fr = [(0,.str a0),(1,.str a1)]∧σ = [] | .inr q2=>ex = .ret∧C5 Tryz.prog [.tmp 4] (fun v τ=>Told τ v (.int .i64 q2)) .ret fr σ) h17 ?_ ?_
 ·rintro v1 y5 H
  refine au 10 ?_
  refine TL.gcq rfl rfl rfl (.bool _) rfl rfl (fun h=>Fb rfl rfl (gv h rfl)) ?_
  refine TL.gcq rfl rfl rfl (.bool _) rfl rfl (fun h=>B3 rfl (gv h rfl) (gv h rfl) rfl) ?_
  refine au 2 ?_
  refine T.cH H ?_ ?_<;>intro H h
  ·refine au 4 ?_
   refine T.drawn rfl ?_
   refine ad 2 ?_
   obtain⟨b6,h7,H⟩:=Ac H
   refine TD.qs rfl rfl (fun _=>Ct rfl rfl rfl rfl h7) ?_
   refine ad 2 ?_
   obtain⟨b8,h9,H⟩:=Ac H
   refine TD.qs rfl rfl (fun _=>Ct rfl rfl rfl rfl h9) ?_
   refine TD.qs rfl rfl (fun _=>B3 rfl rfl rfl rfl) ?_
   refine TD.nil ⟨rfl,?_⟩
   refine Af ?_
   refine T.cH H ?_ ?_<;>intro H h
   ·refine T.seq ?_
    refine T.drawn rfl ?_
    refine ad 2 ?_
    obtain⟨b10,h11,H⟩:=Ac H
    refine TD.qs rfl rfl (fun _=>Ct rfl rfl rfl rfl h11) ?_
    refine TD.qs rfl rfl (fun _=>o_conv rfl rfl ⟨_,rfl⟩ rfl) ?_
    refine ad 2 ?_
    obtain⟨b12,h13,H⟩:=Ac H
    refine TD.qs rfl rfl (fun _=>Ct rfl rfl rfl rfl h13) ?_
    refine TD.qs rfl rfl (fun _=>o_conv rfl rfl ⟨_,rfl⟩ rfl) ?_
    obtain⟨r14,h15,H⟩:=Ac H
    refine TD.qs rfl rfl (fun _=>Aq rfl en_106 rfl rfl (.cons _ _ _ _ (.cl _ rfl) (.cons _ _ _ _ (.cl _ rfl) .nil)) (spec_l1CmpNum_p  h15)) ?_
    refine TD.qs rfl rfl (fun _=>Dm rfl rfl) ?_
    refine TD.nil ⟨rfl,?_⟩
    refine T.ret ?_
    refine Av (Aj ?_)
    exact Pk.id (Aj ⟨.inr r14,(Ad H).symm,rfl,⟨trivial,_,(.tmp _ _ _ _ rfl .nil),(.cl _ rfl)⟩⟩)
   ·refine au 6 ?_
    exact Pk.of (Af ⟨(IntKind.i64.wrap (v1+1)),(Ad H).symm,rfl,rfl⟩)
  ·refine T.exit ?_
   refine Am ?_
   exact Pk.of (Am ⟨.inl (),(Ad H).symm,rfl,rfl,rfl⟩)
 ·rcases q16 with ⟨⟩ | q2
  ·rintro _ _ _ ⟨rfl,rfl,rfl⟩
   refine A6 ?_
   refine au 6 ?_
   obtain⟨r3,h4,H⟩:=Ac H
   refine TL.st rfl rfl rfl (Aq rfl en_106 rfl rfl (.cons _ _ _ _ (.cl _ rfl) (.cons _ _ _ _ (.cl _ rfl) .nil)) (spec_l1CmpNum_p  h4)) ?_
   refine au 3 ?_
   cases Ad H
   exact⟨trivial,_,(.tmp _ _ _ _ rfl .nil),(.cl _ rfl)⟩
  ·rintro _ fr1 σ1 ⟨rfl,hr⟩
   refine Av (Aj ?_)
   cases Ad H
   exact hr
theorem en_61:En Tryz.prog 61:=.of Tryz.func61 rfl rfl
theorem tyS_28:TyS Tryz.prog 28 false 1:=⟨rfl,rfl⟩
theorem Ez:TyS Tryz.prog 114 true 2:=⟨rfl,rfl⟩
theorem tyE_114:TyE Tryz.prog 114 2:=⟨_,_,rfl,rfl,rfl,rfl,by decide,by decide⟩
def k_impl_Entry(a1:Nat)(b:Bool)(x:Ay):List V:=[.im b (x.Name_.map (A5 false)),.hd a1 (x.Attrs_.map (Bj false)).length 0 (x.Attrs_.map (Bj false)).length]
noncomputable def spec_l1Cur_entry_l2(b8:Ay):(Ay×Int)→Option ((Ay×Int)⊕Ay):=fun s=>match s with
  | (b14,v15)=>cond (decide (v15<(b8.Attrs_.length:Int))) ((idx b14.Attrs_ v15).bind fun e18=>cond (e18.Name_.toList==(ByteArray.mk #[99,110]).toList) ((idx b14.Name_ 0).bind fun e20=>(idx b14.Attrs_ v15).bind fun e22=>some (.inl ((⟨b14.Name_,(b14.Attrs_.set (Int.toNat v15) (⟨e22.Name_,([e20.Text_]:List ByteArray)⟩:B8))⟩:Ay),(IntKind.i64.wrap (v15+1))))) (some (.inl (b14,(IntKind.i64.wrap (v15+1)))))) (some (.inr b14))
noncomputable def spec_l1Cur_entry_j1(v40:Int)(b46:Ag)(l47:List ByteArray):Option ((Ag×List ByteArray×Int)⊕(Ag×List ByteArray)) :=
  some (.inl (b46,l47,(IntKind.i64.wrap (v40 - 1))))
noncomputable def spec_l1Cur_entry_j2(l39:List ByteArray)(v40:Int)(o49:Ag)(v51:ByteArray):Option ((Ag×List ByteArray×Int)⊕(Ag×List ByteArray)) :=
  (gdO (!((l39.length:Int)==0)) (idx l39 (IntKind.i64.wrap ((l39.length:Int) - 1)))).bind fun e52=>(gdO (!((l39.length:Int)==0)) (B0 e52 v51)).bind fun r54=>cond (((l39.length:Int)==0)||decide (r54<0)) ((app l39 ([v51]:List ByteArray)).bind fun l56=>spec_l1Cur_entry_j1 v40 o49 l56) (spec_l1Cur_entry_j1 v40 o49 l39)
noncomputable def spec_l1Cur_entry_l3(e27:ByteArray):(Ag×List ByteArray×Int)→Option ((Ag×List ByteArray×Int)⊕(Ag×List ByteArray)):=fun s=>match s with
  | (b38,l39,v40)=>cond (decide (v40 > 0)) ((spec_l1Cur_attrText e27 b38).bind fun q=>(match q with | (r48,o49)=>cond (r48.toList==e0.toList) (spec_l1Cur_entry_j2 l39 v40 o49 (ByteArray.mk #[99,110,61,98,111,98,44,111,61,111,114,103])) (spec_l1Cur_entry_j2 l39 v40 o49 r48))) (some (.inr (b38,l39)))
noncomputable def spec_l1Cur_entry_l1 : (Ag×Ay×Int)→Option ((Ag×Ay×Int)⊕(Ag×Ay)):=fun s=>match s with
  | (b4,b5,v6)=>cond (decide (v6<(([(ByteArray.mk #[97,103,101]),(ByteArray.mk #[98,111,115,115]),(ByteArray.mk #[99,108,97,115,115]),(ByteArray.mk #[99,110]),(ByteArray.mk #[109,97,105,108]),(ByteArray.mk #[109,101,109,98,101,114]),(ByteArray.mk #[110,105,99,107]),(ByteArray.mk #[111,117]),(ByteArray.mk #[114,101,102])]:List ByteArray).length:Int))) ((idx ([(ByteArray.mk #[97,103,101]),(ByteArray.mk #[98,111,115,115]),(ByteArray.mk #[99,108,97,115,115]),(ByteArray.mk #[99,110]),(ByteArray.mk #[109,97,105,108]),(ByteArray.mk #[109,101,109,98,101,114]),(ByteArray.mk #[110,105,99,107]),(ByteArray.mk #[111,117]),(ByteArray.mk #[114,101,102])]:List ByteArray) v6).bind fun e27=>(cond ((!(e27.toList==(ByteArray.mk #[99,108,97,115,115]).toList))&&(!(e27.toList==(ByteArray.mk #[99,110]).toList))) (Cg 3 b4) (some (default,b4))).bind fun q=>(match q with | (r29,o30)=>(cond ((!(((!(e27.toList==(ByteArray.mk #[99,108,97,115,115]).toList))&&(!(e27.toList==(ByteArray.mk #[99,110]).toList)))&&(!r29)))&&(e27.toList==(ByteArray.mk #[114,101,102]).toList)) (Cg 3 o30) (some (default,o30))).bind fun q=>(match q with | (r32,o33)=>cond ((((!(e27.toList==(ByteArray.mk #[99,108,97,115,115]).toList))&&(!(e27.toList==(ByteArray.mk #[99,110]).toList)))&&(!r29))||((e27.toList==(ByteArray.mk #[114,101,102]).toList)&&(!r32))) (some (.inl (o33,b5,(IntKind.i64.wrap (v6+1))))) ((Br 2 o33).bind fun q=>(match q with | (r35,o36)=>(loopO (spec_l1Cur_entry_l3 e27) (o36,([]:List ByteArray),(IntKind.i64.wrap (1+r35)))).bind fun q58=>(match q58 with | (b41,l42)=>(app b5.Attrs_ ([(⟨e27,l42⟩:B8)]:List B8)).bind fun l43=>some (.inl (b41,(⟨b5.Name_,l43⟩:Ay),(IntKind.i64.wrap (v6+1)))))))))) (some (.inr (b4,b5)))
noncomputable def spec_l1Cur_entry(s0:Ag):Option (Ay×Ag) :=
  (spec_l1Cur_dirName s0).bind fun q=>(match q with | (r1,o2)=>(loopO (spec_l1Cur_entry_l1) (o2,(⟨r1,([]:List B8)⟩:Ay),0)).bind fun q60=>(match q60 with | (b7,b8)=>(Cg 2 b7).bind fun q=>(match q with | (r9,o10)=>(gdO r9 (idx b8.Name_ 0)).bind fun e12=>cond (r9&&(e12.Attr_.toList==(ByteArray.mk #[99,110]).toList)) ((loopO (spec_l1Cur_entry_l2 b8) (b8,0)).bind fun b16=>(match b16 with | b16=>some (b16,o10))) (some (b8,o10)))))
theorem spec_l1Cur_entry_p (c0 : Bool) {s0 :           Ag} {R0 :      Ay} {U0 :           Ag} (H : spec_l1Cur_entry s0 = some (R0, U0)) : St Tryz.prog 27 [.bx 0 0] [.box (            Ai c0 s0)] (.agg (       An false R0)) [.box (            Ai c0 U0)] := by
 refine Ba.fin (Ba.of_TN (n:=113) Tryz.func27 rfl rfl rfl rfl ?_) rfl rfl ⟨(Bt.1 rfl),trivial⟩
 refine au 7 ?_
 obtain⟨⟨r1,o2⟩,h3,H⟩:=Ac H
 refine TL.st rfl rfl rfl (Bn [0] rfl en_40 rfl rfl (spec_l1Cur_dirName_p c0 h3) rfl (by decide) (.cons _ _ _ _ rfl .nil) rfl rfl rfl) ?_
 refine au 6 ?_
 refine T.conv (Cs.eqS (σ':=[.box (Ai c0 o2),.box [.nilS,.nilS],.box [.im false (r1.map (A5 false)),.nilS]]) rfl) ?_
 refine T.region ?_
 refine TL.st rfl rfl rfl (A8 (rows:=([(ByteArray.mk #[97,103,101]),(ByteArray.mk #[98,111,115,115]),(ByteArray.mk #[99,108,97,115,115]),(ByteArray.mk #[99,110]),(ByteArray.mk #[109,97,105,108]),(ByteArray.mk #[109,101,109,98,101,114]),(ByteArray.mk #[110,105,99,107]),(ByteArray.mk #[111,117]),(ByteArray.mk #[114,101,102])]:List ByteArray).map (Aw)) rfl rfl Bm ⟨_,rfl,rfl⟩ (by decide) rfl rfl rfl rfl rfl rfl) ?_
 refine TL.st rfl rfl rfl (Bf (f:=Aw) rfl rfl rfl) ?_
 refine au 3 ?_
 refine T.conv (Cs.ownCell (p:=2) 1 2 rfl rfl (by decide)) ?_
 obtain⟨q60,h61,H⟩:=Ac H
 refine T.lq (fun s=>match s with | (b4,b5,v6)=>[(0,.bx 0 0),(2,.bx 1 0),(3,.bx 2 0),(14,.im false (([(ByteArray.mk #[97,103,101]),(ByteArray.mk #[98,111,115,115]),(ByteArray.mk #[99,108,97,115,115]),(ByteArray.mk #[99,110]),(ByteArray.mk #[109,97,105,108]),(ByteArray.mk #[109,101,109,98,101,114]),(ByteArray.mk #[110,105,99,107]),(ByteArray.mk #[111,117]),(ByteArray.mk #[114,101,102])]:List ByteArray).map (Aw))),(15,.int .i64 (([(ByteArray.mk #[97,103,101]),(ByteArray.mk #[98,111,115,115]),(ByteArray.mk #[99,108,97,115,115]),(ByteArray.mk #[99,110]),(ByteArray.mk #[109,97,105,108]),(ByteArray.mk #[109,101,109,98,101,114]),(ByteArray.mk #[110,105,99,107]),(ByteArray.mk #[111,117]),(ByteArray.mk #[114,101,102])]:List ByteArray).length:Int)),(16,.int .i64 v6)]) (fun s=>match s with | (b4,b5,v6)=>[.box (Ai c0 b4),.box [.nilS,.nilS],.box (k_impl_Entry 3 false b5),.arr .clo 2 (b5.Attrs_.map (Bj false))]) (fun q ex fr σ=>match q with | (b7,b8)=>ex = .exit 0∧fr = [(0,.bx 0 0),(2,.bx 1 0),(3,.bx 2 0)]∧σ = [.box (Ai c0 b7),.box [.nilS,.nilS],.box (k_impl_Entry 3 false b8),.arr .clo 2 (b8.Attrs_.map (Bj false))]) h61 ?_ ?_
 ·rintro ⟨b4, b5, v6⟩ y26 H
  refine au 5 ?_
  refine T.cH H ?_ ?_<;>intro H h
  ·refine au 5 ?_
   obtain⟨e27,h28,H⟩:=Ac H
   refine TL.st rfl rfl rfl (B7 (f:=Aw) rfl rfl Bm rfl rfl h28 rfl) ?_
   refine au 10 ?_
   refine TL.gcq rfl rfl rfl (.bool _) rfl rfl (fun h=>E4 rfl (gv h rfl) rfl rfl) ?_
   refine au 3 ?_
   obtain⟨⟨r29,o30⟩,h31,H⟩:=Ac H
   refine TL.gc rfl rfl rfl (.bool _) rfl rfl (fun h=>Bn [0] rfl en_41 rfl (E5 (gv h rfl) rfl) (spec_l1Cur_one_p c0 (cond_t h h31)) rfl (by decide) (.cons _ _ _ _ rfl .nil) rfl rfl rfl) (fun h=>by cases cond_f h h31;rfl) ?_
   refine au 4 ?_
   refine TL.gcq rfl rfl rfl (.bool _) rfl rfl (fun h=>E4 rfl (gv h rfl) rfl rfl) ?_
   refine TL.gcq rfl rfl rfl (.bool _) rfl rfl (fun h=>Bp rfl (gv h rfl)) ?_
   refine TL.gcq rfl rfl rfl (.gd _ _) rfl rfl (fun h=>Bp rfl rfl) ?_
   obtain⟨⟨r32,o33⟩,h34,H⟩:=Ac H
   refine TL.gc rfl rfl rfl (.gd _ _) rfl rfl (fun h=>Bn [0] rfl en_41 rfl (E5 (gv h rfl) rfl) (spec_l1Cur_one_p c0 (cond_t h h34)) rfl (by decide) (.cons _ _ _ _ rfl .nil) rfl rfl rfl) (fun h=>by cases cond_f h h34;rfl) ?_
   refine TL.gcq rfl rfl rfl (.gd _ _) rfl rfl (fun h=>o_not rfl (gv h rfl)) ?_
   refine TL.gcq rfl rfl rfl (.bool _) rfl rfl (fun h=>Eq rfl (gv h rfl) rfl (fun k=>Ed (andi h k)) rfl) ?_
   refine au 2 ?_
   refine T.cH H ?_ ?_<;>intro H h
   ·refine T.exit ?_
    refine Am ?_
    refine A6 ?_
    refine au 4 ?_
    exact Pk.of (Af ⟨(o33,b5,(IntKind.i64.wrap (v6+1))),(Ad H).symm,rfl,rfl⟩)
   ·refine au 9 ?_
    obtain⟨⟨r35,o36⟩,h37,H⟩:=Ac H
    refine TL.st rfl rfl rfl (Bn [0] rfl Ey rfl rfl (spec_l1Cur_pick_p c0 h37) rfl (by decide) (.cons _ _ _ _ rfl .nil) rfl rfl rfl) ?_
    refine au 3 ?_
    refine T.conv (Cs.eqS (σ':=[.box (Ai c0 o36),_,_,_]) rfl) ?_
    refine T.block ?_
    refine T.conv (Cs.own (t:=6) 1 rfl (by decide)) ?_
    obtain⟨q58,h59,H⟩:=Ac H
    refine T.lq (fun s=>match s with | (b38,l39,v40)=>[(0,.bx 0 0),(2,.bx 1 0),(3,.bx 2 0),(5,.str e27),(6,.hd 4 (l39.map (Aw)).length 0 (l39.map (Aw)).length),(7,.int .i64 v40),(14,.im false (([(ByteArray.mk #[97,103,101]),(ByteArray.mk #[98,111,115,115]),(ByteArray.mk #[99,108,97,115,115]),(ByteArray.mk #[99,110]),(ByteArray.mk #[109,97,105,108]),(ByteArray.mk #[109,101,109,98,101,114]),(ByteArray.mk #[110,105,99,107]),(ByteArray.mk #[111,117]),(ByteArray.mk #[114,101,102])]:List ByteArray).map (Aw))),(15,.int .i64 (([(ByteArray.mk #[97,103,101]),(ByteArray.mk #[98,111,115,115]),(ByteArray.mk #[99,108,97,115,115]),(ByteArray.mk #[99,110]),(ByteArray.mk #[109,97,105,108]),(ByteArray.mk #[109,101,109,98,101,114]),(ByteArray.mk #[110,105,99,107]),(ByteArray.mk #[111,117]),(ByteArray.mk #[114,101,102])]:List ByteArray).length:Int)),(16,.int .i64 v6)]) (fun s=>match s with | (b38,l39,v40)=>[.box (Ai c0 b38),.box [.nilS,.nilS],.box (k_impl_Entry 3 false b5),.arr .clo 2 (b5.Attrs_.map (Bj false)),.arr .clo 1 (l39.map (Aw))]) (fun q ex fr σ=>match q with | (b41,l42)=>ex = .exit 2∧fr = [(0,.bx 0 0),(2,.bx 1 0),(3,.bx 2 0),(5,.str e27),(6,.hd 4 (l42.map (Aw)).length 0 (l42.map (Aw)).length),(14,.im false (([(ByteArray.mk #[97,103,101]),(ByteArray.mk #[98,111,115,115]),(ByteArray.mk #[99,108,97,115,115]),(ByteArray.mk #[99,110]),(ByteArray.mk #[109,97,105,108]),(ByteArray.mk #[109,101,109,98,101,114]),(ByteArray.mk #[110,105,99,107]),(ByteArray.mk #[111,117]),(ByteArray.mk #[114,101,102])]:List ByteArray).map (Aw))),(15,.int .i64 (([(ByteArray.mk #[97,103,101]),(ByteArray.mk #[98,111,115,115]),(ByteArray.mk #[99,108,97,115,115]),(ByteArray.mk #[99,110]),(ByteArray.mk #[109,97,105,108]),(ByteArray.mk #[109,101,109,98,101,114]),(ByteArray.mk #[110,105,99,107]),(ByteArray.mk #[111,117]),(ByteArray.mk #[114,101,102])]:List ByteArray).length:Int)),(16,.int .i64 v6)]∧σ = [.box (Ai c0 b41),.box [.nilS,.nilS],.box (k_impl_Entry 3 false b5),.arr .clo 2 (b5.Attrs_.map (Bj false)),.arr .clo 1 (l42.map (Aw))]) h59 ?_ ?_
    ·rintro⟨b38,l39,v40⟩ y45 H
     refine au 6 ?_
     refine T.cH H ?_ ?_<;>intro H h
     ·refine T.skip ?_
      refine T.cut (fun fr' σ'=>∃ (b46:Ag) (l47:List ByteArray),fr' = [(0,.bx 0 0),(2,.bx 1 0),(3,.bx 2 0),(5,.str e27),(6,.hd 4 (l47.map (Aw)).length 0 (l47.map (Aw)).length),(7,.int .i64 v40),(14,.im false (([(ByteArray.mk #[97,103,101]),(ByteArray.mk #[98,111,115,115]),(ByteArray.mk #[99,108,97,115,115]),(ByteArray.mk #[99,110]),(ByteArray.mk #[109,97,105,108]),(ByteArray.mk #[109,101,109,98,101,114]),(ByteArray.mk #[110,105,99,107]),(ByteArray.mk #[111,117]),(ByteArray.mk #[114,101,102])]:List ByteArray).map (Aw))),(15,.int .i64 (([(ByteArray.mk #[97,103,101]),(ByteArray.mk #[98,111,115,115]),(ByteArray.mk #[99,108,97,115,115]),(ByteArray.mk #[99,110]),(ByteArray.mk #[109,97,105,108]),(ByteArray.mk #[109,101,109,98,101,114]),(ByteArray.mk #[110,105,99,107]),(ByteArray.mk #[111,117]),(ByteArray.mk #[114,101,102])]:List ByteArray).length:Int)),(16,.int .i64 v6)]∧σ' = [.box (Ai c0 b46),.box [.nilS,.nilS],.box (k_impl_Entry 3 false b5),.arr .clo 2 (b5.Attrs_.map (Bj false)),.arr .clo 1 (l47.map (Aw))]∧spec_l1Cur_entry_j1 v40 b46 l47=some y45) (T.pk ?_) ?_
      ·skip
       refine au 5 ?_
       obtain⟨⟨r48,o49⟩,h50,H⟩:=Ac H
       refine TL.st rfl rfl rfl (Bn [0] rfl en_67 rfl rfl (spec_l1Cur_attrText_p c0 h50) rfl (by decide) (.cons _ _ _ _ rfl .nil) rfl rfl rfl) ?_
       refine au 2 ?_
       refine T.cut (fun fr' σ'=>∃ (v51:ByteArray),fr' = [(0,.bx 0 0),(2,.bx 1 0),(3,.bx 2 0),(5,.str e27),(6,.hd 4 (l39.map (Aw)).length 0 (l39.map (Aw)).length),(7,.int .i64 v40),(8,.str v51),(14,.im false (([(ByteArray.mk #[97,103,101]),(ByteArray.mk #[98,111,115,115]),(ByteArray.mk #[99,108,97,115,115]),(ByteArray.mk #[99,110]),(ByteArray.mk #[109,97,105,108]),(ByteArray.mk #[109,101,109,98,101,114]),(ByteArray.mk #[110,105,99,107]),(ByteArray.mk #[111,117]),(ByteArray.mk #[114,101,102])]:List ByteArray).map (Aw))),(15,.int .i64 (([(ByteArray.mk #[97,103,101]),(ByteArray.mk #[98,111,115,115]),(ByteArray.mk #[99,108,97,115,115]),(ByteArray.mk #[99,110]),(ByteArray.mk #[109,97,105,108]),(ByteArray.mk #[109,101,109,98,101,114]),(ByteArray.mk #[110,105,99,107]),(ByteArray.mk #[111,117]),(ByteArray.mk #[114,101,102])]:List ByteArray).length:Int)),(16,.int .i64 v6)]∧σ' = [.box (Ai c0 o49),.box [.nilS,.nilS],.box (k_impl_Entry 3 false b5),.arr .clo 2 (b5.Attrs_.map (Bj false)),.arr .clo 1 (l39.map (Aw))]∧spec_l1Cur_entry_j2 l39 v40 o49 v51=some y45) (T.pk ?_) ?_
       ·skip
        refine au 5 ?_
        refine T.cH H ?_ ?_<;>intro H h
        ·refine au 3 ?_
         exact Pk.of (Af ⟨(ByteArray.mk #[99,110,61,98,111,98,44,111,61,111,114,103]),rfl,rfl,H⟩)
        ·refine T.skip ?_
         exact Pk.of (Af ⟨r48,rfl,rfl,H⟩)
       ·rintro _ _ ⟨v51,rfl,rfl,H⟩
        refine au 3 ?_
        refine TL.st rfl rfl rfl (Dt (f:=Aw) rfl rfl rfl rfl rfl) ?_
        refine au 4 ?_
        refine TL.gcq rfl rfl rfl (.bool _) rfl rfl (fun h=>Dt (f:=Aw) rfl rfl (gv h rfl) rfl rfl) ?_
        refine TL.gcq rfl rfl rfl (.bool _) rfl rfl (fun h=>B3 rfl (gv h rfl) rfl rfl) ?_
        obtain⟨e52,h53,H⟩:=Ac H
        refine TL.gcq rfl rfl rfl (.bool _) rfl rfl (fun h=>C2 (f:=Aw) rfl rfl Bm (gv h rfl) (gv h rfl) rfl rfl (Bq h53 h) rfl) ?_
        refine TL.gcq rfl rfl rfl (.bool _) rfl rfl (fun h=>Cx rfl Bm (gv h rfl) rfl rfl (by rw[List.getElem?_map,(Ej (Bq h53 h)).2];rfl) (nb rfl) rfl) ?_
        refine TL.gcq rfl rfl rfl (.bool _) rfl rfl (fun h=>Bp rfl rfl) ?_
        obtain⟨r54,h55,H⟩:=Ac H
        refine TL.gcq rfl rfl rfl (.bool _) rfl rfl (fun h=>Aq rfl en_61 rfl (E5 (gv h rfl) (gv h rfl)) (.cons _ _ _ _ (.cl _ rfl) (.cons _ _ _ _ (.cl _ rfl) .nil)) (spec_l1CmpText_p  (Bq h55 h))) ?_
        refine au 3 ?_
        refine T.cH H ?_ ?_<;>intro H h
        ·refine au 3 ?_
         refine TL.st rfl rfl rfl (A8 (rows:=([v51]:List ByteArray).map (Aw)) rfl rfl Bm ⟨_,rfl,rfl⟩ (by decide) rfl rfl rfl rfl rfl rfl) ?_
         obtain⟨l56,h57,H⟩:=Ac H
         refine TL.st rfl rfl rfl (Ee (f:=Aw) (xs:=l39) (ys:=([v51]:List ByteArray)) rfl rfl tyE_9 rfl rfl rfl rfl (by decide) rfl (fun _=>rfl) h57) ?_
         refine au 2 ?_
         refine Bh ?_
         exact Pk.of (Af ⟨o49,l56,rfl,rfl,H⟩)
        ·refine T.skip ?_
         refine Bh ?_
         exact Pk.of (Af ⟨o49,l39,rfl,rfl,H⟩)
      ·rintro _ _ ⟨b46,l47,rfl,rfl,H⟩
       refine au 5 ?_
       exact Pk.of (Af ⟨(b46,l47,(IntKind.i64.wrap (v40 - 1))),(Ad H).symm,rfl,rfl⟩)
     ·refine T.exit ?_
      refine Am ?_
      exact Pk.of (Am ⟨(b38,l39),(Ad H).symm,rfl,rfl,rfl⟩)
    ·rcases q58 with ⟨b41,l42⟩
     rintro _ _ _ ⟨rfl,rfl,rfl⟩
     refine A6 ?_
     refine au 5 ?_
     refine TL.st rfl rfl rfl (Es rfl ⟨_,fun _=>rfl,rfl⟩ rfl (sureP rfl (sureP (Ci rfl rfl rfl) rfl)) rfl) ?_
     refine TL.conv (Cs.frzAgg (t:=74) 1 rfl rfl rfl rfl) ?_
     refine TL.st rfl rfl rfl (A8 (rows:=([(⟨e27,l42⟩:B8)]:List B8).map (Bj false)) rfl rfl Ez ⟨_,rfl,rfl⟩ (by decide) rfl rfl rfl rfl rfl rfl) ?_
     obtain⟨l43,h44,H⟩:=Ac H
     refine TL.st rfl rfl rfl (Ee (f:=Bj false) (xs:=b5.Attrs_) (ys:=([(⟨e27,l42⟩:B8)]:List B8)) rfl rfl tyE_114 rfl rfl rfl rfl (by decide) rfl (fun _=>rfl) h44) ?_
     refine TL.st rfl rfl rfl (Bb rfl rfl rfl tyS_28 (by decide) rfl rfl ⟨_,rfl,Nat.le_of_ble_eq_true rfl⟩) ?_
     refine TL.sn rfl rfl (Cm rfl tyS_28 rfl rfl rfl rfl (nb rfl) (Ci rfl rfl rfl)) ?_
     refine au 5 ?_
     exact Pk.of (Af ⟨(b41,(⟨b5.Name_,l43⟩:Ay),(IntKind.i64.wrap (v6+1))),(Ad H).symm,rfl,rfl⟩)
  ·refine T.exit ?_
   refine Am ?_
   exact Pk.of (Am ⟨(b4,b5),(Ad H).symm,rfl,rfl,rfl⟩)
 ·rcases q60 with ⟨b7,b8⟩
  rintro _ _ _ ⟨rfl,rfl,rfl⟩
  refine A6 ?_
  refine au 4 ?_
  obtain⟨⟨r9,o10⟩,h11,H⟩:=Ac H
  refine TL.st rfl rfl rfl (Bn [0] rfl en_41 rfl rfl (spec_l1Cur_one_p c0 h11) rfl (by decide) (.cons _ _ _ _ rfl .nil) rfl rfl rfl) ?_
  refine au 3 ?_
  obtain⟨e12,h13,H⟩:=Ac H
  refine TL.gcq rfl rfl rfl (.bool _) rfl rfl (fun h=>B7 (f:=A5 false) rfl rfl Em (gv h rfl) rfl (Bq h13 h) rfl) ?_
  refine TL.gcq rfl rfl rfl (.bool _) rfl rfl (fun h=>Bb rfl rfl rfl Bm (by decide) (gv h rfl) rfl trivial) ?_
  refine TL.gcq rfl rfl rfl (.bool _) rfl rfl (fun h=>Bx rfl Bm (gv h rfl) (nb rfl) rfl) ?_
  refine TL.gcq rfl rfl rfl (.bool _) rfl rfl (fun h=>E4 rfl (gv h rfl) rfl rfl) ?_
  refine au 2 ?_
  refine T.cH H ?_ ?_<;>intro H h
  ·refine au 4 ?_
   refine TL.st rfl rfl rfl (Dt (f:=Bj false) rfl rfl rfl rfl rfl) ?_
   refine au 3 ?_
   obtain⟨b16,h25,H⟩:=Ac H
   refine T.lq (fun s=>match s with | (b14,v15)=>[(2,.bx 1 0),(3,.bx 2 0),(90,.hd 3 (b14.Attrs_.map (Bj false)).length 0 (b14.Attrs_.map (Bj false)).length),(91,.int .i64 (b8.Attrs_.length:Int)),(92,.int .i64 v15)]) (fun s=>match s with | (b14,v15)=>[.box (Ai c0 o10),.box [.nilS,.nilS],.box (k_impl_Entry 3 false b14),.arr .clo 2 (b14.Attrs_.map (Bj false))]) (fun q ex fr σ=>match q with | b16=>ex = .exit 4∧fr = [(2,.bx 1 0),(3,.bx 2 0)]∧σ = [.box (Ai c0 o10),.box [.nilS,.nilS],.box (k_impl_Entry 3 false b16),.arr .clo 2 (b16.Attrs_.map (Bj false))]) h25 ?_ ?_
   ·rintro⟨b14,v15⟩ y17 H
    refine au 5 ?_
    refine T.cH H ?_ ?_<;>intro H h
    ·refine au 6 ?_
     obtain⟨e18,h19,H⟩:=Ac H
     refine TL.st rfl rfl rfl (C2 (f:=Bj false) rfl rfl Ez rfl rfl rfl rfl h19 rfl) ?_
     refine TL.st rfl rfl rfl (Cx rfl Ez rfl rfl rfl (by rw[List.getElem?_map,(Ej h19).2];rfl) (nb rfl) rfl) ?_
     refine au 10 ?_
     refine T.cH H ?_ ?_<;>intro H h
     ·refine T.drawn rfl ?_
      refine ad 5 ?_
      obtain⟨e20,h21,H⟩:=Ac H
      refine TD.qs rfl rfl (fun _=>B7 (f:=A5 false) rfl rfl Em rfl rfl h21 rfl) ?_
      refine TD.qs rfl rfl (fun _=>Bb rfl rfl rfl Bm (by decide) rfl rfl trivial) ?_
      refine TD.qs rfl rfl (fun _=>Bx rfl Bm rfl (nb rfl) rfl) ?_
      refine TD.qs rfl rfl (fun _=>A8 (rows:=([e20.Text_]:List ByteArray).map (Aw)) rfl rfl Bm ⟨_,rfl,rfl⟩ (by decide) rfl rfl rfl rfl rfl rfl) ?_
      obtain⟨e22,h23,H⟩:=Ac H
      refine TD.rs rfl rfl (C2 (f:=Bj false) rfl rfl Ez rfl rfl rfl rfl h23 rfl) ?_
      refine TD.rs rfl rfl (Cn rfl rfl rfl E0 (by decide) rfl rfl rfl) ?_
      refine TD.an rfl rfl (B1.to (Dz (f:=Bj false) (xs:=b14.Attrs_) (k:=v15) (a:=e22) (⟨e22.Name_,([e20.Text_]:List ByteArray)⟩:B8) rfl E0 rfl rfl rfl rfl (by decide) h23 rfl rfl rfl (fun _=>rfl) rfl) (Dq (Dq (eqAtB (show (.box [.im false (b14.Name_.map (A5 false)),.hd 3 (b14.Attrs_.map (Bj false)).length 0 (b14.Attrs_.map (Bj false)).length]:AO) = .box [.im false (b14.Name_.map (A5 false)),.hd 3 ((b14.Attrs_.set (Int.toNat v15) (⟨e22.Name_,([e20.Text_]:List ByteArray)⟩:B8)).map (Bj false)).length 0 ((b14.Attrs_.set (Int.toNat v15) (⟨e22.Name_,([e20.Text_]:List ByteArray)⟩:B8)).map (Bj false)).length] by simp only[List.length_map,List.length_set]) rfl)))) ?_
      refine TD.nil ⟨rfl,?_⟩
      refine Bh (Af ?_)
      refine T.conv (Cs.eqV (t:=90) (v':=.hd 3 ((b14.Attrs_.set (Int.toNat v15) (⟨e22.Name_,([e20.Text_]:List ByteArray)⟩:B8)).map (Bj false)).length 0 ((b14.Attrs_.set (Int.toNat v15) (⟨e22.Name_,([e20.Text_]:List ByteArray)⟩:B8)).map (Bj false)).length) rfl (B2 _ (List.length_set ..))) ?_
      refine T.conv (Cs.eqV (t:=95) (v':=.el 3 ((b14.Attrs_.set (Int.toNat v15) (⟨e22.Name_,([e20.Text_]:List ByteArray)⟩:B8)).map (Bj false)).length (Int.toNat v15) 0) rfl (Dv _ _ _ (List.length_set ..))) ?_
      refine T.conv (Cs.eqV (t:=101) (v':=.hd 3 ((b14.Attrs_.set (Int.toNat v15) (⟨e22.Name_,([e20.Text_]:List ByteArray)⟩:B8)).map (Bj false)).length 0 ((b14.Attrs_.set (Int.toNat v15) (⟨e22.Name_,([e20.Text_]:List ByteArray)⟩:B8)).map (Bj false)).length) rfl (B2 _ (List.length_set ..))) ?_
      refine T.conv (Cs.eqV (t:=109) (v':=.el 3 ((b14.Attrs_.set (Int.toNat v15) (⟨e22.Name_,([e20.Text_]:List ByteArray)⟩:B8)).map (Bj false)).length (Int.toNat v15) 0) rfl (Dv _ _ _ (List.length_set ..))) ?_
      refine T.conv (Cs.eqV (t:=110) (v':=.el 3 ((b14.Attrs_.set (Int.toNat v15) (⟨e22.Name_,([e20.Text_]:List ByteArray)⟩:B8)).map (Bj false)).length (Int.toNat v15) 1) rfl (Dv _ _ _ (List.length_set ..))) ?_
      refine T.conv (Cs.eqS (σ':=[_,_,.box (k_impl_Entry 3 false (⟨b14.Name_,(b14.Attrs_.set (Int.toNat v15) (⟨e22.Name_,([e20.Text_]:List ByteArray)⟩:B8))⟩:Ay)),.arr .clo 2 ((b14.Attrs_.set (Int.toNat v15) (⟨e22.Name_,([e20.Text_]:List ByteArray)⟩:B8)).map (Bj false)),.box (Bj false e18)]) rfl) ?_
      refine au 4 ?_
      exact Pk.of (Af ⟨((⟨b14.Name_,(b14.Attrs_.set (Int.toNat v15) (⟨e22.Name_,([e20.Text_]:List ByteArray)⟩:B8))⟩:Ay),(IntKind.i64.wrap (v15+1))),(Ad H).symm,rfl,rfl⟩)
     ·refine au 5 ?_
      exact Pk.of (Af ⟨(b14,(IntKind.i64.wrap (v15+1))),(Ad H).symm,rfl,rfl⟩)
    ·refine T.exit ?_
     refine Am ?_
     exact Pk.of (Am ⟨b14,(Ad H).symm,rfl,rfl,rfl⟩)
   ·rintro _ _ _ ⟨rfl,rfl,rfl⟩
    refine A6 ?_
    refine au 3 ?_
    refine TL.sn rfl rfl (Cm rfl De rfl rfl rfl rfl (nb rfl) (sure_c rfl (Ci rfl rfl rfl))) ?_
    refine TL.nil ?_
    refine T.conv (Cs.frzCell (p:=3) (q:=1) 1 rfl rfl rfl rfl rfl) ?_
    refine T.ret ?_
    cases Ad H
    exact⟨trivial,_,(.cell _ _ _ _ _ _ _ _ _ _ rfl rfl De (nb rfl) rfl .nil),⟨rfl,_,rfl⟩⟩
  ·refine au 4 ?_
   refine TL.sn rfl rfl (Cm rfl De rfl rfl rfl rfl (nb rfl) (sure_c rfl (Ci rfl rfl rfl))) ?_
   refine TL.nil ?_
   refine T.conv (Cs.frzCell (p:=3) (q:=1) 1 rfl rfl rfl rfl rfl) ?_
   refine T.ret ?_
   cases Ad H
   exact⟨trivial,_,(.cell _ _ _ _ _ _ _ _ _ _ rfl rfl De (nb rfl) rfl .nil),⟨rfl,_,rfl⟩⟩
theorem en_27:En Tryz.prog 27:=.of Tryz.func27 rfl rfl
theorem tyE_30:TyE Tryz.prog 30 2:=⟨_,_,rfl,rfl,rfl,rfl,by decide,by decide⟩
theorem eqT_96:∀ a b:A4,EqT Tryz.prog true 10000 96 [] 0 (A5 false a) (A5 false b) (a==b):=fun a b=>.struct rfl (by kernel_rfl) (.cons (c:=[.str a.Attr_]) (d:=[.str b.Attr_]) rfl rfl Bm rfl rfl (fun _=>rfl) (fun h=>Bool.noConfusion h) (fun _=>ne_struct rfl rfl) (.str rfl) (.cons (c:=[.str a.Text_]) (d:=[.str b.Text_]) rfl rfl Bm rfl rfl (fun _=>rfl) (fun h=>Bool.noConfusion h) (fun _=>ne_struct rfl rfl) (.str rfl) .nil))
theorem eqG_96:Program.eqGuardType Tryz.prog Tryz.prog.depth 96=false:=by kernel_rfl
noncomputable def spec_l3SameName_l1(a0:(List A4))(a1:(List A4)):Int→Option (Int⊕(Unit⊕Bool)):=fun s=>match s with
  | v1=>cond (decide (v1<(a0.length:Int))) ((idx a0 v1).bind fun e4=>(idx a1 v1).bind fun e6=>cond (!(e4==e6)) (some (.inr (.inr false))) (some (.inl (IntKind.i64.wrap (v1+1))))) (some (.inr (.inl ())))
noncomputable def spec_l3SameName(a0:(List A4))(a1:(List A4)):Option Bool :=
  cond ((a0.length:Int) != (a1.length:Int)) (some false) ((loopO (spec_l3SameName_l1 a0 a1) 0).bind fun q8=>(match q8 with | .inl _=>some true | .inr q2=>some q2))
theorem spec_l3SameName_p(b0:Bool)(b1:Bool){a0:(List A4)}{a1:(List A4)}{R0:Bool}(H:spec_l3SameName a0 a1=some R0):Bu Tryz.prog 97 [.im b0 (a0.map (A5 false)),.im b1 (a1.map (A5 false))] (.bool R0):=by
 refine Ba.of_TN (n:=26) Tryz.func97 rfl rfl rfl rfl ?_
 refine au 8 ?_
 refine TL.st rfl rfl rfl (Bf (f:=A5 false) rfl rfl rfl) ?_
 refine TL.st rfl rfl rfl (Bp rfl rfl) ?_
 refine TL.st rfl rfl rfl (Bf (f:=A5 false) rfl rfl rfl) ?_
 refine au 2 ?_
 refine T.cH H ?_ ?_<;>intro H h
 ·refine au 5 ?_
  refine Aj ?_
  cases Ad H
  exact⟨trivial,_,(.tmp _ _ _ _ rfl .nil),(.cl _ rfl)⟩
 ·refine au 5 ?_
  refine TL.st rfl rfl rfl (Bf (f:=A5 false) rfl rfl rfl) ?_
  refine au 3 ?_
  obtain⟨q8,h9,H⟩:=Ac H
  refine T.lq (fun s=>match s with | v1=>[(0,.im b0 (a0.map (A5 false))),(1,.im b1 (a1.map (A5 false))),(12,.int .i64 (a0.length:Int)),(13,.int .i64 v1)]) (fun s=>match s with | v1=>[]) (fun q ex fr σ=>match q with | .inl _=>ex = .exit 0∧fr = []∧σ = [] | .inr q2=>ex = .ret∧C5 Tryz.prog [.tmp 4] (fun v τ=>Told τ v (.bool q2)) .ret fr σ) h9 ?_ ?_
  ·rintro v1 y3 H
   refine au 5 ?_
   refine T.cH H ?_ ?_<;>intro H h
   ·refine au 9 ?_
    refine T.drawn rfl ?_
    refine ad 2 ?_
    obtain⟨e4,h5,H⟩:=Ac H
    refine TD.qs rfl rfl (fun _=>B7 (f:=A5 false) rfl rfl Em rfl rfl h5 rfl) ?_
    refine TD.qs rfl rfl (fun _=>Bx rfl Em rfl (nb rfl) rfl) ?_
    refine ad 2 ?_
    obtain⟨e6,h7,H⟩:=Ac H
    refine TD.qs rfl rfl (fun _=>B7 (f:=A5 false) rfl rfl Em rfl rfl h7 rfl) ?_
    refine TD.qs rfl rfl (fun _=>Bx rfl Em rfl (nb rfl) rfl) ?_
    refine TD.qs rfl rfl (fun _=>o_neA rfl rfl eqG_96 rfl rfl rfl rfl (eqT_96 e4 e6)) ?_
    refine TD.nil ⟨rfl,?_⟩
    refine Af ?_
    refine T.cH H ?_ ?_<;>intro H h
    ·refine au 5 ?_
     refine Av (Aj ?_)
     exact Pk.id (Aj ⟨.inr false,(Ad H).symm,rfl,⟨trivial,_,(.tmp _ _ _ _ rfl .nil),(.cl _ rfl)⟩⟩)
    ·refine au 5 ?_
     exact Pk.of (Af ⟨(IntKind.i64.wrap (v1+1)),(Ad H).symm,rfl,rfl⟩)
   ·refine T.exit ?_
    refine Am ?_
    exact Pk.of (Am ⟨.inl (),(Ad H).symm,rfl,rfl,rfl⟩)
  ·rcases q8 with ⟨⟩ | q2
   ·rintro _ _ _ ⟨rfl,rfl,rfl⟩
    refine A6 ?_
    refine au 5 ?_
    cases Ad H
    exact⟨trivial,_,(.tmp _ _ _ _ rfl .nil),(.cl _ rfl)⟩
   ·rintro _ fr1 σ1 ⟨rfl,hr⟩
    refine Av (Aj ?_)
    cases Ad H
    exact hr
theorem en_97:En Tryz.prog 97:=.of Tryz.func97 rfl rfl
noncomputable def spec_l3Unlike_l2(e4:Ay)(l6:List Ay):Int→Option (Int⊕(Unit⊕Bool)):=fun s=>match s with
  | v8=>cond (decide (v8<(l6.length:Int))) ((idx l6 v8).bind fun e11=>(spec_l3SameName e4.Name_ e11.Name_).bind fun r13=>cond r13 (some (.inr (.inr false))) (some (.inl (IntKind.i64.wrap (v8+1))))) (some (.inr (.inl ())))
noncomputable def spec_l3Unlike_l1(a0:(List Ay)):Int→Option (Int⊕(Unit⊕Bool)):=fun s=>match s with
  | v1=>cond (decide (v1<(a0.length:Int))) ((idx a0 v1).bind fun e4=>(sub a0 0 v1).bind fun l6=>(loopO (spec_l3Unlike_l2 e4 l6) 0).bind fun q15=>(match q15 with | .inl _=>some (.inl (IntKind.i64.wrap (v1+1))) | .inr q9=>some (.inr (.inr q9)))) (some (.inr (.inl ())))
noncomputable def spec_l3Unlike(a0:(List Ay)):Option Bool :=
  (loopO (spec_l3Unlike_l1 a0) 0).bind fun q17=>(match q17 with | .inl _=>some true | .inr q2=>some q2)
theorem spec_l3Unlike_p(b0:Bool){a0:(List Ay)}{R0:Bool}(H:spec_l3Unlike a0=some R0):Bu Tryz.prog 48 [.im b0 (a0.map (An false))] (.bool R0):=by
 refine Ba.of_TN (n:=29) Tryz.func48 rfl rfl rfl rfl ?_
 refine au 8 ?_
 refine TL.st rfl rfl rfl (Bf (f:=An false) rfl rfl rfl) ?_
 refine au 3 ?_
 obtain⟨q17,h18,H⟩:=Ac H
 refine T.lq (fun s=>match s with | v1=>[(0,.im b0 (a0.map (An false))),(7,.im b0 (a0.map (An false))),(8,.int .i64 (a0.length:Int)),(9,.int .i64 v1)]) (fun s=>match s with | v1=>[]) (fun q ex fr σ=>match q with | .inl _=>ex = .exit 0∧fr = []∧σ = [] | .inr q2=>ex = .ret∧C5 Tryz.prog [.tmp 2] (fun v τ=>Told τ v (.bool q2)) .ret fr σ) h18 ?_ ?_
 ·rintro v1 y3 H
  refine au 5 ?_
  refine T.cH H ?_ ?_<;>intro H h
  ·refine au 6 ?_
   obtain⟨e4,h5,H⟩:=Ac H
   refine TL.st rfl rfl rfl (B7 (f:=An false) rfl rfl De rfl rfl h5 rfl) ?_
   refine au 9 ?_
   obtain⟨l6,h7,H⟩:=Ac H
   refine TL.st rfl rfl rfl (o_subL (f:=An false) (xs:=a0) rfl rfl De rfl rfl rfl (fun _=>rfl) h7) ?_
   refine TL.st rfl rfl rfl (Bf (f:=An false) rfl rfl rfl) ?_
   refine au 3 ?_
   obtain⟨q15,h16,H⟩:=Ac H
   refine T.lq (fun s=>match s with | v8=>[(0,.im b0 (a0.map (An false))),(4,.bx 0 0),(7,.im b0 (a0.map (An false))),(8,.int .i64 (a0.length:Int)),(9,.int .i64 v1),(16,.im b0 (l6.map (An false))),(17,.int .i64 (l6.length:Int)),(18,.int .i64 v8)]) (fun s=>match s with | v8=>[.box (An false e4)]) (fun q ex fr σ=>match q with | .inl _=>ex = .exit 2∧fr = [(0,.im b0 (a0.map (An false))),(7,.im b0 (a0.map (An false))),(8,.int .i64 (a0.length:Int)),(9,.int .i64 v1)]∧σ = [.box (An false e4)] | .inr q9=>ex = .ret∧C5 Tryz.prog [.tmp 2] (fun v τ=>Told τ v (.bool q9)) .ret fr σ) h16 ?_ ?_
   ·rintro v8 y10 H
    refine au 5 ?_
    refine T.cH H ?_ ?_<;>intro H h
    ·refine au 5 ?_
     obtain⟨e11,h12,H⟩:=Ac H
     refine TL.st rfl rfl rfl (B7 (f:=An false) rfl rfl De rfl rfl h12 rfl) ?_
     refine au 10 ?_
     obtain⟨r13,h14,H⟩:=Ac H
     refine TL.st rfl rfl rfl (Aq rfl en_97 rfl rfl (.cons _ _ _ _ (.cl _ rfl) (.cons _ _ _ _ (.cl _ rfl) .nil)) (spec_l3SameName_p false false h14)) ?_
     refine TL.nil ?_
     refine T.cH H ?_ ?_<;>intro H h
     ·refine au 5 ?_
      refine Av (Aj ?_)
      exact Pk.id (Aj ⟨.inr false,(Ad H).symm,rfl,⟨trivial,_,(.tmp _ _ _ _ rfl .nil),(.cl _ rfl)⟩⟩)
     ·refine au 5 ?_
      exact Pk.of (Af ⟨(IntKind.i64.wrap (v8+1)),(Ad H).symm,rfl,rfl⟩)
    ·refine T.exit ?_
     refine Am ?_
     exact Pk.of (Am ⟨.inl (),(Ad H).symm,rfl,rfl,rfl⟩)
   ·rcases q15 with ⟨⟩ | q9
    ·rintro _ _ _ ⟨rfl,rfl,rfl⟩
     refine A6 ?_
     refine au 4 ?_
     exact Pk.of (Af ⟨(IntKind.i64.wrap (v1+1)),(Ad H).symm,rfl,rfl⟩)
    ·rintro _ fr1 σ1 ⟨rfl,hr⟩
     refine Av (Av (Aj ?_))
     exact Pk.id (Aj ⟨.inr q9,(Ad H).symm,rfl,hr⟩)
  ·refine T.exit ?_
   refine Am ?_
   exact Pk.of (Am ⟨.inl (),(Ad H).symm,rfl,rfl,rfl⟩)
 ·rcases q17 with ⟨⟩ | q2
  ·rintro _ _ _ ⟨rfl,rfl,rfl⟩
   refine A6 ?_
   refine au 5 ?_
   cases Ad H
   exact⟨trivial,_,(.tmp _ _ _ _ rfl .nil),(.cl _ rfl)⟩
  ·rintro _ fr1 σ1 ⟨rfl,hr⟩
   refine Av (Aj ?_)
   cases Ad H
   exact hr
theorem en_48:En Tryz.prog 48:=.of Tryz.func48 rfl rfl
noncomputable def spec_l1Cur_entries_j1(v6:Int)(b10:Ag)(l11:List Ay):Option ((Ag×List Ay×Int)⊕(Ag×List Ay)) :=
  some (.inl (b10,l11,(IntKind.i64.wrap (v6 - 1))))
noncomputable def spec_l1Cur_entries_l1 : (Ag×List Ay×Int)→Option ((Ag×List Ay×Int)⊕(Ag×List Ay)):=fun s=>match s with
  | (b4,l5,v6)=>cond (decide (v6 > 0)) ((spec_l1Cur_entry b4).bind fun q=>(match q with | (r12,o13)=>(app ([]:List Ay) l5).bind fun l15=>(app l15 ([r12]:List Ay)).bind fun l17=>(spec_l3Unlike l17).bind fun r19=>(cond (!r19) (Cg 20 o13) (some (default,o13))).bind fun q=>(match q with | (r21,o22)=>cond (r19||r21) ((app l5 ([r12]:List Ay)).bind fun l24=>spec_l1Cur_entries_j1 v6 o22 l24) (spec_l1Cur_entries_j1 v6 o22 l5)))) (some (.inr (b4,l5)))
noncomputable def spec_l1Cur_entries(a0:Int)(s0:Ag):Option ((List Ay)×Ag) :=
  (Br a0 s0).bind fun q=>(match q with | (r1,o2)=>(loopO (spec_l1Cur_entries_l1) (o2,([]:List Ay),r1)).bind fun q26=>(match q26 with | (b7,l8)=>some (l8,b7)))
theorem spec_l1Cur_entries_p(c0:Bool){a0:Int}{s0:Ag}{R0:(List Ay)}{U0:Ag}(H:spec_l1Cur_entries a0 s0=some (R0,U0)):St Tryz.prog 39 [.bx 0 0,.int .i64 a0] [.box (Ai c0 s0)] (.im false (R0.map (An false))) [.box (Ai c0 U0)]:=by
 refine Ba.fin (Ba.of_TN (n:=33) Tryz.func39 rfl rfl rfl rfl ?_) rfl rfl ⟨(Bt.1 rfl),trivial⟩
 refine au 13 ?_
 obtain⟨⟨r1,o2⟩,h3,H⟩:=Ac H
 refine TL.st rfl rfl rfl (Bn [0] rfl Ey rfl rfl (spec_l1Cur_pick_p c0 h3) rfl (by decide) (.cons _ _ _ _ rfl .nil) rfl rfl rfl) ?_
 refine au 3 ?_
 refine T.conv (Cs.own (t:=5) 2 rfl (by decide)) ?_
 obtain⟨q26,h27,H⟩:=Ac H
 refine T.lq (fun s=>match s with | (b4,l5,v6)=>[(0,.bx 0 0),(5,.hd 1 (l5.map (An false)).length 0 (l5.map (An false)).length),(6,.int .i64 v6)]) (fun s=>match s with | (b4,l5,v6)=>[.box (Ai c0 b4),.arr .clo 2 (l5.map (An false))]) (fun q ex fr σ=>match q with | (b7,l8)=>ex = .exit 0∧fr = [(5,.hd 1 (l8.map (An false)).length 0 (l8.map (An false)).length)]∧σ = [.box (Ai c0 b7),.arr .clo 2 (l8.map (An false))]) h27 ?_ ?_
 ·rintro⟨b4,l5,v6⟩ y9 H
  refine au 6 ?_
  refine T.cH H ?_ ?_<;>intro H h
  ·refine T.skip ?_
   refine T.cut (fun fr' σ'=>∃ (b10:Ag) (l11:List Ay),fr' = [(0,.bx 0 0),(5,.hd 1 (l11.map (An false)).length 0 (l11.map (An false)).length),(6,.int .i64 v6)]∧σ' = [.box (Ai c0 b10),.arr .clo 2 (l11.map (An false))]∧spec_l1Cur_entries_j1 v6 b10 l11=some y9) (T.pk ?_) ?_
   ·skip
    refine au 4 ?_
    obtain⟨⟨r12,o13⟩,h14,H⟩:=Ac H
    refine TL.st rfl rfl rfl (Bn [0] rfl en_27 rfl rfl (spec_l1Cur_entry_p c0 h14) rfl (by decide) (.cons _ _ _ _ rfl .nil) rfl rfl rfl) ?_
    refine au 4 ?_
    refine T.conv (Cs.eqS (σ':=[.box (Ai c0 o13),_,.box (An false r12)]) rfl) ?_
    obtain⟨l15,h16,H⟩:=Ac H
    obtain⟨l17,h18,H⟩:=Ac H
    obtain⟨r19,h20,H⟩:=Ac H
    obtain⟨⟨r21,o22⟩,h23,H⟩:=Ac H
    refine T.drawS (fr':=[(0,.bx 0 0),(5,.hd 1 (l5.map (An false)).length 0 (l5.map (An false)).length),(6,.int .i64 v6),(7,.bx 2 0),(11,.int .i64 v6),(12,.bool (decide (v6 > 0))),(15,.bx 0 0),(16,.agg (An false r12)),(17,.hd 3 (([]:List Ay).map (An false)).length 0 (([]:List Ay).map (An false)).length),(18,.hd 1 (l5.map (An false)).length 0 (l5.map (An false)).length),(19,.hd 3 (l15.map (An false)).length 0 (l15.map (An false)).length),(20,.agg (An false r12)),(21,.im false (([r12]:List Ay).map (An false))),(22,.hd 3 (l17.map (An false)).length 0 (l17.map (An false)).length),(23,.bool r19),(24,.bool r19),(27,.bool (r19||r21))]) (R:=[⟨some 17,.hd 3 (([]:List Ay).map (An false)).length 0 (([]:List Ay).map (An false)).length,.q,[]⟩,⟨some 18,.hd 1 (l5.map (An false)).length 0 (l5.map (An false)).length,.q,[]⟩,⟨some 19,.hd 3 (l15.map (An false)).length 0 (l15.map (An false)).length,.q,[]⟩,⟨some 20,.agg (An false r12),.q,[]⟩,⟨some 21,.im false (([r12]:List Ay).map (An false)),.q,[]⟩,⟨some 22,.hd 3 (l17.map (An false)).length 0 (l17.map (An false)).length,.q,[]⟩,⟨some 23,.bool r19,.q,[]⟩,⟨some 24,.bool r19,.q,[]⟩,⟨some 25,Gd (!r19) (.bx 0 0),.q,[]⟩,⟨some 26,Gd (!r19) (.bool r21),.q,[]⟩,⟨some 27,.bool (r19||r21),.q,[]⟩]) (fun b=>cond (b 0) (cond (b 2) (cond (b 5) (cond (b 9) ([.box (Ai c0 o22),.arr .clo 2 (l5.map (An false)),.box (An false r12),.arr .clo 2 (l17.map (An false))]) ([.box (Ai c0 o13),.arr .clo 2 (l5.map (An false)),.box (An false r12),.arr .clo 2 (l17.map (An false))])) ([.box (Ai c0 o13),.arr .clo 2 (l5.map (An false)),.box (An false r12),.arr .clo 2 (l15.map (An false))])) ([.box (Ai c0 o13),.arr .clo 2 (l5.map (An false)),.box (An false r12),.arr .clo 2 (([]:List Ay).map (An false))])) ([.box (Ai c0 o13),.arr .clo 2 (l5.map (An false)),.box (An false r12)])) rfl ?_ ?_ rfl rfl (FrL.get (.cons rfl (.cons rfl (.cons rfl (.cons rfl (.cons rfl (.cons rfl (.cons rfl (.cons rfl (.cons rfl (.cons rfl (.cons rfl (.cons rfl (.cons rfl (.cons rfl (.cons rfl (.cons rfl (.cons rfl .nil)))))))))))))))))) ?_
    ·refine .cons _ _ _ _ _ ⟨rfl,[],AllN.get rfl .nil,fun b hd hn hk hc=>?_⟩ ?_
     ·exact Bg (cdf hk) rfl (D0 (rows:=([]:List Ay).map (An false)) .clo rfl rfl De ⟨_,rfl,rfl⟩ (by decide) rfl rfl rfl rfl (by decide) (fun _=>rfl) (by decide) rfl (by decide)) (((cdt Cu).trans (cdf ((Ap rfl).trans (hn 2 rfl)))).trans rfl) rfl
     refine .cons _ _ _ _ _ ⟨rfl,[(5,.hd 1 (l5.map (An false)).length 0 (l5.map (An false)).length)],AllN.get rfl (.cons rfl .nil),fun b hd hn hk hc=>?_⟩ ?_
     ·cases e0:b 0
      ·exact Bg (cdf e0) rfl (Bp rfl rfl) (cdf ((Ap rfl).trans e0)) rfl
      ·exact Bg ((cdt e0).trans (cdf (hn 2 rfl))) rfl (Bp rfl rfl) ((cdt ((Ap rfl).trans e0)).trans (cdf ((Ap rfl).trans (hn 2 rfl)))) rfl
     refine .cons _ _ _ _ _ ⟨rfl,[(17,.hd 3 (([]:List Ay).map (An false)).length 0 (([]:List Ay).map (An false)).length),(18,.hd 1 (l5.map (An false)).length 0 (l5.map (An false)).length)],AllN.get rfl (.cons rfl (.cons rfl .nil)),fun b hd hn hk hc=>?_⟩ ?_
     ·exact Bg ((cdt (hd 0 rfl)).trans (cdf hk)) rfl (Ee (f:=An false) (xs:=([]:List Ay)) (ys:=l5) rfl rfl tyE_30 rfl rfl rfl rfl (by decide) (src_own rfl (by decide) rfl) (fun _=>rfl) h16) ((((cdt ((Ap rfl).trans (hd 0 rfl))).trans (cdt Cu)).trans (cdf ((Ap rfl).trans (hn 5 rfl)))).trans rfl) rfl
     refine .cons _ _ _ _ _ ⟨rfl,[(7,.bx 2 0)],AllN.get rfl (.cons rfl .nil),fun b hd hn hk hc=>?_⟩ ?_
     ·cases e0:b 0
      ·cases e2:b 2
       ·exact Bg (cdf e0) rfl (Bs rfl De rfl rfl (nb rfl) rfl) (cdf ((Ap rfl).trans e0)) rfl
       ·exact absurd (hc 2 0 rfl rfl e2) (by rw[e0];decide)
      ·cases e2:b 2
       ·exact Bg ((cdt e0).trans (cdf e2)) rfl (Bs rfl De rfl rfl (nb rfl) rfl) ((cdt ((Ap rfl).trans e0)).trans (cdf ((Ap rfl).trans e2))) rfl
       ·exact Bg (((cdt e0).trans (cdt e2)).trans (cdf (hn 5 rfl))) rfl (Bs rfl De rfl rfl (nb rfl) rfl) (((cdt ((Ap rfl).trans e0)).trans (cdt ((Ap rfl).trans e2))).trans (cdf ((Ap rfl).trans (hn 5 rfl)))) rfl
     refine .cons _ _ _ _ _ ⟨rfl,[(20,.agg (An false r12))],AllN.get rfl (.cons rfl .nil),fun b hd hn hk hc=>?_⟩ ?_
     ·cases e0:b 0
      ·cases e2:b 2
       ·exact Bg (cdf e0) rfl (A8 (rows:=([r12]:List Ay).map (An false)) rfl rfl De ⟨_,rfl,rfl⟩ (by decide) rfl rfl rfl rfl rfl rfl) (cdf ((Ap rfl).trans e0)) rfl
       ·exact absurd (hc 2 0 rfl rfl e2) (by rw[e0];decide)
      ·cases e2:b 2
       ·exact Bg ((cdt e0).trans (cdf e2)) rfl (A8 (rows:=([r12]:List Ay).map (An false)) rfl rfl De ⟨_,rfl,rfl⟩ (by decide) rfl rfl rfl rfl rfl rfl) ((cdt ((Ap rfl).trans e0)).trans (cdf ((Ap rfl).trans e2))) rfl
       ·exact Bg (((cdt e0).trans (cdt e2)).trans (cdf (hn 5 rfl))) rfl (A8 (rows:=([r12]:List Ay).map (An false)) rfl rfl De ⟨_,rfl,rfl⟩ (by decide) rfl rfl rfl rfl rfl rfl) (((cdt ((Ap rfl).trans e0)).trans (cdt ((Ap rfl).trans e2))).trans (cdf ((Ap rfl).trans (hn 5 rfl)))) rfl
     refine .cons _ _ _ _ _ ⟨rfl,[(19,.hd 3 (l15.map (An false)).length 0 (l15.map (An false)).length),(21,.im false (([r12]:List Ay).map (An false)))],AllN.get rfl (.cons rfl (.cons rfl .nil)),fun b hd hn hk hc=>?_⟩ ?_
     ·exact Bg (((cdt (hd 0 rfl)).trans (cdt (hd 2 rfl))).trans (cdf hk)) rfl (Ee (f:=An false) (xs:=l15) (ys:=([r12]:List Ay)) rfl rfl tyE_30 rfl rfl rfl rfl (by decide) rfl (fun _=>rfl) h18) (((((cdt ((Ap rfl).trans (hd 0 rfl))).trans (cdt ((Ap rfl).trans (hd 2 rfl)))).trans (cdt Cu)).trans (cdf ((Ap rfl).trans (hn 9 rfl)))).trans rfl) rfl
     refine .cons _ _ _ _ _ ⟨rfl,[(22,.hd 3 (l17.map (An false)).length 0 (l17.map (An false)).length)],AllN.get rfl (.cons rfl .nil),fun b hd hn hk hc=>?_⟩ ?_
     ·exact Bg ((((cdt (hd 0 rfl)).trans (cdt (hd 2 rfl))).trans (cdt (hd 5 rfl))).trans (cdf (hn 9 rfl))) rfl (Aq rfl en_48 rfl rfl (.cons _ _ _ _ (.own rfl (by decide) rfl) .nil) (spec_l3Unlike_p true h20)) ((((cdt ((Ap rfl).trans (hd 0 rfl))).trans (cdt ((Ap rfl).trans (hd 2 rfl)))).trans (cdt ((Ap rfl).trans (hd 5 rfl)))).trans (cdf ((Ap rfl).trans (hn 9 rfl)))) rfl
     refine .cons _ _ _ _ _ ⟨rfl,[(23,.bool r19)],AllN.get rfl (.cons rfl .nil),fun b hd hn hk hc=>?_⟩ ?_
     ·exact Bg ((((cdt (hd 0 rfl)).trans (cdt (hd 2 rfl))).trans (cdt (hd 5 rfl))).trans (cdf (hn 9 rfl))) rfl (Bp rfl rfl) ((((cdt ((Ap rfl).trans (hd 0 rfl))).trans (cdt ((Ap rfl).trans (hd 2 rfl)))).trans (cdt ((Ap rfl).trans (hd 5 rfl)))).trans (cdf ((Ap rfl).trans (hn 9 rfl)))) rfl
     refine .cons _ _ _ _ _ ⟨rfl,[(0,.bx 0 0),(24,.bool r19)],AllN.get rfl (.cons rfl (.cons rfl .nil)),fun b hd hn hk hc=>?_⟩ ?_
     ·exact ops_atG ((((cdt (hd 0 rfl)).trans (cdt (hd 2 rfl))).trans (cdt (hd 5 rfl))).trans (cdf (hn 9 rfl))) rfl rfl rfl (.bool _) (fun h=>Bp rfl rfl) ((((cdt ((Ap rfl).trans (hd 0 rfl))).trans (cdt ((Ap rfl).trans (hd 2 rfl)))).trans (cdt ((Ap rfl).trans (hd 5 rfl)))).trans (cdf ((Ap rfl).trans (hn 9 rfl)))) (fun _=>rfl) rfl
     refine .cons _ _ _ _ _ ⟨rfl,[(24,.bool r19),(25,Gd (!r19) (.bx 0 0))],AllN.get rfl (.cons rfl (.cons rfl .nil)),fun b hd hn hk hc=>?_⟩ ?_
     ·exact ops_atG ((((cdt (hd 0 rfl)).trans (cdt (hd 2 rfl))).trans (cdt (hd 5 rfl))).trans (cdf hk)) rfl rfl rfl (.bool _) (fun h=>Bn [0] rfl en_41 rfl (E5 (gv h rfl) rfl) (spec_l1Cur_one_p c0 (cond_t h h23)) rfl (by decide) (.cons _ _ _ _ rfl .nil) rfl rfl rfl) (((((cdt ((Ap rfl).trans (hd 0 rfl))).trans (cdt ((Ap rfl).trans (hd 2 rfl)))).trans (cdt ((Ap rfl).trans (hd 5 rfl)))).trans (cdt Cu)).trans rfl) (fun h=>by cases cond_f h h23;rfl) rfl
     refine .cons _ _ _ _ _ ⟨rfl,[(24,.bool r19),(26,Gd (!r19) (.bool r21))],AllN.get rfl (.cons rfl (.cons rfl .nil)),fun b hd hn hk hc=>?_⟩ ?_
     ·exact Bg ((((cdt (hd 0 rfl)).trans (cdt (hd 2 rfl))).trans (cdt (hd 5 rfl))).trans (cdt (hd 9 rfl))) rfl (o_or rfl rfl rfl rfl (fun k=>Ed k)) ((((cdt ((Ap rfl).trans (hd 0 rfl))).trans (cdt ((Ap rfl).trans (hd 2 rfl)))).trans (cdt ((Ap rfl).trans (hd 5 rfl)))).trans (cdt ((Ap rfl).trans (hd 9 rfl)))) rfl
     exact .nil _
    ·intro b b' h;simp only[h 0 (by decide),h 2 (by decide),h 5 (by decide),h 9 (by decide)]
    refine Af ?_
    refine T.conv (Cs.eqS (σ':=[.box (Ai c0 o22),_,_,.arr .clo 2 (l17.map (An false))]) rfl) ?_
    refine T.cH H ?_ ?_<;>intro H h
    ·refine au 3 ?_
     refine TL.st rfl rfl rfl (A8 (rows:=([r12]:List Ay).map (An false)) rfl rfl De ⟨_,rfl,rfl⟩ (by decide) rfl rfl rfl rfl rfl rfl) ?_
     obtain⟨l24,h25,H⟩:=Ac H
     refine TL.st rfl rfl rfl (Ee (f:=An false) (xs:=l5) (ys:=([r12]:List Ay)) rfl rfl tyE_30 rfl rfl rfl rfl (by decide) rfl (fun _=>rfl) h25) ?_
     refine au 2 ?_
     refine Bh ?_
     exact Pk.of (Af ⟨o22,l24,rfl,rfl,H⟩)
    ·refine T.skip ?_
     refine Bh ?_
     exact Pk.of (Af ⟨o22,l5,rfl,rfl,H⟩)
   ·rintro _ _ ⟨b10,l11,rfl,rfl,H⟩
    refine au 5 ?_
    exact Pk.of (Af ⟨(b10,l11,(IntKind.i64.wrap (v6 - 1))),(Ad H).symm,rfl,rfl⟩)
  ·refine T.exit ?_
   refine Am ?_
   exact Pk.of (Am ⟨(b4,l5),(Ad H).symm,rfl,rfl,rfl⟩)
 ·rcases q26 with ⟨b7,l8⟩
  rintro _ _ _ ⟨rfl,rfl,rfl⟩
  refine A6 ?_
  refine au 5 ?_
  refine T.conv (Cs.frzOwn (t:=4) rfl rfl rfl) ?_
  refine T.ret ?_
  cases Ad H
  exact⟨trivial,_,(.tmp _ _ _ _ rfl .nil),⟨rfl,_,rfl⟩⟩
theorem en_39:En Tryz.prog 39:=.of Tryz.func39 rfl rfl
theorem C4:TyS Tryz.prog 77 true 4:=⟨rfl,rfl⟩
theorem en_29:En Tryz.prog 29:=.of Tryz.func29 rfl rfl
theorem tyE_77:TyE Tryz.prog 77 4:=⟨_,_,rfl,rfl,rfl,rfl,by decide,by decide⟩
noncomputable def spec_l1Cur_filterOf_l1(a0:Int)(rec_spec_l1Cur_filterOf:(Int×Ag)→Option ((List Aa)×Ag))(r6:Int):(Ag×List Aa×Int)→Option ((Ag×List Aa×Int)⊕(Ag×List Aa)):=fun s=>match s with
  | (b9,l10,v11)=>cond (decide (v11<r6)) ((rec_spec_l1Cur_filterOf ((IntKind.i64.wrap (a0 - 1)),b9)).bind fun q=>(match q with | (r15,o16)=>(app l10 r15).bind fun l18=>some (.inl (o16,l18,(IntKind.i64.wrap (v11+1)))))) (some (.inr (b9,l10)))
noncomputable def spec_l1Cur_filterOf_j4(v4:Int)(r27:ByteArray)(o31:Ag)(v33:ByteArray)(v34:Bool):Option ((List Aa)×Ag) :=
  cond v34 (some (([(⟨4,r27,v33,0⟩:Aa)]:List Aa),o31)) (cond (v4==5) ((Br 2 o31).bind fun q=>(match q with | (r35,o36)=>some (([(⟨(IntKind.i64.wrap (5+r35)),r27,v33,0⟩:Aa)]:List Aa),o36))) (cond (v4==6) (some (([(⟨7,r27,e0,0⟩:Aa)]:List Aa),o31)) ((Bw ([(ByteArray.mk #[97,42]),(ByteArray.mk #[42,110,42]),(ByteArray.mk #[42]),(ByteArray.mk #[97,92,42,98]),(ByteArray.mk #[66,42]),(ByteArray.mk #[40,120,41]),(ByteArray.mk #[126,116]),(ByteArray.mk #[97,110,110])]:List ByteArray) o31).bind fun q=>(match q with | (r38,o39)=>some (([(⟨8,r27,r38,0⟩:Aa)]:List Aa),o39)))))
noncomputable def spec_l1Cur_filterOf_j3(v4:Int)(r27:ByteArray)(o31:Ag)(v33:ByteArray):Option ((List Aa)×Ag) :=
  cond (v4==3) (spec_l1Cur_filterOf_j4 v4 r27 o31 v33 (v4==3)) (spec_l1Cur_filterOf_j4 v4 r27 o31 v33 (v4==4))
noncomputable def spec_l1Cur_filterOf_j2(a0:Int)(rec_spec_l1Cur_filterOf:(Int×Ag)→Option ((List Aa)×Ag))(o2:Ag)(v4:Int)(v5:Bool):Option ((List Aa)×Ag) :=
  cond v5 ((Br 4 o2).bind fun q=>(match q with | (r6,o7)=>(loopO (spec_l1Cur_filterOf_l1 a0 rec_spec_l1Cur_filterOf r6) (o7,([(⟨(IntKind.i64.wrap (1+v4)),e0,e0,r6⟩:Aa)]:List Aa),0)).bind fun q20=>(match q20 with | (b12,l13)=>some (l13,b12)))) (cond (v4==2) ((rec_spec_l1Cur_filterOf ((IntKind.i64.wrap (a0 - 1)),o2)).bind fun q=>(match q with | (r22,o23)=>(app ([(⟨3,e0,e0,1⟩:Aa)]:List Aa) r22).bind fun l25=>some (l25,o23))) ((Bw ([(ByteArray.mk #[97,103,101]),(ByteArray.mk #[98,111,115,115]),(ByteArray.mk #[99,108,97,115,115]),(ByteArray.mk #[99,110]),(ByteArray.mk #[109,97,105,108]),(ByteArray.mk #[109,101,109,98,101,114]),(ByteArray.mk #[111,117]),(ByteArray.mk #[110,111,115,117,99,104])]:List ByteArray) o2).bind fun q=>(match q with | (r27,o28)=>(spec_l1Cur_attrText r27 o28).bind fun q=>(match q with | (r30,o31)=>cond (r30.toList==e0.toList) (spec_l1Cur_filterOf_j3 v4 r27 o31 (ByteArray.mk #[42])) (spec_l1Cur_filterOf_j3 v4 r27 o31 r30)))))
noncomputable def spec_l1Cur_filterOf_j1(a0:Int)(rec_spec_l1Cur_filterOf:(Int×Ag)→Option ((List Aa)×Ag))(o2:Ag)(v4:Int):Option ((List Aa)×Ag) :=
  cond (v4==0) (spec_l1Cur_filterOf_j2 a0 rec_spec_l1Cur_filterOf o2 v4 (v4==0)) (spec_l1Cur_filterOf_j2 a0 rec_spec_l1Cur_filterOf o2 v4 (v4==1))
noncomputable def spec_l1Cur_filterOf_b(rec_spec_l1Cur_filterOf:(Int×Ag)→Option ((List Aa)×Ag))(a0:Int)(s0:Ag):Option ((List Aa)×Ag) :=
  (Br 9 s0).bind fun q=>(match q with | (r1,o2)=>cond ((a0==0)&&decide (r1<3)) (spec_l1Cur_filterOf_j1 a0 rec_spec_l1Cur_filterOf o2 3) (spec_l1Cur_filterOf_j1 a0 rec_spec_l1Cur_filterOf o2 r1))
noncomputable def spec_l1Cur_filterOf(a0:Int)(s0:Ag):Option ((List Aa)×Ag):=fixO (fun rec_spec_l1Cur_filterOf x=>match x with | (a0,s0)=>spec_l1Cur_filterOf_b rec_spec_l1Cur_filterOf a0 s0) (a0,s0)
theorem spec_l1Cur_filterOf_pb {rec_spec_l1Cur_filterOf : (Int ×           Ag) → Option ((List           Aa) ×           Ag)} (Hrec_spec_l1Cur_filterOf : ∀ (c0 : Bool) {a0 : Int} {s0 :           Ag} {R0 : (List           Aa)} {U0 :           Ag}, rec_spec_l1Cur_filterOf (a0, s0) = some (R0, U0) → St Tryz.prog 29 [.bx 0 0, .int .i64 a0] [.box (            Ai c0 s0)] (.im false (R0.map (            Ab false))) [.box (            Ai c0 U0)]) (c0 : Bool) {a0 : Int} {s0 :           Ag} {R0 : (List           Aa)} {U0 :           Ag} (H : spec_l1Cur_filterOf_b rec_spec_l1Cur_filterOf a0 s0 = some (R0, U0)) : St Tryz.prog 29 [.bx 0 0, .int .i64 a0] [.box (            Ai c0 s0)] (.im false (R0.map (            Ab false))) [.box (            Ai c0 U0)] := by
 refine Ba.fin (Ba.of_TN (n:=87) Tryz.func29 rfl rfl rfl rfl ?_) rfl rfl ⟨(Bt.1 rfl),trivial⟩
 refine au 7 ?_
 obtain⟨⟨r1,o2⟩,h3,H⟩:=Ac H
 refine TL.st rfl rfl rfl (Bn [0] rfl Ey rfl rfl (spec_l1Cur_pick_p c0 h3) rfl (by decide) (.cons _ _ _ _ rfl .nil) rfl rfl rfl) ?_
 refine au 2 ?_
 refine T.cut (fun fr' σ'=>∃ (v4:Int),fr' = [(0,.bx 0 0),(1,.int .i64 a0),(5,.int .i64 v4)]∧σ' = [.box (Ai c0 o2)]∧spec_l1Cur_filterOf_j1 a0 rec_spec_l1Cur_filterOf o2 v4=some (R0,U0)) (T.pk ?_) ?_
 ·skip
  refine au 9 ?_
  refine T.cH H ?_ ?_<;>intro H h
  ·refine au 3 ?_
   exact Pk.of (Af ⟨3,rfl,rfl,H⟩)
  ·refine T.skip ?_
   exact Pk.of (Af ⟨r1,rfl,rfl,H⟩)
 ·rintro _ _ ⟨v4, rfl, rfl, H⟩
  refine au 6 ?_
  refine T.cut (fun fr' σ'=>∃ (v5:Bool),fr' = [(0,.bx 0 0),(1,.int .i64 a0),(5,.int .i64 v4),(19,.int .i64 v4),(20,.bool v5)]∧σ' = [.box (Ai c0 o2)]∧spec_l1Cur_filterOf_j2 a0 rec_spec_l1Cur_filterOf o2 v4 v5=some (R0,U0)) (T.pk ?_) ?_
  ·skip
   refine au 5 ?_
   refine T.cH H ?_ ?_<;>intro H h
   ·refine T.skip ?_
    exact Pk.of (Af ⟨(v4==0),rfl,rfl,H⟩)
   ·refine au 4 ?_
    exact Pk.of (Af ⟨(v4==1),rfl,rfl,H⟩)
  ·rintro _ _ ⟨v5, rfl, rfl, H⟩
   refine T.cH H ?_ ?_<;>intro H h
   ·refine au 3 ?_
    obtain⟨⟨r6,o7⟩,h8,H⟩:=Ac H
    refine TL.st rfl rfl rfl (Bn [0] rfl Ey rfl rfl (spec_l1Cur_pick_p c0 h8) rfl (by decide) (.cons _ _ _ _ rfl .nil) rfl rfl rfl) ?_
    refine au 8 ?_
    refine TL.st rfl rfl rfl (D0 (rows:=([(⟨(IntKind.i64.wrap (1+v4)),e0,e0,r6⟩:Aa)]:List Aa).map (Ab false)) .clo rfl rfl C4 ⟨_,rfl,rfl⟩ (by decide) rfl rfl rfl rfl (by decide) (fun _=>rfl) (by decide) rfl (by decide)) ?_
    refine au 8 ?_
    obtain⟨q20,h21,H⟩:=Ac H
    refine T.lq (fun s=>match s with | (b9,l10,v11)=>[(0,.bx 0 0),(1,.int .i64 a0),(6,.int .i64 r6),(7,.hd 1 (l10.map (Ab false)).length 0 (l10.map (Ab false)).length),(8,.int .i64 v11)]) (fun s=>match s with | (b9,l10,v11)=>[.box (Ai c0 b9),.arr .clo 4 (l10.map (Ab false))]) (fun q ex fr σ=>match q with | (b12,l13)=>ex = .exit 1∧fr = [(7,.hd 1 (l13.map (Ab false)).length 0 (l13.map (Ab false)).length)]∧σ = [.box (Ai c0 b12),.arr .clo 4 (l13.map (Ab false))]) h21 ?_ ?_
    ·rintro⟨b9,l10,v11⟩ y14 H
     refine au 7 ?_
     refine T.cH H ?_ ?_<;>intro H h
     ·refine au 8 ?_
      obtain⟨⟨r15,o16⟩,h17,H⟩:=Ac H
      refine TL.st rfl rfl rfl (Bn [0] rfl en_29 rfl rfl (Hrec_spec_l1Cur_filterOf c0 h17) rfl (by decide) (.cons _ _ _ _ rfl .nil) rfl rfl rfl) ?_
      obtain⟨l18,h19,H⟩:=Ac H
      refine TL.st rfl rfl rfl (Ee (f:=Ab false) (xs:=l10) (ys:=r15) rfl rfl tyE_77 rfl rfl rfl rfl (by decide) rfl (fun _=>rfl) h19) ?_
      refine au 7 ?_
      exact Pk.of (Af ⟨(o16,l18,(IntKind.i64.wrap (v11+1))),(Ad H).symm,rfl,rfl⟩)
     ·refine T.exit ?_
      refine Am ?_
      exact Pk.of (Am ⟨(b9,l10),(Ad H).symm,rfl,rfl,rfl⟩)
    ·rcases q20 with ⟨b12,l13⟩
     rintro _ _ _ ⟨rfl,rfl,rfl⟩
     refine A6 ?_
     refine au 5 ?_
     refine T.conv (Cs.frzOwn (t:=4) rfl rfl rfl) ?_
     refine T.ret ?_
     refine Av (Aj ?_)
     cases Ad H
     exact⟨trivial,_,(.tmp _ _ _ _ rfl .nil),⟨rfl,_,rfl⟩⟩
   ·refine au 5 ?_
    refine T.cH H ?_ ?_<;>intro H h
    ·refine au 3 ?_
     refine TL.st rfl rfl rfl (D0 (rows:=([(⟨3,e0,e0,1⟩:Aa)]:List Aa).map (Ab false)) .clo rfl rfl C4 ⟨_,rfl,rfl⟩ (by decide) rfl rfl rfl rfl (by decide) (fun _=>rfl) (by decide) rfl (by decide)) ?_
     refine au 3 ?_
     obtain⟨⟨r22,o23⟩,h24,H⟩:=Ac H
     refine TL.st rfl rfl rfl (Bn [0] rfl en_29 rfl rfl (Hrec_spec_l1Cur_filterOf c0 h24) rfl (by decide) (.cons _ _ _ _ rfl .nil) rfl rfl rfl) ?_
     obtain⟨l25,h26,H⟩:=Ac H
     refine TL.st rfl rfl rfl (Ee (f:=Ab false) (xs:=([(⟨3,e0,e0,1⟩:Aa)]:List Aa)) (ys:=r22) rfl rfl tyE_77 rfl rfl rfl rfl (by decide) rfl (fun _=>rfl) h26) ?_
     refine au 2 ?_
     refine T.conv (Cs.eqS (σ':=[.box (Ai c0 o23),.arr .clo 4 (l25.map (Ab false))]) rfl) ?_
     refine T.conv (Cs.frzOwn (t:=4) rfl rfl rfl) ?_
     refine T.ret ?_
     refine Av (Aj ?_)
     cases Ad H
     exact⟨trivial,_,(.tmp _ _ _ _ rfl .nil),⟨rfl,_,rfl⟩⟩
    ·refine au 4 ?_
     refine TL.st rfl rfl rfl (A8 (rows:=([(ByteArray.mk #[97,103,101]),(ByteArray.mk #[98,111,115,115]),(ByteArray.mk #[99,108,97,115,115]),(ByteArray.mk #[99,110]),(ByteArray.mk #[109,97,105,108]),(ByteArray.mk #[109,101,109,98,101,114]),(ByteArray.mk #[111,117]),(ByteArray.mk #[110,111,115,117,99,104])]:List ByteArray).map (Aw)) rfl rfl Bm ⟨_,rfl,rfl⟩ (by decide) rfl rfl rfl rfl rfl rfl) ?_
     obtain⟨⟨r27,o28⟩,h29,H⟩:=Ac H
     refine TL.st rfl rfl rfl (Bn [0] rfl en_43 rfl rfl (spec_l1Cur_of_p false c0 h29) rfl (by decide) (.cons _ _ _ _ rfl .nil) rfl rfl rfl) ?_
     refine au 6 ?_
     obtain⟨⟨r30,o31⟩,h32,H⟩:=Ac H
     refine TL.st rfl rfl rfl (Bn [0] rfl en_67 rfl rfl (spec_l1Cur_attrText_p c0 h32) rfl (by decide) (.cons _ _ _ _ rfl .nil) rfl rfl rfl) ?_
     refine au 2 ?_
     refine T.cut (fun fr' σ'=>∃ (v33:ByteArray),fr' = [(0,.bx 0 0),(5,.int .i64 v4),(9,.str r27),(10,.str v33)]∧σ' = [.box (Ai c0 o31)]∧spec_l1Cur_filterOf_j3 v4 r27 o31 v33=some (R0,U0)) (T.pk ?_) ?_
     ·skip
      refine au 5 ?_
      refine T.cH H ?_ ?_<;>intro H h
      ·refine au 3 ?_
       exact Pk.of (Af ⟨(ByteArray.mk #[42]),rfl,rfl,H⟩)
      ·refine T.skip ?_
       exact Pk.of (Af ⟨r30,rfl,rfl,H⟩)
     ·rintro _ _ ⟨v33,rfl,rfl,H⟩
      refine au 6 ?_
      refine T.cut (fun fr' σ'=>∃ (v34:Bool),fr' = [(0,.bx 0 0),(9,.str r27),(10,.str v33),(59,.int .i64 v4),(60,.bool v34)]∧σ' = [.box (Ai c0 o31)]∧spec_l1Cur_filterOf_j4 v4 r27 o31 v33 v34=some (R0,U0)) (T.pk ?_) ?_
      ·skip
       refine au 5 ?_
       refine T.cH H ?_ ?_<;>intro H h
       ·refine T.skip ?_
        exact Pk.of (Af ⟨(v4==3),rfl,rfl,H⟩)
       ·refine au 4 ?_
        exact Pk.of (Af ⟨(v4==4),rfl,rfl,H⟩)
      ·rintro _ _ ⟨v34,rfl,rfl,H⟩
       refine T.cH H ?_ ?_<;>intro H h
       ·refine au 5 ?_
        refine TL.st rfl rfl rfl (A8 (rows:=([(⟨4,r27,v33,0⟩:Aa)]:List Aa).map (Ab false)) rfl rfl C4 ⟨_,rfl,rfl⟩ (by decide) rfl rfl rfl rfl rfl rfl) ?_
        refine au 3 ?_
        refine Av (Aj ?_)
        cases Ad H
        exact⟨trivial,_,(.tmp _ _ _ _ rfl .nil),⟨rfl,_,rfl⟩⟩
       ·refine au 5 ?_
        refine T.cH H ?_ ?_<;>intro H h
        ·refine au 3 ?_
         obtain⟨⟨r35,o36⟩,h37,H⟩:=Ac H
         refine TL.st rfl rfl rfl (Bn [0] rfl Ey rfl rfl (spec_l1Cur_pick_p c0 h37) rfl (by decide) (.cons _ _ _ _ rfl .nil) rfl rfl rfl) ?_
         refine au 4 ?_
         refine TL.st rfl rfl rfl (A8 (rows:=([(⟨(IntKind.i64.wrap (5+r35)),r27,v33,0⟩:Aa)]:List Aa).map (Ab false)) rfl rfl C4 ⟨_,rfl,rfl⟩ (by decide) rfl rfl rfl rfl rfl rfl) ?_
         refine au 3 ?_
         refine Av (Aj ?_)
         cases Ad H
         exact⟨trivial,_,(.tmp _ _ _ _ rfl .nil),⟨rfl,_,rfl⟩⟩
        ·refine au 5 ?_
         refine T.cH H ?_ ?_<;>intro H h
         ·refine au 4 ?_
          refine TL.st rfl rfl rfl (A8 (rows:=([(⟨7,r27,e0,0⟩:Aa)]:List Aa).map (Ab false)) rfl rfl C4 ⟨_,rfl,rfl⟩ (by decide) rfl rfl rfl rfl rfl rfl) ?_
          refine au 3 ?_
          refine Av (Aj ?_)
          cases Ad H
          exact⟨trivial,_,(.tmp _ _ _ _ rfl .nil),⟨rfl,_,rfl⟩⟩
         ·refine au 5 ?_
          refine TL.st rfl rfl rfl (A8 (rows:=([(ByteArray.mk #[97,42]),(ByteArray.mk #[42,110,42]),(ByteArray.mk #[42]),(ByteArray.mk #[97,92,42,98]),(ByteArray.mk #[66,42]),(ByteArray.mk #[40,120,41]),(ByteArray.mk #[126,116]),(ByteArray.mk #[97,110,110])]:List ByteArray).map (Aw)) rfl rfl Bm ⟨_,rfl,rfl⟩ (by decide) rfl rfl rfl rfl rfl rfl) ?_
          obtain⟨⟨r38,o39⟩,h40,H⟩:=Ac H
          refine TL.st rfl rfl rfl (Bn [0] rfl en_43 rfl rfl (spec_l1Cur_of_p false c0 h40) rfl (by decide) (.cons _ _ _ _ rfl .nil) rfl rfl rfl) ?_
          refine TL.st rfl rfl rfl (Es rfl ⟨_,fun _=>rfl,rfl⟩ rfl rfl rfl) ?_
          refine TL.st rfl rfl rfl (A8 (rows:=([(⟨8,r27,r38,0⟩:Aa)]:List Aa).map (Ab false)) rfl rfl C4 ⟨_,rfl,rfl⟩ (by decide) rfl rfl rfl rfl rfl rfl) ?_
          refine au 3 ?_
          cases Ad H
          exact⟨trivial,_,(.tmp _ _ _ _ rfl .nil),⟨rfl,_,rfl⟩⟩
theorem spec_l1Cur_filterOf_p(c0:Bool){a0:Int}{s0:Ag}{R0:(List Aa)}{U0:Ag}(H:spec_l1Cur_filterOf a0 s0=some (R0,U0)):St Tryz.prog 29 [.bx 0 0,.int .i64 a0] [.box (Ai c0 s0)] (.im false (R0.map (Ab false))) [.box (Ai c0 U0)] :=
 fixO_ind (fun x r=>match x,r with | (a0,s0),(R0,U0)=>∀ (c0:Bool),St Tryz.prog 29 [.bx 0 0,.int .i64 a0] [.box (Ai c0 s0)] (.im false (R0.map (Ab false))) [.box (Ai c0 U0)]) (fun rec_spec_l1Cur_filterOf Hrec x r h=>match x,r,h with | (a0,s0),(R0,U0),h=>fun c0=>spec_l1Cur_filterOf_pb (fun c0 {a0} {s0} {R0} {U0} h=>Hrec (a0,s0) (R0,U0) h c0) c0 h) H c0
noncomputable def spec_l1Cur_filterOfo_l1(a0:Int)(r6:Int):(Ag×List Aa×Int)→Option ((Ag×List Aa×Int)⊕(Ag×List Aa)):=fun s=>match s with
  | (b9,l10,v11)=>cond (decide (v11<r6)) ((spec_l1Cur_filterOf (IntKind.i64.wrap (a0 - 1)) b9).bind fun q=>(match q with | (r15,o16)=>(app l10 r15).bind fun l18=>some (.inl (o16,l18,(IntKind.i64.wrap (v11+1)))))) (some (.inr (b9,l10)))
noncomputable def spec_l1Cur_filterOfo_j4(v4:Int)(r27:ByteArray)(o31:Ag)(v33:ByteArray)(v34:Bool):Option ((List Aa)×Ag) :=
  cond v34 (some (([(⟨4,r27,v33,0⟩:Aa)]:List Aa),o31)) (cond (v4==5) ((Br 2 o31).bind fun q=>(match q with | (r35,o36)=>some (([(⟨(IntKind.i64.wrap (5+r35)),r27,v33,0⟩:Aa)]:List Aa),o36))) (cond (v4==6) (some (([(⟨7,r27,e0,0⟩:Aa)]:List Aa),o31)) ((Bw ([(ByteArray.mk #[97,42]),(ByteArray.mk #[42,110,42]),(ByteArray.mk #[42]),(ByteArray.mk #[97,92,42,98]),(ByteArray.mk #[66,42]),(ByteArray.mk #[40,120,41]),(ByteArray.mk #[126,116]),(ByteArray.mk #[97,110,110])]:List ByteArray) o31).bind fun q=>(match q with | (r38,o39)=>some (([(⟨8,r27,r38,0⟩:Aa)]:List Aa),o39)))))
noncomputable def spec_l1Cur_filterOfo_j3(v4:Int)(r27:ByteArray)(o31:Ag)(v33:ByteArray):Option ((List Aa)×Ag) :=
  cond (v4==3) (spec_l1Cur_filterOfo_j4 v4 r27 o31 v33 (v4==3)) (spec_l1Cur_filterOfo_j4 v4 r27 o31 v33 (v4==4))
noncomputable def spec_l1Cur_filterOfo_j2(a0:Int)(o2:Ag)(v4:Int)(v5:Bool):Option ((List Aa)×Ag) :=
  cond v5 ((Br 4 o2).bind fun q=>(match q with | (r6,o7)=>(loopO (spec_l1Cur_filterOfo_l1 a0 r6) (o7,([(⟨(IntKind.i64.wrap (1+v4)),e0,e0,r6⟩:Aa)]:List Aa),0)).bind fun q20=>(match q20 with | (b12,l13)=>some (l13,b12)))) (cond (v4==2) ((spec_l1Cur_filterOf (IntKind.i64.wrap (a0 - 1)) o2).bind fun q=>(match q with | (r22,o23)=>(app ([(⟨3,e0,e0,1⟩:Aa)]:List Aa) r22).bind fun l25=>some (l25,o23))) ((Bw ([(ByteArray.mk #[97,103,101]),(ByteArray.mk #[98,111,115,115]),(ByteArray.mk #[99,108,97,115,115]),(ByteArray.mk #[99,110]),(ByteArray.mk #[109,97,105,108]),(ByteArray.mk #[109,101,109,98,101,114]),(ByteArray.mk #[111,117]),(ByteArray.mk #[110,111,115,117,99,104])]:List ByteArray) o2).bind fun q=>(match q with | (r27,o28)=>(spec_l1Cur_attrText r27 o28).bind fun q=>(match q with | (r30,o31)=>cond (r30.toList==e0.toList) (spec_l1Cur_filterOfo_j3 v4 r27 o31 (ByteArray.mk #[42])) (spec_l1Cur_filterOfo_j3 v4 r27 o31 r30)))))
noncomputable def spec_l1Cur_filterOfo_j1(a0:Int)(o2:Ag)(v4:Int):Option ((List Aa)×Ag) :=
  cond (v4==0) (spec_l1Cur_filterOfo_j2 a0 o2 v4 (v4==0)) (spec_l1Cur_filterOfo_j2 a0 o2 v4 (v4==1))
noncomputable def spec_l1Cur_filterOfo(a0:Int)(s0:Ag):Option ((List Aa)×Ag) :=
  (Br 9 s0).bind fun q=>(match q with | (r1,o2)=>cond ((a0==0)&&decide (r1<3)) (spec_l1Cur_filterOfo_j1 a0 o2 3) (spec_l1Cur_filterOfo_j1 a0 o2 r1))
theorem spec_l1Cur_filterOfo_o (c0 : Bool) {a0 : Int} {s0 :           Ag} {R0 : (List           Aa)} {U0 :           Ag} (H : spec_l1Cur_filterOfo a0 s0 = some (R0, U0)) : St Tryz.prog 29 [.bx 0 0, .int .i64 a0] [.box (            Ai c0 s0)] (.hd 1 (R0.map (            Ab false)).length 0 (R0.map (            Ab false)).length) [.box (            Ai c0 U0), .arr .clo 4 (R0.map (            Ab false))] := by
 refine Ba.finR (Ba.of_TN (n:=87) Tryz.func29 rfl rfl rfl rfl ?_) rfl rfl ⟨(Bt.1 rfl),⟨trivial,trivial⟩⟩
 refine T.conv Cs.pushDead ?_
 refine T.conv (Cs.wkF (M:=2) (.k 0 rfl rfl (.k 1 rfl rfl .nil))) ?_
 refine T.conv (Cs.eqS (σ':=[.box (Ai c0 s0),.dead]) rfl) ?_
 refine au 7 ?_
 obtain⟨⟨r1,o2⟩,h3,H⟩:=Ac H
 refine TL.st rfl rfl rfl (Bn [0] rfl Ey rfl rfl (spec_l1Cur_pick_p c0 h3) rfl (by decide) (.cons _ _ _ _ rfl .nil) rfl rfl rfl) ?_
 refine au 2 ?_
 refine T.cut (fun fr' σ'=>∃ (v4:Int),fr' = [(0,.bx 0 0),(1,.int .i64 a0),(5,.int .i64 v4)]∧σ' = [.box (Ai c0 o2),.dead]∧spec_l1Cur_filterOfo_j1 a0 o2 v4=some (R0,U0)) (T.pk ?_) ?_
 ·skip
  refine au 9 ?_
  refine T.cH H ?_ ?_<;>intro H h
  ·refine au 3 ?_
   exact Pk.of (Af ⟨3,rfl,rfl,H⟩)
  ·refine T.skip ?_
   exact Pk.of (Af ⟨r1,rfl,rfl,H⟩)
 ·rintro _ _ ⟨v4, rfl, rfl, H⟩
  refine au 6 ?_
  refine T.cut (fun fr' σ'=>∃ (v5:Bool),fr' = [(0,.bx 0 0),(1,.int .i64 a0),(5,.int .i64 v4),(19,.int .i64 v4),(20,.bool v5)]∧σ' = [.box (Ai c0 o2),.dead]∧spec_l1Cur_filterOfo_j2 a0 o2 v4 v5=some (R0,U0)) (T.pk ?_) ?_
  ·skip
   refine au 5 ?_
   refine T.cH H ?_ ?_<;>intro H h
   ·refine T.skip ?_
    exact Pk.of (Af ⟨(v4==0),rfl,rfl,H⟩)
   ·refine au 4 ?_
    exact Pk.of (Af ⟨(v4==1),rfl,rfl,H⟩)
  ·rintro _ _ ⟨v5, rfl, rfl, H⟩
   refine T.cH H ?_ ?_<;>intro H h
   ·refine au 3 ?_
    obtain⟨⟨r6,o7⟩,h8,H⟩:=Ac H
    refine TL.st rfl rfl rfl (Bn [0] rfl Ey rfl rfl (spec_l1Cur_pick_p c0 h8) rfl (by decide) (.cons _ _ _ _ rfl .nil) rfl rfl rfl) ?_
    refine au 8 ?_
    refine TL.st rfl rfl rfl (D0 (rows:=([(⟨(IntKind.i64.wrap (1+v4)),e0,e0,r6⟩:Aa)]:List Aa).map (Ab false)) .clo rfl rfl C4 ⟨_,rfl,rfl⟩ (by decide) rfl rfl rfl rfl (by decide) (fun _=>rfl) (by decide) rfl (by decide)) ?_
    refine au 8 ?_
    obtain⟨q20,h21,H⟩:=Ac H
    refine T.lq (fun s=>match s with | (b9,l10,v11)=>[(0,.bx 0 0),(1,.int .i64 a0),(6,.int .i64 r6),(7,.hd 2 (l10.map (Ab false)).length 0 (l10.map (Ab false)).length),(8,.int .i64 v11)]) (fun s=>match s with | (b9,l10,v11)=>[.box (Ai c0 b9),.dead,.arr .clo 4 (l10.map (Ab false))]) (fun q ex fr σ=>match q with | (b12,l13)=>ex = .exit 1∧fr = [(7,.hd 2 (l13.map (Ab false)).length 0 (l13.map (Ab false)).length)]∧σ = [.box (Ai c0 b12),.dead,.arr .clo 4 (l13.map (Ab false))]) h21 ?_ ?_
    ·rintro⟨b9,l10,v11⟩ y14 H
     refine au 7 ?_
     refine T.cH H ?_ ?_<;>intro H h
     ·refine au 8 ?_
      obtain⟨⟨r15,o16⟩,h17,H⟩:=Ac H
      refine TL.st rfl rfl rfl (Bn [0] rfl en_29 rfl rfl (spec_l1Cur_filterOf_p c0 h17) rfl (by decide) (.cons _ _ _ _ rfl .nil) rfl rfl rfl) ?_
      obtain⟨l18,h19,H⟩:=Ac H
      refine TL.st rfl rfl rfl (Ee (f:=Ab false) (xs:=l10) (ys:=r15) rfl rfl tyE_77 rfl rfl rfl rfl (by decide) rfl (fun _=>rfl) h19) ?_
      refine au 7 ?_
      exact Pk.of (Af ⟨(o16,l18,(IntKind.i64.wrap (v11+1))),(Ad H).symm,rfl,rfl⟩)
     ·refine T.exit ?_
      refine Am ?_
      exact Pk.of (Am ⟨(b9,l10),(Ad H).symm,rfl,rfl,rfl⟩)
    ·rcases q20 with ⟨b12,l13⟩
     rintro _ _ _ ⟨rfl,rfl,rfl⟩
     refine A6 ?_
     refine au 5 ?_
     refine T.conv (Cs.wkF (M:=3) (.k 4 rfl rfl .nil)) ?_
     refine T.conv (Cs.reloc 1 2 rfl rfl (by decide) rfl rfl rfl (Bv rfl)) ?_
     refine T.conv (Cs.wkF (M:=3) (.k 4 rfl rfl .nil)) ?_
     refine T.conv (Cs.eqS (σ':=[_,.arr .clo 4 (l13.map (Ab false)),.dead]) rfl) ?_
     refine T.ret ?_
     refine Av (Aj ?_)
     cases Ad H
     exact⟨trivial,_,(.tmp _ _ _ _ rfl .nil),⟨rfl,_,rfl⟩⟩
   ·refine au 5 ?_
    refine T.cH H ?_ ?_<;>intro H h
    ·refine au 3 ?_
     refine TL.st rfl rfl rfl (D0 (rows:=([(⟨3,e0,e0,1⟩:Aa)]:List Aa).map (Ab false)) .clo rfl rfl C4 ⟨_,rfl,rfl⟩ (by decide) rfl rfl rfl rfl (by decide) (fun _=>rfl) (by decide) rfl (by decide)) ?_
     refine au 3 ?_
     obtain⟨⟨r22,o23⟩,h24,H⟩:=Ac H
     refine TL.st rfl rfl rfl (Bn [0] rfl en_29 rfl rfl (spec_l1Cur_filterOf_p c0 h24) rfl (by decide) (.cons _ _ _ _ rfl .nil) rfl rfl rfl) ?_
     obtain⟨l25,h26,H⟩:=Ac H
     refine TL.st rfl rfl rfl (Ee (f:=Ab false) (xs:=([(⟨3,e0,e0,1⟩:Aa)]:List Aa)) (ys:=r22) rfl rfl tyE_77 rfl rfl rfl rfl (by decide) rfl (fun _=>rfl) h26) ?_
     refine au 2 ?_
     refine T.conv (Cs.eqS (σ':=[.box (Ai c0 o23),_,.arr .clo 4 (l25.map (Ab false))]) rfl) ?_
     refine T.conv (Cs.wkF (M:=3) (.k 4 rfl rfl .nil)) ?_
     refine T.conv (Cs.reloc 1 2 rfl rfl (by decide) rfl rfl rfl (Bv rfl)) ?_
     refine T.conv (Cs.wkF (M:=3) (.k 4 rfl rfl .nil)) ?_
     refine T.conv (Cs.eqS (σ':=[_,.arr .clo 4 (l25.map (Ab false)),.dead]) rfl) ?_
     refine T.ret ?_
     refine Av (Aj ?_)
     cases Ad H
     exact⟨trivial,_,(.tmp _ _ _ _ rfl .nil),⟨rfl,_,rfl⟩⟩
    ·refine au 4 ?_
     refine TL.st rfl rfl rfl (A8 (rows:=([(ByteArray.mk #[97,103,101]),(ByteArray.mk #[98,111,115,115]),(ByteArray.mk #[99,108,97,115,115]),(ByteArray.mk #[99,110]),(ByteArray.mk #[109,97,105,108]),(ByteArray.mk #[109,101,109,98,101,114]),(ByteArray.mk #[111,117]),(ByteArray.mk #[110,111,115,117,99,104])]:List ByteArray).map (Aw)) rfl rfl Bm ⟨_,rfl,rfl⟩ (by decide) rfl rfl rfl rfl rfl rfl) ?_
     obtain⟨⟨r27,o28⟩,h29,H⟩:=Ac H
     refine TL.st rfl rfl rfl (Bn [0] rfl en_43 rfl rfl (spec_l1Cur_of_p false c0 h29) rfl (by decide) (.cons _ _ _ _ rfl .nil) rfl rfl rfl) ?_
     refine au 6 ?_
     obtain⟨⟨r30,o31⟩,h32,H⟩:=Ac H
     refine TL.st rfl rfl rfl (Bn [0] rfl en_67 rfl rfl (spec_l1Cur_attrText_p c0 h32) rfl (by decide) (.cons _ _ _ _ rfl .nil) rfl rfl rfl) ?_
     refine au 2 ?_
     refine T.cut (fun fr' σ'=>∃ (v33:ByteArray),fr' = [(0,.bx 0 0),(5,.int .i64 v4),(9,.str r27),(10,.str v33)]∧σ' = [.box (Ai c0 o31),.dead]∧spec_l1Cur_filterOfo_j3 v4 r27 o31 v33=some (R0,U0)) (T.pk ?_) ?_
     ·skip
      refine au 5 ?_
      refine T.cH H ?_ ?_<;>intro H h
      ·refine au 3 ?_
       exact Pk.of (Af ⟨(ByteArray.mk #[42]),rfl,rfl,H⟩)
      ·refine T.skip ?_
       exact Pk.of (Af ⟨r30,rfl,rfl,H⟩)
     ·rintro _ _ ⟨v33,rfl,rfl,H⟩
      refine au 6 ?_
      refine T.cut (fun fr' σ'=>∃ (v34:Bool),fr' = [(0,.bx 0 0),(9,.str r27),(10,.str v33),(59,.int .i64 v4),(60,.bool v34)]∧σ' = [.box (Ai c0 o31),.dead]∧spec_l1Cur_filterOfo_j4 v4 r27 o31 v33 v34=some (R0,U0)) (T.pk ?_) ?_
      ·skip
       refine au 5 ?_
       refine T.cH H ?_ ?_<;>intro H h
       ·refine T.skip ?_
        exact Pk.of (Af ⟨(v4==3),rfl,rfl,H⟩)
       ·refine au 4 ?_
        exact Pk.of (Af ⟨(v4==4),rfl,rfl,H⟩)
      ·rintro _ _ ⟨v34,rfl,rfl,H⟩
       refine T.cH H ?_ ?_<;>intro H h
       ·refine au 5 ?_
        refine TL.st rfl rfl rfl (D0 (rows:=([(⟨4,r27,v33,0⟩:Aa)]:List Aa).map (Ab false)) .clo rfl rfl C4 ⟨_,rfl,rfl⟩ (by decide) rfl rfl rfl rfl (by decide) (fun _=>rfl) (by decide) rfl (by decide)) ?_
        refine au 2 ?_
        refine T.conv (Cs.wkF (M:=3) (.k 4 rfl rfl .nil)) ?_
        refine T.conv (Cs.reloc 1 2 rfl rfl (by decide) rfl rfl rfl (Bv rfl)) ?_
        refine T.conv (Cs.wkF (M:=3) (.k 4 rfl rfl .nil)) ?_
        refine T.conv (Cs.eqS (σ':=[_,.arr .clo 4 (([(⟨4,r27,v33,0⟩:Aa)]:List Aa).map (Ab false)),.dead]) rfl) ?_
        refine T.ret ?_
        refine Av (Aj ?_)
        cases Ad H
        exact⟨trivial,_,(.tmp _ _ _ _ rfl .nil),⟨rfl,_,rfl⟩⟩
       ·refine au 5 ?_
        refine T.cH H ?_ ?_<;>intro H h
        ·refine au 3 ?_
         obtain⟨⟨r35,o36⟩,h37,H⟩:=Ac H
         refine TL.st rfl rfl rfl (Bn [0] rfl Ey rfl rfl (spec_l1Cur_pick_p c0 h37) rfl (by decide) (.cons _ _ _ _ rfl .nil) rfl rfl rfl) ?_
         refine au 4 ?_
         refine TL.st rfl rfl rfl (D0 (rows:=([(⟨(IntKind.i64.wrap (5+r35)),r27,v33,0⟩:Aa)]:List Aa).map (Ab false)) .clo rfl rfl C4 ⟨_,rfl,rfl⟩ (by decide) rfl rfl rfl rfl (by decide) (fun _=>rfl) (by decide) rfl (by decide)) ?_
         refine au 2 ?_
         refine T.conv (Cs.wkF (M:=3) (.k 4 rfl rfl .nil)) ?_
         refine T.conv (Cs.reloc 1 2 rfl rfl (by decide) rfl rfl rfl (Bv rfl)) ?_
         refine T.conv (Cs.wkF (M:=3) (.k 4 rfl rfl .nil)) ?_
         refine T.conv (Cs.eqS (σ':=[.box (Ai c0 o36),.arr .clo 4 (([(⟨(IntKind.i64.wrap (5+r35)),r27,v33,0⟩:Aa)]:List Aa).map (Ab false)),.dead]) rfl) ?_
         refine T.ret ?_
         refine Av (Aj ?_)
         cases Ad H
         exact⟨trivial,_,(.tmp _ _ _ _ rfl .nil),⟨rfl,_,rfl⟩⟩
        ·refine au 5 ?_
         refine T.cH H ?_ ?_<;>intro H h
         ·refine au 4 ?_
          refine TL.st rfl rfl rfl (D0 (rows:=([(⟨7,r27,e0,0⟩:Aa)]:List Aa).map (Ab false)) .clo rfl rfl C4 ⟨_,rfl,rfl⟩ (by decide) rfl rfl rfl rfl (by decide) (fun _=>rfl) (by decide) rfl (by decide)) ?_
          refine au 2 ?_
          refine T.conv (Cs.wkF (M:=3) (.k 4 rfl rfl .nil)) ?_
          refine T.conv (Cs.reloc 1 2 rfl rfl (by decide) rfl rfl rfl (Bv rfl)) ?_
          refine T.conv (Cs.wkF (M:=3) (.k 4 rfl rfl .nil)) ?_
          refine T.conv (Cs.eqS (σ':=[_,.arr .clo 4 (([(⟨7,r27,e0,0⟩:Aa)]:List Aa).map (Ab false)),.dead]) rfl) ?_
          refine T.ret ?_
          refine Av (Aj ?_)
          cases Ad H
          exact⟨trivial,_,(.tmp _ _ _ _ rfl .nil),⟨rfl,_,rfl⟩⟩
         ·refine au 5 ?_
          refine TL.st rfl rfl rfl (A8 (rows:=([(ByteArray.mk #[97,42]),(ByteArray.mk #[42,110,42]),(ByteArray.mk #[42]),(ByteArray.mk #[97,92,42,98]),(ByteArray.mk #[66,42]),(ByteArray.mk #[40,120,41]),(ByteArray.mk #[126,116]),(ByteArray.mk #[97,110,110])]:List ByteArray).map (Aw)) rfl rfl Bm ⟨_,rfl,rfl⟩ (by decide) rfl rfl rfl rfl rfl rfl) ?_
          obtain⟨⟨r38,o39⟩,h40,H⟩:=Ac H
          refine TL.st rfl rfl rfl (Bn [0] rfl en_43 rfl rfl (spec_l1Cur_of_p false c0 h40) rfl (by decide) (.cons _ _ _ _ rfl .nil) rfl rfl rfl) ?_
          refine TL.st rfl rfl rfl (Es rfl ⟨_,fun _=>rfl,rfl⟩ rfl rfl rfl) ?_
          refine TL.st rfl rfl rfl (D0 (rows:=([(⟨8,r27,r38,0⟩:Aa)]:List Aa).map (Ab false)) .clo rfl rfl C4 ⟨_,rfl,rfl⟩ (by decide) rfl rfl rfl rfl (by decide) (fun _=>rfl) (by decide) rfl (by decide)) ?_
          refine au 2 ?_
          refine T.conv (Cs.wkF (M:=3) (.k 4 rfl rfl .nil)) ?_
          refine T.conv (Cs.reloc 1 2 rfl rfl (by decide) rfl rfl rfl (Bv rfl)) ?_
          refine T.conv (Cs.wkF (M:=3) (.k 4 rfl rfl .nil)) ?_
          refine T.conv (Cs.eqS (σ':=[.box (Ai c0 o39),.arr .clo 4 (([(⟨8,r27,r38,0⟩:Aa)]:List Aa).map (Ab false)),.dead]) rfl) ?_
          refine T.ret ?_
          cases Ad H
          exact⟨trivial,_,(.tmp _ _ _ _ rfl .nil),⟨rfl,_,rfl⟩⟩
noncomputable def spec_l1Cur_oddFilterx_l1 : (List Aa×Int)→Option ((List Aa×Int)⊕List Aa):=fun s=>match s with
  | (l32,v33)=>cond (decide (v33 > 0)) ((app ([(⟨3,e0,e0,1⟩:Aa)]:List Aa) l32).bind fun l36=>some (.inl (l36,(IntKind.i64.wrap (v33 - 1))))) (some (.inr l32))
noncomputable def spec_l1Cur_oddFilterx(s0:Ag)(s1:List Aa):Option ((List Aa)×Ag) :=
  (Br (s1.length:Int) s0).bind fun q=>(match q with | (r1,o2)=>(Br 16 o2).bind fun q=>(match q with | (r4,o5)=>cond (r4==0) ((idx s1 r1).bind fun e7=>(Br 3 o5).bind fun q=>(match q with | (r9,o10)=>(idx s1 r1).bind fun e12=>some ((s1.set (Int.toNat r1) ({ e12 with Kids_:=(IntKind.i64.wrap (e7.Kids_+(IntKind.i64.wrap (r9 - 1)))) }:Aa)),o10))) (cond (r4==1) ((Br 10 o5).bind fun q=>(match q with | (r14,o15)=>(idx s1 r1).bind fun e17=>some ((s1.set (Int.toNat r1) ({ e17 with Kind_:=r14 }:Aa)),o15))) (cond (r4==2) ((Bw ([e0,(ByteArray.mk #[9]),(ByteArray.mk #[92]),(ByteArray.mk #[120])]:List ByteArray) o5).bind fun q=>(match q with | (r19,o20)=>(idx s1 r1).bind fun e22=>some ((s1.set (Int.toNat r1) ({ e22 with Text_:=r19 }:Aa)),o20))) (cond (r4==3) ((Bw ([e0,(ByteArray.mk #[49]),(ByteArray.mk #[121])]:List ByteArray) o5).bind fun q=>(match q with | (r24,o25)=>(idx s1 r1).bind fun e27=>some ((s1.set (Int.toNat r1) ({ e27 with Attr_:=r24 }:Aa)),o25))) (cond (r4==4) ((Br 4 o5).bind fun q=>(match q with | (r29,o30)=>(loopO (spec_l1Cur_oddFilterx_l1) (s1,(IntKind.i64.wrap (18+r29)))).bind fun l34=>(match l34 with | l34=>some (l34,o30)))) (some (s1,o5))))))))
theorem spec_l1Cur_oddFilterx_o (c0 : Bool) {s0 :           Ag} {s1 : List           Aa} {R0 : (List           Aa)} {U0 :           Ag} (H : spec_l1Cur_oddFilterx s0 s1 = some (R0, U0)) : St Tryz.prog 28 [.bx 0 0, .hd 1 (s1.map (            Ab false)).length 0 (s1.map (            Ab false)).length] [.box (            Ai c0 s0), .arr .clo 4 (s1.map (            Ab false))] (.hd 3 (R0.map (            Ab false)).length 0 (R0.map (            Ab false)).length) [.box (            Ai c0 U0), .dead, .dead, .arr .clo 4 (R0.map (            Ab false))] := by
 refine Ba.finR (Ba.of_TN (n:=66) Tryz.func28 rfl rfl rfl rfl ?_) rfl rfl ⟨(Bt.1 rfl),⟨trivial,⟨trivial,⟨trivial,trivial⟩⟩⟩⟩
 refine T.conv (Cs.fresh 1 rfl rfl (by decide) rfl (nomS_all rfl rfl)) ?_
 refine T.conv Cs.pushDead ?_
 refine T.conv (Cs.wkF (M:=4) (.k 0 rfl rfl (.k 1 rfl rfl .nil))) ?_
 refine T.conv (Cs.eqS (σ':=[.box (Ai c0 s0),.dead,.arr .clo 4 (s1.map (Ab false)),.dead]) rfl) ?_
 refine au 8 ?_
 refine TL.st rfl rfl rfl (Dt (f:=Ab false) rfl rfl rfl rfl rfl) ?_
 obtain⟨⟨r1,o2⟩,h3,H⟩:=Ac H
 refine TL.st rfl rfl rfl (Bn [0] rfl Ey rfl rfl (spec_l1Cur_pick_p c0 h3) rfl (by decide) (.cons _ _ _ _ rfl .nil) rfl rfl rfl) ?_
 refine au 6 ?_
 obtain⟨⟨r4,o5⟩,h6,H⟩:=Ac H
 refine TL.st rfl rfl rfl (Bn [0] rfl Ey rfl rfl (spec_l1Cur_pick_p c0 h6) rfl (by decide) (.cons _ _ _ _ rfl .nil) rfl rfl rfl) ?_
 refine au 7 ?_
 refine T.cH H ?_ ?_<;>intro H h
 ·obtain⟨e7,h8,H⟩:=Ac H
  obtain⟨⟨r9,o10⟩,h11,H⟩:=Ac H
  obtain⟨e12,h13,H⟩:=Ac H
  refine T.drawS (fr':=[(0,.bx 0 0),(1,.hd 2 (s1.map (Ab false)).length 0 (s1.map (Ab false)).length),(4,.nilS),(5,.int .i64 r1),(7,.bx 0 0),(8,.hd 2 (s1.map (Ab false)).length 0 (s1.map (Ab false)).length),(9,.int .i64 (s1.length:Int)),(10,.int .i64 r1),(11,.bx 0 0),(12,.int .i64 r4),(13,.bool (r4==0)),(14,.bool (r4==0)),(15,.hd 2 (s1.map (Ab false)).length 0 (s1.map (Ab false)).length),(16,.int .i64 r1),(19,.int .i64 e7.Kids_),(20,.bx 0 0),(21,.int .i64 r9),(22,.int .i64 (IntKind.i64.wrap (r9 - 1))),(23,.int .i64 (IntKind.i64.wrap (e7.Kids_+(IntKind.i64.wrap (r9 - 1)))))]) (R:=[⟨some 15,.hd 2 (s1.map (Ab false)).length 0 (s1.map (Ab false)).length,.q,[]⟩,⟨some 16,.int .i64 r1,.q,[]⟩,⟨some 17,.el 2 (s1.map (Ab false)).length (Int.toNat r1) 0,.q,[]⟩,⟨some 18,.el 2 (s1.map (Ab false)).length (Int.toNat r1) 3,.q,[]⟩,⟨some 19,.int .i64 e7.Kids_,.q,[]⟩,⟨some 20,.bx 0 0,.q,[]⟩,⟨some 21,.int .i64 r9,.q,[]⟩,⟨some 22,.int .i64 (IntKind.i64.wrap (r9 - 1)),.q,[]⟩,⟨some 23,.int .i64 (IntKind.i64.wrap (e7.Kids_+(IntKind.i64.wrap (r9 - 1)))),.q,[]⟩,⟨some 24,.el 2 (s1.map (Ab false)).length (Int.toNat r1) 0,.q,[]⟩,⟨some 25,.el 2 (s1.map (Ab false)).length (Int.toNat r1) 3,.q,[]⟩,⟨none,.any,.q,[]⟩]) (fun b=>cond (b 6) (cond (b 11) ([.box (Ai c0 o10),.dead,.arr .clo 4 ((s1.set (Int.toNat r1) ({ e12 with Kids_:=(IntKind.i64.wrap (e7.Kids_+(IntKind.i64.wrap (r9 - 1)))) }:Aa)).map (Ab false)),.dead]) ([.box (Ai c0 o10),.dead,.arr .clo 4 (s1.map (Ab false)),.dead])) ([.box (Ai c0 o5),.dead,.arr .clo 4 (s1.map (Ab false)),.dead])) rfl ?_ ?_ rfl rfl (FrL.get (.cons rfl (.cons rfl (.cons rfl (.cons rfl (.cons rfl (.cons rfl (.cons rfl (.cons rfl (.cons rfl (.cons rfl (.cons rfl (.cons rfl (.cons rfl (.cons rfl (.cons rfl (.cons rfl (.cons rfl (.cons rfl (.cons rfl .nil)))))))))))))))))))) ?_
  ·refine .cons _ _ _ _ _ ⟨rfl,[(1,.hd 2 (s1.map (Ab false)).length 0 (s1.map (Ab false)).length)],AllN.get rfl (.cons rfl .nil),fun b hd hn hk hc=>?_⟩ ?_
   ·cases e6:b 6
    ·exact Bg (cdf e6) rfl (Bp rfl rfl) (cdf ((Ap rfl).trans e6)) rfl
    ·exact Bg ((cdt e6).trans (cdf (hn 11 rfl))) rfl (Bp rfl rfl) ((cdt ((Ap rfl).trans e6)).trans (cdf ((Ap rfl).trans (hn 11 rfl)))) rfl
   refine .cons _ _ _ _ _ ⟨rfl,[(5,.int .i64 r1)],AllN.get rfl (.cons rfl .nil),fun b hd hn hk hc=>?_⟩ ?_
   ·cases e6:b 6
    ·exact Bg (cdf e6) rfl (Bp rfl rfl) (cdf ((Ap rfl).trans e6)) rfl
    ·exact Bg ((cdt e6).trans (cdf (hn 11 rfl))) rfl (Bp rfl rfl) ((cdt ((Ap rfl).trans e6)).trans (cdf ((Ap rfl).trans (hn 11 rfl)))) rfl
   refine .cons _ _ _ _ _ ⟨rfl,[(15,.hd 2 (s1.map (Ab false)).length 0 (s1.map (Ab false)).length),(16,.int .i64 r1)],AllN.get rfl (.cons rfl (.cons rfl .nil)),fun b hd hn hk hc=>?_⟩ ?_
   ·cases e6:b 6
    ·exact Bg (cdf e6) rfl (C2 (f:=Ab false) rfl rfl C4 rfl rfl rfl rfl h8 rfl) (cdf ((Ap rfl).trans e6)) rfl
    ·exact Bg ((cdt e6).trans (cdf (hn 11 rfl))) rfl (C2 (f:=Ab false) rfl rfl C4 rfl rfl rfl rfl h8 rfl) ((cdt ((Ap rfl).trans e6)).trans (cdf ((Ap rfl).trans (hn 11 rfl)))) rfl
   refine .cons _ _ _ _ _ ⟨rfl,[(17,.el 2 (s1.map (Ab false)).length (Int.toNat r1) 0)],AllN.get rfl (.cons rfl .nil),fun b hd hn hk hc=>?_⟩ ?_
   ·cases e6:b 6
    ·exact Bg (cdf e6) rfl (Cn rfl rfl rfl Dj (by decide) rfl rfl rfl) (cdf ((Ap rfl).trans e6)) rfl
    ·exact Bg ((cdt e6).trans (cdf (hn 11 rfl))) rfl (Cn rfl rfl rfl Dj (by decide) rfl rfl rfl) ((cdt ((Ap rfl).trans e6)).trans (cdf ((Ap rfl).trans (hn 11 rfl)))) rfl
   refine .cons _ _ _ _ _ ⟨rfl,[(18,.el 2 (s1.map (Ab false)).length (Int.toNat r1) 3)],AllN.get rfl (.cons rfl .nil),fun b hd hn hk hc=>?_⟩ ?_
   ·cases e6:b 6
    ·exact Bg (cdf e6) rfl (Cx rfl Dj rfl rfl rfl (by rw[List.getElem?_map,(Ej h8).2];rfl) (nb rfl) rfl) (cdf ((Ap rfl).trans e6)) rfl
    ·exact Bg ((cdt e6).trans (cdf (hn 11 rfl))) rfl (Cx rfl Dj rfl rfl rfl (by rw[List.getElem?_map,(Ej h8).2];rfl) (nb rfl) rfl) ((cdt ((Ap rfl).trans e6)).trans (cdf ((Ap rfl).trans (hn 11 rfl)))) rfl
   refine .cons _ _ _ _ _ ⟨rfl,[(0,.bx 0 0)],AllN.get rfl (.cons rfl .nil),fun b hd hn hk hc=>?_⟩ ?_
   ·exact Bg (cdf (hn 6 rfl)) rfl (Bp rfl rfl) (cdf ((Ap rfl).trans (hn 6 rfl))) rfl
   refine .cons _ _ _ _ _ ⟨rfl,[(20,.bx 0 0)],AllN.get rfl (.cons rfl .nil),fun b hd hn hk hc=>?_⟩ ?_
   ·exact Bg (cdf hk) rfl (Bn [0] rfl Ey rfl rfl (spec_l1Cur_pick_p c0 h11) rfl (by decide) (.cons _ _ _ _ rfl .nil) rfl rfl rfl) (((cdt Cu).trans (cdf ((Ap rfl).trans (hn 11 rfl)))).trans rfl) rfl
   refine .cons _ _ _ _ _ ⟨rfl,[(21,.int .i64 r9)],AllN.get rfl (.cons rfl .nil),fun b hd hn hk hc=>?_⟩ ?_
   ·exact Bg ((cdt (hd 6 rfl)).trans (cdf (hn 11 rfl))) rfl (B3 rfl rfl rfl rfl) ((cdt ((Ap rfl).trans (hd 6 rfl))).trans (cdf ((Ap rfl).trans (hn 11 rfl)))) rfl
   refine .cons _ _ _ _ _ ⟨rfl,[(19,.int .i64 e7.Kids_),(22,.int .i64 (IntKind.i64.wrap (r9 - 1)))],AllN.get rfl (.cons rfl (.cons rfl .nil)),fun b hd hn hk hc=>?_⟩ ?_
   ·exact Bg ((cdt (hd 6 rfl)).trans (cdf (hn 11 rfl))) rfl (B3 rfl rfl rfl rfl) ((cdt ((Ap rfl).trans (hd 6 rfl))).trans (cdf ((Ap rfl).trans (hn 11 rfl)))) rfl
   refine .cons _ _ _ _ _ ⟨rfl,[(15,.hd 2 (s1.map (Ab false)).length 0 (s1.map (Ab false)).length),(16,.int .i64 r1)],AllN.get rfl (.cons rfl (.cons rfl .nil)),fun b hd hn hk hc=>?_⟩ ?_
   ·exact Bg ((cdt (hd 6 rfl)).trans (cdf (hn 11 rfl))) rfl (C2 (f:=Ab false) rfl rfl C4 rfl rfl rfl rfl h13 rfl) ((cdt ((Ap rfl).trans (hd 6 rfl))).trans (cdf ((Ap rfl).trans (hn 11 rfl)))) rfl
   refine .cons _ _ _ _ _ ⟨rfl,[(24,.el 2 (s1.map (Ab false)).length (Int.toNat r1) 0)],AllN.get rfl (.cons rfl .nil),fun b hd hn hk hc=>?_⟩ ?_
   ·exact Bg ((cdt (hd 6 rfl)).trans (cdf (hn 11 rfl))) rfl (Cn rfl rfl rfl Dj (by decide) rfl rfl rfl) ((cdt ((Ap rfl).trans (hd 6 rfl))).trans (cdf ((Ap rfl).trans (hn 11 rfl)))) rfl
   refine .cons _ _ _ _ _ ⟨rfl,[(23,.int .i64 (IntKind.i64.wrap (e7.Kids_+(IntKind.i64.wrap (r9 - 1))))),(25,.el 2 (s1.map (Ab false)).length (Int.toNat r1) 3)],AllN.get rfl (.cons rfl (.cons rfl .nil)),fun b hd hn hk hc=>?_⟩ ?_
   ·exact Bg ((cdt (hd 6 rfl)).trans (cdf hk)) rfl (Dz (f:=Ab false) (xs:=s1) (k:=r1) (a:=e12) ({ e12 with Kids_:=(IntKind.i64.wrap (e7.Kids_+(IntKind.i64.wrap (r9 - 1)))) }:Aa) rfl Dj rfl rfl rfl rfl (by decide) h13 rfl rfl rfl (fun _=>rfl) rfl) (((cdt ((Ap rfl).trans (hd 6 rfl))).trans (cdt Cu)).trans rfl) rfl
   exact .nil _
  ·intro b b' h;simp only[h 6 (by decide),h 11 (by decide)]
  refine Bh (Af ?_)
  refine T.conv (Cs.eqV (t:=1) (v':=.hd 2 ((s1.set (Int.toNat r1) ({ e12 with Kids_:=(IntKind.i64.wrap (e7.Kids_+(IntKind.i64.wrap (r9 - 1)))) }:Aa)).map (Ab false)).length 0 ((s1.set (Int.toNat r1) ({ e12 with Kids_:=(IntKind.i64.wrap (e7.Kids_+(IntKind.i64.wrap (r9 - 1)))) }:Aa)).map (Ab false)).length) rfl (B2 _ (List.length_set ..))) ?_
  refine T.conv (Cs.eqV (t:=8) (v':=.hd 2 ((s1.set (Int.toNat r1) ({ e12 with Kids_:=(IntKind.i64.wrap (e7.Kids_+(IntKind.i64.wrap (r9 - 1)))) }:Aa)).map (Ab false)).length 0 ((s1.set (Int.toNat r1) ({ e12 with Kids_:=(IntKind.i64.wrap (e7.Kids_+(IntKind.i64.wrap (r9 - 1)))) }:Aa)).map (Ab false)).length) rfl (B2 _ (List.length_set ..))) ?_
  refine T.conv (Cs.eqV (t:=15) (v':=.hd 2 ((s1.set (Int.toNat r1) ({ e12 with Kids_:=(IntKind.i64.wrap (e7.Kids_+(IntKind.i64.wrap (r9 - 1)))) }:Aa)).map (Ab false)).length 0 ((s1.set (Int.toNat r1) ({ e12 with Kids_:=(IntKind.i64.wrap (e7.Kids_+(IntKind.i64.wrap (r9 - 1)))) }:Aa)).map (Ab false)).length) rfl (B2 _ (List.length_set ..))) ?_
  refine T.seq ?_
  refine T.conv (Cs.eqS (σ':=[.box (Ai c0 o10),_,.arr .clo 4 ((s1.set (Int.toNat r1) ({ e12 with Kids_:=(IntKind.i64.wrap (e7.Kids_+(IntKind.i64.wrap (r9 - 1)))) }:Aa)).map (Ab false)),_]) rfl) ?_
  refine au 4 ?_
  refine T.conv (Cs.wkF (M:=4) (.k 4 rfl rfl .nil)) ?_
  refine T.conv (Cs.reloc 3 2 rfl rfl (by decide) rfl rfl rfl (Bv rfl)) ?_
  refine T.conv (Cs.wkF (M:=4) (.k 4 rfl rfl .nil)) ?_
  refine T.conv (Cs.eqS (σ':=[_,_,.dead,.arr .clo 4 ((s1.set (Int.toNat r1) ({ e12 with Kids_:=(IntKind.i64.wrap (e7.Kids_+(IntKind.i64.wrap (r9 - 1)))) }:Aa)).map (Ab false))]) rfl) ?_
  refine T.ret ?_
  cases Ad H
  exact⟨trivial,_,(.tmp _ _ _ _ rfl .nil),⟨rfl,_,rfl⟩⟩
 ·refine au 5 ?_
  refine T.cH H ?_ ?_<;>intro H h
  ·refine au 4 ?_
   obtain⟨⟨r14,o15⟩,h16,H⟩:=Ac H
   refine TL.st rfl rfl rfl (Bn [0] rfl Ey rfl rfl (spec_l1Cur_pick_p c0 h16) rfl (by decide) (.cons _ _ _ _ rfl .nil) rfl rfl rfl) ?_
   obtain⟨e17,h18,H⟩:=Ac H
   refine TL.st rfl rfl rfl (C2 (f:=Ab false) rfl rfl C4 rfl rfl rfl rfl h18 rfl) ?_
   refine TL.st rfl rfl rfl (Cn rfl rfl rfl Dj (by decide) rfl rfl rfl) ?_
   refine TL.sn rfl rfl (Dz (f:=Ab false) (xs:=s1) (k:=r1) (a:=e17) ({ e17 with Kind_:=r14 }:Aa) rfl Dj rfl rfl rfl rfl (by decide) h18 rfl rfl rfl (fun _=>rfl) rfl) ?_
   refine TL.conv (Cs.eqV (t:=1) (v':=.hd 2 ((s1.set (Int.toNat r1) ({ e17 with Kind_:=r14 }:Aa)).map (Ab false)).length 0 ((s1.set (Int.toNat r1) ({ e17 with Kind_:=r14 }:Aa)).map (Ab false)).length) rfl (B2 _ (List.length_set ..))) ?_
   refine TL.conv (Cs.eqV (t:=8) (v':=.hd 2 ((s1.set (Int.toNat r1) ({ e17 with Kind_:=r14 }:Aa)).map (Ab false)).length 0 ((s1.set (Int.toNat r1) ({ e17 with Kind_:=r14 }:Aa)).map (Ab false)).length) rfl (B2 _ (List.length_set ..))) ?_
   refine TL.conv (Cs.eqV (t:=28) (v':=.hd 2 ((s1.set (Int.toNat r1) ({ e17 with Kind_:=r14 }:Aa)).map (Ab false)).length 0 ((s1.set (Int.toNat r1) ({ e17 with Kind_:=r14 }:Aa)).map (Ab false)).length) rfl (B2 _ (List.length_set ..))) ?_
   refine TL.conv (Cs.eqV (t:=32) (v':=.el 2 ((s1.set (Int.toNat r1) ({ e17 with Kind_:=r14 }:Aa)).map (Ab false)).length (Int.toNat r1) 0) rfl (Dv _ _ _ (List.length_set ..))) ?_
   refine TL.conv (Cs.eqV (t:=33) (v':=.el 2 ((s1.set (Int.toNat r1) ({ e17 with Kind_:=r14 }:Aa)).map (Ab false)).length (Int.toNat r1) 0) rfl (Dv _ _ _ (List.length_set ..))) ?_
   refine au 2 ?_
   refine T.conv (Cs.eqS (σ':=[.box (Ai c0 o15),_,.arr .clo 4 ((s1.set (Int.toNat r1) ({ e17 with Kind_:=r14 }:Aa)).map (Ab false)),_]) rfl) ?_
   refine au 4 ?_
   refine T.conv (Cs.wkF (M:=4) (.k 4 rfl rfl .nil)) ?_
   refine T.conv (Cs.reloc 3 2 rfl rfl (by decide) rfl rfl rfl (Bv rfl)) ?_
   refine T.conv (Cs.wkF (M:=4) (.k 4 rfl rfl .nil)) ?_
   refine T.conv (Cs.eqS (σ':=[_,_,.dead,.arr .clo 4 ((s1.set (Int.toNat r1) ({ e17 with Kind_:=r14 }:Aa)).map (Ab false))]) rfl) ?_
   refine T.ret ?_
   cases Ad H
   exact⟨trivial,_,(.tmp _ _ _ _ rfl .nil),⟨rfl,_,rfl⟩⟩
  ·refine au 5 ?_
   refine T.cH H ?_ ?_<;>intro H h
   ·refine au 4 ?_
    refine TL.st rfl rfl rfl (A8 (rows:=([e0,(ByteArray.mk #[9]),(ByteArray.mk #[92]),(ByteArray.mk #[120])]:List ByteArray).map (Aw)) rfl rfl Bm ⟨_,rfl,rfl⟩ (by decide) rfl rfl rfl rfl rfl rfl) ?_
    obtain⟨⟨r19,o20⟩,h21,H⟩:=Ac H
    refine TL.st rfl rfl rfl (Bn [0] rfl en_43 rfl rfl (spec_l1Cur_of_p false c0 h21) rfl (by decide) (.cons _ _ _ _ rfl .nil) rfl rfl rfl) ?_
    obtain⟨e22,h23,H⟩:=Ac H
    refine TL.st rfl rfl rfl (C2 (f:=Ab false) rfl rfl C4 rfl rfl rfl rfl h23 rfl) ?_
    refine TL.st rfl rfl rfl (Cn rfl rfl rfl Bm (by decide) rfl rfl rfl) ?_
    refine TL.sn rfl rfl (Dz (f:=Ab false) (xs:=s1) (k:=r1) (a:=e22) ({ e22 with Text_:=r19 }:Aa) rfl Bm rfl rfl rfl rfl (by decide) h23 rfl rfl rfl (fun _=>rfl) rfl) ?_
    refine TL.conv (Cs.eqV (t:=1) (v':=.hd 2 ((s1.set (Int.toNat r1) ({ e22 with Text_:=r19 }:Aa)).map (Ab false)).length 0 ((s1.set (Int.toNat r1) ({ e22 with Text_:=r19 }:Aa)).map (Ab false)).length) rfl (B2 _ (List.length_set ..))) ?_
    refine TL.conv (Cs.eqV (t:=8) (v':=.hd 2 ((s1.set (Int.toNat r1) ({ e22 with Text_:=r19 }:Aa)).map (Ab false)).length 0 ((s1.set (Int.toNat r1) ({ e22 with Text_:=r19 }:Aa)).map (Ab false)).length) rfl (B2 _ (List.length_set ..))) ?_
    refine TL.conv (Cs.eqV (t:=36) (v':=.hd 2 ((s1.set (Int.toNat r1) ({ e22 with Text_:=r19 }:Aa)).map (Ab false)).length 0 ((s1.set (Int.toNat r1) ({ e22 with Text_:=r19 }:Aa)).map (Ab false)).length) rfl (B2 _ (List.length_set ..))) ?_
    refine TL.conv (Cs.eqV (t:=41) (v':=.el 2 ((s1.set (Int.toNat r1) ({ e22 with Text_:=r19 }:Aa)).map (Ab false)).length (Int.toNat r1) 0) rfl (Dv _ _ _ (List.length_set ..))) ?_
    refine TL.conv (Cs.eqV (t:=42) (v':=.el 2 ((s1.set (Int.toNat r1) ({ e22 with Text_:=r19 }:Aa)).map (Ab false)).length (Int.toNat r1) 2) rfl (Dv _ _ _ (List.length_set ..))) ?_
    refine au 2 ?_
    refine T.conv (Cs.eqS (σ':=[.box (Ai c0 o20),_,.arr .clo 4 ((s1.set (Int.toNat r1) ({ e22 with Text_:=r19 }:Aa)).map (Ab false)),_]) rfl) ?_
    refine au 4 ?_
    refine T.conv (Cs.wkF (M:=4) (.k 4 rfl rfl .nil)) ?_
    refine T.conv (Cs.reloc 3 2 rfl rfl (by decide) rfl rfl rfl (Bv rfl)) ?_
    refine T.conv (Cs.wkF (M:=4) (.k 4 rfl rfl .nil)) ?_
    refine T.conv (Cs.eqS (σ':=[_,_,.dead,.arr .clo 4 ((s1.set (Int.toNat r1) ({ e22 with Text_:=r19 }:Aa)).map (Ab false))]) rfl) ?_
    refine T.ret ?_
    cases Ad H
    exact⟨trivial,_,(.tmp _ _ _ _ rfl .nil),⟨rfl,_,rfl⟩⟩
   ·refine au 5 ?_
    refine T.cH H ?_ ?_<;>intro H h
    ·refine au 4 ?_
     refine TL.st rfl rfl rfl (A8 (rows:=([e0,(ByteArray.mk #[49]),(ByteArray.mk #[121])]:List ByteArray).map (Aw)) rfl rfl Bm ⟨_,rfl,rfl⟩ (by decide) rfl rfl rfl rfl rfl rfl) ?_
     obtain⟨⟨r24,o25⟩,h26,H⟩:=Ac H
     refine TL.st rfl rfl rfl (Bn [0] rfl en_43 rfl rfl (spec_l1Cur_of_p false c0 h26) rfl (by decide) (.cons _ _ _ _ rfl .nil) rfl rfl rfl) ?_
     obtain⟨e27,h28,H⟩:=Ac H
     refine TL.st rfl rfl rfl (C2 (f:=Ab false) rfl rfl C4 rfl rfl rfl rfl h28 rfl) ?_
     refine TL.st rfl rfl rfl (Cn rfl rfl rfl Bm (by decide) rfl rfl rfl) ?_
     refine TL.sn rfl rfl (Dz (f:=Ab false) (xs:=s1) (k:=r1) (a:=e27) ({ e27 with Attr_:=r24 }:Aa) rfl Bm rfl rfl rfl rfl (by decide) h28 rfl rfl rfl (fun _=>rfl) rfl) ?_
     refine TL.conv (Cs.eqV (t:=1) (v':=.hd 2 ((s1.set (Int.toNat r1) ({ e27 with Attr_:=r24 }:Aa)).map (Ab false)).length 0 ((s1.set (Int.toNat r1) ({ e27 with Attr_:=r24 }:Aa)).map (Ab false)).length) rfl (B2 _ (List.length_set ..))) ?_
     refine TL.conv (Cs.eqV (t:=8) (v':=.hd 2 ((s1.set (Int.toNat r1) ({ e27 with Attr_:=r24 }:Aa)).map (Ab false)).length 0 ((s1.set (Int.toNat r1) ({ e27 with Attr_:=r24 }:Aa)).map (Ab false)).length) rfl (B2 _ (List.length_set ..))) ?_
     refine TL.conv (Cs.eqV (t:=45) (v':=.hd 2 ((s1.set (Int.toNat r1) ({ e27 with Attr_:=r24 }:Aa)).map (Ab false)).length 0 ((s1.set (Int.toNat r1) ({ e27 with Attr_:=r24 }:Aa)).map (Ab false)).length) rfl (B2 _ (List.length_set ..))) ?_
     refine TL.conv (Cs.eqV (t:=50) (v':=.el 2 ((s1.set (Int.toNat r1) ({ e27 with Attr_:=r24 }:Aa)).map (Ab false)).length (Int.toNat r1) 0) rfl (Dv _ _ _ (List.length_set ..))) ?_
     refine TL.conv (Cs.eqV (t:=51) (v':=.el 2 ((s1.set (Int.toNat r1) ({ e27 with Attr_:=r24 }:Aa)).map (Ab false)).length (Int.toNat r1) 1) rfl (Dv _ _ _ (List.length_set ..))) ?_
     refine au 2 ?_
     refine T.conv (Cs.eqS (σ':=[.box (Ai c0 o25),_,.arr .clo 4 ((s1.set (Int.toNat r1) ({ e27 with Attr_:=r24 }:Aa)).map (Ab false)),_]) rfl) ?_
     refine au 4 ?_
     refine T.conv (Cs.wkF (M:=4) (.k 4 rfl rfl .nil)) ?_
     refine T.conv (Cs.reloc 3 2 rfl rfl (by decide) rfl rfl rfl (Bv rfl)) ?_
     refine T.conv (Cs.wkF (M:=4) (.k 4 rfl rfl .nil)) ?_
     refine T.conv (Cs.eqS (σ':=[_,_,.dead,.arr .clo 4 ((s1.set (Int.toNat r1) ({ e27 with Attr_:=r24 }:Aa)).map (Ab false))]) rfl) ?_
     refine T.ret ?_
     cases Ad H
     exact⟨trivial,_,(.tmp _ _ _ _ rfl .nil),⟨rfl,_,rfl⟩⟩
    ·refine au 5 ?_
     refine T.cH H ?_ ?_<;>intro H h
     ·refine au 3 ?_
      obtain⟨⟨r29,o30⟩,h31,H⟩:=Ac H
      refine TL.st rfl rfl rfl (Bn [0] rfl Ey rfl rfl (spec_l1Cur_pick_p c0 h31) rfl (by decide) (.cons _ _ _ _ rfl .nil) rfl rfl rfl) ?_
      refine au 3 ?_
      refine T.conv (Cs.eqS (σ':=[.box (Ai c0 o30),_,_,_]) rfl) ?_
      refine T.block ?_
      obtain⟨l34,h39,H⟩:=Ac H
      refine T.lq (fun s=>match s with | (l32,v33)=>[(1,.hd 2 (l32.map (Ab false)).length 0 (l32.map (Ab false)).length),(6,.int .i64 v33)]) (fun s=>match s with | (l32,v33)=>[.box (Ai c0 o30),.dead,.arr .clo 4 (l32.map (Ab false)),.dead]) (fun q ex fr σ=>match q with | l34=>ex = .exit 1∧fr = [(1,.hd 2 (l34.map (Ab false)).length 0 (l34.map (Ab false)).length)]∧σ = [.box (Ai c0 o30),.dead,.arr .clo 4 (l34.map (Ab false)),.dead]) h39 ?_ ?_
      ·rintro⟨l32,v33⟩ y35 H
       refine au 6 ?_
       refine T.cH H ?_ ?_<;>intro H h
       ·refine au 5 ?_
        refine TL.st rfl rfl rfl (D0 (rows:=([(⟨3,e0,e0,1⟩:Aa)]:List Aa).map (Ab false)) .clo rfl rfl C4 ⟨_,rfl,rfl⟩ (by decide) rfl rfl rfl rfl (by decide) (fun _=>rfl) (by decide) rfl (by decide)) ?_
        refine TL.st rfl rfl rfl (Bp rfl rfl) ?_
        obtain⟨l36,h37,H⟩:=Ac H
        refine TL.st rfl rfl rfl (Ee (f:=Ab false) (xs:=([(⟨3,e0,e0,1⟩:Aa)]:List Aa)) (ys:=l32) rfl rfl tyE_77 rfl rfl rfl rfl (by decide) (src_own rfl (by decide) rfl) (fun _=>rfl) h37) ?_
        refine TL.st rfl rfl rfl (Dm rfl rfl) ?_
        refine TL.conv (Cs.wkF (M:=5) (.k 1 rfl rfl (.k 6 rfl rfl (.k 57 rfl rfl (.k 58 rfl rfl (.k 61 rfl rfl (.k 62 rfl rfl (.k 64 rfl rfl .nil)))))))) ?_
        refine TL.conv (Cs.reloc 2 4 rfl rfl (by decide) rfl rfl rfl (Bv rfl)) ?_
        refine TL.conv (Cs.wkF (M:=5) (.k 1 rfl rfl (.k 6 rfl rfl (.k 57 rfl rfl (.k 58 rfl rfl (.k 61 rfl rfl (.k 62 rfl rfl (.k 64 rfl rfl .nil)))))))) ?_
        refine TL.conv (Cs.eqS (σ':=[_,_,.arr .clo 4 (l36.map (Ab false)),_,.dead]) rfl) ?_
        refine au 6 ?_
        exact Pk.of (Af ⟨(l36,(IntKind.i64.wrap (v33 - 1))),(Ad H).symm,rfl,rfl⟩)
       ·refine T.exit ?_
        refine Am ?_
        exact Pk.of (Am ⟨l32,(Ad H).symm,rfl,rfl,rfl⟩)
      ·rintro _ _ _ ⟨rfl,rfl,rfl⟩
       refine A6 ?_
       refine au 5 ?_
       refine T.conv (Cs.wkF (M:=4) (.k 4 rfl rfl .nil)) ?_
       refine T.conv (Cs.reloc 3 2 rfl rfl (by decide) rfl rfl rfl (Bv rfl)) ?_
       refine T.conv (Cs.wkF (M:=4) (.k 4 rfl rfl .nil)) ?_
       refine T.conv (Cs.eqS (σ':=[_,_,.dead,.arr .clo 4 (l34.map (Ab false))]) rfl) ?_
       refine T.ret ?_
       cases Ad H
       exact⟨trivial,_,(.tmp _ _ _ _ rfl .nil),⟨rfl,_,rfl⟩⟩
     ·refine au 6 ?_
      refine T.conv (Cs.wkF (M:=4) (.k 4 rfl rfl .nil)) ?_
      refine T.conv (Cs.reloc 3 2 rfl rfl (by decide) rfl rfl rfl (Bv rfl)) ?_
      refine T.conv (Cs.wkF (M:=4) (.k 4 rfl rfl .nil)) ?_
      refine T.conv (Cs.eqS (σ':=[.box (Ai c0 o5),_,.dead,.arr .clo 4 (s1.map (Ab false))]) rfl) ?_
      refine T.ret ?_
      cases Ad H
      exact⟨trivial,_,(.tmp _ _ _ _ rfl .nil),⟨rfl,_,rfl⟩⟩
theorem en_28:En Tryz.prog 28:=.of Tryz.func28 rfl rfl
theorem tyS_60:TyS Tryz.prog 60 true 2:=⟨rfl,rfl⟩
theorem tyE_60:TyE Tryz.prog 60 2:=⟨_,_,rfl,rfl,rfl,rfl,by decide,by decide⟩
noncomputable def spec_DrawRuleNests_j2(l11:List A9)(v12:Int)(e16:ByteArray)(b25:Ag)(l26:List Aa):Option ((Ag×List A9×Int)⊕(Ag×List A9)) :=
  (app l11 ([(⟨e16,l26⟩:A9)]:List A9)).bind fun l27=>some (.inl (b25,l27,(IntKind.i64.wrap (v12+1))))
noncomputable def spec_DrawRuleNests_j1(l11:List A9)(v12:Int)(e16:ByteArray)(b22:Ag)(l23:List Aa):Option ((Ag×List A9×Int)⊕(Ag×List A9)) :=
  (Cg 6 b22).bind fun q=>(match q with | (r29,o30)=>cond r29 ((spec_l1Cur_oddFilterx o30 l23).bind fun q=>(match q with | (r32,o33)=>spec_DrawRuleNests_j2 l11 v12 e16 o33 r32)) (spec_DrawRuleNests_j2 l11 v12 e16 o30 l23))
noncomputable def spec_DrawRuleNests_l1 : (Ag×List A9×Int)→Option ((Ag×List A9×Int)⊕(Ag×List A9)):=fun s=>match s with
  | (b10,l11,v12)=>cond (decide (v12<(([(ByteArray.mk #[65,100,117,108,116]),(ByteArray.mk #[66,111,115,115]),(ByteArray.mk #[78,97,109,101,100])]:List ByteArray).length:Int))) ((idx ([(ByteArray.mk #[65,100,117,108,116]),(ByteArray.mk #[66,111,115,115]),(ByteArray.mk #[78,97,109,101,100])]:List ByteArray) v12).bind fun e16=>(spec_l1Cur_filterOfo 1 b10).bind fun q=>(match q with | (r18,o19)=>(Cg 3 o19).bind fun q=>(match q with | (r35,o36)=>cond (!r35) ((Bw ([(ByteArray.mk #[99,110]),(ByteArray.mk #[99,108,97,115,115]),(ByteArray.mk #[97,103,101])]:List ByteArray) o36).bind fun q=>(match q with | (r38,o39)=>spec_DrawRuleNests_j1 l11 v12 e16 o39 ([(⟨7,r38,e0,0⟩:Aa)]:List Aa))) (spec_DrawRuleNests_j1 l11 v12 e16 o36 r18)))) (some (.inr (b10,l11)))
noncomputable def spec_DrawRuleNests(a0:(List Int)):Option (Ah×(List Ay)×(List A9)) :=
  (spec_l1Cur_dirSchema (⟨a0,0,0⟩:Ag)).bind fun q=>(match q with | (r1,o2)=>(spec_l1Cur_oddDirSchemax r1 o2).bind fun q=>(match q with | (r4,o5)=>(spec_l1Cur_entries 14 o5).bind fun q=>(match q with | (r7,o8)=>(loopO (spec_DrawRuleNests_l1) (o8,([]:List A9),0)).bind fun q41=>(match q41 with | (b13,l14)=>some (r4,r7,l14)))))
end Go.G36.FR
