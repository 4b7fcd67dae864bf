/- The functions of the library that the law comes to,with the sort of nests. -/
import Derived.Test.YtkhaafonmkjjmaaGreatDoorFrCmp
import Derived.Test.YtkhaafonmkjjmaaGreatDoorKzr
set_option linter.all false
namespace Go.Proofs
open Go.Shelf
def Tryz.sortNest_ren:Go.Shelf.Ren:=⟨fun | 6=>56 | 15=>102 | 14=>101 | 28=>146 | 29=>147 | 20=>138 | 21=>139 | 22=>140 | 23=>141 | 24=>142 | 25=>143 | 26=>144 | 27=>145 | 46=>160 | 47=>161 | 48=>162 | 49=>163 | 50=>164 | 57=>175 | n=>n,fun | 22=>54 | 24=>58 | 25=>100 | 3=>3 | 39=>148 | 0=>0 | 53=>187 | 55=>63 | 4=>4 | 46=>181 | 45=>180 | 50=>162 | 5=>5 | 9=>9 | 66=>192 | 70=>196 | 76=>204 | 77=>74 | n=>n,fun | n=>n⟩
theorem Tryz.sortNest:Go.Proofs.SlLaysF0.n6 Tryz.prog Tryz.sortNest_ren:={
  mixed:=by kernel_rfl
  f6:=⟨Tryz.f56.name,by decide,Tryz.func56.trans (congrArg some (by kernel_rfl))⟩
  f14:=⟨Tryz.f101.name,by decide,Tryz.func101.trans (congrArg some (by kernel_rfl))⟩
  f15:=Tryz.func102.trans (congrArg some (by kernel_rfl))
  f20:=⟨Tryz.f138.name,by decide,Tryz.func138.trans (congrArg some (by kernel_rfl))⟩
  f21:=⟨Tryz.f139.name,by decide,Tryz.func139.trans (congrArg some (by kernel_rfl))⟩
  f22:=⟨Tryz.f140.name,by decide,Tryz.func140.trans (congrArg some (by kernel_rfl))⟩
  f23:=⟨Tryz.f141.name,by decide,Tryz.func141.trans (congrArg some (by kernel_rfl))⟩
  f24:=⟨Tryz.f142.name,by decide,Tryz.func142.trans (congrArg some (by kernel_rfl))⟩
  f25:=⟨Tryz.f143.name,by decide,Tryz.func143.trans (congrArg some (by kernel_rfl))⟩
  f26:=⟨Tryz.f144.name,by decide,Tryz.func144.trans (congrArg some (by kernel_rfl))⟩
  f27:=⟨Tryz.f145.name,by decide,Tryz.func145.trans (congrArg some (by kernel_rfl))⟩
  f28:=Tryz.func146.trans (congrArg some (by kernel_rfl))
  f29:=Tryz.func147.trans (congrArg some (by kernel_rfl))
  f46:=⟨Tryz.f160.name,by decide,Tryz.func160.trans (congrArg some (by kernel_rfl))⟩
  f47:=Tryz.func161.trans (congrArg some (by kernel_rfl))
  f48:=Tryz.func162.trans (congrArg some (by kernel_rfl))
  f49:=⟨Tryz.f163.name,by decide,Tryz.func163.trans (congrArg some (by kernel_rfl))⟩
  f50:=⟨Tryz.f164.name,by decide,Tryz.func164.trans (congrArg some (by kernel_rfl))⟩
  f57:=⟨Tryz.f175.name,by decide,Tryz.func175.trans (congrArg some (by kernel_rfl))⟩
  t0:=Tryz.underlying0
  a0:=Tryz.isAgg0
  z0:=Tryz.sizeOf0
  v0:=Tryz.zeroValue0
  t3:=Tryz.underlying3
  a3:=Tryz.isAgg3
  z3:=Tryz.sizeOf3
  v3:=Tryz.zeroValue3
  t4:=Tryz.underlying4
  a4:=Tryz.isAgg4
  z4:=Tryz.sizeOf4
  v4:=Tryz.zeroValue4
  t5:=Tryz.underlying5
  a5:=Tryz.isAgg5
  z5:=Tryz.sizeOf5
  v5:=Tryz.zeroValue5
  t9:=Tryz.underlying9
  a9:=Tryz.isAgg9
  z9:=Tryz.sizeOf9
  v9:=Tryz.zeroValue9
  t22:=Tryz.underlying54
  a22:=Tryz.isAgg54
  z22:=Tryz.sizeOf54
  v22:=Tryz.zeroValue54
  t25:=Tryz.underlying100
  a25:=Tryz.isAgg100
  z25:=Tryz.sizeOf100
  v25:=Tryz.zeroValue100
  t39:=Tryz.underlying148
  a39:=Tryz.isAgg148
  z39:=Tryz.sizeOf148
  v39:=Tryz.zeroValue148
  t45:=Tryz.underlying180
  a45:=Tryz.isAgg180
  z45:=Tryz.sizeOf180
  v45:=Tryz.zeroValue180
  t46:=Tryz.underlying181
  a46:=Tryz.isAgg181
  z46:=Tryz.sizeOf181
  v46:=Tryz.zeroValue181
  t50:=Tryz.underlying162
  a50:=Tryz.isAgg162
  z50:=Tryz.sizeOf162
  v50:=Tryz.zeroValue162
  t53:=Tryz.underlying187
  a53:=Tryz.isAgg187
  z53:=Tryz.sizeOf187
  v53:=Tryz.zeroValue187
  t55:=Tryz.underlying63
  a55:=Tryz.isAgg63
  z55:=Tryz.sizeOf63
  v55:=Tryz.zeroValue63
  t66:=Tryz.underlying192
  a66:=Tryz.isAgg192
  z66:=Tryz.sizeOf192
  v66:=Tryz.zeroValue192
  t70:=Tryz.underlying196
  a70:=Tryz.isAgg196
  z70:=Tryz.sizeOf196
  v70:=Tryz.zeroValue196
  t76:=Tryz.underlying204
  a76:=Tryz.isAgg204
  z76:=Tryz.sizeOf204
  v76:=Tryz.zeroValue204
  t77:=Tryz.underlying74
  a77:=Tryz.isAgg74
  z77:=Tryz.sizeOf74
  v77:=Tryz.zeroValue74 }
end Go.Proofs
namespace Go.G36
open Go Go.Sort Go.Proofs

theorem bl_eq:∀ (x y:List UInt8),Op.bytesLess x y=decide (x<y)
  | [],[]=>by simp[Op.bytesLess]
  | _ :: _,[]=>by simp[Op.bytesLess]
  | [],_ :: _=>by simp[Op.bytesLess]
  | a :: x,b :: y=>by
    rw[Op.bytesLess,bl_eq x y]
    simp only[List.cons_lt_cons_iff]
    by_cases h1:a<b <;> by_cases h2:a=b <;> by_cases h3:x<y <;> simp[h1,h2,h3]
theorem lt3(a b:List UInt8):a<b∨a=b∨b<a:=by
  by_cases h1:a<b
  · exact .inl h1
  · by_cases h2:b<a
    · exact .inr (.inr h2)
    · exact .inr (.inl (List.le_antisymm (List.not_lt.1 h2) (List.not_lt.1 h1)))
def Lt2(x1 x2 y1 y2:ByteArray):Prop:=x1.toList<y1.toList∨(x1.toList=y1.toList∧x2.toList<y2.toList)
theorem cmpS_neg(a b:ByteArray):Fc a b<0↔a.toList<b.toList:=by
  unfold Fc
  rw[bl_eq]
  by_cases h:a.toList<b.toList
  · simp[h]
  · by_cases h2:a.toList=b.toList <;> simp[h,h2,List.lt_irrefl]
theorem cmpS_zero(a b:ByteArray):Fc a b=0↔a.toList=b.toList:=by
  unfold Fc
  rw[bl_eq]
  by_cases h:a.toList<b.toList
  · have:a.toList≠b.toList:=fun e=>by rw[e]at h;exact List.lt_irrefl _ h
    simp[h,this]
  · by_cases h2:a.toList=b.toList <;> simp[h,h2]
theorem cmp57_neg(x1 x2 y1 y2:ByteArray):cmp57 x1 x2 y1 y2<0↔Lt2 x1 x2 y1 y2:=by
  unfold cmp57 orI Lt2
  by_cases h:Fc x1 y1=0
  · have h1:=(cmpS_zero _ _).1 h
    have:¬ x1.toList<y1.toList:=fun e=>by rw[h1]at e;exact List.lt_irrefl _ e
    simp only[h,ne_eq,not_true_eq_false,if_false,cmpS_neg]
    simp[h1,List.lt_irrefl]
  · have h1:x1.toList≠y1.toList:=fun e=>h ((cmpS_zero _ _).2 e)
    simp only[h,ne_eq,not_false_eq_true,if_true,cmpS_neg]
    simp[h1]
theorem Lt2.irrefl(x1 x2:ByteArray):¬ Lt2 x1 x2 x1 x2:=fun h=>by
  rcases h with h | ⟨_,h⟩ <;> exact List.lt_irrefl _ h
theorem Lt2.trans{x1 x2 y1 y2 z1 z2:ByteArray}(h:Lt2 x1 x2 y1 y2)(k:Lt2 y1 y2 z1 z2):Lt2 x1 x2 z1 z2:=by
  rcases h with h | ⟨h,h'⟩ <;> rcases k with k | ⟨k,k'⟩
  · exact .inl (List.lt_trans h k)
  · exact .inl (k▸h)
  · exact .inl (h▸k)
  · exact .inr ⟨h.trans k,List.lt_trans h' k'⟩
theorem Lt2.tri(x1 x2 y1 y2:ByteArray):Lt2 x1 x2 y1 y2∨(x1.toList=y1.toList∧x2.toList=y2.toList)∨Lt2 y1 y2 x1 x2:=by
  rcases lt3 x1.toList y1.toList with h | h | h
  · exact .inl (.inl h)
  · rcases lt3 x2.toList y2.toList with k | k | k
    · exact .inl (.inr ⟨h,k⟩)
    · exact .inr (.inl ⟨h,k⟩)
    · exact .inr (.inr (.inr ⟨h.symm,k⟩))
  · exact .inr (.inr (.inl h))
theorem Lt2.congl{x1 x2 y1 y2 z1 z2:ByteArray}(h:Lt2 x1 x2 y1 y2)(h1:x1.toList=z1.toList)(h2:x2.toList=z2.toList):Lt2 z1 z2 y1 y2:=by
  unfold Lt2 at *
  rw[← h1,← h2];exact h

section
variable {α:Type} {g m:α→ByteArray}
theorem lt57_iff(x y:α):ltOf (fun x y=>cmp57 (g x) (m x) (g y) (m y)) x y=true↔Lt2 (g x) (m x) (g y) (m y):=by
  unfold ltOf
  rw[decide_eq_true_iff];exact cmp57_neg _ _ _ _
theorem lt57_not(x y:α):ltOf (fun x y=>cmp57 (g x) (m x) (g y) (m y)) x y=false↔¬ Lt2 (g x) (m x) (g y) (m y):=by
  rw[← lt57_iff (g:=g) (m:=m),Bool.not_eq_true]
theorem swo57:SWO (ltOf fun (x y:α)=>cmp57 (g x) (m x) (g y) (m y)) where
  irrefl x:=(lt57_not x x).2 (Lt2.irrefl _ _)
  trans x y z h k:=(lt57_iff x z).2 (((lt57_iff x y).1 h).trans ((lt57_iff y z).1 k))
  ntrans x y z h k:=(lt57_not x z).2 fun hxz=>by
    have h1:=(lt57_not x y).1 h
    have k1:=(lt57_not y z).1 k
    rcases Lt2.tri (g x) (m x) (g y) (m y) with h2 | ⟨h2,h3⟩ | h2
    · exact h1 h2
    · exact k1 (hxz.congl h2 h3)
    · exact k1 (h2.trans hxz)
theorem tot57(hi:∀ x y:α,(g x).toList=(g y).toList→(m x).toList=(m y).toList→x=y)(x y:α)(h:ltOf (fun x y=>cmp57 (g x) (m x) (g y) (m y)) x y=false)(k:ltOf (fun x y=>cmp57 (g x) (m x) (g y) (m y)) y x=false):x=y:=by
  rcases Lt2.tri (g x) (m x) (g y) (m y) with h2 | ⟨h2,h3⟩ | h2
  · exact absurd h2 ((lt57_not x y).1 h)
  · exact hi x y h2 h3
  · exact absurd h2 ((lt57_not y x).1 k)
end

theorem bytes_inj{a b:ByteArray}(h:a.toList=b.toList):a=b:=by
  rw[Lib.toList_data,Lib.toList_data]at h
  cases a;cases b
  simpa using h

theorem lib_56[Genv]{α:Type}[Inhabited α]{f:α→List V}{g m:α→ByteArray}(hf:∀ x,f x = [.str (g x),.str (m x)])(hi:∀ x y,g x=g y→m x=m y→x=y){o:Oper}{fr:Fr}{σ:ASt}{p L:Nat}{xs ys:List α}{x y z:Operand}{ts:Array TypeId}
    (ho:o.op = .call { callee:=.value z,args:=#[x,y],argTypes:=ts }) (hcall:∀ (us:Array Value) (w:World),(callFunc 56 us).run Tryz.prog w = .ok (.enter 56 us) w) (hz:Bi fr z=some (.fn 56 [] []))
    (hx:Bi fr x=some (.hd p L 0 L)) (hy:Bi fr y=some (.fn 57 [] [])) (hσ:σ[p]? = some (.arr .clo 2 (xs.map f))) (hL:(xs.map f).length=L) (h:sortO (fun x y=>le57 (g x) (m x) (g y) (m y)) xs=some ys) :
    B1 Tryz.prog o fr σ .any (σ.set p (.arr .clo 2 (ys.map f))):=by
  have hE:EncK f (fun x=>[.string (g x),.string (m x)]) 2:=by
    refine⟨fun x=>by rw[hf];rfl,fun _=>rfl,fun x v hv=>?_,fun S w x j c u h1 h2=>?_,fun S w x j c u h1 h2=>?_⟩
    · simp at hv;rcases hv with rfl | rfl <;> rfl
    · rw[hf]at h1
      rcases j with _ | _ | j
      · simp at h1 h2;subst h1;subst h2;exact .str _
      · simp at h1 h2;subst h1;subst h2;exact .str _
      · simp at h1
    · rw[hf]at h1
      rcases j with _ | _ | j
      · simp at h1;subst h1;cases h2;rfl
      · simp at h1;subst h1;cases h2;rfl
      · simp at h1
  refine o_sortF (g:=57) (le:=fun x y=>le57 (g x) (m x) (g y) (m y)) hE (fun blk cap d w hH hblk hsz=>?_) (fun A cap w=>AnyF.slices_SortFunc_none { Tryz.sortNest with } A cap _ w) ho hcall hz hx hy hσ hL h
  exact AnyQ.slices_SortFunc_total Tryz.sortNest 2 Tryz.isAgg58 Tryz.sizeOf58 (fun x=>[.string (g x),.string (m x)]) hE.len hE.one (fun x y=>cmp57 (g x) (m x) (g y) (m y)) swo57 57 #[] blk 0 cap d w
    (enters_of Tryz.func57 (by kernel_rfl) rfl) (fun m' os dk hs x y=>Tryz.cmp57_calls _ _ _ _ _) hH hblk hsz
    (tot57 fun x y h1 h2=>hi x y (bytes_inj h1) (bytes_inj h2))
end Go.G36
