/- Two texts compared,and then two others: what a sort by two texts asks of the program. -/
import Derived.Test.YtkhaafonmkjjmaaGreatDoorMtLib
import Derived.Test.YtkhaafonmkjjmaaGreatDoorKzs
import Derived.Sort.Grow
import Derived.WalkKit
set_option linter.all false
namespace Go.G36
open Go
def Fc(a b:ByteArray):Int:=if Op.bytesLess a.toList b.toList then -1 else if (!(Op.bytesLess a.toList b.toList) && !(a.toList==b.toList)) then 1 else 0
def orI(a b:Int):Int:=if a≠0 then a else b
def cmp57(x1 x2 y1 y2:ByteArray):Int:=orI (Fc x1 y1) (Fc x2 y2)
def le57(x1 x2 y1 y2:ByteArray):Bool:=!decide (cmp57 y1 y2 x1 x2<0)
end Go.G36
namespace Go.Proofs
open Go.Shelf Go.RowKit Go.Lib Go.Sort Go.G36

theorem Tryz.isNaN148(x:ByteArray)(w:World):Calls Tryz.prog 148 #[.string x] w fun e w'=>e = .returned (.bool false)∧w' = w:=by
  go_enter Tryz.func148,Tryz.ntmps148
  go_wp2
  go_ret
  exact⟨by simp,rfl⟩

set_option maxHeartbeats 1000000 in
theorem Tryz.compare104(x y:ByteArray)(w:World):Calls Tryz.prog 104 #[.string x,.string y] w fun e w'=>e = .returned (.int .i64 (Fc x y))∧w' = w:=by
  go_enter Tryz.func104,Tryz.ntmps104
  go_wp2_with (go_at_call 148;refine (Tryz.isNaN148 _ _).mono ?_;rintro e w' ⟨rfl,rfl⟩)
  · go_ret
    exact⟨by simp_all [Fc],rfl⟩
  · have hg:∀ w,(binOp BinOp.gtr 9 (.string x) (.string y)).run Tryz.prog w = .ok (.bool (!(Op.bytesLess x.toList y.toList) && !(x.toList==y.toList))) w:=fun w=>by simp[binOp,Op.stringOp]
    rw[hg]
    simp only[Result.andThen_ok,Oper.upon]
    go_wp2
    · rename_i h1
      have h0:Op.bytesLess x.toList y.toList=false:=by assumption
      go_ret
      exact⟨by simp only[Fc,h0,h1.1,h1.2];simp,rfl⟩
    · rename_i h1
      have h0:Op.bytesLess x.toList y.toList=false:=by assumption
      go_ret
      refine⟨?_,rfl⟩
      rcases h1 with h1 | h1
      · rw[h0]at h1;cases h1
      · simp only[Fc,h0,h1];simp

set_option maxHeartbeats 1000000 in
theorem Tryz.or103(b:Nat)(c1 c2:Int)(w:World)(h0:w.cell? ⟨b,0,none⟩=some (.int .i64 c1))(h1:w.cell? ⟨b,1,none⟩=some (.int .i64 c2)) :
    Calls Tryz.prog 103 #[.slice (some ⟨b,0,none⟩) 2 2] w fun e w'=>e = .returned (.int .i64 (orI c1 c2))∧w' = w:=by
  go_enter Tryz.func103,Tryz.ntmps103
  go_wp2
  refine wp_loop_rounds 3 ?_
  rw[rounds_succ]
  go_wp2
  · go_ret
    exact⟨by simp_all [orI],rfl⟩
  · rename_i h
    rw[rounds_succ]
    go_wp2
    · go_ret
      exact⟨by simp_all [orI],rfl⟩
    · rename_i h2
      rw[rounds_succ]
      go_wp2
      go_ret
      exact⟨by simp_all [orI],rfl⟩

theorem heap_alloc_old'(w:World)(o:Obj)(i:Nat)(h:i<w.heap.size):(w.alloc o).heap[i]? = w.heap[i]?:=(World.grownBy_alloc w o none).block i h (by simp)
theorem Tryz.tyS9[Genv]:TyS Tryz.prog 9 false 1:=⟨by kernel_rfl,by kernel_rfl⟩
theorem Tryz.fa58[Genv](b f:Nat)(hf:f<2)(w:World):(Instr.fieldAt 58 (.pointer (some ⟨b,0,none⟩)) f).run Tryz.prog w = .ok (.pointer (some ⟨b,f,none⟩)) w:=by
  have h9:=fun a d (h:(d:Field).type=9)=>run_fieldPlace (P:=Tryz.prog) (a:=a) (f:=d) (ag:=false) (sz:=1) w (by rw[h];exact Tryz.tyS9) (by decide)
  rcases f with _ | _ | f
  · simp[Instr.fieldAt,run_underlying Tryz.underlying58,Instr.sureAddr,h9,Addr.add_mid]
  · simp[Instr.fieldAt,run_underlying Tryz.underlying58,Instr.sureAddr,h9,Addr.add_mid]
  · omega
theorem Tryz.ld9[Genv](b f:Nat)(s:ByteArray)(w:World)(h:w.cell? ⟨b,f,none⟩=some (.string s)):(Instr.loadAt 9 (.pointer (some ⟨b,f,none⟩))).run Tryz.prog w = .ok (.string s) w:=by
  have:=run_loadAt_gen (P:=Tryz.prog) w b f (fun _=>.string s) Tryz.tyS9 (fun _=>rfl) (fun j hj=>by rw[show j=0 by omega];exact h)
  simpa using this
theorem Tryz.en104(args:Array Value)(w:World):(callFunc 104 args).run Tryz.prog w = .ok (.enter 104 args) w:=enters_of Tryz.func104 (by kernel_rfl) rfl args w
theorem Tryz.en103(args:Array Value)(w:World):(callFunc 103 args).run Tryz.prog w = .ok (.enter 103 args) w:=enters_of Tryz.func103 (by kernel_rfl) rfl args w
theorem Tryz.bs42[Genv](c1 c2:Int)(w:World):(Instr.buildSlice 42 2 #[(0,.int .i64 c1),(1,.int .i64 c2)]).run Tryz.prog w = .ok (.slice (some ⟨w.heap.size,0,none⟩) 2 2) (w.alloc (.cells #[.int .i64 c1,.int .i64 c2] 3)):=by
  have h3:TyS Tryz.prog 3 false 1:=⟨by kernel_rfl,by kernel_rfl⟩
  simp[Instr.buildSlice,run_underlying Tryz.underlying42,h3.size w,Instr.fill,newRow,Value.cells,show Array.range 2 = #[0,1] by decide]

set_option maxHeartbeats 4000000 in
theorem Tryz.cmp57_calls(x1 x2 y1 y2:ByteArray)(W:World) :
    Calls Tryz.prog 57 #[.agg #[.string x1,.string x2],.agg #[.string y1,.string y2]] W fun e w'=>e = .returned (.int .i64 (cmp57 x1 x2 y1 y2))∧∃ q os',w' = grow (W.drewN q) os':=by
  letI:Genv:={ genv:=fun _=>none }
  go_enter Tryz.func57,Tryz.ntmps57
  apply wp_seq_k
  intro K hK
  go_wp2
  rename_i K hret
  generalize hW2:((W.alloc (Obj.cells #[Value.string x1,Value.string x2] 58)).alloc (Obj.cells #[Value.string y1,Value.string y2] 58))=W2
  have hsz:W2.heap.size=W.heap.size+2:=by rw[← hW2];simp
  have k20:W2.cell? ⟨W.heap.size,0,none⟩=some (.string x1):=by rw[← hW2];simp only[World.cell?];rw[heap_alloc_old' _ _ _ (by simp),heap_alloc_new];rfl
  have k21:W2.cell? ⟨W.heap.size,1,none⟩=some (.string x2):=by rw[← hW2];simp only[World.cell?];rw[heap_alloc_old' _ _ _ (by simp),heap_alloc_new];rfl
  have k30:W2.cell? ⟨W.heap.size+1,0,none⟩=some (.string y1):=by rw[← hW2];simp only[World.cell?];rw[show W.heap.size+1=(W.alloc (Obj.cells #[Value.string x1,Value.string x2] 58)).heap.size by simp,heap_alloc_new];rfl
  have k31:W2.cell? ⟨W.heap.size+1,1,none⟩=some (.string y2):=by rw[← hW2];simp only[World.cell?];rw[show W.heap.size+1=(W.alloc (Obj.cells #[Value.string x1,Value.string x2] 58)).heap.size by simp,heap_alloc_new];rfl
  let Wd:(Nat→Bool)→World:=fun L=>cond (L 10) (W2.alloc (.cells #[.int .i64 (Fc x1 y1),.int .i64 (Fc x2 y2)] 3)) W2
  have hWd:∀ L q a u,W2.cell? a=some u→((Wd L).drewN q).cell? a=some u:=fun L q a u h=>by
    show (Wd L).cell? a=some u
    simp only[Wd]
    cases L 10
    · exact h
    · exact (World.grownBy_alloc W2 _ none).cell h (by simp)
  refine region_vals (n:=17) Wd [5,6,7,8,9,10,11,12,13,14,15,16,4] [.pointer (some ⟨W.heap.size,0,none⟩),.string x1,.pointer (some ⟨W.heap.size+1,0,none⟩),.string y1,.int .i64 (Fc x1 y1),
    .pointer (some ⟨W.heap.size,1,none⟩),.string x2,.pointer (some ⟨W.heap.size+1,1,none⟩),.string y2,.int .i64 (Fc x2 y2),.slice (some ⟨W.heap.size+2,0,none⟩) 2 2,.int .i64 (cmp57 x1 x2 y1 y2),.int .i64 (cmp57 x1 x2 y1 y2)]
    [(2,.pointer (some ⟨W.heap.size,0,none⟩)),(3,.pointer (some ⟨W.heap.size+1,0,none⟩))] (by kernel_rfl) (by kernel_rfl) rfl rfl (by decide) (by decide) (fun x hx=>by simp at hx;rcases hx with rfl | rfl <;> simp) rfl rfl (fun x hx=>by simp at hx;rcases hx with rfl | rfl <;> rfl) ?_ ?_
  · intro L i o a' q ho hi hneeds hv hb K hK
    have b2:a'.tmps.getD 2 undef = .pointer (some ⟨W.heap.size,0,none⟩):=hb (2,_) (by simp)
    have b3:a'.tmps.getD 3 undef = .pointer (some ⟨W.heap.size+1,0,none⟩):=hb (3,_) (by simp)
    clear hb
    rcases i with _ | _ | _ | _ | _ | _ | _ | _ | _ | _ | _ | _ | _ | i
    · simp at ho;subst ho
      have hK:=fun q'=>hK _ _ q' rfl rfl
      unfold Oper.wp
      simp[execOp,Act.eval,b2,Tryz.fa58,Oper.upon]
      exact hK q
    · simp at ho;subst ho
      have hK:=fun q'=>hK _ _ q' rfl rfl
      have l0:L 0=true:=hneeds ⟨0,.data⟩ (by simp) (by decide)
      have e0:a'.tmps.getD 5 undef = .pointer (some ⟨W.heap.size,0,none⟩):=hv 0 5 _ l0 rfl rfl
      unfold Oper.wp
      simp[execOp,Act.eval,e0,Tryz.ld9 _ _ _ _ (hWd L q _ _ k20),Oper.upon]
      exact hK q
    · simp at ho;subst ho
      have hK:=fun q'=>hK _ _ q' rfl rfl
      unfold Oper.wp
      simp[execOp,Act.eval,b3,Tryz.fa58,Oper.upon]
      exact hK q
    · simp at ho;subst ho
      have hK:=fun q'=>hK _ _ q' rfl rfl
      have l2:L 2=true:=hneeds ⟨2,.data⟩ (by simp) (by decide)
      have e2:a'.tmps.getD 7 undef = .pointer (some ⟨W.heap.size+1,0,none⟩):=hv 2 7 _ l2 rfl rfl
      unfold Oper.wp
      simp[execOp,Act.eval,e2,Tryz.ld9 _ _ _ _ (hWd L q _ _ k30),Oper.upon]
      exact hK q
    · simp at ho;subst ho
      have hK:=fun q'=>hK _ _ q' rfl rfl
      have l1:L 1=true:=hneeds ⟨1,.data⟩ (by simp) (by decide)
      have e1:a'.tmps.getD 6 undef = .string x1:=hv 1 6 _ l1 rfl rfl
      have l3:L 3=true:=hneeds ⟨3,.data⟩ (by simp) (by decide)
      have e3:a'.tmps.getD 8 undef = .string y1:=hv 3 8 _ l3 rfl rfl
      unfold Oper.wp
      simp[execOp,Act.eval,e1,e3,Oper.upon,resolve,Deferred.ofValue,invoke,Tryz.en104]
      refine (Tryz.compare104 _ _ _).mono ?_
      rintro e w' ⟨rfl,rfl⟩
      exact hK q
    · simp at ho;subst ho
      have hK:=fun q'=>hK _ _ q' rfl rfl
      unfold Oper.wp
      simp[execOp,Act.eval,b2,Tryz.fa58,Oper.upon]
      exact hK q
    · simp at ho;subst ho
      have hK:=fun q'=>hK _ _ q' rfl rfl
      have l5:L 5=true:=hneeds ⟨5,.data⟩ (by simp) (by decide)
      have e5:a'.tmps.getD 10 undef = .pointer (some ⟨W.heap.size,1,none⟩):=hv 5 10 _ l5 rfl rfl
      unfold Oper.wp
      simp[execOp,Act.eval,e5,Tryz.ld9 _ _ _ _ (hWd L q _ _ k21),Oper.upon]
      exact hK q
    · simp at ho;subst ho
      have hK:=fun q'=>hK _ _ q' rfl rfl
      unfold Oper.wp
      simp[execOp,Act.eval,b3,Tryz.fa58,Oper.upon]
      exact hK q
    · simp at ho;subst ho
      have hK:=fun q'=>hK _ _ q' rfl rfl
      have l7:L 7=true:=hneeds ⟨7,.data⟩ (by simp) (by decide)
      have e7:a'.tmps.getD 12 undef = .pointer (some ⟨W.heap.size+1,1,none⟩):=hv 7 12 _ l7 rfl rfl
      unfold Oper.wp
      simp[execOp,Act.eval,e7,Tryz.ld9 _ _ _ _ (hWd L q _ _ k31),Oper.upon]
      exact hK q
    · simp at ho;subst ho
      have hK:=fun q'=>hK _ _ q' rfl rfl
      have l6:L 6=true:=hneeds ⟨6,.data⟩ (by simp) (by decide)
      have e6:a'.tmps.getD 11 undef = .string x2:=hv 6 11 _ l6 rfl rfl
      have l8:L 8=true:=hneeds ⟨8,.data⟩ (by simp) (by decide)
      have e8:a'.tmps.getD 13 undef = .string y2:=hv 8 13 _ l8 rfl rfl
      have l4:L 4=true:=hneeds ⟨4,.chain⟩ (by simp) (by decide)
      have e4:a'.tmps.getD 9 undef = .int .i64 (Fc x1 y1):=hv 4 9 _ l4 rfl rfl
      unfold Oper.wp
      simp[execOp,Act.eval,e6,e8,Oper.upon,resolve,Deferred.ofValue,invoke,Tryz.en104]
      refine (Tryz.compare104 _ _ _).mono ?_
      rintro e w' ⟨rfl,rfl⟩
      exact hK q
    · simp at ho;subst ho
      have hK:=fun q'=>hK _ _ q' rfl rfl
      have l4:L 4=true:=hneeds ⟨4,.data⟩ (by simp) (by decide)
      have e4:a'.tmps.getD 9 undef = .int .i64 (Fc x1 y1):=hv 4 9 _ l4 rfl rfl
      have l9:L 9=true:=hneeds ⟨9,.data⟩ (by simp) (by decide)
      have e9:a'.tmps.getD 14 undef = .int .i64 (Fc x2 y2):=hv 9 14 _ l9 rfl rfl
      unfold Oper.wp
      have hw:(Wd L).drewN q=W2.drewN q:=by simp[Wd,hi]
      rw[hw]
      simp only[Array.getD_eq_getD_getElem?]at e4 e9
      simp[execOp,Act.eval,e4,e9,Oper.upon,Tryz.bs42]
      rw[hsz]
      exact hK q
    · simp at ho;subst ho
      have hK:=fun q'=>hK _ _ q' rfl rfl
      have l10:L 10=true:=hneeds ⟨10,.data⟩ (by simp) (by decide)
      have e10:a'.tmps.getD 15 undef = .slice (some ⟨W.heap.size+2,0,none⟩) 2 2:=hv 10 15 _ l10 rfl rfl
      have l9:L 9=true:=hneeds ⟨9,.chain⟩ (by simp) (by decide)
      have e9:a'.tmps.getD 14 undef = .int .i64 (Fc x2 y2):=hv 9 14 _ l9 rfl rfl
      unfold Oper.wp
      simp[execOp,Act.eval,e10,Oper.upon,resolve,Deferred.ofValue,invoke,Tryz.en103]
      have hw:Wd L=W2.alloc (.cells #[.int .i64 (Fc x1 y1),.int .i64 (Fc x2 y2)] 3):=by simp[Wd,l10]
      have hh:(Wd L).heap[W.heap.size+2]? = some (.cells #[.int .i64 (Fc x1 y1),.int .i64 (Fc x2 y2)] 3):=by rw[hw,← hsz,heap_alloc_new]
      refine (Tryz.or103 (W.heap.size+2) (Fc x1 y1) (Fc x2 y2) ((Wd L).drewN q) (show (Wd L).cell? _=_ by simp[World.cell?,hh]) (show (Wd L).cell? _=_ by simp[World.cell?,hh])).mono ?_
      rintro e w' ⟨rfl,rfl⟩
      exact hK q
    · simp at ho;subst ho
      have hK:=fun q'=>hK _ _ q' rfl rfl
      have l11:L 11=true:=hneeds ⟨11,.data⟩ (by simp) (by decide)
      have e11:a'.tmps.getD 16 undef = .int .i64 (cmp57 x1 x2 y1 y2):=hv 11 16 _ l11 rfl rfl
      unfold Oper.wp
      simp[execOp,Act.eval,e11,Oper.upon]
      exact hK q
    · simp at ho
  · intro a' q hs hd hv hb
    have h4:=hv 12 4 _ rfl rfl
    clear hv hb hWd
    simp only[Exit.then]
    refine hret _ _ ?_
    have hr:∀ w,(results Tryz.f57 a'.tmps).run Tryz.prog w = .ok (.int .i64 (cmp57 x1 x2 y1 y2)) w:=fun w=>by
      rw[← h4]
      exact results_tmp (fn:=Tryz.f57) (t:=4) rfl a'.tmps Tryz.prog w
    refine wp_ret ⟨hd,_,hr _,rfl,q,#[.cells #[.string x1,.string x2] 58,.cells #[.string y1,.string y2] 58,.cells #[.int .i64 (Fc x1 y1),.int .i64 (Fc x2 y2)] 3],?_⟩
    show (W2.alloc _).drewN q=_
    rw[← hW2,alloc_eq_grow,alloc_eq_grow,alloc_eq_grow,grow_grow,grow_grow]
    rfl
end Go.Proofs
