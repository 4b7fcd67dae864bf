/- Two structs compared by 2 fields: what their sort asks of the program. -/
import Derived.Test.YtmlfbendohecmaaRcDef
import Derived.Test.YtmlfbendohecmaaKzs
import Derived.Sort.Grow
import Derived.WalkKit
set_option linter.all false
namespace Go.G36.RcAnc
def cmp50 (x0 : ByteArray) (x1 : ByteArray) (y0 : ByteArray) (y1 : ByteArray) : Int := orI (cmpS x0 y0) (cmpS x1 y1)
end Go.G36.RcAnc
namespace Go.Proofs
open Go.Shelf Go.RowKit Go.Lib Go.Sort Go.G36 Go.G36.RcAnc

theorem Try.isNaN61 (x : ByteArray) (w : World) : Calls Try.prog 61 #[.string x] w fun e w' => e = .returned (.bool false) ∧ w' = w := by
  go_enter Try.func61, Try.ntmps61
  go_wp2
  go_ret
  exact ⟨by simp, rfl⟩
set_option maxHeartbeats 1000000 in
theorem Try.compare46 (x y : ByteArray) (w : World) : Calls Try.prog 46 #[.string x, .string y] w fun e w' => e = .returned (.int .i64 (cmpS x y)) ∧ w' = w := by
  go_enter Try.func46, Try.ntmps46
  go_wp2_with (go_at_call 61; refine (Try.isNaN61 _ _).mono ?_; rintro e w' ⟨rfl, rfl⟩)
  · go_ret
    exact ⟨by simp_all [cmpS], rfl⟩
  · have hg : ∀ w, (binOp BinOp.gtr 9 (.string x) (.string y)).run Try.prog w = .ok (.bool (!(Op.bytesLess x.toList y.toList) && !(x.toList == y.toList))) w := fun w => by simp [binOp, Op.stringOp]
    rw [hg]
    simp only [Result.andThen_ok, Oper.upon]
    go_wp2
    · rename_i h1
      have h0 : Op.bytesLess x.toList y.toList = false := by assumption
      go_ret
      exact ⟨by simp only [cmpS, h0, h1.1, h1.2]; simp, rfl⟩
    · rename_i h1
      have h0 : Op.bytesLess x.toList y.toList = false := by assumption
      go_ret
      refine ⟨?_, rfl⟩
      rcases h1 with h1 | h1
      · rw [h0] at h1; cases h1
      · simp only [cmpS, h0, h1]; simp
set_option maxHeartbeats 2000000 in
theorem Try.or45 (b : Nat) (c1 c2 : Int) (w : World) (h0 : w.cell? ⟨b, 0, none⟩ = some (.int .i64 c1)) (h1 : w.cell? ⟨b, 1, none⟩ = some (.int .i64 c2)) :
    Calls Try.prog 45 #[.slice (some ⟨b, 0, none⟩) 2 2] w fun e w' => e = .returned (.int .i64 (orI c1 c2)) ∧ w' = w := by
  go_enter Try.func45, Try.ntmps45
  go_wp2
  refine wp_loop_rounds 3 ?_
  rw [rounds_succ]
  go_wp2
  · go_ret
    exact ⟨by simp_all [orI], rfl⟩
  · rename_i g0
    rw [rounds_succ]
    go_wp2
    · go_ret
      exact ⟨by simp_all [orI], rfl⟩
    · rename_i g1
      rw [rounds_succ]
      go_wp2
      go_ret
      exact ⟨by simp_all [orI], rfl⟩
theorem heap_alloc_old' (w : World) (o : Obj) (i : Nat) (h : i < w.heap.size) : (w.alloc o).heap[i]? = w.heap[i]? := (World.grownBy_alloc w o none).block i h (by simp)
theorem Try.tyS9q [Genv] : TyS Try.prog 9 false 1 := ⟨by kernel_rfl, by kernel_rfl⟩
theorem Try.tyS3q [Genv] : TyS Try.prog 3 false 1 := ⟨by kernel_rfl, by kernel_rfl⟩
theorem Try.fa35 [Genv] (b f : Nat) (hf : f < 3) (w : World) : (Instr.fieldAt 35 (.pointer (some ⟨b, 0, none⟩)) f).run Try.prog w = .ok (.pointer (some ⟨b, f, none⟩)) w := by
  have h9 := fun a d (h : (d : Field).type = 9) => run_fieldPlace (P := Try.prog) (a := a) (f := d) (ag := false) (sz := 1) w (by rw [h]; exact Try.tyS9q) (by decide)
  have h3 := fun a d (h : (d : Field).type = 3) => run_fieldPlace (P := Try.prog) (a := a) (f := d) (ag := false) (sz := 1) w (by rw [h]; exact Try.tyS3q) (by decide)
  rcases f with _ | _ | _ | f
  · simp [Instr.fieldAt, run_underlying Try.underlying35, Instr.sureAddr, h9, Addr.add_mid]
  · simp [Instr.fieldAt, run_underlying Try.underlying35, Instr.sureAddr, h9, Addr.add_mid]
  · simp [Instr.fieldAt, run_underlying Try.underlying35, Instr.sureAddr, h3, Addr.add_mid]
  · omega
theorem Try.ld9q [Genv] (b f : Nat) (s : ByteArray) (w : World) (h : w.cell? ⟨b, f, none⟩ = some (.string s)) : (Instr.loadAt 9 (.pointer (some ⟨b, f, none⟩))).run Try.prog w = .ok (.string s) w := by
  have := run_loadAt_gen (P := Try.prog) w b f (fun _ => .string s) Try.tyS9q (fun _ => rfl) (fun j hj => by rw [show j = 0 by omega]; exact h)
  simpa using this
theorem Try.en45q (args : Array Value) (w : World) : (callFunc 45 args).run Try.prog w = .ok (.enter 45 args) w := enters_of Try.func45 (by kernel_rfl) rfl args w
theorem Try.en46q (args : Array Value) (w : World) : (callFunc 46 args).run Try.prog w = .ok (.enter 46 args) w := enters_of Try.func46 (by kernel_rfl) rfl args w
theorem Try.bs79 [Genv] (c1 c2 : Int) (w : World) : (Instr.buildSlice 79 2 #[(0, .int .i64 c1), (1, .int .i64 c2)]).run Try.prog w = .ok (.slice (some ⟨w.heap.size, 0, none⟩) 2 2) (w.alloc (.cells #[.int .i64 c1, .int .i64 c2] 3)) := by
  simp [Instr.buildSlice, run_underlying Try.underlying79, Try.tyS3q.size w, Instr.fill, newRow, Value.cells, show Array.range 2 = #[0, 1] by decide]

set_option maxHeartbeats 8000000 in
theorem Try.cmp50_calls (x0 : ByteArray) (x1 : ByteArray) (x2 : Int) (y0 : ByteArray) (y1 : ByteArray) (y2 : Int) (W : World) :
    Calls Try.prog 50 #[.agg #[.string x0, .string x1, .int .i64 x2], .agg #[.string y0, .string y1, .int .i64 y2]] W fun e w' => e = .returned (.int .i64 (cmp50 x0 x1 y0 y1)) ∧ ∃ q os', w' = grow (W.drewN q) os' := by
  letI : Genv := { genv := fun _ => none }
  go_enter Try.func50, Try.ntmps50
  apply wp_seq_k
  intro K hK
  go_wp2
  rename_i K hret
  generalize hW2 : ((W.alloc (Obj.cells #[Value.string x0, Value.string x1, Value.int .i64 x2] 35)).alloc (Obj.cells #[Value.string y0, Value.string y1, Value.int .i64 y2] 35)) = W2
  have hsz : W2.heap.size = W.heap.size + 2 := by rw [← hW2]; simp
  have k20 : W2.cell? ⟨W.heap.size, 0, none⟩ = some (.string x0) := by rw [← hW2]; simp only [World.cell?]; rw [heap_alloc_old' _ _ _ (by simp), heap_alloc_new]; rfl
  have k21 : W2.cell? ⟨W.heap.size, 1, none⟩ = some (.string x1) := by rw [← hW2]; simp only [World.cell?]; rw [heap_alloc_old' _ _ _ (by simp), heap_alloc_new]; rfl
  have k30 : W2.cell? ⟨W.heap.size + 1, 0, none⟩ = some (.string y0) := by rw [← hW2]; simp only [World.cell?]; rw [show W.heap.size + 1 = (W.alloc (Obj.cells #[Value.string x0, Value.string x1, Value.int .i64 x2] 35)).heap.size by simp, heap_alloc_new]; rfl
  have k31 : W2.cell? ⟨W.heap.size + 1, 1, none⟩ = some (.string y1) := by rw [← hW2]; simp only [World.cell?]; rw [show W.heap.size + 1 = (W.alloc (Obj.cells #[Value.string x0, Value.string x1, Value.int .i64 x2] 35)).heap.size by simp, heap_alloc_new]; rfl
  let Wd : (Nat → Bool) → World := fun L => cond (L 10) (W2.alloc (.cells #[.int .i64 (cmpS x0 y0), .int .i64 (cmpS x1 y1)] 3)) W2
  have hWd : ∀ L q a u, W2.cell? a = some u → ((Wd L).drewN q).cell? a = some u := fun L q a u h => by
    show (Wd L).cell? a = some u
    simp only [Wd]
    cases L 10
    · exact h
    · exact (World.grownBy_alloc W2 _ none).cell h (by simp)
  refine region_vals (n := 17) Wd [5, 6, 7, 8, 9, 10, 11, 12, 13, 14, 15, 16, 4] [.pointer (some ⟨W.heap.size, 0, none⟩),
    .string x0,
    .pointer (some ⟨W.heap.size + 1, 0, none⟩),
    .string y0,
    .int .i64 (cmpS x0 y0),
    .pointer (some ⟨W.heap.size, 1, none⟩),
    .string x1,
    .pointer (some ⟨W.heap.size + 1, 1, none⟩),
    .string y1,
    .int .i64 (cmpS x1 y1),
    .slice (some ⟨W.heap.size + 2, 0, none⟩) 2 2,
    .int .i64 (cmp50 x0 x1 y0 y1),
    .int .i64 (cmp50 x0 x1 y0 y1)]
    [(2, .pointer (some ⟨W.heap.size, 0, none⟩)), (3, .pointer (some ⟨W.heap.size + 1, 0, none⟩))] (by kernel_rfl) (by kernel_rfl) rfl rfl (by decide) (by decide) (fun x hx => by simp at hx; rcases hx with rfl | rfl <;> simp) rfl rfl (fun x hx => by simp at hx; rcases hx with rfl | rfl <;> rfl) ?_ ?_
  · intro L i o a' q ho hi hneeds hv hb K hK
    have b2 : a'.tmps.getD 2 undef = .pointer (some ⟨W.heap.size, 0, none⟩) := hb (2, _) (by simp)
    have b3 : a'.tmps.getD 3 undef = .pointer (some ⟨W.heap.size + 1, 0, none⟩) := hb (3, _) (by simp)
    clear hb
    rcases i with _ | _ | _ | _ | _ | _ | _ | _ | _ | _ | _ | _ | _ | i
    · simp at ho; subst ho
      have hK := fun q' => hK _ _ q' rfl rfl
      unfold Oper.wp
      simp [execOp, Act.eval, b2, Try.fa35, Oper.upon]
      exact hK q
    · simp at ho; subst ho
      have hK := fun q' => hK _ _ q' rfl rfl
      have l0 : L 0 = true := hneeds ⟨0, .data⟩ (by simp) (by decide)
      have e0 : a'.tmps.getD 5 undef = .pointer (some ⟨W.heap.size, 0, none⟩) := hv 0 5 _ l0 rfl rfl
      unfold Oper.wp
      simp [execOp, Act.eval, e0, Try.ld9q _ _ _ _ (hWd L q _ _ k20), Oper.upon]
      exact hK q
    · simp at ho; subst ho
      have hK := fun q' => hK _ _ q' rfl rfl
      unfold Oper.wp
      simp [execOp, Act.eval, b3, Try.fa35, Oper.upon]
      exact hK q
    · simp at ho; subst ho
      have hK := fun q' => hK _ _ q' rfl rfl
      have l2 : L 2 = true := hneeds ⟨2, .data⟩ (by simp) (by decide)
      have e2 : a'.tmps.getD 7 undef = .pointer (some ⟨W.heap.size + 1, 0, none⟩) := hv 2 7 _ l2 rfl rfl
      unfold Oper.wp
      simp [execOp, Act.eval, e2, Try.ld9q _ _ _ _ (hWd L q _ _ k30), Oper.upon]
      exact hK q
    · simp at ho; subst ho
      have hK := fun q' => hK _ _ q' rfl rfl
      have l1 : L 1 = true := hneeds ⟨1, .data⟩ (by simp) (by decide)
      have e1 : a'.tmps.getD 6 undef = .string x0 := hv 1 6 _ l1 rfl rfl
      have l3 : L 3 = true := hneeds ⟨3, .data⟩ (by simp) (by decide)
      have e3 : a'.tmps.getD 8 undef = .string y0 := hv 3 8 _ l3 rfl rfl
      unfold Oper.wp
      simp [execOp, Act.eval, e1, e3, Oper.upon, resolve, Deferred.ofValue, invoke, Try.en46q]
      refine (Try.compare46 _ _ _).mono ?_
      rintro e w' ⟨rfl, rfl⟩
      exact hK q
    · simp at ho; subst ho
      have hK := fun q' => hK _ _ q' rfl rfl
      unfold Oper.wp
      simp [execOp, Act.eval, b2, Try.fa35, Oper.upon]
      exact hK q
    · simp at ho; subst ho
      have hK := fun q' => hK _ _ q' rfl rfl
      have l5 : L 5 = true := hneeds ⟨5, .data⟩ (by simp) (by decide)
      have e5 : a'.tmps.getD 10 undef = .pointer (some ⟨W.heap.size, 1, none⟩) := hv 5 10 _ l5 rfl rfl
      unfold Oper.wp
      simp [execOp, Act.eval, e5, Try.ld9q _ _ _ _ (hWd L q _ _ k21), Oper.upon]
      exact hK q
    · simp at ho; subst ho
      have hK := fun q' => hK _ _ q' rfl rfl
      unfold Oper.wp
      simp [execOp, Act.eval, b3, Try.fa35, Oper.upon]
      exact hK q
    · simp at ho; subst ho
      have hK := fun q' => hK _ _ q' rfl rfl
      have l7 : L 7 = true := hneeds ⟨7, .data⟩ (by simp) (by decide)
      have e7 : a'.tmps.getD 12 undef = .pointer (some ⟨W.heap.size + 1, 1, none⟩) := hv 7 12 _ l7 rfl rfl
      unfold Oper.wp
      simp [execOp, Act.eval, e7, Try.ld9q _ _ _ _ (hWd L q _ _ k31), Oper.upon]
      exact hK q
    · simp at ho; subst ho
      have hK := fun q' => hK _ _ q' rfl rfl
      have l6 : L 6 = true := hneeds ⟨6, .data⟩ (by simp) (by decide)
      have e6 : a'.tmps.getD 11 undef = .string x1 := hv 6 11 _ l6 rfl rfl
      have l8 : L 8 = true := hneeds ⟨8, .data⟩ (by simp) (by decide)
      have e8 : a'.tmps.getD 13 undef = .string y1 := hv 8 13 _ l8 rfl rfl
      unfold Oper.wp
      simp [execOp, Act.eval, e6, e8, Oper.upon, resolve, Deferred.ofValue, invoke, Try.en46q]
      refine (Try.compare46 _ _ _).mono ?_
      rintro e w' ⟨rfl, rfl⟩
      exact hK q
    · simp at ho; subst ho
      have hK := fun q' => hK _ _ q' rfl rfl
      have l4 : L 4 = true := hneeds ⟨4, .data⟩ (by simp) (by decide)
      have e4 : a'.tmps.getD 9 undef = .int .i64 (cmpS x0 y0) := hv 4 9 _ l4 rfl rfl
      have l9 : L 9 = true := hneeds ⟨9, .data⟩ (by simp) (by decide)
      have e9 : a'.tmps.getD 14 undef = .int .i64 (cmpS x1 y1) := hv 9 14 _ l9 rfl rfl
      unfold Oper.wp
      have hw : (Wd L).drewN q = W2.drewN q := by simp [Wd, hi]
      rw [hw]
      simp only [Array.getD_eq_getD_getElem?] at e4 e9
      simp [execOp, Act.eval, e4, e9, Oper.upon, Try.bs79]
      rw [hsz]
      exact hK q
    · simp at ho; subst ho
      have hK := fun q' => hK _ _ q' rfl rfl
      have l10 : L 10 = true := hneeds ⟨10, .data⟩ (by simp) (by decide)
      have e10 : a'.tmps.getD 15 undef = .slice (some ⟨W.heap.size + 2, 0, none⟩) 2 2 := hv 10 15 _ l10 rfl rfl
      unfold Oper.wp
      simp [execOp, Act.eval, e10, Oper.upon, resolve, Deferred.ofValue, invoke, Try.en45q]
      have hw : Wd L = W2.alloc (.cells #[.int .i64 (cmpS x0 y0), .int .i64 (cmpS x1 y1)] 3) := by simp [Wd, l10]
      have hh : (Wd L).heap[W.heap.size + 2]? = some (.cells #[.int .i64 (cmpS x0 y0), .int .i64 (cmpS x1 y1)] 3) := by rw [hw, ← hsz, heap_alloc_new]
      refine (Try.or45 (W.heap.size + 2) (cmpS x0 y0) (cmpS x1 y1) ((Wd L).drewN q) (show (Wd L).cell? _ = _ by simp [World.cell?, hh]) (show (Wd L).cell? _ = _ by simp [World.cell?, hh])).mono ?_
      rintro e w' ⟨rfl, rfl⟩
      exact hK q
    · simp at ho; subst ho
      have hK := fun q' => hK _ _ q' rfl rfl
      have l11 : L 11 = true := hneeds ⟨11, .data⟩ (by simp) (by decide)
      have e11 : a'.tmps.getD 16 undef = .int .i64 (cmp50 x0 x1 y0 y1) := hv 11 16 _ l11 rfl rfl
      unfold Oper.wp
      simp [execOp, Act.eval, e11, Oper.upon]
      exact hK q
    · simp at ho
  · intro a' q hs hd hv hb
    have h4 := hv 12 4 _ rfl rfl
    clear hv hb hWd
    simp only [Exit.then]
    refine hret _ _ ?_
    have hr : ∀ w, (results Try.f50 a'.tmps).run Try.prog w = .ok (.int .i64 (cmp50 x0 x1 y0 y1)) w := fun w => by
      rw [← h4]
      exact results_tmp (fn := Try.f50) (t := 4) rfl a'.tmps Try.prog w
    refine wp_ret ⟨hd, _, hr _, rfl, q, #[.cells #[.string x0, .string x1, .int .i64 x2] 35, .cells #[.string y0, .string y1, .int .i64 y2] 35, .cells #[.int .i64 (cmpS x0 y0), .int .i64 (cmpS x1 y1)] 3], ?_⟩
    show (W2.alloc _).drewN q = _
    rw [← hW2, alloc_eq_grow, alloc_eq_grow, alloc_eq_grow, grow_grow, grow_grow]
    rfl
end Go.Proofs
