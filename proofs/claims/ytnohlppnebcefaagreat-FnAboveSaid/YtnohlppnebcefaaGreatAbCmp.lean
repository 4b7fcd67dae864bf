/- Two atoms compared by four fields: what their sort asks of the program. -/
import Derived.Test.YtnohlppnebcefaaGreatAbDef
import Derived.Test.YtnohlppnebcefaaGreatKzs
import Derived.Sort.Grow
import Derived.WalkKit
set_option linter.all false
namespace Go.G36.AbAnc
def cmp20 (x0 x1 : Int) (x2 x3 : ByteArray) (y0 y1 : Int) (y2 y3 : ByteArray) : Int := orI (cmpN x0 y0) (orI (cmpN x1 y1) (orI (cmpS x3 y3) (cmpS x2 y2)))
end Go.G36.AbAnc
namespace Go.Proofs
open Go.Shelf Go.RowKit Go.Lib Go.Sort Go.G36 Go.G36.AbAnc

theorem Tryz.isNaN83 (x : ByteArray) (w : World) : Calls Tryz.prog 83 #[.string x] w fun e w' => e = .returned (.bool false) ∧ w' = w := by
  go_enter Tryz.func83, Tryz.ntmps83
  go_wp2
  go_ret
  exact ⟨by simp, rfl⟩
theorem Tryz.isNaN82 (x : Int) (w : World) : Calls Tryz.prog 82 #[.int .i64 x] w fun e w' => e = .returned (.bool false) ∧ w' = w := by
  go_enter Tryz.func82, Tryz.ntmps82
  go_wp2
  go_ret
  exact ⟨by simp, rfl⟩

set_option maxHeartbeats 1000000 in
theorem Tryz.compare48 (x y : ByteArray) (w : World) : Calls Tryz.prog 48 #[.string x, .string y] w fun e w' => e = .returned (.int .i64 (cmpS x y)) ∧ w' = w := by
  go_enter Tryz.func48, Tryz.ntmps48
  go_wp2_with (go_at_call 83; refine (Tryz.isNaN83 _ _).mono ?_; rintro e w' ⟨rfl, rfl⟩)
  · go_ret
    exact ⟨by simp_all [cmpS], rfl⟩
  · have hg : ∀ w, (binOp BinOp.gtr 9 (.string x) (.string y)).run Tryz.prog w = .ok (.bool (!(Op.bytesLess x.toList y.toList) && !(x.toList == y.toList))) w := fun w => by simp [binOp, Op.stringOp]
    rw [hg]
    simp only [Result.andThen_ok, Oper.upon]
    go_wp2
    · rename_i h1
      have h0 : Op.bytesLess x.toList y.toList = false := by assumption
      go_ret
      exact ⟨by simp only [cmpS, h0, h1.1, h1.2]; simp, rfl⟩
    · rename_i h1
      have h0 : Op.bytesLess x.toList y.toList = false := by assumption
      go_ret
      refine ⟨?_, rfl⟩
      rcases h1 with h1 | h1
      · rw [h0] at h1; cases h1
      · simp only [cmpS, h0, h1]; simp
set_option maxHeartbeats 1000000 in
theorem Tryz.compare47 (x y : Int) (w : World) : Calls Tryz.prog 47 #[.int .i64 x, .int .i64 y] w fun e w' => e = .returned (.int .i64 (cmpN x y)) ∧ w' = w := by
  go_enter Tryz.func47, Tryz.ntmps47
  go_wp2_with (go_at_call 82; refine (Tryz.isNaN82 _ _).mono ?_; rintro e w' ⟨rfl, rfl⟩)
  all_goals (go_ret; exact ⟨by unfold cmpN; simp_all; try omega, rfl⟩)

set_option maxHeartbeats 2000000 in
theorem Tryz.or46 (b : Nat) (c1 c2 c3 c4 : Int) (w : World) (h0 : w.cell? ⟨b, 0, none⟩ = some (.int .i64 c1)) (h1 : w.cell? ⟨b, 1, none⟩ = some (.int .i64 c2)) (h2 : w.cell? ⟨b, 2, none⟩ = some (.int .i64 c3)) (h3 : w.cell? ⟨b, 3, none⟩ = some (.int .i64 c4)) :
    Calls Tryz.prog 46 #[.slice (some ⟨b, 0, none⟩) 4 4] w fun e w' => e = .returned (.int .i64 (orI c1 (orI c2 (orI c3 c4)))) ∧ w' = w := by
  go_enter Tryz.func46, Tryz.ntmps46
  go_wp2
  refine wp_loop_rounds 5 ?_
  rw [rounds_succ]
  go_wp2
  · go_ret
    exact ⟨by simp_all [orI], rfl⟩
  · rename_i g0
    rw [rounds_succ]
    go_wp2
    · go_ret
      exact ⟨by simp_all [orI], rfl⟩
    · rename_i g1
      rw [rounds_succ]
      go_wp2
      · go_ret
        exact ⟨by simp_all [orI], rfl⟩
      · rename_i g2
        rw [rounds_succ]
        go_wp2
        · go_ret
          exact ⟨by simp_all [orI], rfl⟩
        · rename_i g3
          rw [rounds_succ]
          go_wp2
          go_ret
          exact ⟨by simp_all [orI], rfl⟩
theorem heap_alloc_old' (w : World) (o : Obj) (i : Nat) (h : i < w.heap.size) : (w.alloc o).heap[i]? = w.heap[i]? := (World.grownBy_alloc w o none).block i h (by simp)
theorem Tryz.tyS9q [Genv] : TyS Tryz.prog 9 false 1 := ⟨by kernel_rfl, by kernel_rfl⟩
theorem Tryz.tyS3q [Genv] : TyS Tryz.prog 3 false 1 := ⟨by kernel_rfl, by kernel_rfl⟩
theorem Tryz.fa25 [Genv] (b f : Nat) (hf : f < 4) (w : World) : (Instr.fieldAt 25 (.pointer (some ⟨b, 0, none⟩)) f).run Tryz.prog w = .ok (.pointer (some ⟨b, f, none⟩)) w := by
  have h9 := fun a d (h : (d : Field).type = 9) => run_fieldPlace (P := Tryz.prog) (a := a) (f := d) (ag := false) (sz := 1) w (by rw [h]; exact Tryz.tyS9q) (by decide)
  have h3 := fun a d (h : (d : Field).type = 3) => run_fieldPlace (P := Tryz.prog) (a := a) (f := d) (ag := false) (sz := 1) w (by rw [h]; exact Tryz.tyS3q) (by decide)
  rcases f with _ | _ | _ | _ | f
  · simp [Instr.fieldAt, run_underlying Tryz.underlying25, Instr.sureAddr, h3, Addr.add_mid]
  · simp [Instr.fieldAt, run_underlying Tryz.underlying25, Instr.sureAddr, h3, Addr.add_mid]
  · simp [Instr.fieldAt, run_underlying Tryz.underlying25, Instr.sureAddr, h9, Addr.add_mid]
  · simp [Instr.fieldAt, run_underlying Tryz.underlying25, Instr.sureAddr, h9, Addr.add_mid]
  · omega
theorem Tryz.ld9q [Genv] (b f : Nat) (s : ByteArray) (w : World) (h : w.cell? ⟨b, f, none⟩ = some (.string s)) : (Instr.loadAt 9 (.pointer (some ⟨b, f, none⟩))).run Tryz.prog w = .ok (.string s) w := by
  have := run_loadAt_gen (P := Tryz.prog) w b f (fun _ => .string s) Tryz.tyS9q (fun _ => rfl) (fun j hj => by rw [show j = 0 by omega]; exact h)
  simpa using this
theorem Tryz.ld3q [Genv] (b f : Nat) (s : Int) (w : World) (h : w.cell? ⟨b, f, none⟩ = some (.int .i64 s)) : (Instr.loadAt 3 (.pointer (some ⟨b, f, none⟩))).run Tryz.prog w = .ok (.int .i64 s) w := by
  have := run_loadAt_gen (P := Tryz.prog) w b f (fun _ => .int .i64 s) Tryz.tyS3q (fun _ => rfl) (fun j hj => by rw [show j = 0 by omega]; exact h)
  simpa using this
theorem Tryz.en48q (args : Array Value) (w : World) : (callFunc 48 args).run Tryz.prog w = .ok (.enter 48 args) w := enters_of Tryz.func48 (by kernel_rfl) rfl args w
theorem Tryz.en47q (args : Array Value) (w : World) : (callFunc 47 args).run Tryz.prog w = .ok (.enter 47 args) w := enters_of Tryz.func47 (by kernel_rfl) rfl args w
theorem Tryz.en46q (args : Array Value) (w : World) : (callFunc 46 args).run Tryz.prog w = .ok (.enter 46 args) w := enters_of Tryz.func46 (by kernel_rfl) rfl args w
theorem Tryz.bs100 [Genv] (c1 c2 c3 c4 : Int) (w : World) : (Instr.buildSlice 100 4 #[(0, .int .i64 c1), (1, .int .i64 c2), (2, .int .i64 c3), (3, .int .i64 c4)]).run Tryz.prog w = .ok (.slice (some ⟨w.heap.size, 0, none⟩) 4 4) (w.alloc (.cells #[.int .i64 c1, .int .i64 c2, .int .i64 c3, .int .i64 c4] 3)) := by
  simp [Instr.buildSlice, run_underlying Tryz.underlying100, Tryz.tyS3q.size w, Instr.fill, newRow, Value.cells, show Array.range 4 = #[0, 1, 2, 3] by decide]

set_option maxHeartbeats 8000000 in
theorem Tryz.cmp20_calls (x0 x1 : Int) (x2 x3 : ByteArray) (y0 y1 : Int) (y2 y3 : ByteArray) (W : World) :
    Calls Tryz.prog 20 #[.agg #[.int .i64 x0, .int .i64 x1, .string x2, .string x3], .agg #[.int .i64 y0, .int .i64 y1, .string y2, .string y3]] W fun e w' => e = .returned (.int .i64 (cmp20 x0 x1 x2 x3 y0 y1 y2 y3)) ∧ ∃ q os', w' = grow (W.drewN q) os' := by
  letI : Genv := { genv := fun _ => none }
  go_enter Tryz.func20, Tryz.ntmps20
  apply wp_seq_k
  intro K hK
  go_wp2
  rename_i K hret
  generalize hW2 : ((W.alloc (Obj.cells #[Value.int .i64 x0, Value.int .i64 x1, Value.string x2, Value.string x3] 25)).alloc (Obj.cells #[Value.int .i64 y0, Value.int .i64 y1, Value.string y2, Value.string y3] 25)) = W2
  have hsz : W2.heap.size = W.heap.size + 2 := by rw [← hW2]; simp
  have k20 : W2.cell? ⟨W.heap.size, 0, none⟩ = some (.int .i64 x0) := by rw [← hW2]; simp only [World.cell?]; rw [heap_alloc_old' _ _ _ (by simp), heap_alloc_new]; rfl
  have k21 : W2.cell? ⟨W.heap.size, 1, none⟩ = some (.int .i64 x1) := by rw [← hW2]; simp only [World.cell?]; rw [heap_alloc_old' _ _ _ (by simp), heap_alloc_new]; rfl
  have k22 : W2.cell? ⟨W.heap.size, 2, none⟩ = some (.string x2) := by rw [← hW2]; simp only [World.cell?]; rw [heap_alloc_old' _ _ _ (by simp), heap_alloc_new]; rfl
  have k23 : W2.cell? ⟨W.heap.size, 3, none⟩ = some (.string x3) := by rw [← hW2]; simp only [World.cell?]; rw [heap_alloc_old' _ _ _ (by simp), heap_alloc_new]; rfl
  have k30 : W2.cell? ⟨W.heap.size + 1, 0, none⟩ = some (.int .i64 y0) := by rw [← hW2]; simp only [World.cell?]; rw [show W.heap.size + 1 = (W.alloc (Obj.cells #[Value.int .i64 x0, Value.int .i64 x1, Value.string x2, Value.string x3] 25)).heap.size by simp, heap_alloc_new]; rfl
  have k31 : W2.cell? ⟨W.heap.size + 1, 1, none⟩ = some (.int .i64 y1) := by rw [← hW2]; simp only [World.cell?]; rw [show W.heap.size + 1 = (W.alloc (Obj.cells #[Value.int .i64 x0, Value.int .i64 x1, Value.string x2, Value.string x3] 25)).heap.size by simp, heap_alloc_new]; rfl
  have k32 : W2.cell? ⟨W.heap.size + 1, 2, none⟩ = some (.string y2) := by rw [← hW2]; simp only [World.cell?]; rw [show W.heap.size + 1 = (W.alloc (Obj.cells #[Value.int .i64 x0, Value.int .i64 x1, Value.string x2, Value.string x3] 25)).heap.size by simp, heap_alloc_new]; rfl
  have k33 : W2.cell? ⟨W.heap.size + 1, 3, none⟩ = some (.string y3) := by rw [← hW2]; simp only [World.cell?]; rw [show W.heap.size + 1 = (W.alloc (Obj.cells #[Value.int .i64 x0, Value.int .i64 x1, Value.string x2, Value.string x3] 25)).heap.size by simp, heap_alloc_new]; rfl
  let Wd : (Nat → Bool) → World := fun L => cond (L 20) (W2.alloc (.cells #[.int .i64 (cmpN x0 y0), .int .i64 (cmpN x1 y1), .int .i64 (cmpS x3 y3), .int .i64 (cmpS x2 y2)] 3)) W2
  have hWd : ∀ L q a u, W2.cell? a = some u → ((Wd L).drewN q).cell? a = some u := fun L q a u h => by
    show (Wd L).cell? a = some u
    simp only [Wd]
    cases L 20
    · exact h
    · exact (World.grownBy_alloc W2 _ none).cell h (by simp)
  refine region_vals (n := 27) Wd [5, 6, 7, 8, 9, 10, 11, 12, 13, 14, 15, 16, 17, 18, 19, 20, 21, 22, 23, 24, 25, 26, 4] [.pointer (some ⟨W.heap.size, 0, none⟩),
    .int .i64 x0,
    .pointer (some ⟨W.heap.size + 1, 0, none⟩),
    .int .i64 y0,
    .int .i64 (cmpN x0 y0),
    .pointer (some ⟨W.heap.size, 1, none⟩),
    .int .i64 x1,
    .pointer (some ⟨W.heap.size + 1, 1, none⟩),
    .int .i64 y1,
    .int .i64 (cmpN x1 y1),
    .pointer (some ⟨W.heap.size, 3, none⟩),
    .string x3,
    .pointer (some ⟨W.heap.size + 1, 3, none⟩),
    .string y3,
    .int .i64 (cmpS x3 y3),
    .pointer (some ⟨W.heap.size, 2, none⟩),
    .string x2,
    .pointer (some ⟨W.heap.size + 1, 2, none⟩),
    .string y2,
    .int .i64 (cmpS x2 y2),
    .slice (some ⟨W.heap.size + 2, 0, none⟩) 4 4,
    .int .i64 (cmp20 x0 x1 x2 x3 y0 y1 y2 y3),
    .int .i64 (cmp20 x0 x1 x2 x3 y0 y1 y2 y3)]
    [(2, .pointer (some ⟨W.heap.size, 0, none⟩)), (3, .pointer (some ⟨W.heap.size + 1, 0, none⟩))] (by kernel_rfl) (by kernel_rfl) rfl rfl (by decide) (by decide) (fun x hx => by simp at hx; rcases hx with rfl | rfl <;> simp) rfl rfl (fun x hx => by simp at hx; rcases hx with rfl | rfl <;> rfl) ?_ ?_
  · intro L i o a' q ho hi hneeds hv hb K hK
    have b2 : a'.tmps.getD 2 undef = .pointer (some ⟨W.heap.size, 0, none⟩) := hb (2, _) (by simp)
    have b3 : a'.tmps.getD 3 undef = .pointer (some ⟨W.heap.size + 1, 0, none⟩) := hb (3, _) (by simp)
    clear hb
    rcases i with _ | _ | _ | _ | _ | _ | _ | _ | _ | _ | _ | _ | _ | _ | _ | _ | _ | _ | _ | _ | _ | _ | _ | i
    · simp at ho; subst ho
      have hK := fun q' => hK _ _ q' rfl rfl
      unfold Oper.wp
      simp [execOp, Act.eval, b2, Tryz.fa25, Oper.upon]
      exact hK q
    · simp at ho; subst ho
      have hK := fun q' => hK _ _ q' rfl rfl
      have l0 : L 0 = true := hneeds ⟨0, .data⟩ (by simp) (by decide)
      have e0 : a'.tmps.getD 5 undef = .pointer (some ⟨W.heap.size, 0, none⟩) := hv 0 5 _ l0 rfl rfl
      unfold Oper.wp
      simp [execOp, Act.eval, e0, Tryz.ld3q _ _ _ _ (hWd L q _ _ k20), Oper.upon]
      exact hK q
    · simp at ho; subst ho
      have hK := fun q' => hK _ _ q' rfl rfl
      unfold Oper.wp
      simp [execOp, Act.eval, b3, Tryz.fa25, Oper.upon]
      exact hK q
    · simp at ho; subst ho
      have hK := fun q' => hK _ _ q' rfl rfl
      have l2 : L 2 = true := hneeds ⟨2, .data⟩ (by simp) (by decide)
      have e2 : a'.tmps.getD 7 undef = .pointer (some ⟨W.heap.size + 1, 0, none⟩) := hv 2 7 _ l2 rfl rfl
      unfold Oper.wp
      simp [execOp, Act.eval, e2, Tryz.ld3q _ _ _ _ (hWd L q _ _ k30), Oper.upon]
      exact hK q
    · simp at ho; subst ho
      have hK := fun q' => hK _ _ q' rfl rfl
      have l1 : L 1 = true := hneeds ⟨1, .data⟩ (by simp) (by decide)
      have e1 : a'.tmps.getD 6 undef = .int .i64 x0 := hv 1 6 _ l1 rfl rfl
      have l3 : L 3 = true := hneeds ⟨3, .data⟩ (by simp) (by decide)
      have e3 : a'.tmps.getD 8 undef = .int .i64 y0 := hv 3 8 _ l3 rfl rfl
      unfold Oper.wp
      simp [execOp, Act.eval, e1, e3, Oper.upon, resolve, Deferred.ofValue, invoke, Tryz.en47q]
      refine (Tryz.compare47 _ _ _).mono ?_
      rintro e w' ⟨rfl, rfl⟩
      exact hK q
    · simp at ho; subst ho
      have hK := fun q' => hK _ _ q' rfl rfl
      unfold Oper.wp
      simp [execOp, Act.eval, b2, Tryz.fa25, Oper.upon]
      exact hK q
    · simp at ho; subst ho
      have hK := fun q' => hK _ _ q' rfl rfl
      have l5 : L 5 = true := hneeds ⟨5, .data⟩ (by simp) (by decide)
      have e5 : a'.tmps.getD 10 undef = .pointer (some ⟨W.heap.size, 1, none⟩) := hv 5 10 _ l5 rfl rfl
      unfold Oper.wp
      simp [execOp, Act.eval, e5, Tryz.ld3q _ _ _ _ (hWd L q _ _ k21), Oper.upon]
      exact hK q
    · simp at ho; subst ho
      have hK := fun q' => hK _ _ q' rfl rfl
      unfold Oper.wp
      simp [execOp, Act.eval, b3, Tryz.fa25, Oper.upon]
      exact hK q
    · simp at ho; subst ho
      have hK := fun q' => hK _ _ q' rfl rfl
      have l7 : L 7 = true := hneeds ⟨7, .data⟩ (by simp) (by decide)
      have e7 : a'.tmps.getD 12 undef = .pointer (some ⟨W.heap.size + 1, 1, none⟩) := hv 7 12 _ l7 rfl rfl
      unfold Oper.wp
      simp [execOp, Act.eval, e7, Tryz.ld3q _ _ _ _ (hWd L q _ _ k31), Oper.upon]
      exact hK q
    · simp at ho; subst ho
      have hK := fun q' => hK _ _ q' rfl rfl
      have l6 : L 6 = true := hneeds ⟨6, .data⟩ (by simp) (by decide)
      have e6 : a'.tmps.getD 11 undef = .int .i64 x1 := hv 6 11 _ l6 rfl rfl
      have l8 : L 8 = true := hneeds ⟨8, .data⟩ (by simp) (by decide)
      have e8 : a'.tmps.getD 13 undef = .int .i64 y1 := hv 8 13 _ l8 rfl rfl
      unfold Oper.wp
      simp [execOp, Act.eval, e6, e8, Oper.upon, resolve, Deferred.ofValue, invoke, Tryz.en47q]
      refine (Tryz.compare47 _ _ _).mono ?_
      rintro e w' ⟨rfl, rfl⟩
      exact hK q
    · simp at ho; subst ho
      have hK := fun q' => hK _ _ q' rfl rfl
      unfold Oper.wp
      simp [execOp, Act.eval, b2, Tryz.fa25, Oper.upon]
      exact hK q
    · simp at ho; subst ho
      have hK := fun q' => hK _ _ q' rfl rfl
      have l10 : L 10 = true := hneeds ⟨10, .data⟩ (by simp) (by decide)
      have e10 : a'.tmps.getD 15 undef = .pointer (some ⟨W.heap.size, 3, none⟩) := hv 10 15 _ l10 rfl rfl
      unfold Oper.wp
      simp [execOp, Act.eval, e10, Tryz.ld9q _ _ _ _ (hWd L q _ _ k23), Oper.upon]
      exact hK q
    · simp at ho; subst ho
      have hK := fun q' => hK _ _ q' rfl rfl
      unfold Oper.wp
      simp [execOp, Act.eval, b3, Tryz.fa25, Oper.upon]
      exact hK q
    · simp at ho; subst ho
      have hK := fun q' => hK _ _ q' rfl rfl
      have l12 : L 12 = true := hneeds ⟨12, .data⟩ (by simp) (by decide)
      have e12 : a'.tmps.getD 17 undef = .pointer (some ⟨W.heap.size + 1, 3, none⟩) := hv 12 17 _ l12 rfl rfl
      unfold Oper.wp
      simp [execOp, Act.eval, e12, Tryz.ld9q _ _ _ _ (hWd L q _ _ k33), Oper.upon]
      exact hK q
    · simp at ho; subst ho
      have hK := fun q' => hK _ _ q' rfl rfl
      have l11 : L 11 = true := hneeds ⟨11, .data⟩ (by simp) (by decide)
      have e11 : a'.tmps.getD 16 undef = .string x3 := hv 11 16 _ l11 rfl rfl
      have l13 : L 13 = true := hneeds ⟨13, .data⟩ (by simp) (by decide)
      have e13 : a'.tmps.getD 18 undef = .string y3 := hv 13 18 _ l13 rfl rfl
      unfold Oper.wp
      simp [execOp, Act.eval, e11, e13, Oper.upon, resolve, Deferred.ofValue, invoke, Tryz.en48q]
      refine (Tryz.compare48 _ _ _).mono ?_
      rintro e w' ⟨rfl, rfl⟩
      exact hK q
    · simp at ho; subst ho
      have hK := fun q' => hK _ _ q' rfl rfl
      unfold Oper.wp
      simp [execOp, Act.eval, b2, Tryz.fa25, Oper.upon]
      exact hK q
    · simp at ho; subst ho
      have hK := fun q' => hK _ _ q' rfl rfl
      have l15 : L 15 = true := hneeds ⟨15, .data⟩ (by simp) (by decide)
      have e15 : a'.tmps.getD 20 undef = .pointer (some ⟨W.heap.size, 2, none⟩) := hv 15 20 _ l15 rfl rfl
      unfold Oper.wp
      simp [execOp, Act.eval, e15, Tryz.ld9q _ _ _ _ (hWd L q _ _ k22), Oper.upon]
      exact hK q
    · simp at ho; subst ho
      have hK := fun q' => hK _ _ q' rfl rfl
      unfold Oper.wp
      simp [execOp, Act.eval, b3, Tryz.fa25, Oper.upon]
      exact hK q
    · simp at ho; subst ho
      have hK := fun q' => hK _ _ q' rfl rfl
      have l17 : L 17 = true := hneeds ⟨17, .data⟩ (by simp) (by decide)
      have e17 : a'.tmps.getD 22 undef = .pointer (some ⟨W.heap.size + 1, 2, none⟩) := hv 17 22 _ l17 rfl rfl
      unfold Oper.wp
      simp [execOp, Act.eval, e17, Tryz.ld9q _ _ _ _ (hWd L q _ _ k32), Oper.upon]
      exact hK q
    · simp at ho; subst ho
      have hK := fun q' => hK _ _ q' rfl rfl
      have l16 : L 16 = true := hneeds ⟨16, .data⟩ (by simp) (by decide)
      have e16 : a'.tmps.getD 21 undef = .string x2 := hv 16 21 _ l16 rfl rfl
      have l18 : L 18 = true := hneeds ⟨18, .data⟩ (by simp) (by decide)
      have e18 : a'.tmps.getD 23 undef = .string y2 := hv 18 23 _ l18 rfl rfl
      unfold Oper.wp
      simp [execOp, Act.eval, e16, e18, Oper.upon, resolve, Deferred.ofValue, invoke, Tryz.en48q]
      refine (Tryz.compare48 _ _ _).mono ?_
      rintro e w' ⟨rfl, rfl⟩
      exact hK q
    · simp at ho; subst ho
      have hK := fun q' => hK _ _ q' rfl rfl
      have l4 : L 4 = true := hneeds ⟨4, .data⟩ (by simp) (by decide)
      have e4 : a'.tmps.getD 9 undef = .int .i64 (cmpN x0 y0) := hv 4 9 _ l4 rfl rfl
      have l9 : L 9 = true := hneeds ⟨9, .data⟩ (by simp) (by decide)
      have e9 : a'.tmps.getD 14 undef = .int .i64 (cmpN x1 y1) := hv 9 14 _ l9 rfl rfl
      have l14 : L 14 = true := hneeds ⟨14, .data⟩ (by simp) (by decide)
      have e14 : a'.tmps.getD 19 undef = .int .i64 (cmpS x3 y3) := hv 14 19 _ l14 rfl rfl
      have l19 : L 19 = true := hneeds ⟨19, .data⟩ (by simp) (by decide)
      have e19 : a'.tmps.getD 24 undef = .int .i64 (cmpS x2 y2) := hv 19 24 _ l19 rfl rfl
      unfold Oper.wp
      have hw : (Wd L).drewN q = W2.drewN q := by simp [Wd, hi]
      rw [hw]
      simp only [Array.getD_eq_getD_getElem?] at e4 e9 e14 e19
      simp [execOp, Act.eval, e4, e9, e14, e19, Oper.upon, Tryz.bs100]
      rw [hsz]
      exact hK q
    · simp at ho; subst ho
      have hK := fun q' => hK _ _ q' rfl rfl
      have l20 : L 20 = true := hneeds ⟨20, .data⟩ (by simp) (by decide)
      have e20 : a'.tmps.getD 25 undef = .slice (some ⟨W.heap.size + 2, 0, none⟩) 4 4 := hv 20 25 _ l20 rfl rfl
      unfold Oper.wp
      simp [execOp, Act.eval, e20, Oper.upon, resolve, Deferred.ofValue, invoke, Tryz.en46q]
      have hw : Wd L = W2.alloc (.cells #[.int .i64 (cmpN x0 y0), .int .i64 (cmpN x1 y1), .int .i64 (cmpS x3 y3), .int .i64 (cmpS x2 y2)] 3) := by simp [Wd, l20]
      have hh : (Wd L).heap[W.heap.size + 2]? = some (.cells #[.int .i64 (cmpN x0 y0), .int .i64 (cmpN x1 y1), .int .i64 (cmpS x3 y3), .int .i64 (cmpS x2 y2)] 3) := by rw [hw, ← hsz, heap_alloc_new]
      refine (Tryz.or46 (W.heap.size + 2) (cmpN x0 y0) (cmpN x1 y1) (cmpS x3 y3) (cmpS x2 y2) ((Wd L).drewN q) (show (Wd L).cell? _ = _ by simp [World.cell?, hh]) (show (Wd L).cell? _ = _ by simp [World.cell?, hh]) (show (Wd L).cell? _ = _ by simp [World.cell?, hh]) (show (Wd L).cell? _ = _ by simp [World.cell?, hh])).mono ?_
      rintro e w' ⟨rfl, rfl⟩
      exact hK q
    · simp at ho; subst ho
      have hK := fun q' => hK _ _ q' rfl rfl
      have l21 : L 21 = true := hneeds ⟨21, .data⟩ (by simp) (by decide)
      have e21 : a'.tmps.getD 26 undef = .int .i64 (cmp20 x0 x1 x2 x3 y0 y1 y2 y3) := hv 21 26 _ l21 rfl rfl
      unfold Oper.wp
      simp [execOp, Act.eval, e21, Oper.upon]
      exact hK q
    · simp at ho
  · intro a' q hs hd hv hb
    have h4 := hv 22 4 _ rfl rfl
    clear hv hb hWd
    simp only [Exit.then]
    refine hret _ _ ?_
    have hr : ∀ w, (results Tryz.f20 a'.tmps).run Tryz.prog w = .ok (.int .i64 (cmp20 x0 x1 x2 x3 y0 y1 y2 y3)) w := fun w => by
      rw [← h4]
      exact results_tmp (fn := Tryz.f20) (t := 4) rfl a'.tmps Tryz.prog w
    refine wp_ret ⟨hd, _, hr _, rfl, q, #[.cells #[.int .i64 x0, .int .i64 x1, .string x2, .string x3] 25, .cells #[.int .i64 y0, .int .i64 y1, .string y2, .string y3] 25, .cells #[.int .i64 (cmpN x0 y0), .int .i64 (cmpN x1 y1), .int .i64 (cmpS x3 y3), .int .i64 (cmpS x2 y2)] 3], ?_⟩
    show (W2.alloc _).drewN q = _
    rw [← hW2, alloc_eq_grow, alloc_eq_grow, alloc_eq_grow, grow_grow, grow_grow]
    rfl
end Go.Proofs
