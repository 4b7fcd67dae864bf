/- slices.Insert at nests (two cells an element), one nest put in: what it asks of the program. -/
import Derived.Test.YtmlfbendohecmaaKzv
import Derived.Test.YtmlfbendohecmaaProg
import Derived.Shelf.Spec.SlicesInsertGrow
import Derived.WalkKit
set_option linter.all false
set_option maxRecDepth 20000
namespace Go.Proofs
open Go.Shelf Go.RowKit Go.Lib

theorem run_copy_k {P : Program} (k : Nat) (w : World) (dT sT ty elem : TypeId) (b o dLen dCap : Nat) (a : Addr) (sLen sCap : Nat) (cs : List Value)
    (hu : P.underlying dT = some (.slice elem)) (hs : (P.info? elem).map (·.size) = some k) (hn : cs.length = Nat.min sLen dLen * k)
    (hsrc : ∀ j v, cs[j]? = some v → w.cell? (a.add j) = some v) (hc : ∀ j, j < cs.length → (w.cell? ⟨b, o + j, none⟩).isSome = true) (hf : ∀ j, j < cs.length → w.frozen? ⟨b, o + j, none⟩ = false) (h1 : ∀ v ∈ cs, v.oneCell' = true) :
    (Builtin.copy_ #[dT, sT] ty #[.slice (some ⟨b, o, none⟩) dLen dCap, .slice (some a) sLen sCap]).run P w = .ok (goInt (Nat.min sLen dLen)) (w.setCells b o cs) := by
  have hl := run_loadCells_list (P := P) w a cs hsrc
  have hst := run_storeCells_cells (P := P) b o cs 0 w (by simpa using hc) (by simpa using hf) h1
  cases hq : P.info? elem with
  | none => simp [hq] at hs
  | some i =>
    have hi : i.size = k := by simpa [hq] using hs
    simp [Builtin.copy_, run_underlying hu, Builtin.lenOf, Builtin.firstCells, sizeOf, typeInfo, hq, hi, ← hn, hl, hst]

theorem Try.size26 : (Try.prog.info? 26).map (·.size) = some 2 := by kernel_rfl
set_option maxHeartbeats 4000000 in
set_option maxRecDepth 100000 in
theorem Try.insert_shift (b n c i vb vc : Nat) (cs vs : List Value) (w : World) (hi : i < n) (hroom : n + 1 ≤ c) (hc63 : c ≤ 9223372036854775807) (hvb : vb ≠ b)
    (hcl : cs.length = n * 2) (hvl : vs.length = 2)
    (hcs : ∀ j v, cs[j]? = some v → w.cell? ⟨b, j, none⟩ = some v) (hsp : ∀ j, j < (n + 1) * 2 → (w.cell? ⟨b, j, none⟩).isSome = true) (hfz : ∀ j, j < (n + 1) * 2 → w.frozen? ⟨b, j, none⟩ = false)
    (hvs : ∀ j v, vs[j]? = some v → w.cell? ⟨vb, j, none⟩ = some v) (h1c : ∀ v ∈ cs, v.oneCell' = true) (h1v : ∀ v ∈ vs, v.oneCell' = true)
    (tA tB : TypeId) (kA kB : Nat) (hsa : w.shape? vb = some (tA, kA)) (hsb : w.shape? b = some (tB, kB)) (hkB : kB ≠ 0) (hfa : w.frozen? ⟨vb, 0, none⟩ = false) (hfe : w.frozen? ⟨vb, kA, none⟩ = false) :
    Calls Try.prog 26 #[.slice (some ⟨b, 0, none⟩) n c, .int .i64 i, .slice (some ⟨vb, 0, none⟩) 1 vc] w fun e w' =>
      e = .returned (.slice (some ⟨b, 0, none⟩) (n + 1) c) ∧ w' = (w.drew.setCells b ((i + 1) * 2) (cs.drop (i * 2))).setCells b (i * 2) vs := by
  have hz2 : ¬ ((i : Int) = (n : Int)) := by omega
  have hov : ∀ lb cb, (callFunc 47 #[.slice (some ⟨vb, 0, none⟩) 1 vc, .slice (some ⟨b, (i + 1) * 2, none⟩) lb cb]).run Try.prog w = .ok (.value (.bool false)) w := fun lb cb => by
    rw [run_callFunc_extern Try.func47 (by kernel_rfl) (by kernel_rfl) (by kernel_rfl) (e := Extern.SlicesOverlaps.overlaps #[23, 23] #[4]) (by kernel_rfl),
      Lib.run_overlaps_apart w 23 4 26 Try.underlying23 2 Try.sizeOf26 ⟨vb, 0, none⟩ ⟨b, (i + 1) * 2, none⟩ 1 vc lb cb hvb tA tB kA kB hsa hsb hkB hfa hfe]
    rfl
  have hdl : (cs.drop (i * 2)).length = (n - i) * 2 := by rw [List.length_drop, hcl, Nat.sub_mul]
  have mixed : Try.prog.follows Departure.mixedOrders = true := by kernel_rfl
  have hw1 : IntKind.i64.wrap ((i : Int) + 1) = (i : Int) + 1 := by rw [IntKind.wrap_i64]; omega
  have hb1 : (0 : Int) ≤ (i : Int) + 1 := by omega
  have hin : i ≤ n := by omega
  have htn : ((i : Int) + 1).toNat = i + 1 := by omega
  have hb2 : ¬ (c = i + 1) := by omega
  have hb3 : (i : Int) ≤ (n : Int) + 1 := by omega
  have hb4 : ¬ (c = i) := by omega
  have hmn : Nat.min (n + 1 - i) (n - i) = n - i := by simp only [Nat.min_def]; split <;> omega
  have hmn2 : Nat.min 1 (n + 1 - i) = 1 := by simp only [Nat.min_def]; split <;> omega
  have hcp1 : ∀ ty dc sc, (Builtin.copy_ #[23, 23] ty #[.slice (some ⟨b, (i + 1) * 2, none⟩) (n - i) dc, .slice (some ⟨b, i * 2, none⟩) (n + 1 - i) sc]).run Try.prog w.drew = .ok (goInt (Nat.min (n + 1 - i) (n - i))) (w.drew.setCells b ((i + 1) * 2) (cs.drop (i * 2))) := fun ty dc sc =>
    run_copy_k 2 w.drew _ _ ty 26 b ((i + 1) * 2) (n - i) dc ⟨b, i * 2, none⟩ (n + 1 - i) sc (cs.drop (i * 2)) Try.underlying23 Try.size26 (by rw [hdl, hmn])
      (fun j v hj => by rw [Addr.add_lit]; exact hcs (i * 2 + j) v (by rwa [List.getElem?_drop] at hj))
      (fun j hj => hsp _ (by rw [hdl] at hj; omega)) (fun j hj => hfz _ (by rw [hdl] at hj; omega)) (fun v hv => h1c v (List.mem_of_mem_drop hv))
  obtain ⟨W1, hW1⟩ : ∃ W1, W1 = w.drew.setCells b ((i + 1) * 2) (cs.drop (i * 2)) := ⟨_, rfl⟩
  have hsp1 : ∀ k, k < (n + 1) * 2 → (W1.cell? ⟨b, k, none⟩).isSome = true := fun k hk => by
    rw [hW1]
    exact isSome_setCells b (cs.drop (i * 2)) ((i + 1) * 2) w.drew (fun j (hj : j < (cs.drop (i * 2)).length) => hsp _ (by rw [hdl] at hj; omega)) _ (hsp k hk)
  have hcp2 : ∀ (W : World), (∀ x, W.cell? x = W1.cell? x) → (∀ x, W.frozen? x = W1.frozen? x) → ∀ ty dc, (Builtin.copy_ #[23, 23] ty #[.slice (some ⟨b, i * 2, none⟩) (n + 1 - i) dc, .slice (some ⟨vb, 0, none⟩) 1 vc]).run Try.prog W = .ok (goInt (Nat.min 1 (n + 1 - i))) (W.setCells b (i * 2) vs) := fun W hWc hWf ty dc =>
    run_copy_k 2 W _ _ ty 26 b (i * 2) (n + 1 - i) dc ⟨vb, 0, none⟩ 1 vc vs Try.underlying23 Try.size26 (by rw [hvl, hmn2])
      (fun j v hj => by
        rw [Addr.add_lit, hWc, hW1, World.cell?_setCells_out b _ _ _ _ (fun h _ => absurd h hvb), Nat.zero_add]
        exact hvs j v hj)
      (fun j hj => by rw [hWc]; exact hsp1 _ (by omega)) (fun j hj => by rw [hWf, hW1, World.frozen?_setCells]; exact hfz _ (by omega)) h1v
  rw [← hW1] at hcp1
  clear hsp1 hdl hmn hmn2
  go_enter Try.func26, Try.ntmps26
  go_wp2_with (simp only [hov])
  go_region_law_o (refine step_copy_runI rfl _ _ 23 23 rfl _ _ (by simp [Act.eval, Act.put]) (by simp [Act.eval, Act.put]) (hcp1 _ _ _) ?_)
  go_wp2_with (at_builtin; refine wpList_copy_runI _ rfl _ _ 23 23 rfl _ _ rfl rfl (hcp2 _ (fun _ => rfl) (fun _ => rfl) _ _) ?_)
  go_ret
  first | exact ⟨rfl, rfl⟩ | exact ⟨rfl, by rw [hW1]⟩ | trace_state
end Go.Proofs
/- slices.Insert at nests: no room. -/
set_option linter.all false
set_option maxRecDepth 20000
namespace Go.Proofs
open Go.Shelf Go.RowKit Go.Lib
set_option maxHeartbeats 4000000 in
set_option maxRecDepth 100000 in
theorem Try.insert_grow (b n c i vb vc : Nat) (cs vs : List Value) (w : World) (hi : i < n) (hnc : n ≤ c) (hroom : c < n + 1) (hbig : (n + 1) * 32 ≤ 140737488355328)
    (hcl : cs.length = n * 2) (hvl : vs.length = 2)
    (hcs : ∀ j v, cs[j]? = some v → w.cell? ⟨b, j, none⟩ = some v)
    (hvs : ∀ j v, vs[j]? = some v → w.cell? ⟨vb, j, none⟩ = some v) (h1c : ∀ v ∈ cs, v.oneCell' = true) (h1v : ∀ v ∈ vs, v.oneCell' = true) :
    ∃ Z : Array Value, Z.size = 2 ∧ Calls Try.prog 26 #[.slice (some ⟨b, 0, none⟩) n c, .int .i64 i, .slice (some ⟨vb, 0, none⟩) 1 vc] w fun e w' =>
      e = .returned (.slice (some ⟨w.heap.size, 0, none⟩) (n + 1) (grownCap w (n + 1) c 26)) ∧
      w' = (((w.alloc (.cells ((cs.take (i * 2)).toArray ++ Builtin.zeroCells Z (n + 1 - i) ++ Builtin.zeroCells Z (grownCap w (n + 1) c 26 - (n + 1))) 26)).drew.setCells w.heap.size (i * 2) vs).drew).setCells w.heap.size ((i + 1) * 2) (cs.drop (i * 2)) := by
  have mixed : Try.prog.follows Departure.mixedOrders = true := by kernel_rfl
  obtain ⟨i0, z, hi0, hz0, hzs, hzc, _, hzb⟩ : ∃ i z, Try.prog.info? 26 = some i ∧ i.zero = some z ∧ i.size = 2 ∧ z.cells.size = 2 ∧ 0 < 2 ∧ i.bytes = 32 := ⟨_, _, rfl, rfl, rfl, rfl, by decide, rfl⟩
  refine ⟨z.cells, hzc, ?_⟩
  have hz2 : ¬ ((i : Int) = (n : Int)) := by omega
  have hz3 : (c : Int) < (n : Int) + 1 := by omega
  have hbw : b < w.heap.size := block_lt_of_cell (hcs 0 _ (List.getElem?_eq_getElem (by omega)))
  have hvw : vb < w.heap.size := block_lt_of_cell (hvs 0 _ (List.getElem?_eq_getElem (by omega)))
  have hkk : (n : Int) + 1 - (i : Int) = ((n + 1 - i : Nat) : Int) := by omega
  have hik : i + (n + 1 - i) = n + 1 := by omega
  have hold : (Builtin.firstCells i0.size i (.slice (some ⟨b, 0, none⟩) i c)).run Try.prog w.drew = .ok (cs.take (i * 2)).toArray w.drew := by
    rw [hzs]
    exact run_firstCells_some w.drew 2 i ⟨b, 0, none⟩ i c (cs.take (i * 2)) (by rw [List.length_take]; omega) (fun j v hj => by
      rw [Addr.add_lit, Nat.zero_add]
      rw [List.getElem?_take] at hj
      split at hj
      · exact hcs j v hj
      · cases hj)
  have hrz : ∀ ty, (Builtin.append_ #[23, 3] ty #[.slice (some ⟨b, 0, none⟩) i c, .int .i64 ((n : Int) + 1 - (i : Int))]).run Try.prog w =
      .ok (.slice (some ⟨w.heap.size, 0, none⟩) (n + 1) (grownCap w (n + 1) c 26)) (w.drew.alloc (.cells ((cs.take (i * 2)).toArray ++ Builtin.zeroCells z.cells (n + 1 - i) ++ Builtin.zeroCells z.cells (grownCap w (n + 1) c 26 - (n + 1))) 26)) := fun ty => by
    have h := Lib.run_append_grow_zeros w 23 3 ty 26 i0 _ .i64 .i64 Try.underlying23 rfl hi0 hz0 (some ⟨b, 0, none⟩) i c (cs.take (i * 2)) hold (n + 1 - i) (by omega) (by omega) (by omega) (by omega) (by rw [hzb]; omega) (by rw [hzb, hik]; exact growslice_fits hroom hbig)
    rw [hik] at h
    rw [hkk]
    exact h
  obtain ⟨G, hG⟩ : ∃ G, G = grownCap w (n + 1) c 26 := ⟨_, rfl⟩
  obtain ⟨ROW, hROW⟩ : ∃ ROW : Array Value, ROW = (cs.take (i * 2)).toArray ++ Builtin.zeroCells z.cells (n + 1 - i) ++ Builtin.zeroCells z.cells (G - (n + 1)) := ⟨_, rfl⟩
  rw [← hG] at hrz ⊢
  rw [← hROW] at hrz ⊢
  have hRl : (n + 1) * 2 ≤ ROW.size := by
    rw [hROW]
    simp only [Array.size_append, List.size_toArray, size_zeroCells, hzc, List.length_take]
    omega
  obtain ⟨W1, hW1⟩ : ∃ W1, W1 = w.drew.alloc (.cells ROW 26) := ⟨_, rfl⟩
  rw [← hW1] at hrz
  have hN : ∀ j, j < (n + 1) * 2 → (W1.cell? ⟨w.heap.size, j, none⟩).isSome = true := fun j hj => by
    rw [hW1, World.cell?_alloc_at (w := w.drew) ROW _ w.heap.size j rfl, Array.getElem?_eq_getElem (by omega)]; rfl
  have hNf : ∀ j, W1.frozen? ⟨w.heap.size, j, none⟩ = false := fun j => by rw [hW1]; exact World.frozen?_alloc_at (w := w.drew) ROW _ w.heap.size j rfl
  have hOb : ∀ j v, w.cell? ⟨b, j, none⟩ = some v → W1.cell? ⟨b, j, none⟩ = some v := fun j v h => by rw [hW1, World.cell?_alloc_past (w := w.drew) _ b j hbw]; exact h
  have hOv : ∀ j v, w.cell? ⟨vb, j, none⟩ = some v → W1.cell? ⟨vb, j, none⟩ = some v := fun j v h => by rw [hW1, World.cell?_alloc_past (w := w.drew) _ vb j hvw]; exact h
  have hmn2 : Nat.min 1 (n + 1 - i) = 1 := by simp only [Nat.min_def]; split <;> omega
  have hmn : Nat.min (n - i) (n - i) = n - i := by simp only [Nat.min_def]; split <;> omega
  have hcpA : ∀ (W : World), (∀ x, W.cell? x = W1.cell? x) → (∀ x, W.frozen? x = W1.frozen? x) → ∀ ty dc, (Builtin.copy_ #[23, 23] ty #[.slice (some ⟨w.heap.size, i * 2, none⟩) (n + 1 - i) dc, .slice (some ⟨vb, 0, none⟩) 1 vc]).run Try.prog W = .ok (goInt (Nat.min 1 (n + 1 - i))) (W.setCells w.heap.size (i * 2) vs) := fun W hWc hWf ty dc =>
    run_copy_k 2 W _ _ ty 26 w.heap.size (i * 2) (n + 1 - i) dc ⟨vb, 0, none⟩ 1 vc vs Try.underlying23 Try.size26 (by rw [hvl, hmn2])
      (fun j v hj => by rw [Addr.add_lit, hWc, Nat.zero_add]; exact hOv _ v (hvs j v hj))
      (fun j hj => by rw [hWc]; exact hN _ (by omega)) (fun j hj => by rw [hWf]; exact hNf _) h1v
  have hGn : n + 1 ≤ G := by rw [hG]; exact grownCap_ge w _ _ _
  have hG63 : G ≤ 9223372036854775807 := by
    have := grownCap_le_maxLen w (n + 1) c 26 (by unfold maxLen; omega)
    rw [← hG] at this
    unfold maxLen at this
    omega
  have hGi : ¬ (G = i) := by omega
  have hGim : ¬ (G = i + 1) := by omega
  have hci : ¬ (c = i) := by omega
  have hbN : b ≠ w.heap.size := by omega
  have hdl : (cs.drop (i * 2)).length = (n - i) * 2 := by rw [List.length_drop, hcl, Nat.sub_mul]
  have hcpB : ∀ (W : World), (∀ x, W.cell? x = (W1.setCells w.heap.size (i * 2) vs).cell? x) → (∀ x, W.frozen? x = (W1.setCells w.heap.size (i * 2) vs).frozen? x) → ∀ ty dc sc, (Builtin.copy_ #[23, 23] ty #[.slice (some ⟨w.heap.size, (i + 1) * 2, none⟩) (n - i) dc, .slice (some ⟨b, i * 2, none⟩) (n - i) sc]).run Try.prog W = .ok (goInt (Nat.min (n - i) (n - i))) (W.setCells w.heap.size ((i + 1) * 2) (cs.drop (i * 2))) := fun W hWc hWf ty dc sc =>
    run_copy_k 2 W _ _ ty 26 w.heap.size ((i + 1) * 2) (n - i) dc ⟨b, i * 2, none⟩ (n - i) sc (cs.drop (i * 2)) Try.underlying23 Try.size26 (by rw [hdl, hmn])
      (fun j v hj => by
        rw [Addr.add_lit, hWc, World.cell?_setCells_out _ _ _ _ _ (fun h _ => absurd h hbN)]
        exact hOb _ v (hcs (i * 2 + j) v (by rwa [List.getElem?_drop] at hj)))
      (fun j hj => by rw [hWc]; exact isSome_setCells w.heap.size vs (i * 2) W1 (fun t (ht : t < vs.length) => hN _ (by omega)) _ (hN _ (by rw [hdl] at hj; omega)))
      (fun j hj => by rw [hWf, World.frozen?_setCells]; exact hNf _) (fun v hv => h1c v (List.mem_of_mem_drop hv))
  subst hW1
  have hE1 : ∀ x, ((w.alloc (.cells ROW 26)).drew).cell? x = (w.drew.alloc (.cells ROW 26)).cell? x := fun x => rfl
  have hE2 : ∀ x, ((w.alloc (.cells ROW 26)).drew).frozen? x = (w.drew.alloc (.cells ROW 26)).frozen? x := fun x => rfl
  have hF1 : ∀ x, (((w.alloc (.cells ROW 26)).drew.setCells w.heap.size (i * 2) vs).drew).cell? x = ((w.drew.alloc (.cells ROW 26)).setCells w.heap.size (i * 2) vs).cell? x := fun x => rfl
  have hF2 : ∀ x, (((w.alloc (.cells ROW 26)).drew.setCells w.heap.size (i * 2) vs).drew).frozen? x = ((w.drew.alloc (.cells ROW 26)).setCells w.heap.size (i * 2) vs).frozen? x := fun x => rfl
  have hw1 : IntKind.i64.wrap ((i : Int) + 1) = (i : Int) + 1 := by rw [IntKind.wrap_i64]; omega
  have hb1 : (0 : Int) ≤ (i : Int) + 1 := by omega
  have hin : i ≤ n := by omega
  have htn : ((i : Int) + 1).toNat = i + 1 := by omega
  have hb3 : (i : Int) ≤ (n : Int) := by omega
  clear hkk hik hold hROW hG hRl hdl hmn hmn2
  go_enter Try.func26, Try.ntmps26
  go_wp2_with (first
    | (at_builtin; refine Lib.wpList_append_run _ rfl _ _ _ _ rfl _ _ rfl rfl _ _ (hrz _) ?_)
    | (at_builtin; refine wpList_copy_runI _ rfl _ _ 23 23 rfl _ _ rfl rfl (hcpA _ hE1 hE2 _ _) ?_)
    | (at_builtin; refine wpList_copy_runI _ rfl _ _ 23 23 rfl _ _ rfl rfl (hcpB _ (fun _ => rfl) (fun _ => rfl) _ _ _) ?_))
  go_region_law_o (refine step_copy_runI rfl _ _ 23 23 rfl (.slice (some ⟨w.heap.size, (i + 1) * 2, none⟩) (n - i) (G - (i + 1))) (.slice (some ⟨b, i * 2, none⟩) (n - i) (c - i)) (by simp [Act.eval, Act.put]) (by simp [Act.eval, Act.put]) (hcpB _ hF1 hF2 3 (G - (i + 1)) (c - i)) ?_)
  go_wp2
  go_ret
  exact ⟨rfl, rfl⟩
set_option maxHeartbeats 4000000 in
set_option maxRecDepth 100000 in
/-- At the end. -/
theorem Try.insert_end (n c0 vb vc e0 : Nat) (v : Value) (cs vs : List Value) (w : World) (hbig : n ≤ 1000000) (hown : w.ownsRow 0 e0 2 v n cs)
    (hvl : vs.length = 2) (hvs : ∀ j u, vs[j]? = some u → w.cell? ⟨vb, j, none⟩ = some u) (h1v : ∀ v ∈ vs, v.oneCell' = true) :
    Calls Try.prog 26 #[v, .int .i64 n, .slice (some ⟨vb, 0, none⟩) 1 vc] w fun e w' =>
      ∃ v' e1, e = .returned v' ∧ w'.ownsRow 0 e1 2 v' (n + 1) (cs ++ vs) ∧ w.grownBy w' v.ownBlock ∧ (∀ b, v'.ownBlock = some b → v.ownBlock = some b ∨ w.heap.size ≤ b) := by
  obtain ⟨i0, z, hi0, hz0, hzs, hzc, _, hzb⟩ : ∃ i z, Try.prog.info? 26 = some i ∧ i.zero = some z ∧ i.size = 2 ∧ z.cells.size = 2 ∧ 0 < 2 ∧ i.bytes = 32 := ⟨_, _, rfl, rfl, rfl, rfl, by decide, rfl⟩
  have hrun : ∀ ty, ∃ v' e1 w', (Builtin.append_ #[23, 23] ty #[v, .slice (some ⟨vb, 0, none⟩) 1 vc]).run Try.prog w = .ok v' w' ∧ w'.ownsRow 0 e1 2 v' (n + 1) (cs ++ vs) ∧ w.grownBy w' v.ownBlock ∧ (∀ b, v'.ownBlock = some b → v.ownBlock = some b ∨ w.heap.size ≤ b) := fun ty => by
    haveI : Go.G36.Genv := { genv := fun _ => none }
    obtain ⟨v', e1, w', h1, h2, h3, h4, _⟩ := Go.G36.app_own (P := Try.prog) w 23 ty 26 i0 z 2 e0 Try.underlying23 hi0 hz0 hzs hzc (by decide) v n cs hown ⟨vb, 0, none⟩ 1 vc vs (by omega) (fun j u hj => by rw [Addr.add_lit, Nat.zero_add]; exact hvs j u hj) h1v (by simp only [maxLen]; omega) (by rw [hzb]; omega)
    exact ⟨v', e1, w', h1, h2, h3, h4⟩
  have mixed : Try.prog.follows Departure.mixedOrders = true := by kernel_rfl
  rcases hown.2 with ⟨rfl, rfl⟩ | ⟨g, cap, cur, rfl, hbg, hg, hnc, hcm, hcs, htake⟩
  · go_enter Try.func26, Try.ntmps26
    go_wp2_with (obtain ⟨v', e1, w', k1, k2⟩ := hrun 23; at_builtin; refine Lib.wpList_append_run _ rfl _ _ _ _ rfl _ _ rfl rfl _ _ k1 ?_)
    all_goals (go_ret; first | exact ⟨_, _, rfl, k2⟩ | exact ⟨_, rfl, _, k2⟩ | exact ⟨_, rfl, _, k2.1, k2.2⟩ | trace_state)
  · obtain ⟨v', e1, w', k1, k2⟩ := hrun 23
    by_cases hcn : cap = n
    · go_enter Try.func26, Try.ntmps26
      go_wp2_with (at_builtin; refine Lib.wpList_append_run _ rfl _ _ _ _ rfl _ _ rfl rfl _ _ k1 ?_)
      all_goals (go_ret; first | exact ⟨_, _, rfl, k2⟩ | exact ⟨_, rfl, _, k2⟩ | exact ⟨_, rfl, _, k2.1, k2.2⟩ | trace_state)
    · go_enter Try.func26, Try.ntmps26
      go_wp2_with (at_builtin; refine Lib.wpList_append_run _ rfl _ _ _ _ rfl _ _ rfl rfl _ _ k1 ?_)
      all_goals (go_ret; first | exact ⟨_, _, rfl, k2⟩ | exact ⟨_, rfl, _, k2⟩ | exact ⟨_, rfl, _, k2.1, k2.2⟩ | trace_state)
theorem ownsRow_eq {w : World} {e sz L c b : Nat} {vals : List Value} (h : w.ownsRow 0 e sz (.slice (some ⟨b, 0, none⟩) L c) L vals) (hL : L ≠ 0 ∨ True) :
    ∃ cur, w.heap[b]? = some (.cells cur e (0, 0)) ∧ L ≤ c ∧ c ≤ maxLen ∧ cur.size = c * sz ∧ cur.toList.take (L * sz) = vals := by
  rcases h.2 with ⟨h3, _⟩ | ⟨g, cap, cur, h3, r1, r2, r3, r4, r5, r6⟩
  · cases h3
  · injection h3 with q1 _ q3
    injection q1 with q1
    injection q1 with q1
    subst q1; subst q3
    exact ⟨cur, r2, r3, r4, r5, r6⟩
/-- One nest put into a row of one's own. -/
theorem Try.insert_own (n i vb vc e0 e1 : Nat) (v : Value) (cs vs : List Value) (w : World) (hbig : n ≤ 1000000) (hi : i ≤ n) (hown : w.ownsRow 0 e0 2 v n cs) (hv : w.ownsRow 0 e1 2 (.slice (some ⟨vb, 0, none⟩) 1 vc) 1 vs)
    (hne : v.ownBlock ≠ some vb) (h1c : ∀ u ∈ cs, u.oneCell' = true) (h1v : ∀ u ∈ vs, u.oneCell' = true) :
    Calls Try.prog 26 #[v, .int .i64 i, .slice (some ⟨vb, 0, none⟩) 1 vc] w fun e w' =>
      ∃ v' e1, e = .returned v' ∧ w'.ownsRow 0 e1 2 v' (n + 1) (cs.take (i * 2) ++ vs ++ cs.drop (i * 2)) ∧ w.grownBy w' v.ownBlock ∧ (∀ b, v'.ownBlock = some b → v.ownBlock = some b ∨ w.heap.size ≤ b) := by
  haveI : Go.G36.Genv := { genv := fun _ => none }
  have hvl : vs.length = 2 := hv.1
  have hvs : ∀ j u, vs[j]? = some u → w.cell? ⟨vb, j, none⟩ = some u := fun j u hj => by
    have := hv.cells (g := vb) rfl j u hj
    rwa [Addr.add_lit, Nat.zero_add] at this
  by_cases hin : i = n
  · subst hin
    have e1 : cs.take (i * 2) = cs := List.take_of_length_le (by rw [hown.1]; exact Nat.le_refl _)
    have e2 : cs.drop (i * 2) = [] := List.drop_eq_nil_of_le (by rw [hown.1]; exact Nat.le_refl _)
    rw [e1, e2, List.append_nil]
    exact Try.insert_end i 0 vb vc e0 v cs vs w hbig hown hvl hvs h1v
  have hlt : i < n := by omega
  rcases hown.2 with ⟨rfl, rfl⟩ | ⟨g, cap, cur, rfl, hbg, hg, hnc, hcm, hcs, htake⟩
  · omega
  have hcl := hown.1
  have hcsw : ∀ j u, cs[j]? = some u → w.cell? ⟨g, j, none⟩ = some u := fun j u hj => by
    have := hown.cells (g := g) rfl j u hj
    rwa [Addr.add_lit, Nat.zero_add] at this
  have hgw : g < w.heap.size := (Array.getElem?_eq_some_iff.1 hg).1
  have hvg : vb ≠ g := fun h => hne (by rw [h]; rfl)
  obtain ⟨vcur, v1, v2, v3, v4, v5⟩ := ownsRow_eq hv (.inr trivial)
  have hdl : (cs.drop (i * 2)).length = (n - i) * 2 := by rw [List.length_drop, hcl, Nat.sub_mul]
  have hlen : (cs.take (i * 2) ++ vs ++ cs.drop (i * 2)).length = (n + 1) * 2 := by
    rw [List.length_append, List.length_append, List.length_take, hdl, hvl, hcl]; omega
  have key : ∀ (A : Array Value), (n + 1) * 2 ≤ A.size → (∀ j, j < (n + 1) * 2 → A[j]? = if j < i * 2 then cs[j]? else if j < (i + 1) * 2 then vs[j - i * 2]? else cs[j - 2]?) → A.toList.take ((n + 1) * 2) = cs.take (i * 2) ++ vs ++ cs.drop (i * 2) := fun A h1 h2 => by
    apply List.ext_getElem?
    intro q
    by_cases hq : q < (n + 1) * 2
    · rw [List.getElem?_take, if_pos hq, Array.getElem?_toList, h2 q hq]
      by_cases q1 : q < i * 2
      · rw [if_pos q1, List.append_assoc, List.getElem?_append_left (by rw [List.length_take]; omega), List.getElem?_take, if_pos q1]
      · rw [if_neg q1, List.append_assoc, List.getElem?_append_right (by rw [List.length_take]; omega), List.length_take, Nat.min_eq_left (by omega)]
        by_cases q2 : q < (i + 1) * 2
        · rw [if_pos q2, List.getElem?_append_left (by omega)]
        · rw [if_neg q2, List.getElem?_append_right (by omega), hvl, List.getElem?_drop, show i * 2 + (q - i * 2 - 2) = q - 2 by omega]
    · rw [List.getElem?_take, if_neg hq, List.getElem?_eq_none (by rw [hlen]; omega)]
  by_cases hroom : n + 1 ≤ cap
  · have hsz : (n + 1) * 2 ≤ cur.size := by rw [hcs]; exact Nat.mul_le_mul_right _ hroom
    have hspc : ∀ j, j < (n + 1) * 2 → (w.cell? ⟨g, j, none⟩).isSome = true := fun j hj => by simp [World.cell?, hg]; omega
    have hfzc : ∀ j, j < (n + 1) * 2 → w.frozen? ⟨g, j, none⟩ = false := fun j hj => by simp [World.frozen?, hg]
    refine (Try.insert_shift g n cap i vb vc cs vs w hlt hroom (by simp only [maxLen] at hcm; omega) hvg hcl hvl hcsw hspc hfzc hvs h1c h1v e1 e0 vcur.size cur.size (by simp [World.shape?, v1]) (by simp [World.shape?, hg]) (by omega) (by simp [World.frozen?, v1]) (by simp [World.frozen?, v1])).mono ?_
    rintro e w' ⟨rfl, rfl⟩
    obtain ⟨a1, a2, a3, a4, a5, a6⟩ := Go.G36.heap_setCells w.drew g (cs.drop (i * 2)) ((i + 1) * 2)
    obtain ⟨c1, b6, b7, b8⟩ := a6 cur e0 (0, 0) hg
    obtain ⟨d1, d2, d3, d4, d5, d6⟩ := Go.G36.heap_setCells (w.drew.setCells g ((i + 1) * 2) (cs.drop (i * 2))) g vs (i * 2)
    obtain ⟨c2, f6, f7, f8⟩ := d6 c1 e0 (0, 0) b6
    refine ⟨_, e0, rfl, ⟨hlen, .inr ⟨g, cap, c2, rfl, hbg, f6, hroom, hcm, by rw [f7, b7, hcs], key c2 (by rw [f7, b7]; exact hsz) fun j hj => ?_⟩⟩, ⟨by rw [d3, a3]; rfl, by rw [d4, a4]; rfl, by rw [d5, a5]; rfl, by rw [d1, a1]; exact Nat.le_refl _, fun k hk hne => ?_⟩, fun b hb => .inl hb⟩
    · rw [f8, b8, b7, hvl, hdl]
      by_cases q1 : j < i * 2
      · rw [if_neg (by omega), if_neg (by omega), if_pos q1, ← htake, List.getElem?_take, if_pos (by omega), Array.getElem?_toList]
      · by_cases q2 : j < (i + 1) * 2
        · rw [if_pos ⟨by omega, by omega, by omega⟩, if_neg q1, if_pos q2]
        · rw [if_neg (by omega), if_pos ⟨by omega, by omega, by omega⟩, if_neg q1, if_neg q2, List.getElem?_drop, show i * 2 + (j - (i + 1) * 2) = j - 2 by omega]
    · have hkg : k ≠ g := fun h => hne (by rw [h]; rfl)
      rw [d2 k hkg, a2 k hkg]; rfl
  · obtain ⟨Z, hZ, hC⟩ := Try.insert_grow g n cap i vb vc cs vs w hlt hnc (by omega) (by omega) hcl hvl hcsw hvs h1c h1v
    refine hC.mono ?_
    rintro e w' ⟨rfl, rfl⟩
    obtain ⟨G, hG⟩ : ∃ G, G = grownCap w (n + 1) cap 26 := ⟨_, rfl⟩
    have hGn : n + 1 ≤ G := by rw [hG]; exact grownCap_ge w _ _ _
    have hGm : G ≤ maxLen := by rw [hG]; exact grownCap_le_maxLen w (n + 1) cap 26 (by unfold maxLen; omega)
    rw [← hG]
    obtain ⟨ROW, hROW⟩ : ∃ ROW : Array Value, ROW = (cs.take (i * 2)).toArray ++ Builtin.zeroCells Z (n + 1 - i) ++ Builtin.zeroCells Z (G - (n + 1)) := ⟨_, rfl⟩
    rw [← hROW]
    have hRs : ROW.size = G * 2 := by
      rw [hROW]
      simp only [Array.size_append, List.size_toArray, size_zeroCells, hZ, List.length_take]
      omega
    have hRt : ∀ j, j < i * 2 → ROW[j]? = cs[j]? := fun j hj => by
      rw [hROW, Array.append_assoc, Array.getElem?_append_left (by simp; omega)]
      simp [List.getElem?_take, hj]
    have hg0 : (w.alloc (.cells ROW 26)).drew.heap[w.heap.size]? = some (.cells ROW 26 (0, 0)) := heap_alloc_new w _
    have hold : ∀ k, k < w.heap.size → (w.alloc (.cells ROW 26)).drew.heap[k]? = w.heap[k]? := fun k hk => heap_alloc_old w (.cells ROW 26) hk
    obtain ⟨a1, a2, a3, a4, a5, a6⟩ := Go.G36.heap_setCells (w.alloc (.cells ROW 26)).drew w.heap.size vs (i * 2)
    obtain ⟨c1, b6, b7, b8⟩ := a6 ROW 26 (0, 0) hg0
    obtain ⟨d1, d2, d3, d4, d5, d6⟩ := Go.G36.heap_setCells ((w.alloc (.cells ROW 26)).drew.setCells w.heap.size (i * 2) vs).drew w.heap.size (cs.drop (i * 2)) ((i + 1) * 2)
    obtain ⟨c2, f6, f7, f8⟩ := d6 c1 26 (0, 0) b6
    refine ⟨_, 26, rfl, ⟨hlen, .inr ⟨w.heap.size, G, c2, rfl, Nat.zero_le _, f6, hGn, hGm, by rw [f7, b7, hRs], key c2 (by rw [f7, b7, hRs]; exact Nat.mul_le_mul_right _ hGn) fun j hj => ?_⟩⟩, ⟨by rw [d3]; exact a3, by rw [d4]; exact a4, by rw [d5]; exact a5, by rw [d1]; exact Nat.le_trans (show w.heap.size ≤ (w.alloc (.cells ROW 26)).drew.heap.size by simp) (Nat.le_of_eq a1.symm), fun k hk hne => ?_⟩, fun b hb => .inr (by simp [Value.ownBlock] at hb; omega)⟩
    · have hG2 : (n + 1) * 2 ≤ G * 2 := Nat.mul_le_mul_right _ hGn
      rw [f8, b8, b7, hvl, hdl, hRs]
      by_cases q1 : j < i * 2
      · rw [if_neg (by omega), if_neg (by omega), if_pos q1, hRt j q1]
      · by_cases q2 : j < (i + 1) * 2
        · rw [if_neg (by omega), if_pos ⟨by omega, by omega, by omega⟩, if_neg q1, if_pos q2]
        · rw [if_pos ⟨by omega, by omega, by omega⟩, if_neg q1, if_neg q2, List.getElem?_drop, show i * 2 + (j - (i + 1) * 2) = j - 2 by omega]
    · have hkg : k ≠ w.heap.size := by omega
      rw [d2 k hkg]
      exact (a2 k hkg).trans (hold k hk)
end Go.Proofs
