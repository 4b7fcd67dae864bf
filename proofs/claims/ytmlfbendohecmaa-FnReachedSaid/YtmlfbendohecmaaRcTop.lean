/- FnReached returns true, whatever the bytes: no condition. -/
import Derived.Test.YtmlfbendohecmaaRows
import Derived.Test.YtmlfbendohecmaaDPb
import Derived.WalkKit
import Derived.ProofKit
import Derived.OpenShut
import Derived.ShutString
import Derived.ChangeOld
import Derived.Below
namespace Go.Proofs.Ytmlfbendohecmaa.fnReached
open Go.ChangeShapes Go.WideShapes Go.ChangeAt Go.RowKit
open Go.ChangeMaps (open_string shut_string)
open Go.G36 (CV Val Mem RefR CallT Told)
set_option linter.unusedVariables false

theorem own : ownKnob Try.prog.godebug = none := by kernel_rfl
theorem laidOut : laidOutB Try.prog = true := by kernel_rfl

/-- What the walk is told of a slice of integers that came in. -/
def IsRow (k : IntKind) (w : World) (a : Option Addr) (len cap : Nat) (zs : List Int) : Prop :=
  (a = none ∧ len = 0 ∧ cap = 0 ∧ zs = []) ∨
  ∃ x, a = some x ∧ len ≤ cap ∧ cap ≤ maxLen ∧ zs.length = cap ∧ (∀ i, i < zs.length → w.cell? (x.add i) = some (.int k (zs.getD i 0))) ∧ ∀ n ∈ zs, (Lit.int k n).wf = true

/-- The slice as a closed value. -/
theorem IsRow.cv {w : World} {a : Option Addr} {len cap : Nat} {zs : List Int} (h : IsRow .u8 w a len cap zs) :
    ∃ S : Nat → Prop, (∀ b, S b → b < w.heap.size) ∧ CV S w (.im false ((zs.take len).map (Go.G36.RC.c_int .u8))) (.slice a len cap) := by
  rcases h with ⟨rfl, rfl, rfl, rfl⟩ | ⟨x, rfl, hl, hm, hz, hcell, hwz⟩
  · exact ⟨fun _ => False, fun _ h => h.elim, Go.G36.CV.imNil⟩
  · have hlen : ((zs.take len).map (Go.G36.RC.c_int .u8)).length = len := by simp; omega
    by_cases h0 : cap = 0
    · have : len = 0 := by omega
      subst this
      refine ⟨fun _ => False, fun _ h => h.elim, ?_⟩
      have := CV.im (S := fun _ => False) (w := w) [] (some x) cap 1 (fun _ _ => Go.undef) (Nat.zero_le _) (fun h => absurd rfl h) (fun i j row c h => by simp at h) fun i j row c h => by simp at h
      simpa using this
    · obtain ⟨b, off, spot⟩ := x
      have hc := hcell 0 (by omega)
      have hspot : spot = none := by simpa [Addr.add] using World.cell?_spot hc
      subst hspot
      have hb : b < w.heap.size := by
        simp only [World.cell?, Addr.add] at hc
        cases hh : w.heap[b]? with
        | none => simp [hh] at hc
        | some o => exact (Array.getElem?_eq_some_iff.1 hh).1
      have key : ∀ (i j : Nat) (row : List Go.G36.V) (c : Go.G36.V), ((zs.take len).map (Go.G36.RC.c_int .u8))[i]? = some row → row[j]? = some c → j = 0 ∧ i < zs.length ∧ c = .int .u8 (zs.getD i 0) := fun i j row c h1 h2 => by
        rw [List.getElem?_map] at h1
        cases hx : (zs.take len)[i]? with
        | none => rw [hx] at h1; cases h1
        | some z =>
          rw [hx] at h1
          simp only [Option.map_some, Option.some.injEq] at h1
          subst h1
          have hlt := (List.getElem?_eq_some_iff.1 hx).1
          have hz2 : zs[i]? = some z := by
            rw [List.getElem?_take] at hx
            split at hx
            · exact hx
            · cases hx
          cases j with
          | zero =>
            simp [Go.G36.RC.c_int] at h2
            refine ⟨rfl, (List.getElem?_eq_some_iff.1 hz2).1, ?_⟩
            rw [← h2, List.getD_eq_getElem?_getD, hz2]; rfl
          | succ j => simp [Go.G36.RC.c_int] at h2
      refine ⟨fun k => k = b, fun k hk => hk ▸ hb, ?_⟩
      have := CV.im (S := fun k => k = b) (w := w) ((zs.take len).map (Go.G36.RC.c_int .u8)) (some ⟨b, off, none⟩) cap 1 (fun i _ => .int .u8 (zs.getD i 0)) (by rw [hlen]; exact hl)
        (fun _ => ⟨b, off, rfl, rfl, fun row hrow => by obtain ⟨z, _, rfl⟩ := List.mem_map.1 hrow; rfl, fun i j row c h1 h2 => by
          obtain ⟨rfl, hi, rfl⟩ := key i j row c h1 h2
          have := hcell i hi
          have e : (⟨b, off, none⟩ : Addr).add i = ⟨b, off + i * 1 + 0, none⟩ := by
            by_cases hi0 : i = 0
            · subst hi0; simp [Addr.add]
            · simp [Addr.add, hi0]
          rw [e] at this
          exact this⟩)
        (fun i j row c h1 h2 => by obtain ⟨_, _, rfl⟩ := key i j row c h1 h2; exact .int _ _)
        (fun i j row c h1 h2 => by obtain ⟨_, _, rfl⟩ := key i j row c h1 h2; rfl)
      rwa [hlen] at this

/-! ### The walk -/
theorem walk (a0 : Option Addr) (len0 cap0 : Nat) (z0 : List Int) (w : World) (w0 : IsRow .u8 w a0 len0 cap0 z0) :
    Calls Try.prog 3 #[.slice a0 len0 cap0] w fun e w' => e = .returned (.bool true) ∧ Below w.heap.size w w' := by
  obtain ⟨S, hS, hcv⟩ := w0.cv
  have hb : ∀ b, b ∈ z0.take len0 → 0 ≤ b ∧ b ≤ 255 := fun b hm => by
    rcases w0 with ⟨_, rfl, _, rfl⟩ | ⟨x, _, _, _, _, _, hwz⟩
    · simp at hm
    · have := hwz b (List.mem_of_mem_take hm)
      simp [Lit.wf, IntKind.min, IntKind.max, IntKind.bits, IntKind.signed] at this
      omega
  have hP := Go.G36.RC.laws_FnReached_p false (Go.G36.RC.law hb)
  have hm : Mem S (fun _ => False) [] [] w := ⟨rfl, fun a o l h => by simp at h, fun a o l a' o' l' b h => by simp at h, fun a o l b h => by simp at h, fun b hb => by
    rcases hb with hb | hb
    · exact hS b hb
    · exact hb.elim, ⟨(fun g cs hg => by
      have : (none : Option (List Go.G36.V)) = some cs := hg
      cases this), fun x hx => absurd hx List.not_mem_nil⟩⟩
  refine (hP S (fun _ => False) [] #[.slice a0 len0 cap0] w hm ⟨rfl, fun i c u hc hu => ?_⟩).mono ?_
  · cases i with
    | zero =>
      simp only [List.getElem?_cons_zero, Option.some.injEq] at hc
      simp at hu
      subst hc; subst hu
      exact .cv _ _ hcv
    | succ i => simp at hc
  · rintro e w' ⟨u, v, τ, S', ι', rfl, hT, hv, hm', hf⟩
    have hu := Told.val hm' hT hv
    cases hu
    exact ⟨rfl, hf.os, hf.tape, hf.output, hf.size, fun k hk => hf.keep k hk Go.G36.Lv_nil⟩

set_option maxRecDepth 100000 in
theorem lifted (os : Os) (started : os.Started) (H : Type) (enc : TypeId × Value → H) :
    ReturnsInHanded {} Try.checked os 3 .any (Rows.fnReachedSpec.pre6 enc Try.prog Try.f3 Rows.fnReachedRow.domain false) (Rows.fnReachedSpec.post enc Try.prog Try.f3 false true false false) := by
  refine returnsInHanded_of_change (C := Try.checked) own started (by kernel_rfl) Try.func3
    (ChangeSpec.witness6 (enc := enc) (C := Try.checked) false ⟨#[], #[.slice none 0 0], []⟩ 8 (by kernel_rfl) (by kernel_rfl) (by kernel_rfl) (by kernel_rfl)) ?_
  intro W base args ds gs before hval0 hW hcnd _
  have hval : ∀ (j : Nat) t v, Try.f3.params[j]? = some t → args[j]? = some v → Value.okWide Try.prog W .any base t v := hval0
  have hW' := hW
  obtain ⟨p, q, hA0, hV, rfl, hfz, hnd⟩ := hW
  have hA : DataW.TrodAll enc Try.prog W 0 (fun _ => true) true Try.f3.params.toList args.toList ds p := hA0
  rw [Try.params3] at hA hval
  obtain ⟨v0, vs0, d0, ds0, p0, q0, hargs, rfl, rfl, h0, r0⟩ := trodAll_cons hA
  obtain ⟨rfl, rfl, rfl⟩ := trodAll_nil r0
  obtain rfl : args = #[v0] := by cases args; simp_all
  obtain ⟨rfl, rfl⟩ := trodVars_none hV
  obtain ⟨a0, len0, cap0, rfl⟩ := okWide_slice Try.underlying22 (hval 0 22 v0 rfl rfl)
  have k0 := h0
  have lt0 : ∀ x ∈ p0, x.block < W.heap.size := by obtain ⟨m, hm⟩ := k0; exact DataW.trod_lt m _ _ _ hm
  obtain ⟨z0, w0⟩ : ∃ zs, IsRow .u8 W a0 len0 cap0 zs := by
    obtain ⟨fuel, hf⟩ := h0
    rcases open_ints Try.underlying22 Try.underlying5 (by kernel_rfl) hf with ⟨hcs, _⟩ | ⟨x, l, c, zs, hcs, _, hl, hm, hz, _, hcell, hwz⟩
    · simp [Value.cells] at hcs
      obtain ⟨rfl, rfl, rfl⟩ := hcs
      exact ⟨[], .inl ⟨rfl, rfl, rfl, rfl⟩⟩
    · simp [Value.cells] at hcs
      obtain ⟨rfl, rfl, rfl⟩ := hcs
      exact ⟨zs, .inr ⟨_, rfl, hl, hm, by simpa using hz, hcell, hwz⟩⟩
  clear hA0 hval0
  refine (walk a0 len0 cap0 z0 W w0).mono fun e W' ⟨he, bel⟩ => ?_
  subst he
  exact ⟨_, rfl, _, _, _, [], _, [], hW', trodAll_mk1 (shut_bool Try.underlying4 _), (trodAll_cons_mk (Below.trod laidOut (by kernel_rfl) (of_decide_eq_true (by kernel_rfl)) k0 bel lt0) trodAll_mk0), rfl, bel.frame _, fun h => by cases h⟩

theorem proved : Rows.FnReachedSaid :=
  OpenClaim.holds_of_wide 3 Try.f3 rfl rfl rfl rfl rfl rfl rfl ⟨rfl, rfl, rfl, rfl, rfl⟩ rfl rfl rfl rfl rfl (by kernel_rfl) Try.func3 (by kernel_rfl)
    (of_decide_eq_true (by kernel_rfl)) (by unfold Func.isWrapper; first | (rw [if_pos (by decide +kernel)]; kernel_rfl) | (rw [if_neg (by decide +kernel)]; exact ⟨rfl, rfl⟩))
    (fun os started H enc _ => lifted os started H enc)
#print axioms proved
end Go.Proofs.Ytmlfbendohecmaa.fnReached
