/- FnExactRunRecovery returns true, whatever comes in: no conditions. -/
import Derived.Test.YtegplikjfdpnlaaRows
import Derived.Test.YtegplikjfdpnlaaE36a
import Derived.Test.YtegplikjfdpnlaaKza
namespace Go.Proofs.Ytegplikjfdpnlaa.fnExactRunRecovery
open Go.ChangeShapes Go.WideShapes Go.ChangeAt Go.RowKit
open Go.G36
set_option linter.unusedVariables false

theorem own : ownKnob Try.prog.godebug = none := by kernel_rfl
theorem laidOut : laidOutB Try.prog = true := by kernel_rfl
def tys : List TypeId := [3, 9, 23, 33, 61]
theorem tysOk : tys.all (plainB Try.prog tys) = true := by kernel_rfl

theorem ev_shp (vs : List V) (h : Shp Try.prog 61 vs) : ∃ x : GWalk.T_laws_RecoverEvent, vs = GWalk.c_T_laws_RecoverEvent false x ∧ x.Who_.size ≤ maxLen := by
  obtain ⟨css, rfl, hl, hf⟩ := shp_struct Try.underlying61 h
  match css, hl with
  | [c0, c1, c2], _ =>
    obtain ⟨n0, h0, _⟩ := shp_int Try.underlying3 (hf 0 _ c0 rfl rfl)
    obtain ⟨n1, h1, _⟩ := shp_int Try.underlying3 (hf 1 _ c1 rfl rfl)
    obtain ⟨s2, h2, hs⟩ := shp_str Try.underlying9 (hf 2 _ c2 rfl rfl)
    subst h0; subst h1; subst h2
    exact ⟨⟨n0, n1, s2⟩, rfl, hs⟩

theorem walk (w : World) (us : Array Value) (cs : List V) (h : Opened Try.prog w [3, 3, 23, 33] us.toList cs) :
    Calls Try.prog 4 us w fun e w' => e = .returned (.bool true) ∧ Below w.heap.size w w' := by
  obtain ⟨ul⟩ := us
  change Opened Try.prog w [3, 3, 23, 33] ul cs at h
  have hg := h.get
  cases h with | cons s0 _ h =>
  cases h with | cons s1 _ h =>
  cases h with | cons s2 _ h =>
  cases h with | cons s3 _ h =>
  cases h
  obtain ⟨n0, rfl, _⟩ := shp_int Try.underlying3 s0
  obtain ⟨n1, rfl, _⟩ := shp_int Try.underlying3 s1
  obtain ⟨hs, rfl, l2, k2⟩ := shp_slice (f := GWalk.c_str) (ok := fun s => s.size ≤ maxLen) Try.underlying23 (fun vs h => shp_str Try.underlying9 h) s2
  obtain ⟨es, rfl, l3, k3⟩ := shp_slice (f := GWalk.c_T_laws_RecoverEvent false) (ok := fun x => x.Who_.size ≤ maxLen) Try.underlying33 ev_shp s3
  refine walk_any (avs := [.int .i64 n0, .int .i64 n1, .im false (hs.map GWalk.c_str), .im false (es.map (GWalk.c_T_laws_RecoverEvent false))])
    (GWalk.laws_FnExactRunRecovery_p false false (fnExactRunRecovery n0 n1 hs es l2 k2 l3 k3)) (by simp) fun i c u hc hu => ?_
  refine hg.2 i c u ?_ (by simpa using hu)
  rw [← hc]
  simp [argV, Try.underlying3, Try.underlying23, Try.underlying33]

set_option maxRecDepth 100000 in
theorem lifted (os : Os) (started : os.Started) (H : Type) (enc : TypeId × Value → H) :
    ReturnsInHanded {} Try.checked os 4 .any (Rows.fnExactRunRecoverySpec.pre6 enc Try.prog Try.f4 Rows.fnExactRunRecoveryRow.domain false) (Rows.fnExactRunRecoverySpec.post enc Try.prog Try.f4 false true false false) := by
  refine returnsInHanded_of_change (C := Try.checked) own started (by kernel_rfl) Try.func4
    (ChangeSpec.witness6 (enc := enc) (C := Try.checked) false ⟨#[], #[.int .i64 0, .int .i64 0, .slice none 0 0, .slice none 0 0], []⟩ 8 (by kernel_rfl) (by kernel_rfl) (by kernel_rfl) (by kernel_rfl)) ?_
  intro W base args ds gs before hval0 hW hcnd _
  have hval : ∀ (j : Nat) t v, Try.f4.params[j]? = some t → args[j]? = some v → Value.okWide Try.prog W .any base t v := hval0
  have hW' := hW
  obtain ⟨p, q, hA0, hV, rfl, hfz, hnd⟩ := hW
  have hA : DataW.TrodAll enc Try.prog W 0 (fun _ => true) true Try.f4.params.toList args.toList ds p := hA0
  obtain ⟨rfl, rfl⟩ := trodVars_none hV
  obtain ⟨cs, ho⟩ := opened (H := H) (enc := enc) tysOk Try.f4.params.toList args.toList ds p (by kernel_rfl) (fun j t v h1 h2 => hval j t v (by simpa using h1) (by simpa using h2)) hA
  have hw := walk W args cs ho
  have hlen := (trodAll_len hA).1
  match ds, hlen with
  | [d0, d1, d2, d3], _ =>
  refine hw.mono fun e W' ⟨he, bel⟩ => ?_
  subst he
  exact ⟨_, rfl, _, _, _, [], _, [], hW', trodAll_mk1 (shut_bool Try.underlying4 _), (trodAll_stays laidOut bel _ _ _ _ (by kernel_rfl) hA), rfl, bel.frame _, fun h => by cases h⟩

theorem proved : Rows.FnExactRunRecoverySaid :=
  OpenClaim.holds_of_wide 4 Try.f4 rfl rfl rfl rfl rfl rfl rfl ⟨rfl, rfl, rfl, rfl, rfl⟩ rfl rfl rfl rfl rfl (by kernel_rfl) Try.func4 (by kernel_rfl)
    (of_decide_eq_true (by kernel_rfl)) (by unfold Func.isWrapper; first | (rw [if_pos (by decide +kernel)]; kernel_rfl) | (rw [if_neg (by decide +kernel)]; exact ⟨rfl, rfl⟩))
    (fun os started H enc _ => lifted os started H enc)
#print axioms proved
end Go.Proofs.Ytegplikjfdpnlaa.fnExactRunRecovery
