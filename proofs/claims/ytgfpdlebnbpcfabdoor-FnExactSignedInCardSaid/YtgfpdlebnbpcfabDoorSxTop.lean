/- FnExactSignedIn returns true, whatever comes in: conditions: the library's tables and errors start as the program's text lays them (the card ties it). -/
import Derived.Test.YtgfpdlebnbpcfabDoorRows
import Derived.Test.YtgfpdlebnbpcfabDoorCards
import Derived.Test.YtgfpdlebnbpcfabDoorTie
import Derived.Test.YtgfpdlebnbpcfabDoorSPl
import Derived.Test.YtgfpdlebnbpcfabDoorKza
import Derived.SliceStrings
import Derived.ChangeVars
import Derived.ChangeBears2
import Derived.LaidLaws
import Derived.LaidHandle
import Derived.Lib.LaidU8
import Derived.SevenTiedAt
import Derived.Lib.LaidIn
import Derived.Lay
import Derived.Stop.Joined
import Derived.Stop.LaidErr
import Derived.Handed
import Derived.Shelf.Vars
namespace Go.Proofs.YtgfpdlebnbpcfabDoor.fnExactSignedIn
open Go.ChangeShapes Go.WideShapes Go.ChangeAt Go.RowKit
open Go.G36 Go.G36.SL
set_option linter.all false

theorem own : ownKnob Tryd.prog.godebug = none := by kernel_rfl
theorem laidOut : laidOutB Tryd.prog = true := by kernel_rfl
def tys : List TypeId := [3, 5, 9, 22, 24, 25, 44]
theorem tysOk : tys.all (plainB Tryd.prog tys) = true := by kernel_rfl
abbrev named : List String := Rows.fnExactSignedInRow.named
abbrev laid : List (String × DataW Unit) := Rows.fnExactSignedInRow.laid
theorem heap_of {W : World} {n : String} {g : Nat} {cs : Array Value} (hg : Tryd.prog.globalNamed n = some g) (h : W.var? Tryd.prog n = some cs) : g < W.heap.size ∧ ∃ e fz, W.heap[g]? = some (.cells cs e fz) := by
  simp only [World.var?, hg, Option.bind_some] at h
  cases hb : W.heap[g]? with
  | none => rw [hb] at h; cases h
  | some o =>
    rw [hb] at h
    refine ⟨(Array.getElem?_eq_some_iff.1 hb).1, ?_⟩
    cases o with
    | cells c e fz => exact ⟨e, fz, by injection h with h; rw [h]⟩
    | _ => cases h

/-- The builder, with the world's form and what the list says. -/
theorem both {H : Type} {enc : TypeId × Value → H} {a : Assume} {C : Checked} {os : Os} {f : FuncId} {fn : Func} {s : ChangeSpec} {conds : List PathCond} {apart fresh handsOn again : Bool} {X : World → Array Value → Prop}
    (hX : ∀ (w w' : World) (args : Array Value), w.heap = w'.heap → X w args → X w' args)
    (own : ownKnob C.prog.godebug = none) (started : os.Started) (noInit : C.prog.inits.idxOf? f = none) (hfn : C.prog.funcs[f]? = some fn)
    (witness : ∃ (w : World) (tape : Tape) (i : Input), w.os = os ∧ (w.forCall tape i).Shaped C.prog ∧ i.vars = [] ∧ Input.okWide C.prog (w.forCall tape i) .any w.heap.size f i ∧
      ((s.pre enc C.prog fn conds apart (w.forCall tape i).memory i.args ∧ X (w.forCall tape i).memory i.args) ∧ sizedMet enc C.prog fn (OpenSpec.ofChange s) apart (w.forCall tape i).memory i.args) ∧ a.holds C.prog (lone (Frame.enter C.prog f i.args .normal) [] (w.forCall tape i)))
    (contract : ∀ (W : World) (base : Nat) (args : Array Value) (ds gs : List (DataW H)) (before : List MemPlace),
      (∀ (j : Nat) t v, fn.params[j]? = some t → args[j]? = some v → Value.okWide C.prog W .any base t v) →
      DataW.Whole enc C.prog fn.params.toList s.vars apart W args.toList ds gs before →
      conds.all (PathCond.test C.prog ⟨fn.params.toList, ds, s.plain.varTypes C.prog, gs⟩) = true →
      (DataW.weightsEach C.prog (fn.params.toList ++ s.plain.varTypes C.prog) (ds ++ gs)).all (· ≤ reachBytes) = true → X W args → W.ShapedOpen C.prog →
      a.holds C.prog (lone (Frame.enter C.prog f args .normal) [] W) →
      Calls C.prog f args W fun e W' => ∃ v, e = .returned v ∧ s.post enc C.prog fn apart fresh handsOn again W args v W') :
    ReturnsInHanded a C os f .any (fun w args => (s.pre enc C.prog fn conds apart w args ∧ X w args) ∧ sizedMet enc C.prog fn (OpenSpec.ofChange s) apart w args) (s.post enc C.prog fn apart fresh handsOn again) := by
  refine returnsInHanded_of_calls own started noInit witness ?_
  intro w tape i _ hsh _ hok hpre hholds
  obtain ⟨_, _, _, fn', hfn', _, _, _, _, hval⟩ := hok
  have e : fn' = fn := Option.some.inj (hfn'.symm.trans hfn)
  subst e
  obtain ⟨⟨⟨ds, gs, before, hw, hc⟩, hx⟩, hz⟩ := hpre
  have hw' := DataW.Whole.of_heap (w' := w.forCall tape i) (by rfl) hw
  refine (contract (w.forCall tape i) w.heap.size i.args ds gs before hval hw' hc (hz.weights hw) (hX _ _ _ (by rfl) hx) hsh hholds).mono fun e W' ⟨v, he, hp⟩ => ?_
  subst he
  exact ChangeSpec.post_blind hp

/-- What the laid variables tell of the world. -/
theorem glob {W : World} (h : laidMetH Tryd.prog laid W) (hsh : W.ShapedOpen Tryd.prog) : GlobOk (fun b => b < W.heap.size) W := by
  have h' : laidMet Tryd.prog laid W := h
  have f1 : (0 : Nat) < W.heap.size ∧ ∃ o, W.heap[0]? = some o ∧ holdsT .u64 Lib.pow10Tab o := by
    have ht : laidMet Tryd.prog (laid.drop 2) W := h'.tail.tail
    have hg : Tryd.prog.globalNamed named[0] = some 0 := by kernel_rfl
    have hT : Lib.TabIs Tryd.prog W named[0] .u64 Lib.pow10Tab := Lib.tabIs_of_head (rest := laid.drop 3) (n := 20) hg (t := 116) (e := 107) (by kernel_rfl) (by kernel_rfl) (by kernel_rfl) (by kernel_rfl) (by kernel_rfl) (by
      have e : (laid.drop 2) = (named[0], Lib.tabData .u64 Lib.pow10Tab) :: laid.drop 3 := by rfl
      rw [← e]; exact ht)
    obtain ⟨k1, e, fz, k2⟩ := heap_of hg hT
    exact ⟨k1, _, k2, e, fz, rfl⟩
  refine And.intro (fun g cs hg => ?_) (fun x hx => ?_)
  · exact absurd hg (by intro hh; cases hh)
  have hx' : x ∈ [((0 : Nat), holdsT .u64 Lib.pow10Tab)] := hx
  simp only [List.mem_cons, List.not_mem_nil, or_false] at hx'
  subst hx'
  exact f1

theorem ev_shp (vs : List V) (h : Shp Tryd.prog 44 vs) : ∃ x : SX.T_laws_SessEvent, vs = SX.c_T_laws_SessEvent false x ∧ SX.evOk x := by
  obtain ⟨css, rfl, hl, hf⟩ := shp_struct Tryd.underlying44 h
  match css, hl with
  | [c0, c1, c2, c3, c4], _ =>
    obtain ⟨n0, h0, _⟩ := shp_int Tryd.underlying3 (hf 0 _ c0 rfl rfl)
    obtain ⟨n1, h1, _⟩ := shp_int Tryd.underlying3 (hf 1 _ c1 rfl rfl)
    obtain ⟨s2, h2, k2⟩ := shp_str Tryd.underlying9 (hf 2 _ c2 rfl rfl)
    obtain ⟨s3, h3, k3⟩ := shp_str Tryd.underlying9 (hf 3 _ c3 rfl rfl)
    obtain ⟨s4, h4, k4⟩ := shp_str Tryd.underlying9 (hf 4 _ c4 rfl rfl)
    subst h0; subst h1; subst h2; subst h3; subst h4
    exact ⟨⟨n0, n1, s2, s3, s4⟩, rfl, k2, k3, k4⟩
theorem cf_shp (vs : List V) (h : Shp Tryd.prog 24 vs) : ∃ x : SX.T_laws_SessConf, vs = SX.c_T_laws_SessConf false x ∧ SX.Bytes x.Key_ ∧ x.Key_.length ≤ maxLen := by
  obtain ⟨css, rfl, hl, hf⟩ := shp_struct Tryd.underlying24 h
  match css, hl with
  | [c0, c1, c2], _ =>
    obtain ⟨bs, h0, l0, k0⟩ := shp_slice (f := SX.c_int .u8) (ok := fun x => 0 ≤ x ∧ x ≤ 255) Tryd.underlying22 (fun vs h => by
      obtain ⟨n, rfl, hw⟩ := shp_int Tryd.underlying5 h
      refine ⟨n, rfl, ?_⟩
      have := hw
      simp [Lit.wf, IntKind.min, IntKind.max, IntKind.bits, IntKind.signed] at this
      omega) (hf 0 _ c0 rfl rfl)
    obtain ⟨n1, h1, _⟩ := shp_int Tryd.underlying3 (hf 1 _ c1 rfl rfl)
    obtain ⟨n2, h2, _⟩ := shp_int Tryd.underlying3 (hf 2 _ c2 rfl rfl)
    subst h0; subst h1; subst h2
    exact ⟨⟨bs, n1, n2⟩, rfl, k0, l0⟩

theorem walk (w : World) (us : Array Value) (cs : List V) (hG : GlobOk (fun b => b < w.heap.size) w) (h : Opened Tryd.prog w [24, 25, 3] us.toList cs) :
    Calls Tryd.prog 3 us w fun e w' => e = .returned (.bool true) ∧ Below w.heap.size w w' := by
  obtain ⟨ul⟩ := us
  change Opened Tryd.prog w [24, 25, 3] ul cs at h
  have hg := h.get
  cases h with | cons s0 _ h =>
  cases h with | cons s1 _ h =>
  cases h with | cons s2 _ h =>
  cases h
  obtain ⟨c, rfl, kb, kl⟩ := cf_shp _ s0
  obtain ⟨es, rfl, l1, k1⟩ := shp_slice (f := SX.c_T_laws_SessEvent false) (ok := SX.evOk) Tryd.underlying25 ev_shp s1
  obtain ⟨t, rfl, _⟩ := shp_int Tryd.underlying3 s2
  refine walk_any (avs := [.agg (SX.c_T_laws_SessConf false c), .im false (es.map (SX.c_T_laws_SessEvent false)), .int .i64 t]) (SX.laws_FnExactSignedIn_p false (SX.law c es t kb kl l1 k1)) hG (by simp) fun i c u hc hu => ?_
  refine hg.2 i c u ?_ (by simpa using hu)
  rw [← hc]
  simp [argV, Tryd.underlying24, Tryd.underlying25, Tryd.underlying3]

def T32 : List Int := [0, 1, 28, 2, 29, 14, 24, 3, 30, 22, 20, 15, 25, 17, 4, 8, 31, 27, 13, 23, 21, 19, 16, 7, 26, 12, 18, 6, 11, 5, 10, 9]
def T64 : List Int := [0, 1, 56, 2, 57, 49, 28, 3, 61, 58, 42, 50, 38, 29, 17, 4, 62, 47, 59, 36, 45, 43, 51, 22, 53, 39, 33, 30, 24, 18, 12, 5, 63, 55, 48, 27, 60, 41, 37, 16, 46, 35, 44, 21, 52, 32, 23, 11, 54, 26, 40, 15, 34, 20, 31, 10, 25, 14, 19, 9, 13, 8, 7, 6]
/-- A world that meets the condition. -/
noncomputable def laidWorld (os : Os) : World :=
  let w0 := World.holding Tryd.prog os ⟨#[], #[], []⟩
  let put := fun (g : Nat) (cs : Array Value) (h : Array Obj) => h.modify g fun
      | .cells _ t frozen => .cells cs t frozen
      | o => o
  { w0 with heap := put 2 (T64.map fun n => .int .u8 n).toArray (put 1 (T32.map fun n => .int .u8 n).toArray (put 0 (Lib.pow10Tab.map fun n => .int .u64 n).toArray w0.heap)) }
theorem laid_met (os : Os) (args : Array Value) : laidMetH Tryd.prog Rows.fnExactSignedInRow.laid ((laidWorld os).forCall (fun _ _ => 0) ⟨#[], args, []⟩).memory := by
  have h : LaidIn Tryd.prog ((laidWorld os).forCall (fun _ _ => 0) ⟨#[], args, []⟩).memory Rows.fnExactSignedInRow.laid [1, 2, 0] :=
    LaidIn.of_run [1, 2, 0] 8 (by kernel_rfl) (by kernel_rfl) (by kernel_rfl) (by kernel_rfl)
  exact h.met

set_option maxRecDepth 100000 in
theorem witness (os : Os) {H : Type} (enc : TypeId × Value → H) : ∃ (w : World) (tape : Tape) (i : Input), w.os = os ∧ (w.forCall tape i).Shaped Tryd.checked.prog ∧ i.vars = [] ∧ Input.okWide Tryd.checked.prog (w.forCall tape i) .any w.heap.size 3 i ∧
      ((Rows.fnExactSignedInSpec.pre enc Tryd.checked.prog Tryd.f3 Rows.fnExactSignedInRow.domain false (w.forCall tape i).memory i.args ∧ laidMetH Tryd.prog Rows.fnExactSignedInRow.laid (w.forCall tape i).memory) ∧ sizedMet enc Tryd.checked.prog Tryd.f3 (OpenSpec.ofChange Rows.fnExactSignedInSpec) false (w.forCall tape i).memory i.args) ∧
      ({ } : Assume).holds Tryd.checked.prog (lone (Frame.enter Tryd.checked.prog 3 i.args .normal) [] (w.forCall tape i)) := by
  have hok : Input.okWideB Tryd.checked.prog ((laidWorld os).forCall (fun _ _ => 0) ⟨#[], #[.agg #[.slice none 0 0, .int .i64 0, .int .i64 0], .slice none 0 0, .int .i64 0], []⟩) 3 ⟨#[], #[.agg #[.slice none 0 0, .int .i64 0, .int .i64 0], .slice none 0 0, .int .i64 0], []⟩ = true := by kernel_rfl
  have hpre : Rows.fnExactSignedInSpec.preB enc Tryd.checked.prog Tryd.f3 Rows.fnExactSignedInRow.domain false ((laidWorld os).forCall (fun _ _ => 0) ⟨#[], #[.agg #[.slice none 0 0, .int .i64 0, .int .i64 0], .slice none 0 0, .int .i64 0], []⟩).memory #[.agg #[.slice none 0 0, .int .i64 0, .int .i64 0], .slice none 0 0, .int .i64 0] 8 = true := by kernel_rfl
  have hsz : Rows.fnExactSignedInSpec.sizedB enc Tryd.checked.prog Tryd.f3 false ((laidWorld os).forCall (fun _ _ => 0) ⟨#[], #[.agg #[.slice none 0 0, .int .i64 0, .int .i64 0], .slice none 0 0, .int .i64 0], []⟩).memory #[.agg #[.slice none 0 0, .int .i64 0, .int .i64 0], .slice none 0 0, .int .i64 0] 8 = true := by kernel_rfl
  exact ⟨laidWorld os, fun _ _ => 0, ⟨#[], #[.agg #[.slice none 0 0, .int .i64 0, .int .i64 0], .slice none 0 0, .int .i64 0], []⟩, rfl, World.shaped_of_RefB (by kernel_rfl) (by kernel_rfl), (Input.okWide_of_okWideB (base := 0) hok).1, (Input.okWide_of_okWideB hok).2, ⟨⟨ChangeSpec.pre_of_preB hpre, laid_met os _⟩, sizedMet_of_sizedB hsz⟩, by
    simp only [Assume.holds]
    exact ⟨by simp, by simp, fun _ => Modest.zero, by simp, by simp⟩⟩
set_option maxRecDepth 100000 in
theorem lifted (os : Os) (started : os.Started) (H : Type) (enc : TypeId × Value → H) :
    ReturnsInHanded {} Tryd.checked os 3 .any (fun w args => (Rows.fnExactSignedInSpec.pre enc Tryd.prog Tryd.f3 Rows.fnExactSignedInRow.domain false w args ∧ laidMetH Tryd.prog Rows.fnExactSignedInRow.laid w) ∧ sizedMet enc Tryd.prog Tryd.f3 (OpenSpec.ofChange Rows.fnExactSignedInSpec) false w args)
      (Rows.fnExactSignedInSpec.post enc Tryd.prog Tryd.f3 false true false false) := by
  refine both (C := Tryd.checked) (X := fun w _ => laidMetH Tryd.prog Rows.fnExactSignedInRow.laid w) (fun _ _ _ hh h => h.of_heap hh) own started (by kernel_rfl) Tryd.func3
    (witness os enc) ?_
  intro W base args ds gs before hval0 hW hcnd _ hL hsh _
  have hval : ∀ (j : Nat) t v, Tryd.f3.params[j]? = some t → args[j]? = some v → Value.okWide Tryd.prog W .any base t v := hval0
  have hW' := hW
  obtain ⟨p, q, hA0, hV, rfl, hfz, hnd⟩ := hW
  have hA : DataW.TrodAll enc Tryd.prog W 0 (fun _ => true) true Tryd.f3.params.toList args.toList ds p := hA0
  obtain ⟨cs, ho⟩ := opened (H := H) (enc := enc) tysOk Tryd.f3.params.toList args.toList ds p (by kernel_rfl) (fun j t v h1 h2 => hval j t v (by simpa using h1) (by simpa using h2)) hA
  have hw := walk W args cs (glob hL hsh) ho
  have hlen := (trodAll_len hA).1
  match ds, hlen with
  | [d0, d1, d2], _ =>
  refine hw.mono fun e W' ⟨he, bel⟩ => ?_
  subst he
  obtain ⟨rfl, rfl⟩ := trodVars_none hV
  exact ⟨_, rfl, _, _, _, [], _, _, hW', trodAll_mk1 (shut_bool Tryd.underlying4 _), (trodAll_stays laidOut bel _ _ _ _ (by kernel_rfl) hA), rfl, bel.frame _, fun h => by cases h⟩

theorem proved : Rows.FnExactSignedInSaid :=
  OpenClaim.holds_of_wide 3 Tryd.f3 rfl rfl rfl rfl rfl rfl rfl ⟨rfl, rfl, rfl, rfl, rfl⟩ rfl rfl rfl rfl rfl (by kernel_rfl) Tryd.func3 (by kernel_rfl)
    (of_decide_eq_true (by kernel_rfl)) (by unfold Func.isWrapper; first | (rw [if_pos (by decide +kernel)]; kernel_rfl) | (rw [if_neg (by decide +kernel)]; exact ⟨rfl, rfl⟩))
    (fun os started H enc _ => lifted os started H enc)

theorem card : Rows.FnExactSignedInCardSaid :=
  Claim7.holds_tied_plain_at .later [] [.data, .data, .data] true (true, "9f25efe806fbc1f7f27563922a1024a426d0e5c464c34787d120f54a0fbf062b") false
    proved (fun _ h => by cases h) (by kernel_rfl) (fun _ h => by cases h) fnExactSignedIn_row_tie rfl ⟨rfl, rfl⟩ (by kernel_rfl) rfl
    (fun f fn hf hfn => by
      obtain rfl : f = 3 := Option.some.inj ((show Tryd.prog.funcNamed "loop.example/g00036/laws.FnExactSignedIn" = some 3 by kernel_rfl).symm.trans hf) |>.symm
      obtain rfl : fn = Tryd.f3 := (Option.some.inj (Tryd.func3.symm.trans hfn)).symm
      exact ⟨by kernel_rfl, fun j t ht => by
        rw [Tryd.params3] at ht
        have h22 : t = 24 ∨ t = 25 ∨ t = 3 := by
          rcases j with _ | _ | _ | j
          · exact .inl (by simpa using ht.symm)
          · exact .inr (.inl (by simpa using ht.symm))
          · exact .inr (.inr (by simpa using ht.symm))
          · simp at ht
        rcases h22 with rfl | rfl | rfl
        · exact (show Tryd.prog.wantsStandIn 24 = false by kernel_rfl)
        · exact (show Tryd.prog.wantsStandIn 25 = false by kernel_rfl)
        · exact (show Tryd.prog.wantsStandIn 3 = false by kernel_rfl)⟩)
    (by kernel_rfl)
#print axioms card
end Go.Proofs.YtgfpdlebnbpcfabDoor.fnExactSignedIn
