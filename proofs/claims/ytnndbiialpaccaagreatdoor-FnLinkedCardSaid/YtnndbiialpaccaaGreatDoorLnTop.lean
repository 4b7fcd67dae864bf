/- FnLinked returns true, whatever the bytes: conditions: the package variable yvars starts as the program's text lays it (the card ties it). -/
import Derived.Test.YtnndbiialpaccaaGreatDoorRows
import Derived.Test.YtnndbiialpaccaaGreatDoorCards
import Derived.Test.YtnndbiialpaccaaGreatDoorTie
import Derived.Test.YtnndbiialpaccaaGreatDoorQ36l
import Derived.Test.YtnndbiialpaccaaGreatDoorKza
import Derived.SliceStrings
import Derived.ChangeVars
import Derived.ChangeBears2
import Derived.LaidLaws
import Derived.LaidHandle
import Derived.Lib.LaidU8
import Derived.SevenTiedAt
import Derived.Lib.LaidIn
import Derived.Lay
import Derived.Stop.Joined
namespace Go.Proofs.YtnndbiialpaccaaGreatDoor.fnLinked
open Go.ChangeShapes Go.WideShapes Go.ChangeAt Go.RowKit
open Go.G36
set_option linter.all false

theorem own : ownKnob Tryz.prog.godebug = none := by kernel_rfl
theorem laidOut : laidOutB Tryz.prog = true := by kernel_rfl
theorem gname : Tryz.prog.globalNamed "loop.example/g00036/impl.yvars" = some 0 := by kernel_rfl
theorem gtype : (Tryz.prog.globals[0]?).map (·.type) = some 50 := by kernel_rfl
theorem cells9 : Tryz.prog.cellsOf 9 = 1 := by kernel_rfl
def tys : List TypeId := [5, 22]
theorem tysOk : tys.all (plainB Tryz.prog tys) = true := by kernel_rfl

theorem cell_block {W : World} {a : Addr} {v : Value} (h : W.cell? a = some v) : a.spot = none ∧ a.block < W.heap.size := by
  unfold World.cell? at h
  cases hb : W.heap[a.block]? with
  | none => rw [hb] at h; cases h
  | some o =>
    refine ⟨?_, (Array.getElem?_eq_some_iff.1 hb).1⟩
    rw [hb] at h
    cases o with
    | cells c t f =>
      dsimp only at h
      split at h
      · cases h
      · rename_i hs
        cases hsp : a.spot with
        | none => rfl
        | some x => rw [hsp] at hs; exact absurd rfl hs
    | _ => cases h
theorem text_of {s : ByteArray} {l : List UInt8} (h : s.data.toList = l) : s = ByteArray.mk l.toArray := by
  obtain ⟨⟨d⟩⟩ := s
  subst h
  rfl

/-- What the laid variable tells of the world. -/
theorem glob {W : World} (h : laidMetH Tryz.prog Rows.fnLinkedRow.laid W) : GlobOk (fun b => b < W.heap.size) W := by
  have h' : laidMet Tryz.prog Rows.fnLinkedRow.laid W := h
  obtain ⟨g, t, cs, fuel, p, h1, h2, h3, h4⟩ := Lib.laidMet.reads h' (.head _)
  have eg : g = 0 := Option.some.inj (h1.symm.trans gname)
  subst eg
  have et : t = 50 := Option.some.inj (h2.symm.trans gtype)
  subst et
  rcases open_strings Tryz.underlying50 Tryz.underlying9 cells9 h4 with ⟨_, hx⟩ | ⟨a, len, cap, ss, hcs, _, hl, hm, hz, hx, hcell, hsz⟩
  · cases hx
  simp only [Prod.mk.injEq, Rows.laid_loop_example_g00036_impl_yvars, DataW.slice.injEq] at hx
  obtain ⟨⟨hx1, hx2⟩, -⟩ := hx
  have hss : ss.drop len = [] := by
    cases hd : ss.drop len with
    | nil => rfl
    | cons x r => rw [hd] at hx2; cases hx2
  have htk : ss.take len = ss := by
    have := List.take_append_drop len ss
    rw [hss, List.append_nil] at this
    exact this
  rw [htk] at hx1
  have hlen : ss.length = 4 := by
    have := congrArg List.length hx1
    simpa [strs] using this.symm
  have hcap : ss.length = cap := by simpa using hz
  have hgv : ss = ZL.gv_0 := by
    match ss, hlen with
    | [s0, s1, s2, s3], _ =>
      simp only [strs, List.map_cons, List.map_nil, List.cons.injEq, DataW.lit.injEq, Lit.string.injEq, and_true] at hx1
      obtain ⟨e0, e1, e2, e3⟩ := hx1
      rw [text_of e0.symm, text_of e1.symm, text_of e2.symm, text_of e3.symm]
      rfl
  have hlen2 : len = 4 := by
    have : (ss.take len).length = 4 := by rw [htk, hlen]
    rw [List.length_take] at this
    omega
  subst hlen2
  have hc0 := hcell 0 (by omega)
  have ha0 : a.add 0 = a := rfl
  rw [ha0] at hc0
  obtain ⟨hsp, hbl⟩ := cell_block hc0
  obtain ⟨b, off, spot⟩ := a
  dsimp only at hsp hbl
  subst hsp
  have hv0 : W.cell? ⟨0, 0, none⟩ = some (.slice (some ⟨b, off, none⟩) 4 cap) := by
    rw [var?_cell gname h3 0]
    have : cs[0]? = cs.toList[0]? := by simp
    rw [this, hcs]
    rfl
  have key : CV (fun b => b < W.heap.size) W (.im false (ZL.gv_0.map ZL.c_str)) (.slice (some ⟨b, off, none⟩) 4 cap) := by
    refine CV.im (ZL.gv_0.map ZL.c_str) (some ⟨b, off, none⟩) cap 1 (fun i _ => .string (ss.getD i ByteArray.empty)) (by rw [List.length_map, ← hgv, hlen]; omega) (fun _ => ⟨b, off, rfl, hbl, fun row hr => ?_, fun i j row c hi hj => ?_⟩) (fun i j row c hi hj => ?_) (fun i j row c hi hj => ?_)
    · obtain ⟨s, _, rfl⟩ := List.mem_map.1 hr
      rfl
    · rw [List.getElem?_map, Option.map_eq_some_iff] at hi
      obtain ⟨s, hs, rfl⟩ := hi
      rw [← hgv] at hs
      have hil : i < ss.length := (List.getElem?_eq_some_iff.1 hs).1
      have hj0 : j = 0 := by
        cases j with
        | zero => rfl
        | succ j => simp [ZL.c_str] at hj
      subst hj0
      have := hcell i hil
      rw [← this]
      unfold Addr.add
      split
      · rename_i h0; subst h0; rfl
      · simp
    · rw [List.getElem?_map, Option.map_eq_some_iff] at hi
      obtain ⟨s, hs, rfl⟩ := hi
      rw [← hgv] at hs
      have hj0 : j = 0 := by
        cases j with
        | zero => rfl
        | succ j => simp [ZL.c_str] at hj
      subst hj0
      have hc : c = .str s := by simpa [ZL.c_str] using hj.symm
      subst hc
      have : ss.getD i ByteArray.empty = s := by rw [List.getD_eq_getElem?_getD, hs]; rfl
      rw [this]
      exact .str s
    · rw [List.getElem?_map, Option.map_eq_some_iff] at hi
      obtain ⟨s, hs, rfl⟩ := hi
      have hj0 : j = 0 := by
        cases j with
        | zero => rfl
        | succ j => simp [ZL.c_str] at hj
      subst hj0
      have hc : c = .str s := by simpa [ZL.c_str] using hj.symm
      subst hc
      rfl
  intro g cs' hg
  have hg' : g = 0 ∧ cs' = [.im false (ZL.gv_0.map ZL.c_str)] := by
    cases g with
    | zero => exact ⟨rfl, (Option.some.inj hg).symm⟩
    | succ g => cases hg
  obtain ⟨rfl, rfl⟩ := hg'
  refine CV.rf _ 0 0 (fun _ => .slice (some ⟨b, off, none⟩) 4 cap) (cell_block hv0).2 (fun j c hj => ?_) (fun j c hj => ?_) (fun j c hj => ?_)
  all_goals
    cases j with
    | succ j => simp at hj
    | zero =>
      simp only [List.getElem?_cons_zero, Option.some.injEq] at hj
      subst hj
      first | exact hv0 | exact key | rfl

theorem walk (w : World) (us : Array Value) (cs : List V) (hG : GlobOk (fun b => b < w.heap.size) w) (h : Opened Tryz.prog w [22] us.toList cs) :
    Calls Tryz.prog 3 us w fun e w' => e = .returned (.bool true) ∧ Below w.heap.size w w' := by
  obtain ⟨ul⟩ := us
  change Opened Tryz.prog w [22] ul cs at h
  have hg := h.get
  cases h with | cons s0 _ h =>
  cases h
  obtain ⟨bs, rfl, l0, k0⟩ := shp_slice (f := ZL.c_int .u8) (ok := fun x => 0 ≤ x ∧ x ≤ 255) Tryz.underlying22 (fun vs h => by
    obtain ⟨n, rfl, hw⟩ := shp_int Tryz.underlying5 h
    refine ⟨n, rfl, ?_⟩
    have := hw
    simp [Lit.wf, IntKind.min, IntKind.max, IntKind.bits, IntKind.signed] at this
    omega) s0
  refine walk_any (avs := [.im false (bs.map (ZL.c_int .u8))]) (ZL.laws_FnLinked_p false (ZL.law (code := bs) k0)) hG (by simp) fun i c u hc hu => ?_
  refine hg.2 i c u ?_ (by simpa using hu)
  rw [← hc]
  simp [argV, Tryz.underlying22]

/-- A world that meets the condition. -/
noncomputable abbrev N0 : Nat := (World.settled Tryz.prog default).heap.size
noncomputable def laidWorld (os : Os) : World :=
  let N := (World.settled Tryz.prog os).heap.size
  let w0 := World.holding Tryz.prog os ⟨#[.cells #[.string (ByteArray.mk #[112, 114, 105, 110, 99, 105, 112, 97, 108]), .string (ByteArray.mk #[97, 99, 116, 105, 111, 110]), .string (ByteArray.mk #[114, 101, 115, 111, 117, 114, 99, 101]), .string (ByteArray.mk #[99, 111, 110, 116, 101, 120, 116])] 9], #[], []⟩
  { w0 with heap := w0.heap.modify 0 fun
      | .cells _ t frozen => .cells #[.slice (some ⟨N, 0, none⟩) 4 4] t frozen
      | o => o }
theorem laid_met (os : Os) (args : Array Value) : laidMetH Tryz.prog Rows.fnLinkedRow.laid ((laidWorld os).forCall (fun _ _ => 0) ⟨#[], args, []⟩).memory := by
  have h : LaidIn Tryz.prog ((laidWorld os).forCall (fun _ _ => 0) ⟨#[], args, []⟩).memory Rows.fnLinkedRow.laid [0, N0] :=
    LaidIn.of_run [0, N0] 8 (by kernel_rfl) (by kernel_rfl) (by kernel_rfl) (by kernel_rfl)
  exact h.met

theorem vars_stay {H : Type} {enc : TypeId × Value → H} {W W' : World} {gs : List (DataW H)} {q : List MemPlace} (hb : Below W.heap.size W W') (h : DataW.TrodVars enc Tryz.prog W (fun _ => true) ["loop.example/g00036/impl.yvars"] gs q) :
    ∃ g, gs = [g] ∧ DataW.TrodVars enc Tryz.prog W' (fun b => decide (b < W.heap.size)) ["loop.example/g00036/impl.yvars"] [g] q := by
  obtain ⟨g, t, cs, fuel, d, p, rfl, h1, h2, h3, h4, rfl⟩ := trodVars_one h
  have eg : g = 0 := Option.some.inj (h1.symm.trans gname)
  subst eg
  have et : t = 50 := Option.some.inj (h2.symm.trans gtype)
  subst et
  have hlt : ∀ x ∈ p, x.block < W.heap.size := DataW.trod_lt fuel _ _ _ h4
  have h4' := DataW.trod_stays (w' := W') (sp' := fun b => decide (b < W.heap.size)) (kids_book laidOut (show Tryz.prog.readableRec 50 = true by kernel_rfl)) (book_sized (show Tryz.prog.readableRec 50 = true by kernel_rfl)) (fun h => by cases h)
    ⟨show 50 < Tryz.prog.types.size by exact of_decide_eq_true (by kernel_rfl), book_self 50⟩ h4 (fun x hx => hb.same (hlt x hx)) (fun x hx => by simpa using hlt x hx)
  have hblk : W.heap[0]? ≠ none := fun hn => by
    simp only [World.var?, gname, Option.bind_some, hn] at h3
    cases h3
  have h0 : 0 < W.heap.size := by
    rcases Nat.eq_zero_or_pos W.heap.size with e | e
    · exact absurd (by simp [e]) hblk
    · exact e
  have h3' : W'.var? Tryz.prog "loop.example/g00036/impl.yvars" = some cs := by
    simp only [World.var?, gname, Option.bind_some] at h3 ⊢
    rw [hb.block 0 h0]
    exact h3
  exact ⟨d, rfl, trodVars_mk1 gname h2 h3' h4'⟩

set_option maxRecDepth 100000 in
theorem witness (os : Os) {H : Type} (enc : TypeId × Value → H) : ∃ (w : World) (tape : Tape) (i : Input), w.os = os ∧ (w.forCall tape i).Shaped Tryz.checked.prog ∧ i.vars = [] ∧ Input.okWide Tryz.checked.prog (w.forCall tape i) .any w.heap.size 3 i ∧
      ((Rows.fnLinkedSpec.pre enc Tryz.checked.prog Tryz.f3 Rows.fnLinkedRow.domain false (w.forCall tape i).memory i.args ∧ laidMetH Tryz.prog Rows.fnLinkedRow.laid (w.forCall tape i).memory) ∧ sizedMet enc Tryz.checked.prog Tryz.f3 (OpenSpec.ofChange Rows.fnLinkedSpec) false (w.forCall tape i).memory i.args) ∧
      ({ } : Assume).holds Tryz.checked.prog (lone (Frame.enter Tryz.checked.prog 3 i.args .normal) [] (w.forCall tape i)) := by
  have hok : Input.okWideB Tryz.checked.prog ((laidWorld os).forCall (fun _ _ => 0) ⟨#[], #[.slice none 0 0], []⟩) 3 ⟨#[], #[.slice none 0 0], []⟩ = true := by kernel_rfl
  have hpre : Rows.fnLinkedSpec.preB enc Tryz.checked.prog Tryz.f3 Rows.fnLinkedRow.domain false ((laidWorld os).forCall (fun _ _ => 0) ⟨#[], #[.slice none 0 0], []⟩).memory #[.slice none 0 0] 8 = true := by kernel_rfl
  have hsz : Rows.fnLinkedSpec.sizedB enc Tryz.checked.prog Tryz.f3 false ((laidWorld os).forCall (fun _ _ => 0) ⟨#[], #[.slice none 0 0], []⟩).memory #[.slice none 0 0] 8 = true := by kernel_rfl
  exact ⟨laidWorld os, fun _ _ => 0, ⟨#[], #[.slice none 0 0], []⟩, rfl, World.shaped_of_RefB (by kernel_rfl) (by kernel_rfl), (Input.okWide_of_okWideB (base := 0) hok).1, (Input.okWide_of_okWideB hok).2, ⟨⟨ChangeSpec.pre_of_preB hpre, laid_met os _⟩, sizedMet_of_sizedB hsz⟩, by
    simp only [Assume.holds]
    exact ⟨by simp, by simp, fun _ => Modest.zero, by simp, by simp⟩⟩
set_option maxRecDepth 100000 in
theorem lifted (os : Os) (started : os.Started) (H : Type) (enc : TypeId × Value → H) :
    ReturnsInHanded {} Tryz.checked os 3 .any (fun w args => (Rows.fnLinkedSpec.pre enc Tryz.prog Tryz.f3 Rows.fnLinkedRow.domain false w args ∧ laidMetH Tryz.prog Rows.fnLinkedRow.laid w) ∧ sizedMet enc Tryz.prog Tryz.f3 (OpenSpec.ofChange Rows.fnLinkedSpec) false w args)
      (Rows.fnLinkedSpec.post enc Tryz.prog Tryz.f3 false true false false) := by
  refine returnsInHanded_of_change_and (C := Tryz.checked) (X := fun w _ => laidMetH Tryz.prog Rows.fnLinkedRow.laid w) (fun _ _ _ hh h => h.of_heap hh) own started (by kernel_rfl) Tryz.func3
    (witness os enc) ?_
  intro W base args ds gs before hval0 hW hcnd _ hL _
  have hval : ∀ (j : Nat) t v, Tryz.f3.params[j]? = some t → args[j]? = some v → Value.okWide Tryz.prog W .any base t v := hval0
  have hW' := hW
  obtain ⟨p, q, hA0, hV, rfl, hfz, hnd⟩ := hW
  have hA : DataW.TrodAll enc Tryz.prog W 0 (fun _ => true) true Tryz.f3.params.toList args.toList ds p := hA0
  obtain ⟨cs, ho⟩ := opened (H := H) (enc := enc) tysOk Tryz.f3.params.toList args.toList ds p (by kernel_rfl) (fun j t v h1 h2 => hval j t v (by simpa using h1) (by simpa using h2)) hA
  have hw := walk W args cs (glob hL) ho
  have hlen := (trodAll_len hA).1
  match ds, hlen with
  | [d0], _ =>
  refine hw.mono fun e W' ⟨he, bel⟩ => ?_
  subst he
  obtain ⟨g, rfl, hv⟩ := vars_stay bel hV
  exact ⟨_, rfl, _, _, _, [], _, _, hW', trodAll_mk1 (shut_bool Tryz.underlying4 _), (trodAll_stays laidOut bel _ _ _ _ (by kernel_rfl) hA), hv, bel.frame _, fun h => by cases h⟩

theorem proved : Rows.FnLinkedSaid :=
  OpenClaim.holds_of_wide 3 Tryz.f3 rfl rfl rfl rfl rfl rfl rfl ⟨rfl, rfl, rfl, rfl, rfl⟩ rfl rfl rfl rfl rfl (by kernel_rfl) Tryz.func3 (by kernel_rfl)
    (of_decide_eq_true (by kernel_rfl)) (by unfold Func.isWrapper; first | (rw [if_pos (by decide +kernel)]; kernel_rfl) | (rw [if_neg (by decide +kernel)]; exact ⟨rfl, rfl⟩))
    (fun os started H enc _ => lifted os started H enc)

theorem card : Rows.FnLinkedCardSaid :=
  Claim7.holds_tied_plain_at .later [] [.widerDeep] true (true, "4cdd4b8fba197521823a9ec988abab7212a861545cd6b87022a5b579d440095b") false
    proved (fun _ h => by cases h) (by kernel_rfl) (fun _ h => by cases h) fnLinked_row_tie rfl ⟨rfl, rfl⟩ (by kernel_rfl) rfl
    (fun f fn hf hfn => by
      obtain rfl : f = 3 := Option.some.inj ((show Tryz.prog.funcNamed "loop.example/g00036/laws.FnLinked" = some 3 by kernel_rfl).symm.trans hf) |>.symm
      obtain rfl : fn = Tryz.f3 := (Option.some.inj (Tryz.func3.symm.trans hfn)).symm
      exact ⟨by kernel_rfl, fun j t ht => by
        rw [Tryz.params3] at ht
        have h22 : t = 22 := by
          rcases j with _ | j
          · simpa using ht.symm
          · simp at ht
        subst h22
        exact (show Tryz.prog.wantsStandIn 22 = false by kernel_rfl)⟩)
    (by kernel_rfl)
#print axioms card
end Go.Proofs.YtnndbiialpaccaaGreatDoor.fnLinked
