/- Conversions of the abstract state; garbage dropped; calls. -/
import Derived.Test.YtmlfbendohecmaaKi
namespace Go.G36
variable [Genv]
set_option linter.all false
open Go

/-! ### Conversions -/
def Cs (N n : Nat) (fr : Fr) (σ : ASt) (fr' : Fr) (σ' : ASt) : Prop := ∀ (S B : Nat → Prop) (ι : List Loc) (a : Act) (w : World), Rel S B ι n fr σ a w → ∃ S' ι', Rel S' B ι' n fr' σ' a w ∧ FwN N S ι σ w S' ι' σ' w

theorem T.conv {N : Nat} {P : Program} {n : Nat} {c : Code} {fr fr' : Fr} {σ σ' : ASt} {Q : Post} (hc : Cs N n fr σ fr' σ') (h : T P N n c fr' σ' Q) : T P N n c fr σ Q := fun S B ι a w hr => by
  obtain ⟨S', ι', h1, h2⟩ := hc S B ι a w hr
  exact wp_mono (h S' B ι' a w h1) (QT.fw h2)
theorem TL.conv {N : Nat} {P : Program} {n : Nat} {ops : Array Oper} {l : List Oper} {fr fr' : Fr} {σ σ' : ASt} {Q : Post} (hc : Cs N n fr σ fr' σ') (h : TL P N n ops l fr' σ' Q) : TL P N n ops l fr σ Q := fun S B ι a w hr => by
  obtain ⟨S', ι', h1, h2⟩ := hc S B ι a w hr
  exact wpList_mono2 (QT.fw h2) l _ _ (h S' B ι' a w h1)
theorem Cs.trans {N : Nat} {n : Nat} {fr fr' fr'' : Fr} {σ σ' σ'' : ASt} (h : Cs N n fr σ fr' σ') (k : Cs N n fr' σ' fr'' σ'') : Cs N n fr σ fr'' σ'' := fun S B ι a w hr => by
  obtain ⟨S', ι', h1, h2⟩ := h S B ι a w hr
  obtain ⟨S'', ι'', h3, h4⟩ := k S' B ι' a w h1
  exact ⟨S'', ι'', h3, h2.trans h4⟩
/-- A slot's value told otherwise. -/
theorem Rel.retell {S B : Nat → Prop} {ι : List Loc} {n : Nat} {fr : Fr} {σ : ASt} {a : Act} {w : World} (h : Rel S B ι n fr σ a w) {t : Nat} {v : V} (hv : Val S B (RefR ι σ) w v (a.tmps.getD t undef)) :
    Rel S B ι n ((t, v) :: fr) σ a w := ⟨h.size, h.dfr, fun t' v' hl => by
  simp only [lk] at hl
  split at hl
  · rename_i he
    injection hl with hl; subst hl
    rw [← Nat.eq_of_beq_eq_true he]; exact hv
  · exact h.fr t' v' hl, h.mem⟩

/-- A nil slice of the call's own becomes an array of the store, with nothing in it. -/
theorem Cs.own {N : Nat} {n t : Nat} {fr : Fr} {σ : ASt} (sz : Nat) (ht : lk fr t = some .nilS) (hs : 0 < sz) : Cs N n fr σ ((t, .hd σ.length 0 0 0) :: fr) (σ ++ [.arr .clo sz []]) := fun S B ι a w hr => by
  obtain ⟨hm', hf⟩ := hr.mem.push (Grown.refl w) (.arr .clo sz []) (.row (.slice none 0 0)) (fun b hb => by simp [live, Loc.block, Value.ownBlock] at hb)
    ⟨hs, 0, [], ⟨by simp, .inl ⟨rfl, rfl⟩⟩, ⟨by simp, fun row h => by simp at h, fun i j row c h => by simp at h⟩, fun u h => by simp at h, (fun h => by cases h), fun _ h => by cases h⟩
  refine ⟨S, _, (hr.fw hf hm').retell (.ref _ _ ?_), hf.toN⟩
  have hu : a.tmps.getD t undef = .slice none 0 0 := (hr.fr t _ ht).inv_nilS
  rw [hu]
  simp [RefR, hr.mem.len]

/-- What is read of a frozen array may be told by its content. -/
theorem frz_val {S B : Nat → Prop} {ι : List Loc} {σ : ASt} {w : World} {p L off len sz : Nat} {xs : List (List V)} {u : Value} (hm : Mem S B ι σ w) (hs : σ[p]? = some (.arr .frz sz xs)) (hL : xs.length = L)
    (h : Val S B (RefR ι σ) w (.hd p L off len) u) : Val S B (RefR ι σ) w (.im false ((xs.drop off).take len)) u := by
  have hsr : srcRows σ (.hd p L off len) = some ((xs.drop off).take len) := by
    simp only [srcRows, hs]
    have : Nat.beq xs.length L = true := by rw [hL]; exact Nat.beq_refl L
    rw [this]
  obtain ⟨A, cap, esz, vals, h1, h2, h3, h4⟩ := src_val hm h hsr
  obtain ⟨v, hι, hle, hz, hnz⟩ := RefR.hd (Val.inv_ref (v := .hd p L off len) rfl trivial h) hs hL
  obtain ⟨_, e, vals0, hown, _, _, hfz⟩ := hm.obj p _ _ hs hι
  subst h1
  refine .cv _ _ (.im _ A cap esz vals h2 (fun hne => ?_) (fun i j row c hi hj => (h4 i j row c hi hj).1) fun i j row c hi hj => (h4 i j row c hi hj).1.one' (h4 i j row c hi hj).2)
  obtain ⟨b, o2, rfl, h6, h7, h8⟩ := h3 hne
  refine ⟨b, o2, rfl, ?_, h7, h8⟩
  have hlen : ((xs.drop off).take len).length ≠ 0 := fun h => hne (List.eq_nil_of_length_eq_zero h)
  have hlen0 : len ≠ 0 := fun h => hlen (by simp [h])
  by_cases ho : off = 0
  · obtain ⟨A', c, hv, hu⟩ := hz ho
    injection hu with hu
    subst hu
    exact hfz.1 rfl b (by rw [hv]; rfl)
  · obtain ⟨b', c, A', c', hv, hu, _, hA⟩ := hnz ho
    injection hu with hu
    have := hA hlen0
    rw [← hu] at this
    injection this with this
    injection this with this
    subst this
    exact hfz.1 rfl b (by rw [hv]; rfl)

theorem Cs.tell {N : Nat} {n t p L off len sz : Nat} {fr : Fr} {σ : ASt} {xs : List (List V)} (ht : lk fr t = some (.hd p L off len)) (hs : σ[p]? = some (.arr .frz sz xs)) (hL : xs.length = L) :
    Cs N n fr σ ((t, .im false ((xs.drop off).take len)) :: fr) σ := fun S B ι a w hr => ⟨S, ι, hr.retell (frz_val hr.mem hs hL (hr.fr t _ ht)), (Fw.refl _ _ _ _).toN⟩

theorem Mem.freeze {S B : Nat → Prop} {ι : List Loc} {σ : ASt} {w : World} {p sz : Nat} {xs : List (List V)} (hm : Mem S B ι σ w) (hs : σ[p]? = some (.arr .clo sz xs)) :
    ∃ S', Mem S' B ι (σ.set p (.arr .frz sz xs)) w ∧ Fw S ι σ w S' ι (σ.set p (.arr .frz sz xs)) w := by
  have hlt : p < ι.length := by rw [hm.len]; exact (List.getElem?_eq_some_iff.1 hs).1
  have hι : ι[p]? = some ι[p] := by simp [hlt]
  have hobj := hm.obj p _ _ hs hι
  have hsf : sameForm (.arr .clo sz xs) (.arr .frz sz xs) := ⟨rfl, rfl⟩
  generalize ι[p] = l at hι hobj
  cases l with
  | row v =>
    obtain ⟨h0, e, vals, hown, hrows, hone, _⟩ := hobj
    have href : ∀ v0 u, RefR ι σ v0 u → RefR (ι.set p (.row v)) (σ.set p (.arr .frz sz xs)) v0 u := fun _ _ h => h.set hs hι hsf
    have hstep := hm.step (o' := .arr .frz sz xs) (l' := .row v) (S' := fun b => S b ∨ v.ownBlock = some b) (w' := w) hs hι rfl rfl rfl (Nat.le_refl _) (fun _ _ _ => rfl) (fun b h => .inl h)
      (fun b h => by
        rcases h with h | h
        · exact .inl h
        · exact .inr (.inl ⟨h, by simp [live]⟩))
      (fun b h => by
        rcases h with h | h
        · exact hm.ltS b (.inl h)
        · exact ownsRow_lt hown h)
      href
      ⟨h0, e, vals, hown, ⟨hrows.1, hrows.2.1, fun i j row c hi hj => by
        obtain ⟨u, h1, h2⟩ := hrows.2.2 i j row c hi hj
        exact ⟨u, h1, CV.mono h2 (fun b h => .inl h) fun _ _ => rfl⟩⟩, hone, (fun _ b hb => .inr hb), fun _ h => by cases h⟩
      (fun b hb => by simp [live] at hb)
    rw [set_same hι] at hstep
    exact ⟨_, hstep.1, hstep.2⟩
  | box b => exact hobj.elim
  | map r => exact hobj.elim
  | it r9 m9 => exact hobj.elim
  | fam bs0 => exact hobj.elim
  | afm vs0 => exact hobj.elim

/-- An array of the store is frozen, and what a slot has of it is told by its content. -/
theorem Cs.freeze {N : Nat} {n t p L off len sz : Nat} {fr : Fr} {σ : ASt} {xs : List (List V)} (ht : lk fr t = some (.hd p L off len)) (hs : σ[p]? = some (.arr .clo sz xs)) (hL : xs.length = L) :
    Cs N n fr σ ((t, .im false ((xs.drop off).take len)) :: fr) (σ.set p (.arr .frz sz xs)) := fun S B ι a w hr => by
  obtain ⟨S', hm', hf⟩ := hr.mem.freeze hs
  have hr' := hr.fw hf hm'
  exact ⟨S', ι, hr'.retell (frz_val hm' (List.getElem?_set_self (List.getElem?_eq_some_iff.1 hs).1) hL (hr'.fr t _ ht)), hf.toN⟩

/-! ### Garbage -/
theorem bels_iff {N : Nat} {cs : List V} : bels N cs = true ↔ ∀ c, c ∈ cs → bel N c = true := by
  induction cs with
  | nil => simp [bels]
  | cons x r ih => simp [bels, ih]

theorem CV.bel {S : Nat → Prop} {w : World} {v : V} {u : Value} (h : CV S w v u) (N : Nat) : bel N v = true := by
  induction h with
  | agg cs us hl _ ih =>
    simp only [G36.bel]
    rw [bels_iff]
    intro c hc
    obtain ⟨i, hi, rfl⟩ := List.mem_iff_getElem.1 hc
    exact ih i _ us[i] (by simp) (by simp)
  | tup cs us hl _ ih =>
    simp only [G36.bel]
    rw [bels_iff]
    intro c hc
    obtain ⟨i, hi, rfl⟩ := List.mem_iff_getElem.1 hc
    exact ih i _ us[i] (by simp) (by simp)
  | _ => simp [G36.bel]

theorem RefR.lt {ι : List Loc} {σ : ASt} {v : V} {u : Value} (h : RefR ι σ v u) : bel σ.length v = true := by
  have lt : ∀ a : Nat, ¬ a < σ.length → σ[a]? = none := fun a ha => List.getElem?_eq_none (by omega)
  cases v with
  | hd a L off len =>
    by_cases ha : a < σ.length
    · simpa [bel, Nat.blt_eq] using ha
    · simp [RefR, lt a ha] at h
  | bx a j =>
    by_cases ha : a < σ.length
    · simpa [bel, Nat.blt_eq] using ha
    · simp [RefR, lt a ha] at h
  | el a L i j =>
    by_cases ha : a < σ.length
    · simpa [bel, Nat.blt_eq] using ha
    · simp [RefR, lt a ha] at h
  | px a L k' j =>
    by_cases ha : a < σ.length
    · simpa [bel, Nat.blt_eq] using ha
    · simp [RefR, lt a ha] at h
  | mp a =>
    by_cases ha : a < σ.length
    · simpa [bel, Nat.blt_eq] using ha
    · simp [RefR, lt a ha] at h
  | _ => exact h.elim

theorem Val.bel {S B : Nat → Prop} {ι : List Loc} {σ : ASt} {w : World} {v : V} {u : Value} (h : Val S B (RefR ι σ) w v u) : bel σ.length v = true := by
  induction h with
  | any u => rfl
  | cv v u h => exact h.bel _
  | agg cs us hl _ ih =>
    simp only [G36.bel]
    rw [bels_iff]
    intro c hc
    obtain ⟨i, hi, rfl⟩ := List.mem_iff_getElem.1 hc
    exact ih i _ us[i] (by simp) (by simp)
  | tup cs us hl _ ih =>
    simp only [G36.bel]
    rw [bels_iff]
    intro c hc
    obtain ⟨i, hi, rfl⟩ := List.mem_iff_getElem.1 hc
    exact ih i _ us[i] (by simp) (by simp)
  | fn f first caps us ws h1 h2 _ _ ih1 ih2 =>
    simp only [G36.bel, Bool.and_eq_true]
    rw [bels_iff, bels_iff]
    refine ⟨fun c hc => ?_, fun c hc => ?_⟩
    · obtain ⟨i, hi, rfl⟩ := List.mem_iff_getElem.1 hc
      exact ih1 i _ us[i] (by simp) (by simp)
    · obtain ⟨i, hi, rfl⟩ := List.mem_iff_getElem.1 hc
      exact ih2 i _ ws[i] (by simp) (by simp)
  | imB => rfl
  | rfB => rfl
  | ref v u h => exact h.lt

theorem RefR.take {ι : List Loc} {σ g : ASt} {v : V} {u : Value} (h : RefR ι (σ ++ g) v u) (hb : bel σ.length v = true) : RefR (ι.take σ.length) σ v u := by
  have key : ∀ a : Nat, Nat.blt a σ.length = true → (σ ++ g)[a]? = σ[a]? ∧ (ι.take σ.length)[a]? = ι[a]? := fun a ha => by
    have ha : a < σ.length := by simpa [Nat.blt_eq] using ha
    exact ⟨List.getElem?_append_left ha, by rw [List.getElem?_take, if_pos ha]⟩
  cases v with
  | hd a L off len =>
    simp only [bel] at hb
    simp only [RefR, (key a hb).1, (key a hb).2] at h ⊢; exact h
  | bx a j =>
    simp only [bel] at hb
    simp only [RefR, (key a hb).1, (key a hb).2] at h ⊢; exact h
  | el a L i j =>
    simp only [bel] at hb
    simp only [RefR, (key a hb).1, (key a hb).2] at h ⊢; exact h
  | px a L k' j =>
    simp only [bel] at hb
    simp only [RefR, (key a hb).1, (key a hb).2] at h ⊢; exact h
  | mp a =>
    simp only [bel] at hb
    simp only [RefR, (key a hb).1, (key a hb).2] at h ⊢; exact h
  | _ => exact h

theorem Val.take {S B : Nat → Prop} {ι : List Loc} {σ g : ASt} {w : World} {v : V} {u : Value} (h : Val S B (RefR ι (σ ++ g)) w v u) (hb : G36.bel σ.length v = true) : Val S B (RefR (ι.take σ.length) σ) w v u := by
  induction h with
  | any u => exact .any u
  | cv v u h => exact .cv _ _ h
  | agg cs us hl _ ih =>
    simp only [G36.bel] at hb
    rw [bels_iff] at hb
    exact .agg cs us hl fun i c u hc hu => ih i c u hc hu (hb c (List.mem_of_getElem? hc))
  | tup cs us hl _ ih =>
    simp only [G36.bel] at hb
    rw [bels_iff] at hb
    exact .tup cs us hl fun i c u hc hu => ih i c u hc hu (hb c (List.mem_of_getElem? hc))
  | fn f first caps us ws h1 h2 _ _ ih1 ih2 =>
    simp only [G36.bel, Bool.and_eq_true] at hb
    rw [bels_iff, bels_iff] at hb
    exact .fn f first caps us ws h1 h2 (fun i c u hc hu => ih1 i c u hc hu (hb.1 c (List.mem_of_getElem? hc))) fun i c u hc hu => ih2 i c u hc hu (hb.2 c (List.mem_of_getElem? hc))
  | imB xs A cap esz vals hc hA hv ho => exact .imB xs A cap esz vals hc hA hv ho
  | rfB cells b off vals hb' hc hv ho => exact .rfB cells b off vals hb' hc hv ho
  | ref v u h => exact .ref _ _ (h.take hb)

def belO (N : Nat) : AO → Prop
  | .arr .raw _ xs => ∀ row, row ∈ xs → ∀ c, c ∈ row → bel N c = true
  | .box cs => ∀ c, c ∈ cs → bel N c = true
  | .mp es => ∀ e, e ∈ es → bel N e.2 = true
  | .fam xs => ∀ row, row ∈ xs → ∀ c, c ∈ row → bel N c = true
  | _ => True

theorem ObjRep.bel {S B : Nat → Prop} {ι : List Loc} {σ : ASt} {w : World} {o : AO} {l : Loc} (h : ObjRep S B (RefR ι σ) w o l) : belO σ.length o := by
  cases o with
  | arr m size xs =>
    cases m with
    | raw =>
      cases l with
      | row v =>
        obtain ⟨_, e, vals, _, ⟨_, _, hc⟩, _⟩ := h
        intro row hrow c hcc
        obtain ⟨i, hi, rfl⟩ := List.mem_iff_getElem.1 hrow
        obtain ⟨j, hj, rfl⟩ := List.mem_iff_getElem.1 hcc
        obtain ⟨u, _, h2⟩ := hc i j xs[i] xs[i][j] (by simp) (by simp)
        exact Val.bel h2
      | box b => exact h.elim
      | map r => exact h.elim
      | it r9 m9 => exact h.elim
      | fam bs0 => exact h.elim
      | afm vs0 => exact h.elim
    | clo => trivial
    | tg t0 => trivial
    | frz => trivial
  | box cs =>
    cases l with
    | box b =>
      obtain ⟨us, _, ⟨h1, h2⟩, _⟩ := h
      intro c hc
      obtain ⟨i, hi, rfl⟩ := List.mem_iff_getElem.1 hc
      exact (h2 i cs[i] (us.toList[i]'(by rw [← h1]; exact hi)) (by simp) (List.getElem?_eq_getElem _)).bel
    | row v => exact h.elim
    | map r => exact h.elim
    | it r9 m9 => exact h.elim
    | fam bs0 => exact h.elim
    | afm vs0 => exact h.elim
  | mp es =>
    cases l with
    | map r =>
      obtain ⟨en, clock, _, h1, _, h2⟩ := h
      intro e he
      obtain ⟨i, hi, rfl⟩ := List.mem_iff_getElem.1 he
      exact (h2 i es[i].1 es[i].2 (en[i]'(by rw [h1]; exact hi)) (List.getElem?_eq_getElem hi) (Array.getElem?_eq_getElem _)).2.bel
    | it r m =>
      obtain ⟨_, en, clock, seen, c0, _, _, _, _, h1, h2⟩ := h
      intro e he
      obtain ⟨i, hi, rfl⟩ := List.mem_iff_getElem.1 he
      exact (h2 i es[i].1 es[i].2 ((c0 :: restOf en seen)[i]'(by rw [h1]; exact hi)) (List.getElem?_eq_getElem hi) (List.getElem?_eq_getElem _)).2.bel
    | row v => exact h.elim
    | box b => exact h.elim
    | fam bs0 => exact h.elim
    | afm vs0 => exact h.elim
  | dead => trivial
  | res => trivial
  | fam xs =>
    cases l with
    | fam bs =>
      obtain ⟨h1, _, h2⟩ := h
      intro row hrow c hcc
      obtain ⟨i, hi, rfl⟩ := List.mem_iff_getElem.1 hrow
      obtain ⟨us, _, _, ⟨k1, k2⟩, _⟩ := h2 i (bs[i]'(h1 ▸ hi)) xs[i] (by simp) (by simp)
      obtain ⟨j, hj, rfl⟩ := List.mem_iff_getElem.1 hcc
      exact (k2 j xs[i][j] (us.toList[j]'(by rw [← k1]; exact hj)) (by simp) (List.getElem?_eq_getElem _)).bel
    | row v => exact h.elim
    | box b' => exact h.elim
    | map r => exact h.elim
    | it r9 m9 => exact h.elim
    | afm vs0 => exact h.elim
  | afm size xs => trivial
end Go.G36
