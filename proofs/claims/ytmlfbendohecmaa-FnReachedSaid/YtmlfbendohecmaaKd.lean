/- How memory that holds the store changes: a new block, a new object, an object that is written. -/
import Derived.Test.YtmlfbendohecmaaKc
namespace Go.G36
variable [Genv]
set_option linter.all false
open Go

theorem ObjRep.mono {S S' B : Nat → Prop} {R R' : V → Value → Prop} {w w' : World} {o : AO} {l : Loc} (h : ObjRep S B R w o l) (hS : ∀ b, S b → S' b) (hR : ∀ v u, R v u → R' v u)
    (hw : ∀ b, S b ∨ B b → w'.heap[b]? = w.heap[b]?) (hl : ∀ b, live o l b → w'.heap[b]? = w.heap[b]?) : ObjRep S' B R' w' o l := by
  cases o with
  | arr m size xs =>
    cases l with
    | row v =>
      obtain ⟨h1, e, vals, hown, ⟨h2, h3, h4⟩, h5, h6⟩ := h
      have hb : ∀ g, v.ownBlock = some g → w'.heap[g]? = w.heap[g]? := fun g hg => by
        cases m with
        | frz => exact hw g (.inl (h6.1 rfl g hg))
        | clo => exact hl g (by simpa [live, Loc.block] using hg)
        | tg t0 => exact hl g (by simpa [live, Loc.block] using hg)
        | raw => exact hl g (by simpa [live, Loc.block] using hg)
      refine ⟨h1, e, vals, ⟨hown.1, ?_⟩, ⟨h2, h3, fun i j row c hi hj => ?_⟩, h5, fun hm b hb' => hS b (h6.1 hm b hb'), h6.2⟩
      · rcases hown.2 with hn | ⟨g, cap, cur, rfl, hg0, hg, rest⟩
        · exact .inl hn
        · exact .inr ⟨g, cap, cur, rfl, hg0, by rw [hb g rfl]; exact hg, rest⟩
      · obtain ⟨u, h7, h8⟩ := h4 i j row c hi hj
        refine ⟨u, h7, ?_⟩
        cases m with
        | raw => exact Val.mono h8 hS (fun _ h => h) hR hw
        | clo => exact CV.mono h8 hS fun b hb => hw b (.inl hb)
        | tg t0 => exact CV.mono h8 hS fun b hb => hw b (.inl hb)
        | frz => exact CV.mono h8 hS fun b hb => hw b (.inl hb)
    | box b => exact h.elim
    | map r => exact h.elim
    | it r9 m9 => exact h.elim
    | fam bs0 => exact h.elim
    | afm vs0 => exact h.elim
  | box cs =>
    cases l with
    | box b =>
      obtain ⟨us, hh, ⟨h1, h2⟩, h3⟩ := h
      exact ⟨us, by rw [hl b rfl]; exact hh, ⟨h1, fun i c u hc hu => (h2 i c u hc hu).mono hS (fun _ h => h) hR hw⟩, h3⟩
    | row v => exact h.elim
    | map r => exact h.elim
    | it r9 m9 => exact h.elim
    | fam bs0 => exact h.elim
    | afm vs0 => exact h.elim
  | mp es =>
    cases l with
    | map r =>
      obtain ⟨en, clock, hh, h1, hbn, h2⟩ := h
      exact ⟨en, clock, by rw [hl r rfl]; exact hh, h1, hbn, fun i k x m he hm => ⟨(h2 i k x m he hm).1.mono hS fun b hb => hw b (.inl hb), (h2 i k x m he hm).2.mono hS (fun _ h => h) hR hw⟩⟩
    | it r m =>
      obtain ⟨hne, en, clock, seen, c0, hh, hi, hb, hc, h1, h2⟩ := h
      exact ⟨hne, en, clock, seen, c0, by rw [hl m (.inr rfl)]; exact hh, by rw [hl r (.inl rfl)]; exact hi, hb, hc, h1, fun i k x e he hm => ⟨(h2 i k x e he hm).1.mono hS fun b hb => hw b (.inl hb), (h2 i k x e he hm).2.mono hS (fun _ h => h) hR hw⟩⟩
    | row v => exact h.elim
    | box b => exact h.elim
    | fam bs0 => exact h.elim
    | afm vs0 => exact h.elim
  | dead => trivial
  | res => trivial
  | fam xs =>
    cases l with
    | fam bs =>
      obtain ⟨h1, h2, h3⟩ := h
      refine ⟨h1, h2, fun i b cs hb hc => ?_⟩
      obtain ⟨us, e, hh, ⟨k1, k2⟩, k3⟩ := h3 i b cs hb hc
      exact ⟨us, e, by rw [hl b (List.mem_of_getElem? hb)]; exact hh, ⟨k1, fun i c u hc hu => (k2 i c u hc hu).mono hS (fun _ h => h) hR hw⟩, k3⟩
    | row v => exact h.elim
    | box b' => exact h.elim
    | map r => exact h.elim
    | it r9 m9 => exact h.elim
    | afm vs0 => exact h.elim
  | afm size xs =>
    cases l with
    | afm vs =>
      obtain ⟨h1, h2, h3, h4⟩ := h
      refine ⟨h1, h2, h3, fun k v rows hv hr => ?_⟩
      obtain ⟨e, vals, hown, ⟨k1, k2, k3⟩, k4⟩ := h4 k v rows hv hr
      refine ⟨e, vals, ⟨hown.1, ?_⟩, ⟨k1, k2, fun i j row c hi hj => ?_⟩, k4⟩
      · rcases hown.2 with hn | ⟨g, cap, cur, rfl, hg0, hg, rest⟩
        · exact .inl hn
        · exact .inr ⟨g, cap, cur, rfl, hg0, by rw [hl g ⟨k, _, rows, hv, hr, rfl⟩]; exact hg, rest⟩
      · obtain ⟨u, h7, h8⟩ := k3 i j row c hi hj
        exact ⟨u, h7, CV.mono h8 hS fun b hb => hw b (.inl hb)⟩
    | row v => exact h.elim
    | box b' => exact h.elim
    | map r => exact h.elim
    | it r9 m9 => exact h.elim
    | fam bs0 => exact h.elim

theorem RefR.append {ι : List Loc} {σ : ASt} (hlen : ι.length = σ.length) (ls : List Loc) (os : ASt) {v : V} {u : Value} (h : RefR ι σ v u) : RefR (ι ++ ls) (σ ++ os) v u := by
  have key : ∀ a : Nat, a < σ.length → (σ ++ os)[a]? = σ[a]? ∧ (ι ++ ls)[a]? = ι[a]? := fun a ha =>
    ⟨List.getElem?_append_left ha, List.getElem?_append_left (hlen ▸ ha)⟩
  have lt : ∀ a : Nat, ¬ a < σ.length → σ[a]? = none := fun a ha => List.getElem?_eq_none (by omega)
  cases v with
  | hd a L off len =>
    by_cases ha : a < σ.length
    · simp only [RefR, (key a ha).1, (key a ha).2] at h ⊢; exact h
    · simp [RefR, lt a ha] at h
  | bx a j =>
    by_cases ha : a < σ.length
    · simp only [RefR, (key a ha).1, (key a ha).2] at h ⊢; exact h
    · simp [RefR, lt a ha] at h
  | el a L i j =>
    by_cases ha : a < σ.length
    · simp only [RefR, (key a ha).1, (key a ha).2] at h ⊢; exact h
    · simp [RefR, lt a ha] at h
  | px a L k j =>
    by_cases ha : a < σ.length
    · simp only [RefR, (key a ha).1, (key a ha).2] at h ⊢; exact h
    · simp [RefR, lt a ha] at h
  | mp a =>
    by_cases ha : a < σ.length
    · simp only [RefR, (key a ha).1, (key a ha).2] at h ⊢; exact h
    · simp [RefR, lt a ha] at h
  | _ => exact h

/-- The world has grown; what lay there lies there. -/
structure Grown (w w' : World) : Prop where
  os : w'.os = w.os
  tape : w'.tape = w.tape
  output : w'.output = w.output
  size : w.heap.size ≤ w'.heap.size
  block : ∀ b, b < w.heap.size → w'.heap[b]? = w.heap[b]?

theorem Grown.refl (w : World) : Grown w w := ⟨rfl, rfl, rfl, Nat.le_refl _, fun _ _ => rfl⟩
theorem Grown.trans {w w' w'' : World} (h : Grown w w') (k : Grown w' w'') : Grown w w'' :=
  ⟨k.os.trans h.os, k.tape.trans h.tape, k.output.trans h.output, Nat.le_trans h.size k.size, fun b hb => (k.block b (Nat.lt_of_lt_of_le hb h.size)).trans (h.block b hb)⟩
theorem Grown.alloc (w : World) (o : Obj) : Grown w (w.alloc o) := ⟨rfl, rfl, rfl, by simp, fun b hb => heap_alloc_old w o b hb⟩
theorem Grown.drew (w : World) : Grown w w.drew := ⟨rfl, rfl, rfl, Nat.le_refl _, fun _ _ => rfl⟩
/-- New blocks, of which some are told by content. -/
theorem Mem.grow {S B : Nat → Prop} {ι : List Loc} {σ : ASt} {w w' : World} (h : Mem S B ι σ w) (g : Grown w w') (N : Nat → Prop) (hN : ∀ b, N b → w.heap.size ≤ b ∧ b < w'.heap.size) :
    Mem (fun b => S b ∨ N b) B ι σ w' ∧ Fw S ι σ w (fun b => S b ∨ N b) ι σ w' := by
  have same : ∀ b, S b ∨ B b → w'.heap[b]? = w.heap[b]? := fun b hb => g.block b (h.ltS b hb)
  refine ⟨⟨h.len, fun a o l h1 h2 => ?_, h.apart, fun a o l b h1 h2 h3 => ?_, fun b hb => ?_, h.gl.mono (fun b hb => .inl hb) fun b hb => same b (.inl hb)⟩, ⟨g.os, g.tape, g.output, g.size, fun b hb => .inl hb, fun b hb => ?_, fun b hb _ => g.block b hb, fun b hb => .inl hb, fun _ _ h => h⟩⟩
  · exact (h.obj a o l h1 h2).mono (fun b hb => .inl hb) (fun _ _ h => h) same fun b hb => g.block b (live_lt (h.obj a o l h1 h2) hb)
  · have hlt := live_lt (h.obj a o l h1 h2) h3
    have := h.outS a o l b h1 h2 h3
    rintro ((hs | hn) | hb)
    · exact this (.inl hs)
    · have := (hN b hn).1; omega
    · exact this (.inr hb)
  · rcases hb with (hs | hn) | hb
    · exact Nat.lt_of_lt_of_le (h.ltS b (.inl hs)) g.size
    · exact (hN b hn).2
    · exact Nat.lt_of_lt_of_le (h.ltS b (.inr hb)) g.size
  · rcases hb with hs | hn
    · exact .inl hs
    · exact .inr (.inr (hN b hn).1)

/-- A new object in a new block. -/
theorem Mem.push {S B : Nat → Prop} {ι : List Loc} {σ : ASt} {w w' : World} (h : Mem S B ι σ w) (g : Grown w w') (o : AO) (l : Loc) (hl : ∀ b, live o l b → w.heap.size ≤ b)
    (ho : ObjRep S B (RefR (ι ++ [l]) (σ ++ [o])) w' o l) : Mem S B (ι ++ [l]) (σ ++ [o]) w' ∧ Fw S ι σ w S (ι ++ [l]) (σ ++ [o]) w' := by
  have same : ∀ b, S b ∨ B b → w'.heap[b]? = w.heap[b]? := fun b hb => g.block b (h.ltS b hb)
  have split : ∀ (a : Nat) (o' : AO) (l' : Loc), (σ ++ [o])[a]? = some o' → (ι ++ [l])[a]? = some l' → (σ[a]? = some o' ∧ ι[a]? = some l') ∨ (a = σ.length ∧ o' = o ∧ l' = l) := fun a o' l' h1 h2 => by
    rcases Nat.lt_or_ge a σ.length with ha | ha
    · rw [List.getElem?_append_left ha] at h1
      rw [List.getElem?_append_left (h.len ▸ ha)] at h2
      exact .inl ⟨h1, h2⟩
    · have ha2 : a = σ.length := by
        have := (List.getElem?_eq_some_iff.1 h1).1
        simp at this; omega
      subst ha2
      rw [List.getElem?_append_right (Nat.le_refl _)] at h1
      rw [List.getElem?_append_right (by rw [h.len]; exact Nat.le_refl _)] at h2
      simp [h.len] at h1 h2
      exact .inr ⟨rfl, h1.symm, h2.symm⟩
  refine ⟨⟨by simp [h.len], fun a o' l' h1 h2 => ?_, fun a o1 l1 a2 o2 l2 b h1 h2 h3 h4 h5 h6 => ?_, fun a o' l' b h1 h2 h3 => ?_, fun b hb => Nat.lt_of_lt_of_le (h.ltS b hb) g.size, h.gl.mono (fun _ h => h) fun b hb => same b (.inl hb)⟩,
    ⟨g.os, g.tape, g.output, g.size, fun b hb => hb, fun b hb => .inl hb, fun b hb _ => g.block b hb, fun b hb => ?_, fun _ _ hr => hr.append h.len _ _⟩⟩
  · rcases split a o' l' h1 h2 with ⟨h3, h4⟩ | ⟨rfl, rfl, rfl⟩
    · exact (h.obj a o' l' h3 h4).mono (fun _ h => h) (fun _ _ hr => hr.append h.len _ _) same fun b hb => g.block b (live_lt (h.obj a o' l' h3 h4) hb)
    · exact ho
  · rcases split a o1 l1 h1 h2 with ⟨k1, k2⟩ | ⟨rfl, rfl, rfl⟩ <;> rcases split a2 o2 l2 h3 h4 with ⟨k3, k4⟩ | ⟨rfl, rfl, rfl⟩
    · exact h.apart a o1 l1 a2 o2 l2 b k1 k2 k3 k4 h5 h6
    · have := live_lt (h.obj a o1 l1 k1 k2) h5
      have := hl b h6
      omega
    · have := live_lt (h.obj a2 o2 l2 k3 k4) h6
      have := hl b h5
      omega
    · rfl
  · rcases split a o' l' h1 h2 with ⟨k1, k2⟩ | ⟨rfl, rfl, rfl⟩
    · exact h.outS a o' l' b k1 k2 h3
    · intro hb
      have := h.ltS b hb
      have := hl b h3
      omega
  · obtain ⟨a, o', l', h1, h2, h3⟩ := hb
    rcases split a o' l' h1 h2 with ⟨k1, k2⟩ | ⟨rfl, rfl, rfl⟩
    · exact .inl ⟨a, o', l', k1, k2, h3⟩
    · exact .inr (hl b h3)

/-- Object a is written: it becomes o', at l'. -/
theorem Mem.step {S S' B : Nat → Prop} {ι : List Loc} {σ : ASt} {w w' : World} (h : Mem S B ι σ w) {a : Nat} {o o' : AO} {l l' : Loc} (ha : σ[a]? = some o) (hla : ι[a]? = some l)
    (os : w'.os = w.os) (tape : w'.tape = w.tape) (output : w'.output = w.output) (size : w.heap.size ≤ w'.heap.size)
    (hw : ∀ b, b < w.heap.size → ¬ live o l b → w'.heap[b]? = w.heap[b]?)
    (hS : ∀ b, S b → S' b) (hS2 : ∀ b, S' b → S b ∨ (live o l b ∧ ¬ live o' l' b) ∨ w.heap.size ≤ b) (hlt : ∀ b, S' b → b < w'.heap.size)
    (href : ∀ v u, RefR ι σ v u → RefR (ι.set a l') (σ.set a o') v u)
    (hobj : ObjRep S' B (RefR (ι.set a l') (σ.set a o')) w' o' l')
    (hlive : ∀ b, live o' l' b → (live o l b ∨ w.heap.size ≤ b) ∧ ¬ S' b) :
    Mem S' B (ι.set a l') (σ.set a o') w' ∧ Fw S ι σ w S' (ι.set a l') (σ.set a o') w' := by
  have hal : a < σ.length := (List.getElem?_eq_some_iff.1 ha).1
  have hal2 : a < ι.length := (List.getElem?_eq_some_iff.1 hla).1
  have same : ∀ b, S b ∨ B b → w'.heap[b]? = w.heap[b]? := fun b hb => hw b (h.ltS b hb) fun hl => h.outS a o l b ha hla hl hb
  have split : ∀ (q : Nat) (o2 : AO) (l2 : Loc), (σ.set a o')[q]? = some o2 → (ι.set a l')[q]? = some l2 → (q ≠ a ∧ σ[q]? = some o2 ∧ ι[q]? = some l2) ∨ (q = a ∧ o2 = o' ∧ l2 = l') := fun q o2 l2 h1 h2 => by
    by_cases hq : q = a
    · subst hq
      rw [List.getElem?_set_self hal] at h1
      rw [List.getElem?_set_self hal2] at h2
      injection h1 with h1; injection h2 with h2
      exact .inr ⟨rfl, h1.symm, h2.symm⟩
    · rw [List.getElem?_set_ne (Ne.symm hq)] at h1 h2
      exact .inl ⟨hq, h1, h2⟩
  have other : ∀ (q : Nat) (o2 : AO) (l2 : Loc) (b : Nat), q ≠ a → σ[q]? = some o2 → ι[q]? = some l2 → live o2 l2 b → b < w.heap.size ∧ ¬ live o l b ∧ ¬ live o' l' b := fun q o2 l2 b hq h1 h2 h3 => by
    have hlt2 := live_lt (h.obj q o2 l2 h1 h2) h3
    have hne : ¬ live o l b := fun hl => hq (h.apart q o2 l2 a o l b h1 h2 ha hla h3 hl)
    refine ⟨hlt2, hne, fun hl => ?_⟩
    rcases (hlive b hl).1 with h4 | h4
    · exact hne h4
    · omega
  refine ⟨⟨by simp [h.len], fun q o2 l2 h1 h2 => ?_, fun q o1 l1 q2 o2 l2 b h1 h2 h3 h4 h5 h6 => ?_, fun q o2 l2 b h1 h2 h3 => ?_, fun b hb => ?_, h.gl.mono hS fun b hb => same b (.inl hb)⟩,
    ⟨os, tape, output, size, hS, fun b hb => ?_, fun b hb hn => ?_, fun b hb => ?_, href⟩⟩
  · rcases split q o2 l2 h1 h2 with ⟨hq, k1, k2⟩ | ⟨rfl, rfl, rfl⟩
    · exact (h.obj q o2 l2 k1 k2).mono hS href same fun b hb => hw b (other q o2 l2 b hq k1 k2 hb).1 (other q o2 l2 b hq k1 k2 hb).2.1
    · exact hobj
  · rcases split q o1 l1 h1 h2 with ⟨hq, k1, k2⟩ | ⟨rfl, rfl, rfl⟩ <;> rcases split q2 o2 l2 h3 h4 with ⟨hq2, k3, k4⟩ | ⟨rfl, rfl, rfl⟩
    · exact h.apart q o1 l1 q2 o2 l2 b k1 k2 k3 k4 h5 h6
    · exact absurd h6 (other q o1 l1 b hq k1 k2 h5).2.2
    · exact absurd h5 (other q2 o2 l2 b hq2 k3 k4 h6).2.2
    · rfl
  · rcases split q o2 l2 h1 h2 with ⟨hq, k1, k2⟩ | ⟨rfl, rfl, rfl⟩
    · have h4 := other q o2 l2 b hq k1 k2 h3
      have h5 := h.outS q o2 l2 b k1 k2 h3
      rintro (hs | hb)
      · rcases hS2 b hs with h6 | h6 | h6
        · exact h5 (.inl h6)
        · exact h4.2.1 h6.1
        · omega
      · exact h5 (.inr hb)
    · rintro (hs | hb)
      · exact (hlive b h3).2 hs
      · rcases (hlive b h3).1 with h6 | h6
        · exact h.outS _ o l b ha hla h6 (.inr hb)
        · have := h.ltS b (.inr hb); omega
  · rcases hb with hs | hb
    · exact hlt b hs
    · exact Nat.lt_of_lt_of_le (h.ltS b (.inr hb)) size
  · rcases hS2 b hb with h6 | h6 | h6
    · exact .inl h6
    · exact .inr (.inl ⟨a, o, l, ha, hla, h6.1⟩)
    · exact .inr (.inr h6)
  · exact hw b hb fun hl => hn ⟨a, o, l, ha, hla, hl⟩
  · obtain ⟨q, o2, l2, h1, h2, h3⟩ := hb
    rcases split q o2 l2 h1 h2 with ⟨hq, k1, k2⟩ | ⟨rfl, rfl, rfl⟩
    · exact .inl ⟨q, o2, l2, k1, k2, h3⟩
    · rcases (hlive b h3).1 with h6 | h6
      · exact .inl ⟨q, o, l, ha, hla, h6⟩
      · exact .inr h6
end Go.G36
