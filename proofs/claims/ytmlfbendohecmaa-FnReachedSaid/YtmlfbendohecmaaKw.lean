/- Calls whose outcome is an array of one's own. -/
import Derived.Test.YtmlfbendohecmaaKv
namespace Go.G36
variable [Genv]
set_option linter.all false
open Go

/-- An object that came with a call is taken into the store. -/
theorem Mem.pushN {S B : Nat → Prop} {ι : List Loc} {σ : ASt} {w w' : World} (h : Mem S B ι σ w) (g : Grown w w') (N : Nat → Prop) (hN : ∀ b, N b → w.heap.size ≤ b ∧ b < w'.heap.size) (o : AO) (l : Loc)
    (hl : ∀ b, live o l b → w.heap.size ≤ b ∧ ¬ N b) (ho : ObjRep (fun b => S b ∨ N b) B (RefR (ι ++ [l]) (σ ++ [o])) w' o l) :
    Mem (fun b => S b ∨ N b) B (ι ++ [l]) (σ ++ [o]) w' ∧ Fw S ι σ w (fun b => S b ∨ N b) (ι ++ [l]) (σ ++ [o]) w' := by
  obtain ⟨hm, hf⟩ := h.grow g N hN
  have split : ∀ (a : Nat) (o' : AO) (l' : Loc), (σ ++ [o])[a]? = some o' → (ι ++ [l])[a]? = some l' → (σ[a]? = some o' ∧ ι[a]? = some l') ∨ (a = σ.length ∧ o' = o ∧ l' = l) := fun a o' l' h1 h2 => by
    rcases Nat.lt_or_ge a σ.length with ha | ha
    · rw [List.getElem?_append_left ha] at h1
      rw [List.getElem?_append_left (h.len ▸ ha)] at h2
      exact .inl ⟨h1, h2⟩
    · have ha2 : a = σ.length := by
        have := (List.getElem?_eq_some_iff.1 h1).1
        simp at this; omega
      subst ha2
      rw [List.getElem?_append_right (Nat.le_refl _)] at h1
      rw [List.getElem?_append_right (by rw [h.len]; exact Nat.le_refl _)] at h2
      simp [h.len] at h1 h2
      exact .inr ⟨rfl, h1.symm, h2.symm⟩
  have old : ∀ (a : Nat) (o' : AO) (l' : Loc) (b : Nat), σ[a]? = some o' → ι[a]? = some l' → live o' l' b → b < w.heap.size := fun a o' l' b h1 h2 h3 => live_lt (h.obj a o' l' h1 h2) h3
  refine ⟨⟨by simp [h.len], fun a o' l' h1 h2 => ?_, fun a o1 l1 a2 o2 l2 b h1 h2 h3 h4 h5 h6 => ?_, fun a o' l' b h1 h2 h3 => ?_, hm.ltS, hm.gl⟩, ⟨hf.os, hf.tape, hf.output, hf.size, hf.grow, hf.new, hf.keep, fun b ⟨a, o', l', h1, h2, h3⟩ => ?_, fun v u hr => hr.append h.len _ _⟩⟩
  · rcases split a o' l' h1 h2 with ⟨k1, k2⟩ | ⟨rfl, rfl, rfl⟩
    · exact (hm.obj a o' l' k1 k2).mono (fun _ h => h) (fun v u hr => hr.append h.len _ _) (fun _ _ => rfl) fun _ _ => rfl
    · exact ho
  · rcases split a o1 l1 h1 h2 with ⟨k1, k2⟩ | ⟨rfl, rfl, rfl⟩ <;> rcases split a2 o2 l2 h3 h4 with ⟨k3, k4⟩ | ⟨rfl, rfl, rfl⟩
    · exact h.apart a o1 l1 a2 o2 l2 b k1 k2 k3 k4 h5 h6
    · have := old a o1 l1 b k1 k2 h5; have := (hl b h6).1; omega
    · have := old a2 o2 l2 b k3 k4 h6; have := (hl b h5).1; omega
    · rfl
  · rcases split a o' l' h1 h2 with ⟨k1, k2⟩ | ⟨rfl, rfl, rfl⟩
    · exact hm.outS a o' l' b k1 k2 h3
    · obtain ⟨q1, q2⟩ := hl b h3
      rintro ((hs | hn) | hb)
      · have := h.ltS b (.inl hs); omega
      · exact q2 hn
      · have := h.ltS b (.inr hb); omega
  · rcases split a o' l' h1 h2 with ⟨k1, k2⟩ | ⟨rfl, rfl, rfl⟩
    · exact .inl ⟨a, o', l', k1, k2, h3⟩
    · exact .inr (hl b h3).1

/-- The outcome is a fresh array of the caller's own. -/
def OwnC (P : Program) (f : FuncId) (rs : List V) (sz : Nat) (xs : List (List V)) : Prop := CallT P f rs [] fun v τ => v = .hd 0 xs.length 0 xs.length ∧ ∃ g, τ = [.arr .clo sz xs] ++ g

theorem o_callOwn {P : Program} {o : Oper} {fr : Fr} {σ : ASt} {x : Operand} {args : Array Operand} {ts : Array TypeId} {f : FuncId} {first caps vs rs : List V} {sz : Nat} {xs : List (List V)} (ho : o.op = .call { callee := .value x, args := args, argTypes := ts })
    (hcall : ∀ (us : Array Value) (w : World), (callFunc f us).run P w = .ok (.enter f us) w) (hx : evalE fr x = some (.fn f first caps)) (ha : evalL fr args.toList = some vs) (hl : LentL σ (first ++ vs ++ caps) rs) (h : OwnC P f rs sz xs) :
    Does P o fr σ (.hd σ.length xs.length 0 xs.length) (σ ++ [.arr .clo sz xs]) := fun S B ι a w he hm next Q hk => by
  obtain ⟨us, h1, h2⟩ := call_run ho hcall he hx ha
  unfold Oper.wp
  rw [h1]
  refine (h S (fun b => B b ∨ S b ∨ Lv ι σ b) [] us w hm.none ((hl.pw hm).2 us h2)).mono ?_
  rintro e w' ⟨u, v, τ, S1, ι1, rfl, ⟨rfl, g0, rfl⟩, hv, hm1, hf⟩
  have g : Grown w w' := ⟨hf.os, hf.tape, hf.output, hf.size, fun b hb => hf.keep b hb Lv_nil⟩
  have hι1 : 0 < ι1.length := by rw [hm1.len]; simp
  obtain ⟨l, hlι⟩ : ∃ l, ι1[0]? = some l := ⟨ι1[0], by simp [hι1]⟩
  have h0 : ([AO.arr .clo sz xs] ++ g0)[0]? = some (.arr .clo sz xs) := rfl
  have hO := hm1.obj 0 _ l h0 hlι
  have hnew : ∀ b, S1 b → S b ∨ w.heap.size ≤ b := fun b hb => by
    rcases hf.new b hb with h | h | h
    · exact .inl h
    · exact absurd h Lv_nil
    · exact .inr h
  cases l with
  | box b => exact hO.elim
  | map r => exact hO.elim
  | it r9 m9 => exact hO.elim
  | row rv =>
    obtain ⟨k1, e, vals, k2, ⟨k3, k4, k5⟩, k6, k7⟩ := hO
    obtain ⟨hm', hf'⟩ := hm.pushN g (fun b => S1 b ∧ w.heap.size ≤ b) (fun b hb => ⟨hb.2, hm1.ltS b (.inl hb.1)⟩) (.arr .clo sz xs) (.row rv) (fun b hb => by
      have hlv : Lv ι1 ([AO.arr .clo sz xs] ++ g0) b := ⟨0, _, _, h0, hlι, hb⟩
      refine ⟨?_, fun hN => hm1.outS 0 _ _ b h0 hlι hb (.inl hN.1)⟩
      rcases hf.lv b hlv with h | h
      · exact absurd h Lv_nil
      · exact h) ⟨k1, e, vals, k2, ⟨k3, k4, fun i j row c hi hj => by
        obtain ⟨u', q1, q2⟩ := k5 i j row c hi hj
        exact ⟨u', q1, q2.mono (fun b hb => by
          rcases hnew b hb with h | h
          · exact .inl h
          · exact .inr ⟨hb, h⟩) fun _ _ => rfl⟩⟩, k6, (fun h => by cases h), fun _ h => by cases h⟩
    refine hk u _ _ w' (.ref _ _ ?_) hm' hf'
    have hr := Val.inv_ref (v := .hd 0 xs.length 0 xs.length) rfl trivial hv
    simp only [RefR, h0, hlι] at hr
    have q1 : (σ ++ [AO.arr .clo sz xs])[σ.length]? = some (.arr .clo sz xs) := by simp
    have q2 : (ι ++ [Loc.row rv])[σ.length]? = some (.row rv) := by simp [hm.len]
    simp only [RefR, q1, q2]
    exact hr
  | fam bs0 => exact hO.elim
  | afm vs0 => exact hO.elim
end Go.G36
