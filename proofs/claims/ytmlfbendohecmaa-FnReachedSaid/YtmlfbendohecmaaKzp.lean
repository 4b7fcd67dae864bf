/- Runs of plain steps, counted; the rule of each is found by its form. -/
import Derived.Test.YtmlfbendohecmaaKzl
import Derived.Lib.Join
import Derived.Lib.Bytealg
namespace Go.G36
variable [Genv]
set_option linter.all false
open Go

/-- Q, to be come to by so many steps. -/
structure Cnt (n : Nat) (Q : Prop) : Prop where
  go : Q
theorem Cnt.z {Q : Prop} (h : Q) : Cnt 0 Q := ⟨h⟩
theorem Cnt.s {n : Nat} {Q R : Prop} (r : Q → R) (h : Cnt n Q) : Cnt (n + 1) R := ⟨r h.go⟩
theorem au (n : Nat) {P Q : Prop} (h : P) (s : P → Cnt n Q := by
  intro hh
  repeat (first
    | exact .z hh
    | with_reducible first
      | refine .s TL.nil ?_
      | refine .s T.seq ?_
      | refine .s T.region ?_
      | refine .s T.skip ?_
      | refine .s T.block ?_
      | refine .s T.ret ?_
      | refine .s T.exit ?_
      | refine .s T.scope ?_
    | refine .s (fun h => TL.st rfl rfl rfl (by first
        | exact o_move rfl rfl
        | exact o_assign rfl rfl
        | exact o_fieldAddr rfl rfl rfl ⟨rfl, rfl⟩ (by decide) rfl rfl ⟨_, rfl, Nat.le_of_ble_eq_true rfl⟩
        | exact o_loadBx rfl ⟨rfl, rfl⟩ rfl rfl (Nat.le_of_ble_eq_true rfl) rfl
        | exact o_ari rfl rfl rfl rfl
        | exact o_or rfl rfl rfl rfl (fun k => Gd_t k)
        | exact o_and rfl rfl rfl (fun k => Gd_t k) rfl
        | exact o_build rfl ⟨_, fun _ => rfl, rfl⟩ rfl rfl rfl
        | exact o_alloc rfl ⟨_, rfl, rfl⟩
        | exact o_box rfl rfl rfl
        | exact o_nilCheck rfl rfl rfl
        | exact o_loadRf rfl ⟨rfl, rfl⟩ rfl (Nat.le_of_ble_eq_true rfl) rfl
        | exact o_not rfl rfl
        | exact o_str rfl rfl rfl rfl
        | exact o_lenS rfl rfl rfl
        | exact o_extract rfl rfl rfl) h) ?_
    | refine .s (fun h => TL.gcq rfl rfl rfl (.bool _) rfl rfl (fun h => by first
        | exact o_move rfl rfl
        | exact o_ari rfl (gv h rfl) rfl rfl
        | exact o_loadBx rfl ⟨rfl, rfl⟩ (gv h rfl) rfl (Nat.le_of_ble_eq_true rfl) rfl
        | exact o_fieldAddr rfl rfl rfl ⟨rfl, rfl⟩ (by decide) rfl rfl ⟨_, rfl, Nat.le_of_ble_eq_true rfl⟩
        | exact o_not rfl (gv h rfl)) h) ?_
    | refine .s (fun h => TL.sn rfl rfl (o_storeBx rfl ⟨rfl, rfl⟩ rfl rfl rfl rfl (Nat.le_of_ble_eq_true rfl) rfl) h) ?_
    | refine .s T.region ?_
    | refine .s T.seq ?_
    | refine .s T.skip ?_
    | refine .s T.block ?_
    | refine .s T.ret ?_
    | refine .s T.exit ?_)) : Q := (s h).go
/-- The same in regions that draw. -/
theorem ad (n : Nat) {P Q : Prop} (h : P) (s : P → Cnt n Q := by
  intro hh
  repeat (first
    | exact .z hh
    | refine .s (fun h => TD.qs rfl rfl (fun _ => by first
        | exact o_move rfl rfl
        | exact o_nilCheck rfl rfl rfl
        | exact o_ari rfl rfl rfl rfl
        | exact o_assign rfl rfl
        | exact o_or rfl rfl rfl rfl (fun k => Gd_t k)
        | exact o_and rfl rfl rfl (fun k => Gd_t k) rfl
        | exact o_not rfl rfl
        | exact o_extract rfl rfl rfl) h) ?_
    | refine .s (fun h => TD.rs rfl rfl (by first
        | exact o_fieldAddr rfl rfl rfl ⟨rfl, rfl⟩ (by decide) rfl rfl ⟨_, rfl, Nat.le_of_ble_eq_true rfl⟩
        | exact o_loadBx rfl ⟨rfl, rfl⟩ rfl rfl (Nat.le_of_ble_eq_true rfl) rfl) h) ?_
    | refine .s (fun h => TD.cr rfl rfl rfl (.bool _) rfl (fun h => by first
        | exact o_loadBx rfl ⟨rfl, rfl⟩ (gv h rfl) rfl (Nat.le_of_ble_eq_true rfl) rfl
        | exact o_fieldAddr rfl rfl rfl ⟨rfl, rfl⟩ (by decide) rfl rfl ⟨_, rfl, Nat.le_of_ble_eq_true rfl⟩) h) ?_
    | refine .s (fun h => TD.cq rfl rfl rfl (.bool _) rfl (fun h _ => o_move rfl rfl) h) ?_
    | refine .s (fun h => TD.an rfl rfl (o_storeBx rfl ⟨rfl, rfl⟩ rfl rfl rfl rfl (Nat.le_of_ble_eq_true rfl) rfl) h) ?_
    | refine .s (fun h => TD.nil h) ?_)) : Q := (s h).go
/-- A branch, and what the function says of it. -/
theorem T.cH {N : Nat} {P : Program} {n : Nat} {fr : Fr} {σ : ASt} {Q : Post} {c : Operand} {x y : Code} {α : Type} {b : Bool} {u v : Option α} {r : α} (H : _root_.cond b u v = some r)
    (ht : u = some r → b = true → T P N n x fr σ Q) (hf : v = some r → b = false → T P N n y fr σ Q) (hc : evalE fr c = some (.bool b) := by exact rfl) : T P N n (.cond c x y) fr σ Q :=
  T.cond b hc (fun h => ht (cond_t h H) h) (fun h => hf (cond_f h H) h)
end Go.G36
/- Families of arrays: slices that lie in other things, by number. -/
namespace Go.G36
variable [Genv]
set_option linter.all false
open Go

/-- A family without an array. -/
theorem Cs.afm {N n : Nat} {fr : Fr} {σ : ASt} (sz : Nat) (hs : Nat.blt 0 sz = true) : Cs N n fr σ fr (σ ++ [.afm sz []]) := fun S B ι a w hr => by
  obtain ⟨hm', hf⟩ := hr.mem.push (Grown.refl w) (.afm sz []) (.afm []) (fun b hb => by obtain ⟨k, v, rows, h, _⟩ := hb; simp at h)
    ⟨by simpa [Nat.blt_eq] using hs, rfl, fun k k' v v' r r' b _ h => by simp at h, fun k v rows h => by simp at h⟩
  exact ⟨S, _, hr.fw hf hm', hf.toN⟩

section
variable {S B : Nat → Prop} {ι : List Loc} {σ : ASt} {w : World} {p q sz : Nat} {xs : List (List V)} {ys : List (Option (List (List V)))} {v : Value} {vs : List Value}
end
section
variable {S B : Nat → Prop} {ι : List Loc} {σ : ASt} {w : World} {q sz k : Nat} {xs : List (List V)} {ys : List (Option (List (List V)))} {v : Value} {vs : List Value}
theorem memExtract (hm : Mem S B ι σ w) (hq : σ[q]? = some (.afm sz ys)) (hql : ι[q]? = some (.afm vs)) (hk : ys[k]? = some (some xs)) (hv : vs[k]? = some v) :
    Mem S B (ι ++ [.row v]) (σ.set q (.afm sz (ys.set k none)) ++ [.arr .clo sz xs]) w ∧ Fw S ι σ w S (ι ++ [.row v]) (σ.set q (.afm sz (ys.set k none)) ++ [.arr .clo sz xs]) w := by
  have lq := (List.getElem?_eq_some_iff.1 hq).1
  have lq' := (List.getElem?_eq_some_iff.1 hql).1
  have lk := (List.getElem?_eq_some_iff.1 hk).1
  obtain ⟨hsz, hlen, hdis, hrep⟩ := hm.obj q _ _ hq hql
  obtain ⟨e0, vals0, hown0, hrows0, hone0⟩ := hrep k v xs hv hk
  have src : ∀ (a : Nat) (o : AO) (l : Loc), (σ.set q (.afm sz (ys.set k none)) ++ [.arr .clo sz xs])[a]? = some o → (ι ++ [.row v])[a]? = some l →
      (a = q ∧ o = .afm sz (ys.set k none) ∧ l = .afm vs) ∨ (a = σ.length ∧ o = .arr .clo sz xs ∧ l = .row v) ∨ (a ≠ q ∧ a < σ.length ∧ σ[a]? = some o ∧ ι[a]? = some l) := fun a o l h1 h2 => by
    rcases Nat.lt_or_ge a σ.length with h | h
    · rw [List.getElem?_append_left (by simpa using h)] at h1
      rw [List.getElem?_append_left (by rw [hm.len]; exact h)] at h2
      by_cases ha : a = q
      · subst ha
        rw [List.getElem?_set_self lq] at h1
        rw [hql] at h2
        injection h1 with h1; injection h2 with h2
        exact .inl ⟨rfl, h1.symm, h2.symm⟩
      · rw [List.getElem?_set_ne (Ne.symm ha)] at h1
        exact .inr (.inr ⟨ha, h, h1, h2⟩)
    · have ha : a = σ.length := by
        have := (List.getElem?_eq_some_iff.1 h1).1
        simp at this; omega
      subst ha
      rw [List.getElem?_append_right (by simp)] at h1
      rw [List.getElem?_append_right (by rw [hm.len]; exact Nat.le_refl _)] at h2
      simp [hm.len] at h1 h2
      exact .inr (.inl ⟨rfl, h1.symm, h2.symm⟩)
  have ent : ∀ (k' : Nat) (r : List (List V)), (ys.set k none)[k']? = some (some r) → k' ≠ k ∧ ys[k']? = some (some r) := fun k' r h => by
    by_cases hkk : k' = k
    · subst hkk
      rw [List.getElem?_set_self lk] at h
      cases h
    · rw [List.getElem?_set_ne (Ne.symm hkk)] at h
      exact ⟨hkk, h⟩
  have qlive : ∀ b, v.ownBlock = some b → live (.afm sz ys) (.afm vs) b := fun b hb => ⟨k, v, xs, hv, hk, hb⟩
  have hι : ι.set q (.afm vs) = ι := by
    apply List.ext_getElem?
    intro i
    by_cases hi : i = q
    · subst hi; rw [List.getElem?_set_self lq', hql]
    · rw [List.getElem?_set_ne (Ne.symm hi)]
  have href : ∀ x u, RefR ι σ x u → RefR (ι ++ [.row v]) (σ.set q (.afm sz (ys.set k none)) ++ [.arr .clo sz xs]) x u := fun x u h => by
    have h2 := RefR.set (o' := .afm sz (ys.set k none)) hq hql rfl h
    rw [hι] at h2
    exact h2.append (by simp [hm.len]) _ _
  have hlv : ∀ (a : Nat) (o : AO) (l : Loc) (b : Nat), (σ.set q (.afm sz (ys.set k none)) ++ [.arr .clo sz xs])[a]? = some o → (ι ++ [.row v])[a]? = some l → live o l b →
      (a = q ∧ ∃ k' y r, k' ≠ k ∧ vs[k']? = some y ∧ ys[k']? = some (some r) ∧ y.ownBlock = some b) ∨ (a = σ.length ∧ v.ownBlock = some b) ∨ (a ≠ q ∧ a < σ.length ∧ ∃ o0 l0, σ[a]? = some o0 ∧ ι[a]? = some l0 ∧ live o0 l0 b) := fun a o l b h1 h2 h3 => by
    rcases src a o l h1 h2 with ⟨rfl, rfl, rfl⟩ | ⟨rfl, rfl, rfl⟩ | ⟨ha, hb, h4, h5⟩
    · obtain ⟨k', y, r, k1, k2, k3⟩ := h3
      obtain ⟨k4, k5⟩ := ent k' r k2
      exact .inl ⟨rfl, k', y, r, k4, k1, k5, k3⟩
    · exact .inr (.inl ⟨rfl, h3⟩)
    · exact .inr (.inr ⟨ha, hb, o, l, h4, h5, h3⟩)
  refine ⟨⟨by simp [hm.len], fun a o l h1 h2 => ?_, fun a o l a' o' l' b h1 h2 h3 h4 h5 h6 => ?_, fun a o l b h1 h2 h3 => ?_, hm.ltS, hm.gl⟩, ⟨rfl, rfl, rfl, Nat.le_refl _, fun _ h => h, fun _ h => .inl h, fun _ _ _ => rfl, fun b hb => ?_, href⟩⟩
  · rcases src a o l h1 h2 with ⟨rfl, rfl, rfl⟩ | ⟨rfl, rfl, rfl⟩ | ⟨_, _, h3, h4⟩
    · refine ⟨hsz, by simp [hlen], fun i i' y y' r r' b hi g1 g2 g3 g4 g5 g6 => ?_, fun i y r g1 g2 => hrep i y r g1 (ent i r g2).2⟩
      exact hdis i i' y y' r r' b hi g1 g2 (ent i r g3).2 (ent i' r' g4).2 g5 g6
    · exact ⟨hsz, e0, vals0, hown0, hrows0, hone0, (fun h => by cases h), fun _ h => by cases h⟩
    · exact (hm.obj a o l h3 h4).mono (fun _ h => h) href (fun _ _ => rfl) fun _ _ => rfl
  · rcases hlv a o l b h1 h2 h5 with ⟨rfl, k', y, r, j1, j2, j3, j4⟩ | ⟨rfl, j1⟩ | ⟨j0, j1, o0, l0, j2, j3, j4⟩ <;>
    rcases hlv a' o' l' b h3 h4 h6 with ⟨rfl, k2, y2, r2, i1, i2, i3, i4⟩ | ⟨rfl, i1⟩ | ⟨i0, i1, o1, l1, i2, i3, i4⟩
    · rfl
    · exact (hdis k' k y v r xs b j1 j2 hv j3 hk j4 i1).elim
    · exact (i0 (hm.apart a _ _ a' o1 l1 b hq hql i2 i3 ⟨k', y, r, j2, j3, j4⟩ i4).symm).elim
    · exact (hdis k2 k y2 v r2 xs b i1 i2 hv i3 hk i4 j1).elim
    · rfl
    · exact (i0 (hm.apart q _ _ a' o1 l1 b hq hql i2 i3 (qlive b j1) i4).symm).elim
    · exact (j0 (hm.apart a' _ _ a o0 l0 b hq hql j2 j3 ⟨k2, y2, r2, i2, i3, i4⟩ j4).symm).elim
    · exact (j0 (hm.apart q _ _ a o0 l0 b hq hql j2 j3 (qlive b i1) j4).symm).elim
    · exact hm.apart a o0 l0 a' o1 l1 b j2 j3 i2 i3 j4 i4
  · rcases hlv a o l b h1 h2 h3 with ⟨rfl, k', y, r, j1, j2, j3, j4⟩ | ⟨rfl, j1⟩ | ⟨j0, j1, o0, l0, j2, j3, j4⟩
    · exact hm.outS a _ _ b hq hql ⟨k', y, r, j2, j3, j4⟩
    · exact hm.outS q _ _ b hq hql (qlive b j1)
    · exact hm.outS a o0 l0 b j2 j3 j4
  · obtain ⟨a, o, l, h1, h2, h3⟩ := hb
    rcases hlv a o l b h1 h2 h3 with ⟨rfl, k', y, r, j1, j2, j3, j4⟩ | ⟨rfl, j1⟩ | ⟨j0, j1, o0, l0, j2, j3, j4⟩
    · exact .inl ⟨a, _, _, hq, hql, k', y, r, j2, j3, j4⟩
    · exact .inl ⟨q, _, _, hq, hql, qlive b j1⟩
    · exact .inl ⟨a, o0, l0, j2, j3, j4⟩
/-- What a number of a family of arrays says. -/
theorem afm_at (hm : Mem S B ι σ w) {L j : Nat} {i : Int} {u : Value} (hq : σ[q]? = some (.afm sz ys)) (h0 : 0 ≤ i) (hk : ys[i.toNat]? = some (some xs)) (h : Val S B (RefR ι σ) w (.px q L i j) u) :
    ∃ vs A c, ι[q]? = some (.afm vs) ∧ vs[i.toNat]? = some u ∧ u = .slice A xs.length c := by
  have lq := (List.getElem?_eq_some_iff.1 hq).1
  obtain ⟨l, hql⟩ : ∃ l, ι[q]? = some l := ⟨ι[q]'(by rw [hm.len]; exact lq), by simp⟩
  have hO := hm.obj q _ _ hq hql
  cases l with
  | row v => exact hO.elim
  | box b => exact hO.elim
  | map r => exact hO.elim
  | it r9 m9 => exact hO.elim
  | fam bs => exact hO.elim
  | afm vs =>
    have hr := Val.inv_ref (v := .px q L i j) rfl trivial h
    simp only [RefR, hq, hql] at hr
    rcases hr with ⟨h1, _⟩ | ⟨_, h2, _⟩
    · omega
    · obtain ⟨e, vals, hown, _⟩ := hO.2.2.2 _ u xs h2 hk
      rcases hown.2 with ⟨rfl, hn⟩ | ⟨g, cap, cur, rfl, _⟩
      · exact ⟨vs, none, 0, hql, h2, by rw [hn]⟩
      · exact ⟨vs, _, cap, hql, h2, rfl⟩
end
/-- An array is taken out of a family. -/
theorem Cs.extract {N n t q L j : Nat} {fr : Fr} {σ : ASt} {sz : Nat} {i : Int} {xs : List (List V)} {ys : List (Option (List (List V)))} (ht : lk fr t = some (.px q L i j)) (hq : σ[q]? = some (.afm sz ys)) (h0 : 0 ≤ i) (hk : ys[i.toNat]? = some (some xs)) :
    Cs N n fr σ ((t, .hd σ.length xs.length 0 xs.length) :: fr) (σ.set q (.afm sz (ys.set i.toNat none)) ++ [.arr .clo sz xs]) := fun S B ι a w hr => by
  have hm := hr.mem
  obtain ⟨vs, A, c, hql, hv, hu⟩ := afm_at hm hq h0 hk (hr.fr t _ ht)
  obtain ⟨hm', hf⟩ := memExtract hm hq hql hk hv
  refine ⟨S, _, (hr.fw hf hm').retell (.ref _ _ ?_), hf.toN⟩
  have e1 : (σ.set q (.afm sz (ys.set i.toNat none)) ++ [AO.arr .clo sz xs])[σ.length]? = some (.arr .clo sz xs) := by rw [List.getElem?_append_right (by simp)]; simp
  have e2 : (ι ++ [Loc.row (a.tmps.getD t undef)])[σ.length]? = some (.row (a.tmps.getD t undef)) := by rw [List.getElem?_append_right (by rw [hm.len]; exact Nat.le_refl _)]; simp [hm.len]
  simp only [RefR, e1, e2]
  exact ⟨Nat.le_refl _, fun _ => ⟨by omega, fun _ => ⟨A, c, hu, hu⟩, fun h => absurd rfl h⟩⟩

section
variable {P : Program} {o : Oper} {fr : Fr} {σ : ASt}
end

/-! ### In operations -/
section
variable {P : Program} {o : Oper} {fr : Fr} {σ τ : ASt}
theorem Does.extract {t q L j sz : Nat} {i : Int} {xs : List (List V)} {ys : List (Option (List (List V)))} {v : V} (ht : lk fr t = some (.px q L i j)) (hop : (Operand.tmp t) ∈ o.op.operands) (hq : σ[q]? = some (.afm sz ys)) (h0 : 0 ≤ i) (hk : ys[i.toNat]? = some (some xs))
    (h : Does P o ((t, .hd σ.length xs.length 0 xs.length) :: fr) (σ.set q (.afm sz (ys.set i.toNat none)) ++ [.arr .clo sz xs]) v τ) : Does P o fr σ v τ := fun S B ι a w he hm next Q hk' => by
  obtain ⟨vs, A, c, hql, hv, hu⟩ := afm_at hm hq h0 hk (he _ hop _ (by simpa [evalE] using ht))
  obtain ⟨hm1, hf1⟩ := memExtract hm hq hql hk hv
  refine h S B _ a w (fun z hz y hy => ?_) hm1 next Q fun u S' ι' w' hv hm' hf' => hk' u S' ι' w' hv hm' (hf1.trans hf')
  have old : ∀ y, evalE fr z = some y → Val S B (RefR (ι ++ [.row (a.eval (.tmp t))]) (σ.set q (.afm sz (ys.set i.toNat none)) ++ [.arr .clo sz xs])) w y (a.eval z) := fun y hy => (he z hz y hy).mono (fun _ h => h) (fun _ h => h) hf1.ref fun _ _ => rfl
  by_cases hzt : z = .tmp t
  · subst hzt
    have hy' : y = .hd σ.length xs.length 0 xs.length := by
      simp [evalE, lk] at hy; exact hy.symm
    subst hy'
    refine .ref _ _ ?_
    have e1 : (σ.set q (.afm sz (ys.set i.toNat none)) ++ [AO.arr .clo sz xs])[σ.length]? = some (.arr .clo sz xs) := by rw [List.getElem?_append_right (by simp)]; simp
    have e2 : (ι ++ [Loc.row (a.eval (.tmp t))])[σ.length]? = some (.row (a.eval (.tmp t))) := by rw [List.getElem?_append_right (by rw [hm.len]; exact Nat.le_refl _)]; simp [hm.len]
    simp only [RefR, e1, e2]
    exact ⟨Nat.le_refl _, fun _ => ⟨by omega, fun _ => ⟨A, c, hu, hu⟩, fun h => absurd rfl h⟩⟩
  · refine old y ?_
    rw [← hy]
    cases z with
    | tmp t' =>
      have : t' ≠ t := fun e => hzt (by rw [e])
      have hb : Nat.beq t t' = false := by
        cases hx : Nat.beq t t' with
        | false => rfl
        | true => exact absurd (Nat.eq_of_beq_eq_true hx).symm this
      simp only [evalE, lk, hb]
    | _ => rfl
end

/-! ### With content told by functions -/
section
variable {P : Program} {o : Oper} {fr : Fr} {σ τ : ASt} {α : Type} {f : α → List V} {L : List (Option (List α))} {xs : List α} {q sz : Nat}
end
theorem el_len {α : Type} {f : α → List V} {xs ys : List α} (p i j : Nat) (h : ys.length = xs.length) : V.el p (xs.map f).length i j = .el p (ys.map f).length i j := by simp only [List.length_map, h]
theorem Does.to {P : Program} {o : Oper} {fr : Fr} {σ σ1 σ2 : ASt} {v : V} (hd : Does P o fr σ v σ1) (h : σ1 = σ2) : Does P o fr σ v σ2 := h ▸ hd
/-! ### Short words -/
abbrev e0 : ByteArray := ByteArray.mk #[]
theorem nb {n m : Nat} (h : Nat.ble n m = true) : n ≤ m := Nat.le_of_ble_eq_true h
def En (P : Program) (f : FuncId) : Prop := ∀ (us : Array Value) (w : World), (callFunc f us).run P w = .ok (.enter f us) w
theorem En.of {P : Program} {f : FuncId} {fn : Func} {c : Code} (hf : P.funcs[f]? = some fn) (hname : (fn.name == "runtime.NumGoroutine") = false) (hb : fn.body = some c) : En P f := enters hf hname hb
end Go.G36
/- Own arrays within a struct that a slot holds, frozen; strings.Join, IndexByte, Compare. -/
namespace Go.G36
set_option linter.all false
open Go Go.RowKit
variable [Genv]
end Go.G36
/- Guards in drawn regions of any order; bounds that are guarded. -/
namespace Go.G36
variable [Genv]
set_option linter.all false
open Go

end Go.G36
