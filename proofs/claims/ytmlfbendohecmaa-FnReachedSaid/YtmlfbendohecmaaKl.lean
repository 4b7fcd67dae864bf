/- The call operation. -/
import Derived.Test.YtmlfbendohecmaaKk
namespace Go.G36
variable [Genv]
set_option linter.all false
open Go

/-- As Does, with several outcomes. -/
def DoesQ (P : Program) (o : Oper) (fr : Fr) (σ : ASt) (R : V → ASt → Prop) : Prop :=
  ∀ (S B : Nat → Prop) (ι : List Loc) (a : Act) (w : World), (∀ x, x ∈ o.op.operands → ∀ y, evalE fr x = some y → Val S B (RefR ι σ) w y (a.eval x)) → Mem S B ι σ w →
    ∀ (next : Act → World → Prop) (Q : Exit → Act → World → Prop),
      (∀ (u : Value) (v : V) (σ' : ASt) (S' : Nat → Prop) (ι' : List Loc) (w' : World), R v σ' → Val S' B (RefR ι' σ') w' v u → Mem S' B ι' σ' w' → Fw S ι σ w S' ι' σ' w' → next (a.put o.dst u) w') → o.wp P a w next Q

theorem DoesQ.one {P : Program} {o : Oper} {fr : Fr} {σ σ' : ASt} {v : V} (h : DoesQ P o fr σ fun v' τ => v' = v ∧ τ = σ') : Does P o fr σ v σ' := fun S B ι a w he hm next Q hk =>
  h S B ι a w he hm next Q fun u v' τ S' ι' w' ⟨h1, h2⟩ h3 h4 h5 => by subst h1; subst h2; exact hk u S' ι' w' h3 h4 h5

theorem TL.stepQ {N : Nat} {P : Program} {n : Nat} {fr : Fr} {σ : ASt} {Q : Post} {ops : Array Oper} {o : Oper} {l : List Oper} (R : V → ASt → Prop) (hg : o.guard = none) (hd : okD n o.dst = true) (hdo : DoesQ P o fr σ R)
    (h : ∀ v σ', R v σ' → TL P N n ops l (setF o.dst v fr) σ' Q) : TL P N n ops (o :: l) fr σ Q := fun S B ι a w hr => by
  refine wpList_plain hg fun K hK => hdo S B ι a w (fun x _ y hy => evalE_val hr hy) hr.mem K _ ?_
  intro u v σ' S' ι' w' hR hv hm hf
  refine hK _ _ ?_
  exact wpList_mono2 (QT.fw hf.toN) l _ _ (h v σ' hR S' B ι' _ w' ((hr.fw hf hm).put (okD_lt hd) hv))

def evalL (fr : Fr) : List Operand → Option (List V)
  | [] => some []
  | x :: r => match evalE fr x, evalL fr r with
    | some v, some vs => some (v :: vs)
    | _, _ => none

theorem evalL_pw {fr : Fr} {C : V → Value → Prop} {ev : Operand → Value} : ∀ {l : List Operand} {vs : List V}, evalL fr l = some vs → (∀ x, x ∈ l → ∀ y, evalE fr x = some y → C y (ev x)) → vs.length = l.length ∧
    ∀ (i : Nat) (c : V) (u : Value), vs[i]? = some c → (l.map ev)[i]? = some u → C c u
  | [], vs, h, _ => by simp [evalL] at h; subst h; simp
  | x :: r, vs, h, hc => by
    unfold evalL at h
    split at h
    · rename_i v ws h1 h2
      injection h with h; subst h
      obtain ⟨h3, h4⟩ := evalL_pw h2 fun y hy => hc y (by simp [hy])
      refine ⟨by simp [h3], fun i c u hi hu => ?_⟩
      cases i with
      | zero => simp at hi hu; subst hi; subst hu; exact hc x (by simp) v h1
      | succ i => simp at hi hu; exact h4 i c u hi (by simpa using hu)
    · cases h

theorem pw_append {C : V → Value → Prop} {cs ds : List V} {us ws : Array Value} (h1 : PW C cs us) (h2 : PW C ds ws) : PW C (cs ++ ds) (us ++ ws) := by
  refine ⟨by simp [h1.1, h2.1], fun i c u hc hu => ?_⟩
  by_cases hi : i < cs.length
  · rw [List.getElem?_append_left hi] at hc
    rw [Array.getElem?_append_left (by rw [← h1.1]; exact hi)] at hu
    exact h1.2 i c u hc hu
  · rw [List.getElem?_append_right (by omega)] at hc
    rw [Array.getElem?_append_right (by rw [← h1.1]; omega), ← h1.1] at hu
    exact h2.2 _ c u hc hu

/-- The function that is called, and all its arguments: what was laid first, the arguments, what was captured. -/
theorem call_run {P : Program} {o : Oper} {fr : Fr} {σ : ASt} {S B : Nat → Prop} {ι : List Loc} {a : Act} {w : World} {x : Operand} {args : Array Operand} {ts : Array TypeId} {f : FuncId} {first caps vs : List V}
    (ho : o.op = .call { callee := .value x, args := args, argTypes := ts }) (hcall : ∀ (us : Array Value) (w : World), (callFunc f us).run P w = .ok (.enter f us) w)
    (he : ∀ x, x ∈ o.op.operands → ∀ y, evalE fr x = some y → Val S B (RefR ι σ) w y (a.eval x)) (hx : evalE fr x = some (.fn f first caps)) (ha : evalL fr args.toList = some vs) :
    ∃ us, (execOp a.eval o).run P w = .ok (.enter f us) w ∧ PW (Val S B (RefR ι σ) w) (first ++ vs ++ caps) us := by
  obtain ⟨us, ws, h1, h2, h3, h4, h5⟩ := (he x (by simp [ho, Op.operands, Call.operands]) _ hx).inv_fn
  obtain ⟨h6, h7⟩ := evalL_pw (C := Val S B (RefR ι σ) w) (ev := a.eval) ha fun y hy z hz => he y (by simp [ho, Op.operands, Call.operands]; exact .inr (by simpa using hy)) z hz
  refine ⟨us ++ args.map a.eval ++ ws, ?_, pw_append (pw_append ⟨h2, h4⟩ ⟨by simpa using h6, fun i c u hc hu => h7 i c u hc (by rw [← Array.toList_map, Array.getElem?_toList]; exact hu)⟩) ⟨h3, h5⟩⟩
  simp only [execOp, ho, resolve, Sem.run_bind, Deferred.ofValue, h1, Sem.run_pure, Result.andThen_ok, invoke, hcall]

section
variable {P : Program} {o : Oper} {fr : Fr} {σ : ASt}

/-- A call that shares the store. -/
theorem o_callR {x : Operand} {args : Array Operand} {ts : Array TypeId} {f : FuncId} {first caps vs : List V} {R : V → ASt → Prop} (ho : o.op = .call { callee := .value x, args := args, argTypes := ts })
    (hcall : ∀ (us : Array Value) (w : World), (callFunc f us).run P w = .ok (.enter f us) w) (hx : evalE fr x = some (.fn f first caps)) (ha : evalL fr args.toList = some vs) (h : CallT P f (first ++ vs ++ caps) σ R) :
    DoesQ P o fr σ R := fun S B ι a w he hm next Q hk => by
  obtain ⟨us, h1, h2⟩ := call_run ho hcall he hx ha
  unfold Oper.wp
  rw [h1]
  refine (h S B ι us w hm h2).mono ?_
  rintro e w' ⟨u, v, σ', S', ι', rfl, hR, hv, hm', hf⟩
  exact hk u v σ' S' ι' w' hR hv hm' hf

theorem afm_val {S B : Nat → Prop} {ι : List Loc} {σ : ASt} {w : World} {q L j sz : Nat} {i : Int} {xs : List (List V)} {ys : List (Option (List (List V)))} {u : Value} (hm : Mem S B ι σ w) (hq : σ[q]? = some (.afm sz ys)) (h0 : 0 ≤ i)
    (hk : ys[i.toNat]? = some (some xs)) (h : Val S B (RefR ι σ) w (.px q L i j) u) :
    ∃ (A : Option Addr) (cap : Nat) (vals : Nat → Nat → Value), u = .slice A xs.length cap ∧ xs.length ≤ cap ∧
      (xs ≠ [] → ∃ b, A = some ⟨b, 0, none⟩ ∧ Lv ι σ b ∧ (∀ row, row ∈ xs → row.length = sz) ∧
        ∀ (i j : Nat) (row : List V) (c : V), xs[i]? = some row → row[j]? = some c → w.cell? ⟨b, 0 + i * sz + j, none⟩ = some (vals i j)) ∧
      ∀ (i j : Nat) (row : List V) (c : V), xs[i]? = some row → row[j]? = some c → CV S w c (vals i j) ∧ (vals i j).oneCell' = true := by
  have lq := (List.getElem?_eq_some_iff.1 hq).1
  obtain ⟨l, hql⟩ : ∃ l, ι[q]? = some l := ⟨ι[q]'(by rw [hm.len]; exact lq), by simp⟩
  have hO := hm.obj q _ _ hq hql
  cases l with
  | row v => exact hO.elim
  | box b => exact hO.elim
  | map r => exact hO.elim
  | it r9 m9 => exact hO.elim
  | fam bs => exact hO.elim
  | afm vs =>
    have hr := Val.inv_ref (v := .px q L i j) rfl trivial h
    simp only [RefR, hq, hql] at hr
    rcases hr with ⟨h1, _⟩ | ⟨_, h2, _⟩
    · omega
    · obtain ⟨e, vals, hown, ⟨hvl, hrl, hcv⟩, hone⟩ := hO.2.2.2 _ u xs h2 hk
      have cells : ∀ (i j : Nat) (row : List V) (c : V), xs[i]? = some row → row[j]? = some c → vals[i * sz + j]? = some (vals.getD (i * sz + j) undef) ∧ CV S w c (vals.getD (i * sz + j) undef) ∧ (vals.getD (i * sz + j) undef).oneCell' = true := fun i j row c hi hj => by
        obtain ⟨u, h5, h6⟩ := hcv i j row c hi hj
        have hg : vals.getD (i * sz + j) undef = u := by rw [List.getD_eq_getElem?_getD, h5]; rfl
        rw [hg]
        exact ⟨h5, h6, hone u (List.mem_of_getElem? h5)⟩
      rcases id hown.2 with ⟨rfl, hn⟩ | ⟨g, cap, cur, rfl, _, _, hnc, _⟩
      · exact ⟨none, 0, fun i j => vals.getD (i * sz + j) undef, by rw [hn], by omega, fun hne => absurd (List.eq_nil_of_length_eq_zero hn) hne, fun i j row c hi hj => (cells i j row c hi hj).2⟩
      · refine ⟨_, cap, fun i j => vals.getD (i * sz + j) undef, rfl, hnc, fun _ => ⟨g, rfl, ⟨q, _, _, hq, hql, i.toNat, _, xs, h2, hk, rfl⟩, hrl, fun i j row c hi hj => ?_⟩, fun i j row c hi hj => (cells i j row c hi hj).2⟩
        rw [Nat.zero_add]
        exact row_cell hown (cells i j row c hi hj).1

/-- Values whose references are told by their content. -/
inductive Told (τ : ASt) : V → V → Prop where
  | cl (v : V) (h : v.cl = true) : Told τ v v
  | nil : Told τ .nilS (.im false [])
  | hd (a L off len sz : Nat) (m : Md) (xs : List (List V)) (h : τ[a]? = some (.arr m sz xs)) (hm : m ≠ .raw) (hL : xs.length = L) : Told τ (.hd a L off len) (.im false ((xs.drop off).take len))
  | afm (q L j sz : Nat) (i : Int) (ys : List (Option (List (List V)))) (xs : List (List V)) (h : τ[q]? = some (.afm sz ys)) (h0 : 0 ≤ i) (hk : ys[i.toNat]? = some (some xs)) : Told τ (.px q L i j) (.im false xs)
  | agg (cs ds : List V) (hl : cs.length = ds.length) (h : ∀ (i : Nat) (c d : V), cs[i]? = some c → ds[i]? = some d → Told τ c d) : Told τ (.agg cs) (.agg ds)
  | tup (cs ds : List V) (hl : cs.length = ds.length) (h : ∀ (i : Nat) (c d : V), cs[i]? = some c → ds[i]? = some d → Told τ c d) : Told τ (.tup cs) (.tup ds)

theorem Told.val {S B : Nat → Prop} {ι : List Loc} {τ : ASt} {w : World} (hm : Mem S B ι τ w) {v r : V} (h : Told τ v r) : ∀ {u : Value}, Val S B (RefR ι τ) w v u → CV (fun b => S b ∨ Lv ι τ b) w r u := by
  induction h with
  | cl v h => exact fun hv => (hv.closed (refOk _ _) h).mono (fun _ h => .inl h) fun _ _ => rfl
  | nil =>
    intro u hv
    rw [hv.inv_nilS]
    exact (.im [] none 0 1 (fun _ _ => undef) (Nat.le_refl _) (fun h => absurd rfl h) (fun i j row c h => by simp at h) fun i j row c h => by simp at h)
  | hd p L off len sz m xs hs hmm hL =>
    intro u hv
    have hsr : srcRows τ (.hd p L off len) = some ((xs.drop off).take len) := by
      have : Nat.beq xs.length L = true := by rw [hL]; exact Nat.beq_refl L
      cases m <;> first | exact absurd rfl hmm | simp only [srcRows, hs, this]
    obtain ⟨A, cap, esz, vals, h1, h2, h3, h4⟩ := src_val hm hv hsr
    obtain ⟨v, hι, hle, hz, hnz⟩ := RefR.hd (Val.inv_ref (v := .hd p L off len) rfl trivial hv) hs hL
    obtain ⟨_, e, vals0, hown, _, _, hfz⟩ := hm.obj p _ _ hs hι
    have hb : ∀ b, v.ownBlock = some b → S b ∨ Lv ι τ b := fun b hb => by
      cases m with
      | raw => exact absurd rfl hmm
      | frz => exact .inl (hfz.1 rfl b hb)
      | clo => exact .inr ⟨p, _, _, hs, hι, hb⟩
      | tg t0 => exact .inr ⟨p, _, _, hs, hι, hb⟩
    subst h1
    refine .im _ A cap esz vals h2 (fun hne => ?_) (fun i j row c hi hj => (h4 i j row c hi hj).1.mono (fun _ h => .inl h) fun _ _ => rfl) fun i j row c hi hj => (h4 i j row c hi hj).1.one' (h4 i j row c hi hj).2
    obtain ⟨b, o2, rfl, h6, h7, h8⟩ := h3 hne
    refine ⟨b, o2, rfl, ?_, h7, h8⟩
    have hlen : ((xs.drop off).take len).length ≠ 0 := fun h => hne (List.eq_nil_of_length_eq_zero h)
    have hlen0 : len ≠ 0 := fun h => hlen (by simp [h])
    by_cases ho : off = 0
    · obtain ⟨A', c, hv, hu⟩ := hz ho
      injection hu with hu
      subst hu
      exact hb b (by rw [hv]; rfl)
    · obtain ⟨b', c, A', c', hv, hu, _, hA⟩ := hnz ho
      injection hu with hu
      have := hA hlen0
      rw [← hu] at this
      injection this with this
      injection this with this
      subst this
      exact hb b (by rw [hv]; rfl)
  | afm q L j sz i ys xs hs h0 hk =>
    intro u hv
    obtain ⟨A, cap, vals, rfl, h2, h3, h4⟩ := afm_val hm hs h0 hk hv
    refine .im _ A cap sz vals h2 (fun hne => ?_) (fun i j row c hi hj => (h4 i j row c hi hj).1.mono (fun _ h => .inl h) fun _ _ => rfl) fun i j row c hi hj => (h4 i j row c hi hj).1.one' (h4 i j row c hi hj).2
    obtain ⟨b, rfl, h6, h7, h8⟩ := h3 hne
    exact ⟨b, 0, rfl, .inr h6, h7, h8⟩
  | agg cs ds hl _ ih =>
    intro u hv
    obtain ⟨us, rfl, h1, h2⟩ := hv.inv_agg
    refine .agg ds us (by omega) fun i d u hd hu => ?_
    have hi : i < cs.length := by rw [hl]; exact (List.getElem?_eq_some_iff.1 hd).1
    exact ih i cs[i] d (by simp) hd (h2 i cs[i] u (by simp) hu)
  | tup cs ds hl _ ih =>
    intro u hv
    obtain ⟨us, rfl, h1, h2⟩ := hv.inv_tup
    refine .tup ds us (by omega) fun i d u hd hu => ?_
    have hi : i < cs.length := by rw [hl]; exact (List.getElem?_eq_some_iff.1 hd).1
    exact ih i cs[i] d (by simp) hd (h2 i cs[i] u (by simp) hu)

/-- Values as they are handed to a call that has no store: what may turn later is borrowed. -/
inductive Lent (σ : ASt) : V → V → Prop where
  | cl (v : V) (h : v.cl = true) : Lent σ v v
  | nil : Lent σ .nilS (.im false [])
  | im (xs : List (List V)) : Lent σ (.im true xs) (.im true xs)
  | rf (cells : List V) : Lent σ (.rf true cells) (.rf true cells)
  | hd (a L off len sz : Nat) (m : Md) (xs : List (List V)) (h : σ[a]? = some (.arr m sz xs)) (hm : m ≠ .raw) (hL : xs.length = L) : Lent σ (.hd a L off len) (.im true ((xs.drop off).take len))
  | afm (q L j sz : Nat) (i : Int) (ys : List (Option (List (List V)))) (xs : List (List V)) (h : σ[q]? = some (.afm sz ys)) (h0 : 0 ≤ i) (hk : ys[i.toNat]? = some (some xs)) : Lent σ (.px q L i j) (.im true xs)
  | agg (cs ds : List V) (hl : cs.length = ds.length) (h : ∀ (i : Nat) (c d : V), cs[i]? = some c → ds[i]? = some d → Lent σ c d) : Lent σ (.agg cs) (.agg ds)
  | fn (f : FuncId) (first caps first' caps' : List V) (h1 : first.length = first'.length) (h2 : caps.length = caps'.length) (hf : ∀ (i : Nat) (c d : V), first[i]? = some c → first'[i]? = some d → Lent σ c d)
      (hk : ∀ (i : Nat) (c d : V), caps[i]? = some c → caps'[i]? = some d → Lent σ c d) : Lent σ (.fn f first caps) (.fn f first' caps')

theorem Lent.val {S B : Nat → Prop} {ι : List Loc} {w : World} (hm : Mem S B ι σ w) {v r : V} (h : Lent σ v r) : ∀ {u : Value}, Val S B (RefR ι σ) w v u → Val S (fun b => B b ∨ S b ∨ Lv ι σ b) (RefR [] []) w r u := by
  induction h with
  | cl v h => exact fun hv => .cv _ _ (hv.closed (refOk _ _) h)
  | nil =>
    intro u hv
    rw [hv.inv_nilS]
    exact .cv _ _ (.im [] none 0 1 (fun _ _ => undef) (Nat.le_refl _) (fun h => absurd rfl h) (fun i j row c h => by simp at h) fun i j row c h => by simp at h)
  | im xs =>
    intro u hv
    obtain ⟨A, cap, esz, vals, rfl, h2, h3, h4, h5⟩ := hv.inv_im
    exact .imB xs A cap esz vals h2 (fun hne => by
      obtain ⟨b, off, k1, _, _, k2, k3, k4⟩ := h3 hne
      exact ⟨b, off, k1, .inl (k2 rfl), k3, k4⟩) h4 h5
  | rf cells =>
    intro u hv
    obtain ⟨b, off, vals, rfl, _, h2, h3, h4, h5⟩ := hv.inv_rf
    exact .rfB cells b off vals (.inl (h2 rfl)) h3 h4 h5
  | hd p L off len sz m xs hs hmm hL =>
    intro u hv
    have hsr : srcRows σ (.hd p L off len) = some ((xs.drop off).take len) := by
      have : Nat.beq xs.length L = true := by rw [hL]; exact Nat.beq_refl L
      cases m <;> first | exact absurd rfl hmm | simp only [srcRows, hs, this]
    obtain ⟨A, cap, esz, vals, h1, h2, h3, h4⟩ := src_val hm hv hsr
    obtain ⟨v, hι, hle, hz, hnz⟩ := RefR.hd (Val.inv_ref (v := .hd p L off len) rfl trivial hv) hs hL
    obtain ⟨_, e, vals0, hown, _, _, hfz⟩ := hm.obj p _ _ hs hι
    have hb : ∀ b, v.ownBlock = some b → S b ∨ Lv ι σ b := fun b hb => by
      cases m with
      | raw => exact absurd rfl hmm
      | frz => exact .inl (hfz.1 rfl b hb)
      | clo => exact .inr ⟨p, _, _, hs, hι, hb⟩
      | tg t0 => exact .inr ⟨p, _, _, hs, hι, hb⟩
    subst h1
    refine .imB _ A cap esz vals h2 (fun hne => ?_) (fun i j row c hi hj => (h4 i j row c hi hj).1) fun i j row c hi hj => (h4 i j row c hi hj).1.one' (h4 i j row c hi hj).2
    obtain ⟨b, o2, rfl, h6, h7, h8⟩ := h3 hne
    refine ⟨b, o2, rfl, .inr ?_, h7, h8⟩
    have hlen : ((xs.drop off).take len).length ≠ 0 := fun h => hne (List.eq_nil_of_length_eq_zero h)
    have hlen0 : len ≠ 0 := fun h => hlen (by simp [h])
    by_cases ho : off = 0
    · obtain ⟨A', c, hv, hu⟩ := hz ho
      injection hu with hu
      subst hu
      exact hb b (by rw [hv]; rfl)
    · obtain ⟨b', c, A', c', hv, hu, _, hA⟩ := hnz ho
      injection hu with hu
      have := hA hlen0
      rw [← hu] at this
      injection this with this
      injection this with this
      subst this
      exact hb b (by rw [hv]; rfl)
  | afm q L j sz i ys xs hs h0 hk =>
    intro u hv
    obtain ⟨A, cap, vals, rfl, h2, h3, h4⟩ := afm_val hm hs h0 hk hv
    refine .imB _ A cap sz vals h2 (fun hne => ?_) (fun i j row c hi hj => (h4 i j row c hi hj).1) fun i j row c hi hj => (h4 i j row c hi hj).1.one' (h4 i j row c hi hj).2
    obtain ⟨b, rfl, h6, h7, h8⟩ := h3 hne
    exact ⟨b, 0, rfl, .inr (.inr h6), h7, h8⟩
  | agg cs ds hl _ ih =>
    intro u hv
    obtain ⟨us, rfl, h1, h2⟩ := hv.inv_agg
    refine .agg ds us (by omega) fun i d u hd hu => ?_
    have hi : i < cs.length := by rw [hl]; exact (List.getElem?_eq_some_iff.1 hd).1
    exact ih i cs[i] d (by simp) hd (h2 i cs[i] u (by simp) hu)
  | fn f first caps first' caps' e1 e2 _ _ ih1 ih2 =>
    intro u hv
    obtain ⟨us, ws, rfl, h1, h2, h3, h4⟩ := hv.inv_fn
    refine .fn f first' caps' us ws (by omega) (by omega) (fun i d u hd hu => ?_) fun i d u hd hu => ?_
    · have hi : i < first.length := by rw [e1]; exact (List.getElem?_eq_some_iff.1 hd).1
      exact ih1 i first[i] d (by simp) hd (h3 i first[i] u (by simp) hu)
    · have hi : i < caps.length := by rw [e2]; exact (List.getElem?_eq_some_iff.1 hd).1
      exact ih2 i caps[i] d (by simp) hd (h4 i caps[i] u (by simp) hu)

inductive LentL (σ : ASt) : List V → List V → Prop where
  | nil : LentL σ [] []
  | cons (v r : V) (vs rs : List V) (h : Lent σ v r) (t : LentL σ vs rs) : LentL σ (v :: vs) (r :: rs)

theorem LentL.pw {S B : Nat → Prop} {ι : List Loc} {w : World} (hm : Mem S B ι σ w) {vs rs : List V} (h : LentL σ vs rs) : vs.length = rs.length ∧ ∀ (us : Array Value), PW (Val S B (RefR ι σ) w) vs us → PW (Val S (fun b => B b ∨ S b ∨ Lv ι σ b) (RefR [] []) w) rs us := by
  have key : vs.length = rs.length ∧ ∀ (i : Nat) (r : V), rs[i]? = some r → ∃ v, vs[i]? = some v ∧ Lent σ v r := by
    induction h with
    | nil => simp
    | cons v r vs rs h _ ih =>
      refine ⟨by simp [ih.1], fun i x hx => ?_⟩
      cases i with
      | zero => simp at hx; subst hx; exact ⟨v, rfl, h⟩
      | succ i => simp at hx ⊢; exact ih.2 i x hx
  refine ⟨key.1, fun us hp => ⟨by rw [← key.1]; exact hp.1, fun i r u hr hu => ?_⟩⟩
  obtain ⟨v, h1, h2⟩ := key.2 i r hr
  exact h2.val hm (hp.2 i v u h1 hu)

/-- A function of values: called without a store it answers r. -/
def Pure (P : Program) (f : FuncId) (args : List V) (r : V) : Prop := CallT P f args [] fun v τ => Told τ v r

theorem Mem.none {S B : Nat → Prop} {ι : List Loc} {w : World} (hm : Mem S B ι σ w) : Mem S (fun b => B b ∨ S b ∨ Lv ι σ b) [] [] w :=
  ⟨rfl, fun a o l h => by simp at h, fun a o l a' o' l' b h => by simp at h, fun a o l b h => by simp at h, fun b hb => by
    rcases hb with h | h | h | h
    · exact hm.ltS b (.inl h)
    · exact hm.ltS b (.inr h)
    · exact hm.ltS b (.inl h)
    · exact hm.lv_lt h, hm.gl⟩

theorem Lv_nil {b : Nat} : ¬ Lv [] [] b := fun ⟨a, o, l, h, _⟩ => by simp at h

/-- A call of a function of values. -/
theorem o_callP {x : Operand} {args : Array Operand} {ts : Array TypeId} {f : FuncId} {first caps vs rs : List V} {r : V} (ho : o.op = .call { callee := .value x, args := args, argTypes := ts })
    (hcall : ∀ (us : Array Value) (w : World), (callFunc f us).run P w = .ok (.enter f us) w) (hx : evalE fr x = some (.fn f first caps)) (ha : evalL fr args.toList = some vs) (hl : LentL σ (first ++ vs ++ caps) rs) (h : Pure P f rs r) :
    Does P o fr σ r σ := fun S B ι a w he hm next Q hk => by
  obtain ⟨us, h1, h2⟩ := call_run ho hcall he hx ha
  unfold Oper.wp
  rw [h1]
  refine (h S (fun b => B b ∨ S b ∨ Lv ι σ b) [] us w hm.none ((hl.pw hm).2 us h2)).mono ?_
  rintro e w' ⟨u, v, τ, S1, ι1, rfl, hT, hv, hm1, hf⟩
  have hcv := hT.val hm1 hv
  have g : Grown w w' := ⟨hf.os, hf.tape, hf.output, hf.size, fun b hb => hf.keep b hb Lv_nil⟩
  have hnew : ∀ b, S1 b ∨ Lv ι1 τ b → S b ∨ w.heap.size ≤ b := fun b hb => by
    rcases hb with hb | hb
    · rcases hf.new b hb with h | h | h
      · exact .inl h
      · exact absurd h Lv_nil
      · exact .inr h
    · rcases hf.lv b hb with h | h
      · exact absurd h Lv_nil
      · exact .inr h
  obtain ⟨hm', hf'⟩ := hm.grow g (fun b => (S1 b ∨ Lv ι1 τ b) ∧ w.heap.size ≤ b) fun b hb => ⟨hb.2, by
    rcases hb.1 with h | h
    · exact hm1.ltS b (.inl h)
    · exact hm1.lv_lt h⟩
  exact hk u _ ι w' (.cv _ _ (hcv.mono (fun b hb => by
    rcases hnew b hb with h | h
    · exact .inl h
    · exact .inr ⟨hb, h⟩) fun _ _ => rfl)) hm' hf'
end
end Go.G36
