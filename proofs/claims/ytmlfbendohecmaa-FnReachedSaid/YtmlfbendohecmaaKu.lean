/- Maps with plain keys. -/
import Derived.Test.YtmlfbendohecmaaKua
import Derived.MapKept
namespace Go.G36
variable [Genv]
set_option linter.all false
open Go

/-! ### As lists -/
def mfind {κ ε : Type} [BEq κ] (k : κ) : List (κ × ε) → Nat → Option (Nat × ε)
  | [], _ => none
  | e :: r, i => bif k == e.1 then some (i, e.2) else mfind k r (i + 1)
def mget {κ ε : Type} [BEq κ] (xs : List (κ × ε)) (k : κ) : Option ε := (mfind k xs 0).map (·.2)
def mput {κ ε : Type} [BEq κ] (xs : List (κ × ε)) (k : κ) (v : ε) : List (κ × ε) := match mfind k xs 0 with
  | none => xs ++ [(k, v)]
  | some (j, _) => xs.set j (k, v)

theorem mfind_at {κ ε : Type} [BEq κ] {k : κ} : ∀ (xs : List (κ × ε)) (i j : Nat) (v : ε), mfind k xs i = some (j, v) → i ≤ j ∧ ∃ k', xs[j - i]? = some (k', v) ∧ (k == k') = true
  | [], i, j, v, h => by simp [mfind] at h
  | e :: r, i, j, v, h => by
    rw [mfind] at h
    cases hb : (k == e.1) with
    | true =>
      rw [hb] at h
      simp only [cond_true, Option.some.injEq, Prod.mk.injEq] at h
      obtain ⟨rfl, rfl⟩ := h
      exact ⟨Nat.le_refl _, e.1, by simp, hb⟩
    | false =>
      rw [hb] at h
      simp only [cond_false] at h
      obtain ⟨h1, k', h2, h3⟩ := mfind_at r (i + 1) j v h
      refine ⟨by omega, k', ?_, h3⟩
      have : j - i = (j - (i + 1)) + 1 := by omega
      rw [this, List.getElem?_cons_succ]
      exact h2

/-- Keys of one plain kind. -/
structure KeyP (P : Program) (kt : TypeId) {κ : Type} [BEq κ] (fk : κ → V) : Prop where
  ex : ∃ d, P.underlying kt = some d ∧ ∀ (a b : κ) (S : Nat → Prop) (w : World) (ua ub : Value), CV S w (fk a) ua → CV S w (fk b) ub → MapKept.IsKey d ua ∧ Instr.sameNow d ua ub = some (a == b) ∧ ((a == b) = true → ua = ub)
/-- Keys: checked, found, and alike just where they are the same. -/
structure KeyK (P : Program) (kt : TypeId) {κ : Type} [BEq κ] (fk : κ → V) : Prop where
  chk : ∀ (a : κ) (S : Nat → Prop) (w : World) (ua : Value), CV S w (fk a) ua → ∀ e, (Instr.checkKey e 10000 kt ua).run P w = .ok () w
  fnd : ∀ (k : κ) (S : Nat → Prop) (w : World) (uk : Value), CV S w (fk k) uk → ∀ (ε : Type) (xs : List (κ × ε)) (l : List MapEntry), l.length = xs.length →
    (∀ (q : Nat) (x : κ × ε) (m : MapEntry), xs[q]? = some x → l[q]? = some m → CV S w (fk x.1) m.key) →
    (Instr.findKey kt uk l).run P w = .ok (match mfind k xs 0 with | none => none | some (j, _) => (l[j - 0]?).map fun m => (j, m.val)) w
  eqv : ∀ (a b : κ) (S : Nat → Prop) (w : World) (ua ub : Value), CV S w (fk a) ua → CV S w (fk b) ub → (a == b) = true → ua = ub
  sty : ∀ (a : κ) (S : Nat → Prop) (w : World) (ua : Value), CV S w (fk a) ua → (Instr.keyThatStays ua ua).run P w = .ok ua w

theorem keyP_str {P : Program} {kt : TypeId} (h : P.underlying kt = some .string) : KeyP P kt (κ := ByteArray) V.str := ⟨_, h, fun a b S w ua ub h1 h2 => by
  cases h1; cases h2
  refine ⟨trivial, rfl, fun hb => ?_⟩
  congr 1
  exact (MapKept.bytes_beq _ _).1 hb⟩
def mpO {κ ε : Type} (fk : κ → V) (fv : ε → V) (xs : List (κ × ε)) : AO := .mp (xs.map fun e => (fk e.1, fv e.2))

theorem findNow_of {κ ε : Type} [BEq κ] {fk : κ → V} {d : TypeDesc} {S : Nat → Prop} {w : World} {k : κ} {uk : Value} (hk : CV S w (fk k) uk)
    (hd : ∀ (a b : κ) (S : Nat → Prop) (w : World) (ua ub : Value), CV S w (fk a) ua → CV S w (fk b) ub → MapKept.IsKey d ua ∧ Instr.sameNow d ua ub = some (a == b) ∧ ((a == b) = true → ua = ub)) :
    ∀ (xs : List (κ × ε)) (l : List MapEntry) (i : Nat), l.length = xs.length → (∀ (q : Nat) (x : κ × ε) (m : MapEntry), xs[q]? = some x → l[q]? = some m → CV S w (fk x.1) m.key) →
      Instr.findNow d uk l i = some (match mfind k xs i with | none => none | some (j, _) => (l[j - i]?).map fun m => (j, m.val))
  | [], [], i, _, _ => rfl
  | [], m :: l, i, h, _ => by simp at h
  | x :: xs, [], i, h, _ => by simp at h
  | x :: xs, m :: l, i, h, hc => by
    have h1 := (hd k x.1 S w uk m.key hk (hc 0 x m rfl rfl)).2.1
    rw [Instr.findNow, h1, mfind]
    cases hb : (k == x.1) with
    | true => simp
    | false =>
      simp only [cond_false]
      rw [findNow_of hk hd xs l (i + 1) (by simpa using h) fun q y m' hy hm => hc (q + 1) y m' (by simpa using hy) (by simpa using hm)]
      cases hf : mfind k xs (i + 1) with
      | none => rfl
      | some z =>
        obtain ⟨j, v⟩ := z
        have := (mfind_at xs (i + 1) j v hf).1
        have e : j - i = (j - (i + 1)) + 1 := by omega
        simp only [e, List.getElem?_cons_succ]

theorem KeyP.key {P : Program} {kt : TypeId} {κ : Type} [BEq κ] {fk : κ → V} (h : KeyP P kt fk) : KeyK P kt fk := by
  obtain ⟨d, hd, hK⟩ := h
  refine ⟨fun a S w ua ha e => MapKept.run_checkKey hd (hK a a S w _ _ ha ha).1 e 9999, fun k S w uk hk ε xs l hl hc => MapKept.run_findKey hd (findNow_of hk hK xs l 0 hl hc), fun a b S w ua ub ha hb => (hK a b S w _ _ ha hb).2.2, fun a S w ua ha => MapKept.run_keyThatStays (hK a a S w _ _ ha ha).1⟩
theorem key_str {P : Program} {kt : TypeId} (h : P.underlying kt = some .string) : KeyK P kt (κ := ByteArray) V.str := (keyP_str h).key
theorem Born.nil (c : Nat) : Born #[] c := ⟨fun i m h => by simp at h, fun i j m m' h => by simp at h⟩
theorem Born.push {en : Array MapEntry} {c : Nat} (h : Born en c) (e : MapEntry) (he : e.born = c) : Born (en.push e) (c + 1) := by
  have hp : ∀ (i : Nat) (m : MapEntry), (en.push e)[i]? = some m → (i < en.size ∧ en[i]? = some m ∧ m.born < c) ∨ (i = en.size ∧ m.born = c) := fun i m hi => by
    rw [Array.getElem?_push] at hi
    split at hi
    · rename_i h1; injection hi with hi; subst hi; exact .inr ⟨h1, he⟩
    · exact .inl ⟨(Array.getElem?_eq_some_iff.1 hi).1, hi, h.1 i m hi⟩
  refine ⟨fun i m hi => ?_, fun i j m m' hi hj hb => ?_⟩
  · rcases hp i m hi with ⟨_, _, h1⟩ | ⟨_, h1⟩ <;> omega
  · rcases hp i m hi with ⟨a1, a2, a3⟩ | ⟨a1, a3⟩ <;> rcases hp j m' hj with ⟨b1, b2, b3⟩ | ⟨b1, b3⟩
    · exact h.2 i j m m' a2 b2 hb
    · omega
    · omega
    · omega
theorem Born.modify {en : Array MapEntry} {c : Nat} (h : Born en c) (j : Nat) (f : MapEntry → MapEntry) (hf : ∀ e, (f e).born = e.born) : Born (en.modify j f) c := by
  have hp : ∀ (i : Nat) (m : MapEntry), (en.modify j f)[i]? = some m → ∃ m0, en[i]? = some m0 ∧ m.born = m0.born := fun i m hi => by
    rw [Array.getElem?_modify] at hi
    by_cases hij : j = i
    · subst hij
      rw [if_pos rfl] at hi
      cases he : en[j]? with
      | none => rw [he] at hi; cases hi
      | some m0 => rw [he] at hi; injection hi with hi; subst hi; exact ⟨m0, rfl, hf m0⟩
    · rw [if_neg hij] at hi; exact ⟨m, hi, rfl⟩
  refine ⟨fun i m hi => ?_, fun i k m m' hi hk hb => ?_⟩
  · obtain ⟨m0, h1, h2⟩ := hp i m hi
    rw [h2]; exact h.1 i m0 h1
  · obtain ⟨m0, h1, h2⟩ := hp i m hi
    obtain ⟨m1, h3, h4⟩ := hp k m' hk
    exact h.2 i k m0 m1 h1 h3 (by rw [← h2, ← h4, hb])

section
variable {P : Program} {o : Oper} {fr : Fr} {σ : ASt}

theorem o_makeMap {t : TypeId} (ho : o.op = .makeMap t none) : Does P o fr σ (.mp σ.length) (σ ++ [.mp []]) := fun S B ι a w he hm next Q hk => by
  have g := Grown.alloc w (.map #[] 0)
  obtain ⟨hm', hf⟩ := hm.push g (.mp []) (.map w.heap.size) (fun b hb => by simp [live, Loc.block] at hb; omega) ⟨#[], 0, heap_alloc_new w _, rfl, Born.nil 0, fun i k x m h => by simp at h⟩
  have hr : (execOp a.eval o).run P w = .ok (.value (.map (some w.heap.size))) (w.alloc (.map #[] 0)) := by simp [execOp, ho, Instr.makeMap]
  unfold Oper.wp
  rw [hr]
  refine hk _ S _ _ (.ref _ _ ?_) hm' hf
  simp [RefR, hm.len]

theorem mp_of {S B : Nat → Prop} {ι : List Loc} {w : World} (hm : Mem S B ι σ w) {p : Nat} {u : Value} {es : List (V × V)} (h : Val S B (RefR ι σ) w (.mp p) u) (hs : σ[p]? = some (.mp es)) :
    ∃ r en clock, u = .map (some r) ∧ ι[p]? = some (.map r) ∧ w.heap[r]? = some (.map en clock) ∧ en.size = es.length ∧ Born en clock ∧ ∀ (i : Nat) (k x : V) (m : MapEntry), es[i]? = some (k, x) → en[i]? = some m → CV S w k m.key ∧ Val S B (RefR ι σ) w x m.val := by
  obtain ⟨r, h1, h2⟩ := RefR.mp (Val.inv_ref (v := .mp p) rfl trivial h) hs
  exact (hm.obj p _ _ hs h1).elim fun en h => h.elim fun clock h => ⟨r, en, clock, h2, h1, h⟩

/-- m[k] -/
theorem o_lookup {t kt et : TypeId} {x y : Operand} {p : Nat} {κ ε : Type} [BEq κ] {fk : κ → V} {fv : ε → V} {xs : List (κ × ε)} {k : κ} {z : ε} (ho : o.op = .lookup t x y false) (ht : P.underlying t = some (.map kt et)) (hK : KeyK P kt fk)
    (hx : evalE fr x = some (.mp p)) (hy : evalE fr y = some (fk k)) (hcl : (fk k).cl = true) (hs : σ[p]? = some (mpO fk fv xs)) (hz : ∀ (S : Nat → Prop) (w : World), ∃ zu, (zeroValue et).run P w = .ok zu w ∧ CV S w (fv z) zu) :
    Does P o fr σ (fv ((mget xs k).getD z)) σ := quiet fun S B ι a w he hm => by
  obtain ⟨r, en, clock, h1, _, h3, h4, _, h5⟩ := mp_of hm (he x (by simp [ho, Op.operands]) _ hx) hs
  have hky := (he y (by simp [ho, Op.operands]) _ hy).closed (refOk _ _) hcl
  have hlen : en.toList.length = xs.length := by simpa using h4
  have hfk := hK.fnd k S w _ hky ε xs en.toList hlen fun q x' m' hx' hm' => (h5 q _ _ m' (by rw [List.getElem?_map, hx']; rfl) (by simpa using hm')).1
  have hck := hK.chk k S w _ hky en.isEmpty
  obtain ⟨zu, hz1, hz2⟩ := hz S w
  cases hf : mfind k xs 0 with
  | none =>
    rw [hf] at hfk
    refine ⟨zu, ?_, ?_⟩
    · simp [execOp, ho, h1, Instr.lookup, run_underlying ht, MapKept.run_getObj_map h3, hck, hfk, hz1, Result.andThen]
    · simp only [mget, hf, Option.map_none, Option.getD_none]; exact .cv _ _ hz2
  | some jv =>
    obtain ⟨j, v⟩ := jv
    obtain ⟨_, k', hj, _⟩ := mfind_at xs 0 j v hf
    rw [Nat.sub_zero] at hj
    have hjl : j < en.toList.length := by rw [hlen]; exact (List.getElem?_eq_some_iff.1 hj).1
    have hm2 : en[j]? = some en.toList[j] := by simp
    rw [hf] at hfk
    simp only [Nat.sub_zero] at hfk
    have hej : en.toList[j]? = some en.toList[j] := by simp
    rw [hej] at hfk
    simp only [Option.map_some] at hfk
    refine ⟨en.toList[j].val, ?_, ?_⟩
    · simp [execOp, ho, h1, Instr.lookup, run_underlying ht, MapKept.run_getObj_map h3, hck, hfk, Result.andThen]
    · simp only [mget, hf, Option.map_some, Option.getD_some]
      exact (h5 j _ _ _ (by rw [List.getElem?_map, hj]; rfl) hm2).2

/-- A map's object is written. -/
theorem map_step {S B : Nat → Prop} {ι : List Loc} {w : World} (hm : Mem S B ι σ w) {p r : Nat} {es es' : List (V × V)} {en en' : Array MapEntry} {clock clock' : Nat} (hs : σ[p]? = some (.mp es)) (hι : ι[p]? = some (.map r))
    (hb : w.heap[r]? = some (.map en clock)) (hsz : en'.size = es'.length) (hbn : Born en' clock')
    (hobj : ∀ (i : Nat) (k x : V) (m : MapEntry), es'[i]? = some (k, x) → en'[i]? = some m → CV S w k m.key ∧ Val S B (RefR ι σ) w x m.val) :
    Mem S B ι (σ.set p (.mp es')) { w with heap := w.heap.setIfInBounds r (.map en' clock') } ∧ Fw S ι σ w S ι (σ.set p (.mp es')) { w with heap := w.heap.setIfInBounds r (.map en' clock') } := by
  have hrl : r < w.heap.size := (Array.getElem?_eq_some_iff.1 hb).1
  obtain ⟨k1, k2⟩ := MapKept.heap_set (o' := .map en' clock') hb
  have hιs : ι.set p (.map r) = ι := by
    apply List.ext_getElem?
    intro q
    by_cases hq : p = q
    · subst hq; rw [List.getElem?_set_self (List.getElem?_eq_some_iff.1 hι).1, hι]
    · rw [List.getElem?_set_ne hq]
  have hout := hm.outS p _ _ r hs hι rfl
  have href : ∀ v u, RefR ι σ v u → RefR ι (σ.set p (.mp es')) v u := fun v u h => by
    have := RefR.set (o' := .mp es') hs hι trivial h
    rwa [hιs] at this
  have hst := Mem.step (S' := S) (w' := { w with heap := w.heap.setIfInBounds r (.map en' clock') }) (o' := .mp es') (l' := .map r) hm hs hι rfl rfl rfl (by simp) (fun b hb' hne => k2 b fun e => hne (by rw [e]; rfl)) (fun _ h => h) (fun _ h => .inl h)
    (fun b hb' => by simpa using hm.ltS b (.inl hb')) (fun v u h => by rw [hιs]; exact href v u h) ⟨en', clock', k1, hsz, hbn, fun i k x m h1 h2 => by
      obtain ⟨h3, h4⟩ := hobj i k x m h1 h2
      have same : ∀ b, S b ∨ B b → (w.heap.setIfInBounds r (.map en' clock'))[b]? = w.heap[b]? := fun b hb' => k2 b fun e => hout (e ▸ hb')
      refine ⟨h3.mono (fun _ h => h) fun b hb' => same b (.inl hb'), h4.mono (fun _ h => h) (fun _ h => h) (fun v u h => by rw [hιs]; exact href v u h) same⟩⟩
    (fun b hb' => by
      simp [live, Loc.block] at hb'; subst hb'
      exact ⟨.inl rfl, fun h => hout (.inl h)⟩)
  rw [hιs] at hst
  exact hst

/-- m[k] = v -/
theorem o_mapUpdate {t kt et : TypeId} {x y z : Operand} {p : Nat} {κ ε : Type} [BEq κ] {fk : κ → V} {fv : ε → V} {xs : List (κ × ε)} {k : κ} {v : ε} (ho : o.op = .mapUpdate t x y z) (ht : P.underlying t = some (.map kt et)) (hK : KeyK P kt fk)
    (hx : evalE fr x = some (.mp p)) (hy : evalE fr y = some (fk k)) (hz : evalE fr z = some (fv v)) (hcl : (fk k).cl = true) (hs : σ[p]? = some (mpO fk fv xs)) :
    Does P o fr σ .any (σ.set p (mpO fk fv (mput xs k v))) := fun S B ι a w he hm next Q hkk => by
  obtain ⟨r, en, clock, h1, hι, h3, h4, hB, h5⟩ := mp_of hm (he x (by simp [ho, Op.operands]) _ hx) hs
  have hky := (he y (by simp [ho, Op.operands]) _ hy).closed (refOk _ _) hcl
  have hvz := he z (by simp [ho, Op.operands]) _ hz
  have hlen : en.toList.length = xs.length := by simpa using h4
  have hfk := hK.fnd k S w _ hky ε xs en.toList hlen fun q x' m' hx' hm' => (h5 q _ _ m' (by rw [List.getElem?_map, hx']; rfl) (by simpa using hm')).1
  have hck := hK.chk k S w _ hky false
  unfold Oper.wp
  cases hf : mfind k xs 0 with
  | none =>
    rw [hf] at hfk
    have hr : (execOp a.eval o).run P w = .ok .skip { w with heap := w.heap.setIfInBounds r (.map (en.push { key := a.eval y, val := a.eval z, born := clock }) (clock + 1)) } := by
      simp [execOp, ho, h1, Instr.mapUpdate, run_underlying ht, MapKept.run_getObj_map h3, hck, hfk, MapKept.run_setObj_map _ h3, Result.andThen]
    rw [hr]
    obtain ⟨q1, q2⟩ := map_step (es' := (mput xs k v).map fun e => (fk e.1, fv e.2)) (en' := en.push { key := a.eval y, val := a.eval z, born := clock }) (clock' := clock + 1) hm hs hι h3 (by simp [mput, hf]; simpa using h4) (hB.push _ rfl) fun i k0 x0 m0 g1 g2 => by
      simp only [mput, hf, List.map_append, List.map_cons, List.map_nil] at g1
      rw [Array.getElem?_push] at g2
      split at g2
      · rename_i hi
        injection g2 with g2; subst g2
        rw [List.getElem?_append_right (by simp at h4 ⊢; omega)] at g1
        have : i - (xs.map fun e => (fk e.1, fv e.2)).length = 0 := by simp at h4 ⊢; omega
        rw [this] at g1
        simp only [List.getElem?_cons_zero, Option.some.injEq, Prod.mk.injEq] at g1
        obtain ⟨rfl, rfl⟩ := g1
        exact ⟨hky, hvz⟩
      · rename_i hi
        have hlt : i < en.size := (Array.getElem?_eq_some_iff.1 g2).1
        rw [List.getElem?_append_left (by simp at h4 ⊢; omega)] at g1
        exact h5 i k0 x0 m0 g1 g2
    exact hkk _ S ι _ (.any _) q1 q2
  | some jv =>
    obtain ⟨j, v0⟩ := jv
    obtain ⟨_, k', hj, hkk'⟩ := mfind_at xs 0 j v0 hf
    rw [Nat.sub_zero] at hj
    have hjl : j < en.toList.length := by rw [hlen]; exact (List.getElem?_eq_some_iff.1 hj).1
    have hjl2 : j < en.size := by simpa using hjl
    have hej : en.toList[j]? = some en.toList[j] := by simp
    rw [hf] at hfk
    simp only [Nat.sub_zero] at hfk
    rw [hej] at hfk
    simp only [Option.map_some] at hfk
    have hek : CV S w (fk k') en[j].key := (h5 j _ _ en[j] (by rw [List.getElem?_map, hj]; rfl) (by simp [hjl2])).1
    have hsame : en[j].key = a.eval y := (hK.eqv k k' S w _ _ hky hek hkk').symm
    have hstay : (Instr.keyThatStays (((en[j]?).map (·.key)).getD (a.eval y)) (a.eval y)).run P w = .ok (a.eval y) w := by
      have : ((en[j]?).map (·.key)).getD (a.eval y) = a.eval y := by simp [hjl2, hsame]
      rw [this]
      exact hK.sty k S w _ hky
    have hr : (execOp a.eval o).run P w = .ok .skip { w with heap := w.heap.setIfInBounds r (.map (en.modify j fun e => { e with key := a.eval y, val := a.eval z }) clock) } := by
      simp [execOp, ho, h1, Instr.mapUpdate, run_underlying ht, MapKept.run_getObj_map h3, hck, hfk, MapKept.run_setObj_map _ h3, hstay, Result.andThen]
    rw [hr]
    obtain ⟨q1, q2⟩ := map_step (es' := (mput xs k v).map fun e => (fk e.1, fv e.2)) (en' := en.modify j fun e => { e with key := a.eval y, val := a.eval z }) (clock' := clock) hm hs hι h3 (by simp [mput, hf]; simpa using h4) (hB.modify j _ fun _ => rfl) fun i k0 x0 m0 g1 g2 => by
      simp only [mput, hf, List.map_set] at g1
      rw [Array.getElem?_modify] at g2
      by_cases hij : j = i
      · subst hij
        rw [List.getElem?_set_self (by simp at h4 ⊢; omega)] at g1
        simp only [if_true] at g2
        injection g1 with g1
        obtain ⟨rfl, rfl⟩ := Prod.mk.injEq .. ▸ g1
        simp [hjl2] at g2
        subst g2
        exact ⟨hky, hvz⟩
      · rw [List.getElem?_set_ne hij] at g1
        simp only [hij, if_false] at g2
        exact h5 i k0 x0 m0 g1 g2
    exact hkk _ S ι _ (.any _) q1 q2

end

theorem belMap {N : Nat} {κ ε : Type} {fk : κ → V} {fv : ε → V} {xs : List (κ × ε)} (h : ∀ e, bel N (fv e) = true) : belO N (mpO fk fv xs) := by
  intro e he
  obtain ⟨x, _, rfl⟩ := List.mem_map.1 he
  exact h x.2
inductive RenL (f : Nat → Nat) : ASt → ASt → Prop where
  | nil : RenL f [] []
  | cons (o o' : AO) (r r' : ASt) (h : renO f o = o') (t : RenL f r r') : RenL f (o :: r) (o' :: r')
theorem RenL.map {f : Nat → Nat} {a b : ASt} (h : RenL f a b) : a.map (renO f) = b := by
  induction h with
  | nil => rfl
  | cons o o' r r' h _ ih => simp [h, ih]
theorem CV.imNil {S : Nat → Prop} {w : World} : CV S w (.im false []) (.slice none 0 0) :=
  .im [] none 0 1 (fun _ _ => undef) (Nat.le_refl _) (fun h => absurd rfl h) (fun i j row c h => by simp at h) fun i j row c h => by simp at h
end Go.G36
