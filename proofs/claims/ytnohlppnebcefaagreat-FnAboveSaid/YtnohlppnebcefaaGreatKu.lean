/- Maps with plain keys. -/
import Derived.Test.YtnohlppnebcefaaGreatKua
import Derived.MapKept
namespace Go.G36
variable [Genv]
set_option linter.all false
open Go

/-! ### As lists -/
def mfind {κ ε : Type} [BEq κ] (k : κ) : List (κ × ε) → Nat → Option (Nat × ε)
  | [], _ => none
  | e :: r, i => bif k == e.1 then some (i, e.2) else mfind k r (i + 1)
def mget {κ ε : Type} [BEq κ] (xs : List (κ × ε)) (k : κ) : Option ε := (mfind k xs 0).map (·.2)
def mput {κ ε : Type} [BEq κ] (xs : List (κ × ε)) (k : κ) (v : ε) : List (κ × ε) := match mfind k xs 0 with
  | none => xs ++ [(k, v)]
  | some (j, _) => xs.set j (k, v)

theorem mfind_at {κ ε : Type} [BEq κ] {k : κ} : ∀ (xs : List (κ × ε)) (i j : Nat) (v : ε), mfind k xs i = some (j, v) → i ≤ j ∧ ∃ k', xs[j - i]? = some (k', v) ∧ (k == k') = true
  | [], i, j, v, h => by simp [mfind] at h
  | e :: r, i, j, v, h => by
    rw [mfind] at h
    cases hb : (k == e.1) with
    | true =>
      rw [hb] at h
      simp only [cond_true, Option.some.injEq, Prod.mk.injEq] at h
      obtain ⟨rfl, rfl⟩ := h
      exact ⟨Nat.le_refl _, e.1, by simp, hb⟩
    | false =>
      rw [hb] at h
      simp only [cond_false] at h
      obtain ⟨h1, k', h2, h3⟩ := mfind_at r (i + 1) j v h
      refine ⟨by omega, k', ?_, h3⟩
      have : j - i = (j - (i + 1)) + 1 := by omega
      rw [this, List.getElem?_cons_succ]
      exact h2

/-- Keys of one plain kind. -/
structure KeyP (P : Program) (kt : TypeId) {κ : Type} [BEq κ] (fk : κ → V) : Prop where
  ex : ∃ d, P.underlying kt = some d ∧ ∀ (a b : κ) (S : Nat → Prop) (w : World) (ua ub : Value), CV S w (fk a) ua → CV S w (fk b) ub → MapKept.IsKey d ua ∧ Instr.sameNow d ua ub = some (a == b) ∧ ((a == b) = true → ua = ub)
/-- Keys: checked, found, and alike just where they are the same. -/
structure KeyK (P : Program) (kt : TypeId) {κ : Type} [BEq κ] (fk : κ → V) : Prop where
  chk : ∀ (a : κ) (S : Nat → Prop) (w : World) (ua : Value), CV S w (fk a) ua → ∀ e, (Instr.checkKey e 10000 kt ua).run P w = .ok () w
  fnd : ∀ (k : κ) (S : Nat → Prop) (w : World) (uk : Value), CV S w (fk k) uk → ∀ (ε : Type) (xs : List (κ × ε)) (l : List MapEntry), l.length = xs.length →
    (∀ (q : Nat) (x : κ × ε) (m : MapEntry), xs[q]? = some x → l[q]? = some m → CV S w (fk x.1) m.key) →
    (Instr.findKey kt uk l).run P w = .ok (match mfind k xs 0 with | none => none | some (j, _) => (l[j - 0]?).map fun m => (j, m.val)) w
  eqv : ∀ (a b : κ) (S : Nat → Prop) (w : World) (ua ub : Value), CV S w (fk a) ua → CV S w (fk b) ub → (a == b) = true → ua = ub
  sty : ∀ (a : κ) (S : Nat → Prop) (w : World) (ua : Value), CV S w (fk a) ua → (Instr.keyThatStays ua ua).run P w = .ok ua w

def mpO {κ ε : Type} (fk : κ → V) (fv : ε → V) (xs : List (κ × ε)) : AO := .mp (xs.map fun e => (fk e.1, fv e.2))

theorem findNow_of {κ ε : Type} [BEq κ] {fk : κ → V} {d : TypeDesc} {S : Nat → Prop} {w : World} {k : κ} {uk : Value} (hk : CV S w (fk k) uk)
    (hd : ∀ (a b : κ) (S : Nat → Prop) (w : World) (ua ub : Value), CV S w (fk a) ua → CV S w (fk b) ub → MapKept.IsKey d ua ∧ Instr.sameNow d ua ub = some (a == b) ∧ ((a == b) = true → ua = ub)) :
    ∀ (xs : List (κ × ε)) (l : List MapEntry) (i : Nat), l.length = xs.length → (∀ (q : Nat) (x : κ × ε) (m : MapEntry), xs[q]? = some x → l[q]? = some m → CV S w (fk x.1) m.key) →
      Instr.findNow d uk l i = some (match mfind k xs i with | none => none | some (j, _) => (l[j - i]?).map fun m => (j, m.val))
  | [], [], i, _, _ => rfl
  | [], m :: l, i, h, _ => by simp at h
  | x :: xs, [], i, h, _ => by simp at h
  | x :: xs, m :: l, i, h, hc => by
    have h1 := (hd k x.1 S w uk m.key hk (hc 0 x m rfl rfl)).2.1
    rw [Instr.findNow, h1, mfind]
    cases hb : (k == x.1) with
    | true => simp
    | false =>
      simp only [cond_false]
      rw [findNow_of hk hd xs l (i + 1) (by simpa using h) fun q y m' hy hm => hc (q + 1) y m' (by simpa using hy) (by simpa using hm)]
      cases hf : mfind k xs (i + 1) with
      | none => rfl
      | some z =>
        obtain ⟨j, v⟩ := z
        have := (mfind_at xs (i + 1) j v hf).1
        have e : j - i = (j - (i + 1)) + 1 := by omega
        simp only [e, List.getElem?_cons_succ]

theorem KeyP.key {P : Program} {kt : TypeId} {κ : Type} [BEq κ] {fk : κ → V} (h : KeyP P kt fk) : KeyK P kt fk := by
  obtain ⟨d, hd, hK⟩ := h
  refine ⟨fun a S w ua ha e => MapKept.run_checkKey hd (hK a a S w _ _ ha ha).1 e 9999, fun k S w uk hk ε xs l hl hc => MapKept.run_findKey hd (findNow_of hk hK xs l 0 hl hc), fun a b S w ua ub ha hb => (hK a b S w _ _ ha hb).2.2, fun a S w ua ha => MapKept.run_keyThatStays (hK a a S w _ _ ha ha).1⟩
theorem sameBits_cv {S : Nat → Prop} {w : World} {P : Program} {tb : Bool} {n t : Nat} {fs : List Field} {o : Nat} {cs ds : List V} {b : Bool} (h : EqT P tb n t fs o cs ds b) : ∀ (us : List Value), CvL S w cs us → ∀ u, u ∈ us → Instr.sameBits 9999 u u = true := by
  induction h with
  | bool h => intro us hc u hu; obtain ⟨v, rfl, hv⟩ := hc.one; cases hv; simp at hu; subst hu; simp [Instr.sameBits]
  | int h => intro us hc u hu; obtain ⟨v, rfl, hv⟩ := hc.one; cases hv; simp at hu; subst hu; simp [Instr.sameBits]
  | str h => intro us hc u hu; obtain ⟨v, rfl, hv⟩ := hc.one; cases hv; simp at hu; subst hu; simp only [Instr.sameBits]; exact (MapKept.bytes_beq _ _).2 rfl
  | struct h hs hf ih => exact ih
  | nil => intro us hc u hu; rw [List.length_eq_zero_iff.1 hc.1.symm] at hu; cases hu
  | cons hn ho ht hcl hd hag hag2 hag3 h1 h2 ih1 ih2 =>
    intro us hc u hu
    rename_i n o f fs c d cs ds b b2 ag sz
    obtain ⟨g1, g2⟩ := hc
    rw [List.length_append] at g1
    have p1 : CvL S w c (us.take c.length) := ⟨by rw [List.length_take]; omega, fun i x u hx hu => by
      have hi := (List.getElem?_eq_some_iff.1 hx).1
      rw [List.getElem?_take, if_pos hi] at hu
      exact g2 i x u (by rw [List.getElem?_append_left hi]; exact hx) hu⟩
    have p2 : CvL S w cs (us.drop c.length) := ⟨by rw [List.length_drop]; omega, fun i x u hx hu => by
      rw [List.getElem?_drop] at hu
      exact g2 (c.length + i) x u (by rw [List.getElem?_append_right (by omega)]; simpa using hx) hu⟩
    rw [← List.take_append_drop c.length us] at hu
    rcases List.mem_append.1 hu with h | h
    · exact ih1 _ p1 u h
    · exact ih2 _ p2 u h

def chkFields (e : Bool) (n : Nat) (us : Array Value) : List Field → Sem Unit
  | [] => pure ()
  | f :: fs => do
    if f.name ≠ "_" then
      let a ← part f.type us f.offset
      Instr.checkKey e n f.type a
    chkFields e n us fs

theorem run_checkKey_struct {P : Program} (w : World) (e : Bool) (n : Nat) (t : TypeId) (us : Array Value) (fs : Array Field) (ht : P.underlying t = some (.struct fs)) :
    (Instr.checkKey e (n + 1) t (.agg us)).run P w = (chkFields e n us fs.toList).run P w := by
  unfold Instr.checkKey
  simp only [Sem.run_bind, run_underlying ht, Result.andThen_ok]
  rw [← Array.forIn_toList]
  generalize fs.toList = l
  clear ht
  induction l generalizing w with
  | nil => simp [chkFields]
  | cons f l ih =>
    simp only [List.forIn_cons, chkFields, Sem.run_bind, Sem.run_ite]
    split
    · generalize (part f.type us f.offset).run P w = r1
      cases r1 with
      | ok a w1 =>
        simp only [Result.andThen_ok]
        generalize (Instr.checkKey e n f.type a).run P w1 = r2
        cases r2 with
        | ok b w2 => simp only [Result.andThen_ok, Sem.run_pure]; exact ih w2
        | halt x w2 => simp [Result.andThen]
      | halt x w1 => simp [Result.andThen]
    · simp only [Sem.run_pure, Result.andThen_ok]
      exact ih w

theorem chk_run {P : Program} {tb : Bool} {n t : Nat} {fs : List Field} {o : Nat} {cs ds : List V} {b : Bool} (h : EqT P tb n t fs o cs ds b) : ∀ (S : Nat → Prop) (w : World) (e : Bool),
    (tb = true → ∀ us : List Value, CvL S w cs us → (Instr.checkKey e n t (mkVal P t us)).run P w = .ok () w) ∧
    (tb = false → ∀ us : List Value, CvL S w cs (us.drop o) → o ≤ us.length → (chkFields e n us.toArray fs).run P w = .ok () w) := by
  induction h with
  | bool h =>
    intro S w e
    refine ⟨fun _ us h1 => ?_, fun h => (Bool.noConfusion h)⟩
    obtain ⟨u, rfl, hu⟩ := h1.one
    cases hu
    simp [mkVal, h, Instr.checkKey, run_underlying h]
  | int h =>
    intro S w e
    refine ⟨fun _ us h1 => ?_, fun h => (Bool.noConfusion h)⟩
    obtain ⟨u, rfl, hu⟩ := h1.one
    cases hu
    simp [mkVal, h, Instr.checkKey, run_underlying h]
  | str h =>
    intro S w e
    refine ⟨fun _ us h1 => ?_, fun h => (Bool.noConfusion h)⟩
    obtain ⟨u, rfl, hu⟩ := h1.one
    cases hu
    simp [mkVal, h, Instr.checkKey, run_underlying h]
  | struct h hs hf ih =>
    intro S w e
    refine ⟨fun _ us h1 => ?_, fun h => (Bool.noConfusion h)⟩
    have k1 := (ih S w e).2 rfl us (by simpa using h1) (Nat.zero_le _)
    simp only [mkVal, h]
    rw [run_checkKey_struct w e _ _ _ _ h]
    exact k1
  | nil =>
    intro S w e
    exact ⟨fun h => (Bool.noConfusion h), fun _ us h1 ho1 => by simp [chkFields]⟩
  | cons hn ho ht hc hd hag hag2 hag3 h1 h2 ih1 ih2 =>
    intro S w e
    rename_i n o f fs c d cs ds b b2 ag sz
    have ho := Nat.eq_of_beq_eq_true ho
    have hn : f.name ≠ "_" := by simpa using hn
    refine ⟨fun h => (Bool.noConfusion h), fun _ us g1 o1 => ?_⟩
    obtain ⟨p1, p2, p3⟩ := CvL.split hc g1 o1
    have e1 := (ih1 S w e).1 rfl _ p1
    have r1 := (ih2 S w e).2 rfl us p2 p3
    simp only [chkFields, hn, ne_eq, not_false_eq_true, if_true, Sem.run_bind, part_mk ho ht hag hag2 hag3 p3, Result.andThen_ok, e1]
    exact r1

/-- Structs of plain fields as keys. -/
theorem key_agg {P : Program} {kt : TypeId} {fs : Array Field} {κ : Type} [BEq κ] {g : κ → List V} (ht : P.underlying kt = some (.struct fs)) (hE : ∀ a b : κ, EqT P true 10000 kt [] 0 (g a) (g b) (a == b)) : KeyK P kt (fun a => .agg (g a)) := by
  have lst : ∀ (a : κ) (S : Nat → Prop) (w : World) (ua : Value), CV S w (.agg (g a)) ua → ∃ us : List Value, ua = mkVal P kt us ∧ CvL S w (g a) us ∧ ua = .agg us.toArray := fun a S w ua h => by
    cases h with
    | agg cs us hl hc => exact ⟨us.toList, by simp [mkVal, ht], ⟨by simpa using hl, fun i c u h1 h2 => hc i c u h1 (by simpa using h2)⟩, by simp⟩
  refine ⟨fun a S w ua ha e => ?_, fun k S w uk hk ε xs l hl hc => ?_, fun a b S w ua ub ha hb hab => ?_, fun a S w ua ha => ?_⟩
  · obtain ⟨us, rfl, h1, _⟩ := lst a S w ua ha
    exact (chk_run (hE a a) S w e).1 rfl us h1
  · obtain ⟨us, rfl, h1, hagg⟩ := lst k S w uk hk
    have ask : ∀ (xs : List (κ × ε)) (l : List MapEntry) (i : Nat), l.length = xs.length → (∀ (q : Nat) (x : κ × ε) (m : MapEntry), xs[q]? = some x → l[q]? = some m → CV S w (.agg (g x.1)) m.key) →
        (Instr.findAsking kt (mkVal P kt us) l i).run P w = .ok (match mfind k xs i with | none => none | some (j, _) => (l[j - i]?).map fun m => (j, m.val)) w := by
      intro xs
      induction xs with
      | nil =>
        intro l i hl hc
        have : l = [] := List.length_eq_zero_iff.1 hl
        subst this
        simp [Instr.findAsking, mfind]
      | cons x xs ih =>
        intro l i hl hc
        match l, hl with
        | m :: l, hl =>
          obtain ⟨vs, hv, k1, _⟩ := lst x.1 S w m.key (hc 0 x m rfl rfl)
          have e1 := ((eqT_run (hE k x.1) S w).1 rfl us vs h1 k1).1
          rw [Instr.findAsking, mfind]
          simp only [Sem.run_bind, Op.equal, Op.maxDepth, hv, e1, Result.andThen_ok]
          cases hb : (k == x.1) with
          | true => simp
          | false =>
            simp only [Bool.false_eq_true, if_false, cond_false]
            rw [ih l (i + 1) (by simpa using hl) fun q y m' hy hm => hc (q + 1) y m' (by simpa using hy) (by simpa using hm)]
            cases hf : mfind k xs (i + 1) with
            | none => rfl
            | some z =>
              obtain ⟨j, v⟩ := z
              obtain ⟨hle, _⟩ := mfind_at xs (i + 1) j v hf
              have e : j - i = (j - (i + 1)) + 1 := by omega
              simp only [e, List.getElem?_cons_succ]
    unfold Instr.findKey
    simp only [Sem.run_bind, run_underlying ht, Result.andThen_ok]
    cases l with
    | nil =>
      have : xs = [] := List.length_eq_zero_iff.1 hl.symm
      subst this
      simp [Instr.findNow, mfind]
    | cons m l =>
      have hnow : Instr.findNow (.struct fs) (mkVal P kt us) (m :: l) 0 = none := by
        simp [Instr.findNow, Instr.sameNow]
      rw [hnow]
      exact ask xs (m :: l) 0 hl hc
  · obtain ⟨us, hu, h1, _⟩ := lst a S w ua ha
    obtain ⟨vs, hv, h2, _⟩ := lst b S w ub hb
    have := ((eqT_run (hE a b) S w).1 rfl us vs h1 h2).2 hab
    rw [hu, hv, this]
  · obtain ⟨us, hu, h1, hagg⟩ := lst a S w ua ha
    rw [hagg]
    have := sameBits_cv (hE a a) us h1
    have hs : Instr.sameBits 10000 (.agg us.toArray) (.agg us.toArray) = true := by
      rw [Instr.sameBits]
      simp only [beq_self_eq_true, Bool.true_and, List.all_eq_true]
      rintro ⟨x, y⟩ hxy
      obtain ⟨i, hi, he⟩ := List.mem_iff_getElem.1 hxy
      simp at he
      obtain ⟨rfl, rfl⟩ := he
      exact this _ (List.getElem_mem _)
    simp [Instr.keyThatStays, hs]

theorem Born.nil (c : Nat) : Born #[] c := ⟨fun i m h => by simp at h, fun i j m m' h => by simp at h⟩
theorem Born.push {en : Array MapEntry} {c : Nat} (h : Born en c) (e : MapEntry) (he : e.born = c) : Born (en.push e) (c + 1) := by
  have hp : ∀ (i : Nat) (m : MapEntry), (en.push e)[i]? = some m → (i < en.size ∧ en[i]? = some m ∧ m.born < c) ∨ (i = en.size ∧ m.born = c) := fun i m hi => by
    rw [Array.getElem?_push] at hi
    split at hi
    · rename_i h1; injection hi with hi; subst hi; exact .inr ⟨h1, he⟩
    · exact .inl ⟨(Array.getElem?_eq_some_iff.1 hi).1, hi, h.1 i m hi⟩
  refine ⟨fun i m hi => ?_, fun i j m m' hi hj hb => ?_⟩
  · rcases hp i m hi with ⟨_, _, h1⟩ | ⟨_, h1⟩ <;> omega
  · rcases hp i m hi with ⟨a1, a2, a3⟩ | ⟨a1, a3⟩ <;> rcases hp j m' hj with ⟨b1, b2, b3⟩ | ⟨b1, b3⟩
    · exact h.2 i j m m' a2 b2 hb
    · omega
    · omega
    · omega
theorem Born.modify {en : Array MapEntry} {c : Nat} (h : Born en c) (j : Nat) (f : MapEntry → MapEntry) (hf : ∀ e, (f e).born = e.born) : Born (en.modify j f) c := by
  have hp : ∀ (i : Nat) (m : MapEntry), (en.modify j f)[i]? = some m → ∃ m0, en[i]? = some m0 ∧ m.born = m0.born := fun i m hi => by
    rw [Array.getElem?_modify] at hi
    by_cases hij : j = i
    · subst hij
      rw [if_pos rfl] at hi
      cases he : en[j]? with
      | none => rw [he] at hi; cases hi
      | some m0 => rw [he] at hi; injection hi with hi; subst hi; exact ⟨m0, rfl, hf m0⟩
    · rw [if_neg hij] at hi; exact ⟨m, hi, rfl⟩
  refine ⟨fun i m hi => ?_, fun i k m m' hi hk hb => ?_⟩
  · obtain ⟨m0, h1, h2⟩ := hp i m hi
    rw [h2]; exact h.1 i m0 h1
  · obtain ⟨m0, h1, h2⟩ := hp i m hi
    obtain ⟨m1, h3, h4⟩ := hp k m' hk
    exact h.2 i k m0 m1 h1 h3 (by rw [← h2, ← h4, hb])

section
variable {P : Program} {o : Oper} {fr : Fr} {σ : ASt}

theorem o_makeMap {t : TypeId} (ho : o.op = .makeMap t none) : Does P o fr σ (.mp σ.length) (σ ++ [.mp []]) := fun S B ι a w he hm next Q hk => by
  have g := Grown.alloc w (.map #[] 0)
  obtain ⟨hm', hf⟩ := hm.push g (.mp []) (.map w.heap.size) (fun b hb => by simp [live, Loc.block] at hb; omega) ⟨#[], 0, heap_alloc_new w _, rfl, Born.nil 0, fun i k x m h => by simp at h⟩
  have hr : (execOp a.eval o).run P w = .ok (.value (.map (some w.heap.size))) (w.alloc (.map #[] 0)) := by simp [execOp, ho, Instr.makeMap]
  unfold Oper.wp
  rw [hr]
  refine hk _ S _ _ (.ref _ _ ?_) hm' hf
  simp [RefR, hm.len]

theorem mp_of {S B : Nat → Prop} {ι : List Loc} {w : World} (hm : Mem S B ι σ w) {p : Nat} {u : Value} {es : List (V × V)} (h : Val S B (RefR ι σ) w (.mp p) u) (hs : σ[p]? = some (.mp es)) :
    ∃ r en clock, u = .map (some r) ∧ ι[p]? = some (.map r) ∧ w.heap[r]? = some (.map en clock) ∧ en.size = es.length ∧ Born en clock ∧ ∀ (i : Nat) (k x : V) (m : MapEntry), es[i]? = some (k, x) → en[i]? = some m → CV S w k m.key ∧ Val S B (RefR ι σ) w x m.val := by
  obtain ⟨r, h1, h2⟩ := RefR.mp (Val.inv_ref (v := .mp p) rfl trivial h) hs
  exact (hm.obj p _ _ hs h1).elim fun en h => h.elim fun clock h => ⟨r, en, clock, h2, h1, h⟩

/-- m[k] -/
theorem o_lookup {t kt et : TypeId} {x y : Operand} {p : Nat} {κ ε : Type} [BEq κ] {fk : κ → V} {fv : ε → V} {xs : List (κ × ε)} {k : κ} {z : ε} (ho : o.op = .lookup t x y false) (ht : P.underlying t = some (.map kt et)) (hK : KeyK P kt fk)
    (hx : evalE fr x = some (.mp p)) (hy : evalE fr y = some (fk k)) (hcl : (fk k).cl = true) (hs : σ[p]? = some (mpO fk fv xs)) (hz : ∀ (S : Nat → Prop) (w : World), ∃ zu, (zeroValue et).run P w = .ok zu w ∧ CV S w (fv z) zu) :
    Does P o fr σ (fv ((mget xs k).getD z)) σ := quiet fun S B ι a w he hm => by
  obtain ⟨r, en, clock, h1, _, h3, h4, _, h5⟩ := mp_of hm (he x (by simp [ho, Op.operands]) _ hx) hs
  have hky := (he y (by simp [ho, Op.operands]) _ hy).closed (refOk _ _) hcl
  have hlen : en.toList.length = xs.length := by simpa using h4
  have hfk := hK.fnd k S w _ hky ε xs en.toList hlen fun q x' m' hx' hm' => (h5 q _ _ m' (by rw [List.getElem?_map, hx']; rfl) (by simpa using hm')).1
  have hck := hK.chk k S w _ hky en.isEmpty
  obtain ⟨zu, hz1, hz2⟩ := hz S w
  cases hf : mfind k xs 0 with
  | none =>
    rw [hf] at hfk
    refine ⟨zu, ?_, ?_⟩
    · simp [execOp, ho, h1, Instr.lookup, run_underlying ht, MapKept.run_getObj_map h3, hck, hfk, hz1, Result.andThen]
    · simp only [mget, hf, Option.map_none, Option.getD_none]; exact .cv _ _ hz2
  | some jv =>
    obtain ⟨j, v⟩ := jv
    obtain ⟨_, k', hj, _⟩ := mfind_at xs 0 j v hf
    rw [Nat.sub_zero] at hj
    have hjl : j < en.toList.length := by rw [hlen]; exact (List.getElem?_eq_some_iff.1 hj).1
    have hm2 : en[j]? = some en.toList[j] := by simp
    rw [hf] at hfk
    simp only [Nat.sub_zero] at hfk
    have hej : en.toList[j]? = some en.toList[j] := by simp
    rw [hej] at hfk
    simp only [Option.map_some] at hfk
    refine ⟨en.toList[j].val, ?_, ?_⟩
    · simp [execOp, ho, h1, Instr.lookup, run_underlying ht, MapKept.run_getObj_map h3, hck, hfk, Result.andThen]
    · simp only [mget, hf, Option.map_some, Option.getD_some]
      exact (h5 j _ _ _ (by rw [List.getElem?_map, hj]; rfl) hm2).2

/-- A map's object is written. -/
theorem map_step {S B : Nat → Prop} {ι : List Loc} {w : World} (hm : Mem S B ι σ w) {p r : Nat} {es es' : List (V × V)} {en en' : Array MapEntry} {clock clock' : Nat} (hs : σ[p]? = some (.mp es)) (hι : ι[p]? = some (.map r))
    (hb : w.heap[r]? = some (.map en clock)) (hsz : en'.size = es'.length) (hbn : Born en' clock')
    (hobj : ∀ (i : Nat) (k x : V) (m : MapEntry), es'[i]? = some (k, x) → en'[i]? = some m → CV S w k m.key ∧ Val S B (RefR ι σ) w x m.val) :
    Mem S B ι (σ.set p (.mp es')) { w with heap := w.heap.setIfInBounds r (.map en' clock') } ∧ Fw S ι σ w S ι (σ.set p (.mp es')) { w with heap := w.heap.setIfInBounds r (.map en' clock') } := by
  have hrl : r < w.heap.size := (Array.getElem?_eq_some_iff.1 hb).1
  obtain ⟨k1, k2⟩ := MapKept.heap_set (o' := .map en' clock') hb
  have hιs : ι.set p (.map r) = ι := by
    apply List.ext_getElem?
    intro q
    by_cases hq : p = q
    · subst hq; rw [List.getElem?_set_self (List.getElem?_eq_some_iff.1 hι).1, hι]
    · rw [List.getElem?_set_ne hq]
  have hout := hm.outS p _ _ r hs hι rfl
  have href : ∀ v u, RefR ι σ v u → RefR ι (σ.set p (.mp es')) v u := fun v u h => by
    have := RefR.set (o' := .mp es') hs hι trivial h
    rwa [hιs] at this
  have hst := Mem.step (S' := S) (w' := { w with heap := w.heap.setIfInBounds r (.map en' clock') }) (o' := .mp es') (l' := .map r) hm hs hι rfl rfl rfl (by simp) (fun b hb' hne => k2 b fun e => hne (by rw [e]; rfl)) (fun _ h => h) (fun _ h => .inl h)
    (fun b hb' => by simpa using hm.ltS b (.inl hb')) (fun v u h => by rw [hιs]; exact href v u h) ⟨en', clock', k1, hsz, hbn, fun i k x m h1 h2 => by
      obtain ⟨h3, h4⟩ := hobj i k x m h1 h2
      have same : ∀ b, S b ∨ B b → (w.heap.setIfInBounds r (.map en' clock'))[b]? = w.heap[b]? := fun b hb' => k2 b fun e => hout (e ▸ hb')
      refine ⟨h3.mono (fun _ h => h) fun b hb' => same b (.inl hb'), h4.mono (fun _ h => h) (fun _ h => h) (fun v u h => by rw [hιs]; exact href v u h) same⟩⟩
    (fun b hb' => by
      simp [live, Loc.block] at hb'; subst hb'
      exact ⟨.inl rfl, fun h => hout (.inl h)⟩)
  rw [hιs] at hst
  exact hst

/-- m[k] = v -/
theorem o_mapUpdate {t kt et : TypeId} {x y z : Operand} {p : Nat} {κ ε : Type} [BEq κ] {fk : κ → V} {fv : ε → V} {xs : List (κ × ε)} {k : κ} {v : ε} (ho : o.op = .mapUpdate t x y z) (ht : P.underlying t = some (.map kt et)) (hK : KeyK P kt fk)
    (hx : evalE fr x = some (.mp p)) (hy : evalE fr y = some (fk k)) (hz : evalE fr z = some (fv v)) (hcl : (fk k).cl = true) (hs : σ[p]? = some (mpO fk fv xs)) :
    Does P o fr σ .any (σ.set p (mpO fk fv (mput xs k v))) := fun S B ι a w he hm next Q hkk => by
  obtain ⟨r, en, clock, h1, hι, h3, h4, hB, h5⟩ := mp_of hm (he x (by simp [ho, Op.operands]) _ hx) hs
  have hky := (he y (by simp [ho, Op.operands]) _ hy).closed (refOk _ _) hcl
  have hvz := he z (by simp [ho, Op.operands]) _ hz
  have hlen : en.toList.length = xs.length := by simpa using h4
  have hfk := hK.fnd k S w _ hky ε xs en.toList hlen fun q x' m' hx' hm' => (h5 q _ _ m' (by rw [List.getElem?_map, hx']; rfl) (by simpa using hm')).1
  have hck := hK.chk k S w _ hky false
  unfold Oper.wp
  cases hf : mfind k xs 0 with
  | none =>
    rw [hf] at hfk
    have hr : (execOp a.eval o).run P w = .ok .skip { w with heap := w.heap.setIfInBounds r (.map (en.push { key := a.eval y, val := a.eval z, born := clock }) (clock + 1)) } := by
      simp [execOp, ho, h1, Instr.mapUpdate, run_underlying ht, MapKept.run_getObj_map h3, hck, hfk, MapKept.run_setObj_map _ h3, Result.andThen]
    rw [hr]
    obtain ⟨q1, q2⟩ := map_step (es' := (mput xs k v).map fun e => (fk e.1, fv e.2)) (en' := en.push { key := a.eval y, val := a.eval z, born := clock }) (clock' := clock + 1) hm hs hι h3 (by simp [mput, hf]; simpa using h4) (hB.push _ rfl) fun i k0 x0 m0 g1 g2 => by
      simp only [mput, hf, List.map_append, List.map_cons, List.map_nil] at g1
      rw [Array.getElem?_push] at g2
      split at g2
      · rename_i hi
        injection g2 with g2; subst g2
        rw [List.getElem?_append_right (by simp at h4 ⊢; omega)] at g1
        have : i - (xs.map fun e => (fk e.1, fv e.2)).length = 0 := by simp at h4 ⊢; omega
        rw [this] at g1
        simp only [List.getElem?_cons_zero, Option.some.injEq, Prod.mk.injEq] at g1
        obtain ⟨rfl, rfl⟩ := g1
        exact ⟨hky, hvz⟩
      · rename_i hi
        have hlt : i < en.size := (Array.getElem?_eq_some_iff.1 g2).1
        rw [List.getElem?_append_left (by simp at h4 ⊢; omega)] at g1
        exact h5 i k0 x0 m0 g1 g2
    exact hkk _ S ι _ (.any _) q1 q2
  | some jv =>
    obtain ⟨j, v0⟩ := jv
    obtain ⟨_, k', hj, hkk'⟩ := mfind_at xs 0 j v0 hf
    rw [Nat.sub_zero] at hj
    have hjl : j < en.toList.length := by rw [hlen]; exact (List.getElem?_eq_some_iff.1 hj).1
    have hjl2 : j < en.size := by simpa using hjl
    have hej : en.toList[j]? = some en.toList[j] := by simp
    rw [hf] at hfk
    simp only [Nat.sub_zero] at hfk
    rw [hej] at hfk
    simp only [Option.map_some] at hfk
    have hek : CV S w (fk k') en[j].key := (h5 j _ _ en[j] (by rw [List.getElem?_map, hj]; rfl) (by simp [hjl2])).1
    have hsame : en[j].key = a.eval y := (hK.eqv k k' S w _ _ hky hek hkk').symm
    have hstay : (Instr.keyThatStays (((en[j]?).map (·.key)).getD (a.eval y)) (a.eval y)).run P w = .ok (a.eval y) w := by
      have : ((en[j]?).map (·.key)).getD (a.eval y) = a.eval y := by simp [hjl2, hsame]
      rw [this]
      exact hK.sty k S w _ hky
    have hr : (execOp a.eval o).run P w = .ok .skip { w with heap := w.heap.setIfInBounds r (.map (en.modify j fun e => { e with key := a.eval y, val := a.eval z }) clock) } := by
      simp [execOp, ho, h1, Instr.mapUpdate, run_underlying ht, MapKept.run_getObj_map h3, hck, hfk, MapKept.run_setObj_map _ h3, hstay, Result.andThen]
    rw [hr]
    obtain ⟨q1, q2⟩ := map_step (es' := (mput xs k v).map fun e => (fk e.1, fv e.2)) (en' := en.modify j fun e => { e with key := a.eval y, val := a.eval z }) (clock' := clock) hm hs hι h3 (by simp [mput, hf]; simpa using h4) (hB.modify j _ fun _ => rfl) fun i k0 x0 m0 g1 g2 => by
      simp only [mput, hf, List.map_set] at g1
      rw [Array.getElem?_modify] at g2
      by_cases hij : j = i
      · subst hij
        rw [List.getElem?_set_self (by simp at h4 ⊢; omega)] at g1
        simp only [if_true] at g2
        injection g1 with g1
        obtain ⟨rfl, rfl⟩ := Prod.mk.injEq .. ▸ g1
        simp [hjl2] at g2
        subst g2
        exact ⟨hky, hvz⟩
      · rw [List.getElem?_set_ne hij] at g1
        simp only [hij, if_false] at g2
        exact h5 i k0 x0 m0 g1 g2
    exact hkk _ S ι _ (.any _) q1 q2

end

theorem belMap {N : Nat} {κ ε : Type} {fk : κ → V} {fv : ε → V} {xs : List (κ × ε)} (h : ∀ e, bel N (fv e) = true) : belO N (mpO fk fv xs) := by
  intro e he
  obtain ⟨x, _, rfl⟩ := List.mem_map.1 he
  exact h x.2
theorem ren_mpO {f : Nat → Nat} {κ ε : Type} {fk : κ → V} {fv : ε → V} {xs : List (κ × ε)} (h : ∀ e, ren f (fv e) = fv e) : renO f (mpO fk fv xs) = mpO fk fv xs := by
  simp only [mpO, renO, List.map_map]
  congr 1
  apply List.map_congr_left
  intro e _
  simp [h]
inductive RenL (f : Nat → Nat) : ASt → ASt → Prop where
  | nil : RenL f [] []
  | cons (o o' : AO) (r r' : ASt) (h : renO f o = o') (t : RenL f r r') : RenL f (o :: r) (o' :: r')
theorem RenL.map {f : Nat → Nat} {a b : ASt} (h : RenL f a b) : a.map (renO f) = b := by
  induction h with
  | nil => rfl
  | cons o o' r r' h _ ih => simp [h, ih]
theorem CV.imNil {S : Nat → Prop} {w : World} : CV S w (.im false []) (.slice none 0 0) :=
  .im [] none 0 1 (fun _ _ => undef) (Nat.le_refl _) (fun h => absurd rfl h) (fun i j row c h => by simp at h) fun i j row c h => by simp at h
end Go.G36
