/- Regions whose order is open. -/
import Derived.Test.YtmlfbendohecmaaKl
import Derived.Orders
namespace Go.G36
variable [Genv]
set_option linter.all false
open Go

/-! ### Whatever comes up -/
def unl (l : Array Bool) : Nat := (l.toList.filter (fun b => !b)).length
theorem unl_set {l : Array Bool} {i : Nat} (h : l.getD i true = false) : unl (l.setIfInBounds i true) + 1 = unl l := by
  have hi : i < l.size := by
    rcases Nat.lt_or_ge i l.size with h1 | h1
    · exact h1
    · rw [Array.getD_eq_getD_getElem?, Array.getElem?_eq_none h1] at h; cases h
  have hf : l.toList[i]? = some false := by
    rw [Array.getD_eq_getD_getElem?, Array.getElem?_eq_getElem hi] at h
    simp at h
    simp [hi, h]
  unfold unl
  rw [Array.toList_setIfInBounds]
  generalize l.toList = m at hf
  clear h hi l
  induction m generalizing i with
  | nil => simp at hf
  | cons x r ih =>
    cases i with
    | zero => simp at hf; subst hf; simp
    | succ i =>
      simp at hf
      have := ih hf
      cases x <;> simp <;> omega

theorem wpAny_inv {P : Program} {ops : Array Oper} {Q : Exit → Act → World → Prop} (I : Array Bool → Act → World → Prop) (hsize : ∀ l a w, I l a w → l.size = ops.size)
    (hstep : ∀ l a w i, I l a w → i ∈ Region.ready .any ops l → wpOp P ops Q i (fun a' w' => I (l.setIfInBounds i true) a' w') a w) (hend : ∀ l a w, I l a w → Region.ready .any ops l = [] → Q .normal a w) :
    ∀ (fuel : Nat) (l : Array Bool) (a : Act) (w : World), I l a w → unl l ≤ fuel → wpAny P .any ops Q fuel l a w
  | 0, l, a, w, hI, hf => by
    have hr : Region.ready .any ops l = [] := by
      cases hrr : Region.ready .any ops l with
      | nil => rfl
      | cons i r =>
        have hm : i ∈ Region.ready .any ops l := by rw [hrr]; simp
        have := unl_set (mem_ready.1 hm).1
        omega
    exact ⟨hr, hend l a w hI hr⟩
  | fuel + 1, l, a, w, hI, hf => by
    refine ⟨fun hr => hend l a w hI hr, fun i hi => wpOp_mono (fun a' w' h => ?_) (hstep l a w i hI hi)⟩
    have := unl_set (mem_ready.1 hi).1
    exact wpAny_inv I hsize hstep hend fuel _ a' w' h (by omega)

/-! ### What has to be ahead -/
def bitsOf (acc : List Nat) (o : Oper) : Nat := o.after.toList.foldl (fun s e => if Region.binds .any e then s ||| 2 ^ e.on ||| acc.getD e.on 0 else s) 0
def befs : List Nat → List Oper → List Nat
  | acc, [] => acc
  | acc, o :: r => befs (acc ++ [bitsOf acc o]) r

theorem bits_fold {acc : List Nat} {j : Nat} : ∀ (l : List Edge) (s : Nat), (l.foldl (fun s e => if Region.binds .any e then s ||| 2 ^ e.on ||| acc.getD e.on 0 else s) s).testBit j = true →
    s.testBit j = true ∨ ∃ e, e ∈ l ∧ Region.binds .any e = true ∧ (j = e.on ∨ (acc.getD e.on 0).testBit j = true)
  | [], s, h => .inl h
  | e :: r, s, h => by
    rcases bits_fold r _ h with h1 | ⟨e', h1, h2⟩
    · simp only at h1
      split at h1
      · rename_i hb
        simp only [Nat.testBit_or, Bool.or_eq_true] at h1
        rcases h1 with (h1 | h1) | h1
        · exact .inl h1
        · rw [Nat.testBit_two_pow] at h1
          exact .inr ⟨e, by simp, hb, .inl (of_decide_eq_true h1).symm⟩
        · exact .inr ⟨e, by simp, hb, .inr h1⟩
      · exact .inl h1
    · exact .inr ⟨e', by simp [h1], h2⟩

theorem befs_pre : ∀ (l : List Oper) (acc : List Nat) (i : Nat) (b : Nat), acc[i]? = some b → (befs acc l)[i]? = some b
  | [], acc, i, b, h => h
  | o :: r, acc, i, b, h => befs_pre r _ i b (by rw [List.getElem?_append_left (List.getElem?_eq_some_iff.1 h).1]; exact h)

theorem befs_at : ∀ (l : List Oper) (acc : List Nat) (i : Nat) (o : Oper), l[i]? = some o → ∃ acc', (befs acc l)[acc.length + i]? = some (bitsOf acc' o) ∧ acc'.length = acc.length + i ∧ ∀ (q b : Nat), acc'[q]? = some b → (befs acc l)[q]? = some b
  | [], acc, i, o, h => by simp at h
  | x :: r, acc, i, o, h => by
    cases i with
    | zero =>
      simp at h
      subst h
      exact ⟨acc, befs_pre r _ _ _ (by simp), rfl, fun q b hb => befs_pre r _ q b (by rw [List.getElem?_append_left (List.getElem?_eq_some_iff.1 hb).1]; exact hb)⟩
    | succ i =>
      simp at h
      obtain ⟨acc', h1, h2, h3⟩ := befs_at r (acc ++ [bitsOf acc x]) i o h
      simp only [List.length_append, List.length_singleton] at h1 h2
      exact ⟨acc', by rw [show acc.length + (i + 1) = acc.length + 1 + i by omega]; exact h1, by omega, h3⟩

/-- j has to be ahead of i. -/
def ahead (l : List Oper) (i j : Nat) : Bool := ((befs [] l).getD i 0).testBit j

def Closed (l : List Oper) (b : Nat → Bool) : Prop := ∀ (i : Nat) (o : Oper), l[i]? = some o → b i = true → ∀ e, e ∈ o.after → Region.binds .any e = true → b e.on = true

theorem ahead_listed {l : List Oper} {b : Nat → Bool} (hc : Closed l b) : ∀ (n i : Nat) (o : Oper), i ≤ n → l[i]? = some o → (∀ e, e ∈ o.after → Region.binds .any e = true → b e.on = true) → ∀ j, ahead l i j = true → b j = true := by
  intro n
  induction n with
  | zero =>
    intro i o hi ho hn j hj
    obtain ⟨acc', h1, h2, h3⟩ := befs_at l [] i o ho
    simp only [ahead, List.length_nil, Nat.zero_add] at hj h1 h2
    rw [List.getD_eq_getElem?_getD, h1] at hj
    simp only [Option.getD_some, bitsOf] at hj
    rcases bits_fold _ _ hj with h | ⟨e, he, hb, h⟩
    · simp at h
    · rcases h with rfl | h
      · exact hn e (by simpa using he) hb
      · rw [List.getD_eq_getElem?_getD, List.getElem?_eq_none (by omega)] at h
        simp at h
  | succ n ih =>
    intro i o hi ho hn j hj
    obtain ⟨acc', h1, h2, h3⟩ := befs_at l [] i o ho
    simp only [ahead, List.length_nil, Nat.zero_add] at hj h1 h2
    rw [List.getD_eq_getElem?_getD, h1] at hj
    simp only [Option.getD_some, bitsOf] at hj
    rcases bits_fold _ _ hj with h | ⟨e, he, hb, h⟩
    · simp at h
    · have he' : e ∈ o.after := by simpa using he
      rcases h with rfl | h
      · exact hn e he' hb
      · cases hq : acc'[e.on]? with
        | none => rw [List.getD_eq_getElem?_getD, hq] at h; simp at h
        | some x =>
          have hlt : e.on < i := by have := (List.getElem?_eq_some_iff.1 hq).1; omega
          have hil : i < l.length := (List.getElem?_eq_some_iff.1 ho).1
          have hoe : l[e.on]? = some l[e.on] := by simp
          refine ih e.on _ (by omega) hoe (hc e.on _ hoe (hn e he' hb)) j ?_
          rw [ahead, List.getD_eq_getElem?_getD, h3 _ _ hq]
          rwa [List.getD_eq_getElem?_getD, hq] at h

/-! ### The trace -/
inductive Cl where
  | q | r | a
  deriving DecidableEq

structure Rc where
  dst : Option Tmp
  v : V
  cl : Cl
  σ : ASt

/-- A guard's value that holds back: the other truth, or none at all. -/
def Hld (want : Bool) (y : V) : Prop := y = .tup [] ∨ ∃ b, y = .bool b ∧ b ≠ want
theorem Hld.wanted {want : Bool} {y : V} {S B : Nat → Prop} {R : V → Value → Prop} {w : World} {ops : Array Oper} {o : Oper} {g t : Nat} {tmps : Array Value} (h : Hld want y) (hg : o.guard = some (g, want)) (ht : (ops[g]?).bind (·.dst) = some t)
    (hR : RefOk R) (hn : ∀ u, R (.tup []) u → False) (hv : Val S B R w y (tmps.getD t undef)) : Region.wanted o (yielded ops tmps) = false := by
  simp only [Region.wanted, hg, yielded, ht, Option.bind_some]
  rw [Array.getD_eq_getD_getElem?] at hv
  cases hq : tmps[t]? with
  | none => simp
  | some u =>
    rw [hq] at hv
    simp only [Option.getD_some] at hv
    rcases h with rfl | ⟨b, rfl, hne⟩
    · have : u = .tuple #[] := by
        cases hv with
        | cv _ _ h =>
          cases h with
          | tup _ us hl _ => have : us = #[] := by apply Array.eq_empty_of_size_eq_zero; simpa using hl.symm
                             rw [this]
        | tup _ us hl _ => have : us = #[] := by apply Array.eq_empty_of_size_eq_zero; simpa using hl.symm
                           rw [this]
        | ref _ _ h => exact (hn _ h).elim
      subst this
      simp
    · have : u = .bool b := by
        cases hv with
        | cv _ _ h => cases h; rfl
        | ref _ _ h => exact absurd (hR _ _ h) (by simp [V.cl])
      subst this
      simp [hne]

/-- An operation with its guard. -/
def DoG (P : Program) (ops : Array Oper) (o : Oper) (fr : Fr) (σ : ASt) (v : V) (σ' : ASt) : Prop :=
  (o.guard = none ∧ Does P o fr σ v σ') ∨ (∃ g want t, o.guard = some (g, want) ∧ (ops[g]?).bind (·.dst) = some t ∧ lk fr t = some (.bool want) ∧ Does P o fr σ v σ') ∨
  (∃ g want t y, o.guard = some (g, want) ∧ (ops[g]?).bind (·.dst) = some t ∧ lk fr t = some y ∧ Hld want y ∧ (v = .any ∨ v = .tup []) ∧ σ' = σ)

inductive Trc (G : ASt → Prop) (P : Program) (ops : Array Oper) : List Oper → Fr → ASt → List Rc → Fr → ASt → Prop where
  | nil (fr : Fr) (σ : ASt) : Trc G P ops [] fr σ [] fr σ
  | q (o : Oper) (l : List Oper) (fr : Fr) (σ : ASt) (v : V) (R : List Rc) (fr' : Fr) (σ' : ASt) (h : ∀ τ, G τ → DoG P ops o fr τ v τ) (t : Trc G P ops l (setF o.dst v fr) σ R fr' σ') : Trc G P ops (o :: l) fr σ (⟨o.dst, v, .q, σ⟩ :: R) fr' σ'
  | r (o : Oper) (l : List Oper) (fr : Fr) (σ : ASt) (v : V) (R : List Rc) (fr' : Fr) (σ' : ASt) (h : DoG P ops o fr σ v σ) (t : Trc G P ops l (setF o.dst v fr) σ R fr' σ') : Trc G P ops (o :: l) fr σ (⟨o.dst, v, .r, σ⟩ :: R) fr' σ'
  | a (o : Oper) (l : List Oper) (fr : Fr) (σ τ : ASt) (v : V) (R : List Rc) (fr' : Fr) (σ' : ASt) (h : DoG P ops o fr σ v τ) (t : Trc G P ops l (setF o.dst v fr) τ R fr' σ') : Trc G P ops (o :: l) fr σ (⟨o.dst, v, .a, τ⟩ :: R) fr' σ'

def hasD (d : Option Tmp) (t : Nat) : Bool := match d with
  | some x => Nat.beq x t
  | none => false

/-- The frame when b's operations are done. -/
def lkR (fr : Fr) (b : Nat → Bool) : Nat → List Rc → Nat → Option V
  | _, [], t => lk fr t
  | k, c :: r, t => if (hasD c.dst t && b k) = true then some c.v else lkR fr b (k + 1) r t
/-- The store when b's operations are done. -/
def stR (b : Nat → Bool) : Nat → List Rc → ASt → ASt
  | _, [], σ => σ
  | k, c :: r, σ => stR b (k + 1) r (if c.cl = .a ∧ b k = true then c.σ else σ)

theorem stR_congr {b b' : Nat → Bool} : ∀ (R : List Rc) (k : Nat) (σ : ASt), (∀ (i : Nat) (c : Rc), R[i]? = some c → c.cl = .a → b (k + i) = b' (k + i)) → stR b k R σ = stR b' k R σ
  | [], k, σ, h => rfl
  | c :: r, k, σ, h => by
    simp only [stR]
    have h0 : (if c.cl = .a ∧ b k = true then c.σ else σ) = (if c.cl = .a ∧ b' k = true then c.σ else σ) := by
      by_cases hc : c.cl = .a
      · have := h 0 c rfl hc
        simp only [Nat.add_zero] at this
        rw [this]
      · rw [if_neg (fun h => hc h.1), if_neg (fun h => hc h.1)]
    rw [h0]
    exact stR_congr r (k + 1) _ fun i c' hc ha => by have := h (i + 1) c' (by simpa using hc) ha; rwa [show k + 1 + i = k + (i + 1) by omega]

theorem lkR_congr {fr : Fr} {b b' : Nat → Bool} {t : Nat} : ∀ (R : List Rc) (k : Nat), (∀ (i : Nat) (c : Rc), R[i]? = some c → hasD c.dst t = true → b (k + i) = b' (k + i)) → lkR fr b k R t = lkR fr b' k R t
  | [], k, h => rfl
  | c :: r, k, h => by
    simp only [lkR]
    have h0 : (hasD c.dst t && b k) = (hasD c.dst t && b' k) := by
      cases hd : hasD c.dst t with
      | false => rfl
      | true =>
        have := h 0 c rfl hd
        simp only [Nat.add_zero] at this
        simp [this]
    have h1 := lkR_congr (fr := fr) (b := b) (b' := b') (t := t) r (k + 1) fun i c' hc ha => by have := h (i + 1) c' (by simpa using hc) ha; rwa [show k + 1 + i = k + (i + 1) by omega]
    rw [h0, h1]

/-- The n first ones. -/
def lt_ (n : Nat) : Nat → Bool := fun j => Nat.blt j n
theorem lt_iff {n j : Nat} : lt_ n j = true ↔ j < n := by simp [lt_, Nat.blt_eq]

def nodupD : List (Option Tmp) → Bool
  | [] => true
  | d :: r => (match d with | some t => r.all (fun x => !hasD x t) | none => true) && nodupD r

theorem nodupD_get : ∀ {l : List (Option Tmp)}, nodupD l = true → ∀ (i j : Nat) (t : Nat) (d e : Option Tmp), l[i]? = some d → l[j]? = some e → hasD d t = true → hasD e t = true → i = j
  | [], _, i, j, t, d, e, h, _, _, _ => by simp at h
  | x :: r, hn, i, j, t, d, e, hi, hj, hd, he => by
    simp only [nodupD, Bool.and_eq_true] at hn
    have key : ∀ (q : Nat) (d e : Option Tmp), x = d → r[q]? = some e → hasD d t = true → hasD e t = true → False := fun q d e hx hq hd he => by
      subst hx
      cases x with
      | none => simp [hasD] at hd
      | some y =>
        have hy : y = t := Nat.eq_of_beq_eq_true hd
        subst hy
        have := List.all_eq_true.1 hn.1 e (List.mem_of_getElem? hq)
        rw [he] at this
        simp at this
    cases i with
    | zero =>
      cases j with
      | zero => rfl
      | succ j => simp at hi hj; exact (key j d e hi hj hd he).elim
    | succ i =>
      cases j with
      | zero => simp at hi hj; exact (key i e d hj hi he hd).elim
      | succ j => simp at hi hj; rw [nodupD_get hn.2 i j t d e hi hj hd he]

/-- The trace, number by number: the frame ahead of operation i is that of the first i ones, the store too. -/
theorem Trc.at {G : ASt → Prop} {P : Program} {ops : Array Oper} {l : List Oper} {fr : Fr} {σ : ASt} {R : List Rc} {fr' : Fr} {σ' : ASt} (h : Trc G P ops l fr σ R fr' σ') (hn : nodupD (l.map (·.dst)) = true) :
    R.length = l.length ∧ (∀ (i : Nat) (c : Rc) (o : Oper), R[i]? = some c → l[i]? = some o → c.dst = o.dst) ∧
    (∀ t, lk fr' t = lkR fr (fun _ => true) 0 R t) ∧ σ' = stR (fun _ => true) 0 R σ ∧
    ∀ (i : Nat) (c : Rc) (o : Oper), R[i]? = some c → l[i]? = some o → ∃ fri, (∀ t, lk fri t = lkR fr (lt_ i) 0 R t) ∧
      match c.cl with
      | .q => ∀ τ, G τ → DoG P ops o fri τ c.v τ
      | .r => DoG P ops o fri (stR (lt_ i) 0 R σ) c.v (stR (lt_ i) 0 R σ)
      | .a => DoG P ops o fri (stR (lt_ i) 0 R σ) c.v c.σ := by
  -- general in the number of the first one
  have gen : ∀ {l : List Oper} {fr : Fr} {σ : ASt} {R : List Rc} {fr' : Fr} {σ' : ASt}, Trc G P ops l fr σ R fr' σ' → nodupD (l.map (·.dst)) = true → ∀ k : Nat,
      R.length = l.length ∧ (∀ (i : Nat) (c : Rc) (o : Oper), R[i]? = some c → l[i]? = some o → c.dst = o.dst) ∧
      (∀ t, lk fr' t = lkR fr (fun _ => true) k R t) ∧ σ' = stR (fun _ => true) k R σ ∧
      ∀ (i : Nat) (c : Rc) (o : Oper), R[i]? = some c → l[i]? = some o → ∃ fri, (∀ t, lk fri t = lkR fr (lt_ (k + i)) k R t) ∧
        match c.cl with
        | .q => ∀ τ, G τ → DoG P ops o fri τ c.v τ
        | .r => DoG P ops o fri (stR (lt_ (k + i)) k R σ) c.v (stR (lt_ (k + i)) k R σ)
        | .a => DoG P ops o fri (stR (lt_ (k + i)) k R σ) c.v c.σ := by
    clear h hn
    -- no later one has this destination
    have none_ : ∀ {l : List Oper} {R : List Rc} (fr0 fr1 : Fr) (b : Nat → Bool) (k : Nat) (t : Nat), R.length = l.length → (∀ (i : Nat) (c : Rc) (o : Oper), R[i]? = some c → l[i]? = some o → c.dst = o.dst) →
        (∀ o, o ∈ l → hasD o.dst t = false) → lk fr0 t = lk fr1 t → lkR fr0 b k R t = lkR fr1 b k R t := by
      intro l R
      induction R generalizing l with
      | nil => intro fr0 fr1 b k t _ _ _ h; exact h
      | cons c r ih =>
        intro fr0 fr1 b k t hl hd hno h
        cases l with
        | nil => simp at hl
        | cons o l =>
          have h1 : hasD c.dst t = false := by rw [hd 0 c o rfl rfl]; exact hno o (by simp)
          simp only [lkR, h1, Bool.false_and, Bool.false_eq_true, if_false]
          exact ih fr0 fr1 b (k + 1) t (by simpa using hl) (fun i c o hc ho => hd (i + 1) c o (by simpa using hc) (by simpa using ho)) (fun o ho => hno o (by simp [ho])) h
    have other : ∀ (R : List Rc) (fr : Fr) (d : Option Tmp) (v : V) (b : Nat → Bool) (k t : Nat), hasD d t = false → lkR (setF d v fr) b k R t = lkR fr b k R t := by
      intro R
      induction R with
      | nil =>
        intro fr d v b k t hd
        cases d with
        | none => rfl
        | some x =>
          simp only [lkR, setF, lk]
          have : Nat.beq x t = false := hd
          rw [this]
      | cons c r ih =>
        intro fr d v b k t hd
        simp only [lkR]
        rw [ih fr d v b (k + 1) t hd]
    have self : ∀ (fr : Fr) (d : Option Tmp) (v : V) (t : Nat), hasD d t = true → lk (setF d v fr) t = some v := by
      intro fr d v t hd
      cases d with
      | none => simp [hasD] at hd
      | some x =>
        simp only [setF, lk]
        have : Nat.beq x t = true := hd
        rw [this]
    -- one step
    have step : ∀ (o : Oper) (l : List Oper) (fr : Fr) (σ τ : ASt) (v : V) (cl : Cl) (R : List Rc) (fr' : Fr) (σ' : ASt), nodupD ((o :: l).map (·.dst)) = true → (cl ≠ .a → τ = σ) →
        (match cl with | .q => ∀ τ, G τ → DoG P ops o fr τ v τ | .r => DoG P ops o fr σ v σ | .a => DoG P ops o fr σ v τ) →
        (∀ k : Nat, R.length = l.length ∧ (∀ (i : Nat) (c : Rc) (o : Oper), R[i]? = some c → l[i]? = some o → c.dst = o.dst) ∧
          (∀ t, lk fr' t = lkR (setF o.dst v fr) (fun _ => true) k R t) ∧ σ' = stR (fun _ => true) k R τ ∧
          ∀ (i : Nat) (c : Rc) (o' : Oper), R[i]? = some c → l[i]? = some o' → ∃ fri, (∀ t, lk fri t = lkR (setF o.dst v fr) (lt_ (k + i)) k R t) ∧
            match c.cl with
            | .q => ∀ τ, G τ → DoG P ops o' fri τ c.v τ
            | .r => DoG P ops o' fri (stR (lt_ (k + i)) k R τ) c.v (stR (lt_ (k + i)) k R τ)
            | .a => DoG P ops o' fri (stR (lt_ (k + i)) k R τ) c.v c.σ) →
        ∀ k : Nat, (⟨o.dst, v, cl, τ⟩ :: R : List Rc).length = (o :: l).length ∧ (∀ (i : Nat) (c : Rc) (o1 : Oper), (⟨o.dst, v, cl, τ⟩ :: R : List Rc)[i]? = some c → (o :: l)[i]? = some o1 → c.dst = o1.dst) ∧
          (∀ t, lk fr' t = lkR fr (fun _ => true) k (⟨o.dst, v, cl, τ⟩ :: R) t) ∧ σ' = stR (fun _ => true) k (⟨o.dst, v, cl, τ⟩ :: R) σ ∧
          ∀ (i : Nat) (c : Rc) (o' : Oper), (⟨o.dst, v, cl, τ⟩ :: R : List Rc)[i]? = some c → (o :: l)[i]? = some o' → ∃ fri, (∀ t, lk fri t = lkR fr (lt_ (k + i)) k (⟨o.dst, v, cl, τ⟩ :: R) t) ∧
            match c.cl with
            | .q => ∀ τ, G τ → DoG P ops o' fri τ c.v τ
            | .r => DoG P ops o' fri (stR (lt_ (k + i)) k (⟨o.dst, v, cl, τ⟩ :: R) σ) c.v (stR (lt_ (k + i)) k (⟨o.dst, v, cl, τ⟩ :: R) σ)
            | .a => DoG P ops o' fri (stR (lt_ (k + i)) k (⟨o.dst, v, cl, τ⟩ :: R) σ) c.v c.σ := by
      intro o l fr σ τ v cl R fr' σ' hnd hτ hev ih k
      obtain ⟨i1, i2, i3, i4, i5⟩ := ih (k + 1)
      have hnd' : nodupD (l.map (·.dst)) = true := by
        simp only [List.map_cons, nodupD, Bool.and_eq_true] at hnd; exact hnd.2
      have later : ∀ t, hasD o.dst t = true → ∀ o', o' ∈ l → hasD o'.dst t = false := fun t ht o' ho' => by
        cases hx : hasD o'.dst t with
        | false => rfl
        | true =>
          obtain ⟨q, hq, rfl⟩ := List.mem_iff_getElem.1 ho'
          have := nodupD_get hnd 0 (q + 1) t o.dst l[q].dst rfl (by simp [hq]) ht hx
          omega
      have look : ∀ (b : Nat → Bool) (t : Nat), b k = true → lkR (setF o.dst v fr) b (k + 1) R t = lkR fr b k (⟨o.dst, v, cl, τ⟩ :: R) t := fun b t hb => by
        simp only [lkR, hb, Bool.and_true]
        cases hd : hasD o.dst t with
        | false => rw [other _ _ _ _ _ _ _ hd]; rfl
        | true =>
          simp only [if_true]
          -- the frame's own value
          have key : ∀ (l : List Oper) (R : List Rc) (k : Nat), R.length = l.length → (∀ (i : Nat) (c : Rc) (o : Oper), R[i]? = some c → l[i]? = some o → c.dst = o.dst) → (∀ o', o' ∈ l → hasD o'.dst t = false) →
              lkR (setF o.dst v fr) b k R t = some v := by
            intro l R
            induction R generalizing l with
            | nil => intro k _ _ _; exact self fr o.dst v t hd
            | cons c r ih2 =>
              intro k hl hdd hno
              cases l with
              | nil => simp at hl
              | cons o2 l =>
                have h1 : hasD c.dst t = false := by rw [hdd 0 c o2 rfl rfl]; exact hno o2 (by simp)
                simp only [lkR, h1, Bool.false_and, Bool.false_eq_true, if_false]
                exact ih2 l (k + 1) (by simpa using hl) (fun i c o hc ho => hdd (i + 1) c o (by simpa using hc) (by simpa using ho)) fun o ho => hno o (by simp [ho])
          exact key l R (k + 1) i1 i2 (later t hd)
      have store : ∀ (b : Nat → Bool), b k = true → stR b (k + 1) R τ = stR b k (⟨o.dst, v, cl, τ⟩ :: R) σ := fun b hb => by
        simp only [stR, hb, and_true]
        by_cases hc : cl = .a
        · rw [if_pos hc]
        · rw [if_neg hc, hτ hc]
      refine ⟨by simp [i1], fun i c o1 hc ho => ?_, fun t => by rw [i3 t, look _ t rfl], by rw [i4, store _ rfl], fun i c o' hc ho => ?_⟩
      · cases i with
        | zero => simp at hc ho; subst hc; subst ho; rfl
        | succ i => simp at hc ho; exact i2 i c o1 hc ho
      · cases i with
        | zero =>
          simp at hc ho
          subst hc; subst ho
          have none2 : ∀ (R : List Rc) (q : Nat) (t : Nat), k ≤ q → lkR fr (lt_ k) q R t = lk fr t := by
            intro R
            induction R with
            | nil => intro q t _; rfl
            | cons c r ih2 =>
              intro q t hq
              have : lt_ k q = false := by
                cases h : lt_ k q with
                | false => rfl
                | true => rw [lt_iff] at h; omega
              simp only [lkR, this, Bool.and_false, Bool.false_eq_true, if_false]
              exact ih2 (q + 1) t (by omega)
          have none3 : ∀ (R : List Rc) (q : Nat) (σ : ASt), k ≤ q → stR (lt_ k) q R σ = σ := by
            intro R
            induction R with
            | nil => intro q σ _; rfl
            | cons c r ih2 =>
              intro q σ hq
              have : lt_ k q = false := by
                cases h : lt_ k q with
                | false => rfl
                | true => rw [lt_iff] at h; omega
              simp only [stR, this, Bool.false_eq_true, and_false, if_false]
              exact ih2 (q + 1) σ (by omega)
          refine ⟨fr, fun t => by rw [Nat.add_zero, none2 _ k t (Nat.le_refl _)], ?_⟩
          simp only [Nat.add_zero]
          rw [none3 _ k σ (Nat.le_refl _)]
          cases cl <;> exact hev
        | succ i =>
          simp at hc ho
          obtain ⟨fri, h1, h2⟩ := i5 i c o' hc ho
          have hk : lt_ (k + 1 + i) k = true := lt_iff.2 (by omega)
          rw [show k + (i + 1) = k + 1 + i by omega]
          refine ⟨fri, fun t => by rw [h1 t, look _ t hk], ?_⟩
          rw [← store _ hk]
          exact h2
    intro l fr σ R fr' σ' h
    induction h with
    | nil fr σ => intro _ k; exact ⟨rfl, fun i c o h => by simp at h, fun t => rfl, rfl, fun i c o h => by simp at h⟩
    | q o l fr σ v R fr' σ' h _ ih =>
      intro hn k
      have hn' : nodupD (l.map (·.dst)) = true := by simp only [List.map_cons, nodupD, Bool.and_eq_true] at hn; exact hn.2
      exact step o l fr σ σ v .q R fr' σ' hn (fun _ => rfl) h (ih hn') k
    | r o l fr σ v R fr' σ' h _ ih =>
      intro hn k
      have hn' : nodupD (l.map (·.dst)) = true := by simp only [List.map_cons, nodupD, Bool.and_eq_true] at hn; exact hn.2
      exact step o l fr σ σ v .r R fr' σ' hn (fun _ => rfl) h (ih hn') k
    | a o l fr σ τ v R fr' σ' h _ ih =>
      intro hn k
      have hn' : nodupD (l.map (·.dst)) = true := by simp only [List.map_cons, nodupD, Bool.and_eq_true] at hn; exact hn.2
      exact step o l fr σ τ v .a R fr' σ' hn (fun h => absurd rfl h) h (ih hn') k
  have := gen h hn 0
  simpa only [Nat.zero_add] using this

/-! ### The region -/
/-- Whether the order of two may be taken as it is written. -/
def fixed (l : List Oper) (i j : Nat) : Bool := (Nat.blt j i && ahead l i j) || (Nat.blt i j && ahead l j i)

def regOK (n : Nat) (l : List Oper) (cls : List Cl) : Bool :=
  nodupD (l.map (·.dst)) && l.all (fun o => okD n o.dst) &&
  (List.range l.length).all fun i => match l[i]? with
    | none => true
    | some o =>
      (o.after.toList.all fun e => !(Region.binds .any e) || Nat.blt e.on i) &&
      ((o.looksAt l.toArray).all fun t => (List.range l.length).all fun j => match l[j]? with
        | none => true
        | some oj => !(hasD oj.dst t) || Nat.beq j i || fixed l i j) &&
      match cls[i]? with
      | some .q => true
      | none => true
      | _ => (List.range l.length).all fun j => match cls[j]? with
        | some .a => Nat.beq j i || fixed l i j
        | _ => true

theorem lkR_none {fr : Fr} {t : Nat} : ∀ (R : List Rc) (k : Nat), lkR fr (fun _ => false) k R t = lk fr t
  | [], k => rfl
  | c :: r, k => by simp only [lkR, Bool.and_false, Bool.false_eq_true, if_false]; exact lkR_none r (k + 1)

theorem lkR_self {fr : Fr} {b : Nat → Bool} {t : Nat} : ∀ (R : List Rc) (k i : Nat) (c : Rc), R[i]? = some c → hasD c.dst t = true → (∀ (j : Nat) (cj : Rc), R[j]? = some cj → hasD cj.dst t = true → j = i) → b (k + i) = true → lkR fr b k R t = some c.v
  | [], k, i, c, h, _, _, _ => by simp at h
  | x :: r, k, 0, c, h, hd, _, hb => by
    simp at h; subst h
    simp only [Nat.add_zero] at hb
    simp [lkR, hd, hb]
  | x :: r, k, i + 1, c, h, hd, hu, hb => by
    have hx : hasD x.dst t = false := by
      cases hx : hasD x.dst t with
      | false => rfl
      | true => have := hu 0 x rfl hx; omega
    simp only [lkR, hx, Bool.false_and, Bool.false_eq_true, if_false]
    exact lkR_self r (k + 1) i c (by simpa using h) hd (fun j cj hj hdj => by have := hu (j + 1) cj (by simpa using hj) hdj; omega) (by rwa [show k + 1 + i = k + (i + 1) by omega])

theorem stR_none {b : Nat → Bool} : ∀ (R : List Rc) (k : Nat) (σ : ASt), (∀ (j : Nat) (cj : Rc), R[j]? = some cj → cj.cl = .a → b (k + j) = false) → stR b k R σ = σ
  | [], k, σ, h => rfl
  | x :: r, k, σ, h => by
    simp only [stR]
    rw [if_neg (fun hx => by have := h 0 x rfl hx.1; simp only [Nat.add_zero] at this; rw [this] at hx; cases hx.2)]
    exact stR_none r (k + 1) σ fun j cj hj ha => by have := h (j + 1) cj (by simpa using hj) ha; rwa [show k + 1 + j = k + (j + 1) by omega]

theorem stR_self {b : Nat → Bool} : ∀ (R : List Rc) (k i : Nat) (c : Rc) (σ : ASt), R[i]? = some c → c.cl = .a → b (k + i) = true → (∀ (j : Nat) (cj : Rc), R[j]? = some cj → cj.cl = .a → i < j → b (k + j) = false) → stR b k R σ = c.σ
  | [], k, i, c, σ, h, _, _, _ => by simp at h
  | x :: r, k, 0, c, σ, h, ha, hb, hl => by
    simp at h; subst h
    simp only [Nat.add_zero] at hb
    simp only [stR]
    rw [if_pos ⟨ha, hb⟩]
    exact stR_none r (k + 1) _ fun j cj hj haj => by have := hl (j + 1) cj (by simpa using hj) haj (by omega); rwa [show k + 1 + j = k + (j + 1) by omega]
  | x :: r, k, i + 1, c, σ, h, ha, hb, hl => by
    simp only [stR]
    exact stR_self r (k + 1) i c _ (by simpa using h) ha (by rwa [show k + 1 + i = k + (i + 1) by omega]) fun j cj hj haj hij => by
      have := hl (j + 1) cj (by simpa using hj) haj (by omega); rwa [show k + 1 + j = k + (j + 1) by omega]

theorem guard_let {ops : Array Oper} {o : Oper} {g : Nat} {want b : Bool} {t : Nat} {tmps : Array Value} (hg : o.guard = some (g, want)) (ht : (ops[g]?).bind (·.dst) = some t) (hb2 : tmps.getD t undef = .bool b) :
    Region.wanted o (yielded ops tmps) = (b == want) := by
  simp only [Region.wanted, hg, yielded, ht]
  rw [Array.getD_eq_getD_getElem?] at hb2
  cases hq : tmps[t]? with
  | none => rw [hq] at hb2; simp [undef] at hb2
  | some u =>
    rw [hq] at hb2
    simp at hb2; subst hb2
    simp [hq]


theorem stR_G {G : ASt → Prop} {b : Nat → Bool} : ∀ (R : List Rc) (k : Nat) (σ : ASt), G σ → (∀ c, c ∈ R → c.cl = .a → G c.σ) → G (stR b k R σ)
  | [], k, σ, h, _ => h
  | c :: r, k, σ, h, hR => by
    simp only [stR]
    refine stR_G r (k + 1) _ ?_ fun c' hc' => hR c' (List.mem_cons_of_mem _ hc')
    split
    · rename_i hh; exact hR c (List.mem_cons_self ..) hh.1
    · exact h

theorem T.draw {G : ASt → Prop} {N : Nat} {P : Program} {n : Nat} {id : Nat} {l : List Oper} {fr fr' : Fr} {σ σ' : ASt} {R : List Rc} {Q : Post} (hmix : P.follows .mixedOrders = true) (ht : Trc G P l.toArray l fr σ R fr' σ') (hG0 : G σ) (hGa : ∀ c, c ∈ R → c.cl = .a → G c.σ) (hok : regOK n l (R.map (·.cl)) = true) (hQ : Q .normal fr' σ') :
    T P N n (.region id l.toArray true) fr σ Q := fun S B ι a w hr => by
  simp only [regOK, Bool.and_eq_true] at hok
  obtain ⟨⟨hnd, hdn⟩, hall⟩ := hok
  obtain ⟨hlen, hdst, hfr', hσ', hat⟩ := ht.at hnd
  have hw0 : Fw S ι σ w S ι σ { w with drawn := w.drawn + 1 } := ⟨rfl, rfl, rfl, Nat.le_refl _, fun _ h => h, fun _ h => .inl h, fun _ _ _ => rfl, fun _ h => .inl h, fun _ _ h => h⟩
  have hm0 : Mem S B ι σ { w with drawn := w.drawn + 1 } := by
    have := hr.mem.grow (w' := { w with drawn := w.drawn + 1 }) ⟨rfl, rfl, rfl, Nat.le_refl _, fun _ _ => rfl⟩ (fun _ => False) (fun b h => h.elim)
    have e : (fun b => S b ∨ False) = S := by funext b; simp
    rw [e] at this
    exact this.1
  -- what holds while it runs
  let b : Array Bool → Nat → Bool := fun L j => L.getD j false
  let I : Array Bool → Act → World → Prop := fun L a' w' => L.size = l.length ∧ a'.tmps.size = n ∧ a'.defers = [] ∧ Closed l (b L) ∧
    ∃ S' ι', Mem S' B ι' (stR (b L) 0 R σ) w' ∧ Fw S ι σ w S' ι' (stR (b L) 0 R σ) w' ∧ ∀ t x, lkR fr (b L) 0 R t = some x → Val S' B (RefR ι' (stR (b L) 0 R σ)) w' x (a'.tmps.getD t undef)
  refine wp_region_any hmix (wpAny_inv I (fun L a w h => by rw [h.1]; simp) ?_ ?_ _ _ _ _ ?_ ?_)
  · -- a step
    intro L a' w' i hI hi
    obtain ⟨hL, hts, hdf, hcl, S', ι', hm, hf, hval⟩ := hI
    obtain ⟨hun, o, ho', hneeds⟩ := mem_ready.1 hi
    have ho : l[i]? = some o := by simpa using ho'
    have hil : i < l.length := (List.getElem?_eq_some_iff.1 ho).1
    have hiR : i < R.length := by omega
    have hc : R[i]? = some R[i] := by simp
    generalize R[i] = c at hc
    have hbi : b L i = false := by
      show L.getD i false = false
      rw [Array.getD_eq_getD_getElem?] at hun ⊢
      rw [Array.getElem?_eq_getElem (by omega)] at hun ⊢
      simpa using hun
    -- what has to be ahead is done, what has to be behind is not
    have done_ : ∀ j, ahead l i j = true → b L j = true := ahead_listed hcl i i o (Nat.le_refl _) ho fun e he hb => hneeds e he hb
    have notyet : ∀ j, j < l.length → ahead l j i = true → b L j = false := fun j hj ha => by
      cases hx : b L j with
      | false => rfl
      | true =>
        have hoj : l[j]? = some l[j] := by simp
        have := ahead_listed hcl j j _ (Nat.le_refl _) hoj (fun e he hb => hcl j _ hoj hx e he hb) i ha
        rw [hbi] at this; cases this
    have hfix : ∀ j, j < l.length → (Nat.beq j i || fixed l i j) = true → b L j = lt_ i j := fun j hj hfx => by
      rw [Bool.or_eq_true] at hfx
      rcases hfx with h | h
      · have := Nat.eq_of_beq_eq_true h
        subst this
        rw [hbi]
        cases hx : lt_ j j with
        | false => rfl
        | true => rw [lt_iff] at hx; omega
      · simp only [fixed, Bool.or_eq_true, Bool.and_eq_true, Nat.blt_eq] at h
        rcases h with ⟨h1, h2⟩ | ⟨h1, h2⟩
        · rw [done_ j h2, lt_iff.2 h1]
        · rw [notyet j hj h2]
          cases hx : lt_ i j with
          | false => rfl
          | true => rw [lt_iff] at hx; omega
    have hrow := List.all_eq_true.1 hall i (List.mem_range.2 hil)
    rw [ho] at hrow
    simp only [Bool.and_eq_true] at hrow
    obtain ⟨⟨_, hlook⟩, hcls⟩ := hrow
    obtain ⟨fri, hfri, hev⟩ := hat i c o hc ho
    have hlk : ∀ t, t ∈ o.looksAt l.toArray → lk fri t = lkR fr (b L) 0 R t := fun t htm => by
      rw [hfri t]
      refine (lkR_congr R 0 fun j cj hcj hdj => ?_).symm
      rw [Nat.zero_add]
      have hj : j < l.length := by rw [← hlen]; exact (List.getElem?_eq_some_iff.1 hcj).1
      have hoj : l[j]? = some l[j] := by simp
      have h1 := List.all_eq_true.1 (List.all_eq_true.1 hlook t htm) j (List.mem_range.2 hj)
      rw [hoj] at h1
      have h2 : hasD l[j].dst t = true := by rw [← hdst j cj _ hcj hoj]; exact hdj
      simp only [h2, Bool.not_true, Bool.false_or] at h1
      exact hfix j hj h1
    have hst : c.cl ≠ .q → stR (b L) 0 R σ = stR (lt_ i) 0 R σ := fun hcq => stR_congr R 0 σ fun j cj hcj haj => by
      rw [Nat.zero_add]
      have hj : j < l.length := by rw [← hlen]; exact (List.getElem?_eq_some_iff.1 hcj).1
      have hci : (R.map (·.cl))[i]? = some c.cl := by simp [hc]
      rw [hci] at hcls
      have hcjm : (R.map (·.cl))[j]? = some .a := by simp [hcj, haj]
      cases hcc : c.cl with
      | q => exact absurd hcc hcq
      | r =>
        rw [hcc] at hcls
        have := List.all_eq_true.1 hcls j (List.mem_range.2 hj)
        rw [hcjm] at this
        exact hfix j hj this
      | a =>
        rw [hcc] at hcls
        have := List.all_eq_true.1 hcls j (List.mem_range.2 hj)
        rw [hcjm] at this
        exact hfix j hj this
    -- the state behind it
    have hnext : ∀ (u : Value) (S2 : Nat → Prop) (ι2 : List Loc) (w2 : World), Val S2 B (RefR ι2 (stR (b (L.setIfInBounds i true)) 0 R σ)) w2 c.v u → Mem S2 B ι2 (stR (b (L.setIfInBounds i true)) 0 R σ) w2 →
        Fw S' ι' (stR (b L) 0 R σ) w' S2 ι2 (stR (b (L.setIfInBounds i true)) 0 R σ) w2 → I (L.setIfInBounds i true) (a'.put o.dst u) w2 := fun u S2 ι2 w2 hv hm2 hf2 => by
      have hbset : ∀ j, b (L.setIfInBounds i true) j = if j = i then true else b L j := fun j => by
        show (L.setIfInBounds i true).getD j false = _
        by_cases hj : j = i
        · subst hj; rw [if_pos rfl, Array.getD_eq_getD_getElem?]; simp [show j < L.size by omega]
        · rw [if_neg hj, getD_set_ne false (Ne.symm hj)]
      refine ⟨by simpa using hL, by cases hd : o.dst <;> simp [Act.put, hts], by cases hd : o.dst <;> exact hdf, fun j oj hoj hbj e he hb => ?_, S2, ι2, hm2, hf.trans hf2, fun t x hx => ?_⟩
      · rw [hbset]
        by_cases hj : j = i
        · subst hj
          rw [ho] at hoj; injection hoj with hoj; subst hoj
          split
          · rfl
          · exact hneeds e he hb
        · rw [hbset, if_neg hj] at hbj
          split
          · rfl
          · exact hcl j oj hoj hbj e he hb
      · -- the frame
        have hcd : c.dst = o.dst := hdst i c o hc ho
        by_cases hdt : hasD o.dst t = true
        · -- its own destination
          have hdl : o.dst = some t := by
            cases hd : o.dst with
            | none => rw [hd] at hdt; simp [hasD] at hdt
            | some y => rw [hd] at hdt; rw [Nat.eq_of_beq_eq_true hdt]
          have hxv : lkR fr (b (L.setIfInBounds i true)) 0 R t = some c.v := lkR_self R 0 i c hc (by rw [hcd]; exact hdt) (fun j cj hj hdj => by
            have hjl : j < l.length := by rw [← hlen]; exact (List.getElem?_eq_some_iff.1 hj).1
            have hoj : l[j]? = some l[j] := by simp
            exact nodupD_get hnd j i t l[j].dst o.dst (by simp [hjl]) (by simp [ho]) (by rw [← hdst j cj _ hj hoj]; exact hdj) hdt) (by rw [Nat.zero_add, hbset, if_pos rfl])
          rw [hxv] at hx
          injection hx with hx
          subst hx
          have htn : t < n := okD_lt (List.all_eq_true.1 hdn o (List.mem_of_getElem? ho)) t hdl
          rw [hdl]
          have : (a'.put (some t) u).tmps.getD t undef = u := by simp [Act.put, hts, htn]
          rw [this]
          exact hv
        · have hdt' : hasD o.dst t = false := by simpa using hdt
          have heq : lkR fr (b (L.setIfInBounds i true)) 0 R t = lkR fr (b L) 0 R t := lkR_congr R 0 fun j cj hj hdj => by
            rw [Nat.zero_add, hbset]
            by_cases hji : j = i
            · subst hji
              rw [hc] at hj; injection hj with hj; subst hj
              rw [hcd, hdt'] at hdj; cases hdj
            · rw [if_neg hji]
          rw [heq] at hx
          have h1 := hm.val hf2 (hval t x hx)
          have : (a'.put o.dst u).tmps.getD t undef = a'.tmps.getD t undef := by
            cases hd : o.dst with
            | none => rfl
            | some y =>
              have hne : y ≠ t := fun h => by subst h; rw [hd] at hdt'; simp [hasD] at hdt'
              simp [Act.put, Array.getElem?_setIfInBounds_ne hne]
          rw [this]
          exact h1
    -- the operation itself
    have hdoes : ∀ σ1 σ2, σ1 = stR (b L) 0 R σ → σ2 = stR (b (L.setIfInBounds i true)) 0 R σ → Does P o fri σ1 c.v σ2 →
        ∀ Q', o.wp P a' w' (fun a2 w2 => I (L.setIfInBounds i true) a2 w2) Q' := fun σ1 σ2 h1 h2 hd Q' => by
      subst h1; subst h2
      refine hd S' B ι' a' w' (fun x hx y hy => ?_) hm _ Q' fun u S2 ι2 w2 hv hm2 hf2 => hnext u S2 ι2 w2 hv hm2 hf2
      cases x with
      | tmp t =>
        have htm : t ∈ o.looksAt l.toArray := List.mem_append_left _ (List.mem_filterMap.2 ⟨.tmp t, by simpa using hx, rfl⟩)
        simp only [evalE] at hy
        rw [hlk t htm] at hy
        exact hval t y hy
      | const v => exact .cv _ _ (ofConst_cv hy)
      | global g =>
        simp only [evalE, Option.map_eq_some_iff] at hy
        obtain ⟨cs, hg, rfl⟩ := hy
        exact .cv _ _ (hm.gl.1 g cs hg)
      | func f => simp [evalE] at hy; subst hy; exact .fn f [] [] #[] #[] rfl rfl (by simp) (by simp)
    have hsame : c.cl ≠ .a → stR (b (L.setIfInBounds i true)) 0 R σ = stR (b L) 0 R σ := fun hca => stR_congr R 0 σ fun j cj hj haj => by
      rw [Nat.zero_add]
      show (L.setIfInBounds i true).getD j false = L.getD j false
      by_cases hji : j = i
      · subst hji; rw [hc] at hj; injection hj with hj; subst hj; exact absurd haj hca
      · rw [getD_set_ne false (Ne.symm hji)]
    have hact : c.cl = .a → stR (b (L.setIfInBounds i true)) 0 R σ = c.σ := fun hca => stR_self R 0 i c σ hc hca (by
        rw [Nat.zero_add]
        show (L.setIfInBounds i true).getD i false = true
        rw [Array.getD_eq_getD_getElem?]; simp [show i < L.size by omega]) fun j cj hj haj hij => by
      rw [Nat.zero_add]
      show (L.setIfInBounds i true).getD j false = false
      rw [getD_set_ne false (by omega)]
      have hjl : j < l.length := by rw [← hlen]; exact (List.getElem?_eq_some_iff.1 hj).1
      have hci : (R.map (·.cl))[i]? = some .a := by simp [hc, hca]
      rw [hci] at hcls
      have hcjm : (R.map (·.cl))[j]? = some .a := by simp [hj, haj]
      have h1 := List.all_eq_true.1 hcls j (List.mem_range.2 hjl)
      rw [hcjm] at h1
      have h2 : b L j = lt_ i j := hfix j hjl h1
      have h3 : lt_ i j = false := by
        cases hx : lt_ i j with
        | false => rfl
        | true => rw [lt_iff] at hx; omega
      rw [h3] at h2
      exact h2
    -- its guard
    have hgo : ∀ σ1 σ2, σ1 = stR (b L) 0 R σ → σ2 = stR (b (L.setIfInBounds i true)) 0 R σ → DoG P l.toArray o fri σ1 c.v σ2 → wpOp P l.toArray (QT N Q S B ι σ w n) i (fun a2 w2 => I (L.setIfInBounds i true) a2 w2) a' w' := fun σ1 σ2 h1 h2 hd => by
      unfold wpOp
      rw [ho']
      simp only
      have look : ∀ g want t x, o.guard = some (g, want) → ((l.toArray)[g]?).bind (·.dst) = some t → lk fri t = some (.bool x) → a'.tmps.getD t undef = .bool x := fun g want t x hg hgt hx => by
        have htm : t ∈ o.looksAt l.toArray := by
          refine List.mem_append_right _ ?_
          rw [hg]
          simp only [hgt]
          simp
        rw [hlk t htm] at hx
        exact (hval t _ hx).inv_bool
      rcases hd with ⟨hg, hd⟩ | ⟨g, want, t, hg, hgt, hx, hd⟩ | ⟨g, want, t, y, hg, hgt, hx, hne, hv, hs⟩
      · rw [if_pos (by simp [Region.wanted, hg])]
        exact .inl (hdoes σ1 σ2 h1 h2 hd _)
      · rw [if_pos (by rw [guard_let hg hgt (look g want t want hg hgt hx)]; simp)]
        exact .inl (hdoes σ1 σ2 h1 h2 hd _)
      · have hy : Val S' B (RefR ι' (stR (b L) 0 R σ)) w' y (a'.tmps.getD t undef) := by
          have htm : t ∈ o.looksAt l.toArray := by
            refine List.mem_append_right _ ?_
            rw [hg]
            simp only [hgt]
            simp
          rw [hlk t htm] at hx
          exact hval t _ hx
        rw [if_neg (by rw [hne.wanted hg hgt (refOk _ _) (fun u h => by simp [RefR] at h) hy]; simp)]
        have he : stR (b L) 0 R σ = stR (b (L.setIfInBounds i true)) 0 R σ := by rw [← h1, ← h2, hs]
        exact hnext undef S' ι' w' (by rcases hv with hv | hv <;> rw [hv]; exact .any _; exact .cv _ _ (.tup [] #[] rfl (by simp))) (he ▸ hm) (he ▸ Fw.refl _ _ _ _)
    cases hcl' : c.cl with
    | q =>
      rw [hcl'] at hev
      exact hgo _ _ rfl (hsame (by rw [hcl']; simp)).symm (hev _ (stR_G R 0 σ hG0 hGa))
    | r =>
      rw [hcl'] at hev
      have e1 := hst (by rw [hcl']; simp)
      exact hgo _ _ e1.symm (by rw [hsame (by rw [hcl']; simp), e1]) hev
    | a =>
      rw [hcl'] at hev
      have e1 := hst (by rw [hcl']; simp)
      exact hgo _ _ e1.symm (hact hcl').symm hev
  · -- the end
    intro L a' w' hI hready
    obtain ⟨hL, hts, hdf, hcl, S', ι', hm, hf, hval⟩ := hI
    have hallb : ∀ (j : Nat), j < l.length → b L j = true := by
      intro j
      induction j using Nat.strongRecOn with
      | _ j ih =>
        intro hjl
        have hoj : l[j]? = some l[j] := by simp
        have hrow := List.all_eq_true.1 hall j (List.mem_range.2 hjl)
        rw [hoj] at hrow
        simp only [Bool.and_eq_true] at hrow
        cases hx : b L j with
        | true => rfl
        | false =>
          have : j ∈ Region.ready .any l.toArray L := by
            refine mem_ready.2 ⟨?_, l[j], by simp, fun e he hbe => ?_⟩
            · have hx' : L.getD j false = false := hx
              rw [Array.getD_eq_getD_getElem?, Array.getElem?_eq_getElem (by omega)] at hx' ⊢
              simpa using hx'
            · have h1 := List.all_eq_true.1 hrow.1.1 e (by simpa using he)
              rw [hbe] at h1
              have h2 : e.on < j := by simpa [Nat.blt_eq] using h1
              exact ih e.on h2 (by omega)
          rw [hready] at this
          cases this
    have hb : ∀ (j : Nat), j < R.length → b L j = true := fun j hj => hallb j (by omega)
    have e1 : stR (b L) 0 R σ = σ' := by
      rw [hσ']
      exact stR_congr R 0 σ fun j cj hj _ => by rw [Nat.zero_add]; exact hb j (List.getElem?_eq_some_iff.1 hj).1
    have e2 : ∀ t, lkR fr (b L) 0 R t = lk fr' t := fun t => by
      rw [hfr' t]
      exact lkR_congr R 0 fun j cj hj _ => by rw [Nat.zero_add]; exact hb j (List.getElem?_eq_some_iff.1 hj).1
    rw [e1] at hm hf hval
    exact ⟨.normal, fr', σ', S', ι', rfl, hQ, ⟨hts, hdf, fun t v hv => hval t v (by rw [e2]; exact hv), hm⟩, hf.toN⟩
  · -- the beginning
    have hb0 : ∀ j, b (Array.replicate l.toArray.size false) j = false := fun j => by
      show (Array.replicate l.toArray.size false).getD j false = false
      rw [Array.getD_eq_getD_getElem?, Array.getElem?_replicate]
      split <;> rfl
    have e1 : stR (b (Array.replicate l.toArray.size false)) 0 R σ = σ := stR_none R 0 σ fun j _ _ _ => hb0 _
    have e2 : ∀ t, lkR fr (b (Array.replicate l.toArray.size false)) 0 R t = lk fr t := fun t => by
      rw [lkR_congr (b' := fun _ => false) R 0 fun j _ _ _ => hb0 _]
      exact lkR_none R 0
    refine ⟨by simp, hr.size, hr.dfr, fun i o ho hb e he hbe => ?_, S, ι, by rw [e1]; exact hm0, by rw [e1]; exact hw0, fun t x hx => ?_⟩
    · rw [hb0] at hb; cases hb
    · rw [e1]
      rw [e2] at hx
      exact (hr.fr t x hx).mono (fun _ h => h) (fun _ h => h) (fun _ _ h => h) fun _ _ => rfl
  · simp [unl]
end Go.G36
