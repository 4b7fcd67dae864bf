/- Abstract values, an abstract store, and what they say of a world. -/
import Derived.Laws.AppendOwn
import Derived.Laws.OwnMore
import Derived.Laws.MakeOwn
import Derived.Deep.MidRow
import Derived.Below
namespace Go.G36
set_option linter.all false
open Go

inductive V where
  | int (k : IntKind) (n : Int)
  | bool (b : Bool)
  | str (s : ByteArray)
  | agg (cs : List V)
  | tup (vs : List V)
  | im (bor : Bool) (xs : List (List V))
  | nilS
  | hd (a L off len : Nat)
  | bx (a j : Nat)
  | el (a L i j : Nat)
  | px (a L : Nat) (k : Int) (j : Nat)
  | rf (bor : Bool) (cells : List V)
  | nilP
  | mp (a : Nat)
  | nilM
  | fn (f : FuncId) (first caps : List V)
  | nilF
  | nilI
  | any

/-- One cell's value. -/
def V.one : V → Bool
  | .agg _ | .tup _ | .any => false
  | _ => true

/-- Closed values: all that they reach lies in blocks of S. -/
inductive CV (S : Nat → Prop) (w : World) : V → Value → Prop where
  | int (k : IntKind) (n : Int) : CV S w (.int k n) (.int k n)
  | bool (b : Bool) : CV S w (.bool b) (.bool b)
  | str (s : ByteArray) : CV S w (.str s) (.string s)
  | agg (cs : List V) (us : Array Value) (hl : cs.length = us.size) (h : ∀ (i : Nat) (c : V) (u : Value), cs[i]? = some c → us[i]? = some u → CV S w c u) : CV S w (.agg cs) (.agg us)
  | tup (cs : List V) (us : Array Value) (hl : cs.length = us.size) (h : ∀ (i : Nat) (c : V) (u : Value), cs[i]? = some c → us[i]? = some u → CV S w c u) : CV S w (.tup cs) (.tuple us)
  | nilS : CV S w .nilS (.slice none 0 0)
  | im (xs : List (List V)) (A : Option Addr) (cap esz : Nat) (vals : Nat → Nat → Value) (hc : xs.length ≤ cap)
      (hA : xs ≠ [] → ∃ b off, A = some ⟨b, off, none⟩ ∧ S b ∧ (∀ row, row ∈ xs → row.length = esz) ∧
        ∀ (i j : Nat) (row : List V) (c : V), xs[i]? = some row → row[j]? = some c → w.cell? ⟨b, off + i * esz + j, none⟩ = some (vals i j))
      (hv : ∀ (i j : Nat) (row : List V) (c : V), xs[i]? = some row → row[j]? = some c → CV S w c (vals i j))
      (ho : ∀ (i j : Nat) (row : List V) (c : V), xs[i]? = some row → row[j]? = some c → c.one = true) : CV S w (.im false xs) (.slice A xs.length cap)
  | rf (cells : List V) (b off : Nat) (vals : Nat → Value) (hb : S b)
      (hc : ∀ (j : Nat) (c : V), cells[j]? = some c → w.cell? ⟨b, off + j, none⟩ = some (vals j))
      (hv : ∀ (j : Nat) (c : V), cells[j]? = some c → CV S w c (vals j)) (ho : ∀ (j : Nat) (c : V), cells[j]? = some c → c.one = true) : CV S w (.rf false cells) (.pointer (some ⟨b, off, none⟩))
  | nilP : CV S w .nilP (.pointer none)
  | nilM : CV S w .nilM (.map none)
  | nilF : CV S w .nilF .nilFunc
  | nilI : CV S w .nilI .nilIface

theorem CV.mono {S S' : Nat → Prop} {w w' : World} {v : V} {u : Value} (h : CV S w v u) (hS : ∀ b, S b → S' b) (hw : ∀ b, S b → w'.heap[b]? = w.heap[b]?) : CV S' w' v u := by
  induction h with
  | int k n => exact .int k n
  | bool b => exact .bool b
  | str s => exact .str s
  | agg cs us hl _ ih => exact .agg cs us hl ih
  | tup cs us hl _ ih => exact .tup cs us hl ih
  | nilS => exact .nilS
  | im xs A cap esz vals hc hA _ ho ih =>
    refine .im xs A cap esz vals hc (fun hne => ?_) ih ho
    obtain ⟨b, off, h1, h2, h3, h4⟩ := hA hne
    exact ⟨b, off, h1, hS b h2, h3, fun i j row c hr hj => by rw [World.cell?_of_block (w := w) (hw b h2)]; exact h4 i j row c hr hj⟩
  | rf cells b off vals hb hc _ ho ih =>
    exact .rf cells b off vals (hS b hb) (fun j c hj => by rw [World.cell?_of_block (w := w) (hw b hb)]; exact hc j c hj) ih ho
  | nilP => exact .nilP
  | nilM => exact .nilM
  | nilF => exact .nilF
  | nilI => exact .nilI

/-- Values: closed ones; borrowed ones (blocks of B); references into the abstract store (R). -/
inductive Val (S B : Nat → Prop) (R : V → Value → Prop) (w : World) : V → Value → Prop where
  | any (u : Value) : Val S B R w .any u
  | cv (v : V) (u : Value) (h : CV S w v u) : Val S B R w v u
  | agg (cs : List V) (us : Array Value) (hl : cs.length = us.size) (h : ∀ (i : Nat) (c : V) (u : Value), cs[i]? = some c → us[i]? = some u → Val S B R w c u) : Val S B R w (.agg cs) (.agg us)
  | tup (cs : List V) (us : Array Value) (hl : cs.length = us.size) (h : ∀ (i : Nat) (c : V) (u : Value), cs[i]? = some c → us[i]? = some u → Val S B R w c u) : Val S B R w (.tup cs) (.tuple us)
  | imB (xs : List (List V)) (A : Option Addr) (cap esz : Nat) (vals : Nat → Nat → Value) (hc : xs.length ≤ cap)
      (hA : xs ≠ [] → ∃ b off, A = some ⟨b, off, none⟩ ∧ B b ∧ (∀ row, row ∈ xs → row.length = esz) ∧
        ∀ (i j : Nat) (row : List V) (c : V), xs[i]? = some row → row[j]? = some c → w.cell? ⟨b, off + i * esz + j, none⟩ = some (vals i j))
      (hv : ∀ (i j : Nat) (row : List V) (c : V), xs[i]? = some row → row[j]? = some c → CV S w c (vals i j))
      (ho : ∀ (i j : Nat) (row : List V) (c : V), xs[i]? = some row → row[j]? = some c → c.one = true) : Val S B R w (.im true xs) (.slice A xs.length cap)
  | rfB (cells : List V) (b off : Nat) (vals : Nat → Value) (hb : B b)
      (hc : ∀ (j : Nat) (c : V), cells[j]? = some c → w.cell? ⟨b, off + j, none⟩ = some (vals j))
      (hv : ∀ (j : Nat) (c : V), cells[j]? = some c → CV S w c (vals j)) (ho : ∀ (j : Nat) (c : V), cells[j]? = some c → c.one = true) : Val S B R w (.rf true cells) (.pointer (some ⟨b, off, none⟩))
  | fn (f : FuncId) (first caps : List V) (us ws : Array Value) (h1 : first.length = us.size) (h2 : caps.length = ws.size)
      (hf : ∀ (i : Nat) (c : V) (u : Value), first[i]? = some c → us[i]? = some u → Val S B R w c u)
      (hk : ∀ (i : Nat) (c : V) (u : Value), caps[i]? = some c → ws[i]? = some u → Val S B R w c u) : Val S B R w (.fn f first caps) (.func (.func f) us ws)
  | ref (v : V) (u : Value) (h : R v u) : Val S B R w v u

theorem Val.mono {S S' B B' : Nat → Prop} {R R' : V → Value → Prop} {w w' : World} {v : V} {u : Value} (h : Val S B R w v u) (hS : ∀ b, S b → S' b) (hB : ∀ b, B b → B' b)
    (hR : ∀ v u, R v u → R' v u) (hw : ∀ b, S b ∨ B b → w'.heap[b]? = w.heap[b]?) : Val S' B' R' w' v u := by
  induction h with
  | any u => exact .any u
  | cv v u h => exact .cv _ _ (h.mono hS fun b hb => hw b (.inl hb))
  | agg cs us hl _ ih => exact .agg cs us hl ih
  | tup cs us hl _ ih => exact .tup cs us hl ih
  | imB xs A cap esz vals hc hA hv ho =>
    refine .imB xs A cap esz vals hc (fun hne => ?_) (fun i j row c hr hj => (hv i j row c hr hj).mono hS fun b hb => hw b (.inl hb)) ho
    obtain ⟨b, off, h1, h2, h3, h4⟩ := hA hne
    exact ⟨b, off, h1, hB b h2, h3, fun i j row c hr hj => by rw [World.cell?_of_block (w := w) (hw b (.inr h2))]; exact h4 i j row c hr hj⟩
  | rfB cells b off vals hb hc hv ho =>
    exact .rfB cells b off vals (hB b hb) (fun j c hj => by rw [World.cell?_of_block (w := w) (hw b (.inr hb))]; exact hc j c hj) (fun j c hj => (hv j c hj).mono hS fun b hb => hw b (.inl hb)) ho
  | fn f first caps us ws h1 h2 _ _ ih1 ih2 => exact .fn f first caps us ws h1 h2 ih1 ih2
  | ref v u h => exact .ref _ _ (hR _ _ h)

mutual
/-- No reference, nothing borrowed, at the top. -/
def V.cl : V → Bool
  | .int .. | .bool _ | .str _ | .nilS | .nilP | .nilM | .nilF | .nilI => true
  | .im b _ => !b
  | .rf b _ => !b
  | .agg cs => V.cls cs
  | .tup cs => V.cls cs
  | _ => false
def V.cls : List V → Bool
  | [] => true
  | c :: r => V.cl c && V.cls r
end

theorem V.cls_get {cs : List V} (h : V.cls cs = true) : ∀ (i : Nat) (c : V), cs[i]? = some c → c.cl = true := by
  induction cs with
  | nil => intro i c hc; simp at hc
  | cons x r ih =>
    simp only [V.cls, Bool.and_eq_true] at h
    intro i c hc
    cases i with
    | zero => simp at hc; subst hc; exact h.1
    | succ i => simp at hc; exact ih h.2 i c hc

/-- What a reference stands for is no closed form. -/
def RefOk (R : V → Value → Prop) : Prop := ∀ v u, R v u → v.cl = false

theorem Val.closed {S B : Nat → Prop} {R : V → Value → Prop} {w : World} {v : V} {u : Value} (hR : RefOk R) (h : Val S B R w v u) (hc : v.cl = true) : CV S w v u := by
  induction h with
  | any u => simp [V.cl] at hc
  | cv v u h => exact h
  | agg cs us hl _ ih => exact .agg cs us hl fun i c u h1 h2 => ih i c u h1 h2 (V.cls_get (by simpa [V.cl] using hc) i c h1)
  | tup cs us hl _ ih => exact .tup cs us hl fun i c u h1 h2 => ih i c u h1 h2 (V.cls_get (by simpa [V.cl] using hc) i c h1)
  | imB => simp [V.cl] at hc
  | rfB => simp [V.cl] at hc
  | fn => simp [V.cl] at hc
  | ref v u h => rw [hR v u h] at hc; cases hc

/-! ### The abstract store -/
inductive Md where
  | clo | frz | raw
  | tg (e : TypeId)
  deriving DecidableEq

/-- Closed or raw rows, the block's mark told by nothing. -/
def Md.okA : Md → Bool
  | .clo | .raw => true
  | _ => false
/-- What may be appended to by elements of type e. -/
def Md.okT (e : TypeId) : Md → Bool
  | .clo | .raw => true
  | .tg e' => Nat.beq e e'
  | .frz => false
theorem Md.okT_f {m : Md} {e : TypeId} (h : m.okT e = true) : m ≠ .frz := fun h' => by subst h'; cases h
theorem Md.okT_t {m : Md} {e : TypeId} (h : m.okT e = true) (e' : TypeId) (he : m = .tg e') : e = e' := by subst he; exact Nat.eq_of_beq_eq_true h
theorem Md.okA_f {m : Md} (h : m.okA = true) : m ≠ .frz := fun e => by subst e; cases h
theorem Md.okA_t {m : Md} (h : m.okA = true) {e : TypeId} {p : Prop} (he : m = .tg e) : p := by subst he; cases h

inductive AO where
  | arr (m : Md) (size : Nat) (xs : List (List V))
  | box (cs : List V)
  | mp (es : List (V × V))
  | dead
  | fam (xs : List (List V))
  | res
  | afm (size : Nat) (xs : List (Option (List (List V))))

/-- Where an object lies: an array by the slice value of all of it (nil, or from the head of its block). -/
inductive Loc where
  | row (v : Value)
  | box (b : Nat) (e : TypeId)
  | map (r : Nat)
  | it (r m : Nat)
  | fam (bs : List Nat)
  | afm (vs : List Value)

def Loc.block : Loc → Option Nat
  | .row v => v.ownBlock
  | .box b _ => some b
  | .map r => some r
  | .it r _ => some r
  | .fam _ => none
  | .afm _ => none

/-- The block that may be written by what holds the store. -/
def live : AO → Loc → Nat → Prop
  | .arr .frz _ _, _, _ => False
  | .dead, _, _ => False
  | .res, _, _ => False
  | .fam _, .fam bs, b => b ∈ bs
  | .fam _, _, _ => False
  | .afm _ xs, .afm vs, b => ∃ (k : Nat) (v : Value) (rows : List (List V)), vs[k]? = some v ∧ xs[k]? = some (some rows) ∧ v.ownBlock = some b
  | .afm _ _, _, _ => False
  | .mp _, .it r m, b => b = r ∨ b = m
  | _, l, b => l.block = some b

abbrev ASt := List AO

def RefR (ι : List Loc) (σ : ASt) : V → Value → Prop
  | .hd a L off len, u => match σ[a]?, ι[a]? with
    | some (.arr _ size xs), some (.row v) => L ≤ xs.length ∧ (xs.length = L → off + len ≤ L ∧
        (off = 0 → (∃ A c, v = .slice A L c ∧ u = .slice A len c)) ∧ (off ≠ 0 → ∃ b c A c', v = .slice (some ⟨b, 0, none⟩) L c ∧ u = .slice A len c' ∧ (len ≤ c' ∧ off + c' ≤ c) ∧ (len ≠ 0 → A = some ⟨b, off * size, none⟩)))
    | some .dead, _ => True
    | _, _ => False
  | .bx a j, u => match σ[a]?, ι[a]? with
    | some (.box cs), some (.box b _) => u = .pointer (some ⟨b, j, none⟩) ∧ j ≤ cs.length
    | some (.mp _), some (.it r _) => u = .pointer (some ⟨r, 0, none⟩) ∧ j = 0
    | _, _ => False
  | .el a L i j, u => match σ[a]?, ι[a]? with
    | some (.arr _ size xs), some (.row v) => L ≤ xs.length ∧ (xs.length = L → i < L ∧ ∃ b c, v = .slice (some ⟨b, 0, none⟩) L c ∧ u = .pointer (some ⟨b, i * size + j, none⟩))
    | some (.fam _), some (.fam bs) => ∃ b, bs[i]? = some b ∧ u = .pointer (some ⟨b, j, none⟩)
    | some (.afm size _), some (.afm vs) => ∃ b n c, vs[L]? = some (.slice (some ⟨b, 0, none⟩) n c) ∧ i < n ∧ u = .pointer (some ⟨b, i * size + j, none⟩)
    | some .dead, _ => True
    | _, _ => False
  | .px a L k j, u => match σ[a]?, ι[a]? with
    | some (.box cs), some (.box b e) => j ≤ cs.length ∧ L = e ∧ ((k < 0 ∧ u = .pointer none) ∨ (k = 0 ∧ u = .pointer (some ⟨b, j, none⟩)) ∨ (0 < k ∧ (u = .pointer none ∨ u = .pointer (some ⟨b, j, none⟩))))
    | some (.arr _ size xs), some (.row v) => L ≤ xs.length ∧ (xs.length = L → (k < -1 ∧ ∃ p, u = .pointer p) ∨ (k = -1 ∧ u = .pointer none) ∨ (0 ≤ k ∧ k.toNat < L ∧ ∃ b c, v = .slice (some ⟨b, 0, none⟩) L c ∧ u = .pointer (some ⟨b, k.toNat * size + j, none⟩)))
    | some (.fam _), some (.fam bs) => (k < 0 ∧ u = .pointer none) ∨ (0 ≤ k ∧ ∃ b, bs[k.toNat]? = some b ∧ u = .pointer (some ⟨b, j, none⟩))
    | some (.afm _ _), some (.afm vs) => (k < 0 ∧ u = .slice none 0 0) ∨ (0 ≤ k ∧ vs[k.toNat]? = some u ∧ ∃ A n c, u = .slice A n c)
    | some .dead, _ => True
    | _, _ => False
  | .mp a, u => match σ[a]?, ι[a]? with
    | some (.mp _), some (.map r) => u = .map (some r)
    | some .dead, some (.map r) => u = .map (some r)
    | _, _ => False
  | _, _ => False

theorem refOk (ι : List Loc) (σ : ASt) : RefOk (RefR ι σ) := by
  intro v u h
  cases v <;> simp_all [RefR, V.cl]

/-- The cells of a row of closed or other elements. -/
def RowsV (C : V → Value → Prop) (size : Nat) (xs : List (List V)) (vals : List Value) : Prop :=
  vals.length = xs.length * size ∧ (∀ row, row ∈ xs → row.length = size) ∧
  ∀ (i j : Nat) (row : List V) (c : V), xs[i]? = some row → row[j]? = some c → ∃ u, vals[i * size + j]? = some u ∧ C c u

def CellsV (C : V → Value → Prop) (cs : List V) (us : List Value) : Prop :=
  cs.length = us.length ∧ ∀ (i : Nat) (c : V) (u : Value), cs[i]? = some c → us[i]? = some u → C c u

/-- The stamps of a map's entries: below its clock, all unlike. -/
def Born (en : Array MapEntry) (clock : Nat) : Prop := (∀ (i : Nat) (m : MapEntry), en[i]? = some m → m.born < clock) ∧ ∀ (i j : Nat) (m m' : MapEntry), en[i]? = some m → en[j]? = some m' → m.born = m'.born → i = j
/-- What an iterator has not told yet. -/
def restOf (en : Array MapEntry) (seen : Array Nat) : List MapEntry := en.toList.filter fun e => !seen.contains e.born
def ObjRep (S B : Nat → Prop) (R : V → Value → Prop) (w : World) : AO → Loc → Prop
  | .arr m size xs, .row v => 0 < size ∧ ∃ e vals, w.ownsRow 0 e size v xs.length vals ∧
      RowsV (match m with | .raw => Val S B R w | _ => CV S w) size xs vals ∧ (∀ u, u ∈ vals → u.oneCell' = true) ∧ ((m = .frz → ∀ b, v.ownBlock = some b → S b) ∧ ∀ e', m = .tg e' → e = e')
  | .box cs, .box b e => ∃ us, w.heap[b]? = some (.cells us e (0, 0)) ∧ CellsV (Val S B R w) cs us.toList ∧ (∀ u, u ∈ us.toList → u.oneCell' = true)
  | .mp es, .map r => ∃ en clock, w.heap[r]? = some (.map en clock) ∧ en.size = es.length ∧ Born en clock ∧
      ∀ (i : Nat) (k x : V) (m : MapEntry), es[i]? = some (k, x) → en[i]? = some m → CV S w k m.key ∧ Val S B R w x m.val
  | .mp es, .it r m => r ≠ m ∧ ∃ en clock seen c0, w.heap[m]? = some (.map en clock) ∧ w.heap[r]? = some (.mapIter (some m) clock seen clock) ∧ Born en clock ∧
      (seen = #[] ∧ (es.map (·.1)).head? = some .nilF ∨ ∃ seen' : Array Nat, seen = seen'.push c0.born ∧ c0 ∈ en.toList) ∧ (c0 :: restOf en seen).length = es.length ∧
      ∀ (i : Nat) (k x : V) (e : MapEntry), es[i]? = some (k, x) → (c0 :: restOf en seen)[i]? = some e → CV S w k e.key ∧ Val S B R w x e.val
  | .dead, _ => True
  | .res, _ => True
  | .fam xs, .fam bs => bs.length = xs.length ∧ bs.Nodup ∧ ∀ (i b : Nat) (cs : List V), bs[i]? = some b → xs[i]? = some cs → ∃ us e, w.heap[b]? = some (.cells us e (0, 0)) ∧ CellsV (Val S B R w) cs us.toList ∧ (∀ u, u ∈ us.toList → u.oneCell' = true)
  | .afm size xs, .afm vs => 0 < size ∧ vs.length = xs.length ∧
      (∀ (k k' : Nat) (v v' : Value) (r r' : List (List V)) (b : Nat), k ≠ k' → vs[k]? = some v → vs[k']? = some v' → xs[k]? = some (some r) → xs[k']? = some (some r') → v.ownBlock = some b → v'.ownBlock = some b → False) ∧
      ∀ (k : Nat) (v : Value) (rows : List (List V)), vs[k]? = some v → xs[k]? = some (some rows) → ∃ e vals, w.ownsRow 0 e size v rows.length vals ∧ RowsV (CV S w) size rows vals ∧ ∀ u, u ∈ vals → u.oneCell' = true
  | _, _ => False


/-! ### Package-level variables that nothing writes: what they hold -/
class Genv where
  genv : Nat → Option (List V)
  gk : List (Nat × (Obj → Prop)) := []
variable [Genv]
def GlobOk (S : Nat → Prop) (w : World) : Prop := (∀ (g : Nat) (cs : List V), Genv.genv g = some cs → CV S w (.rf false cs) (.pointer (some ⟨g, 0, none⟩))) ∧
  ∀ x, x ∈ Genv.gk → S x.1 ∧ ∃ o, w.heap[x.1]? = some o ∧ x.2 o
theorem GlobOk.mono {S S' : Nat → Prop} {w w' : World} (h : GlobOk S w) (hS : ∀ b, S b → S' b) (hw : ∀ b, S b → w'.heap[b]? = w.heap[b]?) : GlobOk S' w' :=
  ⟨fun g cs hg => (h.1 g cs hg).mono hS hw, fun x hx => by
    obtain ⟨h1, o, h2, h3⟩ := h.2 x hx
    exact ⟨hS _ h1, o, (hw _ h1).trans h2, h3⟩⟩

/-! ### Memory that holds the store -/
structure Mem (S B : Nat → Prop) (ι : List Loc) (σ : ASt) (w : World) : Prop where
  len : ι.length = σ.length
  obj : ∀ (a : Nat) (o : AO) (l : Loc), σ[a]? = some o → ι[a]? = some l → ObjRep S B (RefR ι σ) w o l
  apart : ∀ (a : Nat) (o : AO) (l : Loc) (a' : Nat) (o' : AO) (l' : Loc) (b : Nat), σ[a]? = some o → ι[a]? = some l → σ[a']? = some o' → ι[a']? = some l' →
    live o l b → live o' l' b → a = a'
  outS : ∀ (a : Nat) (o : AO) (l : Loc) (b : Nat), σ[a]? = some o → ι[a]? = some l → live o l b → ¬ (S b ∨ B b)
  ltS : ∀ b, S b ∨ B b → b < w.heap.size
  gl : GlobOk S w

def Lv (ι : List Loc) (σ : ASt) (b : Nat) : Prop := ∃ (a : Nat) (o : AO) (l : Loc), σ[a]? = some o ∧ ι[a]? = some l ∧ live o l b

theorem ownsRow_lt {w : World} {e size : Nat} {v : Value} {n : Nat} {xs : List Value} (h : w.ownsRow 0 e size v n xs) {b : Nat} (hb : v.ownBlock = some b) : b < w.heap.size := (h.lt b hb).2

theorem live_lt {S B : Nat → Prop} {R : V → Value → Prop} {w : World} {o : AO} {l : Loc} {b : Nat} (h : ObjRep S B R w o l) (hl : live o l b) : b < w.heap.size := by
  cases o with
  | arr m size xs =>
    cases l with
    | row v =>
      obtain ⟨_, e, vals, hown, _⟩ := h
      cases m <;> simp [live, Loc.block] at hl <;> exact ownsRow_lt hown hl
    | box b' => exact h.elim
    | map r => exact h.elim
    | it r0 m0 => exact h.elim
    | fam bs0 => exact h.elim
    | afm vs0 => exact h.elim
  | box cs =>
    cases l with
    | box b' =>
      obtain ⟨us, hh, _⟩ := h
      simp [live, Loc.block] at hl; subst hl
      exact (Array.getElem?_eq_some_iff.1 hh).1
    | row v => exact h.elim
    | map r => exact h.elim
    | it r0 m0 => exact h.elim
    | fam bs0 => exact h.elim
    | afm vs0 => exact h.elim
  | mp es =>
    cases l with
    | map r =>
      obtain ⟨en, clock, hh, _⟩ := h
      simp [live, Loc.block] at hl; subst hl
      exact (Array.getElem?_eq_some_iff.1 hh).1
    | it r m =>
      obtain ⟨_, en, clock, seen, c0, hh, hi, _⟩ := h
      rcases hl with rfl | rfl
      · exact (Array.getElem?_eq_some_iff.1 hi).1
      · exact (Array.getElem?_eq_some_iff.1 hh).1
    | row v => exact h.elim
    | box b' => exact h.elim
    | fam bs0 => exact h.elim
    | afm vs0 => exact h.elim
  | dead => simp [live] at hl
  | res => exact hl.elim
  | fam xs =>
    cases l with
    | fam bs =>
      obtain ⟨h1, _, h2⟩ := h
      obtain ⟨i, hi, rfl⟩ := List.mem_iff_getElem.1 hl
      obtain ⟨us, e, h3, _⟩ := h2 i bs[i] (xs[i]'(h1 ▸ hi)) (by simp) (by simp)
      exact (Array.getElem?_eq_some_iff.1 h3).1
    | row v => exact h.elim
    | box b' => exact h.elim
    | map r => exact h.elim
    | it r9 m9 => exact h.elim
    | afm vs0 => exact h.elim
  | afm size xs =>
    cases l with
    | afm vs =>
      obtain ⟨_, _, _, h4⟩ := h
      obtain ⟨k, v, rows, h1, h2, h3⟩ := hl
      obtain ⟨e, vals, hown, _⟩ := h4 k v rows h1 h2
      exact ownsRow_lt hown h3
    | row v => exact h.elim
    | box b' => exact h.elim
    | map r => exact h.elim
    | it r0 m0 => exact h.elim
    | fam bs0 => exact h.elim

theorem Mem.lv_lt {S B : Nat → Prop} {ι : List Loc} {σ : ASt} {w : World} (h : Mem S B ι σ w) {b : Nat} (hb : Lv ι σ b) : b < w.heap.size := by
  obtain ⟨a, o, l, h1, h2, h3⟩ := hb
  exact live_lt (h.obj a o l h1 h2) h3

/-- From one state of the store and the world to a later one. -/
structure Fw (S : Nat → Prop) (ι : List Loc) (σ : ASt) (w : World) (S' : Nat → Prop) (ι' : List Loc) (σ' : ASt) (w' : World) : Prop where
  os : w'.os = w.os
  tape : w'.tape = w.tape
  output : w'.output = w.output
  size : w.heap.size ≤ w'.heap.size
  grow : ∀ b, S b → S' b
  new : ∀ b, S' b → S b ∨ Lv ι σ b ∨ w.heap.size ≤ b
  keep : ∀ b, b < w.heap.size → ¬ Lv ι σ b → w'.heap[b]? = w.heap[b]?
  lv : ∀ b, Lv ι' σ' b → Lv ι σ b ∨ w.heap.size ≤ b
  ref : ∀ v u, RefR ι σ v u → RefR ι' σ' v u

theorem Fw.refl (S : Nat → Prop) (ι : List Loc) (σ : ASt) (w : World) : Fw S ι σ w S ι σ w :=
  ⟨rfl, rfl, rfl, Nat.le_refl _, fun _ h => h, fun _ h => .inl h, fun _ _ _ => rfl, fun _ h => .inl h, fun _ _ h => h⟩

theorem Fw.trans {S S' S'' : Nat → Prop} {ι ι' ι'' : List Loc} {σ σ' σ'' : ASt} {w w' w'' : World} (h : Fw S ι σ w S' ι' σ' w') (k : Fw S' ι' σ' w' S'' ι'' σ'' w'') : Fw S ι σ w S'' ι'' σ'' w'' where
  os := k.os.trans h.os
  tape := k.tape.trans h.tape
  output := k.output.trans h.output
  size := Nat.le_trans h.size k.size
  grow := fun b hb => k.grow b (h.grow b hb)
  new := fun b hb => by
    rcases k.new b hb with h1 | h1 | h1
    · exact h.new b h1
    · exact .inr (h.lv b h1)
    · exact .inr (.inr (Nat.le_trans h.size h1))
  keep := fun b hb hn => by
    rw [k.keep b (Nat.lt_of_lt_of_le hb h.size) (fun hl => by rcases h.lv b hl with h1 | h1; exact hn h1; omega), h.keep b hb hn]
  lv := fun b hb => by
    rcases k.lv b hb with h1 | h1
    · exact h.lv b h1
    · exact .inr (Nat.le_trans h.size h1)
  ref := fun v u hr => k.ref v u (h.ref v u hr)

theorem Mem.same {S B : Nat → Prop} {ι ι' : List Loc} {σ σ' : ASt} {S' : Nat → Prop} {w w' : World} (h : Mem S B ι σ w) (k : Fw S ι σ w S' ι' σ' w') (b : Nat) (hb : S b ∨ B b) : w'.heap[b]? = w.heap[b]? :=
  k.keep b (h.ltS b hb) fun ⟨a, o, l, h1, h2, h3⟩ => h.outS a o l b h1 h2 h3 hb

theorem Mem.val {S B : Nat → Prop} {ι ι' : List Loc} {σ σ' : ASt} {S' : Nat → Prop} {w w' : World} (h : Mem S B ι σ w) (k : Fw S ι σ w S' ι' σ' w') {v : V} {u : Value}
    (hv : Val S B (RefR ι σ) w v u) : Val S' B (RefR ι' σ') w' v u := hv.mono k.grow (fun _ h => h) k.ref (h.same k)

theorem Mem.cv {S B : Nat → Prop} {ι ι' : List Loc} {σ σ' : ASt} {S' : Nat → Prop} {w w' : World} (h : Mem S B ι σ w) (k : Fw S ι σ w S' ι' σ' w') {v : V} {u : Value}
    (hv : CV S w v u) : CV S' w' v u := hv.mono k.grow fun b hb => h.same k b (.inl hb)

/-! ### Frames -/
abbrev Fr := List (Nat × V)
def lk : Fr → Nat → Option V
  | [], _ => none
  | (i, v) :: r, t => match Nat.beq i t with
    | true => some v
    | false => lk r t

def ofCell : Value → Option V
  | .int k n => some (.int k n)
  | .bool b => some (.bool b)
  | .string s => some (.str s)
  | .slice none 0 0 => some .nilS
  | .pointer none => some .nilP
  | .map none => some .nilM
  | .nilFunc => some .nilF
  | .nilIface => some .nilI
  | _ => none
def ofCells : List Value → Option (List V)
  | [] => some []
  | v :: r => match ofCell v, ofCells r with
    | some x, some xs => some (x :: xs)
    | _, _ => none
def ofConst : Value → Option V
  | .agg cs => (ofCells cs.toList).map .agg
  | v => ofCell v

theorem ofCell_cv {S : Nat → Prop} {w : World} {v : Value} {x : V} (h : ofCell v = some x) : CV S w x v := by
  unfold ofCell at h
  split at h <;> first | (injection h with h; subst h; constructor) | cases h

theorem ofCells_get : ∀ {vs : List Value} {xs : List V}, ofCells vs = some xs → xs.length = vs.length ∧ ∀ (i : Nat) (c : V) (u : Value), xs[i]? = some c → vs[i]? = some u → ofCell u = some c
  | [], xs, h => by simp [ofCells] at h; subst h; simp
  | v :: r, xs, h => by
    unfold ofCells at h
    split at h
    · rename_i x ys h1 h2
      injection h with h; subst h
      obtain ⟨h3, h4⟩ := ofCells_get h2
      refine ⟨by simp [h3], fun i c u hc hu => ?_⟩
      cases i with
      | zero => simp at hc hu; subst hc; subst hu; exact h1
      | succ i => simp at hc hu; exact h4 i c u hc hu
    · cases h

theorem ofConst_cv {S : Nat → Prop} {w : World} {v : Value} {x : V} (h : ofConst v = some x) : CV S w x v := by
  unfold ofConst at h
  split at h
  · rename_i cs
    cases hc : ofCells cs.toList with
    | none => simp [hc] at h
    | some ys =>
      simp [hc] at h; subst h
      obtain ⟨h1, h2⟩ := ofCells_get hc
      exact .agg _ _ (by simpa using h1) fun i c u h3 h4 => ofCell_cv (h2 i c u h3 (by simpa using h4))
  · exact ofCell_cv h

def evalE (fr : Fr) : Operand → Option V
  | .tmp t => lk fr t
  | .const v => ofConst v
  | .func f => some (.fn f [] [])
  | .global g => (Genv.genv g).map (V.rf false)

structure Rel (S B : Nat → Prop) (ι : List Loc) (n : Nat) (fr : Fr) (σ : ASt) (a : Act) (w : World) : Prop where
  size : a.tmps.size = n
  dfr : a.defers = []
  fr : ∀ t v, lk fr t = some v → Val S B (RefR ι σ) w v (a.tmps.getD t undef)
  mem : Mem S B ι σ w

theorem evalE_val {S B : Nat → Prop} {ι : List Loc} {n : Nat} {fr : Fr} {σ : ASt} {a : Act} {w : World} (h : Rel S B ι n fr σ a w) {x : Operand} {y : V} (hx : evalE fr x = some y) :
    Val S B (RefR ι σ) w y (a.eval x) := by
  cases x with
  | tmp t => exact h.fr t y hx
  | const v => exact .cv _ _ (ofConst_cv hx)
  | global g =>
    simp only [evalE, Option.map_eq_some_iff] at hx
    obtain ⟨cs, hg, rfl⟩ := hx
    exact .cv _ _ (h.mem.gl.1 g cs hg)
  | func f => simp [evalE] at hx; subst hx; exact .fn f [] [] #[] #[] rfl rfl (by simp) (by simp)

theorem Rel.fw {S S' B : Nat → Prop} {ι ι' : List Loc} {n : Nat} {fr : Fr} {σ σ' : ASt} {a : Act} {w w' : World} (h : Rel S B ι n fr σ a w) (k : Fw S ι σ w S' ι' σ' w') (hm : Mem S' B ι' σ' w') :
    Rel S' B ι' n fr σ' a w' := ⟨h.size, h.dfr, fun t v hv => h.mem.val k (h.fr t v hv), hm⟩

/-- What an operation leaves in its destination. -/
def setF (d : Option Tmp) (v : V) (fr : Fr) : Fr := match d with
  | some t => (t, v) :: fr
  | none => fr

theorem Rel.put {S B : Nat → Prop} {ι : List Loc} {n : Nat} {fr : Fr} {σ : ASt} {a : Act} {w : World} (h : Rel S B ι n fr σ a w) {d : Option Tmp} {v : V} {u : Value} (hd : ∀ t, d = some t → t < n)
    (hv : Val S B (RefR ι σ) w v u) : Rel S B ι n (setF d v fr) σ (a.put d u) w := by
  cases d with
  | none => exact h
  | some t =>
    have ht := hd t rfl
    refine ⟨by simp [Act.put, h.size], h.dfr, fun t' v' hl => ?_, h.mem⟩
    simp only [setF, lk] at hl
    by_cases e : t = t'
    · subst e
      have : Nat.beq t t = true := Nat.beq_refl t
      rw [this] at hl
      injection hl with hl; subst hl
      have hs := h.size
      simp [Act.put, hs, ht]; exact hv
    · have : Nat.beq t t' = false := by
        cases hb : Nat.beq t t' with
        | false => rfl
        | true => exact absurd (Nat.eq_of_beq_eq_true hb) e
      rw [this] at hl
      have := h.fr t' v' hl
      simp [Act.put, Array.getElem?_setIfInBounds_ne e] at this ⊢
      exact this

/-! ### What a value of each form is -/
section
variable {S B : Nat → Prop} {ι : List Loc} {σ : ASt} {w : World} {u : Value}
theorem Val.inv_int {k : IntKind} {m : Int} (h : Val S B (RefR ι σ) w (.int k m) u) : u = .int k m := by
  cases h with
  | cv _ _ h => cases h; rfl
  | ref _ _ h => simp [RefR] at h
theorem Val.inv_bool {b : Bool} (h : Val S B (RefR ι σ) w (.bool b) u) : u = .bool b := by
  cases h with
  | cv _ _ h => cases h; rfl
  | ref _ _ h => simp [RefR] at h
theorem Val.inv_str {s : ByteArray} (h : Val S B (RefR ι σ) w (.str s) u) : u = .string s := by
  cases h with
  | cv _ _ h => cases h; rfl
  | ref _ _ h => simp [RefR] at h
theorem Val.inv_nilS (h : Val S B (RefR ι σ) w .nilS u) : u = .slice none 0 0 := by
  cases h with
  | cv _ _ h => cases h; rfl
  | ref _ _ h => simp [RefR] at h
theorem Val.inv_nilP (h : Val S B (RefR ι σ) w .nilP u) : u = .pointer none := by
  cases h with
  | cv _ _ h => cases h; rfl
  | ref _ _ h => simp [RefR] at h
theorem Val.inv_agg {cs : List V} (h : Val S B (RefR ι σ) w (.agg cs) u) :
    ∃ us : Array Value, u = .agg us ∧ cs.length = us.size ∧ ∀ (i : Nat) (c : V) (u : Value), cs[i]? = some c → us[i]? = some u → Val S B (RefR ι σ) w c u := by
  cases h with
  | cv _ _ h => cases h with | agg _ us hl h => exact ⟨us, rfl, hl, fun i c u h1 h2 => .cv _ _ (h i c u h1 h2)⟩
  | agg _ us hl h => exact ⟨us, rfl, hl, h⟩
  | ref _ _ h => simp [RefR] at h
theorem Val.inv_tup {cs : List V} (h : Val S B (RefR ι σ) w (.tup cs) u) :
    ∃ us : Array Value, u = .tuple us ∧ cs.length = us.size ∧ ∀ (i : Nat) (c : V) (u : Value), cs[i]? = some c → us[i]? = some u → Val S B (RefR ι σ) w c u := by
  cases h with
  | cv _ _ h => cases h with | tup _ us hl h => exact ⟨us, rfl, hl, fun i c u h1 h2 => .cv _ _ (h i c u h1 h2)⟩
  | tup _ us hl h => exact ⟨us, rfl, hl, h⟩
  | ref _ _ h => simp [RefR] at h
/-- A slice by its content, wherever it lies. -/
theorem Val.inv_im {bor : Bool} {xs : List (List V)} (h : Val S B (RefR ι σ) w (.im bor xs) u) :
    ∃ (A : Option Addr) (cap esz : Nat) (vals : Nat → Nat → Value), u = .slice A xs.length cap ∧ xs.length ≤ cap ∧
      (xs ≠ [] → ∃ b off, A = some ⟨b, off, none⟩ ∧ (S b ∨ B b) ∧ (bor = false → S b) ∧ (bor = true → B b) ∧ (∀ row, row ∈ xs → row.length = esz) ∧
        ∀ (i j : Nat) (row : List V) (c : V), xs[i]? = some row → row[j]? = some c → w.cell? ⟨b, off + i * esz + j, none⟩ = some (vals i j)) ∧
      (∀ (i j : Nat) (row : List V) (c : V), xs[i]? = some row → row[j]? = some c → CV S w c (vals i j)) ∧
      ∀ (i j : Nat) (row : List V) (c : V), xs[i]? = some row → row[j]? = some c → c.one = true := by
  cases h with
  | cv _ _ h =>
    cases h with
    | im _ A cap esz vals hc hA hv ho =>
      refine ⟨A, cap, esz, vals, rfl, hc, fun hne => ?_, hv, ho⟩
      obtain ⟨b, off, h1, h2, h3, h4⟩ := hA hne
      exact ⟨b, off, h1, .inl h2, fun _ => h2, fun h => (by cases h), h3, h4⟩
  | imB _ A cap esz vals hc hA hv ho =>
    refine ⟨A, cap, esz, vals, rfl, hc, fun hne => ?_, hv, ho⟩
    obtain ⟨b, off, h1, h2, h3, h4⟩ := hA hne
    exact ⟨b, off, h1, .inr h2, fun h => (by cases h), fun _ => h2, h3, h4⟩
  | ref _ _ h => simp [RefR] at h
theorem Val.inv_rf {bor : Bool} {cells : List V} (h : Val S B (RefR ι σ) w (.rf bor cells) u) :
    ∃ (b off : Nat) (vals : Nat → Value), u = .pointer (some ⟨b, off, none⟩) ∧ (bor = false → S b) ∧ (bor = true → B b) ∧
      (∀ (j : Nat) (c : V), cells[j]? = some c → w.cell? ⟨b, off + j, none⟩ = some (vals j)) ∧ (∀ (j : Nat) (c : V), cells[j]? = some c → CV S w c (vals j)) ∧
      ∀ (j : Nat) (c : V), cells[j]? = some c → c.one = true := by
  cases h with
  | cv _ _ h =>
    cases h with
    | rf _ b off vals hb hc hv ho => exact ⟨b, off, vals, rfl, fun _ => hb, fun h => (by cases h), hc, hv, ho⟩
  | rfB _ b off vals hb hc hv ho => exact ⟨b, off, vals, rfl, fun h => (by cases h), fun _ => hb, hc, hv, ho⟩
  | ref _ _ h => simp [RefR] at h
theorem Val.inv_fn {f : FuncId} {first caps : List V} (h : Val S B (RefR ι σ) w (.fn f first caps) u) :
    ∃ us ws : Array Value, u = .func (.func f) us ws ∧ first.length = us.size ∧ caps.length = ws.size ∧
      (∀ (i : Nat) (c : V) (u : Value), first[i]? = some c → us[i]? = some u → Val S B (RefR ι σ) w c u) ∧
      ∀ (i : Nat) (c : V) (u : Value), caps[i]? = some c → ws[i]? = some u → Val S B (RefR ι σ) w c u := by
  cases h with
  | cv _ _ h => cases h
  | fn _ _ _ us ws h1 h2 hf hk => exact ⟨us, ws, rfl, h1, h2, hf, hk⟩
  | ref _ _ h => simp [RefR] at h
theorem Val.inv_ref {v : V} (hv : v.cl = false) (hv2 : match v with | .hd .. | .bx .. | .el .. | .px .. | .mp _ => True | _ => False) (h : Val S B (RefR ι σ) w v u) : RefR ι σ v u := by
  cases h with
  | ref _ _ h => exact h
  | cv _ _ h => cases h <;> simp_all
  | _ => simp_all
end

theorem RefR.bx {ι : List Loc} {σ : ASt} {p j : Nat} {u : Value} {cs : List V} (h : RefR ι σ (.bx p j) u) (hs : σ[p]? = some (.box cs)) :
    ∃ b e, ι[p]? = some (.box b e) ∧ u = .pointer (some ⟨b, j, none⟩) ∧ j ≤ cs.length := by
  simp only [RefR, hs] at h
  split at h
  · rename_i c b e h1 h2
    injection h1 with h1; injection h1 with h1; subst h1
    exact ⟨b, e, h2, h⟩
  · rename_i h1 _; cases h1
  · exact h.elim
theorem RefR.el {ι : List Loc} {σ : ASt} {p L i j : Nat} {u : Value} {m : Md} {size : Nat} {xs : List (List V)} (h : RefR ι σ (.el p L i j) u) (hs : σ[p]? = some (.arr m size xs)) (hL : xs.length = L) :
    ∃ b c, ι[p]? = some (.row (.slice (some ⟨b, 0, none⟩) L c)) ∧ i < L ∧ u = .pointer (some ⟨b, i * size + j, none⟩) := by
  simp only [RefR, hs] at h
  split at h
  · rename_i md sz xs' v0 h1 h2
    injection h1 with h1; injection h1 with h1 h1' h1''; subst h1; subst h1'; subst h1''
    obtain ⟨_, h3⟩ := h
    obtain ⟨hi, b, c, rfl, hu⟩ := h3 hL
    exact ⟨b, c, h2, hi, hu⟩
  · rename_i h1 _; cases h1
  · rename_i h1 _; cases h1
  · rename_i h1; cases h1
  · exact h.elim
theorem RefR.mp {ι : List Loc} {σ : ASt} {p : Nat} {u : Value} {es : List (V × V)} (h : RefR ι σ (.mp p) u) (hs : σ[p]? = some (.mp es)) : ∃ r, ι[p]? = some (.map r) ∧ u = .map (some r) := by
  simp only [RefR, hs] at h
  split at h
  · rename_i c b h1 h2
    exact ⟨b, h2, h⟩
  · rename_i h1 _; cases h1
  · exact h.elim
theorem RefR.hd {ι : List Loc} {σ : ASt} {p L off len : Nat} {u : Value} {m : Md} {size : Nat} {xs : List (List V)} (h : RefR ι σ (.hd p L off len) u) (hs : σ[p]? = some (.arr m size xs)) (hL : xs.length = L) :
    ∃ v, ι[p]? = some (.row v) ∧ off + len ≤ L ∧ (off = 0 → (∃ A c, v = .slice A L c ∧ u = .slice A len c)) ∧
      (off ≠ 0 → ∃ b c A c', v = .slice (some ⟨b, 0, none⟩) L c ∧ u = .slice A len c' ∧ (len ≤ c' ∧ off + c' ≤ c) ∧ (len ≠ 0 → A = some ⟨b, off * size, none⟩)) := by
  simp only [RefR, hs] at h
  split at h
  · rename_i md sz xs' v0 h1 h2
    injection h1 with h1; injection h1 with h1 h1' h1''; subst h1; subst h1'; subst h1''
    obtain ⟨_, h3⟩ := h
    exact ⟨v0, h2, h3 hL⟩
  · rename_i h1; injection h1 with h1; cases h1
  · exact h.elim
end Go.G36
