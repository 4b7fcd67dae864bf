/- Operations that leave the store as it is: numbers, texts, parts, addresses, loads. -/
import Derived.Test.YtmlfbendohecmaaKb
import Derived.Laws.StructEq
import Derived.Laws.Strings
import Derived.Laws.Slices
import Derived.Laws.Entries
namespace Go.G36
variable [Genv]
set_option linter.all false
open Go

/-! ### Types -/
def TyS (P : Program) (t : TypeId) (ag : Bool) (sz : Nat) : Prop := (P.underlying t).map TypeDesc.isRow = some ag ∧ (P.info? t).map (·.size) = some sz

theorem TyS.agg {P : Program} {t : TypeId} {ag : Bool} {sz : Nat} (h : TyS P t ag sz) (w : World) : (isAgg t).run P w = .ok ag w := by
  obtain ⟨h1, _⟩ := h
  cases hq : P.underlying t with
  | none => simp [hq] at h1
  | some d =>
    simp [hq] at h1
    unfold isAgg
    rw [Sem.run_bind, run_underlying hq w]
    cases d <;> simp_all

theorem TyS.size {P : Program} {t : TypeId} {ag : Bool} {sz : Nat} (h : TyS P t ag sz) (w : World) : (sizeOf t).run P w = .ok sz w := by
  obtain ⟨_, h1⟩ := h
  cases hq : P.info? t with
  | none => simp [hq] at h1
  | some d =>
    simp [hq] at h1
    simp [sizeOf, typeInfo, hq, h1]

def wrapV : Bool → List V → Option V
  | true, cs => some (.agg cs)
  | false, [c] => some c
  | _, _ => none
def V.cells : V → List V
  | .agg cs => cs
  | v => [v]

theorem quiet {P : Program} {o : Oper} {fr : Fr} {σ : ASt} {v : V}
    (h : ∀ (S B : Nat → Prop) (ι : List Loc) (a : Act) (w : World), (∀ x, x ∈ o.op.operands → ∀ y, evalE fr x = some y → Val S B (RefR ι σ) w y (a.eval x)) → Mem S B ι σ w →
      ∃ u, (execOp a.eval o).run P w = .ok (.value u) w ∧ Val S B (RefR ι σ) w v u) : Does P o fr σ v σ := fun S B ι a w hx hm next Q hk => by
  obtain ⟨u, h1, h2⟩ := h S B ι a w hx hm
  unfold Oper.wp
  rw [h1]
  exact hk u S ι w h2 hm (Fw.refl _ _ _ _)

section
variable {P : Program} {o : Oper} {fr : Fr} {σ : ASt}

theorem o_move {x : Operand} {v : V} (ho : o.op = .move x) (hx : evalE fr x = some v) : Does P o fr σ v σ := quiet fun S B ι a w he _ =>
  ⟨a.eval x, by simp [execOp, ho], he x (by simp [ho, Op.operands]) v hx⟩
theorem o_assign {x : Operand} {v : V} (ho : o.op = .assign x) (hx : evalE fr x = some v) : Does P o fr σ v σ := quiet fun S B ι a w he _ =>
  ⟨a.eval x, by simp [execOp, ho], he x (by simp [ho, Op.operands]) v hx⟩

def okNil : V → Bool
  | .bx .. | .rf .. => true
  | .fn .. => true
  | _ => false

theorem o_nilCheck {x : Operand} {v : V} (ho : o.op = .nilCheck x) (hx : evalE fr x = some v) (hn : okNil v = true) : Does P o fr σ v σ := quiet fun S B ι a w he _ => by
  have hv := he x (by simp [ho, Op.operands]) v hx
  refine ⟨a.eval x, ?_, hv⟩
  cases v with
  | bx p j =>
    have h := Val.inv_ref (v := .bx p j) rfl trivial hv
    simp only [RefR] at h
    split at h <;> first | (obtain ⟨h, _⟩ := h; simp [execOp, ho, h]; done) | (simp [execOp, ho, h]; done) | exact h.elim
  | rf bor cells =>
    obtain ⟨b, off, vals, h, _⟩ := hv.inv_rf
    simp [execOp, ho, h]
  | fn f first caps =>
    obtain ⟨us, ws, h, _⟩ := hv.inv_fn
    simp [execOp, ho, h]
  | _ => simp [okNil] at hn

/-! #### Whole numbers -/
def ari : BinOp → IntKind → Int → Int → Option V
  | .add, k, m, n => some (.int k (k.wrap (m + n)))
  | .sub, k, m, n => some (.int k (k.wrap (m - n)))
  | .mul, k, m, n => some (.int k (k.wrap (m * n)))
  | .eql, _, m, n => some (.bool (m == n))
  | .neq, _, m, n => some (.bool (m != n))
  | .lss, _, m, n => some (.bool (decide (m < n)))
  | .leq, _, m, n => some (.bool (decide (m ≤ n)))
  | .gtr, _, m, n => some (.bool (decide (m > n)))
  | .geq, _, m, n => some (.bool (decide (m ≥ n)))
  | _, _, _, _ => none

theorem eqGuard_plain {op : BinOp} {t : TypeId} {x y : Operand} {a b : Value} (w : World) (ha : match a with | .nilIface => False | .agg _ => False | _ => True) : (eqGuard op t x y a b).run P w = .ok () w := by
  unfold eqGuard
  cases op <;> cases a <;> first | (simp at ha; done) | simp

theorem o_ari {op : BinOp} {t yt : TypeId} {x y : Operand} {k : IntKind} {m n : Int} {v : V} (ho : o.op = .binOp op t x y yt) (hx : evalE fr x = some (.int k m)) (hy : evalE fr y = some (.int k n))
    (hv : ari op k m n = some v) : Does P o fr σ v σ := quiet fun S B ι a w he _ => by
  have h1 := (he x (by simp [ho, Op.operands]) _ hx).inv_int
  have h2 := (he y (by simp [ho, Op.operands]) _ hy).inv_int
  have hg := eqGuard_plain (P := P) (op := op) (t := t) (x := x) (y := y) (a := .int k m) (b := .int k n) w trivial
  cases op <;> simp only [ari, reduceCtorEq, Option.some.injEq] at hv <;> subst hv <;>
    exact ⟨_, by simp [execOp, ho, h1, h2, hg, binOp, Op.intArith, Op.intCmp]; rfl, .cv _ _ (by constructor)⟩

theorem o_quo {t yt : TypeId} {x y : Operand} {k : IntKind} {m n : Int} (ho : o.op = .binOp .quo t x y yt) (hx : evalE fr x = some (.int k m)) (hy : evalE fr y = some (.int k n)) (hn : n ≠ 0) :
    Does P o fr σ (.int k (k.wrap (m.tdiv n))) σ := quiet fun S B ι a w he _ => by
  have h1 := (he x (by simp [ho, Op.operands]) _ hx).inv_int
  have h2 := (he y (by simp [ho, Op.operands]) _ hy).inv_int
  exact ⟨_, by simp [execOp, ho, h1, h2, eqGuard, binOp, Op.intDiv, hn]; rfl, .cv _ _ (by constructor)⟩
theorem o_rem {t yt : TypeId} {x y : Operand} {k : IntKind} {m n : Int} (ho : o.op = .binOp .rem t x y yt) (hx : evalE fr x = some (.int k m)) (hy : evalE fr y = some (.int k n)) (hn : n ≠ 0) :
    Does P o fr σ (.int k (m.tmod n)) σ := quiet fun S B ι a w he _ => by
  have h1 := (he x (by simp [ho, Op.operands]) _ hx).inv_int
  have h2 := (he y (by simp [ho, Op.operands]) _ hy).inv_int
  exact ⟨_, by simp [execOp, ho, h1, h2, eqGuard, binOp, Op.intDiv, hn]; rfl, .cv _ _ (by constructor)⟩

def bitop : BinOp → IntKind → Int → Int → Option Int
  | .and, k, m, n => some (k.wrap (BitVec.ofInt k.bits m &&& BitVec.ofInt k.bits n).toNat)
  | .or, k, m, n => some (k.wrap (BitVec.ofInt k.bits m ||| BitVec.ofInt k.bits n).toNat)
  | .xor, k, m, n => some (k.wrap (BitVec.ofInt k.bits m ^^^ BitVec.ofInt k.bits n).toNat)
  | _, _, _, _ => none
theorem o_bits {op : BinOp} {t yt : TypeId} {x y : Operand} {k : IntKind} {m n r : Int} (ho : o.op = .binOp op t x y yt) (hx : evalE fr x = some (.int k m)) (hy : evalE fr y = some (.int k n))
    (hv : bitop op k m n = some r) : Does P o fr σ (.int k r) σ := quiet fun S B ι a w he _ => by
  have h1 := (he x (by simp [ho, Op.operands]) _ hx).inv_int
  have h2 := (he y (by simp [ho, Op.operands]) _ hy).inv_int
  cases op <;> simp only [bitop, reduceCtorEq, Option.some.injEq] at hv <;> subst hv <;>
    exact ⟨_, by simp [execOp, ho, h1, h2, eqGuard, binOp, Op.intBits]; rfl, .cv _ _ (by constructor)⟩
theorem o_shr {t yt : TypeId} {x y : Operand} {k k2 : IntKind} {m n : Int} (ho : o.op = .binOp .shr t x y yt) (hx : evalE fr x = some (.int k m)) (hy : evalE fr y = some (.int k2 n)) (hn : 0 ≤ n) :
    Does P o fr σ (.int k (m.fdiv (2 ^ (min n.toNat k.bits)))) σ := quiet fun S B ι a w he _ => by
  have h1 := (he x (by simp [ho, Op.operands]) _ hx).inv_int
  have h2 := (he y (by simp [ho, Op.operands]) _ hy).inv_int
  exact ⟨_, by simp [execOp, ho, h1, h2, eqGuard, binOp, Op.shift, show ¬ n < 0 by omega]; rfl, .cv _ _ (by constructor)⟩
theorem o_neg {t : TypeId} {x : Operand} {k : IntKind} {m : Int} (ho : o.op = .unOp .neg t x) (hx : evalE fr x = some (.int k m)) : Does P o fr σ (.int k (k.wrap (-m))) σ := quiet fun S B ι a w he _ => by
  have h1 := (he x (by simp [ho, Op.operands]) _ hx).inv_int
  exact ⟨_, by simp [execOp, ho, h1, Op.unary, Op.intArith]; rfl, .cv _ _ (by constructor)⟩
theorem o_not {t : TypeId} {x : Operand} {b : Bool} (ho : o.op = .unOp .not t x) (hx : evalE fr x = some (.bool b)) : Does P o fr σ (.bool (!b)) σ := quiet fun S B ι a w he _ => by
  have h1 := (he x (by simp [ho, Op.operands]) _ hx).inv_bool
  exact ⟨_, by simp [execOp, ho, h1, Op.unary]; rfl, .cv _ _ (by constructor)⟩
theorem o_conv {s d : TypeId} {x : Operand} {k k2 : IntKind} {m : Int} (ho : o.op = .convert s d x) (hx : evalE fr x = some (.int k m)) (hs : ∃ e, P.underlying s = some e) (hd : P.underlying d = some (.int k2)) :
    Does P o fr σ (.int k2 (k2.wrap m)) σ := quiet fun S B ι a w he _ => by
  have h1 := (he x (by simp [ho, Op.operands]) _ hx).inv_int
  obtain ⟨e, hs⟩ := hs
  refine ⟨.int k2 (k2.wrap m), ?_, .cv _ _ (by constructor)⟩
  simp [execOp, ho, h1, convert, run_underlying hs, run_underlying hd, Conv.intToInt]

/-! #### Bools -/
/-! #### Texts -/
def strop : BinOp → ByteArray → ByteArray → Option Bool
  | .eql, x, y => some (x.toList == y.toList)
  | .neq, x, y => some (!(x.toList == y.toList))
  | .lss, x, y => some (Op.bytesLess x.toList y.toList)
  | .leq, x, y => some (Op.bytesLess x.toList y.toList || x.toList == y.toList)
  | .gtr, x, y => some (!(Op.bytesLess x.toList y.toList) && !(x.toList == y.toList))
  | .geq, x, y => some (!(Op.bytesLess x.toList y.toList))
  | _, _, _ => none
theorem o_str {op : BinOp} {t yt : TypeId} {x y : Operand} {r s : ByteArray} {b : Bool} (ho : o.op = .binOp op t x y yt) (hx : evalE fr x = some (.str r)) (hy : evalE fr y = some (.str s))
    (hv : strop op r s = some b) : Does P o fr σ (.bool b) σ := quiet fun S B ι a w he _ => by
  have h1 := (he x (by simp [ho, Op.operands]) _ hx).inv_str
  have h2 := (he y (by simp [ho, Op.operands]) _ hy).inv_str
  have hg := eqGuard_plain (P := P) (op := op) (t := t) (x := x) (y := y) (a := .string r) (b := .string s) w trivial
  cases op <;> simp only [strop, reduceCtorEq, Option.some.injEq] at hv <;> subst hv <;>
    exact ⟨_, by simp [execOp, ho, h1, h2, hg, binOp, Op.stringOp]; rfl, .cv _ _ (by constructor)⟩
theorem o_cat {t yt : TypeId} {x y : Operand} {r s : ByteArray} (ho : o.op = .binOp .add t x y yt) (hx : evalE fr x = some (.str r)) (hy : evalE fr y = some (.str s))
    (hs : r.size + s.size ≤ 9223372036854775807) : Does P o fr σ (.str (r ++ s)) σ := quiet fun S B ι a w he _ => by
  have h1 := (he x (by simp [ho, Op.operands]) _ hx).inv_str
  have h2 := (he y (by simp [ho, Op.operands]) _ hy).inv_str
  refine ⟨.string (r ++ s), ?_, .cv _ _ (by constructor)⟩
  have : ¬ (((r.size + s.size : Nat) : Int) > IntKind.i64.max) := by simp [IntKind.max, IntKind.bits, IntKind.signed]; omega
  simp [execOp, ho, h1, h2, eqGuard, binOp, Op.stringOp] at this ⊢
  omega
theorem o_lenS {t : TypeId} {x : Operand} {s : ByteArray} (ho : o.op = .call { callee := .builtin .len, args := #[x], argTypes := #[t] }) (ht : P.underlying t = some .string) (hx : evalE fr x = some (.str s)) :
    Does P o fr σ (.int .i64 s.size) σ := quiet fun S B ι a w he _ => by
  have h1 := (he x (by simp [ho, Op.operands, Call.operands]) _ hx).inv_str
  exact ⟨_, by simp [execOp, ho, h1, resolve, invoke, builtin, Builtin.len_, run_underlying ht, goInt]; rfl, .cv _ _ (by constructor)⟩

/-! ### Parts of values -/
theorem pw_get {S B : Nat → Prop} {R : V → Value → Prop} {w : World} {cs : List V} {us : Array Value} (hl : cs.length = us.size)
    (h : ∀ (i : Nat) (c : V) (u : Value), cs[i]? = some c → us[i]? = some u → Val S B R w c u) {i : Nat} {c : V} (hc : cs[i]? = some c) : ∃ u, us[i]? = some u ∧ Val S B R w c u := by
  have hi : i < us.size := hl ▸ (List.getElem?_eq_some_iff.1 hc).1
  exact ⟨us[i], by simp [hi], h i c us[i] hc (by simp [hi])⟩

theorem run_part_agg {t : TypeId} {sz off : Nat} {us : Array Value} (w : World) (ht : TyS P t true sz) : (part t us off).run P w = .ok (.agg (us.extract off (off + sz))) w := by
  simp [part, ht.agg w, ht.size w]
theorem run_part_one {t : TypeId} {off : Nat} {us : Array Value} {u : Value} (w : World) (ht : TyS P t false 1) (hu : us[off]? = some u) : (part t us off).run P w = .ok u w := by
  simp [part, ht.agg w, hu]

/-- A text's byte. -/
theorem o_indexS {t : TypeId} {x y : Operand} {s : ByteArray} {k : IntKind} {i : Int} {b : UInt8} (ho : o.op = .index t x y) (ht : P.underlying t = some .string)
    (hx : evalE fr x = some (.str s)) (hy : evalE fr y = some (.int k i)) (h0 : 0 ≤ i) (hb : s.data.toList[i.toNat]? = some b) :
    Does P o fr σ (.int .u8 b.toNat) σ := quiet fun S B ι a w he _ => by
  have h1 := (he x (by simp [ho, Op.operands]) _ hx).inv_str
  have h2 := (he y (by simp [ho, Op.operands]) _ hy).inv_int
  have h3 : s[i.toNat]? = some b := by
    obtain ⟨hi, he⟩ := List.getElem?_eq_some_iff.1 hb
    have hi' : i.toNat < s.size := by simpa using hi
    rw [getElem?_pos s i.toNat hi']
    congr 1
  refine ⟨_, by simp [execOp, ho, h1, h2, Instr.index, asIntOf, run_underlying ht, h0, h3]; rfl, .cv _ _ (by constructor)⟩

theorem o_extract {x : Operand} {i : Nat} {vs : List V} {v : V} (ho : o.op = .extract x i) (hx : evalE fr x = some (.tup vs)) (hv : vs[i]? = some v) : Does P o fr σ v σ := quiet fun S B ι a w he _ => by
  obtain ⟨us, h1, hl, hp⟩ := (he x (by simp [ho, Op.operands]) _ hx).inv_tup
  obtain ⟨u, h2, h3⟩ := pw_get hl hp hv
  exact ⟨u, by simp [execOp, ho, h1, Instr.extract, h2], h3⟩
theorem o_pick {c x y : Operand} {b : Bool} {v : V} (ho : o.op = .pick c x y) (hc : evalE fr c = some (.bool b)) (hx : (if b then evalE fr x else evalE fr y) = some v) : Does P o fr σ v σ := quiet fun S B ι a w he _ => by
  have h1 := (he c (by simp [ho, Op.operands]) _ hc).inv_bool
  cases b with
  | true => exact ⟨a.eval x, by simp [execOp, ho, h1, asBool], he x (by simp [ho, Op.operands]) v (by simpa using hx)⟩
  | false => exact ⟨a.eval y, by simp [execOp, ho, h1, asBool], he y (by simp [ho, Op.operands]) v (by simpa using hx)⟩

/-! ### Addresses and loads -/
theorem run_loadAt_gen {t : TypeId} {ag : Bool} {sz : Nat} (w : World) (b off : Nat) (f : Nat → Value) (ht : TyS P t ag sz) (h1 : ag = false → sz = 1) (hc : ∀ j, j < sz → w.cell? ⟨b, off + j, none⟩ = some (f j)) :
    (Instr.loadAt t (.pointer (some ⟨b, off, none⟩))).run P w = .ok (if ag then .agg ((List.range sz).map f).toArray else f 0) w := by
  cases ag with
  | false =>
    have hsz := h1 rfl
    subst hsz
    have := hc 0 (by omega)
    simp only [Nat.add_zero] at this
    simp [Instr.loadAt, Instr.sureAddr, loadVar, ht.agg w, this]
  | true =>
    have hl : (loadCells ⟨b, off, none⟩ sz).run P w = .ok ((List.range sz).map f).toArray w := by
      have := run_loadCells_list (P := P) w ⟨b, off, none⟩ ((List.range sz).map f) (fun j v hv => by
        rw [Addr.add_mid]
        rw [List.getElem?_map] at hv
        cases hr : (List.range sz)[j]? with
        | none => simp [hr] at hv
        | some q =>
          simp [hr] at hv
          have hj : j < sz := by
            have := (List.getElem?_eq_some_iff.1 hr).1
            simpa using this
          rw [List.getElem?_range hj] at hr
          injection hr with hr
          subst hr; subst hv
          exact hc j hj)
      simpa using this
    simp [Instr.loadAt, Instr.sureAddr, loadVar, ht.agg w, ht.size w, hl]

/-- What is loaded from sz cells. -/
theorem load_val {S B : Nat → Prop} {R : V → Value → Prop} {w : World} {ag : Bool} {sz : Nat} {cs : List V} {f : Nat → Value} {v : V} (h1 : ag = false → sz = 1) (hl : sz ≤ cs.length)
    (h : ∀ (j : Nat) (c : V), cs[j]? = some c → Val S B R w c (f j)) (hv : wrapV ag (cs.take sz) = some v) : Val S B R w v (if ag then .agg ((List.range sz).map f).toArray else f 0) := by
  cases ag with
  | true =>
    simp only [wrapV, Option.some.injEq] at hv
    subst hv
    refine .agg _ _ (by simp; omega) fun i c u h2 h3 => ?_
    rw [List.getElem?_take] at h2
    split at h2
    · rename_i hi
      have h4 : ((List.range sz).map f)[i]? = some (f i) := by simp [List.getElem?_range hi]
      rw [List.getElem?_toArray, h4] at h3
      injection h3 with h3
      subst h3
      exact h i c h2
    · cases h2
  | false =>
    have hsz := h1 rfl
    subst hsz
    cases cs with
    | nil => simp at hl
    | cons c r =>
      simp only [List.take_succ_cons, List.take_zero, wrapV, Option.some.injEq] at hv
      subst hv
      exact h 0 c rfl

theorem wrapV_one {ag : Bool} {cs : List V} {sz : Nat} {v : V} (hl : sz ≤ cs.length) (hv : wrapV ag (cs.take sz) = some v) : ag = false → sz = 1 := by
  rintro rfl
  have : ∃ c, cs.take sz = [c] := by
    generalize cs.take sz = l at hv
    match l, hv with
    | [c], _ => exact ⟨c, rfl⟩
  obtain ⟨c, hc⟩ := this
  have := congrArg List.length hc
  simp at this; omega

theorem o_loadRf {t : TypeId} {x : Operand} {bor ag : Bool} {sz : Nat} {cells : List V} {v : V} (ho : o.op = .load t x) (ht : TyS P t ag sz) (hx : evalE fr x = some (.rf bor cells)) (hl : sz ≤ cells.length)
    (hv : wrapV ag (cells.take sz) = some v) : Does P o fr σ v σ := quiet fun S B ι a w he _ => by
  obtain ⟨b, off, vals, h1, _, _, h2, h3, _⟩ := (he x (by simp [ho, Op.operands]) _ hx).inv_rf
  have hone := wrapV_one hl hv
  have hr := run_loadAt_gen (P := P) w b off vals ht hone fun j hj => h2 j cells[j] (by simp)
  exact ⟨_, by simp [execOp, ho, h1, hr], load_val (f := vals) hone hl (fun j c hc => .cv _ _ (h3 j c hc)) hv⟩

theorem o_loadBx {t : TypeId} {x : Operand} {p j : Nat} {ag : Bool} {sz : Nat} {cs : List V} {v : V} (ho : o.op = .load t x) (ht : TyS P t ag sz) (hx : evalE fr x = some (.bx p j)) (hs : σ[p]? = some (.box cs))
    (hl : j + sz ≤ cs.length) (hv : wrapV ag ((cs.drop j).take sz) = some v) : Does P o fr σ v σ := quiet fun S B ι a w he hm => by
  obtain ⟨b, e0, h2, hu, _⟩ := RefR.bx (Val.inv_ref (v := .bx p j) rfl trivial (he x (by simp [ho, Op.operands]) _ hx)) hs
  obtain ⟨us, hh, ⟨hcl, hcv⟩, _⟩ := hm.obj p _ _ hs h2
  have hone := wrapV_one (by simp; omega) hv
  have hget : ∀ q, j + q < us.size → us[j + q]? = some (us.toList.getD (j + q) undef) := fun q hq => by simp [hq]
  have hr := run_loadAt_gen (P := P) w b j (fun q => us.toList.getD (j + q) undef) ht hone fun q hq => by
    have : j + q < us.size := by simp at hcl; omega
    simp only [World.cell?, hh, Option.isSome_none, Bool.false_eq_true, if_false]
    exact hget q this
  refine ⟨_, by simp only [execOp, ho, hu, hr, Sem.run_bind, Result.andThen_ok, Sem.run_pure], load_val (f := fun q => us.toList.getD (j + q) undef) hone (by simp; omega) (fun q c hc => ?_) hv⟩
  rw [List.getElem?_drop] at hc
  have hlt : j + q < us.toList.length := hcl ▸ (List.getElem?_eq_some_iff.1 hc).1
  exact hcv (j + q) c _ hc (by rw [Array.getElem?_toList]; exact hget q (by simpa using hlt))

theorem row_cell {w : World} {e size : Nat} {b c n : Nat} {vals : List Value} (h : w.ownsRow 0 e size (.slice (some ⟨b, 0, none⟩) n c) n vals) {q : Nat} {u : Value} (hq : vals[q]? = some u) :
    w.cell? ⟨b, q, none⟩ = some u := by
  have := h.cells (g := b) rfl q u hq
  rwa [show ((⟨b, 0, none⟩ : Addr).add q) = ⟨b, q, none⟩ by rw [Addr.add_mid]; simp] at this

/-- The cells of an element. -/
theorem el_cells {S B : Nat → Prop} {ι : List Loc} {w : World} {p L i b c size : Nat} {m : Md} {xs : List (List V)} {row : List V} (hm : Mem S B ι σ w) (hs : σ[p]? = some (.arr m size xs)) (hL : xs.length = L)
    (hrow : xs[i]? = some row) (h2 : ι[p]? = some (.row (.slice (some ⟨b, 0, none⟩) L c))) :
    row.length = size ∧ ∃ f : Nat → Value, ∀ q cc, row[q]? = some cc → w.cell? ⟨b, i * size + q, none⟩ = some (f q) ∧ Val S B (RefR ι σ) w cc (f q) ∧ (m ≠ .raw → CV S w cc (f q)) := by
  obtain ⟨_, e, vals, hown, ⟨hvl, hrl, hcv⟩, hone1, _⟩ := hm.obj p _ _ hs h2
  refine ⟨hrl row (List.mem_of_getElem? hrow), fun q => vals.getD (i * size + q) undef, fun q cc hq => ?_⟩
  obtain ⟨u, h5, h6⟩ := hcv i q row cc hrow hq
  have hg : vals.getD (i * size + q) undef = u := by rw [List.getD_eq_getElem?_getD, h5]; rfl
  simp only [hg]
  refine ⟨row_cell (hL ▸ hown) h5, ?_, ?_⟩
  · cases m with
    | raw => exact h6
    | clo => exact .cv _ _ h6
    | tg t0 => exact .cv _ _ h6
    | frz => exact .cv _ _ h6
  · intro hne
    cases m with
    | raw => exact absurd rfl hne
    | clo => exact h6
    | tg t0 => exact h6
    | frz => exact h6

theorem o_loadEl {t : TypeId} {x : Operand} {p L i j : Nat} {ag : Bool} {sz : Nat} {m : Md} {size : Nat} {xs : List (List V)} {row : List V} {v : V} (ho : o.op = .load t x) (ht : TyS P t ag sz) (hx : evalE fr x = some (.el p L i j))
    (hs : σ[p]? = some (.arr m size xs)) (hL : xs.length = L) (hrow : xs[i]? = some row) (hl : j + sz ≤ row.length) (hv : wrapV ag ((row.drop j).take sz) = some v) : Does P o fr σ v σ := quiet fun S B ι a w he hm => by
  obtain ⟨b, c, h2, hi, hu⟩ := RefR.el (Val.inv_ref (v := .el p L i j) rfl trivial (he x (by simp [ho, Op.operands]) _ hx)) hs hL
  obtain ⟨_, f, hf⟩ := el_cells hm hs hL hrow h2
  have hone := wrapV_one (by simp; omega) hv
  have hr := run_loadAt_gen (P := P) w b (i * size + j) (fun q => f (j + q)) ht hone fun q hq => by
    have hlt : j + q < row.length := by omega
    rw [Nat.add_assoc]
    exact (hf (j + q) row[j + q] (by simp [hlt])).1
  refine ⟨_, by simp only [execOp, ho, hu, hr, Sem.run_bind, Result.andThen_ok, Sem.run_pure], load_val (f := fun q => f (j + q)) hone (by simp; omega) (fun q cc hc => ?_) hv⟩
  rw [List.getElem?_drop] at hc
  exact (hf (j + q) cc hc).2.1

theorem run_fieldPlace {a : Addr} {f : Field} {sz : Nat} {ag : Bool} (w : World) (h : TyS P f.type ag sz) (hz : sz ≠ 0) : (fieldPlace a f).run P w = .ok (a.add f.offset) w := by
  simp [fieldPlace, h.size w, hz]

def faV (off : Nat) : V → Option V
  | .rf b cells => some (.rf b (cells.drop off))
  | .bx p j => some (.bx p (j + off))
  | _ => none

theorem o_fieldAddr {t : TypeId} {x : Operand} {f off ft sz : Nat} {ag : Bool} {fs : Array Field} {y v : V} (ho : o.op = .fieldAddr t x f) (ht : P.underlying t = some (.struct fs))
    (hf : (fs[f]?).map (fun d => (d.offset, d.type)) = some (off, ft)) (hs : TyS P ft ag sz) (hz : sz ≠ 0) (hx : evalE fr x = some y) (hv : faV off y = some v)
    (hb : match y with | .bx p j => ∃ cs, σ[p]? = some (.box cs) ∧ j + off ≤ cs.length | _ => True) : Does P o fr σ v σ := quiet fun S B ι a w he hm => by
  have hval := he x (by simp [ho, Op.operands]) _ hx
  cases hd : fs[f]? with
  | none => simp [hd] at hf
  | some d =>
    simp [hd] at hf
    obtain ⟨rfl, rfl⟩ := hf
    cases y with
    | rf bor cells =>
      simp only [faV, Option.some.injEq] at hv
      subst hv
      obtain ⟨b, o2, vals, h1, hB1, hB2, h2, h3, h4⟩ := hval.inv_rf
      refine ⟨.pointer (some ⟨b, o2 + d.offset, none⟩), by simp [execOp, ho, h1, Instr.fieldAt, run_underlying ht, hd, Instr.sureAddr, run_fieldPlace w hs hz, Addr.add_mid], ?_⟩
      have hc : ∀ (j : Nat) (c : V), (cells.drop d.offset)[j]? = some c → w.cell? ⟨b, o2 + d.offset + j, none⟩ = some (vals (d.offset + j)) := fun j c hj => by
        rw [List.getElem?_drop] at hj
        rw [Nat.add_assoc]; exact h2 _ c hj
      have hcv : ∀ (j : Nat) (c : V), (cells.drop d.offset)[j]? = some c → CV S w c (vals (d.offset + j)) := fun j c hj => by
        rw [List.getElem?_drop] at hj; exact h3 _ c hj
      have hone : ∀ (j : Nat) (c : V), (cells.drop d.offset)[j]? = some c → c.one = true := fun j c hj => by
        rw [List.getElem?_drop] at hj; exact h4 _ c hj
      cases bor with
      | false => exact .cv _ _ (.rf _ b _ (fun j => vals (d.offset + j)) (hB1 rfl) hc hcv hone)
      | true => exact .rfB _ b _ (fun j => vals (d.offset + j)) (hB2 rfl) hc hcv hone
    | bx p j =>
      simp only [faV, Option.some.injEq] at hv
      subst hv
      obtain ⟨cs, hs2, hj⟩ := hb
      obtain ⟨b, e0, h2, hu, _⟩ := RefR.bx (Val.inv_ref (v := .bx p j) rfl trivial hval) hs2
      refine ⟨.pointer (some ⟨b, j + d.offset, none⟩), by simp [execOp, ho, hu, Instr.fieldAt, run_underlying ht, hd, Instr.sureAddr, run_fieldPlace w hs hz, Addr.add_mid], .ref _ _ ?_⟩
      simp [RefR, hs2, h2, hj]
    | _ => simp [faV] at hv

theorem o_fieldAddrEl {t : TypeId} {x : Operand} {f off ft sz p L i j : Nat} {ag : Bool} {fs : Array Field} {m : Md} {size : Nat} {xs : List (List V)} (ho : o.op = .fieldAddr t x f) (ht : P.underlying t = some (.struct fs))
    (hf : (fs[f]?).map (fun d => (d.offset, d.type)) = some (off, ft)) (hs : TyS P ft ag sz) (hz : sz ≠ 0) (hx : evalE fr x = some (.el p L i j)) (hs2 : σ[p]? = some (.arr m size xs)) (hL : xs.length = L) :
    Does P o fr σ (.el p L i (j + off)) σ := quiet fun S B ι a w he hm => by
  have hval := he x (by simp [ho, Op.operands]) _ hx
  cases hd : fs[f]? with
  | none => simp [hd] at hf
  | some d =>
    simp [hd] at hf
    obtain ⟨rfl, rfl⟩ := hf
    obtain ⟨b, c, h2, hi, hu⟩ := RefR.el (Val.inv_ref (v := .el p L i j) rfl trivial hval) hs2 hL
    refine ⟨.pointer (some ⟨b, i * size + (j + d.offset), none⟩), by simp [execOp, ho, hu, Instr.fieldAt, run_underlying ht, hd, Instr.sureAddr, run_fieldPlace w hs hz, Addr.add_mid, Nat.add_assoc], .ref _ _ ?_⟩
    simp [RefR, hs2, h2, hL, hi]

/-- The address of an element of what is told by its content. -/
theorem o_indexIm {t e : TypeId} {x y : Operand} {bor ag : Bool} {sz : Nat} {xs : List (List V)} {k : IntKind} {i : Int} {row : List V} (ho : o.op = .indexAddr t x y) (ht : P.underlying t = some (.slice e)) (hs : TyS P e ag sz)
    (hx : evalE fr x = some (.im bor xs)) (hy : evalE fr y = some (.int k i)) (h0 : 0 ≤ i) (hrow : xs[i.toNat]? = some row) (hsz : row.length = sz) : Does P o fr σ (.rf bor row) σ := quiet fun S B ι a w he hm => by
  obtain ⟨A, cap, esz, vals, h1, hc, hA, hv, hone⟩ := (he x (by simp [ho, Op.operands]) _ hx).inv_im
  have h2 := (he y (by simp [ho, Op.operands]) _ hy).inv_int
  have hlt : i.toNat < xs.length := (List.getElem?_eq_some_iff.1 hrow).1
  obtain ⟨b, off, rfl, _, hB1, hB2, hsame, hcell⟩ := hA (by intro h; simp [h] at hlt)
  have hes : esz = sz := by rw [← hsame row (List.mem_of_getElem? hrow), hsz]
  subst hes
  refine ⟨.pointer (some ⟨b, off + i.toNat * esz, none⟩), ?_, ?_⟩
  · have h3 : i < (xs.length : Int) := by omega
    simp [execOp, ho, h1, h2, Instr.indexAt, asIntOf, run_underlying ht, h0, h3, hs.size w, Addr.add_mid]
  · cases bor with
    | false => exact .cv _ _ (.rf _ b _ (fun j => vals i.toNat j) (hB1 rfl) (fun j c hj => hcell _ j row c hrow hj) (fun j c hj => hv _ j row c hrow hj) fun j c hj => hone _ j row c hrow hj)
    | true => exact .rfB _ b _ (fun j => vals i.toNat j) (hB2 rfl) (fun j c hj => hcell _ j row c hrow hj) (fun j c hj => hv _ j row c hrow hj) fun j c hj => hone _ j row c hrow hj

/-- The address of an element of an array of the store. -/
theorem o_indexHd {t e : TypeId} {x y : Operand} {ag : Bool} {sz p L off len : Nat} {m : Md} {size : Nat} {xs : List (List V)} {row : List V} {k : IntKind} {i : Int} (ho : o.op = .indexAddr t x y) (ht : P.underlying t = some (.slice e)) (hs : TyS P e ag sz)
    (hx : evalE fr x = some (.hd p L off len)) (hy : evalE fr y = some (.int k i)) (hs2 : σ[p]? = some (.arr m size xs)) (hL : xs.length = L) (h0 : 0 ≤ i) (hi : i < len) (hrow : xs[off + i.toNat]? = some row) (hsz : row.length = sz) :
    Does P o fr σ (.el p L (off + i.toNat) 0) σ := quiet fun S B ι a w he hm => by
  obtain ⟨v, hι, hle, hz, hnz⟩ := RefR.hd (Val.inv_ref (v := .hd p L off len) rfl trivial (he x (by simp [ho, Op.operands]) _ hx)) hs2 hL
  have h2 := (he y (by simp [ho, Op.operands]) _ hy).inv_int
  have hobj := hm.obj p _ _ hs2 hι
  have hsize : size = sz := by
    obtain ⟨_, e2, vals, _, ⟨_, hrl, _⟩, _⟩ := hobj
    rw [← hsz]; exact (hrl row (List.mem_of_getElem? hrow)).symm
  subst hsize
  by_cases ho0 : off = 0
  · subst ho0
    obtain ⟨A, c, rfl, hu⟩ := hz rfl
    obtain ⟨b, hA⟩ : ∃ b, A = some ⟨b, 0, none⟩ := by
      obtain ⟨_, e2, vals, hown, _⟩ := hobj
      rcases hown.2 with ⟨h3, _⟩ | ⟨g, cap, cur, h3, _⟩
      · injection h3 with h3 h4 h5
        omega
      · injection h3 with h3; exact ⟨g, h3⟩
    subst hA
    refine ⟨.pointer (some ⟨b, i.toNat * size, none⟩), ?_, .ref _ _ ?_⟩
    · simp [execOp, ho, hu, h2, Instr.indexAt, asIntOf, run_underlying ht, h0, hi, hs.size w, Addr.add_mid]
    · simp [RefR, hs2, hι, hL]; omega
  · obtain ⟨b, c, A, c', rfl, hu, _, hA⟩ := hnz ho0
    obtain rfl := hA (by omega)
    refine ⟨.pointer (some ⟨b, (off + i.toNat) * size, none⟩), ?_, .ref _ _ ?_⟩
    · simp [execOp, ho, hu, h2, Instr.indexAt, asIntOf, run_underlying ht, h0, hi, hs.size w, Addr.add_mid, Nat.add_mul]
    · simp [RefR, hs2, hι, hL]; omega

/-! ### Lengths -/
theorem o_lenIm {t e : TypeId} {x : Operand} {bor : Bool} {xs : List (List V)} (ho : o.op = .call { callee := .builtin .len, args := #[x], argTypes := #[t] }) (ht : P.underlying t = some (.slice e)) (hx : evalE fr x = some (.im bor xs)) :
    Does P o fr σ (.int .i64 xs.length) σ := quiet fun S B ι a w he _ => by
  obtain ⟨A, cap, esz, vals, h1, _⟩ := (he x (by simp [ho, Op.operands, Call.operands]) _ hx).inv_im
  exact ⟨_, by simp [execOp, ho, h1, resolve, invoke, builtin, Builtin.len_, run_underlying ht, goInt]; rfl, .cv _ _ (by constructor)⟩
theorem o_lenHd {t e : TypeId} {x : Operand} {p L off len : Nat} {m : Md} {size : Nat} {xs : List (List V)} (ho : o.op = .call { callee := .builtin .len, args := #[x], argTypes := #[t] }) (ht : P.underlying t = some (.slice e))
    (hx : evalE fr x = some (.hd p L off len)) (hs2 : σ[p]? = some (.arr m size xs)) (hL : xs.length = L) : Does P o fr σ (.int .i64 len) σ := quiet fun S B ι a w he hm => by
  obtain ⟨v, hι, hle, hz, hnz⟩ := RefR.hd (Val.inv_ref (v := .hd p L off len) rfl trivial (he x (by simp [ho, Op.operands, Call.operands]) _ hx)) hs2 hL
  have hu : ∃ A c, a.eval x = .slice A len c := by
    by_cases ho0 : off = 0
    · obtain ⟨A, c, _, hu⟩ := hz ho0; exact ⟨A, c, hu⟩
    · obtain ⟨b, c, A, c', _, hu, _⟩ := hnz ho0; exact ⟨A, c', hu⟩
  obtain ⟨A, c, hu⟩ := hu
  exact ⟨_, by simp [execOp, ho, hu, resolve, invoke, builtin, Builtin.len_, run_underlying ht, goInt]; rfl, .cv _ _ (by constructor)⟩
end
end Go.G36
