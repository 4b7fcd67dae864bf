/- Guards without cases; posts that give up garbage; calls with a state; partial functions. -/
import Derived.Test.YtmlfbendohecmaaKp
namespace Go.G36
variable [Genv]
set_option linter.all false
open Go

/-! ### Guarded values -/
def Gd (c : Bool) (v : V) : V := cond c v (.tup [])
theorem Gd_t {c : Bool} {v : V} (h : c = true) : Gd c v = v := by subst h; rfl
theorem Gd_f {c : Bool} {v : V} (h : c = false) : Gd c v = .tup [] := by subst h; rfl
theorem gv {fr : Fr} {x : Operand} {c : Bool} {v : V} (h : c = true) (hl : evalE fr x = some (Gd c v)) : evalE fr x = some v := by subst h; exact hl
theorem andi {a b : Bool} (h : a = true) (k : b = true) : (a && b) = true := by subst h; subst k; rfl
def gW : Bool → Bool → Bool
  | true, b => b
  | false, b => !b
inductive Gu (want : Bool) : V → Bool → Prop
  | bool (b : Bool) : Gu want (.bool b) (gW want b)
  | gd (c b : Bool) : Gu want (Gd c (.bool b)) (c && gW want b)
theorem Gu.t {want : Bool} {y : V} {c : Bool} (h : Gu want y c) (hc : c = true) : y = .bool want := by
  cases h with
  | bool b => cases want <;> cases b <;> simp_all [gW]
  | gd c b => cases c <;> cases want <;> cases b <;> simp_all [gW, Gd]
theorem Gu.f {want : Bool} {y : V} {c : Bool} (h : Gu want y c) (hc : c = false) : Hld want y := by
  cases h with
  | bool b => exact .inr ⟨b, rfl, by cases want <;> cases b <;> simp_all [gW]⟩
  | gd c b =>
    cases c with
    | false => exact .inl rfl
    | true => exact .inr ⟨b, rfl, by cases want <;> cases b <;> simp_all [gW]⟩

section
variable {P : Program} {n : Nat} {fr : Fr} {σ : ASt} {Q : Post} {ops : Array Oper} {o : Oper} {l : List Oper}

theorem TL.heldU {N : Nat} {g : Nat} {want : Bool} {t : Nat} {y : V} (hg : o.guard = some (g, want)) (ht : (ops[g]?).bind (·.dst) = some t) (hv : lk fr t = some y) (hy : Hld want y) (hd : okD n o.dst = true)
    (h : TL P N n ops l (setF o.dst (.tup []) fr) σ Q) : TL P N n ops (o :: l) fr σ Q := fun S B ι a w hr => by
  have hx := hr.fr t _ hv
  have hw := hy.wanted (tmps := a.tmps) hg ht (refOk ι σ) (fun u h => by simp [RefR] at h) hx
  unfold wpList
  rw [if_neg (by simp [hw])]
  exact h S B ι _ w (hr.put (okD_lt hd) (.cv _ _ (.tup [] #[] rfl (by simp))))

/-- A guarded step, whichever way its guard says. -/
theorem TL.gc {N : Nat} {g t t' : Nat} {want c : Bool} {y v : V} {σ' : ASt} (hg : o.guard = some (g, want)) (ht : (ops[g]?).bind (·.dst) = some t') (hv : lk fr t' = some y) (hu : Gu want y c) (hd : o.dst = some t) (hb : Nat.blt t n = true)
    (hdo : c = true → Does P o fr σ v σ') (hs : c = false → σ' = σ) (h : TL P N n ops l ((t, Gd c v) :: fr) σ' Q) : TL P N n ops (o :: l) fr σ Q := by
  cases hc : c with
  | true =>
    have hy := hu.t hc
    subst hy
    rw [Gd_t hc] at h
    exact TL.let_ v σ' hg ht hv (by rw [hd]; exact hb) (hdo hc) (by rw [hd]; exact h)
  | false =>
    rw [Gd_f hc, hs hc] at h
    exact TL.heldU hg ht hv (hu.f hc) (by rw [hd]; exact hb) (by rw [hd]; exact h)
theorem TL.gcq {N : Nat} {g t t' : Nat} {want c : Bool} {y v : V} (hg : o.guard = some (g, want)) (ht : (ops[g]?).bind (·.dst) = some t') (hv : lk fr t' = some y) (hu : Gu want y c) (hd : o.dst = some t) (hb : Nat.blt t n = true)
    (hdo : c = true → Does P o fr σ v σ) (h : TL P N n ops l ((t, Gd c v) :: fr) σ Q) : TL P N n ops (o :: l) fr σ Q := TL.gc hg ht hv hu hd hb hdo (fun _ => rfl) h
end

section
variable {P : Program} {fr : Fr} {σ : ASt} {ops : Array Oper} {o : Oper} {l : List Oper}
theorem DoG.gc {g t' : Nat} {want c : Bool} {y v : V} {τ τ' : ASt} (hg : o.guard = some (g, want)) (ht : (ops[g]?).bind (·.dst) = some t') (hv : lk fr t' = some y) (hu : Gu want y c)
    (hdo : c = true → Does P o fr τ v τ') (hs : c = false → τ' = τ) : DoG P ops o fr τ (Gd c v) τ' := by
  cases hc : c with
  | true =>
    have hy := hu.t hc
    subst hy
    exact .inr (.inl ⟨g, want, t', hg, ht, hv, hdo hc⟩)
  | false => exact .inr (.inr ⟨g, want, t', y, hg, ht, hv, hu.f hc, .inr rfl, hs hc⟩)
theorem TD.cq {g t t' : Nat} {want c : Bool} {y v : V} {pre : List Cl} {K : List Cl → Fr → ASt → Prop} (hg : o.guard = some (g, want)) (ht : (ops[g]?).bind (·.dst) = some t') (hv : lk fr t' = some y) (hu : Gu want y c) (hd : o.dst = some t)
    (hdo : c = true → ∀ τ, Does P o fr τ v τ) (h : TD P ops l ((t, Gd c v) :: fr) σ (pre ++ [.q]) K) : TD P ops (o :: l) fr σ pre K :=
  TD.q _ (fun τ => DoG.gc hg ht hv hu (fun h => hdo h τ) fun _ => rfl) (by rw [hd]; exact h)
theorem TD.cr {g t t' : Nat} {want c : Bool} {y v : V} {pre : List Cl} {K : List Cl → Fr → ASt → Prop} (hg : o.guard = some (g, want)) (ht : (ops[g]?).bind (·.dst) = some t') (hv : lk fr t' = some y) (hu : Gu want y c) (hd : o.dst = some t)
    (hdo : c = true → Does P o fr σ v σ) (h : TD P ops l ((t, Gd c v) :: fr) σ (pre ++ [.r]) K) : TD P ops (o :: l) fr σ pre K :=
  TD.r _ (DoG.gc hg ht hv hu hdo fun _ => rfl) (by rw [hd]; exact h)
theorem o_and {x y z : Operand} {b c : Bool} {v : V} (ho : o.op = .pick x y z) (hc : evalE fr x = some (.bool b)) (hy : evalE fr y = some v) (hv : b = true → v = .bool c) (hz : evalE fr z = some (.bool false)) : Does P o fr σ (.bool (b && c)) σ := by
  refine o_pick ho hc ?_
  cases b with
  | true => simp only [if_true, Bool.true_and]; rw [hy, hv rfl]
  | false => simp only [Bool.false_eq_true, if_false, Bool.false_and]; exact hz
theorem o_or {x y z : Operand} {b c : Bool} {v : V} (ho : o.op = .pick x y z) (hc : evalE fr x = some (.bool b)) (hy : evalE fr y = some (.bool true)) (hz : evalE fr z = some v) (hv : (!b) = true → v = .bool c) : Does P o fr σ (.bool (b || c)) σ := by
  refine o_pick ho hc ?_
  cases b with
  | true => simp only [if_true, Bool.true_or]; exact hy
  | false => simp only [Bool.false_eq_true, if_false, Bool.false_or]; rw [hz, hv rfl]
end

/-! ### Giving up -/
inductive WkF (N : Nat) (fr : Fr) : Fr → Prop where
  | nil : WkF N fr []
  | cons (t : Nat) (v v' : V) (r : Fr) (h : lk fr t = some v) (hw : Wk v v') (hb : bel N v' = true) (hr : WkF N fr r) : WkF N fr ((t, v') :: r)
theorem WkF.get {N : Nat} {fr fr' : Fr} (h : WkF N fr fr') : ∀ t v', lk fr' t = some v' → ∃ v, lk fr t = some v ∧ Wk v v' ∧ bel N v' = true := by
  induction h with
  | nil => intro t v h; simp [lk] at h
  | cons t v v' r h hw hb _ ih =>
    intro t' x hl
    simp only [lk] at hl
    split at hl
    · rename_i he
      injection hl with hl; subst hl
      rw [← Nat.eq_of_beq_eq_true he]
      exact ⟨v, h, hw, hb⟩
    · exact ih t' x hl
theorem Rel.wkF {S B : Nat → Prop} {ι : List Loc} {n N : Nat} {fr fr' : Fr} {σ : ASt} {a : Act} {w : World} (h : Rel S B ι n fr σ a w) (hf : WkF N fr fr') : Rel S B ι n fr' σ a w :=
  ⟨h.size, h.dfr, fun t v' hv => by
    obtain ⟨v, h1, h2, _⟩ := hf.get t v' hv
    exact h2.val (h.fr t v h1), h.mem⟩

def belOs (N : Nat) : List AO → Prop
  | [] => True
  | o :: r => belO N o ∧ belOs N r
theorem belOs.get {N : Nat} : ∀ {l : List AO}, belOs N l → ∀ (a : Nat) (o : AO), l[a]? = some o → belO N o
  | [], _, a, o, h => by simp at h
  | x :: r, h, a, o, ho => by
    cases a with
    | zero => simp at ho; subst ho; exact h.1
    | succ a => simp at ho; exact h.2.get a o ho

/-- A state told by less: slots more weakly, the last objects not at all. -/
structure Less (N : Nat) (fr : Fr) (σ : ASt) (fr' : Fr) (σ' : ASt) : Prop where
  pre : ∃ g, σ = σ' ++ g
  len : N ≤ σ'.length
  obj : belOs σ'.length σ'
  fr : WkF σ'.length fr fr'

def Pk (N : Nat) (Q : Post) : Post := fun ex fr σ => Q ex fr σ ∨ ∃ fr' σ', Less N fr σ fr' σ' ∧ Q ex fr' σ'
theorem Pk.id {N : Nat} {Q : Post} {ex : Ex} {fr : Fr} {σ : ASt} (h : Q ex fr σ) : Pk N Q ex fr σ := .inl h
theorem Pk.go {N : Nat} {Q : Post} {ex : Ex} {fr fr' : Fr} {σ σ' : ASt} (g : ASt) (hp : σ = σ' ++ g) (hl : Nat.ble N σ'.length = true) (ho : belOs σ'.length σ') (hf : WkF σ'.length fr fr') (h : Q ex fr' σ') : Pk N Q ex fr σ :=
  .inr ⟨fr', σ', ⟨⟨g, hp⟩, Nat.le_of_ble_eq_true hl, ho, hf⟩, h⟩

theorem T.pk {N : Nat} {P : Program} {n : Nat} {c : Code} {fr : Fr} {σ : ASt} {Q : Post} (h : T P N n c fr σ (Pk σ.length Q)) : T P N n c fr σ Q := fun S B ι a w hr => by
  refine wp_mono (h S B ι a w hr) ?_
  rintro e a' w' ⟨ex, fr', σ', S', ι', rfl, hq, hr', hf⟩
  rcases hq with hq | ⟨fr2, σ2, ⟨⟨g, rfl⟩, hlen, hobj, hfr⟩, hq⟩
  · exact ⟨ex, fr', σ', S', ι', rfl, hq, hr', hf⟩
  · obtain ⟨ι2, hr2, hf2⟩ := (hr'.wkF hfr).shrink (fr' := fr2) (σ' := σ2) hr.mem hf ⟨⟨g, rfl⟩, hlen, fun a o ho => .inl (hobj.get a o ho), fun t v hv => ⟨hv, by
      obtain ⟨_, _, _, h3⟩ := hfr.get t v hv
      exact h3⟩⟩ (Nat.le_refl _)
    exact ⟨ex, fr2, σ2, S', ι2, rfl, hq, hr2, hf2⟩

/-- A state told by less, ahead. -/
theorem T.to {N : Nat} {P : Program} {n : Nat} {c : Code} {fr fr' : Fr} {σ : ASt} {Q : Post} (hf : WkF σ.length fr fr') (h : T P N n c fr' σ Q) : T P N n c fr σ Q := fun S B ι a w hr => h S B ι a w (hr.wkF hf)

/-- The loop's rule, rounds that end in the form of the next one. -/
theorem T.lp {N : Nat} {P : Program} {n : Nat} {c : Code} {S R : Type} {step : S → Option (S ⊕ R)} (Fs : S → Fr) (σs : S → ASt) {s0 : S} {r : R} {Q : Post} (QQ : R → Post) (H : G36.loopO step s0 = some r)
    (hi : ∀ s x, step s = some x → T P N n c (Fs s) (σs s) (Pk (σs s).length (thn (fun fr' σ' => ∃ s', x = .inl s' ∧ fr' = Fs s' ∧ σ' = σs s') fun ex fr' σ' => ∃ q, x = .inr q ∧ QQ q ex fr' σ')))
    (hN : ∀ s s', (σs s).length = (σs s').length) (hob : ∀ s, belOs (σs s).length (σs s)) (hfr : ∀ s, Sub (σs s).length (Fs s) (Fs s))
    (hq : ∀ ex fr' σ', QQ r ex fr' σ' → Q ex fr' σ') : T P N n (.loop c) (Fs s0) (σs s0) Q := by
  refine T.mono (T.loopO Fs σs QQ H (fun s s' hs => ?_) fun s q hs => ?_) hq
  · refine (T.pk (hi s _ hs)).mono fun ex fr' σ' h => ?_
    cases ex with
    | normal =>
      obtain ⟨s2, h1, rfl, rfl⟩ := h
      injection h1 with h1; subst h1
      exact ⟨⟨[], by simp⟩, by rw [hN s s']; exact Nat.le_refl _, fun a o ho => .inl ((hob s').get a o ho), (hfr s').get⟩
    | ret => obtain ⟨q, h1, _⟩ := h; cases h1
    | exit id => obtain ⟨q, h1, _⟩ := h; cases h1
  · refine (T.pk (hi s _ hs)).mono fun ex fr' σ' h => ?_
    cases ex with
    | normal => obtain ⟨s2, h1, _⟩ := h; cases h1
    | ret => obtain ⟨q2, h1, h2⟩ := h; injection h1 with h1; subst h1; exact h2
    | exit id => obtain ⟨q2, h1, h2⟩ := h; injection h1 with h1; subst h1; exact h2

/-! ### Partial functions -/
theorem bind_s {α β : Type} {o : Option α} {f : α → Option β} {r : β} (h : o.bind f = some r) : ∃ x, o = some x ∧ f x = some r := by
  cases o with
  | none => cases h
  | some x => exact ⟨x, rfl, h⟩
theorem cond_t {α : Type} {c : Bool} {a b x : α} (h : c = true) (H : cond c a b = x) : a = x := by subst h; exact H
theorem cond_f {α : Type} {c : Bool} {a b x : α} (h : c = false) (H : cond c a b = x) : b = x := by subst h; exact H
theorem some_i {α : Type} {a b : α} (h : some a = some b) : a = b := Option.some.inj h

def idx {α : Type} (xs : List α) (i : Int) : Option α := if 0 ≤ i then xs[i.toNat]? else none
theorem idx_s {α : Type} {xs : List α} {i : Int} {x : α} (h : idx xs i = some x) : 0 ≤ i ∧ xs[i.toNat]? = some x := by
  unfold idx at h
  split at h
  · exact ⟨by assumption, h⟩
  · cases h
def idxS (s : ByteArray) (i : Int) : Option Int := if 0 ≤ i then (s.data.toList[i.toNat]?).map (fun b => (b.toNat : Int)) else none
def cat (r s : ByteArray) : Option ByteArray := if r.size + s.size ≤ 9223372036854775807 then some (r ++ s) else none
theorem cat_s {r s t : ByteArray} (h : cat r s = some t) : r.size + s.size ≤ 9223372036854775807 ∧ t = r ++ s := by
  unfold cat at h
  split at h
  · exact ⟨by assumption, (Option.some.inj h).symm⟩
  · cases h
def app {α : Type} (xs ys : List α) : Option (List α) := if xs.length + ys.length ≤ 4294967296 then some (xs ++ ys) else none
theorem app_s {α : Type} {xs ys zs : List α} (h : app xs ys = some zs) : xs.length + ys.length ≤ 4294967296 ∧ zs = xs ++ ys := by
  unfold app at h
  split at h
  · exact ⟨by assumption, (Option.some.inj h).symm⟩
  · cases h
def nz (i : Int) : Option Int := if i = 0 then none else some i
theorem nz_s {i j : Int} (h : nz i = some j) : i ≠ 0 ∧ j = i := by
  unfold nz at h
  split at h
  · cases h
  · exact ⟨by assumption, (Option.some.inj h).symm⟩
def gdO {α : Type} [Inhabited α] (c : Bool) (o : Option α) : Option α := cond c o (some default)
theorem gdO_t {α : Type} [Inhabited α] {c : Bool} {o : Option α} {x : α} (h : gdO c o = some x) (hc : c = true) : o = some x := by subst hc; exact h

section
variable {P : Program} {o : Oper} {fr : Fr} {σ : ASt}
theorem o_ix {α : Type} {f : α → List V} {t e : TypeId} {x y : Operand} {bor ag : Bool} {sz : Nat} {xs : List α} {k : IntKind} {i : Int} {a : α} (ho : o.op = .indexAddr t x y) (ht : P.underlying t = some (.slice e)) (hs : TyS P e ag sz)
    (hx : evalE fr x = some (.im bor (xs.map f))) (hy : evalE fr y = some (.int k i)) (h : idx xs i = some a) (hsz : (f a).length = sz) : Does P o fr σ (.rf bor (f a)) σ := by
  obtain ⟨h0, h1⟩ := idx_s h
  exact o_indexIm ho ht hs hx hy h0 (by rw [List.getElem?_map, h1]; rfl) hsz
theorem o_ixh {α : Type} {f : α → List V} {t e : TypeId} {x y : Operand} {ag : Bool} {sz p L : Nat} {m : Md} {xs : List α} {k : IntKind} {i : Int} {a : α} (ho : o.op = .indexAddr t x y) (ht : P.underlying t = some (.slice e)) (hs : TyS P e ag sz)
    (hx : evalE fr x = some (.hd p L 0 L)) (hy : evalE fr y = some (.int k i)) (hs2 : σ[p]? = some (.arr m sz (xs.map f))) (hL : (xs.map f).length = L) (h : idx xs i = some a) (hsz : (f a).length = sz) :
    Does P o fr σ (.el p L i.toNat 0) σ := by
  obtain ⟨h0, h1⟩ := idx_s h
  have hlt := (List.getElem?_eq_some_iff.1 h1).1
  have hL2 : xs.length = L := by simpa using hL
  have := o_indexHd ho ht hs hx hy hs2 hL h0 (by omega) (row := f a) (by rw [Nat.zero_add, List.getElem?_map, h1]; rfl) hsz
  rwa [Nat.zero_add] at this
theorem o_ixs {t : TypeId} {x y : Operand} {s : ByteArray} {k : IntKind} {i b : Int} (ho : o.op = .index t x y) (ht : P.underlying t = some .string)
    (hx : evalE fr x = some (.str s)) (hy : evalE fr y = some (.int k i)) (h : idxS s i = some b) : Does P o fr σ (.int .u8 b) σ := by
  unfold idxS at h
  split at h
  · rename_i h0
    cases hb : s.data.toList[i.toNat]? with
    | none => rw [hb] at h; cases h
    | some c =>
      rw [hb] at h
      simp only [Option.map_some, Option.some.injEq] at h
      subst h
      exact o_indexS ho ht hx hy h0 hb
  · cases h
theorem o_ct {t yt : TypeId} {x y : Operand} {r s u : ByteArray} (ho : o.op = .binOp .add t x y yt) (hx : evalE fr x = some (.str r)) (hy : evalE fr y = some (.str s)) (h : cat r s = some u) : Does P o fr σ (.str u) σ := by
  obtain ⟨h1, rfl⟩ := cat_s h
  exact o_cat ho hx hy h1
theorem o_ap {α : Type} {f : α → List V} {t e : TypeId} {x y : Operand} {p L sz : Nat} {m : Md} {xs ys zs : List α} {s : V} (ho : o.op = .call { callee := .builtin .append, args := #[x, y], argTypes := #[t, t] }) (ht : P.underlying t = some (.slice e))
    (hte : TyE P e sz) (hx : evalE fr x = some (.hd p L 0 L)) (hy : evalE fr y = some s) (hs : σ[p]? = some (.arr m sz (xs.map f))) (hL : (xs.map f).length = L) (hm0 : m.okT e = true) (hr : srcRows σ s = some (ys.map f)) (hrl : ∀ a, (f a).length = sz)
    (h : app xs ys = some zs) : Does P o fr σ (.hd p (zs.map f).length 0 (zs.map f).length) (σ.set p (.arr m sz (zs.map f))) := by
  obtain ⟨h1, rfl⟩ := app_s h
  subst hL
  refine o_app _ ho ht hte hx hy hs hm0 hr (by simp) (fun row hrow => ?_) (by simpa using h1)
  obtain ⟨a, _, rfl⟩ := List.mem_map.1 hrow
  exact hrl a
end

/-! ### Calls with a state -/
/-- What a call leaves: its outcome closed, its own garbage behind. -/
def Fin (τ1 : ASt) (r : V) : V → ASt → Prop := fun v τ' => v = r ∧ ∃ g, τ' = τ1 ++ g
def St (P : Program) (f : FuncId) (args : List V) (τ : ASt) (r : V) (τ1 : ASt) : Prop := CallT P f args τ fun v τ' => v = r ∧ τ' = τ1

theorem Val.ofCl {S B : Nat → Prop} {ι ι' : List Loc} {σ σ' : ASt} {w : World} {v : V} {u : Value} (h : Val S B (RefR ι σ) w v u) (hc : v.cl = true) : Val S B (RefR ι' σ') w v u := .cv _ _ (h.closed (refOk _ _) hc)

theorem CallT.fin {P : Program} {f : FuncId} {args : List V} {τ τ1 : ASt} {r : V} (h : CallT P f args τ (Fin τ1 r)) (hr : r.cl = true) (hl : Nat.ble τ.length τ1.length = true) (ho : belOs τ1.length τ1) : St P f args τ r τ1 := fun S B ι us w hm ha => by
  refine (h S B ι us w hm ha).mono ?_
  rintro e w' ⟨u, v, τ', S', ι', rfl, ⟨rfl, g, rfl⟩, hv, hm', hf⟩
  exact ⟨u, v, τ1, S', ι'.take τ1.length, rfl, ⟨rfl, rfl⟩, hv.ofCl hr, hm'.drop fun a o h => ho.get a o h, hf.drop hm'.len (Nat.le_of_ble_eq_true hl)⟩

inductive PartL (f : Nat → Nat) (σ : ASt) : List Nat → ASt → Prop where
  | nil : PartL f σ [] []
  | cons (r : Nat) (ρ : List Nat) (o : AO) (τ : ASt) (h : σ[r]? = some (renO f o)) (t : PartL f σ ρ τ) : PartL f σ (r :: ρ) (o :: τ)
theorem PartL.get {f : Nat → Nat} {σ : ASt} {ρ : List Nat} {τ : ASt} (h : PartL f σ ρ τ) : τ.length = ρ.length ∧ ∀ (i : Nat) (o : AO), τ[i]? = some o → ∃ r, ρ[i]? = some r ∧ σ[r]? = some (renO f o) := by
  induction h with
  | nil => simp
  | cons r ρ o τ h _ ih =>
    refine ⟨by simp [ih.1], fun i x hx => ?_⟩
    cases i with
    | zero => simp at hx; subst hx; exact ⟨r, rfl, h⟩
    | succ i => simp at hx ⊢; exact ih.2 i x hx

section
variable {P : Program} {o : Oper} {fr : Fr} {σ : ASt}
theorem o_callS {x : Operand} {args : Array Operand} {ts : Array TypeId} {f : FuncId} {first caps vs as : List V} {r r' : V} {τ τ1 σ' : ASt} (ρ : List Nat) (ho : o.op = .call { callee := .value x, args := args, argTypes := ts })
    (hcall : ∀ (us : Array Value) (w : World), (callFunc f us).run P w = .ok (.enter f us) w) (hx : evalE fr x = some (.fn f first caps)) (ha : evalL fr args.toList = some vs) (h : St P f as τ r τ1)
    (has : rens (rho ρ σ.length) as = first ++ vs ++ caps) (hn : ρ.Nodup) (hp : PartL (rho ρ σ.length) σ ρ τ) (hl : Nat.ble τ.length τ1.length = true) (hr : ren (rho ρ σ.length) r = r') (hσ : setAll ρ (τ1.map (renO (rho ρ σ.length))) σ = σ') :
    Does P o fr σ r' σ' := by
  have hc := CallT.part h ⟨hp.get.1, hn, hp.get.2⟩ fun v τ' ⟨_, e⟩ => by subst e; exact Nat.le_of_ble_eq_true hl
  rw [has] at hc
  refine DoesQ.one (o_callR ho hcall hx ha (hc.mono ?_))
  rintro v σ2 ⟨v0, τ', ⟨rfl, rfl⟩, rfl, rfl⟩
  exact ⟨hr, hσ⟩
end

theorem enters {P : Program} {f : FuncId} {fn : Func} {c : Code} (hf : P.funcs[f]? = some fn) (hname : (fn.name == "runtime.NumGoroutine") = false) (hb : fn.body = some c) (us : Array Value) (w : World) : (callFunc f us).run P w = .ok (.enter f us) w := by
  have h1 : fn.name ≠ "runtime.NumGoroutine" := by simpa using hname
  simp [callFunc, hf, h1, hb]
end Go.G36
