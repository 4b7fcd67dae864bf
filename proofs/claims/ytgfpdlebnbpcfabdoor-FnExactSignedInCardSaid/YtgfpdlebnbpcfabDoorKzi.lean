/- Functions of the library, met by what is known of their calls. -/
import Derived.Test.YtgfpdlebnbpcfabDoorKzh
import Derived.Sort.Grow
import Derived.Lib.LaidTab
import Derived.Lib.ItoaNum
import Derived.Deep.Draws
import Derived.Below
import Derived.Lib.Strings
import Derived.Lib.IndexMore
import Derived.Lib.AtoiAll
namespace Go.G36
variable [Genv]
set_option linter.all false
open Go Go.RowKit

/-- a stands for u alone. -/
def Sole (a : V) (u : Value) : Prop := ∀ (S B : Nat → Prop) (ι : List Loc) (σ : ASt) (w : World) (u' : Value), Val S B (RefR ι σ) w a u' → u' = u
theorem sole_int (k : IntKind) (n : Int) : Sole (.int k n) (.int k n) := fun _ _ _ _ _ _ h => h.inv_int

theorem arr1 {us : Array Value} (h : us.size = 1) : us = #[us[0]] := Array.ext (h.trans rfl) fun i h1 h2 => by
  have hi : i = 0 := by omega
  subst hi
  rfl
theorem pure1 {P : Program} {f : FuncId} {a r : V} {u x : Value} (ha : Sole a u) (hcl : r.cl = true) (hC : ∀ (S : Nat → Prop) (w : World), GlobOk S w → Calls P f #[u] w fun e w' => e = .returned x ∧ Grown w w')
    (hx : ∀ S w, CV S w r x) : Pure P f [a] r := fun S B ι us w hm hp => by
  obtain ⟨u0, rfl⟩ : ∃ u0, us = #[u0] := ⟨_, arr1 hp.1.symm⟩
  obtain rfl := ha _ _ _ _ _ _ (hp.2 0 a u0 rfl rfl)
  refine (hC S w hm.gl).mono ?_
  rintro e w' ⟨rfl, hg⟩
  obtain ⟨hm', hf'⟩ := hm.grow hg (fun _ => False) (fun b hb => hb.elim)
  exact ⟨x, r, _, _, ι, rfl, .cl _ hcl, .cv _ _ (hx _ _), hm', hf'⟩
theorem grown_grow (w : World) (k : Nat) (os : Array Obj) : Grown w (Sort.grow (w.drewN k) os) :=
  ⟨rfl, rfl, rfl, by simp [Sort.grow, World.drewN], fun b hb => by simp [Sort.grow, World.drewN, Array.getElem?_append, hb]⟩
def in64 (n : Int) : Bool := decide (-9223372036854775808 ≤ n) && decide (n ≤ 9223372036854775807)
theorem in64_s {n : Int} (h : in64 n = true) : -9223372036854775808 ≤ n ∧ n ≤ 9223372036854775807 := by simpa [in64] using h

/-- strconv.Itoa. -/
def itoaO (n : Int) : Option ByteArray := if in64 n = true then some ⟨(Lib.itoa n).toArray⟩ else none
theorem itoa_c {P : Program} {f : FuncId} (hC : ∀ (n : Int), -9223372036854775808 ≤ n → n ≤ 9223372036854775807 → ∀ (S : Nat → Prop) (w : World), GlobOk S w →
      Calls P f #[.int .i64 n] w fun e w' => e = .returned (.string ⟨(Lib.itoa n).toArray⟩) ∧ ∃ k os, w' = Sort.grow (w.drewN k) os) {n : Int} {r : ByteArray} (H : itoaO n = some r) : Pure P f [.int .i64 n] (.str r) := by
  unfold itoaO at H
  split at H
  · rename_i h
    injection H with H; subst H
    refine pure1 (sole_int _ _) rfl (fun S w hG => (hC n (in64_s h).1 (in64_s h).2 S w hG).mono ?_) fun S w => .str _
    rintro e w' ⟨rfl, k, os, rfl⟩
    exact ⟨rfl, grown_grow w k os⟩
  · cases H
theorem GlobOk.grown {S : Nat → Prop} {w w' : World} (h : GlobOk S w) (hS : ∀ b, S b → b < w.heap.size) (g : Grown w w') : GlobOk S w' := h.mono (fun _ h => h) fun b hb => g.block b (hS b hb)
/-- What is known of a package-level variable, by its place in the list. -/
theorem GlobOk.kept {S : Nat → Prop} {w : World} (h : GlobOk S w) (i : Nat) {x : Nat × (Obj → Prop)} (hx : Genv.gk[i]? = some x) : ∃ o, w.heap[x.1]? = some o ∧ x.2 o := (h.2 x (List.mem_of_getElem? hx)).2
theorem GlobOk.keptg {S : Nat → Prop} {w w' : World} (h : GlobOk S w) (g : Grown w w') (i : Nat) {x : Nat × (Obj → Prop)} (hx : Genv.gk[i]? = some x) : ∃ o, w'.heap[x.1]? = some o ∧ x.2 o := by
  obtain ⟨o, h1, h2⟩ := h.kept i hx
  exact ⟨o, by rw [g.block _ (Array.getElem?_eq_some_iff.1 h1).1]; exact h1, h2⟩
/-- A variable that holds just these cells; one that holds one cell of a form. -/
def holdsT (k : IntKind) (zs : List Int) (o : Obj) : Prop := ∃ e fz, o = .cells (zs.map fun z => Value.int k z).toArray e fz
theorem var_of {P : Program} {w : World} {name : String} {g : Nat} {cs : Array Value} {e : TypeId} {fz : Nat × Nat} (hg : P.globalNamed name = some g) (h : w.heap[g]? = some (.cells cs e fz)) : w.var? P name = some cs := by
  simp [World.var?, hg, h]
end Go.G36
