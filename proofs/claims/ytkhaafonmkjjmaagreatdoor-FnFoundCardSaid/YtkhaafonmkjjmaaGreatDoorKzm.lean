/- Runs of plain steps,counted; the rule of each is found by its form. -/
import Derived.Test.YtkhaafonmkjjmaaGreatDoorKzl
namespace Go.G36
variable [Genv]
set_option linter.all false
open Go

/-- Q,to be come to by so many steps. -/
structure Cnt (n : Nat) (Q : Prop) : Prop where
  go : Q
theorem Cnt.z {Q : Prop} (h : Q) : Cnt 0 Q:=⟨h⟩
theorem Cnt.s {n : Nat} {Q R : Prop} (r : Q → R) (h : Cnt n Q) : Cnt (n + 1) R:=⟨r h.go⟩
theorem au (n : Nat) {P Q : Prop} (h : P) (s : P → Cnt n Q := by
  intro hh
  repeat (first
    | exact .z hh
    | with_reducible first
      | refine .s TL.nil ?_
      | refine .s T.seq ?_
      | refine .s T.region ?_
      | refine .s T.skip ?_
      | refine .s T.block ?_
      | refine .s T.ret ?_
      | refine .s T.exit ?_
      | refine .s T.scope ?_
    | refine .s (fun h=>TL.st rfl rfl rfl (by first
        | exact o_move rfl rfl
        | exact o_assign rfl rfl
        | exact o_fieldAddr rfl rfl rfl ⟨rfl,rfl⟩ (by decide) rfl rfl ⟨_,rfl,Nat.le_of_ble_eq_true rfl⟩
        | exact o_loadBx rfl ⟨rfl,rfl⟩ rfl rfl (Nat.le_of_ble_eq_true rfl) rfl
        | exact o_ari rfl rfl rfl rfl
        | exact o_or rfl rfl rfl rfl (fun k=>Gd_t k)
        | exact o_and rfl rfl rfl (fun k=>Gd_t k) rfl
        | exact o_build rfl ⟨_,fun _=>rfl,rfl⟩ rfl rfl rfl
        | exact o_alloc rfl ⟨_,rfl,rfl⟩
        | exact o_box rfl rfl rfl
        | exact o_nilCheck rfl rfl rfl
        | exact o_loadRf rfl ⟨rfl,rfl⟩ rfl (Nat.le_of_ble_eq_true rfl) rfl
        | exact o_not rfl rfl
        | exact o_str rfl rfl rfl rfl
        | exact o_lenS rfl rfl rfl
        | exact o_extract rfl rfl rfl) h) ?_
    | refine .s (fun h=>TL.gcq rfl rfl rfl (.bool _) rfl rfl (fun h=>by first
        | exact o_move rfl rfl
        | exact o_ari rfl (gv h rfl) rfl rfl
        | exact o_loadBx rfl ⟨rfl,rfl⟩ (gv h rfl) rfl (Nat.le_of_ble_eq_true rfl) rfl
        | exact o_fieldAddr rfl rfl rfl ⟨rfl,rfl⟩ (by decide) rfl rfl ⟨_,rfl,Nat.le_of_ble_eq_true rfl⟩
        | exact o_not rfl (gv h rfl)) h) ?_
    | refine .s (fun h=>TL.sn rfl rfl (o_storeBx rfl ⟨rfl,rfl⟩ rfl rfl rfl rfl (Nat.le_of_ble_eq_true rfl) rfl) h) ?_
    | refine .s T.region ?_
    | refine .s T.seq ?_
    | refine .s T.skip ?_
    | refine .s T.block ?_
    | refine .s T.ret ?_
    | refine .s T.exit ?_)) : Q:=(s h).go
/-- The same in regions that draw. -/
theorem ad (n : Nat) {P Q : Prop} (h : P) (s : P → Cnt n Q := by
  intro hh
  repeat (first
    | exact .z hh
    | refine .s (fun h=>TD.qs rfl rfl (fun _=>by first
        | exact o_move rfl rfl
        | exact o_nilCheck rfl rfl rfl
        | exact o_ari rfl rfl rfl rfl
        | exact o_assign rfl rfl
        | exact o_or rfl rfl rfl rfl (fun k=>Gd_t k)
        | exact o_and rfl rfl rfl (fun k=>Gd_t k) rfl
        | exact o_not rfl rfl
        | exact o_extract rfl rfl rfl) h) ?_
    | refine .s (fun h=>TD.rs rfl rfl (by first
        | exact o_fieldAddr rfl rfl rfl ⟨rfl,rfl⟩ (by decide) rfl rfl ⟨_,rfl,Nat.le_of_ble_eq_true rfl⟩
        | exact o_loadBx rfl ⟨rfl,rfl⟩ rfl rfl (Nat.le_of_ble_eq_true rfl) rfl) h) ?_
    | refine .s (fun h=>TD.cr rfl rfl rfl (.bool _) rfl (fun h=>by first
        | exact o_loadBx rfl ⟨rfl,rfl⟩ (gv h rfl) rfl (Nat.le_of_ble_eq_true rfl) rfl
        | exact o_fieldAddr rfl rfl rfl ⟨rfl,rfl⟩ (by decide) rfl rfl ⟨_,rfl,Nat.le_of_ble_eq_true rfl⟩) h) ?_
    | refine .s (fun h=>TD.cq rfl rfl rfl (.bool _) rfl (fun h _=>o_move rfl rfl) h) ?_
    | refine .s (fun h=>TD.an rfl rfl (o_storeBx rfl ⟨rfl,rfl⟩ rfl rfl rfl rfl (Nat.le_of_ble_eq_true rfl) rfl) h) ?_
    | refine .s (fun h=>TD.nil h) ?_)) : Q:=(s h).go
/-- A branch,and what the function says of it. -/
theorem T.cH {N : Nat} {P : Program} {n : Nat} {fr : Fr} {σ : ASt} {Q : Post} {c : Operand} {x y : Code} {α : Type} {b : Bool} {u v : Option α} {r : α} (H : _root_.cond b u v = some r)
    (ht : u = some r → b = true → T P N n x fr σ Q) (hf : v = some r → b = false → T P N n y fr σ Q) (hc : evalE fr c = some (.bool b):=by exact rfl) : T P N n (.cond c x y) fr σ Q :=
  T.cond b hc (fun h=>ht (cond_t h H) h) (fun h=>hf (cond_f h H) h)
end Go.G36
