/- Texts to bytes and back. -/
import Derived.Test.YtmlfbendohecmaaKx
import Derived.Laws.IdiomStrings
namespace Go.G36
variable [Genv]
set_option linter.all false
open Go

def byS (ns : List Int) : ByteArray := ns.foldl (fun r n => r.push (UInt8.ofNat n.toNat)) ByteArray.empty
theorem hd_len {α β : Type} {f : α → List V} {g : β → List V} {xs : List α} {ys : List β} (p : Nat) (h : ys.length = xs.length) : V.hd p (xs.map f).length 0 (xs.map f).length = .hd p (ys.map g).length 0 (ys.map g).length := by
  simp only [List.length_map, h]
section
variable {P : Program} {o : Oper} {fr : Fr} {σ : ASt}
theorem byS_cells {w : World} {S : Nat → Prop} {c : Nat → Value} (ns : List Int) (A : Addr) (n cap : Nat) (hn : ns.length = n) (src dst e : TypeId) (hs : P.underlying src = some (.slice e)) (he : P.underlying e = some (.int .u8)) (hd : P.underlying dst = some .string)
    (hc : ∀ (i : Nat) (m : Int), ns[i]? = some m → w.cell? (A.add i) = some (.int .u8 m)) : (convert src dst (.slice (some A) n cap)).run P w = .ok (.string (byS ns)) w := by
  subst hn
  rw [run_convert_bytes_string w src dst e _ _ cap hs he hd]
  have hl := run_loadCells_list (P := P) w A (ns.map (Value.int .u8)) (fun j v hj => by
    rw [List.getElem?_map] at hj
    cases hr : ns[j]? with
    | none => simp [hr] at hj
    | some m => simp [hr] at hj; subst hj; exact hc j m hr)
  simp only [List.length_map] at hl
  exact run_bytesToString w A _ cap _ hl

theorem o_bs {f : Int → List V} {t d e : TypeId} {x : Operand} {bor : Bool} {ns : List Int} (ho : o.op = .convert t d x) (ht : P.underlying t = some (.slice e)) (he : P.underlying e = some (.int .u8)) (hd : P.underlying d = some .string)
    (hf : ∀ n, f n = [.int .u8 n]) (hx : evalE fr x = some (.im bor (ns.map f))) : Does P o fr σ (.str (byS ns)) σ := quiet fun S B ι a w hev hm => by
  obtain ⟨A, cap, esz, vals, h1, hc, hA, hv, hone⟩ := (hev x (by simp [ho, Op.operands]) _ hx).inv_im
  refine ⟨.string (byS ns), ?_, .cv _ _ (by constructor)⟩
  have hrow : ∀ (i : Nat) (m : Int), ns[i]? = some m → (ns.map f)[i]? = some [V.int .u8 m] := fun i m h => by rw [List.getElem?_map, h]; simp [hf]
  simp only [execOp, ho, h1]
  have hk : (convert t d (.slice A (ns.map f).length cap)).run P w = .ok (.string (byS ns)) w := by
    cases A with
    | none =>
      have : ns = [] := by
        cases ns with
        | nil => rfl
        | cons n ns => obtain ⟨b, off, h, _⟩ := hA (by simp); cases h
      subst this
      simp [convert, run_underlying ht, run_underlying hd, run_underlying he, Conv.bytesToString, byS]
    | some A =>
      refine byS_cells (S := S) (c := fun _ => undef) ns A _ cap (by simp) t d e ht he hd fun i m h => ?_
      have h0 := hrow i m h
      obtain ⟨b, off, hb, _, _, _, hsame, hcell⟩ := hA (by intro h2; rw [h2] at h0; simp at h0)
      injection hb with hb; subst hb
      have h2 := hcell i 0 _ (.int .u8 m) h0 rfl
      have h3 : vals i 0 = .int .u8 m := by
        exact (Val.cv (S := S) (B := B) (R := RefR ι σ) _ _ (hv i 0 _ (.int .u8 m) h0 rfl)).inv_int
      have h4 : esz = 1 := (hsame _ (List.mem_of_getElem? h0)).symm
      subst h4
      simp only [Nat.mul_one, Nat.add_zero] at h2
      rw [Addr.add_mid, h2, h3]
  simp only [Sem.run_bind, hk, Result.andThen_ok, Sem.run_pure]
end
end Go.G36
