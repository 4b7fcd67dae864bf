/- Own arrays within a struct that a slot holds,frozen; strings.Join,IndexByte,Compare. -/
import Derived.Test.YtkhaafonmkjjmaaGreatDoorKzn
import Derived.Lib.Join
import Derived.Lib.Bytealg
namespace Go.G36
set_option linter.all false
open Go Go.RowKit
variable [Genv]
theorem Cs.frzAgg {N : Nat} {n t p L sz : Nat} {fr : Fr} {σ : ASt} {cs : List V} {xs : List (List V)} (j : Nat) (ht : lk fr t = some (.agg cs)) (hj : cs[j]? = some (.hd p L 0 L)) (hs : σ[p]? = some (.arr .clo sz xs)) (hL : xs.length = L) :
    Cs N n fr σ ((t,.agg (cs.set j (.im false xs))) :: fr) (σ.set p (.arr .frz sz xs)):=fun S B ι a w hr=>by
  obtain ⟨S',hm',hf⟩:=hr.mem.freeze hs
  have hr':=hr.fw hf hm'
  obtain ⟨us,hus,hl,hv⟩:=Val.inv_agg (hr'.fr t _ ht)
  refine ⟨S',ι,hr'.retell ?_,hf.toN⟩
  rw [hus]
  refine .agg _ _ (by simpa using hl) fun i c u hc hu=>?_
  by_cases hij : j = i
  · subst hij
    have hlt : j < cs.length:=(List.getElem?_eq_some_iff.1 hj).1
    rw [List.getElem?_set_self hlt] at hc
    cases hc
    have:=frz_val hm' (List.getElem?_set_self (List.getElem?_eq_some_iff.1 hs).1) hL (hv j _ u hj hu)
    rw [List.drop_zero,List.take_of_length_le (by omega)] at this
    exact this
  · rw [List.getElem?_set_ne hij] at hc
    exact hv i c u hc hu

theorem sureP {σ : ASt} {i : Nat} {v : V} {r : List (Nat × V)} (h : V.sures σ v.cells = true) (hr : suresP σ r = true) : suresP σ ((i,v) :: r) = true:=by
  simp only [suresP,h,hr,Bool.and_self]
/-- strings.IndexByte,strings.Compare. -/
def indexByteO (s : ByteArray) (c : Int) : Option Int:=some (Lib.indexByte s.data.toList c.toNat.toUInt8)
theorem indexByte_c {P : Program} {f : FuncId} (hC : ∀ (s : ByteArray) (c : Int) (w : World),Calls P f #[.string s,.int .u8 c] w fun e w'=>e = .returned (.int .i64 (Lib.indexByte s.data.toList c.toNat.toUInt8)) ∧ w' = w)
    {s : ByteArray} {c r : Int} (H : indexByteO s c = some r) : Pure P f [.str s,.int .u8 c] (.int .i64 r):=by
  injection H with H; subst H
  refine pure2 (sole_str _) (sole_int _ _) rfl (fun S w hG=>(hC s c w).mono ?_) fun S w=>.int _ _
  rintro e w' ⟨rfl,rfl⟩
  exact ⟨rfl,Grown.refl _⟩
def compareO (a b : ByteArray) : Option Int:=some (Lib.compareBytes a.data.toList b.data.toList)
theorem compare_c {P : Program} {f : FuncId} (hC : ∀ (a b : ByteArray) (w : World),Calls P f #[.string a,.string b] w fun e w'=>e = .returned (.int .i64 (Lib.compareBytes a.data.toList b.data.toList)) ∧ w' = w)
    {a b : ByteArray} {r : Int} (H : compareO a b = some r) : Pure P f [.str a,.str b] (.int .i64 r):=by
  injection H with H; subst H
  refine pure2 (sole_str _) (sole_str _) rfl (fun S w hG=>(hC a b w).mono ?_) fun S w=>.int _ _
  rintro e w' ⟨rfl,rfl⟩
  exact ⟨rfl,Grown.refl _⟩
/-- Capital letters. -/
def capB (b : UInt8) : UInt8:=if 97 ≤ b.toNat ∧ b.toNat ≤ 122 then UInt8.ofNat (b.toNat - 32) else b
def capsO (s : ByteArray) : Option ByteArray:=if s.size ≤ 281474976710656 then some ⟨(s.data.toList.map capB).toArray⟩ else none
theorem caps_c {P : Program} {f : FuncId} (hC : ∀ (s : ByteArray) (w : World),s.size ≤ 281474976710656 → Calls P f #[.string s] w fun e w'=>e = .returned (.string ⟨(s.data.toList.map capB).toArray⟩) ∧ Grown w w')
    {s r : ByteArray} (H : capsO s = some r) : Pure P f [.str s] (.str r):=by
  unfold capsO at H
  split at H
  · rename_i h
    injection H with H; subst H
    exact pure1 (sole_str _) rfl (fun S w hG=>hC s w h) fun S w=>.str _
  · cases H
/-- strings.Join. -/
def joinL (xs : List ByteArray) (sep : ByteArray) : List UInt8:=Lib.join (xs.map (·.data.toList)) sep.data.toList
def joinO (xs : List ByteArray) (sep : ByteArray) : Option ByteArray:=if decide (xs.length ≤ 140737488355328) && decide ((joinL xs sep).length ≤ 140737488355328) then some ⟨(joinL xs sep).toArray⟩ else none
theorem join_c {P : Program} {f : FuncId} (hN : ∀ (a : Option Addr) (c : Nat) (sep : ByteArray) (w : World), Calls P f #[.slice a 0 c, .string sep] w fun e w' => e = .returned (.string ⟨#[]⟩) ∧ w' = w)
    (hC : ∀ (bk o c : Nat) (xs : List ByteArray) (sep : ByteArray) (w : World),(∀ (j : Nat) x,xs[j]? = some x → w.cell? ⟨bk,o + j,none⟩ = some (.string x)) → bk < w.heap.size → xs.length ≤ 140737488355328 → xs.length ≤ c → (Lib.join (xs.map (·.data.toList)) sep.data.toList).length ≤ 140737488355328 →
      Calls P f #[.slice (some ⟨bk,o,none⟩) xs.length c,.string sep] w fun e w'=>e = .returned (.string ⟨(Lib.join (xs.map (·.data.toList)) sep.data.toList).toArray⟩) ∧ Below w.heap.size w w')
    (b : Bool) {xs : List ByteArray} {sep r : ByteArray} (H : joinO xs sep = some r) : Pure P f [.im b (xs.map fun x=>[V.str x]),.str sep] (.str r):=fun S B ι us w hm hp=>by
  unfold joinO at H
  split at H
  · rename_i h
    rw [Bool.and_eq_true,decide_eq_true_eq,decide_eq_true_eq] at h
    injection H with H; subst H
    obtain ⟨u0,u1,rfl⟩ : ∃ u0 u1,us = #[u0,u1]:=⟨_,_,arr2 hp.1.symm⟩
    obtain rfl:=(hp.2 1 _ u1 rfl rfl).inv_str
    obtain ⟨A,cap,esz,vals,rfl,hc,hA,hv,ho⟩:=(hp.2 0 _ u0 rfl rfl).inv_im
    rw [List.length_map] at hc
    suffices hh : Calls P f #[.slice A (xs.map fun x=>[V.str x]).length cap,.string sep] w (fun e w'=>e = .returned (.string ⟨(joinL xs sep).toArray⟩) ∧ Grown w w') by
      refine hh.mono ?_
      rintro e w' ⟨rfl,hg⟩
      obtain ⟨hm',hf'⟩:=hm.grow hg (fun _=>False) (fun b hb=>hb.elim)
      exact ⟨.string ⟨(joinL xs sep).toArray⟩,.str ⟨(joinL xs sep).toArray⟩,_,_,ι,rfl,.cl _ rfl,.cv _ _ (.str _),hm',hf'⟩
    cases xs with
    | nil =>
      refine (hN A cap sep w).mono fun e w' hh=>?_
      obtain ⟨rfl,rfl⟩:=hh
      exact ⟨rfl,Grown.refl _⟩
    | cons x xs =>
      obtain ⟨bk,o,rfl,hb,_,_,hrow,hcell⟩:=hA (by simp)
      have hesz : esz = 1:=by have:=hrow [V.str x] (by simp); simpa using this.symm
      subst hesz
      have hlt : bk < w.heap.size:=hm.ltS bk (by rcases hb with hb | hb; exact .inl hb; exact .inr hb)
      rw [List.length_map]
      refine (hC bk o cap (x :: xs) sep w (fun j y hy=>?_) hlt h.1 (by simpa using hc) h.2).mono fun e w' hh=>?_
      · have hr : ((x :: xs).map fun x=>[V.str x])[j]? = some [V.str y]:=by rw [List.getElem?_map,hy]; rfl
        have h1:=hcell j 0 [V.str y] (V.str y) hr rfl
        have h2:=hv j 0 [V.str y] (V.str y) hr rfl
        rw [Nat.mul_one,Nat.add_zero] at h1
        rw [h1]
        generalize vals j 0 = z at h2
        cases h2
        rfl
      · obtain ⟨rfl,hbl⟩:=hh
        exact ⟨rfl,grown_below hbl⟩
  · cases H
end Go.G36
