/- What is reached: both say the same. -/
import Derived.Test.YtmlfbendohecmaaDPa
namespace Go.G36.RC
set_option linter.all false
open Go Go.G36 Go.Proofs Go.G36.RcAnc

theorem tlt_nodup {l : List ByteArray} (h : l.Pairwise tlt) : l.Nodup := List.Pairwise.imp (fun {a b} (hab : tlt a b) (e : a = b) => tlt_irrefl a (by rw [← e] at hab; exact hab)) h
theorem flat_one {α β : Type} (f : α → β) : ∀ l : List α, l.flatMap (fun n => [f n]) = l.map f
  | [] => rfl
  | a :: r => by rw [List.flatMap_cons, List.map_cons, flat_one f r]; rfl
abbrev rlt (a b : T_impl_Reach) : Prop := Lt2 a.Group_ a.Member_ b.Group_ b.Member_
theorem rlt_irrefl (a : T_impl_Reach) : ¬ rlt a a := Lt2.irrefl _ _
theorem rlt_trans (a b c : T_impl_Reach) (h : rlt a b) (k : rlt b c) : rlt a c := Lt2.trans h k
theorem leR_rlt {a b : T_impl_Reach} (h : leR a b = true) (hk : keyR a ≠ keyR b) : rlt a b := by
  rw [leR_iff] at h
  have h2 : cmpR a b ≠ 0 := fun e => hk (cmpR_zero e)
  exact (cmpK_neg _ _ _ _).1 (show cmpR a b < 0 by omega)
/-- One that is reached. -/
def IsR (l : List T_impl_Nest) (r : T_impl_Reach) : Prop := (∃ n, n ∈ l ∧ n.Group_ = r.Group_) ∧ ∃ q : Nat, r.Steps_ = (q : Int) ∧ MinW l r.Group_ r.Member_ q
theorem nlt_group {a b : T_impl_Nest} (h : nlt a b) : tlt a.Group_ b.Group_ ∨ a.Group_ = b.Group_ := by
  rcases h with h | ⟨h, _⟩
  · exact .inl h
  · exact .inr (bin h)

section
variable {l : List T_impl_Nest} (hg : Good l)
include hg
theorem fresh {i : Nat} (h0 : 0 < i) (hi : i < l.length) (hne : (l[i - 1]'(by omega)).Group_ ≠ l[i].Group_) {n : T_impl_Nest} (hn : n ∈ l.take i) : n.Group_ ≠ l[i].Group_ := fun e => by
  obtain ⟨j, hj, rfl⟩ := List.mem_iff_getElem.1 hn
  rw [List.getElem_take] at e
  simp at hj
  have pw := List.pairwise_iff_getElem.1 hg.pw
  by_cases hji : j = i - 1
  · subst hji; exact hne e
  · have h1 := pw j (i - 1) (by omega) (by omega) (by omega)
    have h2 := pw (i - 1) i (by omega) hi (by omega)
    rcases nlt_group h1 with k | k
    · rcases nlt_group h2 with k2 | k2
      · exact tlt_irrefl _ (tlt_trans _ _ _ k (e ▸ k2))
      · rw [e, ← k2] at k; exact tlt_irrefl _ k
    · exact hne (k ▸ e)
theorem gath_ok : ∀ i, i ≤ l.length → Ok (gathN l i) fun acc => (acc.map keyR).Nodup ∧ (∀ r, r ∈ acc ↔ (∃ n, n ∈ l.take i ∧ n.Group_ = r.Group_) ∧ ∃ q : Nat, r.Steps_ = (q : Int) ∧ MinW l r.Group_ r.Member_ q) ∧ acc.length ≤ i * 200
  | 0, _ => Ok.some ⟨.nil, fun r => by simp, by simp⟩
  | i + 1, hi => by
    have hl := hg.len
    have hil : i < l.length := by omega
    rw [gathN]
    refine Ok.bind (gath_ok i (by omega)) ?_
    rintro acc ⟨a1, a2, a3⟩
    have i1 : idx l (i : Int) = some l[i] := by rw [idx_nat]; simp [hil]
    have tk : ∀ n, n ∈ l.take (i + 1) ↔ (n ∈ l.take i ∨ n = l[i]) := fun x => by
      rw [List.take_succ, List.getElem?_eq_getElem hil, List.mem_append]
      simp
    have key : (∀ n, n ∈ l.take i → n.Group_ ≠ l[i].Group_) → Ok ((impl_yfrom l l[i].Group_).bind fun m => some (m.map fun e => (⟨l[i].Group_, e.1, e.2⟩ : T_impl_Reach))) fun r => ((acc ++ r).map keyR).Nodup ∧ (∀ x, x ∈ acc ++ r ↔ (∃ n, n ∈ l.take (i + 1) ∧ n.Group_ = x.Group_) ∧ ∃ q : Nat, x.Steps_ = (q : Int) ∧ MinW l x.Group_ x.Member_ q) ∧ r.length ≤ 200 := fun hf => by
      refine Ok.bind (yfrom_ok hl l[i].Group_) fun m hm => Ok.some ⟨?_, fun x => ?_, by rw [List.length_map]; have := hm.len; omega⟩
      · rw [List.map_append, List.nodup_append]
        refine ⟨a1, ?_, fun k hk k' hk' e => ?_⟩
        · rw [List.map_map]
          have h1 := hm.nd
          unfold List.Nodup at h1 ⊢
          rw [List.pairwise_map] at h1 ⊢
          exact h1.imp fun {a b} h e => h (by
            simp only [Function.comp_apply, keyR, Prod.mk.injEq] at e
            exact bin e.2)
        · obtain ⟨x, hx, rfl⟩ := List.mem_map.1 hk
          obtain ⟨y, hy, rfl⟩ := List.mem_map.1 hk'
          obtain ⟨z, hz, rfl⟩ := List.mem_map.1 hy
          obtain ⟨⟨n, n1, n2⟩, _⟩ := (a2 x).1 hx
          simp only [keyR, Prod.mk.injEq] at e
          exact hf n n1 (n2.trans (bin e.1))
      · rw [List.mem_append, a2]
        constructor
        · rintro (⟨⟨n, n1, n2⟩, h⟩ | h)
          · exact ⟨⟨n, (tk n).2 (.inl n1), n2⟩, h⟩
          · obtain ⟨z, hz, rfl⟩ := List.mem_map.1 h
            obtain ⟨q, q1, q2⟩ := (hm.iff z.1 z.2).1 hz
            exact ⟨⟨l[i], (tk _).2 (.inr rfl), rfl⟩, q, q1, q2⟩
        · rintro ⟨⟨n, n1, n2⟩, q, q1, q2⟩
          rcases (tk n).1 n1 with n1 | rfl
          · exact .inl ⟨⟨n, n1, n2⟩, q, q1, q2⟩
          · refine .inr (List.mem_map.2 ⟨(x.Member_, x.Steps_), (hm.iff _ _).2 ⟨q, q1, by rw [n2]; exact q2⟩, ?_⟩)
            cases x; simp only [T_impl_Reach.mk.injEq, and_self, and_true]; exact n2
    have fin : ∀ r : List T_impl_Reach, ((acc ++ r).map keyR).Nodup ∧ (∀ x, x ∈ acc ++ r ↔ (∃ n, n ∈ l.take (i + 1) ∧ n.Group_ = x.Group_) ∧ ∃ q : Nat, x.Steps_ = (q : Int) ∧ MinW l x.Group_ x.Member_ q) ∧ r.length ≤ 200 →
        Ok (cond (decide (acc.length + r.length ≤ 4294967295)) (some (acc ++ r)) none) fun acc => (acc.map keyR).Nodup ∧ (∀ r, r ∈ acc ↔ (∃ n, n ∈ l.take (i + 1) ∧ n.Group_ = r.Group_) ∧ ∃ q : Nat, r.Steps_ = (q : Int) ∧ MinW l r.Group_ r.Member_ q) ∧ acc.length ≤ (i + 1) * 200 := fun r hr => by
      rw [decide_eq_true (show acc.length + r.length ≤ 4294967295 by have := hr.2.2; omega)]
      exact Ok.some ⟨hr.1, hr.2.1, by rw [List.length_append, Nat.add_mul]; have := hr.2.2; omega⟩
    refine Ok.bind (Q := fun r => ((acc ++ r).map keyR).Nodup ∧ (∀ x, x ∈ acc ++ r ↔ (∃ n, n ∈ l.take (i + 1) ∧ n.Group_ = x.Group_) ∧ ∃ q : Nat, x.Steps_ = (q : Int) ∧ MinW l x.Group_ x.Member_ q) ∧ r.length ≤ 200) ?_ fin
    unfold rowsAt
    rw [i1, Option.bind_some]
    by_cases h0 : 0 < i
    · have i2 : idx l ((i : Int) - 1) = some (l[i - 1]'(by omega)) := by rw [show (i : Int) - 1 = ((i - 1 : Nat) : Int) by omega, idx_nat]; exact List.getElem?_eq_getElem (by omega)
      rw [gtz h0]
      simp only [gdO, cond_true, i2, Option.bind_some, Bool.true_and]
      refine Ok.cond (fun h => ?_) (fun h => ?_)
      · have h := (tl_beq _ _).1 h
        have hm : (l[i - 1]'(by omega)) ∈ l.take i := List.mem_iff_getElem.2 ⟨i - 1, by simp; omega, by simp⟩
        refine Ok.some ⟨by simpa using a1, fun x => ?_, by simp⟩
        rw [List.append_nil, a2]
        constructor
        · rintro ⟨⟨n, n1, n2⟩, h⟩; exact ⟨⟨n, (tk n).2 (.inl n1), n2⟩, h⟩
        · rintro ⟨⟨n, n1, n2⟩, h3⟩
          rcases (tk n).1 n1 with n1 | rfl
          · exact ⟨⟨n, n1, n2⟩, h3⟩
          · exact ⟨⟨_, hm, h.trans n2⟩, h3⟩
      · refine key fun n hn => fresh hg h0 hil (fun e => ?_) hn
        rw [(tl_beq _ _).2 e] at h; cases h
    · have hz : i = 0 := by omega
      subst hz
      exact key fun n hn => by simp at hn
theorem reach_ok : Ok (reach l) fun xs => xs.Pairwise rlt ∧ (∀ r, r ∈ xs ↔ IsR l r) ∧ xs.length ≤ 40000 := by
  have hl := hg.len
  unfold reach
  rw [decide_eq_true (show l.length ≤ 4294967295 by omega), cond_true]
  refine Ok.bind (gath_ok hg l.length (Nat.le_refl _)) ?_
  rintro acc ⟨a1, a2, a3⟩
  unfold sortR
  rw [if_pos a1]
  unfold sortO
  rw [if_pos (by omega)]
  refine Ok.some ⟨?_, fun r => ?_, by rw [List.length_mergeSort]; omega⟩
  · have h1 := List.pairwise_mergeSort leR_trans leR_total acc
    have h2 : ((acc.mergeSort leR).map keyR).Nodup := (((List.mergeSort_perm acc leR).map keyR).nodup_iff).2 a1
    unfold List.Nodup at h2
    rw [List.pairwise_map] at h2
    exact h1.imp₂ (fun a b h k => leR_rlt h k) h2
  · rw [List.mem_mergeSort, a2, List.take_length]; rfl
end

/-! ### The other side -/
noncomputable def ringsV (l : List T_impl_Nest) (g : ByteArray) : List (List ByteArray) := (spec_l5Rings l g).getD []
theorem ringsV_eq {l : List T_impl_Nest} (hl : l.length ≤ 200) (g : ByteArray) : spec_l5Rings l g = some (ringsV l g) ∧ Rings l g (ringsV l g) := by
  obtain ⟨r, h1, h2⟩ := rings_ok hl g
  unfold ringsV
  rw [h1]
  exact ⟨rfl, h2⟩
open Classical in
noncomputable def distV (l : List T_impl_Nest) (g x : ByteArray) : Nat := if h : ∃ j, MinW l g x j then Classical.choose h else 0
theorem distV_eq {l : List T_impl_Nest} {g x : ByteArray} {j : Nat} (h : MinW l g x j) : distV l g x = j := by
  unfold distV
  have hx : ∃ j, MinW l g x j := ⟨j, h⟩
  rw [dif_pos hx]
  exact (Classical.choose_spec hx).uniq h
noncomputable def sortV (xs : List ByteArray) : List ByteArray := (spec_l5Sorted xs).getD []
theorem sortV_eq (xs : List ByteArray) (hl : xs.length ≤ 100000) (hs : ∀ a, a ∈ xs → a.size < big) : spec_l5Sorted xs = some (sortV xs) ∧ (sortV xs).Pairwise tlt ∧ ∀ x, x ∈ sortV xs ↔ x ∈ xs := by
  obtain ⟨r, h1, h2⟩ := sorted_ok xs hl hs
  unfold sortV
  rw [h1]
  exact ⟨rfl, h2⟩
section
variable {l : List T_impl_Nest} (hg : Good l)
include hg
theorem min_mem {g x : ByteArray} {j : Nat} (h : MinW l g x j) : ∃ e, (⟨e, x⟩ : T_impl_Nest) ∈ l := by
  obtain ⟨j, rfl⟩ : ∃ q, j = q + 1 := ⟨j - 1, by have := h.1; omega⟩
  obtain ⟨e, h1, _⟩ := h.last
  exact ⟨e, h1⟩
theorem flat_mem (g x : ByteArray) : x ∈ (ringsV l g).flatten ↔ ∃ j, MinW l g x j := by
  have hr := (ringsV_eq hg.len g).2
  rw [List.mem_flatten]
  constructor
  · rintro ⟨r, h1, h2⟩
    obtain ⟨i, hi⟩ := List.mem_iff_getElem?.1 h1
    exact ⟨_, (hr.iff i x).1 ⟨r, hi, h2⟩⟩
  · rintro ⟨j, h⟩
    obtain ⟨j, rfl⟩ : ∃ q, j = q + 1 := ⟨j - 1, by have := h.1; omega⟩
    obtain ⟨r, h1, h2⟩ := (hr.iff j x).2 h
    exact ⟨r, List.mem_of_getElem? h1, h2⟩
theorem flatten_len {α : Type} (K : Nat) : ∀ rs : List (List α), (∀ r, r ∈ rs → r.length ≤ K) → rs.flatten.length ≤ rs.length * K
  | [], _ => by simp
  | r :: rs, h => by
    have := flatten_len K rs fun x hx => h x (by simp [hx])
    have := h r (by simp)
    rw [List.flatten_cons, List.length_append, List.length_cons, Nat.add_mul]; omega
/-- The members of a group, in order. -/
theorem ms_ok (g : ByteArray) : spec_l5Sorted (ringsV l g).flatten = some (sortV (ringsV l g).flatten) ∧ (sortV (ringsV l g).flatten).Pairwise tlt ∧ (∀ x, x ∈ sortV (ringsV l g).flatten ↔ ∃ j, MinW l g x j) ∧ (sortV (ringsV l g).flatten).length ≤ 200 := by
  have hr := (ringsV_eq hg.len g).2
  have hfl : (ringsV l g).flatten.length ≤ 100000 := by
    have h1 := flatten_len hg 200 (ringsV l g) hr.each
    have h2 := hr.len
    have : (ringsV l g).length * 200 ≤ 201 * 200 := Nat.mul_le_mul_right _ h2
    omega
  obtain ⟨h1, h2, h3⟩ := sortV_eq (ringsV l g).flatten hfl fun a ha => by
    obtain ⟨j, h⟩ := (flat_mem hg g a).1 ha
    obtain ⟨e, he⟩ := min_mem hg h
    exact (hg.sz _ he).2
  have h4 : ∀ x, x ∈ sortV (ringsV l g).flatten ↔ ∃ j, MinW l g x j := fun x => by rw [h3, flat_mem hg]
  refine ⟨h1, h2, h4, ?_⟩
  have := pigeon (l := sortV (ringsV l g).flatten) (m := l.map (·.Member_)) (tlt_nodup h2) fun x hx => by
    obtain ⟨j, h⟩ := (h4 x).1 hx
    obtain ⟨e, he⟩ := min_mem hg h
    exact List.mem_map.2 ⟨_, he, rfl⟩
  have hl := hg.len
  rw [List.length_map] at this
  omega
theorem reach_l4 {g m : ByteArray} (hm : ∃ j, MinW l g m j) (l0 : List T_impl_Reach) (h0 : l0.length ≤ 1000000) : loopO (spec_l5Reach_l4 g (ringsV l g) m) (l0, 0) = some (l0 ++ [⟨g, m, (distV l g m : Int)⟩]) := by
  obtain ⟨j, hj⟩ := hm
  have hr := (ringsV_eq hg.len g).2
  have hrl := hr.len
  obtain ⟨j, rfl⟩ : ∃ q, j = q + 1 := ⟨j - 1, by have := hj.1; omega⟩
  rw [distV_eq hj]
  have jl : j < (ringsV l g).length := by
    obtain ⟨r, h, _⟩ := (hr.iff j m).2 hj
    exact (List.getElem?_eq_some_iff.1 h).1
  have key : Ok (loopO (spec_l5Reach_l4 g (ringsV l g) m) (l0, 0)) fun q => q = l0 ++ [⟨g, m, ((j + 1 : Nat) : Int)⟩] := by
    refine Ok.loop (fun n st => ∃ i : Nat, i + n = (ringsV l g).length ∧ st.2 = (i : Int) ∧ st.1 = if j < i then l0 ++ [⟨g, m, ((j + 1 : Nat) : Int)⟩] else l0) ?_ (n := (ringsV l g).length) ⟨0, by omega, rfl, by simp⟩
    rintro n ⟨x, v⟩ ⟨i, hi, hv, hx⟩
    dsimp only at hv hx
    subst hv
    unfold spec_l5Reach_l4
    dsimp only
    refine Ok.cond (fun hd => ?_) (fun hd => ?_)
    · have hd := of_decide_eq_true hd
      have hil : i < (ringsV l g).length := by omega
      rw [idx_nat, List.getElem?_eq_getElem hil, Option.bind_some, has_eq _ _ (by have := hr.each _ (List.getElem_mem hil); omega), Option.bind_some, wrap_succ (by omega)]
      have hin : m ∈ (ringsV l g)[i] ↔ i = j := by
        constructor
        · intro h
          have := ((hr.iff i m).1 ⟨_, List.getElem?_eq_getElem hil, h⟩).uniq hj
          omega
        · rintro rfl
          obtain ⟨r, h1, h2⟩ := (hr.iff i m).2 hj
          rw [List.getElem?_eq_getElem hil] at h1
          rw [Option.some.inj h1]; exact h2
      by_cases hij : i = j
      · rw [decide_eq_true (hin.2 hij), cond_true, hx, if_neg (by omega), app_get (by simp; omega), Option.bind_some]
        refine Ok.some ⟨n - 1, by omega, i + 1, by omega, rfl, ?_⟩
        dsimp only
        rw [if_pos (by omega), hij]; rfl
      · rw [decide_eq_false (fun h => hij (hin.1 h)), cond_false]
        refine Ok.some ⟨n - 1, by omega, i + 1, by omega, rfl, ?_⟩
        dsimp only
        rw [hx]
        by_cases hji : j < i
        · rw [if_pos hji, if_pos (by omega)]
        · rw [if_neg hji, if_neg (by omega)]
    · have hd := of_decide_eq_false hd
      refine Ok.some ?_
      rw [hx, if_pos (by omega)]
  obtain ⟨q, e, rfl⟩ := key
  exact e
noncomputable def rowV (l : List T_impl_Nest) (g : ByteArray) : List T_impl_Reach := (sortV (ringsV l g).flatten).map fun m => ⟨g, m, (distV l g m : Int)⟩
theorem reach_l3 (g : ByteArray) (l0 : List T_impl_Reach) (h0 : l0.length ≤ 100000) : loopO (spec_l5Reach_l3 g (ringsV l g) (sortV (ringsV l g).flatten)) (l0, 0) = some (l0 ++ rowV l g) := by
  obtain ⟨_, _, hm, hml⟩ := ms_ok hg g
  have := loop_app 1000000 (sortV (ringsV l g).flatten) (spec_l5Reach_l3 g (ringsV l g) (sortV (ringsV l g).flatten)) (fun m => [(⟨g, m, (distV l g m : Int)⟩ : T_impl_Reach)]) l0 1 (fun _ _ => by simp) (by omega) (fun i a x ha hx => ?_) (fun x => by unfold spec_l5Reach_l3; simp)
  · rw [this]
    unfold rowV
    congr 2
    induction (sortV (ringsV l g).flatten) with
    | nil => rfl
    | cons a r ih => rw [List.flatMap_cons, List.map_cons, ih]; rfl
  · have hil := (List.getElem?_eq_some_iff.1 ha).1
    unfold spec_l5Reach_l3
    dsimp only
    rw [ltn hil, cond_true, idx_nat, ha, Option.bind_some, reach_l4 hg ((hm a).1 (List.mem_of_getElem? ha)) x hx, Option.bind_some, wrap_succ (by omega)]
noncomputable def groupsV (l : List T_impl_Nest) : List ByteArray := sortV (l.map (·.Group_))
theorem groups_ok : spec_l5Groups l = some (groupsV l) ∧ (groupsV l).Pairwise tlt ∧ (∀ x, x ∈ groupsV l ↔ ∃ n, n ∈ l ∧ n.Group_ = x) ∧ (groupsV l).length ≤ 200 := by
  have hl := hg.len
  have e : l.flatMap (fun n => [n.Group_]) = l.map (·.Group_) := flat_one _ l
  have h1 := loop_app 1000000 l (spec_l5Groups_l1 l) (fun n => [n.Group_]) [] 1 (fun _ _ => by simp) (by simp; omega) (fun i a x ha hx => by
    have hil := (List.getElem?_eq_some_iff.1 ha).1
    unfold spec_l5Groups_l1
    dsimp only
    rw [ltn hil, cond_true, idx_nat, ha, Option.bind_some, app_get (by simp; omega), Option.bind_some, wrap_succ (by omega)]) (fun x => by unfold spec_l5Groups_l1; simp)
  obtain ⟨h2, h3, h4⟩ := sortV_eq (l.map (·.Group_)) (by rw [List.length_map]; omega) fun a ha => by
    obtain ⟨n, h5, rfl⟩ := List.mem_map.1 ha
    exact (hg.sz n h5).1
  refine ⟨?_, h3, fun x => ?_, ?_⟩
  · unfold spec_l5Groups groupsV
    rw [h1, Option.bind_some, List.nil_append, e]
    dsimp only
    rw [h2, Option.bind_some]
  · unfold groupsV
    rw [h4, List.mem_map]
  · have := pigeon (l := groupsV l) (m := l.map (·.Group_)) (tlt_nodup h3) fun x hx => (h4 x).1 hx
    rw [List.length_map] at this
    omega
theorem rowV_ok (g : ByteArray) : (rowV l g).Pairwise rlt ∧ (∀ r, r ∈ rowV l g ↔ r.Group_ = g ∧ ∃ q : Nat, r.Steps_ = (q : Int) ∧ MinW l g r.Member_ q) ∧ (rowV l g).length ≤ 200 := by
  obtain ⟨_, h2, h3, h4⟩ := ms_ok hg g
  refine ⟨?_, fun r => ?_, by unfold rowV; rw [List.length_map]; exact h4⟩
  · unfold rowV
    rw [List.pairwise_map]
    exact h2.imp fun h => .inr ⟨rfl, h⟩
  · unfold rowV
    rw [List.mem_map]
    constructor
    · rintro ⟨m, h5, rfl⟩
      obtain ⟨j, hj⟩ := (h3 m).1 h5
      exact ⟨rfl, j, by rw [distV_eq hj], hj⟩
    · rintro ⟨rfl, q, q1, q2⟩
      refine ⟨r.Member_, (h3 _).2 ⟨q, q2⟩, ?_⟩
      rw [distV_eq q2, ← q1]
theorem spec_reach_ok : Ok (spec_l5Reach l) fun xs => xs.Pairwise rlt ∧ ∀ r, r ∈ xs ↔ IsR l r := by
  obtain ⟨g1, g2, g3, g4⟩ := groups_ok hg
  unfold spec_l5Reach
  rw [g1, Option.bind_some]
  have := loop_app 50000 (groupsV l) (spec_l5Reach_l1 l (groupsV l)) (rowV l) [] 200 (fun a _ => (rowV_ok hg a).2.2) (by simp; omega) (fun i a x ha hx => ?_) (fun x => by unfold spec_l5Reach_l1; simp)
  · rw [this, Option.bind_some, List.nil_append]
    refine Ok.some ⟨flat_strict (rowV l) _ (fun r _ => (rowV_ok hg r).1) (g2.imp fun {a b} hab x hx y hy => ?_), fun r => ?_⟩
    · have h1 := ((rowV_ok hg a).2.1 x).1 hx
      have h2 := ((rowV_ok hg b).2.1 y).1 hy
      exact .inl (by rw [h1.1, h2.1]; exact hab)
    · rw [List.mem_flatMap]
      constructor
      · rintro ⟨a, h1, h2⟩
        obtain ⟨rfl, q, q1, q2⟩ := ((rowV_ok hg a).2.1 r).1 h2
        exact ⟨(g3 _).1 h1, q, q1, q2⟩
      · rintro ⟨h1, q, q1, q2⟩
        exact ⟨r.Group_, (g3 _).2 h1, ((rowV_ok hg _).2.1 r).2 ⟨rfl, q, q1, q2⟩⟩
  · have hil := (List.getElem?_eq_some_iff.1 ha).1
    obtain ⟨r1, r2⟩ := ringsV_eq hg.len a
    obtain ⟨m1, _⟩ := ms_ok hg a
    have r3 := r2.len
    have hfl := loop_app 1000000 (ringsV l a) (spec_l5Reach_l2 (ringsV l a)) (fun r => r) [] 200 (fun r hr => r2.each r hr) (by simp; omega) (fun i b x hb hx => by
      have hil := (List.getElem?_eq_some_iff.1 hb).1
      unfold spec_l5Reach_l2
      dsimp only
      rw [ltn hil, cond_true, idx_nat, hb, Option.bind_some, app_get (by have := r2.each b (List.mem_of_getElem? hb); omega), Option.bind_some, wrap_succ (by omega)]) (fun x => by unfold spec_l5Reach_l2; simp)
    unfold spec_l5Reach_l1
    dsimp only
    rw [ltn hil, cond_true, idx_nat, ha, Option.bind_some, r1, Option.bind_some, hfl, Option.bind_some, List.nil_append, List.flatMap_id', m1, Option.bind_some, reach_l3 hg a x (by omega), Option.bind_some, wrap_succ (by omega)]
/-- Both sides tell the same. -/
theorem both_reach : ∃ R, reach l = some R ∧ spec_l5Reach l = some R ∧ R.Pairwise rlt ∧ (∀ r, r ∈ R ↔ IsR l r) ∧ R.length ≤ 40000 := by
  obtain ⟨R, h1, h2, h3, h4⟩ := reach_ok hg
  obtain ⟨R', k1, k2, k3⟩ := spec_reach_ok hg
  have : R = R' := strict_eq rlt_irrefl rlt_trans R R' h2 k2 fun x => by rw [h3, k3]
  subst this
  exact ⟨R, h1, k1, h2, h3, h4⟩
end
end Go.G36.RC
/- WayOf gives a way of so many nests. -/
namespace Go.G36.RC
set_option linter.all false
open Go Go.G36 Go.Proofs Go.G36.RcAnc

theorem mget_some {m : List (ByteArray × Int)} {x : ByteArray} {v : Int} (h : mget m x = some v) : (x, v) ∈ m := by
  unfold mget at h
  cases hf : mfind x m 0 with
  | none => rw [hf] at h; cases h
  | some jv =>
    obtain ⟨j, v'⟩ := jv
    rw [hf] at h
    obtain ⟨_, k', h1, h2⟩ := mfind_at m 0 j v' hf
    have h3 := (ba_beq _ _).1 h2
    subst h3
    injection h with h
    simp at h
    subst h
    exact List.mem_of_getElem? h1
section
variable {l : List T_impl_Nest}
theorem from_get {g m : ByteArray} {s : List (ByteArray × Int)} (hs : From l g s) {q : Nat} (h : MinW l g m q) : (mget s m).getD 0 = (q : Int) := by
  rw [mget_mem hs.nd ((hs.iff m q).2 ⟨q, rfl, h⟩)]; rfl
theorem from_back {g m : ByteArray} {s : List (ByteArray × Int)} (hs : From l g s) {q : Nat} (h0 : 1 ≤ q) (h : (mget s m).getD 0 = (q : Int)) : MinW l g m q := by
  cases hm : mget s m with
  | none => rw [hm] at h; simp at h; omega
  | some v =>
    rw [hm] at h
    simp at h
    subst h
    obtain ⟨q', h1, h2⟩ := (hs.iff m q).1 (mget_some hm)
    have : q = q' := by omega
    subst this
    exact h2
theorem way_in (hl : l.length ≤ 200) {at_ m : ByteArray} {d : Nat} (hd : 1 ≤ d) (hb : d ≤ 1000000) (h : MinW l at_ m (d + 1)) : Ok (loopO (way_l2 l m ((d + 1 : Nat) : Int) at_) 0) fun q => ∃ x, q = .inr x ∧ (⟨at_, x⟩ : T_impl_Nest) ∈ l ∧ MinW l x m d := by
  obtain ⟨e, he1, he2⟩ := h.first hd
  obtain ⟨p, hp⟩ := List.mem_iff_getElem?.1 he1
  have hpl := (List.getElem?_eq_some_iff.1 hp).1
  refine Ok.loop (fun n v => ∃ i : Nat, v = (i : Int) ∧ i + n = l.length ∧ i ≤ p) ?_ (n := l.length) ⟨0, rfl, by omega, by omega⟩
  rintro n v ⟨i, rfl, hi, hip⟩
  have hil : i < l.length := by omega
  unfold way_l2
  rw [ltn hil, cond_true, idx_nat, List.getElem?_eq_getElem hil, Option.bind_some, wrap_succ (by omega)]
  have hgo : i ≠ p → Ok (some (Sum.inl ((i : Int) + 1) : Int ⊕ (Unit ⊕ ByteArray))) (fun x => match x with | .inl s' => ∃ m', m' < n ∧ ∃ i : Nat, s' = (i : Int) ∧ i + m' = l.length ∧ i ≤ p | .inr r => ∃ x, r = .inr x ∧ (⟨at_, x⟩ : T_impl_Nest) ∈ l ∧ MinW l x m d) := fun hne =>
    Ok.some ⟨n - 1, by omega, i + 1, rfl, by omega, by omega⟩
  have hpe : i = p → l[i].Group_ = at_ ∧ l[i].Member_ = e := fun e1 => by
    subst e1
    rw [List.getElem?_eq_getElem hil] at hp
    rw [Option.some.inj hp]; exact ⟨rfl, rfl⟩
  refine Ok.cond (fun hgp => ?_) (fun hgp => ?_)
  · have hgp := (tl_beq _ _).1 hgp
    refine Ok.bind (yfrom_ok hl _) fun s hs => ?_
    have hw : IntKind.i64.wrap (((d + 1 : Nat) : Int) - 1) = (d : Int) := by rw [IntWalk.i64_in _ (by omega)]; omega
    rw [hw]
    refine Ok.cond (fun hq => ?_) (fun hq => ?_)
    · have hq := eq_of_beq hq
      exact Ok.some ⟨_, rfl, by
        have : l[i] = ⟨at_, l[i].Member_⟩ := by rw [← hgp]
        rw [← this]; exact List.getElem_mem _, from_back hs hd hq⟩
    · refine Ok.mono (hgo fun e1 => ?_) fun x hx => by rcases x with x | x <;> exact hx
      rw [from_get hs (by rw [(hpe e1).2]; exact he2)] at hq
      simp at hq
  · refine Ok.mono (hgo fun e1 => ?_) fun x hx => by rcases x with x | x <;> exact hx
    rw [(tl_beq _ _).2 (hpe e1).1] at hgp; cases hgp
/-- What a way is. -/
structure IsWay (l : List T_impl_Nest) (g m : ByteArray) (q : Nat) (w : List ByteArray) : Prop where
  len : w.length = q + 1
  hd : w[0]? = some g
  last : w[q]? = some m
  chain : ∀ k x y, w[k]? = some x → w[k + 1]? = some y → (⟨x, y⟩ : T_impl_Nest) ∈ l
theorem way_ok (hg : Good l) {g m : ByteArray} {q : Nat} (hb : q ≤ 1000000) (h : MinW l g m q) : Ok (wayOf l g m) (IsWay l g m q) := by
  have hl := hg.len
  unfold wayOf
  rw [good_impl, gNb_iff.2 hg, Option.bind_some]
  simp only [Bool.not_true, cond_false]
  refine Ok.bind (yfrom_ok hl g) fun s hs => ?_
  have hq := from_get hs h
  rw [hq, show ((q : Int) == 0) = false from by have := h.1; simp; omega, cond_false]
  refine Ok.bind (Q := fun w => IsWay l g m q (w ++ [m]) ∧ w.length ≤ 1000001) ?_ fun w hw => by rw [app_get (by simp; omega)]; exact Ok.some hw.1
  refine Ok.loop (fun n st => ∃ d : Nat, n = d ∧ st.2.2 = (d : Int) ∧ MinW l st.2.1 m d ∧ st.1.length + d = q + 1 ∧ st.1[0]? = some g ∧ st.1[st.1.length - 1]? = some st.2.1 ∧ (∀ k x y, st.1[k]? = some x → st.1[k + 1]? = some y → (⟨x, y⟩ : T_impl_Nest) ∈ l)) ?_ (n := q)
    ⟨q, rfl, rfl, h, by simp; omega, rfl, rfl, fun k x y h1 h2 => by simp at h2⟩
  rintro n ⟨w, at_, v⟩ ⟨d, hdn, hv, hm, hlen, h0, hlast, hch⟩
  dsimp only at hv hm hlen h0 hlast hch
  subst hv
  have hwl : 0 < w.length := by
    rcases w with _ | ⟨a, w⟩
    · cases h0
    · simp
  have hd1 := hm.1
  have step : ∀ x, (⟨at_, x⟩ : T_impl_Nest) ∈ l → ∀ k a b, (w ++ [x])[k]? = some a → (w ++ [x])[k + 1]? = some b → (⟨a, b⟩ : T_impl_Nest) ∈ l := fun x hx k a b h1 h2 => by
    by_cases hk : k + 1 < w.length
    · rw [List.getElem?_append_left (by omega)] at h1
      rw [List.getElem?_append_left hk] at h2
      exact hch k a b h1 h2
    · have hkl := (List.getElem?_eq_some_iff.1 h2).1
      simp at hkl
      have e : k = w.length - 1 := by omega
      rw [List.getElem?_append_left (by omega), e, hlast] at h1
      rw [List.getElem?_append_right (by omega), show k + 1 - w.length = 0 by omega] at h2
      simp at h1 h2
      rw [← h1, ← h2]; exact hx
  unfold way_l1
  dsimp only
  refine Ok.cond (fun hd => ?_) (fun hd => ?_)
  · have hd := of_decide_eq_true hd
    obtain ⟨d', rfl⟩ : ∃ x, d = x + 1 := ⟨d - 1, by omega⟩
    refine Ok.bind (way_in hl (by omega) (by omega) hm) ?_
    rintro _ ⟨x, rfl, hx1, hx2⟩
    show Ok ((app w [x]).bind _) _
    rw [app_get (by simp; omega), Option.bind_some]
    refine Ok.some ⟨d', by omega, d', rfl, ?_, hx2, by simp; omega, ?_, by simp [pickAt], step x hx1⟩
    · dsimp only
      rw [IntWalk.i64_in _ (by omega)]; omega
    · dsimp only
      rw [List.getElem?_append_left hwl]; exact h0
  · have hd := of_decide_eq_false hd
    have hd2 : d = 1 := by omega
    subst hd2
    refine Ok.some ⟨⟨by simp; omega, by rw [List.getElem?_append_left hwl]; exact h0, ?_, step m ?_⟩, by omega⟩
    · rw [List.getElem?_append_right (by omega), show q - w.length = 0 by omega]; rfl
    · obtain ⟨e, e1, e2, _⟩ := MinW.last (k := 0) hm
      rw [← e2 rfl]; exact e1
end
end Go.G36.RC
/- A nest put in: both sides make the same list. -/
namespace Go.G36.RC
set_option linter.all false
open Go Go.G36 Go.Proofs Go.G36.RcAnc

section
variable {l : List T_impl_Nest} {n : T_impl_Nest}
theorem with_j1 {i : Nat} {e : T_impl_Nest} {r : Int} {o : List T_impl_Nest} {p : Bool} (hi : i ≤ 1000000) (ho : o.length ≤ 1000000) :
    spec_l5With_j1 (i : Int) e r o p = some (.inl ((if r = 0 then o else o ++ [e]), p, ((i + 1 : Nat) : Int))) := by
  unfold spec_l5With_j1
  rw [wrap_succ (by omega), app_get (by simp; omega), Option.bind_some]
  by_cases h : r = 0
  · rw [if_pos h, h]; rfl
  · rw [if_neg h, show (r != 0) = true by simpa using h]; rfl
theorem pw_snoc {α : Type} {R : α → α → Prop} {o : List α} {x : α} (h : o.Pairwise R) (k : ∀ y, y ∈ o → R y x) : (o ++ [x]).Pairwise R := by
  rw [List.pairwise_append]
  exact ⟨h, by simp, fun a ha b hb => by rw [List.mem_singleton.1 hb]; exact k a ha⟩
theorem with_ok (hl : l.length ≤ 1000) (hs : ∀ x, x ∈ l → szN x) (hn : szN n) : Ok (spec_l5With l n true) fun out =>
    out.length ≤ l.length + 1 ∧ (∀ x, x ∈ out → x ∈ l ∨ x = n) ∧ (l.Pairwise nlt → out.Pairwise nlt ∧ ∀ x, x ∈ out ↔ x ∈ l ∨ x = n) := by
  unfold spec_l5With
  refine Ok.bind (Q := fun q => (q.1.length ≤ l.length + (if q.2 then 1 else 0)) ∧ (∀ x, x ∈ q.1 → x ∈ l ∨ x = n) ∧ (l.Pairwise nlt → (q.2 = false → q.1 = l ∧ ∀ y, y ∈ l → nlt y n) ∧ (q.2 = true → q.1.Pairwise nlt ∧ ∀ x, x ∈ q.1 ↔ x ∈ l ∨ x = n))) ?_ ?_
  · refine Ok.loop (fun m st => ∃ i : Nat, st.2.2 = (i : Int) ∧ i + m = l.length ∧ (st.1.length ≤ i + (if st.2.1 then 1 else 0)) ∧ (∀ x, x ∈ st.1 → x ∈ l.take i ∨ x = n) ∧
      (l.Pairwise nlt → (st.2.1 = false → st.1 = l.take i ∧ ∀ y, y ∈ l.take i → nlt y n) ∧ (st.2.1 = true → st.1.Pairwise nlt ∧ (∀ x, x ∈ st.1 ↔ x ∈ l.take i ∨ x = n) ∧ ∀ z, z ∈ l.drop i → nlt n z))) ?_ (n := l.length)
      ⟨0, rfl, by omega, by simp, fun x h => by simp at h, fun _ => ⟨fun _ => ⟨by simp, fun y h => by simp at h⟩, fun h => by simp at h⟩⟩
    rintro m ⟨o, p, v⟩ ⟨i, hv, hi, h1, h2, h3⟩
    dsimp only at hv h1 h2 h3
    subst hv
    have hol : o.length ≤ i + 1 := by split at h1 <;> omega
    unfold spec_l5With_l1
    dsimp only
    refine Ok.cond (fun hd => ?_) (fun hd => ?_)
    · have hil : i < l.length := by have := of_decide_eq_true hd; omega
      have hm : l[i] ∈ l := List.getElem_mem hil
      obtain ⟨r, r1, r2, r3⟩ := scmp (hs _ hm) hn
      have tk : l.take (i + 1) = l.take i ++ [l[i]] := List.take_succ_eq_append_getElem hil
      have mtk : ∀ x, x ∈ l.take (i + 1) ↔ (x ∈ l.take i ∨ x = l[i]) := fun x => by rw [tk, List.mem_append, List.mem_singleton]
      have dk : l.drop i = l[i] :: l.drop (i + 1) := List.drop_eq_getElem_cons hil
      have below : l.Pairwise nlt → ∀ y, y ∈ l.take i → nlt y l[i] := fun hp y hy => by
        rw [← List.take_append_drop i l, List.pairwise_append] at hp
        exact hp.2.2 y hy _ (by rw [dk]; exact List.mem_cons_self)
      have above : l.Pairwise nlt → ∀ z, z ∈ l.drop (i + 1) → nlt l[i] z := fun hp z hz => by
        rw [← List.take_append_drop i l, List.pairwise_append, dk, List.pairwise_cons] at hp
        exact hp.2.1.1 z hz
      rw [idx_nat, List.getElem?_eq_getElem hil, Option.bind_some, r1, Option.bind_some, with_j1 (by omega) (by omega), app_get (by simp; omega), Option.bind_some, with_j1 (by omega) (by simp; omega)]
      refine Ok.cond (fun hc => ?_) (fun hc => ?_)
      · rw [Bool.and_eq_true, decide_eq_true_eq, Bool.not_eq_true'] at hc
        obtain ⟨hc, rfl⟩ := hc
        refine Ok.some ⟨m - 1, by omega, i + 1, rfl, by omega, ?_, fun x hx => ?_, fun hp => ⟨fun h => (by cases h), fun _ => ?_⟩⟩
        · simp only [Bool.false_eq_true, if_false] at h1
          dsimp only
          split <;> simp <;> omega
        · dsimp only at hx
          have : x ∈ o ∨ x = n ∨ x = l[i] := by
            split at hx
            · simp at hx; exact hx.elim .inl fun h => .inr (.inl h)
            · simp at hx; rcases hx with h | h | h
              · exact .inl h
              · exact .inr (.inl h)
              · exact .inr (.inr h)
          rcases this with h | h | h
          · exact (h2 x h).elim (fun h => .inl ((mtk x).2 (.inl h))) .inr
          · exact .inr h
          · exact .inl ((mtk x).2 (.inr h))
        · obtain ⟨e1, e2⟩ := (h3 hp).1 rfl
          subst e1
          have hpt : (l.take i).Pairwise nlt := hp.sublist (List.take_sublist _ _)
          have hpn := pw_snoc hpt e2
          dsimp only
          by_cases h0 : r = 0
          · have he := r3.1 h0
            rw [if_pos h0]
            refine ⟨hpn, fun x => ?_, fun z hz => by rw [← he]; exact above hp z hz⟩
            rw [mtk, List.mem_append, List.mem_singleton, he]
            exact ⟨.inl, fun h => h.elim id .inr⟩
          · have hnx : nlt n l[i] := by
              rcases nlt_tri l[i] n with k | k | k
              · have := r2.2 k; omega
              · exact absurd (r3.2 k) h0
              · exact k
            rw [if_neg h0]
            refine ⟨pw_snoc hpn fun y hy => ?_, fun x => ?_, fun z hz => nlt_trans _ _ _ hnx (above hp z hz)⟩
            · rcases List.mem_append.1 hy with h | h
              · exact below hp y h
              · rw [List.mem_singleton.1 h]; exact hnx
            · rw [mtk]
              simp only [List.mem_append, List.mem_singleton]
              constructor
              · rintro ((h | h) | h)
                · exact .inl (.inl h)
                · exact .inr h
                · exact .inl (.inr h)
              · rintro ((h | h) | h)
                · exact .inl (.inl h)
                · exact .inr h
                · exact .inl (.inr h)
      · refine Ok.some ⟨m - 1, by omega, i + 1, rfl, by omega, ?_, fun x hx => ?_, fun hp => ⟨fun hpf => ?_, fun hpt => ?_⟩⟩
        · dsimp only
          split <;> (try simp) <;> omega
        · dsimp only at hx
          have : x ∈ o ∨ x = l[i] := by
            split at hx
            · exact .inl hx
            · simpa using hx
          rcases this with h | h
          · exact (h2 x h).elim (fun h => .inl ((mtk x).2 (.inl h))) .inr
          · exact .inl ((mtk x).2 (.inr h))
        · dsimp only at hpf ⊢
          subst hpf
          obtain ⟨e1, e2⟩ := (h3 hp).1 rfl
          have hr : r < 0 := by
            rw [Bool.not_false, Bool.and_true] at hc
            have := of_decide_eq_false hc; omega
          rw [if_neg (by omega), e1, tk]
          refine ⟨rfl, fun y hy => ?_⟩
          rcases List.mem_append.1 hy with h | h
          · exact e2 y h
          · rw [List.mem_singleton.1 h]; exact r2.1 hr
        · dsimp only at hpt ⊢
          subst hpt
          obtain ⟨e1, e2, e3⟩ := (h3 hp).2 rfl
          have hnx : nlt n l[i] := e3 _ (by rw [dk]; exact List.mem_cons_self)
          have h0 : r ≠ 0 := fun h => nlt_irrefl n (by rw [r3.1 h] at hnx; exact hnx)
          rw [if_neg h0]
          refine ⟨pw_snoc e1 fun y hy => ?_, fun x => ?_, fun z hz => e3 z (by rw [dk]; exact List.mem_cons_of_mem _ hz)⟩
          · rcases (e2 y).1 hy with h | h
            · exact below hp y h
            · rw [h]; exact hnx
          · rw [mtk, List.mem_append, List.mem_singleton, e2]
            constructor
            · rintro ((h | h) | h)
              · exact .inl (.inl h)
              · exact .inr h
              · exact .inl (.inr h)
            · rintro ((h | h) | h)
              · exact .inl (.inl h)
              · exact .inr h
              · exact .inl (.inr h)
    · have hd := of_decide_eq_false hd
      have hil : i = l.length := by omega
      subst hil
      rw [List.take_length] at h2 h3
      refine Ok.some ⟨h1, h2, fun hp => ⟨(h3 hp).1, fun h => ⟨((h3 hp).2 h).1, ((h3 hp).2 h).2.1⟩⟩⟩
  · rintro ⟨o, p⟩ ⟨h1, h2, h3⟩
    dsimp only at h1 h2 h3 ⊢
    cases p with
    | false =>
      simp only [Bool.not_false, cond_true]
      simp only [Bool.false_eq_true, if_false] at h1
      rw [app_get (by simp; omega), Option.bind_some]
      refine Ok.some ⟨by simp; omega, fun x hx => ?_, fun hp => ?_⟩
      · rcases List.mem_append.1 hx with h | h
        · exact h2 x h
        · exact .inr (List.mem_singleton.1 h)
      · obtain ⟨rfl, e2⟩ := (h3 hp).1 rfl
        exact ⟨pw_snoc hp e2, fun x => by rw [List.mem_append, List.mem_singleton]⟩
    | true =>
      simp only [Bool.not_true, cond_false]
      exact Ok.some ⟨by simpa using h1, h2, fun hp => (h3 hp).2 rfl⟩

/-! ### The other side -/
theorem mid_eq {i j : Nat} (h : i + j ≤ 1000000) : IntKind.i64.wrap (Int.fdiv (IntKind.u64.wrap (IntKind.i64.wrap ((i : Int) + (j : Int)))) (2 ^ (min (Int.toNat 1) IntKind.u64.bits))) = (((i + j) / 2 : Nat) : Int) := by
  have h1 : IntKind.i64.wrap ((i : Int) + (j : Int)) = ((i + j : Nat) : Int) := by rw [IntWalk.i64_in _ (by omega)]; omega
  have h2 : IntKind.u64.wrap ((i + j : Nat) : Int) = ((i + j : Nat) : Int) := IntWalk.u64_in _ (by omega)
  have h3 : (2 : Int) ^ (min (Int.toNat 1) IntKind.u64.bits) = ((2 : Nat) : Int) := by decide
  rw [h1, h2, h3]
  have h4 : Int.fdiv ((i + j : Nat) : Int) ((2 : Nat) : Int) = (((i + j) / 2 : Nat) : Int) := by
    rw [Int.fdiv_eq_ediv_of_nonneg _ (by omega)]; omega
  rw [h4, IntWalk.i64_in _ (by omega)]
theorem search_ok (hp : l.Pairwise nlt) (hl : l.length ≤ 1000) (n : T_impl_Nest) : Ok (impl_Nest_ l n) fun q => ∃ i : Nat, q.1 = (i : Int) ∧ i ≤ l.length ∧ (q.2 = true ↔ n ∈ l) ∧ (∀ x, x ∈ l.take i → nlt x n) ∧ (q.2 = false → ∀ x, x ∈ l.drop i → nlt n x) := by
  unfold impl_Nest_
  have pw := List.pairwise_iff_getElem.1 hp
  refine Ok.bind (Q := fun v => ∃ i : Nat, v = (i : Int) ∧ i ≤ l.length ∧ (∀ k (h : k < l.length), k < i → nlt l[k] n) ∧ ∀ k (h : k < l.length), i ≤ k → ¬ nlt l[k] n) ?_ ?_
  · refine Ok.loop (fun m st => ∃ i j : Nat, st.1 = (i : Int) ∧ st.2 = (j : Int) ∧ m = j - i ∧ i ≤ j ∧ j ≤ l.length ∧ (∀ k (h : k < l.length), k < i → nlt l[k] n) ∧ ∀ k (h : k < l.length), j ≤ k → ¬ nlt l[k] n) ?_ (n := l.length)
      ⟨0, l.length, rfl, rfl, by omega, by omega, Nat.le_refl _, fun k h h2 => by omega, fun k h h2 => by omega⟩
    rintro m ⟨v1, v2⟩ ⟨i, j, hv1, hv2, hm, hij, hj, h1, h2⟩
    dsimp only at hv1 hv2
    subst hv1; subst hv2
    unfold impl_Nest__l1
    dsimp only
    refine Ok.cond (fun hd => ?_) (fun hd => ?_)
    · have hd : i < j := by have := of_decide_eq_true hd; omega
      rw [mid_eq (by omega)]
      have hh : (i + j) / 2 < l.length := by omega
      rw [idx_nat, List.getElem?_eq_getElem hh, Option.bind_some, ycmp, Option.bind_some]
      refine Ok.cond (fun hc => ?_) (fun hc => ?_)
      · have hc := (cmpNst_neg _ _).1 (of_decide_eq_true hc)
        rw [wrap_succ (by omega)]
        refine Ok.some ⟨j - ((i + j) / 2 + 1), by omega, (i + j) / 2 + 1, j, by dsimp only; omega, rfl, rfl, by omega, hj, fun k hk hkh => ?_, h2⟩
        by_cases e : k = (i + j) / 2
        · subst e; exact hc
        · exact nlt_trans _ _ _ (pw k _ hk hh (by omega)) hc
      · have hc : ¬ nlt l[(i + j) / 2] n := fun k => (of_decide_eq_false hc) ((cmpNst_neg _ _).2 k)
        refine Ok.some ⟨(i + j) / 2 - i, by omega, i, (i + j) / 2, rfl, rfl, rfl, by omega, by omega, h1, fun k hk hkh hlt => ?_⟩
        by_cases e : k = (i + j) / 2
        · subst e; exact hc hlt
        · exact hc (nlt_trans _ _ _ (pw _ k hh hk (by omega)) hlt)
    · have hd := of_decide_eq_false hd
      have : i = j := by omega
      subst this
      exact Ok.some ⟨i, rfl, hj, h1, h2⟩
  · rintro _ ⟨i, rfl, hi, h1, h2⟩
    dsimp only
    have htake : ∀ x, x ∈ l.take i → nlt x n := fun x hx => by
      obtain ⟨k, hk, rfl⟩ := List.mem_iff_getElem.1 hx
      rw [List.getElem_take]
      simp at hk
      exact h1 k (by omega) (by omega)
    by_cases hil : i < l.length
    · have hge : nlt n l[i] ∨ l[i] = n := by
        rcases nlt_tri l[i] n with k | k | k
        · exact absurd k (h2 i hil (Nat.le_refl _))
        · exact .inr k
        · exact .inl k
      rw [ltn hil]
      simp only [gdO, cond_true, idx_nat, List.getElem?_eq_getElem hil, Option.bind_some, ycmp, Bool.true_and]
      have hz : (cmpNst l[i] n == 0) = true ↔ l[i] = n := by rw [beq_iff_eq]; exact cmpNst_zero _ _
      refine Ok.some ⟨i, rfl, hi, ?_, htake, fun hf x hx => ?_⟩
      · dsimp only
        rw [hz]
        constructor
        · intro h; rw [← h]; exact List.getElem_mem hil
        · intro hn
          obtain ⟨k, hk, e⟩ := List.mem_iff_getElem.1 hn
          rcases Nat.lt_trichotomy k i with c | c | c
          · have := h1 k hk c; rw [e] at this; exact absurd this (nlt_irrefl n)
          · subst c; exact e
          · have := pw i k hil hk c
            rw [e] at this
            exact absurd this (h2 i hil (Nat.le_refl _))
      · dsimp only at hf
        have hne : l[i] ≠ n := fun e => by rw [hz.2 e] at hf; cases hf
        have hni : nlt n l[i] := hge.resolve_right hne
        rw [List.drop_eq_getElem_cons hil] at hx
        rcases List.mem_cons.1 hx with rfl | hx
        · exact hni
        · obtain ⟨k, hk, rfl⟩ := List.mem_iff_getElem.1 hx
          rw [List.getElem_drop]
          simp at hk
          exact nlt_trans _ _ _ hni (pw i _ hil (by omega) (by omega))
    · have hie : i = l.length := by omega
      subst hie
      rw [show decide ((l.length : Int) < (l.length : Int)) = false by simp]
      simp only [gdO, cond_false, Option.bind_some, Bool.false_and]
      refine Ok.some ⟨l.length, rfl, Nat.le_refl _, ?_, htake, fun _ x hx => by simp at hx⟩
      dsimp only
      constructor
      · intro h; cases h
      · intro hn
        have := htake n (by rw [List.take_length]; exact hn)
        exact absurd this (nlt_irrefl n)
end
end Go.G36.RC
/- A nest taken out; AddNest and DropNest. -/
namespace Go.G36.RC
set_option linter.all false
open Go Go.G36 Go.Proofs Go.G36.RcAnc

section
variable {l : List T_impl_Nest} {n : T_impl_Nest}
open Classical in
noncomputable def outF (n : T_impl_Nest) (l : List T_impl_Nest) : List T_impl_Nest := l.filter fun x => !decide (x = n)
theorem outF_app (a b : List T_impl_Nest) : outF n (a ++ b) = outF n a ++ outF n b := by unfold outF; rw [List.filter_append]
theorem outF_hit : outF n [n] = [] := by unfold outF; simp
theorem outF_miss {x : T_impl_Nest} (h : x ≠ n) : outF n [x] = [x] := by unfold outF; simp [h]
theorem outF_mem {x : T_impl_Nest} : x ∈ outF n l ↔ x ∈ l ∧ x ≠ n := by unfold outF; rw [List.mem_filter]; simp
theorem outF_len : (outF n l).length ≤ l.length := List.length_filter_le _ _
theorem outF_none (h : n ∉ l) : outF n l = l := by
  unfold outF
  rw [List.filter_eq_self]
  intro x hx
  have : x ≠ n := fun e => h (e ▸ hx)
  simp [this]
theorem outF_sub : (outF n l).Sublist l := List.filter_sublist
theorem nest_beq (x y : T_impl_Nest) : (x == y) = false ↔ x ≠ y := by
  rw [Bool.eq_false_iff]
  exact not_congr (nest_eq x y)
theorem find_ok (hl : l.length ≤ 100000) : Ok (impl_Nest_xxxxx l n) fun r => (r = -1 ∧ n ∉ l) ∨ ∃ (i : Nat) (h : i < l.length), r = (i : Int) ∧ l[i] = n ∧ ∀ x, x ∈ l.take i → x ≠ n := by
  unfold impl_Nest_xxxxx
  refine Ok.bind (Q := fun q => match q with | .inl _ => n ∉ l | .inr r => ∃ (i : Nat) (h : i < l.length), r = (i : Int) ∧ l[i] = n ∧ ∀ x, x ∈ l.take i → x ≠ n) ?_ fun q hq => ?_
  · refine Ok.loop (fun m v => ∃ i : Nat, v = (i : Int) ∧ i + m = l.length ∧ ∀ x, x ∈ l.take i → x ≠ n) ?_ (n := l.length) ⟨0, rfl, by omega, fun x h => by simp at h⟩
    rintro m v ⟨i, rfl, hi, h1⟩
    unfold impl_Nest_xxxxx_l1
    dsimp only
    refine Ok.cond (fun hd => ?_) (fun hd => ?_)
    · have hil : i < l.length := by have := of_decide_eq_true hd; omega
      rw [idx_nat, List.getElem?_eq_getElem hil, Option.bind_some]
      unfold impl_DropNest_1
      rw [Option.bind_some, wrap_succ (by omega)]
      refine Ok.cond (fun hc => ?_) (fun hc => ?_)
      · exact Ok.some ⟨i, hil, rfl, (nest_eq _ _).1 hc, h1⟩
      · refine Ok.some ⟨m - 1, by omega, i + 1, rfl, by omega, fun x hx => ?_⟩
        rw [List.take_succ_eq_append_getElem hil, List.mem_append, List.mem_singleton] at hx
        rcases hx with h | h
        · exact h1 x h
        · rw [h]; exact (nest_beq _ _).1 hc
    · have hd := of_decide_eq_false hd
      refine Ok.some ?_
      show n ∉ l
      intro hn
      exact h1 n (by rw [List.take_of_length_le (by omega)]; exact hn) rfl
  · rcases q with _ | r
    · exact Ok.some (.inl ⟨rfl, hq⟩)
    · exact Ok.some (.inr hq)
theorem delete_ok (hl : l.length ≤ 100000) : impl_Nest_xxxx l n = some (outF n l) := by
  have key : Ok (impl_Nest_xxxx l n) fun q => q = outF n l := by
    unfold impl_Nest_xxxx
    refine Ok.bind (find_ok hl) ?_
    rintro r (⟨rfl, h⟩ | ⟨i, hi, rfl, he, hb⟩)
    · rw [show ((-1 : Int) == -1) = true by decide]
      exact Ok.some (outF_none h).symm
    · rw [show ((i : Int) == -1) = false by rw [beq_eq_false_iff_ne]; omega]
      simp only [cond_false]
      rw [wrap_succ (by omega)]
      have h0 : outF n (l.take i) = l.take i := outF_none fun h => hb n h rfl
      refine Ok.bind (Q := fun q => ∃ k : Nat, q.2 = (k : Int) ∧ k ≤ q.1.length ∧ q.1.take k = outF n l) ?_ ?_
      · refine Ok.loop (fun m st => ∃ k j : Nat, st.2.1 = (k : Int) ∧ st.2.2 = (j : Int) ∧ j + m = l.length ∧ k < j ∧ st.1.length = l.length ∧ st.1.take k = outF n (l.take j) ∧ st.1.drop j = l.drop j) ?_ (n := l.length - (i + 1))
          ⟨i, i + 1, rfl, rfl, by omega, by omega, rfl, by
            rw [List.take_succ_eq_append_getElem hi, outF_app, he, outF_hit, List.append_nil, h0], rfl⟩
        rintro m ⟨q, v4, v5⟩ ⟨k, j, hv4, hv5, hj, hkj, g1, g2, g3⟩
        dsimp only at hv4 hv5 g1 g2 g3
        subst hv4; subst hv5
        unfold impl_Nest_xxxx_l1
        dsimp only
        refine Ok.cond (fun hd => ?_) (fun hd => ?_)
        · have hjl : j < q.length := by have := of_decide_eq_true hd; omega
          have hjl2 : j < l.length := by omega
          have e1 : q[j] = l[j] := by
            have := congrArg (fun x => x[0]?) g3
            simp only [List.getElem?_drop, Nat.add_zero] at this
            rw [List.getElem?_eq_getElem hjl, List.getElem?_eq_getElem hjl2] at this
            exact Option.some.inj this
          have tk : l.take (j + 1) = l.take j ++ [l[j]] := List.take_succ_eq_append_getElem hjl2
          rw [idx_nat, List.getElem?_eq_getElem hjl, Option.bind_some]
          unfold impl_DropNest_1
          rw [Option.bind_some, idx_nat, List.getElem?_eq_getElem (show k < q.length by omega), Option.bind_some, Int.toNat_natCast, wrap_succ (i := k) (by omega)]
          unfold impl_Nest_xxxx_j1
          rw [wrap_succ (by omega), e1]
          refine Ok.cond (fun hc => ?_) (fun hc => ?_)
          · have hne : l[j] ≠ n := by
              rw [Bool.not_eq_true'] at hc
              exact (nest_beq _ _).1 hc
            refine Ok.some ⟨m - 1, by omega, k + 1, j + 1, rfl, rfl, by omega, by omega, by simpa using g1, ?_, ?_⟩
            · dsimp only
              rw [tk, outF_app, outF_miss hne, ← g2, List.take_succ_eq_append_getElem (by simp; omega)]
              congr 1
              · rw [List.take_set_of_le (Nat.le_refl _)]
              · simp
            · dsimp only
              rw [List.drop_set_of_lt (by omega), ← List.drop_drop, g3, List.drop_drop]
          · have he2 : l[j] = n := by
              cases hq : (l[j] == n) with
              | true => exact (nest_eq _ _).1 hq
              | false => rw [hq] at hc; cases hc
            refine Ok.some ⟨m - 1, by omega, k, j + 1, rfl, rfl, by omega, by omega, g1, ?_, ?_⟩
            · dsimp only
              rw [tk, outF_app, he2, outF_hit, List.append_nil, g2]
            · dsimp only
              rw [← List.drop_drop, g3, List.drop_drop]
        · have hd := of_decide_eq_false hd
          refine Ok.some ⟨k, rfl, by dsimp only; omega, ?_⟩
          dsimp only
          rw [g2, List.take_of_length_le (by omega)]
      · rintro ⟨q, v⟩ ⟨k, hk, k1, k2⟩
        dsimp only at hk k1 k2 ⊢
        subst hk
        rw [show (q.length : Int) = ((q.length : Nat) : Int) from rfl, sub_get k1 (Nat.le_refl _), Option.bind_some]
        have hcl : (clearP (⟨e0, e0⟩ : T_impl_Nest) q (k : Int) (q.length : Int)).length = q.length := clearP_len (by simp; omega)
        rw [show (0 : Int) = ((0 : Nat) : Int) from rfl, sub_get (Nat.zero_le _) (by omega), Option.bind_some]
        refine Ok.some ?_
        rw [List.drop_zero, Nat.sub_zero, ← k2]
        unfold clearP
        rw [Int.toNat_natCast, List.take_append_of_le_length (by rw [List.length_take]; omega), List.take_take, Nat.min_self]
  obtain ⟨q, e, rfl⟩ := key
  exact e

theorem goodN_sz (h : goodN n = true) : szN n := by
  unfold goodN gB at h
  rw [Bool.and_eq_true, Bool.and_eq_true] at h
  have := (good_le h.1.1).2
  have := (good_le h.2).2
  unfold szN big
  omega
/-- The list with one nest more. -/
theorem put_both (hg : Good l) (hn : goodN n = true) : ∃ o : List T_impl_Nest, spec_l5With l n true = some o ∧ o.Pairwise nlt ∧ (∀ x, x ∈ o ↔ x ∈ l ∨ x = n) ∧ o.length ≤ 201 ∧ (o.length > l.length → n ∉ l) ∧
    ∀ {α : Type} (k : List T_impl_Nest → Option α), ((impl_Nest_x l).bind fun r5 => (impl_Nest_ r5 n).bind fun q => (match q with | (r12, r13) => cond (!r13) ((insO r5 r12 ([n] : List T_impl_Nest)).bind fun l15 => k l15) (k r5))) = k o := by
  have hl := hg.len
  obtain ⟨o, o1, o2, _, o4⟩ := with_ok (l := l) (n := n) (by omega) hg.sz (goodN_sz hn)
  obtain ⟨o5, o6⟩ := o4 hg.pw
  refine ⟨o, o1, o5, o6, by omega, fun h hm => ?_, fun k => ?_⟩
  · have : o = l := strict_eq nlt_irrefl nlt_trans o l o5 hg.pw fun x => by
      rw [o6]; exact ⟨fun h => h.elim id fun e => e ▸ hm, .inl⟩
    rw [this] at h; omega
  · have hx : impl_Nest_x l = some l := by unfold impl_Nest_x; rw [app_get (by simp; omega)]; simp
    rw [hx, Option.bind_some]
    obtain ⟨⟨v, f⟩, s1, i, s2, s3, s4, s5, s6⟩ := search_ok hg.pw (by omega) n
    dsimp only at s2 s4 s6
    subst s2
    rw [s1, Option.bind_some]
    dsimp only
    cases f with
    | true =>
      have hm := s4.1 rfl
      simp only [Bool.not_true, cond_false]
      congr 1
      exact strict_eq nlt_irrefl nlt_trans l o hg.pw o5 fun x => by
        rw [o6]; exact ⟨.inl, fun h => h.elim id fun e => e ▸ hm⟩
    | false =>
      simp only [Bool.not_false, cond_true]
      have hi : insO l (i : Int) [n] = some (l.take i ++ n :: l.drop i) := by
        unfold insO
        rw [if_pos ⟨rfl, by omega, by omega, by omega⟩, Int.toNat_natCast]
        simp
      rw [hi, Option.bind_some]
      congr 1
      refine strict_eq nlt_irrefl nlt_trans _ o (ins_strict (by rw [List.take_append_drop]; exact hg.pw) s5 (s6 rfl)) o5 fun x => ?_
      rw [o6]
      have hx : x ∈ l ↔ x ∈ l.take i ∨ x ∈ l.drop i := by rw [← List.mem_append, List.take_append_drop]
      rw [hx]
      simp only [List.mem_append, List.mem_cons]
      constructor
      · rintro (h | h | h)
        · exact .inl (.inl h)
        · exact .inr h
        · exact .inl (.inr h)
      · rintro ((h | h) | h)
        · exact .inl h
        · exact .inr (.inr h)
        · exact .inr (.inl h)

/-- AddNest, both sides. -/
theorem add_both (ix : List T_impl_Reach) (hs : ∀ x, x ∈ l → szN x) (hn : szN n) :
    (impl_AddNest l ix n = some ([], []) ∧ spec_AddNest l ix n = some ([], [])) ∨
    (Good l ∧ goodN n = true ∧ ∃ (o : List T_impl_Nest) (R : List T_impl_Reach), Good o ∧ (∀ x, x ∈ o ↔ x ∈ l ∨ x = n) ∧ (o.length > l.length → n ∉ l) ∧ reach o = some R ∧ impl_AddNest l ix n = some (o, R) ∧ spec_AddNest l ix n = some (o, R)) := by
  unfold impl_AddNest spec_AddNest spec_l5Change
  rw [good_impl, good_spec hs, Option.bind_some, Option.bind_some, goodN_impl, group_spec, spec_good]
  cases h1 : gNb l with
  | false => exact .inl ⟨rfl, rfl⟩
  | true =>
    have hg := gNb_iff.1 h1
    cases h2 : goodN n with
    | false =>
      left
      refine ⟨rfl, ?_⟩
      unfold goodN at h2
      cases h3 : gB n.Group_ with
      | false => rfl
      | true =>
        rw [h3, Bool.true_and] at h2
        rw [h2]; rfl
    | true =>
      have h3 := h2
      unfold goodN at h3
      rw [Bool.and_eq_true] at h3
      rw [h3.1, h3.2]
      obtain ⟨o, p1, p2, p3, p4, p5, p6⟩ := put_both hg h2
      simp only [Bool.not_true, Bool.not_false, gdO, cond_true, Option.bind_some, Bool.or_false, cond_false, p1, p6]
      have hso : ∀ x, x ∈ o → szN x := fun x hx => ((p3 x).1 hx).elim (hs x) fun e => e ▸ hn
      unfold impl_AddNest_j1
      rw [good_impl, good_spec hso, Option.bind_some, Option.bind_some]
      cases h4 : gNb o with
      | false => exact .inl ⟨rfl, rfl⟩
      | true =>
        have hgo := gNb_iff.1 h4
        obtain ⟨R, r1, r2, _⟩ := both_reach hgo
        right
        refine ⟨hg, trivial, o, R, hgo, p3, p5, r1, ?_, ?_⟩
        · simp only [Bool.not_true, cond_false]
          rw [r1]; rfl
        · simp only [Bool.not_true, cond_false]
          rw [r2]; rfl
theorem Good.out (hg : Good l) : Good (outF n l) := ⟨Nat.le_trans outF_len hg.len, hg.pw.sublist outF_sub, fun x hx => hg.nm x (outF_mem.1 hx).1⟩
theorem drop_ok (ix : List T_impl_Reach) (hg : Good l) (hn : goodN n = true) : ∃ R, impl_DropNest l ix n = some (outF n l, R) ∧ reach (outF n l) = some R := by
  have hl := hg.len
  obtain ⟨R, r1, _⟩ := both_reach (hg.out (n := n))
  have hx : impl_Nest_x l = some l := by unfold impl_Nest_x; rw [app_get (by simp; omega)]; simp
  refine ⟨R, ?_, r1⟩
  unfold impl_DropNest
  rw [good_impl, gNb_iff.2 hg, Option.bind_some, goodN_impl, hn, hx, Option.bind_some, delete_ok (by omega), Option.bind_some, r1]
  rfl
end
end Go.G36.RC
/- What is drawn. -/
namespace Go.G36.RC
set_option linter.all false
open Go Go.G36 Go.Proofs Go.G36.RcAnc

def sm (x : T_impl_Nest) : Prop := x.Group_.size ≤ 100000 ∧ x.Member_.size ≤ 100000
theorem sm_sz {x : T_impl_Nest} (h : sm x) : szN x := by
  have := h.1
  have := h.2
  unfold szN big
  omega
theorem nest_ok {n : Nat} {s : T_spec_l1Cur} (h : Cur n s) (hn : n + 4 < lim) : Ok (spec_l1Cur_nest s) fun q => Cur (n + 4) q.2 ∧ sm q.1 := by
  unfold spec_l1Cur_nest
  refine Ok.bind (of_ok _ (by decide) h (by omega)) ?_
  rintro ⟨r1, o2⟩ ⟨c1, c2⟩
  dsimp only at c1 c2 ⊢
  refine Ok.bind (of_ok _ (by decide) c1 (by omega)) ?_
  rintro ⟨r4, o5⟩ ⟨d1, d2⟩
  dsimp only at d1 d2
  exact Ok.some ⟨d1, by show r1.size ≤ _; omega, by show r4.size ≤ _; omega⟩
theorem with_sm {l : List T_impl_Nest} {x : T_impl_Nest} (hl : l.length ≤ 999) (hs : ∀ y, y ∈ l → sm y) (hx : sm x) : Ok (spec_l5With l x true) fun o => o.length ≤ l.length + 1 ∧ ∀ y, y ∈ o → sm y := by
  refine Ok.mono (with_ok (by omega) (fun y hy => sm_sz (hs y hy)) (sm_sz hx)) fun o ho => ⟨ho.1, fun y hy => (ho.2.1 y hy).elim (hs y) fun e => e ▸ hx⟩
theorem nests_l1 {n : Nat} {s : T_spec_l1Cur} {r : Int} (h : Cur n s) (hr : 0 ≤ r) (hr2 : r < 12) (hn : n + 100 < lim) : Ok (loopO spec_l1Cur_nests_l1 (s, [], r)) fun q => Cur (n + 60) q.1 ∧ q.2.length ≤ 12 ∧ ∀ y, y ∈ q.2 → sm y := by
  obtain ⟨k, rfl⟩ : ∃ k : Nat, r = (k : Int) := ⟨r.toNat, by omega⟩
  refine Ok.loop (fun m st => st.2.2 = (m : Int) ∧ st.2.1.length + m ≤ 12 ∧ (∀ y, y ∈ st.2.1 → sm y) ∧ Cur (n + 4 * (12 - m)) st.1) ?_ (n := k) ⟨rfl, by simp; omega, fun y h => (by cases h), h.mono (by omega)⟩
  rintro m ⟨b, l, v⟩ ⟨hv, h1, h2, h3⟩
  dsimp only at hv h1 h2 h3
  subst hv
  unfold spec_l1Cur_nests_l1
  dsimp only
  refine Ok.cond (fun hd => ?_) (fun hd => ?_)
  · have hd := of_decide_eq_true hd
    refine Ok.bind (nest_ok h3 (by omega)) ?_
    rintro ⟨x, o⟩ ⟨c1, c2⟩
    dsimp only at c1 c2 ⊢
    refine Ok.bind (with_sm (by omega) h2 c2) fun l' hl' => ?_
    refine Ok.some ⟨m - 1, by omega, ?_, by dsimp only; omega, hl'.2, c1.mono (by omega)⟩
    dsimp only
    rw [IntWalk.i64_in _ (by omega)]; omega
  · exact Ok.some ⟨h3.mono (by omega), by dsimp only; omega, h2⟩
theorem cat_ok {r s : ByteArray} (h1 : r.size ≤ 1000) (h2 : s.size ≤ 1000) : Ok (cat r s) fun x => x.size ≤ 2000 := by
  rw [cat_get (by omega)]
  exact Ok.some (by rw [ByteArray.size_append]; omega)
theorem nests_l2 {r : Int} (hr : 0 ≤ r) (hr2 : r ≤ 210) : Ok (loopO spec_l1Cur_nests_l2 ([], r)) fun q => q.length ≤ 300 ∧ ∀ y, y ∈ q → sm y := by
  obtain ⟨k, rfl⟩ : ∃ k : Nat, r = (k : Int) := ⟨r.toNat, by omega⟩
  refine Ok.loop (fun m st => st.2 = (m : Int) ∧ st.1.length + m ≤ 210 ∧ (∀ y, y ∈ st.1 → sm y)) ?_ (n := k) ⟨rfl, by simp; omega, fun y h => (by cases h)⟩
  rintro m ⟨l, v⟩ ⟨hv, h1, h2⟩
  dsimp only at hv h1 h2
  subst hv
  unfold spec_l1Cur_nests_l2
  dsimp only
  refine Ok.cond (fun hd => ?_) (fun hd => ?_)
  · have hd := of_decide_eq_true hd
    have t1 : Int.tmod (m : Int) 30 = ((m % 30 : Nat) : Int) := by rw [Int.tmod_eq_emod_of_nonneg (by omega)]; omega
    have t2 : Int.tmod (m : Int) 2 = ((m % 2 : Nat) : Int) := by rw [Int.tmod_eq_emod_of_nonneg (by omega)]; omega
    have t3 : IntKind.i64.wrap ((m : Int) * 7) = ((m * 7 : Nat) : Int) := by rw [IntWalk.i64_in _ (by omega)]; omega
    have t4 : Int.tmod ((m * 7 : Nat) : Int) 90 = ((m * 7 % 90 : Nat) : Int) := by rw [Int.tmod_eq_emod_of_nonneg (by omega)]; omega
    rw [t1, t2, t3, t4]
    refine Ok.bind (size_ok (by omega) (by omega)) fun r1 h3 => ?_
    refine Ok.bind (cat_ok (by decide) h3) fun s1 h4 => ?_
    refine Ok.bind (Q := fun x : ByteArray => x.size ≤ 1000) ?_ fun e h5 => ?_
    · rcases Nat.mod_two_eq_zero_or_one m with e | e <;> rw [e]
      · exact ⟨_, rfl, by decide⟩
      · exact ⟨_, rfl, by decide⟩
    refine Ok.bind (size_ok (by omega) (by omega)) fun r2 h6 => ?_
    refine Ok.bind (cat_ok h5 h6) fun s2 h7 => ?_
    refine Ok.bind (with_sm (x := ⟨s1, s2⟩) (by omega) h2 ⟨by show s1.size ≤ _; omega, by show s2.size ≤ _; omega⟩) fun l' hl' => ?_
    refine Ok.some ⟨m - 1, by omega, ?_, by dsimp only; omega, hl'.2⟩
    dsimp only
    rw [IntWalk.i64_in _ (by omega)]; omega
  · exact Ok.some ⟨by omega, h2⟩
theorem mem_set {α : Type} {P : α → Prop} {l : List α} {i : Nat} {a : α} (h : ∀ x, x ∈ l → P x) (ha : P a) : ∀ x, x ∈ l.set i a → P x := fun x hx => by
  rcases List.mem_or_eq_of_mem_set hx with h1 | h1
  · exact h x h1
  · exact h1 ▸ ha
theorem nests_ok {n : Nat} {s : T_spec_l1Cur} (h : Cur n s) (hn : n + 200 < lim) : Ok (spec_l1Cur_nests 12 s) fun q => Cur (n + 100) q.2 ∧ q.1.length ≤ 300 ∧ ∀ y, y ∈ q.1 → sm y := by
  unfold spec_l1Cur_nests
  refine Ok.bind (pick_ok 12 h (by omega)) ?_
  rintro ⟨r1, o2⟩ ⟨c1, c2, c3⟩
  dsimp only at c1 c2 c3 ⊢
  refine Ok.bind (nests_l1 c1 c2 (c3 (by omega)) (by omega)) ?_
  rintro ⟨b7, l8⟩ ⟨d1, d2, d3⟩
  dsimp only at d1 d2 d3 ⊢
  refine Ok.bind (pick_ok 24 d1 (by omega)) ?_
  rintro ⟨r9, o10⟩ ⟨e1, e2, e3⟩
  dsimp only at e1 e2 e3 ⊢
  refine Ok.cond (fun _ => ?_) (fun _ => ?_)
  · refine Ok.cond (fun hd => ?_) (fun hd => ?_)
    · have hd := of_decide_eq_true hd
      refine Ok.bind (idx_ok (by omega) (by omega)) fun a ha => ?_
      refine Ok.bind (idx_ok (by omega) (by omega)) fun b hb => ?_
      refine Ok.bind (idx_ok (by omega) (by omega)) fun c hc => ?_
      refine Ok.bind (idx_ok (by omega) (by simp; omega)) fun d hdd => ?_
      exact Ok.some ⟨e1.mono (by omega), by simp; omega, mem_set (mem_set d3 (d3 b hb)) (d3 a ha)⟩
    · exact Ok.some ⟨e1.mono (by omega), by dsimp only; omega, d3⟩
  · refine Ok.cond (fun _ => ?_) (fun _ => ?_)
    · refine Ok.cond (fun hd => ?_) (fun hd => ?_)
      · have hd := of_decide_eq_true hd
        refine Ok.bind (of_ok _ (by decide) e1 (by omega)) ?_
        rintro ⟨r20, o21⟩ ⟨f1, f2⟩
        dsimp only at f1 f2 ⊢
        refine Ok.bind (idx_ok (by omega) (by omega)) fun a ha => ?_
        exact Ok.some ⟨f1.mono (by omega), by simp; omega, mem_set d3 ⟨by show r20.size ≤ _; omega, (d3 a ha).2⟩⟩
      · exact Ok.some ⟨e1.mono (by omega), by dsimp only; omega, d3⟩
    · refine Ok.cond (fun _ => ?_) (fun _ => ?_)
      · refine Ok.bind (pick_ok 3 e1 (by omega)) ?_
        rintro ⟨r25, o26⟩ ⟨f1, f2, f3⟩
        dsimp only at f1 f2 f3 ⊢
        have := f3 (by omega)
        rw [IntWalk.i64_in _ (by omega)]
        refine Ok.bind (nests_l2 (by omega) (by omega)) fun q hq => ?_
        exact Ok.some ⟨f1.mono (by omega), hq.1, hq.2⟩
      · exact Ok.some ⟨e1.mono (by omega), by dsimp only; omega, d3⟩
theorem reachOf_spec {l : List T_impl_Nest} (hs : ∀ x, x ∈ l → szN x) : Ok (spec_ReachOf l) fun _ => True := by
  unfold spec_ReachOf
  rw [good_spec hs, Option.bind_some]
  refine Ok.cond (fun _ => Ok.some trivial) fun h => ?_
  have hg : Good l := gNb_iff.1 (by simpa using h)
  obtain ⟨R, _, r2, _⟩ := both_reach hg
  rw [r2]
  exact Ok.some trivial
theorem draw_ok {code : List Int} (h : ∀ b, b ∈ code → 0 ≤ b ∧ b ≤ 255) : Ok (spec_DrawAddNest code) fun q => q.1.length ≤ 300 ∧ (∀ x, x ∈ q.1 → szN x) ∧ szN q.2.2 := by
  unfold spec_DrawAddNest
  refine Ok.bind (Q := fun q => q.1.length ≤ 300 ∧ (∀ x, x ∈ q.1 → szN x) ∧ szN q.2.2) ?_ fun q hq => Ok.some hq
  unfold spec_l5Drawn
  have hc : Cur 0 (⟨code, 0, 0⟩ : T_spec_l1Cur) := ⟨by show (0 : Int) ≤ 0; omega, by show (0 : Int) ≤ _; omega, h⟩
  refine Ok.bind (nests_ok hc (by decide)) ?_
  rintro ⟨r1, o2⟩ ⟨c1, c2, c3⟩
  dsimp only at c1 c2 c3 ⊢
  refine Ok.bind (nest_ok c1 (by decide)) ?_
  rintro ⟨r4, o5⟩ ⟨d1, d2⟩
  dsimp only at d1 d2 ⊢
  refine Ok.bind (one_ok 20 d1 (by decide)) ?_
  rintro ⟨r21, o22⟩ e1
  dsimp only at e1 ⊢
  have j2 : ∀ (b : T_spec_l1Cur) (x : T_impl_Nest), sm x → Ok (spec_l5Drawn_j2 r1 b x) fun q => q.1.length ≤ 300 ∧ (∀ x, x ∈ q.1 → szN x) ∧ szN q.2.2 := fun b x hx => by
    unfold spec_l5Drawn_j2
    refine Ok.bind (reachOf_spec fun y hy => sm_sz (c3 y hy)) fun R _ => ?_
    exact Ok.some ⟨c2, fun y hy => sm_sz (c3 y hy), sm_sz hx⟩
  have j1 : ∀ (x : T_impl_Nest), sm x → Ok (spec_l5Drawn_j1 r1 o22 x) fun q => q.1.length ≤ 300 ∧ (∀ x, x ∈ q.1 → szN x) ∧ szN q.2.2 := fun x hx => by
    unfold spec_l5Drawn_j1
    refine Ok.bind (one_ok 3 e1 (by decide)) ?_
    rintro ⟨r13, o14⟩ f1
    dsimp only at f1 ⊢
    refine Ok.cond (fun hd => ?_) (fun hd => j2 _ _ hx)
    rw [Bool.and_eq_true, decide_eq_true_eq] at hd
    refine Ok.bind (pick_ok (r1.length : Int) f1 (by decide)) ?_
    rintro ⟨r16, o17⟩ ⟨g1, g2, g3⟩
    dsimp only at g1 g2 g3 ⊢
    refine Ok.bind (idx_ok g2 (g3 (by omega))) fun y hy => j2 _ _ (c3 y hy)
  exact Ok.cond (fun _ => j1 _ ⟨d2.1, by show e0.size ≤ _; decide⟩) fun _ => j1 _ d2
end Go.G36.RC
/- The members and groups that are told; loops; ways; the law. -/
namespace Go.G36.RC
set_option linter.all false
open Go Go.G36 Go.Proofs Go.G36.RcAnc

theorem zNests_refl {l : List T_impl_Nest} (hl : l.length ≤ 100000) : laws_zNests l l = some true := by
  unfold laws_zNests
  rw [show ((l.length : Int) != (l.length : Int)) = false by simp, cond_false]
  have := loop_allI l (laws_zNests_l1 l l) (fun _ _ => true) (fun i a ha => ?_) (by unfold laws_zNests_l1; simp)
  · rw [this, allI_all, List.all_eq_true.2 (fun _ _ => rfl)]; rfl
  · have hil := (List.getElem?_eq_some_iff.1 ha).1
    unfold laws_zNests_l1
    dsimp only
    rw [ltn hil, cond_true, idx_nat, ha, Option.bind_some, Option.bind_some, (nest_eq a a).2 rfl, wrap_succ (by omega)]
    rfl
theorem reach_beq (a : T_impl_Reach) : (a == a) = true := by
  show ((a.Group_.toList == a.Group_.toList) && ((a.Member_.toList == a.Member_.toList) && ((a.Steps_ == a.Steps_) && true))) = true
  simp
theorem zReach_refl {l : List T_impl_Reach} (hl : l.length ≤ 100000) : laws_zReach l l = some true := by
  unfold laws_zReach
  rw [show ((l.length : Int) != (l.length : Int)) = false by simp, cond_false]
  have := loop_allI l (laws_zReach_l1 l l) (fun _ _ => true) (fun i a ha => ?_) (by unfold laws_zReach_l1; simp)
  · rw [this, allI_all, List.all_eq_true.2 (fun _ _ => rfl)]; rfl
  · have hil := (List.getElem?_eq_some_iff.1 ha).1
    unfold laws_zReach_l1
    dsimp only
    rw [ltn hil, cond_true, idx_nat, ha, Option.bind_some, Option.bind_some, reach_beq, wrap_succ (by omega)]
    rfl
theorem zTexts_refl {l : List ByteArray} (hl : l.length ≤ 100000) : laws_zTexts l l = some true := by
  unfold laws_zTexts
  rw [show ((l.length : Int) != (l.length : Int)) = false by simp, cond_false]
  have := loop_allI l (laws_zTexts_l1 l l) (fun _ _ => true) (fun i a ha => ?_) (by unfold laws_zTexts_l1; simp)
  · rw [this, allI_all, List.all_eq_true.2 (fun _ _ => rfl)]; rfl
  · have hil := (List.getElem?_eq_some_iff.1 ha).1
    unfold laws_zTexts_l1
    dsimp only
    rw [ltn hil, cond_true, idx_nat, ha, Option.bind_some, Option.bind_some, beq_self_eq_true, wrap_succ (by omega)]
    rfl
theorem hasNest {l : List T_impl_Nest} {x : T_impl_Nest} (hl : l.length ≤ 100000) (h : x ∈ l) : spec_HasNest l x = some true := by
  unfold spec_HasNest
  have := loop_find l (spec_HasNest_l1 l x) (fun a => a == x) (fun _ => true) (fun i a ha => ?_) (by unfold spec_HasNest_l1; simp)
  · rw [this, Option.bind_some]
    cases hf : l.find? (fun a => a == x) with
    | none =>
      have := List.find?_eq_none.1 hf x h
      rw [(nest_eq x x).2 rfl] at this
      simp at this
    | some a => rfl
  · have hil := (List.getElem?_eq_some_iff.1 ha).1
    unfold spec_HasNest_l1
    dsimp only
    rw [ltn hil, cond_true, idx_nat, ha, Option.bind_some, wrap_succ (by omega)]
    cases (a == x) <;> rfl
theorem hasText {l : List ByteArray} {x : ByteArray} (hl : l.length ≤ 1000000) (h : x ∈ l) : spec_HasText l x = some true := by
  unfold spec_HasText
  rw [has_eq l x (by omega), decide_eq_true h]; rfl
theorem isGroup (x : ByteArray) : spec_IsGroup x = some (gB x) := by
  unfold spec_IsGroup
  rw [group_spec]; rfl

section
variable {l : List T_impl_Nest} {R : List T_impl_Reach} (hg : Good l) (hR : reach l = some R) (hRl : R.length ≤ 40000)
include hg hR hRl
theorem reachOf_impl : impl_ReachOf l = some R := by
  unfold impl_ReachOf
  rw [good_impl, gNb_iff.2 hg, hR]; rfl
theorem members_ok (g : ByteArray) : impl_MembersOf l g = some (R.flatMap fun e => cond ((e.Group_.toList == g.toList) && !(gB e.Member_)) [e.Member_] []) := by
  unfold impl_MembersOf
  rw [reachOf_impl hg hR hRl, Option.bind_some]
  have := loop_app 1000000 R (impl_MembersOf_l1 g R) (fun e => cond ((e.Group_.toList == g.toList) && !(gB e.Member_)) [e.Member_] []) [] 1 (fun e _ => by cases ((e.Group_.toList == g.toList) && !(gB e.Member_)) <;> simp) (by simp; omega) (fun i a x ha hx => ?_) (fun x => by unfold impl_MembersOf_l1; simp)
  · rw [this]; rfl
  · have hil := (List.getElem?_eq_some_iff.1 ha).1
    unfold impl_MembersOf_l1
    dsimp only
    rw [ltn hil, cond_true, idx_nat, ha, Option.bind_some, group_impl, gdO_some, Option.bind_some, wrap_succ (by omega), app_get (by simp; omega), Option.bind_some]
    cases (a.Group_.toList == g.toList) <;> cases gB a.Member_ <;> simp
theorem groupsOf_ok (m : ByteArray) : impl_GroupsOf l m = some (R.flatMap fun e => cond (e.Member_.toList == m.toList) [e.Group_] []) := by
  unfold impl_GroupsOf
  rw [reachOf_impl hg hR hRl, Option.bind_some]
  have := loop_app 1000000 R (impl_GroupsOf_l1 m R) (fun e => cond (e.Member_.toList == m.toList) [e.Group_] []) [] 1 (fun e _ => by cases (e.Member_.toList == m.toList) <;> simp) (by simp; omega) (fun i a x ha hx => ?_) (fun x => by unfold impl_GroupsOf_l1; simp)
  · rw [this]; rfl
  · have hil := (List.getElem?_eq_some_iff.1 ha).1
    unfold impl_GroupsOf_l1
    dsimp only
    rw [ltn hil, cond_true, idx_nat, ha, Option.bind_some, wrap_succ (by omega), app_get (by simp; omega), Option.bind_some]
    cases (a.Member_.toList == m.toList) <;> simp
theorem loops_impl : impl_Loops l = some (R.flatMap fun e => cond (e.Group_.toList == e.Member_.toList) [e.Group_] []) := by
  unfold impl_Loops
  rw [reachOf_impl hg hR hRl, Option.bind_some]
  have := loop_app 1000000 R (impl_Loops_l1 R) (fun e => cond (e.Group_.toList == e.Member_.toList) [e.Group_] []) [] 1 (fun e _ => by cases (e.Group_.toList == e.Member_.toList) <;> simp) (by simp; omega) (fun i a x ha hx => ?_) (fun x => by unfold impl_Loops_l1; simp)
  · rw [this]; rfl
  · have hil := (List.getElem?_eq_some_iff.1 ha).1
    unfold impl_Loops_l1
    dsimp only
    rw [ltn hil, cond_true, idx_nat, ha, Option.bind_some, wrap_succ (by omega), app_get (by simp; omega), Option.bind_some]
    cases (a.Group_.toList == a.Member_.toList) <;> simp
end
section
variable {l : List T_impl_Nest} (hg : Good l)
include hg
open Classical in
noncomputable def loopB (l : List T_impl_Nest) (g : ByteArray) : List ByteArray := if ∃ j, MinW l g g j then [g] else []
theorem loops_l2 (g : ByteArray) (l0 : List ByteArray) (h0 : l0.length ≤ 1000000) : loopO (spec_Loops_l2 g (ringsV l g)) (l0, 0) = some (l0 ++ loopB l g) := by
  have hr := (ringsV_eq hg.len g).2
  have hrl := hr.len
  by_cases hx : ∃ j, MinW l g g j
  · obtain ⟨j, hj⟩ := hx
    have hB : loopB l g = [g] := if_pos ⟨j, hj⟩
    rw [hB]
    obtain ⟨j, rfl⟩ : ∃ q, j = q + 1 := ⟨j - 1, by have := hj.1; omega⟩
    have jl : j < (ringsV l g).length := by
      obtain ⟨r, h, _⟩ := (hr.iff j g).2 hj
      exact (List.getElem?_eq_some_iff.1 h).1
    have key : Ok (loopO (spec_Loops_l2 g (ringsV l g)) (l0, 0)) fun q => q = l0 ++ [g] := by
      refine Ok.loop (fun n st => ∃ i : Nat, i + n = (ringsV l g).length ∧ st.2 = (i : Int) ∧ st.1 = if j < i then l0 ++ [g] else l0) ?_ (n := (ringsV l g).length) ⟨0, by omega, rfl, by simp⟩
      rintro n ⟨x, v⟩ ⟨i, hi, hv, hx⟩
      dsimp only at hv hx
      subst hv
      unfold spec_Loops_l2
      dsimp only
      refine Ok.cond (fun hd => ?_) (fun hd => ?_)
      · have hil : i < (ringsV l g).length := by have := of_decide_eq_true hd; omega
        rw [idx_nat, List.getElem?_eq_getElem hil, Option.bind_some, has_eq _ _ (by have := hr.each _ (List.getElem_mem hil); omega), Option.bind_some, wrap_succ (by omega)]
        have hin : g ∈ (ringsV l g)[i] ↔ i = j := by
          constructor
          · intro h
            have := ((hr.iff i g).1 ⟨_, List.getElem?_eq_getElem hil, h⟩).uniq hj
            omega
          · rintro rfl
            obtain ⟨r, h1, h2⟩ := (hr.iff i g).2 hj
            rw [List.getElem?_eq_getElem hil] at h1
            rw [Option.some.inj h1]; exact h2
        by_cases hij : i = j
        · rw [decide_eq_true (hin.2 hij), cond_true, hx, if_neg (by omega), app_get (by simp; omega), Option.bind_some]
          refine Ok.some ⟨n - 1, by omega, i + 1, by omega, rfl, ?_⟩
          dsimp only
          rw [if_pos (by omega)]
        · rw [decide_eq_false (fun h => hij (hin.1 h)), cond_false]
          refine Ok.some ⟨n - 1, by omega, i + 1, by omega, rfl, ?_⟩
          dsimp only
          rw [hx]
          by_cases hji : j < i
          · rw [if_pos hji, if_pos (by omega)]
          · rw [if_neg hji, if_neg (by omega)]
      · have hd := of_decide_eq_false hd
        refine Ok.some ?_
        rw [hx, if_pos (by omega)]
    obtain ⟨q, e, rfl⟩ := key
    exact e
  · have hB : loopB l g = [] := if_neg hx
    rw [hB, List.append_nil]
    have := loop_app 1000000 (ringsV l g) (spec_Loops_l2 g (ringsV l g)) (fun _ => []) l0 0 (fun _ _ => Nat.le_refl _) (by omega) (fun i a x ha hx2 => ?_) (fun x => by unfold spec_Loops_l2; simp)
    · rw [this]; simp
    · have hil := (List.getElem?_eq_some_iff.1 ha).1
      unfold spec_Loops_l2
      dsimp only
      rw [ltn hil, cond_true, idx_nat, ha, Option.bind_some, has_eq _ _ (by have := hr.each _ (List.mem_of_getElem? ha); omega), Option.bind_some, wrap_succ (by omega), decide_eq_false (fun h => hx ⟨_, (hr.iff i g).1 ⟨a, ha, h⟩⟩), cond_false, List.append_nil]
theorem loops_spec : spec_Loops l = some ((groupsV l).flatMap (loopB l)) := by
  obtain ⟨g1, g2, g3, g4⟩ := groups_ok hg
  unfold spec_Loops
  rw [good_spec hg.sz, gNb_iff.2 hg, Option.bind_some, g1]
  simp only [Bool.not_true, cond_false, Option.bind_some]
  have hB : ∀ a, (loopB l a).length ≤ 1 := fun a => by unfold loopB; split <;> simp
  have := loop_app 1000000 (groupsV l) (spec_Loops_l1 l (groupsV l)) (loopB l) [] 1 (fun a _ => hB a) (by simp; omega) (fun i a x ha hx => ?_) (fun x => by unfold spec_Loops_l1; simp)
  · rw [this]; rfl
  · have hil := (List.getElem?_eq_some_iff.1 ha).1
    obtain ⟨r1, _⟩ := ringsV_eq hg.len a
    unfold spec_Loops_l1
    dsimp only
    rw [ltn hil, cond_true, idx_nat, ha, Option.bind_some, r1, Option.bind_some, loops_l2 hg a x hx, Option.bind_some, wrap_succ (by omega)]
theorem loops_both {R : List T_impl_Reach} (hR : reach l = some R) (hRl : R.length ≤ 40000) (hp : R.Pairwise rlt) (hi : ∀ r, r ∈ R ↔ IsR l r) : ∃ q, impl_Loops l = some q ∧ spec_Loops l = some q ∧ q.length ≤ 100000 := by
  obtain ⟨g1, g2, g3, g4⟩ := groups_ok hg
  have e : R.flatMap (fun e => cond (e.Group_.toList == e.Member_.toList) [e.Group_] []) = (groupsV l).flatMap (loopB l) := by
    have mA : ∀ (e : T_impl_Reach) x, x ∈ cond (e.Group_.toList == e.Member_.toList) [e.Group_] [] ↔ e.Group_ = x ∧ e.Member_ = x := fun e x => by
      cases h : (e.Group_.toList == e.Member_.toList) with
      | true =>
        have := (tl_beq _ _).1 h
        simp only [cond_true, List.mem_singleton]
        constructor
        · rintro rfl; exact ⟨rfl, this.symm⟩
        · rintro ⟨h1, _⟩; exact h1.symm
      | false =>
        simp only [cond_false]
        constructor
        · intro h; cases h
        · rintro ⟨h1, h2⟩; rw [(tl_beq _ _).2 (h1.trans h2.symm)] at h; cases h
    have mB : ∀ a x, x ∈ loopB l a ↔ x = a ∧ ∃ j, MinW l a a j := fun a x => by
      unfold loopB
      split
      · rename_i h; simp [h]
      · rename_i h; simp [h]
    refine strict_eq tlt_irrefl tlt_trans _ _ (flat_strict _ _ (fun r _ => ?_) (hp.imp fun {a b} hab x hx y hy => ?_)) (flat_strict _ _ (fun r _ => ?_) (g2.imp fun {a b} hab x hx y hy => ?_)) fun x => ?_
    · cases (r.Group_.toList == r.Member_.toList) <;> simp
    · obtain ⟨h1, h2⟩ := (mA a x).1 hx
      obtain ⟨h3, h4⟩ := (mA b y).1 hy
      rcases hab with h | ⟨h, h'⟩
      · rw [← h1, ← h3]; exact h
      · rw [h2, h4] at h'; exact h'
    · unfold loopB; split <;> simp
    · rw [((mB a x).1 hx).1, ((mB b y).1 hy).1]; exact hab
    · rw [List.mem_flatMap, List.mem_flatMap]
      constructor
      · rintro ⟨r, h1, h2⟩
        obtain ⟨h3, h4⟩ := (mA r x).1 h2
        obtain ⟨⟨n, n1, n2⟩, q, _, q2⟩ := (hi r).1 h1
        rw [h3, h4] at q2
        exact ⟨x, (g3 x).2 ⟨n, n1, n2.trans h3⟩, (mB x x).2 ⟨rfl, q, q2⟩⟩
      · rintro ⟨a, h1, h2⟩
        obtain ⟨rfl, j, hj⟩ := (mB a x).1 h2
        exact ⟨⟨x, x, (j : Int)⟩, (hi _).2 ⟨(g3 x).1 h1, j, rfl, hj⟩, (mA _ x).2 ⟨rfl, rfl⟩⟩
  refine ⟨_, loops_impl hg hR hRl, by rw [loops_spec hg, e], ?_⟩
  have := flat_len (fun e : T_impl_Reach => cond (e.Group_.toList == e.Member_.toList) [e.Group_] []) 1 R fun a _ => by cases (a.Group_.toList == a.Member_.toList) <;> simp
  omega
theorem min_len {g m : ByteArray} {q : Nat} (h : MinW l g m q) : q ≤ 201 := by
  have hr := (ringsV_eq hg.len g).2
  obtain ⟨q, rfl⟩ : ∃ x, q = x + 1 := ⟨q - 1, by have := h.1; omega⟩
  obtain ⟨r, h1, _⟩ := (hr.iff q m).2 h
  have := (List.getElem?_eq_some_iff.1 h1).1
  have := hr.len
  omega
theorem law_l2 {g m : ByteArray} {q : Nat} {w : List ByteArray} (hw : IsWay l g m q w) (hq : q ≤ 201) : loopO (laws_FnReached_l2 l w) 1 = some (.inl ()) := by
  have hl := hg.len
  have hwl := hw.len
  have key : Ok (loopO (laws_FnReached_l2 l w) 1) fun q => q = .inl () := by
    refine Ok.loop (fun n v => ∃ i : Nat, v = ((i + 1 : Nat) : Int) ∧ i + 1 + n = w.length) ?_ (n := w.length - 1) ⟨0, rfl, by omega⟩
    rintro n v ⟨i, rfl, hi⟩
    unfold laws_FnReached_l2
    dsimp only
    refine Ok.cond (fun hd => ?_) (fun hd => Ok.some rfl)
    have hil : i + 1 < w.length := by have := of_decide_eq_true hd; omega
    have hp : IntKind.i64.wrap (((i + 1 : Nat) : Int) - 1) = (i : Int) := by rw [IntWalk.i64_in _ (by omega)]; omega
    rw [hp, idx_nat, List.getElem?_eq_getElem (by omega), Option.bind_some, idx_nat, List.getElem?_eq_getElem hil, Option.bind_some, hasNest (by omega) (hw.chain i _ _ (List.getElem?_eq_getElem (by omega)) (List.getElem?_eq_getElem hil)), Option.bind_some, wrap_succ (by omega)]
    exact Ok.some ⟨n - 1, by omega, i + 1, rfl, by omega⟩
  obtain ⟨q, e, rfl⟩ := key
  exact e
theorem law_l1 {R : List T_impl_Reach} (hR : reach l = some R) (hRl : R.length ≤ 40000) (hi : ∀ r, r ∈ R ↔ IsR l r) : loopO (laws_FnReached_l1 l R) 0 = some (.inl ()) := by
  have key : Ok (loopO (laws_FnReached_l1 l R) 0) fun q => q = .inl () := by
    refine Ok.loop (fun n v => ∃ i : Nat, v = (i : Int) ∧ i + n = R.length) ?_ (n := R.length) ⟨0, rfl, by omega⟩
    rintro n v ⟨i, rfl, hin⟩
    unfold laws_FnReached_l1
    dsimp only
    refine Ok.cond (fun hd => ?_) (fun hd => Ok.some rfl)
    have hil : i < R.length := by have := of_decide_eq_true hd; omega
    have hm : R[i] ∈ R := List.getElem_mem hil
    obtain ⟨hgr, q, hs, hq⟩ := (hi _).1 hm
    have hq2 := min_len hg hq
    rw [idx_nat, List.getElem?_eq_getElem hil, Option.bind_some]
    refine Ok.cond (fun _ => Ok.some rfl) (fun _ => ?_)
    obtain ⟨w, w1, hw⟩ := way_ok hg (by omega) hq
    have hwl := hw.len
    have e1 : ((w.length : Int) != IntKind.i64.wrap (R[i].Steps_ + 1)) = false := by
      rw [hs, wrap_succ (by omega), hwl]; simp
    rw [w1, Option.bind_some, e1]
    simp only [Bool.not_false, gdO, cond_true, Bool.false_or]
    rw [show (0 : Int) = ((0 : Nat) : Int) from rfl, idx_nat, hw.hd, Option.bind_some, beq_self_eq_true]
    simp only [Bool.not_true, Bool.not_false, cond_true, Bool.false_or]
    rw [hs, idx_nat, hw.last, Option.bind_some, beq_self_eq_true]
    simp only [Bool.not_true, cond_false]
    rw [law_l2 hg hw hq2, Option.bind_some]
    dsimp only
    rw [isGroup, Option.bind_some, members_ok hg hR hRl, groupsOf_ok hg hR hRl, wrap_succ (by omega)]
    have hgo : Ok (some (Sum.inl ((i : Int) + 1) : Int ⊕ (Unit ⊕ Bool))) (fun x => match x with | .inl s' => ∃ m, m < n ∧ ∃ i : Nat, s' = (i : Int) ∧ i + m = R.length | .inr r => r = .inl ()) := Ok.some ⟨n - 1, by omega, i + 1, rfl, by omega⟩
    cases hgb : gB R[i].Member_ with
    | true => exact Ok.mono hgo fun x hx => by rcases x with x | x <;> exact hx
    | false =>
      have h1 : R[i].Member_ ∈ R.flatMap fun e => cond ((e.Group_.toList == R[i].Group_.toList) && !(gB e.Member_)) [e.Member_] [] := List.mem_flatMap.2 ⟨R[i], hm, by rw [beq_self_eq_true, hgb]; simp⟩
      have h2 : R[i].Group_ ∈ R.flatMap fun e => cond (e.Member_.toList == R[i].Member_.toList) [e.Group_] [] := List.mem_flatMap.2 ⟨R[i], hm, by rw [beq_self_eq_true]; simp⟩
      have f1 := flat_len (fun e : T_impl_Reach => cond ((e.Group_.toList == R[i].Group_.toList) && !(gB e.Member_)) [e.Member_] []) 1 R fun a _ => by cases ((a.Group_.toList == R[i].Group_.toList) && !(gB a.Member_)) <;> simp
      have f2 := flat_len (fun e : T_impl_Reach => cond (e.Member_.toList == R[i].Member_.toList) [e.Group_] []) 1 R fun a _ => by cases (a.Member_.toList == R[i].Member_.toList) <;> simp
      simp only [Bool.not_false, Bool.not_true, gdO, cond_true, Option.bind_some, hasText (l := R.flatMap fun e => cond ((e.Group_.toList == R[i].Group_.toList) && !(gB e.Member_)) [e.Member_] []) (by omega) h1, hasText (l := R.flatMap fun e => cond (e.Member_.toList == R[i].Member_.toList) [e.Group_] []) (by omega) h2, Bool.and_true, Bool.or_false, Bool.and_false, cond_false]
      exact Ok.mono hgo fun x hx => by rcases x with x | x <;> exact hx
  obtain ⟨q, e, rfl⟩ := key
  exact e
end
/-- THE LAW. -/
theorem law {code : List Int} (h : ∀ b, b ∈ code → 0 ≤ b ∧ b ≤ 255) : laws_FnReached code = some true := by
  unfold laws_FnReached
  cases decide ((code.length : Int) > 1048576) with
  | true => rfl
  | false =>
    rw [cond_false]
    obtain ⟨⟨l, ix, n⟩, d1, d2, d3, d4⟩ := draw_ok h
    dsimp only at d2 d3 d4
    rw [d1, Option.bind_some]
    dsimp only
    rcases add_both ix d3 d4 with ⟨a1, a2⟩ | ⟨hg, hn, o, R, hgo, ho, hlen, hR, a1, a2⟩
    · rw [a1, a2, Option.bind_some]
      dsimp only
      rw [Option.bind_some]
      dsimp only
      rw [zNests_refl (by simp), zReach_refl (by simp)]
      rfl
    · obtain ⟨R', b1, b2, b3, b4, b5⟩ := both_reach hgo
      obtain rfl : R = R' := Option.some.inj (hR.symm.trans b1)
      have hol := hgo.len
      rw [a1, a2, Option.bind_some]
      dsimp only
      rw [Option.bind_some]
      dsimp only
      rw [zNests_refl (by omega), zReach_refl (by omega)]
      simp only [Bool.not_true, Bool.not_false, gdO, cond_true, Option.bind_some, Bool.or_false, cond_false]
      cases ((o.length : Int) == 0) with
      | true => rfl
      | false =>
        rw [cond_false]
        obtain ⟨Q, c1, c2⟩ := drop_ok (n := n) R hgo hn
        rw [c1, Option.bind_some]
        dsimp only
        obtain ⟨lp, e1, e2, e3⟩ := loops_both hgo hR b5 b3 b4
        have fin : ((loopO (laws_FnReached_l1 o R) 0).bind fun q62 => (match q62 with | .inl _ => (impl_Loops o).bind fun r26 => (spec_Loops o).bind fun r28 => (laws_zTexts r26 r28).bind fun r30 => some r30 | .inr q25 => some q25)) = some true := by
          rw [law_l1 hgo hR b5 b4, Option.bind_some]
          dsimp only
          rw [e1, e2, Option.bind_some, Option.bind_some, zTexts_refl e3]; rfl
        by_cases hlt : o.length > l.length
        · have hout : outF n o = l := strict_eq nlt_irrefl nlt_trans _ _ (hgo.out).pw hg.pw fun x => by
            rw [outF_mem, ho]
            constructor
            · rintro ⟨h1 | h1, h2⟩
              · exact h1
              · exact absurd h1 h2
            · intro h1; exact ⟨.inl h1, fun e => hlen hlt (e ▸ h1)⟩
          rw [hout] at c2 ⊢
          obtain ⟨Q', q1, q2, _, _, q5⟩ := both_reach hg
          obtain rfl : Q = Q' := Option.some.inj (c2.symm.trans q1)
          have hro : spec_ReachOf l = some Q := by
            unfold spec_ReachOf
            rw [good_spec hg.sz, gNb_iff.2 hg, q2]; rfl
          rw [show decide ((o.length : Int) > (l.length : Int)) = true from decide_eq_true (by omega), zNests_refl (by omega), hro]
          have hz : laws_zReach Q Q = some true := zReach_refl (by omega)
          simp only [Bool.not_true, Bool.not_false, gdO, cond_true, Option.bind_some, Bool.or_false, Bool.and_true, Bool.and_false, cond_false, hz]
          exact fin
        · rw [show decide ((o.length : Int) > (l.length : Int)) = false from decide_eq_false (by omega)]
          simp only [Bool.false_and, gdO, cond_false, Option.bind_some]
          exact fin
end Go.G36.RC
