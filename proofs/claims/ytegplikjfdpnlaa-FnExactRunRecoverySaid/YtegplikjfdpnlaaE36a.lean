/- FnExactRunRecovery: the plain law. -/
import Derived.Test.YtegplikjfdpnlaaX36a
import Derived.Test.YtegplikjfdpnlaaPg
namespace Go.G36
set_option linter.unusedVariables false
open Go Go.G36.GWalk

def evT (e : T_laws_RecoverEvent) : T_impl_RecoverEvent := ⟨e.Kind_, e.Time_, e.Who_⟩
def top20 : Int := 1048576

theorem i64in (n : Int) (h1 : -9223372036854775808 ≤ n) (h2 : n ≤ 9223372036854775807) : IntKind.i64.wrap n = n := IntWalk.i64_in n (by omega)

theorem szStringS_eq (xs : List ByteArray) (v0 : Int) (h0 : 0 ≤ v0) (hv : v0 ≤ 1048576) (hl : xs.length ≤ maxLen) (hx : ∀ x, x ∈ xs → x.size ≤ maxLen) :
    ∃ r, laws_szStringS xs v0 = some r ∧ (r < 0 ∨ (0 ≤ r ∧ r ≤ v0 ∧ (xs.length : Int) ≤ v0 ∧ ∀ x, x ∈ xs → (x.size : Int) ≤ v0)) := by
  unfold maxLen at hl hx
  unfold laws_szStringS
  rw [i64in _ (by omega) (by omega)]
  cases hd : decide (v0 - (xs.length : Int) < 0) with
  | true => exact ⟨-1, rfl, .inl (by omega)⟩
  | false =>
    simp at hd
    obtain ⟨q, h1, h2⟩ := loop_sz xs (laws_szStringS_l1 xs) (fun x => x.size) (v0 - xs.length) (by omega) (fun i a v ha k1 k2 => by
      have hi := (List.getElem?_eq_some_iff.1 ha).1
      have hs := hx a (List.mem_of_getElem? ha)
      simp only [laws_szStringS_l1, lt_dec hi, cond_true, idx_nat, ha, Option.bind_some, wrap_succ (i := i) (by omega)]
      rw [i64in (v - (a.size : Int)) (by omega) (by omega)]) (fun v => by simp [laws_szStringS_l1])
    simp only [cond_false, h1, Option.bind_some]
    rcases h2 with rfl | ⟨v, rfl, k1, k2, k3⟩
    · exact ⟨-1, rfl, .inl (by omega)⟩
    · exact ⟨v, rfl, .inr ⟨k1, by omega, by omega, fun x hx => by have := k3 x hx; omega⟩⟩

theorem szRecoverEventS_eq (xs : List T_laws_RecoverEvent) (v0 : Int) (h0 : 0 ≤ v0) (hv : v0 ≤ 1048576) (hl : xs.length ≤ maxLen) (hx : ∀ x, x ∈ xs → x.Who_.size ≤ maxLen) :
    ∃ r, laws_szRecoverEventS xs v0 = some r ∧ (r < 0 ∨ (0 ≤ r ∧ r ≤ v0 ∧ (xs.length : Int) ≤ v0 ∧ ∀ x, x ∈ xs → (x.Who_.size : Int) ≤ v0)) := by
  unfold maxLen at hl hx
  unfold laws_szRecoverEventS
  rw [i64in _ (by omega) (by omega)]
  cases hd : decide (v0 - (xs.length : Int) < 0) with
  | true => exact ⟨-1, rfl, .inl (by omega)⟩
  | false =>
    simp at hd
    obtain ⟨q, h1, h2⟩ := loop_sz xs (laws_szRecoverEventS_l1 xs) (fun x => x.Who_.size) (v0 - xs.length) (by omega) (fun i a v ha k1 k2 => by
      have hi := (List.getElem?_eq_some_iff.1 ha).1
      have hs := hx a (List.mem_of_getElem? ha)
      simp only [laws_szRecoverEventS_l1, laws_szRecoverEvent, lt_dec hi, cond_true, idx_nat, ha, Option.bind_some, wrap_succ (i := i) (by omega)]
      rw [i64in (v - (a.Who_.size : Int)) (by omega) (by omega)]
      cases hc : decide (v - (a.Who_.size : Int) < 0) with
      | true => simp
      | false => simp only [cond_false, Option.bind_some, hc]) (fun v => by simp [laws_szRecoverEventS_l1])
    simp only [cond_false, h1, Option.bind_some]
    rcases h2 with rfl | ⟨v, rfl, k1, k2, k3⟩
    · exact ⟨-1, rfl, .inl (by omega)⟩
    · exact ⟨v, rfl, .inr ⟨k1, by omega, by omega, fun x hx => by have := k3 x hx; omega⟩⟩

theorem mk_ok {α : Type} (z : α) (n : Nat) (h : n ≤ 4294967296) : mk z (n : Int) = some (List.replicate n z) := by
  unfold mk; rw [if_pos (by omega)]; simp

theorem toStringS_eq (xs : List ByteArray) (hl : xs.length ≤ 4294967296) : laws_toStringS xs = some xs := by
  unfold laws_toStringS
  rw [mk_ok _ _ hl]
  simp only [Option.bind_some]
  rw [loop_to xs (laws_toStringS_l1 xs) (fun x => x) _ (by simp) (fun i a l ha hll => by
    have hi := (List.getElem?_eq_some_iff.1 ha).1
    simp only [laws_toStringS_l1, lt_dec hi, cond_true, idx_nat, ha, Option.bind_some, wrap_succ (i := i) (by omega), Int.toNat_natCast]
    rw [List.getElem?_eq_getElem (by omega)]
    simp) (fun l => by simp [laws_toStringS_l1])]
  simp

theorem toRecoverEventS_eq (xs : List T_laws_RecoverEvent) (hl : xs.length ≤ 4294967296) : laws_toRecoverEventS xs = some (xs.map evT) := by
  unfold laws_toRecoverEventS
  rw [mk_ok _ _ hl]
  simp only [Option.bind_some]
  rw [loop_to xs (laws_toRecoverEventS_l1 xs) evT _ (by simp) (fun i a l ha hll => by
    have hi := (List.getElem?_eq_some_iff.1 ha).1
    simp only [laws_toRecoverEventS_l1, laws_toRecoverEvent, lt_dec hi, cond_true, idx_nat, ha, Option.bind_some, wrap_succ (i := i) (by omega), Int.toNat_natCast]
    rw [List.getElem?_eq_getElem (by omega)]
    simp [evT]) (fun l => by simp [laws_toRecoverEventS_l1])]
  simp

theorem eqIntS_self (xs : List Int) (hl : xs.length < 9223372036854775807) : laws_eqIntS xs xs = some true := by
  unfold laws_eqIntS
  rw [loop_eq xs (laws_eqIntS_l1 xs xs) (fun i a ha => by
    have hi := (List.getElem?_eq_some_iff.1 ha).1
    simp [laws_eqIntS_l1, hi, idx_nat, ha, wrap_succ (i := i) (by omega)]) (by simp [laws_eqIntS_l1])]
  simp
theorem eqStringS_self (xs : List ByteArray) (hl : xs.length < 9223372036854775807) : laws_eqStringS xs xs = some true := by
  unfold laws_eqStringS
  rw [loop_eq xs (laws_eqStringS_l1 xs xs) (fun i a ha => by
    have hi := (List.getElem?_eq_some_iff.1 ha).1
    simp [laws_eqStringS_l1, hi, idx_nat, ha, wrap_succ (i := i) (by omega)]) (by simp [laws_eqStringS_l1])]
  simp
theorem eqRecoverEventS_self (xs : List T_impl_RecoverEvent) (hl : xs.length < 9223372036854775807) : laws_eqRecoverEventS xs xs = some true := by
  unfold laws_eqRecoverEventS
  rw [loop_eq xs (laws_eqRecoverEventS_l1 xs xs) (fun i a ha => by
    have hi := (List.getElem?_eq_some_iff.1 ha).1
    simp [laws_eqRecoverEventS_l1, laws_eqRecoverEvent, hi, idx_nat, ha, wrap_succ (i := i) (by omega)]) (by simp [laws_eqRecoverEventS_l1])]
  simp

theorem markText_some (v : Int) (hv : v ≤ 1000000000000) : ∃ t, laws_markText v = some t := by
  unfold laws_markText
  by_cases h0 : v ≤ 0
  · exact ⟨ByteArray.mk #[109, 48], by simp [h0]⟩
  · rw [decide_eq_false h0]
    obtain ⟨t, h1, h2⟩ := loop_digits laws_markText_l1 (fun v s k1 k2 k3 => by
      have hc : cat (byS [IntKind.u8.wrap (IntKind.i64.wrap (48 + Int.tmod v 10))]) s = some (byS [IntKind.u8.wrap (IntKind.i64.wrap (48 + Int.tmod v 10))] ++ s) := by
        unfold cat; rw [if_pos (by rw [byS_one]; omega)]
      refine ⟨_, ?_, by simp only [laws_markText_l1, decide_eq_true (show v > 0 from k1), cond_true, hc, Option.bind_some]; rw [i64in]
                        · have := Int.tdiv_eq_ediv_of_nonneg (b := 10) (show 0 ≤ v by omega); omega
                        · have := Int.tdiv_eq_ediv_of_nonneg (b := 10) (show 0 ≤ v by omega); omega⟩
      rw [ByteArray.size_append, byS_one]; omega) (fun s => by simp [laws_markText_l1]) v.toNat v (ByteArray.mk #[]) (Nat.le_refl _) (by omega) (by have hz0 : (ByteArray.mk #[]).size = 0 := rfl; omega)
    simp only [cond_false, h1, Option.bind_some]
    have : cat (ByteArray.mk #[109]) t = some (ByteArray.mk #[109] ++ t) := by
      have hz : (ByteArray.mk #[109]).size = 1 := rfl
      have hz0 : (ByteArray.mk #[]).size = 0 := rfl
      unfold cat; rw [if_pos (by omega)]
    exact ⟨_, by rw [this]; rfl⟩

theorem markStringS_eq (xs : List ByteArray) (v0 : Int) (h0 : 0 ≤ v0) (h1 : v0 ≤ 10000000) (hl : (xs.length : Int) ≤ 1048576) : ∃ l, laws_markStringSx v0 xs = some (v0 + xs.length, l) ∧ l.length = xs.length := by
  obtain ⟨l, k1, k2, _⟩ := loop_mark xs laws_markStringSx_l1 1 v0 (fun _ _ => True) (fun i l v hi hll hv => by
    obtain ⟨t, ht⟩ := markText_some v (by omega)
    refine ⟨t, trivial, ?_⟩
    simp only [laws_markStringSx_l1, hll, lt_dec hi, cond_true, ht, Option.bind_some, idx_nat, Int.toNat_natCast]
    rw [List.getElem?_eq_getElem (by omega), i64in _ (by omega) (by omega), i64in _ (by omega) (by omega)]
    rfl) (fun l v hll => by simp [laws_markStringSx_l1, hll])
  refine ⟨l, ?_, k2⟩
  unfold laws_markStringSx
  rw [k1]; simp

theorem markRecoverEventS_eq (xs : List T_impl_RecoverEvent) (v0 : Int) (h0 : 0 ≤ v0) (h1 : v0 ≤ 10000000) (hl : (xs.length : Int) ≤ 1048576) : ∃ l, laws_markRecoverEventSx v0 xs = some (v0 + 3 * xs.length, l) ∧ l.length = xs.length := by
  obtain ⟨l, k1, k2, _⟩ := loop_mark xs laws_markRecoverEventSx_l1 3 v0 (fun _ _ => True) (fun i l v hi hll hv => by
    obtain ⟨t, ht⟩ := markText_some (v + 1 + 1) (by omega)
    refine ⟨⟨v, v + 1, t⟩, trivial, ?_⟩
    have w1 : IntKind.i64.wrap (v + 1) = v + 1 := i64in _ (by omega) (by omega)
    have w2 : IntKind.i64.wrap (v + 1 + 1) = v + 1 + 1 := i64in _ (by omega) (by omega)
    have w3 : IntKind.i64.wrap (v + 1 + 1 + 1) = v + 3 := by rw [i64in _ (by omega) (by omega)]; omega
    simp only [laws_markRecoverEventSx_l1, hll, lt_dec hi, cond_true, Option.bind_some, idx_nat, Int.toNat_natCast, w1, w2, w3, ht]
    rw [List.getElem?_eq_getElem (by omega), i64in ((i : Int) + 1) (by omega) (by omega)]
    simp [hll, hi]) (fun l v hll => by simp [laws_markRecoverEventSx_l1, hll])
  refine ⟨l, ?_, k2⟩
  unfold laws_markRecoverEventSx
  rw [k1]; simp

theorem markIntS_eq (xs : List Int) (v0 : Int) (h0 : 0 ≤ v0) (h1 : v0 ≤ 10000000) (hl : (xs.length : Int) ≤ 1048576) : ∃ l, laws_markIntSx v0 xs = some (v0 + xs.length, l) ∧ l.length = xs.length ∧ ∀ (i : Nat) (b : Int), l[i]? = some b → b = v0 + i := by
  obtain ⟨l, k1, k2, k3⟩ := loop_mark xs laws_markIntSx_l1 1 v0 (fun v b => b = v) (fun i l v hi hll hv => by
    refine ⟨v, rfl, ?_⟩
    simp only [laws_markIntSx_l1, hll, lt_dec hi, cond_true, Option.bind_some, idx_nat, Int.toNat_natCast]
    rw [List.getElem?_eq_getElem (by omega), i64in _ (by omega) (by omega), i64in _ (by omega) (by omega)]
    rfl) (fun l v hll => by simp [laws_markIntSx_l1, hll])
  refine ⟨l, ?_, k2, fun i b hb => by rw [k3 i b hb]; omega⟩
  unfold laws_markIntSx
  rw [k1]; simp

theorem heldIntS_eq (xs : List Int) (v0 : Int) (h0 : 0 ≤ v0) (h1 : v0 ≤ 10000000) (hl : (xs.length : Int) ≤ 1048576) (hx : ∀ (i : Nat) (b : Int), xs[i]? = some b → b = v0 + i) : laws_heldIntS xs v0 = some (v0 + xs.length) := by
  unfold laws_heldIntS
  rw [loop_held xs (laws_heldIntS_l1 xs) 1 v0 (fun i a ha => by
    have hi := (List.getElem?_eq_some_iff.1 ha).1
    have := hx i a ha
    subst this
    simp only [laws_heldIntS_l1, lt_dec hi, cond_true, Option.bind_some, idx_nat, ha, Int.one_mul, bne_self_eq_false, cond_false]
    rw [i64in _ (by omega) (by omega), i64in _ (by omega) (by omega)]) (fun v => by simp [laws_heldIntS_l1])]
  simp

theorem foldI_len (need delay : Int) (hs : List ByteArray) : ∀ (es : List Ev) (i : Nat) (b : Rs × List Int), (foldI (mrun need delay hs) es i b).2.length = b.2.length + es.length
  | [], i, b => by simp [foldI]
  | e :: es, i, b => by rw [foldI, foldI_len need delay hs es]; simp [mrun]; omega
theorem runs_len (need delay : Int) (hs : List ByteArray) (es : List Ev) : (runs need delay hs es).length ≤ 200 := by
  unfold runs
  split
  · simp
  · rename_i h
    simp only [Bool.or_eq_true, decide_eq_true_eq, not_or] at h
    have : (outs need delay hs es).length = es.length := by unfold outs; rw [foldI_len]; simp
    omega

theorem fnExactRunRecovery (need delay : Int) (hs : List ByteArray) (es : List T_laws_RecoverEvent) (hl : hs.length ≤ maxLen) (hx : ∀ x, x ∈ hs → x.size ≤ maxLen) (hel : es.length ≤ maxLen) (hex : ∀ x, x ∈ es → x.Who_.size ≤ maxLen) :
    laws_FnExactRunRecovery need delay hs es = some true := by
  unfold laws_FnExactRunRecovery
  obtain ⟨r1, h1, k1⟩ := szStringS_eq hs 1048576 (by omega) (by omega) hl hx
  rw [h1]
  simp only [Option.bind_some]
  rcases k1 with k1 | ⟨k1, k1', k2, k3⟩
  · simp [k1]
  rw [decide_eq_false (by omega : ¬ r1 < 0)]
  obtain ⟨r3, h3, m1⟩ := szRecoverEventS_eq es r1 k1 (by omega) hel hex
  rw [h3]
  simp only [cond_false, Option.bind_some]
  rcases m1 with m1 | ⟨m1, m1', m2, m3⟩
  · simp [m1]
  rw [decide_eq_false (by omega : ¬ r3 < 0)]
  have hlb : hs.length < big := by unfold big; omega
  have hnb : ∀ n, n ∈ hs → n.size < big := fun n hn => by have := k3 n hn; unfold big; omega
  have hrl := runs_len need delay hs (es.map evT)
  generalize hR : runs need delay hs (es.map evT) = R at hrl
  obtain ⟨l1, a1, a2⟩ := markStringS_eq hs 1 (by omega) (by omega) k2
  obtain ⟨l2, b1, b2⟩ := markRecoverEventS_eq (es.map evT) (1 + hs.length) (by omega) (by omega) (by simp; omega)
  obtain ⟨l3, c1, c2, c3⟩ := markIntS_eq R 1 (by omega) (by omega) (by omega)
  have hh := heldIntS_eq l3 1 (by omega) (by omega) (by omega) c3
  have e1 : decide (1 + (hs.length : Int) + 3 * ((es.map evT).length : Int) < 0) = false := decide_eq_false (by omega)
  have e2 : decide (1 + (l3.length : Int) < 0) = false := decide_eq_false (by omega)
  have q1 : lenEq l1 hs = some () := by unfold lenEq; rw [if_pos a2]
  have q2 : lenEq l2 (es.map evT) = some () := by unfold lenEq; rw [if_pos b2]
  have q3 : lenEq l3 R = some () := by unfold lenEq; rw [if_pos c2]
  simp only [cond_false, Option.bind_some, toStringS_eq hs (by omega), toRecoverEventS_eq es (by omega), spec_run need delay hs _ hlb hnb, impl_run need delay hs _ hlb, hR,
    eqIntS_self R (by omega), eqStringS_self hs (by omega), eqRecoverEventS_self (es.map evT) (by simp; omega), Bool.not_true, a1, b1, c1, q1, q2, q3, e1, gdO, Bool.not_false, cond_true, Bool.false_or, hh, e2]
  simp [c2]
end Go.G36
