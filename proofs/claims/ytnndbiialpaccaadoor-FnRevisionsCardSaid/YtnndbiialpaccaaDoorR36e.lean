/- Armor, the program's. -/
import Derived.Test.YtnndbiialpaccaaDoorR36d
namespace Go.G36.RV1
set_option linter.all false
open Go Go.G36 Go.G36.RV

theorem write_eq {x : Int} {l : List Int} (h : l.length < 4294967296) : strings_Builder_WriteByte x (⟨(), l⟩ : T_strings_Builder) = some ((), (⟨(), l ++ [x]⟩ : T_strings_Builder)) := by
  unfold strings_Builder_WriteByte ccO
  rw [Option.bind_some, app_get (by simp; omega), Option.bind_some]

theorem armor_drain {d : List Int} (hd : Bytes d) (hl : d.length ≤ 20000) {c b i : Nat} (hb : b < 5) (hi : i < d.length) (hcb : 5 * c + b = 8 * i) :
    Ok (loopO (impl_Armor_l2 (val d (5 * c) b) d[i]) ((⟨(), lets d c⟩ : T_strings_Builder), ((b + 8 : Nat) : Int))) fun r => ∃ c' b', b' < 5 ∧ 5 * c' + b' = 8 * (i + 1) ∧ c ≤ c' ∧ r = ((⟨(), lets d c'⟩ : T_strings_Builder), ((b' : Nat) : Int)) := by
  have hx := hd.get hi
  have hv := val_lt d (5 * c) b
  have hp : (2 : Int) ^ b ≤ 2 ^ 5 := by exact_mod_cast Nat.pow_le_pow_right (by decide) (by omega)
  have hV : val d (5 * c) b * 256 + d[i] = val d (5 * c) (b + 8) := by
    rw [val_add, hcb, val_byte hd hi]; rfl
  refine Ok.loop (fun n s => ∃ k, k + n = 3 ∧ 5 * k ≤ b + 8 ∧ s.1 = (⟨(), lets d (c + k)⟩ : T_strings_Builder) ∧ s.2 = ((b + 8 - 5 * k : Nat) : Int)) ?_ (n := 3) ⟨0, by omega, by omega, rfl, rfl⟩
  rintro n ⟨s, v⟩ ⟨k, hk, hk5, h1, h2⟩
  dsimp only at h1 h2
  subst h1; subst h2
  unfold impl_Armor_l2
  dsimp only
  refine Ok.cond (fun h => ?_) (fun h => ?_)
  · have hge : ((b + 8 - 5 * k : Nat) : Int) ≥ 5 := of_decide_eq_true h
    have hw : IntKind.i64.wrap (((b + 8 - 5 * k : Nat) : Int) - 5) = ((b + 8 - 5 * (k + 1) : Nat) : Int) := by
      rw [IntWalk.i64_in _ (by omega)]; omega
    rw [hw, nn_get (by omega), Option.bind_some]
    have h8 : (2 : Int) ^ (min (Int.toNat 8) IntKind.i64.bits) = 256 := rfl
    rw [h8, IntWalk.i64_in (val d (5 * c) b * 256) (by omega), IntWalk.i64_in d[i] (by omega), i64_or_add hv.1 (by omega) hx.1 hx.2, hV, minpow (k := b + 8 - 5 * (k + 1)) rfl (by omega)]
    have hpp : (0 : Int) < 2 ^ (b + 8 - 5 * (k + 1)) := Int.pow_pos (by decide)
    rw [Int.fdiv_eq_ediv_of_nonneg _ (by omega)]
    have hdiv : val d (5 * c) (b + 8) / 2 ^ (b + 8 - 5 * (k + 1)) = val d (5 * c) (5 * (k + 1)) := by
      have := val_div d (5 * c) (5 * (k + 1)) (b + 8 - 5 * (k + 1))
      rwa [show 5 * (k + 1) + (b + 8 - 5 * (k + 1)) = b + 8 by omega] at this
    rw [hdiv]
    have hvl := val_lt d (5 * c) (5 * (k + 1))
    have hpb : (2 : Int) ^ (5 * (k + 1)) ≤ 2 ^ 15 := by exact_mod_cast Nat.pow_le_pow_right (by decide) (by omega)
    have hand := i64_and_mod (val d (5 * c) (5 * (k + 1))) 5 (by omega) hvl.1 (by omega)
    rw [show (2 : Int) ^ 5 - 1 = 31 from rfl] at hand
    have hmod : val d (5 * c) (5 * (k + 1)) % 2 ^ 5 = val d (5 * (c + k)) 5 := by
      have := val_mod d (5 * c) (5 * k) 5
      rwa [show 5 * k + 5 = 5 * (k + 1) by omega, show 5 * c + 5 * k = 5 * (c + k) by omega] at this
    rw [hand, hmod]
    have hlt := val_lt d (5 * (c + k)) 5
    show Ok ((idxS letB (val d (5 * (c + k)) 5)).bind _) _
    rw [letter_idx hlt.1 hlt.2, Option.bind_some, write_eq (by rw [lets_length]; omega), Option.bind_some]
    refine Ok.some ⟨n - 1, by omega, k + 1, by omega, by omega, ?_, rfl⟩
    show (⟨(), _⟩ : T_strings_Builder) = _
    rw [← Nat.add_assoc, lets_succ]
  · have hge : ¬ ((b + 8 - 5 * k : Nat) : Int) ≥ 5 := of_decide_eq_false h
    exact Ok.some ⟨c + k, b + 8 - 5 * k, by omega, by omega, by omega, rfl⟩

theorem armor_impl {d : List Int} (hd : Bytes d) (hl : d.length ≤ 20000) : impl_Armor d = some (byS (lets d (many d.length))) := by
  have : Ok (loopO (impl_Armor_l1 d) ((⟨(), ([] : List Int)⟩ : T_strings_Builder), 0, 0, 0)) fun r => ∃ c b, b < 5 ∧ 5 * c + b = 8 * d.length ∧ r = ((⟨(), lets d c⟩ : T_strings_Builder), val d (5 * c) b, ((b : Nat) : Int)) := by
    refine Ok.loop (fun n s => ∃ i c b, i + n = d.length ∧ b < 5 ∧ 5 * c + b = 8 * i ∧ s = ((⟨(), lets d c⟩ : T_strings_Builder), val d (5 * c) b, ((b : Nat) : Int), ((i : Nat) : Int))) ?_ (n := d.length) ⟨0, 0, 0, by omega, by omega, rfl, rfl⟩
    rintro n s ⟨i, c, b, hi, hb, hcb, rfl⟩
    unfold impl_Armor_l1
    dsimp only
    refine Ok.cond (fun h => ?_) (fun h => ?_)
    · have hlt : ((i : Nat) : Int) < (d.length : Int) := of_decide_eq_true h
      have hil : i < d.length := by omega
      have hg : idx d ((i : Nat) : Int) = some d[i] := idx_get (xs := d) (i := ((i : Nat) : Int)) (by omega) (by omega)
      rw [hg, Option.bind_some]
      have hw : IntKind.i64.wrap (((b : Nat) : Int) + 8) = ((b + 8 : Nat) : Int) := by rw [IntWalk.i64_in _ (by omega)]; omega
      rw [hw]
      refine Ok.bind (armor_drain hd hl hb hil hcb) ?_
      rintro r ⟨c', b', hb', hcb', hcc, rfl⟩
      dsimp only
      rw [nn_get (by omega), Option.bind_some]
      have hx := hd.get hil
      have hv := val_lt d (5 * c) b
      have hp : (2 : Int) ^ b ≤ 2 ^ 5 := by exact_mod_cast Nat.pow_le_pow_right (by decide) (by omega)
      have hV : val d (5 * c) b * 256 + d[i] = val d (5 * c) (b + 8) := by
        rw [val_add, hcb, val_byte hd hil]; rfl
      have h8 : (2 : Int) ^ (min (Int.toNat 8) IntKind.i64.bits) = 256 := rfl
      have hp2 : (2 : Int) ^ b' ≤ 2 ^ 5 := by exact_mod_cast Nat.pow_le_pow_right (by decide) (by omega)
      have hp3 : (0 : Int) < 2 ^ b' := Int.pow_pos (by decide)
      rw [h8, IntWalk.i64_in (val d (5 * c) b * 256) (by omega), IntWalk.i64_in d[i] (by omega), i64_or_add hv.1 (by omega) hx.1 hx.2, hV, minpow (k := b') rfl (by omega), Int.one_mul, IntWalk.i64_in (2 ^ b') (by omega), IntWalk.i64_in (2 ^ b' - 1) (by omega)]
      have hvl := val_lt d (5 * c) (b + 8)
      have hpb : (2 : Int) ^ (b + 8) ≤ 2 ^ 15 := by exact_mod_cast Nat.pow_le_pow_right (by decide) (by omega)
      rw [i64_and_mod _ b' (by omega) hvl.1 (by omega)]
      have hmod : val d (5 * c) (b + 8) % 2 ^ b' = val d (5 * c') b' := by
        have := val_mod d (5 * c) (5 * (c' - c)) b'
        rwa [show 5 * (c' - c) + b' = b + 8 by omega, show 5 * c + 5 * (c' - c) = 5 * c' by omega] at this
      rw [hmod]
      refine Ok.some ⟨n - 1, by omega, i + 1, c', b', by omega, hb', by omega, ?_⟩
      have hw2 : IntKind.i64.wrap (((i : Nat) : Int) + 1) = ((i + 1 : Nat) : Int) := by rw [IntWalk.i64_in _ (by omega)]; omega
      rw [hw2]
    · have hge : ¬ ((i : Nat) : Int) < (d.length : Int) := of_decide_eq_false h
      exact Ok.some ⟨c, b, hb, by omega, rfl⟩
  obtain ⟨r, e, c, b, hb, hcb, rfl⟩ := this
  unfold impl_Armor
  rw [show decide ((d.length : Int) > 20000) = false from decide_eq_false (by omega)]
  simp only [cond_false]
  rw [e, Option.bind_some]
  dsimp only
  unfold many
  have hlen := lets_length d c
  by_cases hb0 : b = 0
  · subst hb0
    rw [show decide (((0 : Nat) : Int) > 0) = false from rfl]
    simp only [cond_false]
    rw [show (8 * d.length + 4) / 5 = c by omega]
    rfl
  · rw [show decide (((b : Nat) : Int) > 0) = true from decide_eq_true (by omega)]
    simp only [cond_true]
    have hw : IntKind.i64.wrap (5 - ((b : Nat) : Int)) = ((5 - b : Nat) : Int) := by rw [IntWalk.i64_in _ (by omega)]; omega
    rw [hw, nn_get (by omega), Option.bind_some, minpow (k := 5 - b) rfl (by omega)]
    have hv5 : val d (5 * c) b * 2 ^ (5 - b) = val d (5 * c) 5 := by
      have := val_add d (5 * c) b (5 - b)
      rw [show b + (5 - b) = 5 by omega, val_zero (d := d) (k := 5 * c + b) (by omega), Int.add_zero] at this
      exact this.symm
    rw [hv5]
    have hv := val_lt d (5 * c) 5
    rw [IntWalk.i64_in (val d (5 * c) 5) (by omega)]
    have hand := i64_and_mod (val d (5 * c) 5) 5 (by omega) hv.1 (by omega)
    rw [show (2 : Int) ^ 5 - 1 = 31 from rfl, Int.emod_eq_of_lt hv.1 hv.2] at hand
    rw [hand]
    show (idxS letB (val d (5 * c) 5)).bind _ = _
    rw [letter_idx hv.1 hv.2, Option.bind_some, write_eq (by rw [hlen]; omega), Option.bind_some]
    rw [show (8 * d.length + 4) / 5 = c + 1 by omega, lets_succ]
    rfl
theorem armor_eq {d : List Int} (hd : Bytes d) (hl : d.length ≤ 20000) : ∃ s, impl_Armor d = some s ∧ spec_l2Armor d = some s ∧ s.size = many d.length ∧ s = byS (lets d (many d.length)) := by
  refine ⟨_, armor_impl hd hl, armor_spec hd hl, ?_, rfl⟩
  have : ∀ (l : List Int) (b : ByteArray), (l.foldl (fun r n => r.push (UInt8.ofNat n.toNat)) b).size = b.size + l.length := by
    intro l
    induction l with
    | nil => intro b; simp
    | cons a l ih => intro b; rw [List.foldl_cons, ih]; simp [ByteArray.size_push]; omega
  unfold byS
  rw [this, lets_length]
  simp
end Go.G36.RV1
