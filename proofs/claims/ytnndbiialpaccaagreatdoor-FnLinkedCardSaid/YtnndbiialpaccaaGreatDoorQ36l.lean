/- FnLinked, plain part: the law. -/
import Derived.Test.YtnndbiialpaccaaGreatDoorQ36k
namespace Go.G36.ZL
set_option maxRecDepth 20000
set_option maxHeartbeats 2000000
set_option linter.unusedVariables false
set_option linter.unusedSimpArgs false
open Go Go.G36

theorem policy_both {p : T_impl_Policy} (hp : PolicyOk p) : Both (impl_GoodPolicy p) (spec_GoodPolicy p) := by
  obtain ⟨i, hi1, hi2⟩ := id_both hp.id
  obtain ⟨a, ha1, ha2⟩ := head_both hp.pr false
  obtain ⟨b, hb1, hb2⟩ := head_both hp.ac true
  obtain ⟨c, hc1, hc2⟩ := head_both hp.re false
  obtain ⟨w, hw1, hw2⟩ := expr_both hp.wh
  have n1 : (!false) = true := rfl
  have n2 : (!true) = false := rfl
  rw [n1] at ha2 hc2
  rw [n2] at hb2
  unfold Both impl_GoodPolicy spec_GoodPolicy
  simp only [hi1, hi2, ha1, ha2, hb1, hb2, hc1, hc2, hw1, hw2, gdO_some, Option.bind_some]
  exact ⟨_, rfl, rfl⟩
def link (h : T_impl_Head) (x : T_impl_Atom) : T_impl_Head := cond (h.Kind_ == 5) ⟨2, x, ByteArray.mk #[]⟩ (cond (h.Kind_ == 6) ⟨3, x, ByteArray.mk #[]⟩ h)
theorem link_impl (h : T_impl_Head) (x : T_impl_Atom) : impl_LinkPolicy_2 h x = some (link h x) := by
  unfold impl_LinkPolicy_2 link
  cases (h.Kind_ == 5) <;> cases (h.Kind_ == 6) <;> rfl
theorem link_spec (h : T_impl_Head) (x : T_impl_Atom) : spec_l10Link h x = some (link h x) := link_impl h x
abbrev slot (h : T_impl_Head) : Bool := (h.Kind_ == 5) || (h.Kind_ == 6)
theorem link_both {p : T_impl_Policy} {id : ByteArray} {x y : T_impl_Atom} (hd : Drawn (p, id, x, y)) :
    ∃ q ok, impl_LinkPolicy p id x y = some (q, ok) ∧ spec_LinkPolicy p id x y = some (q, ok) ∧ q.When_.length ≤ 1000000 ∧
      (ok = true → q = ⟨id, p.Permit_, link p.Principal_ x, p.Action_, link p.Resource_ y, p.When_⟩ ∧ impl_ygoodRef x = some true ∧ impl_ygoodRef y = some true) := by
  obtain ⟨hp, hid, hx, hy⟩ := hd
  dsimp only at hp hid hx hy
  obtain ⟨gp, h1, h2⟩ := policy_both hp
  obtain ⟨gi, h3, h4⟩ := id_both hid
  obtain ⟨gx, h5, h6, h7⟩ := ref_both hx
  obtain ⟨gy, h8, h9, h10⟩ := ref_both hy
  have ha : app ([] : List T_impl_Expr) p.When_ = some p.When_ := by rw [app_some (by have := hp.len; simp; omega)]; rfl
  have s1 : ∀ h, impl_LinkPolicy_1 h = some (slot h) := fun h => rfl
  have s2 : ∀ h, spec_l10Slot h = some (slot h) := fun h => rfl
  have hxx : impl_Expr_xx p.When_ = some p.When_ := by unfold impl_Expr_xx; rw [ha]; rfl
  have hdf : (default : Bool) = false := rfl
  unfold impl_LinkPolicy spec_LinkPolicy
  simp only [h1, h2, h3, h4, h6, h7, h9, h10, s1, s2, link_impl, link_spec, ha, hxx, gdO_some, Option.bind_some, hdf, bne]
  generalize slot p.Principal_ = sp
  generalize slot p.Resource_ = sr
  generalize (x.Kind_ == 4) = kx
  generalize (y.Kind_ == 4) = ky
  clear h1 h2 h3 h4 h5 h6 h7 h8 h9 h10 ha hxx s1 s2 hdf
  cases gp <;> cases gi <;> cases kx <;> cases ky <;> cases gx <;> cases gy <;> cases sp <;> cases sr
  all_goals first
    | exact ⟨_, _, rfl, rfl, Nat.zero_le _, fun h => Bool.noConfusion h⟩
    | exact ⟨_, _, rfl, rfl, Nat.le_trans hp.len (by decide), fun _ => ⟨rfl, rfl, rfl⟩⟩

theorem atom_refl (a : T_impl_Atom) : (a == a) = true := by
  show ((a.Kind_ == a.Kind_) && _) = true
  simp
theorem head_refl (a : T_impl_Head) : (a == a) = true := by
  show ((a.Kind_ == a.Kind_) && ((a.Atom_ == a.Atom_) && ((a.Type_.toList == a.Type_.toList) && true))) = true
  rw [atom_refl]; simp
theorem expr_refl (a : T_impl_Expr) : (a == a) = true := by
  show ((a.Kind_ == a.Kind_) && ((a.Text_.toList == a.Text_.toList) && ((a.Atom_ == a.Atom_) && ((a.Kids_ == a.Kids_) && true)))) = true
  rw [atom_refl]; simp
theorem zExpr_refl {l : List T_impl_Expr} (hl : l.length ≤ 1000000) : laws_zExpr l l = some true := by
  have key : ∀ k : Nat, k ≤ l.length → loopO (laws_zExpr_l1 l l) ((l.length : Int) - (k : Int)) = some (.inl ()) := by
    intro k
    induction k with
    | zero =>
      intro _
      refine loopO_end ?_
      unfold laws_zExpr_l1
      dsimp only
      rw [decF (by omega : ¬ (l.length : Int) - ((0 : Nat) : Int) < (l.length : Int))]
      rfl
    | succ k ih =>
      intro hk
      obtain ⟨e, he, _⟩ := idx_some (xs := l) (i := (l.length : Int) - ((k + 1 : Nat) : Int)) (by omega) (by omega)
      have hs : laws_zExpr_l1 l l ((l.length : Int) - ((k + 1 : Nat) : Int)) = some (.inl ((l.length : Int) - (k : Int))) := by
        unfold laws_zExpr_l1
        dsimp only
        rw [decT (by omega : (l.length : Int) - ((k + 1 : Nat) : Int) < (l.length : Int)), cond_true, he, Option.bind_some, Option.bind_some, expr_refl, IntWalk.i64_in _ (by omega)]
        rw [show (l.length : Int) - ((k + 1 : Nat) : Int) + 1 = (l.length : Int) - (k : Int) by omega]
        rfl
      rw [loopO_go hs]
      exact ih (by omega)
  have := key l.length (Nat.le_refl _)
  rw [show (l.length : Int) - (l.length : Int) = 0 by omega] at this
  unfold laws_zExpr
  rw [this]
  simp
theorem zPolicies_refl {p : T_impl_Policy} (hl : p.When_.length ≤ 1000000) : laws_zPolicies [p] [p] = some true := by
  have i0 : idx [p] 0 = some p := rfl
  have h0 : laws_zPolicies_l1 [p] [p] 0 = some (.inl 1) := by
    unfold laws_zPolicies_l1
    dsimp only
    rw [i0, Option.bind_some, Option.bind_some, zExpr_refl hl, head_refl, head_refl, head_refl, gdO_some, Option.bind_some]
    have e1 : (p.Id_.toList == p.Id_.toList) = true := by simp
    have e2 : (p.Permit_ == p.Permit_) = true := by simp
    rw [e1, e2]
    rfl
  have h1 : laws_zPolicies_l1 [p] [p] 1 = some (.inr (.inl ())) := rfl
  unfold laws_zPolicies
  have : loopO (laws_zPolicies_l1 [p] [p]) 0 = some (.inl ()) := by rw [loopO_go h0, loopO_end h1]
  rw [this]
  rfl
/-- A head that was linked matches what it was linked to. -/
theorem linked_matches {h : T_impl_Head} {x : T_impl_Atom} (hs : slot h = true) (hx : impl_ygoodRef x = some true) : impl_HeadMatches (link h x) x = some true := by
  have hk : link h x = ⟨2, x, ByteArray.mk #[]⟩ ∨ link h x = ⟨3, x, ByteArray.mk #[]⟩ := by
    unfold link
    unfold slot at hs
    revert hs
    cases (h.Kind_ == 5) with
    | true => exact fun _ => .inl rfl
    | false => cases (h.Kind_ == 6) with
      | true => exact fun _ => .inr rfl
      | false => exact fun h => by cases h
  have he : ((ByteArray.mk #[]).toList == (ByteArray.mk #[]).toList) = true := by simp
  have hm : mget (mput ([] : List (T_impl_Atom × Bool)) x true) x = some true := by
    simp [mget, mput, mfind, atom_refl]
  rcases hk with e | e
  · rw [e]
    unfold impl_HeadMatches impl_ygoodHead impl_ygoodHead_j1 impl_yheadMatches
    simp only [hx, he, gdO_some, Option.bind_some, atom_refl]
    rfl
  · rw [e]
    unfold impl_HeadMatches impl_ygoodHead impl_ygoodHead_j1 impl_yheadMatches impl_yancestors
    simp only [hx, he, gdO_some, Option.bind_some, atom_refl, hm]
    rfl
theorem slot_matches_not {h : T_impl_Head} {x : T_impl_Atom} (hh : HeadOk h) (hs : slot h = true) (hx : impl_ygoodRef x = some true) : impl_HeadMatches h x = some false := by
  obtain ⟨g, hg, _⟩ := head_both hh false
  have hk : h.Kind_ = 5 ∨ h.Kind_ = 6 := by simpa [slot] using hs
  have hy : impl_yheadMatches h x = some false := by
    unfold impl_yheadMatches
    rcases hk with e | e <;> rw [e] <;> rfl
  unfold impl_HeadMatches
  simp only [hg, hx, hy, gdO_some, Option.bind_some]
  cases g <;> rfl
theorem law {code : List Int} (hb : ∀ b, b ∈ code → 0 ≤ b ∧ b ≤ 255) : laws_FnLinked code = some true := by
  unfold laws_FnLinked
  cases decide ((code.length : Int) > 1048576) with
  | true => rfl
  | false =>
    obtain ⟨⟨p, id, x, y⟩, hdr, hd⟩ := draw_ok hb
    obtain ⟨q, ok, h1, h2, hql, h3⟩ := link_both hd
    obtain ⟨hp, hid, hx, hy⟩ := hd
    dsimp only at hp hid hx hy
    rw [cond_false, hdr, Option.bind_some]
    dsimp only
    rw [h1, Option.bind_some]
    dsimp only
    rw [h2, Option.bind_some]
    dsimp only
    have hok : (ok == ok) = true := by simp
    rw [hok, zPolicies_refl hql, gdO_some, Option.bind_some]
    cases ok with
    | false => rfl
    | true =>
      obtain ⟨rfl, gx, gy⟩ := h3 rfl
      have s2 : ∀ h, spec_IsSlot h = some (slot h) := fun h => rfl
      have hz : laws_zExpr p.When_ p.When_ = some true := zExpr_refl (Nat.le_trans hp.len (by decide))
      have hpp : (p.Permit_ == p.Permit_) = true := by simp
      simp only [s2, hz, hpp, head_refl, gdO_some, Option.bind_some, Bool.not_true, cond_true, cond_false, Bool.or_self, Bool.not_false, Bool.and_true]
      cases hs1 : slot p.Principal_ with
      | true =>
        rw [linked_matches hs1 gx, slot_matches_not hp.pr hs1 gx]
        simp only [gdO_some, Option.bind_some, Bool.not_true, cond_true, cond_false, Bool.or_self, Bool.not_false, Bool.and_true, Bool.and_self, Bool.and_false]
        cases hs2 : slot p.Resource_ with
        | true =>
          rw [linked_matches hs2 gy, slot_matches_not hp.re hs2 gy]
          rfl
        | false => rfl
      | false =>
        simp only [gdO, Option.bind_some, Bool.not_true, cond_true, cond_false, Bool.or_self, Bool.not_false, Bool.and_true, Bool.and_self, Bool.and_false, Bool.false_and]
        cases hs2 : slot p.Resource_ with
        | true =>
          rw [linked_matches hs2 gy, slot_matches_not hp.re hs2 gy]
          rfl
        | false => rfl
end Go.G36.ZL
