/- All above a ref, in order: the walk of Ancestors (a range over a map, a sort). -/
import Derived.Test.YtnohlppnebcefaaGreatAbQ
import Derived.Test.YtnohlppnebcefaaGreatAbSort
import Derived.Test.YtnohlppnebcefaaGreatKzv
set_option linter.all false
set_option maxRecDepth 20000
set_option maxHeartbeats 4000000
namespace Go.G36.AbAnc
open Go Go.Proofs Go.G36 Go.G36.AB Go.Sort

theorem perm_erase {α : Type} : ∀ (l : List α) (i : Nat) (e : α), l[i]? = some e → l.Perm (e :: l.eraseIdx i)
  | [], _, _, h => by simp at h
  | a :: l, 0, e, h => by simp at h; subst h; exact .refl _
  | a :: l, i + 1, e, h => by
    rw [List.eraseIdx_cons_succ]
    exact ((perm_erase l i e (by simpa using h)).cons a).trans (.swap _ _ _)
/-- What a sort gives hangs on what is sorted alone. -/
theorem sortO_perm {xs ys zs : List T_impl_Atom} (hp : ys.Perm xs) (h : sortO leA xs = some zs) : sortO leA ys = some zs := by
  obtain ⟨h1, rfl⟩ := sortO_s h
  unfold sortO
  rw [if_pos (by rw [hp.length_eq]; exact h1)]
  congr 1
  refine List.Perm.eq_of_pairwise (le := fun a b => leA a b = true) (fun a b _ _ h k => leA_anti a b h k) (List.pairwise_mergeSort leA_trans leA_total _) (List.pairwise_mergeSort leA_trans leA_total _) ?_
  exact ((List.mergeSort_perm _ _).trans hp).trans (List.mergeSort_perm _ _).symm

def encA (x : T_impl_Atom) : List Value := [.int .i64 x.Kind_, .int .i64 x.Num_, .string x.Text_, .string x.Type_]
theorem encA_ok : EncK (c_T_impl_Atom false) encA 4 := by
  refine ⟨fun x => rfl, fun _ => rfl, fun x v hv => ?_, fun S w x j c u h1 h2 => ?_, fun S w x j c u h1 h2 => ?_⟩
  · simp [encA] at hv; rcases hv with rfl | rfl | rfl | rfl <;> rfl
  · unfold c_T_impl_Atom at h1
    unfold encA at h2
    rcases j with _ | _ | _ | _ | j
    · simp at h1 h2; subst h1; subst h2; exact .int _ _
    · simp at h1 h2; subst h1; subst h2; exact .int _ _
    · simp at h1 h2; subst h1; subst h2; exact .str _
    · simp at h1 h2; subst h1; subst h2; exact .str _
    · simp at h1
  · unfold c_T_impl_Atom at h1
    unfold encA
    rcases j with _ | _ | _ | _ | j
    · simp at h1; subst h1; cases h2; rfl
    · simp at h1; subst h1; cases h2; rfl
    · simp at h1; subst h1; cases h2; rfl
    · simp at h1; subst h1; cases h2; rfl
    · simp at h1
theorem lib_19 {o : Oper} {fr : Fr} {σ : ASt} {p L : Nat} {xs ys : List T_impl_Atom} {x y z : Operand} {ts : Array TypeId}
    (ho : o.op = .call { callee := .value z, args := #[x, y], argTypes := ts }) (hcall : ∀ (us : Array Value) (w : World), (callFunc 19 us).run Tryz.prog w = .ok (.enter 19 us) w) (hz : evalE fr z = some (.fn 19 [] []))
    (hx : evalE fr x = some (.hd p L 0 L)) (hy : evalE fr y = some (.fn 20 [] [])) (hσ : σ[p]? = some (.arr .clo 4 (xs.map (c_T_impl_Atom false)))) (hL : (xs.map (c_T_impl_Atom false)).length = L) (h : sortO leA xs = some ys) :
    Does Tryz.prog o fr σ .any (σ.set p (.arr .clo 4 (ys.map (c_T_impl_Atom false)))) := by
  refine o_sortF (g := 20) (le := leA) encA_ok (fun blk cap d w hH hblk hsz => ?_) (fun A cap w => AnyF.slices_SortFunc_none { Tryz.sortAtom with } A cap _ w) ho hcall hz hx hy hσ hL h
  exact AnyQ.slices_SortFunc_total Tryz.sortAtom 4 Tryz.isAgg25 Tryz.sizeOf25 encA encA_ok.len encA_ok.one cmpA cmpA_ok.swo 20 #[] blk 0 cap d w
    (enters_of Tryz.func20 (by kernel_rfl) rfl) (fun m' os dk hs x y => Tryz.cmp20_calls _ _ _ _ _ _ _ _ _) hH hblk hsz
    (fun x y h k => leA_anti x y (by simpa [leA, ltOf] using k) (by simpa [leA, ltOf] using h))

/-- Where the gathering of the keys stands. -/
structure CollX (m : List (T_impl_Atom × Bool)) where
  acc : List T_impl_Atom
  cur : V × V
  rest : List (T_impl_Atom × Bool)
  perm : (acc ++ rest.map (·.1)).Perm (m.map (·.1))
  curb : ∀ N, bel N cur.2 = true

theorem ek_16 : En Tryz.prog 16 := .of Tryz.func16 rfl rfl
theorem ek_17 : En Tryz.prog 17 := .of Tryz.func17 rfl rfl
theorem ek_18 : En Tryz.prog 18 := .of Tryz.func18 rfl rfl
theorem ek_19 : En Tryz.prog 19 := .of Tryz.func19 rfl rfl
theorem lib_5 (b0 : Bool) {a0 : List T_impl_Thing} {a1 : T_impl_Atom} {R0 : List T_impl_Atom} (H : ancs a0 a1 = some R0) : Pure Tryz.prog 5 [.im b0 (a0.map (c_T_impl_Thing false)), .agg (c_T_impl_Atom false a1)] (.im false (R0.map (c_T_impl_Atom false))) := by
 refine CallT.of_TN (n := 30) Tryz.func5 rfl rfl rfl rfl ?_
 refine au 9 ?_
 obtain ⟨r1, h2, H⟩ := bind_s H
 refine TL.st rfl rfl rfl (o_callP rfl ek_16 rfl rfl (.cons _ _ _ _ (.imv _ _) .nil) (impl_GoodThings_p b0 h2)) ?_
 refine au 2 ?_
 refine TL.gcq rfl rfl rfl (.bool _) rfl rfl (fun h => o_loadBx rfl tyS_25 rfl rfl (nb rfl) rfl) ?_
 obtain ⟨r3, h4, H⟩ := bind_s H
 refine TL.gcq rfl rfl rfl (.bool _) rfl rfl (fun h => o_callP rfl ek_17 rfl (evl_1 (gv h rfl)) (.cons _ _ _ _ (.cl _ rfl) .nil) (impl_ygoodRef_p  (gdO_t h4 h))) ?_
 refine au 3 ?_
 refine T.cH H (fun H h => ?_) (fun H h => ?_)
 · refine au 5 ?_
   refine thn_ret ?_
   cases some_i H
   exact ⟨trivial, _, (.tmp _ _ _ _ rfl .nil), .nil⟩
 · refine au 10 ?_
   obtain ⟨m, h6, H⟩ := bind_s H
   obtain ⟨hm, H⟩ : m.length ≤ 4294967295 ∧ sortO leA (m.map (·.1)) = some R0 := by
     cases hd : decide (m.length ≤ 4294967295) with
     | true => rw [hd] at H; exact ⟨of_decide_eq_true hd, H⟩
     | false => rw [hd] at H; cases H
   refine TL.st rfl rfl rfl (o_callOwnM rfl ek_18 rfl rfl (.cons _ _ _ _ (.imv _ _) (.cons _ _ _ _ (.cl _ rfl) .nil)) (lib_18 b0 h6) (fun e he => by obtain ⟨x, _, rfl⟩ := List.mem_map.1 he; rfl)) ?_
   refine TL.st rfl rfl rfl (o_range rfl rfl rfl rfl) ?_
   refine TL.conv (Cs.own (t := 5) 4 rfl (by decide)) ?_
   refine au 2 ?_
   refine T.lqX (X := CollX m) (fun x => [(5, .hd 3 (x.acc.map (c_T_impl_Atom false)).length 0 (x.acc.map (c_T_impl_Atom false)).length), (18, .bx 2 0)])
     (fun x => [.box (c_T_impl_Atom false a1), .dead, .mp (x.cur :: x.rest.map fun e => (kA e.1, V.bool e.2)), .arr .clo 4 (x.acc.map (c_T_impl_Atom false))]) (fun x => x.rest.length)
     (x0 := ⟨[], (.nilF, .nilF), m, .refl _, fun _ => rfl⟩)
     (fun ex fr σ => ex = .exit 0 ∧ ∃ (acc : List T_impl_Atom) (cur : List (V × V)), acc.Perm (m.map (·.1)) ∧ fr = [(5, .hd 3 (acc.map (c_T_impl_Atom false)).length 0 (acc.map (c_T_impl_Atom false)).length)] ∧ σ = [.box (c_T_impl_Atom false a1), .dead, .mp cur, .arr .clo 4 (acc.map (c_T_impl_Atom false))])
     ?_ ?_ (fun _ _ => rfl) (fun x => ⟨bels_iff.1 rfl, trivial, fun e he => ?_, trivial, trivial⟩) (fun x => .cons _ _ _ rfl rfl (.cons _ _ _ rfl rfl .nil)) rfl (.k _ rfl rfl (.k _ rfl rfl .nil))
   · rintro ⟨acc, cur, rest, hp, hcb⟩
     refine au 2 ?_
     refine TL.sq _ rfl rfl rfl (o_next rfl rfl rfl) ?_
     rintro _ _ (⟨he, rfl, rfl⟩ | ⟨i, k, y, hi, rfl, rfl⟩)
     · have hr0 : rest = [] := List.map_eq_nil_iff.1 he
       subst hr0
       refine au 3 ?_
       refine T.cond false rfl (fun h => by cases h) (fun _ => ?_)
       refine T.exit ?_
       refine thn_exit ?_
       exact Pk.of (thn_exit ⟨rfl, acc, _, by simpa using hp, rfl, rfl⟩) (ho := ⟨bels_iff.1 rfl, trivial, fun e he => by simp at he; subst he; exact hcb _, trivial, trivial⟩)
     · obtain ⟨e, hie, rfl, rfl⟩ : ∃ e, rest[i]? = some e ∧ k = kA e.1 ∧ y = V.bool e.2 := by
         simp only [List.getElem?_map] at hi
         cases hx : rest[i]? with
         | none => rw [hx] at hi; cases hi
         | some e => rw [hx] at hi; injection hi with hi; injection hi with h1 h2; exact ⟨e, rfl, h1.symm, h2.symm⟩
       have hil := (List.getElem?_eq_some_iff.1 hie).1
       have hpl : acc.length + rest.length = m.length := by have := hp.length_eq; simpa using this
       have hpe : rest.Perm (e :: rest.eraseIdx i) := by
         exact perm_erase _ _ _ hie
       have hp2 : ((acc ++ [e.1]) ++ (rest.eraseIdx i).map (·.1)).Perm (m.map (·.1)) := by
         refine List.Perm.trans ?_ hp
         rw [List.append_assoc]
         exact List.Perm.append_left _ (by simpa using (hpe.map (·.1)).symm)
       refine TL.conv (Cs.eqS (σ' := [.box (c_T_impl_Atom false a1), .dead, .mp ((kA e.1, V.bool e.2) :: (rest.eraseIdx i).map fun e => (kA e.1, V.bool e.2)), .arr .clo 4 (acc.map (c_T_impl_Atom false))]) (by
         show [_, _, _, _] = _
         rw [← ChangeMaps.map_eraseIdx])) ?_
       refine au 3 ?_
       refine T.cond true rfl (fun _ => ?_) (fun h => by cases h)
       refine au 4 ?_
       refine TL.st rfl rfl rfl (o_entry rfl rfl rfl (fun h => by cases h)) ?_
       refine au 7 ?_
       refine TL.st rfl rfl rfl (o_sliceIm (rows := ([e.1] : List T_impl_Atom).map (c_T_impl_Atom false)) rfl rfl tyS_25 ⟨_, rfl, rfl⟩ (by decide) rfl rfl rfl rfl rfl rfl) ?_
       refine TL.st rfl rfl rfl (o_ap (f := c_T_impl_Atom false) (xs := acc) (ys := ([e.1] : List T_impl_Atom)) (zs := acc ++ [e.1]) rfl rfl tyE_25q rfl rfl rfl rfl (by decide) rfl (fun _ => rfl) (by unfold app; rw [if_pos (by simp; omega)])) ?_
       refine au 1 ?_
       refine TL.conv (Cs.eqS (σ' := [_, .dead, .mp ((kA e.1, V.bool e.2) :: (rest.eraseIdx i).map fun e => (kA e.1, V.bool e.2)), .arr .clo 4 ((acc ++ [e.1]).map (c_T_impl_Atom false)), _]) rfl) ?_
       refine TL.nil ?_
       refine inB_normal ?_
       exact Pk.of (thn_normal ⟨⟨acc ++ [e.1], (kA e.1, V.bool e.2), rest.eraseIdx i, hp2, fun _ => rfl⟩, by simp [List.length_eraseIdx, hil]; omega, rfl, rfl⟩) (ho := ⟨bels_iff.1 rfl, trivial, fun q hq => by
         simp only [List.mem_cons] at hq
         rcases hq with rfl | hq
         · rfl
         · obtain ⟨z, _, rfl⟩ := List.mem_map.1 hq
           rfl, trivial, trivial⟩)
   · rintro _ _ _ ⟨rfl, acc, cur, hp, rfl, rfl⟩
     refine inB_here ?_
     refine au 3 ?_
     refine TL.st rfl rfl rfl (lib_19 rfl ek_19 rfl rfl rfl rfl rfl (sortO_perm hp H)) ?_
     refine au 6 ?_
     refine T.conv (Cs.frzOwn (t := 4) rfl rfl (by rw [List.length_map, List.length_map]; exact sortO_len (sortO_perm hp H))) ?_
     refine T.ret ?_
     exact ⟨trivial, _, (.tmp _ _ _ _ rfl .nil), (.cl _ rfl)⟩
   · simp only [List.mem_cons] at he
     rcases he with rfl | he
     · exact x.curb _
     · obtain ⟨z, _, rfl⟩ := List.mem_map.1 he
       rfl
end Go.G36.AbAnc
