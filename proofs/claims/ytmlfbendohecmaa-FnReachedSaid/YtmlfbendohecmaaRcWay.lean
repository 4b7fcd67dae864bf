/- What yreach computes: the walk (a loop, a range over a map in it, a sort). -/
import Derived.Test.YtmlfbendohecmaaRcSort
import Derived.Test.YtmlfbendohecmaaKzv
set_option linter.all false
set_option maxRecDepth 20000
set_option maxHeartbeats 4000000
namespace Go.G36.RcAnc
open Go Go.Proofs Go.G36 Go.G36.RC Go.Sort

theorem perm_erase {α : Type} : ∀ (l : List α) (i : Nat) (e : α), l[i]? = some e → l.Perm (e :: l.eraseIdx i)
  | [], _, _, h => by simp at h
  | a :: l, 0, e, h => by simp at h; subst h; exact .refl _
  | a :: l, i + 1, e, h => by
    rw [List.eraseIdx_cons_succ]
    exact ((perm_erase l i e (by simpa using h)).cons a).trans (.swap _ _ _)

def encR (x : T_impl_Reach) : List Value := [.string x.Group_, .string x.Member_, .int .i64 x.Steps_]
theorem encR_ok {α : Type} (v : α → T_impl_Reach) : EncK (fun a => c_T_impl_Reach false (v a)) (fun a => encR (v a)) 3 := by
  refine ⟨fun x => rfl, fun _ => rfl, fun x u hv => ?_, fun S w x j c u h1 h2 => ?_, fun S w x j c u h1 h2 => ?_⟩
  · simp [encR] at hv; rcases hv with rfl | rfl | rfl <;> rfl
  · unfold c_T_impl_Reach at h1
    unfold encR at h2
    rcases j with _ | _ | _ | j
    · simp at h1 h2; subst h1; subst h2; exact .str _
    · simp at h1 h2; subst h1; subst h2; exact .str _
    · simp at h1 h2; subst h1; subst h2; exact .int _ _
    · simp at h1
  · unfold c_T_impl_Reach at h1
    unfold encR
    rcases j with _ | _ | _ | j
    · simp at h1; subst h1; cases h2; rfl
    · simp at h1; subst h1; cases h2; rfl
    · simp at h1; subst h1; cases h2; rfl
    · simp at h1
theorem lib_49 {o : Oper} {fr : Fr} {σ : ASt} {p L : Nat} {xs ys : List T_impl_Reach} {x y z : Operand} {ts : Array TypeId}
    (ho : o.op = .call { callee := .value z, args := #[x, y], argTypes := ts }) (hcall : ∀ (us : Array Value) (w : World), (callFunc 49 us).run Try.prog w = .ok (.enter 49 us) w) (hz : evalE fr z = some (.fn 49 [] []))
    (hx : evalE fr x = some (.hd p L 0 L)) (hy : evalE fr y = some (.fn 50 [] [])) (hσ : σ[p]? = some (.arr .clo 3 (xs.map (c_T_impl_Reach false)))) (hL : (xs.map (c_T_impl_Reach false)).length = L) (h : sortR xs = some ys) :
    Does Try.prog o fr σ .any (σ.set p (.arr .clo 3 (ys.map (c_T_impl_Reach false)))) := by
  unfold sortR at h
  split at h
  case isFalse => cases h
  rename_i hn
  obtain ⟨zs, hzs⟩ : ∃ zs : List T_impl_Reach, zs = if xs = [] then [default] else xs := ⟨_, rfl⟩
  have hzn : (zs.map keyR).Nodup := by
    rw [hzs]
    split
    · simp
    · exact hn
  have hz0 : zs ≠ [] := by
    rw [hzs]
    split
    · simp
    · assumption
  have hmem : ∀ a, a ∈ xs → a ∈ zs := fun a ha => by
    rw [hzs, if_neg (List.ne_nil_of_mem ha)]; exact ha
  letI : Inhabited {a : T_impl_Reach // a ∈ zs} := ⟨⟨zs.head hz0, List.head_mem hz0⟩⟩
  obtain ⟨xa, hxa⟩ : ∃ xa : List {a : T_impl_Reach // a ∈ zs}, xa.map (·.1) = xs := ⟨xs.attachWith (· ∈ zs) hmem, by simp⟩
  have hm : ∀ l : List {a : T_impl_Reach // a ∈ zs}, l.map (fun a => c_T_impl_Reach false a.1) = (l.map (·.1)).map (c_T_impl_Reach false) := fun l => by simp
  obtain ⟨hlim, rfl⟩ := sortO_s h
  have hs : sortO (fun a b : {a : T_impl_Reach // a ∈ zs} => leR a.1 b.1) xa = some (xa.mergeSort fun a b => leR a.1 b.1) := by
    unfold sortO
    rw [if_pos (by rw [← hxa] at hlim; simpa using hlim)]
  have hms : (xa.mergeSort fun a b => leR a.1 b.1).map (·.1) = xs.mergeSort leR := by
    rw [List.map_mergeSort (s := leR) (fun a _ b _ => rfl), hxa]
  have := o_sortF (P := Try.prog) (o := o) (fr := fr) (σ := σ) (g := 50) (p := p) (L := L) (fid := 49) (f := fun a : {a : T_impl_Reach // a ∈ zs} => c_T_impl_Reach false a.1) (enc := fun a => encR a.1) (k := 3) (le := fun a b => leR a.1 b.1) (xs := xa) (x := x) (y := y) (z := z) (ts := ts)
    (encR_ok (fun a : {a : T_impl_Reach // a ∈ zs} => a.1)) (fun blk cap d w hH hblk hsz => ?_) (fun A cap w => AnyF.slices_SortFunc_none { Try.sortReach with } A cap _ w) ho hcall hz hx hy (by rw [hm, hxa]; exact hσ) (by rw [hm, hxa]; exact hL) hs
  · rw [hm, hms] at this
    exact this
  · exact AnyQ.slices_SortFunc_total Try.sortReach 3 Try.isAgg35 Try.sizeOf35 (fun a : {a : T_impl_Reach // a ∈ zs} => encR a.1) (encR_ok (fun a : {a : T_impl_Reach // a ∈ zs} => a.1)).len (encR_ok (fun a : {a : T_impl_Reach // a ∈ zs} => a.1)).one (fun a b => cmpR a.1 b.1) (CmpOk.swo ⟨fun _ => cmpR_ok.refl _, fun _ _ _ => cmpR_ok.trans _ _ _, fun _ _ => cmpR_ok.anti _ _, fun _ _ _ => cmpR_ok.zl _ _ _, fun _ _ _ => cmpR_ok.zr _ _ _⟩) 50 #[] blk 0 cap d w
      (enters_of Try.func50 (by kernel_rfl) rfl) (fun m' os dk hs x y => Try.cmp50_calls _ _ _ _ _ _ _) hH hblk hsz
      (fun x y h k => Subtype.ext (key_inj hzn x.1 x.2 y.1 y.2 (leR_anti (by simpa [leR, ltOf] using k) (by simpa [leR, ltOf] using h))))
theorem wrap_in (x : Int) (h0 : -1 ≤ x) (h1 : x ≤ 4294967296) : IntKind.i64.wrap x = x := by rw [IntKind.wrap_i64]; omega
theorem gath_pre (a0 : List T_impl_Nest) : ∀ (k i : Nat) (l : List T_impl_Reach), gathN a0 (i + k) = some l → ∃ l', gathN a0 i = some l'
  | 0, i, l, h => ⟨l, h⟩
  | k + 1, i, l, h => by
    rw [show i + (k + 1) = (i + k) + 1 by omega, gathN] at h
    cases h1 : gathN a0 (i + k) with
    | none => rw [h1] at h; cases h
    | some l1 => exact gath_pre a0 k i l1 h1
/-- Where the outer loop stands. -/
structure OutX (a0 : List T_impl_Nest) where
  i : Nat
  acc : List T_impl_Reach
  l : List T_impl_Reach
  hi : i ≤ a0.length
  hl : gathN a0 i = some l
  hp : acc.Perm l
abbrev rcR (g : ByteArray) (e : ByteArray × Int) : T_impl_Reach := ⟨g, e.1, e.2⟩
/-- Where the gathering of one group's stands. -/
structure InX (g : ByteArray) (acc0 : List T_impl_Reach) (m : List (ByteArray × Int)) where
  acc : List T_impl_Reach
  cur : V × V
  rest : List (ByteArray × Int)
  perm : (acc ++ rest.map (rcR g)).Perm (acc0 ++ m.map (rcR g))
  curb : ∀ N, bel N cur.2 = true

theorem tyE_35q : TyE Try.prog 35 3 := ⟨_, _, rfl, rfl, rfl, rfl, by decide, by decide⟩
theorem tyS_35q : TyS Try.prog 35 true 3 := ⟨rfl, rfl⟩
theorem ek_33 : En Try.prog 33 := .of Try.func33 rfl rfl
theorem ek_49 : En Try.prog 49 := .of Try.func49 rfl rfl
abbrev mpR (e : ByteArray × Int) : V × V := (V.str e.1, V.int .i64 e.2)
theorem lib_27 (b0 : Bool) {a0 : List T_impl_Nest} {R0 : List T_impl_Reach} (H : reach a0 = some R0) : Pure Try.prog 27 [.im b0 (a0.map (c_T_impl_Nest false))] (.im false (R0.map (c_T_impl_Reach false))) := by
 unfold reach at H
 obtain ⟨hn, H⟩ : a0.length ≤ 4294967295 ∧ (gathN a0 a0.length).bind sortR = some R0 := by
   cases hd : decide (a0.length ≤ 4294967295) with
   | true => rw [hd] at H; exact ⟨of_decide_eq_true hd, H⟩
   | false => rw [hd] at H; cases H
 obtain ⟨L, hL, H⟩ := bind_s H
 refine CallT.of_TN (n := 50) Try.func27 rfl rfl rfl rfl ?_
 refine au 7 ?_
 refine TL.conv (Cs.own (t := 3) 3 rfl (by decide)) ?_
 refine au 5 ?_
 refine TL.st rfl rfl rfl (o_lenL (f := c_T_impl_Nest false) rfl rfl rfl) ?_
 refine au 3 ?_
 refine T.lqX (X := OutX a0) (fun x => [(0, .im b0 (a0.map (c_T_impl_Nest false))), (3, .hd 0 (x.acc.map (c_T_impl_Reach false)).length 0 (x.acc.map (c_T_impl_Reach false)).length), (8, .im b0 (a0.map (c_T_impl_Nest false))), (9, .int .i64 (a0.length : Int)), (10, .int .i64 (x.i : Int))])
   (fun x => [.arr .clo 3 (x.acc.map (c_T_impl_Reach false))]) (fun x => a0.length - x.i) (x0 := ⟨0, [], [], Nat.zero_le _, rfl, .refl _⟩)
   (fun ex fr σ => ex = .exit 0 ∧ ∃ acc : List T_impl_Reach, acc.Perm L ∧ fr = [(3, .hd 0 (acc.map (c_T_impl_Reach false)).length 0 (acc.map (c_T_impl_Reach false)).length)] ∧ σ = [.arr .clo 3 (acc.map (c_T_impl_Reach false))])
   ?_ ?_ (fun _ _ => rfl) (fun x => ⟨trivial, trivial⟩) (fun x => .cons _ _ _ rfl (by cases b0 <;> rfl) (.cons _ _ _ rfl rfl (.cons _ _ _ rfl (by cases b0 <;> rfl) (.cons _ _ _ rfl rfl (.cons _ _ _ rfl rfl .nil))))) rfl (.k _ rfl (by cases b0 <;> rfl) (.k _ rfl rfl (.k _ rfl (by cases b0 <;> rfl) (.k _ rfl rfl (.k _ rfl rfl .nil)))))
 · rintro ⟨i, acc, l, hi, hl, hp⟩
   dsimp only
   refine au 5 ?_
   by_cases hlt : i < a0.length
   · have hd : decide ((i : Int) < (a0.length : Int)) = true := decide_eq_true (by omega)
     refine T.cond true (congrArg (fun b => some (V.bool b)) hd) (fun _ => ?_) (fun h => by cases h)
     obtain ⟨l2, hl2⟩ := gath_pre a0 (a0.length - (i + 1)) (i + 1) L (by rw [show i + 1 + (a0.length - (i + 1)) = a0.length by omega]; exact hL)
     have hl3 := hl2
     rw [gathN, hl] at hl3
     obtain ⟨l0, hl0, hl3⟩ := bind_s hl3
     obtain rfl := Option.some.inj hl0
     obtain ⟨r, hr, hl3⟩ := bind_s hl3
     obtain ⟨hb, hl3⟩ : l.length + r.length ≤ 4294967295 ∧ l ++ r = l2 := by
       cases hd : decide (l.length + r.length ≤ 4294967295) with
       | true => rw [hd] at hl3; exact ⟨of_decide_eq_true hd, Option.some.inj hl3⟩
       | false => rw [hd] at hl3; cases hl3
     have hw : IntKind.i64.wrap ((i : Int) + 1) = ((i + 1 : Nat) : Int) := by rw [wrap_in ((i : Int) + 1) (by omega) (by omega)]; omega
     unfold rowsAt at hr
     obtain ⟨n, h5, hr⟩ := bind_s hr
     obtain ⟨pn, h6, hr⟩ := bind_s hr
     refine au 6 ?_
     refine TL.st rfl rfl rfl (o_ix (f := c_T_impl_Nest false) rfl rfl tyS_26 rfl rfl h5 rfl) ?_
     refine au 7 ?_
     refine T.drawn rfl ?_
     refine ad 3 ?_
     refine TD.cq rfl rfl rfl (.bool _) rfl (fun h _ => o_move rfl rfl) ?_
     refine TD.cq rfl rfl rfl (.bool _) rfl (fun h _ => o_move rfl rfl) ?_
     refine TD.cq rfl rfl rfl (.bool _) rfl (fun h _ => o_ari rfl (gv h rfl) rfl rfl) ?_
     refine TD.cq rfl rfl rfl (.bool _) rfl (fun h _ => o_ix (f := c_T_impl_Nest false) (a := pn) rfl rfl tyS_26 (gv h rfl) (gv h rfl) (by
       have h7 : (0 : Int) < i := of_decide_eq_true h
       show idx a0 (IntKind.i64.wrap ((i : Int) - 1)) = some pn
       rw [wrap_in ((i : Int) - 1) (by omega) (by omega)]; exact gdO_t h6 h) rfl) ?_
     refine TD.cq rfl rfl rfl (.bool _) rfl (fun h _ => o_fieldAddr rfl rfl rfl tyS_9 (by decide) (gv h rfl) rfl trivial) ?_
     refine TD.cq rfl rfl rfl (.bool _) rfl (fun h _ => o_loadRf rfl tyS_9 (gv h rfl) (nb rfl) rfl) ?_
     refine TD.cr rfl rfl rfl (.bool _) rfl (fun h => o_fieldAddr rfl rfl rfl tyS_9 (by decide) rfl rfl ⟨_, rfl, Nat.le_of_ble_eq_true rfl⟩) ?_
     refine TD.cr rfl rfl rfl (.bool _) rfl (fun h => o_loadBx rfl tyS_9 (gv h rfl) rfl (nb rfl) rfl) ?_
     refine TD.cq rfl rfl rfl (.bool _) rfl (fun h _ => o_str rfl (gv h rfl) (gv h rfl) rfl) ?_
     refine TD.qs rfl rfl (fun _ => o_and rfl rfl rfl (fun k => Gd_t k) rfl) ?_
     refine TD.nil ⟨rfl, ?_⟩
     refine thn_normal ?_
     refine T.cH hr (fun hr h => ?_) (fun hr h => ?_)
     · obtain rfl := Option.some.inj hr
       refine T.exit ?_
       refine thn_exit ?_
       refine inB_here ?_
       refine au 4 ?_
       rw [hw]
       exact Pk.of (thn_normal ⟨⟨i + 1, acc, l2, hlt, hl2, by simpa [← hl3] using hp⟩, by show a0.length - (i + 1) < a0.length - i; omega, rfl, rfl⟩)
     · obtain ⟨m, hm, hr⟩ := bind_s hr
       obtain rfl := Option.some.inj hr
       refine au 6 ?_
       refine TL.st rfl rfl rfl (o_callOwnM rfl ek_33 rfl rfl (.cons _ _ _ _ (.imv _ _) (.cons _ _ _ _ (.cl _ rfl) .nil)) (impl_yfrom_o b0 hm) (fun e he => by obtain ⟨x, _, rfl⟩ := List.mem_map.1 he; rfl)) ?_
       refine TL.st rfl rfl rfl (o_range rfl rfl rfl rfl) ?_
       refine au 2 ?_
       refine T.lqX (X := InX n.Group_ acc m) (fun x => [(0, .im b0 (a0.map (c_T_impl_Nest false))), (3, .hd 0 (x.acc.map (c_T_impl_Reach false)).length 0 (x.acc.map (c_T_impl_Reach false)).length), (5, .bx 1 0), (8, .im b0 (a0.map (c_T_impl_Nest false))), (9, .int .i64 (a0.length : Int)), (10, .int .i64 (i : Int)), (32, .bx 3 0)])
         (fun x => [.arr .clo 3 (x.acc.map (c_T_impl_Reach false)), .box (c_T_impl_Nest false n), .dead, .mp (x.cur :: x.rest.map mpR)]) (fun x => x.rest.length)
         (x0 := ⟨acc, (.nilF, .nilF), m, .refl _, fun _ => rfl⟩)
         (fun ex fr σ => ex = .exit 2 ∧ ∃ (acc' : List T_impl_Reach) (cur : List (V × V)), acc'.Perm (acc ++ m.map (rcR n.Group_)) ∧ fr = [(0, .im b0 (a0.map (c_T_impl_Nest false))), (3, .hd 0 (acc'.map (c_T_impl_Reach false)).length 0 (acc'.map (c_T_impl_Reach false)).length), (8, .im b0 (a0.map (c_T_impl_Nest false))), (9, .int .i64 (a0.length : Int)), (10, .int .i64 (i : Int))] ∧ σ = [.arr .clo 3 (acc'.map (c_T_impl_Reach false)), .box (c_T_impl_Nest false n), .dead, .mp cur])
         ?_ ?_ (fun _ _ => rfl) (fun x => ⟨trivial, bels_iff.1 rfl, trivial, fun e he => ?_, trivial⟩) (fun x => .cons _ _ _ rfl (by cases b0 <;> rfl) (.cons _ _ _ rfl rfl (.cons _ _ _ rfl rfl (.cons _ _ _ rfl (by cases b0 <;> rfl) (.cons _ _ _ rfl rfl (.cons _ _ _ rfl rfl (.cons _ _ _ rfl rfl .nil))))))) rfl (.k _ rfl (by cases b0 <;> rfl) (.k _ rfl rfl (.k _ rfl rfl (.k _ rfl (by cases b0 <;> rfl) (.k _ rfl rfl (.k _ rfl rfl (.k _ rfl rfl .nil)))))))
       · rintro ⟨acc2, cur, rest, hp2, hcb⟩
         dsimp only
         refine au 2 ?_
         refine TL.sq _ rfl rfl rfl (o_next rfl rfl rfl) ?_
         rintro _ _ (⟨he, rfl, rfl⟩ | ⟨j, k, y, hj, rfl, rfl⟩)
         · have hr0 : rest = [] := List.map_eq_nil_iff.1 he
           subst hr0
           refine au 3 ?_
           refine T.cond false rfl (fun h => by cases h) (fun _ => ?_)
           refine T.exit ?_
           refine thn_exit ?_
           exact Pk.of (thn_exit ⟨rfl, acc2, _, by simpa using hp2, rfl, rfl⟩) (ho := ⟨trivial, bels_iff.1 rfl, trivial, fun e he => by simp at he; subst he; exact hcb _, trivial⟩)
         · obtain ⟨e, hie, rfl, rfl⟩ : ∃ e, rest[j]? = some e ∧ k = V.str e.1 ∧ y = V.int .i64 e.2 := by
             simp only [List.getElem?_map] at hj
             cases hx : rest[j]? with
             | none => rw [hx] at hj; cases hj
             | some e => rw [hx] at hj; injection hj with hj; injection hj with h1 h2; exact ⟨e, rfl, h1.symm, h2.symm⟩
           have hil := (List.getElem?_eq_some_iff.1 hie).1
           have hpl : acc2.length + rest.length = l.length + m.length := by have := hp2.length_eq; have h8 := hp.length_eq; simp at this; omega
           have hpe : rest.Perm (e :: rest.eraseIdx j) := perm_erase _ _ _ hie
           have hp3 : ((acc2 ++ [rcR n.Group_ e]) ++ (rest.eraseIdx j).map (rcR n.Group_)).Perm (acc ++ m.map (rcR n.Group_)) := by
             refine List.Perm.trans ?_ hp2
             rw [List.append_assoc]
             exact List.Perm.append_left _ (by simpa using (hpe.map (rcR n.Group_)).symm)
           have hmb : l.length + m.length ≤ 4294967295 := by simpa using hb
           refine TL.conv (Cs.eqS (σ' := [.arr .clo 3 (acc2.map (c_T_impl_Reach false)), .box (c_T_impl_Nest false n), .dead, .mp ((V.str e.1, V.int .i64 e.2) :: (rest.eraseIdx j).map mpR)]) (by
             show [_, _, _, _] = _
             rw [← ChangeMaps.map_eraseIdx])) ?_
           refine au 3 ?_
           refine T.cond true rfl (fun _ => ?_) (fun h => by cases h)
           refine au 4 ?_
           refine TL.st rfl rfl rfl (o_entry rfl rfl rfl (fun h => by cases h)) ?_
           refine au 12 ?_
           refine TL.st rfl rfl rfl (o_sliceIm (rows := ([rcR n.Group_ e] : List T_impl_Reach).map (c_T_impl_Reach false)) rfl rfl tyS_35q ⟨_, rfl, rfl⟩ (by decide) rfl rfl rfl rfl rfl rfl) ?_
           refine TL.st rfl rfl rfl (o_ap (f := c_T_impl_Reach false) (xs := acc2) (ys := ([rcR n.Group_ e] : List T_impl_Reach)) (zs := acc2 ++ [rcR n.Group_ e]) rfl rfl tyE_35q rfl rfl rfl rfl (by decide) rfl (fun _ => rfl) (by unfold app; rw [if_pos (by simp; omega)])) ?_
           refine au 2 ?_
           exact Pk.of (thn_normal ⟨⟨acc2 ++ [rcR n.Group_ e], (V.str e.1, V.int .i64 e.2), rest.eraseIdx j, hp3, fun _ => rfl⟩, by simp [List.length_eraseIdx, hil]; omega, rfl, rfl⟩) (ho := ⟨trivial, bels_iff.1 rfl, trivial, fun q hq => by
             simp only [List.mem_cons] at hq
             rcases hq with rfl | hq
             · rfl
             · obtain ⟨z, _, rfl⟩ := List.mem_map.1 hq
               rfl, trivial⟩)
       · rintro _ _ _ ⟨rfl, acc2, cur, hp2, rfl, rfl⟩
         refine inB_here ?_
         refine au 4 ?_
         rw [hw]
         exact Pk.of (thn_normal ⟨⟨i + 1, acc2, l2, hlt, hl2, by rw [← hl3]; exact hp2.trans (List.Perm.append_right _ hp)⟩, by show a0.length - (i + 1) < a0.length - i; omega, rfl, rfl⟩)
       · simp only [List.mem_cons] at he
         rcases he with rfl | he
         · exact x.curb _
         · obtain ⟨z, _, rfl⟩ := List.mem_map.1 he
           rfl
   · have hd : decide ((i : Int) < (a0.length : Int)) = false := decide_eq_false (by omega)
     refine T.cond false (congrArg (fun b => some (V.bool b)) hd) (fun h => by cases h) (fun _ => ?_)
     obtain rfl : i = a0.length := by omega
     obtain rfl : l = L := by rw [hl] at hL; exact Option.some.inj hL
     refine T.exit ?_
     refine thn_exit ?_
     exact Pk.of (thn_exit ⟨rfl, acc, hp, rfl, rfl⟩)
 · rintro _ _ _ ⟨rfl, acc, hp, rfl, rfl⟩
   refine inB_here ?_
   refine au 3 ?_
   refine TL.st rfl rfl rfl (lib_49 rfl ek_49 rfl rfl rfl rfl rfl (sortR_perm hp H)) ?_
   refine au 6 ?_
   refine T.conv (Cs.frzOwn (t := 2) rfl rfl (by
     have := sortR_perm hp H
     unfold sortR at this
     split at this
     · rw [List.length_map, List.length_map]; exact sortO_len this
     · cases this)) ?_
   refine T.ret ?_
   exact ⟨trivial, _, (.tmp _ _ _ _ rfl .nil), (.cl _ rfl)⟩
end Go.G36.RcAnc
/- What WayOf computes: the walk. -/
set_option linter.all false
set_option maxRecDepth 20000
set_option maxHeartbeats 4000000
namespace Go.G36.RcAnc
open Go Go.Proofs Go.G36 Go.G36.RC
theorem ek_21 : En Try.prog 21 := .of Try.func21 rfl rfl
theorem tyE_9q : TyE Try.prog 9 1 := ⟨_, _, rfl, rfl, rfl, rfl, by decide, by decide⟩
theorem lib_11 (b0 : Bool) {a0 : List T_impl_Nest} {a1 a2 : ByteArray} {R0 : List ByteArray} (H : wayOf a0 a1 a2 = some R0) : Pure Try.prog 11 [.im b0 (a0.map (c_T_impl_Nest false)), .str a1, .str a2] (.im false (R0.map (c_str))) := by
 unfold wayOf at H
 refine CallT.of_TN (n := 61) Try.func11 rfl rfl rfl rfl ?_
 obtain ⟨r1, h2, H⟩ := bind_s H
 refine au 8 ?_
 refine TL.st rfl rfl rfl (o_callP rfl ek_21 rfl rfl (.cons _ _ _ _ (.imv _ _) .nil) (impl_GoodNests_p b0 h2)) ?_
 refine au 2 ?_
 refine T.cH H (fun H h => ?_) (fun H h => ?_)
 · repeat refine au 1 ?_
   refine thn_ret ?_
   cases some_i H
   exact ⟨trivial, _, (.tmp _ _ _ _ rfl .nil), .nil⟩
 · obtain ⟨s, hs, H⟩ := bind_s H
   repeat refine au 1 ?_
   refine TL.st rfl rfl rfl (o_callOwnM rfl ek_33 rfl rfl (.cons _ _ _ _ (.imv _ _) (.cons _ _ _ _ (.cl _ rfl) .nil)) (impl_yfrom_o b0 hs) (fun e he => by obtain ⟨x, _, rfl⟩ := List.mem_map.1 he; rfl)) ?_
   refine au 1 ?_
   refine TL.st rfl rfl rfl (o_lookup (fk := V.str) (fv := V.int .i64) (xs := s) (z := 0) rfl rfl (key_str rfl) rfl rfl rfl rfl (fun S w => ⟨_, rfl, .int _ _⟩)) ?_
   repeat refine au 1 ?_
   refine T.cH H (fun H h => ?_) (fun H h => ?_)
   · repeat refine au 1 ?_
     refine thn_ret ?_
     cases some_i H
     exact ⟨trivial, _, (.tmp _ _ _ _ rfl .nil), .nil⟩
   · repeat refine au 1 ?_
     refine TL.st rfl rfl rfl (o_sliceHd (rows := ([a1] : List ByteArray).map c_str) .clo rfl rfl tyS_9 ⟨_, rfl, rfl⟩ (by decide) rfl rfl rfl rfl (by decide) (fun _ => rfl) (by decide) rfl (by decide)) ?_
     repeat refine au 1 ?_
     obtain ⟨way, hw, H⟩ := bind_s H
     refine T.lq (fun q => match q with | (way, at_, left) => [(0, .im b0 (a0.map (c_T_impl_Nest false))), (2, .str a2), (7, .int .i64 left), (8, .hd 1 (way.map c_str).length 0 (way.map c_str).length), (9, .str at_)])
      (fun q => match q with | (way, at_, left) => [mpO V.str (V.int .i64) s, .arr .clo 1 (way.map c_str)])
      (fun way ex fr σ => ex = .exit 0 ∧ fr = [(2, .str a2), (8, .hd 1 (way.map c_str).length 0 (way.map c_str).length)] ∧ σ = [mpO V.str (V.int .i64) s, .arr .clo 1 (way.map c_str)]) hw ?_ ?_
     · rintro ⟨way, at_, left⟩ y1 H
       repeat refine au 1 ?_
       refine T.cH H (fun H h => ?_) (fun H h => ?_)
       · obtain ⟨q, hq, H⟩ := bind_s H
         repeat refine au 1 ?_
         refine TL.st rfl rfl rfl (o_lenL (f := c_T_impl_Nest false) rfl rfl rfl) ?_
         refine au 3 ?_
         refine T.lq (fun i => [(0, .im b0 (a0.map (c_T_impl_Nest false))), (2, .str a2), (7, .int .i64 left), (8, .hd 1 (way.map c_str).length 0 (way.map c_str).length), (9, .str at_), (29, .im b0 (a0.map (c_T_impl_Nest false))), (30, .int .i64 (a0.length : Int)), (31, .int .i64 i)])
          (fun _ => [mpO V.str (V.int .i64) s, .arr .clo 1 (way.map c_str)])
          (fun q ex fr σ => ex = .exit 2 ∧ fr = [(0, .im b0 (a0.map (c_T_impl_Nest false))), (2, .str a2), (7, .int .i64 left), (8, .hd 1 (way.map c_str).length 0 (way.map c_str).length), (9, .str (pickAt at_ q))] ∧ σ = [mpO V.str (V.int .i64) s, .arr .clo 1 (way.map c_str)]) hq ?_ ?_
         · rintro i y2 H
           refine au 5 ?_
           refine T.cH H (fun H h => ?_) (fun H h => ?_)
           · obtain ⟨n, hn, H⟩ := bind_s H
             refine au 5 ?_
             refine TL.st rfl rfl rfl (o_ix (f := c_T_impl_Nest false) rfl rfl tyS_26 rfl rfl hn rfl) ?_
             refine au 11 ?_
             cases hc : (n.Group_.toList == at_.toList) with
             | true =>
               rw [hc] at H
               obtain ⟨s2, hs2, H⟩ := bind_s H
               refine TL.gt rfl rfl rfl rfl rfl (o_move rfl rfl) ?_
               refine TL.gt rfl rfl rfl rfl rfl (o_fieldAddr rfl rfl rfl tyS_9 (by decide) rfl rfl ⟨_, rfl, Nat.le_of_ble_eq_true rfl⟩) ?_
               refine TL.gt rfl rfl rfl rfl rfl (o_loadBx rfl tyS_9 rfl rfl (nb rfl) rfl) ?_
               refine TL.gt rfl rfl rfl rfl rfl (o_callOwnM rfl ek_33 rfl rfl (.cons _ _ _ _ (.imv _ _) (.cons _ _ _ _ (.cl _ rfl) .nil)) (impl_yfrom_o b0 hs2) (fun e he => by obtain ⟨x, _, rfl⟩ := List.mem_map.1 he; rfl)) ?_
               refine TL.gt rfl rfl rfl rfl rfl (o_move rfl rfl) ?_
               refine TL.gt rfl rfl rfl rfl rfl (o_lookup (fk := V.str) (fv := V.int .i64) (xs := s2) (z := 0) rfl rfl (key_str rfl) rfl rfl rfl rfl (fun S w => ⟨_, rfl, .int _ _⟩)) ?_
               refine TL.gt rfl rfl rfl rfl rfl (o_move rfl rfl) ?_
               refine TL.gt rfl rfl rfl rfl rfl (o_ari rfl rfl rfl rfl) ?_
               refine TL.gt rfl rfl rfl rfl rfl (o_ari rfl rfl rfl rfl) ?_
               refine TL.st rfl rfl rfl (o_and rfl rfl rfl (fun _ => rfl) rfl) ?_
               repeat refine au 1 ?_
               refine T.cH H (fun H h => ?_) (fun H h => ?_)
               · repeat refine au 1 ?_
                 refine inB_other rfl (thn_exit ?_)
                 exact Pk.of (thn_exit ⟨.inr n.Member_, (some_i H).symm, rfl, rfl, rfl⟩)
               · repeat refine au 1 ?_
                 exact Pk.of (thn_normal ⟨(IntKind.i64.wrap (i + 1)), (some_i H).symm, rfl, rfl⟩)
             | false =>
               rw [hc] at H
               refine TL.gh rfl rfl rfl rfl rfl rfl ?_
               refine TL.gh rfl rfl rfl rfl rfl rfl ?_
               refine TL.gh rfl rfl rfl rfl rfl rfl ?_
               refine TL.gh rfl rfl rfl rfl rfl rfl ?_
               refine TL.gh rfl rfl rfl rfl rfl rfl ?_
               refine TL.gh rfl rfl rfl rfl rfl rfl ?_
               refine TL.gh rfl rfl rfl rfl rfl rfl ?_
               refine TL.gh rfl rfl rfl rfl rfl rfl ?_
               refine TL.gh rfl rfl rfl rfl rfl rfl ?_
               refine TL.st rfl rfl rfl (o_and (c := true) rfl rfl rfl (fun h => by cases h) rfl) ?_
               repeat refine au 1 ?_
               refine T.cond false rfl (fun h => by cases h) (fun _ => ?_)
               repeat refine au 1 ?_
               exact Pk.of (thn_normal ⟨(IntKind.i64.wrap (i + 1)), (some_i H).symm, rfl, rfl⟩)
           · refine T.exit ?_
             refine thn_exit ?_
             exact Pk.of (thn_exit ⟨.inl (), (some_i H).symm, rfl, rfl, rfl⟩)
         · rintro _ _ _ ⟨rfl, rfl, rfl⟩
           refine inB_here ?_
           repeat refine au 1 ?_
           obtain ⟨way2, hw2, H⟩ := bind_s H
           refine TL.st rfl rfl rfl (o_sliceIm (rows := ([(pickAt at_ q)] : List ByteArray).map (c_str)) rfl rfl tyS_9 ⟨_, rfl, rfl⟩ (by decide) rfl rfl rfl rfl rfl rfl) ?_
           refine TL.st rfl rfl rfl (o_ap (f := c_str) (xs := way) (ys := ([(pickAt at_ q)] : List ByteArray)) rfl rfl tyE_9q rfl rfl rfl rfl (by decide) rfl (fun _ => rfl) hw2) ?_
           refine au 7 ?_
           exact Pk.of (thn_normal ⟨(way2, (pickAt at_ q), (IntKind.i64.wrap (left - 1))), (some_i H).symm, rfl, rfl⟩)
       · refine T.exit ?_
         refine thn_exit ?_
         exact Pk.of (thn_exit ⟨way, (some_i H).symm, rfl, rfl, rfl⟩)
     · rintro _ _ _ ⟨rfl, rfl, rfl⟩
       refine inB_here ?_
       repeat refine au 1 ?_
       refine TL.st rfl rfl rfl (o_sliceIm (rows := ([a2] : List ByteArray).map (c_str)) rfl rfl tyS_9 ⟨_, rfl, rfl⟩ (by decide) rfl rfl rfl rfl rfl rfl) ?_
       refine TL.st rfl rfl rfl (o_ap (f := c_str) (xs := way) (ys := ([a2] : List ByteArray)) rfl rfl tyE_9q rfl rfl rfl rfl (by decide) rfl (fun _ => rfl) H) ?_
       refine au 3 ?_
       exact ⟨trivial, _, (.tmp _ _ _ _ rfl .nil), (.own rfl (by decide) rfl)⟩
end Go.G36.RcAnc
