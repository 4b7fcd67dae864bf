/- Everything above a ref: the walk of yancestors (a queue, a map). -/
import Derived.Test.YtnohlppnebcefaaGreatAbDef
set_option linter.all false
set_option maxRecDepth 20000
set_option maxHeartbeats 4000000
namespace Go.G36.AbAnc
open Go Go.Proofs Go.G36 Go.G36.AB
abbrev kA : T_impl_Atom → V := fun e => .agg (c_T_impl_Atom false e)
theorem consE {α : Type} {a b : α} {l m : List α} (h : a = b) (k : l = m) : a :: l = b :: m := by rw [h, k]
theorem tyE_25q : TyE Tryz.prog 25 4 := ⟨_, _, rfl, rfl, rfl, rfl, by decide, by decide⟩
theorem ek_43 : En Tryz.prog 43 := .of Tryz.func43 rfl rfl
theorem lib_18 (b0 : Bool) {a0 : List T_impl_Thing} {a1 : T_impl_Atom} {R0 : List (T_impl_Atom × Bool)} (H : anc a0 a1 = some R0) : OwnM Tryz.prog 18 [.im b0 (a0.map (c_T_impl_Thing false)), .agg (c_T_impl_Atom false a1)] (R0.map fun e => (V.agg (c_T_impl_Atom false e.1), V.bool e.2)) := by
 refine CallT.of_TN (n := 48) Tryz.func18 rfl rfl rfl rfl ?_
 refine au 7 ?_
 refine TL.st rfl rfl rfl (o_makeMap rfl) ?_
 refine au 1 ?_
 refine TL.sn rfl rfl (o_insert (fk := kA) (fv := V.bool) (xs := []) (k := a1) (v := true) rfl rfl (key_agg rfl eqT_25) rfl rfl rfl rfl rfl) ?_
 refine au 7 ?_
 refine TL.st rfl rfl rfl (o_sliceHd (rows := ([a1] : List T_impl_Atom).map (c_T_impl_Atom false)) .clo rfl rfl tyS_25 ⟨_, rfl, rfl⟩ (by decide) rfl rfl rfl rfl (by decide) (fun _ => rfl) (by decide) rfl (by decide)) ?_
 refine au 3 ?_
 refine T.lqE (E := List T_impl_Atom) (e0 := []) (fun e s => match s with | (row, m) => [(0, .im b0 (a0.map (c_T_impl_Thing false))), (5, .mp 1), (6, .hd 2 ((e ++ row).map (c_T_impl_Atom false)).length e.length row.length)])
  (fun e s => match s with | (row, m) => [.box (c_T_impl_Atom false a1), mpO kA V.bool m, .arr .clo 4 ((e ++ row).map (c_T_impl_Atom false))])
  (fun m ex fr σ => ex = .exit 0 ∧ fr = [(5, .mp 1)] ∧ ∃ ys : List (List V), σ = [.box (c_T_impl_Atom false a1), mpO kA V.bool m, .arr .clo 4 ys]) H ?_ ?_
 · rintro e ⟨row, m⟩ y6 H
   refine au 4 ?_
   refine TL.st rfl rfl rfl (o_lenQ (f := c_T_impl_Atom false) rfl rfl rfl rfl) ?_
   refine au 2 ?_
   refine T.cH H (fun H h => ?_) (fun H h => ?_)
   · refine au 7 ?_
     obtain ⟨x, h8, H⟩ := bind_s H
     refine TL.st rfl rfl rfl (o_ixQ (f := c_T_impl_Atom false) rfl rfl tyS_25 rfl rfl rfl h8 rfl) ?_
     refine TL.st rfl rfl rfl (o_loadEl rfl tyS_25 rfl rfl rfl (by rw [List.getElem?_map, (idx_s (idxQ h8)).2]; rfl) (nb rfl) rfl) ?_
     obtain ⟨⟨r9, r10⟩, h11, H⟩ := bind_s H
     refine TL.st rfl rfl rfl (o_callP rfl ek_43 rfl rfl (.cons _ _ _ _ (.imv _ _) (.cons _ _ _ _ (.cl _ rfl) .nil)) (impl_yfindThing_p b0 h11)) ?_
     refine au 11 ?_
     refine TL.st rfl rfl rfl (o_lenL (f := c_T_impl_Atom false) rfl rfl rfl) ?_
     refine au 3 ?_
     obtain ⟨⟨row2, m2⟩, h23, H⟩ := bind_s H
     refine T.lqE (E := List T_impl_Atom) (e0 := e) (fun e s => match s with | (row, m, i) => [(0, .im b0 (a0.map (c_T_impl_Thing false))), (5, .mp 1), (6, .hd 2 ((e ++ row).map (c_T_impl_Atom false)).length e.length row.length), (30, .im false (r9.Parents_.map (c_T_impl_Atom false))), (31, .int .i64 (r9.Parents_.length : Int)), (32, .int .i64 i)])
      (fun e s => match s with | (row, m, i) => [.box (c_T_impl_Atom false a1), mpO kA V.bool m, .arr .clo 4 ((e ++ row).map (c_T_impl_Atom false)), .box (c_T_impl_Thing false r9)])
      (fun q ex fr σ => match q with | (row2, m2) => ex = .exit 2 ∧ ∃ e' : List T_impl_Atom, fr = [(0, .im b0 (a0.map (c_T_impl_Thing false))), (5, .mp 1), (6, .hd 2 ((e' ++ row2).map (c_T_impl_Atom false)).length e'.length row2.length)] ∧ σ = [.box (c_T_impl_Atom false a1), mpO kA V.bool m2, .arr .clo 4 ((e' ++ row2).map (c_T_impl_Atom false)), .box (c_T_impl_Thing false r9)]) h23 ?_ ?_
     · rintro e3 ⟨row3, m3, i3⟩ y15 H
       refine au 5 ?_
       refine T.cH H (fun H h => ?_) (fun H h => ?_)
       · refine au 5 ?_
         obtain ⟨p, h17, H⟩ := bind_s H
         refine TL.st rfl rfl rfl (o_ix (f := c_T_impl_Atom false) rfl rfl tyS_25 rfl rfl h17 rfl) ?_
         refine au 8 ?_
         refine TL.st rfl rfl rfl (o_lookup (fk := kA) (fv := V.bool) (xs := m3) (z := false) rfl rfl (key_agg rfl eqT_25) rfl rfl rfl rfl (fun S w => ⟨_, rfl, .bool _⟩)) ?_
         refine au 2 ?_
         refine T.cH H (fun H h => ?_) (fun H h => ?_)
         · refine au 4 ?_
           refine TL.sn rfl rfl (o_mapUpdate (fk := kA) (fv := V.bool) (xs := m3) (k := p) (v := true) rfl rfl (key_agg rfl eqT_25) rfl rfl rfl rfl rfl) ?_
           refine au 4 ?_
           refine TL.st rfl rfl rfl (o_sliceIm (rows := ([p] : List T_impl_Atom).map (c_T_impl_Atom false)) rfl rfl tyS_25 ⟨_, rfl, rfl⟩ (by decide) rfl rfl rfl rfl rfl rfl) ?_
           obtain ⟨row4, h21, H⟩ := bind_s H
           refine TL.sq _ rfl rfl rfl (o_apQ (f := c_T_impl_Atom false) (pre := e3) (row := row3) (ys := ([p] : List T_impl_Atom)) rfl rfl tyE_25q rfl rfl rfl rfl (fun _ => rfl) h21) ?_
           rintro _ _ ⟨pre, rfl, rfl⟩
           refine au 2 ?_
           refine T.conv (Cs.wkF (M := 6) (.k 0 rfl rfl (.k 5 rfl rfl (.k 6 rfl rfl (.k 30 rfl rfl (.k 31 rfl rfl (.k 32 rfl rfl .nil))))))) ?_
           refine T.conv (Cs.reloc 2 5 rfl rfl (by decide) rfl rfl rfl (nomS_get (nomS_c rfl (nomS_c (nomO_mpO fun _ => rfl) (nomS_e rfl (nomS_c rfl (nomS_c rfl (nomS_c rfl rfl)))))))) ?_
           refine T.conv (Cs.wkF (M := 6) (.k 0 rfl rfl (.k 5 rfl rfl (.k 6 rfl rfl (.k 30 rfl rfl (.k 31 rfl rfl (.k 32 rfl rfl .nil))))))) ?_
           refine T.conv (Cs.eqS (σ' := [_, mpO kA V.bool (mput m3 p true), .arr .clo 4 ((pre ++ row4).map (c_T_impl_Atom false)), _, _, .dead]) (consE rfl (consE (ren_mpO fun _ => rfl) rfl))) ?_
           refine au 4 ?_
           exact Pk.of (thn_normal ⟨pre, (row4, mput m3 p true, (IntKind.i64.wrap (i3 + 1))), (some_i H).symm, rfl, rfl⟩)
         · refine au 5 ?_
           exact Pk.of (thn_normal ⟨e3, (row3, m3, (IntKind.i64.wrap (i3 + 1))), (some_i H).symm, rfl, rfl⟩)
       · refine T.exit ?_
         refine thn_exit ?_
         exact Pk.of (thn_exit ⟨(row3, m3), (some_i H).symm, rfl, e3, rfl, rfl⟩)
     · rintro _ _ _ ⟨rfl, e4, rfl, rfl⟩
       refine inB_here ?_
       refine au 2 ?_
       obtain ⟨row3, h27, H⟩ := bind_s H
       refine TL.st rfl rfl rfl (o_subQ (f := c_T_impl_Atom false) (pre := e4) (row := row2) (l := 1) rfl rfl tyS_25 rfl rfl rfl h27 ?_) ?_
       · intro h0; have := sub_s h27; omega
       refine au 2 ?_
       exact Pk.of (thn_normal ⟨e4 ++ row2.take (Int.toNat 1), (row3, m2), (some_i H).symm, rfl, rfl⟩)
   · refine T.exit ?_
     refine thn_exit ?_
     exact Pk.of (thn_exit ⟨m, (some_i H).symm, rfl, rfl, _, rfl⟩)
 · rintro _ _ _ ⟨rfl, rfl, ys, rfl⟩
   refine inB_here ?_
   refine au 6 ?_
   exact ⟨trivial, _, (.tmp _ _ _ _ rfl .nil), 1, rfl, rfl⟩
end Go.G36.AbAnc
