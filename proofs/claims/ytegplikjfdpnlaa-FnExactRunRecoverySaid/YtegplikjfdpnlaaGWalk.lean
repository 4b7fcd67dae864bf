import Derived.Test.YtegplikjfdpnlaaGWalk1
set_option linter.all false
set_option maxRecDepth 20000
set_option maxHeartbeats 4000000
namespace Go.G36.GWalk
open Go Go.Proofs
theorem laws_FnRecovered_p (b0 : Bool) {a0 : (List Int)} {R0 : Bool} (H : laws_FnRecovered a0 = some R0) : Pure Go.Proofs.Try.prog 3 [.im b0 (a0.map (c_int .u8))] (.bool R0) := by
  refine CallT.of_TN (n := 103) Go.Proofs.Try.func3 rfl rfl rfl rfl ?_
  refine T.seq ?_
  refine T.region ?_
  refine TL.st rfl rfl rfl (o_assign rfl rfl) ?_
  refine TL.nil ?_
  refine thn_normal ?_
  refine T.seq ?_
  refine T.seq ?_
  refine T.region ?_
  refine TL.st rfl rfl rfl (o_move rfl rfl) ?_
  refine TL.st rfl rfl rfl (o_lenL (f := c_int .u8) rfl rfl rfl) ?_
  refine TL.st rfl rfl rfl (o_ari rfl rfl rfl rfl) ?_
  refine TL.nil ?_
  refine thn_normal ?_
  refine T.cond (decide ((a0.length : Int) > 1048576)) rfl (fun h => ?_) (fun h => ?_)
  · replace H := cond_t h H
    refine T.seq ?_
    refine T.region ?_
    refine TL.st rfl rfl rfl (o_assign rfl rfl) ?_
    refine TL.nil ?_
    refine thn_normal ?_
    refine T.ret ?_
    refine thn_ret ?_
    cases some_i H
    exact ⟨trivial, _, (.tmp _ _ _ _ rfl .nil), (.cl _ rfl)⟩
  · replace H := cond_f h H
    refine T.skip ?_
    refine thn_normal ?_
    refine T.seq ?_
    refine T.region ?_
    refine TL.st rfl rfl rfl (o_move rfl rfl) ?_
    obtain ⟨⟨r1, r2, r3, r4⟩, h5, H⟩ := bind_s H
    refine TL.st rfl rfl rfl (o_callP rfl en_5 rfl rfl (.cons _ _ _ _ (.imv _ _) .nil) (spec_DrawRunRecovery_p b0 h5)) ?_
    refine TL.st rfl rfl rfl (o_move rfl rfl) ?_
    refine TL.st rfl rfl rfl (o_extract rfl rfl rfl) ?_
    refine TL.st rfl rfl rfl (o_extract rfl rfl rfl) ?_
    refine TL.st rfl rfl rfl (o_extract rfl rfl rfl) ?_
    refine TL.st rfl rfl rfl (o_extract rfl rfl rfl) ?_
    refine TL.st rfl rfl rfl (o_assign rfl rfl) ?_
    refine TL.st rfl rfl rfl (o_assign rfl rfl) ?_
    refine TL.st rfl rfl rfl (o_assign rfl rfl) ?_
    refine TL.st rfl rfl rfl (o_assign rfl rfl) ?_
    refine TL.nil ?_
    refine thn_normal ?_
    refine T.seq ?_
    refine T.region ?_
    refine TL.st rfl rfl rfl (o_move rfl rfl) ?_
    refine TL.st rfl rfl rfl (o_move rfl rfl) ?_
    refine TL.st rfl rfl rfl (o_move rfl rfl) ?_
    refine TL.st rfl rfl rfl (o_move rfl rfl) ?_
    obtain ⟨r6, h7, H⟩ := bind_s H
    refine TL.st rfl rfl rfl (o_callP rfl en_6 rfl rfl (.cons _ _ _ _ (.cl _ rfl) (.cons _ _ _ _ (.cl _ rfl) (.cons _ _ _ _ (.cl _ rfl) (.cons _ _ _ _ (.cl _ rfl) .nil)))) (impl_RunRecovery_p false false h7)) ?_
    refine TL.st rfl rfl rfl (o_assign rfl rfl) ?_
    refine TL.nil ?_
    refine thn_normal ?_
    refine T.seq ?_
    refine T.seq ?_
    refine T.region ?_
    refine TL.st rfl rfl rfl (o_move rfl rfl) ?_
    refine TL.st rfl rfl rfl (o_move rfl rfl) ?_
    refine TL.st rfl rfl rfl (o_move rfl rfl) ?_
    refine TL.st rfl rfl rfl (o_move rfl rfl) ?_
    refine TL.st rfl rfl rfl (o_move rfl rfl) ?_
    obtain ⟨r8, h9, H⟩ := bind_s H
    refine TL.st rfl rfl rfl (o_callP rfl en_8 rfl rfl (.cons _ _ _ _ (.cl _ rfl) (.cons _ _ _ _ (.cl _ rfl) (.cons _ _ _ _ (.cl _ rfl) (.cons _ _ _ _ (.cl _ rfl) .nil)))) (spec_RunRecovery_p false false h9)) ?_
    obtain ⟨r10, h11, H⟩ := bind_s H
    refine TL.st rfl rfl rfl (o_callP rfl en_7 rfl rfl (.cons _ _ _ _ (.cl _ rfl) (.cons _ _ _ _ (.cl _ rfl) .nil)) (laws_zInts_p false false h11)) ?_
    refine TL.st rfl rfl rfl (o_not rfl rfl) ?_
    refine TL.nil ?_
    refine thn_normal ?_
    refine T.cond ((!r10)) rfl (fun h => ?_) (fun h => ?_)
    · replace H := cond_t h H
      refine T.seq ?_
      refine T.region ?_
      refine TL.st rfl rfl rfl (o_assign rfl rfl) ?_
      refine TL.nil ?_
      refine thn_normal ?_
      refine T.ret ?_
      refine thn_ret ?_
      cases some_i H
      exact ⟨trivial, _, (.tmp _ _ _ _ rfl .nil), (.cl _ rfl)⟩
    · replace H := cond_f h H
      refine T.skip ?_
      refine thn_normal ?_
      refine T.seq ?_
      refine T.seq ?_
      refine T.region ?_
      refine TL.st rfl rfl rfl (o_move rfl rfl) ?_
      refine TL.st rfl rfl rfl (o_lenL (f := c_int .i64) rfl rfl rfl) ?_
      refine TL.st rfl rfl rfl (o_move rfl rfl) ?_
      refine TL.nil ?_
      refine thn_normal ?_
      refine T.block ?_
      obtain ⟨q38, h39, H⟩ := bind_s H
      refine T.to (.cons 3 _ (.int .i64 r1) _ rfl (.same _) rfl (.cons 4 _ (.int .i64 r2) _ rfl (.same _) rfl (.cons 6 _ (.im false (r4.map (c_T_impl_RecoverEvent false))) _ rfl (.same _) rfl (.cons 7 _ (.im false (r6.map (c_int .i64))) _ rfl (.same _) rfl (.cons 36 _ (.int .i64 (r6.length : Int)) _ rfl (.same _) rfl (.cons 37 _ (.int .i64 0) _ rfl (.same _) rfl .nil)))))) ?_
      refine T.lp (fun s => match s with | v12 => [(3, .int .i64 r1), (4, .int .i64 r2), (6, .im false (r4.map (c_T_impl_RecoverEvent false))), (7, .im false (r6.map (c_int .i64))), (36, .int .i64 (r6.length : Int)), (37, .int .i64 v12)]) (fun s => match s with | v12 => []) (fun q ex fr σ => match q with | .inl _ => ex = .exit 0 ∧ fr = [] ∧ σ = [] | .inr q13 => ex = .ret ∧ RetN Go.Proofs.Try.prog [.tmp 2] (fun v τ => Told τ v (.bool q13)) .ret fr σ) h39 ?_ ?_ ?_ ?_ ?_
      · rintro v12 y14 H
        refine T.seq ?_
        refine T.region ?_
        refine TL.st rfl rfl rfl (o_ari rfl rfl rfl rfl) ?_
        refine TL.nil ?_
        refine thn_normal ?_
        refine T.seq ?_
        refine T.cond (decide (v12 < (r6.length : Int))) rfl (fun h => ?_) (fun h => ?_)
        · replace H := cond_t h H
          refine T.skip ?_
          refine thn_normal ?_
          refine T.seq ?_
          refine T.block ?_
          refine T.seq ?_
          refine T.region ?_
          refine TL.st rfl rfl rfl (o_move rfl rfl) ?_
          refine TL.st rfl rfl rfl (o_assign rfl rfl) ?_
          refine TL.nil ?_
          refine thn_normal ?_
          refine T.seq ?_
          refine T.seq ?_
          refine T.region ?_
          refine TL.st rfl rfl rfl (o_move rfl rfl) ?_
          refine TL.st rfl rfl rfl (o_move rfl rfl) ?_
          obtain ⟨e15, h16, H⟩ := bind_s H
          refine TL.st rfl rfl rfl (o_ix (f := c_int .i64) rfl rfl tyS_3 rfl rfl h16 rfl) ?_
          refine TL.st rfl rfl rfl (o_loadRf rfl tyS_3 rfl (Nat.le_of_ble_eq_true rfl) rfl) ?_
          refine TL.st rfl rfl rfl (o_ari rfl rfl rfl rfl) ?_
          refine TL.st rfl rfl rfl (o_move rfl rfl) ?_
          refine TL.gcq rfl rfl rfl (.bool _) rfl rfl (fun h => o_move rfl rfl) ?_
          refine TL.gcq rfl rfl rfl (.bool _) rfl rfl (fun h => o_move rfl rfl) ?_
          obtain ⟨e17, h18, H⟩ := bind_s H
          refine TL.gcq rfl rfl rfl (.bool _) rfl rfl (fun h => o_ix (f := c_T_impl_RecoverEvent false) rfl rfl tyS_31 (gv h rfl) (gv h rfl) (gdO_t h18 h) rfl) ?_
          refine TL.gcq rfl rfl rfl (.bool _) rfl rfl (fun h => o_fieldAddr rfl rfl rfl tyS_3 (by decide) (gv h rfl) rfl trivial) ?_
          refine TL.gcq rfl rfl rfl (.bool _) rfl rfl (fun h => o_loadRf rfl tyS_3 (gv h rfl) (Nat.le_of_ble_eq_true rfl) rfl) ?_
          refine TL.gcq rfl rfl rfl (.bool _) rfl rfl (fun h => o_ari rfl (gv h rfl) rfl rfl) ?_
          refine TL.st rfl rfl rfl (o_or rfl rfl rfl rfl (fun k => Gd_t k)) ?_
          refine TL.nil ?_
          refine thn_normal ?_
          refine T.cond (((e15 != 0) || (e17.Kind_ != 4))) rfl (fun h => ?_) (fun h => ?_)
          · replace H := cond_t h H
            refine T.exit ?_
            refine thn_exit ?_
            refine inB_here ?_
            refine thn_normal ?_
            refine T.region ?_
            refine TL.st rfl rfl rfl (o_ari rfl rfl rfl rfl) ?_
            refine TL.st rfl rfl rfl (o_move rfl rfl) ?_
            refine TL.nil ?_
            exact Pk.go (fr' := [(3, .int .i64 r1), (4, .int .i64 r2), (6, .im false (r4.map (c_T_impl_RecoverEvent false))), (7, .im false (r6.map (c_int .i64))), (36, .int .i64 (r6.length : Int)), (37, .int .i64 (IntKind.i64.wrap (v12 + 1)))]) (σ' := []) _ rfl rfl trivial (.cons 3 _ (.int .i64 r1) _ rfl (.same _) rfl (.cons 4 _ (.int .i64 r2) _ rfl (.same _) rfl (.cons 6 _ (.im false (r4.map (c_T_impl_RecoverEvent false))) _ rfl (.same _) rfl (.cons 7 _ (.im false (r6.map (c_int .i64))) _ rfl (.same _) rfl (.cons 36 _ (.int .i64 (r6.length : Int)) _ rfl (.same _) rfl (.cons 37 _ (.int .i64 (IntKind.i64.wrap (v12 + 1))) _ rfl (.same _) rfl .nil)))))) (thn_normal ⟨(IntKind.i64.wrap (v12 + 1)), (some_i H).symm, rfl, rfl⟩)
          · replace H := cond_f h H
            refine T.skip ?_
            refine thn_normal ?_
            refine T.seq ?_
            refine T.region ?_
            refine TL.st rfl rfl rfl (o_assign rfl rfl) ?_
            refine TL.nil ?_
            refine thn_normal ?_
            refine T.seq ?_
            refine T.region ?_
            refine TL.st rfl rfl rfl (o_assign rfl rfl) ?_
            refine TL.nil ?_
            refine thn_normal ?_
            refine T.seq ?_
            refine T.seq ?_
            refine T.region ?_
            refine TL.st rfl rfl rfl (o_move rfl rfl) ?_
            refine TL.st rfl rfl rfl (o_ari rfl rfl rfl rfl) ?_
            refine TL.st rfl rfl rfl (o_assign rfl rfl) ?_
            refine TL.nil ?_
            refine thn_normal ?_
            refine T.block ?_
            obtain ⟨q36, h37, H⟩ := bind_s H
            refine T.to (.cons 3 _ (.int .i64 r1) _ rfl (.same _) rfl (.cons 4 _ (.int .i64 r2) _ rfl (.same _) rfl (.cons 6 _ (.im false (r4.map (c_T_impl_RecoverEvent false))) _ rfl (.same _) rfl (.cons 7 _ (.im false (r6.map (c_int .i64))) _ rfl (.same _) rfl (.cons 8 _ (.int .i64 v12) _ rfl (.same _) rfl (.cons 9 _ (.int .i64 0) _ rfl (.same _) rfl (.cons 10 _ (.int .i64 (-1)) _ rfl (.same _) rfl (.cons 11 _ (.int .i64 (IntKind.i64.wrap (v12 - 1))) _ rfl (.same _) rfl (.cons 36 _ (.int .i64 (r6.length : Int)) _ rfl (.same _) rfl (.cons 37 _ (.int .i64 v12) _ rfl (.same _) rfl .nil)))))))))) ?_
            refine T.lp (fun s => match s with | (v19, v20, v21) => [(3, .int .i64 r1), (4, .int .i64 r2), (6, .im false (r4.map (c_T_impl_RecoverEvent false))), (7, .im false (r6.map (c_int .i64))), (8, .int .i64 v12), (9, .int .i64 v19), (10, .int .i64 v20), (11, .int .i64 v21), (36, .int .i64 (r6.length : Int)), (37, .int .i64 v12)]) (fun s => match s with | (v19, v20, v21) => []) (fun q ex fr σ => match q with | .inl (v22, v23) => ex = .exit 2 ∧ fr = [(3, .int .i64 r1), (4, .int .i64 r2), (6, .im false (r4.map (c_T_impl_RecoverEvent false))), (7, .im false (r6.map (c_int .i64))), (8, .int .i64 v12), (9, .int .i64 v22), (10, .int .i64 v23), (36, .int .i64 (r6.length : Int)), (37, .int .i64 v12)] ∧ σ = [] | .inr q24 => ex = .ret ∧ RetN Go.Proofs.Try.prog [.tmp 2] (fun v τ => Told τ v (.bool q24)) .ret fr σ) h37 ?_ ?_ ?_ ?_ ?_
            · rintro ⟨v19, v20, v21⟩ y27 H
              refine T.seq ?_
              refine T.seq ?_
              refine T.region ?_
              refine TL.st rfl rfl rfl (o_move rfl rfl) ?_
              refine TL.st rfl rfl rfl (o_ari rfl rfl rfl rfl) ?_
              refine TL.st rfl rfl rfl (o_move rfl rfl) ?_
              refine TL.gcq rfl rfl rfl (.bool _) rfl rfl (fun h => o_move rfl rfl) ?_
              refine TL.gcq rfl rfl rfl (.bool _) rfl rfl (fun h => o_ari rfl (gv h rfl) rfl rfl) ?_
              refine TL.st rfl rfl rfl (o_and rfl rfl rfl (fun k => Gd_t k) rfl) ?_
              refine TL.nil ?_
              refine thn_normal ?_
              refine T.cond ((decide (v21 ≥ 0) && decide (v20 < 0))) rfl (fun h => ?_) (fun h => ?_)
              · replace H := cond_t h H
                refine T.skip ?_
                refine thn_normal ?_
                refine T.cut (fun fr' σ' => ∃ (v28 : Int) (v29 : Int), fr' = [(3, .int .i64 r1), (4, .int .i64 r2), (6, .im false (r4.map (c_T_impl_RecoverEvent false))), (7, .im false (r6.map (c_int .i64))), (8, .int .i64 v12), (9, .int .i64 v28), (10, .int .i64 v29), (11, .int .i64 v21), (36, .int .i64 (r6.length : Int)), (37, .int .i64 v12)] ∧ σ' = [] ∧ laws_FnRecovered_j1 v21 v28 v29 = some y27) (T.pk ?_) ?_
                · skip
                  refine T.block ?_
                  refine T.seq ?_
                  refine T.seq ?_
                  refine T.region ?_
                  refine TL.st rfl rfl rfl (o_move rfl rfl) ?_
                  refine TL.st rfl rfl rfl (o_move rfl rfl) ?_
                  obtain ⟨e30, h31, H⟩ := bind_s H
                  refine TL.st rfl rfl rfl (o_ix (f := c_int .i64) rfl rfl tyS_3 rfl rfl h31 rfl) ?_
                  refine TL.st rfl rfl rfl (o_loadRf rfl tyS_3 rfl (Nat.le_of_ble_eq_true rfl) rfl) ?_
                  refine TL.st rfl rfl rfl (o_ari rfl rfl rfl rfl) ?_
                  refine TL.nil ?_
                  refine thn_normal ?_
                  refine T.cond ((e30 != 0)) rfl (fun h => ?_) (fun h => ?_)
                  · replace H := cond_t h H
                    refine T.exit ?_
                    refine thn_exit ?_
                    refine inB_here ?_
                    exact Pk.go (fr' := [(3, .int .i64 r1), (4, .int .i64 r2), (6, .im false (r4.map (c_T_impl_RecoverEvent false))), (7, .im false (r6.map (c_int .i64))), (8, .int .i64 v12), (9, .int .i64 v19), (10, .int .i64 v20), (11, .int .i64 v21), (36, .int .i64 (r6.length : Int)), (37, .int .i64 v12)]) (σ' := []) _ rfl rfl trivial (.cons 3 _ (.int .i64 r1) _ rfl (.same _) rfl (.cons 4 _ (.int .i64 r2) _ rfl (.same _) rfl (.cons 6 _ (.im false (r4.map (c_T_impl_RecoverEvent false))) _ rfl (.same _) rfl (.cons 7 _ (.im false (r6.map (c_int .i64))) _ rfl (.same _) rfl (.cons 8 _ (.int .i64 v12) _ rfl (.same _) rfl (.cons 9 _ (.int .i64 v19) _ rfl (.same _) rfl (.cons 10 _ (.int .i64 v20) _ rfl (.same _) rfl (.cons 11 _ (.int .i64 v21) _ rfl (.same _) rfl (.cons 36 _ (.int .i64 (r6.length : Int)) _ rfl (.same _) rfl (.cons 37 _ (.int .i64 v12) _ rfl (.same _) rfl .nil)))))))))) (thn_normal ⟨v19, v20, rfl, rfl, H⟩)
                  · replace H := cond_f h H
                    refine T.skip ?_
                    refine thn_normal ?_
                    refine T.seq ?_
                    refine T.region ?_
                    refine TL.st rfl rfl rfl (o_move rfl rfl) ?_
                    refine TL.st rfl rfl rfl (o_move rfl rfl) ?_
                    obtain ⟨e32, h33, H⟩ := bind_s H
                    refine TL.st rfl rfl rfl (o_ix (f := c_T_impl_RecoverEvent false) rfl rfl tyS_31 rfl rfl h33 rfl) ?_
                    refine TL.st rfl rfl rfl (o_fieldAddr rfl rfl rfl tyS_3 (by decide) rfl rfl trivial) ?_
                    refine TL.st rfl rfl rfl (o_loadRf rfl tyS_3 rfl (Nat.le_of_ble_eq_true rfl) rfl) ?_
                    refine TL.nil ?_
                    refine thn_normal ?_
                    refine T.block ?_
                    refine T.seq ?_
                    refine T.region ?_
                    refine TL.st rfl rfl rfl (o_ari rfl rfl rfl rfl) ?_
                    refine TL.st rfl rfl rfl (o_assign rfl rfl) ?_
                    refine TL.nil ?_
                    refine thn_normal ?_
                    refine T.cond ((e32.Kind_ == 2)) rfl (fun h => ?_) (fun h => ?_)
                    · replace H := cond_t h H
                      refine T.region ?_
                      refine TL.st rfl rfl rfl (o_move rfl rfl) ?_
                      refine TL.st rfl rfl rfl (o_ari rfl rfl rfl rfl) ?_
                      refine TL.st rfl rfl rfl (o_assign rfl rfl) ?_
                      refine TL.nil ?_
                      refine inB_normal ?_
                      refine inB_normal ?_
                      exact Pk.go (fr' := [(3, .int .i64 r1), (4, .int .i64 r2), (6, .im false (r4.map (c_T_impl_RecoverEvent false))), (7, .im false (r6.map (c_int .i64))), (8, .int .i64 v12), (9, .int .i64 (IntKind.i64.wrap (v19 + 1))), (10, .int .i64 v20), (11, .int .i64 v21), (36, .int .i64 (r6.length : Int)), (37, .int .i64 v12)]) (σ' := []) _ rfl rfl trivial (.cons 3 _ (.int .i64 r1) _ rfl (.same _) rfl (.cons 4 _ (.int .i64 r2) _ rfl (.same _) rfl (.cons 6 _ (.im false (r4.map (c_T_impl_RecoverEvent false))) _ rfl (.same _) rfl (.cons 7 _ (.im false (r6.map (c_int .i64))) _ rfl (.same _) rfl (.cons 8 _ (.int .i64 v12) _ rfl (.same _) rfl (.cons 9 _ (.int .i64 (IntKind.i64.wrap (v19 + 1))) _ rfl (.same _) rfl (.cons 10 _ (.int .i64 v20) _ rfl (.same _) rfl (.cons 11 _ (.int .i64 v21) _ rfl (.same _) rfl (.cons 36 _ (.int .i64 (r6.length : Int)) _ rfl (.same _) rfl (.cons 37 _ (.int .i64 v12) _ rfl (.same _) rfl .nil)))))))))) (thn_normal ⟨(IntKind.i64.wrap (v19 + 1)), v20, rfl, rfl, H⟩)
                    · replace H := cond_f h H
                      refine T.seq ?_
                      refine T.region ?_
                      refine TL.st rfl rfl rfl (o_ari rfl rfl rfl rfl) ?_
                      refine TL.st rfl rfl rfl (o_assign rfl rfl) ?_
                      refine TL.nil ?_
                      refine thn_normal ?_
                      refine T.cond ((e32.Kind_ == 1)) rfl (fun h => ?_) (fun h => ?_)
                      · replace H := cond_t h H
                        refine T.region ?_
                        refine TL.st rfl rfl rfl (o_move rfl rfl) ?_
                        refine TL.st rfl rfl rfl (o_move rfl rfl) ?_
                        obtain ⟨e34, h35, H⟩ := bind_s H
                        refine TL.st rfl rfl rfl (o_ix (f := c_T_impl_RecoverEvent false) rfl rfl tyS_31 rfl rfl h35 rfl) ?_
                        refine TL.st rfl rfl rfl (o_fieldAddr rfl rfl rfl tyS_3 (by decide) rfl rfl trivial) ?_
                        refine TL.st rfl rfl rfl (o_loadRf rfl tyS_3 rfl (Nat.le_of_ble_eq_true rfl) rfl) ?_
                        refine TL.st rfl rfl rfl (o_assign rfl rfl) ?_
                        refine TL.nil ?_
                        refine inB_normal ?_
                        refine inB_normal ?_
                        exact Pk.go (fr' := [(3, .int .i64 r1), (4, .int .i64 r2), (6, .im false (r4.map (c_T_impl_RecoverEvent false))), (7, .im false (r6.map (c_int .i64))), (8, .int .i64 v12), (9, .int .i64 v19), (10, .int .i64 e34.Time_), (11, .int .i64 v21), (36, .int .i64 (r6.length : Int)), (37, .int .i64 v12)]) (σ' := []) _ rfl rfl trivial (.cons 3 _ (.int .i64 r1) _ rfl (.same _) rfl (.cons 4 _ (.int .i64 r2) _ rfl (.same _) rfl (.cons 6 _ (.im false (r4.map (c_T_impl_RecoverEvent false))) _ rfl (.same _) rfl (.cons 7 _ (.im false (r6.map (c_int .i64))) _ rfl (.same _) rfl (.cons 8 _ (.int .i64 v12) _ rfl (.same _) rfl (.cons 9 _ (.int .i64 v19) _ rfl (.same _) rfl (.cons 10 _ (.int .i64 e34.Time_) _ rfl (.same _) rfl (.cons 11 _ (.int .i64 v21) _ rfl (.same _) rfl (.cons 36 _ (.int .i64 (r6.length : Int)) _ rfl (.same _) rfl (.cons 37 _ (.int .i64 v12) _ rfl (.same _) rfl .nil)))))))))) (thn_normal ⟨v19, e34.Time_, rfl, rfl, H⟩)
                      · replace H := cond_f h H
                        refine T.seq ?_
                        refine T.region ?_
                        refine TL.st rfl rfl rfl (o_assign rfl rfl) ?_
                        refine TL.nil ?_
                        refine thn_normal ?_
                        refine T.ret ?_
                        refine inB_ret ?_
                        refine inB_ret ?_
                        refine Pk.id (thn_ret ?_)
                        exact Pk.id (thn_ret ⟨.inr false, (some_i H).symm, rfl, ⟨trivial, _, (.tmp _ _ _ _ rfl .nil), (.cl _ rfl)⟩⟩)
                · rintro _ _ ⟨v28, v29, rfl, rfl, H⟩
                  refine T.region ?_
                  refine TL.st rfl rfl rfl (o_move rfl rfl) ?_
                  refine TL.st rfl rfl rfl (o_ari rfl rfl rfl rfl) ?_
                  refine TL.st rfl rfl rfl (o_assign rfl rfl) ?_
                  refine TL.nil ?_
                  exact Pk.go (fr' := [(3, .int .i64 r1), (4, .int .i64 r2), (6, .im false (r4.map (c_T_impl_RecoverEvent false))), (7, .im false (r6.map (c_int .i64))), (8, .int .i64 v12), (9, .int .i64 v28), (10, .int .i64 v29), (11, .int .i64 (IntKind.i64.wrap (v21 - 1))), (36, .int .i64 (r6.length : Int)), (37, .int .i64 v12)]) (σ' := []) _ rfl rfl trivial (.cons 3 _ (.int .i64 r1) _ rfl (.same _) rfl (.cons 4 _ (.int .i64 r2) _ rfl (.same _) rfl (.cons 6 _ (.im false (r4.map (c_T_impl_RecoverEvent false))) _ rfl (.same _) rfl (.cons 7 _ (.im false (r6.map (c_int .i64))) _ rfl (.same _) rfl (.cons 8 _ (.int .i64 v12) _ rfl (.same _) rfl (.cons 9 _ (.int .i64 v28) _ rfl (.same _) rfl (.cons 10 _ (.int .i64 v29) _ rfl (.same _) rfl (.cons 11 _ (.int .i64 (IntKind.i64.wrap (v21 - 1))) _ rfl (.same _) rfl (.cons 36 _ (.int .i64 (r6.length : Int)) _ rfl (.same _) rfl (.cons 37 _ (.int .i64 v12) _ rfl (.same _) rfl .nil)))))))))) (thn_normal ⟨(v28, v29, (IntKind.i64.wrap (v21 - 1))), (some_i H).symm, rfl, rfl⟩)
              · replace H := cond_f h H
                refine T.exit ?_
                refine thn_exit ?_
                exact Pk.go (fr' := [(3, .int .i64 r1), (4, .int .i64 r2), (6, .im false (r4.map (c_T_impl_RecoverEvent false))), (7, .im false (r6.map (c_int .i64))), (8, .int .i64 v12), (9, .int .i64 v19), (10, .int .i64 v20), (36, .int .i64 (r6.length : Int)), (37, .int .i64 v12)]) (σ' := []) _ rfl rfl trivial (.cons 3 _ (.int .i64 r1) _ rfl (.same _) rfl (.cons 4 _ (.int .i64 r2) _ rfl (.same _) rfl (.cons 6 _ (.im false (r4.map (c_T_impl_RecoverEvent false))) _ rfl (.same _) rfl (.cons 7 _ (.im false (r6.map (c_int .i64))) _ rfl (.same _) rfl (.cons 8 _ (.int .i64 v12) _ rfl (.same _) rfl (.cons 9 _ (.int .i64 v19) _ rfl (.same _) rfl (.cons 10 _ (.int .i64 v20) _ rfl (.same _) rfl (.cons 36 _ (.int .i64 (r6.length : Int)) _ rfl (.same _) rfl (.cons 37 _ (.int .i64 v12) _ rfl (.same _) rfl .nil))))))))) (thn_exit ⟨.inl (v19, v20), (some_i H).symm, rfl, rfl, rfl⟩)
            · rintro ⟨v19, v20, v21⟩ ⟨v19', v20', v21'⟩; rfl
            · rintro ⟨v19, v20, v21⟩; exact trivial
            · rintro ⟨v19, v20, v21⟩; exact (.cons _ _ _ rfl rfl (.cons _ _ _ rfl rfl (.cons _ _ _ rfl rfl (.cons _ _ _ rfl rfl (.cons _ _ _ rfl rfl (.cons _ _ _ rfl rfl (.cons _ _ _ rfl rfl (.cons _ _ _ rfl rfl (.cons _ _ _ rfl rfl (.cons _ _ _ rfl rfl .nil))))))))))
            · rcases q36 with ⟨v22, v23⟩ | q24
              · rintro _ _ _ ⟨rfl, rfl, rfl⟩
                refine inB_here ?_
                refine thn_normal ?_
                refine T.seq ?_
                refine T.region ?_
                refine TL.st rfl rfl rfl (o_move rfl rfl) ?_
                refine TL.st rfl rfl rfl (o_ari rfl rfl rfl rfl) ?_
                refine TL.st rfl rfl rfl (o_move rfl rfl) ?_
                refine TL.gcq rfl rfl rfl (.bool _) rfl rfl (fun h => o_move rfl rfl) ?_
                refine TL.gcq rfl rfl rfl (.bool _) rfl rfl (fun h => o_move rfl rfl) ?_
                refine TL.gcq rfl rfl rfl (.bool _) rfl rfl (fun h => o_ari rfl (gv h rfl) (gv h rfl) rfl) ?_
                refine TL.st rfl rfl rfl (o_or rfl rfl rfl rfl (fun k => Gd_t k)) ?_
                refine TL.st rfl rfl rfl (o_move rfl rfl) ?_
                refine TL.gcq rfl rfl rfl (.bool _) rfl rfl (fun h => o_move rfl rfl) ?_
                refine TL.gcq rfl rfl rfl (.bool _) rfl rfl (fun h => o_move rfl rfl) ?_
                obtain ⟨e25, h26, H⟩ := bind_s H
                refine TL.gcq rfl rfl rfl (.bool _) rfl rfl (fun h => o_ix (f := c_T_impl_RecoverEvent false) rfl rfl tyS_31 (gv h rfl) (gv h rfl) (gdO_t h26 h) rfl) ?_
                refine TL.gcq rfl rfl rfl (.bool _) rfl rfl (fun h => o_fieldAddr rfl rfl rfl tyS_3 (by decide) (gv h rfl) rfl trivial) ?_
                refine TL.gcq rfl rfl rfl (.bool _) rfl rfl (fun h => o_loadRf rfl tyS_3 (gv h rfl) (Nat.le_of_ble_eq_true rfl) rfl) ?_
                refine TL.gcq rfl rfl rfl (.bool _) rfl rfl (fun h => o_move rfl rfl) ?_
                refine TL.gcq rfl rfl rfl (.bool _) rfl rfl (fun h => o_move rfl rfl) ?_
                refine TL.gcq rfl rfl rfl (.bool _) rfl rfl (fun h => o_ari rfl (gv h rfl) (gv h rfl) rfl) ?_
                refine TL.gcq rfl rfl rfl (.bool _) rfl rfl (fun h => o_ari rfl (gv h rfl) (gv h rfl) rfl) ?_
                refine TL.st rfl rfl rfl (o_or rfl rfl rfl rfl (fun k => Gd_t k)) ?_
                refine TL.nil ?_
                refine thn_normal ?_
                refine T.cond (((decide (v23 < 0) || decide (v22 < r1)) || decide (e25.Time_ < (IntKind.i64.wrap (v23 + r2))))) rfl (fun h => ?_) (fun h => ?_)
                · replace H := cond_t h H
                  refine T.seq ?_
                  refine T.region ?_
                  refine TL.st rfl rfl rfl (o_assign rfl rfl) ?_
                  refine TL.nil ?_
                  refine thn_normal ?_
                  refine T.ret ?_
                  refine inB_ret ?_
                  refine thn_ret ?_
                  exact Pk.id (thn_ret ⟨.inr false, (some_i H).symm, rfl, ⟨trivial, _, (.tmp _ _ _ _ rfl .nil), (.cl _ rfl)⟩⟩)
                · replace H := cond_f h H
                  refine T.skip ?_
                  refine inB_normal ?_
                  refine thn_normal ?_
                  refine T.region ?_
                  refine TL.st rfl rfl rfl (o_ari rfl rfl rfl rfl) ?_
                  refine TL.st rfl rfl rfl (o_move rfl rfl) ?_
                  refine TL.nil ?_
                  exact Pk.go (fr' := [(3, .int .i64 r1), (4, .int .i64 r2), (6, .im false (r4.map (c_T_impl_RecoverEvent false))), (7, .im false (r6.map (c_int .i64))), (36, .int .i64 (r6.length : Int)), (37, .int .i64 (IntKind.i64.wrap (v12 + 1)))]) (σ' := []) _ rfl rfl trivial (.cons 3 _ (.int .i64 r1) _ rfl (.same _) rfl (.cons 4 _ (.int .i64 r2) _ rfl (.same _) rfl (.cons 6 _ (.im false (r4.map (c_T_impl_RecoverEvent false))) _ rfl (.same _) rfl (.cons 7 _ (.im false (r6.map (c_int .i64))) _ rfl (.same _) rfl (.cons 36 _ (.int .i64 (r6.length : Int)) _ rfl (.same _) rfl (.cons 37 _ (.int .i64 (IntKind.i64.wrap (v12 + 1))) _ rfl (.same _) rfl .nil)))))) (thn_normal ⟨(IntKind.i64.wrap (v12 + 1)), (some_i H).symm, rfl, rfl⟩)
              · rintro _ fr1 σ1 ⟨rfl, hr⟩
                refine inB_ret ?_
                refine thn_ret ?_
                refine inB_ret ?_
                refine thn_ret ?_
                exact Pk.id (thn_ret ⟨.inr q24, (some_i H).symm, rfl, hr⟩)
        · replace H := cond_f h H
          refine T.exit ?_
          refine thn_exit ?_
          exact Pk.go (fr' := []) (σ' := []) _ rfl rfl trivial .nil (thn_exit ⟨.inl (), (some_i H).symm, rfl, rfl, rfl⟩)
      · rintro v12 v12'; rfl
      · rintro v12; exact trivial
      · rintro v12; exact (.cons _ _ _ rfl rfl (.cons _ _ _ rfl rfl (.cons _ _ _ rfl rfl (.cons _ _ _ rfl rfl (.cons _ _ _ rfl rfl (.cons _ _ _ rfl rfl .nil))))))
      · rcases q38 with ⟨⟩ | q13
        · rintro _ _ _ ⟨rfl, rfl, rfl⟩
          refine inB_here ?_
          refine thn_normal ?_
          refine T.seq ?_
          refine T.region ?_
          refine TL.st rfl rfl rfl (o_assign rfl rfl) ?_
          refine TL.nil ?_
          refine thn_normal ?_
          refine T.ret ?_
          cases some_i H
          exact ⟨trivial, _, (.tmp _ _ _ _ rfl .nil), (.cl _ rfl)⟩
        · rintro _ fr1 σ1 ⟨rfl, hr⟩
          refine inB_ret ?_
          refine thn_ret ?_
          cases some_i H
          exact hr
noncomputable def laws_szStringS_l1 (a0 : (List ByteArray)) : (Int × Int) → Option ((Int × Int) ⊕ (Int ⊕ Int)) := fun s => match s with
  | (v1, v2) => cond (decide (v2 < (a0.length : Int))) ((idx a0 v2).bind fun e6 => cond (decide ((IntKind.i64.wrap (v1 - (e6.size : Int))) < 0)) (some (.inr (.inr (-1)))) (some (.inl ((IntKind.i64.wrap (v1 - (e6.size : Int))), (IntKind.i64.wrap (v2 + 1)))))) (some (.inr (.inl v1)))
noncomputable def laws_szStringS (a0 : (List ByteArray)) (a1 : Int) : Option Int :=
  cond (decide ((IntKind.i64.wrap (a1 - (a0.length : Int))) < 0)) (some (-1)) ((loopO (laws_szStringS_l1 a0) ((IntKind.i64.wrap (a1 - (a0.length : Int))), 0)).bind fun q8 => (match q8 with | .inl v3 => some v3 | .inr q4 => some q4))
theorem laws_szStringS_p (b0 : Bool) {a0 : (List ByteArray)} {a1 : Int} {R0 : Int} (H : laws_szStringS a0 a1 = some R0) : Pure Go.Proofs.Try.prog 9 [.im b0 (a0.map (c_str)), .int .i64 a1] (.int .i64 R0) := by
  refine CallT.of_TN (n := 28) Go.Proofs.Try.func9 rfl rfl rfl rfl ?_
  refine T.seq ?_
  refine T.region ?_
  refine TL.st rfl rfl rfl (o_assign rfl rfl) ?_
  refine TL.nil ?_
  refine thn_normal ?_
  refine T.seq ?_
  refine T.region ?_
  refine TL.st rfl rfl rfl (o_move rfl rfl) ?_
  refine TL.st rfl rfl rfl (o_move rfl rfl) ?_
  refine TL.st rfl rfl rfl (o_lenL (f := c_str) rfl rfl rfl) ?_
  refine TL.st rfl rfl rfl (o_ari rfl rfl rfl rfl) ?_
  refine TL.st rfl rfl rfl (o_assign rfl rfl) ?_
  refine TL.nil ?_
  refine thn_normal ?_
  refine T.seq ?_
  refine T.seq ?_
  refine T.region ?_
  refine TL.st rfl rfl rfl (o_move rfl rfl) ?_
  refine TL.st rfl rfl rfl (o_ari rfl rfl rfl rfl) ?_
  refine TL.nil ?_
  refine thn_normal ?_
  refine T.cond (decide ((IntKind.i64.wrap (a1 - (a0.length : Int))) < 0)) rfl (fun h => ?_) (fun h => ?_)
  · replace H := cond_t h H
    refine T.seq ?_
    refine T.region ?_
    refine TL.st rfl rfl rfl (o_assign rfl rfl) ?_
    refine TL.nil ?_
    refine thn_normal ?_
    refine T.ret ?_
    refine thn_ret ?_
    cases some_i H
    exact ⟨trivial, _, (.tmp _ _ _ _ rfl .nil), (.cl _ rfl)⟩
  · replace H := cond_f h H
    refine T.skip ?_
    refine thn_normal ?_
    refine T.seq ?_
    refine T.seq ?_
    refine T.region ?_
    refine TL.st rfl rfl rfl (o_assign rfl rfl) ?_
    refine TL.nil ?_
    refine thn_normal ?_
    refine T.block ?_
    obtain ⟨q8, h9, H⟩ := bind_s H
    refine T.to (.cons 0 _ (.im b0 (a0.map (c_str))) _ rfl (.same _) rfl (.cons 1 _ (.int .i64 (IntKind.i64.wrap (a1 - (a0.length : Int)))) _ rfl (.same _) rfl (.cons 5 _ (.int .i64 0) _ rfl (.same _) rfl .nil))) ?_
    refine T.lp (fun s => match s with | (v1, v2) => [(0, .im b0 (a0.map (c_str))), (1, .int .i64 v1), (5, .int .i64 v2)]) (fun s => match s with | (v1, v2) => []) (fun q ex fr σ => match q with | .inl v3 => ex = .exit 0 ∧ fr = [(1, .int .i64 v3)] ∧ σ = [] | .inr q4 => ex = .ret ∧ RetN Go.Proofs.Try.prog [.tmp 4] (fun v τ => Told τ v (.int .i64 q4)) .ret fr σ) h9 ?_ ?_ ?_ ?_ ?_
    · rintro ⟨v1, v2⟩ y5 H
      refine T.seq ?_
      refine T.seq ?_
      refine T.region ?_
      refine TL.st rfl rfl rfl (o_move rfl rfl) ?_
      refine TL.st rfl rfl rfl (o_move rfl rfl) ?_
      refine TL.st rfl rfl rfl (o_lenL (f := c_str) rfl rfl rfl) ?_
      refine TL.st rfl rfl rfl (o_ari rfl rfl rfl rfl) ?_
      refine TL.nil ?_
      refine thn_normal ?_
      refine T.cond (decide (v2 < (a0.length : Int))) rfl (fun h => ?_) (fun h => ?_)
      · replace H := cond_t h H
        refine T.skip ?_
        refine thn_normal ?_
        refine T.seq ?_
        refine T.block ?_
        refine T.seq ?_
        refine T.region ?_
        refine TL.st rfl rfl rfl (o_move rfl rfl) ?_
        refine TL.st rfl rfl rfl (o_move rfl rfl) ?_
        refine TL.st rfl rfl rfl (o_move rfl rfl) ?_
        obtain ⟨e6, h7, H⟩ := bind_s H
        refine TL.st rfl rfl rfl (o_ix (f := c_str) rfl rfl tyS_9 rfl rfl h7 rfl) ?_
        refine TL.st rfl rfl rfl (o_loadRf rfl tyS_9 rfl (Nat.le_of_ble_eq_true rfl) rfl) ?_
        refine TL.st rfl rfl rfl (o_lenS rfl rfl rfl) ?_
        refine TL.st rfl rfl rfl (o_ari rfl rfl rfl rfl) ?_
        refine TL.st rfl rfl rfl (o_assign rfl rfl) ?_
        refine TL.nil ?_
        refine thn_normal ?_
        refine T.seq ?_
        refine T.region ?_
        refine TL.st rfl rfl rfl (o_move rfl rfl) ?_
        refine TL.st rfl rfl rfl (o_ari rfl rfl rfl rfl) ?_
        refine TL.nil ?_
        refine thn_normal ?_
        refine T.cond (decide ((IntKind.i64.wrap (v1 - (e6.size : Int))) < 0)) rfl (fun h => ?_) (fun h => ?_)
        · replace H := cond_t h H
          refine T.seq ?_
          refine T.region ?_
          refine TL.st rfl rfl rfl (o_assign rfl rfl) ?_
          refine TL.nil ?_
          refine thn_normal ?_
          refine T.ret ?_
          refine inB_ret ?_
          refine thn_ret ?_
          exact Pk.id (thn_ret ⟨.inr (-1), (some_i H).symm, rfl, ⟨trivial, _, (.tmp _ _ _ _ rfl .nil), (.cl _ rfl)⟩⟩)
        · replace H := cond_f h H
          refine T.skip ?_
          refine inB_normal ?_
          refine thn_normal ?_
          refine T.region ?_
          refine TL.st rfl rfl rfl (o_move rfl rfl) ?_
          refine TL.st rfl rfl rfl (o_ari rfl rfl rfl rfl) ?_
          refine TL.st rfl rfl rfl (o_assign rfl rfl) ?_
          refine TL.nil ?_
          exact Pk.go (fr' := [(0, .im b0 (a0.map (c_str))), (1, .int .i64 (IntKind.i64.wrap (v1 - (e6.size : Int)))), (5, .int .i64 (IntKind.i64.wrap (v2 + 1)))]) (σ' := []) _ rfl rfl trivial (.cons 0 _ (.im b0 (a0.map (c_str))) _ rfl (.same _) rfl (.cons 1 _ (.int .i64 (IntKind.i64.wrap (v1 - (e6.size : Int)))) _ rfl (.same _) rfl (.cons 5 _ (.int .i64 (IntKind.i64.wrap (v2 + 1))) _ rfl (.same _) rfl .nil))) (thn_normal ⟨((IntKind.i64.wrap (v1 - (e6.size : Int))), (IntKind.i64.wrap (v2 + 1))), (some_i H).symm, rfl, rfl⟩)
      · replace H := cond_f h H
        refine T.exit ?_
        refine thn_exit ?_
        exact Pk.go (fr' := [(1, .int .i64 v1)]) (σ' := []) _ rfl rfl trivial (.cons 1 _ (.int .i64 v1) _ rfl (.same _) rfl .nil) (thn_exit ⟨.inl v1, (some_i H).symm, rfl, rfl, rfl⟩)
    · rintro ⟨v1, v2⟩ ⟨v1', v2'⟩; rfl
    · rintro ⟨v1, v2⟩; exact trivial
    · rintro ⟨v1, v2⟩; exact (.cons _ _ _ rfl rfl (.cons _ _ _ rfl rfl (.cons _ _ _ rfl rfl .nil)))
    · rcases q8 with v3 | q4
      · rintro _ _ _ ⟨rfl, rfl, rfl⟩
        refine inB_here ?_
        refine thn_normal ?_
        refine T.seq ?_
        refine T.region ?_
        refine TL.st rfl rfl rfl (o_move rfl rfl) ?_
        refine TL.st rfl rfl rfl (o_assign rfl rfl) ?_
        refine TL.nil ?_
        refine thn_normal ?_
        refine T.ret ?_
        cases some_i H
        exact ⟨trivial, _, (.tmp _ _ _ _ rfl .nil), (.cl _ rfl)⟩
      · rintro _ fr1 σ1 ⟨rfl, hr⟩
        refine inB_ret ?_
        refine thn_ret ?_
        cases some_i H
        exact hr
theorem en_9 (us : Array Value) (w : World) : (callFunc 9 us).run Go.Proofs.Try.prog w = .ok (.enter 9 us) w := enters Go.Proofs.Try.func9 rfl rfl us w
theorem tyS_61 : TyS Go.Proofs.Try.prog 61 true 3 := ⟨rfl, rfl⟩
noncomputable def laws_szRecoverEvent (a0 : T_laws_RecoverEvent) (a1 : Int) : Option Int :=
  cond (decide ((IntKind.i64.wrap (a1 - (a0.Who_.size : Int))) < 0)) (some (-1)) (some (IntKind.i64.wrap (a1 - (a0.Who_.size : Int))))
theorem laws_szRecoverEvent_p  {a0 : T_laws_RecoverEvent} {a1 : Int} {R0 : Int} (H : laws_szRecoverEvent a0 a1 = some R0) : Pure Go.Proofs.Try.prog 32 [.agg (c_T_laws_RecoverEvent false a0), .int .i64 a1] (.int .i64 R0) := by
  refine CallT.of_TN (n := 13) Go.Proofs.Try.func32 rfl rfl rfl rfl ?_
  refine T.seq ?_
  refine T.region ?_
  refine TL.st rfl rfl rfl (o_box rfl rfl rfl) ?_
  refine TL.st rfl rfl rfl (o_assign rfl rfl) ?_
  refine TL.nil ?_
  refine thn_normal ?_
  refine T.seq ?_
  refine T.region ?_
  refine TL.st rfl rfl rfl (o_move rfl rfl) ?_
  refine TL.st rfl rfl rfl (o_fieldAddr rfl rfl rfl tyS_9 (by decide) rfl rfl ⟨_, rfl, Nat.le_of_ble_eq_true rfl⟩) ?_
  refine TL.st rfl rfl rfl (o_loadBx rfl tyS_9 rfl rfl (Nat.le_of_ble_eq_true rfl) rfl) ?_
  refine TL.st rfl rfl rfl (o_lenS rfl rfl rfl) ?_
  refine TL.st rfl rfl rfl (o_ari rfl rfl rfl rfl) ?_
  refine TL.st rfl rfl rfl (o_assign rfl rfl) ?_
  refine TL.nil ?_
  refine thn_normal ?_
  refine T.seq ?_
  refine T.seq ?_
  refine T.region ?_
  refine TL.st rfl rfl rfl (o_move rfl rfl) ?_
  refine TL.st rfl rfl rfl (o_ari rfl rfl rfl rfl) ?_
  refine TL.nil ?_
  refine thn_normal ?_
  refine T.cond (decide ((IntKind.i64.wrap (a1 - (a0.Who_.size : Int))) < 0)) rfl (fun h => ?_) (fun h => ?_)
  · replace H := cond_t h H
    refine T.seq ?_
    refine T.region ?_
    refine TL.st rfl rfl rfl (o_assign rfl rfl) ?_
    refine TL.nil ?_
    refine thn_normal ?_
    refine T.ret ?_
    refine thn_ret ?_
    cases some_i H
    exact ⟨trivial, _, (.tmp _ _ _ _ rfl .nil), (.cl _ rfl)⟩
  · replace H := cond_f h H
    refine T.skip ?_
    refine thn_normal ?_
    refine T.seq ?_
    refine T.region ?_
    refine TL.st rfl rfl rfl (o_move rfl rfl) ?_
    refine TL.st rfl rfl rfl (o_assign rfl rfl) ?_
    refine TL.nil ?_
    refine thn_normal ?_
    refine T.ret ?_
    cases some_i H
    exact ⟨trivial, _, (.tmp _ _ _ _ rfl .nil), (.cl _ rfl)⟩
theorem en_32 (us : Array Value) (w : World) : (callFunc 32 us).run Go.Proofs.Try.prog w = .ok (.enter 32 us) w := enters Go.Proofs.Try.func32 rfl rfl us w
noncomputable def laws_szRecoverEventS_l1 (a0 : (List T_laws_RecoverEvent)) : (Int × Int) → Option ((Int × Int) ⊕ (Int ⊕ Int)) := fun s => match s with
  | (v1, v2) => cond (decide (v2 < (a0.length : Int))) ((idx a0 v2).bind fun e6 => (laws_szRecoverEvent e6 v1).bind fun r8 => cond (decide (r8 < 0)) (some (.inr (.inr (-1)))) (some (.inl (r8, (IntKind.i64.wrap (v2 + 1)))))) (some (.inr (.inl v1)))
noncomputable def laws_szRecoverEventS (a0 : (List T_laws_RecoverEvent)) (a1 : Int) : Option Int :=
  cond (decide ((IntKind.i64.wrap (a1 - (a0.length : Int))) < 0)) (some (-1)) ((loopO (laws_szRecoverEventS_l1 a0) ((IntKind.i64.wrap (a1 - (a0.length : Int))), 0)).bind fun q10 => (match q10 with | .inl v3 => some v3 | .inr q4 => some q4))
theorem laws_szRecoverEventS_p (b0 : Bool) {a0 : (List T_laws_RecoverEvent)} {a1 : Int} {R0 : Int} (H : laws_szRecoverEventS a0 a1 = some R0) : Pure Go.Proofs.Try.prog 10 [.im b0 (a0.map (c_T_laws_RecoverEvent false)), .int .i64 a1] (.int .i64 R0) := by
  refine CallT.of_TN (n := 27) Go.Proofs.Try.func10 rfl rfl rfl rfl ?_
  refine T.seq ?_
  refine T.region ?_
  refine TL.st rfl rfl rfl (o_assign rfl rfl) ?_
  refine TL.nil ?_
  refine thn_normal ?_
  refine T.seq ?_
  refine T.region ?_
  refine TL.st rfl rfl rfl (o_move rfl rfl) ?_
  refine TL.st rfl rfl rfl (o_move rfl rfl) ?_
  refine TL.st rfl rfl rfl (o_lenL (f := c_T_laws_RecoverEvent false) rfl rfl rfl) ?_
  refine TL.st rfl rfl rfl (o_ari rfl rfl rfl rfl) ?_
  refine TL.st rfl rfl rfl (o_assign rfl rfl) ?_
  refine TL.nil ?_
  refine thn_normal ?_
  refine T.seq ?_
  refine T.seq ?_
  refine T.region ?_
  refine TL.st rfl rfl rfl (o_move rfl rfl) ?_
  refine TL.st rfl rfl rfl (o_ari rfl rfl rfl rfl) ?_
  refine TL.nil ?_
  refine thn_normal ?_
  refine T.cond (decide ((IntKind.i64.wrap (a1 - (a0.length : Int))) < 0)) rfl (fun h => ?_) (fun h => ?_)
  · replace H := cond_t h H
    refine T.seq ?_
    refine T.region ?_
    refine TL.st rfl rfl rfl (o_assign rfl rfl) ?_
    refine TL.nil ?_
    refine thn_normal ?_
    refine T.ret ?_
    refine thn_ret ?_
    cases some_i H
    exact ⟨trivial, _, (.tmp _ _ _ _ rfl .nil), (.cl _ rfl)⟩
  · replace H := cond_f h H
    refine T.skip ?_
    refine thn_normal ?_
    refine T.seq ?_
    refine T.seq ?_
    refine T.region ?_
    refine TL.st rfl rfl rfl (o_assign rfl rfl) ?_
    refine TL.nil ?_
    refine thn_normal ?_
    refine T.block ?_
    obtain ⟨q10, h11, H⟩ := bind_s H
    refine T.to (.cons 0 _ (.im b0 (a0.map (c_T_laws_RecoverEvent false))) _ rfl (.same _) rfl (.cons 1 _ (.int .i64 (IntKind.i64.wrap (a1 - (a0.length : Int)))) _ rfl (.same _) rfl (.cons 5 _ (.int .i64 0) _ rfl (.same _) rfl .nil))) ?_
    refine T.lp (fun s => match s with | (v1, v2) => [(0, .im b0 (a0.map (c_T_laws_RecoverEvent false))), (1, .int .i64 v1), (5, .int .i64 v2)]) (fun s => match s with | (v1, v2) => []) (fun q ex fr σ => match q with | .inl v3 => ex = .exit 0 ∧ fr = [(1, .int .i64 v3)] ∧ σ = [] | .inr q4 => ex = .ret ∧ RetN Go.Proofs.Try.prog [.tmp 4] (fun v τ => Told τ v (.int .i64 q4)) .ret fr σ) h11 ?_ ?_ ?_ ?_ ?_
    · rintro ⟨v1, v2⟩ y5 H
      refine T.seq ?_
      refine T.seq ?_
      refine T.region ?_
      refine TL.st rfl rfl rfl (o_move rfl rfl) ?_
      refine TL.st rfl rfl rfl (o_move rfl rfl) ?_
      refine TL.st rfl rfl rfl (o_lenL (f := c_T_laws_RecoverEvent false) rfl rfl rfl) ?_
      refine TL.st rfl rfl rfl (o_ari rfl rfl rfl rfl) ?_
      refine TL.nil ?_
      refine thn_normal ?_
      refine T.cond (decide (v2 < (a0.length : Int))) rfl (fun h => ?_) (fun h => ?_)
      · replace H := cond_t h H
        refine T.skip ?_
        refine thn_normal ?_
        refine T.seq ?_
        refine T.block ?_
        refine T.seq ?_
        refine T.region ?_
        refine TL.st rfl rfl rfl (o_move rfl rfl) ?_
        refine TL.st rfl rfl rfl (o_move rfl rfl) ?_
        obtain ⟨e6, h7, H⟩ := bind_s H
        refine TL.st rfl rfl rfl (o_ix (f := c_T_laws_RecoverEvent false) rfl rfl tyS_61 rfl rfl h7 rfl) ?_
        refine TL.st rfl rfl rfl (o_loadRf rfl tyS_61 rfl (Nat.le_of_ble_eq_true rfl) rfl) ?_
        refine TL.st rfl rfl rfl (o_move rfl rfl) ?_
        obtain ⟨r8, h9, H⟩ := bind_s H
        refine TL.st rfl rfl rfl (o_callP rfl en_32 rfl rfl (.cons _ _ _ _ (.cl _ rfl) (.cons _ _ _ _ (.cl _ rfl) .nil)) (laws_szRecoverEvent_p  h9)) ?_
        refine TL.st rfl rfl rfl (o_assign rfl rfl) ?_
        refine TL.nil ?_
        refine thn_normal ?_
        refine T.seq ?_
        refine T.region ?_
        refine TL.st rfl rfl rfl (o_move rfl rfl) ?_
        refine TL.st rfl rfl rfl (o_ari rfl rfl rfl rfl) ?_
        refine TL.nil ?_
        refine thn_normal ?_
        refine T.cond (decide (r8 < 0)) rfl (fun h => ?_) (fun h => ?_)
        · replace H := cond_t h H
          refine T.seq ?_
          refine T.region ?_
          refine TL.st rfl rfl rfl (o_assign rfl rfl) ?_
          refine TL.nil ?_
          refine thn_normal ?_
          refine T.ret ?_
          refine inB_ret ?_
          refine thn_ret ?_
          exact Pk.id (thn_ret ⟨.inr (-1), (some_i H).symm, rfl, ⟨trivial, _, (.tmp _ _ _ _ rfl .nil), (.cl _ rfl)⟩⟩)
        · replace H := cond_f h H
          refine T.skip ?_
          refine inB_normal ?_
          refine thn_normal ?_
          refine T.region ?_
          refine TL.st rfl rfl rfl (o_move rfl rfl) ?_
          refine TL.st rfl rfl rfl (o_ari rfl rfl rfl rfl) ?_
          refine TL.st rfl rfl rfl (o_assign rfl rfl) ?_
          refine TL.nil ?_
          exact Pk.go (fr' := [(0, .im b0 (a0.map (c_T_laws_RecoverEvent false))), (1, .int .i64 r8), (5, .int .i64 (IntKind.i64.wrap (v2 + 1)))]) (σ' := []) _ rfl rfl trivial (.cons 0 _ (.im b0 (a0.map (c_T_laws_RecoverEvent false))) _ rfl (.same _) rfl (.cons 1 _ (.int .i64 r8) _ rfl (.same _) rfl (.cons 5 _ (.int .i64 (IntKind.i64.wrap (v2 + 1))) _ rfl (.same _) rfl .nil))) (thn_normal ⟨(r8, (IntKind.i64.wrap (v2 + 1))), (some_i H).symm, rfl, rfl⟩)
      · replace H := cond_f h H
        refine T.exit ?_
        refine thn_exit ?_
        exact Pk.go (fr' := [(1, .int .i64 v1)]) (σ' := []) _ rfl rfl trivial (.cons 1 _ (.int .i64 v1) _ rfl (.same _) rfl .nil) (thn_exit ⟨.inl v1, (some_i H).symm, rfl, rfl, rfl⟩)
    · rintro ⟨v1, v2⟩ ⟨v1', v2'⟩; rfl
    · rintro ⟨v1, v2⟩; exact trivial
    · rintro ⟨v1, v2⟩; exact (.cons _ _ _ rfl rfl (.cons _ _ _ rfl rfl (.cons _ _ _ rfl rfl .nil)))
    · rcases q10 with v3 | q4
      · rintro _ _ _ ⟨rfl, rfl, rfl⟩
        refine inB_here ?_
        refine thn_normal ?_
        refine T.seq ?_
        refine T.region ?_
        refine TL.st rfl rfl rfl (o_move rfl rfl) ?_
        refine TL.st rfl rfl rfl (o_assign rfl rfl) ?_
        refine TL.nil ?_
        refine thn_normal ?_
        refine T.ret ?_
        cases some_i H
        exact ⟨trivial, _, (.tmp _ _ _ _ rfl .nil), (.cl _ rfl)⟩
      · rintro _ fr1 σ1 ⟨rfl, hr⟩
        refine inB_ret ?_
        refine thn_ret ?_
        cases some_i H
        exact hr
theorem en_10 (us : Array Value) (w : World) : (callFunc 10 us).run Go.Proofs.Try.prog w = .ok (.enter 10 us) w := enters Go.Proofs.Try.func10 rfl rfl us w
noncomputable def laws_toStringS_l1 (a0 : (List ByteArray)) : (List ByteArray × Int) → Option ((List ByteArray × Int) ⊕ List ByteArray) := fun s => match s with
  | (l3, v4) => cond (decide (v4 < (a0.length : Int))) ((idx a0 v4).bind fun e7 => (idx l3 v4).bind fun e9 => some (.inl ((l3.set (Int.toNat v4) e7), (IntKind.i64.wrap (v4 + 1))))) (some (.inr l3))
noncomputable def laws_toStringS (a0 : (List ByteArray)) : Option (List ByteArray) :=
  (mk (ByteArray.mk #[]) (a0.length : Int)).bind fun l1 => (loopO (laws_toStringS_l1 a0) (l1, 0)).bind fun q11 => (match q11 with | l5 => some l5)
theorem laws_toStringS_p (b0 : Bool) {a0 : (List ByteArray)} {R0 : (List ByteArray)} (H : laws_toStringS a0 = some R0) : Pure Go.Proofs.Try.prog 11 [.im b0 (a0.map (c_str))] (.im false (R0.map (c_str))) := by
  refine CallT.of_TN (n := 22) Go.Proofs.Try.func11 rfl rfl rfl rfl ?_
  refine T.seq ?_
  refine T.region ?_
  refine TL.st rfl rfl rfl (o_assign rfl rfl) ?_
  refine TL.nil ?_
  refine thn_normal ?_
  refine T.seq ?_
  refine T.region ?_
  refine TL.st rfl rfl rfl (o_move rfl rfl) ?_
  refine TL.st rfl rfl rfl (o_lenL (f := c_str) rfl rfl rfl) ?_
  obtain ⟨l1, h2, H⟩ := bind_s H
  refine TL.st rfl rfl rfl (o_mk (f := c_str) (z := (ByteArray.mk #[])) rfl rfl tyE_9 ⟨_, rfl, rfl⟩ rfl rfl h2) ?_
  refine TL.st rfl rfl rfl (o_assign rfl rfl) ?_
  refine TL.nil ?_
  refine thn_normal ?_
  refine T.seq ?_
  refine T.seq ?_
  refine T.region ?_
  refine TL.st rfl rfl rfl (o_assign rfl rfl) ?_
  refine TL.nil ?_
  refine thn_normal ?_
  refine T.block ?_
  obtain ⟨q11, h12, H⟩ := bind_s H
  refine T.to (.cons 0 _ (.im b0 (a0.map (c_str))) _ rfl (.same _) rfl (.cons 3 _ (.hd 0 (l1.map (c_str)).length 0 (l1.map (c_str)).length) _ rfl (.same _) rfl (.cons 4 _ (.int .i64 0) _ rfl (.same _) rfl .nil))) ?_
  refine T.lp (fun s => match s with | (l3, v4) => [(0, .im b0 (a0.map (c_str))), (3, .hd 0 (l3.map (c_str)).length 0 (l3.map (c_str)).length), (4, .int .i64 v4)]) (fun s => match s with | (l3, v4) => [.arr .clo 1 (l3.map (c_str))]) (fun q ex fr σ => match q with | l5 => ex = .exit 0 ∧ fr = [(3, .hd 0 (l5.map (c_str)).length 0 (l5.map (c_str)).length)] ∧ σ = [.arr .clo 1 (l5.map (c_str))]) h12 ?_ ?_ ?_ ?_ ?_
  · rintro ⟨l3, v4⟩ y6 H
    refine T.seq ?_
    refine T.seq ?_
    refine T.region ?_
    refine TL.st rfl rfl rfl (o_move rfl rfl) ?_
    refine TL.st rfl rfl rfl (o_move rfl rfl) ?_
    refine TL.st rfl rfl rfl (o_lenL (f := c_str) rfl rfl rfl) ?_
    refine TL.st rfl rfl rfl (o_ari rfl rfl rfl rfl) ?_
    refine TL.nil ?_
    refine thn_normal ?_
    refine T.cond (decide (v4 < (a0.length : Int))) rfl (fun h => ?_) (fun h => ?_)
    · replace H := cond_t h H
      refine T.skip ?_
      refine thn_normal ?_
      refine T.seq ?_
      refine T.block ?_
      refine T.region ?_
      refine TL.st rfl rfl rfl (o_move rfl rfl) ?_
      refine TL.st rfl rfl rfl (o_move rfl rfl) ?_
      refine TL.st rfl rfl rfl (o_move rfl rfl) ?_
      refine TL.st rfl rfl rfl (o_move rfl rfl) ?_
      obtain ⟨e7, h8, H⟩ := bind_s H
      refine TL.st rfl rfl rfl (o_ix (f := c_str) rfl rfl tyS_9 rfl rfl h8 rfl) ?_
      refine TL.st rfl rfl rfl (o_loadRf rfl tyS_9 rfl (Nat.le_of_ble_eq_true rfl) rfl) ?_
      obtain ⟨e9, h10, H⟩ := bind_s H
      refine TL.st rfl rfl rfl (o_ixh (f := c_str) rfl rfl tyS_9 rfl rfl rfl rfl h10 rfl) ?_
      refine TL.sn rfl rfl (o_stEl (f := c_str) (xs := l3) (k := v4) (a := e9) e7 rfl tyS_9 rfl rfl rfl rfl (by decide) h10 rfl rfl rfl (fun _ => rfl) rfl) ?_
      refine TL.conv (Cs.eqV (t := 3) (v' := .hd 0 ((l3.set (Int.toNat v4) e7).map (c_str)).length 0 ((l3.set (Int.toNat v4) e7).map (c_str)).length) rfl (hd_len _ (List.length_set ..))) ?_
      refine TL.conv (Cs.eqV (t := 14) (v' := .hd 0 ((l3.set (Int.toNat v4) e7).map (c_str)).length 0 ((l3.set (Int.toNat v4) e7).map (c_str)).length) rfl (hd_len _ (List.length_set ..))) ?_
      refine TL.nil ?_
      refine inB_normal ?_
      refine thn_normal ?_
      refine T.region ?_
      refine TL.st rfl rfl rfl (o_move rfl rfl) ?_
      refine TL.st rfl rfl rfl (o_ari rfl rfl rfl rfl) ?_
      refine TL.st rfl rfl rfl (o_assign rfl rfl) ?_
      refine TL.nil ?_
      exact Pk.go (fr' := [(0, .im b0 (a0.map (c_str))), (3, .hd 0 ((l3.set (Int.toNat v4) e7).map (c_str)).length 0 ((l3.set (Int.toNat v4) e7).map (c_str)).length), (4, .int .i64 (IntKind.i64.wrap (v4 + 1)))]) (σ' := [.arr .clo 1 ((l3.set (Int.toNat v4) e7).map (c_str))]) _ rfl rfl ⟨trivial, trivial⟩ (.cons 0 _ (.im b0 (a0.map (c_str))) _ rfl (.same _) rfl (.cons 3 _ (.hd 0 ((l3.set (Int.toNat v4) e7).map (c_str)).length 0 ((l3.set (Int.toNat v4) e7).map (c_str)).length) _ rfl (.same _) rfl (.cons 4 _ (.int .i64 (IntKind.i64.wrap (v4 + 1))) _ rfl (.same _) rfl .nil))) (thn_normal ⟨((l3.set (Int.toNat v4) e7), (IntKind.i64.wrap (v4 + 1))), (some_i H).symm, rfl, rfl⟩)
    · replace H := cond_f h H
      refine T.exit ?_
      refine thn_exit ?_
      exact Pk.go (fr' := [(3, .hd 0 (l3.map (c_str)).length 0 (l3.map (c_str)).length)]) (σ' := [.arr .clo 1 (l3.map (c_str))]) _ rfl rfl ⟨trivial, trivial⟩ (.cons 3 _ (.hd 0 (l3.map (c_str)).length 0 (l3.map (c_str)).length) _ rfl (.same _) rfl .nil) (thn_exit ⟨l3, (some_i H).symm, rfl, rfl, rfl⟩)
  · rintro ⟨l3, v4⟩ ⟨l3', v4'⟩; rfl
  · rintro ⟨l3, v4⟩; exact ⟨trivial, trivial⟩
  · rintro ⟨l3, v4⟩; exact (.cons _ _ _ rfl rfl (.cons _ _ _ rfl rfl (.cons _ _ _ rfl rfl .nil)))
  · rcases q11 with l5
    rintro _ _ _ ⟨rfl, rfl, rfl⟩
    refine inB_here ?_
    refine thn_normal ?_
    refine T.seq ?_
    refine T.region ?_
    refine TL.st rfl rfl rfl (o_move rfl rfl) ?_
    refine TL.st rfl rfl rfl (o_assign rfl rfl) ?_
    refine TL.nil ?_
    refine thn_normal ?_
    refine T.ret ?_
    cases some_i H
    exact ⟨trivial, _, (.tmp _ _ _ _ rfl .nil), (.own rfl (by decide) rfl)⟩
theorem en_11 (us : Array Value) (w : World) : (callFunc 11 us).run Go.Proofs.Try.prog w = .ok (.enter 11 us) w := enters Go.Proofs.Try.func11 rfl rfl us w
noncomputable def laws_toRecoverEvent (a0 : T_laws_RecoverEvent) : Option T_impl_RecoverEvent :=
  some (⟨a0.Kind_, a0.Time_, a0.Who_⟩ : T_impl_RecoverEvent)
theorem laws_toRecoverEvent_p  {a0 : T_laws_RecoverEvent} {R0 : T_impl_RecoverEvent} (H : laws_toRecoverEvent a0 = some R0) : Pure Go.Proofs.Try.prog 33 [.agg (c_T_laws_RecoverEvent false a0)] (.agg (c_T_impl_RecoverEvent false R0)) := by
  refine CallT.of_TN (n := 14) Go.Proofs.Try.func33 rfl rfl rfl rfl ?_
  refine T.seq ?_
  refine T.region ?_
  refine TL.st rfl rfl rfl (o_box rfl rfl rfl) ?_
  refine TL.st rfl rfl rfl (o_alloc rfl ⟨_, rfl, rfl⟩) ?_
  refine TL.nil ?_
  refine thn_normal ?_
  refine T.seq ?_
  refine T.region ?_
  refine TL.st rfl rfl rfl (o_alloc rfl ⟨_, rfl, rfl⟩) ?_
  refine TL.nil ?_
  refine thn_normal ?_
  refine T.seq ?_
  refine T.region ?_
  refine TL.st rfl rfl rfl (o_fieldAddr rfl rfl rfl tyS_3 (by decide) rfl rfl ⟨_, rfl, Nat.le_of_ble_eq_true rfl⟩) ?_
  refine TL.st rfl rfl rfl (o_loadBx rfl tyS_3 rfl rfl (Nat.le_of_ble_eq_true rfl) rfl) ?_
  refine TL.st rfl rfl rfl (o_fieldAddr rfl rfl rfl tyS_3 (by decide) rfl rfl ⟨_, rfl, Nat.le_of_ble_eq_true rfl⟩) ?_
  refine TL.sn rfl rfl (o_storeBx rfl tyS_3 rfl rfl rfl rfl (Nat.le_of_ble_eq_true rfl) rfl) ?_
  refine TL.nil ?_
  refine thn_normal ?_
  refine T.seq ?_
  refine T.region ?_
  refine TL.st rfl rfl rfl (o_fieldAddr rfl rfl rfl tyS_3 (by decide) rfl rfl ⟨_, rfl, Nat.le_of_ble_eq_true rfl⟩) ?_
  refine TL.st rfl rfl rfl (o_loadBx rfl tyS_3 rfl rfl (Nat.le_of_ble_eq_true rfl) rfl) ?_
  refine TL.st rfl rfl rfl (o_fieldAddr rfl rfl rfl tyS_3 (by decide) rfl rfl ⟨_, rfl, Nat.le_of_ble_eq_true rfl⟩) ?_
  refine TL.sn rfl rfl (o_storeBx rfl tyS_3 rfl rfl rfl rfl (Nat.le_of_ble_eq_true rfl) rfl) ?_
  refine TL.nil ?_
  refine thn_normal ?_
  refine T.seq ?_
  refine T.region ?_
  refine TL.st rfl rfl rfl (o_fieldAddr rfl rfl rfl tyS_9 (by decide) rfl rfl ⟨_, rfl, Nat.le_of_ble_eq_true rfl⟩) ?_
  refine TL.st rfl rfl rfl (o_loadBx rfl tyS_9 rfl rfl (Nat.le_of_ble_eq_true rfl) rfl) ?_
  refine TL.st rfl rfl rfl (o_fieldAddr rfl rfl rfl tyS_9 (by decide) rfl rfl ⟨_, rfl, Nat.le_of_ble_eq_true rfl⟩) ?_
  refine TL.sn rfl rfl (o_storeBx rfl tyS_9 rfl rfl rfl rfl (Nat.le_of_ble_eq_true rfl) rfl) ?_
  refine TL.nil ?_
  refine thn_normal ?_
  refine T.seq ?_
  refine T.region ?_
  refine TL.st rfl rfl rfl (o_loadBx rfl tyS_31 rfl rfl (Nat.le_of_ble_eq_true rfl) rfl) ?_
  refine TL.sn rfl rfl (o_storeBx rfl tyS_31 rfl rfl rfl rfl (Nat.le_of_ble_eq_true rfl) rfl) ?_
  refine TL.nil ?_
  refine thn_normal ?_
  refine T.ret ?_
  cases some_i H
  exact ⟨trivial, _, (.cell _ _ _ _ _ _ _ _ _ _ rfl rfl tyS_31 (Nat.le_of_ble_eq_true rfl) rfl .nil), (.cl _ rfl)⟩
theorem en_33 (us : Array Value) (w : World) : (callFunc 33 us).run Go.Proofs.Try.prog w = .ok (.enter 33 us) w := enters Go.Proofs.Try.func33 rfl rfl us w
noncomputable def laws_toRecoverEventS_l1 (a0 : (List T_laws_RecoverEvent)) : (List T_impl_RecoverEvent × Int) → Option ((List T_impl_RecoverEvent × Int) ⊕ List T_impl_RecoverEvent) := fun s => match s with
  | (l3, v4) => cond (decide (v4 < (a0.length : Int))) ((idx a0 v4).bind fun e7 => (laws_toRecoverEvent e7).bind fun r9 => (idx l3 v4).bind fun e11 => some (.inl ((l3.set (Int.toNat v4) r9), (IntKind.i64.wrap (v4 + 1))))) (some (.inr l3))
noncomputable def laws_toRecoverEventS (a0 : (List T_laws_RecoverEvent)) : Option (List T_impl_RecoverEvent) :=
  (mk (⟨0, 0, (ByteArray.mk #[])⟩ : T_impl_RecoverEvent) (a0.length : Int)).bind fun l1 => (loopO (laws_toRecoverEventS_l1 a0) (l1, 0)).bind fun q13 => (match q13 with | l5 => some l5)
theorem laws_toRecoverEventS_p (b0 : Bool) {a0 : (List T_laws_RecoverEvent)} {R0 : (List T_impl_RecoverEvent)} (H : laws_toRecoverEventS a0 = some R0) : Pure Go.Proofs.Try.prog 12 [.im b0 (a0.map (c_T_laws_RecoverEvent false))] (.im false (R0.map (c_T_impl_RecoverEvent false))) := by
  refine CallT.of_TN (n := 23) Go.Proofs.Try.func12 rfl rfl rfl rfl ?_
  refine T.seq ?_
  refine T.region ?_
  refine TL.st rfl rfl rfl (o_assign rfl rfl) ?_
  refine TL.nil ?_
  refine thn_normal ?_
  refine T.seq ?_
  refine T.region ?_
  refine TL.st rfl rfl rfl (o_move rfl rfl) ?_
  refine TL.st rfl rfl rfl (o_lenL (f := c_T_laws_RecoverEvent false) rfl rfl rfl) ?_
  obtain ⟨l1, h2, H⟩ := bind_s H
  refine TL.st rfl rfl rfl (o_mk (f := c_T_impl_RecoverEvent false) (z := (⟨0, 0, (ByteArray.mk #[])⟩ : T_impl_RecoverEvent)) rfl rfl tyE_31 ⟨_, rfl, rfl⟩ rfl rfl h2) ?_
  refine TL.st rfl rfl rfl (o_assign rfl rfl) ?_
  refine TL.nil ?_
  refine thn_normal ?_
  refine T.seq ?_
  refine T.seq ?_
  refine T.region ?_
  refine TL.st rfl rfl rfl (o_assign rfl rfl) ?_
  refine TL.nil ?_
  refine thn_normal ?_
  refine T.block ?_
  obtain ⟨q13, h14, H⟩ := bind_s H
  refine T.to (.cons 0 _ (.im b0 (a0.map (c_T_laws_RecoverEvent false))) _ rfl (.same _) rfl (.cons 3 _ (.hd 0 (l1.map (c_T_impl_RecoverEvent false)).length 0 (l1.map (c_T_impl_RecoverEvent false)).length) _ rfl (.same _) rfl (.cons 4 _ (.int .i64 0) _ rfl (.same _) rfl .nil))) ?_
  refine T.lp (fun s => match s with | (l3, v4) => [(0, .im b0 (a0.map (c_T_laws_RecoverEvent false))), (3, .hd 0 (l3.map (c_T_impl_RecoverEvent false)).length 0 (l3.map (c_T_impl_RecoverEvent false)).length), (4, .int .i64 v4)]) (fun s => match s with | (l3, v4) => [.arr .clo 3 (l3.map (c_T_impl_RecoverEvent false))]) (fun q ex fr σ => match q with | l5 => ex = .exit 0 ∧ fr = [(3, .hd 0 (l5.map (c_T_impl_RecoverEvent false)).length 0 (l5.map (c_T_impl_RecoverEvent false)).length)] ∧ σ = [.arr .clo 3 (l5.map (c_T_impl_RecoverEvent false))]) h14 ?_ ?_ ?_ ?_ ?_
  · rintro ⟨l3, v4⟩ y6 H
    refine T.seq ?_
    refine T.seq ?_
    refine T.region ?_
    refine TL.st rfl rfl rfl (o_move rfl rfl) ?_
    refine TL.st rfl rfl rfl (o_move rfl rfl) ?_
    refine TL.st rfl rfl rfl (o_lenL (f := c_T_laws_RecoverEvent false) rfl rfl rfl) ?_
    refine TL.st rfl rfl rfl (o_ari rfl rfl rfl rfl) ?_
    refine TL.nil ?_
    refine thn_normal ?_
    refine T.cond (decide (v4 < (a0.length : Int))) rfl (fun h => ?_) (fun h => ?_)
    · replace H := cond_t h H
      refine T.skip ?_
      refine thn_normal ?_
      refine T.seq ?_
      refine T.block ?_
      refine T.region ?_
      refine TL.st rfl rfl rfl (o_move rfl rfl) ?_
      refine TL.st rfl rfl rfl (o_move rfl rfl) ?_
      refine TL.st rfl rfl rfl (o_move rfl rfl) ?_
      refine TL.st rfl rfl rfl (o_move rfl rfl) ?_
      obtain ⟨e7, h8, H⟩ := bind_s H
      refine TL.st rfl rfl rfl (o_ix (f := c_T_laws_RecoverEvent false) rfl rfl tyS_61 rfl rfl h8 rfl) ?_
      refine TL.st rfl rfl rfl (o_loadRf rfl tyS_61 rfl (Nat.le_of_ble_eq_true rfl) rfl) ?_
      obtain ⟨r9, h10, H⟩ := bind_s H
      refine TL.st rfl rfl rfl (o_callP rfl en_33 rfl rfl (.cons _ _ _ _ (.cl _ rfl) .nil) (laws_toRecoverEvent_p  h10)) ?_
      obtain ⟨e11, h12, H⟩ := bind_s H
      refine TL.st rfl rfl rfl (o_ixh (f := c_T_impl_RecoverEvent false) rfl rfl tyS_31 rfl rfl rfl rfl h12 rfl) ?_
      refine TL.sn rfl rfl (o_stEl (f := c_T_impl_RecoverEvent false) (xs := l3) (k := v4) (a := e11) r9 rfl tyS_31 rfl rfl rfl rfl (by decide) h12 rfl rfl rfl (fun _ => rfl) rfl) ?_
      refine TL.conv (Cs.eqV (t := 3) (v' := .hd 0 ((l3.set (Int.toNat v4) r9).map (c_T_impl_RecoverEvent false)).length 0 ((l3.set (Int.toNat v4) r9).map (c_T_impl_RecoverEvent false)).length) rfl (hd_len _ (List.length_set ..))) ?_
      refine TL.conv (Cs.eqV (t := 14) (v' := .hd 0 ((l3.set (Int.toNat v4) r9).map (c_T_impl_RecoverEvent false)).length 0 ((l3.set (Int.toNat v4) r9).map (c_T_impl_RecoverEvent false)).length) rfl (hd_len _ (List.length_set ..))) ?_
      refine TL.nil ?_
      refine inB_normal ?_
      refine thn_normal ?_
      refine T.region ?_
      refine TL.st rfl rfl rfl (o_move rfl rfl) ?_
      refine TL.st rfl rfl rfl (o_ari rfl rfl rfl rfl) ?_
      refine TL.st rfl rfl rfl (o_assign rfl rfl) ?_
      refine TL.nil ?_
      exact Pk.go (fr' := [(0, .im b0 (a0.map (c_T_laws_RecoverEvent false))), (3, .hd 0 ((l3.set (Int.toNat v4) r9).map (c_T_impl_RecoverEvent false)).length 0 ((l3.set (Int.toNat v4) r9).map (c_T_impl_RecoverEvent false)).length), (4, .int .i64 (IntKind.i64.wrap (v4 + 1)))]) (σ' := [.arr .clo 3 ((l3.set (Int.toNat v4) r9).map (c_T_impl_RecoverEvent false))]) _ rfl rfl ⟨trivial, trivial⟩ (.cons 0 _ (.im b0 (a0.map (c_T_laws_RecoverEvent false))) _ rfl (.same _) rfl (.cons 3 _ (.hd 0 ((l3.set (Int.toNat v4) r9).map (c_T_impl_RecoverEvent false)).length 0 ((l3.set (Int.toNat v4) r9).map (c_T_impl_RecoverEvent false)).length) _ rfl (.same _) rfl (.cons 4 _ (.int .i64 (IntKind.i64.wrap (v4 + 1))) _ rfl (.same _) rfl .nil))) (thn_normal ⟨((l3.set (Int.toNat v4) r9), (IntKind.i64.wrap (v4 + 1))), (some_i H).symm, rfl, rfl⟩)
    · replace H := cond_f h H
      refine T.exit ?_
      refine thn_exit ?_
      exact Pk.go (fr' := [(3, .hd 0 (l3.map (c_T_impl_RecoverEvent false)).length 0 (l3.map (c_T_impl_RecoverEvent false)).length)]) (σ' := [.arr .clo 3 (l3.map (c_T_impl_RecoverEvent false))]) _ rfl rfl ⟨trivial, trivial⟩ (.cons 3 _ (.hd 0 (l3.map (c_T_impl_RecoverEvent false)).length 0 (l3.map (c_T_impl_RecoverEvent false)).length) _ rfl (.same _) rfl .nil) (thn_exit ⟨l3, (some_i H).symm, rfl, rfl, rfl⟩)
  · rintro ⟨l3, v4⟩ ⟨l3', v4'⟩; rfl
  · rintro ⟨l3, v4⟩; exact ⟨trivial, trivial⟩
  · rintro ⟨l3, v4⟩; exact (.cons _ _ _ rfl rfl (.cons _ _ _ rfl rfl (.cons _ _ _ rfl rfl .nil)))
  · rcases q13 with l5
    rintro _ _ _ ⟨rfl, rfl, rfl⟩
    refine inB_here ?_
    refine thn_normal ?_
    refine T.seq ?_
    refine T.region ?_
    refine TL.st rfl rfl rfl (o_move rfl rfl) ?_
    refine TL.st rfl rfl rfl (o_assign rfl rfl) ?_
    refine TL.nil ?_
    refine thn_normal ?_
    refine T.ret ?_
    cases some_i H
    exact ⟨trivial, _, (.tmp _ _ _ _ rfl .nil), (.own rfl (by decide) rfl)⟩
theorem en_12 (us : Array Value) (w : World) : (callFunc 12 us).run Go.Proofs.Try.prog w = .ok (.enter 12 us) w := enters Go.Proofs.Try.func12 rfl rfl us w
noncomputable def laws_eqIntS_l1 (a0 : (List Int)) (a1 : (List Int)) : Int → Option (Int ⊕ (Unit ⊕ Bool)) := fun s => match s with
  | v1 => cond (decide (v1 < (a0.length : Int))) ((idx a0 v1).bind fun e4 => (idx a1 v1).bind fun e6 => cond (e4 != e6) (some (.inr (.inr false))) (some (.inl (IntKind.i64.wrap (v1 + 1))))) (some (.inr (.inl ())))
noncomputable def laws_eqIntS (a0 : (List Int)) (a1 : (List Int)) : Option Bool :=
  cond ((a0.length : Int) != (a1.length : Int)) (some false) ((loopO (laws_eqIntS_l1 a0 a1) 0).bind fun q8 => (match q8 with | .inl _ => some true | .inr q2 => some q2))
theorem laws_eqIntS_p (b0 : Bool) (b1 : Bool) {a0 : (List Int)} {a1 : (List Int)} {R0 : Bool} (H : laws_eqIntS a0 a1 = some R0) : Pure Go.Proofs.Try.prog 13 [.im b0 (a0.map (c_int .i64)), .im b1 (a1.map (c_int .i64))] (.bool R0) := by
  refine CallT.of_TN (n := 26) Go.Proofs.Try.func13 rfl rfl rfl rfl ?_
  refine T.seq ?_
  refine T.region ?_
  refine TL.st rfl rfl rfl (o_assign rfl rfl) ?_
  refine TL.nil ?_
  refine thn_normal ?_
  refine T.seq ?_
  refine T.seq ?_
  refine T.region ?_
  refine TL.st rfl rfl rfl (o_move rfl rfl) ?_
  refine TL.st rfl rfl rfl (o_lenL (f := c_int .i64) rfl rfl rfl) ?_
  refine TL.st rfl rfl rfl (o_move rfl rfl) ?_
  refine TL.st rfl rfl rfl (o_lenL (f := c_int .i64) rfl rfl rfl) ?_
  refine TL.st rfl rfl rfl (o_ari rfl rfl rfl rfl) ?_
  refine TL.nil ?_
  refine thn_normal ?_
  refine T.cond (((a0.length : Int) != (a1.length : Int))) rfl (fun h => ?_) (fun h => ?_)
  · replace H := cond_t h H
    refine T.seq ?_
    refine T.region ?_
    refine TL.st rfl rfl rfl (o_assign rfl rfl) ?_
    refine TL.nil ?_
    refine thn_normal ?_
    refine T.ret ?_
    refine thn_ret ?_
    cases some_i H
    exact ⟨trivial, _, (.tmp _ _ _ _ rfl .nil), (.cl _ rfl)⟩
  · replace H := cond_f h H
    refine T.skip ?_
    refine thn_normal ?_
    refine T.seq ?_
    refine T.seq ?_
    refine T.region ?_
    refine TL.st rfl rfl rfl (o_assign rfl rfl) ?_
    refine TL.nil ?_
    refine thn_normal ?_
    refine T.block ?_
    obtain ⟨q8, h9, H⟩ := bind_s H
    refine T.to (.cons 0 _ (.im b0 (a0.map (c_int .i64))) _ rfl (.same _) rfl (.cons 1 _ (.im b1 (a1.map (c_int .i64))) _ rfl (.same _) rfl (.cons 5 _ (.int .i64 0) _ rfl (.same _) rfl .nil))) ?_
    refine T.lp (fun s => match s with | v1 => [(0, .im b0 (a0.map (c_int .i64))), (1, .im b1 (a1.map (c_int .i64))), (5, .int .i64 v1)]) (fun s => match s with | v1 => []) (fun q ex fr σ => match q with | .inl _ => ex = .exit 0 ∧ fr = [] ∧ σ = [] | .inr q2 => ex = .ret ∧ RetN Go.Proofs.Try.prog [.tmp 4] (fun v τ => Told τ v (.bool q2)) .ret fr σ) h9 ?_ ?_ ?_ ?_ ?_
    · rintro v1 y3 H
      refine T.seq ?_
      refine T.seq ?_
      refine T.region ?_
      refine TL.st rfl rfl rfl (o_move rfl rfl) ?_
      refine TL.st rfl rfl rfl (o_move rfl rfl) ?_
      refine TL.st rfl rfl rfl (o_lenL (f := c_int .i64) rfl rfl rfl) ?_
      refine TL.st rfl rfl rfl (o_ari rfl rfl rfl rfl) ?_
      refine TL.nil ?_
      refine thn_normal ?_
      refine T.cond (decide (v1 < (a0.length : Int))) rfl (fun h => ?_) (fun h => ?_)
      · replace H := cond_t h H
        refine T.skip ?_
        refine thn_normal ?_
        refine T.seq ?_
        refine T.block ?_
        refine T.seq ?_
        refine T.drawn rfl ?_
        refine TD.qs rfl rfl (fun _ => o_move rfl rfl) ?_
        refine TD.qs rfl rfl (fun _ => o_move rfl rfl) ?_
        obtain ⟨e4, h5, H⟩ := bind_s H
        refine TD.qs rfl rfl (fun _ => o_ix (f := c_int .i64) rfl rfl tyS_3 rfl rfl h5 rfl) ?_
        refine TD.qs rfl rfl (fun _ => o_loadRf rfl tyS_3 rfl (Nat.le_of_ble_eq_true rfl) rfl) ?_
        refine TD.qs rfl rfl (fun _ => o_move rfl rfl) ?_
        refine TD.qs rfl rfl (fun _ => o_move rfl rfl) ?_
        obtain ⟨e6, h7, H⟩ := bind_s H
        refine TD.qs rfl rfl (fun _ => o_ix (f := c_int .i64) rfl rfl tyS_3 rfl rfl h7 rfl) ?_
        refine TD.qs rfl rfl (fun _ => o_loadRf rfl tyS_3 rfl (Nat.le_of_ble_eq_true rfl) rfl) ?_
        refine TD.qs rfl rfl (fun _ => o_ari rfl rfl rfl rfl) ?_
        refine TD.nil ⟨rfl, ?_⟩
        refine thn_normal ?_
        refine T.cond ((e4 != e6)) rfl (fun h => ?_) (fun h => ?_)
        · replace H := cond_t h H
          refine T.seq ?_
          refine T.region ?_
          refine TL.st rfl rfl rfl (o_assign rfl rfl) ?_
          refine TL.nil ?_
          refine thn_normal ?_
          refine T.ret ?_
          refine inB_ret ?_
          refine thn_ret ?_
          exact Pk.id (thn_ret ⟨.inr false, (some_i H).symm, rfl, ⟨trivial, _, (.tmp _ _ _ _ rfl .nil), (.cl _ rfl)⟩⟩)
        · replace H := cond_f h H
          refine T.skip ?_
          refine inB_normal ?_
          refine thn_normal ?_
          refine T.region ?_
          refine TL.st rfl rfl rfl (o_move rfl rfl) ?_
          refine TL.st rfl rfl rfl (o_ari rfl rfl rfl rfl) ?_
          refine TL.st rfl rfl rfl (o_assign rfl rfl) ?_
          refine TL.nil ?_
          exact Pk.go (fr' := [(0, .im b0 (a0.map (c_int .i64))), (1, .im b1 (a1.map (c_int .i64))), (5, .int .i64 (IntKind.i64.wrap (v1 + 1)))]) (σ' := []) _ rfl rfl trivial (.cons 0 _ (.im b0 (a0.map (c_int .i64))) _ rfl (.same _) rfl (.cons 1 _ (.im b1 (a1.map (c_int .i64))) _ rfl (.same _) rfl (.cons 5 _ (.int .i64 (IntKind.i64.wrap (v1 + 1))) _ rfl (.same _) rfl .nil))) (thn_normal ⟨(IntKind.i64.wrap (v1 + 1)), (some_i H).symm, rfl, rfl⟩)
      · replace H := cond_f h H
        refine T.exit ?_
        refine thn_exit ?_
        exact Pk.go (fr' := []) (σ' := []) _ rfl rfl trivial .nil (thn_exit ⟨.inl (), (some_i H).symm, rfl, rfl, rfl⟩)
    · rintro v1 v1'; rfl
    · rintro v1; exact trivial
    · rintro v1; exact (.cons _ _ _ rfl rfl (.cons _ _ _ rfl rfl (.cons _ _ _ rfl rfl .nil)))
    · rcases q8 with ⟨⟩ | q2
      · rintro _ _ _ ⟨rfl, rfl, rfl⟩
        refine inB_here ?_
        refine thn_normal ?_
        refine T.seq ?_
        refine T.region ?_
        refine TL.st rfl rfl rfl (o_assign rfl rfl) ?_
        refine TL.nil ?_
        refine thn_normal ?_
        refine T.ret ?_
        cases some_i H
        exact ⟨trivial, _, (.tmp _ _ _ _ rfl .nil), (.cl _ rfl)⟩
      · rintro _ fr1 σ1 ⟨rfl, hr⟩
        refine inB_ret ?_
        refine thn_ret ?_
        cases some_i H
        exact hr
theorem en_13 (us : Array Value) (w : World) : (callFunc 13 us).run Go.Proofs.Try.prog w = .ok (.enter 13 us) w := enters Go.Proofs.Try.func13 rfl rfl us w
noncomputable def laws_eqStringS_l1 (a0 : (List ByteArray)) (a1 : (List ByteArray)) : Int → Option (Int ⊕ (Unit ⊕ Bool)) := fun s => match s with
  | v1 => cond (decide (v1 < (a0.length : Int))) ((idx a0 v1).bind fun e4 => (idx a1 v1).bind fun e6 => cond (!(e4.toList == e6.toList)) (some (.inr (.inr false))) (some (.inl (IntKind.i64.wrap (v1 + 1))))) (some (.inr (.inl ())))
noncomputable def laws_eqStringS (a0 : (List ByteArray)) (a1 : (List ByteArray)) : Option Bool :=
  cond ((a0.length : Int) != (a1.length : Int)) (some false) ((loopO (laws_eqStringS_l1 a0 a1) 0).bind fun q8 => (match q8 with | .inl _ => some true | .inr q2 => some q2))
theorem laws_eqStringS_p (b0 : Bool) (b1 : Bool) {a0 : (List ByteArray)} {a1 : (List ByteArray)} {R0 : Bool} (H : laws_eqStringS a0 a1 = some R0) : Pure Go.Proofs.Try.prog 14 [.im b0 (a0.map (c_str)), .im b1 (a1.map (c_str))] (.bool R0) := by
  refine CallT.of_TN (n := 26) Go.Proofs.Try.func14 rfl rfl rfl rfl ?_
  refine T.seq ?_
  refine T.region ?_
  refine TL.st rfl rfl rfl (o_assign rfl rfl) ?_
  refine TL.nil ?_
  refine thn_normal ?_
  refine T.seq ?_
  refine T.seq ?_
  refine T.region ?_
  refine TL.st rfl rfl rfl (o_move rfl rfl) ?_
  refine TL.st rfl rfl rfl (o_lenL (f := c_str) rfl rfl rfl) ?_
  refine TL.st rfl rfl rfl (o_move rfl rfl) ?_
  refine TL.st rfl rfl rfl (o_lenL (f := c_str) rfl rfl rfl) ?_
  refine TL.st rfl rfl rfl (o_ari rfl rfl rfl rfl) ?_
  refine TL.nil ?_
  refine thn_normal ?_
  refine T.cond (((a0.length : Int) != (a1.length : Int))) rfl (fun h => ?_) (fun h => ?_)
  · replace H := cond_t h H
    refine T.seq ?_
    refine T.region ?_
    refine TL.st rfl rfl rfl (o_assign rfl rfl) ?_
    refine TL.nil ?_
    refine thn_normal ?_
    refine T.ret ?_
    refine thn_ret ?_
    cases some_i H
    exact ⟨trivial, _, (.tmp _ _ _ _ rfl .nil), (.cl _ rfl)⟩
  · replace H := cond_f h H
    refine T.skip ?_
    refine thn_normal ?_
    refine T.seq ?_
    refine T.seq ?_
    refine T.region ?_
    refine TL.st rfl rfl rfl (o_assign rfl rfl) ?_
    refine TL.nil ?_
    refine thn_normal ?_
    refine T.block ?_
    obtain ⟨q8, h9, H⟩ := bind_s H
    refine T.to (.cons 0 _ (.im b0 (a0.map (c_str))) _ rfl (.same _) rfl (.cons 1 _ (.im b1 (a1.map (c_str))) _ rfl (.same _) rfl (.cons 5 _ (.int .i64 0) _ rfl (.same _) rfl .nil))) ?_
    refine T.lp (fun s => match s with | v1 => [(0, .im b0 (a0.map (c_str))), (1, .im b1 (a1.map (c_str))), (5, .int .i64 v1)]) (fun s => match s with | v1 => []) (fun q ex fr σ => match q with | .inl _ => ex = .exit 0 ∧ fr = [] ∧ σ = [] | .inr q2 => ex = .ret ∧ RetN Go.Proofs.Try.prog [.tmp 4] (fun v τ => Told τ v (.bool q2)) .ret fr σ) h9 ?_ ?_ ?_ ?_ ?_
    · rintro v1 y3 H
      refine T.seq ?_
      refine T.seq ?_
      refine T.region ?_
      refine TL.st rfl rfl rfl (o_move rfl rfl) ?_
      refine TL.st rfl rfl rfl (o_move rfl rfl) ?_
      refine TL.st rfl rfl rfl (o_lenL (f := c_str) rfl rfl rfl) ?_
      refine TL.st rfl rfl rfl (o_ari rfl rfl rfl rfl) ?_
      refine TL.nil ?_
      refine thn_normal ?_
      refine T.cond (decide (v1 < (a0.length : Int))) rfl (fun h => ?_) (fun h => ?_)
      · replace H := cond_t h H
        refine T.skip ?_
        refine thn_normal ?_
        refine T.seq ?_
        refine T.block ?_
        refine T.seq ?_
        refine T.drawn rfl ?_
        refine TD.qs rfl rfl (fun _ => o_move rfl rfl) ?_
        refine TD.qs rfl rfl (fun _ => o_move rfl rfl) ?_
        obtain ⟨e4, h5, H⟩ := bind_s H
        refine TD.qs rfl rfl (fun _ => o_ix (f := c_str) rfl rfl tyS_9 rfl rfl h5 rfl) ?_
        refine TD.qs rfl rfl (fun _ => o_loadRf rfl tyS_9 rfl (Nat.le_of_ble_eq_true rfl) rfl) ?_
        refine TD.qs rfl rfl (fun _ => o_move rfl rfl) ?_
        refine TD.qs rfl rfl (fun _ => o_move rfl rfl) ?_
        obtain ⟨e6, h7, H⟩ := bind_s H
        refine TD.qs rfl rfl (fun _ => o_ix (f := c_str) rfl rfl tyS_9 rfl rfl h7 rfl) ?_
        refine TD.qs rfl rfl (fun _ => o_loadRf rfl tyS_9 rfl (Nat.le_of_ble_eq_true rfl) rfl) ?_
        refine TD.qs rfl rfl (fun _ => o_str rfl rfl rfl rfl) ?_
        refine TD.nil ⟨rfl, ?_⟩
        refine thn_normal ?_
        refine T.cond ((!(e4.toList == e6.toList))) rfl (fun h => ?_) (fun h => ?_)
        · replace H := cond_t h H
          refine T.seq ?_
          refine T.region ?_
          refine TL.st rfl rfl rfl (o_assign rfl rfl) ?_
          refine TL.nil ?_
          refine thn_normal ?_
          refine T.ret ?_
          refine inB_ret ?_
          refine thn_ret ?_
          exact Pk.id (thn_ret ⟨.inr false, (some_i H).symm, rfl, ⟨trivial, _, (.tmp _ _ _ _ rfl .nil), (.cl _ rfl)⟩⟩)
        · replace H := cond_f h H
          refine T.skip ?_
          refine inB_normal ?_
          refine thn_normal ?_
          refine T.region ?_
          refine TL.st rfl rfl rfl (o_move rfl rfl) ?_
          refine TL.st rfl rfl rfl (o_ari rfl rfl rfl rfl) ?_
          refine TL.st rfl rfl rfl (o_assign rfl rfl) ?_
          refine TL.nil ?_
          exact Pk.go (fr' := [(0, .im b0 (a0.map (c_str))), (1, .im b1 (a1.map (c_str))), (5, .int .i64 (IntKind.i64.wrap (v1 + 1)))]) (σ' := []) _ rfl rfl trivial (.cons 0 _ (.im b0 (a0.map (c_str))) _ rfl (.same _) rfl (.cons 1 _ (.im b1 (a1.map (c_str))) _ rfl (.same _) rfl (.cons 5 _ (.int .i64 (IntKind.i64.wrap (v1 + 1))) _ rfl (.same _) rfl .nil))) (thn_normal ⟨(IntKind.i64.wrap (v1 + 1)), (some_i H).symm, rfl, rfl⟩)
      · replace H := cond_f h H
        refine T.exit ?_
        refine thn_exit ?_
        exact Pk.go (fr' := []) (σ' := []) _ rfl rfl trivial .nil (thn_exit ⟨.inl (), (some_i H).symm, rfl, rfl, rfl⟩)
    · rintro v1 v1'; rfl
    · rintro v1; exact trivial
    · rintro v1; exact (.cons _ _ _ rfl rfl (.cons _ _ _ rfl rfl (.cons _ _ _ rfl rfl .nil)))
    · rcases q8 with ⟨⟩ | q2
      · rintro _ _ _ ⟨rfl, rfl, rfl⟩
        refine inB_here ?_
        refine thn_normal ?_
        refine T.seq ?_
        refine T.region ?_
        refine TL.st rfl rfl rfl (o_assign rfl rfl) ?_
        refine TL.nil ?_
        refine thn_normal ?_
        refine T.ret ?_
        cases some_i H
        exact ⟨trivial, _, (.tmp _ _ _ _ rfl .nil), (.cl _ rfl)⟩
      · rintro _ fr1 σ1 ⟨rfl, hr⟩
        refine inB_ret ?_
        refine thn_ret ?_
        cases some_i H
        exact hr
theorem en_14 (us : Array Value) (w : World) : (callFunc 14 us).run Go.Proofs.Try.prog w = .ok (.enter 14 us) w := enters Go.Proofs.Try.func14 rfl rfl us w
noncomputable def laws_eqRecoverEvent (a0 : T_impl_RecoverEvent) (a1 : T_impl_RecoverEvent) : Option Bool :=
  cond (a0.Kind_ != a1.Kind_) (some false) (cond (a0.Time_ != a1.Time_) (some false) (cond (!(a0.Who_.toList == a1.Who_.toList)) (some false) (some true)))
theorem laws_eqRecoverEvent_p  {a0 : T_impl_RecoverEvent} {a1 : T_impl_RecoverEvent} {R0 : Bool} (H : laws_eqRecoverEvent a0 a1 = some R0) : Pure Go.Proofs.Try.prog 34 [.agg (c_T_impl_RecoverEvent false a0), .agg (c_T_impl_RecoverEvent false a1)] (.bool R0) := by
  refine CallT.of_TN (n := 20) Go.Proofs.Try.func34 rfl rfl rfl rfl ?_
  refine T.seq ?_
  refine T.region ?_
  refine TL.st rfl rfl rfl (o_box rfl rfl rfl) ?_
  refine TL.st rfl rfl rfl (o_box rfl rfl rfl) ?_
  refine TL.st rfl rfl rfl (o_assign rfl rfl) ?_
  refine TL.nil ?_
  refine thn_normal ?_
  refine T.seq ?_
  refine T.seq ?_
  refine T.region ?_
  refine TL.st rfl rfl rfl (o_fieldAddr rfl rfl rfl tyS_3 (by decide) rfl rfl ⟨_, rfl, Nat.le_of_ble_eq_true rfl⟩) ?_
  refine TL.st rfl rfl rfl (o_loadBx rfl tyS_3 rfl rfl (Nat.le_of_ble_eq_true rfl) rfl) ?_
  refine TL.st rfl rfl rfl (o_fieldAddr rfl rfl rfl tyS_3 (by decide) rfl rfl ⟨_, rfl, Nat.le_of_ble_eq_true rfl⟩) ?_
  refine TL.st rfl rfl rfl (o_loadBx rfl tyS_3 rfl rfl (Nat.le_of_ble_eq_true rfl) rfl) ?_
  refine TL.st rfl rfl rfl (o_ari rfl rfl rfl rfl) ?_
  refine TL.nil ?_
  refine thn_normal ?_
  refine T.cond ((a0.Kind_ != a1.Kind_)) rfl (fun h => ?_) (fun h => ?_)
  · replace H := cond_t h H
    refine T.seq ?_
    refine T.region ?_
    refine TL.st rfl rfl rfl (o_assign rfl rfl) ?_
    refine TL.nil ?_
    refine thn_normal ?_
    refine T.ret ?_
    refine thn_ret ?_
    cases some_i H
    exact ⟨trivial, _, (.tmp _ _ _ _ rfl .nil), (.cl _ rfl)⟩
  · replace H := cond_f h H
    refine T.skip ?_
    refine thn_normal ?_
    refine T.seq ?_
    refine T.seq ?_
    refine T.region ?_
    refine TL.st rfl rfl rfl (o_fieldAddr rfl rfl rfl tyS_3 (by decide) rfl rfl ⟨_, rfl, Nat.le_of_ble_eq_true rfl⟩) ?_
    refine TL.st rfl rfl rfl (o_loadBx rfl tyS_3 rfl rfl (Nat.le_of_ble_eq_true rfl) rfl) ?_
    refine TL.st rfl rfl rfl (o_fieldAddr rfl rfl rfl tyS_3 (by decide) rfl rfl ⟨_, rfl, Nat.le_of_ble_eq_true rfl⟩) ?_
    refine TL.st rfl rfl rfl (o_loadBx rfl tyS_3 rfl rfl (Nat.le_of_ble_eq_true rfl) rfl) ?_
    refine TL.st rfl rfl rfl (o_ari rfl rfl rfl rfl) ?_
    refine TL.nil ?_
    refine thn_normal ?_
    refine T.cond ((a0.Time_ != a1.Time_)) rfl (fun h => ?_) (fun h => ?_)
    · replace H := cond_t h H
      refine T.seq ?_
      refine T.region ?_
      refine TL.st rfl rfl rfl (o_assign rfl rfl) ?_
      refine TL.nil ?_
      refine thn_normal ?_
      refine T.ret ?_
      refine thn_ret ?_
      cases some_i H
      exact ⟨trivial, _, (.tmp _ _ _ _ rfl .nil), (.cl _ rfl)⟩
    · replace H := cond_f h H
      refine T.skip ?_
      refine thn_normal ?_
      refine T.seq ?_
      refine T.seq ?_
      refine T.region ?_
      refine TL.st rfl rfl rfl (o_fieldAddr rfl rfl rfl tyS_9 (by decide) rfl rfl ⟨_, rfl, Nat.le_of_ble_eq_true rfl⟩) ?_
      refine TL.st rfl rfl rfl (o_loadBx rfl tyS_9 rfl rfl (Nat.le_of_ble_eq_true rfl) rfl) ?_
      refine TL.st rfl rfl rfl (o_fieldAddr rfl rfl rfl tyS_9 (by decide) rfl rfl ⟨_, rfl, Nat.le_of_ble_eq_true rfl⟩) ?_
      refine TL.st rfl rfl rfl (o_loadBx rfl tyS_9 rfl rfl (Nat.le_of_ble_eq_true rfl) rfl) ?_
      refine TL.st rfl rfl rfl (o_str rfl rfl rfl rfl) ?_
      refine TL.nil ?_
      refine thn_normal ?_
      refine T.cond ((!(a0.Who_.toList == a1.Who_.toList))) rfl (fun h => ?_) (fun h => ?_)
      · replace H := cond_t h H
        refine T.seq ?_
        refine T.region ?_
        refine TL.st rfl rfl rfl (o_assign rfl rfl) ?_
        refine TL.nil ?_
        refine thn_normal ?_
        refine T.ret ?_
        refine thn_ret ?_
        cases some_i H
        exact ⟨trivial, _, (.tmp _ _ _ _ rfl .nil), (.cl _ rfl)⟩
      · replace H := cond_f h H
        refine T.skip ?_
        refine thn_normal ?_
        refine T.seq ?_
        refine T.region ?_
        refine TL.st rfl rfl rfl (o_assign rfl rfl) ?_
        refine TL.nil ?_
        refine thn_normal ?_
        refine T.ret ?_
        cases some_i H
        exact ⟨trivial, _, (.tmp _ _ _ _ rfl .nil), (.cl _ rfl)⟩
theorem en_34 (us : Array Value) (w : World) : (callFunc 34 us).run Go.Proofs.Try.prog w = .ok (.enter 34 us) w := enters Go.Proofs.Try.func34 rfl rfl us w
noncomputable def laws_eqRecoverEventS_l1 (a0 : (List T_impl_RecoverEvent)) (a1 : (List T_impl_RecoverEvent)) : Int → Option (Int ⊕ (Unit ⊕ Bool)) := fun s => match s with
  | v1 => cond (decide (v1 < (a0.length : Int))) ((idx a0 v1).bind fun e4 => (idx a1 v1).bind fun e6 => (laws_eqRecoverEvent e4 e6).bind fun r8 => cond (!r8) (some (.inr (.inr false))) (some (.inl (IntKind.i64.wrap (v1 + 1))))) (some (.inr (.inl ())))
noncomputable def laws_eqRecoverEventS (a0 : (List T_impl_RecoverEvent)) (a1 : (List T_impl_RecoverEvent)) : Option Bool :=
  cond ((a0.length : Int) != (a1.length : Int)) (some false) ((loopO (laws_eqRecoverEventS_l1 a0 a1) 0).bind fun q10 => (match q10 with | .inl _ => some true | .inr q2 => some q2))
theorem laws_eqRecoverEventS_p (b0 : Bool) (b1 : Bool) {a0 : (List T_impl_RecoverEvent)} {a1 : (List T_impl_RecoverEvent)} {R0 : Bool} (H : laws_eqRecoverEventS a0 a1 = some R0) : Pure Go.Proofs.Try.prog 15 [.im b0 (a0.map (c_T_impl_RecoverEvent false)), .im b1 (a1.map (c_T_impl_RecoverEvent false))] (.bool R0) := by
  refine CallT.of_TN (n := 27) Go.Proofs.Try.func15 rfl rfl rfl rfl ?_
  refine T.seq ?_
  refine T.region ?_
  refine TL.st rfl rfl rfl (o_assign rfl rfl) ?_
  refine TL.nil ?_
  refine thn_normal ?_
  refine T.seq ?_
  refine T.seq ?_
  refine T.region ?_
  refine TL.st rfl rfl rfl (o_move rfl rfl) ?_
  refine TL.st rfl rfl rfl (o_lenL (f := c_T_impl_RecoverEvent false) rfl rfl rfl) ?_
  refine TL.st rfl rfl rfl (o_move rfl rfl) ?_
  refine TL.st rfl rfl rfl (o_lenL (f := c_T_impl_RecoverEvent false) rfl rfl rfl) ?_
  refine TL.st rfl rfl rfl (o_ari rfl rfl rfl rfl) ?_
  refine TL.nil ?_
  refine thn_normal ?_
  refine T.cond (((a0.length : Int) != (a1.length : Int))) rfl (fun h => ?_) (fun h => ?_)
  · replace H := cond_t h H
    refine T.seq ?_
    refine T.region ?_
    refine TL.st rfl rfl rfl (o_assign rfl rfl) ?_
    refine TL.nil ?_
    refine thn_normal ?_
    refine T.ret ?_
    refine thn_ret ?_
    cases some_i H
    exact ⟨trivial, _, (.tmp _ _ _ _ rfl .nil), (.cl _ rfl)⟩
  · replace H := cond_f h H
    refine T.skip ?_
    refine thn_normal ?_
    refine T.seq ?_
    refine T.seq ?_
    refine T.region ?_
    refine TL.st rfl rfl rfl (o_assign rfl rfl) ?_
    refine TL.nil ?_
    refine thn_normal ?_
    refine T.block ?_
    obtain ⟨q10, h11, H⟩ := bind_s H
    refine T.to (.cons 0 _ (.im b0 (a0.map (c_T_impl_RecoverEvent false))) _ rfl (.same _) rfl (.cons 1 _ (.im b1 (a1.map (c_T_impl_RecoverEvent false))) _ rfl (.same _) rfl (.cons 5 _ (.int .i64 0) _ rfl (.same _) rfl .nil))) ?_
    refine T.lp (fun s => match s with | v1 => [(0, .im b0 (a0.map (c_T_impl_RecoverEvent false))), (1, .im b1 (a1.map (c_T_impl_RecoverEvent false))), (5, .int .i64 v1)]) (fun s => match s with | v1 => []) (fun q ex fr σ => match q with | .inl _ => ex = .exit 0 ∧ fr = [] ∧ σ = [] | .inr q2 => ex = .ret ∧ RetN Go.Proofs.Try.prog [.tmp 4] (fun v τ => Told τ v (.bool q2)) .ret fr σ) h11 ?_ ?_ ?_ ?_ ?_
    · rintro v1 y3 H
      refine T.seq ?_
      refine T.seq ?_
      refine T.region ?_
      refine TL.st rfl rfl rfl (o_move rfl rfl) ?_
      refine TL.st rfl rfl rfl (o_move rfl rfl) ?_
      refine TL.st rfl rfl rfl (o_lenL (f := c_T_impl_RecoverEvent false) rfl rfl rfl) ?_
      refine TL.st rfl rfl rfl (o_ari rfl rfl rfl rfl) ?_
      refine TL.nil ?_
      refine thn_normal ?_
      refine T.cond (decide (v1 < (a0.length : Int))) rfl (fun h => ?_) (fun h => ?_)
      · replace H := cond_t h H
        refine T.skip ?_
        refine thn_normal ?_
        refine T.seq ?_
        refine T.block ?_
        refine T.seq ?_
        refine T.drawn rfl ?_
        refine TD.qs rfl rfl (fun _ => o_move rfl rfl) ?_
        refine TD.qs rfl rfl (fun _ => o_move rfl rfl) ?_
        obtain ⟨e4, h5, H⟩ := bind_s H
        refine TD.qs rfl rfl (fun _ => o_ix (f := c_T_impl_RecoverEvent false) rfl rfl tyS_31 rfl rfl h5 rfl) ?_
        refine TD.qs rfl rfl (fun _ => o_loadRf rfl tyS_31 rfl (Nat.le_of_ble_eq_true rfl) rfl) ?_
        refine TD.qs rfl rfl (fun _ => o_move rfl rfl) ?_
        refine TD.qs rfl rfl (fun _ => o_move rfl rfl) ?_
        obtain ⟨e6, h7, H⟩ := bind_s H
        refine TD.qs rfl rfl (fun _ => o_ix (f := c_T_impl_RecoverEvent false) rfl rfl tyS_31 rfl rfl h7 rfl) ?_
        refine TD.qs rfl rfl (fun _ => o_loadRf rfl tyS_31 rfl (Nat.le_of_ble_eq_true rfl) rfl) ?_
        obtain ⟨r8, h9, H⟩ := bind_s H
        refine TD.qs rfl rfl (fun _ => o_callP rfl en_34 rfl rfl (.cons _ _ _ _ (.cl _ rfl) (.cons _ _ _ _ (.cl _ rfl) .nil)) (laws_eqRecoverEvent_p  h9)) ?_
        refine TD.qs rfl rfl (fun _ => o_not rfl rfl) ?_
        refine TD.nil ⟨rfl, ?_⟩
        refine thn_normal ?_
        refine T.cond ((!r8)) rfl (fun h => ?_) (fun h => ?_)
        · replace H := cond_t h H
          refine T.seq ?_
          refine T.region ?_
          refine TL.st rfl rfl rfl (o_assign rfl rfl) ?_
          refine TL.nil ?_
          refine thn_normal ?_
          refine T.ret ?_
          refine inB_ret ?_
          refine thn_ret ?_
          exact Pk.id (thn_ret ⟨.inr false, (some_i H).symm, rfl, ⟨trivial, _, (.tmp _ _ _ _ rfl .nil), (.cl _ rfl)⟩⟩)
        · replace H := cond_f h H
          refine T.skip ?_
          refine inB_normal ?_
          refine thn_normal ?_
          refine T.region ?_
          refine TL.st rfl rfl rfl (o_move rfl rfl) ?_
          refine TL.st rfl rfl rfl (o_ari rfl rfl rfl rfl) ?_
          refine TL.st rfl rfl rfl (o_assign rfl rfl) ?_
          refine TL.nil ?_
          exact Pk.go (fr' := [(0, .im b0 (a0.map (c_T_impl_RecoverEvent false))), (1, .im b1 (a1.map (c_T_impl_RecoverEvent false))), (5, .int .i64 (IntKind.i64.wrap (v1 + 1)))]) (σ' := []) _ rfl rfl trivial (.cons 0 _ (.im b0 (a0.map (c_T_impl_RecoverEvent false))) _ rfl (.same _) rfl (.cons 1 _ (.im b1 (a1.map (c_T_impl_RecoverEvent false))) _ rfl (.same _) rfl (.cons 5 _ (.int .i64 (IntKind.i64.wrap (v1 + 1))) _ rfl (.same _) rfl .nil))) (thn_normal ⟨(IntKind.i64.wrap (v1 + 1)), (some_i H).symm, rfl, rfl⟩)
      · replace H := cond_f h H
        refine T.exit ?_
        refine thn_exit ?_
        exact Pk.go (fr' := []) (σ' := []) _ rfl rfl trivial .nil (thn_exit ⟨.inl (), (some_i H).symm, rfl, rfl, rfl⟩)
    · rintro v1 v1'; rfl
    · rintro v1; exact trivial
    · rintro v1; exact (.cons _ _ _ rfl rfl (.cons _ _ _ rfl rfl (.cons _ _ _ rfl rfl .nil)))
    · rcases q10 with ⟨⟩ | q2
      · rintro _ _ _ ⟨rfl, rfl, rfl⟩
        refine inB_here ?_
        refine thn_normal ?_
        refine T.seq ?_
        refine T.region ?_
        refine TL.st rfl rfl rfl (o_assign rfl rfl) ?_
        refine TL.nil ?_
        refine thn_normal ?_
        refine T.ret ?_
        cases some_i H
        exact ⟨trivial, _, (.tmp _ _ _ _ rfl .nil), (.cl _ rfl)⟩
      · rintro _ fr1 σ1 ⟨rfl, hr⟩
        refine inB_ret ?_
        refine thn_ret ?_
        cases some_i H
        exact hr
theorem en_15 (us : Array Value) (w : World) : (callFunc 15 us).run Go.Proofs.Try.prog w = .ok (.enter 15 us) w := enters Go.Proofs.Try.func15 rfl rfl us w
noncomputable def laws_markText_l1  : (Int × ByteArray) → Option ((Int × ByteArray) ⊕ ByteArray) := fun s => match s with
  | (v1, v2) => cond (decide (v1 > 0)) ((cat (byS ([(IntKind.u8.wrap (IntKind.i64.wrap (48 + (Int.tmod v1 10))))] : List Int)) v2).bind fun s7 => some (.inl ((IntKind.i64.wrap (Int.tdiv v1 10)), s7))) (some (.inr v2))
noncomputable def laws_markText (a0 : Int) : Option ByteArray :=
  cond (decide (a0 ≤ 0)) (some (ByteArray.mk #[109, 48])) ((loopO (laws_markText_l1) (a0, (ByteArray.mk #[]))).bind fun q9 => (match q9 with | v3 => (cat (ByteArray.mk #[109]) v3).bind fun s4 => some s4))
theorem laws_markText_p  {a0 : Int} {R0 : ByteArray} (H : laws_markText a0 = some R0) : Pure Go.Proofs.Try.prog 35 [.int .i64 a0] (.str R0) := by
  refine CallT.of_TN (n := 20) Go.Proofs.Try.func35 rfl rfl rfl rfl ?_
  refine T.seq ?_
  refine T.region ?_
  refine TL.st rfl rfl rfl (o_assign rfl rfl) ?_
  refine TL.nil ?_
  refine thn_normal ?_
  refine T.seq ?_
  refine T.seq ?_
  refine T.region ?_
  refine TL.st rfl rfl rfl (o_move rfl rfl) ?_
  refine TL.st rfl rfl rfl (o_ari rfl rfl rfl rfl) ?_
  refine TL.nil ?_
  refine thn_normal ?_
  refine T.cond (decide (a0 ≤ 0)) rfl (fun h => ?_) (fun h => ?_)
  · replace H := cond_t h H
    refine T.seq ?_
    refine T.region ?_
    refine TL.st rfl rfl rfl (o_assign rfl rfl) ?_
    refine TL.nil ?_
    refine thn_normal ?_
    refine T.ret ?_
    refine thn_ret ?_
    cases some_i H
    exact ⟨trivial, _, (.tmp _ _ _ _ rfl .nil), (.cl _ rfl)⟩
  · replace H := cond_f h H
    refine T.skip ?_
    refine thn_normal ?_
    refine T.seq ?_
    refine T.region ?_
    refine TL.st rfl rfl rfl (o_assign rfl rfl) ?_
    refine TL.nil ?_
    refine thn_normal ?_
    refine T.seq ?_
    refine T.block ?_
    obtain ⟨q9, h10, H⟩ := bind_s H
    refine T.to (.cons 0 _ (.int .i64 a0) _ rfl (.same _) rfl (.cons 3 _ (.str (ByteArray.mk #[])) _ rfl (.same _) rfl .nil)) ?_
    refine T.lp (fun s => match s with | (v1, v2) => [(0, .int .i64 v1), (3, .str v2)]) (fun s => match s with | (v1, v2) => []) (fun q ex fr σ => match q with | v3 => ex = .exit 0 ∧ fr = [(3, .str v3)] ∧ σ = []) h10 ?_ ?_ ?_ ?_ ?_
    · rintro ⟨v1, v2⟩ y6 H
      refine T.seq ?_
      refine T.seq ?_
      refine T.region ?_
      refine TL.st rfl rfl rfl (o_move rfl rfl) ?_
      refine TL.st rfl rfl rfl (o_ari rfl rfl rfl rfl) ?_
      refine TL.nil ?_
      refine thn_normal ?_
      refine T.cond (decide (v1 > 0)) rfl (fun h => ?_) (fun h => ?_)
      · replace H := cond_t h H
        refine T.skip ?_
        refine thn_normal ?_
        refine T.block ?_
        refine T.seq ?_
        refine T.region ?_
        refine TL.st rfl rfl rfl (o_move rfl rfl) ?_
        refine TL.st rfl rfl rfl (o_rem rfl rfl rfl (by decide)) ?_
        refine TL.st rfl rfl rfl (o_ari rfl rfl rfl rfl) ?_
        refine TL.st rfl rfl rfl (o_conv rfl rfl ⟨_, rfl⟩ rfl) ?_
        refine TL.st rfl rfl rfl (o_sliceIm rfl rfl tyS_5 ⟨_, rfl, rfl⟩ (by decide) rfl rfl rfl rfl rfl rfl) ?_
        refine TL.st rfl rfl rfl (o_bs (f := c_int .u8) (ns := ([(IntKind.u8.wrap (IntKind.i64.wrap (48 + (Int.tmod v1 10))))] : List Int)) rfl rfl rfl rfl (fun _ => rfl) rfl) ?_
        refine TL.st rfl rfl rfl (o_move rfl rfl) ?_
        obtain ⟨s7, h8, H⟩ := bind_s H
        refine TL.st rfl rfl rfl (o_ct rfl rfl rfl h8) ?_
        refine TL.st rfl rfl rfl (o_assign rfl rfl) ?_
        refine TL.nil ?_
        refine thn_normal ?_
        refine T.region ?_
        refine TL.st rfl rfl rfl (o_move rfl rfl) ?_
        refine TL.st rfl rfl rfl (o_quo rfl rfl rfl (by decide)) ?_
        refine TL.st rfl rfl rfl (o_assign rfl rfl) ?_
        refine TL.nil ?_
        refine inB_normal ?_
        exact Pk.go (fr' := [(0, .int .i64 (IntKind.i64.wrap (Int.tdiv v1 10))), (3, .str s7)]) (σ' := []) _ rfl rfl trivial (.cons 0 _ (.int .i64 (IntKind.i64.wrap (Int.tdiv v1 10))) _ rfl (.same _) rfl (.cons 3 _ (.str s7) _ rfl (.same _) rfl .nil)) (thn_normal ⟨((IntKind.i64.wrap (Int.tdiv v1 10)), s7), (some_i H).symm, rfl, rfl⟩)
      · replace H := cond_f h H
        refine T.exit ?_
        refine thn_exit ?_
        exact Pk.go (fr' := [(3, .str v2)]) (σ' := []) _ rfl rfl trivial (.cons 3 _ (.str v2) _ rfl (.same _) rfl .nil) (thn_exit ⟨v2, (some_i H).symm, rfl, rfl, rfl⟩)
    · rintro ⟨v1, v2⟩ ⟨v1', v2'⟩; rfl
    · rintro ⟨v1, v2⟩; exact trivial
    · rintro ⟨v1, v2⟩; exact (.cons _ _ _ rfl rfl (.cons _ _ _ rfl rfl .nil))
    · rcases q9 with v3
      rintro _ _ _ ⟨rfl, rfl, rfl⟩
      refine inB_here ?_
      refine thn_normal ?_
      refine T.seq ?_
      refine T.region ?_
      refine TL.st rfl rfl rfl (o_move rfl rfl) ?_
      obtain ⟨s4, h5, H⟩ := bind_s H
      refine TL.st rfl rfl rfl (o_ct rfl rfl rfl h5) ?_
      refine TL.st rfl rfl rfl (o_assign rfl rfl) ?_
      refine TL.nil ?_
      refine thn_normal ?_
      refine T.ret ?_
      cases some_i H
      exact ⟨trivial, _, (.tmp _ _ _ _ rfl .nil), (.cl _ rfl)⟩
theorem en_35 (us : Array Value) (w : World) : (callFunc 35 us).run Go.Proofs.Try.prog w = .ok (.enter 35 us) w := enters Go.Proofs.Try.func35 rfl rfl us w
theorem laws_toStringS_o (b0 : Bool) {a0 : (List ByteArray)} {R0 : (List ByteArray)} (H : laws_toStringS a0 = some R0) : OwnC Go.Proofs.Try.prog 11 [.im b0 (a0.map (c_str))] 1 (R0.map (c_str)) := by
  refine CallT.of_TN (n := 22) Go.Proofs.Try.func11 rfl rfl rfl rfl ?_
  refine T.seq ?_
  refine T.region ?_
  refine TL.st rfl rfl rfl (o_assign rfl rfl) ?_
  refine TL.nil ?_
  refine thn_normal ?_
  refine T.seq ?_
  refine T.region ?_
  refine TL.st rfl rfl rfl (o_move rfl rfl) ?_
  refine TL.st rfl rfl rfl (o_lenL (f := c_str) rfl rfl rfl) ?_
  obtain ⟨l1, h2, H⟩ := bind_s H
  refine TL.st rfl rfl rfl (o_mk (f := c_str) (z := (ByteArray.mk #[])) rfl rfl tyE_9 ⟨_, rfl, rfl⟩ rfl rfl h2) ?_
  refine TL.st rfl rfl rfl (o_assign rfl rfl) ?_
  refine TL.nil ?_
  refine thn_normal ?_
  refine T.seq ?_
  refine T.seq ?_
  refine T.region ?_
  refine TL.st rfl rfl rfl (o_assign rfl rfl) ?_
  refine TL.nil ?_
  refine thn_normal ?_
  refine T.block ?_
  obtain ⟨q11, h12, H⟩ := bind_s H
  refine T.to (.cons 0 _ (.im b0 (a0.map (c_str))) _ rfl (.same _) rfl (.cons 3 _ (.hd 0 (l1.map (c_str)).length 0 (l1.map (c_str)).length) _ rfl (.same _) rfl (.cons 4 _ (.int .i64 0) _ rfl (.same _) rfl .nil))) ?_
  refine T.lp (fun s => match s with | (l3, v4) => [(0, .im b0 (a0.map (c_str))), (3, .hd 0 (l3.map (c_str)).length 0 (l3.map (c_str)).length), (4, .int .i64 v4)]) (fun s => match s with | (l3, v4) => [.arr .clo 1 (l3.map (c_str))]) (fun q ex fr σ => match q with | l5 => ex = .exit 0 ∧ fr = [(3, .hd 0 (l5.map (c_str)).length 0 (l5.map (c_str)).length)] ∧ σ = [.arr .clo 1 (l5.map (c_str))]) h12 ?_ ?_ ?_ ?_ ?_
  · rintro ⟨l3, v4⟩ y6 H
    refine T.seq ?_
    refine T.seq ?_
    refine T.region ?_
    refine TL.st rfl rfl rfl (o_move rfl rfl) ?_
    refine TL.st rfl rfl rfl (o_move rfl rfl) ?_
    refine TL.st rfl rfl rfl (o_lenL (f := c_str) rfl rfl rfl) ?_
    refine TL.st rfl rfl rfl (o_ari rfl rfl rfl rfl) ?_
    refine TL.nil ?_
    refine thn_normal ?_
    refine T.cond (decide (v4 < (a0.length : Int))) rfl (fun h => ?_) (fun h => ?_)
    · replace H := cond_t h H
      refine T.skip ?_
      refine thn_normal ?_
      refine T.seq ?_
      refine T.block ?_
      refine T.region ?_
      refine TL.st rfl rfl rfl (o_move rfl rfl) ?_
      refine TL.st rfl rfl rfl (o_move rfl rfl) ?_
      refine TL.st rfl rfl rfl (o_move rfl rfl) ?_
      refine TL.st rfl rfl rfl (o_move rfl rfl) ?_
      obtain ⟨e7, h8, H⟩ := bind_s H
      refine TL.st rfl rfl rfl (o_ix (f := c_str) rfl rfl tyS_9 rfl rfl h8 rfl) ?_
      refine TL.st rfl rfl rfl (o_loadRf rfl tyS_9 rfl (Nat.le_of_ble_eq_true rfl) rfl) ?_
      obtain ⟨e9, h10, H⟩ := bind_s H
      refine TL.st rfl rfl rfl (o_ixh (f := c_str) rfl rfl tyS_9 rfl rfl rfl rfl h10 rfl) ?_
      refine TL.sn rfl rfl (o_stEl (f := c_str) (xs := l3) (k := v4) (a := e9) e7 rfl tyS_9 rfl rfl rfl rfl (by decide) h10 rfl rfl rfl (fun _ => rfl) rfl) ?_
      refine TL.conv (Cs.eqV (t := 3) (v' := .hd 0 ((l3.set (Int.toNat v4) e7).map (c_str)).length 0 ((l3.set (Int.toNat v4) e7).map (c_str)).length) rfl (hd_len _ (List.length_set ..))) ?_
      refine TL.conv (Cs.eqV (t := 14) (v' := .hd 0 ((l3.set (Int.toNat v4) e7).map (c_str)).length 0 ((l3.set (Int.toNat v4) e7).map (c_str)).length) rfl (hd_len _ (List.length_set ..))) ?_
      refine TL.nil ?_
      refine inB_normal ?_
      refine thn_normal ?_
      refine T.region ?_
      refine TL.st rfl rfl rfl (o_move rfl rfl) ?_
      refine TL.st rfl rfl rfl (o_ari rfl rfl rfl rfl) ?_
      refine TL.st rfl rfl rfl (o_assign rfl rfl) ?_
      refine TL.nil ?_
      exact Pk.go (fr' := [(0, .im b0 (a0.map (c_str))), (3, .hd 0 ((l3.set (Int.toNat v4) e7).map (c_str)).length 0 ((l3.set (Int.toNat v4) e7).map (c_str)).length), (4, .int .i64 (IntKind.i64.wrap (v4 + 1)))]) (σ' := [.arr .clo 1 ((l3.set (Int.toNat v4) e7).map (c_str))]) _ rfl rfl ⟨trivial, trivial⟩ (.cons 0 _ (.im b0 (a0.map (c_str))) _ rfl (.same _) rfl (.cons 3 _ (.hd 0 ((l3.set (Int.toNat v4) e7).map (c_str)).length 0 ((l3.set (Int.toNat v4) e7).map (c_str)).length) _ rfl (.same _) rfl (.cons 4 _ (.int .i64 (IntKind.i64.wrap (v4 + 1))) _ rfl (.same _) rfl .nil))) (thn_normal ⟨((l3.set (Int.toNat v4) e7), (IntKind.i64.wrap (v4 + 1))), (some_i H).symm, rfl, rfl⟩)
    · replace H := cond_f h H
      refine T.exit ?_
      refine thn_exit ?_
      exact Pk.go (fr' := [(3, .hd 0 (l3.map (c_str)).length 0 (l3.map (c_str)).length)]) (σ' := [.arr .clo 1 (l3.map (c_str))]) _ rfl rfl ⟨trivial, trivial⟩ (.cons 3 _ (.hd 0 (l3.map (c_str)).length 0 (l3.map (c_str)).length) _ rfl (.same _) rfl .nil) (thn_exit ⟨l3, (some_i H).symm, rfl, rfl, rfl⟩)
  · rintro ⟨l3, v4⟩ ⟨l3', v4'⟩; rfl
  · rintro ⟨l3, v4⟩; exact ⟨trivial, trivial⟩
  · rintro ⟨l3, v4⟩; exact (.cons _ _ _ rfl rfl (.cons _ _ _ rfl rfl (.cons _ _ _ rfl rfl .nil)))
  · rcases q11 with l5
    rintro _ _ _ ⟨rfl, rfl, rfl⟩
    refine inB_here ?_
    refine thn_normal ?_
    refine T.seq ?_
    refine T.region ?_
    refine TL.st rfl rfl rfl (o_move rfl rfl) ?_
    refine TL.st rfl rfl rfl (o_assign rfl rfl) ?_
    refine TL.nil ?_
    refine thn_normal ?_
    refine T.ret ?_
    cases some_i H
    exact ⟨trivial, _, (.tmp _ _ _ _ rfl .nil), ⟨rfl, _, rfl⟩⟩
noncomputable def laws_markStringSx_l1  : (List ByteArray × Int × Int) → Option ((List ByteArray × Int × Int) ⊕ (List ByteArray × Int)) := fun s => match s with
  | (l1, v2, v3) => cond (decide (v3 < (l1.length : Int))) ((laws_markText v2).bind fun r7 => (idx l1 v3).bind fun e9 => some (.inl ((l1.set (Int.toNat v3) r7), (IntKind.i64.wrap (v2 + 1)), (IntKind.i64.wrap (v3 + 1))))) (some (.inr (l1, v2)))
noncomputable def laws_markStringSx (a0 : Int) (s0 : List ByteArray) : Option (Int × List ByteArray) :=
  (loopO (laws_markStringSx_l1) (s0, a0, 0)).bind fun q11 => (match q11 with | (l4, v5) => some (v5, l4))
theorem laws_markStringSx_p  {a0 : Int} {s0 : List ByteArray} {R0 : Int} {U0 : List ByteArray} (H : laws_markStringSx a0 s0 = some (R0, U0)) : St Go.Proofs.Try.prog 16 [.hd 0 (s0.map (c_str)).length 0 (s0.map (c_str)).length, .int .i64 a0] [.arr .clo 1 (s0.map (c_str))] (.int .i64 R0) [.arr .clo 1 (U0.map (c_str))] := by
  refine CallT.fin (CallT.of_TN (n := 20) Go.Proofs.Try.func16 rfl rfl rfl rfl ?_) rfl rfl ⟨trivial, trivial⟩
  refine T.seq ?_
  refine T.region ?_
  refine TL.st rfl rfl rfl (o_assign rfl rfl) ?_
  refine TL.nil ?_
  refine thn_normal ?_
  refine T.seq ?_
  refine T.seq ?_
  refine T.region ?_
  refine TL.st rfl rfl rfl (o_assign rfl rfl) ?_
  refine TL.nil ?_
  refine thn_normal ?_
  refine T.block ?_
  obtain ⟨q11, h12, H⟩ := bind_s H
  refine T.to (.cons 0 _ (.hd 0 (s0.map (c_str)).length 0 (s0.map (c_str)).length) _ rfl (.same _) rfl (.cons 1 _ (.int .i64 a0) _ rfl (.same _) rfl (.cons 5 _ (.int .i64 0) _ rfl (.same _) rfl .nil))) ?_
  refine T.lp (fun s => match s with | (l1, v2, v3) => [(0, .hd 0 (l1.map (c_str)).length 0 (l1.map (c_str)).length), (1, .int .i64 v2), (5, .int .i64 v3)]) (fun s => match s with | (l1, v2, v3) => [.arr .clo 1 (l1.map (c_str))]) (fun q ex fr σ => match q with | (l4, v5) => ex = .exit 0 ∧ fr = [(1, .int .i64 v5)] ∧ σ = [.arr .clo 1 (l4.map (c_str))]) h12 ?_ ?_ ?_ ?_ ?_
  · rintro ⟨l1, v2, v3⟩ y6 H
    refine T.seq ?_
    refine T.seq ?_
    refine T.region ?_
    refine TL.st rfl rfl rfl (o_move rfl rfl) ?_
    refine TL.st rfl rfl rfl (o_move rfl rfl) ?_
    refine TL.st rfl rfl rfl (o_lenOwn (f := c_str) rfl rfl rfl rfl rfl) ?_
    refine TL.st rfl rfl rfl (o_ari rfl rfl rfl rfl) ?_
    refine TL.nil ?_
    refine thn_normal ?_
    refine T.cond (decide (v3 < (l1.length : Int))) rfl (fun h => ?_) (fun h => ?_)
    · replace H := cond_t h H
      refine T.skip ?_
      refine thn_normal ?_
      refine T.seq ?_
      refine T.block ?_
      refine T.seq ?_
      refine T.region ?_
      refine TL.st rfl rfl rfl (o_move rfl rfl) ?_
      refine TL.st rfl rfl rfl (o_move rfl rfl) ?_
      refine TL.st rfl rfl rfl (o_move rfl rfl) ?_
      obtain ⟨r7, h8, H⟩ := bind_s H
      refine TL.st rfl rfl rfl (o_callP rfl en_35 rfl rfl (.cons _ _ _ _ (.cl _ rfl) .nil) (laws_markText_p  h8)) ?_
      obtain ⟨e9, h10, H⟩ := bind_s H
      refine TL.st rfl rfl rfl (o_ixh (f := c_str) rfl rfl tyS_9 rfl rfl rfl rfl h10 rfl) ?_
      refine TL.sn rfl rfl (o_stEl (f := c_str) (xs := l1) (k := v3) (a := e9) r7 rfl tyS_9 rfl rfl rfl rfl (by decide) h10 rfl rfl rfl (fun _ => rfl) rfl) ?_
      refine TL.conv (Cs.eqV (t := 0) (v' := .hd 0 ((l1.set (Int.toNat v3) r7).map (c_str)).length 0 ((l1.set (Int.toNat v3) r7).map (c_str)).length) rfl (hd_len _ (List.length_set ..))) ?_
      refine TL.conv (Cs.eqV (t := 7) (v' := .hd 0 ((l1.set (Int.toNat v3) r7).map (c_str)).length 0 ((l1.set (Int.toNat v3) r7).map (c_str)).length) rfl (hd_len _ (List.length_set ..))) ?_
      refine TL.conv (Cs.eqV (t := 12) (v' := .hd 0 ((l1.set (Int.toNat v3) r7).map (c_str)).length 0 ((l1.set (Int.toNat v3) r7).map (c_str)).length) rfl (hd_len _ (List.length_set ..))) ?_
      refine TL.nil ?_
      refine thn_normal ?_
      refine T.region ?_
      refine TL.st rfl rfl rfl (o_move rfl rfl) ?_
      refine TL.st rfl rfl rfl (o_ari rfl rfl rfl rfl) ?_
      refine TL.st rfl rfl rfl (o_assign rfl rfl) ?_
      refine TL.nil ?_
      refine inB_normal ?_
      refine thn_normal ?_
      refine T.region ?_
      refine TL.st rfl rfl rfl (o_move rfl rfl) ?_
      refine TL.st rfl rfl rfl (o_ari rfl rfl rfl rfl) ?_
      refine TL.st rfl rfl rfl (o_assign rfl rfl) ?_
      refine TL.nil ?_
      exact Pk.go (fr' := [(0, .hd 0 ((l1.set (Int.toNat v3) r7).map (c_str)).length 0 ((l1.set (Int.toNat v3) r7).map (c_str)).length), (1, .int .i64 (IntKind.i64.wrap (v2 + 1))), (5, .int .i64 (IntKind.i64.wrap (v3 + 1)))]) (σ' := [.arr .clo 1 ((l1.set (Int.toNat v3) r7).map (c_str))]) _ rfl rfl ⟨trivial, trivial⟩ (.cons 0 _ (.hd 0 ((l1.set (Int.toNat v3) r7).map (c_str)).length 0 ((l1.set (Int.toNat v3) r7).map (c_str)).length) _ rfl (.same _) rfl (.cons 1 _ (.int .i64 (IntKind.i64.wrap (v2 + 1))) _ rfl (.same _) rfl (.cons 5 _ (.int .i64 (IntKind.i64.wrap (v3 + 1))) _ rfl (.same _) rfl .nil))) (thn_normal ⟨((l1.set (Int.toNat v3) r7), (IntKind.i64.wrap (v2 + 1)), (IntKind.i64.wrap (v3 + 1))), (some_i H).symm, rfl, rfl⟩)
    · replace H := cond_f h H
      refine T.exit ?_
      refine thn_exit ?_
      exact Pk.go (fr' := [(1, .int .i64 v2)]) (σ' := [.arr .clo 1 (l1.map (c_str))]) _ rfl rfl ⟨trivial, trivial⟩ (.cons 1 _ (.int .i64 v2) _ rfl (.same _) rfl .nil) (thn_exit ⟨(l1, v2), (some_i H).symm, rfl, rfl, rfl⟩)
  · rintro ⟨l1, v2, v3⟩ ⟨l1', v2', v3'⟩; rfl
  · rintro ⟨l1, v2, v3⟩; exact ⟨trivial, trivial⟩
  · rintro ⟨l1, v2, v3⟩; exact (.cons _ _ _ rfl rfl (.cons _ _ _ rfl rfl (.cons _ _ _ rfl rfl .nil)))
  · rcases q11 with ⟨l4, v5⟩
    rintro _ _ _ ⟨rfl, rfl, rfl⟩
    refine inB_here ?_
    refine thn_normal ?_
    refine T.seq ?_
    refine T.region ?_
    refine TL.st rfl rfl rfl (o_move rfl rfl) ?_
    refine TL.st rfl rfl rfl (o_assign rfl rfl) ?_
    refine TL.nil ?_
    refine thn_normal ?_
    refine T.ret ?_
    cases some_i H
    exact ⟨trivial, _, (.tmp _ _ _ _ rfl .nil), ⟨rfl, _, rfl⟩⟩
theorem en_16 (us : Array Value) (w : World) : (callFunc 16 us).run Go.Proofs.Try.prog w = .ok (.enter 16 us) w := enters Go.Proofs.Try.func16 rfl rfl us w
theorem laws_toRecoverEventS_o (b0 : Bool) {a0 : (List T_laws_RecoverEvent)} {R0 : (List T_impl_RecoverEvent)} (H : laws_toRecoverEventS a0 = some R0) : OwnC Go.Proofs.Try.prog 12 [.im b0 (a0.map (c_T_laws_RecoverEvent false))] 3 (R0.map (c_T_impl_RecoverEvent false)) := by
  refine CallT.of_TN (n := 23) Go.Proofs.Try.func12 rfl rfl rfl rfl ?_
  refine T.seq ?_
  refine T.region ?_
  refine TL.st rfl rfl rfl (o_assign rfl rfl) ?_
  refine TL.nil ?_
  refine thn_normal ?_
  refine T.seq ?_
  refine T.region ?_
  refine TL.st rfl rfl rfl (o_move rfl rfl) ?_
  refine TL.st rfl rfl rfl (o_lenL (f := c_T_laws_RecoverEvent false) rfl rfl rfl) ?_
  obtain ⟨l1, h2, H⟩ := bind_s H
  refine TL.st rfl rfl rfl (o_mk (f := c_T_impl_RecoverEvent false) (z := (⟨0, 0, (ByteArray.mk #[])⟩ : T_impl_RecoverEvent)) rfl rfl tyE_31 ⟨_, rfl, rfl⟩ rfl rfl h2) ?_
  refine TL.st rfl rfl rfl (o_assign rfl rfl) ?_
  refine TL.nil ?_
  refine thn_normal ?_
  refine T.seq ?_
  refine T.seq ?_
  refine T.region ?_
  refine TL.st rfl rfl rfl (o_assign rfl rfl) ?_
  refine TL.nil ?_
  refine thn_normal ?_
  refine T.block ?_
  obtain ⟨q13, h14, H⟩ := bind_s H
  refine T.to (.cons 0 _ (.im b0 (a0.map (c_T_laws_RecoverEvent false))) _ rfl (.same _) rfl (.cons 3 _ (.hd 0 (l1.map (c_T_impl_RecoverEvent false)).length 0 (l1.map (c_T_impl_RecoverEvent false)).length) _ rfl (.same _) rfl (.cons 4 _ (.int .i64 0) _ rfl (.same _) rfl .nil))) ?_
  refine T.lp (fun s => match s with | (l3, v4) => [(0, .im b0 (a0.map (c_T_laws_RecoverEvent false))), (3, .hd 0 (l3.map (c_T_impl_RecoverEvent false)).length 0 (l3.map (c_T_impl_RecoverEvent false)).length), (4, .int .i64 v4)]) (fun s => match s with | (l3, v4) => [.arr .clo 3 (l3.map (c_T_impl_RecoverEvent false))]) (fun q ex fr σ => match q with | l5 => ex = .exit 0 ∧ fr = [(3, .hd 0 (l5.map (c_T_impl_RecoverEvent false)).length 0 (l5.map (c_T_impl_RecoverEvent false)).length)] ∧ σ = [.arr .clo 3 (l5.map (c_T_impl_RecoverEvent false))]) h14 ?_ ?_ ?_ ?_ ?_
  · rintro ⟨l3, v4⟩ y6 H
    refine T.seq ?_
    refine T.seq ?_
    refine T.region ?_
    refine TL.st rfl rfl rfl (o_move rfl rfl) ?_
    refine TL.st rfl rfl rfl (o_move rfl rfl) ?_
    refine TL.st rfl rfl rfl (o_lenL (f := c_T_laws_RecoverEvent false) rfl rfl rfl) ?_
    refine TL.st rfl rfl rfl (o_ari rfl rfl rfl rfl) ?_
    refine TL.nil ?_
    refine thn_normal ?_
    refine T.cond (decide (v4 < (a0.length : Int))) rfl (fun h => ?_) (fun h => ?_)
    · replace H := cond_t h H
      refine T.skip ?_
      refine thn_normal ?_
      refine T.seq ?_
      refine T.block ?_
      refine T.region ?_
      refine TL.st rfl rfl rfl (o_move rfl rfl) ?_
      refine TL.st rfl rfl rfl (o_move rfl rfl) ?_
      refine TL.st rfl rfl rfl (o_move rfl rfl) ?_
      refine TL.st rfl rfl rfl (o_move rfl rfl) ?_
      obtain ⟨e7, h8, H⟩ := bind_s H
      refine TL.st rfl rfl rfl (o_ix (f := c_T_laws_RecoverEvent false) rfl rfl tyS_61 rfl rfl h8 rfl) ?_
      refine TL.st rfl rfl rfl (o_loadRf rfl tyS_61 rfl (Nat.le_of_ble_eq_true rfl) rfl) ?_
      obtain ⟨r9, h10, H⟩ := bind_s H
      refine TL.st rfl rfl rfl (o_callP rfl en_33 rfl rfl (.cons _ _ _ _ (.cl _ rfl) .nil) (laws_toRecoverEvent_p  h10)) ?_
      obtain ⟨e11, h12, H⟩ := bind_s H
      refine TL.st rfl rfl rfl (o_ixh (f := c_T_impl_RecoverEvent false) rfl rfl tyS_31 rfl rfl rfl rfl h12 rfl) ?_
      refine TL.sn rfl rfl (o_stEl (f := c_T_impl_RecoverEvent false) (xs := l3) (k := v4) (a := e11) r9 rfl tyS_31 rfl rfl rfl rfl (by decide) h12 rfl rfl rfl (fun _ => rfl) rfl) ?_
      refine TL.conv (Cs.eqV (t := 3) (v' := .hd 0 ((l3.set (Int.toNat v4) r9).map (c_T_impl_RecoverEvent false)).length 0 ((l3.set (Int.toNat v4) r9).map (c_T_impl_RecoverEvent false)).length) rfl (hd_len _ (List.length_set ..))) ?_
      refine TL.conv (Cs.eqV (t := 14) (v' := .hd 0 ((l3.set (Int.toNat v4) r9).map (c_T_impl_RecoverEvent false)).length 0 ((l3.set (Int.toNat v4) r9).map (c_T_impl_RecoverEvent false)).length) rfl (hd_len _ (List.length_set ..))) ?_
      refine TL.nil ?_
      refine inB_normal ?_
      refine thn_normal ?_
      refine T.region ?_
      refine TL.st rfl rfl rfl (o_move rfl rfl) ?_
      refine TL.st rfl rfl rfl (o_ari rfl rfl rfl rfl) ?_
      refine TL.st rfl rfl rfl (o_assign rfl rfl) ?_
      refine TL.nil ?_
      exact Pk.go (fr' := [(0, .im b0 (a0.map (c_T_laws_RecoverEvent false))), (3, .hd 0 ((l3.set (Int.toNat v4) r9).map (c_T_impl_RecoverEvent false)).length 0 ((l3.set (Int.toNat v4) r9).map (c_T_impl_RecoverEvent false)).length), (4, .int .i64 (IntKind.i64.wrap (v4 + 1)))]) (σ' := [.arr .clo 3 ((l3.set (Int.toNat v4) r9).map (c_T_impl_RecoverEvent false))]) _ rfl rfl ⟨trivial, trivial⟩ (.cons 0 _ (.im b0 (a0.map (c_T_laws_RecoverEvent false))) _ rfl (.same _) rfl (.cons 3 _ (.hd 0 ((l3.set (Int.toNat v4) r9).map (c_T_impl_RecoverEvent false)).length 0 ((l3.set (Int.toNat v4) r9).map (c_T_impl_RecoverEvent false)).length) _ rfl (.same _) rfl (.cons 4 _ (.int .i64 (IntKind.i64.wrap (v4 + 1))) _ rfl (.same _) rfl .nil))) (thn_normal ⟨((l3.set (Int.toNat v4) r9), (IntKind.i64.wrap (v4 + 1))), (some_i H).symm, rfl, rfl⟩)
    · replace H := cond_f h H
      refine T.exit ?_
      refine thn_exit ?_
      exact Pk.go (fr' := [(3, .hd 0 (l3.map (c_T_impl_RecoverEvent false)).length 0 (l3.map (c_T_impl_RecoverEvent false)).length)]) (σ' := [.arr .clo 3 (l3.map (c_T_impl_RecoverEvent false))]) _ rfl rfl ⟨trivial, trivial⟩ (.cons 3 _ (.hd 0 (l3.map (c_T_impl_RecoverEvent false)).length 0 (l3.map (c_T_impl_RecoverEvent false)).length) _ rfl (.same _) rfl .nil) (thn_exit ⟨l3, (some_i H).symm, rfl, rfl, rfl⟩)
  · rintro ⟨l3, v4⟩ ⟨l3', v4'⟩; rfl
  · rintro ⟨l3, v4⟩; exact ⟨trivial, trivial⟩
  · rintro ⟨l3, v4⟩; exact (.cons _ _ _ rfl rfl (.cons _ _ _ rfl rfl (.cons _ _ _ rfl rfl .nil)))
  · rcases q13 with l5
    rintro _ _ _ ⟨rfl, rfl, rfl⟩
    refine inB_here ?_
    refine thn_normal ?_
    refine T.seq ?_
    refine T.region ?_
    refine TL.st rfl rfl rfl (o_move rfl rfl) ?_
    refine TL.st rfl rfl rfl (o_assign rfl rfl) ?_
    refine TL.nil ?_
    refine thn_normal ?_
    refine T.ret ?_
    cases some_i H
    exact ⟨trivial, _, (.tmp _ _ _ _ rfl .nil), ⟨rfl, _, rfl⟩⟩
noncomputable def laws_markRecoverEventSx_l1  : (List T_impl_RecoverEvent × Int × Int) → Option ((List T_impl_RecoverEvent × Int × Int) ⊕ (List T_impl_RecoverEvent × Int)) := fun s => match s with
  | (l1, v2, v3) => cond (decide (v3 < (l1.length : Int))) ((idx l1 v3).bind fun e7 => (idx (l1.set (Int.toNat v3) (⟨v2, e7.Time_, e7.Who_⟩ : T_impl_RecoverEvent)) v3).bind fun e9 => (laws_markText (IntKind.i64.wrap ((IntKind.i64.wrap (v2 + 1)) + 1))).bind fun r11 => (idx ((l1.set (Int.toNat v3) (⟨v2, e7.Time_, e7.Who_⟩ : T_impl_RecoverEvent)).set (Int.toNat v3) (⟨e9.Kind_, (IntKind.i64.wrap (v2 + 1)), e9.Who_⟩ : T_impl_RecoverEvent)) v3).bind fun e13 => some (.inl ((((l1.set (Int.toNat v3) (⟨v2, e7.Time_, e7.Who_⟩ : T_impl_RecoverEvent)).set (Int.toNat v3) (⟨e9.Kind_, (IntKind.i64.wrap (v2 + 1)), e9.Who_⟩ : T_impl_RecoverEvent)).set (Int.toNat v3) (⟨e13.Kind_, e13.Time_, r11⟩ : T_impl_RecoverEvent)), (IntKind.i64.wrap ((IntKind.i64.wrap ((IntKind.i64.wrap (v2 + 1)) + 1)) + 1)), (IntKind.i64.wrap (v3 + 1))))) (some (.inr (l1, v2)))
noncomputable def laws_markRecoverEventSx (a0 : Int) (s0 : List T_impl_RecoverEvent) : Option (Int × List T_impl_RecoverEvent) :=
  (loopO (laws_markRecoverEventSx_l1) (s0, a0, 0)).bind fun q15 => (match q15 with | (l4, v5) => some (v5, l4))
theorem laws_markRecoverEventSx_p  {a0 : Int} {s0 : List T_impl_RecoverEvent} {R0 : Int} {U0 : List T_impl_RecoverEvent} (H : laws_markRecoverEventSx a0 s0 = some (R0, U0)) : St Go.Proofs.Try.prog 17 [.hd 0 (s0.map (c_T_impl_RecoverEvent false)).length 0 (s0.map (c_T_impl_RecoverEvent false)).length, .int .i64 a0] [.arr .clo 3 (s0.map (c_T_impl_RecoverEvent false))] (.int .i64 R0) [.arr .clo 3 (U0.map (c_T_impl_RecoverEvent false))] := by
  refine CallT.fin (CallT.of_TN (n := 35) Go.Proofs.Try.func17 rfl rfl rfl rfl ?_) rfl rfl ⟨trivial, trivial⟩
  refine T.seq ?_
  refine T.region ?_
  refine TL.st rfl rfl rfl (o_assign rfl rfl) ?_
  refine TL.nil ?_
  refine thn_normal ?_
  refine T.seq ?_
  refine T.seq ?_
  refine T.region ?_
  refine TL.st rfl rfl rfl (o_assign rfl rfl) ?_
  refine TL.nil ?_
  refine thn_normal ?_
  refine T.block ?_
  obtain ⟨q15, h16, H⟩ := bind_s H
  refine T.to (.cons 0 _ (.hd 0 (s0.map (c_T_impl_RecoverEvent false)).length 0 (s0.map (c_T_impl_RecoverEvent false)).length) _ rfl (.same _) rfl (.cons 1 _ (.int .i64 a0) _ rfl (.same _) rfl (.cons 5 _ (.int .i64 0) _ rfl (.same _) rfl .nil))) ?_
  refine T.lp (fun s => match s with | (l1, v2, v3) => [(0, .hd 0 (l1.map (c_T_impl_RecoverEvent false)).length 0 (l1.map (c_T_impl_RecoverEvent false)).length), (1, .int .i64 v2), (5, .int .i64 v3)]) (fun s => match s with | (l1, v2, v3) => [.arr .clo 3 (l1.map (c_T_impl_RecoverEvent false))]) (fun q ex fr σ => match q with | (l4, v5) => ex = .exit 0 ∧ fr = [(1, .int .i64 v5)] ∧ σ = [.arr .clo 3 (l4.map (c_T_impl_RecoverEvent false))]) h16 ?_ ?_ ?_ ?_ ?_
  · rintro ⟨l1, v2, v3⟩ y6 H
    refine T.seq ?_
    refine T.seq ?_
    refine T.region ?_
    refine TL.st rfl rfl rfl (o_move rfl rfl) ?_
    refine TL.st rfl rfl rfl (o_move rfl rfl) ?_
    refine TL.st rfl rfl rfl (o_lenOwn (f := c_T_impl_RecoverEvent false) rfl rfl rfl rfl rfl) ?_
    refine TL.st rfl rfl rfl (o_ari rfl rfl rfl rfl) ?_
    refine TL.nil ?_
    refine thn_normal ?_
    refine T.cond (decide (v3 < (l1.length : Int))) rfl (fun h => ?_) (fun h => ?_)
    · replace H := cond_t h H
      refine T.skip ?_
      refine thn_normal ?_
      refine T.seq ?_
      refine T.block ?_
      refine T.seq ?_
      refine T.region ?_
      refine TL.st rfl rfl rfl (o_move rfl rfl) ?_
      refine TL.st rfl rfl rfl (o_move rfl rfl) ?_
      refine TL.st rfl rfl rfl (o_move rfl rfl) ?_
      obtain ⟨e7, h8, H⟩ := bind_s H
      refine TL.st rfl rfl rfl (o_ixh (f := c_T_impl_RecoverEvent false) rfl rfl tyS_31 rfl rfl rfl rfl h8 rfl) ?_
      refine TL.st rfl rfl rfl (o_fieldAddrEl rfl rfl rfl tyS_3 (by decide) rfl rfl rfl) ?_
      refine TL.sn rfl rfl (o_stEl (f := c_T_impl_RecoverEvent false) (xs := l1) (k := v3) (a := e7) (⟨v2, e7.Time_, e7.Who_⟩ : T_impl_RecoverEvent) rfl tyS_3 rfl rfl rfl rfl (by decide) h8 rfl rfl rfl (fun _ => rfl) rfl) ?_
      refine TL.conv (Cs.eqV (t := 0) (v' := .hd 0 ((l1.set (Int.toNat v3) (⟨v2, e7.Time_, e7.Who_⟩ : T_impl_RecoverEvent)).map (c_T_impl_RecoverEvent false)).length 0 ((l1.set (Int.toNat v3) (⟨v2, e7.Time_, e7.Who_⟩ : T_impl_RecoverEvent)).map (c_T_impl_RecoverEvent false)).length) rfl (hd_len _ (List.length_set ..))) ?_
      refine TL.conv (Cs.eqV (t := 7) (v' := .hd 0 ((l1.set (Int.toNat v3) (⟨v2, e7.Time_, e7.Who_⟩ : T_impl_RecoverEvent)).map (c_T_impl_RecoverEvent false)).length 0 ((l1.set (Int.toNat v3) (⟨v2, e7.Time_, e7.Who_⟩ : T_impl_RecoverEvent)).map (c_T_impl_RecoverEvent false)).length) rfl (hd_len _ (List.length_set ..))) ?_
      refine TL.conv (Cs.eqV (t := 12) (v' := .hd 0 ((l1.set (Int.toNat v3) (⟨v2, e7.Time_, e7.Who_⟩ : T_impl_RecoverEvent)).map (c_T_impl_RecoverEvent false)).length 0 ((l1.set (Int.toNat v3) (⟨v2, e7.Time_, e7.Who_⟩ : T_impl_RecoverEvent)).map (c_T_impl_RecoverEvent false)).length) rfl (hd_len _ (List.length_set ..))) ?_
      refine TL.nil ?_
      refine thn_normal ?_
      refine T.seq ?_
      refine T.region ?_
      refine TL.st rfl rfl rfl (o_move rfl rfl) ?_
      refine TL.st rfl rfl rfl (o_ari rfl rfl rfl rfl) ?_
      refine TL.st rfl rfl rfl (o_assign rfl rfl) ?_
      refine TL.nil ?_
      refine thn_normal ?_
      refine T.seq ?_
      refine T.region ?_
      refine TL.st rfl rfl rfl (o_move rfl rfl) ?_
      refine TL.st rfl rfl rfl (o_move rfl rfl) ?_
      refine TL.st rfl rfl rfl (o_move rfl rfl) ?_
      obtain ⟨e9, h10, H⟩ := bind_s H
      refine TL.st rfl rfl rfl (o_ixh (f := c_T_impl_RecoverEvent false) rfl rfl tyS_31 rfl rfl rfl rfl h10 rfl) ?_
      refine TL.st rfl rfl rfl (o_fieldAddrEl rfl rfl rfl tyS_3 (by decide) rfl rfl rfl) ?_
      refine TL.sn rfl rfl (o_stEl (f := c_T_impl_RecoverEvent false) (xs := (l1.set (Int.toNat v3) (⟨v2, e7.Time_, e7.Who_⟩ : T_impl_RecoverEvent))) (k := v3) (a := e9) (⟨e9.Kind_, (IntKind.i64.wrap (v2 + 1)), e9.Who_⟩ : T_impl_RecoverEvent) rfl tyS_3 rfl rfl rfl rfl (by decide) h10 rfl rfl rfl (fun _ => rfl) rfl) ?_
      refine TL.conv (Cs.eqV (t := 0) (v' := .hd 0 (((l1.set (Int.toNat v3) (⟨v2, e7.Time_, e7.Who_⟩ : T_impl_RecoverEvent)).set (Int.toNat v3) (⟨e9.Kind_, (IntKind.i64.wrap (v2 + 1)), e9.Who_⟩ : T_impl_RecoverEvent)).map (c_T_impl_RecoverEvent false)).length 0 (((l1.set (Int.toNat v3) (⟨v2, e7.Time_, e7.Who_⟩ : T_impl_RecoverEvent)).set (Int.toNat v3) (⟨e9.Kind_, (IntKind.i64.wrap (v2 + 1)), e9.Who_⟩ : T_impl_RecoverEvent)).map (c_T_impl_RecoverEvent false)).length) rfl (hd_len _ (List.length_set ..))) ?_
      refine TL.conv (Cs.eqV (t := 7) (v' := .hd 0 (((l1.set (Int.toNat v3) (⟨v2, e7.Time_, e7.Who_⟩ : T_impl_RecoverEvent)).set (Int.toNat v3) (⟨e9.Kind_, (IntKind.i64.wrap (v2 + 1)), e9.Who_⟩ : T_impl_RecoverEvent)).map (c_T_impl_RecoverEvent false)).length 0 (((l1.set (Int.toNat v3) (⟨v2, e7.Time_, e7.Who_⟩ : T_impl_RecoverEvent)).set (Int.toNat v3) (⟨e9.Kind_, (IntKind.i64.wrap (v2 + 1)), e9.Who_⟩ : T_impl_RecoverEvent)).map (c_T_impl_RecoverEvent false)).length) rfl (hd_len _ (List.length_set ..))) ?_
      refine TL.conv (Cs.eqV (t := 12) (v' := .hd 0 (((l1.set (Int.toNat v3) (⟨v2, e7.Time_, e7.Who_⟩ : T_impl_RecoverEvent)).set (Int.toNat v3) (⟨e9.Kind_, (IntKind.i64.wrap (v2 + 1)), e9.Who_⟩ : T_impl_RecoverEvent)).map (c_T_impl_RecoverEvent false)).length 0 (((l1.set (Int.toNat v3) (⟨v2, e7.Time_, e7.Who_⟩ : T_impl_RecoverEvent)).set (Int.toNat v3) (⟨e9.Kind_, (IntKind.i64.wrap (v2 + 1)), e9.Who_⟩ : T_impl_RecoverEvent)).map (c_T_impl_RecoverEvent false)).length) rfl (hd_len _ (List.length_set ..))) ?_
      refine TL.conv (Cs.eqV (t := 19) (v' := .hd 0 (((l1.set (Int.toNat v3) (⟨v2, e7.Time_, e7.Who_⟩ : T_impl_RecoverEvent)).set (Int.toNat v3) (⟨e9.Kind_, (IntKind.i64.wrap (v2 + 1)), e9.Who_⟩ : T_impl_RecoverEvent)).map (c_T_impl_RecoverEvent false)).length 0 (((l1.set (Int.toNat v3) (⟨v2, e7.Time_, e7.Who_⟩ : T_impl_RecoverEvent)).set (Int.toNat v3) (⟨e9.Kind_, (IntKind.i64.wrap (v2 + 1)), e9.Who_⟩ : T_impl_RecoverEvent)).map (c_T_impl_RecoverEvent false)).length) rfl (hd_len _ (List.length_set ..))) ?_
      refine TL.nil ?_
      refine thn_normal ?_
      refine T.seq ?_
      refine T.region ?_
      refine TL.st rfl rfl rfl (o_move rfl rfl) ?_
      refine TL.st rfl rfl rfl (o_ari rfl rfl rfl rfl) ?_
      refine TL.st rfl rfl rfl (o_assign rfl rfl) ?_
      refine TL.nil ?_
      refine thn_normal ?_
      refine T.seq ?_
      refine T.region ?_
      refine TL.st rfl rfl rfl (o_move rfl rfl) ?_
      refine TL.st rfl rfl rfl (o_move rfl rfl) ?_
      refine TL.st rfl rfl rfl (o_move rfl rfl) ?_
      obtain ⟨r11, h12, H⟩ := bind_s H
      refine TL.st rfl rfl rfl (o_callP rfl en_35 rfl rfl (.cons _ _ _ _ (.cl _ rfl) .nil) (laws_markText_p  h12)) ?_
      obtain ⟨e13, h14, H⟩ := bind_s H
      refine TL.st rfl rfl rfl (o_ixh (f := c_T_impl_RecoverEvent false) rfl rfl tyS_31 rfl rfl rfl rfl h14 rfl) ?_
      refine TL.st rfl rfl rfl (o_fieldAddrEl rfl rfl rfl tyS_9 (by decide) rfl rfl rfl) ?_
      refine TL.sn rfl rfl (o_stEl (f := c_T_impl_RecoverEvent false) (xs := ((l1.set (Int.toNat v3) (⟨v2, e7.Time_, e7.Who_⟩ : T_impl_RecoverEvent)).set (Int.toNat v3) (⟨e9.Kind_, (IntKind.i64.wrap (v2 + 1)), e9.Who_⟩ : T_impl_RecoverEvent))) (k := v3) (a := e13) (⟨e13.Kind_, e13.Time_, r11⟩ : T_impl_RecoverEvent) rfl tyS_9 rfl rfl rfl rfl (by decide) h14 rfl rfl rfl (fun _ => rfl) rfl) ?_
      refine TL.conv (Cs.eqV (t := 0) (v' := .hd 0 ((((l1.set (Int.toNat v3) (⟨v2, e7.Time_, e7.Who_⟩ : T_impl_RecoverEvent)).set (Int.toNat v3) (⟨e9.Kind_, (IntKind.i64.wrap (v2 + 1)), e9.Who_⟩ : T_impl_RecoverEvent)).set (Int.toNat v3) (⟨e13.Kind_, e13.Time_, r11⟩ : T_impl_RecoverEvent)).map (c_T_impl_RecoverEvent false)).length 0 ((((l1.set (Int.toNat v3) (⟨v2, e7.Time_, e7.Who_⟩ : T_impl_RecoverEvent)).set (Int.toNat v3) (⟨e9.Kind_, (IntKind.i64.wrap (v2 + 1)), e9.Who_⟩ : T_impl_RecoverEvent)).set (Int.toNat v3) (⟨e13.Kind_, e13.Time_, r11⟩ : T_impl_RecoverEvent)).map (c_T_impl_RecoverEvent false)).length) rfl (hd_len _ (List.length_set ..))) ?_
      refine TL.conv (Cs.eqV (t := 7) (v' := .hd 0 ((((l1.set (Int.toNat v3) (⟨v2, e7.Time_, e7.Who_⟩ : T_impl_RecoverEvent)).set (Int.toNat v3) (⟨e9.Kind_, (IntKind.i64.wrap (v2 + 1)), e9.Who_⟩ : T_impl_RecoverEvent)).set (Int.toNat v3) (⟨e13.Kind_, e13.Time_, r11⟩ : T_impl_RecoverEvent)).map (c_T_impl_RecoverEvent false)).length 0 ((((l1.set (Int.toNat v3) (⟨v2, e7.Time_, e7.Who_⟩ : T_impl_RecoverEvent)).set (Int.toNat v3) (⟨e9.Kind_, (IntKind.i64.wrap (v2 + 1)), e9.Who_⟩ : T_impl_RecoverEvent)).set (Int.toNat v3) (⟨e13.Kind_, e13.Time_, r11⟩ : T_impl_RecoverEvent)).map (c_T_impl_RecoverEvent false)).length) rfl (hd_len _ (List.length_set ..))) ?_
      refine TL.conv (Cs.eqV (t := 12) (v' := .hd 0 ((((l1.set (Int.toNat v3) (⟨v2, e7.Time_, e7.Who_⟩ : T_impl_RecoverEvent)).set (Int.toNat v3) (⟨e9.Kind_, (IntKind.i64.wrap (v2 + 1)), e9.Who_⟩ : T_impl_RecoverEvent)).set (Int.toNat v3) (⟨e13.Kind_, e13.Time_, r11⟩ : T_impl_RecoverEvent)).map (c_T_impl_RecoverEvent false)).length 0 ((((l1.set (Int.toNat v3) (⟨v2, e7.Time_, e7.Who_⟩ : T_impl_RecoverEvent)).set (Int.toNat v3) (⟨e9.Kind_, (IntKind.i64.wrap (v2 + 1)), e9.Who_⟩ : T_impl_RecoverEvent)).set (Int.toNat v3) (⟨e13.Kind_, e13.Time_, r11⟩ : T_impl_RecoverEvent)).map (c_T_impl_RecoverEvent false)).length) rfl (hd_len _ (List.length_set ..))) ?_
      refine TL.conv (Cs.eqV (t := 19) (v' := .hd 0 ((((l1.set (Int.toNat v3) (⟨v2, e7.Time_, e7.Who_⟩ : T_impl_RecoverEvent)).set (Int.toNat v3) (⟨e9.Kind_, (IntKind.i64.wrap (v2 + 1)), e9.Who_⟩ : T_impl_RecoverEvent)).set (Int.toNat v3) (⟨e13.Kind_, e13.Time_, r11⟩ : T_impl_RecoverEvent)).map (c_T_impl_RecoverEvent false)).length 0 ((((l1.set (Int.toNat v3) (⟨v2, e7.Time_, e7.Who_⟩ : T_impl_RecoverEvent)).set (Int.toNat v3) (⟨e9.Kind_, (IntKind.i64.wrap (v2 + 1)), e9.Who_⟩ : T_impl_RecoverEvent)).set (Int.toNat v3) (⟨e13.Kind_, e13.Time_, r11⟩ : T_impl_RecoverEvent)).map (c_T_impl_RecoverEvent false)).length) rfl (hd_len _ (List.length_set ..))) ?_
      refine TL.conv (Cs.eqV (t := 26) (v' := .hd 0 ((((l1.set (Int.toNat v3) (⟨v2, e7.Time_, e7.Who_⟩ : T_impl_RecoverEvent)).set (Int.toNat v3) (⟨e9.Kind_, (IntKind.i64.wrap (v2 + 1)), e9.Who_⟩ : T_impl_RecoverEvent)).set (Int.toNat v3) (⟨e13.Kind_, e13.Time_, r11⟩ : T_impl_RecoverEvent)).map (c_T_impl_RecoverEvent false)).length 0 ((((l1.set (Int.toNat v3) (⟨v2, e7.Time_, e7.Who_⟩ : T_impl_RecoverEvent)).set (Int.toNat v3) (⟨e9.Kind_, (IntKind.i64.wrap (v2 + 1)), e9.Who_⟩ : T_impl_RecoverEvent)).set (Int.toNat v3) (⟨e13.Kind_, e13.Time_, r11⟩ : T_impl_RecoverEvent)).map (c_T_impl_RecoverEvent false)).length) rfl (hd_len _ (List.length_set ..))) ?_
      refine TL.nil ?_
      refine thn_normal ?_
      refine T.region ?_
      refine TL.st rfl rfl rfl (o_move rfl rfl) ?_
      refine TL.st rfl rfl rfl (o_ari rfl rfl rfl rfl) ?_
      refine TL.st rfl rfl rfl (o_assign rfl rfl) ?_
      refine TL.nil ?_
      refine inB_normal ?_
      refine thn_normal ?_
      refine T.region ?_
      refine TL.st rfl rfl rfl (o_move rfl rfl) ?_
      refine TL.st rfl rfl rfl (o_ari rfl rfl rfl rfl) ?_
      refine TL.st rfl rfl rfl (o_assign rfl rfl) ?_
      refine TL.nil ?_
      exact Pk.go (fr' := [(0, .hd 0 ((((l1.set (Int.toNat v3) (⟨v2, e7.Time_, e7.Who_⟩ : T_impl_RecoverEvent)).set (Int.toNat v3) (⟨e9.Kind_, (IntKind.i64.wrap (v2 + 1)), e9.Who_⟩ : T_impl_RecoverEvent)).set (Int.toNat v3) (⟨e13.Kind_, e13.Time_, r11⟩ : T_impl_RecoverEvent)).map (c_T_impl_RecoverEvent false)).length 0 ((((l1.set (Int.toNat v3) (⟨v2, e7.Time_, e7.Who_⟩ : T_impl_RecoverEvent)).set (Int.toNat v3) (⟨e9.Kind_, (IntKind.i64.wrap (v2 + 1)), e9.Who_⟩ : T_impl_RecoverEvent)).set (Int.toNat v3) (⟨e13.Kind_, e13.Time_, r11⟩ : T_impl_RecoverEvent)).map (c_T_impl_RecoverEvent false)).length), (1, .int .i64 (IntKind.i64.wrap ((IntKind.i64.wrap ((IntKind.i64.wrap (v2 + 1)) + 1)) + 1))), (5, .int .i64 (IntKind.i64.wrap (v3 + 1)))]) (σ' := [.arr .clo 3 ((((l1.set (Int.toNat v3) (⟨v2, e7.Time_, e7.Who_⟩ : T_impl_RecoverEvent)).set (Int.toNat v3) (⟨e9.Kind_, (IntKind.i64.wrap (v2 + 1)), e9.Who_⟩ : T_impl_RecoverEvent)).set (Int.toNat v3) (⟨e13.Kind_, e13.Time_, r11⟩ : T_impl_RecoverEvent)).map (c_T_impl_RecoverEvent false))]) _ rfl rfl ⟨trivial, trivial⟩ (.cons 0 _ (.hd 0 ((((l1.set (Int.toNat v3) (⟨v2, e7.Time_, e7.Who_⟩ : T_impl_RecoverEvent)).set (Int.toNat v3) (⟨e9.Kind_, (IntKind.i64.wrap (v2 + 1)), e9.Who_⟩ : T_impl_RecoverEvent)).set (Int.toNat v3) (⟨e13.Kind_, e13.Time_, r11⟩ : T_impl_RecoverEvent)).map (c_T_impl_RecoverEvent false)).length 0 ((((l1.set (Int.toNat v3) (⟨v2, e7.Time_, e7.Who_⟩ : T_impl_RecoverEvent)).set (Int.toNat v3) (⟨e9.Kind_, (IntKind.i64.wrap (v2 + 1)), e9.Who_⟩ : T_impl_RecoverEvent)).set (Int.toNat v3) (⟨e13.Kind_, e13.Time_, r11⟩ : T_impl_RecoverEvent)).map (c_T_impl_RecoverEvent false)).length) _ rfl (.same _) rfl (.cons 1 _ (.int .i64 (IntKind.i64.wrap ((IntKind.i64.wrap ((IntKind.i64.wrap (v2 + 1)) + 1)) + 1))) _ rfl (.same _) rfl (.cons 5 _ (.int .i64 (IntKind.i64.wrap (v3 + 1))) _ rfl (.same _) rfl .nil))) (thn_normal ⟨((((l1.set (Int.toNat v3) (⟨v2, e7.Time_, e7.Who_⟩ : T_impl_RecoverEvent)).set (Int.toNat v3) (⟨e9.Kind_, (IntKind.i64.wrap (v2 + 1)), e9.Who_⟩ : T_impl_RecoverEvent)).set (Int.toNat v3) (⟨e13.Kind_, e13.Time_, r11⟩ : T_impl_RecoverEvent)), (IntKind.i64.wrap ((IntKind.i64.wrap ((IntKind.i64.wrap (v2 + 1)) + 1)) + 1)), (IntKind.i64.wrap (v3 + 1))), (some_i H).symm, rfl, rfl⟩)
    · replace H := cond_f h H
      refine T.exit ?_
      refine thn_exit ?_
      exact Pk.go (fr' := [(1, .int .i64 v2)]) (σ' := [.arr .clo 3 (l1.map (c_T_impl_RecoverEvent false))]) _ rfl rfl ⟨trivial, trivial⟩ (.cons 1 _ (.int .i64 v2) _ rfl (.same _) rfl .nil) (thn_exit ⟨(l1, v2), (some_i H).symm, rfl, rfl, rfl⟩)
  · rintro ⟨l1, v2, v3⟩ ⟨l1', v2', v3'⟩; rfl
  · rintro ⟨l1, v2, v3⟩; exact ⟨trivial, trivial⟩
  · rintro ⟨l1, v2, v3⟩; exact (.cons _ _ _ rfl rfl (.cons _ _ _ rfl rfl (.cons _ _ _ rfl rfl .nil)))
  · rcases q15 with ⟨l4, v5⟩
    rintro _ _ _ ⟨rfl, rfl, rfl⟩
    refine inB_here ?_
    refine thn_normal ?_
    refine T.seq ?_
    refine T.region ?_
    refine TL.st rfl rfl rfl (o_move rfl rfl) ?_
    refine TL.st rfl rfl rfl (o_assign rfl rfl) ?_
    refine TL.nil ?_
    refine thn_normal ?_
    refine T.ret ?_
    cases some_i H
    exact ⟨trivial, _, (.tmp _ _ _ _ rfl .nil), ⟨rfl, _, rfl⟩⟩
theorem en_17 (us : Array Value) (w : World) : (callFunc 17 us).run Go.Proofs.Try.prog w = .ok (.enter 17 us) w := enters Go.Proofs.Try.func17 rfl rfl us w
theorem impl_RunRecovery_o (b0 : Bool) (b1 : Bool) {a0 : Int} {a1 : Int} {a2 : (List ByteArray)} {a3 : (List T_impl_RecoverEvent)} {R0 : (List Int)} (H : impl_RunRecovery a0 a1 a2 a3 = some R0) : OwnC Go.Proofs.Try.prog 6 [.int .i64 a0, .int .i64 a1, .im b0 (a2.map (c_str)), .im b1 (a3.map (c_T_impl_RecoverEvent false))] 1 (R0.map (c_int .i64)) := by
  refine CallT.of_TN (n := 73) Go.Proofs.Try.func6 rfl rfl rfl rfl ?_
  refine T.seq ?_
  refine T.region ?_
  refine TL.st rfl rfl rfl (o_box rfl rfl rfl) ?_
  refine TL.st rfl rfl rfl (o_box rfl rfl rfl) ?_
  refine TL.st rfl rfl rfl (o_box rfl rfl rfl) ?_
  refine TL.st rfl rfl rfl (o_assign rfl rfl) ?_
  refine TL.nil ?_
  refine thn_normal ?_
  refine T.seq ?_
  refine T.seq ?_
  refine T.region ?_
  refine TL.st rfl rfl rfl (o_loadBx rfl tyS_3 rfl rfl (Nat.le_of_ble_eq_true rfl) rfl) ?_
  refine TL.st rfl rfl rfl (o_ari rfl rfl rfl rfl) ?_
  refine TL.st rfl rfl rfl (o_move rfl rfl) ?_
  refine TL.gcq rfl rfl rfl (.bool _) rfl rfl (fun h => o_loadBx rfl tyS_3 rfl rfl (Nat.le_of_ble_eq_true rfl) rfl) ?_
  refine TL.gcq rfl rfl rfl (.bool _) rfl rfl (fun h => o_ari rfl (gv h rfl) rfl rfl) ?_
  refine TL.st rfl rfl rfl (o_or rfl rfl rfl rfl (fun k => Gd_t k)) ?_
  refine TL.st rfl rfl rfl (o_move rfl rfl) ?_
  refine TL.gcq rfl rfl rfl (.bool _) rfl rfl (fun h => o_loadBx rfl tyS_3 rfl rfl (Nat.le_of_ble_eq_true rfl) rfl) ?_
  refine TL.gcq rfl rfl rfl (.bool _) rfl rfl (fun h => o_ari rfl (gv h rfl) rfl rfl) ?_
  refine TL.st rfl rfl rfl (o_or rfl rfl rfl rfl (fun k => Gd_t k)) ?_
  refine TL.st rfl rfl rfl (o_move rfl rfl) ?_
  refine TL.gcq rfl rfl rfl (.bool _) rfl rfl (fun h => o_loadBx rfl tyS_3 rfl rfl (Nat.le_of_ble_eq_true rfl) rfl) ?_
  refine TL.gcq rfl rfl rfl (.bool _) rfl rfl (fun h => o_ari rfl (gv h rfl) rfl rfl) ?_
  refine TL.st rfl rfl rfl (o_or rfl rfl rfl rfl (fun k => Gd_t k)) ?_
  refine TL.st rfl rfl rfl (o_move rfl rfl) ?_
  refine TL.gcq rfl rfl rfl (.bool _) rfl rfl (fun h => o_loadBx rfl tyS_23 rfl rfl (Nat.le_of_ble_eq_true rfl) rfl) ?_
  refine TL.gcq rfl rfl rfl (.bool _) rfl rfl (fun h => o_lenL (f := c_str) rfl rfl (gv h rfl)) ?_
  refine TL.gcq rfl rfl rfl (.bool _) rfl rfl (fun h => o_ari rfl (gv h rfl) rfl rfl) ?_
  refine TL.st rfl rfl rfl (o_or rfl rfl rfl rfl (fun k => Gd_t k)) ?_
  refine TL.st rfl rfl rfl (o_move rfl rfl) ?_
  refine TL.gcq rfl rfl rfl (.bool _) rfl rfl (fun h => o_loadBx rfl tyS_23 rfl rfl (Nat.le_of_ble_eq_true rfl) rfl) ?_
  obtain ⟨r1, h2, H⟩ := bind_s H
  refine TL.gcq rfl rfl rfl (.bool _) rfl rfl (fun h => o_callP rfl en_25 rfl (evl_1 (gv h rfl)) (.cons _ _ _ _ (.imv _ _) .nil) (impl_yrising_p b0 (gdO_t h2 h))) ?_
  refine TL.gcq rfl rfl rfl (.bool _) rfl rfl (fun h => o_not rfl (gv h rfl)) ?_
  refine TL.st rfl rfl rfl (o_or rfl rfl rfl rfl (fun k => Gd_t k)) ?_
  refine TL.st rfl rfl rfl (o_move rfl rfl) ?_
  refine TL.gcq rfl rfl rfl (.bool _) rfl rfl (fun h => o_loadBx rfl tyS_23 rfl rfl (Nat.le_of_ble_eq_true rfl) rfl) ?_
  obtain ⟨r3, h4, H⟩ := bind_s H
  refine TL.gcq rfl rfl rfl (.bool _) rfl rfl (fun h => o_callP rfl en_26 rfl (evl_1 (gv h rfl)) (.cons _ _ _ _ (.imv _ _) .nil) (impl_yallNames_p b0 (gdO_t h4 h))) ?_
  refine TL.gcq rfl rfl rfl (.bool _) rfl rfl (fun h => o_not rfl (gv h rfl)) ?_
  refine TL.st rfl rfl rfl (o_or rfl rfl rfl rfl (fun k => Gd_t k)) ?_
  refine TL.st rfl rfl rfl (o_move rfl rfl) ?_
  refine TL.gcq rfl rfl rfl (.bool _) rfl rfl (fun h => o_move rfl rfl) ?_
  refine TL.gcq rfl rfl rfl (.bool _) rfl rfl (fun h => o_lenL (f := c_T_impl_RecoverEvent false) rfl rfl (gv h rfl)) ?_
  refine TL.gcq rfl rfl rfl (.bool _) rfl rfl (fun h => o_ari rfl (gv h rfl) rfl rfl) ?_
  refine TL.st rfl rfl rfl (o_or rfl rfl rfl rfl (fun k => Gd_t k)) ?_
  refine TL.nil ?_
  refine thn_normal ?_
  refine T.cond ((((((((decide (a0 < 1) || decide (a0 > 10)) || decide (a1 < 0)) || decide (a1 > 100000000000)) || decide ((a2.length : Int) > 10)) || (!r1)) || (!r3)) || decide ((a3.length : Int) > 200))) rfl (fun h => ?_) (fun h => ?_)
  · replace H := cond_t h H
    refine T.seq ?_
    refine T.region ?_
    refine TL.st rfl rfl rfl (o_assign rfl rfl) ?_
    refine TL.nil ?_
    refine thn_normal ?_
    refine T.conv (Cs.own (t := 8) 1 rfl (by decide)) ?_
    refine T.conv (Cs.wkF (M := 4) (.cons 8 _ (.hd 3 (([] : List Int).map (c_int .i64)).length 0 (([] : List Int).map (c_int .i64)).length) _ rfl (.same _) rfl .nil)) ?_
    refine T.conv (Cs.reloc 0 3 rfl rfl (by decide) rfl rfl rfl (nomS_get rfl)) ?_
    refine T.ret ?_
    refine thn_ret ?_
    cases some_i H
    exact ⟨trivial, _, (.tmp _ _ _ _ rfl .nil), ⟨rfl, _, rfl⟩⟩
  · replace H := cond_f h H
    refine T.skip ?_
    refine thn_normal ?_
    refine T.seq ?_
    refine T.region ?_
    refine TL.st rfl rfl rfl (o_alloc rfl ⟨_, rfl, rfl⟩) ?_
    refine TL.st rfl rfl rfl (o_alloc rfl ⟨_, rfl, rfl⟩) ?_
    refine TL.st rfl rfl rfl (o_alloc rfl ⟨_, rfl, rfl⟩) ?_
    refine TL.sn rfl rfl (o_storeBx rfl tyS_3 rfl rfl rfl rfl (Nat.le_of_ble_eq_true rfl) rfl) ?_
    refine TL.sn rfl rfl (o_storeBx rfl tyS_3 rfl rfl rfl rfl (Nat.le_of_ble_eq_true rfl) rfl) ?_
    refine TL.sn rfl rfl (o_storeBx rfl tyS_4 rfl rfl rfl rfl (Nat.le_of_ble_eq_true rfl) rfl) ?_
    refine TL.nil ?_
    refine thn_normal ?_
    refine T.seq ?_
    refine T.region ?_
    refine TL.st rfl rfl rfl (o_makeMap rfl) ?_
    refine TL.st rfl rfl rfl (o_alloc rfl ⟨_, rfl, rfl⟩) ?_
    refine TL.sn rfl rfl (o_storeBx rfl tyS_52 rfl rfl rfl rfl (Nat.le_of_ble_eq_true rfl) rfl) ?_
    refine TL.nil ?_
    refine thn_normal ?_
    refine T.seq ?_
    refine T.region ?_
    refine TL.st rfl rfl rfl (o_makeFunc rfl rfl rfl) ?_
    refine TL.st rfl rfl rfl (o_assign rfl rfl) ?_
    refine TL.nil ?_
    refine thn_normal ?_
    refine T.seq ?_
    refine T.region ?_
    refine TL.st rfl rfl rfl (o_assign rfl rfl) ?_
    refine TL.nil ?_
    refine thn_normal ?_
    refine T.seq ?_
    refine T.seq ?_
    refine T.region ?_
    refine TL.st rfl rfl rfl (o_move rfl rfl) ?_
    refine TL.st rfl rfl rfl (o_lenL (f := c_T_impl_RecoverEvent false) rfl rfl rfl) ?_
    refine TL.st rfl rfl rfl (o_move rfl rfl) ?_
    refine TL.nil ?_
    refine thn_normal ?_
    refine T.block ?_
    refine T.conv (Cs.own (t := 14) 1 rfl (by decide)) ?_
    obtain ⟨q27, h28, H⟩ := bind_s H
    refine T.to (.cons 9 _ (.bx 3 0) _ rfl (.same _) rfl (.cons 13 _ (.fn 27 [] [.bx 3 0, .bx 5 0, .bx 1 0, .bx 4 0, .bx 7 0, .bx 2 0, .bx 0 0]) _ rfl (.same _) rfl (.cons 14 _ (.hd 8 (([] : List Int).map (c_int .i64)).length 0 (([] : List Int).map (c_int .i64)).length) _ rfl (.same _) rfl (.cons 54 _ (.im b1 (a3.map (c_T_impl_RecoverEvent false))) _ rfl (.same _) rfl (.cons 55 _ (.int .i64 (a3.length : Int)) _ rfl (.same _) rfl (.cons 56 _ (.int .i64 0) _ rfl (.same _) rfl .nil)))))) ?_
    refine T.lp (fun s => match s with | (b5, b6, b7, m8, l9, v10) => [(9, .bx 3 0), (13, .fn 27 [] [.bx 3 0, .bx 5 0, .bx 1 0, .bx 4 0, .bx 7 0, .bx 2 0, .bx 0 0]), (14, .hd 8 (l9.map (c_int .i64)).length 0 (l9.map (c_int .i64)).length), (54, .im b1 (a3.map (c_T_impl_RecoverEvent false))), (55, .int .i64 (a3.length : Int)), (56, .int .i64 v10)]) (fun s => match s with | (b5, b6, b7, m8, l9, v10) => [.box [.int .i64 a0], .box [.int .i64 a1], .box [.im b0 (a2.map (c_str))], .box [.int .i64 b5], .box [.int .i64 b6], .box [.bool b7], mpO (V.str) (V.bool) m8, .box [.mp 6], .arr .clo 1 (l9.map (c_int .i64))]) (fun q ex fr σ => match q with | (b11, b12, b13, m14, l15) => ex = .exit 0 ∧ fr = [(14, .hd 8 (l15.map (c_int .i64)).length 0 (l15.map (c_int .i64)).length)] ∧ σ = [.box [.int .i64 a0], .box [.int .i64 a1], .box [.im b0 (a2.map (c_str))], .box [.int .i64 b11], .box [.int .i64 b12], .box [.bool b13], mpO (V.str) (V.bool) m14, .box [.mp 6], .arr .clo 1 (l15.map (c_int .i64))]) h28 ?_ ?_ ?_ ?_ ?_
    · rintro ⟨b5, b6, b7, m8, l9, v10⟩ y16 H
      refine T.seq ?_
      refine T.region ?_
      refine TL.st rfl rfl rfl (o_ari rfl rfl rfl rfl) ?_
      refine TL.nil ?_
      refine thn_normal ?_
      refine T.seq ?_
      refine T.cond (decide (v10 < (a3.length : Int))) rfl (fun h => ?_) (fun h => ?_)
      · replace H := cond_t h H
        refine T.skip ?_
        refine thn_normal ?_
        refine T.seq ?_
        refine T.block ?_
        refine T.seq ?_
        refine T.region ?_
        obtain ⟨e17, h18, H⟩ := bind_s H
        refine TL.st rfl rfl rfl (o_ix (f := c_T_impl_RecoverEvent false) rfl rfl tyS_31 rfl rfl h18 rfl) ?_
        refine TL.st rfl rfl rfl (o_loadRf rfl tyS_31 rfl (Nat.le_of_ble_eq_true rfl) rfl) ?_
        refine TL.st rfl rfl rfl (o_alloc rfl ⟨_, rfl, rfl⟩) ?_
        refine TL.sn rfl rfl (o_storeBx rfl tyS_31 rfl rfl rfl rfl (Nat.le_of_ble_eq_true rfl) rfl) ?_
        refine TL.nil ?_
        refine thn_normal ?_
        refine T.seq ?_
        refine T.region ?_
        refine TL.st rfl rfl rfl (o_move rfl rfl) ?_
        refine TL.st rfl rfl rfl (o_loadBx rfl tyS_31 rfl rfl (Nat.le_of_ble_eq_true rfl) rfl) ?_
        obtain ⟨⟨r19, o20, o21, o22⟩, h23, H⟩ := bind_s H
        refine TL.st rfl rfl rfl (o_callM [3, 5, 1, 4, 7, 6, 2, 0] rfl en_27 rfl rfl (impl_RunRecovery_1_p b0 h23) rfl (by decide) (.cons _ _ _ _ rfl (.cons _ _ _ _ rfl (.cons _ _ _ _ rfl (.cons _ _ _ _ rfl (.cons _ _ _ _ rfl (.cons _ _ _ _ (ren_mp rfl fun _ => rfl) (.cons _ _ _ _ rfl (.cons _ _ _ _ rfl .nil)))))))) rfl rfl (.cons _ _ _ _ rfl (.cons _ _ _ _ rfl (.cons _ _ _ _ rfl (.cons _ _ _ _ rfl (.cons _ _ _ _ rfl (.cons _ _ _ _ (ren_mpO fun _ => rfl) (.cons _ _ _ _ rfl (.cons _ _ _ _ rfl .nil)))))))) rfl) ?_
        refine TL.st rfl rfl rfl (o_assign rfl rfl) ?_
        refine TL.nil ?_
        refine thn_normal ?_
        refine T.cut (fun fr' σ' => ∃ (b24 : Int), fr' = [(9, .bx 3 0), (13, .fn 27 [] [.bx 3 0, .bx 5 0, .bx 1 0, .bx 4 0, .bx 7 0, .bx 2 0, .bx 0 0]), (14, .hd 8 (l9.map (c_int .i64)).length 0 (l9.map (c_int .i64)).length), (17, .int .i64 r19), (54, .im b1 (a3.map (c_T_impl_RecoverEvent false))), (55, .int .i64 (a3.length : Int)), (56, .int .i64 v10)] ∧ σ' = [.box [.int .i64 a0], .box [.int .i64 a1], .box [.im b0 (a2.map (c_str))], .box [.int .i64 b24], .box [.int .i64 o21], .box [.bool o20], mpO (V.str) (V.bool) o22, .box [.mp 6], .arr .clo 1 (l9.map (c_int .i64)), .box (c_T_impl_RecoverEvent false e17)] ∧ impl_RunRecovery_j1 l9 v10 r19 o20 o21 o22 b24 = some y16) (T.pk ?_) ?_
        · skip
          refine T.seq ?_
          refine T.region ?_
          refine TL.st rfl rfl rfl (o_move rfl rfl) ?_
          refine TL.st rfl rfl rfl (o_ari rfl rfl rfl rfl) ?_
          refine TL.nil ?_
          refine thn_normal ?_
          refine T.cond ((r19 == 0)) rfl (fun h => ?_) (fun h => ?_)
          · replace H := cond_t h H
            refine T.region ?_
            refine TL.st rfl rfl rfl (o_fieldAddr rfl rfl rfl tyS_3 (by decide) rfl rfl ⟨_, rfl, Nat.le_of_ble_eq_true rfl⟩) ?_
            refine TL.st rfl rfl rfl (o_loadBx rfl tyS_3 rfl rfl (Nat.le_of_ble_eq_true rfl) rfl) ?_
            refine TL.sn rfl rfl (o_storeBx rfl tyS_3 rfl rfl rfl rfl (Nat.le_of_ble_eq_true rfl) rfl) ?_
            refine TL.nil ?_
            exact Pk.go (fr' := [(9, .bx 3 0), (13, .fn 27 [] [.bx 3 0, .bx 5 0, .bx 1 0, .bx 4 0, .bx 7 0, .bx 2 0, .bx 0 0]), (14, .hd 8 (l9.map (c_int .i64)).length 0 (l9.map (c_int .i64)).length), (17, .int .i64 r19), (54, .im b1 (a3.map (c_T_impl_RecoverEvent false))), (55, .int .i64 (a3.length : Int)), (56, .int .i64 v10)]) (σ' := [.box [.int .i64 a0], .box [.int .i64 a1], .box [.im b0 (a2.map (c_str))], .box [.int .i64 e17.Time_], .box [.int .i64 o21], .box [.bool o20], mpO (V.str) (V.bool) o22, .box [.mp 6], .arr .clo 1 (l9.map (c_int .i64)), .box (c_T_impl_RecoverEvent false e17)]) _ rfl rfl ⟨(bels_iff.1 rfl), ⟨(bels_iff.1 rfl), ⟨(bels_iff.1 rfl), ⟨(bels_iff.1 rfl), ⟨(bels_iff.1 rfl), ⟨(bels_iff.1 rfl), ⟨(belMap fun _ => rfl), ⟨(bels_iff.1 rfl), ⟨trivial, ⟨(bels_iff.1 rfl), trivial⟩⟩⟩⟩⟩⟩⟩⟩⟩⟩ (.cons 9 _ (.bx 3 0) _ rfl (.same _) rfl (.cons 13 _ (.fn 27 [] [.bx 3 0, .bx 5 0, .bx 1 0, .bx 4 0, .bx 7 0, .bx 2 0, .bx 0 0]) _ rfl (.same _) rfl (.cons 14 _ (.hd 8 (l9.map (c_int .i64)).length 0 (l9.map (c_int .i64)).length) _ rfl (.same _) rfl (.cons 17 _ (.int .i64 r19) _ rfl (.same _) rfl (.cons 54 _ (.im b1 (a3.map (c_T_impl_RecoverEvent false))) _ rfl (.same _) rfl (.cons 55 _ (.int .i64 (a3.length : Int)) _ rfl (.same _) rfl (.cons 56 _ (.int .i64 v10) _ rfl (.same _) rfl .nil))))))) (thn_normal ⟨e17.Time_, rfl, rfl, H⟩)
          · replace H := cond_f h H
            refine T.skip ?_
            exact Pk.go (fr' := [(9, .bx 3 0), (13, .fn 27 [] [.bx 3 0, .bx 5 0, .bx 1 0, .bx 4 0, .bx 7 0, .bx 2 0, .bx 0 0]), (14, .hd 8 (l9.map (c_int .i64)).length 0 (l9.map (c_int .i64)).length), (17, .int .i64 r19), (54, .im b1 (a3.map (c_T_impl_RecoverEvent false))), (55, .int .i64 (a3.length : Int)), (56, .int .i64 v10)]) (σ' := [.box [.int .i64 a0], .box [.int .i64 a1], .box [.im b0 (a2.map (c_str))], .box [.int .i64 b5], .box [.int .i64 o21], .box [.bool o20], mpO (V.str) (V.bool) o22, .box [.mp 6], .arr .clo 1 (l9.map (c_int .i64)), .box (c_T_impl_RecoverEvent false e17)]) _ rfl rfl ⟨(bels_iff.1 rfl), ⟨(bels_iff.1 rfl), ⟨(bels_iff.1 rfl), ⟨(bels_iff.1 rfl), ⟨(bels_iff.1 rfl), ⟨(bels_iff.1 rfl), ⟨(belMap fun _ => rfl), ⟨(bels_iff.1 rfl), ⟨trivial, ⟨(bels_iff.1 rfl), trivial⟩⟩⟩⟩⟩⟩⟩⟩⟩⟩ (.cons 9 _ (.bx 3 0) _ rfl (.same _) rfl (.cons 13 _ (.fn 27 [] [.bx 3 0, .bx 5 0, .bx 1 0, .bx 4 0, .bx 7 0, .bx 2 0, .bx 0 0]) _ rfl (.same _) rfl (.cons 14 _ (.hd 8 (l9.map (c_int .i64)).length 0 (l9.map (c_int .i64)).length) _ rfl (.same _) rfl (.cons 17 _ (.int .i64 r19) _ rfl (.same _) rfl (.cons 54 _ (.im b1 (a3.map (c_T_impl_RecoverEvent false))) _ rfl (.same _) rfl (.cons 55 _ (.int .i64 (a3.length : Int)) _ rfl (.same _) rfl (.cons 56 _ (.int .i64 v10) _ rfl (.same _) rfl .nil))))))) (thn_normal ⟨b5, rfl, rfl, H⟩)
        · rintro _ _ ⟨b24, rfl, rfl, H⟩
          refine T.region ?_
          refine TL.st rfl rfl rfl (o_move rfl rfl) ?_
          refine TL.st rfl rfl rfl (o_move rfl rfl) ?_
          refine TL.st rfl rfl rfl (o_sliceIm rfl rfl tyS_3 ⟨_, rfl, rfl⟩ (by decide) rfl rfl rfl rfl rfl rfl) ?_
          obtain ⟨l25, h26, H⟩ := bind_s H
          refine TL.st rfl rfl rfl (o_ap (f := c_int .i64) (xs := l9) (ys := ([r19] : List Int)) rfl rfl tyE_3 rfl rfl rfl rfl (by decide) rfl (fun _ => rfl) h26) ?_
          refine TL.st rfl rfl rfl (o_assign rfl rfl) ?_
          refine TL.nil ?_
          refine inB_normal ?_
          refine thn_normal ?_
          refine T.region ?_
          refine TL.st rfl rfl rfl (o_ari rfl rfl rfl rfl) ?_
          refine TL.st rfl rfl rfl (o_move rfl rfl) ?_
          refine TL.nil ?_
          exact Pk.go (fr' := [(9, .bx 3 0), (13, .fn 27 [] [.bx 3 0, .bx 5 0, .bx 1 0, .bx 4 0, .bx 7 0, .bx 2 0, .bx 0 0]), (14, .hd 8 (l25.map (c_int .i64)).length 0 (l25.map (c_int .i64)).length), (54, .im b1 (a3.map (c_T_impl_RecoverEvent false))), (55, .int .i64 (a3.length : Int)), (56, .int .i64 (IntKind.i64.wrap (v10 + 1)))]) (σ' := [.box [.int .i64 a0], .box [.int .i64 a1], .box [.im b0 (a2.map (c_str))], .box [.int .i64 b24], .box [.int .i64 o21], .box [.bool o20], mpO (V.str) (V.bool) o22, .box [.mp 6], .arr .clo 1 (l25.map (c_int .i64))]) _ rfl rfl ⟨(bels_iff.1 rfl), ⟨(bels_iff.1 rfl), ⟨(bels_iff.1 rfl), ⟨(bels_iff.1 rfl), ⟨(bels_iff.1 rfl), ⟨(bels_iff.1 rfl), ⟨(belMap fun _ => rfl), ⟨(bels_iff.1 rfl), ⟨trivial, trivial⟩⟩⟩⟩⟩⟩⟩⟩⟩ (.cons 9 _ (.bx 3 0) _ rfl (.same _) rfl (.cons 13 _ (.fn 27 [] [.bx 3 0, .bx 5 0, .bx 1 0, .bx 4 0, .bx 7 0, .bx 2 0, .bx 0 0]) _ rfl (.same _) rfl (.cons 14 _ (.hd 8 (l25.map (c_int .i64)).length 0 (l25.map (c_int .i64)).length) _ rfl (.same _) rfl (.cons 54 _ (.im b1 (a3.map (c_T_impl_RecoverEvent false))) _ rfl (.same _) rfl (.cons 55 _ (.int .i64 (a3.length : Int)) _ rfl (.same _) rfl (.cons 56 _ (.int .i64 (IntKind.i64.wrap (v10 + 1))) _ rfl (.same _) rfl .nil)))))) (thn_normal ⟨(b24, o21, o20, o22, l25, (IntKind.i64.wrap (v10 + 1))), (some_i H).symm, rfl, rfl⟩)
      · replace H := cond_f h H
        refine T.exit ?_
        refine thn_exit ?_
        exact Pk.go (fr' := [(14, .hd 8 (l9.map (c_int .i64)).length 0 (l9.map (c_int .i64)).length)]) (σ' := [.box [.int .i64 a0], .box [.int .i64 a1], .box [.im b0 (a2.map (c_str))], .box [.int .i64 b5], .box [.int .i64 b6], .box [.bool b7], mpO (V.str) (V.bool) m8, .box [.mp 6], .arr .clo 1 (l9.map (c_int .i64))]) _ rfl rfl ⟨(bels_iff.1 rfl), ⟨(bels_iff.1 rfl), ⟨(bels_iff.1 rfl), ⟨(bels_iff.1 rfl), ⟨(bels_iff.1 rfl), ⟨(bels_iff.1 rfl), ⟨(belMap fun _ => rfl), ⟨(bels_iff.1 rfl), ⟨trivial, trivial⟩⟩⟩⟩⟩⟩⟩⟩⟩ (.cons 14 _ (.hd 8 (l9.map (c_int .i64)).length 0 (l9.map (c_int .i64)).length) _ rfl (.same _) rfl .nil) (thn_exit ⟨(b5, b6, b7, m8, l9), (some_i H).symm, rfl, rfl, rfl⟩)
    · rintro ⟨b5, b6, b7, m8, l9, v10⟩ ⟨b5', b6', b7', m8', l9', v10'⟩; rfl
    · rintro ⟨b5, b6, b7, m8, l9, v10⟩; exact ⟨(bels_iff.1 rfl), ⟨(bels_iff.1 rfl), ⟨(bels_iff.1 rfl), ⟨(bels_iff.1 rfl), ⟨(bels_iff.1 rfl), ⟨(bels_iff.1 rfl), ⟨(belMap fun _ => rfl), ⟨(bels_iff.1 rfl), ⟨trivial, trivial⟩⟩⟩⟩⟩⟩⟩⟩⟩
    · rintro ⟨b5, b6, b7, m8, l9, v10⟩; exact (.cons _ _ _ rfl rfl (.cons _ _ _ rfl rfl (.cons _ _ _ rfl rfl (.cons _ _ _ rfl rfl (.cons _ _ _ rfl rfl (.cons _ _ _ rfl rfl .nil))))))
    · rcases q27 with ⟨b11, b12, b13, m14, l15⟩
      rintro _ _ _ ⟨rfl, rfl, rfl⟩
      refine inB_here ?_
      refine thn_normal ?_
      refine T.seq ?_
      refine T.region ?_
      refine TL.st rfl rfl rfl (o_move rfl rfl) ?_
      refine TL.st rfl rfl rfl (o_assign rfl rfl) ?_
      refine TL.nil ?_
      refine thn_normal ?_
      refine T.conv (Cs.wkF (M := 9) (.cons 8 _ (.hd 8 (l15.map (c_int .i64)).length 0 (l15.map (c_int .i64)).length) _ rfl (.same _) rfl .nil)) ?_
      refine T.conv (Cs.reloc 0 8 rfl rfl (by decide) rfl rfl rfl (nomS_get (nomS_e rfl (nomS_c rfl (nomS_c rfl (nomS_c rfl (nomS_c rfl (nomS_c rfl (nomS_c (nomO_mpO fun _ => rfl) (nomS_c rfl (nomS_c rfl rfl))))))))))) ?_
      refine T.ret ?_
      cases some_i H
      exact ⟨trivial, _, (.tmp _ _ _ _ rfl .nil), ⟨rfl, _, rfl⟩⟩
noncomputable def laws_markIntSx_l1  : (List Int × Int × Int) → Option ((List Int × Int × Int) ⊕ (List Int × Int)) := fun s => match s with
  | (l1, v2, v3) => cond (decide (v3 < (l1.length : Int))) ((idx l1 v3).bind fun e7 => some (.inl ((l1.set (Int.toNat v3) v2), (IntKind.i64.wrap (v2 + 1)), (IntKind.i64.wrap (v3 + 1))))) (some (.inr (l1, v2)))
noncomputable def laws_markIntSx (a0 : Int) (s0 : List Int) : Option (Int × List Int) :=
  (loopO (laws_markIntSx_l1) (s0, a0, 0)).bind fun q9 => (match q9 with | (l4, v5) => some (v5, l4))
theorem laws_markIntSx_p  {a0 : Int} {s0 : List Int} {R0 : Int} {U0 : List Int} (H : laws_markIntSx a0 s0 = some (R0, U0)) : St Go.Proofs.Try.prog 18 [.hd 0 (s0.map (c_int .i64)).length 0 (s0.map (c_int .i64)).length, .int .i64 a0] [.arr .clo 1 (s0.map (c_int .i64))] (.int .i64 R0) [.arr .clo 1 (U0.map (c_int .i64))] := by
  refine CallT.fin (CallT.of_TN (n := 19) Go.Proofs.Try.func18 rfl rfl rfl rfl ?_) rfl rfl ⟨trivial, trivial⟩
  refine T.seq ?_
  refine T.region ?_
  refine TL.st rfl rfl rfl (o_assign rfl rfl) ?_
  refine TL.nil ?_
  refine thn_normal ?_
  refine T.seq ?_
  refine T.seq ?_
  refine T.region ?_
  refine TL.st rfl rfl rfl (o_assign rfl rfl) ?_
  refine TL.nil ?_
  refine thn_normal ?_
  refine T.block ?_
  obtain ⟨q9, h10, H⟩ := bind_s H
  refine T.to (.cons 0 _ (.hd 0 (s0.map (c_int .i64)).length 0 (s0.map (c_int .i64)).length) _ rfl (.same _) rfl (.cons 1 _ (.int .i64 a0) _ rfl (.same _) rfl (.cons 5 _ (.int .i64 0) _ rfl (.same _) rfl .nil))) ?_
  refine T.lp (fun s => match s with | (l1, v2, v3) => [(0, .hd 0 (l1.map (c_int .i64)).length 0 (l1.map (c_int .i64)).length), (1, .int .i64 v2), (5, .int .i64 v3)]) (fun s => match s with | (l1, v2, v3) => [.arr .clo 1 (l1.map (c_int .i64))]) (fun q ex fr σ => match q with | (l4, v5) => ex = .exit 0 ∧ fr = [(1, .int .i64 v5)] ∧ σ = [.arr .clo 1 (l4.map (c_int .i64))]) h10 ?_ ?_ ?_ ?_ ?_
  · rintro ⟨l1, v2, v3⟩ y6 H
    refine T.seq ?_
    refine T.seq ?_
    refine T.region ?_
    refine TL.st rfl rfl rfl (o_move rfl rfl) ?_
    refine TL.st rfl rfl rfl (o_move rfl rfl) ?_
    refine TL.st rfl rfl rfl (o_lenOwn (f := c_int .i64) rfl rfl rfl rfl rfl) ?_
    refine TL.st rfl rfl rfl (o_ari rfl rfl rfl rfl) ?_
    refine TL.nil ?_
    refine thn_normal ?_
    refine T.cond (decide (v3 < (l1.length : Int))) rfl (fun h => ?_) (fun h => ?_)
    · replace H := cond_t h H
      refine T.skip ?_
      refine thn_normal ?_
      refine T.seq ?_
      refine T.block ?_
      refine T.seq ?_
      refine T.region ?_
      refine TL.st rfl rfl rfl (o_move rfl rfl) ?_
      refine TL.st rfl rfl rfl (o_move rfl rfl) ?_
      refine TL.st rfl rfl rfl (o_move rfl rfl) ?_
      obtain ⟨e7, h8, H⟩ := bind_s H
      refine TL.st rfl rfl rfl (o_ixh (f := c_int .i64) rfl rfl tyS_3 rfl rfl rfl rfl h8 rfl) ?_
      refine TL.sn rfl rfl (o_stEl (f := c_int .i64) (xs := l1) (k := v3) (a := e7) v2 rfl tyS_3 rfl rfl rfl rfl (by decide) h8 rfl rfl rfl (fun _ => rfl) rfl) ?_
      refine TL.conv (Cs.eqV (t := 0) (v' := .hd 0 ((l1.set (Int.toNat v3) v2).map (c_int .i64)).length 0 ((l1.set (Int.toNat v3) v2).map (c_int .i64)).length) rfl (hd_len _ (List.length_set ..))) ?_
      refine TL.conv (Cs.eqV (t := 7) (v' := .hd 0 ((l1.set (Int.toNat v3) v2).map (c_int .i64)).length 0 ((l1.set (Int.toNat v3) v2).map (c_int .i64)).length) rfl (hd_len _ (List.length_set ..))) ?_
      refine TL.conv (Cs.eqV (t := 12) (v' := .hd 0 ((l1.set (Int.toNat v3) v2).map (c_int .i64)).length 0 ((l1.set (Int.toNat v3) v2).map (c_int .i64)).length) rfl (hd_len _ (List.length_set ..))) ?_
      refine TL.nil ?_
      refine thn_normal ?_
      refine T.region ?_
      refine TL.st rfl rfl rfl (o_move rfl rfl) ?_
      refine TL.st rfl rfl rfl (o_ari rfl rfl rfl rfl) ?_
      refine TL.st rfl rfl rfl (o_assign rfl rfl) ?_
      refine TL.nil ?_
      refine inB_normal ?_
      refine thn_normal ?_
      refine T.region ?_
      refine TL.st rfl rfl rfl (o_move rfl rfl) ?_
      refine TL.st rfl rfl rfl (o_ari rfl rfl rfl rfl) ?_
      refine TL.st rfl rfl rfl (o_assign rfl rfl) ?_
      refine TL.nil ?_
      exact Pk.go (fr' := [(0, .hd 0 ((l1.set (Int.toNat v3) v2).map (c_int .i64)).length 0 ((l1.set (Int.toNat v3) v2).map (c_int .i64)).length), (1, .int .i64 (IntKind.i64.wrap (v2 + 1))), (5, .int .i64 (IntKind.i64.wrap (v3 + 1)))]) (σ' := [.arr .clo 1 ((l1.set (Int.toNat v3) v2).map (c_int .i64))]) _ rfl rfl ⟨trivial, trivial⟩ (.cons 0 _ (.hd 0 ((l1.set (Int.toNat v3) v2).map (c_int .i64)).length 0 ((l1.set (Int.toNat v3) v2).map (c_int .i64)).length) _ rfl (.same _) rfl (.cons 1 _ (.int .i64 (IntKind.i64.wrap (v2 + 1))) _ rfl (.same _) rfl (.cons 5 _ (.int .i64 (IntKind.i64.wrap (v3 + 1))) _ rfl (.same _) rfl .nil))) (thn_normal ⟨((l1.set (Int.toNat v3) v2), (IntKind.i64.wrap (v2 + 1)), (IntKind.i64.wrap (v3 + 1))), (some_i H).symm, rfl, rfl⟩)
    · replace H := cond_f h H
      refine T.exit ?_
      refine thn_exit ?_
      exact Pk.go (fr' := [(1, .int .i64 v2)]) (σ' := [.arr .clo 1 (l1.map (c_int .i64))]) _ rfl rfl ⟨trivial, trivial⟩ (.cons 1 _ (.int .i64 v2) _ rfl (.same _) rfl .nil) (thn_exit ⟨(l1, v2), (some_i H).symm, rfl, rfl, rfl⟩)
  · rintro ⟨l1, v2, v3⟩ ⟨l1', v2', v3'⟩; rfl
  · rintro ⟨l1, v2, v3⟩; exact ⟨trivial, trivial⟩
  · rintro ⟨l1, v2, v3⟩; exact (.cons _ _ _ rfl rfl (.cons _ _ _ rfl rfl (.cons _ _ _ rfl rfl .nil)))
  · rcases q9 with ⟨l4, v5⟩
    rintro _ _ _ ⟨rfl, rfl, rfl⟩
    refine inB_here ?_
    refine thn_normal ?_
    refine T.seq ?_
    refine T.region ?_
    refine TL.st rfl rfl rfl (o_move rfl rfl) ?_
    refine TL.st rfl rfl rfl (o_assign rfl rfl) ?_
    refine TL.nil ?_
    refine thn_normal ?_
    refine T.ret ?_
    cases some_i H
    exact ⟨trivial, _, (.tmp _ _ _ _ rfl .nil), ⟨rfl, _, rfl⟩⟩
theorem en_18 (us : Array Value) (w : World) : (callFunc 18 us).run Go.Proofs.Try.prog w = .ok (.enter 18 us) w := enters Go.Proofs.Try.func18 rfl rfl us w
noncomputable def laws_heldIntS_l1 (a0 : (List Int)) : (Int × Int) → Option ((Int × Int) ⊕ (Int ⊕ Int)) := fun s => match s with
  | (v1, v2) => cond (decide (v2 < (a0.length : Int))) ((idx a0 v2).bind fun e6 => cond (e6 != v1) (some (.inr (.inr (-1)))) (some (.inl ((IntKind.i64.wrap (v1 + 1)), (IntKind.i64.wrap (v2 + 1)))))) (some (.inr (.inl v1)))
noncomputable def laws_heldIntS (a0 : (List Int)) (a1 : Int) : Option Int :=
  (loopO (laws_heldIntS_l1 a0) (a1, 0)).bind fun q8 => (match q8 with | .inl v3 => some v3 | .inr q4 => some q4)
theorem laws_heldIntS_p (b0 : Bool) {a0 : (List Int)} {a1 : Int} {R0 : Int} (H : laws_heldIntS a0 a1 = some R0) : Pure Go.Proofs.Try.prog 19 [.im b0 (a0.map (c_int .i64)), .int .i64 a1] (.int .i64 R0) := by
  refine CallT.of_TN (n := 21) Go.Proofs.Try.func19 rfl rfl rfl rfl ?_
  refine T.seq ?_
  refine T.region ?_
  refine TL.st rfl rfl rfl (o_assign rfl rfl) ?_
  refine TL.nil ?_
  refine thn_normal ?_
  refine T.seq ?_
  refine T.seq ?_
  refine T.region ?_
  refine TL.st rfl rfl rfl (o_assign rfl rfl) ?_
  refine TL.nil ?_
  refine thn_normal ?_
  refine T.block ?_
  obtain ⟨q8, h9, H⟩ := bind_s H
  refine T.to (.cons 0 _ (.im b0 (a0.map (c_int .i64))) _ rfl (.same _) rfl (.cons 1 _ (.int .i64 a1) _ rfl (.same _) rfl (.cons 5 _ (.int .i64 0) _ rfl (.same _) rfl .nil))) ?_
  refine T.lp (fun s => match s with | (v1, v2) => [(0, .im b0 (a0.map (c_int .i64))), (1, .int .i64 v1), (5, .int .i64 v2)]) (fun s => match s with | (v1, v2) => []) (fun q ex fr σ => match q with | .inl v3 => ex = .exit 0 ∧ fr = [(1, .int .i64 v3)] ∧ σ = [] | .inr q4 => ex = .ret ∧ RetN Go.Proofs.Try.prog [.tmp 4] (fun v τ => Told τ v (.int .i64 q4)) .ret fr σ) h9 ?_ ?_ ?_ ?_ ?_
  · rintro ⟨v1, v2⟩ y5 H
    refine T.seq ?_
    refine T.seq ?_
    refine T.region ?_
    refine TL.st rfl rfl rfl (o_move rfl rfl) ?_
    refine TL.st rfl rfl rfl (o_move rfl rfl) ?_
    refine TL.st rfl rfl rfl (o_lenL (f := c_int .i64) rfl rfl rfl) ?_
    refine TL.st rfl rfl rfl (o_ari rfl rfl rfl rfl) ?_
    refine TL.nil ?_
    refine thn_normal ?_
    refine T.cond (decide (v2 < (a0.length : Int))) rfl (fun h => ?_) (fun h => ?_)
    · replace H := cond_t h H
      refine T.skip ?_
      refine thn_normal ?_
      refine T.seq ?_
      refine T.block ?_
      refine T.seq ?_
      refine T.seq ?_
      refine T.region ?_
      refine TL.st rfl rfl rfl (o_move rfl rfl) ?_
      refine TL.st rfl rfl rfl (o_move rfl rfl) ?_
      obtain ⟨e6, h7, H⟩ := bind_s H
      refine TL.st rfl rfl rfl (o_ix (f := c_int .i64) rfl rfl tyS_3 rfl rfl h7 rfl) ?_
      refine TL.st rfl rfl rfl (o_loadRf rfl tyS_3 rfl (Nat.le_of_ble_eq_true rfl) rfl) ?_
      refine TL.st rfl rfl rfl (o_move rfl rfl) ?_
      refine TL.st rfl rfl rfl (o_ari rfl rfl rfl rfl) ?_
      refine TL.nil ?_
      refine thn_normal ?_
      refine T.cond ((e6 != v1)) rfl (fun h => ?_) (fun h => ?_)
      · replace H := cond_t h H
        refine T.seq ?_
        refine T.region ?_
        refine TL.st rfl rfl rfl (o_assign rfl rfl) ?_
        refine TL.nil ?_
        refine thn_normal ?_
        refine T.ret ?_
        refine thn_ret ?_
        refine inB_ret ?_
        refine thn_ret ?_
        exact Pk.id (thn_ret ⟨.inr (-1), (some_i H).symm, rfl, ⟨trivial, _, (.tmp _ _ _ _ rfl .nil), (.cl _ rfl)⟩⟩)
      · replace H := cond_f h H
        refine T.skip ?_
        refine thn_normal ?_
        refine T.region ?_
        refine TL.st rfl rfl rfl (o_move rfl rfl) ?_
        refine TL.st rfl rfl rfl (o_ari rfl rfl rfl rfl) ?_
        refine TL.st rfl rfl rfl (o_assign rfl rfl) ?_
        refine TL.nil ?_
        refine inB_normal ?_
        refine thn_normal ?_
        refine T.region ?_
        refine TL.st rfl rfl rfl (o_move rfl rfl) ?_
        refine TL.st rfl rfl rfl (o_ari rfl rfl rfl rfl) ?_
        refine TL.st rfl rfl rfl (o_assign rfl rfl) ?_
        refine TL.nil ?_
        exact Pk.go (fr' := [(0, .im b0 (a0.map (c_int .i64))), (1, .int .i64 (IntKind.i64.wrap (v1 + 1))), (5, .int .i64 (IntKind.i64.wrap (v2 + 1)))]) (σ' := []) _ rfl rfl trivial (.cons 0 _ (.im b0 (a0.map (c_int .i64))) _ rfl (.same _) rfl (.cons 1 _ (.int .i64 (IntKind.i64.wrap (v1 + 1))) _ rfl (.same _) rfl (.cons 5 _ (.int .i64 (IntKind.i64.wrap (v2 + 1))) _ rfl (.same _) rfl .nil))) (thn_normal ⟨((IntKind.i64.wrap (v1 + 1)), (IntKind.i64.wrap (v2 + 1))), (some_i H).symm, rfl, rfl⟩)
    · replace H := cond_f h H
      refine T.exit ?_
      refine thn_exit ?_
      exact Pk.go (fr' := [(1, .int .i64 v1)]) (σ' := []) _ rfl rfl trivial (.cons 1 _ (.int .i64 v1) _ rfl (.same _) rfl .nil) (thn_exit ⟨.inl v1, (some_i H).symm, rfl, rfl, rfl⟩)
  · rintro ⟨v1, v2⟩ ⟨v1', v2'⟩; rfl
  · rintro ⟨v1, v2⟩; exact trivial
  · rintro ⟨v1, v2⟩; exact (.cons _ _ _ rfl rfl (.cons _ _ _ rfl rfl (.cons _ _ _ rfl rfl .nil)))
  · rcases q8 with v3 | q4
    · rintro _ _ _ ⟨rfl, rfl, rfl⟩
      refine inB_here ?_
      refine thn_normal ?_
      refine T.seq ?_
      refine T.region ?_
      refine TL.st rfl rfl rfl (o_move rfl rfl) ?_
      refine TL.st rfl rfl rfl (o_assign rfl rfl) ?_
      refine TL.nil ?_
      refine thn_normal ?_
      refine T.ret ?_
      cases some_i H
      exact ⟨trivial, _, (.tmp _ _ _ _ rfl .nil), (.cl _ rfl)⟩
    · rintro _ fr1 σ1 ⟨rfl, hr⟩
      refine inB_ret ?_
      refine thn_ret ?_
      cases some_i H
      exact hr
theorem en_19 (us : Array Value) (w : World) : (callFunc 19 us).run Go.Proofs.Try.prog w = .ok (.enter 19 us) w := enters Go.Proofs.Try.func19 rfl rfl us w
noncomputable def laws_FnExactRunRecovery (a0 : Int) (a1 : Int) (a2 : (List ByteArray)) (a3 : (List T_laws_RecoverEvent)) : Option Bool :=
  (laws_szStringS a2 1048576).bind fun r1 => cond (decide (r1 < 0)) (some true) ((laws_szRecoverEventS a3 r1).bind fun r3 => cond (decide (r3 < 0)) (some true) ((laws_toStringS a2).bind fun r5 => (laws_toRecoverEventS a3).bind fun r7 => (spec_RunRecovery a0 a1 r5 r7).bind fun r9 => (laws_toStringS a2).bind fun r11 => (laws_toRecoverEventS a3).bind fun r13 => (impl_RunRecovery a0 a1 r11 r13).bind fun r15 => (laws_eqIntS r15 r9).bind fun r17 => cond (!r17) (some false) ((laws_toStringS a2).bind fun r19 => (laws_eqStringS r11 r19).bind fun r21 => cond (!r21) (some false) ((laws_toRecoverEventS a3).bind fun r23 => (laws_eqRecoverEventS r13 r23).bind fun r25 => cond (!r25) (some false) ((laws_markStringSx 1 r11).bind fun q => (match q with | (r27, o28) => (lenEq o28 r11).bind fun u30 => (laws_markRecoverEventSx r27 r13).bind fun q => (match q with | (r32, o33) => (lenEq o33 r13).bind fun u35 => (gdO (!(decide (r32 < 0))) (laws_eqIntS r15 r9)).bind fun r37 => cond (decide (r32 < 0) || (!r37)) (some false) ((laws_markIntSx 1 r15).bind fun q => (match q with | (r39, o40) => (lenEq o40 r15).bind fun u42 => (laws_heldIntS o40 1).bind fun r44 => cond (decide (r44 < 0)) (some false) (cond (r44 != r39) (some false) ((laws_toStringS a2).bind fun r46 => (laws_toRecoverEventS a3).bind fun r48 => (impl_RunRecovery a0 a1 r46 r48).bind fun r50 => (laws_eqIntS r50 r9).bind fun r52 => cond (!r52) (some false) ((laws_heldIntS o40 1).bind fun r54 => cond (decide (r54 < 0)) (some false) (cond (r54 != r39) (some false) (some true))))))))))))))
theorem laws_FnExactRunRecovery_p (b0 : Bool) (b1 : Bool) {a0 : Int} {a1 : Int} {a2 : (List ByteArray)} {a3 : (List T_laws_RecoverEvent)} {R0 : Bool} (H : laws_FnExactRunRecovery a0 a1 a2 a3 = some R0) : Pure Go.Proofs.Try.prog 4 [.int .i64 a0, .int .i64 a1, .im b0 (a2.map (c_str)), .im b1 (a3.map (c_T_laws_RecoverEvent false))] (.bool R0) := by
  refine CallT.of_TN (n := 102) Go.Proofs.Try.func4 rfl rfl rfl rfl ?_
  refine T.seq ?_
  refine T.region ?_
  refine TL.st rfl rfl rfl (o_assign rfl rfl) ?_
  refine TL.nil ?_
  refine thn_normal ?_
  refine T.seq ?_
  refine T.region ?_
  refine TL.st rfl rfl rfl (o_assign rfl rfl) ?_
  refine TL.nil ?_
  refine thn_normal ?_
  refine T.seq ?_
  refine T.region ?_
  refine TL.st rfl rfl rfl (o_move rfl rfl) ?_
  refine TL.st rfl rfl rfl (o_move rfl rfl) ?_
  obtain ⟨r1, h2, H⟩ := bind_s H
  refine TL.st rfl rfl rfl (o_callP rfl en_9 rfl rfl (.cons _ _ _ _ (.imv _ _) (.cons _ _ _ _ (.cl _ rfl) .nil)) (laws_szStringS_p b0 h2)) ?_
  refine TL.st rfl rfl rfl (o_assign rfl rfl) ?_
  refine TL.nil ?_
  refine thn_normal ?_
  refine T.seq ?_
  refine T.seq ?_
  refine T.region ?_
  refine TL.st rfl rfl rfl (o_move rfl rfl) ?_
  refine TL.st rfl rfl rfl (o_ari rfl rfl rfl rfl) ?_
  refine TL.nil ?_
  refine thn_normal ?_
  refine T.cond (decide (r1 < 0)) rfl (fun h => ?_) (fun h => ?_)
  · replace H := cond_t h H
    refine T.seq ?_
    refine T.region ?_
    refine TL.st rfl rfl rfl (o_assign rfl rfl) ?_
    refine TL.nil ?_
    refine thn_normal ?_
    refine T.ret ?_
    refine thn_ret ?_
    cases some_i H
    exact ⟨trivial, _, (.tmp _ _ _ _ rfl .nil), (.cl _ rfl)⟩
  · replace H := cond_f h H
    refine T.skip ?_
    refine thn_normal ?_
    refine T.seq ?_
    refine T.region ?_
    refine TL.st rfl rfl rfl (o_move rfl rfl) ?_
    refine TL.st rfl rfl rfl (o_move rfl rfl) ?_
    obtain ⟨r3, h4, H⟩ := bind_s H
    refine TL.st rfl rfl rfl (o_callP rfl en_10 rfl rfl (.cons _ _ _ _ (.imv _ _) (.cons _ _ _ _ (.cl _ rfl) .nil)) (laws_szRecoverEventS_p b1 h4)) ?_
    refine TL.st rfl rfl rfl (o_assign rfl rfl) ?_
    refine TL.nil ?_
    refine thn_normal ?_
    refine T.seq ?_
    refine T.seq ?_
    refine T.region ?_
    refine TL.st rfl rfl rfl (o_move rfl rfl) ?_
    refine TL.st rfl rfl rfl (o_ari rfl rfl rfl rfl) ?_
    refine TL.nil ?_
    refine thn_normal ?_
    refine T.cond (decide (r3 < 0)) rfl (fun h => ?_) (fun h => ?_)
    · replace H := cond_t h H
      refine T.seq ?_
      refine T.region ?_
      refine TL.st rfl rfl rfl (o_assign rfl rfl) ?_
      refine TL.nil ?_
      refine thn_normal ?_
      refine T.ret ?_
      refine thn_ret ?_
      cases some_i H
      exact ⟨trivial, _, (.tmp _ _ _ _ rfl .nil), (.cl _ rfl)⟩
    · replace H := cond_f h H
      refine T.skip ?_
      refine thn_normal ?_
      refine T.seq ?_
      refine T.region ?_
      refine TL.st rfl rfl rfl (o_move rfl rfl) ?_
      refine TL.st rfl rfl rfl (o_move rfl rfl) ?_
      refine TL.st rfl rfl rfl (o_move rfl rfl) ?_
      obtain ⟨r5, h6, H⟩ := bind_s H
      refine TL.st rfl rfl rfl (o_callP rfl en_11 rfl rfl (.cons _ _ _ _ (.imv _ _) .nil) (laws_toStringS_p b0 h6)) ?_
      refine TL.st rfl rfl rfl (o_move rfl rfl) ?_
      obtain ⟨r7, h8, H⟩ := bind_s H
      refine TL.st rfl rfl rfl (o_callP rfl en_12 rfl rfl (.cons _ _ _ _ (.imv _ _) .nil) (laws_toRecoverEventS_p b1 h8)) ?_
      obtain ⟨r9, h10, H⟩ := bind_s H
      refine TL.st rfl rfl rfl (o_callP rfl en_8 rfl rfl (.cons _ _ _ _ (.cl _ rfl) (.cons _ _ _ _ (.cl _ rfl) (.cons _ _ _ _ (.cl _ rfl) (.cons _ _ _ _ (.cl _ rfl) .nil)))) (spec_RunRecovery_p false false h10)) ?_
      refine TL.st rfl rfl rfl (o_assign rfl rfl) ?_
      refine TL.nil ?_
      refine thn_normal ?_
      refine T.seq ?_
      refine T.region ?_
      refine TL.st rfl rfl rfl (o_move rfl rfl) ?_
      obtain ⟨r11, h12, H⟩ := bind_s H
      refine TL.st rfl rfl rfl (o_callOwn rfl en_11 rfl rfl (.cons _ _ _ _ (.imv _ _) .nil) (laws_toStringS_o b0 h12)) ?_
      refine TL.st rfl rfl rfl (o_assign rfl rfl) ?_
      refine TL.nil ?_
      refine thn_normal ?_
      refine T.seq ?_
      refine T.region ?_
      refine TL.st rfl rfl rfl (o_move rfl rfl) ?_
      obtain ⟨r13, h14, H⟩ := bind_s H
      refine TL.st rfl rfl rfl (o_callOwn rfl en_12 rfl rfl (.cons _ _ _ _ (.imv _ _) .nil) (laws_toRecoverEventS_o b1 h14)) ?_
      refine TL.st rfl rfl rfl (o_assign rfl rfl) ?_
      refine TL.nil ?_
      refine thn_normal ?_
      refine T.seq ?_
      refine T.region ?_
      refine TL.st rfl rfl rfl (o_move rfl rfl) ?_
      refine TL.st rfl rfl rfl (o_move rfl rfl) ?_
      refine TL.st rfl rfl rfl (o_move rfl rfl) ?_
      refine TL.st rfl rfl rfl (o_move rfl rfl) ?_
      obtain ⟨r15, h16, H⟩ := bind_s H
      refine TL.st rfl rfl rfl (o_callOwn rfl en_6 rfl rfl (.cons _ _ _ _ (.cl _ rfl) (.cons _ _ _ _ (.cl _ rfl) (.cons _ _ _ _ (.own rfl (by decide) rfl) (.cons _ _ _ _ (.own rfl (by decide) rfl) .nil)))) (impl_RunRecovery_o true true h16)) ?_
      refine TL.st rfl rfl rfl (o_assign rfl rfl) ?_
      refine TL.nil ?_
      refine thn_normal ?_
      refine T.seq ?_
      refine T.seq ?_
      refine T.region ?_
      refine TL.st rfl rfl rfl (o_move rfl rfl) ?_
      refine TL.st rfl rfl rfl (o_move rfl rfl) ?_
      obtain ⟨r17, h18, H⟩ := bind_s H
      refine TL.st rfl rfl rfl (o_callP rfl en_13 rfl rfl (.cons _ _ _ _ (.own rfl (by decide) rfl) (.cons _ _ _ _ (.cl _ rfl) .nil)) (laws_eqIntS_p true false h18)) ?_
      refine TL.st rfl rfl rfl (o_not rfl rfl) ?_
      refine TL.nil ?_
      refine thn_normal ?_
      refine T.cond ((!r17)) rfl (fun h => ?_) (fun h => ?_)
      · replace H := cond_t h H
        refine T.seq ?_
        refine T.region ?_
        refine TL.st rfl rfl rfl (o_assign rfl rfl) ?_
        refine TL.nil ?_
        refine thn_normal ?_
        refine T.ret ?_
        refine thn_ret ?_
        cases some_i H
        exact ⟨trivial, _, (.tmp _ _ _ _ rfl .nil), (.cl _ rfl)⟩
      · replace H := cond_f h H
        refine T.skip ?_
        refine thn_normal ?_
        refine T.seq ?_
        refine T.seq ?_
        refine T.region ?_
        refine TL.st rfl rfl rfl (o_move rfl rfl) ?_
        refine TL.st rfl rfl rfl (o_move rfl rfl) ?_
        obtain ⟨r19, h20, H⟩ := bind_s H
        refine TL.st rfl rfl rfl (o_callP rfl en_11 rfl rfl (.cons _ _ _ _ (.imv _ _) .nil) (laws_toStringS_p b0 h20)) ?_
        obtain ⟨r21, h22, H⟩ := bind_s H
        refine TL.st rfl rfl rfl (o_callP rfl en_14 rfl rfl (.cons _ _ _ _ (.own rfl (by decide) rfl) (.cons _ _ _ _ (.cl _ rfl) .nil)) (laws_eqStringS_p true false h22)) ?_
        refine TL.st rfl rfl rfl (o_not rfl rfl) ?_
        refine TL.nil ?_
        refine thn_normal ?_
        refine T.cond ((!r21)) rfl (fun h => ?_) (fun h => ?_)
        · replace H := cond_t h H
          refine T.seq ?_
          refine T.region ?_
          refine TL.st rfl rfl rfl (o_assign rfl rfl) ?_
          refine TL.nil ?_
          refine thn_normal ?_
          refine T.ret ?_
          refine thn_ret ?_
          cases some_i H
          exact ⟨trivial, _, (.tmp _ _ _ _ rfl .nil), (.cl _ rfl)⟩
        · replace H := cond_f h H
          refine T.skip ?_
          refine thn_normal ?_
          refine T.seq ?_
          refine T.seq ?_
          refine T.region ?_
          refine TL.st rfl rfl rfl (o_move rfl rfl) ?_
          refine TL.st rfl rfl rfl (o_move rfl rfl) ?_
          obtain ⟨r23, h24, H⟩ := bind_s H
          refine TL.st rfl rfl rfl (o_callP rfl en_12 rfl rfl (.cons _ _ _ _ (.imv _ _) .nil) (laws_toRecoverEventS_p b1 h24)) ?_
          obtain ⟨r25, h26, H⟩ := bind_s H
          refine TL.st rfl rfl rfl (o_callP rfl en_15 rfl rfl (.cons _ _ _ _ (.own rfl (by decide) rfl) (.cons _ _ _ _ (.cl _ rfl) .nil)) (laws_eqRecoverEventS_p true false h26)) ?_
          refine TL.st rfl rfl rfl (o_not rfl rfl) ?_
          refine TL.nil ?_
          refine thn_normal ?_
          refine T.cond ((!r25)) rfl (fun h => ?_) (fun h => ?_)
          · replace H := cond_t h H
            refine T.seq ?_
            refine T.region ?_
            refine TL.st rfl rfl rfl (o_assign rfl rfl) ?_
            refine TL.nil ?_
            refine thn_normal ?_
            refine T.ret ?_
            refine thn_ret ?_
            cases some_i H
            exact ⟨trivial, _, (.tmp _ _ _ _ rfl .nil), (.cl _ rfl)⟩
          · replace H := cond_f h H
            refine T.skip ?_
            refine thn_normal ?_
            refine T.seq ?_
            refine T.region ?_
            refine TL.st rfl rfl rfl (o_assign rfl rfl) ?_
            refine TL.nil ?_
            refine thn_normal ?_
            refine T.seq ?_
            refine T.region ?_
            refine TL.st rfl rfl rfl (o_move rfl rfl) ?_
            refine TL.st rfl rfl rfl (o_move rfl rfl) ?_
            obtain ⟨⟨r27, o28⟩, h29, H⟩ := bind_s H
            obtain ⟨u30, h31, H⟩ := bind_s H
            refine TL.st rfl rfl rfl (o_callS [0] rfl en_16 rfl rfl (laws_markStringSx_p  h29) rfl (by decide) (.cons _ _ _ _ rfl .nil) rfl rfl rfl) ?_
            refine TL.conv (Cs.eqV (t := 11) (v' := .hd 0 (o28.map (c_str)).length 0 (o28.map (c_str)).length) rfl (hd_len _ (lenEq_s h31))) ?_
            refine TL.conv (Cs.eqV (t := 36) (v' := .hd 0 (o28.map (c_str)).length 0 (o28.map (c_str)).length) rfl (hd_len _ (lenEq_s h31))) ?_
            refine TL.conv (Cs.eqV (t := 41) (v' := .hd 0 (o28.map (c_str)).length 0 (o28.map (c_str)).length) rfl (hd_len _ (lenEq_s h31))) ?_
            refine TL.conv (Cs.eqV (t := 48) (v' := .hd 0 (o28.map (c_str)).length 0 (o28.map (c_str)).length) rfl (hd_len _ (lenEq_s h31))) ?_
            refine TL.conv (Cs.eqV (t := 58) (v' := .hd 0 (o28.map (c_str)).length 0 (o28.map (c_str)).length) rfl (hd_len _ (lenEq_s h31))) ?_
            refine TL.st rfl rfl rfl (o_assign rfl rfl) ?_
            refine TL.nil ?_
            refine thn_normal ?_
            refine T.seq ?_
            refine T.region ?_
            refine TL.st rfl rfl rfl (o_move rfl rfl) ?_
            refine TL.st rfl rfl rfl (o_move rfl rfl) ?_
            obtain ⟨⟨r32, o33⟩, h34, H⟩ := bind_s H
            obtain ⟨u35, h36, H⟩ := bind_s H
            refine TL.st rfl rfl rfl (o_callS [1] rfl en_17 rfl rfl (laws_markRecoverEventSx_p  h34) rfl (by decide) (.cons _ _ _ _ rfl .nil) rfl rfl rfl) ?_
            refine TL.conv (Cs.eqV (t := 12) (v' := .hd 1 (o33.map (c_T_impl_RecoverEvent false)).length 0 (o33.map (c_T_impl_RecoverEvent false)).length) rfl (hd_len _ (lenEq_s h36))) ?_
            refine TL.conv (Cs.eqV (t := 38) (v' := .hd 1 (o33.map (c_T_impl_RecoverEvent false)).length 0 (o33.map (c_T_impl_RecoverEvent false)).length) rfl (hd_len _ (lenEq_s h36))) ?_
            refine TL.conv (Cs.eqV (t := 42) (v' := .hd 1 (o33.map (c_T_impl_RecoverEvent false)).length 0 (o33.map (c_T_impl_RecoverEvent false)).length) rfl (hd_len _ (lenEq_s h36))) ?_
            refine TL.conv (Cs.eqV (t := 53) (v' := .hd 1 (o33.map (c_T_impl_RecoverEvent false)).length 0 (o33.map (c_T_impl_RecoverEvent false)).length) rfl (hd_len _ (lenEq_s h36))) ?_
            refine TL.conv (Cs.eqV (t := 61) (v' := .hd 1 (o33.map (c_T_impl_RecoverEvent false)).length 0 (o33.map (c_T_impl_RecoverEvent false)).length) rfl (hd_len _ (lenEq_s h36))) ?_
            refine TL.st rfl rfl rfl (o_assign rfl rfl) ?_
            refine TL.nil ?_
            refine thn_normal ?_
            refine T.seq ?_
            refine T.seq ?_
            refine T.region ?_
            refine TL.st rfl rfl rfl (o_move rfl rfl) ?_
            refine TL.st rfl rfl rfl (o_ari rfl rfl rfl rfl) ?_
            refine TL.st rfl rfl rfl (o_move rfl rfl) ?_
            refine TL.gcq rfl rfl rfl (.bool _) rfl rfl (fun h => o_move rfl rfl) ?_
            refine TL.gcq rfl rfl rfl (.bool _) rfl rfl (fun h => o_move rfl rfl) ?_
            obtain ⟨r37, h38, H⟩ := bind_s H
            refine TL.gcq rfl rfl rfl (.bool _) rfl rfl (fun h => o_callP rfl en_13 rfl (evl_2 (gv h rfl) (gv h rfl)) (.cons _ _ _ _ (.own rfl (by decide) rfl) (.cons _ _ _ _ (.cl _ rfl) .nil)) (laws_eqIntS_p true false (gdO_t h38 h))) ?_
            refine TL.gcq rfl rfl rfl (.bool _) rfl rfl (fun h => o_not rfl (gv h rfl)) ?_
            refine TL.st rfl rfl rfl (o_or rfl rfl rfl rfl (fun k => Gd_t k)) ?_
            refine TL.nil ?_
            refine thn_normal ?_
            refine T.cond ((decide (r32 < 0) || (!r37))) rfl (fun h => ?_) (fun h => ?_)
            · replace H := cond_t h H
              refine T.seq ?_
              refine T.region ?_
              refine TL.st rfl rfl rfl (o_assign rfl rfl) ?_
              refine TL.nil ?_
              refine thn_normal ?_
              refine T.ret ?_
              refine thn_ret ?_
              cases some_i H
              exact ⟨trivial, _, (.tmp _ _ _ _ rfl .nil), (.cl _ rfl)⟩
            · replace H := cond_f h H
              refine T.skip ?_
              refine thn_normal ?_
              refine T.seq ?_
              refine T.region ?_
              refine TL.st rfl rfl rfl (o_assign rfl rfl) ?_
              refine TL.nil ?_
              refine thn_normal ?_
              refine T.seq ?_
              refine T.region ?_
              refine TL.st rfl rfl rfl (o_move rfl rfl) ?_
              refine TL.st rfl rfl rfl (o_move rfl rfl) ?_
              obtain ⟨⟨r39, o40⟩, h41, H⟩ := bind_s H
              obtain ⟨u42, h43, H⟩ := bind_s H
              refine TL.st rfl rfl rfl (o_callS [2] rfl en_18 rfl rfl (laws_markIntSx_p  h41) rfl (by decide) (.cons _ _ _ _ rfl .nil) rfl rfl rfl) ?_
              refine TL.conv (Cs.eqV (t := 13) (v' := .hd 2 (o40.map (c_int .i64)).length 0 (o40.map (c_int .i64)).length) rfl (hd_len _ (lenEq_s h43))) ?_
              refine TL.conv (Cs.eqV (t := 43) (v' := .hd 2 (o40.map (c_int .i64)).length 0 (o40.map (c_int .i64)).length) rfl (hd_len _ (lenEq_s h43))) ?_
              refine TL.conv (Cs.eqV (t := 44) (v' := .hd 2 (o40.map (c_int .i64)).length 0 (o40.map (c_int .i64)).length) rfl (hd_len _ (lenEq_s h43))) ?_
              refine TL.conv (Cs.eqV (t := 72) (v' := .hd 2 (o40.map (c_int .i64)).length 0 (o40.map (c_int .i64)).length) rfl (hd_len _ (lenEq_s h43))) ?_
              refine TL.st rfl rfl rfl (o_assign rfl rfl) ?_
              refine TL.nil ?_
              refine thn_normal ?_
              refine T.seq ?_
              refine T.region ?_
              refine TL.st rfl rfl rfl (o_assign rfl rfl) ?_
              refine TL.nil ?_
              refine thn_normal ?_
              refine T.seq ?_
              refine T.region ?_
              refine TL.st rfl rfl rfl (o_move rfl rfl) ?_
              refine TL.st rfl rfl rfl (o_move rfl rfl) ?_
              obtain ⟨r44, h45, H⟩ := bind_s H
              refine TL.st rfl rfl rfl (o_callP rfl en_19 rfl rfl (.cons _ _ _ _ (.own rfl (by decide) rfl) (.cons _ _ _ _ (.cl _ rfl) .nil)) (laws_heldIntS_p true h45)) ?_
              refine TL.st rfl rfl rfl (o_assign rfl rfl) ?_
              refine TL.nil ?_
              refine thn_normal ?_
              refine T.seq ?_
              refine T.seq ?_
              refine T.region ?_
              refine TL.st rfl rfl rfl (o_move rfl rfl) ?_
              refine TL.st rfl rfl rfl (o_ari rfl rfl rfl rfl) ?_
              refine TL.nil ?_
              refine thn_normal ?_
              refine T.cond (decide (r44 < 0)) rfl (fun h => ?_) (fun h => ?_)
              · replace H := cond_t h H
                refine T.seq ?_
                refine T.region ?_
                refine TL.st rfl rfl rfl (o_assign rfl rfl) ?_
                refine TL.nil ?_
                refine thn_normal ?_
                refine T.ret ?_
                refine thn_ret ?_
                cases some_i H
                exact ⟨trivial, _, (.tmp _ _ _ _ rfl .nil), (.cl _ rfl)⟩
              · replace H := cond_f h H
                refine T.skip ?_
                refine thn_normal ?_
                refine T.seq ?_
                refine T.seq ?_
                refine T.region ?_
                refine TL.st rfl rfl rfl (o_move rfl rfl) ?_
                refine TL.st rfl rfl rfl (o_move rfl rfl) ?_
                refine TL.st rfl rfl rfl (o_ari rfl rfl rfl rfl) ?_
                refine TL.nil ?_
                refine thn_normal ?_
                refine T.cond ((r44 != r39)) rfl (fun h => ?_) (fun h => ?_)
                · replace H := cond_t h H
                  refine T.seq ?_
                  refine T.region ?_
                  refine TL.st rfl rfl rfl (o_assign rfl rfl) ?_
                  refine TL.nil ?_
                  refine thn_normal ?_
                  refine T.ret ?_
                  refine thn_ret ?_
                  cases some_i H
                  exact ⟨trivial, _, (.tmp _ _ _ _ rfl .nil), (.cl _ rfl)⟩
                · replace H := cond_f h H
                  refine T.skip ?_
                  refine thn_normal ?_
                  refine T.seq ?_
                  refine T.region ?_
                  refine TL.st rfl rfl rfl (o_move rfl rfl) ?_
                  refine TL.st rfl rfl rfl (o_move rfl rfl) ?_
                  refine TL.st rfl rfl rfl (o_move rfl rfl) ?_
                  obtain ⟨r46, h47, H⟩ := bind_s H
                  refine TL.st rfl rfl rfl (o_callP rfl en_11 rfl rfl (.cons _ _ _ _ (.imv _ _) .nil) (laws_toStringS_p b0 h47)) ?_
                  refine TL.st rfl rfl rfl (o_move rfl rfl) ?_
                  obtain ⟨r48, h49, H⟩ := bind_s H
                  refine TL.st rfl rfl rfl (o_callP rfl en_12 rfl rfl (.cons _ _ _ _ (.imv _ _) .nil) (laws_toRecoverEventS_p b1 h49)) ?_
                  obtain ⟨r50, h51, H⟩ := bind_s H
                  refine TL.st rfl rfl rfl (o_callP rfl en_6 rfl rfl (.cons _ _ _ _ (.cl _ rfl) (.cons _ _ _ _ (.cl _ rfl) (.cons _ _ _ _ (.cl _ rfl) (.cons _ _ _ _ (.cl _ rfl) .nil)))) (impl_RunRecovery_p false false h51)) ?_
                  refine TL.st rfl rfl rfl (o_assign rfl rfl) ?_
                  refine TL.nil ?_
                  refine thn_normal ?_
                  refine T.seq ?_
                  refine T.seq ?_
                  refine T.region ?_
                  refine TL.st rfl rfl rfl (o_move rfl rfl) ?_
                  refine TL.st rfl rfl rfl (o_move rfl rfl) ?_
                  obtain ⟨r52, h53, H⟩ := bind_s H
                  refine TL.st rfl rfl rfl (o_callP rfl en_13 rfl rfl (.cons _ _ _ _ (.cl _ rfl) (.cons _ _ _ _ (.cl _ rfl) .nil)) (laws_eqIntS_p false false h53)) ?_
                  refine TL.st rfl rfl rfl (o_not rfl rfl) ?_
                  refine TL.nil ?_
                  refine thn_normal ?_
                  refine T.cond ((!r52)) rfl (fun h => ?_) (fun h => ?_)
                  · replace H := cond_t h H
                    refine T.seq ?_
                    refine T.region ?_
                    refine TL.st rfl rfl rfl (o_assign rfl rfl) ?_
                    refine TL.nil ?_
                    refine thn_normal ?_
                    refine T.ret ?_
                    refine thn_ret ?_
                    cases some_i H
                    exact ⟨trivial, _, (.tmp _ _ _ _ rfl .nil), (.cl _ rfl)⟩
                  · replace H := cond_f h H
                    refine T.skip ?_
                    refine thn_normal ?_
                    refine T.seq ?_
                    refine T.region ?_
                    refine TL.st rfl rfl rfl (o_assign rfl rfl) ?_
                    refine TL.nil ?_
                    refine thn_normal ?_
                    refine T.seq ?_
                    refine T.region ?_
                    refine TL.st rfl rfl rfl (o_move rfl rfl) ?_
                    refine TL.st rfl rfl rfl (o_move rfl rfl) ?_
                    obtain ⟨r54, h55, H⟩ := bind_s H
                    refine TL.st rfl rfl rfl (o_callP rfl en_19 rfl rfl (.cons _ _ _ _ (.own rfl (by decide) rfl) (.cons _ _ _ _ (.cl _ rfl) .nil)) (laws_heldIntS_p true h55)) ?_
                    refine TL.st rfl rfl rfl (o_assign rfl rfl) ?_
                    refine TL.nil ?_
                    refine thn_normal ?_
                    refine T.seq ?_
                    refine T.seq ?_
                    refine T.region ?_
                    refine TL.st rfl rfl rfl (o_move rfl rfl) ?_
                    refine TL.st rfl rfl rfl (o_ari rfl rfl rfl rfl) ?_
                    refine TL.nil ?_
                    refine thn_normal ?_
                    refine T.cond (decide (r54 < 0)) rfl (fun h => ?_) (fun h => ?_)
                    · replace H := cond_t h H
                      refine T.seq ?_
                      refine T.region ?_
                      refine TL.st rfl rfl rfl (o_assign rfl rfl) ?_
                      refine TL.nil ?_
                      refine thn_normal ?_
                      refine T.ret ?_
                      refine thn_ret ?_
                      cases some_i H
                      exact ⟨trivial, _, (.tmp _ _ _ _ rfl .nil), (.cl _ rfl)⟩
                    · replace H := cond_f h H
                      refine T.skip ?_
                      refine thn_normal ?_
                      refine T.seq ?_
                      refine T.seq ?_
                      refine T.region ?_
                      refine TL.st rfl rfl rfl (o_move rfl rfl) ?_
                      refine TL.st rfl rfl rfl (o_move rfl rfl) ?_
                      refine TL.st rfl rfl rfl (o_ari rfl rfl rfl rfl) ?_
                      refine TL.nil ?_
                      refine thn_normal ?_
                      refine T.cond ((r54 != r39)) rfl (fun h => ?_) (fun h => ?_)
                      · replace H := cond_t h H
                        refine T.seq ?_
                        refine T.region ?_
                        refine TL.st rfl rfl rfl (o_assign rfl rfl) ?_
                        refine TL.nil ?_
                        refine thn_normal ?_
                        refine T.ret ?_
                        refine thn_ret ?_
                        cases some_i H
                        exact ⟨trivial, _, (.tmp _ _ _ _ rfl .nil), (.cl _ rfl)⟩
                      · replace H := cond_f h H
                        refine T.skip ?_
                        refine thn_normal ?_
                        refine T.seq ?_
                        refine T.region ?_
                        refine TL.st rfl rfl rfl (o_assign rfl rfl) ?_
                        refine TL.nil ?_
                        refine thn_normal ?_
                        refine T.ret ?_
                        cases some_i H
                        exact ⟨trivial, _, (.tmp _ _ _ _ rfl .nil), (.cl _ rfl)⟩
end Go.G36.GWalk
