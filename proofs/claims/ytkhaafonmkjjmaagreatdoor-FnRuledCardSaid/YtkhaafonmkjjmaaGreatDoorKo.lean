/- Loops as functions without fuel; values told more weakly; appends in one form. -/
import Derived.Test.YtkhaafonmkjjmaaGreatDoorKn
namespace Go.G36
variable [Genv]
set_option linter.all false
open Go

def    Ei {S R : Type} (step : S → Option (S ⊕ R)) : Nat → S → Option R
  | 0,_=>none
  | n+1,s=>match step s with
    | none=>none
    | some (.inl s')=>Ei step n s'
    | some (.inr r)=>some r

theorem iterL_succ{S R:Type}{step:S→Option (S⊕R)}:∀ (n:Nat) (s:S) (r:R),Ei step n s=some r→Ei step (n+1) s=some r
  | 0,s,r,h=>by simp[Ei]at h
  | n + 1, s, r, h => by
    rw[Ei]at h ⊢
    cases hs:step s with
    | none=>rw[hs]at h;cases h
    | some x =>
      rw[hs]at h
      cases x with
      | inl s'=>exact iterL_succ n s' r h
      | inr q=>exact h
theorem iterL_le{S R:Type}{step:S→Option (S⊕R)}{n m:Nat}(h:n≤m){s:S}{r:R}(hr:Ei step n s=some r):Ei step m s=some r:=by
  induction h with
  | refl=>exact hr
  | step _ ih=>exact iterL_succ _ s r ih

open Classical in
noncomputable def loopO{S R:Type}(step:S→Option (S⊕R))(s:S):Option R :=
  if h:∃ n r,Ei step n s=some r then Ei step (Classical.choose h) s else none

theorem loopO_of{S R:Type}{step:S→Option (S⊕R)}{n:Nat}{s:S}{r:R}(h:Ei step n s=some r):loopO step s=some r:=by
  have hx:∃ n r,Ei step n s=some r:=⟨n,r,h⟩
  unfold loopO
  rw[dif_pos hx]
  obtain⟨r',hr'⟩:=Classical.choose_spec hx
  rw[hr']
  have h1:=iterL_le (Nat.le_max_left n (Classical.choose hx)) h
  have h2:=iterL_le (Nat.le_max_right n (Classical.choose hx)) hr'
  rw[h1]at h2
  exact h2.symm
theorem loopO_ex{S R:Type}{step:S→Option (S⊕R)}{s:S}{r:R}(h:loopO step s=some r):∃ n,Ei step n s=some r:=by
  unfold loopO at h
  split at h
  · exact⟨_,h⟩
  · cases h

theorem loopO_eq {S R : Type} (step : S → Option (S ⊕ R)) (s : S) : loopO step s = match step s with
    | none=>none
    | some (.inl s')=>loopO step s'
    | some (.inr r)=>some r:=by
  cases hs:step s with
  | none =>
    unfold loopO
    rw[dif_neg]
    rintro⟨n,r,h⟩
    cases n with
    | zero=>simp[Ei]at h
    | succ n=>rw[Ei,hs]at h;cases h
  | some x =>
    cases x with
    | inr r=>exact loopO_of (n:=1) (by rw[Ei,hs])
    | inl s' =>
      simp only
      cases h:loopO step s' with
      | some r =>
        obtain⟨n,hn⟩:=loopO_ex h
        exact loopO_of (n:=n+1) (by rw[Ei,hs];exact hn)
      | none =>
        unfold loopO
        rw[dif_neg]
        rintro⟨n,r,hn⟩
        cases n with
        | zero=>simp[Ei]at hn
        | succ n =>
          rw[Ei,hs]at hn
          rw[loopO_of hn]at h
          cases h

theorem D1{S R:Type}{step:S→Option (S⊕R)}{s s':S}(h:step s=some (.inl s')):loopO step s=loopO step s':=by rw[loopO_eq,h]
theorem Cc{S R:Type}{step:S→Option (S⊕R)}{s:S}{r:R}(h:step s=some (.inr r)):loopO step s=some r:=by rw[loopO_eq,h]

inductive Sub (N:Nat) (fr:Fr):Fr→Prop where
  | nil:Sub N fr []
  | cons (t:Nat) (v:V) (r:Fr) (h:lk fr t=some v) (hb:bel N v=true) (hr:Sub N fr r):Sub N fr ((t,v) :: r)

theorem Sub.get{N:Nat}{fr fr':Fr}(h:Sub N fr fr'):∀ t v,lk fr' t=some v→lk fr t=some v∧bel N v=true:=by
  induction h with
  | nil=>intro t v h;simp[lk]at h
  | cons t v r h hb _ ih =>
    intro t' v' hl
    simp only[lk]at hl
    split at hl
    · rename_i he
      injection hl with hl;subst hl
      rw[← Nat.eq_of_beq_eq_true he]
      exact⟨h,hb⟩
    · exact ih t' v' hl

theorem T.loopO {N : Nat} {P : Program} {n : Nat} {c : Code} {S R : Type} {step : S → Option (S ⊕ R)} (Fs : S → Fr) (σs : S → ASt) {s0 : S} {r : R} (QQ : R →   D5) (H : G36.loopO step s0 = some r)
    (hi:∀ s s',step s=some (.inl s')→T P N n c (Fs s) (σs s) (thn (fun fr' σ'=>Shr (σs s).length (σs s) fr' σ' (Fs s') (σs s')) fun _ _ _=>False))
    (hr:∀ s q,step s=some (.inr q)→T P N n c (Fs s) (σs s) (thn (fun _ _=>False) (QQ q))):T P N n (.loop c) (Fs s0) (σs s0) (QQ r):=by
  obtain⟨k,hk⟩:=loopO_ex H
  refine T.loopD (fun k fr σ=>∃ s,fr=Fs s∧σ = σs s∧Ei step k s=some r) k ⟨s0,rfl,rfl,hk⟩ ?_
  rintro k fr σ ⟨s,rfl,rfl,hk⟩
  cases k with
  | zero=>simp[Ei]at hk
  | succ k =>
    rw[Ei]at hk
    cases hs:step s with
    | none=>rw[hs]at hk;cases hk
    | some x =>
      rw[hs]at hk
      cases x with
      | inl s' =>
        refine (hi s s' hs).mono fun ex fr' σ' h=>?_
        cases ex with
        | normal=>exact⟨k,Fs s',σs s',by omega,⟨s',rfl,rfl,hk⟩,h⟩
        | ret=>exact h.elim
        | exit id=>exact h.elim
      | inr q =>
        injection hk with hk
        subst hk
        refine (hr s q hs).mono fun ex fr' σ' h=>?_
        cases ex with
        | normal=>exact h.elim
        | ret=>exact h
        | exit id=>exact h

inductive Wk:V→V→Prop where
  | same (v:V):Wk v v
  | nil:Wk .nilS (.im false [])
  | any (v:V):Wk v .any
  | agg (cs ds:List V) (hl:cs.length=ds.length) (h:∀ (i:Nat) (c d:V),cs[i]? = some c→ds[i]? = some d→Wk c d):Wk (.agg cs) (.agg ds)
  | tup (cs ds:List V) (hl:cs.length=ds.length) (h:∀ (i:Nat) (c d:V),cs[i]? = some c→ds[i]? = some d→Wk c d):Wk (.tup cs) (.tup ds)

inductive WkL:List V→List V→Prop where
  | nil:WkL [] []
  | cons (c d:V) (cs ds:List V) (h:Wk c d) (t:WkL cs ds):WkL (c :: cs) (d :: ds)
theorem WkL.get{cs ds:List V}(h:WkL cs ds):cs.length=ds.length∧∀ (i:Nat) (c d:V),cs[i]? = some c→ds[i]? = some d→Wk c d:=by
  induction h with
  | nil=>simp
  | cons c d cs ds h _ ih =>
    refine⟨by simp[ih.1],fun i x y hx hy=>?_⟩
    cases i with
    | zero=>simp at hx hy;subst hx;subst hy;exact h
    | succ i=>simp at hx hy;exact ih.2 i x y hx hy
theorem Wk.aggL{cs ds:List V}(h:WkL cs ds):Wk (.agg cs) (.agg ds):=.agg cs ds h.get.1 h.get.2
theorem Wk.val{S B:Nat→Prop}{ι:List Loc}{σ:ASt}{w:World}{v v':V}(h:Wk v v'):∀ {u:Value},Val S B (A1 ι σ) w v u→Val S B (A1 ι σ) w v' u:=by
  induction h with
  | same v=>exact fun h=>h
  | nil =>
    intro u h
    rw[h.inv_nilS]
    exact .cv _ _ (.im [] none 0 1 (fun _ _=>undef) (Nat.le_refl _) (fun h=>absurd rfl h) (fun i j row c h=>by simp at h) fun i j row c h=>by simp at h)
  | any v=>exact fun _=>.any _
  | agg cs ds hl _ ih =>
    intro u h
    obtain⟨us,rfl,h1,h2⟩:=h.inv_agg
    refine .agg ds us (by omega) fun i d u hd hu=>?_
    have hi:i<cs.length:=by rw[hl];exact (List.getElem?_eq_some_iff.1 hd).1
    exact ih i cs[i] d (by simp) hd (h2 i cs[i] u (by simp) hu)
  | tup cs ds hl _ ih =>
    intro u h
    obtain⟨us,rfl,h1,h2⟩:=h.inv_tup
    refine .tup ds us (by omega) fun i d u hd hu=>?_
    have hi:i<cs.length:=by rw[hl];exact (List.getElem?_eq_some_iff.1 hd).1
    exact ih i cs[i] d (by simp) hd (h2 i cs[i] u (by simp) hu)

theorem Cs.wk{N:Nat}{n t:Nat}{fr:Fr}{σ:ASt}{v v':V}(ht:lk fr t=some v)(h:Wk v v'):Cs N n fr σ ((t,v') :: fr) σ:=fun S B ι a w hr=>⟨S,ι,hr.retell (h.val (hr.fr t _ ht)),(Fw.refl _ _ _ _).toN⟩

theorem B1.wk{P:Program}{o:Oper}{fr:Fr}{σ σ':ASt}{v v':V}(h:B1 P o fr σ v σ')(hw:Wk v v'):B1 P o fr σ v' σ':=fun S B ι a w he hm next Q hk =>
  h S B ι a w he hm next Q fun u S' ι' w' hv hm' hf=>hk u S' ι' w' (hw.val hv) hm' hf

section
variable {P:Program} {o:Oper} {fr:Fr} {σ:ASt}
theorem o_app{t e:TypeId}{x y:Operand}{p sz:Nat}{m:Md}{xs rows:List (List V)}{s:V}(ys:List (List V))(ho:o.op = .call { callee:=.builtin .append,args:=#[x,y],argTypes:=#[t,t] })(ht:P.underlying t=some (.slice e))
    (hte:TyE P e sz) (hx:Bi fr x=some (.hd p xs.length 0 xs.length)) (hy:Bi fr y=some s) (hs:σ[p]? = some (.arr m sz xs)) (hm0:m.okT e=true) (hr:Di σ s=some rows) (hys:xs++rows=ys) (hrl:∀ row,row∈rows→row.length=sz)
    (hb:ys.length≤4294967296):B1 P o fr σ (.hd p ys.length 0 ys.length) (σ.set p (.arr m sz ys)):=by
  subst hys
  rw[List.length_append]at hb ⊢
  exact o_append ho ht hte hx hy hs (Md.okT_f hm0) (Md.okT_t hm0) rfl hr hrl hb
end
end Go.G36
