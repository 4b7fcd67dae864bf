/- What the library leaves of a list whose neighbours may be alike. -/
import Derived.Test.YtkhaafonmkjjmaaGreatDoorV36a
import Derived.Test.YtkhaafonmkjjmaaGreatDoorFR
import Derived.Test.YtkhaafonmkjjmaaGreatDoorUPb
import Derived.Test.YtkhaafonmkjjmaaGreatDoorUPl
import Derived.Test.YtkhaafonmkjjmaaGreatDoorUPl
import Derived.Test.YtkhaafonmkjjmaaGreatDoorUPl
namespace Go.G36.FR
set_option linter.all false
open Go Go.G36 Go.Proofs Go.G36.MT

theorem bin{a b:ByteArray}(h:a.toList=b.toList):a=b:=by
  rw[Lib.toList_data,Lib.toList_data]at h
  cases a;cases b
  simpa using h
theorem nest_eq(x y:Bc):(x==y)=true↔x=y:=by
  show ((x.Group_.toList==y.Group_.toList)&&((x.Member_.toList==y.Member_.toList)&&true))=true↔_
  cases x;cases y
  simp only[Bool.and_true,Bool.and_eq_true,beq_iff_eq,Bc.mk.injEq]
  exact⟨fun h=>⟨bin h.1,bin h.2⟩,fun h=>⟨by rw[h.1],by rw[h.2]⟩⟩

section
variable {s0:List Bc}
theorem take_last{k:Nat}(h1:1≤k)(hk:k≤s0.length):(dd (s0.take k)).getLast? = some (s0[k - 1]'(by omega)):=by
  rw[dd_last,List.getLast?_eq_getElem?,List.length_take,Nat.min_eq_left hk,List.getElem?_take,if_pos (by omega)]
  simp
theorem take_succ{k:Nat}(hk:k<s0.length):dd (s0.take (k+1))=ddS (dd (s0.take k)) s0[k]:=by
  rw[List.take_succ,List.getElem?_eq_getElem hk]
  exact dd_snoc
theorem step_same{k:Nat}(h1:1≤k)(hk:k<s0.length)(he:s0[k]=s0[k - 1]'(by omega)):dd (s0.take (k+1))=dd (s0.take k):=by
  rw[take_succ hk,ddS_same]
  rw[take_last h1 (by omega),he]
theorem step_new{k:Nat}(h1:1≤k)(hk:k<s0.length)(he:s0[k]≠s0[k - 1]'(by omega)):dd (s0.take (k+1))=dd (s0.take k) ++ [s0[k]]:=by
  rw[take_succ hk,ddS_new]
  rw[take_last h1 (by omega)]
  intro e
  exact he (Option.some.inj e).symm

theorem compact_l2 (hl : s0.length ≤ 100000) {k : Nat} (h1 : 1 ≤ k) (hk : k < s0.length) (h : dd (s0.take (k + 1)) = s0.take k) :
    Ok (loopO (impl_Nest_x_l2 s0 (k:Int)) (s0,(k:Int),1)) fun q=>∃ c:Nat,q.2=(c:Int)∧c≤s0.length∧q.1.length=s0.length∧q.1.take c=dd s0:=by
  refine Ok.loop (fun n st=>∃ m c:Nat,st.2.2=(m:Int)∧st.2.1=(c:Int)∧1≤m∧k+m+n=s0.length∧st.1.length=s0.length∧c+1≤k+m∧st.1.take c=dd (s0.take (k+m))∧∀ j,k+m≤j+1→st.1[j]? = s0[j]?) ?_
    (n:=s0.length - (k+1)) ⟨1,k,rfl,rfl,Nat.le_refl _,by omega,rfl,Nat.le_refl _,h.symm,fun _ _=>rfl⟩
  rintro n ⟨l,c',m'⟩ ⟨m,c,hm,hc,g1,g2,g3,g4,g5,g6⟩
  dsimp only at hm hc g3 g5 g6
  subst hm;subst hc
  unfold impl_Nest_x_l2
  dsimp only
  have hd:decide ((m:Int)<Int.ofNat (Int.toNat ((s0.length:Int) - (k:Int))))=decide (k+m<s0.length):=by
    apply decide_eq_decide.2
    constructor <;> intro h <;> simp at * <;> omega
  rw[hd]
  refine Ok.cond (fun hlt=>?_) (fun hge=>?_)
  · have hlt:=of_decide_eq_true hlt
    have e1:l[k+m]'(by omega)=s0[k+m]:=by
      have:=g6 (k+m) (by omega)
      rw[List.getElem?_eq_getElem (by omega),List.getElem?_eq_getElem hlt]at this
      exact Option.some.inj this
    have e2:l[k+(m - 1)]'(by omega)=s0[k+m - 1]'(by omega):=by
      have:=g6 (k+(m - 1)) (by omega)
      rw[List.getElem?_eq_getElem (by omega),List.getElem?_eq_getElem (by omega)]at this
      have h2:=Option.some.inj this
      rw[h2]
      congr 1
      omega
    have i1:idxP l (k:Int) (s0.length:Int) (m:Int)=some s0[k+m]:=by rw[idxP_get (by omega) (by omega),e1]
    have hw:IntKind.i64.wrap ((m:Int) - 1)=((m - 1:Nat):Int):=by rw[IntWalk.i64_in _ (by omega)];omega
    have i2:idxP l (k:Int) (s0.length:Int) (IntKind.i64.wrap ((m:Int) - 1))=some (s0[k+m - 1]'(by omega)):=by rw[hw,idxP_get (by omega) (by omega),e2]
    have i3:idx l (c:Int)=some (l[c]'(by omega)):=by rw[Bk];simp
    rw[i1,i2]
    simp only[Option.bind_some,i3]
    unfold impl_Nest_x_j1
    have w2:IntKind.i64.wrap ((m:Int)+1)=((m+1:Nat):Int):=by rw[IntWalk.i64_in _ (by omega)];rfl
    have w3:IntKind.i64.wrap ((c:Int)+1)=((c+1:Nat):Int):=by rw[IntWalk.i64_in _ (by omega)];rfl
    rw[w2,w3,Int.toNat_natCast]
    have hkm:k+(m+1)=k+m+1:=by omega
    refine Ok.cond (fun hne=>?_) (fun heq=>?_)
    · have hne:s0[k+m]≠s0[k+m - 1]'(by omega):=fun e=>by
        rw[(nest_eq _ _).2 e]at hne;cases hne
      refine Ok.some ⟨n - 1,by omega,m+1,c+1,rfl,rfl,by omega,by omega,by simpa using g3,by omega,?_,fun j hj=>?_⟩
      · dsimp only
        rw[hkm,step_new (by omega) hlt hne,← g5]
        rw[List.take_succ,List.getElem?_set_self (by omega),List.take_set_of_le (Nat.le_refl _)]
        rfl
      · dsimp only
        rw[List.getElem?_set_ne (by omega)]
        exact g6 j (by omega)
    · have heq:s0[k+m]=s0[k+m - 1]'(by omega):=(nest_eq _ _).1 (by simpa using heq)
      refine Ok.some ⟨n - 1,by omega,m+1,c,rfl,rfl,by omega,by omega,g3,by omega,?_,fun j hj=>g6 j (by omega)⟩
      dsimp only
      rw[hkm,step_same (by omega) hlt heq,g5]
  · have hge:=of_decide_eq_false hge
    refine Ok.some ⟨c,rfl,by omega,g3,?_⟩
    dsimp only
    rw[g5,List.take_of_length_le (by omega)]

theorem compact_ok (hl : s0.length ≤ 100000) : impl_Nest_x s0 = some (dd s0) := by
  unfold impl_Nest_x
  by_cases h2:s0.length<2
  · rw[show decide ((s0.length:Int)<2)=true from decide_eq_true (by omega)]
    show some s0=_
    rcases s0 with _ | ⟨a,_ | ⟨b,r⟩⟩
    · rfl
    · rw[dd_one]
    · simp at h2;omega
  · rw[show decide ((s0.length:Int)<2)=false from decide_eq_false (by omega)]
    have key:Ok (loopO (impl_Nest_x_l1 s0) 1) fun q=>match q with | .inl _=>dd s0=s0 | .inr r=>r=dd s0:=by
      refine Ok.loop (fun n v=>∃ k:Nat,v=(k:Int)∧1≤k∧k+n=s0.length∧dd (s0.take k)=s0.take k) ?_ (n:=s0.length - 1) ⟨1,rfl,Nat.le_refl _,by omega,?_⟩
      · rintro n v ⟨k,rfl,h1,hk,hd⟩
        unfold impl_Nest_x_l1
        dsimp only
        refine Ok.cond (fun hlt=>?_) (fun hge=>?_)
        · have hlt:=of_decide_eq_true hlt
          have hlt:k<s0.length:=by omega
          have hw:IntKind.i64.wrap ((k:Int) - 1)=((k - 1:Nat):Int):=by rw[IntWalk.i64_in _ (by omega)];omega
          have w2:IntKind.i64.wrap ((k:Int)+1)=((k+1:Nat):Int):=by rw[IntWalk.i64_in _ (by omega)];rfl
          have i1:idx s0 (k:Int)=some s0[k]:=by rw[Bk];simp[hlt]
          have i2:idx s0 ((k - 1:Nat):Int)=some (s0[k - 1]'(by omega)):=by rw[Bk];exact List.getElem?_eq_getElem (by omega)
          rw[hw,i1,i2,w2]
          simp only[Option.bind_some]
          refine Ok.cond (fun heq=>?_) (fun hne=>?_)
          · have heq:=(nest_eq _ _).1 heq
            rw[sub_get (Nat.le_of_lt hlt) (Nat.le_refl _),Option.bind_some]
            refine Ok.bind (compact_l2 hl h1 hlt (by rw[step_same h1 hlt heq,hd])) ?_
            rintro⟨l,c'⟩ ⟨c,hc,c1,c2,c3⟩
            dsimp only at hc c2 c3 ⊢
            subst hc
            rw[show (l.length:Int)=((l.length:Nat):Int) from rfl,sub_get (by omega) (Nat.le_refl _),Option.bind_some]
            have hcl:(D9 (⟨e0,e0⟩:Bc) l (c:Int) (l.length:Int)).length=l.length:=clearP_len (by simp;omega)
            rw[show (0:Int)=((0:Nat):Int) from rfl,sub_get (by omega) (by omega),Option.bind_some]
            refine Ok.some ?_
            show _=dd s0
            rw[List.drop_zero,Nat.sub_zero,← c3]
            unfold D9
            rw[Int.toNat_natCast,List.take_append_of_le_length (by rw[List.length_take];omega),List.take_take,Nat.min_self]
          · have hne:s0[k]≠s0[k - 1]'(by omega):=fun e=>by rw[(nest_eq _ _).2 e]at hne;cases hne
            refine Ok.some ⟨n - 1,by omega,k+1,rfl,by omega,by omega,?_⟩
            rw[step_new h1 hlt hne,hd,List.take_succ,List.getElem?_eq_getElem hlt]
            rfl
        · have hge:=of_decide_eq_false hge
          refine Ok.some ?_
          show dd s0=s0
          rwa [List.take_of_length_le (by omega)]at hd
      · have:s0.take 1 = [s0[0]'(by omega)]:=by
          rcases s0 with _ | ⟨a,r⟩
          · simp at h2
          · rfl
        rw[this,dd_one]
    obtain⟨q,hq,hp⟩:=key
    simp only[cond_false]
    rw[hq,Option.bind_some]
    rcases q with _ | r
    · show some s0=_
      rw[show dd s0=s0 from hp]
    · show some r=_
      rw[show r=dd s0 from hp]
end
end Go.G36.FR
namespace Go.G36.FR
set_option linter.all false
open Go Go.G36 Go.Proofs Go.G36.MT

abbrev tlt(a b:ByteArray):Prop:=a.toList<b.toList
theorem tlt_trans(a b c:ByteArray)(h:tlt a b)(k:tlt b c):tlt a c:=List.lt_trans h k
theorem sgn_swap(a b:Int):sgn b a = - sgn a b:=by unfold sgn;repeat' split <;> omega
theorem cmpB_swap:∀ x y:List UInt8,cmpB y x = - cmpB x y
  | [],[]=>by simp[cmpB,sgn]
  | [],b :: y=>by
    show sgn _ _ = - sgn _ _
    exact sgn_swap _ _
  | a :: x,[]=>by
    show sgn _ _ = - sgn _ _
    exact sgn_swap _ _
  | a :: x,b :: y=>by
    simp only[cmpB]
    by_cases h:a=b
    · subst h;rw[if_pos rfl,if_pos rfl];exact cmpB_swap x y
    · rw[if_neg h,if_neg (Ne.symm h)];exact sgn_swap _ _
theorem cmpB_lt(a b:ByteArray):cmpB a.data.toList b.data.toList<0↔tlt a b:=by
  rw[cmpB_neg,bl_eq]
  simp only[decide_eq_true_eq,tlt,Lib.toList_data]
theorem cmpB_gt(a b:ByteArray):cmpB a.data.toList b.data.toList > 0↔tlt b a:=by
  rw[← cmpB_lt,cmpB_swap]
  omega

theorem sorted_l2 {l1 : List ByteArray} {e : ByteArray} (hl : l1.length ≤ 100000) (hs : ∀ a, a ∈ l1 → a.size < big) (he : e.size < big) :
    Ok (loopO (spec_l5Sorted_l2 l1 e) (l1.length:Int)) fun v=>∃ k:Nat,v=(k:Int)∧k≤l1.length∧(∀ j a,l1[j]? = some a→k≤j→tlt e a)∧∀ a,l1[k - 1]? = some a→0<k→¬ tlt e a:=by
  refine Ok.loop (fun n v=>v=(n:Int)∧n≤l1.length∧∀ j a,l1[j]? = some a→n≤j→tlt e a) ?_ (n:=l1.length) ⟨rfl,Nat.le_refl _,fun j a ha hj=>by
    have:=(List.getElem?_eq_some_iff.1 ha).1;omega⟩
  rintro n v ⟨rfl,h1,h2⟩
  unfold spec_l5Sorted_l2
  dsimp only
  by_cases h0:0<n
  · have hw:IntKind.i64.wrap ((n:Int) - 1)=((n - 1:Nat):Int):=by rw[IntWalk.i64_in _ (by omega)];omega
    have hd:decide ((n:Int) > 0)=true:=decide_eq_true (by omega)
    have i1:idx l1 ((n - 1:Nat):Int)=some (l1[n - 1]'(by omega)):=by rw[Bk];exact List.getElem?_eq_getElem (by omega)
    have hm:(l1[n - 1]'(by omega))∈l1:=List.getElem_mem _
    rw[hd,hw]
    simp only[gdO,cond_true,i1,Option.bind_some,cmpText_eq _ _ (hs _ hm) he,Bool.true_and]
    refine Ok.cond (fun hp=>?_) (fun hp=>?_)
    · have hp:=(cmpB_gt _ _).1 (of_decide_eq_true hp)
      refine Ok.some ⟨n - 1,by omega,rfl,by omega,fun j a ha hj=>?_⟩
      by_cases hjn:j=n - 1
      · subst hjn
        rw[List.getElem?_eq_getElem (by omega)]at ha
        exact Option.some.inj ha▸hp
      · exact h2 j a ha (by omega)
    · have hp:=of_decide_eq_false hp
      refine Ok.some ⟨n,rfl,h1,h2,fun a ha _=>?_⟩
      rw[List.getElem?_eq_getElem (by omega)]at ha
      exact Option.some.inj ha▸fun h=>hp ((cmpB_gt _ _).2 h)
  · have:n=0:=by omega
    subst this
    have hd:decide (((0:Nat):Int) > 0)=false:=by decide
    rw[hd]
    simp only[gdO,cond_false,Option.bind_some,Bool.false_and]
    exact Ok.some ⟨0,rfl,Nat.zero_le _,h2,fun a _ h=>absurd h (by omega)⟩

theorem sorted_l3 {l : List ByteArray} {x : ByteArray} (hl : l.length ≤ 100000) {k : Nat} (hk : k ≤ l.length) :
    Ok (loopO (spec_l5Sorted_l3 (k:Int)) (l ++ [x],(l.length:Int))) fun q=>q.length=l.length+1∧(∀ j,j<k→q[j]? = l[j]?)∧∀ j,k≤j→j<l.length→q[j+1]? = l[j]?:=by
  refine Ok.loop (fun n st=>∃ m:Nat,st.2=(m:Int)∧m=k+n∧m≤l.length∧st.1.length=l.length+1∧(∀ j,j<m→st.1[j]? = l[j]?)∧∀ j,m≤j→j<l.length→st.1[j+1]? = l[j]?) ?_ (n:=l.length - k)
    ⟨l.length,rfl,by omega,Nat.le_refl _,by simp,fun j hj=>by rw[List.getElem?_append_left hj],fun j h1 h2=>by omega⟩
  rintro n ⟨q,v⟩ ⟨m,hv,hm,h1,h2,h3,h4⟩
  dsimp only at hv h2 h3 h4
  subst hv
  unfold spec_l5Sorted_l3
  dsimp only
  refine Ok.cond (fun hd=>?_) (fun hd=>?_)
  · have hd:=of_decide_eq_true hd
    have hw:IntKind.i64.wrap ((m:Int) - 1)=((m - 1:Nat):Int):=by rw[IntWalk.i64_in _ (by omega)];omega
    have i1:idx q ((m - 1:Nat):Int)=some (q[m - 1]'(by omega)):=by rw[Bk];exact List.getElem?_eq_getElem (by omega)
    have i2:idx q (m:Int)=some (q[m]'(by omega)):=by rw[Bk];exact List.getElem?_eq_getElem (by omega)
    rw[hw,i1,i2,Int.toNat_natCast]
    simp only[Option.bind_some]
    refine Ok.some ⟨n - 1,by omega,m - 1,rfl,by omega,by omega,by simpa using h2,fun j hj=>?_,fun j hj hjl=>?_⟩
    · dsimp only
      rw[List.getElem?_set_ne (by omega)];exact h3 j (by omega)
    · dsimp only
      by_cases hjm:j+1=m
      · rw[hjm,List.getElem?_set_self (by omega),← List.getElem?_eq_getElem (by omega),h3 (m - 1) (by omega)]
        congr 1;omega
      · rw[List.getElem?_set_ne (by omega)];exact h4 j (by omega) hjl
  · have hd:=of_decide_eq_false hd
    exact Ok.some ⟨h2,fun j hj=>h3 j (by omega),fun j h5 h6=>h4 j (by omega) h6⟩

theorem sorted_ok (a0 : List ByteArray) (hl : a0.length ≤ 100000) (hs : ∀ a, a ∈ a0 → a.size < big) : Ok (spec_l5Sorted a0) fun r => r.Pairwise tlt ∧ ∀ x, x ∈ r ↔ x ∈ a0 := by
  unfold spec_l5Sorted
  refine Ok.bind (Q:=fun r=>r.Pairwise tlt∧∀ x,x∈r↔x∈a0) ?_ fun r hr=>Ok.some hr
  refine Ok.loop (fun n st=>∃ i:Nat,st.2=(i:Int)∧i+n=a0.length∧st.1.length≤i∧st.1.Pairwise tlt∧∀ x,x∈st.1↔x∈a0.take i) ?_ (n:=a0.length) ⟨0,rfl,by omega,Nat.le_refl _,.nil,fun x=>by simp⟩
  rintro n ⟨l,v⟩ ⟨i,hv,hi,h1,h2,h3⟩
  dsimp only at hv h1 h2 h3
  subst hv
  unfold spec_l5Sorted_l1
  dsimp only
  refine Ok.cond (fun hd=>?_) (fun hd=>?_)
  · have hd := of_decide_eq_true hd
    have hil:i<a0.length:=by omega
    have i1:idx a0 (i:Int)=some a0[i]:=by rw[Bk];simp[hil]
    have w2:IntKind.i64.wrap ((i:Int)+1)=((i+1:Nat):Int):=by rw[IntWalk.i64_in _ (by omega)];rfl
    have hsl:∀ a,a∈l→a.size<big:=fun a ha=>hs a (List.mem_of_mem_take ((h3 a).1 ha))
    have tk:∀ x,x∈a0.take (i+1)↔(x∈l∨x=a0[i]):=fun x=>by
      rw[List.take_succ,List.getElem?_eq_getElem hil,List.mem_append,h3 x]
      simp
    rw[i1,Option.bind_some]
    refine Ok.bind (sorted_l2 (l1:=l) (e:=a0[i]) (by omega) hsl (hs _ (List.getElem_mem _))) ?_
    rintro v' ⟨k,rfl,k1,k2,k3⟩
    try dsimp only
    have hsplit:l=l.take k++l.drop k:=(List.take_append_drop k l).symm
    have hB:∀ b,b∈l.drop k→tlt a0[i] b:=fun b hb=>by
      obtain⟨j,hj,rfl⟩:=List.mem_iff_getElem.1 hb
      rw[List.getElem_drop]
      exact k2 (k+j) _ (List.getElem?_eq_getElem (by simp at hj;omega)) (by omega)
    have hlast:∀ a,a∈l.take k→∃ p,l[k - 1]? = some p∧0<k∧(a=p∨tlt a p):=fun a ha=>by
      have h0:0<k:=by
        rcases Nat.eq_zero_or_pos k with h | h
        · subst h;simp at ha
        · exact h
      have hp:(l.take k).Pairwise tlt:=h2.sublist (List.take_sublist _ _)
      have hz:(l.take k).getLast? = some (l[k - 1]'(by omega)):=by
        rw[List.getLast?_eq_getElem?,List.length_take,Nat.min_eq_left k1,List.getElem?_take,if_pos (by omega)]
        simp
      exact⟨_,List.getElem?_eq_getElem (by omega),h0,pw_last hp ha hz⟩
    have done:Ok (some ((Sum.inl (l.take k++a0[i] :: l.drop k,((i+1:Nat):Int)):(List ByteArray×Int)⊕List ByteArray))) (fun x=>match x with | .inl s'=>∃ m,m<n∧∃ i:Nat,s'.2=(i:Int)∧i+m=a0.length∧s'.1.length≤i∧s'.1.Pairwise tlt∧∀ x,x∈s'.1↔x∈a0.take i | .inr r=>r.Pairwise tlt∧∀ x,x∈r↔x∈a0)∨l[k - 1]? = some a0[i]∧0<k:=by
      by_cases hq:l[k - 1]? = some a0[i]∧0<k
      · exact .inr hq
      · refine .inl (Ok.some ⟨n - 1,by omega,i+1,rfl,by omega,?_,?_,fun x=>?_⟩)
        · simp only[List.length_append,List.length_cons,List.length_take,List.length_drop];omega
        · refine ins_strict (by rw[← hsplit];exact h2) (fun a ha=>?_) hB
          obtain⟨p,p1,p2,p3⟩:=hlast a ha
          have hne:p≠a0[i]:=fun e=>hq ⟨e▸p1,p2⟩
          have hnt:=k3 p p1 p2
          have hpe:tlt p a0[i]:=by
            rcases lt3 p.toList a0[i].toList with h | h | h
            · exact h
            · exact absurd (bin h) hne
            · exact absurd h hnt
          rcases p3 with rfl | p3
          · exact hpe
          · exact tlt_trans _ _ _ p3 hpe
        · rw[tk]
          have hx:x∈l↔x∈l.take k∨x∈l.drop k:=by rw[← List.mem_append,← hsplit]
          rw[hx]
          simp only[List.mem_append,List.mem_cons]
          constructor
          · rintro (h | h | h)
            · exact .inl (.inl h)
            · exact .inr h
            · exact .inl (.inr h)
          · rintro ((h | h) | h)
            · exact .inl h
            · exact .inr (.inr h)
            · exact .inr (.inl h)
    have stay:l[k - 1]? = some a0[i]∧0<k→Ok (some ((Sum.inl (l,((i+1:Nat):Int)):(List ByteArray×Int)⊕List ByteArray))) (fun x=>match x with | .inl s'=>∃ m,m<n∧∃ i:Nat,s'.2=(i:Int)∧i+m=a0.length∧s'.1.length≤i∧s'.1.Pairwise tlt∧∀ x,x∈s'.1↔x∈a0.take i | .inr r=>r.Pairwise tlt∧∀ x,x∈r↔x∈a0):=fun hq=>by
      refine Ok.some ⟨n - 1,by omega,i+1,rfl,by omega,by dsimp only;omega,h2,fun x=>?_⟩
      rw[tk]
      exact⟨.inl,fun h=>h.elim id fun e=>e▸List.mem_of_getElem? hq.1⟩
    have hput:∀ q:List ByteArray,q.length=l.length+1→(∀ j,j<k→q[j]? = l[j]?)→(∀ j,k≤j→j<l.length→q[j+1]? = l[j]?)→q.set k a0[i]=l.take k++a0[i] :: l.drop k:=fun q q1 q2 q3=>by
      apply List.ext_getElem?
      intro j
      by_cases c1:j<k
      · rw[List.getElem?_set_ne (by omega),q2 j c1,List.getElem?_append_left (by simp;omega),List.getElem?_take,if_pos c1]
      · rw[List.getElem?_append_right (by simp;omega)]
        simp only[List.length_take,Nat.min_eq_left k1]
        by_cases c2:j=k
        · subst c2;rw[List.getElem?_set_self (by omega),Nat.sub_self];rfl
        · obtain⟨j',rfl⟩:∃ j',j=j' + 1:=⟨j - 1,by omega⟩
          rw[List.getElem?_set_ne (by omega),show j' + 1 - k=(j' - k)+1 by omega,List.getElem?_cons_succ,List.getElem?_drop,show k+(j' - k)=j' by omega]
          by_cases c3:j' < l.length
          · exact q3 j' (by omega) c3
          · rw[List.getElem?_eq_none (by omega),List.getElem?_eq_none (by omega)]
    by_cases h0:0<k
    · have hw:IntKind.i64.wrap ((k:Int) - 1)=((k - 1:Nat):Int):=by rw[IntWalk.i64_in _ (by omega)];omega
      have hdk:decide ((k:Int) > 0)=true:=decide_eq_true (by omega)
      have i2:idx l ((k - 1:Nat):Int)=some (l[k - 1]'(by omega)):=by rw[Bk];exact List.getElem?_eq_getElem (by omega)
      rw[hdk,hw,w2]
      simp only[gdO,cond_true,i2,Option.bind_some,Bool.true_and]
      refine Ok.cond (fun hq=>?_) (fun hq=>?_)
      · exact Ok.mono (stay ⟨by rw[List.getElem?_eq_getElem (by omega),(tl_beq _ _).1 hq],h0⟩) fun x hx=>by rcases x with x | x <;> exact hx
      · rw[B4 (by simp;omega),Option.bind_some]
        have hw3:IntKind.i64.wrap (((l ++ [a0[i]]).length:Int) - 1)=(l.length:Int):=by simp only[List.length_append,List.length_singleton];rw[IntWalk.i64_in _ (by omega)];omega
        rw[hw3]
        refine Ok.bind (sorted_l3 (x:=a0[i]) (by omega) k1) ?_
        rintro q ⟨q1,q2,q3⟩
        try dsimp only
        have i3:idx q (k:Int)=some (q[k]'(by omega)):=by rw[Bk];exact List.getElem?_eq_getElem (by omega)
        rw[i3,Option.bind_some,Int.toNat_natCast,hput q q1 q2 q3]
        rcases done with h | ⟨h,_⟩
        · exact Ok.mono h fun x hx=>by rcases x with x | x <;> exact hx
        · exfalso
          rw[List.getElem?_eq_getElem (by omega)]at h
          rw[Option.some.inj h]at hq
          simp at hq
    · have hk0:k=0:=by omega
      subst hk0
      have hdk:decide (((0:Nat):Int) > 0)=false:=by decide
      rw[hdk,w2]
      simp only[gdO,cond_false,Option.bind_some,Bool.false_and]
      rw[B4 (by simp;omega),Option.bind_some]
      have hw3:IntKind.i64.wrap (((l ++ [a0[i]]).length:Int) - 1)=(l.length:Int):=by simp only[List.length_append,List.length_singleton];rw[IntWalk.i64_in _ (by omega)];omega
      rw[hw3]
      refine Ok.bind (sorted_l3 (x:=a0[i]) (by omega) k1) ?_
      rintro q ⟨q1,q2,q3⟩
      try dsimp only
      have i3:idx q ((0:Nat):Int)=some (q[0]'(by omega)):=by rw[Bk];exact List.getElem?_eq_getElem (by omega)
      rw[i3,Option.bind_some,Int.toNat_natCast,hput q q1 q2 q3]
      rcases done with h | ⟨_,h⟩
      · exact Ok.mono h fun x hx=>by rcases x with x | x <;> exact hx
      · omega
  · have hd:=of_decide_eq_false hd
    refine Ok.some ⟨h2,fun x=>?_⟩
    rw[h3,List.take_of_length_le (by omega)]
end Go.G36.FR
namespace Go.G36.FR
set_option linter.all false
open Go Go.G36 Go.Proofs Go.G36.MT

theorem loop_allR{α R:Type}(xs:List α)(z:R)(step:Int→Option (Int⊕(Unit⊕R)))(b:Nat→α→Bool)
    (hs:∀ (i:Nat) (a:α),xs[i]? = some a→step (i:Int)=some (cond (b i a) (.inl ((i:Int)+1)) (.inr (.inr z)))) (he:step (xs.length:Int)=some (.inr (.inl ()))) :
    loopO step 0=some (cond (Ef b xs 0) (.inl ()) (.inr z)):=by
  have h:=loop_first xs step (fun i a=>cond (b i a) none (some z)) outU (fun i a ha=>by
    rw[hs i a ha]
    cases b i a <;> rfl) he xs.length 0 (by omega)
  simp only[List.drop_zero]at h
  have key:∀ (l:List α) (i:Nat),C1 (fun i a=>cond (b i a) none (some z)) l i=cond (Ef b l i) none (some z):=by
    intro l
    induction l with
    | nil=>intro i;rfl
    | cons a r ih =>
      intro i
      rw[C1,Ef]
      cases hb:b i a with
      | true=>simpa using ih (i+1)
      | false=>rfl
  rw[show ((0:Int))=((0:Nat):Int) from rfl,h,key]
  cases Ef b xs 0 <;> rfl
theorem loop_app {α β : Type} (B : Nat) (xs : List α) (step : (List β × Int) → Option ((List β × Int) ⊕ List β)) (g : α → List β) (l0 : List β) (K : Nat) (hg : ∀ a, a ∈ xs → (g a).length ≤ K) (hb : l0.length + xs.length * K ≤ B)
    (hs:∀ (i:Nat) (a:α) (l:List β),xs[i]? = some a→l.length≤B→step (l,(i:Int))=some (.inl (l++g a,(i:Int)+1))) (he:∀ l,step (l,(xs.length:Int))=some (.inr l)):loopO step (l0,0)=some (l0++xs.flatMap g):=by
  have key:Ok (loopO step (l0,0)) fun q=>q=l0++xs.flatMap g:=by
    refine Ok.loop (fun k s=>∃ i:Nat,i+k=xs.length∧s=(l0++(xs.take i).flatMap g,(i:Int))∧(l0++(xs.take i).flatMap g).length≤l0.length+i*K) ?_ (n:=xs.length) ⟨0,by omega,by simp,by simp⟩
    rintro k s ⟨i,hi,rfl,hl⟩
    by_cases hil:i<xs.length
    · have hK:i*K≤xs.length*K:=Nat.mul_le_mul_right _ (Nat.le_of_lt hil)
      have e:(xs.take (i+1)).flatMap g=(xs.take i).flatMap g++g xs[i]:=by rw[List.take_succ_eq_append_getElem hil,List.flatMap_append];simp
      rw[hs i xs[i] _ (by simp[hil]) (by omega)]
      refine Ok.some ⟨k - 1,by omega,i+1,by omega,?_,?_⟩
      · rw[e,List.append_assoc];rfl
      · rw[e,← List.append_assoc,List.length_append,Nat.add_mul]
        have:=hg xs[i] (List.getElem_mem hil)
        omega
    · have:i=xs.length:=by omega
      subst this
      rw[he,List.take_length]
      exact Ok.some rfl
  obtain⟨q,e,rfl⟩:=key
  exact e

def gB(a:ByteArray):Bool:=Ch a&&(decide (((a.data.toList.headD 0).toNat:Int)≥65)&&decide (((a.data.toList.headD 0).toNat:Int)≤90))
theorem idxS_head{a:ByteArray}(h:Ch a=true):Cr a 0=some ((a.data.toList.headD 0).toNat:Int):=by
  have:=(good_le h).1
  rw[← Ck]at this
  cases hl:a.data.toList with
  | nil=>rw[hl]at this;simp at this
  | cons b r=>exact idxS_nat (i:=0) (by rw[hl];rfl)
theorem group_impl(a:ByteArray):impl_ygroupName a=some (gB a):=by
  unfold impl_ygroupName gB
  rw[impl_good,Option.bind_some]
  cases h:Ch a with
  | false=>rfl
  | true =>
    simp only[gdO,cond_true,idxS_head h,Option.bind_some,Bool.true_and]
    cases decide (((a.data.toList.headD 0).toNat:Int)≥65) <;> rfl
theorem group_spec(a:ByteArray):spec_l5Group a=some (gB a):=by
  unfold spec_l5Group gB
  rw[spec_good,Option.bind_some]
  cases h:Ch a with
  | false=>rfl
  | true =>
    simp only[gdO,cond_true,idxS_head h,Option.bind_some,Bool.true_and]
    cases decide (((a.data.toList.headD 0).toNat:Int)≥65) <;> rfl

abbrev cnB:ByteArray:=ByteArray.mk #[99,110]
noncomputable def mV(s:Ah)(e:Ay)(f:List Aa):Int:=(impl_MatchFilter s e f).getD 0
section
variable {s:Ah} {e:Ay} {f:List Aa}
theorem mV_impl(hs:szS s)(he:szE e)(hz:szF f):impl_MatchFilter s e f=some (mV s e f)∧spec_MatchFilter s e f=some (mV s e f):=by
  obtain⟨v,v1,v2,_⟩:=match_both hs he hz
  have:mV s e f=v:=by unfold mV;rw[v1];rfl
  rw[this];exact⟨v1,v2⟩
theorem mV_meets(hs:szS s)(he:szE e)(hz:szF f)(h1:Dg s=true)(h2:Dd e=true)(h3:Ew f=true):∃ n,impl_DirSchema_ymeets s e f 0=some (mV s e f,n):=by
  obtain⟨v,v1,v2,v3⟩:=match_both hs he hz
  have hv:mV s e f=v:=by unfold mV;rw[v1];rfl
  rw[hv]
  rcases v3 with ⟨h,_⟩ | ⟨_,t,k1,k2,_,k3⟩
  · rw[h1,h2,h3]at h;cases h
  · obtain⟨w,w1,w2,w3⟩:=match_it hs he h1 hz 20 0 t f.length k1 k2
    have f1:impl_DirSchema_ymeets s e f 0=some (w,(f.length:Int)):=fix_eq meets_mono w2
    have f2:spec_l3Match s e t=some w:=fix_eq match_mono w3
    rw[k3]at f2
    exact⟨_,by rw[f1,Option.some.inj f2]⟩
end

noncomputable def pick(s:Ah)(f:List Aa)(e:Ay):List ByteArray:=match Eu e.Attrs_ cnB with
  | v :: _=>cond ((Ch v && !(gB v))&&(mV s e f==1)) [v] []
  | []=>[]
theorem pick_len(s:Ah)(f:List Aa)(e:Ay):(pick s f e).length≤1:=by
  unfold pick
  split
  · cases (Ch _ && !(gB _))&&(mV s e f==1) <;> simp
  · simp
theorem pick_mem{s:Ah}{f:List Aa}{e:Ay}{v:ByteArray}(h:v∈pick s f e):(∃ r,Eu e.Attrs_ cnB=v :: r)∧Ch v=true∧(mV s e f==1)=true:=by
  unfold pick at h
  split at h
  · rename_i w r hw
    cases hc:(Ch w && !(gB w))&&(mV s e f==1) with
    | false=>rw[hc]at h;simp at h
    | true =>
      rw[hc]at h
      simp at h
      subst h
      simp only[Bool.and_eq_true]at hc
      exact⟨⟨r,hw⟩,hc.1.1,hc.2⟩
  · simp at h

section
variable {s:Ah} {es:List Ay} {r:A9}
noncomputable def names(s:Ah)(es:List Ay)(r:A9):List ByteArray:=es.flatMap (pick s r.Filter_)
noncomputable def nests(s:Ah)(es:List Ay)(r:A9):List Bc:=(names s es r).map fun m=>⟨r.Group_,m⟩
theorem flat_len{α β:Type}(g:α→List β)(K:Nat):∀ l:List α,(∀ a,a∈l→(g a).length≤K)→(l.flatMap g).length≤l.length*K
  | [],_=>by simp
  | a :: l,h=>by
    rw[List.flatMap_cons,List.length_append,List.length_cons,Nat.add_mul]
    have:=h a (by simp)
    have:=flat_len g K l fun b hb=>h b (by simp[hb])
    omega
theorem names_len:(names s es r).length≤es.length:=by
  have:=flat_len (pick s r.Filter_) 1 es fun e _=>pick_len s r.Filter_ e
  unfold names;omega
theorem entries_impl (hs : szS s) (he : ∀ e, e ∈ es → szE e) (hz : szF r.Filter_) (h1 :       Dg s = true) (h2 : ∀ e, e ∈ es →      Dd e = true) (h3 :    Ew r.Filter_ = true) (hl : es.length ≤ 1000) (l0 : List     Bc) (h0 : l0.length ≤ 100000) :
    loopO (impl_RuleNests_l3 s es r) (l0,0)=some (l0++nests s es r):=by
  have h:=loop_app 1000000 es (impl_RuleNests_l3 s es r) (fun e=>(pick s r.Filter_ e).map fun m=>(⟨r.Group_,m⟩:Bc)) l0 1 (fun e _=>by rw[List.length_map];exact pick_len _ _ _) (by omega) (fun i e l hi hlen=>?_) (fun l=>?_)
  · rw[h];unfold nests names;rw[List.map_flatMap]
  · have hil:=(List.getElem?_eq_some_iff.1 hi).1
    have hm:=List.mem_of_getElem? hi
    unfold impl_RuleNests_l3
    dsimp only
    rw[ltn hil,cond_true,Bk,hi,Option.bind_some,values_impl _ _ (by unfold big;have:=(he e hm).2.1;omega),Option.bind_some,Az (by omega)]
    unfold pick
    cases hv:Eu e.Attrs_ cnB with
    | nil=>simp[gdO]
    | cons v q =>
      have hlen0:(((v :: q).length:Int)==0)=false:=by
        rw[beq_eq_false_iff_ne];simp only[List.length_cons];omega
      have hix:idx (v :: q) 0=some v:=rfl
      rw[hlen0]
      simp only[Bool.not_false,gdO,cond_true,hix,Option.bind_some,impl_good,Bool.false_or]
      cases hg:Ch v with
      | false=>simp
      | true =>
        simp only[Bool.not_true,Bool.not_false,Bool.false_or,cond_true,hix,Option.bind_some,group_impl]
        cases hgb:gB v with
        | true=>simp
        | false =>
          obtain⟨n,hn⟩:=mV_meets hs (he e hm) hz h1 (h2 e hm) h3
          simp only[cond_false,hn,Option.bind_some,Bool.not_false,Bool.and_true,Bool.true_and]
          cases hmv:(mV s e r.Filter_==1) with
          | true=>simp only[cond_true];rw[B4 (by simp;omega)];rfl
          | false=>simp
  · unfold impl_RuleNests_l3
    simp
theorem entries_spec (hs : szS s) (he : ∀ e, e ∈ es → szE e) (hz : szF r.Filter_) (hl : es.length ≤ 1000) :
    loopO (spec_RuleNests_l4 s es r) ([],0)=some (names s es r):=by
  have h:=loop_app 1000000 es (spec_RuleNests_l4 s es r) (pick s r.Filter_) [] 1 (fun e _=>pick_len _ _ _) (by simp;omega) (fun i e l hi hlen=>?_) (fun l=>?_)
  · rw[h];rfl
  · have hil:=(List.getElem?_eq_some_iff.1 hi).1
    have hm:=List.mem_of_getElem? hi
    unfold spec_RuleNests_l4
    dsimp only
    rw[ltn hil,cond_true,Bk,hi,Option.bind_some,values_spec _ _ (by unfold big;have:=(he e hm).2.1;omega),Option.bind_some,Az (by omega)]
    unfold pick
    cases hv:Eu e.Attrs_ cnB with
    | nil=>simp[gdO]
    | cons v q =>
      have hlen0:decide (((v :: q).length:Int) > 0)=true:=decide_eq_true (by simp only[List.length_cons];omega)
      have hix:idx (v :: q) 0=some v:=rfl
      rw[hlen0]
      simp only[gdO,cond_true,hix,Option.bind_some,spec_good,Bool.true_and]
      cases hg:Ch v with
      | false=>simp
      | true =>
        simp only[cond_true,hix,Option.bind_some,group_spec,Bool.true_and]
        cases hgb:gB v with
        | true=>simp
        | false =>
          simp only[Bool.not_false,cond_true,(mV_impl hs (he e hm) hz).2,Option.bind_some,Bool.true_and]
          cases hmv:(mV s e r.Filter_==1) with
          | true=>simp only[cond_true];rw[B4 (by simp;omega)];rfl
          | false=>simp
  · unfold spec_RuleNests_l4
    simp
end
end Go.G36.FR
namespace Go.G36.FR
set_option linter.all false
open Go Go.G36 Go.Proofs Go.G36.MT

abbrev nlt(a b:Bc):Prop:=Lt2 a.Group_ a.Member_ b.Group_ b.Member_
theorem nlt_irrefl(a:Bc):¬ nlt a a:=Lt2.irrefl _ _
theorem nlt_trans(a b c:Bc)(h:nlt a b)(k:nlt b c):nlt a c:=Lt2.trans h k
theorem le57_iff(a b:Bc):le57 a.Group_ a.Member_ b.Group_ b.Member_=true↔(a=b∨nlt a b):=by
  unfold le57
  rw[Bool.not_eq_true',decide_eq_false_iff_not,cmp57_neg]
  constructor
  · intro h
    rcases Lt2.tri a.Group_ a.Member_ b.Group_ b.Member_ with k | ⟨k1,k2⟩ | k
    · exact .inr k
    · left
      cases a;cases b
      simp only[Bc.mk.injEq]
      exact⟨bin k1,bin k2⟩
    · exact absurd k h
  · rintro (rfl | h) k
    · exact Lt2.irrefl _ _ k
    · exact Lt2.irrefl _ _ (h.trans k)
theorem sortO_nests(l:List Bc)(hl:l.length≤100000):∃ q,sortO (fun x y:Bc=>le57 x.Group_ x.Member_ y.Group_ y.Member_) l=some q∧q.length=l.length∧(∀ x,x∈q↔x∈l)∧q.Pairwise fun a b=>a=b∨nlt a b:=by
  unfold sortO
  rw[if_pos (by omega)]
  refine⟨_,rfl,List.length_mergeSort _,fun x=>List.mem_mergeSort,?_⟩
  have:=List.pairwise_mergeSort (le:=fun x y:Bc=>le57 x.Group_ x.Member_ y.Group_ y.Member_) (fun a b c h k=>?_) (fun a b=>?_) l
  · exact this.imp fun h=>(le57_iff _ _).1 h
  · rw[le57_iff]at h k ⊢
    rcases h with rfl | h
    · exact k
    · rcases k with rfl | k
      · exact .inr h
      · exact .inr (h.trans k)
  · rw[Bool.or_eq_true,le57_iff,le57_iff]
    rcases Lt2.tri a.Group_ a.Member_ b.Group_ b.Member_ with k | ⟨k1,k2⟩ | k
    · exact .inl (.inr k)
    · refine .inl (.inl ?_)
      cases a;cases b
      simp only[Bc.mk.injEq]
      exact⟨bin k1,bin k2⟩
    · exact .inr (.inr k)

theorem comparex(a b:ByteArray):cmp_Comparex a b=some (Fc a b):=by
  unfold cmp_Comparex cmp_isNaNx Fc
  simp only[beq_self_eq_true,Bool.not_true,Option.bind_some,cond_false]
  cases Op.bytesLess a.toList b.toList <;> cases hq:(a.toList==b.toList) <;> simp
theorem or_two (a b : Int) : cmp_Or [a, b] = some (orI a b) := by
  unfold cmp_Or
  have key:Ok (loopO (cmp_Or_l1 [a,b]) 0) fun q=>(match q with | .inl _=>a=0∧b=0 | .inr r=>r=orI a b):=by
    refine Ok.loop (fun n v=>∃ i:Nat,v=(i:Int)∧i+n=2∧(1≤i→a=0)∧(2≤i→b=0)) ?_ (n:=2) ⟨0,rfl,rfl,fun h=>by omega,fun h=>by omega⟩
    rintro n v ⟨i,rfl,hi,ha,hb⟩
    unfold cmp_Or_l1
    dsimp only
    rcases i with _ | _ | _ | i
    · rw[show decide (((0:Nat):Int)<(([a,b]:List Int).length:Int))=true by simp,cond_true,Bk]
      simp only[List.getElem?_cons_zero,Option.bind_some]
      refine Ok.cond (fun h=>Ok.some ?_) (fun h=>?_)
      · show a=orI a b
        have:a≠0:=by simpa using h
        simp[orI,this]
      · rw[Az (by omega)]
        exact Ok.some ⟨n - 1,by omega,1,rfl,by omega,fun _=>by simpa using h,fun h=>by omega⟩
    · rw[show decide (((0+1:Nat):Int)<(([a,b]:List Int).length:Int))=true by simp,cond_true,Bk]
      simp only[List.getElem?_cons_succ,List.getElem?_cons_zero,Option.bind_some]
      refine Ok.cond (fun h=>Ok.some ?_) (fun h=>?_)
      · show b=orI a b
        have:a=0:=ha (by omega)
        simp[orI,this]
      · rw[Az (by omega)]
        exact Ok.some ⟨n - 1,by omega,2,rfl,by omega,fun _=>ha (by omega),fun _=>by simpa using h⟩
    · rw[show decide (((0+1+1:Nat):Int)<(([a,b]:List Int).length:Int))=false by simp,cond_false]
      exact Ok.some ⟨ha (by omega),hb (by omega)⟩
    · omega
  obtain⟨q,hq,hp⟩:=key
  rw[hq,Option.bind_some]
  rcases q with _ | r
  · obtain⟨h1,h2⟩:=hp
    show some 0=_
    rw[h1,h2];rfl
  · show some r=_
    rw[show r=orI a b from hp]
theorem ycmp(a b:Bc):impl_ycmpNest a b=some (cmp57 a.Group_ a.Member_ b.Group_ b.Member_):=by
  unfold impl_ycmpNest cmp57
  rw[comparex,comparex,Option.bind_some,Option.bind_some,or_two,Option.bind_some]
theorem scmp{a b:Bc}(h1:a.Group_.size<big)(h2:a.Member_.size<big)(h3:b.Group_.size<big)(h4:b.Member_.size<big)(h:nlt a b):∃ r,spec_l5CmpNest a b=some r∧decide (r≥0)=false:=by
  unfold spec_l5CmpNest
  rw[cmpText_eq _ _ h1 h3,Option.bind_some,cmpText_eq _ _ h2 h4,Option.bind_some]
  rcases h with h | ⟨he,h⟩
  · have hn:=(cmpB_lt a.Group_ b.Group_).2 h
    rw[show (cmpB a.Group_.data.toList b.Group_.data.toList != 0)=true by simp;omega]
    exact⟨_,rfl,decide_eq_false (by omega)⟩
  · have h0:cmpB a.Group_.data.toList b.Group_.data.toList=0:=by
      have e:=bin he
      rw[e]
      have:=cmpB_swap b.Group_.data.toList b.Group_.data.toList
      omega
    have hn:=(cmpB_lt a.Member_ b.Member_).2 h
    rw[h0]
    exact⟨_,rfl,decide_eq_false (by omega)⟩

section
variable {l:List Bc}
theorem adj{i:Nat}(hp:l.Pairwise nlt)(h0:0<i)(hi:i<l.length):nlt (l[i - 1]'(by omega)) l[i] :=
  List.pairwise_iff_getElem.1 hp (i - 1) i (by omega) hi (by omega)
theorem good_impl'(hl:l.length≤200)(hp:l.Pairwise nlt)(hg:∀ x,x∈l→gB x.Group_=true∧Ch x.Member_=true):impl_GoodNests l=some true:=by
  unfold impl_GoodNests
  rw[show decide ((l.length:Int) > 200)=false from decide_eq_false (by omega),cond_false]
  have:=Cv l (impl_GoodNests_l1 l) (fun _ _=>true) (fun i a ha=>?_) (by unfold impl_GoodNests_l1;simp)
  · rw[this,Ec,List.all_eq_true.2 (fun _ _=>rfl)];rfl
  · have hil:=(List.getElem?_eq_some_iff.1 ha).1
    obtain⟨g1,g2⟩:=hg a (List.mem_of_getElem? ha)
    unfold impl_GoodNests_l1
    dsimp only
    rw[ltn hil,cond_true,Bk,ha,Option.bind_some]
    have hgn:impl_ygoodNest a=some true:=by unfold impl_ygoodNest;rw[group_impl,g1,Option.bind_some,impl_good,g2];rfl
    rw[hgn,Option.bind_some,Az (by omega)]
    by_cases h0:0<i
    · rw[gtz h0,pre h0 (by omega),Bk,List.getElem?_eq_getElem (by omega)]
      simp only[Bool.not_true,Bool.not_false,Bool.and_true,gdO,cond_true,Option.bind_some,ycmp]
      have hn:=adj hp h0 hil
      rw[List.getElem?_eq_getElem hil]at ha
      have ha:=Option.some.inj ha
      rw[← ha]
      rw[decide_eq_false (show ¬ cmp57 _ _ _ _≥0 from fun h=>by have:=(cmp57_neg _ _ _ _).2 hn;omega)]
      rfl
    · have:i=0:=by omega
      subst this
      rfl
theorem good_spec'(hl:l.length≤200)(hp:l.Pairwise nlt)(hg:∀ x,x∈l→gB x.Group_=true∧Ch x.Member_=true):spec_GoodNests l=some true:=by
  unfold spec_GoodNests
  rw[show decide ((l.length:Int) > 200)=false from decide_eq_false (by omega),cond_false]
  have hb:∀ x,x∈l→x.Group_.size<big∧x.Member_.size<big:=fun x hx=>by
    obtain⟨g1,g2⟩:=hg x hx
    unfold gB at g1
    rw[Bool.and_eq_true]at g1
    have:=(good_le g1.1).2
    have:=(good_le g2).2
    unfold big
    omega
  have:=Cv l (spec_GoodNests_l1 l) (fun _ _=>true) (fun i a ha=>?_) (by unfold spec_GoodNests_l1;simp)
  · rw[this,Ec,List.all_eq_true.2 (fun _ _=>rfl)];rfl
  · have hil:=(List.getElem?_eq_some_iff.1 ha).1
    obtain⟨g1,g2⟩:=hg a (List.mem_of_getElem? ha)
    unfold spec_GoodNests_l1
    dsimp only
    rw[ltn hil,cond_true,Bk,ha,Option.bind_some,group_spec,g1,Option.bind_some,Az (by omega)]
    simp only[Bool.not_true,Bool.not_false,gdO,cond_true,spec_good,g2,Option.bind_some,Bool.or_false,Bool.false_or]
    by_cases h0:0<i
    · have hn:=adj hp h0 hil
      have hm:(l[i - 1]'(by omega))∈l:=List.getElem_mem _
      have ha':=ha
      rw[List.getElem?_eq_getElem hil]at ha'
      have ha':=Option.some.inj ha'
      rw[ha']at hn
      obtain⟨r,r1,r2⟩:=scmp (hb _ hm).1 (hb _ hm).2 (hb a (List.mem_of_getElem? ha)).1 (hb a (List.mem_of_getElem? ha)).2 hn
      rw[gtz h0,pre h0 (by omega),Bk,List.getElem?_eq_getElem (by omega)]
      simp only[Bool.true_and,cond_true,Option.bind_some,r1,r2]
      rfl
    · have:i=0:=by omega
      subst this
      rfl
theorem zNests_refl(hl:l.length≤100000):laws_zNests l l=some true:=by
  unfold laws_zNests
  rw[show ((l.length:Int) != (l.length:Int))=false by simp,cond_false]
  have:=Cv l (laws_zNests_l1 l l) (fun _ _=>true) (fun i a ha=>?_) (by unfold laws_zNests_l1;simp)
  · rw[this,Ec,List.all_eq_true.2 (fun _ _=>rfl)];rfl
  · have hil:=(List.getElem?_eq_some_iff.1 ha).1
    unfold laws_zNests_l1
    dsimp only
    rw[ltn hil,cond_true,Bk,ha,Option.bind_some,Option.bind_some,(nest_eq a a).2 rfl,Az (by omega)]
    rfl
end
end Go.G36.FR
namespace Go.G36.FR
set_option linter.all false
open Go Go.G36 Go.Proofs Go.G36.MT

theorem PT.sz{l:List A4}(hl:l.length≤100000)(h:∀ p,p∈l→PT p):szN l:=⟨hl,fun p hp=>by
  obtain⟨p1,p2⟩:=h p hp
  exact⟨by have:p.Attr_.size≤300:=p1;omega,by have:p.Text_.size≤300:=p2;omega⟩⟩
theorem SC.sz{s:Ah}(h:SC s):szS s:=by
  obtain⟨h1,h2,h3,h4,h5⟩:=h
  refine⟨by omega,by omega,fun t ht=>?_,fun c hc=>?_⟩
  · have:t.Name_.size≤300:=h3 t ht
    omega
  · obtain⟨c1,c2,c3,c4,c5⟩:=h5 c hc
    exact⟨by have:c.Name_.size≤300:=c1;omega,by omega,by omega,fun n hn=>by have:n.size≤300:=c4 n hn;omega,fun n hn=>by have:n.size≤300:=c5 n hn;omega⟩
theorem EN.sz{e:Ay}(h:EN e):szE e:=by
  obtain⟨h1,h2,h3,h4⟩:=h
  refine⟨PT.sz (by omega) h2,by omega,fun a ha=>?_⟩
  obtain⟨a1,a2,a3⟩:=h4 a ha
  exact⟨by have:a.Name_.size≤300:=a1;omega,by omega,fun v hv=>by have:v.size≤300:=a3 v hv;omega⟩
theorem FL.sz{L:Nat}{f:List Aa}(h:FL L f)(hL:L≤100000):szF f:=⟨by have:=h.2.1;omega,fun m hm=>by have:m.Text_.size≤300:=h.2.2 m hm;omega⟩
theorem FL.mono{L L':Nat}{f:List Aa}(h:FL L f)(hL:L≤L'):FL L' f:=⟨h.1,by have:=h.2.1;omega,h.2.2⟩

theorem same_any(a b:List A4)(h:a.length≤100000):Ok (spec_l3SameName a b) fun _=>True:=by
  unfold spec_l3SameName
  refine Ok.cond (fun _=>Ok.some trivial) (fun hl=>?_)
  have hl:a.length=b.length:=by
    have:¬ (a.length:Int)≠(b.length:Int):=by simpa using hl
    omega
  refine Ok.bind (Q:=fun _=>True) ?_ (fun q _=>by rcases q with _ | _ <;> exact Ok.some trivial)
  refine Ok.loop (fun n v=>∃ i:Nat,v=(i:Int)∧i+n=a.length) ?_ (n:=a.length) ⟨0,rfl,by omega⟩
  rintro n v ⟨i,rfl,hi⟩
  unfold spec_l3SameName_l1
  dsimp only
  refine Ok.cond (fun hd=>?_) (fun _=>Ok.some trivial)
  have d:=of_decide_eq_true hd
  rw[Bk,Bk,List.getElem?_eq_getElem (by omega),List.getElem?_eq_getElem (by omega),Option.bind_some,Option.bind_some]
  refine Ok.cond (fun _=>Ok.some trivial) (fun _=>?_)
  rw[Az (by omega)]
  exact Ok.some ⟨n - 1,by omega,i+1,rfl,by omega⟩
theorem unlike_any{es:List Ay}(hl:es.length≤1000)(h:∀ e,e∈es→EN e):Ok (spec_l3Unlike es) fun _=>True:=by
  unfold spec_l3Unlike
  refine Ok.bind (Q:=fun _=>True) ?_ (fun q _=>by rcases q with _ | _ <;> exact Ok.some trivial)
  refine Ok.loop (fun n v=>∃ i:Nat,v=(i:Int)∧i+n=es.length) ?_ (n:=es.length) ⟨0,rfl,by omega⟩
  rintro n v ⟨i,rfl,hi⟩
  unfold spec_l3Unlike_l1
  dsimp only
  refine Ok.cond (fun hd=>?_) (fun _=>Ok.some trivial)
  have d:=of_decide_eq_true hd
  have he:EN (es[i]'(by omega)):=h _ (List.getElem_mem _)
  rw[Bk,List.getElem?_eq_getElem (by omega),Option.bind_some,show (0:Int)=((0:Nat):Int) from rfl,sub_get (Nat.zero_le _) (by omega),Option.bind_some]
  have hq:((es.drop 0).take (i - 0)).length≤1000:=by simp;omega
  generalize (es.drop 0).take (i - 0)=l at hq
  refine Ok.bind (Q:=fun _=>True) ?_ (fun q _=>?_)
  · refine Ok.loop (fun n v=>∃ i:Nat,v=(i:Int)∧i+n=l.length) ?_ (n:=l.length) ⟨0,rfl,by omega⟩
    rintro n v ⟨j,rfl,hj⟩
    unfold spec_l3Unlike_l2
    dsimp only
    refine Ok.cond (fun hd=>?_) (fun _=>Ok.some trivial)
    have d:=of_decide_eq_true hd
    rw[Bk,List.getElem?_eq_getElem (by omega),Option.bind_some]
    refine Ok.bind (same_any _ _ (by have:=he.1;omega)) ?_
    intro r _
    refine Ok.cond (fun _=>Ok.some trivial) (fun _=>?_)
    rw[Az (by omega)]
    exact Ok.some ⟨n - 1,by omega,j+1,rfl,by omega⟩
  · rcases q with _ | _
    · dsimp only
      rw[Az (by omega)]
      exact Ok.some ⟨n - 1,by omega,i+1,rfl,by omega⟩
    · exact Ok.some trivial
theorem entries_ok{n:Nat}{s:Ag}(h:Cur n s)(hn:n+2500<lim):Ok (spec_l1Cur_entries 14 s) fun q=>Cur (n+1600) q.2∧q.1.length≤14∧∀ e,e∈q.1→EN e:=by
  unfold spec_l1Cur_entries
  refine Ok.bind (Dn _ h (by omega)) ?_
  rintro⟨r,o⟩ ⟨h1,h2,h3⟩
  dsimp only at h1 h2 h3 ⊢
  replace h3:=h3 (by omega)
  have key:Ok (loopO spec_l1Cur_entries_l1 (o,[],r)) fun q=>Cur (n+1600) q.1∧q.2.length≤14∧∀ e,e∈q.2→EN e:=by
    refine Ok.loop (fun m st=>∃ i:Nat,i+m=r.toNat∧Cur (n+2+102*i) st.1∧st.2.2=(m:Int)∧st.2.1.length≤i∧∀ e,e∈st.2.1→EN e) ?_ (n:=r.toNat) ⟨0,by omega,h1,by dsimp only;omega,Nat.le_refl _,nile⟩
    rintro m ⟨b,l,v⟩ ⟨i,hi,g1,hv,g2,g3⟩
    dsimp only at g1 hv g2 g3
    subst hv
    unfold spec_l1Cur_entries_l1
    dsimp only
    refine Ok.cond (fun hd=>?_) (fun _=>Ok.some ⟨g1.mono (by omega),by show l.length≤14;omega,g3⟩)
    have d:=of_decide_eq_true hd
    refine Ok.bind (entry_ok g1 (by omega)) ?_
    rintro⟨e,o2⟩ ⟨k1,k2⟩
    dsimp only at k1 k2 ⊢
    have he:EN e:=k2.1
    rw[B4 (by simp;omega),Option.bind_some,List.nil_append,B4 (by simp;omega),Option.bind_some]
    have hall:∀ x,x∈l ++ [e]→EN x:=appe g3 (onee he)
    refine Ok.bind (unlike_any (es:=l ++ [e]) (by simp;omega) hall) ?_
    intro u _
    refine Ok.bind (Q:=fun q=>Cur (n+2+102*i+102) q.2) (Ok.cond (fun _=>Ok.mono (one_ok _ k1 (by omega)) fun q hq=>hq.mono (by omega)) (fun _=>Ok.some (k1.mono (by omega)))) ?_
    rintro⟨w,o3⟩ k3
    dsimp only at k3 ⊢
    have hw:IntKind.i64.wrap ((m:Int) - 1)=((m - 1:Nat):Int):=by rw[IntWalk.i64_in _ (by omega)];omega
    unfold spec_l1Cur_entries_j1
    rw[hw]
    refine Ok.cond (fun _=>?_) (fun _=>Ok.some ⟨m - 1,by omega,i+1,by omega,k3.mono (by omega),rfl,by dsimp only;omega,g3⟩)
    rw[Option.bind_some]
    exact Ok.some ⟨m - 1,by omega,i+1,by omega,k3.mono (by omega),rfl,by simp;omega,hall⟩
  refine Ok.bind key ?_
  rintro⟨b,l⟩ ⟨g1,g2,g3⟩
  exact Ok.some ⟨g1,g2,g3⟩

def RU(r:A9):Prop:=sm r.Group_∧FL 50 r.Filter_
def DR(q:Ah×(List Ay)×(List A9)):Prop:=SC q.1∧(q.2.1.length≤14∧∀ e,e∈q.2.1→EN e)∧(q.2.2.length≤3∧∀ r,r∈q.2.2→RU r)
def KR(n k:Nat):(Ag×List A9×Int)→Prop
  | (b,l,v)=>∃ i:Nat,v=(i:Int)∧i+k=3∧l.length≤i∧Cur (n+60*i) b∧∀ r,r∈l→RU r
theorem d2_ok{n k i:Nat}{l:List A9}{e:ByteArray}{b:Ag}{f:List Aa}(hi:i+k=3)(h3:i<3)(hl:l.length≤i)(hr:∀ r,r∈l→RU r)(he:sm e)(hf:FL 50 f)(h:Cur (n+60*i+60) b) :
    Ok (spec_DrawRuleNests_j2 l (i:Int) e b f) (fun x=>match x with | .inl s'=>∃ m,m<k∧KR n m s' | .inr r=>Cur (n+180) r.1∧r.2.length≤3∧∀ x,x∈r.2→RU x):=by
  unfold spec_DrawRuleNests_j2
  rw[B4 (by simp;omega),Option.bind_some,Az (by omega)]
  exact Ok.some ⟨k - 1,by omega,i+1,rfl,by omega,by simp;omega,h.mono (by omega),appe hr (onee ⟨he,hf⟩)⟩
theorem d1_ok{n k i:Nat}{l:List A9}{e:ByteArray}{b:Ag}{f:List Aa}(hn:n+500<lim)(hi:i+k=3)(h3:i<3)(hl:l.length≤i)(hr:∀ r,r∈l→RU r)(he:sm e)(hf:FL 4 f)(h:Cur (n+60*i+48) b) :
    Ok (spec_DrawRuleNests_j1 l (i:Int) e b f) (fun x=>match x with | .inl s'=>∃ m,m<k∧KR n m s' | .inr r=>Cur (n+180) r.1∧r.2.length≤3∧∀ x,x∈r.2→RU x):=by
  unfold spec_DrawRuleNests_j1
  refine Ok.bind (one_ok _ h (by omega)) ?_
  rintro⟨w,o⟩ k1
  dsimp only at k1 ⊢
  refine Ok.cond (fun _=>?_) (fun _=>d2_ok hi h3 hl hr he (hf.mono (by omega)) (k1.mono (by omega)))
  refine Ok.bind (oddFilter_ok k1 (by omega) (hf.mono (by omega))) ?_
  rintro⟨g,o2⟩ ⟨k2,k3⟩
  dsimp only at k2 k3 ⊢
  exact d2_ok hi h3 hl hr he k3 (k2.mono (by omega))
theorem nm3{i:Nat}(h:i<3):∃ e,idx ([(ByteArray.mk #[65,100,117,108,116]),(ByteArray.mk #[66,111,115,115]),(ByteArray.mk #[78,97,109,101,100])]:List ByteArray) (i:Int)=some e∧sm e:=by
  rw[Bk]
  rcases i with _ | _ | _ | i
  · exact⟨_,rfl,by show ByteArray.size _≤300;decide⟩
  · exact⟨_,rfl,by show ByteArray.size _≤300;decide⟩
  · exact⟨_,rfl,by show ByteArray.size _≤300;decide⟩
  · omega
theorem draw_ok{code:List Int}(hb:Bytes code):Ok (spec_DrawRuleNests code) DR:=by
  unfold spec_DrawRuleNests
  have h0:Cur 0 (⟨code,0,0⟩:Ag):=⟨Int.le_refl _,Int.le_refl _,hb⟩
  have hlim:10000<lim:=by unfold lim;omega
  refine Ok.bind (schema_ok h0 (by omega)) ?_
  rintro⟨s,o⟩ ⟨h1,hs⟩
  dsimp only at h1 hs ⊢
  refine Ok.bind (odd_schema h1 (by omega) hs) ?_
  rintro⟨s,o⟩ ⟨h1,hs⟩
  dsimp only at h1 hs ⊢
  refine Ok.bind (entries_ok h1 (by omega)) ?_
  rintro⟨es,o⟩ ⟨h1,he⟩
  dsimp only at h1 he ⊢
  generalize hn:0+16+6+1600=n at h1
  have key:Ok (loopO spec_DrawRuleNests_l1 (o,[],0)) fun r=>Cur (n+180) r.1∧r.2.length≤3∧∀ x,x∈r.2→RU x:=by
    refine Ok.loop (KR n) ?_ (n:=3) ⟨0,rfl,rfl,Nat.le_refl _,by simpa using h1,nile⟩
    rintro k ⟨b,l,v⟩ ⟨i,rfl,hi,hl,hc,hr⟩
    unfold spec_DrawRuleNests_l1
    dsimp only
    refine Ok.cond (fun hd=>?_) (fun _=>Ok.some ⟨hc.mono (by omega),by show l.length≤3;omega,hr⟩)
    have d:=of_decide_eq_true hd
    have hi3:i<3:=by simp at d;omega
    obtain⟨e,e1,e2⟩:=nm3 hi3
    rw[e1,Option.bind_some]
    refine Ok.bind (fo1 hc (by omega)) ?_
    rintro⟨f,o2⟩ ⟨k1,k2⟩
    dsimp only at k1 k2 ⊢
    refine Ok.bind (one_ok _ k1 (by omega)) ?_
    rintro⟨w,o3⟩ k3
    dsimp only at k3 ⊢
    refine Ok.cond (fun _=>?_) (fun _=>Ok.mono (d1_ok (n:=n) (by omega) hi hi3 hl hr e2 k2 (k3.mono (by omega))) fun x hx=>by rcases x with x | x <;> exact hx)
    refine Ok.bind (ofs_ok _ k3 (by omega) (by simp) (Fd (by decide))) ?_
    rintro⟨a,o4⟩ ⟨k4,k5⟩
    dsimp only at k4 k5 ⊢
    exact Ok.mono (d1_ok (n:=n) (by omega) hi hi3 hl hr e2 (FL.one (m:=⟨7,a,e0,0⟩) (by show ByteArray.size e0≤300;decide) (by omega)) (k4.mono (by omega))) fun x hx=>by rcases x with x | x <;> exact hx
  refine Ok.bind key ?_
  rintro⟨b,l⟩ ⟨_,g2,g3⟩
  exact Ok.some ⟨hs,he,g2,g3⟩
end Go.G36.FR
namespace Go.G36.FR
set_option linter.all false
open Go Go.G36 Go.Proofs Go.G36.MT

section
variable {s:Ah} {es:List Ay} {rs:List A9}
def ruleOk(rs:List A9)(i:Nat)(r:A9):Bool:=(gB r.Group_&&Ew r.Filter_)&&(decide (i=0)||lessB (rs.getD (i - 1) default).Group_ r.Group_)
theorem rules_impl(hz:∀ r,r∈rs→szF r.Filter_)(hl:rs.length≤100000):loopO (impl_RuleNests_l1 rs) 0=some (cond (Ef (ruleOk rs) rs 0) (.inl ()) (.inr [])):=by
  refine loop_allR rs [] (impl_RuleNests_l1 rs) (ruleOk rs) (fun i a ha=>?_) (by unfold impl_RuleNests_l1;simp)
  have hil:=(List.getElem?_eq_some_iff.1 ha).1
  unfold impl_RuleNests_l1 ruleOk
  dsimp only
  rw[ltn hil,cond_true,Bk,ha,Option.bind_some,group_impl,Option.bind_some,Az (by omega),filter_impl _ (hz a (List.mem_of_getElem? ha))]
  by_cases h0:0<i
  · rw[gtz h0,pre h0 (by omega),Bk,prevD h0 hil,show decide (i=0)=false from decide_eq_false (by omega)]
    unfold lessB
    cases gB a.Group_ with
    | false=>rfl
    | true =>
      simp only[Bool.not_true,Bool.not_false,Bool.and_true,gdO,cond_true,Option.bind_some,Bool.true_and,Bool.false_or]
      cases Op.bytesLess (rs.getD (i - 1) default).Group_.toList a.Group_.toList <;> cases Ew a.Filter_ <;> rfl
  · have:i=0:=by omega
    subst this
    cases gB a.Group_ <;> cases Ew a.Filter_ <;> rfl
theorem rules_spec (hz : ∀ r, r ∈ rs → szF r.Filter_) (hg : ∀ r, r ∈ rs → r.Group_.size < big) (hl : rs.length ≤ 100000) : loopO (spec_RuleNests_l2 rs) 0 = some (cond (  Ef (ruleOk rs) rs 0) (.inl ()) (.inr [])) := by
  refine loop_allR rs [] (spec_RuleNests_l2 rs) (ruleOk rs) (fun i a ha=>?_) (by unfold spec_RuleNests_l2;simp)
  have hil:=(List.getElem?_eq_some_iff.1 ha).1
  have ham:=List.mem_of_getElem? ha
  unfold spec_RuleNests_l2 ruleOk
  dsimp only
  rw[ltn hil,cond_true,Bk,ha,Option.bind_some,group_spec,Option.bind_some,Az (by omega),goodFilter_spec _ (hz a ham)]
  by_cases h0:0<i
  · obtain⟨r,r1,r2⟩:=cmp_ge (hg _ (prevM h0 hil)) (hg a ham)
    rw[gtz h0,pre h0 (by omega),Bk,prevD h0 hil,show decide (i=0)=false from decide_eq_false (by omega)]
    unfold lessB
    cases gB a.Group_ with
    | false=>rfl
    | true =>
      cases Ew a.Filter_ with
      | false=>rfl
      | true =>
        simp only[Bool.not_true,Bool.not_false,Bool.and_true,gdO,cond_true,Option.bind_some,Bool.true_and,Bool.false_or,Bool.or_false,r1,r2]
        cases Op.bytesLess (rs.getD (i - 1) default).Group_.toList a.Group_.toList <;> rfl
  · have:i=0:=by omega
    subst this
    cases gB a.Group_ <;> cases Ew a.Filter_ <;> rfl

theorem rise_pw{α:Type}{R:α→α→Prop}(ht:∀ a b c,R a b→R b c→R a c){l:List α}(h:∀ i (h0:0<i) (hi:i<l.length),R (l[i - 1]'(by omega)) l[i]):l.Pairwise R:=by
  rw[List.pairwise_iff_getElem]
  intro i j hi hj hij
  induction j with
  | zero=>omega
  | succ j ih =>
    have h1:=h (j+1) (by omega) hj
    by_cases hij2:i=j
    · subst hij2;exact h1
    · exact ht _ _ _ (ih (by omega) (by omega)) h1
theorem allI_at{α:Type}{b:Nat→α→Bool}:∀ (l:List α) (k:Nat),Ef b l k=true→∀ i a,l[i]? = some a→b (k+i) a=true
  | [],k,_,i,a,ha=>by simp at ha
  | x :: l, k, h, i, a, ha => by
    rw[Ef,Bool.and_eq_true]at h
    cases i with
    | zero=>simp at ha;subst ha;exact h.1
    | succ i =>
      have:=allI_at l (k+1) h.2 i a (by simpa using ha)
      rwa [show k+1+i=k+(i+1) by omega]at this
theorem rules_rise(h:Ef (ruleOk rs) rs 0=true):(∀ r,r∈rs→gB r.Group_=true∧Ew r.Filter_=true)∧rs.Pairwise fun a b=>tlt a.Group_ b.Group_:=by
  have at_:=allI_at rs 0 h
  constructor
  · intro r hr
    obtain⟨i,hi,rfl⟩:=List.mem_iff_getElem.1 hr
    have:=at_ i rs[i] (by simp)
    unfold ruleOk at this
    simp only[Bool.and_eq_true]at this
    exact this.1
  · refine rise_pw (R:=fun a b:A9=>tlt a.Group_ b.Group_) (fun a b c h k=>tlt_trans _ _ _ h k) fun i h0 hi=>?_
    have:=at_ i rs[i] (by simp)
    unfold ruleOk lessB at this
    rw[Nat.zero_add,show decide (i=0)=false from decide_eq_false (by omega),Bool.false_or,Bool.and_eq_true,bl_eq]at this
    have h2:=of_decide_eq_true this.2
    have h3:rs.getD (i - 1) default=rs[i - 1]'(by omega):=by rw[List.getD_eq_getElem?_getD,List.getElem?_eq_getElem (by omega)];rfl
    rw[h3]at h2
    exact h2

noncomputable def srt(l:List ByteArray):List ByteArray:=(spec_l5Sorted l).getD []
theorem srt_ok{l:List ByteArray}(hl:l.length≤100000)(hs:∀ a,a∈l→a.size<big):spec_l5Sorted l=some (srt l)∧(srt l).Pairwise tlt∧∀ x,x∈srt l↔x∈l:=by
  obtain⟨r,h1,h2⟩:=sorted_ok l hl hs
  have:srt l=r:=by unfold srt;rw[h1];rfl
  rw[this];exact⟨h1,h2⟩
theorem nodup_len{l:List ByteArray}(h:l.Pairwise tlt)(m:List ByteArray)(hm:∀ x,x∈l→x∈m):l.length≤m.length:=by
  have hn:(l.map fun a=>a.toList).Nodup:=by
    refine List.pairwise_map.2 (h.imp fun {a b} h e=>?_)
    have h:a.toList<b.toList:=h
    rw[e]at h;exact List.lt_irrefl _ h
  have:=pigeon (l:=l.map fun a=>a.toList) (m:=m.map fun a=>a.toList) hn fun x hx=>by
    obtain⟨a,ha,rfl⟩:=List.mem_map.1 hx
    exact List.mem_map.2 ⟨a,hm a ha,rfl⟩
  simpa using this
noncomputable def Ep(s:Ah)(es:List Ay)(r:A9):List Bc:=(srt (names s es r)).map fun m=>⟨r.Group_,m⟩
theorem names_good{r:A9}{v:ByteArray}(h:v∈names s es r):∃ e,e∈es∧v∈pick s r.Filter_ e:=by
  unfold names at h
  exact List.mem_flatMap.1 h
theorem names_big{r:A9}{v:ByteArray}(h:v∈names s es r):Ch v=true∧v.size<big:=by
  obtain⟨e,_,he⟩:=names_good h
  have hg:=(pick_mem he).2.1
  exact⟨hg,by have:=(good_le hg).2;unfold big;omega⟩
theorem snests_ok(hl:es.length≤1000)(r:A9):(Ep s es r).Pairwise nlt∧(∀ x,x∈Ep s es r↔x∈nests s es r)∧(Ep s es r).length≤es.length:=by
  have hn:(names s es r).length≤es.length:=names_len
  obtain⟨_,h2,h3⟩:=srt_ok (l:=names s es r) (by omega) fun a ha=>(names_big ha).2
  refine⟨?_,fun x=>?_,?_⟩
  · unfold Ep
    rw[List.pairwise_map]
    exact h2.imp fun h=>.inr ⟨rfl,h⟩
  · unfold Ep nests
    simp only[List.mem_map,h3]
  · unfold Ep
    rw[List.length_map]
    have:=nodup_len h2 (names s es r) fun x hx=>(h3 x).1 hx
    omega

theorem flat_one{α β:Type}(f:α→β):∀ l:List α,(l.flatMap fun m=>[f m])=l.map f
  | []=>rfl
  | a :: l=>by rw[List.flatMap_cons,flat_one f l];rfl
theorem put_spec(r:A9)(q:List ByteArray)(hq:q.length≤1000)(l0:List Bc)(h0:l0.length≤100000):loopO (spec_RuleNests_l5 r q) (l0,0)=some (l0++q.map fun m=>⟨r.Group_,m⟩):=by
  have h:=loop_app 1000000 q (spec_RuleNests_l5 r q) (fun m=>[(⟨r.Group_,m⟩:Bc)]) l0 1 (fun _ _=>Nat.le_refl _) (by omega) (fun i m l hi hlen=>?_) (fun l=>?_)
  · rw[h,flat_one]
  · have hil:=(List.getElem?_eq_some_iff.1 hi).1
    unfold spec_RuleNests_l5
    dsimp only
    rw[ltn hil,cond_true,Bk,hi,Option.bind_some,Az (by omega),B4 (by simp;omega),Option.bind_some]
  · unfold spec_RuleNests_l5
    simp

theorem all_impl(hs:szS s)(he:∀ e,e∈es→szE e)(hz:∀ r,r∈rs→szF r.Filter_)(h1:Dg s=true)(h2:∀ e,e∈es→Dd e=true)(h3:∀ r,r∈rs→Ew r.Filter_=true)(hl:es.length≤200)(hr:rs.length≤20) :
    loopO (impl_RuleNests_l2 s es rs) ([],0)=some (rs.flatMap (nests s es)):=by
  have hm:rs.length*es.length≤20*200:=Nat.mul_le_mul hr hl
  have h:=loop_app 100000 rs (impl_RuleNests_l2 s es rs) (nests s es) [] es.length (fun r _=>by unfold nests;rw[List.length_map];exact names_len) (by simp;omega) (fun i r l hi hlen=>?_) (fun l=>?_)
  · rw[h,List.nil_append]
  · have hil:=(List.getElem?_eq_some_iff.1 hi).1
    have hm:=List.mem_of_getElem? hi
    unfold impl_RuleNests_l2
    dsimp only
    rw[ltn hil,cond_true,Bk,hi,Option.bind_some,entries_impl hs he (hz r hm) h1 h2 (h3 r hm) (by omega) l hlen,Option.bind_some,Az (by omega)]
  · unfold impl_RuleNests_l2
    simp
theorem all_spec(hs:szS s)(he:∀ e,e∈es→szE e)(hz:∀ r,r∈rs→szF r.Filter_)(hl:es.length≤200)(hr:rs.length≤20) :
    loopO (spec_RuleNests_l3 s es rs) ([],0)=some (rs.flatMap (Ep s es)):=by
  have hm:rs.length*es.length≤20*200:=Nat.mul_le_mul hr hl
  have h:=loop_app 100000 rs (spec_RuleNests_l3 s es rs) (Ep s es) [] es.length (fun r _=>(snests_ok (by omega) r).2.2) (by simp;omega) (fun i r l hi hlen=>?_) (fun l=>?_)
  · rw[h,List.nil_append]
  · have hil:=(List.getElem?_eq_some_iff.1 hi).1
    have hm:=List.mem_of_getElem? hi
    have hn:(names s es r).length≤es.length:=names_len
    obtain⟨k1,k2,k3⟩:=srt_ok (l:=names s es r) (by omega) fun a ha=>(names_big ha).2
    have hq:(srt (names s es r)).length≤1000:=by
      have:=nodup_len k2 (names s es r) fun x hx=>(k3 x).1 hx
      omega
    unfold spec_RuleNests_l3
    dsimp only
    rw[ltn hil,cond_true,Bk,hi,Option.bind_some,entries_spec hs he (hz r hm) (by omega),Option.bind_some]
    try dsimp only
    rw[k1,Option.bind_some,put_spec r _ hq l hlen,Option.bind_some,Az (by omega)]
    rfl
  · unfold spec_RuleNests_l3
    simp

theorem rule_both (hs : szS s) (he : ∀ e, e ∈ es → szE e) (hz : ∀ r, r ∈ rs → szF r.Filter_) (hg : ∀ r, r ∈ rs → r.Group_.size < big) (hl : es.length ≤ 14) (hr : rs.length ≤ 3) :
    ∃ l,impl_RuleNests s es rs=some l∧spec_RuleNests s es rs=some l∧l.length≤200∧∀ n,n∈l→∃ r,r∈rs∧∃ e,e∈es∧r.Group_=n.Group_∧(∃ q,Eu e.Attrs_ cnB=n.Member_ :: q)∧(mV s e r.Filter_==1)=true:=by
  have hbad:impl_Entry_ es=some (!(es.all Dd)):=by
    have hA:impl_Entry_ es=some (es.any fun e=>!(Dd e)):=index_any es (impl_Entry_x_l1 es) (fun e=>!(Dd e)) (fun i a ha=>by
      have hil:=(List.getElem?_eq_some_iff.1 ha).1
      unfold impl_Entry_x_l1 impl_RuleNests_1
      dsimp only
      rw[ltn hil,cond_true,Bk,ha,Option.bind_some,entry_impl a (he a (List.mem_of_getElem? ha)),Option.bind_some,Option.bind_some,Az (by omega)]
      cases Dd a <;> rfl) (by unfold impl_Entry_x_l1;simp)
    rw[hA,List.not_all_eq_any_not]
  have hent:loopO (spec_RuleNests_l1 es) 0=some (cond (es.all Dd) (.inl ()) (.inr [])):=by
    have:=loop_allR es [] (spec_RuleNests_l1 es) (fun _ e=>Dd e) (fun i a ha=>?_) (by unfold spec_RuleNests_l1;simp)
    · rw[this,Ec]
    · have hil:=(List.getElem?_eq_some_iff.1 ha).1
      unfold spec_RuleNests_l1
      dsimp only
      rw[ltn hil,cond_true,Bk,ha,Option.bind_some,entry_spec a (he a (List.mem_of_getElem? ha)),Option.bind_some,Az (by omega)]
      cases Dd a <;> rfl
  unfold impl_RuleNests spec_RuleNests
  rw[schema_impl s hs,schema_spec s hs,Option.bind_some,Option.bind_some,show decide ((es.length:Int) > 200)=false from decide_eq_false (by omega),show decide ((rs.length:Int) > 20)=false from decide_eq_false (by omega),hbad,hent,
    rules_impl hz (by omega),rules_spec hz hg (by omega)]
  simp only[Option.bind_some,Bool.or_false]
  cases h1:Dg s with
  | false=>exact⟨[],rfl,rfl,by simp,fun n hn=>by cases hn⟩
  | true =>
    cases h2:es.all Dd with
    | false=>exact⟨[],rfl,rfl,by simp,fun n hn=>by cases hn⟩
    | true =>
      cases h3:Ef (ruleOk rs) rs 0 with
      | false=>exact⟨[],rfl,rfl,by simp,fun n hn=>by cases hn⟩
      | true =>
        have h2':∀ e,e∈es→Dd e=true:=fun e he=>List.all_eq_true.1 h2 e he
        obtain⟨g1,g2⟩:=rules_rise h3
        have h3':∀ r,r∈rs→Ew r.Filter_=true:=fun r hr=>(g1 r hr).2
        simp only[Bool.not_true,Bool.not_false,gdO,cond_true,cond_false,Option.bind_some,Bool.or_false]
        rw[all_impl hs he hz h1 h2' h3' (by omega) (by omega),all_spec hs he hz (by omega) (by omega)]
        simp only[Option.bind_some]
        have hm:rs.length*es.length≤3*14:=Nat.mul_le_mul hr hl
        have hlen:(rs.flatMap (nests s es)).length≤42:=by
          have:=flat_len (nests s es) es.length rs fun r _=>by unfold nests;rw[List.length_map];exact names_len
          omega
        obtain⟨S,s1,s2,s3,s4⟩:=sortO_nests (rs.flatMap (nests s es)) (by omega)
        rw[s1,Option.bind_some,compact_ok (by omega),Option.bind_some]
        have hO:(rs.flatMap (Ep s es)).Pairwise nlt:=flat_strict (Ep s es) rs (fun r _=>(snests_ok (by omega) r).1) (g2.imp fun {r r'} h a ha b hb=>by
          unfold Ep at ha hb
          obtain⟨x,_,rfl⟩:=List.mem_map.1 ha
          obtain⟨y,_,rfl⟩:=List.mem_map.1 hb
          exact .inl h)
        have hmem:∀ x,x∈rs.flatMap (Ep s es)↔x∈rs.flatMap (nests s es):=fun x=>by
          rw[List.mem_flatMap,List.mem_flatMap]
          exact⟨fun ⟨r,h,k⟩=>⟨r,h,((snests_ok (by omega) r).2.1 x).1 k⟩,fun ⟨r,h,k⟩=>⟨r,h,((snests_ok (by omega) r).2.1 x).2 k⟩⟩
        have hdd:dd S=rs.flatMap (Ep s es):=strict_eq nlt_irrefl nlt_trans _ _ (dd_strict nlt_irrefl nlt_trans S s4) hO fun x=>by rw[dd_mem,s3,hmem]
        have hlO:(rs.flatMap (Ep s es)).length≤200:=by rw[← hdd];have:=dd_len S;omega
        have hin:∀ n,n∈rs.flatMap (Ep s es)→∃ r,r∈rs∧∃ e,e∈es∧r.Group_=n.Group_∧n.Member_∈pick s r.Filter_ e:=fun n hn=>by
          obtain⟨r,hr,hnr⟩:=List.mem_flatMap.1 ((hmem n).1 hn)
          unfold nests at hnr
          obtain⟨m,hm,rfl⟩:=List.mem_map.1 hnr
          obtain⟨e,he,hp⟩:=names_good hm
          exact⟨r,hr,e,he,rfl,hp⟩
        have hgood:∀ x,x∈rs.flatMap (Ep s es)→gB x.Group_=true∧Ch x.Member_=true:=fun x hx=>by
          obtain⟨r,hr,e,_,h,k⟩:=hin x hx
          exact⟨h▸(g1 r hr).1,(pick_mem k).2.1⟩
        rw[hdd,good_impl' hlO hO hgood,good_spec' hlO hO hgood]
        refine⟨rs.flatMap (Ep s es),rfl,rfl,hlO,fun n hn=>?_⟩
        obtain⟨r,hr,e,he,h,k⟩:=hin n hn
        exact⟨r,hr,e,he,h,(pick_mem k).1,(pick_mem k).2.2⟩
end
end Go.G36.FR
namespace Go.G36.FR
set_option linter.all false
open Go Go.G36 Go.Proofs Go.G36.MT

section
variable {s:Ah} {es:List Ay} {rs:List A9} {n:Bc}
theorem first_of(e:Ay)(he:szE e):spec_FirstOf e cnB=some (match Eu e.Attrs_ cnB with | v :: _=>v | []=>e0):=by
  unfold spec_FirstOf
  rw[values_spec _ _ (by unfold big;have:=he.2.1;omega),Option.bind_some]
  cases Eu e.Attrs_ cnB with
  | nil=>rfl
  | cons v q =>
    rw[show (((v :: q).length:Int)==0)=false by rw[beq_eq_false_iff_ne];simp only[List.length_cons];omega]
    rfl
noncomputable def why(s:Ah)(n:Bc)(r:A9)(e:Ay):Bool :=
  ((r.Group_.toList==n.Group_.toList)&&((match Eu e.Attrs_ cnB with | v :: _=>v | []=>e0).toList==n.Member_.toList))&&(mV s e r.Filter_==1)
theorem loop_orV{α:Type}(xs:List α)(step:(Bool×Int)→Option ((Bool×Int)⊕Bool))(p:α→Bool)(hs:∀ (i:Nat) (a:α) (v:Bool),xs[i]? = some a→step (v,(i:Int))=some (.inl (v||p a,(i:Int)+1)))
    (he:∀ v,step (v,(xs.length:Int))=some (.inr v)) (b:Bool):loopO step (b,0)=some (b||xs.any p):=by
  have key:Ok (loopO step (b,0)) fun q=>q=(b||xs.any p):=by
    refine Ok.loop (fun k s=>∃ i:Nat,i+k=xs.length∧s=(b||(xs.take i).any p,(i:Int))) ?_ (n:=xs.length) ⟨0,by omega,by simp⟩
    rintro k s ⟨i,hi,rfl⟩
    by_cases hil:i<xs.length
    · rw[hs i xs[i] _ (by simp[hil])]
      refine Ok.some ⟨k - 1,by omega,i+1,by omega,?_⟩
      rw[List.take_succ_eq_append_getElem hil]
      simp only[List.any_append,List.any_cons,List.any_nil,Bool.or_false,Bool.or_assoc]
      exact Prod.ext rfl (by simp)
    · have:i=xs.length:=by omega
      subst this
      rw[he,List.take_length]
      exact Ok.some rfl
  obtain⟨q,e,rfl⟩:=key
  exact e
theorem l3_eq(hs:szS s)(he:∀ e,e∈es→szE e){r:A9}(hz:szF r.Filter_)(hl:es.length≤100000)(b:Bool):loopO (laws_FnRuled_l3 s es n r) (b,0)=some (b||es.any (why s n r)):=by
  refine loop_orV es (laws_FnRuled_l3 s es n r) (why s n r) (fun i e v hi=>?_) (fun v=>by unfold laws_FnRuled_l3;simp) b
  have hil:=(List.getElem?_eq_some_iff.1 hi).1
  have hm:=List.mem_of_getElem? hi
  unfold laws_FnRuled_l3 why
  dsimp only
  rw[ltn hil,cond_true,Bk,hi,Option.bind_some,first_of e (he e hm),Option.bind_some,(mV_impl hs (he e hm) hz).1,C3,Option.bind_some,Az (by omega)]
  cases v with
  | true=>simp
  | false =>
    simp only[Bool.not_false,Bool.true_and,Bool.false_or]
    cases hc:((r.Group_.toList==n.Group_.toList)&&((match Eu e.Attrs_ cnB with | v :: _=>v | []=>e0).toList==n.Member_.toList)) with
    | true=>rfl
    | false=>rfl
theorem l2_eq(hs:szS s)(he:∀ e,e∈es→szE e)(hz:∀ r,r∈rs→szF r.Filter_)(hl:es.length≤100000)(hr:rs.length≤100000):loopO (laws_FnRuled_l2 s es rs n) (false,0)=some (rs.any fun r=>es.any (why s n r)):=by
  have:=loop_orV rs (laws_FnRuled_l2 s es rs n) (fun r=>es.any (why s n r)) (fun i r v hi=>?_) (fun v=>by unfold laws_FnRuled_l2;simp) false
  · rw[this,Bool.false_or]
  · have hil:=(List.getElem?_eq_some_iff.1 hi).1
    have hm:=List.mem_of_getElem? hi
    unfold laws_FnRuled_l2
    dsimp only
    rw[ltn hil,cond_true,Bk,hi,Option.bind_some,l3_eq hs he (hz r hm) hl,Option.bind_some,Az (by omega)]
end

theorem law {c : List Int} (h1 : Bytes c) : laws_FnRuled c = some true := by
  unfold laws_FnRuled
  cases decide ((c.length:Int) > 1048576) with
  | true=>rfl
  | false =>
    rw[cond_false]
    obtain⟨⟨s,es,rs⟩,hd,hs,he,hr⟩:=draw_ok h1
    dsimp only at hs he hr
    rw[hd,Option.bind_some]
    dsimp only
    have hs':=hs.sz
    have he':∀ e,e∈es→szE e:=fun e h=>(he.2 e h).sz
    have hz:∀ r,r∈rs→szF r.Filter_:=fun r h=>(hr.2 r h).2.sz (by omega)
    obtain⟨l,l1,l2,l3,l4⟩:=rule_both hs' he' hz (fun r h=>by have:r.Group_.size≤300:=(hr.2 r h).1;unfold big;omega) he.1 hr.1
    rw[l1,Option.bind_some,l2,Option.bind_some,zNests_refl (by omega),Option.bind_some]
    simp only[Bool.not_true,cond_false]
    have:=Cv l (laws_FnRuled_l1 s es rs l) (fun _ _=>true) (fun i n ha=>?_) (by unfold laws_FnRuled_l1;simp)
    · rw[this,Ec,List.all_eq_true.2 (fun _ _=>rfl)];rfl
    · have hil:=(List.getElem?_eq_some_iff.1 ha).1
      unfold laws_FnRuled_l1
      dsimp only
      rw[ltn hil,cond_true,Bk,ha,Option.bind_some,l2_eq hs' he' hz (by omega) (by omega),Option.bind_some,Az (by omega)]
      obtain⟨r,hr1,e,he1,k1,⟨q,k2⟩,k3⟩:=l4 n (List.mem_of_getElem? ha)
      have hany:(rs.any fun r=>es.any (why s n r))=true:=by
        rw[List.any_eq_true]
        refine⟨r,hr1,?_⟩
        rw[List.any_eq_true]
        refine⟨e,he1,?_⟩
        unfold why
        rw[k1,k2,k3]
        simp
      rw[hany]
      rfl
end Go.G36.FR
