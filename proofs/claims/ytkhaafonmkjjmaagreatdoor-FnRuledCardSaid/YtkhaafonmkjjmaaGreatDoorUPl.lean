/- What a filter's leaf says: both sides. -/
import Derived.Test.YtkhaafonmkjjmaaGreatDoorUPb
import Derived.Test.YtkhaafonmkjjmaaGreatDoorSPa
import Derived.Test.YtkhaafonmkjjmaaGreatDoorFR
namespace Go.G36.FR
set_option linter.all false
open Go Go.G36 Go.Proofs Go.G36.MT

theorem compare_eq : ∀ a b : List UInt8, Lib.compareBytes a b = cmpB a b
  | [],[]=>rfl
  | [],b :: y=>by
    show (-1:Int)=sgn (([]:List UInt8).length:Int) ((b :: y).length:Int)
    unfold sgn;rw[if_pos (by simp)]
  | a :: x,[]=>by
    show (1:Int)=sgn ((a :: x).length:Int) (([]:List UInt8).length:Int)
    unfold sgn;rw[if_neg (by simp;omega),if_pos (by simp)]
  | a :: x, b :: y => by
    have ih:=compare_eq x y
    simp only[Lib.compareBytes,cmpB,ih]
    by_cases h:a=b
    · subst h
      have:¬ a<a:=UInt8.lt_irrefl a
      rw[if_neg this,if_neg this,if_pos rfl]
    · rw[if_neg h]
      unfold sgn
      have hn:a.toNat≠b.toNat:=fun e=>h (UInt8.toNat_inj.1 e)
      by_cases hl:a<b
      · have:=UInt8.lt_iff_toNat_lt.1 hl
        rw[if_pos hl,if_pos (by omega)]
      · have h1:¬ a.toNat<b.toNat:=fun h=>hl (UInt8.lt_iff_toNat_lt.2 h)
        rw[if_neg hl,if_pos (UInt8.lt_iff_toNat_lt.2 (by omega)),if_neg (by omega),if_pos (by omega)]
theorem caps_some(a:ByteArray)(h:a.size≤100000):∃ c,E6 a=some c∧c.size≤100000:=by
  unfold E6
  rw[if_pos (by omega)]
  have:=Ck a
  exact⟨_,rfl,by show (a.data.toList.map capB).toArray.size≤_;rw[List.size_toArray,List.length_map];omega⟩
theorem of_both(syn:Int)(a:ByteArray)(h:a.size≤100000):∃ b,impl_yofSyntax syn a=some b∧spec_l3Of syn a=some b:=by
  have hl:a.data.toList.length≤100000:=by rw[Ck];exact h
  unfold impl_yofSyntax spec_l3Of
  cases h3:(syn==3) with
  | true =>
    obtain⟨q,e1,w1⟩:=whole_impl _ hl
    obtain⟨q',e2,w2⟩:=whole_spec _ hl
    rw[← bA_of]at e1 e2
    rw[cond_true,cond_true,e1,e2]
    exact⟨q.2,rfl,by rw[(w1.same w2).1];rfl⟩
  | false =>
    cases h4:(syn==4) with
    | true =>
      obtain⟨ps,b,e1,w1⟩:=readName_impl _ hl
      obtain⟨ps',b',e2,w2⟩:=readName_spec _ hl
      rw[← bA_of]at e1 e2
      rw[cond_false,cond_false,cond_true,cond_true,e1,e2]
      have:b=b':=by rw[Bool.eq_iff_iff,w1,w2]
      exact⟨b,rfl,by rw[this];rfl⟩
    | false=>exact⟨true,rfl,rfl⟩
noncomputable def ofB(syn:Int)(a:ByteArray):Bool:=(impl_yofSyntax syn a).getD false
theorem of_impl(syn:Int)(a:ByteArray)(h:a.size≤100000):impl_yofSyntax syn a=some (ofB syn a):=by
  obtain⟨b,e1,_⟩:=of_both syn a h
  unfold ofB;rw[e1];rfl
theorem of_spec(syn:Int)(a:ByteArray)(h:a.size≤100000):spec_l3Of syn a=some (ofB syn a):=by
  obtain⟨b,e1,e2⟩:=of_both syn a h
  unfold ofB;rw[e1,e2];rfl
noncomputable def sameB(t:Ar)(v x:ByteArray):Bool:=(impl_ysame t true v x).getD false
theorem same_both(t:Ar)(v x:ByteArray)(hv:v.size≤100000)(hx:x.size≤100000):∃ b,impl_ysame t true v x=some b∧spec_l3Same t.Syntax_ v x=some b:=by
  unfold impl_ysame spec_l3Same
  obtain⟨c1,e1,_⟩:=caps_some v hv
  obtain⟨c2,e2,_⟩:=caps_some x hx
  rw[of_impl 3 v hv,of_spec _ v hv,e1,e2]
  cases h1:(t.Syntax_==1) with
  | true=>exact⟨_,rfl,rfl⟩
  | false =>
    cases h3:(t.Syntax_==3) with
    | true =>
      have:t.Syntax_=3:=by simpa using h3
      rw[this]
      simp only[Bool.true_and,Bool.and_false,cond_false,cond_true,C3,Option.bind_some]
      refine⟨_,rfl,?_⟩
      cases ofB 3 v <;> cases (v.toList==x.toList) <;> rfl
    | false=>exact⟨_,rfl,rfl⟩
theorem same_impl(t:Ar)(v x:ByteArray)(hv:v.size≤100000)(hx:x.size≤100000):impl_ysame t true v x=some (sameB t v x):=by
  obtain⟨b,e1,_⟩:=same_both t v x hv hx
  unfold sameB;rw[e1];rfl
theorem same_spec(t:Ar)(v x:ByteArray)(hv:v.size≤100000)(hx:x.size≤100000):spec_l3Same t.Syntax_ v x=some (sameB t v x):=by
  obtain⟨b,e1,e2⟩:=same_both t v x hv hx
  unfold sameB;rw[e1,e2];rfl
theorem likeA(a p:ByteArray)(ha:a.size≤100000)(hp:p.size≤100000):impl_Like a p=some (likeB a.data.toList p.data.toList)∧spec_Like a p=some (likeB a.data.toList p.data.toList):=by
  have h1:=like_impl a.data.toList p.data.toList (by rw[Ck];exact ha) (by rw[Ck];exact hp)
  have h2:=like_spec a.data.toList p.data.toList (by rw[Ck];exact ha) (by rw[Ck];exact hp)
  rw[← bA_of,← bA_of]at h1 h2
  exact⟨h1,h2⟩
noncomputable def likeP(t:Ar)(n:Aa)(v:ByteArray):Bool:=(impl_DirSchema_yleaf_2 v t n).getD false
theorem like_both(t:Ar)(n:Aa)(v:ByteArray)(hv:v.size≤100000)(hx:n.Text_.size≤100000):impl_DirSchema_yleaf_2 v t n=some (likeP t n v) ∧
    (cond (t.Syntax_==1) ((E6 v).bind fun r36=>(E6 n.Text_).bind fun r38=>spec_Like r36 r38) (spec_Like v n.Text_))=some (likeP t n v):=by
  unfold likeP impl_DirSchema_yleaf_2
  obtain⟨c1,e1,h1⟩:=caps_some v hv
  obtain⟨c2,e2,h2⟩:=caps_some n.Text_ hx
  obtain⟨l1,l2⟩:=likeA c1 c2 h1 h2
  obtain⟨l3,l4⟩:=likeA v n.Text_ hv hx
  rw[e1,e2]
  simp only[Option.bind_some]
  rw[l1,l2,l3,l4]
  cases (t.Syntax_==1) <;> exact⟨rfl,rfl⟩
noncomputable def cmpP(n:Aa)(t:Ar)(v:ByteArray):Bool:=(impl_DirSchema_yleaf_3 v n t).getD false
theorem cmp_sgn(a b:Int):cmp_Compare a b=some (sgn a b):=by
  unfold cmp_Compare cmp_isNaN sgn
  simp only[Option.bind_some,bne_self_eq_false,cond_false]
  by_cases h:a<b
  · simp[h]
  · by_cases h2:a > b <;> simp[h,h2]
theorem compare_some(a b:ByteArray):compareO a b=some (cmpB a.data.toList b.data.toList):=by unfold compareO;rw[compare_eq]
theorem below_both (n :           Aa) (t :         Ar) (v : ByteArray) (hv : v.size ≤ 100000) (hx : n.Text_.size ≤ 100000) (hs : 1 ≤ t.Syntax_ ∧ t.Syntax_ ≤ 3) (hof : ofB t.Syntax_ n.Text_ = true) :
    impl_DirSchema_yleaf_3 v n t=some (cmpP n t v)∧(ofB t.Syntax_ v=false→cmpP n t v=false)∧(ofB t.Syntax_ v=true→∃ c,spec_l3Below t.Syntax_ v n.Text_=some c∧cmpP n t v=(((n.Kind_==5)&&decide (c≥0))||((n.Kind_==6)&&decide (c≤0)))):=by
  obtain⟨c1,e1,h1⟩:=caps_some v hv
  obtain⟨c2,e2,h2⟩:=caps_some n.Text_ hx
  have key:∃ b,impl_DirSchema_yleaf_3 v n t=some b∧(ofB t.Syntax_ v=false→b=false)∧(ofB t.Syntax_ v=true→∃ c,spec_l3Below t.Syntax_ v n.Text_=some c∧b=(((n.Kind_==5)&&decide (c≥0))||((n.Kind_==6)&&decide (c≤0)))):=by
    have hofI:=of_impl t.Syntax_ v hv
    have hofT:=of_impl t.Syntax_ n.Text_ hx
    rw[hof]at hofT
    unfold impl_DirSchema_yleaf_3 spec_l3Below impl_DirSchema_yleaf_3_j1
    rw[compare_some,e1,e2,Option.bind_some]
    cases hs1:(t.Syntax_==1) with
    | true =>
      have hs1':t.Syntax_=1:=by simpa using hs1
      rw[hs1']at hofI ⊢
      have:ofB 1 v=true:=rfl
      refine⟨_,rfl,(fun h=>by rw[this]at h;cases h),fun _=>⟨_,?_,rfl⟩⟩
      simp only[Option.bind_some]
      rw[show ((1:Int)==3)=false from rfl,cond_false,cond_true,cmpText_eq _ _ (sbig h1) (sbig h2),Option.bind_some,compare_eq]
    | false =>
      cases hs3:(t.Syntax_==3) with
      | true =>
        have hs3':t.Syntax_=3:=by simpa using hs3
        rw[hs3']at hofI hofT ⊢
        have hlv:v.data.toList.length≤100000:=by rw[Ck];exact hv
        have hlx:n.Text_.data.toList.length≤100000:=by rw[Ck];exact hx
        obtain⟨q1,a1,w1⟩:=whole_impl _ hlv
        obtain⟨q2,a2,w2⟩:=whole_impl _ hlx
        obtain⟨q3,a3,w3⟩:=whole_spec _ hlv
        obtain⟨q4,a4,w4⟩:=whole_spec _ hlx
        rw[← bA_of]at a1 a2 a3 a4
        unfold impl_yofSyntax at hofI hofT
        rw[show ((3:Int)==3)=true from rfl,cond_true,a1]at hofI
        rw[show ((3:Int)==3)=true from rfl,cond_true,a2]at hofT
        have b1:q1.2=ofB 3 v:=by injection hofI
        have b2:q2.2=true:=by injection hofT
        rw[a1,a2,a3,a4,cond_false,cond_true,cond_true]
        simp only[Option.bind_some]
        rw[cmp_sgn,cmpNum_eq]
        rw[← b1]
        cases hq:q1.2 with
        | false=>exact⟨false,rfl,fun _=>rfl,fun h=>by cases h⟩
        | true =>
          refine⟨_,rfl,(fun h=>by cases h),fun _=>⟨_,rfl,?_⟩⟩
          rw[(w1.same w3).2 hq,(w2.same w4).2 b2]
      | false =>
        have hs2:t.Syntax_=2:=by
          have h1':t.Syntax_≠1:=by simpa using hs1
          have h3':t.Syntax_≠3:=by simpa using hs3
          omega
        rw[hs2]
        have:ofB 2 v=true:=rfl
        refine⟨_,rfl,(fun h=>by rw[this]at h;cases h),fun _=>⟨_,?_,rfl⟩⟩
        rw[cond_false,cond_false,cmpText_eq _ _ (sbig hv) (sbig hx),Option.bind_some]
  obtain⟨b,k1,k2,k3⟩:=key
  have hb:cmpP n t v=b:=by unfold cmpP;rw[k1];rfl
  rw[hb]
  exact⟨k1,k2,k3⟩
theorem loop_or{α:Type}(xs:List α)(step:(Bool×Int)→Option ((Bool×Int)⊕Bool))(p:α→Bool)(hs:∀ (i:Nat) (a:α) (v:Bool),xs[i]? = some a→step (v,(i:Int))=some (.inl (v||p a,(i:Int)+1)))
    (he:∀ v,step (v,(xs.length:Int))=some (.inr v)):loopO step (false,0)=some (xs.any p):=by
  have key:Ok (loopO step (false,0)) fun q=>q=xs.any p:=by
    refine Ok.loop (fun k s=>∃ i:Nat,i+k=xs.length∧s=((xs.take i).any p,(i:Int))) ?_ (n:=xs.length) ⟨0,by omega,rfl⟩
    rintro k s ⟨i,hi,rfl⟩
    by_cases hil:i<xs.length
    · rw[hs i xs[i] _ (by simp[hil])]
      refine Ok.some ⟨k - 1,by omega,i+1,by omega,?_⟩
      rw[List.take_succ_eq_append_getElem hil]
      simp only[List.any_append,List.any_cons,List.any_nil,Bool.or_false]
      exact Prod.ext rfl (by simp)
    · have:i=xs.length:=by omega
      subst this
      rw[he,List.take_length]
      exact Ok.some rfl
  obtain⟨q,e,rfl⟩:=key
  exact e
def b2i(b:Bool):Int:=cond b 1 0
theorem sure_some(b:Bool):impl_ysure b=some (b2i b):=by cases b <;> rfl
theorem said_some(b:Bool):spec_l3Said b=some (b2i b):=by cases b <;> rfl
noncomputable def leafV(s:Ah)(e:Ay)(n:Aa):Int :=
  cond (!(Cp s.Types_ n.Attr_).2) 2
    (cond (n.Kind_ == 7) (b2i (decide (((   Eu e.Attrs_ n.Attr_).length : Int) > 0)))
      (cond (n.Kind_==4) (cond (!(ofB (Cp s.Types_ n.Attr_).1.Syntax_ n.Text_)) 2 (b2i ((Eu e.Attrs_ n.Attr_).any fun v=>sameB (Cp s.Types_ n.Attr_).1 v n.Text_)))
        (cond (n.Kind_==8) (cond (((Cp s.Types_ n.Attr_).1.Syntax_==3)||((Cp s.Types_ n.Attr_).1.Syntax_==4)) 2 (b2i ((Eu e.Attrs_ n.Attr_).any fun v=>likeP (Cp s.Types_ n.Attr_).1 n v)))
          (cond (((Cp s.Types_ n.Attr_).1.Syntax_==4) || !(ofB (Cp s.Types_ n.Attr_).1.Syntax_ n.Text_)) 2 (b2i ((Eu e.Attrs_ n.Attr_).any fun v=>cmpP n (Cp s.Types_ n.Attr_).1 v))))))
theorem syn_of {s :          Ah} (h :       Dg s = true) {n : ByteArray} (hf : (   Cp s.Types_ n).2 = true) : 1 ≤ (   Cp s.Types_ n).1.Syntax_ ∧ (   Cp s.Types_ n).1.Syntax_ ≤ 4 := by
  unfold Dg at h
  simp only[Bool.and_eq_true]at h
  have hall:=h.1.2
  have key:∀ (l:List Ar) (i:Nat),Ef (typeOk s.Types_) l i=true→∀ t,t∈l→1≤t.Syntax_∧t.Syntax_≤4:=by
    intro l
    induction l with
    | nil=>intro i _ t ht;cases ht
    | cons a r ih =>
      intro i hi t ht
      rw[Ef,Bool.and_eq_true]at hi
      rcases List.mem_cons.1 ht with rfl | ht
      · have:=hi.1
        unfold typeOk at this
        simp only[Bool.and_eq_true,Bool.not_eq_true',decide_eq_false_iff_not]at this
        omega
      · exact ih (i+1) hi.2 t ht
  unfold Cp at hf ⊢
  cases hc:s.Types_.find? (fun t=>named n t.Name_) with
  | none=>rw[hc]at hf;cases hf
  | some t=>exact key _ 0 hall t (List.mem_of_find?_eq_some hc)
theorem vals_sz{e:Ay}(hz:szE e)(n:ByteArray):(Eu e.Attrs_ n).length≤100000∧∀ v,v∈Eu e.Attrs_ n→v.size≤100000:=by
  obtain⟨_,_,h⟩:=hz
  unfold Eu
  cases hc:e.Attrs_.find? (fun t=>named n t.Name_) with
  | none=>exact⟨by simp,fun v hv=>by cases hv⟩
  | some a =>
    have:=h a (List.mem_of_find?_eq_some hc)
    exact⟨this.2.1,this.2.2⟩
theorem leaf_impl (s :          Ah) (e :      Ay) (n :           Aa) (hs : szS s) (he : szE e) (hok :       Dg s = true) (hx : n.Text_.size ≤ 100000) (hk : n.Kind_ = 4 ∨ n.Kind_ = 5 ∨ n.Kind_ = 6 ∨ n.Kind_ = 7 ∨ n.Kind_ = 8) :
    impl_DirSchema_yleaf s e n=some (leafV s e n):=by
  obtain⟨hvl,hvs⟩:=vals_sz he n.Attr_
  unfold impl_DirSchema_yleaf leafV
  rw[type_impl s _ (lbig hs.1),Option.bind_some,values_impl e _ (lbig he.2.1)]
  generalize hT:Cp s.Types_ n.Attr_=T
  obtain⟨t,found⟩:=T
  dsimp only
  cases found with
  | false=>rfl
  | true =>
    have hsyn:=syn_of hok (n:=n.Attr_) (by rw[hT])
    rw[hT]at hsyn
    dsimp only at hsyn
    generalize Eu e.Attrs_ n.Attr_=vs at *
    have hA:slices_ContainsFunc vs t n=some (vs.any fun v=>sameB t v n.Text_):=index_any vs (slices_IndexFunc_l1 vs t n) (fun v=>sameB t v n.Text_) (fun i a ha=>by
      have hi:=(List.getElem?_eq_some_iff.1 ha).1
      simp only[slices_IndexFunc_l1,impl_DirSchema_yleaf_1,ltn hi,cond_true,Bk,ha,Option.bind_some,same_impl t a n.Text_ (hvs a (List.mem_of_getElem? ha)) hx,Az (i:=i) (by omega)]
      cases sameB t a n.Text_ <;> rfl) (by simp[slices_IndexFunc_l1])
    have hB:slices_ContainsFuncx vs t n=some (vs.any fun v=>likeP t n v):=index_any vs (slices_IndexFuncx_l1 vs t n) (fun v=>likeP t n v) (fun i a ha=>by
      have hi:=(List.getElem?_eq_some_iff.1 ha).1
      simp only[slices_IndexFuncx_l1,ltn hi,cond_true,Bk,ha,Option.bind_some,(like_both t n a (hvs a (List.mem_of_getElem? ha)) hx).1,Az (i:=i) (by omega)]
      cases likeP t n a <;> rfl) (by simp[slices_IndexFuncx_l1])
    have hC:t.Syntax_≠4→ofB t.Syntax_ n.Text_=true→slices_ContainsFuncxx vs n t=some (vs.any fun v=>cmpP n t v):=fun h4 hof=>index_any vs (slices_IndexFuncxx_l1 vs n t) (fun v=>cmpP n t v) (fun i a ha=>by
      have hi:=(List.getElem?_eq_some_iff.1 ha).1
      simp only[slices_IndexFuncxx_l1,ltn hi,cond_true,Bk,ha,Option.bind_some,(below_both n t a (hvs a (List.mem_of_getElem? ha)) hx (by omega) hof).1,Az (i:=i) (by omega)]
      cases cmpP n t a <;> rfl) (by simp[slices_IndexFuncxx_l1])
    rw[of_impl _ _ hx]
    simp only[Bool.not_true,cond_false,Option.bind_some,hA,hB,sure_some,C3]
    have fin:((cond (!(t.Syntax_==4)) (ofB t.Syntax_ n.Text_) default)=(cond (!(t.Syntax_==4)) (ofB t.Syntax_ n.Text_) default))→(cond ((t.Syntax_==4) || !(cond (!(t.Syntax_==4)) (ofB t.Syntax_ n.Text_) default)) (some 2) ((slices_ContainsFuncxx vs n t).bind fun r10=>some (b2i r10))) =
        some (cond ((t.Syntax_==4) || !(ofB t.Syntax_ n.Text_)) 2 (b2i (vs.any fun v=>cmpP n t v))):=fun _=>by
      cases h4:(t.Syntax_==4) with
      | true=>rfl
      | false =>
        cases hof:ofB t.Syntax_ n.Text_ with
        | false=>rfl
        | true =>
          rw[hC (by simpa using h4) hof]
          rfl
    rcases hk with h | h | h | h | h <;> rw[h]
    · cases ofB t.Syntax_ n.Text_ <;> rfl
    · exact fin rfl
    · exact fin rfl
    · rfl
    · cases ((t.Syntax_==3)||(t.Syntax_==4)) <;> rfl
theorem leaf_spec (s :          Ah) (e :      Ay) (f :         A3) (rec : (         Ah ×      Ay ×         A3) → Option Int) (hs : szS s) (he : szE e) (hok :       Dg s = true) (hx : f.n_.Text_.size ≤ 100000) (hk : f.n_.Kind_ = 4 ∨ f.n_.Kind_ = 5 ∨ f.n_.Kind_ = 6 ∨ f.n_.Kind_ = 7 ∨ f.n_.Kind_ = 8) :
    Ca rec s e f=some (leafV s e f.n_):=by
  obtain⟨hvl,hvs⟩:=vals_sz he f.n_.Attr_
  have hb:Ca rec s e f=Cf s e f rec false:=by
    unfold Ca
    rcases hk with h | h | h | h | h <;> rw[h] <;> rfl
  rw[hb]
  unfold Cf leafV
  rw[type_spec s _ (lbig hs.1),Option.bind_some,values_spec e _ (lbig he.2.1),cond_false]
  have h3:(f.n_.Kind_==3)=false:=by rcases hk with h | h | h | h | h <;> rw[h] <;> rfl
  rw[h3,cond_false]
  generalize hn:f.n_=n at *
  generalize hT:Cp s.Types_ n.Attr_=T
  obtain⟨t,found⟩:=T
  dsimp only
  cases found with
  | false=>rfl
  | true =>
    have hsyn:=syn_of hok (n:=n.Attr_) (by rw[hT])
    rw[hT]at hsyn
    dsimp only at hsyn
    generalize Eu e.Attrs_ n.Attr_=vs at *
    have hB:loopO (spec_l3Match_l2 f t vs) (false,0)=some (vs.any fun v=>likeP t n v):=loop_or vs _ _ (fun i a v ha=>by
      have hi:=(List.getElem?_eq_some_iff.1 ha).1
      have hl:=(like_both t n a (hvs a (List.mem_of_getElem? ha)) hx).2
      simp only[spec_l3Match_l2,ltn hi,cond_true,Bk,ha,Option.bind_some,Az (i:=i) (by omega),hn]
      cases h1:(t.Syntax_==1) with
      | true =>
        rw[h1,cond_true]at hl
        obtain⟨c1,e1,_⟩:=caps_some a (hvs a (List.mem_of_getElem? ha))
        obtain⟨c2,e2,_⟩:=caps_some n.Text_ hx
        rw[e1,e2]at hl ⊢
        simp only[Option.bind_some]at hl
        rw[C3,C3,Option.bind_some,Option.bind_some]
        cases v with
        | true=>rfl
        | false=>simp only[Bool.not_false,cond_true,gdO,hl,Option.bind_some]
      | false =>
        rw[h1,cond_false]at hl
        rw[hl,cond_false,C3,Option.bind_some]
        cases v <;> rfl) (fun v=>by simp[spec_l3Match_l2])
    have hS:n.Kind_=4→loopO (spec_l3Match_l3 f t vs) (false,0)=some (vs.any fun v=>sameB t v n.Text_):=fun h4=>loop_or vs _ _ (fun i a v ha=>by
      have hi:=(List.getElem?_eq_some_iff.1 ha).1
      simp only[spec_l3Match_l3,ltn hi,cond_true,Bk,ha,Option.bind_some,Az (i:=i) (by omega),hn,h4,BEq.rfl,same_spec t a n.Text_ (hvs a (List.mem_of_getElem? ha)) hx,C3]
      cases v <;> rfl) (fun v=>by simp[spec_l3Match_l3])
    have hC:n.Kind_=5∨n.Kind_=6→t.Syntax_≠4→ofB t.Syntax_ n.Text_=true→loopO (spec_l3Match_l3 f t vs) (false,0)=some (vs.any fun v=>cmpP n t v):=fun h56 h4 hof=>loop_or vs _ _ (fun i a v ha=>by
      have hi:=(List.getElem?_eq_some_iff.1 ha).1
      have hav:=hvs a (List.mem_of_getElem? ha)
      obtain⟨_,k2,k3⟩:=below_both n t a hav hx (by omega) hof
      have hn4:(n.Kind_==4)=false:=by rcases h56 with h | h <;> rw[h] <;> rfl
      simp only[spec_l3Match_l3,ltn hi,cond_true,Bk,ha,Option.bind_some,Az (i:=i) (by omega),hn,hn4,cond_false,of_spec t.Syntax_ a hav]
      cases hb:ofB t.Syntax_ a with
      | false=>rw[k2 hb,Bool.or_false];rfl
      | true =>
        obtain⟨c,k4,k5⟩:=k3 hb
        rw[k4,k5,C3]
        rcases h56 with h | h
        · rw[h]
          cases v with
          | true=>rfl
          | false=>simp
        · rw[h]
          cases v with
          | true=>rfl
          | false=>simp) (fun v=>by simp[spec_l3Match_l3])
    rw[of_spec _ _ hx]
    simp only[Bool.not_true,cond_false,Option.bind_some,hB,said_some]
    have fin:n.Kind_=5∨n.Kind_=6→(cond ((!(ofB t.Syntax_ n.Text_))||((n.Kind_ != 4)&&(t.Syntax_==4))) (some 2) ((loopO (spec_l3Match_l3 f t vs) (false,0)).bind fun v50=>some (b2i v50))) =
        some (cond ((t.Syntax_==4) || !(ofB t.Syntax_ n.Text_)) 2 (b2i (vs.any fun v=>cmpP n t v))):=fun h56=>by
      have hn4:(n.Kind_ != 4)=true:=by rcases h56 with h | h <;> rw[h] <;> rfl
      rw[hn4]
      cases h4:(t.Syntax_==4) with
      | true=>cases ofB t.Syntax_ n.Text_ <;> rfl
      | false =>
        cases hof:ofB t.Syntax_ n.Text_ with
        | false=>rfl
        | true =>
          rw[hC h56 (by simpa using h4) hof]
          rfl
    have hgt:decide (t.Syntax_ > 2)=((t.Syntax_==3)||(t.Syntax_==4)):=by
      rcases (show t.Syntax_=1∨t.Syntax_=2∨t.Syntax_=3∨t.Syntax_=4 by omega) with h | h | h | h <;> rw[h] <;> rfl
    rcases hk with h | h | h | h | h
    · have:=hS h
      rw[this,h]
      cases ofB t.Syntax_ n.Text_ <;> rfl
    · have:=fin (.inl h)
      rw[h]at this ⊢
      exact this
    · have:=fin (.inr h)
      rw[h]at this ⊢
      exact this
    · rw[h];rfl
    · rw[h,hgt]
      cases ((t.Syntax_==3)||(t.Syntax_==4)) <;> rfl
end Go.G36.FR
namespace Go.G36.FR
set_option linter.all false
open Go Go.G36 Go.Proofs Go.G36.MT

def Lo{α:Type}(o o':Option α):Prop:=∀ r,o=some r→o' = some r
theorem Lo.refl{α:Type}(o:Option α):Lo o o:=fun _ h=>h
theorem Lo.bind{α β:Type}{o o':Option α}{f f':α→Option β}(h:Lo o o')(k:∀ r,Lo (f r) (f' r)):Lo (o.bind f) (o'.bind f'):=fun r hr=>by
  cases o with
  | none=>cases hr
  | some x=>rw[h x rfl];exact k x r hr
theorem Lo.cond{α:Type}{b:Bool}{x y x' y':Option α}(h1:Lo x x')(h2:Lo y y'):Lo (cond b x y) (cond b x' y'):=by
  cases b
  · exact h2
  · exact h1
theorem Lo.gd{α:Type}[Inhabited α]{b:Bool}{x x':Option α}(h1:Lo x x'):Lo (gdO b x) (gdO b x'):=Lo.cond h1 (Lo.refl _)
theorem iterL_lo{S R:Type}{f f':S→Option (S⊕R)}(h:∀ s,Lo (f s) (f' s)):∀ n s,Lo (Ei f n s) (Ei f' n s):=by
  intro n
  induction n with
  | zero=>intro s;exact Lo.refl _
  | succ n ih =>
    intro s r hr
    simp only[Ei]at hr ⊢
    cases hs:f s with
    | none=>rw[hs]at hr;cases hr
    | some x =>
      rw[hs]at hr
      rw[h s x hs]
      cases x with
      | inl s'=>exact ih s' r hr
      | inr q=>exact hr
theorem Lo.loop{S R:Type}{f f':S→Option (S⊕R)}(h:∀ s,Lo (f s) (f' s))(s:S):Lo (loopO f s) (loopO f' s):=fun r hr=>by
  obtain⟨n,hn⟩:=loopO_ex hr
  exact loopO_of (iterL_lo h n s r hn)
theorem fix_eq{A R:Type}{b:(A→Option R)→A→Option R}(mono:∀ f g:A→Option R,(∀ x,Lo (f x) (g x))→∀ x,Lo (b f x) (b g x)){n:Nat}{x:A}{r:R}(h:Dk b n x=some r):fixO b x=some r :=
  fixO_of (fun f g h x r=>mono f g (fun x r=>h x r) x r) h

abbrev nulF:A3:=⟨(⟨0,e0,e0,0⟩:Aa),[]⟩
def    Da (g : Nat → Option (        A3 × Nat)) : Nat → Nat → Option (List         A3 × Nat)
  | 0,a=>some ([],a)
  | k + 1, a => match g a with
    | none=>none
    | some (t,mid)=>match Da g k mid with
      | none=>none
      | some (ts,nx)=>some (t :: ts,nx)
def tk (f : List           Aa) : Nat → Nat → Option (        A3 × Nat)
  | 0,_=>none
  | d + 1, a => match f[a]? with
    | none=>none
    | some n=>if n.Kids_<0∨20<n.Kids_ then none else match Da (tk f d) n.Kids_.toNat (a+1) with
      | none=>none
      | some (ts,nx)=>some (⟨n,ts.map (A7 false)⟩,nx)
theorem kidsT_up {g : Nat → Option (        A3 × Nat)} {P :         A3 → Nat → Nat → Prop} (hg : ∀ a t nx, g a = some (t, nx) → a < nx) : ∀ (k a : Nat) (ts : List         A3) (nx : Nat),    Da g k a = some (ts, nx) → a ≤ nx ∧ ts.length = k
  | 0,a,ts,nx,h=>by simp[Da]at h;obtain⟨rfl,rfl⟩:=h;exact⟨Nat.le_refl _,rfl⟩
  | k + 1, a, ts, nx, h => by
    rw[Da]at h
    cases h1:g a with
    | none=>rw[h1]at h;cases h
    | some q =>
      obtain⟨t,mid⟩:=q
      rw[h1]at h
      dsimp only at h
      cases h2:Da g k mid with
      | none=>rw[h2]at h;cases h
      | some q =>
        obtain⟨ts',nx'⟩:=q
        rw[h2]at h
        dsimp only at h
        injection h with h;injection h with e1 e2
        subst e1;subst e2
        have:=kidsT_up (P:=P) hg k mid ts' nx' h2
        have:=hg a t mid h1
        exact⟨by omega,by simp;omega⟩
theorem tk_up (f : List           Aa) : ∀ (d a : Nat) (t :         A3) (nx : Nat), tk f d a = some (t, nx) → a < nx
  | 0,a,t,nx,h=>by cases h
  | d + 1, a, t, nx, h => by
    rw[tk]at h
    cases h1:f[a]? with
    | none=>rw[h1]at h;cases h
    | some n =>
      rw[h1]at h
      dsimp only at h
      split at h
      · cases h
      · cases h2:Da (tk f d) n.Kids_.toNat (a+1) with
        | none=>rw[h2]at h;cases h
        | some q =>
          obtain⟨ts,nx'⟩:=q
          rw[h2]at h
          dsimp only at h
          injection h with h;injection h with e1 e2
          subst e2
          have:=(kidsT_up (P:=fun _ _ _=>True) (fun a t nx h=>tk_up f d a t nx h) _ _ _ _ h2).1
          omega
theorem kidsT_le {g : Nat → Option (        A3 × Nat)} {L : Nat} (hg : ∀ a t nx, g a = some (t, nx) → nx ≤ L) : ∀ (k a : Nat) (ts : List         A3) (nx : Nat),    Da g k a = some (ts, nx) → a ≤ L → nx ≤ L
  | 0,a,ts,nx,h,hl=>by simp[Da]at h;obtain⟨rfl,rfl⟩:=h;exact hl
  | k + 1, a, ts, nx, h, hl => by
    rw[Da]at h
    cases h1:g a with
    | none=>rw[h1]at h;cases h
    | some q =>
      obtain⟨t,mid⟩:=q
      rw[h1]at h
      dsimp only at h
      cases h2:Da g k mid with
      | none=>rw[h2]at h;cases h
      | some q =>
        obtain⟨ts',nx'⟩:=q
        rw[h2]at h
        dsimp only at h
        injection h with h;injection h with e1 e2
        subst e2
        exact kidsT_le hg k mid ts' nx' h2 (hg a t mid h1)
theorem tk_le (f : List           Aa) : ∀ (d a : Nat) (t :         A3) (nx : Nat), tk f d a = some (t, nx) → nx ≤ f.length
  | 0,a,t,nx,h=>by cases h
  | d + 1, a, t, nx, h => by
    rw[tk]at h
    cases h1:f[a]? with
    | none=>rw[h1]at h;cases h
    | some n =>
      have ha:=(List.getElem?_eq_some_iff.1 h1).1
      rw[h1]at h
      dsimp only at h
      split at h
      · cases h
      · cases h2:Da (tk f d) n.Kids_.toNat (a+1) with
        | none=>rw[h2]at h;cases h
        | some q =>
          obtain⟨ts,nx'⟩:=q
          rw[h2]at h
          dsimp only at h
          injection h with h;injection h with e1 e2
          subst e2
          exact kidsT_le (fun a t nx h=>tk_le f d a t nx h) _ _ _ _ h2 (by omega)
theorem tk_inv {f : List           Aa} {d a : Nat} {t :         A3} {nx : Nat} (h : tk f (d + 1) a = some (t, nx)) :
    ∃ n ts,f[a]? = some n∧0≤n.Kids_∧n.Kids_≤20∧Da (tk f d) n.Kids_.toNat (a+1)=some (ts,nx)∧t=⟨n,ts.map (A7 false)⟩:=by
  rw[tk]at h
  cases h1:f[a]? with
  | none=>rw[h1]at h;cases h
  | some n =>
    rw[h1]at h
    dsimp only at h
    split at h
    · cases h
    · next hk =>
      cases h2:Da (tk f d) n.Kids_.toNat (a+1) with
      | none=>rw[h2]at h;cases h
      | some q =>
        obtain⟨ts,nx'⟩:=q
        rw[h2]at h
        dsimp only at h
        injection h with h;injection h with e1 e2
        subst e1;subst e2
        exact⟨n,ts,rfl,by omega,by omega,h2,rfl⟩
theorem kids_inv{g:Nat→Option (A3×Nat)}{k a:Nat}{ts:List A3}{nx:Nat}(h:Da g (k+1) a=some (ts,nx)):∃ t mid ts',g a=some (t,mid)∧Da g k mid=some (ts',nx)∧ts=t :: ts':=by
  rw[Da]at h
  cases h1:g a with
  | none=>rw[h1]at h;cases h
  | some q =>
    obtain⟨t,mid⟩:=q
    rw[h1]at h
    dsimp only at h
    cases h2:Da g k mid with
    | none=>rw[h2]at h;cases h
    | some q =>
      obtain⟨ts',nx'⟩:=q
      rw[h2]at h
      dsimp only at h
      injection h with h;injection h with e1 e2
      subst e1;subst e2
      exact⟨t,mid,ts',rfl,h2,rfl⟩

def takeR:Option (A3×Nat)→A3×Int
  | some (t,nx)=>(t,(nx:Int))
  | none=>(nulF,-1)
theorem take_mono:∀ g h:((List Aa)×Int×Int)→Option (A3×Int),(∀ x,Lo (g x) (h x))→∀ x,Lo ((fun rec (x:(List Aa)×Int×Int)=>match x with | (a0,a1,a2)=>Cj rec a0 a1 a2) g x) ((fun rec (x:(List Aa)×Int×Int)=>match x with | (a0,a1,a2)=>Cj rec a0 a1 a2) h x):=fun g h hl x=>by
  obtain⟨a0,a1,a2⟩:=x
  show Lo (Cj g a0 a1 a2) (Cj h a0 a1 a2)
  unfold Cj
  refine Lo.bind (Lo.refl _) fun _=>Lo.bind (Lo.refl _) fun _=>Lo.cond (Lo.refl _) (Lo.bind (Lo.refl _) fun _=>Lo.bind (Lo.loop (fun s=>?_) _) fun _=>Lo.refl _)
  unfold spec_l3Take_l1
  obtain⟨b,v,w⟩:=s
  exact Lo.cond (Lo.bind (hl _) fun _=>Lo.refl _) (Lo.refl _)
theorem take_it (f : List           Aa) (hf : f.length ≤ 100000) : ∀ (d a : Nat) (deep : Int), 1 ≤ deep → deep + d = 21 →
    Dk (fun rec (x:(List Aa)×Int×Int)=>match x with | (a0,a1,a2)=>Cj rec a0 a1 a2) (d+1) (f,(a:Int),deep)=some (takeR (tk f d a))
  | 0,a,deep,h1d,hd=>by
    show Cj _ f (a:Int) deep=_
    unfold Cj
    rw[show decide (deep > 20)=true from decide_eq_true (by omega)]
    simp only[Bool.or_true,Bool.not_true,gdO,cond_false,Option.bind_some,Bool.true_or,cond_true]
    rfl
  | d + 1, a, deep, h1d, hd => by
    generalize hrec:Dk (fun rec (x:(List Aa)×Int×Int)=>match x with | (a0,a1,a2)=>Cj rec a0 a1 a2) (d+1)=rec
    have ih:∀ a:Nat,rec (f,(a:Int),deep+1)=some (takeR (tk f d a)):=fun a=>by rw[← hrec];exact take_it f hf d a (deep+1) (by omega) (by omega)
    show Dk _ (d+1+1) _=_
    rw[Dk,hrec]
    show Cj rec f (a:Int) deep=_
    unfold Cj
    rw[show decide (deep > 20)=false from decide_eq_false (by omega),tk]
    by_cases ha:a<f.length
    · have e1 : decide ((a : Int) ≥ (f.length : Int)) = false := decide_eq_false (by omega)
      have e2:f[a]? = some f[a]:=by simp[ha]
      rw[e1,Bk,e2]
      simp only[Bool.or_false,Bool.not_false,C3,cond_true,Option.bind_some,Bool.false_or]
      have hcond:(decide (f[a].Kids_<0)||decide ((cond (!decide (f[a].Kids_<0)) f[a] default).Kids_ > 20))=decide (f[a].Kids_<0∨20<f[a].Kids_):=by
        by_cases h0:f[a].Kids_<0
        · rw[decide_eq_true h0,Bool.true_or];exact (decide_eq_true (.inl h0)).symm
        · rw[decide_eq_false h0,Bool.not_false,cond_true,Bool.false_or]
          by_cases h1:20<f[a].Kids_
          · rw[decide_eq_true (show f[a].Kids_ > 20 from h1),decide_eq_true (.inr h1)]
          · rw[decide_eq_false (show ¬ f[a].Kids_ > 20 from h1),decide_eq_false (by omega)]
      rw[hcond]
      by_cases hk:f[a].Kids_<0∨20<f[a].Kids_
      · rw[decide_eq_true hk,if_pos hk];rfl
      · rw[decide_eq_false hk,if_neg hk,cond_false]
        have loop:∀ (k m c:Nat) (acc:List (List V)),c+k=f[a].Kids_.toNat→acc.length=c→loopO (spec_l3Take_l1 f deep rec) (⟨f[a],acc⟩,(m:Int),(c:Int)) =
            some (match Da (tk f d) k m with | some (ts,nx)=>.inl (⟨f[a],acc++ts.map (A7 false)⟩,(nx:Int)) | none=>.inr (nulF,-1)):=by
          intro k
          induction k with
          | zero =>
            intro m c acc hc hl
            refine Cc ?_
            unfold spec_l3Take_l1
            dsimp only
            rw[decide_eq_false (by omega),cond_false,Da]
            simp
          | succ k ihk =>
            intro m c acc hc hl
            have hst:spec_l3Take_l1 f deep rec (⟨f[a],acc⟩,(m:Int),(c:Int))=some (match tk f d m with | some (t,mid)=>.inl (⟨f[a],acc ++ [A7 false t]⟩,(mid:Int),((c+1:Nat):Int)) | none=>.inr (.inr (nulF,-1))):=by
              unfold spec_l3Take_l1
              dsimp only
              rw[decide_eq_true (by omega),cond_true,IntWalk.i64_in (deep+1) (by omega),ih m,Option.bind_some]
              cases htk:tk f d m with
              | none=>rfl
              | some q =>
                obtain⟨t,mid⟩:=q
                show cond (decide ((mid:Int)<0)) _ _=_
                rw[decide_eq_false (by omega),cond_false,B4 (by simp;omega),Option.bind_some,Az (by omega)]
                rfl
            rw[Da]
            cases htk:tk f d m with
            | none=>rw[htk]at hst;exact Cc hst
            | some q =>
              obtain⟨t,mid⟩:=q
              rw[htk]at hst
              dsimp only at hst ⊢
              rw[D1 hst,ihk mid (c+1) _ (by omega) (by simp;omega)]
              cases Da (tk f d) k mid with
              | none=>rfl
              | some q=>obtain⟨ts,nx⟩:=q;simp
        have hl:=loop f[a].Kids_.toNat (a+1) 0 [] (by omega) rfl
        rw[Az (by omega),show ((a:Int)+1)=((a+1:Nat):Int) by simp]
        have hl':loopO (spec_l3Take_l1 f deep rec) (⟨f[a],[]⟩,((a+1:Nat):Int),0)=_:=hl
        rw[hl',Option.bind_some]
        cases Da (tk f d) f[a].Kids_.toNat (a+1) with
        | none=>rfl
        | some q=>obtain⟨ts,nx⟩:=q;simp[takeR]
    · have e1:decide ((a:Int)≥(f.length:Int))=true:=decide_eq_true (by omega)
      have e2:f[a]? = none:=by simp;omega
      rw[e1,e2]
      rfl
theorem take_eq(f:List Aa)(hf:f.length≤100000):spec_l3Take f 0 1=some (takeR (tk f 20 0)):=by
  have:=take_it f hf 20 0 1 (by omega) (by omega)
  exact fix_eq take_mono this

def treeR:Option (A3×Nat)→Int
  | some (_,nx)=>(nx:Int)
  | none=>-1
theorem tree_mono:∀ g h:((List Aa)×Int×Int)→Option Int,(∀ x,Lo (g x) (h x))→∀ x,Lo ((fun rec (x:(List Aa)×Int×Int)=>match x with | (a0,a1,a2)=>Cq rec a0 a1 a2) g x) ((fun rec (x:(List Aa)×Int×Int)=>match x with | (a0,a1,a2)=>Cq rec a0 a1 a2) h x):=fun g h hl x=>by
  obtain⟨a0,a1,a2⟩:=x
  show Lo (Cq g a0 a1 a2) (Cq h a0 a1 a2)
  unfold Cq
  refine Lo.cond (Lo.refl _) (Lo.bind (Lo.refl _) fun _=>Lo.bind (Lo.loop (fun s=>?_) _) fun _=>Lo.refl _)
  unfold impl_ytree_l1
  obtain⟨v,w⟩:=s
  exact Lo.cond (Lo.bind (hl _) fun _=>Lo.refl _) (Lo.refl _)
theorem tree_it (f : List           Aa) (hf : f.length ≤ 100000) (hk : ∀ n, n ∈ f → 0 ≤ n.Kids_ ∧ n.Kids_ ≤ 20) : ∀ (d a : Nat) (deep : Int), 1 ≤ deep → deep + d = 21 →
    Dk (fun rec (x:(List Aa)×Int×Int)=>match x with | (a0,a1,a2)=>Cq rec a0 a1 a2) (d+1) (f,(a:Int),deep)=some (treeR (tk f d a))
  | 0,a,deep,h1d,hd=>by
    show Cq _ f (a:Int) deep=_
    unfold Cq
    rw[show decide (deep > 20)=true from decide_eq_true (by omega),Bool.or_true,cond_true]
    rfl
  | d + 1, a, deep, h1d, hd => by
    generalize hrec:Dk (fun rec (x:(List Aa)×Int×Int)=>match x with | (a0,a1,a2)=>Cq rec a0 a1 a2) (d+1)=rec
    have ih:∀ a:Nat,rec (f,(a:Int),deep+1)=some (treeR (tk f d a)):=fun a=>by rw[← hrec];exact tree_it f hf hk d a (deep+1) (by omega) (by omega)
    show Dk _ (d+1+1) _=_
    rw[Dk,hrec]
    show Cq rec f (a:Int) deep=_
    unfold Cq
    rw[show decide (deep > 20)=false from decide_eq_false (by omega),tk]
    by_cases ha:a<f.length
    · have e1 : decide ((a : Int) ≥ (f.length : Int)) = false := decide_eq_false (by omega)
      have e2:f[a]? = some f[a]:=by simp[ha]
      have hka:=hk f[a] (List.getElem_mem ha)
      rw[e1,Bk,e2]
      dsimp only
      rw[if_neg (by omega),Bool.or_false,cond_false,Option.bind_some]
      have loop:∀ (k m c:Nat),c+k=f[a].Kids_.toNat→m≤200000000→loopO (impl_ytree_l1 f deep rec f[a]) ((m:Int) - 1,(c:Int)) =
          some (match Da (tk f d) k m with | some (ts,nx)=>.inl ((nx:Int) - 1) | none=>.inr (-1)):=by
        intro k
        induction k with
        | zero =>
          intro m c hc hm
          refine Cc ?_
          unfold impl_ytree_l1
          dsimp only
          rw[decide_eq_false (by omega),cond_false,Da]
        | succ k ihk =>
          intro m c hc hm
          have hst:impl_ytree_l1 f deep rec f[a] ((m:Int) - 1,(c:Int))=some (match tk f d m with | some (t,mid)=>.inl ((mid:Int) - 1,((c+1:Nat):Int)) | none=>.inr (.inr (-1))):=by
            unfold impl_ytree_l1
            dsimp only
            rw[decide_eq_true (by omega),cond_true,IntWalk.i64_in (deep+1) (by omega),IntWalk.i64_in ((m:Int) - 1+1) (by omega),show (m:Int) - 1+1=(m:Int) by omega,ih m,Option.bind_some]
            cases htk:tk f d m with
            | none=>rfl
            | some q =>
              obtain⟨t,mid⟩:=q
              have hup:=tk_up f d m t mid htk
              have hlt:=tk_le f d m t mid htk
              rw[show treeR (some (t,mid))=(mid:Int) from rfl,IntWalk.i64_in ((mid:Int) - 1) (by omega),decide_eq_false (by omega),cond_false,Az (by omega)]
              rfl
          rw[Da]
          cases htk:tk f d m with
          | none=>rw[htk]at hst;exact Cc hst
          | some q =>
            obtain⟨t,mid⟩:=q
            rw[htk]at hst
            dsimp only at hst ⊢
            rw[D1 hst,ihk mid (c+1) (by omega) (by have:=tk_le f d m t mid htk;omega)]
            cases Da (tk f d) k mid with
            | none=>rfl
            | some q=>obtain⟨ts,nx⟩:=q;rfl
      have hl:=loop f[a].Kids_.toNat (a+1) 0 (by omega) (by omega)
      rw[show ((a+1:Nat):Int) - 1=(a:Int) by omega]at hl
      have hl':loopO (impl_ytree_l1 f deep rec f[a]) ((a:Int),0)=_:=hl
      rw[hl',Option.bind_some]
      cases hq:Da (tk f d) f[a].Kids_.toNat (a+1) with
      | none=>rfl
      | some q =>
        obtain⟨ts,nx⟩:=q
        have hle:=kidsT_le (fun a t nx h=>tk_le f d a t nx h) _ _ _ _ hq (by omega)
        show some (IntKind.i64.wrap ((nx:Int) - 1+1))=_
        rw[IntWalk.i64_in _ (by omega),show (nx:Int) - 1+1=(nx:Int) by omega]
        rfl
    · have e1:decide ((a:Int)≥(f.length:Int))=true:=decide_eq_true (by omega)
      have e2:f[a]? = none:=by simp;omega
      rw[e1,e2]
      rfl
theorem tree_eq(f:List Aa)(hf:f.length≤100000)(hk:∀ n,n∈f→0≤n.Kids_∧n.Kids_≤20):impl_ytree f 0 1=some (treeR (tk f 20 0)):=by
  have:=tree_it f hf hk 20 0 1 (by omega) (by omega)
  exact fix_eq tree_mono this
end Go.G36.FR
namespace Go.G36.FR
set_option linter.all false
open Go Go.G36 Go.Proofs Go.G36.MT

def emptB(a:ByteArray):Bool:=a.toList==e0.toList
def D8(n:Aa):Bool:=(((Ch n.Attr_&&decide ((n.Text_.size:Int)≥1))&&decide ((n.Text_.size:Int)≤200))&&C9 n.Text_)&&(n.Kids_==0)
def rightB (n :           Aa) : Bool :=
  cond (n.Kind_==1) (emptB n.Attr_&&emptB n.Text_) (cond (n.Kind_==2) (emptB n.Attr_&&emptB n.Text_) (cond (n.Kind_==3) ((emptB n.Attr_&&emptB n.Text_)&&(n.Kids_==1))
    (cond (n.Kind_==7) ((Ch n.Attr_&&emptB n.Text_)&&(n.Kids_==0)) (cond (n.Kind_==4) (D8 n) (cond (n.Kind_==5) (D8 n) (cond (n.Kind_==6) (D8 n)
      (cond (n.Kind_==8) (D8 n&&(E7 n.Text_.data.toList).isSome) false)))))))
def goodN(n:Aa):Bool:=rightB n&&(decide (n.Kids_≥0)&&decide (n.Kids_≤20))
theorem kinds(k:Int):k=1∨k=2∨k=3∨k=4∨k=5∨k=6∨k=7∨k=8∨((k==1)=false∧(k==2)=false∧(k==3)=false∧(k==4)=false∧(k==5)=false∧(k==6)=false∧(k==7)=false∧(k==8)=false):=by
  by_cases h:1≤k∧k≤8
  · omega
  · refine .inr (.inr (.inr (.inr (.inr (.inr (.inr (.inr ?_)))))))
    refine⟨?_,?_,?_,?_,?_,?_,?_,?_⟩ <;> exact beq_eq_false_iff_ne.2 (by omega)
theorem sized_two(a:ByteArray):E3 a 1 200=(decide ((a.size:Int)≥1)&&decide ((a.size:Int)≤200)):=by
  unfold E3
  by_cases h1:(a.size:Int)≥1
  · rw[decide_eq_true h1,decide_eq_false (by omega),Bool.false_or,Bool.true_and]
    by_cases h2:(a.size:Int)≤200
    · rw[decide_eq_true h2,decide_eq_false (by omega)];rfl
    · rw[decide_eq_false h2,decide_eq_true (by omega)];rfl
  · rw[decide_eq_false h1,decide_eq_true (by omega)];rfl
theorem pattern_ok(a:ByteArray)(h:a.size≤100000):∃ q,impl_ypattern a=some q∧q.2=(E7 a.data.toList).isSome:=by
  obtain⟨q,e,hq⟩:=pattern_impl a.data.toList (by rw[Ck];exact h)
  rw[← bA_of]at e
  refine⟨q,e,?_⟩
  unfold TokR at hq
  cases ht:E7 a.data.toList with
  | none=>rw[ht]at hq;rw[hq];rfl
  | some ts=>rw[ht]at hq;rw[hq];rfl
theorem tokens_ok(a:ByteArray)(h:a.size≤100000):∃ q,spec_l1Tokens a=some q∧q.2=(E7 a.data.toList).isSome:=by
  obtain⟨q,e,hq⟩:=tokens_spec a.data.toList (by rw[Ck];exact h)
  rw[← bA_of]at e
  refine⟨q,e,?_⟩
  unfold TokR at hq
  cases ht:E7 a.data.toList with
  | none=>rw[ht]at hq;rw[hq];rfl
  | some ts=>rw[ht]at hq;rw[hq];rfl
theorem printed_two(a:ByteArray)(h:a.size≤100000):impl_yprinted a 1 200=some ((decide ((a.size:Int)≥1)&&decide ((a.size:Int)≤200))&&C9 a):=by
  rw[printed_impl _ _ _ (sbig h),← sized_two];rfl
theorem node_impl(n:Aa)(h:n.Text_.size≤100000):impl_ygoodNode n=some (goodN n):=by
  obtain⟨q,e,hq⟩:=pattern_ok n.Text_ h
  have hl:((gdO (n.Kids_==0) (B5 n.Attr_)).bind fun r3=>(gdO ((n.Kids_==0)&&r3) (impl_yprinted n.Text_ 1 200)).bind fun r5=>some (((n.Kids_==0)&&r3)&&r5))=some (D8 n):=by
    rw[impl_good,printed_two _ h]
    unfold D8
    cases (n.Kids_==0) <;> cases Ch n.Attr_ <;> cases decide ((n.Text_.size:Int)≥1) <;> cases decide ((n.Text_.size:Int)≤200) <;> cases C9 n.Text_ <;> rfl
  have h0:∀ b:Bool,(n.Kids_==0)=true∨b=false→b=(b&&(decide (n.Kids_≥0)&&decide (n.Kids_≤20))):=fun b hb=>by
    rcases hb with hb | hb
    · have:n.Kids_=0:=by simpa using hb
      rw[this];cases b <;> rfl
    · rw[hb];rfl
  have hlk:D8 n=(D8 n&&(decide (n.Kids_≥0)&&decide (n.Kids_≤20))):=h0 _ (by
    unfold D8
    cases (n.Kids_==0)
    · right;simp
    · left;rfl)
  unfold impl_ygoodNode impl_ygoodNode_j1 impl_ygoodNode_j2 goodN rightB
  rw[hl]
  rcases kinds n.Kind_ with hk | hk | hk | hk | hk | hk | hk | hk | ⟨k1,k2,k3,k4,k5,k6,k7,k8⟩
  · rw[hk]
    show some _=some _
    congr 1
    unfold emptB
    cases (n.Attr_.toList==e0.toList) <;> cases (n.Text_.toList==e0.toList) <;> cases decide (n.Kids_≥0) <;> cases decide (n.Kids_≤20) <;> rfl
  · rw[hk]
    show some _=some _
    congr 1
    unfold emptB
    cases (n.Attr_.toList==e0.toList) <;> cases (n.Text_.toList==e0.toList) <;> cases decide (n.Kids_≥0) <;> cases decide (n.Kids_≤20) <;> rfl
  · rw[hk]
    show some (((n.Attr_.toList==e0.toList)&&(n.Text_.toList==e0.toList))&&(n.Kids_==1))=some ((((n.Attr_.toList==e0.toList)&&(n.Text_.toList==e0.toList))&&(n.Kids_==1))&&(decide (n.Kids_≥0)&&decide (n.Kids_≤20)))
    cases h1:(n.Kids_==1) with
    | false=>simp
    | true =>
      have:n.Kids_=1:=by simpa using h1
      rw[this];simp
  · rw[hk];exact congrArg some hlk
  · rw[hk];exact congrArg some hlk
  · rw[hk];exact congrArg some hlk
  · rw[hk]
    show ((gdO (n.Kids_==0) (B5 n.Attr_)).bind fun r7=>some (((n.Kids_==0)&&r7)&&(n.Text_.toList==e0.toList)))=some (((Ch n.Attr_&&emptB n.Text_)&&(n.Kids_==0))&&(decide (n.Kids_≥0)&&decide (n.Kids_≤20)))
    rw[impl_good,C3,Option.bind_some,← h0 _ (by
      cases (n.Kids_==0)
      · right;simp
      · left;rfl)]
    unfold emptB
    cases (n.Kids_==0) <;> cases Ch n.Attr_ <;> cases (n.Text_.toList==e0.toList) <;> rfl
  · rw[hk]
    show ((impl_ypattern n.Text_).bind fun q=>(match q with | (r9,r10)=>(gdO (n.Kids_==0) (B5 n.Attr_)).bind fun r12=>(gdO ((n.Kids_==0)&&r12) (impl_yprinted n.Text_ 1 200)).bind fun r14=>some ((((n.Kids_==0)&&r12)&&r14)&&r10)))=some ((D8 n&&(E7 n.Text_.data.toList).isSome)&&(decide (n.Kids_≥0)&&decide (n.Kids_≤20)))
    rw[e,Option.bind_some,impl_good,printed_two _ h,← hq,← h0 _ (by
      unfold D8
      cases (n.Kids_==0)
      · right;simp
      · left;rfl)]
    obtain⟨q1,q2⟩:=q
    unfold D8
    cases (n.Kids_==0) <;> cases Ch n.Attr_ <;> cases decide ((n.Text_.size:Int)≥1) <;> cases decide ((n.Text_.size:Int)≤200) <;> cases C9 n.Text_ <;> cases q2 <;> rfl
  · rw[k1,k2,k3,k4,k5,k6,k7,k8]
    rfl

theorem dec_c(t:A3):dec_T_spec_l3F (A7 false t)=some t:=by
  obtain⟨⟨k,a,x,c⟩,ks⟩:=t
  show some (⟨⟨k,a,x,c⟩,ks.map Ek⟩:A3)=_
  have:ks.map Ek=ks:=by
    rw[show (Ek:List V→List V)=fun x=>x from rfl]
    exact List.map_id' ks
  rw[this]
def R(f:List Aa)(a b:Nat):Prop:=∀ i n,a≤i→i<b→f[i]? = some n→rightB n=true
theorem R.app{f:List Aa}{a b c:Nat}(h1:a≤b)(h2:b≤c):R f a c↔R f a b∧R f b c:=by
  constructor
  · exact fun h=>⟨fun i n x y=>h i n x (by omega),fun i n x y=>h i n (by omega) y⟩
  · rintro⟨h,k⟩ i n x y e
    by_cases hi:i<b
    · exact h i n x hi e
    · exact k i n (by omega) y e
theorem R.one{f:List Aa}{a:Nat}{n:Aa}(h:f[a]? = some n):R f a (a+1)↔rightB n=true:=by
  constructor
  · exact fun hr=>hr a n (Nat.le_refl _) (by omega) h
  · intro hr i m h1 h2 e
    have:i=a:=by omega
    subst this
    rw[h]at e;cases e;exact hr
theorem R.nil{f:List Aa}{a:Nat}:R f a a:=fun i n x y=>by omega
theorem right_mono:∀ g h:A3→Option Bool,(∀ x,Lo (g x) (h x))→∀ x,Lo ((fun rec x=>match x with | a0=>Ce rec a0) g x) ((fun rec x=>match x with | a0=>Ce rec a0) h x):=fun g h hl x=>by
  show Lo (Ce g x) (Ce h x)
  have j1:∀ v,Lo (Bz x g v) (Bz x h v):=fun v=>by
    unfold Bz
    refine Lo.bind (Lo.loop (fun s=>?_) _) fun _=>Lo.refl _
    unfold spec_l3Right_l1
    obtain⟨b,w⟩:=s
    exact Lo.cond (Lo.bind (Lo.refl _) fun _=>Lo.bind (Lo.refl _) fun _=>Lo.bind (Lo.gd (hl _)) fun _=>Lo.refl _) (Lo.refl _)
  have j3:∀ v,Lo (B9 x g v) (B9 x h v):=fun v=>by
    unfold B9
    exact Lo.cond (Lo.bind (Lo.refl _) fun _=>Lo.bind (Lo.refl _) fun _=>Lo.bind (Lo.refl _) fun _=>Lo.cond (j1 _) (j1 _)) (j1 _)
  have j2:∀ v,Lo (spec_l3Right_j2 x g v) (spec_l3Right_j2 x h v):=fun v=>by
    unfold spec_l3Right_j2
    exact Lo.cond (j1 _) (Lo.cond (j1 _) (Lo.cond (Lo.bind (Lo.refl _) fun _=>j1 _) (Lo.cond (j3 _) (Lo.cond (j3 _) (Lo.cond (j3 _) (j3 _))))))
  unfold Ce
  exact Lo.cond (j2 _) (j2 _)
theorem right_node(t:A3)(rec:A3→Option Bool)(h:t.n_.Text_.size≤100000)(hk:(t.kids_.length:Int)=t.n_.Kids_):Ce rec t=Bz t rec (rightB t.n_):=by
  obtain⟨q,e,hq⟩:=tokens_ok t.n_.Text_ h
  have l3:∀ w:Bool,t.n_.Kind_≠8→B9 t rec w=Bz t rec (w&&D8 t.n_):=fun w h8=>by
    unfold B9 D8
    rw[spec_good,printed_spec _ (sbig h),e,hk,show (t.n_.Kind_==8)=false from beq_eq_false_iff_ne.2 h8]
    obtain⟨q1,q2⟩:=q
    cases w
    · rfl
    · cases Ch t.n_.Attr_ <;> cases decide ((t.n_.Text_.size:Int)≥1) <;> cases decide ((t.n_.Text_.size:Int)≤200) <;> cases C9 t.n_.Text_ <;> cases (t.n_.Kids_==0) <;> rfl
  have l8:∀ w:Bool,t.n_.Kind_=8→B9 t rec w=Bz t rec (w&&(D8 t.n_&&(E7 t.n_.Text_.data.toList).isSome)):=fun w h8=>by
    unfold B9 D8
    rw[spec_good,printed_spec _ (sbig h),e,hk,h8,← hq]
    obtain⟨q1,q2⟩:=q
    cases w
    · rfl
    · cases Ch t.n_.Attr_ <;> cases decide ((t.n_.Text_.size:Int)≥1) <;> cases decide ((t.n_.Text_.size:Int)≤200) <;> cases C9 t.n_.Text_ <;> cases (t.n_.Kids_==0) <;> cases q2 <;> rfl
  have k7:((Cb t.n_.Attr_).bind fun r15=>Bz t rec ((r15&&(t.n_.Text_.toList==e0.toList))&&((t.kids_.length:Int)==0)))=Bz t rec ((Ch t.n_.Attr_&&emptB t.n_.Text_)&&(t.n_.Kids_==0)):=by
    rw[spec_good,hk];rfl
  unfold Ce spec_l3Right_j2 rightB
  rw[k7,hk]
  rcases kinds t.n_.Kind_ with h | h | h | h | h | h | h | h | ⟨k1,k2,k3,k4,k5,k6,k7,k8⟩
  · rw[h];rfl
  · rw[h];rfl
  · rw[h];rfl
  · have:=l3 true (by omega);rw[h];exact this
  · have:=l3 true (by omega);rw[h];exact this
  · have:=l3 true (by omega);rw[h];exact this
  · rw[h];rfl
  · have:=l8 true h;rw[h];exact this
  · have:=l3 false (by intro h;rw[h]at k8;cases k8)
    rw[k1,k2,k3,k4,k5,k6,k7,k8]
    exact this
def szF(f:List Aa):Prop:=f.length≤100000∧∀ n,n∈f→n.Text_.size≤100000
theorem right_it (f : List           Aa) (hz : szF f) : ∀ (d a : Nat) (t :         A3) (nx : Nat), tk f d a = some (t, nx) → ∃ b,    Dk (fun rec x => match x with | a0 =>             Ce rec a0) d t = some b ∧ (b = true ↔ R f a nx)
  | 0,a,t,nx,h=>by cases h
  | d + 1, a, t, nx, h => by
    obtain⟨n,ts,e1,e2,e3,e4,rfl⟩:=tk_inv h
    generalize hrec:Dk (fun rec x=>match x with | a0=>Ce rec a0) d=rec
    have ih:∀ a t nx,tk f d a=some (t,nx)→∃ b,rec t=some b∧(b=true↔R f a nx):=fun a t nx h=>by rw[← hrec];exact right_it f hz d a t nx h
    have hup:=kidsT_up (P:=fun _ _ _=>True) (fun a t nx h=>tk_up f d a t nx h) _ _ _ _ e4
    show ∃ b,Dk _ (d+1) _=_∧_
    rw[Dk,hrec]
    show ∃ b,Ce rec _=_∧_
    rw[right_node _ rec (hz.2 n (List.mem_of_getElem? e1)) (by simp;omega)]
    unfold Bz
    dsimp only
    have loop:∀ (k m i:Nat) (v:Bool) (us:List A3),Da (tk f d) k m=some (us,nx)→(ts.map (A7 false)).drop i=us.map (A7 false)→i+k=ts.length →
        ∃ b,loopO (spec_l3Right_l1 ⟨n,ts.map (A7 false)⟩ rec) (v,(i:Int))=some b∧(b=true↔v=true∧R f m nx):=by
      intro k
      induction k with
      | zero =>
        intro m i v us hu hd hik
        simp[Da]at hu
        refine⟨v,Cc ?_,?_⟩
        · unfold spec_l3Right_l1
          dsimp only
          rw[List.length_map,decide_eq_false (by omega),cond_false]
        · rw[hu.2]
          exact⟨fun h=>⟨h,R.nil⟩,fun h=>h.1⟩
      | succ k ihk =>
        intro m i v us hu hd hik
        obtain⟨t1,mid,us',u1,u2,rfl⟩:=kids_inv hu
        obtain⟨b1,r1,r2⟩:=ih m t1 mid u1
        have hil:i<(ts.map (A7 false)).length:=by simp;omega
        rw[List.drop_eq_getElem_cons hil,List.map_cons]at hd
        injection hd with hd1 hd2
        have hst:spec_l3Right_l1 ⟨n,ts.map (A7 false)⟩ rec (v,(i:Int))=some (.inl (v&&b1,((i+1:Nat):Int))):=by
          unfold spec_l3Right_l1
          dsimp only
          have hlen:=(by have:=(kidsT_up (P:=fun _ _ _=>True) (fun a t nx h=>tk_up f d a t nx h) _ _ _ _ e4).2;exact this:ts.length=n.Kids_.toNat)
          rw[List.length_map,decide_eq_true (by omega),cond_true,Bk,List.getElem?_eq_getElem hil,Option.bind_some,hd1,dec_c,Option.bind_some,r1,C3,Option.bind_some,Az (by omega)]
          cases v <;> rfl
        obtain⟨b,c1,c2⟩:=ihk mid (i+1) (v&&b1) us' u2 hd2 (by omega)
        rw[D1 hst]
        refine⟨b,c1,?_⟩
        have h1:=tk_up f d m t1 mid u1
        have h2:=(kidsT_up (P:=fun _ _ _=>True) (fun a t nx h=>tk_up f d a t nx h) _ _ _ _ u2).1
        rw[c2,Bool.and_eq_true,r2,R.app (f:=f) (show m≤mid by omega) h2]
        constructor
        · rintro⟨⟨x,y⟩,z⟩;exact⟨x,y,z⟩
        · rintro⟨x,y,z⟩;exact⟨⟨x,y⟩,z⟩
    obtain⟨b,c1,c2⟩:=loop n.Kids_.toNat (a+1) 0 (rightB n) ts e4 rfl (by omega)
    have c1':loopO (spec_l3Right_l1 ⟨n,ts.map (A7 false)⟩ rec) (rightB n,0)=some b:=c1
    rw[c1',Option.bind_some]
    refine⟨b,rfl,?_⟩
    rw[c2,R.app (f:=f) (show a≤a+1 by omega) (by omega),R.one e1]
theorem tk_range (f : List           Aa) : ∀ (d a : Nat) (t :         A3) (nx : Nat), tk f d a = some (t, nx) → ∀ i n, a ≤ i → i < nx → f[i]? = some n → 0 ≤ n.Kids_ ∧ n.Kids_ ≤ 20
  | 0,a,t,nx,h=>by cases h
  | d + 1, a, t, nx, h => by
    obtain⟨n,ts,e1,e2,e3,e4,rfl⟩:=tk_inv h
    have key:∀ (k m:Nat) (us:List A3),Da (tk f d) k m=some (us,nx)→∀ i n,m≤i→i<nx→f[i]? = some n→0≤n.Kids_∧n.Kids_≤20:=by
      intro k
      induction k with
      | zero=>intro m us hu i n h1 h2;simp[Da]at hu;omega
      | succ k ihk =>
        intro m us hu i n h1 h2 h3
        obtain⟨t1,mid,us',u1,u2,rfl⟩:=kids_inv hu
        by_cases him:i<mid
        · exact tk_range f d m t1 mid u1 i n h1 him h3
        · exact ihk mid us' u2 i n (by omega) h2 h3
    intro i m h1 h2 h3
    by_cases hia:i=a
    · subst hia
      rw[e1]at h3;cases h3
      exact⟨e2,e3⟩
    · exact key _ _ _ e4 i m (by omega) h2 h3
def Ew(f:List Aa):Bool:=!(((f.length:Int)==0)||decide ((f.length:Int) > 60))&&(f.all goodN&&(match tk f 20 0 with | some (_,nx)=>decide (nx=f.length) | none=>false))
theorem filter_impl (f : List           Aa) (hz : szF f) : impl_GoodFilter f = some (   Ew f) := by
  have hA:impl_FilterNode_ f=some (f.any fun n=>!goodN n):=index_any f (impl_FilterNode_x_l1 f) (fun n=>!goodN n) (fun i a ha=>by
    have hi:=(List.getElem?_eq_some_iff.1 ha).1
    have:=hz.1
    simp only[impl_FilterNode_x_l1,impl_GoodFilter_1,ltn hi,cond_true,Bk,ha,Option.bind_some,node_impl a (hz.2 a (List.mem_of_getElem? ha)),Az (i:=i) (by omega)]
    cases goodN a <;> rfl) (by simp[impl_FilterNode_x_l1])
  have e:f.any (fun n=>!goodN n) = !(f.all goodN):=by rw[← List.not_all_eq_any_not]
  unfold impl_GoodFilter Ew
  rw[hA,e]
  cases (((f.length:Int)==0)||decide ((f.length:Int) > 60)) with
  | true=>rfl
  | false =>
    rw[Bool.not_false,gdO,cond_true,Option.bind_some,Bool.false_or,Bool.true_and]
    cases hall:f.all goodN with
    | false=>rfl
    | true =>
      have hk:∀ n,n∈f→0≤n.Kids_∧n.Kids_≤20:=fun n hn=>by
        have:=List.all_eq_true.1 hall n hn
        unfold goodN at this
        simp only[Bool.and_eq_true,decide_eq_true_eq]at this
        exact⟨this.2.1,this.2.2⟩
      rw[Bool.not_true,cond_false,tree_eq f hz.1 hk,Option.bind_some,Bool.true_and]
      cases tk f 20 0 with
      | none =>
        show some ((-1:Int)==(f.length:Int))=some false
        rw[show ((-1:Int)==(f.length:Int))=false from beq_eq_false_iff_ne.2 (by omega)]
      | some q =>
        obtain⟨t,nx⟩:=q
        show some (((nx:Int))==(f.length:Int))=some (decide (nx=f.length))
        congr 1
        by_cases h:nx=f.length
        · rw[decide_eq_true h,h];simp
        · rw[decide_eq_false h];exact beq_eq_false_iff_ne.2 (by omega)
theorem filter_spec (f : List           Aa) (hz : szF f) : ∃ t, spec_l3Tree f = some (t,    Ew f) ∧ (   Ew f = true → tk f 20 0 = some (t, f.length) ∧ R f 0 f.length) := by
  unfold spec_l3Tree Ew
  cases (((f.length:Int)==0)||decide ((f.length:Int) > 60)) with
  | true=>exact⟨_,rfl,fun h=>by cases h⟩
  | false =>
    rw[cond_false,take_eq f hz.1,Option.bind_some,Bool.not_false,Bool.true_and]
    cases htk:tk f 20 0 with
    | none =>
      dsimp only[takeR]
      rw[show ((-1:Int)==(f.length:Int))=false from beq_eq_false_iff_ne.2 (by omega),Bool.and_false]
      exact⟨_,rfl,fun h=>by cases h⟩
    | some q =>
      obtain⟨t,nx⟩:=q
      dsimp only[takeR]
      obtain⟨b,r1,r2⟩:=right_it f hz 20 0 t nx htk
      have hr:spec_l3Right t=some b:=fix_eq right_mono r1
      rw[hr,C3,Option.bind_some]
      by_cases h:nx=f.length
      · subst h
        rw[show ((f.length:Int)==(f.length:Int))=true by simp,decide_eq_true rfl,Bool.and_true,Bool.true_and,cond_true]
        have hb:b=f.all goodN:=by
          rw[Bool.eq_iff_iff,r2,List.all_eq_true]
          constructor
          · intro hR n hn
            obtain⟨i,hi,rfl⟩:=List.mem_iff_getElem.1 hn
            have hg:f[i]? = some f[i]:=by simp[hi]
            obtain⟨k1,k2⟩:=tk_range f 20 0 t f.length htk i f[i] (by omega) hi hg
            unfold goodN
            rw[hR i f[i] (by omega) hi hg,decide_eq_true (show f[i].Kids_≥0 from k1),decide_eq_true k2]
            rfl
          · intro hall i n _ hi hg
            have:=hall n (List.mem_of_getElem? hg)
            unfold goodN at this
            rw[Bool.and_eq_true]at this
            exact this.1
        rw[← hb]
        exact⟨t,rfl,fun hb=>⟨rfl,r2.1 hb⟩⟩
      · rw[show ((nx:Int)==(f.length:Int))=false from beq_eq_false_iff_ne.2 (by omega),decide_eq_false h,Bool.and_false]
        exact⟨t,rfl,fun h=>by cases h⟩
theorem goodFilter_spec(f:List Aa)(hz:szF f):spec_GoodFilter f=some (Ew f):=by
  unfold spec_GoodFilter
  obtain⟨t,e,_⟩:=filter_spec f hz
  rw[e];rfl
end Go.G36.FR
namespace Go.G36.FR
set_option linter.all false
open Go Go.G36 Go.Proofs Go.G36.MT

def V3(v:Int):Prop:=v=0∨v=1∨v=2
theorem b2i_v3(b:Bool):V3 (b2i b):=by cases b;exact .inl rfl;exact .inr (.inl rfl)
theorem leafV_v3(s:Ah)(e:Ay)(n:Aa):V3 (leafV s e n):=by
  have h2:V3 2:=.inr (.inr rfl)
  have hc:∀ (c:Bool) (x y:Int),V3 x→V3 y→V3 (cond c x y):=fun c x y h k=>by cases c;exact k;exact h
  unfold leafV
  exact hc _ _ _ h2 (hc _ _ _ (b2i_v3 _) (hc _ _ _ (hc _ _ _ h2 (b2i_v3 _)) (hc _ _ _ (hc _ _ _ h2 (b2i_v3 _)) (hc _ _ _ h2 (b2i_v3 _)))))
def has(k:Int)(vs:List Int):Bool:=vs.any fun v=>v==k
theorem has_app(k:Int)(a b:List Int):has k (a++b)=(has k a||has k b):=by simp[has]
def seen(vs:List Int):List Bool:=[has 0 vs,has 1 vs,has 2 vs]
theorem seen_set(vs:List Int){v:Int}(h:V3 v):(seen vs).set v.toNat true=seen (vs ++ [v]):=by
  unfold seen
  simp only[has_app]
  rcases h with rfl | rfl | rfl <;> simp[has,List.set]
theorem seen_ix(vs:List Int){v:Int}(h:V3 v):∃ b,ixA 3 (seen vs) v=some b:=by
  rcases h with rfl | rfl | rfl <;> exact⟨_,rfl⟩
def andV(vs:List Int):Int:=cond (has 0 vs) 0 (cond (has 2 vs) 2 1)
def orV(vs:List Int):Int:=cond (has 1 vs) 1 (cond (has 2 vs) 2 0)
def notV(vs:List Int):Int:=cond (has 1 vs) 0 (cond (has 0 vs) 1 2)
def stepA(out v:Int):Int:=cond ((v==0)||((v==2)&&(out==1))) v out
def neg(v:Int):Int:=cond (v != 2) (IntKind.i64.wrap (1 - v)) v
theorem neg_v3{v:Int}(h:V3 v):V3 (neg v):=by
  rcases h with rfl | rfl | rfl
  · exact .inr (.inl rfl)
  · exact .inl rfl
  · exact .inr (.inr rfl)
theorem fold_and:∀ (vs:List Int) (out:Int),V3 out→(∀ v,v∈vs→V3 v)→vs.foldl stepA out=cond ((out==0)||has 0 vs) 0 (cond ((out==2)||has 2 vs) 2 1)
  | [],out,ho,_=>by rcases ho with rfl | rfl | rfl <;> rfl
  | v :: vs,out,ho,hv=>by
    have h1:=hv v (by simp)
    have h2:V3 (stepA out v):=by unfold stepA;cases ((v==0)||((v==2)&&(out==1)));exact ho;exact h1
    rw[List.foldl_cons,fold_and vs _ h2 fun w hw=>hv w (by simp[hw])]
    have e0:has 0 (v :: vs)=((v==0)||has 0 vs):=by simp[has]
    have e2:has 2 (v :: vs)=((v==2)||has 2 vs):=by simp[has]
    rw[e0,e2]
    rcases ho with rfl | rfl | rfl <;> rcases h1 with rfl | rfl | rfl <;> cases has 0 vs <;> cases has 2 vs <;> rfl
theorem has_neg:∀ (vs:List Int),(∀ v,v∈vs→V3 v)→has 0 (vs.map neg)=has 1 vs∧has 2 (vs.map neg)=has 2 vs
  | [],_=>⟨rfl,rfl⟩
  | v :: vs,h=>by
    obtain⟨a,b⟩:=has_neg vs fun w hw=>h w (by simp[hw])
    have e:∀ k,has k ((v :: vs).map neg)=((neg v==k)||has k (vs.map neg)):=fun k=>by simp[has]
    have e1:∀ k,has k (v :: vs)=((v==k)||has k vs):=fun k=>by simp[has]
    rw[e,e,e1,e1,a,b]
    rcases h v (by simp) with rfl | rfl | rfl <;> exact⟨rfl,rfl⟩
theorem or_neg(vs:List Int)(h:∀ v,v∈vs→V3 v):neg ((vs.map neg).foldl stepA 1)=orV vs:=by
  obtain⟨a,b⟩:=has_neg vs h
  rw[fold_and _ _ (.inr (.inl rfl)) (fun v hv=>by obtain⟨w,hw,rfl⟩:=List.mem_map.1 hv;exact neg_v3 (h w hw)),a,b]
  unfold orV
  cases has 1 vs <;> cases has 2 vs <;> rfl

noncomputable abbrev meetsB:=fun (rec:(Ah×Ay×(List Aa)×Int)→Option (Int×Int)) (x:Ah×Ay×(List Aa)×Int)=>match x with | (a0,a1,a2,a3)=>impl_DirSchema_ymeets_b rec a0 a1 a2 a3
noncomputable abbrev matchB:=fun (rec:(Ah×Ay×A3)→Option Int) (x:Ah×Ay×A3)=>match x with | (a0,a1,a2)=>Ca rec a0 a1 a2
theorem meets_mono:∀ g h,(∀ x,Lo (g x) (h x))→∀ x,Lo (meetsB g x) (meetsB h x):=fun g h hl x=>by
  obtain⟨a0,a1,a2,a3⟩:=x
  show Lo (impl_DirSchema_ymeets_b g a0 a1 a2 a3) (impl_DirSchema_ymeets_b h a0 a1 a2 a3)
  unfold impl_DirSchema_ymeets_b
  refine Lo.bind (Lo.refl _) fun _=>Lo.cond (Lo.refl _) (Lo.bind (Lo.loop (fun s=>?_) _) fun _=>Lo.refl _)
  unfold impl_DirSchema_ymeets_l1
  obtain⟨b,v,w⟩:=s
  exact Lo.cond (Lo.bind (hl _) fun _=>Lo.refl _) (Lo.refl _)
theorem match_mono:∀ g h,(∀ x,Lo (g x) (h x))→∀ x,Lo (matchB g x) (matchB h x):=fun g h hl x=>by
  obtain⟨a0,a1,a2⟩:=x
  show Lo (Ca g a0 a1 a2) (Ca h a0 a1 a2)
  have j1:∀ v,Lo (Cf a0 a1 a2 g v) (Cf a0 a1 a2 h v):=fun v=>by
    unfold Cf
    refine Lo.cond (Lo.bind (Lo.loop (fun s=>?_) _) fun _=>Lo.refl _) (Lo.cond (Lo.bind (Lo.refl _) fun _=>Lo.bind (Lo.refl _) fun _=>Lo.bind (hl _) fun _=>Lo.refl _) (Lo.refl _))
    unfold spec_l3Match_l1
    obtain⟨b,w⟩:=s
    exact Lo.cond (Lo.bind (Lo.refl _) fun _=>Lo.bind (Lo.refl _) fun _=>Lo.bind (hl _) fun _=>Lo.refl _) (Lo.refl _)
  unfold Ca
  exact Lo.cond (j1 _) (j1 _)
section
variable {s:Ah} {e:Ay} {f:List Aa}
theorem right_kind{n:Aa}(h:rightB n=true):n.Kind_=1∨n.Kind_=2∨(n.Kind_=3∧n.Kids_=1)∨((n.Kind_=4∨n.Kind_=5∨n.Kind_=6∨n.Kind_=7∨n.Kind_=8)∧n.Kids_=0):=by
  have hl:D8 n=true→n.Kids_=0:=fun h=>by
    unfold D8 at h
    simp only[Bool.and_eq_true,beq_iff_eq]at h
    exact h.2
  unfold rightB at h
  rcases kinds n.Kind_ with hk | hk | hk | hk | hk | hk | hk | hk | ⟨k1,k2,k3,k4,k5,k6,k7,k8⟩
  · exact .inl hk
  · exact .inr (.inl hk)
  · rw[hk]at h
    have h':((emptB n.Attr_&&emptB n.Text_)&&(n.Kids_==1))=true:=h
    simp only[Bool.and_eq_true,beq_iff_eq]at h'
    exact .inr (.inr (.inl ⟨hk,h'.2⟩))
  · rw[hk]at h;exact .inr (.inr (.inr ⟨by omega,hl h⟩))
  · rw[hk]at h;exact .inr (.inr (.inr ⟨by omega,hl h⟩))
  · rw[hk]at h;exact .inr (.inr (.inr ⟨by omega,hl h⟩))
  · rw[hk]at h
    have h':((Ch n.Attr_&&emptB n.Text_)&&(n.Kids_==0))=true:=h
    simp only[Bool.and_eq_true,beq_iff_eq]at h'
    exact .inr (.inr (.inr ⟨by omega,h'.2⟩))
  · rw[hk]at h
    have h':(D8 n&&(E7 n.Text_.data.toList).isSome)=true:=h
    rw[Bool.and_eq_true]at h'
    exact .inr (.inr (.inr ⟨by omega,hl h'.1⟩))
  · rw[k1,k2,k3,k4,k5,k6,k7,k8]at h;cases h
theorem match_it (hs : szS s) (he : szE e) (hok :       Dg s = true) (hz : szF f) : ∀ (d a : Nat) (t :         A3) (nx : Nat), tk f d a = some (t, nx) → R f a nx →
    ∃ v,V3 v∧Dk meetsB d (s,e,f,(a:Int))=some (v,(nx:Int))∧Dk matchB d (s,e,t)=some v
  | 0,a,t,nx,h,_=>by cases h
  | d + 1, a, t, nx, h, hR => by
    obtain⟨n,ts,e1,e2,e3,e4,rfl⟩:=tk_inv h
    generalize hrec:Dk meetsB d=rec
    generalize hrec2:Dk matchB d=rec2
    have ih:∀ a t nx,tk f d a=some (t,nx)→R f a nx→∃ v,V3 v∧rec (s,e,f,(a:Int))=some (v,(nx:Int))∧rec2 (s,e,t)=some v:=fun a t nx h hR=>by
      rw[← hrec,← hrec2];exact match_it hs he hok hz d a t nx h hR
    have hup:=kidsT_up (P:=fun _ _ _=>True) (fun a t nx h=>tk_up f d a t nx h) _ _ _ _ e4
    have hle:=tk_le f (d+1) a _ nx h
    have hln:=hz.1
    have hal:a<f.length:=(List.getElem?_eq_some_iff.1 e1).1
    obtain⟨hR1,hR2⟩:=(R.app (f:=f) (show a≤a+1 by omega) hup.1).1 hR
    have hrn:=(R.one e1).1 hR1
    have hx:=hz.2 n (List.mem_of_getElem? e1)
    show ∃ v,V3 v∧Dk meetsB (d+1) _=_∧Dk matchB (d+1) _=_
    rw[Dk,Dk,hrec,hrec2]
    show ∃ v,V3 v∧impl_DirSchema_ymeets_b rec s e f (a:Int)=_∧Ca rec2 s e _=_
    have kids:∀ (k m c:Nat) (ws:List Int) (us:List A3),Da (tk f d) k m=some (us,nx)→R f m nx→c+k=n.Kids_.toNat →
        ∃ vs:List Int,(∀ v,v∈vs→V3 v)∧us.map (fun t=>rec2 (s,e,t))=vs.map some∧loopO (impl_DirSchema_ymeets_l1 s e f rec n) (seen ws,(m:Int),(c:Int))=some (seen (ws++vs),(nx:Int)):=by
      intro k
      induction k with
      | zero =>
        intro m c ws us hu hr hc
        simp[Da]at hu
        obtain⟨rfl,rfl⟩:=hu
        refine⟨[],by simp,rfl,Cc ?_⟩
        unfold impl_DirSchema_ymeets_l1
        dsimp only
        rw[decide_eq_false (by omega),cond_false,List.append_nil]
      | succ k ihk =>
        intro m c ws us hu hr hc
        obtain⟨t1,mid,us',u1,u2,rfl⟩:=kids_inv hu
        have h1:=tk_up f d m t1 mid u1
        have h2:=(kidsT_up (P:=fun _ _ _=>True) (fun a t nx h=>tk_up f d a t nx h) _ _ _ _ u2).1
        obtain⟨r1,r2⟩:=(R.app (f:=f) (show m≤mid by omega) h2).1 hr
        obtain⟨v,v1,v2,v3⟩:=ih m t1 mid u1 r1
        obtain⟨vs,w1,w2,w3⟩:=ihk mid (c+1) (ws ++ [v]) us' u2 r2 (by omega)
        refine⟨v :: vs,?_,?_,?_⟩
        · intro w hw
          rcases List.mem_cons.1 hw with rfl | hw
          · exact v1
          · exact w1 w hw
        · rw[List.map_cons,List.map_cons,v3,w2]
        · have hst:impl_DirSchema_ymeets_l1 s e f rec n (seen ws,(m:Int),(c:Int))=some (.inl (seen (ws ++ [v]),(mid:Int),((c+1:Nat):Int))):=by
            obtain⟨b,hb⟩:=seen_ix ws v1
            unfold impl_DirSchema_ymeets_l1
            dsimp only
            rw[decide_eq_true (by omega),cond_true,v2,Option.bind_some]
            dsimp only
            rw[hb,Option.bind_some,seen_set ws v1,Az (by omega)]
            rfl
          rw[D1 hst,w3]
          simp
    obtain⟨vs,w1,w2,w3⟩:=kids n.Kids_.toNat (a+1) 0 [] ts e4 hR2 (by omega)
    have hvl:vs.length=ts.length:=by have:=congrArg List.length w2;simpa using this.symm
    have w3':loopO (impl_DirSchema_ymeets_l1 s e f rec n) ([false,false,false],IntKind.i64.wrap ((a:Int)+1),0)=some (seen vs,(nx:Int)):=by
      rw[Az (by omega)]
      exact w3
    have row:∀ (g:Int→Int) (hg:∀ (out:Int) (v:Int) (i:Nat),v∈vs→i<ts.length→(cond ((n.Kind_==2)&&(v != 2)) (spec_l3Match_j2 out (i:Int) (IntKind.i64.wrap (1 - v))) (spec_l3Match_j2 out (i:Int) v))=some (.inl (stepA out (g v),((i+1:Nat):Int)))) (k i:Nat) (out:Int),i+k=ts.length →
        loopO (spec_l3Match_l1 s e ⟨n,ts.map (A7 false)⟩ rec2) (out,(i:Int))=some (((vs.drop i).map g).foldl stepA out):=by
      intro g hg k
      induction k with
      | zero =>
        intro i out hi
        refine Cc ?_
        unfold spec_l3Match_l1
        dsimp only
        rw[List.length_map,decide_eq_false (by omega),cond_false,List.drop_of_length_le (by omega)]
        rfl
      | succ k ihk =>
        intro i out hi
        have hit:i<ts.length:=by omega
        have hiv:i<vs.length:=by omega
        have hr:rec2 (s,e,ts[i])=some vs[i]:=by
          have:=congrArg (fun l=>l[i]?) w2
          simp only[List.getElem?_map,List.getElem?_eq_getElem hit,List.getElem?_eq_getElem hiv,Option.map_some]at this
          injection this
        have hst:spec_l3Match_l1 s e ⟨n,ts.map (A7 false)⟩ rec2 (out,(i:Int))=some (.inl (stepA out (g vs[i]),((i+1:Nat):Int))):=by
          unfold spec_l3Match_l1
          dsimp only
          rw[List.length_map,decide_eq_true (by omega),cond_true,Bk,List.getElem?_map,List.getElem?_eq_getElem hit,Option.map_some,Option.bind_some,dec_c,Option.bind_some,hr,Option.bind_some]
          exact hg out vs[i] i (List.getElem_mem hiv) hit
        rw[D1 hst,ihk (i+1) _ (by omega),List.drop_eq_getElem_cons hiv,List.map_cons,List.foldl_cons]
    have hts:ts.length≤20:=by rw[hup.2];omega
    have j2:∀ (out v:Int) (i:Nat),i<ts.length→spec_l3Match_j2 out (i:Int) v=some (.inl (stepA out v,((i+1:Nat):Int))):=fun out v i hi=>by
      unfold spec_l3Match_j2 stepA
      rw[Az (by omega)]
      cases ((v==0)||((v==2)&&(out==1))) <;> rfl
    have g0:ixA 3 (seen vs) 0=some (has 0 vs):=rfl
    have g1:ixA 3 (seen vs) 1=some (has 1 vs):=rfl
    have g2:ixA 3 (seen vs) 2=some (has 2 vs):=rfl
    unfold impl_DirSchema_ymeets_b
    rw[Bk,e1,Option.bind_some]
    rcases right_kind hrn with hk | hk | ⟨hk,hk1⟩ | ⟨hk,hk0⟩
    · refine⟨andV vs,?_,?_,?_⟩
      · unfold andV;cases has 0 vs <;> cases has 2 vs <;> first | exact .inl rfl | exact .inr (.inl rfl) | exact .inr (.inr rfl)
      · rw[w3',Option.bind_some]
        dsimp only
        rw[hk,g0,g1,g2]
        unfold andV
        cases has 0 vs <;> cases has 1 vs <;> cases has 2 vs <;> rfl
      · have:=row (fun v=>v) (fun out v i hv hi=>by rw[hk];exact j2 out v i hi) ts.length 0 1 (by omega)
        unfold Ca Cf
        dsimp only
        rw[hk]
        have this':loopO (spec_l3Match_l1 s e ⟨n,ts.map (A7 false)⟩ rec2) (1,0)=some (vs.foldl stepA 1):=by rw[show (0:Int)=((0:Nat):Int) from rfl,this,List.drop_zero,List.map_id']
        rw[show ((1:Int)==1)=true from rfl,cond_true,cond_true,this',Option.bind_some,fold_and vs 1 (.inr (.inl rfl)) w1]
        unfold andV
        cases has 0 vs <;> cases has 2 vs <;> rfl
    · refine⟨orV vs,?_,?_,?_⟩
      · unfold orV;cases has 1 vs <;> cases has 2 vs <;> first | exact .inl rfl | exact .inr (.inl rfl) | exact .inr (.inr rfl)
      · rw[w3',Option.bind_some]
        dsimp only
        rw[hk,g0,g1,g2]
        unfold orV
        cases has 0 vs <;> cases has 1 vs <;> cases has 2 vs <;> rfl
      · have:=row neg (fun out v i hv hi=>by
          rw[hk]
          unfold neg
          cases hv2:(v != 2)
          · exact j2 out v i hi
          · exact j2 out _ i hi) ts.length 0 1 (by omega)
        have this':loopO (spec_l3Match_l1 s e ⟨n,ts.map (A7 false)⟩ rec2) (1,0)=some ((vs.map neg).foldl stepA 1):=by rw[show (0:Int)=((0:Nat):Int) from rfl,this,List.drop_zero]
        have ho:=or_neg vs w1
        unfold Ca Cf
        dsimp only
        rw[hk]
        rw[show ((2:Int)==1)=false from rfl,cond_false,show ((2:Int)==2)=true from rfl,cond_true,this',Option.bind_some,Bool.true_and]
        rw[← ho]
        unfold neg
        cases (((vs.map fun v=>cond (v != 2) (IntKind.i64.wrap (1 - v)) v).foldl stepA 1) != 2) <;> rfl
    · obtain⟨v,rfl⟩:∃ v,vs = [v]:=by
        have:vs.length=1:=by rw[hvl,hup.2,hk1];rfl
        match vs,this with
        | [v],_=>exact⟨v,rfl⟩
      obtain⟨t1,rfl⟩:∃ t1,ts = [t1]:=by
        have:ts.length=1:=by rw[hup.2,hk1];rfl
        match ts,this with
        | [t],_=>exact⟨t,rfl⟩
      have hv:=w1 v (by simp)
      have hr:rec2 (s,e,t1)=some v:=by simpa using w2
      refine⟨notV [v],?_,?_,?_⟩
      · rcases hv with rfl | rfl | rfl
        · exact .inr (.inl rfl)
        · exact .inl rfl
        · exact .inr (.inr rfl)
      · rw[w3',Option.bind_some]
        dsimp only
        rw[hk,g0,g1,g2]
        rcases hv with rfl | rfl | rfl <;> rfl
      · unfold Ca Cf
        dsimp only
        rw[hk]
        show ((idx [A7 false t1] 0).bind fun w16=>(dec_T_spec_l3F w16).bind fun e15=>(rec2 (s,e,e15)).bind fun r19=>cond (r19==2) (some r19) (some (IntKind.i64.wrap (1 - r19))))=_
        rw[show idx [A7 false t1] 0=some (A7 false t1) from rfl,Option.bind_some,dec_c,Option.bind_some,hr,Option.bind_some]
        rcases hv with rfl | rfl | rfl <;> rfl
    · have hnx:nx=a+1:=by
        rw[hk0]at e4
        simp[Da]at e4
        exact e4.2.symm
      refine⟨leafV s e n,leafV_v3 s e n,?_,leaf_spec s e _ rec2 hs he hok hx hk⟩
      rw[decide_eq_true (by omega),cond_true,leaf_impl s e n hs he hok hx hk,Option.bind_some,Az (by omega),hnx]
      rfl
theorem match_both (hs : szS s) (he : szE e) (hz : szF f) : ∃ v, impl_MatchFilter s e f = some v ∧ spec_MatchFilter s e f = some v ∧
    (((Dg s&&Dd e)&&Ew f)=false∧v = -1∨((Dg s&&Dd e)&&Ew f)=true∧∃ t,tk f 20 0=some (t,f.length)∧R f 0 f.length∧V3 v∧spec_l3Match s e t=some v):=by
  obtain⟨t,t1,t2⟩:=filter_spec f hz
  unfold impl_MatchFilter spec_MatchFilter
  rw[schema_impl s hs,schema_spec s hs,entry_impl e he,entry_spec e he,filter_impl f hz,t1]
  simp only[Option.bind_some,C3]
  cases h1:Dg s with
  | false=>cases Ew f <;> cases Dd e <;> exact⟨-1,rfl,rfl,.inl ⟨rfl,rfl⟩⟩
  | true =>
    cases h2:Dd e with
    | false=>cases Ew f <;> exact⟨-1,rfl,rfl,.inl ⟨rfl,rfl⟩⟩
    | true =>
      cases h3:Ew f with
      | false=>exact⟨-1,rfl,rfl,.inl ⟨rfl,rfl⟩⟩
      | true =>
        obtain⟨k1,k2⟩:=t2 h3
        obtain⟨v,v1,v2,v3⟩:=match_it hs he h1 hz 20 0 t f.length k1 k2
        have f1:impl_DirSchema_ymeets s e f 0=some (v,(f.length:Int)):=fix_eq meets_mono v2
        have f2:spec_l3Match s e t=some v:=fix_eq match_mono v3
        simp only[Bool.not_true,Bool.or_false,cond_false,f1,f2,Option.bind_some,Bool.not_false,cond_true]
        exact⟨v,rfl,rfl,.inr ⟨rfl,t,k1,k2,v1,f2⟩⟩
end
end Go.G36.FR
namespace Go.G36.FR
set_option linter.all false
open Go Go.G36 Go.Proofs Go.G36.MT

def Bytes(l:List Int):Prop:=∀ b,b∈l→0≤b∧b≤255
def Cur(n:Nat)(s:Ag):Prop:=0≤s.at_∧s.at_≤(n:Int)∧∀ b,b∈s.code_→0≤b∧b≤255
abbrev lim:Nat:=1000000
theorem Cur.mono{n m:Nat}{s:Ag}(h:Cur n s)(hm:n≤m):Cur m s:=⟨h.1,by have:=h.2.1;omega,h.2.2⟩

theorem u64_and(x:BitVec IntKind.u64.bits):0≤IntKind.i64.wrap (IntKind.u64.wrap ((x &&& BitVec.ofInt IntKind.u64.bits 255).toNat:Int))∧IntKind.i64.wrap (IntKind.u64.wrap ((x &&& BitVec.ofInt IntKind.u64.bits 255).toNat:Int))≤255:=by
  have h:(x &&& BitVec.ofInt IntKind.u64.bits 255).toNat≤255:=by
    rw[BitVec.toNat_and]
    exact Nat.le_trans Nat.and_le_right (by decide)
  generalize (x &&& BitVec.ofInt IntKind.u64.bits 255).toNat=y at h
  rw[IntWalk.u64_in _ (by omega),IntWalk.i64_in _ (by omega)]
  omega

theorem next_ok{n:Nat}{s:Ag}(h:Cur n s)(hn:n<lim):Ok (spec_l1Cur_next s) fun q=>Cur (n+1) q.2∧0≤q.1∧q.1≤255:=by
  obtain⟨h0,h1,h2⟩:=h
  unfold lim at hn
  have hw:IntKind.i64.wrap (s.at_+1)=s.at_+1:=IntWalk.i64_in _ (by omega)
  have j:∀ v,0≤v→v≤255→Ok (spec_l1Cur_next_j1 s v) fun q=>Cur (n+1) q.2∧0≤q.1∧q.1≤255:=fun v v0 v1=>by
    unfold spec_l1Cur_next_j1
    rw[hw]
    cases decide (s.at_+1≤(s.code_.length:Int)) with
    | true=>exact⟨_,rfl,⟨by show 0≤s.at_+1;omega,by show s.at_+1≤_;omega,h2⟩,v0,v1⟩
    | false =>
      refine⟨_,rfl,⟨by show 0≤s.at_+1;omega,by show s.at_+1≤_;omega,h2⟩,?_⟩
      exact u64_and _
  unfold spec_l1Cur_next
  cases hd:decide (s.at_<(s.code_.length:Int)) with
  | false=>exact j 0 (by omega) (by omega)
  | true =>
    have hlt:=of_decide_eq_true hd
    have hx:s.code_[s.at_.toNat]? = some s.code_[s.at_.toNat]:=by simp
    have hi:idx s.code_ s.at_=some s.code_[s.at_.toNat]:=by unfold idx;rw[if_pos h0,hx]
    have hb:=h2 _ (List.getElem_mem (l:=s.code_) (n:=s.at_.toNat) (by omega))
    simp only[cond_true,hi,Option.bind_some]
    rw[IntWalk.i64_in _ (by omega)]
    exact j _ hb.1 hb.2

theorem Dn{n:Nat}{s:Ag}(a:Int)(h:Cur n s)(hn:n+1<lim):Ok (Br a s) fun q=>Cur (n+2) q.2∧0≤q.1∧(1≤a→q.1<a):=by
  unfold Br
  refine Ok.cond (fun ha=>Ok.some ⟨h.mono (by omega),Int.le_refl _,fun h1=>h1⟩) fun ha=>?_
  have ha1:¬ a≤1:=of_decide_eq_false ha
  have hnz:nz a=some a:=by unfold nz;rw[if_neg (by omega)]
  have j:∀ (v:Int) (o:Ag),0≤v→Cur (n+2) o→Ok (spec_l1Cur_pick_j1 a o v) fun q=>Cur (n+2) q.2∧0≤q.1∧(1≤a→q.1<a):=fun v o hv ho=>by
    unfold spec_l1Cur_pick_j1
    rw[hnz]
    exact⟨_,rfl,ho,Int.tmod_nonneg _ hv,fun _=>Int.tmod_lt_of_pos _ (by omega)⟩
  refine Ok.bind (next_ok h (by omega)) ?_
  rintro⟨r,o⟩ ⟨h2,h3,h4⟩
  refine Ok.cond (fun _=>?_) (fun _=>j r o h3 (h2.mono (by omega)))
  refine Ok.bind (next_ok h2 (by omega)) ?_
  rintro⟨r2,o2⟩ ⟨g2,g3,g4⟩
  have h3':0≤r:=h3
  have h4':r≤255:=h4
  have g3':0≤r2:=g3
  have g4':r2≤255:=g4
  show Ok (spec_l1Cur_pick_j1 a o2 (IntKind.i64.wrap (IntKind.i64.wrap (r*256)+r2))) _
  rw[IntWalk.i64_in (r*256) (by omega),IntWalk.i64_in _ (by omega)]
  exact j _ o2 (by omega) g2

theorem one_ok{n:Nat}{s:Ag}(a:Int)(h:Cur n s)(hn:n+1<lim):Ok (Cg a s) fun q=>Cur (n+2) q.2:=by
  unfold Cg
  refine Ok.bind (Dn a h hn) ?_
  rintro⟨r,o⟩ ⟨h2,h3,h4⟩
  exact Ok.some h2

theorem of_ok{n:Nat}{s:Ag}(l:List ByteArray)(h:Cur n s)(hn:n+2<lim)(h0:1≤l.length):Ok (Bw l s) fun q=>Cur (n+2) q.2∧q.1∈l:=by
  unfold Bw
  refine Ok.bind (Dn _ h (by omega)) ?_
  rintro⟨r,o⟩ ⟨h1,h2,h3⟩
  dsimp only at h1 h2 h3 ⊢
  replace h3:=h3 (by omega)
  rw[Dx h2 (by omega)]
  exact Ok.some ⟨h1,List.getElem_mem _⟩


abbrev sm(a:ByteArray):Prop:=a.size≤300
theorem ofs_ok{n:Nat}{s:Ag}(l:List ByteArray)(h:Cur n s)(hn:n+2<lim)(h0:1≤l.length)(hs:∀ a,a∈l→sm a):Ok (Bw l s) fun q=>Cur (n+2) q.2∧sm q.1 :=
  Ok.mono (of_ok l h hn h0) fun q hq=>⟨hq.1,hs _ hq.2⟩
theorem Fd{l:List ByteArray}(h:(l.all fun a=>decide (a.size≤300))=true):∀ a,a∈l→sm a:=fun a ha=>of_decide_eq_true (List.all_eq_true.1 h a ha)
theorem sete{α:Type}{P:α→Prop}{l:List α}{i:Nat}{x:α}(h:∀ a,a∈l→P a)(hx:P x):∀ a,a∈l.set i x→P a:=fun a ha=>by
  rcases List.mem_or_eq_of_mem_set ha with ha | rfl
  · exact h a ha
  · exact hx
theorem appe{α:Type}{P:α→Prop}{l m:List α}(h:∀ a,a∈l→P a)(hm:∀ a,a∈m→P a):∀ a,a∈l++m→P a:=fun a ha=>(List.mem_append.1 ha).elim (h a) (hm a)
theorem onee{α:Type}{P:α→Prop}{x:α}(h:P x):∀ a,a∈[x]→P a:=fun a ha=>by rw[List.mem_singleton]at ha;exact ha▸h
theorem nile{α:Type}{P:α→Prop}:∀ a,a∈([]:List α)→P a:=fun a ha=>by cases ha

def AT(t:Ar):Prop:=sm t.Name_
def CL(c:Ax):Prop:=sm c.Name_∧c.Must_.length≤10∧c.May_.length≤10∧(∀ n,n∈c.Must_→sm n)∧∀ n,n∈c.May_→sm n
abbrev kl:ByteArray:=ByteArray.mk #[99,108,97,115,115]
def KT(n i:Nat):(Ag×Ah×Int)→Prop
  | (b,s,v)=>Cur (n+2*i) b∧v=(i:Int)∧s.Types_.length≤i∧(3≤i→1≤s.Types_.length)∧(∀ t,t∈s.Types_→AT t)∧s.Classes_ = []
theorem j1_ok {n i : Nat} {b :           Ag} {s :          Ah} {e : ByteArray} {t :         Ar} (hK : KT n i (b, s, (i : Int))) (hn : n + 2 * i + 2 < lim) (hi : i < 8) (he : i = 2 → e = kl) (ht : AT t) :
    Ok (spec_l1Cur_dirSchema_j1 b s (i:Int) e t) fun x=>∃ s',x = .inl s'∧KT n (i+1) s':=by
  obtain⟨k1,_,k3,k4,k5,k6⟩:=hK
  unfold spec_l1Cur_dirSchema_j1
  refine Ok.bind (Q:=fun q=>Cur (n+2*i+2) q.2) ?_ ?_
  · exact Ok.cond (fun _=>one_ok _ k1 (by omega)) (fun _=>Ok.some (k1.mono (by omega)))
  · rintro⟨r,o⟩ ho
    dsimp only at ho ⊢
    rw[Az (by omega)]
    refine Ok.cond (fun _=>?_) (fun hf=>?_)
    · rw[B4 (by simp;omega),Option.bind_some]
      exact Ok.some ⟨_,rfl,ho.mono (by omega),rfl,by simp;omega,fun _=>by simp,appe k5 (onee ht),k6⟩
    · refine Ok.some ⟨_,rfl,ho.mono (by omega),rfl,by omega,fun h3=>?_,k5,k6⟩
      by_cases h2:i=2
      · rw[he h2]at hf
        simp at hf
      · exact k4 (by omega)
theorem j2_ok{n i:Nat}{b:Ag}{s:Ah}{e:ByteArray}(v:Bool)(hK:KT n i (b,s,(i:Int)))(hn:n+2*i+2<lim)(hi:i<8)(he:i=2→e=kl)(ht:sm e) :
    Ok (spec_l1Cur_dirSchema_j2 b s (i:Int) e v) fun x=>∃ s',x = .inl s'∧KT n (i+1) s':=by
  unfold spec_l1Cur_dirSchema_j2
  exact Ok.cond (fun _=>j1_ok hK hn hi he ht) (fun _=>Ok.cond (fun _=>j1_ok hK hn hi he ht) (fun _=>j1_ok hK hn hi he ht))
theorem n8{i:Nat}(h:i<8):∃ e,idx ([(ByteArray.mk #[97,103,101]),(ByteArray.mk #[98,111,115,115]),(ByteArray.mk #[99,108,97,115,115]),(ByteArray.mk #[99,110]),(ByteArray.mk #[109,97,105,108]),(ByteArray.mk #[109,101,109,98,101,114]),(ByteArray.mk #[111,117]),(ByteArray.mk #[114,101,102])]:List ByteArray) (i:Int)=some e∧sm e∧(i=2→e=kl):=by
  obtain rfl | rfl | rfl | rfl | rfl | rfl | rfl | rfl:i=0∨i=1∨i=2∨i=3∨i=4∨i=5∨i=6∨i=7:=by omega
  all_goals exact⟨_,rfl,by decide,fun h=>by first | rfl | omega⟩
theorem types_ok{n:Nat}{s:Ag}(h:Cur n s)(hn:n+20<lim):Ok (loopO spec_l1Cur_dirSchema_l1 (s,(⟨[],[]⟩:Ah),0)) fun q=>Cur (n+16) q.1∧1≤q.2.Types_.length∧q.2.Types_.length≤8∧(∀ t,t∈q.2.Types_→AT t)∧q.2.Classes_ = []:=by
  refine Ok.loop (fun k st=>∃ i,i+k=8∧KT n i st) ?_ (n:=8) ⟨0,rfl,h,rfl,Nat.le_refl _,fun h=>by omega,nile,rfl⟩
  rintro k ⟨b,t,v⟩ ⟨i,hik,hK⟩
  have hv:v=(i:Int):=hK.2.1
  subst hv
  unfold spec_l1Cur_dirSchema_l1
  dsimp only
  refine Ok.cond (fun hd=>?_) (fun hd=>?_)
  · have hi:i<8:=by have:=of_decide_eq_true hd;simp at this;omega
    obtain⟨e,e1,e2,e3⟩:=n8 hi
    rw[e1,Option.bind_some]
    have l:n+2*i+2<lim:=by omega
    have e4:∀ x y,AT ⟨e,x,y⟩:=fun _ _=>e2
    refine Ok.mono (Q:=fun x=>∃ s',x = .inl s'∧KT n (i+1) s') ?_ ?_
    rotate_left
    · rintro x ⟨s',rfl,hK⟩
      exact⟨k - 1,by omega,i+1,by omega,hK⟩
    exact (Ok.cond (fun _=>j1_ok hK l hi e3 (e4 _ _)) (fun _=>Ok.cond (fun _=>j1_ok hK l hi e3 (e4 _ _)) (fun _=>Ok.cond (fun _=>j2_ok _ hK l hi e3 e2) (fun _=>j2_ok _ hK l hi e3 e2))))
  · have hi:¬ i<8:=by have:=of_decide_eq_false hd;simp at this;omega
    obtain⟨k1,_,k3,k4,k5,k6⟩:=hK
    exact Ok.some ⟨k1.mono (by omega),k4 (by omega),by show t.Types_.length≤8;omega,k5,k6⟩
theorem type_any(s:Ah)(n:ByteArray)(hl:s.Types_.length≤100000):Ok (spec_l3Type s n) fun _=>True:=by
  unfold spec_l3Type
  refine Ok.bind (Q:=fun _=>True) (Ok.loop (fun k v=>∃ i:Nat,i+k=s.Types_.length∧v=(i:Int)) ?_ (n:=s.Types_.length) ⟨0,by omega,rfl⟩) ?_
  · rintro k v ⟨i,hi,rfl⟩
    unfold spec_l3Type_l1
    refine Ok.cond (fun hd=>?_) (fun _=>Ok.some trivial)
    have:=of_decide_eq_true hd
    rw[Dx (by omega) (by omega),Option.bind_some,Az (by omega)]
    exact Ok.cond (fun _=>Ok.some trivial) (fun _=>Ok.some ⟨k - 1,by omega,i+1,by omega,rfl⟩)
  · rintro (_ | q) _ <;> exact Ok.some trivial
theorem l4_ok(s:Ah)(e:List ByteArray)(hl:s.Types_.length≤8)(he:e.length≤10)(hs:∀ a,a∈e→sm a):Ok (loopO (spec_l1Cur_dirSchema_l4 s e) (([]:List ByteArray),0)) fun l=>l.length≤10∧∀ a,a∈l→sm a:=by
  refine Ok.loop (fun k st=>∃ i:Nat,i+k=e.length∧st.2=(i:Int)∧st.1.length≤i∧∀ a,a∈st.1→sm a) ?_ (n:=e.length) ⟨0,by omega,rfl,Nat.le_refl _,nile⟩
  rintro k ⟨l,v⟩ ⟨i,hi,hv,h3,h4⟩
  dsimp only at hv h3 h4
  subst hv
  unfold spec_l1Cur_dirSchema_l4
  dsimp only
  refine Ok.cond (fun hd=>?_) (fun _=>Ok.some ⟨by omega,h4⟩)
  have:=of_decide_eq_true hd
  rw[Dx (by omega) (by omega),Option.bind_some]
  refine Ok.bind (type_any s _ (by omega)) ?_
  rintro⟨r,b⟩ _
  dsimp only
  rw[Az (by omega)]
  refine Ok.cond (fun _=>?_) (fun _=>Ok.some ⟨k - 1,by omega,i+1,by omega,rfl,by dsimp only;omega,h4⟩)
  rw[B4 (by simp;omega),Option.bind_some]
  exact Ok.some ⟨k - 1,by omega,i+1,by omega,rfl,by simp;omega,appe h4 (onee (hs _ (List.getElem_mem _)))⟩
theorem l3_ok(s:Ah)(e:Ax)(hl:s.Types_.length≤8)(hc:CL e):Ok (loopO (spec_l1Cur_dirSchema_l3 s e) (([]:List (List ByteArray)),0)) fun l=>l.length=2∧∀ m,m∈l→m.length≤10∧∀ a,a∈m→sm a:=by
  refine Ok.loop (fun k st=>∃ i:Nat,i+k=2∧st.2=(i:Int)∧st.1.length=i∧∀ m,m∈st.1→m.length≤10∧∀ a,a∈m→sm a) ?_ (n:=2) ⟨0,by omega,rfl,rfl,nile⟩
  rintro k ⟨l,v⟩ ⟨i,hi,hv,h3,h4⟩
  dsimp only at hv h3 h4
  subst hv
  unfold spec_l1Cur_dirSchema_l3
  dsimp only
  refine Ok.cond (fun hd=>?_) (fun hd=>Ok.some ⟨?_,h4⟩)
  · have hi2:i<2:=by have:=of_decide_eq_true hd;simp at this;omega
    have hm:∃ m,idx ([e.Must_,e.May_]:List (List ByteArray)) (i:Int)=some m∧m.length≤10∧∀ a,a∈m→sm a:=by
      obtain rfl | rfl:i=0∨i=1:=by omega
      · exact⟨_,rfl,hc.2.1,hc.2.2.2.1⟩
      · exact⟨_,rfl,hc.2.2.1,hc.2.2.2.2⟩
    obtain⟨m,m1,m2,m3⟩:=hm
    rw[m1,Option.bind_some]
    refine Ok.bind (l4_ok s m hl m2 m3) ?_
    rintro r ⟨r1,r2⟩
    rw[B4 (by simp;omega),Option.bind_some,Az (by omega)]
    exact Ok.some ⟨k - 1,by omega,i+1,by omega,rfl,by simp;omega,appe h4 (onee ⟨r1,r2⟩)⟩
  · have:=of_decide_eq_false hd;simp at this;omega
theorem c4{i:Nat}(h:i<4):∃ e,idx ([(⟨(ByteArray.mk #[71,114,111,117,112]),(ByteArray.mk #[84,111,112]),([]:List ByteArray),([(ByteArray.mk #[109,101,109,98,101,114])]:List ByteArray)⟩:Ax),(⟨(ByteArray.mk #[80,101,114,115,111,110]),(ByteArray.mk #[84,111,112]),([(ByteArray.mk #[99,110])]:List ByteArray),([(ByteArray.mk #[97,103,101]),(ByteArray.mk #[98,111,115,115]),(ByteArray.mk #[109,97,105,108])]:List ByteArray)⟩:Ax),(⟨(ByteArray.mk #[83,116,97,102,102]),(ByteArray.mk #[80,101,114,115,111,110]),([(ByteArray.mk #[97,103,101])]:List ByteArray),([]:List ByteArray)⟩:Ax),(⟨(ByteArray.mk #[84,111,112]),e0,([]:List ByteArray),([(ByteArray.mk #[111,117]),(ByteArray.mk #[114,101,102])]:List ByteArray)⟩:Ax)]:List Ax) (i:Int)=some e∧CL e:=by
  obtain rfl | rfl | rfl | rfl:i=0∨i=1∨i=2∨i=3:=by omega
  all_goals exact⟨_,rfl,by decide,by decide,by decide,Fd (by decide),Fd (by decide)⟩
theorem classes_ok{s:Ah}{c:Ag}(h1:s.Types_.length≤8)(h2:s.Classes_ = []):Ok (loopO spec_l1Cur_dirSchema_l2 (s,0)) fun q=>q.Types_=s.Types_∧q.Classes_.length=4∧∀ c,c∈q.Classes_→CL c:=by
  refine Ok.loop (fun k st=>∃ i:Nat,i+k=4∧st.2=(i:Int)∧st.1.Types_=s.Types_∧st.1.Classes_.length=i∧∀ c,c∈st.1.Classes_→CL c) ?_ (n:=4) ⟨0,by omega,rfl,rfl,by rw[h2];rfl,by rw[h2];exact nile⟩
  rintro k ⟨t,v⟩ ⟨i,hi,hv,h3,h4,h5⟩
  dsimp only at hv h3 h4 h5
  subst hv
  unfold spec_l1Cur_dirSchema_l2
  dsimp only
  refine Ok.cond (fun hd=>?_) (fun hd=>Ok.some ⟨h3,?_,h5⟩)
  · have hi2:i<4:=by have:=of_decide_eq_true hd;simp at this;omega
    obtain⟨e,e1,e2⟩:=c4 hi2
    rw[e1,Option.bind_some]
    refine Ok.bind (l3_ok t e (by rw[h3];exact h1) e2) ?_
    rintro l ⟨l1,l2⟩
    rw[Dx (by omega) (by omega),Option.bind_some,Dx (by omega) (by omega),Option.bind_some,B4 (by simp;omega),Option.bind_some,Az (by omega)]
    have a0:=l2 _ (List.getElem_mem (l:=l) (n:=(0:Int).toNat) (by omega))
    have a1:=l2 _ (List.getElem_mem (l:=l) (n:=(1:Int).toNat) (by omega))
    exact Ok.some ⟨k - 1,by omega,i+1,by omega,rfl,h3,by simp;omega,appe h5 (onee ⟨e2.1,a0.1,a1.1,a0.2,a1.2⟩)⟩
  · have:=of_decide_eq_false hd;simp at this;omega
def SC(s:Ah):Prop:=1≤s.Types_.length∧s.Types_.length≤8∧(∀ t,t∈s.Types_→AT t)∧s.Classes_.length=4∧∀ c,c∈s.Classes_→CL c
theorem schema_ok{n:Nat}{s:Ag}(h:Cur n s)(hn:n+20<lim):Ok (spec_l1Cur_dirSchema s) fun q=>Cur (n+16) q.2∧SC q.1:=by
  unfold spec_l1Cur_dirSchema
  refine Ok.bind (types_ok h hn) ?_
  rintro⟨b,t⟩ ⟨h1,h2,h3,h4,h5⟩
  dsimp only at h1 h2 h3 h4 h5 ⊢
  refine Ok.bind (classes_ok (c:=b) h3 h5) ?_
  rintro q ⟨q1,q2,q3⟩
  exact Ok.some ⟨h1,by rw[q1];exact h2,by rw[q1];exact h3,by rw[q1];exact h4,q2,q3⟩
theorem at_mem{l:List Ar}(h:∀ t,t∈l→AT t){i:Nat}(hi:i<l.length){x:Int}{y:Bool}:AT ⟨l[i].Name_,x,y⟩:=by have c:AT l[i]:=h _ (List.getElem_mem hi);exact c
theorem cl_mem{l:List Ax}(h:∀ t,t∈l→CL t){i:Nat}(hi:i<l.length){u:ByteArray}:CL { l[i] with Up_:=u }:=by have c:CL l[i]:=h _ (List.getElem_mem hi);exact c
theorem odd_schema{n:Nat}{a:Ah}{s:Ag}(h:Cur n s)(hn:n+20<lim)(ha:SC a):Ok (spec_l1Cur_oddDirSchemax a s) fun q=>Cur (n+6) q.2∧SC q.1:=by
  obtain⟨a1,a2,a3,a4,a5⟩:=ha
  unfold spec_l1Cur_oddDirSchemax
  refine Ok.bind (Dn _ h (by omega)) ?_
  rintro⟨r,o⟩ ⟨h1,_,_⟩
  dsimp only at h1 ⊢
  refine Ok.cond (fun _=>?_) (fun _=>Ok.cond (fun _=>?_) (fun _=>Ok.cond (fun _=>?_) (fun _=>Ok.cond (fun _=>?_) (fun _=>Ok.cond (fun _=>?_) (fun _=>?_)))))
  · refine Ok.bind (Dn _ h1 (by omega)) ?_
    rintro⟨r4,o5⟩ ⟨g1,g2,g3⟩
    dsimp only at g1 g2 g3 ⊢
    replace g3:=g3 (by omega)
    refine Ok.bind (Dn _ g1 (by omega)) ?_
    rintro⟨r7,o8⟩ ⟨k1,k2,k3⟩
    dsimp only at k1 k2 k3 ⊢
    replace k3:=k3 (by omega)
    rw[Dx k2 (by simp;omega),Option.bind_some,Dx g2 (by omega),Option.bind_some]
    exact Ok.some ⟨k1.mono (by omega),by simp;omega,by simp;omega,sete a3 (at_mem a3 (by omega)),a4,a5⟩
  · refine Ok.bind (Dn _ h1 (by omega)) ?_
    rintro⟨r4,o5⟩ ⟨g1,g2,g3⟩
    dsimp only at g1 g2 g3 ⊢
    replace g3:=g3 (by omega)
    refine Ok.bind (ofs_ok _ g1 (by omega) (by simp) (Fd (by decide))) ?_
    rintro⟨r7,o8⟩ ⟨k1,k2⟩
    dsimp only at k1 k2 ⊢
    rw[Dx g2 (by omega),Option.bind_some]
    exact Ok.some ⟨k1.mono (by omega),by simp;omega,by simp;omega,sete a3 k2,a4,a5⟩
  · refine Ok.bind (Dn _ h1 (by omega)) ?_
    rintro⟨r4,o5⟩ ⟨g1,g2,g3⟩
    dsimp only at g1 g2 g3 ⊢
    replace g3:=g3 (by omega)
    refine Ok.bind (ofs_ok _ g1 (by omega) (by simp) (Fd (by decide))) ?_
    rintro⟨r7,o8⟩ ⟨k1,k2⟩
    dsimp only at k1 k2 ⊢
    rw[Dx g2 (by omega),Option.bind_some]
    exact Ok.some ⟨k1.mono (by omega),a1,a2,a3,by simp;omega,sete a5 (cl_mem a5 (by omega))⟩
  · refine Ok.bind (Dn _ h1 (by omega)) ?_
    rintro⟨r4,o5⟩ ⟨g1,g2,g3⟩
    dsimp only at g1 g2 g3 ⊢
    replace g3:=g3 (by omega)
    refine Ok.bind (ofs_ok _ g1 (by omega) (by simp) (Fd (by decide))) ?_
    rintro⟨r7,o8⟩ ⟨k1,k2⟩
    dsimp only at k1 k2 ⊢
    rw[Dx g2 (by omega),Option.bind_some]
    have c:=a5 _ (List.getElem_mem (l:=a.Classes_) (n:=r4.toNat) (by omega))
    exact Ok.some ⟨k1.mono (by omega),a1,a2,a3,by simp;omega,sete a5 ⟨c.1,by simp,c.2.2.1,onee k2,c.2.2.2.2⟩⟩
  · rw[Dx (by omega) (by simp;omega),Option.bind_some]
    exact Ok.some ⟨h1.mono (by omega),by simp;omega,by simp;omega,sete a3 (at_mem a3 (by omega)),a4,a5⟩
  · exact Ok.some ⟨h1.mono (by omega),a1,a2,a3,a4,a5⟩
def PT(p:A4):Prop:=sm p.Attr_∧sm p.Text_
theorem dn2{n:Nat}{b:Ag}{l:List A4}(h:Cur n b)(hl:l.length≤2)(hp:∀ p,p∈l→PT p):Ok (spec_l1Cur_dirName_j2 b l) fun q=>Cur n q.2∧1≤q.1.length∧q.1.length≤3∧∀ p,p∈q.1→PT p:=by
  unfold spec_l1Cur_dirName_j2
  rw[B4 (by simp;omega),Option.bind_some]
  exact Ok.some ⟨h,by simp,by simp;omega,appe hp (onee ⟨by decide,by decide⟩)⟩
theorem dn1{n:Nat}{b:Ag}{l:List A4}(h:Cur n b)(hn:n+4<lim)(hl:l.length≤1)(hp:∀ p,p∈l→PT p):Ok (spec_l1Cur_dirName_j1 b l) fun q=>Cur (n+4) q.2∧1≤q.1.length∧q.1.length≤3∧∀ p,p∈q.1→PT p:=by
  unfold spec_l1Cur_dirName_j1
  refine Ok.bind (one_ok _ h (by omega)) ?_
  rintro⟨r,o⟩ h1
  dsimp only at h1 ⊢
  refine Ok.cond (fun _=>?_) (fun _=>dn2 (h1.mono (by omega)) (by omega) hp)
  refine Ok.bind (ofs_ok _ h1 (by omega) (by simp) (Fd (by decide))) ?_
  rintro⟨r7,o8⟩ ⟨k1,k2⟩
  dsimp only at k1 k2 ⊢
  rw[B4 (by simp;omega),Option.bind_some]
  exact dn2 (k1.mono (by omega)) (by simp;omega) (appe hp (onee ⟨by show (ByteArray.mk #[111,117]).size≤300;decide,k2⟩))
theorem name_ok{n:Nat}{b:Ag}(h:Cur n b)(hn:n+8<lim):Ok (spec_l1Cur_dirName b) fun q=>Cur (n+8) q.2∧1≤q.1.length∧q.1.length≤3∧∀ p,p∈q.1→PT p:=by
  unfold spec_l1Cur_dirName
  refine Ok.bind (one_ok _ h (by omega)) ?_
  rintro⟨r,o⟩ h1
  dsimp only at h1 ⊢
  refine Ok.cond (fun _=>?_) (fun _=>Ok.mono (dn1 h1 (by omega) (by simp) nile) fun q hq=>⟨hq.1.mono (by omega),hq.2⟩)
  refine Ok.bind (ofs_ok _ h1 (by omega) (by simp) (Fd (by decide))) ?_
  rintro⟨r7,o8⟩ ⟨k1,k2⟩
  dsimp only at k1 k2 ⊢
  rw[B4 (by simp),Option.bind_some]
  exact Ok.mono (dn1 k1 (by omega) (by simp) (appe nile (onee ⟨by show (ByteArray.mk #[99,110]).size≤300;decide,k2⟩))) fun q hq=>⟨hq.1.mono (by omega),hq.2⟩
theorem atx{n:Nat}{b:Ag}(v:Bool)(h:Cur n b)(hn:n+2<lim):Ok (spec_l1Cur_attrText_j1 b v) fun q=>Cur (n+2) q.2∧sm q.1:=by
  unfold spec_l1Cur_attrText_j1
  refine Ok.cond (fun _=>?_) (fun _=>?_)
  all_goals
    refine Ok.bind (ofs_ok _ h (by omega) (by simp) (Fd (by decide))) ?_
    rintro⟨r7,o8⟩ hq
    exact Ok.some hq
theorem attr_ok{n:Nat}{b:Ag}(a:ByteArray)(h:Cur n b)(hn:n+2<lim):Ok (spec_l1Cur_attrText a b) fun q=>Cur (n+2) q.2∧sm q.1:=by
  unfold spec_l1Cur_attrText
  refine Ok.cond (fun _=>?_) (fun _=>Ok.cond (fun _=>?_) (fun _=>Ok.cond (fun _=>atx _ h hn) (fun _=>atx _ h hn)))
  all_goals
    refine Ok.bind (ofs_ok _ h (by omega) (by simp) (Fd (by decide))) ?_
    rintro⟨r7,o8⟩ hq
    exact Ok.some hq
def AR(a:B8):Prop:=sm a.Name_∧a.Values_.length≤10∧∀ v,v∈a.Values_→sm v
theorem num_any(a b:Int):Ok (spec_l1CmpNum a b) fun _=>True:=by
  unfold spec_l1CmpNum
  repeat first | exact Ok.some trivial | refine Ok.cond (fun _=>?_) (fun _=>?_)
theorem idxS_any{s:ByteArray}{i:Nat}(h:i<s.size):∃ b,Cr s (i:Int)=some b:=by
  have h2:i<s.data.toList.length:=by simpa using h
  exact⟨_,idxS_nat (List.getElem?_eq_getElem h2)⟩
theorem cmp_any{a b:ByteArray}(ha:sm a)(hb:sm b):Ok (B0 a b) fun _=>True:=by
  unfold B0
  refine Ok.bind (Q:=fun _=>True) (Ok.loop (fun k v=>∃ i:Nat,i+k=300∧v=(i:Int)) ?_ (n:=300) ⟨0,by omega,rfl⟩) ?_
  · rintro k v ⟨i,hi,rfl⟩
    unfold spec_l1CmpText_l1
    refine Ok.cond (fun hd=>?_) (fun _=>Ok.some trivial)
    rw[Bool.and_eq_true]at hd
    have d1:=of_decide_eq_true hd.1
    have d2:=of_decide_eq_true hd.2
    have hs:a.size≤300:=ha
    obtain⟨u,hu⟩:=idxS_any (s:=a) (i:=i) (by omega)
    obtain⟨w,hw⟩:=idxS_any (s:=b) (i:=i) (by omega)
    rw[hu,hw]
    simp only[Option.bind_some]
    rw[Az (by omega)]
    refine Ok.cond (fun _=>?_) (fun _=>Ok.some ⟨k - 1,by omega,i+1,by omega,rfl⟩)
    refine Ok.bind (num_any _ _) ?_
    intro r _
    exact Ok.some trivial
  · rintro (_ | q) _
    · refine Ok.bind (num_any _ _) ?_
      intro r _
      exact Ok.some trivial
    · exact Ok.some trivial
theorem ej2{n k i:Nat}{l:List ByteArray}{b:Ag}{v:ByteArray}(h:Cur n b)(hl:l.length≤i)(hi:i<10)(hs:∀ a,a∈l→sm a)(hv:sm v)(hk:1≤k)(hk2:k≤10) :
    Ok (spec_l1Cur_entry_j2 l (k:Int) b v) fun x=>∃ l':List ByteArray,x = .inl (b,l',((k - 1:Nat):Int))∧l'.length≤i+1∧∀ a,a∈l'→sm a:=by
  unfold spec_l1Cur_entry_j2
  have hw:IntKind.i64.wrap ((k:Int) - 1)=((k - 1:Nat):Int):=by rw[IntWalk.i64_in _ (by omega)];omega
  have j:∀ l':List ByteArray,l'.length≤i+1→(∀ a,a∈l'→sm a)→Ok (spec_l1Cur_entry_j1 (k:Int) b l') fun x=>∃ l':List ByteArray,x = .inl (b,l',((k - 1:Nat):Int))∧l'.length≤i+1∧∀ a,a∈l'→sm a:=fun l' h1 h2=>by
    unfold spec_l1Cur_entry_j1
    rw[hw]
    exact Ok.some ⟨_,rfl,h1,h2⟩
  have e1:Ok (gdO (!((l.length:Int)==0)) (idx l (IntKind.i64.wrap ((l.length:Int) - 1)))) fun q=>sm q:=Ok.gd (fun hc=>by
    have:l.length≠0:=fun h0=>by rw[h0]at hc;cases hc
    rw[IntWalk.i64_in _ (by omega),Dx (by omega) (by omega)]
    exact Ok.some (hs _ (List.getElem_mem _))) (fun _=>by show ByteArray.size default≤300;decide)
  refine Ok.bind e1 ?_
  intro e he
  refine Ok.bind (Q:=fun _=>True) (Ok.gd (fun _=>cmp_any he hv) (fun _=>trivial)) ?_
  intro r _
  refine Ok.cond (fun _=>?_) (fun _=>j l (by omega) hs)
  rw[B4 (by simp;omega),Option.bind_some]
  exact j _ (by simp;omega) (appe hs (onee hv))
theorem vals_ok{n m:Nat}{b:Ag}(e:ByteArray)(h:Cur n b)(hm:m≤2)(hn:n+10<lim):Ok (loopO (spec_l1Cur_entry_l3 e) (b,[],(m:Int))) fun q=>Cur (n+4) q.1∧q.2.length≤10∧∀ a,a∈q.2→sm a:=by
  refine Ok.loop (fun k st=>∃ i:Nat,i+k=m∧Cur (n+2*i) st.1∧st.2.2=(k:Int)∧st.2.1.length≤i∧∀ a,a∈st.2.1→sm a) ?_ (n:=m) ⟨0,by omega,h,rfl,Nat.le_refl _,nile⟩
  rintro k ⟨b,l,v⟩ ⟨i,hi,h2,hv,h3,h4⟩
  dsimp only at h2 hv h3 h4
  subst hv
  unfold spec_l1Cur_entry_l3
  dsimp only
  refine Ok.cond (fun hd=>?_) (fun _=>Ok.some ⟨h2.mono (by omega),by show l.length≤10;omega,h4⟩)
  have hk:1≤k:=by have:=of_decide_eq_true hd;omega
  refine Ok.bind (attr_ok e h2 (by omega)) ?_
  rintro⟨r,o⟩ ⟨k1,k2⟩
  dsimp only at k1 k2 ⊢
  refine Ok.mono (Q:=fun x=>∃ l':List ByteArray,x = .inl (o,l',((k - 1:Nat):Int))∧l'.length≤i+1∧∀ a,a∈l'→sm a) ?_ ?_
  · exact Ok.cond (fun _=>ej2 k1 h3 (by omega) h4 (by decide) hk (by omega)) (fun _=>ej2 k1 h3 (by omega) h4 k2 hk (by omega))
  · rintro x ⟨l',rfl,g1,g2⟩
    exact⟨k - 1,by omega,i+1,by omega,k1,rfl,g1,g2⟩
theorem n9{i:Nat}(h:i<9):∃ e,idx ([(ByteArray.mk #[97,103,101]),(ByteArray.mk #[98,111,115,115]),(ByteArray.mk #[99,108,97,115,115]),(ByteArray.mk #[99,110]),(ByteArray.mk #[109,97,105,108]),(ByteArray.mk #[109,101,109,98,101,114]),(ByteArray.mk #[110,105,99,107]),(ByteArray.mk #[111,117]),(ByteArray.mk #[114,101,102])]:List ByteArray) (i:Int)=some e∧sm e:=by
  obtain rfl | rfl | rfl | rfl | rfl | rfl | rfl | rfl | rfl:i=0∨i=1∨i=2∨i=3∨i=4∨i=5∨i=6∨i=7∨i=8:=by omega
  all_goals exact⟨_,rfl,by decide⟩
def EN(e:Ay):Prop:=e.Name_.length≤10∧(∀ p,p∈e.Name_→PT p)∧e.Attrs_.length≤9∧∀ a,a∈e.Attrs_→AR a
theorem attrs_ok{n:Nat}{b:Ag}{nm:List A4}(h:Cur n b)(hn:n+100<lim):Ok (loopO spec_l1Cur_entry_l1 (b,(⟨nm,[]⟩:Ay),0)) fun q=>Cur (n+90) q.1∧q.2.Name_=nm∧q.2.Attrs_.length≤9∧∀ a,a∈q.2.Attrs_→AR a:=by
  refine Ok.loop (fun k st=>∃ i:Nat,i+k=9∧Cur (n+10*i) st.1∧st.2.2=(i:Int)∧st.2.1.Name_=nm∧st.2.1.Attrs_.length≤i∧∀ a,a∈st.2.1.Attrs_→AR a) ?_ (n:=9) ⟨0,rfl,h,rfl,rfl,Nat.le_refl _,nile⟩
  rintro k ⟨b,e,v⟩ ⟨i,hi,h2,hv,h3,h4,h5⟩
  dsimp only at h2 hv h3 h4 h5
  subst hv
  unfold spec_l1Cur_entry_l1
  dsimp only
  refine Ok.cond (fun hd=>?_) (fun _=>Ok.some ⟨h2.mono (by omega),h3,by show e.Attrs_.length≤9;omega,h5⟩)
  have hi9:i<9:=by have:=of_decide_eq_true hd;simp at this;omega
  obtain⟨a,a1,a2⟩:=n9 hi9
  rw[a1,Option.bind_some]
  refine Ok.bind (Q:=fun q=>Cur (n+10*i+2) q.2) (Ok.cond (fun _=>one_ok _ h2 (by omega)) (fun _=>Ok.some (h2.mono (by omega)))) ?_
  rintro⟨r1,o1⟩ g1
  dsimp only at g1 ⊢
  refine Ok.bind (Q:=fun q=>Cur (n+10*i+4) q.2) (Ok.cond (fun _=>one_ok _ g1 (by omega)) (fun _=>Ok.some (g1.mono (by omega)))) ?_
  rintro⟨r2,o2⟩ g2
  dsimp only at g2 ⊢
  rw[Az (by omega)]
  refine Ok.cond (fun _=>Ok.some ⟨k - 1,by omega,i+1,by omega,g2.mono (by omega),rfl,h3,by dsimp only;omega,h5⟩) (fun _=>?_)
  refine Ok.bind (Dn _ g2 (by omega)) ?_
  rintro⟨r3,o3⟩ ⟨g3,p1,p2⟩
  dsimp only at g3 p1 p2 ⊢
  replace p2:=p2 (by omega)
  rw[IntWalk.i64_in (1+r3) (by omega),show 1+r3=((1+r3).toNat:Int) by omega]
  refine Ok.bind (vals_ok a g3 (by omega) (by omega)) ?_
  rintro⟨b4,l⟩ ⟨g4,q1,q2⟩
  dsimp only at g4 q1 q2 ⊢
  rw[B4 (by simp;omega),Option.bind_some]
  exact Ok.some ⟨k - 1,by omega,i+1,by omega,g4.mono (by omega),rfl,h3,by simp;omega,appe h5 (onee ⟨a2,q1,q2⟩)⟩
theorem cn_ok(e:Ay)(h0:1≤e.Name_.length)(he:EN e):Ok (loopO (spec_l1Cur_entry_l2 e) (e,0)) fun q=>EN q∧q.Name_=e.Name_:=by
  refine Ok.loop (fun k st=>∃ i:Nat,i+k=e.Attrs_.length∧st.2=(i:Int)∧st.1.Name_=e.Name_∧st.1.Attrs_.length=e.Attrs_.length∧∀ a,a∈st.1.Attrs_→AR a) ?_ (n:=e.Attrs_.length) ⟨0,by omega,rfl,rfl,rfl,he.2.2.2⟩
  rintro k ⟨x,v⟩ ⟨i,hi,hv,h3,h4,h5⟩
  dsimp only at hv h3 h4 h5
  subst hv
  have hl:=he.2.2.1
  unfold spec_l1Cur_entry_l2
  dsimp only
  refine Ok.cond (fun hd=>?_) (fun _=>Ok.some ⟨⟨by rw[h3];exact he.1,by rw[h3];exact he.2.1,by omega,h5⟩,h3⟩)
  have d:=of_decide_eq_true hd
  rw[Dx (by omega) (by omega),Option.bind_some,Az (by omega)]
  refine Ok.cond (fun _=>?_) (fun _=>Ok.some ⟨k - 1,by omega,i+1,by omega,rfl,h3,h4,h5⟩)
  rw[Dx (by omega) (by rw[h3];simp;omega),Option.bind_some,Option.bind_some]
  have a:=h5 _ (List.getElem_mem (l:=x.Attrs_) (n:=(i:Int).toNat) (by omega))
  have p:=he.2.1 _ (by rw[← h3];exact List.getElem_mem (l:=x.Name_) (n:=(0:Int).toNat) (by rw[h3];simp;omega))
  exact Ok.some ⟨k - 1,by omega,i+1,by omega,rfl,h3,by simp;omega,sete h5 ⟨a.1,by simp,onee p.2⟩⟩
theorem entry_ok{n:Nat}{b:Ag}(h:Cur n b)(hn:n+200<lim):Ok (spec_l1Cur_entry b) fun q=>Cur (n+100) q.2∧EN q.1∧1≤q.1.Name_.length∧q.1.Name_.length≤3:=by
  unfold spec_l1Cur_entry
  refine Ok.bind (name_ok h (by omega)) ?_
  rintro⟨nm,o⟩ ⟨h1,h2,h3,h4⟩
  dsimp only at h1 h2 h3 h4 ⊢
  refine Ok.bind (attrs_ok (nm:=nm) h1 (by omega)) ?_
  rintro⟨b2,e⟩ ⟨k1,k2,k3,k4⟩
  dsimp only at k1 k2 k3 k4 ⊢
  refine Ok.bind (one_ok _ k1 (by omega)) ?_
  rintro⟨r,o⟩ g1
  dsimp only at g1 ⊢
  have he:EN e:=⟨by rw[k2];omega,by rw[k2];exact h4,k3,k4⟩
  refine Ok.bind (Q:=fun _=>True) (Ok.gd (fun _=>by rw[Dx (by omega) (by rw[k2];simp;omega)];exact Ok.some trivial) (fun _=>trivial)) ?_
  intro p _
  refine Ok.cond (fun _=>?_) (fun _=>Ok.some ⟨g1.mono (by omega),he,by rw[k2];exact h2,by rw[k2];exact h3⟩)
  refine Ok.bind (cn_ok e (by rw[k2];exact h2) he) ?_
  intro x hx
  exact Ok.some ⟨g1.mono (by omega),hx.1,by rw[hx.2,k2];exact h2,by rw[hx.2,k2];exact h3⟩
end Go.G36.FR
namespace Go.G36.FR
set_option linter.all false
open Go Go.G36 Go.Proofs Go.G36.MT

def FL(L:Nat)(f:List Aa):Prop:=1≤f.length∧f.length≤L∧∀ m,m∈f→sm m.Text_
theorem FL.one{m:Aa}(h:sm m.Text_){L:Nat}(hL:1≤L):FL L [m]:=⟨by simp,by simpa using hL,onee h⟩
section
variable {n C L:Nat} {a:Int} {rec:(Int×Ag)→Option ((List Aa)×Ag)} {s:Ag}
theorem f4{v:Int}{t u:ByteArray}(b:Bool)(h:Cur n s)(hn:n+2<lim)(hu:sm u)(hL:1≤L):Ok (spec_l1Cur_filterOf_j4 v t s u b) fun q=>Cur (n+2) q.2∧FL L q.1:=by
  unfold spec_l1Cur_filterOf_j4
  refine Ok.cond (fun _=>Ok.some ⟨h.mono (by omega),FL.one hu hL⟩) (fun _=>Ok.cond (fun _=>?_) (fun _=>Ok.cond (fun _=>Ok.some ⟨h.mono (by omega),FL.one (by show ByteArray.size e0≤300;decide) hL⟩) (fun _=>?_)))
  · refine Ok.bind (Dn _ h (by omega)) ?_
    rintro⟨r,o⟩ ⟨k1,_,_⟩
    exact Ok.some ⟨k1,FL.one hu hL⟩
  · refine Ok.bind (ofs_ok _ h (by omega) (by simp) (Fd (by decide))) ?_
    rintro⟨r7,o8⟩ ⟨g1,g2⟩
    exact Ok.some ⟨g1,FL.one g2 hL⟩
theorem f3{v:Int}{t u:ByteArray}(h:Cur n s)(hn:n+2<lim)(hu:sm u)(hL:1≤L):Ok (spec_l1Cur_filterOf_j3 v t s u) fun q=>Cur (n+2) q.2∧FL L q.1:=by
  unfold spec_l1Cur_filterOf_j3
  exact Ok.cond (fun _=>f4 _ h hn hu hL) (fun _=>f4 _ h hn hu hL)
def RC(C L:Nat)(a:Int)(rec:(Int×Ag)→Option ((List Aa)×Ag)):Prop:=∀ n s,Cur n s→n+C+40<lim→Ok (rec (IntKind.i64.wrap (a - 1),s)) fun q=>Cur (n+C) q.2∧FL L q.1
theorem floop{r:Int}{m:Aa}(hr:RC C L a rec)(h:Cur n s)(hn:n+3*C+40<lim)(hm:sm m.Text_)(hL:L≤1000)(r0:0≤r)(r1:r≤3):Ok (loopO (spec_l1Cur_filterOf_l1 a rec r) (s,[m],0)) fun q=>Cur (n+3*C) q.1∧FL (1+3*L) q.2:=by
  refine Ok.loop (fun k st=>∃ i:Nat,(i:Int)+k=r∧Cur (n+i*C) st.1∧st.2.2=(i:Int)∧FL (1+i*L) st.2.1) ?_ (n:=r.toNat) ⟨0,by omega,by simpa using h,rfl,by simpa using FL.one hm (Nat.le_refl 1)⟩
  rintro k ⟨b,l,v⟩ ⟨i,hi,h2,hv,h3⟩
  dsimp only at h2 hv h3
  subst hv
  unfold spec_l1Cur_filterOf_l1
  dsimp only
  have c1:(i+1)*C=i*C+C:=by rw[Nat.add_mul,Nat.one_mul]
  have c2:(i+1)*L=i*L+L:=by rw[Nat.add_mul,Nat.one_mul]
  have c3:i≤3→i*C≤3*C:=fun h=>Nat.mul_le_mul_right _ h
  have c4:i≤3→i*L≤3*L:=fun h=>Nat.mul_le_mul_right _ h
  refine Ok.cond (fun hd=>?_) (fun _=>Ok.some ⟨h2.mono (by omega),h3.1,by have:=h3.2.1;show l.length≤_;omega,h3.2.2⟩)
  have d:=of_decide_eq_true hd
  have c5:(i+1)*C≤3*C:=Nat.mul_le_mul_right _ (by omega)
  refine Ok.bind (hr _ _ h2 (by omega)) ?_
  rintro⟨f,o⟩ ⟨g1,g2⟩
  dsimp only at g1 g2 ⊢
  have l1:=h3.2.1
  have l2:=g2.2.1
  have l0:=h3.1
  rw[B4 (by have:=c4 (by omega);omega),Option.bind_some,Az (by omega)]
  exact Ok.some ⟨k - 1,by omega,i+1,by omega,g1.mono (by omega),rfl,by simp;omega,by simp;omega,appe h3.2.2 g2.2.2⟩
theorem f2{v:Int}(b:Bool)(hr:RC C L a rec∨(b=false∧(v==2)=false))(h:Cur n s)(hn:n+3*C+50<lim)(hL:L≤1000):Ok (spec_l1Cur_filterOf_j2 a rec s v b) fun q=>Cur (n+3*C+6) q.2∧FL (1+3*L) q.1:=by
  unfold spec_l1Cur_filterOf_j2
  refine Ok.cond (fun hb=>?_) (fun hb=>Ok.cond (fun hv=>?_) (fun _=>?_))
  · have hr:RC C L a rec:=hr.resolve_right fun h=>by rw[h.1]at hb;cases hb
    refine Ok.bind (Dn _ h (by omega)) ?_
    rintro⟨r,o⟩ ⟨k1,k2,k3⟩
    dsimp only at k1 k2 k3 ⊢
    replace k3:=k3 (by omega)
    refine Ok.bind (floop hr k1 (by omega) (by show ByteArray.size e0≤300;decide) hL k2 (by omega)) ?_
    rintro⟨b,f⟩ ⟨g1,g2⟩
    exact Ok.some ⟨g1.mono (by omega),g2⟩
  · have hr:RC C L a rec:=hr.resolve_right fun h=>by rw[h.2]at hv;cases hv
    refine Ok.bind (hr _ _ h (by omega)) ?_
    rintro⟨f,o⟩ ⟨g1,g2⟩
    dsimp only at g1 g2 ⊢
    have l2:=g2.2.1
    rw[B4 (by simp;omega),Option.bind_some]
    exact Ok.some ⟨g1.mono (by omega),by simp,by simp;omega,appe (onee (by show ByteArray.size e0≤300;decide)) g2.2.2⟩
  · refine Ok.bind (ofs_ok _ h (by omega) (by simp) (Fd (by decide))) ?_
    rintro⟨r7,o8⟩ ⟨g1,g2⟩
    dsimp only at g1 g2 ⊢
    refine Ok.bind (attr_ok r7 g1 (by omega)) ?_
    rintro⟨r8,o9⟩ ⟨k1,k2⟩
    dsimp only at k1 k2 ⊢
    refine Ok.mono (Q:=fun q=>Cur (n+2+2+2) q.2∧FL (1+3*L) q.1) (Ok.cond (fun _=>f3 k1 (by omega) (by decide) (by omega)) (fun _=>f3 k1 (by omega) k2 (by omega))) fun q hq=>⟨hq.1.mono (by omega),hq.2⟩
theorem f1{v:Int}(hr:RC C L a rec∨3≤v)(h:Cur n s)(hn:n+3*C+50<lim)(hL:L≤1000):Ok (spec_l1Cur_filterOf_j1 a rec s v) fun q=>Cur (n+3*C+6) q.2∧FL (1+3*L) q.1:=by
  unfold spec_l1Cur_filterOf_j1
  have ne:∀ k:Int,k<3→3≤v→(v==k)=false:=fun k h1 h2=>by simp;omega
  exact Ok.cond (fun _=>f2 _ (hr.imp id fun hv=>⟨ne 0 (by omega) hv,ne 2 (by omega) hv⟩) h hn hL) (fun _=>f2 _ (hr.imp id fun hv=>⟨ne 1 (by omega) hv,ne 2 (by omega) hv⟩) h hn hL)
theorem fb(hr:RC C L a rec∨a=0)(h:Cur n s)(hn:n+3*C+52<lim)(hL:L≤1000):Ok (spec_l1Cur_filterOf_b rec a s) fun q=>Cur (n+3*C+8) q.2∧FL (1+3*L) q.1:=by
  unfold spec_l1Cur_filterOf_b
  refine Ok.bind (Dn _ h (by omega)) ?_
  rintro⟨r,o⟩ ⟨k1,k2,k3⟩
  dsimp only at k1 k2 k3 ⊢
  refine Ok.mono (Q:=fun q=>Cur (n+2+3*C+6) q.2∧FL (1+3*L) q.1) (Ok.cond (fun _=>f1 (.inr (by omega)) k1 (by omega) hL) (fun hc=>?_)) fun q hq=>⟨hq.1.mono (by omega),hq.2⟩
  refine f1 (hr.imp id fun h0=>?_) k1 (by omega) hL
  subst h0
  have:decide (r<3)=false:=by simpa using hc
  have:=of_decide_eq_false this
  omega
end
noncomputable abbrev fo:=fun (rec:(Int×Ag)→Option ((List Aa)×Ag)) (x:Int×Ag)=>match x with | (a0,s0)=>spec_l1Cur_filterOf_b rec a0 s0
theorem fo_mono:∀ g h,(∀ x,Lo (g x) (h x))→∀ x,Lo (fo g x) (fo h x):=fun g h hl x=>by
  obtain⟨a,s⟩:=x
  show Lo (spec_l1Cur_filterOf_b g a s) (spec_l1Cur_filterOf_b h a s)
  have j2:∀ o v b,Lo (spec_l1Cur_filterOf_j2 a g o v b) (spec_l1Cur_filterOf_j2 a h o v b):=fun o v b=>by
    unfold spec_l1Cur_filterOf_j2
    refine Lo.cond (Lo.bind (Lo.refl _) fun _=>Lo.bind (Lo.loop (fun s=>?_) _) fun _=>Lo.refl _) (Lo.cond (Lo.bind (hl _) fun _=>Lo.refl _) (Lo.refl _))
    unfold spec_l1Cur_filterOf_l1
    obtain⟨b,l,v⟩:=s
    exact Lo.cond (Lo.bind (hl _) fun _=>Lo.refl _) (Lo.refl _)
  have j1:∀ o v,Lo (spec_l1Cur_filterOf_j1 a g o v) (spec_l1Cur_filterOf_j1 a h o v):=fun o v=>by
    unfold spec_l1Cur_filterOf_j1
    exact Lo.cond (j2 _ _ _) (j2 _ _ _)
  unfold spec_l1Cur_filterOf_b
  exact Lo.bind (Lo.refl _) fun _=>Lo.cond (j1 _ _) (j1 _ _)
theorem fo1{n:Nat}{s:Ag}(h:Cur n s)(hn:n+88<lim):Ok (spec_l1Cur_filterOfo 1 s) fun q=>Cur (n+44) q.2∧FL 4 q.1:=by
  have r0:RC 12 1 1 (fun x=>spec_l1Cur_filterOf x.1 x.2):=fun m t ht hm=>by
    have h0:Ok (Dk fo 1 (0,t)) fun q=>Cur (m+12) q.2∧FL 1 q.1:=by
      have:=fb (C:=0) (L:=0) (a:=0) (rec:=Dk fo 0) (.inr rfl) ht (by omega) (by omega)
      exact Ok.mono this fun q hq=>⟨hq.1.mono (by omega),hq.2⟩
    obtain⟨q,q1,q2⟩:=h0
    exact⟨q,fix_eq fo_mono q1,q2⟩
  exact fb (C:=12) (L:=1) (a:=1) (rec:=fun x=>spec_l1Cur_filterOf x.1 x.2) (.inl r0) h (by omega) (by omega)
theorem put_any{x:Aa}{l:List Aa}(h:∀ m,m∈l→sm m.Text_){i:Nat}(hx:sm x.Text_):∀ m,m∈l.set i x→sm m.Text_:=sete h hx
theorem txt_mem{l:List Aa}(h:∀ m,m∈l→sm m.Text_){i:Nat}(hi:i<l.length):sm l[i].Text_:=h _ (List.getElem_mem hi)
theorem nest_ok(l:List Aa)(h:FL 13 l)(r:Int)(h0:0≤r)(h1:r≤3):Ok (loopO spec_l1Cur_oddFilterx_l1 (l,IntKind.i64.wrap (18+r))) fun q=>1≤q.length∧q.length≤50∧∀ m,m∈q→sm m.Text_:=by
  rw[IntWalk.i64_in (18+r) (by omega)]
  refine Ok.loop (fun k st=>st.2=(k:Int)∧st.1.length+k≤34∧1≤st.1.length∧∀ m,m∈st.1→sm m.Text_) ?_ (n:=(18+r).toNat) ⟨by dsimp only;omega,by have:=h.2.1;dsimp only;omega,h.1,h.2.2⟩
  rintro k ⟨x,v⟩ ⟨hv,h3,h31,h4⟩
  dsimp only at hv h3 h31 h4
  subst hv
  unfold spec_l1Cur_oddFilterx_l1
  dsimp only
  refine Ok.cond (fun hd=>?_) (fun _=>Ok.some ⟨h31,by show x.length≤50;omega,h4⟩)
  have d:=of_decide_eq_true hd
  rw[B4 (by simp;omega),Option.bind_some,IntWalk.i64_in _ (by omega)]
  exact Ok.some ⟨k - 1,by omega,by dsimp only;omega,by simp;omega,by simp,appe (onee (by show ByteArray.size e0≤300;decide)) h4⟩
theorem oddFilter_ok{n:Nat}{s:Ag}{l:List Aa}(h:Cur n s)(hn:n+40<lim)(hl:FL 13 l):Ok (spec_l1Cur_oddFilterx s l) fun q=>Cur (n+8) q.2∧FL 50 q.1:=by
  obtain⟨l1,l2,l3⟩:=hl
  unfold spec_l1Cur_oddFilterx
  refine Ok.bind (Dn _ h (by omega)) ?_
  rintro⟨r,o⟩ ⟨k1,k2,k3⟩
  dsimp only at k1 k2 k3 ⊢
  replace k3:=k3 (by omega)
  refine Ok.bind (Dn _ k1 (by omega)) ?_
  rintro⟨r4,o5⟩ ⟨g1,_,_⟩
  dsimp only at g1 ⊢
  have ix:idx l r=some l[r.toNat]:=Dx k2 (by omega)
  rw[ix]
  simp only[Option.bind_some]
  have tx:sm l[r.toNat].Text_:=txt_mem l3 _
  refine Ok.cond (fun _=>?_) (fun _=>Ok.cond (fun _=>?_) (fun _=>Ok.cond (fun _=>?_) (fun _=>Ok.cond (fun _=>?_) (fun _=>Ok.cond (fun _=>?_) (fun _=>?_)))))
  · refine Ok.bind (Dn _ g1 (by omega)) ?_
    rintro⟨r7,o8⟩ ⟨c1,_⟩
    exact Ok.some ⟨c1.mono (by omega),by simp;omega,by simp;omega,put_any l3 tx⟩
  · refine Ok.bind (Dn _ g1 (by omega)) ?_
    rintro⟨r7,o8⟩ ⟨c1,_⟩
    exact Ok.some ⟨c1.mono (by omega),by simp;omega,by simp;omega,put_any l3 tx⟩
  · refine Ok.bind (ofs_ok _ g1 (by omega) (by simp) (Fd (by decide))) ?_
    rintro⟨r7,o8⟩ ⟨c1,g2⟩
    exact Ok.some ⟨c1.mono (by omega),by simp;omega,by simp;omega,put_any l3 g2⟩
  · refine Ok.bind (ofs_ok _ g1 (by omega) (by simp) (Fd (by decide))) ?_
    rintro⟨r7,o8⟩ ⟨c1,g2⟩
    exact Ok.some ⟨c1.mono (by omega),by simp;omega,by simp;omega,put_any l3 tx⟩
  · refine Ok.bind (Dn _ g1 (by omega)) ?_
    rintro⟨r7,o8⟩ ⟨c1,p2,p3⟩
    dsimp only at p2 p3 ⊢
    replace p3:=p3 (by omega)
    refine Ok.bind (nest_ok l ⟨l1,l2,l3⟩ r7 p2 (by omega)) ?_
    intro q hq
    exact Ok.some ⟨c1.mono (by omega),hq⟩
  · exact Ok.some ⟨g1.mono (by omega),l1,by show l.length≤50;omega,l3⟩
end Go.G36.FR
