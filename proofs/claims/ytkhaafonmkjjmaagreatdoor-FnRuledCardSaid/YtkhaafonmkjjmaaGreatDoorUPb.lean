/- Names,texts in order: what both sides say. -/
import Derived.Test.YtkhaafonmkjjmaaGreatDoorSPa
import Derived.Test.YtkhaafonmkjjmaaGreatDoorFR
import Derived.Lib.IndexBytes
import Derived.Lib.AtoiAllCases
namespace Go.G36.FR
set_option linter.all false
open Go Go.G36 Go.Proofs Go.G36.MT

theorem tl_beq(u v:ByteArray):(u.toList==v.toList)=true↔u=v:=by
  rw[beq_iff_eq]
  constructor
  · intro h
    rw[Lib.toList_data,Lib.toList_data]at h
    cases u;cases v
    congr 1
    exact Array.toList_inj.1 h
  · rintro rfl;rfl

def big:Nat:=9223372036854775807
def outU{R:Type}:Option R→Unit⊕R
  | some r=>.inr r
  | none=>.inl ()

def digitP(b:Int):Bool:=decide (b≥48)&&decide (b≤57)
def letterP(b:Int):Bool:=(decide (b≥97)&&decide (b≤122))||(decide (b≥65)&&decide (b≤90))
def wordP(b:Int):Bool:=(letterP b||digitP b)||(b==95)
def Ch(a:ByteArray):Bool:=!(decide ((a.size:Int)<1)||decide ((a.size:Int) > 30)) && !(digitP ((a.data.toList.headD 0).toNat:Int))&&a.data.toList.all fun b=>wordP (b.toNat:Int)

theorem Ck(a:ByteArray):a.data.toList.length=a.size:=Array.length_toList

theorem first_all{α:Type}(p:α→Bool):∀ (l:List α) (i:Nat),C1 (fun _ e=>cond (p e) none (some false)) l i=if l.all p then none else some false
  | [],i=>rfl
  | a :: r,i=>by
    rw[C1,List.all_cons]
    cases hb:p a with
    | true=>simp[first_all p r (i+1)]
    | false=>simp

theorem spec_good (a : ByteArray) :            Cb a = some (   Ch a) := by
  by_cases hs:(decide ((a.size:Int)<1)||decide ((a.size:Int) > 30))=true
  · unfold Cb Ch
    simp only[hs,gdO,Bool.not_true,cond_false,Option.bind_some,Bool.true_or,cond_true,Bool.false_and]
  · have hs':(decide ((a.size:Int)<1)||decide ((a.size:Int) > 30))=false:=by simpa using hs
    have hsz:1≤a.size∧a.size≤30:=by simp at hs';omega
    have hlen:=Ck a
    obtain⟨b,r,hbr⟩:∃ b r,a.data.toList=b :: r:=by
      cases h:a.data.toList with
      | nil=>rw[h]at hlen;simp at hlen;omega
      | cons b r=>exact⟨b,r,rfl⟩
    have h0:Cr a 0=some (b.toNat:Int):=idxS_nat (i:=0) (by rw[hbr];rfl)
    have h:=loop_first a.data.toList (spec_GoodName_l1 a) (fun _ e=>cond (wordP (e.toNat:Int)) none (some false)) outU (fun i c hc=>by
      have hi:=(List.getElem?_eq_some_iff.1 hc).1
      have hx:=idxS_nat hc
      simp only[spec_GoodName_l1,show decide ((i:Int)<(a.size:Int))=true from decide_eq_true (by omega),cond_true,hx,Option.bind_some,spec_l1Letter,spec_l1Digit,gdO,Az (i:=i) (by omega)]
      unfold wordP letterP digitP
      generalize (decide ((c.toNat:Int)≥97)&&decide ((c.toNat:Int)≤122)||decide ((c.toNat:Int)≥65)&&decide ((c.toNat:Int)≤90))=L
      cases L
      · simp only[Bool.not_false,cond_true,Option.bind_some,Bool.true_and,Bool.false_or]
        generalize (decide ((c.toNat:Int)≥48)&&decide ((c.toNat:Int)≤57))=D
        generalize (c.toNat:Int)=z
        cases D <;> cases h95:(z==95) <;> simp[h95,bne,outU]
      · simp only[Bool.not_true,cond_false,Option.bind_some,Bool.false_and,Bool.true_or]
        simp[outU]) (by simp[spec_GoodName_l1,hlen,outU]) a.data.toList.length 0 (by omega)
    simp only[List.drop_zero]at h
    rw[first_all (fun e:UInt8=>wordP (e.toNat:Int))]at h
    unfold Cb Ch
    simp only[hs',gdO,Bool.not_false,cond_true,h0,Option.bind_some,spec_l1Digit,Bool.false_or,Bool.true_and,hbr,List.headD_cons]
    rw[← hbr,show ((0:Int))=((0:Nat):Int) from rfl,h]
    unfold digitP
    generalize (decide ((b.toNat:Int)≥48)&&decide ((b.toNat:Int)≤57))=D
    cases D <;> cases hall:(a.data.toList.all fun e=>wordP (e.toNat:Int)) <;> simp[outU]

theorem impl_word(b:Int):impl_ywordByte b=some (wordP b):=by
  unfold impl_ywordByte impl_yletter impl_ydigit wordP letterP digitP gdO
  simp only[Option.bind_some]
  generalize (decide (b≥97)&&decide (b≤122)||decide (b≥65)&&decide (b≤90))=L
  generalize (decide (b≥48)&&decide (b≤57))=D
  cases L <;> cases D <;> simp

theorem impl_good(a:ByteArray):B5 a=some (Ch a):=by
  have hlen:=Ck a
  have he:(a.toList==e0.toList)=decide ((a.size:Int)<1):=by
    rw[ByteArray.toList_eq,ByteArray.toList_eq]
    cases h:a.data.toList with
    | nil=>rw[h]at hlen;simp at hlen;simp[← hlen]
    | cons b r=>rw[h]at hlen;simp at hlen;simp;omega
  by_cases hs:(decide ((a.size:Int)<1)||decide ((a.size:Int) > 30))=true
  · unfold B5 Ch
    rw[he]
    simp only[hs,gdO,Bool.not_true,cond_false,Option.bind_some,Bool.true_or,cond_true,Bool.false_and,impl_ydigit]
  · have hs':(decide ((a.size:Int)<1)||decide ((a.size:Int) > 30))=false:=by simpa using hs
    have hsz:1≤a.size∧a.size≤30:=by simp at hs';omega
    obtain⟨b,r,hbr⟩:∃ b r,a.data.toList=b :: r:=by
      cases h:a.data.toList with
      | nil=>rw[h]at hlen;simp at hlen;omega
      | cons b r=>exact⟨b,r,rfl⟩
    have h0:Cr a 0=some (b.toNat:Int):=idxS_nat (i:=0) (by rw[hbr];rfl)
    have h:=loop_first a.data.toList (impl_GoodName_l1 a) (fun _ e=>cond (wordP (e.toNat:Int)) none (some false)) outU (fun i c hc=>by
      have hi:=(List.getElem?_eq_some_iff.1 hc).1
      have hx:=idxS_nat hc
      simp only[impl_GoodName_l1,show decide ((i:Int)<(a.size:Int))=true from decide_eq_true (by omega),cond_true,hx,Option.bind_some,impl_word,Az (i:=i) (by omega)]
      generalize wordP (c.toNat:Int)=W
      cases W <;> simp[outU]) (by simp[impl_GoodName_l1,hlen,outU]) a.data.toList.length 0 (by omega)
    simp only[List.drop_zero]at h
    rw[first_all (fun e:UInt8=>wordP (e.toNat:Int))]at h
    unfold B5 Ch
    rw[he]
    simp only[hs',gdO,Bool.not_false,cond_true,h0,Option.bind_some,impl_ydigit,Bool.false_or,Bool.true_and,hbr,List.headD_cons]
    rw[← hbr,show ((0:Int))=((0:Nat):Int) from rfl,h]
    unfold digitP
    generalize (decide ((b.toNat:Int)≥48)&&decide ((b.toNat:Int)≤57))=D
    cases D <;> cases hall:(a.data.toList.all fun e=>wordP (e.toNat:Int)) <;> simp[outU]


def sgn(a b:Int):Int:=if a<b then -1 else if a > b then 1 else 0
theorem cmpNum_eq(a b:Int):spec_l1CmpNum a b=some (sgn a b):=by
  unfold spec_l1CmpNum sgn
  by_cases h:a<b
  · simp[h]
  · by_cases h2:a > b <;> simp[h,h2]

def cmpB:List UInt8→List UInt8→Int
  | a :: x,b :: y=>if a=b then cmpB x y else sgn (a.toNat:Int) (b.toNat:Int)
  | x,y=>sgn (x.length:Int) (y.length:Int)

theorem cmpB_neg : ∀ (x y : List UInt8), cmpB x y < 0 ↔ Op.bytesLess x y = true
  | [],[]=>by simp[cmpB,sgn,Op.bytesLess]
  | [],b :: y=>by
    have:(0:Int)<((b :: y).length:Int):=by simp
    have e:cmpB [] (b :: y) = -1:=by
      show sgn (([]:List UInt8).length:Int) ((b :: y).length:Int) = -1
      unfold sgn;rw[if_pos (by simp)]
    rw[e];simp[Op.bytesLess]
  | a :: x, [] => by
    have e:cmpB (a :: x) []=1:=by
      show sgn ((a :: x).length:Int) (([]:List UInt8).length:Int)=1
      unfold sgn
      rw[if_neg (by simp;omega),if_pos (by simp)]
    rw[e];simp[Op.bytesLess]
  | a :: x, b :: y => by
    have hc:cmpB (a :: x) (b :: y)=if a=b then cmpB x y else sgn (a.toNat:Int) (b.toNat:Int):=by simp only[cmpB]
    rw[hc]
    by_cases h:a=b
    · subst h
      have:¬ a<a:=UInt8.lt_irrefl a
      rw[if_pos rfl,cmpB_neg x y]
      simp[Op.bytesLess,this]
    · rw[if_neg h]
      unfold sgn
      have h2:(a==b)=false:=by simpa using h
      by_cases hl:a<b
      · have:(a.toNat:Int)<(b.toNat:Int):=by have:=UInt8.lt_iff_toNat_lt.1 hl;omega
        rw[if_pos this]
        simp[Op.bytesLess,hl]
      · have h1:¬ (a.toNat:Int)<(b.toNat:Int):=fun h=>hl (UInt8.lt_iff_toNat_lt.2 (by omega))
        rw[if_neg h1]
        simp only[Op.bytesLess,hl,decide_false,h2,Bool.false_and,Bool.or_false]
        split <;> simp
theorem cmpB_less(x y:List UInt8):decide (cmpB x y≥0) = !(Op.bytesLess x y):=by
  have:=cmpB_neg x y
  cases h:Op.bytesLess x y with
  | true=>rw[h]at this;have:=this.2 rfl;simp;omega
  | false => rw [h] at this; have : ¬ cmpB x y < 0 := fun e => by cases this.1 e
             simp;omega

theorem byte_lt(b:UInt8):(b.toNat:Int)<256:=by have:=b.toNat_lt;omega

theorem cmpText_eq (a b : ByteArray) (ha : a.size < big) (hb : b.size < big) :             B0 a b = some (cmpB a.data.toList b.data.toList) := by
  unfold big at ha hb
  have hla:=Ck a
  have hlb:=Ck b
  let zs:=a.data.toList.zip b.data.toList
  have hz:zs.length=min a.size b.size:=by show (List.zip _ _).length=_;rw[List.length_zip,hla,hlb]
  have h:=loop_first zs (spec_l1CmpText_l1 a b) (fun _ e=>if e.1=e.2 then none else some (sgn (e.1.toNat:Int) (e.2.toNat:Int))) outU (fun i c hc=>by
    have hi:=(List.getElem?_eq_some_iff.1 hc).1
    obtain⟨c1,c2⟩:=c
    have hcc:a.data.toList[i]? = some c1∧b.data.toList[i]? = some c2:=by
      have:=hc
      simp only[zs,List.getElem?_zip_eq_some]at this
      exact this
    have hx:=idxS_nat hcc.1
    have hy:=idxS_nat hcc.2
    simp only[spec_l1CmpText_l1,show decide ((i:Int)<(a.size:Int))=true from decide_eq_true (by omega),show decide ((i:Int)<(b.size:Int))=true from decide_eq_true (by omega),Bool.and_self,cond_true,hx,hy,Option.bind_some,
      Az (i:=i) (by omega),IntWalk.i64_in (c1.toNat:Int) (by have:=byte_lt c1;omega),IntWalk.i64_in (c2.toNat:Int) (by have:=byte_lt c2;omega),cmpNum_eq]
    by_cases e:c1=c2
    · subst e;simp[outU]
    · have:((c1.toNat:Int) != (c2.toNat:Int))=true:=by
        simp only[bne_iff_ne,ne_eq]
        intro h
        exact e (UInt8.toNat_inj.1 (by omega))
      simp[e,this,outU]) (by
    simp only[spec_l1CmpText_l1]
    have:(decide ((zs.length:Int)<(a.size:Int))&&decide ((zs.length:Int)<(b.size:Int)))=false:=by
      rw[hz]
      simp only[Bool.and_eq_false_iff,decide_eq_false_iff_not]
      omega
    rw[this];rfl) zs.length 0 (by omega)
  simp only[List.drop_zero]at h
  have key:∀ (x y:List UInt8) (i:Nat),cmpB x y=(match C1 (fun (_:Nat) (e:UInt8×UInt8)=>if e.1=e.2 then none else some (sgn (e.1.toNat:Int) (e.2.toNat:Int))) (x.zip y) i with | some r=>r | none=>sgn (x.length:Int) (y.length:Int)):=by
    intro x
    induction x with
    | nil=>intro y i;cases y <;> simp[cmpB,C1]
    | cons p x ih =>
      intro y i
      cases y with
      | nil=>simp[cmpB,C1]
      | cons q y =>
        simp only[List.zip_cons_cons,C1,cmpB]
        by_cases e:p=q
        · rw[if_pos e,if_pos e]
          simp only
          rw[ih y (i+1)]
          cases C1 _ (x.zip y) (i+1) with
          | some r=>rfl
          | none =>
            simp only[sgn,List.length_cons]
            have e1:((x.length:Int)<(y.length:Int))↔(((x.length+1:Nat):Int)<((y.length+1:Nat):Int)):=by omega
            have e2:((x.length:Int) > (y.length:Int))↔(((x.length+1:Nat):Int) > ((y.length+1:Nat):Int)):=by omega
            simp only[e1,e2]
        · rw[if_neg e,if_neg e]
  rw[key a.data.toList b.data.toList 0,hla,hlb]
  unfold B0
  rw[show ((0:Int))=((0:Nat):Int) from rfl,h]
  rw[show a.data.toList.zip b.data.toList=zs from rfl]
  generalize C1 (fun (_:Nat) (e:UInt8×UInt8)=>if e.1=e.2 then none else some (sgn (e.1.toNat:Int) (e.2.toNat:Int))) zs 0=F
  cases F with
  | some r=>simp[outU]
  | none=>simp[outU,cmpNum_eq]

def gR(xs:List ByteArray)(i:Nat)(e:ByteArray):Option Bool:=cond (Op.bytesLess (xs.getD (i - 1) e0).toList e.toList) none (some false)
def E2(xs:List ByteArray):Bool:=(C1 (gR xs) (xs.drop 1) 1).getD true

theorem spec_rises (xs : List ByteArray) (hl : xs.length < big) (hn : ∀ n, n ∈ xs → n.size < big) : spec_l3Rising xs = some (    E2 xs) := by
  have hl':xs.length<9223372036854775807:=hl
  unfold spec_l3Rising E2
  by_cases h0:xs.length=0
  · have hx:xs = []:=List.eq_nil_of_length_eq_zero h0
    subst hx
    have:loopO (spec_l3Rising_l1 []) 1=some (.inl ()):=Cc (by simp[spec_l3Rising_l1])
    rw[this];rfl
  · have h:=loop_firstM 1 xs (spec_l3Rising_l1 xs) (gR xs) outU (fun i a h1 ha=>by
      have hi:=(List.getElem?_eq_some_iff.1 ha).1
      have hp:xs[i - 1]? = some xs[i - 1]:=by simp
      have hw:IntKind.i64.wrap ((i:Int) - 1)=((i - 1:Nat):Int):=by rw[IntWalk.i64_in _ (by omega)];omega
      have hq:xs.getD (i - 1) e0=xs[i - 1]:=by rw[List.getD_eq_getElem?_getD,hp];rfl
      simp only[spec_l3Rising_l1,show decide ((i:Int)<(xs.length:Int))=true from decide_eq_true (by omega),cond_true,hw,Bk,hp,ha,Option.bind_some,
        cmpText_eq xs[i - 1] a (hn _ (List.getElem_mem ..)) (hn _ (List.mem_of_getElem? ha)),cmpB_less,Az (i:=i) (by omega),gR,hq,ByteArray.toList_eq]
      cases Op.bytesLess xs[i - 1].data.toList a.data.toList <;> simp[outU]) (by
      simp[spec_l3Rising_l1,outU]) (xs.length - 1) 1 (Nat.le_refl _) (by omega)
    rw[show ((1:Int))=((1:Nat):Int) from rfl,h]
    cases C1 (gR xs) (xs.drop 1) 1 <;> simp[outU]

theorem impl_rises (xs : List ByteArray) (hl : xs.length < big) : impl_yrising xs = some (    E2 xs) := by
  have hl':xs.length<9223372036854775807:=hl
  unfold impl_yrising E2
  have h:=loop_first xs (impl_yrising_l1 xs) (fun i e=>if i=0 then none else gR xs i e) outU (fun i a ha=>by
    have hi:=(List.getElem?_eq_some_iff.1 ha).1
    by_cases h0:i=0
    · subst h0
      simp only[impl_yrising_l1,show decide (((0:Nat):Int)<(xs.length:Int))=true from decide_eq_true (by omega),cond_true,Bk,ha,Option.bind_some]
      simp[gdO,outU,IntWalk.i64_in 1 (by omega)]
    · have hp:xs[i - 1]? = some xs[i - 1]:=by simp
      have hw:IntKind.i64.wrap ((i:Int) - 1)=((i - 1:Nat):Int):=by rw[IntWalk.i64_in _ (by omega)];omega
      have hq:xs.getD (i - 1) e0=xs[i - 1]:=by rw[List.getD_eq_getElem?_getD,hp];rfl
      simp only[impl_yrising_l1,show decide ((i:Int)<(xs.length:Int))=true from decide_eq_true (by omega),show decide ((i:Int) > 0)=true from decide_eq_true (by omega),gdO,cond_true,hw,Bk,hp,ha,Option.bind_some,
        Az (i:=i) (by omega),h0,if_false,gR,hq,Bool.true_and]
      cases Op.bytesLess xs[i - 1].toList a.toList <;> simp[outU]) (by
    simp[impl_yrising_l1,outU]) xs.length 0 (by omega)
  have key:C1 (fun i e=>if i=0 then none else gR xs i e) (xs.drop 0) 0=C1 (gR xs) (xs.drop 1) 1:=by
    have gen:∀ (l:List ByteArray) (i:Nat),1≤i→C1 (fun i e=>if i=0 then none else gR xs i e) l i=C1 (gR xs) l i:=by
      intro l
      induction l with
      | nil=>intro i _;rfl
      | cons a r ih =>
        intro i h1
        rw[C1,C1]
        simp only[show ¬ i=0 by omega,if_false]
        rw[ih (i+1) (by omega)]
    cases xs with
    | nil=>rfl
    | cons a r =>
      rw[List.drop_zero,C1]
      simp only[if_true,List.drop_succ_cons,List.drop_zero]
      exact gen r 1 (Nat.le_refl _)
  rw[show ((0:Int))=((0:Nat):Int) from rfl,h,key]
  cases C1 (gR xs) (xs.drop 1) 1 <;> simp[outU]
end Go.G36.FR
namespace Go.G36.FR
set_option linter.all false
open Go Go.G36 Go.Proofs Go.G36.MT

theorem loop_find{α R:Type}(xs:List α)(step:Int→Option (Int⊕(Unit⊕R)))(p:α→Bool)(out:α→R)
    (hs:∀ (i:Nat) (a:α),xs[i]? = some a→step (i:Int)=some (cond (p a) (.inr (.inr (out a))) (.inl ((i:Int)+1)))) (he:step (xs.length:Int)=some (.inr (.inl ()))) :
    loopO step 0=some (match xs.find? p with | some a=>.inr (out a) | none=>.inl ()):=by
  have h:=loop_first xs step (fun _ a=>cond (p a) (some (out a)) none) (fun o=>match o with | some r=>.inr r | none=>.inl ()) (fun i a ha=>by
    rw[hs i a ha]
    cases p a <;> rfl) he xs.length 0 (by omega)
  simp only[List.drop_zero]at h
  have key:∀ (l:List α) (i:Nat),C1 (fun _ a=>cond (p a) (some (out a)) none) l i=(l.find? p).map out:=by
    intro l
    induction l with
    | nil=>intro i;rfl
    | cons a r ih =>
      intro i
      rw[C1,List.find?_cons]
      cases hb:p a with
      | true=>rfl
      | false=>simpa using ih (i+1)
  rw[show ((0:Int))=((0:Nat):Int) from rfl,h,key]
  cases xs.find? p <;> rfl
def Ef{α:Type}(b:Nat→α→Bool):List α→Nat→Bool
  | [],_=>true
  | a :: r,i=>b i a&&Ef b r (i+1)
theorem Cv{α:Type}(xs:List α)(step:Int→Option (Int⊕(Unit⊕Bool)))(b:Nat→α→Bool)
    (hs:∀ (i:Nat) (a:α),xs[i]? = some a→step (i:Int)=some (cond (b i a) (.inl ((i:Int)+1)) (.inr (.inr false)))) (he:step (xs.length:Int)=some (.inr (.inl ()))) :
    loopO step 0=some (cond (Ef b xs 0) (.inl ()) (.inr false)):=by
  have h:=loop_first xs step (fun i a=>cond (b i a) none (some false)) outU (fun i a ha=>by
    rw[hs i a ha]
    cases b i a <;> rfl) he xs.length 0 (by omega)
  simp only[List.drop_zero]at h
  have key:∀ (l:List α) (i:Nat),C1 (fun i a=>cond (b i a) none (some false)) l i=cond (Ef b l i) none (some false):=by
    intro l
    induction l with
    | nil=>intro i;rfl
    | cons a r ih =>
      intro i
      rw[C1,Ef]
      cases hb:b i a with
      | true=>simpa using ih (i+1)
      | false=>rfl
  rw[show ((0:Int))=((0:Nat):Int) from rfl,h,key]
  cases Ef b xs 0 <;> rfl
theorem ltn{i n:Nat}(h:i<n):decide ((i:Int)<(n:Int))=true:=decide_eq_true (by omega)
theorem gtz{i:Nat}(h:0<i):decide ((i:Int) > 0)=true:=decide_eq_true (by omega)
theorem pre{i:Nat}(h:0<i)(hb:i<9223372036854775807):IntKind.i64.wrap ((i:Int) - 1)=((i - 1:Nat):Int):=by rw[IntWalk.i64_in _ (by omega)];omega
theorem cmp_ge{a b:ByteArray}(ha:a.size<big)(hb:b.size<big):∃ r,B0 a b=some r∧decide (r≥0) = !(Op.bytesLess a.toList b.toList):=by
  refine⟨_,cmpText_eq a b ha hb,?_⟩
  rw[cmpB_less,ByteArray.toList_eq,ByteArray.toList_eq]

def named(n:ByteArray)(t:ByteArray):Bool:=t.toList==n.toList
def Cp(l:List Ar)(n:ByteArray):Ar×Bool:=match l.find? (fun t=>named n t.Name_) with
  | some t=>(t,true)
  | none=>(⟨e0,0,false⟩,false)
def findC(l:List Ax)(n:ByteArray):Ax×Bool:=match l.find? (fun t=>named n t.Name_) with
  | some t=>(t,true)
  | none=>(⟨e0,e0,[],[]⟩,false)
def Eu(l:List B8)(n:ByteArray):List ByteArray:=match l.find? (fun t=>named n t.Name_) with
  | some t=>t.Values_
  | none=>[]
theorem type_spec(s:Ah)(n:ByteArray)(hl:s.Types_.length<big):spec_l3Type s n=some (Cp s.Types_ n):=by
  unfold big at hl
  unfold spec_l3Type
  rw[loop_find s.Types_ (spec_l3Type_l1 s n) (fun t=>named n t.Name_) (fun t=>(t,true)) (fun i a ha=>by
    have hi:=(List.getElem?_eq_some_iff.1 ha).1
    simp only[spec_l3Type_l1,ltn hi,cond_true,Bk,ha,Option.bind_some,Az (i:=i) (by omega),named]
    cases (a.Name_.toList==n.toList) <;> rfl) (by simp[spec_l3Type_l1]),Option.bind_some]
  unfold Cp
  cases s.Types_.find? (fun t=>named n t.Name_) <;> rfl
theorem type_impl(s:Ah)(n:ByteArray)(hl:s.Types_.length<big):impl_DirSchema_yattrType s n=some (Cp s.Types_ n):=by
  unfold big at hl
  unfold impl_DirSchema_yattrType impl_AttrType_
  rw[loop_find s.Types_ (impl_AttrType__l1 s.Types_ n) (fun t=>named n t.Name_) (fun t=>(t,true)) (fun i a ha=>by
    have hi:=(List.getElem?_eq_some_iff.1 ha).1
    simp only[impl_AttrType__l1,impl_DirSchema_yattrType_1,ltn hi,cond_true,Bk,ha,Option.bind_some,Az (i:=i) (by omega),named]
    cases (a.Name_.toList==n.toList) <;> rfl) (by simp[impl_AttrType__l1]),Option.bind_some]
  unfold Cp
  cases s.Types_.find? (fun t=>named n t.Name_) <;> rfl
theorem class_spec(s:Ah)(n:ByteArray)(hl:s.Classes_.length<big):spec_l3Class s n=some (findC s.Classes_ n):=by
  unfold big at hl
  unfold spec_l3Class
  rw[loop_find s.Classes_ (spec_l3Class_l1 s n) (fun t=>named n t.Name_) (fun t=>(t,true)) (fun i a ha=>by
    have hi:=(List.getElem?_eq_some_iff.1 ha).1
    simp only[spec_l3Class_l1,ltn hi,cond_true,Bk,ha,Option.bind_some,Az (i:=i) (by omega),named]
    cases (a.Name_.toList==n.toList) <;> rfl) (by simp[spec_l3Class_l1]),Option.bind_some]
  unfold findC
  cases s.Classes_.find? (fun t=>named n t.Name_) <;> rfl
theorem class_impl(s:Ah)(n:ByteArray)(hl:s.Classes_.length<big):impl_DirSchema_yclass s n=some (findC s.Classes_ n):=by
  unfold big at hl
  unfold impl_DirSchema_yclass impl_Class_
  rw[loop_find s.Classes_ (impl_Class__l1 s.Classes_ n) (fun t=>named n t.Name_) (fun t=>(t,true)) (fun i a ha=>by
    have hi:=(List.getElem?_eq_some_iff.1 ha).1
    simp only[impl_Class__l1,impl_DirSchema_yclass_1,ltn hi,cond_true,Bk,ha,Option.bind_some,Az (i:=i) (by omega),named]
    cases (a.Name_.toList==n.toList) <;> rfl) (by simp[impl_Class__l1]),Option.bind_some]
  unfold findC
  cases s.Classes_.find? (fun t=>named n t.Name_) <;> rfl
theorem values_spec(e:Ay)(n:ByteArray)(hl:e.Attrs_.length<big):spec_l3Values e n=some (Eu e.Attrs_ n):=by
  unfold big at hl
  unfold spec_l3Values
  rw[loop_find e.Attrs_ (spec_l3Values_l1 e n) (fun t=>named n t.Name_) (fun t=>t.Values_) (fun i a ha=>by
    have hi:=(List.getElem?_eq_some_iff.1 ha).1
    simp only[spec_l3Values_l1,ltn hi,cond_true,Bk,ha,Option.bind_some,Az (i:=i) (by omega),named]
    cases (a.Name_.toList==n.toList) <;> rfl) (by simp[spec_l3Values_l1]),Option.bind_some]
  unfold Eu
  cases e.Attrs_.find? (fun t=>named n t.Name_) <;> rfl
theorem values_impl(e:Ay)(n:ByteArray)(hl:e.Attrs_.length<big):impl_Entry_yvalues e n=some (Eu e.Attrs_ n):=by
  unfold big at hl
  unfold impl_Entry_yvalues impl_Attr_
  rw[loop_find e.Attrs_ (impl_Attr__l1 e.Attrs_ n) (fun t=>named n t.Name_) (fun t=>(t,true)) (fun i a ha=>by
    have hi:=(List.getElem?_eq_some_iff.1 ha).1
    simp only[impl_Attr__l1,impl_Entry_yvalues_1,ltn hi,cond_true,Bk,ha,Option.bind_some,Az (i:=i) (by omega),named]
    cases (a.Name_.toList==n.toList) <;> rfl) (by simp[impl_Attr__l1]),Option.bind_some]
  unfold Eu
  cases e.Attrs_.find? (fun t=>named n t.Name_) <;> rfl

def C9(a:ByteArray):Bool:=a.data.toList.all fun b=>decide (32≤b.toNat)&&decide (b.toNat≤126)
theorem print_step(c:UInt8):(decide ((c.toNat:Int)<32)||decide ((c.toNat:Int) > 126)) = !(decide (32≤c.toNat)&&decide (c.toNat≤126)):=by
  rw[Bool.eq_iff_iff]
  simp
  omega
theorem Ec{α:Type}(p:α→Bool):∀ (l:List α) (i:Nat),Ef (fun _ a=>p a) l i=l.all p
  | [],_=>rfl
  | a :: r,i=>by rw[Ef,List.all_cons,Ec p r (i+1)]
theorem print_loop (a : ByteArray) (step : Int → Option (Int ⊕ (Unit ⊕ Bool))) (hsz : a.size < big)
    (hs:∀ v,step v=cond (decide (v<(a.size:Int))) ((Cr a v).bind fun b4=>(gdO (!(decide (b4<32))) (Cr a v)).bind fun b6=>cond (decide (b4<32)||decide (b6 > 126)) (some (.inr (.inr false))) (some (.inl (IntKind.i64.wrap (v+1))))) (some (.inr (.inl ())))) :
    loopO step 0=some (cond (C9 a) (.inl ()) (.inr false)):=by
  unfold big at hsz
  have hlen:=Ck a
  rw[Cv a.data.toList step (fun _ b=>decide (32≤b.toNat)&&decide (b.toNat≤126)) (fun i c hc=>by
    have hi:=(List.getElem?_eq_some_iff.1 hc).1
    have hx:=idxS_nat hc
    rw[hs,ltn (show i<a.size by omega)]
    simp only[cond_true,hx,Option.bind_some,Az (i:=i) (by omega)]
    have hp:=print_step c
    cases h1:decide ((c.toNat:Int)<32) with
    | true =>
      rw[h1,Bool.true_or]at hp
      simp only[gdO,Bool.not_true,cond_false,Option.bind_some,Bool.true_or,cond_true]
      rw[show (decide (32≤c.toNat)&&decide (c.toNat≤126))=false by cases h9:(decide (32≤c.toNat)&&decide (c.toNat≤126)) with
        | false=>rfl
        | true=>rw[h9]at hp;cases hp]
      rfl
    | false =>
      rw[h1,Bool.false_or]at hp
      simp only[gdO,Bool.not_false,cond_true,Option.bind_some,Bool.false_or,hp]
      cases (decide (32≤c.toNat)&&decide (c.toNat≤126)) <;> rfl) (by rw[hs,hlen];simp),Ec (fun b:UInt8=>decide (32≤b.toNat)&&decide (b.toNat≤126))]
  rfl
theorem printed_impl(a:ByteArray)(lo hi:Int)(hsz:a.size<big):impl_yprinted a lo hi=some (!(decide ((a.size:Int)<lo)||decide ((a.size:Int) > hi))&&C9 a):=by
  unfold impl_yprinted
  rw[print_loop a (impl_yprinted_l1 a) hsz (fun v=>rfl)]
  cases (decide ((a.size:Int)<lo)||decide ((a.size:Int) > hi)) <;> cases C9 a <;> rfl
theorem printed_spec(a:ByteArray)(hsz:a.size<big):spec_l1Printed a=some (C9 a):=by
  unfold spec_l1Printed
  rw[print_loop a (spec_l1Printed_l1 a) hsz (fun v=>rfl)]
  cases C9 a <;> rfl
end Go.G36.FR
namespace Go.G36.FR
set_option linter.all false
open Go Go.G36 Go.Proofs Go.G36.MT

theorem index_any{α:Type}(xs:List α)(step:Int→Option (Int⊕(Unit⊕Int)))(p:α→Bool)(hs:∀ (i:Nat) (a:α),xs[i]? = some a→step (i:Int)=some (cond (p a) (.inr (.inr (i:Int))) (.inl ((i:Int)+1))))
    (he:step (xs.length:Int)=some (.inr (.inl ()))):((loopO step 0).bind fun q8=>(match q8 with | .inl _=>some (-1) | .inr q2=>some q2)).bind (fun r1=>some (decide (r1≥0)))=some (xs.any p):=by
  have h:=loop_first xs step (fun i a=>cond (p a) (some (i:Int)) none) outU (fun i a ha=>by
    rw[hs i a ha]
    cases p a <;> rfl) he xs.length 0 (by omega)
  simp only[List.drop_zero]at h
  have key:∀ (l:List α) (i:Nat),(C1 (fun i a=>cond (p a) (some (i:Int)) none) l i=none∧l.any p=false)∨∃ j:Nat,C1 (fun i a=>cond (p a) (some (i:Int)) none) l i=some (j:Int)∧l.any p=true:=by
    intro l
    induction l with
    | nil=>intro i;exact .inl ⟨rfl,rfl⟩
    | cons a r ih =>
      intro i
      rw[C1,List.any_cons]
      cases hb:p a with
      | true=>exact .inr ⟨i,by simp⟩
      | false=>simpa using ih (i+1)
  rw[show ((0:Int))=((0:Nat):Int) from rfl,h]
  rcases key xs 0 with ⟨k1,k2⟩ | ⟨j,k1,k2⟩
  · rw[k1,k2];simp[outU]
  · rw[k1,k2];simp[outU]

def lessB(a b:ByteArray):Bool:=Op.bytesLess a.toList b.toList
def E3(a:ByteArray)(lo hi:Int):Bool:=!(decide ((a.size:Int)<lo)||decide ((a.size:Int) > hi))
def Du(p:A4):Bool:=Ch p.Attr_&&(E3 p.Text_ 1 60&&C9 p.Text_)
def D7(n:List A4):Bool:=decide ((n.length:Int)≤8)&&n.all Du
def szN(n:List A4):Prop:=n.length≤100000∧∀ p,p∈n→p.Attr_.size≤100000∧p.Text_.size≤100000
theorem sbig{a:ByteArray}(h:a.size≤100000):a.size<big:=by unfold big;omega
theorem lbig{α:Type}{l:List α}(h:l.length≤100000):l.length<big:=by unfold big;omega

theorem part_impl(p:A4)(h:p.Text_.size≤100000):impl_ygoodPart p 60=some (Du p):=by
  unfold impl_ygoodPart Du E3
  rw[impl_good,printed_impl _ _ _ (sbig h)]
  cases Ch p.Attr_ <;> simp[gdO]
theorem name_impl(n:List A4)(hz:szN n):impl_GoodDirName n=some (D7 n):=by
  obtain⟨hl,hp⟩:=hz
  have hA:impl_Part_ n=some (n.any fun p=>!Du p):=index_any n (impl_Part_x_l1 n) (fun p=>!Du p) (fun i a ha=>by
    have hi:=(List.getElem?_eq_some_iff.1 ha).1
    simp only[impl_Part_x_l1,impl_GoodDirName_1,ltn hi,cond_true,Bk,ha,Option.bind_some,part_impl a (hp a (List.mem_of_getElem? ha)).2,Az (i:=i) (by omega)]
    cases Du a <;> rfl) (by simp[impl_Part_x_l1])
  unfold impl_GoodDirName D7
  rw[hA]
  have e:n.any (fun p=>!Du p) = !(n.all Du):=by
    rw[← List.not_all_eq_any_not]
  rw[e]
  cases decide ((n.length:Int)≤8) <;> cases n.all Du <;> rfl
theorem name_spec(n:List A4)(hz:szN n):spec_GoodDirName n=some (D7 n):=by
  obtain⟨hl,hp⟩:=hz
  unfold spec_GoodDirName D7
  rw[Cv n (spec_GoodDirName_l1 n) (fun _ p=>Du p) (fun i a ha=>by
    have hi:=(List.getElem?_eq_some_iff.1 ha).1
    have h2:=(hp a (List.mem_of_getElem? ha)).2
    simp only[spec_GoodDirName_l1,ltn hi,cond_true,Bk,ha,Option.bind_some,spec_good,printed_spec _ (sbig h2),Az (i:=i) (by omega),Du,E3]
    cases Ch a.Attr_ <;> cases decide ((a.Text_.size:Int)<1) <;> cases decide ((a.Text_.size:Int) > 60) <;> cases C9 a.Text_ <;> rfl) (by simp[spec_GoodDirName_l1]),Ec]
  cases n.all Du <;> cases decide ((n.length:Int)≤8) <;> rfl

def atOk(l:List B8)(i:Nat)(a:B8):Bool :=
  (Ch a.Name_&&(decide (i=0)||lessB (l.getD (i - 1) default).Name_ a.Name_))&&((!(decide ((a.Values_.length:Int)<1)||decide ((a.Values_.length:Int) > 30))&&E2 a.Values_)&&a.Values_.all fun v=>E3 v 1 200&&C9 v)
def Dd(e:Ay):Bool:=(D7 e.Name_ && !((e.Name_.length:Int)==0))&&((decide ((e.Attrs_.length:Int)≥1)&&decide ((e.Attrs_.length:Int)≤30))&&Ef (atOk e.Attrs_) e.Attrs_ 0)
def szE(e:Ay):Prop:=szN e.Name_∧e.Attrs_.length≤100000∧∀ a,a∈e.Attrs_→a.Name_.size≤100000∧a.Values_.length≤100000∧∀ v,v∈a.Values_→v.size≤100000
theorem prevD{α:Type}[Inhabited α]{l:List α}{i:Nat}(h0:0<i)(hi:i<l.length):l[i - 1]? = some (l.getD (i - 1) default):=by
  rw[List.getD_eq_getElem?_getD,List.getElem?_eq_getElem (by omega)]
  rfl
theorem prevM{α:Type}[Inhabited α]{l:List α}{i:Nat}(h0:0<i)(hi:i<l.length):l.getD (i - 1) default∈l:=List.mem_of_getElem? (prevD h0 hi)
theorem vals_impl(a:B8)(hl:a.Values_.length≤100000)(hv:∀ v,v∈a.Values_→v.size≤100000):loopO (impl_ygoodAttrs_l2 a) 0=some (cond (a.Values_.all fun v=>E3 v 1 200&&C9 v) (.inl ()) (.inr false)):=by
  rw[Cv a.Values_ (impl_ygoodAttrs_l2 a) (fun _ v=>E3 v 1 200&&C9 v) (fun i v ha=>by
    have hi:=(List.getElem?_eq_some_iff.1 ha).1
    simp only[impl_ygoodAttrs_l2,ltn hi,cond_true,Bk,ha,Option.bind_some,printed_impl _ _ _ (sbig (hv v (List.mem_of_getElem? ha))),Az (i:=i) (by omega),E3]
    cases (!(decide ((v.size:Int)<1)||decide ((v.size:Int) > 200))&&C9 v) <;> rfl) (by simp[impl_ygoodAttrs_l2]),Ec (fun v:ByteArray=>E3 v 1 200&&C9 v)]
theorem vals_spec(a:B8)(hl:a.Values_.length≤100000)(hv:∀ v,v∈a.Values_→v.size≤100000):loopO (spec_GoodEntry_l2 a) 0=some (cond (a.Values_.all fun v=>E3 v 1 200&&C9 v) (.inl ()) (.inr false)):=by
  rw[Cv a.Values_ (spec_GoodEntry_l2 a) (fun _ v=>E3 v 1 200&&C9 v) (fun i v ha=>by
    have hi:=(List.getElem?_eq_some_iff.1 ha).1
    simp only[spec_GoodEntry_l2,ltn hi,cond_true,Bk,ha,Option.bind_some,printed_spec _ (sbig (hv v (List.mem_of_getElem? ha))),Az (i:=i) (by omega),E3]
    cases decide ((v.size:Int)<1) <;> cases decide ((v.size:Int) > 200) <;> cases C9 v <;> rfl) (by simp[spec_GoodEntry_l2]),Ec (fun v:ByteArray=>E3 v 1 200&&C9 v)]
theorem attrs_impl (l : List     B8) (hl : l.length ≤ 100000) (hz : ∀ a, a ∈ l → a.Name_.size ≤ 100000 ∧ a.Values_.length ≤ 100000 ∧ ∀ v, v ∈ a.Values_ → v.size ≤ 100000) : impl_ygoodAttrs l = some (  Ef (atOk l) l 0) := by
  unfold impl_ygoodAttrs
  rw[Cv l (impl_ygoodAttrs_l1 l) (atOk l) (fun i a ha=>by
    have hi:=(List.getElem?_eq_some_iff.1 ha).1
    obtain⟨z1,z2,z3⟩:=hz a (List.mem_of_getElem? ha)
    simp only[impl_ygoodAttrs_l1,ltn hi,cond_true,Bk,ha,Option.bind_some,impl_good,impl_rises _ (lbig z2),vals_impl a z2 z3,Az (i:=i) (by omega)]
    unfold atOk
    rcases Nat.eq_zero_or_pos i with rfl | h0
    · cases Ch a.Name_ <;> cases decide ((a.Values_.length:Int)<1) <;> cases decide ((a.Values_.length:Int) > 30) <;> cases E2 a.Values_ <;> cases (a.Values_.all fun v=>E3 v 1 200&&C9 v) <;> rfl
    · rw[gtz h0,pre h0 (by omega),Bk,prevD h0 hi,show decide (i=0)=false from decide_eq_false (by omega)]
      unfold lessB
      cases Ch a.Name_ with
      | false=>rfl
      | true =>
        simp only[Bool.not_true,Bool.not_false,Bool.true_and,gdO,cond_true,Option.bind_some]
        cases Op.bytesLess (l.getD (i - 1) default).Name_.toList a.Name_.toList <;> cases decide ((a.Values_.length:Int)<1) <;> cases decide ((a.Values_.length:Int) > 30) <;> cases E2 a.Values_ <;> cases (a.Values_.all fun v=>E3 v 1 200&&C9 v) <;> rfl) (by simp[impl_ygoodAttrs_l1])]
  cases Ef (atOk l) l 0 <;> rfl
theorem attrs_spec (e :      Ay) (hl : e.Attrs_.length ≤ 100000) (hz : ∀ a, a ∈ e.Attrs_ → a.Name_.size ≤ 100000 ∧ a.Values_.length ≤ 100000 ∧ ∀ v, v ∈ a.Values_ → v.size ≤ 100000) : loopO (spec_GoodEntry_l1 e) 0 = some (cond (  Ef (atOk e.Attrs_) e.Attrs_ 0) (.inl ()) (.inr false)) := by
  rw[Cv e.Attrs_ (spec_GoodEntry_l1 e) (atOk e.Attrs_) (fun i a ha=>by
    have hi:=(List.getElem?_eq_some_iff.1 ha).1
    obtain⟨z1,z2,z3⟩:=hz a (List.mem_of_getElem? ha)
    simp only[spec_GoodEntry_l1,ltn hi,cond_true,Bk,ha,Option.bind_some,spec_good,spec_rises _ (lbig z2) (fun n hn=>sbig (z3 n hn)),vals_spec a z2 z3,Az (i:=i) (by omega)]
    unfold atOk
    rcases Nat.eq_zero_or_pos i with rfl | h0
    · cases Ch a.Name_ <;> cases decide ((a.Values_.length:Int)<1) <;> cases decide ((a.Values_.length:Int) > 30) <;> cases E2 a.Values_ <;> cases (a.Values_.all fun v=>E3 v 1 200&&C9 v) <;> rfl
    · obtain⟨r,hr,hd⟩:=cmp_ge (sbig (hz _ (prevM h0 hi)).1) (sbig z1)
      rw[gtz h0,pre h0 (by omega),Bk,prevD h0 hi,show decide (i=0)=false from decide_eq_false (by omega)]
      unfold lessB
      cases Ch a.Name_ with
      | false=>rfl
      | true =>
        simp only[Bool.not_true,Bool.not_false,Bool.true_and,gdO,cond_true,Option.bind_some,hr,hd]
        cases Op.bytesLess (e.Attrs_.getD (i - 1) default).Name_.toList a.Name_.toList <;> cases decide ((a.Values_.length:Int)<1) <;> cases decide ((a.Values_.length:Int) > 30) <;> cases E2 a.Values_ <;> cases (a.Values_.all fun v=>E3 v 1 200&&C9 v) <;> rfl) (by simp[spec_GoodEntry_l1])]
theorem entry_impl(e:Ay)(hz:szE e):impl_GoodEntry e=some (Dd e):=by
  obtain⟨h1,h2,h3⟩:=hz
  unfold impl_GoodEntry Dd
  rw[name_impl _ h1,attrs_impl _ h2 h3]
  have e0':decide ((e.Name_.length:Int) > 0) = !((e.Name_.length:Int)==0):=by
    cases e.Name_ with
    | nil=>rfl
    | cons x r =>
      rw[decide_eq_true (by simp),show (((x :: r).length:Int)==0)=false by simp;omega]
      rfl
  rw[e0']
  cases D7 e.Name_ <;> cases ((e.Name_.length:Int)==0) <;> cases decide ((e.Attrs_.length:Int)≥1) <;> cases decide ((e.Attrs_.length:Int)≤30) <;> cases Ef (atOk e.Attrs_) e.Attrs_ 0 <;> rfl
theorem entry_spec(e:Ay)(hz:szE e):spec_GoodEntry e=some (Dd e):=by
  obtain⟨h1,h2,h3⟩:=hz
  unfold spec_GoodEntry Dd
  rw[name_spec _ h1,attrs_spec e h2 h3]
  have e1:decide ((e.Attrs_.length:Int)<1) = !decide ((e.Attrs_.length:Int)≥1):=by
    by_cases h:(e.Attrs_.length:Int)≥1
    · rw[decide_eq_true h,decide_eq_false (by omega)];rfl
    · rw[decide_eq_false h,decide_eq_true (by omega)];rfl
  have e2:decide ((e.Attrs_.length:Int) > 30) = !decide ((e.Attrs_.length:Int)≤30):=by
    by_cases h:(e.Attrs_.length:Int)≤30
    · rw[decide_eq_true h,decide_eq_false (by omega)];rfl
    · rw[decide_eq_false h,decide_eq_true (by omega)];rfl
  rw[e1,e2]
  cases D7 e.Name_ <;> cases ((e.Name_.length:Int)==0) <;> cases decide ((e.Attrs_.length:Int)≥1) <;> cases decide ((e.Attrs_.length:Int)≤30) <;> cases Ef (atOk e.Attrs_) e.Attrs_ 0 <;> rfl
end Go.G36.FR
namespace Go.G36.FR
set_option linter.all false
open Go Go.G36 Go.Proofs Go.G36.MT

theorem e0_toList:e0.toList = []:=by simp[ByteArray.toList_eq]
theorem tl_eq{u v:ByteArray}(h:u.toList=v.toList):u=v:=(tl_beq u v).1 (by simpa using h)
def empt(u:ByteArray):Bool:=u.toList==e0.toList
def ends(cs:List Ax):Nat→ByteArray→Bool
  | 0,u=>empt u
  | k+1,u=>empt u||((findC cs u).2&&ends cs k (findC cs u).1.Up_)
inductive Path (cs:List Ax):ByteArray→List (List UInt8)→Prop
  | nil {u:ByteArray} (h:empt u=true):Path cs u []
  | cons {u:ByteArray} {l:List (List UInt8)} (h:empt u=false) (hf:(findC cs u).2=true) (hp:Path cs (findC cs u).1.Up_ l):Path cs u (u.toList :: l)
theorem ends_path (cs : List      Ax) : ∀ (k : Nat) (u : ByteArray), ends cs k u = true ↔ ∃ l, Path cs u l ∧ l.length ≤ k
  | 0,u=>by
    rw[ends]
    constructor
    · exact fun h=>⟨[],.nil h,Nat.le_refl _⟩
    · rintro⟨l,hp,hl⟩
      cases hp with
      | nil h=>exact h
      | cons=>simp at hl
  | k + 1, u => by
    rw[ends]
    constructor
    · intro h
      cases he:empt u with
      | true=>exact⟨[],.nil he,by simp⟩
      | false =>
        rw[he,Bool.false_or,Bool.and_eq_true]at h
        obtain⟨l,hp,hl⟩:=(ends_path cs k _).1 h.2
        exact⟨_,.cons he h.1 hp,by simpa using hl⟩
    · rintro⟨l,hp,hl⟩
      cases hp with
      | nil h=>rw[h];rfl
      | cons h hf hp =>
        rw[h,hf,(ends_path cs k _).2 ⟨_,hp,by simpa using hl⟩]
        rfl
theorem Path.one{cs:List Ax}{u:ByteArray}{l:List (List UInt8)}(h:Path cs u l):∀ {m},Path cs u m→l=m:=by
  induction h with
  | nil h=>intro m hm;cases hm with
    | nil=>rfl
    | cons h'=>rw[h]at h';cases h'
  | cons h hf hp ih=>intro m hm;cases hm with
    | nil h'=>rw[h]at h';cases h'
    | cons h' hf' hp'=>rw[ih hp']
theorem Path.sub{cs:List Ax}{u:ByteArray}{l:List (List UInt8)}(h:Path cs u l):∀ x,x∈l→∃ w m,w.toList=x∧Path cs w m∧m.length≤l.length:=by
  induction h with
  | nil h=>intro x hx;cases hx
  | cons h hf hp ih =>
    intro x hx
    rcases List.mem_cons.1 hx with rfl | hx
    · exact⟨_,_,rfl,.cons h hf hp,Nat.le_refl _⟩
    · obtain⟨w,m,h1,h2,h3⟩:=ih x hx
      exact⟨w,m,h1,h2,by simp;omega⟩
theorem Path.nodup{cs:List Ax}{u:ByteArray}{l:List (List UInt8)}(h:Path cs u l):l.Nodup:=by
  induction h with
  | nil=>exact List.nodup_nil
  | @cons u l h hf hp ih =>
    refine List.nodup_cons.2 ⟨fun hm=>?_,ih⟩
    obtain⟨w,m,h1,h2,h3⟩:=hp.sub _ hm
    have hw:=tl_eq h1
    subst hw
    have:=h2.one (.cons h hf hp)
    rw[this]at h3
    simp at h3
    omega
theorem Path.names {cs : List      Ax} {u : ByteArray} {l : List (List UInt8)} (h : Path cs u l) : ∀ x, x ∈ l → x ∈ cs.map fun c => c.Name_.toList := by
  induction h with
  | nil h=>intro x hx;cases hx
  | @cons u l h hf hp ih =>
    intro x hx
    rcases List.mem_cons.1 hx with rfl | hx
    · unfold findC at hf
      cases hc:cs.find? (fun t=>named u t.Name_) with
      | none=>rw[hc]at hf;cases hf
      | some c =>
        have h1:=List.find?_some hc
        have h2:=List.mem_of_find?_eq_some hc
        unfold named at h1
        rw[← beq_iff_eq.1 h1]
        exact List.mem_map_of_mem h2
    · exact ih x hx
theorem pigeon:∀ {l m:List (List UInt8)},l.Nodup→(∀ x,x∈l→x∈m)→l.length≤m.length
  | [],m,_,_=>by simp
  | a :: l,m,hn,hs=>by
    obtain⟨h1,h2⟩:=List.nodup_cons.1 hn
    have ha:=hs a (by simp)
    have:=pigeon (m:=m.erase a) h2 fun x hx=>(List.mem_erase_of_ne (fun e=>h1 (by rw[← e];exact hx))).2 (hs x (by simp[hx]))
    rw[List.length_erase_of_mem ha]at this
    have hpos:0<m.length:=List.length_pos_of_mem ha
    simp
    omega
theorem ends_same(cs:List Ax)(u:ByteArray){a b:Nat}(ha:cs.length≤a)(hb:cs.length≤b):ends cs a u=ends cs b u:=by
  have key:∀ k,cs.length≤k→(ends cs k u=true↔∃ l,Path cs u l):=fun k hk=>by
    rw[ends_path]
    constructor
    · rintro⟨l,h,_⟩;exact⟨l,h⟩
    · rintro⟨l,h⟩
      have:=pigeon h.nodup h.names
      exact⟨l,h,by simp at this;omega⟩
  rw[Bool.eq_iff_iff,key a ha,key b hb]

theorem chain_impl (s :          Ah) (hl : s.Classes_.length ≤ 100000) : ∀ (k v : Nat) (c :      Ax), v + k = 21 →
    (ends s.Classes_ k c.Up_=true→∃ c',loopO (By s) (c,(v:Int))=some (.inl c'))∧(ends s.Classes_ k c.Up_=false→loopO (By s) (c,(v:Int))=some (.inr false))
  | 0,v,c,h=>by
    have hv:v=21:=by omega
    subst hv
    rw[ends]
    cases he:empt c.Up_ with
    | true=>exact⟨fun _=>⟨c,Cc (by simp only[By];rw[show (c.Up_.toList==e0.toList)=true from he];rfl)⟩,fun h=>(by cases h)⟩
    | false=>exact⟨fun h=>(by cases h),fun _=>Cc (by
        simp only[By]
        rw[show (c.Up_.toList==e0.toList)=false from he,class_impl s _ (lbig hl)]
        simp)⟩
  | k + 1, v, c, h => by
    rw[ends]
    cases he:empt c.Up_ with
    | true=>exact⟨fun _=>⟨c,Cc (by simp only[By];rw[show (c.Up_.toList==e0.toList)=true from he];rfl)⟩,fun h=>(by cases h)⟩
    | false =>
      have hvd:decide ((v:Int) > 20)=false:=decide_eq_false (by omega)
      have hst:By s (c,(v:Int))=cond (findC s.Classes_ c.Up_).2 (some (.inl ((findC s.Classes_ c.Up_).1,((v+1:Nat):Int)))) (some (.inr (.inr false))):=by
        simp only[By]
        rw[show (c.Up_.toList==e0.toList)=false from he,class_impl s _ (lbig hl)]
        simp only[Bool.not_false,cond_true,Option.bind_some,hvd,Bool.or_false,Az (i:=v) (by omega)]
        cases (findC s.Classes_ c.Up_).2 <;> rfl
      cases hf:(findC s.Classes_ c.Up_).2 with
      | false=>exact⟨fun h=>(by simp at h),fun _=>Cc (by rw[hst,hf];rfl)⟩
      | true =>
        rw[hf,cond_true]at hst
        have ih:=chain_impl s hl k (v+1) (findC s.Classes_ c.Up_).1 (by omega)
        rw[D1 hst,Bool.false_or,Bool.true_and]
        exact ih
theorem chain_spec (s :          Ah) (hl : s.Classes_.length ≤ 100000) : ∀ (k v : Nat) (u : ByteArray), v + k = s.Classes_.length + 1 →
    loopO (spec_GoodDirSchema_l4 s) (u,(v:Int))=some (cond (ends s.Classes_ k u) (.inl ()) (.inr false))
  | 0,v,u,h=>by
    have hv:decide ((v:Int) > (s.Classes_.length:Int))=true:=decide_eq_true (by omega)
    rw[ends]
    cases he:empt u with
    | true=>exact Cc (by simp only[spec_GoodDirSchema_l4];rw[show (u.toList==e0.toList)=true from he];rfl)
    | false=>exact Cc (by
        simp only[spec_GoodDirSchema_l4]
        rw[show (u.toList==e0.toList)=false from he,class_spec s _ (lbig hl)]
        simp only[Bool.not_false,cond_true,Option.bind_some,hv,Bool.or_true]
        rfl)
  | k + 1, v, u, h => by
    rw[ends]
    cases he:empt u with
    | true=>exact Cc (by simp only[spec_GoodDirSchema_l4];rw[show (u.toList==e0.toList)=true from he];rfl)
    | false =>
      have hvd:decide ((v:Int) > (s.Classes_.length:Int))=false:=decide_eq_false (by omega)
      have hst:spec_GoodDirSchema_l4 s (u,(v:Int))=cond (findC s.Classes_ u).2 (some (.inl ((findC s.Classes_ u).1.Up_,((v+1:Nat):Int)))) (some (.inr (.inr false))):=by
        simp only[spec_GoodDirSchema_l4]
        rw[show (u.toList==e0.toList)=false from he,class_spec s _ (lbig hl)]
        simp only[Bool.not_false,cond_true,Option.bind_some,hvd,Bool.or_false,Az (i:=v) (by omega)]
        cases (findC s.Classes_ u).2 <;> rfl
      cases hf:(findC s.Classes_ u).2 with
      | false=>exact Cc (by rw[hst,hf];rfl)
      | true =>
        rw[hf,cond_true]at hst
        rw[D1 hst,Bool.false_or,Bool.true_and]
        exact chain_spec s hl k (v+1) _ (by omega)

def listOk(s:Ah)(l:List ByteArray):Bool:=(!decide ((l.length:Int) > 30)&&E2 l)&&l.all fun n=>(Cp s.Types_ n).2
def typeOk(l:List Ar)(i:Nat)(t:Ar):Bool:=((Ch t.Name_&&(decide (i=0)||lessB (l.getD (i - 1) default).Name_ t.Name_)) && !decide (t.Syntax_<1)) && !decide (t.Syntax_ > 4)
def classOk(s:Ah)(i:Nat)(c:Ax):Bool:=(((Ch c.Name_&&(decide (i=0)||lessB (s.Classes_.getD (i - 1) default).Name_ c.Name_))&&listOk s c.Must_)&&listOk s c.May_)&&ends s.Classes_ 21 c.Up_
abbrev tClass:ByteArray:=ByteArray.mk #[99,108,97,115,115]
def Dg(s:Ah):Bool:=(!(decide ((s.Types_.length:Int) > 40)||decide ((s.Classes_.length:Int) > 20))&&Ef (typeOk s.Types_) s.Types_ 0) &&
  ((((Cp s.Types_ tClass).2&&((Cp s.Types_ tClass).1.Syntax_==2)) && !(Cp s.Types_ tClass).1.Single_)&&Ef (classOk s) s.Classes_ 0)
def szS(s:Ah):Prop:=s.Types_.length≤100000∧s.Classes_.length≤100000∧(∀ t,t∈s.Types_→t.Name_.size≤100000) ∧
  ∀ c,c∈s.Classes_→c.Name_.size≤100000∧c.Must_.length≤100000∧c.May_.length≤100000∧(∀ n,n∈c.Must_→n.size≤100000)∧∀ n,n∈c.May_→n.size≤100000

theorem types_impl (s :          Ah) (hz : szS s) : loopO (impl_GoodDirSchema_l1 s) 0 = some (cond (  Ef (typeOk s.Types_) s.Types_ 0) (.inl ()) (.inr false)) := by
  obtain⟨z1,z2,z3,z4⟩:=hz
  rw[Cv s.Types_ (impl_GoodDirSchema_l1 s) (typeOk s.Types_) (fun i a ha=>by
    have hi:=(List.getElem?_eq_some_iff.1 ha).1
    simp only[impl_GoodDirSchema_l1,ltn hi,cond_true,Bk,ha,Option.bind_some,impl_good,Az (i:=i) (by omega)]
    unfold typeOk
    rcases Nat.eq_zero_or_pos i with rfl | h0
    · cases Ch a.Name_ <;> cases decide (a.Syntax_<1) <;> cases decide (a.Syntax_ > 4) <;> rfl
    · rw[gtz h0,pre h0 (by omega),Bk,prevD h0 hi,show decide (i=0)=false from decide_eq_false (by omega)]
      unfold lessB
      cases Ch a.Name_ with
      | false=>rfl
      | true =>
        simp only[Bool.not_true,Bool.not_false,Bool.true_and,gdO,cond_true,Option.bind_some]
        cases Op.bytesLess (s.Types_.getD (i - 1) default).Name_.toList a.Name_.toList <;> cases decide (a.Syntax_<1) <;> cases decide (a.Syntax_ > 4) <;> rfl) (by simp[impl_GoodDirSchema_l1])]
theorem types_spec (s :          Ah) (hz : szS s) : loopO (spec_GoodDirSchema_l1 s) 0 = some (cond (  Ef (typeOk s.Types_) s.Types_ 0) (.inl ()) (.inr false)) := by
  obtain⟨z1,z2,z3,z4⟩:=hz
  rw[Cv s.Types_ (spec_GoodDirSchema_l1 s) (typeOk s.Types_) (fun i a ha=>by
    have hi:=(List.getElem?_eq_some_iff.1 ha).1
    simp only[spec_GoodDirSchema_l1,ltn hi,cond_true,Bk,ha,Option.bind_some,spec_good,Az (i:=i) (by omega)]
    unfold typeOk
    rcases Nat.eq_zero_or_pos i with rfl | h0
    · cases Ch a.Name_ <;> cases decide (a.Syntax_<1) <;> cases decide (a.Syntax_ > 4) <;> rfl
    · obtain⟨r,hr,hd⟩:=cmp_ge (sbig (z3 _ (prevM h0 hi))) (sbig (z3 _ (List.mem_of_getElem? ha)))
      rw[gtz h0,pre h0 (by omega),Bk,prevD h0 hi,show decide (i=0)=false from decide_eq_false (by omega)]
      unfold lessB
      cases Ch a.Name_ <;> cases decide (a.Syntax_<1) <;> cases decide (a.Syntax_ > 4) <;>
        simp only[Bool.not_true,Bool.not_false,Bool.true_and,Bool.false_and,Bool.or_true,Bool.true_or,Bool.or_false,gdO,cond_true,cond_false,Option.bind_some,hr,hd] <;>
        cases Op.bytesLess (s.Types_.getD (i - 1) default).Name_.toList a.Name_.toList <;> rfl) (by simp[spec_GoodDirSchema_l1])]
theorem names_impl(s:Ah)(hz:szS s)(l:List ByteArray)(hl:l.length≤100000):loopO (impl_GoodDirSchema_l5 s l) 0=some (cond (l.all fun n=>(Cp s.Types_ n).2) (.inl ()) (.inr false)):=by
  rw[Cv l (impl_GoodDirSchema_l5 s l) (fun _ n=>(Cp s.Types_ n).2) (fun i a ha=>by
    have hi:=(List.getElem?_eq_some_iff.1 ha).1
    simp only[impl_GoodDirSchema_l5,ltn hi,cond_true,Bk,ha,Option.bind_some,type_impl s a (lbig hz.1),Az (i:=i) (by omega)]
    cases (Cp s.Types_ a).2 <;> rfl) (by simp[impl_GoodDirSchema_l5]),Ec (fun n=>(Cp s.Types_ n).2)]
theorem names_spec(s:Ah)(hz:szS s)(l:List ByteArray)(hl:l.length≤100000):loopO (spec_GoodDirSchema_l5 s l) 0=some (cond (l.all fun n=>(Cp s.Types_ n).2) (.inl ()) (.inr false)):=by
  rw[Cv l (spec_GoodDirSchema_l5 s l) (fun _ n=>(Cp s.Types_ n).2) (fun i a ha=>by
    have hi:=(List.getElem?_eq_some_iff.1 ha).1
    simp only[spec_GoodDirSchema_l5,ltn hi,cond_true,Bk,ha,Option.bind_some,type_spec s a (lbig hz.1),Az (i:=i) (by omega)]
    cases (Cp s.Types_ a).2 <;> rfl) (by simp[spec_GoodDirSchema_l5]),Ec (fun n=>(Cp s.Types_ n).2)]
theorem lists_impl(s:Ah)(hz:szS s)(c:Ax)(h1:c.Must_.length≤100000)(h2:c.May_.length≤100000):loopO (impl_GoodDirSchema_l3 s c) 0=some (cond (listOk s c.Must_&&listOk s c.May_) (.inl ()) (.inr false)):=by
  have:=Cv ([c.Must_,c.May_]:List (List ByteArray)) (impl_GoodDirSchema_l3 s c) (fun _ l=>listOk s l) (fun i a ha=>by
    have hi:=(List.getElem?_eq_some_iff.1 ha).1
    have hi2:i<2:=by simpa using hi
    have hal:a.length≤100000:=by
      have:=List.mem_of_getElem? ha
      simp at this
      rcases this with rfl | rfl <;> assumption
    simp only[impl_GoodDirSchema_l3,ltn hi,cond_true,Bk,ha,Option.bind_some,impl_rises a (lbig hal),names_impl s hz a hal,Az (i:=i) (by omega),listOk]
    cases decide ((a.length:Int) > 30) <;> cases E2 a <;> cases (a.all fun n=>(Cp s.Types_ n).2) <;> rfl) (by simp[impl_GoodDirSchema_l3])
  rw[this]
  simp only[Ef,Bool.and_true]
theorem lists_spec(s:Ah)(hz:szS s)(c:Ax)(h1:c.Must_.length≤100000)(h2:c.May_.length≤100000):loopO (spec_GoodDirSchema_l3 s c) 0=some (cond ((c.Must_.all fun n=>(Cp s.Types_ n).2)&&c.May_.all fun n=>(Cp s.Types_ n).2) (.inl ()) (.inr false)):=by
  have:=Cv ([c.Must_,c.May_]:List (List ByteArray)) (spec_GoodDirSchema_l3 s c) (fun _ l=>l.all fun n=>(Cp s.Types_ n).2) (fun i a ha=>by
    have hi:=(List.getElem?_eq_some_iff.1 ha).1
    have hi2:i<2:=by simpa using hi
    have hal:a.length≤100000:=by
      have:=List.mem_of_getElem? ha
      simp at this
      rcases this with rfl | rfl <;> assumption
    simp only[spec_GoodDirSchema_l3,ltn hi,cond_true,Bk,ha,Option.bind_some,names_spec s hz a hal,Az (i:=i) (by omega)]
    cases (a.all fun n=>(Cp s.Types_ n).2) <;> rfl) (by simp[spec_GoodDirSchema_l3])
  rw[this]
  simp only[Ef,Bool.and_true]
theorem classes_impl (s :          Ah) (hz : szS s) : loopO (impl_GoodDirSchema_l2 s) 0 = some (cond (  Ef (classOk s) s.Classes_ 0) (.inl ()) (.inr false)) := by
  have hz':=hz
  obtain⟨z1,z2,z3,z4⟩:=hz
  rw[Cv s.Classes_ (impl_GoodDirSchema_l2 s) (classOk s) (fun i a ha=>by
    have hi:=(List.getElem?_eq_some_iff.1 ha).1
    obtain⟨y1,y2,y3,y4,y5⟩:=z4 a (List.mem_of_getElem? ha)
    obtain⟨c1,c2⟩:=chain_impl s z2 21 0 a (by omega)
    simp only[impl_GoodDirSchema_l2,ltn hi,cond_true,Bk,ha,Option.bind_some,impl_good,lists_impl s hz' a y2 y3,Az (i:=i) (by omega)]
    have fin:∀ B:Bool,(cond (!B) (some (.inr (.inr false))) (((some (cond (listOk s a.Must_&&listOk s a.May_) (.inl ()) (.inr false)):Option (Unit⊕Bool))).bind fun q42=>(match q42 with | .inl _=>(loopO (By s) (a,0)).bind fun q25=>(match q25 with | .inl b19=>some (.inl ((i:Int)+1)) | .inr q20=>some (.inr (.inr q20))) | .inr q16=>some (.inr (.inr q16)))):Option (Int⊕(Unit⊕Bool)))
        = some (cond (((B&&listOk s a.Must_)&&listOk s a.May_)&&ends s.Classes_ 21 a.Up_) (.inl ((i:Int)+1)) (.inr (.inr false))):=fun B=>by
      cases B <;> cases listOk s a.Must_ <;> cases listOk s a.May_ <;> try rfl
      cases he:ends s.Classes_ 21 a.Up_ with
      | true =>
        obtain⟨c',hc⟩:=c1 he
        have hc0:loopO (By s) (a,0)=some (.inl c'):=hc
        simp only[Bool.and_self,cond_true,Bool.not_true,cond_false,Option.bind_some,hc0]
      | false =>
        have hc0:loopO (By s) (a,0)=some (.inr false):=c2 he
        simp only[Bool.and_self,cond_true,Bool.not_true,cond_false,Option.bind_some,hc0,Bool.and_false]
    unfold classOk
    rcases Nat.eq_zero_or_pos i with rfl | h0
    · rw[← fin]
      cases Ch a.Name_ <;> rfl
    · rw[gtz h0,pre h0 (by omega),Bk,prevD h0 hi,show decide (i=0)=false from decide_eq_false (by omega),← fin]
      unfold lessB
      cases Ch a.Name_ with
      | false=>rfl
      | true =>
        simp only[Bool.not_true,Bool.not_false,Bool.true_and,gdO,cond_true,Option.bind_some]
        cases Op.bytesLess (s.Classes_.getD (i - 1) default).Name_.toList a.Name_.toList <;> rfl) (by simp[impl_GoodDirSchema_l2])]
theorem classes_spec (s :          Ah) (hz : szS s) (h20 : s.Classes_.length ≤ 20) : loopO (spec_GoodDirSchema_l2 s) 0 = some (cond (  Ef (classOk s) s.Classes_ 0) (.inl ()) (.inr false)) := by
  have hz':=hz
  obtain⟨z1,z2,z3,z4⟩:=hz
  rw[Cv s.Classes_ (spec_GoodDirSchema_l2 s) (classOk s) (fun i a ha=>by
    have hi:=(List.getElem?_eq_some_iff.1 ha).1
    obtain⟨y1,y2,y3,y4,y5⟩:=z4 a (List.mem_of_getElem? ha)
    have hc:=chain_spec s z2 (s.Classes_.length+1) 0 a.Up_ (by omega)
    rw[ends_same s.Classes_ a.Up_ (a:=s.Classes_.length+1) (b:=21) (by omega) (by omega)]at hc
    have hc0:loopO (spec_GoodDirSchema_l4 s) (a.Up_,0)=_:=hc
    simp only[spec_GoodDirSchema_l2,ltn hi,cond_true,Bk,ha,Option.bind_some,spec_good,spec_rises a.Must_ (lbig y2) (fun n hn=>sbig (y4 n hn)),spec_rises a.May_ (lbig y3) (fun n hn=>sbig (y5 n hn)),lists_spec s hz' a y2 y3,hc0,Az (i:=i) (by omega)]
    unfold classOk listOk
    rcases Nat.eq_zero_or_pos i with rfl | h0
    · cases Ch a.Name_ <;> cases decide ((a.Must_.length:Int) > 30) <;> cases decide ((a.May_.length:Int) > 30) <;> cases E2 a.Must_ <;> cases E2 a.May_ <;> cases (a.Must_.all fun n=>(Cp s.Types_ n).2) <;> cases (a.May_.all fun n=>(Cp s.Types_ n).2) <;> cases ends s.Classes_ 21 a.Up_ <;> rfl
    · obtain⟨r,hr,hd⟩:=cmp_ge (sbig (z4 _ (prevM h0 hi)).1) (sbig y1)
      rw[gtz h0,pre h0 (by omega),Bk,prevD h0 hi,show decide (i=0)=false from decide_eq_false (by omega)]
      unfold lessB
      cases Ch a.Name_ with
      | false=>rfl
      | true =>
        simp only[Bool.not_true,Bool.not_false,Bool.true_and,gdO,cond_true,Option.bind_some,hr,hd]
        cases Op.bytesLess (s.Classes_.getD (i - 1) default).Name_.toList a.Name_.toList with
        | false=>rfl
        | true=>cases decide ((a.Must_.length:Int) > 30) <;> cases decide ((a.May_.length:Int) > 30) <;> cases E2 a.Must_ <;> cases E2 a.May_ <;> cases (a.Must_.all fun n=>(Cp s.Types_ n).2) <;> cases (a.May_.all fun n=>(Cp s.Types_ n).2) <;> cases ends s.Classes_ 21 a.Up_ <;> rfl) (by simp[spec_GoodDirSchema_l2])]
theorem bne_not(x y:Int):(x != y) = !(x==y):=rfl
theorem schema_impl(s:Ah)(hz:szS s):impl_GoodDirSchema s=some (Dg s):=by
  unfold impl_GoodDirSchema Dg
  rw[types_impl s hz,classes_impl s hz,type_impl s _ (lbig hz.1)]
  cases (decide ((s.Types_.length:Int) > 40)||decide ((s.Classes_.length:Int) > 20)) with
  | true=>rfl
  | false =>
    simp only[cond_false,Option.bind_some,bne_not]
    cases Ef (typeOk s.Types_) s.Types_ 0 <;> cases (Cp s.Types_ tClass).2 <;> cases ((Cp s.Types_ tClass).1.Syntax_==2) <;> cases (Cp s.Types_ tClass).1.Single_ <;> cases Ef (classOk s) s.Classes_ 0 <;> rfl
theorem schema_spec(s:Ah)(hz:szS s):spec_GoodDirSchema s=some (Dg s):=by
  unfold spec_GoodDirSchema Dg
  cases hb:(decide ((s.Types_.length:Int) > 40)||decide ((s.Classes_.length:Int) > 20)) with
  | true=>rfl
  | false =>
    have h20:s.Classes_.length≤20:=by simp at hb;omega
    rw[types_spec s hz,classes_spec s hz h20,type_spec s _ (lbig hz.1)]
    simp only[cond_false,Option.bind_some,bne_not]
    cases Ef (typeOk s.Types_) s.Types_ 0 <;> cases (Cp s.Types_ tClass).2 <;> cases ((Cp s.Types_ tClass).1.Syntax_==2) <;> cases (Cp s.Types_ tClass).1.Single_ <;> cases Ef (classOk s) s.Classes_ 0 <;> rfl
end Go.G36.FR
namespace Go.G36.FR
set_option linter.all false
open Go Go.G36 Go.Proofs Go.G36.MT

def bA(l:List UInt8):ByteArray:=⟨l.toArray⟩
theorem bA_list(l:List UInt8):(bA l).data.toList=l:=rfl
theorem bA_toList(l:List UInt8):(bA l).toList=l:=by rw[Lib.toList_data];rfl
theorem Cd(l:List UInt8):(bA l).size=l.length:=by simp[bA,ByteArray.size]
theorem bA_of(s:ByteArray):s=bA s.data.toList:=by
  apply ByteArray.ext;simp[bA]
theorem bA_app(l m:List UInt8):bA l++bA m=bA (l++m):=by
  apply ByteArray.ext
  simp[bA]
theorem byS_one(x:Int):byS [x]=bA [UInt8.ofNat x.toNat]:=by
  apply ByteArray.ext;rfl
theorem cat_bA{l m:List UInt8}(h:l.length+m.length≤9223372036854775807):cat (bA l) (bA m)=some (bA (l++m)):=by
  rw[cat_get (by rw[Cd,Cd];exact h),bA_app]
theorem Db{l:List UInt8}{i:Nat}(hi:i<l.length):Cr (bA l) ((i:Nat):Int)=some ((l[i].toNat:Nat):Int):=by
  unfold Cr
  rw[if_pos (by omega),bA_list]
  simp[hi]

theorem decDigits_le : ∀ (n k : Nat), n < 10 ^ k → 1 ≤ k → (Lib.decDigits n).length ≤ k := by
  intro n
  induction n using Nat.strongRecOn with
  | ind n ih =>
    intro k hk h1
    rw[Lib.decDigits]
    split
    · simpa using h1
    · rename_i h
      obtain⟨j,rfl⟩:∃ j,k=j+1:=⟨k - 1,by omega⟩
      have hj:1≤j:=by
        rcases Nat.eq_zero_or_pos j with h0 | h0
        · subst h0;simp at hk;omega
        · exact h0
      have:=ih (n / 10) (by omega) j (by rw[Nat.pow_succ]at hk;omega) hj
      simp only[List.length_append,List.length_cons,List.length_nil]
      omega
theorem decDigits_pos(n:Nat):1≤(Lib.decDigits n).length:=by
  rw[Lib.decDigits]
  split <;> simp
theorem digit_nat{x:Nat}(h:x<10):(UInt8.ofNat (48+x)).toNat=48+x:=by
  rw[UInt8.toNat_ofNat']
  exact Nat.mod_eq_of_lt (by omega)
theorem decDigits_dig : ∀ (n : Nat) (c : UInt8), c ∈ Lib.decDigits n → 48 ≤ c.toNat ∧ c.toNat ≤ 57 := by
  intro n
  induction n using Nat.strongRecOn with
  | ind n ih =>
    intro c hc
    rw[Lib.decDigits]at hc
    split at hc
    · rename_i h
      simp only[List.mem_cons,List.not_mem_nil,or_false]at hc
      subst hc
      rw[digit_nat h];omega
    · rename_i h
      rcases List.mem_append.1 hc with hc | hc
      · exact ih (n / 10) (by omega) c hc
      · simp only[List.mem_cons,List.not_mem_nil,or_false]at hc
        subst hc
        rw[digit_nat (by omega)];omega

theorem decDigits_step{n:Nat}(h:¬ n<10):Lib.decDigits n=Lib.decDigits (n / 10) ++ [UInt8.ofNat (48+n % 10)]:=by rw[Lib.decDigits.eq_1 n,dif_neg h]
theorem l1Size_go (n : Nat) : n ≤ 9223372036854775807 → ∀ acc : List UInt8, 0 < n → (acc.length + (Lib.decDigits n).length ≤ 1000) → loopO spec_l1Size_l1 ((n : Int), bA acc) = some (bA (Lib.decDigits n ++ acc)) := by
  induction n using Nat.strongRecOn with
  | ind n ih =>
    intro hn acc h0 hacc
    have st:spec_l1Size_l1 ((n:Int),bA acc)=some (.inl (((n / 10:Nat):Int),bA (UInt8.ofNat (48+n % 10) :: acc))):=by
      unfold spec_l1Size_l1
      dsimp only
      rw[show ((n:Int) != 0)=true by simp;omega,IntWalk.rem_in _ _ (by omega),show decide ((n:Int) % 10<0)=false from decide_eq_false (by omega)]
      simp only[cond_true,cond_false]
      unfold spec_l1Size_j1
      rw[IntWalk.i64_in (48+(n:Int) % 10) (by omega),IntWalk.u8_in _ (by omega),byS_one,show (48+(n:Int) % 10).toNat=48+n % 10 by omega,cat_bA (by simp;omega),Option.bind_some,
        IntWalk.i64_quo _ _ ⟨by omega,by omega,by omega⟩]
      rfl
    rw[D1 st]
    by_cases hs:n<10
    · rw[show n / 10=0 by omega]
      have en:spec_l1Size_l1 (((0:Nat):Int),bA (UInt8.ofNat (48+n % 10) :: acc))=some (.inr (bA (UInt8.ofNat (48+n % 10) :: acc))):=rfl
      rw[Cc en,Lib.decDigits,dif_pos hs,show n % 10=n by omega]
      rfl
    · have hd:=decDigits_step hs
      rw[ih (n / 10) (by omega) (by omega) _ (by omega) (by rw[hd]at hacc;simp at hacc ⊢;omega)]
      rw[hd]
      simp
theorem l1Size_nat{n:Nat}(hn:n≤9223372036854775807):spec_l1Size (n:Int)=some (bA (Lib.decDigits n)):=by
  unfold spec_l1Size
  by_cases h0:n=0
  · subst h0
    rw[show (((0:Nat):Int)==0)=true from rfl,Lib.decDigits,dif_pos (by omega)]
    rfl
  · rw[show ((n:Int)==0)=false by simp;omega]
    have hlen:=decDigits_le n 19 (by omega) (by omega)
    have:=l1Size_go n hn [] (by omega) (by simp;omega)
    simp only[cond_false]
    rw[show e0=bA [] from rfl,this]
    simp
theorem l1Num_nat{n:Nat}(hn:n≤9223372036854775807):spec_l1Num (n:Int)=some (bA (Lib.decDigits n)):=by
  unfold spec_l1Num
  rw[show decide ((n:Int)<0)=false from decide_eq_false (by omega),l1Size_nat hn]
  rfl
theorem parse_app (a : Nat) (l m : List UInt8) : Lib.parseUint10 a (l ++ m) = match Lib.parseUint10 a l with | .ok b => Lib.parseUint10 b m | e => e := by
  induction l generalizing a with
  | nil=>rfl
  | cons c r ih =>
    simp only[List.cons_append,Lib.parseUint10]
    split
    · split
      · rfl
      · split
        · rfl
        · exact ih _
    · rfl
def dv(l:List UInt8):Nat:=l.foldl (fun a c=>a*10+(c.toNat - 48)) 0
theorem dv_app(l:List UInt8)(c:UInt8):dv (l ++ [c])=dv l*10+(c.toNat - 48):=by simp[dv]
theorem dv_dec:∀ n:Nat,dv (Lib.decDigits n)=n:=by
  intro n
  induction n using Nat.strongRecOn with
  | ind n ih =>
    by_cases hs:n<10
    · rw[Lib.decDigits,dif_pos hs]
      show 0*10+((UInt8.ofNat (48+n)).toNat - 48)=n
      rw[digit_nat hs];omega
    · rw[decDigits_step hs,dv_app,ih (n / 10) (by omega),digit_nat (show n % 10<10 by omega)]
      omega

theorem e0_bA:e0=bA []:=rfl
theorem parse_dec:∀ n:Nat,n≤9223372036854775808→Lib.parseUint10 0 (Lib.decDigits n) = .ok n:=by
  intro n
  induction n using Nat.strongRecOn with
  | ind n ih =>
    intro hn
    by_cases hs:n<10
    · rw[Lib.decDigits,dif_pos hs]
      simp only[Lib.parseUint10,digit_nat hs]
      rw[if_pos ⟨by omega,by omega⟩,if_neg (by omega),if_neg (by omega)]
      congr 1;omega
    · rw[decDigits_step hs,parse_app,ih (n / 10) (by omega) (by omega)]
      simp only[Lib.parseUint10,digit_nat (show n % 10<10 by omega)]
      rw[if_pos ⟨by omega,by omega⟩,if_neg (by omega),if_neg (by omega)]
      congr 1;omega
theorem mag_dec{n:Nat}(hn:n≤9223372036854775808):Lib.parseMag (Lib.decDigits n) = .ok n:=by
  have hpos:=decDigits_pos n
  unfold Lib.parseMag
  rw[if_neg (by intro h;rw[h]at hpos;simp at hpos),parse_dec n hn]
theorem atoi_itoa{v:Int}(h0:-9223372036854775808≤v)(h1:v≤9223372036854775807):Lib.atoiAll (Lib.itoa v) = .ok v:=by
  unfold Lib.itoa
  by_cases hv:v<0
  · rw[if_pos hv]
    unfold Lib.atoiAll
    dsimp only
    rw[if_pos (.inr rfl),mag_dec (by omega)]
    dsimp only
    rw[if_neg (by simp),if_neg (by omega),if_pos (show UInt8.toNat 45=45 from rfl)]
    congr 1;omega
  · rw[if_neg hv]
    have hpos:=decDigits_pos v.toNat
    have hp:=mag_dec (n:=v.toNat) (by omega)
    cases hd:Lib.decDigits v.toNat with
    | nil=>rw[hd]at hpos;simp at hpos
    | cons c r =>
      have hc:=decDigits_dig v.toNat c (by rw[hd];simp)
      unfold Lib.atoiAll
      dsimp only
      rw[if_neg (by omega),← hd,hp]
      dsimp only
      rw[if_neg (by omega),if_neg (by omega),if_neg (by omega)]
      congr 1;omega
def in64P(v:Int):Prop:=-9223372036854775808≤v∧v≤9223372036854775807
def Whole(l:List UInt8)(q:Int×Bool):Prop:=(q.2=true→in64P q.1∧l=Lib.itoa q.1)∧∀ v,in64P v→l=Lib.itoa v→q=(v,true)
theorem Whole.same{l:List UInt8}{q q':Int×Bool}(h:Whole l q)(h':Whole l q'):q.2=q'.2∧(q.2=true→q.1=q'.1):=by
  cases hb:q.2 with
  | true =>
    obtain⟨h1,h2⟩:=h.1 hb
    rw[h'.2 _ h1 h2]
    exact⟨rfl,fun _=>rfl⟩
  | false =>
    cases hb':q'.2 with
    | false=>exact⟨rfl,fun h=>by cases h⟩
    | true =>
      obtain⟨h1,h2⟩:=h'.1 hb'
      have:=h.2 _ h1 h2
      rw[this]at hb
      cases hb
theorem whole_impl(l:List UInt8)(hl:l.length≤100000):∃ q,wholeO (bA l)=some q∧Whole l q:=by
  unfold wholeO
  rw[if_pos (by rw[Cd];omega)]
  refine⟨_,rfl,?_⟩
  unfold E9
  rw[bA_list,bA_toList]
  cases h:Lib.atoiAll l with
  | ok v =>
    refine⟨fun hb=>⟨Lib.atoiAll_bounds h,(beq_iff_eq.1 hb).symm⟩,fun w hw e=>?_⟩
    rw[e,atoi_itoa hw.1 hw.2]at h
    injection h with h
    subst h
    rw[e];simp
  | range=>exact⟨fun hb=>(by cases hb),fun w hw e=>(by rw[e,atoi_itoa hw.1 hw.2]at h;cases h)⟩
  | _=>exact⟨fun hb=>(by cases hb),fun w hw e=>(by rw[e,atoi_itoa hw.1 hw.2]at h;cases h)⟩
theorem l1Size_neg (n : Nat) : n ≤ 9223372036854775808 → ∀ acc : List UInt8, 0 < n → (acc.length + (Lib.decDigits n).length ≤ 1000) → loopO spec_l1Size_l1 (-(n : Int), bA acc) = some (bA (Lib.decDigits n ++ acc)) := by
  induction n using Nat.strongRecOn with
  | ind n ih =>
    intro hn acc h0 hacc
    have hm:Int.tmod (-(n:Int)) 10 = -((n % 10:Nat):Int):=by rw[Int.neg_tmod];rfl
    have hq:Int.tdiv (-(n:Int)) 10 = -((n / 10:Nat):Int):=by rw[Int.neg_tdiv];rfl
    have fin:spec_l1Size_j1 (-(n:Int)) (bA acc) ((n % 10:Nat):Int)=some (.inl (-((n / 10:Nat):Int),bA (UInt8.ofNat (48+n % 10) :: acc))):=by
      unfold spec_l1Size_j1
      rw[IntWalk.i64_in (48+((n % 10:Nat):Int)) (by omega),IntWalk.u8_in _ (by omega),byS_one,show (48+((n % 10:Nat):Int)).toNat=48+n % 10 by omega,cat_bA (by simp;omega),Option.bind_some,hq,IntWalk.i64_in _ (by omega)]
      rfl
    have st:spec_l1Size_l1 (-(n:Int),bA acc)=some (.inl (-((n / 10:Nat):Int),bA (UInt8.ofNat (48+n % 10) :: acc))):=by
      unfold spec_l1Size_l1
      dsimp only
      rw[show (-(n:Int) != 0)=true by simp;omega,hm,cond_true]
      cases hd:decide (-((n % 10:Nat):Int)<0) with
      | true =>
        rw[cond_true,show -(-((n % 10:Nat):Int))=((n % 10:Nat):Int) by omega,IntWalk.i64_in ((n % 10:Nat):Int) (by omega)]
        exact fin
      | false =>
        have:n % 10=0:=by have:=of_decide_eq_false hd;omega
        rw[cond_false]
        rw[this]at fin ⊢
        exact fin
    rw[D1 st]
    by_cases hs:n<10
    · rw[show n / 10=0 by omega]
      have en:spec_l1Size_l1 (-((0:Nat):Int),bA (UInt8.ofNat (48+n % 10) :: acc))=some (.inr (bA (UInt8.ofNat (48+n % 10) :: acc))):=rfl
      rw[Cc en,Lib.decDigits,dif_pos hs,show n % 10=n by omega]
      rfl
    · have hd:=decDigits_step hs
      rw[ih (n / 10) (by omega) (by omega) _ (by omega) (by rw[hd]at hacc;simp at hacc ⊢;omega)]
      rw[hd]
      simp
theorem l1Num_itoa{v:Int}(h:in64P v):spec_l1Num v=some (bA (Lib.itoa v)):=by
  unfold in64P at h
  by_cases hv:v<0
  · unfold spec_l1Num Lib.itoa
    rw[decide_eq_true hv,cond_true,if_pos hv]
    unfold spec_l1Size
    have hn:v = -(v.natAbs:Int):=by omega
    have hlen:=decDigits_le v.natAbs 19 (by omega) (by omega)
    have:=l1Size_neg v.natAbs (by omega) [] (by omega) (by simp;omega)
    rw[← hn]at this
    rw[show (v==0)=false by simp;omega,cond_false,e0_bA,this,Option.bind_some]
    simp only[Option.bind_some,List.append_nil]
    rw[show ByteArray.mk #[45]=bA [45] from rfl,cat_bA (by simp;omega)]
    rfl
  · have hn:v=(v.toNat:Int):=by omega
    unfold Lib.itoa
    rw[if_neg hv]
    have:=l1Num_nat (n:=v.toNat) (by omega)
    rw[← hn]at this
    exact this
theorem wr(x:Int):-9223372036854775808≤IntKind.i64.wrap x∧IntKind.i64.wrap x≤9223372036854775807:=by
  rw[IntKind.wrap_i64];omega
theorem dv_ge:∀ (b a:List UInt8),dv a≤dv (a++b)
  | [],a=>by simp
  | c :: b,a=>by
    have h1:=dv_app a c
    have h2:=dv_ge b (a ++ [c])
    rw[List.append_assoc,List.singleton_append]at h2
    omega
theorem dv_take(l:List UInt8)(i:Nat):dv (l.take i)≤dv l:=by
  have:=dv_ge (l.drop i) (l.take i)
  rwa [List.take_append_drop]at this
theorem whole_sum (p d : List UInt8) (hp : p = [] ∨ p = [45]) (n : Nat) (hn : n ≤ 9223372036854775808) (hd : d = Lib.decDigits n) : loopO (spec_l1Whole_l1 (bA (p ++ d))) (0, 0) = some (.inl (-(n : Int))) := by
  have hpos:=decDigits_pos n
  have hdig:=decDigits_dig n
  have hdv:dv d=n:=by rw[hd];exact dv_dec n
  rw[← hd]at hpos hdig
  have hpl:p.length≤1:=by rcases hp with rfl | rfl <;> simp
  have hlen:=decDigits_le n 19 (by omega) (by omega)
  rw[← hd]at hlen
  have : Ok (loopO (spec_l1Whole_l1 (bA (p ++ d))) (0, 0)) fun r => r = .inl (-(n : Int)) := by
    refine Ok.loop (fun k s=>∃ i,i+k=(p++d).length∧s=(-((dv (d.take (i - p.length)):Nat):Int),((i:Nat):Int))) ?_ (n:=(p++d).length) ⟨0,by omega,by simp[dv]⟩
    rintro k s ⟨i,hi,rfl⟩
    unfold spec_l1Whole_l1
    dsimp only
    rw[Cd]
    refine Ok.cond (fun h=>?_) (fun h=>?_)
    · have hil:i<(p++d).length:=by have:=of_decide_eq_true h;omega
      have hg:Cr (bA (p++d)) ((i:Nat):Int)=some (((p++d)[i].toNat:Nat):Int):=Db hil
      have h0:Cr (bA (p++d)) 0=some (((p++d)[0].toNat:Nat):Int):=Db (l:=p++d) (i:=0) (by omega)
      by_cases hs:i<p.length
      · have hp1:p = [45]:=by rcases hp with rfl | rfl;(simp at hs);rfl
        have hi0:i=0:=by omega
        subst hp1;subst hi0
        rw[show ((((0:Nat):Int))==0)=true from rfl,gdO,cond_true,h0,Option.bind_some]
        refine Ok.cond (fun _=>?_) (fun hh=>by simp at hh)
        unfold spec_l1Whole_j2
        exact Ok.some ⟨k - 1,by omega,1,by omega,by simp[IntWalk.i64_in]⟩
      · have hj:(p++d)[i]=d[i - p.length]'(by simp at hil;omega):=List.getElem_append_right (by omega)
        have hjl:i - p.length<d.length:=by simp at hil;omega
        have hc:=hdig d[i - p.length] (List.getElem_mem hjl)
        have hgd:∃ b,gdO (((i:Nat):Int)==0) (Cr (bA (p++d)) 0)=some b∧((((i:Nat):Int)==0)&&(b==45))=false:=by
          rw[h0,gdO]
          cases hz:(((i:Nat):Int)==0) with
          | false=>exact⟨_,rfl,by simp⟩
          | true =>
            have hi0:i=0:=by simpa using hz
            subst hi0
            refine⟨_,rfl,?_⟩
            rw[hj,Bool.true_and]
            exact beq_eq_false_iff_ne.2 (by omega)
        obtain⟨b,hb1,hb2⟩:=hgd
        rw[hb1,Option.bind_some,hb2,hg]
        simp only[cond_false,Option.bind_some]
        unfold spec_l1Digit
        rw[hj]
        rw[Option.bind_some,show (!(decide (((d[i - p.length].toNat:Nat):Int)≥48)&&decide (((d[i - p.length].toNat:Nat):Int)≤57)))=false by simp;omega]
        simp only[cond_false]
        unfold spec_l1Whole_j2
        have hd1:dv (d.take (i+1 - p.length))=dv (d.take (i - p.length))*10+(d[i - p.length].toNat - 48):=by rw[show i+1 - p.length=i - p.length+1 by omega,List.take_succ_eq_append_getElem hjl,dv_app]
        have hb:=dv_take d (i+1 - p.length)
        rw[hdv,hd1]at hb
        refine Ok.some ⟨k - 1,by omega,i+1,by omega,?_⟩
        rw[hd1,IntWalk.u8_in (((d[i - p.length].toNat:Nat):Int) - 48) (by omega),IntWalk.i64_in (((d[i - p.length].toNat:Nat):Int) - 48) (by omega),IntWalk.i64_in (-((dv (d.take (i - p.length)):Nat):Int)*10) (by omega),IntWalk.i64_in _ (by omega),IntWalk.i64_in (((i:Nat):Int)+1) (by omega)]
        congr 1
        omega
    · have hge:¬ ((i:Nat):Int)<((p++d).length:Int):=of_decide_eq_false h
      refine Ok.some ?_
      show Sum.inl _=_
      have:d.take (i - p.length)=d:=List.take_of_length_le (by simp at hge hi ⊢;omega)
      rw[this,hdv]
  obtain⟨r,e,rfl⟩:=this
  exact e
theorem whole_hit{v:Int}(h:in64P v):spec_l1Whole (bA (Lib.itoa v))=some (v,true):=by
  have hv:=h
  unfold in64P at hv
  have hnum:=l1Num_itoa h
  by_cases hneg:v<0
  · have hl:Lib.itoa v = [45]++Lib.decDigits v.natAbs:=by unfold Lib.itoa;rw[if_pos hneg];rfl
    have hs:=whole_sum [45] _ (.inr rfl) v.natAbs (by omega) rfl
    have hlen:=decDigits_le v.natAbs 19 (by omega) (by omega)
    unfold spec_l1Whole
    rw[hl,hs,Cd,show (decide (((([45]++Lib.decDigits v.natAbs:List UInt8)).length:Int)<1)||decide (((([45]++Lib.decDigits v.natAbs:List UInt8)).length:Int) > 20))=false by simp;omega]
    simp only[cond_false,Option.bind_some]
    rw[show Cr (bA ([45]++Lib.decDigits v.natAbs)) 0=some 45 from rfl,Option.bind_some,show ((45:Int) != 45)=false from rfl,cond_false]
    unfold spec_l1Whole_j1
    rw[show -(v.natAbs:Int)=v by omega,hnum,Option.bind_some,← hl]
    simp
  · have hl:Lib.itoa v = []++Lib.decDigits v.toNat:=by unfold Lib.itoa;rw[if_neg hneg];rfl
    have hs:=whole_sum [] _ (.inl rfl) v.toNat (by omega) rfl
    have hlen:=decDigits_le v.toNat 19 (by omega) (by omega)
    have hpos:=decDigits_pos v.toNat
    rw[List.nil_append]at hl hs
    unfold spec_l1Whole
    rw[hl,hs,Cd,show (decide (((Lib.decDigits v.toNat).length:Int)<1)||decide (((Lib.decDigits v.toNat).length:Int) > 20))=false by simp;omega]
    simp only[cond_false,Option.bind_some]
    have h0:Cr (bA (Lib.decDigits v.toNat)) 0=some (((Lib.decDigits v.toNat)[0].toNat:Nat):Int):=Db (l:=Lib.decDigits v.toNat) (i:=0) (by omega)
    have hc:=decDigits_dig v.toNat _ (List.getElem_mem (l:=Lib.decDigits v.toNat) (n:=0) (by omega))
    rw[h0,Option.bind_some,show (((((Lib.decDigits v.toNat)[0].toNat:Nat):Int)) != 45)=true by simp;omega,cond_true]
    unfold spec_l1Whole_j1
    rw[show IntKind.i64.wrap (-(-(v.toNat:Int)))=v by rw[IntWalk.i64_in _ (by omega)];omega,hnum,Option.bind_some,← hl]
    simp
theorem whole_spec (l : List UInt8) (hl : l.length ≤ 100000) : ∃ q, spec_l1Whole (bA l) = some q ∧ Whole l q := by
  have hok:Ok (spec_l1Whole (bA l)) fun q=>q.2=true→in64P q.1∧l=Lib.itoa q.1:=by
    unfold spec_l1Whole
    rw[Cd]
    refine Ok.cond (fun _=>Ok.some (fun h=>by cases h)) (fun hsz=>?_)
    have hpos:0<l.length:=by simp at hsz;omega
    have fin:∀ x,in64P x→Ok (spec_l1Whole_j1 (bA l) x) fun q=>q.2=true→in64P q.1∧l=Lib.itoa q.1:=fun x hx=>by
      unfold spec_l1Whole_j1
      rw[l1Num_itoa hx,Option.bind_some,bA_toList,bA_toList]
      exact Ok.some fun hb=>⟨hx,(beq_iff_eq.1 hb).symm⟩
    refine Ok.bind (Ok.loop (P:=fun q=>match q with | .inl v=>in64P v | .inr q=>q.2=false) (fun k s=>∃ i,i+k=l.length∧s.2=((i:Nat):Int)∧in64P s.1) ?_ (n:=l.length) ⟨0,by omega,rfl,by unfold in64P;exact⟨by decide,by decide⟩⟩) ?_
    · rintro k ⟨v,j⟩ ⟨i,hi,hj,hv⟩
      dsimp only at hj hv
      subst hj
      unfold spec_l1Whole_l1
      dsimp only
      rw[Cd]
      refine Ok.cond (fun h=>?_) (fun h=>Ok.some hv)
      have hil:i<l.length:=by have:=of_decide_eq_true h;omega
      have hg:Cr (bA l) ((i:Nat):Int)=some ((l[i].toNat:Nat):Int):=Db hil
      have h0:Cr (bA l) 0=some ((l[0].toNat:Nat):Int):=Db (l:=l) (i:=0) hpos
      rw[h0,hg,C3,Option.bind_some]
      have go:∀ x,in64P x→Ok (spec_l1Whole_j2 ((i:Nat):Int) x) fun q=>match q with | .inl s'=>∃ m,m<k∧∃ i,i+m=l.length∧s'.2=((i:Nat):Int)∧in64P s'.1 | .inr r=>match r with | .inl v=>in64P v | .inr q=>q.2=false:=fun x hx=>by
        unfold spec_l1Whole_j2
        exact Ok.some ⟨k - 1,by omega,i+1,by omega,Az (by omega),hx⟩
      refine Ok.cond (fun _=>Ok.mono (go _ hv) fun r h=>by rcases r with s | (v | q) <;> exact h) (fun _=>?_)
      rw[Option.bind_some]
      unfold spec_l1Digit
      rw[Option.bind_some]
      refine Ok.cond (fun _=>Ok.some rfl) (fun _=>?_)
      rw[Option.bind_some]
      exact Ok.mono (go _ (wr _)) fun r h=>by rcases r with s | (v | q) <;> exact h
    · rintro (v | q) hq
      · dsimp only at hq ⊢
        have h0:Cr (bA l) 0=some ((l[0].toNat:Nat):Int):=Db (l:=l) (i:=0) hpos
        rw[h0,Option.bind_some]
        exact Ok.cond (fun _=>fin _ (wr _)) (fun _=>fin _ hq)
      · exact Ok.some fun h=>by rw[hq]at h;cases h
  obtain⟨q,e,h⟩:=hok
  refine⟨q,e,h,fun v hv hl=>?_⟩
  rw[hl,whole_hit hv]at e
  injection e with e
  exact e.symm
end Go.G36.FR
namespace Go.G36.FR
set_option linter.all false
open Go Go.G36 Go.Proofs Go.G36.MT

def E7:List UInt8→Option (List (Option UInt8))
  | []=>some []
  | b :: r => if b = 42 then (  E7 r).map (none :: ·) else if b = 92 then (match r with
      | []=>none
      | c :: r'=>if c=42∨c=92 then (E7 r').map (some c :: ·) else none) else (E7 r).map (some b :: ·)
theorem toks_cons(b:UInt8)(r:List UInt8):E7 (b :: r)=if b=42 then (E7 r).map (none :: ·) else if b=92 then (match r with
      | []=>none
      | c :: r'=>if c=42∨c=92 then (E7 r').map (some c :: ·) else none) else (E7 r).map (some b :: ·):=by
  rw[E7.eq_def]
theorem toks_nil:E7 []=some []:=by rw[E7.eq_def]
def encI:Option UInt8→Int
  | none=>-1
  | some b=>(b.toNat:Int)
def encS:Option UInt8→Int
  | none=>256
  | some b=>(b.toNat:Int)
theorem toks_len : ∀ (n : Nat) (l : List UInt8) (ts : List (Option UInt8)), l.length ≤ n →   E7 l = some ts → ts.length ≤ l.length := by
  intro n
  induction n with
  | zero =>
    intro l ts hl h
    have:l = []:=List.eq_nil_of_length_eq_zero (by omega)
    subst this
    simp[toks_nil]at h
    subst h
    simp
  | succ n ih =>
    intro l ts hl h
    match l with
    | []=>simp[toks_nil]at h;subst h;simp
    | b :: r =>
      simp only[List.length_cons]at hl
      rw[toks_cons]at h
      split at h
      · obtain⟨x,hx,rfl⟩:=Option.map_eq_some_iff.1 h
        have:=ih r x (by omega) hx
        simp;omega
      · split at h
        · cases r with
          | nil=>cases h
          | cons c r' =>
            simp only[List.length_cons]at hl
            dsimp only at h
            split at h
            · obtain⟨x,hx,rfl⟩:=Option.map_eq_some_iff.1 h
              have:=ih r' x (by omega) hx
              simp;omega
            · cases h
        · obtain⟨x,hx,rfl⟩:=Option.map_eq_some_iff.1 h
          have:=ih r x (by omega) hx
          simp;omega
theorem u8_eq{b:UInt8}{n:Nat}(hn:n<256):(((b.toNat:Nat):Int)==(n:Int))=decide (b=UInt8.ofNat n):=by
  have h2:(UInt8.ofNat n).toNat=n:=by rw[UInt8.toNat_ofNat'];exact Nat.mod_eq_of_lt hn
  by_cases h:b=UInt8.ofNat n
  · subst h
    rw[h2];simp
  · rw[decide_eq_false h]
    refine beq_eq_false_iff_ne.2 fun e=>h ?_
    apply UInt8.toNat_inj.1
    rw[h2];omega
theorem b42(b:UInt8):(((b.toNat:Nat):Int)==42)=decide (b=42):=u8_eq (n:=42) (by omega)
theorem b92(b:UInt8):(((b.toNat:Nat):Int)==92)=decide (b=92):=u8_eq (n:=92) (by omega)
theorem i64b(b:UInt8):IntKind.i64.wrap ((b.toNat:Nat):Int)=((b.toNat:Nat):Int):=IntWalk.i64_in _ (by have:=b.toNat_lt;omega)

def AtP(enc:Option UInt8→Int)(l:List UInt8)(acc:List Int)(i:Nat):Prop:=i≤l.length∧∃ a:List (Option UInt8),acc=a.map enc∧a.length≤i∧E7 l=(E7 (l.drop i)).map (a ++ ·)
theorem AtP.star{enc:Option UInt8→Int}{l:List UInt8}{acc:List Int}{i:Nat}(h:AtP enc l acc i)(hi:i<l.length)(hb:l[i]=42):AtP enc l (acc ++ [enc none]) (i+1):=by
  obtain⟨h1,a,rfl,h2,h3⟩:=h
  refine⟨hi,a ++ [none],by simp,by simp;omega,?_⟩
  rw[h3,List.drop_eq_getElem_cons hi,toks_cons,if_pos hb]
  cases E7 (l.drop (i+1)) <;> simp
theorem AtP.char{enc:Option UInt8→Int}{l:List UInt8}{acc:List Int}{i:Nat}(h:AtP enc l acc i)(hi:i<l.length)(hb:l[i]≠42)(hc:l[i]≠92):AtP enc l (acc ++ [enc (some l[i])]) (i+1):=by
  obtain⟨h1,a,rfl,h2,h3⟩:=h
  refine⟨hi,a ++ [some l[i]],by simp,by simp;omega,?_⟩
  rw[h3,List.drop_eq_getElem_cons hi,toks_cons,if_neg hb,if_neg hc]
  cases E7 (l.drop (i+1)) <;> simp
theorem AtP.esc{enc:Option UInt8→Int}{l:List UInt8}{acc:List Int}{i:Nat}(h:AtP enc l acc i)(hi:i+1<l.length)(hb:l[i]=92)(hc:l[i+1]=42∨l[i+1]=92):AtP enc l (acc ++ [enc (some l[i+1])]) (i+1+1):=by
  obtain⟨h1,a,rfl,h2,h3⟩:=h
  refine⟨by omega,a ++ [some l[i+1]],by simp,by simp;omega,?_⟩
  rw[h3,List.drop_eq_getElem_cons (show i<l.length by omega),toks_cons,if_neg (by rw[hb];decide),if_pos hb,List.drop_eq_getElem_cons hi]
  dsimp only
  rw[if_pos hc]
  cases E7 (l.drop (i+1+1)) <;> simp
theorem AtP.bad{enc:Option UInt8→Int}{l:List UInt8}{acc:List Int}{i:Nat}(h:AtP enc l acc i)(hi:i<l.length)(hb:l[i]=92)(hc:∀ h:i+1<l.length,¬ (l[i+1]=42∨l[i+1]=92)):E7 l=none:=by
  obtain⟨h1,a,rfl,h2,h3⟩:=h
  rw[h3,List.drop_eq_getElem_cons hi,toks_cons,if_neg (by rw[hb];decide),if_pos hb]
  by_cases hi2:i+1<l.length
  · rw[List.drop_eq_getElem_cons hi2]
    dsimp only
    rw[if_neg (hc hi2)]
    rfl
  · rw[List.drop_of_length_le (by omega)]
    rfl
theorem AtP.fin{enc:Option UInt8→Int}{l:List UInt8}{acc:List Int}(h:AtP enc l acc l.length):∃ a,E7 l=some a∧acc=a.map enc:=by
  obtain⟨h1,a,rfl,h2,h3⟩:=h
  rw[List.drop_length]at h3
  exact⟨a,by rw[h3];simp[toks_nil],rfl⟩
def TokR(enc:Option UInt8→Int)(l:List UInt8)(q:List Int×Bool):Prop:=match E7 l with
  | some a=>q=(a.map enc,true)
  | none=>q=([],false)
theorem pattern_impl (l : List UInt8) (hl : l.length ≤ 100000) : ∃ q, impl_ypattern (bA l) = some q ∧ TokR encI l q := by
  unfold impl_ypattern
  have key : Ok (loopO (impl_ypattern_l1 (bA l)) ([], 0)) fun q => Sum.elim (fun a => TokR encI l (a, true)) (TokR encI l) q := by
    refine Ok.loop (fun k s=>∃ i,i+k=l.length∧s.2=((i:Nat):Int)∧AtP encI l s.1 i) ?_ (n:=l.length) ⟨0,by omega,rfl,by omega,[],rfl,by simp,by simp⟩
    rintro k ⟨acc,j⟩ ⟨i,hik,hj,hA⟩
    dsimp only at hj hA
    subst hj
    have hal:acc.length≤100000:=by obtain⟨h1,a,rfl,h2,_⟩:=hA;simp;omega
    unfold impl_ypattern_l1
    dsimp only
    rw[Cd]
    refine Ok.cond (fun h=>?_) (fun h=>?_)
    · have hi : i < l.length := by have := of_decide_eq_true h; omega
      rw[Db hi,Option.bind_some,b42]
      refine Ok.cond (fun hb=>?_) (fun hb=>?_)
      · rw[B4 (by simp;omega),Option.bind_some]
        unfold impl_ypattern_j1
        exact Ok.some ⟨k - 1,by omega,i+1,by omega,Az (by omega),hA.star hi (of_decide_eq_true hb)⟩
      · rw[Option.bind_some,b92]
        have hb':=of_decide_eq_false hb
        refine Ok.cond (fun hc=>?_) (fun hc=>?_)
        · have hc':=of_decide_eq_true hc
          rw[Az (i:=i) (by omega)]
          by_cases hi2:i+1<l.length
          · have e1:decide ((i:Int)+1≥(l.length:Int))=false:=decide_eq_false (by omega)
            have hg:Cr (bA l) ((i:Int)+1)=some ((l[i+1].toNat:Nat):Int):=by have:=Db hi2;simpa using this
            rw[e1,hg]
            simp only[gdO,Bool.not_false,Bool.true_and,cond_true,Option.bind_some,Bool.false_or,bne,b42,b92]
            by_cases hx:l[i+1]=42
            · rw[decide_eq_true hx]
              simp only[Bool.not_true,cond_false,Option.bind_some,Bool.false_and]
              rw[B4 (by simp;omega),Option.bind_some]
              unfold impl_ypattern_j1
              rw[i64b]
              refine Ok.some ⟨k - 2,by omega,i+1+1,by omega,?_,hA.esc hi2 hc' (.inl hx)⟩
              have:=Az (i:=i+1) (by omega)
              simpa using this
            · rw[decide_eq_false hx]
              simp only[Bool.not_false,cond_true,Option.bind_some,Bool.true_and]
              by_cases hy:l[i+1]=92
              · rw[b92,decide_eq_true hy]
                simp only[Bool.not_true,cond_false,Option.bind_some]
                rw[B4 (by simp;omega),Option.bind_some]
                unfold impl_ypattern_j1
                rw[i64b]
                refine Ok.some ⟨k - 2,by omega,i+1+1,by omega,?_,hA.esc hi2 hc' (.inr hy)⟩
                have:=Az (i:=i+1) (by omega)
                simpa using this
              · rw[b92,decide_eq_false hy]
                refine Ok.some ?_
                show TokR encI l _
                unfold TokR
                rw[hA.bad hi hc' fun _=>by rintro (h | h);exact hx h;exact hy h]
          · have e1:decide ((i:Int)+1≥(l.length:Int))=true:=decide_eq_true (by omega)
            rw[e1]
            simp only[gdO,Bool.not_true,Bool.false_and,cond_false,Option.bind_some,Bool.true_or,cond_true]
            refine Ok.some ?_
            show TokR encI l _
            unfold TokR
            rw[hA.bad hi hc' fun h=>absurd h hi2]
        · have hc':=of_decide_eq_false hc
          rw[Option.bind_some,B4 (by simp;omega),Option.bind_some]
          unfold impl_ypattern_j1
          rw[i64b]
          exact Ok.some ⟨k - 1,by omega,i+1,by omega,Az (by omega),hA.char hi hb' hc'⟩
    · have hi:i=l.length:=by have:=of_decide_eq_false h;omega
      subst hi
      obtain⟨a,h1,rfl⟩:=hA.fin
      refine Ok.some ?_
      show TokR encI l _
      unfold TokR
      rw[h1]
  obtain⟨q,e,hq⟩:=key
  rw[e,Option.bind_some]
  cases q with
  | inl a=>exact⟨_,rfl,hq⟩
  | inr q=>exact⟨_,rfl,hq⟩
theorem tokens_spec (l : List UInt8) (hl : l.length ≤ 100000) : ∃ q, spec_l1Tokens (bA l) = some q ∧ TokR encS l q := by
  unfold spec_l1Tokens
  have key : Ok (loopO (spec_l1Tokens_l1 (bA l)) ([], 0)) fun q => Sum.elim (fun a => TokR encS l (a, true)) (TokR encS l) q := by
    refine Ok.loop (fun k s=>∃ i,i+k=l.length∧s.2=((i:Nat):Int)∧AtP encS l s.1 i) ?_ (n:=l.length) ⟨0,by omega,rfl,by omega,[],rfl,by simp,by simp⟩
    rintro k ⟨acc,j⟩ ⟨i,hik,hj,hA⟩
    dsimp only at hj hA
    subst hj
    have hal:acc.length≤100000:=by obtain⟨h1,a,rfl,h2,_⟩:=hA;simp;omega
    unfold spec_l1Tokens_l1
    dsimp only
    rw[Cd]
    refine Ok.cond (fun h=>?_) (fun h=>?_)
    · have hi : i < l.length := by have := of_decide_eq_true h; omega
      rw[Db hi,Option.bind_some,b42]
      refine Ok.cond (fun hb=>?_) (fun hb=>?_)
      · rw[B4 (by simp;omega),Option.bind_some]
        unfold spec_l1Tokens_j1
        exact Ok.some ⟨k - 1,by omega,i+1,by omega,Az (by omega),hA.star hi (of_decide_eq_true hb)⟩
      · rw[b92]
        have hb':=of_decide_eq_false hb
        refine Ok.cond (fun hc=>?_) (fun hc=>?_)
        · have hc':=of_decide_eq_true hc
          rw[Az (i:=i) (by omega)]
          by_cases hi2:i+1<l.length
          · have e1:((i:Int)+1==(l.length:Int))=false:=beq_eq_false_iff_ne.2 (by omega)
            have hg:Cr (bA l) ((i:Int)+1)=some ((l[i+1].toNat:Nat):Int):=by have:=Db hi2;simpa using this
            rw[e1,hg]
            simp only[gdO,Bool.not_false,Bool.true_and,cond_true,Option.bind_some,Bool.false_or,bne,b42,b92]
            by_cases hx:l[i+1]=42
            · rw[decide_eq_true hx]
              simp only[Bool.not_true,cond_false,Option.bind_some,Bool.false_and]
              rw[B4 (by simp;omega),Option.bind_some]
              unfold spec_l1Tokens_j1
              rw[i64b]
              refine Ok.some ⟨k - 2,by omega,i+1+1,by omega,?_,hA.esc hi2 hc' (.inl hx)⟩
              have:=Az (i:=i+1) (by omega)
              simpa using this
            · rw[decide_eq_false hx]
              simp only[Bool.not_false,cond_true,Option.bind_some,Bool.true_and]
              by_cases hy:l[i+1]=92
              · rw[b92,decide_eq_true hy]
                simp only[Bool.not_true,cond_false,Option.bind_some]
                rw[B4 (by simp;omega),Option.bind_some]
                unfold spec_l1Tokens_j1
                rw[i64b]
                refine Ok.some ⟨k - 2,by omega,i+1+1,by omega,?_,hA.esc hi2 hc' (.inr hy)⟩
                have:=Az (i:=i+1) (by omega)
                simpa using this
              · rw[b92,decide_eq_false hy]
                refine Ok.some ?_
                show TokR encS l _
                unfold TokR
                rw[hA.bad hi hc' fun _=>by rintro (h | h);exact hx h;exact hy h]
          · have e1:((i:Int)+1==(l.length:Int))=true:=beq_iff_eq.2 (by omega)
            rw[e1]
            simp only[gdO,Bool.not_true,Bool.false_and,cond_false,Option.bind_some,Bool.true_or,cond_true]
            refine Ok.some ?_
            show TokR encS l _
            unfold TokR
            rw[hA.bad hi hc' fun h=>absurd h hi2]
        · have hc':=of_decide_eq_false hc
          rw[Option.bind_some,B4 (by simp;omega),Option.bind_some]
          unfold spec_l1Tokens_j1
          rw[i64b]
          exact Ok.some ⟨k - 1,by omega,i+1,by omega,Az (by omega),hA.char hi hb' hc'⟩
    · have hi:i=l.length:=by have:=of_decide_eq_false h;omega
      subst hi
      obtain⟨a,h1,rfl⟩:=hA.fin
      refine Ok.some ?_
      show TokR encS l _
      unfold TokR
      rw[h1]
  obtain⟨q,e,hq⟩:=key
  rw[e,Option.bind_some]
  cases q with
  | inl a=>exact⟨_,rfl,hq⟩
  | inr q=>exact⟨_,rfl,hq⟩
end Go.G36.FR
namespace Go.G36.FR
set_option linter.all false
open Go Go.G36 Go.Proofs Go.G36.MT

def   Dh (ts : List (Option UInt8)) (l : List UInt8) : Nat → Nat → Bool
  | 0,0=>true
  | 0,_+1=>false
  | k+1,0=>(ts.getD k none).isNone&&Dh ts l k 0
  | k+1,i+1=>match ts.getD k none with
    | none=>Dh ts l k (i+1)||Dh ts l (k+1) i
    | some b=>Dh ts l k i&&(b==l.getD i 0)
def Tab(n:Nat)(f:Nat→Bool)(r:List Bool):Prop:=r.length=n+1∧∀ j,j≤n→r[j]? = some (f j)
theorem Tab.get{n:Nat}{f:Nat→Bool}{r:List Bool}(h:Tab n f r){j:Nat}(hj:j≤n):idx r (j:Int)=some (f j):=by rw[Bk,h.2 j hj]
theorem Tab.set{n:Nat}{f g:Nat→Bool}{r:List Bool}(h:Tab n f r){i:Nat}{b:Bool}(hb:g i=b)(hg:∀ j,j≤n→j≠i→g j=f j):Tab n g (r.set i b):=by
  refine⟨by rw[List.length_set];exact h.1,fun j hj=>?_⟩
  by_cases hij:i=j
  · subst hij
    rw[List.getElem?_set_self (by rw[h.1];omega),hb]
  · rw[List.getElem?_set_ne hij,h.2 j hj,hg j hj (fun e=>hij e.symm)]
theorem Tab.congr{n:Nat}{f g:Nat→Bool}{r:List Bool}(h:Tab n f r)(hg:∀ j,j≤n→f j=g j):Tab n g r:=⟨h.1,fun j hj=>by rw[h.2 j hj,hg j hj]⟩
theorem mk_row(n:Nat)(hn:n≤100000):∃ r,mk false (IntKind.i64.wrap ((n:Int)+1))=some r∧Tab n (fun _=>false) r:=by
  rw[Az (by omega)]
  unfold mk
  rw[if_pos (by omega)]
  refine⟨_,rfl,by simp,fun j hj=>?_⟩
  have:((n:Int)+1).toNat=n+1:=by omega
  rw[this,List.getElem?_replicate,if_pos (by omega)]

variable {ts:List (Option UInt8)} {l:List UInt8}
theorem meet_star{k:Nat}(hs:ts.getD k none=none):∀ j,Dh ts l (k+1) j=true↔∃ i,i≤j∧Dh ts l k i=true
  | 0=>by
    rw[Dh,hs]
    simp
  | j + 1 => by
    rw[Dh,hs]
    simp only[Bool.or_eq_true,meet_star hs j]
    constructor
    · rintro (h | ⟨i,h1,h2⟩)
      · exact⟨j+1,Nat.le_refl _,h⟩
      · exact⟨i,by omega,h2⟩
    · rintro⟨i,h1,h2⟩
      by_cases h:i=j+1
      · subst h;exact .inl h2
      · exact .inr ⟨i,by omega,h2⟩
theorem fill_ok(a:ByteArray)(n:Nat)(hn:n≤100000)(ha:a.size=n){f:Nat→Bool}{r:List Bool}{i:Nat}(hr:Tab n f r)(hi:i≤n)(hf:∀ j,j≤n→i≤j→f j=false) :
    Ok (loopO (impl_Like_l3 a) (r,(i:Int))) fun q=>Tab n (fun j=>f j||decide (i≤j)) q:=by
  refine Ok.loop (fun k s=>∃ v:Nat,v+k=n+1∧i≤v∧s.2=(v:Int)∧Tab n (fun j=>f j||(decide (i≤j)&&decide (j<v))) s.1) ?_ (n:=n+1 - i) ⟨i,by omega,Nat.le_refl _,rfl,hr.congr fun j hj=>by
    have:(decide (i≤j)&&decide (j<i))=false:=by simp
    rw[this,Bool.or_false]⟩
  rintro k ⟨s,v'⟩ ⟨v,hv,hiv,rfl',hT⟩
  dsimp only at rfl' hT
  subst rfl'
  unfold impl_Like_l3
  dsimp only
  rw[ha]
  refine Ok.cond (fun h=>?_) (fun h=>?_)
  · have hvn:v≤n:=by have:=of_decide_eq_true h;omega
    rw[hT.get hvn,Option.bind_some,Az (by omega),Int.toNat_natCast]
    refine Ok.some ⟨k - 1,by omega,v+1,by omega,by omega,by simp,hT.set (by simp;omega) fun j hj hne=>?_⟩
    have:decide (j<v+1)=decide (j<v):=by
      have:(j<v+1)=(j<v):=by rw[eq_iff_iff];omega
      simp[this]
    rw[this]
  · have hvn:v=n+1:=by have:=of_decide_eq_false h;omega
    subst hvn
    refine Ok.some (hT.congr fun j hj=>?_)
    have:decide (j<n+1)=true:=decide_eq_true (by omega)
    rw[this,Bool.and_true]
theorem enc_eq(b c:UInt8):(((c.toNat:Nat):Int)==((b.toNat:Nat):Int))=(b==c):=by
  by_cases h:b=c
  · subst h;simp
  · rw[show (b==c)=false by simpa using h]
    exact beq_eq_false_iff_ne.2 fun e=>h (UInt8.toNat_inj.1 (by omega))
theorem row_ok (n : Nat) (hn : n ≤ 100000) (hl : l.length = n) {k : Nat} (hk : k < ts.length) {r next : List Bool} (hr : Tab n (  Dh ts l k) r) (hx : Tab n (fun _ => false) next) :
    Ok (loopO (impl_Like_l2 (bA l) r (encI (ts.getD k none))) (next,0)) fun q=>Tab n (Dh ts l (k+1)) q:=by
  have hsz:(bA l).size=n:=by rw[Cd,hl]
  cases ht:ts.getD k none with
  | none =>
    refine Ok.loop (fun m s=>∃ v:Nat,v+m=n+1∧s.2=(v:Int)∧Tab n (fun _=>false) s.1∧∀ j,j<v→Dh ts l k j=false) ?_ (n:=n+1) ⟨0,by omega,rfl,hx,fun j hj=>by omega⟩
    rintro m ⟨s,v'⟩ ⟨v,hv,rfl',hT,hno⟩
    dsimp only at rfl' hT
    subst rfl'
    unfold impl_Like_l2
    dsimp only
    rw[hr.1]
    refine Ok.cond (fun h=>?_) (fun h=>?_)
    · have hvn:v≤n:=by have:=of_decide_eq_true h;omega
      rw[hr.get hvn,Option.bind_some,Az (by omega)]
      refine Ok.cond (fun hm=>?_) (fun hm=>?_)
      · exact Ok.some ⟨m - 1,by omega,v+1,by omega,by simp,hT,fun j hj=>by
          by_cases hjv:j=v
          · subst hjv;simpa using hm
          · exact hno j (by omega)⟩
      · have hm':Dh ts l k v=true:=by simpa using hm
        refine Ok.cond (fun _=>?_) (fun hh=>absurd (of_decide_eq_false hh) (by simp[encI]))
        refine Ok.bind (fill_ok (bA l) n hn hsz hT hvn fun _ _ _=>rfl) fun q hq=>?_
        refine Ok.some (hq.congr fun j hj=>?_)
        rw[Bool.false_or,Bool.eq_iff_iff,decide_eq_true_iff,meet_star ht]
        constructor
        · exact fun h=>⟨v,h,hm'⟩
        · rintro⟨i,h1,h2⟩
          have:¬ i<v:=fun h=>by rw[hno i h]at h2;cases h2
          omega
    · have hvn:v=n+1:=by have:=of_decide_eq_false h;omega
      subst hvn
      refine Ok.some (hT.congr fun j hj=>?_)
      rw[eq_comm,← Bool.not_eq_true,meet_star ht]
      rintro⟨i,h1,h2⟩
      rw[hno i (by omega)]at h2
      cases h2
  | some b =>
    have hm0:Dh ts l (k+1) 0=false:=by rw[Dh,ht];rfl
    have hm1:∀ i,Dh ts l (k+1) (i+1)=(Dh ts l k i&&(b==l.getD i 0)):=fun i=>by rw[Dh,ht]
    refine Ok.loop (fun m s=>∃ v:Nat,v+m=n+1∧s.2=(v:Int)∧Tab n (fun j=>decide (j≤v)&&Dh ts l (k+1) j) s.1) ?_ (n:=n+1) ⟨0,by omega,rfl,hx.congr fun j hj=>by
      by_cases h:j≤0
      · have:j=0:=by omega
        subst this;rw[hm0];simp
      · rw[decide_eq_false h];rfl⟩
    rintro m ⟨s,v'⟩ ⟨v,hv,rfl',hT⟩
    dsimp only at rfl' hT
    subst rfl'
    unfold impl_Like_l2
    dsimp only
    rw[hr.1]
    have keep:(v<n→Dh ts l (k+1) (v+1)=false)→Tab n (fun j=>decide (j≤v+1)&&Dh ts l (k+1) j) s:=fun hz=>hT.congr fun j hj=>by
      by_cases hjv:j=v+1
      · subst hjv
        rw[hz (by omega)];simp
      · have:decide (j≤v)=decide (j≤v+1):=by
          have:(j≤v)=(j≤v+1):=by rw[eq_iff_iff];omega
          simp[this]
        rw[this]
    refine Ok.cond (fun h=>?_) (fun h=>?_)
    · have hvn:v≤n:=by have:=of_decide_eq_true h;omega
      rw[hr.get hvn,Option.bind_some,Az (by omega)]
      refine Ok.cond (fun hm=>?_) (fun hm=>?_)
      · have hm':Dh ts l k v=false:=by simpa using hm
        exact Ok.some ⟨m - 1,by omega,v+1,by omega,by simp,keep fun _=>by rw[hm1,hm'];rfl⟩
      · have hm':Dh ts l k v=true:=by simpa using hm
        refine Ok.cond (fun hh=>absurd (of_decide_eq_true hh) (by show ¬ ((b.toNat:Int)<0);omega)) (fun _=>?_)
        rw[hsz]
        by_cases hlt:v<n
        · have hvl:v<l.length:=by omega
          have hgd:l.getD v 0=l[v]:=by rw[List.getD_eq_getElem?_getD,List.getElem?_eq_getElem hvl];rfl
          rw[ltn hlt,gdO,cond_true,Db hvl,Option.bind_some,i64b,Bool.true_and]
          rw[show (((l[v].toNat:Nat):Int)==encI (some b))=(b==l[v]) from enc_eq b l[v]]
          refine Ok.cond (fun he=>?_) (fun he=>?_)
          · have:=hT.get (j:=v+1) (by omega)
            rw[show ((v:Int)+1)=((v+1:Nat):Int) by simp,this,Option.bind_some,Int.toNat_natCast]
            refine Ok.some ⟨m - 1,by omega,v+1,by omega,rfl,hT.set (by rw[hm1,hm',hgd,he];simp) fun j hj hne=>?_⟩
            have:decide (j≤v+1)=decide (j≤v):=by
              have:(j≤v+1)=(j≤v):=by rw[eq_iff_iff];omega
              simp[this]
            rw[this]
          · exact Ok.some ⟨m - 1,by omega,v+1,by omega,by simp,keep fun _=>by rw[hm1,hgd,he,Bool.and_false]⟩
        · rw[show decide ((v:Int)<(n:Int))=false from decide_eq_false (by omega)]
          exact Ok.some ⟨m - 1,by omega,v+1,by omega,by simp,keep fun h=>absurd h hlt⟩
    · have hvn:v=n+1:=by have:=of_decide_eq_false h;omega
      subst hvn
      refine Ok.some (hT.congr fun j hj=>?_)
      rw[decide_eq_true (by omega),Bool.true_and]
theorem idx_enc{enc:Option UInt8→Int}{i:Nat}(hi:i<ts.length):idx (ts.map enc) (i:Int)=some (enc (ts.getD i none)):=by
  rw[Bk,List.getElem?_map,List.getElem?_eq_getElem hi,List.getD_eq_getElem?_getD,List.getElem?_eq_getElem hi]
  rfl
def likeB(a p:List UInt8):Bool:=!(decide (200<a.length)||decide (200<p.length))&&(match E7 p with | some ts=>Dh ts a ts.length a.length | none=>false)
theorem like_impl (a p : List UInt8) (ha : a.length ≤ 100000) (hp : p.length ≤ 100000) : impl_Like (bA a) (bA p) = some (likeB a p) := by
  unfold impl_Like likeB
  obtain⟨q,e,hq⟩:=pattern_impl p hp
  rw[e,Option.bind_some,Cd,Cd]
  unfold TokR at hq
  have s1:decide ((a.length:Int) > 200)=decide (200<a.length):=by
    have:((a.length:Int) > 200)=(200<a.length):=by rw[eq_iff_iff];omega
    simp[this]
  have s2:decide ((p.length:Int) > 200)=decide (200<p.length):=by
    have:((p.length:Int) > 200)=(200<p.length):=by rw[eq_iff_iff];omega
    simp[this]
  rw[s1,s2]
  cases ht:E7 p with
  | none =>
    rw[ht]at hq
    dsimp only at hq
    subst hq
    simp
  | some ts =>
    rw[ht]at hq
    dsimp only at hq
    subst hq
    dsimp only
    have htl:=toks_len _ p ts (Nat.le_refl _) ht
    rw[Bool.not_true,Bool.false_or]
    cases hb:(decide (200<a.length)||decide (200<p.length)) with
    | true=>rfl
    | false =>
      rw[cond_false,Bool.not_false,Bool.true_and]
      obtain⟨r,hr,hT⟩:=mk_row a.length ha
      rw[hr,Option.bind_some,show (0:Int)=((0:Nat):Int) from rfl,hT.get (Nat.zero_le _),Option.bind_some]
      have key:Ok (loopO (impl_Like_l1 (bA a) (ts.map encI)) (r.set 0 true,0)) fun q=>Tab a.length (Dh ts a ts.length) q:=by
        refine Ok.loop (fun m s=>∃ v:Nat,v+m=ts.length∧s.2=(v:Int)∧Tab a.length (Dh ts a v) s.1) ?_ (n:=ts.length) ⟨0,by omega,rfl,hT.set (by rw[Dh]) fun j hj hne=>by
          cases j with
          | zero=>exact absurd rfl hne
          | succ j=>rw[Dh]⟩
        rintro m ⟨s,v'⟩ ⟨v,hv,rfl',hS⟩
        dsimp only at rfl' hS
        subst rfl'
        unfold impl_Like_l1
        dsimp only
        rw[List.length_map]
        refine Ok.cond (fun h=>?_) (fun h=>?_)
        · have hvl:v<ts.length:=by have:=of_decide_eq_true h;omega
          obtain⟨r2,hr2,hT2⟩:=mk_row a.length ha
          rw[idx_enc hvl,Option.bind_some,Cd,hr2,Option.bind_some]
          refine Ok.bind (row_ok a.length ha rfl hvl hS hT2) fun q hq=>?_
          rw[Az (by omega)]
          exact Ok.some ⟨m - 1,by omega,v+1,by omega,by simp,hq⟩
        · have:v=ts.length:=by have:=of_decide_eq_false h;omega
          subst this
          exact Ok.some hS
      obtain⟨q,e2,hq⟩:=key
      have e3:loopO (impl_Like_l1 (bA a) (ts.map encI)) (r.set (Int.toNat ((0:Nat):Int)) true,((0:Nat):Int))=some q:=e2
      rw[e3,Option.bind_some]
      rw[hq.get (Nat.le_refl _),Option.bind_some]
theorem encS_star(o:Option UInt8):(encS o==256)=o.isNone:=by
  cases o with
  | none=>rfl
  | some b=>exact beq_eq_false_iff_ne.2 (by show ((b.toNat:Nat):Int)≠256;have:=b.toNat_lt;omega)
theorem col_ok (m : Nat) (hm : ts.length = m) (hmn : m ≤ 100000) {i : Nat} (hi : i < l.length) {r next : List Bool} (hr : Tab m (fun k =>   Dh ts l k i) r) (hx : Tab m (fun _ => false) next) :
    Ok (loopO (spec_Like_l3 (bA l) (ts.map encS) r (i:Int)) (next,0)) fun q=>Tab m (fun k=>Dh ts l k (i+1)) q:=by
  subst hm
  refine Ok.loop (fun c s=>∃ v:Nat,v+c=ts.length∧s.2=(v:Int)∧Tab ts.length (fun k=>decide (k≤v)&&Dh ts l k (i+1)) s.1) ?_ (n:=ts.length) ⟨0,by omega,rfl,hx.congr fun j hj=>by
    by_cases h:j≤0
    · have:j=0:=by omega
      subst this;rw[Dh];simp
    · rw[decide_eq_false h];rfl⟩
  rintro c ⟨s,v'⟩ ⟨v,hv,rfl',hT⟩
  dsimp only at rfl' hT
  subst rfl'
  unfold spec_Like_l3
  dsimp only
  rw[List.length_map]
  refine Ok.cond (fun h=>?_) (fun h=>?_)
  · have hvl:v<ts.length:=by have:=of_decide_eq_true h;omega
    rw[idx_enc hvl,Option.bind_some,encS_star,Az (by omega),show ((v:Int)+1)=((v+1:Nat):Int) by simp]
    have put:∀ b,Dh ts l (v+1) (i+1)=b→Tab ts.length (fun k=>decide (k≤v+1)&&Dh ts l k (i+1)) (s.set (v+1) b):=fun b hb=>hT.set (by rw[hb];simp) fun j hj hne=>by
      have:decide (j≤v+1)=decide (j≤v):=by
        have:(j≤v+1)=(j≤v):=by rw[eq_iff_iff];omega
        simp[this]
      rw[this]
    have hs1:=hT.get (j:=v+1) (by omega)
    have hs0:=hT.get (j:=v) (by omega)
    cases ht:ts.getD v none with
    | none =>
      rw[Option.isNone_none,cond_true,hr.get (by omega),Option.bind_some]
      have hm1:Dh ts l (v+1) (i+1)=(Dh ts l v (i+1)||Dh ts l (v+1) i):=by rw[Dh,ht]
      rw[hs0,C3,Option.bind_some,hs1,Option.bind_some,Int.toNat_natCast]
      refine Ok.some ⟨c - 1,by omega,v+1,by omega,rfl,put _ ?_⟩
      rw[hm1,decide_eq_true (Nat.le_refl v),Bool.true_and]
      cases Dh ts l (v+1) i <;> cases Dh ts l v (i+1) <;> rfl
    | some b =>
      have hm1:Dh ts l (v+1) (i+1)=(Dh ts l v i&&(b==l.getD i 0)):=by rw[Dh,ht]
      have hgd:l.getD i 0=l[i]:=by rw[List.getD_eq_getElem?_getD,List.getElem?_eq_getElem hi];rfl
      rw[Option.isNone_some,cond_false,hr.get (by omega),Option.bind_some,Db hi,C3,Option.bind_some,hs1,Option.bind_some,Int.toNat_natCast]
      refine Ok.some ⟨c - 1,by omega,v+1,by omega,rfl,put _ ?_⟩
      rw[hm1,hgd]
      cases Dh ts l v i with
      | false=>rfl
      | true =>
        rw[Bool.true_and,Bool.true_and,cond_true,i64b,← enc_eq b l[i]]
        rw[Bool.eq_iff_iff,beq_iff_eq,beq_iff_eq]
        exact eq_comm
  · have:v=ts.length:=by have:=of_decide_eq_false h;omega
    subst this
    refine Ok.some (hT.congr fun j hj=>?_)
    rw[decide_eq_true hj,Bool.true_and]
theorem like_spec (a p : List UInt8) (ha : a.length ≤ 100000) (hp : p.length ≤ 100000) : spec_Like (bA a) (bA p) = some (likeB a p) := by
  unfold spec_Like likeB
  obtain⟨q,e,hq⟩:=tokens_spec p hp
  rw[e,Option.bind_some,Cd,Cd]
  unfold TokR at hq
  have s1:decide ((a.length:Int) > 200)=decide (200<a.length):=by
    have:((a.length:Int) > 200)=(200<a.length):=by rw[eq_iff_iff];omega
    simp[this]
  have s2:decide ((p.length:Int) > 200)=decide (200<p.length):=by
    have:((p.length:Int) > 200)=(200<p.length):=by rw[eq_iff_iff];omega
    simp[this]
  rw[s1,s2]
  cases hb:(decide (200<a.length)||decide (200<p.length)) with
  | true=>rfl
  | false =>
    rw[cond_false,Bool.not_false,Bool.true_and]
    cases ht:E7 p with
    | none =>
      rw[ht]at hq
      dsimp only at hq
      subst hq
      rfl
    | some ts =>
      rw[ht]at hq
      dsimp only at hq
      subst hq
      dsimp only
      have htl:=toks_len _ p ts (Nat.le_refl _) ht
      rw[Bool.not_true,cond_false,List.length_map]
      obtain⟨r,hr,hT⟩:=mk_row ts.length (by omega)
      rw[hr,Option.bind_some,show (0:Int)=((0:Nat):Int) from rfl,hT.get (Nat.zero_le _),Option.bind_some]
      have k1 : Ok (loopO (spec_Like_l1 (ts.map encS)) (r.set 0 true, 0)) fun q => Tab ts.length (fun k =>   Dh ts a k 0) q := by
        refine Ok.loop (fun c s=>∃ v:Nat,v+c=ts.length∧s.2=(v:Int)∧Tab ts.length (fun k=>decide (k≤v)&&Dh ts a k 0) s.1) ?_ (n:=ts.length) ⟨0,by omega,rfl,hT.set (by rw[Dh];rfl) fun j hj hne=>by
          rw[decide_eq_false (by omega)];rfl⟩
        rintro c ⟨s,v'⟩ ⟨v,hv,rfl',hS⟩
        dsimp only at rfl' hS
        subst rfl'
        unfold spec_Like_l1
        dsimp only
        rw[List.length_map]
        refine Ok.cond (fun h=>?_) (fun h=>?_)
        · have hvl:v<ts.length:=by have:=of_decide_eq_true h;omega
          rw[idx_enc hvl,Option.bind_some,hS.get (by omega),Option.bind_some,Az (by omega),show ((v:Int)+1)=((v+1:Nat):Int) by simp,hS.get (j:=v+1) (by omega),Option.bind_some,Int.toNat_natCast,encS_star]
          refine Ok.some ⟨c - 1,by omega,v+1,by omega,rfl,hS.set ?_ fun j hj hne=>?_⟩
          · rw[Dh,decide_eq_true (Nat.le_refl v),decide_eq_true (Nat.le_refl (v+1))]
            cases Dh ts a v 0 <;> cases (ts.getD v none).isNone <;> rfl
          · have:decide (j≤v+1)=decide (j≤v):=by
              have:(j≤v+1)=(j≤v):=by rw[eq_iff_iff];omega
              simp[this]
            rw[this]
        · have:v=ts.length:=by have:=of_decide_eq_false h;omega
          subst this
          refine Ok.some (hS.congr fun j hj=>?_)
          rw[decide_eq_true hj,Bool.true_and]
      obtain⟨q,e1,hq⟩:=k1
      have e1':loopO (spec_Like_l1 (ts.map encS)) (r.set (Int.toNat ((0:Nat):Int)) true,((0:Nat):Int))=some q:=e1
      rw[e1',Option.bind_some]
      have k2:Ok (loopO (spec_Like_l2 (bA a) (ts.map encS)) (q,0)) fun q=>Tab ts.length (fun k=>Dh ts a k a.length) q:=by
        refine Ok.loop (fun c s=>∃ v:Nat,v+c=a.length∧s.2=(v:Int)∧Tab ts.length (fun k=>Dh ts a k v) s.1) ?_ (n:=a.length) ⟨0,by omega,rfl,hq⟩
        rintro c ⟨s,v'⟩ ⟨v,hv,rfl',hS⟩
        dsimp only at rfl' hS
        subst rfl'
        unfold spec_Like_l2
        dsimp only
        rw[Cd,List.length_map]
        refine Ok.cond (fun h=>?_) (fun h=>?_)
        · have hvl:v<a.length:=by have:=of_decide_eq_true h;omega
          obtain⟨r2,hr2,hT2⟩:=mk_row ts.length (by omega)
          rw[hr2,Option.bind_some]
          refine Ok.bind (col_ok ts.length rfl (by omega) hvl hS hT2) fun q hq=>?_
          rw[Az (by omega)]
          exact Ok.some ⟨c - 1,by omega,v+1,by omega,by simp,hq⟩
        · have:v=a.length:=by have:=of_decide_eq_false h;omega
          subst this
          exact Ok.some hS
      obtain⟨q2,e2,hq2⟩:=k2
      have e2':loopO (spec_Like_l2 (bA a) (ts.map encS)) (q,((0:Nat):Int))=some q2:=e2
      rw[e2',Option.bind_some]
      rw[hq2.get (Nat.le_refl _),Option.bind_some]
end Go.G36.FR
namespace Go.G36.FR
set_option linter.all false
open Go Go.G36 Go.Proofs Go.G36.MT

abbrev ints(l:List UInt8):List Int:=l.map fun b=>(b.toNat:Int)
theorem byS_ints(l:List UInt8):byS (ints l)=bA l:=by
  unfold byS
  rw[byS_go]
  simp[bA]
def escs(b:UInt8):Bool:=decide (b=44)||decide (b=92)
def C8:List UInt8→List UInt8
  | []=>[]
  | b :: r=>(if escs b then [92,b] else [b])++C8 r
theorem escL_app(l m:List UInt8):C8 (l++m)=C8 l++C8 m:=by
  induction l with
  | nil=>rfl
  | cons b r ih=>rw[List.cons_append,C8,C8,ih,List.append_assoc]
theorem escL_len(l:List UInt8):l.length≤(C8 l).length∧(C8 l).length≤2*l.length:=by
  induction l with
  | nil=>simp[C8]
  | cons b r ih =>
    rw[C8,List.length_append,List.length_cons]
    split <;> simp <;> omega
theorem write_eq{x:Int}{l:List Int}(h:l.length<4294967296):strings_Builder_WriteByte x (⟨(),l⟩:Bd)=some ((),(⟨(),l ++ [x]⟩:Bd)):=by
  unfold strings_Builder_WriteByte ccO
  rw[Option.bind_some,B4 (by simp;omega),Option.bind_some]
theorem index_esc(b:UInt8):∃ r,indexByteO (bA [44,92]) ((b.toNat:Nat):Int)=some r∧decide (r≥0)=escs b:=by
  refine⟨_,rfl,?_⟩
  rw[bA_list]
  have hb:((((b.toNat:Nat):Int)).toNat).toUInt8=b:=by simp
  rw[hb]
  unfold escs
  by_cases h1:b=44
  · subst h1;rfl
  · by_cases h2:b=92
    · subst h2;rfl
    · have e1:((44:UInt8)==b)=false:=by simpa using fun h=>h1 h.symm
      have e2:((92:UInt8)==b)=false:=by simpa using fun h=>h2 h.symm
      have hi:Lib.indexByte [44,92] b = -1:=by simp[Lib.indexByte,e1,e2]
      rw[hi,decide_eq_false h1,decide_eq_false h2]
      rfl
theorem escape_impl (l : List UInt8) (hl : l.length ≤ 100000) : impl_yescape (bA l) (bA [44, 92]) = some (bA (  C8 l)) := by
  unfold impl_yescape
  have key:Ok (loopO (impl_yescape_l1 (bA l) (bA [44,92])) (⟨(),[]⟩,0)) fun q=>q=⟨(),ints (C8 l)⟩:=by
    refine Ok.loop (fun k s=>∃ i:Nat,i+k=l.length∧s=(⟨(),ints (C8 (l.take i))⟩,(i:Int))) ?_ (n:=l.length) ⟨0,by omega,rfl⟩
    rintro k s ⟨i,hi,rfl⟩
    unfold impl_yescape_l1
    dsimp only
    rw[Cd]
    refine Ok.cond (fun h=>?_) (fun h=>?_)
    · have hil:i<l.length:=by have:=of_decide_eq_true h;omega
      obtain⟨r,hr,hd⟩:=index_esc l[i]
      have hlen:=(escL_len (l.take i)).2
      have htk:(l.take i).length≤i:=by simp;omega
      rw[Db hil,Option.bind_some,hr,Option.bind_some,hd]
      have fin:∀ m:List UInt8,(ints m).length<4294967296 - 1→Ok (impl_yescape_j1 (bA l) (i:Int) (⟨(),ints m⟩:Bd)) fun q=>q = .inl (⟨(),ints (m ++ [l[i]])⟩,((i+1:Nat):Int)):=fun m hm=>by
        unfold impl_yescape_j1
        dsimp only
        rw[Db hil,Option.bind_some,write_eq (by omega),Option.bind_some,Az (by omega)]
        exact Ok.some (by simp[ints])
      have htake:C8 (l.take (i+1))=C8 (l.take i)++(if escs l[i] then [92,l[i]] else [l[i]]):=by
        rw[List.take_succ_eq_append_getElem hil,escL_app]
        simp[C8]
      refine Ok.cond (fun he=>?_) (fun he=>?_)
      · rw[write_eq (by simp;omega),Option.bind_some]
        dsimp only
        have:=fin (C8 (l.take i) ++ [92]) (by simp;omega)
        rw[show ints (C8 (l.take i) ++ [92])=ints (C8 (l.take i)) ++ [92] by simp]at this
        refine Ok.mono this ?_
        rintro q rfl
        refine⟨k - 1,by omega,i+1,by omega,?_⟩
        rw[htake,he]
        simp
      · have:=fin (C8 (l.take i)) (by simp;omega)
        refine Ok.mono this ?_
        rintro q rfl
        refine⟨k - 1,by omega,i+1,by omega,?_⟩
        rw[htake,he]
        simp
    · have:i=l.length:=by have:=of_decide_eq_false h;omega
      subst this
      rw[List.take_length]
      exact Ok.some rfl
  obtain⟨q,e,rfl⟩:=key
  rw[e,Option.bind_some]
  unfold strings_Builder_String
  rw[Option.bind_some,byS_ints]
theorem escape_spec (l : List UInt8) (hl : l.length ≤ 100000) : spec_l3Escaped (bA l) (bA [44, 92]) = some (bA (  C8 l)) := by
  unfold spec_l3Escaped
  have key:Ok (loopO (spec_l3Escaped_l1 (bA l) (bA [44,92])) ([],0)) fun q=>q=ints (C8 l):=by
    refine Ok.loop (fun k s=>∃ i:Nat,i+k=l.length∧s=(ints (C8 (l.take i)),(i:Int))) ?_ (n:=l.length) ⟨0,by omega,rfl⟩
    rintro k s ⟨i,hi,rfl⟩
    unfold spec_l3Escaped_l1
    dsimp only
    rw[Cd]
    refine Ok.cond (fun h=>?_) (fun h=>?_)
    · have hil:i<l.length:=by have:=of_decide_eq_true h;omega
      have hlen:=(escL_len (l.take i)).2
      have htk:(l.take i).length≤i:=by simp;omega
      have htake:C8 (l.take (i+1))=C8 (l.take i)++(if escs l[i] then [92,l[i]] else [l[i]]):=by
        rw[List.take_succ_eq_append_getElem hil,escL_app]
        simp[C8]
      have hin:loopO (spec_l3Escaped_l2 (bA l) (bA [44,92]) (i:Int)) (ints (C8 (l.take i)),0)=some (ints (C8 (l.take i))++(if escs l[i] then [92] else [])):=by
        have s44:Cr (bA [44,92]) 0=some 44:=rfl
        have s92:Cr (bA [44,92]) 1=some 92:=rfl
        have e44:(((l[i].toNat:Nat):Int)==44)=decide (l[i]=44):=u8_eq (n:=44) (by omega)
        have st0:∀ m:List Int,m.length<4294967295→spec_l3Escaped_l2 (bA l) (bA [44,92]) (i:Int) (m,0)=some (.inl (m++(if l[i]=44 then [92] else []),1)):=fun m hm=>by
          unfold spec_l3Escaped_l2
          dsimp only
          rw[show decide ((0:Int)<((bA [44,92]).size:Int))=true from rfl,cond_true,Db hil,Option.bind_some,s44,Option.bind_some,e44]
          by_cases h4:l[i]=44
          · rw[decide_eq_true h4,cond_true,B4 (by simp;omega),Option.bind_some,if_pos h4]
            rfl
          · rw[decide_eq_false h4,cond_false,if_neg h4,List.append_nil]
            rfl
        have st1:∀ m:List Int,m.length<4294967295→spec_l3Escaped_l2 (bA l) (bA [44,92]) (i:Int) (m,1)=some (.inl (m++(if l[i]=92 then [92] else []),2)):=fun m hm=>by
          unfold spec_l3Escaped_l2
          dsimp only
          rw[show decide ((1:Int)<((bA [44,92]).size:Int))=true from rfl,cond_true,Db hil,Option.bind_some,s92,Option.bind_some,b92]
          by_cases h4:l[i]=92
          · rw[decide_eq_true h4,cond_true,B4 (by simp;omega),Option.bind_some,if_pos h4]
            rfl
          · rw[decide_eq_false h4,cond_false,if_neg h4,List.append_nil]
            rfl
        have st2:∀ m:List Int,spec_l3Escaped_l2 (bA l) (bA [44,92]) (i:Int) (m,2)=some (.inr m):=fun m=>rfl
        have hil2:(ints (C8 (l.take i))).length≤200000:=by simp;omega
        rw[D1 (st0 _ (by omega)),D1 (st1 _ (by simp only[List.length_append];split <;> simp <;> omega)),Cc (st2 _)]
        unfold escs
        by_cases h4:l[i]=44
        · rw[if_pos h4,if_neg (by rw[h4];decide),decide_eq_true h4]
          simp
        · rw[if_neg h4,decide_eq_false h4]
          by_cases h9:l[i]=92
          · rw[if_pos h9,decide_eq_true h9];simp
          · rw[if_neg h9,decide_eq_false h9];simp
      rw[hin,Option.bind_some]
      rw[Db hil,Option.bind_some,B4 (by simp only[List.length_append,List.length_map];split <;> simp <;> omega),Option.bind_some,Az (by omega)]
      refine Ok.some ⟨k - 1,by omega,i+1,by omega,?_⟩
      rw[htake]
      cases escs l[i] <;> simp
    · have:i=l.length:=by have:=of_decide_eq_false h;omega
      subst this
      rw[List.take_length]
      exact Ok.some rfl
  obtain⟨q,e,rfl⟩:=key
  rw[e,Option.bind_some]
  dsimp only
  rw[byS_ints]

def partT(p:A4):List UInt8:=p.Attr_.data.toList++61 :: C8 p.Text_.data.toList
def Df:List A4→List UInt8
  | []=>[]
  | p :: r=>44 :: partT p++Df r
def Dp:List A4→List UInt8
  | []=>[]
  | p :: r=>partT p++Df r
theorem tailT_app(a b:List A4):Df (a++b)=Df a++Df b:=by
  induction a with
  | nil=>rfl
  | cons p r ih=>rw[List.cons_append,Df,Df,ih];simp
theorem join_name:∀ n:List A4,Lib.join (n.map partT) [44]=Dp n
  | []=>rfl
  | p :: r=>by
    rw[List.map_cons,Lib.join_cons,Dp]
    congr 1
    unfold Lib.joinTail
    induction r with
    | nil=>rfl
    | cons q r ih=>rw[List.map_cons,List.map_cons,List.flatten_cons,Df,← ih];simp
theorem sized_le{a:ByteArray}{lo hi:Int}(h:E3 a lo hi=true):lo≤a.size∧(a.size:Int)≤hi:=by
  unfold E3 at h
  simp at h
  omega
theorem good_le{a:ByteArray}(h:Ch a=true):1≤a.size∧a.size≤30:=by
  unfold Ch at h
  simp only[Bool.and_eq_true,Bool.not_eq_true',Bool.or_eq_false_iff,decide_eq_false_iff_not]at h
  omega
theorem partT_len{p:A4}(h:Du p=true):(partT p).length≤151:=by
  unfold Du at h
  simp only[Bool.and_eq_true]at h
  have h1:=(good_le h.1).2
  have h2:=(sized_le h.2.1).2
  have h3:=(escL_len p.Text_.data.toList).2
  have h4:=Ck p.Attr_
  have h5:=Ck p.Text_
  unfold partT
  rw[List.length_append,List.length_cons]
  omega
theorem nameOk_all{n:List A4}(h:D7 n=true):n.length≤8∧∀ p,p∈n→Du p=true:=by
  unfold D7 at h
  simp only[Bool.and_eq_true,decide_eq_true_eq,List.all_eq_true]at h
  exact⟨by omega,h.2⟩
theorem tailT_len:∀ n:List A4,(∀ p,p∈n→Du p=true)→(Df n).length≤152*n.length
  | [],_=>by simp[Df]
  | p :: r,h=>by
    have h1:=partT_len (h p (by simp))
    have h2:=tailT_len r fun q hq=>h q (by simp[hq])
    rw[Df]
    simp only[List.cons_append,List.length_cons,List.length_append]
    omega
theorem part_text{p:A4}(h:Du p=true){esc:ByteArray→ByteArray→Option ByteArray}(he:∀ l:List UInt8,l.length≤100000→esc (bA l) (bA [44,92])=some (bA (C8 l))) :
    ∃ s,cat p.Attr_ (ByteArray.mk #[61])=some s∧esc p.Text_ (ByteArray.mk #[44,92])=some (bA (C8 p.Text_.data.toList))∧cat s (bA (C8 p.Text_.data.toList))=some (bA (partT p)):=by
  have hlen:=partT_len h
  unfold Du at h
  simp only[Bool.and_eq_true]at h
  have h2:=(sized_le h.2.1).2
  have h5:=Ck p.Text_
  have h4:=Ck p.Attr_
  unfold partT at hlen ⊢
  simp only[List.length_append,List.length_cons]at hlen
  refine⟨bA (p.Attr_.data.toList ++ [61]),?_,?_,?_⟩
  · rw[bA_of p.Attr_,bA_list,show ByteArray.mk #[61]=bA [61] from rfl,cat_bA (by simp;omega)]
  · have:=he p.Text_.data.toList (by omega)
    rw[← bA_of]at this
    exact this
  · rw[cat_bA (by simp;omega)]
    simp
theorem nameText_impl (n : List     A4) (hz : szN n) : impl_NameText n = some (if     D7 n then bA (   Dp n) else e0) := by
  unfold impl_NameText
  rw[name_impl n hz,Option.bind_some]
  cases hn:D7 n with
  | false=>rfl
  | true =>
    obtain⟨h8,hp⟩:=nameOk_all hn
    rw[Bool.not_true,cond_false,if_pos rfl]
    have key:Ok (loopO (impl_NameText_l1 n) ([],0)) fun q=>q=n.map fun p=>bA (partT p):=by
      refine Ok.loop (fun k s=>∃ i:Nat,i+k=n.length∧s=((n.take i).map (fun p=>bA (partT p)),(i:Int))) ?_ (n:=n.length) ⟨0,by omega,rfl⟩
      rintro k s ⟨i,hi,rfl⟩
      unfold impl_NameText_l1
      dsimp only
      refine Ok.cond (fun h=>?_) (fun h=>?_)
      · have hil:i<n.length:=by have:=of_decide_eq_true h;omega
        obtain⟨s,e1,e2,e3⟩:=part_text (hp n[i] (List.getElem_mem hil)) escape_impl
        rw[Bk,List.getElem?_eq_getElem hil,Option.bind_some,e1,Option.bind_some,e2,Option.bind_some,e3,Option.bind_some,B4 (by simp;omega),Option.bind_some,Az (by omega)]
        refine Ok.some ⟨k - 1,by omega,i+1,by omega,?_⟩
        rw[List.take_succ_eq_append_getElem hil,List.map_append]
        rfl
      · have:i=n.length:=by have:=of_decide_eq_false h;omega
        subst this
        rw[List.take_length]
        exact Ok.some rfl
    obtain⟨q,e,rfl⟩:=key
    rw[e,Option.bind_some]
    dsimp only
    have hj:joinL (n.map fun p=>bA (partT p)) (ByteArray.mk #[44])=Dp n:=by
      unfold joinL
      rw[List.map_map,← join_name]
      rfl
    have hlen:(Dp n).length≤2000:=by
      cases n with
      | nil=>simp[Dp]
      | cons p r =>
        have h1:=partT_len (hp p (by simp))
        have h2:=tailT_len r fun q hq=>hp q (by simp[hq])
        simp only[List.length_cons]at h8
        rw[Dp,List.length_append]
        omega
    unfold joinO
    rw[hj,if_pos (by simp;omega),Option.bind_some]
    rfl
theorem nameText_spec (n : List     A4) (hz : szN n) : spec_NameText n = some (if     D7 n then bA (   Dp n) else e0) := by
  unfold spec_NameText
  rw[name_spec n hz,Option.bind_some]
  cases hn:D7 n with
  | false=>rfl
  | true =>
    obtain⟨h8,hp⟩:=nameOk_all hn
    rw[Bool.not_true,cond_false,if_pos rfl]
    have hT:∀ i,i≤n.length→(Dp (n.take i)).length≤2000:=fun i hi=>by
      have hp':∀ p,p∈n.take i→Du p=true:=fun p h=>hp p (List.mem_of_mem_take h)
      have hl:(n.take i).length≤8:=by simp;omega
      generalize n.take i=m at *
      cases m with
      | nil=>simp[Dp]
      | cons p r =>
        have h1:=partT_len (hp' p (by simp))
        have h2:=tailT_len r fun q hq=>hp' q (by simp[hq])
        simp only[List.length_cons]at hl
        rw[Dp,List.length_append]
        omega
    have hsnoc:∀ i (hi:i<n.length),Dp (n.take (i+1))=Dp (n.take i)++((if 0<i then [44] else [])++partT n[i]):=fun i hi=>by
      rw[List.take_succ_eq_append_getElem hi]
      cases hm:n.take i with
      | nil =>
        have:i=0:=by
          have:=congrArg List.length hm
          simp at this
          rcases this with h | h
          · exact h
          · subst h;simp at hi
        subst this
        simp[Dp,Df]
      | cons p r =>
        have h0:0<i:=by
          rcases Nat.eq_zero_or_pos i with h | h
          · subst h;simp at hm
          · exact h
        rw[if_pos h0,List.cons_append,Dp,Dp,tailT_app]
        simp[Df]
    have key:Ok (loopO (spec_NameText_l1 n) (e0,0)) fun q=>q=bA (Dp n):=by
      refine Ok.loop (fun k s=>∃ i:Nat,i+k=n.length∧s=(bA (Dp (n.take i)),(i:Int))) ?_ (n:=n.length) ⟨0,by omega,by simp[Dp];rfl⟩
      rintro k s ⟨i,hi,rfl⟩
      unfold spec_NameText_l1
      dsimp only
      refine Ok.cond (fun h=>?_) (fun h=>?_)
      · have hil:i<n.length:=by have:=of_decide_eq_true h;omega
        obtain⟨s,e1,e2,e3⟩:=part_text (hp n[i] (List.getElem_mem hil)) escape_spec
        have hpl:=partT_len (hp n[i] (List.getElem_mem hil))
        have hTi:=hT i (by omega)
        rw[Bk,List.getElem?_eq_getElem hil,Option.bind_some]
        have fin:∀ m:List UInt8,m.length≤3000→Ok (spec_NameText_j1 (i:Int) n[i] (bA m)) fun q=>q = .inl (bA (m++partT n[i]),((i+1:Nat):Int)):=fun m hm=>by
          unfold spec_NameText_j1
          rw[e1,Option.bind_some,e2,Option.bind_some,e3,Option.bind_some,cat_bA (by omega),Option.bind_some,Az (by omega)]
          exact Ok.some rfl
        refine Ok.cond (fun h0=>?_) (fun h0=>?_)
        · have h0':0<i:=by have:=of_decide_eq_true h0;omega
          rw[show ByteArray.mk #[44]=bA [44] from rfl,cat_bA (by simp;omega),Option.bind_some]
          refine Ok.mono (fin _ (by simp;omega)) ?_
          rintro q rfl
          refine⟨k - 1,by omega,i+1,by omega,?_⟩
          rw[hsnoc i hil,if_pos h0',List.append_assoc]
        · have h0':¬ 0<i:=by have:=of_decide_eq_false h0;omega
          refine Ok.mono (fin _ (by omega)) ?_
          rintro q rfl
          refine⟨k - 1,by omega,i+1,by omega,?_⟩
          rw[hsnoc i hil,if_neg h0',List.nil_append]
      · have:i=n.length:=by have:=of_decide_eq_false h;omega
        subst this
        rw[List.take_length]
        exact Ok.some rfl
    obtain⟨q,e,rfl⟩:=key
    rw[e,Option.bind_some]
end Go.G36.FR
namespace Go.G36.FR
set_option linter.all false
open Go Go.G36 Go.Proofs Go.G36.MT

theorem subS_bA{l:List UInt8}{a b:Nat}(h:a≤b)(hb:b≤l.length):subS (bA l) ((a:Nat):Int) ((b:Nat):Int)=some (bA ((l.drop a).take (b - a))):=by
  unfold subS
  rw[if_pos ⟨by omega,by omega,by rw[Cd];omega⟩]
  congr 1
  apply ByteArray.ext
  rw[Int.toNat_natCast,Int.toNat_natCast]
  apply Array.toList_inj.1
  show ((bA l).extract a b).data.toList=((l.drop a).take (b - a)).toArray.toList
  rw[Lib.extract_data,bA_list]
theorem indexByte_at:∀ {X:List UInt8} {Y:List UInt8},61 ∉ X→Lib.indexByte (X++61 :: Y) 61=(X.length:Int)
  | [],Y,_=>by simp[Lib.indexByte]
  | a :: X,Y,h=>by
    simp only[List.mem_cons,not_or]at h
    have ih:=indexByte_at (Y:=Y) h.2
    have ha:a≠61:=fun e=>h.1 e.symm
    simp only[List.cons_append,Lib.indexByte,ih]
    simp[ha]
theorem cut_eq{X Y:List UInt8}(h:61 ∉ X):Lib.cut (X++61 :: Y) [61]=(X,Y,true):=by
  unfold Lib.cut
  rw[Lib.index_one,indexByte_at h,if_pos (by omega)]
  simp
theorem indexByte_no:∀ {X:List UInt8},61 ∉ X→Lib.indexByte X 61 = -1
  | [],_=>rfl
  | a :: X,h=>by
    simp only[List.mem_cons,not_or]at h
    have ih:=indexByte_no h.2
    have ha:a≠61:=fun e=>h.1 e.symm
    simp[Lib.indexByte,ih,ha]
theorem cut_no{X:List UInt8}(h:61 ∉ X):Lib.cut X [61]=(X,[],false):=by
  unfold Lib.cut
  rw[Lib.index_one,indexByte_no h,if_neg (by omega)]
theorem split61:∀ l:List UInt8,61 ∉ l∨∃ X Y,l=X++61 :: Y∧61 ∉ X
  | []=>.inl (by simp)
  | a :: l => by
    by_cases ha:a=61
    · exact .inr ⟨[],l,by rw[ha];rfl,by simp⟩
    · rcases split61 l with h | ⟨X,Y,h1,h2⟩
      · exact .inl (by simp;exact⟨fun e=>ha e.symm,h⟩)
      · exact .inr ⟨a :: X,Y,by rw[h1];rfl,by simp;exact⟨fun e=>ha e.symm,h2⟩⟩
theorem first61{X Y X' Y':List UInt8}(h:X++61 :: Y=X' ++ 61 :: Y')(hx:61 ∉ X)(hx':61 ∉ X'):X=X'∧Y=Y':=by
  induction X generalizing X' with
  | nil =>
    cases X' with
    | nil=>simp at h;exact⟨rfl,h⟩
    | cons a X' =>
      simp only[List.nil_append,List.cons_append,List.cons.injEq]at h
      rw[← h.1]at hx'
      simp at hx'
  | cons a X ih =>
    cases X' with
    | nil =>
      simp only[List.nil_append,List.cons_append,List.cons.injEq]at h
      rw[h.1]at hx
      simp at hx
    | cons a' X' =>
      simp only[List.cons_append,List.cons.injEq]at h
      simp only[List.mem_cons,not_or]at hx hx'
      obtain⟨h1,h2⟩:=ih h.2 hx.2 hx'.2
      exact⟨by rw[h.1,h1],h2⟩
theorem attr_no{p:A4}(h:Du p=true):61 ∉ p.Attr_.data.toList:=fun hm=>by
  unfold Du Ch at h
  simp only[Bool.and_eq_true]at h
  have:=List.all_eq_true.1 h.1.2 61 hm
  exact absurd this (by decide)
def RN(l:List UInt8):Prop:=l = []∨(l.length≤2000∧∃ n,n≠[]∧D7 n=true∧l=Dp n)
def Go1(n:List A4)(l:List UInt8)(i:Nat)(at_:ByteArray)(done:List A4)(m:List UInt8)(tx:Bool):Prop:=∃ p rest,n=done++p :: rest ∧
  ((tx=false∧∃ y,p.Attr_.data.toList=m++y∧l.drop i=y++(61 :: (C8 p.Text_.data.toList++Df rest))) ∨
   (tx=true∧at_=p.Attr_∧∃ y,p.Text_.data.toList=m++y∧l.drop i=C8 y++Df rest))
def Nm(n:List A4)(l:List UInt8):Prop:=n≠[]∧D7 n=true∧l=Dp n
theorem tail_head{rest:List A4}{c:UInt8}{r:List UInt8}(h:Df rest=c :: r):c=44∧∃ p q,rest=p :: q∧r=p.Attr_.data.toList++(61 :: (C8 p.Text_.data.toList++Df q)):=by
  cases rest with
  | nil=>cases h
  | cons p q =>
    rw[Df]at h
    simp only[List.cons_append,List.cons.injEq]at h
    refine⟨h.1.symm,p,q,rfl,?_⟩
    rw[← h.2]
    simp[partT]
theorem esc_head{y:List UInt8}{rest:List A4}{c:UInt8}{r:List UInt8}(h:C8 y++Df rest=c :: r) :
    (y = []∧c=44∧∃ p q,rest=p :: q∧r=p.Attr_.data.toList++(61 :: (C8 p.Text_.data.toList++Df q))) ∨
    (∃ d y',y=d :: y'∧escs d=true∧c=92∧r=d :: (C8 y' ++ Df rest))∨(∃ y',y=c :: y'∧escs c=false∧r=C8 y' ++ Df rest):=by
  cases y with
  | nil=>exact .inl ⟨rfl,tail_head h⟩
  | cons d y' =>
    rw[C8]at h
    cases hd:escs d with
    | true =>
      rw[hd,if_pos rfl]at h
      simp only[List.cons_append,List.nil_append,List.cons.injEq]at h
      exact .inr (.inl ⟨d,y',rfl,hd,h.1.symm,h.2.symm⟩)
    | false =>
      rw[hd,if_neg (by decide)]at h
      simp only[List.cons_append,List.nil_append,List.cons.injEq]at h
      obtain⟨rfl,h2⟩:=h
      exact .inr (.inr ⟨y',rfl,hd,h2.symm⟩)
theorem drop_cons{l:List UInt8}{i:Nat}{c:UInt8}{r:List UInt8}(h:l.drop i=c :: r)(hi:i<l.length):l[i]=c∧l.drop (i+1)=r:=by
  rw[List.drop_eq_getElem_cons hi]at h
  injection h with h1 h2
  exact⟨h1,h2⟩
theorem part_eta{a t:ByteArray}{p:A4}(h1:a=p.Attr_)(h2:t=p.Text_):(⟨a,t⟩:A4)=p:=by subst h1;subst h2;rfl
theorem b61(b:UInt8):(((b.toNat:Nat):Int)==61)=decide (b=61):=u8_eq (n:=61) (by omega)
theorem b44(b:UInt8):(((b.toNat:Nat):Int)==44)=decide (b=44):=u8_eq (n:=44) (by omega)
def small(n:List A4)(k:Nat):Prop:=n.length≤k∧∀ p,p∈n→p.Attr_.size≤2000∧p.Text_.size≤2000
theorem small.snoc{n:List A4}{k:Nat}(h:small n k){p:A4}(h1:p.Attr_.size≤2000)(h2:p.Text_.size≤2000):small (n ++ [p]) (k+1):=by
  refine⟨by have:=h.1;simp;omega,fun q hq=>?_⟩
  rcases List.mem_append.1 hq with hq | hq
  · exact h.2 q hq
  · simp at hq;subst hq;exact⟨h1,h2⟩
theorem small.mono{n:List A4}{k k':Nat}(h:small n k)(hk:k≤k'):small n k':=⟨Nat.le_trans h.1 hk,h.2⟩
theorem small.sz{n:List A4}{k:Nat}(h:small n k)(hk:k≤100000):szN n:=⟨by have:=h.1;omega,fun p hp=>⟨by have:=(h.2 p hp).1;omega,by have:=(h.2 p hp).2;omega⟩⟩
theorem tl_nil(l:List UInt8):((bA l).toList==e0.toList)=decide (l = []):=by
  rw[bA_toList,e0_toList]
  cases l <;> rfl
theorem last_ok{l:List UInt8}(hne:l≠[])(h2000:l.length≤2000)(n:List A4)(hn:n≠[]):((if D7 n then bA (Dp n) else e0).toList==(bA l).toList)=true→RN l:=fun h=>by
  cases hok:D7 n with
  | true =>
    rw[hok,if_pos rfl,bA_toList,bA_toList,beq_iff_eq]at h
    exact .inr ⟨h2000,n,hn,hok,h.symm⟩
  | false =>
    rw[hok,if_neg (by decide),e0_toList,bA_toList,beq_iff_eq]at h
    exact absurd h.symm hne
set_option maxHeartbeats 1000000 in
theorem readName_spec (l : List UInt8) (hl : l.length ≤ 100000) : ∃ ps b, spec_ReadName (bA l) = some (ps, b) ∧ (b = true ↔ RN l) := by
  unfold spec_ReadName
  rw[tl_nil,Cd]
  by_cases hne:l = []
  · rw[decide_eq_true hne]
    exact⟨_,_,rfl,fun _=>.inl hne,fun _=>rfl⟩
  rw[decide_eq_false hne,cond_false]
  rcases Nat.lt_or_ge 2000 l.length with h2000 | h2000
  · rw[decide_eq_true (by omega)]
    refine⟨_,_,rfl,(fun h=>by cases h),?_⟩
    rintro (h | ⟨h,_⟩)
    · exact absurd h hne
    · omega
  rw[decide_eq_false (by omega),cond_false]
  have key : Ok (loopO (spec_ReadName_l1 (bA l)) (⟨e0, e0⟩, [], [], false, 0)) fun q => Sum.elim
      (fun s:A4×List A4×List Int×Bool=>∃ m,s.2.2.1=ints m∧m.length≤2000∧s.1.Attr_.size≤2000∧small s.2.1 2000∧∀ n,Nm n l→n=s.2.1 ++ [⟨s.1.Attr_,bA m⟩]∧s.2.2.2=true)
      (fun q=>q.2=false∧∀ n,¬ Nm n l) q:=by
    refine Ok.loop (fun k s=>∃ (i:Nat) (m:List UInt8),i+k=l.length∧s.2.2.2.2=(i:Int)∧s.2.2.1=ints m∧m.length≤i∧s.1.Attr_.size≤2000∧small s.2.1 i∧∀ n,Nm n l→Go1 n l i s.1.Attr_ s.2.1 m s.2.2.2.1) ?_ (n:=l.length)
      ⟨0,[],by omega,rfl,rfl,by simp,Nat.zero_le _,⟨by simp,fun p hp=>by cases hp⟩,?_⟩
    · rintro k ⟨b,done,cs,tx,v⟩ ⟨i,m,hik,hv,hcs,hm,hb,hsm,hG⟩
      dsimp only at hv hcs hb hsm hG
      subst hv;subst hcs
      unfold spec_ReadName_l1
      dsimp only
      rw[Cd]
      refine Ok.cond (fun h=>?_) (fun h=>?_)
      · have hi : i < l.length := by have := of_decide_eq_true h; omega
        rw[Db hi,Option.bind_some,b61,b44,b92]
        refine Ok.cond (fun c1=>?_) (fun c1=>?_)
        · rw[Bool.and_eq_true,Bool.not_eq_true',decide_eq_true_iff]at c1
          obtain⟨htx,hc⟩:=c1
          unfold spec_ReadName_j1
          rw[byS_ints,Az (by omega)]
          refine Ok.some ⟨k - 1,by omega,i+1,[],by omega,by simp,rfl,by simp,by show (bA m).size≤2000;rw[Cd];omega,hsm.mono (by omega),fun n hn=>?_⟩
          obtain⟨p,rest,e1,⟨_,y,e2,e3⟩ | ⟨e2,_⟩⟩:=hG n hn
          · cases y with
            | nil =>
              rw[List.nil_append]at e3
              rw[List.append_nil]at e2
              obtain⟨_,e4⟩:=drop_cons e3 hi
              exact⟨p,rest,e1,.inr ⟨rfl,by rw[bA_of p.Attr_,e2],_,rfl,e4⟩⟩
            | cons d y' =>
              obtain⟨e4,_⟩:=drop_cons e3 hi
              have hp:=(nameOk_all hn.2.1).2 p (by rw[e1];simp)
              exact absurd (show 61∈p.Attr_.data.toList by rw[e2];simp;right;left;rw[← e4,hc]) (attr_no hp)
          · rw[htx]at e2;cases e2
        · refine Ok.cond (fun c2=>?_) (fun c2=>?_)
          · rw[Bool.and_eq_true,decide_eq_true_iff]at c2
            obtain⟨htx,hc⟩:=c2
            rw[B4 (by have:=hsm.1;simp;omega),Option.bind_some]
            unfold spec_ReadName_j1
            rw[byS_ints,Az (by omega)]
            have hbm:(bA m).size≤2000:=by rw[Cd];omega
            refine Ok.some ⟨k - 1,by omega,i+1,[],by omega,by simp,rfl,by simp,hb,hsm.snoc hb hbm,fun n hn=>?_⟩
            obtain⟨p,rest,e1,⟨e2,_⟩ | ⟨_,e2,y,e3,e4⟩⟩:=hG n hn
            · rw[htx]at e2;cases e2
            · rw[List.drop_eq_getElem_cons hi]at e4
              rcases esc_head e4.symm with ⟨rfl,_,p',q,rfl,e5⟩ | ⟨d,y',rfl,_,e5,_⟩ | ⟨y',rfl,e5,_⟩
              · rw[List.append_nil]at e3
                refine⟨p',q,?_,.inl ⟨rfl,_,rfl,e5⟩⟩
                rw[e1,part_eta (p:=p) e2 (by rw[bA_of p.Text_,e3])]
                simp
              · rw[hc]at e5;exact absurd e5 (by decide)
              · rw[hc]at e5;exact absurd e5 (by decide)
          · refine Ok.cond (fun c3=>?_) (fun c3=>?_)
            · rw[Bool.and_eq_true,decide_eq_true_iff]at c3
              obtain⟨htx,hc⟩:=c3
              have hstep:∀ n,Nm n l→∃ p rest d y',n=done++p :: rest∧b.Attr_=p.Attr_∧p.Text_.data.toList=m++d :: y'∧l.drop (i+1)=d :: (C8 y' ++ Df rest):=fun n hn=>by
                obtain⟨p,rest,e1,⟨e2,_⟩ | ⟨_,e2,y,e3,e4⟩⟩:=hG n hn
                · rw[htx]at e2;cases e2
                · rw[List.drop_eq_getElem_cons hi]at e4
                  rcases esc_head e4.symm with ⟨rfl,e5,_⟩ | ⟨d,y',rfl,_,_,e5⟩ | ⟨y',rfl,e5,_⟩
                  · rw[hc]at e5;exact absurd e5 (by decide)
                  · exact⟨p,rest,d,y',e1,e2,e3,e5⟩
                  · rw[hc]at e5;exact absurd e5 (by decide)
              rw[Az (by omega)]
              refine Ok.cond (fun c4=>?_) (fun c4=>?_)
              · refine Ok.some ⟨rfl,fun n hn=>?_⟩
                obtain⟨p,rest,d,y',_,_,_,e5⟩:=hstep n hn
                rw[List.drop_of_length_le (by simp at c4;omega)]at e5
                cases e5
              · have hi2:i+1<l.length:=by simp at c4;omega
                have hg:Cr (bA l) ((i:Int)+1)=some ((l[i+1].toNat:Nat):Int):=by have:=Db hi2;simpa using this
                rw[hg,Option.bind_some,B4 (by simp;omega),Option.bind_some]
                unfold spec_ReadName_j1
                refine Ok.some ⟨k - 2,by omega,i+1+1,m ++ [l[i+1]],by omega,?_,by simp,by simp;omega,hb,hsm.mono (by omega),fun n hn=>?_⟩
                · have:=Az (i:=i+1) (by omega)
                  simpa using this
                · obtain⟨p,rest,d,y',e1,e2,e3,e5⟩:=hstep n hn
                  obtain⟨e6,e7⟩:=drop_cons e5 hi2
                  exact⟨p,rest,e1,.inr ⟨htx,e2,y',by rw[e3,e6];simp,e7⟩⟩
            · rw[B4 (by simp;omega),Option.bind_some]
              unfold spec_ReadName_j1
              rw[Az (by omega)]
              refine Ok.some ⟨k - 1,by omega,i+1,m ++ [l[i]],by omega,by simp,by simp,by simp;omega,hb,hsm.mono (by omega),fun n hn=>?_⟩
              obtain⟨p,rest,e1,⟨e2,y,e3,e4⟩ | ⟨e2,e2',y,e3,e4⟩⟩:=hG n hn
              · subst e2
                have hne61:l[i]≠61:=by simpa using c1
                cases y with
                | nil=>exact absurd (drop_cons (by simpa using e4) hi).1 hne61
                | cons d y' =>
                  obtain⟨e5,e6⟩:=drop_cons e4 hi
                  exact⟨p,rest,e1,.inl ⟨rfl,y',by rw[e3,e5];simp,e6⟩⟩
              · subst e2
                have hne44:l[i]≠44:=by simpa using c2
                have hne92:l[i]≠92:=by simpa using c3
                rw[List.drop_eq_getElem_cons hi]at e4
                rcases esc_head e4.symm with ⟨rfl,e5,_⟩ | ⟨d,y',rfl,_,e5,_⟩ | ⟨y',rfl,_,e5⟩
                · exact absurd e5 hne44
                · exact absurd e5 hne92
                · exact⟨p,rest,e1,.inr ⟨rfl,e2',y',by rw[e3];simp,e5⟩⟩
      · have hi:i=l.length:=by have:=of_decide_eq_false h;omega
        refine Ok.some ⟨m,rfl,by omega,hb,hsm.mono (by omega),fun n hn=>?_⟩
        obtain⟨p,rest,e1,⟨e2,y,e3,e4⟩ | ⟨e2,e2',y,e3,e4⟩⟩:=hG n hn
        · rw[hi,List.drop_length]at e4
          simp at e4
        · rw[hi,List.drop_length]at e4
          have hy:y = []:=by
            cases y with
            | nil=>rfl
            | cons d y'=>rw[C8]at e4;split at e4 <;> simp at e4
          subst hy
          have hr:rest = []:=by
            cases rest with
            | nil=>rfl
            | cons q r=>simp[C8,Df]at e4
          subst hr
          rw[List.append_nil]at e3
          exact⟨by rw[e1,part_eta (p:=p) e2' (by rw[bA_of p.Text_,e3])],e2⟩
    · intro n hn
      obtain⟨h1,h2,h3⟩:=hn
      cases n with
      | nil=>exact absurd rfl h1
      | cons p rest=>exact⟨p,rest,rfl,.inl ⟨rfl,_,rfl,by rw[h3];simp[Dp,partT]⟩⟩
  obtain⟨q,e,hq⟩:=key
  rw[e,Option.bind_some]
  rcases q with ⟨b,done,cs,tx⟩ | ⟨ps,b⟩
  · obtain⟨m,h1,h2,h3,h4,h5⟩:=hq
    dsimp only at h1 h3 h4 h5 ⊢
    subst h1
    have hbm:(bA m).size≤2000:=by rw[Cd];omega
    have hs:=h4.snoc (p:=⟨b.Attr_,bA m⟩) h3 hbm
    rw[byS_ints,B4 (by have:=h4.1;simp;omega),Option.bind_some,nameText_spec _ (hs.sz (by omega)),C3,Option.bind_some]
    cases tx with
    | false =>
      refine⟨_,_,rfl,(fun h=>by cases h),?_⟩
      rintro (h | ⟨_,n,hn⟩)
      · exact absurd h hne
      · exact absurd (h5 n hn).2 (by decide)
    | true =>
      simp only[Bool.not_true,Bool.not_false,cond_true,Bool.false_or]
      cases hc:((if D7 (done ++ [⟨b.Attr_,bA m⟩]) then bA (Dp (done ++ [⟨b.Attr_,bA m⟩])) else e0).toList==(bA l).toList) with
      | true=>exact⟨_,_,rfl,fun _=>last_ok hne h2000 _ (by simp) hc,fun _=>rfl⟩
      | false =>
        refine⟨_,_,rfl,(fun h=>by cases h),?_⟩
        rintro (h | ⟨_,n,hn⟩)
        · exact absurd h hne
        · have:=(h5 n hn).1
          rw[← this,hn.2.1,if_pos rfl,← hn.2.2]at hc
          simp at hc
  · obtain⟨h1,h2⟩:=hq
    dsimp only at h1
    subst h1
    refine⟨_,_,rfl,(fun h=>by cases h),?_⟩
    rintro (h | ⟨_,n,hn⟩)
    · exact absurd h hne
    · exact absurd hn (h2 n)
end Go.G36.FR
namespace Go.G36.FR
set_option linter.all false
open Go Go.G36 Go.Proofs Go.G36.MT

def InR (Y : List UInt8) (a : ByteArray) (q : (    A4 × Bool × Int) ⊕ (List     A4 × Bool)) : Prop :=
  Sum.elim (fun s=>∃ (v:Nat) (m:List UInt8),s.2.2=(v:Int)∧v≤Y.length∧s.1=⟨a,bA m⟩∧m.length≤v∧(s.2.1=true→v<Y.length) ∧
      ∀ (x:List UInt8) (rest:List A4),Y=C8 x++Df rest→m=x∧((s.2.1=true∧∃ p q,rest=p :: q∧Y.drop (v+1)=Dp (p :: q))∨(s.2.1=false∧rest = [])))
    (fun q=>q.2=false∧∀ (x:List UInt8) (rest:List A4),Y≠C8 x++Df rest) q
set_option maxHeartbeats 1000000 in
theorem part_reader (Y : List UInt8) (hY : Y.length ≤ 2000) (a : ByteArray) : Ok (loopO (impl_ReadName_l2 (bA Y)) (⟨a, e0⟩, 0)) (InR Y a) := by
  refine Ok.loop (fun k s=>∃ (i:Nat) (m:List UInt8),i+k=Y.length∧s.2=(i:Int)∧s.1=⟨a,bA m⟩∧m.length≤i∧∀ x rest,Y=C8 x++Df rest→∃ y,x=m++y∧Y.drop i=C8 y++Df rest) ?_ (n:=Y.length)
    ⟨0,[],by omega,rfl,rfl,by simp,fun x rest h=>⟨x,rfl,h⟩⟩
  rintro k ⟨b,v⟩ ⟨i,m,hik,hv,hb,hm,hG⟩
  dsimp only at hv hb
  subst hv;subst hb
  unfold impl_ReadName_l2
  dsimp only
  rw[Cd]
  refine Ok.cond (fun h=>?_) (fun h=>?_)
  · have hi:i<Y.length:=by have:=of_decide_eq_true h;omega
    rw[Db hi,Option.bind_some,b44]
    have step:∀ j (hj:j<Y.length),i≤j→Ok (impl_ReadName_j1 (bA Y) ⟨a,bA m⟩ (j:Int)) fun q=>q = .inl (⟨a,bA (m ++ [Y[j]])⟩,((j+1:Nat):Int)):=fun j hj hij=>by
      unfold impl_ReadName_j1
      rw[Az (by omega),show ((j:Int)+1)=((j+1:Nat):Int) by simp,subS_bA (by omega) (by omega),Option.bind_some,List.drop_eq_getElem_cons hj,show j+1 - j=1 by omega]
      dsimp only
      rw[cat_bA (by simp;omega),Option.bind_some]
      exact Ok.some rfl
    refine Ok.cond (fun c1=>?_) (fun c1=>?_)
    · have hc:=of_decide_eq_true c1
      refine Ok.some ?_
      refine⟨i,m,rfl,by omega,rfl,hm,fun _=>hi,fun x rest hx=>?_⟩
      obtain⟨y,e1,e2⟩:=hG x rest hx
      rw[List.drop_eq_getElem_cons hi]at e2
      rcases esc_head e2.symm with ⟨rfl,_,p',q,rfl,e5⟩ | ⟨d,y',rfl,_,e5,_⟩ | ⟨y',rfl,e5,_⟩
      · exact⟨by rw[e1];simp,.inl ⟨rfl,p',q,rfl,by rw[e5];simp[Dp,partT]⟩⟩
      · rw[hc]at e5;exact absurd e5 (by decide)
      · rw[hc]at e5;exact absurd e5 (by decide)
    · have hne44:Y[i]≠44:=of_decide_eq_false c1
      rw[Option.bind_some,b92]
      refine Ok.cond (fun c2=>?_) (fun c2=>?_)
      · have hc:=of_decide_eq_true c2
        have hstep:∀ x rest,Y=C8 x++Df rest→∃ d y',x=m++d :: y'∧Y.drop (i+1)=d :: (C8 y' ++ Df rest):=fun x rest hx=>by
          obtain⟨y,e1,e2⟩:=hG x rest hx
          rw[List.drop_eq_getElem_cons hi]at e2
          rcases esc_head e2.symm with ⟨rfl,e5,_⟩ | ⟨d,y',rfl,_,_,e5⟩ | ⟨y',rfl,e5,_⟩
          · exact absurd e5 hne44
          · exact⟨d,y',e1,e5⟩
          · rw[hc]at e5;exact absurd e5 (by decide)
        rw[Az (by omega)]
        refine Ok.cond (fun c3=>?_) (fun c3=>?_)
        · refine Ok.some ?_
          refine⟨rfl,fun x rest hx=>?_⟩
          obtain⟨d,y',_,e5⟩:=hstep x rest hx
          rw[List.drop_of_length_le (by simp at c3;omega)]at e5
          cases e5
        · have hi2:i+1<Y.length:=by simp at c3;omega
          rw[show ((i:Int)+1)=((i+1:Nat):Int) by simp]
          refine Ok.mono (step (i+1) hi2 (by omega)) ?_
          rintro q rfl
          refine⟨k - 2,by omega,i+1+1,m ++ [Y[i+1]],by omega,rfl,rfl,by simp;omega,fun x rest hx=>?_⟩
          obtain⟨d,y',e1,e5⟩:=hstep x rest hx
          obtain⟨e6,e7⟩:=drop_cons e5 hi2
          exact⟨y',by rw[e1,e6];simp,e7⟩
      · have hne92:Y[i]≠92:=of_decide_eq_false c2
        refine Ok.mono (step i hi (Nat.le_refl _)) ?_
        rintro q rfl
        refine⟨k - 1,by omega,i+1,m ++ [Y[i]],by omega,rfl,rfl,by simp;omega,fun x rest hx=>?_⟩
        obtain⟨y,e1,e2⟩:=hG x rest hx
        rw[List.drop_eq_getElem_cons hi]at e2
        rcases esc_head e2.symm with ⟨rfl,e5,_⟩ | ⟨d,y',rfl,_,e5,_⟩ | ⟨y',rfl,_,e5⟩
        · exact absurd e5 hne44
        · exact absurd e5 hne92
        · exact⟨y',by rw[e1];simp,e5⟩
  · have hi:i=Y.length:=by have:=of_decide_eq_false h;omega
    refine Ok.some ?_
    refine⟨i,m,rfl,by omega,rfl,hm,(fun h=>by cases h),fun x rest hx=>?_⟩
    obtain⟨y,e1,e2⟩:=hG x rest hx
    rw[hi,List.drop_length]at e2
    have hy:y = []:=by
      cases y with
      | nil=>rfl
      | cons d y'=>rw[C8]at e2;split at e2 <;> simp at e2
    subst hy
    have hr:rest = []:=by
      cases rest with
      | nil=>rfl
      | cons q r=>simp[C8,Df]at e2
    exact⟨by rw[e1];simp,.inr ⟨rfl,hr⟩⟩
set_option maxHeartbeats 1000000 in
theorem readName_impl (l : List UInt8) (hl : l.length ≤ 100000) : ∃ ps b, impl_ReadName (bA l) = some (ps, b) ∧ (b = true ↔ RN l) := by
  unfold impl_ReadName
  rw[tl_nil,Cd]
  by_cases hne:l = []
  · rw[decide_eq_true hne]
    exact⟨_,_,rfl,fun _=>.inl hne,fun _=>rfl⟩
  rw[decide_eq_false hne,cond_false]
  rcases Nat.lt_or_ge 2000 l.length with h2000 | h2000
  · rw[decide_eq_true (by omega)]
    refine⟨_,_,rfl,(fun h=>by cases h),?_⟩
    rintro (h | ⟨h,_⟩)
    · exact absurd h hne
    · omega
  rw[decide_eq_false (by omega),cond_false]
  have key : Ok (loopO impl_ReadName_l1 ([], bA l, true)) fun q => Sum.elim (fun ps => small ps 3000 ∧ ps ≠ [] ∧ ∀ n, Nm n l → n = ps) (fun q => q.2 = false ∧ ∀ n, ¬ Nm n l) q := by
    refine Ok.loop (fun k s=>∃ t:List UInt8,s.2.1=bA t∧(s.2.2=true∧k=t.length+1∧s.1.length+t.length≤2000∧small s.1 2000∧(∀ n,Nm n l→∃ p rest,n=s.1++p :: rest∧t=Dp (p :: rest)) ∨
      s.2.2=false∧small s.1 3000∧s.1≠[]∧∀ n,Nm n l→n=s.1)) ?_ (n:=l.length+1) ⟨l,rfl,.inl ⟨rfl,rfl,by simpa using h2000,⟨by simp,fun p hp=>by cases hp⟩,fun n hn=>?_⟩⟩
    · rintro k ⟨done,v,more⟩ ⟨t,ht,hI⟩
      dsimp only at ht hI
      subst ht
      unfold impl_ReadName_l1
      dsimp only
      rcases hI with ⟨rfl,hk,hlen,hsm,hG⟩ | ⟨rfl,hsm,hnn,hG⟩
      · have hcut : cutO (bA t) (ByteArray.mk #[61]) = some (bA (Lib.cut t [61]).1, bA (Lib.cut t [61]).2.1, (Lib.cut t [61]).2.2) := by
          unfold cutO
          rw[if_pos (by rw[Cd];omega)]
          rfl
        rw[cond_true,hcut,Option.bind_some]
        dsimp only
        rcases split61 t with hno | ⟨X,Y,rfl,hX⟩
        · rw[cut_no hno]
          refine Ok.some ⟨rfl,fun n hn=>?_⟩
          obtain⟨p,rest,_,e2⟩:=hG n hn
          exact hno (by rw[e2];simp[Dp,partT])
        · rw[cut_eq hX]
          simp only[Bool.not_true,cond_false]
          simp only[List.length_append,List.length_cons]at hlen hk
          have hread:=part_reader Y (by omega) (bA X)
          have hnm:∀ n,Nm n l→∃ p rest,n=done++p :: rest∧X=p.Attr_.data.toList∧Y=C8 p.Text_.data.toList++Df rest:=fun n hn=>by
            obtain⟨p,rest,e1,e2⟩:=hG n hn
            have hp:=(nameOk_all hn.2.1).2 p (by rw[e1];simp)
            obtain⟨e3,e4⟩:=first61 (X':=p.Attr_.data.toList) (Y':=C8 p.Text_.data.toList++Df rest) (by rw[e2];simp[Dp,partT]) hX (attr_no hp)
            exact⟨p,rest,e1,e3,e4⟩
          have hbX:(bA X).size≤2000:=by rw[Cd];omega
          refine Ok.bind hread fun q hq=>?_
          rcases q with ⟨b,tx,w⟩ | ⟨ps,tx⟩
          · obtain⟨v,m,h1,h2,h3,h4,h5,h6⟩:=hq
            dsimp only at h1 h2 h3 h4 h5 h6 ⊢
            subst h1;subst h3
            have hbm:(bA m).size≤2000:=by rw[Cd];omega
            rw[B4 (by simp;omega),Option.bind_some]
            cases tx with
            | true =>
              have hv:=h5 rfl
              rw[cond_true,Az (by omega),show ((v:Int)+1)=((v+1:Nat):Int) by simp,Cd,subS_bA (by omega) (Nat.le_refl _),Option.bind_some]
              refine Ok.some ⟨k - 1 - X.length - (v+1),by omega,Y.drop (v+1),?_,.inl ⟨rfl,by simp;omega,by simp;omega,⟨by simp;omega,(hsm.snoc (p:=⟨bA X,bA m⟩) hbX hbm).2⟩,fun n hn=>?_⟩⟩
              · show bA _=bA _
                rw[List.take_of_length_le (by simp)]
              · obtain⟨p,rest,e1,e3,e4⟩:=hnm n hn
                obtain⟨e5,⟨_,p',q,e6,e7⟩ | ⟨e6,_⟩⟩:=h6 _ _ e4
                · refine⟨p',q,?_,e7⟩
                  rw[e1,e6,part_eta (p:=p) (a:=bA X) (t:=bA m) (by rw[e3,← bA_of]) (by rw[e5,← bA_of])]
                  simp
                · cases e6
            | false =>
              rw[cond_false]
              refine Ok.some ⟨0,by omega,_,rfl,.inr ⟨rfl,(hsm.snoc (p:=⟨bA X,bA m⟩) hbX hbm).mono (by omega),by simp,fun n hn=>?_⟩⟩
              obtain⟨p,rest,e1,e3,e4⟩:=hnm n hn
              obtain⟨e5,⟨e6,_⟩ | ⟨_,e6⟩⟩:=h6 _ _ e4
              · cases e6
              · rw[e1,e6,part_eta (p:=p) (a:=bA X) (t:=bA m) (by rw[e3,← bA_of]) (by rw[e5,← bA_of])]
          · obtain⟨h1,h2⟩:=hq
            dsimp only at h1 ⊢
            subst h1
            refine Ok.some ⟨rfl,fun n hn=>?_⟩
            obtain⟨p,rest,e1,e3,e4⟩:=hnm n hn
            exact h2 _ _ e4
      · rw[cond_false]
        exact Ok.some ⟨hsm,hnn,hG⟩
    · obtain⟨h1,h2,h3⟩:=hn
      cases n with
      | nil=>exact absurd rfl h1
      | cons p rest=>exact⟨p,rest,rfl,h3⟩
  obtain⟨q,e,hq⟩:=key
  rw[e,Option.bind_some]
  rcases q with ps | ⟨ps,b⟩
  · obtain⟨h1,h2,h3⟩:=hq
    dsimp only
    rw[name_impl _ (h1.sz (by omega)),Option.bind_some,nameText_impl _ (h1.sz (by omega)),C3,Option.bind_some]
    cases hok:D7 ps with
    | false =>
      refine⟨_,_,rfl,(fun h=>by cases h),?_⟩
      rintro (h | ⟨_,n,hn⟩)
      · exact absurd h hne
      · have:=h3 n hn
        rw[← this,hn.2.1]at hok
        cases hok
    | true =>
      simp only[Bool.not_true,Bool.not_false,cond_true,Bool.false_or,if_pos]
      cases hc:((bA (Dp ps)).toList==(bA l).toList) with
      | true=>exact⟨_,_,rfl,fun _=>last_ok hne h2000 ps h2 (by rw[hok,if_pos rfl];exact hc),fun _=>rfl⟩
      | false =>
        refine⟨_,_,rfl,(fun h=>by cases h),?_⟩
        rintro (h | ⟨_,n,hn⟩)
        · exact absurd h hne
        · have:=h3 n hn
          rw[← this,← hn.2.2]at hc
          simp at hc
  · obtain⟨h1,h2⟩:=hq
    dsimp only at h1
    subst h1
    refine⟨_,_,rfl,(fun h=>by cases h),?_⟩
    rintro (h | ⟨_,n,hn⟩)
    · exact absurd h hne
    · exact absurd hn (h2 n)
end Go.G36.FR
