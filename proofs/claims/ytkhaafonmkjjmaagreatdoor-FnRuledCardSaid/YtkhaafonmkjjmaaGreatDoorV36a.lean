/- Lists in order,without repeats. -/
import Derived.Test.YtkhaafonmkjjmaaGreatDoorSPa
import Derived.Test.YtkhaafonmkjjmaaGreatDoorKzr
namespace Go.G36
set_option linter.all false
open Go

theorem snocInd{α:Type}{P:List α→Prop}(h0:P [])(h1:∀ l x,P l→P (l ++ [x]))(l:List α):P l:=by
  have:∀ m:List α,P m.reverse:=by
    intro m
    induction m with
    | nil=>exact h0
    | cons x r ih=>rw[List.reverse_cons];exact h1 _ _ ih
  simpa using this l.reverse

open Classical in
noncomputable def ddS{α:Type}(acc:List α)(x:α):List α:=if acc.getLast? = some x then acc else acc ++ [x]
noncomputable def dd{α:Type}(l:List α):List α:=l.foldl ddS []
section
variable {α:Type} {l:List α} {x:α}
theorem dd_nil:dd ([]:List α) = []:=rfl
theorem dd_snoc:dd (l ++ [x])=ddS (dd l) x:=by simp[dd]
theorem ddS_same{acc:List α}(h:acc.getLast? = some x):ddS acc x=acc:=if_pos h
theorem ddS_new{acc:List α}(h:acc.getLast?≠some x):ddS acc x=acc ++ [x]:=if_neg h
theorem ddS_last{acc:List α}:(ddS acc x).getLast? = some x:=by
  by_cases h:acc.getLast? = some x
  · rw[ddS_same h,h]
  · rw[ddS_new h];simp
theorem dd_last:∀ l:List α,(dd l).getLast? = l.getLast?:=snocInd rfl fun l x _=>by rw[dd_snoc,ddS_last];simp
theorem dd_one:dd [x] = [x]:=by
  have:=dd_snoc (l:=([]:List α)) (x:=x)
  rw[List.nil_append]at this
  rw[this,ddS_new (by simp[dd_nil])]
  rfl
theorem dd_mem:∀ l:List α,∀ y,y∈dd l↔y∈l:=snocInd (fun _=>Iff.rfl) fun l x ih y=>by
  rw[dd_snoc]
  by_cases h:(dd l).getLast? = some x
  · rw[ddS_same h,ih]
    have hx:x∈l:=(ih x).1 (List.mem_of_getLast? h)
    simp only[List.mem_append,List.mem_singleton]
    exact⟨.inl,fun h=>h.elim id fun e=>e▸hx⟩
  · rw[ddS_new h]
    simp only[List.mem_append,List.mem_singleton,ih]
theorem dd_len:∀ l:List α,(dd l).length≤l.length:=snocInd (Nat.le_refl _) fun l x ih=>by
  rw[dd_snoc]
  by_cases h:(dd l).getLast? = some x
  · rw[ddS_same h];simp;omega
  · rw[ddS_new h];simp;omega
end

section
variable {α:Type} {lt:α→α→Prop} (hi:∀ x,¬ lt x x) (ht:∀ x y z,lt x y→lt y z→lt x z)
theorem pw_last{l:List α}(h:l.Pairwise lt){x z:α}(hx:x∈l)(hz:l.getLast? = some z):x=z∨lt x z:=by
  obtain⟨m,rfl⟩:∃ m,l=m ++ [z]:=by
    rcases List.eq_nil_or_concat l with rfl | ⟨m,y,rfl⟩
    · simp at hz
    · simp at hz;exact⟨m,by simp[hz]⟩
  rw[List.pairwise_append]at h
  rcases List.mem_append.1 hx with h1 | h1
  · exact .inr (h.2.2 x h1 z (by simp))
  · exact .inl (by simpa using h1)
include hi ht in
theorem dd_strict : ∀ l : List α, (l.Pairwise fun a b => a = b ∨ lt a b) → (dd l).Pairwise lt := snocInd (fun _ => .nil) fun l x ih h => by
  rw[List.pairwise_append]at h
  have ih:=ih h.1
  have hx:∀ a,a∈l→a=x∨lt a x:=fun a ha=>h.2.2 a ha x (by simp)
  rw[dd_snoc]
  by_cases hl:(dd l).getLast? = some x
  · rw[ddS_same hl];exact ih
  · rw[ddS_new hl,List.pairwise_append]
    refine⟨ih,List.pairwise_singleton _ _,fun a ha b hb=>?_⟩
    rw[List.mem_singleton]at hb
    subst hb
    rcases hx a ((dd_mem l a).1 ha) with rfl | h1
    · cases hz:(dd l).getLast? with
      | none=>rw[List.getLast?_eq_none_iff]at hz;rw[hz]at ha;cases ha
      | some z =>
        have hzm:z∈l:=(dd_mem l z).1 (List.mem_of_getLast? hz)
        have hne:z≠a:=fun e=>hl (by rw[hz,e])
        rcases pw_last ih ha hz with e | h2
        · exact absurd e.symm hne
        · rcases hx z hzm with e | h3
          · exact absurd e hne
          · exact absurd (ht _ _ _ h2 h3) (hi a)
    · exact h1
include hi ht in
theorem strict_eq : ∀ a b : List α, a.Pairwise lt → b.Pairwise lt → (∀ x, x ∈ a ↔ x ∈ b) → a = b
  | [],[],_,_,_=>rfl
  | [],y :: b,_,_,h=>by have:=(h y).2 (by simp);cases this
  | x :: a,[],_,_,h=>by have:=(h x).1 (by simp);cases this
  | x :: a, y :: b, ha, hb, h => by
    rw[List.pairwise_cons]at ha hb
    have hxy:x=y:=by
      rcases List.mem_cons.1 ((h x).1 (by simp)) with e | h1
      · exact e
      · rcases List.mem_cons.1 ((h y).2 (by simp)) with e | h2
        · exact e.symm
        · exact absurd (ht _ _ _ (ha.1 y h2) (hb.1 x h1)) (hi x)
    subst hxy
    rw[strict_eq a b ha.2 hb.2 fun z=>⟨fun hz=>?_,fun hz=>?_⟩]
    · rcases List.mem_cons.1 ((h z).1 (List.mem_cons_of_mem _ hz)) with e | h1
      · subst e;exact absurd (ha.1 z hz) (hi z)
      · exact h1
    · rcases List.mem_cons.1 ((h z).2 (List.mem_cons_of_mem _ hz)) with e | h1
      · subst e;exact absurd (hb.1 z hz) (hi z)
      · exact h1
theorem ins_strict{A B:List α}{x:α}(h:(A++B).Pairwise lt)(ha:∀ a,a∈A→lt a x)(hb:∀ b,b∈B→lt x b):(A++x :: B).Pairwise lt:=by
  rw[List.pairwise_append]at h ⊢
  refine⟨h.1,List.pairwise_cons.2 ⟨hb,h.2.1⟩,fun a h1 b h2=>?_⟩
  rcases List.mem_cons.1 h2 with rfl | h3
  · exact ha a h1
  · exact h.2.2 a h1 b h3
theorem flat_strict{ρ:Type}(f:ρ→List α):∀ rs:List ρ,(∀ r,r∈rs→(f r).Pairwise lt)→(rs.Pairwise fun r r'=>∀ a,a∈f r→∀ b,b∈f r'→lt a b)→(rs.flatMap f).Pairwise lt
  | [],_,_=>.nil
  | r :: rs,h1,h2=>by
    rw[List.pairwise_cons]at h2
    rw[List.flatMap_cons,List.pairwise_append]
    refine⟨h1 r (by simp),flat_strict f rs (fun r' hr=>h1 r' (by simp[hr])) h2.2,fun a ha b hb=>?_⟩
    obtain⟨r',hr',hb'⟩:=List.mem_flatMap.1 hb
    exact h2.1 r' hr' a ha b hb'
end

theorem sub_get{α:Type}{xs:List α}{a b:Nat}(h:a≤b)(hb:b≤xs.length):sub xs (a:Int) (b:Int)=some ((xs.drop a).take (b - a)):=by
  unfold sub
  rw[if_pos (by omega),Int.toNat_natCast,show ((b:Int) - (a:Int)).toNat=b - a by omega]
theorem idxP_get{α:Type}{xs:List α}{l h i:Nat}(h1:l+i<xs.length)(h2:i<h - l):idxP xs (l:Int) (h:Int) (i:Int)=some xs[l+i]:=by
  unfold idxP
  rw[if_pos (by omega),show ((l:Int)+(i:Int)).toNat=l+i by omega]
  simp[h1]
end Go.G36
