/- A part of the proof: no condition but those that each theorem states. -/
import Derived.Test.YthkklpegjcnjoaaLgB
import Derived.Test.YthkklpegjcnjoaaTD
set_option linter.unusedVariables false
set_option linter.unusedSimpArgs false
namespace Go.Ab
def endOf (l:List Int) (v:Int) (b:Nat):Nat:=
 if b<l.length then (if v≤l.getD b 0 then endOf l v (b+1) else b) else b
termination_by l.length-b
def rev (out:List Int) (a b:Nat):List Int:=out.take a++((out.drop a).take (b-a)).reverse++out.drop b
def pass (l:List Int) (v:Int) (a:Nat) (out:List Int):List Int:=
 if a<l.length then (if a<endOf l v a then pass l v (endOf l v a+1) (rev out a (endOf l v a)) else pass l v (a+1) out) else out
termination_by l.length-a
decreasing_by all_goals omega
def iota (n:Nat):List Int:=(List.range n).map Int.ofNat
theorem iota_length (n:Nat):(iota n).length=n:=by simp [iota]
def cl (n:Int):Int:=if (if n<0 then 0 else n)>126 then 126 else (if n<0 then 0 else n)
end Go.Ab
namespace Go.Proofs.Ythkklpegjcnjoaa
open Go.Ab
def isoB:List Ent3→List Int
 | []=>[]
 | [_]=>[]
 | a::b::l=>(if b.2.2=true then [a.1] else [])++isoB (b::l)
theorem topM_cons (a b:Ent3) (l:List Ent3):topM (a::b::l)=topM (b::l):=by unfold topM;rw [List.getLast?_cons_cons]
theorem isoB_snoc:∀ (E:List Ent3) (x:Ent3),E≠[]→isoB (E++[x])=isoB E++(if x.2.2=true then [(topM E).1] else [])
 | [],x,h=>absurd rfl h
 | [a],x,_=>by simp [isoB,topM]
 | a::b::l,x,_=>by
  rw [topM_cons,List.cons_append,List.cons_append,isoB,←List.cons_append,isoB_snoc (b::l) x (by simp),isoB,List.append_assoc]
theorem popIso_isoB:∀ (r:Nat) (E:List Ent3),E.length≤r→isoB E≠[]→popIso r E≠[]∧∃ B,isoB E=B++[(topM (popIso r E)).1]∧isoB (popIso r E)=B∧∀ e∈popIso r E,e∈E
 | 0,E,h,h2=>by
  obtain rfl:E=[]:=List.length_eq_zero_iff.mp (by omega)
  exact absurd rfl h2
 | r+1,E,h,h2=>by
  have hE:E≠[]:=fun e=>by subst e;exact h2 rfl
  have hd:E.dropLast≠[]:=fun e=>by
   have:=dropLast_snoc hE
   rw [e] at this
   rw [←this] at h2
   exact h2 rfl
  have he:=isoB_snoc E.dropLast (topM E) hd
  rw [dropLast_snoc hE] at he
  simp only [popIso]
  by_cases ht:(topM E).2.2=true
  ·rw [if_pos ht] at he ⊢
   exact ⟨hd,isoB E.dropLast,he,rfl,fun e=>List.dropLast_subset E (a:=e)⟩
  ·rw [if_neg ht,List.append_nil] at he
   rw [if_neg ht]
   obtain ⟨h3,B,h4,h5,h6⟩:=popIso_isoB r E.dropLast (by rw [List.length_dropLast];omega) (by rw [←he];exact h2)
   exact ⟨h3,B,by rw [he];exact h4,h5,fun e h=>List.dropLast_subset E (h6 e h)⟩
structure LinkI (D:TD) (i:Int) (x:XS) (L Og M:List Int):Prop where
 ne:x.E≠[]
 op:0≤x.op
 is:x.is=(isoB x.E).length
 lv:∀ e∈x.E,0≤e.1∧e.1≤125
 og:Og.map (rd L)=isoB x.E++List.replicate x.op.toNat (topM x.E).1
 pl:∀ o∈Og,0≤o∧o<i
 bd:∀ j:Int,0≤rd L j∧rd L j≤125
 lk:∀ o:Int,0≤o→o<i→isOpener (rd D.F o)→rd M o<0∨(0≤rd M o∧rd M o<i∧rd L (rd M o)=rd L o)
theorem topM_mem {E:List Ent3} (h:E≠[]):topM E∈E:=by
 obtain ⟨hj,e⟩:=top_at h
 rw [←e];exact List.getElem_mem _
theorem nextM_ge {lv:Int} {odd:Bool} (h:0≤lv):0≤nextM lv odd:=by unfold nextM;split <;> omega
theorem bd_set {L:List Int} {i x w:Int} (hi:0≤i) (h:∀ j:Int,0≤rd L j∧rd L j≤w) (hx:0≤x∧x≤w):∀ j:Int,0≤rd (L.set i.toNat x) j∧rd (L.set i.toNat x) j≤w:=fun j=>by
 unfold rd
 rw [List.getD_eq_getElem?_getD,List.getElem?_set]
 have:=h j
 unfold rd at this
 rw [List.getD_eq_getElem?_getD] at this
 split
 ·split
  ·exact hx
  ·have:=h 0;rename_i a b;constructor
   ·exact Int.le_refl _
   ·have:=h j;have:=(h j).1;have:=(h j).2;show (0:Int)≤w;omega
 ·exact this
theorem map_rd_set {Og L:List Int} {i x:Int} (h:∀ o∈Og,0≤o∧o<i) (hi:i<L.length):Og.map (rd (L.set i.toNat x))=Og.map (rd L):=
 List.map_congr_left fun o ho=>by
  have:=h o ho
  rw [rd_set (by omega) (by omega) (by omega),if_neg (by omega)]
theorem LinkI.keep {D:TD} {i:Int} {x:XS} {L Og M:List Int} (h:LinkI D i x L Og M) (h0:0≤i) (hno:¬ isOpener (rd D.F i)) {M':List Int} (hM:∀ o:Int,0≤o→o<i→rd M' o=rd M o):LinkI D (i+1) x L Og M':=by
 refine { h with pl:=fun o ho=>?_,lk:=fun o o0 o1 op=>?_ }
 ·have:=h.pl o ho;omega
 ·by_cases e:o=i
  ·subst e;exact absurd op hno
  ·rw [hM o o0 (by omega)]
   rcases h.lk o o0 (by omega) op with h1 | h1
   ·exact .inl h1
   ·exact .inr ⟨h1.1,by omega,h1.2.2⟩
theorem LinkI.set {D:TD} {i:Int} {x:XS} {L Og M:List Int} {v:Int} (h:LinkI D i x L Og M) (h0:0≤i) (hi:i<L.length) (hv:0≤v∧v≤125):LinkI D i x (L.set i.toNat v) Og M:=by
 refine { h with og:=?_,bd:=bd_set h0 h.bd hv,lk:=fun o o0 o1 op=>?_ }
 ·rw [map_rd_set h.pl hi];exact h.og
 ·rcases h.lk o o0 o1 op with h1 | h1
  ·exact .inl h1
  ·refine .inr ⟨h1.1,h1.2.1,?_⟩
   rw [rd_set h0 h1.1 hi,rd_set h0 o0 hi,if_neg (by omega),if_neg (by omega)];exact h1.2.2
theorem LinkI.stk {D:TD} {i:Int} {x x':XS} {L Og M:List Int} (h:LinkI D i x L Og M) (ne:x'.E≠[]) (op:0≤x'.op) (is:x'.is=(isoB x'.E).length) (lv:∀ e∈x'.E,0≤e.1∧e.1≤125)
 (og:isoB x'.E++List.replicate x'.op.toNat (topM x'.E).1=isoB x.E++List.replicate x.op.toNat (topM x.E).1):LinkI D i x' L Og M:=
 { h with ne:=ne,op:=op,is:=is,lv:=lv,og:=h.og.trans og.symm }
theorem rd_lastI {Og L:List Int} {B:List Int} {y:Int} (h:Og.map (rd L)=B++[y]):0<Og.length∧rd L (lastI Og)=y∧(Og.take (Og.length-1)).map (rd L)=B∧lastI Og∈Og:=by
 have hl:Og.length=B.length+1:=by
  have:=congrArg List.length h
  simpa using this
 have hm:=lastI_mem (O:=Og) (by omega)
 refine ⟨by omega,?_,?_,hm⟩
 ·have h2:(Og.map (rd L))[Og.length-1]?=some y:=by rw [h,hl];simp
  rw [List.getElem?_map,List.getElem?_eq_getElem (by omega)] at h2
  have h3:rd L Og[Og.length-1]=y:=Option.some.inj h2
  have h4:lastI Og=Og[Og.length-1]:=by
   unfold lastI rd
   rw [show ((Og.length:Int)-1).toNat=Og.length-1 by omega,List.getD_eq_getElem?_getD,List.getElem?_eq_getElem (by omega)];rfl
  rw [h4];exact h3
 ·rw [List.map_take,h,hl];simp
theorem LinkI.next {D:TD} {i:Int} {x:XS} {L Og M:List Int} (h:LinkI D i x L Og M) (h0:0≤i) (hi:i<L.length) (hM:M.length=L.length) (hb:0≤D.b∧D.b≤1) :
 LinkI D (i+1) (expX D i x) (expL D i x L) (matchO D.F i Og) (matchS D.F i Og M):=by
 have htop:=h.lv _ (topM_mem h.ne)
 have hset1:∀ o:Int,0≤o→o<i→rd (M.set i.toNat (-1)) o=rd M o:=fun o o0 o1=>by rw [rd_set h0 o0 (by omega),if_neg (by omega)]
 unfold expX expL expT matchO matchS
 generalize hc:rd D.F i=c
 by_cases c1:isEmb c
 ·have n1:¬ isOpener c:=by unfold isEmb at c1;unfold isOpener;omega
  have n2:c≠10:=by unfold isEmb at c1;omega
  have n3:c≠22:=by unfold isEmb at c1;omega
  have n4:¬ (c=22∧0<Og.length):=fun h=>n3 h.1
  simp only [if_pos c1,if_neg n1,if_neg n2,if_neg n4]
  have hk:=h.keep h0 (by rw [hc];exact n1) hset1
  split
  ·rename_i hp
   have ht:=nextM_ge (odd:=decide (c=16∨c=17)) htop.1
   refine hk.stk (by simp) h.op ?_ ?_ ?_
   ·dsimp only;rw [isoB_snoc _ _ h.ne];simpa using h.is
   ·intro e he
    rcases List.mem_append.mp he with he | he
    ·exact h.lv e he
    ·rw [List.mem_singleton.mp he];exact ⟨ht,hp.1⟩
   ·dsimp only;rw [isoB_snoc _ _ h.ne,hp.2.1];simp
  ·exact hk.stk h.ne h.op h.is h.lv rfl
 by_cases c2:isOpener c
 ·simp only [if_neg c1,if_pos c2,plainL]
  have hs:=h.set h0 hi htop
  have e1:rd (L.set i.toNat (topM x.E).1) i=(topM x.E).1:=by rw [rd_set h0 h0 hi,if_pos rfl]
  have hlk:∀ o:Int,0≤o→o<i+1→isOpener (rd D.F o)→rd (M.set i.toNat (-1)) o<0∨(0≤rd (M.set i.toNat (-1)) o∧rd (M.set i.toNat (-1)) o<i+1∧rd (L.set i.toNat (topM x.E).1) (rd (M.set i.toNat (-1)) o)=rd (L.set i.toNat (topM x.E).1) o):=fun o o0 o1 op=>by
   by_cases e:o=i
   ·left;rw [e,rd_set h0 h0 (by omega),if_pos rfl];omega
   ·rw [hset1 o o0 (by omega)]
    rcases hs.lk o o0 (by omega) op with h1 | h1
    ·exact .inl h1
    ·exact .inr ⟨h1.1,by omega,h1.2.2⟩
  have hpl:∀ o∈Og++[i],0≤o∧o<i+1:=fun o ho=>by
   rcases List.mem_append.mp ho with ho | ho
   ·have:=h.pl o ho;omega
   ·rw [List.mem_singleton.mp ho];omega
  split
  ·rename_i hp
   have ht:=nextM_ge (odd:=openOdd D i c) htop.1
   refine { ne:=by simp,op:=h.op,is:=?_,lv:=?_,og:=?_,pl:=hpl,bd:=hs.bd,lk:=hlk }
   ·dsimp only;rw [isoB_snoc _ _ h.ne,h.is];simp
   ·intro e he
    rcases List.mem_append.mp he with he | he
    ·exact h.lv e he
    ·rw [List.mem_singleton.mp he];exact ⟨ht,hp.1⟩
   ·dsimp only
    rw [List.map_append,hs.og,isoB_snoc _ _ h.ne,hp.2.1,List.map_cons,List.map_nil,e1];simp
  ·refine { ne:=h.ne,op:=by have:=h.op;dsimp only;omega,is:=h.is,lv:=h.lv,og:=?_,pl:=hpl,bd:=hs.bd,lk:=hlk }
   dsimp only
   have hop:=h.op
   rw [List.map_append,hs.og,List.map_cons,List.map_nil,e1,show (x.op+1).toNat=x.op.toNat+1 by omega,List.replicate_succ',List.append_assoc]
 by_cases c3:c=22
 ·have n2:¬ c=10:=by omega
  have n5:¬ isOpener (rd D.F i):=by rw [hc];exact c2
  simp only [if_neg c1,if_neg c2,if_pos c3,if_neg n2,plainL,true_and]
  by_cases hp:0<x.op
  ·
   have hog:=h.og
   rw [show x.op.toNat=(x.op-1).toNat+1 by omega,List.replicate_succ',←List.append_assoc] at hog
   obtain ⟨l1,l2,l3,l4⟩:=rd_lastI hog
   have hl:=h.pl _ l4
   have hE:shutE x.E x.op x.is=x.E:=by unfold shutE;rw [if_pos hp]
   have hO:shutOp x.op=x.op-1:=by unfold shutOp;rw [if_pos hp]
   have hI:shutIs x.op x.is=x.is:=by unfold shutIs;rw [if_pos hp]
   rw [hE,hO,hI,if_pos ⟨c3,l1⟩,if_pos ⟨c3,l1⟩]
   have hs:=h.set h0 hi htop
   refine { ne:=h.ne,op:=by dsimp only;omega,is:=h.is,lv:=h.lv,og:=?_,pl:=fun o ho=>by have:=h.pl o (List.mem_of_mem_take ho);omega,bd:=hs.bd,lk:=fun o o0 o1 op=>?_ }
   ·rw [map_rd_set (fun o ho=>h.pl o (List.mem_of_mem_take ho)) hi];exact l3
   ·by_cases e:o=i
    ·subst e;exact absurd op n5
    ·rw [rd_set hl.1 o0 (by simp only [List.length_set];omega)]
     by_cases e2:o=lastI Og
     ·rw [if_pos e2]
      refine .inr ⟨h0,by omega,?_⟩
      rw [rd_set h0 h0 hi,if_pos rfl,rd_set h0 o0 hi,if_neg e,e2,l2]
     ·rw [if_neg e2,rd_set h0 o0 (by simp only [List.length_set];omega),if_neg e,hset1 o o0 (by omega)]
      rcases hs.lk o o0 (by omega) op with h1 | h1
      ·exact .inl h1
      ·exact .inr ⟨h1.1,by omega,h1.2.2⟩
  ·have hop0:x.op=0:=by have:=h.op;omega
   by_cases hq:0<x.is
   ·
    have hne:isoB x.E≠[]:=fun e=>by have:=h.is;rw [e] at this;simp at this;omega
    obtain ⟨p1,B,p2,p3,p4⟩:=popIso_isoB x.E.length x.E (Nat.le_refl _) hne
    have hog:=h.og
    rw [hop0,show (0:Int).toNat=0 from rfl,List.replicate_zero,List.append_nil,p2] at hog
    obtain ⟨l1,l2,l3,l4⟩:=rd_lastI hog
    have hl:=h.pl _ l4
    have hE:shutE x.E x.op x.is=popIso x.E.length x.E:=by unfold shutE;rw [if_neg hp,if_pos hq]
    have hO:shutOp x.op=x.op:=by unfold shutOp;rw [if_neg hp]
    have hI:shutIs x.op x.is=x.is-1:=by unfold shutIs;rw [if_neg hp,if_pos hq]
    rw [hE,hO,hI,if_pos ⟨c3,l1⟩,if_pos ⟨c3,l1⟩]
    have htop2:=h.lv _ (p4 _ (topM_mem p1))
    have hs:=h.set h0 hi htop2
    refine { ne:=p1,op:=h.op,is:=?_,lv:=fun e he=>h.lv e (p4 e he),og:=?_,pl:=fun o ho=>by have:=h.pl o (List.mem_of_mem_take ho);omega,bd:=hs.bd,lk:=fun o o0 o1 op=>?_ }
    ·dsimp only
     have:=h.is
     rw [p2] at this
     rw [p3]
     simp at this;omega
    ·rw [map_rd_set (fun o ho=>h.pl o (List.mem_of_mem_take ho)) hi,hop0,show (0:Int).toNat=0 from rfl,List.replicate_zero,List.append_nil,p3];exact l3
    ·by_cases e:o=i
     ·subst e;exact absurd op n5
     ·rw [rd_set hl.1 o0 (by simp only [List.length_set];omega)]
      by_cases e2:o=lastI Og
      ·rw [if_pos e2]
       refine .inr ⟨h0,by omega,?_⟩
       rw [rd_set h0 h0 hi,if_pos rfl,rd_set h0 o0 hi,if_neg e,e2,l2]
      ·rw [if_neg e2,rd_set h0 o0 (by simp only [List.length_set];omega),if_neg e,hset1 o o0 (by omega)]
       rcases hs.lk o o0 (by omega) op with h1 | h1
       ·exact .inl h1
       ·exact .inr ⟨h1.1,by omega,h1.2.2⟩
   ·have his:x.is=0:=by have:=h.is;omega
    have hB:isoB x.E=[]:=List.length_eq_zero_iff.mp (by have:=h.is;omega)
    have hogE:Og=[]:=by
     have:=h.og
     rw [hB,hop0] at this
     simpa using this
    have hE:shutE x.E x.op x.is=x.E:=by unfold shutE;rw [if_neg hp,if_neg hq]
    have hO:shutOp x.op=x.op:=by unfold shutOp;rw [if_neg hp]
    have hI:shutIs x.op x.is=x.is:=by unfold shutIs;rw [if_neg hp,if_neg hq]
    have nl:¬ (c=22∧0<Og.length):=by rw [hogE];simp
    rw [hE,hO,hI,if_neg nl,if_neg nl]
    exact ((h.set h0 hi htop).keep h0 n5 hset1).stk h.ne h.op h.is h.lv rfl
 have n4:¬ (c=22∧0<Og.length):=fun h=>c3 h.1
 by_cases c4:c=18
 ·have n2:¬ c=10:=by omega
  simp only [if_neg c1,if_neg c2,if_neg c3,if_pos c4,if_neg n2,if_neg n4]
  have hk:=h.keep h0 (by rw [hc];exact c2) hset1
  split
  ·exact hk
  split
  ·exact hk.stk h.ne h.op h.is h.lv rfl
  split
  ·rename_i hop _ hp
   have hop0:x.op=0:=by have:=h.op;omega
   have hd:x.E.dropLast≠[]:=fun e=>by have:=congrArg List.length e;rw [List.length_dropLast] at this;simp at this;omega
   have e1:=isoB_snoc x.E.dropLast (topM x.E) hd
   rw [dropLast_snoc h.ne,hp.2,if_neg (by decide),List.append_nil] at e1
   refine hk.stk hd h.op (by dsimp only;rw [←e1];exact h.is) (fun e he=>h.lv e (List.dropLast_subset _ he)) ?_
   dsimp only
   rw [hop0,←e1];simp
  ·exact hk
 by_cases c5:c=10
 ·simp only [if_neg c1,if_neg c2,if_neg c3,if_neg c4,if_pos c5,plainL]
  have hs:=h.set h0 hi (v:=D.b) (by omega)
  refine { ne:=by simp,op:=by dsimp only;omega,is:=rfl,lv:=fun e he=>?_,og:=rfl,pl:=fun o ho=>(by cases ho),bd:=hs.bd,lk:=((hs.keep h0 (by rw [hc];exact c2) hset1)).lk }
  rw [List.mem_singleton.mp he];dsimp only;omega
 simp only [if_neg c1,if_neg c2,if_neg c3,if_neg c4,if_neg c5,if_neg n4]
 by_cases c6:c=9
 ·simp only [if_pos c6]
  exact h.keep h0 (by rw [hc];exact c2) hset1
 ·simp only [if_neg c6,plainL]
  exact (h.set h0 hi htop).keep h0 (by rw [hc];exact c2) hset1
theorem orderM_ok {F:List Int}:∀ (r:Nat) (i:Int) (O:List Int),O.Nodup→(∀ x∈O,0≤x∧x<i)→0≤i→(orderM F r i O).Nodup∧∀ x∈orderM F r i O,0≤x∧x<i+r
 | 0,i,O,h,h2,_=>⟨h,fun x hx=>by have:=h2 x hx;simpa using this⟩
 | r+1,i,O,h,h2,h0=>by
  simp only [orderM]
  have key:∀ O':List Int,O'.Nodup→(∀ x∈O',0≤x∧x<i+1)→(orderM F r (i+1) O').Nodup∧∀ x∈orderM F r (i+1) O',0≤x∧x<i+((r+1:Nat):Int):=fun O' a b=>by
   obtain ⟨c,d⟩:=orderM_ok (F:=F) r (i+1) O' a b (by omega)
   exact ⟨c,fun x hx=>by have:=d x hx;omega⟩
  split
  ·exact key O h fun x hx=>by have:=h2 x hx;omega
  ·refine key _ (List.nodup_append.mpr ⟨h,by simp,fun a ha b hb e=>?_⟩) fun x hx=>?_
   ·have:=h2 a ha;rw [List.mem_singleton.mp hb] at e;omega
   ·rcases List.mem_append.mp hx with hx | hx
    ·have:=h2 x hx;omega
    ·rw [List.mem_singleton.mp hx];omega
theorem runEnd_lv {F L O:List Int} {k:Int}:∀ (r:Nat) (j:Int),(∀ p:Int,k≤p→p<j→rd L (rd O p)=rd L (rd O k))→∀ p:Int,k≤p→p<runEnd F L O k r j→rd L (rd O p)=rd L (rd O k)
 | 0,j,h=>h
 | r+1,j,h=>by
  simp only [runEnd]
  split
  ·rename_i hc
   exact runEnd_lv r (j+1) fun p a b=>by
    by_cases e:p=j
    ·rw [e];exact hc.1
    ·exact h p a (by omega)
  ·exact h
theorem partI_mem {O:List Int} {k j x:Int} (h0:0≤k) (hj:j≤O.length) (h:x∈partI O k j):∃ p:Int,k≤p∧p<j∧x=rd O p:=by
 unfold partI at h
 obtain ⟨n,hn⟩:=List.mem_iff_getElem?.mp h
 rw [List.getElem?_take] at hn
 split at hn
 ·rename_i hlt
  rw [List.getElem?_drop] at hn
  refine ⟨k+n,by omega,by omega,?_⟩
  unfold rd
  rw [show (k+(n:Int)).toNat=k.toNat+n by omega,List.getD_eq_getElem?_getD,hn];rfl
 ·cases hn
theorem take_part {O:List Int} {k j:Int} (h0:0≤k) (hk:k≤j):O.take j.toNat=O.take k.toNat++partI O k j:=by
 unfold partI
 rw [←List.take_add,show k.toNat+(j.toNat-k.toNat)=j.toNat by omega]
structure SeqI (F L M O:List Int) (k:Int) (E:List SE) (G:Int→Option Nat):Prop where
 lv:∀ e∈E,∀ p∈e.A,rd L p=e.lv
 pm:(E.flatMap SE.A).Perm (O.take k.toNat)
 g:∀ x i,G x=some i→∃ h:i<E.length,E[i].lv=rd L x
theorem flat_set {E:List SE} {i:Nat} (h:i<E.length) (e:SE) (P:List Int) (he:e.A=E[i].A++P):((E.set i e).flatMap SE.A).Perm (E.flatMap SE.A++P):=by
 have h1:E=E.take i++E[i]::E.drop (i+1):=by rw [←List.drop_eq_getElem_cons h,List.take_append_drop]
 have h2:E.set i e=E.take i++e::E.drop (i+1):=by rw [List.set_eq_take_append_cons_drop,if_pos h]
 rw [h2]
 conv=>rhs;rw [h1]
 simp only [List.flatMap_append,List.flatMap_cons,he,List.append_assoc]
 exact List.Perm.append_left _ (List.Perm.append_left _ List.perm_append_comm)
theorem SeqI.step {F L M O:List Int} {b k j:Int} {E:List SE} {G:Int→Option Nat} (h:SeqI F L M O k E G) (h0:0≤k) (hk:k<j) (hj:j≤O.length) (hl:∀ p:Int,k≤p→p<j→rd L (rd O p)=rd L (rd O k))
 (hO:∀ x∈O,0≤x∧x<F.length) (hM:∀ o:Int,0≤o→o<F.length→isOpener (rd F o)→rd M o<0∨rd L (rd M o)=rd L o) {i:Nat} (hi:i<E.length) (hlv:E[i].lv=rd L (rd O k)) :
 SeqI F L M O j (stepE F L b O k j i E) (openG F M O j i G):=by
 have hg:E.getD i default=E[i]:=by rw [List.getD_eq_getElem?_getD,List.getElem?_eq_getElem hi];rfl
 have hlen:(stepE F L b O k j i E).length=E.length:=by unfold stepE;exact List.length_set
 have hat:∀ q (hq:q<E.length),((stepE F L b O k j i E)[q]'(by rw [hlen];exact hq)).lv=E[q].lv:=fun q hq=>by
  simp only [stepE,List.getElem_set]
  by_cases e:i=q
  ·subst e;rw [if_pos rfl,hg];rfl
  ·rw [if_neg e]
 refine { lv:=fun e he p hp=>?_,pm:=?_,g:=fun x q hx=>?_ }
 ·unfold stepE at he
  rcases List.mem_or_eq_of_mem_set he with he | he
  ·exact h.lv e he p hp
  ·subst he
   rw [hg] at hp ⊢
   simp only [growE] at hp ⊢
   rcases List.mem_append.mp hp with hp | hp
   ·exact h.lv _ (List.getElem_mem hi) p hp
   ·obtain ⟨q,q0,q1,rfl⟩:=partI_mem h0 hj hp
    rw [hl q q0 q1,hlv]
 ·rw [take_part h0 (show k≤j by omega)]
  exact (flat_set hi _ (partI O k j) (by rw [hg];rfl)).trans (h.pm.append_right _)
 ·unfold openG at hx
  have old:∀ q,G x=some q→∃ h:q<(stepE F L b O k j i E).length,(stepE F L b O k j i E)[q].lv=rd L x:=fun q hx=>by
   obtain ⟨h1,h2⟩:=h.g x q hx
   exact ⟨by rw [hlen];exact h1,by rw [hat q h1];exact h2⟩
  split at hx
  ·rename_i hc
   simp only at hx
   split at hx
   ·rename_i hxe
    cases hx
    refine ⟨by rw [hlen];exact hi,?_⟩
    rw [hat i hi,hlv,hxe]
    have hmem:rd O (j-1)∈O:=by
     unfold rd
     rw [List.getD_eq_getElem?_getD,List.getElem?_eq_getElem (by omega)]
     exact List.getElem_mem _
    have hr:=hO _ hmem
    rcases hM _ hr.1 hr.2 hc.1 with h1 | h1
    ·omega
    ·rw [h1,hl (j-1) (by omega) (by omega)]
   ·exact old q hx
  ·exact old q hx
theorem seqsM_ok {F L M O:List Int} {b:Int} (hO:∀ x∈O,0≤x∧x<F.length) (hM:∀ o:Int,0≤o→o<F.length→isOpener (rd F o)→rd M o<0∨rd L (rd M o)=rd L o) :
 ∀ (n:Nat) (k:Int) (E:List SE) (G:Int→Option Nat),SeqI F L M O k E G→0≤k→∃ k' G',SeqI F L M O k' (seqsM F L M b O n k E G) G'
 | 0,k,E,G,h,h0=>⟨k,G,h⟩
 | n+1,k,E,G,h,h0=>by
  simp only [seqsM]
  split
  ·rename_i hlt
   have hgt:=runEnd_gt (F:=F) (L:=L) (O:=O) (k:=k) (r:=O.length-k.toNat) (by omega)
   have hle:=(runEnd_ge (F:=F) (L:=L) (O:=O) (k:=k) (O.length-k.toNat) k).2
   have hl:=runEnd_lv (F:=F) (L:=L) (O:=O) (k:=k) (O.length-k.toNat) k (fun p a b=>by omega)
   generalize runEnd F L O k (O.length-k.toNat) k=j at hgt hle hl
   split
   ·rename_i i hG
    obtain ⟨h1,h2⟩:=h.g _ _ hG
    exact seqsM_ok hO hM n j _ _ (h.step h0 hgt (by omega) hl hO hM h1 h2) (by omega)
   ·have hE:SeqI F L M O k (E++[newE F L b O k]) G:={
     lv:=fun e he p hp=>by
      rcases List.mem_append.mp he with he | he
      ·exact h.lv e he p hp
      ·rw [List.mem_singleton.mp he] at hp;simp [newE] at hp
     pm:=by rw [List.flatMap_append];simpa [newE] using h.pm
     g:=fun x i hx=>by
      obtain ⟨h1,h2⟩:=h.g x i hx
      exact ⟨by simp;omega,by rw [List.getElem_append_left h1];exact h2⟩ }
    refine seqsM_ok hO hM n j _ _ (hE.step h0 hgt (by omega) hl hO hM (i:=E.length) (by simp) ?_) (by omega)
    rw [List.getElem_append_right (Nat.le_refl _)]
    simp [newE]
  ·exact ⟨k,G,h⟩
theorem rep_zero (n:Nat) (j:Int):rd (List.replicate n (0:Int)) j=0:=by
 unfold rd
 rw [List.getD_eq_getElem?_getD,List.getElem?_replicate]
 split <;> rfl
def vw (A N:List Int):List Int:=A.map (rd N)
theorem vw_len (A N:List Int):(vw A N).length=A.length:=List.length_map _
theorem rd_at {L:List Int} {k:Int} (h0:0≤k) (h1:k<L.length):rd L k=L[k.toNat]'(by omega):=by
 unfold rd;rw [List.getD_eq_getElem?_getD,List.getElem?_eq_getElem (by omega)];rfl
theorem rd_iota {m:Nat} {k:Int} (h0:0≤k) (h1:k<m):rd (iota m) k=k:=by
 rw [rd_at h0 (by rw [iota_length];exact h1)]
 simp only [iota,List.getElem_map,List.getElem_range]
 show ((k.toNat:Nat):Int)=k
 omega
theorem rdv {A:List Int} (F:List Int) {k:Int} (h0:0≤k) (h1:k<A.length):rd F (rd A k)=rd (vw A F) (rd (iota A.length) k):=by
 rw [rd_iota h0 h1,rd_at (L:=vw A F) h0 (by rw [vw_len];exact h1)]
 simp only [vw,List.getElem_map]
 rw [rd_at h0 h1]
structure Pos (A:List Int) (n:Nat):Prop where
 nd:A.Nodup
 rg:∀ p∈A,0≤p∧p<n
theorem rd_memA {A:List Int} {k:Int} (h0:0≤k) (h1:k<A.length):rd A k∈A:=by rw [rd_at h0 h1];exact List.getElem_mem _
structure Vi (A N0 N v:List Int):Prop where
 len:N.length=N0.length
 v:v=vw A N
 fr:∀ q:Int,0≤q→q∉A→rd N q=rd N0 q
theorem Vi.refl (A N:List Int):Vi A N N (vw A N):=⟨rfl,rfl,fun _ _ _=>rfl⟩
theorem Vi.rd {A N0 N v:List Int} (h:Vi A N0 N v) {k:Int} (h0:0≤k) (h1:k<A.length):rd N (rd A k)=rd v (rd (iota A.length) k):=by rw [h.v];exact rdv N h0 h1
section
variable {A N0:List Int}
theorem Vi.put (hA:Pos A N0.length) {N v:List Int} (h:Vi A N0 N v) {k:Int} (h0:0≤k) (h1:k<A.length) (c:Int):Vi A N0 (N.set (Go.Ab.rd A k).toNat c) (v.set (Go.Ab.rd (iota A.length) k).toNat c):=by
 have hp:=hA.rg _ (rd_memA h0 h1)
 refine ⟨by rw [List.length_set];exact h.len,?_,fun q q0 hq=>?_⟩
 ·rw [h.v,rd_iota h0 h1]
  unfold vw
  apply List.ext_getElem?
  intro j
  rw [List.getElem?_set,List.getElem?_map,List.getElem?_map]
  by_cases hj:j<A.length
  ·rw [List.getElem?_eq_getElem hj]
   have hq:=hA.rg _ (List.getElem_mem hj)
   simp only [Option.map_some]
   rw [rd_set hp.1 hq.1 (by rw [h.len];exact hp.2)]
   by_cases e:k.toNat=j
   ·rw [if_pos e,if_pos (by simp;omega)]
    subst e
    rw [if_pos (rd_at h0 h1).symm]
   ·rw [if_neg e,if_neg (fun e2=>e ?_)]
    rw [rd_at h0 h1] at e2
    exact ((List.getElem_inj hA.nd).mp e2).symm
  ·rw [List.getElem?_eq_none (by omega)]
   by_cases e:k.toNat=j
   ·omega
   ·rw [if_neg e];rfl
 ·rw [rd_set hp.1 q0 (by rw [h.len];exact hp.2),if_neg (fun e=>hq (by rw [e];exact rd_memA h0 h1))]
  exact h.fr q q0 hq
theorem Vi.become (hA:Pos A N0.length) {N v:List Int} (h:Vi A N0 N v) {k:Int} (h0:0≤k) (h1:k<A.length) (c:Int):Vi A N0 (becomeM A N k c) (becomeM (iota A.length) v k c):=h.put hA h0 h1 c
theorem allM_vi (hA:Pos A N0.length) {c:Int}:∀ (r:Nat) (k:Int) (N v:List Int),0≤k→k+r≤A.length→Vi A N0 N v→Vi A N0 (allM A c r k N) (allM (iota A.length) c r k v)
 | 0,_,_,_,_,_,h=>h
 | r+1,k,N,v,h0,h1,h=>allM_vi hA r (k+1) _ _ (by omega) (by push_cast at h1;omega) (h.become hA h0 (by push_cast at h1;omega) c)
theorem aheadM_vi {N v:List Int} {st:Int} (h:Vi A N0 N v):∀ (r:Nat),r≤A.length→aheadM A N st r=aheadM (iota A.length) v st r
 | 0,_=>rfl
 | r+1,hr=>by
  simp only [aheadM]
  rw [h.rd (k:=(r:Int)) (by omega) (by omega),aheadM_vi h r (by omega)]
theorem backedM_vi (hA:Pos A N0.length) {cl sg to:Int} {ar:Bool}:∀ (r:Nat) (k last:Int) (N v:List Int),0≤k→k+r≤A.length→Vi A N0 N v→Vi A N0 (backedM A cl sg to ar r k last N) (backedM (iota A.length) cl sg to ar r k last v)
 | 0,_,_,_,_,_,_,h=>h
 | r+1,k,last,N,v,h0,h1,h=>by
  have hk:k<A.length:=by push_cast at h1;omega
  have h1':k+1+(r:Int)≤A.length:=by push_cast at h1;omega
  simp only [backedM]
  rw [h.rd h0 hk]
  generalize Go.Ab.rd v (Go.Ab.rd (iota A.length) k)=c
  by_cases c1:isStrong c
  ·rw [if_pos c1,if_pos c1];exact backedM_vi hA r _ _ _ _ (by omega) h1' h
  rw [if_neg c1,if_neg c1]
  by_cases c2:ar=true∧c=2
  ·rw [if_pos c2,if_pos c2];exact backedM_vi hA r _ _ _ _ (by omega) h1' h
  rw [if_neg c2,if_neg c2]
  by_cases c3:c=cl∧last=sg
  ·rw [if_pos c3,if_pos c3];exact backedM_vi hA r _ _ _ _ (by omega) h1' (h.become hA h0 hk to)
  ·rw [if_neg c3,if_neg c3];exact backedM_vi hA r _ _ _ _ (by omega) h1' h
theorem extM_vi (pin:Int→Prop) [DecidablePred pin] {N v:List Int} (h:Vi A N0 N v):∀ (r:Nat) (b:Int),0≤b→b+r≤A.length→extM pin A N r b=extM pin (iota A.length) v r b
 | 0,_,_,_=>rfl
 | r+1,b,h0,h1=>by
  have hk:b<A.length:=by push_cast at h1;omega
  simp only [extM]
  rw [h.rd h0 hk,extM_vi pin h r (b+1) (by omega) (by push_cast at h1;omega)]
theorem extM_rg (pin:Int→Prop) [DecidablePred pin] {B N:List Int}:∀ (r:Nat) (b:Int),b≤extM pin B N r b∧extM pin B N r b≤b+r
 | 0,b=>by simp [extM]
 | r+1,b=>by
  simp only [extM]
  split
  ·have:=extM_rg pin (B:=B) (N:=N) r (b+1);push_cast;omega
  ·push_cast;omega
theorem rowsM_vi (pin:Int→Prop) [DecidablePred pin] {G G':Int→Int→List Int→List Int} (hG:∀ (a b:Int) (N v:List Int),0≤a→a<b→b≤A.length→Vi A N0 N v→Vi A N0 (G a b N) (G' a b v)) :
 ∀ (r:Nat) (a:Int) (N v:List Int),0≤a→Vi A N0 N v→Vi A N0 (rowsM pin G A r a N) (rowsM pin G' (iota A.length) r a v)
 | 0,_,_,_,_,h=>h
 | r+1,a,N,v,h0,h=>by
  simp only [rowsM]
  rw [iota_length]
  by_cases c:a<A.length
  ·rw [if_pos c,if_pos c,extM_vi pin h _ _ h0 (by omega)]
   have hg:=extM_rg pin (B:=iota A.length) (N:=v) (A.length-a.toNat) a
   generalize extM pin (iota A.length) v (A.length-a.toNat) a=b at hg
   by_cases c2:b>a
   ·rw [if_pos c2,if_pos c2];exact rowsM_vi pin hG r _ _ _ (by omega) (hG a b N v h0 c2 (by omega) h)
   ·rw [if_neg c2,if_neg c2];exact rowsM_vi pin hG r _ _ _ (by omega) h
  ·rw [if_neg c,if_neg c];exact h
theorem etM_vi (hA:Pos A N0.length) (a b:Int) (N v:List Int) (h0:0≤a) (hab:a<b) (hb:b≤A.length) (h:Vi A N0 N v):Vi A N0 (etM A a b N) (etM (iota A.length) a b v):=by
 unfold etM
 rw [iota_length]
 have e:((0<a∧Go.Ab.rd N (Go.Ab.rd A (a-1))=3)∨(b<A.length∧Go.Ab.rd N (Go.Ab.rd A b)=3))↔((0<a∧Go.Ab.rd v (Go.Ab.rd (iota A.length) (a-1))=3)∨(b<A.length∧Go.Ab.rd v (Go.Ab.rd (iota A.length) b)=3)):=by
  refine or_congr (and_congr_right fun h2=>?_) (and_congr_right fun h2=>?_)
  ·rw [h.rd (by omega) (by omega)]
  ·rw [h.rd (by omega) h2]
 by_cases c:(0<a∧Go.Ab.rd N (Go.Ab.rd A (a-1))=3)∨(b<A.length∧Go.Ab.rd N (Go.Ab.rd A b)=3)
 ·rw [if_pos c,if_pos (e.mp c)];exact allM_vi hA _ _ _ _ h0 (by omega) h
 ·rw [if_neg c,if_neg (fun x=>c (e.mpr x))];exact h
theorem turnM_vi (hA:Pos A N0.length) (p:Int→Prop) [DecidablePred p] {to:Int}:∀ (r:Nat) (k:Int) (N v:List Int),0≤k→k+r≤A.length→Vi A N0 N v→Vi A N0 (turnM p A to r k N) (turnM p (iota A.length) to r k v)
 | 0,_,_,_,_,_,h=>h
 | r+1,k,N,v,h0,h1,h=>by
  have hk:k<A.length:=by push_cast at h1;omega
  have h1':k+1+(r:Int)≤A.length:=by push_cast at h1;omega
  simp only [turnM]
  rw [h.rd h0 hk]
  by_cases c:p (Go.Ab.rd v (Go.Ab.rd (iota A.length) k))
  ·rw [if_pos c,if_pos c];exact turnM_vi hA p r _ _ _ (by omega) h1' (h.become hA h0 hk to)
  ·rw [if_neg c,if_neg c];exact turnM_vi hA p r _ _ _ (by omega) h1' h
theorem esM_vi (hA:Pos A N0.length):∀ (r:Nat) (k:Int) (N v:List Int),1≤k→k+r+1≤A.length∨r=0→Vi A N0 N v→Vi A N0 (esM A r k N) (esM (iota A.length) r k v)
 | 0,_,_,_,_,_,h=>h
 | r+1,k,N,v,h0,h1,h=>by
  have h1'':k+((r+1:Nat):Int)+1≤A.length:=by rcases h1 with h | h <;> omega
  have h1':k+1+(r:Int)+1≤A.length∨r=0:=by omega
  simp only [esM]
  rw [h.rd (k:=k-1) (by omega) (by omega),h.rd (k:=k+1) (by omega) (by omega),h.rd (k:=k) (by omega) (by omega)]
  by_cases c:Go.Ab.rd v (Go.Ab.rd (iota A.length) (k-1))=Go.Ab.rd v (Go.Ab.rd (iota A.length) (k+1))∧((Go.Ab.rd v (Go.Ab.rd (iota A.length) (k-1))=3∧(Go.Ab.rd v (Go.Ab.rd (iota A.length) k)=4∨Go.Ab.rd v (Go.Ab.rd (iota A.length) k)=7))∨(Go.Ab.rd v (Go.Ab.rd (iota A.length) (k-1))=6∧Go.Ab.rd v (Go.Ab.rd (iota A.length) k)=7))
  ·rw [if_pos c,if_pos c];exact esM_vi hA r _ _ _ (by omega) h1' (h.become hA (by omega) (by omega) _)
  ·rw [if_neg c,if_neg c];exact esM_vi hA r _ _ _ (by omega) h1' h
theorem nsmM_vi (hA:Pos A N0.length) (F:List Int):∀ (r:Nat) (k last:Int) (N v:List Int),0≤k→k+r≤A.length→Vi A N0 N v→Vi A N0 (nsmM A F r k last N) (nsmM (iota A.length) (vw A F) r k last v)
 | 0,_,_,_,_,_,_,h=>h
 | r+1,k,last,N,v,h0,h1,h=>by
  have hk:k<A.length:=by push_cast at h1;omega
  have h1':k+1+(r:Int)≤A.length:=by push_cast at h1;omega
  simp only [nsmM]
  have ec:(0<k∧(isOpener (Go.Ab.rd F (Go.Ab.rd A (k-1)))∨Go.Ab.rd F (Go.Ab.rd A (k-1))=22))↔(0<k∧(isOpener (Go.Ab.rd (vw A F) (Go.Ab.rd (iota A.length) (k-1)))∨Go.Ab.rd (vw A F) (Go.Ab.rd (iota A.length) (k-1))=22)):=
   and_congr_right fun h2=>by rw [rdv F (A:=A) (k:=k-1) (by omega) (by omega)]
  have et:(if 0<k∧(isOpener (Go.Ab.rd F (Go.Ab.rd A (k-1)))∨Go.Ab.rd F (Go.Ab.rd A (k-1))=22) then 13 else last)=(if 0<k∧(isOpener (Go.Ab.rd (vw A F) (Go.Ab.rd (iota A.length) (k-1)))∨Go.Ab.rd (vw A F) (Go.Ab.rd (iota A.length) (k-1))=22) then 13 else last):=by
   by_cases c:0<k∧(isOpener (Go.Ab.rd F (Go.Ab.rd A (k-1)))∨Go.Ab.rd F (Go.Ab.rd A (k-1))=22)
   ·rw [if_pos c,if_pos (ec.mp c)]
   ·rw [if_neg c,if_neg (fun x=>c (ec.mpr x))]
  rw [et]
  generalize (if 0<k∧(isOpener (Go.Ab.rd (vw A F) (Go.Ab.rd (iota A.length) (k-1)))∨Go.Ab.rd (vw A F) (Go.Ab.rd (iota A.length) (k-1))=22) then 13 else last)=t
  have hb:=h.become hA h0 hk t
  rw [h.rd h0 hk,hb.rd h0 hk]
  by_cases c:Go.Ab.rd v (Go.Ab.rd (iota A.length) k)=8
  ·rw [if_pos c,if_pos c];exact nsmM_vi hA F r _ _ _ _ (by omega) h1' hb
  ·rw [if_neg c,if_neg c];exact nsmM_vi hA F r _ _ _ _ (by omega) h1' h
theorem weakM_vi (hA:Pos A N0.length) (F:List Int) {st:Int} {N v:List Int} (h:Vi A N0 N v):Vi A N0 (weakM A F st N) (weakM (iota A.length) (vw A F) st v):=by
 unfold weakM
 simp only [iota_length]
 refine backedM_vi hA _ _ _ _ _ (by omega) (by omega) ?_
 refine turnM_vi hA _ _ _ _ _ (by omega) (by omega) ?_
 refine rowsM_vi _ (fun a b N v a0 ab hb hv=>etM_vi hA a b N v a0 ab hb hv) _ _ _ _ (by omega) ?_
 refine esM_vi hA _ _ _ _ (by omega) (by omega) ?_
 refine turnM_vi hA _ _ _ _ _ (by omega) (by omega) ?_
 refine backedM_vi hA _ _ _ _ _ (by omega) (by omega) ?_
 exact nsmM_vi hA F _ _ _ _ _ (by omega) (by omega) h
theorem pairsM_vi {Y:Exts} (C:List Int) {N v:List Int} (h:Vi A N0 N v):∀ (r:Nat) (k:Int) (out op:List (Int×Int)),0≤k→k+r≤A.length→pairsM Y C A N r k out op=pairsM Y (vw A C) (iota A.length) v r k out op
 | 0,_,_,_,_,_=>rfl
 | r+1,k,out,op,h0,h1=>by
  have hk:k<A.length:=by push_cast at h1;omega
  have h1':k+1+(r:Int)≤A.length:=by push_cast at h1;omega
  simp only [pairsM]
  rw [h.rd h0 hk,rdv C h0 hk]
  have ih:=fun out op=>pairsM_vi (Y:=Y) C h r (k+1) out op (by omega) h1'
  simp only [ih]
theorem pairsR_vi {Y:Exts} (C:List Int) {N v:List Int} (h:Vi A N0 N v):pairsR Y C A N=pairsR Y (vw A C) (iota A.length) v:=by
 unfold pairsR
 rw [iota_length,pairsM_vi C h _ _ _ _ (by omega) (by omega)]
theorem scanM_vi {N v:List Int} {dir:Int} (h:Vi A N0 N v):∀ (r:Nat) (k:Int) (f o:Bool),0≤k→k+r≤A.length∨r=0→scanM A N dir r k f o=scanM (iota A.length) v dir r k f o
 | 0,_,_,_,_,_=>rfl
 | r+1,k,f,o,h0,h1=>by
  simp only [scanM]
  rw [h.rd h0 (by omega)]
  exact scanM_vi h r (k+1) _ _ (by omega) (by omega)
theorem trailM_vi (hA:Pos A N0.length) (F:List Int) {to:Int}:∀ (r:Nat) (k:Int) (N v:List Int),0≤k→k+r≤A.length→Vi A N0 N v→Vi A N0 (trailM A F to r k N) (trailM (iota A.length) (vw A F) to r k v)
 | 0,_,_,_,_,_,h=>h
 | r+1,k,N,v,h0,h1,h=>by
  have hk:k<A.length:=by push_cast at h1;omega
  simp only [trailM]
  rw [rdv F h0 hk]
  by_cases c:Go.Ab.rd (vw A F) (Go.Ab.rd (iota A.length) k)=8
  ·rw [if_pos c,if_pos c];exact trailM_vi hA F r _ _ _ (by omega) (by push_cast at h1;omega) (h.become hA h0 hk to)
  ·rw [if_neg c,if_neg c];exact h
theorem bothM_vi (hA:Pos A N0.length) (F:List Int) {to:Int}:∀ (is:List Int) (N v:List Int),(∀ i∈is,0≤i∧i<A.length)→Vi A N0 N v→Vi A N0 (bothM A F to is N) (bothM (iota A.length) (vw A F) to is v)
 | [],_,_,_,h=>h
 | i::is,N,v,hi,h=>by
  have h2:=hi i List.mem_cons_self
  simp only [bothM]
  rw [iota_length]
  exact bothM_vi hA F is _ _ (fun j hj=>hi j (List.mem_cons_of_mem _ hj)) (trailM_vi hA F _ _ _ _ (by omega) (by omega) (h.become hA h2.1 h2.2 to))
theorem bracM_vi (hA:Pos A N0.length) (F:List Int) {dir st:Int}:∀ (P:List (Int×Int)) (N v:List Int),PairOk A.length P→Vi A N0 N v→Vi A N0 (bracM A F dir st P N) (bracM (iota A.length) (vw A F) dir st P v)
 | [],_,_,_,h=>h
 | p::P,N,v,hP,h=>by
  have hp:=hP p List.mem_cons_self
  have hP2:PairOk A.length P:=fun x hx=>hP x (List.mem_cons_of_mem _ hx)
  simp only [bracM]
  rw [scanM_vi h _ _ _ _ (by omega) (by omega),aheadM_vi h _ (by omega)]
  generalize scanM (iota A.length) v dir (p.2-(p.1+1)).toNat (p.1+1) false false=s
  have hm:∀ i∈[p.1,p.2],0≤i∧i<A.length:=fun i hi=>by
   simp only [List.mem_cons,List.not_mem_nil,or_false] at hi
   rcases hi with rfl | rfl <;> omega
  by_cases c1:s.1=false∧s.2=false
  ·rw [if_pos c1,if_pos c1];exact bracM_vi hA F P _ _ hP2 h
  rw [if_neg c1,if_neg c1]
  by_cases c2:s.1=false∧aheadM (iota A.length) v st p.1.toNat=1-dir
  ·rw [if_pos c2,if_pos c2];exact bracM_vi hA F P _ _ hP2 (bothM_vi hA F _ _ _ hm h)
  ·rw [if_neg c2,if_neg c2];exact bracM_vi hA F P _ _ hP2 (bothM_vi hA F _ _ _ hm h)
theorem neuM_vi (hA:Pos A N0.length) {st en lv:Int} (a b:Int) (N v:List Int) (h0:0≤a) (hab:a<b) (hb:b≤A.length) (h:Vi A N0 N v):Vi A N0 (neuM A st en lv a b N) (neuM (iota A.length) st en lv a b v):=by
 unfold neuM
 have e:neuTo A st en lv a b N=neuTo (iota A.length) st en lv a b v:=by
  unfold neuTo
  rw [iota_length,aheadM_vi h _ (by omega)]
  by_cases c:b<A.length
  ·rw [if_pos c,if_pos c,h.rd (by omega) c]
  ·rw [if_neg c,if_neg c]
 rw [e]
 exact allM_vi hA _ _ _ _ h0 (by omega) h
theorem restN_vi (hA:Pos A N0.length) {st en lv:Int} {N v:List Int} (h:Vi A N0 N v):Vi A N0 (restN A st en lv N) (restN (iota A.length) st en lv v):=by
 unfold restN
 rw [iota_length]
 exact rowsM_vi _ (fun a b N v a0 ab hb hv=>neuM_vi hA a b N v a0 ab hb hv) _ _ _ _ (by omega) h
theorem bumpM_vi (hA:Pos A N0.length) {M0 N w:List Int} (hN:Vi A M0 N w) {lv:Int}:∀ (r:Nat) (k:Int) (L v:List Int),0≤k→k+r≤A.length→Vi A N0 L v→Vi A N0 (bumpM A N lv r k L) (bumpM (iota A.length) w lv r k v)
 | 0,_,_,_,_,_,h=>h
 | r+1,k,L,v,h0,h1,h=>by
  have hk:k<A.length:=by push_cast at h1;omega
  simp only [bumpM]
  rw [hN.rd h0 hk,h.rd h0 hk]
  exact bumpM_vi hA hN r _ _ _ (by omega) (by push_cast at h1;omega) (h.put hA h0 hk _)
end
def ownN (Y:Exts) (lv st en:Int) (c f v:List Int):List Int:=restN (iota v.length) st en lv (bracketsM Y c (iota v.length) f lv st (weakM (iota v.length) f st v))
def ownL (Y:Exts) (lv st en:Int) (c f v l:List Int):List Int:=bumpM (iota v.length) (ownN Y lv st en c f v) lv v.length 0 l
theorem seqStep_vi {Y:Exts} {C F N L N0 L0:List Int} {e:SE} (hp:∀ L,(Y.SM L).Perm L) (hN:Pos e.A N0.length) (hL:Pos e.A L0.length) (vN:Vi e.A N0 N (vw e.A N)) (vL:Vi e.A L0 L (vw e.A L)) :
 Vi e.A N0 (seqStepM Y C F e N L).1 (ownN Y e.lv e.st e.en (vw e.A C) (vw e.A F) (vw e.A N))∧Vi e.A L0 (seqStepM Y C F e N L).2 (ownL Y e.lv e.st e.en (vw e.A C) (vw e.A F) (vw e.A N) (vw e.A L)):=by
 have h1:=weakM_vi hN F (st:=e.st) vN
 have h2:Vi e.A N0 (bracketsM Y C e.A F e.lv e.st (weakM e.A F e.st N)) (bracketsM Y (vw e.A C) (iota e.A.length) (vw e.A F) e.lv e.st (weakM (iota e.A.length) (vw e.A F) e.st (vw e.A N))):=by
  unfold bracketsM
  rw [pairsR_vi C h1]
  refine bracM_vi hN F _ _ _ ?_ h1
  have:=pairsR_ok (ro:=0) (C:=vw e.A C) (A:=iota e.A.length) (N:=weakM (iota e.A.length) (vw e.A F) e.st (vw e.A N)) hp
  rwa [iota_length] at this
 have h3:=restN_vi hN (st:=e.st) (en:=e.en) (lv:=e.lv) h2
 unfold seqStepM ownL ownN
 rw [vw_len]
 exact ⟨h3,bumpM_vi hL h3 _ _ _ _ (by omega) (by omega) vL⟩
end Go.Proofs.Ythkklpegjcnjoaa
