/- A part of the proof: no condition but those that each theorem states. -/
import Derived.Test.YthkklpegjcnjoaaDD
import Derived.Test.YthkklpegjcnjoaaDA
import Derived.Test.YthkklpegjcnjoaaPA
import Derived.Test.YthkklpegjcnjoaaDB
import Derived.Test.YthkklpegjcnjoaaDC
import Derived.Test.YthkklpegjcnjoaaLgT
import Derived.Test.YthkklpegjcnjoaaTD
set_option linter.unusedVariables false
set_option linter.unusedSimpArgs false
namespace Go.Proofs.Ythkklpegjcnjoaa
open Go.Ab
theorem sp_eq {L S:List Int} {n:Nat}:∀ (r:Nat) (i fr:Int) (R:List RunE),i+r=n→spD L S n (r+1) i fr R=splitM L S r i (R++[⟨fr,i,rd L fr,rd S fr⟩])
 | 0,i,fr,R,h=>by
  simp only [spD,splitM]
  rw [if_pos (.inl (by simpa using h))]
 | r+1,i,fr,R,h=>by
  push_cast at h
  have hstep:splitStep L S i (R++[⟨fr,i,rd L fr,rd S fr⟩])=if rd L fr=rd L i∧rd S fr=rd S i then R++[⟨fr,i+1,rd L fr,rd S fr⟩] else R++[⟨fr,i,rd L fr,rd S fr⟩]++[⟨i,i+1,rd L i,rd S i⟩]:=by
   unfold splitStep
   simp only [List.getLast?_append,List.getLast?_singleton,Option.or,List.dropLast_concat]
  show (if cutD L S n i fr then spD L S n (r+1) (i+1) i (R++[⟨fr,i,rd L fr,rd S fr⟩]) else spD L S n (r+1) (i+1) fr R)=splitM L S r (i+1) (splitStep L S i (R++[⟨fr,i,rd L fr,rd S fr⟩]))
  rw [hstep]
  by_cases hc:rd L fr=rd L i∧rd S fr=rd S i
  ·rw [if_pos hc,if_neg (fun x=>by rcases x with x | x | x;omega;exact x hc.1.symm;exact x hc.2.symm)]
   exact sp_eq r (i+1) fr R (by omega)
  ·rw [if_neg hc,if_pos (by
    by_cases hL:rd L i=rd L fr
    ·exact .inr (.inr (fun h2=>hc ⟨hL.symm,h2.symm⟩))
    ·exact .inr (.inl hL))]
   exact sp_eq r (i+1) i _ (by omega)
theorem split_eq {L S:List Int} {n:Nat}:splitD L S n=splitM L S n 0 []:=by
 cases n with
 | zero=>rfl
 | succ n=>
  have:=sp_eq (L:=L) (S:=S) (n:=n+1) n 1 0 [] (by push_cast;omega)
  exact this
theorem dnS_zero {T:List Int}:∀ (r:Nat),dnS T 0 r=0↔∀ k:Nat,k<r→¬ 1<rd T k
 | 0=>⟨fun _ k h=>by omega,fun _=>rfl⟩
 | r+1=>by
  simp only [dnS]
  by_cases h:1<rd T r
  ·rw [if_pos h]
   exact ⟨fun e=>by omega,fun e=>absurd h (e r (by omega))⟩
  ·rw [if_neg h,dnS_zero r]
   exact ⟨fun e k hk=>by by_cases e2:k=r;rw [e2];exact h;exact e k (by omega),fun e k hk=>e k (by omega)⟩
theorem dnS_or {T:List Int} {z:Int}:∀ (r:Nat),dnS T z r=if dnS T 0 r≠0 then dnS T 0 r else z
 | 0=>by rw [if_neg (by simp [dnS])];rfl
 | r+1=>by
  by_cases h:1<rd T r
  ·have e:∀ w,dnS T w (r+1)=rd T r:=fun w=>if_pos h
   rw [e z,e 0,if_pos (by omega)]
  ·have e:∀ w,dnS T w (r+1)=dnS T w r:=fun w=>if_neg h
   rw [e z,e 0];exact dnS_or r
theorem upS_zero {T:List Int}:∀ (r:Nat) (j:Int),upS T r j=0↔∀ k:Int,j≤k→k<j+r→¬ 1<rd T k
 | 0,j=>⟨fun _ k h h2=>by omega,fun _=>rfl⟩
 | r+1,j=>by
  simp only [upS]
  by_cases h:1<rd T j
  ·rw [if_pos h]
   exact ⟨fun e=>by omega,fun e=>absurd h (e j (Int.le_refl _) (by push_cast;omega))⟩
  ·rw [if_neg h,upS_zero r (j+1)]
   exact ⟨fun e k hk h2=>by by_cases e2:k=j;rw [e2];exact h;exact e k (by omega) (by push_cast at h2;omega),fun e k hk h2=>e k (by omega) (by push_cast;omega)⟩
theorem upS_succ {T:List Int}:∀ (r:Nat) (j:Int),upS T (r+1) j=if upS T r j≠0 then upS T r j else if 1<rd T (j+r) then rd T (j+r) else 0
 | 0,j=>by simp [upS]
 | r+1,j=>by
  have ih:=upS_succ (T:=T) r (j+1)
  rw [show upS T (r+1+1) j=if 1<rd T j then rd T j else upS T (r+1) (j+1) from rfl,ih,show upS T (r+1) j=if 1<rd T j then rd T j else upS T r (j+1) from rfl]
  by_cases h:1<rd T j
  ·rw [if_pos h,if_pos h,if_pos (by omega)]
  ·rw [if_neg h,if_neg h,show j+1+(r:Int)=j+((r+1:Nat):Int) by push_cast;omega]
theorem fillM_pt {x:Int}:∀ (r:Nat) (j:Int) (S:List Int),0≤j→j+r≤S.length→∀ i:Int,0≤i→rd (fillM x r j S) i=if j≤i∧i<j+r then x else rd S i
 | 0,j,S,h0,h1,i,hi=>by rw [if_neg (by omega)];rfl
 | r+1,j,S,h0,h1,i,hi=>by
  push_cast at h1
  simp only [fillM]
  rw [fillM_pt r (j+1) _ (by omega) (by rw [List.length_set];omega) i hi,rd_set h0 hi (by omega)]
  push_cast
  by_cases e:i=j
  ·rw [if_neg (by omega),if_pos e,if_pos (by omega)]
  ·rw [if_neg e]
   by_cases e2:j+1≤i∧i<j+1+r
   ·rw [if_pos e2,if_pos (by omega)]
   ·rw [if_neg e2,if_neg (by omega)]
def scS (T:List Int) (i j:Nat):Int:=dnS T (upS T (i-j) j) (j+1)
theorem scr_pt {T:List Int} {n:Nat} (hT:∀ k:Int,0≤rd T k):∀ (r i:Nat) (last:Int) (S:List Int),i+r=n→S.length=n→last=dnS T 0 i→(∀ j:Nat,j<i→rd S j=scS T i j)→∀ j:Nat,j<n→rd (scrM T r i last S) j=scS T n j
 | 0,i,last,S,hn,hl,hlast,hS,j,hj=>by
  obtain rfl:i=n:=by omega
  exact hS j hj
 | r+1,i,last,S,hn,hl,hlast,hS,j,hj=>by
  have hown:isOwn (rd T i)↔1<rd T i:=by
   have:=hT i
   unfold isOwn;omega
  simp only [scrM]
  rw [show ((i:Int)+1)=((i+1:Nat):Int) by push_cast;rfl]
  have hnew:∀ j':Nat,j'<i→scS T (i+1) j'=if dnS T 0 (j'+1)≠0 then dnS T 0 (j'+1) else if upS T (i-j') j'≠0 then upS T (i-j') j' else if 1<rd T i then rd T i else 0:=fun j' h=>by
   unfold scS
   rw [dnS_or,show i+1-j'=(i-j')+1 by omega,upS_succ,show (j':Int)+((i-j':Nat):Int)=i by omega]
  have hold:∀ j':Nat,scS T i j'=if dnS T 0 (j'+1)≠0 then dnS T 0 (j'+1) else upS T (i-j') j':=fun j'=>by unfold scS;rw [dnS_or]
  by_cases ho:1<rd T i
  ·rw [if_pos (hown.mpr ho)]
   have hd1:dnS T 0 (i+1)=rd T i:=by simp only [dnS];rw [if_pos ho]
   refine scr_pt hT r (i+1) _ _ (by omega) ?_ hd1.symm (fun j' hj'=>?_) j hj
   ·rw [List.length_set];split
    ·rw [fillM_length];exact hl
    ·exact hl
   ·have hl2:((if last=0 then fillM (rd T i) (i:Int).toNat 0 S else S)).length=n:=by
     split
     ·rw [fillM_length];exact hl
     ·exact hl
    rw [rd_set (by omega) (by omega) (by rw [hl2];omega)]
    by_cases e:j'=i
    ·subst e
     rw [if_pos rfl]
     unfold scS
     simp only [dnS];rw [if_pos ho]
    ·rw [if_neg (by omega),hnew j' (by omega)]
     by_cases hl0:last=0
     ·rw [if_pos hl0,fillM_pt _ _ _ (Int.le_refl _) (by omega) _ (by omega),if_pos (by omega)]
      have hz:=(dnS_zero i).mp (by rw [←hlast];exact hl0)
      have h1:dnS T 0 (j'+1)=0:=(dnS_zero _).mpr (fun k hk=>hz k (by omega))
      have h2:upS T (i-j') j'=0:=(upS_zero _ _).mpr (fun k hk h2=>by
       have:=hz k.toNat (by omega)
       rwa [show ((k.toNat:Nat):Int)=k by omega] at this)
      rw [if_neg (fun x=>x h1),if_neg (fun x=>x h2),if_pos ho]
     ·rw [if_neg hl0,hS j' (by omega),hold]
      by_cases h1:dnS T 0 (j'+1)=0
      ·rw [if_neg (fun x=>x h1),if_neg (fun x=>x h1)]
       have h2:upS T (i-j') j'≠0:=fun h=>hl0 (by
        rw [hlast]
        refine (dnS_zero i).mpr (fun k hk=>?_)
        by_cases hkj:k<j'+1
        ·exact (dnS_zero _).mp h1 k hkj
        ·exact (upS_zero _ _).mp h k (by omega) (by omega))
       rw [if_pos h2]
      ·rw [if_pos h1,if_pos h1]
  ·rw [if_neg (fun h=>ho (hown.mp h))]
   have hd1:dnS T 0 (i+1)=last:=by simp only [dnS];rw [if_neg ho];exact hlast.symm
   refine scr_pt hT r (i+1) _ _ (by omega) (by rw [List.length_set];exact hl) hd1.symm (fun j' hj'=>?_) j hj
   rw [rd_set (by omega) (by omega) (by omega)]
   by_cases e:j'=i
   ·subst e
    rw [if_pos rfl]
    unfold scS
    have h0:upS T (j'+1-j') j'=0:=(upS_zero _ _).mpr (fun k hk h2=>by rw [show k=(j':Int) by omega];exact ho)
    rw [dnS_or,hd1,h0]
    by_cases hz:last=0
    ·rw [if_neg (fun x=>x hz),hz]
    ·rw [if_pos hz]
   ·rw [if_neg (by omega),hS j' (by omega),hold,hnew j' (by omega),if_neg ho]
    by_cases h1:dnS T 0 (j'+1)=0
    ·rw [if_neg (fun x=>x h1),if_neg (fun x=>x h1)]
     by_cases h2:upS T (i-j') j'=0
     ·rw [if_neg (fun x=>x h2),h2]
     ·rw [if_pos h2]
    ·rw [if_pos h1,if_pos h1]
theorem scripts_eq {Y:Exts} {C:List Int} (hT:∀ c:Int,0≤Y.LS c):scriptsD (C.map Y.LS)=scriptsM Y C:=by
 have hT2:∀ k:Int,0≤rd (C.map Y.LS) k:=fun k=>by
  unfold rd
  rw [List.getD_eq_getElem?_getD,List.getElem?_map]
  cases C[k.toNat]? with
  | none=>exact Int.le_refl _
  | some c=>exact hT c
 have hlm:(C.map Y.LS).length=C.length:=List.length_map _
 refine ext_rd (m:=C.length) ?_ ?_ (fun i h0 h1=>?_)
 ·unfold scriptsD;rw [List.length_map,List.length_range,hlm]
 ·unfold scriptsM;rw [scrM_length,List.length_replicate]
 ·have:=scr_pt (T:=C.map Y.LS) (n:=C.length) hT2 C.length 0 0 (List.replicate C.length 0) (by omega) (by simp) rfl (fun j h=>by omega) i.toNat (by omega)
  rw [show ((i.toNat:Nat):Int)=i by omega] at this
  unfold scriptsM
  rw [show ((0:Nat):Int)=0 from rfl] at this
  rw [this]
  unfold scriptsD scS scriptD
  rw [rd_at h0 (by rw [List.length_map,List.length_range,hlm];exact h1),List.getElem_map,List.getElem_range,hlm]
theorem sorted_ext:∀ (a b:List (Int×Int)),a.Pairwise (fun x y=>x.1<y.1)→b.Pairwise (fun x y=>x.1<y.1)→(∀ x,x∈a↔x∈b)→a=b
 | [],[],_,_,_=>rfl
 | [],y::b,_,_,h=>absurd ((h y).mpr List.mem_cons_self) (by simp)
 | x::a,[],_,_,h=>absurd ((h x).mp List.mem_cons_self) (by simp)
 | x::a,y::b,ha,hb,h=>by
  have ha2:=List.pairwise_cons.mp ha
  have hb2:=List.pairwise_cons.mp hb
  have hxy:x=y:=by
   rcases List.mem_cons.mp ((h x).mp List.mem_cons_self) with e | e
   ·exact e
   ·rcases List.mem_cons.mp ((h y).mpr List.mem_cons_self) with e2 | e2
    ·exact e2.symm
    ·have h1:=hb2.1 x e
     have h2:=ha2.1 y e2
     omega
  subst hxy
  rw [sorted_ext a b ha2.2 hb2.2 (fun z=>⟨fun hz=>?_,fun hz=>?_⟩)]
  ·rcases List.mem_cons.mp ((h z).mp (List.mem_cons_of_mem _ hz)) with e | e
   ·have:=ha2.1 z hz;rw [e] at this;omega
   ·exact e
  ·rcases List.mem_cons.mp ((h z).mpr (List.mem_cons_of_mem _ hz)) with e | e
   ·have:=hb2.1 z hz;rw [e] at this;omega
   ·exact e
theorem gath_mem {mt:List Int}:∀ (r:Nat) (k:Int) (out:List (Int×Int)) (x:Int×Int),x∈gathD mt r k out↔x∈out∨(k≤x.1∧x.1<k+r∧x.2=rd mt x.1∧0<x.2)
 | 0,k,out,x=>⟨fun h=>.inl h,fun h=>h.elim id (fun h=>by omega)⟩
 | r+1,k,out,x=>by
  simp only [gathD]
  rw [gath_mem r (k+1)]
  by_cases hp:0<rd mt k
  ·rw [if_pos hp,List.mem_append,List.mem_singleton]
   constructor
   ·rintro ((h | h) | h)
    ·exact .inl h
    ·right;subst h;exact ⟨Int.le_refl _,by push_cast;omega,rfl,hp⟩
    ·right;push_cast;exact ⟨by omega,by omega,h.2.2⟩
   ·rintro (h | ⟨h1,h2,h3,h4⟩)
    ·exact .inl (.inl h)
    ·push_cast at h2
     by_cases e:x.1=k
     ·left;right
      exact Prod.ext e (by rw [h3,e])
     ·right;exact ⟨by omega,by omega,h3,h4⟩
  ·rw [if_neg hp]
   constructor
   ·rintro (h | h)
    ·exact .inl h
    ·right;push_cast;exact ⟨by omega,by omega,h.2.2⟩
   ·rintro (h | ⟨h1,h2,h3,h4⟩)
    ·exact .inl h
    ·push_cast at h2
     by_cases e:x.1=k
     ·rw [e] at h3;omega
     ·right;exact ⟨by omega,by omega,h3,h4⟩
theorem gath_sorted {mt:List Int}:∀ (r:Nat) (k:Int) (out:List (Int×Int)),out.Pairwise (fun x y=>x.1<y.1)→(∀ x∈out,x.1<k)→(gathD mt r k out).Pairwise (fun x y=>x.1<y.1)
 | 0,_,_,h,_=>h
 | r+1,k,out,h,hl=>by
  simp only [gathD]
  refine gath_sorted r (k+1) _ ?_ ?_
  ·split
   ·exact List.pairwise_append.mpr ⟨h,by simp,fun a ha b hb=>by rw [List.mem_singleton.mp hb];exact hl a ha⟩
   ·exact h
  ·intro x hx
   split at hx
   ·rcases List.mem_append.mp hx with hx | hx
    ·have:=hl x hx;omega
    ·rw [List.mem_singleton.mp hx];dsimp only;omega
   ·have:=hl x hx;omega
theorem rd_nat {A:List Int} {k:Nat} (h:k<A.length):rd A (k:Int)=A[k]:=by unfold rd;rw [Int.toNat_natCast,List.getD_eq_getElem?_getD,List.getElem?_eq_getElem h];rfl
structure MateR (m:Nat) (k:Int) (out:List (Int×Int)) (op mt:List Int):Prop where
 io:∀ p q:Int,(p,q)∈out↔(0≤p∧p<m∧rd mt p=q∧0<q)
 op0:∀ p∈op,0≤p∧p<k∧rd mt p=0
 nd:op.Nodup
 ml:mt.length=m
 ol:op.length≤63
 hi:∀ p:Int,k≤p→p<m→rd mt p=0
theorem findJ_open {Y:Exts} {C:List Int} {code:Int} {op:List Int} (hbr:∀ x,brD x brP=(Y.BO x,Y.BK x)):∀ j:Nat,j≤op.length→findJ code (op.map fun p=>(p,Y.BO (rd C p))) j=openJ C code op j
 | 0,_=>rfl
 | j+1,hj=>by
  have e:rd2 (op.map fun p=>(p,Y.BO (rd C p))) j=(rd op j,Y.BO (rd C (rd op j))):=by
   unfold rd2
   rw [List.getD_eq_getElem?_getD,List.getElem?_map,rd_nat (show j<op.length by omega),Int.toNat_natCast,List.getElem?_eq_getElem (show j<op.length by omega)]
   rfl
  simp only [findJ,openJ]
  rw [e,hbr]
  dsimp only
  rw [findJ_open hbr j (by omega)]
theorem mate_rel {Y:Exts} {C N:List Int} {m:Nat} (hbr:∀ x,brD x brP=(Y.BO x,Y.BK x)) (hN:N.length=m):∀ (r:Nat) (k:Int) (out:List (Int×Int)) (op mt:List Int),0≤k→k+r=m→MateR m k out op mt →
  match mateD C N r k op mt with
  | none=>pairsM Y C (iota m) N r k out (op.map fun p=>(p,Y.BO (rd C p)))=none
  | some mt'=>∃ out' op',pairsM Y C (iota m) N r k out (op.map fun p=>(p,Y.BO (rd C p)))=some out'∧MateR m m out' op' mt'
 | 0,k,out,op,mt,h0,h1,h=>⟨out,op,rfl,{ h with op0:=fun p hp=>by have:=h.op0 p hp;push_cast at h1;exact ⟨this.1,by omega,this.2.2⟩,hi:=fun p a d=>by omega }⟩
 | r+1,k,out,op,mt,h0,h1,h=>by
  have hk:k<m:=by push_cast at h1;omega
  have h1':k+1+(r:Int)=m:=by push_cast at h1;omega
  have hop1:∀ p∈op,0≤p∧p<k+1∧rd mt p=0:=fun p hp=>by have:=h.op0 p hp;exact ⟨this.1,by omega,this.2.2⟩
  simp only [mateD,pairsM]
  rw [rd_iota h0 hk,hbr]
  dsimp only
  by_cases c1:rd N k≠13∨Y.BK (rd C k)=0
  ·rw [if_pos c1,if_pos c1]
   exact mate_rel (C:=C) hbr hN r (k+1) out op mt (by omega) h1' { h with op0:=hop1,hi:=fun p a d=>h.hi p (by omega) d }
  rw [if_neg c1,if_neg c1]
  by_cases c2:Y.BK (rd C k)=1
  ·rw [if_pos c2,List.length_map]
   by_cases c3:op.length=63
   ·rw [if_pos c3,if_pos ⟨c2,by omega⟩]
   ·rw [if_neg c3,if_neg (fun x=>c3 (by have:=h.ol;omega)),if_pos c2]
    have:=mate_rel (C:=C) hbr hN r (k+1) out (op++[k]) mt (by omega) h1' { h with
     op0:=fun p hp=>by
      rcases List.mem_append.mp hp with hp | hp
      ·exact hop1 p hp
      ·rw [List.mem_singleton.mp hp]
       exact ⟨h0,by omega,h.hi k (Int.le_refl _) hk⟩
     nd:=List.nodup_append.mpr ⟨h.nd,by simp,fun a ha b hb e=>by have:=h.op0 a ha;rw [List.mem_singleton.mp hb] at e;omega⟩
     ol:=by rw [List.length_append,List.length_singleton];have:=h.ol;omega
     hi:=fun p a d=>h.hi p (by omega) d }
    rw [List.map_append] at this
    exact this
  ·rw [if_neg c2,if_neg (fun x=>c2 x.1),if_neg c2,List.length_map,findJ_open hbr _ (Nat.le_refl _)]
   cases hj:openJ C (rd C k) op op.length with
   | none=>
    dsimp only
    exact mate_rel (C:=C) hbr hN r (k+1) out op mt (by omega) h1' { h with op0:=hop1,hi:=fun p a d=>h.hi p (by omega) d }
   | some j=>
    have hjl:=openJ_lt _ _ hj
    dsimp only
    have e:rd2 (op.map fun p=>(p,Y.BO (rd C p))) j=(rd op j,Y.BO (rd C (rd op j))):=by
     unfold rd2
     rw [List.getD_eq_getElem?_getD,List.getElem?_map,rd_nat (show j<op.length by omega),Int.toNat_natCast,List.getElem?_eq_getElem (show j<op.length by omega)]
     rfl
    rw [e,←List.map_take]
    have hmem:rd op j∈op:=rd_memA (by omega) (by omega)
    have hpj:=h.op0 _ hmem
    have hnt:rd op j∉op.take j:=fun hx=>by
     rw [rd_nat hjl] at hx
     obtain ⟨i,hi,he⟩:=List.mem_take_iff_getElem.mp hx
     have:=(List.getElem_inj h.nd).mp he
     omega
    refine mate_rel (C:=C) hbr hN r (k+1) (out++[(rd op j,k)]) (op.take j) (mt.set (rd op j).toNat k) (by omega) h1' ⟨fun p q=>?_,fun p hp=>?_,h.nd.sublist (List.take_sublist _ _),by rw [List.length_set];exact h.ml,by rw [List.length_take];have:=h.ol;omega,fun p a d=>by rw [rd_set hpj.1 (by omega) (by rw [h.ml];omega),if_neg (by omega)];exact h.hi p (by omega) d⟩
    ·rw [List.mem_append,List.mem_singleton,h.io]
     constructor
     ·rintro (⟨g1,g2,g3,g4⟩ | g)
      ·refine ⟨g1,g2,?_,g4⟩
       rw [rd_set hpj.1 g1 (by rw [h.ml];omega),if_neg (fun e=>by rw [e,hpj.2.2] at g3;omega)];exact g3
      ·cases g
       exact ⟨hpj.1,by omega,by rw [rd_set hpj.1 hpj.1 (by rw [h.ml];omega),if_pos rfl],by omega⟩
     ·rintro ⟨g1,g2,g3,g4⟩
      rw [rd_set hpj.1 g1 (by rw [h.ml];omega)] at g3
      by_cases e:p=rd op j
      ·rw [if_pos e] at g3;right;rw [e,g3]
      ·rw [if_neg e] at g3;left;exact ⟨g1,g2,g3,g4⟩
    ·have hp2:=List.mem_of_mem_take hp
     have:=hop1 p hp2
     refine ⟨this.1,this.2.1,?_⟩
     rw [rd_set hpj.1 this.1 (by rw [h.ml];omega),if_neg (fun e=>hnt (by rw [←e];exact hp))]
     exact this.2.2
theorem pairs_eq {Y:Exts} {C N:List Int} {m:Nat} (hbr:∀ x,brD x brP=(Y.BO x,Y.BK x)) (hP:∀ L,(Y.SM L).Perm L) (hS:∀ L,(Y.SM L).Pairwise (fun x y=>x.1≤y.1)) (hN:N.length=m):pairsR Y C (iota m) N=pairsD C N:=by
 have h:=mate_rel (C:=C) hbr hN m 0 [] [] (List.replicate m 0) (Int.le_refl _) (by omega) ⟨fun p q=>⟨fun h=>(by cases h),fun ⟨h1,h2,h3,h4⟩=>(by rw [rd_at h1 (by simp;exact h2)] at h3;simp at h3;omega)⟩,fun p hp=>(by cases hp),List.nodup_nil,List.length_replicate,Nat.zero_le _,fun p h1 h2=>(by rw [rd_at h1 (by simp;exact h2)];simp)⟩
 unfold pairsR pairsD
 rw [iota_length,hN]
 cases hm:mateD C N m 0 [] (List.replicate m 0) with
 | none=>
  rw [hm] at h
  dsimp only at h
  rw [show pairsM Y C (iota m) N m 0 [] []=none from h]
 | some mt=>
  rw [hm] at h
  dsimp only at h
  obtain ⟨out,op,h1,h2⟩:=h
  rw [show pairsM Y C (iota m) N m 0 [] []=some out from h1]
  dsimp only
  have hnd:(out.map Prod.fst).Nodup:=pairsM_nodup m 0 [] [] out (by simp) (by simp) h1
  have hst:(Y.SM out).Pairwise (fun x y=>x.1<y.1):=by
   have hn2:((Y.SM out).map Prod.fst).Nodup:=(((hP out).map Prod.fst).nodup_iff).mpr hnd
   have hn3:(Y.SM out).Pairwise (fun x y=>x.1≠y.1):=List.pairwise_map.mp hn2
   exact ((hS out).and hn3).imp (fun {a b} h=>by have:=h.1;have:=h.2;omega)
  refine sorted_ext _ _ hst (gath_sorted m 0 [] List.Pairwise.nil (fun x hx=>by cases hx)) (fun x=>?_)
  rw [(hP out).mem_iff,gath_mem,show x∈out↔(x.1,x.2)∈out from Iff.rfl,h2.io]
  constructor
  ·rintro ⟨g1,g2,g3,g4⟩
   exact .inr ⟨g1,by omega,g3.symm,g4⟩
  ·rintro (g | ⟨g1,g2,g3,g4⟩)
   ·cases g
   ·exact ⟨g1,by omega,g3.symm,g4⟩
theorem scan_eq {m:Nat} {V:List Int} {d:Int} (hd:d=0∨d=1):∀ (r:Nat) (k:Int) (x y:Bool),0≤k→k+r≤m∨r=0 →
 scanM (iota m) V d r k (if d=0 then x else y) (if d=0 then y else x)=if d=0 then scanS V r k x y else ((scanS V r k x y).2,(scanS V r k x y).1)
 | 0,k,x,y,_,_=>by
  rcases hd with rfl | rfl <;> rfl
 | r+1,k,x,y,h0,h1=>by
  have hk:k<m:=by rcases h1 with h | h;push_cast at h;omega;omega
  have h1':k+1+(r:Int)≤m∨r=0:=by rcases h1 with h | h;left;push_cast at h;omega;omega
  have ih:=scan_eq (V:=V) hd r (k+1) (x||decide (sideM (rd V k)=0)) (y||decide (sideM (rd V k)=1)) (by omega) h1'
  simp only [scanM,scanS]
  rw [rd_iota h0 hk,←ih]
  rcases hd with rfl | rfl <;> rfl
theorem ahead_eq {m:Nat} {V:List Int} {st:Int}:∀ (r:Nat),r≤m→aheadM (iota m) V st r=aheadS V st r
 | 0,_=>rfl
 | r+1,h=>by
  simp only [aheadM,aheadS]
  rw [rd_iota (by omega) (by omega),ahead_eq r (by omega)]
theorem trail_eq {m:Nat} {F:List Int} {to:Int}:∀ (r:Nat) (k:Int) (V:List Int),0≤k→k+r≤m→trailM (iota m) F to r k V=trailS F to r k V
 | 0,_,_,_,_=>rfl
 | r+1,k,V,h0,h1=>by
  push_cast at h1
  simp only [trailM,trailS]
  rw [rd_iota h0 (by omega),becomeI h0 (by omega),trail_eq r (k+1) _ (by omega) (by omega)]
theorem both_eq {m:Nat} {F:List Int} {to:Int}:∀ (ks V:List Int),(∀ k∈ks,0≤k∧k<m)→bothM (iota m) F to ks V=bothS F to m ks V
 | [],_,_=>rfl
 | k::ks,V,h=>by
  have hk:=h k List.mem_cons_self
  simp only [bothM,bothS]
  rw [iota_length,becomeI hk.1 hk.2,trail_eq _ _ _ (by omega) (by omega),both_eq ks _ (fun j hj=>h j (List.mem_cons_of_mem _ hj))]
theorem aheadS_rg {V:List Int} {st:Int} (hst:st=0∨st=1):∀ r:Nat,aheadS V st r=0∨aheadS V st r=1
 | 0=>hst
 | r+1=>by
  simp only [aheadS]
  split
  ·rcases sideM_cases (rd V r) with e | e | e <;> omega
  ·exact aheadS_rg hst r
theorem brac_eq {m:Nat} {F:List Int} {d st:Int} (hd:d=0∨d=1) (hst:st=0∨st=1):∀ (P:List (Int×Int)) (V:List Int),PairOk m P→bracM (iota m) F d st P V=brkS d st F m P V
 | [],_,_=>rfl
 | p::P,V,h=>by
  have hp:=h p List.mem_cons_self
  have hP:PairOk m P:=fun x hx=>h x (List.mem_cons_of_mem _ hx)
  have hs:=scan_eq (m:=m) (V:=V) hd (p.2-(p.1+1)).toNat (p.1+1) false false (by omega) (by omega)
  rw [show (if d=0 then false else false)=false by split <;> rfl] at hs
  have ha:=ahead_eq (m:=m) (V:=V) (st:=st) p.1.toNat (by omega)
  have har:=aheadS_rg (V:=V) hst p.1.toNat
  simp only [bracM,brkS]
  rw [hs,ha]
  unfold toS
  generalize scanS V (p.2-(p.1+1)).toNat (p.1+1) false false=s
  generalize aheadS V st p.1.toNat=a at har
  obtain ⟨x,y⟩:=s
  have hb:∀ to:Int,bothM (iota m) F to [p.1,p.2] V=bothS F to m [p.1,p.2] V:=fun to=>both_eq _ _ (fun k hk=>by
   rcases List.mem_cons.mp hk with e | e
   ·rw [e];exact ⟨hp.1,hp.2.1⟩
   ·rw [List.mem_singleton.mp e];exact ⟨hp.2.2.1,hp.2.2.2⟩)
  have ih:=fun V=>brac_eq (F:=F) (d:=d) (st:=st) hd hst P V hP
  simp only [hb,ih]
  rcases hd with rfl | rfl <;> rcases x with _ | _ <;> rcases y with _ | _ <;> rcases har with rfl | rfl <;> simp
theorem brackets_eq {Y:Exts} {c f N:List Int} {lv st:Int} {m:Nat} (hbr:∀ x,brD x brP=(Y.BO x,Y.BK x)) (hP:∀ L,(Y.SM L).Perm L) (hS:∀ L,(Y.SM L).Pairwise (fun x y=>x.1≤y.1)) (hN:N.length=m) (hlv:0≤lv) (hst:st=0∨st=1) :
 bracketsM Y c (iota m) f lv st N=bracketsD lv st c f N:=by
 unfold bracketsM bracketsD
 have e:lv.tmod 2=lv%2:=Int.tmod_eq_emod_of_nonneg hlv
 have hok:PairOk m (pairsD c N):=by have:=pairsD_ok (C:=c) (V:=N);rwa [hN] at this
 rw [pairs_eq hbr hP hS hN,e,hN]
 exact brac_eq (by omega) hst _ _ hok
def Kp (x:Int):Prop:=(0≤x∧x≤8)∨(10≤x∧x≤13)∨(19≤x∧x≤22)
def Cl (x:Int):Prop:=x=0∨x=1∨x=3∨x=6∨isNeutral x
theorem upD_to {f:List Int→Int→Int} {m:Nat} (P Q:Int→Prop) (hf:∀ (c:List Int) (k:Int),0≤k→k<m→(∀ j:Int,0≤j→j<k→Q (rd c j))→(∀ j:Int,k≤j→j<m→P (rd c j))→Q (f c k)) :
 ∀ (r:Nat) (k:Int) (c:List Int),0≤k→k+r=m→c.length=m→(∀ j:Int,0≤j→j<k→Q (rd c j))→(∀ j:Int,k≤j→j<m→P (rd c j))→∀ j:Int,0≤j→j<m→Q (rd (upD f r k c) j)
 | 0,k,c,h0,h1,hl,hQ,hP,j,a,b=>hQ j a (by push_cast at h1;omega)
 | r+1,k,c,h0,h1,hl,hQ,hP,j,a,b=>by
  push_cast at h1
  simp only [upD]
  refine upD_to P Q hf r (k+1) _ (by omega) (by omega) (by rw [List.length_set];exact hl) (fun i i0 i1=>?_) (fun i i0 i1=>?_) j a b
  ·rw [rd_set h0 i0 (by omega)]
   by_cases e:i=k
   ·rw [if_pos e];exact hf c k h0 (by omega) hQ hP
   ·rw [if_neg e];exact hQ i i0 (by omega)
  ·rw [rd_set h0 (by omega) (by omega),if_neg (by omega)];exact hP i (by omega) i1
theorem upD_all {f:List Int→Int→Int} {m:Nat} (P:Int→Prop):∀ (r:Nat) (k:Int) (c:List Int),0≤k→k+r≤m→c.length=m→(hf:∀ (c:List Int) (j:Int),k≤j→j<k+r→(∀ i:Int,0≤i→i<m→P (rd c i))→P (f c j))→(∀ j:Int,0≤j→j<m→P (rd c j))→∀ j:Int,0≤j→j<m→P (rd (upD f r k c) j)
 | 0,k,c,h0,h1,hl,hf,hP,j,a,b=>hP j a b
 | r+1,k,c,h0,h1,hl,hf,hP,j,a,b=>by
  push_cast at h1
  simp only [upD]
  refine upD_all P r (k+1) _ (by omega) (by omega) (by rw [List.length_set];exact hl) (fun c' j' a' b' hc'=>hf c' j' (by omega) (by push_cast;omega) hc') (fun i i0 i1=>?_) j a b
  rw [rd_set h0 i0 (by omega)]
  by_cases e:i=k
  ·rw [if_pos e];exact hf c k (Int.le_refl _) (by push_cast;omega) hP
  ·rw [if_neg e];exact hP i i0 i1
theorem dnD_all {f:List Int→Int→Int} {m:Nat} (P:Int→Prop):∀ (r:Nat) (c:List Int),r≤m→c.length=m→(hf:∀ (c:List Int) (j:Nat),j<r→(∀ i:Int,0≤i→i<m→P (rd c i))→P (f c j))→(∀ j:Int,0≤j→j<m→P (rd c j))→∀ j:Int,0≤j→j<m→P (rd (dnD f r c) j)
 | 0,c,h1,hl,hf,hP,j,a,b=>hP j a b
 | r+1,c,h1,hl,hf,hP,j,a,b=>by
  simp only [dnD]
  refine dnD_all P r _ (by omega) (by rw [List.length_set];exact hl) (fun c' j' a' hc'=>hf c' j' (by omega) hc') (fun i i0 i1=>?_) j a b
  have:=rd_set (L:=c) (i:=(r:Int)) (j:=i) (x:=f c r) (by omega) i0 (by omega)
  rw [Int.toNat_natCast] at this
  rw [this]
  by_cases e:i=r
  ·rw [if_pos e];exact hf c r (by omega) hP
  ·rw [if_neg e];exact hP i i0 i1
def K1 (x:Int):Prop:=Kp x∧x≠8
def K2 (x:Int):Prop:=K1 x∧x≠2
theorem weak_clean {st:Int} {F V:List Int} {m:Nat} (hst:st=0∨st=1) (hl:V.length=m) (hV:∀ j:Int,0≤j→j<m→Kp (rd V j)):∀ j:Int,0≤j→j<m→Cl (rd (weakD st F V) j):=by
 have s1:∀ j:Int,0≤j→j<m→K1 (rd (upD (wD1 st F) m 0 V) j):=upD_to Kp K1 (fun c k a b hQ hP=>by
  have h:=hP k (Int.le_refl _) b
  unfold wD1
  by_cases h8:rd c k=8
  ·rw [if_pos h8]
   by_cases hp:0<k
   ·rw [if_pos hp]
    split
    ·exact ⟨.inr (.inl ⟨by omega,by omega⟩),by omega⟩
    ·exact hQ (k-1) (by omega) (by omega)
   ·rw [if_neg hp];exact ⟨.inl ⟨by omega,by omega⟩,by omega⟩
  ·rw [if_neg h8];exact ⟨h,h8⟩) m 0 V (Int.le_refl _) (by omega) hl (fun j a b=>by omega) hV
 have l1:(upD (wD1 st F) m 0 V).length=m:=(upD_length _ _ _).trans hl
 have s2:∀ j:Int,0≤j→j<m→K1 (rd (upD (wD2 st true 2 6) m 0 (upD (wD1 st F) m 0 V)) j):=upD_all K1 m 0 _ (Int.le_refl _) (by omega) l1 (fun c j a b h=>by
  unfold wD2
  split
  ·exact ⟨.inl ⟨by omega,by omega⟩,by omega⟩
  ·exact h j a (by omega)) s1
 generalize hA2:upD (wD2 st true 2 6) m 0 (upD (wD1 st F) m 0 V)=A2 at s2
 have l2:A2.length=m:=by rw [←hA2];exact (upD_length _ _ _).trans l1
 have s3:∀ j:Int,0≤j→j<m→K2 (rd (upD (wD3 (fun x=>x=2) 1) m 0 A2) j):=upD_to K1 K2 (fun c k a b hQ hP=>by
  have h:=hP k (Int.le_refl _) b
  unfold wD3
  split
  ·exact ⟨⟨.inl ⟨by omega,by omega⟩,by omega⟩,by omega⟩
  ·rename_i h2;exact ⟨h,h2⟩) m 0 A2 (Int.le_refl _) (by omega) l2 (fun j a b=>by omega) s2
 generalize hA3:upD (wD3 (fun x=>x=2) 1) m 0 A2=A3 at s3
 have l3:A3.length=m:=by rw [←hA3];exact (upD_length _ _ _).trans l2
 have k3:K2 3:=⟨⟨.inl ⟨by omega,by omega⟩,by omega⟩,by omega⟩
 have k6:K2 6:=⟨⟨.inl ⟨by omega,by omega⟩,by omega⟩,by omega⟩
 have s4:∀ j:Int,0≤j→j<m→K2 (rd (upD wD4 (m-2) 1 A3) j):=by
  by_cases hm:m≤2
  ·rw [show m-2=0 by omega];exact s3
  ·exact upD_all K2 (m-2) 1 _ (by omega) (by omega) l3 (fun c j a b h=>by
    unfold wD4
    split
    ·exact k3
    ·split
     ·exact k6
     ·exact h j (by omega) (by omega)) s3
 generalize hA4:upD wD4 (m-2) 1 A3=A4 at s4
 have l4:A4.length=m:=by rw [←hA4];exact (upD_length _ _ _).trans l3
 have s5:∀ j:Int,0≤j→j<m→K2 (rd (upD wD5 m 0 A4) j):=upD_all K2 m 0 _ (Int.le_refl _) (by omega) l4 (fun c j a b h=>by
  unfold wD5
  split
  ·exact k3
  ·exact h j a (by omega)) s4
 generalize hA5:upD wD5 m 0 A4=A5 at s5
 have l5:A5.length=m:=by rw [←hA5];exact (upD_length _ _ _).trans l4
 have s6:∀ j:Int,0≤j→j<m→K2 (rd (dnD wD6 (m-1) A5) j):=dnD_all K2 (m-1) _ (by omega) l5 (fun c j a h=>by
  unfold wD6
  split
  ·exact k3
  ·exact h j (by omega) (by omega)) s5
 generalize hA6:dnD wD6 (m-1) A5=A6 at s6
 have l6:A6.length=m:=by rw [←hA6];exact (dnD_length _ _).trans l5
 have s7:∀ j:Int,0≤j→j<m→Cl (rd (upD (wD3 isSep 13) m 0 A6) j):=upD_to K2 Cl (fun c k a b hQ hP=>by
  have h:=hP k (Int.le_refl _) b
  unfold wD3
  split
  ·right;right;right;right;unfold isNeutral;omega
  ·rename_i h2
   unfold isSep at h2
   obtain ⟨⟨h3,h4⟩,h5⟩:=h
   unfold Kp at h3
   unfold Cl isNeutral isOpener
   omega) m 0 A6 (Int.le_refl _) (by omega) l6 (fun j a b=>by omega) s6
 have l7:(upD (wD3 isSep 13) m 0 A6).length=m:=(upD_length _ _ _).trans l6
 have s8:=upD_all Cl m 0 (upD (wD3 isSep 13) m 0 A6) (f:=wD2 st false 0 0) (Int.le_refl _) (by omega) l7 (fun c j a b h=>by
  unfold wD2
  split
  ·exact .inl rfl
  ·exact h j a (by omega)) s7
 unfold weakD
 dsimp only
 rw [hl,hA2,hA3,hA4,hA5,hA6]
 exact s8
theorem trail_clean {F:List Int} {to:Int} {m:Nat} (ht:Cl to):∀ (r:Nat) (k:Int) (V:List Int),0≤k→k+r≤m→V.length=m→(∀ j:Int,0≤j→j<m→Cl (rd V j))→∀ j:Int,0≤j→j<m→Cl (rd (trailS F to r k V) j)
 | 0,_,_,_,_,_,h=>h
 | r+1,k,V,h0,h1,hl,h=>by
  push_cast at h1
  simp only [trailS]
  split
  ·refine trail_clean ht r (k+1) _ (by omega) (by omega) (by rw [List.length_set];exact hl) (fun i a b=>?_)
   rw [rd_set h0 a (by omega)]
   split
   ·exact ht
   ·exact h i a b
  ·exact h
theorem both_clean {F:List Int} {to:Int} {m:Nat} (ht:Cl to):∀ (ks V:List Int),(∀ k∈ks,0≤k∧k<m)→V.length=m→(∀ j:Int,0≤j→j<m→Cl (rd V j))→∀ j:Int,0≤j→j<m→Cl (rd (bothS F to m ks V) j)
 | [],_,_,_,h=>h
 | k::ks,V,hk,hl,h=>by
  have hk0:=hk k List.mem_cons_self
  simp only [bothS]
  refine both_clean ht ks _ (fun j hj=>hk j (List.mem_cons_of_mem _ hj)) (by rw [trailS_length,List.length_set];exact hl) (trail_clean ht _ _ _ (by omega) (by omega) (by rw [List.length_set];exact hl) (fun i a b=>?_))
  rw [rd_set hk0.1 a (by omega)]
  split
  ·exact ht
  ·exact h i a b
theorem brk_clean {F:List Int} {d st:Int} {m:Nat} (hd:d=0∨d=1) (hst:st=0∨st=1):∀ (P:List (Int×Int)) (V:List Int),PairOk m P→V.length=m→(∀ j:Int,0≤j→j<m→Cl (rd V j))→∀ j:Int,0≤j→j<m→Cl (rd (brkS d st F m P V) j)
 | [],_,_,_,h=>h
 | p::P,V,hp,hl,h=>by
  have hp0:=hp p List.mem_cons_self
  have hP:PairOk m P:=fun x hx=>hp x (List.mem_cons_of_mem _ hx)
  simp only [brkS]
  split
  ·exact brk_clean hd hst P V hP hl h
  ·refine brk_clean hd hst P _ hP (by rw [bothS_length];exact hl) (both_clean ?_ _ _ (fun k hk=>?_) hl h)
   ·have hcl:∀ x:Int,x=0∨x=1→Cl x:=fun x h=>h.elim (fun e=>.inl e) (fun e=>.inr (.inl e))
    have hb:∀ w:Bool,Cl (if w=true then d else aheadS V st p.1.toNat):=fun w=>by
     cases w
     ·exact hcl _ (aheadS_rg hst _)
     ·exact hcl _ hd
    exact hb _
   ·rcases List.mem_cons.mp hk with e | e
    ·rw [e];exact ⟨hp0.1,hp0.2.1⟩
    ·rw [List.mem_singleton.mp e];exact ⟨hp0.2.2.1,hp0.2.2.2⟩
theorem goN_pt {lv st en:Int} {V:List Int} {m:Nat} (hl:V.length=m):∀ (r:Nat) (k:Int) (O:List Int),0≤k→k+r=m→O.length=m→(∀ i:Int,k≤i→i<m→rd O i=rd V i)→(∀ i:Int,0≤i→i<k→rd O i=if isNeutral (rd V i) then nvD lv st en V i else rd V i)→∀ i:Int,0≤i→i<m→rd (goN lv st en V r k O) i=if isNeutral (rd V i) then nvD lv st en V i else rd V i
 | 0,k,O,h0,h1,hO,hge,hlt,i,a,b=>hlt i a (by push_cast at h1;omega)
 | r+1,k,O,h0,h1,hO,hge,hlt,i,a,b=>by
  push_cast at h1
  simp only [goN]
  have key:∀ j:Int,0≤j→rd (if isNeutral (rd V k) then O.set k.toNat (nvD lv st en V k) else O) j=if j=k then (if isNeutral (rd V k) then nvD lv st en V k else rd O k) else rd O j:=fun j hj=>by
   by_cases c:isNeutral (rd V k)
   ·rw [if_pos c,if_pos c,rd_set h0 hj (by omega)]
   ·rw [if_neg c,if_neg c]
    split
    ·rename_i e;rw [e]
    ·rfl
  refine goN_pt hl r (k+1) _ (by omega) (by omega) (by split <;> simp [hO]) (fun j j0 j1=>?_) (fun j j0 j1=>?_) i a b
  ·rw [key j (by omega),if_neg (by omega)];exact hge j (by omega) j1
  ·rw [key j j0]
   by_cases e:j=k
   ·rw [if_pos e,e,hge k (Int.le_refl _) (by omega)]
   ·rw [if_neg e];exact hlt j j0 (by omega)
theorem neut_eq {lv st en:Int} {V:List Int} {m:Nat} (hl:V.length=m) (hlv:0≤lv) (hc:∀ j:Int,0≤j→j<m→Cl (rd V j)):restN (iota m) st en lv V=neutD lv st en V:=by
 have hside:∀ j:Int,0≤j→j<m→¬ isNeutral (rd V j)→0≤sideM (rd V j):=fun j a b h=>by
  have:=hc j a b
  unfold sideM
  unfold Cl at this
  split
  ·omega
  ·split
   ·omega
   ·rcases this with e | e | e | e | e
    ·omega
    ·omega
    ·omega
    ·omega
    ·exact absurd e h
 have h1:=rows_pt (p:=isNeutral) (G:=neuM (iota m) st en lv) (v:=V) (m:=m) (h:=fun i=>nvD lv st en V i) (fun a b N hr hN hge hnp=>by
  have h0:=hr.a0
  have hab:=hr.ab
  have hbm:=hr.bm
  refine ⟨(neuM_length _ _ _).trans hN,fun i i0 i1=>?_⟩
  unfold neuM
  rw [allM_pt _ _ _ h0 (by omega) hN i i0]
  by_cases e:a≤i∧i<b
  ·rw [if_pos (by omega),if_pos e]
   have eL:nlf V st i.toNat=if 0<a then sideM (rd V (a-1)) else st:=by unfold nlf;exact hr.lfG e.1 e.2
   have eR:nrg V en i=if b<m then sideM (rd V b) else en:=by unfold nrg;rw [hl];exact hr.rgG e.1 e.2
   have eA:aheadM (iota m) N st a.toNat=if 0<a then sideM (rd V (a-1)) else st:=by
    by_cases ha:0<a
    ·rw [if_pos ha,show a.toNat=(a-1).toNat+1 by omega]
     simp only [aheadM]
     have hn:=hr.lf.resolve_left (by omega)
     rw [show (((a-1).toNat:Nat):Int)=a-1 by omega,rd_iota (by omega) (by omega),hnp (a-1) (by omega) (by omega) hn,if_pos (hside _ (by omega) (by omega) hn)]
    ·rw [if_neg ha,show a.toNat=0 by omega];rfl
   have eB:(if b<(iota m).length then sideM (rd N (rd (iota m) b)) else en)=if b<m then sideM (rd V b) else en:=by
    rw [iota_length]
    by_cases hb:b<m
    ·rw [if_pos hb,if_pos hb,rd_iota (by omega) hb,hnp b (by omega) hb (hr.rg.resolve_left (by omega))]
    ·rw [if_neg hb,if_neg hb]
   unfold neuTo nvD
   rw [eA,eB,eL,eR,show lv.tmod 2=lv%2 from Int.tmod_eq_emod_of_nonneg hlv]
  ·rw [if_neg (by omega),if_neg e]) m 0 V (Int.le_refl _) (by omega) (.inl rfl) hl (fun _ _ _=>rfl) (fun i a b _=>by omega)
 unfold restN neutD
 rw [iota_length,hl]
 refine ext_rd h1.1 ((goN_length _ _ _).trans hl) (fun i a b=>?_)
 rw [h1.2 i a b,goN_pt hl m 0 V (Int.le_refl _) (by omega) hl (fun _ _ _=>rfl) (fun i a b=>by omega) i a b]
theorem neut_clean {lv st en:Int} {V:List Int} {m:Nat} (hl:V.length=m) (hlv:0≤lv) (hst:st=0∨st=1) (hc:∀ j:Int,0≤j→j<m→Cl (rd V j)):∀ j:Int,0≤j→j<m→rd (neutD lv st en V) j=0∨rd (neutD lv st en V) j=1∨rd (neutD lv st en V) j=3∨rd (neutD lv st en V) j=6:=fun j a b=>by
 unfold neutD
 rw [hl,goN_pt hl m 0 V (Int.le_refl _) (by omega) hl (fun _ _ _=>rfl) (fun i a b=>by omega) j a b]
 by_cases h:isNeutral (rd V j)
 ·rw [if_pos h]
  have hnl:∀ r:Nat,r≤m→nlf V st r=0∨nlf V st r=1:=fun r=>by
   induction r with
   | zero=>intro _;exact hst
   | succ r ih=>
    intro hr
    unfold nlf
    simp only [lfG]
    split
    ·exact ih (by omega)
    ·rename_i hn
     have:=hc r (by omega) (by omega)
     unfold Cl at this
     unfold sideM
     rcases this with e | e | e | e | e
     ·left;rw [if_pos e]
     ·right;rw [if_neg (by omega),if_pos (by omega)]
     ·right;rw [if_neg (by omega),if_pos (by omega)]
     ·right;rw [if_neg (by omega),if_pos (by omega)]
     ·exact absurd e hn
  have h2:lv.tmod 2=lv%2:=Int.tmod_eq_emod_of_nonneg hlv
  unfold nvD
  rw [h2]
  split
  ·rcases hnl j.toNat (by omega) with e | e
   ·exact .inl e
   ·exact .inr (.inl e)
  ·omega
 ·rw [if_neg h]
  have:=hc j a b
  unfold Cl at this
  rcases this with e | e | e | e | e
  ·exact .inl e
  ·exact .inr (.inl e)
  ·exact .inr (.inr (.inl e))
  ·exact .inr (.inr (.inr e))
  ·exact absurd e h
theorem own_eq {Y:Exts} {c f v:List Int} {lv st en:Int} {m:Nat} (hbr:∀ x,brD x brP=(Y.BO x,Y.BK x)) (hP:∀ L,(Y.SM L).Perm L) (hS:∀ L,(Y.SM L).Pairwise (fun x y=>x.1≤y.1)) (hl:v.length=m) (hlv:0≤lv) (hst:st=0∨st=1) (hV:∀ j:Int,0≤j→j<m→Kp (rd v j)) :
 ownN Y lv st en c f v=neutD lv st en (bracketsD lv st c f (weakD st f v))∧∀ j:Int,0≤j→j<m→rd (neutD lv st en (bracketsD lv st c f (weakD st f v))) j=0∨rd (neutD lv st en (bracketsD lv st c f (weakD st f v))) j=1∨rd (neutD lv st en (bracketsD lv st c f (weakD st f v))) j=3∨rd (neutD lv st en (bracketsD lv st c f (weakD st f v))) j=6:=by
 have h1:=weak_clean (F:=f) hst hl hV
 have hl1:(weakD st f v).length=m:=weakD_length.trans hl
 have hd:lv.tmod 2=0∨lv.tmod 2=1:=by rw [Int.tmod_eq_emod_of_nonneg hlv];omega
 have h2:∀ j:Int,0≤j→j<m→Cl (rd (bracketsD lv st c f (weakD st f v)) j):=by
  unfold bracketsD
  rw [hl1]
  refine brk_clean hd hst _ _ ?_ hl1 h1
  have:=pairsD_ok (C:=c) (V:=weakD st f v)
  rwa [hl1] at this
 have hl2:(bracketsD lv st c f (weakD st f v)).length=m:=by unfold bracketsD;rw [brkS_length];exact hl1
 refine ⟨?_,neut_clean hl2 hlv hst h2⟩
 unfold ownN
 rw [hl,weak_eq hl,brackets_eq hbr hP hS hl1 hlv hst,neut_eq hl2 hlv h2]
def Inc (E:List Ent3):Prop:=E.Pairwise (fun a b=>a.1<b.1)
theorem Inc.top:∀ {E:List Ent3},Inc E→∀ v∈isoB E,v<(topM E).1
 | [],_,v,hv=>by cases hv
 | [a],_,v,hv=>by cases hv
 | a::b::l,h,v,hv=>by
  have h2:=List.pairwise_cons.mp h
  rw [topM_cons]
  simp only [isoB] at hv
  rcases List.mem_append.mp hv with hv | hv
  ·split at hv
   ·rw [List.mem_singleton.mp hv]
    exact h2.1 _ (topM_mem (by simp))
   ·cases hv
  ·exact Inc.top (E:=b::l) h2.2 v hv
theorem Inc.push {E:List Ent3} {x:Ent3} (h:Inc E) (hE:E≠[]) (hx:(topM E).1<x.1):Inc (E++[x]):=by
 refine List.pairwise_append.mpr ⟨h,by simp,fun a ha b hb=>?_⟩
 rw [List.mem_singleton.mp hb]
 have h2:Inc (E.dropLast++[topM E]):=by rw [dropLast_snoc hE];exact h
 have h3:=List.pairwise_append.mp h2
 rw [←dropLast_snoc hE] at ha
 rcases List.mem_append.mp ha with ha | ha
 ·have:=h3.2.2 a ha (topM E) (by simp);omega
 ·rw [List.mem_singleton.mp ha];exact hx
theorem popIso_sublist:∀ (r:Nat) (E:List Ent3),(popIso r E).Sublist E
 | 0,E=>List.Sublist.refl _
 | r+1,E=>by
  simp only [popIso]
  split
  ·exact List.dropLast_sublist _
  ·exact (popIso_sublist r _).trans (List.dropLast_sublist _)
structure NestI (F:List Int) (i:Int) (x:XS) (L Og:List Int):Prop where
 inc:Inc x.E
 gv:∀ (t:Nat) (o:Int),Og[t]?=some o→t<(isoB x.E).length→∀ q:Int,o<q→q<i→¬ isRemoved (rd F q)→rd L o<rd L q
 gw:∀ (t:Nat) (o:Int),Og[t]?=some o→(isoB x.E).length≤t→∀ q:Int,o<q→q<i→¬ isRemoved (rd F q)→rd L q=rd L o
def ClI (F:List Int) (i:Int) (L M:List Int):Prop:=∀ o:Int,0≤o→o<i→isOpener (rd F o)→rd M o<0∨(rd M o<i∧((∀ q:Int,o<q→q<rd M o→¬ isRemoved (rd F q)→rd L o<rd L q)∨(∀ q:Int,o<q→q<rd M o→¬ isRemoved (rd F q)→rd L q=rd L o)))
theorem og_lv {D:TD} {i:Int} {x:XS} {L Og M:List Int} (h:LinkI D i x L Og M) (hi:Inc x.E) {t:Nat} {o:Int} (ho:Og[t]?=some o):(t<(isoB x.E).length→rd L o<(topM x.E).1)∧((isoB x.E).length≤t→rd L o=(topM x.E).1):=by
 have e:(Og.map (rd L))[t]?=some (rd L o):=by rw [List.getElem?_map,ho];rfl
 rw [h.og] at e
 refine ⟨fun ht=>?_,fun ht=>?_⟩
 ·rw [List.getElem?_append_left ht] at e
  exact hi.top _ (List.mem_of_getElem? e)
 ·rw [List.getElem?_append_right ht] at e
  have:=List.mem_of_getElem? e
  exact List.eq_of_mem_replicate this
theorem NestI.skip {F:List Int} {i:Int} {x x':XS} {L Og:List Int} (h:NestI F i x L Og) (hr:isRemoved (rd F i)) (hi:Inc x'.E) (hb:isoB x'.E=isoB x.E):NestI F (i+1) x' L Og:=
 ⟨hi,fun t o ho ht q h1 h2 h3=>h.gv t o ho (by rw [←hb];exact ht) q h1 (by by_cases e:q=i;rw [e] at h3;exact absurd hr h3;omega) h3,
  fun t o ho ht q h1 h2 h3=>h.gw t o ho (by rw [←hb];exact ht) q h1 (by by_cases e:q=i;rw [e] at h3;exact absurd hr h3;omega) h3⟩
theorem NestI.set {F:List Int} {i v:Int} {x x':XS} {L Og:List Int} {n:Nat} (h:NestI F i x L Og) (h0:0≤i) (hl:i<L.length) (hpl:∀ o∈Og,0≤o∧o<i) (hi:Inc x'.E)
 (hv:∀ (t:Nat) (o:Int),Og[t]?=some o→t<n→t<(isoB x'.E).length→t<(isoB x.E).length∧rd L o<v) (hw:∀ (t:Nat) (o:Int),Og[t]?=some o→t<n→(isoB x'.E).length≤t→(isoB x.E).length≤t∧rd L o=v):NestI F (i+1) x' (L.set i.toNat v) (Og.take n):=by
 have hrd:∀ o,o∈Og→rd (L.set i.toNat v) o=rd L o:=fun o ho=>by
  have:=hpl o ho
  rw [rd_set h0 this.1 hl,if_neg (by omega)]
 have hq:∀ q:Int,0≤q→rd (L.set i.toNat v) q=if q=i then v else rd L q:=fun q hq=>rd_set h0 hq hl
 refine ⟨hi,fun t o ho ht q h1 h2 h3=>?_,fun t o ho ht q h1 h2 h3=>?_⟩
 ·rw [List.getElem?_take] at ho
  split at ho
  ·rename_i htn
   have hm:=List.mem_of_getElem? ho
   have:=hv t o ho htn ht
   have hp:=hpl o hm
   rw [hrd o hm,hq q (by omega)]
   by_cases e:q=i
   ·rw [if_pos e];exact this.2
   ·rw [if_neg e];exact h.gv t o ho this.1 q h1 (by omega) h3
  ·cases ho
 ·rw [List.getElem?_take] at ho
  split at ho
  ·rename_i htn
   have hm:=List.mem_of_getElem? ho
   have:=hw t o ho htn ht
   have hp:=hpl o hm
   rw [hrd o hm,hq q (by omega)]
   by_cases e:q=i
   ·rw [if_pos e];exact this.2.symm
   ·rw [if_neg e];exact h.gw t o ho this.1 q h1 (by omega) h3
  ·cases ho
theorem NestI.more {F:List Int} {i:Int} {x:XS} {L Og:List Int} (h:NestI F (i+1) x L Og):NestI F (i+1) x L (Og++[i]):=
 ⟨h.inc,fun t o ho ht q h1 h2 h3=>by
  rw [List.getElem?_append] at ho
  split at ho
  ·exact h.gv t o ho ht q h1 h2 h3
  ·have:=List.mem_of_getElem? ho
   rw [List.mem_singleton.mp this] at h1;omega,
  fun t o ho ht q h1 h2 h3=>by
   rw [List.getElem?_append] at ho
   split at ho
   ·exact h.gw t o ho ht q h1 h2 h3
   ·have:=List.mem_of_getElem? ho
    rw [List.mem_singleton.mp this] at h1;omega⟩
theorem isoB_push {E:List Ent3} {x:Ent3} (hE:E≠[]) (hx:x.2.2=false):isoB (E++[x])=isoB E:=by rw [isoB_snoc _ _ hE,if_neg (by rw [hx];decide),List.append_nil]
theorem nextM_gt {l:Int} {o:Bool}:l<nextM l o:=by unfold nextM;split <;> omega
theorem NestI.next {D:TD} {i:Int} {x:XS} {L Og M:List Int} (hL:LinkI D i x L Og M) (h:NestI D.F i x L Og) (h0:0≤i) (hi:i<L.length):NestI D.F (i+1) (expX D i x) (expL D i x L) (matchO D.F i Og):=by
 have hol:=fun {t o} ho=>og_lv (t:=t) (o:=o) hL h.inc ho
 have hlen:Og.length=(isoB x.E).length+x.op.toNat:=by have:=congrArg List.length hL.og;simpa using this
 have hall:Og.take Og.length=Og:=List.take_of_length_le (Nat.le_refl _)
 have stay:∀ x':XS,Inc x'.E→isoB x'.E=isoB x.E→NestI D.F (i+1) x' (L.set i.toNat (topM x.E).1) Og:=fun x' h1 h2=>by
  have:=h.set (n:=Og.length) (v:=(topM x.E).1) (x':=x') h0 hi hL.pl h1 (fun t o ho _ ht=>⟨by rw [←h2];exact ht,(hol ho).1 (by rw [←h2];exact ht)⟩) (fun t o ho _ ht=>⟨by rw [←h2];exact ht,(hol ho).2 (by rw [←h2];exact ht)⟩)
  rwa [hall] at this
 unfold expX expL expT matchO
 generalize hc:rd D.F i=c
 by_cases c1:isEmb c
 ·have n1:¬ isOpener c:=by unfold isEmb at c1;unfold isOpener;omega
  have n2:c≠10:=by unfold isEmb at c1;omega
  have n4:¬ (c=22∧0<Og.length):=fun h=>by unfold isEmb at c1;omega
  have hr:isRemoved (rd D.F i):=by rw [hc];unfold isEmb at c1;unfold isRemoved;omega
  simp only [if_pos c1,if_neg n1,if_neg n2,if_neg n4]
  split
  ·exact h.skip hr (h.inc.push hL.ne nextM_gt) (isoB_push hL.ne rfl)
  ·exact h.skip hr h.inc rfl
 by_cases c2:isOpener c
 ·simp only [if_neg c1,if_pos c2,plainL]
  split
  ·rename_i hp
   have hop0:x.op.toNat=0:=by omega
   have h2:Inc (x.E++[(openLevel D x.E i c,-1,true)]):=h.inc.push hL.ne nextM_gt
   have hb:isoB (x.E++[(openLevel D x.E i c,-1,true)])=isoB x.E++[(topM x.E).1]:=by rw [isoB_snoc _ _ hL.ne,if_pos rfl]
   have:=h.set (n:=Og.length) (v:=(topM x.E).1) (x':=⟨x.E++[(openLevel D x.E i c,-1,true)],x.op,x.em,x.is+1⟩) h0 hi hL.pl h2 (fun t o ho htn ht=>by
    have htl:t<(isoB x.E).length:=by omega
    exact ⟨htl,(hol ho).1 htl⟩) (fun t o ho htn ht=>by
    dsimp only at ht
    rw [hb,List.length_append,List.length_singleton] at ht
    omega)
   rw [hall] at this
   exact this.more
  ·exact (stay ⟨x.E,x.op+1,x.em,x.is⟩ h.inc rfl).more
 by_cases c3:c=22
 ·have n2:¬ c=10:=by omega
  simp only [if_neg c1,if_neg c2,if_pos c3,if_neg n2,plainL,true_and]
  by_cases hp:0<x.op
  ·have hE:shutE x.E x.op x.is=x.E:=by unfold shutE;rw [if_pos hp]
   rw [hE]
   rw [if_pos ⟨c3,by omega⟩]
   exact h.set (n:=Og.length-1) (v:=(topM x.E).1) (x':=⟨x.E,shutOp x.op,shutEm x.op x.em x.is,shutIs x.op x.is⟩) h0 hi hL.pl h.inc (fun t o ho _ ht=>⟨ht,(hol ho).1 ht⟩) (fun t o ho _ ht=>⟨ht,(hol ho).2 ht⟩)
  ·have hop0:x.op=0:=by have:=hL.op;omega
   by_cases hq:0<x.is
   ·have hne:isoB x.E≠[]:=fun e=>by have:=hL.is;rw [e] at this;simp at this;omega
    obtain ⟨p1,B,p2,p3,p4⟩:=popIso_isoB x.E.length x.E (Nat.le_refl _) hne
    have hE:shutE x.E x.op x.is=popIso x.E.length x.E:=by unfold shutE;rw [if_neg hp,if_pos hq]
    have hbl:(isoB x.E).length=B.length+1:=by rw [p2];simp
    rw [hE,if_pos ⟨c3,by omega⟩]
    have hI2:Inc (popIso x.E.length x.E):=List.Pairwise.sublist (popIso_sublist _ _) h.inc
    refine h.set (n:=Og.length-1) (v:=(topM (popIso x.E.length x.E)).1) (x':=⟨popIso x.E.length x.E,shutOp x.op,shutEm x.op x.em x.is,shutIs x.op x.is⟩) h0 hi hL.pl hI2 (fun t o ho htn ht=>?_) (fun t o ho htn ht=>?_)
    ·dsimp only at ht
     rw [p3] at ht
     refine ⟨by omega,?_⟩
     have e:(Og.map (rd L))[t]?=some (rd L o):=by rw [List.getElem?_map,ho];rfl
     rw [hL.og,p2,List.append_assoc,List.getElem?_append_left ht] at e
     exact hI2.top _ (by rw [p3];exact List.mem_of_getElem? e)
    ·dsimp only at ht
     rw [p3] at ht
     omega
   ·have hE:shutE x.E x.op x.is=x.E:=by unfold shutE;rw [if_neg hp,if_neg hq]
    have his:x.is=0:=by have:=hL.is;omega
    have hB:isoB x.E=[]:=List.length_eq_zero_iff.mp (by have:=hL.is;omega)
    have hO:Og=[]:=List.length_eq_zero_iff.mp (by rw [hlen,hB,hop0];rfl)
    have nl:¬ (c=22∧0<Og.length):=by rw [hO];simp
    rw [hE,if_neg nl]
    exact stay ⟨x.E,shutOp x.op,shutEm x.op x.em x.is,shutIs x.op x.is⟩ h.inc rfl
 have n4:¬ (c=22∧0<Og.length):=fun h=>c3 h.1
 by_cases c4:c=18
 ·have n2:¬ c=10:=by omega
  have hr:isRemoved (rd D.F i):=by rw [hc];unfold isRemoved;omega
  simp only [if_neg c1,if_neg c2,if_neg c3,if_pos c4,if_neg n2,if_neg n4]
  split
  ·exact h.skip hr h.inc rfl
  split
  ·exact h.skip hr h.inc rfl
  split
  ·rename_i hp
   have hd:x.E.dropLast≠[]:=fun e=>by have:=congrArg List.length e;rw [List.length_dropLast] at this;simp at this;omega
   have e1:=isoB_snoc x.E.dropLast (topM x.E) hd
   rw [dropLast_snoc hL.ne,hp.2,if_neg (by decide),List.append_nil] at e1
   exact h.skip hr (List.Pairwise.sublist (List.dropLast_sublist _) h.inc) e1.symm
  ·exact h.skip hr h.inc rfl
 by_cases c5:c=10
 ·simp only [if_neg c1,if_neg c2,if_neg c3,if_neg c4,if_pos c5]
  exact ⟨by unfold Inc;simp,fun t o ho=>(by simp at ho),fun t o ho=>(by simp at ho)⟩
 by_cases c6:c=9
 ·have hr:isRemoved (rd D.F i):=by rw [hc];unfold isRemoved;omega
  simp only [if_neg c1,if_neg c2,if_neg c3,if_neg c4,if_neg c5,if_pos c6,if_neg n4]
  exact h.skip hr h.inc rfl
 ·simp only [if_neg c1,if_neg c2,if_neg c3,if_neg c4,if_neg c5,if_neg c6,if_neg n4,plainL]
  exact stay x h.inc rfl
def InjI (F:List Int) (i:Int) (M:List Int):Prop:=∀ o o':Int,0≤o→o<i→isOpener (rd F o)→0≤o'→o'<i→isOpener (rd F o')→0≤rd M o→rd M o=rd M o'→o=o'
theorem expL_lo {D:TD} {i:Int} {x:XS} {L:List Int} (h0:0≤i) (hi:i<L.length) {q:Int} (hq:0≤q) (hqi:q<i):rd (expL D i x L) q=rd L q:=by
 unfold expL
 split
 ·unfold plainL
  rw [rd_set h0 hq hi,if_neg (by omega)]
 ·rfl
theorem ClI.next {D:TD} {i:Int} {x:XS} {L Og M:List Int} (hL:LinkI D i x L Og M) (hN:NestI D.F i x L Og) (h:ClI D.F i L M) (hj:InjI D.F i M) (h0:0≤i) (hi:i<L.length) (hM:M.length=L.length) :
 ClI D.F (i+1) (expL D i x L) (matchS D.F i Og M)∧InjI D.F (i+1) (matchS D.F i Og M):=by
 have hlow:∀ q:Int,0≤q→q<i→rd (expL D i x L) q=rd L q:=fun q a b=>expL_lo h0 hi a b
 generalize expL D i x L=L' at hlow
 have base:∀ o:Int,0≤o→o<i→isOpener (rd D.F o)→rd M o<0∨(rd M o<i+1∧((∀ q:Int,o<q→q<rd M o→¬ isRemoved (rd D.F q)→rd L' o<rd L' q)∨(∀ q:Int,o<q→q<rd M o→¬ isRemoved (rd D.F q)→rd L' q=rd L' o))):=fun o a b op=>by
  rcases h o a b op with e | ⟨e,e2⟩
  ·exact .inl e
  ·refine .inr ⟨by omega,?_⟩
   rcases e2 with e2 | e2
   ·exact .inl fun q q1 q2 q3=>by rw [hlow o a b,hlow q (by omega) (by omega)];exact e2 q q1 q2 q3
   ·exact .inr fun q q1 q2 q3=>by rw [hlow o a b,hlow q (by omega) (by omega)];exact e2 q q1 q2 q3
 have hlt:∀ o:Int,0≤o→o<i→isOpener (rd D.F o)→rd M o<i:=fun o a b op=>by
  rcases h o a b op with e | e
  ·omega
  ·exact e.1
 have plain:ClI D.F (i+1) L' (M.set i.toNat (-1))∧InjI D.F (i+1) (M.set i.toNat (-1)):=by
  have hr:∀ o:Int,0≤o→o<i+1→rd (M.set i.toNat (-1)) o=if o=i then -1 else rd M o:=fun o a b=>rd_set h0 a (by omega)
  refine ⟨fun o a b op=>?_,fun o o' a b op a' b' op' hz he=>?_⟩
  ·rw [hr o a b]
   by_cases e:o=i
   ·rw [if_pos e];left;omega
   ·rw [if_neg e];exact base o a (by omega) op
  ·rw [hr o a b] at hz he
   rw [hr o' a' b'] at he
   by_cases e:o=i
   ·rw [if_pos e] at hz;omega
   ·rw [if_neg e] at hz he
    by_cases e':o'=i
    ·rw [if_pos e'] at he;omega
    ·rw [if_neg e'] at he
     exact hj o o' a (by omega) op a' (by omega) op' hz he
 unfold matchS
 by_cases c1:isOpener (rd D.F i)
 ·rw [if_pos c1];exact plain
 rw [if_neg c1]
 by_cases c2:rd D.F i=10
 ·rw [if_pos c2];exact plain
 rw [if_neg c2]
 by_cases c3:rd D.F i=22∧0<Og.length
 ·rw [if_pos c3]
  have hm:=lastI_mem c3.2
  have hml:=hL.pl _ hm
  have hget:Og[Og.length-1]?=some (lastI Og):=by
   unfold lastI rd
   rw [show ((Og.length:Int)-1).toNat=Og.length-1 by omega,List.getElem?_eq_getElem (by omega),List.getD_eq_getElem?_getD,List.getElem?_eq_getElem (by omega)];rfl
  have hr:∀ o:Int,0≤o→o<i+1→isOpener (rd D.F o)→rd (((M.set i.toNat (-1)).set i.toNat (lastI Og)).set (lastI Og).toNat i) o=if o=lastI Og then i else rd M o:=fun o a b op=>by
   have hne:o≠i:=fun e=>c1 (by rw [←e];exact op)
   rw [rd_set hml.1 a (by simp only [List.length_set];omega),rd_set h0 a (by simp only [List.length_set];omega),if_neg hne,rd_set h0 a (by omega),if_neg hne]
  have hni:∀ o:Int,o<i+1→isOpener (rd D.F o)→o<i:=fun o b op=>by
   have:o≠i:=fun e=>c1 (by rw [←e];exact op)
   omega
  refine ⟨fun o a b op=>?_,fun o o' a b op a' b' op' hz he=>?_⟩
  ·have hoi:=hni o b op
   rw [hr o a b op]
   by_cases e:o=lastI Og
   ·rw [if_pos e]
    refine .inr ⟨by omega,?_⟩
    rw [←e] at hget
    by_cases ht:Og.length-1<(isoB x.E).length
    ·exact .inl fun q q1 q2 q3=>by rw [hlow o a hoi,hlow q (by omega) q2];exact hN.gv _ o hget ht q q1 q2 q3
    ·exact .inr fun q q1 q2 q3=>by rw [hlow o a hoi,hlow q (by omega) q2];exact hN.gw _ o hget (by omega) q q1 q2 q3
   ·rw [if_neg e];exact base o a hoi op
  ·have hoi:=hni o b op
   have hoi':=hni o' b' op'
   rw [hr o a b op] at hz he
   rw [hr o' a' b' op'] at he
   by_cases e:o=lastI Og
   ·rw [if_pos e] at he
    by_cases e':o'=lastI Og
    ·rw [e,e']
    ·rw [if_neg e'] at he
     have:=hlt o' a' hoi' op';omega
   ·rw [if_neg e] at hz he
    by_cases e':o'=lastI Og
    ·rw [if_pos e'] at he
     have:=hlt o a hoi op;omega
    ·rw [if_neg e'] at he
     exact hj o o' a hoi op a' hoi' op' hz he
 ·rw [if_neg c3];exact plain
theorem expM_all {D:TD} (hb:0≤D.b∧D.b≤1):∀ (r:Nat) (i:Int) (x:XS) (L N Og M:List Int),LinkI D i x L Og M→NestI D.F i x L Og→ClI D.F i L M→InjI D.F i M→0≤i→i+r≤L.length→M.length=L.length →
 ∃ x' Og',LinkI D (i+r) x' (expM D r i x L N).1 Og' (matchM D.F r i Og M)∧ClI D.F (i+r) (expM D r i x L N).1 (matchM D.F r i Og M)∧InjI D.F (i+r) (matchM D.F r i Og M)
 | 0,i,x,L,N,Og,M,hL,hN,hC,hJ,_,_,_=>⟨x,Og,by simpa [expM,matchM] using hL,by simpa [expM,matchM] using hC,by simpa [expM,matchM] using hJ⟩
 | r+1,i,x,L,N,Og,M,hL,hN,hC,hJ,h0,hi,hM=>by
  push_cast at hi
  have h1:=hL.next h0 (by omega) hM hb
  have h2:=hN.next hL h0 (by omega)
  have h3:=ClI.next hL hN hC hJ h0 (by omega) hM
  have:=expM_all hb r (i+1) _ _ (expN D i x N) _ _ h1 h2 h3.1 h3.2 (by omega) (by rw [expL_length];omega) (by rw [matchS_length,expL_length];exact hM)
  rw [show i+((r+1:Nat):Int)=i+1+r by push_cast;omega]
  exact this
structure Fx (F L M:List Int):Prop where
 ll:L.length=F.length
 bd:∀ j:Int,0≤rd L j∧rd L j≤125
 lk:∀ o:Int,0≤o→o<F.length→isOpener (rd F o)→rd M o<0∨(o<rd M o∧rd M o<F.length∧rd F (rd M o)=22∧rd L (rd M o)=rd L o)
 cl:∀ o:Int,0≤o→o<F.length→isOpener (rd F o)→0≤rd M o→(∀ q:Int,o<q→q<rd M o→¬ isRemoved (rd F q)→rd L o<rd L q)∨(∀ q:Int,o<q→q<rd M o→¬ isRemoved (rd F q)→rd L q=rd L o)
 ij:∀ o o':Int,0≤o→o<F.length→isOpener (rd F o)→0≤o'→o'<F.length→isOpener (rd F o')→0≤rd M o→rd M o=rd M o'→o=o'
theorem fx_known (F:List Int) {b:Int} (hb:0≤b∧b≤1):Fx F (explM F b).1 (matchesM F):=by
 have hI:LinkI (pureD F (matchesM F) b) 0 ⟨[(b,-1,false)],0,0,0⟩ (List.replicate F.length 0) [] (List.replicate F.length 0):=
  {ne:=by simp,op:=Int.le_refl _,is:=rfl,lv:=fun e he=>(by rw [List.mem_singleton.mp he];dsimp only;omega),og:=rfl,pl:=fun o ho=>(by cases ho),bd:=fun j=>(by rw [rep_zero];omega),lk:=fun o a b=>(by omega) }
 obtain ⟨x',Og',hL,hC,hJ⟩:=expM_all (D:=pureD F (matchesM F) b) hb F.length 0 ⟨[(b,-1,false)],0,0,0⟩ (List.replicate F.length 0) F [] (List.replicate F.length 0) hI
  ⟨by unfold Inc;simp,fun t o ho=>(by simp at ho),fun t o ho=>(by simp at ho)⟩ (fun o a b=>by omega) (fun o o' a b=>by omega) (Int.le_refl _) (by simp) (by simp)
 rw [Int.zero_add] at hL hC hJ
 refine ⟨by unfold explM;rw [(expM_length _ _ _ _ _).1];simp,hL.bd,fun o a c op=>?_,fun o a c op hm=>?_,fun o o' a c op a' c' op' hz he=>hJ o o' a c op a' c' op' hz he⟩
 ·rcases hL.lk o a c op with h | h
  ·exact .inl h
  ·have hm:=mOf_eq a c op
   have hrg:=matchD_rg F (F.length-(o+1).toNat) (o+1) 1
   rw [show matchD F (F.length-(o+1).toNat) (o+1) 1=mOf F o from rfl,←hm] at hrg
   rcases hrg with e | e
   ·left;omega
   ·exact .inr ⟨by omega,by omega,e.2.2,h.2.2⟩
 ·rcases hC o a c op with h | h
  ·exact absurd (show rd (matchesM F) o<0 from h) (by omega)
  ·exact h.2
theorem order_mem2 {F:List Int} {x:Int}:∀ (r:Nat) (i:Int) (O:List Int),x∈orderM F r i O↔x∈O∨(i≤x∧x<i+r∧¬ isRemoved (rd F x))
 | 0,i,O=>⟨fun h=>.inl h,fun h=>h.elim id (fun h=>by omega)⟩
 | r+1,i,O=>by
  simp only [orderM]
  rw [order_mem2 r (i+1)]
  by_cases c:isRemoved (rd F i)
  ·rw [if_pos c]
   constructor
   ·rintro (h | h)
    ·exact .inl h
    ·right;push_cast;exact ⟨by omega,by omega,h.2.2⟩
   ·rintro (h | ⟨h1,h2,h3⟩)
    ·exact .inl h
    ·push_cast at h2
     by_cases e:x=i
     ·rw [e] at h3;exact absurd c h3
     ·right;exact ⟨by omega,by omega,h3⟩
  ·rw [if_neg c,List.mem_append,List.mem_singleton]
   constructor
   ·rintro ((h | h) | h)
    ·exact .inl h
    ·right;rw [h];push_cast;exact ⟨Int.le_refl _,by omega,c⟩
    ·right;push_cast;exact ⟨by omega,by omega,h.2.2⟩
   ·rintro (h | ⟨h1,h2,h3⟩)
    ·exact .inl (.inl h)
    ·push_cast at h2
     by_cases e:x=i
     ·exact .inl (.inr e)
     ·right;exact ⟨by omega,by omega,h3⟩
theorem order_sorted {F:List Int}:∀ (r:Nat) (i:Int) (O:List Int),O.Pairwise (· < ·)→(∀ x∈O,x<i)→(orderM F r i O).Pairwise (· < ·)
 | 0,_,_,h,_=>h
 | r+1,i,O,h,hl=>by
  simp only [orderM]
  refine order_sorted r (i+1) _ ?_ (fun x hx=>?_)
  ·split
   ·exact h
   ·exact List.pairwise_append.mpr ⟨h,by simp,fun a ha b hb=>by rw [List.mem_singleton.mp hb];exact hl a ha⟩
  ·split at hx
   ·have:=hl x hx;omega
   ·rcases List.mem_append.mp hx with hx | hx
    ·have:=hl x hx;omega
    ·rw [List.mem_singleton.mp hx];omega
structure Ord (F O:List Int):Prop where
 lt:∀ i j:Int,0≤i→i<j→j<O.length→rd O i<rd O j
 rg:∀ i:Int,0≤i→i<O.length→0≤rd O i∧rd O i<F.length∧¬ isRemoved (rd F (rd O i))
 ex:∀ x:Int,0≤x→x<F.length→¬ isRemoved (rd F x)→∃ i:Int,0≤i∧i<O.length∧rd O i=x
theorem ord_known (F:List Int):Ord F (orderM F F.length 0 []):=by
 have hs:=order_sorted (F:=F) F.length 0 [] List.Pairwise.nil (fun x hx=>by cases hx)
 refine ⟨fun i j h0 h1 h2=>?_,fun i h0 h1=>?_,fun x h0 h1 h2=>?_⟩
 ·rw [rd_at h0 (by omega),rd_at (by omega) h2]
  exact List.pairwise_iff_getElem.mp hs _ _ _ _ (by omega)
 ·have hm:=rd_memA h0 h1
  rcases (order_mem2 _ _ _).mp hm with h | h
  ·cases h
  ·exact ⟨h.1,by omega,h.2.2⟩
 ·have hm:=(order_mem2 (F:=F) (x:=x) F.length 0 []).mpr (.inr ⟨h0,by omega,h2⟩)
  obtain ⟨k,hk,e⟩:=List.mem_iff_getElem.mp hm
  exact ⟨k,by omega,by omega,by rw [rd_at (by omega) (by omega)];simpa using e⟩
theorem Ord.inj {F O:List Int} (h:Ord F O) {i j:Int} (h0:0≤i) (h1:i<O.length) (h2:0≤j) (h3:j<O.length) (e:rd O i=rd O j):i=j:=by
 rcases Int.lt_trichotomy i j with c | c | c
 ·have:=h.lt i j h0 c h3;omega
 ·exact c
 ·have:=h.lt j i h2 c h1;omega
theorem Ord.lt' {F O:List Int} (h:Ord F O) {i j:Int} (h0:0≤i) (h1:i<O.length) (h2:0≤j) (h3:j<O.length) (e:rd O i<rd O j):i<j:=by
 rcases Int.lt_trichotomy i j with c | c | c
 ·exact c
 ·rw [c] at e;omega
 ·have:=h.lt j i h2 c h1;omega
theorem fq_find {O:List Int} {p:Int}:∀ (r:Nat) (q c:Int),(∀ i j:Int,q≤i→i<q+r→q≤j→j<q+r→rd O i=p→rd O j=p→i=j)→(∀ i:Int,q≤i→i<q+r→rd O i=p→fqD O p r q c=i)∧((∀ i:Int,q≤i→i<q+r→rd O i≠p)→fqD O p r q c=c)
 | 0,q,c,_=>⟨fun i h1 h2=>by omega,fun _=>rfl⟩
 | r+1,q,c,hi=>by
  obtain ⟨h1,h2⟩:=fq_find (O:=O) (p:=p) r (q+1) (if rd O q=p then q else c) (fun i j a b d e=>hi i j (by omega) (by push_cast;omega) (by omega) (by push_cast;omega))
  simp only [fqD]
  refine ⟨fun i a b e=>?_,fun h=>?_⟩
  ·by_cases hq:i=q
   ·rw [hq] at e ⊢
    rw [h2 (fun j a' b' e'=>by have:=hi j q (by omega) (by push_cast;omega) (Int.le_refl _) (by push_cast;omega) e' e;omega),if_pos e]
   ·exact h1 i (by omega) (by push_cast at b;omega) e
  ·rw [h2 (fun i a b=>h i (by omega) (by push_cast;omega)),if_neg (h q (Int.le_refl _) (by push_cast;omega))]
theorem higher_max {a b:Int} (ha:0≤a) (hb:0≤b):higherD a b=maxI a b%2:=by
 unfold higherD maxI
 rw [Int.tmod_eq_emod_of_nonneg ha,Int.tmod_eq_emod_of_nonneg hb]
 by_cases c:a<b
 ·rw [if_pos c,if_pos c]
 ·rw [if_neg c,if_neg c]
def chB (F L O:List Int) (lv:Int):Nat→Int→Int→Bool
 | 0,_,_=>false
 | q+1,j,x=>if j<0 then false else decide (x=j)||chB F L O lv q (nxD F L O lv j) x
section
variable {F L O:List Int} {b lv:Int}
theorem chain_neg (q:Nat) {j:Int} (hj:j<0) (U:List Bool) (A:List Int) (en:Int):chainD F L b O lv q j U A en=(U,A,en):=by
 cases q with
 | zero=>rfl
 | succ q=>simp only [chainD];rw [if_pos hj]
theorem chB_neg (q:Nat) {j x:Int} (hj:j<0):chB F L O lv q j x=false:=by
 cases q with
 | zero=>rfl
 | succ q=>simp only [chB];rw [if_pos hj]
theorem chain_indep:∀ (q:Nat) (j:Int) (U U':List Bool) (A:List Int) (en:Int),(chainD F L b O lv q j U A en).2=(chainD F L b O lv q j U' A en).2
 | 0,_,_,_,_,_=>rfl
 | q+1,j,U,U',A,en=>by
  simp only [chainD]
  by_cases h:j<0
  ·rw [if_pos h,if_pos h]
  ·rw [if_neg h,if_neg h];exact chain_indep q _ _ _ _ _
theorem chain_fuel:∀ (q q':Nat) (j:Int) (U:List Bool) (A:List Int) (en:Int),j<O.length→(O.length:Int)-j<q∨j<0→(O.length:Int)-j<q'∨j<0→chainD F L b O lv q j U A en=chainD F L b O lv q' j U A en∧∀ x,chB F L O lv q j x=chB F L O lv q' j x
 | 0,q',j,U,A,en,hl,h,h'=>by
  have hj:j<0:=by rcases h with h | h;push_cast at h;omega;exact h
  rw [chain_neg 0 hj,chain_neg q' hj]
  exact ⟨rfl,fun x=>by rw [chB_neg 0 hj,chB_neg q' hj]⟩
 | q+1,q',j,U,A,en,hl,h,h'=>by
  by_cases hj:j<0
  ·rw [chain_neg _ hj,chain_neg _ hj]
   exact ⟨rfl,fun x=>by rw [chB_neg _ hj,chB_neg _ hj]⟩
  ·obtain ⟨p,rfl⟩:∃ p,q'=p+1:=⟨q'-1,by omega⟩
   have hr:=nxD_rg (F:=F) (L:=L) (O:=O) (lv:=lv) (j:=j) (by omega) hl
   simp only [chainD,chB]
   rw [if_neg hj,if_neg hj]
   have ih:=chain_fuel q p (nxD F L O lv j) (U.set j.toNat true) (A++[rd O j]) (enD F L b O lv j en) (by omega) (by push_cast at h;omega) (by push_cast at h';omega)
   exact ⟨ih.1,fun x=>by rw [if_neg hj,if_neg hj,ih.2 x]⟩
theorem chB_ge:∀ (q:Nat) (j x:Int),j<O.length→chB F L O lv q j x=true→0≤j∧j≤x
 | 0,j,x,_,h=>by cases h
 | q+1,j,x,hl,h=>by
  simp only [chB] at h
  by_cases hj:j<0
  ·rw [if_pos hj] at h;cases h
  ·rw [if_neg hj,Bool.or_eq_true] at h
   refine ⟨by omega,?_⟩
   rcases h with h | h
   ·have:=of_decide_eq_true h;omega
   ·have hr:=nxD_rg (F:=F) (L:=L) (O:=O) (lv:=lv) (j:=j) (by omega) hl
    have:=chB_ge q _ x (by omega) h
    omega
theorem chain_used:∀ (q:Nat) (j:Int) (U:List Bool) (A:List Int) (en:Int),j<O.length→U.length=O.length→∀ x:Int,0≤x→x<O.length→rdb (chainD F L b O lv q j U A en).1 x=(rdb U x||chB F L O lv q j x)
 | 0,j,U,A,en,_,_,x,_,_=>by simp [chainD,chB]
 | q+1,j,U,A,en,hl,hU,x,h0,h1=>by
  by_cases hj:j<0
  ·rw [chain_neg _ hj,chB_neg _ hj,Bool.or_false]
  ·have hr:=nxD_rg (F:=F) (L:=L) (O:=O) (lv:=lv) (j:=j) (by omega) hl
   simp only [chainD,chB]
   rw [if_neg hj,if_neg hj,chain_used q _ _ _ _ (by omega) (by rw [List.length_set];exact hU) x h0 h1,←Bool.or_assoc]
   congr 1
   unfold rdb
   rw [List.getD_eq_getElem?_getD,List.getElem?_set]
   by_cases e:x=j
   ·rw [e,if_pos rfl,if_pos (by omega),decide_eq_true rfl];simp
   ·rw [if_neg (by omega),decide_eq_false e,Bool.or_false,←List.getD_eq_getElem?_getD]
structure RunI (F L O:List Int) (k J:Int):Prop where
 k0:0≤k
 kJ:k<J
 Jm:J≤O.length
 lv:∀ p:Int,k≤p→p<J→rd L (rd O p)=rd L (rd O k)
 nb:∀ p:Int,k<p→p<J→rd F (rd O (p-1))≠10
 nd:J=O.length∨¬ inD F L O J
theorem runEnd_spec {k:Int}:∀ (r:Nat) (j:Int),k≤j→j+r=O.length→(∀ p:Int,k≤p→p<j→rd L (rd O p)=rd L (rd O k))→(∀ p:Int,k<p→p<j→rd F (rd O (p-1))≠10) →
 j≤runEnd F L O k r j∧runEnd F L O k r j≤O.length∧(∀ p:Int,k≤p→p<runEnd F L O k r j→rd L (rd O p)=rd L (rd O k))∧(∀ p:Int,k<p→p<runEnd F L O k r j→rd F (rd O (p-1))≠10)∧(runEnd F L O k r j=O.length∨¬ (rd L (rd O (runEnd F L O k r j))=rd L (rd O k)∧(runEnd F L O k r j=k∨rd F (rd O (runEnd F L O k r j-1))≠10)))
 | 0,j,h0,h1,hL,hF=>⟨Int.le_refl _,by simp only [runEnd];push_cast at h1;omega,hL,hF,.inl (by simp only [runEnd];push_cast at h1;omega)⟩
 | r+1,j,h0,h1,hL,hF=>by
  push_cast at h1
  simp only [runEnd]
  by_cases c:rd L (rd O j)=rd L (rd O k)∧(j=k∨rd F (rd O (j-1))≠10)
  ·simp only [if_pos c]
   obtain ⟨g1,g2,g3⟩:=runEnd_spec (k:=k) r (j+1) (by omega) (by omega) (fun p a d=>by
    by_cases e:p=j
    ·rw [e];exact c.1
    ·exact hL p a (by omega)) (fun p a d=>by
    by_cases e:p=j
    ·rw [e];exact c.2.resolve_left (by omega)
    ·exact hF p a (by omega))
   exact ⟨by omega,g2,g3⟩
  ·simp only [if_neg c]
   exact ⟨Int.le_refl _,by omega,hL,hF,.inr c⟩
theorem run_known {k:Int} (h0:0≤k) (h1:k<O.length):RunI F L O k (runEnd F L O k (O.length-k.toNat) k):=by
 obtain ⟨g1,g2,g3,g4,g5⟩:=runEnd_spec (F:=F) (L:=L) (O:=O) (k:=k) (O.length-k.toNat) k (Int.le_refl _) (by omega) (fun p a d=>by omega) (fun p a d=>by omega)
 have hgt:k<runEnd F L O k (O.length-k.toNat) k:=by
  by_cases e:runEnd F L O k (O.length-k.toNat) k=k
  ·rw [e] at g5
   rcases g5 with h | h
   ·omega
   ·exact absurd ⟨rfl,.inl rfl⟩ h
  ·omega
 refine ⟨h0,hgt,g2,g3,g4,?_⟩
 rcases g5 with h | h
 ·exact .inl h
 ·right
  rintro ⟨a,d,e⟩
  refine h ⟨?_,.inr e⟩
  rw [d];exact g3 _ (by omega) (by omega)
theorem RunI.ind {k J:Int} (h:RunI F L O k J) {p:Int} (h1:k<p) (h2:p<J):inD F L O p:=by
 have:=h.k0
 exact ⟨by omega,by rw [h.lv p (by omega) h2,h.lv (p-1) (by omega) (by omega)],h.nb p h1 h2⟩
def outD (F O:List Int) (J:Int):Int:=if isOpener (rd F (rd O (J-1))) then hopD F O (J-1) else -1
theorem RunI.last {k J:Int} (h:RunI F L O k J) (hlv:lv=rd L (rd O k)):¬ goesD F L O lv (J-1):=by
 rintro ⟨h1,h2,h3⟩
 have h0:=h.k0
 have hk:=h.kJ
 rw [show J-1+1=J by omega] at h1 h2
 rcases h.nd with e | e
 ·omega
 ·exact e ⟨by omega,by rw [h2,hlv,h.lv (J-1) (by omega) (by omega)],h3⟩
theorem RunI.goes {k J:Int} (h:RunI F L O k J) (hlv:lv=rd L (rd O k)) {p:Int} (h1:k≤p) (h2:p<J-1):goesD F L O lv p:=by
 have:=h.Jm
 refine ⟨by omega,by rw [hlv];exact h.lv (p+1) (by omega) (by omega),?_⟩
 have:=h.nb (p+1) (by omega) (by omega)
 rwa [show p+1-1=p by omega] at this
theorem part_cons {p J:Int} (h0:0≤p) (h1:p<J) (h2:J≤O.length):partI O p J=rd O p::partI O (p+1) J:=by
 unfold partI
 rw [List.drop_eq_getElem_cons (by omega),show J.toNat-p.toNat=(J.toNat-(p+1).toNat)+1 by omega,List.take_succ_cons,show (p+1).toNat=p.toNat+1 by omega,rd_at h0 (by omega)]
theorem chain_run {k J:Int} (h:RunI F L O k J) (hlv:lv=rd L (rd O k)):∀ (d:Nat) (p:Int) (U:List Bool) (A:List Int) (en:Int),k≤p→p+d+1=J →
 ((chainD F L b O lv (O.length+1) p U A en).2=(chainD F L b O lv (O.length+1) (outD F O J) U (A++partI O p J) (higherD lv (behindD F L b O (J-1)))).2)∧(∀ x,J≤x→x<O.length→chB F L O lv (O.length+1) p x=chB F L O lv (O.length+1) (outD F O J) x)
 | 0,p,U,A,en,h1,h2=>by
  have h0:=h.k0
  have hJ:=h.Jm
  obtain rfl:p=J-1:=by push_cast at h2;omega
  have hn:nxD F L O lv (J-1)=outD F O J:=by unfold nxD outD;rw [if_neg (h.last hlv)]
  have he:enD F L b O lv (J-1) en=higherD lv (behindD F L b O (J-1)):=by unfold enD;rw [if_neg (h.last hlv)]
  have hr:=nxD_rg (F:=F) (L:=L) (O:=O) (lv:=lv) (j:=J-1) (by omega) (by omega)
  rw [hn] at hr
  have hp:partI O (J-1) J=[rd O (J-1)]:=by
   rw [part_cons (by omega) (by omega) hJ,show J-1+1=J by omega]
   unfold partI
   rw [Nat.sub_self,List.take_zero]
  have hf:=chain_fuel (F:=F) (L:=L) (b:=b) (O:=O) (lv:=lv) O.length (O.length+1) (outD F O J) U (A++[rd O (J-1)]) (higherD lv (behindD F L b O (J-1))) (by omega) (by omega) (by push_cast;omega)
  refine ⟨?_,fun x x1 x2=>?_⟩
  ·simp only [chainD]
   rw [if_neg (by omega),hn,he,hp,chain_indep _ _ _ U,hf.1]
   simp only [chainD]
  ·rw [show chB F L O lv (O.length+1) (J-1) x=if J-1<0 then false else decide (x=J-1)||chB F L O lv O.length (nxD F L O lv (J-1)) x from rfl,if_neg (by omega),decide_eq_false (by omega),Bool.false_or,hn,hf.2]
 | d+1,p,U,A,en,h1,h2=>by
  have h0:=h.k0
  have hJ:=h.Jm
  push_cast at h2
  have hg:=h.goes hlv h1 (by omega)
  have hn:nxD F L O lv p=p+1:=by unfold nxD;rw [if_pos hg]
  have he:enD F L b O lv p en=en:=by unfold enD;rw [if_pos hg]
  obtain ⟨i1,i2⟩:=chain_run h hlv d (p+1) U (A++[rd O p]) en (by omega) (by omega)
  have hf:=chain_fuel (F:=F) (L:=L) (b:=b) (O:=O) (lv:=lv) O.length (O.length+1) (p+1) U (A++[rd O p]) en (by omega) (by omega) (by push_cast;omega)
  refine ⟨?_,fun x x1 x2=>?_⟩
  ·rw [show chainD F L b O lv (O.length+1) p U A en=if p<0 then (U,A,en) else chainD F L b O lv O.length (nxD F L O lv p) (U.set p.toNat true) (A++[rd O p]) (enD F L b O lv p en) from rfl,if_neg (by omega),hn,he,chain_indep _ _ _ U,hf.1,i1,part_cons (p:=p) (by omega) (by omega) hJ,List.append_assoc]
   rfl
  ·rw [show chB F L O lv (O.length+1) p x=if p<0 then false else decide (x=p)||chB F L O lv O.length (nxD F L O lv p) x from rfl,if_neg (by omega),decide_eq_false (by omega),Bool.false_or,hn,hf.2,i2 x x1 x2]
theorem skip_run {J:Int}:∀ (d:Nat) (p:Int) (U:List Bool) (R:List SE),0≤p→p+d=J→J≤O.length→(∀ x:Int,p≤x→x<J→rdb U x=true∨inD F L O x)→seqsD F L b O (O.length-p.toNat) p U R=seqsD F L b O (O.length-J.toNat) J U R
 | 0,p,U,R,h0,h1,hJ,h=>by
  obtain rfl:p=J:=by push_cast at h1;omega
  rfl
 | d+1,p,U,R,h0,h1,hJ,h=>by
  push_cast at h1
  rw [show O.length-p.toNat=(O.length-(p+1).toNat)+1 by omega]
  simp only [seqsD]
  rw [if_pos (h p (Int.le_refl _) (by omega))]
  exact skip_run d (p+1) U R (by omega) (by omega) hJ (fun x a d=>h x (by omega) d)
end
section
variable {F L M O:List Int} {b:Int}
theorem out_known {k J:Int} (hF:Fx F L M) (hO:Ord F O) (hM:∀ o:Int,0≤o→o<F.length→isOpener (rd F o)→rd M o=mOf F o) (h:RunI F L O k J) :
 (outD F O J = -1∧¬ (isOpener (rd F (rd O (J-1)))∧0≤rd M (rd O (J-1))))∨(isOpener (rd F (rd O (J-1)))∧0≤rd M (rd O (J-1))∧J≤outD F O J∧outD F O J<O.length∧rd O (outD F O J)=rd M (rd O (J-1))∧rd L (rd O (outD F O J))=rd L (rd O k)∧¬ inD F L O (outD F O J)):=by
 have h0:=h.k0
 have hk:=h.kJ
 have hJ:=h.Jm
 have ho:=hO.rg (J-1) (by omega) (by omega)
 have hlo:rd L (rd O (J-1))=rd L (rd O k):=h.lv (J-1) (by omega) (by omega)
 unfold outD
 by_cases hop:isOpener (rd F (rd O (J-1)))
 ·rw [if_pos hop]
  have hm:=hM _ ho.1 ho.2.1 hop
  have huniq:∀ i j:Int,J≤i→i<J+(O.length-J.toNat:Nat)→J≤j→j<J+(O.length-J.toNat:Nat)→rd O i=mOf F (rd O (J-1))→rd O j=mOf F (rd O (J-1))→i=j:=fun i j a b c d e f=>hO.inj (by omega) (by omega) (by omega) (by omega) (e.trans f.symm)
  have hf:=fq_find (O:=O) (p:=mOf F (rd O (J-1))) (O.length-J.toNat) J (-1) huniq
  have hh:hopD F O (J-1)=fqD O (mOf F (rd O (J-1))) (O.length-J.toNat) J (-1):=by unfold hopD;rw [show J-1+1=J by omega]
  rw [hh]
  rcases hF.lk _ ho.1 ho.2.1 hop with e | ⟨e1,e2,e3,e4⟩
  ·left
   refine ⟨hf.2 (fun i a c d=>?_),fun x=>by omega⟩
   have:=hO.rg i (by omega) (by omega)
   omega
  ·right
   obtain ⟨i,i0,i1,i2⟩:=hO.ex _ (by omega) e2 (by rw [e3];unfold isRemoved;omega)
   have hiJ:J-1<i:=hO.lt' (by omega) (by omega) i0 i1 (by rw [i2];exact e1)
   have hfi:fqD O (mOf F (rd O (J-1))) (O.length-J.toNat) J (-1)=i:=hf.1 i (by omega) (by omega) (by rw [i2,hm])
   rw [hfi]
   refine ⟨hop,by omega,by omega,i1,i2,by rw [i2,e4,hlo],?_⟩
   rintro ⟨a1,a2,a3⟩
   have hnd:J<O.length→¬ inD F L O J:=fun x=>h.nd.resolve_left (by omega)
   by_cases hij:i=J
   ·exact hnd (by omega) (by rw [←hij];exact ⟨a1,a2,a3⟩)
   ·have g1:=hO.lt (J-1) (i-1) (by omega) (by omega) (by omega)
    have g2:=hO.lt (i-1) i (by omega) (by omega) i1
    have g3:=hO.lt (J-1) J (by omega) (by omega) (by omega)
    have g4:=hO.lt J i (by omega) (by omega) i1
    rcases hF.cl _ ho.1 ho.2.1 hop (by omega) with c | c
    ·have:=c (rd O (i-1)) g1 (by omega) (hO.rg (i-1) (by omega) (by omega)).2.2
     rw [←a2,i2,e4] at this
     omega
    ·have:=c (rd O J) g3 (by omega) (hO.rg J (by omega) (by omega)).2.2
     exact hnd (by omega) ⟨by omega,this,fun x=>by unfold isOpener at hop;omega⟩
 ·rw [if_neg hop]
  exact .inl ⟨rfl,fun x=>hop x.1⟩
def compS (F L:List Int) (b:Int) (O:List Int) (e:SE) (j:Int):SE:=⟨(chainD F L b O e.lv (O.length+1) j [] e.A e.en).2.1,e.lv,e.st,(chainD F L b O e.lv (O.length+1) j [] e.A e.en).2.2⟩
structure SimX (F L M O:List Int) (b k lo:Int) (E R:List SE) (U:List Bool) (G:Int→Option Nat) (Pd:Nat→Int):Prop where
 len:R.length=E.length
 ul:U.length=O.length
 pd:∀ i (h:i<E.length),Pd i = -1∨(k≤Pd i∧Pd i<O.length∧¬ inD F L O (Pd i)∧rd L (rd O (Pd i))=E[i].lv∧(Pd i<lo∨∃ p:Int,0≤p∧p<k∧isOpener (rd F (rd O p))∧rd M (rd O p)=rd O (Pd i)))
 re:∀ i (h:i<E.length),R[i]?=some (compS F L b O E[i] (Pd i))
 g:∀ q:Int,lo≤q→q<O.length→∀ i,G (rd O q)=some i↔(i<E.length∧Pd i=q)
 us:∀ x:Int,lo≤x→x<O.length→(rdb U x=true↔∃ i,∃ h:i<E.length,chB F L O E[i].lv (O.length+1) (Pd i) x=true)
theorem behind_after {J:Int}:behindD F L b O (J-1)=afterM F L b O J:=by
 unfold behindD afterM
 rw [show J-1+1=J by omega]
 by_cases hop:isOpener (rd F (rd O (J-1)))
 ·rw [if_pos hop,if_neg (fun x=>x.2.1 hop)]
 ·rw [if_neg hop]
  by_cases c:J<O.length∧rd F (rd O (J-1))≠10
  ·rw [if_pos c,if_pos ⟨c.1,hop,c.2⟩]
  ·rw [if_neg c,if_neg (fun x=>c ⟨x.1,x.2.2⟩)]
theorem after_nn {J:Int} (hF:Fx F L M) (hb:0≤b):0≤afterM F L b O J:=by
 unfold afterM
 split
 ·exact (hF.bd _).1
 ·exact hb
theorem SimX.step {k J:Int} {E R:List SE} {U:List Bool} {G:Int→Option Nat} {Pd:Nat→Int} (hF:Fx F L M) (hO:Ord F O) (hM:∀ o:Int,0≤o→o<F.length→isOpener (rd F o)→rd M o=mOf F o) (hb:0≤b)
 (h:SimX F L M O b k (k+1) E R U G Pd) (hr:RunI F L O k J) {i:Nat} (hi:i<E.length) (hp:Pd i=k) (hlv:E[i].lv=rd L (rd O k)) (un:∀ i',i'<E.length→i'≠i→Pd i'≠k) :
 SimX F L M O b J J (stepE F L b O k J i E) R U (openG F M O J i G) (fun i'=>if i'=i then outD F O J else Pd i'):=by
 have k0:=hr.k0
 have kJ:=hr.kJ
 have Jm:=hr.Jm
 have hout:=out_known hF hO hM hr
 have hg:E.getD i default=E[i]:=by rw [List.getD_eq_getElem?_getD,List.getElem?_eq_getElem hi];rfl
 have hsl:(stepE F L b O k J i E).length=E.length:=by unfold stepE;exact List.length_set
 have hat:∀ q (hq:q<E.length),(stepE F L b O k J i E)[q]'(by rw [hsl];exact hq)=if i=q then growE F L b O k J E[i] else E[q]:=fun q hq=>by
  simp only [stepE,List.getElem_set,hg]
 have hlvq:∀ q (hq:q<E.length),((stepE F L b O k J i E)[q]'(by rw [hsl];exact hq)).lv=E[q].lv:=fun q hq=>by
  rw [hat q hq]
  by_cases e:i=q
  ·subst e;rw [if_pos rfl];rfl
  ·rw [if_neg e]
 have hpJ:∀ q (hq:q<E.length),q≠i→Pd q = -1∨J≤Pd q:=fun q hq hne=>by
  rcases h.pd q hq with e | ⟨e1,e2,e3,e4,e5⟩
  ·exact .inl e
  ·right
   have:=un q hq hne
   by_cases hlt:Pd q<J
   ·exact absurd (hr.ind (p:=Pd q) (by omega) hlt) e3
   ·omega
 have hchain:=fun (d:Nat) (U:List Bool) (A:List Int) (en:Int)=>chain_run (b:=b) (lv:=E[i].lv) hr hlv d (J-1-d)
 have hlast:=chain_run (b:=b) (lv:=E[i].lv) hr hlv (J-1-k).toNat k
 have hoff:outD F O J<O.length:=by rcases hout with e | e;omega;exact e.2.2.2.1
 refine { len:=by rw [hsl];exact h.len,ul:=h.ul,pd:=fun q hq=>?_,re:=fun q hq=>?_,g:=fun q q0 q1 i'=>?_,us:=fun x x0 x1=>?_ }
 ·rw [hsl] at hq
  try dsimp only
  rw [hlvq q hq]
  by_cases e:q=i
  ·subst e
   rw [if_pos rfl]
   rcases hout with e | ⟨e1,e2,e3,e4,e5,e6,e7⟩
   ·exact .inl e.1
   ·exact .inr ⟨e3,e4,e7,by rw [e6,hlv],.inr ⟨J-1,by omega,by omega,e1,e5.symm⟩⟩
  ·rw [if_neg e]
   rcases h.pd q hq with e1 | ⟨e1,e2,e3,e4,e5⟩
   ·exact .inl e1
   ·have:=(hpJ q hq e).resolve_left (by omega)
    refine .inr ⟨this,e2,e3,e4,?_⟩
    rcases e5 with e5 | ⟨p,p0,p1,p2,p3⟩
    ·omega
    ·exact .inr ⟨p,p0,by omega,p2,p3⟩
 ·rw [hsl] at hq
  try dsimp only
  rw [hat q hq,h.re q hq]
  by_cases e:q=i
  ·subst e
   rw [if_pos rfl,if_pos rfl,hp]
   obtain ⟨c1,_⟩:=hlast [] E[q].A E[q].en (Int.le_refl _) (by omega)
   unfold compS growE
   try dsimp only
   rw [c1,behind_after,higher_max (by rw [hlv];exact (hF.bd _).1) (after_nn hF hb)]
  ·rw [if_neg e,if_neg (fun x=>e x.symm)]
 ·have hgo:=h.g q (by omega) q1 i'
  rw [hsl]
  try dsimp only
  unfold openG
  rcases hout with ⟨e1,e2⟩ | ⟨e1,e2,e3,e4,e5,e6,e7⟩
  ·rw [if_neg e2,hgo]
   by_cases e:i'=i
   ·rw [if_pos e,e1,e]
    exact ⟨fun x=>by omega,fun x=>by omega⟩
   ·rw [if_neg e]
  ·rw [if_pos ⟨e1,e2⟩]
   try dsimp only
   by_cases hq:q=outD F O J
   ·rw [hq,e5,if_pos rfl]
    constructor
    ·intro x
     cases x
     exact ⟨hi,if_pos rfl⟩
    ·rintro ⟨x1,x2⟩
     by_cases e:i'=i
     ·rw [e]
     ·rw [if_neg e] at x2
      exfalso
      rcases h.pd i' x1 with y | ⟨y1,y2,y3,y4,y5⟩
      ·omega
      ·rcases y5 with y5 | ⟨p,p0,p1,p2,p3⟩
       ·omega
       ·have hrp:=hO.rg p p0 (by omega)
        have hrj:=hO.rg (J-1) (by omega) (by omega)
        have:=hF.ij (rd O p) (rd O (J-1)) hrp.1 hrp.2.1 p2 hrj.1 hrj.2.1 e1 (by rw [p3,x2,e5];exact e2) (by rw [p3,x2,e5])
        have:=hO.inj p0 (by omega) (by omega) (by omega) this
        omega
   ·have hne:rd O q≠rd M (rd O (J-1)):=fun x=>hq (hO.inj (by omega) q1 (by omega) e4 (by rw [x,e5]))
    rw [if_neg hne,hgo]
    by_cases e:i'=i
    ·rw [if_pos e,e]
     exact ⟨fun x=>by omega,fun x=>absurd x.2.symm hq⟩
    ·rw [if_neg e]
 ·rw [h.us x (by omega) x1]
  have hci:=(hlast U [] 0 (Int.le_refl _) (by omega)).2 x x0 x1
  constructor
  ·rintro ⟨q,hq,hc⟩
   refine ⟨q,by rw [hsl];exact hq,?_⟩
   try dsimp only
   rw [hlvq q hq]
   by_cases e:q=i
   ·subst e
    rw [if_pos rfl,←hci,←hp];exact hc
   ·rw [if_neg e];exact hc
  ·rintro ⟨q,hq,hc⟩
   rw [hsl] at hq
   try dsimp only at hc
   rw [hlvq q hq] at hc
   refine ⟨q,hq,?_⟩
   by_cases e:q=i
   ·subst e
    rw [if_pos rfl,←hci] at hc
    rw [hp];exact hc
   ·rw [if_neg e] at hc;exact hc
theorem seqs_sim (hF:Fx F L M) (hO:Ord F O) (hM:∀ o:Int,0≤o→o<F.length→isOpener (rd F o)→rd M o=mOf F o) (hb:0≤b):∀ (n:Nat) (k:Int) (E R:List SE) (U:List Bool) (G:Int→Option Nat) (Pd:Nat→Int),0≤k→k≤O.length→k=O.length∨¬ inD F L O k→(O.length:Int)-k<n→SimX F L M O b k k E R U G Pd →
 seqsM F L M b O n k E G=seqsD F L b O (O.length-k.toNat) k U R
 | 0,k,E,R,U,G,Pd,h0,h1,hs,hn,h=>by push_cast at hn;omega
 | n+1,k,E,R,U,G,Pd,h0,h1,hs,hn,h=>by
  push_cast at hn
  simp only [seqsM]
  by_cases hk:k<O.length
  ·rw [if_pos hk]
   have hr:=run_known (F:=F) (L:=L) (O:=O) h0 hk
   generalize runEnd F L O k (O.length-k.toNat) k=J at hr
   have kJ:=hr.kJ
   have Jm:=hr.Jm
   have hst:¬ inD F L O k:=hs.resolve_left (by omega)
   have hJs:J=O.length∨¬ inD F L O J:=hr.nd
   have hg:=h.g k (Int.le_refl _) hk
   have hu:=h.us k (Int.le_refl _) hk
   have first:∀ lv j:Int,j<O.length→0≤j→chB F L O lv (O.length+1) j j=true:=fun lv j a c=>by
    rw [show chB F L O lv (O.length+1) j j=if j<0 then false else decide (j=j)||chB F L O lv O.length (nxD F L O lv j) j from rfl,if_neg (by omega),decide_eq_true rfl];rfl
   cases hG:G (rd O k) with
   | some i=>
    obtain ⟨hi,hp⟩:=(hg i).mp hG
    have hpd:=h.pd i hi
    rw [hp] at hpd
    have hlv:E[i].lv=rd L (rd O k):=(hpd.resolve_left (by omega)).2.2.2.1.symm
    have un:∀ i',i'<E.length→i'≠i→Pd i'≠k:=fun i' hi' hne hp'=>by
     have:=(hg i').mpr ⟨hi',hp'⟩
     rw [hG] at this
     exact hne (Option.some.inj this).symm
    have hX:SimX F L M O b k (k+1) E R U G Pd:=⟨h.len,h.ul,fun q hq=>(by
     rcases h.pd q hq with e | ⟨e1,e2,e3,e4,e5⟩
     ·exact .inl e
     ·refine .inr ⟨e1,e2,e3,e4,?_⟩
      rcases e5 with e5 | e5
      ·omega
      ·exact .inr e5),h.re,fun q a=>h.g q (by omega),fun x a=>h.us x (by omega)⟩
    have hX2:=hX.step hF hO hM hb hr hi hp hlv un
    try dsimp only
    rw [seqs_sim hF hO hM hb n J _ R U _ _ (by omega) Jm hJs (by omega) hX2]
    refine (skip_run (J-k).toNat k U R h0 (by omega) Jm (fun x a d=>?_)).symm
    by_cases e:x=k
    ·left
     rw [e,hu]
     exact ⟨i,hi,by rw [hp];exact first _ _ hk h0⟩
    ·exact .inr (hr.ind (by omega) d)
   | none=>
    have hno:∀ i',i'<E.length→Pd i'≠k:=fun i' hi' hp'=>by
     have:=(hg i').mpr ⟨hi',hp'⟩
     rw [hG] at this;cases this
    have hnu:rdb U k≠true:=fun hx=>by
     obtain ⟨i',hi',hc⟩:=hu.mp hx
     rcases h.pd i' hi' with e | ⟨e1,e2,e3,e4,e5⟩
     ·rw [e,chB_neg _ (by omega)] at hc;cases hc
     ·have:=chB_ge _ _ _ e2 hc
      exact hno i' hi' (by omega)
    have hX:SimX F L M O b k (k+1) (E++[newE F L b O k]) (R++[seqOf F L b O k U]) (chainD F L b O (rd L (rd O k)) (O.length+1) k U [] 0).1 G (fun i'=>if i'=E.length then k else Pd i'):=by
     have hlen:(E++[newE F L b O k]).length=E.length+1:=by simp
     have hold:∀ q (hq:q<E.length) (hq2:q<(E++[newE F L b O k]).length),(E++[newE F L b O k])[q]=E[q]:=fun q hq hq2=>List.getElem_append_left hq
     have hnew:∀ (hq2:E.length<(E++[newE F L b O k]).length),(E++[newE F L b O k])[E.length]=newE F L b O k:=fun hq2=>by
      rw [List.getElem_append_right (Nat.le_refl _)];simp
     refine { len:=by simp [h.len],ul:=(chainD_length _ _ _ _ _).trans h.ul,pd:=fun q hq=>?_,re:=fun q hq=>?_,g:=fun q q0 q1 i'=>?_,us:=fun x x0 x1=>?_ }
     ·try dsimp only
      by_cases e:q=E.length
      ·subst e
       rw [if_pos rfl,hnew]
       exact .inr ⟨Int.le_refl _,hk,hst,rfl,.inl (by omega)⟩
      ·rw [if_neg e,hold q (by omega)]
       rcases h.pd q (by omega) with e | ⟨e1,e2,e3,e4,e5⟩
       ·exact .inl e
       ·refine .inr ⟨e1,e2,e3,e4,?_⟩
        rcases e5 with e5 | e5
        ·omega
        ·exact .inr e5
     ·try dsimp only
      by_cases e:q=E.length
      ·subst e
       rw [if_pos rfl,hnew,List.getElem?_append_right (by rw [h.len];exact Nat.le_refl _),h.len,Nat.sub_self]
       have hah:higherD (rd L (rd O k)) (aheadD F L b O k)=maxI (rd L (rd O k)) (beforeM F L b O k)%2:=by
        have hab:aheadD F L b O k=beforeM F L b O k:=rfl
        rw [hab]
        refine higher_max (hF.bd _).1 ?_
        unfold beforeM
        split
        ·exact (hF.bd _).1
        ·exact hb
       unfold seqOf compS newE
       try dsimp only
       rw [hah,chain_indep _ _ U []]
       rfl
      ·rw [if_neg e,hold q (by omega),List.getElem?_append_left (by rw [h.len];omega)]
       exact h.re q (by omega)
     ·try dsimp only
      rw [h.g q (by omega) q1 i',hlen]
      by_cases e:i'=E.length
      ·rw [if_pos e]
       exact ⟨fun x=>by omega,fun x=>by omega⟩
      ·rw [if_neg e]
       exact ⟨fun x=>⟨by omega,x.2⟩,fun x=>⟨by omega,x.2⟩⟩
     ·try dsimp only
      rw [chain_used _ _ _ _ _ hk h.ul x (by omega) x1,Bool.or_eq_true,h.us x (by omega) x1]
      constructor
      ·rintro (⟨q,hq,hc⟩ | hc)
       ·exact ⟨q,by omega,by rw [if_neg (by omega),hold q hq];exact hc⟩
       ·exact ⟨E.length,by omega,by rw [if_pos rfl,hnew];exact hc⟩
      ·rintro ⟨q,hq,hc⟩
       by_cases e:q=E.length
       ·subst e
        rw [if_pos rfl,hnew] at hc
        exact .inr hc
       ·rw [if_neg e,hold q (by omega)] at hc
        exact .inl ⟨q,by omega,hc⟩
    have hX2:=hX.step hF hO hM hb hr (i:=E.length) (by simp) (if_pos rfl) (by rw [List.getElem_append_right (Nat.le_refl _)];simp [newE]) (fun i' hi' hne=>by
     rw [if_neg hne]
     rw [List.length_append,List.length_singleton] at hi'
     exact hno i' (by omega))
    try dsimp only
    rw [seqs_sim hF hO hM hb n J _ _ _ _ _ (by omega) Jm hJs (by omega) hX2]
    rw [show O.length-k.toNat=(O.length-(k+1).toNat)+1 by omega]
    simp only [seqsD]
    rw [if_neg (fun x=>x.elim hnu hst)]
    refine (skip_run (J-(k+1)).toNat (k+1) _ _ (by omega) (by omega) Jm (fun x a d=>.inr (hr.ind (by omega) d))).symm
  ·rw [if_neg hk,show O.length-k.toNat=0 by omega]
   simp only [seqsD]
   refine List.ext_getElem? (fun i=>?_)
   by_cases hi:i<E.length
   ·rw [h.re i hi,List.getElem?_eq_getElem hi]
    have hpd:Pd i = -1:=by
     rcases h.pd i hi with e | e
     ·exact e
     ·omega
    rw [hpd]
    unfold compS
    rw [chain_neg _ (by omega)]
   ·rw [List.getElem?_eq_none (by omega),List.getElem?_eq_none (by rw [h.len];omega)]
end
theorem sequences_eq (F:List Int) {b:Int} (hb:0≤b∧b≤1):sequencesM F (explM F b).1 (matchesM F) b=sequencesD F (explM F b).1 b:=by
 unfold sequencesM sequencesD
 exact seqs_sim (fx_known F hb) (ord_known F) (fun o a c op=>mOf_eq a c op) hb.1 ((orderM F F.length 0 []).length+1) 0 [] [] (List.replicate _ false) (fun _=>none) (fun _=> -1) (Int.le_refl _) (by omega) (.inr (fun x=>by have:=x.1;omega)) (by push_cast;omega)
  {len:=rfl,ul:=List.length_replicate,pd:=fun i h=>(by cases h),re:=fun i h=>(by cases h),g:=fun q _ _ i=>⟨fun x=>(by cases x),fun x=>(by cases x.1)⟩,us:=fun x x0 x1=>⟨fun h=>(by
    unfold rdb at h
    rw [List.getD_eq_getElem?_getD,List.getElem?_replicate] at h
    split at h <;> cases h),fun ⟨i,h,_⟩=>(by cases h)⟩ }
def OvI (x:XS):Prop:=∀ e∈x.E,e.2.1 = -1∨e.2.1=0∨e.2.1=1
theorem embOver_rg (c:Int):embOver c = -1∨embOver c=0∨embOver c=1:=by
 unfold embOver
 split
 ·exact .inr (.inr rfl)
 ·split
  ·exact .inr (.inl rfl)
  ·exact .inl rfl
theorem topM_ov {E:List Ent3} (h:∀ e∈E,e.2.1 = -1∨e.2.1=0∨e.2.1=1):(topM E).2.1 = -1∨(topM E).2.1=0∨(topM E).2.1=1:=by
 by_cases hE:E=[]
 ·subst hE;exact .inr (.inl rfl)
 ·exact h _ (topM_mem hE)
theorem OvI.next {D:TD} {i:Int} {x:XS} (h:OvI x):OvI (expX D i x)∧∀ t,expT D i x=some t→t.2.1 = -1∨t.2.1=0∨t.2.1=1:=by
 have hs:∀ e∈shutE x.E x.op x.is,e.2.1 = -1∨e.2.1=0∨e.2.1=1:=fun e he=>by
  unfold shutE at he
  split at he
  ·exact h e he
  ·split at he
   ·exact h e ((popIso_sublist _ _).subset he)
   ·exact h e he
 constructor
 ·unfold expX
  split
  ·split
   ·intro e he
    rcases List.mem_append.mp he with he | he
    ·exact h e he
    ·rw [List.mem_singleton.mp he];exact embOver_rg _
   ·exact h
  ·split
   ·split
    ·intro e he
     rcases List.mem_append.mp he with he | he
     ·exact h e he
     ·rw [List.mem_singleton.mp he];exact .inl rfl
    ·exact h
   ·split
    ·exact hs
    ·split
     ·split
      ·exact h
      ·split
       ·exact h
       ·split
        ·exact fun e he=>h e (List.dropLast_subset _ he)
        ·exact h
     ·split
      ·intro e he
       rw [List.mem_singleton.mp he];exact .inl rfl
      ·exact h
 ·intro t ht
  unfold expT at ht
  repeat' split at ht
  all_goals first | (cases ht;done) | (cases ht;exact topM_ov h) | (cases ht;exact topM_ov hs) | (cases ht;exact .inl rfl)
theorem expN_cls {D:TD}:∀ (r:Nat) (i:Int) (x:XS) (L N:List Int),0≤i→i+r≤N.length→OvI x→(∀ p:Int,0≤p→p<N.length→rd N p=rd D.F p∨rd N p=0∨rd N p=1)→∀ p:Int,0≤p→p<N.length→rd (expM D r i x L N).2 p=rd D.F p∨rd (expM D r i x L N).2 p=0∨rd (expM D r i x L N).2 p=1
 | 0,_,_,_,_,_,_,_,h=>h
 | r+1,i,x,L,N,h0,h1,hO,h=>by
  push_cast at h1
  obtain ⟨o1,o2⟩:=hO.next (D:=D) (i:=i)
  simp only [expM]
  have hl:(expN D i x N).length=N.length:=expN_length
  have:=expN_cls (D:=D) r (i+1) (expX D i x) (expL D i x L) (expN D i x N) (by omega) (by omega) o1 (fun p a b=>by
   rw [hl] at b
   unfold expN
   cases ht:expT D i x with
   | none=>exact h p a b
   | some t=>
    have ho:=o2 t ht
    show rd (plainN t N i) p=rd D.F p∨rd (plainN t N i) p=0∨rd (plainN t N i) p=1
    unfold plainN
    by_cases hn:t.2.1 ≠ -1
    ·rw [if_pos hn,rd_set h0 a (by omega)]
     by_cases e:p=i
     ·rw [if_pos e];right;omega
     ·rw [if_neg e];exact h p a b
    ·rw [if_neg hn];exact h p a b)
  rw [hl] at this
  exact this
theorem expl_cls (F:List Int) (b:Int) {p:Int} (h0:0≤p) (h1:p<F.length):rd (explM F b).2 p=rd F p∨rd (explM F b).2 p=0∨rd (explM F b).2 p=1:=by
 unfold explM
 exact expN_cls (D:=pureD F (matchesM F) b) F.length 0 _ _ F (Int.le_refl _) (by omega) (fun e he=>by rw [List.mem_singleton.mp he];exact .inl rfl) (fun p a b=>.inl rfl) p h0 h1
theorem seqs_inv {F L M:List Int} {b:Int} {O:List Int} (P:SE→Prop) (hn:∀ k,P (newE F L b O k)) (hg:∀ k j e,P e→P (growE F L b O k j e)):∀ (n:Nat) (k:Int) (E:List SE) (G:Int→Option Nat),(∀ e∈E,P e)→(∀ x i,G x=some i→i<E.length)→∀ e∈seqsM F L M b O n k E G,P e
 | 0,_,_,_,h,_=>h
 | n+1,k,E,G,h,hG=>by
  simp only [seqsM]
  have hset:∀ (E:List SE) (i:Nat) (j:Int),i<E.length→(∀ e∈E,P e)→∀ e∈stepE F L b O k j i E,P e:=fun E i j hi h e he=>by
   unfold stepE at he
   rcases List.mem_or_eq_of_mem_set he with he | he
   ·exact h e he
   ·rw [he]
    refine hg k j _ (h _ ?_)
    rw [List.getD_eq_getElem?_getD,List.getElem?_eq_getElem hi]
    exact List.getElem_mem _
  have hop:∀ (E:List SE) (i:Nat) (j:Int),i<E.length→(∀ x i,G x=some i→i<E.length)→∀ x i',openG F M O j i G x=some i'→i'<(stepE F L b O k j i E).length:=fun E i j hi hG x i' hx=>by
   rw [show (stepE F L b O k j i E).length=E.length by unfold stepE;exact List.length_set]
   unfold openG at hx
   split at hx
   ·dsimp only at hx
    split at hx
    ·cases hx;exact hi
    ·exact hG x i' hx
   ·exact hG x i' hx
  split
  ·split
   ·rename_i i hi
    exact seqs_inv P hn hg n _ _ _ (hset E i _ (hG _ _ hi) h) (hop E i _ (hG _ _ hi) hG)
   ·have hE:∀ e∈E++[newE F L b O k],P e:=fun e he=>by
     rcases List.mem_append.mp he with he | he
     ·exact h e he
     ·rw [List.mem_singleton.mp he];exact hn k
    have hl:E.length<(E++[newE F L b O k]).length:=by simp
    exact seqs_inv P hn hg n _ _ _ (hset _ E.length _ hl hE) (hop _ E.length _ hl (fun x i hx=>by have:=hG x i hx;omega))
  ·exact h
structure SqK (F L:List Int) (S:List SE):Prop where
 lv:∀ e∈S,(0≤e.lv∧e.lv≤125)∧(e.st=0∨e.st=1)
 at_:∀ e∈S,∀ p∈e.A,rd L p=e.lv
 nd:(S.flatMap SE.A).Nodup
 rg:∀ p∈S.flatMap SE.A,0≤p∧p<F.length∧¬ isRemoved (rd F p)
 ln:∀ e∈S,e.A.length≤F.length
theorem order_len {F:List Int}:∀ (r:Nat) (i:Int) (O:List Int),(orderM F r i O).length≤O.length+r
 | 0,_,_=>Nat.le_refl _
 | r+1,i,O=>by
  simp only [orderM]
  refine Nat.le_trans (order_len r _ _) ?_
  split
  ·omega
  ·rw [List.length_append,List.length_singleton];omega
theorem sqk_known (F:List Int) {b:Int} (hb:0≤b∧b≤1):SqK F (explM F b).1 (sequencesM F (explM F b).1 (matchesM F) b):=by
 have hF:=fx_known F hb
 obtain ⟨hOn,hOr⟩:=orderM_ok (F:=F) F.length 0 [] (by simp) (fun x h=>by cases h) (Int.le_refl _)
 have hS0:SeqI F (explM F b).1 (matchesM F) (orderM F F.length 0 []) 0 [] (fun _=>none):={ lv:=fun e he=>(by cases he),pm:=(by simp),g:=fun x i h=>(by cases h) }
 obtain ⟨k',G',hS⟩:=seqsM_ok (b:=b) (fun x h=>by have:=hOr x h;omega) (fun o a c op=>by
  rcases hF.lk o a c op with h | h
  ·exact .inl h
  ·exact .inr h.2.2.2) ((orderM F F.length 0 []).length+1) 0 [] _ hS0 (Int.le_refl _)
 have hinv:=seqs_inv (F:=F) (L:=(explM F b).1) (M:=matchesM F) (b:=b) (O:=orderM F F.length 0 []) (fun e=>(0≤e.lv∧e.lv≤125)∧(e.st=0∨e.st=1)) (fun k=>⟨hF.bd _,by
  show maxI (rd (explM F b).1 (rd (orderM F F.length 0 []) k)) (beforeM F (explM F b).1 b (orderM F F.length 0 []) k)%2=0∨maxI (rd (explM F b).1 (rd (orderM F F.length 0 []) k)) (beforeM F (explM F b).1 b (orderM F F.length 0 []) k)%2=1
  omega⟩) (fun k j e h=>h) ((orderM F F.length 0 []).length+1) 0 [] (fun _=>none) (fun e he=>by cases he) (fun x i h=>by cases h)
 have hpm:((sequencesM F (explM F b).1 (matchesM F) b).flatMap SE.A).Perm ((orderM F F.length 0 []).take k'.toNat):=hS.pm
 refine ⟨hinv,hS.lv,hpm.nodup_iff.mpr (hOn.sublist (List.take_sublist _ _)),fun p hp=>?_,fun e he=>?_⟩
 ·have hm:=List.mem_of_mem_take (hpm.mem_iff.mp hp)
  rcases (order_mem2 _ _ _).mp hm with h | h
  ·cases h
  ·exact ⟨h.1,by omega,h.2.2⟩
 ·have h1:e.A.length≤((sequencesM F (explM F b).1 (matchesM F) b).flatMap SE.A).length:=by
   obtain ⟨s,t,hst⟩:=List.append_of_mem he
   rw [hst];simp only [List.flatMap_append,List.flatMap_cons,List.length_append];omega
  rw [hpm.length_eq] at h1
  have h2:=order_len (F:=F) F.length 0 []
  rw [List.length_take] at h1
  simp at h2
  omega
theorem bump_set {A N cv:List Int} {lv:Int} {m:Nat} (hcv:cv=vw A N) (hlv:0≤lv∧lv≤125) (hcl:∀ j:Int,0≤j→j<A.length→rd cv j=0∨rd cv j=1∨rd cv j=3∨rd cv j=6) (hnd:A.Nodup):∀ (r:Nat) (k:Int) (L:List Int),0≤k→k+r=A.length→(∀ p∈A,0≤p∧p<L.length)→(∀ j:Int,k≤j→j<A.length→rd L (rd A j)=lv)→bumpM A N lv r k L=setD A cv lv r k L
 | 0,_,_,_,_,_,_=>rfl
 | r+1,k,L,h0,h1,hp,hL=>by
  push_cast at h1
  have hk:k<A.length:=by omega
  have hpk:=hp _ (rd_memA h0 hk)
  simp only [bumpM,setD]
  have e1:rd N (rd A k)=rd cv k:=by
   rw [hcv,rd_at (L:=vw A N) h0 (by rw [vw_len];exact hk)]
   unfold vw
   rw [List.getElem_map,rd_at (L:=A) h0 hk]
  have e2:bumpOf lv (rd N (rd A k)) (rd L (rd A k))=lv+upV lv (rd cv k):=by
   rw [e1,hL k (Int.le_refl _) hk]
   have hc:=hcl k h0 hk
   have ht:lv.tmod 2=lv%2:=Int.tmod_eq_emod_of_nonneg hlv.1
   unfold bumpOf upV
   rw [ht]
   generalize rd cv k=x at hc
   have hm:lv%2=0∨lv%2=1:=by omega
   rcases hm with h2 | h2 <;> rcases hc with rfl | rfl | rfl | rfl <;> simp [h2] <;> rw [wrap64 (by omega)]
  rw [e2]
  refine bump_set (m:=m) hcv hlv hcl hnd r (k+1) _ (by omega) (by omega) (fun p hp'=>by rw [List.length_set];exact hp p hp') (fun j j0 j1=>?_)
  have hpj:=hp _ (rd_memA (A:=A) (k:=j) (by omega) j1)
  rw [rd_set hpk.1 hpj.1 hpk.2,if_neg (fun e=>?_)]
  ·exact hL j (by omega) j1
  ·rw [rd_at (by omega) j1,rd_at h0 hk] at e
   have:=(List.getElem_inj hnd).mp e
   omega
theorem seqAll_eq {Y:Exts} {C F N0:List Int} (hbr:∀ x,brD x brP=(Y.BO x,Y.BK x)) (hP:∀ L,(Y.SM L).Perm L) (hS:∀ L,(Y.SM L).Pairwise (fun x y=>x.1≤y.1)) (hN0:∀ p:Int,0≤p→p<F.length→¬ isRemoved (rd F p)→Kp (rd N0 p)) :
 ∀ (E:List SE) (N L:List Int),N.length=F.length→L.length=F.length→(∀ e∈E,(0≤e.lv∧e.lv≤125)∧(e.st=0∨e.st=1))→(E.flatMap SE.A).Nodup→(∀ p∈E.flatMap SE.A,0≤p∧p<F.length∧¬ isRemoved (rd F p))→(∀ p∈E.flatMap SE.A,rd N p=rd N0 p)→(∀ e∈E,∀ p∈e.A,rd L p=e.lv) →
 (seqAllM Y C F E N L).2=allD C F N0 E L
 | [],_,_,_,_,_,_,_,_,_=>rfl
 | e::E,N,L,hn,hl,hlv,hnd,hrg,hN,hL=>by
  rw [List.flatMap_cons] at hnd hrg hN
  have he:=hlv e List.mem_cons_self
  have hnd2:=List.nodup_append.mp hnd
  have hA:Pos e.A N.length:=⟨hnd2.1,fun p hp=>by have:=hrg p (List.mem_append_left _ hp);omega⟩
  have hA2:Pos e.A L.length:=⟨hnd2.1,fun p hp=>by have:=hrg p (List.mem_append_left _ hp);omega⟩
  obtain ⟨v1,v2⟩:=seqStep_vi (Y:=Y) (C:=C) (F:=F) hP hA hA2 (Vi.refl e.A N) (Vi.refl e.A L)
  have hvw:vw e.A N=vw e.A N0:=List.map_congr_left fun p hp=>hN p (List.mem_append_left _ hp)
  have hown:=own_eq (Y:=Y) (c:=vw e.A C) (f:=vw e.A F) (v:=vw e.A N) (lv:=e.lv) (st:=e.st) (en:=e.en) hbr hP hS (vw_len _ _) he.1.1 he.2 (fun j j0 j1=>by
   have hm:=rd_memA (A:=e.A) j0 j1
   have hr:=hrg _ (List.mem_append_left _ hm)
   rw [hvw,rd_at (L:=vw e.A N0) j0 (by rw [vw_len];exact j1)]
   unfold vw
   rw [List.getElem_map,←rd_at (L:=e.A) j0 j1]
   exact hN0 _ hr.1 hr.2.1 hr.2.2)
  have hoD:ownN Y e.lv e.st e.en (vw e.A C) (vw e.A F) (vw e.A N)=ownD C F N0 e:=by
   rw [hown.1,hvw];rfl
  simp only [seqAllM,allD]
  have hstep:(seqStepM Y C F e N L).2=setD e.A (ownD C F N0 e) e.lv e.A.length 0 L:=by
   have hN':ownD C F N0 e=vw e.A (seqStepM Y C F e N L).1:=by rw [←hoD];exact v1.v
   have hcl:∀ j:Int,0≤j→j<e.A.length→rd (ownD C F N0 e) j=0∨rd (ownD C F N0 e) j=1∨rd (ownD C F N0 e) j=3∨rd (ownD C F N0 e) j=6:=fun j j0 j1=>by
    have:=hown.2 j j0 j1
    rw [←hown.1,hoD] at this
    exact this
   exact bump_set (m:=0) hN' he.1 hcl hnd2.1 e.A.length 0 L (Int.le_refl _) (by omega) hA2.rg (fun j j0 j1=>hL e List.mem_cons_self _ (rd_memA j0 j1))
  rw [←hstep]
  have hdis:∀ p∈E.flatMap SE.A,p∉e.A:=fun p hp h=>hnd2.2.2 p h p hp rfl
  refine seqAll_eq hbr hP hS hN0 E _ _ (v1.len.trans hn) (v2.len.trans hl) (fun e' h'=>hlv e' (List.mem_cons_of_mem _ h')) hnd2.2.1 (fun p hp=>hrg p (List.mem_append_right _ hp)) (fun p hp=>?_) (fun e' h' p hp=>?_)
  ·rw [v1.fr p (hrg p (List.mem_append_right _ hp)).1 (hdis p hp)];exact hN p (List.mem_append_right _ hp)
  ·have hpE:p∈E.flatMap SE.A:=List.mem_flatMap.mpr ⟨e',h',hp⟩
   rw [v2.fr p (hrg p (List.mem_append_right _ hpE)).1 (hdis p hpE)]
   exact hL e' (List.mem_cons_of_mem _ h') p hp
theorem ends1_eq {F:List Int} {b:Int} {n:Nat}:∀ (r:Nat) (i last:Int) (L:List Int),0≤i→i+r=n→L.length=n→last=(if 0<i then rd L (i-1) else b)→ends1M F r i last L=e1D F b r i L
 | 0,_,_,_,_,_,_,_=>rfl
 | r+1,i,last,L,h0,h1,hl,hla=>by
  push_cast at h1
  simp only [ends1M,e1D]
  by_cases c:isRemoved (rd F i)
  ·rw [if_pos c,if_pos c,←hla]
   exact ends1_eq (n:=n) r (i+1) _ _ (by omega) (by omega) (by rw [List.length_set];exact hl) (by rw [if_pos (show 0<i+1 by omega),show i+1-1=i by omega])
  ·rw [if_neg c,if_neg c]
   exact ends1_eq (n:=n) r (i+1) _ _ (by omega) (by omega) hl (by rw [if_pos (show 0<i+1 by omega),show i+1-1=i by omega])
def tlD (F:List Int) (j:Int):Prop:=endsAt F (skD F (F.length-j.toNat) j)
instance (F:List Int) (j:Int):Decidable (tlD F j):=inferInstanceAs (Decidable (endsAt F _))
theorem e2_pt {F:List Int} {b:Int}:∀ (r:Nat) (i:Int) (L:List Int),0≤i→i+r=F.length→L.length=F.length→(∀ j:Int,0≤j→rd (e2D F b r i L) j=if i≤j∧j<F.length∧tlD F j then b else rd L j)∧(e2D F b r i L).length=F.length
 | 0,i,L,h0,h1,hl=>⟨fun j hj=>by rw [if_neg (fun x=>by push_cast at h1;omega)];rfl,hl⟩
 | r+1,i,L,h0,h1,hl=>by
  push_cast at h1
  simp only [e2D]
  obtain ⟨ih,il⟩:=e2_pt (F:=F) (b:=b) r (i+1) (if endsAt F (skD F (F.length-i.toNat) i) then L.set i.toNat b else L) (by omega) (by omega) (by split <;> simp [hl])
  refine ⟨fun j hj=>?_,il⟩
  rw [ih j hj]
  by_cases c:endsAt F (skD F (F.length-i.toNat) i)
  ·rw [if_pos c,rd_set h0 hj (by omega)]
   by_cases e:j=i
   ·subst e
    rw [if_neg (fun x=>by omega),if_pos rfl,if_pos ⟨Int.le_refl _,by omega,c⟩]
   ·rw [if_neg e]
    by_cases c2:i+1≤j∧j<F.length∧tlD F j
    ·rw [if_pos c2,if_pos ⟨by omega,c2.2⟩]
    ·rw [if_neg c2,if_neg (fun x=>c2 ⟨by omega,x.2⟩)]
  ·rw [if_neg c]
   by_cases c2:i+1≤j∧j<F.length∧tlD F j
   ·rw [if_pos c2,if_pos ⟨by omega,c2.2⟩]
   ·rw [if_neg c2,if_neg (fun x=>?_)]
    by_cases e:j=i
    ·subst e;exact c x.2.2
    ·exact c2 ⟨by omega,x.2⟩
theorem tl_step {F:List Int} {r:Nat} (hr:r<F.length) (t:Bool) (ht:t=decide (tlD F (r+1))):tailOf (rd F r) t=decide (tlD F r):=by
 have e:tlD F r↔(if isTail (rd F r) then tlD F (r+1) else endsAt F r):=by
  unfold tlD
  rw [show F.length-((r:Int)).toNat=(F.length-((r:Int)+1).toNat)+1 by omega]
  simp only [skD]
  by_cases c:isTail (rd F r)
  ·rw [if_pos c,if_pos c]
  ·rw [if_neg c,if_neg c]
 rw [decide_eq_decide.mpr e]
 unfold tailOf
 by_cases c1:rd F r=11∨rd F r=10
 ·have hnt:¬ isTail (rd F r):=fun x=>by unfold isTail isOpener isRemoved at x;omega
  rw [if_pos c1]
  refine (decide_eq_true ?_).symm
  rw [if_neg hnt]
  exact .inr c1
 ·rw [if_neg c1]
  by_cases c2:isTail (rd F r)
  ·rw [if_neg (fun x=>by unfold isTail at c2;rcases c2 with y | y | y | y;exact x.1 y;exact x.2.1 y;exact x.2.2.1 y;exact x.2.2.2 y),ht]
   refine decide_eq_decide.mpr ?_
   rw [if_pos c2]
  ·rw [if_pos (by unfold isTail at c2;exact ⟨fun y=>c2 (.inl y),fun y=>c2 (.inr (.inl y)),fun y=>c2 (.inr (.inr (.inl y))),fun y=>c2 (.inr (.inr (.inr y)))⟩)]
   refine (decide_eq_false ?_).symm
   rw [if_neg c2]
   rintro (x | x)
   ·omega
   ·exact c1 x
theorem ends2_pt {F:List Int} {b:Int}:∀ (r:Nat) (t:Bool) (L:List Int),r≤F.length→L.length=F.length→t=decide (tlD F r)→(∀ j:Int,0≤j→rd (ends2M F b r t L) j=if j<r∧tlD F j then b else rd L j)∧(ends2M F b r t L).length=F.length
 | 0,_,L,_,hl,_=>⟨fun j hj=>by rw [if_neg (fun x=>by have:=x.1;push_cast at this;omega)];rfl,hl⟩
 | r+1,t,L,hr,hl,ht=>by
  have hs:=tl_step (F:=F) (r:=r) (by omega) t (by rw [ht];rfl)
  simp only [ends2M]
  rw [hs]
  obtain ⟨ih,il⟩:=ends2_pt (F:=F) (b:=b) r (decide (tlD F r)) (if decide (tlD F r)=true then L.set r b else L) (by omega) (by split <;> simp [hl]) rfl
  refine ⟨fun j hj=>?_,il⟩
  rw [ih j hj]
  have hrs:=rd_set (L:=L) (i:=(r:Int)) (j:=j) (x:=b) (by omega) hj (by omega)
  rw [Int.toNat_natCast] at hrs
  by_cases c:tlD F r
  ·rw [show (if decide (tlD F r)=true then L.set r b else L)=L.set r b from if_pos (decide_eq_true c),hrs]
   by_cases e:j=r
   ·subst e
    rw [if_neg (fun x=>by omega),if_pos rfl,if_pos ⟨by push_cast;omega,c⟩]
   ·rw [if_neg e]
    by_cases c2:j<r∧tlD F j
    ·rw [if_pos c2,if_pos ⟨by push_cast;omega,c2.2⟩]
    ·rw [if_neg c2,if_neg (fun x=>c2 ⟨by have:=x.1;push_cast at this;omega,x.2⟩)]
  ·rw [show (if decide (tlD F r)=true then L.set r b else L)=L from if_neg (by rw [decide_eq_false c];decide)]
   by_cases c2:j<r∧tlD F j
   ·rw [if_pos c2,if_pos ⟨by push_cast;omega,c2.2⟩]
   ·rw [if_neg c2,if_neg (fun x=>?_)]
    by_cases e:j=r
    ·subst e;exact c x.2
    ·exact c2 ⟨by have:=x.1;push_cast at this;omega,x.2⟩
theorem ends_eq {F:List Int} {b:Int} {L:List Int} (hl:L.length=F.length):endsM F b L=e2D F b F.length 0 (e1D F b F.length 0 L):=by
 unfold endsM
 rw [ends1_eq (b:=b) F.length 0 b L (Int.le_refl _) (by omega) hl (by rw [if_neg (by omega)])]
 have hl1:(e1D F b F.length 0 L).length=F.length:=by
  have:∀ (r:Nat) (i:Int) (L:List Int),(e1D F b r i L).length=L.length:=fun r=>by
   induction r with
   | zero=>intro i L;rfl
   | succ r ih=>intro i L;simp only [e1D];rw [ih];split <;> simp
  rw [this];exact hl
 have htl:tlD F F.length:=by
  unfold tlD
  rw [show F.length-((F.length:Int)).toNat=0 by omega]
  exact .inl rfl
 obtain ⟨h1,h2⟩:=ends2_pt (F:=F) (b:=b) F.length true (e1D F b F.length 0 L) (Nat.le_refl _) hl1 (decide_eq_true htl).symm
 obtain ⟨h3,h4⟩:=e2_pt (F:=F) (b:=b) F.length 0 (e1D F b F.length 0 L) (Int.le_refl _) (by omega) hl1
 refine ext_rd h2 h4 (fun i i0 i1=>?_)
 rw [h1 i i0,h3 i i0]
 by_cases c:tlD F i
 ·rw [if_pos ⟨i1,c⟩,if_pos ⟨i0,i1,c⟩]
 ·rw [if_neg (fun x=>c x.2),if_neg (fun x=>c x.2.2)]
theorem levels_eq {Y:Exts} {C:List Int} {b:Int} (hbr:∀ x,brD x brP=(Y.BO x,Y.BK x)) (hP:∀ L,(Y.SM L).Perm L) (hS:∀ L,(Y.SM L).Pairwise (fun x y=>x.1≤y.1)) (hc:∀ c,0≤Y.LB c∧Y.LB c≤22) (hb : -1≤b∧b≤1) :
 levelsD Y C b=levelsM Y C b∧∀ e∈sequencesD (C.map Y.LB) (explM (C.map Y.LB) (bD b (C.map Y.LB))).1 (bD b (C.map Y.LB)),(0≤e.lv∧e.lv≤125)∧e.A.length≤C.length∧∀ x∈e.A,0≤x∧x<C.length:=by
 have hFl:(C.map Y.LB).length=C.length:=List.length_map _
 have hFc:∀ p:Int,0≤p→p<(C.map Y.LB).length→0≤rd (C.map Y.LB) p∧rd (C.map Y.LB) p≤22:=fun p a d=>by rw [rd_map a (by omega)];exact hc _
 unfold levelsD levelsM
 generalize C.map Y.LB=F at hFl hFc
 have hbb:bD b F=bOf b F:=by
  unfold bD bOf
  rw [firstD_eq (Int.le_refl _) _ _ (Int.le_refl _)]
 rw [hbb]
 have hb0:0≤bOf b F∧bOf b F≤1:=by
  unfold bOf
  split
  ·exact baseM_range _ _
  ·omega
 generalize bOf b F=b0 at hb0
 have hK:=sqk_known F hb0
 have hl:=expl_len F b0
 rw [←sequences_eq F hb0]
 have hN0:∀ p:Int,0≤p→p<F.length→¬ isRemoved (rd F p)→Kp (rd (explM F b0).2 p):=fun p a d r=>by
  have h1:=expl_cls F b0 a d
  have h2:=hFc p a d
  unfold isRemoved at r
  unfold Kp
  omega
 have hall:=seqAll_eq (Y:=Y) (C:=C) (F:=F) (N0:=(explM F b0).2) hbr hP hS hN0 _ (explM F b0).2 (explM F b0).1 hl.2 hl.1 hK.lv hK.nd hK.rg (fun p hp=>rfl) hK.at_
 refine ⟨?_,fun e he=>⟨(hK.lv e he).1,by rw [←hFl];exact hK.ln e he,fun x hx=>?_⟩⟩
 ·rw [←hall,←hFl]
  refine (ends_eq ?_).symm
  have:∀ (E:List SE) (N L:List Int),(seqAllM Y C F E N L).2.length=L.length:=fun E=>by
   induction E with
   | nil=>intro N L;rfl
   | cons e E ih=>intro N L;simp only [seqAllM];rw [ih];exact seqStepM_len.2
  rw [this];exact hl.1
 ·have:=hK.rg x (List.mem_flatMap.mpr ⟨e,he,hx⟩)
  rw [←hFl];exact ⟨this.1,this.2.1⟩
variable {X:CallE} {ro:Nat}
set_option maxRecDepth 10000
theorem same_spR {s:St} {H:Hp} {A:Option Addr} {c cc n kk:Nat} {L:List Int} (hX:OwnX X) (hM:Models ro s H) (hc:H c=some (.row 1 (L.map (.int .i64)))) (hr:Rdd H A L) (hl:L.length=n) (hn:n≤17592186044416) :
 Sp X Try.prog ro 15 [.slice (some ⟨c,0,none⟩) n cc,.slice A n kk] s fun u H'=>u = .bool true∧H'=H:=by
 refine Bo hX Try.func15 Try.ntmps15 (z:=?_)
 refine WC.seq (Rg (Av (z:=Nl (WC.seq (WC.seq (Rg (Mv (z:=Co (Ln (z:=Mv (z:=Co (Ln (z:=Co (Ni (z:=Nl ?_)))))))))))))))
 have hnn:decide ((n:Int)≠(n:Int))=false:=by simp
 refine Cf (z:=WC.skip (WC.seq (WC.seq (Rg (Mv (z:=Co (Ln (z:=Mv (z:=Nl (WC.block ?_))))))))))
 refine WC.loop (D:=Nat) (fun x=>[(0,.slice (some ⟨c,0,none⟩) n cc),(1,.slice A n kk),(11,.slice (some ⟨c,0,none⟩) n cc),(12,.int .i64 n),(13,.int .i64 x)])
  (fun x s1=>s.next≤s1.next∧Models ro s1 H∧x≤n) (fun x=>n-x) 0 ?_ ⟨by omega,hM,by omega⟩ ?_
 ·exact Ho
 rintro k g s1 ⟨hn1,hM1,hk⟩
 refine WC.seq (Rg (Co (Lt (z:=Nl (WC.seq ?_)))))
 refine WC.condD rfl (fun hlt hltb=>?_) (fun hlt hltb=>?_)
 ·obtain ⟨ν,o,f,rfl,hν,hf⟩:=hr k (by omega) (by omega)
  have hne:decide (rd L k≠rd L k)=false:=by simp
  refine WC.skip (WC.seq (WC.block (WC.seq (Rg (Mv (z:=Av (z:=Nl (WC.seq (WC.dr [0,1,2,3,4,5,6,7,8] (z:=Mw (z:=Mw (z:=Cd (Ix (z:=Cd (Ld (z:=Mw (z:=Mw (z:=Cd (Ix (z:=?_))))))))))))))))))))
  refine WD.cons (SV.loadR (by assumption) rfl (by assumption) (by assumption) ?_) (by decide)
  refine Cd (Ni (z:=Nz (Cf (z:=WC.skip (Rg (Co (Ad (z:=Mv (z:=Nl ?_)))))))))
  exact ⟨rfl,k+1,Ho,⟨by omega,hM1,by omega⟩,by omega⟩
 ·refine WC.exit (WC.seq (Rg (Av (z:=Nl (WC.ret ?_)))))
  exact fin_one (e:=.ret) rfl trivial rfl hn1 hM1 ⟨rfl,rfl⟩
theorem spD_len {L S:List Int} {n:Nat}:∀ (r:Nat) (i fr:Int) (R:List RunE),(spD L S n r i fr R).length≤R.length+r
 | 0,_,_,_=>Nat.le_refl _
 | r+1,i,fr,R=>by
  simp only [spD]
  split
  ·refine Nat.le_trans (spD_len r _ _ _) ?_
   rw [List.length_append,List.length_singleton];omega
  ·refine Nat.le_trans (spD_len r _ _ _) ?_
   omega
theorem splits_sp {Y:Exts} {s:St} {H:Hp} {A:Option Addr} {kk n:Nat} {C:List Int} {b:Int} (hX:ExtOk X ro Y) (hbr:∀ x,brD x brP=(Y.BO x,Y.BK x)) (hS:∀ L,(Y.SM L).Pairwise (fun x y=>x.1≤y.1)) (hcl:∀ c,0≤Y.LB c∧Y.LB c≤22) (hsc:∀ c,0≤Y.LS c) (hM:Models ro s H)
 (hsrc:∀ H':Hp,(∀ ν o,H ν=some o→H' ν=some o)→Src Try.prog ro H' (.slice A n kk) 1 n (C.map (.int .i64))) (hr:Rdd H A C) (hl:C.length=n) (hbig:n*8≤140737488351232) :
 Sp X Try.prog ro 10 [.slice A n kk,.int .i64 b] s fun v H'=>v = .bool true:=by
 have hX0:=hX.own
 refine Bo hX.own Try.func10 Try.ntmps10 (z:=?_)
 refine WC.seq (Rg (Av (z:=Nl (WC.seq (WC.seq (Rg (Co ?_)))))))
 refine SV.callM rfl rfl (hX.alive _ _ hM) ?_
 rintro v s1 H1 hn1 hM1 ⟨rfl,eH⟩
 rw [eH] at hM1
 clear eH
 refine Co (Nn (z:=Nl (Cf (z:=WC.skip (WC.seq (Rg (Co (Bs (z:=fun a3_0 s3_0 hf3_0 hne3_0 hn3_0 hM3_0=>Mv (z:=Co ?_))))))))))
 have hMb:Models ro s3_0 (H.up a3_0 (.row 1 [])):=hM3_0
 clear hM3_0
 refine SV.appendM (t:=23) (u:=23) (e:=3) (e':=3) (sz:=1) (sz':=1) (bytes:=8) (z:=[.int .i64 0]) (n:=0) (m:=n) (vs:=[]) (xs:=C.map (.int .i64)) rfl hMb rfl rfl (.inr ⟨a3_0,0,[],rfl,Hp.up_same,rfl,Nat.le_refl _,rfl⟩)
  (hsrc _ (fun ν o e=>Hp.up_ne (hne3_0 _ _ e) e)) rfl (by omega) (fun v1 s4 H4 hn4 hM4 hv4 hk4 hnew4 hex4=>?_)
 obtain ⟨c,rfl,hc4,hkp4⟩:=app_fresh hne3_0 hl hk4 hnew4 hex4
 clear hv4 hk4 hnew4 hex4 hMb
 refine Av (z:=Nl ?_)
 have hr4:Rdd H4 A C:=hr.mono (fun ν o e=>(hkp4 _ _ e).1)
 have hsame:∀ (Hx:Hp) (s':St),Models ro s' Hx→Hx c=some (.row 1 (C.map (.int .i64)))→Rdd Hx A C→Sp X Try.prog ro 15 [.slice (some ⟨c,0,none⟩) n n,.slice A n kk] s' fun u H'=>u = .bool true∧H'=Hx:=fun Hx s' hMx hcx hrx=>by
  exact same_spR hX0 hMx hcx hrx hl (by omega)
 by_cases hb:levelsBad n b=0
 ·have hbn : -1≤b∧b≤1:=by
   unfold levelsBad at hb
   split at hb
   ·cases hb
   ·omega
  obtain ⟨eL,hseq⟩:=levels_eq (Y:=Y) (C:=C) (b:=b) hbr hX.perm hS hcl hbn
  rw [hl] at hseq
  refine WC.seq (Rg (Mv (z:=Mv (z:=Co ?_))))
  refine SV.callM rfl rfl (splitD_sp hX hM4 hr4 hl hb hseq) ?_
  rintro v s5 H5 hn5 hM5 ⟨w,rfl,kp5,hw5⟩
  refine Mv (z:=Co (Et (z:=Co (Et (z:=?_)))))
  refine WO.cons (SV.assign ?_) (by decide)
  refine Av (z:=Nl ?_)
  have c29:=split_sp (cc:=n) hX hM5 (kp5 _ _ hc4).1 (b:=b) (by rw [hl];exact hb)
  rw [hl] at c29
  refine WC.seq (Rg (Mv (z:=Mv (z:=Co ?_))))
  refine SV.callM rfl rfl c29 ?_
  rintro v s6 H6 hn6 hM6 ⟨w2,rfl,kp6,hw6⟩
  refine Mv (z:=Co (Et (z:=Co (Et (z:=?_)))))
  refine WO.cons (SV.assign ?_) (by decide)
  refine Av (z:=Nl ?_)
  have hRR:splitM (levelsM Y C b) (scriptsM Y C) n 0 []=splitD (levelsD Y C b) (scriptsD (C.map Y.LS)) n:=by rw [split_eq,eL,scripts_eq hsc]
  rw [hRR] at hw6
  have hw5':SlO H6 w 4 (splitD (levelsD Y C b) (scriptsD (C.map Y.LS)) n).length ((splitD (levelsD Y C b) (scriptsD (C.map Y.LS)) n).flatMap enc4):=SlO.keep hw5 (fun ν o _ e=>(kp6 _ _ e).1)
  have hlen:(splitD (levelsD Y C b) (scriptsD (C.map Y.LS)) n).length≤100000:=by
   have h1:=spD_len (L:=levelsD Y C b) (S:=scriptsD (C.map Y.LS)) (n:=n) n 1 0 []
   have h2:n≤16384:=by
    unfold levelsBad at hb
    split at hb
    ·cases hb
    ·split at hb
     ·cases hb
     ·omega
   unfold splitD
   simp only [List.length_nil,Nat.zero_add] at h1
   omega
  have hc6:=(kp6 _ _ (kp5 _ _ hc4).1).1
  have hr6:Rdd H6 A C:=hr4.mono (fun ν o e=>(kp6 _ _ (kp5 _ _ e).1).1)
  have hd0:decide ((0:Int)=0)=true:=rfl
  refine WC.seq (Rg (Mv (z:=Mv (z:=Co (Ei (z:=Mv (z:=?_)))))))
  refine WO.guardY rfl rfl rfl (by assumption) (SV.move ?_) (by decide)
  all_goals (refine WO.guardY rfl rfl rfl (by assumption) (SV.move ?_) (by decide))
  all_goals (refine WO.guardY rfl rfl rfl (by assumption) ?_ (by decide))
  refine SV.callM rfl rfl (sameRuns_sp hX0 hM6 hw6 hw5' hlen) ?_
  rintro v s7 H7 hn7 hM7 ⟨rfl,eH⟩
  rw [eH] at hM7
  clear eH
  refine Co (Pt (z:=Mv (z:=Gy (z:=Mq (z:=Gy (z:=Mq (z:=?_)))))))
  all_goals (refine WO.guardY rfl rfl rfl (by assumption) ?_ (by decide))
  refine SV.callM rfl rfl (hsame H6 _ hM7 hc6 hr6) ?_
  rintro v s8 H8 hn8 hM8 ⟨rfl,eH⟩
  rw [eH] at hM8
  clear eH
  refine Co (Pt (z:=Av (z:=Nl (WC.ret ?_))))
  exact fin_one (e:=.ret) (v:=.bool true) rfl trivial rfl (by omega) hM8 rfl
 ·refine WC.seq (Rg (Mv (z:=Mv (z:=Co ?_))))
  refine SV.callM rfl rfl (splitD_no hX0 hM4 hb) ?_
  rintro v s5 H5 hn5 hM5 ⟨rfl,eH⟩
  rw [eH] at hM5
  clear eH
  refine Mv (z:=Co (Et (z:=Co (Et (z:=Av (z:=Av (z:=Nl ?_)))))))
  have c29:=split_no (cc:=n) hX hM5 hc4 (b:=b) (by rw [hl];exact hb)
  rw [hl] at c29
  refine WC.seq (Rg (Mv (z:=Mv (z:=Co ?_))))
  refine SV.callM rfl rfl c29 ?_
  rintro v s6 H6 hn6 hM6 ⟨rfl,eH⟩
  rw [eH] at hM6
  clear eH
  refine Mv (z:=Co (Et (z:=Co (Et (z:=Av (z:=Av (z:=Nl ?_)))))))
  have hd0:decide (levelsBad n b=levelsBad n b)=true:=decide_eq_true rfl
  refine WC.seq (Rg (Mv (z:=Mv (z:=Co (Ei (z:=Mv (z:=Gy (z:=Mq (z:=Gy (z:=Mq (z:=?_)))))))))))
  all_goals (refine WO.guardY rfl rfl rfl (by assumption) ?_ (by decide))
  refine SV.callM rfl rfl (sameRuns_sp (R:=[]) hX0 hM6 (.inl ⟨rfl,rfl,rfl⟩) (.inl ⟨rfl,rfl,rfl⟩) (Nat.zero_le _)) ?_
  rintro v s7 H7 hn7 hM7 ⟨rfl,eH⟩
  rw [eH] at hM7
  clear eH
  refine Co (Pt (z:=Mv (z:=Gy (z:=Mq (z:=Gy (z:=Mq (z:=?_)))))))
  all_goals (refine WO.guardY rfl rfl rfl (by rfl) ?_ (by decide))
  refine SV.callM rfl rfl (hsame H4 _ hM7 hc4 hr4) ?_
  rintro v s8 H8 hn8 hM8 ⟨rfl,eH⟩
  rw [eH] at hM8
  clear eH
  refine Co (Pt (z:=Av (z:=Nl (WC.ret ?_))))
  exact fin_one (e:=.ret) (v:=.bool true) rfl trivial rfl (by omega) hM8 rfl
end Go.Proofs.Ythkklpegjcnjoaa
