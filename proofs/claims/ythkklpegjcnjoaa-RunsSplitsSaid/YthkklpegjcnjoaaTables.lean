/- Both ways of looking a character up in the table come to the same at every code. No condition. -/
import Derived.Test.YthkklpegjcnjoaaLook2
import Derived.Test.YthkklpegjcnjoaaRefLook
namespace Go.Proofs.Ythkklpegjcnjoaa
theorem cnt (q:Nat→Bool) (M:Nat) (hq:∀ a b,a≤b→b<M→q b=true→q a=true):∀ m,m≤M→(List.range m).countP q≤m∧∀ i,i<m→(i<(List.range m).countP q↔q i=true)
 | 0,_=>⟨by simp,fun i hi=>by omega⟩
 | m+1,hm=>by
  obtain ⟨h1,h2⟩:=cnt q M hq m (by omega)
  rw [List.range_succ,List.countP_append,List.countP_singleton]
  by_cases hqm:q m=true
  ·have hall:(List.range m).countP q=m:=by
    have:(List.range m).countP q=(List.range m).length:=by
     rw [List.countP_eq_length]
     intro a ha
     exact hq a m (by have:=List.mem_range.1 ha;omega) (by omega) hqm
    simpa using this
   rw [hall,if_pos hqm]
   refine ⟨by omega,fun i hi=>⟨fun _=>?_,fun _=>by omega⟩⟩
   exact hq i m (by omega) (by omega) hqm
  ·rw [if_neg hqm]
   refine ⟨by omega,fun i hi=>?_⟩
   by_cases e:i=m
   ·subst e
    exact ⟨fun h=>by omega,fun h=>absurd h hqm⟩
   ·exact h2 i (by omega)
theorem rowFrom_none (V:Nat→Int) (code:Int):∀ (d k:Nat),(∀ i,k≤i→i<k+d→¬ (V (i*5)≤code∧code≤V (i*5+1)))→rowFrom V code d k=(0,0,0)
 | 0,_,_=>rfl
 | d+1,k,h=>by
  rw [rowFrom,if_neg (h k (by omega) (by omega))]
  exact rowFrom_none V code d (k+1) fun i h1 h2=>h i (by omega) (by omega)
theorem rowFrom_at (V:Nat→Int) (code:Int) (n:Nat) (hn:V (n*5)≤code∧code≤V (n*5+1)):∀ (d k:Nat),k≤n→n<k+d→(∀ i,k≤i→i<n→¬ (V (i*5)≤code∧code≤V (i*5+1))) →
 rowFrom V code d k=(V (n*5+2),V (n*5+3),V (n*5+4))
 | 0,k,h1,h2,_=>by omega
 | d+1,k,h1,h2,h=>by
  rw [rowFrom]
  by_cases e:k=n
  ·subst e
   rw [if_pos hn]
  ·rw [if_neg (h k (by omega) (by omega))]
   exact rowFrom_at V code n hn d (k+1) (by omega) (by omega) fun i h3 h4=>h i (by omega) (by omega)
theorem row_same (T:List Int) (hto:∀ a d,a+d<121→T.getD (a*5+1) 0≤T.getD ((a+d)*5+1) 0) (hfr:∀ a d,a+d<121→T.getD (a*5) 0≤T.getD ((a+d)*5) 0) (code:Int) :
 rowFrom (fun j=>T.getD j 0) code 121 0=charAt T ((List.range 121).countP (fun i=> !decide (code≤T.getD (i*5+1) 0))) code:=by
 obtain ⟨h1,h2⟩:=cnt (fun i=> !decide (code≤T.getD (i*5+1) 0)) 121 (fun a b hab hb h=>by
  have:=hto a (b-a) (by omega)
  rw [show a+(b-a)=b by omega] at this
  simp only [Bool.not_eq_true',decide_eq_false_iff_not] at h ⊢;omega) 121 (Nat.le_refl _)
 generalize (List.range 121).countP (fun i=> !decide (code≤T.getD (i*5+1) 0))=n at h1 h2 ⊢
 have hlow:∀ i,i<n→¬ code≤T.getD (i*5+1) 0:=fun i hi=>by have:=(h2 i (by omega)).1 hi;simp only [Bool.not_eq_true',decide_eq_false_iff_not] at this;exact this
 unfold charAt
 by_cases hn:n<121
 ·have hup:code≤T.getD (n*5+1) 0:=by
   have:=(not_congr (h2 n hn)).1 (by omega)
   simp only [Bool.not_eq_true',decide_eq_false_iff_not,Decidable.not_not] at this;exact this
  by_cases hf:T.getD (n*5) 0≤code
  ·rw [if_pos ⟨hn,hf⟩]
   exact rowFrom_at (fun j=>T.getD j 0) code n ⟨hf,hup⟩ 121 0 (by omega) (by omega) fun i _ hi=>fun h=>hlow i hi h.2
  ·rw [if_neg (by omega)]
   refine rowFrom_none _ code 121 0 fun i _ hi=>fun h=>?_
   by_cases hin:i<n
   ·exact hlow i hin h.2
   ·have:=hfr n (i-n) (by omega)
    rw [show n+(i-n)=i by omega] at this
    have h3:T.getD (i*5) 0≤code:=h.1
    omega
 ·rw [if_neg (by omega)]
  exact rowFrom_none _ code 121 0 fun i _ hi=>fun h=>hlow i (by omega) h.2
noncomputable def fr_ (i:Nat):Int:=tbl.getD (i*5) 0
theorem fr_run:(List.range 120).all (fun i=>decide (fr_ i≤fr_ (i+1)))=true:=by kernel_rfl
theorem fr_mono:∀ (a d:Nat),a+d<121→fr_ a≤fr_ (a+d)
 | a,0,_=>Int.le_refl _
 | a,d+1,h=>by
  have h1:=fr_mono a d (by omega)
  have h2:=List.all_eq_true.1 fr_run (a+d) (List.mem_range.2 (by omega))
  have h3:=of_decide_eq_true h2
  have:a+(d+1)=a+d+1:=by omega
  rw [this]
  omega
theorem look_same (code:Int):refLookF code=lookF code:=row_same tbl to_mono fr_mono code
theorem sc_run:(List.range 121).all (fun i=>decide (0≤tbl.getD (i*5+2) 0))=true:=by kernel_rfl
theorem charAt_nonneg (T:List Int) (h:∀ i,i<121→0≤T.getD (i*5+2) 0) (n:Nat) (code:Int):0≤(charAt T n code).1:=by
 unfold charAt
 split
 ·rename_i hc
  exact h n hc.1
 ·exact Int.le_refl _
theorem script_nonneg (code:Int):0≤(lookF code).1:=charAt_nonneg tbl (fun i hi=>of_decide_eq_true (List.all_eq_true.1 sc_run i (List.mem_range.2 hi))) _ code
end Go.Proofs.Ythkklpegjcnjoaa
