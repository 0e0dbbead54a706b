/- A part of the proof: no condition but those that each theorem states. -/
import Derived.Test.YthkklpegjcnjoaaQA
import Derived.Test.YthkklpegjcnjoaaLgT
set_option linter.unusedVariables false
set_option linter.unusedSimpArgs false
namespace Go.Proofs.Ythkklpegjcnjoaa
open Go.Ab
def lfG {α:Type} (p:Int→Prop) [DecidablePred p] (g:Int→α) (z:α) (v:List Int):Nat→α
 | 0=>z
 | k+1=>if p (rd v k) then lfG p g z v k else g (rd v k)
def rgG {α:Type} (p:Int→Prop) [DecidablePred p] (g:Int→α) (z:α) (v:List Int):Nat→Int→α
 | 0,_=>z
 | r+1,b=>if p (rd v b) then rgG p g z v r (b+1) else g (rd v b)
theorem lfG_row {α:Type} {p:Int→Prop} [DecidablePred p] {g:Int→α} {z:α} {v:List Int} {a:Nat}:∀ (d:Nat),(∀ i:Int,a≤i→i<a+d→p (rd v i))→lfG p g z v (a+d)=lfG p g z v a
 | 0,_=>rfl
 | d+1,h=>by
  rw [show a+(d+1)=(a+d)+1 by omega]
  simp only [lfG]
  rw [if_pos (h _ (by omega) (by omega))]
  exact lfG_row d (fun i h1 h2=>h i h1 (by push_cast;omega))
theorem rgG_row {α:Type} {p:Int→Prop} [DecidablePred p] {g:Int→α} {z:α} {v:List Int}:∀ (d r:Nat) (i:Int),d≤r→(∀ j:Int,i≤j→j<i+d→p (rd v j))→rgG p g z v r i=rgG p g z v (r-d) (i+d)
 | 0,r,i,_,_=>by simp
 | d+1,r,i,hr,h=>by
  obtain ⟨q,rfl⟩:∃ q,r=q+1:=⟨r-1,by omega⟩
  simp only [rgG]
  rw [if_pos (h i (Int.le_refl _) (by push_cast;omega)),rgG_row d q (i+1) (by omega) (fun j h1 h2=>h j (by omega) (by push_cast;omega)),show q+1-(d+1)=q-d by omega,show i+1+(d:Int)=i+((d+1:Nat):Int) by push_cast;omega]
structure Row (p:Int→Prop) (v:List Int) (m:Nat) (a b:Int):Prop where
 a0:0≤a
 ab:a<b
 bm:b≤m
 al:∀ i:Int,a≤i→i<b→p (rd v i)
 lf:a=0∨¬ p (rd v (a-1))
 rg:b=m∨¬ p (rd v b)
theorem Row.lfG {α:Type} {p:Int→Prop} [DecidablePred p] {g:Int→α} {z:α} {v:List Int} {m:Nat} {a b i:Int} (h:Row p v m a b) (h1:a≤i) (h2:i<b):lfG p g z v i.toNat=if 0<a then g (rd v (a-1)) else z:=by
 have h0:=h.a0
 have e:=lfG_row (p:=p) (g:=g) (z:=z) (v:=v) (a:=a.toNat) (i-a).toNat (fun j h3 h4=>h.al j (by omega) (by omega))
 rw [show a.toNat+(i-a).toNat=i.toNat by omega] at e
 rw [e]
 by_cases ha:0<a
 ·rw [if_pos ha,show a.toNat=(a-1).toNat+1 by omega]
  simp only [Go.Proofs.Ythkklpegjcnjoaa.lfG]
  rw [show (((a-1).toNat:Nat):Int)=a-1 by omega,if_neg (h.lf.resolve_left (by omega))]
 ·rw [if_neg ha,show a.toNat=0 by omega]
  rfl
theorem Row.rgG {α:Type} {p:Int→Prop} [DecidablePred p] {g:Int→α} {z:α} {v:List Int} {m:Nat} {a b i:Int} (h:Row p v m a b) (h1:a≤i) (h2:i<b):rgG p g z v (m-i.toNat) i=if b<m then g (rd v b) else z:=by
 have h0:=h.a0
 have hb:=h.bm
 rw [rgG_row (b-i).toNat (m-i.toNat) i (by omega) (fun j h3 h4=>h.al j (by omega) (by omega)),show i+(((b-i).toNat:Nat):Int)=b by omega]
 by_cases hm:b<m
 ·rw [if_pos hm,show m-i.toNat-(b-i).toNat=(m-b.toNat-1)+1 by omega]
  simp only [Go.Proofs.Ythkklpegjcnjoaa.rgG]
  rw [if_neg (h.rg.resolve_left (by omega))]
 ·rw [if_neg hm,show m-i.toNat-(b-i).toNat=0 by omega]
  rfl
theorem extM_row {p:Int→Prop} [DecidablePred p] {N:List Int} {m:Nat}:∀ (r:Nat) (b:Int),0≤b→b+r=m→(∀ i:Int,b≤i→i<extM p (iota m) N r b→p (rd N i))∧(extM p (iota m) N r b=m∨¬ p (rd N (extM p (iota m) N r b)))
 | 0,b,h0,h1=>⟨fun i h2 h3=>by simp only [extM] at h3;omega,.inl (by simp only [extM];push_cast at h1;omega)⟩
 | r+1,b,h0,h1=>by
  have hb:b<m:=by push_cast at h1;omega
  simp only [extM]
  rw [rd_iota h0 hb]
  by_cases c:p (rd N b)
  ·simp only [if_pos c]
   obtain ⟨h3,h4⟩:=extM_row (p:=p) (N:=N) (m:=m) r (b+1) (by omega) (by push_cast at h1;omega)
   exact ⟨fun i h5 h6=>by
    by_cases e:i=b
    ·rw [e];exact c
    ·exact h3 i (by omega) h6,h4⟩
  ·simp only [if_neg c]
   exact ⟨fun i h5 h6=>by omega,.inr c⟩
theorem rows_pt {p:Int→Prop} [DecidablePred p] {G:Int→Int→List Int→List Int} {v:List Int} {m:Nat} {h:Int→Int}
 (hG:∀ (a b:Int) (N:List Int),Row p v m a b→N.length=m→(∀ i:Int,a≤i→i<m→rd N i=rd v i)→(∀ i:Int,0≤i→i<m→¬ p (rd v i)→rd N i=rd v i)→(G a b N).length=m∧∀ i:Int,0≤i→i<m→rd (G a b N) i=if a≤i∧i<b then h i else rd N i) :
 ∀ (r:Nat) (a:Int) (N:List Int),0≤a→(m:Int)≤a+r→(a=0∨(m:Int)<a∨¬ p (rd v (a-1)))→N.length=m→(∀ i:Int,a≤i→i<m→rd N i=rd v i)→(∀ i:Int,0≤i→i<a→i<m→rd N i=if p (rd v i) then h i else rd v i) →
 (rowsM p G (iota m) r a N).length=m∧∀ i:Int,0≤i→i<m→rd (rowsM p G (iota m) r a N) i=if p (rd v i) then h i else rd v i
 | 0,a,N,h0,hr,hlf,hl,hge,hlt=>⟨hl,fun i h1 h2=>hlt i h1 (by push_cast at hr;omega) h2⟩
 | r+1,a,N,h0,hr,hlf,hl,hge,hlt=>by
  simp only [rowsM]
  rw [iota_length]
  by_cases ha:a<m
  ·rw [if_pos ha]
   have hr1:=extM_row (p:=p) (N:=N) (m:=m) (m-a.toNat) a h0 (by omega)
   have hr2:=extM_le p (iota m) N (m-a.toNat) a
   generalize extM p (iota m) N (m-a.toNat) a=b at hr1 hr2
   by_cases hb:b>a
   ·rw [if_pos hb]
    have hrow:Row p v m a b:=⟨h0,hb,by omega,fun i h1 h2=>by rw [←hge i h1 (by omega)];exact hr1.1 i h1 h2,by rcases hlf with x | x | x;exact .inl x;omega;exact .inr x,by
     rcases hr1.2 with x | x
     ·exact .inl x
     ·by_cases e:b=m
      ·exact .inl e
      ·right;rw [←hge b (by omega) (by omega)];exact x⟩
    obtain ⟨hG1,hG2⟩:=hG a b N hrow hl hge (fun i h1 h2 h3=>by
     by_cases e:a≤i
     ·exact hge i e h2
     ·rw [hlt i h1 (by omega) h2,if_neg h3])
    refine rows_pt hG r (b+1) _ (by omega) (by push_cast at hr;omega) ?_ hG1 (fun i h1 h2=>?_) (fun i h1 h2 h3=>?_)
    ·right
     rcases hrow.rg with x | x
     ·left;omega
     ·right;rw [show b+1-1=b by omega];exact x
    ·rw [hG2 i (by omega) h2,if_neg (by omega)];exact hge i (by omega) h2
    ·rw [hG2 i h1 h3]
     by_cases e:a≤i∧i<b
     ·rw [if_pos e,if_pos (hrow.al i e.1 e.2)]
     ·rw [if_neg e]
      by_cases e2:i<a
      ·exact hlt i h1 e2 h3
      ·obtain rfl:i=b:=by omega
       rw [if_neg (hrow.rg.resolve_left (by omega))]
       exact hge _ (by omega) h3
   ·rw [if_neg hb]
    obtain rfl:b=a:=by omega
    have hnp:¬ p (rd v b):=by rw [←hge b (Int.le_refl _) ha];exact hr1.2.resolve_left (by omega)
    refine rows_pt hG r (b+1) _ (by omega) (by push_cast at hr;omega) ?_ hl (fun i h1 h2=>hge i (by omega) h2) (fun i h1 h2 h3=>?_)
    ·right;right;rw [show b+1-1=b by omega];exact hnp
    ·by_cases e:i=b
     ·rw [e,if_neg hnp];exact hge b (Int.le_refl _) ha
     ·exact hlt i h1 (by omega) h3
  ·rw [if_neg ha]
   exact ⟨hl,fun i h1 h2=>hlt i h1 (by omega) h2⟩
theorem allM_pt {c:Int} {m:Nat}:∀ (r:Nat) (k:Int) (N:List Int),0≤k→k+r≤m→N.length=m→∀ i:Int,0≤i→rd (allM (iota m) c r k N) i=if k≤i∧i<k+r then c else rd N i
 | 0,k,N,h0,h1,hl,i,hi=>by rw [if_neg (by push_cast;omega)];rfl
 | r+1,k,N,h0,h1,hl,i,hi=>by
  push_cast at h1
  simp only [allM]
  rw [becomeI h0 (by omega),allM_pt r (k+1) _ (by omega) (by omega) (by rw [List.length_set];exact hl) i hi,rd_set h0 hi (by omega)]
  push_cast
  repeat' split
  all_goals first | rfl | omega
theorem ext_rd {a b:List Int} {m:Nat} (ha:a.length=m) (hb:b.length=m) (h:∀ i:Int,0≤i→i<m→rd a i=rd b i):a=b:=by
 apply List.ext_getElem (ha.trans hb.symm)
 intro i h1 h2
 have:=h i (by omega) (by omega)
 rwa [rd_at (by omega) (by omega),rd_at (by omega) (by omega)] at this
abbrev is5:Int→Prop:=fun c=>c=5
abbrev en3 (c:Int):Bool:=decide (c=3)
theorem et_rows {m:Nat} {v:List Int} (hl:v.length=m):(rowsM is5 (etM (iota m)) (iota m) m 0 v).length=m∧∀ i:Int,0≤i→i<m→rd (rowsM is5 (etM (iota m)) (iota m) m 0 v) i=if rd v i=5 then (if lfG is5 en3 false v i.toNat=true∨rgG is5 en3 false v (m-i.toNat) i=true then 3 else 5) else rd v i:=by
 refine rows_pt (h:=fun i=>if lfG is5 en3 false v i.toNat=true∨rgG is5 en3 false v (m-i.toNat) i=true then 3 else 5) (fun a b N hr hN hge hnp=>?_) m 0 v (Int.le_refl _) (by omega) (.inl rfl) hl (fun _ _ _=>rfl) (fun i h1 h2 _=>by omega)
 have h0:=hr.a0
 have hab:=hr.ab
 have hbm:=hr.bm
 have hc:((0<a∧rd N (rd (iota m) (a-1))=3)∨(b<(iota m).length∧rd N (rd (iota m) b)=3))↔((0<a∧rd v (a-1)=3)∨(b<m∧rd v b=3)):=by
  rw [iota_length]
  refine or_congr (and_congr_right fun h=>?_) (and_congr_right fun h=>?_)
  ·rw [rd_iota (by omega) (by omega),hnp (a-1) (by omega) (by omega) (hr.lf.resolve_left (by omega))]
  ·rw [rd_iota (by omega) h,hnp b (by omega) h (hr.rg.resolve_left (by omega))]
 have hh:∀ i:Int,a≤i→i<b→((lfG is5 en3 false v i.toNat=true∨rgG is5 en3 false v (m-i.toNat) i=true)↔((0<a∧rd v (a-1)=3)∨(b<m∧rd v b=3))):=fun i h1 h2=>by
  rw [hr.lfG h1 h2,hr.rgG h1 h2]
  refine or_congr ?_ ?_
  ·by_cases h:0<a
   ·rw [if_pos h];simp [h,en3]
   ·rw [if_neg h];simp [h]
  ·by_cases h:b<m
   ·rw [if_pos h];simp [h,en3]
   ·rw [if_neg h];simp [h]
 unfold etM
 by_cases c:(0<a∧rd N (rd (iota m) (a-1))=3)∨(b<(iota m).length∧rd N (rd (iota m) b)=3)
 ·rw [if_pos c]
  refine ⟨allM_length _ _ _ |>.trans hN,fun i h1 h2=>?_⟩
  rw [allM_pt _ _ _ h0 (by omega) hN i h1]
  by_cases e:a≤i∧i<b
  ·rw [if_pos (by omega),if_pos e,if_pos ((hh i e.1 e.2).mpr (hc.mp c))]
  ·rw [if_neg (by omega),if_neg e]
 ·rw [if_neg c]
  refine ⟨hN,fun i h1 h2=>?_⟩
  by_cases e:a≤i∧i<b
  ·rw [if_pos e,if_neg (fun x=>c (hc.mpr ((hh i e.1 e.2).mp x))),hge i e.1 h2]
   exact hr.al i e.1 e.2
  ·rw [if_neg e]
theorem et_up {m:Nat} {v:List Int} (hl:v.length=m):∀ (r:Nat) (k:Int) (c:List Int),0≤k→k+r=m→c.length=m→(∀ i:Int,k≤i→i<m→rd c i=rd v i)→(∀ i:Int,0≤i→i<k→rd c i=if rd v i=5∧lfG is5 en3 false v i.toNat=true then 3 else rd v i) →
 ∀ i:Int,0≤i→i<m→rd (upD wD5 r k c) i=if rd v i=5∧lfG is5 en3 false v i.toNat=true then 3 else rd v i
 | 0,k,c,h0,h1,hc,hge,hlt,i,hi,hm=>hlt i hi (by push_cast at h1;omega)
 | r+1,k,c,h0,h1,hc,hge,hlt,i,hi,hm=>by
  push_cast at h1
  simp only [upD]
  have hw:wD5 c k=if rd v k=5∧lfG is5 en3 false v k.toNat=true then 3 else rd v k:=by
   unfold wD5
   rw [hge k (Int.le_refl _) (by omega)]
   by_cases h5:rd v k=5
   ·by_cases hp:0<k
    ·have hx:lfG is5 en3 false v k.toNat=if rd v (k-1)=5 then lfG is5 en3 false v (k-1).toNat else en3 (rd v (k-1)):=by
      rw [show k.toNat=(k-1).toNat+1 by omega]
      simp only [lfG]
      rw [show (((k-1).toNat:Nat):Int)=k-1 by omega]
     rw [hx,hlt (k-1) (by omega) (by omega)]
     by_cases h6:rd v (k-1)=5
     ·rw [if_pos h6]
      by_cases h7:lfG is5 en3 false v (k-1).toNat=true
      ·have e:(if rd v (k-1)=5∧lfG is5 en3 false v (k-1).toNat=true then 3 else rd v (k-1))=(3:Int):=if_pos ⟨h6,h7⟩
       rw [e,if_pos ⟨h5,hp,rfl⟩,if_pos ⟨h5,h7⟩]
      ·have e:(if rd v (k-1)=5∧lfG is5 en3 false v (k-1).toNat=true then 3 else rd v (k-1))=rd v (k-1):=if_neg (fun x=>h7 x.2)
       rw [e,if_neg (fun x=>by omega),if_neg (fun x=>h7 x.2)]
     ·have e:(if rd v (k-1)=5∧lfG is5 en3 false v (k-1).toNat=true then 3 else rd v (k-1))=rd v (k-1):=if_neg (fun x=>h6 x.1)
      rw [e,if_neg h6]
      by_cases h7:rd v (k-1)=3
      ·rw [if_pos ⟨h5,hp,h7⟩,if_pos ⟨h5,decide_eq_true h7⟩]
      ·rw [if_neg (fun x=>h7 x.2.2),if_neg (fun x=>h7 (of_decide_eq_true x.2))]
    ·rw [if_neg (fun x=>hp x.2.1),show k.toNat=0 by omega,if_neg (fun x=>by simp [lfG] at x)]
   ·rw [if_neg (fun x=>h5 x.1),if_neg (fun x=>h5 x.1)]
  refine et_up hl r (k+1) _ (by omega) (by omega) (by rw [List.length_set];exact hc) (fun j h2 h3=>?_) (fun j h2 h3=>?_) i hi hm
  ·rw [rd_set h0 (by omega) (by omega),if_neg (by omega)];exact hge j (by omega) h3
  ·rw [rd_set h0 h2 (by omega)]
   by_cases e:j=k
   ·rw [if_pos e,e];exact hw
   ·rw [if_neg e];exact hlt j h2 (by omega)
theorem rgG_at {α:Type} {p:Int→Prop} [DecidablePred p] {g:Int→α} {z:α} {v:List Int} {m:Nat} {i:Int} (h0:0≤i) (h1:i<m):rgG p g z v (m-i.toNat) i=if p (rd v i) then rgG p g z v (m-(i+1).toNat) (i+1) else g (rd v i):=by
 rw [show m-i.toNat=(m-(i+1).toNat)+1 by omega]
 rfl
theorem et_dn {m:Nat} {v u:List Int} (hl:v.length=m) (hu:u.length=m) (hv:∀ i:Int,0≤i→i<m→rd u i=if rd v i=5∧lfG is5 en3 false v i.toNat=true then 3 else rd v i) :
 ∀ (r:Nat) (c:List Int),r+1≤m→c.length=m→(∀ i:Int,0≤i→i<r→rd c i=rd u i)→(∀ i:Int,r≤i→i<m→rd c i=if rd v i=5 then (if lfG is5 en3 false v i.toNat=true∨rgG is5 en3 false v (m-i.toNat) i=true then 3 else 5) else rd v i) →
 ∀ i:Int,0≤i→i<m→rd (dnD wD6 r c) i=if rd v i=5 then (if lfG is5 en3 false v i.toNat=true∨rgG is5 en3 false v (m-i.toNat) i=true then 3 else 5) else rd v i
 | 0,c,_,hc,hlt,hge,i,hi,hm=>hge i (by omega) hm
 | r+1,c,hr,hc,hlt,hge,i,hi,hm=>by
  simp only [dnD]
  have hw:wD6 c r=if rd v r=5 then (if lfG is5 en3 false v r=true∨rgG is5 en3 false v (m-r) r=true then 3 else 5) else rd v r:=by
   have e0:=(hlt r (by omega) (by push_cast;omega)).trans (hv r (by omega) (by omega))
   have e9:=hge (r+1) (by push_cast;omega) (by omega)
   have e1:=rgG_at (p:=is5) (g:=en3) (z:=false) (v:=v) (m:=m) (i:=(r:Int)) (by omega) (by omega)
   have e2:lfG is5 en3 false v ((r:Int)+1).toNat=if is5 (rd v r) then lfG is5 en3 false v r else en3 (rd v r):=by rw [show ((r:Int)+1).toNat=r+1 by omega];rfl
   rw [Int.toNat_natCast] at e0 e1
   rw [e2] at e9
   rw [e1]
   unfold wD6
   by_cases h5:rd v r=5
   ·rw [if_pos h5] at e9 ⊢
    rw [if_pos h5]
    by_cases h6:lfG is5 en3 false v r=true
    ·rw [if_pos ⟨h5,h6⟩] at e0
     rw [e0,if_neg (by omega),if_pos (.inl h6)]
    ·rw [if_neg (fun x=>h6 x.2)] at e0
     rw [e0]
     by_cases h7:rd v ((r:Int)+1)=5
     ·rw [if_pos h7] at e9
      by_cases h8:rgG is5 en3 false v (m-((r:Int)+1).toNat) (r+1)=true
      ·rw [if_pos (.inr h8)] at e9
       rw [if_pos ⟨h5,e9⟩,if_pos (.inr h8)]
      ·rw [if_neg (fun x=>x.elim h6 h8)] at e9
       rw [if_neg (fun x=>by omega),if_neg (fun x=>x.elim h6 h8),h5]
     ·rw [if_neg h7] at e9
      have e3:rgG is5 en3 false v (m-((r:Int)+1).toNat) (r+1)=en3 (rd v (r+1)):=by rw [rgG_at (by omega) (by omega),if_neg h7]
      rw [e3,e9]
      by_cases h8:rd v ((r:Int)+1)=3
      ·rw [if_pos ⟨h5,h8⟩,if_pos (.inr (decide_eq_true h8))]
      ·rw [if_neg (fun x=>h8 x.2),if_neg (fun x=>x.elim h6 (fun y=>h8 (of_decide_eq_true y))),h5]
   ·rw [if_neg (fun x=>h5 x.1)] at e0
    rw [e0,if_neg (fun x=>h5 x.1),if_neg h5]
  refine et_dn hl hu hv r _ (by omega) (by rw [List.length_set];exact hc) (fun j h2 h3=>?_) (fun j h2 h3=>?_) i hi hm
  ·have:=rd_set (L:=c) (i:=(r:Int)) (j:=j) (x:=wD6 c r) (by omega) h2 (by omega)
   rw [Int.toNat_natCast] at this
   rw [this,if_neg (by omega)];exact hlt j h2 (by push_cast;omega)
  ·have:=rd_set (L:=c) (i:=(r:Int)) (j:=j) (x:=wD6 c r) (by omega) (by omega) (by omega)
   rw [Int.toNat_natCast] at this
   rw [this]
   by_cases e:j=r
   ·rw [if_pos e,e,Int.toNat_natCast];exact hw
   ·rw [if_neg e];exact hge j (by push_cast;omega) h3
theorem et_eq {m:Nat} {v:List Int} (hl:v.length=m):rowsM is5 (etM (iota m)) (iota m) m 0 v=dnD wD6 (m-1) (upD wD5 m 0 v):=by
 obtain ⟨h1,h2⟩:=et_rows hl
 have hu:=et_up hl m 0 v (Int.le_refl _) (by omega) hl (fun _ _ _=>rfl) (fun i a b=>by omega)
 have hul:(upD wD5 m 0 v).length=m:=(upD_length _ _ _).trans hl
 refine ext_rd h1 ((dnD_length _ _).trans hul) (fun i a b=>?_)
 rw [h2 i a b]
 refine (et_dn hl hul hu (m-1) _ (by omega) hul (fun _ _ _=>rfl) (fun j h3 h4=>?_) i a b).symm
 obtain rfl:j=((m-1:Nat):Int):=by omega
 rw [hu _ (by omega) h4]
 by_cases h5:rd v ((m-1:Nat):Int)=5
 ·rw [if_pos h5,rgG_at (by omega) h4,if_pos h5,show m-(((m-1:Nat):Int)+1).toNat=0 by omega]
  by_cases h6:lfG is5 en3 false v (((m-1:Nat):Int)).toNat=true
  ·rw [if_pos ⟨h5,h6⟩,if_pos (.inl h6)]
  ·rw [if_neg (fun x=>h6 x.2),if_neg (fun x=>by simp [rgG] at x;exact h6 x),h5]
 ·rw [if_neg (fun x=>h5 x.1),if_neg h5]
theorem weak_eq {st:Int} {F v:List Int} {m:Nat} (hl:v.length=m):weakM (iota m) F st v=weakD st F v:=by
 unfold weakM weakD
 simp only [iota_length]
 rw [hl]
 rw [nsm_up m 0 st v (Int.le_refl _) (by omega) hl (by rw [if_neg (by omega)])]
 rw [backed_up (.inl rfl) (by omega) (.inr rfl) m 0 st _ (Int.le_refl _) (by omega) ((upD_length _ _ _).trans hl) rfl]
 rw [turn_up (p:=fun c=>c=2) (to:=1) m 0 _ (Int.le_refl _) (by omega),es_up (m-2) 1 _ (by omega) (by omega)]
 rw [et_eq (by simp only [upD_length];exact hl)]
 rw [turn_up (p:=isSep) (to:=13) m 0 _ (Int.le_refl _) (by omega)]
 rw [backed_up (.inr rfl) (fun _=>rfl) (.inl rfl) m 0 st _ (Int.le_refl _) (by omega) (by simp only [upD_length,dnD_length];exact hl) rfl]
variable {X:CallE} {ro:Nat}
set_option maxRecDepth 10000
structure RowI (H0 H1:Hp) (c:Nat) (V:List Int):Prop where
 at_:H1 c=some (.row 1 (V.map (.int .i64)))
 kp:∀ ν o,H0 ν=some o→ν≠c→H1 ν=some o
theorem RowI.put {H0 H1:Hp} {c:Nat} {V:List Int} {s:St} {k x:Int} (h:RowI H0 H1 c V) (hM:Models ro s (H1.up c (.row 1 ((V.map (Value.int .i64)).set (0+k.toNat*1) (.int .i64 x))))) (h0:0≤k) (h1:k<V.length) :
 ∃ H2,Models ro s H2∧RowI H0 H2 c (V.set k.toNat x):=by
 rw [ints_set h0 h1] at hM
 exact ⟨_,hM,Hp.up_same,fun ν o e ne=>Hp.up_ne ne (h.kp ν o e ne)⟩
theorem lastD_spI {s:St} {H:Hp} {c cc n:Nat} {V:List Int} {st k:Int} {ar:Bool} (hX:OwnX X) (hM:Models ro s H) (hc:H c=some (.row 1 (V.map (.int .i64)))) (hl:V.length=n) (hn:n≤16384) (h0:0≤k∧k≤n) :
 Sp X Try.prog ro 93 [.slice (some ⟨c,0,none⟩) n cc,.int .i64 k,.int .i64 st,.bool ar] s fun v H'=>v = .int .i64 (lastD V st ar k.toNat)∧H'=H:=by
 subst hl
 obtain ⟨m,rfl⟩:∃ m:Nat,k=(m:Int):=⟨k.toNat,by omega⟩
 rw [Int.toNat_natCast]
 exact lastD_sp hX hM hc hn (by omega)
def wR8 (st:Int) (n:Nat) (c:List Int):List Int:=upD (wD2 st false 0 0) n 0 c
def wR7 (st:Int) (n:Nat) (c:List Int):List Int:=wR8 st n (upD (wD3 isSep 13) n 0 c)
def wR6 (st:Int) (n:Nat) (c:List Int):List Int:=wR7 st n (dnD wD6 (n-1) c)
def wR5 (st:Int) (n:Nat) (c:List Int):List Int:=wR6 st n (upD wD5 n 0 c)
def wR4 (st:Int) (n:Nat) (c:List Int):List Int:=wR5 st n (upD wD4 (n-2) 1 c)
def wR3 (st:Int) (n:Nat) (c:List Int):List Int:=wR4 st n (upD (wD3 (fun x=>x=2) 1) n 0 c)
def wR2 (st:Int) (n:Nat) (c:List Int):List Int:=wR3 st n (upD (wD2 st true 2 6) n 0 c)
set_option maxHeartbeats 8000000 in
theorem weakD_sp {s:St} {H:Hp} {c o cc co n:Nat} {V F:List Int} {vA:Value} {lv st en:Int} (hX:OwnX X) (hM:Models ro s H) (hc:H c=some (.row 1 (V.map (.int .i64)))) (ho:H o=some (.row 1 (F.map (.int .i64)))) (hoc:o≠c) (hl:V.length=n) (hlF:F.length=n) (hn:n≤16384) :
 Sp X Try.prog ro 82 [.agg #[vA,.int .i64 lv,.int .i64 st,.int .i64 en],.slice (some ⟨c,0,none⟩) n cc,.slice (some ⟨o,0,none⟩) n co] s fun v H'=>v = .slice (some ⟨c,0,none⟩) n cc∧RowI H H' c (weakD st F V):=by
 refine Bo hX Try.func82 Try.ntmps82 (z:=?_)
 refine WC.seq (Rg ?_)
 refine WO.cons (SV.boxM (by assumption) rfl (fun a0_0 s0_0 hf0_0 hne0_0 hn0_0 hM0_0=>?_)) (by decide)
 refine Av (z:=Nl ?_)
 generalize hH0:H.up a0_0 _=H0 at hM0_0
 have kp0:∀ ν o,H ν=some o→H0 ν=some o:=fun ν o e=>by rw [←hH0];exact Hp.up_ne (hne0_0 _ _ e) e
 have hb0:H0 a0_0=some (.row 0 [vA,.int .i64 lv,.int .i64 st,.int .i64 en]):=by rw [←hH0];exact Hp.up_same
 have hbc:a0_0≠c:=(hne0_0 _ _ hc).symm
 have hc0:=kp0 _ _ hc
 have ho0:=kp0 _ _ ho
 clear hf0_0 hH0
 generalize a0_0=bx at *
 refine WC.seq (Rg (Mv (z:=Co (Ln (z:=Av (z:=Nl (WC.seq (WC.seq (Rg (Av (z:=Nl (WC.block ?_))))))))))))
 have hW:wR2 st n (upD (wD1 st F) (n-(0:Int).toNat) 0 V)=weakD st F V:=by rw [←hl];rfl
 generalize weakD st F V=W at hW
 refine WC.loop (D:=Int×List Int) (fun x=>[(1,.slice (some ⟨c,0,none⟩) n cc),(2,.slice (some ⟨o,0,none⟩) n co),(3,.pointer (some ⟨bx,0,none⟩)),(7,.int .i64 n),(8,.int .i64 x.1)])
  (fun x s1=>s.next≤s1.next∧(∃ H1,Models ro s1 H1∧RowI H0 H1 c x.2)∧x.2.length=n∧0≤x.1∧x.1≤n∧wR2 st n (upD (wD1 st F) (n-x.1.toNat) x.1 x.2)=W) (fun x=>n-x.1.toNat) (0,V) ?_ ⟨by omega,⟨_,‹Models ro _ H0›,⟨hc0,fun _ _ h _=>h⟩⟩,by assumption,by dsimp only;omega,by dsimp only;omega,hW⟩ ?_
 ·exact Ho
 clear hW
 rintro ⟨k,V1⟩ g s1 ⟨hn1,⟨H1,hM1,hI1⟩,hl1,hk0,hk1,hres⟩
 dsimp only at hn1 hI1 hl1 hk0 hk1 hres ⊢
 have hc1:=hI1.at_
 have ho1:=hI1.kp _ _ ho0 hoc
 have hb1:=hI1.kp _ _ hb0 hbc
 rcases dc (k<(n:Int)) with ⟨hlt,hdl⟩ | ⟨hlt,hdl⟩
 ·refine WC.seq (WC.seq (Rg (Mv (z:=Mv (z:=Co (Lt (z:=Nl (Ct (z:=WC.skip (WC.seq (WC.block (WC.seq ?_))))))))))))
  rcases dc (rd V1 k=8) with ⟨h8,hd8⟩ | ⟨h8,hd8⟩
  ·refine Rg (Mv (z:=Mv (z:=Co (Ix (z:=Co (Ld (z:=Co (Ei (z:=Nl (Ct (z:=WC.seq (Rg (Mv (z:=Mv (z:=Co (Fa (z:=Co (Ld (z:=Co (Ix (z:=WO.cons0 (Sv (z:=fun s6_5 hn6_5 hM6_5=>Nl ?_)))))))))))))))))))))))
   obtain ⟨H2,hM2,hI2⟩:=hI1.put hM6_5 (by omega) (by omega)
   clear hM6_5
   have hl2:(V1.set k.toNat st).length=n:=by rw [List.length_set];exact hl1
   have hc2:=hI2.at_
   have ho2:=hI2.kp _ _ ho0 hoc
   have hb2:=hI2.kp _ _ hb0 hbc
   rcases dc (0<k) with ⟨hp,hdp⟩ | ⟨hp,hdp⟩
   ·refine WC.seq (Rg (Mv (z:=Co (Gt (z:=Nl (Ct (z:=WC.seq ?_)))))))
    have hr:rd (V1.set k.toNat st) (k-1)=rd V1 (k-1):=by rw [rd_set (by omega) (by omega) (by omega),if_neg (by omega)]
    refine Rg (Mv (z:=Mv (z:=Mv (z:=Mv (z:=Co (Sb (z:=Co (Ix (z:=Co (Ld (z:=Co (Ix (z:=WO.cons0 (Sv (z:=fun s8_8 hn8_8 hM8_8=>Nl ?_)))))))))))))))
    obtain ⟨H3,hM3,hI3⟩:=hI2.put hM8_8 (by omega) (by omega)
    clear hM8_8
    rw [hr,List.set_set] at hI3
    have hl3:(V1.set k.toNat (rd V1 (k-1))).length=n:=by rw [List.length_set];exact hl1
    have hc3:=hI3.at_
    have ho3:=hI3.kp _ _ ho0 hoc
    have hb3:=hI3.kp _ _ hb0 hbc
    refine WC.seq (Rg (Mv (z:=Mv (z:=Co (Sb (z:=Co (Ix (z:=Co (Ld (z:=Co ?_))))))))))
    refine SV.callM rfl rfl (opens_sp hX hM3) ?_
    rintro v s4 H4 hn4 hM4 ⟨rfl,eH⟩
    rw [eH] at hM4
    clear eH
    rcases dc (isOpener (rd F (k-1))) with ⟨hop,hod⟩ | ⟨hop,hod⟩
    ·refine Mv (z:=Gn (z:=Gn (z:=Gn (z:=Gn (z:=Gn (z:=Gn (z:=Co (Pt (z:=Nl (Ct (z:=Rg (Mv (z:=Mv (z:=Co (Ix (z:=WO.cons0 (Sv (z:=fun s10_3 hn10_3 hM10_3=>Nl ?_))))))))))))))))))
     obtain ⟨H5,hM5,hI5⟩:=hI3.put hM10_3 (by omega) (by omega)
     clear hM10_3
     rw [List.set_set] at hI5
     rw [show n-k.toNat=(n-(k+1).toNat)+1 by omega] at hres
     simp only [upD] at hres
     rw [show wD1 st F V1 k=13 by unfold wD1;rw [if_pos h8,if_pos hp,if_pos (.inl hop)]] at hres
     refine Rg (Mv (z:=Co (Ad (z:=Av (z:=Nl ?_)))))
     exact ⟨rfl,(k+1,V1.set k.toNat 13),Ho,⟨by omega,⟨_,hM5,hI5⟩,by dsimp only;first | assumption | (simp only [List.length_set];assumption),by dsimp only;omega,by dsimp only;omega,hres⟩,by dsimp only;omega⟩
    rcases dc (rd F (k-1)=22) with ⟨h22,hd22⟩ | ⟨h22,hd22⟩
    ·refine Mv (z:=Gy (z:=Mq (z:=Gy (z:=Mq (z:=Gy (z:=Sb (z:=Gy (z:=Ix (z:=Gy (z:=Ld (z:=Gy (z:=Ei (z:=Co (Pf (z:=Nl (Ct (z:=Rg (Mv (z:=Mv (z:=Co (Ix (z:=WO.cons0 (Sv (z:=fun s10_3 hn10_3 hM10_3=>Nl ?_))))))))))))))))))))))))
     obtain ⟨H5,hM5,hI5⟩:=hI3.put hM10_3 (by omega) (by omega)
     clear hM10_3
     rw [List.set_set] at hI5
     rw [show n-k.toNat=(n-(k+1).toNat)+1 by omega] at hres
     simp only [upD] at hres
     rw [show wD1 st F V1 k=13 by unfold wD1;rw [if_pos h8,if_pos hp,if_pos (.inr h22)]] at hres
     refine Rg (Mv (z:=Co (Ad (z:=Av (z:=Nl ?_)))))
     exact ⟨rfl,(k+1,V1.set k.toNat 13),Ho,⟨by omega,⟨_,hM5,hI5⟩,by dsimp only;first | assumption | (simp only [List.length_set];assumption),by dsimp only;omega,by dsimp only;omega,hres⟩,by dsimp only;omega⟩
    ·refine Mv (z:=Gy (z:=Mq (z:=Gy (z:=Mq (z:=Gy (z:=Sb (z:=Gy (z:=Ix (z:=Gy (z:=Ld (z:=Gy (z:=Ei (z:=Co (Pf (z:=Nl (Cf (z:=WC.skip ?_)))))))))))))))))
     rw [show n-k.toNat=(n-(k+1).toNat)+1 by omega] at hres
     simp only [upD] at hres
     rw [show wD1 st F V1 k=rd V1 (k-1) by unfold wD1;rw [if_pos h8,if_pos hp,if_neg (fun x=>x.elim hop h22)]] at hres
     refine Rg (Mv (z:=Co (Ad (z:=Av (z:=Nl ?_)))))
     exact ⟨rfl,(k+1,V1.set k.toNat (rd V1 (k-1))),Ho,⟨by omega,⟨_,hM4,hI3⟩,by dsimp only;first | assumption | (simp only [List.length_set];assumption),by dsimp only;omega,by dsimp only;omega,hres⟩,by dsimp only;omega⟩
   ·refine WC.seq (Rg (Mv (z:=Co (Gt (z:=Nl (Cf (z:=WC.skip ?_)))))))
    rw [show n-k.toNat=(n-(k+1).toNat)+1 by omega] at hres
    simp only [upD] at hres
    rw [show wD1 st F V1 k=st by unfold wD1;rw [if_pos h8,if_neg hp]] at hres
    refine Rg (Mv (z:=Co (Ad (z:=Av (z:=Nl ?_)))))
    exact ⟨rfl,(k+1,V1.set k.toNat st),Ho,⟨by omega,⟨_,hM2,hI2⟩,by dsimp only;first | assumption | (simp only [List.length_set];assumption),by dsimp only;omega,by dsimp only;omega,hres⟩,by dsimp only;omega⟩
  ·refine Rg (Mv (z:=Mv (z:=Co (Ix (z:=Co (Ld (z:=Co (Ei (z:=Nl (Cf (z:=WC.skip ?_)))))))))))
   rw [show n-k.toNat=(n-(k+1).toNat)+1 by omega] at hres
   simp only [upD] at hres
   rw [show wD1 st F V1 k=rd V1 k from if_neg h8,set_rd] at hres
   refine Rg (Mv (z:=Co (Ad (z:=Av (z:=Nl ?_)))))
   exact ⟨rfl,(k+1,V1),Ho,⟨by omega,⟨_,hM1,hI1⟩,by dsimp only;first | assumption | (simp only [List.length_set];assumption),by dsimp only;omega,by dsimp only;omega,hres⟩,by dsimp only;omega⟩
 refine WC.seq (WC.seq (Rg (Mv (z:=Mv (z:=Co (Lt (z:=Nl (Cf (z:=WC.exit (WC.seq (WC.seq ?_)))))))))))
 rw [show n-k.toNat=0 by omega] at hres
 have hW:wR3 st n (upD (wD2 st true 2 6) (n-(0:Int).toNat) 0 V1)=W:=hres
 clear hres hlt hdl hk0 hk1
 refine Rg (Av (z:=Nl (WC.block ?_)))
 refine WC.loop (D:=Int×List Int) (fun x=>[(1,.slice (some ⟨c,0,none⟩) n cc),(2,.slice (some ⟨o,0,none⟩) n co),(3,.pointer (some ⟨bx,0,none⟩)),(7,.int .i64 n),(9,.int .i64 x.1)])
  (fun x s1=>s.next≤s1.next∧(∃ H1,Models ro s1 H1∧RowI H0 H1 c x.2)∧x.2.length=n∧0≤x.1∧x.1≤n∧wR3 st n (upD (wD2 st true 2 6) (n-x.1.toNat) x.1 x.2)=W) (fun x=>n-x.1.toNat) (0,V1) ?_ ⟨by omega,⟨_,hM1,hI1⟩,by assumption,by dsimp only;omega,by dsimp only;omega,hW⟩ ?_
 ·exact Ho
 clear hW
 rintro ⟨k,V1⟩ g s1 ⟨hn1,⟨H1,hM1,hI1⟩,hl1,hk0,hk1,hres⟩
 dsimp only at hn1 hI1 hl1 hk0 hk1 hres ⊢
 have hc1:=hI1.at_
 have ho1:=hI1.kp _ _ ho0 hoc
 have hb1:=hI1.kp _ _ hb0 hbc
 rcases dc (k<(n:Int)) with ⟨hlt,hdl⟩ | ⟨hlt,hdl⟩
 ·refine WC.seq (WC.seq (Rg (Mv (z:=Mv (z:=Co (Lt (z:=Nl (Ct (z:=WC.skip (WC.seq (WC.block (WC.seq ?_))))))))))))
  rcases dc (rd V1 k=3) with ⟨h3,hd3⟩ | ⟨h3,hd3⟩
  ·refine Rg (Mv (z:=Mv (z:=Co (Ix (z:=Co (Ld (z:=Co (Ei (z:=Mv (z:=Gy (z:=Mq (z:=Gy (z:=Mq (z:=Gy (z:=Fa (z:=Gy (z:=Ld (z:=?_))))))))))))))))))
   all_goals (refine WO.guardY rfl rfl rfl (by assumption) ?_ (by decide))
   refine SV.callM rfl rfl (lastD_spI hX hM1 hc1 hl1 hn ⟨by omega,by omega⟩) ?_
   rintro v s4 H4 hn4 hM4 ⟨rfl,eH⟩
   rw [eH] at hM4
   clear eH
   rcases dc (lastD V1 st true k.toNat=2) with ⟨h2,hd2⟩ | ⟨h2,hd2⟩
   ·refine Gy (z:=Ei (z:=Co (Pt (z:=Nl (Ct (z:=Rg (Mv (z:=Mv (z:=Co (Ix (z:=WO.cons0 (Sv (z:=fun s15_3 hn15_3 hM15_3=>Nl ?_)))))))))))))
    obtain ⟨H5,hM5,hI5⟩:=hI1.put hM15_3 (by omega) (by omega)
    rw [show n-k.toNat=(n-(k+1).toNat)+1 by omega] at hres
    simp only [upD] at hres
    rw [show wD2 st true 2 6 V1 k=6 from if_pos ⟨h3,h2⟩] at hres
    refine Rg (Mv (z:=Co (Ad (z:=Av (z:=Nl ?_)))))
    exact ⟨rfl,(k+1,V1.set k.toNat 6),Ho,⟨by omega,⟨_,hM5,hI5⟩,by dsimp only;first | assumption | (simp only [List.length_set];assumption),by dsimp only;omega,by dsimp only;omega,hres⟩,by dsimp only;omega⟩
   ·refine Gy (z:=Ei (z:=Co (Pt (z:=Nl (Cf (z:=WC.skip ?_))))))
    rw [show n-k.toNat=(n-(k+1).toNat)+1 by omega] at hres
    simp only [upD] at hres
    rw [show wD2 st true 2 6 V1 k=rd V1 k from if_neg (fun x=>h2 x.2),set_rd] at hres
    refine Rg (Mv (z:=Co (Ad (z:=Av (z:=Nl ?_)))))
    exact ⟨rfl,(k+1,V1),Ho,⟨by omega,⟨_,hM4,hI1⟩,by dsimp only;first | assumption | (simp only [List.length_set];assumption),by dsimp only;omega,by dsimp only;omega,hres⟩,by dsimp only;omega⟩
  ·refine Rg (Mv (z:=Mv (z:=Co (Ix (z:=Co (Ld (z:=Co (Ei (z:=Mv (z:=Gn (z:=Gn (z:=Gn (z:=Gn (z:=Gn (z:=Gn (z:=Co (Pf (z:=Nl (Cf (z:=WC.skip ?_))))))))))))))))))))
   rw [show n-k.toNat=(n-(k+1).toNat)+1 by omega] at hres
   simp only [upD] at hres
   rw [show wD2 st true 2 6 V1 k=rd V1 k from if_neg (fun x=>h3 x.1),set_rd] at hres
   refine Rg (Mv (z:=Co (Ad (z:=Av (z:=Nl ?_)))))
   exact ⟨rfl,(k+1,V1),Ho,⟨by omega,⟨_,hM1,hI1⟩,by dsimp only;first | assumption | (simp only [List.length_set];assumption),by dsimp only;omega,by dsimp only;omega,hres⟩,by dsimp only;omega⟩
 refine WC.seq (WC.seq (Rg (Mv (z:=Mv (z:=Co (Lt (z:=Nl (Cf (z:=WC.exit (WC.seq (WC.seq ?_)))))))))))
 rw [show n-k.toNat=0 by omega] at hres
 have hW:wR4 st n (upD (wD3 (fun x=>x=2) 1) (n-(0:Int).toNat) 0 V1)=W:=hres
 clear hres hlt hdl hk0 hk1
 refine Rg (Av (z:=Nl (WC.block ?_)))
 refine WC.loop (D:=Int×List Int) (fun x=>[(1,.slice (some ⟨c,0,none⟩) n cc),(2,.slice (some ⟨o,0,none⟩) n co),(3,.pointer (some ⟨bx,0,none⟩)),(7,.int .i64 n),(10,.int .i64 x.1)])
  (fun x s1=>s.next≤s1.next∧(∃ H1,Models ro s1 H1∧RowI H0 H1 c x.2)∧x.2.length=n∧0≤x.1∧x.1≤n∧wR4 st n (upD (wD3 (fun x=>x=2) 1) (n-x.1.toNat) x.1 x.2)=W) (fun x=>n-x.1.toNat) (0,V1) ?_ ⟨by omega,⟨_,hM1,hI1⟩,by assumption,by dsimp only;omega,by dsimp only;omega,hW⟩ ?_
 ·exact Ho
 clear hW
 rintro ⟨k,V1⟩ g s1 ⟨hn1,⟨H1,hM1,hI1⟩,hl1,hk0,hk1,hres⟩
 dsimp only at hn1 hI1 hl1 hk0 hk1 hres ⊢
 have hc1:=hI1.at_
 have ho1:=hI1.kp _ _ ho0 hoc
 have hb1:=hI1.kp _ _ hb0 hbc
 rcases dc (k<(n:Int)) with ⟨hlt,hdl⟩ | ⟨hlt,hdl⟩
 ·refine WC.seq (WC.seq (Rg (Mv (z:=Mv (z:=Co (Lt (z:=Nl (Ct (z:=WC.skip (WC.seq (WC.block (WC.seq ?_))))))))))))
  rcases dc (rd V1 k=2) with ⟨h2,hd2⟩ | ⟨h2,hd2⟩
  ·refine Rg (Mv (z:=Mv (z:=Co (Ix (z:=Co (Ld (z:=Co (Ei (z:=Nl (Ct (z:=Rg (Mv (z:=Mv (z:=Co (Ix (z:=WO.cons0 (Sv (z:=fun s20_3 hn20_3 hM20_3=>Nl ?_))))))))))))))))))
   obtain ⟨H5,hM5,hI5⟩:=hI1.put hM20_3 (by omega) (by omega)
   rw [show n-k.toNat=(n-(k+1).toNat)+1 by omega] at hres
   simp only [upD] at hres
   rw [show wD3 (fun x=>x=2) 1 V1 k=1 from if_pos h2] at hres
   refine Rg (Mv (z:=Co (Ad (z:=Av (z:=Nl ?_)))))
   exact ⟨rfl,(k+1,V1.set k.toNat 1),Ho,⟨by omega,⟨_,hM5,hI5⟩,by dsimp only;first | assumption | (simp only [List.length_set];assumption),by dsimp only;omega,by dsimp only;omega,hres⟩,by dsimp only;omega⟩
  ·refine Rg (Mv (z:=Mv (z:=Co (Ix (z:=Co (Ld (z:=Co (Ei (z:=Nl (Cf (z:=WC.skip ?_)))))))))))
   rw [show n-k.toNat=(n-(k+1).toNat)+1 by omega] at hres
   simp only [upD] at hres
   rw [show wD3 (fun x=>x=2) 1 V1 k=rd V1 k from if_neg h2,set_rd] at hres
   refine Rg (Mv (z:=Co (Ad (z:=Av (z:=Nl ?_)))))
   exact ⟨rfl,(k+1,V1),Ho,⟨by omega,⟨_,hM1,hI1⟩,by dsimp only;first | assumption | (simp only [List.length_set];assumption),by dsimp only;omega,by dsimp only;omega,hres⟩,by dsimp only;omega⟩
 refine WC.seq (WC.seq (Rg (Mv (z:=Mv (z:=Co (Lt (z:=Nl (Cf (z:=WC.exit (WC.seq (WC.seq ?_)))))))))))
 rw [show n-k.toNat=0 by omega] at hres
 have hW:wR5 st n (upD wD4 (n-1-(1:Int).toNat) 1 V1)=W:=by rw [show n-1-(1:Int).toNat=n-2 by omega];exact hres
 clear hres hlt hdl hk0 hk1
 refine Rg (Av (z:=Nl (WC.block ?_)))
 refine WC.loop (D:=Int×List Int) (fun x=>[(1,.slice (some ⟨c,0,none⟩) n cc),(2,.slice (some ⟨o,0,none⟩) n co),(3,.pointer (some ⟨bx,0,none⟩)),(7,.int .i64 n),(11,.int .i64 x.1)])
  (fun x s1=>s.next≤s1.next∧(∃ H1,Models ro s1 H1∧RowI H0 H1 c x.2)∧x.2.length=n∧1≤x.1∧x.1≤n+1∧wR5 st n (upD wD4 (n-1-x.1.toNat) x.1 x.2)=W) (fun x=>n-x.1.toNat) (1,V1) ?_ ⟨by omega,⟨_,hM1,hI1⟩,by assumption,by dsimp only;omega,by dsimp only;omega,hW⟩ ?_
 ·exact Ho
 clear hW
 rintro ⟨k,V1⟩ g s1 ⟨hn1,⟨H1,hM1,hI1⟩,hl1,hk0,hk1,hres⟩
 dsimp only at hn1 hI1 hl1 hk0 hk1 hres ⊢
 have hc1:=hI1.at_
 have ho1:=hI1.kp _ _ ho0 hoc
 have hb1:=hI1.kp _ _ hb0 hbc
 rcases dc (k<(n:Int)-1) with ⟨hlt,hdl⟩ | ⟨hlt,hdl⟩
 ·refine WC.seq (WC.seq (Rg (Mv (z:=Mv (z:=Co (Sb (z:=Co (Lt (z:=Nl (Ct (z:=WC.skip (WC.seq (WC.block (WC.seq (WC.seq ?_)))))))))))))))
  refine WC.mono (Q:=fun e g' ds' s'=>e = .normal∧ds'=[]∧holds g' [(1,.slice (some ⟨c,0,none⟩) n cc),(2,.slice (some ⟨o,0,none⟩) n co),(3,.pointer (some ⟨bx,0,none⟩)),(7,.int .i64 n),(11,.int .i64 k),(127,.bool (decide ((rd V1 k=4∨rd V1 k=7)∧rd V1 (k-1)=3∧rd V1 (k+1)=3)))]∧s'=s1) ?_ ?_
  ·rcases dc (rd V1 k=4) with ⟨h4,hd4⟩ | ⟨h4,hd4⟩
   ·by_cases p3:rd V1 (k-1)=3
    ·have hp3:decide (rd V1 (k-1)=3)=true:=decide_eq_true p3
     refine Rg (Mv (z:=Mv (z:=Co (Ix (z:=Co (Ld (z:=Co (Ei (z:=Mv (z:=Gn (z:=Gn (z:=Gn (z:=Gn (z:=Gn (z:=Co (Pt (z:=Mv (z:=Gy (z:=Mq (z:=Gy (z:=Mq (z:=Gy (z:=Sb (z:=Gy (z:=Ix (z:=Gy (z:=Ld (z:=Gy (z:=Ei (z:=Co (Pt (z:=Mv (z:=Gy (z:=Mq (z:=Gy (z:=Mq (z:=Gy (z:=Ad (z:=Gy (z:=Ix (z:=Gy (z:=Ld (z:=Gy (z:=Ei (z:=Co (Pt (z:=Nl ?_)))))))))))))))))))))))))))))))))))))))))))))))
     exact ⟨rfl,rfl,⟨rfl,rfl,rfl,rfl,rfl,congrArg (fun b=>some (Value.bool b)) (decide_eq_decide.mpr ⟨fun x=>⟨.inl h4,p3,x⟩,fun x=>x.2.2⟩),trivial⟩,rfl⟩
    ·have hp3:decide (rd V1 (k-1)=3)=false:=decide_eq_false p3
     refine Rg (Mv (z:=Mv (z:=Co (Ix (z:=Co (Ld (z:=Co (Ei (z:=Mv (z:=Gn (z:=Gn (z:=Gn (z:=Gn (z:=Gn (z:=Co (Pt (z:=Mv (z:=Gy (z:=Mq (z:=Gy (z:=Mq (z:=Gy (z:=Sb (z:=Gy (z:=Ix (z:=Gy (z:=Ld (z:=Gy (z:=Ei (z:=Co (Pt (z:=Mv (z:=Gn (z:=Gn (z:=Gn (z:=Gn (z:=Gn (z:=Gn (z:=Co (Pf (z:=Nl ?_)))))))))))))))))))))))))))))))))))))))))
     exact ⟨rfl,rfl,⟨rfl,rfl,rfl,rfl,rfl,congrArg (fun b=>some (Value.bool b)) (decide_eq_false (fun x=>p3 x.2.1)).symm,trivial⟩,rfl⟩
   rcases dc (rd V1 k=7) with ⟨h7,hd7⟩ | ⟨h7,hd7⟩
   ·by_cases p3:rd V1 (k-1)=3
    ·have hp3:decide (rd V1 (k-1)=3)=true:=decide_eq_true p3
     refine Rg (Mv (z:=Mv (z:=Co (Ix (z:=Co (Ld (z:=Co (Ei (z:=Mv (z:=Gy (z:=Mq (z:=Gy (z:=Mq (z:=Gy (z:=Ix (z:=Gy (z:=Ld (z:=Gy (z:=Ei (z:=Co (Pf (z:=Mv (z:=Gy (z:=Mq (z:=Gy (z:=Mq (z:=Gy (z:=Sb (z:=Gy (z:=Ix (z:=Gy (z:=Ld (z:=Gy (z:=Ei (z:=Co (Pt (z:=Mv (z:=Gy (z:=Mq (z:=Gy (z:=Mq (z:=Gy (z:=Ad (z:=Gy (z:=Ix (z:=Gy (z:=Ld (z:=Gy (z:=Ei (z:=Co (Pt (z:=Nl ?_))))))))))))))))))))))))))))))))))))))))))))))))))))
     exact ⟨rfl,rfl,⟨rfl,rfl,rfl,rfl,rfl,congrArg (fun b=>some (Value.bool b)) (decide_eq_decide.mpr ⟨fun x=>⟨.inr h7,p3,x⟩,fun x=>x.2.2⟩),trivial⟩,rfl⟩
    ·have hp3:decide (rd V1 (k-1)=3)=false:=decide_eq_false p3
     refine Rg (Mv (z:=Mv (z:=Co (Ix (z:=Co (Ld (z:=Co (Ei (z:=Mv (z:=Gy (z:=Mq (z:=Gy (z:=Mq (z:=Gy (z:=Ix (z:=Gy (z:=Ld (z:=Gy (z:=Ei (z:=Co (Pf (z:=Mv (z:=Gy (z:=Mq (z:=Gy (z:=Mq (z:=Gy (z:=Sb (z:=Gy (z:=Ix (z:=Gy (z:=Ld (z:=Gy (z:=Ei (z:=Co (Pt (z:=Mv (z:=Gn (z:=Gn (z:=Gn (z:=Gn (z:=Gn (z:=Gn (z:=Co (Pf (z:=Nl ?_))))))))))))))))))))))))))))))))))))))))))))))
     exact ⟨rfl,rfl,⟨rfl,rfl,rfl,rfl,rfl,congrArg (fun b=>some (Value.bool b)) (decide_eq_false (fun x=>p3 x.2.1)).symm,trivial⟩,rfl⟩
   refine Rg (Mv (z:=Mv (z:=Co (Ix (z:=Co (Ld (z:=Co (Ei (z:=Mv (z:=Gy (z:=Mq (z:=Gy (z:=Mq (z:=Gy (z:=Ix (z:=Gy (z:=Ld (z:=Gy (z:=Ei (z:=Co (Pf (z:=Mv (z:=Gn (z:=Gn (z:=Gn (z:=Gn (z:=Gn (z:=Gn (z:=Co (Pf (z:=Mv (z:=Gn (z:=Gn (z:=Gn (z:=Gn (z:=Gn (z:=Gn (z:=Co (Pf (z:=Nl ?_))))))))))))))))))))))))))))))))))))))))
   exact ⟨rfl,rfl,⟨rfl,rfl,rfl,rfl,rfl,congrArg (fun b=>some (Value.bool b)) (decide_eq_false (fun x=>x.1.elim h4 h7)).symm,trivial⟩,rfl⟩
  rintro e g2 ds2 s2 ⟨rfl,rfl,hg2,rfl⟩
  rw [←over_same hg2]
  refine thn_n ?_
  rcases dc ((rd V1 k=4∨rd V1 k=7)∧rd V1 (k-1)=3∧rd V1 (k+1)=3) with ⟨hP,hdP⟩ | ⟨hP,hdP⟩
  ·refine Ct (z:=Rg (Mv (z:=Mv (z:=Co (Ix (z:=WO.cons0 (Sv (z:=fun s25_3 hn25_3 hM25_3=>Nl ?_))))))))
   obtain ⟨H5,hM5,hI5⟩:=hI1.put hM25_3 (by omega) (by omega)
   clear hM25_3
   have hl5:(V1.set k.toNat 3).length=n:=by rw [List.length_set];exact hl1
   have hc5:=hI5.at_
   have ho5:=hI5.kp _ _ ho0 hoc
   have hb5:=hI5.kp _ _ hb0 hbc
   have hd7:decide (rd (V1.set k.toNat 3) k=7)=false:=by rw [rd_set (by omega) (by omega) (by omega),if_pos rfl];rfl
   refine WC.seq (Rg (Mv (z:=Mv (z:=Co (Ix (z:=Co (Ld (z:=Co (Ei (z:=Mv (z:=Gn (z:=Gn (z:=Gn (z:=Gn (z:=Gn (z:=Gn (z:=Co (Pf (z:=Mv (z:=Gn (z:=Gn (z:=Gn (z:=Gn (z:=Gn (z:=Gn (z:=Co (Pf (z:=Nl (Cf (z:=WC.skip ?_))))))))))))))))))))))))))))))
   rw [show n-1-k.toNat=(n-1-(k+1).toNat)+1 by omega] at hres
   simp only [upD] at hres
   rw [show wD4 V1 k=3 from if_pos hP] at hres
   refine Rg (Mv (z:=Co (Ad (z:=Av (z:=Nl ?_)))))
   exact ⟨rfl,(k+1,V1.set k.toNat 3),Ho,⟨by omega,⟨_,hM5,hI5⟩,hl5,by dsimp only;omega,by dsimp only;omega,hres⟩,by dsimp only;omega⟩
  refine Cf (z:=WC.skip (WC.seq ?_))
  rw [show n-1-k.toNat=(n-1-(k+1).toNat)+1 by omega] at hres
  simp only [upD] at hres
  have hw:wD4 V1 k=if rd V1 k=7∧rd V1 (k-1)=6∧rd V1 (k+1)=6 then 6 else rd V1 k:=if_neg hP
  rw [hw] at hres
  rcases dc (rd V1 k=7) with ⟨h7,hd7⟩ | ⟨h7,hd7⟩
  ·by_cases p6:rd V1 (k-1)=6
   ·have hp6:decide (rd V1 (k-1)=6)=true:=decide_eq_true p6
    refine Rg (Mv (z:=Mv (z:=Co (Ix (z:=Co (Ld (z:=Co (Ei (z:=Mv (z:=Gy (z:=Mq (z:=Gy (z:=Mq (z:=Gy (z:=Sb (z:=Gy (z:=Ix (z:=Gy (z:=Ld (z:=Gy (z:=Ei (z:=Co (Pt (z:=Mv (z:=Gy (z:=Mq (z:=Gy (z:=Mq (z:=Gy (z:=Ad (z:=Gy (z:=Ix (z:=Gy (z:=Ld (z:=Gy (z:=Ei (z:=Co (Pt (z:=Nl ?_)))))))))))))))))))))))))))))))))))))))
    refine WC.condD rfl (fun hq hqb=>?_) (fun hq hqb=>?_)
    ·rw [if_pos ⟨h7,p6,hq⟩] at hres
     refine Rg (Mv (z:=Mv (z:=Co (Ix (z:=WO.cons0 (Sv (z:=fun s27_3 hn27_3 hM27_3=>Nl ?_)))))))
     obtain ⟨H5,hM5,hI5⟩:=hI1.put hM27_3 (by omega) (by omega)
     refine Rg (Mv (z:=Co (Ad (z:=Av (z:=Nl ?_)))))
     exact ⟨rfl,(k+1,V1.set k.toNat 6),Ho,⟨by omega,⟨_,hM5,hI5⟩,by dsimp only;rw [List.length_set];exact hl1,by dsimp only;omega,by dsimp only;omega,hres⟩,by dsimp only;omega⟩
    ·rw [if_neg (fun x=>hq x.2.2),set_rd] at hres
     refine WC.skip (Rg (Mv (z:=Co (Ad (z:=Av (z:=Nl ?_))))))
     exact ⟨rfl,(k+1,V1),⟨rfl,rfl,rfl,rfl,rfl,trivial⟩,⟨by omega,⟨_,hM1,hI1⟩,hl1,by dsimp only;omega,by dsimp only;omega,hres⟩,by dsimp only;omega⟩
   ·have hp6:decide (rd V1 (k-1)=6)=false:=decide_eq_false p6
    rw [if_neg (fun x=>p6 x.2.1),set_rd] at hres
    refine Rg (Mv (z:=Mv (z:=Co (Ix (z:=Co (Ld (z:=Co (Ei (z:=Mv (z:=Gy (z:=Mq (z:=Gy (z:=Mq (z:=Gy (z:=Sb (z:=Gy (z:=Ix (z:=Gy (z:=Ld (z:=Gy (z:=Ei (z:=Co (Pt (z:=Mv (z:=Gn (z:=Gn (z:=Gn (z:=Gn (z:=Gn (z:=Gn (z:=Co (Pf (z:=Nl (Cf (z:=WC.skip (Rg (Mv (z:=Co (Ad (z:=Av (z:=Nl ?_)))))))))))))))))))))))))))))))))))))))))
    exact ⟨rfl,(k+1,V1),Ho,⟨by omega,⟨_,hM1,hI1⟩,hl1,by dsimp only;omega,by dsimp only;omega,hres⟩,by dsimp only;omega⟩
  ·rw [if_neg (fun x=>h7 x.1),set_rd] at hres
   refine Rg (Mv (z:=Mv (z:=Co (Ix (z:=Co (Ld (z:=Co (Ei (z:=Mv (z:=Gn (z:=Gn (z:=Gn (z:=Gn (z:=Gn (z:=Gn (z:=Co (Pf (z:=Mv (z:=Gn (z:=Gn (z:=Gn (z:=Gn (z:=Gn (z:=Gn (z:=Co (Pf (z:=Nl (Cf (z:=WC.skip (Rg (Mv (z:=Co (Ad (z:=Av (z:=Nl ?_)))))))))))))))))))))))))))))))))))
   exact ⟨rfl,(k+1,V1),Ho,⟨by omega,⟨_,hM1,hI1⟩,hl1,by dsimp only;omega,by dsimp only;omega,hres⟩,by dsimp only;omega⟩
 refine WC.seq (WC.seq (Rg (Mv (z:=Mv (z:=Co (Sb (z:=Co (Lt (z:=Nl (Cf (z:=WC.exit (WC.seq (WC.seq ?_)))))))))))))
 rw [show n-1-k.toNat=0 by omega] at hres
 have hW:wR6 st n (upD wD5 (n-(0:Int).toNat) 0 V1)=W:=hres
 clear hres hlt hdl hk0 hk1
 refine Rg (Av (z:=Nl (WC.block ?_)))
 refine WC.loop (D:=Int×List Int) (fun x=>[(1,.slice (some ⟨c,0,none⟩) n cc),(2,.slice (some ⟨o,0,none⟩) n co),(3,.pointer (some ⟨bx,0,none⟩)),(7,.int .i64 n),(12,.int .i64 x.1)])
  (fun x s1=>s.next≤s1.next∧(∃ H1,Models ro s1 H1∧RowI H0 H1 c x.2)∧x.2.length=n∧0≤x.1∧x.1≤n∧wR6 st n (upD (wD5) (n-x.1.toNat) x.1 x.2)=W) (fun x=>n-x.1.toNat) (0,V1) ?_ ⟨by omega,⟨_,hM1,hI1⟩,by assumption,by dsimp only;omega,by dsimp only;omega,hW⟩ ?_
 ·exact Ho
 clear hW
 rintro ⟨k,V1⟩ g s1 ⟨hn1,⟨H1,hM1,hI1⟩,hl1,hk0,hk1,hres⟩
 dsimp only at hn1 hI1 hl1 hk0 hk1 hres ⊢
 have hc1:=hI1.at_
 have ho1:=hI1.kp _ _ ho0 hoc
 have hb1:=hI1.kp _ _ hb0 hbc
 rcases dc (k<(n:Int)) with ⟨hlt,hdl⟩ | ⟨hlt,hdl⟩
 ·refine WC.seq (WC.seq (Rg (Mv (z:=Mv (z:=Co (Lt (z:=Nl (Ct (z:=WC.skip (WC.seq (WC.block (WC.seq ?_))))))))))))
  rcases dc (rd V1 k=5) with ⟨h5,hd5⟩ | ⟨h5,hd5⟩
  ·by_cases hp:0<k
   ·have hdp:decide (0<k)=true:=decide_eq_true hp
    refine Rg (Mv (z:=Mv (z:=Co (Ix (z:=Co (Ld (z:=Co (Ei (z:=Mv (z:=Gy (z:=Mq (z:=Gy (z:=Gt (z:=Co (Pt (z:=Mv (z:=Gy (z:=Mq (z:=Gy (z:=Mq (z:=Gy (z:=Sb (z:=Gy (z:=Ix (z:=Gy (z:=Ld (z:=Gy (z:=Ei (z:=Co (Pt (z:=Nl ?_)))))))))))))))))))))))))))))))
    refine WC.condD rfl (fun hq hqb=>?_) (fun hq hqb=>?_)
    ·skip
     refine Rg (Mv (z:=Mv (z:=Co (Ix (z:=WO.cons0 (Sv (z:=fun s32_3 hn32_3 hM32_3=>Nl ?_)))))))
     obtain ⟨H5,hM5,hI5⟩:=hI1.put hM32_3 (by omega) (by omega)
     rw [show n-k.toNat=(n-(k+1).toNat)+1 by omega] at hres
     simp only [upD] at hres
     rw [show wD5 V1 k=3 from if_pos ⟨h5,hp,hq⟩] at hres
     refine Rg (Mv (z:=Co (Ad (z:=Av (z:=Nl ?_)))))
     exact ⟨rfl,(k+1,V1.set k.toNat 3),Ho,⟨by omega,⟨_,hM5,hI5⟩,by dsimp only;first | assumption | (simp only [List.length_set];assumption),by dsimp only;omega,by dsimp only;omega,hres⟩,by dsimp only;omega⟩
    ·refine WC.skip ?_
     rw [show n-k.toNat=(n-(k+1).toNat)+1 by omega] at hres
     simp only [upD] at hres
     rw [show wD5 V1 k=rd V1 k from if_neg (fun x=>hq x.2.2),set_rd] at hres
     refine Rg (Mv (z:=Co (Ad (z:=Av (z:=Nl ?_)))))
     exact ⟨rfl,(k+1,V1),⟨rfl,rfl,rfl,rfl,rfl,trivial⟩,⟨by omega,⟨_,hM1,hI1⟩,by dsimp only;first | assumption | (simp only [List.length_set];assumption),by dsimp only;omega,by dsimp only;omega,hres⟩,by dsimp only;omega⟩
   ·have hdp:decide (0<k)=false:=decide_eq_false hp
    refine Rg (Mv (z:=Mv (z:=Co (Ix (z:=Co (Ld (z:=Co (Ei (z:=Mv (z:=Gy (z:=Mq (z:=Gy (z:=Gt (z:=Co (Pt (z:=Mv (z:=Gn (z:=Gn (z:=Gn (z:=Gn (z:=Gn (z:=Gn (z:=Co (Pf (z:=Nl (Cf (z:=WC.skip ?_)))))))))))))))))))))))))))
    rw [show n-k.toNat=(n-(k+1).toNat)+1 by omega] at hres
    simp only [upD] at hres
    rw [show wD5 V1 k=rd V1 k from if_neg (fun x=>hp x.2.1),set_rd] at hres
    refine Rg (Mv (z:=Co (Ad (z:=Av (z:=Nl ?_)))))
    exact ⟨rfl,(k+1,V1),Ho,⟨by omega,⟨_,hM1,hI1⟩,by dsimp only;first | assumption | (simp only [List.length_set];assumption),by dsimp only;omega,by dsimp only;omega,hres⟩,by dsimp only;omega⟩
  ·refine Rg (Mv (z:=Mv (z:=Co (Ix (z:=Co (Ld (z:=Co (Ei (z:=Mv (z:=Gn (z:=Gn (z:=Co (Pf (z:=Mv (z:=Gn (z:=Gn (z:=Gn (z:=Gn (z:=Gn (z:=Gn (z:=Co (Pf (z:=Nl (Cf (z:=WC.skip ?_)))))))))))))))))))))))))
   rw [show n-k.toNat=(n-(k+1).toNat)+1 by omega] at hres
   simp only [upD] at hres
   rw [show wD5 V1 k=rd V1 k from if_neg (fun x=>h5 x.1),set_rd] at hres
   refine Rg (Mv (z:=Co (Ad (z:=Av (z:=Nl ?_)))))
   exact ⟨rfl,(k+1,V1),Ho,⟨by omega,⟨_,hM1,hI1⟩,by dsimp only;first | assumption | (simp only [List.length_set];assumption),by dsimp only;omega,by dsimp only;omega,hres⟩,by dsimp only;omega⟩
 refine WC.seq (WC.seq (Rg (Mv (z:=Mv (z:=Co (Lt (z:=Nl (Cf (z:=WC.exit (WC.seq (WC.seq ?_)))))))))))
 rw [show n-k.toNat=0 by omega] at hres
 have hW:wR7 st n (dnD wD6 ((n:Int)-2+1).toNat V1)=W:=by rw [show ((n:Int)-2+1).toNat=n-1 by omega];exact hres
 clear hres hlt hdl hk0 hk1
 refine Rg (Mv (z:=Co (Sb (z:=Av (z:=Nl (WC.block ?_))))))
 refine WC.loop (D:=Int×List Int) (fun x=>[(1,.slice (some ⟨c,0,none⟩) n cc),(2,.slice (some ⟨o,0,none⟩) n co),(3,.pointer (some ⟨bx,0,none⟩)),(7,.int .i64 n),(13,.int .i64 x.1)])
  (fun x s1=>s.next≤s1.next∧(∃ H1,Models ro s1 H1∧RowI H0 H1 c x.2)∧x.2.length=n ∧ -2≤x.1∧x.1≤(n:Int)-2∧wR7 st n (dnD wD6 (x.1+1).toNat x.2)=W) (fun x=>(x.1+1).toNat) ((n:Int)-2,V1) ?_ ⟨by omega,⟨_,hM1,hI1⟩,by assumption,by dsimp only;omega,by dsimp only;omega,hW⟩ ?_
 ·exact Ho
 clear hW
 rintro ⟨k,V1⟩ g s1 ⟨hn1,⟨H1,hM1,hI1⟩,hl1,hk0,hk1,hres⟩
 dsimp only at hn1 hI1 hl1 hk0 hk1 hres ⊢
 have hc1:=hI1.at_
 have ho1:=hI1.kp _ _ ho0 hoc
 have hb1:=hI1.kp _ _ hb0 hbc
 rcases dc (0≤k) with ⟨hlt,hdl⟩ | ⟨hlt,hdl⟩
 ·rw [show (k+1).toNat=k.toNat+1 by omega] at hres
  simp only [dnD] at hres
  rw [show ((k.toNat:Nat):Int)=k by omega,show k.toNat=(k-1+1).toNat by omega] at hres
  rw [show (V1.set (k-1+1).toNat (wD6 V1 k))=V1.set k.toNat (wD6 V1 k) by rw [show (k-1+1).toNat=k.toNat by omega]] at hres
  refine WC.seq (WC.seq (Rg (Mv (z:=Co (Ge (z:=Nl (Ct (z:=WC.skip (WC.seq (WC.block (WC.seq ?_)))))))))))
  rcases dc (rd V1 k=5) with ⟨h5,hd5⟩ | ⟨h5,hd5⟩
  ·refine Rg (Mv (z:=Mv (z:=Co (Ix (z:=Co (Ld (z:=Co (Ei (z:=Mv (z:=Gy (z:=Mq (z:=Gy (z:=Mq (z:=Gy (z:=Ad (z:=Gy (z:=Ix (z:=Gy (z:=Ld (z:=Gy (z:=Ei (z:=Co (Pt (z:=Nl ?_))))))))))))))))))))))))
   refine WC.condD rfl (fun hq hqb=>?_) (fun hq hqb=>?_)
   ·rw [show wD6 V1 k=3 from if_pos ⟨h5,hq⟩] at hres
    refine Rg (Mv (z:=Mv (z:=Co (Ix (z:=WO.cons0 (Sv (z:=fun s37_3 hn37_3 hM37_3=>Nl ?_)))))))
    obtain ⟨H5,hM5,hI5⟩:=hI1.put hM37_3 (by omega) (by omega)
    refine Rg (Mv (z:=Co (Sb (z:=Av (z:=Nl ?_)))))
    exact ⟨rfl,(k-1,V1.set k.toNat 3),Ho,⟨by omega,⟨_,hM5,hI5⟩,by dsimp only;rw [List.length_set];exact hl1,by dsimp only;omega,by dsimp only;omega,hres⟩,by dsimp only;omega⟩
   ·rw [show wD6 V1 k=rd V1 k from if_neg (fun x=>hq x.2),set_rd] at hres
    refine WC.skip (Rg (Mv (z:=Co (Sb (z:=Av (z:=Nl ?_))))))
    exact ⟨rfl,(k-1,V1),Ho,⟨by omega,⟨_,hM1,hI1⟩,hl1,by dsimp only;omega,by dsimp only;omega,hres⟩,by dsimp only;omega⟩
  ·rw [show wD6 V1 k=rd V1 k from if_neg (fun x=>h5 x.1),set_rd] at hres
   refine Rg (Mv (z:=Mv (z:=Co (Ix (z:=Co (Ld (z:=Co (Ei (z:=Mv (z:=Gn (z:=Gn (z:=Gn (z:=Gn (z:=Gn (z:=Gn (z:=Co (Pf (z:=Nl (Cf (z:=WC.skip (Rg (Mv (z:=Co (Sb (z:=Av (z:=Nl ?_))))))))))))))))))))))))))
   exact ⟨rfl,(k-1,V1),Ho,⟨by omega,⟨_,hM1,hI1⟩,hl1,by dsimp only;omega,by dsimp only;omega,hres⟩,by dsimp only;omega⟩
 refine WC.seq (WC.seq (Rg (Mv (z:=Co (Ge (z:=Nl (Cf (z:=WC.exit (WC.seq (WC.seq ?_))))))))))
 rw [show (k+1).toNat=0 by omega] at hres
 have hW:wR8 st n (upD (wD3 isSep 13) (n-(0:Int).toNat) 0 V1)=W:=hres
 clear hres hlt hdl hk0 hk1
 refine Rg (Av (z:=Nl (WC.block ?_)))
 refine WC.loop (D:=Int×List Int) (fun x=>[(1,.slice (some ⟨c,0,none⟩) n cc),(2,.slice (some ⟨o,0,none⟩) n co),(3,.pointer (some ⟨bx,0,none⟩)),(7,.int .i64 n),(14,.int .i64 x.1)])
  (fun x s1=>s.next≤s1.next∧(∃ H1,Models ro s1 H1∧RowI H0 H1 c x.2)∧x.2.length=n∧0≤x.1∧x.1≤n∧wR8 st n (upD (wD3 isSep 13) (n-x.1.toNat) x.1 x.2)=W) (fun x=>n-x.1.toNat) (0,V1) ?_ ⟨by omega,⟨_,hM1,hI1⟩,by assumption,by dsimp only;omega,by dsimp only;omega,hW⟩ ?_
 ·exact Ho
 clear hW
 rintro ⟨k,V1⟩ g s1 ⟨hn1,⟨H1,hM1,hI1⟩,hl1,hk0,hk1,hres⟩
 dsimp only at hn1 hI1 hl1 hk0 hk1 hres ⊢
 have hc1:=hI1.at_
 have ho1:=hI1.kp _ _ ho0 hoc
 have hb1:=hI1.kp _ _ hb0 hbc
 rcases dc (k<(n:Int)) with ⟨hlt,hdl⟩ | ⟨hlt,hdl⟩
 ·refine WC.seq (WC.seq (Rg (Mv (z:=Mv (z:=Co (Lt (z:=Nl (Ct (z:=WC.skip (WC.seq (WC.block (WC.seq ?_))))))))))))
  rcases dc (rd V1 k=4) with ⟨h4,hd4⟩ | ⟨h4,hd4⟩
  ·refine Rg (Mv (z:=Mv (z:=Co (Ix (z:=Co (Ld (z:=Co (Ei (z:=Mv (z:=Gn (z:=Gn (z:=Gn (z:=Gn (z:=Gn (z:=Co (Pt (z:=Mv (z:=Gn (z:=Gn (z:=Gn (z:=Gn (z:=Gn (z:=Co (Pt (z:=Nl (Ct (z:=Rg (Mv (z:=Mv (z:=Co (Ix (z:=WO.cons0 (Sv (z:=fun s42_3 hn42_3 hM42_3=>Nl ?_))))))))))))))))))))))))))))))))))
   obtain ⟨H5,hM5,hI5⟩:=hI1.put hM42_3 (by omega) (by omega)
   rw [show n-k.toNat=(n-(k+1).toNat)+1 by omega] at hres
   simp only [upD] at hres
   rw [show wD3 isSep 13 V1 k=13 from if_pos (.inl h4)] at hres
   refine Rg (Mv (z:=Co (Ad (z:=Av (z:=Nl ?_)))))
   exact ⟨rfl,(k+1,V1.set k.toNat 13),Ho,⟨by omega,⟨_,hM5,hI5⟩,by dsimp only;first | assumption | (simp only [List.length_set];assumption),by dsimp only;omega,by dsimp only;omega,hres⟩,by dsimp only;omega⟩
  rcases dc (rd V1 k=5) with ⟨h5,hd5⟩ | ⟨h5,hd5⟩
  ·refine Rg (Mv (z:=Mv (z:=Co (Ix (z:=Co (Ld (z:=Co (Ei (z:=Mv (z:=Gy (z:=Mq (z:=Gy (z:=Mq (z:=Gy (z:=Ix (z:=Gy (z:=Ld (z:=Gy (z:=Ei (z:=Co (Pf (z:=Mv (z:=Gn (z:=Gn (z:=Gn (z:=Gn (z:=Gn (z:=Co (Pt (z:=Nl (Ct (z:=Rg (Mv (z:=Mv (z:=Co (Ix (z:=WO.cons0 (Sv (z:=fun s42_3 hn42_3 hM42_3=>Nl ?_)))))))))))))))))))))))))))))))))))))))
   obtain ⟨H5,hM5,hI5⟩:=hI1.put hM42_3 (by omega) (by omega)
   rw [show n-k.toNat=(n-(k+1).toNat)+1 by omega] at hres
   simp only [upD] at hres
   rw [show wD3 isSep 13 V1 k=13 from if_pos (.inr (.inl h5))] at hres
   refine Rg (Mv (z:=Co (Ad (z:=Av (z:=Nl ?_)))))
   exact ⟨rfl,(k+1,V1.set k.toNat 13),Ho,⟨by omega,⟨_,hM5,hI5⟩,by dsimp only;first | assumption | (simp only [List.length_set];assumption),by dsimp only;omega,by dsimp only;omega,hres⟩,by dsimp only;omega⟩
  refine Rg (Mv (z:=Mv (z:=Co (Ix (z:=Co (Ld (z:=Co (Ei (z:=Mv (z:=Gy (z:=Mq (z:=Gy (z:=Mq (z:=Gy (z:=Ix (z:=Gy (z:=Ld (z:=Gy (z:=Ei (z:=Co (Pf (z:=Mv (z:=Gy (z:=Mq (z:=Gy (z:=Mq (z:=Gy (z:=Ix (z:=Gy (z:=Ld (z:=Gy (z:=Ei (z:=Co (Pf (z:=Nl ?_)))))))))))))))))))))))))))))))))))
  refine WC.condD rfl (fun h7 h7b=>?_) (fun h7 h7b=>?_)
  ·skip
   refine Rg (Mv (z:=Mv (z:=Co (Ix (z:=WO.cons0 (Sv (z:=fun s42_3 hn42_3 hM42_3=>Nl ?_)))))))
   obtain ⟨H5,hM5,hI5⟩:=hI1.put hM42_3 (by omega) (by omega)
   rw [show n-k.toNat=(n-(k+1).toNat)+1 by omega] at hres
   simp only [upD] at hres
   rw [show wD3 isSep 13 V1 k=13 from if_pos (.inr (.inr h7))] at hres
   refine Rg (Mv (z:=Co (Ad (z:=Av (z:=Nl ?_)))))
   exact ⟨rfl,(k+1,V1.set k.toNat 13),Ho,⟨by omega,⟨_,hM5,hI5⟩,by dsimp only;first | assumption | (simp only [List.length_set];assumption),by dsimp only;omega,by dsimp only;omega,hres⟩,by dsimp only;omega⟩
  ·refine WC.skip ?_
   rw [show n-k.toNat=(n-(k+1).toNat)+1 by omega] at hres
   simp only [upD] at hres
   rw [show wD3 isSep 13 V1 k=rd V1 k from if_neg (fun x=>by unfold isSep at x;omega),set_rd] at hres
   refine Rg (Mv (z:=Co (Ad (z:=Av (z:=Nl ?_)))))
   exact ⟨rfl,(k+1,V1),Ho,⟨by omega,⟨_,hM1,hI1⟩,by dsimp only;first | assumption | (simp only [List.length_set];assumption),by dsimp only;omega,by dsimp only;omega,hres⟩,by dsimp only;omega⟩
 refine WC.seq (WC.seq (Rg (Mv (z:=Mv (z:=Co (Lt (z:=Nl (Cf (z:=WC.exit (WC.seq (WC.seq ?_)))))))))))
 rw [show n-k.toNat=0 by omega] at hres
 have hW:id (upD (wD2 st false 0 0) (n-(0:Int).toNat) 0 V1)=W:=hres
 clear hres hlt hdl hk0 hk1
 refine Rg (Av (z:=Nl (WC.block ?_)))
 refine WC.loop (D:=Int×List Int) (fun x=>[(1,.slice (some ⟨c,0,none⟩) n cc),(2,.slice (some ⟨o,0,none⟩) n co),(3,.pointer (some ⟨bx,0,none⟩)),(7,.int .i64 n),(15,.int .i64 x.1)])
  (fun x s1=>s.next≤s1.next∧(∃ H1,Models ro s1 H1∧RowI H0 H1 c x.2)∧x.2.length=n∧0≤x.1∧x.1≤n∧id (upD (wD2 st false 0 0) (n-x.1.toNat) x.1 x.2)=W) (fun x=>n-x.1.toNat) (0,V1) ?_ ⟨by omega,⟨_,hM1,hI1⟩,by assumption,by dsimp only;omega,by dsimp only;omega,hW⟩ ?_
 ·exact Ho
 clear hW
 rintro ⟨k,V1⟩ g s1 ⟨hn1,⟨H1,hM1,hI1⟩,hl1,hk0,hk1,hres⟩
 dsimp only at hn1 hI1 hl1 hk0 hk1 hres ⊢
 have hc1:=hI1.at_
 have ho1:=hI1.kp _ _ ho0 hoc
 have hb1:=hI1.kp _ _ hb0 hbc
 rcases dc (k<(n:Int)) with ⟨hlt,hdl⟩ | ⟨hlt,hdl⟩
 ·refine WC.seq (WC.seq (Rg (Mv (z:=Mv (z:=Co (Lt (z:=Nl (Ct (z:=WC.skip (WC.seq (WC.block (WC.seq ?_))))))))))))
  rcases dc (rd V1 k=3) with ⟨h3,hd3⟩ | ⟨h3,hd3⟩
  ·refine Rg (Mv (z:=Mv (z:=Co (Ix (z:=Co (Ld (z:=Co (Ei (z:=Mv (z:=Gy (z:=Mq (z:=Gy (z:=Mq (z:=Gy (z:=Fa (z:=Gy (z:=Ld (z:=?_))))))))))))))))))
   all_goals (refine WO.guardY rfl rfl rfl (by assumption) ?_ (by decide))
   refine SV.callM rfl rfl (lastD_spI hX hM1 hc1 hl1 hn ⟨by omega,by omega⟩) ?_
   rintro v s4 H4 hn4 hM4 ⟨rfl,eH⟩
   rw [eH] at hM4
   clear eH
   refine Gy (z:=Ei (z:=Co (Pt (z:=Nl ?_))))
   refine WC.condD rfl (fun h2 h2b=>?_) (fun h2 h2b=>?_)
   ·skip
    refine Rg (Mv (z:=Mv (z:=Co (Ix (z:=WO.cons0 (Sv (z:=fun s47_3 hn47_3 hM47_3=>Nl ?_)))))))
    obtain ⟨H5,hM5,hI5⟩:=hI1.put hM47_3 (by omega) (by omega)
    rw [show n-k.toNat=(n-(k+1).toNat)+1 by omega] at hres
    simp only [upD] at hres
    rw [show wD2 st false 0 0 V1 k=0 from if_pos ⟨h3,h2⟩] at hres
    refine Rg (Mv (z:=Co (Ad (z:=Av (z:=Nl ?_)))))
    exact ⟨rfl,(k+1,V1.set k.toNat 0),Ho,⟨by omega,⟨_,hM5,hI5⟩,by dsimp only;first | assumption | (simp only [List.length_set];assumption),by dsimp only;omega,by dsimp only;omega,hres⟩,by dsimp only;omega⟩
   ·refine WC.skip ?_
    rw [show n-k.toNat=(n-(k+1).toNat)+1 by omega] at hres
    simp only [upD] at hres
    rw [show wD2 st false 0 0 V1 k=rd V1 k from if_neg (fun x=>h2 x.2),set_rd] at hres
    refine Rg (Mv (z:=Co (Ad (z:=Av (z:=Nl ?_)))))
    exact ⟨rfl,(k+1,V1),Ho,⟨by omega,⟨_,hM4,hI1⟩,by dsimp only;first | assumption | (simp only [List.length_set];assumption),by dsimp only;omega,by dsimp only;omega,hres⟩,by dsimp only;omega⟩
  ·refine Rg (Mv (z:=Mv (z:=Co (Ix (z:=Co (Ld (z:=Co (Ei (z:=Mv (z:=Gn (z:=Gn (z:=Gn (z:=Gn (z:=Gn (z:=Gn (z:=Co (Pf (z:=Nl (Cf (z:=WC.skip ?_))))))))))))))))))))
   rw [show n-k.toNat=(n-(k+1).toNat)+1 by omega] at hres
   simp only [upD] at hres
   rw [show wD2 st false 0 0 V1 k=rd V1 k from if_neg (fun x=>h3 x.1),set_rd] at hres
   refine Rg (Mv (z:=Co (Ad (z:=Av (z:=Nl ?_)))))
   exact ⟨rfl,(k+1,V1),Ho,⟨by omega,⟨_,hM1,hI1⟩,by dsimp only;first | assumption | (simp only [List.length_set];assumption),by dsimp only;omega,by dsimp only;omega,hres⟩,by dsimp only;omega⟩
 refine WC.seq (WC.seq (Rg (Mv (z:=Mv (z:=Co (Lt (z:=Nl (Cf (z:=WC.exit (WC.seq ?_))))))))))
 rw [show n-k.toNat=0 by omega] at hres
 have hW:V1=W:=hres
 subst hW
 refine Rg (Mv (z:=Av (z:=Nl (WC.ret ?_))))
 exact fin_one (e:=.ret) (v:=.slice _ _ _) rfl trivial rfl (by omega) hM1 ⟨rfl,hI1.at_,fun ν o e ne=>hI1.kp _ _ (kp0 _ _ e) ne⟩
def brP:List Int:=[40,41,91,93,123,125,12296,12297,12298,12299,12300,12301]
def brD (c:Int):List Int→Int×Int
 | a::b::l=>if c=a then (b,1) else if c=b then (a,2) else brD c l
 | _=>(0,0)
theorem brP_at:∀ k:Nat,k<6→∃ a b,((brP.map (Value.int .i64)).drop (k*2)).take 2=[.int .i64 a,.int .i64 b]∧brP.drop (2*k)=a::b::brP.drop (2*(k+1))
 | 0,_=>⟨_,_,rfl,rfl⟩
 | 1,_=>⟨_,_,rfl,rfl⟩
 | 2,_=>⟨_,_,rfl,rfl⟩
 | 3,_=>⟨_,_,rfl,rfl⟩
 | 4,_=>⟨_,_,rfl,rfl⟩
 | 5,_=>⟨_,_,rfl,rfl⟩
 | k+6,h=>by omega
theorem bracketD_sp {s:St} {H:Hp} {c:Int} (hX:OwnX X) (hM:Models ro s H):Sp X Try.prog ro 97 [.int .i64 c] s fun v H'=>v = .tuple #[.int .i64 (brD c brP).1,.int .i64 (brD c brP).2]∧∀ ν o,H ν=some o→H' ν=some o:=by
 refine Bo hX Try.func97 Try.ntmps97 (z:=?_)
 refine WC.seq (Rg (Av (z:=Av (z:=Nl (WC.seq (WC.seq (Rg ?_)))))))
 refine WO.cons (SV.buildA rfl ?_) (by decide)
 refine WO.cons (SV.buildA rfl ?_) (by decide)
 refine WO.cons (SV.buildA rfl ?_) (by decide)
 refine WO.cons (SV.buildA rfl ?_) (by decide)
 refine WO.cons (SV.buildA rfl ?_) (by decide)
 refine WO.cons (SV.buildA rfl ?_) (by decide)
 refine WO.cons (SV.buildA rfl ?_) (by decide)
 refine Mv (z:=Nl (WC.block ?_))
 generalize hRES:brD c brP=RES
 refine WC.loop (D:=Nat) (fun x=>[(0,.int .i64 c),(12,.agg (brP.map (Value.int .i64)).toArray),(13,.int .i64 x)])
  (fun x s1=>s.next≤s1.next∧x≤6∧brD c (brP.drop (2*x))=RES∧∃ H1,Models ro s1 H1∧∀ ν o,H ν=some o→H1 ν=some o) (fun x=>6-x) 0 ?_ ⟨by omega,by omega,hRES,_,hM,fun _ _ h=>h⟩ ?_
 ·exact Ho
 rintro k g s1 ⟨hn1,hk,hres,H1,hM1,kp⟩
 by_cases hlt:k<6
 ·have hdl:decide ((k:Int)<6)=true:=decide_eq_true (by omega)
  obtain ⟨a,b,e1,e2⟩:=brP_at k hlt
  rw [e2] at hres
  simp only [brD] at hres
  refine WC.seq (Rg (Co (Lt (z:=Nl (WC.seq (Ct (z:=WC.skip (WC.seq (WC.block (WC.seq (Rg ?_)))))))))))
  refine WO.cons (SV.indexG (l:=[.int .i64 a,.int .i64 b]) rfl rfl (by omega) (by rw [Int.toNat_natCast];exact e1) ?_) (by decide)
  refine Co (Al (z:=fun a3_1 s3_1 hf3_1 hne3_1 hn3_1 hM3_1=>?_))
  refine WO.cons0 (SV.storeMA (by assumption) rfl rfl rfl rfl (by exact Hp.up_same) (by (simp;done)) (fun s3_2 hn3_2 hM3_2=>?_))
  refine Nl ?_
  rw [Hp.up_up] at hM3_2
  have hb3:(H1.up a3_1 (.row 0 [.int .i64 a,.int .i64 b])) a3_1=some (.row 0 [.int .i64 a,.int .i64 b]):=Hp.up_same
  have kp3:∀ ν o,H ν=some o→(H1.up a3_1 (.row 0 [.int .i64 a,.int .i64 b])) ν=some o:=fun ν o e=>Hp.up_ne (hne3_1 _ _ (kp _ _ e)) (kp _ _ e)
  have hM3:Models ro s3_2 (H1.up a3_1 (.row 0 [.int .i64 a,.int .i64 b])):=hM3_2
  clear hM3_2 hM3_1
  generalize H1.up a3_1 (.row 0 [.int .i64 a,.int .i64 b])=H3 at hb3 kp3 hM3
  rcases dc (c=a) with ⟨hA,hda⟩ | ⟨hA,hda⟩
  ·rw [if_pos hA] at hres
   refine WC.seq (WC.seq (Rg (Mv (z:=Co (Ia (z:=Co (Ld (z:=Co (Ei (z:=Nl (Ct (z:=WC.seq (Rg (Co (Ia (z:=Co (Ld (z:=Av (z:=Av (z:=Nl (WC.ret ?_)))))))))))))))))))))
   exact fin_two (e:=.ret) (v:=.int .i64 _) (w:=.int .i64 _) rfl trivial rfl rfl (by omega) hM3 ⟨by rw [←hres],kp3⟩
  rw [if_neg hA] at hres
  refine WC.seq (WC.seq (Rg (Mv (z:=Co (Ia (z:=Co (Ld (z:=Co (Ei (z:=Nl (Cf (z:=WC.skip (WC.seq ?_)))))))))))))
  rcases dc (c=b) with ⟨hB,hdb⟩ | ⟨hB,hdb⟩
  ·rw [if_pos hB] at hres
   refine Rg (Mv (z:=Co (Ia (z:=Co (Ld (z:=Co (Ei (z:=Nl (Ct (z:=WC.seq (Rg (Co (Ia (z:=Co (Ld (z:=Av (z:=Av (z:=Nl (WC.ret ?_)))))))))))))))))))
   exact fin_two (e:=.ret) (v:=.int .i64 _) (w:=.int .i64 _) rfl trivial rfl rfl (by omega) hM3 ⟨by rw [←hres],kp3⟩
  rw [if_neg hB] at hres
  refine Rg (Mv (z:=Co (Ia (z:=Co (Ld (z:=Co (Ei (z:=Nl (Cf (z:=WC.skip (Rg (Co (Ad (z:=Mv (z:=Nl ?_)))))))))))))))
  exact ⟨rfl,k+1,Ho,⟨by omega,by omega,hres,_,hM3,kp3⟩,by omega⟩
 ·have hdl:decide ((k:Int)<6)=false:=decide_eq_false (by omega)
  obtain rfl:k=6:=by omega
  have hres2:((0,0):Int×Int)=RES:=hres
  refine WC.seq (Rg (Co (Lt (z:=Nl (WC.seq (Cf (z:=WC.exit (WC.seq (Rg (Av (z:=Av (z:=Nl (WC.ret ?_)))))))))))))
  exact fin_two (e:=.ret) (v:=.int .i64 _) (w:=.int .i64 _) rfl trivial rfl rfl (by omega) hM1 ⟨by rw [←hres2],kp⟩
def openJ (C:List Int) (code:Int) (op:List Int):Nat→Option Nat
 | 0=>none
 | j+1=>if (brD (rd C (rd op j)) brP).1=code then some j else openJ C code op j
theorem openJ_lt {C op:List Int} {code:Int}:∀ (m j:Nat),openJ C code op m=some j→j<m
 | 0,j,h=>by cases h
 | m+1,j,h=>by
  simp only [openJ] at h
  split at h
  ·cases h;omega
  ·have:=openJ_lt m j h;omega
def mateD (C V:List Int):Nat→Int→List Int→List Int→Option (List Int)
 | 0,_,_,mt=>some mt
 | r+1,k,op,mt=>
  if rd V k≠13∨(brD (rd C k) brP).2=0 then mateD C V r (k+1) op mt
  else if (brD (rd C k) brP).2=1 then (if op.length=63 then none else mateD C V r (k+1) (op++[k]) mt)
  else match openJ C (rd C k) op op.length with
   | some j=>mateD C V r (k+1) (op.take j) (mt.set (rd op j).toNat k)
   | none=>mateD C V r (k+1) op mt
def gathD (mt:List Int):Nat→Int→List (Int×Int)→List (Int×Int)
 | 0,_,out=>out
 | r+1,k,out=>gathD mt r (k+1) (if 0<rd mt k then out++[(k,rd mt k)] else out)
def pairsD (C V:List Int):List (Int×Int):=match mateD C V V.length 0 [] (List.replicate V.length 0) with | some mt=>gathD mt V.length 0 [] | none=>[]
structure OpenI (H H1:Hp) (vp:Value) (op:List Int) (am:Nat) (mt:List Int):Prop where
 kp:∀ ν o,H ν=some o→H1 ν=some o∧ν≠am∧baseV vp≠some ν
 p:SlO H1 vp 1 op.length (op.map (.int .i64))
 m:H1 am=some (.row 1 (mt.map (.int .i64)))
 ne:baseV vp≠some am
theorem OpenI.grow {H H1 H2:Hp} {vp:Value} {op mt:List Int} {am:Nat} (h:OpenI H H1 vp op am mt) (hk:∀ ν o,H1 ν=some o→H2 ν=some o):OpenI H H2 vp op am mt:=
 ⟨fun ν o e=>⟨hk _ _ (h.kp ν o e).1,(h.kp ν o e).2⟩,SlO.keep h.p (fun ν o _ e=>hk _ _ e),hk _ _ h.m,h.ne⟩
theorem OpenI.push {H H1 H2:Hp} {vp v':Value} {op mt:List Int} {am a:Nat} {x:Go.Ab.Obj} {k:Int} (h:OpenI H H1 vp op am mt) (ha:∀ ν o,H1 ν=some o→ν≠a) (hv:SlO H2 v' 1 (op.length+1) (op.map (.int .i64)++[.int .i64 k])) (hk:KeptBut (H1.up a x) H2 vp) (hn:NewOr (H1.up a x) vp v') :
 OpenI H H2 v' (op++[k]) am mt:=by
 have keep:∀ ν o,H1 ν=some o→baseV vp≠some ν→H2 ν=some o:=fun ν o e1 e2=>hk ν o (Hp.up_ne (ha ν o e1) e1) e2
 have nb:∀ ν o,H1 ν=some o→baseV vp≠some ν→baseV v'≠some ν:=fun ν o e1 e2 e3=>by
  rcases hn ν e3 with h1 | h1
  ·exact e2 h1
  ·rw [Hp.up_ne (ha ν o e1) e1] at h1;cases h1
 exact ⟨fun ν o e=>⟨keep _ _ (h.kp ν o e).1 (h.kp ν o e).2.2,(h.kp ν o e).2.1,nb _ _ (h.kp ν o e).1 (h.kp ν o e).2.2⟩,by simpa using hv,keep _ _ h.m h.ne,nb _ _ h.m h.ne⟩
theorem OpenI.shut {H H1 H2:Hp} {vp vp':Value} {op mt:List Int} {am j:Nat} {i x:Int} (h:OpenI H H1 vp op am mt) (hp:SlO H2 vp' 1 j ((op.map (Value.int .i64)).take (j*1))) (hb:baseV vp'=baseV vp) (hj:j≤op.length)
 (e2:H2=H1.up am (.row 1 ((mt.set i.toNat x).map (.int .i64)))):OpenI H H2 vp' (op.take j) am (mt.set i.toNat x):=by
 subst e2
 refine ⟨fun ν o e=>⟨Hp.up_ne (h.kp ν o e).2.1 (h.kp ν o e).1,(h.kp ν o e).2.1,by rw [hb];exact (h.kp ν o e).2.2⟩,?_,Hp.up_same,by rw [hb];exact h.ne⟩
 rw [Nat.mul_one,←List.map_take] at hp
 rwa [List.length_take,Nat.min_eq_left hj]
theorem op_get {H:Hp} {v:Value} {op:List Int} (h:SlO H v 1 op.length (op.map (.int .i64))) {j:Int} (h0:0≤j) (h1:j<op.length) :
 ∃ ν c ws,v = .slice (some ⟨ν,0,none⟩) op.length c∧H ν=some (.row 1 ws)∧ws[0+j.toNat*1]?=some (.int .i64 (rd op j)):=by
 rcases h with ⟨_,h2,_⟩ | ⟨ν,c,ws,rfl,hν,hw,hc,he⟩
 ·omega
 ·refine ⟨ν,c,ws,rfl,hν,?_⟩
  have e:(op.map (Value.int .i64))[j.toNat]?=some (.int .i64 (rd op j)):=by
   rw [List.getElem?_map,List.getElem?_eq_getElem (by omega),rd_at h0 h1];rfl
  rw [he,List.getElem?_take,if_pos (by omega)] at e
  rw [Nat.mul_one,Nat.zero_add];exact e
structure OutI (H H1:Hp) (vo:Value) (out:List (Int×Int)) (am:Nat) (mt:List Int):Prop where
 kp:∀ ν o,H ν=some o→H1 ν=some o∧baseV vo≠some ν
 o:SlO H1 vo 2 out.length (out.flatMap enc2)
 m:H1 am=some (.row 1 (mt.map (.int .i64)))
 ne:baseV vo≠some am
theorem OutI.push {H H1 H2:Hp} {vo v':Value} {out:List (Int×Int)} {mt:List Int} {am a:Nat} {x:Go.Ab.Obj} {e:Int×Int} (h:OutI H H1 vo out am mt) (ha:∀ ν o,H1 ν=some o→ν≠a) (hv:SlO H2 v' 2 (out.length+1) (out.flatMap enc2++enc2 e)) (hk:KeptBut (H1.up a x) H2 vo) (hn:NewOr (H1.up a x) vo v') :
 OutI H H2 v' (out++[e]) am mt:=by
 have keep:∀ ν o,H1 ν=some o→baseV vo≠some ν→H2 ν=some o:=fun ν o e1 e2=>hk ν o (Hp.up_ne (ha ν o e1) e1) e2
 have nb:∀ ν o,H1 ν=some o→baseV vo≠some ν→baseV v'≠some ν:=fun ν o e1 e2 e3=>by
  rcases hn ν e3 with h1 | h1
  ·exact e2 h1
  ·rw [Hp.up_ne (ha ν o e1) e1] at h1;cases h1
 exact ⟨fun ν o e=>⟨keep _ _ (h.kp ν o e).1 (h.kp ν o e).2,nb _ _ (h.kp ν o e).1 (h.kp ν o e).2⟩,by simpa [List.flatMap_append] using hv,keep _ _ h.m h.ne,nb _ _ h.m h.ne⟩
set_option maxHeartbeats 8000000 in
theorem pairsD_sp {s:St} {H:Hp} {c cc d dc n:Nat} {C V:List Int} (hX:OwnX X) (hM:Models ro s H) (hd:H d=some (.row 1 (C.map (.int .i64)))) (hc:H c=some (.row 1 (V.map (.int .i64)))) (hlC:C.length=n) (hl:V.length=n) (hn:n≤16384) :
 Sp X Try.prog ro 92 [.slice (some ⟨d,0,none⟩) n dc,.slice (some ⟨c,0,none⟩) n cc] s fun v H'=>FreshV H H' v∧SlO H' v 2 (pairsD C V).length ((pairsD C V).flatMap enc2):=by
 refine Bo hX Try.func92 Try.ntmps92 (z:=?_)
 refine WC.seq (Rg (Av (z:=Nl (WC.seq (Rg (Co (Bs (z:=fun a1_0 s1_0 hf1_0 hne1_0 hn1_0 hM1_0=>Av (z:=Nl (WC.seq (Rg (Mv (z:=Co (Ln (z:=?_)))))))))))))))
 refine WO.cons (SV.makeSliceM (by assumption) rfl rfl (by refine ⟨?_,?_,?_,?_,rfl,by decide⟩ <;> omega) (fun a2_2 s2_2 hf2_2 hne2_2 hn2_2 hM2_2=>?_)) (by decide)
 refine Av (z:=Nl ?_)
 rw [rep_ints ((n:Int).toNat),Int.toNat_natCast] at hM2_2
 have hI0:OpenI H ((H.up a1_0 (.row 1 [])).up a2_2 (.row 1 ((List.replicate n (0:Int)).map (.int .i64)))) (.slice (some ⟨a1_0,0,none⟩) 0 0) [] a2_2 (List.replicate n 0):=by
  have hh:∀ ν o,H ν=some o→(H.up a1_0 (.row 1 [])) ν=some o:=fun ν o e=>Hp.up_ne (hne1_0 _ _ e) e
  exact ⟨fun ν o e=>⟨Hp.up_ne (hne2_2 _ _ (hh _ _ e)) (hh _ _ e),hne2_2 _ _ (hh _ _ e),fun e2=>hne1_0 _ _ e (Option.some.inj e2).symm⟩,.inr ⟨a1_0,0,[],rfl,Hp.up_ne (hne2_2 _ _ Hp.up_same) Hp.up_same,rfl,Nat.le_refl _,rfl⟩,Hp.up_same,fun e2=>hne2_2 _ _ Hp.up_same (Option.some.inj e2)⟩
 have hM0:Models ro s2_2 ((H.up a1_0 (.row 1 [])).up a2_2 (.row 1 ((List.replicate n (0:Int)).map (.int .i64)))):=hM2_2
 clear hM2_2 hM1_0
 generalize (H.up a1_0 (.row 1 [])).up a2_2 (.row 1 ((List.replicate n (0:Int)).map (.int .i64)))=H0 at hI0 hM0
 clear hf2_2 hne2_2
 generalize a2_2=am at hI0 ⊢
 refine WC.seq (WC.seq (Rg (Mv (z:=Co (Ln (z:=Mv (z:=Nl (WC.block ?_))))))))
 have hPR:pairsD C V=match mateD C V n 0 [] (List.replicate n 0) with | some mt=>gathD mt n 0 [] | none=>[]:=by unfold pairsD;rw [hl]
 generalize hRES:mateD C V n 0 [] (List.replicate n 0)=RES at hPR
 refine WC.loop (D:=Int×Value×List Int×List Int) (fun x=>[(0,.slice (some ⟨d,0,none⟩) n dc),(1,.slice (some ⟨c,0,none⟩) n cc),(4,.slice none 0 0),(5,x.2.1),(6,.slice (some ⟨am,0,none⟩) n n),(21,.int .i64 n),(22,.int .i64 x.1)])
  (fun x s1=>s.next≤s1.next∧0≤x.1∧x.1≤n∧(∃ H1,Models ro s1 H1∧OpenI H H1 x.2.1 x.2.2.1 am x.2.2.2)∧mateD C V (n-x.1.toNat) x.1 x.2.2.1 x.2.2.2=RES∧x.2.2.2.length=n∧(∀ y∈x.2.2.1,0≤y∧y<x.1)∧x.2.2.1.length≤63)
  (fun x=>n-x.1.toNat) (0,.slice (some ⟨a1_0,0,none⟩) 0 0,[],List.replicate n 0) ?_ ⟨by omega,Int.le_refl _,by dsimp only;omega,⟨_,hM0,hI0⟩,hRES,by dsimp only;exact List.length_replicate,fun y hy=>(by cases hy),Nat.zero_le _⟩ ?_
 ·exact Ho
 clear hI0 hM0
 rintro ⟨k,vp,op,mt⟩ g s1 ⟨hn1,hk0,hk1,⟨H1,hM1,hI⟩,hres,hlm,hop,h63⟩
 dsimp only at hn1 hk0 hk1 hI hres hlm hop h63 ⊢
 have hc1:=(hI.kp _ _ hc).1
 have hd1:=(hI.kp _ _ hd).1
 by_cases hlt:k<n
 ·have hdl:decide (k<(n:Int))=true:=decide_eq_true hlt
  rw [show n-k.toNat=(n-(k+1).toNat)+1 by omega] at hres
  simp only [mateD] at hres
  refine WC.seq (Rg (Co (Lt (z:=Nl (WC.seq (Ct (z:=WC.skip (WC.seq (WC.block (WC.seq (Rg (Mv (z:=Av (z:=Nl (WC.seq (Rg (Mv (z:=Mv (z:=Co (Ix (z:=Co (Ld (z:=Co ?_)))))))))))))))))))))))
  refine SV.callM rfl rfl (bracketD_sp hX hM1) ?_
  rintro v s2 H2 hn2 hM2 ⟨rfl,kp2⟩
  refine Mv (z:=Co (Et (z:=Co (Et (z:=Av (z:=Av (z:=Nl ?_)))))))
  have hI2:=hI.grow kp2
  have hc2:=kp2 _ _ hc1
  have hd2:=kp2 _ _ hd1
  have hp2:=hI2.p
  have hm2:=hI2.m
  by_cases h13:rd V k=13
  ·have hd13:decide (rd V k≠13)=false:=decide_eq_false (fun h=>h h13)
   by_cases hz:(brD (rd C k) brP).2=0
   ·have hdz:decide ((brD (rd C k) brP).2=0)=true:=decide_eq_true hz
    rw [if_pos (.inr hz)] at hres
    refine WC.seq (WC.seq (Rg (Mv (z:=Mv (z:=Co (Ix (z:=Co (Ld (z:=Co (Ni (z:=Mv (z:=Gy (z:=Mq (z:=Gy (z:=Ei (z:=Co (Pf (z:=Nl (Ct (z:=WC.exit (Rg (Co (Ad (z:=Mv (z:=Nl ?_)))))))))))))))))))))))))
    exact ⟨rfl,(k+1,_,_,_),Ho,⟨by omega,by dsimp only;omega,by dsimp only;omega,⟨_,hM2,hI2⟩,hres,by dsimp only;first | assumption | (rw [List.length_set];assumption),by first | assumption | (intro x_ hx_;have:=hop x_ (List.mem_of_mem_take hx_);omega) | (intro x_ hx_;rcases List.mem_append.mp hx_ with h_ | h_;exact ⟨(hop x_ h_).1,by have:=(hop x_ h_).2;omega⟩;rw [List.mem_singleton.mp h_];omega) | (intro x_ hx_;have:=hop x_ hx_;omega),by dsimp only;first | omega | (simp only [List.length_append,List.length_singleton];omega) | (simp only [List.length_take];omega)⟩,by dsimp only;omega⟩
   have hdz:decide ((brD (rd C k) brP).2=0)=false:=decide_eq_false hz
   rw [if_neg (fun x=>x.elim (fun y=>y h13) hz)] at hres
   refine WC.seq (WC.seq (Rg (Mv (z:=Mv (z:=Co (Ix (z:=Co (Ld (z:=Co (Ni (z:=Mv (z:=Gy (z:=Mq (z:=Gy (z:=Ei (z:=Co (Pf (z:=Nl (Cf (z:=WC.skip (WC.seq (WC.seq ?_))))))))))))))))))))))
   by_cases h1:(brD (rd C k) brP).2=1
   ·have hd1:decide ((brD (rd C k) brP).2=1)=true:=decide_eq_true h1
    rw [if_pos h1] at hres
    refine Rg (Mv (z:=Co (Ei (z:=Nl (Ct (z:=WC.seq (WC.seq ?_)))))))
    by_cases h6:op.length=63
    ·have hd6:decide ((op.length:Int)=63)=true:=decide_eq_true (by omega)
     rw [if_pos h6] at hres
     rw [←hres] at hPR
     refine Rg ?_
     refine WO.cons (SV.move ?_) (by decide)
     refine Co (Lo (z:=Co (Ei (z:=Nl (Ct (z:=WC.seq (Rg (Av (z:=Nl (WC.ret ?_))))))))))
     refine fin_one (e:=.ret) (v:=.slice none 0 0) rfl trivial rfl (by omega) hM2 ⟨⟨fun ν o e=>(hI2.kp _ _ e).1,fun ν o e h=>(by cases h)⟩,.inl ⟨rfl,?_,?_⟩⟩
     ·rw [hPR];rfl
     ·rw [hPR];rfl
    ·have hd6:decide ((op.length:Int)=63)=false:=decide_eq_false (by omega)
     rw [if_neg h6] at hres
     refine Rg ?_
     refine WO.cons (SV.move ?_) (by decide)
     refine Co (Lo (z:=Co (Ei (z:=Nl (Cf (z:=WC.skip (WC.seq (Rg ?_))))))))
     refine WO.cons (SV.move ?_) (by decide)
     refine Mv (z:=Co (Bs (z:=fun a11_2 s11_2 hf11_2 hne11_2 hn11_2 hM11_2=>Co ?_)))
     have hpu:SlO (H2.up a11_2 (.row 1 [.int .i64 k])) vp 1 op.length (op.map (.int .i64)):=hp2.up (fun h=>by obtain ⟨o,ho⟩:=hp2.base_some h;exact hne11_2 _ _ ho rfl)
     have hMb:Models ro s11_2 (H2.up a11_2 (.row 1 [.int .i64 k])):=hM11_2
     clear hM11_2
     refine SV.appendM (t:=23) (u:=23) (e:=3) (e':=3) (sz:=1) (sz':=1) (bytes:=8) (z:=[.int .i64 0]) (n:=op.length) (m:=1) (vs:=op.map (.int .i64)) (xs:=[.int .i64 k]) rfl hMb rfl rfl hpu
      (Src.row Hp.up_same rfl rfl (fun j v h=>by rw [Nat.zero_add];exact h)) rfl (by omega) (fun v5 s5 H5 hn5 hM5 hv5 hk5 hnew5 hex5=>?_)
     refine WO.cons (SV.assign ?_) (by decide)
     refine Nl ?_
     have hI5:=hI2.push hne11_2 hv5 hk5 hnew5
     refine WC.exit (Rg (Co (Ad (z:=Mv (z:=Nl ?_)))))
     exact ⟨rfl,(k+1,_,_,_),Ho,⟨by omega,by dsimp only;omega,by dsimp only;omega,⟨_,hM5,hI5⟩,hres,by dsimp only;first | assumption | (rw [List.length_set];assumption),by first | assumption | (intro x_ hx_;have:=hop x_ (List.mem_of_mem_take hx_);omega) | (intro x_ hx_;rcases List.mem_append.mp hx_ with h_ | h_;exact ⟨(hop x_ h_).1,by have:=(hop x_ h_).2;omega⟩;rw [List.mem_singleton.mp h_];omega) | (intro x_ hx_;have:=hop x_ hx_;omega),by dsimp only;first | omega | (simp only [List.length_append,List.length_singleton];omega) | (simp only [List.length_take];omega)⟩,by dsimp only;omega⟩
   ·have hd1:decide ((brD (rd C k) brP).2=1)=false:=decide_eq_false h1
    rw [if_neg h1] at hres
    refine Rg (Mv (z:=Co (Ei (z:=Nl (Cf (z:=WC.skip (WC.seq (Rg ?_))))))))
    refine WO.cons (SV.move ?_) (by decide)
    refine Co (Lo (z:=Co (Sb (z:=Av (z:=Nl (WC.block ?_))))))
    refine WC.loop (D:=Nat) (fun m=>[(0,.slice (some ⟨d,0,none⟩) n dc),(1,.slice (some ⟨c,0,none⟩) n cc),(4,.slice none 0 0),(5,vp),(6,.slice (some ⟨am,0,none⟩) n n),(7,.int .i64 k),(10,.int .i64 ((m:Int)-1)),(21,.int .i64 n),(22,.int .i64 k)])
     (fun m s4=>s.next≤s4.next∧(∃ H4,Models ro s4 H4∧OpenI H H4 vp op am mt)∧m≤op.length∧openJ C (rd C k) op m=openJ C (rd C k) op op.length) (fun m=>m) op.length ?_ ⟨by omega,⟨_,hM2,hI2⟩,Nat.le_refl _,rfl⟩ ?_
    ·exact Ho
    clear hI2 hM2 hc2 hd2 hp2 hm2 kp2
    rintro m g4 s4 ⟨hn4,⟨H4,hM4,hI4⟩,hm,hfj⟩
    rcases m with _ | m
    ·simp only [openJ] at hfj
     rw [←hfj] at hres
     dsimp only at hres
     refine WC.seq (WC.seq (Rg (Mv (z:=Co (Ge (z:=Nl (Cf (z:=WC.exit (Rg (Co (Ad (z:=Mv (z:=Nl ?_)))))))))))))
     exact ⟨rfl,(k+1,_,_,_),Ho,⟨by omega,by dsimp only;omega,by dsimp only;omega,⟨_,hM4,hI4⟩,hres,by dsimp only;first | assumption | (rw [List.length_set];assumption),by first | assumption | (intro x_ hx_;have:=hop x_ (List.mem_of_mem_take hx_);omega) | (intro x_ hx_;rcases List.mem_append.mp hx_ with h_ | h_;exact ⟨(hop x_ h_).1,by have:=(hop x_ h_).2;omega⟩;rw [List.mem_singleton.mp h_];omega) | (intro x_ hx_;have:=hop x_ hx_;omega),by dsimp only;first | omega | (simp only [List.length_append,List.length_singleton];omega) | (simp only [List.length_take];omega)⟩,by dsimp only;omega⟩
    ·have e1:((m+1:Nat):Int)-1=(m:Int):=by push_cast;omega
     rw [e1]
     refine WC.seq (WC.seq (Rg (Mv (z:=Co (Ge (z:=Nl (Ct (z:=WC.skip (WC.seq (WC.block (WC.seq ?_)))))))))))
     obtain ⟨ν,cp,ws,hv,hν,hw⟩:=op_get hI4.p (j:=m) (by omega) (by omega)
     subst hv
     simp only [openJ] at hfj
     have hmem:rd op m∈op:=rd_memA (by omega) (by omega)
     have hrg:=hop _ hmem
     have hc4:=(hI4.kp _ _ hc).1
     have hd4:=(hI4.kp _ _ hd).1
     refine Rg (Mv (z:=Mv (z:=Mv (z:=Co (Ix (z:=Co (Ld (z:=Co (Ix (z:=Co (Ld (z:=Co ?_))))))))))))
     refine SV.callM rfl rfl (bracketD_sp hX hM4) ?_
     rintro v s5 H5 hn5 hM5 ⟨rfl,kp5⟩
     refine Mv (z:=Co (Et (z:=Co (Et (z:=Av (z:=Av (z:=Nl ?_)))))))
     have hI5:=hI4.grow kp5
     have hc5:=kp5 _ _ hc4
     have hd5:=kp5 _ _ hd4
     have hν5:=kp5 _ _ hν
     have hm5:=hI5.m
     by_cases hj:(brD (rd C (rd op m)) brP).1=rd C k
     ·have hdj:decide ((brD (rd C (rd op m)) brP).1=rd C k)=true:=decide_eq_true hj
      rw [if_pos hj] at hfj
      rw [←hfj] at hres
      dsimp only at hres
      refine WC.seq (Rg (Mv (z:=Mv (z:=Mv (z:=Co (Ix (z:=Co (Ld (z:=Co (Ei (z:=Nl (Ct (z:=WC.seq (Rg (Mv (z:=Mv (z:=Mv (z:=Co (Ix (z:=Co (Ld (z:=Mv (z:=Co (Ix (z:=WO.cons0 (Sv (z:=fun s17_7 hn17_7 hM17_7=>Nl ?_)))))))))))))))))))))))))))
      rw [ints_set (by omega) (by omega)] at hM17_7
      have hp6:SlO (H5.up am (.row 1 ((mt.set (rd op m).toNat k).map (.int .i64)))) (.slice (some ⟨ν,0,none⟩) op.length cp) 1 op.length (op.map (.int .i64)):=hI5.p.up hI5.ne
      refine WC.seq (Rg (Mv (z:=Mv (z:=Co ?_))))
      refine SV.sliceTo (by assumption) rfl hp6 rfl ⟨by omega,by omega⟩ (fun v9 hv9 hb9=>?_)
      rw [Int.toNat_natCast] at hv9
      refine WO.cons (SV.assign ?_) (by decide)
      refine Nl ?_
      have hI9:=hI5.shut hv9 hb9 (by omega) rfl
      refine WC.exit (Rg (Co (Ad (z:=Mv (z:=Nl ?_)))))
      exact ⟨rfl,(k+1,_,_,_),Ho,⟨by omega,by dsimp only;omega,by dsimp only;omega,⟨_,hM17_7,hI9⟩,hres,by dsimp only;first | assumption | (rw [List.length_set];assumption),by first | assumption | (intro x_ hx_;have:=hop x_ (List.mem_of_mem_take hx_);omega) | (intro x_ hx_;rcases List.mem_append.mp hx_ with h_ | h_;exact ⟨(hop x_ h_).1,by have:=(hop x_ h_).2;omega⟩;rw [List.mem_singleton.mp h_];omega) | (intro x_ hx_;have:=hop x_ hx_;omega),by dsimp only;first | omega | (simp only [List.length_append,List.length_singleton];omega) | (simp only [List.length_take];omega)⟩,by dsimp only;omega⟩
     ·have hdj:decide ((brD (rd C (rd op m)) brP).1=rd C k)=false:=decide_eq_false hj
      rw [if_neg hj] at hfj
      refine WC.seq (Rg (Mv (z:=Mv (z:=Mv (z:=Co (Ix (z:=Co (Ld (z:=Co (Ei (z:=Nl (Cf (z:=WC.skip (Rg (Mv (z:=Co (Sb (z:=Av (z:=Nl ?_)))))))))))))))))))
      exact ⟨rfl,m,Ho,⟨by omega,⟨_,hM5,hI5⟩,by omega,hfj⟩,by omega⟩
  ·have hd13:decide (rd V k≠13)=true:=decide_eq_true h13
   rw [if_pos (.inl h13)] at hres
   refine WC.seq (WC.seq (Rg (Mv (z:=Mv (z:=Co (Ix (z:=Co (Ld (z:=Co (Ni (z:=Mv (z:=Gn (z:=Gn (z:=Co (Pt (z:=Nl (Ct (z:=WC.exit (Rg (Co (Ad (z:=Mv (z:=Nl ?_)))))))))))))))))))))))
   exact ⟨rfl,(k+1,_,_,_),Ho,⟨by omega,by dsimp only;omega,by dsimp only;omega,⟨_,hM2,hI2⟩,hres,by dsimp only;first | assumption | (rw [List.length_set];assumption),by first | assumption | (intro x_ hx_;have:=hop x_ (List.mem_of_mem_take hx_);omega) | (intro x_ hx_;rcases List.mem_append.mp hx_ with h_ | h_;exact ⟨(hop x_ h_).1,by have:=(hop x_ h_).2;omega⟩;rw [List.mem_singleton.mp h_];omega) | (intro x_ hx_;have:=hop x_ hx_;omega),by dsimp only;first | omega | (simp only [List.length_append,List.length_singleton];omega) | (simp only [List.length_take];omega)⟩,by dsimp only;omega⟩
 have hdl:decide (k<(n:Int))=false:=decide_eq_false hlt
 rw [show n-k.toNat=0 by omega] at hres
 simp only [mateD] at hres
 rw [←hres] at hPR
 dsimp only at hPR
 refine WC.seq (Rg (Co (Lt (z:=Nl (WC.seq (Cf (z:=WC.exit (WC.seq (Rg (Co (Bs (z:=fun a20_0 s20_0 hf20_0 hne20_0 hn20_0 hM20_0=>Av (z:=Nl ?_)))))))))))))
 have hI20:OutI H (H1.up a20_0 (.row 2 [])) (.slice (some ⟨a20_0,0,none⟩) 0 0) [] am mt:=⟨fun ν o e=>⟨Hp.up_ne (hne20_0 _ _ (hI.kp _ _ e).1) (hI.kp _ _ e).1,fun e2=>hne20_0 _ _ (hI.kp _ _ e).1 (Option.some.inj e2).symm⟩,.inr ⟨a20_0,0,[],rfl,Hp.up_same,rfl,Nat.le_refl _,rfl⟩,Hp.up_ne (hne20_0 _ _ hI.m) hI.m,fun e2=>hne20_0 _ _ hI.m (Option.some.inj e2).symm⟩
 have hM20:Models ro s20_0 (H1.up a20_0 (.row 2 [])):=hM20_0
 refine WC.seq (WC.seq (Rg (Mv (z:=Co (Ln (z:=Mv (z:=Nl (WC.block ?_))))))))
 generalize hRES2:gathD mt n 0 []=RES2 at hPR
 refine WC.loop (D:=Int×Value×List (Int×Int)) (fun x=>[(13,x.2.1),(87,.slice (some ⟨am,0,none⟩) n n),(88,.int .i64 n),(89,.int .i64 x.1)])
  (fun x s1=>s.next≤s1.next∧0≤x.1∧x.1≤n∧(∃ H1,Models ro s1 H1∧OutI H H1 x.2.1 x.2.2 am mt)∧gathD mt (n-x.1.toNat) x.1 x.2.2=RES2∧x.2.2.length≤x.1)
  (fun x=>n-x.1.toNat) (0,.slice (some ⟨a20_0,0,none⟩) 0 0,[]) ?_ ⟨by omega,Int.le_refl _,by dsimp only;omega,⟨_,hM20,hI20⟩,hRES2,by dsimp only;simp⟩ ?_
 ·exact Ho
 clear hI20 hM20 hM20_0 hne20_0 hI hM1 hc1 hd1 hop hlt hdl hres hk0 hk1
 rintro ⟨k,vo,out⟩ g s1 ⟨hn1,hk0,hk1,⟨H1,hM1,hI⟩,hres,hlo⟩
 dsimp only at hn1 hk0 hk1 hI hres hlo ⊢
 have hm1:=hI.m
 have ho1:=hI.o
 by_cases hlt:k<n
 ·have hdl:decide (k<(n:Int))=true:=decide_eq_true hlt
  rw [show n-k.toNat=(n-(k+1).toNat)+1 by omega] at hres
  simp only [gathD] at hres
  refine WC.seq (Rg (Co (Lt (z:=Nl (WC.seq (Ct (z:=WC.skip (WC.seq (WC.block (WC.seq (Rg (Mv (z:=Co (Ix (z:=Co (Ld (z:=Av (z:=Av (z:=Nl ?_)))))))))))))))))))
  by_cases hp:0<rd mt k
  ·have hdp:decide (0<rd mt k)=true:=decide_eq_true hp
   rw [if_pos hp] at hres
   refine WC.seq (Rg (Mv (z:=Co (Gt (z:=Nl (Ct (z:=Rg ?_)))))))
   refine WO.cons (SV.move ?_) (by decide)
   refine Mv (z:=Mv (z:=?_))
   refine WO.cons (SV.buildA rfl ?_) (by decide)
   refine Co (Bs (z:=fun a25_4 s25_4 hf25_4 hne25_4 hn25_4 hM25_4=>Co ?_))
   have hpu:SlO (H1.up a25_4 (.row 2 (enc2 (k,rd mt k)))) vo 2 out.length (out.flatMap enc2):=ho1.up (fun h=>by obtain ⟨o,ho⟩:=ho1.base_some h;exact hne25_4 _ _ ho rfl)
   have hMb:Models ro s25_4 (H1.up a25_4 (.row 2 (enc2 (k,rd mt k)))):=hM25_4
   clear hM25_4
   refine SV.appendM (e:=39) (e':=39) (sz:=2) (sz':=2) (n:=out.length) (m:=1) (vs:=out.flatMap enc2) (xs:=enc2 (k,rd mt k)) rfl hMb rfl rfl hpu (src2 Hp.up_same) rfl (by omega) (fun v8 s8 H8 hn8 hM8 hv8 hk8 hnew8 _=>?_)
   refine WO.cons (SV.assign ?_) (by decide)
   refine Nl ?_
   have hI8:=hI.push hne25_4 hv8 hk8 hnew8
   refine Rg (Co (Ad (z:=Mv (z:=Nl ?_))))
   exact ⟨rfl,(k+1,_,_),Ho,⟨by omega,by dsimp only;omega,by dsimp only;omega,⟨_,hM8,hI8⟩,hres,by dsimp only;rw [List.length_append,List.length_singleton];push_cast;omega⟩,by dsimp only;omega⟩
  ·have hdp:decide (0<rd mt k)=false:=decide_eq_false hp
   rw [if_neg hp] at hres
   refine WC.seq (Rg (Mv (z:=Co (Gt (z:=Nl (Cf (z:=WC.skip (Rg (Co (Ad (z:=Mv (z:=Nl ?_))))))))))))
   exact ⟨rfl,(k+1,_,_),Ho,⟨by omega,by dsimp only;omega,by dsimp only;omega,⟨_,hM1,hI⟩,hres,by dsimp only;omega⟩,by dsimp only;omega⟩
 have hdl:decide (k<(n:Int))=false:=decide_eq_false hlt
 rw [show n-k.toNat=0 by omega] at hres
 simp only [gathD] at hres
 rw [←hres] at hPR
 refine WC.seq (Rg (Co (Lt (z:=Nl (WC.seq (Cf (z:=WC.exit (WC.seq (Rg ?_)))))))))
 refine WO.cons (SV.move ?_) (by decide)
 refine WO.cons (SV.assign ?_) (by decide)
 refine Nl (WC.ret ?_)
 rw [hPR]
 refine fin_one (e:=.ret) (v:=vo) rfl ?_ rfl (by omega) hM1 ⟨⟨fun ν o e=>(hI.kp _ _ e).1,fun ν o e=>(hI.kp _ _ e).2⟩,ho1⟩
 trivial
theorem thn_x {f:Gm→List Deferred→St→Prop} {Q:Ex→Gm→List Deferred→St→Prop} {g:Gm} {ds:List Deferred} {s:St} {i:Nat} (h:Q (.exit i) g ds s):thn f Q (.exit i) g ds s:=h
theorem blk_x {Q:Ex→Gm→List Deferred→St→Prop} {g:Gm} {ds:List Deferred} {s:St} {i:Nat} (h:Q .normal g ds s):blk i Q (.exit i) g ds s:=by
 simp only [blk,Nat.beq_refl]
 exact h
def scanS (V:List Int):Nat→Int→Bool→Bool→Bool×Bool
 | 0,_,x,y=>(x,y)
 | r+1,k,x,y=>scanS V r (k+1) (x||decide (sideM (rd V k)=0)) (y||decide (sideM (rd V k)=1))
def aheadS (V:List Int) (st:Int):Nat→Int
 | 0=>st
 | r+1=>if 0≤sideM (rd V r) then sideM (rd V r) else aheadS V st r
def trailS (F:List Int) (to:Int):Nat→Int→List Int→List Int
 | 0,_,V=>V
 | r+1,k,V=>if rd F k=8 then trailS F to r (k+1) (V.set k.toNat to) else V
def bothS (F:List Int) (to:Int) (n:Nat):List Int→List Int→List Int
 | [],V=>V
 | k::ks,V=>bothS F to n ks (trailS F to (n-(k+1).toNat) (k+1) (V.set k.toNat to))
def toS (d st:Int) (V:List Int) (a:Int) (s:Bool×Bool):Int:=if (if d=0 then s.1 else s.2)=true then d else aheadS V st a.toNat
def brkS (d st:Int) (F:List Int) (n:Nat):List (Int×Int)→List Int→List Int
 | [],V=>V
 | p::P,V=>
  if (scanS V (p.2-(p.1+1)).toNat (p.1+1) false false).1=false∧(scanS V (p.2-(p.1+1)).toNat (p.1+1) false false).2=false then brkS d st F n P V
  else brkS d st F n P (bothS F (toS d st V p.1 (scanS V (p.2-(p.1+1)).toNat (p.1+1) false false)) n [p.1,p.2] V)
def bracketsD (lv st:Int) (C F V:List Int):List Int:=brkS (lv.tmod 2) st F V.length (pairsD C V) V
theorem trailS_length {F:List Int} {to:Int}:∀ (r:Nat) (k:Int) (V:List Int),(trailS F to r k V).length=V.length
 | 0,_,_=>rfl
 | r+1,k,V=>by
  simp only [trailS]
  split
  ·exact (trailS_length r _ _).trans List.length_set
  ·rfl
theorem bothS_length {F:List Int} {to:Int} {n:Nat}:∀ (ks V:List Int),(bothS F to n ks V).length=V.length
 | [],_=>rfl
 | k::ks,V=>(bothS_length ks _).trans ((trailS_length _ _ _).trans List.length_set)
theorem brkS_length {d st:Int} {F:List Int} {n:Nat}:∀ (P:List (Int×Int)) (V:List Int),(brkS d st F n P V).length=V.length
 | [],_=>rfl
 | p::P,V=>by
  simp only [brkS]
  split
  ·exact brkS_length P V
  ·exact (brkS_length P _).trans (bothS_length _ _)
theorem sideM_cases (c:Int):sideM c=0∨sideM c=1∨sideM c = -1:=by
 unfold sideM
 split
 ·exact .inl rfl
 ·split
  ·exact .inr (.inl rfl)
  ·exact .inr (.inr rfl)
theorem gathD_len {mt:List Int}:∀ (r:Nat) (k:Int) (out:List (Int×Int)),(gathD mt r k out).length≤out.length+r
 | 0,_,_=>Nat.le_refl _
 | r+1,k,out=>by
  simp only [gathD]
  refine Nat.le_trans (gathD_len r (k+1) _) ?_
  split
  ·rw [List.length_append,List.length_singleton];omega
  ·omega
theorem pairsD_len {C V:List Int}:(pairsD C V).length≤V.length:=by
 unfold pairsD
 split
 ·exact Nat.le_trans (gathD_len _ _ _) (by simp)
 ·exact Nat.zero_le _
theorem gathD_ok {mt:List Int} {n:Nat} (hm:∀ y∈mt,0≤y∧y<n) (hl:mt.length=n):∀ (r:Nat) (k:Int) (out:List (Int×Int)),0≤k→k+r≤n→PairOk n out→PairOk n (gathD mt r k out)
 | 0,_,_,_,_,h=>h
 | r+1,k,out,h0,h1,h=>by
  push_cast at h1
  simp only [gathD]
  refine gathD_ok hm hl r (k+1) _ (by omega) (by omega) ?_
  split
  ·intro x hx
   rcases List.mem_append.mp hx with hx | hx
   ·exact h x hx
   ·rw [List.mem_singleton.mp hx]
    have:=hm _ (rd_memA (A:=mt) (k:=k) h0 (by omega))
    exact ⟨h0,by dsimp only;omega,this.1,this.2⟩
  ·exact h
theorem mateD_ok {C V:List Int} {n:Nat}:∀ (r:Nat) (k:Int) (op mt res:List Int),0≤k→k+r≤n→mt.length=n→(∀ y∈mt,0≤y∧y<n)→mateD C V r k op mt=some res→res.length=n∧∀ y∈res,0≤y∧y<n
 | 0,_,_,_,_,_,_,hl,hm,h=>by cases h;exact ⟨hl,hm⟩
 | r+1,k,op,mt,res,h0,h1,hl,hm,h=>by
  push_cast at h1
  have go:=fun op' mt' h2 h3 h4=>mateD_ok (C:=C) (V:=V) (n:=n) r (k+1) op' mt' res (by omega) (by omega) h2 h3 h4
  simp only [mateD] at h
  split at h
  ·exact go _ _ hl hm h
  split at h
  ·split at h
   ·cases h
   ·exact go _ _ hl hm h
  split at h
  ·refine go _ _ (by rw [List.length_set];exact hl) (fun y hy=>?_) h
   rcases List.mem_or_eq_of_mem_set hy with hy | hy
   ·exact hm y hy
   ·omega
  ·exact go _ _ hl hm h
theorem pairsD_ok {C V:List Int}:PairOk V.length (pairsD C V):=by
 unfold pairsD
 split
 ·rename_i mt h
  obtain ⟨h1,h2⟩:=mateD_ok (n:=V.length) V.length 0 [] _ mt (Int.le_refl _) (by omega) (by simp) (fun y hy=>by
   have:=List.eq_of_mem_replicate hy
   have hp:0<V.length:=by rcases Nat.eq_zero_or_pos V.length with e | e;rw [e] at hy;cases hy;exact e
   omega) h
  exact gathD_ok h2 h1 V.length 0 [] (Int.le_refl _) (by omega) (fun x hx=>by cases hx)
 ·exact fun x hx=>by cases hx
structure BrkI (H0 H1:Hp) (c pa ha:Nat) (V:List Int) (a b:Int) (x y:Bool):Prop where
 r:RowI H0 H1 c V
 p:H1 pa=some (.row 0 [.int .i64 a,.int .i64 b])
 h:H1 ha=some (.row 0 [.bool x,.bool y])
 ne:pa≠ha∧pa≠c∧ha≠c
 nh:∀ ν o,H0 ν=some o→ν≠ha
theorem BrkI.put {H0 H1:Hp} {c pa ha:Nat} {V:List Int} {a b k z:Int} {x y:Bool} {s:St} (h:BrkI H0 H1 c pa ha V a b x y) (hM:Models ro s (H1.up c (.row 1 ((V.map (Value.int .i64)).set (0+k.toNat*1) (.int .i64 z))))) (h0:0≤k) (h1:k<V.length) :
 ∃ H2,Models ro s H2∧BrkI H0 H2 c pa ha (V.set k.toNat z) a b x y:=by
 rw [ints_set h0 h1] at hM
 exact ⟨_,hM,⟨Hp.up_same,fun ν o e ne=>Hp.up_ne ne (h.r.kp ν o e ne)⟩,Hp.up_ne h.ne.2.1 h.p,Hp.up_ne h.ne.2.2 h.h,h.ne,h.nh⟩
theorem BrkI.has {H0 H1:Hp} {c pa ha:Nat} {V:List Int} {a b:Int} {x y x' y':Bool} (h:BrkI H0 H1 c pa ha V a b x y):BrkI H0 (H1.up ha (.row 0 [.bool x',.bool y'])) c pa ha V a b x' y':=
 ⟨⟨Hp.up_ne h.ne.2.2.symm h.r.at_,fun ν o e ne=>Hp.up_ne (h.nh _ _ e) (h.r.kp ν o e ne)⟩,Hp.up_ne h.ne.1 h.p,Hp.up_same,h.ne,h.nh⟩
theorem two_at {a b:Int} {n:Nat} (ha:0≤a∧a<n) (hb:0≤b∧b<n):∀ t:Nat,t<2→∃ q,nth [Value.int .i64 a,.int .i64 b] ((t:Int)).toNat=some (.int .i64 q)∧[a,b].drop t=q::[a,b].drop (t+1)∧0≤q∧q<n
 | 0,_=>⟨a,rfl,rfl,ha⟩
 | 1,_=>⟨b,rfl,rfl,hb⟩
 | t+2,h=>by omega
set_option maxHeartbeats 8000000 in
theorem bracketsD_sp {s:St} {H:Hp} {c o d cc co dc n:Nat} {V F C:List Int} {vA:Value} {lv st en:Int} (hX:OwnX X) (hM:Models ro s H) (hd:H d=some (.row 1 (C.map (.int .i64)))) (hc:H c=some (.row 1 (V.map (.int .i64)))) (ho:H o=some (.row 1 (F.map (.int .i64)))) (hoc:o≠c) (hlC:C.length=n) (hl:V.length=n) (hlF:F.length=n) (hn:n≤16384) (hlv:0≤lv) :
 Sp X Try.prog ro 81 [.agg #[vA,.int .i64 lv,.int .i64 st,.int .i64 en],.slice (some ⟨d,0,none⟩) n dc,.slice (some ⟨c,0,none⟩) n cc,.slice (some ⟨o,0,none⟩) n co] s fun v H'=>v = .slice (some ⟨c,0,none⟩) n cc∧RowI H H' c (bracketsD lv st C F V):=by
 refine Bo hX Try.func81 Try.ntmps81 (z:=?_)
 refine WC.seq (Rg ?_)
 refine WO.cons (SV.boxM (by assumption) rfl (fun a0_0 s0_0 hf0_0 hne0_0 hn0_0 hM0_0=>?_)) (by decide)
 refine Av (z:=Nl ?_)
 generalize hHa:H.up a0_0 _=Ha at hM0_0
 have kpa:∀ ν o,H ν=some o→Ha ν=some o:=fun ν o e=>by rw [←hHa];exact Hp.up_ne (hne0_0 _ _ e) e
 have hba:Ha a0_0=some (.row 0 [vA,.int .i64 lv,.int .i64 st,.int .i64 en]):=by rw [←hHa];exact Hp.up_same
 have hbc:a0_0≠c:=(hne0_0 _ _ hc).symm
 have hca:=kpa _ _ hc
 have hda:=kpa _ _ hd
 have hoa:=kpa _ _ ho
 clear hf0_0 hHa hne0_0
 generalize a0_0=bx at *
 refine WC.seq (Rg (Co (Fa (z:=Co (Ld (z:=Co (Rm (z:=Av (z:=Nl (WC.seq (WC.seq (Rg (Mv (z:=Mv (z:=Co ?_)))))))))))))))
 refine SV.callM rfl rfl (pairsD_sp hX hM0_0 hda hca hlC hl hn) ?_
 rintro vP s1 H0 hn1 hM1 ⟨hfr,hvp⟩
 have hdd:0≤lv.tmod 2∧lv.tmod 2≤1:=by rw [Int.tmod_eq_emod_of_nonneg hlv];omega
 have hBR:bracketsD lv st C F V=brkS (lv.tmod 2) st F n (pairsD C V) V:=by unfold bracketsD;rw [hl]
 rw [hBR]
 clear hBR
 have hok:PairOk n (pairsD C V):=by rw [←hl];exact pairsD_ok
 have hPl:(pairsD C V).length≤16384:=Nat.le_trans pairsD_len (by omega)
 generalize pairsD C V=PP at hvp hok hPl ⊢
 have hc0:=hfr.kp _ _ hca
 have ho0:=hfr.kp _ _ hoa
 have hb0:=hfr.kp _ _ hba
 have kp0:∀ ν o,H ν=some o→H0 ν=some o:=fun ν o e=>hfr.kp _ _ (kpa _ _ e)
 have hvc:=hfr.nb _ _ hca
 refine Co (Lo (z:=Mv (z:=Nl (WC.block ?_))))
 generalize hW:brkS (lv.tmod 2) st F n PP V=W
 refine WC.loop (D:=Nat×List Int) (fun x=>[(2,.slice (some ⟨c,0,none⟩) n cc),(3,.slice (some ⟨o,0,none⟩) n co),(4,.pointer (some ⟨bx,0,none⟩)),(9,.int .i64 (lv.tmod 2)),(27,vP),(28,.int .i64 PP.length),(29,.int .i64 x.1)])
  (fun x s1=>s.next≤s1.next∧(∃ H1,Models ro s1 H1∧RowI H0 H1 c x.2)∧x.2.length=n∧x.1≤PP.length∧brkS (lv.tmod 2) st F n (PP.drop x.1) x.2=W) (fun x=>PP.length-x.1) (0,V) ?_ ⟨by omega,⟨_,hM1,hc0,fun _ _ h _=>h⟩,hl,Nat.zero_le _,hW⟩ ?_
 ·exact Ho
 clear hW hM1 hn1
 rintro ⟨i,V1⟩ g s1 ⟨hn1,⟨H1,hM1,hI1⟩,hl1,hi,hres⟩
 dsimp only at hn1 hI1 hl1 hi hres ⊢
 by_cases hlt:i<PP.length
 ·have hdl:decide ((i:Int)<(PP.length:Int))=true:=decide_eq_true (by omega)
  obtain ⟨ν,cp,ws,hv,hν,hwl,hnc,htk,hat⟩:=hvp.at enc2_len rfl (by omega)
  subst hv
  have hνc:ν≠c:=fun e=>hvc (by rw [e];rfl)
  have hν1:=hI1.kp _ _ hν hνc
  have hab:=hok _ (List.getElem_mem hlt)
  have hwa:=hat _ hlt
  rw [List.drop_eq_getElem_cons hlt] at hres
  rcases hpe:PP[i] with ⟨a,b⟩
  rw [hpe] at hab hwa hres
  dsimp only at hab
  simp only [brkS] at hres
  refine WC.seq (Rg (Co (Lt (z:=Nl (WC.seq (Ct (z:=WC.skip (WC.seq (WC.block (WC.seq (Rg (Co (Ix (z:=Co ?_))))))))))))))
  refine SV.loadMA (l:=[.int .i64 a,.int .i64 b]) (by assumption) rfl hν1 rfl (fun t u hu=>by have:=hwa t u hu;rw [Nat.zero_add,Int.toNat_natCast];exact this) ?_
  refine Co (Al (z:=fun a4_2 s4_2 hf4_2 hne4_2 hn4_2 hM4_2=>?_))
  refine WO.cons0 (SV.storeMA (by assumption) rfl rfl rfl rfl (by exact Hp.up_same) (by (simp;done)) (fun s4_3 hn4_3 hM4_3=>?_))
  refine Nl ?_
  rw [Hp.up_up] at hM4_3
  have hM4:Models ro s4_3 (H1.up a4_2 (.row 0 [.int .i64 a,.int .i64 b])):=hM4_3
  clear hM4_3 hM4_2
  refine WC.seq (Rg ?_)
  refine WO.cons (SV.buildA rfl ?_) (by decide)
  refine Co (Al (z:=fun a5_1 s5_1 hf5_1 hne5_1 hn5_1 hM5_1=>?_))
  refine WO.cons0 (SV.storeMA (by assumption) rfl rfl rfl rfl (by exact Hp.up_same) (by (simp only [List.length_map];omega)) (fun s5_2 hn5_2 hM5_2=>?_))
  refine Nl ?_
  rw [Hp.up_up] at hM5_2
  have hI5:BrkI H0 ((H1.up a4_2 (.row 0 [.int .i64 a,.int .i64 b])).up a5_1 (.row 0 [.bool false,.bool false])) c a4_2 a5_1 V1 a b false false:=by
   have h1:a4_2≠c:=(hne4_2 _ _ hI1.at_).symm
   have h2:∀ ν o,H1 ν=some o→(H1.up a4_2 (.row 0 [.int .i64 a,.int .i64 b])) ν=some o:=fun ν o e=>Hp.up_ne (hne4_2 _ _ e) e
   have h3:∀ ν o,H1 ν=some o→ν≠a5_1:=fun ν o e=>hne5_1 _ _ (h2 _ _ e)
   exact ⟨⟨Hp.up_ne (h3 _ _ hI1.at_) (h2 _ _ hI1.at_),fun ν o e ne=>Hp.up_ne (h3 _ _ (hI1.kp _ _ e ne)) (h2 _ _ (hI1.kp _ _ e ne))⟩,Hp.up_ne (hne5_1 _ _ Hp.up_same) Hp.up_same,Hp.up_same,⟨hne5_1 _ _ Hp.up_same,h1,(h3 _ _ hI1.at_).symm⟩,fun ν o e=>by
    by_cases h:ν=c
    ·rw [h];exact h3 _ _ hI1.at_
    ·exact h3 _ _ (hI1.kp _ _ e h)⟩
  have hM5:Models ro s5_2 ((H1.up a4_2 (.row 0 [.int .i64 a,.int .i64 b])).up a5_1 (.row 0 [.bool false,.bool false])):=hM5_2
  clear hM5_2 hM5_1
  generalize (H1.up a4_2 (.row 0 [.int .i64 a,.int .i64 b])).up a5_1 (.row 0 [.bool false,.bool false])=H5 at hI5 hM5
  clear hf4_2 hf5_1 hne5_1 hM4 hν1 hM1 hI1 hne4_2
  generalize a4_2=pa at *
  generalize a5_1=ha at *
  have hc5:=hI5.r.at_
  have ho5:=hI5.r.kp _ _ ho0 hoc
  have hb5:=hI5.r.kp _ _ hb0 hbc
  have hp5:=hI5.p
  have hh5:=hI5.h
  refine WC.seq (WC.seq (Rg (Co (Ia (z:=Co (Ld (z:=Co (Ad (z:=Av (z:=Nl (WC.block ?_)))))))))))
  generalize hSC:scanS V1 (b-(a+1)).toNat (a+1) false false=SC at hres
  refine WC.loop (D:=Int×Bool×Bool) (fun x=>[(2,.slice (some ⟨c,0,none⟩) n cc),(3,.slice (some ⟨o,0,none⟩) n co),(4,.pointer (some ⟨bx,0,none⟩)),(9,.int .i64 (lv.tmod 2)),(11,.pointer (some ⟨pa,0,none⟩)),(12,.pointer (some ⟨ha,0,none⟩)),(13,.int .i64 x.1),(27,.slice (some ⟨ν,0,none⟩) PP.length cp),(28,.int .i64 PP.length),(29,.int .i64 (i:Int))])
   (fun x s5=>s.next≤s5.next∧(∃ H1,Models ro s5 H1∧BrkI H0 H1 c pa ha V1 a b x.2.1 x.2.2)∧a+1≤x.1∧scanS V1 (b-x.1).toNat x.1 x.2.1 x.2.2=SC) (fun x=>(b-x.1).toNat) (a+1,false,false) ?_ ⟨by omega,⟨_,hM5,hI5⟩,Int.le_refl _,hSC⟩ ?_
  ·exact Ho
  clear hSC hM5 hI5 hc5 ho5 hb5 hp5 hh5
  rintro ⟨k,x,y⟩ g s5 ⟨hn5,⟨H6,hM6,hI6⟩,hk0,hsc⟩
  dsimp only at hn5 hI6 hk0 hsc ⊢
  have hc6:=hI6.r.at_
  have ho6:=hI6.r.kp _ _ ho0 hoc
  have hb6:=hI6.r.kp _ _ hb0 hbc
  have hp6:=hI6.p
  have hh6:=hI6.h
  by_cases hkb:k<b
  ·have hdk:decide (k<b)=true:=decide_eq_true hkb
   rw [show (b-k).toNat=(b-(k+1)).toNat+1 by omega] at hsc
   simp only [scanS] at hsc
   refine WC.seq (WC.seq (Rg (Mv (z:=Co (Ia (z:=Co (Ld (z:=Co (Lt (z:=Nl (Ct (z:=WC.skip (WC.seq (WC.block (WC.seq (Rg (Mv (z:=Mv (z:=Co (Ix (z:=Co (Ld (z:=Co ?_)))))))))))))))))))))))
   refine SV.callM rfl rfl (strongD_sp hX hM6) ?_
   rintro v s7 H7 hn7 hM7 ⟨rfl,eH⟩
   rw [eH] at hM7
   clear eH
   refine Av (z:=Nl ?_)
   rw [show strongD (rd V1 k)=sideM (rd V1 k) from rfl]
   rcases sideM_cases (rd V1 k) with e | e | e
   ·rw [e] at hsc ⊢
    simp only [decide_true,Bool.or_true,show decide ((0:Int)=1)=false from rfl,Bool.or_false] at hsc
    have hd0:decide ((0:Int)≤0)=true:=rfl
    refine WC.seq (Rg (Mv (z:=Co (Ge (z:=Nl (Ct (z:=Rg (Mv (z:=Co (Ia (z:=WO.cons0 (Sv (z:=fun s11_2 hn11_2 hM11_2=>Nl ?_)))))))))))))
    have hM8:Models ro s11_2 (H6.up ha (.row 0 [.bool true,.bool y])):=hM11_2
    refine Rg (Mv (z:=Co (Ad (z:=Av (z:=Nl ?_)))))
    exact ⟨rfl,(k+1,true,y),Ho,⟨by omega,⟨_,hM8,hI6.has⟩,by dsimp only;omega,hsc⟩,by dsimp only;omega⟩
   ·rw [e] at hsc ⊢
    simp only [decide_true,Bool.or_true,show decide ((1:Int)=0)=false from rfl,Bool.or_false] at hsc
    have hd0:decide ((0:Int)≤1)=true:=rfl
    refine WC.seq (Rg (Mv (z:=Co (Ge (z:=Nl (Ct (z:=Rg (Mv (z:=Co (Ia (z:=WO.cons0 (Sv (z:=fun s11_2 hn11_2 hM11_2=>Nl ?_)))))))))))))
    have hM8:Models ro s11_2 (H6.up ha (.row 0 [.bool x,.bool true])):=hM11_2
    refine Rg (Mv (z:=Co (Ad (z:=Av (z:=Nl ?_)))))
    exact ⟨rfl,(k+1,x,true),Ho,⟨by omega,⟨_,hM8,hI6.has⟩,by dsimp only;omega,hsc⟩,by dsimp only;omega⟩
   ·rw [e] at hsc ⊢
    simp only [show decide ((-1:Int)=0)=false from rfl,show decide ((-1:Int)=1)=false from rfl,Bool.or_false] at hsc
    have hd0:decide ((0:Int) ≤ -1)=false:=rfl
    refine WC.seq (Rg (Mv (z:=Co (Ge (z:=Nl (Cf (z:=WC.skip (Rg (Mv (z:=Co (Ad (z:=Av (z:=Nl ?_)))))))))))))
    exact ⟨rfl,(k+1,x,y),Ho,⟨by omega,⟨_,hM7,hI6⟩,by dsimp only;omega,hsc⟩,by dsimp only;omega⟩
  have hdk:decide (k<b)=false:=decide_eq_false hkb
  rw [show (b-k).toNat=0 by omega] at hsc
  simp only [scanS] at hsc
  subst hsc
  refine WC.seq (WC.seq (Rg (Mv (z:=Co (Ia (z:=Co (Ld (z:=Co (Lt (z:=Nl (Cf (z:=WC.exit (WC.seq (WC.seq ?_))))))))))))))
  by_cases hxy:x=false∧y=false
  ·obtain ⟨rfl,rfl⟩:=hxy
   rw [if_pos ⟨rfl,rfl⟩] at hres
   refine Rg (Co (Ia (z:=Co (Ld (z:=Co (Nf (z:=Mv (z:=Gy (z:=Ia (z:=Gy (z:=Ld (z:=Gy (z:=Nf (z:=Co (Pt (z:=Nl (Ct (z:=WC.exit (Rg (Co (Ad (z:=Mv (z:=Nl ?_)))))))))))))))))))))))
   exact ⟨rfl,(i+1,V1),Ho,⟨by omega,⟨_,hM6,hI6.r⟩,hl1,by dsimp only;omega,hres⟩,by dsimp only;omega⟩
  rw [if_neg hxy] at hres
  refine WC.mono (Q:=fun e g' ds' s'=>e = .normal∧ds'=[]∧holds g' [(2,.slice (some ⟨c,0,none⟩) n cc),(3,.slice (some ⟨o,0,none⟩) n co),(4,.pointer (some ⟨bx,0,none⟩)),(9,.int .i64 (lv.tmod 2)),(11,.pointer (some ⟨pa,0,none⟩)),(12,.pointer (some ⟨ha,0,none⟩)),(27,.slice (some ⟨ν,0,none⟩) PP.length cp),(28,.int .i64 PP.length),(29,.int .i64 (i:Int)),(59,.bool false)]∧s'=s5) ?_ ?_
  ·rcases x with _ | _ <;> rcases y with _ | _
   ·exact absurd ⟨rfl,rfl⟩ hxy
   ·skip
    refine Rg (Co (Ia (z:=Co (Ld (z:=Co (Nf (z:=Mv (z:=Gy (z:=Ia (z:=Gy (z:=Ld (z:=Gy (z:=Nn (z:=Co (Pt (z:=Nl ?_))))))))))))))))
    exact ⟨rfl,rfl,Ho,rfl⟩
   ·skip
    refine Rg (Co (Ia (z:=Co (Ld (z:=Co (Nn (z:=Mv (z:=Gn (z:=Gn (z:=Gn (z:=Co (Pf (z:=Nl ?_)))))))))))))
    exact ⟨rfl,rfl,Ho,rfl⟩
   ·skip
    refine Rg (Co (Ia (z:=Co (Ld (z:=Co (Nn (z:=Mv (z:=Gn (z:=Gn (z:=Gn (z:=Co (Pf (z:=Nl ?_)))))))))))))
    exact ⟨rfl,rfl,Ho,rfl⟩
  rintro e g2 ds2 s2 ⟨rfl,rfl,hg2,rfl⟩
  rw [←over_same hg2]
  refine thn_n (Cf (z:=WC.skip (WC.seq (Rg (Mv (z:=Av (z:=Nl ?_)))))))
  have hw:[Value.bool x,.bool y][0+(lv.tmod 2).toNat*1]?=some (.bool (if lv.tmod 2=0 then x else y)):=by
   by_cases h:lv.tmod 2=0
   ·rw [if_pos h,h];rfl
   ·rw [if_neg h,show lv.tmod 2=1 by omega];rfl
  have hto:toS (lv.tmod 2) st V1 a (x,y)=if (if lv.tmod 2=0 then x else y)=true then lv.tmod 2 else aheadS V1 st a.toNat:=rfl
  generalize (if lv.tmod 2=0 then x else y)=w at hw hto
  refine WC.seq (WC.seq (Rg (Mv (z:=Co (Ia (z:=Co (Ld (z:=?_))))))))
  refine WO.cons (SV.not rfl ?_) (by decide)
  refine Nl (thn_n ?_)
  refine WC.mono (Q:=fun e g' ds' s'=>e = .normal∧ds'=[]∧holds g' [(2,.slice (some ⟨c,0,none⟩) n cc),(3,.slice (some ⟨o,0,none⟩) n co),(4,.pointer (some ⟨bx,0,none⟩)),(9,.int .i64 (lv.tmod 2)),(11,.pointer (some ⟨pa,0,none⟩)),(15,.int .i64 (toS (lv.tmod 2) st V1 a (x,y))),(27,.slice (some ⟨ν,0,none⟩) PP.length cp),(28,.int .i64 PP.length),(29,.int .i64 (i:Int))]∧s.next≤s'.next∧Models ro s' H6) ?_ ?_
  ·rcases w with _ | _
   ·rw [hto,if_neg (by decide)]
    refine Ct (z:=WC.seq (Rg (Co (Fa (z:=Co (Ld (z:=Av (z:=Nl (thn_n (WC.seq (WC.seq (Rg (Av (z:=Nl (thn_n (WC.block ?_))))))))))))))))
    refine WC.loop (D:=Int) (fun k=>[(2,.slice (some ⟨c,0,none⟩) n cc),(3,.slice (some ⟨o,0,none⟩) n co),(4,.pointer (some ⟨bx,0,none⟩)),(9,.int .i64 (lv.tmod 2)),(11,.pointer (some ⟨pa,0,none⟩)),(16,.int .i64 (aheadS V1 st k.toNat)),(17,.int .i64 k),(27,.slice (some ⟨ν,0,none⟩) PP.length cp),(28,.int .i64 PP.length),(29,.int .i64 (i:Int))])
     (fun k s6=>s.next≤s6.next∧Models ro s6 H6∧0≤k∧k≤a) (fun k=>(a-k).toNat) 0 ?_ ⟨by omega,hM6,Int.le_refl _,hab.1⟩ ?_
    ·exact Ho
    rintro k g s6 ⟨hn6,hM6,hk0,hka⟩
    by_cases hlk:k<a
    ·have hdk:decide (k<a)=true:=decide_eq_true hlk
     refine WC.seq (WC.seq (Rg (Mv (z:=Co (Ia (z:=Co (Ld (z:=Co (Lt (z:=Nl (thn_n (Ct (z:=WC.skip (WC.seq (WC.block (WC.seq (Rg (Mv (z:=Mv (z:=Co (Ix (z:=Co (Ld (z:=Co ?_))))))))))))))))))))))))
     refine SV.callM rfl rfl (strongD_sp hX hM6) ?_
     rintro v s7 H7 hn7 hM7 ⟨rfl,eH⟩
     rw [eH] at hM7
     clear eH
     refine Av (z:=Nl ?_)
     rw [show strongD (rd V1 k)=sideM (rd V1 k) from rfl]
     have eA:aheadS V1 st (k+1).toNat=if 0≤sideM (rd V1 k) then sideM (rd V1 k) else aheadS V1 st k.toNat:=by
      rw [show (k+1).toNat=k.toNat+1 by omega]
      simp only [aheadS]
      rw [show ((k.toNat:Nat):Int)=k by omega]
     refine thn_n (WC.seq (Rg (Mv (z:=Co (Ge (z:=Nl ?_))))))
     refine WC.condD rfl (fun hs hsb=>?_) (fun hs hsb=>?_)
     ·skip
      refine Rg (Mv (z:=Av (z:=Nl (Rg (Mv (z:=Co (Ad (z:=Av (z:=Nl ?_)))))))))
      rw [if_pos hs] at eA
      exact ⟨rfl,k+1,⟨rfl,rfl,rfl,rfl,rfl,by rw [eA];rfl,rfl,rfl,rfl,rfl,trivial⟩,⟨by omega,hM7,by omega,by omega⟩,by omega⟩
     ·refine WC.skip (Rg (Mv (z:=Co (Ad (z:=Av (z:=Nl ?_))))))
      rw [if_neg hs] at eA
      exact ⟨rfl,k+1,⟨rfl,rfl,rfl,rfl,rfl,by rw [eA];rfl,rfl,rfl,rfl,rfl,trivial⟩,⟨by omega,hM7,by omega,by omega⟩,by omega⟩
    have hdk:decide (k<a)=false:=decide_eq_false hlk
    obtain rfl:k=a:=by omega
    refine WC.seq (WC.seq (Rg (Mv (z:=Co (Ia (z:=Co (Ld (z:=Co (Lt (z:=Nl (thn_n (Cf (z:=WC.exit ?_)))))))))))))
    refine thn_x ?_
    refine thn_x ?_
    refine blk_x ?_
    refine thn_n (Rg (Mv (z:=Av (z:=Nl ?_))))
    exact ⟨rfl,rfl,Ho,hn6,hM6⟩
   ·rw [hto,if_pos rfl]
    refine Cf (z:=WC.skip ?_)
    exact ⟨rfl,rfl,Ho,by omega,hM6⟩
  rintro e g3 ds3 s3 ⟨rfl,rfl,hg3,hn3,hM3⟩
  rw [←over_same hg3]
  refine thn_n ?_
  generalize toS (lv.tmod 2) st V1 a (x,y)=to at hres
  clear hto hw hxy
  refine WC.seq (Rg ?_)
  refine WO.cons (SV.loadMA (l:=[.int .i64 a,.int .i64 b]) (by assumption) rfl hp6 rfl (fun t u hu=>by rw [Nat.zero_add];exact hu) ?_) (by decide)
  refine Mv (z:=Nl (WC.block ?_))
  generalize hVB:bothS F to n [a,b] V1=VB at hres
  have hlB:VB.length=n:=by rw [←hVB,bothS_length];exact hl1
  refine WC.loop (D:=Nat×List Int) (fun x=>[(2,.slice (some ⟨c,0,none⟩) n cc),(3,.slice (some ⟨o,0,none⟩) n co),(4,.pointer (some ⟨bx,0,none⟩)),(9,.int .i64 (lv.tmod 2)),(15,.int .i64 to),(27,.slice (some ⟨ν,0,none⟩) PP.length cp),(28,.int .i64 PP.length),(29,.int .i64 (i:Int)),(82,.agg #[.int .i64 a,.int .i64 b]),(83,.int .i64 (x.1:Int))])
   (fun z s6=>s.next≤s6.next∧(∃ H1,Models ro s6 H1∧BrkI H0 H1 c pa ha z.2 a b x y)∧z.2.length=n∧z.1≤2∧bothS F to n ([a,b].drop z.1) z.2=VB) (fun z=>2-z.1) (0,V1) ?_ ⟨by omega,⟨_,hM3,hI6⟩,hl1,by omega,hVB⟩ ?_
  ·exact Ho
  clear hVB hM3 hM6 hI6 hc6 ho6 hb6 hp6 hh6 hl1
  rintro ⟨t,V2⟩ g s6 ⟨hn6,⟨H7,hM7,hI7⟩,hl2,ht,hvb⟩
  dsimp only at hn6 hI7 hl2 ht hvb ⊢
  have hc7:=hI7.r.at_
  have ho7:=hI7.r.kp _ _ ho0 hoc
  have hb7:=hI7.r.kp _ _ hb0 hbc
  have hp7:=hI7.p
  have hh7:=hI7.h
  by_cases htl:t<2
  ·have hdt:decide ((t:Int)<2)=true:=decide_eq_true (by omega)
   obtain ⟨q,hq1,hq2,hq3,hq4⟩:=two_at (a:=a) (b:=b) (n:=n) ⟨hab.1,hab.2.1⟩ ⟨hab.2.2.1,hab.2.2.2⟩ t htl
   rw [hq2] at hvb
   simp only [bothS] at hvb
   refine WC.seq (Rg (Co (Lt (z:=Nl (WC.seq (Ct (z:=WC.skip (WC.seq (WC.block (WC.seq (Rg ?_)))))))))))
   refine WO.cons (SV.index rfl rfl (by omega) (by assumption) ?_) (by decide)
   refine Av (z:=Nl (WC.seq (Rg (Mv (z:=Mv (z:=Mv (z:=Co (Ix (z:=WO.cons0 (Sv (z:=fun s26_4 hn26_4 hM26_4=>Nl ?_)))))))))))
   obtain ⟨H8,hM8,hI8⟩:=hI7.put hM26_4 (by omega) (by omega)
   clear hM26_4
   have hl8:(V2.set q.toNat to).length=n:=by rw [List.length_set];exact hl2
   refine WC.seq (Rg (Mv (z:=Co (Ad (z:=Av (z:=Nl (WC.block ?_)))))))
   generalize hVC:trailS F to (n-(q+1).toNat) (q+1) (V2.set q.toNat to)=VC at hvb
   refine WC.loop (D:=Int×List Int) (fun x=>[(2,.slice (some ⟨c,0,none⟩) n cc),(3,.slice (some ⟨o,0,none⟩) n co),(4,.pointer (some ⟨bx,0,none⟩)),(9,.int .i64 (lv.tmod 2)),(15,.int .i64 to),(21,.int .i64 x.1),(27,.slice (some ⟨ν,0,none⟩) PP.length cp),(28,.int .i64 PP.length),(29,.int .i64 (i:Int)),(82,.agg #[.int .i64 a,.int .i64 b]),(83,.int .i64 (t:Int))])
    (fun z s7=>s.next≤s7.next∧(∃ H1,Models ro s7 H1∧BrkI H0 H1 c pa ha z.2 a b x y)∧z.2.length=n∧0≤z.1∧z.1≤n∧trailS F to (n-z.1.toNat) z.1 z.2=VC) (fun z=>n-z.1.toNat) (q+1,V2.set q.toNat to) ?_ ⟨by omega,⟨_,hM8,hI8⟩,hl8,by dsimp only;omega,by dsimp only;omega,hVC⟩ ?_
   ·exact Ho
   clear hVC hM8 hI8 hl8 hM7 hI7 hc7 ho7 hb7 hp7 hh7
   rintro ⟨k,V3⟩ g s7 ⟨hn7,⟨H9,hM9,hI9⟩,hl3,hk0,hk1,hvc⟩
   dsimp only at hn7 hI9 hl3 hk0 hk1 hvc ⊢
   have hc9:=hI9.r.at_
   have ho9:=hI9.r.kp _ _ ho0 hoc
   have hb9:=hI9.r.kp _ _ hb0 hbc
   have hp9:=hI9.p
   have hh9:=hI9.h
   by_cases hkn:k<n
   ·have hdk:decide (k<(n:Int))=true:=decide_eq_true hkn
    rw [show n-k.toNat=(n-(k+1).toNat)+1 by omega] at hvc
    simp only [trailS] at hvc
    by_cases h8:rd F k=8
    ·have hd8:decide (rd F k=8)=true:=decide_eq_true h8
     rw [if_pos h8] at hvc
     refine WC.seq (WC.seq (Rg (Mv (z:=Mv (z:=Co (Ln (z:=Co (Lt (z:=Mv (z:=Gy (z:=Mq (z:=Gy (z:=Mq (z:=Gy (z:=Ix (z:=Gy (z:=Ld (z:=Gy (z:=Ei (z:=Co (Pt (z:=Nl (Ct (z:=WC.skip (WC.seq (WC.block (Rg (Mv (z:=Mv (z:=Mv (z:=Co (Ix (z:=WO.cons0 (Sv (z:=fun s30_4 hn30_4 hM30_4=>Nl ?_)))))))))))))))))))))))))))))))))))
     obtain ⟨H10,hM10,hI10⟩:=hI9.put hM30_4 (by omega) (by omega)
     refine Rg (Mv (z:=Co (Ad (z:=Av (z:=Nl ?_)))))
     exact ⟨rfl,(k+1,V3.set k.toNat to),Ho,⟨by omega,⟨_,hM10,hI10⟩,by dsimp only;rw [List.length_set];exact hl3,by dsimp only;omega,by dsimp only;omega,hvc⟩,by dsimp only;omega⟩
    ·have hd8:decide (rd F k=8)=false:=decide_eq_false h8
     rw [if_neg h8] at hvc
     subst hvc
     refine WC.seq (WC.seq (Rg (Mv (z:=Mv (z:=Co (Ln (z:=Co (Lt (z:=Mv (z:=Gy (z:=Mq (z:=Gy (z:=Mq (z:=Gy (z:=Ix (z:=Gy (z:=Ld (z:=Gy (z:=Ei (z:=Co (Pt (z:=Nl (Cf (z:=WC.exit (Rg (Co (Ad (z:=Mv (z:=Nl ?_)))))))))))))))))))))))))))))
     exact ⟨rfl,(t+1,V3),Ho,⟨by omega,⟨_,hM9,hI9⟩,hl3,by dsimp only;omega,hvb⟩,by dsimp only;omega⟩
   ·have hdk:decide (k<(n:Int))=false:=decide_eq_false hkn
    rw [show n-k.toNat=0 by omega] at hvc
    simp only [trailS] at hvc
    subst hvc
    refine WC.seq (WC.seq (Rg (Mv (z:=Mv (z:=Co (Ln (z:=Co (Lt (z:=Mv (z:=Gn (z:=Gn (z:=Gn (z:=Gn (z:=Gn (z:=Co (Pf (z:=Nl (Cf (z:=WC.exit (Rg (Co (Ad (z:=Mv (z:=Nl ?_))))))))))))))))))))))))
    exact ⟨rfl,(t+1,V3),Ho,⟨by omega,⟨_,hM9,hI9⟩,hl3,by dsimp only;omega,hvb⟩,by dsimp only;omega⟩
  have hdt:decide ((t:Int)<2)=false:=decide_eq_false (by omega)
  obtain rfl:t=2:=by omega
  have hvb2:V2=VB:=hvb
  subst hvb2
  refine WC.seq (Rg (Co (Lt (z:=Nl (WC.seq (Cf (z:=WC.exit (Rg (Co (Ad (z:=Mv (z:=Nl ?_))))))))))))
  exact ⟨rfl,(i+1,V2),Ho,⟨by omega,⟨_,hM7,hI7.r⟩,hl2,by dsimp only;omega,hres⟩,by dsimp only;omega⟩
 have hdl:decide ((i:Int)<(PP.length:Int))=false:=decide_eq_false (by omega)
 rw [List.drop_of_length_le (by omega)] at hres
 simp only [brkS] at hres
 subst hres
 refine WC.seq (Rg (Co (Lt (z:=Nl (WC.seq (Cf (z:=WC.exit (WC.seq (Rg (Mv (z:=Av (z:=Nl (WC.ret ?_)))))))))))))
 exact fin_one (e:=.ret) (v:=.slice _ _ _) rfl trivial rfl hn1 hM1 ⟨rfl,hI1.at_,fun ν o e ne=>hI1.kp _ _ (kp0 _ _ e) ne⟩
def nlf (V:List Int) (st:Int) (k:Nat):Int:=lfG isNeutral sideM st V k
def nrg (V:List Int) (en:Int) (k:Int):Int:=rgG isNeutral sideM en V (V.length-k.toNat) k
def nvD (lv st en:Int) (V:List Int) (k:Int):Int:=if nlf V st k.toNat=nrg V en k then nlf V st k.toNat else lv.tmod 2
def goN (lv st en:Int) (V:List Int):Nat→Int→List Int→List Int
 | 0,_,O=>O
 | r+1,k,O=>goN lv st en V r (k+1) (if isNeutral (rd V k) then O.set k.toNat (nvD lv st en V k) else O)
def neutD (lv st en:Int) (V:List Int):List Int:=goN lv st en V V.length 0 V
theorem nlf_at {V:List Int} {st k:Int} (h0:0≤k):nlf V st (k+1).toNat=if isNeutral (rd V k) then nlf V st k.toNat else sideM (rd V k):=by
 unfold nlf
 rw [show (k+1).toNat=k.toNat+1 by omega]
 simp only [lfG]
 rw [show ((k.toNat:Nat):Int)=k by omega]
theorem nrg_at {V:List Int} {en k:Int} (h0:0≤k) (h1:k<V.length):nrg V en k=if isNeutral (rd V k) then nrg V en (k+1) else sideM (rd V k):=by
 unfold nrg
 exact rgG_at h0 h1
theorem nrg_end {V:List Int} {en k:Int} (h1:¬ k<V.length):nrg V en k=en:=by
 unfold nrg
 rw [show V.length-k.toNat=0 by omega]
 rfl
set_option maxHeartbeats 8000000 in
theorem neutD_sp {s:St} {H:Hp} {c cc n:Nat} {V:List Int} {vA:Value} {lv st en:Int} (hX:OwnX X) (hM:Models ro s H) (hc:H c=some (.row 1 (V.map (.int .i64)))) (hl:V.length=n) (hn:n≤16384) :
 Sp X Try.prog ro 80 [.agg #[vA,.int .i64 lv,.int .i64 st,.int .i64 en],.slice (some ⟨c,0,none⟩) n cc] s fun v H'=>∃ a,v = .slice (some ⟨a,0,none⟩) n n∧(∀ ν o,H ν=some o→H' ν=some o∧ν≠a)∧H' a=some (.row 1 ((neutD lv st en V).map (.int .i64))):=by
 refine Bo hX Try.func80 Try.ntmps80 (z:=?_)
 refine WC.seq (Rg ?_)
 refine WO.cons (SV.boxM (by assumption) rfl (fun a0_0 s0_0 hf0_0 hne0_0 hn0_0 hM0_0=>?_)) (by decide)
 refine Av (z:=Nl ?_)
 generalize hHa:H.up a0_0 _=Ha at hM0_0
 have kpa:∀ ν o,H ν=some o→Ha ν=some o:=fun ν o e=>by rw [←hHa];exact Hp.up_ne (hne0_0 _ _ e) e
 have hba:Ha a0_0=some (.row 0 [vA,.int .i64 lv,.int .i64 st,.int .i64 en]):=by rw [←hHa];exact Hp.up_same
 have hca:=kpa _ _ hc
 clear hf0_0 hHa hne0_0
 generalize a0_0=bx at *
 refine WC.seq (Rg (Co (Bs (z:=fun a1_0 s1_0 hf1_0 hne1_0 hn1_0 hM1_0=>Mv (z:=Co ?_)))))
 have hMb:Models ro s1_0 (Ha.up a1_0 (.row 1 [])):=hM1_0
 clear hM1_0
 refine SV.appendM (t:=23) (u:=23) (e:=3) (e':=3) (sz:=1) (sz':=1) (bytes:=8) (z:=[.int .i64 0]) (n:=0) (m:=n) (vs:=[]) (xs:=V.map (.int .i64)) rfl hMb rfl rfl (.inr ⟨a1_0,0,[],rfl,Hp.up_same,rfl,Nat.le_refl _,rfl⟩)
  (Src.row (Hp.up_ne (hne1_0 _ _ hca) hca) (by rw [List.length_map,hl,Nat.mul_one]) (by rw [List.all_map];simp [oneC]) (fun i v h=>by rw [Nat.zero_add];exact h)) rfl (by omega) (fun v1 s1 H0 hn1 hM1 hv1 hk1 hnew1 hex1=>?_)
 obtain ⟨ao,rfl,ha1,hkp1⟩:=app_fresh hne1_0 hl hk1 hnew1 hex1
 clear hv1 hk1 hnew1 hex1 hMb
 refine Av (z:=Nl (WC.seq (WC.seq (Rg (Mv (z:=Co (Ln (z:=Mv (z:=Nl (WC.block ?_))))))))))
 have hco:c≠ao:=(hkp1 _ _ hca).2
 have hbo:bx≠ao:=(hkp1 _ _ hba).2
 have hc0:=(hkp1 _ _ hca).1
 have hb0:=(hkp1 _ _ hba).1
 have hW:goN lv st en V (n-(0:Int).toNat) 0 V=neutD lv st en V:=by unfold neutD;rw [hl];rfl
 generalize neutD lv st en V=W at hW
 refine WC.loop (D:=Int×List Int) (fun x=>[(1,.slice (some ⟨c,0,none⟩) n cc),(2,.pointer (some ⟨bx,0,none⟩)),(5,.slice (some ⟨ao,0,none⟩) n n),(15,.int .i64 n),(16,.int .i64 x.1)])
  (fun x s1=>s.next≤s1.next∧(∃ H1,Models ro s1 H1∧RowI H0 H1 ao x.2)∧x.2.length=n∧0≤x.1∧x.1≤n∧goN lv st en V (n-x.1.toNat) x.1 x.2=W) (fun x=>n-x.1.toNat) (0,V) ?_ ⟨by omega,⟨_,hM1,ha1,fun _ _ h _=>h⟩,hl,Int.le_refl _,by dsimp only;omega,hW⟩ ?_
 ·exact Ho
 clear hW hM1 hn1 ha1
 rintro ⟨k,O⟩ g s1 ⟨hn1,⟨H1,hM1,hI1⟩,hlO,hk0,hk1,hres⟩
 dsimp only at hn1 hI1 hlO hk0 hk1 hres ⊢
 have ho1:=hI1.at_
 have hc1:=hI1.kp _ _ hc0 hco
 have hb1:=hI1.kp _ _ hb0 hbo
 rcases dc (k<(n:Int)) with ⟨hlt,hdl⟩ | ⟨hlt,hdl⟩
 ·rw [show n-k.toNat=(n-(k+1).toNat)+1 by omega] at hres
  simp only [goN] at hres
  refine WC.seq (Rg (Co (Lt (z:=Nl (WC.seq (Ct (z:=WC.skip (WC.seq (WC.block (WC.seq (Rg (Mv (z:=Av (z:=Nl (WC.seq (WC.seq (Rg (Mv (z:=Mv (z:=Co (Ix (z:=Co (Ld (z:=Co ?_))))))))))))))))))))))))
  refine SV.callM rfl rfl (neutralD_sp hX hM1) ?_
  rintro v s2 H2 hn2 hM2 ⟨rfl,eH⟩
  rw [eH] at hM2
  clear eH
  rcases dc (isNeutral (rd V k)) with ⟨hN,hdN⟩ | ⟨hN,hdN⟩
  ·rw [if_pos hN] at hres
   refine Co (Nn (z:=Nl (Cf (z:=WC.skip (WC.seq (WC.dr [0,1,2,3,4,5] (z:=Cd (Fa (z:=Cd (Ld (z:=Cd (Fa (z:=Cd (Ld (z:=Aw (z:=Aw (z:=Nz (WC.seq (WC.seq (Rg (Mv (z:=Av (z:=Nl ?_)))))))))))))))))))))))
   refine WC.mono (Q:=fun e g' ds' s'=>e = .normal∧ds'=[]∧holds g' [(1,.slice (some ⟨c,0,none⟩) n cc),(2,.pointer (some ⟨bx,0,none⟩)),(5,.slice (some ⟨ao,0,none⟩) n n),(6,.int .i64 k),(7,.int .i64 (nlf V st k.toNat)),(8,.int .i64 en),(15,.int .i64 n),(16,.int .i64 k)]∧s.next≤s'.next∧Models ro s' H1) ?_ ?_
   ·refine WC.block ?_
    have hA:nlf V st (k+1).toNat=nlf V st k.toNat:=by rw [nlf_at hk0,if_pos hN]
    generalize nlf V st k.toNat=A at hA
    refine WC.loop (D:=Int) (fun j=>[(1,.slice (some ⟨c,0,none⟩) n cc),(2,.pointer (some ⟨bx,0,none⟩)),(5,.slice (some ⟨ao,0,none⟩) n n),(6,.int .i64 k),(7,.int .i64 st),(8,.int .i64 en),(9,.int .i64 j),(15,.int .i64 n),(16,.int .i64 k)])
     (fun j s6=>s.next≤s6.next∧Models ro s6 H1 ∧ -1≤j∧j≤k∧nlf V st (j+1).toNat=A) (fun j=>(j+1).toNat) k ?_ ⟨by omega,hM2,by omega,Int.le_refl _,hA⟩ ?_
    ·exact Ho
    rintro j g s6 ⟨hn6,hM6,hj0,hj1,hja⟩
    rcases dc (0≤j) with ⟨hj,hdj⟩ | ⟨hj,hdj⟩
    ·rw [nlf_at hj] at hja
     refine WC.seq (WC.seq (Rg (Mv (z:=Co (Ge (z:=Nl (thn_n (Ct (z:=WC.skip (WC.seq (WC.block (WC.seq (Rg (Mv (z:=Mv (z:=Co (Ix (z:=Co (Ld (z:=Co ?_))))))))))))))))))))
     refine SV.callM rfl rfl (neutralD_sp hX hM6) ?_
     rintro v s7 H7 hn7 hM7 ⟨rfl,eH⟩
     rw [eH] at hM7
     clear eH
     rcases dc (isNeutral (rd V j)) with ⟨hNj,hdNj⟩ | ⟨hNj,hdNj⟩
     ·rw [if_pos hNj] at hja
      refine Co (Nn (z:=Nl (thn_n (Cf (z:=WC.skip (Rg (Mv (z:=Co (Sb (z:=Av (z:=Nl ?_)))))))))))
      exact ⟨rfl,j-1,Ho,⟨by omega,hM7,by omega,by omega,by rw [show j-1+1=j by omega];exact hja⟩,by omega⟩
     ·rw [if_neg hNj] at hja
      refine Co (Nf (z:=Nl (thn_n (Ct (z:=WC.seq (Rg (Mv (z:=Mv (z:=Co (Ix (z:=Co (Ld (z:=Co ?_)))))))))))))
      refine SV.callM rfl rfl (strongD_sp hX hM7) ?_
      rintro v s8 H8 hn8 hM8 ⟨rfl,eH⟩
      rw [eH] at hM8
      clear eH
      refine Av (z:=Nl (WC.exit ?_))
      exact ⟨rfl,rfl,⟨rfl,rfl,rfl,rfl,by rw [←hja];rfl,rfl,rfl,rfl,trivial⟩,by omega,hM8⟩
    ·rw [show (j+1).toNat=0 by omega] at hja
     have hja2:st=A:=hja
     refine WC.seq (WC.seq (Rg (Mv (z:=Co (Ge (z:=Nl (thn_n (Cf (z:=WC.exit ?_)))))))))
     exact ⟨rfl,rfl,⟨rfl,rfl,rfl,rfl,by rw [←hja2];rfl,rfl,rfl,rfl,trivial⟩,by omega,hM6⟩
   rintro e g2 ds2 s2 ⟨rfl,rfl,hg2,hn2,hM2⟩
   rw [←over_same hg2]
   refine thn_n (WC.seq (WC.seq (Rg (Mv (z:=Av (z:=Nl ?_))))))
   refine WC.mono (Q:=fun e g' ds' s'=>e = .normal∧ds'=[]∧holds g' [(1,.slice (some ⟨c,0,none⟩) n cc),(2,.pointer (some ⟨bx,0,none⟩)),(5,.slice (some ⟨ao,0,none⟩) n n),(6,.int .i64 k),(7,.int .i64 (nlf V st k.toNat)),(8,.int .i64 (nrg V en k)),(15,.int .i64 n),(16,.int .i64 k)]∧s.next≤s'.next∧Models ro s' H1) ?_ ?_
   ·refine WC.block ?_
    have hA:nrg V en k=nrg V en k:=rfl
    generalize hAA:nrg V en k=A at hA
    clear hA
    refine WC.loop (D:=Int) (fun j=>[(1,.slice (some ⟨c,0,none⟩) n cc),(2,.pointer (some ⟨bx,0,none⟩)),(5,.slice (some ⟨ao,0,none⟩) n n),(6,.int .i64 k),(7,.int .i64 (nlf V st k.toNat)),(8,.int .i64 en),(10,.int .i64 j),(15,.int .i64 n),(16,.int .i64 k)])
     (fun j s6=>s.next≤s6.next∧Models ro s6 H1∧0≤j∧j≤n∧nrg V en j=A) (fun j=>n-j.toNat) k ?_ ⟨by omega,hM2,by omega,by omega,hAA⟩ ?_
    ·exact Ho
    rintro j g s6 ⟨hn6,hM6,hj0,hj1,hja⟩
    rcases dc (j<(n:Int)) with ⟨hj,hdj⟩ | ⟨hj,hdj⟩
    ·rw [nrg_at hj0 (by omega)] at hja
     refine WC.seq (WC.seq (Rg (Mv (z:=Mv (z:=Co (Ln (z:=Co (Lt (z:=Nl (thn_n (Ct (z:=WC.skip (WC.seq (WC.block (WC.seq (Rg (Mv (z:=Mv (z:=Co (Ix (z:=Co (Ld (z:=Co ?_)))))))))))))))))))))))
     refine SV.callM rfl rfl (neutralD_sp hX hM6) ?_
     rintro v s7 H7 hn7 hM7 ⟨rfl,eH⟩
     rw [eH] at hM7
     clear eH
     rcases dc (isNeutral (rd V j)) with ⟨hNj,hdNj⟩ | ⟨hNj,hdNj⟩
     ·rw [if_pos hNj] at hja
      refine Co (Nn (z:=Nl (thn_n (Cf (z:=WC.skip (Rg (Mv (z:=Co (Ad (z:=Av (z:=Nl ?_)))))))))))
      exact ⟨rfl,j+1,Ho,⟨by omega,hM7,by omega,by omega,hja⟩,by omega⟩
     ·rw [if_neg hNj] at hja
      refine Co (Nf (z:=Nl (thn_n (Ct (z:=WC.seq (Rg (Mv (z:=Mv (z:=Co (Ix (z:=Co (Ld (z:=Co ?_)))))))))))))
      refine SV.callM rfl rfl (strongD_sp hX hM7) ?_
      rintro v s8 H8 hn8 hM8 ⟨rfl,eH⟩
      rw [eH] at hM8
      clear eH
      refine Av (z:=Nl (WC.exit ?_))
      exact ⟨rfl,rfl,⟨rfl,rfl,rfl,rfl,rfl,by rw [←hja];rfl,rfl,rfl,trivial⟩,by omega,hM8⟩
    ·rw [nrg_end (by omega)] at hja
     refine WC.seq (WC.seq (Rg (Mv (z:=Mv (z:=Co (Ln (z:=Co (Lt (z:=Nl (thn_n (Cf (z:=WC.exit ?_))))))))))))
     exact ⟨rfl,rfl,⟨rfl,rfl,rfl,rfl,rfl,by rw [←hja];rfl,rfl,rfl,trivial⟩,by omega,hM6⟩
   rintro e g3 ds3 s3 ⟨rfl,rfl,hg3,hn3,hM3⟩
   rw [←over_same hg3]
   refine thn_n ?_
   have hnv:nvD lv st en V k=if nlf V st k.toNat=nrg V en k then nlf V st k.toNat else lv.tmod 2:=rfl
   generalize nlf V st k.toNat=A at hnv
   generalize nrg V en k=B at hnv
   refine WC.seq (Rg (Mv (z:=Mv (z:=Co (Fa (z:=Co (Ld (z:=Co (Rm (z:=Co (Ix (z:=WO.cons0 (Sv (z:=fun s17_6 hn17_6 hM17_6=>Nl ?_))))))))))))))
   obtain ⟨H4,hM4,hI4⟩:=hI1.put hM17_6 (by omega) (by omega)
   clear hM17_6
   have ho4:=hI4.at_
   have hl4:(O.set k.toNat (lv.tmod 2)).length=n:=by rw [List.length_set];exact hlO
   refine WC.seq (Rg (Mv (z:=Mv (z:=Co (Ei (z:=Nl ?_))))))
   refine WC.condD rfl (fun hab habb=>?_) (fun hab habb=>?_)
   ·rw [hnv,if_pos hab] at hres
    refine Rg (Mv (z:=Mv (z:=Mv (z:=Co (Ix (z:=WO.cons0 (Sv (z:=fun s19_4 hn19_4 hM19_4=>Nl ?_))))))))
    obtain ⟨H5,hM5,hI5⟩:=hI4.put hM19_4 (by omega) (by omega)
    rw [List.set_set] at hI5
    refine Rg (Co (Ad (z:=Mv (z:=Nl ?_))))
    exact ⟨rfl,(k+1,O.set k.toNat A),Ho,⟨by omega,⟨_,hM5,hI5⟩,by dsimp only;rw [List.length_set];exact hlO,by dsimp only;omega,by dsimp only;omega,hres⟩,by dsimp only;omega⟩
   ·rw [hnv,if_neg hab] at hres
    refine WC.skip (Rg (Co (Ad (z:=Mv (z:=Nl ?_)))))
    exact ⟨rfl,(k+1,O.set k.toNat (lv.tmod 2)),Ho,⟨by omega,⟨_,hM4,hI4⟩,hl4,by dsimp only;omega,by dsimp only;omega,hres⟩,by dsimp only;omega⟩
  ·rw [if_neg hN] at hres
   refine Co (Nf (z:=Nl (Ct (z:=WC.exit (Rg (Co (Ad (z:=Mv (z:=Nl ?_)))))))))
   exact ⟨rfl,(k+1,O),Ho,⟨by omega,⟨_,hM2,hI1⟩,hlO,by dsimp only;omega,by dsimp only;omega,hres⟩,by dsimp only;omega⟩
 rw [show n-k.toNat=0 by omega] at hres
 have hres2:O=W:=hres
 subst hres2
 refine WC.seq (Rg (Co (Lt (z:=Nl (WC.seq (Cf (z:=WC.exit (WC.seq (Rg (Mv (z:=Av (z:=Nl (WC.ret ?_)))))))))))))
 exact fin_one (e:=.ret) (v:=.slice _ _ _) rfl trivial rfl (by omega) hM1 ⟨ao,rfl,fun ν o e=>⟨hI1.kp _ _ (hkp1 _ _ (kpa _ _ e)).1 (hkp1 _ _ (kpa _ _ e)).2,(hkp1 _ _ (kpa _ _ e)).2⟩,hI1.at_⟩
end Go.Proofs.Ythkklpegjcnjoaa
