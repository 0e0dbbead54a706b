/- A part of the proof: no condition but those that each theorem states. -/
import Derived.Test.YthkklpegjcnjoaaLgT
import Derived.Test.YthkklpegjcnjoaaTC
set_option linter.unusedVariables false
set_option linter.unusedSimpArgs false
namespace Go.Proofs.Ythkklpegjcnjoaa
open Go.Ab
variable {X:CallE} {ro:Nat}
set_option maxRecDepth 10000
def SlE (H:Hp) (v:Value) (L:List Value):Prop:=(v = .slice none 0 0∧L=[])∨(L≠[]∧∃ a,v = .slice (some ⟨a,0,none⟩) L.length L.length∧H a=some (.row 1 L))
theorem SlE.toO {H:Hp} {v:Value} {L:List Value} (h:SlE H v L):SlO H v 1 L.length L:=by
 rcases h with ⟨rfl,rfl⟩ | ⟨_,a,rfl,h⟩
 ·exact .inl ⟨rfl,rfl,rfl⟩
 ·exact .inr ⟨a,L.length,L,rfl,h,by simp,Nat.le_refl _,by simp⟩
theorem SlE.base {H:Hp} {v:Value} {L:List Value} (h:SlE H v L) {μ:Nat} (e:baseV v=some μ):L≠[]∧H μ=some (.row 1 L):=by
 rcases h with ⟨rfl,rfl⟩ | ⟨h0,a,rfl,h⟩
 ·cases e
 ·cases e;exact ⟨h0,h⟩
theorem SlE.keep {H H1:Hp} {v:Value} {L:List Value} (h:SlE H v L) (hk:∀ ν o,baseV v=some ν→H ν=some o→H1 ν=some o):SlE H1 v L:=by
 rcases h with h | ⟨h0,a,rfl,h⟩
 ·exact .inl h
 ·exact .inr ⟨h0,a,rfl,hk _ _ rfl h⟩
theorem SlE.app {H H0 H1:Hp} {v v':Value} {L xs:List Value} {m:Nat} (h:SlE H v L) (hx:xs≠[]) (hm:m=xs.length) (ha:AppEx H0 H1 v v' 1 L.length (L.length+m) (L++xs)):SlE H1 v' (L++xs):=by
 have hl:0<xs.length:=List.length_pos_iff.mpr hx
 have hc:∃ A l c,v = .slice A l c∧c<L.length+m:=by
  rcases h with ⟨rfl,rfl⟩ | ⟨_,a,rfl,h⟩
  ·exact ⟨_,_,_,rfl,by omega⟩
  ·exact ⟨_,_,_,rfl,by omega⟩
 obtain ⟨A,l,c,e,hc⟩:=hc
 obtain ⟨a,e1,e2⟩:=ha.2.1 A l c e hc
 exact .inr ⟨fun e=>hx (List.append_eq_nil_iff.mp e).2,a,by rw [e1,List.length_append,hm],e2⟩
def ptrV (q:Nat):Value:=.pointer (some ⟨q,0,none⟩)
structure SQ where
 (q:Nat) (v:Value) (A:List Int) (lv st en:Int)
instance:Inhabited SQ:=⟨⟨0,.slice none 0 0,[],0,0,0⟩⟩
def rowQ (t:Nat) (r:SQ):List Value:=[ptrV t,r.v,.int .i64 r.lv,.int .i64 r.st,.int .i64 r.en]
structure SeqsI (ro:Nat) (s1:St) (H0 H1:Hp) (t am:Nat) (Lm:List (Int×Value)) (vo:Value) (R:List SQ) (G:Int→Option Nat):Prop where
 md:Models ro s1 H1
 kp:∀ ν o,H0 ν=some o→H1 ν=some o
 mp:H1 am=some (.map (encM Lm))
 am0:∀ ν o,H0 ν=some o→ν≠am
 mg:∀ k,mget Lm k=(G k).map fun i=>ptrV (R.getD i default).q
 gl:∀ k i,G k=some i→i<R.length
 out:SlE H1 vo (R.map fun r=>ptrV r.q)
 no:∀ ν o,H0 ν=some o→baseV vo≠some ν
 rc:∀ i (h:i<R.length),(∃ es,H1 R[i].q=some (.row es (rowQ t R[i])))∧SlE H1 R[i].v (R[i].A.map (.int .i64))
 nq:∀ i (h:i<R.length),∀ ν o,H0 ν=some o→ν≠R[i].q∧baseV R[i].v≠some ν
 dq:∀ i j (hi:i<R.length) (hj:j<R.length),R[i].q=R[j].q→i=j
 dv:∀ i j (hi:i<R.length) (hj:j<R.length) (μ:Nat),baseV R[i].v=some μ→baseV R[j].v=some μ→i=j
section
variable {s1 s2:St} {H0 H1 H2:Hp} {t am:Nat} {Lm:List (Int×Value)} {vo:Value} {R:List SQ} {G:Int→Option Nat}
theorem SeqsI.v_q (h:SeqsI ro s1 H0 H1 t am Lm vo R G) {i j:Nat} (hi:i<R.length) (hj:j<R.length):baseV R[i].v≠some R[j].q:=fun e=>by
 obtain ⟨es,h1⟩:=(h.rc j hj).1
 obtain ⟨h2,h3⟩:=(h.rc i hi).2.base e
 rw [h1] at h3
 cases hA:R[i].A with
 | nil=>rw [hA] at h2;exact h2 rfl
 | cons x A=>rw [hA] at h3;simp only [rowQ,ptrV,List.map_cons,Option.some.injEq,Go.Ab.Obj.row.injEq,List.cons.injEq] at h3;exact absurd h3.2.1 (by intro h;cases h)
theorem SeqsI.o_q (h:SeqsI ro s1 H0 H1 t am Lm vo R G) {j:Nat} (hj:j<R.length):baseV vo≠some R[j].q:=fun e=>by
 obtain ⟨es,h1⟩:=(h.rc j hj).1
 obtain ⟨h2,h3⟩:=h.out.base e
 rw [h1] at h3
 have h4:(rowQ t R[j])[2]?=(R.map fun r=>ptrV r.q)[2]?:=by rw [Option.some.injEq,Go.Ab.Obj.row.injEq] at h3;rw [h3.2]
 simp only [rowQ,List.getElem?_map] at h4
 cases hR:R[2]? with
 | none=>rw [hR] at h4;cases h4
 | some r=>rw [hR] at h4;simp [ptrV] at h4
theorem SeqsI.o_v (h:SeqsI ro s1 H0 H1 t am Lm vo R G) {i:Nat} (hi:i<R.length) {μ:Nat} (e:baseV vo=some μ):baseV R[i].v≠some μ:=fun e2=>by
 obtain ⟨h1,h2⟩:=h.out.base e
 obtain ⟨h3,h4⟩:=(h.rc i hi).2.base e2
 rw [h2] at h4
 cases hA:R[i].A with
 | nil=>rw [hA] at h3;exact h3 rfl
 | cons x A=>cases hR:R with
  | nil=>rw [hR] at h1;exact h1 rfl
  | cons r R'=>
   have h5:(R.map fun r=>ptrV r.q)[0]?=(R[i].A.map (Value.int .i64))[0]?:=by rw [Option.some.injEq,Go.Ab.Obj.row.injEq] at h4;rw [h4.2]
   rw [hA] at h5
   simp [hR,ptrV] at h5
theorem SeqsI.m_q (h:SeqsI ro s1 H0 H1 t am Lm vo R G) {j:Nat} (hj:j<R.length):am≠R[j].q:=fun e=>by
 obtain ⟨es,h1⟩:=(h.rc j hj).1
 rw [←e,h.mp] at h1;cases h1
theorem SeqsI.m_v (h:SeqsI ro s1 H0 H1 t am Lm vo R G) {j:Nat} (hj:j<R.length):baseV R[j].v≠some am:=fun e=>by
 have h1:=((h.rc j hj).2.base e).2
 rw [h.mp] at h1;cases h1
theorem SeqsI.m_o (h:SeqsI ro s1 H0 H1 t am Lm vo R G):baseV vo≠some am:=fun e=>by
 have h1:=(h.out.base e).2
 rw [h.mp] at h1;cases h1
theorem SeqsI.setR (h:SeqsI ro s1 H0 H1 t am Lm vo R G) {i:Nat} (hi:i<R.length) {r':SQ} {es:Nat} (hM:Models ro s2 H2) (hk:∀ μ o,H1 μ=some o→μ≠R[i].q→baseV R[i].v≠some μ→H2 μ=some o)
 (hq:H2 R[i].q=some (.row es (rowQ t r'))) (hrq:r'.q=R[i].q) (hv:SlE H2 r'.v (r'.A.map (.int .i64))) (hn:∀ μ,baseV r'.v=some μ→baseV R[i].v=some μ∨H1 μ=none):SeqsI ro s2 H0 H2 t am Lm vo (R.set i r') G:=by
 have hl:(R.set i r').length=R.length:=List.length_set
 have get:∀ j (hj:j<R.length),(R.set i r')[j]'(by rw [hl];exact hj)=if i=j then r' else R[j]:=fun j hj=>List.getElem_set _
 have qs:∀ j (hj:j<R.length),((R.set i r')[j]'(by rw [hl];exact hj)).q=R[j].q:=fun j hj=>by
  rw [get j hj];split
  ·rename_i e;subst e;exact hrq
  ·rfl
 have mapq:(R.set i r').map (fun r=>ptrV r.q)=R.map (fun r=>ptrV r.q):=by
  apply List.ext_getElem?
  intro j
  rw [List.getElem?_map,List.getElem?_map]
  by_cases hj:j<R.length
  ·rw [List.getElem?_eq_getElem (by rw [hl];exact hj),List.getElem?_eq_getElem hj]
   simp only [Option.map_some,qs j hj]
  ·rw [List.getElem?_eq_none (by rw [hl];omega),List.getElem?_eq_none (by omega)]
 have newv:∀ μ o,H1 μ=some o→baseV R[i].v≠some μ→baseV r'.v≠some μ:=fun μ o e1 e2 e3=>by
  rcases hn μ e3 with e | e
  ·exact e2 e
  ·rw [e1] at e;cases e
 have kp0:∀ ν o,H0 ν=some o→H2 ν=some o:=fun ν o e=>hk ν o (h.kp ν o e) (h.nq i hi ν o e).1 (h.nq i hi ν o e).2
 refine { md:=hM,kp:=kp0,mp:=hk _ _ h.mp (h.m_q hi) (h.m_v hi),am0:=h.am0,mg:=fun k=>?_,gl:=fun k j e=>by rw [hl];exact h.gl k j e,out:=?_,no:=h.no,rc:=fun j hj=>?_,nq:=fun j hj ν o e=>?_,dq:=fun a b ha hb e=>?_,dv:=fun a b ha hb μ e1 e2=>?_ }
 ·rw [h.mg k]
  cases hG:G k with
  | none=>rfl
  | some j=>
   have hj:=h.gl k j hG
   simp only [Option.map_some]
   rw [List.getD_eq_getElem?_getD,List.getD_eq_getElem?_getD,List.getElem?_eq_getElem (l:=R.set i r') (by rw [hl];exact hj),List.getElem?_eq_getElem (l:=R) hj]
   simp only [Option.getD_some,qs j hj]
 ·rw [mapq]
  exact h.out.keep fun ν o e1 e2=>hk ν o e2 (fun e=>h.o_q hi (by rw [←e];exact e1)) (h.o_v hi e1)
 ·rw [hl] at hj
  rw [get j hj]
  split
  ·refine ⟨⟨es,?_⟩,hv⟩
   rw [hrq];exact hq
  ·rename_i hne
   obtain ⟨⟨e0,h1⟩,h2⟩:=h.rc j hj
   exact ⟨⟨e0,hk _ _ h1 (fun e=>hne (h.dq i j hi hj e.symm)) (h.v_q hi hj)⟩,
    h2.keep fun ν o e1 e2=>hk ν o e2 (fun e=>h.v_q hj hi (by rw [←e];exact e1)) (fun e=>hne (h.dv i j hi hj ν e e1))⟩
 ·rw [hl] at hj
  refine ⟨by rw [qs j hj];exact (h.nq j hj ν o e).1,?_⟩
  rw [get j hj]
  split
  ·exact newv ν o (h.kp ν o e) (h.nq i hi ν o e).2
  ·exact (h.nq j hj ν o e).2
 ·rw [hl] at ha hb
  rw [qs a ha,qs b hb] at e
  exact h.dq a b ha hb e
 ·rw [hl] at ha hb
  rw [get a ha] at e1
  rw [get b hb] at e2
  have key:∀ j (hj:j<R.length),i≠j→baseV r'.v=some μ→baseV R[j].v=some μ→False:=fun j hj hne e1 e2=>by
   have h1:=((h.rc j hj).2.base e2).2
   rcases hn μ e1 with e | e
   ·exact hne (h.dv i j hi hj μ e e2)
   ·rw [h1] at e;cases e
  by_cases ea:i=a
  ·by_cases eb:i=b
   ·omega
   ·rw [if_pos ea] at e1;rw [if_neg eb] at e2
    exact (key b hb eb e1 e2).elim
  ·rw [if_neg ea] at e1
   by_cases eb:i=b
   ·rw [if_pos eb] at e2
    exact (key a ha ea e2 e1).elim
   ·rw [if_neg eb] at e2
    exact h.dv a b ha hb μ e1 e2
theorem SeqsI.addR (h:SeqsI ro s1 H0 H1 t am Lm vo R G) {r':SQ} {es:Nat} {vo':Value} (hM:Models ro s2 H2) (hk:∀ μ o,H1 μ=some o→baseV vo≠some μ→H2 μ=some o) (hf:H1 r'.q=none)
 (hq:H2 r'.q=some (.row es (rowQ t r'))) (hv:r'.v = .slice none 0 0) (hA:r'.A=[]) (ho:SlE H2 vo' (R.map (fun r=>ptrV r.q)++[ptrV r'.q])) (hn:∀ μ,baseV vo'=some μ→baseV vo=some μ∨H1 μ=none):SeqsI ro s2 H0 H2 t am Lm vo' (R++[r']) G:=by
 have kp0:∀ ν o,H0 ν=some o→H2 ν=some o:=fun ν o e=>hk ν o (h.kp ν o e) (h.no ν o e)
 have get:∀ j (hj:j<(R++[r']).length),(∃ hj':j<R.length,(R++[r'])[j]=R[j])∨(j=R.length∧(R++[r'])[j]=r'):=fun j hj=>by
  by_cases h1:j<R.length
  ·exact .inl ⟨h1,List.getElem_append_left h1⟩
  ·have h2:j=R.length:=by rw [List.length_append,List.length_singleton] at hj;omega
   subst h2
   exact .inr ⟨rfl,by simp⟩
 have hbn:baseV r'.v=none:=by rw [hv];rfl
 refine { md:=hM,kp:=kp0,mp:=hk _ _ h.mp h.m_o,am0:=h.am0,mg:=fun k=>?_,gl:=fun k j e=>by have:=h.gl k j e;rw [List.length_append];omega,out:=by rw [List.map_append];exact ho,no:=fun ν o e e2=>?_,rc:=fun j hj=>?_,nq:=fun j hj ν o e=>?_,dq:=fun a b ha hb e=>?_,dv:=fun a b ha hb μ e1 e2=>?_ }
 ·rw [h.mg k]
  cases hG:G k with
  | none=>rfl
  | some j=>
   have hj:=h.gl k j hG
   simp only [Option.map_some]
   rw [List.getD_eq_getElem?_getD,List.getD_eq_getElem?_getD,List.getElem?_append_left hj]
 ·rcases hn ν e2 with e3 | e3
  ·exact h.no ν o e e3
  ·rw [h.kp ν o e] at e3;cases e3
 ·rcases get j hj with ⟨hj',e⟩ | ⟨_,e⟩
  ·rw [e]
   obtain ⟨⟨e0,h1⟩,h2⟩:=h.rc j hj'
   exact ⟨⟨e0,hk _ _ h1 (h.o_q hj')⟩,h2.keep fun ν o e1 e2=>hk ν o e2 (fun e3=>h.o_v hj' e3 e1)⟩
  ·rw [e]
   exact ⟨⟨es,hq⟩,.inl ⟨hv,by rw [hA];rfl⟩⟩
 ·rcases get j hj with ⟨hj',e1⟩ | ⟨_,e1⟩
  ·rw [e1];exact h.nq j hj' ν o e
  ·rw [e1]
   refine ⟨fun e2=>?_,by rw [hbn];intro h;cases h⟩
   have:=h.kp ν o e
   rw [e2,hf] at this;cases this
 ·rcases get a ha with ⟨ha',e1⟩ | ⟨e0,e1⟩ <;> rcases get b hb with ⟨hb',e2⟩ | ⟨e3,e2⟩ <;> rw [e1,e2] at e
  ·exact h.dq a b ha' hb' e
  ·obtain ⟨_,h1⟩:=(h.rc a ha').1
   rw [e,hf] at h1;cases h1
  ·obtain ⟨_,h1⟩:=(h.rc b hb').1
   rw [←e,hf] at h1;cases h1
  ·omega
 ·rcases get a ha with ⟨ha',e3⟩ | ⟨e0,e3⟩ <;> rcases get b hb with ⟨hb',e4⟩ | ⟨e5,e4⟩ <;> rw [e3] at e1 <;> rw [e4] at e2
  ·exact h.dv a b ha' hb' μ e1 e2
  ·rw [hbn] at e2;cases e2
  ·rw [hbn] at e1;cases e1
  ·omega
theorem SeqsI.put (h:SeqsI ro s1 H0 H1 t am Lm vo R G) {i:Nat} (hi:i<R.length) {k:Int} (hM:Models ro s2 (H1.up am (.map (encM (mput Lm k (ptrV R[i].q)))))) :
 SeqsI ro s2 H0 (H1.up am (.map (encM (mput Lm k (ptrV R[i].q))))) t am (mput Lm k (ptrV R[i].q)) vo R (fun x=>if x=k then some i else G x):=by
 refine { md:=hM,kp:=fun ν o e=>Hp.up_ne (h.am0 ν o e) (h.kp ν o e),mp:=Hp.up_same,am0:=h.am0,mg:=fun x=>?_,gl:=fun x j e=>?_,out:=h.out.keep fun ν o e1 e2=>Hp.up_ne (fun e=>h.m_o (by rw [←e];exact e1)) e2,no:=h.no,rc:=fun j hj=>?_,nq:=h.nq,dq:=h.dq,dv:=h.dv }
 ·rw [mget_mput]
  by_cases e:x=k
  ·rw [if_pos e,if_pos e,Option.map_some,List.getD_eq_getElem?_getD,List.getElem?_eq_getElem hi];rfl
  ·rw [if_neg e,if_neg e];exact h.mg x
 ·split at e
  ·cases e;exact hi
  ·exact h.gl x j e
 ·obtain ⟨⟨e0,h1⟩,h2⟩:=h.rc j hj
  exact ⟨⟨e0,Hp.up_ne (Ne.symm (h.m_q hj)) h1⟩,h2.keep fun ν o e1 e2=>Hp.up_ne (fun e=>h.m_v hj (by rw [←e];exact e1)) e2⟩
theorem SeqsI.step (h:SeqsI ro s1 H0 H1 t am Lm vo R G) (hM:Models ro s2 H1):SeqsI ro s2 H0 H1 t am Lm vo R G:={ h with md:=hM }
end
def orderM (F:List Int):Nat→Int→List Int→List Int
 | 0,_,O=>O
 | r+1,i,O=>orderM F r (i+1) (if isRemoved (rd F i) then O else O++[i])
def runEnd (F L O:List Int) (k:Int):Nat→Int→Int
 | 0,j=>j
 | r+1,j=>if rd L (rd O j)=rd L (rd O k)∧(j=k∨rd F (rd O (j-1))≠10) then runEnd F L O k r (j+1) else j
theorem runEnd_ge {F L O:List Int} {k:Int}:∀ (r:Nat) (j:Int),j≤runEnd F L O k r j∧runEnd F L O k r j≤j+r
 | 0,j=>by simp [runEnd]
 | r+1,j=>by
  simp only [runEnd]
  split
  ·have:=runEnd_ge (F:=F) (L:=L) (O:=O) (k:=k) r (j+1);push_cast;omega
  ·push_cast;omega
theorem runEnd_gt {F L O:List Int} {k:Int} {r:Nat} (h:0<r):k<runEnd F L O k r k:=by
 obtain ⟨r,rfl⟩:∃ m,r=m+1:=⟨r-1,by omega⟩
 simp only [runEnd]
 rw [if_pos ⟨trivial,.inl trivial⟩]
 have:=(runEnd_ge (F:=F) (L:=L) (O:=O) (k:=k) r (k+1)).1
 omega
structure SE where
 (A:List Int) (lv st en:Int)
instance:Inhabited SE:=⟨⟨[],0,0,0⟩⟩
def maxI (a b:Int):Int:=if a<b then b else a
def partI (O:List Int) (k j:Int):List Int:=(O.drop k.toNat).take (j.toNat-k.toNat)
def beforeM (F L:List Int) (b:Int) (O:List Int) (k:Int):Int:=if 0<k∧rd F (rd O (k-1))≠10 then rd L (rd O (k-1)) else b
def afterM (F L:List Int) (b:Int) (O:List Int) (j:Int):Int:=if j<O.length∧¬isOpener (rd F (rd O (j-1)))∧rd F (rd O (j-1))≠10 then rd L (rd O j) else b
def newE (F L:List Int) (b:Int) (O:List Int) (k:Int):SE:=⟨[],rd L (rd O k),maxI (rd L (rd O k)) (beforeM F L b O k)%2,0⟩
def growE (F L:List Int) (b:Int) (O:List Int) (k j:Int) (e:SE):SE:=⟨e.A++partI O k j,e.lv,e.st,maxI e.lv (afterM F L b O j)%2⟩
def openG (F M O:List Int) (j:Int) (i:Nat) (G:Int→Option Nat):Int→Option Nat:=
 if isOpener (rd F (rd O (j-1)))∧0≤rd M (rd O (j-1)) then fun x=>if x=rd M (rd O (j-1)) then some i else G x else G
def stepE (F L:List Int) (b:Int) (O:List Int) (k j:Int) (i:Nat) (E:List SE):List SE:=E.set i (growE F L b O k j (E.getD i default))
def seqsM (F L M:List Int) (b:Int) (O:List Int):Nat→Int→List SE→(Int→Option Nat)→List SE
 | 0,_,E,_=>E
 | n+1,k,E,G=>
  if k<O.length then
   let j:=runEnd F L O k (O.length-k.toNat) k
   match G (rd O k) with
   | some i=>seqsM F L M b O n j (stepE F L b O k j i E) (openG F M O j i G)
   | none=>seqsM F L M b O n j (stepE F L b O k j E.length (E++[newE F L b O k])) (openG F M O j E.length G)
  else E
def sequencesM (F L M:List Int) (b:Int):List SE:=
 seqsM F L M b (orderM F F.length 0 []) ((orderM F F.length 0 []).length+1) 0 [] (fun _=>none)
def seE (r:SQ):SE:=⟨r.A,r.lv,r.st,r.en⟩
structure OrdI (ro:Nat) (s1:St) (H H1:Hp) (v:Value) (i:Int) (O:List Int):Prop where
 md:Models ro s1 H1
 kp:∀ ν o,H ν=some o→H1 ν=some o
 sl:SlE H1 v (O.map (.int .i64))
 no:∀ ν o,H ν=some o→baseV v≠some ν
 ok:∀ x∈O,0≤x∧x<i
 ln:(O.length:Int)≤i
theorem OrdI.next {s1 s2:St} {H H1 H2:Hp} {v v':Value} {i:Int} {O:List Int} {a:Nat} {x:Go.Ab.Obj} (h:OrdI ro s1 H H1 v i O) (h0:0≤i) (ha:∀ ν o,H1 ν=some o→ν≠a) (hM:Models ro s2 H2) (hk:KeptBut (H1.up a x) H2 v) (hn:NewOr (H1.up a x) v v')
 (hx:AppEx (H1.up a x) H2 v v' 1 O.length (O.length+1) (O.map (.int .i64)++[.int .i64 i])):OrdI ro s2 H H2 v' (i+1) (O++[i]) where
 md:=hM
 kp:=fun ν o e=>hk ν o (Hp.up_ne (ha ν o (h.kp ν o e)) (h.kp ν o e)) (h.no ν o e)
 sl:=by
  have hl:(O.map (Value.int .i64)).length=O.length:=List.length_map _
  have:=SlE.app (H0:=H1.up a x) (H1:=H2) (v':=v') (xs:=[.int .i64 i]) (m:=1) h.sl (by simp) rfl (by rw [hl];exact hx)
  simpa using this
 no:=fun ν o e e2=>by
  rcases hn ν e2 with e3 | e3
  ·exact h.no ν o e e3
  ·rw [Hp.up_ne (ha ν o (h.kp ν o e)) (h.kp ν o e)] at e3;cases e3
 ok:=fun y hy=>by
  rcases List.mem_append.mp hy with hy | hy
  ·have:=h.ok y hy;omega
  ·rw [List.mem_singleton] at hy;omega
 ln:=by have:=h.ln;rw [List.length_append,List.length_singleton];omega
structure SeqsL (n:Nat) (R:List SQ) (k:Int):Prop where
 ln:(R.length:Int)≤k
 al:∀ i (h:i<R.length),(R[i].A.length:Int)≤k∧R[i].A≠[]∧∀ x∈R[i].A,0≤x∧x<n
theorem SeqsI.weaken {s1:St} {H0 H00 H1:Hp} {t am:Nat} {Lm:List (Int×Value)} {vo:Value} {R:List SQ} {G:Int→Option Nat} (h:SeqsI ro s1 H0 H1 t am Lm vo R G) (hk:∀ ν o,H00 ν=some o→H0 ν=some o):SeqsI ro s1 H00 H1 t am Lm vo R G:=
 { h with kp:=fun ν o e=>h.kp ν o (hk ν o e),am0:=fun ν o e=>h.am0 ν o (hk ν o e),no:=fun ν o e=>h.no ν o (hk ν o e),nq:=fun i hi ν o e=>h.nq i hi ν o (hk ν o e) }
theorem zero57:zeroOf Try.prog 57=some (.pointer none):=by kernel_rfl
set_option maxHeartbeats 8000000 in
theorem sequences_sp {Y:Exts} {s:St} {H:Hp} {D:TD} (hX:ExtOk X ro Y) (hM:Models ro s H) (hT:TextH H D) :
 Sp X Try.prog ro 39 [.pointer (some ⟨D.t,0,none⟩)] s fun v H'=>∃ (R:List SQ) (s':St) (am:Nat) (Lm:List (Int×Value)) (G:Int→Option Nat),SeqsI ro s' H H' D.t am Lm v R G∧SeqsL D.n R D.n∧R.map seE=sequencesM D.F D.L D.M D.b:=by
 have hbig:=hT.big
 have hX0:=hX.own
 have hnF:=hT.nF
 obtain ⟨e,cc,cf,cw,cl,cm,ht⟩:=hT.t
 refine Bo hX.own Try.func39 Try.ntmps39 (z:=?_)
 refine WC.seq (Rg (Av (z:=Nl (WC.seq (Rg (Av (z:=Nl (WC.seq (WC.seq (Rg (Mv (z:=Co (Np (z:=Co (Fa (z:=Co (Ld (z:=Co (Ln (z:=Mv (z:=Nl (WC.block ?_))))))))))))))))))))))
 unfold sequencesM
 generalize hOR:orderM D.F D.F.length 0 []=OR
 refine WC.loop (D:=Int×Value×List Int) (fun x=>[(0,.pointer (some ⟨D.t,0,none⟩)),(2,.slice none 0 0),(3,x.2.1),(18,.slice (some ⟨D.f,0,none⟩) D.n cf),(19,.int .i64 D.n),(20,.int .i64 x.1)])
  (fun x s1=>s.next≤s1.next∧0≤x.1∧x.1≤D.n∧orderM D.F (D.n-x.1.toNat) x.1 x.2.2=OR∧∃ H1,OrdI ro s1 H H1 x.2.1 x.1 x.2.2)
  (fun x=>D.n-x.1.toNat) (0,.slice none 0 0,[]) ?_ ⟨Nat.le_refl _,Int.le_refl _,by simp,by rw [←hOR,hnF];rfl,H,{ md:=hM,kp:=fun _ _ h=>h,sl:=.inl ⟨rfl,rfl⟩,no:=fun _ _ _ h=>(by cases h),ok:=fun x h=>(by cases h),ln:=by simp }⟩ ?_
 ·exact Ho
 rintro ⟨i,vO,O⟩ g s1 ⟨hn1,hi0,hi1,hres,H1,hI⟩
 dsimp only at hn1 hi0 hi1 hres hI ⊢
 have hM1:=hI.md
 have hf1:=hI.kp _ _ hT.f
 refine WC.seq (Rg (Co (Lt (z:=Nl (WC.seq ?_)))))
 refine WC.condD rfl (fun hlt hltb=>?_) (fun hlt hltb=>?_)
 ·rw [show D.n-i.toNat=(D.n-(i+1).toNat)+1 by omega] at hres
  simp only [orderM] at hres
  have hol:=hI.ln
  refine WC.skip (WC.seq (WC.block (WC.seq (Rg (Mv (z:=Co (Ix (z:=Co (Ld (z:=Av (z:=Av (z:=Nl (WC.seq (Rg (Mv (z:=Co ?_))))))))))))))))
  refine SV.callM rfl rfl (removed_sp hX0 hM1) ?_
  rintro v s2 H2 hn2 hM2 ⟨rfl,rfl⟩
  refine WO.cons (SV.notD rfl ?_) (by decide)
  refine Nl ?_
  refine WC.cond rfl (fun hc=>?_) (fun hc=>?_)
  ·have hr:¬isRemoved (rd D.F i):=by simpa using hc
   rw [if_neg hr] at hres
   refine Rg ?_
   refine WO.cons (SV.move ?_) (by decide)
   refine Mv (z:=Co (Bs (z:=fun a6_2 s6_2 hf6_2 hne6_2 hn6_2 hM6_2=>Co ?_)))
   have hv6:SlO (H2.up a6_2 (.row 1 [.int .i64 i])) vO 1 O.length (O.map (.int .i64)):=by
    have:=hI.sl.toO
    rw [List.length_map] at this
    exact this.up (fun h=>by obtain ⟨o,ho⟩:=hI.sl.toO.base_some h;exact hne6_2 _ _ ho rfl)
   refine SV.appendM (e:=3) (e':=3) (sz:=1) (sz':=1) (n:=O.length) (m:=1) (vs:=O.map (.int .i64)) (xs:=[.int .i64 i]) rfl (by assumption) rfl rfl hv6
    (Src.row Hp.up_same rfl rfl (fun j v h=>by rw [Nat.zero_add];exact h)) rfl (by omega) (fun v8 s8 H8 hn8 hM8 hv8 hk8 hnew8 hex8=>?_)
   refine WO.cons (SV.assign ?_) (by decide)
   refine Nl (Rg (Co (Ad (z:=Mv (z:=Nl ?_)))))
   exact ⟨rfl,(i+1,v8,O++[i]),Ho,⟨by omega,by dsimp only;omega,by dsimp only;omega,hres,_,hI.next hi0 hne6_2 hM8 hk8 hnew8 hex8⟩,by dsimp only;omega⟩
  ·have hr:isRemoved (rd D.F i):=by simpa using hc
   rw [if_pos hr] at hres
   refine WC.skip (Rg (Co (Ad (z:=Mv (z:=Nl ?_)))))
   exact ⟨rfl,(i+1,vO,O),Ho,⟨by omega,by dsimp only;omega,by dsimp only;omega,hres,_,{ hI with md:=hM2,ok:=fun x hx=>(by have:=hI.ok x hx;dsimp only;omega),ln:=(by dsimp only;omega) }⟩,by dsimp only;omega⟩
 ·rw [show D.n-i.toNat=0 by omega] at hres
  simp only [orderM] at hres
  subst hres
  have hi:i=D.n:=by omega
  subst hi
  refine WC.exit (WC.seq (Rg (Av (z:=Nl (WC.seq (Rg ?_))))))
  refine WO.cons (SV.makeMapM (by assumption) (fun a9_0 s9_0 hf9_0 hne9_0 hn9_0 hM9_0=>?_)) (by decide)
  refine Av (z:=Nl (WC.seq (WC.seq (Rg (Av (z:=Nl (WC.block ?_)))))))
  have hkpH:=hI.kp
  have hT1:TextH H1 D:=hT.grow hkpH
  have hok:=hI.ok
  have hln:=hI.ln
  have hslE:=hI.sl
  have hslO:=hI.sl.toO
  rw [List.length_map] at hslO
  have hne9:∀ ν o,H1 ν=some o→ν≠a9_0:=hne9_0
  have hI0:SeqsI ro s9_0 H1 (H1.up a9_0 (.map (encM []))) D.t a9_0 [] (.slice none 0 0) [] (fun _=>none):=
   {md:=hM9_0,kp:=fun ν o e=>Hp.up_fresh hne9 e,mp:=Hp.up_same,am0:=hne9,mg:=fun _=>rfl,gl:=fun _ _ h=>(by cases h),out:=.inl ⟨rfl,rfl⟩,no:=fun _ _ _ h=>(by cases h),rc:=fun i h=>absurd h (by simp),nq:=fun i h=>absurd h (by simp),dq:=fun i j h=>absurd h (by simp),dv:=fun i j h=>absurd h (by simp) }
  generalize hRES:seqsM D.F D.L D.M D.b O (O.length+1) 0 [] (fun _=>none)=RES
  generalize a9_0=am at hI0 ⊢
  clear hM9_0 hI hM1 hf1
  refine WC.loop (D:=Int×Value×List SQ×(Int→Option Nat)) (fun x=>[(0,.pointer (some ⟨D.t,0,none⟩)),(2,.slice none 0 0),(3,vO),(6,x.2.1),(7,.map (some am)),(8,.int .i64 x.1)])
   (fun x s2=>s.next≤s2.next∧0≤x.1∧x.1≤O.length∧(∃ n,O.length+1-x.1.toNat≤n∧seqsM D.F D.L D.M D.b O n x.1 (x.2.2.1.map seE) x.2.2.2=RES)∧SeqsL D.n x.2.2.1 x.1∧∃ Lm H2,SeqsI ro s2 H1 H2 D.t am Lm x.2.1 x.2.2.1 x.2.2.2)
   (fun x=>O.length-x.1.toNat) (0,.slice none 0 0,[],fun _=>none) ?_ ⟨by omega,Int.le_refl _,by simp,⟨_,Nat.le_refl _,hRES⟩,⟨by simp,fun i h=>absurd h (by simp)⟩,_,_,hI0⟩ ?_
  ·exact Ho
  clear hI0
  rintro ⟨k,vo,R,G⟩ g s2 ⟨hn2,hk0,hk1,⟨n,hn,hres⟩,hL,Lm,H2,hI⟩
  dsimp only at hn2 hk0 hk1 hn hres hL hI ⊢
  have hM2:=hI.md
  obtain ⟨n,rfl⟩:∃ m,n=m+1:=⟨n-1,by omega⟩
  rw [seqsM] at hres
  have hsl2:SlO H2 vO 1 O.length (O.map (.int .i64)):=SlO.keep hslO fun ν o _ e=>hI.kp ν o e
  refine WC.seq (WC.seq (Rg (Mv (z:=?_))))
  refine WO.cons (SV.move ?_) (by decide)
  refine Co (Lo (z:=Co (Lt (z:=Nl ?_))))
  refine WC.condD rfl (fun hk hkb=>?_) (fun hk hkb=>?_)
  ·rw [if_pos hk] at hres
   obtain ⟨ao,rfl,hao⟩:∃ ao,vO = .slice (some ⟨ao,0,none⟩) O.length O.length∧H1 ao=some (.row 1 (O.map (.int .i64))):=by
    rcases hslE with ⟨_,h0⟩ | ⟨h0,ao,h1,h2⟩
    ·rw [List.map_eq_nil_iff] at h0;rw [h0] at hk;simp at hk;omega
    ·rw [List.length_map] at h1;exact ⟨ao,h1,h2⟩
   have hJ0:=runEnd_gt (F:=D.F) (L:=D.L) (O:=O) (k:=k) (r:=O.length-k.toNat) (by omega)
   have hJ1:=(runEnd_ge (F:=D.F) (L:=D.L) (O:=O) (k:=k) (O.length-k.toNat) k).2
   generalize hJ:runEnd D.F D.L O k (O.length-k.toNat) k=J at hres hJ0 hJ1
   have hT2:TextH H2 D:=hT1.grow hI.kp
   obtain ⟨e2,cc2,cf2,cw2,cl2,cm2,ht2⟩:=hT2.t
   have hao2:=hI.kp _ _ hao
   have hf2:=hT2.f
   have hl2:=hT2.l
   have hm2:=hT2.m
   have hnL:=hT2.nL
   have hnM:=hT2.nM
   have hat:∀ j:Int,0≤j→j<O.length→0≤rd O j∧rd O j<D.n:=fun j a b=>by
    refine hok _ ?_
    unfold rd
    rw [List.getD_eq_getElem?_getD,List.getElem?_eq_getElem (by omega)]
    exact List.getElem_mem _
   refine WC.skip (WC.block (WC.seq (Rg (Mv (z:=Av (z:=Nl (WC.seq (WC.block ?_))))))))
   refine WC.mono (Q:=fun e g' ds' s'=>e = .exit 4∧ds'=[]∧holds g' [(0,.pointer (some ⟨D.t,0,none⟩)),(2,.slice none 0 0),(3,.slice (some ⟨ao,0,none⟩) O.length O.length),(6,vo),(7,.map (some am)),(8,.int .i64 k),(9,.int .i64 J)]∧s.next≤s'.next∧Models ro s' H2) ?_ ?_
   refine WC.loop (D:=Int) (fun x=>[(0,.pointer (some ⟨D.t,0,none⟩)),(2,.slice none 0 0),(3,.slice (some ⟨ao,0,none⟩) O.length O.length),(6,vo),(7,.map (some am)),(8,.int .i64 k),(9,.int .i64 x)])
    (fun x s3=>s.next≤s3.next∧Models ro s3 H2∧k≤x∧x≤O.length∧runEnd D.F D.L O k (O.length-x.toNat) x=J) (fun x=>O.length-x.toNat) k ?_ ⟨hn2,hM2,Int.le_refl _,hk1,hJ⟩ ?_
   ·exact Ho
   ·rintro j g3 s3 ⟨hn3,hM3,hj0,hj1,hresj⟩
    have hatk:=hat k hk0 hk
    rcases dc (j < ↑O.length) with ⟨hjl,hjlb⟩ | ⟨hjl,hjlb⟩
    ·have hatj:=hat j (by omega) hjl
     have hatj1:k<j→0≤rd O (j-1)∧rd O (j-1)<D.n:=fun h=>hat (j-1) (by omega) (by omega)
     rw [show O.length-j.toNat=(O.length-(j+1).toNat)+1 by omega] at hresj
     simp only [runEnd] at hresj
     refine WC.seq (WC.seq (WC.dr [0,1,2,3,4,5,6,7,8,9,10,11,12,13,14,15,16,17,18,19,20,21,22,23,24,25,26,27,28,29,30,31,32,33,34,35,36,37,38,39,40,41,42,43,44,45] (z:=Mw (z:=Mw (z:=Cd (Ln (z:=Cd (Lt (z:=Mw (z:=Hy (z:=Mq (z:=Hy (z:=Np (z:=Hy (z:=Fa (z:=Hy (z:=Ld (z:=Hy (z:=Mq (z:=Hy (z:=Mq (z:=Hy (z:=Ix (z:=Hy (z:=Ld (z:=Hy (z:=Ix (z:=Hy (z:=Ld (z:=Hy (z:=Mq (z:=Hy (z:=Np (z:=Hy (z:=Fa (z:=Hy (z:=Ld (z:=Hy (z:=Mq (z:=Hy (z:=Mq (z:=Hy (z:=Ix (z:=Hy (z:=Ld (z:=Hy (z:=Ix (z:=Hy (z:=Ld (z:=Hy (z:=Ei (z:=Cd (Pt (z:=Mw (z:=?_)))))))))))))))))))))))))))))))))))))))))))))))))))))))
     all_goals (refine WD.guardDT rfl rfl rfl (fun hg13_28 hh13_28=>SV.moveV (by constructor) ?_) (fun hg13_28 hh13_28=>?_) (by decide))
     all_goals (first | refine Hy (z:=Mq (z:=?_)) | refine Hn (z:=?_))
     all_goals (first | refine Hy (z:=Ei (z:=?_)) | refine Hn (z:=?_))
     all_goals (first | refine Hy (z:=Mq (z:=?_)) | refine Hn (z:=?_))
     all_goals (first | refine Hu (z:=?_) | refine WD.guardDF rfl rfl rfl (fun hg13_32 hh13_32=>SV.moveV (by constructor) ?_) (fun hg13_32 hh13_32=>?_) (by decide))
     all_goals (first | refine Hy (z:=Np (z:=?_)) | refine Hn (z:=?_) | refine Hu (z:=?_))
     all_goals (first | refine Hy (z:=Fa (z:=?_)) | refine Hn (z:=?_) | refine Hu (z:=?_))
     all_goals (first | refine Hy (z:=Ld (z:=?_)) | refine Hn (z:=?_) | refine Hu (z:=?_))
     all_goals (first | refine Hy (z:=Mq (z:=?_)) | refine Hn (z:=?_) | refine Hu (z:=?_))
     all_goals (first | refine Hy (z:=Mq (z:=?_)) | refine Hn (z:=?_) | refine Hu (z:=?_))
     all_goals (first | refine Hy (z:=Sb (z:=?_)) | refine Hn (z:=?_) | refine Hu (z:=?_))
     all_goals (first | refine Hy (z:=Ix (z:=?_)) | refine Hn (z:=?_) | refine Hu (z:=?_))
     all_goals (first | refine Hy (z:=Ld (z:=?_)) | refine Hn (z:=?_) | refine Hu (z:=?_))
     all_goals (first | refine Hy (z:=Ix (z:=?_)) | refine Hn (z:=?_) | refine Hu (z:=?_))
     all_goals (first | refine Hy (z:=Ld (z:=?_)) | refine Hn (z:=?_) | refine Hu (z:=?_))
     all_goals (first | refine Hy (z:=Ni (z:=?_)) | refine Hn (z:=?_) | refine Hu (z:=?_))
     all_goals (first | refine Hy (z:=Pt (z:=?_)) | refine Hy (z:=Pf (z:=?_)) | refine Hn (z:=?_))
     all_goals (first | refine Cd (Pt (z:=?_)) | refine Cd (Pf (z:=?_)))
     all_goals refine Nz ?_
     ·skip
      refine WC.condD rfl (fun hx hxb=>?_) (fun hx hxb=>?_)
      ·rw [if_pos (by omega)] at hresj
       refine WC.skip (WC.block (Rg (Mv (z:=Co (Ad (z:=Av (z:=Nl ?_)))))))
       exact ⟨rfl,j+1,Ho,⟨by omega,hM3,by omega,by omega,hresj⟩,by omega⟩
      ·rw [if_neg (by omega)] at hresj
       subst hresj
       refine WC.exit ?_
       exact ⟨rfl,rfl,Ho,by omega,hM3⟩
     ·rw [if_pos (by omega)] at hresj
      refine Ct (z:=WC.skip (WC.block (Rg (Mv (z:=Co (Ad (z:=Av (z:=Nl ?_))))))))
      exact ⟨rfl,j+1,Ho,⟨by omega,hM3,by omega,by omega,hresj⟩,by omega⟩
     ·rw [if_neg (by omega)] at hresj
      subst hresj
      refine Cf (z:=WC.exit ?_)
      exact ⟨rfl,rfl,Ho,by omega,hM3⟩
    ·rw [show O.length-j.toNat=0 by omega] at hresj
     simp only [runEnd] at hresj
     subst hresj
     refine WC.seq (WC.seq (WC.dr [0,1,2,3,4,5,6,7,8,9,10,11,12,13,14,15,16,17,18,19,20,21,22,23,24,25,26,27,28,29,30,31,32,33,34,35,36,37,38,39,40,41,42,43,44,45] (z:=Mw (z:=Mw (z:=Cd (Ln (z:=Cd (Lt (z:=Mw (z:=Hn (z:=Hn (z:=Hn (z:=Hn (z:=Hn (z:=Hn (z:=Hn (z:=Hn (z:=Hn (z:=Hn (z:=Hn (z:=Hn (z:=Hn (z:=Hn (z:=Hn (z:=Hn (z:=Hn (z:=Hn (z:=Hn (z:=Hn (z:=Hn (z:=Cd (Pf (z:=Mw (z:=Hn (z:=Hn (z:=Hn (z:=Hn (z:=Hu (z:=Hu (z:=Hu (z:=Hu (z:=Hu (z:=Hu (z:=Hu (z:=Hu (z:=Hu (z:=Hu (z:=Hu (z:=Hu (z:=Hn (z:=Cd (Pf (z:=Nz (Cf (z:=WC.exit ?_)))))))))))))))))))))))))))))))))))))))))))))))))))))))
     exact ⟨rfl,rfl,Ho,by omega,hM3⟩
   rintro e g3 ds3 s3 ⟨rfl,rfl,hg3,hn3,hM3⟩
   rw [←over_same hg3]
   refine WC.seq (Rg (Mv (z:=Mv (z:=Mv (z:=Co ?_)))))
   refine SV.slicePart hM3 rfl hao2 rfl rfl ⟨hk0,by omega,by omega⟩ ?_
   refine Av (z:=Nl (WC.seq (Rg (Mv (z:=Co (Np (z:=Co (Fa (z:=Co (Ld (z:=Av (z:=Nl (WC.seq ?_)))))))))))))
   refine WC.mono (Q:=fun e g' ds' s'=>e = .normal∧ds'=[]∧holds g' [(0,.pointer (some ⟨D.t,0,none⟩)),(2,.slice none 0 0),(3,.slice (some ⟨ao,0,none⟩) O.length O.length),(6,vo),(7,.map (some am)),(8,.int .i64 k),(9,.int .i64 J),
    (10,.slice (some ⟨ao,k.toNat*1,none⟩) (J.toNat-k.toNat) (O.length-k.toNat)),(11,.int .i64 (beforeM D.F D.L D.b O k))]∧s.next≤s'.next∧Models ro s' H2) ?_ ?_
   ·rcases dc (0<k) with ⟨h0,h0b⟩ | ⟨h0,h0b⟩
    ·have hatk1:=hat (k-1) (by omega) (by omega)
     refine WC.seq (WC.dr [0,1,2,3,4,5,6,7,8,9,10,11,12,13,14,15] (z:=Mw (z:=Cd (Gt (z:=Mw (z:=Hy (z:=Mq (z:=Hy (z:=Np (z:=Hy (z:=Fa (z:=Hy (z:=Ld (z:=Hy (z:=Mq (z:=Hy (z:=Mq (z:=Hy (z:=Sb (z:=Hy (z:=Ix (z:=Hy (z:=Ld (z:=Hy (z:=Ix (z:=Hy (z:=Ld (z:=Hy (z:=Ni (z:=Cd (Pt (z:=Nz (thn_n ?_)))))))))))))))))))))))))))))))))
     refine WC.condD rfl (fun hb hbb=>?_) (fun hb hbb=>?_)
     ·have e1:beforeM D.F D.L D.b O k=rd D.L (rd O (k-1)):=if_pos ⟨h0,hb⟩
      rw [e1]
      refine WC.dr [0,1,2,3,4,5,6,7,8,9,10,11] (z:=Mw (z:=Cd (Np (z:=Cd (Fa (z:=Cd (Ld (z:=Mw (z:=Mw (z:=Cd (Sb (z:=Cd (Ix (z:=Cd (Ld (z:=Cd (Ix (z:=Cd (Ld (z:=Aw (z:=Nz ?_)))))))))))))))))))))
      exact ⟨rfl,rfl,Ho,by omega,hM3⟩
     ·have e1:beforeM D.F D.L D.b O k=D.b:=if_neg (fun h=>hb h.2)
      rw [e1]
      refine WC.skip ?_
      exact ⟨rfl,rfl,Ho,by omega,hM3⟩
    ·refine WC.seq (WC.dr [0,1,2,3,4,5,6,7,8,9,10,11,12,13,14,15] (z:=Mw (z:=Cd (Gt (z:=Mw (z:=Hn (z:=Hn (z:=Hn (z:=Hn (z:=Hn (z:=Hn (z:=Hn (z:=Hn (z:=Hn (z:=Hn (z:=Hn (z:=Hn (z:=Cd (Pf (z:=Nz ?_))))))))))))))))))))
     have e1:beforeM D.F D.L D.b O k=D.b:=if_neg (fun h=>h0 h.1)
     rw [e1]
     refine thn_n (Cf (z:=WC.skip ?_))
     exact ⟨rfl,rfl,Ho,by omega,hM3⟩
   clear hM3 hn3 hg3
   rintro e g4 ds4 s4 ⟨rfl,rfl,hg4,hn4,hM4⟩
   rw [←over_same hg4]
   have hfst:(O.map (Value.int .i64))[k.toNat*1+(0:Int).toNat*1]?=some (.int .i64 (rd O k)):=by
    rw [show k.toNat*1+(0:Int).toNat*1=0+k.toNat*1 by simp]
    exact ints_get0 (by omega) (by omega)
   have hlst:(O.map (Value.int .i64))[k.toNat*1+(((J.toNat-k.toNat:Nat):Int)-1).toNat*1]?=some (.int .i64 (rd O (J-1))):=by
    rw [show k.toNat*1+(((J.toNat-k.toNat:Nat):Int)-1).toNat*1=0+(J-1).toNat*1 by omega]
    exact ints_get0 (by omega) (by omega)
   have hatk:=hat k hk0 hk
   refine WC.seq (Rg (Mv (z:=Mv (z:=Co (Ix (z:=Co (Ld (z:=Co ?_))))))))
   refine SV.lookupM hM4 rfl rfl hI.mp zero57 rfl ?_
   refine WO.cons (SV.assign ?_) (by decide)
   refine Nl ?_
   rw [hI.mg]
   refine WC.seq ?_
   refine WC.mono (Q:=fun e g' ds' s'=>e = .normal∧ds'=[]∧∃ (R':List SQ) (vo':Value) (i:Nat) (hi:i<R'.length) (H3:Hp),holds g' [(0,.pointer (some ⟨D.t,0,none⟩)),(2,.slice none 0 0),(3,.slice (some ⟨ao,0,none⟩) O.length O.length),(6,vo'),(7,.map (some am)),(8,.int .i64 k),(9,.int .i64 J),
    (10,.slice (some ⟨ao,k.toNat*1,none⟩) (J.toNat-k.toNat) (O.length-k.toNat)),(12,ptrV R'[i].q)]∧s.next≤s'.next∧SeqsI ro s' H1 H3 D.t am Lm vo' R' G ∧
    seqsM D.F D.L D.M D.b O n J (stepE D.F D.L D.b O k J i (R'.map seE)) (openG D.F D.M O J i G)=RES∧(R'.length:Int)≤k+1∧∀ j (h:j<R'.length),(R'[j].A.length:Int)≤k∧(j≠i→R'[j].A≠[])∧∀ x∈R'[j].A,0≤x∧x<D.n) ?_ ?_
   ·cases hG:G (rd O k) with
    | some i=>
     have hi:=hI.gl _ _ hG
     rw [hG] at hres
     dsimp only at hres
     have hgd:R.getD i default=R[i]:=by rw [List.getD_eq_getElem?_getD,List.getElem?_eq_getElem hi];rfl
     simp only [Option.map_some,Option.getD_some,hgd]
     refine WC.seq (Rg (Mv (z:=?_)))
     refine WO.cons (SV.eqlPtrN Try.underlying57 rfl rfl ?_) (by decide)
     refine Nl (thn_n (Cf (z:=WC.skip ?_)))
     exact ⟨rfl,rfl,R,vo,i,hi,H2,Ho,by omega,hI.step hM4,hres,by have:=hL.ln;omega,fun j h=>⟨(hL.al j h).1,fun _=>(hL.al j h).2.1,(hL.al j h).2.2⟩⟩
    | none=>
     rw [hG] at hres
     dsimp only at hres
     simp only [Option.map_none,Option.getD_none]
     refine WC.seq (Rg (Mv (z:=?_)))
     refine WO.cons (SV.eqlPtrNN Try.underlying57 rfl rfl ?_) (by decide)
     refine Nl (thn_n (Ct (z:=WC.seq (WC.dr [0,1,2,3,4,5,6,7,8,9,10,11,12] (z:=Mw (z:=Mw (z:=Cd (Np (z:=Cd (Fa (z:=Cd (Ld (z:=Mw (z:=Cd (Ix (z:=Cd (Ld (z:=Cd (Ix (z:=Cd (Ld (z:=?_))))))))))))))))))))))
     refine WD.cons (SV.build rfl ?_) (by decide)
     refine WD.cons (SV.boxM (by assumption) rfl (fun a21_11 s21_11 hf21_11 hne21_11 hn21_11 hM21_11=>?_)) (by decide)
     refine Aw (z:=Nz ?_)
     have hneq:∀ ν o,H2 ν=some o→ν≠a21_11:=hne21_11
     have hM5:Models ro s21_11 (H2.up a21_11 (.row 0 [.pointer (some ⟨D.t,0,none⟩),.slice none 0 0,.int .i64 (rd D.L (rd O k)),.int .i64 0,.int .i64 0])):=hM21_11
     clear hM21_11
     generalize a21_11=q at hM5 hneq ⊢
     refine thn_n (WC.seq (Rg (Mv (z:=Mv (z:=Co (Np (z:=Co (Fa (z:=Co (Ld (z:=Mv (z:=?_))))))))))))
     refine WO.cons (SV.max2 rfl rfl ?_) (by decide)
     refine Co ?_
     refine SV.callM rfl rfl (direction_sp hX0 hM5) ?_
     rintro v s5 H5 hn5 hM6 ⟨rfl,rfl⟩
     refine Co (Np (z:=Co (Fa (z:=WO.cons0 (Sv (z:=fun s22_10 hn22_10 hM22_10=>Nl ?_))))))
     rw [Hp.up_up] at hM22_10
     have hM7:Models ro s22_10 (H2.up q (.row 0 (rowQ D.t ⟨q,.slice none 0 0,[],rd D.L (rd O k),maxI (rd D.L (rd O k)) (beforeM D.F D.L D.b O k)%2,0⟩))):=hM22_10
     generalize hr':(⟨q,.slice none 0 0,[],rd D.L (rd O k),maxI (rd D.L (rd O k)) (beforeM D.F D.L D.b O k)%2,0⟩:SQ)=r' at hM7
     clear hM22_10 hM5 hM6
     refine thn_n (Rg ?_)
     refine WO.cons (SV.move ?_) (by decide)
     refine Mv (z:=Co (Bs (z:=fun a23_2 s23_2 hf23_2 hne23_2 hn23_2 hM23_2=>Co ?_)))
     have e1:r'.q=q:=by rw [←hr']
     have e2:r'.v = .slice none 0 0:=by rw [←hr']
     have e3:r'.A=[]:=by rw [←hr']
     have e4:seE r'=newE D.F D.L D.b O k:=by rw [←hr'];rfl
     have hne23:∀ ν o,(H2.up q (.row 0 (rowQ D.t r'))) ν=some o→ν≠a23_2:=hne23_2
     have k7:∀ ν o,H2 ν=some o→((H2.up q (.row 0 (rowQ D.t r'))).up a23_2 (.row 1 [ptrV q])) ν=some o:=fun ν o e=>Hp.up_fresh hne23 (Hp.up_fresh hneq e)
     have hvo7:SlO ((H2.up q (.row 0 (rowQ D.t r'))).up a23_2 (.row 1 [ptrV q])) vo 1 R.length (R.map fun r=>ptrV r.q):=by
      have:=hI.out.toO
      rw [List.length_map] at this
      exact SlO.keep this fun ν o _ e=>k7 ν o e
     have hRl:=hL.ln
     refine SV.appendM (t:=55) (u:=55) (e:=57) (e':=57) (sz:=1) (sz':=1) (n:=R.length) (m:=1) (vs:=R.map fun r=>ptrV r.q) (xs:=[ptrV q]) rfl (by assumption) rfl rfl hvo7
      (Src.row Hp.up_same rfl rfl (fun j v h=>by rw [Nat.zero_add];exact h)) rfl (by omega) (fun v8 s8 H8 hn8 hM8 hv8 hk8 hnew8 hex8=>?_)
     refine WO.cons (SV.assign ?_) (by decide)
     refine Nl ?_
     have hvq:baseV vo≠some q:=fun e=>by
      obtain ⟨o,ho⟩:=hI.out.toO.base_some e
      exact hneq _ _ ho rfl
     have hlm:(R.map fun r=>ptrV r.q).length=R.length:=List.length_map _
     have hadd:=hI.addR (r':=r') (es:=0) (vo':=v8) hM8 (fun μ o e e0=>hk8 μ o (k7 μ o e) e0)
      (by rw [e1];cases e:H2 q with | none=>rfl | some o=>exact absurd rfl (hneq _ _ e))
      (by rw [e1];exact hk8 _ _ (Hp.up_fresh hne23 Hp.up_same) hvq) e2 e3
      (by rw [e1];exact SlE.app (m:=1) hI.out (by simp) rfl (by rw [hlm];exact hex8))
      (fun μ e=>by
       rcases hnew8 μ e with h | h
       ·exact .inl h
       ·right;cases e0:H2 μ with | none=>rfl | some o=>rw [k7 μ o e0] at h;cases h)
     have hmap:(R++[r']).map seE=R.map seE++[newE D.F D.L D.b O k]:=by rw [List.map_append,←e4];rfl
     have hlE:(R.map seE).length=R.length:=List.length_map _
     rw [hlE] at hres
     have hget:(R++[r'])[R.length]'(by simp)=r':=by simp
     refine ⟨rfl,rfl,R++[r'],v8,R.length,by simp,H8,⟨rfl,rfl,rfl,rfl,rfl,rfl,rfl,rfl,by rw [hget,e1];rfl,trivial⟩,by omega,hadd,by rw [hmap];exact hres,by rw [List.length_append,List.length_singleton];omega,fun j h=>?_⟩
     by_cases hj:j<R.length
     ·rw [List.getElem_append_left hj]
      exact ⟨(hL.al j hj).1,fun _=>(hL.al j hj).2.1,(hL.al j hj).2.2⟩
     ·have hjl:j=R.length:=by rw [List.length_append,List.length_singleton] at h;omega
      subst hjl
      rw [hget,e3]
      exact ⟨by simpa using hk0,fun h=>absurd rfl h,fun x hx=>by cases hx⟩
   clear hM4 hn4 hg4 hres hI hsl2 hL
   rintro e g5 ds5 s5 ⟨rfl,rfl,R',vo',i,hi,H3,hg5,hn5,hI,hres,hRl,hal⟩
   rw [←over_same hg5]
   refine thn_n ?_
   obtain ⟨⟨es,hq⟩,hsv⟩:=hI.rc i hi
   have hM5:=hI.md
   have hao3:=hI.kp _ _ hao
   have hpl:((partI O k J).map (Value.int .i64)).length=(J.toNat-k.toNat)*1:=by
    unfold partI
    rw [List.length_map,List.length_take,List.length_drop];omega
   have hpn:(partI O k J).map (Value.int .i64)≠[]:=fun e=>by rw [e] at hpl;simp at hpl;omega
   have hsvO:SlO H3 R'[i].v 1 R'[i].A.length (R'[i].A.map (.int .i64)):=by
    have:=hsv.toO
    rw [List.length_map] at this
    exact this
   have hAl:=(hal i hi).1
   have hq5:H3 R'[i].q=some (.row es [ptrV D.t,R'[i].v,.int .i64 R'[i].lv,.int .i64 R'[i].st,.int .i64 R'[i].en]):=hq
   refine WC.seq (Rg (Mv (z:=Mv (z:=Co (Np (z:=Co (Fa (z:=Co (Ld (z:=Mv (z:=Co ?_)))))))))))
   refine SV.appendM (t:=23) (u:=23) (e:=3) (e':=3) (sz:=1) (sz':=1) (n:=R'[i].A.length) (m:=J.toNat-k.toNat) (vs:=R'[i].A.map (.int .i64)) (xs:=(partI O k J).map (.int .i64)) rfl (by assumption) rfl rfl hsvO
    (Src.row hao3 hpl (by rw [List.all_map];exact List.all_eq_true.mpr (fun _ _=>rfl)) (fun j v h=>by
     rw [List.getElem?_map] at h ⊢
     unfold partI at h
     rw [List.getElem?_take] at h
     split at h
     ·rw [List.getElem?_drop] at h;simpa using h
     ·simp at h)) rfl (by omega) (fun v8 s8 H8 hn8 hM8 hv8 hk8 hnew8 hex8=>?_)
   have hq8:H8 R'[i].q=some (.row es [ptrV D.t,R'[i].v,.int .i64 R'[i].lv,.int .i64 R'[i].st,.int .i64 R'[i].en]):=hk8 _ _ hq5 (hI.v_q hi hi)
   have hAlm:(R'[i].A.map (Value.int .i64)).length=R'[i].A.length:=List.length_map _
   have hse8:=SlE.app (m:=J.toNat-k.toNat) hsv hpn (by rw [hpl,Nat.mul_one]) (by rw [hAlm];exact hex8)
   obtain ⟨a8,c8,rfl⟩:∃ a8 c8,v8 = .slice (some ⟨a8,0,none⟩) c8 c8:=by
    rcases hse8 with ⟨_,h⟩ | ⟨_,a8,h,_⟩
    ·exact absurd (List.append_eq_nil_iff.mp h).2 hpn
    ·exact ⟨_,_,h⟩
   refine Co (Np (z:=Co (Fa (z:=WO.cons0 (Sv (z:=fun s24_9 hn24_9 hM24_9=>Nl ?_))))))
   have hb8:baseV (.slice (some ⟨a8,0,none⟩) c8 c8)≠some R'[i].q:=fun e=>by
    rcases hnew8 _ e with h | h
    ·exact hI.v_q hi hi h
    ·rw [hq5] at h;cases h
   have hI2:=hI.setR hi (r':=⟨R'[i].q,.slice (some ⟨a8,0,none⟩) c8 c8,R'[i].A++partI O k J,R'[i].lv,R'[i].st,R'[i].en⟩) (es:=es) hM24_9 (fun μ o e1 e2 e3=>Hp.up_ne e2 (hk8 _ _ e1 e3)) Hp.up_same rfl
    (by
     rw [List.map_append]
     exact SlE.keep hse8 (fun ν o e1 e2=>Hp.up_ne (fun e=>hb8 (by rw [←e];exact e1)) e2))
    (fun μ e=>hnew8 μ e)
   generalize H8.up R'[i].q (.row es ([ptrV D.t,R'[i].v,.int .i64 R'[i].lv,.int .i64 R'[i].st,.int .i64 R'[i].en].set (0+1) (.slice (some ⟨a8,0,none⟩) c8 c8)))=H9 at hI2
   clear hM24_9
   obtain ⟨R2,hR2⟩:∃ R2,R2=R'.set i ⟨R'[i].q,.slice (some ⟨a8,0,none⟩) c8 c8,R'[i].A++partI O k J,R'[i].lv,R'[i].st,R'[i].en⟩:=⟨_,rfl⟩
   rw [←hR2] at hI2
   have hi2:i<R2.length:=by rw [hR2,List.length_set];exact hi
   have hg2:R2[i]=⟨R'[i].q,.slice (some ⟨a8,0,none⟩) c8 c8,R'[i].A++partI O k J,R'[i].lv,R'[i].st,R'[i].en⟩:=by
    subst hR2
    exact List.getElem_set_self _
   obtain ⟨⟨es9,hq9⟩,hsv9⟩:=hI2.rc i hi2
   rw [hg2] at hq9 hsv9
   have hq9':H9 R'[i].q=some (.row es9 [ptrV D.t,.slice (some ⟨a8,0,none⟩) c8 c8,.int .i64 R'[i].lv,.int .i64 R'[i].st,.int .i64 R'[i].en]):=hq9
   have hM9:=hI2.md
   have hao9:=hI2.kp _ _ hao
   have hT9:TextH H9 D:=hT1.grow hI2.kp
   obtain ⟨e9,cc9,cf9,cw9,cl9,cm9,ht9⟩:=hT9.t
   have hf9:=hT9.f
   have hl9:=hT9.l
   have hm9:=hT9.m
   have hatJ:=hat (J-1) (by omega) (by omega)
   refine WC.seq (Rg (Mv (z:=Mv (z:=Co (Ln (z:=Co (Sb (z:=Co (Ix (z:=Co (Ld (z:=Av (z:=Nl (thn_n (WC.seq (Rg (Mv (z:=Co (Np (z:=Co (Fa (z:=Co (Ld (z:=Av (z:=Nl (thn_n (WC.seq ?_)))))))))))))))))))))))))))
   refine WC.mono (Q:=fun e g' ds' s'=>e = .normal∧ds'=[]∧holds g' [(0,.pointer (some ⟨D.t,0,none⟩)),(2,.slice none 0 0),(3,.slice (some ⟨ao,0,none⟩) O.length O.length),(6,vo'),(7,.map (some am)),(9,.int .i64 J),
    (12,ptrV R'[i].q),(13,.int .i64 (rd O (J-1))),(14,.int .i64 (afterM D.F D.L D.b O J))]∧s.next≤s'.next∧Models ro s' H9) ?_ ?_
   ·rcases dc (J < ↑O.length) with ⟨hj,hjb⟩ | ⟨hj,hjb⟩
    ·have hatJ2:=hat J (by omega) hj
     refine WC.seq (Rg (Mv (z:=Mv (z:=Co (Ln (z:=Co (Lt (z:=Mv (z:=Gy (z:=Mq (z:=Gy (z:=Np (z:=Gy (z:=Fa (z:=Gy (z:=Ld (z:=Gy (z:=Mq (z:=Gy (z:=Ix (z:=Gy (z:=Ld (z:=?_)))))))))))))))))))))))
     all_goals (refine WO.guardY rfl rfl rfl (by assumption) ?_ (by decide))
     refine SV.callM rfl rfl (opener_sp' hX0 hM9) ?_
     rintro v s10 H10 hn10 hM10 ⟨rfl,rfl⟩
     refine WO.guardY rfl rfl rfl (by assumption) (SV.notD rfl ?_) (by decide)
     all_goals refine Co (Pt (z:=Mv (z:=?_)))
     all_goals (refine WO.guardDT rfl rfl rfl (fun hg27_16 hh27_16=>SV.moveV (by constructor) ?_) (fun hg27_16 hh27_16=>?_) (by decide))
     all_goals (first | refine Gy (z:=Np (z:=?_)) | refine Gn (z:=?_))
     all_goals (first | refine Gy (z:=Fa (z:=?_)) | refine Gn (z:=?_))
     all_goals (first | refine Gy (z:=Ld (z:=?_)) | refine Gn (z:=?_))
     all_goals (first | refine Gy (z:=Mq (z:=?_)) | refine Gn (z:=?_))
     all_goals (first | refine Gy (z:=Ix (z:=?_)) | refine Gn (z:=?_))
     all_goals (first | refine Gy (z:=Ld (z:=?_)) | refine Gn (z:=?_))
     all_goals (first | refine Gy (z:=Ni (z:=?_)) | refine Gn (z:=?_))
     all_goals (first | refine Co (Pt (z:=?_)) | refine Co (Pf (z:=?_)))
     all_goals refine Nl ?_
     ·refine thn_n ?_
      refine WC.condD rfl (fun hx hxb=>?_) (fun hx hxb=>?_)
      ·have e1:afterM D.F D.L D.b O J=rd D.L (rd O J):=if_pos ⟨hj,hg27_16,hx⟩
       rw [e1]
       refine WC.dr [0,1,2,3,4,5,6,7,8,9,10] (z:=Mw (z:=Cd (Np (z:=Cd (Fa (z:=Cd (Ld (z:=Mw (z:=Mw (z:=Cd (Ix (z:=Cd (Ld (z:=Cd (Ix (z:=Cd (Ld (z:=Aw (z:=Nz ?_)))))))))))))))))))
       exact ⟨rfl,rfl,Ho,by omega,hM10⟩
      ·have e1:afterM D.F D.L D.b O J=D.b:=if_neg (fun h=>hx h.2.2)
       rw [e1]
       refine WC.skip ?_
       exact ⟨rfl,rfl,Ho,by omega,hM10⟩
     ·have e1:afterM D.F D.L D.b O J=D.b:=if_neg (fun h=>hg27_16 h.2.1)
      rw [e1]
      refine thn_n (Cf (z:=WC.skip ?_))
      exact ⟨rfl,rfl,Ho,by omega,hM10⟩
    ·refine WC.seq (Rg (Mv (z:=Mv (z:=Co (Ln (z:=Co (Lt (z:=Mv (z:=Gn (z:=Gn (z:=Gn (z:=Gn (z:=Gn (z:=Gn (z:=Gn (z:=Gn (z:=Gn (z:=Co (Pf (z:=Mv (z:=Gn (z:=Gn (z:=Gn (z:=Gn (z:=Gn (z:=Gn (z:=Gn (z:=Gn (z:=Co (Pf (z:=Nl (thn_n (Cf (z:=WC.skip ?_))))))))))))))))))))))))))))))))))
     have e1:afterM D.F D.L D.b O J=D.b:=if_neg (fun h=>hj h.1)
     rw [e1]
     exact ⟨rfl,rfl,Ho,by omega,hM9⟩
   rintro e g11 ds11 s11 ⟨rfl,rfl,hg11,hn11,hM11⟩
   rw [←over_same hg11]
   refine thn_n (WC.seq (Rg (Mv (z:=Mv (z:=Co (Np (z:=Co (Fa (z:=Co (Ld (z:=Mv (z:=?_))))))))))))
   refine WO.cons (SV.max2 rfl rfl ?_) (by decide)
   refine Co ?_
   refine SV.callM rfl rfl (direction_sp hX0 hM11) ?_
   rintro v s12 H12 hn12 hM12 ⟨rfl,rfl⟩
   refine Co (Np (z:=Co (Fa (z:=WO.cons0 (Sv (z:=fun s29_10 hn29_10 hM29_10=>Nl ?_))))))
   have hI3:=hI2.setR hi2 (r':=⟨R'[i].q,.slice (some ⟨a8,0,none⟩) c8 c8,R'[i].A++partI O k J,R'[i].lv,R'[i].st,maxI R'[i].lv (afterM D.F D.L D.b O J)%2⟩) (es:=es9) hM29_10 (fun μ o e1 e2 e3=>Hp.up_ne (by rw [hg2] at e2;exact e2) e1)
    (by rw [hg2];exact Hp.up_same) (by rw [hg2]) (hsv9.keep (fun ν o e1 e2=>Hp.up_ne (fun e=>hb8 (by rw [←e];exact e1)) e2)) (fun μ e=>.inl (by rw [hg2];exact e))
   generalize H12.up R'[i].q (.row es9 ([ptrV D.t,.slice (some ⟨a8,0,none⟩) c8 c8,.int .i64 R'[i].lv,.int .i64 R'[i].st,.int .i64 R'[i].en].set (0+4) (.int .i64 ((if R'[i].lv<afterM D.F D.L D.b O J then afterM D.F D.L D.b O J else R'[i].lv)%2))))=H13 at hI3 hM29_10
   obtain ⟨r3,hr3⟩:∃ r3:SQ,r3=⟨R'[i].q,.slice (some ⟨a8,0,none⟩) c8 c8,R'[i].A++partI O k J,R'[i].lv,R'[i].st,maxI R'[i].lv (afterM D.F D.L D.b O J)%2⟩:=⟨_,rfl⟩
   rw [←hr3] at hI3
   obtain ⟨R3,hR3⟩:∃ R3,R3=R2.set i r3:=⟨_,rfl⟩
   rw [←hR3] at hI3
   have hR3':R3=R'.set i r3:=by rw [hR3,hR2,List.set_set]
   have hi3:i<R3.length:=by rw [hR3',List.length_set];exact hi
   have hg3':R3[i]=r3:=by
    subst hR3'
    exact List.getElem_set_self _
   have hmap3:R3.map seE=stepE D.F D.L D.b O k J i (R'.map seE):=by
    have e:(R'.map seE).getD i default=seE R'[i]:=by
     rw [List.getD_eq_getElem?_getD,List.getElem?_map,List.getElem?_eq_getElem hi];rfl
    unfold stepE
    rw [e,hR3',List.map_set,hr3];rfl
   have hL3:SeqsL D.n R3 J:=by
    refine ⟨by rw [hR3',List.length_set];omega,fun j hj=>?_⟩
    have hj':j<R'.length:=by rw [hR3',List.length_set] at hj;exact hj
    have hpl2:(partI O k J).length=J.toNat-k.toNat:=by rw [List.length_map] at hpl;omega
    have e:R3[j]=if i=j then r3 else R'[j]:=by
     subst hR3'
     exact List.getElem_set _
    rw [e]
    split
    ·rw [hr3]
     dsimp only
     refine ⟨by rw [List.length_append,hpl2];omega,fun h=>?_,fun x hx=>?_⟩
     ·rw [(List.append_eq_nil_iff.mp h).2] at hpl2;simp at hpl2;omega
     ·rcases List.mem_append.mp hx with hx | hx
      ·exact (hal i hi).2.2 x hx
      ·unfold partI at hx
       exact hok x (List.mem_of_mem_drop (List.mem_of_mem_take hx))
    ·rename_i hne
     exact ⟨by have:=(hal j hj').1;omega,(hal j hj').2.1 (Ne.symm hne),(hal j hj').2.2⟩
   rw [←hmap3] at hres
   clear hI2 hM9 hM11 hq9 hq9' hao9 hT9 ht9 hf9 hl9 hm9
   have hT13:TextH H13 D:=hT1.grow hI3.kp
   obtain ⟨e13,cc13,cf13,cw13,cl13,cm13,ht13⟩:=hT13.t
   have hf13:=hT13.f
   have hm13:=hT13.m
   have hM13:=hI3.md
   have hmp:=hI3.mp
   refine thn_n (WC.seq (WC.seq (Rg (Mv (z:=Co (Np (z:=Co (Fa (z:=Co (Ld (z:=Mv (z:=Co (Ix (z:=Co (Ld (z:=Co ?_))))))))))))))))
   refine SV.callM rfl rfl (opener_sp' hX0 hM13) ?_
   rintro v s14 H14 hn14 hM14 ⟨rfl,rfl⟩
   refine Mv (z:=?_)
   refine WO.guardDT rfl rfl rfl (fun hg30_9 hh30_9=>SV.moveV (by constructor) ?_) (fun hg30_9 hh30_9=>?_) (by decide)
   all_goals (first | refine Gy (z:=Np (z:=?_)) | refine Gn (z:=?_))
   all_goals (first | refine Gy (z:=Fa (z:=?_)) | refine Gn (z:=?_))
   all_goals (first | refine Gy (z:=Ld (z:=?_)) | refine Gn (z:=?_))
   all_goals (first | refine Gy (z:=Mq (z:=?_)) | refine Gn (z:=?_))
   all_goals (first | refine Gy (z:=Ix (z:=?_)) | refine Gn (z:=?_))
   all_goals (first | refine Gy (z:=Ld (z:=?_)) | refine Gn (z:=?_))
   all_goals (first | refine Gy (z:=Ge (z:=?_)) | refine Gn (z:=?_))
   all_goals (first | refine Co (Pt (z:=?_)) | refine Co (Pf (z:=?_)))
   all_goals refine Nl ?_
   ·refine thn_n ?_
    refine WC.condD rfl (fun hm hmb=>?_) (fun hm hmb=>?_)
    ·have e1:openG D.F D.M O J i G=fun x=>if x=rd D.M (rd O (J-1)) then some i else G x:=if_pos ⟨hg30_9,hm⟩
     rw [e1] at hres
     refine Rg (Mv (z:=Mv (z:=Co (Np (z:=Co (Fa (z:=Co (Ld (z:=Mv (z:=Co (Ix (z:=Co (Ld (z:=Mv (z:=?_)))))))))))))))
     refine WO.cons0 (SV.mapUpdateM (by assumption) rfl rfl rfl (by assumption) (fun s31_9 hn31_9 hM31_9=>?_))
     refine Nl ?_
     have hI4:=hI3.put (s2:=s31_9) hi3 (k:=rd D.M (rd O (J-1))) (by rw [hg3',hr3];exact hM31_9)
     refine thn_n (Rg (Mv (z:=Av (z:=Nl ?_))))
     exact ⟨rfl,(J,vo',R3,fun x=>if x=rd D.M (rd O (J-1)) then some i else G x),Ho,⟨by omega,by dsimp only;omega,by dsimp only;omega,⟨n,by dsimp only;omega,hres⟩,hL3,_,_,hI4⟩,by dsimp only;omega⟩
    ·have e1:openG D.F D.M O J i G=G:=if_neg (fun h=>hm h.2)
     rw [e1] at hres
     refine WC.skip (Rg (Mv (z:=Av (z:=Nl ?_))))
     exact ⟨rfl,(J,vo',R3,G),Ho,⟨by omega,by dsimp only;omega,by dsimp only;omega,⟨n,by dsimp only;omega,hres⟩,hL3,Lm,_,hI3.step hM14⟩,by dsimp only;omega⟩
   ·have e1:openG D.F D.M O J i G=G:=if_neg (fun h=>hg30_9 h.1)
    rw [e1] at hres
    refine thn_n (Cf (z:=WC.skip (Rg (Mv (z:=Av (z:=Nl ?_))))))
    exact ⟨rfl,(J,vo',R3,G),Ho,⟨by omega,by dsimp only;omega,by dsimp only;omega,⟨n,by dsimp only;omega,hres⟩,hL3,Lm,_,hI3.step hM14⟩,by dsimp only;omega⟩
  ·refine WC.exit (WC.seq ?_)
   rw [if_neg hk] at hres
   refine Rg ?_
   refine WO.cons (SV.move ?_) (by decide)
   refine WO.cons (SV.assign ?_) (by decide)
   refine Nl (WC.ret ?_)
   have hk2:k≤D.n:=by omega
   refine fin_one (e:=.ret) (v:=vo) rfl trivial rfl (by omega) hM2 ⟨R,s2,am,Lm,G,hI.weaken hkpH,⟨by have:=hL.ln;omega,fun i h=>⟨by have:=(hL.al i h).1;omega,(hL.al i h).2⟩⟩,hres⟩
def seqStepM (Y:Exts) (C F:List Int) (e:SE) (N L:List Int):List Int×List Int:=
 let N1:=bracketsM Y C e.A F e.lv e.st (weakM e.A F e.st N)
 (restN e.A e.st e.en e.lv N1,bumpM e.A (restN e.A e.st e.en e.lv N1) e.lv e.A.length 0 L)
def seqAllM (Y:Exts) (C F:List Int):List SE→List Int→List Int→List Int×List Int
 | [],N,L=>(N,L)
 | e::E,N,L=>seqAllM Y C F E (seqStepM Y C F e N L).1 (seqStepM Y C F e N L).2
theorem baseM_range {F M:List Int} {b:Int}:∀ (r:Nat) (i:Int),0≤baseM F M b r i∧baseM F M b r i≤1
 | 0,_=>by simp [baseM]
 | r+1,i=>by
  simp only [baseM]
  repeat' split
  all_goals first | omega | exact baseM_range r _
def sdQ (r:SQ):SD:=⟨r.q,(baseV r.v).getD 0,r.A,r.lv,r.st,r.en⟩
def bOf (b:Int) (F:List Int):Int:=if b<0 then baseM F (matchesM F) F.length (F.length+1) 0 else b
theorem expX_congr {D D':TD} (hF:D.F=D'.F) (hM:D.M=D'.M) (hb:D.b=D'.b) (i:Int) (x:XS):expX D i x=expX D' i x:=by
 unfold expX openLevel openOdd
 rw [hF,hM,hb]
theorem expT_congr {D D':TD} (hF:D.F=D'.F) (hM:D.M=D'.M) (hb:D.b=D'.b) (i:Int) (x:XS):expT D i x=expT D' i x:=by
 unfold expT
 rw [hF,hb]
theorem expM_congr {D D':TD} (hF:D.F=D'.F) (hM:D.M=D'.M) (hb:D.b=D'.b):∀ (r:Nat) (i:Int) (x:XS) (L N:List Int),expM D r i x L N=expM D' r i x L N
 | 0,_,_,_,_=>rfl
 | r+1,i,x,L,N=>by
  simp only [expM,expL,expN,expX_congr hF hM hb,expT_congr hF hM hb]
  exact expM_congr hF hM hb r _ _ _ _
def pureD (F M:List Int) (b:Int):TD:=⟨0,0,0,0,0,0,F.length,[],F,F,[],M,b,fun _=>none⟩
def explM (F:List Int) (b:Int):List Int×List Int:=expM (pureD F (matchesM F) b) F.length 0 ⟨[(b,-1,false)],0,0,0⟩ (List.replicate F.length 0) F
def levelsM (Y:Exts) (C:List Int) (b:Int):List Int:=
 endsM (C.map Y.LB) (bOf b (C.map Y.LB)) (seqAllM Y C (C.map Y.LB) (sequencesM (C.map Y.LB) (explM (C.map Y.LB) (bOf b (C.map Y.LB))).1 (matchesM (C.map Y.LB)) (bOf b (C.map Y.LB))) (explM (C.map Y.LB) (bOf b (C.map Y.LB))).2 (explM (C.map Y.LB) (bOf b (C.map Y.LB))).1).2
theorem seqStepM_len {Y:Exts} {C F:List Int} {e:SE} {N L:List Int}:(seqStepM Y C F e N L).1.length=N.length∧(seqStepM Y C F e N L).2.length=L.length:=by
 unfold seqStepM bracketsM
 dsimp only
 exact ⟨restN_length.trans ((bracM_length _ _).trans weakM_length),bumpM_length _ _ _⟩
set_option maxHeartbeats 8000000 in
theorem levels_spc {Y:Exts} {s:St} {H:Hp} {c cc:Nat} {C:List Int} {b:Int} (hX:ExtOk X ro Y) (hM:Models ro s H) (hc:H c=some (.row 1 (C.map (.int .i64)))) (hb : -1≤b∧b≤1) (hn:C.length≤16384) :
 Sp X Try.prog ro 17 [.slice (some ⟨c,0,none⟩) C.length cc,.int .i64 b] s fun v H'=>∃ l cl,v = .tuple #[Value.slice (some ⟨l,0,none⟩) C.length (C.length+cl),.int .i64 0]∧(∀ ν o,H ν=some o→H' ν=some o∧ν≠l)∧H' l=some (.row 1 ((levelsM Y C b).map (.int .i64)))∧(levelsM Y C b).length=C.length:=by
 have hX0:=hX.own
 refine Bo hX.own Try.func17 Try.ntmps17 (z:=?_)
 have hb1:decide (b < -1)=false:=decide_eq_false (by omega)
 have hb2:decide (1<b)=false:=decide_eq_false (by omega)
 have hn2:decide ((16384:Int)<C.length)=false:=decide_eq_false (by omega)
 refine WC.seq (Rg (Av (z:=Av (z:=Nl (WC.seq (WC.block (WC.seq (Rg (Mv (z:=Co (Lt (z:=Mv (z:=Gy (z:=Mq (z:=Gy (z:=Gt (z:=Co (Pf (z:=Av (z:=Nl (Cf (z:=WC.seq (Rg (Mv (z:=Co (Ln (z:=Co (Gt (z:=Av (z:=Nl (Cf (z:=WC.skip (WC.seq (Rg (Mv (z:=Co ?_))))))))))))))))))))))))))))))))))))
 refine SV.callM rfl rfl (classes_sp hX hM hc hn) ?_
 rintro v s1 H1 hn1 hM1 ⟨f,rfl,hfne,rfl⟩
 refine Av (z:=Nl ?_)
 have hFl:(C.map Y.LB).length=C.length:=List.length_map _
 generalize hF:C.map Y.LB=F at hM1 hFl
 have hc1:(H.up f (.row 1 (F.map (.int .i64)))) c=some (.row 1 (C.map (.int .i64))):=Hp.up_fresh hfne hc
 have hf1:(H.up f (.row 1 (F.map (.int .i64)))) f=some (.row 1 (F.map (.int .i64))):=Hp.up_same
 generalize hH1:H.up f (.row 1 (F.map (.int .i64)))=H1 at hM1 hc1 hf1
 refine WC.seq ?_
 refine WC.drawE (by assumption) [0,1,2,3,4,5,7,8,9,6,10,11,12] (by kernel_rfl) (by kernel_rfl) ?_
 refine WE.act (by kernel_rfl) (by assumption) (SV.moveV (by constructor) ⟨(by assumption),?_⟩) (by decide)
 refine WE.act (by kernel_rfl) (by assumption) (SV.moveV (by constructor) ⟨(by assumption),?_⟩) (by decide)
 refine WE.act (by kernel_rfl) (by assumption) (SV.moveV (by constructor) ⟨(by assumption),?_⟩) (by decide)
 refine WE.act (by kernel_rfl) (by assumption) ?_ (by decide)
 refine SV.callM rfl rfl (clone_sp hX0 hM1 hf1 hFl hn) ?_
 rintro v s2 H2 hn2 hM2 ⟨w,rfl,hwne,rfl⟩
 have hM2b:Models ro s2 H1:=hM2.sub fun ν o e=>Hp.up_fresh hwne e
 refine ⟨hM2b,?_⟩
 have hc2:=Hp.up_fresh (x:=.row 1 (F.map (.int .i64))) hwne hc1
 have hf2:=Hp.up_fresh (x:=.row 1 (F.map (.int .i64))) hwne hf1
 have hw2:(H1.up w (.row 1 (F.map (.int .i64)))) w=some (.row 1 (F.map (.int .i64))):=Hp.up_same
 refine WE.act (by kernel_rfl) (by assumption) (SV.moveV (by constructor) ⟨(by assumption),?_⟩) (by decide)
 refine WE.read (St1.len rfl rfl) (by assumption) ?_ (by decide)
 refine WE.act (by kernel_rfl) (by assumption) (SV.moveV (by constructor) ⟨(by assumption),?_⟩) (by decide)
 refine WE.act (by kernel_rfl) (by assumption) ?_ (by decide)
 have c36:=matches_sp (cf:=C.length) hX0 hM2 hf2 (by omega)
 rw [hFl] at c36
 refine SV.callM rfl rfl c36 ?_
 rintro v s3 H3 hn3 hM3 ⟨m,rfl,hmne,rfl⟩
 have hM3b:Models ro s3 H1:=hM3.sub fun ν o e=>Hp.up_fresh hmne (Hp.up_fresh hwne e)
 refine ⟨hM3b,?_⟩
 have hc3:=Hp.up_fresh (x:=.row 1 ((matchesM F).map (.int .i64))) hmne hc2
 have hf3:=Hp.up_fresh (x:=.row 1 ((matchesM F).map (.int .i64))) hmne hf2
 have hw3:=Hp.up_fresh (x:=.row 1 ((matchesM F).map (.int .i64))) hmne hw2
 have hm3:((H1.up w (.row 1 (F.map (.int .i64)))).up m (.row 1 ((matchesM F).map (.int .i64)))) m=some (.row 1 ((matchesM F).map (.int .i64))):=Hp.up_same
 generalize hH3:(H1.up w (.row 1 (F.map (.int .i64)))).up m (.row 1 ((matchesM F).map (.int .i64)))=H3 at hM3 hc3 hf3 hw3 hm3
 refine WE.act (by kernel_rfl) (by assumption) (SV.moveV (by constructor) ⟨(by assumption),?_⟩) (by decide)
 refine WE.act (by kernel_rfl) (by assumption) ?_ (by decide)
 refine SV.makeSliceM hM3 rfl rfl (by refine ⟨?_,?_,?_,?_,rfl,by decide⟩ <;> omega) (fun l s4 hl0 hlne hn4 hM4=>?_)
 have hkp3:∀ ν o,H1 ν=some o→H3 ν=some o:=fun ν o e=>by rw [←hH3];exact Hp.up_fresh hmne (Hp.up_fresh hwne e)
 have hM4b:Models ro s4 H1:=hM4.sub (fun ν o e=>Hp.up_fresh hlne (hkp3 ν o e))
 refine ⟨hM4b,?_⟩
 rw [rep_ints] at hM4
 rw [Int.toNat_natCast] at hM4 ⊢
 refine WE.act (by kernel_rfl) (by assumption) (SV.build rfl ⟨(by assumption),?_⟩) (by decide)
 refine WE.act (by kernel_rfl) (by assumption) ?_ (by decide)
 refine SV.boxM hM4 rfl (fun t s5 ht0 htne hn5 hM5=>?_)
 have hM5b:Models ro s5 H1:=hM5.sub (fun ν o e=>Hp.up_fresh htne (Hp.up_fresh hlne (hkp3 ν o e)))
 refine ⟨hM5b,?_⟩
 refine WE.act (by kernel_rfl) (by assumption) (SV.assignV (by constructor) ⟨(by assumption),?_⟩) (by decide)
 refine WE.nil ?_
 have hM6:Models ro s5 ((H3.up l (.row 1 ((List.replicate C.length (0:Int)).map (.int .i64)))).up t (.row 0 [.slice (some ⟨c,0,none⟩) C.length cc,.slice (some ⟨f,0,none⟩) C.length C.length,.slice (some ⟨w,0,none⟩) C.length C.length,.slice (some ⟨l,0,none⟩) C.length C.length,.slice (some ⟨m,0,none⟩) C.length C.length,.int .i64 b])):=hM5
 clear hM5 hM5b hM4b hM4 hM3b hM2b
 have hkp1:∀ ν o,H ν=some o→H1 ν=some o:=fun ν o e=>by rw [←hH1];exact Hp.up_fresh hfne e
 have mk:∀ b',TextH ((H3.up l (.row 1 ((List.replicate C.length (0:Int)).map (.int .i64)))).up t (.row 0 [.slice (some ⟨c,0,none⟩) C.length cc,.slice (some ⟨f,0,none⟩) C.length C.length,.slice (some ⟨w,0,none⟩) C.length C.length,.slice (some ⟨l,0,none⟩) C.length C.length,.slice (some ⟨m,0,none⟩) C.length C.length,.int .i64 b']))
  ⟨t,c,f,w,l,m,C.length,C,F,F,List.replicate C.length 0,matchesM F,b',H⟩:=fun b'=>
  {t:=⟨0,cc,C.length,C.length,0,C.length,Hp.up_same⟩,c:=Hp.up_fresh htne (Hp.up_fresh hlne hc3),f:=Hp.up_fresh htne (Hp.up_fresh hlne hf3),w:=Hp.up_fresh htne (Hp.up_fresh hlne hw3),l:=Hp.up_fresh htne Hp.up_same,m:=Hp.up_fresh htne (Hp.up_fresh hlne hm3),nC:=rfl,nF:=hFl,nN:=hFl,nL:=List.length_replicate,nM:=(by unfold matchesM;rw [matchM_length,List.length_replicate];exact hFl),big:=hn
   tw:=(htne _ _ (Hp.up_fresh hlne hw3)).symm,cw:=hwne _ _ hc1,fw:=hwne _ _ hf1,lw:=(hlne _ _ hw3).symm,mw:=(hmne _ _ hw2).symm,tl:=(htne _ _ Hp.up_same).symm,cl:=hlne _ _ hc3,fl:=hlne _ _ hf3,ml:=hlne _ _ hm3,kp:=fun ν o e=>Hp.up_fresh htne (Hp.up_fresh hlne (hkp3 _ _ (hkp1 _ _ e))),bw:=fun ν o e=>⟨hwne _ _ (hkp1 _ _ e),hlne _ _ (hkp3 _ _ (hkp1 _ _ e))⟩ }
 generalize hH5:H3.up l (.row 1 ((List.replicate C.length (0:Int)).map (.int .i64)))=H5 at hM6 mk
 have hT6:=mk b
 generalize hH6:H5.up t (.row 0 [.slice (some ⟨c,0,none⟩) C.length cc,.slice (some ⟨f,0,none⟩) C.length C.length,.slice (some ⟨w,0,none⟩) C.length C.length,.slice (some ⟨l,0,none⟩) C.length C.length,.slice (some ⟨m,0,none⟩) C.length C.length,.int .i64 b])=H6 at hM6 hT6
 have ht6:H6 t=some (.row 0 [.slice (some ⟨c,0,none⟩) C.length cc,.slice (some ⟨f,0,none⟩) C.length C.length,.slice (some ⟨w,0,none⟩) C.length C.length,.slice (some ⟨l,0,none⟩) C.length C.length,.slice (some ⟨m,0,none⟩) C.length C.length,.int .i64 b]):=by rw [←hH6];exact Hp.up_same
 have hb0:0≤bOf b F∧bOf b F≤1:=by
  unfold bOf
  split
  ·exact baseM_range _ _
  ·omega
 refine thn_n (WC.seq ?_)
 refine WC.mono (Q:=fun e g' ds' s'=>e = .normal∧ds'=[]∧∃ H7,holds g' [(4,.slice none 0 0),(5,.int .i64 0),(7,.pointer (some ⟨t,0,none⟩))]∧s.next≤s'.next∧Models ro s' H7 ∧
  TextH H7 ⟨t,c,f,w,l,m,C.length,C,F,F,List.replicate C.length 0,matchesM F,bOf b F,H⟩) ?_ ?_
 ·refine WC.seq (Rg (Mv (z:=Co (Lt (z:=Nl (thn_n ?_))))))
  refine WC.condD rfl (fun hb hbb=>?_) (fun hb hbb=>?_)
  ·have e1:bOf b F=baseM F (matchesM F) F.length (F.length+1) 0:=if_pos hb
   rw [e1]
   have hf6:=hT6.f
   have hm6:=hT6.m
   refine Rg (Mv (z:=Mv (z:=Mv (z:=Co (Np (z:=Co (Fa (z:=Co (Ld (z:=Mv (z:=Co (Ln (z:=Co ?_)))))))))))))
   refine SV.callM rfl rfl (base_sp' (a:=0) (b:=C.length) hX0 hM6 hf6 hm6 hFl hT6.nM hn (matchesM_ok F) ⟨by omega,by omega,by omega⟩) ?_
   rintro v s7 H7 hn7 hM7 ⟨rfl,rfl⟩
   refine Co (Np (z:=Co (Fa (z:=WO.cons0 (Sv (z:=fun s8_11 hn8_11 hM8_11=>Nl ?_))))))
   rw [←hH6,Hp.up_up] at hM8_11
   exact ⟨rfl,rfl,_,Ho,by omega,hM8_11,by rw [hFl];exact mk _⟩
  ·have e1:bOf b F=b:=if_neg hb
   rw [e1]
   refine WC.skip ?_
   exact ⟨rfl,rfl,_,Ho,by omega,hM6,hT6⟩
 rintro e g7 ds7 s7 ⟨rfl,rfl,H7,hg7,hn7,hM7,hT7⟩
 rw [←over_same hg7]
 refine thn_n (WC.seq (Rg (Mv (z:=Co ?_))))
 refine SV.callM rfl rfl (explicit_sp hX0 hM7 hT7 (matchesM_ok F) hb0) ?_
 rintro v s8 H8 hn8 hM8 ⟨rfl,hT8⟩
 refine Nl ?_
 have eL:expM ⟨t,c,f,w,l,m,C.length,C,F,F,List.replicate C.length 0,matchesM F,bOf b F,H⟩ F.length 0 ⟨[(bOf b F,-1,false)],0,0,0⟩ (List.replicate C.length 0) F=explM F (bOf b F):=by
  unfold explM
  rw [hFl]
  exact expM_congr (D:=⟨t,c,f,w,l,m,C.length,C,F,F,List.replicate C.length 0,matchesM F,bOf b F,H⟩) (D':=pureD F (matchesM F) (bOf b F)) rfl rfl rfl _ _ _ _ _
 dsimp only at hT8
 rw [eL] at hT8
 have hLv:levelsM Y C b=endsM F (bOf b F) (seqAllM Y C F (sequencesM F (explM F (bOf b F)).1 (matchesM F) (bOf b F)) (explM F (bOf b F)).2 (explM F (bOf b F)).1).2:=by unfold levelsM;rw [hF]
 generalize (explM F (bOf b F)).1=L1 at hT8 hLv
 generalize (explM F (bOf b F)).2=N1 at hT8 hLv
 refine thn_n (WC.seq (WC.seq (Rg (Mv (z:=Co ?_)))))
 refine SV.callM rfl rfl (sequences_sp hX hM8 hT8) ?_
 rintro vo s9 H9 hn9 hM9 ⟨R,s',am,Lm,G,hI,hL,hRm⟩
 have hlm:(R.map fun r=>ptrV r.q).length=R.length:=List.length_map _
 have hvoO:SlO H9 vo 1 R.length (R.map fun r=>ptrV r.q):=by
  have:=hI.out.toO
  rw [hlm] at this
  exact this
 refine Co (Lo (z:=Mv (z:=Nl (WC.block ?_))))
 have hT9:TextH H9 (wN ⟨t,c,f,w,l,m,C.length,C,F,F,List.replicate C.length 0,matchesM F,bOf b F,H⟩ L1 N1):=hT8.grow hI.kp
 have hout:=hI.out
 have hRl:(R.length:Int)≤C.length:=hL.ln
 have hno:baseV vo≠some w∧baseV vo≠some l:=⟨hI.no _ _ hT8.w,hI.no _ _ hT8.l⟩
 have hS9:∀ j (hj:j<R.length),SeqH H9 (wN ⟨t,c,f,w,l,m,C.length,C,F,F,List.replicate C.length 0,matchesM F,bOf b F,H⟩ L1 N1) (sdQ R[j]):=fun j hj=>by
  obtain ⟨⟨es,h1⟩,h2⟩:=hI.rc j hj
  obtain ⟨h3,h4,h5⟩:=hL.al j hj
  rcases h2 with ⟨_,h2⟩ | ⟨_,a,h6,h7⟩
  ·exact absurd (List.map_eq_nil_iff.mp h2) h4
  have hba:(baseV R[j].v).getD 0=a:=by rw [h6];rfl
  have hnb:∀ ν o,H8 ν=some o→a≠ν:=fun ν o e e2=>(hI.nq j hj ν o e).2 (by rw [h6,e2];rfl)
  refine { q:=⟨es,R[j].A.length,?_⟩,a:=⟨[],?_⟩,ok:=h5,big:=(by have h8:(R[j].A.length:Int)≤C.length:=h3;show R[j].A.length≤C.length;omega),qw:=((hI.nq j hj _ _ hT8.w).1).symm,aw:=?_,ql:=((hI.nq j hj _ _ hT8.l).1).symm,al:=?_ }
  ·show H9 R[j].q=_
   rw [h1]
   unfold rowQ sdQ
   dsimp only
   rw [hba,h6,List.length_map]
   rfl
  ·show H9 ((baseV R[j].v).getD 0)=_
   rw [hba,List.append_nil];exact h7
  ·show (baseV R[j].v).getD 0≠_
   rw [hba];exact hnb _ _ hT8.w
  ·show (baseV R[j].v).getD 0≠_
   rw [hba];exact hnb _ _ hT8.l
 have hRm':R.map seE=sequencesM F L1 (matchesM F) (bOf b F):=hRm
 rw [←hRm'] at hLv
 generalize hRES:seqAllM Y C F (R.map seE) N1 L1=RES at hLv
 refine WC.loop (D:=Int×List Int×List Int) (fun x=>[(4,.slice none 0 0),(5,.int .i64 0),(7,.pointer (some ⟨t,0,none⟩)),(51,vo),(52,.int .i64 R.length),(53,.int .i64 x.1)])
  (fun x s1=>s.next≤s1.next∧0≤x.1∧x.1≤R.length∧seqAllM Y C F ((R.map seE).drop x.1.toNat) x.2.1 x.2.2=RES∧∃ HH,Models ro s1 HH∧TextH HH (wN ⟨t,c,f,w,l,m,C.length,C,F,F,List.replicate C.length 0,matchesM F,bOf b F,H⟩ x.2.2 x.2.1) ∧
   (∀ j (hj:j<R.length),SeqH HH (wN ⟨t,c,f,w,l,m,C.length,C,F,F,List.replicate C.length 0,matchesM F,bOf b F,H⟩ x.2.2 x.2.1) (sdQ R[j]))∧SlE HH vo (R.map fun r=>ptrV r.q))
  (fun x=>R.length-x.1.toNat) (0,N1,L1) ?_ ⟨by omega,Int.le_refl _,by simp,hRES,H9,hM9,hT9,hS9,hout⟩ ?_
 ·exact Ho
 rintro ⟨i,N,L⟩ g10 s10 ⟨hn10,hi0,hi1,hres,HH,hM10,hT10,hS10,hsl10⟩
 dsimp only at hn10 hi0 hi1 hres hM10 hT10 hS10 ⊢
 refine WC.seq (Rg (Co (Lt (z:=Nl (WC.seq ?_)))))
 refine WC.condD rfl (fun hlt hltb=>?_) (fun hlt hltb=>?_)
 ·have hj:i.toNat<R.length:=by omega
  obtain ⟨av,rfl,hav⟩:∃ av,vo = .slice (some ⟨av,0,none⟩) R.length R.length∧HH av=some (.row 1 (R.map fun r=>ptrV r.q)):=by
   rcases hsl10 with ⟨_,h⟩ | ⟨_,a,h1,h2⟩
   ·rw [List.map_eq_nil_iff] at h;rw [h] at hj;simp at hj
   ·rw [hlm] at h1;exact ⟨a,h1,h2⟩
  have hget:(R.map fun r=>ptrV r.q)[0+i.toNat*1]?=some (ptrV R[i.toNat].q):=by
   rw [show 0+i.toNat*1=i.toNat by omega,List.getElem?_map,List.getElem?_eq_getElem hj];rfl
  have hdrop:(R.map seE).drop i.toNat=seE R[i.toNat]::(R.map seE).drop (i+1).toNat:=by
   rw [List.drop_eq_getElem_cons (by rw [List.length_map];exact hj),List.getElem_map,show i.toNat+1=(i+1).toNat by omega]
  rw [hdrop] at hres
  simp only [seqAllM,seqStepM] at hres
  have hNl:N.length=C.length:=hT10.nN
  have hLl:L.length=C.length:=hT10.nL
  refine WC.skip (WC.seq (WC.block (WC.seq (Rg (Co (Ix (z:=Co (Ld (z:=Av (z:=Nl (WC.seq (Rg (Mv (z:=Co ?_))))))))))))))
  refine SV.callM rfl rfl (weak_sp hX0 hM10 hT10 (hS10 _ hj)) ?_
  rintro v s11 H11 hn11 hM11 ⟨rfl,rfl⟩
  have hN11:=(weakM_length (A:=(sdQ R[i.toNat]).A) (F:=F) (st:=(sdQ R[i.toNat]).st) (N:=N)).trans hNl
  have hT11:=hT10.setN hN11
  have hS11:=fun j hj=>(hS10 j hj).setN (o:=.row 1 ((weakM (sdQ R[i.toNat]).A F (sdQ R[i.toNat]).st N).map (.int .i64))) (N':=weakM (sdQ R[i.toNat]).A F (sdQ R[i.toNat]).st N)
  refine Nl ?_
  have hT11':TextH (HH.up w (.row 1 ((weakM (sdQ R[i.toNat]).A F (sdQ R[i.toNat]).st N).map (.int .i64)))) (wN ⟨t,c,f,w,l,m,C.length,C,F,F,List.replicate C.length 0,matchesM F,bOf b F,H⟩ L (weakM (sdQ R[i.toNat]).A F (sdQ R[i.toNat]).st N)):=hT11
  have hS11':∀ j (hj:j<R.length),SeqH (HH.up w (.row 1 ((weakM (sdQ R[i.toNat]).A F (sdQ R[i.toNat]).st N).map (.int .i64)))) (wN ⟨t,c,f,w,l,m,C.length,C,F,F,List.replicate C.length 0,matchesM F,bOf b F,H⟩ L (weakM (sdQ R[i.toNat]).A F (sdQ R[i.toNat]).st N)) (sdQ R[j]):=hS11
  generalize hN1e:weakM (sdQ R[i.toNat]).A F (sdQ R[i.toNat]).st N=Na at hT11' hS11' hN11
  generalize hH11:HH.up w (.row 1 (Na.map (.int .i64)))=H11 at hT11' hS11'
  have hM11':Models ro s11 H11:=by rw [←hH11,←hN1e];exact hM11
  clear hM11 hT11 hS11
  refine thn_n (WC.seq (Rg (Mv (z:=Co ?_))))
  refine SV.callM rfl rfl (brackets_sp hX hM11' hT11' (hS11' _ hj)) ?_
  rintro v s12 H12 hn12 hM12 ⟨rfl,rfl⟩
  refine Nl ?_
  have hNb:(bracketsM Y C (sdQ R[i.toNat]).A F (sdQ R[i.toNat]).lv (sdQ R[i.toNat]).st Na).length=C.length:=(bracM_length _ _).trans hN11
  have hT12:TextH (H11.up w (.row 1 ((bracketsM Y C (sdQ R[i.toNat]).A F (sdQ R[i.toNat]).lv (sdQ R[i.toNat]).st Na).map (.int .i64)))) (wN ⟨t,c,f,w,l,m,C.length,C,F,F,List.replicate C.length 0,matchesM F,bOf b F,H⟩ L (bracketsM Y C (sdQ R[i.toNat]).A F (sdQ R[i.toNat]).lv (sdQ R[i.toNat]).st Na)):=hT11'.setN hNb
  have hS12:∀ j (hj:j<R.length),SeqH (H11.up w (.row 1 ((bracketsM Y C (sdQ R[i.toNat]).A F (sdQ R[i.toNat]).lv (sdQ R[i.toNat]).st Na).map (.int .i64)))) (wN ⟨t,c,f,w,l,m,C.length,C,F,F,List.replicate C.length 0,matchesM F,bOf b F,H⟩ L (bracketsM Y C (sdQ R[i.toNat]).A F (sdQ R[i.toNat]).lv (sdQ R[i.toNat]).st Na)) (sdQ R[j]):=fun j hj=>(hS11' j hj).setN
  generalize hNbe:bracketsM Y C (sdQ R[i.toNat]).A F (sdQ R[i.toNat]).lv (sdQ R[i.toNat]).st Na=Nb at hT12 hS12 hNb
  generalize hH12:H11.up w (.row 1 (Nb.map (.int .i64)))=H12 at hT12 hS12
  have hM12':Models ro s12 H12:=by rw [←hH12,←hNbe];exact hM12
  clear hM12
  refine thn_n (Rg (Mv (z:=Co ?_)))
  refine SV.callM rfl rfl (rest_sp hX0 hM12' hT12 (hS12 _ hj)) ?_
  rintro v s13 H13 hn13 hM13 ⟨rfl,rfl⟩
  refine Nl ?_
  have hNc:(restN (sdQ R[i.toNat]).A (sdQ R[i.toNat]).st (sdQ R[i.toNat]).en (sdQ R[i.toNat]).lv Nb).length=C.length:=restN_length.trans hNb
  have hT13:=(hT12.setN hNc).setL (L':=bumpM (sdQ R[i.toNat]).A (restN (sdQ R[i.toNat]).A (sdQ R[i.toNat]).st (sdQ R[i.toNat]).en (sdQ R[i.toNat]).lv Nb) (sdQ R[i.toNat]).lv (sdQ R[i.toNat]).A.length 0 L) ((bumpM_length _ _ _).trans hLl)
  have hsl13:SlE HH (.slice (some ⟨av,0,none⟩) R.length R.length) (R.map fun r=>ptrV r.q):=hsl10
  have hres2:seqAllM Y C F ((R.map seE).drop (i+1).toNat) (restN (sdQ R[i.toNat]).A (sdQ R[i.toNat]).st (sdQ R[i.toNat]).en (sdQ R[i.toNat]).lv Nb)
   (bumpM (sdQ R[i.toNat]).A (restN (sdQ R[i.toNat]).A (sdQ R[i.toNat]).st (sdQ R[i.toNat]).en (sdQ R[i.toNat]).lv Nb) (sdQ R[i.toNat]).lv (sdQ R[i.toNat]).A.length 0 L)=RES:=by
   rw [←hNbe,←hN1e];exact hres
  refine Rg (Co (Ad (z:=Mv (z:=Nl ?_))))
  refine ⟨rfl,(i+1,_,_),Ho,⟨by omega,by dsimp only;omega,by dsimp only;omega,hres2,_,hM13,hT13,fun j hj=>((hS12 j hj).setN (N':=restN (sdQ R[i.toNat]).A (sdQ R[i.toNat]).st (sdQ R[i.toNat]).en (sdQ R[i.toNat]).lv Nb)).setL (L':=bumpM (sdQ R[i.toNat]).A (restN (sdQ R[i.toNat]).A (sdQ R[i.toNat]).st (sdQ R[i.toNat]).en (sdQ R[i.toNat]).lv Nb) (sdQ R[i.toNat]).lv (sdQ R[i.toNat]).A.length 0 L),?_⟩,by dsimp only;omega⟩
  refine hsl13.keep fun ν o e1 e2=>?_
  have hw1:ν≠w:=fun e=>hno.1 (by rw [←e];exact e1)
  have hl1:ν≠l:=fun e=>hno.2 (by rw [←e];exact e1)
  exact Hp.up_ne hl1 (Hp.up_ne hw1 (by rw [←hH12];exact Hp.up_ne hw1 (by rw [←hH11];exact Hp.up_ne hw1 e2)))
 ·refine WC.exit (WC.seq ?_)
  rw [List.drop_of_length_le (by rw [List.length_map];omega)] at hres
  simp only [seqAllM] at hres
  refine Rg (Mv (z:=Co ?_))
  refine SV.callM rfl rfl (ends_sp hX0 hM10 hT10) ?_
  rintro v s11 H11 hn11 hM11 ⟨rfl,rfl⟩
  refine Nl ?_
  have hLl:(endsM F (bOf b F) L).length=C.length:=endsM_length.trans hT10.nL
  have hT11:=hT10.setL hLl
  obtain ⟨e11,cc11,cf11,cw11,cl11,cm11,ht11⟩:=hT11.t
  refine thn_n (WC.seq (Rg (Mv (z:=Co (Np (z:=Co (Fa (z:=Co (Ld (z:=Av (z:=Av (z:=Nl (WC.ret ?_)))))))))))))
  have eL2:levelsM Y C b=endsM F (bOf b F) L:=by rw [hLv,←hres]
  refine fin_two (e:=.ret) (v:=.slice (some ⟨l,0,none⟩) C.length (C.length+cl11)) (w:=.int .i64 0) rfl trivial rfl rfl (by omega) hM11 ⟨l,cl11,rfl,fun ν o e=>⟨hT11.kp ν o e,(hT11.bw ν o e).2⟩,?_,?_⟩
  ·rw [eL2];exact Hp.up_same
  ·rw [eL2];exact hLl
theorem levels_sp {Y:Exts} {s:St} {H:Hp} {c cc:Nat} {C:List Int} {b:Int} (hX:ExtOk X ro Y) (hM:Models ro s H) (hc:H c=some (.row 1 (C.map (.int .i64)))) (hb : -1≤b∧b≤1) (hn:C.length≤16384) :
 Sp X Try.prog ro 17 [.slice (some ⟨c,0,none⟩) C.length cc,.int .i64 b] s fun v H'=>∃ l cl,v = .tuple #[.slice (some ⟨l,0,none⟩) C.length cl,.int .i64 0]∧(∀ ν o,H ν=some o→H' ν=some o∧ν≠l)∧H' l=some (.row 1 ((levelsM Y C b).map (.int .i64)))∧(levelsM Y C b).length=C.length:=
 (levels_spc hX hM hc hb hn).mono fun v H' ⟨l,cl,h⟩=>⟨l,_,h⟩
def levelsBad (n:Nat) (b:Int):Int:=if b < -1∨1<b then 135 else if 16384<n then 133 else 0
theorem levels_no {Y:Exts} {s:St} {H:Hp} {c cc:Nat} {C:List Int} {b:Int} (hX:ExtOk X ro Y) (hM:Models ro s H) (hc:H c=some (.row 1 (C.map (.int .i64)))) (hb:levelsBad C.length b≠0) :
 Sp X Try.prog ro 17 [.slice (some ⟨c,0,none⟩) C.length cc,.int .i64 b] s fun v H'=>v = .tuple #[.slice none 0 0,.int .i64 (levelsBad C.length b)]∧H'=H:=by
 refine Bo hX.own Try.func17 Try.ntmps17 (z:=?_)
 refine WC.seq (Rg (Av (z:=Av (z:=Nl ?_))))
 by_cases h1:b < -1∨1<b
 ·have e1:levelsBad C.length b=135:=if_pos h1
  rw [e1]
  rcases dc (b < -1) with ⟨h2,h2b⟩ | ⟨h2,h2b⟩
  ·refine WC.seq (WC.block (WC.seq (Rg (Mv (z:=Co (Lt (z:=Mv (z:=Gn (z:=Gn (z:=Co (Pt (z:=Av (z:=Nl (Ct (z:=WC.seq (Rg (Av (z:=Av (z:=Nl (WC.ret ?_))))))))))))))))))))
   exact fin_two (e:=.ret) (v:=.slice none 0 0) (w:=.int .i64 135) rfl trivial rfl rfl (Nat.le_refl _) hM ⟨rfl,rfl⟩
  ·have h3b:decide (1<b)=true:=decide_eq_true (by omega)
   refine WC.seq (WC.block (WC.seq (Rg (Mv (z:=Co (Lt (z:=Mv (z:=Gy (z:=Mq (z:=Gy (z:=Gt (z:=Co (Pf (z:=Av (z:=Nl (Ct (z:=WC.seq (Rg (Av (z:=Av (z:=Nl (WC.ret ?_))))))))))))))))))))))
   exact fin_two (e:=.ret) (v:=.slice none 0 0) (w:=.int .i64 135) rfl trivial rfl rfl (Nat.le_refl _) hM ⟨rfl,rfl⟩
 ·have hn:16384<C.length:=by
   unfold levelsBad at hb
   rw [if_neg h1] at hb
   by_cases h:16384<C.length
   ·exact h
   ·rw [if_neg h] at hb;exact absurd rfl hb
  have e1:levelsBad C.length b=133:=by unfold levelsBad;rw [if_neg h1,if_pos hn]
  rw [e1]
  have h2b:decide (b < -1)=false:=decide_eq_false (by omega)
  have h3b:decide (1<b)=false:=decide_eq_false (by omega)
  have h4b:decide ((16384:Int)<C.length)=true:=decide_eq_true (by omega)
  refine WC.seq (WC.block (WC.seq (Rg (Mv (z:=Co (Lt (z:=Mv (z:=Gy (z:=Mq (z:=Gy (z:=Gt (z:=Co (Pf (z:=Av (z:=Nl (Cf (z:=WC.seq (Rg (Mv (z:=Co (Ln (z:=Co (Gt (z:=Av (z:=Nl (Ct (z:=WC.seq (Rg (Av (z:=Av (z:=Nl (WC.ret ?_))))))))))))))))))))))))))))))))
  exact fin_two (e:=.ret) (v:=.slice none 0 0) (w:=.int .i64 133) rfl trivial rfl rfl (Nat.le_refl _) hM ⟨rfl,rfl⟩
def isOwn (c:Int):Prop:=c≠0∧c≠1
instance (c:Int):Decidable (isOwn c):=inferInstanceAs (Decidable (_∧_))
theorem own_sp {s:St} {H:Hp} {c:Int} (hX:OwnX X) (hM:Models ro s H):Sp X Try.prog ro 49 [.int .i64 c] s fun v H'=>v = .bool (decide (isOwn c))∧H'=H:=by
 refine Bo hX Try.func49 Try.ntmps49 (z:=?_)
 refine WC.seq (Rg (Av (z:=Nl (WC.seq (Rg (Mv (z:=Co (Ni (z:=Mv (z:=?_))))))))))
 refine WO.guardDT rfl rfl rfl (fun hg1_3 hh1_3=>SV.moveV (by constructor) ?_) (fun hg1_3 hh1_3=>?_) (by decide)
 all_goals (first | refine Gy (z:=Ni (z:=?_)) | refine Gn (z:=?_))
 all_goals (first | refine Co (Pt (z:=?_)) | refine Co (Pf (z:=?_)))
 all_goals refine Av (z:=Nl ?_)
 all_goals (refine WC.ret ?_;refine fin_one (v:=.bool _) rfl trivial rfl (Nat.le_refl _) hM ⟨?_,rfl⟩;unfold isOwn;simp [*])
def fillM (x:Int):Nat→Int→List Int→List Int
 | 0,_,S=>S
 | r+1,j,S=>fillM x r (j+1) (S.set j.toNat x)
theorem fillM_length {x:Int}:∀ (r:Nat) (j:Int) (S:List Int),(fillM x r j S).length=S.length
 | 0,_,_=>rfl
 | r+1,j,S=>(fillM_length r _ _).trans List.length_set
def scrM (T:List Int):Nat→Int→Int→List Int→List Int
 | 0,_,_,S=>S
 | r+1,i,last,S=>
  if isOwn (rd T i) then scrM T r (i+1) (rd T i) ((if last=0 then fillM (rd T i) i.toNat 0 S else S).set i.toNat (rd T i))
  else scrM T r (i+1) last (S.set i.toNat last)
theorem scrM_length {T:List Int}:∀ (r:Nat) (i last:Int) (S:List Int),(scrM T r i last S).length=S.length
 | 0,_,_,_=>rfl
 | r+1,i,last,S=>by
  simp only [scrM]
  split
  ·refine (scrM_length r _ _ _).trans (List.length_set.trans ?_)
   split
   ·exact fillM_length _ _ _
   ·rfl
  ·exact (scrM_length r _ _ _).trans List.length_set
def scriptsM (Y:Exts) (C:List Int):List Int:=scrM (C.map Y.LS) C.length 0 0 (List.replicate C.length 0)
theorem scriptsM_length {Y:Exts} {C:List Int}:(scriptsM Y C).length=C.length:=(scrM_length _ _ _ _).trans List.length_replicate
set_option maxHeartbeats 4000000 in
theorem scripts_sp {Y:Exts} {s:St} {H:Hp} {c cc:Nat} {C:List Int} (hX:ExtOk X ro Y) (hM:Models ro s H) (hc:H c=some (.row 1 (C.map (.int .i64)))) (hbig:C.length≤16384) :
 Sp X Try.prog ro 26 [.slice (some ⟨c,0,none⟩) C.length cc] s fun v H'=>∃ a,v = .slice (some ⟨a,0,none⟩) C.length C.length∧(∀ ν o,H ν=some o→ν≠a)∧H'=H.up a (.row 1 ((scriptsM Y C).map (.int .i64))):=by
 have hX0:=hX.own
 refine Bo hX.own Try.func26 Try.ntmps26 (z:=?_)
 refine WC.seq (Rg (Av (z:=Nl (WC.seq (Rg (Mv (z:=Co (Ln (z:=?_)))))))))
 refine WO.cons (SV.makeSliceM (by assumption) rfl rfl (by refine ⟨?_,?_,?_,?_,rfl,by decide⟩ <;> omega) (fun a1_2 s1_2 hf1_2 hne1_2 hn1_2 hM1_2=>?_)) (by decide)
 refine Av (z:=Nl ?_)
 rw [rep_ints] at hM1_2
 rw [Int.toNat_natCast] at hM1_2 ⊢
 refine WC.seq (Rg (Av (z:=Nl (WC.seq (WC.seq (Rg (Mv (z:=Co (Ln (z:=Mv (z:=Nl (WC.block ?_))))))))))))
 generalize hRES:scriptsM Y C=RES
 refine WC.loop (D:=Int×Int×List Int) (fun x=>[(0,.slice (some ⟨c,0,none⟩) C.length cc),(2,.slice none 0 0),(3,.slice (some ⟨a1_2,0,none⟩) C.length C.length),(4,.int .i64 x.2.1),(12,.int .i64 C.length),(13,.int .i64 x.1)])
  (fun x s1=>s.next≤s1.next∧0≤x.1∧x.1≤C.length∧x.2.2.length=C.length∧scrM (C.map Y.LS) (C.length-x.1.toNat) x.1 x.2.1 x.2.2=RES∧Models ro s1 (H.up a1_2 (.row 1 (x.2.2.map (.int .i64)))))
  (fun x=>C.length-x.1.toNat) (0,0,List.replicate C.length 0) ?_ ⟨by omega,Int.le_refl _,by simp,List.length_replicate,hRES,hM1_2⟩ ?_
 ·exact Ho
 rintro ⟨i,last,S⟩ g s1 ⟨hn1,hi0,hi1,hS,hres,hM1⟩
 dsimp only at hn1 hi0 hi1 hS hres hM1 ⊢
 have hc1:(H.up a1_2 (.row 1 (S.map (.int .i64)))) c=some (.row 1 (C.map (.int .i64))):=Hp.up_fresh hne1_2 hc
 have ha1:(H.up a1_2 (.row 1 (S.map (.int .i64)))) a1_2=some (.row 1 (S.map (.int .i64))):=Hp.up_same
 refine WC.seq (Rg (Co (Lt (z:=Nl (WC.seq ?_)))))
 refine WC.condD rfl (fun hlt hltb=>?_) (fun hlt hltb=>?_)
 ·rw [show C.length-i.toNat=(C.length-(i+1).toNat)+1 by omega] at hres
  simp only [scrM] at hres
  have eT:rd (C.map Y.LS) i=Y.LS (rd C i):=by
   unfold rd
   rw [List.getD_eq_getElem?_getD,List.getElem?_map,List.getD_eq_getElem?_getD,List.getElem?_eq_getElem (by omega)];rfl
  rw [eT] at hres
  refine WC.skip (WC.seq (WC.block (WC.seq (Rg (Mv (z:=Av (z:=Nl (WC.seq (Rg (Mv (z:=Mv (z:=Co (Ix (z:=Co (Ld (z:=Co ?_))))))))))))))))
  refine SV.callM rfl rfl (hX.look _ _ _ hM1) ?_
  rintro v s2 H2 hn2 hM2 ⟨rfl,rfl⟩
  refine WO.cons (SV.field rfl rfl ?_) (by decide)
  refine Av (z:=Nl ?_)
  generalize Y.LS (rd C i)=sc at hres ⊢
  refine WC.seq (WC.seq (Rg (Mv (z:=Co ?_))))
  refine SV.callM rfl rfl (own_sp hX0 hM2) ?_
  rintro v s3 H3 hn3 hM3 ⟨rfl,rfl⟩
  refine Nl ?_
  refine WC.condD rfl (fun how howb=>?_) (fun how howb=>?_)
  ·rw [if_pos how] at hres
   refine WC.seq (WC.seq (Rg (Mv (z:=Co (Ei (z:=Nl ?_))))))
   refine WC.condD rfl (fun h0 h0b=>?_) (fun h0 h0b=>?_)
   ·rw [if_pos h0] at hres
    refine WC.seq (Rg (Mv (z:=Mv (z:=Nl (WC.block ?_)))))
    generalize hFI:fillM sc i.toNat 0 S=FI at hres
    have hFl:FI.length=C.length:=by rw [←hFI];exact (fillM_length _ _ _).trans hS
    refine WC.loop (D:=Int×List Int) (fun x=>[(0,.slice (some ⟨c,0,none⟩) C.length cc),(2,.slice none 0 0),(3,.slice (some ⟨a1_2,0,none⟩) C.length C.length),(5,.int .i64 i),(6,.int .i64 sc),(12,.int .i64 C.length),(13,.int .i64 i),(26,.int .i64 i),(27,.int .i64 x.1)])
     (fun x s4=>s.next≤s4.next∧0≤x.1∧x.1≤i∧x.2.length=C.length∧fillM sc (i-x.1).toNat x.1 x.2=FI∧Models ro s4 (H.up a1_2 (.row 1 (x.2.map (.int .i64)))))
     (fun x=>(i-x.1).toNat) (0,S) ?_ ⟨by omega,Int.le_refl _,hi0,hS,by rw [←hFI,Int.sub_zero],hM3⟩ ?_
    ·exact Ho
    rintro ⟨j,S4⟩ g4 s4 ⟨hn4,hj0,hj1,hS4,hres4,hM4⟩
    dsimp only at hn4 hj0 hj1 hS4 hres4 hM4 ⊢
    have ha4:(H.up a1_2 (.row 1 (S4.map (.int .i64)))) a1_2=some (.row 1 (S4.map (.int .i64))):=Hp.up_same
    refine WC.seq (Rg (Co (Lt (z:=Nl (WC.seq ?_)))))
    refine WC.condD rfl (fun hjl hjlb=>?_) (fun hjl hjlb=>?_)
    ·rw [show (i-j).toNat=(i-(j+1)).toNat+1 by omega] at hres4
     simp only [fillM] at hres4
     refine WC.skip (WC.seq (WC.block (WC.seq (Rg (Mv (z:=Av (z:=Nl (Rg (Mv (z:=Mv (z:=Mv (z:=Co (Ix (z:=WO.cons0 (Sv (z:=fun s12_4 hn12_4 hM12_4=>Nl ?_))))))))))))))))
     rw [ints_set (by omega) (by omega),Hp.up_up] at hM12_4
     refine Rg (Co (Ad (z:=Mv (z:=Nl ?_))))
     exact ⟨rfl,(j+1,_),Ho,⟨by omega,by dsimp only;omega,by dsimp only;omega,List.length_set.trans hS4,hres4,hM12_4⟩,by dsimp only;omega⟩
    ·rw [show (i-j).toNat=0 by omega] at hres4
     simp only [fillM] at hres4
     rw [←hres4] at hres
     clear hS ha1
     have hS:=hS4
     refine WC.exit (Rg (Mv (z:=Av (z:=Nl (Rg (Mv (z:=Mv (z:=Mv (z:=Co (Ix (z:=WO.cons0 (Sv (z:=fun s15_4 hn15_4 hM15_4=>Nl ?_)))))))))))))
     rw [ints_set (by omega) (by omega),Hp.up_up] at hM15_4
     refine Rg (Co (Ad (z:=Mv (z:=Nl ?_))))
     exact ⟨rfl,(i+1,sc,_),Ho,⟨by omega,by dsimp only;omega,by dsimp only;omega,List.length_set.trans (by exact hS),hres,hM15_4⟩,by dsimp only;omega⟩
   ·rw [if_neg h0] at hres
    refine WC.skip (Rg (Mv (z:=Av (z:=Nl (Rg (Mv (z:=Mv (z:=Mv (z:=Co (Ix (z:=WO.cons0 (Sv (z:=fun s15_4 hn15_4 hM15_4=>Nl ?_)))))))))))))
    rw [ints_set (by omega) (by omega),Hp.up_up] at hM15_4
    refine Rg (Co (Ad (z:=Mv (z:=Nl ?_))))
    exact ⟨rfl,(i+1,sc,_),Ho,⟨by omega,by dsimp only;omega,by dsimp only;omega,List.length_set.trans (by exact hS),hres,hM15_4⟩,by dsimp only;omega⟩
  ·rw [if_neg how] at hres
   refine WC.skip (Rg (Mv (z:=Mv (z:=Mv (z:=Co (Ix (z:=WO.cons0 (Sv (z:=fun s15_4 hn15_4 hM15_4=>Nl ?_)))))))))
   rw [ints_set (by omega) (by omega),Hp.up_up] at hM15_4
   refine Rg (Co (Ad (z:=Mv (z:=Nl ?_))))
   exact ⟨rfl,(i+1,last,_),Ho,⟨by omega,by dsimp only;omega,by dsimp only;omega,List.length_set.trans (by exact hS),hres,hM15_4⟩,by dsimp only;omega⟩
 ·rw [show C.length-i.toNat=0 by omega] at hres
  simp only [scrM] at hres
  refine WC.exit (WC.seq (Rg (Mv (z:=Av (z:=Nl (WC.ret ?_))))))
  exact fin_one (e:=.ret) (v:=.slice _ _ _) rfl trivial rfl hn1 hM1 ⟨a1_2,rfl,hne1_2,by rw [hres]⟩
structure RunE where
 (f t l s:Int)
def enc4 (e:RunE):List Value:=[.int .i64 e.f,.int .i64 e.t,.int .i64 e.l,.int .i64 e.s]
theorem enc4_len:∀ e,(enc4 e).length=4:=fun _=>rfl
def splitStep (L S:List Int) (i:Int) (R:List RunE):List RunE:=
 match R.getLast? with
 | some r=>if r.l=rd L i∧r.s=rd S i then R.dropLast++[⟨r.f,i+1,r.l,r.s⟩] else R++[⟨i,i+1,rd L i,rd S i⟩]
 | none=>[⟨i,i+1,rd L i,rd S i⟩]
def splitM (L S:List Int):Nat→Int→List RunE→List RunE
 | 0,_,R=>R
 | n+1,i,R=>splitM L S n (i+1) (splitStep L S i R)
structure SplI (ro:Nat) (s1:St) (H H1:Hp) (v:Value) (i:Int) (R:List RunE):Prop where
 md:Models ro s1 H1
 kp:∀ ν o,H ν=some o→H1 ν=some o
 sl:SlO H1 v 4 R.length (R.flatMap enc4)
 no:∀ ν o,H ν=some o→baseV v≠some ν
 ln:(R.length:Int)≤i
theorem src4 {H:Hp} {a es c:Nat} {e:RunE} (h:H a=some (.row es (enc4 e))):Src Try.prog ro H (.slice (some ⟨a,0,none⟩) 1 c) 4 1 (enc4 e):=
 Src.row h rfl rfl (fun i v hv=>by rw [Nat.zero_add];exact hv)
theorem SplI.push {s1 s2:St} {H H1 H2:Hp} {v v':Value} {i:Int} {R:List RunE} {a:Nat} {x:Go.Ab.Obj} {e:RunE} (h:SplI ro s1 H H1 v i R) (ha:∀ ν o,H1 ν=some o→ν≠a) (hM:Models ro s2 H2) (hv:SlO H2 v' 4 (R.length+1) (R.flatMap enc4++enc4 e))
 (hk:KeptBut (H1.up a x) H2 v) (hn:NewOr (H1.up a x) v v'):SplI ro s2 H H2 v' (i+1) (R++[e]) where
 md:=hM
 kp:=fun ν o e=>hk ν o (Hp.up_ne (ha ν o (h.kp ν o e)) (h.kp ν o e)) (h.no ν o e)
 sl:=by simpa [List.flatMap_append] using hv
 no:=fun ν o e e2=>by
  rcases hn ν e2 with e3 | e3
  ·exact h.no ν o e e3
  ·rw [Hp.up_ne (ha ν o (h.kp ν o e)) (h.kp ν o e)] at e3;cases e3
 ln:=by have:=h.ln;rw [List.length_append,List.length_singleton];omega
theorem SplI.last {s1 s2:St} {H H1:Hp} {ν c:Nat} {i:Int} {R:List RunE} {r:RunE} {ws:List Value} {x:Int} (h:SplI ro s1 H H1 (.slice (some ⟨ν,0,none⟩) (R++[r]).length c) i (R++[r])) (hν:H1 ν=some (.row 4 ws)) (hl:ws.length=c*4) (hnc:(R++[r]).length≤c)
 (htk:ws.take ((R++[r]).length*4)=(R++[r]).flatMap enc4) (hM:Models ro s2 (H1.up ν (.row 4 (ws.set (R.length*4+1) (.int .i64 x))))):SplI ro s2 H (H1.up ν (.row 4 (ws.set (R.length*4+1) (.int .i64 x)))) (.slice (some ⟨ν,0,none⟩) (R++[r]).length c) (i+1) (R++[⟨r.f,x,r.l,r.s⟩]) where
 md:=hM
 kp:=fun μ o e=>Hp.up_ne (fun e2=>h.no μ o e (by rw [e2];rfl)) (h.kp μ o e)
 sl:=by
  refine .inr ⟨ν,c,_,by simp,Hp.up_same,by rw [List.length_set];exact hl,by simpa using hnc,?_⟩
  have e1:(R++[(⟨r.f,x,r.l,r.s⟩:RunE)]).length=(R++[r]).length:=by simp
  rw [e1,List.take_set,htk,List.flatMap_append,List.flatMap_append,List.set_append_right _ _ (by rw [flat_length enc4 4 enc4_len];omega),flat_length enc4 4 enc4_len,show R.length*4+1-R.length*4=1 by omega]
  rfl
 no:=h.no
 ln:=by have:=h.ln;rw [List.length_append,List.length_singleton] at *;omega
set_option maxHeartbeats 4000000 in
theorem split_sp {Y:Exts} {s:St} {H:Hp} {c cc:Nat} {C:List Int} {b:Int} (hX:ExtOk X ro Y) (hM:Models ro s H) (hc:H c=some (.row 1 (C.map (.int .i64)))) (hb:levelsBad C.length b=0) :
 Sp X Try.prog ro 29 [.slice (some ⟨c,0,none⟩) C.length cc,.int .i64 b] s fun v H'=>∃ w,v = .tuple #[w,.int .i64 0]∧(∀ ν o,H ν=some o→H' ν=some o∧baseV w≠some ν) ∧
  SlO H' w 4 (splitM (levelsM Y C b) (scriptsM Y C) C.length 0 []).length ((splitM (levelsM Y C b) (scriptsM Y C) C.length 0 []).flatMap enc4):=by
 have hX0:=hX.own
 have hbn:(-1≤b∧b≤1)∧C.length≤16384:=by
  unfold levelsBad at hb
  split at hb
  ·cases hb
  ·split at hb
   ·cases hb
   ·omega
 refine Bo hX.own Try.func29 Try.ntmps29 (z:=?_)
 refine WC.seq (Rg (Av (z:=Av (z:=Nl (WC.seq (Rg (Mv (z:=Mv (z:=Co ?_)))))))))
 refine SV.callM rfl rfl (levels_sp hX hM hc hbn.1 hbn.2) ?_
 rintro v s1 H1 hn1 hM1 ⟨l,cl,rfl,hkp1,hl1,hLl⟩
 refine Mv (z:=Co (Et (z:=Co (Et (z:=Av (z:=Av (z:=Nl (WC.seq (WC.seq (Rg (Mv (z:=Co (Ni (z:=Nl (Cf (z:=WC.skip (WC.seq ?_)))))))))))))))))
 have hc1:=(hkp1 _ _ hc).1
 refine Rg (Mv (z:=Co ?_))
 refine SV.callM rfl rfl (scripts_sp hX hM1 hc1 hbn.2) ?_
 rintro v s2 H2 hn2 hM2 ⟨a,rfl,hane,rfl⟩
 refine Av (z:=Nl ?_)
 have hSl:(scriptsM Y C).length=C.length:=scriptsM_length
 generalize levelsM Y C b=L at hl1 hLl
 generalize scriptsM Y C=S at hM2 hSl
 have hl2:(H1.up a (.row 1 (S.map (.int .i64)))) l=some (.row 1 (L.map (.int .i64))):=Hp.up_fresh hane hl1
 have ha2:(H1.up a (.row 1 (S.map (.int .i64)))) a=some (.row 1 (S.map (.int .i64))):=Hp.up_same
 have hkp2:∀ ν o,H ν=some o→(H1.up a (.row 1 (S.map (.int .i64)))) ν=some o:=fun ν o e=>Hp.up_fresh hane (hkp1 ν o e).1
 generalize H1.up a (.row 1 (S.map (.int .i64)))=H2 at hM2 hl2 ha2 hkp2
 refine WC.seq (Rg (Av (z:=Nl (WC.seq (WC.seq (Rg (Mv (z:=Co (Ln (z:=Mv (z:=Nl (WC.block ?_))))))))))))
 generalize hRES:splitM L S C.length 0 []=RES
 refine WC.loop (D:=Int×Value×List RunE) (fun x=>[(0,.slice (some ⟨c,0,none⟩) C.length cc),(4,.slice none 0 0),(5,.int .i64 0),(6,.slice (some ⟨l,0,none⟩) C.length cl),(8,.slice (some ⟨a,0,none⟩) C.length C.length),(9,x.2.1),(24,.int .i64 C.length),(25,.int .i64 x.1)])
  (fun x s3=>s.next≤s3.next∧0≤x.1∧x.1≤C.length∧splitM L S (C.length-x.1.toNat) x.1 x.2.2=RES∧∃ H3,SplI ro s3 H2 H3 x.2.1 x.1 x.2.2)
  (fun x=>C.length-x.1.toNat) (0,.slice none 0 0,[]) ?_ ⟨by omega,Int.le_refl _,by simp,hRES,H2,{ md:=hM2,kp:=fun _ _ h=>h,sl:=.inl ⟨rfl,rfl,rfl⟩,no:=fun _ _ _ h=>(by cases h),ln:=by simp }⟩ ?_
 ·exact Ho
 rintro ⟨i,v,R⟩ g s3 ⟨hn3,hi0,hi1,hres,H3,hI⟩
 dsimp only at hn3 hi0 hi1 hres hI ⊢
 have hM3:=hI.md
 have hl3:=hI.kp _ _ hl2
 have ha3:=hI.kp _ _ ha2
 have hsl:=hI.sl
 have hln:=hI.ln
 refine WC.seq (Rg (Co (Lt (z:=Nl (WC.seq ?_)))))
 refine WC.condD rfl (fun hlt hltb=>?_) (fun hlt hltb=>?_)
 ·rw [show C.length-i.toNat=(C.length-(i+1).toNat)+1 by omega] at hres
  simp only [splitM] at hres
  refine WC.skip (WC.seq (WC.block (WC.seq (Rg (Mv (z:=Av (z:=Nl (WC.seq (Rg ?_)))))))))
  refine WO.cons (SV.move ?_) (by decide)
  refine Co (Lo (z:=Co (Sb (z:=Av (z:=Nl ?_)))))
  rcases List.eq_nil_or_concat R with rfl | ⟨R0,r,hR⟩
  ·have e1:splitStep L S i []=[]++[⟨i,i+1,rd L i,rd S i⟩]:=rfl
   rw [e1] at hres
   refine WC.seq (WC.dr [0,1,2,3,4,5,6,7,8,9,10,11,12,13,14,15,16,17,18,19,20,21,22,23,24,25] (z:=Mw (z:=Cd (Ge (z:=Mw (z:=Hn (z:=Hn (z:=Hn (z:=Hn (z:=Hn (z:=Hn (z:=Hn (z:=Hn (z:=Hn (z:=Hn (z:=Cd (Pf (z:=Mw (z:=Hn (z:=Hn (z:=Hn (z:=Hn (z:=Hn (z:=Hn (z:=Hn (z:=Hn (z:=Hn (z:=Hn (z:=Cd (Pf (z:=Nz (Cf (z:=WC.dr [0,1,2,3,4,5,6,7,8,9,10,11,12,13,14,15] (z:=?_))))))))))))))))))))))))))))))))))
   refine WD.cons (SV.move ?_) (by decide)
   refine Mw (z:=Mw (z:=Cd (Ad (z:=Mw (z:=Mw (z:=Cd (Ix (z:=Cd (Ld (z:=Mw (z:=Mw (z:=Cd (Ix (z:=Cd (Ld (z:=?_))))))))))))))))
   refine WD.cons (SV.build rfl ?_) (by decide)
   refine Cd (Bs (z:=fun a12_13 s12_13 hf12_13 hne12_13 hn12_13 hM12_13=>Cd ?_))
   have hv12:SlO (H3.up a12_13 (.row 4 (enc4 ⟨i,i+1,rd L i,rd S i⟩))) (v) 4 ([]).length (([]).flatMap enc4):=hsl.up (fun h=>by obtain ⟨o,ho⟩:=hsl.base_some h;exact hne12_13 _ _ ho rfl)
   refine SV.appendM (t:=40) (u:=40) (e:=48) (e':=48) (sz:=4) (sz':=4) (n:=([]).length) (m:=1) (vs:=([]).flatMap enc4) (xs:=enc4 ⟨i,i+1,rd L i,rd S i⟩) rfl (by assumption) rfl rfl hv12 (src4 Hp.up_same) rfl (by omega) (fun v8 s8 H8 hn8 hM8 hv8 hk8 hnew8 _=>?_)
   refine WD.cons (SV.assign ?_) (by decide)
   refine Nz (Rg (Co (Ad (z:=Mv (z:=Nl ?_)))))
   exact ⟨rfl,(i+1,v8,[]++[⟨i,i+1,rd L i,rd S i⟩]),Ho,⟨by omega,by dsimp only;omega,by dsimp only;omega,hres,_,hI.push hne12_13 hM8 hv8 hk8 hnew8⟩,by dsimp only;omega⟩
  ·rw [List.concat_eq_append] at hR
   subst hR
   have hgb:decide (0≤((R0++[r]).length:Int)-1)=true:=decide_eq_true (by rw [List.length_append,List.length_singleton];omega)
   have hle:(R0++[r]).length=R0.length+1:=by simp
   have e1:splitStep L S i (R0++[r])=if r.l=rd L i∧r.s=rd S i then R0++[⟨r.f,i+1,r.l,r.s⟩] else (R0++[r])++[⟨i,i+1,rd L i,rd S i⟩]:=by unfold splitStep;simp
   rw [e1] at hres
   obtain ⟨ν,cv,ws,rfl,hν,hwl,hnc,htk,hat⟩:=hsl.at enc4_len rfl (by omega)
   have hw2:ws[0+(((R0++[r]).length:Int)-1).toNat*4+2]?=some (.int .i64 r.l):=by
    have:=hat R0.length (by omega) 2 (.int .i64 r.l) (by simp [enc4])
    rw [show 0+(((R0++[r]).length:Int)-1).toNat*4+2=R0.length*4+2 by omega];exact this
   have hw3:ws[0+(((R0++[r]).length:Int)-1).toNat*4+3]?=some (.int .i64 r.s):=by
    have:=hat R0.length (by omega) 3 (.int .i64 r.s) (by simp [enc4])
    rw [show 0+(((R0++[r]).length:Int)-1).toNat*4+3=R0.length*4+3 by omega];exact this
   refine WC.seq (WC.dr [0,1,2,3,4,5,6,7,8,9,10,11,12,13,14,15,16,17,18,19,20,21,22,23,24,25] (z:=Mw (z:=Cd (Ge (z:=Mw (z:=Hy (z:=Mq (z:=Hy (z:=Mq (z:=Hy (z:=Ix (z:=Hy (z:=Fa (z:=Hy (z:=Ld (z:=Hy (z:=Mq (z:=Hy (z:=Mq (z:=Hy (z:=Ix (z:=Hy (z:=Ld (z:=Hy (z:=Ei (z:=Cd (Pt (z:=Mw (z:=?_)))))))))))))))))))))))))))))
   all_goals (refine WD.guardDT rfl rfl rfl (fun hg10_15 hh10_15=>SV.moveV (by constructor) ?_) (fun hg10_15 hh10_15=>?_) (by decide))
   all_goals (first | refine Hy (z:=Mq (z:=?_)) | refine Hn (z:=?_))
   all_goals (first | refine Hy (z:=Ix (z:=?_)) | refine Hn (z:=?_))
   all_goals (first | refine Hy (z:=Fa (z:=?_)) | refine Hn (z:=?_))
   all_goals (first | refine Hy (z:=Ld (z:=?_)) | refine Hn (z:=?_))
   all_goals (first | refine Hy (z:=Mq (z:=?_)) | refine Hn (z:=?_))
   all_goals (first | refine Hy (z:=Mq (z:=?_)) | refine Hn (z:=?_))
   all_goals (first | refine Hy (z:=Ix (z:=?_)) | refine Hn (z:=?_))
   all_goals (first | refine Hy (z:=Ld (z:=?_)) | refine Hn (z:=?_))
   all_goals (first | refine Hy (z:=Ei (z:=?_)) | refine Hn (z:=?_))
   all_goals (first | refine Cd (Pt (z:=?_)) | refine Cd (Pf (z:=?_)))
   all_goals refine Nz ?_
   ·skip
    refine WC.condD rfl (fun hs hsb=>?_) (fun hs hsb=>?_)
    ·rw [if_pos ⟨by assumption,hs⟩] at hres
     refine Rg (Mv (z:=Mv (z:=Mv (z:=Co (Ad (z:=Co (Ix (z:=Co (Fa (z:=WO.cons0 (Sv (z:=fun s11_6 hn11_6 hM11_6=>Nl ?_))))))))))))
     rw [show 0+(((R0++[r]).length:Int)-1).toNat*4+1=R0.length*4+1 by omega] at hM11_6
     have hI2:=hI.last hν hwl hnc htk hM11_6
     refine Rg (Co (Ad (z:=Mv (z:=Nl ?_))))
     refine ⟨rfl,(i+1,.slice (some ⟨ν,0,none⟩) (R0++[r]).length cv,R0++[⟨r.f,i+1,r.l,r.s⟩]),Ho,⟨by omega,by dsimp only;omega,by dsimp only;omega,hres,_,hI2⟩,by dsimp only;omega⟩
    ·rw [if_neg (fun h=>hs h.2)] at hres
     refine WC.dr [0,1,2,3,4,5,6,7,8,9,10,11,12,13,14,15] (z:=Mw (z:=Mw (z:=Mw (z:=Cd (Ad (z:=Mw (z:=Mw (z:=Cd (Ix (z:=Cd (Ld (z:=Mw (z:=Mw (z:=Cd (Ix (z:=Cd (Ld (z:=?_))))))))))))))))))
     refine WD.cons (SV.build rfl ?_) (by decide)
     refine Cd (Bs (z:=fun a12_13 s12_13 hf12_13 hne12_13 hn12_13 hM12_13=>Cd ?_))
     have hv12:SlO (H3.up a12_13 (.row 4 (enc4 ⟨i,i+1,rd L i,rd S i⟩))) (.slice (some ⟨ν,0,none⟩) (R0++[r]).length cv) 4 (R0++[r]).length ((R0++[r]).flatMap enc4):=hsl.up (fun h=>by obtain ⟨o,ho⟩:=hsl.base_some h;exact hne12_13 _ _ ho rfl)
     refine SV.appendM (t:=40) (u:=40) (e:=48) (e':=48) (sz:=4) (sz':=4) (n:=(R0++[r]).length) (m:=1) (vs:=(R0++[r]).flatMap enc4) (xs:=enc4 ⟨i,i+1,rd L i,rd S i⟩) rfl (by assumption) rfl rfl hv12 (src4 Hp.up_same) rfl (by omega) (fun v8 s8 H8 hn8 hM8 hv8 hk8 hnew8 _=>?_)
     refine WD.cons (SV.assign ?_) (by decide)
     refine Nz (Rg (Co (Ad (z:=Mv (z:=Nl ?_)))))
     exact ⟨rfl,(i+1,v8,R0++[r]++[⟨i,i+1,rd L i,rd S i⟩]),Ho,⟨by omega,by dsimp only;omega,by dsimp only;omega,hres,_,hI.push hne12_13 hM8 hv8 hk8 hnew8⟩,by dsimp only;omega⟩
   ·rw [if_neg (fun h=>absurd h.1 (by assumption))] at hres
    refine Cf (z:=WC.dr [0,1,2,3,4,5,6,7,8,9,10,11,12,13,14,15] (z:=Mw (z:=Mw (z:=Mw (z:=Cd (Ad (z:=Mw (z:=Mw (z:=Cd (Ix (z:=Cd (Ld (z:=Mw (z:=Mw (z:=Cd (Ix (z:=Cd (Ld (z:=?_)))))))))))))))))))
    refine WD.cons (SV.build rfl ?_) (by decide)
    refine Cd (Bs (z:=fun a12_13 s12_13 hf12_13 hne12_13 hn12_13 hM12_13=>Cd ?_))
    have hv12:SlO (H3.up a12_13 (.row 4 (enc4 ⟨i,i+1,rd L i,rd S i⟩))) (.slice (some ⟨ν,0,none⟩) (R0++[r]).length cv) 4 (R0++[r]).length ((R0++[r]).flatMap enc4):=hsl.up (fun h=>by obtain ⟨o,ho⟩:=hsl.base_some h;exact hne12_13 _ _ ho rfl)
    refine SV.appendM (t:=40) (u:=40) (e:=48) (e':=48) (sz:=4) (sz':=4) (n:=(R0++[r]).length) (m:=1) (vs:=(R0++[r]).flatMap enc4) (xs:=enc4 ⟨i,i+1,rd L i,rd S i⟩) rfl (by assumption) rfl rfl hv12 (src4 Hp.up_same) rfl (by omega) (fun v8 s8 H8 hn8 hM8 hv8 hk8 hnew8 _=>?_)
    refine WD.cons (SV.assign ?_) (by decide)
    refine Nz (Rg (Co (Ad (z:=Mv (z:=Nl ?_)))))
    exact ⟨rfl,(i+1,v8,R0++[r]++[⟨i,i+1,rd L i,rd S i⟩]),Ho,⟨by omega,by dsimp only;omega,by dsimp only;omega,hres,_,hI.push hne12_13 hM8 hv8 hk8 hnew8⟩,by dsimp only;omega⟩
 ·refine WC.exit (WC.seq ?_)
  rw [show C.length-i.toNat=0 by omega] at hres
  simp only [splitM] at hres
  subst hres
  refine Rg ?_
  refine WO.cons (SV.move ?_) (by decide)
  refine WO.cons (SV.assign ?_) (by decide)
  refine Av (z:=Nl (WC.ret ?_))
  exact fin_two (e:=.ret) (v:=v) (w:=.int .i64 0) rfl trivial rfl rfl hn3 hM3 ⟨v,rfl,fun ν o e=>⟨hI.kp _ _ (hkp2 ν o e),hI.no _ _ (hkp2 ν o e)⟩,hsl⟩
theorem split_no {Y:Exts} {s:St} {H:Hp} {c cc:Nat} {C:List Int} {b:Int} (hX:ExtOk X ro Y) (hM:Models ro s H) (hc:H c=some (.row 1 (C.map (.int .i64)))) (hb:levelsBad C.length b≠0) :
 Sp X Try.prog ro 29 [.slice (some ⟨c,0,none⟩) C.length cc,.int .i64 b] s fun v H'=>v = .tuple #[.slice none 0 0,.int .i64 (levelsBad C.length b)]∧H'=H:=by
 have hX0:=hX.own
 refine Bo hX.own Try.func29 Try.ntmps29 (z:=?_)
 refine WC.seq (Rg (Av (z:=Av (z:=Nl (WC.seq (Rg (Mv (z:=Mv (z:=Co ?_)))))))))
 refine SV.callM rfl rfl (levels_no hX hM hc hb) ?_
 rintro v s1 H1 hn1 hM1 ⟨rfl,rfl⟩
 have hbb:decide (levelsBad C.length b≠0)=true:=decide_eq_true hb
 generalize levelsBad C.length b=bad at hbb ⊢
 refine Mv (z:=Co (Et (z:=Co (Et (z:=Av (z:=Av (z:=Nl (WC.seq (WC.seq (Rg (Mv (z:=Co (Ni (z:=Nl (Ct (z:=WC.seq (Rg (Mv (z:=Av (z:=Av (z:=Nl (WC.ret ?_))))))))))))))))))))))
 exact fin_two (e:=.ret) (v:=.slice none 0 0) (w:=.int .i64 bad) rfl trivial rfl rfl hn1 hM1 ⟨rfl,rfl⟩
end Go.Proofs.Ythkklpegjcnjoaa
