/- A part of the proof: no condition but those that each theorem states. -/
import Derived.Test.YthkklpegjcnjoaaDC
import Derived.Test.YthkklpegjcnjoaaLgT
import Derived.Test.YthkklpegjcnjoaaTD
set_option linter.unusedVariables false
set_option linter.unusedSimpArgs false
namespace Go.Ab
noncomputable section
theorem St1.loadA {P:Program} {ro:Nat} {g:Gm} {H:Hp} {t:TypeId} {x:Operand} {n:Nat} [h:TAgg P t n] {ν o es:Nat} {vs l:List Value} (hx:og g x = .pointer (some ⟨ν,o,none⟩)) (hH:H ν=some (.row es vs)) (hl:l.length=n) (hv:∀ i v,l[i]?=some v→vs[o+i]?=some v) (hs:sameV 4 (.agg l.toArray) (.agg l.toArray)=true):St1 P ro H g (.load t x) (.agg l.toArray):=
 ⟨fun s1 h1 t' ht=>by simp only [evalOp,opv_og,ht,hx,ldVar,h.ag,h.sz,ldCells_row h1 hH hl hv],hs⟩
end
end Go.Ab
namespace Go.Proofs.Ythkklpegjcnjoaa
open Go.Ab
set_option linter.unusedVariables false
set_option linter.unusedSimpArgs false
def upV (lv x:Int):Int:=if lv.tmod 2=0∧(x=3∨x=6) then 2 else if (lv.tmod 2=0∧x=1)∨(lv.tmod 2=1∧x≠1) then 1 else 0
def setD (A cv:List Int) (lv:Int):Nat→Int→List Int→List Int
 | 0,_,O=>O
 | r+1,k,O=>setD A cv lv r (k+1) (O.set (rd A k).toNat (lv+upV lv (rd cv k)))
def ownD (C F N:List Int) (e:SE):List Int:=neutD e.lv e.st e.en (bracketsD e.lv e.st (vw e.A C) (vw e.A F) (weakD e.st (vw e.A F) (vw e.A N)))
def allD (C F N:List Int):List SE→List Int→List Int
 | [],O=>O
 | e::E,O=>allD C F N E (setD e.A (ownD C F N e) e.lv e.A.length 0 O)
def e1D (F:List Int) (b:Int):Nat→Int→List Int→List Int
 | 0,_,O=>O
 | r+1,i,O=>e1D F b r (i+1) (if isRemoved (rd F i) then O.set i.toNat (if 0<i then rd O (i-1) else b) else O)
def isTail (c:Int):Prop:=c=12∨isOpener c∨c=22∨isRemoved c
instance (c:Int):Decidable (isTail c):=inferInstanceAs (Decidable (_∨_))
def skD (F:List Int):Nat→Int→Int
 | 0,j=>j
 | r+1,j=>if isTail (rd F j) then skD F r (j+1) else j
def endsAt (F:List Int) (j:Int):Prop:=j=F.length∨rd F j=11∨rd F j=10
instance (F:List Int) (j:Int):Decidable (endsAt F j):=inferInstanceAs (Decidable (_∨_))
def e2D (F:List Int) (b:Int):Nat→Int→List Int→List Int
 | 0,_,O=>O
 | r+1,i,O=>e2D F b r (i+1) (if endsAt F (skD F (F.length-i.toNat) i) then O.set i.toNat b else O)
def bD (b:Int) (F:List Int):Int:=if b<0 then firstD F F.length (F.length+1) 0 else b
def levelsD (Y:Exts) (C:List Int) (b:Int):List Int:=
 e2D (C.map Y.LB) (bD b (C.map Y.LB)) C.length 0 (e1D (C.map Y.LB) (bD b (C.map Y.LB)) C.length 0
  (allD C (C.map Y.LB) (explM (C.map Y.LB) (bD b (C.map Y.LB))).2 (sequencesD (C.map Y.LB) (explM (C.map Y.LB) (bD b (C.map Y.LB))).1 (bD b (C.map Y.LB))) (explM (C.map Y.LB) (bD b (C.map Y.LB))).1))
theorem goN_length {lv st en:Int} {V:List Int}:∀ (r:Nat) (k:Int) (O:List Int),(goN lv st en V r k O).length=O.length
 | 0,_,_=>rfl
 | r+1,k,O=>by
  simp only [goN]
  refine (goN_length r _ _).trans ?_
  split
  ·exact List.length_set
  ·rfl
theorem ownD_length {C F N:List Int} {e:SE}:(ownD C F N e).length=e.A.length:=by
 unfold ownD neutD bracketsD
 rw [goN_length,brkS_length,weakD_length,vw_len]
theorem expl_len (F:List Int) (b:Int):(explM F b).1.length=F.length∧(explM F b).2.length=F.length:=by
 unfold explM;rw [(expM_length _ _ _ _ _).1,(expM_length _ _ _ _ _).2];simp
end Go.Proofs.Ythkklpegjcnjoaa
namespace Go.Proofs.Ythkklpegjcnjoaa
open Go.Ab
variable {X:CallE} {ro:Nat}
set_option maxRecDepth 10000
set_option maxHeartbeats 16000000 in
theorem levelsD_sp {Y:Exts} {s:St} {H:Hp} {A:Option Addr} {kk n:Nat} {C:List Int} {b:Int} (hX:ExtOk X ro Y) (hM:Models ro s H) (hr:Rdd H A C) (hl:C.length=n) (hn:n≤16384) (hb : -1≤b∧b≤1)
 (hseq:∀ e∈sequencesD (C.map Y.LB) (explM (C.map Y.LB) (bD b (C.map Y.LB))).1 (bD b (C.map Y.LB)),(0≤e.lv∧e.lv≤125)∧e.A.length≤n∧∀ x∈e.A,0≤x∧x<n) :
 Sp X Try.prog ro 51 [.slice A n kk,.int .i64 b] s fun v H'=>∃ a,v = .tuple #[.slice (some ⟨a,0,none⟩) n n,.int .i64 0]∧(∀ ν o,H ν=some o→H' ν=some o∧ν≠a)∧H' a=some (.row 1 ((levelsD Y C b).map (.int .i64)))∧(levelsD Y C b).length=n:=by
 have hX0:=hX.own
 refine Bo hX.own Try.func51 Try.ntmps51 (z:=?_)
 have hb1:decide (b < -1)=false:=decide_eq_false (by omega)
 have hb2:decide (1<b)=false:=decide_eq_false (by omega)
 have hn1:decide ((16384:Int)<(n:Int))=false:=decide_eq_false (by omega)
 refine WC.seq (Rg (Av (z:=Av (z:=Nl (WC.seq (WC.seq (Rg (Mv (z:=Co (Lt (z:=Mv (z:=Gy (z:=Mq (z:=Gy (z:=Gt (z:=Co (Pf (z:=Nl (Cf (z:=WC.skip (WC.seq (WC.seq (Rg (Mv (z:=Co (Ln (z:=Co (Gt (z:=Nl (Cf (z:=WC.skip (WC.seq (Rg (Mv (z:=Co ?_)))))))))))))))))))))))))))))))))))
 have c45:=classesD_sp (kk:=kk) hX hM hr (by omega)
 rw [hl] at c45
 refine SV.callM rfl rfl c45 ?_
 rintro v s1 H1 hn1 hM1 ⟨f,rfl,hkp1,hf1⟩
 have hlev:levelsD Y C b=e2D (C.map Y.LB) (bD b (C.map Y.LB)) C.length 0 (e1D (C.map Y.LB) (bD b (C.map Y.LB)) C.length 0
  (allD C (C.map Y.LB) (explM (C.map Y.LB) (bD b (C.map Y.LB))).2 (sequencesD (C.map Y.LB) (explM (C.map Y.LB) (bD b (C.map Y.LB))).1 (bD b (C.map Y.LB))) (explM (C.map Y.LB) (bD b (C.map Y.LB))).1)):=rfl
 have hFl:(C.map Y.LB).length=n:=by rw [List.length_map];exact hl
 rw [hl] at hlev
 generalize C.map Y.LB=F at hf1 hlev hFl hseq
 refine Av (z:=Nl (WC.seq ?_))
 refine WC.mono (Q:=fun e g' ds' s'=>e = .normal∧ds'=[]∧holds g' [(0,.slice A n kk),(1,.int .i64 (bD b F)),(4,.slice none 0 0),(5,.int .i64 0),(6,.slice (some ⟨f,0,none⟩) n n)]∧s.next≤s'.next∧Models ro s' H1) ?_ ?_
 ·rcases dc (b<0) with ⟨h0,hd0⟩ | ⟨h0,hd0⟩
  ·rw [show bD b F=firstD F n (F.length+1) 0 by unfold bD;rw [if_pos h0,hFl]]
   refine WC.seq (Rg (Mv (z:=Co (Lt (z:=Nl (thn_n (Ct (z:=Rg (Mv (z:=Mv (z:=Co (Ln (z:=Co ?_)))))))))))))
   refine SV.callM rfl rfl (firstD_spN (i:=0) (to:=n) hX0 hM1 hf1 hFl hn ⟨by omega,by omega⟩ ⟨by omega,by omega⟩) ?_
   rintro v s2 H2 hn2 hM2 ⟨rfl,eH⟩
   rw [eH] at hM2
   clear eH
   refine Av (z:=Nl ?_)
   exact ⟨rfl,rfl,Ho,by omega,hM2⟩
  ·rw [show bD b F=b from if_neg h0]
   refine WC.seq (Rg (Mv (z:=Co (Lt (z:=Nl (thn_n (Cf (z:=WC.skip ?_))))))))
   exact ⟨rfl,rfl,Ho,by omega,hM1⟩
 rintro e g2 ds2 s2 ⟨rfl,rfl,hg2,hn2,hM2⟩
 rw [←over_same hg2]
 refine thn_n ?_
 have hbb:0≤bD b F∧bD b F≤1:=by
  unfold bD
  split
  ·rw [firstD_eq (Int.le_refl _) _ _ (Int.le_refl _)];exact baseM_range _ _
  ·omega
 generalize bD b F=bb at hbb hlev hseq ⊢
 refine WC.seq (Rg (Mv (z:=Mv (z:=Co ?_))))
 refine SV.callM rfl rfl (explD_sp hX0 hM2 hf1 hFl hn hbb) ?_
 rintro v s3 H3 hn3 hM3 ⟨an,al,rfl,hkp3,hnl,han,hal⟩
 have hxl:=expl_len F bb
 rw [hFl] at hxl
 obtain ⟨hxl,hxn⟩:=hxl
 generalize hXL:(explM F bb).1=Lx at *
 generalize (explM F bb).2=Nw at *
 have hf3:=(hkp3 _ _ hf1).1
 refine Mv (z:=Co (Et (z:=Co (Et (z:=Av (z:=Av (z:=Nl (WC.seq (Rg (Co (Bs (z:=fun a9_0 s9_0 hf9_0 hne9_0 hn9_0 hM9_0=>Mv (z:=Co ?_)))))))))))))
 have hMb:Models ro s9_0 (H3.up a9_0 (.row 1 [])):=hM9_0
 clear hM9_0
 refine SV.appendM (t:=23) (u:=23) (e:=3) (e':=3) (sz:=1) (sz':=1) (bytes:=8) (z:=[.int .i64 0]) (n:=0) (m:=n) (vs:=[]) (xs:=Lx.map (.int .i64)) rfl hMb rfl rfl (.inr ⟨a9_0,0,[],rfl,Hp.up_same,rfl,Nat.le_refl _,rfl⟩)
  (Src.row (Hp.up_ne (hne9_0 _ _ hal) hal) (by rw [List.length_map,hxl,Nat.mul_one]) (by rw [List.all_map];simp [oneC]) (fun i v h=>by rw [Nat.zero_add];exact h)) rfl (by omega) (fun v1 s4 H4 hn4 hM4 hv4 hk4 hnew4 hex4=>?_)
 obtain ⟨ao,rfl,hao,hkp4⟩:=app_fresh hne9_0 hxl hk4 hnew4 hex4
 clear hv4 hk4 hnew4 hex4 hMb
 refine Av (z:=Nl (WC.seq (WC.seq (Rg (Mv (z:=Mv (z:=Mv (z:=Co ?_))))))))
 refine SV.callM rfl rfl (seqsD_sp hX0 hM4 (hkp4 _ _ hf3).1 (hkp4 _ _ hal).1 hFl hxl hn) ?_
 rintro vS s5 H5 hn5 hM5 ⟨HK,au,U,R,hHK,hS5,hRS,hRl⟩
 rw [←hRS] at hlev hseq
 clear hRS
 have hSo:=hS5.o
 refine Co (Lo (z:=Mv (z:=Nl (WC.block ?_))))
 have kK:∀ ν o,H4 ν=some o→H5 ν=some o:=fun ν o e=>(hS5.kp _ _ (hHK _ _ e).1).1
 have hf5:=kK _ _ (hkp4 _ _ hf3).1
 have han5:=kK _ _ (hkp4 _ _ han).1
 have hao5:=kK _ _ hao
 have hvao:baseV vS≠some ao:=(hS5.kp _ _ (hHK _ _ hao).1).2.2
 have hr5:Rdd H5 A C:=hr.mono (fun ν o e=>kK _ _ (hkp4 _ _ (hkp3 _ _ (hkp1 _ _ e).1).1).1)
 have nfo:f≠ao:=(hkp4 _ _ hf3).2
 have nno:an≠ao:=(hkp4 _ _ han).2
 have kpF:∀ ν o,H ν=some o→H5 ν=some o∧ν≠ao:=fun ν o e=>⟨kK _ _ (hkp4 _ _ (hkp3 _ _ (hkp1 _ _ e).1).1).1,(hkp4 _ _ (hkp3 _ _ (hkp1 _ _ e).1).1).2⟩
 have hrne:∀ ν o fR,A=some ⟨ν,o,none⟩→H ν=some (.rd fR)→ν≠ao:=fun ν o fR _ e=>(kpF _ _ e).2
 have hAr:∀ p∈R,SlE H5 p.1 (p.2.A.map (.int .i64))∧baseV p.1≠some ao:=fun p hp=>⟨(hS5.r p hp).keep (fun ν o _ e=>(hS5.kp _ _ e).1),(hHK _ _ hao).2 p hp⟩
 have hLx:Lx.length=n:=hxl
 clear hHK hS5 kK hkp4 hkp3 hkp1 hM4 hM3 hM2 hM1 hal hnl han hao hf3
 generalize hW1:allD C F Nw (R.map Prod.snd) Lx=W1 at hlev
 refine WC.loop (D:=Nat×List Int) (fun x=>[(0,.slice A n kk),(1,.int .i64 bb),(4,.slice none 0 0),(5,.int .i64 0),(6,.slice (some ⟨f,0,none⟩) n n),(9,.slice (some ⟨ao,0,none⟩) n n),(7,.slice (some ⟨an,0,none⟩) n n),(53,vS),(54,.int .i64 R.length),(55,.int .i64 (x.1:Int))])
  (fun x s1=>s.next≤s1.next∧(∃ H1,Models ro s1 H1∧RowI H5 H1 ao x.2)∧x.2.length=n∧x.1≤R.length∧allD C F Nw ((R.map Prod.snd).drop x.1) x.2=W1) (fun x=>R.length-x.1) (0,Lx) ?_ ⟨by omega,⟨_,hM5,hao5,fun _ _ h _=>h⟩,hLx,Nat.zero_le _,hW1⟩ ?_
 ·exact Ho
 clear hW1 hM5 hn5 hn4 hn3
 rintro ⟨i,O⟩ g s1 ⟨hn1,⟨H1,hM1,hI1⟩,hlO,hi,hres⟩
 dsimp only at hn1 hI1 hlO hi hres ⊢
 by_cases hlt:i<R.length
 ·have hdl:decide ((i:Int)<(R.length:Int))=true:=decide_eq_true (by omega)
  obtain ⟨hAi,hAo⟩:=hAr _ (List.getElem_mem hlt)
  have hq:=hseq R[i].2 (List.mem_map.mpr ⟨R[i],List.getElem_mem hlt,rfl⟩)
  obtain ⟨ν,cp,ws,hv,hν,_,_,_,hat⟩:=hSo.at encS_len rfl (by omega)
  subst hv
  have hνo:ν≠ao:=fun e=>hvao (by rw [e];rfl)
  have hν1:=hI1.kp _ _ hν hνo
  have hwa:=hat _ hlt
  rw [List.drop_eq_getElem_cons (by rw [List.length_map];exact hlt),List.getElem_map] at hres
  simp only [allD] at hres
  generalize R[i]=p at hAi hAo hq hwa hres
  obtain ⟨vA,e⟩:=p
  dsimp only at hAi hAo hq hres
  obtain ⟨⟨hlv0,hlv1⟩,hAl,hAx⟩:=hq
  have hf1:=hI1.kp _ _ hf5 nfo
  have han1:=hI1.kp _ _ han5 nno
  have hA1:SlE H1 vA (e.A.map (.int .i64)):=hAi.keep (fun μ o e1 e2=>hI1.kp _ _ e2 (fun h=>hAo (by rw [e1,h])))
  have hr1:∀ j:Int,0≤j→j<C.length→∃ ν o fR,A=some ⟨ν,o,none⟩∧H1 ν=some (.rd fR)∧fR (o+j.toNat*1)=some (.int .i64 (rd C j)):=fun j a d=>by
   obtain ⟨μ,o,fR,e1,e2,e3⟩:=hr j a d
   exact ⟨μ,o,fR,e1,hI1.kp _ _ (kpF _ _ e2).1 (kpF _ _ e2).2,e3⟩
  refine WC.seq (Rg (Co (Lt (z:=Nl (WC.seq (Ct (z:=WC.skip (WC.seq (WC.block (WC.seq (Rg (Co (Ix (z:=Co ?_))))))))))))))
  refine SV.loadMA (l:=encS (vA,e)) (by assumption) rfl hν1 rfl (fun t u hu=>by have:=hwa t u hu;rw [Nat.zero_add,Int.toNat_natCast];exact this) ?_
  have hone:([vA,.int .i64 e.lv,.int .i64 e.st,.int .i64 e.en]:List Value).all oneC=true:=by rcases hA1 with ⟨rfl,_⟩ | ⟨_,a,rfl,_⟩ <;> rfl
  refine Co (Al (z:=fun a12_2 s12_2 hf12_2 hne12_2 hn12_2 hM12_2=>?_))
  refine WO.cons0 (SV.storeMA (by assumption) rfl rfl rfl hone (by exact Hp.up_same) (by exact Nat.le_refl _) (fun s12_3 hn12_3 hM12_3=>?_))
  refine Nl ?_
  rw [Hp.up_up] at hM12_3
  have k6:∀ ν o,H1 ν=some o→(H1.up a12_2 (.row 0 (encS (vA,e)))) ν=some o∧ν≠a12_2:=fun ν o e=>⟨Hp.up_ne (hne12_2 _ _ e) e,hne12_2 _ _ e⟩
  have ht6:(H1.up a12_2 (.row 0 (encS (vA,e)))) a12_2=some (.row 0 (encS (vA,e))):=Hp.up_same
  have hM6:Models ro s12_3 (H1.up a12_2 (.row 0 (encS (vA,e)))):=hM12_3
  clear hM12_3 hM12_2
  generalize H1.up a12_2 (.row 0 (encS (vA,e)))=H6 at k6 ht6 hM6
  clear hne12_2 hf12_2
  generalize a12_2=tc at *
  have ht6':H6 tc=some (.row 0 [vA,.int .i64 e.lv,.int .i64 e.st,.int .i64 e.en]):=ht6
  refine WC.seq (Rg (Co (Bs (z:=fun a13_0 s13_0 hf13_0 hne13_0 hn13_0 hM13_0=>Co (Bs (z:=fun a13_1 s13_1 hf13_1 hne13_1 hn13_1 hM13_1=>Co (Bs (z:=fun a13_2 s13_2 hf13_2 hne13_2 hn13_2 hM13_2=>Av (z:=Av (z:=Av (z:=Nl ?_)))))))))))
  have hMc:Models ro s13_2 (((H6.up a13_0 (.row 1 [])).up a13_1 (.row 1 [])).up a13_2 (.row 1 [])):=hM13_2
  have k7:∀ ν o,H6 ν=some o→(((H6.up a13_0 (.row 1 [])).up a13_1 (.row 1 [])).up a13_2 (.row 1 [])) ν=some o∧ν≠a13_0∧ν≠a13_1∧ν≠a13_2:=fun ν o e=>by
   have e1:(H6.up a13_0 (.row 1 [])) ν=some o:=Hp.up_ne (hne13_0 _ _ e) e
   have e2:((H6.up a13_0 (.row 1 [])).up a13_1 (.row 1 [])) ν=some o:=Hp.up_ne (hne13_1 _ _ e1) e1
   exact ⟨Hp.up_ne (hne13_2 _ _ e2) e2,hne13_0 _ _ e,hne13_1 _ _ e1,hne13_2 _ _ e2⟩
  have n01:a13_0≠a13_1:=hne13_1 _ _ Hp.up_same
  have n12:a13_1≠a13_2:=hne13_2 _ _ Hp.up_same
  have n02:a13_0≠a13_2:=hne13_2 _ _ (Hp.up_ne n01 Hp.up_same)
  have hc7:(((H6.up a13_0 (.row 1 [])).up a13_1 (.row 1 [])).up a13_2 (.row 1 [])) a13_0=some (.row 1 []):=Hp.up_ne n02 (Hp.up_ne n01 Hp.up_same)
  have hd7:(((H6.up a13_0 (.row 1 [])).up a13_1 (.row 1 [])).up a13_2 (.row 1 [])) a13_1=some (.row 1 []):=Hp.up_ne n12 Hp.up_same
  have he7:(((H6.up a13_0 (.row 1 [])).up a13_1 (.row 1 [])).up a13_2 (.row 1 [])) a13_2=some (.row 1 []):=Hp.up_same
  have ht7':=(k7 _ _ ht6').1
  clear hM13_2 hM13_1 hM13_0
  generalize ((H6.up a13_0 (.row 1 [])).up a13_1 (.row 1 [])).up a13_2 (.row 1 [])=H7 at hMc k7 hc7 hd7 he7 ht7'
  clear hne13_0 hne13_1 hne13_2 hf13_0 hf13_1 hf13_2
  have hA7:SlE H7 vA (e.A.map (.int .i64)):=hA1.keep (fun μ o e1 e2=>(k7 _ _ (k6 _ _ e2).1).1)
  have hAo7:SlO H7 vA 1 e.A.length (e.A.map (.int .i64)):=by have:=hA7.toO;rwa [List.length_map] at this
  refine WC.seq (WC.seq (Rg (Co (Fa (z:=Co (Ld (z:=Co (Lo (z:=Mv (z:=Nl (WC.block ?_)))))))))))
  refine WC.loop (D:=Nat×Nat×Nat×Nat) (fun x=>[(0,.slice A n kk),(1,.int .i64 bb),(4,.slice none 0 0),(5,.int .i64 0),(6,.slice (some ⟨f,0,none⟩) n n),(9,.slice (some ⟨ao,0,none⟩) n n),(7,.slice (some ⟨an,0,none⟩) n n),(53,.slice (some ⟨ν,0,none⟩) R.length cp),(54,.int .i64 R.length),(55,.int .i64 (i:Int)),(11,.pointer (some ⟨tc,0,none⟩)),(12,.slice (some ⟨x.2.1,0,none⟩) x.1 x.1),(13,.slice (some ⟨x.2.2.1,0,none⟩) x.1 x.1),(14,.slice (some ⟨x.2.2.2,0,none⟩) x.1 x.1),(63,vA),(64,.int .i64 e.A.length),(65,.int .i64 (x.1:Int))])
   (fun x s8=>s.next≤s8.next∧x.1≤e.A.length∧(x.2.1≠x.2.2.1∧x.2.1≠x.2.2.2∧x.2.2.1≠x.2.2.2)∧∃ H8,Models ro s8 H8∧(∀ ν o,H6 ν=some o→H8 ν=some o∧ν≠x.2.1∧ν≠x.2.2.1∧ν≠x.2.2.2)∧H8 x.2.1=some (.row 1 (((vw e.A Nw).take x.1).map (.int .i64)))∧H8 x.2.2.1=some (.row 1 (((vw e.A F).take x.1).map (.int .i64)))∧H8 x.2.2.2=some (.row 1 (((vw e.A C).take x.1).map (.int .i64)))) (fun x=>e.A.length-x.1)
   (0,a13_0,a13_1,a13_2) ?_ ⟨by omega,Nat.zero_le _,⟨n01,n02,n12⟩,_,hMc,k7,hc7,hd7,he7⟩ ?_
  ·exact Ho
  clear hMc k7 hc7 hd7 he7 n01 n12 n02 ht7' hA7 hAo7
  rintro ⟨k,c1,c2,c3⟩ g s8 ⟨hn8,hk,⟨n12,n13,n23⟩,H8,hM8,k8,hc8,hd8,he8⟩
  dsimp only at hn8 hk n12 n13 n23 k8 hc8 hd8 he8 ⊢
  have hlm:(e.A.map (Value.int .i64)).length=e.A.length:=List.length_map _
  have kk8:∀ ν o,H1 ν=some o→H8 ν=some o:=fun ν o e=>(k8 _ _ (k6 _ _ e).1).1
  have hA8:SlE H8 vA (e.A.map (.int .i64)):=hA1.keep (fun μ o _ e2=>kk8 _ _ e2)
  have hf8:=kk8 _ _ hf1
  have han8:=kk8 _ _ han1
  have ht8:=(k8 _ _ ht6').1
  by_cases hkl:k<e.A.length
  ·have hdk:decide ((k:Int)<(e.A.length:Int))=true:=decide_eq_true (by omega)
   have hx:=hAx _ (rd_memA (A:=e.A) (k:=(k:Int)) (by omega) (by omega))
   obtain ⟨μ,oo,fR,rfl,hμ,hfv⟩:=hr1 (rd e.A k) hx.1 (by rw [hl];exact hx.2)
   have hμ8:=kk8 _ _ hμ
   obtain ⟨aA,rfl,haA⟩:∃ aA,vA = .slice (some ⟨aA,0,none⟩) (e.A.map (Value.int .i64)).length (e.A.map (Value.int .i64)).length∧H8 aA=some (.row 1 (e.A.map (.int .i64))):=by
    rcases hA8 with ⟨_,e2⟩ | ⟨_,a,e1,ha⟩
    ·have:=congrArg List.length e2;rw [hlm] at this;have h0:e.A.length=0:=this;omega
    ·exact ⟨a,e1,ha⟩
   have hlv:∀ L:List Int,((vw e.A L).take k).length=k:=fun L=>by rw [List.length_take,vw_len];omega
   have htk:∀ L:List Int,(vw e.A L).take k++[rd L (rd e.A k)]=(vw e.A L).take (k+1):=fun L=>by
    rw [List.take_add_one,List.getElem?_eq_getElem (by rw [vw_len];omega)]
    unfold vw
    rw [List.getElem_map,rd_at (L:=e.A) (by omega) (by omega)]
    rfl
   refine WC.seq (Rg (Co (Lt (z:=Nl (WC.seq (Ct (z:=WC.skip (WC.seq (WC.block (WC.seq (Rg (Co (Ix (z:=Co (Ld (z:=Av (z:=Nl (WC.seq (Rg (Mv (z:=Mv (z:=Mv (z:=Co (Ix (z:=Co (Ld (z:=Co (Bs (z:=fun a17_5 s17_5 hf17_5 hne17_5 hn17_5 hM17_5=>Co ?_)))))))))))))))))))))))))))))
   have hMb9:Models ro s17_5 (H8.up a17_5 (.row 1 [.int .i64 (rd Nw (rd e.A k))])):=hM17_5
   clear hM17_5
   refine SV.appendM (t:=23) (u:=23) (e:=3) (e':=3) (sz:=1) (sz':=1) (bytes:=8) (z:=[.int .i64 0]) (n:=k) (m:=1) (vs:=((vw e.A Nw).take k).map (.int .i64)) (xs:=[.int .i64 (rd Nw (rd e.A k))]) rfl hMb9 rfl rfl (SlO.ofRow (Hp.up_ne (hne17_5 _ _ hc8) hc8) (by rw [List.length_map,hlv Nw,Nat.mul_one]))
    (Src.row Hp.up_same rfl rfl (fun j v h=>by rw [Nat.zero_add];exact h)) rfl (by omega) (fun v9 s9 H9 hn9 hM9 hv9 hk9 hnew9 hex9=>?_)
   obtain ⟨c9,rfl,hc9,kp9⟩:=app_one hc8 (hlv Nw) hne17_5 hk9 hnew9 hex9
   clear hv9 hk9 hnew9 hex9 hMb9
   refine Av (z:=Nl ?_)
   have hd9:=kp9 _ _ hd8 n12.symm
   have he9:=kp9 _ _ he8 n13.symm
   have hf9:=kp9 _ _ hf8 (k8 _ _ (k6 _ _ hf1).1).2.1
   have hμ9:=kp9 _ _ hμ8 (k8 _ _ (k6 _ _ hμ).1).2.1
   obtain ⟨hf9,_⟩:=hf9
   obtain ⟨hμ9,_⟩:=hμ9
   obtain ⟨hd9,nd9⟩:=hd9
   obtain ⟨he9,ne9⟩:=he9
   refine WC.seq (Rg (Mv (z:=Mv (z:=Mv (z:=Co (Ix (z:=Co (Ld (z:=Co (Bs (z:=fun a18_5 s18_5 hf18_5 hne18_5 hn18_5 hM18_5=>Co ?_)))))))))))
   have hMb10:Models ro s18_5 (H9.up a18_5 (.row 1 [.int .i64 (rd F (rd e.A k))])):=hM18_5
   clear hM18_5
   refine SV.appendM (t:=23) (u:=23) (e:=3) (e':=3) (sz:=1) (sz':=1) (bytes:=8) (z:=[.int .i64 0]) (n:=k) (m:=1) (vs:=((vw e.A F).take k).map (.int .i64)) (xs:=[.int .i64 (rd F (rd e.A k))]) rfl hMb10 rfl rfl (SlO.ofRow (Hp.up_ne (hne18_5 _ _ hd9) hd9) (by rw [List.length_map,hlv F,Nat.mul_one]))
    (Src.row Hp.up_same rfl rfl (fun j v h=>by rw [Nat.zero_add];exact h)) rfl (by omega) (fun v10 s10 H10 hn10 hM10 hv10 hk10 hnew10 hex10=>?_)
   obtain ⟨c10,rfl,hc10,kp10⟩:=app_one hd9 (hlv F) hne18_5 hk10 hnew10 hex10
   clear hv10 hk10 hnew10 hex10 hMb10
   refine Av (z:=Nl ?_)
   have hc9':=kp10 _ _ hc9 nd9.symm
   have he10:=kp10 _ _ he9 n23.symm
   have hμ10:=(kp10 _ _ hμ9 (k8 _ _ (k6 _ _ hμ).1).2.2.1).1
   obtain ⟨hc9',nc10⟩:=hc9'
   obtain ⟨he10,ne10⟩:=he10
   refine Rg (Mv (z:=Mv (z:=Mv (z:=Co (Ix (z:=?_))))))
   refine WO.cons (SV.loadR (by assumption) rfl (by assumption) (by assumption) ?_) (by decide)
   refine Co (Bs (z:=fun a19_5 s19_5 hf19_5 hne19_5 hn19_5 hM19_5=>Co ?_))
   have hMb11:Models ro s19_5 (H10.up a19_5 (.row 1 [.int .i64 (rd C (rd e.A k))])):=hM19_5
   clear hM19_5
   refine SV.appendM (t:=23) (u:=23) (e:=3) (e':=3) (sz:=1) (sz':=1) (bytes:=8) (z:=[.int .i64 0]) (n:=k) (m:=1) (vs:=((vw e.A C).take k).map (.int .i64)) (xs:=[.int .i64 (rd C (rd e.A k))]) rfl hMb11 rfl rfl (SlO.ofRow (Hp.up_ne (hne19_5 _ _ he10) he10) (by rw [List.length_map,hlv C,Nat.mul_one]))
    (Src.row Hp.up_same rfl rfl (fun j v h=>by rw [Nat.zero_add];exact h)) rfl (by omega) (fun v11 s11 H11 hn11 hM11 hv11 hk11 hnew11 hex11=>?_)
   obtain ⟨c11,rfl,hc11,kp11⟩:=app_one he10 (hlv C) hne19_5 hk11 hnew11 hex11
   clear hv11 hk11 hnew11 hex11 hMb11
   refine Av (z:=Nl ?_)
   have hc9'':=kp11 _ _ hc9' ne9.symm
   have hc10':=kp11 _ _ hc10 ne10.symm
   rw [htk] at hc9'' hc10' hc11
   refine Rg (Co (Ad (z:=Mv (z:=Nl ?_))))
   exact ⟨rfl,(k+1,c9,c10,c11),Ho,⟨by omega,by dsimp only;omega,⟨nc10,hc9''.2,hc10'.2⟩,H11,hM11,fun ν o e'=>by
    obtain ⟨h0,h1,h2,h3⟩:=k8 ν o e'
    have h4:=kp9 _ _ h0 h1
    have h5:=kp10 _ _ h4.1 h2
    have h6:=kp11 _ _ h5.1 h3
    exact ⟨h6.1,h4.2,h5.2,h6.2⟩,hc9''.1,hc10'.1,hc11⟩,by dsimp only;omega⟩
  have hdk:decide ((k:Int)<(e.A.length:Int))=false:=decide_eq_false (by omega)
  obtain rfl:k=e.A.length:=by omega
  have htl:∀ L:List Int,(vw e.A L).take e.A.length=vw e.A L:=fun L=>List.take_of_length_le (by rw [vw_len];exact Nat.le_refl _)
  rw [htl] at hc8 hd8 he8
  refine WC.seq (Rg (Co (Lt (z:=Nl (WC.seq (Cf (z:=WC.exit (WC.seq ?_))))))))
  have hDs:∀ (Hx:Hp) (V:List Int),RowI H8 Hx c1 V→∀ ν o,(if ν=c1 then none else H8 ν)=some o→Hx ν=some o:=fun Hx V h ν o e=>by
   by_cases h1:ν=c1
   ·rw [if_pos h1] at e;cases e
   ·rw [if_neg h1] at e;exact h.kp _ _ e h1
  have hMD:Models ro s8 (fun ν=>if ν=c1 then none else H8 ν):=hM8.sub (hDs H8 _ ⟨hc8,fun _ _ h _=>h⟩)
  have htD:(fun ν=>if ν=c1 then none else H8 ν) tc=some (.row 0 (encS (vA,e))):=by
   dsimp only
   rw [if_neg (k8 _ _ ht6).2.1];exact (k8 _ _ ht6).1
  have hsm:sameV 4 (.agg (encS (vA,e)).toArray) (.agg (encS (vA,e)).toArray)=true:=by
   rcases hA1 with ⟨rfl,_⟩ | ⟨_,a,rfl,_⟩ <;> simp [sameV,sameV.sameVs,encS,eqI_self]
  generalize hHD:(fun ν=>if ν=c1 then none else H8 ν)=HD at hMD htD
  have hDs2:∀ (Hx:Hp) (V:List Int),RowI H8 Hx c1 V→∀ ν o,HD ν=some o→Hx ν=some o:=fun Hx V h ν o e=>hDs Hx V h ν o (by rw [←hHD] at e;exact e)
  refine WC.drawE (H:=HD) hMD [0,1,2,3,4,5,6,7,8,9,10] (by kernel_rfl) (by kernel_rfl) ?_
  refine WE.read (St1.loadA (l:=encS (vA,e)) rfl htD rfl (fun t u hu=>by rw [Nat.zero_add];exact hu) hsm) hMD ?_ (by decide)
  refine WE.read (St1.loadA (l:=encS (vA,e)) rfl htD rfl (fun t u hu=>by rw [Nat.zero_add];exact hu) hsm) hMD ?_ (by decide)
  refine WE.act (by kernel_rfl) hMD (SV.moveV (by constructor) ⟨hMD,?_⟩) (by decide)
  refine WE.read (St1.loadA (l:=encS (vA,e)) rfl htD rfl (fun t u hu=>by rw [Nat.zero_add];exact hu) hsm) hMD ?_ (by decide)
  refine WE.act (by kernel_rfl) hMD (SV.moveV (by constructor) ⟨hMD,?_⟩) (by decide)
  refine WE.act (by kernel_rfl) hMD (SV.moveV (by constructor) ⟨hMD,?_⟩) (by decide)
  refine WE.act (by kernel_rfl) hMD (SV.callM rfl rfl (weakD_sp hX0 hM8 hc8 hd8 n12.symm (vw_len _ _) (vw_len _ _) (by omega)) ?_) (by decide)
  rintro v s9 H9 hn9 hM9 ⟨rfl,hI9⟩
  have hMD9:=hM9.sub (hDs2 _ _ hI9)
  refine ⟨hMD9,?_⟩
  refine WE.act (by kernel_rfl) hMD9 (SV.moveV (by constructor) ⟨hMD9,?_⟩) (by decide)
  refine WE.act (by kernel_rfl) hMD9 (SV.callM rfl rfl (bracketsD_sp hX0 hM9 (hI9.kp _ _ he8 n13.symm) hI9.at_ (hI9.kp _ _ hd8 n12.symm) n12.symm (vw_len _ _) (weakD_length.trans (vw_len _ _)) (vw_len _ _) (by omega) hlv0) ?_) (by decide)
  rintro v s10 H10 hn10 hM10 ⟨rfl,hI10⟩
  have hI10':RowI H8 H10 c1 (bracketsD e.lv e.st (vw e.A C) (vw e.A F) (weakD e.st (vw e.A F) (vw e.A Nw))):=⟨hI10.at_,fun ν o e ne=>hI10.kp _ _ (hI9.kp _ _ e ne) ne⟩
  have hMD10:=hM10.sub (hDs2 _ _ hI10')
  refine ⟨hMD10,?_⟩
  refine WE.act (by kernel_rfl) hMD10 (SV.callM rfl rfl (neutD_sp (lv:=e.lv) (st:=e.st) (en:=e.en) (vA:=vA) hX0 hM10 hI10.at_ (by unfold bracketsD;rw [brkS_length,weakD_length,vw_len]) (by omega)) ?_) (by decide)
  rintro v s11 HZ hn11 hMZ ⟨a4,rfl,kpZ,haZ⟩
  have hMDZ:Models ro s11 HD:=hMZ.sub (fun ν o e=>(kpZ _ _ (hDs2 _ _ hI10' ν o e)).1)
  refine ⟨hMDZ,?_⟩
  refine WE.act (by kernel_rfl) hMDZ (SV.assignV (by constructor) ⟨hMDZ,?_⟩) (by decide)
  refine WE.nil ?_
  have hoD:neutD e.lv e.st e.en (bracketsD e.lv e.st (vw e.A C) (vw e.A F) (weakD e.st (vw e.A F) (vw e.A Nw)))=ownD C F Nw e:=rfl
  rw [hoD] at haZ
  have hcvl:(ownD C F Nw e).length=e.A.length:=ownD_length
  generalize ownD C F Nw e=cv at haZ hres hcvl
  have kZ:∀ ν o,H8 ν=some o→ν≠c1→HZ ν=some o∧ν≠a4:=fun ν o e ne=>kpZ _ _ (hI10.kp _ _ (hI9.kp _ _ e ne) ne)
  have k1Z:∀ ν o,H1 ν=some o→HZ ν=some o∧ν≠a4:=fun ν o e=>kZ _ _ (kk8 _ _ e) (k8 _ _ (k6 _ _ e).1).2.1
  have htZ:=(kZ _ _ ht8 (k8 _ _ ht6').2.1).1
  have hoZ:=k1Z _ _ hI1.at_
  have nto:tc≠ao:=(k6 _ _ hI1.at_).2.symm
  have hAZ:SlE HZ vA (e.A.map (.int .i64)):=hA1.keep (fun μ o _ e2=>(k1Z _ _ e2).1)
  have hAoZ:SlO HZ vA 1 e.A.length (e.A.map (.int .i64)):=by have:=hAZ.toO;rwa [hlm] at this
  clear hMDZ hMD10 hMD9 hMD hDs hDs2 hI10' hI10 hI9 hM10 hM9 hM8 hHD htD hc8 hd8 he8 htl kpZ
  have na4:a4≠ao:=(k1Z _ _ hI1.at_).2.symm
  have htm:0≤e.lv.tmod 2∧e.lv.tmod 2≤1:=by rw [Int.tmod_eq_emod_of_nonneg hlv0];omega
  refine WC.seq (Rg (Co (Fa (z:=Co (Ld (z:=Co (Lo (z:=Mv (z:=Nl (WC.block ?_))))))))))
  generalize hW2:setD e.A cv e.lv e.A.length 0 O=W2 at hres
  refine WC.loop (D:=Nat×List Int) (fun x=>[(0,.slice A n kk),(1,.int .i64 bb),(4,.slice none 0 0),(5,.int .i64 0),(6,.slice (some ⟨f,0,none⟩) n n),(9,.slice (some ⟨ao,0,none⟩) n n),(7,.slice (some ⟨an,0,none⟩) n n),(53,.slice (some ⟨ν,0,none⟩) R.length cp),(54,.int .i64 R.length),(55,.int .i64 (i:Int)),(11,.pointer (some ⟨tc,0,none⟩)),(12,.slice (some ⟨a4,0,none⟩) e.A.length e.A.length),(102,vA),(103,.int .i64 e.A.length),(104,.int .i64 (x.1:Int))])
   (fun x s12=>s.next≤s12.next∧x.1≤e.A.length∧x.2.length=n∧(∃ H12,Models ro s12 H12∧RowI HZ H12 ao x.2)∧setD e.A cv e.lv (e.A.length-x.1) x.1 x.2=W2) (fun x=>e.A.length-x.1) (0,O) ?_ ⟨by omega,Nat.zero_le _,hlO,⟨_,hMZ,hoZ.1,fun _ _ h _=>h⟩,hW2⟩ ?_
  ·exact Ho
  clear hW2 hMZ hoZ
  rintro ⟨q,O2⟩ g s12 ⟨hn12,hq,hlO2,⟨H12,hM12,hI12⟩,hst⟩
  dsimp only at hn12 hq hlO2 hI12 hst ⊢
  have ht12:=hI12.kp _ _ htZ nto
  have ha12:=hI12.kp _ _ haZ na4
  have ho12:=hI12.at_
  by_cases hql:q<e.A.length
  ·have hdq:decide ((q:Int)<(e.A.length:Int))=true:=decide_eq_true (by omega)
   have hx:=hAx _ (rd_memA (A:=e.A) (k:=(q:Int)) (by omega) (by omega))
   rw [show e.A.length-q=(e.A.length-(q+1))+1 by omega] at hst
   simp only [setD] at hst
   obtain ⟨aA,rfl,haA⟩:∃ aA,vA = .slice (some ⟨aA,0,none⟩) (e.A.map (Value.int .i64)).length (e.A.map (Value.int .i64)).length∧H12 aA=some (.row 1 (e.A.map (.int .i64))):=by
    rcases hAZ with ⟨_,e2⟩ | ⟨_,a,e1,ha⟩
    ·have:=congrArg List.length e2;rw [hlm] at this;have h0:e.A.length=0:=this;omega
    ·exact ⟨a,e1,hI12.kp _ _ ha (fun h=>hAo (by rw [e1,h];rfl))⟩
   refine WC.seq (Rg (Co (Lt (z:=Nl (WC.seq (Ct (z:=WC.skip (WC.seq (WC.block (WC.seq (Rg (Mv (z:=Co (Ix (z:=Co (Ld (z:=Av (z:=Av (z:=Nl (WC.seq (Rg (Av (z:=Nl (WC.seq ?_))))))))))))))))))))))))
   refine WC.mono (Q:=fun e' g' ds' s'=>e' = .normal∧ds'=[]∧holds g' [(0,.slice A n kk),(1,.int .i64 bb),(4,.slice none 0 0),(5,.int .i64 0),(6,.slice (some ⟨f,0,none⟩) n n),(9,.slice (some ⟨ao,0,none⟩) n n),(7,.slice (some ⟨an,0,none⟩) n n),(53,.slice (some ⟨ν,0,none⟩) R.length cp),(54,.int .i64 R.length),(55,.int .i64 (i:Int)),(11,.pointer (some ⟨tc,0,none⟩)),(12,.slice (some ⟨a4,0,none⟩) e.A.length e.A.length),(17,.int .i64 (q:Int)),(18,.int .i64 (rd e.A q)),(102,.slice (some ⟨aA,0,none⟩) (e.A.map (Value.int .i64)).length (e.A.map (Value.int .i64)).length),(103,.int .i64 e.A.length),(104,.int .i64 (q:Int)),(19,.int .i64 (if (e.lv.tmod 2=0∧rd cv q=1)∨(e.lv.tmod 2=1∧rd cv q≠1) then 1 else 0))]∧s'=s12) ?_ ?_
   ·rcases dc (e.lv.tmod 2=0) with ⟨d0,hd0⟩ | ⟨d0,hd0⟩
    ·have hd1:decide (e.lv.tmod 2=1)=false:=decide_eq_false (by omega)
     rcases dc (rd cv q=1) with ⟨x1,hx1⟩ | ⟨x1,hx1⟩
     ·rw [if_pos (.inl ⟨d0,x1⟩)]
      refine WC.seq (Rg (Co (Fa (z:=Co (Ld (z:=Co (Rm (z:=Co (Ei (z:=Mv (z:=Gy (z:=Mq (z:=Gy (z:=Mq (z:=Gy (z:=Ix (z:=Gy (z:=Ld (z:=Gy (z:=Ei (z:=Co (Pt (z:=Mv (z:=Gn (z:=Gn (z:=Gn (z:=Gn (z:=Gn (z:=Gu (z:=Gu (z:=Gu (z:=Gu (z:=Gu (z:=Gn (z:=Co (Pt (z:=Nl (thn_n (Ct (z:=Rg (Av (z:=Nl ?_))))))))))))))))))))))))))))))))))))))))))
      exact ⟨rfl,rfl,Ho,rfl⟩
     ·rw [if_neg (fun x=>x.elim (fun y=>x1 y.2) (fun y=>by omega))]
      refine WC.seq (Rg (Co (Fa (z:=Co (Ld (z:=Co (Rm (z:=Co (Ei (z:=Mv (z:=Gy (z:=Mq (z:=Gy (z:=Mq (z:=Gy (z:=Ix (z:=Gy (z:=Ld (z:=Gy (z:=Ei (z:=Co (Pt (z:=Mv (z:=Gy (z:=Fa (z:=Gy (z:=Ld (z:=Gy (z:=Rm (z:=Gy (z:=Ei (z:=Gy (z:=Mq (z:=Gn (z:=Gn (z:=Gn (z:=Gn (z:=Gn (z:=Gy (z:=Pf (z:=Co (Pf (z:=Nl (thn_n (Cf (z:=WC.skip ?_))))))))))))))))))))))))))))))))))))))))))))))
      exact ⟨rfl,rfl,Ho,rfl⟩
    ·have d1:e.lv.tmod 2=1:=by omega
     have hd1:decide (e.lv.tmod 2=1)=true:=decide_eq_true d1
     by_cases x1:rd cv q=1
     ·have hx1:decide (rd cv q≠1)=false:=decide_eq_false (fun h=>h x1)
      rw [if_neg (fun x=>x.elim (fun y=>d0 y.1) (fun y=>y.2 x1))]
      refine WC.seq (Rg (Co (Fa (z:=Co (Ld (z:=Co (Rm (z:=Co (Ei (z:=Mv (z:=Gn (z:=Gn (z:=Gn (z:=Gn (z:=Gn (z:=Co (Pf (z:=Mv (z:=Gy (z:=Fa (z:=Gy (z:=Ld (z:=Gy (z:=Rm (z:=Gy (z:=Ei (z:=Gy (z:=Mq (z:=Gy (z:=Mq (z:=Gy (z:=Mq (z:=Gy (z:=Ix (z:=Gy (z:=Ld (z:=Gy (z:=Ni (z:=Gy (z:=Pt (z:=Co (Pf (z:=Nl (thn_n (Cf (z:=WC.skip ?_))))))))))))))))))))))))))))))))))))))))))))))
      exact ⟨rfl,rfl,Ho,rfl⟩
     ·have hx1:decide (rd cv q≠1)=true:=decide_eq_true x1
      rw [if_pos (.inr ⟨d1,x1⟩)]
      refine WC.seq (Rg (Co (Fa (z:=Co (Ld (z:=Co (Rm (z:=Co (Ei (z:=Mv (z:=Gn (z:=Gn (z:=Gn (z:=Gn (z:=Gn (z:=Co (Pf (z:=Mv (z:=Gy (z:=Fa (z:=Gy (z:=Ld (z:=Gy (z:=Rm (z:=Gy (z:=Ei (z:=Gy (z:=Mq (z:=Gy (z:=Mq (z:=Gy (z:=Mq (z:=Gy (z:=Ix (z:=Gy (z:=Ld (z:=Gy (z:=Ni (z:=Gy (z:=Pt (z:=Co (Pf (z:=Nl (thn_n (Ct (z:=Rg (Av (z:=Nl ?_))))))))))))))))))))))))))))))))))))))))))))))))
      exact ⟨rfl,rfl,Ho,rfl⟩
   rintro e' g2 ds2 s13 ⟨rfl,rfl,hg2,e13⟩
   subst e13
   rw [←over_same hg2]
   refine thn_n (WC.seq ?_)
   refine WC.mono (Q:=fun e' g' ds' s'=>e' = .normal∧ds'=[]∧holds g' [(0,.slice A n kk),(1,.int .i64 bb),(4,.slice none 0 0),(5,.int .i64 0),(6,.slice (some ⟨f,0,none⟩) n n),(9,.slice (some ⟨ao,0,none⟩) n n),(7,.slice (some ⟨an,0,none⟩) n n),(53,.slice (some ⟨ν,0,none⟩) R.length cp),(54,.int .i64 R.length),(55,.int .i64 (i:Int)),(11,.pointer (some ⟨tc,0,none⟩)),(12,.slice (some ⟨a4,0,none⟩) e.A.length e.A.length),(17,.int .i64 (q:Int)),(18,.int .i64 (rd e.A q)),(102,.slice (some ⟨aA,0,none⟩) (e.A.map (Value.int .i64)).length (e.A.map (Value.int .i64)).length),(103,.int .i64 e.A.length),(104,.int .i64 (q:Int)),(19,.int .i64 (upV e.lv (rd cv q)))]∧s'=s13) ?_ ?_
   ·have hU:upV e.lv (rd cv q)=if e.lv.tmod 2=0∧(rd cv q=3∨rd cv q=6) then 2 else if (e.lv.tmod 2=0∧rd cv q=1)∨(e.lv.tmod 2=1∧rd cv q≠1) then 1 else 0:=rfl
    rw [hU]
    generalize (if (e.lv.tmod 2=0∧rd cv q=1)∨(e.lv.tmod 2=1∧rd cv q≠1) then (1:Int) else 0)=u0
    rcases dc (e.lv.tmod 2=0) with ⟨d0,hd0⟩ | ⟨d0,hd0⟩
    ·by_cases x3:rd cv q=3
     ·have hx3:decide (rd cv q=3)=true:=decide_eq_true x3
      rw [if_pos ⟨d0,.inl x3⟩]
      refine WC.seq (Rg (Co (Fa (z:=Co (Ld (z:=Co (Rm (z:=Co (Ei (z:=Mv (z:=Gy (z:=Mq (z:=Gy (z:=Mq (z:=Gy (z:=Ix (z:=Gy (z:=Ld (z:=Gy (z:=Ei (z:=Gy (z:=Mq (z:=Gn (z:=Gn (z:=Gn (z:=Gn (z:=Gn (z:=Gy (z:=Pt (z:=Co (Pt (z:=Nl (thn_n (Ct (z:=Rg (Av (z:=Nl ?_)))))))))))))))))))))))))))))))))))))
      exact ⟨rfl,rfl,Ho,rfl⟩
     have hx3:decide (rd cv q=3)=false:=decide_eq_false x3
     by_cases x6:rd cv q=6
     ·have hx6:decide (rd cv q=6)=true:=decide_eq_true x6
      rw [if_pos ⟨d0,.inr x6⟩]
      refine WC.seq (Rg (Co (Fa (z:=Co (Ld (z:=Co (Rm (z:=Co (Ei (z:=Mv (z:=Gy (z:=Mq (z:=Gy (z:=Mq (z:=Gy (z:=Ix (z:=Gy (z:=Ld (z:=Gy (z:=Ei (z:=Gy (z:=Mq (z:=Gy (z:=Mq (z:=Gy (z:=Mq (z:=Gy (z:=Ix (z:=Gy (z:=Ld (z:=Gy (z:=Ei (z:=Gy (z:=Pf (z:=Co (Pt (z:=Nl (thn_n (Ct (z:=Rg (Av (z:=Nl ?_))))))))))))))))))))))))))))))))))))))))))
      exact ⟨rfl,rfl,⟨rfl,rfl,rfl,rfl,rfl,rfl,rfl,rfl,rfl,rfl,rfl,rfl,rfl,rfl,rfl,rfl,rfl,rfl,trivial⟩,rfl⟩
     ·have hx6:decide (rd cv q=6)=false:=decide_eq_false x6
      rw [if_neg (fun x=>x.2.elim x3 x6)]
      refine WC.seq (Rg (Co (Fa (z:=Co (Ld (z:=Co (Rm (z:=Co (Ei (z:=Mv (z:=Gy (z:=Mq (z:=Gy (z:=Mq (z:=Gy (z:=Ix (z:=Gy (z:=Ld (z:=Gy (z:=Ei (z:=Gy (z:=Mq (z:=Gy (z:=Mq (z:=Gy (z:=Mq (z:=Gy (z:=Ix (z:=Gy (z:=Ld (z:=Gy (z:=Ei (z:=Gy (z:=Pf (z:=Co (Pt (z:=Nl (thn_n (Cf (z:=WC.skip ?_))))))))))))))))))))))))))))))))))))))))
      exact ⟨rfl,rfl,Ho,rfl⟩
    ·rw [if_neg (fun x=>d0 x.1)]
     refine WC.seq (Rg (Co (Fa (z:=Co (Ld (z:=Co (Rm (z:=Co (Ei (z:=Mv (z:=Gn (z:=Gn (z:=Gn (z:=Gn (z:=Gn (z:=Gn (z:=Gu (z:=Gu (z:=Gu (z:=Gu (z:=Gu (z:=Gn (z:=Co (Pf (z:=Nl (thn_n (Cf (z:=WC.skip ?_))))))))))))))))))))))))))))
     exact ⟨rfl,rfl,Ho,rfl⟩
   rintro e' g3 ds3 s14 ⟨rfl,rfl,hg3,e14⟩
   subst e14
   rw [←over_same hg3]
   refine thn_n ?_
   have hup:0≤upV e.lv (rd cv q)∧upV e.lv (rd cv q)≤2:=by
    unfold upV
    split
    ·omega
    ·split <;> omega
   generalize upV e.lv (rd cv q)=u at hup hst ⊢
   refine Rg (Mv (z:=Mv (z:=Co (Fa (z:=Co (Ld (z:=Mv (z:=Co (Ad (z:=Co (Ix (z:=WO.cons0 (Sv (z:=fun s30_7 hn30_7 hM30_7=>Nl ?_))))))))))))))
   obtain ⟨H13,hM13,hI13⟩:=hI12.put hM30_7 hx.1 (by omega)
   refine Rg (Co (Ad (z:=Mv (z:=Nl ?_))))
   exact ⟨rfl,(q+1,_),Ho,⟨by omega,by dsimp only;omega,by dsimp only;rw [List.length_set];exact hlO2,⟨_,hM13,hI13⟩,hst⟩,by dsimp only;omega⟩
  have hdq:decide ((q:Int)<(e.A.length:Int))=false:=decide_eq_false (by omega)
  rw [show e.A.length-q=0 by omega] at hst
  have hst2:O2=W2:=hst
  subst hst2
  refine WC.seq (Rg (Co (Lt (z:=Nl (WC.seq (Cf (z:=WC.exit (Rg (Co (Ad (z:=Mv (z:=Nl ?_))))))))))))
  exact ⟨rfl,(i+1,O2),Ho,⟨by omega,⟨_,hM12,hI12.at_,fun ν o e ne=>hI12.kp _ _ (k1Z _ _ (hI1.kp _ _ e ne)).1 ne⟩,hlO2,by dsimp only;omega,hres⟩,by dsimp only;omega⟩
 have hdl:decide ((i:Int)<(R.length:Int))=false:=decide_eq_false (by omega)
 rw [List.drop_of_length_le (by rw [List.length_map];omega)] at hres
 have hres2:O=W1:=hres
 subst hres2
 clear hres hlt hi hseq hAr hSo hvao
 have hf1:=hI1.kp _ _ hf5 nfo
 refine WC.seq (Rg (Co (Lt (z:=Nl (WC.seq (Cf (z:=WC.exit (WC.seq (WC.seq (Rg (Mv (z:=Co (Ln (z:=Mv (z:=Nl (WC.block ?_))))))))))))))))
 clear hdl
 have hW2:e1D F bb (n-(0:Int).toNat) 0 O=e1D F bb n 0 O:=rfl
 generalize e1D F bb n 0 O=W2 at hW2 hlev
 refine WC.loop (D:=Int×List Int) (fun x=>[(0,.slice A n kk),(1,.int .i64 bb),(4,.slice none 0 0),(5,.int .i64 0),(6,.slice (some ⟨f,0,none⟩) n n),(9,.slice (some ⟨ao,0,none⟩) n n),(160,.slice (some ⟨f,0,none⟩) n n),(161,.int .i64 n),(162,.int .i64 x.1)])
  (fun x s1=>s.next≤s1.next∧(∃ H1,Models ro s1 H1∧RowI H5 H1 ao x.2)∧x.2.length=n∧0≤x.1∧x.1≤n∧e1D F bb (n-x.1.toNat) x.1 x.2=W2) (fun x=>n-x.1.toNat) (0,O) ?_ ⟨by omega,⟨_,hM1,hI1⟩,hlO,Int.le_refl _,by dsimp only;omega,hW2⟩ ?_
 ·exact Ho
 clear hW2 hM1 hI1 hlO hf1 hn1 O s1 H1
 rintro ⟨i,O⟩ g s1 ⟨hn1,⟨H1,hM1,hI1⟩,hlO,hi0,hi1,hres⟩
 dsimp only at hn1 hI1 hlO hi0 hi1 hres ⊢
 have hf1:=hI1.kp _ _ hf5 nfo
 have ho1:=hI1.at_
 rcases dc (i<(n:Int)) with ⟨hlt,hdl⟩ | ⟨hlt,hdl⟩
 ·rw [show n-i.toNat=(n-(i+1).toNat)+1 by omega] at hres
  simp only [e1D] at hres
  refine WC.seq (Rg (Co (Lt (z:=Nl (WC.seq (Ct (z:=WC.skip (WC.seq (WC.block (WC.seq (Rg (Mv (z:=Co (Ix (z:=Co (Ld (z:=Av (z:=Av (z:=Nl (WC.seq (Rg (Mv (z:=Co ?_)))))))))))))))))))))))
  refine SV.callM rfl rfl (gone_sp hX0 hM1) ?_
  rintro v s2 H2 hn2 hM2 ⟨rfl,eH⟩
  rw [eH] at hM2
  clear eH
  rcases dc (isRemoved (rd F i)) with ⟨hr,hdr⟩ | ⟨hr,hdr⟩
  ·rw [if_pos hr] at hres
   refine Nl (Ct (z:=WC.seq (Rg (Mv (z:=Mv (z:=Mv (z:=Co (Ix (z:=WO.cons0 (Sv (z:=fun s37_4 hn37_4 hM37_4=>Nl ?_)))))))))))
   obtain ⟨H3,hM3,hI3⟩:=hI1.put hM37_4 hi0 (by omega)
   clear hM37_4
   have ho3:=hI3.at_
   have hl3:(O.set i.toNat bb).length=n:=by rw [List.length_set];exact hlO
   rcases dc (0<i) with ⟨hp,hdp⟩ | ⟨hp,hdp⟩
   ·have hrr:rd (O.set i.toNat bb) (i-1)=rd O (i-1):=by rw [rd_set hi0 (by omega) (by omega),if_neg (by omega)]
    rw [if_pos hp] at hres
    refine WC.seq (Rg (Mv (z:=Co (Gt (z:=Nl (Ct (z:=Rg (Mv (z:=Mv (z:=Mv (z:=Mv (z:=Co (Sb (z:=Co (Ix (z:=Co (Ld (z:=Co (Ix (z:=WO.cons0 (Sv (z:=fun s39_8 hn39_8 hM39_8=>Nl ?_))))))))))))))))))))))
    obtain ⟨H4,hM4,hI4⟩:=hI3.put hM39_8 hi0 (by omega)
    rw [hrr,List.set_set] at hI4
    refine Rg (Co (Ad (z:=Mv (z:=Nl ?_))))
    exact ⟨rfl,(i+1,O.set i.toNat (rd O (i-1))),Ho,⟨by omega,⟨_,hM4,hI4⟩,by dsimp only;rw [List.length_set];exact hlO,by dsimp only;omega,by dsimp only;omega,hres⟩,by dsimp only;omega⟩
   ·rw [if_neg hp] at hres
    refine WC.seq (Rg (Mv (z:=Co (Gt (z:=Nl (Cf (z:=WC.skip (Rg (Co (Ad (z:=Mv (z:=Nl ?_))))))))))))
    exact ⟨rfl,(i+1,O.set i.toNat bb),Ho,⟨by omega,⟨_,hM3,hI3⟩,hl3,by dsimp only;omega,by dsimp only;omega,hres⟩,by dsimp only;omega⟩
  ·rw [if_neg hr] at hres
   refine Nl (Cf (z:=WC.skip (Rg (Co (Ad (z:=Mv (z:=Nl ?_)))))))
   exact ⟨rfl,(i+1,O),Ho,⟨by omega,⟨_,hM2,hI1⟩,hlO,by dsimp only;omega,by dsimp only;omega,hres⟩,by dsimp only;omega⟩
 rw [show n-i.toNat=0 by omega] at hres
 have hres2:O=W2:=hres
 subst hres2
 refine WC.seq (Rg (Co (Lt (z:=Nl (WC.seq (Cf (z:=WC.exit (WC.seq (WC.seq (Rg (Mv (z:=Co (Ln (z:=Mv (z:=Nl (WC.block ?_))))))))))))))))
 have hW3:e2D F bb (n-(0:Int).toNat) 0 O=e2D F bb n 0 O:=rfl
 rw [←hlev] at hW3
 clear hlev
 generalize levelsD Y C b=W3 at hW3 ⊢
 clear hdl hlt hres hi0 hi1
 refine WC.loop (D:=Int×List Int) (fun x=>[(0,.slice A n kk),(1,.int .i64 bb),(4,.slice none 0 0),(5,.int .i64 0),(6,.slice (some ⟨f,0,none⟩) n n),(9,.slice (some ⟨ao,0,none⟩) n n),(185,.int .i64 n),(186,.int .i64 x.1)])
  (fun x s1=>s.next≤s1.next∧(∃ H1,Models ro s1 H1∧RowI H5 H1 ao x.2)∧x.2.length=n∧0≤x.1∧x.1≤n∧e2D F bb (n-x.1.toNat) x.1 x.2=W3) (fun x=>n-x.1.toNat) (0,O) ?_ ⟨by omega,⟨_,hM1,hI1⟩,hlO,Int.le_refl _,by dsimp only;omega,hW3⟩ ?_
 ·exact Ho
 clear hW3 hM1 hI1 hlO hf1 ho1 hn1
 rintro ⟨i,O⟩ g s1 ⟨hn1,⟨H1,hM1,hI1⟩,hlO,hi0,hi1,hres⟩
 dsimp only at hn1 hI1 hlO hi0 hi1 hres ⊢
 have hf1:=hI1.kp _ _ hf5 nfo
 have ho1:=hI1.at_
 rcases dc (i<(n:Int)) with ⟨hlt,hdl⟩ | ⟨hlt,hdl⟩
 ·rw [show n-i.toNat=(n-(i+1).toNat)+1 by omega] at hres
  simp only [e2D] at hres
  rw [hFl,show n-i.toNat=n-i.toNat from rfl] at hres
  refine WC.seq (Rg (Co (Lt (z:=Nl (WC.seq (Ct (z:=WC.skip (WC.seq (WC.block (WC.seq (Rg (Mv (z:=Av (z:=Nl (WC.seq (Rg (Mv (z:=Av (z:=Nl (WC.seq (WC.block ?_)))))))))))))))))))))
  generalize hJJ:skD F (n-i.toNat) i=J at hres
  refine WC.loop (D:=Int) (fun j=>[(0,.slice A n kk),(1,.int .i64 bb),(4,.slice none 0 0),(5,.int .i64 0),(6,.slice (some ⟨f,0,none⟩) n n),(9,.slice (some ⟨ao,0,none⟩) n n),(22,.int .i64 i),(23,.int .i64 j),(185,.int .i64 n),(186,.int .i64 i)])
   (fun j s1=>s.next≤s1.next∧Models ro s1 H1∧i≤j∧j≤n∧skD F (n-j.toNat) j=J) (fun j=>n-j.toNat) i ?_ ⟨by omega,hM1,Int.le_refl _,hi1,hJJ⟩ ?_
  ·exact Ho
  clear hJJ hM1 hn1
  rintro j g s1 ⟨hn1,hM1,hij,hjn,hJ⟩
  refine WC.seq (WC.seq ?_)
  refine WC.mono (Q:=fun e g' ds' s'=>e = .normal∧ds'=[]∧holds g' [(0,.slice A n kk),(1,.int .i64 bb),(4,.slice none 0 0),(5,.int .i64 0),(6,.slice (some ⟨f,0,none⟩) n n),(9,.slice (some ⟨ao,0,none⟩) n n),(22,.int .i64 i),(23,.int .i64 j),(185,.int .i64 n),(186,.int .i64 i),(221,.bool (decide (j<n∧isTail (rd F j))))]∧s.next≤s'.next∧Models ro s' H1) ?_ ?_
  ·rcases dc (j<(n:Int)) with ⟨hj,hdj⟩ | ⟨hj,hdj⟩
   ·by_cases h12:rd F j=12
    ·have hd12:decide (rd F j=12)=true:=decide_eq_true h12
     refine Rg (Mv (z:=Mv (z:=Co (Ln (z:=Co (Lt (z:=Mv (z:=Gy (z:=Mq (z:=Gy (z:=Mq (z:=Gy (z:=Ix (z:=Gy (z:=Ld (z:=Gy (z:=Ei (z:=Gy (z:=Mq (z:=Gn (z:=Gn (z:=Gn (z:=Gn (z:=Gn (z:=Gy (z:=Pt (z:=Gy (z:=Mq (z:=Gn (z:=Gn (z:=Gn (z:=Gn (z:=Gn (z:=Gy (z:=Pt (z:=Gy (z:=Mq (z:=Gn (z:=Gn (z:=Gn (z:=Gn (z:=Gn (z:=Gy (z:=Pt (z:=Co (Pt (z:=Nl ?_)))))))))))))))))))))))))))))))))))))))))))))))
     exact ⟨rfl,rfl,⟨rfl,rfl,rfl,rfl,rfl,rfl,rfl,rfl,rfl,rfl,congrArg (fun b=>some (Value.bool b)) ((decide_eq_true (p:=j<n∧isTail (rd F j)) ⟨hj,.inl h12⟩).symm),trivial⟩,by omega,hM1⟩
    have hd12:decide (rd F j=12)=false:=decide_eq_false h12
    by_cases hop:isOpener (rd F j)
    ·have hdo:decide (isOpener (rd F j))=true:=decide_eq_true hop
     refine Rg (Mv (z:=Mv (z:=Co (Ln (z:=Co (Lt (z:=Mv (z:=Gy (z:=Mq (z:=Gy (z:=Mq (z:=Gy (z:=Ix (z:=Gy (z:=Ld (z:=Gy (z:=Ei (z:=Gy (z:=Mq (z:=Gy (z:=Mq (z:=Gy (z:=Mq (z:=Gy (z:=Ix (z:=Gy (z:=Ld (z:=?_))))))))))))))))))))))))))))
     all_goals (refine WO.guardY rfl rfl rfl (by assumption) ?_ (by decide))
     refine SV.callM rfl rfl (opens_sp hX0 hM1) ?_
     rintro v s2 H2 hn2 hM2 ⟨rfl,eH⟩
     rw [eH] at hM2
     clear eH
     refine Gy (z:=Pf (z:=Gy (z:=Mq (z:=Gn (z:=Gn (z:=Gn (z:=Gn (z:=Gn (z:=Gy (z:=Pt (z:=Gy (z:=Mq (z:=Gn (z:=Gn (z:=Gn (z:=Gn (z:=Gn (z:=Gy (z:=Pt (z:=Co (Pt (z:=Nl ?_))))))))))))))))))))))
     exact ⟨rfl,rfl,⟨rfl,rfl,rfl,rfl,rfl,rfl,rfl,rfl,rfl,rfl,congrArg (fun b=>some (Value.bool b)) ((decide_eq_true (p:=j<n∧isTail (rd F j)) ⟨hj,.inr (.inl hop)⟩).symm),trivial⟩,by omega,hM2⟩
    have hdo:decide (isOpener (rd F j))=false:=decide_eq_false hop
    by_cases h22:rd F j=22
    ·have hd22:decide (rd F j=22)=true:=decide_eq_true h22
     refine Rg (Mv (z:=Mv (z:=Co (Ln (z:=Co (Lt (z:=Mv (z:=Gy (z:=Mq (z:=Gy (z:=Mq (z:=Gy (z:=Ix (z:=Gy (z:=Ld (z:=Gy (z:=Ei (z:=Gy (z:=Mq (z:=Gy (z:=Mq (z:=Gy (z:=Mq (z:=Gy (z:=Ix (z:=Gy (z:=Ld (z:=?_))))))))))))))))))))))))))))
     all_goals (refine WO.guardY rfl rfl rfl (by assumption) ?_ (by decide))
     refine SV.callM rfl rfl (opens_sp hX0 hM1) ?_
     rintro v s2 H2 hn2 hM2 ⟨rfl,eH⟩
     rw [eH] at hM2
     clear eH
     refine Gy (z:=Pf (z:=Gy (z:=Mq (z:=Gy (z:=Mq (z:=Gy (z:=Mq (z:=Gy (z:=Ix (z:=Gy (z:=Ld (z:=Gy (z:=Ei (z:=Gy (z:=Pf (z:=Gy (z:=Mq (z:=Gn (z:=Gn (z:=Gn (z:=Gn (z:=Gn (z:=Gy (z:=Pt (z:=Co (Pt (z:=Nl ?_)))))))))))))))))))))))))))
     exact ⟨rfl,rfl,⟨rfl,rfl,rfl,rfl,rfl,rfl,rfl,rfl,rfl,rfl,congrArg (fun b=>some (Value.bool b)) ((decide_eq_true (p:=j<n∧isTail (rd F j)) ⟨hj,.inr (.inr (.inl h22))⟩).symm),trivial⟩,by omega,hM2⟩
    have hd22:decide (rd F j=22)=false:=decide_eq_false h22
    refine Rg (Mv (z:=Mv (z:=Co (Ln (z:=Co (Lt (z:=Mv (z:=Gy (z:=Mq (z:=Gy (z:=Mq (z:=Gy (z:=Ix (z:=Gy (z:=Ld (z:=Gy (z:=Ei (z:=Gy (z:=Mq (z:=Gy (z:=Mq (z:=Gy (z:=Mq (z:=Gy (z:=Ix (z:=Gy (z:=Ld (z:=?_))))))))))))))))))))))))))))
    all_goals (refine WO.guardY rfl rfl rfl (by assumption) ?_ (by decide))
    refine SV.callM rfl rfl (opens_sp hX0 hM1) ?_
    rintro v s2 H2 hn2 hM2 ⟨rfl,eH⟩
    rw [eH] at hM2
    clear eH
    refine Gy (z:=Pf (z:=Gy (z:=Mq (z:=Gy (z:=Mq (z:=Gy (z:=Mq (z:=Gy (z:=Ix (z:=Gy (z:=Ld (z:=Gy (z:=Ei (z:=Gy (z:=Pf (z:=Gy (z:=Mq (z:=Gy (z:=Mq (z:=Gy (z:=Mq (z:=Gy (z:=Ix (z:=Gy (z:=Ld (z:=?_))))))))))))))))))))))))))
    all_goals (refine WO.guardY rfl rfl rfl (by assumption) ?_ (by decide))
    refine SV.callM rfl rfl (gone_sp hX0 hM2) ?_
    rintro v s3 H3 hn3 hM3 ⟨rfl,eH⟩
    rw [eH] at hM3
    clear eH
    refine Gy (z:=Pf (z:=Co (Pt (z:=Nl ?_))))
    exact ⟨rfl,rfl,⟨rfl,rfl,rfl,rfl,rfl,rfl,rfl,rfl,rfl,rfl,congrArg (fun b=>some (Value.bool b)) (decide_eq_decide.mpr ⟨fun x=>⟨hj,.inr (.inr (.inr x))⟩,fun x=>x.2.elim (fun y=>absurd y h12) (fun y=>y.elim (fun z=>absurd z hop) (fun z=>z.elim (fun w=>absurd w h22) id))⟩),trivial⟩,by omega,hM3⟩
   ·refine Rg (Mv (z:=Mv (z:=Co (Ln (z:=Co (Lt (z:=Mv (z:=Gn (z:=Gn (z:=Gn (z:=Gn (z:=Gn (z:=Gn (z:=Gu (z:=Gu (z:=Gu (z:=Gu (z:=Gu (z:=Gn (z:=Gn (z:=Gu (z:=Gu (z:=Gu (z:=Gu (z:=Gu (z:=Gn (z:=Gn (z:=Gu (z:=Gu (z:=Gu (z:=Gu (z:=Gu (z:=Gn (z:=Co (Pf (z:=Nl ?_))))))))))))))))))))))))))))))))))))
    exact ⟨rfl,rfl,⟨rfl,rfl,rfl,rfl,rfl,rfl,rfl,rfl,rfl,rfl,congrArg (fun b=>some (Value.bool b)) ((decide_eq_false (p:=j<n∧isTail (rd F j)) (fun x=>hj x.1)).symm),trivial⟩,by omega,hM1⟩
  clear hM1
  rintro e g2 ds2 s2 ⟨rfl,rfl,hg2,hn2,hM2⟩
  rw [←over_same hg2]
  refine thn_n ?_
  rcases dc (j<n∧isTail (rd F j)) with ⟨hgo,hdg⟩ | ⟨hgo,hdg⟩
  ·rw [show n-j.toNat=(n-(j+1).toNat)+1 by omega] at hJ
   simp only [skD] at hJ
   rw [if_pos hgo.2] at hJ
   refine Ct (z:=WC.skip (WC.block (Rg (Mv (z:=Co (Ad (z:=Av (z:=Nl ?_))))))))
   exact ⟨rfl,j+1,Ho,⟨by omega,hM2,by omega,by omega,hJ⟩,by omega⟩
  have hJ2:j=J:=by
   rw [←hJ]
   by_cases hj:j<n
   ·rw [show n-j.toNat=(n-(j+1).toNat)+1 by omega]
    simp only [skD]
    rw [if_neg (fun x=>hgo ⟨hj,x⟩)]
   ·rw [show n-j.toNat=0 by omega];rfl
  subst hJ2
  clear hJ
  refine Cf (z:=WC.exit (WC.seq ?_))
  refine WC.mono (Q:=fun e g' ds' s'=>e = .normal∧ds'=[]∧holds g' [(0,.slice A n kk),(1,.int .i64 bb),(4,.slice none 0 0),(5,.int .i64 0),(6,.slice (some ⟨f,0,none⟩) n n),(9,.slice (some ⟨ao,0,none⟩) n n),(22,.int .i64 i),(185,.int .i64 n),(186,.int .i64 i),(241,.bool (decide (endsAt F j)))]∧s'=s2) ?_ ?_
  ·rcases dc (j=(n:Int)) with ⟨hj,hdj⟩ | ⟨hj,hdj⟩
   ·refine Rg (Mv (z:=Mv (z:=Co (Ln (z:=Co (Ei (z:=Mv (z:=Gn (z:=Gn (z:=Gn (z:=Gn (z:=Gn (z:=Co (Pt (z:=Mv (z:=Gn (z:=Gn (z:=Gn (z:=Gn (z:=Gn (z:=Co (Pt (z:=Nl ?_)))))))))))))))))))))))
    exact ⟨rfl,rfl,⟨rfl,rfl,rfl,rfl,rfl,rfl,rfl,rfl,rfl,congrArg (fun b=>some (Value.bool b)) (decide_eq_true (p:=endsAt F j) (.inl (by omega))).symm,trivial⟩,rfl⟩
   rcases dc (rd F j=11) with ⟨h11,hd11⟩ | ⟨h11,hd11⟩
   ·refine Rg (Mv (z:=Mv (z:=Co (Ln (z:=Co (Ei (z:=Mv (z:=Gy (z:=Mq (z:=Gy (z:=Mq (z:=Gy (z:=Ix (z:=Gy (z:=Ld (z:=Gy (z:=Ei (z:=Co (Pf (z:=Mv (z:=Gn (z:=Gn (z:=Gn (z:=Gn (z:=Gn (z:=Co (Pt (z:=Nl ?_))))))))))))))))))))))))))))
    exact ⟨rfl,rfl,⟨rfl,rfl,rfl,rfl,rfl,rfl,rfl,rfl,rfl,congrArg (fun b=>some (Value.bool b)) (decide_eq_true (p:=endsAt F j) (.inr (.inl h11))).symm,trivial⟩,rfl⟩
   refine Rg (Mv (z:=Mv (z:=Co (Ln (z:=Co (Ei (z:=Mv (z:=Gy (z:=Mq (z:=Gy (z:=Mq (z:=Gy (z:=Ix (z:=Gy (z:=Ld (z:=Gy (z:=Ei (z:=Co (Pf (z:=Mv (z:=Gy (z:=Mq (z:=Gy (z:=Mq (z:=Gy (z:=Ix (z:=Gy (z:=Ld (z:=Gy (z:=Ei (z:=Co (Pf (z:=Nl ?_)))))))))))))))))))))))))))))))))
   exact ⟨rfl,rfl,⟨rfl,rfl,rfl,rfl,rfl,rfl,rfl,rfl,rfl,congrArg (fun b=>some (Value.bool b)) (decide_eq_decide.mpr ⟨fun x=>.inr (.inr x),fun x=>(by rcases x with y | y | y;omega;exact absurd y h11;exact y)⟩),trivial⟩,rfl⟩
  rintro e g3 ds3 s3 ⟨rfl,rfl,hg3,e3⟩
  subst e3
  rw [←over_same hg3]
  refine thn_n ?_
  rcases dc (endsAt F j) with ⟨hE,hdE⟩ | ⟨hE,hdE⟩
  ·rw [if_pos hE] at hres
   refine Ct (z:=Rg (Mv (z:=Mv (z:=Mv (z:=Co (Ix (z:=WO.cons0 (Sv (z:=fun s48_4 hn48_4 hM48_4=>Nl ?_)))))))))
   obtain ⟨H3,hM3,hI3⟩:=hI1.put hM48_4 hi0 (by omega)
   refine Rg (Co (Ad (z:=Mv (z:=Nl ?_))))
   exact ⟨rfl,(i+1,O.set i.toNat bb),Ho,⟨by omega,⟨_,hM3,hI3⟩,by dsimp only;rw [List.length_set];exact hlO,by dsimp only;omega,by dsimp only;omega,hres⟩,by dsimp only;omega⟩
  ·rw [if_neg hE] at hres
   refine Cf (z:=WC.skip (Rg (Co (Ad (z:=Mv (z:=Nl ?_))))))
   exact ⟨rfl,(i+1,O),Ho,⟨by omega,⟨_,hM2,hI1⟩,hlO,by dsimp only;omega,by dsimp only;omega,hres⟩,by dsimp only;omega⟩
 rw [show n-i.toNat=0 by omega] at hres
 have hres2:O=W3:=hres
 subst hres2
 refine WC.seq (Rg (Co (Lt (z:=Nl (WC.seq (Cf (z:=WC.exit (WC.seq (Rg (Mv (z:=Av (z:=Av (z:=Nl (WC.ret ?_))))))))))))))
 exact fin_two (e:=.ret) (v:=.slice _ _ _) (w:=.int .i64 0) rfl trivial rfl rfl (by omega) hM1 ⟨ao,rfl,fun ν o e=>⟨hI1.kp _ _ (kpF _ _ e).1 (kpF _ _ e).2,(kpF _ _ e).2⟩,hI1.at_,hlO⟩
theorem levelsD_no {s:St} {H:Hp} {A:Option Addr} {kk n:Nat} {b:Int} (hX:OwnX X) (hM:Models ro s H) (h:levelsBad n b≠0) :
 Sp X Try.prog ro 51 [.slice A n kk,.int .i64 b] s fun v H'=>v = .tuple #[.slice none 0 0,.int .i64 (levelsBad n b)]∧H'=H:=by
 refine Bo hX Try.func51 Try.ntmps51 (z:=?_)
 refine WC.seq (Rg (Av (z:=Av (z:=Nl ?_))))
 by_cases h1:b < -1∨1<b
 ·have e1:levelsBad n b=135:=if_pos h1
  rw [e1]
  rcases dc (b < -1) with ⟨h2,hd2⟩ | ⟨h2,hd2⟩
  ·refine WC.seq (WC.seq (Rg (Mv (z:=Co (Lt (z:=Mv (z:=Gn (z:=Gn (z:=Co (Pt (z:=Nl (Ct (z:=WC.seq (Rg (Av (z:=Av (z:=Nl (WC.ret ?_))))))))))))))))))
   exact fin_two (e:=.ret) (v:=.slice none 0 0) (w:=.int .i64 135) rfl trivial rfl rfl (by omega) hM ⟨rfl,rfl⟩
  ·have hd3:decide (1<b)=true:=decide_eq_true (by omega)
   refine WC.seq (WC.seq (Rg (Mv (z:=Co (Lt (z:=Mv (z:=Gy (z:=Mq (z:=Gy (z:=Gt (z:=Co (Pf (z:=Nl (Ct (z:=WC.seq (Rg (Av (z:=Av (z:=Nl (WC.ret ?_))))))))))))))))))))
   exact fin_two (e:=.ret) (v:=.slice none 0 0) (w:=.int .i64 135) rfl trivial rfl rfl (by omega) hM ⟨rfl,rfl⟩
 ·have e0:levelsBad n b=if 16384<n then 133 else 0:=if_neg h1
  have hn:16384<n:=by
   by_cases h3:16384<n
   ·exact h3
   ·rw [e0,if_neg h3] at h;exact absurd rfl h
  rw [e0,if_pos hn]
  have hd2:decide (b < -1)=false:=decide_eq_false (by omega)
  have hd3:decide (1<b)=false:=decide_eq_false (by omega)
  have hd4:decide ((16384:Int)<(n:Int))=true:=decide_eq_true (by omega)
  refine WC.seq (WC.seq (Rg (Mv (z:=Co (Lt (z:=Mv (z:=Gy (z:=Mq (z:=Gy (z:=Gt (z:=Co (Pf (z:=Nl (Cf (z:=WC.skip (WC.seq (WC.seq (Rg (Mv (z:=Co (Ln (z:=Co (Gt (z:=Nl (Ct (z:=WC.seq (Rg (Av (z:=Av (z:=Nl (WC.ret ?_)))))))))))))))))))))))))))))))
  exact fin_two (e:=.ret) (v:=.slice none 0 0) (w:=.int .i64 133) rfl trivial rfl rfl (by omega) hM ⟨rfl,rfl⟩
def dnS (T:List Int) (z:Int):Nat→Int
 | 0=>z
 | r+1=>if 1<rd T r then rd T r else dnS T z r
def upS (T:List Int):Nat→Int→Int
 | 0,_=>0
 | r+1,j=>if 1<rd T j then rd T j else upS T r (j+1)
def scriptD (T:List Int) (i:Nat):Int:=dnS T (upS T (T.length-i) i) (i+1)
set_option maxHeartbeats 4000000 in
theorem scriptD_sp {Y:Exts} {s:St} {H:Hp} {A:Option Addr} {kk i:Nat} {C:List Int} (hX:ExtOk X ro Y) (hM:Models ro s H) (hr:Rdd H A C) (hn:C.length≤16384) (hi:i<C.length) :
 Sp X Try.prog ro 50 [.slice A C.length kk,.int .i64 i] s fun v H'=>v = .int .i64 (scriptD (C.map Y.LS) i)∧H'=H:=by
 have hX0:=hX.own
 refine Bo hX.own Try.func50 Try.ntmps50 (z:=?_)
 refine WC.seq (Rg (Av (z:=Nl (WC.seq (WC.seq (Rg (Mv (z:=Av (z:=Nl (WC.block ?_))))))))))
 have hS:scriptD (C.map Y.LS) i=dnS (C.map Y.LS) (upS (C.map Y.LS) (C.length-i) i) (i+1):=by unfold scriptD;rw [List.length_map]
 generalize scriptD (C.map Y.LS) i=RES at hS ⊢
 refine WC.loop (D:=Nat) (fun x=>[(0,.slice A C.length kk),(1,.int .i64 i),(5,.int .i64 ((x:Int)-1))])
  (fun x s1=>s.next≤s1.next∧Models ro s1 H∧x≤i+1∧dnS (C.map Y.LS) (upS (C.map Y.LS) (C.length-i) i) x=RES) (fun x=>x) (i+1) ?_ ⟨by omega,hM,by omega,hS.symm⟩ ?_
 ·refine ⟨rfl,rfl,?_,trivial⟩
  show some (Value.int .i64 (i:Int))=some (.int .i64 (((i+1:Nat):Int)-1))
  rw [show ((i+1:Nat):Int)-1=(i:Int) by push_cast;omega]
 rintro x g s1 ⟨hn1,hM1,hx,hres⟩
 rcases x with _ | x
 ·have hres2:upS (C.map Y.LS) (C.length-i) i=RES:=hres
  have hd0:decide ((0:Int)≤((0:Nat):Int)-1)=false:=by decide
  refine WC.seq (WC.seq (Rg (Mv (z:=Co (Ge (z:=Nl (Cf (z:=WC.exit (WC.seq (WC.seq (Rg (Mv (z:=Av (z:=Nl (WC.block ?_)))))))))))))))
  refine WC.loop (D:=Nat) (fun x=>[(0,.slice A C.length kk),(7,.int .i64 (x:Int))])
   (fun x s1=>s.next≤s1.next∧Models ro s1 H∧x≤C.length∧upS (C.map Y.LS) (C.length-x) x=RES) (fun x=>C.length-x) i ?_ ⟨by omega,hM1,by omega,hres2⟩ ?_
  ·exact Ho
  clear hM1 hres hres2 hn1
  rintro x g s1 ⟨hn1,hM1,hx,hres⟩
  by_cases hlt:x<C.length
  ·have hdl:decide ((x:Int)<(C.length:Int))=true:=decide_eq_true (by omega)
   obtain ⟨ν,o,f,rfl,hν,hf⟩:=hr x (by omega) (by omega)
   rw [show C.length-x=(C.length-(x+1))+1 by omega] at hres
   simp only [upS] at hres
   rw [rd_map (by omega) (by omega)] at hres
   refine WC.seq (WC.seq (Rg (Mv (z:=Mv (z:=Co (Ln (z:=Co (Lt (z:=Nl (Ct (z:=WC.skip (WC.seq (WC.block (WC.seq (Rg (Mv (z:=Mv (z:=Co (Ix (z:=?_))))))))))))))))))))
   refine WO.cons (SV.loadR (by assumption) rfl (by assumption) (by assumption) ?_) (by decide)
   refine Co ?_
   refine SV.callM rfl rfl (hX.look44 _ _ _ hM1) ?_
   rintro v s2 H2 hn2 hM2 ⟨rfl,rfl⟩
   refine WO.cons (SV.field rfl rfl ?_) (by decide)
   refine Av (z:=Nl ?_)
   rcases dc (1<Y.LS (rd C x)) with ⟨h1,hd1⟩ | ⟨h1,hd1⟩
   ·rw [if_pos h1] at hres
    refine WC.seq (Rg (Mv (z:=Co (Gt (z:=Nl (Ct (z:=WC.seq (Rg (Mv (z:=Av (z:=Nl (WC.ret ?_))))))))))))
    exact fin_one (e:=.ret) (v:=.int .i64 _) rfl trivial rfl (by omega) hM2 ⟨by rw [←hres],rfl⟩
   ·rw [if_neg h1] at hres
    refine WC.seq (Rg (Mv (z:=Co (Gt (z:=Nl (Cf (z:=WC.skip (Rg (Mv (z:=Co (Ad (z:=Av (z:=Nl ?_)))))))))))))
    exact ⟨rfl,x+1,Ho,⟨by omega,hM2,by omega,hres⟩,by omega⟩
  ·have hdl:decide ((x:Int)<(C.length:Int))=false:=decide_eq_false (by omega)
   rw [show C.length-x=0 by omega] at hres
   have hres2:(0:Int)=RES:=hres
   refine WC.seq (WC.seq (Rg (Mv (z:=Mv (z:=Co (Ln (z:=Co (Lt (z:=Nl (Cf (z:=WC.exit (WC.seq (Rg (Av (z:=Nl (WC.ret ?_))))))))))))))))
   exact fin_one (e:=.ret) (v:=.int .i64 0) rfl trivial rfl (by omega) hM1 ⟨by rw [←hres2],rfl⟩
 ·have e1:((x+1:Nat):Int)-1=(x:Int):=by push_cast;omega
  rw [e1]
  have hd0:decide ((0:Int)≤(x:Int))=true:=decide_eq_true (by omega)
  obtain ⟨ν,o,f,rfl,hν,hf⟩:=hr x (by omega) (by omega)
  simp only [dnS] at hres
  rw [rd_map (by omega) (by omega)] at hres
  refine WC.seq (WC.seq (Rg (Mv (z:=Co (Ge (z:=Nl (Ct (z:=WC.skip (WC.seq (WC.block (WC.seq (Rg (Mv (z:=Mv (z:=Co (Ix (z:=?_)))))))))))))))))
  refine WO.cons (SV.loadR (by assumption) rfl (by assumption) (by assumption) ?_) (by decide)
  refine Co ?_
  refine SV.callM rfl rfl (hX.look44 _ _ _ hM1) ?_
  rintro v s2 H2 hn2 hM2 ⟨rfl,rfl⟩
  refine WO.cons (SV.field rfl rfl ?_) (by decide)
  refine Av (z:=Nl ?_)
  rcases dc (1<Y.LS (rd C x)) with ⟨h1,hd1⟩ | ⟨h1,hd1⟩
  ·rw [if_pos h1] at hres
   refine WC.seq (Rg (Mv (z:=Co (Gt (z:=Nl (Ct (z:=WC.seq (Rg (Mv (z:=Av (z:=Nl (WC.ret ?_))))))))))))
   exact fin_one (e:=.ret) (v:=.int .i64 _) rfl trivial rfl (by omega) hM2 ⟨by rw [←hres],rfl⟩
  ·rw [if_neg h1] at hres
   refine WC.seq (Rg (Mv (z:=Co (Gt (z:=Nl (Cf (z:=WC.skip (Rg (Mv (z:=Co (Sb (z:=Av (z:=Nl ?_)))))))))))))
   exact ⟨rfl,x,Ho,⟨by omega,hM2,by omega,hres⟩,by omega⟩
def scriptsD (T:List Int):List Int:=(List.range T.length).map (scriptD T)
theorem scriptsD_sp {Y:Exts} {s:St} {H:Hp} {A:Option Addr} {kk:Nat} {C:List Int} (hX:ExtOk X ro Y) (hM:Models ro s H) (hr:Rdd H A C) (hn:C.length≤16384) :
 Sp X Try.prog ro 27 [.slice A C.length kk] s fun v H'=>∃ a,v = .slice (some ⟨a,0,none⟩) C.length C.length∧(∀ ν o,H ν=some o→H' ν=some o∧ν≠a)∧H' a=some (.row 1 ((scriptsD (C.map Y.LS)).map (.int .i64))):=by
 have hX0:=hX.own
 refine Bo hX.own Try.func27 Try.ntmps27 (z:=?_)
 refine WC.seq (Rg (Av (z:=Nl (WC.seq (Rg (Co (Bs (z:=fun a1_0 s1_0 hf1_0 hne1_0 hn1_0 hM1_0=>Av (z:=Nl (WC.seq (WC.seq (Rg (Mv (z:=Co (Ln (z:=Mv (z:=Nl (WC.block ?_))))))))))))))))))
 have hll:(scriptsD (C.map Y.LS)).length=C.length:=by unfold scriptsD;rw [List.length_map,List.length_range,List.length_map]
 refine WC.loop (D:=Nat×Nat) (fun x=>[(0,.slice A C.length kk),(3,.slice (some ⟨x.2,0,none⟩) x.1 x.1),(7,.int .i64 C.length),(8,.int .i64 x.1)])
  (fun x s1=>s.next≤s1.next∧x.1≤C.length∧∃ H1,Models ro s1 H1∧(∀ ν o,H ν=some o→H1 ν=some o∧ν≠x.2)∧H1 x.2=some (.row 1 (((scriptsD (C.map Y.LS)).take x.1).map (.int .i64)))) (fun x=>C.length-x.1) (0,a1_0) ?_
  ⟨by omega,Nat.zero_le _,_,hM1_0,fun ν o e=>⟨Hp.up_ne (hne1_0 _ _ e) e,hne1_0 _ _ e⟩,Hp.up_same⟩ ?_
 ·exact Ho
 rintro ⟨k,a⟩ g s1 ⟨hn1,hk,H1,hM1,hkp,ha⟩
 dsimp only at hn1 hk hkp ha ⊢
 by_cases hlt:k<C.length
 ·have hdl:decide ((k:Int)<(C.length:Int))=true:=decide_eq_true (by omega)
  refine WC.seq (Rg (Co (Lt (z:=Nl (WC.seq (Ct (z:=WC.skip (WC.seq (WC.block (WC.seq (Rg (Mv (z:=Av (z:=Nl (Rg (Mv (z:=Mv (z:=Mv (z:=Co ?_)))))))))))))))))))
  refine SV.callM rfl rfl (scriptD_sp hX hM1 (hr.mono (fun ν o e=>(hkp _ _ e).1)) hn hlt) ?_
  rintro v s2 H2 hn2 hM2 ⟨rfl,eH⟩
  rw [eH] at hM2
  clear eH
  refine Co (Bs (z:=fun a5_4 s5_4 hf5_4 hne5_4 hn5_4 hM5_4=>Co ?_))
  have hl:((scriptsD (C.map Y.LS)).take k).length=k:=by rw [List.length_take,hll];omega
  have hMb:Models ro s5_4 (H1.up a5_4 (.row 1 [.int .i64 (scriptD (C.map Y.LS) k)])):=hM5_4
  clear hM5_4
  refine SV.appendM (t:=23) (u:=23) (e:=3) (e':=3) (sz:=1) (sz':=1) (bytes:=8) (z:=[.int .i64 0]) (n:=k) (m:=1) (vs:=((scriptsD (C.map Y.LS)).take k).map (.int .i64)) (xs:=[.int .i64 (scriptD (C.map Y.LS) k)]) rfl hMb rfl rfl (SlO.ofRow (Hp.up_ne (hne5_4 _ _ ha) ha) (by rw [List.length_map,hl,Nat.mul_one]))
   (Src.row Hp.up_same rfl rfl (fun j v h=>by rw [Nat.zero_add];exact h)) rfl (by omega) (fun v5 s5 H5 hn5 hM5 hv5 hk5 hnew5 hex5=>?_)
  obtain ⟨a5,rfl,ha5,hkp5⟩:=app_one ha hl hne5_4 hk5 hnew5 hex5
  clear hv5 hk5 hnew5 hex5
  refine Av (z:=Nl (Rg (Co (Ad (z:=Mv (z:=Nl ?_))))))
  have he:(scriptsD (C.map Y.LS)).take k++[scriptD (C.map Y.LS) k]=(scriptsD (C.map Y.LS)).take (k+1):=by
   rw [List.take_add_one,List.getElem?_eq_getElem (by rw [hll];omega)]
   unfold scriptsD
   rw [List.getElem_map,List.getElem_range];rfl
  rw [he] at ha5
  exact ⟨rfl,(k+1,a5),Ho,⟨by omega,by dsimp only;omega,H5,hM5,fun ν o e=>hkp5 ν o (hkp ν o e).1 (hkp ν o e).2,ha5⟩,by dsimp only;omega⟩
 ·have hdl:decide ((k:Int)<(C.length:Int))=false:=decide_eq_false (by omega)
  obtain rfl:k=C.length:=by omega
  rw [List.take_of_length_le (by rw [hll];exact Nat.le_refl _)] at ha
  refine WC.seq (Rg (Co (Lt (z:=Nl (WC.seq (Cf (z:=WC.exit (WC.seq (Rg (Mv (z:=Av (z:=Nl (WC.ret ?_)))))))))))))
  exact fin_one (e:=.ret) (v:=.slice _ _ _) rfl trivial rfl hn1 hM1 ⟨a,rfl,hkp,ha⟩
def cutD (L S:List Int) (n:Nat) (i fr:Int):Prop:=i=n∨rd L i≠rd L fr∨rd S i≠rd S fr
instance (L S:List Int) (n:Nat) (i fr:Int):Decidable (cutD L S n i fr):=inferInstanceAs (Decidable (_∨_))
def spD (L S:List Int) (n:Nat):Nat→Int→Int→List RunE→List RunE
 | 0,_,_,R=>R
 | r+1,i,fr,R=>if cutD L S n i fr then spD L S n r (i+1) i (R++[⟨fr,i,rd L fr,rd S fr⟩]) else spD L S n r (i+1) fr R
def splitD (L S:List Int) (n:Nat):List RunE:=spD L S n n 1 0 []
set_option maxHeartbeats 4000000 in
theorem splitD_sp {Y:Exts} {s:St} {H:Hp} {A:Option Addr} {kk n:Nat} {C:List Int} {b:Int} (hX:ExtOk X ro Y) (hM:Models ro s H) (hr:Rdd H A C) (hl:C.length=n) (hb:levelsBad n b=0)
 (hseq:∀ e∈sequencesD (C.map Y.LB) (explM (C.map Y.LB) (bD b (C.map Y.LB))).1 (bD b (C.map Y.LB)),(0≤e.lv∧e.lv≤125)∧e.A.length≤n∧∀ x∈e.A,0≤x∧x<n) :
 Sp X Try.prog ro 28 [.slice A n kk,.int .i64 b] s fun v H'=>∃ w,v = .tuple #[w,.int .i64 0]∧(∀ ν o,H ν=some o→H' ν=some o∧baseV w≠some ν) ∧
  SlO H' w 4 (splitD (levelsD Y C b) (scriptsD (C.map Y.LS)) n).length ((splitD (levelsD Y C b) (scriptsD (C.map Y.LS)) n).flatMap enc4):=by
 have hX0:=hX.own
 have hbn:(-1≤b∧b≤1)∧n≤16384:=by
  unfold levelsBad at hb
  split at hb
  ·cases hb
  ·split at hb
   ·cases hb
   ·exact ⟨by omega,by omega⟩
 refine Bo hX.own Try.func28 Try.ntmps28 (z:=?_)
 refine WC.seq (Rg (Av (z:=Av (z:=Nl (WC.seq (Rg (Mv (z:=Mv (z:=Co ?_)))))))))
 refine SV.callM rfl rfl (levelsD_sp hX hM hr hl hbn.2 hbn.1 hseq) ?_
 rintro v s1 H1 hn1 hM1 ⟨l,rfl,hkp1,hl1,hLn⟩
 generalize levelsD Y C b=L at hl1 hLn ⊢
 refine Mv (z:=Co (Et (z:=Co (Et (z:=Av (z:=Av (z:=Nl (WC.seq (WC.seq (Rg (Mv (z:=Co (Ni (z:=Nl (Cf (z:=WC.skip (WC.seq (Rg (Mv (z:=Co ?_))))))))))))))))))))
 have c27:=scriptsD_sp (kk:=kk) hX hM1 (hr.mono (fun ν o e=>(hkp1 _ _ e).1)) (by omega)
 rw [hl] at c27
 refine SV.callM rfl rfl c27 ?_
 rintro v s2 H2 hn2 hM2 ⟨c,rfl,hkp2,hc2⟩
 have hSn:(scriptsD (C.map Y.LS)).length=n:=by unfold scriptsD;rw [List.length_map,List.length_range,List.length_map,hl]
 generalize scriptsD (C.map Y.LS)=S at hc2 hSn ⊢
 have hl2:=(hkp2 _ _ hl1).1
 refine Av (z:=Nl (WC.seq (Rg (Co (Bs (z:=fun a5_0 s5_0 hf5_0 hne5_0 hn5_0 hM5_0=>Av (z:=Nl ?_)))))))
 have hI0:SplI ro s5_0 H2 (H2.up a5_0 (.row 4 [])) (.slice (some ⟨a5_0,0,none⟩) 0 0) 0 []:={ md:=hM5_0,kp:=fun ν o e=>Hp.up_ne (hne5_0 _ _ e) e,sl:=.inr ⟨a5_0,0,[],rfl,Hp.up_same,rfl,Nat.le_refl _,rfl⟩,no:=fun ν o e e2=>hne5_0 _ _ e (Option.some.inj e2).symm,ln:=Int.le_refl _ }
 refine WC.seq (Rg (Av (z:=Nl (WC.seq (WC.seq (Rg (Av (z:=Nl (WC.block ?_)))))))))
 have hW:spD L S n n 1 0 []=splitD L S n:=rfl
 generalize splitD L S n=W at hW ⊢
 refine WC.loop (D:=Int×Int×Value×List RunE) (fun x=>[(0,.slice A n kk),(6,.slice (some ⟨l,0,none⟩) n n),(8,.slice (some ⟨c,0,none⟩) n n),(9,x.2.2.1),(10,.int .i64 x.2.1),(11,.int .i64 x.1)])
  (fun x s3=>s.next≤s3.next∧1≤x.1∧x.1≤n+1∧0≤x.2.1∧(x.2.1<n∨x.1=n+1)∧spD L S n (n+1-x.1.toNat) x.1 x.2.1 x.2.2.2=W∧∃ H3,SplI ro s3 H2 H3 x.2.2.1 (x.1-1) x.2.2.2) (fun x=>n+1-x.1.toNat) (1,0,.slice (some ⟨a5_0,0,none⟩) 0 0,[]) ?_
  ⟨by omega,by dsimp only;omega,by dsimp only;omega,by dsimp only;omega,by dsimp only;omega,hW,_,hI0⟩ ?_
 ·exact Ho
 clear hI0 hW hM5_0
 rintro ⟨i,fr,v,R⟩ g s3 ⟨hn3,hi1,hin,hf0,hfn,hres,H3,hI⟩
 dsimp only at hn3 hi1 hin hf0 hfn hres hI ⊢
 have hM3:=hI.md
 have hsl:=hI.sl
 have hl3:=hI.kp _ _ hl2
 have hc3:=hI.kp _ _ hc2
 rcases dc (i≤(n:Int)) with ⟨hlt,hdl⟩ | ⟨hlt,hdl⟩
 ·rw [show n+1-i.toNat=(n+1-(i+1).toNat)+1 by omega] at hres
  simp only [spD] at hres
  refine WC.seq (WC.seq (Rg (Mv (z:=Mv (z:=Co (Ln (z:=Co (Le (z:=Nl (Ct (z:=WC.skip (WC.seq (WC.block (WC.seq ?_))))))))))))))
  refine WC.mono (Q:=fun e g' ds' s'=>e = .normal∧ds'=[]∧holds g' [(0,.slice A n kk),(6,.slice (some ⟨l,0,none⟩) n n),(8,.slice (some ⟨c,0,none⟩) n n),(9,v),(10,.int .i64 fr),(11,.int .i64 i),(55,.bool (decide (cutD L S n i fr)))]∧s'=s3) ?_ ?_
  ·rcases dc (i=(n:Int)) with ⟨he,hde⟩ | ⟨he,hde⟩
   ·refine WC.dr [0,1,2,3,4,5,6,7,8,9,10,11,12,13,14,15,16,17,18,19,20,21,22,23,24,25] (z:=Mw (z:=Mw (z:=Cd (Ln (z:=Cd (Ei (z:=Mw (z:=Hn (z:=Hn (z:=Hn (z:=Hn (z:=Hn (z:=Hn (z:=Hn (z:=Hn (z:=Hn (z:=Cd (Pt (z:=Mw (z:=Hn (z:=Hn (z:=Hn (z:=Hn (z:=Hn (z:=Hn (z:=Hn (z:=Hn (z:=Hn (z:=Cd (Pt (z:=Nz ?_)))))))))))))))))))))))))))))))
    exact ⟨rfl,rfl,⟨rfl,rfl,rfl,rfl,rfl,rfl,congrArg (fun b=>some (Value.bool b)) (decide_eq_true (p:=cutD L S n i fr) (.inl he)).symm,trivial⟩,rfl⟩
   by_cases hL:rd L i=rd L fr
   ·have hdL:decide (rd L i≠rd L fr)=false:=decide_eq_false (fun h=>h hL)
    refine WC.dr [0,1,2,3,4,5,6,7,8,9,10,11,12,13,14,15,16,17,18,19,20,21,22,23,24,25] (z:=Mw (z:=Mw (z:=Cd (Ln (z:=Cd (Ei (z:=Mw (z:=Hy (z:=Mq (z:=Hy (z:=Mq (z:=Hy (z:=Ix (z:=Hy (z:=Ld (z:=Hy (z:=Mq (z:=Hy (z:=Mq (z:=Hy (z:=Ix (z:=Hy (z:=Ld (z:=Hy (z:=Ni (z:=Cd (Pf (z:=Mw (z:=Hy (z:=Mq (z:=Hy (z:=Mq (z:=Hy (z:=Ix (z:=Hy (z:=Ld (z:=Hy (z:=Mq (z:=Hy (z:=Mq (z:=Hy (z:=Ix (z:=Hy (z:=Ld (z:=Hy (z:=Ni (z:=Cd (Pf (z:=Nz ?_)))))))))))))))))))))))))))))))))))))))))))))))))
    exact ⟨rfl,rfl,⟨rfl,rfl,rfl,rfl,rfl,rfl,congrArg (fun b=>some (Value.bool b)) (decide_eq_decide.mpr ⟨fun x=>.inr (.inr x),fun x=>x.elim (fun y=>absurd y he) (fun y=>y.elim (fun z=>absurd hL z) id)⟩),trivial⟩,rfl⟩
   ·have hdL:decide (rd L i≠rd L fr)=true:=decide_eq_true hL
    refine WC.dr [0,1,2,3,4,5,6,7,8,9,10,11,12,13,14,15,16,17,18,19,20,21,22,23,24,25] (z:=Mw (z:=Mw (z:=Cd (Ln (z:=Cd (Ei (z:=Mw (z:=Hy (z:=Mq (z:=Hy (z:=Mq (z:=Hy (z:=Ix (z:=Hy (z:=Ld (z:=Hy (z:=Mq (z:=Hy (z:=Mq (z:=Hy (z:=Ix (z:=Hy (z:=Ld (z:=Hy (z:=Ni (z:=Cd (Pf (z:=Mw (z:=Hn (z:=Hn (z:=Hn (z:=Hn (z:=Hn (z:=Hn (z:=Hn (z:=Hn (z:=Hn (z:=Cd (Pt (z:=Nz ?_))))))))))))))))))))))))))))))))))))))))
    exact ⟨rfl,rfl,⟨rfl,rfl,rfl,rfl,rfl,rfl,congrArg (fun b=>some (Value.bool b)) (decide_eq_true (p:=cutD L S n i fr) (.inr (.inl hL))).symm,trivial⟩,rfl⟩
  rintro e g2 ds2 s4 ⟨rfl,rfl,hg2,e4⟩
  subst e4
  rw [←over_same hg2]
  refine thn_n ?_
  rcases dc (cutD L S n i fr) with ⟨hcut,hdc⟩ | ⟨hcut,hdc⟩
  ·rw [if_pos hcut] at hres
   have hln:=hI.ln
   refine Ct (z:=WC.seq (WC.dr [0,1,2,3,4,5,6,7,8,9,10,11,12,13,14] (z:=?_)))
   refine WD.cons (SV.move ?_) (by decide)
   refine Mw (z:=Mw (z:=Mw (z:=Mw (z:=Cd (Ix (z:=Cd (Ld (z:=Mw (z:=Mw (z:=Cd (Ix (z:=Cd (Ld (z:=?_))))))))))))))
   refine WD.cons (SV.build rfl ?_) (by decide)
   refine Cd (Bs (z:=fun a11_12 s11_12 hf11_12 hne11_12 hn11_12 hM11_12=>Cd ?_))
   have hMb:Models ro s11_12 (H3.up a11_12 (.row 4 (enc4 ⟨fr,i,rd L fr,rd S fr⟩))):=hM11_12
   clear hM11_12
   have hv12:SlO (H3.up a11_12 (.row 4 (enc4 ⟨fr,i,rd L fr,rd S fr⟩))) v 4 R.length (R.flatMap enc4):=hsl.up (fun h=>by obtain ⟨o,ho⟩:=hsl.base_some h;exact hne11_12 _ _ ho rfl)
   refine SV.appendM (t:=40) (u:=40) (e:=48) (e':=48) (sz:=4) (sz':=4) (n:=R.length) (m:=1) (vs:=R.flatMap enc4) (xs:=enc4 ⟨fr,i,rd L fr,rd S fr⟩) rfl hMb rfl rfl hv12 (src4 Hp.up_same) rfl (by omega) (fun v8 s8 H8 hn8 hM8 hv8 hk8 hnew8 _=>?_)
   refine WD.cons (SV.assign ?_) (by decide)
   refine Nz (Rg (Mv (z:=Av (z:=Nl (Rg (Mv (z:=Co (Ad (z:=Av (z:=Nl ?_))))))))))
   exact ⟨rfl,(i+1,i,v8,R++[⟨fr,i,rd L fr,rd S fr⟩]),Ho,⟨by omega,by dsimp only;omega,by dsimp only;omega,by dsimp only;omega,by dsimp only;omega,hres,_,by dsimp only;rw [show i+1-1=i-1+1 by omega];exact hI.push hne11_12 hM8 hv8 hk8 hnew8⟩,by dsimp only;omega⟩
  ·rw [if_neg hcut] at hres
   have hne:¬ i=n:=fun h=>hcut (.inl h)
   refine Cf (z:=WC.skip (Rg (Mv (z:=Co (Ad (z:=Av (z:=Nl ?_)))))))
   exact ⟨rfl,(i+1,fr,v,R),Ho,⟨by omega,by dsimp only;omega,by dsimp only;omega,hf0,by dsimp only;omega,hres,H3,{ hI with md:=hM3,ln:=by dsimp only;have:=hI.ln;omega }⟩,by dsimp only;omega⟩
 rw [show n+1-i.toNat=0 by omega] at hres
 have hres2:R=W:=hres
 subst hres2
 refine WC.seq (WC.seq (Rg (Mv (z:=Mv (z:=Co (Ln (z:=Co (Le (z:=Nl (Cf (z:=WC.exit (WC.seq (Rg ?_)))))))))))))
 refine WO.cons (SV.move ?_) (by decide)
 refine WO.cons (SV.assign ?_) (by decide)
 refine Av (z:=Nl (WC.ret ?_))
 refine fin_two (e:=.ret) (v:=v) (w:=.int .i64 0) rfl trivial ?_ rfl (by omega) hM3 ⟨v,rfl,fun ν o e=>⟨hI.kp _ _ (hkp2 _ _ (hkp1 _ _ e).1).1,hI.no _ _ (hkp2 _ _ (hkp1 _ _ e).1).1⟩,hsl⟩
 rfl
theorem splitD_no {s:St} {H:Hp} {A:Option Addr} {kk n:Nat} {b:Int} (hX:OwnX X) (hM:Models ro s H) (h:levelsBad n b≠0) :
 Sp X Try.prog ro 28 [.slice A n kk,.int .i64 b] s fun v H'=>v = .tuple #[.slice none 0 0,.int .i64 (levelsBad n b)]∧H'=H:=by
 refine Bo hX Try.func28 Try.ntmps28 (z:=?_)
 refine WC.seq (Rg (Av (z:=Av (z:=Nl (WC.seq (Rg (Mv (z:=Mv (z:=Co ?_)))))))))
 refine SV.callM rfl rfl (levelsD_no hX hM h) ?_
 rintro v s1 H1 hn1 hM1 ⟨rfl,eH⟩
 rw [eH] at hM1
 clear eH
 have hd:decide (levelsBad n b≠0)=true:=decide_eq_true h
 refine Mv (z:=Co (Et (z:=Co (Et (z:=Av (z:=Av (z:=Nl (WC.seq (WC.seq (Rg (Mv (z:=Co (Ni (z:=Nl (Ct (z:=WC.seq (Rg (Mv (z:=Av (z:=Av (z:=Nl (WC.ret ?_))))))))))))))))))))))
 exact fin_two (e:=.ret) (v:=.slice none 0 0) (w:=.int .i64 _) rfl trivial rfl rfl (by omega) hM1 ⟨rfl,rfl⟩
theorem eq48 {s:St} (r:RunE):eqV Try.prog ro s 100 48 (.agg (enc4 r).toArray) (.agg (enc4 r).toArray)=some true:=by
 have hs:Try.prog.stoodInHeld 48=false:=by kernel_rfl
 have ha:isAg Try.prog 3=some false:=(inferInstance:TCell Try.prog 3).ag
 have h3:∀ k:Int,eqV Try.prog ro s 99 3 (.int .i64 k) (.int .i64 k)=some true:=fun k=>by
  simp [eqV,Try.underlying3,eqI_self]
 unfold eqV
 simp [Try.underlying48,hs,eqFs,partOf,ha,nth,enc4,h3]
theorem sameRuns_sp {s:St} {H:Hp} {v w:Value} {R:List RunE} (hX:OwnX X) (hM:Models ro s H) (hv:SlO H v 4 R.length (R.flatMap enc4)) (hw:SlO H w 4 R.length (R.flatMap enc4)) (hn:R.length≤100000) :
 Sp X Try.prog ro 30 [v,w] s fun u H'=>u = .bool true∧H'=H:=by
 have hne:decide ((R.length:Int)≠(R.length:Int))=false:=by simp
 refine Bo hX Try.func30 Try.ntmps30 (z:=?_)
 refine WC.seq (Rg (Av (z:=Nl (WC.seq (WC.seq (Rg ?_))))))
 refine WO.cons (SV.move ?_) (by decide)
 refine Co (Lo (z:=?_))
 refine WO.cons (SV.move ?_) (by decide)
 refine Co (Lo (z:=Co (Ni (z:=Nl (Cf (z:=WC.skip (WC.seq (WC.seq (Rg ?_)))))))))
 refine WO.cons (SV.move ?_) (by decide)
 refine Co (Lo (z:=Mv (z:=Nl (WC.block ?_))))
 refine WC.loop (D:=Nat) (fun x=>[(0,v),(1,w),(12,.int .i64 R.length),(13,.int .i64 x)])
  (fun x s1=>s.next≤s1.next∧Models ro s1 H∧x≤R.length) (fun x=>R.length-x) 0 ?_ ⟨by omega,hM,by omega⟩ ?_
 ·exact Ho
 rintro k g s1 ⟨hn1,hM1,hk⟩
 by_cases hlt:k<R.length
 ·have hdl:decide ((k:Int)<(R.length:Int))=true:=decide_eq_true (by omega)
  obtain ⟨ν,c,ws,e1,hν,_,_,_,hat⟩:=hv.at (L:=R) (enc:=enc4) enc4_len rfl (by omega)
  obtain ⟨ν2,c2,ws2,e2,hν2,_,_,_,hat2⟩:=hw.at (L:=R) (enc:=enc4) enc4_len rfl (by omega)
  subst e1
  subst e2
  have hwa:=hat _ hlt
  have hwb:=hat2 _ hlt
  generalize R[k]=r at hwa hwb
  have hq:=eq48 (ro:=ro) (s:=s1) r
  refine WC.seq (Rg (Co (Lt (z:=Nl (WC.seq (Ct (z:=WC.skip (WC.seq (WC.block (WC.seq (Rg (Mv (z:=Av (z:=Nl (WC.seq (WC.dr [0,1,2,3,4,5,6,7,8] (z:=Mw (z:=Mw (z:=Cd (Ix (z:=Cd ?_)))))))))))))))))))))
  refine SV.loadMA (l:=enc4 r) (by assumption) rfl hν rfl (fun t u hu=>by have:=hwa t u hu;rw [Nat.zero_add,Int.toNat_natCast];exact this) ?_
  refine Mw (z:=Mw (z:=Cd (Ix (z:=Cd ?_))))
  refine SV.loadMA (l:=enc4 r) (by assumption) rfl hν2 rfl (fun t u hu=>by have:=hwb t u hu;rw [Nat.zero_add,Int.toNat_natCast];exact this) ?_
  have hgt:Try.prog.eqGuardType Try.prog.depth 48=false:=by kernel_rfl
  refine WD.cons (SV.neqV (a:=.agg (enc4 r).toArray) (b:=.agg (enc4 r).toArray) (r:=true) rfl rfl (by simp [eqShape,guardOk,hgt]) hq ?_) (by decide)
  refine Nz (Cf (z:=WC.skip (Rg (Co (Ad (z:=Mv (z:=Nl ?_)))))))
  exact ⟨rfl,k+1,Ho,⟨by omega,hM1,by omega⟩,by omega⟩
 ·have hdl:decide ((k:Int)<(R.length:Int))=false:=decide_eq_false (by omega)
  refine WC.seq (Rg (Co (Lt (z:=Nl (WC.seq (Cf (z:=WC.exit (WC.seq (Rg (Av (z:=Nl (WC.ret ?_))))))))))))
  exact fin_one (e:=.ret) (v:=.bool true) rfl trivial rfl (by omega) hM1 ⟨rfl,rfl⟩
end Go.Proofs.Ythkklpegjcnjoaa
