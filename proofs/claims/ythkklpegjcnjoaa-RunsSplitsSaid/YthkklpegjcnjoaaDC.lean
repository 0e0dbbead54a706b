/- A part of the proof: no condition but those that each theorem states. -/
import Derived.Test.YthkklpegjcnjoaaDB
import Derived.Test.YthkklpegjcnjoaaLgT
set_option linter.unusedVariables false
set_option linter.unusedSimpArgs false
namespace Go.Proofs.Ythkklpegjcnjoaa
open Go.Ab
def rdb (U:List Bool) (k:Int):Bool:=U.getD k.toNat false
def fqD (O:List Int) (p:Int):Nat→Int→Int→Int
 | 0,_,c=>c
 | r+1,q,c=>fqD O p r (q+1) (if rd O q=p then q else c)
def goesD (F L O:List Int) (lv j:Int):Prop:=j+1<O.length∧rd L (rd O (j+1))=lv∧rd F (rd O j)≠10
instance (F L O:List Int) (lv j:Int):Decidable (goesD F L O lv j):=inferInstanceAs (Decidable (_∧_))
def hopD (F O:List Int) (j:Int):Int:=fqD O (mOf F (rd O j)) (O.length-(j+1).toNat) (j+1) (-1)
def behindD (F L:List Int) (b:Int) (O:List Int) (j:Int):Int:=if isOpener (rd F (rd O j)) then b else if j+1<O.length∧rd F (rd O j)≠10 then rd L (rd O (j+1)) else b
def nxD (F L O:List Int) (lv j:Int):Int:=if goesD F L O lv j then j+1 else if isOpener (rd F (rd O j)) then hopD F O j else -1
def enD (F L:List Int) (b:Int) (O:List Int) (lv j en:Int):Int:=if goesD F L O lv j then en else higherD lv (behindD F L b O j)
def chainD (F L:List Int) (b:Int) (O:List Int) (lv:Int):Nat→Int→List Bool→List Int→Int→List Bool×List Int×Int
 | 0,_,U,A,en=>(U,A,en)
 | q+1,j,U,A,en=>if j<0 then (U,A,en) else chainD F L b O lv q (nxD F L O lv j) (U.set j.toNat true) (A++[rd O j]) (enD F L b O lv j en)
def inD (F L O:List Int) (k:Int):Prop:=0<k∧rd L (rd O k)=rd L (rd O (k-1))∧rd F (rd O (k-1))≠10
instance (F L O:List Int) (k:Int):Decidable (inD F L O k):=inferInstanceAs (Decidable (_∧_))
def aheadD (F L:List Int) (b:Int) (O:List Int) (k:Int):Int:=if 0<k∧rd F (rd O (k-1))≠10 then rd L (rd O (k-1)) else b
def seqOf (F L:List Int) (b:Int) (O:List Int) (k:Int) (U:List Bool):SE:=
 ⟨(chainD F L b O (rd L (rd O k)) (O.length+1) k U [] 0).2.1,rd L (rd O k),higherD (rd L (rd O k)) (aheadD F L b O k),(chainD F L b O (rd L (rd O k)) (O.length+1) k U [] 0).2.2⟩
def seqsD (F L:List Int) (b:Int) (O:List Int):Nat→Int→List Bool→List SE→List SE
 | 0,_,_,R=>R
 | r+1,k,U,R=>
  if rdb U k=true∨inD F L O k then seqsD F L b O r (k+1) U R
  else seqsD F L b O r (k+1) (chainD F L b O (rd L (rd O k)) (O.length+1) k U [] 0).1 (R++[seqOf F L b O k U])
def sequencesD (F L:List Int) (b:Int):List SE:=
 let O:=orderM F F.length 0 []
 seqsD F L b O O.length 0 (List.replicate O.length false) []
theorem fqD_rg {O:List Int} {p:Int}:∀ (r:Nat) (q c:Int),fqD O p r q c=c∨(q≤fqD O p r q c∧fqD O p r q c<q+r)
 | 0,_,_=>.inl rfl
 | r+1,q,c=>by
  simp only [fqD]
  rcases fqD_rg (O:=O) (p:=p) r (q+1) (if rd O q=p then q else c) with h | h
  ·rw [h]
   split
   ·right;push_cast;omega
   ·exact .inl rfl
  ·right;push_cast;omega
theorem nxD_rg {F L O:List Int} {lv j:Int} (h0:0≤j) (h1:j<O.length):nxD F L O lv j = -1∨(j+1≤nxD F L O lv j∧nxD F L O lv j<O.length):=by
 unfold nxD
 split
 ·rename_i h;right;exact ⟨Int.le_refl _,h.1⟩
 ·split
  ·rcases fqD_rg (O:=O) (p:=mOf F (rd O j)) (O.length-(j+1).toNat) (j+1) (-1) with h | h
   ·exact .inl h
   ·right;unfold hopD;omega
  ·exact .inl rfl
theorem chainD_length {F L:List Int} {b:Int} {O:List Int} {lv:Int}:∀ (q:Nat) (j:Int) (U:List Bool) (A:List Int) (en:Int),(chainD F L b O lv q j U A en).1.length=U.length
 | 0,_,_,_,_=>rfl
 | q+1,j,U,A,en=>by
  simp only [chainD]
  split
  ·rfl
  ·exact (chainD_length q _ _ _ _).trans List.length_set
theorem rep_bools (n:Nat):repeatL [.bool false] n=(List.replicate n false).map Value.bool:=by
 induction n with
 | zero=>rfl
 | succ n ih=>simp only [repeatL,ih,List.replicate_succ,List.map_cons,List.cons_append,List.nil_append]
theorem bools_set {U:List Bool} {i:Int} {x:Bool}:(U.map Value.bool).set (0+i.toNat*1) (.bool x)=(U.set i.toNat x).map Value.bool:=by
 rw [Nat.zero_add,Nat.mul_one,List.map_set]
theorem bools_get {U:List Bool} {i:Int} (h0:0≤i) (h1:i<U.length):(U.map Value.bool)[0+i.toNat*1]?=some (.bool (rdb U i)):=by
 rw [Nat.zero_add,Nat.mul_one,List.getElem?_map,List.getElem?_eq_getElem (by omega)]
 unfold rdb
 rw [List.getD_eq_getElem?_getD,List.getElem?_eq_getElem (by omega)];rfl
def encS (p:Value×SE):List Value:=[p.1,.int .i64 p.2.lv,.int .i64 p.2.st,.int .i64 p.2.en]
theorem encS_len (p:Value×SE):(encS p).length=4:=rfl
structure SeqD (HK H1:Hp) (au:Nat) (U:List Bool) (vo:Value) (R:List (Value×SE)):Prop where
 kp:∀ ν o,HK ν=some o→H1 ν=some o∧ν≠au∧baseV vo≠some ν
 u:H1 au=some (.row 1 (U.map .bool))
 o:SlO H1 vo 4 R.length (R.flatMap encS)
 ne:baseV vo≠some au
 r:∀ p∈R,SlE HK p.1 (p.2.A.map (.int .i64))
theorem SeqD.grow {HK H1 H2:Hp} {au:Nat} {U:List Bool} {vo:Value} {R:List (Value×SE)} (h:SeqD HK H1 au U vo R) (hk:∀ ν o,H1 ν=some o→H2 ν=some o):SeqD HK H2 au U vo R:=
 ⟨fun ν o e=>⟨hk _ _ (h.kp ν o e).1,(h.kp ν o e).2⟩,hk _ _ h.u,SlO.keep h.o (fun ν o _ e=>hk _ _ e),h.ne,h.r⟩
structure ChD (HK H1:Hp) (au:Nat) (U:List Bool) (vo:Value) (R:List (Value×SE)) (sb:Nat) (vA:Value) (A:List Int) (lv st en:Int):Prop where
 d:SeqD HK H1 au U vo R
 s:H1 sb=some (.row 0 [vA,.int .i64 lv,.int .i64 st,.int .i64 en])
 a:SlE H1 vA (A.map (.int .i64))
 k2:∀ ν o,HK ν=some o→ν≠sb∧baseV vA≠some ν
 n1:sb≠au∧baseV vo≠some sb
 n2:baseV vA≠some sb∧baseV vA≠some au
 n3:∀ μ,baseV vA=some μ→baseV vo≠some μ
theorem ChD.used {HK H1:Hp} {au:Nat} {U:List Bool} {vo:Value} {R:List (Value×SE)} {sb:Nat} {vA:Value} {A:List Int} {lv st en:Int} {s:St} {ro:Nat} {j:Int} {x:Bool} (h:ChD HK H1 au U vo R sb vA A lv st en)
 (hM:Models ro s (H1.up au (.row 1 ((U.map Value.bool).set (0+j.toNat*1) (.bool x))))):∃ H2,Models ro s H2∧ChD HK H2 au (U.set j.toNat x) vo R sb vA A lv st en:=by
 rw [bools_set] at hM
 exact ⟨_,hM,⟨fun ν o e=>⟨Hp.up_ne (h.d.kp ν o e).2.1 (h.d.kp ν o e).1,(h.d.kp ν o e).2⟩,Hp.up_same,h.d.o.up h.d.ne,h.d.ne,h.d.r⟩,Hp.up_ne h.n1.1 h.s,h.a.keep (fun μ o e1 e2=>Hp.up_ne (fun e=>h.n2.2 (by rw [e1,e])) e2),h.k2,h.n1,h.n2,h.n3⟩
theorem ChD.cell {HK H1:Hp} {au:Nat} {U:List Bool} {vo:Value} {R:List (Value×SE)} {sb:Nat} {vA:Value} {A:List Int} {lv st en st' en':Int} (h:ChD HK H1 au U vo R sb vA A lv st en) :
 ChD HK (H1.up sb (.row 0 [vA,.int .i64 lv,.int .i64 st',.int .i64 en'])) au U vo R sb vA A lv st' en':=
 ⟨⟨fun ν o e=>⟨Hp.up_ne (h.k2 ν o e).1 (h.d.kp ν o e).1,(h.d.kp ν o e).2⟩,Hp.up_ne h.n1.1.symm h.d.u,h.d.o.up h.n1.2,h.d.ne,h.d.r⟩,Hp.up_same,h.a.keep (fun μ o e1 e2=>Hp.up_ne (fun e=>h.n2.1 (by rw [e1,e])) e2),h.k2,h.n1,h.n2,h.n3⟩
theorem ChD.push {HK H1 H2:Hp} {au:Nat} {U:List Bool} {vo:Value} {R:List (Value×SE)} {sb a b:Nat} {vA v':Value} {A:List Int} {lv st en x:Int} {o:Go.Ab.Obj} (h:ChD HK H1 au U vo R sb vA A lv st en) (hb:∀ ν o,H1 ν=some o→ν≠b)
 (hk:KeptBut (H1.up b o) H2 vA) (hnew:NewOr (H1.up b o) vA v') (hva:v' = .slice (some ⟨a,0,none⟩) (A.length+1) (A.length+1)) (ha:H2 a=some (.row 1 (A.map (.int .i64)++[.int .i64 x]))) :
 ChD HK (H2.up sb (.row 0 [v',.int .i64 lv,.int .i64 st,.int .i64 en])) au U vo R sb v' (A++[x]) lv st en:=by
 subst hva
 have keep:∀ ν o',H1 ν=some o'→baseV vA≠some ν→H2 ν=some o'∧ν≠a:=fun ν o' e1 e2=>by
  refine ⟨hk ν o' (Hp.up_ne (hb ν o' e1) e1) e2,fun e3=>?_⟩
  subst e3
  rcases hnew ν rfl with h1 | h1
  ·exact e2 h1
  ·rw [Hp.up_ne (hb ν o' e1) e1] at h1;cases h1
 have ksb:=keep _ _ h.s h.n2.1
 have kau:=keep _ _ h.d.u h.n2.2
 have kK:∀ ν o',HK ν=some o'→H2 ν=some o'∧ν≠a:=fun ν o' e=>keep _ _ (h.d.kp ν o' e).1 (h.k2 ν o' e).2
 have ko:∀ μ o',baseV vo=some μ→H1 μ=some o'→H2 μ=some o'∧μ≠a:=fun μ o' e1 e2=>keep _ _ e2 (fun e3=>h.n3 μ e3 e1)
 have kob:baseV vo≠some a:=fun e=>by
  obtain ⟨o',ho⟩:=h.d.o.base_some e
  exact (ko _ _ e ho).2 rfl
 refine ⟨⟨fun ν o' e=>⟨Hp.up_ne (h.k2 ν o' e).1 (kK ν o' e).1,(h.d.kp ν o' e).2⟩,Hp.up_ne h.n1.1.symm kau.1,(SlO.keep h.d.o (fun μ o' e1 e2=>(ko μ o' e1 e2).1)).up h.n1.2,h.d.ne,h.d.r⟩,Hp.up_same,.inr ⟨by simp,a,by simp,?_⟩,fun ν o' e=>⟨(h.k2 ν o' e).1,fun e2=>(kK ν o' e).2 (Option.some.inj e2).symm⟩,h.n1,⟨fun e=>ksb.2 (Option.some.inj e).symm,fun e=>kau.2 (Option.some.inj e).symm⟩,fun μ e=>by cases e;exact kob⟩
 rw [List.map_append]
 exact Hp.up_ne (fun e=>ksb.2 e.symm) ha
theorem ChD.done {HK H1 H2:Hp} {au:Nat} {U:List Bool} {vo vo':Value} {R:List (Value×SE)} {sb b:Nat} {vA:Value} {A:List Int} {lv st en:Int} {o:Go.Ab.Obj} (h:ChD HK H1 au U vo R sb vA A lv st en) (hb:∀ ν o,H1 ν=some o→ν≠b)
 (hk:KeptBut (H1.up b o) H2 vo) (hnew:NewOr (H1.up b o) vo vo') (hv:SlO H2 vo' 4 (R.length+1) (R.flatMap encS++encS (vA,⟨A,lv,st,en⟩))) :
 ∃ HK',(∀ ν o',HK ν=some o'→HK' ν=some o')∧SeqD HK' H2 au U vo' (R++[(vA,⟨A,lv,st,en⟩)]):=by
 have keep:∀ ν o',H1 ν=some o'→baseV vo≠some ν→H2 ν=some o'∧baseV vo'≠some ν:=fun ν o' e1 e2=>by
  refine ⟨hk ν o' (Hp.up_ne (hb ν o' e1) e1) e2,fun e3=>?_⟩
  rcases hnew ν e3 with h1 | h1
  ·exact e2 h1
  ·rw [Hp.up_ne (hb ν o' e1) e1] at h1;cases h1
 have kau:=keep _ _ h.d.u h.d.ne
 have hvv:SlO H2 vo' 4 (R++[(vA,(⟨A,lv,st,en⟩:SE))]).length ((R++[(vA,(⟨A,lv,st,en⟩:SE))]).flatMap encS):=by simpa [List.flatMap_append] using hv
 rcases h.a with ⟨rfl,ha⟩ | ⟨ha0,a,hva,ha⟩
 ·refine ⟨HK,fun _ _ e=>e,fun ν o' e=>⟨(keep _ _ (h.d.kp ν o' e).1 (h.d.kp ν o' e).2.2).1,(h.d.kp ν o' e).2.1,(keep _ _ (h.d.kp ν o' e).1 (h.d.kp ν o' e).2.2).2⟩,kau.1,hvv,kau.2,fun p hp=>?_⟩
  rcases List.mem_append.mp hp with hp | hp
  ·exact h.d.r p hp
  ·rw [List.mem_singleton.mp hp];exact .inl ⟨rfl,ha⟩
 ·have hb':baseV vA=some a:=by rw [hva];rfl
  have hfr:∀ ν o',HK ν=some o'→ν≠a:=fun ν o' e e2=>(h.k2 ν o' e).2 (by rw [hb',e2])
  have ka:=keep _ _ ha (h.n3 a hb')
  refine ⟨HK.up a (.row 1 (A.map (.int .i64))),fun ν o' e=>Hp.up_ne (hfr ν o' e) e,fun ν o' e=>?_,kau.1,hvv,kau.2,fun p hp=>?_⟩
  ·by_cases e2:ν=a
   ·subst e2
    rw [Hp.up_same] at e;cases e
    exact ⟨ka.1,fun e3=>h.n2.2 (by rw [hb',e3]),ka.2⟩
   ·have e4:HK ν=some o':=by
     unfold Hp.up at e
     rwa [if_neg e2] at e
    exact ⟨(keep _ _ (h.d.kp ν o' e4).1 (h.d.kp ν o' e4).2.2).1,(h.d.kp ν o' e4).2.1,(keep _ _ (h.d.kp ν o' e4).1 (h.d.kp ν o' e4).2.2).2⟩
  ·rcases List.mem_append.mp hp with hp | hp
   ·exact (h.d.r p hp).keep (fun μ o' _ e=>Hp.up_ne (hfr _ _ e) e)
   ·rw [List.mem_singleton.mp hp]
    exact .inr ⟨ha0,a,by rw [hva],Hp.up_same⟩
variable {X:CallE} {ro:Nat}
set_option maxRecDepth 10000
set_option maxHeartbeats 16000000 in
theorem seqsD_sp {s:St} {H:Hp} {f l fc lc n:Nat} {F L:List Int} {b:Int} (hX:OwnX X) (hM:Models ro s H) (hf:H f=some (.row 1 (F.map (.int .i64)))) (hlr:H l=some (.row 1 (L.map (.int .i64)))) (hlF:F.length=n) (hlL:L.length=n) (hn:n≤16384) :
 Sp X Try.prog ro 79 [.slice (some ⟨f,0,none⟩) n fc,.slice (some ⟨l,0,none⟩) n lc,.int .i64 b] s fun v H'=>∃ (HK:Hp) (au:Nat) (U:List Bool) (R:List (Value×SE)),(∀ ν o,H ν=some o→HK ν=some o∧∀ p∈R,baseV p.1≠some ν)∧SeqD HK H' au U v R∧R.map Prod.snd=sequencesD F L b∧R.length≤n:=by
 refine Bo hX Try.func79 Try.ntmps79 (z:=?_)
 refine WC.seq (Rg (Av (z:=Nl (WC.seq (Rg (Co (Bs (z:=fun a1_0 s1_0 hf1_0 hne1_0 hn1_0 hM1_0=>Av (z:=Nl (WC.seq (WC.seq (Rg (Mv (z:=Co (Ln (z:=Mv (z:=Nl (WC.block ?_))))))))))))))))))
 have hM1:Models ro s1_0 (H.up a1_0 (.row 1 [])):=hM1_0
 generalize hO:orderM F F.length 0 []=OO
 refine WC.loop (D:=Nat×Nat×List Int) (fun x=>[(0,.slice (some ⟨f,0,none⟩) n fc),(1,.slice (some ⟨l,0,none⟩) n lc),(2,.int .i64 b),(6,.slice none 0 0),(7,.slice (some ⟨x.2.1,0,none⟩) x.2.2.length x.2.2.length),(22,.slice (some ⟨f,0,none⟩) n fc),(23,.int .i64 n),(24,.int .i64 x.1)])
  (fun x s1=>s.next≤s1.next∧x.1≤n∧x.2.2.length≤x.1∧orderM F (n-x.1) x.1 x.2.2=OO∧(∀ y∈x.2.2,0≤y∧y<n)∧∃ H1,Models ro s1 H1∧(∀ ν o,H ν=some o→H1 ν=some o∧ν≠x.2.1)∧H1 x.2.1=some (.row 1 (x.2.2.map (.int .i64)))) (fun x=>n-x.1) (0,a1_0,[]) ?_
  ⟨by omega,Nat.zero_le _,Nat.zero_le _,by rw [←hO,hlF];rfl,fun y hy=>(by cases hy),_,hM1,fun ν o e=>⟨Hp.up_ne (hne1_0 _ _ e) e,hne1_0 _ _ e⟩,Hp.up_same⟩ ?_
 ·exact Ho
 clear hM1 hM1_0
 rintro ⟨i,ak,O⟩ g s1 ⟨hn1,hi,hOl,hres,hOr,H1,hM1,hkp,ha⟩
 dsimp only at hn1 hi hOl hres hOr hkp ha ⊢
 have hf1:=(hkp _ _ hf).1
 have hl1:=(hkp _ _ hlr).1
 by_cases hlt:i<n
 ·have hdl:decide ((i:Int)<(n:Int))=true:=decide_eq_true (by omega)
  rw [show n-i=(n-(i+1))+1 by omega] at hres
  simp only [orderM] at hres
  refine WC.seq (Rg (Co (Lt (z:=Nl (WC.seq (Ct (z:=WC.skip (WC.seq (WC.block (WC.seq (Rg (Mv (z:=Co (Ix (z:=Co (Ld (z:=Av (z:=Av (z:=Nl (WC.seq (Rg (Mv (z:=Co ?_)))))))))))))))))))))))
  refine SV.callM rfl rfl (gone_sp hX hM1) ?_
  rintro v s2 H2 hn2 hM2 ⟨rfl,eH⟩
  rw [eH] at hM2
  clear eH
  rcases dc (isRemoved (rd F i)) with ⟨hr,hdr⟩ | ⟨hr,hdr⟩
  ·rw [if_pos hr] at hres
   refine Co (Nn (z:=Nl (Cf (z:=WC.skip (Rg (Co (Ad (z:=Mv (z:=Nl ?_)))))))))
   exact ⟨rfl,(i+1,ak,O),Ho,⟨by omega,by dsimp only;omega,by dsimp only;omega,hres,hOr,H1,hM2,hkp,ha⟩,by dsimp only;omega⟩
  ·rw [if_neg hr] at hres
   refine Co (Nf (z:=Nl (Ct (z:=Rg (Mv (z:=Mv (z:=Co (Bs (z:=fun a6_2 s6_2 hf6_2 hne6_2 hn6_2 hM6_2=>Co ?_)))))))))
   have hMb:Models ro s6_2 (H1.up a6_2 (.row 1 [.int .i64 (i:Int)])):=hM6_2
   clear hM6_2
   refine SV.appendM (t:=23) (u:=23) (e:=3) (e':=3) (sz:=1) (sz':=1) (bytes:=8) (z:=[.int .i64 0]) (n:=O.length) (m:=1) (vs:=O.map (.int .i64)) (xs:=[.int .i64 (i:Int)]) rfl hMb rfl rfl (SlO.ofRow (Hp.up_ne (hne6_2 _ _ ha) ha) (by rw [List.length_map,Nat.mul_one]))
    (Src.row Hp.up_same rfl rfl (fun j v h=>by rw [Nat.zero_add];exact h)) rfl (by omega) (fun v5 s5 H5 hn5 hM5 hv5 hk5 hnew5 hex5=>?_)
   obtain ⟨a5,rfl,ha5,hkp5⟩:=app_one ha rfl hne6_2 hk5 hnew5 hex5
   clear hv5 hk5 hnew5 hex5
   refine Av (z:=Nl (Rg (Co (Ad (z:=Mv (z:=Nl ?_))))))
   exact ⟨rfl,(i+1,a5,O++[(i:Int)]),⟨rfl,rfl,rfl,rfl,by rw [List.length_append,List.length_singleton];rfl,rfl,rfl,rfl,trivial⟩,⟨by omega,by dsimp only;omega,by dsimp only;rw [List.length_append,List.length_singleton];omega,hres,fun y hy=>by
    rcases List.mem_append.mp hy with hy | hy
    ·exact hOr y hy
    ·rw [List.mem_singleton.mp hy];omega,H5,hM5,fun ν o e=>hkp5 ν o (hkp ν o e).1 (hkp ν o e).2,ha5⟩,by dsimp only;omega⟩
 have hdl:decide ((i:Int)<(n:Int))=false:=decide_eq_false (by omega)
 rw [show n-i=0 by omega] at hres
 simp only [orderM] at hres
 subst hres
 obtain ⟨m,hm⟩:∃ m,O.length=m:=⟨_,rfl⟩
 rw [hm]
 have hmn:m≤n:=by omega
 refine WC.seq (Rg (Co (Lt (z:=Nl (WC.seq (Cf (z:=WC.exit (WC.seq (Rg (Co (Bs (z:=fun a8_0 s8_0 hf8_0 hne8_0 hn8_0 hM8_0=>Av (z:=Nl (WC.seq (Rg (Mv (z:=Co (Ln (z:=?_)))))))))))))))))))
 refine WO.cons (SV.makeSliceM (by assumption) rfl rfl (by refine ⟨?_,?_,?_,?_,rfl,by decide⟩ <;> omega) (fun a9_2 s9_2 hf9_2 hne9_2 hn9_2 hM9_2=>?_)) (by decide)
 refine Av (z:=Nl ?_)
 rw [rep_bools ((m:Int).toNat),Int.toNat_natCast] at hM9_2
 have hI0:SeqD H1 ((H1.up a8_0 (.row 4 [])).up a9_2 (.row 1 ((List.replicate m false).map Value.bool))) a9_2 (List.replicate m false) (.slice (some ⟨a8_0,0,none⟩) 0 0) []:=by
  have k8:∀ ν o,H1 ν=some o→(H1.up a8_0 (.row 4 [])) ν=some o:=fun ν o e=>Hp.up_ne (hne8_0 _ _ e) e
  exact ⟨fun ν o e=>⟨Hp.up_ne (hne9_2 _ _ (k8 _ _ e)) (k8 _ _ e),hne9_2 _ _ (k8 _ _ e),fun e2=>hne8_0 _ _ e (Option.some.inj e2).symm⟩,Hp.up_same,.inr ⟨a8_0,0,[],rfl,Hp.up_ne (hne9_2 _ _ Hp.up_same) Hp.up_same,rfl,Nat.le_refl _,rfl⟩,fun e=>hne9_2 _ _ Hp.up_same (Option.some.inj e),fun p hp=>by cases hp⟩
 have hM0:Models ro s9_2 ((H1.up a8_0 (.row 4 [])).up a9_2 (.row 1 ((List.replicate m false).map Value.bool))):=hM9_2
 clear hM9_2 hM8_0
 generalize (H1.up a8_0 (.row 4 [])).up a9_2 (.row 1 ((List.replicate m false).map Value.bool))=H2 at hI0 hM0
 clear hne8_0 hne9_2 hf8_0 hf9_2 hM1
 generalize a9_2=au at hI0 ⊢
 generalize (Value.slice (some ⟨a8_0,0,none⟩) 0 0)=v0 at hI0 ⊢
 generalize hHB:H1=HB at *
 clear hHB
 refine WC.seq (WC.seq (Rg (Mv (z:=Co (Ln (z:=Mv (z:=Nl (WC.block ?_))))))))
 have hSD:sequencesD F L b=seqsD F L b O m 0 (List.replicate m false) []:=by unfold sequencesD;dsimp only;rw [hO,hm]
 generalize sequencesD F L b=RES at hSD ⊢
 refine WC.loop (D:=Int×List Bool×Value×List (Value×SE)) (fun x=>[(0,.slice (some ⟨f,0,none⟩) n fc),(1,.slice (some ⟨l,0,none⟩) n lc),(2,.int .i64 b),(6,.slice none 0 0),(7,.slice (some ⟨ak,0,none⟩) m m),(10,x.2.2.1),(11,.slice (some ⟨au,0,none⟩) m m),(42,.int .i64 m),(43,.int .i64 x.1)])
  (fun x s1=>s.next≤s1.next∧0≤x.1∧x.1≤m∧x.2.1.length=m∧x.2.2.2.length≤x.1∧seqsD F L b O (m-x.1.toNat) x.1 x.2.1 (x.2.2.2.map Prod.snd)=RES∧∃ HK H1,Models ro s1 H1∧(∀ ν o,HB ν=some o→HK ν=some o∧∀ p∈x.2.2.2,baseV p.1≠some ν)∧SeqD HK H1 au x.2.1 x.2.2.1 x.2.2.2) (fun x=>m-x.1.toNat) (0,List.replicate m false,v0,[]) ?_
  ⟨by omega,Int.le_refl _,by dsimp only;omega,by dsimp only;exact List.length_replicate,by dsimp only;simp,hSD.symm,_,_,hM0,fun _ _ h=>⟨h,fun p hp=>(by cases hp)⟩,hI0⟩ ?_
 ·exact Ho
 clear hI0 hM0 hSD hlt hdl hi hOl
 rintro ⟨k,U,vo,R⟩ g s1 ⟨hn1,hk0,hk1,hlU,hlR,hres,HK,H1,hM1,hBK,hI1⟩
 dsimp only at hn1 hk0 hk1 hlU hlR hres hI1 ⊢
 have hfK:=(hBK _ _ hf1).1
 have hlK:=(hBK _ _ hl1).1
 have haK:=(hBK _ _ ha).1
 have hf2:=(hI1.kp _ _ hfK).1
 have hl2:=(hI1.kp _ _ hlK).1
 have ha2:=(hI1.kp _ _ haK).1
 rcases dc (k<(m:Int)) with ⟨hlt,hdl⟩ | ⟨hlt,hdl⟩
 ·rw [show m-k.toNat=(m-(k+1).toNat)+1 by omega] at hres
  simp only [seqsD] at hres
  have hOk:=hOr _ (rd_memA (A:=O) (k:=k) hk0 (by omega))
  have hOp:0<k→0≤rd O (k-1)∧rd O (k-1)<n:=fun h=>hOr _ (rd_memA (A:=O) (k:=k-1) (by omega) (by omega))
  have hu2:=hI1.u
  have hug:=bools_get (U:=U) hk0 (by omega)
  refine WC.seq (Rg (Co (Lt (z:=Nl (WC.seq (Ct (z:=WC.skip (WC.seq (WC.block (WC.seq (Rg (Mv (z:=Av (z:=Nl (WC.seq (WC.seq ?_))))))))))))))))
  refine WC.mono (Q:=fun e g' ds' s'=>e = .normal∧ds'=[]∧holds g' [(0,.slice (some ⟨f,0,none⟩) n fc),(1,.slice (some ⟨l,0,none⟩) n lc),(2,.int .i64 b),(6,.slice none 0 0),(10,vo),(12,.int .i64 k),(7,.slice (some ⟨ak,0,none⟩) m m),(11,.slice (some ⟨au,0,none⟩) m m),(42,.int .i64 m),(43,.int .i64 k),(82,.bool (decide (rdb U k=true∨inD F L O k)))]∧s'=s1) ?_ ?_
  ·by_cases hu:rdb U k=true
   ·skip
    refine WC.dr [0,1,2,3,4,5,6,7,8,9,10,11,12,13,14,15,16,17,18,19,20,21,22,23,24,25,26,27,28,29,30,31,32,33,34,35,36] (z:=Mw (z:=Mw (z:=Cd (Ix (z:=Cd (Ld (z:=Mw (z:=Hn (z:=Hn (z:=Hn (z:=Hu (z:=Hu (z:=Hu (z:=Hu (z:=Hu (z:=Hu (z:=Hu (z:=Hu (z:=Hu (z:=Hu (z:=Hu (z:=Hu (z:=Hu (z:=Hu (z:=Hu (z:=Hu (z:=Hn (z:=Hn (z:=Hu (z:=Hu (z:=Hu (z:=Hu (z:=Hu (z:=Hu (z:=Hu (z:=Hu (z:=Hu (z:=Hn (z:=Cd (Pt (z:=Nz ?_)))))))))))))))))))))))))))))))))))))))))
    exact ⟨rfl,rfl,⟨rfl,rfl,rfl,rfl,rfl,rfl,rfl,rfl,rfl,rfl,congrArg (fun b=>some (Value.bool b)) (decide_eq_true (p:=rdb U k=true∨inD F L O k) (.inl hu)).symm,trivial⟩,rfl⟩
   have huf:rdb U k=false:=by simpa using hu
   rcases dc (0<k) with ⟨hp,hdp⟩ | ⟨hp,hdp⟩
   ·have hOp1:=hOp hp
    rcases dc (rd L (rd O k)=rd L (rd O (k-1))) with ⟨hL,hdL⟩ | ⟨hL,hdL⟩
    ·refine WC.dr [0,1,2,3,4,5,6,7,8,9,10,11,12,13,14,15,16,17,18,19,20,21,22,23,24,25,26,27,28,29,30,31,32,33,34,35,36] (z:=Mw (z:=Mw (z:=Cd (Ix (z:=Cd (Ld (z:=Mw (z:=Hy (z:=Mq (z:=Hy (z:=Gt (z:=Hy (z:=Mq (z:=Hy (z:=Mq (z:=Hy (z:=Mq (z:=Hy (z:=Mq (z:=Hy (z:=Ix (z:=Hy (z:=Ld (z:=Hy (z:=Ix (z:=Hy (z:=Ld (z:=Hy (z:=Mq (z:=Hy (z:=Mq (z:=Hy (z:=Mq (z:=Hy (z:=Sb (z:=Hy (z:=Ix (z:=Hy (z:=Ld (z:=Hy (z:=Ix (z:=Hy (z:=Ld (z:=Hy (z:=Ei (z:=Hy (z:=Pt (z:=Hy (z:=Mq (z:=Hy (z:=Mq (z:=Hy (z:=Mq (z:=Hy (z:=Mq (z:=Hy (z:=Sb (z:=Hy (z:=Ix (z:=Hy (z:=Ld (z:=Hy (z:=Ix (z:=Hy (z:=Ld (z:=Hy (z:=Ni (z:=Hy (z:=Pt (z:=Cd (Pf (z:=Nz ?_))))))))))))))))))))))))))))))))))))))))))))))))))))))))))))))))))))))))
     exact ⟨rfl,rfl,⟨rfl,rfl,rfl,rfl,rfl,rfl,rfl,rfl,rfl,rfl,congrArg (fun b=>some (Value.bool b)) (decide_eq_decide.mpr ⟨fun x=>.inr ⟨hp,hL,x⟩,fun x=>x.elim (fun y=>absurd y hu) (fun y=>y.2.2)⟩),trivial⟩,rfl⟩
    ·refine WC.dr [0,1,2,3,4,5,6,7,8,9,10,11,12,13,14,15,16,17,18,19,20,21,22,23,24,25,26,27,28,29,30,31,32,33,34,35,36] (z:=Mw (z:=Mw (z:=Cd (Ix (z:=Cd (Ld (z:=Mw (z:=Hy (z:=Mq (z:=Hy (z:=Gt (z:=Hy (z:=Mq (z:=Hy (z:=Mq (z:=Hy (z:=Mq (z:=Hy (z:=Mq (z:=Hy (z:=Ix (z:=Hy (z:=Ld (z:=Hy (z:=Ix (z:=Hy (z:=Ld (z:=Hy (z:=Mq (z:=Hy (z:=Mq (z:=Hy (z:=Mq (z:=Hy (z:=Sb (z:=Hy (z:=Ix (z:=Hy (z:=Ld (z:=Hy (z:=Ix (z:=Hy (z:=Ld (z:=Hy (z:=Ei (z:=Hy (z:=Pt (z:=Hy (z:=Mq (z:=Hn (z:=Hn (z:=Hn (z:=Hn (z:=Hn (z:=Hn (z:=Hn (z:=Hn (z:=Hn (z:=Hy (z:=Pf (z:=Cd (Pf (z:=Nz ?_)))))))))))))))))))))))))))))))))))))))))))))))))))))))))))))))
     exact ⟨rfl,rfl,⟨rfl,rfl,rfl,rfl,rfl,rfl,rfl,rfl,rfl,rfl,congrArg (fun b=>some (Value.bool b)) (decide_eq_false (fun x=>x.elim (fun y=>absurd y hu) (fun y=>hL y.2.1))).symm,trivial⟩,rfl⟩
   ·refine WC.dr [0,1,2,3,4,5,6,7,8,9,10,11,12,13,14,15,16,17,18,19,20,21,22,23,24,25,26,27,28,29,30,31,32,33,34,35,36] (z:=Mw (z:=Mw (z:=Cd (Ix (z:=Cd (Ld (z:=Mw (z:=Hy (z:=Mq (z:=Hy (z:=Gt (z:=Hy (z:=Mq (z:=Hn (z:=Hn (z:=Hn (z:=Hn (z:=Hn (z:=Hn (z:=Hn (z:=Hn (z:=Hn (z:=Hn (z:=Hn (z:=Hn (z:=Hn (z:=Hn (z:=Hn (z:=Hn (z:=Hy (z:=Pf (z:=Hy (z:=Mq (z:=Hn (z:=Hn (z:=Hn (z:=Hn (z:=Hn (z:=Hn (z:=Hn (z:=Hn (z:=Hn (z:=Hy (z:=Pf (z:=Cd (Pf (z:=Nz ?_)))))))))))))))))))))))))))))))))))))))))))))))
    exact ⟨rfl,rfl,⟨rfl,rfl,rfl,rfl,rfl,rfl,rfl,rfl,rfl,rfl,congrArg (fun b=>some (Value.bool b)) (decide_eq_false (fun x=>x.elim (fun y=>absurd y hu) (fun y=>hp y.1))).symm,trivial⟩,rfl⟩
  rintro e g2 ds2 s2 ⟨rfl,rfl,hg2,e2⟩
  subst e2
  rw [←over_same hg2]
  refine thn_n ?_
  rcases dc (rdb U k=true∨inD F L O k) with ⟨hskip,hds⟩ | ⟨hskip,hds⟩
  ·rw [if_pos hskip] at hres
   refine Ct (z:=WC.exit (Rg (Co (Ad (z:=Mv (z:=Nl ?_))))))
   exact ⟨rfl,(k+1,U,vo,R),Ho,⟨by omega,by dsimp only;omega,by dsimp only;omega,hlU,by dsimp only;omega,hres,HK,H1,hM1,hBK,hI1⟩,by dsimp only;omega⟩
  rw [if_neg hskip] at hres
  refine Cf (z:=WC.skip (WC.seq (Rg (Mv (z:=Mv (z:=Mv (z:=Co (Ix (z:=Co (Ld (z:=Co (Ix (z:=Co (Ld (z:=?_)))))))))))))))
  refine WO.cons (SV.build rfl ?_) (by decide)
  refine Co (Al (z:=fun a14_8 s14_8 hf14_8 hne14_8 hn14_8 hM14_8=>?_))
  refine WO.cons0 (SV.storeMA (by assumption) rfl rfl rfl rfl (by exact Hp.up_same) (by (simp;done)) (fun s14_9 hn14_9 hM14_9=>?_))
  refine Nl ?_
  rw [Hp.up_up] at hM14_9
  have hC0:ChD HK (H1.up a14_8 (.row 0 [.slice none 0 0,.int .i64 (rd L (rd O k)),.int .i64 0,.int .i64 0])) au U vo R a14_8 (.slice none 0 0) [] (rd L (rd O k)) 0 0:=by
   refine ⟨hI1.grow (fun ν o e=>Hp.up_ne (hne14_8 _ _ e) e),Hp.up_same,.inl ⟨rfl,rfl⟩,fun ν o e=>⟨hne14_8 _ _ (hI1.kp _ _ e).1,fun e2=>(by cases e2)⟩,⟨(hne14_8 _ _ hI1.u).symm,fun e=>?_⟩,⟨fun e=>(by cases e),fun e=>(by cases e)⟩,fun μ e=>(by cases e)⟩
   obtain ⟨o,ho⟩:=hI1.o.base_some e
   exact hne14_8 _ _ ho rfl
  have hM2:Models ro s14_9 (H1.up a14_8 (.row 0 [.slice none 0 0,.int .i64 (rd L (rd O k)),.int .i64 0,.int .i64 0])):=hM14_9
  clear hM14_9 hM14_8
  generalize H1.up a14_8 (.row 0 [.slice none 0 0,.int .i64 (rd L (rd O k)),.int .i64 0,.int .i64 0])=H3 at hC0 hM2
  clear hM1 hI1 hf2 hl2 ha2 hu2 hug hne14_8 hf14_8
  generalize a14_8=sb at hC0 ⊢
  have hf3:=(hC0.d.kp _ _ hfK).1
  have hl3:=(hC0.d.kp _ _ hlK).1
  have ha3:=(hC0.d.kp _ _ haK).1
  refine WC.seq (Rg (Mv (z:=Av (z:=Nl (WC.seq ?_)))))
  refine WC.mono (Q:=fun e g' ds' s'=>e = .normal∧ds'=[]∧holds g' [(0,.slice (some ⟨f,0,none⟩) n fc),(1,.slice (some ⟨l,0,none⟩) n lc),(2,.int .i64 b),(6,.slice none 0 0),(10,vo),(12,.int .i64 k),(13,.pointer (some ⟨sb,0,none⟩)),(14,.int .i64 (aheadD F L b O k)),(7,.slice (some ⟨ak,0,none⟩) m m),(11,.slice (some ⟨au,0,none⟩) m m),(42,.int .i64 m),(43,.int .i64 k)]∧s.next≤s'.next∧Models ro s' H3) ?_ ?_
  ·rcases dc (0<k) with ⟨hp,hdp⟩ | ⟨hp,hdp⟩
   ·have hOp1:=hOp hp
    by_cases h10:rd F (rd O (k-1))=10
    ·have hd10:decide (rd F (rd O (k-1))≠10)=false:=decide_eq_false (fun x=>x h10)
     rw [show aheadD F L b O k=b from if_neg (fun x=>x.2 h10)]
     refine WC.seq (Rg (Mv (z:=Co (Gt (z:=Mv (z:=Gy (z:=Mq (z:=Gy (z:=Mq (z:=Gy (z:=Mq (z:=Gy (z:=Sb (z:=Gy (z:=Ix (z:=Gy (z:=Ld (z:=Gy (z:=Ix (z:=Gy (z:=Ld (z:=Gy (z:=Ni (z:=Co (Pt (z:=Nl (thn_n (Cf (z:=WC.skip ?_)))))))))))))))))))))))))))))
     exact ⟨rfl,rfl,Ho,by omega,hM2⟩
    ·have hd10:decide (rd F (rd O (k-1))≠10)=true:=decide_eq_true h10
     rw [show aheadD F L b O k=rd L (rd O (k-1)) from if_pos ⟨hp,h10⟩]
     refine WC.seq (Rg (Mv (z:=Co (Gt (z:=Mv (z:=Gy (z:=Mq (z:=Gy (z:=Mq (z:=Gy (z:=Mq (z:=Gy (z:=Sb (z:=Gy (z:=Ix (z:=Gy (z:=Ld (z:=Gy (z:=Ix (z:=Gy (z:=Ld (z:=Gy (z:=Ni (z:=Co (Pt (z:=Nl (thn_n (Ct (z:=Rg (Mv (z:=Mv (z:=Mv (z:=Co (Sb (z:=Co (Ix (z:=Co (Ld (z:=Co (Ix (z:=Co (Ld (z:=Av (z:=Nl ?_))))))))))))))))))))))))))))))))))))))))))))
     exact ⟨rfl,rfl,Ho,by omega,hM2⟩
   ·rw [show aheadD F L b O k=b from if_neg (fun x=>hp x.1)]
    refine WC.seq (Rg (Mv (z:=Co (Gt (z:=Mv (z:=Gn (z:=Gn (z:=Gn (z:=Gn (z:=Gn (z:=Gn (z:=Gn (z:=Gn (z:=Gn (z:=Co (Pf (z:=Nl (thn_n (Cf (z:=WC.skip ?_))))))))))))))))))))
    exact ⟨rfl,rfl,Ho,by omega,hM2⟩
  rintro e g3 ds3 s3 ⟨rfl,rfl,hg3,hn3,hM3⟩
  rw [←over_same hg3]
  refine thn_n ?_
  have hs3:=hC0.s
  refine WC.seq (Rg (Co (Fa (z:=Co (Ld (z:=Mv (z:=Co ?_)))))))
  refine SV.callM rfl rfl (higher_sp hX hM3) ?_
  rintro v s4 H4 hn4 hM4 ⟨rfl,eH⟩
  rw [eH] at hM4
  clear eH
  refine Co (Fa (z:=WO.cons0 (Sv (z:=fun s18_5 hn18_5 hM18_5=>Nl ?_))))
  have hC1:=hC0.cell (st':=higherD (rd L (rd O k)) (aheadD F L b O k)) (en':=0)
  have hM5:Models ro s18_5 (H3.up sb (.row 0 [.slice none 0 0,.int .i64 (rd L (rd O k)),.int .i64 (higherD (rd L (rd O k)) (aheadD F L b O k)),.int .i64 0])):=hM18_5
  clear hM18_5
  generalize H3.up sb (.row 0 [.slice none 0 0,.int .i64 (rd L (rd O k)),.int .i64 (higherD (rd L (rd O k)) (aheadD F L b O k)),.int .i64 0])=H5 at hC1 hM5
  clear hC0 hM2 hM3 hM4 hf3 hl3 ha3 hs3
  refine WC.seq (Rg (Mv (z:=Av (z:=Nl (WC.seq (WC.block ?_))))))
  simp only [seqOf] at hres
  generalize hCH:chainD F L b O (rd L (rd O k)) (O.length+1) k U [] 0=CH at hres
  have hlen:=chainD_length (F:=F) (L:=L) (b:=b) (O:=O) (lv:=rd L (rd O k)) (O.length+1) k U [] 0
  rw [hCH] at hlen
  generalize higherD (rd L (rd O k)) (aheadD F L b O k)=st at *
  generalize rd L (rd O k)=lv at *
  refine WC.loop (D:=Nat×Int×List Bool×Value×List Int×Int) (fun x=>[(0,.slice (some ⟨f,0,none⟩) n fc),(1,.slice (some ⟨l,0,none⟩) n lc),(2,.int .i64 b),(6,.slice none 0 0),(10,vo),(12,.int .i64 k),(13,.pointer (some ⟨sb,0,none⟩)),(15,.int .i64 x.2.1),(7,.slice (some ⟨ak,0,none⟩) m m),(11,.slice (some ⟨au,0,none⟩) m m),(42,.int .i64 m),(43,.int .i64 k)])
   (fun x s6=>s.next≤s6.next ∧ -1≤x.2.1∧x.2.1<m∧(0≤x.2.1→(m:Int)-x.2.1<x.1)∧x.2.2.1.length=m∧(x.2.2.2.2.1.length≤m∧(0≤x.2.1→x.2.2.2.2.1.length≤x.2.1))∧chainD F L b O lv x.1 x.2.1 x.2.2.1 x.2.2.2.2.1 x.2.2.2.2.2=CH∧∃ H6,Models ro s6 H6∧ChD HK H6 au x.2.2.1 vo R sb x.2.2.2.1 x.2.2.2.2.1 lv st x.2.2.2.2.2) (fun x=>x.1)
   (O.length+1,k,U,.slice none 0 0,[],0) ?_ ⟨by omega,by dsimp only;omega,hlt,fun _=>by dsimp only;omega,hlU,⟨Nat.zero_le _,fun _=>hk0⟩,hCH,_,hM5,hC1⟩ ?_
  ·exact Ho
  clear hCH hM5 hC1
  rintro ⟨q,j,U1,vA,A,en⟩ g s6 ⟨hn6,hj0,hj1,hq,hlU1,hlA,hch,H6,hM6,hC6⟩
  dsimp only at hn6 hj0 hj1 hq hlU1 hlA hch hC6 ⊢
  have hs6:=hC6.s
  rcases dc (0≤j) with ⟨hjj,hdj⟩ | ⟨hjj,hdj⟩
  ·obtain ⟨q,rfl⟩:∃ r,q=r+1:=⟨q-1,by have:=hq hjj;omega⟩
   simp only [chainD] at hch
   rw [if_neg (show ¬ j<0 by omega)] at hch
   have hOj:=hOr _ (rd_memA (A:=O) (k:=j) hjj (by omega))
   have hu6:=hC6.d.u
   refine WC.seq (WC.seq (Rg (Mv (z:=Co (Ge (z:=Nl (Ct (z:=WC.skip (WC.block (WC.seq (Rg (Mv (z:=Mv (z:=Co (Ix (z:=WO.cons0 (Sv (z:=fun s21_3 hn21_3 hM21_3=>Nl ?_))))))))))))))))))
   obtain ⟨H7,hM7,hC7⟩:=hC6.used hM21_3
   clear hM21_3 hM6 hC6 hs6 hu6
   have hf7:=(hC7.d.kp _ _ hfK).1
   have hl7:=(hC7.d.kp _ _ hlK).1
   have ha7:=(hC7.d.kp _ _ haK).1
   have hs7:=hC7.s
   have hA7:=hC7.a
   have hpu7:SlO H7 vA 1 A.length (A.map (.int .i64)):=by have:=hA7.toO;rwa [List.length_map] at this
   refine WC.seq (WC.dr [0,1,2,3,4,5,6,7,8,9] (z:=Cd (Fa (z:=Cd (Ld (z:=Mw (z:=Mw (z:=Cd (Ix (z:=Cd (Ld (z:=Cd (Bs (z:=fun a22_6 s22_6 hf22_6 hne22_6 hn22_6 hM22_6=>Cd ?_))))))))))))))
   have hMb:Models ro s22_6 (H7.up a22_6 (.row 1 [.int .i64 (rd O j)])):=hM22_6
   clear hM22_6
   have hpu:SlO (H7.up a22_6 (.row 1 [.int .i64 (rd O j)])) vA 1 A.length (A.map (.int .i64)):=hpu7.up (fun h=>by obtain ⟨o,ho⟩:=hpu7.base_some h;exact hne22_6 _ _ ho rfl)
   refine SV.appendM (t:=23) (u:=23) (e:=3) (e':=3) (sz:=1) (sz':=1) (bytes:=8) (z:=[.int .i64 0]) (n:=A.length) (m:=1) (vs:=A.map (.int .i64)) (xs:=[.int .i64 (rd O j)]) rfl hMb rfl rfl hpu (Src.row Hp.up_same rfl rfl (fun i v hv=>by rw [Nat.zero_add];exact hv)) rfl (by omega) (fun v8 s8 H8 hn8 hM8 hv8 hk8 hnew8 hex8=>?_)
   obtain ⟨a8,e8,ha8⟩:∃ a,v8 = .slice (some ⟨a,0,none⟩) (A.length+1) (A.length+1)∧H8 a=some (.row 1 (A.map (.int .i64)++[.int .i64 (rd O j)])):=by
    rcases hA7 with ⟨e,_⟩ | ⟨_,a,e,_⟩
    ·exact hex8.2.1 _ _ _ e (by omega)
    ·exact hex8.2.1 _ _ _ e (by rw [List.length_map];omega)
   have hC8:=hC7.push hne22_6 hk8 hnew8 e8 ha8
   subst e8
   have hs8:=hk8 _ _ (Hp.up_ne (hne22_6 _ _ hs7) hs7) hC7.n2.1
   refine Cd (Fa (z:=WD.cons0 (Sv (z:=fun s22_9 hn22_9 hM22_9=>Nz ?_))))
   have hM9:Models ro s22_9 (H8.up sb (.row 0 [.slice (some ⟨a8,0,none⟩) (A.length+1) (A.length+1),.int .i64 lv,.int .i64 st,.int .i64 en])):=hM22_9
   clear hM22_9 hM8 hMb hpu hpu7 hk8 hnew8 hex8 hv8 hs8 ha8 hC7 hM7 hf7 hl7 ha7 hs7 hA7
   generalize H8.up sb (.row 0 [.slice (some ⟨a8,0,none⟩) (A.length+1) (A.length+1),.int .i64 lv,.int .i64 st,.int .i64 en])=H9 at hC8 hM9
   have hf9:=(hC8.d.kp _ _ hfK).1
   have hl9:=(hC8.d.kp _ _ hlK).1
   have ha9:=(hC8.d.kp _ _ haK).1
   have hs9:=hC8.s
   have hA9:H9 a8=some (.row 1 ((A++[rd O j]).map (.int .i64))):=(hC8.a.base rfl).2
   have hOn:j+1<m→0≤rd O (j+1)∧rd O (j+1)<n:=fun h=>hOr _ (rd_memA (A:=O) (k:=j+1) (by omega) (by omega))
   refine WC.seq (Rg (Mv (z:=Co (Ad (z:=Av (z:=Nl (WC.seq (WC.seq ?_))))))))
   refine WC.mono (Q:=fun e g' ds' s'=>e = .normal∧ds'=[]∧holds g' [(0,.slice (some ⟨f,0,none⟩) n fc),(1,.slice (some ⟨l,0,none⟩) n lc),(2,.int .i64 b),(6,.slice none 0 0),(10,vo),(12,.int .i64 k),(13,.pointer (some ⟨sb,0,none⟩)),(15,.int .i64 (j)),(16,.int .i64 (j+1)),(7,.slice (some ⟨ak,0,none⟩) m m),(11,.slice (some ⟨au,0,none⟩) m m),(42,.int .i64 m),(43,.int .i64 k),(160,.bool (decide (goesD F L O lv j)))]∧s'=s22_9) ?_ ?_
   ·rcases dc (j+1<(m:Int)) with ⟨h1,hd1⟩ | ⟨h1,hd1⟩
    ·have hOn1:=hOn h1
     rcases dc (rd L (rd O (j+1))=lv) with ⟨hL,hdL⟩ | ⟨hL,hdL⟩
     ·refine WC.dr [0,1,2,3,4,5,6,7,8,9,10,11,12,13,14,15,16,17,18,19,20,21,22,23,24,25] (z:=Mw (z:=Mw (z:=Cd (Ln (z:=Cd (Lt (z:=Mw (z:=Hy (z:=Mq (z:=Hy (z:=Mq (z:=Hy (z:=Mq (z:=Hy (z:=Ix (z:=Hy (z:=Ld (z:=Hy (z:=Ix (z:=Hy (z:=Ld (z:=Hy (z:=Fa (z:=Hy (z:=Ld (z:=Hy (z:=Ei (z:=Cd (Pt (z:=Mw (z:=Hy (z:=Mq (z:=Hy (z:=Mq (z:=Hy (z:=Mq (z:=Hy (z:=Ix (z:=Hy (z:=Ld (z:=Hy (z:=Ix (z:=Hy (z:=Ld (z:=Hy (z:=Ni (z:=Cd (Pt (z:=Nz ?_)))))))))))))))))))))))))))))))))))))))))))))))))
      exact ⟨rfl,rfl,⟨rfl,rfl,rfl,rfl,rfl,rfl,rfl,rfl,rfl,rfl,rfl,rfl,rfl,congrArg (fun b=>some (Value.bool b)) (decide_eq_decide.mpr ⟨fun x=>⟨by omega,hL,x⟩,fun x=>x.2.2⟩),trivial⟩,rfl⟩
     ·refine WC.dr [0,1,2,3,4,5,6,7,8,9,10,11,12,13,14,15,16,17,18,19,20,21,22,23,24,25] (z:=Mw (z:=Mw (z:=Cd (Ln (z:=Cd (Lt (z:=Mw (z:=Hy (z:=Mq (z:=Hy (z:=Mq (z:=Hy (z:=Mq (z:=Hy (z:=Ix (z:=Hy (z:=Ld (z:=Hy (z:=Ix (z:=Hy (z:=Ld (z:=Hy (z:=Fa (z:=Hy (z:=Ld (z:=Hy (z:=Ei (z:=Cd (Pt (z:=Mw (z:=Hn (z:=Hn (z:=Hn (z:=Hn (z:=Hn (z:=Hn (z:=Hn (z:=Hn (z:=Cd (Pf (z:=Nz ?_)))))))))))))))))))))))))))))))))))))))))
      exact ⟨rfl,rfl,⟨rfl,rfl,rfl,rfl,rfl,rfl,rfl,rfl,rfl,rfl,rfl,rfl,rfl,congrArg (fun b=>some (Value.bool b)) (decide_eq_false (p:=goesD F L O lv j) (fun x=>hL x.2.1)).symm,trivial⟩,rfl⟩
    ·refine WC.dr [0,1,2,3,4,5,6,7,8,9,10,11,12,13,14,15,16,17,18,19,20,21,22,23,24,25] (z:=Mw (z:=Mw (z:=Cd (Ln (z:=Cd (Lt (z:=Mw (z:=Hn (z:=Hn (z:=Hn (z:=Hn (z:=Hn (z:=Hn (z:=Hn (z:=Hn (z:=Hn (z:=Hn (z:=Cd (Pf (z:=Mw (z:=Hn (z:=Hn (z:=Hn (z:=Hn (z:=Hn (z:=Hn (z:=Hn (z:=Hn (z:=Cd (Pf (z:=Nz ?_)))))))))))))))))))))))))))))))
     exact ⟨rfl,rfl,⟨rfl,rfl,rfl,rfl,rfl,rfl,rfl,rfl,rfl,rfl,rfl,rfl,rfl,congrArg (fun b=>some (Value.bool b)) (decide_eq_false (p:=goesD F L O lv j) (fun x=>h1 (by have:=x.1;omega))).symm,trivial⟩,rfl⟩
   rintro e g5 ds5 s5 ⟨rfl,rfl,hg5,e5⟩
   subst e5
   rw [←over_same hg5]
   refine thn_n ?_
   rcases dc (goesD F L O lv j) with ⟨hg,hdg⟩ | ⟨hg,hdg⟩
   ·rw [show nxD F L O lv j=j+1 from if_pos hg,show enD F L b O lv j en=en from if_pos hg] at hch
    refine Ct (z:=WC.seq (Rg (Mv (z:=Av (z:=Nl (WC.exit ?_))))))
    exact ⟨rfl,(q,j+1,U1.set j.toNat true,_,A++[rd O j],en),Ho,⟨by omega,by dsimp only;omega,by dsimp only;have:=hg.1;omega,fun _=>by dsimp only;have:=hq hjj;push_cast at this;omega,by dsimp only;rw [List.length_set];exact hlU1,⟨by dsimp only;rw [List.length_append,List.length_singleton];omega,fun _=>by dsimp only;rw [List.length_append,List.length_singleton];push_cast;have:=hlA.2 hjj;omega⟩,hch,H9,hM9,hC8⟩,by dsimp only;omega⟩
   have hnr:=nxD_rg (F:=F) (L:=L) (O:=O) (lv:=lv) hjj (by omega)
   have hnx:nxD F L O lv j=if isOpener (rd F (rd O j)) then hopD F O j else -1:=if_neg hg
   have hen:enD F L b O lv j en=higherD lv (behindD F L b O j):=if_neg hg
   rw [hen] at hch
   refine Cf (z:=WC.skip (WC.seq (Rg (Mv (z:=Av (z:=Nl (WC.seq ?_)))))))
   refine WC.mono (Q:=fun e g' ds' s'=>e = .normal∧ds'=[]∧holds g' [(0,.slice (some ⟨f,0,none⟩) n fc),(1,.slice (some ⟨l,0,none⟩) n lc),(2,.int .i64 b),(6,.slice none 0 0),(10,vo),(12,.int .i64 k),(13,.pointer (some ⟨sb,0,none⟩)),(15,.int .i64 (j)),(16,.int .i64 (j+1)),(7,.slice (some ⟨ak,0,none⟩) m m),(11,.slice (some ⟨au,0,none⟩) m m),(42,.int .i64 m),(43,.int .i64 k),(17,.int .i64 (if j+1<O.length∧rd F (rd O j)≠10 then rd L (rd O (j+1)) else b))]∧s.next≤s'.next∧Models ro s' H9) ?_ ?_
   ·rcases dc (j+1<(m:Int)) with ⟨h1,hd1⟩ | ⟨h1,hd1⟩
    ·have hOn1:=hOn h1
     by_cases h10:rd F (rd O j)=10
     ·have hd10:decide (rd F (rd O j)≠10)=false:=decide_eq_false (fun x=>x h10)
      rw [if_neg (fun x=>x.2 h10)]
      refine WC.seq (Rg (Mv (z:=Mv (z:=Co (Ln (z:=Co (Lt (z:=Mv (z:=Gy (z:=Mq (z:=Gy (z:=Mq (z:=Gy (z:=Mq (z:=Gy (z:=Ix (z:=Gy (z:=Ld (z:=Gy (z:=Ix (z:=Gy (z:=Ld (z:=Gy (z:=Ni (z:=Co (Pt (z:=Nl (thn_n (Cf (z:=WC.skip ?_))))))))))))))))))))))))))))))
      exact ⟨rfl,rfl,Ho,by omega,hM9⟩
     ·have hd10:decide (rd F (rd O j)≠10)=true:=decide_eq_true h10
      rw [if_pos ⟨by omega,h10⟩]
      refine WC.seq (Rg (Mv (z:=Mv (z:=Co (Ln (z:=Co (Lt (z:=Mv (z:=Gy (z:=Mq (z:=Gy (z:=Mq (z:=Gy (z:=Mq (z:=Gy (z:=Ix (z:=Gy (z:=Ld (z:=Gy (z:=Ix (z:=Gy (z:=Ld (z:=Gy (z:=Ni (z:=Co (Pt (z:=Nl (thn_n (Ct (z:=Rg (Mv (z:=Mv (z:=Mv (z:=Co (Ix (z:=Co (Ld (z:=Co (Ix (z:=Co (Ld (z:=Av (z:=Nl ?_)))))))))))))))))))))))))))))))))))))))))))
      exact ⟨rfl,rfl,Ho,by omega,hM9⟩
    ·rw [if_neg (fun x=>h1 (by have:=x.1;omega))]
     refine WC.seq (Rg (Mv (z:=Mv (z:=Co (Ln (z:=Co (Lt (z:=Mv (z:=Gn (z:=Gn (z:=Gn (z:=Gn (z:=Gn (z:=Gn (z:=Gn (z:=Gn (z:=Co (Pf (z:=Nl (thn_n (Cf (z:=WC.skip ?_))))))))))))))))))))))
     exact ⟨rfl,rfl,Ho,by omega,hM9⟩
   rintro e g6 ds6 s7 ⟨rfl,rfl,hg6,hn7,hM7⟩
   rw [←over_same hg6]
   refine thn_n ?_
   have hlast:((A++[rd O j]).map (Value.int .i64))[0+(((A.length+1:Nat):Int)-1).toNat*1]?=some (.int .i64 (rd O j)):=by
    rw [show 0+(((A.length+1:Nat):Int)-1).toNat*1=A.length by omega,List.map_append,List.getElem?_append_right (by rw [List.length_map];exact Nat.le_refl _),List.length_map,Nat.sub_self];rfl
   refine WC.seq (Rg (Av (z:=Nl (WC.seq (Rg (Co (Fa (z:=Co (Ld (z:=Co (Fa (z:=Co (Ld (z:=Co (Ln (z:=Co (Sb (z:=Co (Ix (z:=Co (Ld (z:=Av (z:=Nl (WC.seq ?_))))))))))))))))))))))))
   refine WC.mono (Q:=fun e g' ds' s'=>e = .normal∧ds'=[]∧holds g' [(0,.slice (some ⟨f,0,none⟩) n fc),(1,.slice (some ⟨l,0,none⟩) n lc),(2,.int .i64 b),(6,.slice none 0 0),(10,vo),(12,.int .i64 k),(13,.pointer (some ⟨sb,0,none⟩)),(15,.int .i64 (if isOpener (rd F (rd O j)) then hopD F O j else -1)),(16,.int .i64 (j+1)),(7,.slice (some ⟨ak,0,none⟩) m m),(11,.slice (some ⟨au,0,none⟩) m m),(42,.int .i64 m),(43,.int .i64 k),(17,.int .i64 (behindD F L b O j))]∧s.next≤s'.next∧Models ro s' H9) ?_ ?_
   ·refine WC.seq (Rg (Mv (z:=Mv (z:=Co (Ix (z:=Co (Ld (z:=Co ?_))))))))
    refine SV.callM rfl rfl (opens_sp hX hM7) ?_
    rintro v s8 H8 hn8 hM8 ⟨rfl,eH⟩
    rw [eH] at hM8
    clear eH
    rcases dc (isOpener (rd F (rd O j))) with ⟨hop,hod⟩ | ⟨hop,hod⟩
    ·rw [show behindD F L b O j=b from if_pos hop,if_pos hop]
     refine Nl (thn_n (Ct (z:=WC.seq (Rg (Mv (z:=Av (z:=Nl (thn_n (WC.seq (Rg (Mv (z:=Mv (z:=Co ?_)))))))))))))
     refine SV.callM rfl rfl (matchD_spN hX hM8 hf9 hlF hn ⟨by omega,by omega⟩) ?_
     rintro v s10 H10 hn10 hM10 ⟨rfl,eH⟩
     rw [eH] at hM10
     clear eH
     refine Av (z:=Nl (thn_n (WC.seq (Rg (Mv (z:=Av (z:=Nl (thn_n (WC.block ?_)))))))))
     have hHP:fqD O (mOf F (rd O j)) (m-(j+1).toNat) (j+1) (-1)=hopD F O j:=by unfold hopD;rw [hm]
     generalize hopD F O j=hp at hHP ⊢
     refine WC.loop (D:=Int×Int) (fun x=>[(0,.slice (some ⟨f,0,none⟩) n fc),(1,.slice (some ⟨l,0,none⟩) n lc),(2,.int .i64 b),(6,.slice none 0 0),(10,vo),(12,.int .i64 k),(13,.pointer (some ⟨sb,0,none⟩)),(15,.int .i64 (x.2)),(16,.int .i64 (j+1)),(7,.slice (some ⟨ak,0,none⟩) m m),(11,.slice (some ⟨au,0,none⟩) m m),(42,.int .i64 m),(43,.int .i64 k),(17,.int .i64 b),(19,.int .i64 (mOf F (rd O j))),(20,.int .i64 x.1)])
      (fun x s6=>s.next≤s6.next∧Models ro s6 H9∧0≤x.1∧x.1≤m∧fqD O (mOf F (rd O j)) (m-x.1.toNat) x.1 x.2=hp) (fun x=>m-x.1.toNat) (j+1,-1) ?_ ⟨by omega,hM10,by dsimp only;omega,by dsimp only;omega,hHP⟩ ?_
     ·exact Ho
     rintro ⟨q',c'⟩ g s11 ⟨hn11,hM11,hq0,hq1,hfq⟩
     dsimp only at hn11 hq0 hq1 hfq ⊢
     rcases dc (q'<(m:Int)) with ⟨hqm,hdq⟩ | ⟨hqm,hdq⟩
     ·rw [show m-q'.toNat=(m-(q'+1).toNat)+1 by omega] at hfq
      simp only [fqD] at hfq
      rcases dc (rd O q'=mOf F (rd O j)) with ⟨hqe,hde⟩ | ⟨hqe,hde⟩
      ·rw [if_pos hqe] at hfq
       refine WC.seq (WC.seq (Rg (Mv (z:=Mv (z:=Co (Ln (z:=Co (Lt (z:=Nl (thn_n (Ct (z:=WC.skip (WC.seq (WC.block (WC.seq (Rg (Mv (z:=Mv (z:=Co (Ix (z:=Co (Ld (z:=Mv (z:=Co (Ei (z:=Nl (thn_n (Ct (z:=Rg (Mv (z:=Av (z:=Nl ?_))))))))))))))))))))))))))))))))
       (skip)
       refine Rg (Mv (z:=Co (Ad (z:=Av (z:=Nl ?_)))))
       exact ⟨rfl,(q'+1,q'),Ho,⟨by omega,hM11,by dsimp only;omega,by dsimp only;omega,hfq⟩,by dsimp only;omega⟩
      ·rw [if_neg hqe] at hfq
       refine WC.seq (WC.seq (Rg (Mv (z:=Mv (z:=Co (Ln (z:=Co (Lt (z:=Nl (thn_n (Ct (z:=WC.skip (WC.seq (WC.block (WC.seq (Rg (Mv (z:=Mv (z:=Co (Ix (z:=Co (Ld (z:=Mv (z:=Co (Ei (z:=Nl (thn_n (Cf (z:=WC.skip (Rg (Mv (z:=Co (Ad (z:=Av (z:=Nl ?_)))))))))))))))))))))))))))))))))))
       exact ⟨rfl,(q'+1,c'),Ho,⟨by omega,hM11,by dsimp only;omega,by dsimp only;omega,hfq⟩,by dsimp only;omega⟩
     ·rw [show m-q'.toNat=0 by omega] at hfq
      have hfq2:c'=hp:=hfq
      subst hfq2
      refine WC.seq (WC.seq (Rg (Mv (z:=Mv (z:=Co (Ln (z:=Co (Lt (z:=Nl (thn_n (Cf (z:=WC.exit ?_))))))))))))
      exact ⟨rfl,rfl,Ho,by omega,hM11⟩
    ·rw [show behindD F L b O j=if j+1<O.length∧rd F (rd O j)≠10 then rd L (rd O (j+1)) else b from if_neg hop,if_neg hop]
     refine Nl (thn_n (Cf (z:=WC.skip ?_)))
     exact ⟨rfl,rfl,Ho,by omega,hM8⟩
   rintro e g8 ds8 s8 ⟨rfl,rfl,hg8,hn8,hM8⟩
   rw [←over_same hg8]
   refine thn_n ?_
   rw [←hnx]
   refine Rg (Co (Fa (z:=Co (Ld (z:=Mv (z:=Co ?_))))))
   refine SV.callM rfl rfl (higher_sp hX hM8) ?_
   rintro v s10 H10 hn10 hM10 ⟨rfl,eH⟩
   rw [eH] at hM10
   clear eH
   refine Co (Fa (z:=WO.cons0 (Sv (z:=fun s39_5 hn39_5 hM39_5=>Nl ?_))))
   have hC10:=hC8.cell (st':=st) (en':=higherD lv (behindD F L b O j))
   have hM12:Models ro s39_5 (H9.up sb (.row 0 [.slice (some ⟨a8,0,none⟩) (A.length+1) (A.length+1),.int .i64 lv,.int .i64 st,.int .i64 (higherD lv (behindD F L b O j))])):=hM39_5
   have hnr1 : -1≤nxD F L O lv j∧nxD F L O lv j<m∧(0≤nxD F L O lv j→j+1≤nxD F L O lv j):=by omega
   generalize nxD F L O lv j=nx at hnr1 hch ⊢
   exact ⟨rfl,(q,nx,U1.set j.toNat true,_,A++[rd O j],higherD lv (behindD F L b O j)),Ho,⟨by omega,hnr1.1,hnr1.2.1,fun h=>by have:=hq hjj;have:=hnr1.2.2 h;push_cast at *;omega,by dsimp only;rw [List.length_set];exact hlU1,⟨by dsimp only;rw [List.length_append,List.length_singleton];have:=hlA.2 hjj;omega,fun h=>by dsimp only at h ⊢;rw [List.length_append,List.length_singleton];push_cast;have:=hlA.2 hjj;have:=hnr1.2.2 h;omega⟩,hch,_,hM12,hC10⟩,by dsimp only;omega⟩
  have hCHe:CH=(U1,A,en):=by
   rw [←hch]
   cases q with
   | zero=>rfl
   | succ q=>simp only [chainD];rw [if_pos (by omega)]
  rw [hCHe] at hres
  dsimp only at hres
  refine WC.seq (WC.seq (Rg (Mv (z:=Co (Ge (z:=Nl (Cf (z:=WC.exit (Rg ?_)))))))))
  refine WO.cons (SV.move ?_) (by decide)
  refine Co ?_
  refine SV.loadMA (l:=encS (vA,⟨A,lv,st,en⟩)) (by assumption) rfl hs6 rfl (fun t u hu=>by rw [Nat.zero_add];exact hu) ?_
  refine Co (Bs (z:=fun a40_2 s40_2 hf40_2 hne40_2 hn40_2 hM40_2=>Co ?_))
  have hMb:Models ro s40_2 (H6.up a40_2 (.row 4 (encS (vA,⟨A,lv,st,en⟩)))):=hM40_2
  clear hM40_2
  have hpu:SlO (H6.up a40_2 (.row 4 (encS (vA,⟨A,lv,st,en⟩)))) vo 4 R.length (R.flatMap encS):=hC6.d.o.up (fun h=>by obtain ⟨o,ho⟩:=hC6.d.o.base_some h;exact hne40_2 _ _ ho rfl)
  refine SV.appendM (e:=94) (e':=94) (sz:=4) (sz':=4) (n:=R.length) (m:=1) (vs:=R.flatMap encS) (xs:=encS (vA,⟨A,lv,st,en⟩)) rfl hMb rfl rfl hpu (Src.row Hp.up_same rfl (by rcases hC6.a with ⟨rfl,_⟩ | ⟨_,a,rfl,_⟩ <;> rfl) (fun i v hv=>by rw [Nat.zero_add];exact hv)) rfl (by omega) (fun v8 s8 H8 hn8 hM8 hv8 hk8 hnew8 _=>?_)
  refine WO.cons (SV.assign ?_) (by decide)
  refine Nl ?_
  obtain ⟨HK8,hK8,hI8⟩:=hC6.done hne40_2 hk8 hnew8 hv8
  refine Rg (Co (Ad (z:=Mv (z:=Nl ?_))))
  exact ⟨rfl,(k+1,U1,v8,R++[(vA,⟨A,lv,st,en⟩)]),Ho,⟨by omega,by dsimp only;omega,by dsimp only;omega,hlU1,by dsimp only;rw [List.length_append,List.length_singleton];push_cast;omega,by dsimp only;rw [List.map_append];exact hres,HK8,H8,hM8,fun ν o e=>⟨hK8 _ _ (hBK _ _ e).1,fun p hp=>(by rcases List.mem_append.mp hp with hp | hp;exact (hBK _ _ e).2 p hp;rw [List.mem_singleton.mp hp];exact (hC6.k2 _ _ (hBK _ _ e).1).2)⟩,hI8⟩,by dsimp only;omega⟩
 rw [show m-k.toNat=0 by omega] at hres
 have hres2:R.map Prod.snd=RES:=hres
 refine WC.seq (Rg (Co (Lt (z:=Nl (WC.seq (Cf (z:=WC.exit (WC.seq (Rg ?_)))))))))
 refine WO.cons (SV.move ?_) (by decide)
 refine WO.cons (SV.assign ?_) (by decide)
 refine Nl (WC.ret ?_)
 refine fin_one (e:=.ret) (v:=vo) rfl ?_ rfl (by omega) hM1 ⟨HK,au,U,R,fun ν o e=>hBK _ _ (hkp _ _ e).1,hI1,hres2,by omega⟩
 trivial
end Go.Proofs.Ythkklpegjcnjoaa
