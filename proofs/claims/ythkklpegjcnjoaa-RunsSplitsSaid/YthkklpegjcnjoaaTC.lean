/- A part of the proof: no condition but those that each theorem states. -/
import Derived.Test.YthkklpegjcnjoaaLgT
import Derived.Test.YthkklpegjcnjoaaTB
import Derived.Test.YthkklpegjcnjoaaLgB
set_option linter.unusedVariables false
set_option linter.unusedSimpArgs false
namespace Go.Proofs.Ythkklpegjcnjoaa
open Go.Ab
variable {X:CallE} {ro:Nat}
set_option maxRecDepth 10000
structure Exts where
 (LS LB LK BO BK:Int→Int) (SM:List (Int×Int)→List (Int×Int))
def enc2 (e:Int×Int):List Value:=[.int .i64 e.1,.int .i64 e.2]
theorem enc2_len (e:Int×Int):(enc2 e).length=2:=rfl
structure ExtOk (X:CallE) (ro:Nat) (Y:Exts):Prop where
 own:OwnX X
 look:∀ (s:St) (H:Hp) (c:Int),Models ro s H→Sp X Try.prog ro 47 [.int .i64 c] s fun v H'=>v = .agg #[.int .i64 (Y.LS c),.int .i64 (Y.LB c),.int .i64 (Y.LK c)]∧H'=H
 brk:∀ (s:St) (H:Hp) (c:Int),Models ro s H→Sp X Try.prog ro 86 [.int .i64 c] s fun v H'=>v = .tuple #[.int .i64 (Y.BO c),.int .i64 (Y.BK c)]∧H'=H
 sort0:∀ (s:St) (H:Hp),Models ro s H→Sp X Try.prog ro 87 [.slice none 0 0,.func (.func 88) #[] #[]] s fun v H'=>v = .tuple #[]∧H'=H
 sort:∀ (s:St) (H:Hp) (ν n c:Nat) (L:List (Int×Int)) (ws:List Value),Models ro s H→H ν=some (.row 2 ws)→ws.length=c*2→n≤c→L.length=n→n≤100000→ws.take (n*2)=L.flatMap enc2→(L.map Prod.fst).Nodup→(∀ x∈L.map Prod.fst,0≤x∧x<100000) →
  Sp X Try.prog ro 87 [.slice (some ⟨ν,0,none⟩) n c,.func (.func 88) #[] #[]] s fun v H'=>v = .tuple #[]∧H'=H.up ν (.row 2 ((Y.SM L).flatMap enc2++ws.drop (n*2)))
 perm:∀ L,(Y.SM L).Perm L
 alive:∀ (s:St) (H:Hp),Models ro s H→Sp X Try.prog ro 23 [] s fun v H'=>v = .bool true∧H'=H
 look44:∀ (s:St) (H:Hp) (c:Int),Models ro s H→Sp X Try.prog ro 44 [.int .i64 c] s fun v H'=>v = .agg #[.int .i64 (Y.LS c),.int .i64 (Y.LB c),.int .i64 (Y.LK c)]∧H'=H
 alive13:∀ (s:St) (H:Hp),Models ro s H→Sp X Try.prog ro 13 [] s fun v H'=>v = .bool true∧H'=H
theorem rep_ints (n:Nat):repeatL [.int .i64 0] n=(List.replicate n (0:Int)).map (.int .i64):=by
 induction n with
 | zero=>rfl
 | succ n ih=>simp only [repeatL,ih,List.replicate_succ,List.map_cons,List.cons_append,List.nil_append]
theorem set_next {n:Nat} (done:List Int) (x:Int) (h:done.length<n):(done++List.replicate (n-done.length) 0).set done.length x=(done++[x])++List.replicate (n-(done++[x]).length) 0:=by
 rw [List.set_append_right _ _ (Nat.le_refl _),Nat.sub_self,show n-done.length=(n-(done++[x]).length)+1 by rw [List.length_append];simp;omega,List.replicate_succ]
 simp
theorem classes_sp {Y:Exts} {s:St} {H:Hp} {c cc:Nat} {C:List Int} (hX:ExtOk X ro Y) (hM:Models ro s H) (hc:H c=some (.row 1 (C.map (.int .i64)))) (hbig:C.length≤16384) :
 Sp X Try.prog ro 34 [.slice (some ⟨c,0,none⟩) C.length cc] s fun v H'=>∃ a,v = .slice (some ⟨a,0,none⟩) C.length C.length∧(∀ ν o,H ν=some o→ν≠a)∧H'=H.up a (.row 1 ((C.map Y.LB).map (.int .i64))):=by
 refine Bo hX.own Try.func34 Try.ntmps34 (z:=?_)
 refine WC.seq (Rg (Av (z:=Nl (WC.seq (Rg (Mv (z:=Co (Ln (z:=?_)))))))))
 refine WO.cons (SV.makeSliceM (by assumption) rfl rfl (by refine ⟨?_,?_,?_,?_,rfl,by decide⟩ <;> omega) (fun a1_2 s1_2 hf1_2 hne1_2 hn1_2 hM1_2=>?_)) (by decide)
 refine Av (z:=Nl (WC.seq (WC.seq (Rg (Mv (z:=Co (Ln (z:=Mv (z:=Nl ?_)))))))))
 rw [rep_ints] at hM1_2
 have hc1:(H.up a1_2 (.row 1 ((List.replicate (C.length:Int).toNat (0:Int)).map (.int .i64)))) c=_:=Hp.up_ne (hne1_2 _ _ hc) hc
 refine WC.block ?_
 refine WC.loop (D:=List Int) (fun x=>[(0,.slice (some ⟨c,0,none⟩) C.length cc),(3,.slice (some ⟨a1_2,0,none⟩) C.length C.length),(9,.slice (some ⟨c,0,none⟩) C.length cc),(10,.int .i64 C.length),(11,.int .i64 x.length)])
  (fun x s1=>s.next≤s1.next∧Models ro s1 (H.up a1_2 (.row 1 ((x++List.replicate (C.length-x.length) 0).map (.int .i64))))∧x.length≤C.length∧x=(C.take x.length).map Y.LB)
  (fun x=>C.length-x.length) [] ?_ ⟨hn1_2,by simpa using hM1_2,Nat.zero_le _,rfl⟩ ?_
 ·exact Ho
 rintro x g s1 ⟨hn1,hM1,hx1,hx2⟩
 have hc2:(H.up a1_2 (.row 1 ((x++List.replicate (C.length-x.length) 0).map (.int .i64)))) c=_:=Hp.up_ne (hne1_2 _ _ hc) hc
 have hxl:(x++List.replicate (C.length-x.length) (0:Int)).length=C.length:=by rw [List.length_append,List.length_replicate];omega
 refine WC.seq (Rg (Co (Lt (z:=Nl (WC.seq ?_)))))
 refine WC.condD rfl (fun hlt hltb=>?_) (fun hlt hltb=>?_)
 ·refine WC.skip (WC.seq (WC.block (WC.seq (Rg (Mv (z:=Co (Ix (z:=Co (Ld (z:=Av (z:=Av (z:=Nl (Rg (Mv (z:=Mv (z:=Mv (z:=Co ?_)))))))))))))))))
  refine SV.callM rfl rfl (hX.look _ _ _ hM1) ?_
  rintro v s2 H2 hn2 hM2 ⟨rfl,rfl⟩
  refine WO.cons (SV.field rfl rfl ?_) (by decide)
  refine Co (Ix (z:=WO.cons0 (Sv (z:=fun s5_6 hn5_6 hM5_6=>Nl ?_))))
  rw [ints_set (by omega) (by omega),Hp.up_up,Int.toNat_natCast,set_next x _ (by omega)] at hM5_6
  refine Rg (Co (Ad (z:=Mv (z:=Nl ?_))))
  refine ⟨rfl,x++[Y.LB (rd C x.length)],⟨rfl,rfl,rfl,rfl,?_,trivial⟩,⟨by omega,hM5_6,by rw [List.length_append,List.length_singleton];omega,?_⟩,by rw [List.length_append,List.length_singleton];omega⟩
  ·rw [List.length_append,List.length_singleton];rfl
  ·rw [List.length_append,List.length_singleton,List.take_add_one,List.map_append,←hx2]
   congr 1
   unfold rd
   rw [Int.toNat_natCast,List.getElem?_eq_getElem (by omega),List.getD_eq_getElem?_getD,List.getElem?_eq_getElem (by omega)]
   rfl
 ·have e:x.length=C.length:=by omega
  rw [e,Nat.sub_self,List.replicate_zero,List.append_nil] at hM1
  rw [e,List.take_length] at hx2
  refine WC.exit (WC.seq (Rg (Mv (z:=Av (z:=Nl (WC.ret ?_))))))
  exact fin_one (e:=.ret) rfl trivial rfl hn1 hM1 ⟨a1_2,rfl,hne1_2,by rw [←hx2]⟩
theorem clone_sp {s:St} {H:Hp} {c cc n:Nat} {C:List Int} (hX:OwnX X) (hM:Models ro s H) (hc:H c=some (.row 1 (C.map (.int .i64)))) (hn:C.length=n) (hbig:n≤16384) :
 Sp X Try.prog ro 35 [.slice (some ⟨c,0,none⟩) n cc] s fun v H'=>∃ a,v = .slice (some ⟨a,0,none⟩) n n∧(∀ ν o,H ν=some o→ν≠a)∧H'=H.up a (.row 1 (C.map (.int .i64))):=by
 refine Bo hX Try.func35 Try.ntmps35 (z:=?_)
 refine WC.seq (Rg (Av (z:=Nl (WC.seq (WC.seq (Rg (Mv (z:=?_))))))))
 refine WO.cons (SV.eqlSlN rfl rfl ?_) (by decide)
 refine Nl (Cf (z:=WC.skip (WC.seq (Rg (Co (Bs (z:=fun a3_0 s3_0 hf3_0 hne3_0 hn3_0 hM3_0=>Mv (z:=Co ?_))))))))
 refine SV.appendM (t:=23) (u:=23) (e:=3) (e':=3) (sz:=1) (sz':=1) (bytes:=8) (z:=[.int .i64 0]) (n:=0) (m:=n) (vs:=[]) (xs:=C.map (.int .i64)) rfl (by assumption) rfl rfl (.inr ⟨a3_0,0,[],rfl,Hp.up_same,rfl,Nat.le_refl _,rfl⟩)
  (Src.row (Hp.up_ne (hne3_0 _ _ hc) hc) (by rw [List.length_map,hn];omega) (by rw [List.all_map];simp [oneC]) (fun i v h=>by rw [Nat.zero_add];exact h)) rfl (by omega) (fun v1 s1 H1 hn1 hM1 hv1 hk1 hnew1 hnn1=>?_)
 have hfr:∀ ν o,H ν=some o→baseV v1≠some ν:=fun ν o e h=>by
  rcases hnew1 ν h with h1 | h1
  ·cases h1;exact hne3_0 _ _ e rfl
  ·rw [Hp.up_ne (hne3_0 _ _ e) e] at h1;cases h1
 have hkeep:∀ ν o,H ν=some o→H1 ν=some o:=fun ν o e=>hk1 ν o (Hp.up_ne (hne3_0 _ _ e) e) (fun h=>by cases h;exact hne3_0 _ _ e rfl)
 have fin:∀ (μ0 c0:Nat) (g:Gm),g 2=some (.slice (some ⟨μ0,0,none⟩) (0+n) (0+n))→v1 = .slice (some ⟨μ0,0,none⟩) (0+n) (0+n)→H1 μ0=some (.row 1 (C.map (.int .i64))) →
  FinM Try.prog ro s.next Try.f35 (fun v H'=>∃ a,v = .slice (some ⟨a,0,none⟩) n n∧(∀ ν o,H ν=some o→ν≠a)∧H'=H.up a (.row 1 (C.map (.int .i64)))) .ret g [] s1:=fun μ0 c0 g hg hv h1=>by
  refine fin_one (e:=.ret) (v:=.slice _ _ _) rfl trivial hg (by omega) (hM1.sub (H':=H.up μ0 (.row 1 (C.map (.int .i64)))) fun μ o e=>?_) ⟨μ0,by rw [Nat.zero_add],fun μ o e h=>hfr μ o e (by rw [hv,h];rfl),rfl⟩
  unfold Hp.up at e
  by_cases hm:μ=μ0
  ·rw [if_pos hm] at e;cases e;rw [hm];exact h1
  ·rw [if_neg hm] at e;exact hkeep μ o e
 by_cases hn0:n=0
 ·subst hn0
  obtain rfl:C=[]:=List.length_eq_zero_iff.mp hn
  obtain rfl:=hnn1.2.2.1 _ _ _ rfl (Nat.le_refl _)
  refine Av (z:=Nl (WC.ret ?_))
  exact fin a3_0 0 _ rfl rfl (hnn1.2.2.2 rfl _ _ Hp.up_same)
 ·obtain ⟨a1,rfl,h1⟩:=hnn1.2.1 _ _ _ rfl (by omega)
  refine Av (z:=Nl (WC.ret ?_))
  exact fin a1 0 _ rfl rfl h1
def lastI (O:List Int):Int:=rd O ((O.length:Int)-1)
def matchO (F:List Int) (i:Int) (O:List Int):List Int:=
 if isOpener (rd F i) then O++[i] else if rd F i=10 then [] else if rd F i=22∧0<O.length then O.take (O.length-1) else O
def matchS (F:List Int) (i:Int) (O M:List Int):List Int:=
 if isOpener (rd F i) then M.set i.toNat (-1) else if rd F i=10 then M.set i.toNat (-1) else if rd F i=22∧0<O.length then ((M.set i.toNat (-1)).set i.toNat (lastI O)).set (lastI O).toNat i else M.set i.toNat (-1)
def matchM (F:List Int):Nat→Int→List Int→List Int→List Int
 | 0,_,_,M=>M
 | r+1,i,O,M=>matchM F r (i+1) (matchO F i O) (matchS F i O M)
def matchesM (F:List Int):List Int:=matchM F F.length 0 [] (List.replicate F.length 0)
theorem matchS_length {F:List Int} {i:Int} {O M:List Int}:(matchS F i O M).length=M.length:=by
 unfold matchS
 repeat' split
 all_goals simp only [List.length_set]
theorem matchM_length {F:List Int}:∀ (r:Nat) (i:Int) (O M:List Int),(matchM F r i O M).length=M.length
 | 0,_,_,_=>rfl
 | r+1,i,O,M=>(matchM_length r _ _ _).trans matchS_length
structure MatchI (F:List Int) (i:Int) (O M:List Int):Prop where
 oO:∀ x∈O,0≤x∧x<i
 len:(O.length:Int)≤i
 mM:∀ j:Int,0≤j→j<i→isOpener (rd F j)→rd M j<0∨(j<rd M j∧rd M j<F.length)
theorem rd_set {L:List Int} {i j x:Int} (hi:0≤i) (hj:0≤j) (h:i<L.length):rd (L.set i.toNat x) j=if j=i then x else rd L j:=by
 unfold rd
 rw [List.getD_eq_getElem?_getD,List.getElem?_set,List.getD_eq_getElem?_getD]
 by_cases e:i.toNat=j.toNat
 ·rw [if_pos e,if_pos (by omega),if_pos (by omega)];rfl
 ·rw [if_neg e,if_neg (by omega)]
theorem lastI_mem {O:List Int} (h:0<O.length):lastI O∈O:=by
 unfold lastI rd
 rw [List.getD_eq_getElem?_getD,List.getElem?_eq_getElem (by omega)]
 exact List.getElem_mem _
theorem MatchI.next {F:List Int} {i:Int} {O M:List Int} (h:MatchI F i O M) (hi:0≤i) (hn:i<F.length) (hM:M.length=F.length):MatchI F (i+1) (matchO F i O) (matchS F i O M):=by
 have hl:=h.len
 have h1:∀ j:Int,0≤j→j<i+1→isOpener (rd F j)→rd (M.set i.toNat (-1)) j<0∨(j<rd (M.set i.toNat (-1)) j∧rd (M.set i.toNat (-1)) j<F.length):=fun j a b c=>by
  rw [rd_set hi a (by omega)]
  by_cases e:j=i
  ·rw [if_pos e];left;omega
  ·rw [if_neg e];exact h.mM j a (by omega) c
 refine { oO:=?_,len:=?_,mM:=?_ }
 ·intro x hx
  unfold matchO at hx
  split at hx
  ·rcases List.mem_append.mp hx with hx | hx
   ·have:=h.oO x hx;omega
   ·simp only [List.mem_singleton] at hx;omega
  ·split at hx
   ·cases hx
   ·split at hx
    ·have:=h.oO x (List.mem_of_mem_take hx);omega
    ·have:=h.oO x hx;omega
 ·unfold matchO
  repeat' split
  all_goals try simp only [List.length_append,List.length_singleton,List.length_nil,List.length_take]
  all_goals omega
 ·unfold matchS
  split
  ·exact h1
  ·split
   ·exact h1
   ·split
    ·rename_i hno _ hp
     have hl2:=h.oO _ (lastI_mem hp.2)
     intro j a b c
     rw [rd_set hl2.1 a (by simp only [List.length_set];omega)]
     by_cases e:j=lastI O
     ·rw [if_pos e];right;omega
     ·rw [if_neg e,rd_set hi a (by simp only [List.length_set];omega)]
      by_cases e2:j=i
      ·rw [e2] at c;exact absurd c hno
      ·rw [if_neg e2];exact h1 j a b c
    ·exact h1
theorem matchM_ok {F:List Int}:∀ (r:Nat) (i:Int) (O M:List Int),MatchI F i O M→0≤i→i+r=F.length→M.length=F.length→MatchI F F.length [] (matchM F r i O M)∨(∀ j:Int,0≤j→j<F.length→isOpener (rd F j)→rd (matchM F r i O M) j<0∨(j<rd (matchM F r i O M) j∧rd (matchM F r i O M) j<F.length))
 | 0,i,O,M,h,hi,hr,hM=>.inr (fun j a b c=>h.mM j a (by simp at hr;omega) c)
 | r+1,i,O,M,h,hi,hr,hM=>matchM_ok r (i+1) _ _ (h.next hi (by push_cast at hr;omega) hM) (by omega) (by push_cast at hr ⊢;omega) (matchS_length.trans hM)
theorem matchesM_ok (F:List Int):MatchOk F (matchesM F):=by
 intro i h0 h1 ho
 rcases matchM_ok (F:=F) F.length 0 [] (List.replicate F.length 0) { oO:=fun x h=>(by cases h),len:=by simp,mM:=fun j a b=>by omega } (Int.le_refl _) (by simp) (by simp) with h | h
 ·exact h.mM i h0 h1 ho
 ·exact h i h0 h1 ho
structure MatH (ro:Nat) (s1:St) (H H1:Hp) (a:Nat) (vO:Value) (F:List Int) (i:Int) (O M:List Int):Prop where
 md:Models ro s1 H1
 row:H1 a=some (.row 1 (M.map (.int .i64)))
 sl:SlO H1 vO 1 O.length (O.map (.int .i64))
 va:baseV vO≠some a
 kp:∀ ν o,H ν=some o→H1 ν=some o∧ν≠a∧baseV vO≠some ν
 inv:MatchI F i O M
 len:M.length=F.length
theorem MatH.set {s1 s2:St} {H H1:Hp} {a:Nat} {vO:Value} {F:List Int} {i:Int} {O M M':List Int} (h:MatH ro s1 H H1 a vO F i O M) (hM:Models ro s2 (H1.up a (.row 1 (M'.map (.int .i64))))) {i':Int} {O':List Int} {v':Value}
 (hv:SlO (H1.up a (.row 1 (M'.map (.int .i64)))) v' 1 O'.length (O'.map (.int .i64))) (hb:baseV v'=baseV vO∨baseV v'=none) (hi:MatchI F i' O' M') (hl:M'.length=F.length):MatH ro s2 H (H1.up a (.row 1 (M'.map (.int .i64)))) a v' F i' O' M' where
 md:=hM
 row:=Hp.up_same
 sl:=hv
 va:=by
  rcases hb with e | e
  ·rw [e];exact h.va
  ·rw [e];intro h;cases h
 kp:=fun ν o e=>⟨Hp.up_ne (h.kp ν o e).2.1 (h.kp ν o e).1,(h.kp ν o e).2.1,by
  rcases hb with e1 | e1
  ·rw [e1];exact (h.kp ν o e).2.2
  ·rw [e1];intro h;cases h⟩
 inv:=hi
 len:=hl
set_option maxHeartbeats 4000000 in
theorem matches_sp {s:St} {H:Hp} {f cf:Nat} {F:List Int} (hX:OwnX X) (hM:Models ro s H) (hf:H f=some (.row 1 (F.map (.int .i64)))) (hbig:F.length≤16384) :
 Sp X Try.prog ro 36 [.slice (some ⟨f,0,none⟩) F.length cf] s fun v H'=>∃ a,v = .slice (some ⟨a,0,none⟩) F.length F.length∧(∀ ν o,H ν=some o→ν≠a)∧H'=H.up a (.row 1 ((matchesM F).map (.int .i64))):=by
 refine Bo hX Try.func36 Try.ntmps36 (z:=?_)
 refine WC.seq (Rg (Av (z:=Nl (WC.seq (Rg (Mv (z:=Co (Ln (z:=?_)))))))))
 refine WO.cons (SV.makeSliceM (by assumption) rfl rfl (by refine ⟨?_,?_,?_,?_,rfl,by decide⟩ <;> omega) (fun a1_2 s1_2 hf1_2 hne1_2 hn1_2 hM1_2=>?_)) (by decide)
 refine Av (z:=Nl (WC.seq (Rg (Av (z:=Nl (WC.seq (WC.seq (Rg (Mv (z:=Co (Ln (z:=Mv (z:=Nl ?_)))))))))))))
 rw [rep_ints] at hM1_2
 refine WC.block ?_
 refine WC.loop (D:=Int×Value×List Int×List Int) (fun x=>[(3,.slice (some ⟨a1_2,0,none⟩) F.length F.length),(4,x.2.1),(11,.slice (some ⟨f,0,none⟩) F.length cf),(12,.int .i64 F.length),(13,.int .i64 x.1)])
  (fun x s1=>s.next≤s1.next∧0≤x.1∧x.1≤F.length∧matchM F (F.length-x.1.toNat) x.1 x.2.2.1 x.2.2.2=matchesM F∧∃ H1,MatH ro s1 H H1 a1_2 x.2.1 F x.1 x.2.2.1 x.2.2.2)
  (fun x=>F.length-x.1.toNat) (0,.slice none 0 0,[],List.replicate F.length 0) ?_ ?_ ?_
 ·exact Ho
 ·refine ⟨hn1_2,Int.le_refl _,by simp,rfl,_,{ md:=hM1_2,row:=Hp.up_same,sl:=.inl ⟨rfl,rfl,rfl⟩,va:=fun h=>(by cases h),kp:=fun ν o e=>⟨Hp.up_ne (hne1_2 _ _ e) e,hne1_2 _ _ e,fun h=>(by cases h)⟩,inv:={ oO:=fun x h=>(by cases h),len:=by simp,mM:=fun j a b=>by omega },len:=by simp }⟩
 rintro ⟨i,vO,O,M⟩ g s1 ⟨hn1,hi0,hi1,hres,H1,hI⟩
 dsimp only at hn1 hi0 hi1 hres hI ⊢
 have hM1:=hI.md
 have hrow:=hI.row
 have hf1:=(hI.kp _ _ hf).1
 have hfa:=(hI.kp _ _ hf).2.1
 have hlM:=hI.len
 have hol:=hI.inv.len
 refine WC.seq (Rg (Co (Lt (z:=Nl (WC.seq ?_)))))
 refine WC.condD rfl (fun hlt hltb=>?_) (fun hlt hltb=>?_)
 ·rw [show F.length-i.toNat=(F.length-(i+1).toNat)+1 by omega] at hres
  simp only [matchM] at hres
  have hnx:=hI.inv.next hi0 hlt hlM
  refine WC.skip (WC.seq (WC.block (WC.seq (Rg (Mv (z:=Co (Ix (z:=Co (Ld (z:=Av (z:=Av (z:=Nl (WC.seq (Rg (Mv (z:=Mv (z:=Co (Ix (z:=WO.cons0 (Sv (z:=fun s6_3 hn6_3 hM6_3=>Nl ?_)))))))))))))))))))))
  rw [ints_set (by omega) (by omega)] at hM6_3
  have hmM:∀ j:Int,0≤j→j<i→isOpener (rd F j)→rd (M.set i.toNat (-1)) j<0∨(j<rd (M.set i.toNat (-1)) j∧rd (M.set i.toNat (-1)) j<F.length):=fun j a b c=>by
   rw [rd_set hi0 a (by omega),if_neg (by omega)]
   exact hI.inv.mM j a b c
  have hI6:=hI.set (M':=M.set i.toNat (-1)) (i':=i) (O':=O) (v':=vO) hM6_3 (hI.sl.up hI.va) (.inl rfl) { oO:=hI.inv.oO,len:=hI.inv.len,mM:=hmM } (by rw [List.length_set];exact hlM)
  have hlM6:(M.set i.toNat (-1)).length=F.length:=by rw [List.length_set];exact hlM
  refine WC.block (WC.seq (Rg (Mv (z:=Co ?_))))
  refine SV.callM rfl rfl (opener_sp' hX hM6_3) ?_
  rintro v s2 H2 hn2 hM2 ⟨rfl,rfl⟩
  refine Av (z:=Nl ?_)
  refine WC.condD rfl (fun hop hopb=>?_) (fun hop hopb=>?_)
  ·skip
   refine Rg ?_
   refine WO.cons (SV.move ?_) (by decide)
   refine Mv (z:=Co (Bs (z:=fun a8_2 s8_2 hf8_2 hne8_2 hn8_2 hM8_2=>Co ?_)))
   have hvO8:SlO ((H1.up a1_2 (.row 1 ((M.set i.toNat (-1)).map (.int .i64)))).up a8_2 (.row 1 [.int .i64 i])) vO 1 O.length (O.map (.int .i64)):=hI6.sl.up (fun h=>by obtain ⟨o,ho⟩:=hI6.sl.base_some h;exact hne8_2 _ _ ho rfl)
   refine SV.appendM (t:=23) (u:=23) (e:=3) (e':=3) (sz:=1) (sz':=1) (bytes:=8) (z:=[.int .i64 0]) (n:=O.length) (m:=1) (vs:=O.map (.int .i64)) (xs:=[.int .i64 i]) rfl (by assumption) rfl rfl hvO8
    (Src.row Hp.up_same rfl rfl (fun j v h=>by rw [Nat.zero_add];exact h)) rfl (by have:=hI.inv.len;omega) (fun v8 s8 H8 hn8 hM8 hv8 hk8 hnew8 _=>?_)
   refine WO.cons (SV.assign ?_) (by decide)
   refine Nl (Rg (Co (Ad (z:=Mv (z:=Nl ?_)))))
   have e1:matchO F i O=O++[i]:=by unfold matchO;rw [if_pos hop]
   have e2:matchS F i O M=M.set i.toNat (-1):=by unfold matchS;rw [if_pos hop]
   rw [e1,e2] at hres hnx
   have hI8:MatH ro s8 H H8 a1_2 v8 F (i+1) (O++[i]) (M.set i.toNat (-1)):=
    {md:=hM8,row:=hk8 _ _ (Hp.up_ne (hne8_2 _ _ hI6.row) hI6.row) hI6.va,sl:=by simpa using hv8
     va:=fun h=>by
      rcases hnew8 _ h with h1 | h1
      ·exact hI6.va h1
      ·rw [Hp.up_ne (hne8_2 _ _ hI6.row) hI6.row] at h1;cases h1
     kp:=fun ν o e=>⟨hk8 _ _ (Hp.up_ne (hne8_2 _ _ (hI6.kp ν o e).1) (hI6.kp ν o e).1) (hI6.kp ν o e).2.2,(hI6.kp ν o e).2.1,fun h=>by
      rcases hnew8 _ h with h1 | h1
      ·exact (hI6.kp ν o e).2.2 h1
      ·rw [Hp.up_ne (hne8_2 _ _ (hI6.kp ν o e).1) (hI6.kp ν o e).1] at h1;cases h1⟩
     inv:=hnx,len:=hlM6 }
   exact ⟨rfl,(i+1,v8,O++[i],M.set i.toNat (-1)),Ho,⟨by omega,by dsimp only;omega,by dsimp only;omega,hres,_,hI8⟩,by dsimp only;omega⟩
  refine WC.seq (Rg (Mv (z:=Co (Ei (z:=Av (z:=Nl ?_))))))
  refine WC.condD rfl (fun h10 h10b=>?_) (fun h10 h10b=>?_)
  ·skip
   refine Rg (Av (z:=Nl (Rg (Co (Ad (z:=Mv (z:=Nl ?_)))))))
   have e1:matchO F i O=[]:=by unfold matchO;rw [if_neg hop,if_pos h10]
   have e2:matchS F i O M=M.set i.toNat (-1):=by unfold matchS;rw [if_neg hop,if_pos h10]
   rw [e1,e2] at hres hnx
   exact ⟨rfl,(i+1,.slice none 0 0,[],M.set i.toNat (-1)),Ho,⟨by omega,by dsimp only;omega,by dsimp only;omega,hres,_,hI.set hM2 (.inl ⟨rfl,rfl,rfl⟩) (.inr rfl) hnx hlM6⟩,by dsimp only;omega⟩
  have hsl:=hI.sl
  refine WC.seq (Rg (Mv (z:=Co (Ei (z:=Mv (z:=?_))))))
  refine WO.guardDT rfl rfl rfl (fun hg11_3 hh11_3=>SV.move ?_) (fun hg11_3 hh11_3=>?_) (by decide)
  all_goals (first | refine Gy (z:=Lo (z:=?_)) | refine Gn (z:=?_))
  all_goals (first | refine Gy (z:=Gt (z:=?_)) | refine Gn (z:=?_))
  all_goals (first | refine Co (Pt (z:=?_)) | refine Co (Pf (z:=?_)))
  all_goals refine Av (z:=Nl ?_)
  ·skip
   refine WC.condD rfl (fun hp hpb=>?_) (fun hp hpb=>?_)
   ·obtain ⟨ν,c,hv⟩:=hsl.nonnil (by omega)
    subst hv
    have hlast:=hI.inv.oO _ (lastI_mem (by omega))
    obtain ⟨ws,hν,hwl,hnc,htk⟩:∃ ws,H1 ν=some (.row 1 ws)∧ws.length=c*1∧O.length≤c∧O.map (.int .i64)=ws.take (O.length*1):=by
     rcases hsl with ⟨h,_⟩ | ⟨ν',c',ws,h,h1,h2,h3,h4⟩
     ·cases h
     ·cases h;exact ⟨ws,h1,h2,h3,h4⟩
    have hνa:ν≠a1_2:=fun h=>hI.va (by rw [←h];rfl)
    have hget:ws[0+((O.length:Int)-1).toNat*1]?=some (.int .i64 (lastI O)):=by
     have h1:=ints_get0 (L:=O) (i:=(O.length:Int)-1) (by omega) (by omega)
     rw [htk,List.getElem?_take,if_pos (by omega)] at h1
     exact h1
    have hν2:(H1.up a1_2 (.row 1 ((M.set i.toNat (-1)).map (.int .i64)))) ν=some (.row 1 ws):=Hp.up_ne hνa hν
    refine WC.seq (Rg (Mv (z:=Co (Ln (z:=Co (Sb (z:=Av (z:=Nl (WC.seq (WC.dr [0,1,2,3,4,5,6,7,8,9,10,11,12,13,14,15] (z:=Mw (z:=Mw (z:=Mw (z:=Mw (z:=Mw (z:=Cd (Ix (z:=Cd (Ld (z:=Mw (z:=Mw (z:=Cd (Ix (z:=Cd (Ld (z:=Mw (z:=Cd (Ix (z:=WD.cons0 (Sv (z:=fun s13_13 hn13_13 hM13_13=>Cd (Ix (z:=WD.cons0 (Sv (z:=fun s13_15 hn13_15 hM13_15=>Nz ?_)))))))))))))))))))))))))))))))))))
    rw [ints_set (by omega) (by simp only [List.length_set];omega),Hp.up_up] at hM13_13
    rw [Hp.up_up,ints_set (by omega) (by simp only [List.length_set];omega),ints_set (by omega) (by simp only [List.length_set];omega),Hp.up_up] at hM13_15
    have e1:matchO F i O=O.take (O.length-1):=by unfold matchO;rw [if_neg hop,if_neg h10,if_pos ⟨by omega,by omega⟩]
    have e2:matchS F i O M=((M.set i.toNat (-1)).set i.toNat (lastI O)).set (lastI O).toNat i:=by unfold matchS;rw [if_neg hop,if_neg h10,if_pos ⟨by omega,by omega⟩]
    rw [e1,e2] at hres hnx
    refine Rg (Mv (z:=Mv (z:=Co ?_)))
    refine SV.sliceTo (by assumption) rfl (hI.sl.up hI.va) rfl ⟨by omega,by omega⟩ (fun v5 hv5 hb5=>?_)
    rw [show ((O.length:Int)-1).toNat=O.length-1 by omega] at hv5
    refine WO.cons (SV.assign ?_) (by decide)
    refine Nl (Rg (Co (Ad (z:=Mv (z:=Nl ?_)))))
    exact ⟨rfl,(i+1,v5,O.take (O.length-1),((M.set i.toNat (-1)).set i.toNat (lastI O)).set (lastI O).toNat i),Ho,⟨by omega,by dsimp only;omega,by dsimp only;omega,hres,_,
     hI.set hM13_15 (by rw [List.length_take,Nat.min_eq_left (by omega),List.map_take];rw [Nat.mul_one] at hv5;exact hv5) (.inl hb5) hnx (by simp only [List.length_set];exact hlM)⟩,by dsimp only;omega⟩
   ·refine WC.skip (Rg (Co (Ad (z:=Mv (z:=Nl ?_)))))
    have e1:matchO F i O=O:=by unfold matchO;rw [if_neg hop,if_neg h10,if_neg (fun h=>hp (by omega))]
    have e2:matchS F i O M=M.set i.toNat (-1):=by unfold matchS;rw [if_neg hop,if_neg h10,if_neg (fun h=>hp (by omega))]
    rw [e1,e2] at hres hnx
    exact ⟨rfl,(i+1,vO,O,M.set i.toNat (-1)),Ho,⟨by omega,by dsimp only;omega,by dsimp only;omega,hres,_,hI.set hM2 (hI.sl.up hI.va) (.inl rfl) hnx hlM6⟩,by dsimp only;omega⟩
  ·refine Cf (z:=WC.skip (Rg (Co (Ad (z:=Mv (z:=Nl ?_))))))
   have e1:matchO F i O=O:=by unfold matchO;rw [if_neg hop,if_neg h10,if_neg (fun h=>by omega)]
   have e2:matchS F i O M=M.set i.toNat (-1):=by unfold matchS;rw [if_neg hop,if_neg h10,if_neg (fun h=>by omega)]
   rw [e1,e2] at hres hnx
   exact ⟨rfl,(i+1,vO,O,M.set i.toNat (-1)),Ho,⟨by omega,by dsimp only;omega,by dsimp only;omega,hres,_,hI.set hM2 (hI.sl.up hI.va) (.inl rfl) hnx hlM6⟩,by dsimp only;omega⟩
 ·refine WC.exit (WC.seq (Rg (Mv (z:=Av (z:=Nl (WC.ret ?_))))))
  rw [show F.length-i.toNat=0 by omega] at hres
  simp only [matchM] at hres
  refine fin_one (e:=.ret) (v:=.slice _ _ _) rfl trivial rfl hn1 (hM1.sub (H':=H.up a1_2 (.row 1 ((matchesM F).map (.int .i64)))) fun μ o e=>?_) ⟨a1_2,rfl,hne1_2,rfl⟩
  unfold Hp.up at e
  by_cases hm:μ=a1_2
  ·rw [if_pos hm] at e;cases e;rw [hm,←hres];exact hrow
  ·rw [if_neg hm] at e;exact (hI.kp μ o e).1
def rd2 (L:List (Int×Int)) (i:Int):Int×Int:=L.getD i.toNat (0,0)
def findJ (code:Int) (Op:List (Int×Int)):Nat→Option Nat
 | 0=>none
 | j+1=>if (rd2 Op j).2=code then some j else findJ code Op j
theorem findJ_lt {code:Int} {Op:List (Int×Int)}:∀ (n j:Nat),findJ code Op n=some j→j<n
 | 0,j,h=>by cases h
 | n+1,j,h=>by
  simp only [findJ] at h
  split at h
  ·cases h;omega
  ·have:=findJ_lt n j h;omega
def pairsM (Y:Exts) (C A N:List Int):Nat→Int→List (Int×Int)→List (Int×Int)→Option (List (Int×Int))
 | 0,_,out,_=>some out
 | r+1,k,out,op=>
  if rd N (rd A k)≠13∨Y.BK (rd C (rd A k))=0 then pairsM Y C A N r (k+1) out op
  else if Y.BK (rd C (rd A k))=1∧63≤op.length then none
  else if Y.BK (rd C (rd A k))=1 then pairsM Y C A N r (k+1) out (op++[(k,Y.BO (rd C (rd A k)))])
  else match findJ (rd C (rd A k)) op op.length with
   | some j=>pairsM Y C A N r (k+1) (out++[((rd2 op j).1,k)]) (op.take j)
   | none=>pairsM Y C A N r (k+1) out op
def pairsR (Y:Exts) (C A N:List Int):List (Int×Int):=match pairsM Y C A N A.length 0 [] [] with | some out=>Y.SM out | none=>[]
theorem rd2_mem {L:List (Int×Int)} {j:Nat} (h:j<L.length):rd2 L j∈L:=by
 unfold rd2
 rw [List.getD_eq_getElem?_getD,show ((j:Nat):Int).toNat=j by omega,List.getElem?_eq_getElem h]
 exact List.getElem_mem _
theorem pairsM_nodup {Y:Exts} {C A N:List Int}:∀ (r:Nat) (k:Int) (out op res:List (Int×Int)),(out.map Prod.fst++op.map Prod.fst).Nodup→(∀ x∈out.map Prod.fst++op.map Prod.fst,x<k)→pairsM Y C A N r k out op=some res→(res.map Prod.fst).Nodup
 | 0,k,out,op,res,hd,_,h=>by cases h;exact (List.nodup_append.mp hd).1
 | r+1,k,out,op,res,hd,hl,h=>by
  have hl1:∀ x∈out.map Prod.fst++op.map Prod.fst,x<k+1:=fun x hx=>by have:=hl x hx;omega
  simp only [pairsM] at h
  split at h
  ·exact pairsM_nodup r _ _ _ _ hd hl1 h
  split at h
  ·cases h
  split at h
  ·refine pairsM_nodup r _ _ _ _ ?_ (fun x hx=>?_) h
   ·rw [List.map_append,←List.append_assoc]
    refine List.nodup_append.mpr ⟨hd,by simp,fun a ha b hb=>?_⟩
    simp only [List.map_cons,List.map_nil,List.mem_singleton] at hb
    have:=hl a ha;omega
   ·rw [List.map_append,←List.append_assoc] at hx
    rcases List.mem_append.mp hx with hx | hx
    ·exact hl1 x hx
    ·simp only [List.map_cons,List.map_nil,List.mem_singleton] at hx;omega
  split at h
  ·rename_i j hj
   have hjl:=findJ_lt _ _ hj
   have hmem:(rd2 op j).1∈(op.map Prod.fst):=List.mem_map.mpr ⟨_,rd2_mem hjl,rfl⟩
   have e:op.map Prod.fst=(op.take j).map Prod.fst++((rd2 op j).1::(op.drop (j+1)).map Prod.fst):=by
    have e1:op[j]=rd2 op j:=by unfold rd2;rw [List.getD_eq_getElem?_getD,show ((j:Nat):Int).toNat=j by omega,List.getElem?_eq_getElem hjl];rfl
    conv=>lhs;rw [←List.take_append_drop j op,List.drop_eq_getElem_cons hjl,e1]
    simp
   have hsub:((out++[((rd2 op j).1,k)]).map Prod.fst++(op.take j).map Prod.fst).Perm (out.map Prod.fst++((op.take j).map Prod.fst++[(rd2 op j).1])):=by
    rw [List.map_append,List.append_assoc]
    exact List.Perm.append_left _ List.perm_append_comm
   have hsl:List.Sublist (out.map Prod.fst++((op.take j).map Prod.fst++[(rd2 op j).1])) (out.map Prod.fst++op.map Prod.fst):=by
    rw [e]
    exact List.Sublist.append_left (List.Sublist.append_left (List.Sublist.cons_cons _ (List.nil_sublist _)) _) _
   refine pairsM_nodup r _ _ _ _ (hsub.nodup_iff.mpr (hsl.nodup hd)) (fun x hx=>hl1 x (hsl.subset (hsub.mem_iff.mp hx))) h
  ·exact pairsM_nodup r _ _ _ _ hd hl1 h
theorem pairsM_rng {Y:Exts} {C A N:List Int}:∀ (r:Nat) (k:Int) (out op res:List (Int×Int)),(∀ x∈out.map Prod.fst++op.map Prod.fst,0≤x∧x<k)→0≤k→pairsM Y C A N r k out op=some res→∀ x∈res.map Prod.fst,0≤x∧x<k+r
 | 0,k,out,op,res,hl,_,h=>fun x hx=>by cases h;have:=hl x (List.mem_append_left _ hx);omega
 | r+1,k,out,op,res,hl,hk,h=>by
  have hl1:∀ x∈out.map Prod.fst++op.map Prod.fst,0≤x∧x<k+1:=fun x hx=>by have:=hl x hx;omega
  have up:(∀ x∈res.map Prod.fst,0≤x∧x<k+1+r)→∀ x∈res.map Prod.fst,0≤x∧x<k+((r+1:Nat):Int):=fun hh x hx=>by have:=hh x hx;omega
  simp only [pairsM] at h
  split at h
  ·exact up (pairsM_rng r _ _ _ _ hl1 (by omega) h)
  split at h
  ·cases h
  split at h
  ·refine up (pairsM_rng r _ _ _ _ (fun x hx=>?_) (by omega) h)
   rw [List.map_append,←List.append_assoc] at hx
   rcases List.mem_append.mp hx with hx | hx
   ·exact hl1 x hx
   ·simp only [List.map_cons,List.map_nil,List.mem_singleton] at hx;omega
  split at h
  ·rename_i j hj
   have hjl:=findJ_lt _ _ hj
   have hmem:(rd2 op j).1∈(op.map Prod.fst):=List.mem_map.mpr ⟨_,rd2_mem hjl,rfl⟩
   refine up (pairsM_rng r _ _ _ _ (fun x hx=>?_) (by omega) h)
   rw [List.map_append,List.append_assoc] at hx
   rcases List.mem_append.mp hx with hx | hx
   ·exact hl1 x (List.mem_append_left _ hx)
   ·rcases List.mem_append.mp hx with hx | hx
    ·simp only [List.map_cons,List.map_nil,List.mem_singleton] at hx
     subst hx
     exact hl1 _ (List.mem_append_right _ hmem)
    ·obtain ⟨y,hy,rfl⟩:=List.mem_map.mp hx
     exact hl1 _ (List.mem_append_right _ (List.mem_map_of_mem (List.mem_of_mem_take hy)))
  ·exact up (pairsM_rng r _ _ _ _ hl1 (by omega) h)
structure FreshV (H H1:Hp) (v:Value):Prop where
 kp:∀ ν o,H ν=some o→H1 ν=some o
 nb:∀ ν o,H ν=some o→baseV v≠some ν
theorem pair_get {H:Hp} {v:Value} {Op:List (Int×Int)} (h:SlO H v 2 Op.length (Op.flatMap enc2)) {j:Int} (h0:0≤j) (h1:j<Op.length) :
 ∃ ν c ws,v = .slice (some ⟨ν,0,none⟩) Op.length c∧H ν=some (.row 2 ws)∧ws[0+j.toNat*2+(0:Int).toNat*1]?=some (.int .i64 (rd2 Op j).1)∧ws[0+j.toNat*2+(1:Int).toNat*1]?=some (.int .i64 (rd2 Op j).2):=by
 obtain ⟨ν,c,ws,hv,hν,_,_,_,hat⟩:=h.at enc2_len rfl (by omega)
 have hj:j.toNat<Op.length:=by omega
 have e:Op[j.toNat]=rd2 Op j:=by unfold rd2;rw [List.getD_eq_getElem?_getD,List.getElem?_eq_getElem hj];rfl
 refine ⟨ν,c,ws,hv,hν,?_,?_⟩
 ·have:=hat j.toNat hj 0 (.int .i64 (rd2 Op j).1) (by rw [e];rfl)
  rw [show 0+j.toNat*2+(0:Int).toNat*1=j.toNat*2+0 by simp];exact this
 ·have:=hat j.toNat hj 1 (.int .i64 (rd2 Op j).2) (by rw [e];rfl)
  rw [show 0+j.toNat*2+(1:Int).toNat*1=j.toNat*2+1 by simp];exact this
theorem src2 {H:Hp} {a es c:Nat} {e:Int×Int} (h:H a=some (.row es (enc2 e))):Src Try.prog ro H (.slice (some ⟨a,0,none⟩) 1 c) 2 1 (enc2 e):=
 Src.row h rfl rfl (fun i v hv=>by rw [Nat.zero_add];exact hv)
structure PairI (ro:Nat) (s1:St) (H:Hp) (vo vp:Value) (k:Int) (out op:List (Int×Int)) (H1:Hp):Prop where
 md:Models ro s1 H1
 o:SlO H1 vo 2 out.length (out.flatMap enc2)
 p:SlO H1 vp 2 op.length (op.flatMap enc2)
 fo:FreshV H H1 vo
 fp:FreshV H H1 vp
 ne:∀ μ,baseV vo=some μ→baseV vp≠some μ
 lo:(out.length:Int)≤k
 lp:(op.length:Int)≤k
theorem PairI.pushP {s1 s2:St} {H H1 H2:Hp} {vo vp v':Value} {k:Int} {out op:List (Int×Int)} {a:Nat} {x:Go.Ab.Obj} {e:Int×Int} (h:PairI ro s1 H vo vp k out op H1) (ha:∀ ν o,H1 ν=some o→ν≠a) (hM:Models ro s2 H2)
 (hv:SlO H2 v' 2 (op.length+1) (op.flatMap enc2++enc2 e)) (hk:KeptBut (H1.up a x) H2 vp) (hn:NewOr (H1.up a x) vp v'):PairI ro s2 H vo v' (k+1) out (op++[e]) H2:=by
 have keep:∀ ν o,H1 ν=some o→baseV vp≠some ν→H2 ν=some o:=fun ν o e1 e2=>hk ν o (Hp.up_ne (ha ν o e1) e1) e2
 have nb:∀ ν o,H1 ν=some o→baseV vp≠some ν→baseV v'≠some ν:=fun ν o e1 e2 e3=>by
  rcases hn ν e3 with h1 | h1
  ·exact e2 h1
  ·rw [Hp.up_ne (ha ν o e1) e1] at h1;cases h1
 refine { md:=hM,o:=?_,p:=(by simpa [List.flatMap_append] using hv),fo:=⟨fun ν o e1=>keep ν o (h.fo.kp ν o e1) (h.fp.nb ν o e1),h.fo.nb⟩,fp:=⟨fun ν o e1=>keep ν o (h.fo.kp ν o e1) (h.fp.nb ν o e1),fun ν o e1=>nb ν o (h.fo.kp ν o e1) (h.fp.nb ν o e1)⟩,ne:=fun μ e1=>?_,lo:=(by have:=h.lo;omega),lp:=(by have:=h.lp;simp only [List.length_append,List.length_singleton];omega) }
 ·rcases h.o with h1 | ⟨ν,c,ws,rfl,h1,h2⟩
  ·exact .inl h1
  ·exact .inr ⟨ν,c,ws,rfl,keep ν _ h1 (h.ne ν rfl),h2⟩
 ·obtain ⟨o,ho⟩:=h.o.base_some e1
  exact nb μ o ho (h.ne μ e1)
theorem PairI.pushO {s1 s2:St} {H H1 H2:Hp} {vo vp v' vp':Value} {k:Int} {out op:List (Int×Int)} {a:Nat} {x:Go.Ab.Obj} {e:Int×Int} {j:Nat} (h:PairI ro s1 H vo vp k out op H1) (ha:∀ ν o,H1 ν=some o→ν≠a) (hM:Models ro s2 H2)
 (hv:SlO H2 v' 2 (out.length+1) (out.flatMap enc2++enc2 e)) (hk:KeptBut (H1.up a x) H2 vo) (hn:NewOr (H1.up a x) vo v') (hp:SlO H2 vp' 2 (op.take j).length ((op.take j).flatMap enc2)) (hb:baseV vp'=baseV vp) :
 PairI ro s2 H v' vp' (k+1) (out++[e]) (op.take j) H2:=by
 have keep:∀ ν o,H1 ν=some o→baseV vo≠some ν→H2 ν=some o:=fun ν o e1 e2=>hk ν o (Hp.up_ne (ha ν o e1) e1) e2
 have nb:∀ ν o,H1 ν=some o→baseV vo≠some ν→baseV v'≠some ν:=fun ν o e1 e2 e3=>by
  rcases hn ν e3 with h1 | h1
  ·exact e2 h1
  ·rw [Hp.up_ne (ha ν o e1) e1] at h1;cases h1
 refine { md:=hM,o:=(by simpa [List.flatMap_append] using hv),p:=hp,fo:=⟨fun ν o e1=>keep ν o (h.fo.kp ν o e1) (h.fo.nb ν o e1),fun ν o e1=>nb ν o (h.fo.kp ν o e1) (h.fo.nb ν o e1)⟩,fp:=⟨fun ν o e1=>keep ν o (h.fo.kp ν o e1) (h.fo.nb ν o e1),fun ν o e1=>(by rw [hb];exact h.fp.nb ν o e1)⟩,ne:=fun μ e1 e2=>?_,lo:=(by have:=h.lo;simp only [List.length_append,List.length_singleton];omega),lp:=(by have:=h.lp;rw [List.length_take];omega) }
 rw [hb] at e2
 obtain ⟨o,ho⟩:=h.p.base_some e2
 exact nb μ o ho (fun e3=>h.ne μ e3 e2) e1
theorem PairI.skip {s1 s2:St} {H H1:Hp} {vo vp:Value} {k:Int} {out op:List (Int×Int)} (h:PairI ro s1 H vo vp k out op H1) (hM:Models ro s2 H1):PairI ro s2 H vo vp (k+1) out op H1:=
 { h with md:=hM,lo:=(by have:=h.lo;omega),lp:=(by have:=h.lp;omega) }
theorem SlO.keep {H H1:Hp} {v:Value} {sz n:Nat} {vs:List Value} (h:SlO H v sz n vs) (hk:∀ ν o,baseV v=some ν→H ν=some o→H1 ν=some o):SlO H1 v sz n vs:=by
 rcases h with h | ⟨ν,c,ws,rfl,h1,h2⟩
 ·exact .inl h
 ·exact .inr ⟨ν,c,ws,rfl,hk _ _ rfl h1,h2⟩
set_option maxHeartbeats 8000000 in
theorem pairs_sp {Y:Exts} {s:St} {H:Hp} {D:TD} {S:SD} (hX:ExtOk X ro Y) (hM:Models ro s H) (hT:TextH H D) (hS:SeqH H D S) :
 Sp X Try.prog ro 68 [.pointer (some ⟨S.q,0,none⟩)] s fun v H'=>FreshV H H' v∧SlO H' v 2 (pairsR Y D.C S.A D.N).length ((pairsR Y D.C S.A D.N).flatMap enc2):=by
 have hbig:=hS.big
 have hbig2:=hT.big
 have hnC:=hT.nC
 obtain ⟨e1,ca,hq⟩:=hS.q
 refine Bo hX.own Try.func68 Try.ntmps68 (z:=?_)
 refine WC.seq (Rg (Av (z:=Nl (WC.seq (Rg (Av (z:=Av (z:=Nl (WC.seq (WC.seq (Rg (Mv (z:=Co (Np (z:=Co (Fa (z:=Co (Ld (z:=Co (Ln (z:=Mv (z:=Nl (WC.block ?_)))))))))))))))))))))))
 have hPR:pairsR Y D.C S.A D.N=match pairsM Y D.C S.A D.N S.A.length 0 [] [] with | some out=>Y.SM out | none=>[]:=rfl
 generalize hRES:pairsM Y D.C S.A D.N S.A.length 0 [] []=RES at hPR
 refine WC.loop (D:=Int×Value×Value×List (Int×Int)×List (Int×Int)) (fun x=>[(0,.pointer (some ⟨S.q,0,none⟩)),(2,.slice none 0 0),(3,x.2.1),(4,x.2.2.1),(13,.slice (some ⟨S.a,0,none⟩) S.A.length ca),(14,.int .i64 S.A.length),(15,.int .i64 x.1)])
  (fun x s1=>s.next≤s1.next∧0≤x.1∧x.1≤S.A.length∧pairsM Y D.C S.A D.N (S.A.length-x.1.toNat) x.1 x.2.2.2.1 x.2.2.2.2=RES∧∃ H1,PairI ro s1 H x.2.1 x.2.2.1 x.1 x.2.2.2.1 x.2.2.2.2 H1)
  (fun x=>S.A.length-x.1.toNat) (0,.slice none 0 0,.slice none 0 0,[],[]) ?_ ?_ ?_
 ·exact Ho
 ·exact ⟨Nat.le_refl _,Int.le_refl _,by simp,hRES,H,{ md:=hM,o:=.inl ⟨rfl,rfl,rfl⟩,p:=.inl ⟨rfl,rfl,rfl⟩,fo:=⟨fun _ _ h=>h,fun _ _ _ h=>(by cases h)⟩,fp:=⟨fun _ _ h=>h,fun _ _ _ h=>(by cases h)⟩,ne:=fun μ h=>(by cases h),lo:=by simp,lp:=by simp }⟩
 rintro ⟨k,vo,vp,out,op⟩ g s1 ⟨hn1,hk0,hk1,hres,H1,hI⟩
 dsimp only at hn1 hk0 hk1 hres hI ⊢
 have hM1:=hI.md
 have ho:=hI.o
 have hp:=hI.p
 have kp:=hI.fo.kp
 have hlo:=hI.lo
 have hlp:=hI.lp
 obtain ⟨e,cc,cf,cw,cl,cm,ht⟩:=hT.t
 obtain ⟨r,ha⟩:=hS.a
 have ht1:=kp _ _ ht
 have ha1:=kp _ _ ha
 have hq1:=kp _ _ hq
 have hc1:=kp _ _ hT.c
 have hT1:TextH H1 D:={ hT with t:=⟨e,cc,cf,cw,cl,cm,ht1⟩,c:=hc1,f:=kp _ _ hT.f,w:=kp _ _ hT.w,l:=kp _ _ hT.l,m:=kp _ _ hT.m,kp:=fun ν o e=>kp _ _ (hT.kp ν o e) }
 have hS1:SeqH H1 D S:={ hS with q:=⟨_,_,hq1⟩,a:=⟨r,ha1⟩ }
 have hl:(S.A++r).length=S.A.length+r.length:=List.length_append
 refine WC.seq (Rg (Co (Lt (z:=Nl (WC.seq ?_)))))
 refine WC.condD rfl (fun hlt hltb=>?_) (fun hlt hltb=>?_)
 ·have hk:=hS.at hk0 hlt
  rw [←rd_app (r:=r) hk0 hlt] at hk
  have ek:rd (S.A++r) k=rd S.A k:=rd_app hk0 hlt
  rw [show S.A.length-k.toNat=(S.A.length-(k+1).toNat)+1 by omega] at hres
  simp only [pairsM] at hres
  refine WC.skip (WC.seq (WC.block (WC.seq (Rg (Mv (z:=Co (Ix (z:=Co (Ld (z:=Av (z:=Av (z:=Nl (WC.seq (Rg (Mv (z:=Co (Np (z:=Co (Fa (z:=Co (Ld (z:=Co (Np (z:=Co (Fa (z:=Co (Ld (z:=Mv (z:=Co (Ix (z:=Co (Ld (z:=Co ?_)))))))))))))))))))))))))))))))))
  refine SV.callM rfl rfl (hX.brk _ _ _ hM1) ?_
  rintro v s2 H2 hn2 hM2 ⟨rfl,rfl⟩
  rw [ek]
  refine Mv (z:=Co (Et (z:=Co (Et (z:=Av (z:=Av (z:=Nl (WC.block (WC.seq (Rg (Mv (z:=Mv (z:=Co ?_)))))))))))))
  refine SV.callM rfl rfl (of_sp hX.own hM2 hT1 hS1 ⟨by omega,by omega⟩) ?_
  rintro v s3 H3 hn3 hM3 ⟨rfl,rfl⟩
  generalize hcode:rd D.C (rd S.A k)=code at hres ⊢
  generalize hcls:rd D.N (rd S.A k)=cls at hres ⊢
  refine Co (Ni (z:=Mv (z:=?_)))
  refine WO.guardDF rfl rfl rfl (fun hg12_5 hh12_5=>SV.moveV (by constructor) ?_) (fun hg12_5 hh12_5=>?_) (by decide)
  all_goals (first | refine Gy (z:=Ei (z:=?_)) | refine Gn (z:=?_))
  all_goals (first | refine Co (Pt (z:=?_)) | refine Co (Pf (z:=?_)))
  all_goals refine Av (z:=Nl ?_)
  ·skip
   refine WC.condD rfl (fun hb0 hb0b=>?_) (fun hb0 hb0b=>?_)
   ·rw [if_pos (.inr hb0)] at hres
    refine WC.skip (Rg (Co (Ad (z:=Mv (z:=Nl ?_)))))
    exact ⟨rfl,(k+1,_,_,_,_),Ho,⟨by omega,by dsimp only;omega,by dsimp only;omega,hres,_,hI.skip hM3⟩,by dsimp only;omega⟩
   ·rw [if_neg (by intro h;rcases h with h | h;exact hg12_5 h;exact hb0 h)] at hres
    refine WC.seq (Rg (Mv (z:=Co (Ei (z:=Mv (z:=?_))))))
    refine WO.guardDT rfl rfl rfl (fun hg13_3 hh13_3=>SV.move ?_) (fun hg13_3 hh13_3=>?_) (by decide)
    all_goals (first | refine Gy (z:=Lo (z:=?_)) | refine Gn (z:=?_))
    all_goals (first | refine Gy (z:=Ge (z:=?_)) | refine Gn (z:=?_))
    all_goals (first | refine Co (Pt (z:=?_)) | refine Co (Pf (z:=?_)))
    all_goals refine Av (z:=Nl ?_)
    ·skip
     refine WC.condD rfl (fun h63 h63b=>?_) (fun h63 h63b=>?_)
     ·rw [if_pos ⟨hg13_3,by omega⟩] at hres
      refine WC.seq (Rg (Av (z:=Nl (WC.ret ?_))))
      refine fin_one (e:=.ret) (v:=.slice none 0 0) rfl trivial rfl (by omega) hM3 ⟨⟨kp,fun ν o e h=>(by cases h)⟩,.inl ⟨rfl,?_,?_⟩⟩
      ·rw [hPR,←hres];rfl
      ·rw [hPR,←hres];rfl
     ·rw [if_neg (by omega),if_pos hg13_3] at hres
      refine WC.seq (Rg (Mv (z:=Co (Ei (z:=Av (z:=Nl (Ct (z:=Rg ?_))))))))
      refine WO.cons (SV.move ?_) (by decide)
      refine Mv (z:=Mv (z:=?_))
      refine WO.cons (SV.buildA rfl ?_) (by decide)
      refine Co (Bs (z:=fun a16_4 s16_4 hf16_4 hne16_4 hn16_4 hM16_4=>Co ?_))
      have hp16:SlO (H3.up a16_4 (.row 2 (enc2 (k,Y.BO code)))) vp 2 op.length (op.flatMap enc2):=hp.up (fun h=>by obtain ⟨o,ho⟩:=hp.base_some h;exact hne16_4 _ _ ho rfl)
      refine SV.appendM (e:=39) (e':=39) (sz:=2) (sz':=2) (n:=op.length) (m:=1) (vs:=op.flatMap enc2) (xs:=enc2 (k,Y.BO code)) rfl (by assumption) rfl rfl hp16 (src2 Hp.up_same) rfl (by omega) (fun v8 s8 H8 hn8 hM8 hv8 hk8 hnew8 _=>?_)
      refine WO.cons (SV.assign ?_) (by decide)
      refine Nl (Rg (Co (Ad (z:=Mv (z:=Nl ?_)))))
      exact ⟨rfl,(k+1,_,_,_,_),Ho,⟨by omega,by dsimp only;omega,by dsimp only;omega,hres,_,hI.pushP hne16_4 hM8 hv8 hk8 hnew8⟩,by dsimp only;omega⟩
    ·refine Cf (z:=WC.seq ?_)
     rw [if_neg (by omega),if_neg hg13_3] at hres
     refine Rg (Mv (z:=Co (Ei (z:=Av (z:=Nl (Cf (z:=WC.seq (Rg ?_))))))))
     refine WO.cons (SV.move ?_) (by decide)
     refine Co (Lo (z:=Co (Sb (z:=Av (z:=Nl (WC.block ?_))))))
     refine WC.loop (D:=Nat) (fun m=>[(0,.pointer (some ⟨S.q,0,none⟩)),(2,.slice none 0 0),(3,vo),(4,vp),(5,.int .i64 k),(6,.int .i64 (rd S.A k)),(9,.int .i64 ((m:Int)-1)),(13,.slice (some ⟨S.a,0,none⟩) S.A.length ca),(14,.int .i64 S.A.length),(15,.int .i64 k)])
      (fun m s4=>s.next≤s4.next∧Models ro s4 H3∧m≤op.length∧findJ code op m=findJ code op op.length) (fun m=>m) op.length ?_ ⟨by omega,hM3,Nat.le_refl _,rfl⟩ ?_
     ·exact Ho
     rintro m g4 s4 ⟨hn4,hM4,hm,hfj⟩
     rcases m with _ | m
     ·simp only [findJ] at hfj
      refine WC.seq (WC.seq (Rg (Mv (z:=Co (Ge (z:=Nl (Cf (z:=WC.exit ?_))))))))
      rw [←hfj] at hres
      refine Rg (Co (Ad (z:=Mv (z:=Nl ?_))))
      exact ⟨rfl,(k+1,_,_,_,_),Ho,⟨by omega,by dsimp only;omega,by dsimp only;omega,hres,_,hI.skip hM4⟩,by dsimp only;omega⟩
     ·have e1:((m+1:Nat):Int)-1=(m:Int):=by push_cast;omega
      rw [e1]
      refine WC.seq (WC.seq (Rg (Mv (z:=Co (Ge (z:=Nl (Ct (z:=WC.skip (WC.seq (WC.block (WC.seq ?_)))))))))))
      obtain ⟨ν,c,ws,hv,hν,hw0,hw1⟩:=pair_get hp (j:=m) (by omega) (by omega)
      subst hv
      simp only [findJ] at hfj
      have hA:=hS1.at hk0 hlt
      have hnC1:=hT1.nC
      refine WC.dr [0,1,2,3,4,5,6,7,8,9,10,11,12,13,14,15] (z:=Mw (z:=Mw (z:=Cd (Ix (z:=Cd (Ia (z:=Cd (Ld (z:=Mw (z:=Cd (Np (z:=Cd (Fa (z:=Cd (Ld (z:=Cd (Np (z:=Cd (Fa (z:=Cd (Ld (z:=Mw (z:=Cd (Ix (z:=Cd (Ld (z:=Cd (Ei (z:=Nz ?_)))))))))))))))))))))))))))))
      refine WC.condD rfl (fun hj hjb=>?_) (fun hj hjb=>?_)
      ·refine WC.seq (Rg ?_)
       refine WO.cons (SV.move ?_) (by decide)
       refine Mv (z:=Mv (z:=Co (Ix (z:=Co (Ia (z:=Co (Ld (z:=Mv (z:=?_)))))))))
       refine WO.cons (SV.buildA rfl ?_) (by decide)
       refine Co (Bs (z:=fun a10_8 s10_8 hf10_8 hne10_8 hn10_8 hM10_8=>Co ?_))
       have ho10:SlO (H3.up a10_8 (.row 2 (enc2 ((rd2 op m).1,k)))) vo 2 out.length (out.flatMap enc2):=ho.up (fun h=>by obtain ⟨o,ho'⟩:=ho.base_some h;exact hne10_8 _ _ ho' rfl)
       refine SV.appendM (e:=39) (e':=39) (sz:=2) (sz':=2) (n:=out.length) (m:=1) (vs:=out.flatMap enc2) (xs:=enc2 ((rd2 op m).1,k)) rfl (by assumption) rfl rfl ho10 (src2 Hp.up_same) rfl (by omega) (fun v8 s8 H8 hn8 hM8 hv8 hk8 hnew8 _=>?_)
       refine WO.cons (SV.assign ?_) (by decide)
       refine Nl ?_
       have hp8:=SlO.keep hp (H1:=H8) (fun μ o e1 e2=>hk8 _ _ (Hp.up_ne (hne10_8 _ _ e2) e2) (fun e3=>hI.ne _ e3 e1))
       refine WC.seq (Rg (Mv (z:=Mv (z:=Co ?_))))
       refine SV.sliceTo (by assumption) rfl hp8 rfl ⟨by omega,by omega⟩ (fun v9 hv9 hb9=>?_)
       rw [show ((m:Int)).toNat=m by omega,flat_take enc2 2 enc2_len] at hv9
       have e9:(op.take m).length=m:=by rw [List.length_take];omega
       refine WO.cons (SV.assign ?_) (by decide)
       refine Nl ?_
       rw [←hfj,if_pos (by omega)] at hres
       dsimp only at hres
       refine WC.exit (Rg (Co (Ad (z:=Mv (z:=Nl ?_)))))
       exact ⟨rfl,(k+1,_,_,_,_),Ho,⟨by omega,by dsimp only;omega,by dsimp only;omega,hres,_,hI.pushO hne10_8 hM8 hv8 hk8 hnew8 (by rw [e9];exact hv9) hb9⟩,by dsimp only;omega⟩
      ·refine WC.skip (Rg (Mv (z:=Co (Sb (z:=Av (z:=Nl ?_))))))
       rw [if_neg (by omega)] at hfj
       exact ⟨rfl,m,Ho,⟨by omega,hM4,by omega,hfj⟩,by omega⟩
  ·refine Ct (z:=WC.skip ?_)
   rw [if_pos (.inl hg12_5)] at hres
   refine Rg (Co (Ad (z:=Mv (z:=Nl ?_))))
   exact ⟨rfl,(k+1,_,_,_,_),Ho,⟨by omega,by dsimp only;omega,by dsimp only;omega,hres,_,hI.skip hM3⟩,by dsimp only;omega⟩
 ·refine WC.exit (WC.seq ?_)
  rw [show S.A.length-k.toNat=0 by omega] at hres
  simp only [pairsM] at hres
  rw [←hres] at hPR
  dsimp only at hPR
  rw [hPR]
  have hlen2:(Y.SM out).length=out.length:=(hX.perm out).length_eq
  rcases ho with ⟨rfl,hl0,_⟩ | ⟨ν,c,ws,rfl,hν,hw,hnc,htk⟩
  ·skip
   refine Rg (Mv (z:=Co ?_))
   refine SV.callM rfl rfl (hX.sort0 _ _ hM1) ?_
   rintro v s2 H2 hn2 hM2 ⟨rfl,rfl⟩
   refine Nl (WC.seq (Rg (Mv (z:=Av (z:=Nl (WC.ret ?_))))))
   refine fin_one (e:=.ret) (v:=.slice none 0 0) rfl trivial rfl (by omega) hM2 ⟨⟨kp,fun ν o e h=>(by cases h)⟩,.inl ⟨rfl,by omega,?_⟩⟩
   rw [List.length_eq_zero_iff.mp (hlen2.trans hl0)];rfl
  ·skip
   refine Rg (Mv (z:=Co ?_))
   refine SV.callM rfl rfl (hX.sort _ _ ν out.length c out ws hM1 hν hw hnc rfl (by omega) htk.symm (pairsM_nodup _ 0 [] [] out (by simp) (by simp) (hRES.trans hres.symm)) (fun x hx=>by have:=pairsM_rng _ 0 [] [] out (by simp) (Int.le_refl _) (hRES.trans hres.symm) x hx;omega)) ?_
   rintro v s2 H2 hn2 hM2 ⟨rfl,rfl⟩
   refine Nl (WC.seq (Rg (Mv (z:=Av (z:=Nl (WC.ret ?_))))))
   refine fin_one (e:=.ret) (v:=.slice _ _ _) rfl trivial rfl (by omega) hM2 ⟨⟨fun μ o e1=>?_,hI.fo.nb⟩,.inr ⟨ν,c,_,by rw [hlen2],Hp.up_same,?_,by omega,?_⟩⟩
   ·exact Hp.up_ne (fun e2=>hI.fo.nb _ _ e1 (by rw [e2];rfl)) (kp _ _ e1)
   ·rw [List.length_append,flat_length enc2 2 enc2_len,List.length_drop,hlen2];omega
   ·rw [List.take_append_of_le_length (by rw [flat_length enc2 2 enc2_len];omega),List.take_of_length_le (by rw [flat_length enc2 2 enc2_len];omega)]
def PairOk (n:Nat) (P:List (Int×Int)):Prop:=∀ x∈P,0≤x.1∧x.1<n∧0≤x.2∧x.2<n
theorem pairsM_ok {Y:Exts} {C A N:List Int} {n:Nat}:∀ (r:Nat) (k:Int) (out op res:List (Int×Int)),0≤k→k+r≤n→PairOk n out→(∀ x∈op,0≤x.1∧x.1<k)→pairsM Y C A N r k out op=some res→PairOk n res
 | 0,k,out,op,res,_,_,ho,_,h=>by cases h;exact ho
 | r+1,k,out,op,res,h0,hn,ho,hp,h=>by
  have hp1:∀ x∈op,0≤x.1∧x.1<k+1:=fun x hx=>by have:=hp x hx;omega
  simp only [pairsM] at h
  split at h
  ·exact pairsM_ok r _ _ _ _ (by omega) (by push_cast at hn;omega) ho hp1 h
  split at h
  ·cases h
  split at h
  ·refine pairsM_ok r _ _ _ _ (by omega) (by push_cast at hn;omega) ho (fun x hx=>?_) h
   rcases List.mem_append.mp hx with hx | hx
   ·exact hp1 x hx
   ·rw [List.mem_singleton] at hx;subst hx;dsimp only;omega
  split at h
  ·rename_i j hj
   have h1:=hp _ (rd2_mem (findJ_lt _ _ hj))
   refine pairsM_ok r _ _ _ _ (by omega) (by push_cast at hn;omega) (fun x hx=>?_) (fun x hx=>hp1 x (List.mem_of_mem_take hx)) h
   rcases List.mem_append.mp hx with hx | hx
   ·exact ho x hx
   ·rw [List.mem_singleton] at hx;subst hx;dsimp only;push_cast at hn;omega
  ·exact pairsM_ok r _ _ _ _ (by omega) (by push_cast at hn;omega) ho hp1 h
theorem pairsM_len {Y:Exts} {C A N:List Int} {n:Nat}:∀ (r:Nat) (k:Int) (out op res:List (Int×Int)),0≤k→k+r≤n→out.length≤k→pairsM Y C A N r k out op=some res→res.length≤n
 | 0,k,out,op,res,_,hn,ho,h=>by cases h;omega
 | r+1,k,out,op,res,h0,hn,ho,h=>by
  push_cast at hn
  simp only [pairsM] at h
  split at h
  ·exact pairsM_len r _ _ _ _ (by omega) (by omega) (by omega) h
  split at h
  ·cases h
  split at h
  ·exact pairsM_len r _ _ _ _ (by omega) (by omega) (by omega) h
  split at h
  ·exact pairsM_len r _ _ _ _ (by omega) (by omega) (by rw [List.length_append,List.length_singleton];omega) h
  ·exact pairsM_len r _ _ _ _ (by omega) (by omega) (by omega) h
theorem pairsR_len {Y:Exts} {C A N:List Int} (hp:∀ L,(Y.SM L).Perm L):(pairsR Y C A N).length≤A.length:=by
 unfold pairsR
 split
 ·rename_i out h
  rw [(hp out).length_eq]
  exact pairsM_len (n:=A.length) A.length 0 [] [] out (Int.le_refl _) (by omega) (by simp) h
 ·exact Nat.zero_le _
theorem pairsR_ok {ro:Nat} {Y:Exts} {C A N:List Int} (hp:∀ L,(Y.SM L).Perm L):PairOk A.length (pairsR Y C A N):=by
 unfold pairsR
 split
 ·rename_i out h
  have:=pairsM_ok (n:=A.length) A.length 0 [] [] out (Int.le_refl _) (by omega) (fun x h=>by cases h) (fun x h=>by cases h) h
  exact fun x hx=>this x ((hp out).mem_iff.mp hx)
 ·exact fun x h=>by cases h
def scanM (A N:List Int) (dir:Int):Nat→Int→Bool→Bool→Bool×Bool
 | 0,_,f,o=>(f,o)
 | r+1,k,f,o=>scanM A N dir r (k+1) (f||decide (sideM (rd N (rd A k))=dir)) (o||decide (sideM (rd N (rd A k))=1-dir))
def trailM (A F:List Int) (to:Int):Nat→Int→List Int→List Int
 | 0,_,N=>N
 | r+1,k,N=>if rd F (rd A k)=8 then trailM A F to r (k+1) (becomeM A N k to) else N
theorem trailM_length {A F:List Int} {to:Int}:∀ (r:Nat) (k:Int) (N:List Int),(trailM A F to r k N).length=N.length
 | 0,_,_=>rfl
 | r+1,k,N=>by
  simp only [trailM]
  split
  ·exact (trailM_length r _ _).trans becomeM_length
  ·rfl
def bothM (A F:List Int) (to:Int):List Int→List Int→List Int
 | [],N=>N
 | i::is,N=>bothM A F to is (trailM A F to (A.length-(i+1).toNat) (i+1) (becomeM A N i to))
theorem bothM_length {A F:List Int} {to:Int}:∀ (is N:List Int),(bothM A F to is N).length=N.length
 | [],_=>rfl
 | i::is,N=>(bothM_length is _).trans ((trailM_length _ _ _).trans becomeM_length)
def bracM (A F:List Int) (dir st:Int):List (Int×Int)→List Int→List Int
 | [],N=>N
 | p::P,N=>
  let s:=scanM A N dir (p.2-(p.1+1)).toNat (p.1+1) false false
  if s.1=false∧s.2=false then bracM A F dir st P N
  else if s.1=false∧aheadM A N st p.1.toNat=1-dir then bracM A F dir st P (bothM A F (1-dir) [p.1,p.2] N)
  else bracM A F dir st P (bothM A F dir [p.1,p.2] N)
def bracketsM (Y:Exts) (C A F:List Int) (lv st:Int) (N:List Int):List Int:=bracM A F (lv%2) st (pairsR Y C A N) N
theorem bracM_length {A F:List Int} {dir st:Int}:∀ (P:List (Int×Int)) (N:List Int),(bracM A F dir st P N).length=N.length
 | [],_=>rfl
 | p::P,N=>by
  simp only [bracM]
  repeat' split
  ·exact bracM_length P N
  ·exact (bracM_length P _).trans (bothM_length _ _)
  ·exact (bracM_length P _).trans (bothM_length _ _)
theorem TextH.grow {H H1:Hp} {D:TD} (h:TextH H D) (hk:∀ ν o,H ν=some o→H1 ν=some o):TextH H1 D:=by
 obtain ⟨e,cc,cf,cw,cl,cm,ht⟩:=h.t
 exact { h with
  t:=⟨e,cc,cf,cw,cl,cm,hk _ _ ht⟩,c:=hk _ _ h.c,f:=hk _ _ h.f,w:=hk _ _ h.w,l:=hk _ _ h.l,m:=hk _ _ h.m,kp:=fun ν o e=>hk _ _ (h.kp ν o e) }
theorem SeqH.grow {H H1:Hp} {D:TD} {S:SD} (h:SeqH H D S) (hk:∀ ν o,H ν=some o→H1 ν=some o):SeqH H1 D S:=by
 obtain ⟨e,ca,hq⟩:=h.q
 obtain ⟨r,ha⟩:=h.a
 exact { h with q:=⟨e,ca,hk _ _ hq⟩,a:=⟨r,hk _ _ ha⟩ }
theorem Hp.up_comm {H:Hp} {a b:Nat} {x y:Go.Ab.Obj} (h:a≠b):(H.up b y).up a x=(H.up a x).up b y:=by
 funext μ
 unfold Hp.up
 by_cases h1:μ=a
 ·rw [if_pos h1,if_neg (fun e=>h (h1.symm.trans e)),if_pos h1]
 ·rw [if_neg h1,if_neg h1]
set_option maxHeartbeats 8000000 in
theorem brackets_sp {Y:Exts} {s:St} {H:Hp} {D:TD} {S:SD} (hX:ExtOk X ro Y) (hM:Models ro s H) (hT:TextH H D) (hS:SeqH H D S) :
 Sp X Try.prog ro 41 [.pointer (some ⟨S.q,0,none⟩)] s fun v H'=>v = .tuple #[]∧H'=H.up D.w (.row 1 ((bracketsM Y D.C S.A D.F S.lv S.st D.N).map (.int .i64))):=by
 have hbig:=hS.big
 have hbig2:=hT.big
 have hX0:=hX.own
 obtain ⟨e1,ca,hq⟩:=hS.q
 refine Bo hX.own Try.func41 Try.ntmps41 (z:=?_)
 refine WC.seq (Rg (Mv (z:=Co (Np (z:=Co (Fa (z:=Co (Ld (z:=Co ?_)))))))))
 refine SV.callM rfl rfl (direction_sp hX0 hM) ?_
 rintro v s1 H1 hn1 hM1 ⟨rfl,rfl⟩
 refine Av (z:=Nl (WC.seq (Rg (Mv (z:=Co ?_)))))
 refine SV.callM rfl rfl (pairs_sp hX hM1 hT hS) ?_
 rintro vp s2 H0 hn2 hM2 ⟨hfr,hvp⟩
 have hok:PairOk S.A.length (pairsR Y D.C S.A D.N):=pairsR_ok (ro:=ro) hX.perm
 have hPl:(pairsR Y D.C S.A D.N).length≤S.A.length:=pairsR_len hX.perm
 unfold bracketsM
 generalize hPP:pairsR Y D.C S.A D.N=PP at hvp hok hPl
 have hT0:TextH H0 D:=hT.grow hfr.kp
 have hS0:SeqH H0 D S:=hS.grow hfr.kp
 generalize hdir:S.lv%2=dir
 have hdb:0≤dir∧dir<2:=by omega
 have hvw:baseV vp≠some D.w:=hfr.nb _ _ hT.w
 refine Co (Lo (z:=Mv (z:=Nl (WC.block ?_))))
 refine WC.loop (D:=Int×List Int) (fun x=>[(0,.pointer (some ⟨S.q,0,none⟩)),(2,.int .i64 dir),(19,vp),(20,.int .i64 PP.length),(21,.int .i64 x.1)])
  (fun x s1=>s.next≤s1.next∧Models ro s1 (H0.up D.w (.row 1 (x.2.map (.int .i64))))∧x.2.length=D.n∧0≤x.1∧x.1≤PP.length∧bracM S.A D.F dir S.st (PP.drop x.1.toNat) x.2=bracM S.A D.F dir S.st PP D.N)
  (fun x=>PP.length-x.1.toNat) (0,D.N) ?_ ⟨by omega,by rw [Hp.up_self hT0.w];exact hM2,hT.nN,Int.le_refl _,by simp,rfl⟩ ?_
 ·exact Ho
 rintro ⟨i,N⟩ g s3 ⟨hn3,hM3,hN,hi0,hi1,hres⟩
 dsimp only at hn3 hM3 hN hi0 hi1 hres ⊢
 have hvp3:SlO (H0.up D.w (.row 1 (N.map (.int .i64)))) vp 2 PP.length (PP.flatMap enc2):=hvp.up hvw
 refine WC.seq (Rg (Co (Lt (z:=Nl (WC.seq ?_)))))
 refine WC.condD rfl (fun hlt hltb=>?_) (fun hlt hltb=>?_)
 ·have hj:i.toNat<PP.length:=by omega
  obtain ⟨ν,c,ws,hv,hν,hwl,hnc,htk,hat⟩:=hvp.at enc2_len rfl (by omega)
  subst hv
  have hν3:(H0.up D.w (.row 1 (N.map (.int .i64)))) ν=some (.row 2 ws):=Hp.up_ne (fun e=>hvw (by rw [←e];rfl)) hν
  have hab:=hok _ (List.getElem_mem hj)
  have hwa:=hat _ hj
  rw [List.drop_eq_getElem_cons hj,show i.toNat+1=(i+1).toNat by omega] at hres
  rcases hpe:PP[i.toNat] with ⟨a,b⟩
  rw [hpe] at hab hwa hres
  dsimp only at hab
  simp only [bracM] at hres
  refine WC.skip (WC.seq (WC.block (WC.seq (Rg (Co (Ix (z:=Co ?_)))))))
  refine SV.loadMA (l:=[.int .i64 a,.int .i64 b]) (by assumption) rfl hν3 rfl (fun t u hu=>by have:=hwa t u hu;rw [Nat.zero_add];exact this) ?_
  refine Co (Al (z:=fun a3_2 s3_2 hf3_2 hne3_2 hn3_2 hM3_2=>?_))
  refine WO.cons0 (SV.storeMA (by assumption) rfl rfl rfl rfl (by exact Hp.up_same) (by (simp;done)) (fun s3_3 hn3_3 hM3_3=>?_))
  refine Nl ?_
  have hne0:∀ ν o,H0 ν=some o→ν≠a3_2:=fun ν o e=>by
   by_cases h:ν=D.w
   ·exact hne3_2 ν _ (by rw [h];exact Hp.up_same)
   ·exact hne3_2 _ _ (Hp.up_ne h e)
  have haw:a3_2≠D.w:=(hne0 _ _ hT0.w).symm
  have hM4:Models ro s3_3 ((H0.up a3_2 (.row 0 [.int .i64 a,.int .i64 b])).up D.w (.row 1 (N.map (.int .i64)))):=by
   rw [Hp.up_up] at hM3_3
   rw [←Hp.up_comm haw]
   exact hM3_3
  have hTq:=hT0.fresh (x:=.row 0 [.int .i64 a,.int .i64 b]) hne0
  have hSq:=hS0.fresh (x:=.row 0 [.int .i64 a,.int .i64 b]) hne0
  have drop:∀ {s':St} {y},Models ro s' ((H0.up a3_2 (.row 0 [.int .i64 a,.int .i64 b])).up D.w y)→Models ro s' (H0.up D.w y):=fun h=>Models.drop h hne0
  have hbxq:(H0.up a3_2 (.row 0 [.int .i64 a,.int .i64 b])) a3_2=some (.row 0 [.int .i64 a,.int .i64 b]):=Hp.up_same
  generalize hHq:H0.up a3_2 (.row 0 [.int .i64 a,.int .i64 b])=Hq at hM4 hTq hSq drop hbxq
  have hbx4:(Hq.up D.w (.row 1 (N.map (.int .i64)))) a3_2=some (.row 0 [.int .i64 a,.int .i64 b]):=Hp.up_ne haw hbxq
  have hT4:=hTq.setN hN
  have hS4:=hSq.setN (o:=.row 1 (N.map (.int .i64))) (N':=N)
  clear hM3_3
  refine WC.seq (Rg (Av (z:=Av (z:=Nl (WC.seq (WC.seq (Rg (Co (Ia (z:=Co (Ld (z:=Co (Ad (z:=Av (z:=Nl (WC.block ?_))))))))))))))))
  generalize hSC:scanM S.A N dir (b-(a+1)).toNat (a+1) false false=SC at hres
  refine WC.loop (D:=Int×Bool×Bool) (fun x=>[(0,.pointer (some ⟨S.q,0,none⟩)),(2,.int .i64 dir),(4,.pointer (some ⟨a3_2,0,none⟩)),(5,.bool x.2.1),(6,.bool x.2.2),(7,.int .i64 x.1),(19,.slice (some ⟨ν,0,none⟩) PP.length c),(20,.int .i64 PP.length),(21,.int .i64 i)])
   (fun x s5=>s.next≤s5.next∧Models ro s5 (Hq.up D.w (.row 1 (N.map (.int .i64))))∧0≤x.1∧scanM S.A N dir (b-x.1).toNat x.1 x.2.1 x.2.2=SC)
   (fun x=>(b-x.1).toNat) (a+1,false,false) ?_ ⟨by omega,hM4,by dsimp only;omega,hSC⟩ ?_
  ·exact Ho
  rintro ⟨k,f,o⟩ g5 s5 ⟨hn5,hM5,hk0,hsc⟩
  dsimp only at hn5 hM5 hk0 hsc ⊢
  refine WC.seq (WC.seq (Rg (Mv (z:=Co (Ia (z:=Co (Ld (z:=Co (Lt (z:=Nl ?_))))))))))
  refine WC.condD rfl (fun hkb hkbb=>?_) (fun hkb hkbb=>?_)
  ·rw [show (b-k).toNat=(b-(k+1)).toNat+1 by omega] at hsc
   simp only [scanM] at hsc
   refine WC.skip (WC.seq (WC.block (WC.seq (Rg (Mv (z:=Mv (z:=Co ?_)))))))
   refine SV.callM rfl rfl (of_sp hX0 hM5 hT4 hS4 ⟨by omega,by omega⟩) ?_
   rintro v s6 H6 hn6 hM6 ⟨rfl,rfl⟩
   dsimp only
   refine Co ?_
   refine SV.callM rfl rfl (side_sp hX0 hM6) ?_
   rintro v s7 H7 hn7 hM7 ⟨rfl,rfl⟩
   generalize sideM (rd N (rd S.A k))=sd at hsc ⊢
   refine Av (z:=Nl ?_)
   rcases f with _ | _ <;> rcases o with _ | _
   all_goals (
    simp only [Bool.false_or,Bool.true_or] at hsc
    refine WC.seq (Rg (Mv (z:=Mv (z:=?_))))
    (first | refine Gy (z:=Mq (z:=?_)) | refine Gn (z:=?_))
    all_goals (first | refine Gy (z:=Mq (z:=?_)) | refine Gn (z:=?_))
    all_goals (first | refine Gy (z:=Ei (z:=?_)) | refine Gn (z:=?_))
    all_goals (first | refine Co (Pt (z:=?_)) | refine Co (Pf (z:=?_)))
    all_goals refine Av (z:=Nl ?_)
    refine Rg (Mv (z:=Mv (z:=?_)))
    (first | refine Gy (z:=Mq (z:=?_)) | refine Gn (z:=?_))
    all_goals (first | refine Gy (z:=Mq (z:=?_)) | refine Gn (z:=?_))
    all_goals (first | refine Gy (z:=Sb (z:=?_)) | refine Gn (z:=?_))
    all_goals (first | refine Gy (z:=Ei (z:=?_)) | refine Gn (z:=?_))
    all_goals (first | refine Co (Pt (z:=?_)) | refine Co (Pf (z:=?_)))
    all_goals refine Av (z:=Nl ?_)
    refine Rg (Mv (z:=Co (Ad (z:=Av (z:=Nl ?_)))))
    exact ⟨rfl,(k+1,_,_),Ho,⟨by omega,hM7,by dsimp only;omega,hsc⟩,by dsimp only;omega⟩)
  ·refine WC.exit (WC.seq (WC.seq ?_))
   rw [show (b-k).toNat=0 by omega] at hsc
   simp only [scanM] at hsc
   rw [←hsc] at hres
   dsimp only at hres
   rcases f with _ | _ <;> rcases o with _ | _
   ·rw [if_pos ⟨rfl,rfl⟩] at hres
    refine Rg (Mv (z:=Co (Nf (z:=Mv (z:=Gy (z:=Mq (z:=Gy (z:=Nf (z:=Co (Pt (z:=Nl (Ct (z:=WC.exit (Rg (Co (Ad (z:=Mv (z:=Nl ?_))))))))))))))))))
    exact ⟨rfl,(i+1,N),Ho,⟨by omega,drop hM5,hN,by dsimp only;omega,by dsimp only;omega,hres⟩,by dsimp only;omega⟩
   ·rw [if_neg (by intro h;cases h.2)] at hres
    refine Rg (Mv (z:=Co (Nf (z:=Mv (z:=Gy (z:=Mq (z:=Gy (z:=Nn (z:=Co (Pt (z:=Nl (Cf (z:=WC.skip (WC.seq (Rg (Mv (z:=Av (z:=Nl (WC.seq (WC.seq (Rg (Mv (z:=Co (Nf (z:=Mv (z:=Gy (z:=Mq (z:=Gy (z:=Ia (z:=Gy (z:=Ld (z:=?_))))))))))))))))))))))))))))))))
    all_goals (refine WO.guardY rfl rfl rfl (by rfl) ?_ (by decide))
    refine SV.callM rfl rfl (ahead_sp hX0 hM5 hT4 hS4 ⟨by omega,by omega⟩) ?_
    rintro v s6 H6 hn6 hM6 ⟨rfl,rfl⟩
    dsimp only at hn6 hM6 ⊢
    generalize haM:aheadM S.A N S.st a.toNat=am at hres ⊢
    refine Gy (z:=Mq (z:=Gy (z:=Sb (z:=Gy (z:=Ei (z:=Co (Pt (z:=Nl ?_))))))))
    refine WC.condD rfl (fun ham hamb=>?_) (fun ham hamb=>?_)
    ·rw [if_pos ⟨rfl,ham⟩] at hres
     refine Rg (Mv (z:=Co (Sb (z:=Av (z:=Nl (WC.seq (Rg (Co ?_))))))))
     refine SV.loadMA (l:=[.int .i64 a,.int .i64 b]) (by assumption) rfl hbx4 rfl (fun t u hu=>by rw [Nat.zero_add];exact hu) ?_
     refine Mv (z:=Nl (WC.block ?_))
     generalize hBO:bothM S.A D.F (1-dir) [a,b] N=BO at hres
     refine WC.loop (D:=Int×List Int) (fun x=>[(0,.pointer (some ⟨S.q,0,none⟩)),(2,.int .i64 dir),(9,.int .i64 (1-dir)),(19,.slice (some ⟨ν,0,none⟩) PP.length c),(20,.int .i64 PP.length),(21,.int .i64 i),(71,.agg #[.int .i64 a,.int .i64 b]),(72,.int .i64 x.1)])
      (fun x s6=>s.next≤s6.next∧Models ro s6 (Hq.up D.w (.row 1 (x.2.map (.int .i64))))∧x.2.length=D.n∧0≤x.1∧x.1≤2∧bothM S.A D.F (1-dir) ([a,b].drop x.1.toNat) x.2=BO)
      (fun x=>2-x.1.toNat) (0,N) ?_ ⟨by omega,(by assumption),hN,by dsimp only;omega,by dsimp only;omega,hBO⟩ ?_
     ·exact Ho
     rintro ⟨j,N6⟩ g6 s6 ⟨hn6,hM6,hN6,hj0,hj1,hres6⟩
     dsimp only at hn6 hM6 hN6 hj0 hj1 hres6 ⊢
     have hT6:=hTq.setN hN6
     have hS6:=hSq.setN (o:=.row 1 (N6.map (.int .i64))) (N':=N6)
     refine WC.seq (Rg (Co (Lt (z:=Nl (WC.seq ?_)))))
     refine WC.condD rfl (fun h2 h2b=>?_) (fun h2 h2b=>?_)
     ·rcases (show j=0∨j=1 by omega) with rfl | rfl
      ·simp only [show (0:Int).toNat=0 from rfl,List.drop_zero] at hres6
       rw [bothM] at hres6
       refine WC.skip (WC.seq (WC.block (WC.seq (Rg ?_))))
       refine WO.cons (SV.index rfl rfl (by omega) (by rfl) ?_) (by decide)
       refine Av (z:=Nl (WC.seq (Rg (Mv (z:=Mv (z:=Mv (z:=Co ?_)))))))
       refine SV.callM rfl rfl (become_sp hX0 hM6 hT6 hS6 ⟨by omega,by omega⟩) ?_
       rintro v s7 H7 hn7 hM7 ⟨rfl,rfl⟩
       rw [Hp.up_up] at hM7
       have hN7:(becomeM S.A N6 a (1-dir)).length=D.n:=becomeM_length.trans hN6
       refine Nl (WC.seq (Rg (Mv (z:=Co (Ad (z:=Av (z:=Nl (WC.block ?_))))))))
       generalize hTR:trailM S.A D.F (1-dir) (S.A.length-(a+1).toNat) (a+1) (becomeM S.A N6 a (1-dir))=TR at hres6
       refine WC.loop (D:=Int×List Int) (fun x=>[(0,.pointer (some ⟨S.q,0,none⟩)),(2,.int .i64 dir),(9,.int .i64 (1-dir)),(12,.int .i64 x.1),(19,.slice (some ⟨ν,0,none⟩) PP.length c),(20,.int .i64 PP.length),(21,.int .i64 i),(71,.agg #[.int .i64 a,.int .i64 b]),(72,.int .i64 0)])
        (fun x s8=>s.next≤s8.next∧Models ro s8 (Hq.up D.w (.row 1 (x.2.map (.int .i64))))∧x.2.length=D.n∧0≤x.1∧trailM S.A D.F (1-dir) (S.A.length-x.1.toNat) x.1 x.2=TR)
        (fun x=>S.A.length-x.1.toNat) (a+1,becomeM S.A N6 a (1-dir)) ?_ ⟨by omega,hM7,hN7,by dsimp only;omega,hTR⟩ ?_
       ·exact Ho
       rintro ⟨k,N8⟩ g8 s8 ⟨hn8,hM8,hN8,hk0,hres8⟩
       dsimp only at hn8 hM8 hN8 hk0 hres8 ⊢
       have hT8:=hTq.setN hN8
       have hS8:=hSq.setN (o:=.row 1 (N8.map (.int .i64))) (N':=N8)
       obtain ⟨e8,cc,cf,cw,cl,cm,ht8⟩:=hT8.t
       obtain ⟨e9,ca9,hq8⟩:=hS8.q
       obtain ⟨r8,ha8⟩:=hS8.a
       have hf8:=hT8.f
       have hnF:=hT8.nF
       dsimp only at ht8 hf8 hnF
       have hl8:(S.A++r8).length=S.A.length+r8.length:=List.length_append
       rcases dc (k < ↑S.A.length) with ⟨hkl,hklb⟩ | ⟨hkl,hklb⟩
       ·have hak:=hS8.at hk0 hkl
        rw [←rd_app (r:=r8) hk0 hkl] at hak
        have ek:rd (S.A++r8) k=rd S.A k:=rd_app hk0 hkl
        dsimp only at hak
        rw [show S.A.length-k.toNat=(S.A.length-(k+1).toNat)+1 by omega] at hres8
        simp only [trailM] at hres8
        refine WC.seq (WC.seq (WC.dr [0,1,2,3,4,5,6,7,8,9,10,11,12,13,14,15,16,17,18,19,20,21,22,23,24,25] (z:=Mw (z:=Mw (z:=Cd (Np (z:=Cd (Fa (z:=Cd (Ld (z:=Cd (Ln (z:=Cd (Lt (z:=Mw (z:=Hy (z:=Mq (z:=Hy (z:=Np (z:=Hy (z:=Fa (z:=Hy (z:=Ld (z:=Hy (z:=Np (z:=Hy (z:=Fa (z:=Hy (z:=Ld (z:=Hy (z:=Mq (z:=Hy (z:=Np (z:=Hy (z:=Fa (z:=Hy (z:=Ld (z:=Hy (z:=Mq (z:=Hy (z:=Ix (z:=Hy (z:=Ld (z:=Hy (z:=Ix (z:=Hy (z:=Ld (z:=Hy (z:=Ei (z:=Cd (Pt (z:=Nz ?_))))))))))))))))))))))))))))))))))))))))))))))))))))
        rw [ek]
        refine WC.condD rfl (fun h8 h8b=>?_) (fun h8 h8b=>?_)
        ·rw [if_pos h8] at hres8
         refine WC.skip (WC.seq (WC.block (Rg (Mv (z:=Mv (z:=Mv (z:=Co ?_)))))))
         refine SV.callM rfl rfl (become_sp hX0 hM8 hT8 hS8 ⟨by omega,by omega⟩) ?_
         rintro v s9 H9 hn9 hM9 ⟨rfl,rfl⟩
         rw [Hp.up_up] at hM9
         refine Nl (Rg (Mv (z:=Co (Ad (z:=Av (z:=Nl ?_))))))
         exact ⟨rfl,(k+1,_),Ho,⟨by omega,hM9,becomeM_length.trans hN8,by dsimp only;omega,hres8⟩,by dsimp only;omega⟩
        ·rw [if_neg h8] at hres8
         refine WC.exit ?_
         rw [←hres8] at hres6
         refine Rg (Co (Ad (z:=Mv (z:=Nl ?_))))
         exact ⟨rfl,(0+1,N8),⟨rfl,rfl,rfl,rfl,rfl,rfl,rfl,rfl,trivial⟩,⟨by omega,hM8,hN8,by dsimp only;omega,by dsimp only;omega,hres6⟩,by dsimp only;omega⟩
       ·rw [show S.A.length-k.toNat=0 by omega] at hres8
        simp only [trailM] at hres8
        refine WC.seq (WC.seq (WC.dr [0,1,2,3,4,5,6,7,8,9,10,11,12,13,14,15,16,17,18,19,20,21,22,23,24,25] (z:=Mw (z:=Mw (z:=Cd (Np (z:=Cd (Fa (z:=Cd (Ld (z:=Cd (Ln (z:=Cd (Lt (z:=Mw (z:=Hn (z:=Hn (z:=Hn (z:=Hn (z:=Hn (z:=Hn (z:=Hn (z:=Hn (z:=Hn (z:=Hn (z:=Hn (z:=Hn (z:=Hn (z:=Hn (z:=Hn (z:=Hn (z:=Hn (z:=Cd (Pf (z:=Nz (Cf (z:=WC.exit ?_)))))))))))))))))))))))))))))))))))))
        rw [←hres8] at hres6
        refine Rg (Co (Ad (z:=Mv (z:=Nl ?_))))
        exact ⟨rfl,(0+1,N8),⟨rfl,rfl,rfl,rfl,rfl,rfl,rfl,rfl,trivial⟩,⟨by omega,hM8,hN8,by dsimp only;omega,by dsimp only;omega,hres6⟩,by dsimp only;omega⟩
      ·simp only [show (1:Int).toNat=1 from rfl,List.drop_succ_cons,List.drop_zero] at hres6
       rw [bothM] at hres6
       refine WC.skip (WC.seq (WC.block (WC.seq (Rg ?_))))
       refine WO.cons (SV.index rfl rfl (by omega) (by rfl) ?_) (by decide)
       refine Av (z:=Nl (WC.seq (Rg (Mv (z:=Mv (z:=Mv (z:=Co ?_)))))))
       refine SV.callM rfl rfl (become_sp hX0 hM6 hT6 hS6 ⟨by omega,by omega⟩) ?_
       rintro v s7 H7 hn7 hM7 ⟨rfl,rfl⟩
       rw [Hp.up_up] at hM7
       have hN7:(becomeM S.A N6 b (1-dir)).length=D.n:=becomeM_length.trans hN6
       refine Nl (WC.seq (Rg (Mv (z:=Co (Ad (z:=Av (z:=Nl (WC.block ?_))))))))
       generalize hTR:trailM S.A D.F (1-dir) (S.A.length-(b+1).toNat) (b+1) (becomeM S.A N6 b (1-dir))=TR at hres6
       refine WC.loop (D:=Int×List Int) (fun x=>[(0,.pointer (some ⟨S.q,0,none⟩)),(2,.int .i64 dir),(9,.int .i64 (1-dir)),(12,.int .i64 x.1),(19,.slice (some ⟨ν,0,none⟩) PP.length c),(20,.int .i64 PP.length),(21,.int .i64 i),(71,.agg #[.int .i64 a,.int .i64 b]),(72,.int .i64 1)])
        (fun x s8=>s.next≤s8.next∧Models ro s8 (Hq.up D.w (.row 1 (x.2.map (.int .i64))))∧x.2.length=D.n∧0≤x.1∧trailM S.A D.F (1-dir) (S.A.length-x.1.toNat) x.1 x.2=TR)
        (fun x=>S.A.length-x.1.toNat) (b+1,becomeM S.A N6 b (1-dir)) ?_ ⟨by omega,hM7,hN7,by dsimp only;omega,hTR⟩ ?_
       ·exact Ho
       rintro ⟨k,N8⟩ g8 s8 ⟨hn8,hM8,hN8,hk0,hres8⟩
       dsimp only at hn8 hM8 hN8 hk0 hres8 ⊢
       have hT8:=hTq.setN hN8
       have hS8:=hSq.setN (o:=.row 1 (N8.map (.int .i64))) (N':=N8)
       obtain ⟨e8,cc,cf,cw,cl,cm,ht8⟩:=hT8.t
       obtain ⟨e9,ca9,hq8⟩:=hS8.q
       obtain ⟨r8,ha8⟩:=hS8.a
       have hf8:=hT8.f
       have hnF:=hT8.nF
       dsimp only at ht8 hf8 hnF
       have hl8:(S.A++r8).length=S.A.length+r8.length:=List.length_append
       rcases dc (k < ↑S.A.length) with ⟨hkl,hklb⟩ | ⟨hkl,hklb⟩
       ·have hak:=hS8.at hk0 hkl
        rw [←rd_app (r:=r8) hk0 hkl] at hak
        have ek:rd (S.A++r8) k=rd S.A k:=rd_app hk0 hkl
        dsimp only at hak
        rw [show S.A.length-k.toNat=(S.A.length-(k+1).toNat)+1 by omega] at hres8
        simp only [trailM] at hres8
        refine WC.seq (WC.seq (WC.dr [0,1,2,3,4,5,6,7,8,9,10,11,12,13,14,15,16,17,18,19,20,21,22,23,24,25] (z:=Mw (z:=Mw (z:=Cd (Np (z:=Cd (Fa (z:=Cd (Ld (z:=Cd (Ln (z:=Cd (Lt (z:=Mw (z:=Hy (z:=Mq (z:=Hy (z:=Np (z:=Hy (z:=Fa (z:=Hy (z:=Ld (z:=Hy (z:=Np (z:=Hy (z:=Fa (z:=Hy (z:=Ld (z:=Hy (z:=Mq (z:=Hy (z:=Np (z:=Hy (z:=Fa (z:=Hy (z:=Ld (z:=Hy (z:=Mq (z:=Hy (z:=Ix (z:=Hy (z:=Ld (z:=Hy (z:=Ix (z:=Hy (z:=Ld (z:=Hy (z:=Ei (z:=Cd (Pt (z:=Nz ?_))))))))))))))))))))))))))))))))))))))))))))))))))))
        rw [ek]
        refine WC.condD rfl (fun h8 h8b=>?_) (fun h8 h8b=>?_)
        ·rw [if_pos h8] at hres8
         refine WC.skip (WC.seq (WC.block (Rg (Mv (z:=Mv (z:=Mv (z:=Co ?_)))))))
         refine SV.callM rfl rfl (become_sp hX0 hM8 hT8 hS8 ⟨by omega,by omega⟩) ?_
         rintro v s9 H9 hn9 hM9 ⟨rfl,rfl⟩
         rw [Hp.up_up] at hM9
         refine Nl (Rg (Mv (z:=Co (Ad (z:=Av (z:=Nl ?_))))))
         exact ⟨rfl,(k+1,_),Ho,⟨by omega,hM9,becomeM_length.trans hN8,by dsimp only;omega,hres8⟩,by dsimp only;omega⟩
        ·rw [if_neg h8] at hres8
         refine WC.exit ?_
         rw [←hres8] at hres6
         refine Rg (Co (Ad (z:=Mv (z:=Nl ?_))))
         exact ⟨rfl,(1+1,N8),⟨rfl,rfl,rfl,rfl,rfl,rfl,rfl,rfl,trivial⟩,⟨by omega,hM8,hN8,by dsimp only;omega,by dsimp only;omega,hres6⟩,by dsimp only;omega⟩
       ·rw [show S.A.length-k.toNat=0 by omega] at hres8
        simp only [trailM] at hres8
        refine WC.seq (WC.seq (WC.dr [0,1,2,3,4,5,6,7,8,9,10,11,12,13,14,15,16,17,18,19,20,21,22,23,24,25] (z:=Mw (z:=Mw (z:=Cd (Np (z:=Cd (Fa (z:=Cd (Ld (z:=Cd (Ln (z:=Cd (Lt (z:=Mw (z:=Hn (z:=Hn (z:=Hn (z:=Hn (z:=Hn (z:=Hn (z:=Hn (z:=Hn (z:=Hn (z:=Hn (z:=Hn (z:=Hn (z:=Hn (z:=Hn (z:=Hn (z:=Hn (z:=Hn (z:=Cd (Pf (z:=Nz (Cf (z:=WC.exit ?_)))))))))))))))))))))))))))))))))))))
        rw [←hres8] at hres6
        refine Rg (Co (Ad (z:=Mv (z:=Nl ?_))))
        exact ⟨rfl,(1+1,N8),⟨rfl,rfl,rfl,rfl,rfl,rfl,rfl,rfl,trivial⟩,⟨by omega,hM8,hN8,by dsimp only;omega,by dsimp only;omega,hres6⟩,by dsimp only;omega⟩
     ·refine WC.exit ?_
      rw [show j.toNat=2 by omega] at hres6
      simp only [List.drop_succ_cons,List.drop_zero,bothM] at hres6
      rw [←hres6] at hres
      refine Rg (Co (Ad (z:=Mv (z:=Nl ?_))))
      exact ⟨rfl,(i+1,N6),Ho,⟨by omega,drop hM6,hN6,by dsimp only;omega,by dsimp only;omega,hres⟩,by dsimp only;omega⟩
    ·rw [if_neg (by intro h;exact ham h.2)] at hres
     refine WC.skip (WC.seq (Rg (Co ?_)))
     refine SV.loadMA (l:=[.int .i64 a,.int .i64 b]) (by assumption) rfl hbx4 rfl (fun t u hu=>by rw [Nat.zero_add];exact hu) ?_
     refine Mv (z:=Nl (WC.block ?_))
     generalize hBO:bothM S.A D.F (dir) [a,b] N=BO at hres
     refine WC.loop (D:=Int×List Int) (fun x=>[(0,.pointer (some ⟨S.q,0,none⟩)),(2,.int .i64 dir),(9,.int .i64 (dir)),(19,.slice (some ⟨ν,0,none⟩) PP.length c),(20,.int .i64 PP.length),(21,.int .i64 i),(71,.agg #[.int .i64 a,.int .i64 b]),(72,.int .i64 x.1)])
      (fun x s6=>s.next≤s6.next∧Models ro s6 (Hq.up D.w (.row 1 (x.2.map (.int .i64))))∧x.2.length=D.n∧0≤x.1∧x.1≤2∧bothM S.A D.F (dir) ([a,b].drop x.1.toNat) x.2=BO)
      (fun x=>2-x.1.toNat) (0,N) ?_ ⟨by omega,(by assumption),hN,by dsimp only;omega,by dsimp only;omega,hBO⟩ ?_
     ·exact Ho
     rintro ⟨j,N6⟩ g6 s6 ⟨hn6,hM6,hN6,hj0,hj1,hres6⟩
     dsimp only at hn6 hM6 hN6 hj0 hj1 hres6 ⊢
     have hT6:=hTq.setN hN6
     have hS6:=hSq.setN (o:=.row 1 (N6.map (.int .i64))) (N':=N6)
     refine WC.seq (Rg (Co (Lt (z:=Nl (WC.seq ?_)))))
     refine WC.condD rfl (fun h2 h2b=>?_) (fun h2 h2b=>?_)
     ·rcases (show j=0∨j=1 by omega) with rfl | rfl
      ·simp only [show (0:Int).toNat=0 from rfl,List.drop_zero] at hres6
       rw [bothM] at hres6
       refine WC.skip (WC.seq (WC.block (WC.seq (Rg ?_))))
       refine WO.cons (SV.index rfl rfl (by omega) (by rfl) ?_) (by decide)
       refine Av (z:=Nl (WC.seq (Rg (Mv (z:=Mv (z:=Mv (z:=Co ?_)))))))
       refine SV.callM rfl rfl (become_sp hX0 hM6 hT6 hS6 ⟨by omega,by omega⟩) ?_
       rintro v s7 H7 hn7 hM7 ⟨rfl,rfl⟩
       rw [Hp.up_up] at hM7
       have hN7:(becomeM S.A N6 a (dir)).length=D.n:=becomeM_length.trans hN6
       refine Nl (WC.seq (Rg (Mv (z:=Co (Ad (z:=Av (z:=Nl (WC.block ?_))))))))
       generalize hTR:trailM S.A D.F (dir) (S.A.length-(a+1).toNat) (a+1) (becomeM S.A N6 a (dir))=TR at hres6
       refine WC.loop (D:=Int×List Int) (fun x=>[(0,.pointer (some ⟨S.q,0,none⟩)),(2,.int .i64 dir),(9,.int .i64 (dir)),(12,.int .i64 x.1),(19,.slice (some ⟨ν,0,none⟩) PP.length c),(20,.int .i64 PP.length),(21,.int .i64 i),(71,.agg #[.int .i64 a,.int .i64 b]),(72,.int .i64 0)])
        (fun x s8=>s.next≤s8.next∧Models ro s8 (Hq.up D.w (.row 1 (x.2.map (.int .i64))))∧x.2.length=D.n∧0≤x.1∧trailM S.A D.F (dir) (S.A.length-x.1.toNat) x.1 x.2=TR)
        (fun x=>S.A.length-x.1.toNat) (a+1,becomeM S.A N6 a (dir)) ?_ ⟨by omega,hM7,hN7,by dsimp only;omega,hTR⟩ ?_
       ·exact Ho
       rintro ⟨k,N8⟩ g8 s8 ⟨hn8,hM8,hN8,hk0,hres8⟩
       dsimp only at hn8 hM8 hN8 hk0 hres8 ⊢
       have hT8:=hTq.setN hN8
       have hS8:=hSq.setN (o:=.row 1 (N8.map (.int .i64))) (N':=N8)
       obtain ⟨e8,cc,cf,cw,cl,cm,ht8⟩:=hT8.t
       obtain ⟨e9,ca9,hq8⟩:=hS8.q
       obtain ⟨r8,ha8⟩:=hS8.a
       have hf8:=hT8.f
       have hnF:=hT8.nF
       dsimp only at ht8 hf8 hnF
       have hl8:(S.A++r8).length=S.A.length+r8.length:=List.length_append
       rcases dc (k < ↑S.A.length) with ⟨hkl,hklb⟩ | ⟨hkl,hklb⟩
       ·have hak:=hS8.at hk0 hkl
        rw [←rd_app (r:=r8) hk0 hkl] at hak
        have ek:rd (S.A++r8) k=rd S.A k:=rd_app hk0 hkl
        dsimp only at hak
        rw [show S.A.length-k.toNat=(S.A.length-(k+1).toNat)+1 by omega] at hres8
        simp only [trailM] at hres8
        refine WC.seq (WC.seq (WC.dr [0,1,2,3,4,5,6,7,8,9,10,11,12,13,14,15,16,17,18,19,20,21,22,23,24,25] (z:=Mw (z:=Mw (z:=Cd (Np (z:=Cd (Fa (z:=Cd (Ld (z:=Cd (Ln (z:=Cd (Lt (z:=Mw (z:=Hy (z:=Mq (z:=Hy (z:=Np (z:=Hy (z:=Fa (z:=Hy (z:=Ld (z:=Hy (z:=Np (z:=Hy (z:=Fa (z:=Hy (z:=Ld (z:=Hy (z:=Mq (z:=Hy (z:=Np (z:=Hy (z:=Fa (z:=Hy (z:=Ld (z:=Hy (z:=Mq (z:=Hy (z:=Ix (z:=Hy (z:=Ld (z:=Hy (z:=Ix (z:=Hy (z:=Ld (z:=Hy (z:=Ei (z:=Cd (Pt (z:=Nz ?_))))))))))))))))))))))))))))))))))))))))))))))))))))
        rw [ek]
        refine WC.condD rfl (fun h8 h8b=>?_) (fun h8 h8b=>?_)
        ·rw [if_pos h8] at hres8
         refine WC.skip (WC.seq (WC.block (Rg (Mv (z:=Mv (z:=Mv (z:=Co ?_)))))))
         refine SV.callM rfl rfl (become_sp hX0 hM8 hT8 hS8 ⟨by omega,by omega⟩) ?_
         rintro v s9 H9 hn9 hM9 ⟨rfl,rfl⟩
         rw [Hp.up_up] at hM9
         refine Nl (Rg (Mv (z:=Co (Ad (z:=Av (z:=Nl ?_))))))
         exact ⟨rfl,(k+1,_),Ho,⟨by omega,hM9,becomeM_length.trans hN8,by dsimp only;omega,hres8⟩,by dsimp only;omega⟩
        ·rw [if_neg h8] at hres8
         refine WC.exit ?_
         rw [←hres8] at hres6
         refine Rg (Co (Ad (z:=Mv (z:=Nl ?_))))
         exact ⟨rfl,(0+1,N8),⟨rfl,rfl,rfl,rfl,rfl,rfl,rfl,rfl,trivial⟩,⟨by omega,hM8,hN8,by dsimp only;omega,by dsimp only;omega,hres6⟩,by dsimp only;omega⟩
       ·rw [show S.A.length-k.toNat=0 by omega] at hres8
        simp only [trailM] at hres8
        refine WC.seq (WC.seq (WC.dr [0,1,2,3,4,5,6,7,8,9,10,11,12,13,14,15,16,17,18,19,20,21,22,23,24,25] (z:=Mw (z:=Mw (z:=Cd (Np (z:=Cd (Fa (z:=Cd (Ld (z:=Cd (Ln (z:=Cd (Lt (z:=Mw (z:=Hn (z:=Hn (z:=Hn (z:=Hn (z:=Hn (z:=Hn (z:=Hn (z:=Hn (z:=Hn (z:=Hn (z:=Hn (z:=Hn (z:=Hn (z:=Hn (z:=Hn (z:=Hn (z:=Hn (z:=Cd (Pf (z:=Nz (Cf (z:=WC.exit ?_)))))))))))))))))))))))))))))))))))))
        rw [←hres8] at hres6
        refine Rg (Co (Ad (z:=Mv (z:=Nl ?_))))
        exact ⟨rfl,(0+1,N8),⟨rfl,rfl,rfl,rfl,rfl,rfl,rfl,rfl,trivial⟩,⟨by omega,hM8,hN8,by dsimp only;omega,by dsimp only;omega,hres6⟩,by dsimp only;omega⟩
      ·simp only [show (1:Int).toNat=1 from rfl,List.drop_succ_cons,List.drop_zero] at hres6
       rw [bothM] at hres6
       refine WC.skip (WC.seq (WC.block (WC.seq (Rg ?_))))
       refine WO.cons (SV.index rfl rfl (by omega) (by rfl) ?_) (by decide)
       refine Av (z:=Nl (WC.seq (Rg (Mv (z:=Mv (z:=Mv (z:=Co ?_)))))))
       refine SV.callM rfl rfl (become_sp hX0 hM6 hT6 hS6 ⟨by omega,by omega⟩) ?_
       rintro v s7 H7 hn7 hM7 ⟨rfl,rfl⟩
       rw [Hp.up_up] at hM7
       have hN7:(becomeM S.A N6 b (dir)).length=D.n:=becomeM_length.trans hN6
       refine Nl (WC.seq (Rg (Mv (z:=Co (Ad (z:=Av (z:=Nl (WC.block ?_))))))))
       generalize hTR:trailM S.A D.F (dir) (S.A.length-(b+1).toNat) (b+1) (becomeM S.A N6 b (dir))=TR at hres6
       refine WC.loop (D:=Int×List Int) (fun x=>[(0,.pointer (some ⟨S.q,0,none⟩)),(2,.int .i64 dir),(9,.int .i64 (dir)),(12,.int .i64 x.1),(19,.slice (some ⟨ν,0,none⟩) PP.length c),(20,.int .i64 PP.length),(21,.int .i64 i),(71,.agg #[.int .i64 a,.int .i64 b]),(72,.int .i64 1)])
        (fun x s8=>s.next≤s8.next∧Models ro s8 (Hq.up D.w (.row 1 (x.2.map (.int .i64))))∧x.2.length=D.n∧0≤x.1∧trailM S.A D.F (dir) (S.A.length-x.1.toNat) x.1 x.2=TR)
        (fun x=>S.A.length-x.1.toNat) (b+1,becomeM S.A N6 b (dir)) ?_ ⟨by omega,hM7,hN7,by dsimp only;omega,hTR⟩ ?_
       ·exact Ho
       rintro ⟨k,N8⟩ g8 s8 ⟨hn8,hM8,hN8,hk0,hres8⟩
       dsimp only at hn8 hM8 hN8 hk0 hres8 ⊢
       have hT8:=hTq.setN hN8
       have hS8:=hSq.setN (o:=.row 1 (N8.map (.int .i64))) (N':=N8)
       obtain ⟨e8,cc,cf,cw,cl,cm,ht8⟩:=hT8.t
       obtain ⟨e9,ca9,hq8⟩:=hS8.q
       obtain ⟨r8,ha8⟩:=hS8.a
       have hf8:=hT8.f
       have hnF:=hT8.nF
       dsimp only at ht8 hf8 hnF
       have hl8:(S.A++r8).length=S.A.length+r8.length:=List.length_append
       rcases dc (k < ↑S.A.length) with ⟨hkl,hklb⟩ | ⟨hkl,hklb⟩
       ·have hak:=hS8.at hk0 hkl
        rw [←rd_app (r:=r8) hk0 hkl] at hak
        have ek:rd (S.A++r8) k=rd S.A k:=rd_app hk0 hkl
        dsimp only at hak
        rw [show S.A.length-k.toNat=(S.A.length-(k+1).toNat)+1 by omega] at hres8
        simp only [trailM] at hres8
        refine WC.seq (WC.seq (WC.dr [0,1,2,3,4,5,6,7,8,9,10,11,12,13,14,15,16,17,18,19,20,21,22,23,24,25] (z:=Mw (z:=Mw (z:=Cd (Np (z:=Cd (Fa (z:=Cd (Ld (z:=Cd (Ln (z:=Cd (Lt (z:=Mw (z:=Hy (z:=Mq (z:=Hy (z:=Np (z:=Hy (z:=Fa (z:=Hy (z:=Ld (z:=Hy (z:=Np (z:=Hy (z:=Fa (z:=Hy (z:=Ld (z:=Hy (z:=Mq (z:=Hy (z:=Np (z:=Hy (z:=Fa (z:=Hy (z:=Ld (z:=Hy (z:=Mq (z:=Hy (z:=Ix (z:=Hy (z:=Ld (z:=Hy (z:=Ix (z:=Hy (z:=Ld (z:=Hy (z:=Ei (z:=Cd (Pt (z:=Nz ?_))))))))))))))))))))))))))))))))))))))))))))))))))))
        rw [ek]
        refine WC.condD rfl (fun h8 h8b=>?_) (fun h8 h8b=>?_)
        ·rw [if_pos h8] at hres8
         refine WC.skip (WC.seq (WC.block (Rg (Mv (z:=Mv (z:=Mv (z:=Co ?_)))))))
         refine SV.callM rfl rfl (become_sp hX0 hM8 hT8 hS8 ⟨by omega,by omega⟩) ?_
         rintro v s9 H9 hn9 hM9 ⟨rfl,rfl⟩
         rw [Hp.up_up] at hM9
         refine Nl (Rg (Mv (z:=Co (Ad (z:=Av (z:=Nl ?_))))))
         exact ⟨rfl,(k+1,_),Ho,⟨by omega,hM9,becomeM_length.trans hN8,by dsimp only;omega,hres8⟩,by dsimp only;omega⟩
        ·rw [if_neg h8] at hres8
         refine WC.exit ?_
         rw [←hres8] at hres6
         refine Rg (Co (Ad (z:=Mv (z:=Nl ?_))))
         exact ⟨rfl,(1+1,N8),⟨rfl,rfl,rfl,rfl,rfl,rfl,rfl,rfl,trivial⟩,⟨by omega,hM8,hN8,by dsimp only;omega,by dsimp only;omega,hres6⟩,by dsimp only;omega⟩
       ·rw [show S.A.length-k.toNat=0 by omega] at hres8
        simp only [trailM] at hres8
        refine WC.seq (WC.seq (WC.dr [0,1,2,3,4,5,6,7,8,9,10,11,12,13,14,15,16,17,18,19,20,21,22,23,24,25] (z:=Mw (z:=Mw (z:=Cd (Np (z:=Cd (Fa (z:=Cd (Ld (z:=Cd (Ln (z:=Cd (Lt (z:=Mw (z:=Hn (z:=Hn (z:=Hn (z:=Hn (z:=Hn (z:=Hn (z:=Hn (z:=Hn (z:=Hn (z:=Hn (z:=Hn (z:=Hn (z:=Hn (z:=Hn (z:=Hn (z:=Hn (z:=Hn (z:=Cd (Pf (z:=Nz (Cf (z:=WC.exit ?_)))))))))))))))))))))))))))))))))))))
        rw [←hres8] at hres6
        refine Rg (Co (Ad (z:=Mv (z:=Nl ?_))))
        exact ⟨rfl,(1+1,N8),⟨rfl,rfl,rfl,rfl,rfl,rfl,rfl,rfl,trivial⟩,⟨by omega,hM8,hN8,by dsimp only;omega,by dsimp only;omega,hres6⟩,by dsimp only;omega⟩
     ·refine WC.exit ?_
      rw [show j.toNat=2 by omega] at hres6
      simp only [List.drop_succ_cons,List.drop_zero,bothM] at hres6
      rw [←hres6] at hres
      refine Rg (Co (Ad (z:=Mv (z:=Nl ?_))))
      exact ⟨rfl,(i+1,N6),Ho,⟨by omega,drop hM6,hN6,by dsimp only;omega,by dsimp only;omega,hres⟩,by dsimp only;omega⟩
   ·rw [if_neg (by intro h;cases h.1),if_neg (by intro h;cases h.1)] at hres
    refine Rg (Mv (z:=Co (Nn (z:=Mv (z:=Gn (z:=Gn (z:=Co (Pf (z:=Nl (Cf (z:=WC.skip (WC.seq (Rg (Mv (z:=Av (z:=Nl (WC.seq (WC.seq (Rg (Mv (z:=Co (Nn (z:=Mv (z:=Gn (z:=Gn (z:=Gn (z:=Gn (z:=Gn (z:=Gn (z:=Gn (z:=Co (Pf (z:=Nl (Cf (z:=WC.skip (WC.seq (Rg (Co ?_))))))))))))))))))))))))))))))))))))))
    refine SV.loadMA (l:=[.int .i64 a,.int .i64 b]) (by assumption) rfl hbx4 rfl (fun t u hu=>by rw [Nat.zero_add];exact hu) ?_
    refine Mv (z:=Nl (WC.block ?_))
    generalize hBO:bothM S.A D.F (dir) [a,b] N=BO at hres
    refine WC.loop (D:=Int×List Int) (fun x=>[(0,.pointer (some ⟨S.q,0,none⟩)),(2,.int .i64 dir),(9,.int .i64 (dir)),(19,.slice (some ⟨ν,0,none⟩) PP.length c),(20,.int .i64 PP.length),(21,.int .i64 i),(71,.agg #[.int .i64 a,.int .i64 b]),(72,.int .i64 x.1)])
     (fun x s6=>s.next≤s6.next∧Models ro s6 (Hq.up D.w (.row 1 (x.2.map (.int .i64))))∧x.2.length=D.n∧0≤x.1∧x.1≤2∧bothM S.A D.F (dir) ([a,b].drop x.1.toNat) x.2=BO)
     (fun x=>2-x.1.toNat) (0,N) ?_ ⟨by omega,(by assumption),hN,by dsimp only;omega,by dsimp only;omega,hBO⟩ ?_
    ·exact Ho
    rintro ⟨j,N6⟩ g6 s6 ⟨hn6,hM6,hN6,hj0,hj1,hres6⟩
    dsimp only at hn6 hM6 hN6 hj0 hj1 hres6 ⊢
    have hT6:=hTq.setN hN6
    have hS6:=hSq.setN (o:=.row 1 (N6.map (.int .i64))) (N':=N6)
    refine WC.seq (Rg (Co (Lt (z:=Nl (WC.seq ?_)))))
    refine WC.condD rfl (fun h2 h2b=>?_) (fun h2 h2b=>?_)
    ·rcases (show j=0∨j=1 by omega) with rfl | rfl
     ·simp only [show (0:Int).toNat=0 from rfl,List.drop_zero] at hres6
      rw [bothM] at hres6
      refine WC.skip (WC.seq (WC.block (WC.seq (Rg ?_))))
      refine WO.cons (SV.index rfl rfl (by omega) (by rfl) ?_) (by decide)
      refine Av (z:=Nl (WC.seq (Rg (Mv (z:=Mv (z:=Mv (z:=Co ?_)))))))
      refine SV.callM rfl rfl (become_sp hX0 hM6 hT6 hS6 ⟨by omega,by omega⟩) ?_
      rintro v s7 H7 hn7 hM7 ⟨rfl,rfl⟩
      rw [Hp.up_up] at hM7
      have hN7:(becomeM S.A N6 a (dir)).length=D.n:=becomeM_length.trans hN6
      refine Nl (WC.seq (Rg (Mv (z:=Co (Ad (z:=Av (z:=Nl (WC.block ?_))))))))
      generalize hTR:trailM S.A D.F (dir) (S.A.length-(a+1).toNat) (a+1) (becomeM S.A N6 a (dir))=TR at hres6
      refine WC.loop (D:=Int×List Int) (fun x=>[(0,.pointer (some ⟨S.q,0,none⟩)),(2,.int .i64 dir),(9,.int .i64 (dir)),(12,.int .i64 x.1),(19,.slice (some ⟨ν,0,none⟩) PP.length c),(20,.int .i64 PP.length),(21,.int .i64 i),(71,.agg #[.int .i64 a,.int .i64 b]),(72,.int .i64 0)])
       (fun x s8=>s.next≤s8.next∧Models ro s8 (Hq.up D.w (.row 1 (x.2.map (.int .i64))))∧x.2.length=D.n∧0≤x.1∧trailM S.A D.F (dir) (S.A.length-x.1.toNat) x.1 x.2=TR)
       (fun x=>S.A.length-x.1.toNat) (a+1,becomeM S.A N6 a (dir)) ?_ ⟨by omega,hM7,hN7,by dsimp only;omega,hTR⟩ ?_
      ·exact Ho
      rintro ⟨k,N8⟩ g8 s8 ⟨hn8,hM8,hN8,hk0,hres8⟩
      dsimp only at hn8 hM8 hN8 hk0 hres8 ⊢
      have hT8:=hTq.setN hN8
      have hS8:=hSq.setN (o:=.row 1 (N8.map (.int .i64))) (N':=N8)
      obtain ⟨e8,cc,cf,cw,cl,cm,ht8⟩:=hT8.t
      obtain ⟨e9,ca9,hq8⟩:=hS8.q
      obtain ⟨r8,ha8⟩:=hS8.a
      have hf8:=hT8.f
      have hnF:=hT8.nF
      dsimp only at ht8 hf8 hnF
      have hl8:(S.A++r8).length=S.A.length+r8.length:=List.length_append
      rcases dc (k < ↑S.A.length) with ⟨hkl,hklb⟩ | ⟨hkl,hklb⟩
      ·have hak:=hS8.at hk0 hkl
       rw [←rd_app (r:=r8) hk0 hkl] at hak
       have ek:rd (S.A++r8) k=rd S.A k:=rd_app hk0 hkl
       dsimp only at hak
       rw [show S.A.length-k.toNat=(S.A.length-(k+1).toNat)+1 by omega] at hres8
       simp only [trailM] at hres8
       refine WC.seq (WC.seq (WC.dr [0,1,2,3,4,5,6,7,8,9,10,11,12,13,14,15,16,17,18,19,20,21,22,23,24,25] (z:=Mw (z:=Mw (z:=Cd (Np (z:=Cd (Fa (z:=Cd (Ld (z:=Cd (Ln (z:=Cd (Lt (z:=Mw (z:=Hy (z:=Mq (z:=Hy (z:=Np (z:=Hy (z:=Fa (z:=Hy (z:=Ld (z:=Hy (z:=Np (z:=Hy (z:=Fa (z:=Hy (z:=Ld (z:=Hy (z:=Mq (z:=Hy (z:=Np (z:=Hy (z:=Fa (z:=Hy (z:=Ld (z:=Hy (z:=Mq (z:=Hy (z:=Ix (z:=Hy (z:=Ld (z:=Hy (z:=Ix (z:=Hy (z:=Ld (z:=Hy (z:=Ei (z:=Cd (Pt (z:=Nz ?_))))))))))))))))))))))))))))))))))))))))))))))))))))
       rw [ek]
       refine WC.condD rfl (fun h8 h8b=>?_) (fun h8 h8b=>?_)
       ·rw [if_pos h8] at hres8
        refine WC.skip (WC.seq (WC.block (Rg (Mv (z:=Mv (z:=Mv (z:=Co ?_)))))))
        refine SV.callM rfl rfl (become_sp hX0 hM8 hT8 hS8 ⟨by omega,by omega⟩) ?_
        rintro v s9 H9 hn9 hM9 ⟨rfl,rfl⟩
        rw [Hp.up_up] at hM9
        refine Nl (Rg (Mv (z:=Co (Ad (z:=Av (z:=Nl ?_))))))
        exact ⟨rfl,(k+1,_),Ho,⟨by omega,hM9,becomeM_length.trans hN8,by dsimp only;omega,hres8⟩,by dsimp only;omega⟩
       ·rw [if_neg h8] at hres8
        refine WC.exit ?_
        rw [←hres8] at hres6
        refine Rg (Co (Ad (z:=Mv (z:=Nl ?_))))
        exact ⟨rfl,(0+1,N8),⟨rfl,rfl,rfl,rfl,rfl,rfl,rfl,rfl,trivial⟩,⟨by omega,hM8,hN8,by dsimp only;omega,by dsimp only;omega,hres6⟩,by dsimp only;omega⟩
      ·rw [show S.A.length-k.toNat=0 by omega] at hres8
       simp only [trailM] at hres8
       refine WC.seq (WC.seq (WC.dr [0,1,2,3,4,5,6,7,8,9,10,11,12,13,14,15,16,17,18,19,20,21,22,23,24,25] (z:=Mw (z:=Mw (z:=Cd (Np (z:=Cd (Fa (z:=Cd (Ld (z:=Cd (Ln (z:=Cd (Lt (z:=Mw (z:=Hn (z:=Hn (z:=Hn (z:=Hn (z:=Hn (z:=Hn (z:=Hn (z:=Hn (z:=Hn (z:=Hn (z:=Hn (z:=Hn (z:=Hn (z:=Hn (z:=Hn (z:=Hn (z:=Hn (z:=Cd (Pf (z:=Nz (Cf (z:=WC.exit ?_)))))))))))))))))))))))))))))))))))))
       rw [←hres8] at hres6
       refine Rg (Co (Ad (z:=Mv (z:=Nl ?_))))
       exact ⟨rfl,(0+1,N8),⟨rfl,rfl,rfl,rfl,rfl,rfl,rfl,rfl,trivial⟩,⟨by omega,hM8,hN8,by dsimp only;omega,by dsimp only;omega,hres6⟩,by dsimp only;omega⟩
     ·simp only [show (1:Int).toNat=1 from rfl,List.drop_succ_cons,List.drop_zero] at hres6
      rw [bothM] at hres6
      refine WC.skip (WC.seq (WC.block (WC.seq (Rg ?_))))
      refine WO.cons (SV.index rfl rfl (by omega) (by rfl) ?_) (by decide)
      refine Av (z:=Nl (WC.seq (Rg (Mv (z:=Mv (z:=Mv (z:=Co ?_)))))))
      refine SV.callM rfl rfl (become_sp hX0 hM6 hT6 hS6 ⟨by omega,by omega⟩) ?_
      rintro v s7 H7 hn7 hM7 ⟨rfl,rfl⟩
      rw [Hp.up_up] at hM7
      have hN7:(becomeM S.A N6 b (dir)).length=D.n:=becomeM_length.trans hN6
      refine Nl (WC.seq (Rg (Mv (z:=Co (Ad (z:=Av (z:=Nl (WC.block ?_))))))))
      generalize hTR:trailM S.A D.F (dir) (S.A.length-(b+1).toNat) (b+1) (becomeM S.A N6 b (dir))=TR at hres6
      refine WC.loop (D:=Int×List Int) (fun x=>[(0,.pointer (some ⟨S.q,0,none⟩)),(2,.int .i64 dir),(9,.int .i64 (dir)),(12,.int .i64 x.1),(19,.slice (some ⟨ν,0,none⟩) PP.length c),(20,.int .i64 PP.length),(21,.int .i64 i),(71,.agg #[.int .i64 a,.int .i64 b]),(72,.int .i64 1)])
       (fun x s8=>s.next≤s8.next∧Models ro s8 (Hq.up D.w (.row 1 (x.2.map (.int .i64))))∧x.2.length=D.n∧0≤x.1∧trailM S.A D.F (dir) (S.A.length-x.1.toNat) x.1 x.2=TR)
       (fun x=>S.A.length-x.1.toNat) (b+1,becomeM S.A N6 b (dir)) ?_ ⟨by omega,hM7,hN7,by dsimp only;omega,hTR⟩ ?_
      ·exact Ho
      rintro ⟨k,N8⟩ g8 s8 ⟨hn8,hM8,hN8,hk0,hres8⟩
      dsimp only at hn8 hM8 hN8 hk0 hres8 ⊢
      have hT8:=hTq.setN hN8
      have hS8:=hSq.setN (o:=.row 1 (N8.map (.int .i64))) (N':=N8)
      obtain ⟨e8,cc,cf,cw,cl,cm,ht8⟩:=hT8.t
      obtain ⟨e9,ca9,hq8⟩:=hS8.q
      obtain ⟨r8,ha8⟩:=hS8.a
      have hf8:=hT8.f
      have hnF:=hT8.nF
      dsimp only at ht8 hf8 hnF
      have hl8:(S.A++r8).length=S.A.length+r8.length:=List.length_append
      rcases dc (k < ↑S.A.length) with ⟨hkl,hklb⟩ | ⟨hkl,hklb⟩
      ·have hak:=hS8.at hk0 hkl
       rw [←rd_app (r:=r8) hk0 hkl] at hak
       have ek:rd (S.A++r8) k=rd S.A k:=rd_app hk0 hkl
       dsimp only at hak
       rw [show S.A.length-k.toNat=(S.A.length-(k+1).toNat)+1 by omega] at hres8
       simp only [trailM] at hres8
       refine WC.seq (WC.seq (WC.dr [0,1,2,3,4,5,6,7,8,9,10,11,12,13,14,15,16,17,18,19,20,21,22,23,24,25] (z:=Mw (z:=Mw (z:=Cd (Np (z:=Cd (Fa (z:=Cd (Ld (z:=Cd (Ln (z:=Cd (Lt (z:=Mw (z:=Hy (z:=Mq (z:=Hy (z:=Np (z:=Hy (z:=Fa (z:=Hy (z:=Ld (z:=Hy (z:=Np (z:=Hy (z:=Fa (z:=Hy (z:=Ld (z:=Hy (z:=Mq (z:=Hy (z:=Np (z:=Hy (z:=Fa (z:=Hy (z:=Ld (z:=Hy (z:=Mq (z:=Hy (z:=Ix (z:=Hy (z:=Ld (z:=Hy (z:=Ix (z:=Hy (z:=Ld (z:=Hy (z:=Ei (z:=Cd (Pt (z:=Nz ?_))))))))))))))))))))))))))))))))))))))))))))))))))))
       rw [ek]
       refine WC.condD rfl (fun h8 h8b=>?_) (fun h8 h8b=>?_)
       ·rw [if_pos h8] at hres8
        refine WC.skip (WC.seq (WC.block (Rg (Mv (z:=Mv (z:=Mv (z:=Co ?_)))))))
        refine SV.callM rfl rfl (become_sp hX0 hM8 hT8 hS8 ⟨by omega,by omega⟩) ?_
        rintro v s9 H9 hn9 hM9 ⟨rfl,rfl⟩
        rw [Hp.up_up] at hM9
        refine Nl (Rg (Mv (z:=Co (Ad (z:=Av (z:=Nl ?_))))))
        exact ⟨rfl,(k+1,_),Ho,⟨by omega,hM9,becomeM_length.trans hN8,by dsimp only;omega,hres8⟩,by dsimp only;omega⟩
       ·rw [if_neg h8] at hres8
        refine WC.exit ?_
        rw [←hres8] at hres6
        refine Rg (Co (Ad (z:=Mv (z:=Nl ?_))))
        exact ⟨rfl,(1+1,N8),⟨rfl,rfl,rfl,rfl,rfl,rfl,rfl,rfl,trivial⟩,⟨by omega,hM8,hN8,by dsimp only;omega,by dsimp only;omega,hres6⟩,by dsimp only;omega⟩
      ·rw [show S.A.length-k.toNat=0 by omega] at hres8
       simp only [trailM] at hres8
       refine WC.seq (WC.seq (WC.dr [0,1,2,3,4,5,6,7,8,9,10,11,12,13,14,15,16,17,18,19,20,21,22,23,24,25] (z:=Mw (z:=Mw (z:=Cd (Np (z:=Cd (Fa (z:=Cd (Ld (z:=Cd (Ln (z:=Cd (Lt (z:=Mw (z:=Hn (z:=Hn (z:=Hn (z:=Hn (z:=Hn (z:=Hn (z:=Hn (z:=Hn (z:=Hn (z:=Hn (z:=Hn (z:=Hn (z:=Hn (z:=Hn (z:=Hn (z:=Hn (z:=Hn (z:=Cd (Pf (z:=Nz (Cf (z:=WC.exit ?_)))))))))))))))))))))))))))))))))))))
       rw [←hres8] at hres6
       refine Rg (Co (Ad (z:=Mv (z:=Nl ?_))))
       exact ⟨rfl,(1+1,N8),⟨rfl,rfl,rfl,rfl,rfl,rfl,rfl,rfl,trivial⟩,⟨by omega,hM8,hN8,by dsimp only;omega,by dsimp only;omega,hres6⟩,by dsimp only;omega⟩
    ·refine WC.exit ?_
     rw [show j.toNat=2 by omega] at hres6
     simp only [List.drop_succ_cons,List.drop_zero,bothM] at hres6
     rw [←hres6] at hres
     refine Rg (Co (Ad (z:=Mv (z:=Nl ?_))))
     exact ⟨rfl,(i+1,N6),Ho,⟨by omega,drop hM6,hN6,by dsimp only;omega,by dsimp only;omega,hres⟩,by dsimp only;omega⟩
   ·rw [if_neg (by intro h;cases h.1),if_neg (by intro h;cases h.1)] at hres
    refine Rg (Mv (z:=Co (Nn (z:=Mv (z:=Gn (z:=Gn (z:=Co (Pf (z:=Nl (Cf (z:=WC.skip (WC.seq (Rg (Mv (z:=Av (z:=Nl (WC.seq (WC.seq (Rg (Mv (z:=Co (Nn (z:=Mv (z:=Gn (z:=Gn (z:=Gn (z:=Gn (z:=Gn (z:=Gn (z:=Gn (z:=Co (Pf (z:=Nl (Cf (z:=WC.skip (WC.seq (Rg (Co ?_))))))))))))))))))))))))))))))))))))))
    refine SV.loadMA (l:=[.int .i64 a,.int .i64 b]) (by assumption) rfl hbx4 rfl (fun t u hu=>by rw [Nat.zero_add];exact hu) ?_
    refine Mv (z:=Nl (WC.block ?_))
    generalize hBO:bothM S.A D.F (dir) [a,b] N=BO at hres
    refine WC.loop (D:=Int×List Int) (fun x=>[(0,.pointer (some ⟨S.q,0,none⟩)),(2,.int .i64 dir),(9,.int .i64 (dir)),(19,.slice (some ⟨ν,0,none⟩) PP.length c),(20,.int .i64 PP.length),(21,.int .i64 i),(71,.agg #[.int .i64 a,.int .i64 b]),(72,.int .i64 x.1)])
     (fun x s6=>s.next≤s6.next∧Models ro s6 (Hq.up D.w (.row 1 (x.2.map (.int .i64))))∧x.2.length=D.n∧0≤x.1∧x.1≤2∧bothM S.A D.F (dir) ([a,b].drop x.1.toNat) x.2=BO)
     (fun x=>2-x.1.toNat) (0,N) ?_ ⟨by omega,(by assumption),hN,by dsimp only;omega,by dsimp only;omega,hBO⟩ ?_
    ·exact Ho
    rintro ⟨j,N6⟩ g6 s6 ⟨hn6,hM6,hN6,hj0,hj1,hres6⟩
    dsimp only at hn6 hM6 hN6 hj0 hj1 hres6 ⊢
    have hT6:=hTq.setN hN6
    have hS6:=hSq.setN (o:=.row 1 (N6.map (.int .i64))) (N':=N6)
    refine WC.seq (Rg (Co (Lt (z:=Nl (WC.seq ?_)))))
    refine WC.condD rfl (fun h2 h2b=>?_) (fun h2 h2b=>?_)
    ·rcases (show j=0∨j=1 by omega) with rfl | rfl
     ·simp only [show (0:Int).toNat=0 from rfl,List.drop_zero] at hres6
      rw [bothM] at hres6
      refine WC.skip (WC.seq (WC.block (WC.seq (Rg ?_))))
      refine WO.cons (SV.index rfl rfl (by omega) (by rfl) ?_) (by decide)
      refine Av (z:=Nl (WC.seq (Rg (Mv (z:=Mv (z:=Mv (z:=Co ?_)))))))
      refine SV.callM rfl rfl (become_sp hX0 hM6 hT6 hS6 ⟨by omega,by omega⟩) ?_
      rintro v s7 H7 hn7 hM7 ⟨rfl,rfl⟩
      rw [Hp.up_up] at hM7
      have hN7:(becomeM S.A N6 a (dir)).length=D.n:=becomeM_length.trans hN6
      refine Nl (WC.seq (Rg (Mv (z:=Co (Ad (z:=Av (z:=Nl (WC.block ?_))))))))
      generalize hTR:trailM S.A D.F (dir) (S.A.length-(a+1).toNat) (a+1) (becomeM S.A N6 a (dir))=TR at hres6
      refine WC.loop (D:=Int×List Int) (fun x=>[(0,.pointer (some ⟨S.q,0,none⟩)),(2,.int .i64 dir),(9,.int .i64 (dir)),(12,.int .i64 x.1),(19,.slice (some ⟨ν,0,none⟩) PP.length c),(20,.int .i64 PP.length),(21,.int .i64 i),(71,.agg #[.int .i64 a,.int .i64 b]),(72,.int .i64 0)])
       (fun x s8=>s.next≤s8.next∧Models ro s8 (Hq.up D.w (.row 1 (x.2.map (.int .i64))))∧x.2.length=D.n∧0≤x.1∧trailM S.A D.F (dir) (S.A.length-x.1.toNat) x.1 x.2=TR)
       (fun x=>S.A.length-x.1.toNat) (a+1,becomeM S.A N6 a (dir)) ?_ ⟨by omega,hM7,hN7,by dsimp only;omega,hTR⟩ ?_
      ·exact Ho
      rintro ⟨k,N8⟩ g8 s8 ⟨hn8,hM8,hN8,hk0,hres8⟩
      dsimp only at hn8 hM8 hN8 hk0 hres8 ⊢
      have hT8:=hTq.setN hN8
      have hS8:=hSq.setN (o:=.row 1 (N8.map (.int .i64))) (N':=N8)
      obtain ⟨e8,cc,cf,cw,cl,cm,ht8⟩:=hT8.t
      obtain ⟨e9,ca9,hq8⟩:=hS8.q
      obtain ⟨r8,ha8⟩:=hS8.a
      have hf8:=hT8.f
      have hnF:=hT8.nF
      dsimp only at ht8 hf8 hnF
      have hl8:(S.A++r8).length=S.A.length+r8.length:=List.length_append
      rcases dc (k < ↑S.A.length) with ⟨hkl,hklb⟩ | ⟨hkl,hklb⟩
      ·have hak:=hS8.at hk0 hkl
       rw [←rd_app (r:=r8) hk0 hkl] at hak
       have ek:rd (S.A++r8) k=rd S.A k:=rd_app hk0 hkl
       dsimp only at hak
       rw [show S.A.length-k.toNat=(S.A.length-(k+1).toNat)+1 by omega] at hres8
       simp only [trailM] at hres8
       refine WC.seq (WC.seq (WC.dr [0,1,2,3,4,5,6,7,8,9,10,11,12,13,14,15,16,17,18,19,20,21,22,23,24,25] (z:=Mw (z:=Mw (z:=Cd (Np (z:=Cd (Fa (z:=Cd (Ld (z:=Cd (Ln (z:=Cd (Lt (z:=Mw (z:=Hy (z:=Mq (z:=Hy (z:=Np (z:=Hy (z:=Fa (z:=Hy (z:=Ld (z:=Hy (z:=Np (z:=Hy (z:=Fa (z:=Hy (z:=Ld (z:=Hy (z:=Mq (z:=Hy (z:=Np (z:=Hy (z:=Fa (z:=Hy (z:=Ld (z:=Hy (z:=Mq (z:=Hy (z:=Ix (z:=Hy (z:=Ld (z:=Hy (z:=Ix (z:=Hy (z:=Ld (z:=Hy (z:=Ei (z:=Cd (Pt (z:=Nz ?_))))))))))))))))))))))))))))))))))))))))))))))))))))
       rw [ek]
       refine WC.condD rfl (fun h8 h8b=>?_) (fun h8 h8b=>?_)
       ·rw [if_pos h8] at hres8
        refine WC.skip (WC.seq (WC.block (Rg (Mv (z:=Mv (z:=Mv (z:=Co ?_)))))))
        refine SV.callM rfl rfl (become_sp hX0 hM8 hT8 hS8 ⟨by omega,by omega⟩) ?_
        rintro v s9 H9 hn9 hM9 ⟨rfl,rfl⟩
        rw [Hp.up_up] at hM9
        refine Nl (Rg (Mv (z:=Co (Ad (z:=Av (z:=Nl ?_))))))
        exact ⟨rfl,(k+1,_),Ho,⟨by omega,hM9,becomeM_length.trans hN8,by dsimp only;omega,hres8⟩,by dsimp only;omega⟩
       ·rw [if_neg h8] at hres8
        refine WC.exit ?_
        rw [←hres8] at hres6
        refine Rg (Co (Ad (z:=Mv (z:=Nl ?_))))
        exact ⟨rfl,(0+1,N8),⟨rfl,rfl,rfl,rfl,rfl,rfl,rfl,rfl,trivial⟩,⟨by omega,hM8,hN8,by dsimp only;omega,by dsimp only;omega,hres6⟩,by dsimp only;omega⟩
      ·rw [show S.A.length-k.toNat=0 by omega] at hres8
       simp only [trailM] at hres8
       refine WC.seq (WC.seq (WC.dr [0,1,2,3,4,5,6,7,8,9,10,11,12,13,14,15,16,17,18,19,20,21,22,23,24,25] (z:=Mw (z:=Mw (z:=Cd (Np (z:=Cd (Fa (z:=Cd (Ld (z:=Cd (Ln (z:=Cd (Lt (z:=Mw (z:=Hn (z:=Hn (z:=Hn (z:=Hn (z:=Hn (z:=Hn (z:=Hn (z:=Hn (z:=Hn (z:=Hn (z:=Hn (z:=Hn (z:=Hn (z:=Hn (z:=Hn (z:=Hn (z:=Hn (z:=Cd (Pf (z:=Nz (Cf (z:=WC.exit ?_)))))))))))))))))))))))))))))))))))))
       rw [←hres8] at hres6
       refine Rg (Co (Ad (z:=Mv (z:=Nl ?_))))
       exact ⟨rfl,(0+1,N8),⟨rfl,rfl,rfl,rfl,rfl,rfl,rfl,rfl,trivial⟩,⟨by omega,hM8,hN8,by dsimp only;omega,by dsimp only;omega,hres6⟩,by dsimp only;omega⟩
     ·simp only [show (1:Int).toNat=1 from rfl,List.drop_succ_cons,List.drop_zero] at hres6
      rw [bothM] at hres6
      refine WC.skip (WC.seq (WC.block (WC.seq (Rg ?_))))
      refine WO.cons (SV.index rfl rfl (by omega) (by rfl) ?_) (by decide)
      refine Av (z:=Nl (WC.seq (Rg (Mv (z:=Mv (z:=Mv (z:=Co ?_)))))))
      refine SV.callM rfl rfl (become_sp hX0 hM6 hT6 hS6 ⟨by omega,by omega⟩) ?_
      rintro v s7 H7 hn7 hM7 ⟨rfl,rfl⟩
      rw [Hp.up_up] at hM7
      have hN7:(becomeM S.A N6 b (dir)).length=D.n:=becomeM_length.trans hN6
      refine Nl (WC.seq (Rg (Mv (z:=Co (Ad (z:=Av (z:=Nl (WC.block ?_))))))))
      generalize hTR:trailM S.A D.F (dir) (S.A.length-(b+1).toNat) (b+1) (becomeM S.A N6 b (dir))=TR at hres6
      refine WC.loop (D:=Int×List Int) (fun x=>[(0,.pointer (some ⟨S.q,0,none⟩)),(2,.int .i64 dir),(9,.int .i64 (dir)),(12,.int .i64 x.1),(19,.slice (some ⟨ν,0,none⟩) PP.length c),(20,.int .i64 PP.length),(21,.int .i64 i),(71,.agg #[.int .i64 a,.int .i64 b]),(72,.int .i64 1)])
       (fun x s8=>s.next≤s8.next∧Models ro s8 (Hq.up D.w (.row 1 (x.2.map (.int .i64))))∧x.2.length=D.n∧0≤x.1∧trailM S.A D.F (dir) (S.A.length-x.1.toNat) x.1 x.2=TR)
       (fun x=>S.A.length-x.1.toNat) (b+1,becomeM S.A N6 b (dir)) ?_ ⟨by omega,hM7,hN7,by dsimp only;omega,hTR⟩ ?_
      ·exact Ho
      rintro ⟨k,N8⟩ g8 s8 ⟨hn8,hM8,hN8,hk0,hres8⟩
      dsimp only at hn8 hM8 hN8 hk0 hres8 ⊢
      have hT8:=hTq.setN hN8
      have hS8:=hSq.setN (o:=.row 1 (N8.map (.int .i64))) (N':=N8)
      obtain ⟨e8,cc,cf,cw,cl,cm,ht8⟩:=hT8.t
      obtain ⟨e9,ca9,hq8⟩:=hS8.q
      obtain ⟨r8,ha8⟩:=hS8.a
      have hf8:=hT8.f
      have hnF:=hT8.nF
      dsimp only at ht8 hf8 hnF
      have hl8:(S.A++r8).length=S.A.length+r8.length:=List.length_append
      rcases dc (k < ↑S.A.length) with ⟨hkl,hklb⟩ | ⟨hkl,hklb⟩
      ·have hak:=hS8.at hk0 hkl
       rw [←rd_app (r:=r8) hk0 hkl] at hak
       have ek:rd (S.A++r8) k=rd S.A k:=rd_app hk0 hkl
       dsimp only at hak
       rw [show S.A.length-k.toNat=(S.A.length-(k+1).toNat)+1 by omega] at hres8
       simp only [trailM] at hres8
       refine WC.seq (WC.seq (WC.dr [0,1,2,3,4,5,6,7,8,9,10,11,12,13,14,15,16,17,18,19,20,21,22,23,24,25] (z:=Mw (z:=Mw (z:=Cd (Np (z:=Cd (Fa (z:=Cd (Ld (z:=Cd (Ln (z:=Cd (Lt (z:=Mw (z:=Hy (z:=Mq (z:=Hy (z:=Np (z:=Hy (z:=Fa (z:=Hy (z:=Ld (z:=Hy (z:=Np (z:=Hy (z:=Fa (z:=Hy (z:=Ld (z:=Hy (z:=Mq (z:=Hy (z:=Np (z:=Hy (z:=Fa (z:=Hy (z:=Ld (z:=Hy (z:=Mq (z:=Hy (z:=Ix (z:=Hy (z:=Ld (z:=Hy (z:=Ix (z:=Hy (z:=Ld (z:=Hy (z:=Ei (z:=Cd (Pt (z:=Nz ?_))))))))))))))))))))))))))))))))))))))))))))))))))))
       rw [ek]
       refine WC.condD rfl (fun h8 h8b=>?_) (fun h8 h8b=>?_)
       ·rw [if_pos h8] at hres8
        refine WC.skip (WC.seq (WC.block (Rg (Mv (z:=Mv (z:=Mv (z:=Co ?_)))))))
        refine SV.callM rfl rfl (become_sp hX0 hM8 hT8 hS8 ⟨by omega,by omega⟩) ?_
        rintro v s9 H9 hn9 hM9 ⟨rfl,rfl⟩
        rw [Hp.up_up] at hM9
        refine Nl (Rg (Mv (z:=Co (Ad (z:=Av (z:=Nl ?_))))))
        exact ⟨rfl,(k+1,_),Ho,⟨by omega,hM9,becomeM_length.trans hN8,by dsimp only;omega,hres8⟩,by dsimp only;omega⟩
       ·rw [if_neg h8] at hres8
        refine WC.exit ?_
        rw [←hres8] at hres6
        refine Rg (Co (Ad (z:=Mv (z:=Nl ?_))))
        exact ⟨rfl,(1+1,N8),⟨rfl,rfl,rfl,rfl,rfl,rfl,rfl,rfl,trivial⟩,⟨by omega,hM8,hN8,by dsimp only;omega,by dsimp only;omega,hres6⟩,by dsimp only;omega⟩
      ·rw [show S.A.length-k.toNat=0 by omega] at hres8
       simp only [trailM] at hres8
       refine WC.seq (WC.seq (WC.dr [0,1,2,3,4,5,6,7,8,9,10,11,12,13,14,15,16,17,18,19,20,21,22,23,24,25] (z:=Mw (z:=Mw (z:=Cd (Np (z:=Cd (Fa (z:=Cd (Ld (z:=Cd (Ln (z:=Cd (Lt (z:=Mw (z:=Hn (z:=Hn (z:=Hn (z:=Hn (z:=Hn (z:=Hn (z:=Hn (z:=Hn (z:=Hn (z:=Hn (z:=Hn (z:=Hn (z:=Hn (z:=Hn (z:=Hn (z:=Hn (z:=Hn (z:=Cd (Pf (z:=Nz (Cf (z:=WC.exit ?_)))))))))))))))))))))))))))))))))))))
       rw [←hres8] at hres6
       refine Rg (Co (Ad (z:=Mv (z:=Nl ?_))))
       exact ⟨rfl,(1+1,N8),⟨rfl,rfl,rfl,rfl,rfl,rfl,rfl,rfl,trivial⟩,⟨by omega,hM8,hN8,by dsimp only;omega,by dsimp only;omega,hres6⟩,by dsimp only;omega⟩
    ·refine WC.exit ?_
     rw [show j.toNat=2 by omega] at hres6
     simp only [List.drop_succ_cons,List.drop_zero,bothM] at hres6
     rw [←hres6] at hres
     refine Rg (Co (Ad (z:=Mv (z:=Nl ?_))))
     exact ⟨rfl,(i+1,N6),Ho,⟨by omega,drop hM6,hN6,by dsimp only;omega,by dsimp only;omega,hres⟩,by dsimp only;omega⟩
 ·refine WC.exit ?_
  rw [List.drop_of_length_le (by omega)] at hres
  simp only [bracM] at hres
  rw [←hres]
  refine fin_none (e:=.normal) rfl trivial (by omega) (hM3.sub fun ν o e=>?_) ⟨rfl,rfl⟩
  unfold Hp.up at e ⊢
  by_cases h1:ν=D.w
  ·rw [if_pos h1] at e ⊢;exact e
  ·rw [if_neg h1] at e ⊢;exact hfr.kp _ _ e
end Go.Proofs.Ythkklpegjcnjoaa
