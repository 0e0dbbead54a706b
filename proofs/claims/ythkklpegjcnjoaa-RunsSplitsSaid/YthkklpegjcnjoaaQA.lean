/- A part of the proof: no condition but those that each theorem states. -/
import Derived.Test.YthkklpegjcnjoaaLgT
import Derived.Test.YthkklpegjcnjoaaTD
import Derived.Test.YthkklpegjcnjoaaPA
set_option linter.unusedVariables false
set_option linter.unusedSimpArgs false
namespace Go.Proofs.Ythkklpegjcnjoaa
open Go.Ab
variable {X:CallE} {ro:Nat}
set_option maxRecDepth 10000
theorem SlO.ofRow {H:Hp} {ν n:Nat} {sz:Nat} {ws:List Value} (h:H ν=some (.row sz ws)) (hl:ws.length=n*sz):SlO H (.slice (some ⟨ν,0,none⟩) n n) sz n ws:=
 .inr ⟨ν,n,ws,rfl,h,hl,Nat.le_refl _,by rw [←hl,List.take_length]⟩
theorem app_fresh {H H8:Hp} {a0 n:Nat} {v8:Value} {C:List Int} (hne0:∀ ν o,H ν=some o→ν≠a0) (hn:C.length=n) (hk:KeptBut (H.up a0 (.row 1 [])) H8 (.slice (some ⟨a0,0,none⟩) 0 0)) (hnew:NewOr (H.up a0 (.row 1 [])) (.slice (some ⟨a0,0,none⟩) 0 0) v8)
 (hex:AppEx (H.up a0 (.row 1 [])) H8 (.slice (some ⟨a0,0,none⟩) 0 0) v8 1 0 (0+n) ([]++C.map (.int .i64))) :
 ∃ a,v8 = .slice (some ⟨a,0,none⟩) n n∧H8 a=some (.row 1 (C.map (.int .i64)))∧∀ ν o,H ν=some o→H8 ν=some o∧ν≠a:=by
 have hfr:∀ ν o,H ν=some o→baseV v8≠some ν:=fun ν o e h=>by
  rcases hnew ν h with h1 | h1
  ·cases h1;exact hne0 _ _ e rfl
  ·rw [Hp.up_ne (hne0 _ _ e) e] at h1;cases h1
 have hkeep:∀ ν o,H ν=some o→H8 ν=some o:=fun ν o e=>hk ν o (Hp.up_ne (hne0 _ _ e) e) (fun h=>by cases h;exact hne0 _ _ e rfl)
 by_cases hn0:n=0
 ·subst hn0
  obtain rfl:C=[]:=List.length_eq_zero_iff.mp hn
  obtain rfl:=hex.2.2.1 _ _ _ rfl (Nat.le_refl _)
  exact ⟨a0,rfl,hex.2.2.2 rfl _ _ Hp.up_same,fun ν o e=>⟨hkeep ν o e,hne0 ν o e⟩⟩
 ·obtain ⟨a1,rfl,h1⟩:=hex.2.1 _ _ _ rfl (by omega)
  rw [Nat.zero_add] at *
  exact ⟨a1,rfl,h1,fun ν o e=>⟨hkeep ν o e,fun e2=>hfr ν o e (by rw [e2];rfl)⟩⟩
theorem app_one {H H8:Hp} {a b k:Nat} {v8:Value} {O:List Int} {x:Int} (ha:H a=some (.row 1 (O.map (.int .i64)))) (hO:O.length=k) (hb:∀ ν o,H ν=some o→ν≠b)
 (hk:KeptBut (H.up b (.row 1 [.int .i64 x])) H8 (.slice (some ⟨a,0,none⟩) k k)) (hnew:NewOr (H.up b (.row 1 [.int .i64 x])) (.slice (some ⟨a,0,none⟩) k k) v8)
 (hex:AppEx (H.up b (.row 1 [.int .i64 x])) H8 (.slice (some ⟨a,0,none⟩) k k) v8 1 k (k+1) (O.map (.int .i64)++[.int .i64 x])) :
 ∃ a',v8 = .slice (some ⟨a',0,none⟩) (k+1) (k+1)∧H8 a'=some (.row 1 ((O++[x]).map (.int .i64)))∧∀ ν o,H ν=some o→ν≠a→H8 ν=some o∧ν≠a':=by
 obtain ⟨a',rfl,h1⟩:=hex.2.1 _ _ _ rfl (by omega)
 refine ⟨a',rfl,by rw [List.map_append];exact h1,fun ν o e hne=>⟨hk ν o (Hp.up_ne (hb ν o e) e) (fun h=>hne (by cases h;rfl)),fun e2=>?_⟩⟩
 subst e2
 rcases hnew ν rfl with h | h
 ·cases h;exact hne rfl
 ·rw [Hp.up_ne (hb ν o e) e] at h;cases h
instance:TArr Try.prog 32 2 23 1:=⟨Try.underlying32,by kernel_rfl⟩
instance:TAgg Try.prog 32 2:=⟨by kernel_rfl,by kernel_rfl⟩
instance:TZero Try.prog 32 [.slice none 0 0,.slice none 0 0]:=⟨by kernel_rfl⟩
theorem class_sp {Y:Exts} {s:St} {H:Hp} {c:Int} (hX:ExtOk X ro Y) (hM:Models ro s H):Sp X Try.prog ro 18 [.int .i64 c] s fun v H'=>v = .int .i64 (Y.LB c)∧H'=H:=by
 have hX0:=hX.own
 refine Bo hX.own Try.func18 Try.ntmps18 (z:=?_)
 refine WC.seq (Rg (Av (z:=Nl (WC.seq (Rg (Mv (z:=Co ?_)))))))
 refine SV.callM rfl rfl (hX.look44 _ _ _ hM) ?_
 rintro v s1 H1 hn1 hM1 ⟨rfl,rfl⟩
 refine WO.cons (SV.field rfl rfl ?_) (by decide)
 refine Av (z:=Nl (WC.ret ?_))
 exact fin_one (e:=.ret) (v:=.int .i64 _) rfl trivial rfl hn1 hM1 ⟨rfl,rfl⟩
theorem opens_sp {s:St} {H:Hp} {c:Int} (hX:OwnX X) (hM:Models ro s H):Sp X Try.prog ro 19 [.int .i64 c] s fun v H'=>v = .bool (decide (isOpener c))∧H'=H:=by
 refine Bo hX Try.func19 Try.ntmps19 (z:=?_)
 refine WC.seq (Rg (Av (z:=Nl (WC.seq (Rg (Mv (z:=Co (Ei (z:=Mv (z:=?_))))))))))
 refine WO.guardDF rfl rfl rfl (fun hg1_3 hh1_3=>SV.moveV (by constructor) ?_) (fun hg1_3 hh1_3=>?_) (by decide)
 all_goals (first | refine Gy (z:=Ei (z:=?_)) | refine Gn (z:=?_))
 all_goals (first | refine Co (Pt (z:=?_)) | refine Co (Pf (z:=?_)))
 all_goals refine Mv (z:=?_)
 all_goals (first | refine Gn (z:=?_) | refine WO.guardDF rfl rfl rfl (fun hg1_7 hh1_7=>SV.moveV (by constructor) ?_) (fun hg1_7 hh1_7=>?_) (by decide))
 all_goals (first | refine Gy (z:=Ei (z:=?_)) | refine Gn (z:=?_))
 all_goals (first | refine Co (Pt (z:=?_)) | refine Co (Pf (z:=?_)))
 all_goals refine Av (z:=Nl ?_)
 all_goals (skip;refine WC.ret ?_;refine fin_one (v:=.bool _) rfl trivial rfl (Nat.le_refl _) hM ⟨?_,rfl⟩;simp [isOpener, *])
theorem gone_sp {s:St} {H:Hp} {c:Int} (hX:OwnX X) (hM:Models ro s H):Sp X Try.prog ro 20 [.int .i64 c] s fun v H'=>v = .bool (decide (isRemoved c))∧H'=H:=by
 refine Bo hX Try.func20 Try.ntmps20 (z:=?_)
 refine WC.seq (Rg (Av (z:=Nl (WC.seq (Rg (Mv (z:=Co (Ei (z:=Mv (z:=?_))))))))))
 refine WO.guardDF rfl rfl rfl (fun hg1_3 hh1_3=>SV.moveV (by constructor) ?_) (fun hg1_3 hh1_3=>?_) (by decide)
 all_goals (first | refine Gy (z:=Ei (z:=?_)) | refine Gn (z:=?_))
 all_goals (first | refine Co (Pt (z:=?_)) | refine Co (Pf (z:=?_)))
 all_goals refine Mv (z:=?_)
 all_goals (first | refine Gn (z:=?_) | refine WO.guardDF rfl rfl rfl (fun hg1_7 hh1_7=>SV.moveV (by constructor) ?_) (fun hg1_7 hh1_7=>?_) (by decide))
 all_goals (first | refine Gy (z:=Ei (z:=?_)) | refine Gn (z:=?_))
 all_goals (first | refine Co (Pt (z:=?_)) | refine Co (Pf (z:=?_)))
 all_goals refine Mv (z:=?_)
 all_goals (first | refine Gn (z:=?_) | refine WO.guardDF rfl rfl rfl (fun hg1_11 hh1_11=>SV.moveV (by constructor) ?_) (fun hg1_11 hh1_11=>?_) (by decide))
 all_goals (first | refine Gy (z:=Ei (z:=?_)) | refine Gn (z:=?_))
 all_goals (first | refine Co (Pt (z:=?_)) | refine Co (Pf (z:=?_)))
 all_goals refine Mv (z:=?_)
 all_goals (first | refine Gn (z:=?_) | refine WO.guardDF rfl rfl rfl (fun hg1_15 hh1_15=>SV.moveV (by constructor) ?_) (fun hg1_15 hh1_15=>?_) (by decide))
 all_goals (first | refine Gy (z:=Ei (z:=?_)) | refine Gn (z:=?_))
 all_goals (first | refine Co (Pt (z:=?_)) | refine Co (Pf (z:=?_)))
 all_goals refine Mv (z:=?_)
 all_goals (first | refine Gn (z:=?_) | refine WO.guardDF rfl rfl rfl (fun hg1_19 hh1_19=>SV.moveV (by constructor) ?_) (fun hg1_19 hh1_19=>?_) (by decide))
 all_goals (first | refine Gy (z:=Ei (z:=?_)) | refine Gn (z:=?_))
 all_goals (first | refine Co (Pt (z:=?_)) | refine Co (Pf (z:=?_)))
 all_goals refine Av (z:=Nl ?_)
 all_goals (skip;refine WC.ret ?_;refine fin_one (v:=.bool _) rfl trivial rfl (Nat.le_refl _) hM ⟨?_,rfl⟩;first | (simp_all [isRemoved];done) | exact congrArg Value.bool (decide_eq_decide.mpr (by unfold isRemoved;omega)))
end Go.Proofs.Ythkklpegjcnjoaa
namespace Go.Ab
noncomputable section
theorem SV.indexG {X:CallE} {P:Program} {ro:Nat} {g:Gm} {s:St} {R:Value→St→Prop} {t e:TypeId} {len n:Nat} {x ix:Operand} [h:TArr P t len e n] [hc:TAgg P e n] {cs:Array Value} {k:IntKind} {i:Int} {l:List Value} (hx:og g x = .agg cs) (hi:og g ix = .int k i) (h0:0≤i∧i<len) (hl:(cs.toList.drop (i.toNat*n)).take n=l)
 (hR:R (.agg l.toArray) s):SV X P ro g (.index t x ix) s R:=by
 subst hl
 refine SV.pure (fun t' ht=>?_) hR
 obtain ⟨m,rfl⟩:∃ m:Nat,i=Int.ofNat m:=⟨i.toNat,by simp;omega⟩
 have hlt:Nat.blt m len=true:=by rw [Nat.blt_eq];have:=h0.2;simp at this;omega
 simp only [evalOp,opv_og,ht,hx,hi,h.und,hlt,cond_true,h.sz,partOf,hc.ag,hc.sz]
 have:m=(Int.ofNat m).toNat:=rfl
 rw [←this]
end
end Go.Ab
namespace Go.Proofs.Ythkklpegjcnjoaa
open Go.Ab
set_option linter.unusedVariables false
set_option linter.unusedSimpArgs false
def Rdd (H:Hp) (A:Option Addr) (C:List Int):Prop:=∀ i:Int,0≤i→i<C.length→∃ ν o f,A=some ⟨ν,o,none⟩∧H ν=some (.rd f)∧f (o+i.toNat*1)=some (.int .i64 (rd C i))
theorem Rdd.mono {H H':Hp} {A:Option Addr} {C:List Int} (h:Rdd H A C) (hk:∀ ν o,H ν=some o→H' ν=some o):Rdd H' A C:=fun i a d=>by
 obtain ⟨ν,o,f,e,h1,h2⟩:=h i a d
 exact ⟨ν,o,f,e,hk _ _ h1,h2⟩
theorem rd_map {f:Int→Int} {C:List Int} {p:Int} (h0:0≤p) (h1:p<C.length):rd (C.map f) p=f (rd C p):=by
 rw [rd_at h0 (by rw [List.length_map];exact h1),rd_at h0 h1,List.getElem_map]
end Go.Proofs.Ythkklpegjcnjoaa
namespace Go.Proofs.Ythkklpegjcnjoaa
open Go.Ab
variable {X:CallE} {ro:Nat}
set_option maxRecDepth 10000
def higherD (a b:Int):Int:=if b>a then b.tmod 2 else a.tmod 2
theorem higher_sp {s:St} {H:Hp} {a b:Int} (hX:OwnX X) (hM:Models ro s H):Sp X Try.prog ro 89 [.int .i64 a,.int .i64 b] s fun v H'=>v = .int .i64 (higherD a b)∧H'=H:=by
 refine Bo hX Try.func89 Try.ntmps89 (z:=?_)
 refine WC.seq (Rg (Av (z:=Nl (WC.seq (WC.seq (Rg (Mv (z:=Mv (z:=Co (Gt (z:=Nl ?_)))))))))))
 refine WC.condD rfl (fun hc hcb=>?_) (fun hc hcb=>?_)
 ·skip
  refine Rg (Mv (z:=Av (z:=Nl (WC.seq (Rg (Mv (z:=Co (Rm (z:=Av (z:=Nl (WC.ret ?_)))))))))))
  exact fin_one (e:=.ret) (v:=.int .i64 _) rfl trivial rfl (Nat.le_refl _) hM ⟨by unfold higherD;rw [if_pos hc],rfl⟩
 ·refine WC.skip (WC.seq (Rg (Mv (z:=Co (Rm (z:=Av (z:=Nl (WC.ret ?_))))))))
  exact fin_one (e:=.ret) (v:=.int .i64 _) rfl trivial rfl (Nat.le_refl _) hM ⟨by unfold higherD;rw [if_neg hc],rfl⟩
def strongD (c:Int):Int:=if c=0 then 0 else if c=1∨c=3∨c=6 then 1 else -1
theorem strongD_sp {s:St} {H:Hp} {c:Int} (hX:OwnX X) (hM:Models ro s H):Sp X Try.prog ro 91 [.int .i64 c] s fun v H'=>v = .int .i64 (strongD c)∧H'=H:=by
 refine Bo hX Try.func91 Try.ntmps91 (z:=?_)
 refine WC.seq (Rg (Av (z:=Nl (WC.seq (WC.seq (Rg (Mv (z:=Co (Ei (z:=Nl ?_))))))))))
 rcases dc (c=0) with ⟨h0,hd⟩ | ⟨h0,hd⟩
 ·refine Ct (z:=WC.seq (Rg (Av (z:=Nl (WC.ret ?_)))))
  exact fin_one (e:=.ret) (v:=.int .i64 0) rfl trivial rfl (Nat.le_refl _) hM ⟨by unfold strongD;rw [if_pos h0],rfl⟩
 refine Cf (z:=WC.skip (WC.seq (WC.seq ?_)))
 by_cases h1:c=1∨c=3∨c=6
 ·have hv:(Value.int .i64 1) = .int .i64 (strongD c):=by unfold strongD;rw [if_neg h0,if_pos h1]
  rcases dc (c=1) with ⟨e1,hd1⟩ | ⟨e1,hd1⟩
  ·refine Rg (Mv (z:=Co (Ei (z:=Mv (z:=Gn (z:=Gn (z:=Co (Pt (z:=Mv (z:=Gn (z:=Gn (z:=Co (Pt (z:=Nl (Ct (z:=WC.seq (Rg (Av (z:=Nl (WC.ret ?_))))))))))))))))))))
   exact fin_one (e:=.ret) (v:=.int .i64 1) rfl trivial rfl (Nat.le_refl _) hM ⟨hv,rfl⟩
  rcases dc (c=3) with ⟨e3,hd3⟩ | ⟨e3,hd3⟩
  ·refine Rg (Mv (z:=Co (Ei (z:=Mv (z:=Gy (z:=Mq (z:=Gy (z:=Ei (z:=Co (Pf (z:=Mv (z:=Gn (z:=Gn (z:=Co (Pt (z:=Nl (Ct (z:=WC.seq (Rg (Av (z:=Nl (WC.ret ?_))))))))))))))))))))))
   exact fin_one (e:=.ret) (v:=.int .i64 1) rfl trivial rfl (Nat.le_refl _) hM ⟨hv,rfl⟩
  have hd6:decide (c=6)=true:=decide_eq_true (by omega)
  refine Rg (Mv (z:=Co (Ei (z:=Mv (z:=Gy (z:=Mq (z:=Gy (z:=Ei (z:=Co (Pf (z:=Mv (z:=Gy (z:=Mq (z:=Gy (z:=Ei (z:=Co (Pf (z:=Nl (Ct (z:=WC.seq (Rg (Av (z:=Nl (WC.ret ?_))))))))))))))))))))))))
  exact fin_one (e:=.ret) (v:=.int .i64 1) rfl trivial rfl (Nat.le_refl _) hM ⟨hv,rfl⟩
 ·have hd1:decide (c=1)=false:=decide_eq_false (by omega)
  have hd3:decide (c=3)=false:=decide_eq_false (by omega)
  have hd6:decide (c=6)=false:=decide_eq_false (by omega)
  refine Rg (Mv (z:=Co (Ei (z:=Mv (z:=Gy (z:=Mq (z:=Gy (z:=Ei (z:=Co (Pf (z:=Mv (z:=Gy (z:=Mq (z:=Gy (z:=Ei (z:=Co (Pf (z:=Nl (Cf (z:=WC.skip (WC.seq (Rg (Av (z:=Nl (WC.ret ?_)))))))))))))))))))))))))
  exact fin_one (e:=.ret) (v:=.int .i64 (-1)) rfl trivial rfl (Nat.le_refl _) hM ⟨by unfold strongD;rw [if_neg h0,if_neg h1],rfl⟩
def matchD (F:List Int):Nat→Int→Int→Int
 | 0,_,_=> -1
 | r+1,p,d=>if rd F p=10 then -1 else if rd F p=22 then (if d-1=0 then p else matchD F r (p+1) (d-1)) else matchD F r (p+1) (if isOpener (rd F p) then d+1 else d)
theorem matchD_sp {s:St} {H:Hp} {c cc:Nat} {F:List Int} {i:Int} (hX:OwnX X) (hM:Models ro s H) (hc:H c=some (.row 1 (F.map (.int .i64)))) (hn:F.length≤16384) (h0:0≤i∧i<F.length) :
 Sp X Try.prog ro 74 [.slice (some ⟨c,0,none⟩) F.length cc,.int .i64 i] s fun v H'=>v = .int .i64 (matchD F (F.length-(i+1).toNat) (i+1) 1)∧H'=H:=by
 refine Bo hX Try.func74 Try.ntmps74 (z:=?_)
 refine WC.seq (Rg (Av (z:=Nl (WC.seq (Rg (Av (z:=Nl (WC.seq (WC.seq (Rg (Mv (z:=Co (Ad (z:=Av (z:=Nl (WC.block ?_))))))))))))))))
 generalize hRES:matchD F (F.length-(i+1).toNat) (i+1) 1=RES
 refine WC.loop (D:=Int×Int) (fun x=>[(0,.slice (some ⟨c,0,none⟩) F.length cc),(5,.int .i64 x.2),(6,.int .i64 x.1)])
  (fun x s1=>s.next≤s1.next∧Models ro s1 H∧0≤x.1∧x.1≤F.length ∧ -x.1-1≤x.2∧x.2≤x.1+1∧matchD F (F.length-x.1.toNat) x.1 x.2=RES) (fun x=>F.length-x.1.toNat) (i+1,1) ?_ ⟨by omega,hM,by omega,by dsimp only;omega,by dsimp only;omega,by dsimp only;omega,hRES⟩ ?_
 ·exact Ho
 rintro ⟨p,d⟩ g s1 ⟨hn1,hM1,hp0,hp1,hd1,hd2,hres⟩
 dsimp only at hn1 hM1 hp0 hp1 hd1 hd2 hres ⊢
 rcases dc (p<(F.length:Int)) with ⟨hlt,hdl⟩ | ⟨hlt,hdl⟩
 ·rw [show F.length-p.toNat=(F.length-(p+1).toNat)+1 by omega] at hres
  simp only [matchD] at hres
  by_cases h10:rd F p=10
  ·have hd10:decide (rd F p≠10)=false:=decide_eq_false (fun h=>h h10)
   rw [if_pos h10] at hres
   refine WC.seq (WC.seq (Rg (Mv (z:=Mv (z:=Co (Ln (z:=Co (Lt (z:=Mv (z:=Gy (z:=Mq (z:=Gy (z:=Mq (z:=Gy (z:=Ix (z:=Gy (z:=Ld (z:=Gy (z:=Ni (z:=Co (Pt (z:=Nl (Cf (z:=WC.exit (WC.seq (Rg (Av (z:=Nl (WC.ret ?_)))))))))))))))))))))))))))))
   exact fin_one (e:=.ret) (v:=.int .i64 (-1)) rfl trivial rfl hn1 hM1 ⟨by rw [hres],rfl⟩
  have hd10:decide (rd F p≠10)=true:=decide_eq_true h10
  rw [if_neg h10] at hres
  refine WC.seq (WC.seq (Rg (Mv (z:=Mv (z:=Co (Ln (z:=Co (Lt (z:=Mv (z:=Gy (z:=Mq (z:=Gy (z:=Mq (z:=Gy (z:=Ix (z:=Gy (z:=Ld (z:=Gy (z:=Ni (z:=Co (Pt (z:=Nl (Ct (z:=WC.skip (WC.seq (WC.block (WC.seq (WC.seq (Rg (Mv (z:=Mv (z:=Co (Ix (z:=Co (Ld (z:=Co ?_))))))))))))))))))))))))))))))))))))
  refine SV.callM rfl rfl (opens_sp hX hM1) ?_
  rintro v s2 H2 hn2 hM2 ⟨rfl,eH⟩
  rw [eH] at hM2
  clear eH
  rcases dc (isOpener (rd F p)) with ⟨hop,hod⟩ | ⟨hop,hod⟩
  ·have h22:¬ rd F p=22:=fun e=>by unfold isOpener at hop;omega
   have hd22:decide (rd F p=22)=false:=decide_eq_false h22
   rw [if_neg h22,if_pos hop] at hres
   refine Nl (Ct (z:=Rg (Mv (z:=Co (Ad (z:=Av (z:=Nl (WC.seq (Rg (Mv (z:=Mv (z:=Co (Ix (z:=Co (Ld (z:=Co (Ei (z:=Nl (Cf (z:=WC.skip (Rg (Mv (z:=Co (Ad (z:=Av (z:=Nl ?_))))))))))))))))))))))))))
   exact ⟨rfl,(p+1,d+1),Ho,⟨by omega,hM2,by dsimp only;omega,by dsimp only;omega,by dsimp only;omega,by dsimp only;omega,hres⟩,by dsimp only;omega⟩
  refine Nl (Cf (z:=WC.skip (WC.seq ?_)))
  rcases dc (rd F p=22) with ⟨h22,hd22⟩ | ⟨h22,hd22⟩
  ·rw [if_pos h22] at hres
   refine Rg (Mv (z:=Mv (z:=Co (Ix (z:=Co (Ld (z:=Co (Ei (z:=Nl (Ct (z:=WC.seq (Rg (Mv (z:=Co (Sb (z:=Av (z:=Nl ?_)))))))))))))))))
   rcases dc (d-1=0) with ⟨hz,hdz⟩ | ⟨hz,hdz⟩
   ·rw [if_pos hz] at hres
    refine WC.seq (Rg (Mv (z:=Co (Ei (z:=Nl (Ct (z:=WC.seq (Rg (Mv (z:=Av (z:=Nl (WC.ret ?_))))))))))))
    exact fin_one (e:=.ret) (v:=.int .i64 _) rfl trivial rfl (by omega) hM2 ⟨by rw [hres],rfl⟩
   ·rw [if_neg hz] at hres
    refine WC.seq (Rg (Mv (z:=Co (Ei (z:=Nl (Cf (z:=WC.skip (Rg (Mv (z:=Co (Ad (z:=Av (z:=Nl ?_)))))))))))))
    exact ⟨rfl,(p+1,d-1),Ho,⟨by omega,hM2,by dsimp only;omega,by dsimp only;omega,by dsimp only;omega,by dsimp only;omega,hres⟩,by dsimp only;omega⟩
  ·rw [if_neg h22,if_neg hop] at hres
   refine Rg (Mv (z:=Mv (z:=Co (Ix (z:=Co (Ld (z:=Co (Ei (z:=Nl (Cf (z:=WC.skip (Rg (Mv (z:=Co (Ad (z:=Av (z:=Nl ?_)))))))))))))))))
   exact ⟨rfl,(p+1,d),Ho,⟨by omega,hM2,by dsimp only;omega,by dsimp only;omega,by dsimp only;omega,by dsimp only;omega,hres⟩,by dsimp only;omega⟩
 ·rw [show F.length-p.toNat=0 by omega] at hres
  simp only [matchD] at hres
  refine WC.seq (WC.seq (Rg (Mv (z:=Mv (z:=Co (Ln (z:=Co (Lt (z:=Mv (z:=Gn (z:=Gn (z:=Gn (z:=Gn (z:=Gn (z:=Co (Pf (z:=Nl (Cf (z:=WC.exit (WC.seq (Rg (Av (z:=Nl (WC.ret ?_))))))))))))))))))))))))
  exact fin_one (e:=.ret) (v:=.int .i64 (-1)) rfl trivial rfl hn1 hM1 ⟨by rw [hres],rfl⟩
theorem matchD_rg (F:List Int):∀ (r:Nat) (p d:Int),matchD F r p d = -1∨(p≤matchD F r p d∧matchD F r p d<p+r∧rd F (matchD F r p d)=22)
 | 0,_,_=>.inl rfl
 | r+1,p,d=>by
  simp only [matchD]
  split
  ·exact .inl rfl
  split
  ·rename_i h22
   split
   ·exact .inr ⟨by omega,by push_cast;omega,h22⟩
   ·rcases matchD_rg F r (p+1) (d-1) with h | h
    ·exact .inl h
    ·exact .inr ⟨by omega,by push_cast;omega,h.2.2⟩
  ·rcases matchD_rg F r (p+1) (if isOpener (rd F p) then d+1 else d) with h | h
   ·exact .inl h
   ·exact .inr ⟨by omega,by push_cast;omega,h.2.2⟩
def mOf (F:List Int) (i:Int):Int:=matchD F (F.length-(i+1).toNat) (i+1) 1
def firstD (F:List Int) (to:Int):Nat→Int→Int
 | 0,_=>0
 | r+1,i=>if i<to then (if rd F i=10 then 0 else if rd F i=0 then 0 else if rd F i=1∨rd F i=2 then 1 else if isOpener (rd F i) then (if mOf F i<0 then 0 else firstD F to r (mOf F i+1)) else firstD F to r (i+1)) else 0
set_option maxHeartbeats 4000000 in
theorem firstD_sp {s:St} {H:Hp} {c cc:Nat} {F:List Int} {i to:Int} (hX:OwnX X) (hM:Models ro s H) (hc:H c=some (.row 1 (F.map (.int .i64)))) (hn:F.length≤16384) (h0:0≤i∧i≤F.length) (hto:0≤to∧to≤F.length) :
 Sp X Try.prog ro 46 [.slice (some ⟨c,0,none⟩) F.length cc,.int .i64 i,.int .i64 to] s fun v H'=>v = .int .i64 (firstD F to (F.length+1) i)∧H'=H:=by
 refine Bo hX Try.func46 Try.ntmps46 (z:=?_)
 refine WC.seq (Rg (Av (z:=Nl (WC.seq (Rg (Mv (z:=Av (z:=Nl (WC.seq (WC.block ?_))))))))))
 generalize hRES:firstD F to (F.length+1) i=RES
 refine WC.loop (D:=Int×Nat) (fun x=>[(0,.slice (some ⟨c,0,none⟩) F.length cc),(2,.int .i64 to),(7,.int .i64 x.1)])
  (fun x s1=>s.next≤s1.next∧Models ro s1 H∧0≤x.1∧x.1≤F.length∧F.length-x.1<x.2∧firstD F to x.2 x.1=RES) (fun x=>x.2) (i,F.length+1) ?_ ⟨by omega,hM,h0.1,h0.2,by dsimp only;omega,hRES⟩ ?_
 ·exact Ho
 rintro ⟨p,r⟩ g s1 ⟨hn1,hM1,hp0,hp1,hr,hres⟩
 dsimp only at hn1 hM1 hp0 hp1 hr hres ⊢
 obtain ⟨r,rfl⟩:∃ q,r=q+1:=⟨r-1,by omega⟩
 simp only [firstD] at hres
 rcases dc (p<to) with ⟨hlt,hdl⟩ | ⟨hlt,hdl⟩
 ·rw [if_pos hlt] at hres
  by_cases h10:rd F p=10
  ·have hd10:decide (rd F p≠10)=false:=decide_eq_false (fun h=>h h10)
   rw [if_pos h10] at hres
   refine WC.seq (WC.seq (Rg (Mv (z:=Mv (z:=Co (Lt (z:=Mv (z:=Gy (z:=Mq (z:=Gy (z:=Mq (z:=Gy (z:=Ix (z:=Gy (z:=Ld (z:=Gy (z:=Ni (z:=Co (Pt (z:=Nl (Cf (z:=WC.exit (WC.seq (Rg (Av (z:=Nl (WC.ret ?_)))))))))))))))))))))))))))
   exact fin_one (e:=.ret) (v:=.int .i64 0) rfl trivial rfl (by omega) (by assumption) ⟨by rw [←hres],rfl⟩
  have hd10:decide (rd F p≠10)=true:=decide_eq_true h10
  rw [if_neg h10] at hres
  refine WC.seq (WC.seq (Rg (Mv (z:=Mv (z:=Co (Lt (z:=Mv (z:=Gy (z:=Mq (z:=Gy (z:=Mq (z:=Gy (z:=Ix (z:=Gy (z:=Ld (z:=Gy (z:=Ni (z:=Co (Pt (z:=Nl (Ct (z:=WC.skip (WC.block (WC.seq (WC.seq ?_)))))))))))))))))))))))))
  rcases dc (rd F p=0) with ⟨hz,hdz⟩ | ⟨hz,hdz⟩
  ·rw [if_pos hz] at hres
   refine Rg (Mv (z:=Mv (z:=Co (Ix (z:=Co (Ld (z:=Co (Ei (z:=Nl (Ct (z:=WC.seq (Rg (Av (z:=Nl (WC.ret ?_)))))))))))))))
   exact fin_one (e:=.ret) (v:=.int .i64 0) rfl trivial rfl (by omega) (by assumption) ⟨by rw [←hres],rfl⟩
  rw [if_neg hz] at hres
  refine Rg (Mv (z:=Mv (z:=Co (Ix (z:=Co (Ld (z:=Co (Ei (z:=Nl (Cf (z:=WC.skip (WC.seq (WC.seq ?_)))))))))))))
  rcases dc (rd F p=1) with ⟨h1,hd1⟩ | ⟨h1,hd1⟩
  ·rw [if_pos (.inl h1)] at hres
   refine Rg (Mv (z:=Mv (z:=Co (Ix (z:=Co (Ld (z:=Co (Ei (z:=Mv (z:=Gn (z:=Gn (z:=Gn (z:=Gn (z:=Gn (z:=Co (Pt (z:=Nl (Ct (z:=WC.seq (Rg (Av (z:=Nl (WC.ret ?_)))))))))))))))))))))))
   exact fin_one (e:=.ret) (v:=.int .i64 1) rfl trivial rfl (by omega) (by assumption) ⟨by rw [←hres],rfl⟩
  rcases dc (rd F p=2) with ⟨h2,hd2⟩ | ⟨h2,hd2⟩
  ·rw [if_pos (.inr h2)] at hres
   refine Rg (Mv (z:=Mv (z:=Co (Ix (z:=Co (Ld (z:=Co (Ei (z:=Mv (z:=Gy (z:=Mq (z:=Gy (z:=Mq (z:=Gy (z:=Ix (z:=Gy (z:=Ld (z:=Gy (z:=Ei (z:=Co (Pf (z:=Nl (Ct (z:=WC.seq (Rg (Av (z:=Nl (WC.ret ?_))))))))))))))))))))))))))))
   exact fin_one (e:=.ret) (v:=.int .i64 1) rfl trivial rfl (by omega) (by assumption) ⟨by rw [←hres],rfl⟩
  rw [if_neg (fun h=>h.elim h1 h2)] at hres
  refine Rg (Mv (z:=Mv (z:=Co (Ix (z:=Co (Ld (z:=Co (Ei (z:=Mv (z:=Gy (z:=Mq (z:=Gy (z:=Mq (z:=Gy (z:=Ix (z:=Gy (z:=Ld (z:=Gy (z:=Ei (z:=Co (Pf (z:=Nl (Cf (z:=WC.skip (WC.seq (WC.seq (Rg (Mv (z:=Mv (z:=Co (Ix (z:=Co (Ld (z:=Co ?_))))))))))))))))))))))))))))))))))
  refine SV.callM rfl rfl (opens_sp hX hM1) ?_
  rintro v s2 H2 hn2 hM2 ⟨rfl,eH⟩
  rw [eH] at hM2
  clear eH
  rcases dc (isOpener (rd F p)) with ⟨hop,hod⟩ | ⟨hop,hod⟩
  ·rw [if_pos hop] at hres
   refine Nl (Ct (z:=WC.seq (Rg (Mv (z:=Mv (z:=Co ?_))))))
   refine SV.callM rfl rfl (matchD_sp hX hM2 hc hn ⟨hp0,by omega⟩) ?_
   rintro v s3 H3 hn3 hM3 ⟨rfl,eH⟩
   rw [eH] at hM3
   clear eH
   have hrg:=matchD_rg F (F.length-(p+1).toNat) (p+1) 1
   unfold mOf at hres
   refine Av (z:=Nl ?_)
   generalize matchD F (F.length-(p+1).toNat) (p+1) 1=m at hrg hres ⊢
   rcases dc (m<0) with ⟨hm,hdm⟩ | ⟨hm,hdm⟩
   ·rw [if_pos hm] at hres
    refine WC.seq (WC.seq (Rg (Mv (z:=Co (Lt (z:=Nl (Ct (z:=WC.seq (Rg (Av (z:=Nl (WC.ret ?_))))))))))))
    exact fin_one (e:=.ret) (v:=.int .i64 0) rfl trivial rfl (by omega) (by assumption) ⟨by rw [←hres],rfl⟩
   ·rw [if_neg hm] at hres
    refine WC.seq (WC.seq (Rg (Mv (z:=Co (Lt (z:=Nl (Cf (z:=WC.skip (Rg (Mv (z:=Av (z:=Nl (Rg (Mv (z:=Co (Ad (z:=Av (z:=Nl ?_))))))))))))))))))
    exact ⟨rfl,(m+1,r),Ho,⟨by omega,hM3,by dsimp only;omega,by dsimp only;omega,by dsimp only;omega,hres⟩,by dsimp only;omega⟩
  ·rw [if_neg hop] at hres
   refine Nl (Cf (z:=WC.skip (Rg (Mv (z:=Co (Ad (z:=Av (z:=Nl ?_))))))))
   exact ⟨rfl,(p+1,r),Ho,⟨by omega,hM2,by dsimp only;omega,by dsimp only;omega,by dsimp only;omega,hres⟩,by dsimp only;omega⟩
 ·rw [if_neg hlt] at hres
  refine WC.seq (WC.seq (Rg (Mv (z:=Mv (z:=Co (Lt (z:=Mv (z:=Gn (z:=Gn (z:=Gn (z:=Gn (z:=Gn (z:=Co (Pf (z:=Nl (Cf (z:=WC.exit (WC.seq (Rg (Av (z:=Nl (WC.ret ?_))))))))))))))))))))))
  exact fin_one (e:=.ret) (v:=.int .i64 0) rfl trivial rfl (by omega) (by assumption) ⟨by rw [←hres],rfl⟩
theorem classesD_sp {Y:Exts} {s:St} {H:Hp} {A:Option Addr} {kk:Nat} {C:List Int} (hX:ExtOk X ro Y) (hM:Models ro s H) (hr:Rdd H A C) (hn:C.length≤16384) :
 Sp X Try.prog ro 45 [.slice A C.length kk] s fun v H'=>∃ a,v = .slice (some ⟨a,0,none⟩) C.length C.length∧(∀ ν o,H ν=some o→H' ν=some o∧ν≠a)∧H' a=some (.row 1 ((C.map Y.LB).map (.int .i64))):=by
 have hX0:=hX.own
 refine Bo hX.own Try.func45 Try.ntmps45 (z:=?_)
 refine WC.seq (Rg (Av (z:=Nl (WC.seq (Rg (Co (Bs (z:=fun a1_0 s1_0 hf1_0 hne1_0 hn1_0 hM1_0=>Av (z:=Nl (WC.seq (WC.seq (Rg (Mv (z:=Co (Ln (z:=Mv (z:=Nl (WC.block ?_))))))))))))))))))
 refine WC.loop (D:=Nat×Nat) (fun x=>[(3,.slice (some ⟨x.2,0,none⟩) x.1 x.1),(7,.slice A C.length kk),(8,.int .i64 C.length),(9,.int .i64 x.1)])
  (fun x s1=>s.next≤s1.next∧x.1≤C.length∧∃ H1,Models ro s1 H1∧(∀ ν o,H ν=some o→H1 ν=some o∧ν≠x.2)∧H1 x.2=some (.row 1 (((C.map Y.LB).take x.1).map (.int .i64)))) (fun x=>C.length-x.1) (0,a1_0) ?_
  ⟨by omega,Nat.zero_le _,_,hM1_0,fun ν o e=>⟨Hp.up_ne (hne1_0 _ _ e) e,hne1_0 _ _ e⟩,Hp.up_same⟩ ?_
 ·exact Ho
 rintro ⟨k,a⟩ g s1 ⟨hn1,hk,H1,hM1,hkp,ha⟩
 dsimp only at hn1 hk hkp ha ⊢
 refine WC.seq (Rg (Co (Lt (z:=Nl (WC.seq ?_)))))
 refine WC.condD rfl (fun hlt hltb=>?_) (fun hlt hltb=>?_)
 ·obtain ⟨ν,o,f,rfl,hν,hf⟩:=hr k (by omega) (by omega)
  have hν1:=(hkp _ _ hν).1
  refine WC.skip (WC.seq (WC.block (WC.seq (Rg (Co (Ix (z:=?_)))))))
  refine WO.cons (SV.loadR (by assumption) rfl (by assumption) (by assumption) ?_) (by decide)
  refine Av (z:=Nl (Rg (Mv (z:=Mv (z:=Co ?_)))))
  refine SV.callM rfl rfl (class_sp hX hM1) ?_
  rintro v s2 H2 hn2 hM2 ⟨rfl,eH⟩
  rw [eH] at hM2
  clear eH
  refine Co (Bs (z:=fun a5_3 s5_3 hf5_3 hne5_3 hn5_3 hM5_3=>Co ?_))
  have hl:((C.map Y.LB).take k).length=k:=by rw [List.length_take,List.length_map];omega
  have hMb:Models ro s5_3 (H1.up a5_3 (.row 1 [.int .i64 (Y.LB (rd C k))])):=hM5_3
  clear hM5_3
  refine SV.appendM (t:=23) (u:=23) (e:=3) (e':=3) (sz:=1) (sz':=1) (bytes:=8) (z:=[.int .i64 0]) (n:=k) (m:=1) (vs:=((C.map Y.LB).take k).map (.int .i64)) (xs:=[.int .i64 (Y.LB (rd C k))]) rfl hMb rfl rfl (SlO.ofRow (Hp.up_ne (hne5_3 _ _ ha) ha) (by rw [List.length_map,hl,Nat.mul_one]))
   (Src.row Hp.up_same rfl rfl (fun j v h=>by rw [Nat.zero_add];exact h)) rfl (by omega) (fun v5 s5 H5 hn5 hM5 hv5 hk5 hnew5 hex5=>?_)
  obtain ⟨a5,rfl,ha5,hkp5⟩:=app_one ha hl hne5_3 hk5 hnew5 hex5
  clear hv5 hk5 hnew5 hex5
  refine Av (z:=Nl (Rg (Co (Ad (z:=Mv (z:=Nl ?_))))))
  have he:(C.map Y.LB).take k++[Y.LB (rd C k)]=(C.map Y.LB).take (k+1):=by
   rw [List.take_add_one,List.getElem?_eq_getElem (by rw [List.length_map];omega),List.getElem_map,rd_at (by omega) (by omega)]
   rfl
  rw [he] at ha5
  exact ⟨rfl,(k+1,a5),Ho,⟨by omega,by dsimp only;omega,H5,hM5,fun ν o e=>hkp5 ν o (hkp ν o e).1 (hkp ν o e).2,ha5⟩,by dsimp only;omega⟩
 ·obtain rfl:k=C.length:=by omega
  rw [List.take_of_length_le (by rw [List.length_map];omega)] at ha
  refine WC.exit (WC.seq (Rg (Mv (z:=Av (z:=Nl (WC.ret ?_))))))
  exact fin_one (e:=.ret) (v:=.slice _ _ _) rfl trivial rfl hn1 hM1 ⟨a,rfl,hkp,ha⟩
def lastD (V:List Int) (st:Int) (ar:Bool):Nat→Int
 | 0=>st
 | r+1=>if rd V r=0∨rd V r=1∨(ar=true∧rd V r=2) then rd V r else lastD V st ar r
theorem lastD_sp {s:St} {H:Hp} {c cc n:Nat} {V:List Int} {st:Int} {ar:Bool} (hX:OwnX X) (hM:Models ro s H) (hc:H c=some (.row 1 (V.map (.int .i64)))) (hn:V.length≤16384) (h0:n≤V.length) :
 Sp X Try.prog ro 93 [.slice (some ⟨c,0,none⟩) V.length cc,.int .i64 n,.int .i64 st,.bool ar] s fun v H'=>v = .int .i64 (lastD V st ar n)∧H'=H:=by
 refine Bo hX Try.func93 Try.ntmps93 (z:=?_)
 refine WC.seq (Rg (Av (z:=Nl (WC.seq (WC.seq (Rg (Mv (z:=Co (Sb (z:=Av (z:=Nl (WC.block ?_))))))))))))
 generalize hRES:lastD V st ar n=RES
 refine WC.loop (D:=Nat) (fun x=>[(0,.slice (some ⟨c,0,none⟩) V.length cc),(2,.int .i64 st),(3,.bool ar),(9,.int .i64 ((x:Int)-1))])
  (fun x s1=>s.next≤s1.next∧Models ro s1 H∧x≤V.length∧lastD V st ar x=RES) (fun x=>x) n ?_ ⟨by omega,hM,h0,hRES⟩ ?_
 ·exact Ho
 rintro k g s1 ⟨hn1,hM1,hk,hres⟩
 cases k with
 | zero=>
  have hd:decide ((((0:Nat):Int)-1)≥0)=false:=rfl
  simp only [lastD] at hres
  refine WC.seq (WC.seq (Rg (Mv (z:=Co (Ge (z:=Nl (Cf (z:=WC.exit (WC.seq (Rg (Mv (z:=Av (z:=Nl (WC.ret ?_))))))))))))))
  exact fin_one (e:=.ret) (v:=.int .i64 _) rfl trivial rfl (by omega) hM1 ⟨by rw [hres],rfl⟩
 | succ k=>
  simp only [lastD] at hres
  have ek:(((k+1:Nat):Int)-1)=(k:Int):=by omega
  rw [ek]
  have hd:decide ((k:Int)≥0)=true:=decide_eq_true (by omega)
  refine WC.seq (WC.seq (Rg (Mv (z:=Co (Ge (z:=Nl (Ct (z:=WC.skip (WC.seq (WC.block (WC.seq ?_)))))))))))
  rcases dc (rd V k=0) with ⟨c0,hd0⟩ | ⟨c0,hd0⟩
  ·rw [if_pos (.inl c0)] at hres
   refine Rg (Mv (z:=Mv (z:=Co (Ix (z:=Co (Ld (z:=Co (Ei (z:=Mv (z:=Gn (z:=Gn (z:=Gn (z:=Gn (z:=Gn (z:=Co (Pt (z:=Mv (z:=Gn (z:=Gn (z:=Gu (z:=Gu (z:=Gu (z:=Gu (z:=Gu (z:=Gn (z:=Co (Pt (z:=Nl (Ct (z:=WC.seq (Rg (Mv (z:=Mv (z:=Co (Ix (z:=Co (Ld (z:=Av (z:=Nl (WC.ret ?_))))))))))))))))))))))))))))))))))))))))
   exact fin_one (e:=.ret) (v:=.int .i64 _) rfl trivial rfl (by omega) hM1 ⟨by rw [←hres],rfl⟩
  rcases dc (rd V k=1) with ⟨c1,hd1⟩ | ⟨c1,hd1⟩
  ·rw [if_pos (.inr (.inl c1))] at hres
   refine Rg (Mv (z:=Mv (z:=Co (Ix (z:=Co (Ld (z:=Co (Ei (z:=Mv (z:=Gy (z:=Mq (z:=Gy (z:=Mq (z:=Gy (z:=Ix (z:=Gy (z:=Ld (z:=Gy (z:=Ei (z:=Co (Pf (z:=Mv (z:=Gn (z:=Gn (z:=Gu (z:=Gu (z:=Gu (z:=Gu (z:=Gu (z:=Gn (z:=Co (Pt (z:=Nl (Ct (z:=WC.seq (Rg (Mv (z:=Mv (z:=Co (Ix (z:=Co (Ld (z:=Av (z:=Nl (WC.ret ?_)))))))))))))))))))))))))))))))))))))))))))))
   exact fin_one (e:=.ret) (v:=.int .i64 _) rfl trivial rfl (by omega) hM1 ⟨by rw [←hres],rfl⟩
  cases ar with
  | true=>
   rcases dc (rd V k=2) with ⟨c2,hd2⟩ | ⟨c2,hd2⟩
   ·rw [if_pos (.inr (.inr ⟨rfl,c2⟩))] at hres
    refine Rg (Mv (z:=Mv (z:=Co (Ix (z:=Co (Ld (z:=Co (Ei (z:=Mv (z:=Gy (z:=Mq (z:=Gy (z:=Mq (z:=Gy (z:=Ix (z:=Gy (z:=Ld (z:=Gy (z:=Ei (z:=Co (Pf (z:=Mv (z:=Gy (z:=Mq (z:=Gy (z:=Mq (z:=Gy (z:=Mq (z:=Gy (z:=Mq (z:=Gy (z:=Ix (z:=Gy (z:=Ld (z:=Gy (z:=Ei (z:=Gy (z:=Pt (z:=Co (Pf (z:=Nl (Ct (z:=WC.seq (Rg (Mv (z:=Mv (z:=Co (Ix (z:=Co (Ld (z:=Av (z:=Nl (WC.ret ?_)))))))))))))))))))))))))))))))))))))))))))))))))))))
    exact fin_one (e:=.ret) (v:=.int .i64 _) rfl trivial rfl (by omega) hM1 ⟨by rw [←hres],rfl⟩
   ·rw [if_neg (fun h=>h.elim c0 (fun h=>h.elim c1 (fun h=>c2 h.2)))] at hres
    refine Rg (Mv (z:=Mv (z:=Co (Ix (z:=Co (Ld (z:=Co (Ei (z:=Mv (z:=Gy (z:=Mq (z:=Gy (z:=Mq (z:=Gy (z:=Ix (z:=Gy (z:=Ld (z:=Gy (z:=Ei (z:=Co (Pf (z:=Mv (z:=Gy (z:=Mq (z:=Gy (z:=Mq (z:=Gy (z:=Mq (z:=Gy (z:=Mq (z:=Gy (z:=Ix (z:=Gy (z:=Ld (z:=Gy (z:=Ei (z:=Gy (z:=Pt (z:=Co (Pf (z:=Nl (Cf (z:=WC.skip (Rg (Mv (z:=Co (Sb (z:=Av (z:=Nl ?_)))))))))))))))))))))))))))))))))))))))))))))))))
    exact ⟨rfl,k,Ho,⟨by omega,hM1,by omega,hres⟩,by omega⟩
  | false=>
   rw [if_neg (fun h=>h.elim c0 (fun h=>h.elim c1 (fun h=>by cases h.1)))] at hres
   refine Rg (Mv (z:=Mv (z:=Co (Ix (z:=Co (Ld (z:=Co (Ei (z:=Mv (z:=Gy (z:=Mq (z:=Gy (z:=Mq (z:=Gy (z:=Ix (z:=Gy (z:=Ld (z:=Gy (z:=Ei (z:=Co (Pf (z:=Mv (z:=Gy (z:=Mq (z:=Gy (z:=Mq (z:=Gn (z:=Gn (z:=Gn (z:=Gn (z:=Gn (z:=Gy (z:=Pf (z:=Co (Pf (z:=Nl (Cf (z:=WC.skip (Rg (Mv (z:=Co (Sb (z:=Av (z:=Nl ?_))))))))))))))))))))))))))))))))))))))))))))
   exact ⟨rfl,k,Ho,⟨by omega,hM1,by omega,hres⟩,by omega⟩
theorem neutralD_sp {s:St} {H:Hp} {c:Int} (hX:OwnX X) (hM:Models ro s H):Sp X Try.prog ro 90 [.int .i64 c] s fun v H'=>v = .bool (decide (isNeutral c))∧H'=H:=by
 refine Bo hX Try.func90 Try.ntmps90 (z:=?_)
 refine WC.seq (Rg (Av (z:=Nl ?_)))
 rcases dc (c=10) with ⟨h10,hd10⟩ | ⟨h10,hd10⟩
 ·refine WC.seq (Rg (Mv (z:=Co (Ei (z:=Mv (z:=Gn (z:=Gn (z:=Co (Pt (z:=Mv (z:=Gn (z:=Gn (z:=Co (Pt (z:=Mv (z:=Gn (z:=Gn (z:=Co (Pt (z:=Mv (z:=Gn (z:=Gn (z:=Co (Pt (z:=Mv (z:=Gn (z:=Gn (z:=Co (Pt (z:=Av (z:=Nl (WC.ret ?_))))))))))))))))))))))))))))))))
  exact fin_one (e:=.ret) (v:=.bool true) rfl trivial rfl (by omega) (by assumption) ⟨by rw [decide_eq_true (p:=isNeutral c) (by unfold isNeutral;omega)],rfl⟩
 rcases dc (c=11) with ⟨h11,hd11⟩ | ⟨h11,hd11⟩
 ·refine WC.seq (Rg (Mv (z:=Co (Ei (z:=Mv (z:=Gy (z:=Mq (z:=Gy (z:=Ei (z:=Co (Pf (z:=Mv (z:=Gn (z:=Gn (z:=Co (Pt (z:=Mv (z:=Gn (z:=Gn (z:=Co (Pt (z:=Mv (z:=Gn (z:=Gn (z:=Co (Pt (z:=Mv (z:=Gn (z:=Gn (z:=Co (Pt (z:=Av (z:=Nl (WC.ret ?_))))))))))))))))))))))))))))))))))
  exact fin_one (e:=.ret) (v:=.bool true) rfl trivial rfl (by omega) (by assumption) ⟨by rw [decide_eq_true (p:=isNeutral c) (by unfold isNeutral;omega)],rfl⟩
 rcases dc (c=12) with ⟨h12,hd12⟩ | ⟨h12,hd12⟩
 ·refine WC.seq (Rg (Mv (z:=Co (Ei (z:=Mv (z:=Gy (z:=Mq (z:=Gy (z:=Ei (z:=Co (Pf (z:=Mv (z:=Gy (z:=Mq (z:=Gy (z:=Ei (z:=Co (Pf (z:=Mv (z:=Gn (z:=Gn (z:=Co (Pt (z:=Mv (z:=Gn (z:=Gn (z:=Co (Pt (z:=Mv (z:=Gn (z:=Gn (z:=Co (Pt (z:=Av (z:=Nl (WC.ret ?_))))))))))))))))))))))))))))))))))))
  exact fin_one (e:=.ret) (v:=.bool true) rfl trivial rfl (by omega) (by assumption) ⟨by rw [decide_eq_true (p:=isNeutral c) (by unfold isNeutral;omega)],rfl⟩
 rcases dc (c=13) with ⟨h13,hd13⟩ | ⟨h13,hd13⟩
 ·refine WC.seq (Rg (Mv (z:=Co (Ei (z:=Mv (z:=Gy (z:=Mq (z:=Gy (z:=Ei (z:=Co (Pf (z:=Mv (z:=Gy (z:=Mq (z:=Gy (z:=Ei (z:=Co (Pf (z:=Mv (z:=Gy (z:=Mq (z:=Gy (z:=Ei (z:=Co (Pf (z:=Mv (z:=Gn (z:=Gn (z:=Co (Pt (z:=Mv (z:=Gn (z:=Gn (z:=Co (Pt (z:=Av (z:=Nl (WC.ret ?_))))))))))))))))))))))))))))))))))))))
  exact fin_one (e:=.ret) (v:=.bool true) rfl trivial rfl (by omega) (by assumption) ⟨by rw [decide_eq_true (p:=isNeutral c) (by unfold isNeutral;omega)],rfl⟩
 refine WC.seq (Rg (Mv (z:=Co (Ei (z:=Mv (z:=Gy (z:=Mq (z:=Gy (z:=Ei (z:=Co (Pf (z:=Mv (z:=Gy (z:=Mq (z:=Gy (z:=Ei (z:=Co (Pf (z:=Mv (z:=Gy (z:=Mq (z:=Gy (z:=Ei (z:=Co (Pf (z:=Mv (z:=Gy (z:=Mq (z:=?_)))))))))))))))))))))))))))))
 all_goals (refine WO.guardY rfl rfl rfl (by assumption) ?_ (by decide))
 refine SV.callM rfl rfl (opens_sp hX hM) ?_
 rintro v s2 H2 hn2 hM2 ⟨rfl,eH⟩
 rw [eH] at hM2
 clear eH
 rcases dc (isOpener c) with ⟨hop,hod⟩ | ⟨hop,hod⟩
 ·refine Co (Pf (z:=Mv (z:=Gn (z:=Gn (z:=Co (Pt (z:=Av (z:=Nl (WC.ret ?_)))))))))
  exact fin_one (e:=.ret) (v:=.bool true) rfl trivial rfl (by omega) hM2 ⟨by rw [decide_eq_true (p:=isNeutral c) (.inr (.inr (.inr (.inr (.inl hop)))))],rfl⟩
 rcases dc (c=22) with ⟨h22,hd22⟩ | ⟨h22,hd22⟩
 ·refine Co (Pf (z:=Mv (z:=Gy (z:=Mq (z:=Gy (z:=Ei (z:=Co (Pf (z:=Av (z:=Nl (WC.ret ?_)))))))))))
  exact fin_one (e:=.ret) (v:=.bool _) rfl trivial rfl (by omega) hM2 ⟨by rw [decide_eq_true (p:=isNeutral c) (by unfold isNeutral;omega)];first | rfl | rw [hd22],rfl⟩
 refine Co (Pf (z:=Mv (z:=Gy (z:=Mq (z:=Gy (z:=Ei (z:=Co (Pf (z:=Av (z:=Nl (WC.ret ?_)))))))))))
 exact fin_one (e:=.ret) (v:=.bool _) rfl trivial rfl (by omega) hM2 ⟨by rw [decide_eq_false (p:=isNeutral c) (by rintro (h | h | h | h | h | h) <;> first | exact hop h | omega)];first | rfl | rw [hd22],rfl⟩
instance:TSlice Try.prog 26 4 1:=⟨Try.underlying26,by kernel_rfl⟩
instance:TCell Try.prog 26:=⟨by kernel_rfl,by kernel_rfl⟩
instance:TZero Try.prog 26 [(.slice none 0 0)]:=⟨by kernel_rfl⟩
instance:TNoIface Try.prog 26:=⟨⟨_,Try.underlying26,fun _ h=>by cases h⟩⟩
theorem tinfo26:(Try.prog.info? 26).map (fun i=>(i.size,i.bytes))=some (1,24):=by kernel_rfl
instance:TInfo Try.prog 26 1 24:=tinfo_of tinfo26
instance:TSlice Try.prog 91 94 4:=⟨Try.underlying91,by kernel_rfl⟩
instance:TCell Try.prog 91:=⟨by kernel_rfl,by kernel_rfl⟩
instance:TZero Try.prog 91 [(.slice none 0 0)]:=⟨by kernel_rfl⟩
instance:TNoIface Try.prog 91:=⟨⟨_,Try.underlying91,fun _ h=>by cases h⟩⟩
theorem tinfo91:(Try.prog.info? 91).map (fun i=>(i.size,i.bytes))=some (1,24):=by kernel_rfl
instance:TInfo Try.prog 91 1 24:=tinfo_of tinfo91
instance:TFld Try.prog 94 0 0:=⟨⟨_,_,0,Try.underlying94,rfl,by kernel_rfl,rfl⟩⟩
instance:TFld1 Try.prog 94 0 0:=⟨⟨_,_,Try.underlying94,rfl,by kernel_rfl,rfl⟩⟩
instance:TFld Try.prog 94 1 1:=⟨⟨_,_,0,Try.underlying94,rfl,by kernel_rfl,rfl⟩⟩
instance:TFld1 Try.prog 94 1 1:=⟨⟨_,_,Try.underlying94,rfl,by kernel_rfl,rfl⟩⟩
instance:TFld Try.prog 94 2 2:=⟨⟨_,_,0,Try.underlying94,rfl,by kernel_rfl,rfl⟩⟩
instance:TFld1 Try.prog 94 2 2:=⟨⟨_,_,Try.underlying94,rfl,by kernel_rfl,rfl⟩⟩
instance:TFld Try.prog 94 3 3:=⟨⟨_,_,0,Try.underlying94,rfl,by kernel_rfl,rfl⟩⟩
instance:TFld1 Try.prog 94 3 3:=⟨⟨_,_,Try.underlying94,rfl,by kernel_rfl,rfl⟩⟩
instance:TPlaces Try.prog 94 [(0,1),(1,1),(2,1),(3,1)]:=⟨⟨_,Try.underlying94,by kernel_rfl⟩⟩
instance:TAgg Try.prog 94 4:=⟨by kernel_rfl,by kernel_rfl⟩
instance:TZero Try.prog 94 [(.slice none 0 0),(.int .i64 0),(.int .i64 0),(.int .i64 0)]:=⟨by kernel_rfl⟩
instance:TNoIface Try.prog 94:=⟨⟨_,Try.underlying94,fun _ h=>by cases h⟩⟩
theorem tinfo94:(Try.prog.info? 94).map (fun i=>(i.size,i.bytes))=some (4,48):=by kernel_rfl
instance:TInfo Try.prog 94 4 48:=tinfo_of tinfo94
instance:TFld Try.prog 103 0 0:=⟨⟨_,_,0,Try.underlying103,rfl,by kernel_rfl,rfl⟩⟩
instance:TFld1 Try.prog 103 0 0:=⟨⟨_,_,Try.underlying103,rfl,by kernel_rfl,rfl⟩⟩
instance:TFld Try.prog 103 1 1:=⟨⟨_,_,0,Try.underlying103,rfl,by kernel_rfl,rfl⟩⟩
instance:TFld1 Try.prog 103 1 1:=⟨⟨_,_,Try.underlying103,rfl,by kernel_rfl,rfl⟩⟩
instance:TFld Try.prog 103 2 2:=⟨⟨_,_,0,Try.underlying103,rfl,by kernel_rfl,rfl⟩⟩
instance:TFld1 Try.prog 103 2 2:=⟨⟨_,_,Try.underlying103,rfl,by kernel_rfl,rfl⟩⟩
instance:TPlaces Try.prog 103 [(0,1),(1,1),(2,1)]:=⟨⟨_,Try.underlying103,by kernel_rfl⟩⟩
instance:TAgg Try.prog 103 3:=⟨by kernel_rfl,by kernel_rfl⟩
instance:TZero Try.prog 103 [(.int .i64 0),(.int .i64 0),(.bool false)]:=⟨by kernel_rfl⟩
instance:TNoIface Try.prog 103:=⟨⟨_,Try.underlying103,fun _ h=>by cases h⟩⟩
theorem tinfo103:(Try.prog.info? 103).map (fun i=>(i.size,i.bytes))=some (3,24):=by kernel_rfl
instance:TInfo Try.prog 103 3 24:=tinfo_of tinfo103
instance:TSlice Try.prog 104 103 3:=⟨Try.underlying104,by kernel_rfl⟩
instance:TCell Try.prog 104:=⟨by kernel_rfl,by kernel_rfl⟩
instance:TZero Try.prog 104 [(.slice none 0 0)]:=⟨by kernel_rfl⟩
instance:TNoIface Try.prog 104:=⟨⟨_,Try.underlying104,fun _ h=>by cases h⟩⟩
theorem tinfo104:(Try.prog.info? 104).map (fun i=>(i.size,i.bytes))=some (1,24):=by kernel_rfl
instance:TInfo Try.prog 104 1 24:=tinfo_of tinfo104
instance:TArr Try.prog 107 2 4 1:=⟨Try.underlying107,by kernel_rfl⟩
instance:TAgg Try.prog 107 2:=⟨by kernel_rfl,by kernel_rfl⟩
instance:TZero Try.prog 107 [(.bool false),(.bool false)]:=⟨by kernel_rfl⟩
instance:TNoIface Try.prog 107:=⟨⟨_,Try.underlying107,fun _ h=>by cases h⟩⟩
theorem tinfo107:(Try.prog.info? 107).map (fun i=>(i.size,i.bytes))=some (2,2):=by kernel_rfl
instance:TInfo Try.prog 107 2 2:=tinfo_of tinfo107
instance:TArr Try.prog 124 6 39 2:=⟨Try.underlying124,by kernel_rfl⟩
instance:TAgg Try.prog 124 12:=⟨by kernel_rfl,by kernel_rfl⟩
instance:TZero Try.prog 124 [(.int .i64 0),(.int .i64 0),(.int .i64 0),(.int .i64 0),(.int .i64 0),(.int .i64 0),(.int .i64 0),(.int .i64 0),(.int .i64 0),(.int .i64 0),(.int .i64 0),(.int .i64 0)]:=⟨by kernel_rfl⟩
instance:TNoIface Try.prog 124:=⟨⟨_,Try.underlying124,fun _ h=>by cases h⟩⟩
theorem tinfo124:(Try.prog.info? 124).map (fun i=>(i.size,i.bytes))=some (12,96):=by kernel_rfl
instance:TInfo Try.prog 124 12 96:=tinfo_of tinfo124
def upD (f:List Int→Int→Int):Nat→Int→List Int→List Int
 | 0,_,c=>c
 | r+1,k,c=>upD f r (k+1) (c.set k.toNat (f c k))
def dnD (f:List Int→Int→Int):Nat→List Int→List Int
 | 0,c=>c
 | r+1,c=>dnD f r (c.set r (f c r))
theorem upD_length {f:List Int→Int→Int}:∀ (r:Nat) (k:Int) (c:List Int),(upD f r k c).length=c.length
 | 0,_,_=>rfl
 | r+1,k,c=>(upD_length r _ _).trans List.length_set
theorem dnD_length {f:List Int→Int→Int}:∀ (r:Nat) (c:List Int),(dnD f r c).length=c.length
 | 0,_=>rfl
 | r+1,c=>(dnD_length r _).trans List.length_set
def wD1 (st:Int) (old c:List Int) (k:Int):Int:=if rd c k=8 then (if 0<k then (if isOpener (rd old (k-1))∨rd old (k-1)=22 then 13 else rd c (k-1)) else st) else rd c k
def wD2 (st:Int) (ar:Bool) (sg to:Int) (c:List Int) (k:Int):Int:=if rd c k=3∧lastD c st ar k.toNat=sg then to else rd c k
def wD3 (p:Int→Prop) [DecidablePred p] (to:Int) (c:List Int) (k:Int):Int:=if p (rd c k) then to else rd c k
def wD4 (c:List Int) (k:Int):Int:=if (rd c k=4∨rd c k=7)∧rd c (k-1)=3∧rd c (k+1)=3 then 3 else if rd c k=7∧rd c (k-1)=6∧rd c (k+1)=6 then 6 else rd c k
def wD5 (c:List Int) (k:Int):Int:=if rd c k=5∧0<k∧rd c (k-1)=3 then 3 else rd c k
def wD6 (c:List Int) (k:Int):Int:=if rd c k=5∧rd c (k+1)=3 then 3 else rd c k
def weakD (st:Int) (old c:List Int):List Int:=
 let c1:=upD (wD1 st old) c.length 0 c
 let c2:=upD (wD2 st true 2 6) c.length 0 c1
 let c3:=upD (wD3 (fun x=>x=2) 1) c.length 0 c2
 let c4:=upD wD4 (c.length-2) 1 c3
 let c5:=upD wD5 c.length 0 c4
 let c6:=dnD wD6 (c.length-1) c5
 let c7:=upD (wD3 isSep 13) c.length 0 c6
 upD (wD2 st false 0 0) c.length 0 c7
theorem weakD_length {st:Int} {old c:List Int}:(weakD st old c).length=c.length:=by
 simp only [weakD,upD_length,dnD_length]
theorem set_rd {L:List Int} {k:Int}:L.set k.toNat (rd L k)=L:=set_self
theorem becomeI {m:Nat} {v:List Int} {k c:Int} (h0:0≤k) (h1:k<m):becomeM (iota m) v k c=v.set k.toNat c:=by
 unfold becomeM;rw [rd_iota h0 h1]
theorem nsm_up {st:Int} {F:List Int} {m:Nat}:∀ (r:Nat) (k last:Int) (v:List Int),0≤k→k+r=m→v.length=m→last=(if 0<k then rd v (k-1) else st)→nsmM (iota m) F r k last v=upD (wD1 st F) r k v
 | 0,_,_,_,_,_,_,_=>rfl
 | r+1,k,last,v,h0,h1,hl,hlast=>by
  have hk:k<m:=by push_cast at h1;omega
  have h1':k+1+(r:Int)=m:=by push_cast at h1;omega
  simp only [nsmM,upD]
  rw [rd_iota h0 hk,becomeI h0 hk]
  by_cases h8:rd v k=8
  ·rw [if_pos h8]
   have he:wD1 st F v k=(if 0<k∧(isOpener (rd F (rd (iota m) (k-1)))∨rd F (rd (iota m) (k-1))=22) then 13 else last):=by
    unfold wD1
    rw [if_pos h8,hlast]
    by_cases hp:0<k
    ·rw [if_pos hp,if_pos hp,rd_iota (by omega) (by omega)]
     by_cases ho:isOpener (rd F (k-1))∨rd F (k-1)=22
     ·rw [if_pos ho,if_pos ⟨hp,ho⟩]
     ·rw [if_neg ho,if_neg (fun x=>ho x.2)]
    ·rw [if_neg hp,if_neg hp,if_neg (fun x=>hp x.1)]
   rw [←he]
   exact nsm_up r _ _ _ (by omega) h1' (by rw [List.length_set];exact hl) (by rw [if_pos (show 0<k+1 by omega),show k+1-1=k by omega])
  ·rw [if_neg h8]
   have he:wD1 st F v k=rd v k:=if_neg h8
   rw [he,set_rd]
   exact nsm_up r _ _ _ (by omega) h1' hl (by rw [if_pos (by omega),show k+1-1=k by omega])
theorem lastD_set {st:Int} {ar:Bool} {c:List Int} {i x:Int} (hi:0≤i) (hl:i<c.length):∀ (r:Nat),(r:Int)≤i→lastD (c.set i.toNat x) st ar r=lastD c st ar r
 | 0,_=>rfl
 | r+1,h=>by
  have e:rd (c.set i.toNat x) r=rd c r:=by rw [rd_set hi (by omega) hl,if_neg (by push_cast at h;omega)]
  simp only [lastD]
  rw [e,lastD_set hi hl r (by push_cast at h;omega)]
theorem lastD_succ {st:Int} {ar:Bool} {c:List Int} {k:Int} (h0:0≤k):lastD c st ar (k+1).toNat=if rd c k=0∨rd c k=1∨(ar=true∧rd c k=2) then rd c k else lastD c st ar k.toNat:=by
 rw [show (k+1).toNat=k.toNat+1 by omega]
 simp only [lastD]
 rw [show ((k.toNat:Nat):Int)=k by omega]
theorem backed_up {st sg to:Int} {ar:Bool} {m:Nat} (hto:to=6∨ar=false) (ht:to=0→sg=0) (hto2:to=0∨to=6):∀ (r:Nat) (k last:Int) (v:List Int),0≤k→k+r=m→v.length=m→last=lastD v st ar k.toNat→backedM (iota m) 3 sg to ar r k last v=upD (wD2 st ar sg to) r k v
 | 0,_,_,_,_,_,_,_=>rfl
 | r+1,k,last,v,h0,h1,hl,hlast=>by
  have hk:k<m:=by push_cast at h1;omega
  have h1':k+1+(r:Int)=m:=by push_cast at h1;omega
  have hs:=lastD_succ (st:=st) (ar:=ar) (c:=v) h0
  simp only [backedM,upD]
  rw [rd_iota h0 hk,becomeI h0 hk]
  by_cases c1:isStrong (rd v k)
  ·unfold isStrong at c1
   rw [if_pos (by unfold isStrong;exact c1)]
   have he:wD2 st ar sg to v k=rd v k:=if_neg (fun x=>by omega)
   rw [he,set_rd]
   exact backed_up hto ht hto2 r _ _ _ (by omega) h1' hl (by rw [hs,if_pos (by omega)])
  rw [if_neg c1]
  unfold isStrong at c1
  by_cases c2:ar=true∧rd v k=2
  ·rw [if_pos c2]
   have he:wD2 st ar sg to v k=rd v k:=if_neg (fun x=>by omega)
   rw [he,set_rd]
   exact backed_up hto ht hto2 r _ _ _ (by omega) h1' hl (by rw [hs,if_pos (.inr (.inr c2))])
  rw [if_neg c2]
  have hs2:lastD v st ar (k+1).toNat=last:=by rw [hs,if_neg (fun x=>by rcases x with x | x | x;exact c1 (.inl x);exact c1 (.inr x);exact c2 x),←hlast]
  by_cases c3:rd v k=3∧last=sg
  ·rw [if_pos c3]
   have he:wD2 st ar sg to v k=to:=if_pos ⟨c3.1,by rw [←hlast];exact c3.2⟩
   rw [he]
   refine backed_up hto ht hto2 r _ _ _ (by omega) h1' (by rw [List.length_set];exact hl) ?_
   rw [lastD_succ h0,rd_set h0 h0 (by omega),if_pos rfl,lastD_set h0 (by omega) _ (by omega),←hlast]
   by_cases z:to=0
   ·rw [if_pos (.inl z),c3.2,z,ht z]
   ·rw [if_neg (fun x=>by rcases x with x | x | x;exact z x;omega;omega)]
  ·rw [if_neg c3]
   have he:wD2 st ar sg to v k=rd v k:=if_neg (fun x=>c3 ⟨x.1,by rw [hlast];exact x.2⟩)
   rw [he,set_rd]
   exact backed_up hto ht hto2 r _ _ _ (by omega) h1' hl hs2.symm
theorem turn_up {p:Int→Prop} [DecidablePred p] {to:Int} {m:Nat}:∀ (r:Nat) (k:Int) (v:List Int),0≤k→k+r≤m→turnM p (iota m) to r k v=upD (wD3 p to) r k v
 | 0,_,_,_,_=>rfl
 | r+1,k,v,h0,h1=>by
  have hk:k<m:=by push_cast at h1;omega
  simp only [turnM,upD]
  rw [rd_iota h0 hk,becomeI h0 hk]
  by_cases c:p (rd v k)
  ·rw [if_pos c,show wD3 p to v k=to from if_pos c]
   exact turn_up r _ _ (by omega) (by push_cast at h1;omega)
  ·rw [if_neg c,show wD3 p to v k=rd v k from if_neg c,set_rd]
   exact turn_up r _ _ (by omega) (by push_cast at h1;omega)
theorem es_up {m:Nat}:∀ (r:Nat) (k:Int) (v:List Int),1≤k→k+r+1≤m∨r=0→esM (iota m) r k v=upD wD4 r k v
 | 0,_,_,_,_=>rfl
 | r+1,k,v,h0,h1=>by
  have hk:k+((r+1:Nat):Int)+1≤m:=by rcases h1 with h | h <;> omega
  push_cast at hk
  have h1':k+1+(r:Int)+1≤m∨r=0:=by omega
  simp only [esM,upD]
  rw [rd_iota (k:=k-1) (by omega) (by omega),rd_iota (k:=k+1) (by omega) (by omega),rd_iota (k:=k) (by omega) (by omega),becomeI (by omega) (by omega)]
  have hw:wD4 v k=if rd v (k-1)=rd v (k+1)∧((rd v (k-1)=3∧(rd v k=4∨rd v k=7))∨(rd v (k-1)=6∧rd v k=7)) then rd v (k-1) else rd v k:=by
   unfold wD4
   generalize rd v (k-1)=x
   generalize rd v (k+1)=y
   generalize rd v k=z
   repeat' split
   all_goals omega
  rw [hw]
  by_cases c:rd v (k-1)=rd v (k+1)∧((rd v (k-1)=3∧(rd v k=4∨rd v k=7))∨(rd v (k-1)=6∧rd v k=7))
  ·rw [if_pos c,if_pos c];exact es_up r _ _ (by omega) h1'
  ·rw [if_neg c,if_neg c,set_rd];exact es_up r _ _ (by omega) h1'
end Go.Proofs.Ythkklpegjcnjoaa
