/- A part of the proof: no condition but those that each theorem states. -/
import Derived.Test.YthkklpegjcnjoaaLgT
set_option linter.unusedVariables false
set_option linter.unusedSimpArgs false
namespace Go.Proofs.Ythkklpegjcnjoaa
open Go.Ab
variable {X:CallE} {ro:Nat}
set_option maxRecDepth 10000
def OwnX (X:CallE):Prop:=∀ f args s,f≠47→f≠86→f≠87→¬ (f=23∨f=13∨f=44)→X f args s=none
structure TD where
 (t c f w l m n:Nat) (C F N L M:List Int) (b:Int) (B:Hp)
structure TextH (H:Hp) (D:TD):Prop where
 t:∃ e cc cf cw cl cm,H D.t=some (.row e [.slice (some ⟨D.c,0,none⟩) D.n cc,.slice (some ⟨D.f,0,none⟩) D.n cf,.slice (some ⟨D.w,0,none⟩) D.n cw,.slice (some ⟨D.l,0,none⟩) D.n (D.n+cl),.slice (some ⟨D.m,0,none⟩) D.n cm,.int .i64 D.b])
 c:H D.c=some (.row 1 (D.C.map (.int .i64)))
 f:H D.f=some (.row 1 (D.F.map (.int .i64)))
 w:H D.w=some (.row 1 (D.N.map (.int .i64)))
 l:H D.l=some (.row 1 (D.L.map (.int .i64)))
 m:H D.m=some (.row 1 (D.M.map (.int .i64)))
 nC:D.C.length=D.n
 nF:D.F.length=D.n
 nN:D.N.length=D.n
 nL:D.L.length=D.n
 nM:D.M.length=D.n
 big:D.n≤16384
 tw:D.t≠D.w
 cw:D.c≠D.w
 fw:D.f≠D.w
 lw:D.l≠D.w
 mw:D.m≠D.w
 tl:D.t≠D.l
 cl:D.c≠D.l
 fl:D.f≠D.l
 ml:D.m≠D.l
 kp:∀ ν o,D.B ν=some o→H ν=some o
 bw:∀ ν o,D.B ν=some o→ν≠D.w∧ν≠D.l
structure SD where
 (q a:Nat) (A:List Int) (lv st en:Int)
structure SeqH (H:Hp) (D:TD) (S:SD):Prop where
 q:∃ e ca,H S.q=some (.row e [.pointer (some ⟨D.t,0,none⟩),.slice (some ⟨S.a,0,none⟩) S.A.length ca,.int .i64 S.lv,.int .i64 S.st,.int .i64 S.en])
 a:∃ r,H S.a=some (.row 1 ((S.A++r).map (.int .i64)))
 ok:∀ x∈S.A,0≤x∧x<D.n
 big:S.A.length≤D.n
 qw:S.q≠D.w
 aw:S.a≠D.w
 ql:S.q≠D.l
 al:S.a≠D.l
theorem TextH.setN {H:Hp} {D:TD} (h:TextH H D) {N':List Int} (hn:N'.length=D.n):TextH (H.up D.w (.row 1 (N'.map (.int .i64)))) { D with N:=N' }:=by
 obtain ⟨e,cc,cf,cw,cl,cm,ht⟩:=h.t
 exact { h with
  t:=⟨e,cc,cf,cw,cl,cm,Hp.up_ne h.tw ht⟩,c:=Hp.up_ne h.cw h.c,f:=Hp.up_ne h.fw h.f,w:=Hp.up_same,l:=Hp.up_ne h.lw h.l,m:=Hp.up_ne h.mw h.m,nN:=hn,kp:=fun ν o e=>Hp.up_ne (h.bw ν o e).1 (h.kp ν o e) }
theorem TextH.setL {H:Hp} {D:TD} (h:TextH H D) {L':List Int} (hn:L'.length=D.n):TextH (H.up D.l (.row 1 (L'.map (.int .i64)))) { D with L:=L' }:=by
 obtain ⟨e,cc,cf,cw,cl,cm,ht⟩:=h.t
 exact { h with
  t:=⟨e,cc,cf,cw,cl,cm,Hp.up_ne h.tl ht⟩,c:=Hp.up_ne h.cl h.c,f:=Hp.up_ne h.fl h.f,w:=Hp.up_ne h.lw.symm h.w,l:=Hp.up_same,m:=Hp.up_ne h.ml h.m,nL:=hn,kp:=fun ν o e=>Hp.up_ne (h.bw ν o e).2 (h.kp ν o e) }
theorem SeqH.setN {H:Hp} {D:TD} {S:SD} (h:SeqH H D S) {o:Go.Ab.Obj} {N':List Int}:SeqH (H.up D.w o) { D with N:=N' } S:=by
 obtain ⟨e,ca,hq⟩:=h.q
 obtain ⟨r,ha⟩:=h.a
 exact { h with q:=⟨e,ca,Hp.up_ne h.qw hq⟩,a:=⟨r,Hp.up_ne h.aw ha⟩ }
theorem rd_app {A r:List Int} {k:Int} (h0:0≤k) (h1:k<A.length):rd (A++r) k=rd A k:=by
 unfold rd
 rw [List.getD_eq_getElem?_getD,List.getD_eq_getElem?_getD,List.getElem?_append_left (by omega)]
theorem SeqH.at {H:Hp} {D:TD} {S:SD} (h:SeqH H D S) {k:Int} (h0:0≤k) (h1:k<S.A.length):0≤rd S.A k∧rd S.A k<D.n:=by
 refine h.ok _ ?_
 unfold rd
 rw [List.getD_eq_getElem?_getD,List.getElem?_eq_getElem (by omega)]
 exact List.getElem_mem _
theorem of_sp {s:St} {H:Hp} {D:TD} {S:SD} {k:Int} (hX:OwnX X) (hM:Models ro s H) (hT:TextH H D) (hS:SeqH H D S) (h0:0≤k∧k<S.A.length) :
 Sp X Try.prog ro 61 [.pointer (some ⟨S.q,0,none⟩),.int .i64 k] s fun v H'=>v = .int .i64 (rd D.N (rd S.A k))∧H'=H:=by
 obtain ⟨e,cc,cf,cw,cl,cm,ht⟩:=hT.t
 obtain ⟨e1,ca,hq⟩:=hS.q
 obtain ⟨r,ha⟩:=hS.a
 have hw:=hT.w
 have hn:=hT.nN
 have hk:=hS.at h0.1 h0.2
 rw [←rd_app (r:=r) h0.1 h0.2] at hk ⊢
 have hl:(S.A++r).length=S.A.length+r.length:=List.length_append
 refine Bo hX Try.func61 Try.ntmps61 (z:=?_)
 refine WC.seq (Rg (Av (z:=Nl (WC.seq (WC.dr [0,1,2,3,4,5,6,7,8,9,10,11,12,13,14,15,16] (z:=Mw (z:=Cd (Np (z:=Cd (Fa (z:=Cd (Ld (z:=Cd (Np (z:=Cd (Fa (z:=Cd (Ld (z:=Mw (z:=Cd (Np (z:=Cd (Fa (z:=Cd (Ld (z:=Mw (z:=Cd (Ix (z:=Cd (Ld (z:=Cd (Ix (z:=Cd (Ld (z:=Aw (z:=Nz (WC.ret ?_)))))))))))))))))))))))))))))))))))))
 exact fin_one rfl trivial rfl (Nat.le_refl _) hM ⟨rfl,rfl⟩
def becomeM (A N:List Int) (k c:Int):List Int:=N.set (rd A k).toNat c
theorem become_sp {s:St} {H:Hp} {D:TD} {S:SD} {k c:Int} (hX:OwnX X) (hM:Models ro s H) (hT:TextH H D) (hS:SeqH H D S) (h0:0≤k∧k<S.A.length) :
 Sp X Try.prog ro 63 [.pointer (some ⟨S.q,0,none⟩),.int .i64 k,.int .i64 c] s fun v H'=>v = .tuple #[]∧H'=H.up D.w (.row 1 ((becomeM S.A D.N k c).map (.int .i64))):=by
 obtain ⟨e,cc,cf,cw,cl,cm,ht⟩:=hT.t
 obtain ⟨e1,ca,hq⟩:=hS.q
 obtain ⟨r,ha⟩:=hS.a
 have hw:=hT.w
 have hn:=hT.nN
 have hk:=hS.at h0.1 h0.2
 unfold becomeM
 rw [←rd_app (r:=r) h0.1 h0.2] at hk ⊢
 have hl:(S.A++r).length=S.A.length+r.length:=List.length_append
 refine Bo hX Try.func63 Try.ntmps63 (z:=?_)
 refine WC.dr [0,1,2,3,4,5,6,7,8,9,10,11,12,13,14,15,16] (z:=Mw (z:=Cd (Np (z:=Cd (Fa (z:=Cd (Ld (z:=Cd (Np (z:=Cd (Fa (z:=Cd (Ld (z:=Mw (z:=Cd (Np (z:=Cd (Fa (z:=Cd (Ld (z:=Mw (z:=Cd (Ix (z:=Cd (Ld (z:=Mw (z:=Cd (Ix (z:=WD.cons0 (Sv (z:=fun s0_16 hn0_16 hM0_16=>Nz ?_)))))))))))))))))))))))))))))))
 rw [ints_set hk.1 (by omega)] at hM0_16
 exact fin_none rfl trivial hn0_16 hM0_16 ⟨rfl,rfl⟩
theorem opener_sp {s:St} {H:Hp} {c:Int} (hX:OwnX X) (hM:Models ro s H):Sp X Try.prog ro 52 [.int .i64 c] s fun v H'=>v = .bool (decide (c=19∨c=20∨c=21))∧H'=H:=by
 refine Bo hX Try.func52 Try.ntmps52 (z:=?_)
 refine WC.seq (Rg (Av (z:=Nl (WC.seq (Rg (Mv (z:=Co (Ei (z:=Mv (z:=?_))))))))))
 refine WO.guardDF rfl rfl rfl (fun hg1_3 hh1_3=>SV.moveV (by constructor) ?_) (fun hg1_3 hh1_3=>?_) (by decide)
 all_goals (first | refine Gy (z:=Ei (z:=?_)) | refine Gn (z:=?_))
 all_goals (first | refine Co (Pt (z:=?_)) | refine Co (Pf (z:=?_)))
 all_goals refine Mv (z:=?_)
 all_goals (first | refine Gn (z:=?_) | refine WO.guardDF rfl rfl rfl (fun hg1_7 hh1_7=>SV.moveV (by constructor) ?_) (fun hg1_7 hh1_7=>?_) (by decide))
 all_goals (first | refine Gy (z:=Ei (z:=?_)) | refine Gn (z:=?_))
 all_goals (first | refine Co (Pt (z:=?_)) | refine Co (Pf (z:=?_)))
 all_goals refine Av (z:=Nl ?_)
 all_goals (refine WC.ret ?_;refine fin_one (v:=.bool _) rfl trivial rfl (Nat.le_refl _) hM ⟨?_,rfl⟩;simp [*])
def allM (A:List Int) (c:Int):Nat→Int→List Int→List Int
 | 0,_,N=>N
 | r+1,k,N=>allM A c r (k+1) (becomeM A N k c)
theorem becomeM_length {A N:List Int} {k c:Int}:(becomeM A N k c).length=N.length:=List.length_set
theorem allM_length {A:List Int} {c:Int}:∀ (r:Nat) (k:Int) (N:List Int),(allM A c r k N).length=N.length
 | 0,_,_=>rfl
 | r+1,k,N=>(allM_length r _ _).trans becomeM_length
theorem all_sp {s:St} {H:Hp} {D:TD} {S:SD} {a b c:Int} (hX:OwnX X) (hM:Models ro s H) (hT:TextH H D) (hS:SeqH H D S) (h0:0≤a∧a≤b∧b≤S.A.length) :
 Sp X Try.prog ro 67 [.pointer (some ⟨S.q,0,none⟩),.int .i64 a,.int .i64 b,.int .i64 c] s fun v H'=>v = .tuple #[]∧H'=H.up D.w (.row 1 ((allM S.A c (b-a).toNat a D.N).map (.int .i64))):=by
 have hbig:=hS.big
 have hbig2:=hT.big
 refine Bo hX Try.func67 Try.ntmps67 (z:=?_)
 refine WC.seq (Rg (Mv (z:=Av (z:=Nl (WC.block ?_)))))
 refine WC.loop (D:=Int×List Int) (fun x=>[(0,.pointer (some ⟨S.q,0,none⟩)),(2,.int .i64 b),(3,.int .i64 c),(8,.int .i64 x.1)])
  (fun x s1=>s.next≤s1.next∧Models ro s1 (H.up D.w (.row 1 (x.2.map (.int .i64))))∧x.2.length=D.n∧a≤x.1∧x.1≤b∧allM S.A c (b-x.1).toNat x.1 x.2=allM S.A c (b-a).toNat a D.N)
  (fun x=>(b-x.1).toNat) (a,D.N) ?_ ⟨Nat.le_refl _,by rw [Hp.up_self hT.w];exact hM,hT.nN,Int.le_refl _,h0.2.1,rfl⟩ ?_
 ·exact Ho
 rintro ⟨k,N⟩ g s1 ⟨hn1,hM1,hN,hk1,hk2,hres⟩
 dsimp only at hn1 hM1 hN hk1 hk2 hres ⊢
 refine WC.seq (WC.seq (Rg (Mv (z:=Mv (z:=Co (Lt (z:=Nl ?_)))))))
 refine WC.condD rfl (fun hc hcb=>?_) (fun hc hcb=>?_)
 ·refine WC.skip (WC.seq (WC.block (Rg (Mv (z:=Mv (z:=Mv (z:=Co ?_)))))))
  refine SV.callM rfl rfl (become_sp hX hM1 (hT.setN hN) hS.setN ⟨by omega,by omega⟩) ?_
  rintro v s2 H2 hn2 hM2 ⟨rfl,rfl⟩
  simp only [Hp.up_up] at hM2
  refine Nl (Rg (Mv (z:=Co (Ad (z:=Av (z:=Nl ?_))))))
  refine ⟨rfl,(k+1,_),Ho,⟨by omega,hM2,becomeM_length.trans hN,by dsimp only;omega,by dsimp only;omega,?_⟩,by dsimp only;omega⟩
  rw [←hres,show (b-k).toNat=(b-(k+1)).toNat+1 by omega];rfl
 ·refine WC.exit ?_
  have:k=b:=by omega
  subst this
  rw [show (k-k).toNat=0 by omega] at hres
  simp only [allM] at hres
  subst hres
  exact fin_none (e:=.normal) rfl trivial hn1 hM1 ⟨rfl,rfl⟩
def isOpener (c:Int):Prop:=c=19∨c=20∨c=21
instance (c:Int):Decidable (isOpener c):=inferInstanceAs (Decidable (_∨_))
def isRemoved (c:Int):Prop:=(14≤c∧c≤18)∨c=9
instance (c:Int):Decidable (isRemoved c):=inferInstanceAs (Decidable (_∨_))
def isStrong (c:Int):Prop:=c=0∨c=1
instance (c:Int):Decidable (isStrong c):=inferInstanceAs (Decidable (_∨_))
def isNeutral (c:Int):Prop:=c=10∨c=11∨c=12∨c=13∨isOpener c∨c=22
instance (c:Int):Decidable (isNeutral c):=inferInstanceAs (Decidable (_∨_))
def sideM (c:Int):Int:=if c=0 then 0 else if c=1∨c=3∨c=6 then 1 else -1
theorem opener_sp' {s:St} {H:Hp} {c:Int} (hX:OwnX X) (hM:Models ro s H):Sp X Try.prog ro 52 [.int .i64 c] s fun v H'=>v = .bool (decide (isOpener c))∧H'=H:=opener_sp hX hM
theorem removed_sp {s:St} {H:Hp} {c:Int} (hX:OwnX X) (hM:Models ro s H):Sp X Try.prog ro 59 [.int .i64 c] s fun v H'=>v = .bool (decide (isRemoved c))∧H'=H:=by
 refine Bo hX Try.func59 Try.ntmps59 (z:=?_)
 refine WC.seq (Rg (Av (z:=Nl (WC.seq (Rg (Mv (z:=Co (Ge (z:=Mv (z:=?_))))))))))
 refine WO.guardDT rfl rfl rfl (fun hg1_3 hh1_3=>SV.moveV (by constructor) ?_) (fun hg1_3 hh1_3=>?_) (by decide)
 all_goals (first | refine Gy (z:=Le (z:=?_)) | refine Gn (z:=?_))
 all_goals (first | refine Co (Pt (z:=?_)) | refine Co (Pf (z:=?_)))
 all_goals refine Mv (z:=?_)
 all_goals (first | refine Gy (z:=Mq (z:=?_)) | refine WO.guardDF rfl rfl rfl (fun hg1_7 hh1_7=>SV.moveV (by constructor) ?_) (fun hg1_7 hh1_7=>?_) (by decide))
 all_goals (first | refine Gy (z:=Ei (z:=?_)) | refine Gn (z:=?_))
 all_goals (first | refine Co (Pt (z:=?_)) | refine Co (Pf (z:=?_)))
 all_goals refine Av (z:=Nl ?_)
 all_goals (skip;refine WC.ret ?_;refine fin_one (v:=.bool _) rfl trivial rfl (Nat.le_refl _) hM ⟨?_,rfl⟩;simp [isRemoved, *])
theorem strong_sp {s:St} {H:Hp} {c:Int} (hX:OwnX X) (hM:Models ro s H):Sp X Try.prog ro 85 [.int .i64 c] s fun v H'=>v = .bool (decide (isStrong c))∧H'=H:=by
 refine Bo hX Try.func85 Try.ntmps85 (z:=?_)
 refine WC.seq (Rg (Av (z:=Nl (WC.seq (Rg (Mv (z:=Co (Ei (z:=Mv (z:=?_))))))))))
 refine WO.guardDF rfl rfl rfl (fun hg1_3 hh1_3=>SV.moveV (by constructor) ?_) (fun hg1_3 hh1_3=>?_) (by decide)
 all_goals (first | refine Gy (z:=Ei (z:=?_)) | refine Gn (z:=?_))
 all_goals (first | refine Co (Pt (z:=?_)) | refine Co (Pf (z:=?_)))
 all_goals refine Av (z:=Nl ?_)
 all_goals (skip;refine WC.ret ?_;refine fin_one (v:=.bool _) rfl trivial rfl (Nat.le_refl _) hM ⟨?_,rfl⟩;simp [isStrong, *])
theorem direction_sp {s:St} {H:Hp} {n:Int} (hX:OwnX X) (hM:Models ro s H):Sp X Try.prog ro 60 [.int .i64 n] s fun v H'=>v = .int .i64 (n%2)∧H'=H:=by
 refine Bo hX Try.func60 Try.ntmps60 (z:=?_)
 refine WC.seq (Rg (Av (z:=Nl (WC.seq (Rg (Mv (z:=?_)))))))
 refine WO.cons (SV.and1 rfl rfl ?_) (by decide)
 refine Av (z:=Nl (WC.ret ?_))
 exact fin_one rfl trivial rfl (Nat.le_refl _) hM ⟨rfl,rfl⟩
theorem neutral_sp {s:St} {H:Hp} {c:Int} (hX:OwnX X) (hM:Models ro s H):Sp X Try.prog ro 71 [.int .i64 c] s fun v H'=>v = .bool (decide (isNeutral c))∧H'=H:=by
 refine Bo hX Try.func71 Try.ntmps71 (z:=?_)
 refine WC.seq (Rg (Av (z:=Nl (WC.seq (Rg (Mv (z:=Co (Ei (z:=Mv (z:=?_))))))))))
 refine WO.guardDF rfl rfl rfl (fun hg1_3 hh1_3=>SV.moveV (by constructor) ?_) (fun hg1_3 hh1_3=>?_) (by decide)
 all_goals (first | refine Gy (z:=Ei (z:=?_)) | refine Gn (z:=?_))
 all_goals (first | refine Co (Pt (z:=?_)) | refine Co (Pf (z:=?_)))
 all_goals refine Mv (z:=?_)
 all_goals (first | refine Gn (z:=?_) | refine WO.guardDF rfl rfl rfl (fun hg1_7 hh1_7=>SV.moveV (by constructor) ?_) (fun hg1_7 hh1_7=>?_) (by decide))
 all_goals (first | refine Gy (z:=Ei (z:=?_)) | refine Gn (z:=?_))
 all_goals (first | refine Co (Pt (z:=?_)) | refine Co (Pf (z:=?_)))
 all_goals refine Mv (z:=?_)
 all_goals (first | refine Gn (z:=?_) | refine WO.guardDF rfl rfl rfl (fun hg1_11 hh1_11=>SV.moveV (by constructor) ?_) (fun hg1_11 hh1_11=>?_) (by decide))
 all_goals (first | refine Gy (z:=Ei (z:=?_)) | refine Gn (z:=?_))
 all_goals (first | refine Co (Pt (z:=?_)) | refine Co (Pf (z:=?_)))
 all_goals refine Mv (z:=?_)
 all_goals (first | refine Gn (z:=?_) | refine WO.guardDF rfl rfl rfl (fun hg1_15 hh1_15=>SV.moveV (by constructor) ?_) (fun hg1_15 hh1_15=>?_) (by decide))
 all_goals (first | refine WO.guardY rfl rfl rfl (by assumption) ?_ (by decide) | refine Gn (z:=?_))
 all_goals first
  |(refine SV.callM rfl rfl (opener_sp' hX hM) ?_
    rintro v s2 H2 hn2 hM2 ⟨rfl,rfl⟩
    refine Co (Pf (z:=Mv (z:=?_)))
    all_goals (refine WO.guardDF rfl rfl rfl (fun hg1_19 hh1_19=>SV.moveV (by constructor) ?_) (fun hg1_19 hh1_19=>?_) (by decide))
    all_goals (first | refine Gy (z:=Ei (z:=?_)) | refine Gn (z:=?_))
    all_goals (first | refine Co (Pt (z:=?_)) | refine Co (Pf (z:=?_)))
    all_goals refine Av (z:=Nl ?_)
    all_goals (skip;refine WC.ret ?_;refine fin_one (v:=.bool _) rfl trivial rfl hn2 hM2 ⟨?_,rfl⟩;simp [isNeutral, *]))
  |(((refine WO.cons (SV.pickTV rfl (by first | assumption | rfl) (by constructor) ?_) (by decide));all_goals refine WO.cons (SV.moveV (by constructor) ?_) (by decide);all_goals (refine WO.guardN rfl rfl rfl (by rfl) ?_ (by decide));all_goals (refine WO.guardN rfl rfl rfl (by rfl) ?_ (by decide));all_goals (refine WO.cons (SV.pickTV rfl (by rfl) (by constructor) ?_) (by decide));all_goals refine WO.cons (SV.assignV (by constructor) ?_) (by decide);all_goals refine WO.nil ?_)
    skip;refine WC.ret ?_;refine fin_one (v:=.bool _) rfl trivial rfl (Nat.le_refl _) hM ⟨?_,rfl⟩;simp [isNeutral, *])
theorem side_sp {s:St} {H:Hp} {c:Int} (hX:OwnX X) (hM:Models ro s H):Sp X Try.prog ro 69 [.int .i64 c] s fun v H'=>v = .int .i64 (sideM c)∧H'=H:=by
 refine Bo hX Try.func69 Try.ntmps69 (z:=?_)
 refine WC.seq (Rg (Av (z:=Nl (WC.seq (WC.seq (Rg (Mv (z:=Nl (WC.block (WC.seq (Rg (Co (Ei (z:=Av (z:=Nl ?_)))))))))))))))
 refine WC.condD rfl (fun h0 h0b=>?_) (fun h0 h0b=>?_)
 ·refine WC.seq (Rg (Av (z:=Nl (WC.ret ?_))))
  exact fin_one (e:=.ret) rfl trivial rfl (Nat.le_refl _) hM ⟨by simp [sideM, *],rfl⟩
 refine WC.seq (WC.seq (Rg (Co (Ei (z:=Av (z:=Nl ?_))))))
 refine WC.condD rfl (fun h1 h1b=>?_) (fun h1 h1b=>?_)
 ·refine WC.skip (Ct (z:=WC.seq (Rg (Av (z:=Nl (WC.ret ?_))))))
  exact fin_one (e:=.ret) rfl trivial rfl (Nat.le_refl _) hM ⟨by simp [sideM, *],rfl⟩
 refine WC.seq (Rg (Co (Ei (z:=Av (z:=Nl ?_)))))
 refine WC.condD rfl (fun h2 h2b=>?_) (fun h2 h2b=>?_)
 ·refine WC.skip (Ct (z:=WC.seq (Rg (Av (z:=Nl (WC.ret ?_))))))
  exact fin_one (e:=.ret) rfl trivial rfl (Nat.le_refl _) hM ⟨by simp [sideM, *],rfl⟩
 refine Rg (Co (Ei (z:=Av (z:=Nl ?_))))
 refine WC.condD rfl (fun h3 h3b=>?_) (fun h3 h3b=>?_)
 ·refine WC.seq (Rg (Av (z:=Nl (WC.ret ?_))))
  exact fin_one (e:=.ret) rfl trivial rfl (Nat.le_refl _) hM ⟨by simp [sideM, *],rfl⟩
 refine WC.skip (WC.seq (Rg (Av (z:=Nl (WC.ret ?_)))))
 exact fin_one (e:=.ret) rfl trivial rfl (Nat.le_refl _) hM ⟨by simp [sideM, *],rfl⟩
def aheadM (A N:List Int) (st:Int):Nat→Int
 | 0=>st
 | r+1=>if 0≤sideM (rd N (rd A r)) then sideM (rd N (rd A r)) else aheadM A N st r
theorem ahead_sp {s:St} {H:Hp} {D:TD} {S:SD} {k:Int} (hX:OwnX X) (hM:Models ro s H) (hT:TextH H D) (hS:SeqH H D S) (h0:0≤k∧k≤S.A.length) :
 Sp X Try.prog ro 70 [.pointer (some ⟨S.q,0,none⟩),.int .i64 k] s fun v H'=>v = .int .i64 (aheadM S.A D.N S.st k.toNat)∧H'=H:=by
 obtain ⟨e1,ca,hq⟩:=hS.q
 have hbig:=hS.big
 have hbig2:=hT.big
 refine Bo hX Try.func70 Try.ntmps70 (z:=?_)
 refine WC.seq (Rg (Av (z:=Nl (WC.seq (WC.seq (Rg (Mv (z:=Co (Sb (z:=Av (z:=Nl (WC.block ?_))))))))))))
 refine WC.loop (D:=Int) (fun x=>[(0,.pointer (some ⟨S.q,0,none⟩)),(1,.int .i64 x)])
  (fun x s1=>s.next≤s1.next∧Models ro s1 H ∧ -1≤x∧x<S.A.length∧aheadM S.A D.N S.st (x+1).toNat=aheadM S.A D.N S.st k.toNat)
  (fun x=>(x+1).toNat) (k-1) ?_ ⟨Nat.le_refl _,hM,by omega,by omega,by rw [Int.sub_add_cancel]⟩ ?_
 ·exact Ho
 rintro k1 g s1 ⟨hn1,hM1,hk1,hk2,hres⟩
 refine WC.seq (WC.seq (Rg (Mv (z:=Co (Ge (z:=Nl ?_))))))
 refine WC.condD rfl (fun hc hcb=>?_) (fun hc hcb=>?_)
 ·refine WC.skip (WC.seq (WC.block (WC.seq (Rg (Mv (z:=Mv (z:=Co ?_)))))))
  refine SV.callM rfl rfl (of_sp hX hM1 hT hS ⟨by omega,by omega⟩) ?_
  rintro v s2 H2 hn2 hM2 ⟨rfl,rfl⟩
  refine Co ?_
  refine SV.callM rfl rfl (side_sp hX hM2) ?_
  rintro v s3 H3 hn3 hM3 ⟨rfl,rfl⟩
  have hr1:(k1+1).toNat=k1.toNat+1:=by omega
  have hr2:((k1.toNat:Nat):Int)=k1:=by omega
  rw [hr1] at hres
  simp only [aheadM,hr2] at hres
  refine Av (z:=Nl (WC.seq (Rg (Mv (z:=Co (Ge (z:=Nl ?_)))))))
  refine WC.condD rfl (fun hd hdb=>?_) (fun hd hdb=>?_)
  ·refine WC.seq (Rg (Mv (z:=Av (z:=Nl ?_))))
   rw [if_pos hd] at hres
   refine WC.ret ?_
   exact fin_one (e:=.ret) rfl trivial rfl (by omega) hM3 ⟨by rw [←hres],rfl⟩
  ·rw [if_neg hd] at hres
   refine WC.skip (Rg (Mv (z:=Co (Sb (z:=Av (z:=Nl ?_))))))
   refine ⟨rfl,k1-1,Ho,⟨by omega,hM3,by omega,by omega,?_⟩,by omega⟩
   rw [Int.sub_add_cancel];exact hres
 ·have:k1 = -1:=by omega
  subst this
  refine WC.exit (WC.seq (Rg (Mv (z:=Co (Np (z:=Co (Fa (z:=Co (Ld (z:=Av (z:=Nl (WC.ret ?_))))))))))))
  exact fin_one (e:=.ret) rfl trivial rfl hn1 hM1 ⟨by rw [←hres];rfl,rfl⟩
def backedM (A:List Int) (cl sg to:Int) (ar:Bool):Nat→Int→Int→List Int→List Int
 | 0,_,_,N=>N
 | r+1,k,last,N=>
  let c:=rd N (rd A k)
  if isStrong c then backedM A cl sg to ar r (k+1) c N
  else if ar=true∧c=2 then backedM A cl sg to ar r (k+1) c N
  else if c=cl∧last=sg then backedM A cl sg to ar r (k+1) last (becomeM A N k to)
  else backedM A cl sg to ar r (k+1) last N
theorem backedM_length {A:List Int} {cl sg to:Int} {ar:Bool}:∀ (r:Nat) (k last:Int) (N:List Int),(backedM A cl sg to ar r k last N).length=N.length
 | 0,_,_,_=>rfl
 | r+1,k,last,N=>by
  simp only [backedM]
  split
  ·exact backedM_length r _ _ _
  ·split
   ·exact backedM_length r _ _ _
   ·split
    ·exact (backedM_length r _ _ _).trans becomeM_length
    ·exact backedM_length r _ _ _
theorem backed_sp {s:St} {H:Hp} {D:TD} {S:SD} {cl sg to:Int} {ar:Bool} (hX:OwnX X) (hM:Models ro s H) (hT:TextH H D) (hS:SeqH H D S) :
 Sp X Try.prog ro 62 [.pointer (some ⟨S.q,0,none⟩),.int .i64 cl,.int .i64 sg,.int .i64 to,.bool ar] s
  fun v H'=>v = .tuple #[]∧H'=H.up D.w (.row 1 ((backedM S.A cl sg to ar S.A.length 0 S.st D.N).map (.int .i64))):=by
 obtain ⟨e1,ca,hq⟩:=hS.q
 have hbig:=hS.big
 have hbig2:=hT.big
 refine Bo hX Try.func62 Try.ntmps62 (z:=?_)
 refine WC.seq (Rg (Mv (z:=Co (Np (z:=Co (Fa (z:=Co (Ld (z:=Av (z:=Nl (WC.seq (Rg (Mv (z:=Co (Np (z:=Co (Fa (z:=Co (Ld (z:=Co (Ln (z:=Mv (z:=Nl (WC.block ?_))))))))))))))))))))))))
 refine WC.loop (D:=Int×Int×List Int) (fun x=>[(0,.pointer (some ⟨S.q,0,none⟩)),(1,.int .i64 cl),(2,.int .i64 sg),(3,.int .i64 to),(4,.bool ar),(10,.int .i64 x.2.1),(21,.int .i64 S.A.length),(22,.int .i64 x.1)])
  (fun x s1=>s.next≤s1.next∧Models ro s1 (H.up D.w (.row 1 (x.2.2.map (.int .i64))))∧x.2.2.length=D.n∧0≤x.1∧x.1≤S.A.length ∧
   backedM S.A cl sg to ar (S.A.length-x.1.toNat) x.1 x.2.1 x.2.2=backedM S.A cl sg to ar S.A.length 0 S.st D.N)
  (fun x=>S.A.length-x.1.toNat) (0,S.st,D.N) ?_ ⟨Nat.le_refl _,by rw [Hp.up_self hT.w];exact hM,hT.nN,Int.le_refl _,by simp,rfl⟩ ?_
 ·exact Ho
 rintro ⟨k,last,N⟩ g s1 ⟨hn1,hM1,hN,hk1,hk2,hres⟩
 dsimp only at hn1 hM1 hN hk1 hk2 hres ⊢
 refine WC.seq (Rg (Co (Lt (z:=Nl (WC.seq ?_)))))
 refine WC.condD rfl (fun hlt hltb=>?_) (fun hlt hltb=>?_)
 ·refine WC.skip (WC.seq (WC.block (WC.seq (Rg (Mv (z:=Av (z:=Nl (WC.seq (Rg (Mv (z:=Mv (z:=Co ?_))))))))))))
  refine SV.callM rfl rfl (of_sp hX hM1 (hT.setN hN) hS.setN ⟨by omega,by omega⟩) ?_
  rintro v s2 H2 hn2 hM2 ⟨rfl,rfl⟩
  dsimp only
  rw [show S.A.length-k.toNat=(S.A.length-(k+1).toNat)+1 by omega] at hres
  simp only [backedM] at hres
  generalize hc:rd N (rd S.A k)=c at hres ⊢
  refine Av (z:=Nl (WC.block (WC.seq (Rg (Mv (z:=Co ?_))))))
  refine SV.callM rfl rfl (strong_sp hX hM2) ?_
  rintro v s3 H3 hn3 hM3 ⟨rfl,rfl⟩
  have nxt:∀ (last':Int) (N':List Int) (s':St) (g':Gm),N'.length=D.n→s.next≤s'.next→Models ro s' (H.up D.w (.row 1 (N'.map (.int .i64)))) →
   backedM S.A cl sg to ar (S.A.length-(k+1).toNat) (k+1) last' N'=backedM S.A cl sg to ar S.A.length 0 S.st D.N →
   holds g' [(0,.pointer (some ⟨S.q,0,none⟩)),(1,.int .i64 cl),(2,.int .i64 sg),(3,.int .i64 to),(4,.bool ar),(10,.int .i64 last'),(21,.int .i64 S.A.length),(22,.int .i64 (k+1))] →
   ∃ x':Int×Int×List Int,holds g' [(0,.pointer (some ⟨S.q,0,none⟩)),(1,.int .i64 cl),(2,.int .i64 sg),(3,.int .i64 to),(4,.bool ar),(10,.int .i64 x'.2.1),(21,.int .i64 S.A.length),(22,.int .i64 x'.1)] ∧
    (s.next≤s'.next∧Models ro s' (H.up D.w (.row 1 (x'.2.2.map (.int .i64))))∧x'.2.2.length=D.n∧0≤x'.1∧x'.1≤S.A.length ∧
   backedM S.A cl sg to ar (S.A.length-x'.1.toNat) x'.1 x'.2.1 x'.2.2=backedM S.A cl sg to ar S.A.length 0 S.st D.N)∧S.A.length-x'.1.toNat<S.A.length-k.toNat:=
   fun last' N' s' g' h1 h2 h3 h4 h5=>⟨(k+1,last',N'),h5,⟨h2,h3,h1,by dsimp only;omega,by dsimp only;omega,h4⟩,by dsimp only;omega⟩
  cases ar
  ·refine Mv (z:=?_)
   refine WO.guardDF rfl rfl rfl (fun hg5_3 hh5_3=>SV.moveV (by constructor) ?_) (fun hg5_3 hh5_3=>?_) (by decide)
   all_goals (first | refine Gy (z:=Mq (z:=?_)) | refine Gn (z:=?_))
   all_goals (first | refine Gn (z:=?_) | refine Gu (z:=?_))
   all_goals (first | refine Gn (z:=?_) | refine Gu (z:=?_))
   all_goals (first | refine Gy (z:=Pf (z:=?_)) | refine Gn (z:=?_))
   all_goals (first | refine Co (Pt (z:=?_)) | refine Co (Pf (z:=?_)))
   all_goals refine Av (z:=Nl ?_)
   ·refine Cf (z:=WC.seq (Rg (Mv (z:=Mv (z:=Co (Ei (z:=Mv (z:=?_))))))))
    refine WO.guardDT rfl rfl rfl (fun hg7_4 hh7_4=>SV.moveV (by constructor) ?_) (fun hg7_4 hh7_4=>?_) (by decide)
    all_goals (first | refine Gy (z:=Mq (z:=?_)) | refine Gn (z:=?_))
    all_goals (first | refine Gy (z:=Ei (z:=?_)) | refine Gn (z:=?_))
    all_goals (first | refine Co (Pt (z:=?_)) | refine Co (Pf (z:=?_)))
    all_goals refine Av (z:=Nl ?_)
    ·skip
     refine WC.condD rfl (fun h4 h4b=>?_) (fun h4 h4b=>?_)
     ·skip
      refine Rg (Mv (z:=Mv (z:=Mv (z:=Co ?_))))
      refine SV.callM rfl rfl (become_sp hX hM3 (hT.setN hN) hS.setN ⟨by omega,by omega⟩) ?_
      rintro v s4 H4 hn4 hM4 ⟨rfl,rfl⟩
      simp only [Hp.up_up] at hM4
      refine Nl (Rg (Co (Ad (z:=Mv (z:=Nl ?_)))))
      exact ⟨rfl,nxt _ _ _ _ (becomeM_length.trans hN) (by omega) hM4 (by rw [←hres,if_neg hg5_3,if_neg (by simp),if_pos ⟨hg7_4,h4⟩]) Ho⟩
     ·refine WC.skip (Rg (Co (Ad (z:=Mv (z:=Nl ?_)))))
      exact ⟨rfl,nxt _ _ _ _ hN (by omega) hM3 (by rw [←hres,if_neg hg5_3,if_neg (by simp),if_neg (fun h=>h4 h.2)]) Ho⟩
    ·refine Cf (z:=WC.skip (Rg (Co (Ad (z:=Mv (z:=Nl ?_))))))
     exact ⟨rfl,nxt _ _ _ _ hN (by omega) hM3 (by rw [←hres,if_neg hg5_3,if_neg (by simp),if_neg (fun h=>hg7_4 h.1)]) Ho⟩
   ·refine Ct (z:=Rg (Mv (z:=Av (z:=Nl (Rg (Co (Ad (z:=Mv (z:=Nl ?_)))))))))
    exact ⟨rfl,nxt _ _ _ _ hN (by omega) hM3 (by rw [←hres,if_pos hg5_3]) Ho⟩
  ·refine Mv (z:=?_)
   refine WO.guardDF rfl rfl rfl (fun hg5_3 hh5_3=>SV.moveV (by constructor) ?_) (fun hg5_3 hh5_3=>?_) (by decide)
   all_goals (first | refine Gy (z:=Mq (z:=?_)) | refine Gn (z:=?_))
   all_goals (first | refine Gy (z:=Mq (z:=?_)) | refine Gu (z:=?_))
   all_goals (first | refine Gy (z:=Ei (z:=?_)) | refine Gu (z:=?_))
   all_goals (first | refine Gy (z:=Pt (z:=?_)) | refine Gn (z:=?_))
   all_goals (first | refine Co (Pt (z:=?_)) | refine Co (Pf (z:=?_)))
   all_goals refine Av (z:=Nl ?_)
   ·skip
    refine WC.condD rfl (fun h5 h5b=>?_) (fun h5 h5b=>?_)
    ·skip
     refine Rg (Mv (z:=Av (z:=Nl (Rg (Co (Ad (z:=Mv (z:=Nl ?_))))))))
     exact ⟨rfl,nxt _ _ _ _ hN (by omega) hM3 (by rw [←hres,if_neg hg5_3,if_pos ⟨rfl,h5⟩]) Ho⟩
    ·refine WC.seq (Rg (Mv (z:=Mv (z:=Co (Ei (z:=Mv (z:=?_)))))))
     refine WO.guardDT rfl rfl rfl (fun hg7_4 hh7_4=>SV.moveV (by constructor) ?_) (fun hg7_4 hh7_4=>?_) (by decide)
     all_goals (first | refine Gy (z:=Mq (z:=?_)) | refine Gn (z:=?_))
     all_goals (first | refine Gy (z:=Ei (z:=?_)) | refine Gn (z:=?_))
     all_goals (first | refine Co (Pt (z:=?_)) | refine Co (Pf (z:=?_)))
     all_goals refine Av (z:=Nl ?_)
     ·skip
      refine WC.condD rfl (fun h4 h4b=>?_) (fun h4 h4b=>?_)
      ·skip
       refine Rg (Mv (z:=Mv (z:=Mv (z:=Co ?_))))
       refine SV.callM rfl rfl (become_sp hX hM3 (hT.setN hN) hS.setN ⟨by omega,by omega⟩) ?_
       rintro v s4 H4 hn4 hM4 ⟨rfl,rfl⟩
       simp only [Hp.up_up] at hM4
       refine Nl (Rg (Co (Ad (z:=Mv (z:=Nl ?_)))))
       exact ⟨rfl,nxt _ _ _ _ (becomeM_length.trans hN) (by omega) hM4 (by rw [←hres,if_neg hg5_3,if_neg (fun h=>h5 h.2),if_pos ⟨hg7_4,h4⟩]) Ho⟩
      ·refine WC.skip (Rg (Co (Ad (z:=Mv (z:=Nl ?_)))))
       exact ⟨rfl,nxt _ _ _ _ hN (by omega) hM3 (by rw [←hres,if_neg hg5_3,if_neg (fun h=>h5 h.2),if_neg (fun h=>h4 h.2)]) Ho⟩
     ·refine Cf (z:=WC.skip (Rg (Co (Ad (z:=Mv (z:=Nl ?_))))))
      exact ⟨rfl,nxt _ _ _ _ hN (by omega) hM3 (by rw [←hres,if_neg hg5_3,if_neg (fun h=>h5 h.2),if_neg (fun h=>hg7_4 h.1)]) Ho⟩
   ·refine Ct (z:=Rg (Mv (z:=Av (z:=Nl (Rg (Co (Ad (z:=Mv (z:=Nl ?_)))))))))
    exact ⟨rfl,nxt _ _ _ _ hN (by omega) hM3 (by rw [←hres,if_pos hg5_3]) Ho⟩
 ·refine WC.exit ?_
  have e:S.A.length-k.toNat=0:=by omega
  rw [e] at hres
  simp only [backedM] at hres
  subst hres
  exact fin_none (e:=.normal) rfl trivial hn1 hM1 ⟨rfl,rfl⟩
def extM (pin:Int→Prop) [DecidablePred pin] (A N:List Int):Nat→Int→Int
 | 0,b=>b
 | r+1,b=>if pin (rd N (rd A b)) then extM pin A N r (b+1) else b
theorem extM_le (pin:Int→Prop) [DecidablePred pin] (A N:List Int):∀ (r:Nat) (b:Int),b≤extM pin A N r b∧extM pin A N r b≤b+r
 | 0,b=>⟨Int.le_refl _,by simp [extM]⟩
 | r+1,b=>by
  have:=extM_le pin A N r (b+1)
  simp only [extM]
  split <;> omega
def rowsM (pin:Int→Prop) [DecidablePred pin] (G:Int→Int→List Int→List Int) (A:List Int):Nat→Int→List Int→List Int
 | 0,_,N=>N
 | r+1,a,N=>if a<A.length then (if extM pin A N (A.length-a.toNat) a>a then rowsM pin G A r (extM pin A N (A.length-a.toNat) a+1) (G a (extM pin A N (A.length-a.toNat) a) N) else rowsM pin G A r (a+1) N) else N
theorem rowsM_end (pin:Int→Prop) [DecidablePred pin] (G:Int→Int→List Int→List Int) (A:List Int) {r:Nat} {a:Int} {N:List Int} (h:¬ a<A.length):rowsM pin G A r a N=N:=by
 cases r with
 | zero=>rfl
 | succ r=>simp only [rowsM,if_neg h]
theorem rowsM_length (pin:Int→Prop) [DecidablePred pin] (G:Int→Int→List Int→List Int) (A:List Int) (hG:∀ a b N,(G a b N).length=N.length):∀ (r:Nat) (a:Int) (N:List Int),(rowsM pin G A r a N).length=N.length
 | 0,_,_=>rfl
 | r+1,a,N=>by
  simp only [rowsM]
  split
  ·split
   ·exact (rowsM_length pin G A hG r _ _).trans (hG _ _ _)
   ·exact rowsM_length pin G A hG r _ _
  ·rfl
theorem rows_sp {s:St} {H:Hp} {D:TD} {S:SD} (hX:OwnX X) (hM:Models ro s H) (hT:TextH H D) (hS:SeqH H D S)
 {pin:Int→Prop} [DecidablePred pin] {fi fo:FuncId} {cv:Value} {G:Int→Int→List Int→List Int}
 (hin:∀ (s':St) (H':Hp) (c:Int),Models ro s' H'→Sp X Try.prog ro fi [.int .i64 c] s' fun v H2=>v = .bool (decide (pin c))∧H2=H')
 (hone:∀ (s':St) (N:List Int) (a b:Int),Models ro s' (H.up D.w (.row 1 (N.map (.int .i64))))→N.length=D.n→0≤a∧a≤b∧b≤S.A.length →
  Sp X Try.prog ro fo [.int .i64 a,.int .i64 b,cv] s' fun v H2=>v = .tuple #[]∧H2=H.up D.w (.row 1 ((G a b N).map (.int .i64))))
 (hG:∀ a b N,(G a b N).length=N.length) :
 Sp X Try.prog ro 64 [.pointer (some ⟨S.q,0,none⟩),.func (.func fi) #[] #[],.func (.func fo) #[] #[cv]] s
  fun v H'=>v = .tuple #[]∧H'=H.up D.w (.row 1 ((rowsM pin G S.A S.A.length 0 D.N).map (.int .i64))):=by
 have hbig:=hS.big
 have hbig2:=hT.big
 refine Bo hX Try.func64 Try.ntmps64 (z:=?_)
 refine WC.seq (Rg (Av (z:=Nl (WC.block ?_))))
 refine WC.loop (D:=Int×Nat×List Int) (fun x=>[(0,.pointer (some ⟨S.q,0,none⟩)),(1,.func (.func fi) #[] #[]),(2,.func (.func fo) #[] #[cv]),(6,.int .i64 x.1)])
  (fun x s1=>s.next≤s1.next∧Models ro s1 (H.up D.w (.row 1 (x.2.2.map (.int .i64))))∧x.2.2.length=D.n∧0≤x.1∧x.1≤S.A.length+1∧S.A.length≤x.2.1+x.1 ∧
   rowsM pin G S.A x.2.1 x.1 x.2.2=rowsM pin G S.A S.A.length 0 D.N)
  (fun x=>(S.A.length+1-x.1).toNat) (0,S.A.length,D.N) ?_ ⟨Nat.le_refl _,by rw [Hp.up_self hT.w];exact hM,hT.nN,Int.le_refl _,by dsimp only;omega,by dsimp only;omega,rfl⟩ ?_
 ·exact Ho
 rintro ⟨a,r,N⟩ g s1 ⟨hn1,hM1,hN,ha1,ha2,har,hres⟩
 dsimp only at hn1 hM1 hN ha1 ha2 har hres ⊢
 obtain ⟨e1,ca,hq⟩:=(hS.setN (o:=.row 1 (N.map (.int .i64))) (N':=N)).q
 have hT1:=hT.setN hN
 have hS1:=hS.setN (o:=.row 1 (N.map (.int .i64))) (N':=N)
 refine WC.seq (WC.seq (Rg (Mv (z:=Mv (z:=Co (Np (z:=Co (Fa (z:=Co (Ld (z:=Co (Ln (z:=Co (Lt (z:=Nl ?_)))))))))))))))
 refine WC.condD rfl (fun hlt hltb=>?_) (fun hlt hltb=>?_)
 ·refine WC.skip (WC.seq (WC.block (WC.seq (Rg (Mv (z:=Av (z:=Nl ?_)))))))
  obtain ⟨r,rfl⟩:∃ m,r=m+1:=⟨r-1,by omega⟩
  simp only [rowsM,if_pos hlt] at hres
  refine WC.seq (WC.block ?_)
  refine WC.mono (Q:=fun e g' ds' s'=>e = .exit 2∧ds'=[]∧∃ b:Int,holds g' [(0,.pointer (some ⟨S.q,0,none⟩)),(1,.func (.func fi) #[] #[]),(2,.func (.func fo) #[] #[cv]),(6,.int .i64 a),(7,.int .i64 b)] ∧
   s1.next≤s'.next∧Models ro s' (H.up D.w (.row 1 (N.map (.int .i64))))∧a≤b∧b≤S.A.length∧b=extM pin S.A N (S.A.length-a.toNat) a) ?_ ?_
  ·refine WC.loop (D:=Int) (fun x=>[(0,.pointer (some ⟨S.q,0,none⟩)),(1,.func (.func fi) #[] #[]),(2,.func (.func fo) #[] #[cv]),(6,.int .i64 a),(7,.int .i64 x)])
    (fun x s1'=>s1.next≤s1'.next∧Models ro s1' (H.up D.w (.row 1 (N.map (.int .i64))))∧a≤x∧x≤S.A.length∧extM pin S.A N (S.A.length-x.toNat) x=extM pin S.A N (S.A.length-a.toNat) a)
    (fun x=>(S.A.length-x).toNat) a ?_ ⟨Nat.le_refl _,hM1,Int.le_refl _,by omega,rfl⟩ ?_
   ·exact Ho
   rintro b g2 s2 ⟨hn2,hM2,hb1,hb2,hext⟩
   refine WC.seq (WC.seq (Rg (Mv (z:=Mv (z:=Co (Np (z:=Co (Fa (z:=Co (Ld (z:=Co (Ln (z:=Co (Lt (z:=Mv (z:=?_))))))))))))))))
   refine WO.guardDT rfl rfl rfl (fun hg4_8 hh4_8=>SV.moveV (by constructor) ?_) (fun hg4_8 hh4_8=>?_) (by decide)
   all_goals (first | refine Gy (z:=Mq (z:=?_)) | refine Gn (z:=?_))
   all_goals (first | refine Gy (z:=Mq (z:=?_)) | refine Gn (z:=?_))
   all_goals (first | refine WO.guardY rfl rfl rfl (by assumption) ?_ (by decide) | refine Gn (z:=?_))
   ·refine SV.callM rfl rfl (of_sp hX hM2 hT1 hS1 ⟨by omega,by omega⟩) ?_
    rintro v s3 H3 hn3 hM3 ⟨rfl,rfl⟩
    dsimp only
    refine WO.guardY rfl rfl rfl (by assumption) ?_ (by decide)
    refine SV.callM rfl rfl (hin _ _ _ hM3) ?_
    rintro v s4 H4 hn4 hM4 ⟨rfl,rfl⟩
    refine Co (Pt (z:=Nl ?_))
    rw [show S.A.length-b.toNat=(S.A.length-(b+1).toNat)+1 by omega] at hext
    simp only [extM] at hext
    refine WC.condD rfl (fun hp hpb=>?_) (fun hp hpb=>?_)
    ·rw [if_pos hp] at hext
     refine WC.skip (WC.block (Rg (Mv (z:=Co (Ad (z:=Av (z:=Nl ?_)))))))
     exact ⟨rfl,b+1,Ho,⟨by omega,hM4,by omega,by omega,hext⟩,by omega⟩
    ·rw [if_neg hp] at hext
     refine WC.exit ?_
     exact ⟨rfl,rfl,b,Ho,by omega,hM4,hb1,hb2,hext⟩
   ·refine Gn (z:=Co (Pf (z:=Nl ?_)))
    rw [show S.A.length-b.toNat=0 by omega] at hext
    simp only [extM] at hext
    refine Cf (z:=WC.exit ?_)
    exact ⟨rfl,rfl,b,Ho,by omega,hM2,hb1,hb2,hext⟩
  rintro e g2 ds2 s2 ⟨rfl,rfl,b,hg2,hn2,hM2,hb1,hb2,hext⟩
  rw [←over_same hg2]
  rw [←hext] at hres
  refine WC.seq (Rg (Mv (z:=Mv (z:=Co (Gt (z:=Nl ?_))))))
  refine WC.condD rfl (fun hgt hgtb=>?_) (fun hgt hgtb=>?_)
  ·rw [if_pos hgt] at hres
   refine WC.seq (Rg (Mv (z:=Mv (z:=Mv (z:=Co ?_)))))
   refine SV.callM rfl rfl (hone _ _ _ _ hM2 hN ⟨by omega,by omega,by omega⟩) ?_
   rintro v s3 H3 hn3 hM3 ⟨rfl,rfl⟩
   refine Nl (Rg (Mv (z:=Av (z:=Nl (Rg (Mv (z:=Co (Ad (z:=Av (z:=Nl ?_))))))))))
   exact ⟨rfl,(b+1,r,G a b N),Ho,⟨by omega,hM3,(hG _ _ _).trans hN,by dsimp only;omega,by dsimp only;omega,by dsimp only;omega,hres⟩,by dsimp only;omega⟩
  ·rw [if_neg hgt] at hres
   refine WC.skip (Rg (Mv (z:=Co (Ad (z:=Av (z:=Nl ?_))))))
   exact ⟨rfl,(a+1,r,N),Ho,⟨by omega,hM2,hN,by dsimp only;omega,by dsimp only;omega,by dsimp only;omega,hres⟩,by dsimp only;omega⟩
 ·refine WC.exit ?_
  rw [rowsM_end pin G S.A hlt] at hres
  subst hres
  exact fin_none (e:=.normal) rfl trivial hn1 hM1 ⟨rfl,rfl⟩
theorem isET_sp {s:St} {H:Hp} {c:Int} (hX:OwnX X) (hM:Models ro s H):Sp X Try.prog ro 65 [.int .i64 c] s fun v H'=>v = .bool (decide (c=5))∧H'=H:=by
 refine Bo hX Try.func65 Try.ntmps65 (z:=?_)
 refine WC.seq (Rg (Av (z:=Nl (WC.seq (Rg (Mv (z:=Co (Ei (z:=Av (z:=Nl (WC.ret ?_)))))))))))
 exact fin_one rfl trivial rfl (Nat.le_refl _) hM ⟨rfl,rfl⟩
def etM (A:List Int) (a b:Int) (N:List Int):List Int:=
 if (0<a∧rd N (rd A (a-1))=3)∨(b<A.length∧rd N (rd A b)=3) then allM A 3 (b-a).toNat a N else N
theorem etM_length (A:List Int) (a b:Int) (N:List Int):(etM A a b N).length=N.length:=by
 unfold etM;split
 ·exact allM_length _ _ _
 ·rfl
theorem et_sp {s:St} {H:Hp} {D:TD} {S:SD} {a b:Int} {bx e0:Nat} (hX:OwnX X) (hM:Models ro s H) (hT:TextH H D) (hS:SeqH H D S) (hbx:H bx=some (.row e0 [.pointer (some ⟨S.q,0,none⟩)])) (h0:0≤a∧a≤b∧b≤S.A.length) :
 Sp X Try.prog ro 66 [.int .i64 a,.int .i64 b,.pointer (some ⟨bx,0,none⟩)] s fun v H'=>v = .tuple #[]∧H'=H.up D.w (.row 1 ((etM S.A a b D.N).map (.int .i64))):=by
 obtain ⟨e1,ca,hq⟩:=hS.q
 have hbig:=hS.big
 have hbig2:=hT.big
 have same:H.up D.w (.row 1 (D.N.map (.int .i64)))=H:=Hp.up_self hT.w
 have fin:∀ (s':St),s.next≤s'.next→Models ro s' H→¬ ((0<a∧rd D.N (rd S.A (a-1))=3)∨(b<S.A.length∧rd D.N (rd S.A b)=3))→∀ g,FinM Try.prog ro s.next Try.f66 (fun v H'=>v = .tuple #[]∧H'=H.up D.w (.row 1 ((etM S.A a b D.N).map (.int .i64)))) .normal g [] s':=
  fun s' h1 h2 h3 g=>fin_none (e:=.normal) rfl trivial h1 h2 ⟨rfl,by unfold etM;rw [if_neg h3,same]⟩
 refine Bo hX Try.func66 Try.ntmps66 (z:=?_)
 refine WC.seq (Rg (Mv (z:=Co (Gt (z:=Mv (z:=?_))))))
 refine WO.guardDT rfl rfl rfl (fun hg0_3 hh0_3=>SV.loadM (by assumption) rfl (by assumption) (by rfl) ?_) (fun hg0_3 hh0_3=>?_) (by decide)
 all_goals (first | refine Gy (z:=Mq (z:=?_)) | refine Gn (z:=?_))
 all_goals (first | refine Gy (z:=Sb (z:=?_)) | refine Gn (z:=?_))
 all_goals (first | refine WO.guardY rfl rfl rfl (by assumption) ?_ (by decide) | refine Gn (z:=?_))
 ·refine SV.callM rfl rfl (of_sp hX hM hT hS ⟨by omega,by omega⟩) ?_
  rintro v s3 H3 hn3 hM3 ⟨rfl,rfl⟩
  refine Gy (z:=Ei (z:=Co (Pt (z:=Mv (z:=?_)))))
  all_goals (refine WO.guardDF rfl rfl rfl (fun hg0_10 hh0_10=>SV.moveV (by constructor) ?_) (fun hg0_10 hh0_10=>?_) (by decide))
  all_goals (first | refine Gy (z:=Ld (z:=?_)) | refine Gn (z:=?_))
  all_goals (first | refine Gy (z:=Np (z:=?_)) | refine Gn (z:=?_))
  all_goals (first | refine Gy (z:=Fa (z:=?_)) | refine Gn (z:=?_))
  all_goals (first | refine Gy (z:=Ld (z:=?_)) | refine Gn (z:=?_))
  all_goals (first | refine Gy (z:=Ln (z:=?_)) | refine Gn (z:=?_))
  all_goals (first | refine Gy (z:=Lt (z:=?_)) | refine Gn (z:=?_))
  all_goals (first | refine Gy (z:=Mq (z:=?_)) | refine Gn (z:=?_))
  all_goals (first | refine Gu (z:=?_) | refine WO.guardDT rfl rfl rfl (fun hg0_18 hh0_18=>SV.loadM (by assumption) rfl (by assumption) (by rfl) ?_) (fun hg0_18 hh0_18=>?_) (by decide))
  all_goals (first | refine Gy (z:=Mq (z:=?_)) | refine Gn (z:=?_) | refine Gu (z:=?_))
  all_goals (first | refine WO.guardY rfl rfl rfl (by assumption) ?_ (by decide) | refine Gn (z:=?_) | refine Gu (z:=?_))
  ·refine SV.callM rfl rfl (of_sp hX hM3 hT hS ⟨by omega,by omega⟩) ?_
   rintro v s4 H4 hn4 hM4 ⟨rfl,rfl⟩
   refine Gy (z:=Ei (z:=Gy (z:=Pt (z:=Co (Pf (z:=Nl ?_))))))
   refine WC.condD rfl (fun hp hpb=>?_) (fun hp hpb=>?_)
   ·skip
    refine Rg (Co (Ld (z:=Mv (z:=Mv (z:=Co ?_)))))
    refine SV.callM rfl rfl (all_sp hX hM4 hT hS ⟨by omega,by omega,by omega⟩) ?_
    rintro v s5 H5 hn5 hM5 ⟨rfl,rfl⟩
    refine Nl ?_
    exact fin_none (e:=.normal) rfl trivial (by omega) hM5 ⟨rfl,by unfold etM;rw [if_pos (.inr ⟨by omega,hp⟩)]⟩
   ·refine WC.skip ?_
    exact fin _ (by omega) hM4 (by rintro (⟨_,h⟩ | ⟨_,h⟩) <;> contradiction) _
  ·refine Gn (z:=Gy (z:=Pf (z:=Co (Pf (z:=Nl (Cf (z:=WC.skip ?_)))))))
   exact fin _ (by omega) hM3 (by rintro (⟨_,h⟩ | ⟨h,_⟩) <;> contradiction) _
  ·refine Gu (z:=Gn (z:=Co (Pt (z:=Nl (Ct (z:=Rg (Co (Ld (z:=Mv (z:=Mv (z:=Co ?_)))))))))))
   refine SV.callM rfl rfl (all_sp hX hM3 hT hS ⟨by omega,by omega,by omega⟩) ?_
   rintro v s5 H5 hn5 hM5 ⟨rfl,rfl⟩
   refine Nl ?_
   exact fin_none (e:=.normal) rfl trivial (by omega) hM5 ⟨rfl,by unfold etM;rw [if_pos (.inl ⟨by omega,by assumption⟩)]⟩
 ·refine Gn (z:=Co (Pf (z:=Mv (z:=Gy (z:=Mq (z:=Gy (z:=Ld (z:=Gy (z:=Np (z:=Gy (z:=Fa (z:=Gy (z:=Ld (z:=Gy (z:=Ln (z:=Gy (z:=Lt (z:=Gy (z:=Mq (z:=?_))))))))))))))))))))
  all_goals (refine WO.guardDT rfl rfl rfl (fun hg0_18 hh0_18=>SV.loadM (by assumption) rfl (by assumption) (by rfl) ?_) (fun hg0_18 hh0_18=>?_) (by decide))
  all_goals (first | refine Gy (z:=Mq (z:=?_)) | refine Gn (z:=?_))
  all_goals (first | refine WO.guardY rfl rfl rfl (by assumption) ?_ (by decide) | refine Gn (z:=?_))
  ·refine SV.callM rfl rfl (of_sp hX hM hT hS ⟨by omega,by omega⟩) ?_
   rintro v s4 H4 hn4 hM4 ⟨rfl,rfl⟩
   refine Gy (z:=Ei (z:=Gy (z:=Pt (z:=Co (Pf (z:=Nl ?_))))))
   refine WC.condD rfl (fun hp hpb=>?_) (fun hp hpb=>?_)
   ·skip
    refine Rg (Co (Ld (z:=Mv (z:=Mv (z:=Co ?_)))))
    refine SV.callM rfl rfl (all_sp hX hM4 hT hS ⟨by omega,by omega,by omega⟩) ?_
    rintro v s5 H5 hn5 hM5 ⟨rfl,rfl⟩
    refine Nl ?_
    exact fin_none (e:=.normal) rfl trivial (by omega) hM5 ⟨rfl,by unfold etM;rw [if_pos (.inr ⟨by omega,hp⟩)]⟩
   ·refine WC.skip ?_
    exact fin _ (by omega) hM4 (by rintro (⟨h,_⟩ | ⟨_,h⟩) <;> contradiction) _
  ·refine Gn (z:=Gy (z:=Pf (z:=Co (Pf (z:=Nl (Cf (z:=WC.skip ?_)))))))
   exact fin _ (by omega) hM (by rintro (⟨h,_⟩ | ⟨h,_⟩) <;> contradiction) _
theorem Models.drop {s:St} {H:Hp} {a w:Nat} {x y:Go.Ab.Obj} (h:Models ro s ((H.up a x).up w y)) (hne:∀ ν o,H ν=some o→ν≠a):Models ro s (H.up w y):=h.sub fun ν o e=>by
 unfold Hp.up at e ⊢
 by_cases h1:ν=w
 ·rw [if_pos h1] at e ⊢;exact e
 ·rw [if_neg h1] at e ⊢
  show (if ν=a then some x else H ν)=some o
  rw [if_neg (hne ν o e)];exact e
theorem TextH.fresh {H:Hp} {D:TD} {a:Nat} {x:Go.Ab.Obj} (h:TextH H D) (hne:∀ ν o,H ν=some o→ν≠a):TextH (H.up a x) D:=by
 obtain ⟨e,cc,cf,cw,cl,cm,ht⟩:=h.t
 exact { h with
  t:=⟨e,cc,cf,cw,cl,cm,Hp.up_ne (hne _ _ ht) ht⟩,c:=Hp.up_ne (hne _ _ h.c) h.c,f:=Hp.up_ne (hne _ _ h.f) h.f,w:=Hp.up_ne (hne _ _ h.w) h.w,l:=Hp.up_ne (hne _ _ h.l) h.l,m:=Hp.up_ne (hne _ _ h.m) h.m,kp:=fun ν o e=>Hp.up_ne (hne _ _ (h.kp ν o e)) (h.kp ν o e) }
theorem SeqH.fresh {H:Hp} {D:TD} {S:SD} {a:Nat} {x:Go.Ab.Obj} (h:SeqH H D S) (hne:∀ ν o,H ν=some o→ν≠a):SeqH (H.up a x) D S:=by
 obtain ⟨e,ca,hq⟩:=h.q
 obtain ⟨r,ha⟩:=h.a
 exact { h with q:=⟨e,ca,Hp.up_ne (hne _ _ hq) hq⟩,a:=⟨r,Hp.up_ne (hne _ _ ha) ha⟩ }
def nsmM (A F:List Int):Nat→Int→Int→List Int→List Int
 | 0,_,_,N=>N
 | r+1,k,last,N=>
  if rd N (rd A k)=8 then
   nsmM A F r (k+1) (rd (becomeM A N k (if 0<k∧(isOpener (rd F (rd A (k-1)))∨rd F (rd A (k-1))=22) then 13 else last)) (rd A k))
    (becomeM A N k (if 0<k∧(isOpener (rd F (rd A (k-1)))∨rd F (rd A (k-1))=22) then 13 else last))
  else nsmM A F r (k+1) (rd N (rd A k)) N
theorem nsmM_length {A F:List Int}:∀ (r:Nat) (k last:Int) (N:List Int),(nsmM A F r k last N).length=N.length
 | 0,_,_,_=>rfl
 | r+1,k,last,N=>by
  simp only [nsmM]
  split
  ·exact (nsmM_length r _ _ _).trans becomeM_length
  ·exact nsmM_length r _ _ _
def turnM (p:Int→Prop) [DecidablePred p] (A:List Int) (to:Int):Nat→Int→List Int→List Int
 | 0,_,N=>N
 | r+1,k,N=>if p (rd N (rd A k)) then turnM p A to r (k+1) (becomeM A N k to) else turnM p A to r (k+1) N
theorem turnM_length {p:Int→Prop} [DecidablePred p] {A:List Int} {to:Int}:∀ (r:Nat) (k:Int) (N:List Int),(turnM p A to r k N).length=N.length
 | 0,_,_=>rfl
 | r+1,k,N=>by
  simp only [turnM]
  split
  ·exact (turnM_length r _ _).trans becomeM_length
  ·exact turnM_length r _ _
def esM (A:List Int):Nat→Int→List Int→List Int
 | 0,_,N=>N
 | r+1,k,N=>
  if rd N (rd A (k-1))=rd N (rd A (k+1))∧((rd N (rd A (k-1))=3∧(rd N (rd A k)=4∨rd N (rd A k)=7))∨(rd N (rd A (k-1))=6∧rd N (rd A k)=7)) then esM A r (k+1) (becomeM A N k (rd N (rd A (k-1))))
  else esM A r (k+1) N
theorem esM_length {A:List Int}:∀ (r:Nat) (k:Int) (N:List Int),(esM A r k N).length=N.length
 | 0,_,_=>rfl
 | r+1,k,N=>by
  simp only [esM]
  split
  ·exact (esM_length r _ _).trans becomeM_length
  ·exact esM_length r _ _
def isSep (c:Int):Prop:=c=4∨c=5∨c=7
instance:DecidablePred isSep:=fun c=>inferInstanceAs (Decidable (_∨_))
def weakM (A F:List Int) (st:Int) (N:List Int):List Int:=
 let N1:=nsmM A F A.length 0 st N
 let N2:=backedM A 3 2 6 true A.length 0 st N1
 let N3:=turnM (fun c=>c=2) A 1 A.length 0 N2
 let N4:=esM A (A.length-2) 1 N3
 let N5:=rowsM (fun c=>c=5) (etM A) A A.length 0 N4
 let N6:=turnM isSep A 13 A.length 0 N5
 backedM A 3 0 0 false A.length 0 st N6
theorem weakM_length {A F:List Int} {st:Int} {N:List Int}:(weakM A F st N).length=N.length:=by
 simp only [weakM,backedM_length,turnM_length,rowsM_length _ _ _ (etM_length A),esM_length,nsmM_length]
set_option maxHeartbeats 8000000 in
theorem weak_sp {s:St} {H:Hp} {D:TD} {S:SD} (hX:OwnX X) (hM:Models ro s H) (hT:TextH H D) (hS:SeqH H D S) :
 Sp X Try.prog ro 40 [.pointer (some ⟨S.q,0,none⟩)] s fun v H'=>v = .tuple #[]∧H'=H.up D.w (.row 1 ((weakM S.A D.F S.st D.N).map (.int .i64))):=by
 have hbig:=hS.big
 have hbig2:=hT.big
 refine Bo hX Try.func40 Try.ntmps40 (z:=?_)
 refine WC.seq (Rg ?_)
 refine WO.cons (SV.boxV (by assumption) (by constructor) (fun a0_0 s0_0 hf0_0 hne0_0 hn0_0 hM0_0=>?_)) (by decide)
 refine Nl ?_
 have hT0:=hT.fresh (x:=.row 0 [.pointer (some ⟨S.q,0,none⟩)]) hne0_0
 have hS0:=hS.fresh (x:=.row 0 [.pointer (some ⟨S.q,0,none⟩)]) hne0_0
 have hbx0:(H.up a0_0 (.row 0 [.pointer (some ⟨S.q,0,none⟩)])) a0_0=some (.row 0 [.pointer (some ⟨S.q,0,none⟩)]):=Hp.up_same
 have hbw:a0_0≠D.w:=(hne0_0 _ _ hT.w).symm
 have drop:∀ {s':St} {y},Models ro s' ((H.up a0_0 (.row 0 [.pointer (some ⟨S.q,0,none⟩)])).up D.w y)→Models ro s' (H.up D.w y):=fun h=>Models.drop h hne0_0
 generalize hH0:H.up a0_0 (.row 0 [.pointer (some ⟨S.q,0,none⟩)])=H0 at hT0 hS0 hbx0 hM0_0 drop
 obtain ⟨e1,ca,hq⟩:=hS0.q
 refine WC.seq (Rg (Co (Ld (z:=Co (Np (z:=Co (Fa (z:=Co (Ld (z:=Av (z:=Nl (WC.seq (WC.seq (Rg (Co (Ld (z:=Co (Np (z:=Co (Fa (z:=Co (Ld (z:=Co (Ln (z:=Mv (z:=Nl (WC.block ?_)))))))))))))))))))))))))))
 refine WC.loop (D:=Int×Int×List Int) (fun x=>[(1,.pointer (some ⟨a0_0,0,none⟩)),(2,.int .i64 x.2.1),(19,.slice (some ⟨S.a,0,none⟩) S.A.length ca),(20,.int .i64 S.A.length),(21,.int .i64 x.1)])
  (fun x s1=>s.next≤s1.next∧Models ro s1 (H0.up D.w (.row 1 (x.2.2.map (.int .i64))))∧x.2.2.length=D.n∧0≤x.1∧x.1≤S.A.length ∧
   nsmM S.A D.F (S.A.length-x.1.toNat) x.1 x.2.1 x.2.2=nsmM S.A D.F S.A.length 0 S.st D.N)
  (fun x=>S.A.length-x.1.toNat) (0,S.st,D.N) ?_ ⟨hn0_0,by rw [Hp.up_self hT0.w];exact hM0_0,hT.nN,Int.le_refl _,by simp,rfl⟩ ?_
 ·exact Ho
 rintro ⟨k,last,N⟩ g s1 ⟨hn1,hM1,hN,hk1,hk2,hres⟩
 dsimp only at hn1 hM1 hN hk1 hk2 hres ⊢
 have hT1:=hT0.setN hN
 have hS1:=hS0.setN (o:=.row 1 (N.map (.int .i64))) (N':=N)
 have hbx1:(H0.up D.w (.row 1 (N.map (.int .i64)))) a0_0=some (.row 0 [.pointer (some ⟨S.q,0,none⟩)]):=Hp.up_ne hbw hbx0
 obtain ⟨e2,cc,cf,cw,cl,cm,ht⟩:=hT1.t
 obtain ⟨e1',ca',hq1⟩:=hS1.q
 obtain ⟨r,ha⟩:=hS1.a
 have hf:=hT1.f
 have hw:=hT1.w
 have hnF:=hT.nF
 dsimp only at ht hf hw hnF
 have hl:(S.A++r).length=S.A.length+r.length:=List.length_append
 refine WC.seq (Rg (Co (Lt (z:=Nl (WC.seq ?_)))))
 refine WC.condD rfl (fun hlt hltb=>?_) (fun hlt hltb=>?_)
 ·have hk:=hS.at hk1 hlt
  rw [←rd_app (r:=r) hk1 hlt] at hk
  refine WC.skip (WC.seq (WC.block (WC.seq (Rg (Mv (z:=Co (Ix (z:=Co (Ld (z:=Av (z:=Av (z:=Nl (WC.seq (WC.seq (Rg (Co (Ld (z:=Mv (z:=Co ?_)))))))))))))))))))
  refine SV.callM rfl rfl (of_sp hX hM1 hT1 hS1 ⟨by omega,by omega⟩) ?_
  rintro v s2 H2 hn2 hM2 ⟨rfl,rfl⟩
  dsimp only
  rw [show S.A.length-k.toNat=(S.A.length-(k+1).toNat)+1 by omega] at hres
  simp only [nsmM] at hres
  refine Co (Ei (z:=Nl ?_))
  refine WC.condD rfl (fun h8 h8b=>?_) (fun h8 h8b=>?_)
  ·rw [if_pos h8] at hres
   have hkm:0<k→0≤rd (S.A++r) (k-1)∧rd (S.A++r) (k-1)<D.n:=fun h=>by rw [rd_app (by omega) (by omega)];exact hS.at (by omega) (by omega)
   have em:0<k→rd (S.A++r) (k-1)=rd S.A (k-1):=fun h=>rd_app (by omega) (by omega)
   have ek:rd (S.A++r) k=rd S.A k:=rd_app hk1 hlt
   refine WC.seq (WC.seq (WC.dr [0,1,2,3,4,5,6,7,8,9,10,11,12,13,14,15,16,17,18,19,20,21,22,23,24,25,26,27,28,29,30,31,32,33,34,35,36,37,38,39,40,41] (z:=Mw (z:=Cd (Gt (z:=Mw (z:=?_)))))))
   refine WD.guardDT rfl rfl rfl (fun hg6_3 hh6_3=>SV.loadM (by assumption) rfl (by assumption) (by rfl) ?_) (fun hg6_3 hh6_3=>?_) (by decide)
   all_goals (first | refine Hy (z:=Np (z:=?_)) | refine Hn (z:=?_))
   all_goals (first | refine Hy (z:=Fa (z:=?_)) | refine Hn (z:=?_))
   all_goals (first | refine Hy (z:=Ld (z:=?_)) | refine Hn (z:=?_))
   all_goals (first | refine Hy (z:=Np (z:=?_)) | refine Hn (z:=?_))
   all_goals (first | refine Hy (z:=Fa (z:=?_)) | refine Hn (z:=?_))
   all_goals (first | refine Hy (z:=Ld (z:=?_)) | refine Hn (z:=?_))
   all_goals (first | refine Hy (z:=Ld (z:=?_)) | refine Hn (z:=?_))
   all_goals (first | refine Hy (z:=Np (z:=?_)) | refine Hn (z:=?_))
   all_goals (first | refine Hy (z:=Fa (z:=?_)) | refine Hn (z:=?_))
   all_goals (first | refine Hy (z:=Ld (z:=?_)) | refine Hn (z:=?_))
   all_goals (first | refine Hy (z:=Mq (z:=?_)) | refine Hn (z:=?_))
   all_goals (first | refine Hy (z:=Sb (z:=?_)) | refine Hn (z:=?_))
   all_goals (first | refine Hy (z:=Ix (z:=?_)) | refine Hn (z:=?_))
   all_goals (first | refine Hy (z:=Ld (z:=?_)) | refine Hn (z:=?_))
   all_goals (first | refine Hy (z:=Ix (z:=?_)) | refine Hn (z:=?_))
   all_goals (first | refine Hy (z:=Ld (z:=?_)) | refine Hn (z:=?_))
   all_goals (first | refine WD.guardY rfl rfl rfl (by assumption) ?_ (by decide) | refine Hn (z:=?_))
   ·refine SV.callM rfl rfl (opener_sp' hX hM2) ?_
    rintro v s3 H3 hn3 hM3 ⟨rfl,rfl⟩
    refine Hy (z:=Mq (z:=?_))
    all_goals (refine WD.guardDF rfl rfl rfl (fun hg6_22 hh6_22=>SV.loadM (by assumption) rfl (by assumption) (by rfl) ?_) (fun hg6_22 hh6_22=>?_) (by decide))
    all_goals (first | refine Hy (z:=Np (z:=?_)) | refine Hn (z:=?_))
    all_goals (first | refine Hy (z:=Fa (z:=?_)) | refine Hn (z:=?_))
    all_goals (first | refine Hy (z:=Ld (z:=?_)) | refine Hn (z:=?_))
    all_goals (first | refine Hy (z:=Np (z:=?_)) | refine Hn (z:=?_))
    all_goals (first | refine Hy (z:=Fa (z:=?_)) | refine Hn (z:=?_))
    all_goals (first | refine Hy (z:=Ld (z:=?_)) | refine Hn (z:=?_))
    all_goals (first | refine Hy (z:=Ld (z:=?_)) | refine Hn (z:=?_))
    all_goals (first | refine Hy (z:=Np (z:=?_)) | refine Hn (z:=?_))
    all_goals (first | refine Hy (z:=Fa (z:=?_)) | refine Hn (z:=?_))
    all_goals (first | refine Hy (z:=Ld (z:=?_)) | refine Hn (z:=?_))
    all_goals (first | refine Hy (z:=Mq (z:=?_)) | refine Hn (z:=?_))
    all_goals (first | refine Hy (z:=Sb (z:=?_)) | refine Hn (z:=?_))
    all_goals (first | refine Hy (z:=Ix (z:=?_)) | refine Hn (z:=?_))
    all_goals (first | refine Hy (z:=Ld (z:=?_)) | refine Hn (z:=?_))
    all_goals (first | refine Hy (z:=Ix (z:=?_)) | refine Hn (z:=?_))
    all_goals (first | refine Hy (z:=Ld (z:=?_)) | refine Hn (z:=?_))
    all_goals (first | refine Hy (z:=Ei (z:=?_)) | refine Hn (z:=?_))
    all_goals (first | refine Hy (z:=Pt (z:=?_)) | refine Hy (z:=Pf (z:=?_)))
    all_goals refine Cd (Pt (z:=Nz ?_))
    ·skip
     refine WC.condD rfl (fun h22 h22b=>?_) (fun h22 h22b=>?_)
     ·skip
      refine Rg (Av (z:=Nl (Rg (Co (Ld (z:=Co (Np (z:=Co (Fa (z:=Co (Ld (z:=Co (Np (z:=Co (Fa (z:=Co (Ld (z:=Mv (z:=Mv (z:=Co (Ix (z:=WO.cons0 (Sv (z:=fun s8_10 hn8_10 hM8_10=>Nl ?_))))))))))))))))))))))))
      rw [ints_set (by omega) (by omega),Hp.up_up,ek] at hM8_10
      have hl8:(D.N.length=D.n):=hT.nN
      rw [if_pos ⟨by omega,.inr (by rw [←em (by omega)];exact h22)⟩] at hres
      have hN8:(becomeM S.A N k 13).length=D.n:=becomeM_length.trans hN
      refine Rg (Co (Ld (z:=Mv (z:=Co ?_))))
      refine SV.callM rfl rfl (of_sp hX hM8_10 (hT0.setN hN8) hS0.setN ⟨by omega,by omega⟩) ?_
      rintro v s9 H9 hn9 hM9 ⟨rfl,rfl⟩
      refine Av (z:=Nl (Rg (Co (Ad (z:=Mv (z:=Nl ?_))))))
      exact ⟨rfl,(k+1,_,_),Ho,⟨by omega,hM9,hN8,by dsimp only;omega,by dsimp only;omega,hres⟩,by dsimp only;omega⟩
     ·refine WC.skip (Rg (Co (Ld (z:=Co (Np (z:=Co (Fa (z:=Co (Ld (z:=Co (Np (z:=Co (Fa (z:=Co (Ld (z:=Mv (z:=Mv (z:=Co (Ix (z:=WO.cons0 (Sv (z:=fun s8_10 hn8_10 hM8_10=>Nl ?_))))))))))))))))))))))
      rw [ints_set (by omega) (by omega),Hp.up_up,ek] at hM8_10
      have hl8:(D.N.length=D.n):=hT.nN
      rw [if_neg (fun h=>h.2.elim (by rw [←em h.1];assumption) (fun h2=>h22 (by rw [em h.1];exact h2)))] at hres
      have hN8:(becomeM S.A N k last).length=D.n:=becomeM_length.trans hN
      refine Rg (Co (Ld (z:=Mv (z:=Co ?_))))
      refine SV.callM rfl rfl (of_sp hX hM8_10 (hT0.setN hN8) hS0.setN ⟨by omega,by omega⟩) ?_
      rintro v s9 H9 hn9 hM9 ⟨rfl,rfl⟩
      refine Av (z:=Nl (Rg (Co (Ad (z:=Mv (z:=Nl ?_))))))
      exact ⟨rfl,(k+1,_,_),Ho,⟨by omega,hM9,hN8,by dsimp only;omega,by dsimp only;omega,hres⟩,by dsimp only;omega⟩
    ·refine Ct (z:=Rg (Av (z:=Nl (Rg (Co (Ld (z:=Co (Np (z:=Co (Fa (z:=Co (Ld (z:=Co (Np (z:=Co (Fa (z:=Co (Ld (z:=Mv (z:=Mv (z:=Co (Ix (z:=WO.cons0 (Sv (z:=fun s8_10 hn8_10 hM8_10=>Nl ?_)))))))))))))))))))))))))
     rw [ints_set (by omega) (by omega),Hp.up_up,ek] at hM8_10
     have hl8:(D.N.length=D.n):=hT.nN
     rw [if_pos ⟨by omega,.inl (by rw [←em (by omega)];assumption)⟩] at hres
     have hN8:(becomeM S.A N k 13).length=D.n:=becomeM_length.trans hN
     refine Rg (Co (Ld (z:=Mv (z:=Co ?_))))
     refine SV.callM rfl rfl (of_sp hX hM8_10 (hT0.setN hN8) hS0.setN ⟨by omega,by omega⟩) ?_
     rintro v s9 H9 hn9 hM9 ⟨rfl,rfl⟩
     refine Av (z:=Nl (Rg (Co (Ad (z:=Mv (z:=Nl ?_))))))
     exact ⟨rfl,(k+1,_,_),Ho,⟨by omega,hM9,hN8,by dsimp only;omega,by dsimp only;omega,hres⟩,by dsimp only;omega⟩
   ·refine Hn (z:=Hu (z:=Hu (z:=Hu (z:=Hu (z:=Hu (z:=Hu (z:=Hu (z:=Hu (z:=Hu (z:=Hu (z:=Hu (z:=Hu (z:=Hu (z:=Hu (z:=Hu (z:=Hu (z:=Hu (z:=Hu (z:=Hn (z:=Cd (Pf (z:=Nz (Cf (z:=WC.skip (Rg (Co (Ld (z:=Co (Np (z:=Co (Fa (z:=Co (Ld (z:=Co (Np (z:=Co (Fa (z:=Co (Ld (z:=Mv (z:=Mv (z:=Co (Ix (z:=WO.cons0 (Sv (z:=fun s8_10 hn8_10 hM8_10=>Nl ?_))))))))))))))))))))))))))))))))))))))))))))))
    rw [ints_set (by omega) (by omega),Hp.up_up,ek] at hM8_10
    have hl8:(D.N.length=D.n):=hT.nN
    rw [if_neg (fun h=>by omega)] at hres
    have hN8:(becomeM S.A N k last).length=D.n:=becomeM_length.trans hN
    refine Rg (Co (Ld (z:=Mv (z:=Co ?_))))
    refine SV.callM rfl rfl (of_sp hX hM8_10 (hT0.setN hN8) hS0.setN ⟨by omega,by omega⟩) ?_
    rintro v s9 H9 hn9 hM9 ⟨rfl,rfl⟩
    refine Av (z:=Nl (Rg (Co (Ad (z:=Mv (z:=Nl ?_))))))
    exact ⟨rfl,(k+1,_,_),Ho,⟨by omega,hM9,hN8,by dsimp only;omega,by dsimp only;omega,hres⟩,by dsimp only;omega⟩
  ·rw [if_neg h8] at hres
   refine WC.skip (Rg (Co (Ld (z:=Mv (z:=Co ?_)))))
   refine SV.callM rfl rfl (of_sp hX hM2 hT1 hS1 ⟨by omega,by omega⟩) ?_
   rintro v s3 H3 hn3 hM3 ⟨rfl,rfl⟩
   refine Av (z:=Nl (Rg (Co (Ad (z:=Mv (z:=Nl ?_))))))
   exact ⟨rfl,(k+1,_,N),Ho,⟨by omega,hM3,hN,by dsimp only;omega,by dsimp only;omega,hres⟩,by dsimp only;omega⟩
 ·refine WC.exit (WC.seq ?_)
  have e:S.A.length-k.toNat=0:=by omega
  rw [e] at hres
  simp only [nsmM] at hres
  subst hres
  refine Rg (Co (Ld (z:=Co ?_)))
  refine SV.callM rfl rfl (backed_sp hX hM1 hT1 hS1) ?_
  rintro v s2 H2 hn2 hM2 ⟨rfl,rfl⟩
  dsimp only at hM2
  rw [Hp.up_up] at hM2
  generalize hN1:nsmM S.A D.F S.A.length 0 S.st D.N=N1 at *
  have hN2:(backedM S.A 3 2 6 true S.A.length 0 S.st N1).length=D.n:=backedM_length _ _ _ _ |>.trans hN
  generalize hN2e:backedM S.A 3 2 6 true S.A.length 0 S.st N1=N2 at *
  have hbx2:(H0.up D.w (.row 1 (N2.map (.int .i64)))) a0_0=some (.row 0 [.pointer (some ⟨S.q,0,none⟩)]):=Hp.up_ne hbw hbx0
  have hq2:(H0.up D.w (.row 1 (N2.map (.int .i64)))) S.q=_:=Hp.up_ne hS0.qw hq
  refine Nl (WC.seq (WC.seq (Rg (Co (Ld (z:=Co (Np (z:=Co (Fa (z:=Co (Ld (z:=Co (Ln (z:=Mv (z:=Nl (WC.block ?_))))))))))))))))
  clear hM1 hT1 hS1 hbx1 ht hq1 ha hf hw
  refine WC.loop (D:=Int×List Int) (fun x=>[(1,.pointer (some ⟨a0_0,0,none⟩)),(92,.int .i64 S.A.length),(93,.int .i64 x.1)])
   (fun x s1=>s.next≤s1.next∧Models ro s1 (H0.up D.w (.row 1 (x.2.map (.int .i64))))∧x.2.length=D.n∧0≤x.1∧x.1≤S.A.length ∧
    turnM (fun c=>c=2) S.A 1 (S.A.length-x.1.toNat) x.1 x.2=turnM (fun c=>c=2) S.A 1 S.A.length 0 N2)
   (fun x=>S.A.length-x.1.toNat) (0,N2) ?_ ⟨by omega,hM2,hN2,Int.le_refl _,by simp,rfl⟩ ?_
  ·exact Ho
  clear hM2 hn2 s2
  rintro ⟨k3,N⟩ g3 s3 ⟨hn3,hM3,hNl,hk1,hk2,hres⟩
  dsimp only at hn3 hM3 hNl hk1 hk2 hres ⊢
  have hT3:=hT0.setN hNl
  have hS3:=hS0.setN (o:=.row 1 (N.map (.int .i64))) (N':=N)
  have hbx3:(H0.up D.w (.row 1 (N.map (.int .i64)))) a0_0=some (.row 0 [.pointer (some ⟨S.q,0,none⟩)]):=Hp.up_ne hbw hbx0
  refine WC.seq (Rg (Co (Lt (z:=Nl (WC.seq ?_)))))
  refine WC.condD rfl (fun hlt hltb=>?_) (fun hlt hltb=>?_)
  ·refine WC.skip (WC.seq (WC.block (WC.seq (Rg (Mv (z:=Av (z:=Nl (WC.seq (Rg (Co (Ld (z:=Mv (z:=Co ?_)))))))))))))
   refine SV.callM rfl rfl (of_sp hX hM3 hT3 hS3 ⟨by omega,by omega⟩) ?_
   rintro v s4 H4 hn4 hM4 ⟨rfl,rfl⟩
   dsimp only
   rw [show S.A.length-k3.toNat=(S.A.length-(k3+1).toNat)+1 by omega] at hres
   simp only [turnM] at hres
   refine Co (Ei (z:=Nl ?_))
   refine WC.condD rfl (fun h2 h2b=>?_) (fun h2 h2b=>?_)
   ·rw [if_pos h2] at hres
    refine Rg (Co (Ld (z:=Mv (z:=Co ?_))))
    refine SV.callM rfl rfl (become_sp hX hM4 hT3 hS3 ⟨by omega,by omega⟩) ?_
    rintro v s5 H5 hn5 hM5 ⟨rfl,rfl⟩
    simp only [Hp.up_up] at hM5
    refine Nl (Rg (Co (Ad (z:=Mv (z:=Nl ?_)))))
    exact ⟨rfl,(k3+1,_),Ho,⟨by omega,hM5,becomeM_length.trans hNl,by dsimp only;omega,by dsimp only;omega,hres⟩,by dsimp only;omega⟩
   ·rw [if_neg h2] at hres
    refine WC.skip (Rg (Co (Ad (z:=Mv (z:=Nl ?_)))))
    exact ⟨rfl,(k3+1,N),Ho,⟨by omega,hM4,hNl,by dsimp only;omega,by dsimp only;omega,hres⟩,by dsimp only;omega⟩
  refine WC.exit (WC.seq (WC.seq ?_))
  have e:S.A.length-k3.toNat=0:=by omega
  rw [e] at hres
  simp only [turnM] at hres
  have hresN3:=hres
  have hN3:=hNl
  generalize hN3e:turnM (fun c=>c=2) S.A 1 S.A.length 0 N2=N3 at *
  subst hresN3
  refine Rg (Av (z:=Nl (WC.block ?_)))
  refine WC.loop (D:=Int×Nat×List Int) (fun x=>[(1,.pointer (some ⟨a0_0,0,none⟩)),(6,.int .i64 x.1)])
   (fun x s1=>s.next≤s1.next∧Models ro s1 (H0.up D.w (.row 1 (x.2.2.map (.int .i64))))∧x.2.2.length=D.n∧1≤x.1∧x.2.1=S.A.length-x.1.toNat-1∧x.1≤D.n+1 ∧
    esM S.A x.2.1 x.1 x.2.2=esM S.A (S.A.length-2) 1 N)
   (fun x=>(D.n+2-x.1).toNat) (1,S.A.length-2,N) ?_ ⟨by omega,hM3,hNl,Int.le_refl _,by dsimp only;omega,by dsimp only;omega,rfl⟩ ?_
  ·exact Ho
  clear hT3 hS3 hbx3 hM3 hn3 s3
  rintro ⟨k4,r4,N4⟩ g4 s4 ⟨hn4,hM4,hN4,hk1,hr4,hk2,hres⟩
  dsimp only at hn4 hM4 hN4 hk1 hk2 hr4 hres ⊢
  have hT4:=hT0.setN hN4
  have hS4:=hS0.setN (o:=.row 1 (N4.map (.int .i64))) (N':=N4)
  have hbx4:(H0.up D.w (.row 1 (N4.map (.int .i64)))) a0_0=some (.row 0 [.pointer (some ⟨S.q,0,none⟩)]):=Hp.up_ne hbw hbx0
  have hq4:(H0.up D.w (.row 1 (N4.map (.int .i64)))) S.q=_:=Hp.up_ne hS0.qw hq
  refine WC.seq (WC.seq (Rg (Mv (z:=Co (Ad (z:=Co (Ld (z:=Co (Np (z:=Co (Fa (z:=Co (Ld (z:=Co (Ln (z:=Co (Lt (z:=Nl ?_))))))))))))))))))
  refine WC.condD rfl (fun hlt hltb=>?_) (fun hlt hltb=>?_)
  ·obtain ⟨r5,rfl⟩:∃ m,r4=m+1:=⟨r4-1,by omega⟩
   simp only [esM] at hres
   refine WC.skip (WC.seq (WC.block (WC.seq ?_)))
   refine WC.drawE (by assumption) [0,1,2,3,4,5,6,7,8,9] (by kernel_rfl) (by kernel_rfl) ?_
   refine WE.read (St1.load rfl (by assumption) (by rfl) (by exact sameV_ptr _ _)) (by assumption) ?_ (by decide)
   refine WE.act (by kernel_rfl) (by assumption) (SV.moveV (by constructor) ⟨(by assumption),?_⟩) (by decide)
   refine WE.act (by kernel_rfl) (by assumption) (SV.sub64 rfl rfl (by omega) ⟨(by assumption),?_⟩) (by decide)
   refine WE.act (by kernel_rfl) (by assumption) ?_ (by decide)
   refine SV.callM rfl rfl (of_sp hX hM4 hT4 hS4 ⟨by omega,by omega⟩) ?_
   rintro v s5 H5 hn5 hM5 ⟨rfl,rfl⟩
   dsimp only
   refine ⟨hM5,?_⟩
   refine WE.read (St1.load rfl (by assumption) (by rfl) (by exact sameV_ptr _ _)) (by assumption) ?_ (by decide)
   refine WE.act (by kernel_rfl) (by assumption) (SV.moveV (by constructor) ⟨(by assumption),?_⟩) (by decide)
   refine WE.act (by kernel_rfl) (by assumption) (SV.add64 rfl rfl (by omega) ⟨(by assumption),?_⟩) (by decide)
   refine WE.act (by kernel_rfl) (by assumption) ?_ (by decide)
   refine SV.callM rfl rfl (of_sp hX hM5 hT4 hS4 ⟨by omega,by omega⟩) ?_
   rintro v s6 H6 hn6 hM6 ⟨rfl,rfl⟩
   dsimp only
   refine ⟨hM6,?_⟩
   refine WE.act (by kernel_rfl) (by assumption) (SV.assignV (by constructor) ⟨(by assumption),?_⟩) (by decide)
   refine WE.act (by kernel_rfl) (by assumption) (SV.assignV (by constructor) ⟨(by assumption),?_⟩) (by decide)
   refine WE.nil ?_
   refine WC.seq (Rg (Co (Ld (z:=Mv (z:=Co ?_)))))
   refine SV.callM rfl rfl (of_sp hX hM6 hT4 hS4 ⟨by omega,by omega⟩) ?_
   rintro v s7 H7 hn7 hM7 ⟨rfl,rfl⟩
   dsimp only
   refine Av (z:=Nl ?_)
   generalize hva:rd N4 (rd S.A (k4-1))=va at hres ⊢
   generalize hvb:rd N4 (rd S.A (k4+1))=vb at hres ⊢
   generalize hvc:rd N4 (rd S.A k4)=vc at hres ⊢
   refine WC.seq (Rg (Mv (z:=Mv (z:=Co (Ei (z:=Mv (z:=?_)))))))
   refine WO.guardDT rfl rfl rfl (fun hg23_4 hh23_4=>SV.moveV (by constructor) ?_) (fun hg23_4 hh23_4=>?_) (by decide)
   all_goals (first | refine Gy (z:=Ei (z:=?_)) | refine Gn (z:=?_))
   all_goals (first | refine Gy (z:=Mq (z:=?_)) | refine Gn (z:=?_))
   all_goals (first | refine Gu (z:=?_) | refine WO.guardDT rfl rfl rfl (fun hg23_7 hh23_7=>SV.moveV (by constructor) ?_) (fun hg23_7 hh23_7=>?_) (by decide))
   all_goals (first | refine Gy (z:=Ei (z:=?_)) | refine Gn (z:=?_) | refine Gu (z:=?_))
   all_goals (first | refine Gy (z:=Mq (z:=?_)) | refine Gn (z:=?_) | refine Gu (z:=?_))
   all_goals (first | refine Gu (z:=?_) | refine WO.guardDF rfl rfl rfl (fun hg23_10 hh23_10=>SV.moveV (by constructor) ?_) (fun hg23_10 hh23_10=>?_) (by decide))
   all_goals (first | refine Gy (z:=Ei (z:=?_)) | refine Gn (z:=?_) | refine Gu (z:=?_))
   all_goals (first | refine Gy (z:=Pt (z:=?_)) | refine Gy (z:=Pf (z:=?_)) | refine Gn (z:=?_) | refine Gu (z:=?_))
   all_goals (first | refine Gy (z:=Pt (z:=?_)) | refine Gy (z:=Pf (z:=?_)) | refine Gn (z:=?_))
   all_goals (first | refine Gy (z:=Mq (z:=?_)) | refine Gn (z:=?_))
   all_goals (first | refine Gy (z:=Mq (z:=?_)) | refine Gn (z:=?_) | refine Gu (z:=?_) | refine WO.guardDF rfl rfl rfl (fun hg23_15 hh23_15=>SV.moveV (by constructor) ?_) (fun hg23_15 hh23_15=>?_) (by decide))
   all_goals (first | refine Gy (z:=Ei (z:=?_)) | refine Gn (z:=?_) | refine Gu (z:=?_))
   all_goals (first | refine Gy (z:=Mq (z:=?_)) | refine Gn (z:=?_) | refine Gu (z:=?_))
   all_goals (first | refine Gu (z:=?_) | refine WO.guardDT rfl rfl rfl (fun hg23_18 hh23_18=>SV.moveV (by constructor) ?_) (fun hg23_18 hh23_18=>?_) (by decide))
   all_goals (first | refine Gy (z:=Ei (z:=?_)) | refine Gn (z:=?_) | refine Gu (z:=?_))
   all_goals (first | refine Gy (z:=Pt (z:=?_)) | refine Gy (z:=Pf (z:=?_)) | refine Gn (z:=?_) | refine Gu (z:=?_))
   all_goals (first | refine Gy (z:=Pt (z:=?_)) | refine Gy (z:=Pf (z:=?_)) | refine Gn (z:=?_))
   all_goals (first | refine Co (Pt (z:=?_)) | refine Co (Pf (z:=?_)))
   all_goals refine Nl ?_
   all_goals first
    |((skip;refine WC.condD rfl (fun hx hxb=>?_) (fun hx hxb=>?_))
      ·skip
       refine Rg (Co (Ld (z:=Mv (z:=Mv (z:=Co ?_)))))
       refine SV.callM rfl rfl (become_sp hX hM7 hT4 hS4 ⟨by omega,by omega⟩) ?_
       rintro v s8 H8 hn8 hM8 ⟨rfl,rfl⟩
       simp only [Hp.up_up] at hM8
       refine Nl (Rg (Mv (z:=Co (Ad (z:=Av (z:=Nl ?_))))))
       rw [if_pos (by omega)] at hres
       exact ⟨rfl,(k4+1,r5,_),Ho,⟨by omega,hM8,becomeM_length.trans hN4,by dsimp only;omega,by dsimp only;omega,by dsimp only;omega,hres⟩,by dsimp only;omega⟩
      ·refine WC.skip (Rg (Mv (z:=Co (Ad (z:=Av (z:=Nl ?_))))))
       rw [if_neg (by omega)] at hres
       exact ⟨rfl,(k4+1,r5,N4),Ho,⟨by omega,hM7,hN4,by dsimp only;omega,by dsimp only;omega,by dsimp only;omega,hres⟩,by dsimp only;omega⟩)
    |((refine WC.condT rfl (by rfl) ?_;refine WC.region ?_;refine WO.cons (SV.loadM (by assumption) rfl (by assumption) (by rfl) ?_) (by decide);refine WO.cons (SV.moveV (by constructor) ?_) (by decide);refine WO.cons (SV.moveV (by constructor) ?_) (by decide);refine WO.cons ?_ (by decide));refine SV.callM rfl rfl (become_sp hX hM7 hT4 hS4 ⟨by omega,by omega⟩) ?_;rintro v s8 H8 hn8 hM8 ⟨rfl,rfl⟩;simp only [Hp.up_up] at hM8;refine WO.nil ?_;(skip;refine WC.region ?_;refine WO.cons (SV.moveV (by constructor) ?_) (by decide);(refine WO.cons (SV.add64 rfl rfl (by omega) ?_) (by decide));refine WO.cons (SV.assignV (by constructor) ?_) (by decide);refine WO.nil ?_);rw [if_pos (by omega)] at hres;exact ⟨rfl,(k4+1,r5,_),Ho,⟨by omega,hM8,becomeM_length.trans hN4,by dsimp only;omega,by dsimp only;omega,by dsimp only;omega,hres⟩,by dsimp only;omega⟩)
    |((refine WC.condF rfl (by first | assumption | rfl) (WC.skip ?_);refine WC.region ?_;refine WO.cons (SV.moveV (by constructor) ?_) (by decide);(refine WO.cons (SV.add64 rfl rfl (by omega) ?_) (by decide));refine WO.cons (SV.assignV (by constructor) ?_) (by decide);refine WO.nil ?_);rw [if_neg (by omega)] at hres;exact ⟨rfl,(k4+1,r5,N4),Ho,⟨by omega,hM7,hN4,by dsimp only;omega,by dsimp only;omega,by dsimp only;omega,hres⟩,by dsimp only;omega⟩)
  refine WC.exit (WC.seq ?_)
  have e:r4=0:=by omega
  rw [e] at hres
  simp only [esM] at hres
  generalize hN4e:esM S.A (S.A.length-2) 1 N=N4' at *
  subst hres
  refine Rg (Co (Ld (z:=?_)))
  refine WO.cons (SV.makeFunc ?_) (by decide)
  refine Co ?_
  refine SV.callM rfl rfl (rows_sp (pin:=fun c=>c=5) (G:=etM S.A) hX hM4 hT4 hS4 (fun s' H' c h=>isET_sp hX h)
   (fun s' N' a b hm hl hab=>(et_sp (bx:=a0_0) (e0:=0) hX hm ((hT4.setN (N':=N') hl)) (hS4.setN) (by rw [Hp.up_up];exact Hp.up_ne hbw hbx0) hab).mono (fun v H2 h=>⟨h.1,by rw [h.2];simp only [Hp.up_up]⟩)) (etM_length S.A)) ?_
  rintro v s5 H5 hn5 hM5 ⟨rfl,rfl⟩
  dsimp only at hM5
  rw [Hp.up_up] at hM5
  have hN5:(rowsM (fun c=>c=5) (etM S.A) S.A S.A.length 0 N4).length=D.n:=(rowsM_length _ _ _ (etM_length S.A) _ _ _).trans hN4
  generalize hN5e:rowsM (fun c=>c=5) (etM S.A) S.A S.A.length 0 N4=N5 at *
  have hbx5:(H0.up D.w (.row 1 (N5.map (.int .i64)))) a0_0=some (.row 0 [.pointer (some ⟨S.q,0,none⟩)]):=Hp.up_ne hbw hbx0
  have hq5:(H0.up D.w (.row 1 (N5.map (.int .i64)))) S.q=_:=Hp.up_ne hS0.qw hq
  refine Nl (WC.seq (WC.seq (Rg (Co (Ld (z:=Co (Np (z:=Co (Fa (z:=Co (Ld (z:=Co (Ln (z:=Mv (z:=Nl (WC.block ?_))))))))))))))))
  clear hM4 hT4 hS4 hbx4 hq4
  refine WC.loop (D:=Int×List Int) (fun x=>[(1,.pointer (some ⟨a0_0,0,none⟩)),(159,.int .i64 S.A.length),(160,.int .i64 x.1)])
   (fun x s1=>s.next≤s1.next∧Models ro s1 (H0.up D.w (.row 1 (x.2.map (.int .i64))))∧x.2.length=D.n∧0≤x.1∧x.1≤S.A.length ∧
    turnM isSep S.A 13 (S.A.length-x.1.toNat) x.1 x.2=turnM isSep S.A 13 S.A.length 0 N5)
   (fun x=>S.A.length-x.1.toNat) (0,N5) ?_ ⟨by omega,hM5,hN5,Int.le_refl _,by simp,rfl⟩ ?_
  ·exact Ho
  clear hM5 hn5 hn4 s5
  rintro ⟨k6,N6⟩ g6 s6 ⟨hn6,hM6,hN6,hk1,hk2,hres⟩
  dsimp only at hn6 hM6 hN6 hk1 hk2 hres ⊢
  have hT6:=hT0.setN hN6
  have hS6:=hS0.setN (o:=.row 1 (N6.map (.int .i64))) (N':=N6)
  have hbx6:(H0.up D.w (.row 1 (N6.map (.int .i64)))) a0_0=some (.row 0 [.pointer (some ⟨S.q,0,none⟩)]):=Hp.up_ne hbw hbx0
  refine WC.seq (Rg (Co (Lt (z:=Nl (WC.seq ?_)))))
  refine WC.condD rfl (fun hlt hltb=>?_) (fun hlt hltb=>?_)
  ·refine WC.skip (WC.seq (WC.block (WC.seq (Rg (Mv (z:=Av (z:=Nl (WC.seq (Rg (Co (Ld (z:=Mv (z:=Co ?_)))))))))))))
   refine SV.callM rfl rfl (of_sp hX hM6 hT6 hS6 ⟨by omega,by omega⟩) ?_
   rintro v s7 H7 hn7 hM7 ⟨rfl,rfl⟩
   dsimp only
   rw [show S.A.length-k6.toNat=(S.A.length-(k6+1).toNat)+1 by omega] at hres
   simp only [turnM] at hres
   refine Av (z:=Nl ?_)
   generalize hvc:rd N6 (rd S.A k6)=vc at hres ⊢
   refine WC.seq (Rg (Mv (z:=Co (Ei (z:=Mv (z:=?_))))))
   refine WO.guardDF rfl rfl rfl (fun hg30_3 hh30_3=>SV.moveV (by constructor) ?_) (fun hg30_3 hh30_3=>?_) (by decide)
   all_goals (first | refine Gy (z:=Ei (z:=?_)) | refine Gn (z:=?_))
   all_goals (first | refine Co (Pt (z:=?_)) | refine Co (Pf (z:=?_)))
   all_goals refine Mv (z:=?_)
   all_goals (first | refine Gn (z:=?_) | refine WO.guardDF rfl rfl rfl (fun hg30_7 hh30_7=>SV.moveV (by constructor) ?_) (fun hg30_7 hh30_7=>?_) (by decide))
   all_goals (first | refine Gy (z:=Ei (z:=?_)) | refine Gn (z:=?_))
   all_goals (first | refine Co (Pt (z:=?_)) | refine Co (Pf (z:=?_)))
   all_goals refine Nl ?_
   all_goals first
    |((skip;refine WC.condD rfl (fun hx hxb=>?_) (fun hx hxb=>?_))
      ·skip
       refine Rg (Co (Ld (z:=Mv (z:=Co ?_))))
       refine SV.callM rfl rfl (become_sp hX hM7 hT6 hS6 ⟨by omega,by omega⟩) ?_
       rintro v s8 H8 hn8 hM8 ⟨rfl,rfl⟩
       simp only [Hp.up_up] at hM8
       refine Nl (Rg (Co (Ad (z:=Mv (z:=Nl ?_)))))
       rw [if_pos (by unfold isSep;omega)] at hres
       exact ⟨rfl,(k6+1,_),Ho,⟨by omega,hM8,becomeM_length.trans hN6,by dsimp only;omega,by dsimp only;omega,hres⟩,by dsimp only;omega⟩
      ·refine WC.skip (Rg (Co (Ad (z:=Mv (z:=Nl ?_)))))
       rw [if_neg (by unfold isSep;omega)] at hres
       exact ⟨rfl,(k6+1,N6),Ho,⟨by omega,hM7,hN6,by dsimp only;omega,by dsimp only;omega,hres⟩,by dsimp only;omega⟩)
    |((refine WC.condT rfl (by rfl) ?_;refine WC.region ?_;refine WO.cons (SV.loadM (by assumption) rfl (by assumption) (by rfl) ?_) (by decide);refine WO.cons (SV.moveV (by constructor) ?_) (by decide);refine WO.cons ?_ (by decide));refine SV.callM rfl rfl (become_sp hX hM7 hT6 hS6 ⟨by omega,by omega⟩) ?_;rintro v s8 H8 hn8 hM8 ⟨rfl,rfl⟩;simp only [Hp.up_up] at hM8;refine WO.nil ?_;(skip;refine WC.region ?_;(refine WO.cons (SV.add64 rfl rfl (by omega) ?_) (by decide));refine WO.cons (SV.moveV (by constructor) ?_) (by decide);refine WO.nil ?_);rw [if_pos (by unfold isSep;omega)] at hres;exact ⟨rfl,(k6+1,_),Ho,⟨by omega,hM8,becomeM_length.trans hN6,by dsimp only;omega,by dsimp only;omega,hres⟩,by dsimp only;omega⟩)
    |((skip;refine WC.region ?_;(first | refine Co (Ad (z:=?_)) | refine WO.cons (SV.add rfl rfl ?_) (by decide));refine WO.cons (SV.moveV (by constructor) ?_) (by decide);refine WO.nil ?_);rw [if_neg (by unfold isSep;omega)] at hres;exact ⟨rfl,(k6+1,N6),Ho,⟨by omega,hM7,hN6,by dsimp only;omega,by dsimp only;omega,hres⟩,by dsimp only;omega⟩)
  refine WC.exit ?_
  have e:S.A.length-k6.toNat=0:=by omega
  rw [e] at hres
  simp only [turnM] at hres
  generalize hN6e:turnM isSep S.A 13 S.A.length 0 N5=N6' at *
  subst hres
  refine Rg (Co (Ld (z:=Co ?_)))
  refine SV.callM rfl rfl (backed_sp hX hM6 hT6 hS6) ?_
  rintro v s7 H7 hn7 hM7 ⟨rfl,rfl⟩
  dsimp only at hM7
  rw [Hp.up_up] at hM7
  refine Nl ?_
  refine fin_none (e:=.normal) rfl trivial (by omega) (drop hM7) ⟨rfl,?_⟩
  simp only [weakM,hN1,hN2e,hN3e,hN4e,hN5e,hN6e]
theorem SeqH.setL {H:Hp} {D:TD} {S:SD} (h:SeqH H D S) {o:Go.Ab.Obj} {L':List Int}:SeqH (H.up D.l o) { D with L:=L' } S:=by
 obtain ⟨e,ca,hq⟩:=h.q
 obtain ⟨r,ha⟩:=h.a
 exact { h with q:=⟨e,ca,Hp.up_ne h.ql hq⟩,a:=⟨r,Hp.up_ne h.al ha⟩ }
def neuTo (A:List Int) (st en lv a b:Int) (N:List Int):Int:=
 if aheadM A N st a.toNat=(if b<A.length then sideM (rd N (rd A b)) else en) then aheadM A N st a.toNat else lv%2
def neuM (A:List Int) (st en lv:Int) (a b:Int) (N:List Int):List Int:=allM A (neuTo A st en lv a b N) (b-a).toNat a N
theorem neuM_length {A:List Int} {st en lv:Int} (a b:Int) (N:List Int):(neuM A st en lv a b N).length=N.length:=allM_length _ _ _
theorem neu_sp {s:St} {H:Hp} {D:TD} {S:SD} {a b:Int} {bx e0:Nat} (hX:OwnX X) (hM:Models ro s H) (hT:TextH H D) (hS:SeqH H D S) (hbx:H bx=some (.row e0 [.pointer (some ⟨S.q,0,none⟩)])) (h0:0≤a∧a≤b∧b≤S.A.length) :
 Sp X Try.prog ro 72 [.int .i64 a,.int .i64 b,.pointer (some ⟨bx,0,none⟩)] s fun v H'=>v = .tuple #[]∧H'=H.up D.w (.row 1 ((neuM S.A S.st S.en S.lv a b D.N).map (.int .i64))):=by
 obtain ⟨e1,ca,hq⟩:=hS.q
 have hbig:=hS.big
 have hbig2:=hT.big
 refine Bo hX Try.func72 Try.ntmps72 (z:=?_)
 refine WC.seq (Rg (Co (Ld (z:=Co (Np (z:=Co (Fa (z:=Co (Ld (z:=Av (z:=Nl (WC.seq (WC.seq (Rg (Mv (z:=Co (Ld (z:=Co (Np (z:=Co (Fa (z:=Co (Ld (z:=Co (Ln (z:=Co (Lt (z:=Nl ?_))))))))))))))))))))))))))))
 refine WC.condD rfl (fun hb hbb=>?_) (fun hb hbb=>?_)
 ·skip
  refine Rg (Co (Ld (z:=Mv (z:=Co ?_))))
  refine SV.callM rfl rfl (of_sp hX hM hT hS ⟨by omega,by omega⟩) ?_
  rintro v s3 H3 hn3 hM3 ⟨rfl,rfl⟩
  refine Co ?_
  refine SV.callM rfl rfl (side_sp hX hM3) ?_
  rintro v s4 H4 hn4 hM4 ⟨rfl,rfl⟩
  refine Av (z:=Nl (WC.seq (Rg (Co (Ld (z:=Co (Np (z:=Co (Fa (z:=Co (Ld (z:=Co ?_))))))))))))
  refine SV.callM rfl rfl (direction_sp hX hM4) ?_
  rintro v s5 H5 hn5 hM5 ⟨rfl,rfl⟩
  refine Av (z:=Nl (WC.seq (WC.seq (Rg (Co (Ld (z:=Mv (z:=Co ?_))))))))
  refine SV.callM rfl rfl (ahead_sp hX hM5 hT hS ⟨by omega,by omega⟩) ?_
  rintro v s6 H6 hn6 hM6 ⟨rfl,rfl⟩
  refine Av (z:=Nl (WC.seq (Rg (Mv (z:=Mv (z:=Co (Ei (z:=Nl ?_))))))))
  refine WC.condD rfl (fun he heb=>?_) (fun he heb=>?_)
  ·skip
   refine Rg (Mv (z:=Av (z:=Nl (Rg (Co (Ld (z:=Mv (z:=Mv (z:=Mv (z:=Co ?_))))))))))
   refine SV.callM rfl rfl (all_sp hX hM6 hT hS ⟨by omega,by omega,by omega⟩) ?_
   rintro v s7 H7 hn7 hM7 ⟨rfl,rfl⟩
   refine Nl ?_
   exact fin_none (e:=.normal) rfl trivial (by omega) hM7 ⟨rfl,by unfold neuM neuTo;rw [if_pos hb];rw [if_pos he]⟩
  ·refine WC.skip (Rg (Co (Ld (z:=Mv (z:=Mv (z:=Mv (z:=Co ?_)))))))
   refine SV.callM rfl rfl (all_sp hX hM6 hT hS ⟨by omega,by omega,by omega⟩) ?_
   rintro v s7 H7 hn7 hM7 ⟨rfl,rfl⟩
   refine Nl ?_
   exact fin_none (e:=.normal) rfl trivial (by omega) hM7 ⟨rfl,by unfold neuM neuTo;rw [if_pos hb];rw [if_neg he]⟩
 ·refine WC.skip (WC.seq (Rg (Co (Ld (z:=Co (Np (z:=Co (Fa (z:=Co (Ld (z:=Co ?_)))))))))))
  refine SV.callM rfl rfl (direction_sp hX hM) ?_
  rintro v s5 H5 hn5 hM5 ⟨rfl,rfl⟩
  refine Av (z:=Nl (WC.seq (WC.seq (Rg (Co (Ld (z:=Mv (z:=Co ?_))))))))
  refine SV.callM rfl rfl (ahead_sp hX hM5 hT hS ⟨by omega,by omega⟩) ?_
  rintro v s6 H6 hn6 hM6 ⟨rfl,rfl⟩
  refine Av (z:=Nl (WC.seq (Rg (Mv (z:=Mv (z:=Co (Ei (z:=Nl ?_))))))))
  refine WC.condD rfl (fun he heb=>?_) (fun he heb=>?_)
  ·skip
   refine Rg (Mv (z:=Av (z:=Nl (Rg (Co (Ld (z:=Mv (z:=Mv (z:=Mv (z:=Co ?_))))))))))
   refine SV.callM rfl rfl (all_sp hX hM6 hT hS ⟨by omega,by omega,by omega⟩) ?_
   rintro v s7 H7 hn7 hM7 ⟨rfl,rfl⟩
   refine Nl ?_
   exact fin_none (e:=.normal) rfl trivial (by omega) hM7 ⟨rfl,by unfold neuM neuTo;rw [if_neg hb];rw [if_pos he]⟩
  ·refine WC.skip (Rg (Co (Ld (z:=Mv (z:=Mv (z:=Mv (z:=Co ?_)))))))
   refine SV.callM rfl rfl (all_sp hX hM6 hT hS ⟨by omega,by omega,by omega⟩) ?_
   rintro v s7 H7 hn7 hM7 ⟨rfl,rfl⟩
   refine Nl ?_
   exact fin_none (e:=.normal) rfl trivial (by omega) hM7 ⟨rfl,by unfold neuM neuTo;rw [if_neg hb];rw [if_neg he]⟩
def bumpOf (lv c x:Int):Int:=if lv.tmod 2=1∧c≠1 then wrapK .i64 (x+1) else if lv.tmod 2=0∧c=1 then wrapK .i64 (x+1) else if lv.tmod 2=0∧c≠0 then wrapK .i64 (x+2) else x
def bumpM (A N:List Int) (lv:Int):Nat→Int→List Int→List Int
 | 0,_,L=>L
 | r+1,k,L=>bumpM A N lv r (k+1) (L.set (rd A k).toNat (bumpOf lv (rd N (rd A k)) (rd L (rd A k))))
theorem bumpM_length {A N:List Int} {lv:Int}:∀ (r:Nat) (k:Int) (L:List Int),(bumpM A N lv r k L).length=L.length
 | 0,_,_=>rfl
 | r+1,k,L=>(bumpM_length r _ _).trans List.length_set
def restN (A:List Int) (st en lv:Int) (N:List Int):List Int:=rowsM isNeutral (neuM A st en lv) A A.length 0 N
theorem restN_length {A:List Int} {st en lv:Int} {N:List Int}:(restN A st en lv N).length=N.length:=rowsM_length _ _ _ neuM_length _ _ _
theorem set_self {L:List Int} {i:Nat}:L.set i (L.getD i 0)=L:=by
 by_cases h:i<L.length
 ·rw [List.getD_eq_getElem?_getD,List.getElem?_eq_getElem h];exact List.set_getElem_self h
 ·rw [List.set_eq_of_length_le (by omega)]
set_option maxHeartbeats 8000000 in
theorem rest_sp {s:St} {H:Hp} {D:TD} {S:SD} (hX:OwnX X) (hM:Models ro s H) (hT:TextH H D) (hS:SeqH H D S) :
 Sp X Try.prog ro 42 [.pointer (some ⟨S.q,0,none⟩)] s fun v H'=>v = .tuple #[] ∧
  H'=(H.up D.w (.row 1 ((restN S.A S.st S.en S.lv D.N).map (.int .i64)))).up D.l (.row 1 ((bumpM S.A (restN S.A S.st S.en S.lv D.N) S.lv S.A.length 0 D.L).map (.int .i64))):=by
 have hbig:=hS.big
 have hbig2:=hT.big
 refine Bo hX Try.func42 Try.ntmps42 (z:=?_)
 refine WC.seq (Rg ?_)
 refine WO.cons (SV.boxV (by assumption) (by constructor) (fun a0_0 s0_0 hf0_0 hne0_0 hn0_0 hM0_0=>?_)) (by decide)
 refine Nl ?_
 have hT0:=hT.fresh (x:=.row 0 [.pointer (some ⟨S.q,0,none⟩)]) hne0_0
 have hS0:=hS.fresh (x:=.row 0 [.pointer (some ⟨S.q,0,none⟩)]) hne0_0
 have hbx0:(H.up a0_0 (.row 0 [.pointer (some ⟨S.q,0,none⟩)])) a0_0=some (.row 0 [.pointer (some ⟨S.q,0,none⟩)]):=Hp.up_same
 have hbw:a0_0≠D.w:=(hne0_0 _ _ hT.w).symm
 have hbl:a0_0≠D.l:=(hne0_0 _ _ hT.l).symm
 have drop:∀ {s':St} {y z},Models ro s' (((H.up a0_0 (.row 0 [.pointer (some ⟨S.q,0,none⟩)])).up D.w y).up D.l z)→Models ro s' ((H.up D.w y).up D.l z):=fun {s' y z} h=>h.sub fun ν o e=>by
  unfold Hp.up at e ⊢
  by_cases h1:ν=D.l
  ·rw [if_pos h1] at e ⊢;exact e
  ·rw [if_neg h1] at e ⊢
   try dsimp only at e ⊢
   by_cases h2:ν=D.w
   ·rw [if_pos h2] at e ⊢;exact e
   ·rw [if_neg h2] at e ⊢
    try dsimp only
    rw [if_neg (hne0_0 ν o e)];exact e
 generalize hH0:H.up a0_0 (.row 0 [.pointer (some ⟨S.q,0,none⟩)])=H0 at hT0 hS0 hbx0 hM0_0 drop
 refine WC.seq (Rg (Co (Ld (z:=?_))))
 refine WO.cons (SV.makeFunc ?_) (by decide)
 refine Co ?_
 refine SV.callM rfl rfl (rows_sp (pin:=isNeutral) (G:=neuM S.A S.st S.en S.lv) hX hM0_0 hT0 hS0 (fun s' H' c h=>neutral_sp hX h)
  (fun s' N' a b hm hl hab=>(neu_sp (bx:=a0_0) (e0:=0) hX hm ((hT0.setN (N':=N') hl)) (hS0.setN) (Hp.up_ne hbw hbx0) hab).mono (fun v H2 h=>⟨h.1,by rw [h.2];simp only [Hp.up_up]⟩)) neuM_length) ?_
 rintro v s1 H1 hn1 hM1 ⟨rfl,rfl⟩
 have hN:(rowsM isNeutral (neuM S.A S.st S.en S.lv) S.A S.A.length 0 D.N).length=D.n:=restN_length.trans hT.nN
 change Models ro s1 (H0.up D.w (.row 1 ((restN S.A S.st S.en S.lv D.N).map (.int .i64)))) at hM1
 change (restN S.A S.st S.en S.lv D.N).length=D.n at hN
 generalize hNe:restN S.A S.st S.en S.lv D.N=N at *
 have hT1:=hT0.setN hN
 have hS1:=hS0.setN (o:=.row 1 (N.map (.int .i64))) (N':=N)
 have hbx1:(H0.up D.w (.row 1 (N.map (.int .i64)))) a0_0=some (.row 0 [.pointer (some ⟨S.q,0,none⟩)]):=Hp.up_ne hbw hbx0
 generalize hH1:H0.up D.w (.row 1 (N.map (.int .i64)))=H1 at *
 obtain ⟨e1,ca,hq⟩:=hS1.q
 refine Nl (WC.seq (Rg (Co (Ld (z:=Co (Np (z:=Co (Fa (z:=Co (Ld (z:=Co (Ln (z:=Mv (z:=Nl (WC.block ?_)))))))))))))))
 refine WC.loop (D:=Int×List Int) (fun x=>[(1,.pointer (some ⟨a0_0,0,none⟩)),(11,.slice (some ⟨S.a,0,none⟩) S.A.length ca),(12,.int .i64 S.A.length),(13,.int .i64 x.1)])
  (fun x s1=>s.next≤s1.next∧Models ro s1 (H1.up D.l (.row 1 (x.2.map (.int .i64))))∧x.2.length=D.n∧0≤x.1∧x.1≤S.A.length ∧
   bumpM S.A N S.lv (S.A.length-x.1.toNat) x.1 x.2=bumpM S.A N S.lv S.A.length 0 D.L)
  (fun x=>S.A.length-x.1.toNat) (0,D.L) ?_ ⟨by omega,by rw [Hp.up_self hT1.l];exact hM1,hT.nL,Int.le_refl _,by simp,rfl⟩ ?_
 ·exact Ho
 rintro ⟨k,L⟩ g s2 ⟨hn2,hM2,hL,hk1,hk2,hres⟩
 dsimp only at hn2 hM2 hL hk1 hk2 hres ⊢
 have hT2:=hT1.setL hL
 have hS2:=hS1.setL (o:=.row 1 (L.map (.int .i64))) (L':=L)
 have hbx2:(H1.up D.l (.row 1 (L.map (.int .i64)))) a0_0=some (.row 0 [.pointer (some ⟨S.q,0,none⟩)]):=Hp.up_ne hbl hbx1
 obtain ⟨e2,cc,cf,cw,cl,cm,ht⟩:=hT2.t
 obtain ⟨e1',ca',hq1⟩:=hS2.q
 obtain ⟨r,ha⟩:=hS2.a
 have hLl:=hT2.l
 dsimp only at ht hLl
 have hl:(S.A++r).length=S.A.length+r.length:=List.length_append
 refine WC.seq (Rg (Co (Lt (z:=Nl (WC.seq ?_)))))
 refine WC.condD rfl (fun hlt hltb=>?_) (fun hlt hltb=>?_)
 ·have hk:=hS.at hk1 hlt
  rw [←rd_app (r:=r) hk1 hlt] at hk
  have ek:rd (S.A++r) k=rd S.A k:=rd_app hk1 hlt
  refine WC.skip (WC.seq (WC.block (WC.seq (Rg (Mv (z:=Co (Ix (z:=Co (Ld (z:=Av (z:=Av (z:=Nl (WC.seq (Rg (Co (Ld (z:=Mv (z:=Co ?_))))))))))))))))))
  refine SV.callM rfl rfl (of_sp hX hM2 hT2 hS2 ⟨by omega,by omega⟩) ?_
  rintro v s3 H3 hn3 hM3 ⟨rfl,rfl⟩
  try dsimp only
  rw [show S.A.length-k.toNat=(S.A.length-(k+1).toNat)+1 by omega] at hres
  simp only [bumpM] at hres
  refine Av (z:=Nl ?_)
  generalize hc:rd N (rd S.A k)=c at hres ⊢
  refine WC.block (WC.seq (Rg (Co (Ld (z:=Co (Np (z:=Co (Fa (z:=Co (Ld (z:=Co (Rm (z:=Co (Ei (z:=Mv (z:=?_))))))))))))))))
  refine WO.guardDT rfl rfl rfl (fun hg6_7 hh6_7=>SV.moveV (by constructor) ?_) (fun hg6_7 hh6_7=>?_) (by decide)
  all_goals (first | refine Gy (z:=Ni (z:=?_)) | refine Gn (z:=?_))
  all_goals (first | refine Co (Pt (z:=?_)) | refine Co (Pf (z:=?_)))
  all_goals refine Av (z:=Nl ?_)
  ·skip
   refine WC.condD rfl (fun h1 h1b=>?_) (fun h1 h1b=>?_)
   ·skip
    refine Rg (Co (Ld (z:=Co (Np (z:=Co (Fa (z:=Co (Ld (z:=Co (Np (z:=Co (Fa (z:=Co (Ld (z:=Mv (z:=Co (Ix (z:=Co (Ld (z:=?_))))))))))))))))))))
    refine WO.cons (SV.add rfl rfl ?_) (by decide)
    refine Co (Ix (z:=WO.cons0 (Sv (z:=fun s7_12 hn7_12 hM7_12=>Nl ?_))))
    rw [ints_set (by omega) (by omega),Hp.up_up,ek] at hM7_12
    refine Rg (Co (Ad (z:=Mv (z:=Nl ?_))))
    exact ⟨rfl,(k+1,_),Ho,⟨by omega,hM7_12,by dsimp only;rw [List.length_set];exact hL,by dsimp only;omega,by dsimp only;omega,by rw [←hres];unfold bumpOf;rw [if_pos ⟨hg6_7,h1⟩]⟩,by dsimp only;omega⟩
   ·refine WC.seq (Rg (Co (Ld (z:=Co (Np (z:=Co (Fa (z:=Co (Ld (z:=Co (Rm (z:=Co (Ei (z:=Mv (z:=?_)))))))))))))))
    refine WO.guardDT rfl rfl rfl (fun hg8_7 hh8_7=>SV.moveV (by constructor) ?_) (fun hg8_7 hh8_7=>?_) (by decide)
    all_goals (first | refine Gy (z:=Ei (z:=?_)) | refine Gn (z:=?_))
    all_goals (first | refine Co (Pt (z:=?_)) | refine Co (Pf (z:=?_)))
    all_goals refine Av (z:=Nl ?_)
    ·exfalso;omega
    ·refine Cf (z:=WC.seq (Rg (Co (Ld (z:=Co (Np (z:=Co (Fa (z:=Co (Ld (z:=Co (Rm (z:=Co (Ei (z:=Mv (z:=Gn (z:=Gn (z:=Co (Pf (z:=Av (z:=Nl (Cf (z:=WC.skip (Rg (Co (Ad (z:=Mv (z:=Nl ?_))))))))))))))))))))))))))))
     exact ⟨rfl,(k+1,L),Ho,⟨by omega,hM3,hL,by dsimp only;omega,by dsimp only;omega,by rw [←hres];unfold bumpOf;rw [if_neg (fun h=>h1 h.2),if_neg (fun h=>hg8_7 h.1),if_neg (fun h=>hg8_7 h.1)];unfold rd;rw [set_self]⟩,by dsimp only;omega⟩
  ·refine Cf (z:=WC.seq (Rg (Co (Ld (z:=Co (Np (z:=Co (Fa (z:=Co (Ld (z:=Co (Rm (z:=Co (Ei (z:=Mv (z:=?_))))))))))))))))
   refine WO.guardDT rfl rfl rfl (fun hg8_7 hh8_7=>SV.moveV (by constructor) ?_) (fun hg8_7 hh8_7=>?_) (by decide)
   all_goals (first | refine Gy (z:=Ei (z:=?_)) | refine Gn (z:=?_))
   all_goals (first | refine Co (Pt (z:=?_)) | refine Co (Pf (z:=?_)))
   all_goals refine Av (z:=Nl ?_)
   ·skip
    refine WC.condD rfl (fun h2 h2b=>?_) (fun h2 h2b=>?_)
    ·skip
     refine Rg (Co (Ld (z:=Co (Np (z:=Co (Fa (z:=Co (Ld (z:=Co (Np (z:=Co (Fa (z:=Co (Ld (z:=Mv (z:=Co (Ix (z:=Co (Ld (z:=?_))))))))))))))))))))
     refine WO.cons (SV.add rfl rfl ?_) (by decide)
     refine Co (Ix (z:=WO.cons0 (Sv (z:=fun s9_12 hn9_12 hM9_12=>Nl ?_))))
     rw [ints_set (by omega) (by omega),Hp.up_up,ek] at hM9_12
     refine Rg (Co (Ad (z:=Mv (z:=Nl ?_))))
     exact ⟨rfl,(k+1,_),Ho,⟨by omega,hM9_12,by dsimp only;rw [List.length_set];exact hL,by dsimp only;omega,by dsimp only;omega,by rw [←hres];unfold bumpOf;rw [if_neg (fun h=>hg6_7 h.1),if_pos ⟨hg8_7,h2⟩]⟩,by dsimp only;omega⟩
    ·refine WC.seq (Rg (Co (Ld (z:=Co (Np (z:=Co (Fa (z:=Co (Ld (z:=Co (Rm (z:=Co (Ei (z:=Mv (z:=Gy (z:=Mq (z:=Gy (z:=Ni (z:=Co (Pt (z:=Av (z:=Nl ?_))))))))))))))))))))))
     refine WC.condD rfl (fun h3 h3b=>?_) (fun h3 h3b=>?_)
     ·skip
      refine Rg (Co (Ld (z:=Co (Np (z:=Co (Fa (z:=Co (Ld (z:=Co (Np (z:=Co (Fa (z:=Co (Ld (z:=Mv (z:=Co (Ix (z:=Co (Ld (z:=?_))))))))))))))))))))
      refine WO.cons (SV.add rfl rfl ?_) (by decide)
      refine Co (Ix (z:=WO.cons0 (Sv (z:=fun s11_12 hn11_12 hM11_12=>Nl ?_))))
      rw [ints_set (by omega) (by omega),Hp.up_up,ek] at hM11_12
      refine Rg (Co (Ad (z:=Mv (z:=Nl ?_))))
      exact ⟨rfl,(k+1,_),Ho,⟨by omega,hM11_12,by dsimp only;rw [List.length_set];exact hL,by dsimp only;omega,by dsimp only;omega,by rw [←hres];unfold bumpOf;rw [if_neg (fun h=>hg6_7 h.1),if_neg (fun h=>h2 h.2),if_pos ⟨hg8_7,h3⟩]⟩,by dsimp only;omega⟩
     ·refine WC.skip (Rg (Co (Ad (z:=Mv (z:=Nl ?_)))))
      exact ⟨rfl,(k+1,L),Ho,⟨by omega,hM3,hL,by dsimp only;omega,by dsimp only;omega,by rw [←hres];unfold bumpOf;rw [if_neg (fun h=>hg6_7 h.1),if_neg (fun h=>h2 h.2),if_neg (fun h=>h3 h.2)];unfold rd;rw [set_self]⟩,by dsimp only;omega⟩
   ·refine Cf (z:=WC.seq (Rg (Co (Ld (z:=Co (Np (z:=Co (Fa (z:=Co (Ld (z:=Co (Rm (z:=Co (Ei (z:=Mv (z:=Gn (z:=Gn (z:=Co (Pf (z:=Av (z:=Nl (Cf (z:=WC.skip (Rg (Co (Ad (z:=Mv (z:=Nl ?_))))))))))))))))))))))))))))
    exact ⟨rfl,(k+1,L),Ho,⟨by omega,hM3,hL,by dsimp only;omega,by dsimp only;omega,by rw [←hres];unfold bumpOf;rw [if_neg (fun h=>hg6_7 h.1),if_neg (fun h=>hg8_7 h.1),if_neg (fun h=>hg8_7 h.1)];unfold rd;rw [set_self]⟩,by dsimp only;omega⟩
 ·refine WC.exit ?_
  have e:S.A.length-k.toNat=0:=by omega
  rw [e] at hres
  simp only [bumpM] at hres
  subst hres
  subst hH1
  exact fin_none (e:=.normal) rfl trivial hn2 (drop hM2) ⟨rfl,rfl⟩
end Go.Proofs.Ythkklpegjcnjoaa
