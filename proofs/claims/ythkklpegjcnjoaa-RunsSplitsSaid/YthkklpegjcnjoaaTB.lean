/- A part of the proof: no condition but those that each theorem states. -/
import Derived.Test.YthkklpegjcnjoaaLgT
import Derived.Test.YthkklpegjcnjoaaTA
set_option linter.unusedVariables false
set_option linter.unusedSimpArgs false
namespace Go.Proofs.Ythkklpegjcnjoaa
open Go.Ab
variable {X:CallE} {ro:Nat}
set_option maxRecDepth 10000
def ends1M (F:List Int):Nat→Int→Int→List Int→List Int
 | 0,_,_,L=>L
 | r+1,i,last,L=>
  if isRemoved (rd F i) then ends1M F r (i+1) (rd (L.set i.toNat last) i) (L.set i.toNat last) else ends1M F r (i+1) (rd L i) L
def tailOf (c:Int) (t:Bool):Bool:=if c=11∨c=10 then true else if c≠12∧¬ isOpener c∧c≠22∧¬ isRemoved c then false else t
def ends2M (F:List Int) (b:Int):Nat→Bool→List Int→List Int
 | 0,_,L=>L
 | r+1,t,L=>ends2M F b r (tailOf (rd F r) t) (if tailOf (rd F r) t=true then L.set r b else L)
def endsM (F:List Int) (b:Int) (L:List Int):List Int:=ends2M F b F.length true (ends1M F F.length 0 b L)
theorem ends1M_length {F:List Int}:∀ (r:Nat) (i last:Int) (L:List Int),(ends1M F r i last L).length=L.length
 | 0,_,_,_=>rfl
 | r+1,i,last,L=>by
  simp only [ends1M]
  split
  ·exact (ends1M_length r _ _ _).trans List.length_set
  ·exact ends1M_length r _ _ _
theorem ends2M_length {F:List Int} {b:Int}:∀ (r:Nat) (t:Bool) (L:List Int),(ends2M F b r t L).length=L.length
 | 0,_,_=>rfl
 | r+1,t,L=>by
  simp only [ends2M]
  refine (ends2M_length r _ _).trans ?_
  split
  ·exact List.length_set
  ·rfl
theorem endsM_length {F:List Int} {b:Int} {L:List Int}:(endsM F b L).length=L.length:=(ends2M_length _ _ _).trans (ends1M_length _ _ _ _)
set_option maxHeartbeats 8000000 in
theorem ends_sp {s:St} {H:Hp} {D:TD} (hX:OwnX X) (hM:Models ro s H) (hT:TextH H D) :
 Sp X Try.prog ro 43 [.pointer (some ⟨D.t,0,none⟩)] s fun v H'=>v = .tuple #[]∧H'=H.up D.l (.row 1 ((endsM D.F D.b D.L).map (.int .i64))):=by
 have hbig2:=hT.big
 have hnF:=hT.nF
 obtain ⟨e,cc,cf,cw,cl,cm,ht⟩:=hT.t
 refine Bo hX Try.func43 Try.ntmps43 (z:=?_)
 refine WC.seq (Rg (Mv (z:=Co (Np (z:=Co (Fa (z:=Co (Ld (z:=Av (z:=Nl (WC.seq (WC.seq (Rg (Mv (z:=Co (Np (z:=Co (Fa (z:=Co (Ld (z:=Co (Ln (z:=Mv (z:=Nl (WC.block ?_)))))))))))))))))))))))))
 refine WC.loop (D:=Int×Int×List Int) (fun x=>[(0,.pointer (some ⟨D.t,0,none⟩)),(2,.int .i64 x.2.1),(15,.slice (some ⟨D.f,0,none⟩) D.n cf),(16,.int .i64 D.n),(17,.int .i64 x.1)])
  (fun x s1=>s.next≤s1.next∧Models ro s1 (H.up D.l (.row 1 (x.2.2.map (.int .i64))))∧x.2.2.length=D.n∧0≤x.1∧x.1≤D.n ∧
   ends1M D.F (D.F.length-x.1.toNat) x.1 x.2.1 x.2.2=ends1M D.F D.F.length 0 D.b D.L)
  (fun x=>D.n-x.1.toNat) (0,D.b,D.L) ?_ ⟨Nat.le_refl _,by rw [Hp.up_self hT.l];exact hM,hT.nL,Int.le_refl _,by simp,rfl⟩ ?_
 ·exact Ho
 rintro ⟨i,last,L⟩ g s1 ⟨hn1,hM1,hL,hk1,hk2,hres⟩
 dsimp only at hn1 hM1 hL hk1 hk2 hres ⊢
 have hT1:=hT.setL hL
 obtain ⟨e1,cc1,cf1,cw1,cl1,cm1,ht1⟩:=hT1.t
 have hf1:=hT1.f
 have hl1:=hT1.l
 dsimp only at ht1 hf1 hl1
 refine WC.seq (Rg (Co (Lt (z:=Nl (WC.seq ?_)))))
 refine WC.condD rfl (fun hlt hltb=>?_) (fun hlt hltb=>?_)
 ·rw [show D.F.length-i.toNat=(D.F.length-(i+1).toNat)+1 by omega] at hres
  simp only [ends1M] at hres
  refine WC.skip (WC.seq (WC.block (WC.seq (Rg (Mv (z:=Co (Ix (z:=Co (Ld (z:=Av (z:=Av (z:=Nl (WC.seq (WC.seq (Rg (Mv (z:=Co ?_)))))))))))))))))
  refine SV.callM rfl rfl (removed_sp hX hM1) ?_
  rintro v s3 H3 hn3 hM3 ⟨rfl,rfl⟩
  refine Nl ?_
  refine WC.condD rfl (fun hr hrb=>?_) (fun hr hrb=>?_)
  ·skip
   refine Rg (Mv (z:=Co (Np (z:=Co (Fa (z:=Co (Ld (z:=Mv (z:=Mv (z:=Co (Ix (z:=WO.cons0 (Sv (z:=fun s5_7 hn5_7 hM5_7=>Nl ?_))))))))))))))
   rw [ints_set (by omega) (by omega),Hp.up_up] at hM5_7
   have hT5:=hT.setL (L':=L.set i.toNat last) (by rw [List.length_set];exact hL)
   have hL5:(L.set i.toNat last).length=D.n:=by rw [List.length_set];exact hL
   obtain ⟨e5,cc5,cf5,cw5,cl5,cm5,ht5⟩:=hT5.t
   have hl5:=hT5.l
   dsimp only at ht5 hl5
   refine Rg (Mv (z:=Co (Np (z:=Co (Fa (z:=Co (Ld (z:=Mv (z:=Co (Ix (z:=Co (Ld (z:=Av (z:=Nl (Rg (Co (Ad (z:=Mv (z:=Nl ?_)))))))))))))))))))
   rw [if_pos hr] at hres
   exact ⟨rfl,(i+1,_,_),Ho,⟨by omega,hM5_7,hL5,by dsimp only;omega,by dsimp only;omega,hres⟩,by dsimp only;omega⟩
  ·refine WC.skip (Rg (Mv (z:=Co (Np (z:=Co (Fa (z:=Co (Ld (z:=Mv (z:=Co (Ix (z:=Co (Ld (z:=Av (z:=Nl (Rg (Co (Ad (z:=Mv (z:=Nl ?_))))))))))))))))))))
   rw [if_neg hr] at hres
   exact ⟨rfl,(i+1,_,_),Ho,⟨by omega,hM3,hL,by dsimp only;omega,by dsimp only;omega,hres⟩,by dsimp only;omega⟩
 refine WC.exit (WC.seq ?_)
 have e:D.F.length-i.toNat=0:=by omega
 rw [e] at hres
 simp only [ends1M] at hres
 generalize hL1:ends1M D.F D.F.length 0 D.b D.L=L1 at *
 subst hres
 refine Rg (Av (z:=Nl (WC.seq (Rg (Mv (z:=Co (Np (z:=Co (Fa (z:=Co (Ld (z:=Co (Ln (z:=Co (Sb (z:=Av (z:=Nl (WC.block ?_))))))))))))))))))
 refine WC.loop (D:=Int×Bool×List Int) (fun x=>[(0,.pointer (some ⟨D.t,0,none⟩)),(5,.bool x.2.1),(6,.int .i64 x.1)])
  (fun x s1=>s.next≤s1.next∧Models ro s1 (H.up D.l (.row 1 (x.2.2.map (.int .i64))))∧x.2.2.length=D.n ∧ -1≤x.1∧x.1<D.n ∧
   ends2M D.F D.b (x.1+1).toNat x.2.1 x.2.2=ends2M D.F D.b D.F.length true L)
  (fun x=>(x.1+1).toNat) (D.n-1,true,L) ?_ ⟨by omega,hM1,hL,by dsimp only;omega,by dsimp only;omega,by dsimp only;rw [Int.sub_add_cancel,hnF];rfl⟩ ?_
 ·exact Ho
 clear hT1 ht1 hl1 hf1 hM1 hn1 hL
 rintro ⟨k2,tl,L2⟩ g2 s2 ⟨hn2,hM2,hL,hj1,hj2,hres⟩
 dsimp only at hn2 hM2 hL hj1 hj2 hres ⊢
 have hT1:=hT.setL hL
 obtain ⟨e1,cc1,cf1,cw1,cl1,cm1,ht1⟩:=hT1.t
 have hf1:=hT1.f
 have hl1:=hT1.l
 dsimp only at ht1 hf1 hl1
 refine WC.seq (WC.seq (Rg (Mv (z:=Co (Ge (z:=Nl ?_))))))
 refine WC.condD rfl (fun hge hgeb=>?_) (fun hge hgeb=>?_)
 ·have hr1:(k2+1).toNat=k2.toNat+1:=by omega
  have hr2:((k2.toNat:Nat):Int)=k2:=by omega
  rw [hr1] at hres
  simp only [ends2M,hr2] at hres
  refine WC.skip (WC.seq (WC.block (WC.seq (WC.seq (Rg (Mv (z:=Co (Np (z:=Co (Fa (z:=Co (Ld (z:=Mv (z:=Co (Ix (z:=Co (Ld (z:=Av (z:=Nl ?_)))))))))))))))))))
  generalize hc:rd D.F k2=c at hres ⊢
  refine WC.block (WC.seq (Rg (Mv (z:=Co (Ei (z:=Mv (z:=?_)))))))
  refine WO.guardDF rfl rfl rfl (fun hg13_3 hh13_3=>SV.moveV (by constructor) ?_) (fun hg13_3 hh13_3=>?_) (by decide)
  all_goals (first | refine Gy (z:=Ei (z:=?_)) | refine Gn (z:=?_))
  all_goals (first | refine Co (Pt (z:=?_)) | refine Co (Pf (z:=?_)))
  all_goals refine Av (z:=Nl ?_)
  ·skip
   refine WC.condD rfl (fun h10 h10b=>?_) (fun h10 h10b=>?_)
   ·skip
    refine Rg (Av (z:=Nl (WC.seq (Rg (Mv (z:=Nl (Ct (z:=?_))))))))
    have ht2:tailOf c tl=true:=by unfold tailOf;rw [if_pos (.inr h10)]
    refine WC.dr [0,1,2,3,4,5,6,7,8,9,10] (z:=Mw (z:=Cd (Np (z:=Cd (Fa (z:=Cd (Ld (z:=Mw (z:=Mw (z:=Cd (Np (z:=Cd (Fa (z:=Cd (Ld (z:=Cd (Ix (z:=WD.cons0 (Sv (z:=fun s18_10 hn18_10 hM18_10=>Nz ?_))))))))))))))))))))
    rw [ints_set (by omega) (by omega),Hp.up_up] at hM18_10
    refine Rg (Mv (z:=Co (Sb (z:=Av (z:=Nl ?_)))))
    exact ⟨rfl,(k2-1,true,_),Ho,⟨by omega,hM18_10,by dsimp only;rw [List.length_set];exact hL,by dsimp only;omega,by dsimp only;omega,by dsimp only;rw [Int.sub_add_cancel,←hres,ht2,if_pos rfl]⟩,by dsimp only;omega⟩
   ·refine WC.seq (Rg (Mv (z:=Co (Ni (z:=Mv (z:=?_))))))
    refine WO.guardDT rfl rfl rfl (fun hg15_3 hh15_3=>SV.moveV (by constructor) ?_) (fun hg15_3 hh15_3=>?_) (by decide)
    all_goals (first | refine WO.guardY rfl rfl rfl (by assumption) ?_ (by decide) | refine Gn (z:=?_))
    ·refine SV.callM rfl rfl (opener_sp' hX hM2) ?_
     rintro v s3 H3 hn3 hM3 ⟨rfl,rfl⟩
     refine WO.guardY rfl rfl rfl (by assumption) (SV.notD rfl ?_) (by decide)
     all_goals refine Co (Pt (z:=Mv (z:=?_)))
     all_goals (refine WO.guardDT rfl rfl rfl (fun hg15_8 hh15_8=>SV.moveV (by constructor) ?_) (fun hg15_8 hh15_8=>?_) (by decide))
     all_goals (first | refine Gy (z:=Ni (z:=?_)) | refine Gn (z:=?_))
     all_goals (first | refine Co (Pt (z:=?_)) | refine Co (Pf (z:=?_)))
     all_goals refine Mv (z:=?_)
     all_goals (first | refine Gn (z:=?_) | refine WO.guardDT rfl rfl rfl (fun hg15_12 hh15_12=>SV.moveV (by constructor) ?_) (fun hg15_12 hh15_12=>?_) (by decide))
     all_goals (first | refine WO.guardY rfl rfl rfl (by assumption) ?_ (by decide) | refine Gn (z:=?_))
     ·refine SV.callM rfl rfl (removed_sp hX hM3) ?_
      rintro v s4 H4 hn4 hM4 ⟨rfl,rfl⟩
      refine WO.guardY rfl rfl rfl (by assumption) (SV.notD rfl ?_) (by decide)
      all_goals refine Co (Pt (z:=Av (z:=Nl ?_)))
      refine WC.condD rfl (fun hrm hrmb=>?_) (fun hrm hrmb=>?_)
      ·skip
       refine Rg (Av (z:=Nl (WC.seq (Rg (Mv (z:=Nl (Cf (z:=WC.skip ?_))))))))
       have ht2:tailOf c tl=false:=by unfold tailOf;simp [*]
       refine Rg (Mv (z:=Co (Sb (z:=Av (z:=Nl ?_)))))
       exact ⟨rfl,(k2-1,false,L2),Ho,⟨by omega,hM4,hL,by dsimp only;omega,by dsimp only;omega,by dsimp only;rw [Int.sub_add_cancel,←hres,ht2];rfl⟩,by dsimp only;omega⟩
      ·cases tl
       ·refine WC.skip (WC.seq (Rg (Mv (z:=Nl (Cf (z:=WC.skip ?_))))))
        have ht2:tailOf c false=false:=by unfold tailOf;simp [*]
        refine Rg (Mv (z:=Co (Sb (z:=Av (z:=Nl ?_)))))
        exact ⟨rfl,(k2-1,false,L2),Ho,⟨by omega,hM4,hL,by dsimp only;omega,by dsimp only;omega,by dsimp only;rw [Int.sub_add_cancel,←hres,ht2];rfl⟩,by dsimp only;omega⟩
       ·refine WC.skip (WC.seq (Rg (Mv (z:=Nl (Ct (z:=?_))))))
        have ht2:tailOf c true=true:=by unfold tailOf;simp [*]
        refine WC.dr [0,1,2,3,4,5,6,7,8,9,10] (z:=Mw (z:=Cd (Np (z:=Cd (Fa (z:=Cd (Ld (z:=Mw (z:=Mw (z:=Cd (Np (z:=Cd (Fa (z:=Cd (Ld (z:=Cd (Ix (z:=WD.cons0 (Sv (z:=fun s18_10 hn18_10 hM18_10=>Nz ?_))))))))))))))))))))
        rw [ints_set (by omega) (by omega),Hp.up_up] at hM18_10
        refine Rg (Mv (z:=Co (Sb (z:=Av (z:=Nl ?_)))))
        exact ⟨rfl,(k2-1,true,_),Ho,⟨by omega,hM18_10,by dsimp only;rw [List.length_set];exact hL,by dsimp only;omega,by dsimp only;omega,by dsimp only;rw [Int.sub_add_cancel,←hres,ht2,if_pos rfl]⟩,by dsimp only;omega⟩
     ·refine Gn (z:=Co (Pf (z:=Av (z:=Nl ?_))))
      cases tl
      ·refine Cf (z:=WC.skip (WC.seq (Rg (Mv (z:=Nl (Cf (z:=WC.skip ?_)))))))
       have ht2:tailOf c false=false:=by unfold tailOf;simp [*]
       refine Rg (Mv (z:=Co (Sb (z:=Av (z:=Nl ?_)))))
       exact ⟨rfl,(k2-1,false,L2),Ho,⟨by omega,hM3,hL,by dsimp only;omega,by dsimp only;omega,by dsimp only;rw [Int.sub_add_cancel,←hres,ht2];rfl⟩,by dsimp only;omega⟩
      ·refine Cf (z:=WC.skip (WC.seq (Rg (Mv (z:=Nl (Ct (z:=?_)))))))
       have ht2:tailOf c true=true:=by unfold tailOf;simp [*]
       refine WC.dr [0,1,2,3,4,5,6,7,8,9,10] (z:=Mw (z:=Cd (Np (z:=Cd (Fa (z:=Cd (Ld (z:=Mw (z:=Mw (z:=Cd (Np (z:=Cd (Fa (z:=Cd (Ld (z:=Cd (Ix (z:=WD.cons0 (Sv (z:=fun s18_10 hn18_10 hM18_10=>Nz ?_))))))))))))))))))))
       rw [ints_set (by omega) (by omega),Hp.up_up] at hM18_10
       refine Rg (Mv (z:=Co (Sb (z:=Av (z:=Nl ?_)))))
       exact ⟨rfl,(k2-1,true,_),Ho,⟨by omega,hM18_10,by dsimp only;rw [List.length_set];exact hL,by dsimp only;omega,by dsimp only;omega,by dsimp only;rw [Int.sub_add_cancel,←hres,ht2,if_pos rfl]⟩,by dsimp only;omega⟩
     ·refine Gn (z:=Co (Pf (z:=Av (z:=Nl ?_))))
      cases tl
      ·refine Cf (z:=WC.skip (WC.seq (Rg (Mv (z:=Nl (Cf (z:=WC.skip ?_)))))))
       have ht2:tailOf c false=false:=by unfold tailOf;simp [*]
       refine Rg (Mv (z:=Co (Sb (z:=Av (z:=Nl ?_)))))
       exact ⟨rfl,(k2-1,false,L2),Ho,⟨by omega,hM3,hL,by dsimp only;omega,by dsimp only;omega,by dsimp only;rw [Int.sub_add_cancel,←hres,ht2];rfl⟩,by dsimp only;omega⟩
      ·refine Cf (z:=WC.skip (WC.seq (Rg (Mv (z:=Nl (Ct (z:=?_)))))))
       have ht2:tailOf c true=true:=by unfold tailOf;simp [*]
       refine WC.dr [0,1,2,3,4,5,6,7,8,9,10] (z:=Mw (z:=Cd (Np (z:=Cd (Fa (z:=Cd (Ld (z:=Mw (z:=Mw (z:=Cd (Np (z:=Cd (Fa (z:=Cd (Ld (z:=Cd (Ix (z:=WD.cons0 (Sv (z:=fun s18_10 hn18_10 hM18_10=>Nz ?_))))))))))))))))))))
       rw [ints_set (by omega) (by omega),Hp.up_up] at hM18_10
       refine Rg (Mv (z:=Co (Sb (z:=Av (z:=Nl ?_)))))
       exact ⟨rfl,(k2-1,true,_),Ho,⟨by omega,hM18_10,by dsimp only;rw [List.length_set];exact hL,by dsimp only;omega,by dsimp only;omega,by dsimp only;rw [Int.sub_add_cancel,←hres,ht2,if_pos rfl]⟩,by dsimp only;omega⟩
    ·refine Gn (z:=Co (Pf (z:=Mv (z:=Gn (z:=Gn (z:=Co (Pf (z:=Mv (z:=Gn (z:=Gn (z:=Gn (z:=Co (Pf (z:=Av (z:=Nl ?_)))))))))))))))
     cases tl
     ·refine Cf (z:=WC.skip (WC.seq (Rg (Mv (z:=Nl (Cf (z:=WC.skip ?_)))))))
      have ht2:tailOf c false=false:=by unfold tailOf;simp [*]
      refine Rg (Mv (z:=Co (Sb (z:=Av (z:=Nl ?_)))))
      exact ⟨rfl,(k2-1,false,L2),Ho,⟨by omega,hM2,hL,by dsimp only;omega,by dsimp only;omega,by dsimp only;rw [Int.sub_add_cancel,←hres,ht2];rfl⟩,by dsimp only;omega⟩
     ·refine Cf (z:=WC.skip (WC.seq (Rg (Mv (z:=Nl (Ct (z:=?_)))))))
      have ht2:tailOf c true=true:=by unfold tailOf;simp [*]
      refine WC.dr [0,1,2,3,4,5,6,7,8,9,10] (z:=Mw (z:=Cd (Np (z:=Cd (Fa (z:=Cd (Ld (z:=Mw (z:=Mw (z:=Cd (Np (z:=Cd (Fa (z:=Cd (Ld (z:=Cd (Ix (z:=WD.cons0 (Sv (z:=fun s18_10 hn18_10 hM18_10=>Nz ?_))))))))))))))))))))
      rw [ints_set (by omega) (by omega),Hp.up_up] at hM18_10
      refine Rg (Mv (z:=Co (Sb (z:=Av (z:=Nl ?_)))))
      exact ⟨rfl,(k2-1,true,_),Ho,⟨by omega,hM18_10,by dsimp only;rw [List.length_set];exact hL,by dsimp only;omega,by dsimp only;omega,by dsimp only;rw [Int.sub_add_cancel,←hres,ht2,if_pos rfl]⟩,by dsimp only;omega⟩
  ·refine Ct (z:=Rg (Av (z:=Nl (WC.seq (Rg (Mv (z:=Nl (Ct (z:=?_)))))))))
   have ht2:tailOf c tl=true:=by unfold tailOf;rw [if_pos (.inl (by assumption))]
   refine WC.dr [0,1,2,3,4,5,6,7,8,9,10] (z:=Mw (z:=Cd (Np (z:=Cd (Fa (z:=Cd (Ld (z:=Mw (z:=Mw (z:=Cd (Np (z:=Cd (Fa (z:=Cd (Ld (z:=Cd (Ix (z:=WD.cons0 (Sv (z:=fun s18_10 hn18_10 hM18_10=>Nz ?_))))))))))))))))))))
   rw [ints_set (by omega) (by omega),Hp.up_up] at hM18_10
   refine Rg (Mv (z:=Co (Sb (z:=Av (z:=Nl ?_)))))
   exact ⟨rfl,(k2-1,true,_),Ho,⟨by omega,hM18_10,by dsimp only;rw [List.length_set];exact hL,by dsimp only;omega,by dsimp only;omega,by dsimp only;rw [Int.sub_add_cancel,←hres,ht2,if_pos rfl]⟩,by dsimp only;omega⟩
 ·refine WC.exit ?_
  have:k2 = -1:=by omega
  subst this
  rw [show ((-1:Int)+1).toNat=0 from rfl] at hres
  simp only [ends2M] at hres
  refine fin_none (e:=.normal) rfl trivial hn2 hM2 ⟨rfl,?_⟩
  unfold endsM
  rw [hL1,←hres]
def MatchOk (F M:List Int):Prop:=∀ i:Int,0≤i→i<F.length→isOpener (rd F i)→rd M i<0∨(i<rd M i∧rd M i<F.length)
def baseM (F M:List Int) (to:Int):Nat→Int→Int
 | 0,_=>0
 | r+1,i=>if i<to then (if rd F i=0 then 0 else if rd F i=1∨rd F i=2 then 1 else if rd F i=10 then 0 else if isOpener (rd F i) then (if rd M i<0 then 0 else baseM F M to r (rd M i+1)) else baseM F M to r (i+1)) else 0
theorem base_sp {s:St} {H:Hp} {f m cf cm:Nat} {F M:List Int} {a b:Int} (hX:OwnX X) (hM:Models ro s H) (hf:H f=some (.row 1 (F.map (.int .i64)))) (hm:H m=some (.row 1 (M.map (.int .i64))))
 (hlen:M.length=F.length) (hbig:F.length≤16384) (hok:MatchOk F M) (h0:0≤a∧a≤F.length∧b≤F.length) :
 Sp X Try.prog ro 37 [.slice (some ⟨f,0,none⟩) F.length cf,.slice (some ⟨m,0,none⟩) M.length cm,.int .i64 a,.int .i64 b] s fun v H'=>v = .int .i64 (baseM F M b (F.length+1) a)∧H'=H:=by
 generalize hRES:baseM F M b (F.length+1) a=RES
 refine Bo hX Try.func37 Try.ntmps37 (z:=?_)
 refine WC.seq (Rg (Av (z:=Nl (WC.seq (WC.seq (Rg (Mv (z:=Av (z:=Nl (WC.block ?_))))))))))
 refine WC.loop (D:=Int×Nat) (fun x=>[(0,.slice (some ⟨f,0,none⟩) F.length cf),(1,.slice (some ⟨m,0,none⟩) M.length cm),(3,.int .i64 b),(9,.int .i64 x.1)])
  (fun x s1=>s.next≤s1.next∧Models ro s1 H∧0≤x.1∧x.1≤F.length∧F.length+1≤x.2+x.1∧baseM F M b x.2 x.1=RES)
  (fun x=>(F.length+1-x.1).toNat) (a,F.length+1) ?_ ⟨Nat.le_refl _,hM,by dsimp only;omega,by dsimp only;omega,by dsimp only;omega,hRES⟩ ?_
 ·exact Ho
 rintro ⟨i,r⟩ g s1 ⟨hn1,hM1,hi0,hi1,hr,hres⟩
 dsimp only at hn1 hM1 hi0 hi1 hr hres ⊢
 obtain ⟨r,rfl⟩:∃ q,r=q+1:=⟨r-1,by omega⟩
 simp only [baseM] at hres
 refine WC.seq (WC.seq (Rg (Mv (z:=Mv (z:=Co (Lt (z:=Nl ?_)))))))
 refine WC.condD rfl (fun hlt hltb=>?_) (fun hlt hltb=>?_)
 ·rw [if_pos hlt] at hres
  have hopen:=hok i hi0 (by omega)
  refine WC.skip (WC.seq (WC.block (WC.seq (Rg (Mv (z:=Mv (z:=Co (Ix (z:=Co (Ld (z:=Av (z:=Nl ?_))))))))))))
  generalize hc:rd F i=c at hres hopen ⊢
  refine WC.block (WC.seq (Rg (Mv (z:=Co (Ei (z:=Av (z:=Nl ?_)))))))
  refine WC.condD rfl (fun h1 h1b=>?_) (fun h1 h1b=>?_)
  ·rw [if_pos h1] at hres
   refine WC.seq (Rg (Av (z:=Nl (WC.ret ?_))))
   exact fin_one (e:=.ret) (v:=.int .i64 _) rfl trivial rfl (by omega) hM1 ⟨by rw [←hres],rfl⟩
  rw [if_neg h1] at hres
  refine WC.seq (Rg (Mv (z:=Co (Ei (z:=Mv (z:=?_))))))
  refine WO.guardDF rfl rfl rfl (fun hg7_3 hh7_3=>SV.moveV (by constructor) ?_) (fun hg7_3 hh7_3=>?_) (by decide)
  all_goals (first | refine Gy (z:=Ei (z:=?_)) | refine Gn (z:=?_))
  all_goals (first | refine Co (Pt (z:=?_)) | refine Co (Pf (z:=?_)))
  all_goals refine Av (z:=Nl ?_)
  ·skip
   refine WC.condD rfl (fun h2 h2b=>?_) (fun h2 h2b=>?_)
   ·rw [if_pos (.inr h2)] at hres
    refine WC.seq (Rg (Av (z:=Nl (WC.ret ?_))))
    exact fin_one (e:=.ret) (v:=.int .i64 _) rfl trivial rfl (by omega) hM1 ⟨by rw [←hres],rfl⟩
   rw [if_neg (by omega)] at hres
   refine WC.seq (Rg (Mv (z:=Co (Ei (z:=Av (z:=Nl ?_))))))
   refine WC.condD rfl (fun h3 h3b=>?_) (fun h3 h3b=>?_)
   ·rw [if_pos h3] at hres
    refine WC.seq (Rg (Av (z:=Nl (WC.ret ?_))))
    exact fin_one (e:=.ret) (v:=.int .i64 _) rfl trivial rfl (by omega) hM1 ⟨by rw [←hres],rfl⟩
   rw [if_neg h3] at hres
   refine WC.seq (Rg (Mv (z:=Co ?_)))
   refine SV.callM rfl rfl (opener_sp' hX hM1) ?_
   rintro v s3 H3 hn3 hM3 ⟨rfl,rfl⟩
   refine Av (z:=Nl ?_)
   refine WC.condD rfl (fun h4 h4b=>?_) (fun h4 h4b=>?_)
   ·rw [if_pos h4] at hres
    have hop:=hopen h4
    refine WC.seq (WC.seq (Rg (Mv (z:=Mv (z:=Co (Ix (z:=Co (Ld (z:=Co (Lt (z:=Nl ?_)))))))))))
    refine WC.condD rfl (fun h5 h5b=>?_) (fun h5 h5b=>?_)
    ·rw [if_pos h5] at hres
     refine WC.seq (Rg (Av (z:=Nl (WC.ret ?_))))
     exact fin_one (e:=.ret) (v:=.int .i64 _) rfl trivial rfl (by omega) hM3 ⟨by rw [←hres],rfl⟩
    ·rw [if_neg h5] at hres
     refine WC.skip (Rg (Mv (z:=Mv (z:=Co (Ix (z:=Co (Ld (z:=Av (z:=Nl (Rg (Mv (z:=Co (Ad (z:=Av (z:=Nl ?_)))))))))))))))
     exact ⟨rfl,(_,r),Ho,⟨by omega,hM3,by dsimp only;omega,by dsimp only;omega,by dsimp only;omega,hres⟩,by dsimp only;omega⟩
   ·rw [if_neg h4] at hres
    refine WC.skip (Rg (Mv (z:=Co (Ad (z:=Av (z:=Nl ?_))))))
    exact ⟨rfl,(i+1,r),Ho,⟨by omega,hM3,by dsimp only;omega,by dsimp only;omega,by dsimp only;omega,hres⟩,by dsimp only;omega⟩
  ·rw [if_pos (.inl (by assumption))] at hres
   refine Ct (z:=WC.seq (Rg (Av (z:=Nl (WC.ret ?_)))))
   exact fin_one (e:=.ret) (v:=.int .i64 _) rfl trivial rfl (by omega) hM1 ⟨by rw [←hres],rfl⟩
 ·rw [if_neg hlt] at hres
  refine WC.exit (WC.seq (Rg (Av (z:=Nl (WC.ret ?_)))))
  exact fin_one (e:=.ret) (v:=.int .i64 _) rfl trivial rfl (by omega) hM1 ⟨by rw [←hres],rfl⟩
abbrev Ent3:=Int×Int×Bool
def enc3 (e:Ent3):List Value:=[.int .i64 e.1,.int .i64 e.2.1,.bool e.2.2]
theorem enc3_len (e:Ent3):(enc3 e).length=3:=rfl
structure SK where
 (k:Nat) (v:Value) (E:List Ent3) (op em is:Int)
structure StackH (H:Hp) (D:TD) (K:SK):Prop where
 k:∃ e,H K.k=some (.row e [.pointer (some ⟨D.t,0,none⟩),K.v,.int .i64 K.op,.int .i64 K.em,.int .i64 K.is])
 v:SlO H K.v 3 K.E.length (K.E.flatMap enc3)
 ne:K.E≠[]
 lv:∀ x∈K.E,0≤x.1∧x.1≤125
 big:K.E.length≤100000
 tk:D.t≠K.k∧D.c≠K.k∧D.f≠K.k∧D.w≠K.k∧D.l≠K.k∧D.m≠K.k
 tv:baseV K.v≠some D.t∧baseV K.v≠some D.c∧baseV K.v≠some D.f∧baseV K.v≠some D.w∧baseV K.v≠some D.l∧baseV K.v≠some D.m∧baseV K.v≠some K.k
 kB:∀ ν o,D.B ν=some o→ν≠K.k∧baseV K.v≠some ν
def topM (E:List Ent3):Ent3:=E.getLast?.getD (0,0,false)
theorem top_at {E:List Ent3} (h:E≠[]):∃ hj:E.length-1<E.length,E[E.length-1]=topM E:=by
 have hp:0<E.length:=List.length_pos_iff.mpr h
 refine ⟨by omega,?_⟩
 unfold topM
 rw [List.getLast?_eq_getElem?,List.getElem?_eq_getElem (by omega)]
 rfl
theorem top_sp {s:St} {H:Hp} {D:TD} {K:SK} (hX:OwnX X) (hM:Models ro s H) (hK:StackH H D K) :
 Sp X Try.prog ro 57 [.pointer (some ⟨K.k,0,none⟩)] s fun v H'=>v = .agg #[.int .i64 (topM K.E).1,.int .i64 (topM K.E).2.1,.bool (topM K.E).2.2]∧H'=H:=by
 obtain ⟨ek,hk⟩:=hK.k
 have hp:0<K.E.length:=List.length_pos_iff.mpr hK.ne
 obtain ⟨ν,c,ws,hv,hν,hwl,hnc,htk,hat⟩:=hK.v.at enc3_len rfl hp
 obtain ⟨hj,htop⟩:=top_at hK.ne
 have hbig:=hK.big
 rw [hv] at hk
 refine Bo hX Try.func57 Try.ntmps57 (z:=?_)
 refine WC.seq (Rg (Co (Al (z:=fun a0_0 s0_0 hf0_0 hne0_0 hn0_0 hM0_0=>Nl ?_))))
 have hk0:(H.up a0_0 (.row 0 [.int .i64 0,.int .i64 0,.bool false])) K.k=_:=Hp.up_ne (hne0_0 _ _ hk) hk
 have hν0:(H.up a0_0 (.row 0 [.int .i64 0,.int .i64 0,.bool false])) ν=_:=Hp.up_ne (hne0_0 _ _ hν) hν
 refine WC.seq (WC.dr [0,1,2,3,4,5,6,7,8,9,10,11,12] (z:=Mw (z:=Cd (Np (z:=Cd (Fa (z:=Cd (Ld (z:=Mw (z:=Cd (Np (z:=Cd (Fa (z:=Cd (Ld (z:=Cd (Ln (z:=Cd (Sb (z:=Cd (Ix (z:=Cd ?_))))))))))))))))))))))
 refine SV.loadMA (l:=[.int .i64 (topM K.E).1,.int .i64 (topM K.E).2.1,.bool (topM K.E).2.2]) (by assumption) rfl hν0 rfl (fun i u hu=>?_) ?_
 ·have:=hat _ hj i u (by rw [htop];exact hu)
  rw [show (0:Nat)+(((K.E.length:Nat):Int)-1).toNat*3+i=(K.E.length-1)*3+i by omega]
  exact this
 refine WD.cons0 (SV.storeMA (by assumption) rfl rfl rfl rfl (by exact Hp.up_same) (by (simp;done)) (fun s1_12 hn1_12 hM1_12=>?_))
 refine Nz ?_
 have hM2:Models ro s1_12 H:=hM1_12.sub (fun ν o e=>by rw [Hp.up_up];exact Hp.up_ne (hne0_0 _ _ e) e)
 refine WC.ret ?_
 exact fin_cellA2 (e:=.ret) rfl trivial rfl Hp.up_same rfl (by omega) hM1_12 hM2 ⟨rfl,rfl⟩
theorem StackH.setL {H:Hp} {D:TD} {K:SK} (h:StackH H D K) {o:Go.Ab.Obj} {L':List Int}:StackH (H.up D.l o) { D with L:=L' } K:=by
 obtain ⟨e,hk⟩:=h.k
 exact { h with k:=⟨e,Hp.up_ne (Ne.symm h.tk.2.2.2.2.1) hk⟩,v:=h.v.up h.tv.2.2.2.2.1 }
theorem StackH.setN {H:Hp} {D:TD} {K:SK} (h:StackH H D K) {o:Go.Ab.Obj} {N':List Int}:StackH (H.up D.w o) { D with N:=N' } K:=by
 obtain ⟨e,hk⟩:=h.k
 exact { h with k:=⟨e,Hp.up_ne (Ne.symm h.tk.2.2.2.1) hk⟩,v:=h.v.up h.tv.2.2.2.1 }
theorem StackH.text {H:Hp} {D:TD} {K:SK} (h:StackH H D K) (hT:TextH H D) {o:Go.Ab.Obj}:TextH (H.up K.k o) D:=by
 obtain ⟨e,cc,cf,cw,cl,cm,ht⟩:=hT.t
 obtain ⟨k1,k2,k3,k4,k5,k6⟩:=h.tk
 exact { hT with t:=⟨e,cc,cf,cw,cl,cm,Hp.up_ne k1 ht⟩,c:=Hp.up_ne k2 hT.c,f:=Hp.up_ne k3 hT.f,w:=Hp.up_ne k4 hT.w,l:=Hp.up_ne k5 hT.l,m:=Hp.up_ne k6 hT.m,kp:=fun ν o e=>Hp.up_ne (h.kB ν o e).1 (hT.kp ν o e) }
theorem StackH.upk {H:Hp} {D:TD} {K:SK} (h:StackH H D K) {e:Nat} {op em is:Int}:StackH (H.up K.k (.row e [.pointer (some ⟨D.t,0,none⟩),K.v,.int .i64 op,.int .i64 em,.int .i64 is])) D { K with op:=op,em:=em,is:=is } :=
 { h with k:=⟨e,Hp.up_same⟩,v:=h.v.up h.tv.2.2.2.2.2.2 }
theorem TextH.keep {H H':Hp} {D:TD} {v:Value} (hT:TextH H D) (hk:KeptBut H H' v) (h1:baseV v≠some D.t∧baseV v≠some D.c∧baseV v≠some D.f∧baseV v≠some D.w∧baseV v≠some D.l∧baseV v≠some D.m)
 (hB:∀ ν o,D.B ν=some o→baseV v≠some ν):TextH H' D:=by
 obtain ⟨e,cc,cf,cw,cl,cm,ht⟩:=hT.t
 obtain ⟨k1,k2,k3,k4,k5,k6⟩:=h1
 exact { hT with t:=⟨e,cc,cf,cw,cl,cm,hk _ _ ht k1⟩,c:=hk _ _ hT.c k2,f:=hk _ _ hT.f k3,w:=hk _ _ hT.w k4,l:=hk _ _ hT.l k5,m:=hk _ _ hT.m k6,kp:=fun ν o e=>hk _ _ (hT.kp ν o e) (hB ν o e) }
theorem StackH.setV {H H':Hp} {D:TD} {K:SK} {e:Nat} {v':Value} {E':List Ent3} {op em is:Int} (h:StackH H D K) (hT:TextH H D) (hk:H' K.k=some (.row e [.pointer (some ⟨D.t,0,none⟩),v',.int .i64 op,.int .i64 em,.int .i64 is]))
 (hv:SlO H' v' 3 E'.length (E'.flatMap enc3)) (hn:∀ μ,baseV v'=some μ→baseV K.v=some μ∨H μ=none) (hne:E'≠[]) (hlv:∀ x∈E',0≤x.1∧x.1≤125) (hbig:E'.length≤100000):StackH H' D ⟨K.k,v',E',op,em,is⟩:=by
 obtain ⟨e0,hk0⟩:=h.k
 obtain ⟨e1,cc,cf,cw,cl,cm,ht⟩:=hT.t
 have not:∀ μ o,H μ=some o→baseV K.v≠some μ→baseV v'≠some μ:=fun μ o e1 e2 e3=>by
  rcases hn μ e3 with e | e
  ·exact e2 e
  ·rw [e1] at e;cases e
 obtain ⟨k1,k2,k3,k4,k5,k6,k7⟩:=h.tv
 exact
  {k:=⟨e,hk⟩,v:=hv,ne:=hne,lv:=hlv,big:=hbig,tk:=h.tk
   tv:=⟨not _ _ ht k1,not _ _ hT.c k2,not _ _ hT.f k3,not _ _ hT.w k4,not _ _ hT.l k5,not _ _ hT.m k6,not _ _ hk0 k7⟩
   kB:=fun ν o e=>⟨(h.kB ν o e).1,not _ _ (hT.kp ν o e) (h.kB ν o e).2⟩ }
def plainN (t:Ent3) (N:List Int) (i:Int):List Int:=if t.2.1 ≠ -1 then N.set i.toNat t.2.1 else N
def plainL (t:Ent3) (L:List Int) (i:Int):List Int:=L.set i.toNat t.1
theorem plain_sp {s:St} {H:Hp} {D:TD} {K:SK} {i:Int} (hX:OwnX X) (hM:Models ro s H) (hT:TextH H D) (hK:StackH H D K) (h0:0≤i∧i<D.n) :
 Sp X Try.prog ro 58 [.pointer (some ⟨K.k,0,none⟩),.int .i64 i] s fun v H'=>v = .tuple #[]∧H'=(H.up D.l (.row 1 ((plainL (topM K.E) D.L i).map (.int .i64)))).up D.w (.row 1 ((plainN (topM K.E) D.N i).map (.int .i64))):=by
 refine Bo hX Try.func58 Try.ntmps58 (z:=?_)
 refine WC.seq (Rg (Mv (z:=Co ?_)))
 refine SV.callM rfl rfl (top_sp hX hM hK) ?_
 rintro v s1 H1 hn1 hM1 ⟨rfl,rfl⟩
 refine Co (Al (z:=fun a0_2 s0_2 hf0_2 hne0_2 hn0_2 hM0_2=>?_))
 refine WO.cons0 (SV.storeMA (by assumption) rfl rfl rfl rfl (by exact Hp.up_same) (by (simp;done)) (fun s0_3 hn0_3 hM0_3=>?_))
 refine Nl ?_
 have hbx:((H1.up a0_2 (.row 0 [.int .i64 0,.int .i64 0,.bool false])).up a0_2 (.row 0 (splice [.int .i64 0,.int .i64 0,.bool false] 0 [.int .i64 (topM K.E).1,.int .i64 (topM K.E).2.1,.bool (topM K.E).2.2]))) a0_2=some (.row 0 [.int .i64 (topM K.E).1,.int .i64 (topM K.E).2.1,.bool (topM K.E).2.2]):=Hp.up_same
 rw [Hp.up_up] at hbx hM0_3
 have hne:∀ ν o,H1 ν=some o→ν≠a0_2:=hne0_2
 have hT0:=hT.fresh (x:=.row 0 (splice [.int .i64 0,.int .i64 0,.bool false] 0 [.int .i64 (topM K.E).1,.int .i64 (topM K.E).2.1,.bool (topM K.E).2.2])) hne
 obtain ⟨e,cc,cf,cw,cl,cm,ht⟩:=hT0.t
 obtain ⟨ek,hk⟩:=hK.k
 have hk0:(H1.up a0_2 (.row 0 (splice [.int .i64 0,.int .i64 0,.bool false] 0 [.int .i64 (topM K.E).1,.int .i64 (topM K.E).2.1,.bool (topM K.E).2.2]))) K.k=_:=Hp.up_ne (hne _ _ hk) hk
 have hl0:=hT0.l
 have hnL:=hT.nL
 have hnN:=hT.nN
 refine WC.seq (WC.dr [0,1,2,3,4,5,6,7,8,9,10,11] (z:=Mw (z:=Cd (Np (z:=Cd (Fa (z:=Cd (Ld (z:=Cd (Np (z:=Cd (Fa (z:=Cd (Ld (z:=Mw (z:=Cd (Fa (z:=Cd (Ld (z:=Cd (Ix (z:=WD.cons0 (Sv (z:=fun s1_11 hn1_11 hM1_11=>Nz ?_))))))))))))))))))))))))
 rw [ints_set h0.1 (by omega)] at hM1_11
 have hbl:a0_2≠D.l:=(hne _ _ hT.l).symm
 have hkl:K.k≠D.l:=Ne.symm hK.tk.2.2.2.2.1
 have hlw:=hT.lw
 refine WC.seq (Rg (Co (Fa (z:=Co (Ld (z:=Co (Ni (z:=Nl ?_))))))))
 refine WC.condD rfl (fun hov hovb=>?_) (fun hov hovb=>?_)
 ·have hT1:=hT0.setL (L':=D.L.set i.toNat (topM K.E).1) (by rw [List.length_set];exact hnL)
  obtain ⟨e1,cc1,cf1,cw1,cl1,cm1,ht1⟩:=hT1.t
  have hw1:=hT1.w
  dsimp only at ht1 hw1
  refine WC.dr [0,1,2,3,4,5,6,7,8,9,10,11] (z:=Mw (z:=Cd (Np (z:=Cd (Fa (z:=Cd (Ld (z:=Cd (Np (z:=Cd (Fa (z:=Cd (Ld (z:=Mw (z:=Cd (Fa (z:=Cd (Ld (z:=Cd (Ix (z:=WD.cons0 (Sv (z:=fun s3_11 hn3_11 hM3_11=>Nz ?_)))))))))))))))))))))))
  rw [ints_set h0.1 (by omega)] at hM3_11
  refine fin_none (e:=.normal) rfl trivial (by omega) (hM3_11.sub (H':=(H1.up D.l (.row 1 ((plainL (topM K.E) D.L i).map (.int .i64)))).up D.w (.row 1 ((plainN (topM K.E) D.N i).map (.int .i64)))) fun ν o e=>?_) ⟨rfl,rfl⟩
  unfold plainN plainL at e
  rw [if_pos hov] at e
  unfold Hp.up at e ⊢
  by_cases h1:ν=D.w
  ·rw [if_pos h1] at e ⊢;exact e
  ·rw [if_neg h1] at e ⊢
   by_cases h2:ν=D.l
   ·rw [if_pos h2] at e ⊢;exact e
   ·rw [if_neg h2] at e ⊢
    rw [if_neg (hne ν o e)];exact e
 ·refine WC.skip ?_
  refine fin_none (e:=.normal) rfl trivial (by omega) (hM1_11.sub (H':=(H1.up D.l (.row 1 ((plainL (topM K.E) D.L i).map (.int .i64)))).up D.w (.row 1 ((plainN (topM K.E) D.N i).map (.int .i64)))) fun ν o e=>?_) ⟨rfl,rfl⟩
  unfold plainN plainL at e
  rw [if_neg hov] at e
  unfold Hp.up at e ⊢
  by_cases h1:ν=D.w
  ·rw [if_pos h1] at e
   cases e
   rw [if_neg (by rw [h1];exact Ne.symm hlw),if_neg (by rw [h1];exact hne _ _ hT.w),h1]
   exact hT.w
  ·rw [if_neg h1] at e
   by_cases h2:ν=D.l
   ·rw [if_pos h2] at e ⊢;exact e
   ·rw [if_neg h2] at e ⊢
    rw [if_neg (hne ν o e)];exact e
def nextM (lv:Int) (odd:Bool):Int:=if (decide ((lv+1).tmod 2=1) != odd)=true then lv+2 else lv+1
theorem next_sp {s:St} {H:Hp} {D:TD} {K:SK} {odd:Bool} (hX:OwnX X) (hM:Models ro s H) (hK:StackH H D K) :
 Sp X Try.prog ro 83 [.pointer (some ⟨K.k,0,none⟩),.bool odd] s fun v H'=>v = .int .i64 (nextM (topM K.E).1 odd)∧H'=H:=by
 have hlv:0≤(topM K.E).1∧(topM K.E).1≤125:=by
  obtain ⟨hj,h⟩:=top_at hK.ne
  rw [←h];exact hK.lv _ (List.getElem_mem _)
 refine Bo hX Try.func83 Try.ntmps83 (z:=?_)
 refine WC.seq (Rg (Av (z:=Nl (WC.seq (Rg (Mv (z:=Co ?_)))))))
 refine SV.callM rfl rfl (top_sp hX hM hK) ?_
 rintro v s1 H1 hn1 hM1 ⟨rfl,rfl⟩
 refine WO.cons (SV.field rfl rfl ?_) (by decide)
 refine Co (Ad (z:=Av (z:=Nl (WC.seq (WC.seq (Rg (Mv (z:=Co (Rm (z:=Co (Ei (z:=Mv (z:=?_)))))))))))))
 refine WO.cons (SV.neqB Try.underlying4 rfl rfl ?_) (by decide)
 refine Nl ?_
 refine WC.cond rfl (fun h1=>?_) (fun h1=>?_)
 ·skip
  refine Rg (Mv (z:=Co (Ad (z:=Av (z:=Nl (WC.seq (Rg (Mv (z:=Av (z:=Nl (WC.ret ?_)))))))))))
  exact fin_one (e:=.ret) (v:=.int .i64 _) rfl trivial rfl (by omega) hM1 ⟨by unfold nextM;rw [if_pos h1,Int.add_assoc];rfl,rfl⟩
 ·refine WC.skip (WC.seq (Rg (Mv (z:=Av (z:=Nl (WC.ret ?_))))))
  exact fin_one (e:=.ret) (v:=.int .i64 _) rfl trivial rfl (by omega) hM1 ⟨by unfold nextM;rw [if_neg (by rw [h1];decide)],rfl⟩
theorem fits_sp {s:St} {H:Hp} {D:TD} {K:SK} {n:Int} (hX:OwnX X) (hM:Models ro s H) (hK:StackH H D K) :
 Sp X Try.prog ro 84 [.pointer (some ⟨K.k,0,none⟩),.int .i64 n] s fun v H'=>v = .bool (decide (n≤125∧K.op=0∧K.em=0))∧H'=H:=by
 obtain ⟨ek,hk⟩:=hK.k
 refine Bo hX Try.func84 Try.ntmps84 (z:=?_)
 refine WC.seq (Rg (Av (z:=Nl (WC.seq (Rg (Mv (z:=Co (Le (z:=Mv (z:=?_))))))))))
 refine WO.guardDT rfl rfl rfl (fun hg1_3 hh1_3=>SV.moveV (by constructor) ?_) (fun hg1_3 hh1_3=>?_) (by decide)
 all_goals (first | refine Gy (z:=Np (z:=?_)) | refine Gn (z:=?_))
 all_goals (first | refine Gy (z:=Fa (z:=?_)) | refine Gn (z:=?_))
 all_goals (first | refine Gy (z:=Ld (z:=?_)) | refine Gn (z:=?_))
 all_goals (first | refine Gy (z:=Ei (z:=?_)) | refine Gn (z:=?_))
 all_goals (first | refine Co (Pt (z:=?_)) | refine Co (Pf (z:=?_)))
 all_goals refine Mv (z:=?_)
 all_goals (first | refine Gn (z:=?_) | refine WO.guardDT rfl rfl rfl (fun hg1_10 hh1_10=>SV.moveV (by constructor) ?_) (fun hg1_10 hh1_10=>?_) (by decide))
 all_goals (first | refine Gy (z:=Np (z:=?_)) | refine Gn (z:=?_))
 all_goals (first | refine Gy (z:=Fa (z:=?_)) | refine Gn (z:=?_))
 all_goals (first | refine Gy (z:=Ld (z:=?_)) | refine Gn (z:=?_))
 all_goals (first | refine Gy (z:=Ei (z:=?_)) | refine Gn (z:=?_))
 all_goals (first | refine Co (Pt (z:=?_)) | refine Co (Pf (z:=?_)))
 all_goals refine Av (z:=Nl ?_)
 all_goals (skip;refine WC.ret ?_;refine fin_one (e:=.ret) (v:=.bool _) rfl trivial rfl (Nat.le_refl _) hM ⟨?_,rfl⟩;simp [*])
theorem reset_sp {s:St} {H:Hp} {D:TD} {k ek:Nat} {v0:Value} {o1 o2 o3:Int} (hX:OwnX X) (hM:Models ro s H) (hT:TextH H D) (hk:H k=some (.row ek [.pointer (some ⟨D.t,0,none⟩),v0,.int .i64 o1,.int .i64 o2,.int .i64 o3]))
 (hd:D.t≠k∧D.c≠k∧D.f≠k∧D.w≠k∧D.l≠k∧D.m≠k) (hB:∀ ν o,D.B ν=some o→ν≠k) (hb:0≤D.b∧D.b≤1) :
 Sp X Try.prog ro 53 [.pointer (some ⟨k,0,none⟩)] s fun v H'=>v = .tuple #[]∧TextH H' D∧∃ K',StackH H' D K'∧K'.k=k∧K'.E=[(D.b,-1,false)]∧K'.op=0∧K'.em=0∧K'.is=0:=by
 obtain ⟨e,cc,cf,cw,cl,cm,ht⟩:=hT.t
 refine Bo hX Try.func53 Try.ntmps53 (z:=?_)
 refine WC.seq (Rg (Mv (z:=Mv (z:=Co (Np (z:=Co (Fa (z:=Co (Ld (z:=Co (Np (z:=Co (Fa (z:=Co (Ld (z:=?_))))))))))))))))
 refine WO.cons (SV.build rfl ?_) (by decide)
 refine Co (Bs (z:=fun a0_9 s0_9 hf0_9 hne0_9 hn0_9 hM0_9=>Co (Np (z:=Co (Fa (z:=WO.cons0 (Sv (z:=fun s0_12 hn0_12 hM0_12=>Nl ?_))))))))
 have hak:a0_9≠k:=(hne0_9 _ _ hk).symm
 have hT0:=hT.fresh (x:=.row 3 [.int .i64 D.b,.int .i64 (-1),.bool false]) hne0_9
 have hv0:SlO ((H.up a0_9 (.row 3 [.int .i64 D.b,.int .i64 (-1),.bool false]))) (.slice (some ⟨a0_9,0,none⟩) 1 1) 3 1 ([((D.b,-1,false):Ent3)].flatMap enc3):=
  .inr ⟨a0_9,1,_,rfl,Hp.up_same,rfl,Nat.le_refl _,rfl⟩
 have hk1:(((H.up a0_9 (.row 3 [.int .i64 D.b,.int .i64 (-1),.bool false]))).up k (.row ek [.pointer (some ⟨D.t,0,none⟩),.slice (some ⟨a0_9,0,none⟩) 1 1,.int .i64 o1,.int .i64 o2,.int .i64 o3])) k=some (.row ek [.pointer (some ⟨D.t,0,none⟩),.slice (some ⟨a0_9,0,none⟩) 1 1,.int .i64 o1,.int .i64 o2,.int .i64 o3]):=Hp.up_same
 change Models ro s0_12 (((H.up a0_9 (.row 3 [.int .i64 D.b,.int .i64 (-1),.bool false]))).up k (.row ek [.pointer (some ⟨D.t,0,none⟩),.slice (some ⟨a0_9,0,none⟩) 1 1,.int .i64 o1,.int .i64 o2,.int .i64 o3])) at hM0_12
 refine Rg (Mv (z:=Mv (z:=Mv (z:=Co (Np (z:=Co (Fa (z:=WO.cons0 (Sv (z:=fun s1_5 hn1_5 hM1_5=>Co (Np (z:=Co (Fa (z:=WO.cons0 (Sv (z:=fun s1_8 hn1_8 hM1_8=>Co (Np (z:=Co (Fa (z:=WO.cons0 (Sv (z:=fun s1_11 hn1_11 hM1_11=>Nl ?_))))))))))))))))))))))
 simp only [Hp.up_up] at hM1_11
 have hc:∀ x,(∃ o,H x=some o)→baseV (.slice (some ⟨a0_9,0,none⟩) 1 1)≠some x:=fun x ⟨o,h⟩ h2=>by cases h2;exact hne0_9 _ _ h rfl
 have hK0:StackH ((H.up a0_9 (.row 3 [.int .i64 D.b,.int .i64 (-1),.bool false])).up k (.row ek [.pointer (some ⟨D.t,0,none⟩),.slice (some ⟨a0_9,0,none⟩) 1 1,.int .i64 0,.int .i64 0,.int .i64 0])) D
  ⟨k,.slice (some ⟨a0_9,0,none⟩) 1 1,[(D.b,-1,false)],0,0,0⟩:=
  {k:=⟨ek,Hp.up_same⟩,v:=hv0.up (fun h=>by cases h;exact hak rfl),ne:=by simp,lv:=by intro x hx;simp only [List.mem_singleton] at hx;subst hx;dsimp only;omega,big:=by simp,tk:=hd
   tv:=⟨hc _ ⟨_,ht⟩,hc _ ⟨_,hT.c⟩,hc _ ⟨_,hT.f⟩,hc _ ⟨_,hT.w⟩,hc _ ⟨_,hT.l⟩,hc _ ⟨_,hT.m⟩,hc _ ⟨_,hk⟩⟩
   kB:=fun ν o e=>⟨hB ν o e,hc _ ⟨_,hT.kp ν o e⟩⟩ }
 have hT2:TextH ((H.up a0_9 (.row 3 [.int .i64 D.b,.int .i64 (-1),.bool false])).up k (.row ek [.pointer (some ⟨D.t,0,none⟩),.slice (some ⟨a0_9,0,none⟩) 1 1,.int .i64 0,.int .i64 0,.int .i64 0])) D:=by
  obtain ⟨e0,cc0,cf0,cw0,cl0,cm0,ht0⟩:=hT0.t
  obtain ⟨k1,k2,k3,k4,k5,k6⟩:=hd
  exact { hT0 with t:=⟨e0,cc0,cf0,cw0,cl0,cm0,Hp.up_ne k1 ht0⟩,c:=Hp.up_ne k2 hT0.c,f:=Hp.up_ne k3 hT0.f,w:=Hp.up_ne k4 hT0.w,l:=Hp.up_ne k5 hT0.l,m:=Hp.up_ne k6 hT0.m,kp:=fun ν o e=>Hp.up_ne (hB ν o e) (hT0.kp ν o e) }
 exact fin_none (e:=.normal) rfl trivial (by omega) hM1_11 ⟨rfl,hT2,_,hK0,rfl,rfl,rfl,rfl,rfl⟩
def StkPost (D:TD) (K:SK) (E:List Ent3) (op em is:Int) (H':Hp):Prop:=TextH H' D∧∃ K',StackH H' D K'∧K'.k=K.k∧K'.E=E∧K'.op=op∧K'.em=em∧K'.is=is
theorem push_post {H H':Hp} {D:TD} {K:SK} {e:Nat} {v':Value} {x:Ent3} (hT:TextH H D) (hK:StackH H D K) (hv:SlO H' v' 3 (K.E.length+1) (K.E.flatMap enc3++enc3 x)) (hkept:KeptBut H H' K.v) (hnew:NewOr H K.v v')
 (hx:0≤x.1∧x.1≤125) (hbig:K.E.length+1≤100000) {is:Int} :
 TextH (H'.up K.k (.row e [.pointer (some ⟨D.t,0,none⟩),v',.int .i64 K.op,.int .i64 K.em,.int .i64 is])) D ∧
 StackH (H'.up K.k (.row e [.pointer (some ⟨D.t,0,none⟩),v',.int .i64 K.op,.int .i64 K.em,.int .i64 is])) D ⟨K.k,v',K.E++[x],K.op,K.em,is⟩:=by
 obtain ⟨h1,h2,h3,h4,h5,h6,h7⟩:=hK.tv
 have hT1:=hT.keep hkept ⟨h1,h2,h3,h4,h5,h6⟩ (fun ν o e=>(hK.kB ν o e).2)
 obtain ⟨e1,cc,cf,cw,cl,cm,ht⟩:=hT1.t
 obtain ⟨k1,k2,k3,k4,k5,k6⟩:=hK.tk
 obtain ⟨ek,hk⟩:=hK.k
 have hvk:baseV v'≠some K.k:=fun h=>by
  rcases hnew _ h with e | e
  ·exact h7 e
  ·rw [hk] at e;cases e
 have hT2:TextH (H'.up K.k (.row e [.pointer (some ⟨D.t,0,none⟩),v',.int .i64 K.op,.int .i64 K.em,.int .i64 is])) D:=
  { hT1 with t:=⟨e1,cc,cf,cw,cl,cm,Hp.up_ne k1 ht⟩,c:=Hp.up_ne k2 hT1.c,f:=Hp.up_ne k3 hT1.f,w:=Hp.up_ne k4 hT1.w,l:=Hp.up_ne k5 hT1.l,m:=Hp.up_ne k6 hT1.m,kp:=fun ν o e=>Hp.up_ne (hK.kB ν o e).1 (hT1.kp ν o e) }
 refine ⟨hT2,hK.setV hT Hp.up_same ?_ hnew (by simp) (fun y hy=>?_) (by simpa using hbig)⟩
 ·have:=hv.up hvk (o:=.row e [.pointer (some ⟨D.t,0,none⟩),v',.int .i64 K.op,.int .i64 K.em,.int .i64 is])
  simpa [List.flatMap_append] using this
 ·rcases List.mem_append.mp hy with h | h
  ·exact hK.lv y h
  ·simp only [List.mem_singleton] at h;subst h;exact hx
def embOver (c:Int):Int:=if c=17 then 1 else if c=15 then 0 else -1
def embLevel (E:List Ent3) (c:Int):Int:=nextM (topM E).1 (decide (c=16∨c=17))
theorem StackH.fresh {H:Hp} {D:TD} {K:SK} {a:Nat} {x:Go.Ab.Obj} (h:StackH H D K) (hne:∀ ν o,H ν=some o→ν≠a):StackH (H.up a x) D K:=by
 obtain ⟨e,hk⟩:=h.k
 exact { h with k:=⟨e,Hp.up_ne (hne _ _ hk) hk⟩,v:=h.v.up (fun e=>by obtain ⟨o,ho⟩:=h.v.base_some e;exact hne _ _ ho rfl) }
theorem src3 {H:Hp} {a es c:Nat} {e:Ent3} (h:H a=some (.row es (enc3 e))):Src Try.prog ro H (.slice (some ⟨a,0,none⟩) 1 c) 3 1 (enc3 e):=
 Src.row h rfl rfl (fun i v hv=>by rw [Nat.zero_add];exact hv)
theorem embed_sp {s:St} {H:Hp} {D:TD} {K:SK} {c:Int} (hX:OwnX X) (hM:Models ro s H) (hT:TextH H D) (hK:StackH H D K) (hbig:K.E.length+1≤100000) (hem:0≤K.em∧K.em≤100000) :
 Sp X Try.prog ro 54 [.pointer (some ⟨K.k,0,none⟩),.int .i64 c] s fun v H'=>v = .tuple #[] ∧
  if embLevel K.E c≤125∧K.op=0∧K.em=0 then StkPost D K (K.E++[(embLevel K.E c,embOver c,false)]) K.op K.em K.is H'
  else StkPost D K K.E K.op (if K.op=0 then K.em+1 else K.em) K.is H':=by
 obtain ⟨ek,hk⟩:=hK.k
 have hlv:0≤(topM K.E).1∧(topM K.E).1≤125:=by
  obtain ⟨hj,h⟩:=top_at hK.ne
  rw [←h];exact hK.lv _ (List.getElem_mem _)
 refine Bo hX Try.func54 Try.ntmps54 (z:=?_)
 refine WC.seq (Rg (Mv (z:=Mv (z:=Co (Ei (z:=Mv (z:=?_)))))))
 refine WO.guardDF rfl rfl rfl (fun hg0_4 hh0_4=>SV.moveV (by constructor) ?_) (fun hg0_4 hh0_4=>?_) (by decide)
 all_goals (first | refine Gy (z:=Ei (z:=?_)) | refine Gn (z:=?_))
 all_goals (first | refine Co (Pt (z:=?_)) | refine Co (Pf (z:=?_)))
 all_goals refine Co ?_
 ·refine SV.callM rfl rfl (next_sp hX hM hK) ?_
  rintro v s1 H1 hn1 hM1 ⟨rfl,rfl⟩
  refine Av (z:=Nl (WC.seq (Rg (Av (z:=Nl (WC.seq (WC.seq (Rg (Mv (z:=Nl (WC.block (WC.seq (Rg (Co (Ei (z:=Av (z:=Nl ?_)))))))))))))))))
  refine WC.condD rfl (fun h17 h17b=>?_) (fun h17 h17b=>?_)
  ·skip
   refine Rg (Av (z:=Nl ?_))
   have eql:embLevel K.E c=nextM (topM K.E).1 (decide (c=17)):=by unfold embLevel;simp [*]
   have eqo:embOver c=1:=by unfold embOver;simp [*]
   refine WC.seq (Rg (Mv (z:=Mv (z:=Co ?_))))
   refine SV.callM rfl rfl (fits_sp hX hM1 hK) ?_
   rintro v s2 H2 hn2 hM2 ⟨rfl,rfl⟩
   refine Nl ?_
   refine WC.condD rfl (fun hf hfb=>?_) (fun hf hfb=>?_)
   ·skip
    refine Rg (Mv (z:=Mv (z:=Co (Np (z:=Co (Fa (z:=Co (Ld (z:=Mv (z:=Mv (z:=?_)))))))))))
    refine WO.cons (SV.build rfl ?_) (by decide)
    refine Co (Bs (z:=fun a8_8 s8_8 hf8_8 hne8_8 hn8_8 hM8_8=>Co ?_))
    have hT8:=hT.fresh (x:=.row 3 (enc3 (nextM (topM K.E).1 (decide (c=17)),1,false))) hne8_8
    have hK8:=hK.fresh (x:=.row 3 (enc3 (nextM (topM K.E).1 (decide (c=17)),1,false))) hne8_8
    refine SV.appendM (xs:=enc3 (nextM (topM K.E).1 (decide (c=17)),1,false)) rfl (by assumption) rfl rfl hK8.v (src3 Hp.up_same) rfl (by omega) (fun v8 s8 H8 hn8 hM8 hv8 hk8 hnew8 _=>?_)
    obtain ⟨ν8,c8,rfl⟩:=hv8.nonnil (by omega)
    obtain ⟨hT9,hK9⟩:=push_post (e:=ek) (x:=(nextM (topM K.E).1 (decide (c=17)),1,false)) (is:=K.is) hT8 hK8 hv8 hk8 hnew8 ⟨by dsimp only;unfold nextM;split <;> omega,hf.1⟩ hbig
    have hkk:=hk8 _ _ (Hp.up_ne (hne8_8 _ _ hk) hk) hK8.tv.2.2.2.2.2.2
    refine Co (Np (z:=Co (Fa (z:=WO.cons0 (Sv (z:=fun s8_12 hn8_12 hM8_12=>Nl ?_))))))
    refine fin_none (e:=.normal) rfl trivial (by omega) hM8_12 ⟨rfl,?_⟩
    rw [eql,eqo,if_pos hf]
    exact ⟨hT9,_,hK9,rfl,rfl,rfl,rfl,rfl⟩
   ·refine WC.seq (Rg (Mv (z:=Co (Np (z:=Co (Fa (z:=Co (Ld (z:=Co (Ei (z:=Nl ?_)))))))))))
    refine WC.condD rfl (fun h0 h0b=>?_) (fun h0 h0b=>?_)
    ·skip
     refine Rg (Mv (z:=Co (Np (z:=Co (Fa (z:=Co (Ld (z:=Co (Ad (z:=Co (Np (z:=Co (Fa (z:=WO.cons0 (Sv (z:=fun s10_7 hn10_7 hM10_7=>Nl ?_))))))))))))))))
     refine fin_none (e:=.normal) rfl trivial (by omega) hM10_7 ⟨rfl,?_⟩
     rw [eql,if_neg hf,if_pos h0]
     exact ⟨hK.text hT,_,hK.upk,rfl,rfl,rfl,rfl,rfl⟩
    ·refine WC.skip ?_
     refine fin_none (e:=.normal) rfl trivial (by omega) hM2 ⟨rfl,?_⟩
     rw [eql,if_neg hf,if_neg h0]
     exact ⟨hT,K,hK,rfl,rfl,rfl,rfl,rfl⟩
  ·refine WC.seq (Rg (Co (Ei (z:=Av (z:=Nl ?_)))))
   refine WC.condD rfl (fun h15 h15b=>?_) (fun h15 h15b=>?_)
   ·skip
    refine Rg (Av (z:=Nl ?_))
    have eql:embLevel K.E c=nextM (topM K.E).1 (decide (c=17)):=by unfold embLevel;simp [*]
    have eqo:embOver c=0:=by unfold embOver;simp [*]
    refine WC.seq (Rg (Mv (z:=Mv (z:=Co ?_))))
    refine SV.callM rfl rfl (fits_sp hX hM1 hK) ?_
    rintro v s2 H2 hn2 hM2 ⟨rfl,rfl⟩
    refine Nl ?_
    refine WC.condD rfl (fun hf hfb=>?_) (fun hf hfb=>?_)
    ·skip
     refine Rg (Mv (z:=Mv (z:=Co (Np (z:=Co (Fa (z:=Co (Ld (z:=Mv (z:=Mv (z:=?_)))))))))))
     refine WO.cons (SV.build rfl ?_) (by decide)
     refine Co (Bs (z:=fun a8_8 s8_8 hf8_8 hne8_8 hn8_8 hM8_8=>Co ?_))
     have hT8:=hT.fresh (x:=.row 3 (enc3 (nextM (topM K.E).1 (decide (c=17)),0,false))) hne8_8
     have hK8:=hK.fresh (x:=.row 3 (enc3 (nextM (topM K.E).1 (decide (c=17)),0,false))) hne8_8
     refine SV.appendM (xs:=enc3 (nextM (topM K.E).1 (decide (c=17)),0,false)) rfl (by assumption) rfl rfl hK8.v (src3 Hp.up_same) rfl (by omega) (fun v8 s8 H8 hn8 hM8 hv8 hk8 hnew8 _=>?_)
     obtain ⟨ν8,c8,rfl⟩:=hv8.nonnil (by omega)
     obtain ⟨hT9,hK9⟩:=push_post (e:=ek) (x:=(nextM (topM K.E).1 (decide (c=17)),0,false)) (is:=K.is) hT8 hK8 hv8 hk8 hnew8 ⟨by dsimp only;unfold nextM;split <;> omega,hf.1⟩ hbig
     have hkk:=hk8 _ _ (Hp.up_ne (hne8_8 _ _ hk) hk) hK8.tv.2.2.2.2.2.2
     refine Co (Np (z:=Co (Fa (z:=WO.cons0 (Sv (z:=fun s8_12 hn8_12 hM8_12=>Nl ?_))))))
     refine fin_none (e:=.normal) rfl trivial (by omega) hM8_12 ⟨rfl,?_⟩
     rw [eql,eqo,if_pos hf]
     exact ⟨hT9,_,hK9,rfl,rfl,rfl,rfl,rfl⟩
    ·refine WC.seq (Rg (Mv (z:=Co (Np (z:=Co (Fa (z:=Co (Ld (z:=Co (Ei (z:=Nl ?_)))))))))))
     refine WC.condD rfl (fun h0 h0b=>?_) (fun h0 h0b=>?_)
     ·skip
      refine Rg (Mv (z:=Co (Np (z:=Co (Fa (z:=Co (Ld (z:=Co (Ad (z:=Co (Np (z:=Co (Fa (z:=WO.cons0 (Sv (z:=fun s10_7 hn10_7 hM10_7=>Nl ?_))))))))))))))))
      refine fin_none (e:=.normal) rfl trivial (by omega) hM10_7 ⟨rfl,?_⟩
      rw [eql,if_neg hf,if_pos h0]
      exact ⟨hK.text hT,_,hK.upk,rfl,rfl,rfl,rfl,rfl⟩
     ·refine WC.skip ?_
      refine fin_none (e:=.normal) rfl trivial (by omega) hM2 ⟨rfl,?_⟩
      rw [eql,if_neg hf,if_neg h0]
      exact ⟨hT,K,hK,rfl,rfl,rfl,rfl,rfl⟩
   ·refine WC.skip (WC.seq ?_)
    have eql:embLevel K.E c=nextM (topM K.E).1 (decide (c=17)):=by unfold embLevel;simp [*]
    have eqo:embOver c = -1:=by unfold embOver;simp [*]
    refine Rg (Mv (z:=Mv (z:=Co ?_)))
    refine SV.callM rfl rfl (fits_sp hX hM1 hK) ?_
    rintro v s2 H2 hn2 hM2 ⟨rfl,rfl⟩
    refine Nl ?_
    refine WC.condD rfl (fun hf hfb=>?_) (fun hf hfb=>?_)
    ·skip
     refine Rg (Mv (z:=Mv (z:=Co (Np (z:=Co (Fa (z:=Co (Ld (z:=Mv (z:=Mv (z:=?_)))))))))))
     refine WO.cons (SV.build rfl ?_) (by decide)
     refine Co (Bs (z:=fun a8_8 s8_8 hf8_8 hne8_8 hn8_8 hM8_8=>Co ?_))
     have hT8:=hT.fresh (x:=.row 3 (enc3 (nextM (topM K.E).1 (decide (c=17)),-1,false))) hne8_8
     have hK8:=hK.fresh (x:=.row 3 (enc3 (nextM (topM K.E).1 (decide (c=17)),-1,false))) hne8_8
     refine SV.appendM (xs:=enc3 (nextM (topM K.E).1 (decide (c=17)),-1,false)) rfl (by assumption) rfl rfl hK8.v (src3 Hp.up_same) rfl (by omega) (fun v8 s8 H8 hn8 hM8 hv8 hk8 hnew8 _=>?_)
     obtain ⟨ν8,c8,rfl⟩:=hv8.nonnil (by omega)
     obtain ⟨hT9,hK9⟩:=push_post (e:=ek) (x:=(nextM (topM K.E).1 (decide (c=17)),-1,false)) (is:=K.is) hT8 hK8 hv8 hk8 hnew8 ⟨by dsimp only;unfold nextM;split <;> omega,hf.1⟩ hbig
     have hkk:=hk8 _ _ (Hp.up_ne (hne8_8 _ _ hk) hk) hK8.tv.2.2.2.2.2.2
     refine Co (Np (z:=Co (Fa (z:=WO.cons0 (Sv (z:=fun s8_12 hn8_12 hM8_12=>Nl ?_))))))
     refine fin_none (e:=.normal) rfl trivial (by omega) hM8_12 ⟨rfl,?_⟩
     rw [eql,eqo,if_pos hf]
     exact ⟨hT9,_,hK9,rfl,rfl,rfl,rfl,rfl⟩
    ·refine WC.seq (Rg (Mv (z:=Co (Np (z:=Co (Fa (z:=Co (Ld (z:=Co (Ei (z:=Nl ?_)))))))))))
     refine WC.condD rfl (fun h0 h0b=>?_) (fun h0 h0b=>?_)
     ·skip
      refine Rg (Mv (z:=Co (Np (z:=Co (Fa (z:=Co (Ld (z:=Co (Ad (z:=Co (Np (z:=Co (Fa (z:=WO.cons0 (Sv (z:=fun s10_7 hn10_7 hM10_7=>Nl ?_))))))))))))))))
      refine fin_none (e:=.normal) rfl trivial (by omega) hM10_7 ⟨rfl,?_⟩
      rw [eql,if_neg hf,if_pos h0]
      exact ⟨hK.text hT,_,hK.upk,rfl,rfl,rfl,rfl,rfl⟩
     ·refine WC.skip ?_
      refine fin_none (e:=.normal) rfl trivial (by omega) hM2 ⟨rfl,?_⟩
      rw [eql,if_neg hf,if_neg h0]
      exact ⟨hT,K,hK,rfl,rfl,rfl,rfl,rfl⟩
 ·refine SV.callM rfl rfl (next_sp hX hM hK) ?_
  rintro v s1 H1 hn1 hM1 ⟨rfl,rfl⟩
  refine Av (z:=Nl (WC.seq (Rg (Av (z:=Nl (WC.seq (WC.seq (Rg (Mv (z:=Nl (WC.block (WC.seq (Rg (Co (Ei (z:=Av (z:=Nl ?_)))))))))))))))))
  refine WC.condD rfl (fun h17 h17b=>?_) (fun h17 h17b=>?_)
  ·exfalso;omega
  ·refine WC.seq (Rg (Co (Ei (z:=Av (z:=Nl ?_)))))
   refine WC.condD rfl (fun h15 h15b=>?_) (fun h15 h15b=>?_)
   ·exfalso;omega
   ·refine WC.skip (WC.seq ?_)
    have eql:embLevel K.E c=nextM (topM K.E).1 (true):=by unfold embLevel;simp [*]
    have eqo:embOver c = -1:=by unfold embOver;simp [*]
    refine Rg (Mv (z:=Mv (z:=Co ?_)))
    refine SV.callM rfl rfl (fits_sp hX hM1 hK) ?_
    rintro v s2 H2 hn2 hM2 ⟨rfl,rfl⟩
    refine Nl ?_
    refine WC.condD rfl (fun hf hfb=>?_) (fun hf hfb=>?_)
    ·skip
     refine Rg (Mv (z:=Mv (z:=Co (Np (z:=Co (Fa (z:=Co (Ld (z:=Mv (z:=Mv (z:=?_)))))))))))
     refine WO.cons (SV.build rfl ?_) (by decide)
     refine Co (Bs (z:=fun a8_8 s8_8 hf8_8 hne8_8 hn8_8 hM8_8=>Co ?_))
     have hT8:=hT.fresh (x:=.row 3 (enc3 (nextM (topM K.E).1 (true),-1,false))) hne8_8
     have hK8:=hK.fresh (x:=.row 3 (enc3 (nextM (topM K.E).1 (true),-1,false))) hne8_8
     refine SV.appendM (xs:=enc3 (nextM (topM K.E).1 (true),-1,false)) rfl (by assumption) rfl rfl hK8.v (src3 Hp.up_same) rfl (by omega) (fun v8 s8 H8 hn8 hM8 hv8 hk8 hnew8 _=>?_)
     obtain ⟨ν8,c8,rfl⟩:=hv8.nonnil (by omega)
     obtain ⟨hT9,hK9⟩:=push_post (e:=ek) (x:=(nextM (topM K.E).1 (true),-1,false)) (is:=K.is) hT8 hK8 hv8 hk8 hnew8 ⟨by dsimp only;unfold nextM;split <;> omega,hf.1⟩ hbig
     have hkk:=hk8 _ _ (Hp.up_ne (hne8_8 _ _ hk) hk) hK8.tv.2.2.2.2.2.2
     refine Co (Np (z:=Co (Fa (z:=WO.cons0 (Sv (z:=fun s8_12 hn8_12 hM8_12=>Nl ?_))))))
     refine fin_none (e:=.normal) rfl trivial (by omega) hM8_12 ⟨rfl,?_⟩
     rw [eql,eqo,if_pos hf]
     exact ⟨hT9,_,hK9,rfl,rfl,rfl,rfl,rfl⟩
    ·refine WC.seq (Rg (Mv (z:=Co (Np (z:=Co (Fa (z:=Co (Ld (z:=Co (Ei (z:=Nl ?_)))))))))))
     refine WC.condD rfl (fun h0 h0b=>?_) (fun h0 h0b=>?_)
     ·skip
      refine Rg (Mv (z:=Co (Np (z:=Co (Fa (z:=Co (Ld (z:=Co (Ad (z:=Co (Np (z:=Co (Fa (z:=WO.cons0 (Sv (z:=fun s10_7 hn10_7 hM10_7=>Nl ?_))))))))))))))))
      refine fin_none (e:=.normal) rfl trivial (by omega) hM10_7 ⟨rfl,?_⟩
      rw [eql,if_neg hf,if_pos h0]
      exact ⟨hK.text hT,_,hK.upk,rfl,rfl,rfl,rfl,rfl⟩
     ·refine WC.skip ?_
      refine fin_none (e:=.normal) rfl trivial (by omega) hM2 ⟨rfl,?_⟩
      rw [eql,if_neg hf,if_neg h0]
      exact ⟨hT,K,hK,rfl,rfl,rfl,rfl,rfl⟩
theorem StkPost.of {H:Hp} {D:TD} {K:SK} (hT:TextH H D) (hK:StackH H D K):StkPost D K K.E K.op K.em K.is H:=⟨hT,K,hK,rfl,rfl,rfl,rfl,rfl⟩
theorem top_lv {H:Hp} {D:TD} {K:SK} (hK:StackH H D K):0≤(topM K.E).1∧(topM K.E).1≤125:=by
 obtain ⟨hj,h⟩:=top_at hK.ne
 rw [←h];exact hK.lv _ (List.getElem_mem _)
theorem plainN_length {t:Ent3} {N:List Int} {i:Int}:(plainN t N i).length=N.length:=by
 unfold plainN;split
 ·exact List.length_set
 ·rfl
theorem plainL_length {t:Ent3} {L:List Int} {i:Int}:(plainL t L i).length=L.length:=List.length_set
def plainD (D:TD) (t:Ent3) (i:Int):TD:={ D with L:=plainL t D.L i,N:=plainN t D.N i }
theorem plain_sp' {s:St} {H:Hp} {D:TD} {K:SK} {i:Int} (hX:OwnX X) (hM:Models ro s H) (hT:TextH H D) (hK:StackH H D K) (h0:0≤i∧i<D.n) :
 Sp X Try.prog ro 58 [.pointer (some ⟨K.k,0,none⟩),.int .i64 i] s fun v H'=>v = .tuple #[]∧TextH H' (plainD D (topM K.E) i)∧StackH H' (plainD D (topM K.E) i) K:=
 (plain_sp hX hM hT hK h0).mono fun v H' h=>by
  obtain ⟨h1,rfl⟩:=h
  exact ⟨h1,(hT.setL (plainL_length.trans hT.nL)).setN (plainN_length.trans hT.nN),(hK.setL (L':=plainL (topM K.E) D.L i)).setN (N':=plainN (topM K.E) D.N i)⟩
theorem base_sp' {s:St} {H:Hp} {f m cf cm n:Nat} {F M:List Int} {a b:Int} (hX:OwnX X) (hM:Models ro s H) (hf:H f=some (.row 1 (F.map (.int .i64)))) (hm:H m=some (.row 1 (M.map (.int .i64))))
 (hF:F.length=n) (hMl:M.length=n) (hbig:n≤16384) (hok:MatchOk F M) (h0:0≤a∧a≤n∧b≤n) :
 Sp X Try.prog ro 37 [.slice (some ⟨f,0,none⟩) n cf,.slice (some ⟨m,0,none⟩) n cm,.int .i64 a,.int .i64 b] s fun v H'=>v = .int .i64 (baseM F M b (F.length+1) a)∧H'=H:=by
 subst hF
 have:=base_sp (cf:=cf) (cm:=cm) (a:=a) (b:=b) hX hM hf hm hMl hbig hok h0
 rwa [hMl] at this
def openOdd (D:TD) (i c:Int):Bool:=if c=21 then decide (baseM D.F D.M (if rd D.M i<0 then D.F.length else rd D.M i) (D.F.length+1) (i+1)=1) else decide (c=20)
def openLevel (D:TD) (E:List Ent3) (i c:Int):Int:=nextM (topM E).1 (openOdd D i c)
set_option maxHeartbeats 4000000 in
theorem open_sp {s:St} {H:Hp} {D:TD} {K:SK} {i c:Int} (hX:OwnX X) (hM:Models ro s H) (hT:TextH H D) (hK:StackH H D K) (h0:0≤i∧i<D.n) (hop:isOpener (rd D.F i)) (hok:MatchOk D.F D.M)
 (hbig:K.E.length+1≤100000) (hiso:0≤K.is∧K.is≤100000∧0≤K.op∧K.op≤100000) :
 Sp X Try.prog ro 55 [.pointer (some ⟨K.k,0,none⟩),.int .i64 i,.int .i64 c] s fun v H'=>v = .tuple #[] ∧
  if openLevel D K.E i c≤125∧K.op=0∧K.em=0 then StkPost (plainD D (topM K.E) i) K (K.E++[(openLevel D K.E i c,-1,true)]) K.op K.em (K.is+1) H'
  else StkPost (plainD D (topM K.E) i) K K.E (K.op+1) K.em K.is H':=by
 have hm:=hok i h0.1 (by rw [hT.nF];exact h0.2) hop
 have hnF:=hT.nF
 have hnM:=hT.nM
 have hbg:=hT.big
 have hlv:=top_lv hK
 refine Bo hX Try.func55 Try.ntmps55 (z:=?_)
 refine WC.seq (Rg (Mv (z:=Mv (z:=Co ?_))))
 refine SV.callM rfl rfl (plain_sp' hX hM hT hK h0) ?_
 rintro v s1 H1 hn1 hM1 ⟨rfl,hT1,hK1⟩
 clear hT hK hM
 have hT:=hT1
 have hK:=hK1
 obtain ⟨e,cc,cf,cw,cl,cm,ht⟩:=hT1.t
 obtain ⟨ek,hk⟩:=hK1.k
 have hmm:=hT1.m
 have hff:=hT1.f
 dsimp only [plainD] at ht hk hmm hff
 clear hT1 hK1
 refine Nl (WC.seq (Rg (Mv (z:=Co (Ei (z:=Av (z:=Nl (WC.seq (WC.seq (Rg (Mv (z:=Co (Ei (z:=Nl ?_))))))))))))))
 refine WC.condD rfl (fun h21 h21b=>?_) (fun h21 h21b=>?_)
 ·refine WC.seq (Rg (Mv (z:=Co (Np (z:=Co (Fa (z:=Co (Ld (z:=Co (Np (z:=Co (Fa (z:=Co (Ld (z:=Mv (z:=Co (Ix (z:=Co (Ld (z:=Av (z:=Nl ?_)))))))))))))))))))))
  have hm2:=hm
  refine WC.seq (WC.seq (Rg (Mv (z:=Co (Lt (z:=Nl ?_))))))
  refine WC.condD rfl (fun hneg hnegb=>?_) (fun hneg hnegb=>?_)
  ·skip
   refine Rg (Mv (z:=Co (Np (z:=Co (Fa (z:=Co (Ld (z:=Co (Np (z:=Co (Fa (z:=Co (Ld (z:=Co (Ln (z:=Av (z:=Nl (WC.dr [0,1,2,3,4,5,6,7,8,9,10,11,12,13,14,15,16,17,18,19] (z:=Mw (z:=Cd (Np (z:=Cd (Fa (z:=Cd (Ld (z:=Cd (Np (z:=Cd (Fa (z:=Cd (Ld (z:=Mw (z:=Cd (Np (z:=Cd (Fa (z:=Cd (Ld (z:=Cd (Np (z:=Cd (Fa (z:=Cd (Ld (z:=Mw (z:=Cd (Ad (z:=Mw (z:=Cd ?_)))))))))))))))))))))))))))))))))))))))))))))))))
   refine SV.callM rfl rfl (base_sp' hX hM1 hff hmm hnF hnM hbg hok ⟨by omega,by omega,by omega⟩) ?_
   rintro v s2 H2 hn2 hM2 ⟨rfl,rfl⟩
   refine Cd (Ei (z:=Aw (z:=Nz ?_)))
   have eql:openLevel D K.E i c=nextM (topM K.E).1 (decide (baseM D.F D.M D.n (D.F.length+1) (i+1)=1)):=by unfold openLevel openOdd;simp [*]
   refine WC.seq (Rg (Mv (z:=Mv (z:=Co ?_))))
   refine SV.callM rfl rfl (next_sp hX hM2 hK) ?_
   rintro v s7 H7 hn7 hM7 ⟨rfl,rfl⟩
   refine Av (z:=Nl (WC.seq (Rg (Mv (z:=Mv (z:=Co ?_))))))
   refine SV.callM rfl rfl (fits_sp hX hM7 hK) ?_
   rintro v s8 H8 hn8 hM8 ⟨rfl,rfl⟩
   refine Nl ?_
   refine WC.condD rfl (fun hf hfb=>?_) (fun hf hfb=>?_)
   ·refine WC.seq (Rg (Mv (z:=Mv (z:=Co (Np (z:=Co (Fa (z:=Co (Ld (z:=Mv (z:=?_)))))))))))
    refine WO.cons (SV.build rfl ?_) (by decide)
    refine Co (Bs (z:=fun a9_7 s9_7 hf9_7 hne9_7 hn9_7 hM9_7=>Co ?_))
    have hT8:=hT.fresh (x:=.row 3 (enc3 (nextM (topM K.E).1 (decide (baseM D.F D.M D.n (D.F.length+1) (i+1)=1)),-1,true))) hne9_7
    have hK8:=hK.fresh (x:=.row 3 (enc3 (nextM (topM K.E).1 (decide (baseM D.F D.M D.n (D.F.length+1) (i+1)=1)),-1,true))) hne9_7
    refine SV.appendM (xs:=enc3 (nextM (topM K.E).1 (decide (baseM D.F D.M D.n (D.F.length+1) (i+1)=1)),-1,true)) rfl (by assumption) rfl rfl hK8.v (src3 Hp.up_same) rfl (by omega) (fun v9 s9 H9 hn9 hM9 hv9 hk9 hnew9 _=>?_)
    obtain ⟨ν9,c9,rfl⟩:=hv9.nonnil (by omega)
    obtain ⟨hT9,hK9⟩:=push_post (e:=ek) (x:=(nextM (topM K.E).1 (decide (baseM D.F D.M D.n (D.F.length+1) (i+1)=1)),-1,true)) (is:=K.is+1) hT8 hK8 hv9 hk9 hnew9 ⟨by dsimp only;unfold nextM;split <;> omega,hf.1⟩ hbig
    have hkk:=hk9 _ _ (Hp.up_ne (hne9_7 _ _ hk) hk) hK8.tv.2.2.2.2.2.2
    refine Co (Np (z:=Co (Fa (z:=WO.cons0 (Sv (z:=fun s9_11 hn9_11 hM9_11=>Nl (Rg (Mv (z:=Co (Np (z:=Co (Fa (z:=Co (Ld (z:=Co (Ad (z:=Co (Np (z:=Co (Fa (z:=WO.cons0 (Sv (z:=fun s10_7 hn10_7 hM10_7=>Nl ?_)))))))))))))))))))))))
    simp only [Hp.up_up] at hM10_7
    refine fin_none (e:=.normal) rfl trivial (by omega) hM10_7 ⟨rfl,?_⟩
    rw [eql,if_pos hf]
    exact ⟨hT9,_,hK9,rfl,rfl,rfl,rfl,rfl⟩
   ·skip
    refine Rg (Mv (z:=Co (Np (z:=Co (Fa (z:=Co (Ld (z:=Co (Ad (z:=Co (Np (z:=Co (Fa (z:=WO.cons0 (Sv (z:=fun s11_7 hn11_7 hM11_7=>Nl ?_))))))))))))))))
    refine fin_none (e:=.normal) rfl trivial (by omega) hM11_7 ⟨rfl,?_⟩
    rw [eql,if_neg hf]
    exact ⟨hK.text hT,_,hK.upk,rfl,rfl,rfl,rfl,rfl⟩
  ·refine WC.skip (WC.dr [0,1,2,3,4,5,6,7,8,9,10,11,12,13,14,15,16,17,18,19] (z:=Mw (z:=Cd (Np (z:=Cd (Fa (z:=Cd (Ld (z:=Cd (Np (z:=Cd (Fa (z:=Cd (Ld (z:=Mw (z:=Cd (Np (z:=Cd (Fa (z:=Cd (Ld (z:=Cd (Np (z:=Cd (Fa (z:=Cd (Ld (z:=Mw (z:=Cd (Ad (z:=Mw (z:=Cd ?_))))))))))))))))))))))))))))))))
   refine SV.callM rfl rfl (base_sp' hX hM1 hff hmm hnF hnM hbg hok ⟨by omega,by omega,by omega⟩) ?_
   rintro v s2 H2 hn2 hM2 ⟨rfl,rfl⟩
   refine Cd (Ei (z:=Aw (z:=Nz ?_)))
   have eql:openLevel D K.E i c=nextM (topM K.E).1 (decide (baseM D.F D.M (rd D.M i) (D.F.length+1) (i+1)=1)):=by unfold openLevel openOdd;simp [*]
   refine WC.seq (Rg (Mv (z:=Mv (z:=Co ?_))))
   refine SV.callM rfl rfl (next_sp hX hM2 hK) ?_
   rintro v s7 H7 hn7 hM7 ⟨rfl,rfl⟩
   refine Av (z:=Nl (WC.seq (Rg (Mv (z:=Mv (z:=Co ?_))))))
   refine SV.callM rfl rfl (fits_sp hX hM7 hK) ?_
   rintro v s8 H8 hn8 hM8 ⟨rfl,rfl⟩
   refine Nl ?_
   refine WC.condD rfl (fun hf hfb=>?_) (fun hf hfb=>?_)
   ·refine WC.seq (Rg (Mv (z:=Mv (z:=Co (Np (z:=Co (Fa (z:=Co (Ld (z:=Mv (z:=?_)))))))))))
    refine WO.cons (SV.build rfl ?_) (by decide)
    refine Co (Bs (z:=fun a9_7 s9_7 hf9_7 hne9_7 hn9_7 hM9_7=>Co ?_))
    have hT8:=hT.fresh (x:=.row 3 (enc3 (nextM (topM K.E).1 (decide (baseM D.F D.M (rd D.M i) (D.F.length+1) (i+1)=1)),-1,true))) hne9_7
    have hK8:=hK.fresh (x:=.row 3 (enc3 (nextM (topM K.E).1 (decide (baseM D.F D.M (rd D.M i) (D.F.length+1) (i+1)=1)),-1,true))) hne9_7
    refine SV.appendM (xs:=enc3 (nextM (topM K.E).1 (decide (baseM D.F D.M (rd D.M i) (D.F.length+1) (i+1)=1)),-1,true)) rfl (by assumption) rfl rfl hK8.v (src3 Hp.up_same) rfl (by omega) (fun v9 s9 H9 hn9 hM9 hv9 hk9 hnew9 _=>?_)
    obtain ⟨ν9,c9,rfl⟩:=hv9.nonnil (by omega)
    obtain ⟨hT9,hK9⟩:=push_post (e:=ek) (x:=(nextM (topM K.E).1 (decide (baseM D.F D.M (rd D.M i) (D.F.length+1) (i+1)=1)),-1,true)) (is:=K.is+1) hT8 hK8 hv9 hk9 hnew9 ⟨by dsimp only;unfold nextM;split <;> omega,hf.1⟩ hbig
    have hkk:=hk9 _ _ (Hp.up_ne (hne9_7 _ _ hk) hk) hK8.tv.2.2.2.2.2.2
    refine Co (Np (z:=Co (Fa (z:=WO.cons0 (Sv (z:=fun s9_11 hn9_11 hM9_11=>Nl (Rg (Mv (z:=Co (Np (z:=Co (Fa (z:=Co (Ld (z:=Co (Ad (z:=Co (Np (z:=Co (Fa (z:=WO.cons0 (Sv (z:=fun s10_7 hn10_7 hM10_7=>Nl ?_)))))))))))))))))))))))
    simp only [Hp.up_up] at hM10_7
    refine fin_none (e:=.normal) rfl trivial (by omega) hM10_7 ⟨rfl,?_⟩
    rw [eql,if_pos hf]
    exact ⟨hT9,_,hK9,rfl,rfl,rfl,rfl,rfl⟩
   ·skip
    refine Rg (Mv (z:=Co (Np (z:=Co (Fa (z:=Co (Ld (z:=Co (Ad (z:=Co (Np (z:=Co (Fa (z:=WO.cons0 (Sv (z:=fun s11_7 hn11_7 hM11_7=>Nl ?_))))))))))))))))
    refine fin_none (e:=.normal) rfl trivial (by omega) hM11_7 ⟨rfl,?_⟩
    rw [eql,if_neg hf]
    exact ⟨hK.text hT,_,hK.upk,rfl,rfl,rfl,rfl,rfl⟩
 ·refine WC.skip (WC.seq ?_)
  have eql:openLevel D K.E i c=nextM (topM K.E).1 (decide (c=20)):=by unfold openLevel openOdd;simp [*]
  refine Rg (Mv (z:=Mv (z:=Co ?_)))
  refine SV.callM rfl rfl (next_sp hX hM1 hK) ?_
  rintro v s7 H7 hn7 hM7 ⟨rfl,rfl⟩
  refine Av (z:=Nl (WC.seq (Rg (Mv (z:=Mv (z:=Co ?_))))))
  refine SV.callM rfl rfl (fits_sp hX hM7 hK) ?_
  rintro v s8 H8 hn8 hM8 ⟨rfl,rfl⟩
  refine Nl ?_
  refine WC.condD rfl (fun hf hfb=>?_) (fun hf hfb=>?_)
  ·refine WC.seq (Rg (Mv (z:=Mv (z:=Co (Np (z:=Co (Fa (z:=Co (Ld (z:=Mv (z:=?_)))))))))))
   refine WO.cons (SV.build rfl ?_) (by decide)
   refine Co (Bs (z:=fun a9_7 s9_7 hf9_7 hne9_7 hn9_7 hM9_7=>Co ?_))
   have hT8:=hT.fresh (x:=.row 3 (enc3 (nextM (topM K.E).1 (decide (c=20)),-1,true))) hne9_7
   have hK8:=hK.fresh (x:=.row 3 (enc3 (nextM (topM K.E).1 (decide (c=20)),-1,true))) hne9_7
   refine SV.appendM (xs:=enc3 (nextM (topM K.E).1 (decide (c=20)),-1,true)) rfl (by assumption) rfl rfl hK8.v (src3 Hp.up_same) rfl (by omega) (fun v9 s9 H9 hn9 hM9 hv9 hk9 hnew9 _=>?_)
   obtain ⟨ν9,c9,rfl⟩:=hv9.nonnil (by omega)
   obtain ⟨hT9,hK9⟩:=push_post (e:=ek) (x:=(nextM (topM K.E).1 (decide (c=20)),-1,true)) (is:=K.is+1) hT8 hK8 hv9 hk9 hnew9 ⟨by dsimp only;unfold nextM;split <;> omega,hf.1⟩ hbig
   have hkk:=hk9 _ _ (Hp.up_ne (hne9_7 _ _ hk) hk) hK8.tv.2.2.2.2.2.2
   refine Co (Np (z:=Co (Fa (z:=WO.cons0 (Sv (z:=fun s9_11 hn9_11 hM9_11=>Nl (Rg (Mv (z:=Co (Np (z:=Co (Fa (z:=Co (Ld (z:=Co (Ad (z:=Co (Np (z:=Co (Fa (z:=WO.cons0 (Sv (z:=fun s10_7 hn10_7 hM10_7=>Nl ?_)))))))))))))))))))))))
   simp only [Hp.up_up] at hM10_7
   refine fin_none (e:=.normal) rfl trivial (by omega) hM10_7 ⟨rfl,?_⟩
   rw [eql,if_pos hf]
   exact ⟨hT9,_,hK9,rfl,rfl,rfl,rfl,rfl⟩
  ·skip
   refine Rg (Mv (z:=Co (Np (z:=Co (Fa (z:=Co (Ld (z:=Co (Ad (z:=Co (Np (z:=Co (Fa (z:=WO.cons0 (Sv (z:=fun s11_7 hn11_7 hM11_7=>Nl ?_))))))))))))))))
   refine fin_none (e:=.normal) rfl trivial (by omega) hM11_7 ⟨rfl,?_⟩
   rw [eql,if_neg hf]
   exact ⟨hK.text hT,_,hK.upk,rfl,rfl,rfl,rfl,rfl⟩
def IsoOk (E:List Ent3) (is:Int):Prop:=∃ b rest,E=b::rest∧b.2.2=false∧is=(rest.countP (fun e=>e.2.2):Nat)
theorem dropLast_snoc {E:List Ent3} (h:E≠[]):E.dropLast++[topM E]=E:=by
 obtain ⟨hj,ht⟩:=top_at h
 conv=>rhs;rw [←List.dropLast_concat_getLast h]
 rw [List.getLast_eq_getElem,ht]
theorem IsoOk.pop {E:List Ent3} {is:Int} (h:IsoOk E is) (hp:0<is):E.dropLast≠[]∧IsoOk E.dropLast (if (topM E).2.2=true then is-1 else is):=by
 obtain ⟨b,rest,rfl,hb,hi⟩:=h
 have hr:rest≠[]:=fun e=>by subst e;simp at hi;omega
 have e1:(b::rest).dropLast=b::rest.dropLast:=List.dropLast_cons_of_ne_nil hr
 have e2:topM (b::rest)=topM rest:=by unfold topM;cases rest with | nil=>exact absurd rfl hr | cons x y=>rw [List.getLast?_cons_cons]
 have e3:=dropLast_snoc hr
 rw [e1,e2]
 refine ⟨by simp,b,rest.dropLast,rfl,hb,?_⟩
 have e4:rest.countP (fun e=>e.2.2)=rest.dropLast.countP (fun e=>e.2.2)+(if (topM rest).2.2=true then 1 else 0):=by
  conv=>lhs;rw [←e3]
  rw [List.countP_append,List.countP_singleton]
 rw [hi,e4]
 split <;> simp
theorem IsoOk.pop1 {E:List Ent3} {is:Int} (h:IsoOk E is) (hl:1<E.length) (ht:(topM E).2.2=false):E.dropLast≠[]∧IsoOk E.dropLast is:=by
 obtain ⟨b,rest,rfl,hb,hi⟩:=h
 have hr:rest≠[]:=fun e=>by subst e;simp at hl
 have e1:(b::rest).dropLast=b::rest.dropLast:=List.dropLast_cons_of_ne_nil hr
 have e2:topM (b::rest)=topM rest:=by unfold topM;cases rest with | nil=>exact absurd rfl hr | cons x y=>rw [List.getLast?_cons_cons]
 have e3:=dropLast_snoc hr
 rw [e2] at ht
 rw [e1]
 refine ⟨by simp,b,rest.dropLast,rfl,hb,?_⟩
 rw [hi]
 conv=>lhs;rw [←e3]
 rw [List.countP_append,List.countP_singleton,ht];simp
theorem IsoOk.push {E:List Ent3} {is:Int} (h:IsoOk E is) (x:Ent3):IsoOk (E++[x]) (if x.2.2=true then is+1 else is):=by
 obtain ⟨b,rest,rfl,hb,hi⟩:=h
 refine ⟨b,rest++[x],rfl,hb,?_⟩
 rw [hi,List.countP_append,List.countP_singleton]
 split <;> simp
theorem IsoOk.nonneg {E:List Ent3} {is:Int} (h:IsoOk E is):0≤is∧is<E.length:=by
 obtain ⟨b,rest,rfl,hb,hi⟩:=h
 have:=List.countP_le_length (p:=fun e:Ent3=>e.2.2) (l:=rest)
 simp only [List.length_cons]
 omega
def popIso:Nat→List Ent3→List Ent3
 | 0,E=>E
 | r+1,E=>if (topM E).2.2=true then E.dropLast else popIso r E.dropLast
theorem pop_post {H:Hp} {D:TD} {K:SK} {e:Nat} {v':Value} {op em is:Int} (hT:TextH H D) (hK:StackH H D K) (hv:SlO H v' 3 (K.E.length-1) ((K.E.flatMap enc3).take ((K.E.length-1)*3))) (hb:baseV v'=baseV K.v) (hne:K.E.dropLast≠[]) :
 TextH (H.up K.k (.row e [.pointer (some ⟨D.t,0,none⟩),v',.int .i64 op,.int .i64 em,.int .i64 is])) D ∧
 StackH (H.up K.k (.row e [.pointer (some ⟨D.t,0,none⟩),v',.int .i64 op,.int .i64 em,.int .i64 is])) D ⟨K.k,v',K.E.dropLast,op,em,is⟩:=by
 refine ⟨hK.text hT,hK.setV hT Hp.up_same ?_ (fun μ h=>.inl (hb ▸ h)) hne (fun y hy=>hK.lv y (List.dropLast_subset _ hy)) (by have:=hK.big;simp only [List.length_dropLast];omega)⟩
 rw [flat_take enc3 3 enc3_len,←List.dropLast_eq_take] at hv
 rw [List.length_dropLast]
 exact hv.up (by rw [hb];exact hK.tv.2.2.2.2.2.2)
def shutE (E:List Ent3) (op is:Int):List Ent3:=if 0<op then E else if 0<is then popIso E.length E else E
def shutOp (op:Int):Int:=if 0<op then op-1 else op
def shutEm (op em is:Int):Int:=if 0<op then em else if 0<is then 0 else em
def shutIs (op is:Int):Int:=if 0<op then is else if 0<is then is-1 else is
def ShutPost (D:TD) (K:SK) (i:Int) (H':Hp):Prop:=StkPost (plainD D (topM (shutE K.E K.op K.is)) i) K (shutE K.E K.op K.is) (shutOp K.op) (shutEm K.op K.em K.is) (shutIs K.op K.is) H'
set_option maxHeartbeats 4000000 in
theorem shut_sp {s:St} {H:Hp} {D:TD} {K:SK} {i:Int} (hX:OwnX X) (hM:Models ro s H) (hT:TextH H D) (hK:StackH H D K) (h0:0≤i∧i<D.n) (hiso:IsoOk K.E K.is) (hbd:K.op≤100000∧K.is≤100000) :
 Sp X Try.prog ro 56 [.pointer (some ⟨K.k,0,none⟩),.int .i64 i] s fun v H'=>v = .tuple #[]∧ShutPost D K i H':=by
 obtain ⟨ek,hk⟩:=hK.k
 refine Bo hX Try.func56 Try.ntmps56 (z:=?_)
 refine WC.seq (WC.seq (Rg (Mv (z:=Co (Np (z:=Co (Fa (z:=Co (Ld (z:=Co (Gt (z:=Nl ?_))))))))))))
 refine WC.condD rfl (fun hop hopb=>?_) (fun hop hopb=>?_)
 ·skip
  refine Rg (Mv (z:=Co (Np (z:=Co (Fa (z:=Co (Ld (z:=Co (Sb (z:=Co (Np (z:=Co (Fa (z:=WO.cons0 (Sv (z:=fun s1_7 hn1_7 hM1_7=>Nl ?_))))))))))))))))
  have hT8:=hK.text (o:=.row ek [.pointer (some ⟨D.t,0,none⟩),K.v,.int .i64 (K.op-1),.int .i64 K.em,.int .i64 K.is]) hT
  have hK8:=hK.upk (e:=ek) (op:=K.op-1) (em:=K.em) (is:=K.is)
  refine Rg (Mv (z:=Mv (z:=Co ?_)))
  have c8:=plain_sp' (i:=i) hX hM1_7 hT8 hK8 ⟨by omega,by omega⟩
  refine SV.callM rfl rfl c8 ?_
  rintro v s8 H8 hn8 hM8 ⟨rfl,hT9,hK9⟩
  refine Nl ?_
  refine fin_none (e:=.normal) rfl trivial (by omega) hM8 ⟨rfl,?_⟩
  unfold ShutPost shutE shutOp shutEm shutIs
  simp only [if_pos hop]
  exact ⟨hT9,_,hK9,rfl,rfl,rfl,rfl,rfl⟩
 ·refine WC.seq (Rg (Mv (z:=Co (Np (z:=Co (Fa (z:=Co (Ld (z:=Co (Gt (z:=Nl ?_)))))))))))
  refine WC.condD rfl (fun his hisb=>?_) (fun his hisb=>?_)
  ·refine WC.seq (Rg (Mv (z:=Co (Np (z:=Co (Fa (z:=WO.cons0 (Sv (z:=fun s3_3 hn3_3 hM3_3=>Nl ?_)))))))))
   have hT3:=hK.text (o:=.row ek [.pointer (some ⟨D.t,0,none⟩),K.v,.int .i64 K.op,.int .i64 0,.int .i64 K.is]) hT
   have hK3:=hK.upk (e:=ek) (op:=K.op) (em:=0) (is:=K.is)
   refine WC.seq (WC.block ?_)
   refine WC.mono (Q:=fun e g' ds' s'=>e = .exit 0∧ds'=[]∧∃ (E:List Ent3) (H':Hp) (v':Value) (is':Int),holds g' [(0,.pointer (some ⟨K.k,0,none⟩)),(1,.int .i64 i)] ∧
    s.next≤s'.next∧Models ro s' H'∧TextH H' D∧StackH H' D ⟨K.k,v',E,K.op,0,K.is⟩∧IsoOk E is'∧0<is'∧(topM E).2.2=true∧E.dropLast=popIso K.E.length K.E) ?_ ?_
   ·refine WC.loop (D:=List Ent3) (fun x=>[(0,.pointer (some ⟨K.k,0,none⟩)),(1,.int .i64 i)])
     (fun x s1=>s.next≤s1.next∧∃ (H':Hp) (v':Value) (is':Int),Models ro s1 H'∧TextH H' D∧StackH H' D ⟨K.k,v',x,K.op,0,K.is⟩∧IsoOk x is'∧0<is'∧popIso x.length x=popIso K.E.length K.E)
     (fun x=>x.length) K.E ?_ ⟨by omega,_,_,_,hM3_3,hT3,hK3,hiso,his,rfl⟩ ?_
    ·exact Ho
    rintro E g1 s1 ⟨hn1,H1,v1,is1,hM1,hT1,hK1,hi1,hp1,hres⟩
    refine WC.seq (WC.seq (Rg (Mv (z:=Co ?_))))
    have c4:=top_sp hX hM1 hK1
    refine SV.callM rfl rfl c4 ?_
    rintro v s2 H2 hn2 hM2 ⟨rfl,rfl⟩
    refine WO.cons (SV.field rfl rfl ?_) (by decide)
    refine WO.cons (SV.not rfl ?_) (by decide)
    refine Nl ?_
    have hlen:0<E.length:=List.length_pos_iff.mpr hK1.ne
    obtain ⟨hd,hi2⟩:=hi1.pop hp1
    refine WC.cond rfl (fun h1=>?_) (fun h1=>?_)
    ·have htop:(topM E).2.2=false:=by simpa using h1
     rw [if_neg (by rw [htop];decide)] at hi2
     rw [show E.length=E.dropLast.length+1 by rw [List.length_dropLast];omega] at hres
     simp only [popIso,htop,Bool.false_eq_true,if_false] at hres
     obtain ⟨ν1,c1,hv1⟩:=hK1.v.nonnil (by dsimp only;omega)
     dsimp only at hv1
     subst hv1
     obtain ⟨ek1,hk1⟩:=hK1.k
     have hbb:=hK1.big
     dsimp only at hk1 hbb
     refine WC.skip (WC.block (WC.dr [0,1,2,3,4,5,6,7,8,9,10,11,12,13,14] (z:=Mw (z:=Mw (z:=Cd (Np (z:=Cd (Fa (z:=Cd (Ld (z:=Mw (z:=Cd (Np (z:=Cd (Fa (z:=Cd (Ld (z:=Cd (Ln (z:=Cd (Sb (z:=Cd ?_))))))))))))))))))))))
     refine SV.sliceTo (by assumption) rfl hK1.v rfl ⟨by omega,by show ((E.length:Int)-1)≤((E.length:Nat):Int);omega⟩ (fun v5 hv5 hb5=>?_)
     dsimp only at hv5
     rw [show ((E.length:Int)-1).toNat=E.length-1 by omega] at hv5
     have hd2:0<E.length-1:=by have:=List.length_pos_iff.mpr hd;rw [List.length_dropLast] at this;exact this
     obtain ⟨ν5,c5,rfl⟩:=hv5.nonnil hd2
     obtain ⟨hT5,hK5⟩:=pop_post (e:=ek1) (op:=K.op) (em:=0) (is:=K.is) hT1 hK1 hv5 hb5 hd
     refine Cd (Np (z:=Cd (Fa (z:=WD.cons0 (Sv (z:=fun s5_14 hn5_14 hM5_14=>Nz ?_))))))
     exact ⟨rfl,E.dropLast,Ho,⟨by omega,_,_,is1,hM5_14,hT5,hK5,hi2,hp1,hres⟩,by rw [List.length_dropLast];omega⟩
    ·have htop:(topM E).2.2=true:=by simpa using h1
     rw [show E.length=(E.length-1)+1 by omega] at hres
     simp only [popIso,htop,if_true] at hres
     refine WC.exit ?_
     exact ⟨rfl,rfl,E,_,_,is1,Ho,by omega,hM2,hT1,hK1,hi1,hp1,htop,hres⟩
   rintro e g2 ds2 s2 ⟨rfl,rfl,E,H2,v2,is2,hg2,hn2,hM2,hT2,hK2,hi2,hp2,htop,hres⟩
   rw [←over_same hg2]
   have hlen:0<E.length:=List.length_pos_iff.mpr hK2.ne
   obtain ⟨hd,_⟩:=hi2.pop hp2
   obtain ⟨ν2,c2,hv2⟩:=hK2.v.nonnil (by dsimp only;omega)
   dsimp only at hv2
   subst hv2
   obtain ⟨ek2,hk2⟩:=hK2.k
   have hbb:=hK2.big
   dsimp only at hk2 hbb
   refine WC.seq (WC.dr [0,1,2,3,4,5,6,7,8,9,10,11,12,13,14] (z:=Mw (z:=Mw (z:=Cd (Np (z:=Cd (Fa (z:=Cd (Ld (z:=Mw (z:=Cd (Np (z:=Cd (Fa (z:=Cd (Ld (z:=Cd (Ln (z:=Cd (Sb (z:=Cd ?_)))))))))))))))))))))
   refine SV.sliceTo (by assumption) rfl hK2.v rfl ⟨by omega,by show ((E.length:Int)-1)≤((E.length:Nat):Int);omega⟩ (fun v5 hv5 hb5=>?_)
   dsimp only at hv5
   rw [show ((E.length:Int)-1).toNat=E.length-1 by omega] at hv5
   have hd2:0<E.length-1:=by have:=List.length_pos_iff.mpr hd;rw [List.length_dropLast] at this;exact this
   obtain ⟨ν5,c5,rfl⟩:=hv5.nonnil hd2
   obtain ⟨hT8,hK8⟩:=pop_post (e:=ek2) (op:=K.op) (em:=0) (is:=K.is-1) hT2 hK2 hv5 hb5 hd
   dsimp only at hT8 hK8
   rw [hres] at hK8
   refine Cd (Np (z:=Cd (Fa (z:=WD.cons0 (Sv (z:=fun s6_14 hn6_14 hM6_14=>Nz (Rg (Mv (z:=Co (Np (z:=Co (Fa (z:=Co (Ld (z:=Co (Sb (z:=Co (Np (z:=Co (Fa (z:=WO.cons0 (Sv (z:=fun s7_7 hn7_7 hM7_7=>Nl ?_)))))))))))))))))))))))
   simp only [Hp.up_up] at hM7_7
   refine Rg (Mv (z:=Mv (z:=Co ?_)))
   have c8:=plain_sp' (i:=i) hX hM7_7 hT8 hK8 ⟨by omega,by omega⟩
   refine SV.callM rfl rfl c8 ?_
   rintro v s8 H8 hn8 hM8 ⟨rfl,hT9,hK9⟩
   refine Nl ?_
   refine fin_none (e:=.normal) rfl trivial (by omega) hM8 ⟨rfl,?_⟩
   unfold ShutPost shutE shutOp shutEm shutIs
   simp only [if_neg hop,if_pos his]
   exact ⟨hT9,_,hK9,rfl,rfl,rfl,rfl,rfl⟩
  ·have hT8:=hT
   have hK8:=hK
   refine WC.skip (Rg (Mv (z:=Mv (z:=Co ?_))))
   have c8:=plain_sp' (i:=i) hX hM hT8 hK8 ⟨by omega,by omega⟩
   refine SV.callM rfl rfl c8 ?_
   rintro v s8 H8 hn8 hM8 ⟨rfl,hT9,hK9⟩
   refine Nl ?_
   refine fin_none (e:=.normal) rfl trivial (by omega) hM8 ⟨rfl,?_⟩
   unfold ShutPost shutE shutOp shutEm shutIs
   simp only [if_neg hop,if_neg his]
   exact ⟨hT9,_,hK9,rfl,rfl,rfl,rfl,rfl⟩
def wN (D:TD) (L N:List Int):TD:={ D with L:=L,N:=N }
structure XS where
 (E:List Ent3) (op em is:Int)
def isEmb (c:Int):Prop:=c=16∨c=17∨c=14∨c=15
instance (c:Int):Decidable (isEmb c):=inferInstanceAs (Decidable (_∨_))
def expX (D:TD) (i:Int) (x:XS):XS:=
 if isEmb (rd D.F i) then (if embLevel x.E (rd D.F i)≤125∧x.op=0∧x.em=0 then ⟨x.E++[(embLevel x.E (rd D.F i),embOver (rd D.F i),false)],x.op,x.em,x.is⟩ else ⟨x.E,x.op,if x.op=0 then x.em+1 else x.em,x.is⟩)
 else if isOpener (rd D.F i) then (if openLevel D x.E i (rd D.F i)≤125∧x.op=0∧x.em=0 then ⟨x.E++[(openLevel D x.E i (rd D.F i),-1,true)],x.op,x.em,x.is+1⟩ else ⟨x.E,x.op+1,x.em,x.is⟩)
 else if rd D.F i=22 then ⟨shutE x.E x.op x.is,shutOp x.op,shutEm x.op x.em x.is,shutIs x.op x.is⟩
 else if rd D.F i=18 then (if 0<x.op then x else if 0<x.em then ⟨x.E,x.op,x.em-1,x.is⟩ else if 1<x.E.length∧(topM x.E).2.2=false then ⟨x.E.dropLast,x.op,x.em,x.is⟩ else x)
 else if rd D.F i=10 then ⟨[(D.b,-1,false)],0,0,0⟩
 else x
def expT (D:TD) (i:Int) (x:XS):Option Ent3:=
 if isEmb (rd D.F i) then none else if isOpener (rd D.F i) then some (topM x.E) else if rd D.F i=22 then some (topM (shutE x.E x.op x.is)) else if rd D.F i=18 then none else if rd D.F i=10 then some (D.b,-1,false) else if rd D.F i=9 then none else some (topM x.E)
def expL (D:TD) (i:Int) (x:XS) (L:List Int):List Int:=match expT D i x with | some t=>plainL t L i | none=>L
def expN (D:TD) (i:Int) (x:XS) (N:List Int):List Int:=match expT D i x with | some t=>plainN t N i | none=>N
def expM (D:TD):Nat→Int→XS→List Int→List Int→List Int×List Int
 | 0,_,_,L,N=>(L,N)
 | r+1,i,x,L,N=>expM D r (i+1) (expX D i x) (expL D i x L) (expN D i x N)
theorem expL_length {D:TD} {i:Int} {x:XS} {L:List Int}:(expL D i x L).length=L.length:=by unfold expL;split <;> first | exact plainL_length | rfl
theorem expN_length {D:TD} {i:Int} {x:XS} {N:List Int}:(expN D i x N).length=N.length:=by unfold expN;split <;> first | exact plainN_length | rfl
theorem expM_length {D:TD}:∀ (r:Nat) (i:Int) (x:XS) (L N:List Int),(expM D r i x L N).1.length=L.length∧(expM D r i x L N).2.length=N.length
 | 0,_,_,_,_=>⟨rfl,rfl⟩
 | r+1,i,x,L,N=>⟨(expM_length r _ _ _ _).1.trans expL_length,(expM_length r _ _ _ _).2.trans expN_length⟩
structure ExpI (ro:Nat) (s1:St) (D:TD) (k:Nat) (i:Int) (x:XS) (L N:List Int):Prop where
 ok:∃ H v,Models ro s1 H∧TextH H (wN D L N)∧StackH H (wN D L N) ⟨k,v,x.E,x.op,x.em,x.is⟩
 iso:IsoOk x.E x.is
 len:(x.E.length:Int)≤i+1
 op:0≤x.op∧x.op≤i
 em:0≤x.em∧x.em≤i
theorem popIso_length:∀ (r:Nat) (E:List Ent3),(popIso r E).length≤E.length
 | 0,_=>Nat.le_refl _
 | r+1,E=>by
  simp only [popIso]
  split
  ·rw [List.length_dropLast];omega
  ·have:=popIso_length r E.dropLast
   rw [List.length_dropLast] at this;omega
theorem popIso_iso:∀ (r:Nat) (E:List Ent3) (is:Int),E.length≤r→IsoOk E is→0<is→IsoOk (popIso r E) (is-1)
 | 0,E,is,hr,h,_=>by obtain ⟨b,rest,rfl,_⟩:=h;simp at hr
 | r+1,E,is,hr,h,hp=>by
  obtain ⟨hd,h2⟩:=h.pop hp
  simp only [popIso]
  by_cases ht:(topM E).2.2=true
  ·rw [if_pos ht] at h2 ⊢;exact h2
  ·rw [if_neg ht] at h2 ⊢
   exact popIso_iso r _ _ (by rw [List.length_dropLast];omega) h2 hp
theorem shut_iso {x:XS} {i:Int} (hl:(x.E.length:Int)≤i+1) (h:IsoOk x.E x.is):IsoOk (shutE x.E x.op x.is) (shutIs x.op x.is)∧((shutE x.E x.op x.is).length:Int)≤i+1:=by
 unfold shutE shutIs
 split
 ·exact ⟨h,hl⟩
 ·split
  ·refine ⟨popIso_iso _ _ _ (Nat.le_refl _) h (by assumption),?_⟩
   have:=popIso_length x.E.length x.E
   omega
  ·exact ⟨h,hl⟩
theorem ExpI.next {s2:St} {D:TD} {k:Nat} {i:Int} {x:XS} {L N:List Int} (hi:0≤i) (hb:IsoOk [(D.b,(-1:Int),false)] 0) (iso:IsoOk x.E x.is) (len:(x.E.length:Int)≤i+1) (op:0≤x.op∧x.op≤i) (em:0≤x.em∧x.em≤i)
 (ok:∃ H v,Models ro s2 H∧TextH H (wN D (expL D i x L) (expN D i x N))∧StackH H (wN D (expL D i x L) (expN D i x N)) ⟨k,v,(expX D i x).E,(expX D i x).op,(expX D i x).em,(expX D i x).is⟩) :
 ExpI ro s2 D k (i+1) (expX D i x) (expL D i x L) (expN D i x N):=by
 refine { ok:=ok,iso:=?_,len:=?_,op:=?_,em:=?_ }
 ·unfold expX
  split
  ·split
   ·exact iso.push _
   ·exact iso
  ·split
   ·split
    ·exact iso.push _
    ·exact iso
   ·split
    ·exact (shut_iso len iso).1
    ·split
     ·split
      ·exact iso
      ·split
       ·exact iso
       ·split
        ·rename_i h;exact (iso.pop1 h.1 h.2).2
        ·exact iso
     ·split
      ·exact hb
      ·exact iso
 ·unfold expX
  have hs:=(shut_iso len iso).2
  repeat' split
  all_goals try simp only [List.length_append,List.length_cons,List.length_nil,List.length_dropLast] at *
  all_goals omega
 ·unfold expX shutOp
  repeat' split
  all_goals try dsimp only
  all_goals omega
 ·unfold expX shutEm
  repeat' split
  all_goals try dsimp only
  all_goals (repeat' split)
  all_goals omega
theorem StkPost.elim {D:TD} {K:SK} {E:List Ent3} {op em is:Int} {H:Hp} (h:StkPost D K E op em is H):∃ v',TextH H D∧StackH H D ⟨K.k,v',E,op,em,is⟩:=by
 obtain ⟨hT,K',hK,h1,h2,h3,h4,h5⟩:=h
 refine ⟨K'.v,hT,?_⟩
 subst h2 h3 h4 h5
 rw [←h1]
 exact hK
set_option maxHeartbeats 16000000 in
theorem explicit_sp {s:St} {H:Hp} {D:TD} (hX:OwnX X) (hM:Models ro s H) (hT:TextH H D) (hok:MatchOk D.F D.M) (hb:0≤D.b∧D.b≤1) :
 Sp X Try.prog ro 38 [.pointer (some ⟨D.t,0,none⟩)] s fun v H'=>v = .tuple #[] ∧
  TextH H' (wN D (expM D D.F.length 0 ⟨[(D.b,-1,false)],0,0,0⟩ D.L D.N).1 (expM D D.F.length 0 ⟨[(D.b,-1,false)],0,0,0⟩ D.L D.N).2):=by
 have hbg:=hT.big
 have hnF:=hT.nF
 have hb0:IsoOk [(D.b,(-1:Int),false)] 0:=⟨_,[],rfl,rfl,rfl⟩
 refine Bo hX Try.func38 Try.ntmps38 (z:=?_)
 refine WC.seq (Rg (Mv (z:=?_)))
 refine WO.cons (SV.build rfl ?_) (by decide)
 refine WO.cons (SV.boxM (by assumption) rfl (fun a0_2 s0_2 hf0_2 hne0_2 hn0_2 hM0_2=>?_)) (by decide)
 refine Av (z:=Nl ?_)
 change Models ro s0_2 (H.up a0_2 (.row 0 [.pointer (some ⟨D.t,0,none⟩),.slice none 0 0,.int .i64 0,.int .i64 0,.int .i64 0])) at hM0_2
 have hT0:=hT.fresh (x:=.row 0 [.pointer (some ⟨D.t,0,none⟩),.slice none 0 0,.int .i64 0,.int .i64 0,.int .i64 0]) hne0_2
 obtain ⟨e0,cc0,cf0,cw0,cl0,cm0,ht0⟩:=hT.t
 refine WC.seq (Rg (Mv (z:=Co ?_)))
 refine SV.callM rfl rfl (reset_sp hX hM0_2 hT0 Hp.up_same ⟨hne0_2 _ _ ht0,hne0_2 _ _ hT.c,hne0_2 _ _ hT.f,hne0_2 _ _ hT.w,hne0_2 _ _ hT.l,hne0_2 _ _ hT.m⟩ (fun ν o e=>hne0_2 _ _ (hT.kp ν o e)) hb) ?_
 rintro v s1 H1 hn1 hM1 ⟨rfl,hT1,⟨k,v1,E1,op1,em1,is1⟩,hK1,hk1,hE1,ho1,he1,hi1⟩
 dsimp only at hk1 hE1 ho1 he1 hi1
 subst hk1 hE1 ho1 he1 hi1
 obtain ⟨e,cc,cf,cw,cl,cm,ht⟩:=hT1.t
 refine Nl (WC.seq (Rg (Mv (z:=Co (Np (z:=Co (Fa (z:=Co (Ld (z:=Co (Ln (z:=Mv (z:=Nl (WC.block ?_))))))))))))))
 generalize hRES:expM D D.F.length 0 ⟨[(D.b,-1,false)],0,0,0⟩ D.L D.N=RES
 refine WC.loop (D:=Int×XS×List Int×List Int) (fun x=>[(0,.pointer (some ⟨D.t,0,none⟩)),(2,.pointer (some ⟨k,0,none⟩)),(13,.slice (some ⟨D.f,0,none⟩) D.n cf),(14,.int .i64 D.n),(15,.int .i64 x.1)])
  (fun x s1=>s.next≤s1.next∧ExpI ro s1 D k x.1 x.2.1 x.2.2.1 x.2.2.2∧0≤x.1∧x.1≤D.n∧expM D (D.F.length-x.1.toNat) x.1 x.2.1 x.2.2.1 x.2.2.2=RES)
  (fun x=>D.n-x.1.toNat) (0,⟨[(D.b,-1,false)],0,0,0⟩,D.L,D.N) ?_ ⟨by omega,{ ok:=⟨H1,v1,hM1,hT1,hK1⟩,iso:=hb0,len:=by simp,op:=by simp,em:=by simp },Int.le_refl _,by simp,hRES⟩ ?_
 ·exact Ho
 clear hT1 hK1 hM1 ht hn1 hT0 hM hT hM0_2
 rintro ⟨i,x,L,N⟩ g s1 ⟨hn1,hI,hi0,hi1,hres⟩
 dsimp only at hn1 hI hi0 hi1 hres ⊢
 obtain ⟨H1,v1,hM1,hT1,hK1⟩:=hI.ok
 obtain ⟨e,cc1,cf1,cw1,cl1,cm1,ht⟩:=hT1.t
 have hf1:=hT1.f
 have hl1:=hT1.l
 have hnL:=hT1.nL
 dsimp only [wN] at ht hf1 hl1 hnL
 refine WC.seq (Rg (Co (Lt (z:=Nl (WC.seq ?_)))))
 refine WC.condD rfl (fun hlt hltb=>?_) (fun hlt hltb=>?_)
 ·rw [show D.F.length-i.toNat=(D.F.length-(i+1).toNat)+1 by omega] at hres
  simp only [expM] at hres
  have hlen:=hI.len
  have hem:=hI.em
  have hop:=hI.op
  refine WC.skip (WC.seq (WC.block (WC.seq (Rg (Mv (z:=Co (Ix (z:=Co (Ld (z:=Av (z:=Av (z:=Nl (WC.seq (Rg (Mv (z:=Nl (WC.block (WC.seq (WC.seq (Rg (Co (Ei (z:=Av (z:=Nl ?_))))))))))))))))))))))))
  refine WC.condD rfl (fun h16 h16b=>?_) (fun h16 h16b=>?_)
  ·refine WC.skip (Ct (z:=Rg (Mv (z:=Mv (z:=Co ?_)))))
   have c1:=embed_sp (c:=rd D.F i) hX hM1 hT1 hK1 (by dsimp only;omega) ⟨hI.em.1,by dsimp only;omega⟩
   refine SV.callM rfl rfl c1 ?_
   rintro v s2 H2 hn2 hM2 ⟨rfl,hpost⟩
   have hemb:isEmb (rd D.F i):=by unfold isEmb;omega
   obtain ⟨v2,hT9,hK9⟩:∃ v2,TextH H2 (wN D (expL D i x L) (expN D i x N))∧StackH H2 (wN D (expL D i x L) (expN D i x N)) ⟨k,v2,(expX D i x).E,(expX D i x).op,(expX D i x).em,(expX D i x).is⟩:=by
    unfold expL expN expT expX
    rw [if_pos hemb,if_pos hemb]
    dsimp only at hpost ⊢
    split at hpost
    ·rename_i hh
     rw [if_pos hh]
     exact hpost.elim
    ·rename_i hh
     rw [if_neg hh]
     exact hpost.elim
   refine Nl (Rg (Co (Ad (z:=Mv (z:=Nl ?_)))))
   exact ⟨rfl,(i+1,_,_,_),Ho,⟨by omega,ExpI.next hi0 hb0 hI.iso hI.len hI.op hI.em ⟨_,_,hM2,hT9,hK9⟩,by dsimp only;omega,by dsimp only;omega,hres⟩,by dsimp only;omega⟩
  refine WC.seq (Rg (Co (Ei (z:=Av (z:=Nl ?_)))))
  refine WC.condD rfl (fun h17 h17b=>?_) (fun h17 h17b=>?_)
  ·refine WC.skip (Ct (z:=Rg (Mv (z:=Mv (z:=Co ?_)))))
   have c1:=embed_sp (c:=rd D.F i) hX hM1 hT1 hK1 (by dsimp only;omega) ⟨hI.em.1,by dsimp only;omega⟩
   refine SV.callM rfl rfl c1 ?_
   rintro v s2 H2 hn2 hM2 ⟨rfl,hpost⟩
   have hemb:isEmb (rd D.F i):=by unfold isEmb;omega
   obtain ⟨v2,hT9,hK9⟩:∃ v2,TextH H2 (wN D (expL D i x L) (expN D i x N))∧StackH H2 (wN D (expL D i x L) (expN D i x N)) ⟨k,v2,(expX D i x).E,(expX D i x).op,(expX D i x).em,(expX D i x).is⟩:=by
    unfold expL expN expT expX
    rw [if_pos hemb,if_pos hemb]
    dsimp only at hpost ⊢
    split at hpost
    ·rename_i hh
     rw [if_pos hh]
     exact hpost.elim
    ·rename_i hh
     rw [if_neg hh]
     exact hpost.elim
   refine Nl (Rg (Co (Ad (z:=Mv (z:=Nl ?_)))))
   exact ⟨rfl,(i+1,_,_,_),Ho,⟨by omega,ExpI.next hi0 hb0 hI.iso hI.len hI.op hI.em ⟨_,_,hM2,hT9,hK9⟩,by dsimp only;omega,by dsimp only;omega,hres⟩,by dsimp only;omega⟩
  refine WC.seq (Rg (Co (Ei (z:=Av (z:=Nl ?_)))))
  refine WC.condD rfl (fun h14 h14b=>?_) (fun h14 h14b=>?_)
  ·refine WC.skip (Ct (z:=Rg (Mv (z:=Mv (z:=Co ?_)))))
   have c1:=embed_sp (c:=rd D.F i) hX hM1 hT1 hK1 (by dsimp only;omega) ⟨hI.em.1,by dsimp only;omega⟩
   refine SV.callM rfl rfl c1 ?_
   rintro v s2 H2 hn2 hM2 ⟨rfl,hpost⟩
   have hemb:isEmb (rd D.F i):=by unfold isEmb;omega
   obtain ⟨v2,hT9,hK9⟩:∃ v2,TextH H2 (wN D (expL D i x L) (expN D i x N))∧StackH H2 (wN D (expL D i x L) (expN D i x N)) ⟨k,v2,(expX D i x).E,(expX D i x).op,(expX D i x).em,(expX D i x).is⟩:=by
    unfold expL expN expT expX
    rw [if_pos hemb,if_pos hemb]
    dsimp only at hpost ⊢
    split at hpost
    ·rename_i hh
     rw [if_pos hh]
     exact hpost.elim
    ·rename_i hh
     rw [if_neg hh]
     exact hpost.elim
   refine Nl (Rg (Co (Ad (z:=Mv (z:=Nl ?_)))))
   exact ⟨rfl,(i+1,_,_,_),Ho,⟨by omega,ExpI.next hi0 hb0 hI.iso hI.len hI.op hI.em ⟨_,_,hM2,hT9,hK9⟩,by dsimp only;omega,by dsimp only;omega,hres⟩,by dsimp only;omega⟩
  refine Rg (Co (Ei (z:=Av (z:=Nl ?_))))
  refine WC.condD rfl (fun h15 h15b=>?_) (fun h15 h15b=>?_)
  ·skip
   refine Rg (Mv (z:=Mv (z:=Co ?_)))
   have c1:=embed_sp (c:=rd D.F i) hX hM1 hT1 hK1 (by dsimp only;omega) ⟨hI.em.1,by dsimp only;omega⟩
   refine SV.callM rfl rfl c1 ?_
   rintro v s2 H2 hn2 hM2 ⟨rfl,hpost⟩
   have hemb:isEmb (rd D.F i):=by unfold isEmb;omega
   obtain ⟨v2,hT9,hK9⟩:∃ v2,TextH H2 (wN D (expL D i x L) (expN D i x N))∧StackH H2 (wN D (expL D i x L) (expN D i x N)) ⟨k,v2,(expX D i x).E,(expX D i x).op,(expX D i x).em,(expX D i x).is⟩:=by
    unfold expL expN expT expX
    rw [if_pos hemb,if_pos hemb]
    dsimp only at hpost ⊢
    split at hpost
    ·rename_i hh
     rw [if_pos hh]
     exact hpost.elim
    ·rename_i hh
     rw [if_neg hh]
     exact hpost.elim
   refine Nl (Rg (Co (Ad (z:=Mv (z:=Nl ?_)))))
   exact ⟨rfl,(i+1,_,_,_),Ho,⟨by omega,ExpI.next hi0 hb0 hI.iso hI.len hI.op hI.em ⟨_,_,hM2,hT9,hK9⟩,by dsimp only;omega,by dsimp only;omega,hres⟩,by dsimp only;omega⟩
  have hnemb:¬ isEmb (rd D.F i):=by unfold isEmb;omega
  refine WC.seq (WC.seq (Rg (Co (Ei (z:=Av (z:=Nl ?_))))))
  refine WC.condD rfl (fun h20 h20b=>?_) (fun h20 h20b=>?_)
  ·refine WC.skip (Ct (z:=Rg (Mv (z:=Mv (z:=Mv (z:=Co ?_))))))
   have hop2:isOpener (rd D.F i):=by unfold isOpener;omega
   have c1:=open_sp (i:=i) (c:=rd D.F i) hX hM1 hT1 hK1 ⟨hi0,hlt⟩ hop2 hok (by dsimp only;omega) ⟨hI.iso.nonneg.1,by have:=hI.iso.nonneg;dsimp only;omega,hop.1,by dsimp only;omega⟩
   refine SV.callM rfl rfl c1 ?_
   rintro v s2 H2 hn2 hM2 ⟨rfl,hpost⟩
   obtain ⟨v2,hT9,hK9⟩:∃ v2,TextH H2 (wN D (expL D i x L) (expN D i x N))∧StackH H2 (wN D (expL D i x L) (expN D i x N)) ⟨k,v2,(expX D i x).E,(expX D i x).op,(expX D i x).em,(expX D i x).is⟩:=by
    unfold expL expN expT expX
    rw [if_neg hnemb,if_neg hnemb,if_pos hop2,if_pos hop2]
    change (if openLevel D x.E i (rd D.F i)≤125∧x.op=0∧x.em=0 then _ else _) at hpost
    split at hpost
    ·rename_i hh
     rw [if_pos hh]
     exact hpost.elim
    ·rename_i hh
     rw [if_neg hh]
     exact hpost.elim
   refine Nl (Rg (Co (Ad (z:=Mv (z:=Nl ?_)))))
   exact ⟨rfl,(i+1,_,_,_),Ho,⟨by omega,ExpI.next hi0 hb0 hI.iso hI.len hI.op hI.em ⟨_,_,hM2,hT9,hK9⟩,by dsimp only;omega,by dsimp only;omega,hres⟩,by dsimp only;omega⟩
  refine WC.seq (Rg (Co (Ei (z:=Av (z:=Nl ?_)))))
  refine WC.condD rfl (fun h19 h19b=>?_) (fun h19 h19b=>?_)
  ·refine WC.skip (Ct (z:=Rg (Mv (z:=Mv (z:=Mv (z:=Co ?_))))))
   have hop2:isOpener (rd D.F i):=by unfold isOpener;omega
   have c1:=open_sp (i:=i) (c:=rd D.F i) hX hM1 hT1 hK1 ⟨hi0,hlt⟩ hop2 hok (by dsimp only;omega) ⟨hI.iso.nonneg.1,by have:=hI.iso.nonneg;dsimp only;omega,hop.1,by dsimp only;omega⟩
   refine SV.callM rfl rfl c1 ?_
   rintro v s2 H2 hn2 hM2 ⟨rfl,hpost⟩
   obtain ⟨v2,hT9,hK9⟩:∃ v2,TextH H2 (wN D (expL D i x L) (expN D i x N))∧StackH H2 (wN D (expL D i x L) (expN D i x N)) ⟨k,v2,(expX D i x).E,(expX D i x).op,(expX D i x).em,(expX D i x).is⟩:=by
    unfold expL expN expT expX
    rw [if_neg hnemb,if_neg hnemb,if_pos hop2,if_pos hop2]
    change (if openLevel D x.E i (rd D.F i)≤125∧x.op=0∧x.em=0 then _ else _) at hpost
    split at hpost
    ·rename_i hh
     rw [if_pos hh]
     exact hpost.elim
    ·rename_i hh
     rw [if_neg hh]
     exact hpost.elim
   refine Nl (Rg (Co (Ad (z:=Mv (z:=Nl ?_)))))
   exact ⟨rfl,(i+1,_,_,_),Ho,⟨by omega,ExpI.next hi0 hb0 hI.iso hI.len hI.op hI.em ⟨_,_,hM2,hT9,hK9⟩,by dsimp only;omega,by dsimp only;omega,hres⟩,by dsimp only;omega⟩
  refine Rg (Co (Ei (z:=Av (z:=Nl ?_))))
  refine WC.condD rfl (fun h21 h21b=>?_) (fun h21 h21b=>?_)
  ·skip
   refine Rg (Mv (z:=Mv (z:=Mv (z:=Co ?_))))
   have hop2:isOpener (rd D.F i):=by unfold isOpener;omega
   have c1:=open_sp (i:=i) (c:=rd D.F i) hX hM1 hT1 hK1 ⟨hi0,hlt⟩ hop2 hok (by dsimp only;omega) ⟨hI.iso.nonneg.1,by have:=hI.iso.nonneg;dsimp only;omega,hop.1,by dsimp only;omega⟩
   refine SV.callM rfl rfl c1 ?_
   rintro v s2 H2 hn2 hM2 ⟨rfl,hpost⟩
   obtain ⟨v2,hT9,hK9⟩:∃ v2,TextH H2 (wN D (expL D i x L) (expN D i x N))∧StackH H2 (wN D (expL D i x L) (expN D i x N)) ⟨k,v2,(expX D i x).E,(expX D i x).op,(expX D i x).em,(expX D i x).is⟩:=by
    unfold expL expN expT expX
    rw [if_neg hnemb,if_neg hnemb,if_pos hop2,if_pos hop2]
    change (if openLevel D x.E i (rd D.F i)≤125∧x.op=0∧x.em=0 then _ else _) at hpost
    split at hpost
    ·rename_i hh
     rw [if_pos hh]
     exact hpost.elim
    ·rename_i hh
     rw [if_neg hh]
     exact hpost.elim
   refine Nl (Rg (Co (Ad (z:=Mv (z:=Nl ?_)))))
   exact ⟨rfl,(i+1,_,_,_),Ho,⟨by omega,ExpI.next hi0 hb0 hI.iso hI.len hI.op hI.em ⟨_,_,hM2,hT9,hK9⟩,by dsimp only;omega,by dsimp only;omega,hres⟩,by dsimp only;omega⟩
  have hnop:¬ isOpener (rd D.F i):=by unfold isOpener;omega
  refine WC.seq (Rg (Co (Ei (z:=Av (z:=Nl ?_)))))
  refine WC.condD rfl (fun h22 h22b=>?_) (fun h22 h22b=>?_)
  ·skip
   refine Rg (Mv (z:=Mv (z:=Co ?_)))
   have c1:=shut_sp (i:=i) hX hM1 hT1 hK1 ⟨hi0,hlt⟩ hI.iso ⟨by dsimp only;omega,by have:=hI.iso.nonneg;dsimp only;omega⟩
   refine SV.callM rfl rfl c1 ?_
   rintro v s2 H2 hn2 hM2 ⟨rfl,hpost⟩
   obtain ⟨v2,hT9,hK9⟩:∃ v2,TextH H2 (wN D (expL D i x L) (expN D i x N))∧StackH H2 (wN D (expL D i x L) (expN D i x N)) ⟨k,v2,(expX D i x).E,(expX D i x).op,(expX D i x).em,(expX D i x).is⟩:=by
    unfold expL expN expT expX
    rw [if_neg hnemb,if_neg hnemb,if_neg hnop,if_neg hnop,if_pos h22,if_pos h22]
    exact hpost.elim
   refine Nl (Rg (Co (Ad (z:=Mv (z:=Nl ?_)))))
   exact ⟨rfl,(i+1,_,_,_),Ho,⟨by omega,ExpI.next hi0 hb0 hI.iso hI.len hI.op hI.em ⟨_,_,hM2,hT9,hK9⟩,by dsimp only;omega,by dsimp only;omega,hres⟩,by dsimp only;omega⟩
  refine WC.seq (Rg (Co (Ei (z:=Av (z:=Nl ?_)))))
  refine WC.condD rfl (fun h18 h18b=>?_) (fun h18 h18b=>?_)
  ·have eX:expL D i x L=L∧expN D i x N=N∧expX D i x=if 0<x.op then x else if 0<x.em then ⟨x.E,x.op,x.em-1,x.is⟩ else if 1<x.E.length∧(topM x.E).2.2=false then ⟨x.E.dropLast,x.op,x.em,x.is⟩ else x:=by
    unfold expL expN expT expX
    rw [if_neg hnemb,if_neg hnemb,if_neg hnop,if_neg hnop,if_neg h22,if_neg h22,if_pos h18,if_pos h18]
    exact ⟨rfl,rfl,rfl⟩
   obtain ⟨eL,eN,eX⟩:=eX
   obtain ⟨ek,hk⟩:=hK1.k
   dsimp only [wN] at hk
   refine WC.block (WC.seq (Rg (Mv (z:=Co (Np (z:=Co (Fa (z:=Co (Ld (z:=Co (Gt (z:=Av (z:=Nl ?_)))))))))))))
   refine WC.condD rfl (fun hp hpb=>?_) (fun hp hpb=>?_)
   ·have hT9:TextH H1 (wN D (expL D i x L) (expN D i x N)):=by rw [eL,eN];exact hT1
    have hK9:StackH H1 (wN D (expL D i x L) (expN D i x N)) ⟨k,v1,(expX D i x).E,(expX D i x).op,(expX D i x).em,(expX D i x).is⟩:=by rw [eL,eN,eX,if_pos hp];exact hK1
    refine WC.skip (Rg (Co (Ad (z:=Mv (z:=Nl ?_)))))
    exact ⟨rfl,(i+1,_,_,_),Ho,⟨by omega,ExpI.next hi0 hb0 hI.iso hI.len hI.op hI.em ⟨_,_,hM1,hT9,hK9⟩,by dsimp only;omega,by dsimp only;omega,hres⟩,by dsimp only;omega⟩
   refine WC.seq (Rg (Mv (z:=Co (Np (z:=Co (Fa (z:=Co (Ld (z:=Co (Gt (z:=Av (z:=Nl ?_))))))))))))
   refine WC.condD rfl (fun hq hqb=>?_) (fun hq hqb=>?_)
   ·skip
    refine Rg (Mv (z:=Co (Np (z:=Co (Fa (z:=Co (Ld (z:=Co (Sb (z:=Co (Np (z:=Co (Fa (z:=WO.cons0 (Sv (z:=fun s21_7 hn21_7 hM21_7=>Nl ?_))))))))))))))))
    have hT9:TextH (H1.up k (.row ek [.pointer (some ⟨D.t,0,none⟩),v1,.int .i64 x.op,.int .i64 (x.em-1),.int .i64 x.is])) (wN D (expL D i x L) (expN D i x N)):=by rw [eL,eN];exact hK1.text hT1
    have hK9:StackH (H1.up k (.row ek [.pointer (some ⟨D.t,0,none⟩),v1,.int .i64 x.op,.int .i64 (x.em-1),.int .i64 x.is])) (wN D (expL D i x L) (expN D i x N)) ⟨k,v1,(expX D i x).E,(expX D i x).op,(expX D i x).em,(expX D i x).is⟩:=by
     rw [eL,eN,eX,if_neg hp,if_pos hq];exact hK1.upk
    refine Rg (Co (Ad (z:=Mv (z:=Nl ?_))))
    exact ⟨rfl,(i+1,_,_,_),Ho,⟨by omega,ExpI.next hi0 hb0 hI.iso hI.len hI.op hI.em ⟨_,_,hM21_7,hT9,hK9⟩,by dsimp only;omega,by dsimp only;omega,hres⟩,by dsimp only;omega⟩
   have hp1:0<x.E.length:=List.length_pos_iff.mpr hK1.ne
   have stay:¬ (1<x.E.length∧(topM x.E).2.2=false)→∀ {s2:St} {H2:Hp},TextH H2 (wN D L N)→StackH H2 (wN D L N) ⟨k,v1,x.E,x.op,x.em,x.is⟩ →
    TextH H2 (wN D (expL D i x L) (expN D i x N))∧StackH H2 (wN D (expL D i x L) (expN D i x N)) ⟨k,v1,(expX D i x).E,(expX D i x).op,(expX D i x).em,(expX D i x).is⟩:=fun hn {s2 H2} h1 h2=>by
    rw [eL,eN,eX,if_neg hp,if_neg hq,if_neg hn];exact ⟨h1,h2⟩
   obtain ⟨ν1,c1,hv1⟩:=hK1.v.nonnil (by dsimp only;omega)
   dsimp only at hv1
   subst hv1
   refine WC.seq (Rg (Mv (z:=Co (Np (z:=Co (Fa (z:=Co (Ld (z:=Co (Ln (z:=Co (Gt (z:=Mv (z:=?_))))))))))))))
   refine WO.guardDT rfl rfl rfl (fun hg22_7 hh22_7=>SV.moveV (by constructor) ?_) (fun hg22_7 hh22_7=>?_) (by decide)
   all_goals (first | refine WO.guardY rfl rfl rfl (by assumption) ?_ (by decide) | refine Gn (z:=?_))
   ·have c1:=top_sp hX hM1 hK1
    refine SV.callM rfl rfl c1 ?_
    rintro v s2 H2 hn2 hM2 ⟨rfl,rfl⟩
    refine WO.guardY rfl rfl rfl (by assumption) (SV.field rfl rfl ?_) (by decide)
    all_goals (refine WO.guardY rfl rfl rfl (by assumption) (SV.not rfl ?_) (by decide))
    all_goals refine Co (Pt (z:=Av (z:=Nl ?_)))
    refine WC.cond rfl (fun h1=>?_) (fun h1=>?_)
    ·have htop:(topM x.E).2.2=false:=by simpa using h1
     have hl1:1<x.E.length:=by omega
     obtain ⟨hd,_⟩:=hI.iso.pop1 hl1 htop
     refine WC.dr [0,1,2,3,4,5,6,7,8,9,10,11,12,13,14] (z:=Mw (z:=Mw (z:=Cd (Np (z:=Cd (Fa (z:=Cd (Ld (z:=Mw (z:=Cd (Np (z:=Cd (Fa (z:=Cd (Ld (z:=Cd (Ln (z:=Cd (Sb (z:=Cd ?_))))))))))))))))))))
     refine SV.sliceTo (by assumption) rfl hK1.v rfl ⟨by omega,by show ((x.E.length:Int)-1)≤((x.E.length:Nat):Int);omega⟩ (fun v5 hv5 hb5=>?_)
     dsimp only at hv5
     rw [show ((x.E.length:Int)-1).toNat=x.E.length-1 by omega] at hv5
     obtain ⟨ν5,c5,rfl⟩:=hv5.nonnil (by omega)
     obtain ⟨hT8,hK8⟩:=pop_post (e:=ek) (op:=x.op) (em:=x.em) (is:=x.is) hT1 hK1 hv5 hb5 hd
     have hT9:TextH (H2.up k (.row ek [.pointer (some ⟨D.t,0,none⟩),.slice (some ⟨ν5,0,none⟩) (x.E.length-1) c5,.int .i64 x.op,.int .i64 x.em,.int .i64 x.is])) (wN D (expL D i x L) (expN D i x N)):=by rw [eL,eN];exact hT8
     have hK9:StackH (H2.up k (.row ek [.pointer (some ⟨D.t,0,none⟩),.slice (some ⟨ν5,0,none⟩) (x.E.length-1) c5,.int .i64 x.op,.int .i64 x.em,.int .i64 x.is])) (wN D (expL D i x L) (expN D i x N)) ⟨k,.slice (some ⟨ν5,0,none⟩) (x.E.length-1) c5,(expX D i x).E,(expX D i x).op,(expX D i x).em,(expX D i x).is⟩:=by
      rw [eL,eN,eX,if_neg hp,if_neg hq,if_pos ⟨hl1,htop⟩];exact hK8
     refine Cd (Np (z:=Cd (Fa (z:=WD.cons0 (Sv (z:=fun s23_14 hn23_14 hM23_14=>Nz (Rg (Co (Ad (z:=Mv (z:=Nl ?_)))))))))))
     exact ⟨rfl,(i+1,_,_,_),Ho,⟨by omega,ExpI.next hi0 hb0 hI.iso hI.len hI.op hI.em ⟨_,_,hM23_14,hT9,hK9⟩,by dsimp only;omega,by dsimp only;omega,hres⟩,by dsimp only;omega⟩
    ·have htop:(topM x.E).2.2=true:=by simpa using h1
     obtain ⟨hT9,hK9⟩:=stay (fun h=>by rw [htop] at h;cases h.2) (s2:=s2) hT1 hK1
     refine WC.skip (Rg (Co (Ad (z:=Mv (z:=Nl ?_)))))
     exact ⟨rfl,(i+1,_,_,_),Ho,⟨by omega,ExpI.next hi0 hb0 hI.iso hI.len hI.op hI.em ⟨_,_,hM2,hT9,hK9⟩,by dsimp only;omega,by dsimp only;omega,hres⟩,by dsimp only;omega⟩
   ·refine Gn (z:=Gn (z:=Co (Pf (z:=Av (z:=Nl ?_)))))
    obtain ⟨hT9,hK9⟩:=stay (fun h=>by omega) (s2:=s1) hT1 hK1
    refine Cf (z:=WC.skip (Rg (Co (Ad (z:=Mv (z:=Nl ?_))))))
    exact ⟨rfl,(i+1,_,_,_),Ho,⟨by omega,ExpI.next hi0 hb0 hI.iso hI.len hI.op hI.em ⟨_,_,hM1,hT9,hK9⟩,by dsimp only;omega,by dsimp only;omega,hres⟩,by dsimp only;omega⟩
  refine WC.seq (Rg (Co (Ei (z:=Av (z:=Nl ?_)))))
  refine WC.condD rfl (fun h10 h10b=>?_) (fun h10 h10b=>?_)
  ·refine WC.seq (WC.dr [0,1,2,3,4,5,6,7,8,9,10] (z:=Mw (z:=Cd (Np (z:=Cd (Fa (z:=Cd (Ld (z:=Mw (z:=Mw (z:=Cd (Np (z:=Cd (Fa (z:=Cd (Ld (z:=Cd (Ix (z:=WD.cons0 (Sv (z:=fun s25_10 hn25_10 hM25_10=>Nz ?_)))))))))))))))))))))
   rw [ints_set (by omega) (by omega)] at hM25_10
   have eT:expT D i x=some (D.b,-1,false):=by
    unfold expT
    rw [if_neg hnemb,if_neg hnop,if_neg h22,if_neg h18,if_pos h10]
   have hL2:(L.set i.toNat D.b).length=D.n:=by rw [List.length_set];exact hnL
   have hT2:TextH (H1.up D.l (.row 1 ((L.set i.toNat D.b).map (.int .i64)))) (wN D (L.set i.toNat D.b) N):=hT1.setL hL2
   have hK2:StackH (H1.up D.l (.row 1 ((L.set i.toNat D.b).map (.int .i64)))) (wN D (L.set i.toNat D.b) N) ⟨k,v1,x.E,x.op,x.em,x.is⟩:=hK1.setL (L':=L.set i.toNat D.b)
   obtain ⟨ek2,hk2⟩:=hK2.k
   refine Rg (Mv (z:=Co ?_))
   have c1:=reset_sp hX hM25_10 hT2 hk2 hK2.tk (fun ν o e=>(hK2.kB ν o e).1) hb
   refine SV.callM rfl rfl c1 ?_
   rintro v s2 H2 hn2 hM2 ⟨rfl,hT3,K',hK3,e1,e2,e3,e4,e5⟩
   have eL:expL D i x L=L.set i.toNat D.b:=by unfold expL;rw [eT];rfl
   have eN:expN D i x N=N:=by unfold expN;rw [eT];rfl
   have eX:expX D i x=⟨[(D.b,-1,false)],0,0,0⟩:=by
    unfold expX
    rw [if_neg hnemb,if_neg hnop,if_neg h22,if_neg h18,if_pos h10]
   have hT9:TextH H2 (wN D (expL D i x L) (expN D i x N)):=by rw [eL,eN];exact hT3
   have hK9:StackH H2 (wN D (expL D i x L) (expN D i x N)) ⟨k,K'.v,(expX D i x).E,(expX D i x).op,(expX D i x).em,(expX D i x).is⟩:=by
    rw [eL,eN,eX]
    dsimp only
    obtain ⟨k',v',E',op',em',is'⟩:=K'
    dsimp only [wN] at e1 e2 e3 e4 e5
    subst e1 e2 e3 e4 e5
    exact hK3
   refine Nl (Rg (Co (Ad (z:=Mv (z:=Nl ?_)))))
   exact ⟨rfl,(i+1,_,_,_),Ho,⟨by omega,ExpI.next hi0 hb0 hI.iso hI.len hI.op hI.em ⟨_,_,hM2,hT9,hK9⟩,by dsimp only;omega,by dsimp only;omega,hres⟩,by dsimp only;omega⟩
  refine WC.seq (Rg (Co (Ei (z:=Av (z:=Nl ?_)))))
  refine WC.condD rfl (fun h9 h9b=>?_) (fun h9 h9b=>?_)
  ·have eT:expT D i x=none:=by
    unfold expT
    rw [if_neg hnemb,if_neg hnop,if_neg h22,if_neg h18,if_neg h10,if_pos h9]
   have eL:expL D i x L=L:=by unfold expL;rw [eT]
   have eN:expN D i x N=N:=by unfold expN;rw [eT]
   have eX:expX D i x=x:=by
    unfold expX
    rw [if_neg hnemb,if_neg hnop,if_neg h22,if_neg h18,if_neg h10]
   have hT9:TextH H1 (wN D (expL D i x L) (expN D i x N)):=by rw [eL,eN];exact hT1
   have hK9:StackH H1 (wN D (expL D i x L) (expN D i x N)) ⟨k,v1,(expX D i x).E,(expX D i x).op,(expX D i x).em,(expX D i x).is⟩:=by rw [eL,eN,eX];exact hK1
   refine WC.skip (Rg (Co (Ad (z:=Mv (z:=Nl ?_)))))
   exact ⟨rfl,(i+1,_,_,_),Ho,⟨by omega,ExpI.next hi0 hb0 hI.iso hI.len hI.op hI.em ⟨_,_,hM1,hT9,hK9⟩,by dsimp only;omega,by dsimp only;omega,hres⟩,by dsimp only;omega⟩
  refine Rg (Mv (z:=Mv (z:=Co ?_)))
  have c1:=plain_sp' (i:=i) hX hM1 hT1 hK1 ⟨hi0,hlt⟩
  refine SV.callM rfl rfl c1 ?_
  rintro v s2 H2 hn2 hM2 ⟨rfl,hT3,hK3⟩
  have eT:expT D i x=some (topM x.E):=by
   unfold expT
   rw [if_neg hnemb,if_neg hnop,if_neg h22,if_neg h18,if_neg h10,if_neg h9]
  have eL:expL D i x L=plainL (topM x.E) L i:=by unfold expL;rw [eT]
  have eN:expN D i x N=plainN (topM x.E) N i:=by unfold expN;rw [eT]
  have eX:expX D i x=x:=by
   unfold expX
   rw [if_neg hnemb,if_neg hnop,if_neg h22,if_neg h18,if_neg h10]
  have hT9:TextH H2 (wN D (expL D i x L) (expN D i x N)):=by rw [eL,eN];exact hT3
  have hK9:StackH H2 (wN D (expL D i x L) (expN D i x N)) ⟨k,v1,(expX D i x).E,(expX D i x).op,(expX D i x).em,(expX D i x).is⟩:=by rw [eL,eN,eX];exact hK3
  refine Nl (Rg (Co (Ad (z:=Mv (z:=Nl ?_)))))
  exact ⟨rfl,(i+1,_,_,_),Ho,⟨by omega,ExpI.next hi0 hb0 hI.iso hI.len hI.op hI.em ⟨_,_,hM2,hT9,hK9⟩,by dsimp only;omega,by dsimp only;omega,hres⟩,by dsimp only;omega⟩
 ·refine WC.exit ?_
  rw [show D.F.length-i.toNat=0 by omega] at hres
  simp only [expM] at hres
  refine fin_none (e:=.normal) rfl trivial hn1 hM1 ⟨rfl,?_⟩
  rw [←hres];exact hT1
end Go.Proofs.Ythkklpegjcnjoaa
