/- A part of the proof: no condition but those that each theorem states. -/
import Derived.Test.YthkklpegjcnjoaaLgA
import Derived.Test.YthkklpegjcnjoaaEvC
import Derived.Test.YthkklpegjcnjoaaEv26
set_option linter.unusedVariables false
set_option linter.unusedSimpArgs false
namespace Go.Ab
noncomputable section
def SlO (H:Hp) (v:Value) (sz:Nat) (n:Nat) (vs:List Value):Prop:=
 (v = .slice none 0 0∧n=0∧vs=[])∨∃ ν c ws,v = .slice (some ⟨ν,0,none⟩) n c∧H ν=some (.row sz ws)∧ws.length=c*sz∧n≤c∧vs=ws.take (n*sz)
def baseV:Value→Option Nat
 | .slice (some a) _ _=>some a.block
 | _=>none
def KeptBut (H H':Hp) (v:Value):Prop:=∀ μ o,H μ=some o→baseV v≠some μ→H' μ=some o
def NewOr (H:Hp) (v v':Value):Prop:=∀ μ,baseV v'=some μ→baseV v=some μ∨H μ=none
def AppEx (H H':Hp) (v v':Value) (sz n0 n:Nat) (vs:List Value):Prop:=
 (baseV v≠none→baseV v'≠none)∧(∀ A l c,v = .slice A l c→c<n→∃ a,v' = .slice (some ⟨a,0,none⟩) n n∧H' a=some (.row sz vs)) ∧
 (∀ a l c,v = .slice (some a) l c→n≤c→v' = .slice (some a) n c)∧(n0=n→∀ μ o,H μ=some o→H' μ=some o)
theorem SlO.length {H:Hp} {v:Value} {sz n:Nat} {vs:List Value} (h:SlO H v sz n vs):vs.length=n*sz:=by
 rcases h with ⟨_,rfl,rfl⟩ | ⟨ν,c,ws,_,_,h1,h2,rfl⟩
 ·simp
 ·rw [List.length_take,h1];exact Nat.min_eq_left (Nat.mul_le_mul_right _ h2)
theorem SlO.kept {H H':Hp} {v u:Value} {sz n:Nat} {vs:List Value} (h:SlO H v sz n vs) (hk:KeptBut H H' u) (hne:∀ μ,baseV v=some μ→baseV u≠some μ):SlO H' v sz n vs:=by
 rcases h with h | ⟨ν,c,ws,rfl,h1,h2⟩
 ·exact .inl h
 ·exact .inr ⟨ν,c,ws,rfl,hk _ _ h1 (hne _ rfl),h2⟩
theorem SlO.up {H:Hp} {v:Value} {sz n μ:Nat} {vs:List Value} {o:Obj} (h:SlO H v sz n vs) (hne:baseV v≠some μ):SlO (H.up μ o) v sz n vs:=by
 rcases h with h | ⟨ν,c,ws,rfl,h1,h2⟩
 ·exact .inl h
 ·exact .inr ⟨ν,c,ws,rfl,Hp.up_ne (fun e=>hne (by rw [←e];rfl)) h1,h2⟩
theorem SlO.base_some {H:Hp} {v:Value} {sz n μ:Nat} {vs:List Value} (h:SlO H v sz n vs) (hb:baseV v=some μ):∃ o,H μ=some o:=by
 rcases h with ⟨rfl,_⟩ | ⟨ν,c,ws,rfl,h1,_⟩
 ·cases hb
 ·cases hb;exact ⟨_,h1⟩
def Src (P:Program) (ro:Nat) (H:Hp) (y:Value) (sz n:Nat) (xs:List Value):Prop:=
 lenOfV y=some n∧xs.length=n*sz∧xs.all oneC=true∧∀ s,Models ro s H→firstL s sz n y=some xs
theorem Src.nil {P:Program} {ro:Nat} {H:Hp} {sz c:Nat}:Src P ro H (.slice none 0 c) sz 0 []:=⟨rfl,by simp,rfl,fun _ _=>rfl⟩
theorem Src.row {P:Program} {ro:Nat} {H:Hp} {ν o es n c sz:Nat} {vs xs:List Value} (hH:H ν=some (.row es vs)) (hx:xs.length=n*sz) (h1:xs.all oneC=true) (hv:∀ i v,xs[i]?=some v→vs[o+i]?=some v) :
 Src P ro H (.slice (some ⟨ν,o,none⟩) n c) sz n xs:=⟨rfl,hx,h1,fun s hM=>by
 simp only [firstL]
 exact ldCells_row hM hH hx hv⟩
section
variable {X:CallE} {P:Program} {ro:Nat} {g:Gm} {s:St} {R:Value→St→Prop} {H:Hp}
theorem growOf_ok {elem:TypeId} {sz n m ν:Nat} {blk:Blk} {ws new:List Value} (hM:Models ro s H) (hb:OkB blk sz ws) (hn:n*sz≤ws.length) (hnew:new.length=m*sz) :
 ∃ b',growOf s elem sz n (n+m) ⟨ν,0,none⟩ blk new=some (.val (.slice (some ⟨s.next,0,none⟩) (n+m) (n+m)) (s.push (.cells b')))∧OkB b' sz (ws.take (n*sz)++new):=by
 obtain ⟨h1,h2,h3,h4,h5⟩:=hb
 refine ⟨{ cells:=T.sets new (n*sz) blk.cells,n:=(n+m)*sz,z:=blk.z,elem:=elem,opn:=true,es:=sz,str:=blk.str,dead:=false },?_,rfl,h2,?_,fun _=>rfl,?_⟩
 ·simp only [growOf,show Nat.ble (n*sz) blk.n=true from Nat.ble_eq.mpr (by rw [h3];exact hn),cond_true,T.setsK_eq,newObjK_eq]
  rfl
 ·simp only [List.length_append,List.length_take,hnew,Nat.min_eq_left hn,Nat.add_mul]
 ·intro i v e
  have hi:i<(n+m)*sz:=by
   have:=(List.getElem?_eq_some_iff.mp e).1
   simp only [List.length_append,List.length_take,hnew,Nat.min_eq_left hn] at this
   rw [Nat.add_mul];exact this
  unfold cellAt
  simp only [show Nat.blt i ((n+m)*sz)=true from Nat.blt_eq.mpr hi,cond_true]
  rw [T.get_sets,hnew]
  rw [List.getElem?_append] at e
  simp only [List.length_take,Nat.min_eq_left hn] at e
  by_cases hc:i<n*sz
  ·rw [if_pos hc,List.getElem?_take,if_pos hc] at e
   rw [if_neg (by omega)]
   have:=h5 i v e
   unfold cellAt at this
   rw [show Nat.blt i blk.n=true from Nat.blt_eq.mpr (by rw [h3];omega),cond_true] at this
   exact this
  ·rw [if_neg hc] at e
   rw [if_pos ⟨by omega,by rw [Nat.add_mul] at hi;omega⟩,e]
theorem models_del {ν:Nat} {O:AObj} (hM:Models ro s H) (hν:ν<s.next):Models ro (s.put ν O) (fun μ=>if μ=ν then none else H μ) where
 low:=hM.low
 ok:=fun μ o e=>by
  by_cases hm:μ=ν
  ·simp only [hm,if_true] at e;cases e
  ·simp only [hm,if_false] at e
   obtain ⟨h1,h2⟩:=hM.ok μ o e
   exact ⟨h1,h2.congr (by rw [St.put_get,if_neg hm])⟩
theorem SV.appendM {x y:Operand} {ts:Array TypeId} {t u e:TypeId} {sz bytes:Nat} {z:List Value} [hT:TSlice P t e sz] [hI:TInfo P e sz bytes] [hZ:TZero P e z] {e':TypeId} {sz':Nat} [hU:TSlice P u e' sz']
 {v w:Value} {n m:Nat} {vs xs:List Value} (hts:ts.toList=[t,u]) (hM:Models ro s H) (hx:og g x=v) (hy:og g y=w) (hv:SlO H v sz n vs) (hw:Src P ro H w sz m xs) (hz:z.length=sz)
 (hb:(n+m)*bytes≤140737488355328∧n+m≤9223372036854775807∧bytes≤16384)
 (hR:∀ v' s' H',s.next≤s'.next→Models ro s' H'→SlO H' v' sz (n+m) (vs++xs)→KeptBut H H' v→NewOr H v v'→AppEx H H' v v' sz n (n+m) (vs++xs)→R v' s'):SV X P ro g (.call ⟨.builtin .append,#[x,y],ts⟩) s R:=by
 obtain ⟨ei,hei,hes,heb⟩:=hI.ok
 obtain ⟨hw1,hw2,hw3,hw4⟩:=hw
 have hf:=hw4 s hM
 have c1:Nat.blt 140737488355328 ((n+m)*bytes)=false:=by cases e:Nat.blt 140737488355328 ((n+m)*bytes) with | false=>rfl | true=>have:=Nat.blt_eq.mp e;omega
 have c2:Nat.blt 9223372036854775807 (n+m)=false:=by cases e:Nat.blt 9223372036854775807 (n+m) with | false=>rfl | true=>have:=Nat.blt_eq.mp e;omega
 have c3:Nat.blt 16384 bytes=false:=by cases e:Nat.blt 16384 bytes with | false=>rfl | true=>have:=Nat.blt_eq.mp e;omega
 have c4:Nat.beq xs.length (m*sz)=true:=by rw [hw2];exact Nat.beq_refl _
 have c5:Nat.beq z.length sz=true:=by rw [hz];exact Nat.beq_refl _
 have unfold0:∀ (t':T Value),t'.get=g→evalOp P ro t' (.call ⟨.builtin .append,#[x,y],ts⟩) s=appendOf P ro s e v w:=fun t' ht=>by
  have hu2:=hU.und
  simp only [evalOp,builtinOf,hts,List.map_cons,List.map_nil,opv_og,ht,hx,hy,hT.und,hu2]
 rcases hv with ⟨rfl,rfl,rfl⟩ | ⟨ν,c,ws,rfl,hH,hwl,hnc,rfl⟩
 ·
  by_cases hm:m=0
  ·subst hm
   have hxs:xs=[]:=List.length_eq_zero_iff.mp (by rw [hw2];simp)
   subst hxs
   refine SV.val (v:=.slice none 0 0) (s':=s) (fun t' ht=>?_) (Nat.le_refl _) (hR _ s H (Nat.le_refl _) hM (.inl ⟨rfl,rfl,rfl⟩) (fun _ _ h _=>h) (fun _ h=>by cases h) ⟨fun h=>h,fun A l c h1 h2=>(by cases h1;omega),fun a l c h1 _=>(by cases h1),fun _ _ _ h=>h⟩)
   rw [unfold0 t' ht]
   simp only [appendOf,hei,hes,hw1,hf,Nat.zero_add,show Nat.ble 0 0=true from rfl,cond_true]
  ·have c0:Nat.ble (0+m) 0=false:=by cases e:Nat.ble (0+m) 0 with | false=>rfl | true=>have:=Nat.ble_eq.mp e;omega
   refine SV.val (v:=.slice (some ⟨s.next,0,none⟩) (0+m) (0+m)) (s':=s.push (rowO e true sz xs)) (fun t' ht=>?_) (Nat.le_succ _)
    (hR _ _ (H.up s.next (.row sz xs)) (Nat.le_succ _) (hM.push ⟨hM.low,_,by rw [St.push_get,if_pos rfl];rfl,okB_row (fun _=>rfl)⟩)
     (.inr ⟨s.next,0+m,xs,rfl,Hp.up_same,by rw [hw2,Nat.zero_add],Nat.le_refl _,by rw [List.nil_append,List.take_of_length_le (by rw [hw2,Nat.zero_add];exact Nat.le_refl _)]⟩)
     (fun μ o h _=>Hp.up_ne (hM.fresh_ne h) h) (fun μ h=>by cases h;exact .inr hM.fresh) ⟨(fun _ h=>by cases h),fun A l c _ _=>⟨s.next,rfl,Hp.up_same⟩,fun a l c h1 _=>(by cases h1),fun h=>by omega⟩)
   rw [unfold0 t' ht]
   simp only [appendOf,hei,hes,heb,hw1,hf,c0,cond_false,c1,c2,c3,hw3,c4,hZ.z,c5,Bool.or_self,Bool.not_true,Bool.false_or,Bool.or_false,show Nat.beq 0 0=true from rfl,cond_true,newRow_eq]
   rfl
 ·obtain ⟨hlt,hro,b,hbg,hbO⟩:=hM.ok ν _ hH
  have hnw:n*sz≤ws.length:=by rw [hwl];exact Nat.mul_le_mul_right _ hnc
  by_cases hfit:n+m≤c
  ·
   have hroom:n*sz+xs.length≤ws.length:=by rw [hw2,hwl,←Nat.add_mul];exact Nat.mul_le_mul_right _ hfit
   obtain ⟨s',h1,h2⟩:=stCells_row hM hH hroom hw3
   refine SV.val (v:=.slice (some ⟨ν,0,none⟩) (n+m) c) (s':=s') (fun t' ht=>?_) (by rw [stCells_next h1];exact Nat.le_refl _)
    (hR _ _ _ (by rw [stCells_next h1];exact Nat.le_refl _) h2 (.inr ⟨ν,c,splice ws (n*sz) xs,rfl,Hp.up_same,by rw [splice_length hroom];exact hwl,hfit,?_⟩)
     (fun μ o h hne=>Hp.up_ne (fun e=>hne (by rw [e];rfl)) h) (fun μ h=>.inl h) ⟨(fun _ h=>by cases h),fun A l c' h1 h2=>(by cases h1;omega),fun a l c' h1 _=>(by cases h1;rfl),fun h=>by
      have hm0:xs=[]:=List.length_eq_zero_iff.mp (by rw [hw2,show m=0 by omega];simp)
      subst hm0
      rw [show splice ws (n*sz) []=ws by unfold splice;simp,Hp.up_self hH]
      exact fun _ _ h=>h⟩)
   ·rw [unfold0 t' ht]
    simp only [appendOf,hei,hes,hw1,hf,show Nat.ble (n+m) c=true from Nat.ble_eq.mpr hfit,cond_true,Nat.zero_add,h1]
   ·unfold splice
    rw [Nat.add_mul,←hw2,List.take_left' (by rw [List.length_append,List.length_take,Nat.min_eq_left hnw])]
  ·have c0:Nat.ble (n+m) c=false:=by cases e:Nat.ble (n+m) c with | false=>rfl | true=>have:=Nat.ble_eq.mp e;omega
   have hlive:liveBlk s ν=some b:=by simp only [liveBlk,hbg,hbO.1,cond_false]
   have post:∀ {s0:St} {H0:Hp} {b':Blk},s0.next=s.next→Models ro s0 H0→(∀ μ o,H0 μ=some o→H μ=some o)→(∀ μ o,H μ=some o→μ≠ν→H0 μ=some o)→OkB b' sz (ws.take (n*sz)++xs) →
    R (.slice (some ⟨s0.next,0,none⟩) (n+m) (n+m)) (s0.push (.cells b')):=fun {s0 H0 b'} hn hM0 hsub hkeep hok=>by
    refine hR _ _ (H0.up s0.next (.row sz (ws.take (n*sz)++xs))) (by rw [St.push_next,hn];omega) (hM0.push ⟨hM0.low,b',by rw [St.push_get,if_pos rfl],hok⟩)
     (.inr ⟨s0.next,n+m,_,rfl,Hp.up_same,by simp only [List.length_append,List.length_take,hw2,Nat.min_eq_left hnw,Nat.add_mul],Nat.le_refl _,?_⟩) (fun μ o h hne=>?_) (fun μ h=>?_) ⟨(fun _ h=>by cases h),fun A l c' _ _=>⟨s0.next,rfl,Hp.up_same⟩,fun a l c' h1 h2=>(by cases h1;omega),fun h=>by omega⟩
    ·exact (List.take_of_length_le (l:=ws.take (n*sz)++xs) (by simp only [List.length_append,List.length_take,hw2,Nat.min_eq_left hnw,Nat.add_mul];exact Nat.le_refl _)).symm
    ·have:μ≠ν:=fun e=>hne (by rw [e];rfl)
     exact Hp.up_ne (hM0.fresh_ne (hkeep μ o h this)) (hkeep μ o h this)
    ·cases h
     right
     rw [hn];exact hM.fresh
   cases hex:exactCap b 0 c with
   | true=>
    obtain ⟨b',g1,g2⟩:=growOf_ok (elem:=e) (ν:=ν) (m:=m) hM hbO hnw hw2
    refine SV.val (v:=.slice (some ⟨s.next,0,none⟩) (n+m) (n+m)) (s':=s.push (.cells b')) (fun t' ht=>?_) (Nat.le_succ _) (post rfl hM (fun _ _ h=>h) (fun _ _ h _=>h) g2)
    rw [unfold0 t' ht]
    simp only [appendOf,hei,hes,heb,hw1,hf,c0,cond_false,c1,c2,c3,hw3,c4,hZ.z,c5,Bool.or_self,Bool.not_true,Bool.false_or,Bool.or_false,hlive,hex,cond_true,g1]
   | false=>
    have hopn:b.opn=true:=by
     cases ho:b.opn with
     | true=>rfl
     | false=>simp [exactCap,ho] at hex
    have hes2:b.es=sz:=hbO.2.2.2.1 hopn
    have hM0:=models_del (O:=.cells { b with dead:=true }) hM hlt
    obtain ⟨b',g1,g2⟩:=growOf_ok (elem:=e) (ν:=ν) (m:=m) hM0 hbO hnw hw2
    refine SV.val (v:=.slice (some ⟨s.next,0,none⟩) (n+m) (n+m)) (s':=(s.put ν (.cells { b with dead:=true })).push (.cells b')) (fun t' ht=>?_) (Nat.le_succ _)
     (post (s0:=s.put ν (.cells { b with dead:=true })) rfl hM0 (fun μ o h=>by by_cases e:μ=ν <;> simp only [e,if_true,if_false] at h <;> first | (cases h;done) | exact h) (fun μ o h hne=>by simp only [hne,if_false];exact h) g2)
    rw [unfold0 t' ht]
    simp only [appendOf,hei,hes,heb,hw1,hf,c0,cond_false,c1,c2,c3,hw3,c4,hZ.z,c5,Bool.or_self,Bool.not_true,Bool.false_or,Bool.or_false,hlive,hex,
     show (Nat.ble ro ν&&Nat.beq b.es sz)=true from by rw [hes2,Bool.and_eq_true];exact ⟨Nat.ble_eq.mpr hro,Nat.beq_refl _⟩,cond_true,setObjK_eq]
    exact g1
theorem bounds_to {len cap k:Nat} {i:Int} (h:i=(k:Int)) (hk:k≤cap):bounds len cap none (some (.int .i64 i)) none=some (0,k,cap):=by
 subst h
 simp only [bounds,boundOr,bound1]
 simp only [show Nat.ble k cap=true from Nat.ble_eq.mpr hk,cond_true,show Nat.ble 0 k=true from Nat.ble_eq.mpr (Nat.zero_le _)]
theorem bounds_all {len cap i j:Nat} {a b:Int} (ha:a=(i:Int)) (hb:b=(j:Int)) (h1:i≤j) (h2:j≤cap):bounds len cap (some (.int .i64 a)) (some (.int .i64 b)) none=some (i,j,cap):=by
 subst ha;subst hb
 simp only [bounds,boundOr,bound1]
 simp only [show Nat.ble j cap=true from Nat.ble_eq.mpr h2,cond_true,show Nat.ble i j=true from Nat.ble_eq.mpr h1]
theorem SV.sliceTo {x hi:Operand} {t e:TypeId} {sz:Nat} [hT:TSlice P t e sz] {v:Value} {n:Nat} {vs:List Value} {i:Int} (hM:Models ro s H) (hx:og g x=v) (hv:SlO H v sz n vs) (hh:og g hi = .int .i64 i) (hi0:0≤i∧i≤n)
 (hR:∀ v',SlO H v' sz i.toNat (vs.take (i.toNat*sz))→baseV v'=baseV v→R v' s):SV X P ro g (.slice t x none (some hi) none) s R:=by
 obtain ⟨k,rfl⟩:∃ k:Nat,i=(k:Int):=⟨i.toNat,by omega⟩
 have hk:k≤n:=by omega
 simp only [Int.toNat_natCast] at hR
 rcases hv with ⟨rfl,rfl,rfl⟩ | ⟨ν,c,ws,rfl,hH,hwl,hnc,rfl⟩
 ·obtain rfl:k=0:=by omega
  refine SV.pure (v:=.slice none 0 0) (fun t' ht=>?_) (hR _ (.inl ⟨rfl,rfl,by simp⟩) rfl)
  simp only [evalOp,opv_og,ht,hx,Option.map_none,Option.map_some,hh,sliceOf,hT.und,hT.sz,bounds_to (len:=0) (cap:=0) rfl (Nat.le_refl 0)]
 ·obtain ⟨hlt,hro,b,hbg,hbO⟩:=hM.ok ν _ hH
  have hlive:liveBlk s ν=some b:=by simp only [liveBlk,hbg,hbO.1,cond_false]
  refine SV.pure (v:=.slice (some ⟨ν,0,none⟩) k c) (fun t' ht=>?_) (hR _ (.inr ⟨ν,c,ws,rfl,hH,hwl,by omega,?_⟩) rfl)
  ·simp only [evalOp,opv_og,ht,hx,Option.map_none,Option.map_some,hh,sliceOf,hT.und,hT.sz,bounds_to (len:=n) rfl (show k≤c by omega),hlive]
   have e:(bif Nat.beq c 0 then (⟨ν,0,none⟩:Addr) else addA ⟨ν,0,none⟩ (0*sz))=⟨ν,0,none⟩:=by rw [Nat.zero_mul];cases Nat.beq c 0 <;> rfl
   have e2:addA (⟨ν,0,none⟩:Addr) (0*sz)=⟨ν,0,none⟩:=by rw [Nat.zero_mul];rfl
   cases hex:exactCap b 0 c with
   | true=>simp only [cond_true,e,Nat.sub_zero]
   | false=>
    have hopn:b.opn=true:=by
     cases ho:b.opn with
     | true=>rfl
     | false=>simp [exactCap,ho] at hex
    simp only [cond_false,show Nat.beq b.es sz=true from by rw [hbO.2.2.2.1 hopn];exact Nat.beq_refl _,cond_true,e2,Nat.sub_zero]
  ·rw [List.take_take,Nat.min_eq_left (Nat.mul_le_mul_right _ hk)]
theorem SV.slicePart {x lo hi:Operand} {t e:TypeId} {sz:Nat} [hT:TSlice P t e sz] {ν n c:Nat} {ws:List Value} {i j:Int} (hM:Models ro s H) (hx:og g x = .slice (some ⟨ν,0,none⟩) n c) (hH:H ν=some (.row sz ws)) (hl:og g lo = .int .i64 i) (hh:og g hi = .int .i64 j)
 (hij:0≤i∧i<j∧j≤c) (hR:R (.slice (some ⟨ν,i.toNat*sz,none⟩) (j.toNat-i.toNat) (c-i.toNat)) s):SV X P ro g (.slice t x (some lo) (some hi) none) s R:=by
 obtain ⟨a,rfl⟩:∃ k:Nat,i=(k:Int):=⟨i.toNat,by omega⟩
 obtain ⟨b',rfl⟩:∃ k:Nat,j=(k:Int):=⟨j.toNat,by omega⟩
 obtain ⟨hlt,hro,b,hbg,hbO⟩:=hM.ok ν _ hH
 have hlive:liveBlk s ν=some b:=by simp only [liveBlk,hbg,hbO.1,cond_false]
 refine SV.pure (fun t' ht=>?_) hR
 have hca:Nat.beq c a=false:=by cases e:Nat.beq c a with | false=>rfl | true=>have:=Nat.eq_of_beq_eq_true e;omega
 simp only [Int.toNat_natCast,evalOp,opv_og,ht,hx,Option.map_none,Option.map_some,hh,hl,sliceOf,hT.und,hT.sz,bounds_all (len:=n) rfl rfl (show a≤b' by omega) (show b'≤c by omega),hlive,hca,cond_false,addA_spot,Nat.zero_add]
 cases hex:exactCap b 0 c with
 | true=>simp only [cond_true]
 | false=>
  have hopn:b.opn=true:=by
   cases ho:b.opn with
   | true=>rfl
   | false=>simp [exactCap,ho] at hex
  simp only [cond_false,show Nat.beq b.es sz=true from by rw [hbO.2.2.2.1 hopn];exact Nat.beq_refl _,cond_true]
theorem repL_length (z:List Value):∀ n,(repeatL z n).length=n*z.length
 | 0=>by simp [repeatL]
 | n+1=>by simp only [repeatL,List.length_append,repL_length z n,Nat.add_mul,Nat.one_mul];omega
theorem repL_get {z:List Value} (hz:z≠[]):∀ (n i:Nat),i<n*z.length→(repeatL z n)[i]?=z[i%z.length]?
 | 0,i,h=>by omega
 | n+1,i,h=>by
  have hp:0<z.length:=List.length_pos_iff.mpr hz
  simp only [repeatL]
  rw [List.getElem?_append]
  by_cases hi:i<z.length
  ·rw [if_pos hi,Nat.mod_eq_of_lt hi]
  ·rw [if_neg hi,repL_get hz n (i-z.length) (by rw [Nat.add_mul] at h;omega)]
   congr 1
   rw [←Nat.mod_eq_sub_mod (by omega)]
theorem SV.makeSliceM {l c:Operand} {t e:TypeId} {sz bytes:Nat} {z:List Value} [hT:TSlice P t e sz] [hI:TInfo P e sz bytes] [hZ:TZero P e z] {kl kc:IntKind} {n m:Int} (hM:Models ro s H) (hl:og g l = .int kl n) (hc:og g c = .int kc m)
 (hb:0≤n∧n≤m∧m≤9223372036854775807∧bytes*m≤281474976710656∧z.length=sz∧0<z.length)
 (hR:∀ a s',H a=none→(∀ ν o,H ν=some o→ν≠a)→s.next≤s'.next→Models ro s' (H.up a (.row sz (repeatL z m.toNat)))→R (.slice (some ⟨a,0,none⟩) n.toNat m.toNat) s'):SV X P ro g (.makeSlice t l c) s R:=by
 obtain ⟨n,rfl⟩:∃ k:Nat,n=(k:Int):=⟨n.toNat,by omega⟩
 obtain ⟨m,rfl⟩:∃ k:Nat,m=(k:Int):=⟨m.toNat,by omega⟩
 obtain ⟨ei,hei,hes,heb⟩:=hI.ok
 obtain ⟨_,h1,h2,h3,h4,h5⟩:=hb
 simp only [Int.toNat_natCast] at hR ⊢
 have hz:z≠[]:=fun e=>by rw [e] at h5;simp at h5
 have h3':bytes*m≤281474976710656:=by
  have:((bytes*m:Nat):Int)=(bytes:Int)*(m:Int):=Int.natCast_mul _ _
  omega
 refine SV.val (v:=.slice (some ⟨s.next,0,none⟩) n m) (s':=s.push (.cells { cells:=.leaf,n:=m*sz,z:=z,elem:=e,opn:=false,es:=0,str:=false,dead:=false })) (fun t' ht=>?_) (Nat.le_succ _)
  (hR _ _ hM.fresh (fun _ _ h=>hM.fresh_ne h) (Nat.le_succ _) (hM.push ⟨hM.low,_,by rw [St.push_get,if_pos rfl],rfl,rfl,by rw [repL_length,h4],(fun h=>by cases h),fun i v hv=>?_⟩))
 ·simp only [evalOp,opv_og,ht,hl,hc,hT.und,hT.sz,hZ.z,hei]
  have e0:(Nat.ble n m&&Nat.ble m 9223372036854775807&&Nat.ble (ei.bytes*m) 281474976710656&&Nat.beq z.length sz)=true:=by
   rw [heb,h4]
   simp only [Bool.and_eq_true]
   exact ⟨⟨⟨Nat.ble_eq.mpr (by omega),Nat.ble_eq.mpr (by omega)⟩,Nat.ble_eq.mpr h3'⟩,Nat.beq_refl _⟩
  show (bif Nat.ble n m&&Nat.ble m 9223372036854775807&&Nat.ble (ei.bytes*m) 281474976710656&&Nat.beq z.length sz then _ else none)=_
  rw [e0]
  simp only [cond_true,newObjK_eq]
  rfl
 ·have hi:i<m*sz:=by
   have:=(List.getElem?_eq_some_iff.mp hv).1
   rwa [repL_length,h4] at this
  unfold cellAt
  simp only [show Nat.blt i (m*sz)=true from Nat.blt_eq.mpr hi,cond_true,T.get_leaf,nth_eq]
  rw [repL_get hz _ _ (by rw [h4];exact hi)] at hv
  exact hv
theorem SV.buildSliceM {t e:TypeId} {sz len:Nat} {z l:List Value} {ps:Array (Nat×Operand)} [hT:TSlice P t e sz] [hZ:TZero P e z] (hM:Models ro s H)
 (hf:fillL (fun i=>some (i*sz,sz)) (repeatL z len) (ps.toList.map fun (i,x)=>(i,og g x))=some l) (hb:(Nat.ble (len*sz) 16777216&&Nat.beq z.length sz)=true)
 (hR:∀ a s',H a=none→(∀ ν o,H ν=some o→ν≠a)→s.next≤s'.next→Models ro s' (H.up a (.row sz l))→R (.slice (some ⟨a,0,none⟩) len len) s'):SV X P ro g (.buildSlice t len ps) s R:=by
 refine SV.val (v:=.slice (some ⟨s.next,0,none⟩) len len) (s':=s.push (rowO e false 0 l)) (fun t' ht=>?_) (Nat.le_succ _)
  (hR _ _ hM.fresh (fun _ _ h=>hM.fresh_ne h) (Nat.le_succ _) (hM.push ⟨hM.low,_,by rw [St.push_get,if_pos rfl];rfl,okB_row (fun h=>by cases h)⟩))
 have e1:opv t'=og g:=by funext x;rw [opv_og,ht]
 simp only [evalOp,e1,hT.und,hT.sz,hZ.z,hb,cond_true,hf,newRow_eq]
 rfl
theorem SV.build {t:TypeId} {z l:List Value} {pl:List (Nat×Nat)} {ps:Array (Nat×Operand)} [hZ:TZero P t z] [hP:TPlaces P t pl] (hf:fillL (nth pl) z (ps.toList.map fun (i,x)=>(i,og g x))=some l) (hR:R (.agg l.toArray) s) :
 SV X P ro g (.build t ps) s R:=by
 obtain ⟨fs,h1,h2⟩:=hP.ok
 refine SV.pure (fun t' ht=>?_) hR
 have e1:opv t'=og g:=by funext x;rw [opv_og,ht]
 simp only [evalOp,e1,hZ.z,h1,h2,hf]
theorem SV.buildA {t e:TypeId} {len sz:Nat} {z l:List Value} {ps:Array (Nat×Operand)} [hZ:TZero P t z] [hA:TArr P t len e sz] (hf:fillL (fun i=>some (i*sz,sz)) z (ps.toList.map fun (i,x)=>(i,og g x))=some l) (hR:R (.agg l.toArray) s) :
 SV X P ro g (.build t ps) s R:=by
 refine SV.pure (fun t' ht=>?_) hR
 have e1:opv t'=og g:=by funext x;rw [opv_og,ht]
 simp only [evalOp,e1,hZ.z,hA.und,hA.sz,hf]
end
end
noncomputable section
theorem Hp.up_fresh {H:Hp} {a μ:Nat} {x o:Obj} (h:∀ ν o,H ν=some o→ν≠a) (h2:H μ=some o):(H.up a x) μ=some o:=Hp.up_ne (h _ _ h2) h2
theorem flat_get {α:Type} (enc:α→List Value) (sz:Nat) (h:∀ a,(enc a).length=sz):∀ (L:List α) (j:Nat) (hj:j<L.length) (i:Nat),i<sz→(L.flatMap enc)[j*sz+i]?=(enc L[j])[i]?
 | [],j,hj,_,_=>absurd hj (by simp)
 | a::L,0,_,i,hi=>by
  simp only [List.flatMap_cons,Nat.zero_mul,Nat.zero_add,List.getElem_cons_zero]
  rw [List.getElem?_append_left (by rw [h];exact hi)]
 | a::L,j+1,hj,i,hi=>by
  simp only [List.flatMap_cons,List.getElem_cons_succ]
  rw [List.getElem?_append_right (by rw [h,Nat.add_mul];omega),h]
  rw [show (j+1)*sz+i-sz=j*sz+i by rw [Nat.add_mul];omega]
  exact flat_get enc sz h L j (by simpa using hj) i hi
theorem flat_length {α:Type} (enc:α→List Value) (sz:Nat) (h:∀ a,(enc a).length=sz):∀ (L:List α),(L.flatMap enc).length=L.length*sz
 | []=>by simp
 | a::L=>by simp only [List.flatMap_cons,List.length_append,h,flat_length enc sz h L,List.length_cons,Nat.add_mul];omega
theorem flat_take {α:Type} (enc:α→List Value) (sz:Nat) (h:∀ a,(enc a).length=sz):∀ (L:List α) (k:Nat),(L.flatMap enc).take (k*sz)=(L.take k).flatMap enc
 | [],k=>by simp
 | a::L,0=>by simp
 | a::L,k+1=>by
  simp only [List.flatMap_cons,List.take_succ_cons]
  rw [List.take_append,h,List.take_of_length_le (by rw [h,Nat.add_mul];omega),show (k+1)*sz-sz=k*sz by rw [Nat.add_mul];omega,flat_take enc sz h L k]
theorem SlO.nonnil {H:Hp} {v:Value} {sz n:Nat} {vs:List Value} (h:SlO H v sz n vs) (hp:0<n):∃ ν c,v = .slice (some ⟨ν,0,none⟩) n c:=by
 rcases h with ⟨_,rfl,_⟩ | ⟨ν,c,ws,rfl,_⟩
 ·omega
 ·exact ⟨ν,c,rfl⟩
theorem SlO.at {α:Type} {H:Hp} {v:Value} {sz n:Nat} {enc:α→List Value} {L:List α} (h:SlO H v sz n (L.flatMap enc)) (he:∀ a,(enc a).length=sz) (hn:L.length=n) (hp:0<n) :
 ∃ ν c ws,v = .slice (some ⟨ν,0,none⟩) n c∧H ν=some (.row sz ws)∧ws.length=c*sz∧n≤c∧ws.take (n*sz)=L.flatMap enc∧∀ (j:Nat) (hj:j<L.length) (i:Nat) (u:Value),(enc L[j])[i]?=some u→ws[j*sz+i]?=some u:=by
 rcases h with ⟨_,rfl,_⟩ | ⟨ν,c,ws,rfl,h1,h2,h3,h4⟩
 ·omega
 ·refine ⟨ν,c,ws,rfl,h1,h2,h3,h4.symm,fun j hj i u hu=>?_⟩
  have hi:i<sz:=by have:=(List.getElem?_eq_some_iff.mp hu).1;rwa [he] at this
  have:=flat_get enc sz he L j hj i hi
  rw [h4] at this
  rw [List.getElem?_take] at this
  have hlt:j*sz+i<n*sz:=by
   have:(j+1)*sz≤n*sz:=Nat.mul_le_mul_right _ (by omega)
   rw [Nat.add_mul] at this;omega
  rw [if_pos hlt,hu] at this
  exact this
section
variable {X:CallE} {P:Program} {ro:Nat} {g:Gm} {s:St} {R:Value→St→Prop} {x y:Operand} {t yt e:TypeId} {n:Nat}
theorem SV.lenO {H:Hp} {ts:Array TypeId} {sz k:Nat} {v:Value} {vs:List Value} [h:TSlice P t e n] (hts:ts.toList=[t]) (hx:og g x=v) (hv:SlO H v sz k vs) (hR:R (.int .i64 k) s) :
 SV X P ro g (.call ⟨.builtin .len,#[x],ts⟩) s R:=by
 rcases hv with ⟨rfl,rfl,_⟩ | ⟨ν,c,ws,rfl,_⟩
 ·exact SV.len hts hx hR
 ·exact SV.len hts hx hR
theorem SV.eqlSlN [h:TSlice P t e n] {a:Addr} {l c l' c':Nat} (hx:og g x = .slice (some a) l c) (hy:og g y = .slice none l' c') (hR:R (.bool false) s):SV X P ro g (.binOp .eql t x y yt) s R:=
 SV.eqlV hx hy rfl (by simp only [eqV,h.und]) hR
theorem SV.eqlPtrN {et:TypeId} (h:P.underlying t=some (.pointer et)) {a:Addr} (hx:og g x = .pointer (some a)) (hy:og g y = .pointer none) (hR:R (.bool false) s):SV X P ro g (.binOp .eql t x y yt) s R:=
 SV.eqlV hx hy rfl (by simp only [eqV,h]) hR
theorem SV.eqlPtrNN {et:TypeId} (h:P.underlying t=some (.pointer et)) (hx:og g x = .pointer none) (hy:og g y = .pointer none) (hR:R (.bool true) s):SV X P ro g (.binOp .eql t x y yt) s R:=
 SV.eqlV hx hy rfl (by simp only [eqV,h]) hR
theorem SV.neqB (h:P.underlying t=some .bool) {a b:Bool} (hx:og g x = .bool a) (hy:og g y = .bool b) (hR:R (.bool (a != b)) s):SV X P ro g (.binOp .neq t x y yt) s R:=
 SV.neqV hx hy rfl (by simp only [eqV,h]) hR
end
section
variable {P:Program} {ro:Nat} {g:Gm} {s:St} {H H2:Hp}
theorem fin_cellA2 {fn:Func} {n a ν es k:Nat} {t:TypeId} {Post:Value→Hp→Prop} {e:Ex} {vs:List Value} [h:TAgg P t k] (hr:fn.results = #[.cell a t]) (he:(match e with | .normal=>True | .ret=>True | _=>False))
 (hv:g a=some (.pointer (some ⟨ν,0,none⟩))) (hH:H ν=some (.row es vs)) (hk:vs.length=k) (hn:n≤s.next) (hM:Models ro s H) (hM2:Models ro s H2) (hP:Post (.agg vs.toArray) H2):FinM P ro n fn Post e g [] s:=
 ⟨he,rfl,_,fun t' ht=>by simp only [retOf,hr,resultsOf,ht,hv,ldVar,h.ag,h.sz,ldCells_row hM hH hk (fun i v e=>by rw [Nat.zero_add];exact e)],hn,H2,hM2,hP⟩
end
end
noncomputable section
theorem thn_n {f:Gm→List Deferred→St→Prop} {Q:Ex→Gm→List Deferred→St→Prop} {g:Gm} {ds:List Deferred} {s:St} (h:f g ds s):thn f Q .normal g ds s:=h
section
variable {X:CallE} {P:Program} {ro:Nat} {g:Gm} {s:St} {H:Hp} {R:Value→St→Prop}
theorem SV.index {t e:TypeId} {len n:Nat} {x ix:Operand} [h:TArr P t len e n] [hc:TCell P e] {cs:Array Value} {k:IntKind} {i:Int} {v:Value} (hx:og g x = .agg cs) (hi:og g ix = .int k i) (h0:0≤i∧i<len) (hv:nth cs.toList i.toNat=some v)
 (hR:R v s):SV X P ro g (.index t x ix) s R:=by
 refine SV.pure (fun t' ht=>?_) hR
 obtain ⟨m,rfl⟩:∃ m:Nat,i=Int.ofNat m:=⟨i.toNat,by simp;omega⟩
 have hlt:Nat.blt m len=true:=by rw [Nat.blt_eq];have:=h0.2;simp at this;omega
 have hn:szOf P e=some 1:=hc.sz
 simp only [evalOp,opv_og,ht,hx,hi,h.und,hlt,cond_true,hn,partOf,hc.ag,Nat.mul_one]
 have:m=(Int.ofNat m).toNat:=rfl
 rw [this,hv]
end
def encM (L:List (Int×Value)):List (Value×Value):=L.map fun p=>(.int .i64 p.1,p.2)
def mget:List (Int×Value)→Int→Option Value
 | [],_=>none
 |(a,v)::L,k=>if k=a then some v else mget L k
def mput:List (Int×Value)→Int→Value→List (Int×Value)
 | [],k,v=>[(k,v)]
 |(a,w)::L,k,v=>if k=a then (k,v)::L else (a,w)::mput L k v
theorem mget_mput (k:Int) (v:Value) (j:Int):∀ L,mget (mput L k v) j=if j=k then some v else mget L j
 | []=>rfl
 |(a,w)::L=>by
  unfold mput
  split
  ·rename_i h;subst h;simp only [mget]
   split <;> rfl
  ·rename_i h
   simp only [mget,mget_mput k v j L]
   by_cases e:j=a
   ·rw [if_pos e,if_neg (fun e2=>h (e2.symm.trans e))];simp [e]
   ·rw [if_neg e]
    split <;> rfl
theorem findK_enc (k:Int) (w:Value):∀ (L:List (Int×Value)) (es:List MapEntry) (n:Nat),es.map (fun e=>(e.key,e.val))=encM L →
 (match mget L k with
  | none=>findK (.int .i64) (.int .i64 k) es n=some none∧∀ b,(es++[({ key:=.int .i64 k,val:=w,born:=b }:MapEntry)]).map (fun e:MapEntry=>(e.key,e.val))=encM (mput L k w)
  | some v=>∃ i,findK (.int .i64) (.int .i64 k) es n=some (some (n+i,v))∧(setAt (fun e:MapEntry=>{ e with key:=.int .i64 k,val:=w }) es i).map (fun e=>(e.key,e.val))=encM (mput L k w))
 | [],[],n,_=>⟨rfl,fun b=>rfl⟩
 | [],_::_,n,h=>by cases h
 | _::_,[],n,h=>by cases h
 |(a,v)::L,e::es,n,h=>by
  simp only [encM,List.map_cons,List.cons.injEq,Prod.mk.injEq] at h
  obtain ⟨⟨h1,h2⟩,h3⟩:=h
  have ih:=findK_enc k w L es (n+1) h3
  unfold mget mput
  have hs:sameKey (.int .i64) (.int .i64 k) e.key=some (decide (k=a)):=by
   rw [h1];simp only [sameKey,if_true,eqI_eq];rfl
  by_cases hk:k=a
  ·rw [if_pos hk,if_pos hk]
   refine ⟨0,?_,?_⟩
   ·simp only [findK,hs,decide_eq_true hk,h2,Nat.add_zero]
   ·simp only [setAt,List.map_cons,encM];rw [h3]
  ·rw [if_neg hk,if_neg hk]
   cases hm:mget L k with
   | none=>
    rw [hm] at ih
    refine ⟨by simp only [findK,hs,decide_eq_false hk];exact ih.1,fun b=>?_⟩
    rw [List.cons_append,List.map_cons,ih.2 b,h1,h2];rfl
   | some u=>
    rw [hm] at ih
    obtain ⟨i,e1,e2⟩:=ih
    refine ⟨i+1,?_,?_⟩
    ·simp only [findK,hs,decide_eq_false hk,e1];congr 3;omega
    ·simp only [setAt,List.map_cons];rw [e2,h1,h2];rfl
section
variable {X:CallE} {P:Program} {ro:Nat} {g:Gm} {s:St} {H:Hp} {R:Value→St→Prop}
theorem SV.makeMapM {t:TypeId} (hM:Models ro s H) (hR:∀ a s',H a=none→(∀ ν o,H ν=some o→ν≠a)→s.next≤s'.next→Models ro s' (H.up a (.map (encM [])))→R (.map (some a)) s'):SV X P ro g (.makeMap t none) s R:=by
 refine SV.val (s':=s.push (.map [] 0)) (fun t' ht=>?_) (Nat.le_succ _) (hR _ _ hM.fresh (fun _ _ h=>hM.fresh_ne h) (Nat.le_succ _) (hM.push ⟨hM.low,[],0,?_,rfl⟩))
 ·simp only [evalOp,newObjK_eq];rfl
 ·rw [St.push_get,if_pos rfl]
theorem SV.lookupM {t ke e:TypeId} {x y:Operand} [h:TMap P t ke e (.int .i64)] {ν:Nat} {L:List (Int×Value)} {k:Int} {z v:Value} (hM:Models ro s H) (hx:og g x = .map (some ν)) (hy:og g y = .int .i64 k) (hH:H ν=some (.map (encM L)))
 (hz:zeroOf P e=some z) (hv:(mget L k).getD z=v) (hR:R v s):SV X P ro g (.lookup t x y false) s R:=by
 refine SV.pure (fun t' ht=>?_) hR
 obtain ⟨_,_,es,c,he,hm⟩:=hM.ok _ _ hH
 have hf:=findK_enc k z L es 0 hm
 simp only [evalOp,opv_og,ht,hx,hy,lookupOf,h.und,h.key,basicKey,cond_true,mapOf,he]
 cases hg:mget L k with
 | none=>rw [hg] at hf hv;simp only [hf.1,hz,cond_false];rw [←hv];rfl
 | some u=>rw [hg] at hf hv;obtain ⟨i,e1,_⟩:=hf;simp only [e1,cond_false];rw [←hv];rfl
theorem SV.mapUpdateM {t ke e:TypeId} {x y w:Operand} [h:TMap P t ke e (.int .i64)] {ν:Nat} {L:List (Int×Value)} {k:Int} {v:Value} (hM:Models ro s H) (hx:og g x = .map (some ν)) (hy:og g y = .int .i64 k) (hw:og g w=v) (hH:H ν=some (.map (encM L)))
 (hR:∀ s',s.next≤s'.next→Models ro s' (H.up ν (.map (encM (mput L k v))))→R und s'):SV X P ro g (.mapUpdate t x y w) s R:=by
 obtain ⟨hlt,hro,es,c,he,hm⟩:=hM.ok _ _ hH
 have hf:=findK_enc k v L es 0 hm
 have hbl:Nat.ble ro ν=true:=Nat.ble_eq.mpr hro
 cases hg:mget L k with
 | none=>
  rw [hg] at hf
  refine SV.val (s':=s.put ν (.map (es++[{ key:=.int .i64 k,val:=v,born:=c }]) (c+1))) (fun t' ht=>?_) (Nat.le_refl _) (hR _ (Nat.le_refl _) (hM.put hlt ⟨hro,es++[{ key:=.int .i64 k,val:=v,born:=c }],c+1,?_,hf.2 c⟩))
  ·simp only [evalOp,opv_og,ht,hx,hy,hw,mapUpd,h.und,h.key,mapOf,he,basicKey,hbl,Bool.and_self,cond_true,hf.1,setObjK_eq];rfl
  ·rw [St.put_get,if_pos rfl]
 | some u=>
  rw [hg] at hf
  obtain ⟨i,e1,e2⟩:=hf
  rw [Nat.zero_add] at e1
  refine SV.val (s':=s.put ν (.map (setAt (fun e:MapEntry=>{ e with key:=.int .i64 k,val:=v }) es i) c)) (fun t' ht=>?_) (Nat.le_refl _) (hR _ (Nat.le_refl _) (hM.put hlt ⟨hro,setAt (fun e:MapEntry=>{ e with key:=.int .i64 k,val:=v }) es i,c,?_,e2⟩))
  ·simp only [evalOp,opv_og,ht,hx,hy,hw,mapUpd,h.und,h.key,mapOf,he,basicKey,hbl,Bool.and_self,cond_true,e1,setObjK_eq];rfl
  ·rw [St.put_get,if_pos rfl]
end
end
noncomputable section
theorem Src.rd {P:Program} {ro:Nat} {H:Hp} {ν o n c sz:Nat} {f:Nat→Option Value} {xs:List Value} (hH:H ν=some (.rd f)) (hx:xs.length=n*sz) (h1:xs.all oneC=true) (hv:∀ i v,xs[i]?=some v→f (o+i)=some v) :
 Src P ro H (.slice (some ⟨ν,o,none⟩) n c) sz n xs:=⟨rfl,hx,h1,fun s hM=>by
 have hr:=(hM.ok ν _ hH).2
 simp only [firstL]
 rw [←hx]
 cases xs with
 | nil=>rfl
 | cons x xs=>
  have h0:=hr _ _ (hv 0 x rfl)
  unfold ldCell at h0
  cases hb:liveBlk s ν with
  | none=>rw [hb] at h0;cases h0
  | some b=>
   simp only [List.length_cons,ldCells,hb]
   refine cellsFrom_of _ _ _ rfl fun i v e=>?_
   have:=hr _ _ (hv i v e)
   unfold ldCell at this
   rw [hb] at this
   exact this⟩
end
noncomputable section
theorem evX_callS {P:Program} {B ro:Nat} {X:CallE} (hn:namesOk P=true) (hX:CallS P B ro X):∀ k,CallS P B ro (evX X P ro k)
 | 0=>hX
 | k+1=>fun f args s r h=>by
  unfold evX at h
  split at h
  ·rename_i r' h'
   cases h
   exact hX f args s _ h'
  ·exact layer_sim (fnsOf_ok hn) (evX_callS hn hX k) k f args s r h
theorem Step.ofBelow {B ro:Nat} {ρ:Ren} {s:St} {w w':World} (h:Rel B ro ρ s.heap.get w) (hb:Go.RowKit.Below w.heap.size w w'):Step B ro ρ s w ρ s w' where
 le:=Ren.le_refl ρ
 next:=Nat.le_refl _
 dom:=fun ν i h1 h2=>by rw [h1] at h2;cases h2
 rel:={ base:=Nat.le_trans h.base hb.size,inb:=fun ν i e=>Nat.lt_of_lt_of_le (h.inb ν i e) hb.size,own:=h.own,rdo:=h.rdo,inj:=h.inj,obj:=fun ν i o e1 e2=>(h.obj ν i o e1 e2).congr (hb.block _ (h.inb ν i e1)) }
 blk:=fun ν i h1 h2=>by rw [h1] at h2;cases h2
 frm:=fun β hβ _=>hb.block β hβ
 liv:=fun _ _ _ h=>h
 siz:=hb.size
 os:=hb.os
 tape:=hb.tape
 output:=hb.output
 wf:=id
theorem calls_of_sp {P:Program} {ro:Nat} {X:CallE} {f:FuncId} {args:List Value} {s:St} {ρ:Ren} {W:World} {args':Array Value} (hn:namesOk P=true) (hX:CallS P W.heap.size ro X)
 (h:Sp X P ro f args s fun v _=>v = .bool true) (hr:Rel W.heap.size ro ρ s.heap.get W) (hro:ro≤s.next) (hwf:Wf s) (ha:VRs ρ args args'.toList) (hf:∀ s',Fresh ρ s s') :
 Calls P f args' W fun e W'=>e = .returned (.bool true)∧Go.RowKit.Below W.heap.size W W':=by
 obtain ⟨v,s',⟨K,hK⟩,_,H',_,rfl⟩:=h
 obtain ⟨_,hc⟩:=evX_callS hn hX K f args s _ (hK K (Nat.le_refl _)) ρ W args' hr hro hwf ha (hf _)
 refine hc.mono fun e W' ⟨ρ',h1,h2⟩=>⟨?_,h1.below hr⟩
 cases e with
 | returned v'=>rw [VR.bool_inv h2]
 | panicked c=>exact h2.elim
 | outgrown=>exact h2.elim
end
noncomputable section
structure Handed (W:World) (a:Option Addr) (len cap:Nat) (C:List Int):Prop where
 long:C.length=len
 nil:a=none→len=0∧cap=0
 spot:∀ x,a=some x→x.spot=none∧∃ cs t fr,W.heap[x.block]?=some (.cells cs t fr)
 cell:∀ x,a=some x→∀ i v,C[i]?=some v→W.cell? (x.add i)=some (.int .i64 v)
def hObj (off:Nat) (C:List Int) (n:Nat):AObj:=.cells { cells:=T.sets (C.map (.int .i64)) off .leaf,n,z:=[],elem:=0,opn:=false,es:=0,str:=true,dead:=false }
theorem hCell {off:Nat} {C:List Int} {n i:Nat} {v:Value} (h:cellAt { cells:=T.sets (C.map (Value.int .i64)) off .leaf,n,z:=[],elem:=0,opn:=false,es:=0,str:=true,dead:=false } i=some v):off≤i∧(C.map (Value.int .i64))[i-off]?=some v:=by
 simp only [cellAt,T.get_sets,T.get_leaf] at h
 cases hb:Nat.blt i n with
 | false=>rw [hb] at h;cases h
 | true=>
  rw [hb] at h
  simp only [cond_true] at h
  by_cases hc:off≤i∧i<off+(C.map (Value.int .i64)).length
  ·rw [if_pos hc] at h
   refine ⟨hc.1,?_⟩
   rw [List.getElem?_eq_getElem (by omega)] at h ⊢
   exact h
  ·rw [if_neg hc] at h
   cases h
theorem hCellB {off:Nat} {C:List Int} {n i:Nat} {v:Value} (hn:off+C.length≤n) (h0:off≤i) (h:(C.map (Value.int .i64))[i-off]?=some v) :
 cellAt { cells:=T.sets (C.map (Value.int .i64)) off .leaf,n,z:=[],elem:=0,opn:=false,es:=0,str:=true,dead:=false } i=some v:=by
 have hl:=(List.getElem?_eq_some_iff.mp h).1
 have hl2:=hl
 rw [List.length_map] at hl2
 simp only [cellAt,T.get_sets]
 rw [show Nat.blt i n=true from Nat.blt_eq.mpr (by omega),cond_true,if_pos ⟨h0,by omega⟩,h]
end
noncomputable section
structure ItAt (ro:Nat) (s:St) (H:Hp) (ν:Nat) (b:ByteArray) (p:Nat):Prop where
 low:ro≤ν
 lt:ν<s.next
 get:s.heap.get ν=some (.siter b p)
 new:∀ μ o,H μ=some o→μ≠ν
inductive Runes (b:ByteArray):Nat→List Int→Prop where
 | nil {p:Nat} (h:b.data.toList.length≤p):Runes b p []
 | cons {p c w:Nat} {l:List Int} (h:p<b.data.toList.length) (hd:Utf8.decode b p=(c,w)) (hr:Runes b (p+w) l):Runes b p ((c:Int)::l)
section
variable {X:CallE} {P:Program} {ro:Nat} {g:Gm} {s:St} {R:Value→St→Prop} {H:Hp}
theorem SV.rangeStr {t:TypeId} {x:Operand} {b:ByteArray} (hM:Models ro s H) (ht:P.underlying t=some .string) (hx:og g x = .string b)
 (hR:∀ a s',s.next≤s'.next→Models ro s' H→ItAt ro s' H a b 0→R (.pointer (some ⟨a,0,none⟩)) s'):SV X P ro g (.range t x) s R:=by
 refine SV.val (v:=.pointer (some ⟨s.next,0,none⟩)) (s':=s.push (.siter b 0)) (fun t' ht'=>?_) (Nat.le_succ _) (hR _ _ (Nat.le_succ _) ⟨Nat.le_succ_of_le hM.low,fun ν o e=>?_⟩ ⟨hM.low,Nat.lt_succ_self _,by rw [St.push_get,if_pos rfl],fun ν o e=>hM.fresh_ne e⟩)
 ·simp only [evalOp,rangeOf,opv_og,ht',ht,hx,newObjK_eq];rfl
 ·obtain ⟨h1,h2⟩:=hM.ok ν o e
  exact ⟨Nat.lt_succ_of_lt h1,h2.congr (by rw [St.push_get,if_neg (by omega)])⟩
theorem SV.nextStr {x:Operand} {b:ByteArray} {p c w a:Nat} (hM:Models ro s H) (hI:ItAt ro s H a b p) (hx:og g x = .pointer (some ⟨a,0,none⟩)) (hp:p<b.data.toList.length) (hd:Utf8.decode b p=(c,w))
 (hR:∀ s',s.next≤s'.next→Models ro s' H→ItAt ro s' H a b (p+w)→R (.tuple #[.bool true,.int .i64 p,.int .i32 c]) s'):SV X P ro g (.next x true) s R:=by
 refine SV.val (v:=.tuple #[.bool true,.int .i64 p,.int .i32 c]) (s':=s.put a (.siter b (p+w))) (fun t' ht'=>?_) (Nat.le_refl _) (hR _ (Nat.le_refl _) ⟨hM.low,fun ν o e=>?_⟩ ⟨hI.low,hI.lt,by rw [St.put_get,if_pos rfl],hI.new⟩)
 ·simp only [evalOp,nextOf,opv_og,ht',hx,hI.get,setObjK_eq,hd,show Nat.ble ro a=true from Nat.ble_eq.mpr hI.low,show Nat.blt p b.data.toList.length=true from Nat.blt_eq.mpr hp,cond_true];rfl
 ·obtain ⟨h1,h2⟩:=hM.ok ν o e
  exact ⟨h1,h2.congr (by rw [St.put_get,if_neg (hI.new ν o e)])⟩
theorem SV.nextEnd {x:Operand} {b:ByteArray} {p a:Nat} (hI:ItAt ro s H a b p) (hx:og g x = .pointer (some ⟨a,0,none⟩)) (hp:b.data.toList.length≤p) (hR:R (.tuple #[.bool false]) s):SV X P ro g (.next x true) s R:=by
 refine SV.pure (fun t' ht'=>?_) hR
 simp only [evalOp,nextOf,opv_og,ht',hx,hI.get,show Nat.ble ro a=true from Nat.ble_eq.mpr hI.low,show Nat.blt p b.data.toList.length=false from by
  cases e:Nat.blt p b.data.toList.length with
  | false=>rfl
  | true=>exact absurd (Nat.blt_eq.mp e) (by omega),cond_true,cond_false]
theorem SV.convI {src dst:TypeId} {x:Operand} {d:TypeDesc} {k k':IntKind} {n:Int} (h1:P.underlying src=some d) (h2:P.underlying dst=some (.int k)) (hx:og g x = .int k' n) (hR:R (.int k (wrapK k n)) s):SV X P ro g (.convert src dst x) s R:=by
 refine SV.pure (fun t' ht'=>?_) hR
 simp only [evalOp,convOf,opv_og,ht',h1,h2,hx]
theorem SV.conv64 {src dst:TypeId} {x:Operand} {d:TypeDesc} {k':IntKind} {n:Int} (h1:P.underlying src=some d) (h2:P.underlying dst=some (.int .i64)) (hx:og g x = .int k' n) (hn : -9223372036854775808≤n∧n<9223372036854775808) (hR:R (.int .i64 n) s) :
 SV X P ro g (.convert src dst x) s R:=SV.convI h1 h2 hx (by rw [wrap64 hn];exact hR)
end
end
noncomputable section
structure HRow where
 (x:Addr) (n:Nat) (C:List Int)
def hTr (D:Nat→Option HRow):Nat→T AObj
 | 0=>.leaf
 | k+1=>match D k with | some d=>T.set (hTr D k) k (hObj d.x.off d.C d.n) | none=>hTr D k
theorem hTr_get (D:Nat→Option HRow):∀ (k ν:Nat),(hTr D k).get ν=if ν<k then (D ν).map (fun d=>hObj d.x.off d.C d.n) else none
 | 0,ν=>by simp [hTr,T.get_leaf]
 | k+1,ν=>by
  have ih:=hTr_get D k ν
  simp only [hTr]
  cases hD:D k with
  | none=>
   simp only
   rw [ih]
   by_cases h:ν<k
   ·rw [if_pos h,if_pos (by omega)]
   ·rw [if_neg h]
    by_cases e:ν=k
    ·rw [if_pos (by omega),e,hD];rfl
    ·rw [if_neg (by omega)]
  | some d=>
   simp only
   rw [T.get_set,ih]
   by_cases e:ν=k
   ·rw [if_pos e,if_pos (by omega),e,hD];rfl
   ·rw [if_neg e]
    by_cases h:ν<k
    ·rw [if_pos h,if_pos (by omega)]
    ·rw [if_neg h,if_neg (by omega)]
def hStN (D:Nat→Option HRow) (k:Nat):St:=⟨hTr D k,k⟩
def hHpN (D:Nat→Option HRow) (k:Nat):Hp:=fun ν=>if ν<k then (D ν).map (fun d=>.rd fun i=>if d.x.off≤i then (d.C.map (Value.int .i64))[i-d.x.off]? else none) else none
def hRho (D:Nat→Option HRow) (k:Nat):Ren:=fun ν=>if ν<k then (D ν).map (fun d=>⟨d.x.block,0,d.n,d.n,0,false,true⟩) else none
structure HRow.Ok (W:World) (d:HRow):Prop where
 spot:d.x.spot=none
 blk:∃ cs t fr,W.heap[d.x.block]?=some (.cells cs t fr)∧cs.size=d.n
 fit:d.C=[]∨d.x.off+d.C.length≤d.n
 cell:∀ i v,d.C[i]?=some v→W.cell? (d.x.add i)=some (.int .i64 v)
theorem hModelsN {D:Nat→Option HRow} {k:Nat} (hD:∀ ν d,ν<k→D ν=some d→d.C=[]∨d.x.off+d.C.length≤d.n):Models k (hStN D k) (hHpN D k) where
 low:=Nat.le_refl _
 ok:=fun ν o e=>by
  unfold hHpN at e
  by_cases hν:ν<k
  ·rw [if_pos hν] at e
   cases hd:D ν with
   | none=>rw [hd] at e;cases e
   | some d=>
    rw [hd] at e
    cases e
    refine ⟨hν,fun i v h=>?_⟩
    by_cases h0:d.x.off≤i
    ·simp only [if_pos h0] at h
     have hg:(hStN D k).heap.get ν=some (hObj d.x.off d.C d.n):=by unfold hStN;rw [hTr_get,if_pos hν,hd];rfl
     simp only [ldCell,liveBlk,hg,hObj,cond_false]
     rcases hD ν d hν hd with e | hn
     ·rw [e] at h;cases h
     ·exact hCellB hn h0 h
    ·simp only [if_neg h0] at h;cases h
  ·rw [if_neg hν] at e;cases e
theorem hSrcN {P:Program} {D:Nat→Option HRow} {k ν:Nat} {d:HRow} {H:Hp} {len cap:Nat} (hν:ν<k) (hd:D ν=some d) (hl:d.C.length=len) (hH:∀ μ o,hHpN D k μ=some o→H μ=some o):Src P k H (.slice (some ⟨ν,d.x.off,none⟩) len cap) 1 len (d.C.map (.int .i64)):=
 Src.rd (hH ν _ (by unfold hHpN;rw [if_pos hν,hd];rfl)) (by rw [List.length_map,hl,Nat.mul_one]) (by rw [List.all_map];simp [oneC]) fun i v h=>by
  rw [if_pos (Nat.le_add_right _ _),Nat.add_sub_cancel_left];exact h
theorem hRelN {W:World} {D:Nat→Option HRow} {k:Nat} (hD:∀ ν d,ν<k→D ν=some d→d.Ok W):Rel W.heap.size k (hRho D k) (hStN D k).heap.get W where
 base:=Nat.le_refl _
 inb:=fun ν i e=>by
  unfold hRho at e
  by_cases hν:ν<k
  ·rw [if_pos hν] at e
   cases hd:D ν with
   | none=>rw [hd] at e;cases e
   | some d=>
    rw [hd] at e;cases e
    obtain ⟨cs,t,fr,hb,_⟩:=(hD ν d hν hd).blk
    exact (Array.getElem?_eq_some_iff.mp hb).1
  ·rw [if_neg hν] at e;cases e
 own:=fun ν i e h=>by unfold hRho at e;rw [if_neg (by omega)] at e;cases e
 rdo:=fun ν i e h=>by
  unfold hRho at e
  rw [if_pos h] at e
  cases hd:D ν with
  | none=>rw [hd] at e;cases e
  | some d=>
   rw [hd] at e;cases e
   obtain ⟨cs,t,fr,hb,_⟩:=(hD ν d h hd).blk
   exact (Array.getElem?_eq_some_iff.mp hb).1
 inj:=fun ν μ i j e1 e2 r1 r2 _ _ _=>by unfold hRho at e1;rw [if_neg (by omega)] at e1;cases e1
 obj:=fun ν i o e e'=>by
  unfold hRho at e
  unfold hStN at e'
  rw [hTr_get] at e'
  by_cases hν:ν<k
  ·rw [if_pos hν] at e e'
   cases hd:D ν with
   | none=>rw [hd] at e;cases e
   | some d=>
    rw [hd] at e e';cases e;cases e'
    obtain ⟨hs,⟨cs,t,fr,hb,hsz⟩,_,hc⟩:=hD ν d hν hd
    refine ⟨rfl,rfl,rfl,fun _=>⟨cs,t,fr,hb,hsz,by simp,(fun h=>by cases h),(fun h=>by cases h),fun _=>⟨rfl,rfl⟩,fun j v h=>?_⟩⟩
    obtain ⟨h1,h2⟩:=hCell h
    rw [List.getElem?_map] at h2
    cases hv:d.C[j-d.x.off]? with
    | none=>rw [hv] at h2;cases h2
    | some z=>
     rw [hv] at h2;cases h2
     have hw:=hc _ _ hv
     refine ⟨.int .i64 z,?_,.int _ _⟩
     simp only [Nat.zero_add]
     obtain ⟨⟨xb,xo,xs⟩,n,C⟩:=d
     simp only at hs hb h1 hw
     subst hs
     have ha:(⟨xb,xo,none⟩:Addr).add (j-xo)=⟨xb,j,none⟩:=by
      unfold Addr.add
      by_cases hz:j-xo=0
      ·rw [if_pos hz];congr 1;omega
      ·rw [if_neg hz];congr 1;simp only;omega
     rw [ha] at hw
     simpa [World.cell?,hb] using hw
  ·rw [if_neg hν] at e;cases e
theorem hVR {D:Nat→Option HRow} {k ν:Nat} {d:HRow} (hν:ν<k) (hd:D ν=some d) (hs:d.x.spot=none) (len cap:Nat):VR (hRho D k) (.slice (some ⟨ν,d.x.off,none⟩) len cap) (.slice (some d.x) len cap):=by
 obtain ⟨⟨xb,xo,xs⟩,n,C⟩:=d
 simp only at hs
 subst hs
 exact VR.slc (i:=⟨xb,0,n,n,0,false,true⟩) (by unfold hRho;rw [if_pos hν,hd];rfl) (.inl ⟨(Nat.zero_add _).symm,rfl⟩)
theorem calls_of_rows {P:Program} {f:FuncId} {W:World} {D:Nat→Option HRow} {k:Nat} {args:List Value} {args':Array Value} (hn:namesOk P=true) (hD:∀ ν d,ν<k→D ν=some d→d.Ok W) (ha:VRs (hRho D k) args args'.toList)
 (X:CallE) (hX:CallS P W.heap.size k X) (h:Sp X P k f args (hStN D k) fun v _=>v = .bool true) :
 Calls P f args' W fun e W'=>e = .returned (.bool true)∧Go.RowKit.Below W.heap.size W W':=
 calls_of_sp hn hX h (hRelN hD) (Nat.le_refl _) (fun ν o e=>by
  unfold hStN at e ⊢
  rw [hTr_get] at e
  by_cases hν:ν<k
  ·exact hν
  ·rw [if_neg hν] at e;cases e) ha fun s' ν h1 _=>if_neg (by have:k≤ν:=h1;omega)
def Handed.row {W:World} {a:Option Addr} (C:List Int):Option HRow:=a.map fun x=>⟨x,(match W.heap[x.block]? with | some (.cells cs _ _)=>cs.size | _=>0),C⟩
theorem Handed.ok {W:World} {a:Option Addr} {len cap:Nat} {C:List Int} (h:Handed W a len cap C) {d:HRow} (hd:Handed.row (W:=W) (a:=a) C=some d):d.Ok W∧a=some d.x∧d.C=C:=by
 cases a with
 | none=>cases hd
 | some x=>
  cases hd
  obtain ⟨hs,cs,t,fr,hb⟩:=h.spot x rfl
  refine ⟨⟨hs,⟨cs,t,fr,hb,by simp only [hb]⟩,?_,h.cell x rfl⟩,rfl,rfl⟩
  simp only [hb]
  cases hC:C with
  | nil=>exact .inl rfl
  | cons z l=>
   refine .inr ?_
   have hlast:C[C.length-1]?=some (C[C.length-1]'(by rw [hC];simp)):=List.getElem?_eq_getElem _
   have hw:=h.cell x rfl _ _ hlast
   have h2:(x.add (C.length-1)).block=x.block∧(x.add (C.length-1)).off=x.off+(C.length-1):=by
    unfold Addr.add
    by_cases hz:C.length-1=0
    ·rw [if_pos hz];exact ⟨rfl,by omega⟩
    ·rw [if_neg hz];exact ⟨rfl,rfl⟩
   unfold World.cell? at hw
   rw [h2.1,hb] at hw
   simp only at hw
   split at hw
   ·cases hw
   ·have:=(Array.getElem?_eq_some_iff.mp hw).1
    rw [h2.2] at this
    have hp:0<C.length:=by rw [hC];simp
    rw [←hC];omega
theorem Handed.src {P:Program} {W:World} {a:Option Addr} {len cap:Nat} {C:List Int} (h:Handed W a len cap C) {D:Nat→Option HRow} {k ν:Nat} (hν:ν<k) (hd:D ν=Handed.row (W:=W) (a:=a) C) {H:Hp} (hH:∀ μ o,hHpN D k μ=some o→H μ=some o) :
 Src P k H (.slice (a.map fun x=>⟨ν,x.off,none⟩) len cap) 1 len (C.map (.int .i64)):=by
 cases a with
 | none=>
  obtain ⟨rfl,rfl⟩:=h.nil rfl
  obtain rfl:C=[]:=List.length_eq_zero_iff.mp h.long
  exact Src.nil
 | some x=>exact hSrcN (d:=⟨x,_,C⟩) hν hd h.long hH
theorem Handed.vr {W:World} {a:Option Addr} {len cap:Nat} {C:List Int} (h:Handed W a len cap C) {D:Nat→Option HRow} {k ν:Nat} (hν:ν<k) (hd:D ν=Handed.row (W:=W) (a:=a) C):VR (hRho D k) (.slice (a.map fun x=>⟨ν,x.off,none⟩) len cap) (.slice a len cap):=by
 cases a with
 | none=>exact .slcNil _ _
 | some x=>exact hVR (d:=⟨x,_,C⟩) hν hd (h.spot x rfl).1 len cap
end
end Go.Ab
