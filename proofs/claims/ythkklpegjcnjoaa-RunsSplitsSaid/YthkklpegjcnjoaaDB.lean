/- A part of the proof: no condition but those that each theorem states. -/
import Derived.Test.YthkklpegjcnjoaaPA
import Derived.Test.YthkklpegjcnjoaaQA
import Derived.Test.YthkklpegjcnjoaaDA
import Derived.Test.YthkklpegjcnjoaaLgT
set_option linter.unusedVariables false
set_option linter.unusedSimpArgs false
namespace Go.Proofs.Ythkklpegjcnjoaa
open Go.Ab
theorem match_keep {F:List Int}:∀ (r:Nat) (i:Int) (O M:List Int) (o:Int),0≤o→o<i→o∉O→(∀ x∈O,0≤x∧x<i)→i+r≤M.length→rd (matchM F r i O M) o=rd M o
 | 0,_,_,_,_,_,_,_,_,_=>rfl
 | r+1,i,O,M,o,h0,h1,hn,hO,hl=>by
  push_cast at hl
  have hset:∀ x:Int,rd (M.set i.toNat x) o=rd M o:=fun x=>by rw [rd_set (by omega) h0 (by omega),if_neg (by omega)]
  have hO1:∀ x∈O,0≤x∧x<i+1:=fun x hx=>by have:=hO x hx;omega
  simp only [matchM]
  have key:o∉matchO F i O∧(∀ x∈matchO F i O,0≤x∧x<i+1)∧rd (matchS F i O M) o=rd M o:=by
   unfold matchO matchS
   by_cases c1:isOpener (rd F i)
   ·rw [if_pos c1,if_pos c1]
    refine ⟨fun h=>?_,fun x hx=>?_,hset _⟩
    ·rcases List.mem_append.mp h with h | h
     ·exact hn h
     ·rw [List.mem_singleton.mp h] at h1;omega
    ·rcases List.mem_append.mp hx with h | h
     ·exact hO1 x h
     ·rw [List.mem_singleton.mp h];omega
   rw [if_neg c1,if_neg c1]
   by_cases c2:rd F i=10
   ·rw [if_pos c2,if_pos c2]
    exact ⟨fun h=>(by cases h),fun x hx=>(by cases hx),hset _⟩
   rw [if_neg c2,if_neg c2]
   by_cases c3:rd F i=22∧0<O.length
   ·rw [if_pos c3,if_pos c3]
    have hm:=lastI_mem c3.2
    have hmr:=hO _ hm
    refine ⟨fun h=>hn (List.mem_of_mem_take h),fun x hx=>hO1 x (List.mem_of_mem_take hx),?_⟩
    rw [rd_set hmr.1 h0 (by simp only [List.length_set];omega),if_neg (fun e=>hn (by rw [e];exact hm)),rd_set (by omega) h0 (by simp only [List.length_set];omega),if_neg (by omega)]
    exact hset _
   ·rw [if_neg c3,if_neg c3]
    exact ⟨hn,hO1,hset _⟩
  rw [match_keep r (i+1) _ _ o h0 (by omega) key.1 key.2.1 (by rw [matchS_length];omega)]
  exact key.2.2
theorem lastI_snoc (B:List Int) (y:Int):lastI (B++[y])=y:=by
 unfold lastI
 rw [List.length_append,List.length_singleton,rd_at (by omega) (by simp;omega)]
 simp
theorem match_open {F:List Int}:∀ (r:Nat) (i:Int) (A B M:List Int) (o:Int),0≤o→o<i→(∀ x∈A++o::B,0≤x∧x<i)→(A++o::B).Nodup→rd M o = -1→i+r=M.length→rd (matchM F r i (A++o::B) M) o=matchD F r i (B.length+1)
 | 0,_,_,_,_,_,_,_,_,_,h,_=>h
 | r+1,i,A,B,M,o,h0,h1,hO,hnd,hM,hl=>by
  push_cast at hl
  have hset:∀ x:Int,rd (M.set i.toNat x) o = -1:=fun x=>by rw [rd_set (by omega) h0 (by omega),if_neg (by omega)];exact hM
  have hO1:∀ x∈A++o::B,0≤x∧x<i+1:=fun x hx=>by have:=hO x hx;omega
  simp only [matchM,matchD]
  unfold matchO matchS
  by_cases c1:isOpener (rd F i)
  ·have n10:rd F i≠10:=fun e=>by unfold isOpener at c1;omega
   have n22:rd F i≠22:=fun e=>by unfold isOpener at c1;omega
   rw [if_pos c1,if_pos c1,if_neg n10,if_neg n22,if_pos c1,show A++o::B++[i]=A++o::(B++[i]) by simp]
   rw [match_open r (i+1) A (B++[i]) _ o h0 (by omega) ?_ ?_ (hset _) (by rw [List.length_set];omega)]
   ·rw [List.length_append,List.length_singleton];push_cast;rfl
   ·intro x hx
    rw [show A++o::(B++[i])=(A++o::B)++[i] by simp] at hx
    rcases List.mem_append.mp hx with h | h
    ·exact hO1 x h
    ·rw [List.mem_singleton.mp h];omega
   ·rw [show A++o::(B++[i])=(A++o::B)++[i] by simp]
    refine List.nodup_append.mpr ⟨hnd,by simp,fun a ha b hb e=>?_⟩
    have:=hO a ha
    rw [List.mem_singleton.mp hb] at e;omega
  rw [if_neg c1,if_neg c1]
  by_cases c2:rd F i=10
  ·rw [if_pos c2,if_pos c2,if_pos c2,match_keep r (i+1) [] _ o h0 (by omega) (by simp) (fun x hx=>by cases hx) (by rw [List.length_set];omega)]
   exact hset _
  rw [if_neg c2,if_neg c2,if_neg c2]
  by_cases c3:rd F i=22
  ·have c3':rd F i=22∧0<(A++o::B).length:=⟨c3,by rw [List.length_append,List.length_cons];omega⟩
   rw [if_pos c3',if_pos c3',if_pos c3]
   rcases List.eq_nil_or_concat B with rfl | ⟨B0,y,rfl⟩
   ·rw [show A++[o]=A++[o] from rfl,lastI_snoc,List.length_append,List.length_singleton,Nat.add_sub_cancel,List.take_left' rfl,if_pos (by simp)]
    have hno:o∉A:=fun h=>(List.nodup_append.mp hnd).2.2 o h o (by simp) rfl
    rw [match_keep r (i+1) A _ o h0 (by omega) hno (fun x hx=>hO1 x (List.mem_append_left _ hx)) (by simp only [List.length_set];omega)]
    rw [rd_set h0 h0 (by simp only [List.length_set];omega),if_pos rfl]
   ·have e1:A++o::(B0.concat y)=(A++o::B0)++[y]:=by simp
    rw [e1] at hO hO1 hnd ⊢
    rw [List.concat_eq_append]
    have hy:=hO y (List.mem_append_right _ (List.mem_singleton.mpr rfl))
    have hyo:o≠y:=fun e=>(List.nodup_append.mp hnd).2.2 o (List.mem_append_right _ List.mem_cons_self) y (List.mem_singleton.mpr rfl) e
    rw [lastI_snoc,List.length_append (bs:=[y]),List.length_singleton,Nat.add_sub_cancel,List.take_left' rfl]
    have hd:¬ (((B0++[y]).length:Int)+1-1=0):=by rw [List.length_append,List.length_singleton];push_cast;omega
    rw [if_neg hd]
    rw [match_open r (i+1) A B0 _ o h0 (by omega) (fun x hx=>hO1 x (List.mem_append_left _ hx)) (List.nodup_append.mp hnd).1 ?_ (by simp only [List.length_set];omega)]
    ·rw [List.length_append,List.length_singleton];push_cast;rw [Int.add_sub_cancel]
    ·rw [rd_set hy.1 h0 (by simp only [List.length_set];omega),if_neg hyo,rd_set (by omega) h0 (by simp only [List.length_set];omega),if_neg (by omega)]
     exact hset _
  ·have c3':¬ (rd F i=22∧0<(A++o::B).length):=fun h=>c3 h.1
   rw [if_neg c3',if_neg c3',if_neg c3,if_neg c1]
   exact match_open r (i+1) A B _ o h0 (by omega) hO1 hnd (hset _) (by rw [List.length_set];omega)
theorem match_at {F:List Int}:∀ (r:Nat) (i:Int) (O M:List Int) (o:Int),0≤i→i≤o→o<i+r→isOpener (rd F o)→(∀ x∈O,0≤x∧x<i)→O.Nodup→i+r=M.length→rd (matchM F r i O M) o=matchD F (M.length-(o+1).toNat) (o+1) 1
 | 0,i,_,_,o,_,h1,h2,_,_,_,_=>by push_cast at h2;omega
 | r+1,i,O,M,o,hi,h1,h2,hop,hO,hnd,hl=>by
  push_cast at hl h2
  simp only [matchM]
  have hO1:∀ x∈O,0≤x∧x<i+1:=fun x hx=>by have:=hO x hx;omega
  by_cases e:o=i
  ·subst e
   have e1:matchO F o O=O++[o]:=if_pos hop
   have e2:matchS F o O M=M.set o.toNat (-1):=if_pos hop
   rw [e1,e2]
   rw [match_open r (o+1) O [] _ o hi (by omega) ?_ ?_ (by rw [rd_set hi hi (by omega),if_pos rfl]) (by rw [List.length_set];omega)]
   ·rw [show M.length-(o+1).toNat=r by omega];rfl
   ·intro x hx
    rcases List.mem_append.mp hx with h | h
    ·exact hO1 x h
    ·rw [List.mem_singleton.mp h];omega
   ·refine List.nodup_append.mpr ⟨hnd,by simp,fun a ha b hb e=>?_⟩
    have:=hO a ha
    rw [List.mem_singleton.mp hb] at e;omega
  ·have key:(∀ x∈matchO F i O,0≤x∧x<i+1)∧(matchO F i O).Nodup:=by
    unfold matchO
    by_cases c1:isOpener (rd F i)
    ·rw [if_pos c1]
     refine ⟨fun x hx=>?_,List.nodup_append.mpr ⟨hnd,by simp,fun a ha b hb e=>?_⟩⟩
     ·rcases List.mem_append.mp hx with h | h
      ·exact hO1 x h
      ·rw [List.mem_singleton.mp h];omega
     ·have:=hO a ha
      rw [List.mem_singleton.mp hb] at e;omega
    rw [if_neg c1]
    by_cases c2:rd F i=10
    ·rw [if_pos c2];exact ⟨fun x hx=>(by cases hx),List.nodup_nil⟩
    rw [if_neg c2]
    by_cases c3:rd F i=22∧0<O.length
    ·rw [if_pos c3];exact ⟨fun x hx=>hO1 x (List.mem_of_mem_take hx),hnd.sublist (List.take_sublist _ _)⟩
    ·rw [if_neg c3];exact ⟨hO1,hnd⟩
   have:=match_at (F:=F) r (i+1) (matchO F i O) (matchS F i O M) o (by omega) (by omega) (by omega) hop key.1 key.2 (by rw [matchS_length];omega)
   rw [matchS_length] at this
   exact this
theorem mOf_eq {F:List Int} {o:Int} (h0:0≤o) (h1:o<F.length) (hop:isOpener (rd F o)):rd (matchesM F) o=mOf F o:=by
 have:=match_at (F:=F) F.length 0 [] (List.replicate F.length 0) o (Int.le_refl _) h0 (by omega) hop (fun x hx=>by cases hx) (by simp) (by simp)
 rw [List.length_replicate] at this
 exact this
theorem firstD_eq {F:List Int} {to:Int} (ht:to≤F.length):∀ (r:Nat) (i:Int),0≤i→firstD F to r i=baseM F (matchesM F) to r i
 | 0,_,_=>rfl
 | r+1,i,h0=>by
  simp only [firstD,baseM]
  by_cases hlt:i<to
  ·rw [if_pos hlt,if_pos hlt]
   by_cases c0:rd F i=0
   ·rw [if_pos c0,if_neg (by omega),if_pos c0]
   rw [if_neg c0,if_neg c0]
   by_cases c1:rd F i=1∨rd F i=2
   ·rw [if_pos c1,if_neg (by omega),if_pos c1]
   rw [if_neg c1,if_neg c1]
   by_cases c10:rd F i=10
   ·rw [if_pos c10,if_pos c10]
   rw [if_neg c10,if_neg c10]
   by_cases hop:isOpener (rd F i)
   ·rw [if_pos hop,if_pos hop,mOf_eq h0 (by omega) hop]
    by_cases hm:mOf F i<0
    ·rw [if_pos hm,if_pos hm]
    ·rw [if_neg hm,if_neg hm]
     exact firstD_eq ht r _ (by omega)
   ·rw [if_neg hop,if_neg hop]
    exact firstD_eq ht r _ (by omega)
  ·rw [if_neg hlt,if_neg hlt]
theorem next_odd {l:Int} (h:0≤l):nextM l true=l+1+l.tmod 2:=by
 unfold nextM
 have h1:l.tmod 2=l%2:=Int.tmod_eq_emod_of_nonneg h
 have h2:(l+1).tmod 2=(l+1)%2:=Int.tmod_eq_emod_of_nonneg (by omega)
 rw [h1,h2]
 by_cases c:(l+1)%2=1
 ·rw [decide_eq_true c,if_neg (by decide)];omega
 ·rw [decide_eq_false c,if_pos (by decide)];omega
theorem next_even {l:Int} (h:0≤l):nextM l false=l+2-l.tmod 2:=by
 unfold nextM
 have h1:l.tmod 2=l%2:=Int.tmod_eq_emod_of_nonneg h
 have h2:(l+1).tmod 2=(l+1)%2:=Int.tmod_eq_emod_of_nonneg (by omega)
 rw [h1,h2]
 by_cases c:(l+1)%2=1
 ·rw [decide_eq_true c,if_pos (by decide)];omega
 ·rw [decide_eq_false c,if_neg (by decide)];omega
structure XOk (i:Int) (x:XS):Prop where
 iso:IsoOk x.E x.is
 len:(x.E.length:Int)≤i+1
 op:0≤x.op∧x.op≤i
 em:0≤x.em∧x.em≤i
 lv:∀ e∈x.E,0≤e.1∧e.1≤125∧(e.2.1 = -1∨0≤e.2.1)
theorem XOk.ne {i:Int} {x:XS} (h:XOk i x):x.E≠[]:=by
 obtain ⟨b,rest,e,_⟩:=h.iso
 rw [e];simp
theorem popIso_sub:∀ (r:Nat) (E:List Ent3),∀ e∈popIso r E,e∈E
 | 0,_,_,h=>h
 | r+1,E,e,h=>by
  simp only [popIso] at h
  split at h
  ·exact List.dropLast_subset _ h
  ·exact List.dropLast_subset _ (popIso_sub r _ e h)
theorem nextM_nn {l:Int} {o:Bool} (h:0≤l):0≤nextM l o:=by unfold nextM;split <;> omega
theorem topM_in {E:List Ent3} (h:E≠[]):topM E∈E:=by
 obtain ⟨hj,e⟩:=top_at h
 rw [←e];exact List.getElem_mem _
theorem embOver_ok (c:Int):embOver c = -1∨0≤embOver c:=by
 unfold embOver
 repeat' split
 all_goals omega
theorem XOk.next {D:TD} {i:Int} {x:XS} (h:XOk i x) (hi:0≤i) (hb:0≤D.b∧D.b≤125):XOk (i+1) (expX D i x):=by
 have hs:=shut_iso h.len h.iso
 have hb0:IsoOk [(D.b,(-1:Int),false)] 0:=⟨_,[],rfl,rfl,rfl⟩
 have ht:=h.lv _ (topM_in h.ne)
 obtain ⟨iso,len,op,em,lv⟩:=h
 refine { iso:=?_,len:=?_,op:=?_,em:=?_,lv:=?_ }
 ·unfold expX
  split
  ·split
   ·exact iso.push _
   ·exact iso
  ·split
   ·split
    ·exact iso.push _
    ·exact iso
   ·split
    ·exact hs.1
    ·split
     ·split
      ·exact iso
      ·split
       ·exact iso
       ·split
        ·rename_i h;exact (iso.pop1 h.1 h.2).2
        ·exact iso
     ·split
      ·exact hb0
      ·exact iso
 ·have hs2:=hs.2
  unfold expX
  repeat' split
  all_goals try simp only [List.length_append,List.length_cons,List.length_nil,List.length_dropLast] at *
  all_goals omega
 ·unfold expX shutOp
  repeat' split
  all_goals try dsimp only
  all_goals omega
 ·unfold expX shutEm
  repeat' split
  all_goals try dsimp only
  all_goals (repeat' split)
  all_goals omega
 ·unfold expX
  split
  ·split
   ·rename_i hp
    intro e he
    rcases List.mem_append.mp he with he | he
    ·exact lv e he
    ·rw [List.mem_singleton.mp he];exact ⟨nextM_nn ht.1,hp.1,embOver_ok _⟩
   ·exact lv
  ·split
   ·split
    ·rename_i hp
     intro e he
     rcases List.mem_append.mp he with he | he
     ·exact lv e he
     ·rw [List.mem_singleton.mp he];exact ⟨nextM_nn ht.1,hp.1,.inl rfl⟩
    ·exact lv
   ·split
    ·intro e he
     refine lv e ?_
     dsimp only at he
     unfold shutE at he
     split at he
     ·exact he
     ·split at he
      ·exact popIso_sub _ _ e he
      ·exact he
    ·split
     ·split
      ·exact lv
      ·split
       ·exact lv
       ·split
        ·exact fun e he=>lv e (List.dropLast_subset _ he)
        ·exact lv
     ·split
      ·intro e he
       rw [List.mem_singleton.mp he];exact ⟨hb.1,hb.2,.inl rfl⟩
      ·exact lv
def topX (c:Int) (x x':XS):Ent3:=if c=22 then topM x'.E else topM x.E
theorem expT_val {D:TD} {i:Int} {x:XS} (h10:rd D.F i≠10) (hr:¬ isRemoved (rd D.F i)):expT D i x=some (topX (rd D.F i) x (expX D i x)):=by
 unfold expT topX expX
 have n1:¬ isEmb (rd D.F i):=fun h=>by unfold isEmb at h;unfold isRemoved at hr;omega
 have n18:rd D.F i≠18:=fun h=>by unfold isRemoved at hr;omega
 have n9:rd D.F i≠9:=fun h=>by unfold isRemoved at hr;omega
 rw [if_neg n1]
 by_cases ho:isOpener (rd D.F i)
 ·have n22:rd D.F i≠22:=fun h=>by unfold isOpener at ho;omega
  rw [if_pos ho,if_neg n22]
 ·rw [if_neg ho]
  by_cases h22:rd D.F i=22
  ·rw [if_pos h22,if_pos h22,if_neg n1,if_neg ho,if_pos h22]
  ·rw [if_neg h22,if_neg n18,if_neg h10,if_neg n9,if_neg h22]
theorem expT_gone {D:TD} {i:Int} {x:XS} (hr:isRemoved (rd D.F i)):expT D i x=none:=by
 unfold expT
 by_cases h1:isEmb (rd D.F i)
 ·rw [if_pos h1]
 ·have ho:¬ isOpener (rd D.F i):=fun h=>by unfold isOpener at h;unfold isRemoved at hr;omega
  have n22:rd D.F i≠22:=fun h=>by unfold isRemoved at hr;omega
  have n10:rd D.F i≠10:=fun h=>by unfold isRemoved at hr;omega
  rw [if_neg h1,if_neg ho,if_neg n22]
  by_cases h18:rd D.F i=18
  ·rw [if_pos h18]
  ·have h9:rd D.F i=9:=by unfold isRemoved at hr;unfold isEmb at h1;omega
   rw [if_neg h18,if_neg n10,if_pos h9]
theorem expT_par {D:TD} {i:Int} {x:XS} (h:rd D.F i=10):expT D i x=some (D.b,-1,false):=by
 unfold expT
 have h1:¬ isEmb (rd D.F i):=fun h=>by unfold isEmb at h;omega
 have ho:¬ isOpener (rd D.F i):=fun h=>by unfold isOpener at h;omega
 rw [if_neg h1,if_neg ho,if_neg (by omega),if_neg (by omega),if_pos h]
structure ExD (H0 H1:Hp) (an al:Nat) (vs:Value) (E:List Ent3) (L N:List Int):Prop where
 kp:∀ ν o,H0 ν=some o→H1 ν=some o∧ν≠an∧ν≠al∧baseV vs≠some ν
 n:H1 an=some (.row 1 (N.map (.int .i64)))
 l:H1 al=some (.row 1 (L.map (.int .i64)))
 nl:an≠al
 st:SlO H1 vs 3 E.length (E.flatMap enc3)
 sn:baseV vs≠some an∧baseV vs≠some al
theorem ExD.grow {H0 H1 H2:Hp} {an al:Nat} {vs:Value} {E:List Ent3} {L N:List Int} (h:ExD H0 H1 an al vs E L N) (hk:∀ ν o,H1 ν=some o→H2 ν=some o):ExD H0 H2 an al vs E L N:=
 ⟨fun ν o e=>⟨hk _ _ (h.kp ν o e).1,(h.kp ν o e).2⟩,hk _ _ h.n,hk _ _ h.l,h.nl,SlO.keep h.st (fun ν o _ e=>hk _ _ e),h.sn⟩
theorem ExD.cell {H0 H1:Hp} {an al tb:Nat} {vs:Value} {E:List Ent3} {L N:List Int} {o:Go.Ab.Obj} (h:ExD H0 H1 an al vs E L N) (h0:∀ ν o,H0 ν=some o→ν≠tb) (h1:tb≠an) (h2:tb≠al) (h3:baseV vs≠some tb):ExD H0 (H1.up tb o) an al vs E L N:=
 ⟨fun ν o e=>⟨Hp.up_ne (h0 _ _ e) (h.kp ν o e).1,(h.kp ν o e).2⟩,Hp.up_ne h1.symm h.n,Hp.up_ne h2.symm h.l,h.nl,h.st.up h3,h.sn⟩
theorem ExD.push {H0 H1 H2:Hp} {an al a:Nat} {vs v':Value} {E:List Ent3} {L N:List Int} {x:Go.Ab.Obj} {e:Ent3} (h:ExD H0 H1 an al vs E L N) (ha:∀ ν o,H1 ν=some o→ν≠a) (hv:SlO H2 v' 3 (E.length+1) (E.flatMap enc3++enc3 e)) (hk:KeptBut (H1.up a x) H2 vs) (hn:NewOr (H1.up a x) vs v') :
 ExD H0 H2 an al v' (E++[e]) L N∧∀ ν o,H1 ν=some o→baseV vs≠some ν→H2 ν=some o∧baseV v'≠some ν:=by
 have keep:∀ ν o,H1 ν=some o→baseV vs≠some ν→H2 ν=some o:=fun ν o e1 e2=>hk ν o (Hp.up_ne (ha ν o e1) e1) e2
 have nb:∀ ν o,H1 ν=some o→baseV vs≠some ν→baseV v'≠some ν:=fun ν o e1 e2 e3=>by
  rcases hn ν e3 with h1 | h1
  ·exact e2 h1
  ·rw [Hp.up_ne (ha ν o e1) e1] at h1;cases h1
 exact ⟨⟨fun ν o e=>⟨keep _ _ (h.kp ν o e).1 (h.kp ν o e).2.2.2,(h.kp ν o e).2.1,(h.kp ν o e).2.2.1,nb _ _ (h.kp ν o e).1 (h.kp ν o e).2.2.2⟩,keep _ _ h.n h.sn.1,keep _ _ h.l h.sn.2,h.nl,by simpa [List.flatMap_append] using hv,nb _ _ h.n h.sn.1,nb _ _ h.l h.sn.2⟩,fun ν o e1 e2=>⟨keep _ _ e1 e2,nb _ _ e1 e2⟩⟩
theorem ExD.pop {H0 H1:Hp} {an al:Nat} {vs v':Value} {E:List Ent3} {L N:List Int} {i:Int} (h:ExD H0 H1 an al vs E L N) (hi:i=(E.length:Int)-1) (hE:E≠[]) (hv:SlO H1 v' 3 i.toNat ((E.flatMap enc3).take (i.toNat*3))) (hb:baseV v'=baseV vs):ExD H0 H1 an al v' E.dropLast L N:=by
 have hp:0<E.length:=List.length_pos_iff.mpr hE
 refine { h with kp:=fun ν o e=>⟨(h.kp ν o e).1,(h.kp ν o e).2.1,(h.kp ν o e).2.2.1,by rw [hb];exact (h.kp ν o e).2.2.2⟩,st:=?_,sn:=by rw [hb];exact h.sn }
 rw [flat_take enc3 3 enc3_len] at hv
 rw [List.length_dropLast,List.dropLast_eq_take]
 rwa [show i.toNat=E.length-1 by omega] at hv
theorem ExD.fresh {H0 H1:Hp} {an al a:Nat} {vs:Value} {E E':List Ent3} {L N:List Int} (h:ExD H0 H1 an al vs E L N) (ha:∀ ν o,H1 ν=some o→ν≠a) (hE:E'.length=1):ExD H0 (H1.up a (.row 3 (E'.flatMap enc3))) an al (.slice (some ⟨a,0,none⟩) 1 1) E' L N:=
 ⟨fun ν o e=>⟨Hp.up_ne (ha _ _ (h.kp ν o e).1) (h.kp ν o e).1,(h.kp ν o e).2.1,(h.kp ν o e).2.2.1,fun e2=>ha _ _ (h.kp ν o e).1 (Option.some.inj e2).symm⟩,Hp.up_ne (ha _ _ h.n) h.n,Hp.up_ne (ha _ _ h.l) h.l,h.nl,.inr ⟨a,1,_,by rw [hE],Hp.up_same,by rw [flat_length enc3 3 enc3_len,hE],by omega,by rw [List.take_of_length_le (by rw [flat_length enc3 3 enc3_len,hE];exact Nat.le_refl _)]⟩,fun e2=>ha _ _ h.n (Option.some.inj e2).symm,fun e2=>ha _ _ h.l (Option.some.inj e2).symm⟩
theorem ExD.setL {H0 H1:Hp} {an al:Nat} {vs:Value} {E:List Ent3} {L N:List Int} {i x:Int} {s:St} {ro:Nat} (h:ExD H0 H1 an al vs E L N) (hM:Models ro s (H1.up al (.row 1 ((L.map (Value.int .i64)).set (0+i.toNat*1) (.int .i64 x))))) (h0:0≤i) (h1:i<L.length) :
 ∃ H2,Models ro s H2∧ExD H0 H2 an al vs E (L.set i.toNat x) N∧∀ ν o,H1 ν=some o→ν≠al→H2 ν=some o:=by
 rw [ints_set h0 h1] at hM
 exact ⟨_,hM,⟨fun ν o e=>⟨Hp.up_ne (h.kp ν o e).2.2.1 (h.kp ν o e).1,(h.kp ν o e).2⟩,Hp.up_ne h.nl h.n,Hp.up_same,h.nl,h.st.up h.sn.2,h.sn⟩,fun ν o e ne=>Hp.up_ne ne e⟩
theorem ExD.setN {H0 H1:Hp} {an al:Nat} {vs:Value} {E:List Ent3} {L N:List Int} {i x:Int} {s:St} {ro:Nat} (h:ExD H0 H1 an al vs E L N) (hM:Models ro s (H1.up an (.row 1 ((N.map (Value.int .i64)).set (0+i.toNat*1) (.int .i64 x))))) (h0:0≤i) (h1:i<N.length) :
 ∃ H2,Models ro s H2∧ExD H0 H2 an al vs E L (N.set i.toNat x):=by
 rw [ints_set h0 h1] at hM
 exact ⟨_,hM,⟨fun ν o e=>⟨Hp.up_ne (h.kp ν o e).2.1 (h.kp ν o e).1,(h.kp ν o e).2⟩,Hp.up_same,Hp.up_ne h.nl.symm h.l,h.nl,h.st.up h.sn.1,h.sn⟩⟩
variable {X:CallE} {ro:Nat}
set_option maxRecDepth 10000
theorem expX_c {F M:List Int} {b i c:Int} {x:XS} (hc:rd F i=c):expX (pureD F M b) i x =
 (if isEmb c then (if embLevel x.E c≤125∧x.op=0∧x.em=0 then ⟨x.E++[(embLevel x.E c,embOver c,false)],x.op,x.em,x.is⟩ else ⟨x.E,x.op,if x.op=0 then x.em+1 else x.em,x.is⟩)
 else if isOpener c then (if openLevel (pureD F M b) x.E i c≤125∧x.op=0∧x.em=0 then ⟨x.E++[(openLevel (pureD F M b) x.E i c,-1,true)],x.op,x.em,x.is+1⟩ else ⟨x.E,x.op+1,x.em,x.is⟩)
 else if c=22 then ⟨shutE x.E x.op x.is,shutOp x.op,shutEm x.op x.em x.is,shutIs x.op x.is⟩
 else if c=18 then (if 0<x.op then x else if 0<x.em then ⟨x.E,x.op,x.em-1,x.is⟩ else if 1<x.E.length∧(topM x.E).2.2=false then ⟨x.E.dropLast,x.op,x.em,x.is⟩ else x)
 else if c=10 then ⟨[(b,-1,false)],0,0,0⟩ else x):=by subst hc;rfl
theorem embLevel_c {E:List Ent3} {c:Int} (h:0≤(topM E).1):embLevel E c=if c=16∨c=17 then (topM E).1+1+(topM E).1.tmod 2 else (topM E).1+2-(topM E).1.tmod 2:=by
 unfold embLevel
 by_cases hc:c=16∨c=17
 ·rw [if_pos hc,decide_eq_true hc,next_odd h]
 ·rw [if_neg hc,decide_eq_false hc,next_even h]
theorem openLevel_c {F:List Int} {b i:Int} {E:List Ent3} {c:Int} (h:0≤(topM E).1) (h0:0≤i) (h1:i<F.length) (hc:rd F i=c) (ho:isOpener c):openLevel (pureD F (matchesM F) b) E i c =
 if c=20∨(c=21∧firstD F (if mOf F i<0 then F.length else mOf F i) (F.length+1) (i+1)=1) then (topM E).1+1+(topM E).1.tmod 2 else (topM E).1+2-(topM E).1.tmod 2:=by
 have hm:rd (matchesM F) i=mOf F i:=mOf_eq h0 h1 (by rw [hc];exact ho)
 have hto:(if mOf F i<0 then (F.length:Int) else mOf F i)≤F.length:=by
  split
  ·exact Int.le_refl _
  ·have:=matchD_rg F (F.length-(i+1).toNat) (i+1) 1
   unfold mOf at *
   omega
 have hodd:openOdd (pureD F (matchesM F) b) i c=decide (c=20∨(c=21∧firstD F (if mOf F i<0 then F.length else mOf F i) (F.length+1) (i+1)=1)):=by
  have e:openOdd (pureD F (matchesM F) b) i c=if c=21 then decide (baseM F (matchesM F) (if rd (matchesM F) i<0 then F.length else rd (matchesM F) i) (F.length+1) (i+1)=1) else decide (c=20):=rfl
  rw [e,hm,←firstD_eq hto _ _ (by omega)]
  by_cases h21:c=21
  ·rw [if_pos h21]
   exact decide_eq_decide.mpr ⟨fun x=>.inr ⟨h21,x⟩,fun x=>by rcases x with x | x;omega;exact x.2⟩
  ·rw [if_neg h21]
   exact decide_eq_decide.mpr ⟨fun x=>.inl x,fun x=>by rcases x with x | x;exact x;exact absurd x.1 h21⟩
 unfold openLevel
 rw [hodd]
 by_cases hq:c=20∨(c=21∧firstD F (if mOf F i<0 then F.length else mOf F i) (F.length+1) (i+1)=1)
 ·rw [if_pos hq,decide_eq_true hq,next_odd h]
 ·rw [if_neg hq,decide_eq_false hq,next_even h]
theorem firstD_spN {s:St} {H:Hp} {c cc n:Nat} {F:List Int} {i to:Int} (hX:OwnX X) (hM:Models ro s H) (hc:H c=some (.row 1 (F.map (.int .i64)))) (hl:F.length=n) (hn:n≤16384) (h0:0≤i∧i≤n) (hto:0≤to∧to≤n) :
 Sp X Try.prog ro 46 [.slice (some ⟨c,0,none⟩) n cc,.int .i64 i,.int .i64 to] s fun v H'=>v = .int .i64 (firstD F to (F.length+1) i)∧H'=H:=by
 subst hl;exact firstD_sp hX hM hc hn h0 hto
theorem matchD_spN {s:St} {H:Hp} {c cc n:Nat} {F:List Int} {i:Int} (hX:OwnX X) (hM:Models ro s H) (hc:H c=some (.row 1 (F.map (.int .i64)))) (hl:F.length=n) (hn:n≤16384) (h0:0≤i∧i<n) :
 Sp X Try.prog ro 74 [.slice (some ⟨c,0,none⟩) n cc,.int .i64 i] s fun v H'=>v = .int .i64 (mOf F i)∧H'=H:=by
 subst hl;exact matchD_sp hX hM hc hn h0
set_option maxHeartbeats 16000000 in
theorem explD_sp {s:St} {H:Hp} {f cc n:Nat} {F:List Int} {b:Int} (hX:OwnX X) (hM:Models ro s H) (hf:H f=some (.row 1 (F.map (.int .i64)))) (hl:F.length=n) (hn:n≤16384) (hb:0≤b∧b≤1) :
 Sp X Try.prog ro 78 [.slice (some ⟨f,0,none⟩) n cc,.int .i64 b] s fun v H'=>∃ an al,v = .tuple #[.slice (some ⟨an,0,none⟩) n n,.slice (some ⟨al,0,none⟩) n n]∧(∀ ν o,H ν=some o→H' ν=some o∧ν≠an∧ν≠al)∧an≠al ∧
  H' an=some (.row 1 ((explM F b).2.map (.int .i64)))∧H' al=some (.row 1 ((explM F b).1.map (.int .i64))):=by
 refine Bo hX Try.func78 Try.ntmps78 (z:=?_)
 refine WC.seq (Rg (Av (z:=Av (z:=Nl (WC.seq (Rg (Co (Bs (z:=fun a1_0 s1_0 hf1_0 hne1_0 hn1_0 hM1_0=>Mv (z:=Co ?_))))))))))
 have hMb:Models ro s1_0 (H.up a1_0 (.row 1 [])):=hM1_0
 clear hM1_0
 refine SV.appendM (t:=23) (u:=23) (e:=3) (e':=3) (sz:=1) (sz':=1) (bytes:=8) (z:=[.int .i64 0]) (n:=0) (m:=n) (vs:=[]) (xs:=F.map (.int .i64)) rfl hMb rfl rfl (.inr ⟨a1_0,0,[],rfl,Hp.up_same,rfl,Nat.le_refl _,rfl⟩)
  (Src.row (Hp.up_ne (hne1_0 _ _ hf) hf) (by rw [List.length_map,hl,Nat.mul_one]) (by rw [List.all_map];simp [oneC]) (fun i v h=>by rw [Nat.zero_add];exact h)) rfl (by omega) (fun v1 s1 H1 hn1 hM1 hv1 hk1 hnew1 hex1=>?_)
 obtain ⟨an,rfl,ha1,hkp1⟩:=app_fresh hne1_0 hl hk1 hnew1 hex1
 clear hv1 hk1 hnew1 hex1 hMb
 refine Av (z:=Nl (WC.seq (Rg (Mv (z:=Co (Ln (z:=?_)))))))
 refine WO.cons (SV.makeSliceM (by assumption) rfl rfl (by refine ⟨?_,?_,?_,?_,rfl,by decide⟩ <;> omega) (fun a2_2 s2_2 hf2_2 hne2_2 hn2_2 hM2_2=>?_)) (by decide)
 refine Av (z:=Nl ?_)
 rw [rep_ints ((n:Int).toNat),Int.toNat_natCast] at hM2_2
 refine WC.seq (Rg (Mv (z:=?_)))
 refine WO.cons (SV.build rfl ?_) (by decide)
 refine Co (Bs (z:=fun a3_2 s3_2 hf3_2 hne3_2 hn3_2 hM3_2=>Av (z:=Nl ?_)))
 have hI0:ExD H ((H1.up a2_2 (.row 1 ((List.replicate n (0:Int)).map (.int .i64)))).up a3_2 (.row 3 [.int .i64 b,.int .i64 (-1),.bool false])) an a2_2 (.slice (some ⟨a3_2,0,none⟩) 1 1) [(b,-1,false)] (List.replicate n 0) F:=by
  have k2:∀ ν o,H1 ν=some o→(H1.up a2_2 (.row 1 ((List.replicate n (0:Int)).map (.int .i64)))) ν=some o:=fun ν o e=>Hp.up_ne (hne2_2 _ _ e) e
  have k3:∀ ν o,H1 ν=some o→ν≠a3_2:=fun ν o e=>hne3_2 _ _ (k2 _ _ e)
  exact ⟨fun ν o e=>⟨Hp.up_ne (k3 _ _ (hkp1 _ _ e).1) (k2 _ _ (hkp1 _ _ e).1),(hkp1 _ _ e).2,hne2_2 _ _ (hkp1 _ _ e).1,fun e2=>k3 _ _ (hkp1 _ _ e).1 (Option.some.inj e2).symm⟩,
   Hp.up_ne (k3 _ _ ha1) (k2 _ _ ha1),Hp.up_ne (hne3_2 _ _ Hp.up_same) Hp.up_same,hne2_2 _ _ ha1,
   .inr ⟨a3_2,1,_,rfl,Hp.up_same,rfl,Nat.le_refl _,rfl⟩,fun e2=>k3 _ _ ha1 (Option.some.inj e2).symm,fun e2=>hne3_2 _ _ Hp.up_same (Option.some.inj e2).symm⟩
 have hM0:Models ro s3_2 ((H1.up a2_2 (.row 1 ((List.replicate n (0:Int)).map (.int .i64)))).up a3_2 (.row 3 [.int .i64 b,.int .i64 (-1),.bool false])):=hM3_2
 clear hM3_2 hM2_2 hM1 hne2_2 hf2_2 ha1
 generalize (H1.up a2_2 (.row 1 ((List.replicate n (0:Int)).map (.int .i64)))).up a3_2 (.row 3 [.int .i64 b,.int .i64 (-1),.bool false])=Hs at hI0 hM0
 clear hne3_2 hf3_2 hkp1
 generalize a2_2=al at hI0 ⊢
 generalize (Value.slice (some ⟨a3_2,0,none⟩) 1 1)=v0 at hI0 ⊢
 refine WC.seq (Rg (Av (z:=Av (z:=Av (z:=Nl (WC.seq (WC.seq (Rg (Mv (z:=Co (Ln (z:=Mv (z:=Nl (WC.block ?_))))))))))))))
 have hRES:explM F b=expM (pureD F (matchesM F) b) (n-(0:Int).toNat) 0 ⟨[(b,-1,false)],0,0,0⟩ (List.replicate n 0) F:=by unfold explM;rw [hl];rfl
 generalize explM F b=RES at hRES ⊢
 have hX0:XOk 0 ⟨[(b,-1,false)],0,0,0⟩:=⟨⟨_,[],rfl,rfl,rfl⟩,by simp,⟨Int.le_refl _,Int.le_refl _⟩,⟨Int.le_refl _,Int.le_refl _⟩,fun e he=>by rw [List.mem_singleton.mp he];exact ⟨hb.1,by dsimp only;omega,.inl rfl⟩⟩
 refine WC.loop (D:=Int×Value×XS×List Int×List Int) (fun y=>[(0,.slice (some ⟨f,0,none⟩) n cc),(1,.int .i64 b),(6,.slice (some ⟨an,0,none⟩) n n),(7,.slice (some ⟨al,0,none⟩) n n),(30,.slice (some ⟨f,0,none⟩) n cc),(31,.int .i64 n),(8,y.2.1),(9,.int .i64 (y.2.2.1.op)),(10,.int .i64 (y.2.2.1.em)),(11,.int .i64 (y.2.2.1.is)),(32,.int .i64 y.1)])
  (fun y s1=>s.next≤s1.next∧(∃ H1,Models ro s1 H1∧ExD H H1 an al y.2.1 y.2.2.1.E y.2.2.2.1 y.2.2.2.2)∧y.2.2.2.1.length=n∧y.2.2.2.2.length=n∧0≤y.1∧y.1≤n∧XOk y.1 y.2.2.1∧expM (pureD F (matchesM F) b) (n-y.1.toNat) y.1 y.2.2.1 y.2.2.2.1 y.2.2.2.2=RES) (fun y=>n-y.1.toNat)
  (0,v0,⟨[(b,-1,false)],0,0,0⟩,List.replicate n 0,F) ?_ ⟨by omega,⟨_,hM0,hI0⟩,by dsimp only;exact List.length_replicate,hl,Int.le_refl _,by dsimp only;omega,hX0,hRES.symm⟩ ?_
 ·exact Ho
 clear hRES hX0 hI0 hM0
 rintro ⟨i,vs,x,L,N⟩ g s1 ⟨hn1,⟨H1,hM1,hI1⟩,hlL,hlN,hi0,hi1,hXO,hres⟩
 dsimp only at hn1 hI1 hlL hlN hi0 hi1 hXO hres ⊢
 have hf1:=(hI1.kp _ _ hf).1
 rcases dc (i<(n:Int)) with ⟨hlt,hdl⟩ | ⟨hlt,hdl⟩
 ·rw [show n-i.toNat=(n-(i+1).toNat)+1 by omega] at hres
  simp only [expM] at hres
  have hXN:=hXO.next (D:=pureD F (matchesM F) b) hi0 ⟨hb.1,by show b≤125;omega⟩
  refine WC.seq (Rg (Co (Lt (z:=Nl (WC.seq (Ct (z:=WC.skip (WC.seq (WC.block (WC.seq (Rg (Mv (z:=Co (Ix (z:=Co (Ld (z:=Av (z:=Av (z:=Nl ?_)))))))))))))))))))
  generalize hc:rd F i=c
  have hE:=hXO.ne
  have hEp:0<x.E.length:=List.length_pos_iff.mpr hE
  have hlen:=hXO.len
  have htop:=hXO.lv _ (topM_in hE)
  have htm:0≤(topM x.E).1.tmod 2∧(topM x.E).1.tmod 2≤1:=by rw [Int.tmod_eq_emod_of_nonneg htop.1];omega
  obtain ⟨hj,htopE⟩:=top_at hE
  obtain ⟨ν,cs,ws,hv,hν,hwl,hnc,htk,hat⟩:=hI1.st.at enc3_len rfl hEp
  subst hv
  refine WC.seq (Rg (Mv (z:=Mv (z:=Co (Ln (z:=Co (Sb (z:=Co (Ix (z:=Co ?_))))))))))
  refine SV.loadMA (l:=enc3 (topM x.E)) (by assumption) rfl hν rfl (fun t u hu=>?_) ?_
  ·have:=hat _ hj t u (by rw [htopE];exact hu)
   rw [show (0:Nat)+(((x.E.length:Nat):Int)-1).toNat*3+t=(x.E.length-1)*3+t by omega]
   exact this
  refine Co (Al (z:=fun a8_6 s8_6 hf8_6 hne8_6 hn8_6 hM8_6=>?_))
  refine WO.cons0 (SV.storeMA (by assumption) rfl rfl rfl rfl (by exact Hp.up_same) (by exact Nat.le_refl _) (fun s8_7 hn8_7 hM8_7=>?_))
  refine Nl ?_
  rw [Hp.up_up] at hM8_7
  have hM2:Models ro s8_7 (H1.up a8_6 (.row 0 (enc3 (topM x.E)))):=hM8_7
  clear hM8_7 hM8_6
  have k8:∀ ν o,H1 ν=some o→(H1.up a8_6 (.row 0 (enc3 (topM x.E)))) ν=some o:=fun ν o e=>Hp.up_ne (hne8_6 _ _ e) e
  have hI2:=hI1.grow k8
  have htb:(H1.up a8_6 (.row 0 (enc3 (topM x.E)))) a8_6=some (.row 0 (enc3 (topM x.E))):=Hp.up_same
  have hf2:=k8 _ _ hf1
  have tb0:∀ ν o,H ν=some o→ν≠a8_6:=fun ν o e=>hne8_6 _ _ (hI1.kp _ _ e).1
  have tbn:a8_6≠an:=(hne8_6 _ _ hI1.n).symm
  have tbl:a8_6≠al:=(hne8_6 _ _ hI1.l).symm
  have tbv:baseV (.slice (some ⟨ν,0,none⟩) x.E.length cs)≠some a8_6:=fun e=>hne8_6 _ _ hν (Option.some.inj e)
  clear hν hat htk hwl hnc hM1 hI1 hf1
  generalize H1.up a8_6 (.row 0 (enc3 (topM x.E)))=H2 at hM2 hI2 htb hf2
  clear k8 hne8_6 hf8_6
  generalize a8_6=tb at *
  generalize hvs:(Value.slice (some ⟨ν,0,none⟩) x.E.length cs)=vs at *
  have htb':H2 tb=some (.row 0 [.int .i64 (topM x.E).1,.int .i64 (topM x.E).2.1,.bool (topM x.E).2.2]):=htb
  refine WC.seq (Rg (Co (Fa (z:=Co (Ld (z:=Co (Ad (z:=Co (Fa (z:=Co (Ld (z:=Co (Rm (z:=Co (Ad (z:=Av (z:=Nl (WC.seq (Rg (Co (Fa (z:=Co (Ld (z:=Co (Ad (z:=Co (Fa (z:=Co (Ld (z:=Co (Rm (z:=Co (Sb (z:=Av (z:=Nl (WC.seq ?_))))))))))))))))))))))))))))))))))))
  refine WC.mono (Q:=fun e g' ds' s'=>e = .normal∧ds'=[]∧holds g' [(0,.slice (some ⟨f,0,none⟩) n cc),(1,.int .i64 b),(6,.slice (some ⟨an,0,none⟩) n n),(7,.slice (some ⟨al,0,none⟩) n n),(30,.slice (some ⟨f,0,none⟩) n cc),(31,.int .i64 n),(8,vs),(9,.int .i64 (x.op)),(10,.int .i64 (x.em)),(11,.int .i64 (x.is)),(12,.int .i64 i),(13,.int .i64 c),(14,.pointer (some ⟨tb,0,none⟩)),(32,.int .i64 i),(15,.int .i64 ((topM x.E).1+1+(topM x.E).1.tmod 2)),(16,.int .i64 ((topM x.E).1+2-(topM x.E).1.tmod 2)),(17,.bool (decide (x.op=0∧x.em=0)))]∧s'=s8_7) ?_ ?_
  ·rcases dc (x.op=0) with ⟨ho,hdo⟩ | ⟨ho,hdo⟩
   ·refine Rg (Mv (z:=Co (Ei (z:=Mv (z:=Gy (z:=Mq (z:=Gy (z:=Ei (z:=Co (Pt (z:=Av (z:=Nl ?_))))))))))))
    exact ⟨rfl,rfl,⟨rfl,rfl,rfl,rfl,rfl,rfl,rfl,rfl,rfl,rfl,rfl,rfl,rfl,rfl,rfl,rfl,congrArg (fun b=>some (Value.bool b)) (decide_eq_decide.mpr ⟨fun y=>⟨ho,y⟩,fun y=>y.2⟩),trivial⟩,rfl⟩
   ·refine Rg (Mv (z:=Co (Ei (z:=Mv (z:=Gn (z:=Gn (z:=Co (Pf (z:=Av (z:=Nl ?_))))))))))
    exact ⟨rfl,rfl,⟨rfl,rfl,rfl,rfl,rfl,rfl,rfl,rfl,rfl,rfl,rfl,rfl,rfl,rfl,rfl,rfl,congrArg (fun b=>some (Value.bool b)) (decide_eq_false (fun y=>ho y.1)).symm,trivial⟩,rfl⟩
  rintro e g2 ds2 s2 ⟨rfl,rfl,hg2,rfl⟩
  rw [←over_same hg2]
  refine thn_n (WC.seq (WC.seq (Rg (Mv (z:=Nl (thn_n ?_))))))
  refine WC.mono (Q:=fun e g' ds' s'=>e = .normal∧ds'=[]∧∃ (vs':Value) (x':XS) (H':Hp),holds g' [(0,.slice (some ⟨f,0,none⟩) n cc),(1,.int .i64 b),(6,.slice (some ⟨an,0,none⟩) n n),(7,.slice (some ⟨al,0,none⟩) n n),(30,.slice (some ⟨f,0,none⟩) n cc),(31,.int .i64 n),(8,vs'),(9,.int .i64 (x'.op)),(10,.int .i64 (x'.em)),(11,.int .i64 (x'.is)),(12,.int .i64 i),(13,.int .i64 c),(14,.pointer (some ⟨tb,0,none⟩)),(32,.int .i64 i)]∧s.next≤s'.next∧Models ro s' H'∧ExD H H' an al vs' x'.E L N∧H' tb=some (.row 0 (enc3 (topX c x x')))∧x'=expX (pureD F (matchesM F) b) i x) ?_ ?_
  ·refine WC.block (WC.seq ?_)
   refine WC.mono (Q:=fun e g' ds' s'=>e = .normal∧ds'=[]∧holds g' [(0,.slice (some ⟨f,0,none⟩) n cc),(1,.int .i64 b),(6,.slice (some ⟨an,0,none⟩) n n),(7,.slice (some ⟨al,0,none⟩) n n),(30,.slice (some ⟨f,0,none⟩) n cc),(31,.int .i64 n),(8,vs),(9,.int .i64 (x.op)),(10,.int .i64 (x.em)),(11,.int .i64 (x.is)),(12,.int .i64 i),(13,.int .i64 c),(14,.pointer (some ⟨tb,0,none⟩)),(32,.int .i64 i),(15,.int .i64 ((topM x.E).1+1+(topM x.E).1.tmod 2)),(16,.int .i64 ((topM x.E).1+2-(topM x.E).1.tmod 2)),(17,.bool (decide (x.op=0∧x.em=0))),(63,.int .i64 c),(64,.bool (decide (isEmb c)))]∧s'=s2) ?_ ?_
   ·rcases dc (c=16) with ⟨c1,hd1⟩ | ⟨c1,hd1⟩
    ·refine WC.seq (Rg (Co (Ei (z:=Av (z:=Nl (thn_n (Ct (z:=WC.skip ?_))))))))
     exact ⟨rfl,rfl,⟨rfl,rfl,rfl,rfl,rfl,rfl,rfl,rfl,rfl,rfl,rfl,rfl,rfl,rfl,rfl,rfl,rfl,rfl,congrArg (fun b=>some (Value.bool b)) (hd1.trans (decide_eq_true (p:=isEmb c) (.inl c1)).symm),trivial⟩,rfl⟩
    rcases dc (c=17) with ⟨c2,hd2⟩ | ⟨c2,hd2⟩
    ·refine WC.seq (Rg (Co (Ei (z:=Av (z:=Nl (thn_n (Cf (z:=WC.seq (Rg (Co (Ei (z:=Av (z:=Nl (thn_n (Ct (z:=WC.skip ?_))))))))))))))))
     exact ⟨rfl,rfl,⟨rfl,rfl,rfl,rfl,rfl,rfl,rfl,rfl,rfl,rfl,rfl,rfl,rfl,rfl,rfl,rfl,rfl,rfl,congrArg (fun b=>some (Value.bool b)) (hd2.trans (decide_eq_true (p:=isEmb c) (.inr (.inl c2))).symm),trivial⟩,rfl⟩
    rcases dc (c=14) with ⟨c3,hd3⟩ | ⟨c3,hd3⟩
    ·refine WC.seq (Rg (Co (Ei (z:=Av (z:=Nl (thn_n (Cf (z:=WC.seq (Rg (Co (Ei (z:=Av (z:=Nl (thn_n (Cf (z:=WC.seq (Rg (Co (Ei (z:=Av (z:=Nl (thn_n (Ct (z:=WC.skip ?_))))))))))))))))))))))))
     exact ⟨rfl,rfl,⟨rfl,rfl,rfl,rfl,rfl,rfl,rfl,rfl,rfl,rfl,rfl,rfl,rfl,rfl,rfl,rfl,rfl,rfl,congrArg (fun b=>some (Value.bool b)) (hd3.trans (decide_eq_true (p:=isEmb c) (.inr (.inr (.inl c3)))).symm),trivial⟩,rfl⟩
    refine WC.seq (Rg (Co (Ei (z:=Av (z:=Nl (thn_n (Cf (z:=WC.seq (Rg (Co (Ei (z:=Av (z:=Nl (thn_n (Cf (z:=WC.seq (Rg (Co (Ei (z:=Av (z:=Nl (thn_n (Cf (z:=Rg (Co (Ei (z:=Av (z:=Nl ?_))))))))))))))))))))))))))))
    exact ⟨rfl,rfl,⟨rfl,rfl,rfl,rfl,rfl,rfl,rfl,rfl,rfl,rfl,rfl,rfl,rfl,rfl,rfl,rfl,rfl,rfl,congrArg (fun b=>some (Value.bool b)) (decide_eq_decide.mpr ⟨fun y=>.inr (.inr (.inr y)),fun y=>by unfold isEmb at y;omega⟩),trivial⟩,rfl⟩
   rintro e g4 ds4 s4 ⟨rfl,rfl,hg4,e4⟩
   subst e4
   rw [←over_same hg4]
   refine thn_n ?_
   rcases dc (isEmb c) with ⟨hemb,hdE⟩ | ⟨hemb,hdE⟩
   ·have n22:c≠22:=fun h=>by unfold isEmb at hemb;omega
    have hel:=embLevel_c (c:=c) htop.1
    refine WC.condT rfl hdE ?_
    refine WC.seq (Rg (Mv (z:=?_)))
    refine WO.cons (SV.build rfl ?_) (by decide)
    refine Co (Al (z:=fun a17_2 s17_2 hf17_2 hne17_2 hn17_2 hM17_2=>?_))
    refine WO.cons0 (SV.storeMA (by assumption) rfl rfl rfl rfl (by exact Hp.up_same) (by (simp;done)) (fun s17_3 hn17_3 hM17_3=>?_))
    refine Nl ?_
    rw [Hp.up_up] at hM17_3
    have hI3:∀ l o,ExD H (H2.up a17_2 (.row 0 [.int .i64 l,.int .i64 o,.bool false])) an al vs x.E L N:=fun l o=>hI2.grow (fun ν o e=>Hp.up_ne (hne17_2 _ _ e) e)
    have htb3:∀ l o,(H2.up a17_2 (.row 0 [.int .i64 l,.int .i64 o,.bool false])) tb=some (.row 0 (enc3 (topM x.E))):=fun l o=>Hp.up_ne (hne17_2 _ _ htb) htb
    have hM17:Models ro s17_3 (H2.up a17_2 (.row 0 [.int .i64 ((topM x.E).1+2-(topM x.E).1.tmod 2),.int .i64 (-1),.bool false])):=hM17_3
    clear hM17_3 hM17_2 hf17_2 hne17_2
    generalize a17_2=ae at *
    refine thn_n (WC.seq ?_)
    refine WC.mono (Q:=fun e g' ds' s'=>e = .normal∧ds'=[]∧holds g' [(0,.slice (some ⟨f,0,none⟩) n cc),(1,.int .i64 b),(6,.slice (some ⟨an,0,none⟩) n n),(7,.slice (some ⟨al,0,none⟩) n n),(30,.slice (some ⟨f,0,none⟩) n cc),(31,.int .i64 n),(8,vs),(9,.int .i64 (x.op)),(10,.int .i64 (x.em)),(11,.int .i64 (x.is)),(12,.int .i64 i),(13,.int .i64 c),(14,.pointer (some ⟨tb,0,none⟩)),(32,.int .i64 i),(15,.int .i64 ((topM x.E).1+1+(topM x.E).1.tmod 2)),(16,.int .i64 ((topM x.E).1+2-(topM x.E).1.tmod 2)),(17,.bool (decide (x.op=0∧x.em=0))),(18,.pointer (some ⟨ae,0,none⟩))]∧s.next≤s'.next∧Models ro s' (H2.up ae (.row 0 [.int .i64 (embLevel x.E c),.int .i64 (-1),.bool false]))) ?_ ?_
    ·have hce:(H2.up ae (.row 0 [.int .i64 ((topM x.E).1+2-(topM x.E).1.tmod 2),.int .i64 (-1),.bool false])) ae=some (.row 0 [.int .i64 ((topM x.E).1+2-(topM x.E).1.tmod 2),.int .i64 (-1),.bool false]):=Hp.up_same
     rcases dc (c=16) with ⟨c1,hd1⟩ | ⟨c1,hd1⟩
     ·rw [if_pos (.inl c1)] at hel
      refine WC.seq (Rg (Mv (z:=Co (Ei (z:=Mv (z:=Gn (z:=Gn (z:=Co (Pt (z:=Nl (thn_n (Ct (z:=Rg (Mv (z:=Co (Fa (z:=WO.cons0 (Sv (z:=fun s19_2 hn19_2 hM19_2=>Nl ?_)))))))))))))))))))
      rw [Hp.up_up] at hM19_2
      exact ⟨rfl,rfl,Ho,by omega,by rw [hel];exact hM19_2⟩
     rcases dc (c=17) with ⟨c2,hd2⟩ | ⟨c2,hd2⟩
     ·rw [if_pos (.inr c2)] at hel
      refine WC.seq (Rg (Mv (z:=Co (Ei (z:=Mv (z:=Gy (z:=Mq (z:=Gy (z:=Ei (z:=Co (Pf (z:=Nl (thn_n (Ct (z:=Rg (Mv (z:=Co (Fa (z:=WO.cons0 (Sv (z:=fun s19_2 hn19_2 hM19_2=>Nl ?_)))))))))))))))))))))
      rw [Hp.up_up] at hM19_2
      exact ⟨rfl,rfl,Ho,by omega,by rw [hel];exact hM19_2⟩
     ·rw [if_neg (fun h=>h.elim c1 c2)] at hel
      refine WC.seq (Rg (Mv (z:=Co (Ei (z:=Mv (z:=Gy (z:=Mq (z:=Gy (z:=Ei (z:=Co (Pf (z:=Nl (thn_n (Cf (z:=WC.skip ?_)))))))))))))))
      exact ⟨rfl,rfl,Ho,by omega,by rw [hel];exact hM17⟩
    rintro e g5 ds5 s5 ⟨rfl,rfl,hg5,hn5,hM5⟩
    rw [←over_same hg5]
    clear hM17
    generalize hle:embLevel x.E c=le at hM5 ⊢
    clear hel
    refine thn_n (WC.seq ?_)
    refine WC.mono (Q:=fun e g' ds' s'=>e = .normal∧ds'=[]∧holds g' [(0,.slice (some ⟨f,0,none⟩) n cc),(1,.int .i64 b),(6,.slice (some ⟨an,0,none⟩) n n),(7,.slice (some ⟨al,0,none⟩) n n),(30,.slice (some ⟨f,0,none⟩) n cc),(31,.int .i64 n),(8,vs),(9,.int .i64 (x.op)),(10,.int .i64 (x.em)),(11,.int .i64 (x.is)),(12,.int .i64 i),(13,.int .i64 c),(14,.pointer (some ⟨tb,0,none⟩)),(32,.int .i64 i),(15,.int .i64 ((topM x.E).1+1+(topM x.E).1.tmod 2)),(16,.int .i64 ((topM x.E).1+2-(topM x.E).1.tmod 2)),(17,.bool (decide (x.op=0∧x.em=0))),(18,.pointer (some ⟨ae,0,none⟩))]∧s.next≤s'.next∧Models ro s' (H2.up ae (.row 0 [.int .i64 le,.int .i64 (if c=17 then 1 else -1),.bool false]))) ?_ ?_
    ·have hce:(H2.up ae (.row 0 [.int .i64 le,.int .i64 (-1),.bool false])) ae=some (.row 0 [.int .i64 le,.int .i64 (-1),.bool false]):=Hp.up_same
     rcases dc (c=17) with ⟨c1,hd1⟩ | ⟨c1,hd1⟩
     ·refine WC.seq (Rg (Mv (z:=Co (Ei (z:=Nl (thn_n (Ct (z:=Rg (Co (Fa (z:=WO.cons0 (Sv (z:=fun s21_1 hn21_1 hM21_1=>Nl ?_)))))))))))))
      rw [Hp.up_up] at hM21_1
      exact ⟨rfl,rfl,Ho,by omega,by rw [if_pos c1];exact hM21_1⟩
     ·refine WC.seq (Rg (Mv (z:=Co (Ei (z:=Nl (thn_n (Cf (z:=WC.skip ?_))))))))
      exact ⟨rfl,rfl,Ho,by omega,by rw [if_neg c1];exact hM5⟩
    rintro e g6 ds6 s6 ⟨rfl,rfl,hg6,hn6,hM6⟩
    rw [←over_same hg6]
    clear hM5
    refine thn_n (WC.seq ?_)
    refine WC.mono (Q:=fun e g' ds' s'=>e = .normal∧ds'=[]∧holds g' [(0,.slice (some ⟨f,0,none⟩) n cc),(1,.int .i64 b),(6,.slice (some ⟨an,0,none⟩) n n),(7,.slice (some ⟨al,0,none⟩) n n),(30,.slice (some ⟨f,0,none⟩) n cc),(31,.int .i64 n),(8,vs),(9,.int .i64 (x.op)),(10,.int .i64 (x.em)),(11,.int .i64 (x.is)),(12,.int .i64 i),(13,.int .i64 c),(14,.pointer (some ⟨tb,0,none⟩)),(32,.int .i64 i),(15,.int .i64 ((topM x.E).1+1+(topM x.E).1.tmod 2)),(16,.int .i64 ((topM x.E).1+2-(topM x.E).1.tmod 2)),(17,.bool (decide (x.op=0∧x.em=0))),(18,.pointer (some ⟨ae,0,none⟩))]∧s.next≤s'.next∧Models ro s' (H2.up ae (.row 0 [.int .i64 le,.int .i64 (embOver c),.bool false]))) ?_ ?_
    ·have hce:(H2.up ae (.row 0 [.int .i64 le,.int .i64 (if c=17 then 1 else -1),.bool false])) ae=some (.row 0 [.int .i64 le,.int .i64 (if c=17 then 1 else -1),.bool false]):=Hp.up_same
     rcases dc (c=15) with ⟨c1,hd1⟩ | ⟨c1,hd1⟩
     ·refine WC.seq (Rg (Mv (z:=Co (Ei (z:=Nl (thn_n (Ct (z:=Rg (Co (Fa (z:=WO.cons0 (Sv (z:=fun s23_1 hn23_1 hM23_1=>Nl ?_)))))))))))))
      rw [Hp.up_up] at hM23_1
      exact ⟨rfl,rfl,Ho,by omega,by rw [show embOver c=0 by unfold embOver;rw [if_neg (by omega),if_pos c1]];exact hM23_1⟩
     ·refine WC.seq (Rg (Mv (z:=Co (Ei (z:=Nl (thn_n (Cf (z:=WC.skip ?_))))))))
      exact ⟨rfl,rfl,Ho,by omega,by rw [show embOver c=if c=17 then 1 else -1 by unfold embOver;rw [if_neg c1]];exact hM6⟩
    rintro e g7 ds7 s7 ⟨rfl,rfl,hg7,hn7,hM7⟩
    rw [←over_same hg7]
    clear hM6
    refine thn_n ?_
    have hx0:=expX_c (F:=F) (M:=matchesM F) (b:=b) (x:=x) hc
    rw [if_pos hemb,hle] at hx0
    have hI7:=hI3 le (embOver c)
    have htb7:=htb3 le (embOver c)
    have hce:(H2.up ae (.row 0 [.int .i64 le,.int .i64 (embOver c),.bool false])) ae=some (.row 0 [.int .i64 le,.int .i64 (embOver c),.bool false]):=Hp.up_same
    generalize H2.up ae (.row 0 [.int .i64 le,.int .i64 (embOver c),.bool false])=H7 at hM7 hI7 htb7 hce
    have hst:=hI7.st
    have htx:∀ x':XS,topX c x x'=topM x.E:=fun x'=>if_neg n22
    rcases dc (x.op=0∧x.em=0) with ⟨hfr,hdfr⟩ | ⟨hfr,hdfr⟩
    ·refine WC.seq (Rg (Mv (z:=Mv (z:=Gy (z:=Fa (z:=Gy (z:=Ld (z:=Gy (z:=Le (z:=Co (Pt (z:=Nl (thn_n ?_)))))))))))))
     refine WC.condD rfl (fun h125 h125b=>?_) (fun h125 h125b=>?_)
     ·rw [if_pos ⟨h125,hfr⟩] at hx0
      refine Rg ?_
      refine WO.cons (SV.move ?_) (by decide)
      refine Co ?_
      refine SV.loadMA (l:=enc3 (le,embOver c,false)) (by assumption) rfl hce rfl (fun t u hu=>by rw [Nat.zero_add];exact hu) ?_
      refine Co (Bs (z:=fun a25_2 s25_2 hf25_2 hne25_2 hn25_2 hM25_2=>Co ?_))
      have hMb:Models ro s25_2 (H7.up a25_2 (.row 3 (enc3 (le,embOver c,false)))):=hM25_2
      clear hM25_2
      have hpu:SlO (H7.up a25_2 (.row 3 (enc3 (le,embOver c,false)))) vs 3 x.E.length (x.E.flatMap enc3):=hst.up (fun h=>by obtain ⟨o,ho⟩:=hst.base_some h;exact hne25_2 _ _ ho rfl)
      refine SV.appendM (e:=103) (e':=103) (sz:=3) (sz':=3) (n:=x.E.length) (m:=1) (vs:=x.E.flatMap enc3) (xs:=enc3 (le,embOver c,false)) rfl hMb rfl rfl hpu (src3 Hp.up_same) rfl (by omega) (fun v8 s8 H8 hn8 hM8 hv8 hk8 hnew8 _=>?_)
      refine WO.cons (SV.assign ?_) (by decide)
      refine Nl ?_
      obtain ⟨hI8,k8⟩:=hI7.push hne25_2 hv8 hk8 hnew8
      exact ⟨rfl,rfl,v8,⟨x.E++[(le,embOver c,false)],x.op,x.em,x.is⟩,H8,Ho,by omega,hM8,hI8,(by rw [htx];exact (k8 _ _ htb7 tbv).1),(hx0).symm⟩
     ·rw [if_neg (fun y=>h125 y.1),if_pos hfr.1] at hx0
      have hdo:decide (x.op=0)=true:=decide_eq_true hfr.1
      refine WC.seq (Rg (Mv (z:=Co (Ei (z:=Nl (thn_n (Ct (z:=Rg (Mv (z:=Co (Ad (z:=Av (z:=Nl ?_)))))))))))))
      exact ⟨rfl,rfl,vs,⟨x.E,x.op,x.em+1,x.is⟩,H7,Ho,by omega,hM7,hI7,(by rw [htx];exact htb7),(hx0).symm⟩
    ·rw [if_neg (fun y=>hfr y.2)] at hx0
     refine WC.seq (Rg (Mv (z:=Mv (z:=Gn (z:=Gn (z:=Gn (z:=Co (Pf (z:=Nl (thn_n (Cf (z:=WC.seq ?_))))))))))))
     rcases dc (x.op=0) with ⟨ho,hdo⟩ | ⟨ho,hdo⟩
     ·rw [if_pos ho] at hx0
      have hem:=hXO.em
      refine Rg (Mv (z:=Co (Ei (z:=Nl (thn_n (Ct (z:=Rg (Mv (z:=Co (Ad (z:=Av (z:=Nl ?_))))))))))))
      exact ⟨rfl,rfl,vs,⟨x.E,x.op,x.em+1,x.is⟩,H7,Ho,by omega,hM7,hI7,(by rw [htx];exact htb7),(hx0).symm⟩
     ·rw [if_neg ho] at hx0
      refine Rg (Mv (z:=Co (Ei (z:=Nl (thn_n (Cf (z:=WC.skip ?_)))))))
      exact ⟨rfl,rfl,vs,⟨x.E,x.op,x.em,x.is⟩,H7,Ho,by omega,hM7,hI7,(by rw [htx];exact htb7),(hx0).symm⟩
   refine WC.condF rfl hdE ?_
   refine WC.seq ?_
   refine WC.mono (Q:=fun e g' ds' s'=>e = .normal∧ds'=[]∧holds g' [(0,.slice (some ⟨f,0,none⟩) n cc),(1,.int .i64 b),(6,.slice (some ⟨an,0,none⟩) n n),(7,.slice (some ⟨al,0,none⟩) n n),(30,.slice (some ⟨f,0,none⟩) n cc),(31,.int .i64 n),(8,vs),(9,.int .i64 (x.op)),(10,.int .i64 (x.em)),(11,.int .i64 (x.is)),(12,.int .i64 i),(13,.int .i64 c),(14,.pointer (some ⟨tb,0,none⟩)),(32,.int .i64 i),(15,.int .i64 ((topM x.E).1+1+(topM x.E).1.tmod 2)),(16,.int .i64 ((topM x.E).1+2-(topM x.E).1.tmod 2)),(17,.bool (decide (x.op=0∧x.em=0))),(63,.int .i64 c),(99,.bool (decide (isOpener c)))]∧s'=s4) ?_ ?_
   ·rcases dc (c=20) with ⟨c1,hd1⟩ | ⟨c1,hd1⟩
    ·refine WC.seq (Rg (Co (Ei (z:=Av (z:=Nl (thn_n (Ct (z:=WC.skip ?_))))))))
     exact ⟨rfl,rfl,⟨rfl,rfl,rfl,rfl,rfl,rfl,rfl,rfl,rfl,rfl,rfl,rfl,rfl,rfl,rfl,rfl,rfl,rfl,congrArg (fun b=>some (Value.bool b)) (hd1.trans (decide_eq_true (p:=isOpener c) (.inr (.inl c1))).symm),trivial⟩,rfl⟩
    rcases dc (c=19) with ⟨c2,hd2⟩ | ⟨c2,hd2⟩
    ·refine WC.seq (Rg (Co (Ei (z:=Av (z:=Nl (thn_n (Cf (z:=WC.seq (Rg (Co (Ei (z:=Av (z:=Nl (thn_n (Ct (z:=WC.skip ?_))))))))))))))))
     exact ⟨rfl,rfl,⟨rfl,rfl,rfl,rfl,rfl,rfl,rfl,rfl,rfl,rfl,rfl,rfl,rfl,rfl,rfl,rfl,rfl,rfl,congrArg (fun b=>some (Value.bool b)) (hd2.trans (decide_eq_true (p:=isOpener c) (.inl c2)).symm),trivial⟩,rfl⟩
    refine WC.seq (Rg (Co (Ei (z:=Av (z:=Nl (thn_n (Cf (z:=WC.seq (Rg (Co (Ei (z:=Av (z:=Nl (thn_n (Cf (z:=Rg (Co (Ei (z:=Av (z:=Nl ?_))))))))))))))))))))
    exact ⟨rfl,rfl,⟨rfl,rfl,rfl,rfl,rfl,rfl,rfl,rfl,rfl,rfl,rfl,rfl,rfl,rfl,rfl,rfl,rfl,rfl,congrArg (fun b=>some (Value.bool b)) (decide_eq_decide.mpr ⟨fun y=>.inr (.inr y),fun y=>by unfold isOpener at y;omega⟩),trivial⟩,rfl⟩
   rintro e g5 ds5 s5 ⟨rfl,rfl,hg5,e5⟩
   subst e5
   rw [←over_same hg5]
   refine thn_n ?_
   rcases dc (isOpener c) with ⟨hop,hdO⟩ | ⟨hop,hdO⟩
   ·have n22:c≠22:=fun h=>by unfold isOpener at hop;omega
    have hol:=openLevel_c (F:=F) (b:=b) htop.1 hi0 (by omega) hc hop
    refine WC.condT rfl hdO ?_
    refine WC.seq (Rg (Mv (z:=Av (z:=Nl (thn_n (WC.seq ?_))))))
    refine WC.mono (Q:=fun e g' ds' s'=>e = .normal∧ds'=[]∧holds g' [(0,.slice (some ⟨f,0,none⟩) n cc),(1,.int .i64 b),(6,.slice (some ⟨an,0,none⟩) n n),(7,.slice (some ⟨al,0,none⟩) n n),(30,.slice (some ⟨f,0,none⟩) n cc),(31,.int .i64 n),(8,vs),(9,.int .i64 (x.op)),(10,.int .i64 (x.em)),(11,.int .i64 (x.is)),(12,.int .i64 i),(13,.int .i64 c),(14,.pointer (some ⟨tb,0,none⟩)),(32,.int .i64 i),(15,.int .i64 ((topM x.E).1+1+(topM x.E).1.tmod 2)),(16,.int .i64 ((topM x.E).1+2-(topM x.E).1.tmod 2)),(17,.bool (decide (x.op=0∧x.em=0))),(19,.int .i64 (if c=20 then (topM x.E).1+1+(topM x.E).1.tmod 2 else (topM x.E).1+2-(topM x.E).1.tmod 2))]∧s.next≤s'.next∧Models ro s' H2) ?_ ?_
    ·rcases dc (c=20) with ⟨c1,hd1⟩ | ⟨c1,hd1⟩
     ·rw [if_pos c1]
      refine WC.seq (Rg (Mv (z:=Co (Ei (z:=Nl (thn_n (Ct (z:=Rg (Mv (z:=Av (z:=Nl ?_)))))))))))
      exact ⟨rfl,rfl,Ho,by omega,hM2⟩
     ·rw [if_neg c1]
      refine WC.seq (Rg (Mv (z:=Co (Ei (z:=Nl (thn_n (Cf (z:=WC.skip ?_))))))))
      exact ⟨rfl,rfl,Ho,by omega,hM2⟩
    rintro e g6 ds6 s6 ⟨rfl,rfl,hg6,hn6,hM6⟩
    rw [←over_same hg6]
    refine thn_n (WC.seq ?_)
    refine WC.mono (Q:=fun e g' ds' s'=>e = .normal∧ds'=[]∧holds g' [(0,.slice (some ⟨f,0,none⟩) n cc),(1,.int .i64 b),(6,.slice (some ⟨an,0,none⟩) n n),(7,.slice (some ⟨al,0,none⟩) n n),(30,.slice (some ⟨f,0,none⟩) n cc),(31,.int .i64 n),(8,vs),(9,.int .i64 (x.op)),(10,.int .i64 (x.em)),(11,.int .i64 (x.is)),(12,.int .i64 i),(13,.int .i64 c),(14,.pointer (some ⟨tb,0,none⟩)),(32,.int .i64 i),(15,.int .i64 ((topM x.E).1+1+(topM x.E).1.tmod 2)),(16,.int .i64 ((topM x.E).1+2-(topM x.E).1.tmod 2)),(17,.bool (decide (x.op=0∧x.em=0))),(19,.int .i64 (openLevel (pureD F (matchesM F) b) x.E i c))]∧s.next≤s'.next∧Models ro s' H2) ?_ ?_
    ·rcases dc (c=21) with ⟨c1,hd1⟩ | ⟨c1,hd1⟩
     ·have hmr:mOf F i<0∨(0≤mOf F i∧mOf F i<n):=by
       have:=matchD_rg F (F.length-(i+1).toNat) (i+1) 1
       unfold mOf
       omega
      refine WC.seq (Rg (Mv (z:=Co (Ei (z:=Nl (thn_n ?_))))))
      refine WC.condT rfl hd1 ?_
      refine WC.seq (Rg (Mv (z:=Mv (z:=Co ?_))))
      refine SV.callM rfl rfl (matchD_spN hX hM6 hf2 hl hn ⟨by omega,by omega⟩) ?_
      rintro v s7 H7 hn7 hM7 ⟨rfl,eH⟩
      rw [eH] at hM7
      clear eH
      refine Av (z:=Nl (thn_n (WC.seq ?_)))
      refine WC.mono (Q:=fun e g' ds' s'=>e = .normal∧ds'=[]∧holds g' [(0,.slice (some ⟨f,0,none⟩) n cc),(1,.int .i64 b),(6,.slice (some ⟨an,0,none⟩) n n),(7,.slice (some ⟨al,0,none⟩) n n),(30,.slice (some ⟨f,0,none⟩) n cc),(31,.int .i64 n),(8,vs),(9,.int .i64 (x.op)),(10,.int .i64 (x.em)),(11,.int .i64 (x.is)),(12,.int .i64 i),(13,.int .i64 c),(14,.pointer (some ⟨tb,0,none⟩)),(32,.int .i64 i),(15,.int .i64 ((topM x.E).1+1+(topM x.E).1.tmod 2)),(16,.int .i64 ((topM x.E).1+2-(topM x.E).1.tmod 2)),(17,.bool (decide (x.op=0∧x.em=0))),(19,.int .i64 (if c=20 then (topM x.E).1+1+(topM x.E).1.tmod 2 else (topM x.E).1+2-(topM x.E).1.tmod 2)),(20,.int .i64 (if mOf F i<0 then (F.length:Int) else mOf F i))]∧s.next≤s'.next∧Models ro s' H2) ?_ ?_
      ·rcases dc (mOf F i<0) with ⟨hm,hdm⟩ | ⟨hm,hdm⟩
       ·rw [if_pos hm,hl]
        refine WC.seq (Rg (Mv (z:=Co (Lt (z:=Nl (thn_n (Ct (z:=Rg (Mv (z:=Co (Ln (z:=Av (z:=Nl ?_)))))))))))))
        exact ⟨rfl,rfl,Ho,by omega,hM7⟩
       ·rw [if_neg hm]
        refine WC.seq (Rg (Mv (z:=Co (Lt (z:=Nl (thn_n (Cf (z:=WC.skip ?_))))))))
        exact ⟨rfl,rfl,Ho,by omega,hM7⟩
      rintro e g8 ds8 s8 ⟨rfl,rfl,hg8,hn8,hM8⟩
      rw [←over_same hg8]
      have hto:0≤(if mOf F i<0 then (F.length:Int) else mOf F i)∧(if mOf F i<0 then (F.length:Int) else mOf F i)≤n:=by split <;> omega
      generalize (if mOf F i<0 then (F.length:Int) else mOf F i)=to at hto hol ⊢
      refine thn_n (WC.seq (Rg (Mv (z:=Mv (z:=Co (Ad (z:=Mv (z:=Co ?_))))))))
      refine SV.callM rfl rfl (firstD_spN hX hM8 hf2 hl hn ⟨by omega,by omega⟩ hto) ?_
      rintro v s9 H9 hn9 hM9 ⟨rfl,eH⟩
      rw [eH] at hM9
      clear eH
      refine Co (Ei (z:=Nl (thn_n ?_)))
      rcases dc (firstD F to (F.length+1) (i+1)=1) with ⟨hfl,hdf⟩ | ⟨hfl,hdf⟩
      ·rw [if_pos (.inr ⟨c1,hfl⟩)] at hol
       rw [hol]
       refine Ct (z:=Rg (Mv (z:=Av (z:=Nl ?_))))
       exact ⟨rfl,rfl,Ho,by omega,hM9⟩
      ·rw [if_neg (fun y=>by rcases y with y | y;omega;exact hfl y.2)] at hol
       rw [hol,if_neg (show ¬ c=20 by omega)]
       refine Cf (z:=WC.skip ?_)
       exact ⟨rfl,rfl,Ho,by omega,hM9⟩
     ·have hol2:openLevel (pureD F (matchesM F) b) x.E i c=if c=20 then (topM x.E).1+1+(topM x.E).1.tmod 2 else (topM x.E).1+2-(topM x.E).1.tmod 2:=by
       rw [hol]
       by_cases c2:c=20
       ·rw [if_pos (.inl c2),if_pos c2]
       ·rw [if_neg (fun y=>y.elim c2 (fun z=>c1 z.1)),if_neg c2]
      rw [hol2]
      refine WC.seq (Rg (Mv (z:=Co (Ei (z:=Nl (thn_n (Cf (z:=WC.skip ?_))))))))
      exact ⟨rfl,rfl,Ho,by omega,hM6⟩
    rintro e g7 ds7 s7 ⟨rfl,rfl,hg7,hn7,hM7⟩
    rw [←over_same hg7]
    clear hM6 hol
    refine thn_n ?_
    have hx0:=expX_c (F:=F) (M:=matchesM F) (b:=b) (x:=x) hc
    rw [if_neg hemb,if_pos hop] at hx0
    have htx:∀ x':XS,topX c x x'=topM x.E:=fun x'=>if_neg n22
    have hst:=hI2.st
    generalize openLevel (pureD F (matchesM F) b) x.E i c=le at hx0 ⊢
    rcases dc (x.op=0∧x.em=0) with ⟨hfr,hdfr⟩ | ⟨hfr,hdfr⟩
    ·refine WC.seq (Rg (Mv (z:=Mv (z:=Gy (z:=Mq (z:=Gy (z:=Le (z:=Co (Pt (z:=Nl (thn_n ?_)))))))))))
     refine WC.condD rfl (fun h125 h125b=>?_) (fun h125 h125b=>?_)
     ·rw [if_pos ⟨h125,hfr⟩] at hx0
      have his:=hXO.iso.nonneg
      refine WC.seq (Rg ?_)
      refine WO.cons (SV.move ?_) (by decide)
      refine Mv (z:=?_)
      refine WO.cons (SV.build rfl ?_) (by decide)
      refine Co (Bs (z:=fun a41_3 s41_3 hf41_3 hne41_3 hn41_3 hM41_3=>Co ?_))
      have hMb:Models ro s41_3 (H2.up a41_3 (.row 3 (enc3 (le,-1,true)))):=hM41_3
      clear hM41_3
      have hpu:SlO (H2.up a41_3 (.row 3 (enc3 (le,-1,true)))) vs 3 x.E.length (x.E.flatMap enc3):=hst.up (fun h=>by obtain ⟨o,ho⟩:=hst.base_some h;exact hne41_3 _ _ ho rfl)
      refine SV.appendM (e:=103) (e':=103) (sz:=3) (sz':=3) (n:=x.E.length) (m:=1) (vs:=x.E.flatMap enc3) (xs:=enc3 (le,-1,true)) rfl hMb rfl rfl hpu (src3 Hp.up_same) rfl (by omega) (fun v8 s8 H8 hn8 hM8 hv8 hk8 hnew8 _=>?_)
      refine WO.cons (SV.assign ?_) (by decide)
      refine Nl (thn_n (Rg (Mv (z:=Co (Ad (z:=Av (z:=Nl ?_)))))))
      obtain ⟨hI8,k8⟩:=hI2.push hne41_3 hv8 hk8 hnew8
      exact ⟨rfl,rfl,v8,⟨x.E++[(le,-1,true)],x.op,x.em,x.is+1⟩,H8,Ho,by omega,hM8,hI8,(by rw [htx];exact (k8 _ _ htb tbv).1),(hx0).symm⟩
     ·rw [if_neg (fun y=>h125 y.1)] at hx0
      have hopb:=hXO.op
      refine Rg (Mv (z:=Co (Ad (z:=Av (z:=Nl ?_)))))
      exact ⟨rfl,rfl,vs,⟨x.E,x.op+1,x.em,x.is⟩,H2,Ho,by omega,hM7,hI2,(by rw [htx];exact htb),(hx0).symm⟩
    ·rw [if_neg (fun y=>hfr y.2)] at hx0
     have hopb:=hXO.op
     refine WC.seq (Rg (Mv (z:=Mv (z:=Gn (z:=Gn (z:=Co (Pf (z:=Nl (thn_n (Cf (z:=Rg (Mv (z:=Co (Ad (z:=Av (z:=Nl ?_))))))))))))))))
     exact ⟨rfl,rfl,vs,⟨x.E,x.op+1,x.em,x.is⟩,H2,Ho,by omega,hM7,hI2,(by rw [htx];exact htb),(hx0).symm⟩
   have hx0:=expX_c (F:=F) (M:=matchesM F) (b:=b) (x:=x) hc
   rw [if_neg hemb,if_neg hop] at hx0
   refine WC.condF rfl hdO ?_
   rcases dc (c=22) with ⟨h22,hd22⟩ | ⟨h22,hd22⟩
   ·rw [if_pos h22] at hx0
    refine WC.seq (Rg (Co (Ei (z:=Av (z:=Nl (thn_n ?_))))))
    refine WC.condT rfl hd22 ?_
    refine WC.seq ?_
    refine WC.mono (Q:=fun e g' ds' s'=>e = .normal∧ds'=[]∧∃ vs':Value,holds g' [(0,.slice (some ⟨f,0,none⟩) n cc),(1,.int .i64 b),(6,.slice (some ⟨an,0,none⟩) n n),(7,.slice (some ⟨al,0,none⟩) n n),(30,.slice (some ⟨f,0,none⟩) n cc),(31,.int .i64 n),(8,vs'),(9,.int .i64 (shutOp x.op)),(10,.int .i64 (shutEm x.op x.em x.is)),(11,.int .i64 (shutIs x.op x.is)),(12,.int .i64 i),(13,.int .i64 c),(14,.pointer (some ⟨tb,0,none⟩)),(32,.int .i64 i)]∧s.next≤s'.next∧Models ro s' H2∧ExD H H2 an al vs' (shutE x.E x.op x.is) L N∧baseV vs'=baseV vs) ?_ ?_
    ·rcases dc (0<x.op) with ⟨ho,hdo⟩ | ⟨ho,hdo⟩
     ·rw [show shutE x.E x.op x.is=x.E from if_pos ho,show shutOp x.op=x.op-1 from if_pos ho,show shutEm x.op x.em x.is=x.em from if_pos ho,show shutIs x.op x.is=x.is from if_pos ho]
      have hopb:=hXO.op
      refine WC.seq (Rg (Mv (z:=Co (Gt (z:=Nl (thn_n (Ct (z:=Rg (Mv (z:=Co (Sb (z:=Av (z:=Nl ?_)))))))))))))
      exact ⟨rfl,rfl,vs,Ho,by omega,hM2,hI2,rfl⟩
     rcases dc (0<x.is) with ⟨his,hdi⟩ | ⟨his,hdi⟩
     ·rw [show shutE x.E x.op x.is=popIso x.E.length x.E from (if_neg ho).trans (if_pos his),show shutOp x.op=x.op from if_neg ho,show shutEm x.op x.em x.is=0 from (if_neg ho).trans (if_pos his),show shutIs x.op x.is=x.is-1 from (if_neg ho).trans (if_pos his)]
      have hisb:=hXO.iso.nonneg
      refine WC.seq (Rg (Mv (z:=Co (Gt (z:=Nl (thn_n (Cf (z:=WC.seq (Rg (Mv (z:=Co (Gt (z:=Nl (thn_n (Ct (z:=WC.seq (Rg (Av (z:=Nl (thn_n (WC.seq (WC.block ?_))))))))))))))))))))))
      refine WC.loop (D:=Value×List Ent3) (fun y=>[(0,.slice (some ⟨f,0,none⟩) n cc),(1,.int .i64 b),(6,.slice (some ⟨an,0,none⟩) n n),(7,.slice (some ⟨al,0,none⟩) n n),(30,.slice (some ⟨f,0,none⟩) n cc),(31,.int .i64 n),(8,y.1),(9,.int .i64 (x.op)),(10,.int .i64 (0)),(11,.int .i64 (x.is)),(12,.int .i64 i),(13,.int .i64 c),(14,.pointer (some ⟨tb,0,none⟩)),(32,.int .i64 i)])
       (fun y s1=>s.next≤s1.next∧Models ro s1 H2∧ExD H H2 an al y.1 y.2 L N∧baseV y.1=baseV vs∧IsoOk y.2 x.is∧popIso y.2.length y.2=popIso x.E.length x.E∧y.2.length≤x.E.length) (fun y=>y.2.length) (vs,x.E) ?_ ⟨by omega,hM2,hI2,rfl,hXO.iso,rfl,Nat.le_refl _⟩ ?_
      ·exact Ho
      rintro ⟨v,E⟩ g s6 ⟨hn6,hM6,hI6,hb6,hiE,hres6,hle6⟩
      dsimp only at hn6 hI6 hb6 hiE hres6 hle6 ⊢
      obtain ⟨hd6,hi2⟩:=hiE.pop his
      have hE6:E≠[]:=fun h=>hd6 (by rw [h];rfl)
      have hp6:0<E.length:=List.length_pos_iff.mpr hE6
      obtain ⟨hj6,ht6⟩:=top_at hE6
      obtain ⟨ν6,c6,ws6,hv6,hν6,_,_,_,hat6⟩:=hI6.st.at enc3_len rfl hp6
      have hw6:ws6[0+((E.length:Int)-1).toNat*3+2]?=some (.bool (topM E).2.2):=by
       have:=hat6 _ hj6 2 (.bool (topM E).2.2) (by rw [ht6];rfl)
       rw [show 0+((E.length:Int)-1).toNat*3+2=(E.length-1)*3+2 by omega]
       exact this
      subst hv6
      have hst6:=hI6.st
      rw [show E.length=(E.length-1)+1 by omega] at hres6
      simp only [popIso] at hres6
      refine WC.seq (WC.seq (Rg (Mv (z:=Mv (z:=Co (Ln (z:=Co (Sb (z:=Co (Ix (z:=Co (Fa (z:=Co (Ld (z:=?_)))))))))))))))
      refine WO.cons (SV.not rfl ?_) (by decide)
      refine Nl ?_
      ·by_cases ht:(topM E).2.2=true
       ·rw [if_pos ht] at hres6
        have hdt:(!(topM E).2.2)=false:=by rw [ht];rfl
        refine thn_n (Cf (z:=WC.exit ?_))
        refine thn_x ?_
        refine thn_x ?_
        refine blk_x ?_
        refine thn_n (WC.seq (Rg (Mv (z:=Mv (z:=Co (Ln (z:=Co (Sb (z:=Co ?_)))))))))
        refine SV.sliceTo (by assumption) rfl hst6 rfl ⟨by omega,by omega⟩ (fun v9 hv9 hb9=>?_)
        refine WO.cons (SV.assign ?_) (by decide)
        refine Nl (thn_n (Rg (Mv (z:=Co (Sb (z:=Av (z:=Nl ?_)))))))
        have hI9:=hI6.pop rfl hE6 hv9 hb9
        rw [hres6] at hI9
        exact ⟨rfl,rfl,v9,Ho,by omega,hM6,hI9,hb9.trans hb6⟩
       ·have htf:(topM E).2.2=false:=by simpa using ht
        rw [if_neg ht] at hres6 hi2
        have hdt:(!(topM E).2.2)=true:=by rw [htf];rfl
        refine thn_n (Ct (z:=WC.skip (WC.block (Rg (Mv (z:=Mv (z:=Co (Ln (z:=Co (Sb (z:=Co ?_)))))))))))
        refine SV.sliceTo (by assumption) rfl hst6 rfl ⟨by omega,by omega⟩ (fun v9 hv9 hb9=>?_)
        refine WO.cons (SV.assign ?_) (by decide)
        refine Nl ?_
        have hI9:=hI6.pop rfl hE6 hv9 hb9
        exact ⟨rfl,(v9,E.dropLast),Ho,⟨by omega,hM6,hI9,hb9.trans hb6,hi2,by dsimp only;rw [List.length_dropLast];exact hres6,by dsimp only;rw [List.length_dropLast];omega⟩,by dsimp only;rw [List.length_dropLast];omega⟩
     ·rw [show shutE x.E x.op x.is=x.E from (if_neg ho).trans (if_neg his),show shutOp x.op=x.op from if_neg ho,show shutEm x.op x.em x.is=x.em from (if_neg ho).trans (if_neg his),show shutIs x.op x.is=x.is from (if_neg ho).trans (if_neg his)]
      refine WC.seq (Rg (Mv (z:=Co (Gt (z:=Nl (thn_n (Cf (z:=WC.seq (Rg (Mv (z:=Co (Gt (z:=Nl (thn_n (Cf (z:=WC.skip ?_))))))))))))))))
      exact ⟨rfl,rfl,vs,Ho,by omega,hM2,hI2,rfl⟩
    rintro e g6 ds6 s6 ⟨rfl,rfl,v6,hg6,hn6,hM6,hI6,hb6⟩
    rw [←over_same hg6]
    refine thn_n ?_
    have hXE:=hXN.ne
    rw [hx0] at hXE
    have hXE2:shutE x.E x.op x.is≠[]:=hXE
    have htx:topX c x ⟨shutE x.E x.op x.is,shutOp x.op,shutEm x.op x.em x.is,shutIs x.op x.is⟩=topM (shutE x.E x.op x.is):=if_pos h22
    have hpl:=hXN.len
    rw [hx0] at hpl
    have hpl2:((shutE x.E x.op x.is).length:Int)≤i+1+1:=hpl
    generalize shutE x.E x.op x.is=E6 at hI6 hXE2 htx hx0 hpl2
    have hp6:0<E6.length:=List.length_pos_iff.mpr hXE2
    obtain ⟨hj6,ht6⟩:=top_at hXE2
    obtain ⟨ν6,c6,ws6,hv6,hν6,_,_,_,hat6⟩:=hI6.st.at enc3_len rfl hp6
    subst hv6
    refine Rg (Mv (z:=Mv (z:=Co (Ln (z:=Co (Sb (z:=Co (Ix (z:=Co ?_)))))))))
    refine SV.loadMA (l:=enc3 (topM E6)) (by assumption) rfl hν6 rfl (fun t u hu=>?_) ?_
    ·have:=hat6 _ hj6 t u (by rw [ht6];exact hu)
     rw [show (0:Nat)+(((E6.length:Nat):Int)-1).toNat*3+t=(E6.length-1)*3+t by omega]
     exact this
    refine WO.cons0 (SV.storeMA (by assumption) rfl rfl rfl rfl (by assumption) (by exact Nat.le_refl _) (fun s53_6 hn53_6 hM53_6=>?_))
    refine Nl ?_
    have hM7:Models ro s53_6 (H2.up tb (.row 0 (enc3 (topM E6)))):=hM53_6
    have hI7:=hI6.cell (o:=.row 0 (enc3 (topM E6))) tb0 tbn tbl (by rw [hb6];exact tbv)
    exact ⟨rfl,rfl,_,⟨E6,shutOp x.op,shutEm x.op x.em x.is,shutIs x.op x.is⟩,_,Ho,by omega,hM7,hI7,(by rw [htx];exact Hp.up_same),(hx0).symm⟩
   rw [if_neg h22] at hx0
   have htx:∀ x':XS,topX c x x'=topM x.E:=fun x'=>if_neg h22
   refine WC.seq (Rg (Co (Ei (z:=Av (z:=Nl (thn_n (Cf (z:=WC.seq ?_))))))))
   rcases dc (c=18) with ⟨h18,hd18⟩ | ⟨h18,hd18⟩
   ·rw [if_pos h18] at hx0
    refine Rg (Co (Ei (z:=Av (z:=Nl (thn_n (Ct (z:=WC.seq ?_)))))))
    have hopb:=hXO.op
    have hemb2:=hXO.em
    have hst:=hI2.st
    rcases dc (x.op=0) with ⟨ho,hdo⟩ | ⟨ho,hdo⟩
    ·rw [if_neg (show ¬ 0<x.op by omega)] at hx0
     rcases dc (0<x.em) with ⟨he,hde⟩ | ⟨he,hde⟩
     ·rw [if_pos he] at hx0
      refine Rg (Mv (z:=Co (Ei (z:=Mv (z:=Gy (z:=Mq (z:=Gy (z:=Gt (z:=Co (Pt (z:=Nl (thn_n (Ct (z:=Rg (Mv (z:=Co (Sb (z:=Av (z:=Nl ?_)))))))))))))))))))
      exact ⟨rfl,rfl,vs,⟨x.E,x.op,x.em-1,x.is⟩,H2,Ho,by omega,hM2,hI2,(by rw [htx];exact htb),(hx0).symm⟩
     rw [if_neg he] at hx0
     by_cases hl1:1<x.E.length
     ·have hdl1:decide ((1:Int)<(x.E.length:Int))=true:=decide_eq_true (by omega)
      by_cases ht:(topM x.E).2.2=true
      ·rw [if_neg (fun y=>by rw [ht] at y;exact absurd y.2 (by decide))] at hx0
       refine Rg (Mv (z:=Co (Ei (z:=Mv (z:=Gy (z:=Mq (z:=Gy (z:=Gt (z:=Co (Pt (z:=Nl (thn_n (Cf (z:=WC.seq (Rg (Mv (z:=Co (Ei (z:=Mv (z:=?_))))))))))))))))))))
       refine WO.guardY rfl rfl rfl (by assumption) (SV.move ?_) (by decide)
       all_goals refine Gy (z:=Lo (z:=Gy (z:=Gt (z:=Co (Pt (z:=Mv (z:=Gy (z:=Fa (z:=Gy (z:=Ld (z:=Gy (z:=Nn (z:=Co (Pt (z:=Nl ?_)))))))))))))))
       refine thn_n (Cf (z:=WC.skip ?_))
       exact ⟨rfl,rfl,vs,x,H2,Ho,by omega,hM2,hI2,(by rw [htx];exact htb),(hx0).symm⟩
      ·have ht:(topM x.E).2.2=false:=by simpa using ht
       rw [if_pos ⟨hl1,ht⟩] at hx0
       refine Rg (Mv (z:=Co (Ei (z:=Mv (z:=Gy (z:=Mq (z:=Gy (z:=Gt (z:=Co (Pt (z:=Nl (thn_n (Cf (z:=WC.seq (Rg (Mv (z:=Co (Ei (z:=Mv (z:=?_))))))))))))))))))))
       refine WO.guardY rfl rfl rfl (by assumption) (SV.move ?_) (by decide)
       all_goals refine Gy (z:=Lo (z:=Gy (z:=Gt (z:=Co (Pt (z:=Mv (z:=Gy (z:=Fa (z:=Gy (z:=Ld (z:=Gy (z:=Nf (z:=Co (Pt (z:=Nl ?_)))))))))))))))
       refine thn_n (Ct (z:=Rg ?_))
       refine WO.cons (SV.move ?_) (by decide)
       refine WO.cons (SV.move ?_) (by decide)
       refine Co (Lo (z:=Co (Sb (z:=Co ?_))))
       refine SV.sliceTo (by assumption) rfl hst rfl ⟨by omega,by omega⟩ (fun v9 hv9 hb9=>?_)
       refine WO.cons (SV.assign ?_) (by decide)
       refine Nl ?_
       have hI9:=hI2.pop rfl hE hv9 hb9
       exact ⟨rfl,rfl,v9,⟨x.E.dropLast,x.op,x.em,x.is⟩,H2,Ho,by omega,hM2,hI9,(by rw [htx];exact htb),(hx0).symm⟩
     ·have hdl1:decide ((1:Int)<(x.E.length:Int))=false:=decide_eq_false (by omega)
      rw [if_neg (fun y=>hl1 y.1)] at hx0
      refine Rg (Mv (z:=Co (Ei (z:=Mv (z:=Gy (z:=Mq (z:=Gy (z:=Gt (z:=Co (Pt (z:=Nl (thn_n (Cf (z:=WC.seq (Rg (Mv (z:=Co (Ei (z:=Mv (z:=?_))))))))))))))))))))
      refine WO.guardY rfl rfl rfl (by assumption) (SV.move ?_) (by decide)
      all_goals refine Gy (z:=Lo (z:=Gy (z:=Gt (z:=Co (Pt (z:=Mv (z:=Gn (z:=Gn (z:=Gn (z:=Co (Pf (z:=Nl ?_))))))))))))
      refine thn_n (Cf (z:=WC.skip ?_))
      exact ⟨rfl,rfl,vs,x,H2,Ho,by omega,hM2,hI2,(by rw [htx];exact htb),(hx0).symm⟩
    ·rw [if_pos (show 0<x.op by omega)] at hx0
     refine Rg (Mv (z:=Co (Ei (z:=Mv (z:=Gn (z:=Gn (z:=Co (Pf (z:=Nl (thn_n (Cf (z:=WC.seq (Rg (Mv (z:=Co (Ei (z:=Mv (z:=Gn (z:=Gn (z:=Gn (z:=Co (Pf (z:=Mv (z:=Gn (z:=Gn (z:=Gn (z:=Co (Pf (z:=Nl (thn_n (Cf (z:=WC.skip ?_))))))))))))))))))))))))))))))))
     exact ⟨rfl,rfl,vs,x,H2,Ho,by omega,hM2,hI2,(by rw [htx];exact htb),(hx0).symm⟩
   rw [if_neg h18] at hx0
   refine Rg (Co (Ei (z:=Av (z:=Nl (thn_n (Cf (z:=WC.seq ?_)))))))
   rcases dc (c=10) with ⟨h10,hd10⟩ | ⟨h10,hd10⟩
   ·rw [if_pos h10] at hx0
    refine Rg (Co (Ei (z:=Av (z:=Nl (thn_n (Ct (z:=WC.seq (Rg (Mv (z:=?_))))))))))
    refine WO.cons (SV.build rfl ?_) (by decide)
    refine Co (Bs (z:=fun a60_2 s60_2 hf60_2 hne60_2 hn60_2 hM60_2=>Av (z:=Nl (thn_n (Rg (Av (z:=Av (z:=Av (z:=Nl ?_)))))))))
    have hI6:=hI2.fresh (E':=[(b,(-1:Int),false)]) hne60_2 rfl
    have hM6:Models ro s60_2 (H2.up a60_2 (.row 3 ([((b,(-1:Int),false):Ent3)].flatMap enc3))):=hM60_2
    exact ⟨rfl,rfl,_,⟨[(b,-1,false)],0,0,0⟩,_,Ho,by omega,hM6,hI6,(by rw [htx];exact Hp.up_ne (hne60_2 _ _ htb) htb),(hx0).symm⟩
   ·rw [if_neg h10] at hx0
    refine Rg (Co (Ei (z:=Av (z:=Nl (thn_n (Cf (z:=WC.skip ?_)))))))
    exact ⟨rfl,rfl,vs,x,H2,Ho,by omega,hM2,hI2,(by rw [htx];exact htb),(hx0).symm⟩
  rintro e g3 ds3 s3 ⟨rfl,rfl,vs3,x3,H3,hg3,hn3,hM3,hI3,htb3,hx3⟩
  rw [←over_same hg3]
  rw [←hx3] at hres hXN
  refine thn_n ?_
  have eT:(pureD F (matchesM F) b).F=F:=rfl
  have hti:topX c x x3∈x.E∨topX c x x3∈x3.E:=by
   unfold topX
   split
   ·exact .inr (topM_in hXN.ne)
   ·exact .inl (topM_in hE)
  have htv:(topX c x x3).2.1 = -1∨0≤(topX c x x3).2.1:=by rcases hti with h | h;exact (hXO.lv _ h).2.2;exact (hXN.lv _ h).2.2
  have hexp:¬ isRemoved c→c≠10→expT (pureD F (matchesM F) b) i x=some (topX c x x3):=fun h1 h2=>by
   have:=expT_val (D:=pureD F (matchesM F) b) (i:=i) (x:=x) (by rw [eT,hc];exact h2) (by rw [eT,hc];exact h1)
   rw [eT,hc,←hx3] at this
   exact this
  generalize topX c x x3=tp at htb3 htv hexp
  have htb3':H3 tb=some (.row 0 [.int .i64 tp.1,.int .i64 tp.2.1,.bool tp.2.2]):=htb3
  unfold expL expN at hres
  rcases dc (c=10) with ⟨h10,hd10⟩ | ⟨h10,hd10⟩
  ·rw [expT_par (D:=pureD F (matchesM F) b) (by rw [eT,hc];exact h10)] at hres
   have hl3:=hI3.l
   refine WC.seq (Rg (Mv (z:=Co (Ei (z:=Nl (Ct (z:=Rg (Mv (z:=Mv (z:=Mv (z:=Co (Ix (z:=WO.cons0 (Sv (z:=fun s63_4 hn63_4 hM63_4=>Nl ?_)))))))))))))))
   obtain ⟨H4,hM4,hI4,_⟩:=hI3.setL hM63_4 hi0 (by omega)
   clear hM63_4
   refine Rg (Co (Ad (z:=Mv (z:=Nl ?_))))
   exact ⟨rfl,(i+1,vs3,x3,L.set i.toNat b,N),Ho,⟨by omega,⟨_,hM4,hI4⟩,by dsimp only;rw [List.length_set];exact hlL,hlN,by dsimp only;omega,by dsimp only;omega,hXN,hres⟩,by dsimp only;omega⟩
  refine WC.seq (Rg (Mv (z:=Co (Ei (z:=Nl (Cf (z:=WC.seq (Rg (Mv (z:=Co ?_))))))))))
  refine SV.callM rfl rfl (gone_sp hX hM3) ?_
  rintro v s4 H4 hn4 hM4 ⟨rfl,eH⟩
  rw [eH] at hM4
  clear eH
  rcases dc (isRemoved c) with ⟨hr,hdr⟩ | ⟨hr,hdr⟩
  ·rw [expT_gone (D:=pureD F (matchesM F) b) (by rw [eT,hc];exact hr)] at hres
   refine Co (Nn (z:=Nl (Cf (z:=WC.skip (Rg (Co (Ad (z:=Mv (z:=Nl ?_)))))))))
   exact ⟨rfl,(i+1,vs3,x3,L,N),Ho,⟨by omega,⟨_,hM4,hI3⟩,hlL,hlN,by dsimp only;omega,by dsimp only;omega,hXN,hres⟩,by dsimp only;omega⟩
  rw [hexp hr h10] at hres
  have hl3:=hI3.l
  refine Co (Nf (z:=Nl (Ct (z:=WC.seq (Rg (Mv (z:=Mv (z:=Co (Fa (z:=Co (Ld (z:=Co (Ix (z:=WO.cons0 (Sv (z:=fun s65_5 hn65_5 hM65_5=>Nl ?_))))))))))))))))
  obtain ⟨H5,hM5,hI5,k5⟩:=hI3.setL hM65_5 hi0 (by omega)
  clear hM65_5
  have htb5:=k5 _ _ htb3' tbl
  have hn5:=hI5.n
  rcases dc (0≤tp.2.1) with ⟨hov,hdv⟩ | ⟨hov,hdv⟩
  ·have hpn:plainN tp N i=N.set i.toNat tp.2.1:=if_pos (by omega)
   dsimp only at hres
   rw [hpn] at hres
   refine WC.seq (Rg (Co (Fa (z:=Co (Ld (z:=Co (Ge (z:=Nl (Ct (z:=Rg (Mv (z:=Mv (z:=Co (Fa (z:=Co (Ld (z:=Co (Ix (z:=WO.cons0 (Sv (z:=fun s67_5 hn67_5 hM67_5=>Nl ?_)))))))))))))))))))))
   obtain ⟨H6,hM6,hI6⟩:=hI5.setN hM67_5 hi0 (by omega)
   clear hM67_5
   refine Rg (Co (Ad (z:=Mv (z:=Nl ?_))))
   exact ⟨rfl,(i+1,vs3,x3,L.set i.toNat tp.1,N.set i.toNat tp.2.1),Ho,⟨by omega,⟨_,hM6,hI6⟩,by dsimp only;rw [List.length_set];exact hlL,by dsimp only;rw [List.length_set];exact hlN,by dsimp only;omega,by dsimp only;omega,hXN,hres⟩,by dsimp only;omega⟩
  ·have hpn:plainN tp N i=N:=if_neg (by omega)
   dsimp only at hres
   rw [hpn] at hres
   refine WC.seq (Rg (Co (Fa (z:=Co (Ld (z:=Co (Ge (z:=Nl (Cf (z:=WC.skip (Rg (Co (Ad (z:=Mv (z:=Nl ?_)))))))))))))))
   exact ⟨rfl,(i+1,vs3,x3,L.set i.toNat tp.1,N),Ho,⟨by omega,⟨_,hM5,hI5⟩,by dsimp only;rw [List.length_set];exact hlL,hlN,by dsimp only;omega,by dsimp only;omega,hXN,hres⟩,by dsimp only;omega⟩
 rw [show n-i.toNat=0 by omega] at hres
 simp only [expM] at hres
 subst hres
 refine WC.seq (Rg (Co (Lt (z:=Nl (WC.seq (Cf (z:=WC.exit (WC.seq (Rg (Mv (z:=Mv (z:=Av (z:=Av (z:=Nl (WC.ret ?_)))))))))))))))
 exact fin_two (e:=.ret) (v:=.slice _ _ _) (w:=.slice _ _ _) rfl trivial rfl rfl (by omega) hM1 ⟨an,al,rfl,fun ν o e=>⟨(hI1.kp _ _ e).1,(hI1.kp _ _ e).2.1,(hI1.kp _ _ e).2.2.1⟩,hI1.nl,hI1.n,hI1.l⟩
end Go.Proofs.Ythkklpegjcnjoaa
