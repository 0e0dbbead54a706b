/- A part of the proof: no condition but those that each theorem states. -/
import Derived.Test.YthkklpegjcnjoaaTJ
import Derived.Test.YthkklpegjcnjoaaLook2
import Derived.Test.YthkklpegjcnjoaaTables
import Derived.Test.YthkklpegjcnjoaaRunsAlive
import Derived.Test.YthkklpegjcnjoaaBidiAlive
import Derived.Test.YthkklpegjcnjoaaShelfC
set_option linter.unusedVariables false
set_option linter.unusedSimpArgs false
namespace Go.Proofs.Ythkklpegjcnjoaa
open Go.Ab Go.RowKit Go.Sort
set_option maxRecDepth 100000
noncomputable section
theorem ltIx (x y:Ix):ltOf cmpIx x y=decide (x.val<y.val):=by
 unfold ltOf cmpIx
 by_cases h:x.val<y.val
 ·rw [decide_eq_true h];exact decide_eq_true (by omega)
 ·rw [decide_eq_false h];exact decide_eq_false (by omega)
theorem swoIx:SWO (ltOf cmpIx) where
 irrefl x:=by rw [ltIx];simp
 trans x y z h1 h2:=by rw [ltIx] at *;simp only [decide_eq_true_eq] at *;omega
 ntrans x y z h1 h2:=by rw [ltIx] at *;simp only [decide_eq_false_iff_not] at *;omega
theorem sort_calls (w:World) (blk off cap:Nat) {L:List (Int×Int)} (hd:(L.map Prod.fst).Nodup) (hr:∀ x∈L.map Prod.fst,0≤x∧x<100000) (hl:L.length≤100000) (hblk:blk<w.heap.size)
 (hc:∀ j v,(L.flatMap enc2)[j]?=some v→w.cell? ⟨blk,off+j,none⟩=some v∧w.frozen? ⟨blk,off+j,none⟩=false) :
 Calls Try.prog 87 #[.slice (some ⟨blk,off,none⟩) L.length cap,.func (.func 88) #[] #[]] w fun e w'=>e = .returned (.tuple #[])∧∃ m os,w'=grow (putRow id (Sort.ahead w m) blk off ((sortM L).flatMap enc2).toArray) os:=by
 have eg:∀ args w,(callFunc 88 args).run Try.prog w = .ok (.enter 88 args) w:=enters_of Try.func88 (by kernel_rfl) rfl
 have hcmp:CmpLays Try.prog 88 #[] (encIx L) 2 cmpIx blk off (L.map toIx).toArray.size w:=fun _ _ _ _ x y=>closure88 _ _ _ _ _ (by have:=x.isLt;omega) (by have:=y.isLt;omega)
 have hH:HoldsK (encIx L) 2 w blk off (L.map toIx).toArray:=by
  unfold HoldsK
  rw [flat_eq hd hr (fun e h=>h)]
  intro j hj
  have hj':j<(L.flatMap enc2).length:=by simpa using hj
  rw [getElem!_pos _ j hj]
  exact hc j _ (by rw [List.getElem?_eq_getElem hj'];simp)
 have hT:∀ x y,(ltOf cmpIx) x y=false→(ltOf cmpIx) y x=false→x=y:=fun x y h1 h2=>by
  rw [ltIx] at h1 h2
  have h1:=of_decide_eq_false h1
  have h2:=of_decide_eq_false h2
  exact Fin.ext (by omega)
 have h:=AnyQ.slices_SortFunc_total Try.sortPairs 2 Try.isAgg39 Try.sizeOf39 (encIx L) (fun _=>rfl) (fun x v hv=>by
  simp only [encIx,List.mem_cons,List.not_mem_nil,or_false] at hv
  rcases hv with rfl | rfl <;> rfl) cmpIx swoIx 88 #[] blk off cap (L.map toIx).toArray w eg hcmp hH hblk (by simp;omega) hT
 have hs:(L.map toIx).toArray.size=L.length:=by simp
 rw [hs] at h
 refine h.mono ?_
 rintro e w' ⟨rfl,n,os,rfl⟩
 refine ⟨rfl,n,os,?_⟩
 unfold sortWorldK putRowK
 have e1:((L.map toIx).toArray.toList.mergeSort fun x y=> !(ltOf cmpIx) y x)=(sortM L).map toIx:=sort_map hr
 rw [e1,flat_eq hd hr fun e h=>(sortM_perm L).mem_iff.mp h]
def F88:Value:=.func (.func 88) #[] #[]
structure SortArg (ro:Nat) (s:St) (args:List Value) (s':St) (ν n c:Nat) (L:List (Int×Int)):Prop where
 eq:args=[.slice (some ⟨ν,0,none⟩) n c,F88]
 cells:ldCells s ν 0 (n*2)=some (L.flatMap enc2)
 len:L.length=n
 big:n≤100000
 nd:(L.map Prod.fst).Nodup
 rng:∀ x∈L.map Prod.fst,0≤x∧x<100000
 own:ro≤ν
 st:stCells ro s ν 0 ((sortM L).flatMap enc2)=some s'
def SortRes (ro:Nat) (s:St) (args:List Value) (s':St):Prop:=∃ ν n c L,SortArg ro s args s' ν n c L
theorem SortRes.one {ro:Nat} {s s1 s2:St} {args:List Value} (h:SortRes ro s args s1) (k:SortRes ro s args s2):s1=s2:=by
 obtain ⟨ν,n,c,L,h⟩:=h
 obtain ⟨ν',n',c',L',k⟩:=k
 have e:=h.eq.symm.trans k.eq
 simp only [List.cons.injEq,Value.slice.injEq,Option.some.injEq,Addr.mk.injEq,and_true] at e
 obtain ⟨rfl,rfl,rfl⟩:=e
 have e2:=h.cells.symm.trans k.cells
 obtain rfl:=enc2_inj (Option.some.inj e2)
 exact Option.some.inj (h.st.symm.trans k.st)
open Classical in
def Xc (ro:Nat):CallE:=fun f args s=>
 if f=47 then (match args with
  | [.int .i64 c]=>some (.ok (.agg #[.int .i64 (lookF c).1,.int .i64 (lookF c).2.1,.int .i64 (lookF c).2.2]) s)
  | _=>none)
 else if f=23 then (match args with
  | []=>some (.ok (.bool true) s)
  | _=>none)
 else if f=13 then (match args with
  | []=>some (.ok (.bool true) s)
  | _=>none)
 else if f=44 then (match args with
  | [.int .i64 c]=>some (.ok (.agg #[.int .i64 (lookF c).1,.int .i64 (lookF c).2.1,.int .i64 (lookF c).2.2]) s)
  | _=>none)
 else if f=87 then (if args=[.slice none 0 0,F88] then some (.ok (.tuple #[]) s) else if h:∃ s',SortRes ro s args s' then some (.ok (.tuple #[]) h.choose) else none)
 else none
def Yc:Exts:=⟨fun c=>(lookF c).1,fun c=>(lookF c).2.1,fun c=>(lookF c).2.2,fun c=>(otherM c brL 0 0).1,fun c=>(otherM c brL 0 0).2,sortM⟩
theorem Sp.ofX {X:CallE} {ro:Nat} {f:FuncId} {args:List Value} {s s':St} {v:Value} {H':Hp} {Post:Value→Hp→Prop} (h:X f args s=some (.ok v s')) (hn:s.next≤s'.next) (hM:Models ro s' H') (hP:Post v H'):Sp X Try.prog ro f args s Post:=
 ⟨v,s',⟨0,fun k _=>by
  cases k with
  | zero=>exact h
  | succ k=>simp only [evX,h]⟩,hn,H',hM,hP⟩
theorem xc_ok (ro:Nat):ExtOk (Xc ro) ro Yc where
 own:=fun f args s h1 h2 h3 h4=>by unfold Xc;rw [if_neg h1,if_neg (fun e=>h4 (.inl e)),if_neg (fun e=>h4 (.inr (.inl e))),if_neg (fun e=>h4 (.inr (.inr e))),if_neg h3]
 look:=fun s H c hM=>Sp.ofX (X:=Xc ro) (s':=s) (by unfold Xc;rw [if_pos rfl];rfl) (Nat.le_refl _) hM ⟨rfl,rfl⟩
 brk:=fun s H c hM=>bracket_sp (fun f args s h=>by rcases h with rfl | rfl <;> rfl) hM
 sort0:=fun s H hM=>Sp.ofX (X:=Xc ro) (s':=s) (by unfold Xc;rw [if_neg (by decide),if_neg (by decide),if_neg (by decide),if_neg (by decide),if_pos rfl];exact if_pos rfl) (Nat.le_refl _) hM ⟨rfl,rfl⟩
 sort:=fun s H ν n c L ws hM hν hw hnc hL hn htk hnd hrg=>by
  have hfl:(L.flatMap enc2).length=n*2:=by rw [enc2_length,hL]
  have hfs:((sortM L).flatMap enc2).length=n*2:=by rw [enc2_length,sortM_len,hL]
  obtain ⟨s',hst,hM'⟩:=stCells_row hM hν (o:=0) (l:=(sortM L).flatMap enc2) (by rw [hfs];omega) (enc2_one _)
  have hres:SortRes ro s [.slice (some ⟨ν,0,none⟩) n c,F88] s':=⟨ν,n,c,L,{
   eq:=rfl
   cells:=ldCells_row hM hν hfl fun i v e=>by
    have hi:i<n*2:=by rw [←hfl];exact (List.getElem?_eq_some_iff.mp e).1
    rw [←htk,List.getElem?_take,if_pos hi] at e
    rw [Nat.zero_add];exact e
   len:=hL
   big:=hn
   nd:=hnd
   rng:=hrg
   own:=(hM.ok ν _ hν).2.1
   st:=hst }⟩
  have hex:∃ s',SortRes ro s [.slice (some ⟨ν,0,none⟩) n c,F88] s':=⟨s',hres⟩
  have hch:hex.choose=s':=hex.choose_spec.one hres
  refine Sp.ofX (X:=Xc ro) (v:=.tuple #[]) (s':=s') ?_ (by rw [stCells_next hst];exact Nat.le_refl _) hM' ⟨rfl,?_⟩
  ·unfold Xc
   rw [if_neg (by decide),if_neg (by decide),if_neg (by decide),if_neg (by decide),if_pos rfl,if_neg (by intro h;cases h)]
   refine (dif_pos hex).trans ?_
   exact congrArg (fun z=>some (Ret.ok (.tuple #[]) z)) hch
  ·unfold splice
   rw [List.take_zero,List.nil_append,hfs,Nat.zero_add]
   rfl
 perm:=sortM_perm
 alive:=fun s H hM=>Sp.ofX (X:=Xc ro) (s':=s) (by unfold Xc;rw [if_neg (by decide),if_pos rfl]) (Nat.le_refl _) hM ⟨rfl,rfl⟩
 look44:=fun s H c hM=>Sp.ofX (X:=Xc ro) (s':=s) (by unfold Xc;rw [if_neg (by decide),if_neg (by decide),if_neg (by decide),if_pos rfl];rfl) (Nat.le_refl _) hM ⟨rfl,rfl⟩
 alive13:=fun s H hM=>Sp.ofX (X:=Xc ro) (s':=s) (by unfold Xc;rw [if_neg (by decide),if_neg (by decide),if_pos rfl]) (Nat.le_refl _) hM ⟨rfl,rfl⟩
theorem vr_int {ρ:Ren} {k:IntKind} {n:Int} {v:Value} (h:VR ρ (.int k n) v):v = .int k n:=by cases h;rfl
theorem xc_calls (B ro:Nat):CallS Try.prog B ro (Xc ro):=fun f args s r h ρ w args' hr hro hwf ha hf=>by
 obtain ⟨args'⟩:=args'
 simp only at ha
 unfold Xc at h
 split at h
 ·rename_i hf47
  subst hf47
  split at h
  ·rename_i c
   cases h
   refine ⟨⟨_,Try.func47,by decide,rfl⟩,?_⟩
   cases ha with
   | cons h1 h2=>
    cases h2
    rw [vr_int h1]
    exact (look_calls c w).mono fun e w' ⟨he,hb⟩=>⟨ρ,Step.ofBelow hr hb,by rw [he];exact VR.agg_of (.cons (.int _ _) (.cons (.int _ _) (.cons (.int _ _) .nil)))⟩
  ·cases h
 split at h
 ·rename_i hf23
  subst hf23
  split at h
  ·cases h
   refine ⟨⟨_,Try.func23,by decide,rfl⟩,?_⟩
   cases ha
   exact (runsAlive_calls w).mono fun e w' ⟨he,hb⟩=>⟨ρ,Step.ofBelow hr hb,by rw [he];exact .bool _⟩
  ·cases h
 split at h
 ·rename_i hf13
  subst hf13
  split at h
  ·cases h
   refine ⟨⟨_,Try.func13,by decide,rfl⟩,?_⟩
   cases ha
   exact (bidiAlive_calls w).mono fun e w' ⟨he,hb⟩=>⟨ρ,Step.ofBelow hr hb,by rw [he];exact .bool _⟩
  ·cases h
 split at h
 ·rename_i hf44
  subst hf44
  split at h
  ·rename_i c
   cases h
   refine ⟨⟨_,Try.func44,by decide,rfl⟩,?_⟩
   cases ha with
   | cons h1 h2=>
    cases h2
    rw [vr_int h1]
    exact (refLook_calls c w).mono fun e w' ⟨he,hb⟩=>⟨ρ,Step.ofBelow hr hb,by rw [he,look_same];exact VR.agg_of (.cons (.int _ _) (.cons (.int _ _) (.cons (.int _ _) .nil)))⟩
  ·cases h
 split at h
 ·rename_i hf87
  subst hf87
  refine ⟨⟨_,Try.func87,by decide,rfl⟩,?_⟩
  have f88:∀ v,VR ρ F88 v→v=F88:=fun v hv=>by
   obtain ⟨f',c',rfl,h1,h2⟩:=VR.func_inv hv
   obtain ⟨f'⟩:=f'
   obtain ⟨c'⟩:=c'
   cases h1;cases h2
   rfl
  split at h
  ·rename_i hargs
   subst hargs
   cases h
   cases ha with
   | cons h1 h2=>
    cases h2 with
    | cons h2 h3=>
     cases h3
     rw [f88 _ h2]
     cases h1
     exact (AnyF.slices_SortFunc_none Try.sortPairs none 0 F88 w).mono fun e w' ⟨he,hb⟩=>⟨ρ,by rw [hb];exact Step.refl hr,by rw [he];exact VR.tuple_of .nil⟩
  split at h
  ·rename_i hex
   have hch:=hex.choose_spec
   generalize hex.choose=s' at h hch
   cases h
   obtain ⟨ν,n,c,L,hS⟩:=hch
   obtain rfl:=hS.eq
   cases ha with
   | cons h1 h2=>
    cases h2 with
    | cons h2 h3=>
     cases h3
     rw [f88 _ h2]
     obtain ⟨_,i,o',cap',hi,rfl,hsl⟩:=h1.slc_inv
     have hst:=hS.st
     by_cases hn0:n=0
     ·subst hn0
      obtain rfl:L=[]:=List.length_eq_zero_iff.mp hS.len
      have e:(sortM []).flatMap enc2=[]:=by
       have:=(sortM_perm []).eq_nil
       rw [this];rfl
      rw [e] at hst
      cases hst
      exact (AnyF.slices_SortFunc_none Try.sortPairs _ _ F88 w).mono fun e w' ⟨he,hb⟩=>⟨ρ,by rw [hb];exact Step.refl hr,by rw [he];exact VR.tuple_of .nil⟩
     ·have ho:o'=i.r:=by
       rcases hsl with h | h | h
       ·rw [h.1];rfl
       ·rw [h.2.1];rfl
       ·exact absurd h.2.1 hn0
      subst ho
      obtain ⟨l',hl1,hl2,hl3⟩:=ldCells_sim hr hi hS.cells
      have hself:l'=L.flatMap enc2:=by
       refine (List.ext_getElem? fun j=>?_)
       cases hj:(L.flatMap enc2)[j]? with
       | none=>
        rw [List.getElem?_eq_none_iff] at hj ⊢
        rw [←hl2.length];exact hj
       | some v=>
        obtain ⟨v',e1,e2⟩:=hl2.get hj
        rw [e1]
        rw [enc2_get] at hj
        cases hq:L[j / 2]? with
        | none=>rw [hq] at hj;cases hj
        | some q=>
         rw [hq,Option.map_some] at hj
         cases hj
         by_cases hm:j%2=0
         ·rw [if_pos hm] at e2 ⊢;rw [vr_int e2]
         ·rw [if_neg hm] at e2 ⊢;rw [vr_int e2]
      subst hself
      have hblk:i.b<w.heap.size:=hr.inb ν i hi
      have hcl:=sort_calls w i.b i.r cap' hS.nd hS.rng (by rw [hS.len];exact hS.big) hblk fun j v e=>by
       have hc:=hl3 j v e
       rw [Nat.add_zero] at hc
       exact ⟨hc,own_thawed hr hi hS.own hS.cells (by omega) hc⟩
      rw [hS.len] at hcl
      refine hcl.mono ?_
      rintro e w' ⟨rfl,m,os,rfl⟩
      exact ⟨ρ,Step.sorted hr hi hst (fun v hv ρ=>by
       obtain ⟨q,_,hq⟩:=List.mem_flatMap.mp hv
       simp only [enc2,List.mem_cons,List.not_mem_nil,or_false] at hq
       rcases hq with rfl | rfl <;> exact .int _ _) m os,VR.tuple_of .nil⟩
  ·cases h
 ·cases h
end
end Go.Proofs.Ythkklpegjcnjoaa
