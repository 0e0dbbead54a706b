/- What ucd.Look comes to at every code: its contract, by the library's sort.Search over the table's rows. No condition. -/
import Derived.Test.YthkklpegjcnjoaaLook
namespace Go.Proofs.Ythkklpegjcnjoaa
open Go.RowKit Go.Lib Go.Sort
set_option linter.unusedVariables false
set_option linter.unusedSimpArgs false
noncomputable def to_ (i:Nat):Int:=tbl.getD (i*5+1) 0
noncomputable def lookIdx (code:Int):Nat:=(List.range 121).countP (fun i=> !decide (code≤to_ i))
theorem rises_run:(List.range 120).all (fun i=>decide (to_ i≤to_ (i+1)))=true:=by kernel_rfl
theorem to_mono:∀ (a d:Nat),a+d<121→to_ a≤to_ (a+d)
 | a,0,_=>Int.le_refl _
 | a,d+1,h=>by
  have h1:=to_mono a d (by omega)
  have h2:=List.all_eq_true.1 rises_run (a+d) (List.mem_range.2 (by omega))
  have h3:=of_decide_eq_true h2
  have:a+(d+1)=a+d+1:=by omega
  rw [this]
  omega
theorem search_calls (bl bx g:Nat) (code:Int) (W:World) (h1:bl<W.heap.size) (h2:bx<W.heap.size) (h3:g<W.heap.size)
 (ha:W.cell? ⟨bl,0,none⟩=some (.slice (some ⟨g,0,none⟩) 121 121)) (hx:W.cell? ⟨bx,0,none⟩=some (.int .i64 code)) (hc:∀ j,j<605→W.cell? ⟨g,j,none⟩=some (.int .i64 (tbl.getD j 0))) :
 Calls Try.prog 76 #[.int .i64 121,.func (.func 77) #[] #[.pointer (some ⟨bl,0,none⟩),.pointer (some ⟨bx,0,none⟩)]] W fun e w'=>e = .returned (.int .i64 (lookIdx code:Nat))∧∃ q os,w'=grow (W.drewN q) os:=by
 have eg:∀ args w,(callFunc 77 args).run Try.prog w = .ok (.enter 77 args) w:=enters_of Try.func77 (by kernel_rfl) rfl
 have hS:=Any.sort_Search Try.search 77 #[.pointer (some ⟨bl,0,none⟩),.pointer (some ⟨bx,0,none⟩)] 121 (fun i=>decide (code≤to_ i)) W eg (by omega)
  (fun m os i hi=>(closure77 bl bx g code (to_ i) i _ hi (cell_grown h1 ha m os) (cell_grown h2 hx m os) (cell_grown h3 (hc (i*5+1) (by omega)) m os)).mono
   fun _ _ ⟨he,q,hq⟩=>⟨he,q,#[],by rw [hq,grow_empty]⟩) (fun a b hab hb h=>by
    have:=to_mono a (b-a) (by omega)
    rw [show a+(b-a)=b by omega] at this
    simp at h ⊢;omega)
 change Calls Try.prog 76 _ _ _ at hS
 exact hS
structure Ready (w W:World) (bl g:Nat) (code:Int):Prop where
 tl:W.cell? ⟨bl,0,none⟩=some (.slice (some ⟨g,0,none⟩) 121 121)
 cd:W.cell? ⟨w.heap.size,0,none⟩=some (.int .i64 code)
 tb:∀ j,j<605→W.cell? ⟨g,j,none⟩=some (.int .i64 (tbl.getD j 0))
 rs:W.heap[w.heap.size+1]?=some (.cells #[.int .i64 0,.int .i64 0,.int .i64 0] 59)
 bel:Below w.heap.size w W
 l1:bl<W.heap.size
 l2:g<W.heap.size
 l3:w.heap.size+1<W.heap.size
theorem Ready.step {w W W':World} {bl g:Nat} {code:Int} (h:Ready w W bl g code) (hb:Below W.heap.size W W'):Ready w W' bl g code where
 tl:=(hb.cell h.l1).trans h.tl
 cd:=(hb.cell (by have:=h.l3;show w.heap.size<_;omega)).trans h.cd
 tb:=fun j hj=>(hb.cell h.l2).trans (h.tb j hj)
 rs:=(hb.block _ h.l3).trans h.rs
 bel:=h.bel.trans (hb.mono (by have:=h.bel.size;omega))
 l1:=Nat.lt_of_lt_of_le h.l1 hb.size
 l2:=Nat.lt_of_lt_of_le h.l2 hb.size
 l3:=Nat.lt_of_lt_of_le h.l3 hb.size
theorem ready (w W1:World) (g:Nat) (code:Int)
 (hg2:g<W1.heap.size) (hcells:∀ j,j<605→W1.cell? ⟨g,j,none⟩=some (.int .i64 (tbl.getD j 0)))
 (hB1:Below ((w.alloc (Obj.cells #[Value.int IntKind.i64 code] 3)).alloc (Obj.cells #[Value.int IntKind.i64 0,Value.int IntKind.i64 0,Value.int IntKind.i64 0] 59)).heap.size ((w.alloc (Obj.cells #[Value.int IntKind.i64 code] 3)).alloc (Obj.cells #[Value.int IntKind.i64 0,Value.int IntKind.i64 0,Value.int IntKind.i64 0] 59)) W1) :
 Ready w (W1.alloc (Obj.cells #[Value.slice (some ⟨g,0,none⟩) 121 121] 84)) W1.heap.size g code:=by
 have hs1:w.heap.size+1+1≤W1.heap.size:=by have:=hB1.size;simpa using this
 have hb:∀ k,k<w.heap.size+1+1→W1.heap[k]?=((w.alloc (Obj.cells #[Value.int IntKind.i64 code] 3)).alloc (Obj.cells #[Value.int IntKind.i64 0,Value.int IntKind.i64 0,Value.int IntKind.i64 0] 59)).heap[k]?:=fun k hk=>hB1.block k (by simpa using hk)
 have hold:∀ k,k<W1.heap.size→(W1.alloc (Obj.cells #[Value.slice (some ⟨g,0,none⟩) 121 121] 84)).heap[k]?=W1.heap[k]?:=fun k hk=>Below.heap_alloc W1 _ k hk
 have c1:W1.heap[w.heap.size]?=some (.cells #[.int .i64 code] 3):=by
  rw [hb _ (by omega),Below.heap_alloc _ _ _ (by simp)]
  exact heap_alloc_new w _
 have c2:W1.heap[w.heap.size+1]?=some (.cells #[.int .i64 0,.int .i64 0,.int .i64 0] 59):=by
  rw [hb _ (by omega)]
  have:=heap_alloc_new (w.alloc (Obj.cells #[Value.int IntKind.i64 code] 3)) (Obj.cells #[Value.int IntKind.i64 0,Value.int IntKind.i64 0,Value.int IntKind.i64 0] 59)
  rwa [World.size_alloc] at this
 refine ⟨?_,?_,fun j hj=>?_,?_,?_,by simp,by simp;omega,by simp;omega⟩
 ·exact cell_new_sl W1 _ _
 ·rw [World.cell?_of_block (w:=W1) (hold _ (by show w.heap.size<_;omega))]
  simp [World.cell?,c1]
 ·rw [World.cell?_of_block (w:=W1) (hold _ hg2)]
  exact hcells j hj
 ·rw [hold _ (by omega)]
  exact c2
 ·have h0:Below w.heap.size w ((w.alloc (Obj.cells #[Value.int IntKind.i64 code] 3)).alloc (Obj.cells #[Value.int IntKind.i64 0,Value.int IntKind.i64 0,Value.int IntKind.i64 0] 59)):=((Below.refl _ w).alloc (Nat.le_refl _) _).alloc (by simp) _
  exact (h0.trans (hB1.mono (by simp;omega))).alloc (by omega) _
theorem look_part (w W:World) (bl g:Nat) (code:Int) (h:Ready w W bl g code) :
 Calls Try.prog 76 #[.int .i64 121,.func (.func 77) #[] #[.pointer (some ⟨bl,0,none⟩),.pointer (some ⟨w.heap.size,0,none⟩)]] W fun e w'=>e = .returned (.int .i64 (lookIdx code:Nat))∧Ready w w' bl g code:=by
 refine (search_calls bl w.heap.size g code W h.l1 (by have:=h.l3;omega) h.l2 h.tl h.cd h.tb).mono ?_
 rintro e w' ⟨rfl,q,os,rfl⟩
 exact ⟨rfl,h.step (below_grown_sl W.heap.size W q os (Nat.le_refl _))⟩
theorem set3 (W3:World) (b:Nat) (x y z x0 y0 z0:Value) (h:W3.heap[b]?=some (.cells #[x0,y0,z0] 59)) :
 (((W3.setCell ⟨b,0,none⟩ x).setCell ⟨b,1,none⟩ y).setCell ⟨b,2,none⟩ z).drew.heap[b]?=some (.cells #[x,y,z] 59):=by
 have e:∀ (W:World) (k:Nat) (u:Value) (cs:Array Value),W.heap[b]?=some (.cells cs 59)→(W.setCell ⟨b,k,none⟩ u).heap[b]?=some (.cells (cs.setIfInBounds k u) 59):=by
  intro W k u cs hc
  simp [World.setCell,hc,Array.getElem?_modify]
 have h1:=e _ 0 x _ h
 have h2:=e _ 1 y _ h1
 have h3:=e _ 2 z _ h2
 exact h3
def charAt (T:List Int) (n:Nat) (code:Int):Int×Int×Int:=
 if n<121∧T.getD (n*5) 0≤code then (T.getD (n*5+2) 0,T.getD (n*5+3) 0,T.getD (n*5+4) 0) else (0,0,0)
noncomputable def lookF (code:Int):Int×Int×Int:=charAt tbl (lookIdx code) code
set_option maxRecDepth 100000 in
set_option maxHeartbeats 4000000 in
theorem look_calls (code:Int) (w:World):Calls Try.prog 47 #[.int .i64 code] w fun e w'=>e = .returned (.agg #[.int .i64 (lookF code).1,.int .i64 (lookF code).2.1,.int .i64 (lookF code).2.2])∧Below w.heap.size w w':=by
 obtain ⟨r,hr⟩:∃ r,r=lookF code:=⟨_,rfl⟩
 rw [←hr]
 have HR:Aside _:=hr
 clear hr
 go_enter Try.func47,Try.ntmps47
 go_wp2_with (first
  |(go_at_call 75;refine (rows_calls _).mono ?_;rintro e W1 ⟨g,hg1,hg2,rfl,hcells,hB1⟩;have R1:Aside _:=ready w W1 g code hg2 hcells hB1;clear hg1 hg2 hcells hB1)
  |(go_at_call 76;refine (look_part w _ W1.heap.size g code R1.out).mono ?_;rintro e W3 ⟨rfl,hR3⟩;generalize W1.heap.size=bl at hR3 ⊢;clear R1;obtain ⟨h1,h2,h3,h4,h5,h6,h7,h8⟩:=hR3))
 have r0:W3.cell? ⟨w.heap.size+1,0,none⟩=some (.int .i64 0):=by simp [World.cell?,h4]
 have r1:W3.cell? ⟨w.heap.size+1,1,none⟩=some (.int .i64 0):=by simp [World.cell?,h4]
 have r2:W3.cell? ⟨w.heap.size+1,2,none⟩=some (.int .i64 0):=by simp [World.cell?,h4]
 have f0:∀ j,W3.frozen? ⟨w.heap.size+1,j,none⟩=false:=fun j=>by simp [World.frozen?,h4]
 have hbel:∀ x y z:Int,Below w.heap.size w (((W3.setCell ⟨w.heap.size+1,0,none⟩ (.int .i64 x)).setCell ⟨w.heap.size+1,1,none⟩ (.int .i64 y)).setCell ⟨w.heap.size+1,2,none⟩ (.int .i64 z)).drew:=fun x y z=>
  (((h5.setCell (Nat.le_succ _) _).setCell (Nat.le_succ _) _).setCell (Nat.le_succ _) _).drew
 have HB:Aside _:=hbel
 clear hbel
 have hset:∀ x y z:Int,(((W3.setCell ⟨w.heap.size+1,0,none⟩ (.int .i64 x)).setCell ⟨w.heap.size+1,1,none⟩ (.int .i64 y)).setCell ⟨w.heap.size+1,2,none⟩ (.int .i64 z)).drew.heap[w.heap.size+1]?=some (.cells #[.int .i64 x,.int .i64 y,.int .i64 z] 59):=fun x y z=>set3 W3 _ _ _ _ _ _ _ h4
 have HS:Aside _:=hset
 clear hset
 have h59:(Try.prog.info? 59).map (·.size)=some 3:=by kernel_rfl
 have HR2:=HR.out
 unfold lookF at HR2
 clear HR
 generalize lookIdx code=n at HR2 ⊢
 generalize tbl=T at h3 HR2 ⊢
 by_cases hn:n<121
 ·have c0:=h3 (n*5) (by omega)
  have c2:=h3 (n*5+2) (by omega)
  have c3:=h3 (n*5+3) (by omega)
  have c4:=h3 (n*5+4) (by omega)
  have hnz:(n:Int)<(121:Int):=by omega
  clear h3 h4
  unfold charAt at HR2
  generalize T.getD (n*5) 0=y0 at c0 HR2 ⊢
  generalize T.getD (n*5+2) 0=y2 at c2 HR2 ⊢
  generalize T.getD (n*5+3) 0=y3 at c3 HR2 ⊢
  generalize T.getD (n*5+4) 0=y4 at c4 HR2 ⊢
  have HR:Aside _:=HR2
  clear HR2
  go_region
  all_goals go_wp2
  ·have hle:y0≤code:=by assumption
   have e:=HR.out
   rw [if_pos ⟨hn,hle⟩] at e
   subst e
   refine bodyPost_ret (v:=.agg #[.int .i64 _,.int .i64 _,.int .i64 _]) ?_ rfl ⟨rfl,HB.out _ _ _⟩
   exact results_cell_row rfl _ _ (w.heap.size+1) 59 _ (0,0) _ rfl (HS.out _ _ _) Try.underlying59 rfl h59
  ·have hle:code<y0:=by assumption
   have e:=HR.out
   rw [if_neg (by omega)] at e
   subst e
   refine bodyPost_ret (v:=.agg #[.int .i64 _,.int .i64 _,.int .i64 _]) ?_ rfl ⟨rfl,HB.out _ _ _⟩
   exact results_cell_row rfl _ _ (w.heap.size+1) 59 _ (0,0) _ rfl (HS.out _ _ _) Try.underlying59 rfl h59
 ·have hnz:¬ (n:Int)<(121:Int):=by omega
  clear h3 h4
  unfold charAt at HR2
  rw [if_neg (by omega)] at HR2
  subst HR2
  go_region
  all_goals go_wp2
  all_goals refine bodyPost_ret (v:=.agg #[.int .i64 _,.int .i64 _,.int .i64 _]) ?_ rfl ⟨rfl,HB.out _ _ _⟩
  all_goals exact results_cell_row rfl _ _ (w.heap.size+1) 59 _ (0,0) _ rfl (HS.out _ _ _) Try.underlying59 rfl h59
end Go.Proofs.Ythkklpegjcnjoaa
