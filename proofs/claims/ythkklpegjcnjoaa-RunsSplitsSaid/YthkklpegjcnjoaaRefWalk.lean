/- The walk of serifref12.Look, over whatever its number comes to at the table's places. No condition but those facts. -/
import Derived.Test.YthkklpegjcnjoaaLook2
import Derived.Deep.LoopGhost
import Derived.RegionTactic
import Derived.WalkKit
namespace Go.Proofs.Ythkklpegjcnjoaa
open Go.RowKit
set_option linter.unusedVariables false
set_option linter.unusedSimpArgs false
def rowFrom (V:Nat→Int) (code:Int):Nat→Nat→Int×Int×Int
 | 0,_=>(0,0,0)
 | d+1,k=>if V (k*5)≤code∧code≤V (k*5+1) then (V (k*5+2),V (k*5+3),V (k*5+4)) else rowFrom V code d (k+1)
structure St5 (w W:World) (b:Nat) (a:Array Value):Prop where
 arr:W.heap[b]?=some (.cells a 81)
 rs:W.heap[w.heap.size]?=some (.cells #[.int .i64 0,.int .i64 0,.int .i64 0] 59)
 bel:Below w.heap.size w W
 hb:w.heap.size<b
theorem St5.lt {w W:World} {b:Nat} {a:Array Value} (h:St5 w W b a):b<W.heap.size:=(Array.getElem?_eq_some_iff.1 h.arr).1
theorem St5.step {w W W':World} {b:Nat} {a:Array Value} (h:St5 w W b a) (hB:Below W.heap.size W W'):St5 w W' b a where
 arr:=(hB.block _ h.lt).trans h.arr
 rs:=(hB.block _ (by have:=h.lt;have:=h.hb;omega)).trans h.rs
 bel:=h.bel.trans (hB.mono h.bel.size)
 hb:=h.hb
theorem St5.set {w W:World} {b:Nat} {a:Array Value} (h:St5 w W b a) (i:Nat) (u:Value):St5 w (W.setCell ⟨b,i,none⟩ u) b (a.setIfInBounds i u) where
 arr:=by simp [World.setCell,h.arr,Array.getElem?_modify]
 rs:=by rw [Below.heap_setCell W ⟨b,i,none⟩ u _ (by have:=h.hb;show w.heap.size≠b;omega)];exact h.rs
 bel:=h.bel.setCell (by have:=h.hb;show w.heap.size≤b;omega) u
 hb:=h.hb
theorem St5.cell {w W:World} {b:Nat} {a:Array Value} (h:St5 w W b a) {i:Nat} {v:Value} (hv:a[i]?=some v):W.cell? ⟨b,i,none⟩=some v:=by
 simp [World.cell?,h.arr,hv]
theorem St5.fz {w W:World} {b:Nat} {a:Array Value} (h:St5 w W b a) (i:Nat):W.frozen? ⟨b,i,none⟩=false:=by
 simp [World.frozen?,h.arr]
theorem set3p (W3:World) (b:Nat) (x y z x0 y0 z0:Value) (h:W3.heap[b]?=some (.cells #[x0,y0,z0] 59)) :
 (((W3.setCell ⟨b,0,none⟩ x).setCell ⟨b,1,none⟩ y).setCell ⟨b,2,none⟩ z).heap[b]?=some (.cells #[x,y,z] 59):=set3 W3 b x y z x0 y0 z0 h
theorem num_st {V pos:Nat→Int} (hnum:∀ j,j<605→∀ W:World,Calls Try.prog 73 #[.int .i64 (pos j)] W fun e W'=>e = .returned (.tuple #[.int .i64 (V j),.int .i64 (pos (j+1))])∧Below W.heap.size W W')
 {w W:World} {b:Nat} {a:Array Value} (h:St5 w W b a) (j j':Nat) (hj:j<605) (hj':j+1=j') :
 Calls Try.prog 73 #[.int .i64 (pos j)] W fun e W'=>e = .returned (.tuple #[.int .i64 (V j),.int .i64 (pos j')])∧St5 w W' b a:=by
 subst hj'
 exact (hnum j hj W).mono fun e W' ⟨he,hB⟩=>⟨he,h.step hB⟩
theorem st_new {w wr:World} (hrs:wr.heap[w.heap.size]?=some (.cells #[.int .i64 0,.int .i64 0,.int .i64 0] 59)) (hbel:Below w.heap.size w wr) :
 St5 w (wr.alloc (.cells #[.int .i64 0,.int .i64 0,.int .i64 0,.int .i64 0,.int .i64 0] 81)) wr.heap.size #[.int .i64 0,.int .i64 0,.int .i64 0,.int .i64 0,.int .i64 0] where
 arr:=heap_alloc_new wr _
 rs:=by rw [Below.heap_alloc wr _ _ (Array.getElem?_eq_some_iff.1 hrs).1];exact hrs
 bel:=hbel.alloc hbel.size _
 hb:=(Array.getElem?_eq_some_iff.1 hrs).1
set_option maxRecDepth 100000 in
set_option maxHeartbeats 8000000 in
theorem refLook_walk (V pos:Nat→Int) (hnum:∀ j,j<605→∀ W:World,Calls Try.prog 73 #[.int .i64 (pos j)] W fun e W'=>e = .returned (.tuple #[.int .i64 (V j),.int .i64 (pos (j+1))])∧Below W.heap.size W W')
 (hlt:∀ k,k<121→pos (k*5)<1872) (hend:¬ pos 605<1872) (h0:pos 0=0) (code:Int) (w:World) :
 Calls Try.prog 44 #[.int .i64 code] w fun e w'=>e = .returned (.agg #[.int .i64 (rowFrom V code 121 0).1,.int .i64 (rowFrom V code 121 0).2.1,.int .i64 (rowFrom V code 121 0).2.2])∧Below w.heap.size w w':=by
 obtain ⟨r1,r2,r3,hr⟩:∃ r1 r2 r3,rowFrom V code 121 0=(r1,r2,r3):=⟨_,_,_,rfl⟩
 rw [hr]
 have h59:(Try.prog.info? 59).map (·.size)=some 3:=by kernel_rfl
 have H59:Aside _:=h59
 clear h59
 go_enter Try.func44,Try.ntmps44
 go_wp2
 go_loopg [3] 121 (fun kx s3 wr=>∃ k:Nat,k+kx=121∧s3 = .int .i64 (pos (k*5))∧wr.heap[w.heap.size]?=some (.cells #[.int .i64 0,.int .i64 0,.int .i64 0] 59)∧Below w.heap.size w wr∧rowFrom V code kx k=(r1,r2,r3))
 case atStart=>exact ⟨0,rfl,by rw [Nat.zero_mul,h0],heap_alloc_new w _,(Below.refl _ w).alloc (Nat.le_refl _) _,hr⟩
 case round=>
  obtain ⟨k,hk,rfl,hrs,hbel,hrow⟩:=hrel
  by_cases hk0:k<121
  ·have hp:=hlt k hk0
   obtain ⟨g1,rfl⟩:∃ m,gk=m+1:=⟨gk-1,by omega⟩
   have hne1:w.heap.size≠wr.heap.size:=by have:=(st_new hrs hbel).hb;omega
   have hne2:wr.heap.size≠w.heap.size:=fun h=>hne1 h.symm
   have S0:Aside _:=st_new hrs hbel
   clear hrs hbel
   go_wp2
   refine wp_loop_rounds 6 ?_
   rw [rounds_succ]
   go_wp2_with (go_at_call 73;refine (num_st hnum S0.out (k*5) (k*5+1) (by omega) rfl).mono ?_;rintro e W1 ⟨rfl,T⟩;have c0:=T.cell (i:=0) rfl;have f0:=T.fz 0;have S1:Aside _:=T.set 0 (.int .i64 (V (k*5)));clear T S0)
   rw [rounds_succ]
   go_wp2_with (go_at_call 73;refine (num_st hnum S1.out (k*5+1) (k*5+2) (by omega) rfl).mono ?_;rintro e W2 ⟨rfl,T⟩;have c1:=T.cell (i:=1) rfl;have f1:=T.fz 1;have S2:Aside _:=T.set 1 (.int .i64 (V (k*5+1)));clear T S1 c0 f0)
   rw [rounds_succ]
   go_wp2_with (go_at_call 73;refine (num_st hnum S2.out (k*5+2) (k*5+3) (by omega) rfl).mono ?_;rintro e W3 ⟨rfl,T⟩;have c2:=T.cell (i:=2) rfl;have f2:=T.fz 2;have S3:Aside _:=T.set 2 (.int .i64 (V (k*5+2)));clear T S2 c1 f1)
   rw [rounds_succ]
   go_wp2_with (go_at_call 73;refine (num_st hnum S3.out (k*5+3) (k*5+4) (by omega) rfl).mono ?_;rintro e W4 ⟨rfl,T⟩;have c3:=T.cell (i:=3) rfl;have f3:=T.fz 3;have S4:Aside _:=T.set 3 (.int .i64 (V (k*5+3)));clear T S3 c2 f2)
   rw [rounds_succ]
   go_wp2_with (go_at_call 73;refine (num_st hnum S4.out (k*5+4) (k*5+5) (by omega) rfl).mono ?_;rintro e W5 ⟨rfl,T⟩;have d0:=T.cell (i:=0) rfl;have d1:=T.cell (i:=1) rfl;have d2:=T.cell (i:=2) rfl;have d3:=T.cell (i:=3) rfl;have d4:=T.cell (i:=4) rfl;have f4:=T.fz 4;have q0:W5.cell? ⟨w.heap.size,0,none⟩=some (.int .i64 0):=(by simp [World.cell?,T.rs]);have q1:W5.cell? ⟨w.heap.size,1,none⟩=some (.int .i64 0):=(by simp [World.cell?,T.rs]);have q2:W5.cell? ⟨w.heap.size,2,none⟩=some (.int .i64 0):=(by simp [World.cell?,T.rs]);have qf:∀ j,W5.frozen? ⟨w.heap.size,j,none⟩=false:=(fun j=>by simp [World.frozen?,T.rs]);have S5:Aside _:=T.set 4 (.int .i64 (V (k*5+4)));clear T S4 c3 f3)
   rw [rounds_succ]
   go_wp2
   ·have e1:V (k*5)≤code:=by assumption
    have e2:code≤V (k*5+1):=by assumption
    rw [rowFrom,if_pos ⟨e1,e2⟩] at hrow
    simp only [Prod.mk.injEq] at hrow
    obtain ⟨rfl,rfl,rfl⟩:=hrow
    refine bodyPost_ret (v:=.agg #[.int .i64 (V (k*5+2)),.int .i64 (V (k*5+3)),.int .i64 (V (k*5+4))]) ?_ rfl ⟨rfl,?_⟩
    ·exact results_cell_row rfl _ _ w.heap.size 59 _ (0,0) _ rfl (set3p _ _ _ _ _ _ _ _ S5.out.rs) Try.underlying59 rfl H59.out
    ·exact ((S5.out.bel.setCell (Nat.le_refl _) _).setCell (Nat.le_refl _) _).setCell (Nat.le_refl _) _
   ·have e1:V (k*5)≤code:=by assumption
    have e2:V (k*5+1)<code:=by assumption
    go_roundg g1
    case measure=>omega
    case rel=>exact ⟨k+1,by omega,by rw [show (k+1)*5=k*5+5 by omega],S5.out.rs,S5.out.bel,by rw [←hrow,rowFrom,if_neg (by omega)]⟩
   ·have e1:code<V (k*5):=by assumption
    go_roundg g1
    case measure=>omega
    case rel=>exact ⟨k+1,by omega,by rw [show (k+1)*5=k*5+5 by omega],S5.out.rs,S5.out.bel,by rw [←hrow,rowFrom,if_neg (by omega)]⟩
  ·have hk1:k=121:=by omega
   obtain ⟨rfl⟩:gk=0:=by omega
   have hp:¬ pos (k*5)<1872:=by rw [show k*5=605 by omega];omega
   clear hk1
   have q0:wr.cell? ⟨w.heap.size,0,none⟩=some (.int .i64 0):=by simp [World.cell?,hrs]
   have q1:wr.cell? ⟨w.heap.size,1,none⟩=some (.int .i64 0):=by simp [World.cell?,hrs]
   have q2:wr.cell? ⟨w.heap.size,2,none⟩=some (.int .i64 0):=by simp [World.cell?,hrs]
   have qf:∀ j,wr.frozen? ⟨w.heap.size,j,none⟩=false:=fun j=>by simp [World.frozen?,hrs]
   have R:Aside _:=hrs
   have B:Aside _:=hbel
   clear hrs hbel
   go_wp2
   simp only [rowFrom,Prod.mk.injEq] at hrow
   obtain ⟨rfl,rfl,rfl⟩:=hrow
   refine bodyPost_ret (v:=.agg #[.int .i64 0,.int .i64 0,.int .i64 0]) ?_ rfl ⟨rfl,?_⟩
   ·exact results_cell_row rfl _ _ w.heap.size 59 _ (0,0) _ rfl (set3p _ _ _ _ _ _ _ _ R.out) Try.underlying59 rfl H59.out
   ·exact ((B.out.setCell (Nat.le_refl _) _).setCell (Nat.le_refl _) _).setCell (Nat.le_refl _) _
end Go.Proofs.Ythkklpegjcnjoaa
