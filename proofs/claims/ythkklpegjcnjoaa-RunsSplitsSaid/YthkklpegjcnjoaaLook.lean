/- What ucd.Look comes to at every code: what the table's first row that doesn't end ahead of the code says, if it begins there; else the default. No condition. -/
import Derived.Test.YthkklpegjcnjoaaEv27
import Derived.Test.YthkklpegjcnjoaaShelfS
import Derived.Shelf.SlSorted.Search
import Derived.RegionTactic
import Derived.WalkKit
import Derived.KernelRfl
namespace Go.Proofs.Ythkklpegjcnjoaa
open Go.RowKit Go.Lib Go.Sort
set_option linter.unusedVariables false
set_option linter.unusedSimpArgs false
noncomputable def tbl:List Int:=match Ab.rowOf (Ab.evalF (Ab.fnsOf Try.prog) Try.prog 12 2000 75 [] ⟨.leaf,12⟩) with | some (_,_,l)=>l | none=>[]
set_option maxRecDepth 1000000 in
theorem tbl_run:(match Ab.rowOf (Ab.evalF (Ab.fnsOf Try.prog) Try.prog 12 2000 75 [] ⟨.leaf,12⟩) with | some (n,c,l)=>Nat.beq n 121&&Nat.beq c 121&&Nat.beq l.length 605 | none=>false)=true:=by kernel_rfl
theorem tbl_names:Ab.namesOk Try.prog=true:=by kernel_rfl
theorem tbl_is:Ab.rowOf (Ab.evalF (Ab.fnsOf Try.prog) Try.prog 12 2000 75 [] ⟨.leaf,12⟩)=some (121,121,tbl)∧tbl.length=605:=by
 have h:=tbl_run
 unfold tbl
 revert h
 generalize Ab.rowOf (Ab.evalF (Ab.fnsOf Try.prog) Try.prog 12 2000 75 [] ⟨.leaf,12⟩)=r
 intro h
 cases r with
 | none=>cases h
 | some p=>
  obtain ⟨n,c,l⟩:=p
  simp only [Bool.and_eq_true] at h
  obtain ⟨⟨h1,h2⟩,h3⟩:=h
  cases Nat.eq_of_beq_eq_true h1
  cases Nat.eq_of_beq_eq_true h2
  exact ⟨rfl,Nat.eq_of_beq_eq_true h3⟩
theorem rows_calls (W:World):Calls Try.prog 75 #[] W fun e W'=>∃ g,W.heap.size≤g∧g<W'.heap.size∧e = .returned (.slice (some ⟨g,0,none⟩) 121 121) ∧
 (∀ j,j<605→W'.cell? ⟨g,j,none⟩=some (.int .i64 (tbl.getD j 0)))∧Below W.heap.size W W':=by
 refine (Ab.calls_row tbl_names tbl_is.1 W).mono ?_
 rintro e W' ⟨g,h1,h2,h3,h4,h5⟩
 refine ⟨g,h1,h2,h3,fun j hj=>h4 j _ ?_,h5⟩
 rw [List.getD_eq_getElem?_getD,List.getElem?_eq_getElem (by rw [tbl_is.2];exact hj)]
 rfl
set_option maxHeartbeats 2000000 in
theorem closure77 (bl bx g:Nat) (code y:Int) (i:Nat) (W:World) (hi:i<121)
 (ha:W.cell? ⟨bl,0,none⟩=some (.slice (some ⟨g,0,none⟩) 121 121)) (hx:W.cell? ⟨bx,0,none⟩=some (.int .i64 code)) (hc:W.cell? ⟨g,i*5+1,none⟩=some (.int .i64 y)) :
 Calls Try.prog 77 (#[.int .i64 i] ++ #[.pointer (some ⟨bl,0,none⟩),.pointer (some ⟨bx,0,none⟩)]) W fun e w'=>e = .returned (.bool (decide (code≤y)))∧∃ q,w'=W.drewN q:=by
 have hiz:(i:Int)<(121:Int):=by omega
 go_enter Try.func77,Try.ntmps77
 go_wp2
 go_region
 all_goals go_wp2
 all_goals go_ret
 all_goals exact ⟨by first | rfl | simp,1,rfl⟩
end Go.Proofs.Ythkklpegjcnjoaa
