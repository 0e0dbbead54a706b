/- What serifref12's number comes to at each number of its table: the table of the program's rows, number by number. No condition but the place. -/
import Derived.Test.YthkklpegjcnjoaaEv28
import Derived.Test.YthkklpegjcnjoaaLook
namespace Go.Proofs.Ythkklpegjcnjoaa
open Go.RowKit
set_option linter.unusedVariables false
noncomputable def numE (x:Int):Option (Int×Int):=Ab.pairOf (Ab.evalF (Ab.fnsOf Try.prog) Try.prog 12 2000 73 [.int .i64 x] ⟨.leaf,12⟩)
def digits:Int→Int
 | .ofNat n=>bif Nat.blt n 10 then 1 else bif Nat.blt n 100 then 2 else bif Nat.blt n 1000 then 3 else bif Nat.blt n 10000 then 4 else bif Nat.blt n 100000 then 5 else 6
 | _=>0
def endL:List Int→Int→Int
 | [],a=>a
 | v::l,a=>endL l (a+digits v+1)
def chkF (F:Int→Option (Int×Int)):List Int→Int→Bool
 | [],_=>true
 | v::l,a=>match F a with
  | some (n,m)=>bif Ab.eqI n v then bif Ab.eqI m (a+digits v+1) then chkF F l (a+digits v+1) else false else false
  | none=>false
theorem chk_app (F:Int→Option (Int×Int)) (l m:List Int) (a:Int) (h1:chkF F l a=true) (h2:chkF F m (endL l a)=true):chkF F (l++m) a=true:=by
 induction l generalizing a with
 | nil=>exact h2
 | cons v l ih=>
  simp only [chkF] at h1
  split at h1
  ·rename_i n k hk
   cases e1:Ab.eqI n v with
   | false=>rw [e1] at h1;cases h1
   | true=>
    cases e2:Ab.eqI k (a+digits v+1) with
    | false=>rw [e1,e2] at h1;cases h1
    | true=>
     rw [e1,e2] at h1
     simp only [List.cons_append,chkF,hk,e1,e2,cond_true]
     exact ih _ h1 h2
  ·cases h1
theorem chk_get (F:Int→Option (Int×Int)) (l:List Int) (a:Int) (h:chkF F l a=true):∀ j,j<l.length→F (endL (l.take j) a)=some (l.getD j 0,endL (l.take (j+1)) a):=by
 induction l generalizing a with
 | nil=>intro j hj;simp at hj
 | cons v l ih=>
  simp only [chkF] at h
  split at h
  ·rename_i n k hk
   cases e1:Ab.eqI n v with
   | false=>rw [e1] at h;cases h
   | true=>
    cases e2:Ab.eqI k (a+digits v+1) with
    | false=>rw [e1,e2] at h;cases h
    | true=>
     rw [e1,e2] at h
     have e1:=Ab.eqI_sound e1
     have e2:=Ab.eqI_sound e2
     subst e1 e2
     intro j hj
     cases j with
     | zero=>simpa [endL] using hk
     | succ j=>
      have:=ih _ h j (by simpa using hj)
      simpa [endL] using this
  ·cases h
set_option maxRecDepth 1000000 in
theorem chk_0:chkF numE ((tbl.drop 0).take 55) (endL (tbl.take 0) 0)=true:=by kernel_rfl
set_option maxRecDepth 1000000 in
theorem chk_1:chkF numE ((tbl.drop 55).take 55) (endL (tbl.take 55) 0)=true:=by kernel_rfl
set_option maxRecDepth 1000000 in
theorem chk_2:chkF numE ((tbl.drop 110).take 55) (endL (tbl.take 110) 0)=true:=by kernel_rfl
set_option maxRecDepth 1000000 in
theorem chk_3:chkF numE ((tbl.drop 165).take 55) (endL (tbl.take 165) 0)=true:=by kernel_rfl
set_option maxRecDepth 1000000 in
theorem chk_4:chkF numE ((tbl.drop 220).take 55) (endL (tbl.take 220) 0)=true:=by kernel_rfl
set_option maxRecDepth 1000000 in
theorem chk_5:chkF numE ((tbl.drop 275).take 55) (endL (tbl.take 275) 0)=true:=by kernel_rfl
set_option maxRecDepth 1000000 in
theorem chk_6:chkF numE ((tbl.drop 330).take 55) (endL (tbl.take 330) 0)=true:=by kernel_rfl
set_option maxRecDepth 1000000 in
theorem chk_7:chkF numE ((tbl.drop 385).take 55) (endL (tbl.take 385) 0)=true:=by kernel_rfl
set_option maxRecDepth 1000000 in
theorem chk_8:chkF numE ((tbl.drop 440).take 55) (endL (tbl.take 440) 0)=true:=by kernel_rfl
set_option maxRecDepth 1000000 in
theorem chk_9:chkF numE ((tbl.drop 495).take 55) (endL (tbl.take 495) 0)=true:=by kernel_rfl
set_option maxRecDepth 1000000 in
theorem chk_10:chkF numE ((tbl.drop 550).take 55) (endL (tbl.take 550) 0)=true:=by kernel_rfl
theorem chk_take (F:Int→Option (Int×Int)) (l:List Int) (n m:Nat) (a:Int) (h1:chkF F (l.take n) a=true) (h2:chkF F ((l.drop n).take m) (endL (l.take n) a)=true):chkF F (l.take (n+m)) a=true:=by
 rw [List.take_add]
 exact chk_app F _ _ _ h1 h2
theorem chk_all:chkF numE tbl 0=true:=by
 have h0:chkF numE (tbl.take 0) 0=true:=rfl
 have h1:=chk_take numE tbl 0 55 0 h0 chk_0
 have h2:=chk_take numE tbl 55 55 0 h1 chk_1
 have h3:=chk_take numE tbl 110 55 0 h2 chk_2
 have h4:=chk_take numE tbl 165 55 0 h3 chk_3
 have h5:=chk_take numE tbl 220 55 0 h4 chk_4
 have h6:=chk_take numE tbl 275 55 0 h5 chk_5
 have h7:=chk_take numE tbl 330 55 0 h6 chk_6
 have h8:=chk_take numE tbl 385 55 0 h7 chk_7
 have h9:=chk_take numE tbl 440 55 0 h8 chk_8
 have h10:=chk_take numE tbl 495 55 0 h9 chk_9
 have h11:=chk_take numE tbl 550 55 0 h10 chk_10
 rwa [List.take_of_length_le (by rw [tbl_is.2];omega)] at h11
noncomputable def pos (j:Nat):Int:=endL (tbl.take j) 0
theorem num_at (j:Nat) (hj:j<605):numE (pos j)=some (tbl.getD j 0,pos (j+1)):=chk_get numE tbl 0 chk_all j (by rw [tbl_is.2];exact hj)
theorem num_calls (j:Nat) (hj:j<605) (W:World):Calls Try.prog 73 #[.int .i64 (pos j)] W fun e W'=>e = .returned (.tuple #[.int .i64 (tbl.getD j 0),.int .i64 (pos (j+1))])∧Below W.heap.size W W':=
 Ab.calls_pair tbl_names (num_at j hj) W
noncomputable def posOkB:Nat→Bool:=fun k=>Ab.ltI (pos (k*5)) 1872
theorem pos_lt:(List.range 121).all posOkB=true:=by kernel_rfl
theorem pos_end:Ab.ltI (pos 605) 1872=false:=by kernel_rfl
end Go.Proofs.Ythkklpegjcnjoaa
