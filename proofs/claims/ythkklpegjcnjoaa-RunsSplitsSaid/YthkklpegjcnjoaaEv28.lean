/- A function of one whole number that hands back two, by the evaluator; no condition but the run. -/
import Derived.Test.YthkklpegjcnjoaaEvC
namespace Go.Ab
noncomputable section
def pairOf:Option Ret→Option (Int×Int)
 | some (.ok (.tuple a) _)=>match a.toList with
  | [.int .i64 n,.int .i64 m]=>some (n,m)
  | _=>none
 | _=>none
end
theorem calls_pair {P:Program} (hn:namesOk P=true) {ro k:Nat} {f:FuncId} {x n m:Int} (h:pairOf (evalF (fnsOf P) P ro k f [.int .i64 x] ⟨.leaf,ro⟩)=some (n,m)) (W:World) :
 Calls P f #[.int .i64 x] W fun e W'=>e = .returned (.tuple #[.int .i64 n,.int .i64 m])∧Go.RowKit.Below W.heap.size W W':=by
 cases he:evalF (fnsOf P) P ro k f [.int .i64 x] ⟨.leaf,ro⟩ with
 | none=>rw [he] at h;cases h
 | some r=>
  have hr:Rel W.heap.size ro (fun _=>none) (T.leaf:T AObj).get W:=
   {base:=Nat.le_refl _,inb:=(fun _ _ e=>by cases e),own:=(fun _ _ e=>by cases e),rdo:=(fun _ _ e=>by cases e),inj:=(fun _ _ _ _ e=>by cases e),obj:=(fun _ _ _ e=>by cases e) }
  obtain ⟨_,hc⟩:=evalF_sim (B:=W.heap.size) (ro:=ro) (fnsOf_ok hn) k f [.int .i64 x] ⟨.leaf,ro⟩ r he (fun _=>none) W #[.int .i64 x] hr (Nat.le_refl _) (wf_leaf _) (.cons (.int _ _) .nil) (fun _ _ _=>rfl)
  refine hc.mono fun e W' ⟨ρ',h1,h2⟩=>⟨?_,h1.below hr⟩
  rw [he] at h
  unfold pairOf at h
  split at h
  ·rename_i a s heq
   injection heq with heq
   subst heq
   split at h
   ·rename_i n1 m1 hal
    cases h
    cases e with
    | returned v'=>
     have h3:VR ρ' (.tuple a) v':=h2
     cases h3 with
     | tuple f f' hf h4=>
      have ha:a = #[.int .i64 n,.int .i64 m]:=by rw [←Array.toArray_toList (xs:=a),hal]
      subst ha
      have hs:f'.size=2:=hf.symm
      have e0:=h4 0 _ f'[0] rfl (by simp [hs])
      have e1:=h4 1 _ f'[1] rfl (by simp [hs])
      rw [show f' = #[f'[0],f'[1]] from by
       apply Array.ext
       ·simp [hs]
       ·intro i hi _
        rcases (show i=0∨i=1 by omega) with rfl | rfl <;> rfl]
      rw [e0.int_inv,e1.int_inv]
    | panicked ch=>exact h2.elim
    | outgrown=>exact h2.elim
   ·cases h
  ·cases h
end Go.Ab
