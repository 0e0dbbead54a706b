/- A function without parameters that hands back a row of whole numbers, by the evaluator: its cells, in memory of its own; no condition but the run. -/
import Derived.Test.YthkklpegjcnjoaaEvC
namespace Go.Ab
noncomputable section
def intsOf:List Value→Option (List Int)
 | []=>some []
 | .int .i64 n::l=>match intsOf l with | some r=>some (n::r) | none=>none
 | _::_=>none
def rowOf:Option Ret→Option (Nat×Nat×List Int)
 | some (.ok (.slice (some ⟨ν,0,none⟩) n c) s)=>
  match s.heap.get ν with
  | some (.cells b)=>
   bif b.dead||b.opn then none else
   match cellsFrom b 0 b.n with
   | some vs=>match intsOf vs with | some l=>some (n,c,l) | none=>none
   | none=>none
  | _=>none
 | _=>none
end
theorem intsOf_get:∀ {vs:List Value} {l:List Int},intsOf vs=some l→vs=l.map (Value.int .i64)
 | [],l,h=>by simp only [intsOf] at h;cases h;rfl
 | .int .i64 n::vs,l,h=>by
  simp only [intsOf] at h
  split at h
  ·rename_i r hr
   cases h
   rw [intsOf_get hr];rfl
  ·cases h
 | .int .i32 n::vs,l,h=>by simp [intsOf] at h
 | .int .i16 n::vs,l,h=>by simp [intsOf] at h
 | .int .i8 n::vs,l,h=>by simp [intsOf] at h
 | .int .u64 n::vs,l,h=>by simp [intsOf] at h
 | .int .u32 n::vs,l,h=>by simp [intsOf] at h
 | .int .u16 n::vs,l,h=>by simp [intsOf] at h
 | .int .u8 n::vs,l,h=>by simp [intsOf] at h
 | .bool _::vs,l,h=>by simp [intsOf] at h
 | .float _ _::vs,l,h=>by simp [intsOf] at h
 | .complex _ _ _::vs,l,h=>by simp [intsOf] at h
 | .string _::vs,l,h=>by simp [intsOf] at h
 | .pointer _::vs,l,h=>by simp [intsOf] at h
 | .slice _ _ _::vs,l,h=>by simp [intsOf] at h
 | .map _::vs,l,h=>by simp [intsOf] at h
 | .chan _::vs,l,h=>by simp [intsOf] at h
 | .func _ _ _::vs,l,h=>by simp [intsOf] at h
 | .nilFunc::vs,l,h=>by simp [intsOf] at h
 | .nilIface::vs,l,h=>by simp [intsOf] at h
 | .iface _ _::vs,l,h=>by simp [intsOf] at h
 | .agg _::vs,l,h=>by simp [intsOf] at h
 | .tuple _::vs,l,h=>by simp [intsOf] at h
theorem cellsFrom_at {b:Blk}:∀ (n o:Nat) (vs:List Value),cellsFrom b o n=some vs→∀ j v,vs[j]?=some v→cellAt b (o+j)=some v
 | 0,o,vs,h=>by simp only [cellsFrom] at h;cases h;intro j v hj;simp at hj
 | n+1,o,vs,h=>by
  simp only [cellsFrom] at h
  split at h
  ·rename_i v0 h0
   split at h
   ·rename_i l hl
    cases h
    intro j v hj
    cases j with
    | zero=>simp at hj;subst hj;exact h0
    | succ j=>
     have:=cellsFrom_at n (o+1) l hl j v (by simpa using hj)
     rw [show o+(j+1)=o+1+j by omega];exact this
   ·cases h
  ·cases h
theorem calls_row {P:Program} (hn:namesOk P=true) {ro k:Nat} {f:FuncId} {n c:Nat} {l:List Int} (h:rowOf (evalF (fnsOf P) P ro k f [] ⟨.leaf,ro⟩)=some (n,c,l)) (W:World) :
 Calls P f #[] W fun e W'=>∃ g,W.heap.size≤g∧g<W'.heap.size∧e = .returned (.slice (some ⟨g,0,none⟩) n c)∧(∀ (j:Nat) (x:Int),l[j]?=some x→W'.cell? ⟨g,j,none⟩=some (.int .i64 x))∧Go.RowKit.Below W.heap.size W W':=by
 cases he:evalF (fnsOf P) P ro k f [] ⟨.leaf,ro⟩ with
 | none=>rw [he] at h;cases h
 | some r=>
  have hr:Rel W.heap.size ro (fun _=>none) (T.leaf:T AObj).get W:=
   {base:=Nat.le_refl _,inb:=(fun _ _ e=>by cases e),own:=(fun _ _ e=>by cases e),rdo:=(fun _ _ e=>by cases e),inj:=(fun _ _ _ _ e=>by cases e),obj:=(fun _ _ _ e=>by cases e) }
  obtain ⟨_,hc⟩:=evalF_sim (B:=W.heap.size) (ro:=ro) (fnsOf_ok hn) k f [] ⟨.leaf,ro⟩ r he (fun _=>none) W #[] hr (Nat.le_refl _) (wf_leaf _) .nil (fun _ _ _=>rfl)
  refine hc.mono fun e W' ⟨ρ',h1,h2⟩=>?_
  rw [he] at h
  unfold rowOf at h
  split at h
  ·rename_i ν n0 c0 s heq
   injection heq with heq
   subst heq
   split at h
   ·rename_i b hb
    cases hdo:(b.dead||b.opn) with
    | true=>rw [hdo] at h;cases h
    | false=>
     rw [hdo] at h
     simp only [cond_false] at h
     simp only [Bool.or_eq_false_iff] at hdo
     split at h
     ·rename_i vs hvs
      split at h
      ·rename_i l' hl'
       cases h
       cases e with
       | returned v'=>
        have h3:VR ρ' (.slice (some ⟨ν,0,none⟩) n c) v':=h2
        cases h3 with
        | slc hρ hs=>
         rename_i o' cap' i _
         obtain ⟨e1,e2,e3,e4⟩:=h1.rel.obj ν i _ hρ hb
         obtain ⟨cs,t,fr,q1,q2,q3,q4,q5,q6,q7⟩:=e4 hdo.1
         obtain ⟨q8,q9⟩:=q6 hdo.2
         have hop:i.opn=false:=e2.trans hdo.2
         have hν:ro≤ν:=(h1.dom ν i rfl hρ).1
         rcases hs with ⟨s1,s2⟩ | ⟨s1,_⟩ | ⟨s1,_⟩
         ·subst s2
          rw [q8] at s1
          have s1:o'=0:=s1
          subst s1
          refine ⟨i.b,(h1.rel.own ν i hρ hν).1,h1.rel.inb ν i hρ,rfl,fun j x hj=>?_,h1.below hr⟩
          have hv:=intsOf_get hl'
          have hj2:vs[j]?=some (.int .i64 x):=by rw [hv,List.getElem?_map,hj];rfl
          obtain ⟨v',r1,r2⟩:=q7 (0+j) _ (cellsFrom_at _ _ _ hvs j _ hj2)
          cases r2
          rw [q8] at r1
          simp only [World.cell?,q1,Option.isSome_none,Bool.false_eq_true,if_false]
          simpa using r1
         ·rw [hop] at s1;cases s1
         ·rw [hop] at s1;cases s1
       | panicked ch=>exact h2.elim
       | outgrown=>exact h2.elim
      ·cases h
     ·cases h
   ·cases h
  ·cases h
end Go.Ab
