/- A function without parameters of which the evaluator says true returns true in the model from every world and leaves all old memory alone. -/
import Derived.Test.YtneiaobhjjbedaaEv23
import Derived.KernelRfl
namespace Go.Ab

def namesOk (P : Program) : Bool := P.funcs.toList.all fun fn => fn.name != "runtime.NumGoroutine"

theorem fnsOf_ok {P : Program} (h : namesOk P = true) : ∀ f fn, fnsOf P f = some fn → P.funcs[f]? = some fn ∧ fn.name ≠ "runtime.NumGoroutine" := by
  intro f fn hf
  refine ⟨hf, ?_⟩
  simp only [namesOk, List.all_eq_true] at h
  have hm : fn ∈ P.funcs.toList := by
    have h2 : P.funcs.toList[f]? = some fn := by rw [Array.getElem?_toList]; exact hf
    exact List.mem_of_getElem? h2
  simpa using h fn hm

/-- A function without parameters of which the evaluator says 'true': in the model it returns true from every world, and turns nothing that was there. -/
theorem calls_true {P : Program} (hn : namesOk P = true) {ro k : Nat} {f : FuncId} (h : okTrue (evalF (fnsOf P) P ro k f [] ⟨.leaf, ro⟩) = true) (W : World) :
    Calls P f #[] W fun e W' => e = .returned (.bool true) ∧ Go.RowKit.Below W.heap.size W W' := by
  cases he : evalF (fnsOf P) P ro k f [] ⟨.leaf, ro⟩ with
  | none => rw [he] at h; cases h
  | some r =>
    have hr : Rel W.heap.size ro (fun _ => none) (T.leaf : T AObj).get W :=
      { base := Nat.le_refl _, inb := (fun _ _ e => by cases e), own := (fun _ _ e => by cases e), rdo := (fun _ _ e => by cases e), inj := (fun _ _ _ _ e => by cases e), obj := (fun _ _ _ e => by cases e) }
    obtain ⟨_, hc⟩ := evalF_sim (B := W.heap.size) (ro := ro) (fnsOf_ok hn) k f [] ⟨.leaf, ro⟩ r he (fun _ => none) W #[] hr (Nat.le_refl _) (wf_leaf _) .nil (fun _ _ _ => rfl)
    refine hc.mono fun e W' ⟨ρ', h1, h2⟩ => ?_
    refine ⟨?_, h1.below hr⟩
    rw [he] at h
    cases r with
    | pan ch s => cases h
    | ok v s =>
      cases v <;> simp only [okTrue, Bool.false_eq_true] at h
      subst h
      cases e with
      | returned v' => rw [VR.bool_inv h2]
      | panicked c => exact h2.elim
      | outgrown => exact h2.elim

end Go.Ab
