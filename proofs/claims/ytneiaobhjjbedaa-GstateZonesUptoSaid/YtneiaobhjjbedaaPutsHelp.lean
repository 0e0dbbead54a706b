/- Two helps for the walks of GstatePuts: a call of a function that a temporary holds, by its contract; and a nil row has no elements. No condition but the contract. -/
import Derived.Test.YtneiaobhjjbedaaWLast
import Derived.Test.YtneiaobhjjbedaaWMore
import Derived.Deep.OwnRows
import Derived.LoopN
import Derived.Lib.SliceRun
namespace Go.Proofs.Ytneiaobhjjbedaa
open Go.RowKit Go.Proofs.YtneiaobhjjbedaaW.PrintWords Go.Proofs.YtneiaobhjjbedaaW.PrintLast Go.Proofs.YtneiaobhjjbedaaW.PrintMore
set_option linter.unusedVariables false
section
variable {P : Program} {ops : Array Oper} {Q : Exit → Act → World → Prop}
theorem goesV_ {rest : List Oper} {oi : Oper} {a : Act} {w : World} (N : Option Tmp) (hd : oi.dst = N) (hg : oi.guard = none) {f : FuncId} {fn : Func} {o : Operand} {as : Array Operand} {ts : Array TypeId} (hf : P.funcs[f]? = some fn) (hname : (fn.name == "runtime.NumGoroutine") = false) (hb : fn.body.isSome = true) (args : Array Value)
    (hop : oi.op = .call { callee := .value o, args := as, argTypes := ts }) (hv : a.eval o = .func (.func f) #[] #[]) (hargs : as.map a.eval = args)
    (h : Calls P f args w fun e w' => ∃ v, e = .returned v ∧ wpList P ops Q rest (a.put N v) w') : wpList P ops Q (oi :: rest) a w := by
  refine wpList_plain hg fun K hK => ?_
  have he := enters_ hf hname hb args w
  have hrun : (execOp a.eval oi).run P w = .ok (.enter f args) w := by
    unfold execOp
    simp [hop, resolve, Deferred.ofValue, invoke, hv, hargs, he]
  unfold Oper.wp
  rw [hrun, Oper.upon_enter]
  refine h.mono fun e w'' hh => ?_
  obtain ⟨v, rfl, hk⟩ := hh
  subst hd
  exact hK _ _ hk
variable {rest : List Oper} {o : Oper} {a : Act}
/-- A row made of parts: in a block of its own. -/
theorem rows_event {W : World} (hgd : o.guard = none) {N : Tmp} (_hd : o.dst = some N) {cs : Array Value} {t : TypeId} {n : Nat}
    (hrun : (execOp a.eval o).run P W = .ok (.value (.slice (some ⟨W.heap.size, 0, none⟩) n n)) (W.alloc (.cells cs t (0, 0))))
    (h : ∀ g, g = W.heap.size → ∀ w1, w1.heap[g]? = some (.cells cs t (0, 0)) → Below W.heap.size W w1 → wpList P ops Q rest (a.put o.dst (.slice (some ⟨g, 0, none⟩) n n)) w1) : wpList P ops Q (o :: rest) a W :=
  Kd.event_run hgd hrun (h _ rfl _ (blk_new W _) (below_alloc (Below.refl _ _) _))
end
section
variable {α : Type} {d : Kd α} {e base : Nat} {w : World} {ok : Nat → Prop} {v : Value} {xs : List α}
/-- Stores into blocks of another type leave a row as it is. -/
theorem st1 (h : d.R e w base ok v xs) {g t : Nat} {cells : Array Value} (hb : w.heap[g]? = some (.cells cells t (0, 0))) (ht : ∀ q, q ∈ e :: d.E → q ≠ t) {j : Nat} {u : Value} : d.R e (w.setCell ⟨g, j, none⟩ u) base ok v xs :=
  Kd.R_mono (Kd.R_far (p := ⟨g, j, none⟩) (Kd.R_types h hb ht) (fun _ hk => hk.2) u) (fun _ h => h.1)
theorem st2 (h : d.R e w base ok v xs) {g t : Nat} {cells : Array Value} (hb : w.heap[g]? = some (.cells cells t (0, 0))) (ht : ∀ q, q ∈ e :: d.E → q ≠ t) {j k : Nat} {u1 u2 : Value} : d.R e ((w.setCell ⟨g, j, none⟩ u1).setCell ⟨g, k, none⟩ u2) base ok v xs :=
  Kd.R_mono (Kd.R_far (p := ⟨g, k, none⟩) (Kd.R_far (p := ⟨g, j, none⟩) (Kd.R_types h hb ht) (fun _ hk => hk.2) u1) (fun _ hk => hk.2) u2) (fun _ h => h.1)
theorem st3 (h : d.R e w base ok v xs) {g t : Nat} {cells : Array Value} (hb : w.heap[g]? = some (.cells cells t (0, 0))) (ht : ∀ q, q ∈ e :: d.E → q ≠ t) {j k l : Nat} {u1 u2 u3 : Value} : d.R e (((w.setCell ⟨g, j, none⟩ u1).setCell ⟨g, k, none⟩ u2).setCell ⟨g, l, none⟩ u3) base ok v xs :=
  Kd.R_mono (Kd.R_far (p := ⟨g, l, none⟩) (Kd.R_far (p := ⟨g, k, none⟩) (Kd.R_far (p := ⟨g, j, none⟩) (Kd.R_types h hb ht) (fun _ hk => hk.2) u1) (fun _ hk => hk.2) u2) (fun _ hk => hk.2) u3) (fun _ h => h.1)
theorem far5 (h : d.R e w base ok v xs) {g : Nat} (hk : ∀ k, ok k → k ≠ g) {u0 u1 u2 u3 u4 : Value} :
    d.R e (((((w.setCell ⟨g, 0, none⟩ u0).setCell ⟨g, 1, none⟩ u1).setCell ⟨g, 2, none⟩ u2).setCell ⟨g, 3, none⟩ u3).setCell ⟨g, 4, none⟩ u4) base ok v xs :=
  Kd.R_far (p := ⟨g, 4, none⟩) (Kd.R_far (p := ⟨g, 3, none⟩) (Kd.R_far (p := ⟨g, 2, none⟩) (Kd.R_far (p := ⟨g, 1, none⟩) (Kd.R_far (p := ⟨g, 0, none⟩) h hk u0) hk u1) hk u2) hk u3) hk u4
theorem st5 (h : d.R e w base ok v xs) {g t : Nat} {cells : Array Value} (hb : w.heap[g]? = some (.cells cells t (0, 0))) (ht : ∀ q, q ∈ e :: d.E → q ≠ t) {u0 u1 u2 u3 u4 : Value} :
    d.R e (((((w.setCell ⟨g, 0, none⟩ u0).setCell ⟨g, 1, none⟩ u1).setCell ⟨g, 2, none⟩ u2).setCell ⟨g, 3, none⟩ u3).setCell ⟨g, 4, none⟩ u4) base ok v xs :=
  Kd.R_mono (far5 (Kd.R_types h hb ht) (fun _ hk => hk.2)) (fun _ h => h.1)
theorem st55 (h : d.R e w base ok v xs) {g t : Nat} {cells : Array Value} (hb : w.heap[g]? = some (.cells cells t (0, 0))) (ht : ∀ q, q ∈ e :: d.E → q ≠ t) {g' t' : Nat} {cells' : Array Value} (hb' : w.heap[g']? = some (.cells cells' t' (0, 0))) (ht' : ∀ q, q ∈ e :: d.E → q ≠ t')
    {u0 u1 u2 u3 u4 v0 v1 v2 v3 v4 : Value} :
    d.R e ((((((((((w.setCell ⟨g, 0, none⟩ u0).setCell ⟨g, 1, none⟩ u1).setCell ⟨g, 2, none⟩ u2).setCell ⟨g, 3, none⟩ u3).setCell ⟨g, 4, none⟩ u4).setCell ⟨g', 0, none⟩ v0).setCell ⟨g', 1, none⟩ v1).setCell ⟨g', 2, none⟩ v2).setCell ⟨g', 3, none⟩ v3).setCell ⟨g', 4, none⟩ v4) base ok v xs :=
  Kd.R_mono (far5 (far5 (Kd.R_types (Kd.R_types h hb ht) hb' ht') (fun _ hk => hk.1.2)) (fun _ hk => hk.2)) (fun _ h => h.1.1)
end
/-- What a block's cell holds. -/
theorem bc {w : World} {g : Nat} {t : TypeId} {cs : Array Value} {v : Value} (h : w.heap[g]? = some (.cells cs t (0, 0))) (j : Nat) (hj : cs[j]? = some v) : w.cell? ⟨g, j, none⟩ = some v := (blk_cell h j).trans hj
theorem nil_of_none {α : Type} {kd : Kd α} {w : World} {l : List α} (h : Kd.C kd w none l.length l) : l = [] := by
  rcases Nat.eq_zero_or_pos l.length with h0 | h0
  · exact List.length_eq_zero_iff.1 h0
  · obtain ⟨_, _, h2⟩ := h
    obtain ⟨ad, e, _⟩ := h2 (by omega)
    cases e
end Go.Proofs.Ytneiaobhjjbedaa
