/- A part of the proof that what the evaluator says of a piece of code, the model does: no condition but those that each theorem states. -/
import Derived.Test.YtneiaobhjjbedaaEv3
namespace Go.Ab

section
variable {P : Program} {B ro : Nat} {ρ : Ren} {s : St} {w : World} {tm : T Value} {ac : Act}

/-! ### Reading related values backwards -/
theorem VR.bool_inv {b : Bool} {v : Value} (h : VR ρ (.bool b) v) : v = .bool b := by cases h; rfl
theorem VR.int_inv {k : IntKind} {n : Int} {v : Value} (h : VR ρ (.int k n) v) : v = .int k n := by cases h; rfl
theorem VR.string_inv {b : ByteArray} {v : Value} (h : VR ρ (.string b) v) : v = .string b := by cases h; rfl
theorem VR.ptrNil_inv {v : Value} (h : VR ρ (.pointer none) v) : v = .pointer none := by cases h; rfl
theorem VR.ptr_inv {a : Addr} {v : Value} (h : VR ρ (.pointer (some a)) v) : a.spot = none ∧ ∃ i, ρ a.block = some i ∧ v = .pointer (some ⟨i.b, i.r + a.off, none⟩) := by
  cases h with | ptr h => exact ⟨rfl, _, h, rfl⟩
theorem VR.slcNil_inv {l c : Nat} {v : Value} (h : VR ρ (.slice none l c) v) : v = .slice none l c := by cases h; rfl
theorem VR.slc_inv {a : Addr} {l c : Nat} {v : Value} (h : VR ρ (.slice (some a) l c) v) :
    a.spot = none ∧ ∃ i o' c', ρ a.block = some i ∧ v = .slice (some ⟨i.b, o', none⟩) l c' ∧ SlcOk i a.off l c o' c' := by
  cases h with | slc h hs => exact ⟨rfl, _, _, _, h, rfl, hs⟩
theorem VR.mapNil_inv {v : Value} (h : VR ρ (.map none) v) : v = .map none := by cases h; rfl
theorem VR.map_inv {r : Nat} {v : Value} (h : VR ρ (.map (some r)) v) : ∃ i, ρ r = some i ∧ v = .map (some i.b) := by
  cases h with | map h => exact ⟨_, h, rfl⟩
theorem VR.iface_inv {t : TypeId} {u v : Value} (h : VR ρ (.iface t u) v) : ∃ u', v = .iface t u' ∧ VR ρ u u' := by
  cases h with | iface t h => exact ⟨_, rfl, h⟩
theorem VR.nilIface_inv {v : Value} (h : VR ρ .nilIface v) : v = .nilIface := by cases h; rfl
theorem VR.nilFunc_inv {v : Value} (h : VR ρ .nilFunc v) : v = .nilFunc := by cases h; rfl

noncomputable def tmv (tm : T Value) (t : Nat) : Value := match tm.get t with | some v => v | none => und

def TmR (ρ : Ren) (tm : T Value) (tmps : Array Value) : Prop := ∀ t, VR ρ (tmv tm t) (tmps.getD t undef)

theorem opv_rel (h : TmR ρ tm ac.tmps) (x : Operand) : VR ρ (opv tm x) (ac.eval x) := by
  cases x with
  | tmp t => exact h t
  | const v =>
    simp only [opv, Act.eval]
    cases hc : closedV 3 v with
    | true => exact closed_refl 3 v hc
    | false => exact .unk _
  | global g => exact .unk _
  | func f => exact VR.func_of (l := []) (m := []) (c := []) (d := []) _ .nil .nil

def DefR (ρ : Ren) (d d' : Deferred) : Prop :=
  (∃ fn cap cap', d.target = .fn fn cap ∧ d'.target = .fn fn cap' ∧ VRs ρ cap.toList cap'.toList) ∧ VRs ρ d.args.toList d'.args.toList

def Res.next (s0 : St) : Res → Nat
  | .val _ s => s.next
  | _ => s0.next

/-- How what the model comes to stands to what the evaluator comes to. -/
def ResR (P : Program) (B ro : Nat) (ρ : Ren) (s : St) (w : World) (R : Result Next) : Res → Prop
  | .val v s' => ∃ ρ' w' v', (R = .ok (.value v') w' ∨ (R = .ok .skip w' ∧ v' = undef)) ∧ Step B ro ρ s w ρ' s' w' ∧ VR ρ' v v'
  | .call f args s' => s' = s ∧ ∃ args', R = (callFunc f args').run P w ∧ VRs ρ args args'.toList
  | .dfr d s' => s' = s ∧ ∃ d', R = .ok (.defer d') w ∧ DefR ρ d d'
  | .rcv s' => s' = s ∧ R = .ok .recover w
  | .pan v s' => s' = s ∧ ∃ v', R = .halt (.panic v') w ∧ VR ρ v v'

theorem ResR.same (hr : Rel B ro ρ s.heap.get w) {R : Result Next} {v v' : Value} (hR : R = .ok (.value v') w) (hv : VR ρ v v') : ResR P B ro ρ s w R (.val v s) :=
  ⟨ρ, w, v', .inl hR, Step.refl hr, hv⟩

theorem newObjK_eq {R : Type} (s : St) (o : AObj) (k : Nat → St → R) : newObjK s o k = k s.next ⟨s.heap.set s.next o, s.next + 1⟩ := by
  obtain ⟨h, n⟩ := s
  cases n with
  | zero => simp only [newObjK]; exact T.setK_set h 0 o _
  | succ m => simp only [newObjK]; exact T.setK_set h (m + 1) o _

theorem setObjK_eq {R : Type} (s : St) (ν : Nat) (o : AObj) (k : St → R) : setObjK s ν o k = k ⟨s.heap.set ν o, s.next⟩ := by
  simp only [setObjK]; exact T.setK_set _ _ _ _

theorem newRow_eq (s : St) (elem : TypeId) (opn : Bool) (es : Nat) (vs : List Value) (k : Nat → St → Option Res) :
    newRow s elem opn es vs k = k s.next ⟨s.heap.set s.next (.cells { cells := T.sets vs 0 .leaf, n := vs.length, z := [], elem, opn, es, str := false, dead := false }), s.next + 1⟩ := by
  simp only [newRow, T.setsK_eq, newObjK_eq]

theorem Step.newCells (hr : Rel B ro ρ s.heap.get w) (hro : ro ≤ s.next) (hf : ρ s.next = none) {b : Blk} {cs : Array Value} {t : TypeId} {fr : Nat × Nat} {w' : World}
    (hw : w'.heap = w.heap.push (.cells cs t fr)) (h1 : w'.os = w.os) (h2 : w'.tape = w.tape) (h3 : w'.output = w.output) (hfr : fr.1 = fr.2 ∨ cs.size ≤ fr.1) (hstr : b.str = false → fr.1 = fr.2)
    (hn : b.n ≤ cs.size) (hopn : b.opn = false → cs.size = b.n) (hc : ∀ j v, cellAt b j = some v → ∃ v', cs[j]? = some v' ∧ VR ρ v v') :
    Step B ro ρ s w (ρ.upd s.next ⟨w.heap.size, 0, b.n, cs.size, b.es, b.opn⟩) ⟨s.heap.set s.next (.cells b), s.next + 1⟩ w' := by
  refine Step.new hr hro hf rfl hw h1 h2 h3 ⟨rfl, rfl, rfl, fun _ => ⟨cs, t, fr, ?_, rfl, by simpa using hn, hfr, hstr, fun ho => ⟨rfl, hopn ho⟩, fun j v hv => ?_⟩⟩
  · rw [hw]; simp
  · obtain ⟨v', e, hv'⟩ := hc j v hv
    exact ⟨v', by simpa using e, hv'.mono (Ren.le_upd _ hf)⟩

theorem cellAt_row {vs : List Value} {elem : TypeId} {opn : Bool} {es : Nat} {str dead : Bool} {j : Nat} {v : Value}
    (h : cellAt { cells := T.sets vs 0 .leaf, n := vs.length, z := [], elem, opn, es, str, dead } j = some v) : vs[j]? = some v := by
  simp only [cellAt, T.get_sets, T.get_leaf] at h
  cases hb : Nat.blt j vs.length with
  | false => rw [hb] at h; cases h
  | true =>
    rw [hb] at h
    have hlt : j < vs.length := by simpa [Nat.blt_eq] using hb
    rw [if_pos ⟨Nat.zero_le _, by omega⟩, Nat.sub_zero, List.getElem?_eq_getElem hlt] at h
    rw [List.getElem?_eq_getElem hlt]
    simpa using h

theorem Step.newRow (hr : Rel B ro ρ s.heap.get w) (hro : ro ≤ s.next) (hf : ρ s.next = none) {vs vs' rest : List Value} {elem : TypeId} {opn : Bool} {es : Nat} {t : TypeId} {w' : World}
    (hw : w'.heap = w.heap.push (.cells (vs' ++ rest).toArray t)) (h1 : w'.os = w.os) (h2 : w'.tape = w.tape) (h3 : w'.output = w.output) (hv : VRs ρ vs vs') (hrest : opn = false → rest = []) :
    Step B ro ρ s w (ρ.upd s.next ⟨w.heap.size, 0, vs.length, (vs' ++ rest).length, es, opn⟩)
      ⟨s.heap.set s.next (.cells { cells := T.sets vs 0 .leaf, n := vs.length, z := [], elem, opn, es, str := false, dead := false }), s.next + 1⟩ w' := by
  have hl := hv.length
  refine Step.newCells hr hro hf (b := { cells := T.sets vs 0 .leaf, n := vs.length, z := [], elem, opn, es, str := false, dead := false }) hw h1 h2 h3 (.inl rfl) (fun _ => rfl) (by simp; omega) (fun ho => ?_) fun j v hj => ?_
  · rw [hrest ho]; simp [hl]
  · have hj' := cellAt_row hj
    obtain ⟨v', e1, e2⟩ := hv.get hj'
    refine ⟨v', ?_, e2⟩
    have : j < vs'.length := (List.getElem?_eq_some_iff.1 e1).1
    simp [List.getElem?_append_left this, e1]

theorem zeroC_some {t : TypeId} {z : List Value} (h : zeroC P t = some z) : ∃ i zv, P.info? t = some i ∧ i.zero = some zv ∧ closedV 3 zv = true ∧ cellsV zv = some z := by
  unfold zeroC zeroOf at h
  split at h
  · rename_i zv hz
    split at hz
    · rename_i i hi
      split at hz
      · rename_i z' hz'
        cases hcl : closedV 3 z' with
        | true => rw [hcl] at hz; cases hz; exact ⟨i, _, hi, hz', hcl, h⟩
        | false => rw [hcl] at hz; cases hz
      · cases hz
    · cases hz
  · cases h

theorem zeroOf_some {t : TypeId} {zv : Value} (hz : zeroOf P t = some zv) : (∀ w, (zeroValue t).run P w = .ok zv w) ∧ ∀ ρ, VR ρ zv zv := by
  unfold zeroOf at hz
  split at hz
  · rename_i i hi
    split at hz
    · rename_i z' hz'
      cases hcl : closedV 3 z' with
      | true => rw [hcl] at hz; cases hz; exact ⟨fun w => by simp [zeroValue, run_typeInfo' hi, hz'], fun ρ => closed_refl 3 _ hcl⟩
      | false => rw [hcl] at hz; cases hz
    · cases hz
  · cases hz

theorem zeroC_run {t : TypeId} {z : List Value} (h : zeroC P t = some z) : ∃ zv, (∀ w, (zeroValue t).run P w = .ok zv w) ∧ ∀ ρ, VRs ρ z zv.cells.toList := by
  obtain ⟨i, zv, hi, hz, hc, hv⟩ := zeroC_some h
  exact ⟨zv, fun w => by simp [zeroValue, run_typeInfo' hi, hz], fun ρ => cellsV_rel (closed_refl 3 zv hc) hv⟩

theorem map_arr {α β : Type} (f : α → β) (xs : Array α) : (xs.toList.map f).toArray = xs.map f := by apply Array.ext'; simp

/-! ### Operation by operation -/

/-- The claim on one operation. -/
def OpOk (P : Program) (B ro : Nat) (tm : T Value) (o : Oper) (s : St) (r : Res) : Prop :=
  ∀ (ρ : Ren) (w : World) (ac : Act), Rel B ro ρ s.heap.get w → TmR ρ tm ac.tmps → ro ≤ s.next → (∀ ν, s.next ≤ ν → ν < r.next s → ρ ν = none) →
    ResR P B ro ρ s w ((execOp ac.eval o).run P w) r

theorem ok_move {o : Oper} {x : Operand} {r : Res} (ho : o.op = .move x) (h : evalOp P ro tm o.op s = some r) : OpOk P B ro tm o s r := by
  intro ρ w ac hr ht hro hfr
  rw [ho] at h; simp only [evalOp] at h; cases h
  exact .same hr (by simp [execOp, ho]) (opv_rel ht x)

theorem ok_assign {o : Oper} {x : Operand} {r : Res} (ho : o.op = .assign x) (h : evalOp P ro tm o.op s = some r) : OpOk P B ro tm o s r := by
  intro ρ w ac hr ht hro hfr
  rw [ho] at h; simp only [evalOp] at h; cases h
  exact .same hr (by simp [execOp, ho]) (opv_rel ht x)

theorem ok_pick {o : Oper} {c a b : Operand} {r : Res} (ho : o.op = .pick c a b) (h : evalOp P ro tm o.op s = some r) : OpOk P B ro tm o s r := by
  intro ρ w ac hr ht hro hfr
  rw [ho] at h; simp only [evalOp] at h
  split at h
  · rename_i t hc
    cases h
    have h1 := opv_rel ht c
    rw [hc] at h1
    have h2 := h1.bool_inv
    refine .same hr (v' := if t then ac.eval a else ac.eval b) (by simp [execOp, ho, h2, asBool]) ?_
    cases t
    · exact opv_rel ht b
    · exact opv_rel ht a
  · cases h

theorem ok_alloc {o : Oper} {e : TypeId} {r : Res} (ho : o.op = .alloc e) (h : evalOp P ro tm o.op s = some r) : OpOk P B ro tm o s r := by
  intro ρ w ac hr ht hro hfr
  rw [ho] at h; simp only [evalOp] at h
  split at h
  · rename_i z hz
    rw [newRow_eq] at h; cases h
    obtain ⟨zv, hz1, hz2⟩ := zeroC_run hz
    have hf : ρ s.next = none := hfr _ (Nat.le_refl _) (by simp [Res.next])
    refine ⟨_, w.alloc (.cells zv.cells e), _, .inl ?_, Step.newRow hr hro hf (rest := []) (t := e) (by rw [List.append_nil, Array.toArray_toList]; rfl) rfl rfl rfl (hz2 ρ) (fun _ => rfl), .ptr (Ren.upd_same _ _ _)⟩
    simp [execOp, ho, Instr.alloc, hz1, newVar, Go.newRow]
  · cases h

theorem ok_box {o : Oper} {e : TypeId} {x : Operand} {r : Res} (ho : o.op = .box e x) (h : evalOp P ro tm o.op s = some r) : OpOk P B ro tm o s r := by
  intro ρ w ac hr ht hro hfr
  rw [ho] at h; simp only [evalOp] at h
  split at h
  · rename_i z hz
    rw [newRow_eq] at h; cases h
    have hz2 := cellsV_rel (opv_rel ht x) hz
    have hf : ρ s.next = none := hfr _ (Nat.le_refl _) (by simp [Res.next])
    refine ⟨_, w.alloc (.cells (ac.eval x).cells e), _, .inl ?_, Step.newRow hr hro hf (rest := []) (t := e) (by rw [List.append_nil, Array.toArray_toList]; rfl) rfl rfl rfl hz2 (fun _ => rfl), .ptr (Ren.upd_same _ _ _)⟩
    simp [execOp, ho, Instr.box, newVar, Go.newRow]
  · cases h

theorem ok_load {o : Oper} {t : TypeId} {x : Operand} {r : Res} (ho : o.op = .load t x) (h : evalOp P ro tm o.op s = some r) : OpOk P B ro tm o s r := by
  intro ρ w ac hr ht hro hfr
  rw [ho] at h; simp only [evalOp] at h
  split at h
  · rename_i a ha
    split at h
    · rename_i v hv
      cases h
      have h1 := opv_rel ht x
      rw [ha] at h1
      obtain ⟨hsp, i, hi, he⟩ := h1.ptr_inv
      obtain ⟨ab, ao, asp⟩ := a
      rw [he] at h1
      obtain ⟨v', r1, r2⟩ := ldVar_sim hr hv h1
      exact .same hr (v' := v') (by simp [execOp, ho, Instr.loadAt, he, Instr.sureAddr, r1]) r2
    · cases h
  · cases h

theorem ok_store {o : Oper} {t : TypeId} {x y : Operand} {r : Res} (ho : o.op = .store t x y) (h : evalOp P ro tm o.op s = some r) : OpOk P B ro tm o s r := by
  intro ρ w ac hr ht hro hfr
  rw [ho] at h; simp only [evalOp] at h
  split at h
  · rename_i a ha
    split at h
    · rename_i s1 hv
      cases h
      have h1 := opv_rel ht x
      rw [ha] at h1
      obtain ⟨hsp, i, hi, he⟩ := h1.ptr_inv
      obtain ⟨ab, ao, asp⟩ := a
      rw [he] at h1
      obtain ⟨w', r1, r2⟩ := stVar_sim hr hv h1 (opv_rel ht y)
      exact ⟨ρ, w', undef, .inr ⟨by simp [execOp, ho, Instr.storeAt, he, Instr.sureAddr, r1], rfl⟩, r2, VR.und ρ⟩
    · cases h
  · cases h

theorem ok_nilCheck {o : Oper} {x : Operand} {r : Res} (ho : o.op = .nilCheck x) (h : evalOp P ro tm o.op s = some r) : OpOk P B ro tm o s r := by
  intro ρ w ac hr ht hro hfr
  rw [ho] at h; simp only [evalOp] at h
  have h1 := opv_rel ht x
  split at h
  · rename_i a ha
    cases h
    rw [ha] at h1
    obtain ⟨hsp, i, hi, he⟩ := h1.ptr_inv
    exact .same hr (v' := ac.eval x) (by simp [execOp, ho, he]) h1
  · rename_i f a b ha
    cases h
    rw [ha] at h1
    obtain ⟨f', c', he, _⟩ := h1.func_inv
    exact .same hr (v' := ac.eval x) (by simp [execOp, ho, he]) h1
  · rename_i t v ha
    cases h
    rw [ha] at h1
    obtain ⟨v', he, _⟩ := h1.iface_inv
    exact .same hr (v' := ac.eval x) (by simp [execOp, ho, he]) h1
  · cases h

theorem ok_makeInterface {o : Oper} {t : TypeId} {x : Operand} {r : Res} (ho : o.op = .makeInterface t x) (h : evalOp P ro tm o.op s = some r) : OpOk P B ro tm o s r := by
  intro ρ w ac hr ht hro hfr
  rw [ho] at h; simp only [evalOp] at h
  have h1 := opv_rel ht x
  split at h
  · cases h
  · rename_i u hu hne
    cases h
    refine .same hr (v' := .iface t (ac.eval x)) ?_ (.iface t h1)
    simp only [execOp, ho, Instr.makeInterface, Sem.run_bind, run_und ‹_›, Result.andThen_ok]
    cases u <;> first | rfl | exact absurd rfl (hu _)
  · cases h

theorem vrs_ops (ht : TmR ρ tm ac.tmps) (l : List Operand) : VRs ρ (l.map (opv tm)) (l.map ac.eval) := L2.map_same fun x _ => opv_rel ht x

theorem ok_makeFunc {o : Oper} {fn : Fn} {f c : Array Operand} {r : Res} (ho : o.op = .makeFunc fn f c) (h : evalOp P ro tm o.op s = some r) : OpOk P B ro tm o s r := by
  intro ρ w ac hr ht hro hfr
  rw [ho] at h; simp only [evalOp] at h; cases h
  refine .same hr (v' := .func fn (f.toList.map ac.eval).toArray (c.toList.map ac.eval).toArray) ?_ (VR.func_of fn (vrs_ops ht _) (vrs_ops ht _))
  simp only [execOp, ho, Instr.makeFunc, map_arr]; rfl

theorem ok_extract {o : Oper} {x : Operand} {i : Nat} {r : Res} (ho : o.op = .extract x i) (h : evalOp P ro tm o.op s = some r) : OpOk P B ro tm o s r := by
  intro ρ w ac hr ht hro hfr
  rw [ho] at h; simp only [evalOp] at h
  have h1 := opv_rel ht x
  split at h
  · rename_i vs ha
    rw [ha] at h1
    obtain ⟨f', he, hv⟩ := h1.tuple_inv
    split at h
    · rename_i v hn
      cases h
      rw [nth_eq] at hn
      obtain ⟨v', e1, e2⟩ := hv.get hn
      refine .same hr (v' := v') ?_ e2
      have : f'[i]? = some v' := by simpa using e1
      simp [execOp, ho, Instr.extract, he, this]
    · cases h
  · cases h

theorem ok_unOp {o : Oper} {op : UnOp} {t : TypeId} {x : Operand} {r : Res} (ho : o.op = .unOp op t x) (h : evalOp P ro tm o.op s = some r) (hw : ∀ k n, wrapK k n = k.wrap n) : OpOk P B ro tm o s r := by
  intro ρ w ac hr ht hro hfr
  rw [ho] at h; simp only [evalOp] at h
  have h1 := opv_rel ht x
  split at h
  · rename_i v hv
    cases h
    unfold un at hv
    split at hv
    · rename_i k n ha
      cases hv
      rw [ha] at h1
      refine .same hr (v' := .int k (k.wrap (0 - n))) (by simp [execOp, ho, Op.unary, h1.int_inv, Op.intArith]) ?_
      rw [hw]; exact .int _ _
    · rename_i k n ha
      simp only [intBin] at hv
      cases hv
      rw [ha] at h1
      refine .same hr (v' := _) (by simp [execOp, ho, Op.unary, h1.int_inv, Op.intBits]) (.int _ _)
    · rename_i b ha
      cases hv
      rw [ha] at h1
      exact .same hr (v' := .bool !b) (by simp [execOp, ho, Op.unary, h1.bool_inv]) (.bool _)
    · cases hv
  · cases h

end
end Go.Ab
