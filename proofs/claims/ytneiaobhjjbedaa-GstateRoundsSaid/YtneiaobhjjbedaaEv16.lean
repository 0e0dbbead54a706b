/- A part of the proof that what the evaluator says of a piece of code, the model does: no condition but those that each theorem states. -/
import Derived.Test.YtneiaobhjjbedaaEv14
import Derived.Test.YtneiaobhjjbedaaEv15
namespace Go.Ab

section
variable {P : Program} {ro : Nat} {tm tm' : T Value}

theorem pairs_congr (ps : Array (Nat × Operand)) (h : ∀ x ∈ ps.toList.map (·.2), opv tm x = opv tm' x) :
    (ps.toList.map fun (i, x) => (i, opv tm x)) = (ps.toList.map fun (i, x) => (i, opv tm' x)) :=
  List.map_congr_left fun p hm => by
    obtain ⟨i, x⟩ := p
    simp only [h x (List.mem_map.2 ⟨(i, x), hm, rfl⟩)]

/-- An operation looks at its operands and at nothing else of the frame. -/
theorem evalOp_congr {o : Op} (h : ∀ x ∈ o.operands, opv tm x = opv tm' x) (s : St) : evalOp P ro tm o s = evalOp P ro tm' o s := by
  cases o <;> simp only [Op.operands] at h <;> simp only [evalOp]
  case build t ps => rw [pairs_congr ps fun x hx => h x (by simpa using hx)]
  case buildSlice t n ps => rw [pairs_congr ps fun x hx => h x (by simpa using hx)]
  case makeFunc fn first captured =>
    rw [List.map_congr_left (l := first.toList) fun x hx => h x (by simp [Array.mem_toList_iff.1 hx]), List.map_congr_left (l := captured.toList) fun x hx => h x (by simp [Array.mem_toList_iff.1 hx])]
  case call c =>
    have hargs : c.args.toList.map (opv tm) = c.args.toList.map (opv tm') := List.map_congr_left fun x hx => h x (by simp [Call.operands, Array.mem_toList_iff.1 hx])
    simp only [hargs]
    cases hc : c.callee with
    | value f => have hf : opv tm f = opv tm' f := h f (by simp [Call.operands, hc]); simp only [hf]
    | invoke r m => rfl
    | builtin b => rfl
  case defer c =>
    have hargs : c.args.toList.map (opv tm) = c.args.toList.map (opv tm') := List.map_congr_left fun x hx => h x (by simp [Call.operands, Array.mem_toList_iff.1 hx])
    simp only [hargs]
    cases hc : c.callee with
    | value f => have hf : opv tm f = opv tm' f := h f (by simp [Call.operands, hc]); simp only [hf]
    | invoke r m => rfl
    | builtin b => rfl
  case makeMap t r => cases r <;> simp_all
  case slice t x lo hi mx => cases lo <;> cases hi <;> cases mx <;> simp_all
  all_goals (first | rfl | (simp_all; done))

theorem opv_congr {ops : Array Oper} {o : Oper} (h : ∀ t ∈ o.looksAt ops, tmv tm t = tmv tm' t) : ∀ x ∈ o.op.operands, opv tm x = opv tm' x := by
  intro x hx
  cases x with
  | tmp t =>
    exact h t (List.mem_append_left _ (List.mem_filterMap.2 ⟨.tmp t, by simpa using hx, rfl⟩))
  | const v => rfl
  | global g => rfl
  | func f => rfl

theorem stepOp_congr {callF : CallE} {ops : Array Oper} {o : Oper} (h : ∀ t ∈ o.looksAt ops, tmv tm t = tmv tm' t) (s : St) : stepOp P ro callF tm o.op s = stepOp P ro callF tm' o.op s := by
  unfold stepOp
  rw [evalOp_congr (opv_congr h)]

theorem wantedA_congr {ops : Array Oper} {o : Oper} (h : ∀ t ∈ o.looksAt ops, tmv tm t = tmv tm' t) {b : Bool} (hw : wantedA ops.toList tm o = some b) : wantedA ops.toList tm' o = some b := by
  unfold wantedA at hw ⊢
  split at hw
  · rename_i hg; simpa [hg] using hw
  · rename_i j want hg
    split at hw
    · rename_i oj hoj
      split at hw
      · rename_i d hd
        rw [nth_eq, Array.getElem?_toList] at hoj
        have hm : d ∈ o.looksAt ops := by
          unfold Oper.looksAt
          rw [hg]
          simp [hoj, hd]
        have := h d hm
        unfold tmv at this
        cases h1 : tm.get d with
        | none =>
          rw [h1] at hw this
          cases h2 : tm'.get d with
          | none => exact hw
          | some v' => rw [h2] at this; simp only at this; subst this; exact hw
        | some v =>
          rw [h1] at hw this
          cases h2 : tm'.get d with
          | none => rw [h2] at this; simp only at this; subst this; exact hw
          | some v' => rw [h2] at this; simp only at this; subst this; exact hw
      · cases hw
    · cases hw

/-! ### What the sorts of operations come to -/


theorem bin_shift {s : St} {op : BinOp} {t : TypeId} {x y : Operand} {a b v : Value} (h1 : op ≠ .eql) (h2 : op ≠ .neq) (h : bin P ro s op t x y a b = some v) (s' : St) : bin P ro s' op t x y a b = some v := by
  unfold bin at h ⊢
  split at h <;> first | exact h | exact absurd rfl h1 | exact absurd rfl h2 | cases h

theorem conv_pure {s : St} {src dst : TypeId} {x : Value} {r : Res} (h : convOf P ro s src dst x = some r) (hc : clsOf P (.convert src dst (.const x)) = .pure) :
    ∃ v, r = .val v s ∧ ∀ s', convOf P ro s' src dst x = some (.val v s') := by
  unfold convOf at h ⊢
  simp only [clsOf] at hc
  cases hs : P.underlying src with
  | none => rw [hs] at h; cases h
  | some u =>
    cases hd : P.underlying dst with
    | none => rw [hs, hd] at h; cases h
    | some v =>
      rw [hs, hd] at h hc
      cases v <;> cases x <;> simp only at h hc ⊢ <;> first
        | (cases h; done)
        | (cases h; exact ⟨_, rfl, fun s' => by rfl⟩)
        | (cases u <;> simp at hc h ⊢ <;> done)

theorem builtin_max_eq {s : St} {ts : List TypeId} {args : List Value} : builtinOf P ro s .max ts args = match args with
    | x :: l => (match maxOf true x l with | some v => some (.val v s) | none => none)
    | [] => none := by cases ts <;> cases args <;> rfl
theorem builtin_min_eq {s : St} {ts : List TypeId} {args : List Value} : builtinOf P ro s .min ts args = match args with
    | x :: l => (match maxOf false x l with | some v => some (.val v s) | none => none)
    | [] => none := by cases ts <;> cases args <;> rfl
theorem builtin_len_eq {s : St} {ts : List TypeId} {args : List Value} : builtinOf P ro s .len ts args = match ts, args with
    | t :: _, x :: _ => (match lenB P s t x with | some v => some (.val v s) | none => none)
    | _, _ => none := by cases ts <;> cases args <;> rfl

/-- An operation that asks nothing of the heap. -/
theorem pure_shift {o : Op} {s : St} {r : Res} (hc : clsOf P o = .pure) (h : evalOp P ro tm o s = some r) : ∃ v, r = .val v s ∧ ∀ s', evalOp P ro tm o s' = some (.val v s') := by
  cases o
  case binOp op t x y u =>
    simp only [evalOp] at h ⊢
    split at h
    · rename_i v hv
      cases h
      refine ⟨v, rfl, fun s' => ?_⟩
      rw [bin_shift (by intro e; subst e; simp [clsOf] at hc) (by intro e; subst e; simp [clsOf] at hc) hv s']
    · cases h
  case convert src dst x =>
    simp only [evalOp] at h ⊢
    exact conv_pure h (by simpa [clsOf] using hc)
  case call c =>
    simp only [evalOp] at h ⊢
    simp only [clsOf] at hc
    cases hcal : c.callee with
    | value f => rw [hcal] at hc; simp at hc
    | invoke x m => rw [hcal] at hc; simp at hc
    | builtin b =>
      rw [hcal] at hc h
      simp only at h ⊢
      cases b <;> simp at hc
      · simp only [builtin_max_eq] at h ⊢
        split at h <;> first | (cases h; done) | skip
        all_goals (split at h <;> first | (cases h; done) | (cases h; exact ⟨_, rfl, fun s' => by simp_all⟩))
      · simp only [builtin_min_eq] at h ⊢
        split at h <;> first | (cases h; done) | skip
        all_goals (split at h <;> first | (cases h; done) | (cases h; exact ⟨_, rfl, fun s' => by simp_all⟩))
  all_goals (first | (simp [clsOf] at hc; done) | skip)
  all_goals simp only [evalOp, Bool.cond_eq_ite] at h ⊢
  all_goals (repeat' split at h)
  all_goals first
    | (cases h; done)
    | (cases h; exact ⟨_, rfl, fun s' => by simp_all⟩)
    | skip

theorem read_same {o : Op} {s : St} {r : Res} (hc : clsOf P o = .read) (h : evalOp P ro tm o s = some r) : ∃ v, r = .val v s := by
  cases o
  case convert src dst x =>
    simp only [evalOp] at h
    unfold convOf at h
    simp only [clsOf] at hc
    cases hs : P.underlying src with
    | none => rw [hs] at h; cases h
    | some u =>
      cases hd : P.underlying dst with
      | none => rw [hs, hd] at h; cases h
      | some v =>
        rw [hs, hd] at h hc
        cases v <;> cases u <;> simp only [reduceCtorEq] at hc
        cases hx : opv tm x <;> simp only [hx, reduceCtorEq] at h <;> first
          | (cases h; done)
          | (cases h; exact ⟨_, rfl⟩)
          | skip
        all_goals (repeat' split at h)
        all_goals first
          | (cases h; done)
          | (cases h; exact ⟨_, rfl⟩)
          | skip
  case call c =>
    simp only [evalOp] at h
    simp only [clsOf] at hc
    cases hcal : c.callee with
    | value f => rw [hcal] at hc; simp at hc
    | invoke x m => rw [hcal] at hc; simp at hc
    | builtin b =>
      rw [hcal] at hc h
      simp only at h
      cases b <;> simp at hc
      simp only [builtin_len_eq] at h
      split at h <;> first | (cases h; done) | skip
      all_goals (split at h <;> first | (cases h; done) | (cases h; exact ⟨_, rfl⟩))
  all_goals (first | (simp [clsOf] at hc; done) | skip)
  all_goals simp only [evalOp] at h
  all_goals (repeat' split at h)
  all_goals first
    | (cases h; done)
    | (cases h; exact ⟨_, rfl⟩)
    | skip

theorem make_shift {o : Op} {s : St} {r : Res} (hc : clsOf P o = .make) (h : evalOp P ro tm o s = some r) :
    ∃ v ob, r = .val v ⟨s.heap.set s.next ob, s.next + 1⟩ ∧ ∀ h' : T AObj, evalOp P ro tm o ⟨h', s.next⟩ = some (.val v ⟨h'.set s.next ob, s.next + 1⟩) := by
  cases o
  case convert src dst x =>
    simp only [evalOp] at h ⊢
    unfold convOf at h ⊢
    simp only [clsOf] at hc
    cases hs : P.underlying src with
    | none => rw [hs] at h; cases h
    | some u =>
      cases hd : P.underlying dst with
      | none => rw [hs, hd] at h; cases h
      | some v =>
        rw [hs, hd] at h hc
        cases v <;> first | (cases hc; done) | (cases u <;> cases hc; done) | skip
        all_goals (cases hx : opv tm x <;> simp only [hx, reduceCtorEq] at h ⊢ <;> first | (cases h; done) | skip)
        all_goals (first | (cases u <;> simp at hc h <;> done) | skip)
        all_goals (split at h <;> first | (cases h; done) | skip)
        all_goals (simp only [T.setsK_eq, newObjK_eq] at h ⊢; cases h; exact ⟨_, _, rfl, fun h' => rfl⟩)
  case binOp op _ _ _ _ => cases op <;> simp [clsOf] at hc
  all_goals (first | (simp [clsOf] at hc; done) | skip)
  case call c =>
    simp only [clsOf] at hc
    cases hcal : c.callee with
    | value f => rw [hcal] at hc; simp at hc
    | invoke x m => rw [hcal] at hc; simp at hc
    | builtin b => rw [hcal] at hc; cases b <;> simp at hc
  all_goals simp only [evalOp, Bool.cond_eq_ite] at h ⊢
  all_goals (repeat' split at h)
  all_goals first
    | (cases h; done)
    | skip
  all_goals (simp only [newRow, T.setsK_eq, newObjK_eq] at h ⊢; cases h; exact ⟨_, _, rfl, fun h' => by simp_all⟩)

end
end Go.Ab
