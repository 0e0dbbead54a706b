/- A part of the proof that what the evaluator says of a piece of code, the model does: no condition but those that each theorem states. -/
import Derived.Test.YtneiaobhjjbedaaEv17
namespace Go.Ab

/-! ### The slots of a drawn region -/

noncomputable def setO (tm : T Value) (dst : Option Tmp) (v : Value) : T Value := match dst with | some d => tm.set d v | none => tm

noncomputable def putT (tm : T Value) (r : Rec) : T Value := setO tm r.o.dst r.v

noncomputable def tmD (D : Nat → Bool) (tm : T Value) : List Rec → T Value
  | [] => tm
  | r :: l => tmD D (if D r.i then putT tm r else tm) l

noncomputable abbrev tmAll (tm : T Value) (l : List Rec) : T Value := tmD (fun _ => true) tm l

theorem putT_ne {tm : T Value} {r : Rec} {x : Nat} (h : r.o.dst ≠ some x) : (putT tm r).get x = tm.get x := by
  unfold putT setO
  split
  · rename_i d hd
    rw [T.get_set, if_neg]
    intro e; subst e; exact h hd
  · rfl

theorem putT_eq {tm : T Value} {r : Rec} {x : Nat} (h : r.o.dst = some x) : (putT tm r).get x = some r.v := by
  unfold putT setO
  rw [h]
  simp only [T.get_set, if_true]

theorem tmD_skip {D : Nat → Bool} {x : Nat} : ∀ (l : List Rec) (tm : T Value), (∀ r ∈ l, D r.i = true → r.o.dst ≠ some x) → (tmD D tm l).get x = tm.get x
  | [], _, _ => rfl
  | r :: l, tm, h => by
    simp only [tmD]
    rw [tmD_skip l _ fun r' hr' => h r' (List.mem_cons_of_mem _ hr')]
    split
    · rename_i hd; exact putT_ne (h r (by simp) hd)
    · rfl

theorem tmD_same {D : Nat → Bool} {x : Nat} : ∀ (l : List Rec) (tm tm' : T Value), tm.get x = tm'.get x → (∀ r ∈ l, D r.i = false → r.o.dst ≠ some x) → (tmD D tm l).get x = (tmAll tm' l).get x
  | [], _, _, h, _ => h
  | r :: l, tm, tm', h, hd => by
    simp only [tmD, tmAll]
    refine tmD_same l _ _ ?_ fun r' hr' => hd r' (List.mem_cons_of_mem _ hr')
    simp only [if_true]
    cases hD : D r.i with
    | true =>
      simp only [if_true]
      by_cases hx : r.o.dst = some x
      · rw [putT_eq hx, putT_eq hx]
      · rw [putT_ne hx, putT_ne hx, h]
    | false =>
      simp only [Bool.false_eq_true, if_false]
      rw [putT_ne (hd r (by simp) hD), h]

theorem tmD_base {D D' : Nat → Bool} {x : Nat} : ∀ (l : List Rec) (tm tm' : T Value), tm.get x = tm'.get x → (∀ r ∈ l, D r.i = D' r.i) → (tmD D tm l).get x = (tmD D' tm' l).get x
  | [], _, _, h, _ => h
  | r :: l, tm, tm', h, hd => by
    simp only [tmD]
    refine tmD_base l _ _ ?_ fun r' hr' => hd r' (List.mem_cons_of_mem _ hr')
    rw [← hd r (by simp)]
    cases hD : D r.i with
    | true =>
      simp only [if_true]
      by_cases hx : r.o.dst = some x
      · rw [putT_eq hx, putT_eq hx]
      · rw [putT_ne hx, putT_ne hx, h]
    | false => simpa using h

theorem tmD_app {D : Nat → Bool} : ∀ (l m : List Rec) (tm : T Value), tmD D tm (l ++ m) = tmD D (tmD D tm l) m
  | [], _, _ => rfl
  | r :: l, m, tm => by simp only [List.cons_append, tmD]; exact tmD_app l m _

theorem tmD_eq {D D' : Nat → Bool} : ∀ (l : List Rec) (tm : T Value), (∀ r ∈ l, D r.i = D' r.i) → tmD D tm l = tmD D' tm l
  | [], _, _ => rfl
  | r :: l, tm, hd => by
    simp only [tmD]
    rw [hd r (by simp), tmD_eq l _ fun r' hr' => hd r' (List.mem_cons_of_mem _ hr')]

theorem tmD_put {D D' : Nat → Bool} {r : Rec} {x : Nat} (l : List Rec) (tm : T Value) (hd : ∀ r' ∈ l, D' r'.i = D r'.i) (ha : ∀ r' ∈ l, D r'.i = true → ∀ d, r.o.dst = some d → r'.o.dst ≠ some d) :
    (tmD D' (putT tm r) l).get x = (putT (tmD D tm l) r).get x := by
  by_cases hx : r.o.dst = some x
  · rw [putT_eq hx, tmD_skip l _ fun r' hr' hD => ha r' hr' (by rw [← hd r' hr']; exact hD) x hx, putT_eq hx]
  · rw [putT_ne hx]
    exact tmD_base l _ _ (putT_ne hx) hd

/-! ### The note of one order -/

def stA (log : List Rec) (s2 : St) (q : Nat) : St := match log[q]? with | some r => r.s | none => s2

structure RecOk (P : Program) (ro : Nat) (callF : CallE) (all : List Oper) (r : Rec) : Prop where
  ok : (r.ran = true ∧ wantedA all r.tm r.o = some true ∧ stepOp P ro callF r.tm r.o.op r.s = some (.inl (.ok r.v r.s'))) ∨
    (r.ran = false ∧ wantedA all r.tm r.o = some false ∧ r.v = und ∧ r.s' = r.s)

structure LogOk (P : Program) (ro : Nat) (callF : CallE) (nt : Nat) (all : List Oper) (l : List (Nat × Oper)) (a : AAct) (s : St) (log : List Rec) (a2 : AAct) (s2 : St) : Prop where
  len : log.length = l.length
  op : ∀ (q : Nat) (r : Rec), log[q]? = some r → l[q]? = some (r.i, r.o)
  tm : ∀ (q : Nat) (r : Rec), log[q]? = some r → r.tm = tmAll a.tm (log.take q)
  s' : ∀ (q : Nat) (r : Rec), log[q]? = some r → r.s' = stA log s2 (q + 1)
  ok : ∀ r ∈ log, RecOk P ro callF all r
  dst : ∀ r ∈ log, ∀ d, r.o.dst = some d → d < nt
  first : stA log s2 0 = s
  last : a2.tm = tmAll a.tm log
  defers : a2.defers = a.defers

theorem LogOk.cons {P : Program} {ro : Nat} {callF : CallE} {nt : Nat} {all : List Oper} {l : List (Nat × Oper)} {a a' a2 : AAct} {s s2 : St} {log : List Rec} {r : Rec} (hr : RecOk P ro callF all r)
    (htm : r.tm = a.tm) (hs : r.s = s) (hd : ∀ d, r.o.dst = some d → d < nt) (ha : a'.tm = putT a.tm r) (hdf : a'.defers = a.defers) (h : LogOk P ro callF nt all l a' r.s' log a2 s2) :
    LogOk P ro callF nt all ((r.i, r.o) :: l) a s (r :: log) a2 s2 where
  len := by simp [h.len]
  op := fun q r' hq => by
    cases q with
    | zero => simp at hq; subst hq; rfl
    | succ q => simp at hq ⊢; exact h.op q r' hq
  tm := fun q r' hq => by
    cases q with
    | zero => simp at hq; subst hq; exact htm
    | succ q =>
      simp at hq
      rw [h.tm q r' hq, List.take_succ_cons]
      simp only [tmAll, tmD, if_true, ha]
  s' := fun q r' hq => by
    cases q with
    | zero =>
      simp at hq; subst hq
      have := h.first
      unfold stA at this ⊢
      simpa using this.symm
    | succ q =>
      simp at hq
      rw [h.s' q r' hq]
      unfold stA
      simp
  ok := fun r' hr' => by
    rcases List.mem_cons.1 hr' with rfl | hr'
    · exact hr
    · exact h.ok r' hr'
  dst := fun r' hr' => by
    rcases List.mem_cons.1 hr' with rfl | hr'
    · exact hd
    · exact h.dst r' hr'
  first := by simp [stA, hs]
  last := by rw [h.last]; simp only [tmAll, tmD, if_true, ha]
  defers := h.defers.trans hdf

theorem putK_some2 {R : Type} {nt : Nat} {a : AAct} {dst : Option Tmp} {v : Value} {k : AAct → Option R} {r : R} (h : putK nt a dst v k = some r) :
    (∀ d, dst = some d → d < nt) ∧ ∃ a', k a' = some r ∧ a'.tm = setO a.tm dst v ∧ a'.defers = a.defers := by
  unfold putK at h
  cases dst with
  | none => exact ⟨(fun d e => by cases e), a, h, rfl, rfl⟩
  | some d =>
    simp only at h
    cases hb : Nat.blt d nt with
    | false => rw [hb] at h; cases h
    | true =>
      rw [hb] at h
      simp only [cond_true, T.setK_set] at h
      exact ⟨fun d' e => by cases e; exact Nat.blt_eq.mp hb, _, h, rfl, rfl⟩

theorem draw_log {P : Program} {ro : Nat} {callF : CallE} {nt : Nat} {all : List Oper} : ∀ (l : List (Nat × Oper)) (a : AAct) (s : St) (a2 : AAct) (s2 : St) (log : List Rec),
    evalDraw P ro callF nt all l a s = some (a2, s2, log) → LogOk P ro callF nt all l a s log a2 s2
  | [], a, s, a2, s2, log, h => by
    simp only [evalDraw] at h; cases h
    exact { len := rfl, op := (fun q r e => by simp at e), tm := (fun q r e => by simp at e), s' := (fun q r e => by simp at e), ok := (fun r e => by simp at e), dst := (fun r e => by simp at e), first := rfl, last := rfl, defers := rfl }
  | (i, o) :: l, a, s, a2, s2, log, h => by
    simp only [evalDraw] at h
    split at h
    · cases h
    · rename_i hw
      split at h
      · rename_i v s' hs
        obtain ⟨hd, a', hk, ht, hdf⟩ := putK_some2 h
        split at hk
        · rename_i a3 s3 log3 hrec
          cases hk
          have ih := draw_log l a' s' _ _ _ hrec
          exact LogOk.cons (r := ⟨i, o, a.tm, s, s', v, true⟩) ⟨.inl ⟨rfl, hw, hs⟩⟩ rfl rfl hd ht hdf ih
        · cases hk
      · cases h
    · rename_i hw
      obtain ⟨hd, a', hk, ht, hdf⟩ := putK_some2 h
      split at hk
      · rename_i a3 s3 log3 hrec
        cases hk
        have ih := draw_log l a' s _ _ _ hrec
        exact LogOk.cons (r := ⟨i, o, a.tm, s, s, und, false⟩) ⟨.inr ⟨rfl, hw, rfl, rfl⟩⟩ rfl rfl hd ht hdf ih
      · cases hk

section
variable {P : Program} {B ro : Nat} {callF : CallE} {nt : Nat} {ops : Array Oper} {a a2 : AAct} {s s2 : St} {log : List Rec}

theorem stepOp_val {tm : T Value} {o : Op} {s s' s'' : St} {v v' : Value} (h : stepOp P ro callF tm o s = some (.inl (.ok v s'))) (he : evalOp P ro tm o s = some (.val v' s'')) : v' = v ∧ s'' = s' := by
  unfold stepOp at h
  rw [he] at h
  simp only at h
  cases hb : Nat.ble s.next s''.next with
  | false => rw [hb] at h; cases h
  | true => rw [hb] at h; cases h; exact ⟨rfl, rfl⟩

theorem stepOp_some {tm : T Value} {o : Op} {s : St} {x : Sum Ret (Deferred × St)} (h : stepOp P ro callF tm o s = some x) : ∃ r, evalOp P ro tm o s = some r := by
  unfold stepOp at h
  cases he : evalOp P ro tm o s with
  | none => rw [he] at h; cases h
  | some r => exact ⟨r, rfl⟩

theorem stepOp_of {tm : T Value} {o : Op} {s s' : St} {v : Value} (he : evalOp P ro tm o s = some (.val v s')) (hle : s.next ≤ s'.next) : stepOp P ro callF tm o s = some (.inl (.ok v s')) := by
  unfold stepOp
  rw [he]
  simp only [Nat.ble_eq_true_of_le hle, cond_true]

/-- The sorts of notes. -/
inductive Kind (P : Program) (ro : Nat) (r : Rec) : Prop
  | skip (h : r.ran = false) (hs : r.s' = r.s)
  | pure (h : r.ran = true) (hc : clsOf P r.o.op = .pure) (hs : r.s' = r.s) (he : ∀ s', evalOp P ro r.tm r.o.op s' = some (.val r.v s'))
  | read (h : r.ran = true) (hc : clsOf P r.o.op = .read) (hs : r.s' = r.s) (he : evalOp P ro r.tm r.o.op r.s = some (.val r.v r.s))
  | make (h : r.ran = true) (hc : isMakeO P r.o = true) (ob : AObj) (hs : r.s' = ⟨r.s.heap.set r.s.next ob, r.s.next + 1⟩)
      (he : ∀ h' : T AObj, evalOp P ro r.tm r.o.op ⟨h', r.s.next⟩ = some (.val r.v ⟨h'.set r.s.next ob, r.s.next + 1⟩))
  | act (h : r.ran = true) (hc : isAct P r = true) (ho : isActO P r.o = true)

theorem RecOk.kind {all : List Oper} {r : Rec} (h : RecOk P ro callF all r) : Kind P ro r := by
  rcases h.ok with ⟨h1, h2, h3⟩ | ⟨h1, h2, h3, h4⟩
  · obtain ⟨x, hx⟩ := stepOp_some h3
    cases hc : clsOf P r.o.op with
    | pure =>
      obtain ⟨v, e1, e2⟩ := pure_shift hc hx
      subst e1
      obtain ⟨rfl, e3⟩ := stepOp_val h3 hx
      exact .pure h1 hc e3.symm e2
    | read =>
      obtain ⟨v, e1⟩ := read_same hc hx
      subst e1
      obtain ⟨rfl, e3⟩ := stepOp_val h3 hx
      exact .read h1 hc e3.symm hx
    | make =>
      obtain ⟨v, ob, e1, e2⟩ := make_shift hc hx
      subst e1
      obtain ⟨rfl, e3⟩ := stepOp_val h3 hx
      exact .make h1 (by simp [isMakeO, hc]) ob e3.symm e2
    | act => exact .act h1 (by simp [isAct, hc, h1]) (by simp [isActO, hc])
  · exact .skip h1 h4

theorem Kind.still {r : Rec} (h : Kind P ro r) (hn : isAct P r = false) : r.s' = r.s ∨ ∃ ob, r.s' = ⟨r.s.heap.set r.s.next ob, r.s.next + 1⟩ := by
  cases h with
  | skip _ hs => exact .inl hs
  | pure _ _ hs _ => exact .inl hs
  | read _ _ hs _ => exact .inl hs
  | make _ _ ob hs _ => exact .inr ⟨ob, hs⟩
  | act _ hc _ => rw [hc] at hn; cases hn

theorem isAct_ran {r : Rec} (h : isAct P r = true) : r.ran = true ∧ isActO P r.o = true := by
  unfold isAct at h
  unfold isActO
  split at h <;> simp_all

end
end Go.Ab
