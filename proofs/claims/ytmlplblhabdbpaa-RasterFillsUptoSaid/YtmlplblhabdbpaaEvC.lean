/- A function without parameters of which the evaluator says true returns true in the model from every world and leaves all old memory alone: the last part. -/
import Derived.Test.YtmlplblhabdbpaaEvB
import Derived.KernelRfl
namespace Go.Ab

/-! ### The slots of a drawn region -/

noncomputable def setO (tm : T Value) (dst : Option Tmp) (v : Value) : T Value := match dst with | some d => tm.set d v | none => tm

noncomputable def putT (tm : T Value) (r : Rec) : T Value := setO tm r.o.dst r.v

noncomputable def tmD (D : Nat → Bool) (tm : T Value) : List Rec → T Value
  | [] => tm
  | r :: l => tmD D (if D r.i then putT tm r else tm) l

noncomputable abbrev tmAll (tm : T Value) (l : List Rec) : T Value := tmD (fun _ => true) tm l

theorem putT_ne {tm : T Value} {r : Rec} {x : Nat} (h : r.o.dst ≠ some x) : (putT tm r).get x = tm.get x := by
  unfold putT setO
  split
  · rename_i d hd
    rw [T.get_set, if_neg]
    intro e; subst e; exact h hd
  · rfl

theorem putT_eq {tm : T Value} {r : Rec} {x : Nat} (h : r.o.dst = some x) : (putT tm r).get x = some r.v := by
  unfold putT setO
  rw [h]
  simp only [T.get_set, if_true]

theorem tmD_skip {D : Nat → Bool} {x : Nat} : ∀ (l : List Rec) (tm : T Value), (∀ r ∈ l, D r.i = true → r.o.dst ≠ some x) → (tmD D tm l).get x = tm.get x
  | [], _, _ => rfl
  | r :: l, tm, h => by
    simp only [tmD]
    rw [tmD_skip l _ fun r' hr' => h r' (List.mem_cons_of_mem _ hr')]
    split
    · rename_i hd; exact putT_ne (h r (by simp) hd)
    · rfl

theorem tmD_same {D : Nat → Bool} {x : Nat} : ∀ (l : List Rec) (tm tm' : T Value), tm.get x = tm'.get x → (∀ r ∈ l, D r.i = false → r.o.dst ≠ some x) → (tmD D tm l).get x = (tmAll tm' l).get x
  | [], _, _, h, _ => h
  | r :: l, tm, tm', h, hd => by
    simp only [tmD, tmAll]
    refine tmD_same l _ _ ?_ fun r' hr' => hd r' (List.mem_cons_of_mem _ hr')
    simp only [if_true]
    cases hD : D r.i with
    | true =>
      simp only [if_true]
      by_cases hx : r.o.dst = some x
      · rw [putT_eq hx, putT_eq hx]
      · rw [putT_ne hx, putT_ne hx, h]
    | false =>
      simp only [Bool.false_eq_true, if_false]
      rw [putT_ne (hd r (by simp) hD), h]

theorem tmD_base {D D' : Nat → Bool} {x : Nat} : ∀ (l : List Rec) (tm tm' : T Value), tm.get x = tm'.get x → (∀ r ∈ l, D r.i = D' r.i) → (tmD D tm l).get x = (tmD D' tm' l).get x
  | [], _, _, h, _ => h
  | r :: l, tm, tm', h, hd => by
    simp only [tmD]
    refine tmD_base l _ _ ?_ fun r' hr' => hd r' (List.mem_cons_of_mem _ hr')
    rw [← hd r (by simp)]
    cases hD : D r.i with
    | true =>
      simp only [if_true]
      by_cases hx : r.o.dst = some x
      · rw [putT_eq hx, putT_eq hx]
      · rw [putT_ne hx, putT_ne hx, h]
    | false => simpa using h

theorem tmD_app {D : Nat → Bool} : ∀ (l m : List Rec) (tm : T Value), tmD D tm (l ++ m) = tmD D (tmD D tm l) m
  | [], _, _ => rfl
  | r :: l, m, tm => by simp only [List.cons_append, tmD]; exact tmD_app l m _

theorem tmD_eq {D D' : Nat → Bool} : ∀ (l : List Rec) (tm : T Value), (∀ r ∈ l, D r.i = D' r.i) → tmD D tm l = tmD D' tm l
  | [], _, _ => rfl
  | r :: l, tm, hd => by
    simp only [tmD]
    rw [hd r (by simp), tmD_eq l _ fun r' hr' => hd r' (List.mem_cons_of_mem _ hr')]

theorem tmD_put {D D' : Nat → Bool} {r : Rec} {x : Nat} (l : List Rec) (tm : T Value) (hd : ∀ r' ∈ l, D' r'.i = D r'.i) (ha : ∀ r' ∈ l, D r'.i = true → ∀ d, r.o.dst = some d → r'.o.dst ≠ some d) :
    (tmD D' (putT tm r) l).get x = (putT (tmD D tm l) r).get x := by
  by_cases hx : r.o.dst = some x
  · rw [putT_eq hx, tmD_skip l _ fun r' hr' hD => ha r' hr' (by rw [← hd r' hr']; exact hD) x hx, putT_eq hx]
  · rw [putT_ne hx]
    exact tmD_base l _ _ (putT_ne hx) hd

/-! ### The note of one order -/

def stA (log : List Rec) (s2 : St) (q : Nat) : St := match log[q]? with | some r => r.s | none => s2

structure RecOk (P : Program) (ro : Nat) (callF : CallE) (all : List Oper) (r : Rec) : Prop where
  ok : (r.ran = true ∧ wantedA all r.tm r.o = some true ∧ stepOp P ro callF r.tm r.o.op r.s = some (.inl (.ok r.v r.s'))) ∨
    (r.ran = false ∧ wantedA all r.tm r.o = some false ∧ r.v = und ∧ r.s' = r.s)

structure LogOk (P : Program) (ro : Nat) (callF : CallE) (nt : Nat) (all : List Oper) (l : List (Nat × Oper)) (a : AAct) (s : St) (log : List Rec) (a2 : AAct) (s2 : St) : Prop where
  len : log.length = l.length
  op : ∀ (q : Nat) (r : Rec), log[q]? = some r → l[q]? = some (r.i, r.o)
  tm : ∀ (q : Nat) (r : Rec), log[q]? = some r → r.tm = tmAll a.tm (log.take q)
  s' : ∀ (q : Nat) (r : Rec), log[q]? = some r → r.s' = stA log s2 (q + 1)
  ok : ∀ r ∈ log, RecOk P ro callF all r
  dst : ∀ r ∈ log, ∀ d, r.o.dst = some d → d < nt
  first : stA log s2 0 = s
  last : a2.tm = tmAll a.tm log
  defers : a2.defers = a.defers

theorem LogOk.cons {P : Program} {ro : Nat} {callF : CallE} {nt : Nat} {all : List Oper} {l : List (Nat × Oper)} {a a' a2 : AAct} {s s2 : St} {log : List Rec} {r : Rec} (hr : RecOk P ro callF all r)
    (htm : r.tm = a.tm) (hs : r.s = s) (hd : ∀ d, r.o.dst = some d → d < nt) (ha : a'.tm = putT a.tm r) (hdf : a'.defers = a.defers) (h : LogOk P ro callF nt all l a' r.s' log a2 s2) :
    LogOk P ro callF nt all ((r.i, r.o) :: l) a s (r :: log) a2 s2 where
  len := by simp [h.len]
  op := fun q r' hq => by
    cases q with
    | zero => simp at hq; subst hq; rfl
    | succ q => simp at hq ⊢; exact h.op q r' hq
  tm := fun q r' hq => by
    cases q with
    | zero => simp at hq; subst hq; exact htm
    | succ q =>
      simp at hq
      rw [h.tm q r' hq, List.take_succ_cons]
      simp only [tmAll, tmD, if_true, ha]
  s' := fun q r' hq => by
    cases q with
    | zero =>
      simp at hq; subst hq
      have := h.first
      unfold stA at this ⊢
      simpa using this.symm
    | succ q =>
      simp at hq
      rw [h.s' q r' hq]
      unfold stA
      simp
  ok := fun r' hr' => by
    rcases List.mem_cons.1 hr' with rfl | hr'
    · exact hr
    · exact h.ok r' hr'
  dst := fun r' hr' => by
    rcases List.mem_cons.1 hr' with rfl | hr'
    · exact hd
    · exact h.dst r' hr'
  first := by simp [stA, hs]
  last := by rw [h.last]; simp only [tmAll, tmD, if_true, ha]
  defers := h.defers.trans hdf

theorem putK_some2 {R : Type} {nt : Nat} {a : AAct} {dst : Option Tmp} {v : Value} {k : AAct → Option R} {r : R} (h : putK nt a dst v k = some r) :
    (∀ d, dst = some d → d < nt) ∧ ∃ a', k a' = some r ∧ a'.tm = setO a.tm dst v ∧ a'.defers = a.defers := by
  unfold putK at h
  cases dst with
  | none => exact ⟨(fun d e => by cases e), a, h, rfl, rfl⟩
  | some d =>
    simp only at h
    cases hb : Nat.blt d nt with
    | false => rw [hb] at h; cases h
    | true =>
      rw [hb] at h
      simp only [cond_true, T.setK_set] at h
      exact ⟨fun d' e => by cases e; exact Nat.blt_eq.mp hb, _, h, rfl, rfl⟩

theorem draw_log {P : Program} {ro : Nat} {callF : CallE} {nt : Nat} {all : List Oper} : ∀ (l : List (Nat × Oper)) (a : AAct) (s : St) (a2 : AAct) (s2 : St) (log : List Rec),
    evalDraw P ro callF nt all l a s = some (a2, s2, log) → LogOk P ro callF nt all l a s log a2 s2
  | [], a, s, a2, s2, log, h => by
    simp only [evalDraw] at h; cases h
    exact { len := rfl, op := (fun q r e => by simp at e), tm := (fun q r e => by simp at e), s' := (fun q r e => by simp at e), ok := (fun r e => by simp at e), dst := (fun r e => by simp at e), first := rfl, last := rfl, defers := rfl }
  | (i, o) :: l, a, s, a2, s2, log, h => by
    simp only [evalDraw] at h
    split at h
    · cases h
    · rename_i hw
      split at h
      · rename_i v s' hs
        obtain ⟨hd, a', hk, ht, hdf⟩ := putK_some2 h
        split at hk
        · rename_i a3 s3 log3 hrec
          cases hk
          have ih := draw_log l a' s' _ _ _ hrec
          exact LogOk.cons (r := ⟨i, o, a.tm, s, s', v, true⟩) ⟨.inl ⟨rfl, hw, hs⟩⟩ rfl rfl hd ht hdf ih
        · cases hk
      · cases h
    · rename_i hw
      obtain ⟨hd, a', hk, ht, hdf⟩ := putK_some2 h
      split at hk
      · rename_i a3 s3 log3 hrec
        cases hk
        have ih := draw_log l a' s _ _ _ hrec
        exact LogOk.cons (r := ⟨i, o, a.tm, s, s, und, false⟩) ⟨.inr ⟨rfl, hw, rfl, rfl⟩⟩ rfl rfl hd ht hdf ih
      · cases hk

section
variable {P : Program} {B ro : Nat} {callF : CallE} {nt : Nat} {ops : Array Oper} {a a2 : AAct} {s s2 : St} {log : List Rec}

theorem stepOp_val {tm : T Value} {o : Op} {s s' s'' : St} {v v' : Value} (h : stepOp P ro callF tm o s = some (.inl (.ok v s'))) (he : evalOp P ro tm o s = some (.val v' s'')) : v' = v ∧ s'' = s' := by
  unfold stepOp at h
  rw [he] at h
  simp only at h
  cases hb : Nat.ble s.next s''.next with
  | false => rw [hb] at h; cases h
  | true => rw [hb] at h; cases h; exact ⟨rfl, rfl⟩

theorem stepOp_some {tm : T Value} {o : Op} {s : St} {x : Sum Ret (Deferred × St)} (h : stepOp P ro callF tm o s = some x) : ∃ r, evalOp P ro tm o s = some r := by
  unfold stepOp at h
  cases he : evalOp P ro tm o s with
  | none => rw [he] at h; cases h
  | some r => exact ⟨r, rfl⟩

theorem stepOp_of {tm : T Value} {o : Op} {s s' : St} {v : Value} (he : evalOp P ro tm o s = some (.val v s')) (hle : s.next ≤ s'.next) : stepOp P ro callF tm o s = some (.inl (.ok v s')) := by
  unfold stepOp
  rw [he]
  simp only [Nat.ble_eq_true_of_le hle, cond_true]

/-- The sorts of notes. -/
inductive Kind (P : Program) (ro : Nat) (r : Rec) : Prop
  | skip (h : r.ran = false) (hs : r.s' = r.s)
  | pure (h : r.ran = true) (hc : clsOf P r.o.op = .pure) (hs : r.s' = r.s) (he : ∀ s', evalOp P ro r.tm r.o.op s' = some (.val r.v s'))
  | read (h : r.ran = true) (hc : clsOf P r.o.op = .read) (hs : r.s' = r.s) (he : evalOp P ro r.tm r.o.op r.s = some (.val r.v r.s))
  | make (h : r.ran = true) (hc : isMakeO P r.o = true) (ob : AObj) (hs : r.s' = ⟨r.s.heap.set r.s.next ob, r.s.next + 1⟩)
      (he : ∀ h' : T AObj, evalOp P ro r.tm r.o.op ⟨h', r.s.next⟩ = some (.val r.v ⟨h'.set r.s.next ob, r.s.next + 1⟩))
  | act (h : r.ran = true) (hc : isAct P r = true) (ho : isActO P r.o = true)

theorem RecOk.kind {all : List Oper} {r : Rec} (h : RecOk P ro callF all r) : Kind P ro r := by
  rcases h.ok with ⟨h1, h2, h3⟩ | ⟨h1, h2, h3, h4⟩
  · obtain ⟨x, hx⟩ := stepOp_some h3
    cases hc : clsOf P r.o.op with
    | pure =>
      obtain ⟨v, e1, e2⟩ := pure_shift hc hx
      subst e1
      obtain ⟨rfl, e3⟩ := stepOp_val h3 hx
      exact .pure h1 hc e3.symm e2
    | read =>
      obtain ⟨v, e1⟩ := read_same hc hx
      subst e1
      obtain ⟨rfl, e3⟩ := stepOp_val h3 hx
      exact .read h1 hc e3.symm hx
    | make =>
      obtain ⟨v, ob, e1, e2⟩ := make_shift hc hx
      subst e1
      obtain ⟨rfl, e3⟩ := stepOp_val h3 hx
      exact .make h1 (by simp [isMakeO, hc]) ob e3.symm e2
    | act => exact .act h1 (by simp [isAct, hc, h1]) (by simp [isActO, hc])
  · exact .skip h1 h4

theorem Kind.still {r : Rec} (h : Kind P ro r) (hn : isAct P r = false) : r.s' = r.s ∨ ∃ ob, r.s' = ⟨r.s.heap.set r.s.next ob, r.s.next + 1⟩ := by
  cases h with
  | skip _ hs => exact .inl hs
  | pure _ _ hs _ => exact .inl hs
  | read _ _ hs _ => exact .inl hs
  | make _ _ ob hs _ => exact .inr ⟨ob, hs⟩
  | act _ hc _ => rw [hc] at hn; cases hn

theorem isAct_ran {r : Rec} (h : isAct P r = true) : r.ran = true ∧ isActO P r.o = true := by
  unfold isAct at h
  unfold isActO
  split at h <;> simp_all

end
end Go.Ab

namespace Go.Ab

/-! ### A drawn region comes out the same in every order -/

def Win (r : Rec) (ν : Nat) : Prop := r.s.next ≤ ν ∧ ν < r.s'.next

open Classical in
noncomputable def exObj (log : List Rec) (ν : Nat) : Option AObj := if h : ∃ r, r ∈ log ∧ Win r ν then (Classical.choose h).s'.heap.get ν else none

/-- The heap when the acts below a place are done: what that order holds there, and each block made ahead of its time. -/
noncomputable def Hf (log : List Rec) (s2 : St) (e : Nat) (ν : Nat) : Option AObj :=
  if ν < (stA log s2 e).next then (stA log s2 e).heap.get ν else exObj log ν

structure Ctx (P : Program) (B ro : Nat) (callF : CallE) (nt : Nat) (ops : Array Oper) (a : AAct) (s : St) (log : List Rec) (a2 : AAct) (s2 : St) : Prop where
  hcs : CallS P B ro callF
  hL : LogOk P ro callF nt ops.toList (canonOf P ops) a s log a2 s2
  hD : DrawOk P ops
  hst : stillR P ro (befOf ops) log = true

theorem split_at {log : List Rec} {q : Nat} {r : Rec} (hq : log[q]? = some r) : log = log.take q ++ r :: log.drop (q + 1) := by
  obtain ⟨h, e⟩ := List.getElem?_eq_some_iff.1 hq
  have := List.take_append_drop q log
  rw [List.drop_eq_getElem_cons h, e] at this
  exact this.symm

theorem mem_take {log : List Rec} {q : Nat} {r : Rec} (h : r ∈ log.take q) : ∃ p, p < q ∧ log[p]? = some r := by
  obtain ⟨p, hp⟩ := List.getElem?_of_mem h
  rw [List.getElem?_take] at hp
  by_cases hlt : p < q
  · rw [if_pos hlt] at hp; exact ⟨p, hlt, hp⟩
  · rw [if_neg hlt] at hp; cases hp

theorem mem_drop {log : List Rec} {q : Nat} {r : Rec} (h : r ∈ log.drop (q + 1)) : ∃ p, q < p ∧ log[p]? = some r := by
  obtain ⟨p, hp⟩ := List.getElem?_of_mem h
  rw [List.getElem?_drop] at hp
  exact ⟨q + 1 + p, by omega, hp⟩

section
variable {P : Program} {B ro : Nat} {callF : CallE} {nt : Nat} {ops : Array Oper} {a a2 : AAct} {s s2 : St} {log : List Rec}

theorem st_of {q : Nat} {r : Rec} (hq : log[q]? = some r) : r.s = stA log s2 q := by simp [stA, hq]

theorem Ctx.mono1 (C : Ctx P B ro callF nt ops a s log a2 s2) (q : Nat) : (stA log s2 q).next ≤ (stA log s2 (q + 1)).next := by
  cases hq : log[q]? with
  | none =>
    have : log[q + 1]? = none := by rw [List.getElem?_eq_none_iff] at hq ⊢; omega
    simp [stA, hq, this]
  | some r =>
    rw [← C.hL.s' q r hq, ← st_of (s2 := s2) hq]
    rcases (C.hL.ok r (List.mem_of_getElem? hq)).ok with ⟨_, _, h⟩ | ⟨_, _, _, h⟩
    · exact stepOp_next h
    · rw [h]; exact Nat.le_refl _

theorem Ctx.mono (C : Ctx P B ro callF nt ops a s log a2 s2) {p q : Nat} (h : p ≤ q) : (stA log s2 p).next ≤ (stA log s2 q).next := by
  induction h with
  | refl => exact Nat.le_refl _
  | step _ ih => exact Nat.le_trans ih (C.mono1 _)

theorem Ctx.opOf (C : Ctx P B ro callF nt ops a s log a2 s2) {q : Nat} {r : Rec} (hq : log[q]? = some r) : ops[r.i]? = some r.o :=
  canonOf_op (List.mem_of_getElem? (C.hL.op q r hq))

theorem Ctx.lt (C : Ctx P B ro callF nt ops a s log a2 s2) {q : Nat} {r : Rec} (hq : log[q]? = some r) : r.i < ops.size := (Array.getElem?_eq_some_iff.1 (C.opOf hq)).1

theorem Ctx.pair (C : Ctx P B ro callF nt ops a s log a2 s2) {p q : Nat} {x y : Rec} (h : p < q) (hp : log[p]? = some x) (hq : log[q]? = some y) : PairOk P ops x.i y.i x.o y.o :=
  pairsOk_get _ C.hD.pairs p q _ _ _ _ h (C.hL.op p x hp) (C.hL.op q y hq)

theorem Ctx.inj (C : Ctx P B ro callF nt ops a s log a2 s2) {p q : Nat} {x y : Rec} (hp : log[p]? = some x) (hq : log[q]? = some y) (h : x.i = y.i) : p = q := by
  rcases Nat.lt_trichotomy p q with hlt | he | hlt
  · exact absurd h (C.pair hlt hp hq).ne
  · exact he
  · exact absurd h.symm (C.pair hlt hq hp).ne

theorem Ctx.pos (C : Ctx P B ro callF nt ops a s log a2 s2) {i : Nat} (hi : i < ops.size) : ∃ (q : Nat) (r : Rec), log[q]? = some r ∧ r.i = i := by
  obtain ⟨o, ho⟩ := C.hD.mem hi
  obtain ⟨q, hq⟩ := List.getElem?_of_mem ho
  have hlt : q < log.length := by rw [C.hL.len]; exact (List.getElem?_eq_some_iff.1 hq).1
  refine ⟨q, log[q], List.getElem?_eq_getElem hlt, ?_⟩
  have := C.hL.op q _ (List.getElem?_eq_getElem hlt)
  rw [hq] at this
  simp at this
  exact this.1.symm

theorem Ctx.uniq (C : Ctx P B ro callF nt ops a s log a2 s2) {x y : Rec} {ν : Nat} (hx : x ∈ log) (hy : y ∈ log) (wx : Win x ν) (wy : Win y ν) : x = y := by
  obtain ⟨p, hp⟩ := List.getElem?_of_mem hx
  obtain ⟨q, hq⟩ := List.getElem?_of_mem hy
  have key : ∀ {p q : Nat} {x y : Rec}, log[p]? = some x → log[q]? = some y → Win x ν → Win y ν → ¬p < q := by
    intro p q x y hp hq wx wy h
    have h1 := C.mono (p := p + 1) (q := q) h
    rw [← C.hL.s' p x hp, ← st_of (s2 := s2) hq] at h1
    have := wx.2; have := wy.1; omega
  have : p = q := by have := key hp hq wx wy; have := key hq hp wy wx; omega
  subst this
  rw [hp] at hq; exact Option.some.inj hq

theorem Ctx.exObj_win (C : Ctx P B ro callF nt ops a s log a2 s2) {r : Rec} {ν : Nat} (hr : r ∈ log) (hw : Win r ν) : exObj log ν = r.s'.heap.get ν := by
  have h : ∃ r, r ∈ log ∧ Win r ν := ⟨r, hr, hw⟩
  unfold exObj
  rw [dif_pos h]
  rw [C.uniq (Classical.choose_spec h).1 hr (Classical.choose_spec h).2 hw]

theorem Ctx.exObj_none (C : Ctx P B ro callF nt ops a s log a2 s2) {ν : Nat} (h : s2.next ≤ ν) : exObj log ν = none := by
  unfold exObj
  rw [dif_neg]
  rintro ⟨r, hr, hw⟩
  obtain ⟨q, hq⟩ := List.getElem?_of_mem hr
  have hlt := (List.getElem?_eq_some_iff.1 hq).1
  have h1 := C.mono (p := q + 1) (q := log.length) hlt
  rw [← C.hL.s' q r hq] at h1
  have h2 : stA log s2 log.length = s2 := by simp [stA]
  rw [h2] at h1
  have := hw.2; omega

theorem Ctx.quiet1 (C : Ctx P B ro callF nt ops a s log a2 s2) {e : Nat} (hn : ∀ r : Rec, log[e]? = some r → isAct P r = false) (hw : Wf (stA log s2 e)) : Hf log s2 e = Hf log s2 (e + 1) ∧ Wf (stA log s2 (e + 1)) := by
  cases he : log[e]? with
  | none =>
    have h2 : log[e + 1]? = none := by rw [List.getElem?_eq_none_iff] at he ⊢; omega
    have : stA log s2 e = stA log s2 (e + 1) := by simp [stA, he, h2]
    refine ⟨?_, this ▸ hw⟩
    funext ν; simp only [Hf, this]
  | some r =>
    have h1 := st_of (s2 := s2) he
    have h2 := C.hL.s' e r he
    have hm := List.mem_of_getElem? he
    rcases (C.hL.ok r hm).kind.still (hn r he) with hs | ⟨ob, hs⟩
    · have : stA log s2 e = stA log s2 (e + 1) := by rw [← h1, ← h2, hs]
      refine ⟨?_, this ▸ hw⟩
      funext ν; simp only [Hf, this]
    · have h3 : stA log s2 (e + 1) = ⟨(stA log s2 e).heap.set (stA log s2 e).next ob, (stA log s2 e).next + 1⟩ := by rw [← h2, hs, h1]
      refine ⟨?_, ?_⟩
      · funext ν
        simp only [Hf, h3]
        by_cases hlt : ν < (stA log s2 e).next
        · rw [if_pos hlt, if_pos (by omega), T.get_set, if_neg (by omega)]
        · rw [if_neg hlt]
          by_cases heq : ν = (stA log s2 e).next
          · subst heq
            rw [if_pos (by omega), C.exObj_win hm ⟨by rw [h1]; exact Nat.le_refl _, by rw [hs, h1]; simp⟩, hs, h1]
          · rw [if_neg (by omega)]
      · rw [h3]
        intro ν o e1
        simp only [T.get_set] at e1 ⊢
        by_cases hm : ν = (stA log s2 e).next
        · omega
        · rw [if_neg hm] at e1; have := hw ν o e1; omega

theorem Ctx.quiet (C : Ctx P B ro callF nt ops a s log a2 s2) {e q : Nat} (h : e ≤ q) (hn : ∀ (p : Nat) (r : Rec), e ≤ p → p < q → log[p]? = some r → isAct P r = false) (hw : Wf (stA log s2 e)) : Hf log s2 e = Hf log s2 q ∧ Wf (stA log s2 q) := by
  induction h with
  | refl => exact ⟨rfl, hw⟩
  | step hle ih =>
    rename_i m
    obtain ⟨h1, h2⟩ := ih fun p r h1 h2 h3 => hn p r h1 (by omega) h3
    obtain ⟨h3, h4⟩ := C.quiet1 (fun r hr => hn m r hle (by omega) hr) h2
    exact ⟨h1.trans h3, h4⟩

theorem Ctx.still (C : Ctx P B ro callF nt ops a s log a2 s2) {r x : Rec} (hr : r ∈ log) (hx : x ∈ log) (h1 : r.ran = true) (h2 : clsOf P r.o.op = .read) (h3 : isAct P x = true) :
    ordered (befOf ops) r.i x.i = true ∨ (evalOp P ro r.tm r.o.op x.s = some (.val r.v x.s) ∧ evalOp P ro r.tm r.o.op x.s' = some (.val r.v x.s')) := by
  have h := C.hst
  simp only [stillR, List.all_eq_true, Bool.or_eq_true, Bool.not_eq_true', Bool.and_eq_true] at h
  rcases h r hr with h | h
  · simp [isRead, h2, h1] at h
  · rcases h x hx with (h | h) | h
    · rw [h3] at h; cases h
    · exact .inl h
    · exact .inr ⟨isVal_sound h2 h.1, isVal_sound h2 h.2⟩

/-- Where the run stands when some of the region's operations are done. -/
structure Inv (P : Program) (B ro nt : Nat) (a : AAct) (s2 : St) (log : List Rec) (ρ0 : Ren) (w0 : World) (dfs : List Deferred) (done : List Nat) (e : Nat) (ρ : Ren) (w : World) (ac : Act) : Prop where
  step : StepH B ro ρ0 (Hf log s2 0) w0 ρ (Hf log s2 e) w
  tm : TmR ρ (tmD (fun i => decide (i ∈ done)) a.tm log) ac.tmps
  size : ac.tmps.size = nt
  defers : ac.defers = dfs
  acts : ∀ (p : Nat) (r : Rec), e ≤ p → log[p]? = some r → isAct P r = true → r.i ∉ done
  last : e = 0 ∨ ∃ (p : Nat) (r : Rec), e = p + 1 ∧ log[p]? = some r ∧ isAct P r = true ∧ r.i ∈ done
  wf : Wf (stA log s2 e)
  names : ∀ ν i, ρ ν = some i → ρ0 ν = none → ∃ r, r ∈ log ∧ r.i ∈ done ∧ Win r ν

/-- One that is next, by what stands ahead of it and by what does not. -/
structure Turn (ops : Array Oper) (done : List Nat) (i : Nat) : Prop where
  out : i ∉ done
  before : ∀ j, j < ops.size → bitOf (befOf ops) i j = true → j ∈ done
  after : ∀ k ∈ done, bitOf (befOf ops) k i = true → False

theorem turn_of {l done rest : List Nat} {i : Nat} (hg : Good ops l) (h : done ++ i :: rest = l) : Turn ops done i := by
  have hi : l[done.length]? = some i := by rw [← h, List.getElem?_append_right (Nat.le_refl _)]; simp
  have ht : l.take done.length = done := by rw [← h]; simp
  have hlt := hg.lt i (List.mem_of_getElem? hi)
  have hnd := hg.nodup
  rw [← h] at hnd
  have hout : i ∉ done := fun hm => (List.nodup_append.1 hnd).2.2 i hm i (by simp) rfl
  refine ⟨hout, fun j hj hb => ?_, fun k hk hb => ?_⟩
  · have := bit_ahead hg hj hb done.length hi
    rwa [ht] at this
  · obtain ⟨m, hm⟩ := List.getElem?_of_mem hk
    have hmlt := (List.getElem?_eq_some_iff.1 hm).1
    have hm' : l[m]? = some k := by rw [← h, List.getElem?_append_left hmlt]; exact hm
    have h1 := bit_ahead hg hlt hb m hm'
    have h2 : i ∈ l.take done.length := List.mem_of_mem_take (i := m) (by rw [List.take_take, Nat.min_eq_left (by omega)]; exact h1)
    rw [ht] at h2
    exact hout h2

theorem Ctx.looks (C : Ctx P B ro callF nt ops a s log a2 s2) {done : List Nat} {q : Nat} {r : Rec} (hq : log[q]? = some r) (ht : Turn ops done r.i) {t : Nat} (hm : t ∈ r.o.looksAt ops) :
    tmv (tmD (fun i => decide (i ∈ done)) a.tm log) t = tmv r.tm t := by
  have key : (tmD (fun i => decide (i ∈ done)) a.tm log).get t = r.tm.get t := by
    rw [C.hL.tm q r hq]
    have hsp := split_at hq
    rw [hsp, tmD_app]
    simp only [tmD]
    rw [if_neg (by simpa using ht.out)]
    rw [tmD_skip]
    · rw [← hsp]
      refine tmD_same _ _ _ rfl fun x hx hd => ?_
      obtain ⟨p, hp, hx⟩ := mem_take hx
      have hpr := C.pair hp hx hq
      rcases hpr.way with ⟨_, hb⟩ | ⟨_, hap, _⟩
      · have := ht.before x.i (C.lt hx) hb
        simp [this] at hd
      · intro e
        exact (Oper.apart_spec hap).1 t e hm
    · intro x hx hd e
      obtain ⟨p, hp, hx⟩ := mem_drop hx
      have hpr := C.pair hp hq hx
      rcases hpr.way with ⟨_, hb⟩ | ⟨_, hap, _⟩
      · exact ht.after x.i (by simpa using hd) hb
      · exact (Oper.apart_spec hap).2.2 t e hm
  unfold tmv
  rw [key]

theorem Ctx.puts (C : Ctx P B ro callF nt ops a s log a2 s2) {done : List Nat} {q : Nat} {r : Rec} (hq : log[q]? = some r) (ht : Turn ops done r.i) (t : Nat) :
    tmv (tmD (fun i => decide (i ∈ done ++ [r.i])) a.tm log) t = tmv (setO (tmD (fun i => decide (i ∈ done)) a.tm log) r.o.dst r.v) t := by
  have key : (tmD (fun i => decide (i ∈ done ++ [r.i])) a.tm log).get t = (putT (tmD (fun i => decide (i ∈ done)) a.tm log) r).get t := by
    have hsp := split_at hq
    rw [hsp, tmD_app, tmD_app]
    simp only [tmD]
    rw [if_pos (by simp), if_neg (by simpa using ht.out)]
    rw [tmD_eq (D := fun i => decide (i ∈ done ++ [r.i])) (D' := fun i => decide (i ∈ done)) (log.take q)]
    · refine tmD_put _ _ (fun x hx => ?_) fun x hx hd d hdst => ?_
      · obtain ⟨p, hp, hx⟩ := mem_drop hx
        have : x.i ≠ r.i := fun e => by have := C.inj hx hq e; omega
        simp [this]
      · obtain ⟨p, hp, hx⟩ := mem_drop hx
        have hpr := C.pair hp hq hx
        rcases hpr.way with ⟨_, hb⟩ | ⟨_, hap, _⟩
        · exact (ht.after x.i (by simpa using hd) hb).elim
        · exact (Oper.apart_spec hap).2.1 d hdst
    · intro x hx
      obtain ⟨p, hp, hx⟩ := mem_take hx
      have : x.i ≠ r.i := fun e => by have := C.inj hx hq e; omega
      simp [this]
  unfold tmv
  rw [key]; rfl

theorem put_tmR {ρ : Ren} {tm tm' : T Value} {ac : Act} {dst : Option Tmp} {v v' : Value} (h : TmR ρ tm ac.tmps) (hs : ac.tmps.size = nt) (hd : ∀ d, dst = some d → d < nt) (hv : VR ρ v v')
    (he : ∀ t, tmv tm' t = tmv (setO tm dst v) t) : TmR ρ tm' (ac.put dst v').tmps ∧ (ac.put dst v').tmps.size = nt ∧ (ac.put dst v').defers = ac.defers := by
  cases dst with
  | none => exact ⟨fun t => by rw [he t]; exact h t, hs, rfl⟩
  | some d =>
    refine ⟨fun t => ?_, by simpa [Act.put] using hs, rfl⟩
    rw [he t]
    exact tmR_set h hs (hd d rfl) hv t

end
end Go.Ab

namespace Go.Ab

section
variable {P : Program} {B ro : Nat} {callF : CallE} {nt : Nat} {ops : Array Oper} {a a2 : AAct} {s s2 : St} {log : List Rec}

theorem wf_leaf (n : Nat) : Wf ⟨.leaf, n⟩ := fun ν o h => by simp [T.get_leaf] at h

theorem get_leaf (ν : Nat) : T.get (.leaf : T AObj) ν = none := rfl

/-- One operation that ran, done at its turn. -/
theorem Ctx.emit (C : Ctx P B ro callF nt ops a s log a2 s2) {ρ0 : Ren} {w0 : World} {dfs : List Deferred} {done : List Nat} {e : Nat} {ρ : Ren} {w : World} {ac : Act}
    (inv : Inv P B ro nt a s2 log ρ0 w0 dfs done e ρ w ac) {q : Nat} {r : Rec} (hq : log[q]? = some r) (ht : Turn ops done r.i) (sx sx' : St)
    (hstep : stepOp P ro callF r.tm r.o.op sx = some (.inl (.ok r.v sx'))) (hro : ro ≤ sx.next) (hwf : Wf sx) (hfr : Fresh ρ sx sx')
    (sub : ∀ ν i o, ρ ν = some i → sx.heap.get ν = some o → Hf log s2 e ν = some o) (K : Nat → Bool) (hK : ∀ ν i, ρ ν = some i → K ν = false → sx.heap.get ν = none)
    (hnew : ∀ ν, sx.next ≤ ν → ν < sx'.next → K ν = true) (hwin : ∀ ν, sx.next ≤ ν → ν < sx'.next → Win r ν) (e' : Nat)
    (hH : ∀ ν, (if K ν then sx'.heap.get ν else Hf log s2 e ν) = Hf log s2 e' ν) (hacts : ∀ (p : Nat) (x : Rec), e' ≤ p → log[p]? = some x → isAct P x = true → x.i ∉ done ++ [r.i])
    (hlast : e' = 0 ∨ ∃ (p : Nat) (x : Rec), e' = p + 1 ∧ log[p]? = some x ∧ isAct P x = true ∧ x.i ∈ done ++ [r.i]) (hwf' : Wf sx' → Wf (stA log s2 e'))
    {Q : Exit → Act → World → Prop} {next : Act → World → Prop} (ih : ∀ ρ' w' ac', Inv P B ro nt a s2 log ρ0 w0 dfs (done ++ [r.i]) e' ρ' w' ac' → next ac' w') : r.o.wp P ac w next Q := by
  have hm := List.mem_of_getElem? hq
  have hstep' : stepOp P ro callF (tmD (fun i => decide (i ∈ done)) a.tm log) r.o.op sx = some (.inl (.ok r.v sx')) := by
    rw [stepOp_congr (ops := ops) (o := r.o) (tm' := r.tm) fun t h => C.looks hq ht h]; exact hstep
  obtain ⟨hk, _, _⟩ := stepOp_sim (Q := Q) (next := next) C.hcs hstep' (inv.step.rel.sub sub) inv.tm hro hwf
  obtain ⟨_, hk⟩ := hk r.v sx' rfl
  refine hk hfr fun ρ' w' v' hst hv => ?_
  have hfrm := hst.frame inv.step.rel sub K hK hnew
  have hHe : (fun ν => if K ν then sx'.heap.get ν else Hf log s2 e ν) = Hf log s2 e' := funext hH
  rw [hHe] at hfrm
  obtain ⟨t1, t2, t3⟩ := put_tmR (tm' := tmD (fun i => decide (i ∈ done ++ [r.i])) a.tm log) (dst := r.o.dst) (fun t => (inv.tm t).mono hst.le) inv.size (C.hL.dst r hm) hv (C.puts hq ht)
  refine ih ρ' w' _ { step := inv.step.trans hfrm, tm := t1, size := t2, defers := t3.trans inv.defers, acts := hacts, last := hlast, wf := hwf' (hst.wf hwf), names := ?_ }
  intro ν i h1 h2
  cases h0 : ρ ν with
  | some j =>
    obtain ⟨x, x1, x2, x3⟩ := inv.names ν j h0 h2
    exact ⟨x, x1, List.mem_append_left _ x2, x3⟩
  | none =>
    have := hst.dom ν i h0 h1
    exact ⟨r, hm, by simp, hwin ν this.1 this.2⟩

/-- One operation whose guard holds it back. -/
theorem Ctx.pass (C : Ctx P B ro callF nt ops a s log a2 s2) {ρ0 : Ren} {w0 : World} {dfs : List Deferred} {done : List Nat} {e : Nat} {ρ : Ren} {w : World} {ac : Act}
    (inv : Inv P B ro nt a s2 log ρ0 w0 dfs done e ρ w ac) {q : Nat} {r : Rec} (hq : log[q]? = some r) (ht : Turn ops done r.i) (hv : r.v = und) (hr : r.ran = false) :
    Inv P B ro nt a s2 log ρ0 w0 dfs (done ++ [r.i]) e ρ w (ac.put r.o.dst undef) := by
  have hm := List.mem_of_getElem? hq
  obtain ⟨t1, t2, t3⟩ := put_tmR (tm' := tmD (fun i => decide (i ∈ done ++ [r.i])) a.tm log) (dst := r.o.dst) (v := r.v) (v' := undef) inv.tm inv.size (C.hL.dst r hm) (hv ▸ VR.und ρ) (C.puts hq ht)
  refine { step := inv.step, tm := t1, size := t2, defers := t3.trans inv.defers, acts := ?_, last := ?_, wf := inv.wf, names := ?_ }
  · intro p x hp hx ha hin
    rcases List.mem_append.1 hin with h | h
    · exact inv.acts p x hp hx ha h
    · have : x.i = r.i := by simpa using h
      have := C.inj hx hq this
      subst this
      rw [hq] at hx; cases hx
      have := (isAct_ran ha).1
      rw [hr] at this; cases this
  · rcases inv.last with h | ⟨p, x, h1, h2, h3, h4⟩
    · exact .inl h
    · exact .inr ⟨p, x, h1, h2, h3, List.mem_append_left _ h4⟩
  · intro ν i h1 h2
    obtain ⟨x, x1, x2, x3⟩ := inv.names ν i h1 h2
    exact ⟨x, x1, List.mem_append_left _ x2, x3⟩

/-- The first act at or behind a place. -/
theorem firstAct {e : Nat} : ∀ q, e ≤ q → (∀ (p : Nat) (r : Rec), e ≤ p → p < q → log[p]? = some r → isAct P r = false) ∨
    ∃ (f : Nat) (x : Rec), e ≤ f ∧ f < q ∧ log[f]? = some x ∧ isAct P x = true ∧ ∀ (p : Nat) (r : Rec), e ≤ p → p < f → log[p]? = some r → isAct P r = false := by
  intro q h
  induction h with
  | refl => exact .inl fun p r h1 h2 => by omega
  | step hle ih =>
    rename_i m
    rcases ih with ih | ⟨f, x, h1, h2, h3, h4, h5⟩
    · cases hm : log[m]? with
      | none =>
        refine .inl fun p r h1 h2 h3 => ?_
        by_cases hpm : p = m
        · subst hpm; rw [hm] at h3; cases h3
        · exact ih p r h1 (by omega) h3
      | some x =>
        cases ha : isAct P x with
        | true => exact .inr ⟨m, x, hle, Nat.lt_succ_self m, hm, ha, ih⟩
        | false =>
          refine .inl fun p r h1 h2 h3 => ?_
          by_cases hpm : p = m
          · subst hpm; rw [hm] at h3; cases h3; exact ha
          · exact ih p r h1 (by omega) h3
    · exact .inr ⟨f, x, h1, Nat.lt_succ_of_lt h2, h3, h4, h5⟩

theorem Ctx.step1 (C : Ctx P B ro callF nt ops a s log a2 s2) {ρ0 : Ren} {w0 : World} {dfs : List Deferred} {done : List Nat} {e : Nat} {ρ : Ren} {w : World} {ac : Act} (hro : ro ≤ s.next) (hf0 : Fresh ρ0 s s2)
    (inv : Inv P B ro nt a s2 log ρ0 w0 dfs done e ρ w ac) {q : Nat} {r : Rec} (hq : log[q]? = some r) (ht : Turn ops done r.i) (hran : r.ran = true)
    {Q : Exit → Act → World → Prop} {next : Act → World → Prop} (ih : ∀ e' ρ' w' ac', Inv P B ro nt a s2 log ρ0 w0 dfs (done ++ [r.i]) e' ρ' w' ac' → next ac' w') : r.o.wp P ac w next Q := by
  have hm := List.mem_of_getElem? hq
  have hlen : log.length ≥ q + 1 := (List.getElem?_eq_some_iff.1 hq).1
  have hs := st_of (s2 := s2) hq
  have hs' := C.hL.s' q r hq
  have hfirst := C.hL.first
  have hlastSt : stA log s2 log.length = s2 := by simp [stA]
  have hros : ∀ p, ro ≤ (stA log s2 p).next := fun p => by have := C.mono (Nat.zero_le p); rw [hfirst] at this; omega
  -- names of this operation are free
  have hfresh : ∀ ν, Win r ν → ρ ν = none := by
    intro ν hw
    cases h : ρ ν with
    | none => rfl
    | some i =>
      cases h0 : ρ0 ν with
      | some j =>
        have h1 := C.mono (Nat.zero_le q)
        have h2 := C.mono (p := q + 1) (q := log.length) hlen
        rw [hfirst, ← hs] at h1
        rw [← hs', hlastSt] at h2
        have := hf0 ν (Nat.le_trans h1 hw.1) (Nat.lt_of_lt_of_le hw.2 h2)
        rw [this] at h0; cases h0
      | none =>
        obtain ⟨x, x1, x2, x3⟩ := inv.names ν i h h0
        have := C.uniq x1 hm x3 hw
        subst this
        exact absurd x2 ht.out
  -- the acts stay as they are where this is none
  have actsN : isAct P r = false → ∀ (p : Nat) (x : Rec), e ≤ p → log[p]? = some x → isAct P x = true → x.i ∉ done ++ [r.i] := by
    intro hn p x hp hx ha hin
    rcases List.mem_append.1 hin with h | h
    · exact inv.acts p x hp hx ha h
    · have : x.i = r.i := by simpa using h
      have := C.inj hx hq this
      subst this
      rw [hq] at hx; cases hx
      rw [hn] at ha; cases ha
  have lastN : e = 0 ∨ ∃ (p : Nat) (x : Rec), e = p + 1 ∧ log[p]? = some x ∧ isAct P x = true ∧ x.i ∈ done ++ [r.i] := by
    rcases inv.last with h | ⟨p, x, h1, h2, h3, h4⟩
    · exact .inl h
    · exact .inr ⟨p, x, h1, h2, h3, List.mem_append_left _ h4⟩
  have notAct : ∀ c, clsOf P r.o.op = c → c ≠ .act → isAct P r = false := by
    intro c hc hne
    unfold isAct
    split
    · rename_i h; rw [hc] at h; exact absurd h hne
    · rfl
  cases (C.hL.ok r hm).kind with
  | skip h => rw [hran] at h; cases h
  | pure _ hc hss he =>
    refine C.emit inv hq ht ⟨.leaf, r.s.next⟩ ⟨.leaf, r.s.next⟩ (stepOp_of (he _) (Nat.le_refl _)) (by rw [hs]; exact hros q) (wf_leaf _) (fun ν h1 h2 => ?_) (fun ν i o _ h => ?_) (fun _ => false) (fun ν i _ _ => rfl)
      (fun ν h1 h2 => ?_) (fun ν h1 h2 => ?_) e (fun ν => by simp) (actsN (notAct _ hc (by simp))) lastN (fun _ => inv.wf) (fun ρ' w' ac' => ih e ρ' w' ac')
    · simp only at h1 h2; omega
    · simp [T.get_leaf] at h
    · simp only at h1 h2; omega
    · simp only at h1 h2; omega
  | read _ hc hss he =>
    have hna := notAct _ hc (by simp)
    have hread : ∃ x, Hf log s2 e = Hf log s2 x ∧ Wf (stA log s2 x) ∧ evalOp P ro r.tm r.o.op (stA log s2 x) = some (.val r.v (stA log s2 x)) := by
      by_cases hqe : e ≤ q
      · rcases firstAct (P := P) (log := log) q hqe with hn | ⟨f, x, h1, h2, h3, h4, h5⟩
        · obtain ⟨b1, b2⟩ := C.quiet hqe hn inv.wf
          exact ⟨q, b1, b2, hs ▸ he⟩
        · rcases C.still hm (List.mem_of_getElem? h3) hran hc h4 with ho | ⟨v1, _⟩
          · rcases (C.pair h2 h3 hq).way with ⟨_, hb⟩ | ⟨hof, _⟩
            · exact absurd (ht.before x.i (C.lt h3) hb) (inv.acts f x h1 h3 h4)
            · rw [ordered_comm (C.pair h2 h3 hq).ne, ho] at hof; cases hof
          · obtain ⟨b1, b2⟩ := C.quiet h1 h5 inv.wf
            exact ⟨f, b1, b2, by rw [← st_of h3]; exact v1⟩
      · rcases inv.last with h0 | ⟨p, x, h1, h2, h3, h4⟩
        · omega
        · have hpq : q < p := by
            rcases Nat.lt_or_ge q p with h | h
            · exact h
            · have : p = q := by omega
              subst this
              rw [hq] at h2; cases h2
              rw [hna] at h3; cases h3
          rcases C.still hm (List.mem_of_getElem? h2) hran hc h3 with ho | ⟨_, v1⟩
          · rcases (C.pair hpq hq h2).way with ⟨_, hb⟩ | ⟨hof, _⟩
            · exact (ht.after x.i h4 hb).elim
            · rw [ho] at hof; cases hof
          · refine ⟨e, rfl, inv.wf, ?_⟩
            rw [h1, ← C.hL.s' p x h2]; exact v1
    obtain ⟨x, x1, x2, x3⟩ := hread
    refine C.emit inv hq ht _ _ (stepOp_of x3 (Nat.le_refl _)) (hros x) x2 (fun ν h1 h2 => ?_) (fun ν i o _ h => ?_) (fun ν => decide (ν < (stA log s2 x).next)) (fun ν i _ hk => ?_)
      (fun ν h1 h2 => ?_) (fun ν h1 h2 => ?_) e (fun ν => ?_) (actsN hna) lastN (fun _ => inv.wf) (fun ρ' w' ac' => ih e ρ' w' ac')
    · omega
    · rw [x1]; simp only [Hf, if_pos (x2 ν o h), h]
    · cases h : (stA log s2 x).heap.get ν with
      | none => rfl
      | some o => have := x2 ν o h; simp at hk; omega
    · omega
    · omega
    · simp only [decide_eq_true_eq]
      split
      · rename_i h; rw [x1]; simp only [Hf, if_pos h]
      · rfl
  | make _ hc ob hss he =>
    have hna : isAct P r = false := by
      refine notAct .make ?_ (by simp)
      unfold isMakeO at hc
      split at hc
      · assumption
      · cases hc
    have hqe : e ≤ q := by
      rcases Nat.lt_or_ge q e with hlt | h
      · exfalso
        rcases inv.last with h0 | ⟨p, x, h1, h2, h3, h4⟩
        · omega
        · have hpq : q < p := by
            rcases Nat.lt_or_ge q p with h | h
            · exact h
            · have : p = q := by omega
              subst this
              rw [hq] at h2; cases h2
              rw [hna] at h3; cases h3
          rcases (C.pair hpq hq h2).way with ⟨_, hb⟩ | ⟨_, _, _, hof⟩
          · exact ht.after x.i h4 hb
          · exact hof ⟨hc, (isAct_ran h3).2⟩
      · exact h
    have hn' : r.s'.next = r.s.next + 1 := by rw [hss]
    refine C.emit inv hq ht ⟨.leaf, r.s.next⟩ ⟨T.set .leaf r.s.next ob, r.s.next + 1⟩ (stepOp_of (he .leaf) (Nat.le_succ _)) (by rw [hs]; exact hros q) (wf_leaf _) (fun ν h1 h2 => ?_) (fun ν i o _ h => ?_)
      (fun ν => decide (ν = r.s.next)) (fun ν i _ _ => rfl) (fun ν h1 h2 => ?_) (fun ν h1 h2 => ?_) e (fun ν => ?_) (actsN hna) lastN (fun _ => inv.wf) (fun ρ' w' ac' => ih e ρ' w' ac')
    · exact hfresh ν ⟨h1, by rw [hn']; exact h2⟩
    · simp [T.get_leaf] at h
    · simp only [decide_eq_true_eq]; simp only at h1 h2; omega
    · exact ⟨h1, by rw [hn']; exact h2⟩
    · simp only [decide_eq_true_eq]
      split
      · rename_i h
        subst h
        have h1 := C.mono hqe
        rw [← hs] at h1
        simp only [Hf]
        rw [if_neg (by omega), C.exObj_win hm ⟨Nat.le_refl _, by rw [hn']; exact Nat.lt_succ_self _⟩, hss]
        simp only [T.get_set, if_true]
      · rfl
  | act _ hact ho =>
    have hqe : e ≤ q := by
      rcases Nat.lt_or_ge q e with hlt | h
      · exfalso
        rcases inv.last with h0 | ⟨p, x, h1, h2, h3, h4⟩
        · omega
        · rcases Nat.lt_or_ge q p with hpq | h
          · rcases (C.pair hpq hq h2).way with ⟨_, hb⟩ | ⟨_, _, hof, _⟩
            · exact ht.after x.i h4 hb
            · exact hof ⟨ho, (isAct_ran h3).2⟩
          · have : p = q := by omega
            subst this
            rw [hq] at h2; cases h2
            exact ht.out h4
      · exact h
    obtain ⟨b1, b2⟩ : Hf log s2 e = Hf log s2 q ∧ Wf (stA log s2 q) := by
      rcases firstAct (P := P) (log := log) q hqe with hn | ⟨f, x, h1, h2, h3, h4, h5⟩
      · exact C.quiet hqe hn inv.wf
      · exfalso
        rcases (C.pair h2 h3 hq).way with ⟨_, hb⟩ | ⟨_, _, hof, _⟩
        · exact inv.acts f x h1 h3 h4 (ht.before x.i (C.lt h3) hb)
        · exact hof ⟨(isAct_ran h4).2, ho⟩
    rw [← hs] at b2
    have hst : stepOp P ro callF r.tm r.o.op r.s = some (.inl (.ok r.v r.s')) := by
      rcases (C.hL.ok r hm).ok with ⟨_, _, h⟩ | ⟨h, _⟩
      · exact h
      · rw [hran] at h; cases h
    have hle : r.s.next ≤ r.s'.next := stepOp_next hst
    have hHq : ∀ ν, Hf log s2 e ν = if ν < r.s.next then r.s.heap.get ν else exObj log ν := fun ν => by rw [b1]; simp only [Hf, ← hs]
    refine C.emit inv hq ht r.s r.s' hst (by rw [hs]; exact hros q) b2 (fun ν h1 h2 => hfresh ν ⟨h1, h2⟩) (fun ν i o _ h => ?_)
      (fun ν => decide (ν < r.s'.next)) (fun ν i _ hk => ?_) (fun ν h1 h2 => by simpa using h2) (fun ν h1 h2 => ⟨h1, h2⟩) (q + 1) (fun ν => ?_) ?_ (.inr ⟨q, r, rfl, hq, hact, by simp⟩)
      (fun h => by rw [← hs']; exact h) (fun ρ' w' ac' => ih (q + 1) ρ' w' ac')
    · rw [hHq, if_pos (b2 ν o h), h]
    · cases h : r.s.heap.get ν with
      | none => rfl
      | some o => have := b2 ν o h; simp at hk; omega
    · simp only [decide_eq_true_eq, Hf, ← hs']
      split
      · rfl
      · have := hHq ν
        simp only [Hf] at this
        rw [this, if_neg (by omega)]
    · intro p x hp hx ha hin
      rcases List.mem_append.1 hin with h | h
      · exact inv.acts p x (by omega) hx ha h
      · have : x.i = r.i := by simpa using h
        have := C.inj hx hq this
        omega

theorem Ctx.run (C : Ctx P B ro callF nt ops a s log a2 s2) {ρ0 : Ren} {w0 : World} {ac0 : Act} (hro : ro ≤ s.next) (hwf0 : Wf s) (hr0 : Rel B ro ρ0 s.heap.get w0) (hf0 : Fresh ρ0 s s2) (ha0 : ActR ρ0 nt a ac0)
    {l : List Nat} (hg : Good ops l) {Q : Exit → Act → World → Prop} (hQ : ∀ ρ' w' ac', Step B ro ρ0 s w0 ρ' s2 w' → ActR ρ' nt a2 ac' → Q .normal ac' w') :
    ∀ (rest done : List Nat) (e : Nat) (ρ : Ren) (w : World) (ac : Act), done ++ rest = l → Inv P B ro nt a s2 log ρ0 w0 ac0.defers done e ρ w ac → wpOps P ops Q rest ac w
  | [], done, e, ρ, w, ac, hl, inv => by
    simp only [wpOps]
    have hall : ∀ r ∈ log, r.i ∈ done := fun r hr => by
      obtain ⟨q, hq⟩ := List.getElem?_of_mem hr
      have := hg.all r.i (C.lt hq)
      rw [← hl] at this; simpa using this
    have hlastSt : stA log s2 log.length = s2 := by simp [stA]
    have hend : Hf log s2 e = Hf log s2 log.length ∧ Wf (stA log s2 log.length) := by
      rcases Nat.lt_or_ge log.length e with h | h
      · rcases inv.last with h0 | ⟨p, x, h1, h2, h3, h4⟩
        · omega
        · have := (List.getElem?_eq_some_iff.1 h2).1; omega
      · refine C.quiet h (fun p r h1 h2 h3 => ?_) inv.wf
        cases hact : isAct P r with
        | false => rfl
        | true => exact absurd (hall r (List.mem_of_getElem? h3)) (inv.acts p r h1 h3 hact)
    rw [hlastSt] at hend
    have hHn : Hf log s2 e = s2.heap.get := by
      rw [hend.1]
      funext ν
      simp only [Hf, hlastSt]
      split
      · rfl
      · rw [C.exObj_none (by omega)]
        cases h : s2.heap.get ν with
        | none => rfl
        | some o => have := hend.2 ν o h; omega
    have hst := inv.step
    rw [hHn] at hst
    have h0s : ∀ ν i, ρ0 ν = some i → Hf log s2 0 ν = s.heap.get ν := by
      intro ν i hi
      simp only [Hf, C.hL.first]
      split
      · rfl
      · rename_i hge
        have hs2 : s2.next ≤ ν := by
          rcases Nat.lt_or_ge ν s2.next with h | h
          · have := hf0 ν (by omega) h; rw [this] at hi; cases hi
          · exact h
        rw [C.exObj_none hs2]
        cases h : s.heap.get ν with
        | none => rfl
        | some o => have := hwf0 ν o h; omega
    have hl0 : ∀ ν i, ρ0 ν = some i → Live (Hf log s2 0) ν → Live s.heap.get ν := fun ν i hi ⟨o, h1, h2⟩ => ⟨o, by rw [← h0s ν i hi]; exact h1, h2⟩
    have hmono : s.next ≤ s2.next := by have := C.mono (Nat.zero_le log.length); rw [C.hL.first, hlastSt] at this; exact this
    refine hQ ρ w ac { le := hst.le, next := hmono, dom := ?_, rel := hst.rel, blk := ?_, frm := ?_, liv := ?_, siz := hst.siz, os := hst.os, tape := hst.tape, output := hst.output, wf := fun _ => hend.2 } ?_
    · intro ν i h1 h2
      obtain ⟨r, hr, _, hw⟩ := inv.names ν i h2 h1
      obtain ⟨q, hq⟩ := List.getElem?_of_mem hr
      have hlt := (List.getElem?_eq_some_iff.1 hq).1
      have e1 := C.mono (Nat.zero_le q)
      have e2 := C.mono (p := q + 1) (q := log.length) hlt
      rw [C.hL.first, ← st_of hq] at e1
      rw [← C.hL.s' q r hq, hlastSt] at e2
      exact ⟨Nat.le_trans e1 hw.1, Nat.lt_of_lt_of_le hw.2 e2⟩
    · intro ν i h1 h2
      rcases hst.blk ν i h1 h2 with h | ⟨μ, j, c1, c2, c3, c4⟩
      · exact .inl h
      · exact .inr ⟨μ, j, c1, c2, hl0 μ j c2 c3, c4⟩
    · exact fun β hβ hn => hst.frm β hβ fun μ j c1 c2 c3 => hn μ j c1 c2 (hl0 μ j c1 c3)
    · exact fun ν i hi hl => hl0 ν i hi (hst.liv ν i hi hl)
    · refine ⟨inv.size, ?_, ?_⟩
      · have := inv.tm
        rw [tmD_eq (D' := fun _ => true) log a.tm fun r hr => by simpa using hall r hr] at this
        rw [C.hL.last]; exact this
      · rw [C.hL.defers, inv.defers]; exact ha0.defers.mono fun _ _ => DefR.mono hst.le
  | i :: rest, done, e, ρ, w, ac, hl, inv => by
    have ht := turn_of hg hl
    have hilt : i < ops.size := hg.lt i (by rw [← hl]; simp)
    obtain ⟨q, r, hq, rfl⟩ := C.pos hilt
    have hm := List.mem_of_getElem? hq
    simp only [wpOps, C.opOf hq]
    have hl' : (done ++ [r.i]) ++ rest = l := by simpa using hl
    have hlook : ∀ {b : Bool}, wantedA ops.toList r.tm r.o = some b → Region.wanted r.o (yielded ops ac.tmps) = b := fun h =>
      wantedA_sim inv.tm (wantedA_congr (ops := ops) (tm := r.tm) (fun t hm => (C.looks hq ht hm).symm) h)
    rcases (C.hL.ok r hm).ok with ⟨h1, h2, h3⟩ | ⟨h1, h2, h3, h4⟩
    · rw [hlook h2]
      simp only [if_true]
      left
      exact C.step1 hro hf0 inv hq ht h1 fun e' ρ' w' ac' inv' => C.run hro hwf0 hr0 hf0 ha0 hg hQ rest (done ++ [r.i]) e' ρ' w' ac' hl' inv'
    · rw [hlook h2]
      simp only [Bool.false_eq_true, if_false]
      exact C.run hro hwf0 hr0 hf0 ha0 hg hQ rest (done ++ [r.i]) e ρ w _ hl' (C.pass inv hq ht h3 h1)

/-- A region whose order is drawn, in every order. -/
theorem evalDraw_sim (hcs : CallS P B ro callF) (hD : drawOk P ops = true) (h : evalDraw P ro callF nt ops.toList (canonOf P ops) a s = some (a2, s2, log)) (hst : stillR P ro (befOf ops) log = true)
    {ρ0 : Ren} {w0 : World} {ac0 : Act} (hro : ro ≤ s.next) (hwf0 : Wf s) (hr0 : Rel B ro ρ0 s.heap.get w0) (hf0 : Fresh ρ0 s s2) (ha0 : ActR ρ0 nt a ac0)
    {Q : Exit → Act → World → Prop} (hQ : ∀ ρ' w' ac', Step B ro ρ0 s w0 ρ' s2 w' → ActR ρ' nt a2 ac' → Q .normal ac' w') (t : Nat) :
    wpOps P ops Q (Region.schedule (P.follows .mixedOrders) ops t) ac0 w0 := by
  have C : Ctx P B ro callF nt ops a s log a2 s2 := ⟨hcs, draw_log _ _ _ _ _ _ h, drawOk_spec hD, hst⟩
  have hg := C.hD.good t
  have hw0 : Wf (stA log s2 0) := by rw [C.hL.first]; exact hwf0
  refine C.run hro hwf0 hr0 hf0 ha0 hg hQ _ [] 0 ρ0 w0 ac0 rfl { step := StepH.refl (hr0.sub fun ν i o hi ho => ?_), tm := ?_, size := ha0.size, defers := rfl, acts := (fun p r _ _ _ h => by simp at h), last := .inl rfl, wf := hw0, names := fun ν i h1 h2 => by rw [h2] at h1; cases h1 }
  · simp only [Hf, C.hL.first] at ho
    split at ho
    · exact ho
    · rename_i hge
      have hs2 : s2.next ≤ ν := by
        rcases Nat.lt_or_ge ν s2.next with h | h
        · have := hf0 ν (by omega) h; rw [this] at hi; cases hi
        · exact h
      rw [C.exObj_none hs2] at ho; cases ho
  · have : tmD (fun i => decide (i ∈ ([] : List Nat))) a.tm log = a.tm := by
      have : ∀ (l : List Rec) (tm : T Value), tmD (fun i => decide (i ∈ ([] : List Nat))) tm l = tm := by
        intro l
        induction l with
        | nil => intro tm; rfl
        | cons r l ih => intro tm; simp only [tmD]; rw [if_neg (by simp)]; exact ih tm
      exact this log a.tm
    rw [this]; exact ha0.tm

end
end Go.Ab

namespace Go.Ab

theorem least {p : Nat → Prop} (h : ∃ n, p n) : ∃ n, p n ∧ ∀ m, p m → n ≤ m := by
  obtain ⟨n, hn⟩ := h
  induction n using Nat.strongRecOn with
  | _ n ih =>
    by_cases hm : ∃ m, m < n ∧ p m
    · obtain ⟨m, h1, h2⟩ := hm; exact ih m h1 h2
    · exact ⟨n, hn, fun m hp => by
        rcases Nat.lt_or_ge m n with h | h
        · exact absurd ⟨m, h, hp⟩ hm
        · exact h⟩

section
variable {P : Program} {B ro : Nat}

open Classical in
theorem wp_loop_n {c : Code} {Q : Exit → Act → World → Prop} (J : Nat → Act → World → Prop) {n : Nat} {a : Act} {w : World} (h0 : J n a w)
    (round : ∀ n a w, J n a w → c.wp P (Exit.then (fun a' w' => ∃ m, m < n ∧ J m a' w') Q) a w) : (Code.loop c).wp P Q a w := by
  refine wp_loop (fun a w => ∃ n, J n a w) (fun a w => if h : ∃ n, J n a w then Classical.choose (least h) else 0) ⟨n, h0⟩ ?_
  intro a w hI
  have hs := Classical.choose_spec (least hI)
  refine wp_mono (round _ a w hs.1) fun e a' w' hq => ?_
  cases e with
  | normal =>
    obtain ⟨m, hlt, hJ⟩ := hq
    have hI' : ∃ n, J n a' w' := ⟨m, hJ⟩
    refine ⟨hI', ?_⟩
    simp only [dif_pos hI, dif_pos hI']
    exact Nat.lt_of_le_of_lt ((Classical.choose_spec (least hI')).2 m hJ) hlt
  | _ => exact hq

variable {callF : CallE} {nt : Nat}

theorem evalC_next : ∀ (k : Nat) (c : Code) (a : AAct) (s : St) (out : Out), evalC P ro callF nt k c a s = some out → s.next ≤ out.s.next
  | 0, c, a, s, out, h => by simp [evalC] at h
  | k + 1, c, a, s, out, h => by
    have ih := evalC_next k
    cases c with
    | skip => simp only [evalC] at h; cases h; exact Nat.le_refl _
    | label l => simp only [evalC] at h; cases h; exact Nat.le_refl _
    | exit id => simp only [evalC] at h; cases h; exact Nat.le_refl _
    | ret => simp only [evalC] at h; cases h; exact Nat.le_refl _
    | region id ops draw =>
      simp only [evalC] at h
      cases draw with
      | false => exact evalOps_next _ _ _ _ h
      | true =>
        simp only [cond_true] at h
        cases hd : drawOk P ops with
        | false => rw [hd] at h; cases h
        | true =>
          rw [hd] at h
          simp only [cond_true] at h
          split at h
          · rename_i a' s' log he
            cases hst : stillR P ro (befOf ops) log with
            | false => rw [hst] at h; cases h
            | true =>
              rw [hst] at h; cases h
              have hL := draw_log _ _ _ _ _ _ he
              have C1 : ∀ q, (stA log s' q).next ≤ (stA log s' (q + 1)).next := by
                intro q
                cases hq : log[q]? with
                | none =>
                  have : log[q + 1]? = none := by rw [List.getElem?_eq_none_iff] at hq ⊢; omega
                  simp [stA, hq, this]
                | some r =>
                  rw [← hL.s' q r hq, ← st_of (s2 := s') hq]
                  rcases (hL.ok r (List.mem_of_getElem? hq)).ok with ⟨_, _, h⟩ | ⟨_, _, _, h⟩
                  · exact stepOp_next h
                  · rw [h]; exact Nat.le_refl _
              have C2 : ∀ q, s.next ≤ (stA log s' q).next := by
                intro q
                induction q with
                | zero => rw [hL.first]; exact Nat.le_refl _
                | succ q ih => exact Nat.le_trans ih (C1 q)
              have := C2 log.length
              have he : stA log s' log.length = s' := by simp [stA]
              rw [he] at this; exact this
          · cases h
    | seq x y =>
      simp only [evalC] at h
      split at h
      · rename_i a1 s1 h1
        exact Nat.le_trans (ih _ _ _ _ h1) (ih _ _ _ _ h)
      · exact ih _ _ _ _ h
    | cond c x y =>
      simp only [evalC] at h
      split at h
      · exact ih _ _ _ _ h
      · exact ih _ _ _ _ h
      · cases h
    | block id body =>
      simp only [evalC] at h
      split at h
      · rename_i i a1 s1 h1
        have := ih _ _ _ _ h1
        cases hb : Nat.beq i id with
        | true => rw [hb] at h; cases h; exact this
        | false => rw [hb] at h; cases h; exact this
      · exact ih _ _ _ _ h
    | loop body =>
      simp only [evalC] at h
      split at h
      · rename_i a1 s1 h1
        exact Nat.le_trans (ih _ _ _ _ h1) (ih _ _ _ _ h)
      · exact ih _ _ _ _ h
    | _ => simp [evalC] at h

/-- What the evaluator says of a piece of code, the model does. -/
theorem evalC_sim (hcs : CallS P B ro callF) : ∀ (k : Nat) (c : Code) (a : AAct) (s : St) (out : Out), evalC P ro callF nt k c a s = some out → ∀ (ρ : Ren) (w : World) (ac : Act) (Q : Exit → Act → World → Prop),
    Rel B ro ρ s.heap.get w → ActR ρ nt a ac → ro ≤ s.next → Wf s → Fresh ρ s out.s → (∀ ρ' w' ac' e', Step B ro ρ s w ρ' out.s w' → ActR ρ' nt out.a ac' → ExR ρ' out.e e' → Q e' ac' w') → c.wp P Q ac w := by
  intro k
  induction k using Nat.strongRecOn with
  | _ k IH =>
  intro c a s out h ρ w ac Q hr ha hro hwf hf hQ
  cases k with
  | zero => simp [evalC] at h
  | succ k =>
    have ih := IH k (Nat.lt_succ_self k)
    cases c with
    | skip => simp only [evalC] at h; cases h; exact wp_skip (hQ ρ w ac .normal (Step.refl hr) ha trivial)
    | label l => simp only [evalC] at h; cases h; exact wp_label (hQ ρ w ac .normal (Step.refl hr) ha trivial)
    | exit id => simp only [evalC] at h; cases h; exact wp_exit (hQ ρ w ac (.exit id) (Step.refl hr) ha rfl)
    | ret => simp only [evalC] at h; cases h; exact wp_ret (hQ ρ w ac .ret (Step.refl hr) ha trivial)
    | region id ops draw =>
      simp only [evalC] at h
      cases draw with
      | false =>
        simp only [cond_false] at h
        refine wp_region ?_
        have := evalOps_sim (Q := Q) hcs ops.toList 0 a s out rfl h ρ w ac hr ha hro hwf hf hQ
        rw [List.range_eq_range']
        simpa using this
      | true =>
        simp only [cond_true] at h
        cases hd : drawOk P ops with
        | false => rw [hd] at h; cases h
        | true =>
          rw [hd] at h
          simp only [cond_true] at h
          split at h
          · rename_i a' s' log he
            cases hst : stillR P ro (befOf ops) log with
            | false => rw [hst] at h; cases h
            | true =>
              rw [hst] at h; cases h
              have hdr : Step B ro ρ s w ρ s { w with drawn := w.drawn + 1 } := Step.drew hr rfl rfl rfl rfl
              refine wp_region_draw fun t => ?_
              exact evalDraw_sim hcs hd he hst hro hwf hdr.rel hf ha (fun ρ' w' ac' h1 h2 => hQ ρ' w' ac' .normal (hdr.trans h1) h2 trivial) t
          · cases h
    | seq x y =>
      simp only [evalC] at h
      refine wp_seq ?_
      split at h
      · rename_i a1 s1 h1
        have hn := evalC_next _ _ _ _ _ h
        refine ih x a s _ h1 ρ w ac _ hr ha hro hwf (hf.left hn) fun ρ' w' ac' e' q1 q2 q3 => ?_
        cases e' with
        | normal =>
          exact ih y a1 s1 out h ρ' w' ac' Q q1.rel q2 (Nat.le_trans hro q1.next) (q1.wf hwf) (hf.right q1) fun ρ2 w2 ac2 e2 p1 p2 p3 => hQ ρ2 w2 ac2 e2 (q1.trans p1) p2 p3
        | _ => exact q3.elim
      · rename_i hne
        refine ih x a s _ h ρ w ac _ hr ha hro hwf hf fun ρ' w' ac' e' q1 q2 q3 => ?_
        cases e' with
        | normal =>
          obtain ⟨e, a1, s1⟩ := out
          cases e with
          | normal => exact absurd h (hne a1 s1)
          | _ => exact q3.elim
        | _ => exact hQ _ _ _ _ q1 q2 q3
    | cond c x y =>
      simp only [evalC] at h
      have hv := opv_rel ha.tm c
      split at h
      · rename_i hc
        rw [hc] at hv
        exact wp_cond_true hv.bool_inv (ih x a s out h ρ w ac Q hr ha hro hwf hf hQ)
      · rename_i hc
        rw [hc] at hv
        exact wp_cond_false hv.bool_inv (ih y a s out h ρ w ac Q hr ha hro hwf hf hQ)
      · cases h
    | block id body =>
      simp only [evalC] at h
      refine wp_block ?_
      split at h
      · rename_i i a1 s1 h1
        have hout : out.s = s1 ∧ out.a = a1 := by
          cases hb : Nat.beq i id with
          | true => rw [hb] at h; cases h; exact ⟨rfl, rfl⟩
          | false => rw [hb] at h; cases h; exact ⟨rfl, rfl⟩
        refine ih body a s _ h1 ρ w ac _ hr ha hro hwf (by rw [← hout.1]; exact hf) fun ρ' w' ac' e' q1 q2 q3 => ?_
        cases e' with
        | exit j =>
          have hij : i = j := q3
          subst hij
          simp only [Exit.inBlock]
          cases hb : Nat.beq i id with
          | true =>
            have := Nat.eq_of_beq_eq_true hb
            rw [if_pos this]
            rw [hb] at h; cases h
            exact hQ _ _ _ _ q1 q2 trivial
          | false =>
            have : i ≠ id := Nat.ne_of_beq_eq_false hb
            rw [if_neg this]
            rw [hb] at h; cases h
            exact hQ _ _ _ _ q1 q2 rfl
        | _ => exact q3.elim
      · rename_i hne
        refine ih body a s _ h ρ w ac _ hr ha hro hwf hf fun ρ' w' ac' e' q1 q2 q3 => ?_
        cases e' with
        | exit j =>
          obtain ⟨e, a1, s1⟩ := out
          cases e with
          | exit i => exact absurd h (hne i a1 s1)
          | _ => exact q3.elim
        | _ => exact hQ _ _ _ _ q1 q2 q3
    | loop body =>
      have hmain : ∀ (n : Nat) (ac : Act) (w : World), (n ≤ k + 1 ∧ ∃ a1 s1 ρ1, evalC P ro callF nt n (.loop body) a1 s1 = some out ∧ Rel B ro ρ1 s1.heap.get w ∧ ActR ρ1 nt a1 ac ∧ ro ≤ s1.next ∧ Wf s1 ∧ Fresh ρ1 s1 out.s ∧
          (∀ ρ' w' ac' e', Step B ro ρ1 s1 w ρ' out.s w' → ActR ρ' nt out.a ac' → ExR ρ' out.e e' → Q e' ac' w')) →
          body.wp P (Exit.then (fun ac' w' => ∃ m, m < n ∧ (m ≤ k + 1 ∧ ∃ a1 s1 ρ1, evalC P ro callF nt m (.loop body) a1 s1 = some out ∧ Rel B ro ρ1 s1.heap.get w' ∧ ActR ρ1 nt a1 ac' ∧ ro ≤ s1.next ∧ Wf s1 ∧ Fresh ρ1 s1 out.s ∧
          (∀ ρ' w2 ac2 e', Step B ro ρ1 s1 w' ρ' out.s w2 → ActR ρ' nt out.a ac2 → ExR ρ' out.e e' → Q e' ac2 w2))) Q) ac w := by
        rintro n ac w ⟨hnk, a1, s1, ρ1, h1, hr1, ha1, hro1, hwf1, hf1, hQ1⟩
        cases n with
        | zero => simp [evalC] at h1
        | succ n =>
          simp only [evalC] at h1
          have ihn := IH n (by omega)
          split at h1
          · rename_i a2 s2 h2
            have hn := evalC_next _ _ _ _ _ h1
            refine ihn body a1 s1 _ h2 ρ1 w ac _ hr1 ha1 hro1 hwf1 (hf1.left hn) fun ρ' w' ac' e' q1 q2 q3 => ?_
            cases e' with
            | normal =>
              exact ⟨n, Nat.lt_succ_self n, by omega, a2, s2, ρ', h1, q1.rel, q2, Nat.le_trans hro1 q1.next, q1.wf hwf1, hf1.right q1, fun ρ2 w2 ac2 e2 p1 p2 p3 => hQ1 ρ2 w2 ac2 e2 (q1.trans p1) p2 p3⟩
            | _ => exact q3.elim
          · rename_i hne
            refine ihn body a1 s1 _ h1 ρ1 w ac _ hr1 ha1 hro1 hwf1 hf1 fun ρ' w' ac' e' q1 q2 q3 => ?_
            cases e' with
            | normal =>
              obtain ⟨e, a3, s3⟩ := out
              cases e with
              | normal => exact absurd h1 (hne a3 s3)
              | _ => exact q3.elim
            | _ => exact hQ1 _ _ _ _ q1 q2 q3
      exact wp_loop_n _ (n := k + 1) ⟨Nat.le_refl _, a, s, ρ, h, hr, ha, hro, hwf, hf, hQ⟩ hmain
    | _ => simp [evalC] at h

end
end Go.Ab

namespace Go.Ab

section
variable {P : Program} {B ro : Nat} {callF : CallE} {nt : Nat}

/-! ### Results, deferred calls, whole functions -/

def MdR (ρ : Ren) : FrameMode → FrameMode → Prop
  | .run, .run => True
  | .returning, .returning => True
  | .panicking ch, .panicking ch' => ChR ρ ch ch'
  | _, _ => False

theorem MdR.mono {ρ ρ' : Ren} (hl : ρ.le ρ') {u u' : FrameMode} (h : MdR ρ u u') : MdR ρ' u u' := by
  cases u <;> cases u' <;> first | exact h | exact ChR.mono hl h

theorem chR_dropWhile {ρ : Ren} : ∀ {l m : List PanicEntry}, ChR ρ l m → ChR ρ (l.dropWhile (!·.goexit)) (m.dropWhile (!·.goexit))
  | _, _, .nil => .nil
  | _, _, .cons (a := a) (b := b) h t => by
    simp only [List.dropWhile_cons, h.2.2]
    split
    · exact chR_dropWhile t
    · exact .cons h t

theorem MdR.settle {ρ : Ren} {u u' : FrameMode} (h : MdR ρ u u') : MdR ρ (settle u) (settle u') := by
  cases u with
  | run => cases u' <;> first | exact h | exact h.elim
  | returning => cases u' <;> first | exact h | exact h.elim
  | panicking ch =>
    cases u' with
    | run => exact h.elim
    | returning => exact h.elim
    | panicking ch' =>
      have h' : ChR ρ ch ch' := h
      cases h' with
      | nil => exact h
      | cons e t =>
        rename_i p p' l l'
        obtain ⟨v, rc, gx⟩ := p
        obtain ⟨v', rc', gx'⟩ := p'
        have hrc : rc = rc' := e.2.1
        subst hrc
        cases rc with
        | false => exact h
        | true =>
          simp only [Go.settle]
          have hd := chR_dropWhile t
          revert hd
          generalize l.dropWhile (!·.goexit) = x
          generalize l'.dropWhile (!·.goexit) = y
          intro hd
          cases hd with
          | nil => trivial
          | cons a b => exact L2.cons a b

theorem ChR.append {ρ : Ren} {a b c d : List PanicEntry} (h : ChR ρ a b) (k : ChR ρ c d) : ChR ρ (a ++ c) (b ++ d) := by
  induction h with
  | nil => exact k
  | cons e _ ih => exact .cons e ih

theorem MdR.raised {ρ : Ren} {u u' : FrameMode} {ch ch' : List PanicEntry} (h : MdR ρ u u') (k : ChR ρ ch ch') : MdR ρ (raised u ch) (raised u' ch') := by
  cases u <;> cases u' <;> first | exact h.elim | exact k | exact ChR.append k h

theorem resultsL_sim {ρ : Ren} {s : St} {w : World} {tm : T Value} {tmps : Array Value} (hr : Rel B ro ρ s.heap.get w) (ht : TmR ρ tm tmps) : ∀ (l : List ResultVar) (vs : List Value), resultsOf P s tm l = some vs →
    ∃ vs', VRs ρ vs vs' ∧ ∀ (f : ResultVar → Sem Value), (∀ u, f (.tmp u) = pure (tmps.getD u undef)) → (∀ a t, f (.cell a t) = (do loadVar t (← asAddr (tmps.getD a undef)))) → (l.mapM f).run P w = .ok vs' w
  | [], vs, h => by simp only [resultsOf] at h; cases h; exact ⟨[], .nil, fun f hf hc => by simp⟩
  | .tmp t :: l, vs, h => by
    simp only [resultsOf] at h
    split at h
    · rename_i r hr'
      cases h
      obtain ⟨vs', h2, h1⟩ := resultsL_sim hr ht l r hr'
      exact ⟨tmps.getD t undef :: vs', .cons (ht t) h2, fun f hf hc => by rw [List.mapM_cons, hf]; simp [h1 f hf hc]⟩
    · cases h
  | .cell a t :: l, vs, h => by
    simp only [resultsOf] at h
    split at h
    · rename_i ad had
      split at h
      · rename_i v r hv hr'
        cases h
        obtain ⟨vs', h2, h1⟩ := resultsL_sim hr ht l r hr'
        have hp := ht a
        unfold tmv at hp
        rw [had] at hp
        simp only at hp
        obtain ⟨hsp, i, hi, he⟩ := hp.ptr_inv
        rw [he] at hp
        obtain ⟨v', l1, l2⟩ := ldVar_sim hr (a' := ⟨i.b, i.r + ad.off, none⟩) hv hp
        refine ⟨v' :: vs', .cons l2 h2, fun f hf hc => ?_⟩
        rw [List.mapM_cons, hc, he]
        simp [asAddr, l1, h1 f hf hc]
      · cases h
    · cases h

theorem retOf_sim {ρ : Ren} {s : St} {w : World} {tm : T Value} {tmps : Array Value} {fn : Func} {r : Ret} (hr : Rel B ro ρ s.heap.get w) (ht : TmR ρ tm tmps) (h : retOf P fn tm s = some r) :
    ∃ v v', r = .ok v s ∧ (results fn tmps).run P w = .ok v' w ∧ VR ρ v v' := by
  have hres : ∀ vs, resultsOf P s tm fn.results.toList = some vs → ∃ vs', (results fn tmps).run P w = .ok (if h : vs'.toArray.size = 1 then vs'.toArray[0] else .tuple vs'.toArray) w ∧ VRs ρ vs vs' := by
    intro vs hvs
    obtain ⟨vs', h2, h1⟩ := resultsL_sim hr ht fn.results.toList vs hvs
    refine ⟨vs', ?_, h2⟩
    unfold results
    have e : fn.results = fn.results.toList.toArray := by simp
    rw [e, List.mapM_toArray]
    simp only [Sem.run_bind, Sem.run_map]
    rw [h1]
    · rfl
    · intro u; rfl
    · intro a t; rfl
  unfold retOf at h
  split at h
  · rename_i v hv
    cases h
    obtain ⟨vs', h1, h2⟩ := hres _ hv
    cases h2 with
    | cons a b =>
      cases b
      exact ⟨_, _, rfl, h1, a⟩
  · rename_i vs hne hv
    cases h
    obtain ⟨vs', h1, h2⟩ := hres _ hv
    refine ⟨_, _, rfl, h1, ?_⟩
    have hlen := h2.length
    rw [dif_neg]
    · exact VR.tuple_of h2
    · intro hsz
      have h1 : vs.length = 1 := by rw [hlen]; simpa using hsz
      obtain ⟨x, rfl⟩ := List.length_eq_one_iff.1 h1
      exact hne x rfl
  · cases h

/-- What is handed in for deferred calls is sound. -/
def DeferS (P : Program) (B ro : Nat) (deferF : DeferE) : Prop :=
  ∀ f args u s r dm, deferF f args u s = some (r, dm) → ∀ (ρ : Ren) (w : World) (args' : Array Value) (u' : FrameMode), Rel B ro ρ s.heap.get w → ro ≤ s.next → Wf s → VRs ρ args args'.toList → MdR ρ u u' → Fresh ρ s r.st →
    (∃ fn, P.funcs[f]? = some fn ∧ fn.name ≠ "runtime.NumGoroutine" ∧ fn.body.isSome = true) ∧
    CallsD P f args' u' w fun e u2 w' => ∃ ρ', Step B ro ρ s w ρ' r.st w' ∧ RetR ρ' r e ∧ MdR ρ' dm u2

theorem retOf_st {s : St} {tm : T Value} {fn : Func} {r : Ret} (h : retOf P fn tm s = some r) : r.st = s := by
  unfold retOf at h
  split at h <;> first | (cases h; rfl) | cases h

theorem leave_inv {deferF : DeferE} {fn : Func} {tm : T Value} {d : Deferred} {ds : List Deferred} {u : FrameMode} {s : St} {r : Ret} (h : leave P deferF fn tm (d :: ds) u s = some r) :
    u ≠ .run ∧ ∃ f cap, d.target = .fn (.func f) cap ∧ ∃ ret u1, deferF f (d.args.toList ++ cap.toList) u s = some (ret, u1) ∧ s.next ≤ ret.st.next ∧
      ((∃ v, ret = .ok v ret.st ∧ leave P deferF fn tm ds (settle u1) ret.st = some r) ∨ (∃ ch, ret = .pan ch ret.st ∧ leave P deferF fn tm ds (raised u1 ch) ret.st = some r)) := by
  cases u with
  | run => simp [leave] at h
  | returning =>
    refine ⟨by simp, ?_⟩
    simp only [leave] at h
    split at h
    · rename_i f cap heq
      split at h
      · cases h
      · rename_i v s' u' hd
        cases hb : Nat.ble s.next s'.next with
        | false => rw [hb] at h; cases h
        | true => rw [hb] at h; exact ⟨f, cap, heq, _, _, hd, Nat.le_of_ble_eq_true hb, .inl ⟨v, rfl, h⟩⟩
      · rename_i ch s' u' hd
        cases hb : Nat.ble s.next s'.next with
        | false => rw [hb] at h; cases h
        | true => rw [hb] at h; exact ⟨f, cap, heq, _, _, hd, Nat.le_of_ble_eq_true hb, .inr ⟨ch, rfl, h⟩⟩
    · cases h
  | panicking ch0 =>
    refine ⟨by simp, ?_⟩
    simp only [leave] at h
    split at h
    · rename_i f cap heq
      split at h
      · cases h
      · rename_i v s' u' hd
        cases hb : Nat.ble s.next s'.next with
        | false => rw [hb] at h; cases h
        | true => rw [hb] at h; exact ⟨f, cap, heq, _, _, hd, Nat.le_of_ble_eq_true hb, .inl ⟨v, rfl, h⟩⟩
      · rename_i ch s' u' hd
        cases hb : Nat.ble s.next s'.next with
        | false => rw [hb] at h; cases h
        | true => rw [hb] at h; exact ⟨f, cap, heq, _, _, hd, Nat.le_of_ble_eq_true hb, .inr ⟨ch, rfl, h⟩⟩
    · cases h

theorem leave_next {deferF : DeferE} {fn : Func} {tm : T Value} : ∀ (ds : List Deferred) (u : FrameMode) (s : St) (r : Ret), leave P deferF fn tm ds u s = some r → s.next ≤ r.st.next
  | [], .returning, s, r, h => by simp only [leave] at h; rw [retOf_st h]; exact Nat.le_refl _
  | [], .panicking ch, s, r, h => by simp only [leave] at h; cases h; exact Nat.le_refl _
  | [], .run, s, r, h => by simp [leave] at h
  | d :: ds, u, s, r, h => by
    obtain ⟨_, f, cap, _, ret, u1, _, hle, h1 | h1⟩ := leave_inv h
    · obtain ⟨v, _, h1⟩ := h1; exact Nat.le_trans hle (leave_next ds _ _ r h1)
    · obtain ⟨v, _, h1⟩ := h1; exact Nat.le_trans hle (leave_next ds _ _ r h1)

theorem leave_sim {deferF : DeferE} (hds : DeferS P B ro deferF) {fn : Func} {tm : T Value} {R : Ending → World → Prop} {tmps : Array Value} {r : Ret} :
    ∀ (ds : List Deferred) (u : FrameMode) (s : St), leave P deferF fn tm ds u s = some r → ∀ (ρ : Ren) (w : World) (ds' : List Deferred) (u' : FrameMode), Rel B ro ρ s.heap.get w → TmR ρ tm tmps → L2 (DefR ρ) ds ds' → MdR ρ u u' →
      ro ≤ s.next → Wf s → Fresh ρ s r.st → (∀ ρ' w' e, Step B ro ρ s w ρ' r.st w' → RetR ρ' r e → R e w') → Leaves P fn tmps R ds' u' w
  | [], u, s, h, ρ, w, ds', u', hr, ht, hds', hu, hro, hwf, hf, hR => by
    cases hds'
    cases u with
    | run => simp [leave] at h
    | returning =>
      simp only [leave] at h
      cases u' with
      | returning =>
        obtain ⟨v, v', e1, e2, e3⟩ := retOf_sim hr ht h
        subst e1
        exact ⟨v', e2, hR ρ w _ (Step.refl hr) e3⟩
      | _ => exact hu.elim
    | panicking ch =>
      simp only [leave] at h
      cases h
      cases u' with
      | panicking ch' => exact hR ρ w _ (Step.refl hr) hu
      | _ => exact hu.elim
  | d :: ds, u, s, h, ρ, w, ds', u', hr, ht, hds', hu, hro, hwf, hf, hR => by
    obtain ⟨hur, f, cap, htg, ret, u1, hd1, hle, hrest⟩ := leave_inv h
    have hu' : u' ≠ .run := by
      intro e; subst e
      cases u with
      | run => exact hur rfl
      | _ => exact hu.elim
    cases hds' with
    | cons hd htl =>
      rename_i d' dl'
      obtain ⟨⟨fnv, cap0, cap', t1, t2, t3⟩, t4⟩ := hd
      rw [htg] at t1
      cases t1
      obtain ⟨tg', ar'⟩ := d'
      simp only at t2 t4
      subst t2
      have hargs : VRs ρ (d.args.toList ++ cap.toList) (ar' ++ cap').toList := by
        rw [Array.toList_append]; exact L2.append t4 t3
      rcases hrest with ⟨v, e1, h'⟩ | ⟨ch, e1, h'⟩
      · have hn := leave_next _ _ _ _ h'
        obtain ⟨⟨fn1, f1, f2, f3⟩, hc⟩ := hds f _ u s _ u1 hd1 ρ w (ar' ++ cap') u' hr hro hwf hargs hu (hf.left hn)
        refine leaves_cons hu' (run_callFunc f1 f2 f3) (hc.mono fun e u2 w' ⟨ρ', q1, q2, q3⟩ => ?_)
        rw [e1] at q2
        cases e with
        | returned v' =>
          exact leave_sim hds ds (settle u1) ret.st h' ρ' w' dl' (settle u2) q1.rel (fun t => (ht t).mono q1.le) (htl.mono fun _ _ => DefR.mono q1.le) q3.settle (Nat.le_trans hro q1.next) (q1.wf hwf) (hf.right q1)
            fun ρ2 w2 e2 p1 p2 => hR ρ2 w2 e2 (q1.trans p1) p2
        | _ => exact q2.elim
      · have hn := leave_next _ _ _ _ h'
        obtain ⟨⟨fn1, f1, f2, f3⟩, hc⟩ := hds f _ u s _ u1 hd1 ρ w (ar' ++ cap') u' hr hro hwf hargs hu (hf.left hn)
        refine leaves_cons hu' (run_callFunc f1 f2 f3) (hc.mono fun e u2 w' ⟨ρ', q1, q2, q3⟩ => ?_)
        rw [e1] at q2
        cases e with
        | panicked ch' =>
          exact leave_sim hds ds (raised u1 ch) ret.st h' ρ' w' dl' (raised u2 ch') q1.rel (fun t => (ht t).mono q1.le) (htl.mono fun _ _ => DefR.mono q1.le) (q3.raised q2) (Nat.le_trans hro q1.next) (q1.wf hwf) (hf.right q1)
            fun ρ2 w2 e2 p1 p2 => hR ρ2 w2 e2 (q1.trans p1) p2
        | _ => exact q2.elim

end
end Go.Ab

namespace Go.Ab

section
variable {P : Program} {B ro : Nat} {callF : CallE} {nt : Nat}

/-! ### The bodies of deferred calls -/

theorem recovered_sim {ρ : Ren} {dm u : FrameMode} (h : MdR ρ dm u) (c₀ : Frame) (cs : List Frame) :
    (∃ v' u2, recoverD ({ c₀ with mode := u } :: cs) = some (v', { c₀ with mode := u2 } :: cs) ∧ VR ρ (recovered dm).1 v' ∧ MdR ρ (recovered dm).2 u2) ∨
    (recoverD ({ c₀ with mode := u } :: cs) = none ∧ (recovered dm).1 = .nilIface ∧ (recovered dm).2 = dm) := by
  cases dm with
  | run => cases u <;> first | exact h.elim | exact .inr ⟨rfl, rfl, rfl⟩
  | returning => cases u <;> first | exact h.elim | exact .inr ⟨rfl, rfl, rfl⟩
  | panicking ch =>
    cases u with
    | run => exact h.elim
    | returning => exact h.elim
    | panicking ch' =>
      have h' : ChR ρ ch ch' := h
      cases h' with
      | nil => exact .inr ⟨rfl, rfl, rfl⟩
      | cons e t =>
        rename_i p p' l l'
        obtain ⟨v, rc, gx⟩ := p
        obtain ⟨v', rc', gx'⟩ := p'
        obtain ⟨e1, e2, e3⟩ := e
        simp only at e1 e2 e3
        subst e2; subst e3
        cases rc with
        | true => exact .inr ⟨rfl, rfl, rfl⟩
        | false =>
          cases gx with
          | true => exact .inr ⟨rfl, rfl, rfl⟩
          | false => exact .inl ⟨v', .panicking ({ v := v', recovered := true } :: l'), rfl, e1, L2.cons ⟨e1, rfl, rfl⟩ t⟩

theorem evalOpsS_next {all : List Oper} : ∀ (l : List Oper) (a : AAct) (dm : FrameMode) (s : St) (out : Out) (dm' : FrameMode), evalOpsS P ro callF nt all l a dm s = some (out, dm') → s.next ≤ out.s.next ∧ out.a.defers = a.defers
  | [], a, dm, s, out, dm', h => by simp only [evalOpsS] at h; cases h; exact ⟨Nat.le_refl _, rfl⟩
  | o :: l, a, dm, s, out, dm', h => by
    simp only [evalOpsS] at h
    split at h
    · cases h
    · split at h
      · obtain ⟨_, a', ha', _, hd⟩ := putK_some2 h
        have := evalOpsS_next l a' _ s out dm' ha'
        exact ⟨this.1, this.2.trans hd⟩
      · split at h
        · cases h
        · rename_i v s' hs
          have h1 := stepOp_next hs
          obtain ⟨_, a', ha', _, hd⟩ := putK_some2 h
          have := evalOpsS_next l a' _ s' out dm' ha'
          exact ⟨Nat.le_trans h1 this.1, this.2.trans hd⟩
        · rename_i ch s' hs
          cases h
          exact ⟨stepOp_next hs, rfl⟩
        · cases h
    · obtain ⟨_, a', ha', _, hd⟩ := putK_some2 h
      have := evalOpsS_next l a' _ s out dm' ha'
      exact ⟨this.1, this.2.trans hd⟩

theorem evalOpsS_sim (hcs : CallS P B ro callF) {ops : Array Oper} {c₀ : Frame} {cs : List Frame} {Q : Exit → Act → List Frame → World → Prop} : ∀ (l : List Oper) (i : Nat) (a : AAct) (dm : FrameMode) (s : St) (out : Out) (dm' : FrameMode),
    ops.toList.drop i = l → evalOpsS P ro callF nt ops.toList l a dm s = some (out, dm') → ∀ (ρ : Ren) (w : World) (ac : Act) (u : FrameMode), Rel B ro ρ s.heap.get w → ActR ρ nt a ac → MdR ρ dm u → ro ≤ s.next → Wf s → Fresh ρ s out.s →
    (∀ ρ' w' ac' e' u', Step B ro ρ s w ρ' out.s w' → ActR ρ' nt out.a ac' → ExR ρ' out.e e' → MdR ρ' dm' u' → Q e' ac' ({ c₀ with mode := u' } :: cs) w') → wpOpsS P ops Q (List.range' i l.length) ac ({ c₀ with mode := u } :: cs) w
  | [], i, a, dm, s, out, dm', hl, h, ρ, w, ac, u, hr, ha, hu, hro, hwf, hf, hQ => by
    simp only [evalOpsS] at h; cases h
    exact hQ ρ w ac .normal u (Step.refl hr) ha trivial hu
  | o :: l, i, a, dm, s, out, dm', hl, h, ρ, w, ac, u, hr, ha, hu, hro, hwf, hf, hQ => by
    have hoi : ops[i]? = some o := by
      have : (ops.toList.drop i)[0]? = some o := by rw [hl]; rfl
      rw [List.getElem?_drop, Array.getElem?_toList] at this; exact this
    have hl' : ops.toList.drop (i + 1) = l := by rw [← List.drop_drop, hl]; rfl
    simp only [List.length_cons, List.range'_succ, wpOpsS, hoi]
    simp only [evalOpsS] at h
    split at h
    · cases h
    · rename_i hw
      rw [wantedA_sim ha.tm hw]
      simp only [if_true]
      split at h
      · rename_i s1 hev
        have hok := evalOp_ok (B := B) hev
        obtain ⟨_, hrun⟩ := hok ρ w ac hr ha.tm hro (fun ν p q => by simp only [Res.next] at q; omega)
        rw [hrun]
        simp only
        rcases recovered_sim hu c₀ cs with ⟨v', u2, e1, e2, e3⟩ | ⟨e1, e2, e3⟩
        · rw [e1]
          simp only
          obtain ⟨a', ha1, ha2⟩ := putK_sim h ha e2
          exact evalOpsS_sim hcs l (i + 1) a' _ s out dm' hl' ha1 ρ w _ u2 hr ha2 e3 hro hwf hf hQ
        · rw [e1]
          simp only
          rw [e2, e3] at h
          obtain ⟨a', ha1, ha2⟩ := putK_sim h ha (v' := .nilIface) .nilIface
          exact evalOpsS_sim hcs l (i + 1) a' _ s out dm' hl' ha1 ρ w _ u hr ha2 hu hro hwf hf hQ
      · split at h
        · cases h
        · rename_i v s' hs
          obtain ⟨q, _, _⟩ := stepOp_sim (Q := fun e a' w' => Q e a' ({ c₀ with mode := u } :: cs) w') (next := fun a' w' => wpOpsS P ops Q (List.range' (i + 1) l.length) a' ({ c₀ with mode := u } :: cs) w') hcs hs hr ha.tm hro hwf
          obtain ⟨q1, q2⟩ := q v s' rfl
          obtain ⟨_, a0, ha0, _, _⟩ := putK_some2 h
          have hmono := (evalOpsS_next l a0 _ s' out dm' ha0).1
          have hup := q2 (hf.left hmono) (by
            intro ρ' w' v' hst hv
            obtain ⟨a', ha1, ha2⟩ := putK_sim h (ha.mono hst.le) hv
            refine evalOpsS_sim hcs l (i + 1) a' _ s' out dm' hl' ha1 ρ' w' _ u hst.rel ha2 (hu.mono hst.le) (Nat.le_trans hro hst.next) (hst.wf hwf) (hf.right hst) fun ρ2 w2 ac2 e2 u2 h1 h2 h3 h4 => ?_
            exact hQ ρ2 w2 ac2 e2 u2 (hst.trans h1) h2 h3 h4)
          unfold Oper.wp at hup
          split
          · rename_i w1 hrun; rw [hrun] at hup; exact hup.elim
          · exact hup
        · rename_i ch s' hs
          cases h
          obtain ⟨_, q, _⟩ := stepOp_sim (Q := fun e a' w' => Q e a' ({ c₀ with mode := u } :: cs) w') (next := fun a' w' => wpOpsS P ops Q (List.range' (i + 1) l.length) a' ({ c₀ with mode := u } :: cs) w') hcs hs hr ha.tm hro hwf
          obtain ⟨q1, q2⟩ := q ch s' rfl
          have hup := q2 hf fun ρ' w' ch' hst hch => hQ ρ' w' ac (.panic ch') u hst (ha.mono hst.le) hch (hu.mono hst.le)
          unfold Oper.wp at hup
          split
          · rename_i w1 hrun; rw [hrun] at hup; exact hup.elim
          · exact hup
        · cases h
    · rename_i hw
      rw [wantedA_sim ha.tm hw]
      simp only [Bool.false_eq_true, if_false]
      obtain ⟨a', ha1, ha2⟩ := putK_sim h ha (VR.und ρ)
      exact evalOpsS_sim hcs l (i + 1) a' _ s out dm' hl' ha1 ρ w _ u hr ha2 hu hro hwf hf hQ

theorem evalS_next : ∀ (k : Nat) (c : Code) (a : AAct) (dm : FrameMode) (s : St) (out : Out) (dm' : FrameMode), evalS P ro callF nt k c a dm s = some (out, dm') → s.next ≤ out.s.next ∧ out.a.defers = a.defers
  | 0, c, a, dm, s, out, dm', h => by simp [evalS] at h
  | k + 1, c, a, dm, s, out, dm', h => by
    have ih := evalS_next k
    cases c with
    | skip => simp only [evalS] at h; cases h; exact ⟨Nat.le_refl _, rfl⟩
    | ret => simp only [evalS] at h; cases h; exact ⟨Nat.le_refl _, rfl⟩
    | region id ops draw =>
      simp only [evalS] at h
      cases draw with
      | true => cases h
      | false => exact evalOpsS_next _ _ _ _ _ _ h
    | seq x y =>
      simp only [evalS] at h
      split at h
      · rename_i a1 s1 dm1 h1
        have e1 := ih _ _ _ _ _ _ h1
        have e2 := ih _ _ _ _ _ _ h
        exact ⟨Nat.le_trans e1.1 e2.1, e2.2.trans e1.2⟩
      · exact ih _ _ _ _ _ _ h
    | cond c x y =>
      simp only [evalS] at h
      split at h
      · exact ih _ _ _ _ _ _ h
      · exact ih _ _ _ _ _ _ h
      · cases h
    | _ => simp [evalS] at h

theorem evalS_sim (hcs : CallS P B ro callF) {c₀ : Frame} {cs : List Frame} : ∀ (k : Nat) (c : Code) (a : AAct) (dm : FrameMode) (s : St) (out : Out) (dm' : FrameMode), evalS P ro callF nt k c a dm s = some (out, dm') →
    ∀ (ρ : Ren) (w : World) (ac : Act) (u : FrameMode) (Q : Exit → Act → List Frame → World → Prop), Rel B ro ρ s.heap.get w → ActR ρ nt a ac → MdR ρ dm u → ro ≤ s.next → Wf s → Fresh ρ s out.s →
    (∀ ρ' w' ac' e' u', Step B ro ρ s w ρ' out.s w' → ActR ρ' nt out.a ac' → ExR ρ' out.e e' → MdR ρ' dm' u' → Q e' ac' ({ c₀ with mode := u' } :: cs) w') → c.wpS P Q ac ({ c₀ with mode := u } :: cs) w
  | 0, c, a, dm, s, out, dm', h => by simp [evalS] at h
  | k + 1, c, a, dm, s, out, dm', h => by
    intro ρ w ac u Q hr ha hu hro hwf hf hQ
    have ih := evalS_sim hcs (c₀ := c₀) (cs := cs) k
    cases c with
    | skip => simp only [evalS] at h; cases h; exact wpS_of_wp (wp_skip (hQ ρ w ac .normal u (Step.refl hr) ha trivial hu))
    | ret => simp only [evalS] at h; cases h; exact wpS_of_wp (wp_ret (hQ ρ w ac .ret u (Step.refl hr) ha trivial hu))
    | region id ops draw =>
      simp only [evalS] at h
      cases draw with
      | true => cases h
      | false =>
        simp only [cond_false] at h
        refine wpS_region ?_
        have := evalOpsS_sim (Q := Q) (c₀ := c₀) (cs := cs) hcs ops.toList 0 a dm s out dm' rfl h ρ w ac u hr ha hu hro hwf hf hQ
        rw [List.range_eq_range']
        simpa using this
    | seq x y =>
      simp only [evalS] at h
      refine wpS_seq ?_
      split at h
      · rename_i a1 s1 dm1 h1
        have hn := (evalS_next _ _ _ _ _ _ _ h).1
        refine ih x a dm s _ dm1 h1 ρ w ac u _ hr ha hu hro hwf (hf.left hn) fun ρ' w' ac' e' u' q1 q2 q3 q4 => ?_
        cases e' with
        | normal =>
          exact ih y a1 dm1 s1 out dm' h ρ' w' ac' u' Q q1.rel q2 q4 (Nat.le_trans hro q1.next) (q1.wf hwf) (hf.right q1) fun ρ2 w2 ac2 e2 u2 p1 p2 p3 p4 => hQ ρ2 w2 ac2 e2 u2 (q1.trans p1) p2 p3 p4
        | _ => exact q3.elim
      · rename_i hne
        refine ih x a dm s _ dm' h ρ w ac u _ hr ha hu hro hwf hf fun ρ' w' ac' e' u' q1 q2 q3 q4 => ?_
        cases e' with
        | normal =>
          obtain ⟨e, a1, s1⟩ := out
          cases e with
          | normal => exact absurd h (hne a1 s1 dm')
          | _ => exact q3.elim
        | _ => exact hQ _ _ _ _ _ q1 q2 q3 q4
    | cond c x y =>
      simp only [evalS] at h
      have hv := opv_rel ha.tm c
      split at h
      · rename_i hc
        rw [hc] at hv
        exact wpS_cond (t := true) hv.bool_inv (ih x a dm s out dm' h ρ w ac u Q hr ha hu hro hwf hf hQ)
      · rename_i hc
        rw [hc] at hv
        exact wpS_cond (t := false) hv.bool_inv (ih y a dm s out dm' h ρ w ac u Q hr ha hu hro hwf hf hQ)
      · cases h
    | _ => simp [evalS] at h

/-! ### Whole functions -/

theorem act_init {ρ : Ren} {args : List Value} {args' : Array Value} (h : VRs ρ args args'.toList) (hl : args.length ≤ nt) :
    ActR ρ nt ⟨T.sets args 0 .leaf, []⟩ { tmps := args' ++ Array.replicate (nt - args'.size) undef, defers := [] } := by
  have hlen : args.length = args'.size := by rw [h.length]; simp
  refine ⟨by simp; omega, fun t => ?_, .nil⟩
  unfold tmv
  rw [T.get_sets]
  by_cases ht : t < args.length
  · rw [if_pos ⟨Nat.zero_le _, by omega⟩, Nat.sub_zero]
    obtain ⟨v', hv', hr⟩ := h.get (i := t) (a := args[t]) (List.getElem?_eq_getElem ht)
    rw [List.getElem?_eq_getElem ht]
    simp only
    have : (args' ++ Array.replicate (nt - args'.size) undef).getD t undef = v' := by
      rw [Array.getElem?_toList] at hv'
      rw [Array.getD_eq_getD_getElem?, Array.getElem?_append_left (by omega), hv']
      rfl
    rw [this]; exact hr
  · rw [if_neg (by omega)]
    have : (args' ++ Array.replicate (nt - args'.size) undef).getD t undef = undef := by
      rw [Array.getD_eq_getD_getElem?, Array.getElem?_append_right (by omega), Array.getElem?_replicate]
      split <;> rfl
    rw [this]
    exact VR.und ρ

variable {fns : FuncId → Option Func}

theorem evalD_sim (hfns : ∀ f fn, fns f = some fn → P.funcs[f]? = some fn ∧ fn.name ≠ "runtime.NumGoroutine") (hcs : CallS P B ro callF) (k : Nat) : DeferS P B ro (evalD fns P ro callF k) := by
  intro f args u s r dm h ρ w args' u' hr hro hwf hargs hu hf
  unfold evalD at h
  split at h
  · rename_i fn hfn
    split at h
    · rename_i c hb
      cases hble : Nat.ble args.length fn.ntmps with
      | false => rw [hble] at h; cases h
      | true =>
        rw [hble] at h
        simp only [cond_true, T.setsK_eq] at h
        obtain ⟨p1, p2⟩ := hfns f fn hfn
        refine ⟨⟨fn, p1, p2, by rw [hb]; rfl⟩, callsD_of_wpS p1 hb fun c₀ cs hm => ?_⟩
        have hc0 : ({ c₀ with mode := u' } : Frame) = c₀ := by subst hm; rfl
        split at h
        · rename_i e a1 s1 dm1 he
          have hnx := evalS_next _ _ _ _ _ _ _ he
          have hst : r.st = s1 ∧ dm1 = dm := by
            cases e with
            | normal =>
              simp only at h
              split at h
              · rename_i r1 hr1; cases h; exact ⟨retOf_st hr1, rfl⟩
              · cases h
            | ret =>
              simp only at h
              split at h
              · rename_i r1 hr1; cases h; exact ⟨retOf_st hr1, rfl⟩
              · cases h
            | panic ch => cases h; exact ⟨rfl, rfl⟩
            | exit id => cases h
          rw [hst.1] at hf
          have := evalS_sim hcs (c₀ := c₀) (cs := cs) k c _ u s _ dm1 he ρ w _ u' (bodyPostS P fn c₀ cs fun e u2 w' => ∃ ρ', Step B ro ρ s w ρ' r.st w' ∧ RetR ρ' r e ∧ MdR ρ' dm u2) hr (act_init hargs (Nat.le_of_ble_eq_true hble)) hu hro hwf hf
            (fun ρ' w' ac' e' u2 q1 q2 q3 q4 => by
              have hdf : ac'.defers = [] := by
                have h1 := q2.defers
                simp only at hnx
                rw [hnx.2] at h1
                revert h1
                generalize ac'.defers = x
                intro h1
                cases h1
                rfl
              rw [hst.2] at q4
              cases e with
              | normal =>
                simp only at h
                split at h
                · rename_i r1 hr1
                  cases h
                  cases e' with
                  | normal =>
                    obtain ⟨v, v', z1, z2, z3⟩ := retOf_sim q1.rel q2.tm hr1
                    refine ⟨hdf, u2, rfl, v', z2, ρ', by rw [hst.1]; exact q1, by rw [z1]; exact z3, q4⟩
                  | _ => exact q3.elim
                · cases h
              | ret =>
                simp only at h
                split at h
                · rename_i r1 hr1
                  cases h
                  cases e' with
                  | ret =>
                    obtain ⟨v, v', z1, z2, z3⟩ := retOf_sim q1.rel q2.tm hr1
                    refine ⟨hdf, u2, rfl, v', z2, ρ', by rw [hst.1]; exact q1, by rw [z1]; exact z3, q4⟩
                  | _ => exact q3.elim
                · cases h
              | panic ch =>
                cases h
                cases e' with
                | panic ch' => exact ⟨hdf, u2, rfl, ρ', q1, q3, q4⟩
                | _ => exact q3.elim
              | exit id => cases h)
          rw [hc0] at this
          exact this
        · cases h
    · cases h
  · cases h

/-- What the evaluator says of a function, the model does. -/
theorem evalF_sim (hfns : ∀ f fn, fns f = some fn → P.funcs[f]? = some fn ∧ fn.name ≠ "runtime.NumGoroutine") : ∀ (k : Nat), CallS P B ro (evalF fns P ro k)
  | 0 => fun f args s r h => by simp [evalF] at h
  | k + 1 => fun f args s r h ρ w args' hr hro hwf hargs hf => by
    have ih := evalF_sim hfns k
    have hds := evalD_sim hfns ih k
    unfold evalF at h
    split at h
    · rename_i fn hfn
      split at h
      · rename_i c hb
        cases hble : Nat.ble args.length fn.ntmps with
        | false => rw [hble] at h; cases h
        | true =>
          rw [hble] at h
          simp only [cond_true, T.setsK_eq] at h
          obtain ⟨p1, p2⟩ := hfns f fn hfn
          refine ⟨⟨fn, p1, p2, by rw [hb]; rfl⟩, calls_of_wp_defers p1 hb ?_⟩
          split at h
          · rename_i o he
            have hfin : ∃ u, (∀ ρ e', ExR ρ o.e e' → ∃ u', MdR ρ u u' ∧ ((e' = .normal ∧ u' = .returning) ∨ (e' = .ret ∧ u' = .returning) ∨ ∃ ch', e' = .panic ch' ∧ u' = .panicking ch')) ∧ leave P (evalD fns P ro (evalF fns P ro k) k) fn o.a.tm o.a.defers u o.s = some r := by
              obtain ⟨e, a1, s1⟩ := o
              cases e with
              | normal => exact ⟨.returning, fun ρ e' hx => by cases e' <;> first | exact hx.elim | exact ⟨.returning, trivial, .inl ⟨rfl, rfl⟩⟩, h⟩
              | ret => exact ⟨.returning, fun ρ e' hx => by cases e' <;> first | exact hx.elim | exact ⟨.returning, trivial, .inr (.inl ⟨rfl, rfl⟩)⟩, h⟩
              | panic ch => exact ⟨.panicking ch, fun ρ e' hx => by cases e' <;> first | exact hx.elim | exact ⟨.panicking _, hx, .inr (.inr ⟨_, rfl, rfl⟩)⟩, h⟩
              | exit id => cases h
            obtain ⟨u, hu, hlv⟩ := hfin
            have hn := leave_next _ _ _ _ hlv
            refine evalC_sim ih k c _ s o he ρ w _ _ hr (act_init hargs (Nat.le_of_ble_eq_true hble)) hro hwf (hf.left hn) fun ρ' w' ac' e' q1 q2 q3 => ?_
            obtain ⟨u', hmd, hcase⟩ := hu ρ' e' q3
            have hl := leave_sim hds (R := fun e w' => ∃ ρ', Step B ro ρ s w ρ' r.st w' ∧ RetR ρ' r e) _ u o.s hlv ρ' w' ac'.defers u' q1.rel q2.tm q2.defers hmd (Nat.le_trans hro q1.next) (q1.wf hwf) (hf.right q1)
              fun ρ2 w2 e2 z1 z2 => ⟨ρ2, q1.trans z1, z2⟩
            rcases hcase with ⟨rfl, rfl⟩ | ⟨rfl, rfl⟩ | ⟨ch', rfl, rfl⟩
            · exact hl
            · exact hl
            · exact hl
          · cases h
      · cases h
    · cases h

end
end Go.Ab

namespace Go.Ab

def namesOk (P : Program) : Bool := P.funcs.toList.all fun fn => fn.name != "runtime.NumGoroutine"

theorem fnsOf_ok {P : Program} (h : namesOk P = true) : ∀ f fn, fnsOf P f = some fn → P.funcs[f]? = some fn ∧ fn.name ≠ "runtime.NumGoroutine" := by
  intro f fn hf
  refine ⟨hf, ?_⟩
  simp only [namesOk, List.all_eq_true] at h
  have hm : fn ∈ P.funcs.toList := by
    have h2 : P.funcs.toList[f]? = some fn := by rw [Array.getElem?_toList]; exact hf
    exact List.mem_of_getElem? h2
  simpa using h fn hm

/-- A function without parameters of which the evaluator says 'true': in the model it returns true from every world, and turns nothing that was there. -/
theorem calls_true {P : Program} (hn : namesOk P = true) {ro k : Nat} {f : FuncId} (h : okTrue (evalF (fnsOf P) P ro k f [] ⟨.leaf, ro⟩) = true) (W : World) :
    Calls P f #[] W fun e W' => e = .returned (.bool true) ∧ Go.RowKit.Below W.heap.size W W' := by
  cases he : evalF (fnsOf P) P ro k f [] ⟨.leaf, ro⟩ with
  | none => rw [he] at h; cases h
  | some r =>
    have hr : Rel W.heap.size ro (fun _ => none) (T.leaf : T AObj).get W :=
      { base := Nat.le_refl _, inb := (fun _ _ e => by cases e), own := (fun _ _ e => by cases e), rdo := (fun _ _ e => by cases e), inj := (fun _ _ _ _ e => by cases e), obj := (fun _ _ _ e => by cases e) }
    obtain ⟨_, hc⟩ := evalF_sim (B := W.heap.size) (ro := ro) (fnsOf_ok hn) k f [] ⟨.leaf, ro⟩ r he (fun _ => none) W #[] hr (Nat.le_refl _) (wf_leaf _) .nil (fun _ _ _ => rfl)
    refine hc.mono fun e W' ⟨ρ', h1, h2⟩ => ?_
    refine ⟨?_, h1.below hr⟩
    rw [he] at h
    cases r with
    | pan ch s => cases h
    | ok v s =>
      cases v <;> simp only [okTrue, Bool.false_eq_true] at h
      subst h
      cases e with
      | returned v' => rw [VR.bool_inv h2]
      | panicked c => exact h2.elim
      | outgrown => exact h2.elim

end Go.Ab
