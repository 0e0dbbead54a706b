/- A part of the proof that what the evaluator says of a piece of code, the model does: no condition but those that each theorem states. -/
import Derived.Test.YtneiaobhjjbedaaEv13
namespace Go.Ab

section
variable {P : Program} {B ro : Nat} {ρ : Ren} {s : St} {w : World} {tm : T Value} {ac : Act}

/-! ### Frames, endings -/

theorem DefR.mono {ρ ρ' : Ren} (hl : ρ.le ρ') {d d' : Deferred} (h : DefR ρ d d') : DefR ρ' d d' := by
  obtain ⟨⟨fn, c, c', h1, h2, h3⟩, h4⟩ := h
  exact ⟨⟨fn, c, c', h1, h2, VRs.mono hl h3⟩, VRs.mono hl h4⟩

structure ActR (ρ : Ren) (nt : Nat) (a : AAct) (ac : Act) : Prop where
  size : ac.tmps.size = nt
  tm : TmR ρ a.tm ac.tmps
  defers : L2 (DefR ρ) a.defers ac.defers

theorem ActR.mono {ρ ρ' : Ren} (hl : ρ.le ρ') {nt : Nat} {a : AAct} {ac : Act} (h : ActR ρ nt a ac) : ActR ρ' nt a ac :=
  ⟨h.size, fun t => (h.tm t).mono hl, h.defers.mono fun _ _ => DefR.mono hl⟩

def PanR (ρ : Ren) (p p' : PanicEntry) : Prop := VR ρ p.v p'.v ∧ p.recovered = p'.recovered ∧ p.goexit = p'.goexit
abbrev ChR (ρ : Ren) : List PanicEntry → List PanicEntry → Prop := L2 (PanR ρ)

theorem ChR.mono {ρ ρ' : Ren} (hl : ρ.le ρ') {c c' : List PanicEntry} (h : ChR ρ c c') : ChR ρ' c c' := L2.mono (fun _ _ h => ⟨h.1.mono hl, h.2⟩) h

def Ret.st : Ret → St
  | .ok _ s => s
  | .pan _ s => s

def RetR (ρ : Ren) : Ret → Ending → Prop
  | .ok v _, .returned v' => VR ρ v v'
  | .pan ch _, .panicked ch' => ChR ρ ch ch'
  | _, _ => False

def ExR (ρ : Ren) : Ex → Exit → Prop
  | .normal, .normal => True
  | .exit i, .exit j => i = j
  | .ret, .ret => True
  | .panic ch, .panic ch' => ChR ρ ch ch'
  | _, _ => False

def Fresh (ρ : Ren) (s s' : St) : Prop := ∀ ν, s.next ≤ ν → ν < s'.next → ρ ν = none

theorem Fresh.left {s1 s' : St} (h : Fresh ρ s s') (h1 : s1.next ≤ s'.next) : Fresh ρ s s1 := fun ν a b => h ν a (by omega)
theorem Fresh.right {s1 s' : St} {ρ1 : Ren} {w1 : World} (h : Fresh ρ s s') (hs : Step B ro ρ s w ρ1 s1 w1) : Fresh ρ1 s1 s' := fun ν a b => by
  cases e : ρ1 ν with
  | none => rfl
  | some i =>
    cases e0 : ρ ν with
    | none => have := hs.dom ν i e0 e; omega
    | some j => rw [h ν (Nat.le_trans hs.next a) b] at e0; cases e0

/-- What is handed in for calls is sound. -/
def CallS (P : Program) (B ro : Nat) (callF : CallE) : Prop :=
  ∀ f args s r, callF f args s = some r → ∀ (ρ : Ren) (w : World) (args' : Array Value), Rel B ro ρ s.heap.get w → ro ≤ s.next → Wf s → VRs ρ args args'.toList → Fresh ρ s r.st →
    (∃ fn, P.funcs[f]? = some fn ∧ fn.name ≠ "runtime.NumGoroutine" ∧ fn.body.isSome = true) ∧
    Calls P f args' w fun e w' => ∃ ρ', Step B ro ρ s w ρ' r.st w' ∧ RetR ρ' r e

theorem run_callFunc {f : FuncId} {fn : Func} {args : Array Value} (h1 : P.funcs[f]? = some fn) (h2 : fn.name ≠ "runtime.NumGoroutine") (h3 : fn.body.isSome = true) :
    (callFunc f args).run P w = .ok (.enter f args) w := by
  have h4 : fn.body.isNone = false := by cases hb : fn.body with | none => rw [hb] at h3; cases h3 | some c => rfl
  have h5 : (fn.name == "runtime.NumGoroutine") = false := by simpa using h2
  simp only [callFunc, Sem.run_bind, run_program, Result.andThen_ok, h1, h5, Bool.false_eq_true, if_false, h4]
  rfl

theorem tmR_set {nt : Nat} {tmps : Array Value} (h : TmR ρ tm tmps) (hs : tmps.size = nt) {d : Nat} (hd : d < nt) {v v' : Value} (hv : VR ρ v v') : TmR ρ (tm.set d v) (tmps.setIfInBounds d v') := by
  intro t
  have := h t
  unfold tmv at this ⊢
  rw [T.get_set]
  rw [Array.getD_eq_getD_getElem?, Array.getElem?_setIfInBounds]
  by_cases ht : t = d
  · subst ht
    rw [if_pos rfl, if_pos rfl, if_pos (by omega)]
    exact hv
  · rw [if_neg ht, if_neg (fun e => ht e.symm)]
    rw [Array.getD_eq_getD_getElem?] at this
    exact this

theorem putK_sim {R : Type} {nt : Nat} {a : AAct} {dst : Option Tmp} {v v' : Value} {k : AAct → Option R} {r : R} (h : putK nt a dst v k = some r) (ha : ActR ρ nt a ac) (hv : VR ρ v v') :
    ∃ a', k a' = some r ∧ ActR ρ nt a' (ac.put dst v') := by
  unfold putK at h
  split at h
  · exact ⟨a, h, ha⟩
  · rename_i d
    cases hb : Nat.blt d nt with
    | false => rw [hb] at h; cases h
    | true =>
      rw [hb] at h
      simp only [cond_true, T.setK_set] at h
      exact ⟨_, h, by simpa [Act.put] using ha.size, tmR_set ha.tm ha.size (Nat.blt_eq.mp hb) hv, ha.defers⟩

theorem VR.not_bool {v v' : Value} (h : VR ρ v v') (h1 : ∀ b, v ≠ .bool b) (h2 : ∀ c, v ≠ .chan c) (b : Bool) : v' ≠ .bool b := by
  cases h <;> first
    | (intro e; cases e; done)
    | exact absurd rfl (h1 _)
    | exact absurd rfl (h2 _)

theorem wantedA_sim {ops : Array Oper} {o : Oper} {b : Bool} (ht : TmR ρ tm ac.tmps) (h : wantedA ops.toList tm o = some b) : Region.wanted o (yielded ops ac.tmps) = b := by
  unfold wantedA at h
  unfold Region.wanted
  split at h
  · rename_i hg; cases h; rw [hg]
  · rename_i j want hg
    rw [hg]
    simp only
    rw [nth_eq, Array.getElem?_toList] at h
    split at h
    · rename_i oj hoj
      split at h
      · rename_i d hd
        have hv := ht d
        unfold tmv at hv
        have hy : yielded ops ac.tmps j = match ac.tmps[d]? with | some (.bool b) => some b | _ => none := by
          unfold yielded
          rw [hoj]
          simp only [Option.bind_some, hd]
          rfl
        rw [hy]
        split at h
        · rename_i b0 hb0
          cases h
          rw [hb0] at hv
          have := hv.bool_inv
          rw [Array.getD_eq_getD_getElem?] at this
          cases hq : ac.tmps[d]? with
          | none => rw [hq] at this; simp [undef] at this
          | some q => rw [hq] at this; simp at this; subst this; simp
        · cases h
        · rename_i hnb hnc
          cases h
          have hnot : ∀ b, ac.tmps.getD d undef ≠ .bool b := by
            intro b
            cases hq : tm.get d with
            | none => rw [hq] at hv; obtain ⟨f', e, _⟩ := VR.tuple_inv hv; rw [e]; intro e2; cases e2
            | some v =>
              rw [hq] at hv
              exact hv.not_bool (fun b e => hnb b (by rw [hq]; exact congrArg some e)) (fun c e => hnc c (by rw [hq]; exact congrArg some e)) b
          cases hq : ac.tmps[d]? with
          | none => simp
          | some q =>
            have hq2 : ac.tmps.getD d undef = q := by simp [Array.getD_eq_getD_getElem?, hq]
            rw [hq2] at hnot
            cases q <;> first
              | (simp; done)
              | exact absurd rfl (hnot _)
      · cases h
    · cases h

/-- One operation, calls taken in: what the model's rule asks. -/
theorem stepOp_sim {callF : CallE} (hcs : CallS P B ro callF) {o : Oper} {x : Sum Ret (Deferred × St)} (h : stepOp P ro callF tm o.op s = some x) (hr : Rel B ro ρ s.heap.get w) (ht : TmR ρ tm ac.tmps)
    (hro : ro ≤ s.next) (hwf : Wf s) {next : Act → World → Prop} {Q : Exit → Act → World → Prop} :
    (∀ v s', x = .inl (.ok v s') → s.next ≤ s'.next ∧ (Fresh ρ s s' → (∀ ρ' w' v', Step B ro ρ s w ρ' s' w' → VR ρ' v v' → next (ac.put o.dst v') w') → o.wp P ac w next Q)) ∧
    (∀ ch s', x = .inl (.pan ch s') → s.next ≤ s'.next ∧ (Fresh ρ s s' → (∀ ρ' w' ch', Step B ro ρ s w ρ' s' w' → ChR ρ' ch ch' → Q (.panic ch') ac w') → o.wp P ac w next Q)) ∧
    (∀ d s', x = .inr (d, s') → s' = s ∧ ((∀ d', DefR ρ d d' → next ({ ac with defers := d' :: ac.defers }.put o.dst undef) w) → o.wp P ac w next Q)) := by
  unfold stepOp at h
  split at h
  · cases h
  · rename_i v s1 hv
    have hok := evalOp_ok (B := B) hv
    cases hb : Nat.ble s.next s1.next with
    | false => rw [hb] at h; cases h
    | true =>
      rw [hb] at h; cases h
      have hle : s.next ≤ s1.next := by simpa using hb
      refine ⟨fun v' s' e => ?_, (fun ch s' e => by cases e), fun d s' e => by cases e⟩
      cases e
      refine ⟨hle, fun hf hn => ?_⟩
      obtain ⟨ρ', w', v', h1, h2, h3⟩ := hok ρ w ac hr ht hro hf
      unfold Oper.wp
      rcases h1 with h1 | ⟨h1, rfl⟩
      · rw [h1]; exact hn ρ' w' v' h2 h3
      · rw [h1]; exact hn ρ' w' undef h2 h3
  · rename_i d s1 hv
    have hok := evalOp_ok (B := B) hv
    cases h
    refine ⟨(fun v s' e => by cases e), (fun ch s' e => by cases e), fun d' s' e => ?_⟩
    cases e
    refine ⟨rfl, fun hn => ?_⟩
    obtain ⟨_, d', h1, h2⟩ := hok ρ w ac hr ht hro (fun ν a b => by simp only [Res.next] at b; omega)
    unfold Oper.wp
    rw [h1]; exact hn d' h2
  · cases h
  · rename_i v s1 hv
    have hok := evalOp_ok (B := B) hv
    cases h
    refine ⟨(fun v s' e => by cases e), fun ch s' e => ?_, (fun d s' e => by cases e)⟩
    cases e
    refine ⟨Nat.le_refl _, fun hf hn => ?_⟩
    obtain ⟨_, v', h1, h2⟩ := hok ρ w ac hr ht hro (fun ν a b => by simp only [Res.next] at b; omega)
    unfold Oper.wp
    rw [h1]; exact hn ρ w _ (Step.refl hr) (.cons ⟨h2, rfl, rfl⟩ .nil)
  · rename_i f args s1 hv
    have hok := evalOp_ok (B := B) hv
    obtain ⟨_, args', h1, h2⟩ := hok ρ w ac hr ht hro (fun ν a b => by simp only [Res.next] at b; omega)
    split at h
    · rename_i v s' hc
      cases hb : Nat.ble s.next s'.next with
      | false => rw [hb] at h; cases h
      | true =>
        rw [hb] at h; cases h
        have hle : s.next ≤ s'.next := by simpa using hb
        refine ⟨fun v' s'' e => ?_, (fun ch s' e => by cases e), fun d s' e => by cases e⟩
        cases e
        refine ⟨hle, fun hf hn => ?_⟩
        obtain ⟨⟨fn, f1, f2, f3⟩, hcalls⟩ := hcs f args s _ hc ρ w args' hr hro hwf h2 hf
        unfold Oper.wp
        rw [h1, run_callFunc f1 f2 f3, Oper.upon_enter]
        refine hcalls.mono fun e w' ⟨ρ', q1, q2⟩ => ?_
        cases e with
        | returned u => exact hn ρ' w' u q1 q2
        | panicked c => exact q2.elim
        | outgrown => exact q2.elim
    · rename_i ch s' hc
      cases hb : Nat.ble s.next s'.next with
      | false => rw [hb] at h; cases h
      | true =>
        rw [hb] at h; cases h
        have hle : s.next ≤ s'.next := by simpa using hb
        refine ⟨(fun v s' e => by cases e), fun ch' s'' e => ?_, fun d s' e => by cases e⟩
        cases e
        refine ⟨hle, fun hf hn => ?_⟩
        obtain ⟨⟨fn, f1, f2, f3⟩, hcalls⟩ := hcs f args s _ hc ρ w args' hr hro hwf h2 hf
        unfold Oper.wp
        rw [h1, run_callFunc f1 f2 f3, Oper.upon_enter]
        refine hcalls.mono fun e w' ⟨ρ', q1, q2⟩ => ?_
        cases e with
        | returned u => exact q2.elim
        | panicked c => exact hn ρ' w' c q1 q2
        | outgrown => exact q2.elim
    · cases h

theorem stepOp_next {callF : CallE} {o : Op} {x : Sum Ret (Deferred × St)} (h : stepOp P ro callF tm o s = some x) :
    match x with | .inl r => s.next ≤ r.st.next | .inr (_, s') => s' = s := by
  unfold stepOp at h
  split at h
  · cases h
  · rename_i v s1 hv
    cases hb : Nat.ble s.next s1.next with
    | false => rw [hb] at h; cases h
    | true => rw [hb] at h; cases h; exact Nat.le_of_ble_eq_true hb
  · cases h; rfl
  · cases h
  · cases h; exact Nat.le_refl _
  · split at h
    · rename_i v s' hc
      cases hb : Nat.ble s.next s'.next with
      | false => rw [hb] at h; cases h
      | true => rw [hb] at h; cases h; exact Nat.le_of_ble_eq_true hb
    · rename_i v s' hc
      cases hb : Nat.ble s.next s'.next with
      | false => rw [hb] at h; cases h
      | true => rw [hb] at h; cases h; exact Nat.le_of_ble_eq_true hb
    · cases h

theorem putK_some {R : Type} {nt : Nat} {a : AAct} {dst : Option Tmp} {v : Value} {k : AAct → Option R} {r : R} (h : putK nt a dst v k = some r) : ∃ a', k a' = some r := by
  unfold putK at h
  split at h
  · exact ⟨a, h⟩
  · rename_i d
    cases hb : Nat.blt d nt with
    | false => rw [hb] at h; cases h
    | true => rw [hb] at h; simp only [cond_true, T.setK_set] at h; exact ⟨_, h⟩

theorem evalOps_next {callF : CallE} {nt : Nat} {all : List Oper} : ∀ (l : List Oper) (a : AAct) (s : St) (out : Out), evalOps P ro callF nt all l a s = some out → s.next ≤ out.s.next
  | [], a, s, out, h => by simp only [evalOps] at h; cases h; exact Nat.le_refl _
  | o :: l, a, s, out, h => by
    simp only [evalOps] at h
    split at h
    · cases h
    · split at h
      · cases h
      · rename_i v s' hs
        have := stepOp_next hs
        obtain ⟨a', ha'⟩ := putK_some h
        exact Nat.le_trans this (evalOps_next l a' s' out ha')
      · rename_i ch s' hs
        cases h
        exact stepOp_next hs
      · rename_i d s' hs
        have := stepOp_next hs
        simp only at this
        subst this
        obtain ⟨a', ha'⟩ := putK_some h
        exact evalOps_next l a' _ out ha'
    · obtain ⟨a', ha'⟩ := putK_some h
      exact evalOps_next l a' _ out ha'

theorem evalOps_sim {callF : CallE} (hcs : CallS P B ro callF) {ops : Array Oper} {nt : Nat} {Q : Exit → Act → World → Prop} : ∀ (l : List Oper) (i : Nat) (a : AAct) (s : St) (out : Out), ops.toList.drop i = l →
    evalOps P ro callF nt ops.toList l a s = some out → ∀ (ρ : Ren) (w : World) (ac : Act), Rel B ro ρ s.heap.get w → ActR ρ nt a ac → ro ≤ s.next → Wf s → Fresh ρ s out.s →
    (∀ ρ' w' ac' e', Step B ro ρ s w ρ' out.s w' → ActR ρ' nt out.a ac' → ExR ρ' out.e e' → Q e' ac' w') → wpOps P ops Q (List.range' i l.length) ac w
  | [], i, a, s, out, hl, h, ρ, w, ac, hr, ha, hro, hwf, hf, hQ => by
    simp only [evalOps] at h; cases h
    exact hQ ρ w ac .normal (Step.refl hr) ha trivial
  | o :: l, i, a, s, out, hl, h, ρ, w, ac, hr, ha, hro, hwf, hf, hQ => by
    have hoi : ops[i]? = some o := by
      have : (ops.toList.drop i)[0]? = some o := by rw [hl]; rfl
      rw [List.getElem?_drop, Array.getElem?_toList] at this; exact this
    have hl' : ops.toList.drop (i + 1) = l := by rw [← List.drop_drop, hl]; rfl
    simp only [List.length_cons, List.range'_succ, wpOps, hoi]
    simp only [evalOps] at h
    split at h
    · cases h
    · rename_i hw
      rw [wantedA_sim ha.tm hw]
      simp only [if_true]
      left
      split at h
      · cases h
      · rename_i v s' hs
        obtain ⟨q, _, _⟩ := stepOp_sim (Q := Q) (next := wpOps P ops Q (List.range' (i + 1) l.length)) hcs hs hr ha.tm hro hwf
        obtain ⟨q1, q2⟩ := q v s' rfl
        obtain ⟨a0, ha0⟩ := putK_some h
        have hmono := evalOps_next l a0 s' out ha0
        refine q2 (hf.left hmono) fun ρ' w' v' hst hv => ?_
        obtain ⟨a', ha1, ha2⟩ := putK_sim h (ha.mono hst.le) hv
        refine evalOps_sim hcs l (i + 1) a' s' out hl' ha1 ρ' w' _ hst.rel ha2 (Nat.le_trans hro hst.next) (hst.wf hwf) (hf.right hst) fun ρ2 w2 ac2 e2 h1 h2 h3 => ?_
        exact hQ ρ2 w2 ac2 e2 (hst.trans h1) h2 h3
      · rename_i ch s' hs
        cases h
        obtain ⟨_, q, _⟩ := stepOp_sim (Q := Q) (next := wpOps P ops Q (List.range' (i + 1) l.length)) hcs hs hr ha.tm hro hwf
        obtain ⟨q1, q2⟩ := q ch s' rfl
        exact q2 hf fun ρ' w' ch' hst hch => hQ ρ' w' ac (.panic ch') hst (ha.mono hst.le) hch
      · rename_i d s' hs
        obtain ⟨_, _, q⟩ := stepOp_sim (Q := Q) (next := wpOps P ops Q (List.range' (i + 1) l.length)) hcs hs hr ha.tm hro hwf
        obtain ⟨q1, q2⟩ := q d s' rfl
        subst q1
        refine q2 fun d' hd => ?_
        obtain ⟨a', ha1, ha2⟩ := putK_sim (ac := { ac with defers := d' :: ac.defers }) h ⟨ha.size, ha.tm, .cons hd ha.defers⟩ (VR.und ρ)
        exact evalOps_sim hcs l (i + 1) a' _ out hl' ha1 ρ w _ hr ha2 hro hwf hf hQ
    · rename_i hw
      rw [wantedA_sim ha.tm hw]
      simp only [Bool.false_eq_true, if_false]
      obtain ⟨a', ha1, ha2⟩ := putK_sim h ha (VR.und ρ)
      exact evalOps_sim hcs l (i + 1) a' _ out hl' ha1 ρ w _ hr ha2 hro hwf hf hQ

end
end Go.Ab
