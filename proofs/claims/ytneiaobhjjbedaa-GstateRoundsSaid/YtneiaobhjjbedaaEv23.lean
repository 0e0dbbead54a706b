/- A part of the proof that what the evaluator says of a piece of code, the model does: no condition but those that each theorem states. -/
import Derived.Test.YtneiaobhjjbedaaEv22
namespace Go.Ab

section
variable {P : Program} {B ro : Nat} {callF : CallE} {nt : Nat}

/-! ### The bodies of deferred calls -/

theorem recovered_sim {ρ : Ren} {dm u : FrameMode} (h : MdR ρ dm u) (c₀ : Frame) (cs : List Frame) :
    (∃ v' u2, recoverD ({ c₀ with mode := u } :: cs) = some (v', { c₀ with mode := u2 } :: cs) ∧ VR ρ (recovered dm).1 v' ∧ MdR ρ (recovered dm).2 u2) ∨
    (recoverD ({ c₀ with mode := u } :: cs) = none ∧ (recovered dm).1 = .nilIface ∧ (recovered dm).2 = dm) := by
  cases dm with
  | run => cases u <;> first | exact h.elim | exact .inr ⟨rfl, rfl, rfl⟩
  | returning => cases u <;> first | exact h.elim | exact .inr ⟨rfl, rfl, rfl⟩
  | panicking ch =>
    cases u with
    | run => exact h.elim
    | returning => exact h.elim
    | panicking ch' =>
      have h' : ChR ρ ch ch' := h
      cases h' with
      | nil => exact .inr ⟨rfl, rfl, rfl⟩
      | cons e t =>
        rename_i p p' l l'
        obtain ⟨v, rc, gx⟩ := p
        obtain ⟨v', rc', gx'⟩ := p'
        obtain ⟨e1, e2, e3⟩ := e
        simp only at e1 e2 e3
        subst e2; subst e3
        cases rc with
        | true => exact .inr ⟨rfl, rfl, rfl⟩
        | false =>
          cases gx with
          | true => exact .inr ⟨rfl, rfl, rfl⟩
          | false => exact .inl ⟨v', .panicking ({ v := v', recovered := true } :: l'), rfl, e1, L2.cons ⟨e1, rfl, rfl⟩ t⟩

theorem evalOpsS_next {all : List Oper} : ∀ (l : List Oper) (a : AAct) (dm : FrameMode) (s : St) (out : Out) (dm' : FrameMode), evalOpsS P ro callF nt all l a dm s = some (out, dm') → s.next ≤ out.s.next ∧ out.a.defers = a.defers
  | [], a, dm, s, out, dm', h => by simp only [evalOpsS] at h; cases h; exact ⟨Nat.le_refl _, rfl⟩
  | o :: l, a, dm, s, out, dm', h => by
    simp only [evalOpsS] at h
    split at h
    · cases h
    · split at h
      · obtain ⟨_, a', ha', _, hd⟩ := putK_some2 h
        have := evalOpsS_next l a' _ s out dm' ha'
        exact ⟨this.1, this.2.trans hd⟩
      · split at h
        · cases h
        · rename_i v s' hs
          have h1 := stepOp_next hs
          obtain ⟨_, a', ha', _, hd⟩ := putK_some2 h
          have := evalOpsS_next l a' _ s' out dm' ha'
          exact ⟨Nat.le_trans h1 this.1, this.2.trans hd⟩
        · rename_i ch s' hs
          cases h
          exact ⟨stepOp_next hs, rfl⟩
        · cases h
    · obtain ⟨_, a', ha', _, hd⟩ := putK_some2 h
      have := evalOpsS_next l a' _ s out dm' ha'
      exact ⟨this.1, this.2.trans hd⟩

theorem evalOpsS_sim (hcs : CallS P B ro callF) {ops : Array Oper} {c₀ : Frame} {cs : List Frame} {Q : Exit → Act → List Frame → World → Prop} : ∀ (l : List Oper) (i : Nat) (a : AAct) (dm : FrameMode) (s : St) (out : Out) (dm' : FrameMode),
    ops.toList.drop i = l → evalOpsS P ro callF nt ops.toList l a dm s = some (out, dm') → ∀ (ρ : Ren) (w : World) (ac : Act) (u : FrameMode), Rel B ro ρ s.heap.get w → ActR ρ nt a ac → MdR ρ dm u → ro ≤ s.next → Wf s → Fresh ρ s out.s →
    (∀ ρ' w' ac' e' u', Step B ro ρ s w ρ' out.s w' → ActR ρ' nt out.a ac' → ExR ρ' out.e e' → MdR ρ' dm' u' → Q e' ac' ({ c₀ with mode := u' } :: cs) w') → wpOpsS P ops Q (List.range' i l.length) ac ({ c₀ with mode := u } :: cs) w
  | [], i, a, dm, s, out, dm', hl, h, ρ, w, ac, u, hr, ha, hu, hro, hwf, hf, hQ => by
    simp only [evalOpsS] at h; cases h
    exact hQ ρ w ac .normal u (Step.refl hr) ha trivial hu
  | o :: l, i, a, dm, s, out, dm', hl, h, ρ, w, ac, u, hr, ha, hu, hro, hwf, hf, hQ => by
    have hoi : ops[i]? = some o := by
      have : (ops.toList.drop i)[0]? = some o := by rw [hl]; rfl
      rw [List.getElem?_drop, Array.getElem?_toList] at this; exact this
    have hl' : ops.toList.drop (i + 1) = l := by rw [← List.drop_drop, hl]; rfl
    simp only [List.length_cons, List.range'_succ, wpOpsS, hoi]
    simp only [evalOpsS] at h
    split at h
    · cases h
    · rename_i hw
      rw [wantedA_sim ha.tm hw]
      simp only [if_true]
      split at h
      · rename_i s1 hev
        have hok := evalOp_ok (B := B) hev
        obtain ⟨_, hrun⟩ := hok ρ w ac hr ha.tm hro (fun ν p q => by simp only [Res.next] at q; omega)
        rw [hrun]
        simp only
        rcases recovered_sim hu c₀ cs with ⟨v', u2, e1, e2, e3⟩ | ⟨e1, e2, e3⟩
        · rw [e1]
          simp only
          obtain ⟨a', ha1, ha2⟩ := putK_sim h ha e2
          exact evalOpsS_sim hcs l (i + 1) a' _ s out dm' hl' ha1 ρ w _ u2 hr ha2 e3 hro hwf hf hQ
        · rw [e1]
          simp only
          rw [e2, e3] at h
          obtain ⟨a', ha1, ha2⟩ := putK_sim h ha (v' := .nilIface) .nilIface
          exact evalOpsS_sim hcs l (i + 1) a' _ s out dm' hl' ha1 ρ w _ u hr ha2 hu hro hwf hf hQ
      · split at h
        · cases h
        · rename_i v s' hs
          obtain ⟨q, _, _⟩ := stepOp_sim (Q := fun e a' w' => Q e a' ({ c₀ with mode := u } :: cs) w') (next := fun a' w' => wpOpsS P ops Q (List.range' (i + 1) l.length) a' ({ c₀ with mode := u } :: cs) w') hcs hs hr ha.tm hro hwf
          obtain ⟨q1, q2⟩ := q v s' rfl
          obtain ⟨_, a0, ha0, _, _⟩ := putK_some2 h
          have hmono := (evalOpsS_next l a0 _ s' out dm' ha0).1
          have hup := q2 (hf.left hmono) (by
            intro ρ' w' v' hst hv
            obtain ⟨a', ha1, ha2⟩ := putK_sim h (ha.mono hst.le) hv
            refine evalOpsS_sim hcs l (i + 1) a' _ s' out dm' hl' ha1 ρ' w' _ u hst.rel ha2 (hu.mono hst.le) (Nat.le_trans hro hst.next) (hst.wf hwf) (hf.right hst) fun ρ2 w2 ac2 e2 u2 h1 h2 h3 h4 => ?_
            exact hQ ρ2 w2 ac2 e2 u2 (hst.trans h1) h2 h3 h4)
          unfold Oper.wp at hup
          split
          · rename_i w1 hrun; rw [hrun] at hup; exact hup.elim
          · exact hup
        · rename_i ch s' hs
          cases h
          obtain ⟨_, q, _⟩ := stepOp_sim (Q := fun e a' w' => Q e a' ({ c₀ with mode := u } :: cs) w') (next := fun a' w' => wpOpsS P ops Q (List.range' (i + 1) l.length) a' ({ c₀ with mode := u } :: cs) w') hcs hs hr ha.tm hro hwf
          obtain ⟨q1, q2⟩ := q ch s' rfl
          have hup := q2 hf fun ρ' w' ch' hst hch => hQ ρ' w' ac (.panic ch') u hst (ha.mono hst.le) hch (hu.mono hst.le)
          unfold Oper.wp at hup
          split
          · rename_i w1 hrun; rw [hrun] at hup; exact hup.elim
          · exact hup
        · cases h
    · rename_i hw
      rw [wantedA_sim ha.tm hw]
      simp only [Bool.false_eq_true, if_false]
      obtain ⟨a', ha1, ha2⟩ := putK_sim h ha (VR.und ρ)
      exact evalOpsS_sim hcs l (i + 1) a' _ s out dm' hl' ha1 ρ w _ u hr ha2 hu hro hwf hf hQ

theorem evalS_next : ∀ (k : Nat) (c : Code) (a : AAct) (dm : FrameMode) (s : St) (out : Out) (dm' : FrameMode), evalS P ro callF nt k c a dm s = some (out, dm') → s.next ≤ out.s.next ∧ out.a.defers = a.defers
  | 0, c, a, dm, s, out, dm', h => by simp [evalS] at h
  | k + 1, c, a, dm, s, out, dm', h => by
    have ih := evalS_next k
    cases c with
    | skip => simp only [evalS] at h; cases h; exact ⟨Nat.le_refl _, rfl⟩
    | ret => simp only [evalS] at h; cases h; exact ⟨Nat.le_refl _, rfl⟩
    | region id ops draw =>
      simp only [evalS] at h
      cases draw with
      | true => cases h
      | false => exact evalOpsS_next _ _ _ _ _ _ h
    | seq x y =>
      simp only [evalS] at h
      split at h
      · rename_i a1 s1 dm1 h1
        have e1 := ih _ _ _ _ _ _ h1
        have e2 := ih _ _ _ _ _ _ h
        exact ⟨Nat.le_trans e1.1 e2.1, e2.2.trans e1.2⟩
      · exact ih _ _ _ _ _ _ h
    | cond c x y =>
      simp only [evalS] at h
      split at h
      · exact ih _ _ _ _ _ _ h
      · exact ih _ _ _ _ _ _ h
      · cases h
    | _ => simp [evalS] at h

theorem evalS_sim (hcs : CallS P B ro callF) {c₀ : Frame} {cs : List Frame} : ∀ (k : Nat) (c : Code) (a : AAct) (dm : FrameMode) (s : St) (out : Out) (dm' : FrameMode), evalS P ro callF nt k c a dm s = some (out, dm') →
    ∀ (ρ : Ren) (w : World) (ac : Act) (u : FrameMode) (Q : Exit → Act → List Frame → World → Prop), Rel B ro ρ s.heap.get w → ActR ρ nt a ac → MdR ρ dm u → ro ≤ s.next → Wf s → Fresh ρ s out.s →
    (∀ ρ' w' ac' e' u', Step B ro ρ s w ρ' out.s w' → ActR ρ' nt out.a ac' → ExR ρ' out.e e' → MdR ρ' dm' u' → Q e' ac' ({ c₀ with mode := u' } :: cs) w') → c.wpS P Q ac ({ c₀ with mode := u } :: cs) w
  | 0, c, a, dm, s, out, dm', h => by simp [evalS] at h
  | k + 1, c, a, dm, s, out, dm', h => by
    intro ρ w ac u Q hr ha hu hro hwf hf hQ
    have ih := evalS_sim hcs (c₀ := c₀) (cs := cs) k
    cases c with
    | skip => simp only [evalS] at h; cases h; exact wpS_of_wp (wp_skip (hQ ρ w ac .normal u (Step.refl hr) ha trivial hu))
    | ret => simp only [evalS] at h; cases h; exact wpS_of_wp (wp_ret (hQ ρ w ac .ret u (Step.refl hr) ha trivial hu))
    | region id ops draw =>
      simp only [evalS] at h
      cases draw with
      | true => cases h
      | false =>
        simp only [cond_false] at h
        refine wpS_region ?_
        have := evalOpsS_sim (Q := Q) (c₀ := c₀) (cs := cs) hcs ops.toList 0 a dm s out dm' rfl h ρ w ac u hr ha hu hro hwf hf hQ
        rw [List.range_eq_range']
        simpa using this
    | seq x y =>
      simp only [evalS] at h
      refine wpS_seq ?_
      split at h
      · rename_i a1 s1 dm1 h1
        have hn := (evalS_next _ _ _ _ _ _ _ h).1
        refine ih x a dm s _ dm1 h1 ρ w ac u _ hr ha hu hro hwf (hf.left hn) fun ρ' w' ac' e' u' q1 q2 q3 q4 => ?_
        cases e' with
        | normal =>
          exact ih y a1 dm1 s1 out dm' h ρ' w' ac' u' Q q1.rel q2 q4 (Nat.le_trans hro q1.next) (q1.wf hwf) (hf.right q1) fun ρ2 w2 ac2 e2 u2 p1 p2 p3 p4 => hQ ρ2 w2 ac2 e2 u2 (q1.trans p1) p2 p3 p4
        | _ => exact q3.elim
      · rename_i hne
        refine ih x a dm s _ dm' h ρ w ac u _ hr ha hu hro hwf hf fun ρ' w' ac' e' u' q1 q2 q3 q4 => ?_
        cases e' with
        | normal =>
          obtain ⟨e, a1, s1⟩ := out
          cases e with
          | normal => exact absurd h (hne a1 s1 dm')
          | _ => exact q3.elim
        | _ => exact hQ _ _ _ _ _ q1 q2 q3 q4
    | cond c x y =>
      simp only [evalS] at h
      have hv := opv_rel ha.tm c
      split at h
      · rename_i hc
        rw [hc] at hv
        exact wpS_cond (t := true) hv.bool_inv (ih x a dm s out dm' h ρ w ac u Q hr ha hu hro hwf hf hQ)
      · rename_i hc
        rw [hc] at hv
        exact wpS_cond (t := false) hv.bool_inv (ih y a dm s out dm' h ρ w ac u Q hr ha hu hro hwf hf hQ)
      · cases h
    | _ => simp [evalS] at h

/-! ### Whole functions -/

theorem act_init {ρ : Ren} {args : List Value} {args' : Array Value} (h : VRs ρ args args'.toList) (hl : args.length ≤ nt) :
    ActR ρ nt ⟨T.sets args 0 .leaf, []⟩ { tmps := args' ++ Array.replicate (nt - args'.size) undef, defers := [] } := by
  have hlen : args.length = args'.size := by rw [h.length]; simp
  refine ⟨by simp; omega, fun t => ?_, .nil⟩
  unfold tmv
  rw [T.get_sets]
  by_cases ht : t < args.length
  · rw [if_pos ⟨Nat.zero_le _, by omega⟩, Nat.sub_zero]
    obtain ⟨v', hv', hr⟩ := h.get (i := t) (a := args[t]) (List.getElem?_eq_getElem ht)
    rw [List.getElem?_eq_getElem ht]
    simp only
    have : (args' ++ Array.replicate (nt - args'.size) undef).getD t undef = v' := by
      rw [Array.getElem?_toList] at hv'
      rw [Array.getD_eq_getD_getElem?, Array.getElem?_append_left (by omega), hv']
      rfl
    rw [this]; exact hr
  · rw [if_neg (by omega)]
    have : (args' ++ Array.replicate (nt - args'.size) undef).getD t undef = undef := by
      rw [Array.getD_eq_getD_getElem?, Array.getElem?_append_right (by omega), Array.getElem?_replicate]
      split <;> rfl
    rw [this]
    exact VR.und ρ

variable {fns : FuncId → Option Func}

theorem evalD_sim (hfns : ∀ f fn, fns f = some fn → P.funcs[f]? = some fn ∧ fn.name ≠ "runtime.NumGoroutine") (hcs : CallS P B ro callF) (k : Nat) : DeferS P B ro (evalD fns P ro callF k) := by
  intro f args u s r dm h ρ w args' u' hr hro hwf hargs hu hf
  unfold evalD at h
  split at h
  · rename_i fn hfn
    split at h
    · rename_i c hb
      cases hble : Nat.ble args.length fn.ntmps with
      | false => rw [hble] at h; cases h
      | true =>
        rw [hble] at h
        simp only [cond_true, T.setsK_eq] at h
        obtain ⟨p1, p2⟩ := hfns f fn hfn
        refine ⟨⟨fn, p1, p2, by rw [hb]; rfl⟩, callsD_of_wpS p1 hb fun c₀ cs hm => ?_⟩
        have hc0 : ({ c₀ with mode := u' } : Frame) = c₀ := by subst hm; rfl
        split at h
        · rename_i e a1 s1 dm1 he
          have hnx := evalS_next _ _ _ _ _ _ _ he
          have hst : r.st = s1 ∧ dm1 = dm := by
            cases e with
            | normal =>
              simp only at h
              split at h
              · rename_i r1 hr1; cases h; exact ⟨retOf_st hr1, rfl⟩
              · cases h
            | ret =>
              simp only at h
              split at h
              · rename_i r1 hr1; cases h; exact ⟨retOf_st hr1, rfl⟩
              · cases h
            | panic ch => cases h; exact ⟨rfl, rfl⟩
            | exit id => cases h
          rw [hst.1] at hf
          have := evalS_sim hcs (c₀ := c₀) (cs := cs) k c _ u s _ dm1 he ρ w _ u' (bodyPostS P fn c₀ cs fun e u2 w' => ∃ ρ', Step B ro ρ s w ρ' r.st w' ∧ RetR ρ' r e ∧ MdR ρ' dm u2) hr (act_init hargs (Nat.le_of_ble_eq_true hble)) hu hro hwf hf
            (fun ρ' w' ac' e' u2 q1 q2 q3 q4 => by
              have hdf : ac'.defers = [] := by
                have h1 := q2.defers
                simp only at hnx
                rw [hnx.2] at h1
                revert h1
                generalize ac'.defers = x
                intro h1
                cases h1
                rfl
              rw [hst.2] at q4
              cases e with
              | normal =>
                simp only at h
                split at h
                · rename_i r1 hr1
                  cases h
                  cases e' with
                  | normal =>
                    obtain ⟨v, v', z1, z2, z3⟩ := retOf_sim q1.rel q2.tm hr1
                    refine ⟨hdf, u2, rfl, v', z2, ρ', by rw [hst.1]; exact q1, by rw [z1]; exact z3, q4⟩
                  | _ => exact q3.elim
                · cases h
              | ret =>
                simp only at h
                split at h
                · rename_i r1 hr1
                  cases h
                  cases e' with
                  | ret =>
                    obtain ⟨v, v', z1, z2, z3⟩ := retOf_sim q1.rel q2.tm hr1
                    refine ⟨hdf, u2, rfl, v', z2, ρ', by rw [hst.1]; exact q1, by rw [z1]; exact z3, q4⟩
                  | _ => exact q3.elim
                · cases h
              | panic ch =>
                cases h
                cases e' with
                | panic ch' => exact ⟨hdf, u2, rfl, ρ', q1, q3, q4⟩
                | _ => exact q3.elim
              | exit id => cases h)
          rw [hc0] at this
          exact this
        · cases h
    · cases h
  · cases h

/-- What the evaluator says of a function, the model does. -/
theorem evalF_sim (hfns : ∀ f fn, fns f = some fn → P.funcs[f]? = some fn ∧ fn.name ≠ "runtime.NumGoroutine") : ∀ (k : Nat), CallS P B ro (evalF fns P ro k)
  | 0 => fun f args s r h => by simp [evalF] at h
  | k + 1 => fun f args s r h ρ w args' hr hro hwf hargs hf => by
    have ih := evalF_sim hfns k
    have hds := evalD_sim hfns ih k
    unfold evalF at h
    split at h
    · rename_i fn hfn
      split at h
      · rename_i c hb
        cases hble : Nat.ble args.length fn.ntmps with
        | false => rw [hble] at h; cases h
        | true =>
          rw [hble] at h
          simp only [cond_true, T.setsK_eq] at h
          obtain ⟨p1, p2⟩ := hfns f fn hfn
          refine ⟨⟨fn, p1, p2, by rw [hb]; rfl⟩, calls_of_wp_defers p1 hb ?_⟩
          split at h
          · rename_i o he
            have hfin : ∃ u, (∀ ρ e', ExR ρ o.e e' → ∃ u', MdR ρ u u' ∧ ((e' = .normal ∧ u' = .returning) ∨ (e' = .ret ∧ u' = .returning) ∨ ∃ ch', e' = .panic ch' ∧ u' = .panicking ch')) ∧ leave P (evalD fns P ro (evalF fns P ro k) k) fn o.a.tm o.a.defers u o.s = some r := by
              obtain ⟨e, a1, s1⟩ := o
              cases e with
              | normal => exact ⟨.returning, fun ρ e' hx => by cases e' <;> first | exact hx.elim | exact ⟨.returning, trivial, .inl ⟨rfl, rfl⟩⟩, h⟩
              | ret => exact ⟨.returning, fun ρ e' hx => by cases e' <;> first | exact hx.elim | exact ⟨.returning, trivial, .inr (.inl ⟨rfl, rfl⟩)⟩, h⟩
              | panic ch => exact ⟨.panicking ch, fun ρ e' hx => by cases e' <;> first | exact hx.elim | exact ⟨.panicking _, hx, .inr (.inr ⟨_, rfl, rfl⟩)⟩, h⟩
              | exit id => cases h
            obtain ⟨u, hu, hlv⟩ := hfin
            have hn := leave_next _ _ _ _ hlv
            refine evalC_sim ih k c _ s o he ρ w _ _ hr (act_init hargs (Nat.le_of_ble_eq_true hble)) hro hwf (hf.left hn) fun ρ' w' ac' e' q1 q2 q3 => ?_
            obtain ⟨u', hmd, hcase⟩ := hu ρ' e' q3
            have hl := leave_sim hds (R := fun e w' => ∃ ρ', Step B ro ρ s w ρ' r.st w' ∧ RetR ρ' r e) _ u o.s hlv ρ' w' ac'.defers u' q1.rel q2.tm q2.defers hmd (Nat.le_trans hro q1.next) (q1.wf hwf) (hf.right q1)
              fun ρ2 w2 e2 z1 z2 => ⟨ρ2, q1.trans z1, z2⟩
            rcases hcase with ⟨rfl, rfl⟩ | ⟨rfl, rfl⟩ | ⟨ch', rfl, rfl⟩
            · exact hl
            · exact hl
            · exact hl
          · cases h
      · cases h
    · cases h

end
end Go.Ab
