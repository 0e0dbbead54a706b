/- A part of the proof that what the evaluator says of a piece of code, the model does: no condition but those that each theorem states. -/
import Derived.Test.YtneiaobhjjbedaaEv20
namespace Go.Ab

theorem least {p : Nat → Prop} (h : ∃ n, p n) : ∃ n, p n ∧ ∀ m, p m → n ≤ m := by
  obtain ⟨n, hn⟩ := h
  induction n using Nat.strongRecOn with
  | _ n ih =>
    by_cases hm : ∃ m, m < n ∧ p m
    · obtain ⟨m, h1, h2⟩ := hm; exact ih m h1 h2
    · exact ⟨n, hn, fun m hp => by
        rcases Nat.lt_or_ge m n with h | h
        · exact absurd ⟨m, h, hp⟩ hm
        · exact h⟩

section
variable {P : Program} {B ro : Nat}

open Classical in
theorem wp_loop_n {c : Code} {Q : Exit → Act → World → Prop} (J : Nat → Act → World → Prop) {n : Nat} {a : Act} {w : World} (h0 : J n a w)
    (round : ∀ n a w, J n a w → c.wp P (Exit.then (fun a' w' => ∃ m, m < n ∧ J m a' w') Q) a w) : (Code.loop c).wp P Q a w := by
  refine wp_loop (fun a w => ∃ n, J n a w) (fun a w => if h : ∃ n, J n a w then Classical.choose (least h) else 0) ⟨n, h0⟩ ?_
  intro a w hI
  have hs := Classical.choose_spec (least hI)
  refine wp_mono (round _ a w hs.1) fun e a' w' hq => ?_
  cases e with
  | normal =>
    obtain ⟨m, hlt, hJ⟩ := hq
    have hI' : ∃ n, J n a' w' := ⟨m, hJ⟩
    refine ⟨hI', ?_⟩
    simp only [dif_pos hI, dif_pos hI']
    exact Nat.lt_of_le_of_lt ((Classical.choose_spec (least hI')).2 m hJ) hlt
  | _ => exact hq

variable {callF : CallE} {nt : Nat}

theorem evalC_next : ∀ (k : Nat) (c : Code) (a : AAct) (s : St) (out : Out), evalC P ro callF nt k c a s = some out → s.next ≤ out.s.next
  | 0, c, a, s, out, h => by simp [evalC] at h
  | k + 1, c, a, s, out, h => by
    have ih := evalC_next k
    cases c with
    | skip => simp only [evalC] at h; cases h; exact Nat.le_refl _
    | label l => simp only [evalC] at h; cases h; exact Nat.le_refl _
    | exit id => simp only [evalC] at h; cases h; exact Nat.le_refl _
    | ret => simp only [evalC] at h; cases h; exact Nat.le_refl _
    | region id ops draw =>
      simp only [evalC] at h
      cases draw with
      | false => exact evalOps_next _ _ _ _ h
      | true =>
        simp only [cond_true] at h
        cases hd : drawOk P ops with
        | false => rw [hd] at h; cases h
        | true =>
          rw [hd] at h
          simp only [cond_true] at h
          split at h
          · rename_i a' s' log he
            cases hst : stillR P ro (befOf ops) log with
            | false => rw [hst] at h; cases h
            | true =>
              rw [hst] at h; cases h
              have hL := draw_log _ _ _ _ _ _ he
              have C1 : ∀ q, (stA log s' q).next ≤ (stA log s' (q + 1)).next := by
                intro q
                cases hq : log[q]? with
                | none =>
                  have : log[q + 1]? = none := by rw [List.getElem?_eq_none_iff] at hq ⊢; omega
                  simp [stA, hq, this]
                | some r =>
                  rw [← hL.s' q r hq, ← st_of (s2 := s') hq]
                  rcases (hL.ok r (List.mem_of_getElem? hq)).ok with ⟨_, _, h⟩ | ⟨_, _, _, h⟩
                  · exact stepOp_next h
                  · rw [h]; exact Nat.le_refl _
              have C2 : ∀ q, s.next ≤ (stA log s' q).next := by
                intro q
                induction q with
                | zero => rw [hL.first]; exact Nat.le_refl _
                | succ q ih => exact Nat.le_trans ih (C1 q)
              have := C2 log.length
              have he : stA log s' log.length = s' := by simp [stA]
              rw [he] at this; exact this
          · cases h
    | seq x y =>
      simp only [evalC] at h
      split at h
      · rename_i a1 s1 h1
        exact Nat.le_trans (ih _ _ _ _ h1) (ih _ _ _ _ h)
      · exact ih _ _ _ _ h
    | cond c x y =>
      simp only [evalC] at h
      split at h
      · exact ih _ _ _ _ h
      · exact ih _ _ _ _ h
      · cases h
    | block id body =>
      simp only [evalC] at h
      split at h
      · rename_i i a1 s1 h1
        have := ih _ _ _ _ h1
        cases hb : Nat.beq i id with
        | true => rw [hb] at h; cases h; exact this
        | false => rw [hb] at h; cases h; exact this
      · exact ih _ _ _ _ h
    | loop body =>
      simp only [evalC] at h
      split at h
      · rename_i a1 s1 h1
        exact Nat.le_trans (ih _ _ _ _ h1) (ih _ _ _ _ h)
      · exact ih _ _ _ _ h
    | _ => simp [evalC] at h

/-- What the evaluator says of a piece of code, the model does. -/
theorem evalC_sim (hcs : CallS P B ro callF) : ∀ (k : Nat) (c : Code) (a : AAct) (s : St) (out : Out), evalC P ro callF nt k c a s = some out → ∀ (ρ : Ren) (w : World) (ac : Act) (Q : Exit → Act → World → Prop),
    Rel B ro ρ s.heap.get w → ActR ρ nt a ac → ro ≤ s.next → Wf s → Fresh ρ s out.s → (∀ ρ' w' ac' e', Step B ro ρ s w ρ' out.s w' → ActR ρ' nt out.a ac' → ExR ρ' out.e e' → Q e' ac' w') → c.wp P Q ac w := by
  intro k
  induction k using Nat.strongRecOn with
  | _ k IH =>
  intro c a s out h ρ w ac Q hr ha hro hwf hf hQ
  cases k with
  | zero => simp [evalC] at h
  | succ k =>
    have ih := IH k (Nat.lt_succ_self k)
    cases c with
    | skip => simp only [evalC] at h; cases h; exact wp_skip (hQ ρ w ac .normal (Step.refl hr) ha trivial)
    | label l => simp only [evalC] at h; cases h; exact wp_label (hQ ρ w ac .normal (Step.refl hr) ha trivial)
    | exit id => simp only [evalC] at h; cases h; exact wp_exit (hQ ρ w ac (.exit id) (Step.refl hr) ha rfl)
    | ret => simp only [evalC] at h; cases h; exact wp_ret (hQ ρ w ac .ret (Step.refl hr) ha trivial)
    | region id ops draw =>
      simp only [evalC] at h
      cases draw with
      | false =>
        simp only [cond_false] at h
        refine wp_region ?_
        have := evalOps_sim (Q := Q) hcs ops.toList 0 a s out rfl h ρ w ac hr ha hro hwf hf hQ
        rw [List.range_eq_range']
        simpa using this
      | true =>
        simp only [cond_true] at h
        cases hd : drawOk P ops with
        | false => rw [hd] at h; cases h
        | true =>
          rw [hd] at h
          simp only [cond_true] at h
          split at h
          · rename_i a' s' log he
            cases hst : stillR P ro (befOf ops) log with
            | false => rw [hst] at h; cases h
            | true =>
              rw [hst] at h; cases h
              have hdr : Step B ro ρ s w ρ s { w with drawn := w.drawn + 1 } := Step.drew hr rfl rfl rfl rfl
              refine wp_region_draw fun t => ?_
              exact evalDraw_sim hcs hd he hst hro hwf hdr.rel hf ha (fun ρ' w' ac' h1 h2 => hQ ρ' w' ac' .normal (hdr.trans h1) h2 trivial) t
          · cases h
    | seq x y =>
      simp only [evalC] at h
      refine wp_seq ?_
      split at h
      · rename_i a1 s1 h1
        have hn := evalC_next _ _ _ _ _ h
        refine ih x a s _ h1 ρ w ac _ hr ha hro hwf (hf.left hn) fun ρ' w' ac' e' q1 q2 q3 => ?_
        cases e' with
        | normal =>
          exact ih y a1 s1 out h ρ' w' ac' Q q1.rel q2 (Nat.le_trans hro q1.next) (q1.wf hwf) (hf.right q1) fun ρ2 w2 ac2 e2 p1 p2 p3 => hQ ρ2 w2 ac2 e2 (q1.trans p1) p2 p3
        | _ => exact q3.elim
      · rename_i hne
        refine ih x a s _ h ρ w ac _ hr ha hro hwf hf fun ρ' w' ac' e' q1 q2 q3 => ?_
        cases e' with
        | normal =>
          obtain ⟨e, a1, s1⟩ := out
          cases e with
          | normal => exact absurd h (hne a1 s1)
          | _ => exact q3.elim
        | _ => exact hQ _ _ _ _ q1 q2 q3
    | cond c x y =>
      simp only [evalC] at h
      have hv := opv_rel ha.tm c
      split at h
      · rename_i hc
        rw [hc] at hv
        exact wp_cond_true hv.bool_inv (ih x a s out h ρ w ac Q hr ha hro hwf hf hQ)
      · rename_i hc
        rw [hc] at hv
        exact wp_cond_false hv.bool_inv (ih y a s out h ρ w ac Q hr ha hro hwf hf hQ)
      · cases h
    | block id body =>
      simp only [evalC] at h
      refine wp_block ?_
      split at h
      · rename_i i a1 s1 h1
        have hout : out.s = s1 ∧ out.a = a1 := by
          cases hb : Nat.beq i id with
          | true => rw [hb] at h; cases h; exact ⟨rfl, rfl⟩
          | false => rw [hb] at h; cases h; exact ⟨rfl, rfl⟩
        refine ih body a s _ h1 ρ w ac _ hr ha hro hwf (by rw [← hout.1]; exact hf) fun ρ' w' ac' e' q1 q2 q3 => ?_
        cases e' with
        | exit j =>
          have hij : i = j := q3
          subst hij
          simp only [Exit.inBlock]
          cases hb : Nat.beq i id with
          | true =>
            have := Nat.eq_of_beq_eq_true hb
            rw [if_pos this]
            rw [hb] at h; cases h
            exact hQ _ _ _ _ q1 q2 trivial
          | false =>
            have : i ≠ id := Nat.ne_of_beq_eq_false hb
            rw [if_neg this]
            rw [hb] at h; cases h
            exact hQ _ _ _ _ q1 q2 rfl
        | _ => exact q3.elim
      · rename_i hne
        refine ih body a s _ h ρ w ac _ hr ha hro hwf hf fun ρ' w' ac' e' q1 q2 q3 => ?_
        cases e' with
        | exit j =>
          obtain ⟨e, a1, s1⟩ := out
          cases e with
          | exit i => exact absurd h (hne i a1 s1)
          | _ => exact q3.elim
        | _ => exact hQ _ _ _ _ q1 q2 q3
    | loop body =>
      have hmain : ∀ (n : Nat) (ac : Act) (w : World), (n ≤ k + 1 ∧ ∃ a1 s1 ρ1, evalC P ro callF nt n (.loop body) a1 s1 = some out ∧ Rel B ro ρ1 s1.heap.get w ∧ ActR ρ1 nt a1 ac ∧ ro ≤ s1.next ∧ Wf s1 ∧ Fresh ρ1 s1 out.s ∧
          (∀ ρ' w' ac' e', Step B ro ρ1 s1 w ρ' out.s w' → ActR ρ' nt out.a ac' → ExR ρ' out.e e' → Q e' ac' w')) →
          body.wp P (Exit.then (fun ac' w' => ∃ m, m < n ∧ (m ≤ k + 1 ∧ ∃ a1 s1 ρ1, evalC P ro callF nt m (.loop body) a1 s1 = some out ∧ Rel B ro ρ1 s1.heap.get w' ∧ ActR ρ1 nt a1 ac' ∧ ro ≤ s1.next ∧ Wf s1 ∧ Fresh ρ1 s1 out.s ∧
          (∀ ρ' w2 ac2 e', Step B ro ρ1 s1 w' ρ' out.s w2 → ActR ρ' nt out.a ac2 → ExR ρ' out.e e' → Q e' ac2 w2))) Q) ac w := by
        rintro n ac w ⟨hnk, a1, s1, ρ1, h1, hr1, ha1, hro1, hwf1, hf1, hQ1⟩
        cases n with
        | zero => simp [evalC] at h1
        | succ n =>
          simp only [evalC] at h1
          have ihn := IH n (by omega)
          split at h1
          · rename_i a2 s2 h2
            have hn := evalC_next _ _ _ _ _ h1
            refine ihn body a1 s1 _ h2 ρ1 w ac _ hr1 ha1 hro1 hwf1 (hf1.left hn) fun ρ' w' ac' e' q1 q2 q3 => ?_
            cases e' with
            | normal =>
              exact ⟨n, Nat.lt_succ_self n, by omega, a2, s2, ρ', h1, q1.rel, q2, Nat.le_trans hro1 q1.next, q1.wf hwf1, hf1.right q1, fun ρ2 w2 ac2 e2 p1 p2 p3 => hQ1 ρ2 w2 ac2 e2 (q1.trans p1) p2 p3⟩
            | _ => exact q3.elim
          · rename_i hne
            refine ihn body a1 s1 _ h1 ρ1 w ac _ hr1 ha1 hro1 hwf1 hf1 fun ρ' w' ac' e' q1 q2 q3 => ?_
            cases e' with
            | normal =>
              obtain ⟨e, a3, s3⟩ := out
              cases e with
              | normal => exact absurd h1 (hne a3 s3)
              | _ => exact q3.elim
            | _ => exact hQ1 _ _ _ _ q1 q2 q3
      exact wp_loop_n _ (n := k + 1) ⟨Nat.le_refl _, a, s, ρ, h, hr, ha, hro, hwf, hf, hQ⟩ hmain
    | _ => simp [evalC] at h

end
end Go.Ab
