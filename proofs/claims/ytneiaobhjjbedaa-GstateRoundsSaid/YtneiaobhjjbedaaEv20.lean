/- A part of the proof that what the evaluator says of a piece of code, the model does: no condition but those that each theorem states. -/
import Derived.Test.YtneiaobhjjbedaaEv19
namespace Go.Ab

section
variable {P : Program} {B ro : Nat} {callF : CallE} {nt : Nat} {ops : Array Oper} {a a2 : AAct} {s s2 : St} {log : List Rec}

theorem wf_leaf (n : Nat) : Wf ⟨.leaf, n⟩ := fun ν o h => by simp [T.get_leaf] at h

theorem get_leaf (ν : Nat) : T.get (.leaf : T AObj) ν = none := rfl

/-- One operation that ran, done at its turn. -/
theorem Ctx.emit (C : Ctx P B ro callF nt ops a s log a2 s2) {ρ0 : Ren} {w0 : World} {dfs : List Deferred} {done : List Nat} {e : Nat} {ρ : Ren} {w : World} {ac : Act}
    (inv : Inv P B ro nt a s2 log ρ0 w0 dfs done e ρ w ac) {q : Nat} {r : Rec} (hq : log[q]? = some r) (ht : Turn ops done r.i) (sx sx' : St)
    (hstep : stepOp P ro callF r.tm r.o.op sx = some (.inl (.ok r.v sx'))) (hro : ro ≤ sx.next) (hwf : Wf sx) (hfr : Fresh ρ sx sx')
    (sub : ∀ ν i o, ρ ν = some i → sx.heap.get ν = some o → Hf log s2 e ν = some o) (K : Nat → Bool) (hK : ∀ ν i, ρ ν = some i → K ν = false → sx.heap.get ν = none)
    (hnew : ∀ ν, sx.next ≤ ν → ν < sx'.next → K ν = true) (hwin : ∀ ν, sx.next ≤ ν → ν < sx'.next → Win r ν) (e' : Nat)
    (hH : ∀ ν, (if K ν then sx'.heap.get ν else Hf log s2 e ν) = Hf log s2 e' ν) (hacts : ∀ (p : Nat) (x : Rec), e' ≤ p → log[p]? = some x → isAct P x = true → x.i ∉ done ++ [r.i])
    (hlast : e' = 0 ∨ ∃ (p : Nat) (x : Rec), e' = p + 1 ∧ log[p]? = some x ∧ isAct P x = true ∧ x.i ∈ done ++ [r.i]) (hwf' : Wf sx' → Wf (stA log s2 e'))
    {Q : Exit → Act → World → Prop} {next : Act → World → Prop} (ih : ∀ ρ' w' ac', Inv P B ro nt a s2 log ρ0 w0 dfs (done ++ [r.i]) e' ρ' w' ac' → next ac' w') : r.o.wp P ac w next Q := by
  have hm := List.mem_of_getElem? hq
  have hstep' : stepOp P ro callF (tmD (fun i => decide (i ∈ done)) a.tm log) r.o.op sx = some (.inl (.ok r.v sx')) := by
    rw [stepOp_congr (ops := ops) (o := r.o) (tm' := r.tm) fun t h => C.looks hq ht h]; exact hstep
  obtain ⟨hk, _, _⟩ := stepOp_sim (Q := Q) (next := next) C.hcs hstep' (inv.step.rel.sub sub) inv.tm hro hwf
  obtain ⟨_, hk⟩ := hk r.v sx' rfl
  refine hk hfr fun ρ' w' v' hst hv => ?_
  have hfrm := hst.frame inv.step.rel sub K hK hnew
  have hHe : (fun ν => if K ν then sx'.heap.get ν else Hf log s2 e ν) = Hf log s2 e' := funext hH
  rw [hHe] at hfrm
  obtain ⟨t1, t2, t3⟩ := put_tmR (tm' := tmD (fun i => decide (i ∈ done ++ [r.i])) a.tm log) (dst := r.o.dst) (fun t => (inv.tm t).mono hst.le) inv.size (C.hL.dst r hm) hv (C.puts hq ht)
  refine ih ρ' w' _ { step := inv.step.trans hfrm, tm := t1, size := t2, defers := t3.trans inv.defers, acts := hacts, last := hlast, wf := hwf' (hst.wf hwf), names := ?_ }
  intro ν i h1 h2
  cases h0 : ρ ν with
  | some j =>
    obtain ⟨x, x1, x2, x3⟩ := inv.names ν j h0 h2
    exact ⟨x, x1, List.mem_append_left _ x2, x3⟩
  | none =>
    have := hst.dom ν i h0 h1
    exact ⟨r, hm, by simp, hwin ν this.1 this.2⟩

/-- One operation whose guard holds it back. -/
theorem Ctx.pass (C : Ctx P B ro callF nt ops a s log a2 s2) {ρ0 : Ren} {w0 : World} {dfs : List Deferred} {done : List Nat} {e : Nat} {ρ : Ren} {w : World} {ac : Act}
    (inv : Inv P B ro nt a s2 log ρ0 w0 dfs done e ρ w ac) {q : Nat} {r : Rec} (hq : log[q]? = some r) (ht : Turn ops done r.i) (hv : r.v = und) (hr : r.ran = false) :
    Inv P B ro nt a s2 log ρ0 w0 dfs (done ++ [r.i]) e ρ w (ac.put r.o.dst undef) := by
  have hm := List.mem_of_getElem? hq
  obtain ⟨t1, t2, t3⟩ := put_tmR (tm' := tmD (fun i => decide (i ∈ done ++ [r.i])) a.tm log) (dst := r.o.dst) (v := r.v) (v' := undef) inv.tm inv.size (C.hL.dst r hm) (hv ▸ VR.und ρ) (C.puts hq ht)
  refine { step := inv.step, tm := t1, size := t2, defers := t3.trans inv.defers, acts := ?_, last := ?_, wf := inv.wf, names := ?_ }
  · intro p x hp hx ha hin
    rcases List.mem_append.1 hin with h | h
    · exact inv.acts p x hp hx ha h
    · have : x.i = r.i := by simpa using h
      have := C.inj hx hq this
      subst this
      rw [hq] at hx; cases hx
      have := (isAct_ran ha).1
      rw [hr] at this; cases this
  · rcases inv.last with h | ⟨p, x, h1, h2, h3, h4⟩
    · exact .inl h
    · exact .inr ⟨p, x, h1, h2, h3, List.mem_append_left _ h4⟩
  · intro ν i h1 h2
    obtain ⟨x, x1, x2, x3⟩ := inv.names ν i h1 h2
    exact ⟨x, x1, List.mem_append_left _ x2, x3⟩

/-- The first act at or behind a place. -/
theorem firstAct {e : Nat} : ∀ q, e ≤ q → (∀ (p : Nat) (r : Rec), e ≤ p → p < q → log[p]? = some r → isAct P r = false) ∨
    ∃ (f : Nat) (x : Rec), e ≤ f ∧ f < q ∧ log[f]? = some x ∧ isAct P x = true ∧ ∀ (p : Nat) (r : Rec), e ≤ p → p < f → log[p]? = some r → isAct P r = false := by
  intro q h
  induction h with
  | refl => exact .inl fun p r h1 h2 => by omega
  | step hle ih =>
    rename_i m
    rcases ih with ih | ⟨f, x, h1, h2, h3, h4, h5⟩
    · cases hm : log[m]? with
      | none =>
        refine .inl fun p r h1 h2 h3 => ?_
        by_cases hpm : p = m
        · subst hpm; rw [hm] at h3; cases h3
        · exact ih p r h1 (by omega) h3
      | some x =>
        cases ha : isAct P x with
        | true => exact .inr ⟨m, x, hle, Nat.lt_succ_self m, hm, ha, ih⟩
        | false =>
          refine .inl fun p r h1 h2 h3 => ?_
          by_cases hpm : p = m
          · subst hpm; rw [hm] at h3; cases h3; exact ha
          · exact ih p r h1 (by omega) h3
    · exact .inr ⟨f, x, h1, Nat.lt_succ_of_lt h2, h3, h4, h5⟩

theorem Ctx.step1 (C : Ctx P B ro callF nt ops a s log a2 s2) {ρ0 : Ren} {w0 : World} {dfs : List Deferred} {done : List Nat} {e : Nat} {ρ : Ren} {w : World} {ac : Act} (hro : ro ≤ s.next) (hf0 : Fresh ρ0 s s2)
    (inv : Inv P B ro nt a s2 log ρ0 w0 dfs done e ρ w ac) {q : Nat} {r : Rec} (hq : log[q]? = some r) (ht : Turn ops done r.i) (hran : r.ran = true)
    {Q : Exit → Act → World → Prop} {next : Act → World → Prop} (ih : ∀ e' ρ' w' ac', Inv P B ro nt a s2 log ρ0 w0 dfs (done ++ [r.i]) e' ρ' w' ac' → next ac' w') : r.o.wp P ac w next Q := by
  have hm := List.mem_of_getElem? hq
  have hlen : log.length ≥ q + 1 := (List.getElem?_eq_some_iff.1 hq).1
  have hs := st_of (s2 := s2) hq
  have hs' := C.hL.s' q r hq
  have hfirst := C.hL.first
  have hlastSt : stA log s2 log.length = s2 := by simp [stA]
  have hros : ∀ p, ro ≤ (stA log s2 p).next := fun p => by have := C.mono (Nat.zero_le p); rw [hfirst] at this; omega
  -- names of this operation are free
  have hfresh : ∀ ν, Win r ν → ρ ν = none := by
    intro ν hw
    cases h : ρ ν with
    | none => rfl
    | some i =>
      cases h0 : ρ0 ν with
      | some j =>
        have h1 := C.mono (Nat.zero_le q)
        have h2 := C.mono (p := q + 1) (q := log.length) hlen
        rw [hfirst, ← hs] at h1
        rw [← hs', hlastSt] at h2
        have := hf0 ν (Nat.le_trans h1 hw.1) (Nat.lt_of_lt_of_le hw.2 h2)
        rw [this] at h0; cases h0
      | none =>
        obtain ⟨x, x1, x2, x3⟩ := inv.names ν i h h0
        have := C.uniq x1 hm x3 hw
        subst this
        exact absurd x2 ht.out
  -- the acts stay as they are where this is none
  have actsN : isAct P r = false → ∀ (p : Nat) (x : Rec), e ≤ p → log[p]? = some x → isAct P x = true → x.i ∉ done ++ [r.i] := by
    intro hn p x hp hx ha hin
    rcases List.mem_append.1 hin with h | h
    · exact inv.acts p x hp hx ha h
    · have : x.i = r.i := by simpa using h
      have := C.inj hx hq this
      subst this
      rw [hq] at hx; cases hx
      rw [hn] at ha; cases ha
  have lastN : e = 0 ∨ ∃ (p : Nat) (x : Rec), e = p + 1 ∧ log[p]? = some x ∧ isAct P x = true ∧ x.i ∈ done ++ [r.i] := by
    rcases inv.last with h | ⟨p, x, h1, h2, h3, h4⟩
    · exact .inl h
    · exact .inr ⟨p, x, h1, h2, h3, List.mem_append_left _ h4⟩
  have notAct : ∀ c, clsOf P r.o.op = c → c ≠ .act → isAct P r = false := by
    intro c hc hne
    unfold isAct
    split
    · rename_i h; rw [hc] at h; exact absurd h hne
    · rfl
  cases (C.hL.ok r hm).kind with
  | skip h => rw [hran] at h; cases h
  | pure _ hc hss he =>
    refine C.emit inv hq ht ⟨.leaf, r.s.next⟩ ⟨.leaf, r.s.next⟩ (stepOp_of (he _) (Nat.le_refl _)) (by rw [hs]; exact hros q) (wf_leaf _) (fun ν h1 h2 => ?_) (fun ν i o _ h => ?_) (fun _ => false) (fun ν i _ _ => rfl)
      (fun ν h1 h2 => ?_) (fun ν h1 h2 => ?_) e (fun ν => by simp) (actsN (notAct _ hc (by simp))) lastN (fun _ => inv.wf) (fun ρ' w' ac' => ih e ρ' w' ac')
    · simp only at h1 h2; omega
    · simp [T.get_leaf] at h
    · simp only at h1 h2; omega
    · simp only at h1 h2; omega
  | read _ hc hss he =>
    have hna := notAct _ hc (by simp)
    have hread : ∃ x, Hf log s2 e = Hf log s2 x ∧ Wf (stA log s2 x) ∧ evalOp P ro r.tm r.o.op (stA log s2 x) = some (.val r.v (stA log s2 x)) := by
      by_cases hqe : e ≤ q
      · rcases firstAct (P := P) (log := log) q hqe with hn | ⟨f, x, h1, h2, h3, h4, h5⟩
        · obtain ⟨b1, b2⟩ := C.quiet hqe hn inv.wf
          exact ⟨q, b1, b2, hs ▸ he⟩
        · rcases C.still hm (List.mem_of_getElem? h3) hran hc h4 with ho | ⟨v1, _⟩
          · rcases (C.pair h2 h3 hq).way with ⟨_, hb⟩ | ⟨hof, _⟩
            · exact absurd (ht.before x.i (C.lt h3) hb) (inv.acts f x h1 h3 h4)
            · rw [ordered_comm (C.pair h2 h3 hq).ne, ho] at hof; cases hof
          · obtain ⟨b1, b2⟩ := C.quiet h1 h5 inv.wf
            exact ⟨f, b1, b2, by rw [← st_of h3]; exact v1⟩
      · rcases inv.last with h0 | ⟨p, x, h1, h2, h3, h4⟩
        · omega
        · have hpq : q < p := by
            rcases Nat.lt_or_ge q p with h | h
            · exact h
            · have : p = q := by omega
              subst this
              rw [hq] at h2; cases h2
              rw [hna] at h3; cases h3
          rcases C.still hm (List.mem_of_getElem? h2) hran hc h3 with ho | ⟨_, v1⟩
          · rcases (C.pair hpq hq h2).way with ⟨_, hb⟩ | ⟨hof, _⟩
            · exact (ht.after x.i h4 hb).elim
            · rw [ho] at hof; cases hof
          · refine ⟨e, rfl, inv.wf, ?_⟩
            rw [h1, ← C.hL.s' p x h2]; exact v1
    obtain ⟨x, x1, x2, x3⟩ := hread
    refine C.emit inv hq ht _ _ (stepOp_of x3 (Nat.le_refl _)) (hros x) x2 (fun ν h1 h2 => ?_) (fun ν i o _ h => ?_) (fun ν => decide (ν < (stA log s2 x).next)) (fun ν i _ hk => ?_)
      (fun ν h1 h2 => ?_) (fun ν h1 h2 => ?_) e (fun ν => ?_) (actsN hna) lastN (fun _ => inv.wf) (fun ρ' w' ac' => ih e ρ' w' ac')
    · omega
    · rw [x1]; simp only [Hf, if_pos (x2 ν o h), h]
    · cases h : (stA log s2 x).heap.get ν with
      | none => rfl
      | some o => have := x2 ν o h; simp at hk; omega
    · omega
    · omega
    · simp only [decide_eq_true_eq]
      split
      · rename_i h; rw [x1]; simp only [Hf, if_pos h]
      · rfl
  | make _ hc ob hss he =>
    have hna : isAct P r = false := by
      refine notAct .make ?_ (by simp)
      unfold isMakeO at hc
      split at hc
      · assumption
      · cases hc
    have hqe : e ≤ q := by
      rcases Nat.lt_or_ge q e with hlt | h
      · exfalso
        rcases inv.last with h0 | ⟨p, x, h1, h2, h3, h4⟩
        · omega
        · have hpq : q < p := by
            rcases Nat.lt_or_ge q p with h | h
            · exact h
            · have : p = q := by omega
              subst this
              rw [hq] at h2; cases h2
              rw [hna] at h3; cases h3
          rcases (C.pair hpq hq h2).way with ⟨_, hb⟩ | ⟨_, _, _, hof⟩
          · exact ht.after x.i h4 hb
          · exact hof ⟨hc, (isAct_ran h3).2⟩
      · exact h
    have hn' : r.s'.next = r.s.next + 1 := by rw [hss]
    refine C.emit inv hq ht ⟨.leaf, r.s.next⟩ ⟨T.set .leaf r.s.next ob, r.s.next + 1⟩ (stepOp_of (he .leaf) (Nat.le_succ _)) (by rw [hs]; exact hros q) (wf_leaf _) (fun ν h1 h2 => ?_) (fun ν i o _ h => ?_)
      (fun ν => decide (ν = r.s.next)) (fun ν i _ _ => rfl) (fun ν h1 h2 => ?_) (fun ν h1 h2 => ?_) e (fun ν => ?_) (actsN hna) lastN (fun _ => inv.wf) (fun ρ' w' ac' => ih e ρ' w' ac')
    · exact hfresh ν ⟨h1, by rw [hn']; exact h2⟩
    · simp [T.get_leaf] at h
    · simp only [decide_eq_true_eq]; simp only at h1 h2; omega
    · exact ⟨h1, by rw [hn']; exact h2⟩
    · simp only [decide_eq_true_eq]
      split
      · rename_i h
        subst h
        have h1 := C.mono hqe
        rw [← hs] at h1
        simp only [Hf]
        rw [if_neg (by omega), C.exObj_win hm ⟨Nat.le_refl _, by rw [hn']; exact Nat.lt_succ_self _⟩, hss]
        simp only [T.get_set, if_true]
      · rfl
  | act _ hact ho =>
    have hqe : e ≤ q := by
      rcases Nat.lt_or_ge q e with hlt | h
      · exfalso
        rcases inv.last with h0 | ⟨p, x, h1, h2, h3, h4⟩
        · omega
        · rcases Nat.lt_or_ge q p with hpq | h
          · rcases (C.pair hpq hq h2).way with ⟨_, hb⟩ | ⟨_, _, hof, _⟩
            · exact ht.after x.i h4 hb
            · exact hof ⟨ho, (isAct_ran h3).2⟩
          · have : p = q := by omega
            subst this
            rw [hq] at h2; cases h2
            exact ht.out h4
      · exact h
    obtain ⟨b1, b2⟩ : Hf log s2 e = Hf log s2 q ∧ Wf (stA log s2 q) := by
      rcases firstAct (P := P) (log := log) q hqe with hn | ⟨f, x, h1, h2, h3, h4, h5⟩
      · exact C.quiet hqe hn inv.wf
      · exfalso
        rcases (C.pair h2 h3 hq).way with ⟨_, hb⟩ | ⟨_, _, hof, _⟩
        · exact inv.acts f x h1 h3 h4 (ht.before x.i (C.lt h3) hb)
        · exact hof ⟨(isAct_ran h4).2, ho⟩
    rw [← hs] at b2
    have hst : stepOp P ro callF r.tm r.o.op r.s = some (.inl (.ok r.v r.s')) := by
      rcases (C.hL.ok r hm).ok with ⟨_, _, h⟩ | ⟨h, _⟩
      · exact h
      · rw [hran] at h; cases h
    have hle : r.s.next ≤ r.s'.next := stepOp_next hst
    have hHq : ∀ ν, Hf log s2 e ν = if ν < r.s.next then r.s.heap.get ν else exObj log ν := fun ν => by rw [b1]; simp only [Hf, ← hs]
    refine C.emit inv hq ht r.s r.s' hst (by rw [hs]; exact hros q) b2 (fun ν h1 h2 => hfresh ν ⟨h1, h2⟩) (fun ν i o _ h => ?_)
      (fun ν => decide (ν < r.s'.next)) (fun ν i _ hk => ?_) (fun ν h1 h2 => by simpa using h2) (fun ν h1 h2 => ⟨h1, h2⟩) (q + 1) (fun ν => ?_) ?_ (.inr ⟨q, r, rfl, hq, hact, by simp⟩)
      (fun h => by rw [← hs']; exact h) (fun ρ' w' ac' => ih (q + 1) ρ' w' ac')
    · rw [hHq, if_pos (b2 ν o h), h]
    · cases h : r.s.heap.get ν with
      | none => rfl
      | some o => have := b2 ν o h; simp at hk; omega
    · simp only [decide_eq_true_eq, Hf, ← hs']
      split
      · rfl
      · have := hHq ν
        simp only [Hf] at this
        rw [this, if_neg (by omega)]
    · intro p x hp hx ha hin
      rcases List.mem_append.1 hin with h | h
      · exact inv.acts p x (by omega) hx ha h
      · have : x.i = r.i := by simpa using h
        have := C.inj hx hq this
        omega

theorem Ctx.run (C : Ctx P B ro callF nt ops a s log a2 s2) {ρ0 : Ren} {w0 : World} {ac0 : Act} (hro : ro ≤ s.next) (hwf0 : Wf s) (hr0 : Rel B ro ρ0 s.heap.get w0) (hf0 : Fresh ρ0 s s2) (ha0 : ActR ρ0 nt a ac0)
    {l : List Nat} (hg : Good ops l) {Q : Exit → Act → World → Prop} (hQ : ∀ ρ' w' ac', Step B ro ρ0 s w0 ρ' s2 w' → ActR ρ' nt a2 ac' → Q .normal ac' w') :
    ∀ (rest done : List Nat) (e : Nat) (ρ : Ren) (w : World) (ac : Act), done ++ rest = l → Inv P B ro nt a s2 log ρ0 w0 ac0.defers done e ρ w ac → wpOps P ops Q rest ac w
  | [], done, e, ρ, w, ac, hl, inv => by
    simp only [wpOps]
    have hall : ∀ r ∈ log, r.i ∈ done := fun r hr => by
      obtain ⟨q, hq⟩ := List.getElem?_of_mem hr
      have := hg.all r.i (C.lt hq)
      rw [← hl] at this; simpa using this
    have hlastSt : stA log s2 log.length = s2 := by simp [stA]
    have hend : Hf log s2 e = Hf log s2 log.length ∧ Wf (stA log s2 log.length) := by
      rcases Nat.lt_or_ge log.length e with h | h
      · rcases inv.last with h0 | ⟨p, x, h1, h2, h3, h4⟩
        · omega
        · have := (List.getElem?_eq_some_iff.1 h2).1; omega
      · refine C.quiet h (fun p r h1 h2 h3 => ?_) inv.wf
        cases hact : isAct P r with
        | false => rfl
        | true => exact absurd (hall r (List.mem_of_getElem? h3)) (inv.acts p r h1 h3 hact)
    rw [hlastSt] at hend
    have hHn : Hf log s2 e = s2.heap.get := by
      rw [hend.1]
      funext ν
      simp only [Hf, hlastSt]
      split
      · rfl
      · rw [C.exObj_none (by omega)]
        cases h : s2.heap.get ν with
        | none => rfl
        | some o => have := hend.2 ν o h; omega
    have hst := inv.step
    rw [hHn] at hst
    have h0s : ∀ ν i, ρ0 ν = some i → Hf log s2 0 ν = s.heap.get ν := by
      intro ν i hi
      simp only [Hf, C.hL.first]
      split
      · rfl
      · rename_i hge
        have hs2 : s2.next ≤ ν := by
          rcases Nat.lt_or_ge ν s2.next with h | h
          · have := hf0 ν (by omega) h; rw [this] at hi; cases hi
          · exact h
        rw [C.exObj_none hs2]
        cases h : s.heap.get ν with
        | none => rfl
        | some o => have := hwf0 ν o h; omega
    have hl0 : ∀ ν i, ρ0 ν = some i → Live (Hf log s2 0) ν → Live s.heap.get ν := fun ν i hi ⟨o, h1, h2⟩ => ⟨o, by rw [← h0s ν i hi]; exact h1, h2⟩
    have hmono : s.next ≤ s2.next := by have := C.mono (Nat.zero_le log.length); rw [C.hL.first, hlastSt] at this; exact this
    refine hQ ρ w ac { le := hst.le, next := hmono, dom := ?_, rel := hst.rel, blk := ?_, frm := ?_, liv := ?_, siz := hst.siz, os := hst.os, tape := hst.tape, output := hst.output, wf := fun _ => hend.2 } ?_
    · intro ν i h1 h2
      obtain ⟨r, hr, _, hw⟩ := inv.names ν i h2 h1
      obtain ⟨q, hq⟩ := List.getElem?_of_mem hr
      have hlt := (List.getElem?_eq_some_iff.1 hq).1
      have e1 := C.mono (Nat.zero_le q)
      have e2 := C.mono (p := q + 1) (q := log.length) hlt
      rw [C.hL.first, ← st_of hq] at e1
      rw [← C.hL.s' q r hq, hlastSt] at e2
      exact ⟨Nat.le_trans e1 hw.1, Nat.lt_of_lt_of_le hw.2 e2⟩
    · intro ν i h1 h2
      rcases hst.blk ν i h1 h2 with h | ⟨μ, j, c1, c2, c3, c4⟩
      · exact .inl h
      · exact .inr ⟨μ, j, c1, c2, hl0 μ j c2 c3, c4⟩
    · exact fun β hβ hn => hst.frm β hβ fun μ j c1 c2 c3 => hn μ j c1 c2 (hl0 μ j c1 c3)
    · exact fun ν i hi hl => hl0 ν i hi (hst.liv ν i hi hl)
    · refine ⟨inv.size, ?_, ?_⟩
      · have := inv.tm
        rw [tmD_eq (D' := fun _ => true) log a.tm fun r hr => by simpa using hall r hr] at this
        rw [C.hL.last]; exact this
      · rw [C.hL.defers, inv.defers]; exact ha0.defers.mono fun _ _ => DefR.mono hst.le
  | i :: rest, done, e, ρ, w, ac, hl, inv => by
    have ht := turn_of hg hl
    have hilt : i < ops.size := hg.lt i (by rw [← hl]; simp)
    obtain ⟨q, r, hq, rfl⟩ := C.pos hilt
    have hm := List.mem_of_getElem? hq
    simp only [wpOps, C.opOf hq]
    have hl' : (done ++ [r.i]) ++ rest = l := by simpa using hl
    have hlook : ∀ {b : Bool}, wantedA ops.toList r.tm r.o = some b → Region.wanted r.o (yielded ops ac.tmps) = b := fun h =>
      wantedA_sim inv.tm (wantedA_congr (ops := ops) (tm := r.tm) (fun t hm => (C.looks hq ht hm).symm) h)
    rcases (C.hL.ok r hm).ok with ⟨h1, h2, h3⟩ | ⟨h1, h2, h3, h4⟩
    · rw [hlook h2]
      simp only [if_true]
      left
      exact C.step1 hro hf0 inv hq ht h1 fun e' ρ' w' ac' inv' => C.run hro hwf0 hr0 hf0 ha0 hg hQ rest (done ++ [r.i]) e' ρ' w' ac' hl' inv'
    · rw [hlook h2]
      simp only [Bool.false_eq_true, if_false]
      exact C.run hro hwf0 hr0 hf0 ha0 hg hQ rest (done ++ [r.i]) e ρ w _ hl' (C.pass inv hq ht h3 h1)

/-- A region whose order is drawn, in every order. -/
theorem evalDraw_sim (hcs : CallS P B ro callF) (hD : drawOk P ops = true) (h : evalDraw P ro callF nt ops.toList (canonOf P ops) a s = some (a2, s2, log)) (hst : stillR P ro (befOf ops) log = true)
    {ρ0 : Ren} {w0 : World} {ac0 : Act} (hro : ro ≤ s.next) (hwf0 : Wf s) (hr0 : Rel B ro ρ0 s.heap.get w0) (hf0 : Fresh ρ0 s s2) (ha0 : ActR ρ0 nt a ac0)
    {Q : Exit → Act → World → Prop} (hQ : ∀ ρ' w' ac', Step B ro ρ0 s w0 ρ' s2 w' → ActR ρ' nt a2 ac' → Q .normal ac' w') (t : Nat) :
    wpOps P ops Q (Region.schedule (P.follows .mixedOrders) ops t) ac0 w0 := by
  have C : Ctx P B ro callF nt ops a s log a2 s2 := ⟨hcs, draw_log _ _ _ _ _ _ h, drawOk_spec hD, hst⟩
  have hg := C.hD.good t
  have hw0 : Wf (stA log s2 0) := by rw [C.hL.first]; exact hwf0
  refine C.run hro hwf0 hr0 hf0 ha0 hg hQ _ [] 0 ρ0 w0 ac0 rfl { step := StepH.refl (hr0.sub fun ν i o hi ho => ?_), tm := ?_, size := ha0.size, defers := rfl, acts := (fun p r _ _ _ h => by simp at h), last := .inl rfl, wf := hw0, names := fun ν i h1 h2 => by rw [h2] at h1; cases h1 }
  · simp only [Hf, C.hL.first] at ho
    split at ho
    · exact ho
    · rename_i hge
      have hs2 : s2.next ≤ ν := by
        rcases Nat.lt_or_ge ν s2.next with h | h
        · have := hf0 ν (by omega) h; rw [this] at hi; cases hi
        · exact h
      rw [C.exObj_none hs2] at ho; cases ho
  · have : tmD (fun i => decide (i ∈ ([] : List Nat))) a.tm log = a.tm := by
      have : ∀ (l : List Rec) (tm : T Value), tmD (fun i => decide (i ∈ ([] : List Nat))) tm l = tm := by
        intro l
        induction l with
        | nil => intro tm; rfl
        | cons r l ih => intro tm; simp only [tmD]; rw [if_neg (by simp)]; exact ih tm
      exact this log a.tm
    rw [this]; exact ha0.tm

end
end Go.Ab
