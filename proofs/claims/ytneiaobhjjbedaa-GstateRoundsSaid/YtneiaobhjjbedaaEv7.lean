/- A part of the proof that what the evaluator says of a piece of code, the model does: no condition but those that each theorem states. -/
import Derived.Test.YtneiaobhjjbedaaEv6
namespace Go.Ab

section
variable {P : Program} {B ro : Nat} {ρ : Ren} {s : St} {w : World} {tm : T Value} {ac : Act}

/-! ### Slicing -/

inductive OR (ρ : Ren) : Option Value → Option Value → Prop
  | none : OR ρ none none
  | some {v v' : Value} (h : VR ρ v v') : OR ρ (some v) (some v')

theorem or_ops (ht : TmR ρ tm ac.tmps) (x : Option Operand) : OR ρ (x.map (opv tm)) (x.map ac.eval) := by
  cases x with
  | none => exact .none
  | some x => exact .some (opv_rel ht x)

theorem run_bound1 {x x' : Value} {y y' n : Nat} {code : BoundsCode} (hx : VR ρ x x') (h : bound1 x y = some n) (hy : y ≤ y') : n ≤ y ∧ (Instr.sliceBound x' y' code).run P w = .ok n w := by
  unfold bound1 at h
  split at h
  · rename_i k m
    cases hb : Nat.ble m y with
    | false => rw [hb] at h; cases h
    | true =>
      rw [hb] at h; cases h
      have hle : n ≤ y := by simpa using hb
      have h2 : (0 : Int) ≤ Int.ofNat n ∧ Int.ofNat n ≤ (y' : Int) := ⟨by simp, by simp; omega⟩
      refine ⟨hle, ?_⟩
      simp only [Instr.sliceBound, Sem.run_bind, hx.int_inv, asIntOf, Sem.run_pure, Result.andThen_ok, h2, and_self, if_true]
      rfl
  · cases h

theorem run_bounds {isS : Bool} {len cap cap' i j m : Nat} {lo hi mx lo' hi' mx' : Option Value} (h : bounds len cap lo hi mx = some (i, j, m)) (hlo : OR ρ lo lo') (hhi : OR ρ hi hi') (hmx : OR ρ mx mx')
    (hc : cap ≤ cap') : i ≤ j ∧ j ≤ m ∧ m ≤ cap ∧ ∃ m', (mx = none → m = cap ∧ m' = cap') ∧ (mx ≠ none → m' = m) ∧ (Instr.sliceBounds isS len cap' lo' hi' mx').run P w = .ok (i, j, m') w := by
  unfold bounds at h
  split at h
  · cases h
  · rename_i m0 hm0
    split at h
    · cases h
    · split at h
      · cases h
      · rename_i j0 hj0
        split at h
        · cases h
        · rename_i i0 hi0
          cases hb : Nat.ble j0 m0 with
          | false => rw [hb] at h; cases h
          | true =>
            rw [hb] at h; cases h
            have hjm : j ≤ m := by simpa using hb
            cases hmx with
            | none =>
              simp only [boundOr] at hm0
              cases hm0
              have hlow : ∀ code, i ≤ j ∧ ∀ (F : Sem Nat), (lo' = none → F = pure 0) → (∀ v, lo' = some v → F = Instr.sliceBound v j code) → F.run P w = .ok i w := by
                intro code
                cases hlo with
                | none => simp only [boundOr] at hi0; cases hi0; exact ⟨Nat.zero_le _, fun F h1 _ => by rw [h1 rfl]; rfl⟩
                | some hv => simp only [boundOr] at hi0; obtain ⟨a, b⟩ := run_bound1 (P := P) (w := w) (code := code) hv hi0 (Nat.le_refl _); exact ⟨a, fun F _ h2 => by rw [h2 _ rfl]; exact b⟩
              refine ⟨(hlow .sliceB).1, hjm, Nat.le_refl _, cap', fun _ => ⟨rfl, rfl⟩, fun h => absurd rfl h, ?_⟩
              cases hhi with
              | none =>
                simp only [boundOr] at hj0; cases hj0
                cases hlo with
                | none => simp only [boundOr] at hi0; cases hi0; simp [Instr.sliceBounds]
                | some hv =>
                  simp only [boundOr] at hi0
                  obtain ⟨a, b⟩ := run_bound1 (P := P) (w := w) (code := .sliceB) hv hi0 (Nat.le_refl _)
                  simp [Instr.sliceBounds, b]
              | some hv2 =>
                simp only [boundOr] at hj0
                obtain ⟨a2, b2⟩ := run_bound1 (P := P) (w := w) (code := if isS then .sliceAcap else .sliceAlen) hv2 hj0 hc
                cases hlo with
                | none => simp only [boundOr] at hi0; cases hi0; simp [Instr.sliceBounds, b2]
                | some hv =>
                  simp only [boundOr] at hi0
                  obtain ⟨a, b⟩ := run_bound1 (P := P) (w := w) (code := .sliceB) hv hi0 (Nat.le_refl _)
                  simp [Instr.sliceBounds, b2, b]
            | some hv3 =>
              simp only [boundOr] at hm0
              obtain ⟨a3, b3⟩ := run_bound1 (P := P) (w := w) (code := if isS then .slice3Acap else .slice3Alen) hv3 hm0 hc
              cases hhi with
              | none => rename_i hne; exact absurd rfl (hne _ rfl)
              | some hv2 =>
                simp only [boundOr] at hj0
                obtain ⟨a2, b2⟩ := run_bound1 (P := P) (w := w) (code := .slice3B) hv2 hj0 (Nat.le_refl _)
                cases hlo with
                | none =>
                  simp only [boundOr] at hi0; cases hi0
                  exact ⟨Nat.zero_le _, hjm, a3, m, (fun h => by cases h), fun _ => rfl, by simp [Instr.sliceBounds, b2, b3]⟩
                | some hv =>
                  simp only [boundOr] at hi0
                  obtain ⟨a, b⟩ := run_bound1 (P := P) (w := w) (code := .slice3C) hv hi0 (Nat.le_refl _)
                  exact ⟨a, hjm, a3, m, (fun h => by cases h), fun _ => rfl, by simp [Instr.sliceBounds, b2, b3, b]⟩

theorem extract_bytes (b : ByteArray) (i j : Nat) : b.extract i j = ⟨((b.data.toList.drop i).take (j - i)).toArray⟩ := by
  apply ByteArray.ext
  apply Array.ext'
  simp [ByteArray.data_extract, List.extract_eq_take_drop]

theorem addIf (c : Bool) (b o n : Nat) : (if c = true then (⟨b, o, none⟩ : Addr) else (⟨b, o, none⟩ : Addr).add n) = ⟨b, if c = true then o else o + n, none⟩ := by
  cases c <;> simp [add_none]

theorem exactCap_true {b : Blk} {o cap : Nat} (h : exactCap b o cap = true) (ho : b.opn = true) : o + cap * b.es ≠ b.n := by
  unfold exactCap at h
  rw [ho] at h
  intro e
  simp [e] at h

theorem exactCap_false {b : Blk} {o cap : Nat} (h : exactCap b o cap = false) : b.opn = true ∧ o + cap * b.es = b.n := by
  unfold exactCap at h
  cases ho : b.opn with
  | false => rw [ho] at h; cases h
  | true => rw [ho] at h; exact ⟨rfl, by simpa using h⟩

theorem ok_slice {o : Oper} {t : TypeId} {x : Operand} {lo hi mx : Option Operand} {r : Res} (ho : o.op = .slice t x lo hi mx) (h : evalOp P ro tm o.op s = some r) : OpOk P B ro tm o s r := by
  intro ρ w ac hr ht hro hfr
  rw [ho] at h; simp only [evalOp] at h
  have hx := opv_rel ht x
  have h1 := or_ops (ac := ac) ht lo
  have h2 := or_ops (ac := ac) ht hi
  have h3 := or_ops (ac := ac) ht mx
  generalize lo.map (opv tm) = lo0 at h h1
  generalize hi.map (opv tm) = hi0 at h h2
  generalize mx.map (opv tm) = mx0 at h h3
  have hex : execOp ac.eval o = (do pure (.value (← Instr.sliceAt t (ac.eval x) (lo.map ac.eval) (hi.map ac.eval) (mx.map ac.eval)))) := by simp only [execOp, ho]
  generalize lo.map ac.eval = lo1 at h1 hex
  generalize hi.map ac.eval = hi1 at h2 hex
  generalize mx.map ac.eval = mx1 at h3 hex
  rw [hex]
  split at h
  · rename_i v hv
    cases h
    unfold sliceOf at hv
    split at hv
    · rename_i b hu ha
      rw [ha] at hx
      split at hv
      · cases hv
      · cases h3
        split at hv
        · rename_i i j m hb
          cases hv
          obtain ⟨b1, b2, b3, m', e1, _, e3⟩ := run_bounds (P := P) (w := w) (isS := false) hb h1 h2 (.none) (Nat.le_refl _)
          refine .same hr (v' := .string (b.extract i j)) ?_ (by rw [extract_bytes]; exact .string _)
          have hl : b.data.toList.length = b.size := by rw [Array.length_toList]; rfl
          rw [hl] at e3
          simp [Instr.sliceAt, Instr.slice, run_und hu, hx.string_inv, e3]
        · cases hv
    · rename_i e len cap hu ha
      rw [ha] at hx
      split at hv
      · rename_i i j m sz hb hsz
        cases hv
        obtain ⟨b1, b2, b3, m', e1, e2, e3⟩ := run_bounds (P := P) (w := w) (isS := true) hb h1 h2 h3 (Nat.le_refl _)
        have hm : m' = m := by
          cases mx0 with
          | none => obtain ⟨q1, q2⟩ := e1 rfl; omega
          | some _ => exact e2 (by simp)
        subst hm
        refine .same hr (v' := .slice none (j - i) (m' - i)) ?_ (.slcNil _ _)
        simp [Instr.sliceAt, Instr.slice, run_und hu, hx.slcNil_inv, e3, run_sizeOf' hsz]
      · cases hv
    · rename_i e a len cap hu ha
      rw [ha] at hx
      obtain ⟨hsp, q, o', cap', hq, he, hs⟩ := hx.slc_inv
      obtain ⟨ab, ao, asp⟩ := a
      simp only at hsp hq hs
      subst hsp
      split at hv
      · rename_i i j m size blk hb hsz hblk
        obtain ⟨hb1, hb2⟩ := liveBlk_some hblk
        obtain ⟨hC, hn, hop, hes⟩ := live_cells hr hb1 hb2 hq
        have hsum : q.r + q.n ≤ q.sz := by obtain ⟨cs, t, fr, _, _, p3, _⟩ := hC; exact p3
        cases hexa : exactCap blk ao cap with
        | true =>
          rw [hexa] at hv
          simp only [cond_true] at hv
          cases hv
          have hex2 : o' = q.r + ao ∧ cap' = cap := by
            rcases hs with h | ⟨p1, _, p3, _⟩ | ⟨p1, _, p3, p4, _⟩
            · exact h
            · exact absurd (by rw [← hes, ← hn]; exact p3) (exactCap_true hexa (hop.symm.trans p1))
            · exact absurd (by rw [← hes, ← hn, p3, p4]; omega) (exactCap_true hexa (hop.symm.trans p1))
          obtain ⟨hex3, hex4⟩ := hex2
          subst hex3; subst hex4
          obtain ⟨b1, b2, b3, m', e1, e2, e3⟩ := run_bounds (P := P) (w := w) (isS := true) hb h1 h2 h3 (Nat.le_refl _)
          have hm : m' = m := by
            cases mx0 with
            | none => obtain ⟨q1, q2⟩ := e1 rfl; omega
            | some _ => exact e2 (by simp)
          subst hm
          have hcond : (Nat.beq m' i = true) ↔ (m' = i) := by simp
          refine .same hr (v' := .slice (some (if m' = i then ⟨q.b, q.r + ao, none⟩ else ⟨q.b, q.r + ao + i * size, none⟩)) (j - i) (m' - i)) ?_ ?_
          · simp [Instr.sliceAt, Instr.slice, run_und hu, he, e3, run_sizeOf' hsz, add_none]
            split <;> rfl
          · by_cases hmi : m' = i
            · rw [if_pos hmi, hcond.2 hmi]
              exact .slc hq (.inl ⟨rfl, rfl⟩)
            · have : Nat.beq m' i = false := by
                cases e : Nat.beq m' i with
                | false => rfl
                | true => exact absurd (hcond.1 e) hmi
              rw [if_neg hmi, this, cond_false, addA_none]
              exact .slc hq (.inl ⟨by omega, rfl⟩)
        | false =>
          rw [hexa] at hv
          simp only [cond_false] at hv
          obtain ⟨hopn, hend⟩ := exactCap_false hexa
          cases hsz2 : Nat.beq blk.es size with
          | false => rw [hsz2] at hv; cases hv
          | true =>
            rw [hsz2] at hv
            simp only [cond_true] at hv
            have hsize : blk.es = size := Nat.eq_of_beq_eq_true hsz2
            have hqo : q.opn = true := hop.trans hopn
            have hle : cap ≤ cap' := by rcases hs with h | h | h <;> omega
            obtain ⟨b1, b2, b3, m', e1, e2, e3⟩ := run_bounds (P := P) (w := w) (isS := true) hb h1 h2 h3 hle
            have hval : (Instr.sliceAt t (ac.eval x) lo1 hi1 mx1).run P w = .ok (.slice (some (if m' = i then ⟨q.b, o', none⟩ else ⟨q.b, o' + i * size, none⟩)) (j - i) (m' - i)) w := by
              simp [Instr.sliceAt, Instr.slice, run_und hu, he, e3, run_sizeOf' hsz, add_none]
              split <;> rfl
            have hmulc : cap * q.es = (cap - i) * q.es + i * q.es := by
              rw [← Nat.add_mul]; congr 1; omega
            rw [hes, hsize] at hmulc
            rw [hsize] at hend
            have hqes : q.es = size := hes.trans hsize
            cases h3 with
            | none =>
              simp only at hv
              cases hv
              obtain ⟨rfl, rfl⟩ := e1 rfl
              refine .same hr (by rw [Sem.run_bind, hval]; rfl) ?_
              rw [addA_none]
              have hmul' : m' * size = (m' - i) * size + i * size := by
                rw [← Nat.add_mul]; congr 1; omega
              by_cases hmi : m' = i
              · rw [if_pos hmi]
                refine .slc hq (.inr (.inr ⟨hqo, by omega, by omega, ?_, ?_, ?_⟩))
                · have : m = i := by omega
                  subst this; rw [hn]; omega
                · rcases hs with h | h | h <;> omega
                · rcases hs with h | h | h
                  · have : m' - i = 0 := by omega
                    rw [this]; have := hn; have : ao ≤ blk.n := by omega
                    omega
                  · have : m' - i = 0 := by omega
                    rw [this]; have : ao ≤ blk.n := by omega
                    omega
                  · have : m' - i = 0 := by omega
                    rw [this]; omega
              · rw [if_neg hmi]
                rcases hs with h | h | h
                · exact .slc hq (.inl ⟨by omega, by omega⟩)
                · refine .slc hq (.inr (.inl ⟨hqo, by omega, ?_, by omega, ?_⟩))
                  · rw [hqes, hn]; omega
                  · rw [hqes]; have := h.2.2.2.2; rw [hqes] at this; omega
                · have hi0 : i = 0 := by omega
                  subst hi0
                  refine .slc hq (.inr (.inr ⟨hqo, by omega, by omega, by omega, by omega, ?_⟩))
                  have := h.2.2.2.2.2
                  simpa using this
            | some hv3 =>
              simp only at hv
              cases hv
              have hm' := e2 (by simp)
              subst hm'
              refine .same hr (by rw [Sem.run_bind, hval]; rfl) ?_
              have hcond : (Nat.beq m' i = true) ↔ (m' = i) := by simp
              rcases hs with h | h | h
              · by_cases hmi : m' = i
                · rw [if_pos hmi, hcond.2 hmi]
                  exact .slc hq (.inl ⟨h.1, rfl⟩)
                · have : Nat.beq m' i = false := by
                    cases e : Nat.beq m' i with
                    | false => rfl
                    | true => exact absurd (hcond.1 e) hmi
                  rw [if_neg hmi, this, cond_false, addA_none]
                  exact .slc hq (.inl ⟨by omega, rfl⟩)
              · by_cases hmi : m' = i
                · rw [if_pos hmi, hcond.2 hmi]
                  exact .slc hq (.inl ⟨h.2.1, rfl⟩)
                · have : Nat.beq m' i = false := by
                    cases e : Nat.beq m' i with
                    | false => rfl
                    | true => exact absurd (hcond.1 e) hmi
                  rw [if_neg hmi, this, cond_false, addA_none]
                  exact .slc hq (.inl ⟨by omega, rfl⟩)
              · have hmi : m' = i := by omega
                rw [if_pos hmi, hcond.2 hmi]
                refine .slc hq (.inr (.inr ⟨hqo, by omega, by omega, h.2.2.2.1, h.2.2.2.2.1, ?_⟩))
                have h5 := h.2.2.2.2.2
                have : (m' - i) * q.es = 0 := by rw [show m' - i = 0 by omega]; simp
                omega
      · cases hv
    · rename_i arr a hu ha
      rw [ha] at hx
      obtain ⟨hsp, q, hq, he⟩ := hx.ptr_inv
      obtain ⟨ab, ao, asp⟩ := a
      simp only at hsp hq he
      subst hsp
      split at hv
      · rename_i n elem hu2
        split at hv
        · rename_i i j m size hb hsz
          cases hv
          obtain ⟨b1, b2, b3, m', e1, e2, e3⟩ := run_bounds (P := P) (w := w) (isS := false) hb h1 h2 h3 (Nat.le_refl _)
          have hm : m' = m := by
            cases mx0 with
            | none => obtain ⟨q1, q2⟩ := e1 rfl; omega
            | some _ => exact e2 (by simp)
          subst hm
          have hcond : (Nat.beq m' i = true) ↔ (m' = i) := by simp
          refine .same hr (v' := .slice (some (if m' = i then ⟨q.b, q.r + ao, none⟩ else ⟨q.b, q.r + ao + i * size, none⟩)) (j - i) (m' - i)) ?_ ?_
          · simp [Instr.sliceAt, Instr.slice, run_und hu, run_und hu2, he, asAddr, e3, run_sizeOf' hsz, add_none]
          · by_cases hmi : m' = i
            · rw [if_pos hmi, hcond.2 hmi]
              exact .slc hq (.inl ⟨rfl, rfl⟩)
            · have : Nat.beq m' i = false := by
                cases e : Nat.beq m' i with
                | false => rfl
                | true => exact absurd (hcond.1 e) hmi
              rw [if_neg hmi, this, cond_false, addA_none]
              exact .slc hq (.inl ⟨by omega, rfl⟩)
        · cases hv
      · cases hv
    · rename_i n elem a hu ha
      rw [ha] at hx
      obtain ⟨hsp, q, hq, he⟩ := hx.ptr_inv
      obtain ⟨ab, ao, asp⟩ := a
      simp only at hsp hq he
      subst hsp
      split at hv
      · rename_i i j m size hb hsz
        cases hv
        obtain ⟨b1, b2, b3, m', e1, e2, e3⟩ := run_bounds (P := P) (w := w) (isS := false) hb h1 h2 h3 (Nat.le_refl _)
        have hm : m' = m := by
          cases mx0 with
          | none => obtain ⟨q1, q2⟩ := e1 rfl; omega
          | some _ => exact e2 (by simp)
        subst hm
        have hcond : (Nat.beq m' i = true) ↔ (m' = i) := by simp
        refine .same hr (v' := .slice (some (if m' = i then ⟨q.b, q.r + ao, none⟩ else ⟨q.b, q.r + ao + i * size, none⟩)) (j - i) (m' - i)) ?_ ?_
        · simp [Instr.sliceAt, run_und hu, he, Instr.sureAddr, e3, run_sizeOf' hsz, add_none]
        · by_cases hmi : m' = i
          · rw [if_pos hmi, hcond.2 hmi]
            exact .slc hq (.inl ⟨rfl, rfl⟩)
          · have : Nat.beq m' i = false := by
              cases e : Nat.beq m' i with
              | false => rfl
              | true => exact absurd (hcond.1 e) hmi
            rw [if_neg hmi, this, cond_false, addA_none]
            exact .slc hq (.inl ⟨by omega, rfl⟩)
      · cases hv
    · cases hv
  · cases h

end
end Go.Ab
