/- A part of the proof that what the evaluator says of a piece of code, the model does: no condition but those that each theorem states. -/
import Derived.Test.YtneiaobhjjbedaaEv16
namespace Go.Ab

section
variable {P : Program} {B ro : Nat}

/-! ### Steps over a heap that is put together -/

structure StepH (B ro : Nat) (ρ : Ren) (H : Nat → Option AObj) (w : World) (ρ' : Ren) (H' : Nat → Option AObj) (w' : World) : Prop where
  le : ρ.le ρ'
  rel : Rel B ro ρ' H' w'
  blk : ∀ ν i, ρ ν = none → ρ' ν = some i → w.heap.size ≤ i.b ∨ ∃ μ j, ro ≤ μ ∧ ρ μ = some j ∧ Live H μ ∧ j.b = i.b
  frm : ∀ β, β < w.heap.size → (∀ μ j, ρ μ = some j → ro ≤ μ → Live H μ → j.b ≠ β) → w'.heap[β]? = w.heap[β]?
  liv : ∀ ν i, ρ ν = some i → Live H' ν → Live H ν
  siz : w.heap.size ≤ w'.heap.size
  os : w'.os = w.os
  tape : w'.tape = w.tape
  output : w'.output = w.output

theorem StepH.refl {ρ : Ren} {H : Nat → Option AObj} {w : World} (h : Rel B ro ρ H w) : StepH B ro ρ H w ρ H w where
  le := Ren.le_refl ρ
  rel := h
  blk := fun ν i h1 h2 => by rw [h1] at h2; cases h2
  frm := fun _ _ _ => rfl
  liv := fun _ _ _ h => h
  siz := Nat.le_refl _
  os := rfl
  tape := rfl
  output := rfl

theorem StepH.trans {ρ ρ1 ρ2 : Ren} {H H1 H2 : Nat → Option AObj} {w w1 w2 : World} (h : StepH B ro ρ H w ρ1 H1 w1) (k : StepH B ro ρ1 H1 w1 ρ2 H2 w2) : StepH B ro ρ H w ρ2 H2 w2 where
  le := Ren.le_trans h.le k.le
  rel := k.rel
  blk := fun ν i h1 h2 => by
    cases e : ρ1 ν with
    | some j =>
      have : i = j := by have := k.le ν j e; rw [h2] at this; exact Option.some.inj this
      subst this
      exact h.blk ν i h1 e
    | none =>
      rcases k.blk ν i e h2 with hb | ⟨μ, j, m1, m2, m3, m4⟩
      · exact .inl (Nat.le_trans h.siz hb)
      · cases e0 : ρ μ with
        | some j0 =>
          have : j0 = j := by have := h.le μ j0 e0; rw [m2] at this; exact (Option.some.inj this).symm
          subst this
          exact .inr ⟨μ, j0, m1, e0, h.liv μ j0 e0 m3, m4⟩
        | none =>
          rcases h.blk μ j e0 m2 with hb | ⟨μ', j', a, b, c, d⟩
          · exact .inl (m4 ▸ hb)
          · exact .inr ⟨μ', j', a, b, c, d.trans m4⟩
  frm := fun β hβ hn => by
    rw [k.frm β (Nat.lt_of_lt_of_le hβ h.siz) ?_, h.frm β hβ hn]
    intro μ j m1 m2 m3 e
    cases e0 : ρ μ with
    | some j0 =>
      have : j0 = j := by have := h.le μ j0 e0; rw [m1] at this; exact (Option.some.inj this).symm
      subst this
      exact hn μ j0 e0 m2 (h.liv μ j0 e0 m3) e
    | none =>
      rcases h.blk μ j e0 m1 with hb | ⟨μ', j', a, b, c, d⟩
      · omega
      · exact hn μ' j' b a c (d.trans e)
  liv := fun ν i hi hl => h.liv ν i hi (k.liv ν i (h.le _ _ hi) hl)
  siz := Nat.le_trans h.siz k.siz
  os := k.os.trans h.os
  tape := k.tape.trans h.tape
  output := k.output.trans h.output

/-- A step over a part of the heap, seen from the whole. -/
theorem Step.frame {ρ ρ' : Ren} {H : Nat → Option AObj} {s s' : St} {w w' : World} (hr : Rel B ro ρ H w) (hs : Step B ro ρ s w ρ' s' w')
    (sub : ∀ ν i o, ρ ν = some i → s.heap.get ν = some o → H ν = some o) (K : Nat → Bool) (hK : ∀ ν i, ρ ν = some i → K ν = false → s.heap.get ν = none)
    (hnew : ∀ ν, s.next ≤ ν → ν < s'.next → K ν = true) : StepH B ro ρ H w ρ' (fun ν => if K ν then s'.heap.get ν else H ν) w' := by
  have sLive : ∀ ν i, ρ ν = some i → Live s.heap.get ν → Live H ν := fun ν i hi ⟨o, a, b⟩ => ⟨o, sub ν i o hi a, b⟩
  have old : ∀ ν i, K ν = false → ρ' ν = some i → ρ ν = some i := by
    intro ν i hk e
    cases e0 : ρ ν with
    | none =>
      have := hs.dom ν i e0 e
      rw [hnew ν this.1 this.2] at hk; cases hk
    | some j => have := hs.le ν j e0; rw [e] at this; exact this ▸ rfl
  have liveT : ∀ ν, K ν = true → Live (fun ν => if K ν then s'.heap.get ν else H ν) ν → Live s'.heap.get ν := by
    intro ν hk ⟨o, a, b⟩; simp only [hk, if_true] at a; exact ⟨o, a, b⟩
  have liveF : ∀ ν, K ν = false → Live (fun ν => if K ν then s'.heap.get ν else H ν) ν → Live H ν := by
    intro ν hk ⟨o, a, b⟩; simp only [hk, Bool.false_eq_true, if_false] at a; exact ⟨o, a, b⟩
  have cross : ∀ ν μ i j, K ν = true → K μ = false → ρ' ν = some i → ρ' μ = some j → ro ≤ ν → ro ≤ μ → Live s'.heap.get ν → Live H μ → i.b = j.b → False := by
    intro ν μ i j k1 k2 e1 e2 r1 r2 l1 l2 eb
    have e2' := old μ j k2 e2
    cases e0 : ρ ν with
    | some i0 =>
      have : i0 = i := by have := hs.le ν i0 e0; rw [e1] at this; exact (Option.some.inj this).symm
      subst this
      have := hr.inj ν μ i0 j e0 e2' r1 r2 (sLive ν i0 e0 (hs.liv ν i0 e0 l1)) l2 eb
      subst this
      rw [k1] at k2; cases k2
    | none =>
      rcases hs.blk ν i e0 e1 with hb | ⟨κ, k, c1, c2, c3, c4⟩
      · have := hr.inb μ j e2'; omega
      · have := hr.inj κ μ k j c2 e2' c1 r2 (sLive κ k c2 c3) l2 (by omega)
        subst this
        obtain ⟨o, a, _⟩ := c3
        rw [hK κ k c2 k2] at a; cases a
  refine { le := hs.le, rel := ?_, blk := ?_, frm := ?_, liv := ?_, siz := hs.siz, os := hs.os, tape := hs.tape, output := hs.output }
  · refine { base := hs.rel.base, inb := hs.rel.inb, own := hs.rel.own, rdo := hs.rel.rdo, inj := ?_, obj := ?_ }
    · intro ν μ i j e1 e2 r1 r2 l1 l2 eb
      cases k1 : K ν with
      | true =>
        cases k2 : K μ with
        | true => exact hs.rel.inj ν μ i j e1 e2 r1 r2 (liveT ν k1 l1) (liveT μ k2 l2) eb
        | false => exact (cross ν μ i j k1 k2 e1 e2 r1 r2 (liveT ν k1 l1) (liveF μ k2 l2) eb).elim
      | false =>
        cases k2 : K μ with
        | true => exact (cross μ ν j i k2 k1 e2 e1 r2 r1 (liveT μ k2 l2) (liveF ν k1 l1) eb.symm).elim
        | false => exact hr.inj ν μ i j (old ν i k1 e1) (old μ j k2 e2) r1 r2 (liveF ν k1 l1) (liveF μ k2 l2) eb
    · intro ν i o e e'
      cases k1 : K ν with
      | true => simp only [k1, if_true] at e'; exact hs.rel.obj ν i o e e'
      | false =>
        simp only [k1, Bool.false_eq_true, if_false] at e'
        have e0 := old ν i k1 e
        have hx := (hr.obj ν i o e0 e').mono hs.le
        by_cases hal : o.alive = true
        · refine hx.congr (hs.frm i.b (hr.inb ν i e0) fun μ j m1 m2 m3 eb => ?_)
          by_cases hro : ro ≤ ν
          · have := hr.inj μ ν j i m1 e0 m2 hro (sLive μ j m1 m3) ⟨o, e', hal⟩ eb
            subst this
            obtain ⟨o', a, _⟩ := m3
            rw [hK μ i e0 k1] at a; cases a
          · have a1 := hr.rdo ν i e0 (by omega); have a2 := hr.own μ j m1 m2; omega
        · cases o with
          | cells b => exact ⟨hx.1, hx.2.1, hx.2.2.1, fun hd => absurd (by simp [AObj.alive, hd]) hal⟩
          | map _ _ => exact absurd rfl hal
          | siter _ _ => exact absurd rfl hal
          | miter _ _ _ _ => exact absurd rfl hal
  · intro ν i e0 e1
    rcases hs.blk ν i e0 e1 with hb | ⟨κ, k, c1, c2, c3, c4⟩
    · exact .inl hb
    · exact .inr ⟨κ, k, c1, c2, sLive κ k c2 c3, c4⟩
  · exact fun β hβ hn => hs.frm β hβ fun μ j m1 m2 m3 => hn μ j m1 m2 (sLive μ j m1 m3)
  · intro ν i hi hl
    cases k1 : K ν with
    | true => exact sLive ν i hi (hs.liv ν i hi (liveT ν k1 hl))
    | false => exact liveF ν k1 hl

/-! ### The same value -/

theorem eqI_sound {a b : Int} (h : eqI a b = true) : a = b := by
  cases a <;> cases b <;> simp [eqI] at h
  · rw [h]
  · rw [h]

theorem beqBytes_sound : ∀ {a b : List UInt8}, beqBytes a b = true → a = b
  | [], [], _ => rfl
  | [], _ :: _, h => by simp [beqBytes] at h
  | _ :: _, [], h => by simp [beqBytes] at h
  | a :: x, b :: y, h => by
    simp only [beqBytes] at h
    cases hb : Nat.beq a.toNat b.toNat with
    | false => rw [hb] at h; cases h
    | true =>
      rw [hb] at h
      rw [beqBytes_sound h, UInt8.toNat_inj.1 (Nat.eq_of_beq_eq_true hb)]

theorem bytes_ext {a b : ByteArray} (h : a.data.toList = b.data.toList) : a = b := by
  cases a; cases b; simp at h; simp [h]

theorem addr_ext {a b : Addr} (h1 : a.block = b.block) (h2 : a.off = b.off) (h3 : a.spot = none) (h4 : b.spot = none) : a = b := by
  cases a; cases b; simp_all

theorem sameVs_sound {d : Nat} (ih : ∀ a b, sameV d a b = true → a = b) : ∀ (l m : List Value), sameV.sameVs d l m = true → l = m
  | [], [], _ => rfl
  | [], _ :: _, h => by simp [sameV.sameVs] at h
  | _ :: _, [], h => by simp [sameV.sameVs] at h
  | a :: l, b :: m, h => by
    simp only [sameV.sameVs, Bool.and_eq_true] at h
    rw [ih a b h.1, sameVs_sound ih l m h.2]

theorem sameV_sound : ∀ (d : Nat) (a b : Value), sameV d a b = true → a = b
  | 0, _, _, h => by simp [sameV] at h
  | d + 1, a, b, h => by
    have ih := sameV_sound d
    unfold sameV at h
    split at h
    · simpa using h
    · simp only [Bool.and_eq_true, beq_iff_eq] at h; rw [h.1, eqI_sound h.2]
    · rw [bytes_ext (beqBytes_sound h)]
    · rfl
    · simp only [Bool.and_eq_true, Option.isNone_iff_eq_none] at h
      rw [addr_ext (Nat.eq_of_beq_eq_true h.1.1.1) (Nat.eq_of_beq_eq_true h.1.1.2) h.1.2 h.2]
    · simp only [Bool.and_eq_true] at h; rw [Nat.eq_of_beq_eq_true h.1, Nat.eq_of_beq_eq_true h.2]
    · simp only [Bool.and_eq_true, Option.isNone_iff_eq_none] at h
      rw [addr_ext (Nat.eq_of_beq_eq_true h.1.1.1.1.1) (Nat.eq_of_beq_eq_true h.1.1.1.1.2) h.1.1.1.2 h.1.1.2, Nat.eq_of_beq_eq_true h.1.2, Nat.eq_of_beq_eq_true h.2]
    · rfl
    · rw [Nat.eq_of_beq_eq_true h]
    · rfl
    · rfl
    · simp only [Bool.and_eq_true] at h; rw [Nat.eq_of_beq_eq_true h.1, ih _ _ h.2]
    · have := sameVs_sound ih _ _ h; simp at this; rw [this]
    · have := sameVs_sound ih _ _ h; simp at this; rw [this]
    · simp only [Bool.and_eq_true] at h
      have h1 := sameVs_sound ih _ _ h.1.2
      have h2 := sameVs_sound ih _ _ h.2
      simp at h1 h2
      rw [Nat.eq_of_beq_eq_true h.1.1, h1, h2]
    · cases h

theorem isVal_sound {v : Value} {o : Op} {tm : T Value} {s : St} (hc : clsOf P o = .read) (h : isVal v (evalOp P ro tm o s) = true) : evalOp P ro tm o s = some (.val v s) := by
  cases he : evalOp P ro tm o s with
  | none => rw [he] at h; simp [isVal] at h
  | some r =>
    obtain ⟨u, hu⟩ := read_same hc he
    rw [he, hu] at h
    simp only [isVal] at h
    rw [hu, sameV_sound 4 v u h]

end
end Go.Ab
