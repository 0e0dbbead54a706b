/- A part of the proof that what the evaluator says of a piece of code, the model does: no condition but those that each theorem states. -/
import Derived.Test.YtneiaobhjjbedaaEv4
import Derived.Laws.StructEq
namespace Go.Ab

/-! ### Numbers and strings -/

theorem wrap_id {n : Int} (h1 : -9223372036854775808 ≤ n) (h2 : n < 9223372036854775808) : IntKind.wrap .i64 n = n := by
  have hm : (2 : Int) ^ IntKind.i64.bits = 18446744073709551616 := rfl
  have hm2 : (2 : Int) ^ (IntKind.i64.bits - 1) = 9223372036854775808 := rfl
  simp only [IntKind.wrap, hm, hm2, IntKind.signed, Bool.true_and]
  split
  · rename_i h; have h := of_decide_eq_true h; omega
  · rename_i h; have h : ¬ (n % 18446744073709551616 ≥ 9223372036854775808) := fun e => h (decide_eq_true e); omega

theorem wrapK_eq (k : IntKind) (n : Int) : wrapK k n = k.wrap n := by
  unfold wrapK
  split
  · rename_i m
    cases hb : Nat.blt m 9223372036854775808 with
    | true =>
      have : m < 9223372036854775808 := by simpa [Nat.blt_eq] using hb
      exact (wrap_id (n := (m : Int)) (by omega) (by omega)).symm
    | false => exact cond_false _ _
  · rename_i m
    cases hb : Nat.blt m 9223372036854775808 with
    | true =>
      have : m < 9223372036854775808 := by simpa [Nat.blt_eq] using hb
      exact (wrap_id (n := Int.negSucc m) (by omega) (by omega)).symm
    | false => exact cond_false _ _
  · rfl

theorem ltI_eq (x y : Int) : ltI x y = decide (x < y) := by
  cases x <;> cases y <;> simp only [ltI]
  · rename_i a b; rw [Bool.eq_iff_iff]; simp [Nat.blt_eq]
  · rename_i a b; symm; simp; omega
  · rename_i a b; symm; simp; omega
  · rename_i a b; rw [Bool.eq_iff_iff]; simp [Nat.blt_eq]; omega

theorem eqI_eq (x y : Int) : eqI x y = (x == y) := by
  cases x <;> cases y <;> simp only [eqI]
  · rename_i a b; rw [Bool.eq_iff_iff]; simp; omega
  · rename_i a b; symm; simp
  · rename_i a b; symm; simp
  · rename_i a b; rw [Bool.eq_iff_iff]; simp

theorem beqBytes_eq : ∀ (x y : List UInt8), beqBytes x y = (x == y)
  | [], [] => rfl
  | [], _ :: _ => rfl
  | _ :: _, [] => rfl
  | a :: x, b :: y => by
    simp only [beqBytes, List.cons_beq_cons, beqBytes_eq x y]
    by_cases h : a = b
    · subst h; simp
    · have : Nat.beq a.toNat b.toNat = false := by
        cases e : Nat.beq a.toNat b.toNat with
        | false => rfl
        | true => exact absurd (UInt8.toNat_inj.1 (Nat.eq_of_beq_eq_true e)) h
      rw [this]; simp [h]

theorem ltBytes_eq : ∀ (x y : List UInt8), ltBytes x y = Op.bytesLess x y
  | _, [] => by simp [ltBytes, Op.bytesLess]
  | [], _ :: _ => rfl
  | a :: x, b :: y => by
    simp only [ltBytes, Op.bytesLess, ltBytes_eq x y]
    by_cases h1 : a < b
    · have : Nat.blt a.toNat b.toNat = true := by simpa [Nat.blt_eq] using UInt8.lt_iff_toNat_lt.1 h1
      simp [this, h1]
    · have : Nat.blt a.toNat b.toNat = false := by
        cases e : Nat.blt a.toNat b.toNat with
        | false => rfl
        | true => exact absurd (UInt8.lt_iff_toNat_lt.2 (by simpa [Nat.blt_eq] using e)) h1
      rw [this]
      by_cases h2 : a = b
      · subst h2; simp
      · have : Nat.beq a.toNat b.toNat = false := by
          cases e : Nat.beq a.toNat b.toNat with
          | false => rfl
          | true => exact absurd (UInt8.toNat_inj.1 (Nat.eq_of_beq_eq_true e)) h2
        rw [this]; simp [h1, h2]

theorem bytesLess_total : ∀ (x y : List UInt8), (Op.bytesLess x y || x == y) = !Op.bytesLess y x
  | [], [] => rfl
  | [], _ :: _ => rfl
  | _ :: _, [] => rfl
  | a :: x, b :: y => by
    have ih := bytesLess_total x y
    simp only [Op.bytesLess, List.cons_beq_cons]
    by_cases h1 : a < b
    · have h2 : ¬ b < a := by rw [UInt8.lt_iff_toNat_lt] at *; omega
      have h3 : ¬ b = a := by rintro rfl; rw [UInt8.lt_iff_toNat_lt] at h1; omega
      simp [h1, h2, h3]
    · by_cases h2 : b < a
      · have h3 : ¬ a = b := by rintro rfl; rw [UInt8.lt_iff_toNat_lt] at h2; omega
        simp [h1, h2, h3]
      · have h3 : a = b := by rw [UInt8.lt_iff_toNat_lt] at *; exact UInt8.toNat_inj.1 (by omega)
        subst h3
        simp [h1, ih]

section
variable {P : Program} {B ro : Nat} {ρ : Ren} {s : St} {w : World} {tm : T Value} {ac : Act}

theorem run_intBin {op : BinOp} {k : IntKind} {x y : Int} {v : Value} {t : TypeId} (h : intBin op k x y = some v) : (binOp op t (.int k x) (.int k y)).run P w = .ok v w := by
  cases op <;> simp only [intBin] at h
  case quo =>
    cases he : eqI y 0 with
    | true => rw [he] at h; cases h
    | false =>
      rw [he] at h; cases h
      rw [eqI_eq] at he
      have : ¬ y = 0 := by simpa using he
      simp [binOp, Op.intDiv, this, wrapK_eq]
  case rem =>
    cases he : eqI y 0 with
    | true => rw [he] at h; cases h
    | false =>
      rw [he] at h; cases h
      rw [eqI_eq] at he
      have : ¬ y = 0 := by simpa using he
      simp [binOp, Op.intDiv, this]
  case neq => cases h; simp only [binOp, Op.intCmp, ne_eq, not_true_eq_false, if_false, Sem.run_pure, eqI_eq]; rfl
  case leq =>
    cases h
    have : decide (x ≤ y) = !decide (y < x) := by rw [Bool.eq_iff_iff]; simp
    simp only [binOp, Op.intCmp, ltI_eq, ne_eq, not_true_eq_false, if_false, Sem.run_pure, this]
  case geq =>
    cases h
    have : decide (x ≥ y) = !decide (x < y) := by rw [Bool.eq_iff_iff]; simp
    simp only [binOp, Op.intCmp, ltI_eq, ne_eq, not_true_eq_false, if_false, Sem.run_pure, this]
  all_goals first
    | (cases h; done)
    | (cases h; simp [binOp, Op.intArith, wrapK_eq]; done)
    | (cases h; simp [binOp, Op.intBits]; done)
    | (cases h; simp [binOp, Op.intCmp, eqI_eq]; done)
    | (cases h; simp only [binOp, Op.intCmp, ltI_eq, ne_eq, not_true_eq_false, if_false, Sem.run_pure, gt_iff_lt]; done)

theorem run_shiftBin {op : BinOp} {k k' : IntKind} {x y : Int} {v : Value} {t : TypeId} (hop : op = .shl ∨ op = .shr) (h : shiftBin op k x y = some v) : (binOp op t (.int k x) (.int k' y)).run P w = .ok v w := by
  unfold shiftBin at h
  split at h
  · cases h
  · rename_i m
    have hn : ¬ ((m : Int) < 0) := by omega
    rcases hop with rfl | rfl
    · simp only at h; cases h
      simp [binOp, Op.shift, hn, wrapK_eq, -Int.natCast_nonneg]
    · simp only at h; cases h
      simp [binOp, Op.shift, hn]

theorem run_strBin {op : BinOp} {x y : ByteArray} {v : Value} {t : TypeId} (h : strBin op x y = some v) : (binOp op t (.string x) (.string y)).run P w = .ok v w := by
  have htot := bytesLess_total x.data.toList y.data.toList
  cases op <;> simp only [strBin] at h
  case add =>
    cases he : Nat.ble (x.data.toList.length + y.data.toList.length) 1000000000 with
    | false => rw [he] at h; cases h
    | true =>
      rw [he] at h; cases h
      have h1 : x.data.toList.length + y.data.toList.length ≤ 1000000000 := by simpa using he
      have h2 : ¬ (((x.size + y.size : Nat) : Int) > IntKind.i64.max) := by
        have : IntKind.i64.max = 9223372036854775807 := rfl
        rw [this]
        have e1 : x.size = x.data.toList.length := by rw [Array.length_toList]; rfl
        have e2 : y.size = y.data.toList.length := by rw [Array.length_toList]; rfl
        omega
      have h3 : x ++ y = ⟨(x.data.toList ++ y.data.toList).toArray⟩ := by
        apply ByteArray.ext
        apply Array.ext'
        simp
      simp only [binOp, Op.stringOp, h2, if_false, Sem.run_pure, h3]
  case eql => cases h; simp only [binOp, Op.stringOp]; rw [ByteArray.toList_eq, ByteArray.toList_eq, beqBytes_eq]; rfl
  case neq => cases h; simp only [binOp, Op.stringOp]; rw [ByteArray.toList_eq, ByteArray.toList_eq, beqBytes_eq]; rfl
  case lss => cases h; simp only [binOp, Op.stringOp]; rw [ByteArray.toList_eq, ByteArray.toList_eq, ltBytes_eq]; rfl
  case leq => cases h; simp only [binOp, Op.stringOp]; rw [ByteArray.toList_eq, ByteArray.toList_eq, ltBytes_eq, htot]; rfl
  case gtr => cases h; simp only [binOp, Op.stringOp]; rw [ByteArray.toList_eq, ByteArray.toList_eq, ltBytes_eq, htot, Bool.not_not]; rfl
  case geq => cases h; simp only [binOp, Op.stringOp]; rw [ByteArray.toList_eq, ByteArray.toList_eq, ltBytes_eq]; rfl
  all_goals cases h

theorem part_sim {t : TypeId} {xs ys : List Value} {off : Nat} {v : Value} (hx : VRs ρ xs ys) (h : partOf P t xs off = some v) :
    ∃ v', (part t ys.toArray off).run P w = .ok v' w ∧ VR ρ v v' := by
  unfold partOf at h
  split at h
  · rename_i hag
    split at h
    · rename_i n hn
      cases h
      refine ⟨.agg ((ys.drop off).take n).toArray, ?_, VR.agg_of ((hx.drop off).take n)⟩
      have : ys.toArray.extract off (off + n) = ((ys.drop off).take n).toArray := by
        apply Array.ext'
        simp
      simp only [part, Sem.run_bind, isAg_some hag, Result.andThen_ok, if_true, run_sizeOf' hn, Sem.run_pure, this]
    · cases h
  · rename_i hag
    rw [nth_eq] at h
    obtain ⟨v', e1, e2⟩ := hx.get h
    refine ⟨v', ?_, e2⟩
    have : ys.toArray[off]? = some v' := by simpa using e1
    simp [part, isAg_some hag, this]
  · cases h

theorem part_sim' {t : TypeId} {xs : List Value} {ys : Array Value} {off : Nat} {v : Value} (hx : VRs ρ xs ys.toList) (h : partOf P t xs off = some v) :
    ∃ v', (part t ys off).run P w = .ok v' w ∧ VR ρ v v' := by
  have := part_sim (w := w) hx h
  simpa using this

/-- Two live blocks of one's own, or one of one's own and another's, are two blocks. -/
theorem eqAddr_sim (hr : Rel B ro ρ s.heap.get w) {a b : Addr} {i j : RI} {r : Bool} (hi : ρ a.block = some i) (hj : ρ b.block = some j) (h : eqAddr ro s a b = some r) :
    (sameAddr ⟨i.b, i.r + a.off, none⟩ ⟨j.b, j.r + b.off, none⟩).run P w = .ok r w := by
  unfold eqAddr at h
  split at h
  · cases he : Nat.beq a.block b.block with
    | true =>
      rw [he] at h
      simp only [cond_true] at h
      cases h
      have hab : a.block = b.block := Nat.eq_of_beq_eq_true he
      rw [hab] at hi
      rw [hi] at hj; cases hj
      simp only [sameAddr]
      have : (i.b == i.b) = true := by simp
      rw [if_pos this]
      simp only [Sem.run_pure]
      congr 1
      rw [Bool.eq_iff_iff]; simp
    | false =>
      rw [he] at h
      simp only [cond_false] at h
      split at h
      · rename_i x y hx hy
        obtain ⟨hx1, hx2⟩ := liveBlk_some hx
        obtain ⟨hy1, hy2⟩ := liveBlk_some hy
        cases hc : (x.str || y.str || (bif Nat.ble ro a.block then false else !(Nat.ble ro b.block))) with
        | true => rw [hc] at h; cases h
        | false =>
          rw [hc] at h
          cases h
          simp only [Bool.or_eq_false_iff] at hc
          obtain ⟨⟨hxs, hys⟩, hro⟩ := hc
          have hne : a.block ≠ b.block := fun e => by rw [e] at he; simp at he
          have hbn : i.b ≠ j.b := by
            intro e
            by_cases h1 : ro ≤ a.block
            · by_cases h2 : ro ≤ b.block
              · exact hne (hr.inj _ _ i j hi hj h1 h2 ⟨_, hx1, by simp [AObj.alive, hx2]⟩ ⟨_, hy1, by simp [AObj.alive, hy2]⟩ e)
              · have a1 := hr.own _ i hi h1; have a2 := hr.rdo _ j hj (by omega); omega
            · have hb1 : Nat.ble ro a.block = false := by
                cases e' : Nat.ble ro a.block with
                | false => rfl
                | true => exact absurd (Nat.le_of_ble_eq_true e') h1
              rw [hb1] at hro
              simp at hro
              have a1 := hr.own _ j hj hro; have a2 := hr.rdo _ i hi (by omega); omega
          obtain ⟨cs, t, fr, p1, p2, p3, p4, p5, p6, p7⟩ := (live_cells hr hx1 hx2 hi).1
          obtain ⟨cs', t', fr', q1, q2, q3, q4, q5, q6, q7⟩ := (live_cells hr hy1 hy2 hj).1
          have f1 : ∀ o, w.frozen? ⟨i.b, o, none⟩ = false := fun o => by
            have := p5 hxs
            simp only [World.frozen?, p1]; simp; omega
          have f2 : ∀ o, w.frozen? ⟨j.b, o, none⟩ = false := fun o => by
            have := q5 hys
            simp only [World.frozen?, q1]; simp; omega
          have s1 : w.shape? i.b = some (t, cs.size) := by simp [World.shape?, p1]
          have s2 : w.shape? j.b = some (t', cs'.size) := by simp [World.shape?, q1]
          have hb : (i.b == j.b) = false := by simpa using hbn
          simp [sameAddr, hb, f1, f2, noView, viewAt, s1, s2, mayBeOne, stringish, Result.andThen]
      · cases h
  · cases h

theorem eqFs_sim {d : Nat} {xs ys : List Value} {xs' ys' : Array Value} (hx : VRs ρ xs xs'.toList) (hy : VRs ρ ys ys'.toList)
    (ih : ∀ (t : TypeId) (x y x' y' : Value) (r : Bool), eqV P ro s d t x y = some r → VR ρ x x' → VR ρ y y' → ∀ D, d ≤ D → (Op.equalIn D t x' y').run P w = .ok r w) (D : Nat) (hD : d ≤ D) :
    ∀ (fs : List Field) (r : Bool), eqFs P (eqV P ro s d) xs ys fs = some r → (Op.eqFields D xs' ys' fs).run P w = .ok r w
  | [], r, h => by simp [eqFs] at h; subst h; simp [Op.eqFields]
  | f :: fs, r, h => by
    simp only [eqFs] at h
    simp only [Op.eqFields]
    by_cases hn : f.name ≠ "_"
    · rw [if_pos hn] at h ⊢
      split at h
      · rename_i a b ha hb
        obtain ⟨a', ra, va⟩ := part_sim' (w := w) hx ha
        obtain ⟨b', rb, vb⟩ := part_sim' (w := w) hy hb
        split at h
        · rename_i he
          have := ih _ _ _ _ _ _ he va vb D hD
          simp only [Sem.run_bind, ra, rb, Result.andThen_ok, this, Bool.not_true, Bool.false_eq_true, if_false]
          exact eqFs_sim hx hy ih D hD fs r h
        · rename_i he
          cases h
          have := ih _ _ _ _ _ _ he va vb D hD
          simp only [Sem.run_bind, ra, rb, Result.andThen_ok, this, Bool.not_false, if_true, Sem.run_pure]
        · cases h
      · cases h
    · rw [if_neg hn] at h ⊢
      exact eqFs_sim hx hy ih D hD fs r h

theorem eqEs_sim {d n : Nat} {elem : TypeId} {xs ys : List Value} {xs' ys' : Array Value} (hx : VRs ρ xs xs'.toList) (hy : VRs ρ ys ys'.toList)
    (ih : ∀ (t : TypeId) (x y x' y' : Value) (r : Bool), eqV P ro s d t x y = some r → VR ρ x x' → VR ρ y y' → ∀ D, d ≤ D → (Op.equalIn D t x' y').run P w = .ok r w) (D : Nat) (hD : d ≤ D) :
    ∀ (c i : Nat) (r : Bool), eqEs P (eqV P ro s d elem) elem n xs ys c i = some r →
      ((forIn (List.range' i c) (none, PUnit.unit) fun i (_ : Option Bool × PUnit) => do
        if !(← Op.equalIn D elem (← part elem xs' (i * n)) (← part elem ys' (i * n))) then pure (ForInStep.done (some false, PUnit.unit)) else pure (ForInStep.yield (none, PUnit.unit))).run P w) = .ok (if r then none else some false, PUnit.unit) w
  | 0, i, r, h => by simp [eqEs] at h; subst h; simp
  | c + 1, i, r, h => by
    simp only [eqEs] at h
    rw [List.range'_succ]
    simp only [List.forIn_cons, Sem.run_bind]
    split at h
    · rename_i a b ha hb
      obtain ⟨a', ra, va⟩ := part_sim' (w := w) hx ha
      obtain ⟨b', rb, vb⟩ := part_sim' (w := w) hy hb
      split at h
      · rename_i he
        have := ih _ _ _ _ _ _ he va vb D hD
        simp only [ra, rb, Result.andThen_ok, this, Bool.not_true, Bool.false_eq_true, if_false, Sem.run_pure]
        exact eqEs_sim hx hy ih D hD c (i + 1) r h
      · rename_i he
        cases h
        have := ih _ _ _ _ _ _ he va vb D hD
        simp only [ra, rb, Result.andThen_ok, this, Bool.not_false, if_true, Sem.run_pure, Bool.false_eq_true, if_false]
      · cases h
    · cases h

set_option maxHeartbeats 4000000 in
theorem eqV_sim (hr : Rel B ro ρ s.heap.get w) : ∀ (d : Nat) (t : TypeId) (x y x' y' : Value) (r : Bool), eqV P ro s d t x y = some r → VR ρ x x' → VR ρ y y' →
    ∀ D, d ≤ D → (Op.equalIn D t x' y').run P w = .ok r w := by
  intro d
  induction d with
  | zero => intro t x y x' y' r h; simp [eqV] at h
  | succ d ih =>
    intro t x y x' y' r h hx hy D hD
    obtain ⟨D, rfl⟩ : ∃ E, D = E + 1 := ⟨D - 1, by omega⟩
    have hD' : d ≤ D := by omega
    simp only [eqV] at h
    split at h
    · cases h
    · rename_i u hu
      have hru := run_und (w := w) hu
      split at h
      · cases h; rw [hx.bool_inv, hy.bool_inv]; simp [Op.equalIn, hru]
      · split at h
        · rename_i hk; cases h; rw [hx.int_inv, hy.int_inv]; simp [Op.equalIn, hru, hk, eqI_eq]
        · cases h
      · cases h; rw [hx.string_inv, hy.string_inv]; simp [Op.equalIn, hru, beqBytes_eq, beq_toListBytes, ByteArray.toList_eq]
      · cases h; rw [hx.ptrNil_inv, hy.ptrNil_inv]; simp [Op.equalIn, hru]
      · cases h
        obtain ⟨_, j, hj, he⟩ := hy.ptr_inv
        rw [hx.ptrNil_inv, he]; simp [Op.equalIn, hru]
      · cases h
        obtain ⟨_, j, hj, he⟩ := hx.ptr_inv
        rw [hy.ptrNil_inv, he]; simp [Op.equalIn, hru]
      · split at h
        · rename_i n hn
          obtain ⟨_, i, hi, hei⟩ := hx.ptr_inv
          obtain ⟨_, j, hj, hej⟩ := hy.ptr_inv
          have := eqAddr_sim (P := P) hr hi hj h
          rw [hei, hej]; simp [Op.equalIn, hru, run_sizeOf' hn, this]
        · cases h
      · cases h; rw [hx.nilIface_inv, hy.nilIface_inv]; simp [Op.equalIn, hru]
      · cases h
        obtain ⟨u', he, _⟩ := hy.iface_inv
        rw [hx.nilIface_inv, he]; simp [Op.equalIn, hru]
      · cases h
        obtain ⟨u', he, _⟩ := hx.iface_inv
        rw [hy.nilIface_inv, he]; simp [Op.equalIn, hru]
      · rename_i ms tx vx ty vy
        obtain ⟨vx', hex, hvx⟩ := hx.iface_inv
        obtain ⟨vy', hey, hvy⟩ := hy.iface_inv
        cases he : Nat.beq tx ty with
        | false =>
          rw [he] at h; cases h
          have hne : tx ≠ ty := fun e => by rw [e] at he; simp at he
          rw [hex, hey]; simp [Op.equalIn, hru, hne]
        | true =>
          rw [he] at h
          simp only [cond_true] at h
          have hty : tx = ty := Nat.eq_of_beq_eq_true he
          subst hty
          split at h
          · rename_i i hi
            cases hc : i.comparable with
            | false => rw [hc] at h; cases h
            | true =>
              rw [hc] at h
              simp only [cond_true] at h
              have := ih _ _ _ _ _ _ h hvx hvy D hD'
              rw [hex, hey]; simp [Op.equalIn, hru, run_typeInfo' hi, hc, this]
          · cases h
      · rename_i fields xs ys
        cases hs : P.stoodInHeld t with
        | true => rw [hs] at h; cases h
        | false =>
          rw [hs] at h
          simp only [cond_false] at h
          obtain ⟨xs', hex, hvx⟩ := hx.agg_inv
          obtain ⟨ys', hey, hvy⟩ := hy.agg_inv
          have hf : P.fieldsOf t = fields := by simp [Program.fieldsOf, hu]
          rw [hex, hey, run_equalIn_struct w D t xs' ys' (by rw [hf]; exact hu) hs, hf]
          exact eqFs_sim hvx hvy ih D hD' _ _ h
      · rename_i len elem xs ys
        split at h
        · rename_i n hn
          obtain ⟨xs', hex, hvx⟩ := hx.agg_inv
          obtain ⟨ys', hey, hvy⟩ := hy.agg_inv
          have := eqEs_sim hvx hvy ih D hD' len 0 r h
          rw [hex, hey]
          simp only [Op.equalIn, Sem.run_bind, hru, Result.andThen_ok, run_sizeOf' hn, Std.Legacy.Range.forIn_eq_forIn_range', Std.Legacy.Range.size, Nat.sub_zero, Nat.add_sub_cancel, Nat.div_one]
          rw [this]
          cases r <;> simp
        · cases h
      · cases h; rw [hx.slcNil_inv]; rename_i b _ _
        cases b with
        | none => rw [hy.slcNil_inv]; simp [Op.equalIn, hru]
        | some a => obtain ⟨_, i, o', c', hi, he, _⟩ := hy.slc_inv; rw [he]; simp [Op.equalIn, hru]
      · cases h; obtain ⟨_, i, o', c', hi, he, _⟩ := hx.slc_inv; rw [he, hy.slcNil_inv]; simp [Op.equalIn, hru]
      · cases h; rw [hx.mapNil_inv]; rename_i b
        cases b with
        | none => rw [hy.mapNil_inv]; simp [Op.equalIn, hru]
        | some a => obtain ⟨i, hi, he⟩ := hy.map_inv; rw [he]; simp [Op.equalIn, hru]
      · cases h; obtain ⟨i, hi, he⟩ := hx.map_inv; rw [he, hy.mapNil_inv]; simp [Op.equalIn, hru]
      · cases h; rw [hx.nilFunc_inv, hy.nilFunc_inv]; simp [Op.equalIn, hru]
      · cases h; obtain ⟨f', c', he, _⟩ := hy.func_inv; rw [hx.nilFunc_inv, he]; simp [Op.equalIn, hru]
      · cases h; obtain ⟨f', c', he, _⟩ := hx.func_inv; rw [hy.nilFunc_inv, he]; simp [Op.equalIn, hru]
      · cases h

end
end Go.Ab
