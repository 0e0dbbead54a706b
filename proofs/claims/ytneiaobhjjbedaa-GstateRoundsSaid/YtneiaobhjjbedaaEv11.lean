/- A part of the proof that what the evaluator says of a piece of code, the model does: no condition but those that each theorem states. -/
import Derived.Test.YtneiaobhjjbedaaEv10
namespace Go.Ab

section
variable {P : Program} {B ro : Nat} {ρ : Ren} {s : St} {w : World} {tm : T Value} {ac : Act}

/-! ### append, copy -/

theorem lenOf_sim {x x' : Value} {n : Nat} (hx : VR ρ x x') (h : lenOfV x = some n) : (Builtin.lenOf x').run P w = .ok n w := by
  unfold lenOfV at h
  split at h
  · rename_i a l c
    cases h
    cases a with
    | none => rw [hx.slcNil_inv]; rfl
    | some a => obtain ⟨_, i, o', c', _, he, _⟩ := hx.slc_inv; rw [he]; rfl
  · cases h
    rw [hx.string_inv, Array.length_toList]; rfl
  · cases h

theorem cell_heap {w w' : World} (h : w'.heap = w.heap) (a : Addr) : w'.cell? a = w.cell? a := by simp [World.cell?, h]

theorem firstL_sim (hr : Rel B ro ρ s.heap.get w) {x x' : Value} {size n m : Nat} {l : List Value} (hx : VR ρ x x') (h : firstL s size n x = some l) (hm : lenOfV x = some m) (hn : n ≤ m) :
    ∃ l', (∀ w' : World, w'.heap = w.heap → (Builtin.firstCells size n x').run P w' = .ok l'.toArray w') ∧ VRs ρ l l' := by
  unfold firstL at h
  split at h
  · rename_i a len cap
    obtain ⟨hsp, i, o', c', hi, he, hs⟩ := hx.slc_inv
    rw [hsp] at h
    simp only at h
    simp only [lenOfV] at hm
    cases hm
    obtain ⟨l', l1, l2, l3⟩ := ldCells_sim hr hi h
    refine ⟨l', fun w' hw' => ?_, l2⟩
    rw [he]
    simp only [Builtin.firstCells]
    have l4 : ∀ j v, l'[j]? = some v → w'.cell? ⟨i.b, i.r + a.off + j, none⟩ = some v := fun j v e => by rw [cell_heap hw']; exact l3 j v e
    rcases hs with h | h | h
    · rw [h.1]; exact run_loadCells_n _ _ _ l' l1 l4
    · rw [h.2.1]; exact run_loadCells_n _ _ _ l' l1 l4
    · have h0 : n = 0 := by omega
      subst h0
      have : l' = [] := by rw [← List.length_eq_zero_iff, l1]; simp
      rw [this]; simp [loadCells, loadCellsFrom]
  · rename_i len cap
    cases h
    rw [hx.slcNil_inv]
    exact ⟨[], fun _ _ => rfl, .nil⟩
  · rename_i b
    cases h
    rw [hx.string_inv]
    refine ⟨(b.data.toList.take n).map fun c => .int .u8 (.ofNat c.toNat), fun w' _ => ?_, L2.map_same fun c _ => .int _ _⟩
    simp only [Builtin.firstCells, Sem.run_pure]
    congr 1
    apply Array.ext'
    rw [extract_bytes]
    simp
  · cases h

theorem firstL_zero {x : Value} {size : Nat} {l : List Value} (h : firstL s size 0 x = some l) : l = [] := by
  unfold firstL at h
  split at h
  · split at h
    · simp [ldCells] at h; exact h
    · cases h
  · cases h; rfl
  · cases h; rfl
  · cases h

theorem nextcap_le (need old : Nat) (h : old < need) : Builtin.nextslicecap need old ≤ 2 * need + 768 := by
  have grow : ∀ (r c : Nat), c ≤ 2 * need + 768 → Builtin.growBy need r c ≤ 2 * need + 768 := by
    intro r
    induction r with
    | zero => intro c hc; simpa [Builtin.growBy] using hc
    | succ r ih =>
      intro c hc
      simp only [Builtin.growBy]
      split
      · exact hc
      · exact ih _ (by omega)
  unfold Builtin.nextslicecap
  split
  · omega
  · split
    · omega
    · exact grow _ _ (by omega)

structure AppR (P : Program) (w : World) (ts : Array TypeId) (ty : TypeId) (b x : Value) (v : Value) (w' : World) : Prop where
  run : (Builtin.append_ ts ty #[b, x]).run P w = .ok v w'

set_option maxHeartbeats 20000000 in
/-- The model's append, where the slice must be made anew. -/
theorem run_grow {elem : TypeId} {ei : TypeInfo} {ts : Array TypeId} {ty t : TypeId} {base : Option Addr} {sLen sCap n : Nat} {x' : Value} {old new : List Value} {zv : Value} (hu : P.underlying t = some (.slice elem))
    (hei : P.info? elem = some ei) (hts : ts[0]? = some t) (hx1 : ∀ u, ts[1]? = some u → ∃ d, P.underlying u = some d ∧ ∀ k, d ≠ .int k) (hlen : (Builtin.lenOf x').run P w = .ok n w)
    (hcap : sCap < sLen + n) (hneed : sLen + n ≤ 1000000000) (hbytes : ei.bytes ≤ 16384)
    (hold : ∀ w' : World, w'.heap = w.heap → (Builtin.firstCells ei.size sLen (.slice base sLen sCap)).run P w' = .ok old.toArray w') (hnew : ∀ w' : World, w'.heap = w.heap → (Builtin.firstCells ei.size n x').run P w' = .ok new.toArray w')
    (hz : ∀ w, (zeroValue elem).run P w = .ok zv w) :
    ∃ newCap, sLen + n ≤ newCap ∧ (Builtin.append_ ts ty #[.slice base sLen sCap, x']).run P w =
      .ok (.slice (some ⟨w.heap.size, 0, none⟩) (sLen + n) newCap) (w.drew.alloc (.cells (old.toArray ++ (new.toArray ++ Builtin.zeroCells zv.cells (newCap - (sLen + n)))) elem)) := by
  refine ⟨(Question.appendCap (sLen + n) sCap elem).cut (w.tape w.drawn (.appendCap (sLen + n) sCap elem)), by simp only [Question.cut]; omega, ?_⟩
  have h1 : ¬ (sLen + n ≤ sCap) := by omega
  have h2 : ¬ (((sLen + n : Nat) : Int) > IntKind.i64.max ∧ (false = true ∨ ei.bytes = 0)) := by rw [i64max]; omega
  have h3 : ¬ (Builtin.nextslicecap (sLen + n) sCap * ei.bytes > 2 ^ 48) := by
    have a1 := nextcap_le (sLen + n) sCap hcap
    have a2 : Builtin.nextslicecap (sLen + n) sCap * ei.bytes ≤ (2 * 1000000000 + 768) * 16384 := Nat.mul_le_mul (by omega) hbytes
    have : 2 ^ 48 = 281474976710656 := rfl
    omega
  have hold' := hold w.drew rfl
  have hnew' := hnew w.drew rfl
  have hsz : (sizeOf elem).run P w = .ok ei.size w := run_sizeOf' (by simp [szOf, hei])
  have h2' : ¬ (9223372036854775807 < ((sLen : Int) + (n : Int))) := by omega
  have h3' : ¬ (281474976710656 < Builtin.nextslicecap (sLen + n) sCap * ei.bytes) := by
    have : 2 ^ 48 = 281474976710656 := rfl
    omega
  cases e : ts[1]? with
  | none =>
    simp [Builtin.append_, hts, e, run_und hu, hsz, hlen, h1, h2', h3', run_typeInfo' hei, Question.forced, hold', hnew', hz, Go.newRow]
  | some u =>
    obtain ⟨d, d1, d2⟩ := hx1 u e
    cases d <;> first
      | exact absurd rfl (d2 _)
      | simp [Builtin.append_, hts, e, run_und hu, run_und d1, hsz, hlen, h1, h2', h3', run_typeInfo' hei, Question.forced, hold', hnew', hz, Go.newRow]

set_option maxHeartbeats 20000000 in
/-- The model's append, where the slice has the room. -/
theorem run_room {elem : TypeId} {ei : TypeInfo} {ts : Array TypeId} {ty t : TypeId} {base : Option Addr} {sLen sCap n : Nat} {x' : Value} {new : List Value} {w' : World} (hu : P.underlying t = some (.slice elem))
    (hei : P.info? elem = some ei) (hts : ts[0]? = some t) (hx1 : ∀ u, ts[1]? = some u → ∃ d, P.underlying u = some d ∧ ∀ k, d ≠ .int k) (hlen : (Builtin.lenOf x').run P w = .ok n w)
    (hcap : sLen + n ≤ sCap) (hnew : (Builtin.firstCells ei.size n x').run P w = .ok new.toArray w)
    (hst : ∀ a, base = some a → (storeCells (a.add (sLen * ei.size)) new 0).run P w = .ok () w') (hno : base = none → w' = w) :
    (Builtin.append_ ts ty #[.slice base sLen sCap, x']).run P w = .ok (.slice base (sLen + n) sCap) w' := by
  have hsz : (sizeOf elem).run P w = .ok ei.size w := run_sizeOf' (by simp [szOf, hei])
  cases e : ts[1]? with
  | none =>
    cases base with
    | none => rw [hno rfl]; simp [Builtin.append_, hts, e, run_und hu, hsz, hlen, hcap, hnew]
    | some a => simp [Builtin.append_, hts, e, run_und hu, hsz, hlen, hcap, hnew, hst a rfl]
  | some u =>
    obtain ⟨d, d1, d2⟩ := hx1 u e
    cases base with
    | none =>
      rw [hno rfl]
      cases d <;> first
        | exact absurd rfl (d2 _)
        | simp [Builtin.append_, hts, e, run_und hu, run_und d1, hsz, hlen, hcap, hnew]
    | some a =>
      cases d <;> first
        | exact absurd rfl (d2 _)
        | simp [Builtin.append_, hts, e, run_und hu, run_und d1, hsz, hlen, hcap, hnew, hst a rfl]

end
end Go.Ab
