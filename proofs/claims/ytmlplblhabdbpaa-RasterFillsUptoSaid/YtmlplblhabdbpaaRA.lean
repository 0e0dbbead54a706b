/- A part of the proof: rules for walking code over the evaluator, and what the functions that were walked come to: no condition but those that each theorem states. -/
import Derived.Test.YtmlplblhabdbpaaUC
import Derived.Test.YtmlplblhabdbpaaLgB
import Derived.Test.YtmlplblhabdbpaaRows
import Derived.Deep.SlicePairs
import Derived.Deep.Grids
import Derived.ChangeSlices
import Derived.WideShapes
import Derived.Test.YtmlplblhabdbpaaUG
import Derived.Test.YtmlplblhabdbpaaKB
set_option linter.unusedVariables false
set_option linter.unusedSimpArgs false
namespace Go.Proofs.Ytmlplblhabdbpaa
open Go.Ab Go.RowKit Go.Deep Go.ChangeShapes Go.WideShapes
set_option linter.unusedVariables false
set_option linter.unusedSimpArgs false
variable {H : Type} {enc : TypeId × Value → H} {W : World}
/-- A contour as it is handed in: where it lies, its room, its points. -/
structure InR where
  B : Option Addr
  cp : Nat
  c : List Spt
instance instInR : Inhabited InR := ⟨⟨none, 0, []⟩⟩
structure InR.Ok (W : World) (r : InR) : Prop where
  nil : r.B = none → r.c = [] ∧ r.cp = 0
  fit : r.c.length ≤ r.cp
  blk : ∀ b, r.B = some b → r.cp ≠ 0 → b.spot = none ∧ ∃ cs t fr, W.heap[b.block]? = some (.cells cs t fr)
  cell : ∀ b, r.B = some b → ∀ (j : Nat) s, r.c[j]? = some s → W.cell? (b.add (j * 2)) = some (.int .i64 s.1) ∧ W.cell? (b.add (j * 2 + 1)) = some (.int .i64 s.2)
theorem cell_blk {a : Addr} {v : Value} (h : W.cell? a = some v) : a.spot = none ∧ ∃ cs t fr, W.heap[a.block]? = some (.cells cs t fr) := by
  unfold World.cell? at h
  split at h
  · rename_i c e f hb
    split at h
    · cases h
    · rename_i hs
      exact ⟨by cases hsp : a.spot with | none => rfl | some k => rw [hsp] at hs; exact absurd rfl hs, c, e, f, hb⟩
  · cases h
theorem add_zero' (a : Addr) : a.add 0 = a := by unfold Addr.add; rw [if_pos rfl]
theorem one_le' (d : DataW H) : 1 ≤ Rows.uptoBulk d := by
  cases d with
  | lit l => cases l <;> simp [Rows.uptoBulk]
  | nil => simp [Rows.uptoBulk]
  | ptr d => simp [Rows.uptoBulk]
  | slice elems spare => simp [Rows.uptoBulk]
  | agg parts => simp [Rows.uptoBulk]
  | iface t d => simp [Rows.uptoBulk]
  | map entries => simp [Rows.uptoBulk]
  | held h => simp [Rows.uptoBulk]
theorem length_le' (l : List (DataW H)) : l.length ≤ Rows.uptoBulkAll l := by
  induction l with
  | nil => simp [Rows.uptoBulkAll]
  | cons x r ih => have := one_le' x; simp only [Rows.uptoBulkAll, List.length_cons]; omega
theorem bulk_len' {n : Nat} {xs ys : List (DataW H)} (h : n ≤ xs.length) : n ≤ Rows.uptoBulk (.slice xs ys) := by
  have := length_le' xs
  simp only [Rows.uptoBulk]
  omega
theorem range_map_get' {α : Type} {n j : Nat} {q : Nat → α} {p : α} (h : ((List.range n).map q)[j]? = some p) : j < n ∧ p = q j := by
  obtain ⟨hj, rfl⟩ := List.getElem?_eq_some_iff.1 h
  simp at hj
  exact ⟨hj, by simp⟩
theorem open_spots {fuel : Nat} {cs : List Value} {x : DataW H × List MemPlace} (h : DataW.trod enc Try.prog W 0 (fun _ => true) true fuel 34 cs = some x) :
    ∃ r : InR, cs = [.slice r.B r.c.length r.cp] ∧ r.Ok W ∧ r.c.length ≤ Rows.uptoBulk x.1 := by
  rcases open_slice_pairs Try.underlying34 Try.underlying45 (by kernel_rfl) rfl rfl (by kernel_rfl) (by kernel_rfl) h with ⟨rfl, rfl⟩ | ⟨a, len, cap, m, n, V0, V1, D0, D1, P0, P1, rfl, hb, hl, hm, hmm, rfl, hx⟩
  · exact ⟨⟨none, 0, []⟩, rfl, ⟨fun _ => ⟨rfl, rfl⟩, Nat.le_refl _, (fun b h => by cases h), (fun b h => by cases h)⟩, by simp⟩
  · simp only [if_true] at hmm
    obtain ⟨q, hq⟩ := choose_lt (α := Spt) (p := fun i s => V0 i = .int .i64 s.1 ∧ V1 i = .int .i64 s.2) (fun i (hi : i < m) => by
      obtain ⟨_, _, h2, h3⟩ := hx i hi
      obtain ⟨n0, e0, _, _⟩ := DataW.trod_int Try.underlying3 h2
      obtain ⟨n1, e1, _, _⟩ := DataW.trod_int Try.underlying3 h3
      exact ⟨⟨n0, n1⟩, by simpa using e0, by simpa using e1⟩)
    refine ⟨⟨some a, cap, (List.range len).map q⟩, by simp, ⟨(fun h => by cases h), by simpa using hl, fun b hb' hc => ?_, fun b hb' j s hj => ?_⟩, bulk_len' (by simp)⟩
    · cases hb'
      dsimp only at hc
      have := (hx 0 (by omega)).1
      rw [Nat.zero_mul, add_zero'] at this
      exact cell_blk this
    · cases hb'
      obtain ⟨hj2, rfl⟩ := range_map_get' hj
      have hjm : j < m := by omega
      obtain ⟨h0, h1, _, _⟩ := hx j hjm
      obtain ⟨e0, e1⟩ := hq j hjm
      rw [e0] at h0
      rw [e1] at h1
      exact ⟨h0, h1⟩
theorem tot_le' {len : Nat} (q : Nat → InR) (D : Nat → DataW H) (hq : ∀ r, r < len → (q r).c.length ≤ Rows.uptoBulk (D r)) : ∀ d i, i + d = len → totM ((List.range' i d).map fun r => (q r).c) ≤ Rows.uptoBulkAll ((List.range' i d).map D)
  | 0, i, h => by simp [totM]
  | d + 1, i, h => by
    have ih := tot_le' q D hq d (i + 1) (by omega)
    have h1 := hq i (by omega)
    rw [List.range'_succ, List.map_cons, List.map_cons]
    unfold totM at ih ⊢
    simp only [Rows.uptoBulkAll, List.map_cons, List.sum_cons]
    omega
/-- Polygons as they are handed in. -/
theorem open_polys {fuel : Nat} {cs : List Value} {x : DataW H × List MemPlace} (h : DataW.trod enc Try.prog W 0 (fun _ => true) true fuel 23 cs = some x) :
    ∃ (A : Option Addr) (cap : Nat) (rs : List InR), cs = [.slice A rs.length cap] ∧ (A = none → rs = [] ∧ cap = 0) ∧ (∀ r ∈ rs, r.Ok W) ∧ (∀ a, A = some a → cap ≠ 0 → a.spot = none ∧ ∃ cs t fr, W.heap[a.block]? = some (.cells cs t fr)) ∧ rs.length ≤ cap ∧
      (∀ a, A = some a → ∀ (i : Nat) r, rs[i]? = some r → W.cell? (a.add i) = some (.slice r.B r.c.length r.cp)) ∧ rs.length ≤ Rows.uptoBulk x.1 ∧ totM (rs.map InR.c) ≤ Rows.uptoBulk x.1 := by
  rcases open_slice1 Try.underlying23 (by kernel_rfl) h with ⟨rfl, rfl⟩ | ⟨a, len, cap, m, n, V, D, Pl, rfl, hb, hl, hm, hmm, rfl, hx⟩
  · exact ⟨none, 0, [], rfl, fun _ => ⟨rfl, rfl⟩, (fun r h => by cases h), (fun a h => by cases h), Nat.le_refl _, (fun a h => by cases h), by simp, by simp [totM]⟩
  · simp only [if_true] at hmm
    obtain ⟨q, hq⟩ := choose_lt (α := InR) (p := fun r y => V r = .slice y.B y.c.length y.cp ∧ y.Ok W ∧ y.c.length ≤ Rows.uptoBulk (D r)) (fun r (hr : r < m) => by
      obtain ⟨y, e, g0, g1⟩ := open_spots (hx r hr).2
      simp only [List.cons.injEq, and_true] at e
      exact ⟨y, e, g0, g1⟩)
    have ht := tot_le' (len := len) q D (fun r hr => (hq r (by omega)).2.2) len 0 (by omega)
    refine ⟨some a, cap, (List.range len).map q, by simp, (fun h => by cases h), fun r hr => ?_, fun a' ha' hc => ?_, by simpa using hl, fun a' ha' i r hi => ?_, bulk_len' (by simp), ?_⟩
    · obtain ⟨i, hi, rfl⟩ := List.mem_map.mp hr
      exact (hq i (by have := List.mem_range.mp hi; omega)).2.1
    · cases ha'
      have := (hx 0 (by omega)).1
      rw [add_zero'] at this
      exact cell_blk this
    · cases ha'
      obtain ⟨hj2, rfl⟩ := range_map_get' hi
      have := (hx i (by omega)).1
      rw [(hq i (by omega)).1] at this
      exact this
    · rw [List.map_map]
      rw [← List.range_eq_range'] at ht
      simp only [Rows.uptoBulk]
      have e : totM ((List.range len).map (InR.c ∘ q)) = totM ((List.range len).map fun r => (q r).c) := rfl
      rw [e]; omega
end Go.Proofs.Ytmlplblhabdbpaa

namespace Go.Proofs.Ytmlplblhabdbpaa
open Go.Ab Go.RowKit
set_option linter.unusedVariables false
set_option linter.unusedSimpArgs false
variable {W : World}
/-! ### Polygons that are handed in, as the logic sees them -/
/-- A place in no block: where slices of nothing lie. -/
def nowhere : Addr := ⟨0, 0, some 0⟩
theorem cell_fit {a : Addr} {i : Nat} {v : Value} {cs : Array Value} {t : TypeId} {fr : Nat × Nat} (h : W.cell? (a.add i) = some v) (hb : W.heap[a.block]? = some (.cells cs t fr)) : a.off + i < cs.size := by
  have h2 : (a.add i).block = a.block ∧ (a.add i).off = a.off + i := by
    unfold Addr.add
    by_cases hz : i = 0
    · rw [if_pos hz]; exact ⟨rfl, by omega⟩
    · rw [if_neg hz]; exact ⟨rfl, rfl⟩
  unfold World.cell? at h
  rw [h2.1, hb] at h
  simp only at h
  split at h
  · cases h
  · have := (Array.getElem?_eq_some_iff.mp h).1
    rw [h2.2] at this
    exact this
def sizeB (W : World) (b : Nat) : Nat := match W.heap[b]? with | some (.cells cs _ _) => cs.size | _ => 0
def absV (ν : Nat) (r : InR) : Value := match r.B with
  | none => .slice none 0 0
  | some b => if r.cp = 0 then .slice (some nowhere) 0 0 else .slice (some ⟨ν, b.off, none⟩) r.c.length r.cp
def absL (rs : List InR) : List Value := (List.range rs.length).map fun i => absV (i + 1) (rs.getD i default)
def inD (W : World) (r : InR) : Option HRowV := match r.B with
  | none => none
  | some b => if r.cp = 0 then none else some ⟨b, sizeB W b.block, r.c.flatMap encS⟩
def polyD (W : World) (A : Option Addr) (cap : Nat) (rs : List InR) : Nat → Option HRowV
  | 0 => match A with
    | none => none
    | some a => if cap = 0 then none else some ⟨a, sizeB W a.block, absL rs⟩
  | i + 1 => match rs[i]? with
    | none => none
    | some r => inD W r
def absA (A : Option Addr) (cap : Nat) : Option Addr := match A with
  | none => none
  | some a => if cap = 0 then some nowhere else some ⟨0, a.off, none⟩
structure Polys (W : World) (A : Option Addr) (cap : Nat) (rs : List InR) : Prop where
  nil : A = none → rs = [] ∧ cap = 0
  ok : ∀ r ∈ rs, r.Ok W
  blk : ∀ a, A = some a → cap ≠ 0 → a.spot = none ∧ ∃ cs t fr, W.heap[a.block]? = some (.cells cs t fr)
  fit : rs.length ≤ cap
  cell : ∀ a, A = some a → ∀ (i : Nat) r, rs[i]? = some r → W.cell? (a.add i) = some (.slice r.B r.c.length r.cp)
theorem absL_get {rs : List InR} {i : Nat} {r : InR} (h : rs[i]? = some r) : (absL rs)[i]? = some (absV (i + 1) r) := by
  obtain ⟨hi, rfl⟩ := List.getElem?_eq_some_iff.mp h
  unfold absL
  rw [List.getElem?_map, List.getElem?_range hi]
  simp [List.getD_eq_getElem?_getD, hi]
theorem absL_len (rs : List InR) : (absL rs).length = rs.length := by unfold absL; simp
theorem sizeB_eq {b : Nat} {cs : Array Value} {t : TypeId} {fr : Nat × Nat} (h : W.heap[b]? = some (.cells cs t fr)) : sizeB W b = cs.size := by unfold sizeB; rw [h]
section
variable {A : Option Addr} {cap : Nat} {rs : List InR}
theorem inD_some {r : InR} {d : HRowV} (h : inD W r = some d) : ∃ b, r.B = some b ∧ r.cp ≠ 0 ∧ d = ⟨b, sizeB W b.block, r.c.flatMap encS⟩ := by
  unfold inD at h
  cases hB : r.B with
  | none => rw [hB] at h; cases h
  | some b =>
    rw [hB] at h
    simp only at h
    by_cases hc : r.cp = 0
    · rw [if_pos hc] at h; cases h
    · rw [if_neg hc] at h; exact ⟨b, rfl, hc, (Option.some.inj h).symm⟩
theorem abs_vr (hP : Polys W A cap rs) {i : Nat} {r : InR} (h : rs[i]? = some r) : VR (vRho (polyD W A cap rs) (rs.length + 1)) (absV (i + 1) r) (.slice r.B r.c.length r.cp) := by
  have hi := (List.getElem?_eq_some_iff.mp h).1
  have hr := hP.ok r (List.mem_of_getElem? h)
  cases hB : r.B with
  | none =>
    obtain ⟨h1, h2⟩ := hr.nil hB
    unfold absV
    rw [hB, h1, h2]
    exact .slcNil 0 0
  | some b =>
    unfold absV
    rw [hB]
    simp only
    by_cases hc : r.cp = 0
    · rw [if_pos hc, hc, show r.c.length = 0 by have := hr.fit; omega]
      exact .slcZ _ _ (by simp [nowhere])
    · rw [if_neg hc]
      exact vVR (D := polyD W A cap rs) (d := ⟨b, sizeB W b.block, r.c.flatMap encS⟩) (by omega) (by simp only [polyD, h, inD, hB, if_neg hc]) (hr.blk b hB hc).1 _ _
theorem polys_ok (hP : Polys W A cap rs) : ∀ ν d, ν < rs.length + 1 → polyD W A cap rs ν = some d → d.Ok W (vRho (polyD W A cap rs) (rs.length + 1))
  | 0, d, _, h => by
    cases hA : A with
    | none => rw [hA] at h; cases h
    | some a =>
      have hA' := hA
      rw [hA] at h
      simp only [polyD] at h
      by_cases hc : cap = 0
      · rw [if_pos hc] at h; cases h
      · rw [if_neg hc] at h
        cases h
        obtain ⟨hs, cs, t, fr, hb⟩ := hP.blk a hA hc
        refine ⟨hs, ⟨cs, t, fr, hb, (sizeB_eq hb).symm⟩, ?_, fun i v hv => ?_⟩
        · cases hr : rs with
          | nil => exact .inl rfl
          | cons r0 rs0 =>
            right
            have hl : rs.length - 1 < rs.length := by rw [hr]; simp
            have hcell := hP.cell a hA _ _ (List.getElem?_eq_getElem hl)
            have := cell_fit hcell hb
            show a.off + (absL (r0 :: rs0)).length ≤ sizeB W a.block
            rw [← hr, absL_len, sizeB_eq hb]
            omega
        · have hi := (List.getElem?_eq_some_iff.mp hv).1
          rw [absL_len] at hi
          have hr := List.getElem?_eq_getElem hi
          rw [absL_get hr] at hv
          cases hv
          rw [← hA']
          exact ⟨_, hP.cell a hA i _ hr, abs_vr hP hr⟩
  | i + 1, d, hν, h => by
    simp only [polyD] at h
    cases hr : rs[i]? with
    | none => rw [hr] at h; cases h
    | some r =>
      rw [hr] at h
      obtain ⟨b, hB, hc, rfl⟩ := inD_some h
      have hro := hP.ok r (List.mem_of_getElem? hr)
      obtain ⟨hs, cs, t, fr, hb⟩ := hro.blk b hB hc
      have hfl : (r.c.flatMap encS).length = r.c.length * 2 := flat_length encS 2 encS_len r.c
      refine ⟨hs, ⟨cs, t, fr, hb, (sizeB_eq hb).symm⟩, ?_, fun j v hv => ?_⟩
      · by_cases h0 : r.c.length = 0
        · left; exact List.length_eq_zero_iff.mp (by show (r.c.flatMap encS).length = 0; omega)
        · right
          have hl : r.c.length - 1 < r.c.length := by omega
          have := cell_fit (hro.cell b hB _ _ (List.getElem?_eq_getElem hl)).2 hb
          show b.off + (r.c.flatMap encS).length ≤ sizeB W b.block
          rw [sizeB_eq hb]
          omega
      · have hv' : (r.c.flatMap encS)[j]? = some v := hv
        have hj := (List.getElem?_eq_some_iff.mp hv').1
        rw [hfl] at hj
        have hq : j / 2 < r.c.length := by omega
        have hf := flat_get encS 2 encS_len r.c (j / 2) hq (j % 2) (by omega)
        rw [show j / 2 * 2 + j % 2 = j by omega] at hf
        rw [hf] at hv'
        obtain ⟨h1, h2⟩ := hro.cell b hB _ _ (List.getElem?_eq_getElem hq)
        rcases (show j % 2 = 0 ∨ j % 2 = 1 by omega) with hm | hm <;> rw [hm] at hv' <;> cases hv'
        · refine ⟨_, ?_, .int _ _⟩
          show W.cell? (b.add j) = _
          have ej : j / 2 * 2 = j := by omega
          rw [ej] at h1; exact h1
        · refine ⟨_, ?_, .int _ _⟩
          show W.cell? (b.add j) = _
          have ej : j / 2 * 2 + 1 = j := by omega
          rw [ej] at h2; exact h2
theorem polys_read (hP : Polys W A cap rs) : PolyH (vHp (polyD W A cap rs) (rs.length + 1)) (absA A cap) (rs.map InR.c) := by
  intro i c hc
  rw [List.getElem?_map] at hc
  cases hr : rs[i]? with
  | none => rw [hr] at hc; cases hc
  | some r =>
    rw [hr] at hc
    cases hc
    have hi := (List.getElem?_eq_some_iff.mp hr).1
    have hcap : cap ≠ 0 := by have := hP.fit; omega
    have hro := hP.ok r (List.mem_of_getElem? hr)
    cases hA : A with
    | none => have := (hP.nil hA).2; exact absurd this hcap
    | some a =>
      have h0 : polyD W (some a) cap rs 0 = some ⟨a, sizeB W a.block, absL rs⟩ := by simp only [polyD, if_neg hcap]
      have hcell := vCellH (D := polyD W (some a) cap rs) (k := rs.length + 1) (ν := 0) (by omega) h0 (absL_get hr)
      have ha : absA (some a) cap = some ⟨0, a.off, none⟩ := by simp only [absA, if_neg hcap]
      rw [ha]
      cases hB : r.B with
      | none =>
        obtain ⟨h1, h2⟩ := hro.nil hB
        refine ⟨0, a.off, none, 0, rfl, ?_, trivial, fun j s hs => ?_⟩
        · rw [Nat.mul_one, hcell]; unfold absV; rw [hB, h1]; rfl
        · rw [h1] at hs; cases hs
      | some b =>
        by_cases hc0 : r.cp = 0
        · have hl0 : r.c = [] := List.length_eq_zero_iff.mp (by have := hro.fit; omega)
          refine ⟨0, a.off, some nowhere, 0, rfl, ?_, trivial, fun j s hs => ?_⟩
          · rw [Nat.mul_one, hcell]; unfold absV; rw [hB, hl0]; simp only [if_pos hc0]; rfl
          · rw [hl0] at hs; cases hs
        · have h1 : polyD W (some a) cap rs (i + 1) = some ⟨b, sizeB W b.block, r.c.flatMap encS⟩ := by simp only [polyD, hr, inD, hB, if_neg hc0]
          refine ⟨0, a.off, some ⟨i + 1, b.off, none⟩, r.cp, rfl, ?_, trivial, fun j s hs => ⟨i + 1, b.off, rfl, ?_, ?_⟩⟩
          · rw [Nat.mul_one, hcell]; unfold absV; rw [hB]; simp only [if_neg hc0]
          · obtain ⟨hj, rfl⟩ := List.getElem?_eq_some_iff.mp hs
            exact vCellH (D := polyD W (some a) cap rs) (k := rs.length + 1) (ν := i + 1) (by omega) h1 (i := j * 2) (by have := flat_get encS 2 encS_len r.c j hj 0 (by omega); rw [Nat.add_zero] at this; exact this)
          · obtain ⟨hj, rfl⟩ := List.getElem?_eq_some_iff.mp hs
            have := vCellH (D := polyD W (some a) cap rs) (k := rs.length + 1) (ν := i + 1) (by omega) h1 (i := j * 2 + 1) (flat_get encS 2 encS_len r.c j hj 1 (by omega))
            rw [Nat.add_assoc]; exact this
theorem polys_vr (hP : Polys W A cap rs) : VR (vRho (polyD W A cap rs) (rs.length + 1)) (.slice (absA A cap) rs.length cap) (.slice A rs.length cap) := by
  cases hA : A with
  | none =>
    obtain ⟨h1, h2⟩ := hP.nil hA
    rw [h1, h2]
    exact .slcNil _ _
  | some a =>
    by_cases hc : cap = 0
    · have hl : rs.length = 0 := by have := hP.fit; omega
      simp only [absA, if_pos hc]
      rw [hc, hl]
      exact .slcZ _ _ (by simp [nowhere])
    · simp only [absA, if_neg hc]
      exact vVR (D := polyD W (some a) cap rs) (d := ⟨a, sizeB W a.block, absL rs⟩) (by omega) (by simp only [polyD, if_neg hc]) (hP.blk a hA hc).1 _ _
end
end Go.Proofs.Ytmlplblhabdbpaa
