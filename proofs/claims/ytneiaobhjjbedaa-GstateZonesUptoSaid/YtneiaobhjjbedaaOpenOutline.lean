/- An outline (rows of knots) and a zone as they are handed in, opened: what the machine reads there as plain lists, no longer than their bulk. No condition. -/
import Derived.Test.YtneiaobhjjbedaaPureGstateZones
import Derived.Test.YtneiaobhjjbedaaRows
import Derived.Deep.SlicePairs
import Derived.Deep.Grids
import Derived.WideKeyPair
import Derived.ChangeSlices
import Derived.WideShapes
namespace Go.Proofs.Ytneiaobhjjbedaa.PGstateZones
open Go.RowKit Go.Proofs.YtneiaobhjjbedaaW.PrintWords Go.Proofs.YtneiaobhjjbedaaW.PrintLast Go.Proofs.YtneiaobhjjbedaaW.PrintMore
open Go.Deep Go.ChangeShapes Go.WideShapes
set_option linter.unusedVariables false
set_option linter.unusedSimpArgs false
variable {H : Type} {enc : TypeId × Value → H} {W : World}
instance : Inhabited S43 := ⟨z43⟩
instance : Inhabited S48 := ⟨z48⟩

theorem one_le (d : DataW H) : 1 ≤ Rows.uptoBulk d := by
  cases d with
  | lit l => cases l <;> simp [Rows.uptoBulk]
  | nil => simp [Rows.uptoBulk]
  | ptr d => simp [Rows.uptoBulk]
  | slice elems spare => simp [Rows.uptoBulk]
  | agg parts => simp [Rows.uptoBulk]
  | iface t d => simp [Rows.uptoBulk]
  | map entries => simp [Rows.uptoBulk]
  | held h => simp [Rows.uptoBulk]
theorem length_le (l : List (DataW H)) : l.length ≤ Rows.uptoBulkAll l := by
  induction l with
  | nil => simp [Rows.uptoBulkAll]
  | cons x r ih => have := one_le x; simp only [Rows.uptoBulkAll, List.length_cons]; omega
theorem bulk_len {n : Nat} {xs ys : List (DataW H)} (h : n ≤ xs.length) : n ≤ Rows.uptoBulk (.slice xs ys) := by
  have := length_le xs
  simp only [Rows.uptoBulk]
  omega
theorem bulk_mem {l : List (DataW H)} {x : DataW H} (h : x ∈ l) : Rows.uptoBulk x ≤ Rows.uptoBulkAll l := by
  induction l with
  | nil => cases h
  | cons y r ih =>
    simp only [Rows.uptoBulkAll]
    rcases List.mem_cons.1 h with e | e
    · subst e; omega
    · have := ih e; omega

theorem range_map_get {α : Type} {n j : Nat} {q : Nat → α} {p : α} (h : ((List.range n).map q)[j]? = some p) : j < n ∧ p = q j := by
  obtain ⟨hj, rfl⟩ := List.getElem?_eq_some_iff.1 h
  simp at hj
  exact ⟨hj, by simp⟩

theorem open_spots {fuel : Nat} {cs : List Value} {x : DataW H × List MemPlace} (h : DataW.trod enc Try.prog W 0 (fun _ => true) true fuel 26 cs = some x) :
    ∃ (A : Option Addr) (c : Nat) (l : List S43), cs = [.slice A l.length c] ∧ Kd.C k43 W A l.length l ∧ l.length ≤ c ∧ l.length ≤ Rows.uptoBulk x.1 := by
  rcases open_slice_pairs Try.underlying26 Try.underlying43 (by kernel_rfl) rfl rfl (by kernel_rfl) (by kernel_rfl) h with ⟨rfl, rfl⟩ | ⟨a, len, cap, m, n, V0, V1, D0, D1, P0, P1, rfl, hb, hl, hm, hmm, rfl, hx⟩
  · exact ⟨none, 0, [], rfl, Kd.C_nil k43 W, Nat.le_refl _, by simp⟩
  · simp only [if_true] at hmm
    obtain ⟨q, hq⟩ := choose_lt (α := S43) (p := fun i s => V0 i = .int .i64 s.f0 ∧ V1 i = .int .i64 s.f1) (fun i (hi : i < m) => by
      obtain ⟨_, _, h2, h3⟩ := hx i hi
      obtain ⟨n0, e0, _, _⟩ := DataW.trod_int Try.underlying3 h2
      obtain ⟨n1, e1, _, _⟩ := DataW.trod_int Try.underlying3 h3
      exact ⟨⟨n0, n1⟩, by simpa using e0, by simpa using e1⟩)
    refine ⟨some a, cap, (List.range len).map q, by simp, ⟨rfl, ?_, fun _ => ⟨a, rfl, fun j p hj => ?_⟩⟩, by simpa using hl, bulk_len (by simp)⟩
    · simp only [List.length_map, List.length_range]
      unfold maxLen at hm
      omega
    · obtain ⟨hj2, rfl⟩ := range_map_get hj
      have hjm : j < m := by omega
      obtain ⟨h0, h1, _, _⟩ := hx j hjm
      obtain ⟨e0, e1⟩ := hq j hjm
      rw [e0] at h0
      rw [e1] at h1
      refine ⟨[.int .i64 (q j).f0, .int .i64 (q j).f1], rfl, k43_mk W (q j), fun i u hu => ?_⟩
      match i, hu with
      | 0, hu => simp at hu; subst hu; exact h0
      | 1, hu => simp at hu; subst hu; exact h1
      | i + 2, hu => simp at hu

theorem open_marks {fuel : Nat} {cs : List Value} {x : DataW H × List MemPlace} (h : DataW.trod enc Try.prog W 0 (fun _ => true) true fuel 27 cs = some x) :
    ∃ (A : Option Addr) (c : Nat) (l : List Bool), cs = [.slice A l.length c] ∧ Kd.C Kd.bool W A l.length l ∧ l.length ≤ c ∧ l.length ≤ Rows.uptoBulk x.1 := by
  rcases open_bools Try.underlying27 Try.underlying4 (by kernel_rfl) h with ⟨rfl, rfl⟩ | ⟨a, len, cap, B, rfl, hb, hl, hm, rfl, hx⟩
  · exact ⟨none, 0, [], rfl, Kd.C_nil Kd.bool W, Nat.le_refl _, by simp⟩
  · refine ⟨some a, cap, (List.range len).map B, by simp, ⟨rfl, ?_, fun _ => ⟨a, rfl, fun j p hj => ?_⟩⟩, by simpa using hl, bulk_len (by simp)⟩
    · simp only [List.length_map, List.length_range]
      unfold maxLen at hm
      omega
    · obtain ⟨hj2, rfl⟩ := range_map_get hj
      refine ⟨[.bool (B j)], rfl, rfl, fun i u hu => ?_⟩
      match i, hu with
      | 0, hu => simp at hu; subst hu; have := hx j (by omega); simpa [Kd.bool, Kd.scalar] using this
      | i + 1, hu => simp at hu

theorem open_nums {fuel : Nat} {cs : List Value} {x : DataW H × List MemPlace} (h : DataW.trod enc Try.prog W 0 (fun _ => true) true fuel 28 cs = some x) :
    ∃ (A : Option Addr) (c : Nat) (l : List Int), cs = [.slice A l.length c] ∧ Kd.C (Kd.int .i64) W A l.length l ∧ l.length ≤ c ∧ l.length ≤ Rows.uptoBulk x.1 := by
  rcases open_ints Try.underlying28 Try.underlying3 (by kernel_rfl) h with ⟨rfl, rfl⟩ | ⟨a, len, cap, zs, rfl, hb, hl, hm, hz, rfl, hx, hwf⟩
  · exact ⟨none, 0, [], rfl, Kd.C_nil (Kd.int .i64) W, Nat.le_refl _, by simp⟩
  · simp only [if_true] at hz
    have hlen : (zs.take len).length = len := by simp; omega
    refine ⟨some a, cap, zs.take len, by rw [hlen], ⟨rfl, ?_, fun _ => ⟨a, rfl, fun j p hj => ?_⟩⟩, by rw [hlen]; exact hl, ?_⟩
    · rw [hlen]
      unfold maxLen at hm
      omega
    · have hj2 : j < (zs.take len).length := (List.getElem?_eq_some_iff.1 hj).1
      rw [hlen] at hj2
      refine ⟨[.int .i64 p], rfl, rfl, fun i u hu => ?_⟩
      match i, hu with
      | 0, hu =>
        simp at hu
        subst hu
        have h1 := hx j (by omega)
        rw [List.getElem?_take, if_pos hj2] at hj
        rw [List.getD_eq_getElem?_getD, hj] at h1
        simpa [Kd.int, Kd.scalar] using h1
      | i + 1, hu => simp at hu
    · exact bulk_len (by simp [lits])

set_option maxRecDepth 100000 in
/-- A zone as it is handed in. -/
theorem open_zone {v : Value} {d : DataW H} {p : List MemPlace} (hval : Value.okWide Try.prog W .any 0 30 v) (hd : DataW.Trod enc Try.prog W 0 (fun _ => true) true 30 v d p) :
    ∃ (A0 : Option Addr) (c0 : Nat) (l0 : List S43) (A1 : Option Addr) (c1 : Nat) (l1 : List S43) (A2 : Option Addr) (c2 : Nat) (l2 : List Bool) (A3 : Option Addr) (c3 : Nat) (l3 : List Bool) (A4 : Option Addr) (c4 : Nat) (l4 : List Int),
      v = .agg #[.slice A0 l0.length c0, .slice A1 l1.length c1, .slice A2 l2.length c2, .slice A3 l3.length c3, .slice A4 l4.length c4] ∧
      (Kd.C k43 W A0 l0.length l0 ∧ l0.length ≤ c0 ∧ l0.length ≤ Rows.uptoBulk d) ∧ (Kd.C k43 W A1 l1.length l1 ∧ l1.length ≤ c1 ∧ l1.length ≤ Rows.uptoBulk d) ∧
      (Kd.C Kd.bool W A2 l2.length l2 ∧ l2.length ≤ c2 ∧ l2.length ≤ Rows.uptoBulk d) ∧ (Kd.C Kd.bool W A3 l3.length l3 ∧ l3.length ≤ c3 ∧ l3.length ≤ Rows.uptoBulk d) ∧
      (Kd.C (Kd.int .i64) W A4 l4.length l4 ∧ l4.length ≤ c4 ∧ l4.length ≤ Rows.uptoBulk d) := by
  obtain ⟨xs, rfl, hxs⟩ := okWide_struct Try.underlying30 hval
  rw [show Try.prog.cellsOf 30 = 5 by kernel_rfl] at hxs
  obtain ⟨l⟩ := xs
  match l, hxs with
  | [u0, u1, u2, u3, u4], _ =>
    obtain ⟨fuel, hf⟩ := hd
    obtain ⟨ys, n, _, e, _, hyl, hy⟩ := DataW.trod_struct Try.underlying30 hf
    match ys, hyl with
    | [y0, y1, y2, y3, y4], _ =>
      simp only [Prod.mk.injEq] at e
      obtain ⟨rfl, _⟩ := e
      have g0 := hy 0 _ rfl
      have g1 := hy 1 _ rfl
      have g2 := hy 2 _ rfl
      have g3 := hy 3 _ rfl
      have g4 := hy 4 _ rfl
      have k26 : Try.prog.cellsOf 26 = 1 := by kernel_rfl
      have k27 : Try.prog.cellsOf 27 = 1 := by kernel_rfl
      have k28 : Try.prog.cellsOf 28 = 1 := by kernel_rfl
      simp [Value.cells, k26, k27, k28] at g0 g1 g2 g3 g4
      have hs : ∀ (j : Nat) (y : DataW H × List MemPlace), [y0, y1, y2, y3, y4][j]? = some y → Rows.uptoBulk y.1 ≤ Rows.uptoBulk (.agg ([y0, y1, y2, y3, y4].map (·.1))) := by
        intro j y hj
        have := bulk_mem (l := [y0, y1, y2, y3, y4].map (·.1)) (x := y.1) (List.mem_map.2 ⟨y, List.mem_of_getElem? hj, rfl⟩)
        simp only [Rows.uptoBulk]
        omega
      obtain ⟨A0, c0, l0, e0, r0, s0, t0⟩ := open_spots g0
      obtain ⟨A1, c1, l1, e1, r1, s1, t1⟩ := open_spots g1
      obtain ⟨A2, c2, l2, e2, r2, s2, t2⟩ := open_marks g2
      obtain ⟨A3, c3, l3, e3, r3, s3, t3⟩ := open_marks g3
      obtain ⟨A4, c4, l4, e4, r4, s4, t4⟩ := open_nums g4
      simp only [List.cons.injEq, and_true] at e0 e1 e2 e3 e4
      subst e0 e1 e2 e3 e4
      exact ⟨A0, c0, l0, A1, c1, l1, A2, c2, l2, A3, c3, l3, A4, c4, l4, rfl, ⟨r0, s0, Nat.le_trans t0 (hs 0 _ rfl)⟩, ⟨r1, s1, Nat.le_trans t1 (hs 1 _ rfl)⟩, ⟨r2, s2, Nat.le_trans t2 (hs 2 _ rfl)⟩, ⟨r3, s3, Nat.le_trans t3 (hs 3 _ rfl)⟩, ⟨r4, s4, Nat.le_trans t4 (hs 4 _ rfl)⟩⟩



set_option maxRecDepth 100000 in
theorem open_knots {fuel : Nat} {cs : List Value} {x : DataW H × List MemPlace} (h : DataW.trod enc Try.prog W 0 (fun _ => true) true fuel 46 cs = some x) :
    ∃ (A : Option Addr) (c : Nat) (l : List S48), cs = [.slice A l.length c] ∧ Kd.C k48 W A l.length l ∧ l.length ≤ c ∧ l.length ≤ Rows.uptoBulk x.1 := by
  have ce : Try.prog.cellsOf 48 = 3 := by kernel_rfl
  rcases open_slice Try.underlying46 h with ⟨rfl, rfl⟩ | ⟨a, len, cap, m, n, D, Pl, rfl, hb, hl, hm, hmm, rfl, hx⟩
  · exact ⟨none, 0, [], rfl, Kd.C_nil k48 W, Nat.le_refl _, by simp⟩
  · simp only [if_true] at hmm
    obtain ⟨q, hq⟩ := choose_lt (α := S48) (p := fun i s => W.cell? (a.add (i * 3)) = some (.int .i64 s.f0) ∧ W.cell? (a.add (i * 3 + 1)) = some (.int .i64 s.f1) ∧ W.cell? (a.add (i * 3 + 2)) = some (.int .i64 s.f2)) (fun i (hi : i < m) => by
      obtain ⟨cs', h1, h2⟩ := hx i hi
      rw [ce] at h1
      obtain ⟨_, hlen, hcell⟩ := World.cells?_some h1
      obtain ⟨xs, k, hk, hxy, _, hxl, hf⟩ := DataW.trod_struct Try.underlying48 h2
      match xs, hxl, cs', hlen with
      | [y0, y1, y2], _, [v0, v1, v2], _ =>
        have c3 : Try.prog.cellsOf 3 = 1 := by kernel_rfl
        have g0 := hf 0 _ rfl
        have g1 := hf 1 _ rfl
        have g2 := hf 2 _ rfl
        simp [c3] at g0 g1 g2
        have e0 := hcell 0 (by omega)
        have e1 := hcell 1 (by omega)
        have e2 := hcell 2 (by omega)
        rw [Deep.add_add] at e0 e1 e2
        obtain ⟨n0, z0, _, _⟩ := DataW.trod_int Try.underlying3 g0
        obtain ⟨n1, z1, _, _⟩ := DataW.trod_int Try.underlying3 g1
        obtain ⟨n2, z2, _, _⟩ := DataW.trod_int Try.underlying3 g2
        simp only [List.cons.injEq, and_true] at z0 z1 z2
        subst z0 z1 z2
        exact ⟨⟨n0, n1, n2⟩, by simpa using e0, by simpa using e1, by simpa using e2⟩)
    refine ⟨some a, cap, (List.range len).map q, by simp, ⟨rfl, ?_, fun _ => ⟨a, rfl, fun j p hj => ?_⟩⟩, by simpa using hl, bulk_len (by simp)⟩
    · simp only [List.length_map, List.length_range]
      unfold maxLen at hm
      omega
    · obtain ⟨hj2, rfl⟩ := range_map_get hj
      obtain ⟨e0, e1, e2⟩ := hq j (by omega)
      refine ⟨[.int .i64 (q j).f0, .int .i64 (q j).f1, .int .i64 (q j).f2], rfl, k48_mk W (q j), fun i u hu => ?_⟩
      match i, hu with
      | 0, hu => simp at hu; subst hu; exact e0
      | 1, hu => simp at hu; subst hu; exact e1
      | 2, hu => simp at hu; subst hu; exact e2
      | i + 3, hu => simp at hu

theorem tot_le {len : Nat} (q : Nat → List S48) (D : Nat → DataW H) (hq : ∀ r, r < len → (q r).length ≤ Rows.uptoBulk (D r)) : ∀ d i, i + d = len → Pure2.tot ((List.range len).map q) d i ≤ Rows.uptoBulkAll ((List.range' i d).map D)
  | 0, i, h => by simp [Pure2.tot]
  | d + 1, i, h => by
    have ih := tot_le q D hq d (i + 1) (by omega)
    have h1 := hq i (by omega)
    have e : ((List.range len).map q).getD i [] = q i := by simp [List.getD_eq_getElem?_getD, show i < len by omega]
    rw [Pure2.tot, e, List.range'_succ, List.map_cons]
    simp only [Rows.uptoBulkAll]
    omega

/-- An outline as it is handed in. -/
theorem open_outline {fuel : Nat} {cs : List Value} {x : DataW H × List MemPlace} (h : DataW.trod enc Try.prog W 0 (fun _ => true) true fuel 50 cs = some x) :
    ∃ (A : Option Addr) (c : Nat) (l : List (List S48)), cs = [.slice A l.length c] ∧ Kd.C (Kd.slice 48 k48) W A l.length l ∧ l.length ≤ c ∧ l.length ≤ Rows.uptoBulk x.1 ∧ Pure2.tot l l.length 0 ≤ Rows.uptoBulk x.1 := by
  rcases open_slice1 Try.underlying50 (by kernel_rfl) h with ⟨rfl, rfl⟩ | ⟨a, len, cap, m, n, V, D, Pl, rfl, hb, hl, hm, hmm, rfl, hx⟩
  · exact ⟨none, 0, [], rfl, Kd.C_nil (Kd.slice 48 k48) W, Nat.le_refl _, by simp, by simp [Pure2.tot]⟩
  · simp only [if_true] at hmm
    obtain ⟨q, hq⟩ := choose_lt (α := Option Addr × Nat × List S48) (p := fun r y => V r = .slice y.1 y.2.2.length y.2.1 ∧ Kd.C k48 W y.1 y.2.2.length y.2.2 ∧ y.2.2.length ≤ y.2.1 ∧ y.2.2.length ≤ Rows.uptoBulk (D r)) (fun r (hr : r < m) => by
      obtain ⟨A, c, l, e, g0, g1, g2⟩ := open_knots (hx r hr).2
      simp only [List.cons.injEq, and_true] at e
      exact ⟨(A, c, l), e, g0, g1, g2⟩)
    have ht := tot_le (len := len) (fun r => (q r).2.2) D (fun r hr => (hq r (by omega)).2.2.2) len 0 (by omega)
    refine ⟨some a, cap, (List.range len).map fun r => (q r).2.2, by simp, ⟨rfl, ?_, fun _ => ⟨a, rfl, fun j p hj => ?_⟩⟩, by simpa using hl, bulk_len (by simp), ?_⟩
    · simp only [List.length_map, List.length_range]
      unfold maxLen at hm
      omega
    · obtain ⟨hj2, rfl⟩ := range_map_get hj
      obtain ⟨g0, g1, g2, _⟩ := hq j (by omega)
      refine ⟨[.slice (q j).1 (q j).2.2.length (q j).2.1], rfl, ⟨(q j).1, (q j).2.1, rfl, g2, g1⟩, fun i u hu => ?_⟩
      match i, hu with
      | 0, hu =>
        simp at hu
        subst hu
        have := (hx j (by omega)).1
        rw [g0] at this
        have e1 : (Kd.slice 48 k48).sz = 1 := rfl
        simpa [e1] using this
      | i + 1, hu => simp at hu
    · rw [List.length_map, List.length_range, List.range_eq_range']
      rw [List.range_eq_range'] at ht
      simp only [Rows.uptoBulk, List.range_eq_range']
      omega
end Go.Proofs.Ytneiaobhjjbedaa.PGstateZones
