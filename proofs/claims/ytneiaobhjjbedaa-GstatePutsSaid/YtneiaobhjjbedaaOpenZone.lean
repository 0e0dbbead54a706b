/- A zone that is handed in (five slices in a struct), and a pair of whole numbers, opened: what the machine reads there as plain lists, with their bounds by the reach. No condition. -/
import Derived.Test.YtneiaobhjjbedaaPGstatePutsx0
import Derived.Deep.SlicePairs
import Derived.Deep.Grids
import Derived.WideKeyPair
import Derived.SizedLaws
import Derived.ChangeSlices
import Derived.WideShapes
namespace Go.Proofs.Ytneiaobhjjbedaa.PGstatePuts
open Go.RowKit Go.Proofs.YtneiaobhjjbedaaW.PrintWords Go.Proofs.YtneiaobhjjbedaaW.PrintLast Go.Proofs.YtneiaobhjjbedaaW.PrintMore
open Go.Deep Go.ChangeShapes Go.WideShapes
set_option linter.unusedVariables false
set_option linter.unusedSimpArgs false
variable {H : Type} {enc : TypeId × Value → H} {W : World}
instance : Inhabited S43 := ⟨z43⟩

theorem range_map_get {α : Type} {n j : Nat} {q : Nat → α} {p : α} (h : ((List.range n).map q)[j]? = some p) : j < n ∧ p = q j := by
  obtain ⟨hj, rfl⟩ := List.getElem?_eq_some_iff.1 h
  simp at hj
  exact ⟨hj, by simp⟩

theorem weight_slice {t e : TypeId} {xs ys : List (DataW H)} {B : Nat} (hu : Try.prog.underlying t = some (.slice e)) (hB : Try.prog.bytesOf e = B)
    (h : ∀ n ∈ (DataW.slice xs ys : DataW H).weights Try.prog t, n ≤ reachBytes) : (xs.length + ys.length) * B ≤ 140737488351232 := by
  have := h ((xs.length + ys.length) * Try.prog.bytesOf e) (by simp [DataW.weights, hu])
  rw [hB] at this
  exact this

theorem open_spots {fuel : Nat} {cs : List Value} {x : DataW H × List MemPlace} (h : DataW.trod enc Try.prog W 0 (fun _ => true) true fuel 26 cs = some x)
    (hsz : ∀ n ∈ x.1.weights Try.prog 26, n ≤ reachBytes) :
    ∃ (A : Option Addr) (c : Nat) (l : List S43), cs = [.slice A l.length c] ∧ Kd.C k43 W A l.length l ∧ l.length ≤ c ∧ l.length * 16 ≤ 140737488351232 := by
  rcases open_slice_pairs Try.underlying26 Try.underlying43 (by kernel_rfl) rfl rfl (by kernel_rfl) (by kernel_rfl) h with ⟨rfl, rfl⟩ | ⟨a, len, cap, m, n, V0, V1, D0, D1, P0, P1, rfl, hb, hl, hm, hmm, rfl, hx⟩
  · exact ⟨none, 0, [], rfl, Kd.C_nil k43 W, Nat.le_refl _, by simp⟩
  · simp only [if_true] at hmm
    obtain ⟨q, hq⟩ := choose_lt (α := S43) (p := fun i s => V0 i = .int .i64 s.f0 ∧ V1 i = .int .i64 s.f1) (fun i (hi : i < m) => by
      obtain ⟨_, _, h2, h3⟩ := hx i hi
      obtain ⟨n0, e0, _, _⟩ := DataW.trod_int Try.underlying3 h2
      obtain ⟨n1, e1, _, _⟩ := DataW.trod_int Try.underlying3 h3
      exact ⟨⟨n0, n1⟩, by simpa using e0, by simpa using e1⟩)
    have hw := weight_slice Try.underlying26 (B := 16) (by kernel_rfl) hsz
    simp only [List.length_map, List.length_range] at hw
    refine ⟨some a, cap, (List.range len).map q, by simp, ⟨rfl, ?_, fun _ => ⟨a, rfl, fun j p hj => ?_⟩⟩, by simpa using hl, by simp only [List.length_map, List.length_range]; omega⟩
    · simp only [List.length_map, List.length_range]
      unfold maxLen at hm
      omega
    · obtain ⟨hj2, rfl⟩ := range_map_get hj
      have hjm : j < m := by omega
      obtain ⟨h0, h1, _, _⟩ := hx j hjm
      obtain ⟨e0, e1⟩ := hq j hjm
      rw [e0] at h0
      rw [e1] at h1
      refine ⟨[.int .i64 (q j).f0, .int .i64 (q j).f1], rfl, k43_mk W (q j), fun i u hu => ?_⟩
      match i, hu with
      | 0, hu => simp at hu; subst hu; exact h0
      | 1, hu => simp at hu; subst hu; exact h1
      | i + 2, hu => simp at hu

theorem open_marks {fuel : Nat} {cs : List Value} {x : DataW H × List MemPlace} (h : DataW.trod enc Try.prog W 0 (fun _ => true) true fuel 27 cs = some x)
    (hsz : ∀ n ∈ x.1.weights Try.prog 27, n ≤ reachBytes) :
    ∃ (A : Option Addr) (c : Nat) (l : List Bool), cs = [.slice A l.length c] ∧ Kd.C Kd.bool W A l.length l ∧ l.length ≤ c ∧ l.length * 1 ≤ 140737488351232 := by
  rcases open_bools Try.underlying27 Try.underlying4 (by kernel_rfl) h with ⟨rfl, rfl⟩ | ⟨a, len, cap, B, rfl, hb, hl, hm, rfl, hx⟩
  · exact ⟨none, 0, [], rfl, Kd.C_nil Kd.bool W, Nat.le_refl _, by simp⟩
  · have hw := weight_slice Try.underlying27 (B := 1) (by kernel_rfl) hsz
    simp only [List.length_map, List.length_range] at hw
    refine ⟨some a, cap, (List.range len).map B, by simp, ⟨rfl, ?_, fun _ => ⟨a, rfl, fun j p hj => ?_⟩⟩, by simpa using hl, by simp only [List.length_map, List.length_range]; omega⟩
    · simp only [List.length_map, List.length_range]
      unfold maxLen at hm
      omega
    · obtain ⟨hj2, rfl⟩ := range_map_get hj
      refine ⟨[.bool (B j)], rfl, rfl, fun i u hu => ?_⟩
      match i, hu with
      | 0, hu => simp at hu; subst hu; have := hx j (by omega); simpa [Kd.bool, Kd.scalar] using this
      | i + 1, hu => simp at hu

theorem open_nums {fuel : Nat} {cs : List Value} {x : DataW H × List MemPlace} (h : DataW.trod enc Try.prog W 0 (fun _ => true) true fuel 28 cs = some x)
    (hsz : ∀ n ∈ x.1.weights Try.prog 28, n ≤ reachBytes) :
    ∃ (A : Option Addr) (c : Nat) (l : List Int), cs = [.slice A l.length c] ∧ Kd.C (Kd.int .i64) W A l.length l ∧ l.length ≤ c ∧ l.length * 8 ≤ 140737488351232 := by
  rcases open_ints Try.underlying28 Try.underlying3 (by kernel_rfl) h with ⟨rfl, rfl⟩ | ⟨a, len, cap, zs, rfl, hb, hl, hm, hz, rfl, hx, hwf⟩
  · exact ⟨none, 0, [], rfl, Kd.C_nil (Kd.int .i64) W, Nat.le_refl _, by simp⟩
  · simp only [if_true] at hz
    have hw := weight_slice Try.underlying28 (B := 8) (by kernel_rfl) hsz
    have hlen : (zs.take len).length = len := by simp; omega
    refine ⟨some a, cap, zs.take len, by rw [hlen], ⟨rfl, ?_, fun _ => ⟨a, rfl, fun j p hj => ?_⟩⟩, by rw [hlen]; exact hl, ?_⟩
    · rw [hlen]
      unfold maxLen at hm
      omega
    · have hj2 : j < (zs.take len).length := (List.getElem?_eq_some_iff.1 hj).1
      rw [hlen] at hj2
      refine ⟨[.int .i64 p], rfl, rfl, fun i u hu => ?_⟩
      match i, hu with
      | 0, hu =>
        simp at hu
        subst hu
        have h1 := hx j (by omega)
        rw [List.getElem?_take, if_pos hj2] at hj
        rw [List.getD_eq_getElem?_getD, hj] at h1
        simpa [Kd.int, Kd.scalar] using h1
      | i + 1, hu => simp at hu
    · simp [lits] at hw
      rw [hlen]
      omega

set_option maxRecDepth 100000 in
/-- A zone as it is handed in. -/
theorem open_zone {v : Value} {d : DataW H} {p : List MemPlace} (hval : Value.okWide Try.prog W .any 0 30 v) (hd : DataW.Trod enc Try.prog W 0 (fun _ => true) true 30 v d p)
    (hsz : ∀ n ∈ d.weights Try.prog 30, n ≤ reachBytes) :
    ∃ (A0 : Option Addr) (c0 : Nat) (l0 : List S43) (A1 : Option Addr) (c1 : Nat) (l1 : List S43) (A2 : Option Addr) (c2 : Nat) (l2 : List Bool) (A3 : Option Addr) (c3 : Nat) (l3 : List Bool) (A4 : Option Addr) (c4 : Nat) (l4 : List Int),
      v = .agg #[.slice A0 l0.length c0, .slice A1 l1.length c1, .slice A2 l2.length c2, .slice A3 l3.length c3, .slice A4 l4.length c4] ∧
      (Kd.C k43 W A0 l0.length l0 ∧ l0.length ≤ c0 ∧ l0.length * 16 ≤ 140737488351232) ∧ (Kd.C k43 W A1 l1.length l1 ∧ l1.length ≤ c1 ∧ l1.length * 16 ≤ 140737488351232) ∧
      (Kd.C Kd.bool W A2 l2.length l2 ∧ l2.length ≤ c2 ∧ l2.length * 1 ≤ 140737488351232) ∧ (Kd.C Kd.bool W A3 l3.length l3 ∧ l3.length ≤ c3 ∧ l3.length * 1 ≤ 140737488351232) ∧
      (Kd.C (Kd.int .i64) W A4 l4.length l4 ∧ l4.length ≤ c4 ∧ l4.length * 8 ≤ 140737488351232) := by
  obtain ⟨xs, rfl, hxs⟩ := okWide_struct Try.underlying30 hval
  rw [show Try.prog.cellsOf 30 = 5 by kernel_rfl] at hxs
  obtain ⟨l⟩ := xs
  match l, hxs with
  | [u0, u1, u2, u3, u4], _ =>
    obtain ⟨fuel, hf⟩ := hd
    obtain ⟨ys, n, _, e, _, hyl, hy⟩ := DataW.trod_struct Try.underlying30 hf
    match ys, hyl with
    | [y0, y1, y2, y3, y4], _ =>
      simp only [Prod.mk.injEq] at e
      obtain ⟨rfl, _⟩ := e
      have g0 := hy 0 _ rfl
      have g1 := hy 1 _ rfl
      have g2 := hy 2 _ rfl
      have g3 := hy 3 _ rfl
      have g4 := hy 4 _ rfl
      have k26 : Try.prog.cellsOf 26 = 1 := by kernel_rfl
      have k27 : Try.prog.cellsOf 27 = 1 := by kernel_rfl
      have k28 : Try.prog.cellsOf 28 = 1 := by kernel_rfl
      simp [Value.cells, k26, k27, k28] at g0 g1 g2 g3 g4
      have hs : ∀ (j : Nat) (y : DataW H × List MemPlace) (t : TypeId), [y0, y1, y2, y3, y4][j]? = some y → [26, 26, 27, 27, 28][j]? = some t → ∀ n ∈ y.1.weights Try.prog t, n ≤ reachBytes := by
        intro j y t hj ht n hn
        refine hsz n ?_
        simp only [DataW.weights, Try.underlying30]
        refine DataW.weights_mem_each (j := j) (t := t) (d := y.1) ?_ ?_ n hn
        · exact ht
        · rw [List.getElem?_map, hj]; rfl
      obtain ⟨A0, c0, l0, e0, r0⟩ := open_spots g0 (hs 0 _ 26 rfl rfl)
      obtain ⟨A1, c1, l1, e1, r1⟩ := open_spots g1 (hs 1 _ 26 rfl rfl)
      obtain ⟨A2, c2, l2, e2, r2⟩ := open_marks g2 (hs 2 _ 27 rfl rfl)
      obtain ⟨A3, c3, l3, e3, r3⟩ := open_marks g3 (hs 3 _ 27 rfl rfl)
      obtain ⟨A4, c4, l4, e4, r4⟩ := open_nums g4 (hs 4 _ 28 rfl rfl)
      simp only [List.cons.injEq, and_true] at e0 e1 e2 e3 e4
      subst e0 e1 e2 e3 e4
      exact ⟨A0, c0, l0, A1, c1, l1, A2, c2, l2, A3, c3, l3, A4, c4, l4, rfl, r0, r1, r2, r3, r4⟩

end Go.Proofs.Ytneiaobhjjbedaa.PGstatePuts
