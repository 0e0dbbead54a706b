/- The plain law of RasterSquares: what the printed functions compute comes out true at whatever six numbers; no condition. -/
import Derived.Test.YtmlplblhabdbpaaPRasterSquaresx8
namespace Go.Proofs.Ytmlplblhabdbpaa.PRasterSquares
open Go.RowKit Go.Proofs.YtmlplblhabdbpaaW.PrintWords Go.Proofs.YtmlplblhabdbpaaW.PrintLast Go.Proofs.YtmlplblhabdbpaaW.PrintMore
namespace Sq
set_option linter.unusedVariables false
set_option linter.unusedSimpArgs false
theorem wid {n : Int} (h0 : -9223372036854775808 ≤ n) (h1 : n < 9223372036854775808) : wrap64 n = n := by
  unfold wrap64; omega
theorem W0 : wrap64 0 = 0 := wid (by decide) (by decide)
theorem W1 : wrap64 1 = 1 := wid (by decide) (by decide)
theorem W2 : wrap64 2 = 2 := wid (by decide) (by decide)
theorem W3 : wrap64 3 = 3 := wid (by decide) (by decide)
theorem W4 : wrap64 4 = 4 := wid (by decide) (by decide)
theorem W5 : wrap64 5 = 5 := wid (by decide) (by decide)
theorem W6 : wrap64 6 = 6 := wid (by decide) (by decide)
theorem W7 : wrap64 7 = 7 := wid (by decide) (by decide)
theorem W8 : wrap64 8 = 8 := wid (by decide) (by decide)
theorem W20 : wrap64 20 = 20 := wid (by decide) (by decide)
abbrev R (n : Int) : Prop := -20000 ≤ n ∧ n ≤ 20000
theorem small_ok {n : Int} (h : R n) : raster_small.f n = some true := by
  unfold raster_small.f
  rw [if_pos (by omega)]
  simp; omega
theorem check_ok (k : Nat) {x0 x1 y0 y1 : Int} (hx0 : R x0) (hx1 : R x1) (hy0 : R y0) (hy1 : R y1) :
    raster_check.f (k + 10) [[(⟨x0, y0⟩ : S45), ⟨x1, y0⟩, ⟨x1, y1⟩, ⟨x0, y1⟩]] = some 0 := by
  simp [raster_check.f, raster_check.l0, raster_check.l1, rd_L2, rd_T45, small_ok hx0, small_ok hx1, small_ok hy0, small_ok hy1, W0, W1, W2, W3, W4, W5]
theorem edges_flat (k : Nat) {x0 x1 y0 : Int} :
    raster_edges.f (k + 20) [[(⟨x0, y0⟩ : S45), ⟨x1, y0⟩, ⟨x1, y0⟩, ⟨x0, y0⟩]] = some [] := by
  simp [raster_edges.f, raster_edges.l0, raster_edges.l1, rd_L2, rd_T45, W0, W1, W2, W3, W4, W5, raster_edge_46.f, raster_edge_58.f, raster_edge_58.l0, raster_edge_58.l1, raster_edge_88.f, raster_edge_88.l0]
theorem edges_two (k : Nat) {x0 x1 y0 y1 : Int} (hx0 : R x0) (hx1 : R x1) (hy0 : R y0) (hy1 : R y1) (h : y0 < y1) :
    raster_edges.f (k + 30) [[(⟨x0, y0⟩ : S45), ⟨x1, y0⟩, ⟨x1, y1⟩, ⟨x0, y1⟩]] = some [⟨x1, y0, x1, y1, 1⟩, ⟨x0, y0, x0, y1, -1⟩] := by
  have w7 : wrap64 (y0 - y0) = 0 := by rw [wid] <;> omega
  have h' : ¬ y1 < y0 := by omega
  simp [raster_edges.f, raster_edges.l0, raster_edges.l1, rd_L2, rd_T45, rd_T79, W0, W1, W2, W3, W4, W5, w7, h, h', raster_edge_46.f, raster_edge_58.f, raster_edge_58.l0, raster_edge_58.l1, raster_edge_88.f, raster_edge_88.l0, raster_edge_88.l1, raster_edges_1.f]
theorem mulb {a b : Int} {A B : Nat} (ha : a.natAbs ≤ A) (hb : b.natAbs ≤ B) : (a * b).natAbs ≤ A * B := by
  rw [Int.natAbs_mul]; exact Nat.mul_le_mul ha hb
theorem first_ok {x y0 y1 j b : Int} (hx : R x) (hy0 : R y0) (hy1 : R y1) (h : y0 < y1) : raster_edge_first.f x y0 x y1 b j = some x := by
  unfold raster_edge_first.f
  have e1 : wrap64 (y1 - y0) = y1 - y0 := wid (by omega) (by omega)
  rw [e1]
  obtain ⟨d, hd⟩ : ∃ d, d = y1 - y0 := ⟨_, rfl⟩
  rw [← hd]
  have hd0 : 0 < d := by omega
  have hd1 : d ≤ 40000 := by omega
  have e2 : wrap64 (2 * d) = 2 * d := wid (by omega) (by omega)
  rw [e2]
  have hb := mulb (a := 2 * d) (b := x) (A := 80000) (B := 20000) (by omega) (by omega)
  have e3 : wrap64 (2 * d * x) = 2 * d * x := wid (by omega) (by omega)
  rw [e3, Int.sub_self, W0, Int.zero_mul, W0, Int.add_zero, e3]
  have e4 : wrap64 (2 * d * x - d) = 2 * d * x - d := wid (by omega) (by omega)
  rw [e4, if_neg (by omega)]
  by_cases hx0 : 1 ≤ x
  · have hu : 2 * d * x - d = d + 2 * d * (x - 1) := by rw [Int.mul_sub]; omega
    have hp : 0 ≤ 2 * d * (x - 1) := Int.mul_nonneg (by omega) (by omega)
    rw [hu, Int.tmod_eq_emod_of_nonneg (by omega), Int.tdiv_eq_ediv_of_nonneg (by omega), Int.add_mul_emod_self_left, Int.emod_eq_of_lt (by omega) (by omega), if_pos hd0, Int.add_mul_ediv_left _ _ (by omega), Int.ediv_eq_zero_of_lt (by omega) (by omega)]
    have e5 : wrap64 (x - 1) = x - 1 := wid (by omega) (by omega)
    rw [Int.zero_add, e5, wid (by omega) (by omega)]
    congr 1; omega
  · have hu : 2 * d * x - d = -(d + 2 * d * (-x)) := by rw [Int.mul_neg]; omega
    have hp : 0 ≤ 2 * d * (-x) := Int.mul_nonneg (by omega) (by omega)
    rw [hu, Int.neg_tmod, Int.neg_tdiv, Int.tmod_eq_emod_of_nonneg (by omega), Int.tdiv_eq_ediv_of_nonneg (by omega), Int.add_mul_emod_self_left, Int.emod_eq_of_lt (by omega) (by omega), if_neg (by omega), Int.add_mul_ediv_left _ _ (by omega), Int.ediv_eq_zero_of_lt (by omega) (by omega)]
    rw [Int.zero_add, Int.neg_neg, wid (by omega) (by omega)]
/-- What one row's span adds. -/
def cov (x0 x1 X : Int) : Int := mx (mn x1 (64 * X + 64) - mx x0 (64 * X)) 0
theorem cov_bound {x0 x1 X : Int} (hx0 : R x0) (hx1 : R x1) (hX : R X) : 0 ≤ cov x0 x1 X ∧ cov x0 x1 X ≤ 64 := by
  unfold cov mx mn
  repeat' split
  all_goals omega
theorem cov_swap {x X : Int} (hX : R X) : cov x x X = 0 := by
  unfold cov mx mn
  repeat' split
  all_goals omega
theorem span_ok {j a b n X : Int} (ha : R a) (hb : R b) (hX : R X) (hn : 0 ≤ n ∧ n ≤ 1000000) : raster_Count_1.f j a b [n] [X] = some [n + cov a b X] := by
  have hc := cov_bound ha hb hX
  unfold raster_Count_1.f
  have e1 : wrap64 (64 * X) = 64 * X := wid (by omega) (by omega)
  have e2 : wrap64 (64 * X + 64) = 64 * X + 64 := wid (by omega) (by omega)
  have e3 : wrap64 (mn b (64 * X + 64) - mx a (64 * X)) = mn b (64 * X + 64) - mx a (64 * X) := by
    apply wid <;> (unfold mn mx; split <;> split <;> omega)
  have e4 : wrap64 (n + cov a b X) = n + cov a b X := wid (by omega) (by omega)
  have r1 : rd [X] 0 = X := rfl
  have r2 : rd [n] 0 = n := rfl
  rw [r1, r2, e1, e2, e3]
  simp only [List.length_cons, List.length_nil]
  rw [if_pos (by decide), if_pos (by decide)]
  unfold cov at e4 ⊢
  rw [e4]
  rfl
theorem sort_two {K : Nat} (hK : 30 ≤ K) {x0 x1 : Int} (hx0 : R x0) (hx1 : R x1) (h : x0 ≤ x1) :
    raster_crossing_44.f K [⟨x1, 1⟩, ⟨x0, -1⟩] = some (if x0 < x1 then [⟨x0, -1⟩, ⟨x1, 1⟩] else [⟨x1, 1⟩, ⟨x0, -1⟩]) := by
  obtain ⟨k, rfl⟩ : ∃ k, K = k + 30 := ⟨K - 30, by omega⟩
  have hb : bits_Len.f (IntKind.u64.wrap (([⟨x1, 1⟩, ⟨x0, -1⟩] : List S83).length : Int)) = some (Go.Lib.bitLen 2 : Nat) := by simp only [List.length_cons, List.length_nil]; decide
  have w7 : wrap64 (x0 - x1) = x0 - x1 := by rw [wid] <;> omega
  unfold raster_crossing_44.f
  rw [hb]
  by_cases c : x0 < x1
  · have c' : x0 - x1 < 0 := by omega
    simp [raster_crossing_56.f, raster_crossing_78.f, raster_crossing_78.l0, raster_crossing_78.l1, raster_rows_2.f, rd_T83, W0, W1, W2, W3, w7, c, c']
  · have c' : ¬ x0 - x1 < 0 := by omega
    simp [raster_crossing_56.f, raster_crossing_78.f, raster_crossing_78.l0, raster_crossing_78.l1, raster_rows_2.f, rd_T83, W0, W1, W2, W3, w7, c, c']
theorem sort_none {K : Nat} (hK : 30 ≤ K) : raster_crossing_44.f K [] = some [] := by
  obtain ⟨k, rfl⟩ : ∃ k, K = k + 30 := ⟨K - 30, by omega⟩
  have hb : bits_Len.f (IntKind.u64.wrap (([] : List S83).length : Int)) = some (Go.Lib.bitLen 0 : Nat) := by simp only [List.length_cons, List.length_nil]; decide
  unfold raster_crossing_44.f
  rw [hb]
  simp [raster_crossing_56.f, raster_crossing_78.f, raster_crossing_78.l0, raster_crossing_78.l1, W0, W1]
section
variable {x0 x1 y0 y1 X n : Int} {J j : Int} {L : List S79}
abbrev E1 (x0 x1 y0 y1 : Int) : S79 := ⟨x1, y0, x1, y1, 1⟩
abbrev E2 (x0 x1 y0 y1 : Int) : S79 := ⟨x0, y0, x0, y1, -1⟩
theorem del_none {K : Nat} (hK : 5 ≤ K) : raster_edge_41.f K [] [j] = some [] := by
  obtain ⟨k, rfl⟩ : ∃ k, K = k + 1 := ⟨K - 1, by omega⟩
  simp [raster_edge_41.f, raster_edge_55.f, raster_edge_55.l0]
theorem del_keep {K : Nat} (hK : 5 ≤ K) (h : j < y1) : raster_edge_41.f K [E1 x0 x1 y0 y1, E2 x0 x1 y0 y1] [j] = some [E1 x0 x1 y0 y1, E2 x0 x1 y0 y1] := by
  obtain ⟨k, rfl⟩ : ∃ k, K = k + 3 := ⟨K - 3, by omega⟩
  have h' : ¬ y1 ≤ j := by omega
  simp [raster_edge_41.f, raster_edge_55.f, raster_edge_55.l0, raster_rows_1.f, rd_T79, rd, h', h, W0, W1, W2]
theorem del_all {K : Nat} (hK : 5 ≤ K) (h : y1 ≤ j) : raster_edge_41.f K [E1 x0 x1 y0 y1, E2 x0 x1 y0 y1] [j] = some [] := by
  obtain ⟨k, rfl⟩ : ∃ k, K = k + 1 + 1 := ⟨K - 2, by omega⟩
  have g0 : rd_T79 [E1 x0 x1 y0 y1, E2 x0 x1 y0 y1] 0 = E1 x0 x1 y0 y1 := rfl
  have g1 : rd_T79 [E1 x0 x1 y0 y1, E2 x0 x1 y0 y1] 1 = E2 x0 x1 y0 y1 := rfl
  have w3 : wrap64 (0 + 1) = 1 := W1
  have w4 : wrap64 (1 + 1) = 2 := W2
  have r1 : ∀ a b c d, raster_rows_1.f a b c y1 d [j] = some true := fun a b c d => by unfold raster_rows_1.f; rw [if_pos (by simp)]; simp [rd, h]
  have hi : raster_edge_55.f (k + 1 + 1) [E1 x0 x1 y0 y1, E2 x0 x1 y0 y1] [j] = some 0 := by
    unfold raster_edge_55.f
    rw [raster_edge_55.l0.eq_2, if_pos (by simp), if_pos (by decide), if_pos (by simp)]
    simp only [g0]
    rw [r1]
    rfl
  unfold raster_edge_41.f
  rw [hi]
  simp only [Option.bind_some]
  rw [if_neg (by decide), w3, raster_edge_41.l0.eq_2, if_pos (by simp), if_pos (by decide)]
  simp only [g1]
  rw [r1]
  simp only [Option.bind_some]
  rw [if_pos trivial, w4, raster_edge_41.l0.eq_2, if_neg (by simp), if_pos (by decide), if_pos (by simp)]
  rfl
/-- Behind the last crossing: the next row. -/
theorem row_end (k : Nat) (A : List S79) (q wnd : Int) (c c' : List S83) (m i : Int) (hi : ¬ i < m) (hj : -2000000 ≤ j ∧ j ≤ 2000000) :
    raster_rows.l3 (k + 1) L J [n] [X] A c q [j] wnd c' m i = raster_rows.l0 k L J [n] [X] A c q [j + 1] := by
  have w1 : wrap64 (j + 1) = j + 1 := wid (by omega) (by omega)
  rw [raster_rows.l3.eq_2, if_neg hi, if_pos (by simp)]
  show (if 0 < (([j] : List Int).length : Int) then raster_rows.l0 k L J [n] [X] A c q [wrap64 (j + 1)] else none) = _
  rw [if_pos (by simp), w1]
/-- What comes of no edges. -/
theorem l2_none (k : Nat) (hk : 30 ≤ k) (q : Int) (hj : -2000000 ≤ j ∧ j ≤ 2000000) :
    raster_rows.l2 (k + 1 + 1) L J [n] [X] [] [] q [j] [] 0 0 = raster_rows.l0 k L J [n] [X] [] [] q [j + 1] := by
  rw [raster_rows.l2.eq_2, if_neg (by decide), sort_none (by omega)]
  simp only [Option.bind_some]
  exact row_end k [] q 0 [] [] (([] : List S83).length : Int) 0 (by simp) hj
/-- A row without edges. -/
theorem row_none (k : Nat) (hk : 30 ≤ k) (q : Int) (c : List S83) (hj : -2000000 ≤ j ∧ j ≤ 2000000) :
    raster_rows.j2 (k + 1 + 1 + 1) L J [n] [X] [] c q [j] = raster_rows.l0 k L J [n] [X] [] [] q [j + 1] := by
  rw [raster_rows.j2.eq_2, del_none (by omega)]
  simp only [Option.bind_some]
  rw [if_pos (by omega)]
  exact l2_none k hk q hj
/-- A row behind the upper ends. -/
theorem row_del (k : Nat) (hk : 30 ≤ k) (q : Int) (c : List S83) (hj : -2000000 ≤ j ∧ j ≤ 2000000) (h : y1 ≤ j) :
    raster_rows.j2 (k + 1 + 1 + 1) L J [n] [X] [E1 x0 x1 y0 y1, E2 x0 x1 y0 y1] c q [j] = raster_rows.l0 k L J [n] [X] [] [] q [j + 1] := by
  rw [raster_rows.j2.eq_2, del_all (by omega) h]
  simp only [Option.bind_some]
  rw [if_pos (by omega)]
  exact l2_none k hk q hj
/-- Two crossings. -/
theorem two_spans (k : Nat) (A : List S79) (q : Int) (a b s s' : Int) (hs : s = 1 ∨ s = -1) (hs' : s' = -s) (ha : R a) (hb : R b) (hX : R X) (hn : 0 ≤ n ∧ n ≤ 1000000) (hj : -2000000 ≤ j ∧ j ≤ 2000000) :
    raster_rows.l3 (k + 1 + 1 + 1) L J [n] [X] A [⟨a, s⟩, ⟨b, s'⟩] q [j] 0 [⟨a, s⟩, ⟨b, s'⟩] 2 0 = raster_rows.l0 k L J [n + cov a b X] [X] A [⟨a, s⟩, ⟨b, s'⟩] q [j + 1] := by
  have w1 : wrap64 (0 + s) = s := by rw [wid] <;> omega
  have w2 : wrap64 (s + s') = 0 := by rw [wid] <;> omega
  have w3 : wrap64 (0 + 1) = 1 := W1
  have w4 : wrap64 (1 + 1) = 2 := W2
  have g0 : rd_T83 [⟨a, s⟩, ⟨b, s'⟩] 0 = ⟨a, s⟩ := rfl
  have g1 : rd_T83 [⟨a, s⟩, ⟨b, s'⟩] 1 = ⟨b, s'⟩ := rfl
  rw [raster_rows.l3.eq_2, if_pos (by decide), if_pos (by decide), if_pos (by simp)]
  simp only [g0, w1, w3]
  rw [if_neg (by omega), if_pos (by simp), if_pos (by decide), if_pos (by simp)]
  simp only [g1]
  rw [show rd [j] 0 = j from rfl, span_ok ha hb hX hn]
  simp only [Option.bind_some]
  rw [raster_rows.l3.eq_2, if_pos (by decide), if_pos (by decide), if_pos (by simp)]
  simp only [g1, w2, w4]
  rw [if_pos trivial]
  exact row_end k A q 0 _ _ 2 2 (by decide) hj
/-- What comes of both edges. -/
theorem l2_two (k : Nat) (q : Int) (hx0 : R x0) (hx1 : R x1) (hy0 : R y0) (hy1 : R y1) (hy : y0 < y1) :
    raster_rows.l2 (k + 1 + 1 + 1) L J [n] [X] [E1 x0 x1 y0 y1, E2 x0 x1 y0 y1] [] q [j] [E1 x0 x1 y0 y1, E2 x0 x1 y0 y1] 2 0 =
      (raster_crossing_44.f k [⟨x1, 1⟩, ⟨x0, -1⟩]).bind fun t => raster_rows.l3 k L J [n] [X] [E1 x0 x1 y0 y1, E2 x0 x1 y0 y1] t q [j] 0 t 2 0 := by
  have w3 : wrap64 (0 + 1) = 1 := W1
  have w4 : wrap64 (1 + 1) = 2 := W2
  have g0 : rd_T79 [E1 x0 x1 y0 y1, E2 x0 x1 y0 y1] 0 = E1 x0 x1 y0 y1 := rfl
  have g1 : rd_T79 [E1 x0 x1 y0 y1, E2 x0 x1 y0 y1] 1 = E2 x0 x1 y0 y1 := rfl
  rw [raster_rows.l2.eq_2, if_pos (by decide), if_pos (by decide), if_pos (by simp), if_pos (by simp)]
  simp only [g0, w3]
  rw [show rd [j] 0 = j from rfl, first_ok hx1 hy0 hy1 hy]
  simp only [Option.bind_some, List.nil_append]
  rw [if_pos (by simp), raster_rows.l2.eq_2, if_pos (by decide), if_pos (by decide), if_pos (by simp), if_pos (by simp)]
  simp only [g1, w4]
  rw [show rd [j] 0 = j from rfl, first_ok hx0 hy0 hy1 hy]
  simp only [Option.bind_some, List.cons_append, List.nil_append]
  rw [if_pos (by simp), raster_rows.l2.eq_2, if_neg (by decide)]
  rfl
/-- A row between the lower and the upper ends. -/
theorem row_both (k : Nat) (hk : 30 ≤ k) (q : Int) (c : List S83) (hx0 : R x0) (hx1 : R x1) (hy0 : R y0) (hy1 : R y1) (hX : R X) (hx : x0 ≤ x1) (hy : y0 < y1) (hn : 0 ≤ n ∧ n ≤ 1000000) (hj : -2000000 ≤ j ∧ j ≤ 2000000) (h : j < y1) :
    ∃ c', raster_rows.j2 (k + 1 + 1 + 1 + 1 + 1 + 1 + 1) L J [n] [X] [E1 x0 x1 y0 y1, E2 x0 x1 y0 y1] c q [j] = raster_rows.l0 k L J [n + cov x0 x1 X] [X] [E1 x0 x1 y0 y1, E2 x0 x1 y0 y1] c' q [j + 1] := by
  rw [raster_rows.j2.eq_2, del_keep (by omega) h]
  simp only [Option.bind_some]
  rw [if_pos (by omega)]
  have e := l2_two (L := L) (J := J) (n := n) (X := X) (j := j) (k + 1 + 1 + 1) q hx0 hx1 hy0 hy1 hy
  have e' : raster_rows.l2 (k + 1 + 1 + 1 + 1 + 1 + 1) L J [n] [X] [E1 x0 x1 y0 y1, E2 x0 x1 y0 y1] (List.take (Int.toNat 0) c) q [j] [E1 x0 x1 y0 y1, E2 x0 x1 y0 y1] (([E1 x0 x1 y0 y1, E2 x0 x1 y0 y1] : List S79).length : Int) 0 = _ := e
  rw [e', sort_two (by omega) hx0 hx1 hx]
  simp only [Option.bind_some]
  by_cases c : x0 < x1
  · rw [if_pos c]
    exact ⟨_, two_spans k _ q x0 x1 (-1) 1 (.inr rfl) rfl hx0 hx1 hX hn hj⟩
  · rw [if_neg c]
    have : x1 = x0 := by omega
    subst this
    exact ⟨_, two_spans k _ q x1 x1 1 (-1) (.inl rfl) rfl hx0 hx1 hX hn hj⟩
/-- The rows' loop, at its head. -/
theorem l0_go (k : Nat) (A : List S79) (c : List S83) (q : Int) (h : j < J) : raster_rows.l0 (k + 1) L J [n] [X] A c q [j] = raster_rows.l1 k L J [n] [X] A c q [j] := by
  rw [raster_rows.l0.eq_2, if_pos (by simp), show rd [j] 0 = j from rfl, if_pos h]
theorem l0_end (k : Nat) (A : List S79) (c : List S83) (q : Int) (h : ¬ j < J) : raster_rows.l0 (k + 1) L J [n] [X] A c q [j] = some [n] := by
  rw [raster_rows.l0.eq_2, if_pos (by simp), show rd [j] 0 = j from rfl, if_neg h]
/-- No edge is left to be taken in. -/
theorem l1_two (k : Nat) (A : List S79) (c : List S83) : raster_rows.l1 (k + 1) [E1 x0 x1 y0 y1, E2 x0 x1 y0 y1] J [n] [X] A c 2 [j] = raster_rows.j2 k [E1 x0 x1 y0 y1, E2 x0 x1 y0 y1] J [n] [X] A c 2 [j] := by
  rw [raster_rows.l1.eq_2, if_pos (by simp), if_neg (by simp)]
theorem l1_nil (k : Nat) (A : List S79) (c : List S83) : raster_rows.l1 (k + 1) [] J [n] [X] A c 0 [j] = raster_rows.j2 k [] J [n] [X] A c 0 [j] := by
  rw [raster_rows.l1.eq_2, if_pos (by simp), if_neg (by simp)]
theorem l1_wait (k : Nat) (A : List S79) (c : List S83) (h : j < y0) : raster_rows.l1 (k + 1) [E1 x0 x1 y0 y1, E2 x0 x1 y0 y1] J [n] [X] A c 0 [j] = raster_rows.j2 k [E1 x0 x1 y0 y1, E2 x0 x1 y0 y1] J [n] [X] A c 0 [j] := by
  have g0 : rd_T79 [E1 x0 x1 y0 y1, E2 x0 x1 y0 y1] 0 = E1 x0 x1 y0 y1 := rfl
  rw [raster_rows.l1.eq_2, if_pos (by simp), if_pos (by simp), if_pos (by decide)]
  simp only [g0]
  rw [show rd [j] 0 = j from rfl, if_neg (by omega)]
theorem l1_take (k : Nat) (c : List S83) (h : y0 ≤ j) : raster_rows.l1 (k + 1 + 1 + 1) [E1 x0 x1 y0 y1, E2 x0 x1 y0 y1] J [n] [X] [] c 0 [j] = raster_rows.j2 k [E1 x0 x1 y0 y1, E2 x0 x1 y0 y1] J [n] [X] [E1 x0 x1 y0 y1, E2 x0 x1 y0 y1] c 2 [j] := by
  have g0 : rd_T79 [E1 x0 x1 y0 y1, E2 x0 x1 y0 y1] 0 = E1 x0 x1 y0 y1 := rfl
  have g1 : rd_T79 [E1 x0 x1 y0 y1, E2 x0 x1 y0 y1] 1 = E2 x0 x1 y0 y1 := rfl
  have w3 : wrap64 (0 + 1) = 1 := W1
  have w4 : wrap64 (1 + 1) = 2 := W2
  rw [raster_rows.l1.eq_2, if_pos (by simp), if_pos (by simp), if_pos (by decide)]
  simp only [g0, w3, List.nil_append]
  rw [show rd [j] 0 = j from rfl, if_pos h, if_pos (by simp), raster_rows.l1.eq_2, if_pos (by simp), if_pos (by simp), if_pos (by decide)]
  simp only [g1, w4, List.cons_append, List.nil_append]
  rw [show rd [j] 0 = j from rfl, if_pos h, if_pos (by simp)]
  exact l1_two k _ c
end
section
variable {x0 x1 y0 y1 X : Int}
/-- Rows of which none has an edge. -/
theorem rows_flat : ∀ (d K : Nat) (j n : Int) (c : List S83), 12 * d + 40 ≤ K → -1500000 ≤ j → j + d ≤ 1500000 → raster_rows.l0 K [] (j + d) [n] [X] [] c 0 [j] = some [n]
  | 0, K, j, n, c, hK, h0, h1 => by
    obtain ⟨k, rfl⟩ : ∃ k, K = k + 1 := ⟨K - 1, by omega⟩
    exact l0_end k _ _ _ (by omega)
  | d + 1, K, j, n, c, hK, h0, h1 => by
    obtain ⟨k, rfl⟩ : ∃ k, K = k + 1 + 1 + 1 + 1 + 1 := ⟨K - 5, by omega⟩
    rw [l0_go _ _ _ _ (by omega), l1_nil, row_none k (by omega) _ _ (by omega)]
    have := rows_flat d k (j + 1) n [] (by omega) (by omega) (by omega)
    rw [show j + ((d + 1 : Nat) : Int) = j + 1 + (d : Int) by omega]
    exact this
theorem rows_over : ∀ (d K : Nat) (j n : Int) (c : List S83), 12 * d + 40 ≤ K → -1500000 ≤ j → j + d ≤ 1500000 → raster_rows.l0 K [E1 x0 x1 y0 y1, E2 x0 x1 y0 y1] (j + d) [n] [X] [] c 2 [j] = some [n]
  | 0, K, j, n, c, hK, h0, h1 => by
    obtain ⟨k, rfl⟩ : ∃ k, K = k + 1 := ⟨K - 1, by omega⟩
    exact l0_end k _ _ _ (by omega)
  | d + 1, K, j, n, c, hK, h0, h1 => by
    obtain ⟨k, rfl⟩ : ∃ k, K = k + 1 + 1 + 1 + 1 + 1 := ⟨K - 5, by omega⟩
    rw [l0_go _ _ _ _ (by omega), l1_two, row_none k (by omega) _ _ (by omega)]
    have := rows_over d k (j + 1) n [] (by omega) (by omega) (by omega)
    rw [show j + ((d + 1 : Nat) : Int) = j + 1 + (d : Int) by omega]
    exact this
theorem rows_on (hx0 : R x0) (hx1 : R x1) (hy0 : R y0) (hy1 : R y1) (hX : R X) (hx : x0 ≤ x1) (hy : y0 < y1) : ∀ (d K : Nat) (j n t : Int) (c : List S83), 12 * d + 40 ≤ K → -1500000 ≤ j → j + d ≤ 1500000 → 0 ≤ n → n + 64 * d ≤ 1000000 →
    t = max 0 (min y1 (j + d) - j) → raster_rows.l0 K [E1 x0 x1 y0 y1, E2 x0 x1 y0 y1] (j + d) [n] [X] [E1 x0 x1 y0 y1, E2 x0 x1 y0 y1] c 2 [j] = some [n + cov x0 x1 X * t]
  | 0, K, j, n, t, c, hK, h0, h1, h2, h3, ht => by
    obtain ⟨k, rfl⟩ : ∃ k, K = k + 1 := ⟨K - 1, by omega⟩
    have : t = 0 := by omega
    subst this
    rw [l0_end k _ _ _ (by omega), Int.mul_zero, Int.add_zero]
  | d + 1, K, j, n, t, c, hK, h0, h1, h2, h3, ht => by
    have hc := cov_bound hx0 hx1 hX
    by_cases hj : j < y1
    · obtain ⟨k, rfl⟩ : ∃ k, K = k + 1 + 1 + 1 + 1 + 1 + 1 + 1 + 1 + 1 := ⟨K - 9, by omega⟩
      obtain ⟨c', e⟩ := row_both (L := [E1 x0 x1 y0 y1, E2 x0 x1 y0 y1]) (J := j + ((d + 1 : Nat) : Int)) (n := n) (j := j) k (by omega) 2 c hx0 hx1 hy0 hy1 hX hx hy ⟨h2, by omega⟩ (by omega) hj
      rw [l0_go _ _ _ _ (by omega), l1_two, e]
      have := rows_on hx0 hx1 hy0 hy1 hX hx hy d k (j + 1) (n + cov x0 x1 X) (t - 1) c' (by omega) (by omega) (by omega) (by omega) (by omega) (by omega)
      rw [show j + ((d + 1 : Nat) : Int) = j + 1 + (d : Int) by omega, this, Int.mul_sub, Int.mul_one]
      congr 2; omega
    · obtain ⟨k, rfl⟩ : ∃ k, K = k + 1 + 1 + 1 + 1 + 1 := ⟨K - 5, by omega⟩
      rw [l0_go _ _ _ _ (by omega), l1_two, row_del k (by omega) _ _ (by omega) (by omega)]
      have : t = 0 := by omega
      subst this
      rw [Int.mul_zero, Int.add_zero]
      have := rows_over (x0 := x0) (x1 := x1) (y0 := y0) (y1 := y1) (X := X) d k (j + 1) n [] (by omega) (by omega) (by omega)
      rw [show j + ((d + 1 : Nat) : Int) = j + 1 + (d : Int) by omega]
      exact this
theorem rows_all (hx0 : R x0) (hx1 : R x1) (hy0 : R y0) (hy1 : R y1) (hX : R X) (hx : x0 ≤ x1) (hy : y0 < y1) : ∀ (d K : Nat) (j n t : Int) (c : List S83), 12 * d + 40 ≤ K → -1500000 ≤ j → j + d ≤ 1500000 → 0 ≤ n → n + 64 * d ≤ 1000000 →
    t = max 0 (min y1 (j + d) - max y0 j) → raster_rows.l0 K [E1 x0 x1 y0 y1, E2 x0 x1 y0 y1] (j + d) [n] [X] [] c 0 [j] = some [n + cov x0 x1 X * t]
  | 0, K, j, n, t, c, hK, h0, h1, h2, h3, ht => by
    obtain ⟨k, rfl⟩ : ∃ k, K = k + 1 := ⟨K - 1, by omega⟩
    have : t = 0 := by omega
    subst this
    rw [l0_end k _ _ _ (by omega), Int.mul_zero, Int.add_zero]
  | d + 1, K, j, n, t, c, hK, h0, h1, h2, h3, ht => by
    have hc := cov_bound hx0 hx1 hX
    by_cases hw : j < y0
    · obtain ⟨k, rfl⟩ : ∃ k, K = k + 1 + 1 + 1 + 1 + 1 := ⟨K - 5, by omega⟩
      rw [l0_go _ _ _ _ (by omega), l1_wait _ _ _ hw, row_none k (by omega) _ _ (by omega)]
      have := rows_all hx0 hx1 hy0 hy1 hX hx hy d k (j + 1) n t [] (by omega) (by omega) (by omega) (by omega) (by omega) (by omega)
      rw [show j + ((d + 1 : Nat) : Int) = j + 1 + (d : Int) by omega]
      exact this
    · by_cases hj : j < y1
      · obtain ⟨k, rfl⟩ : ∃ k, K = k + 1 + 1 + 1 + 1 + 1 + 1 + 1 + 1 + 1 + 1 + 1 := ⟨K - 11, by omega⟩
        obtain ⟨c', e⟩ := row_both (L := [E1 x0 x1 y0 y1, E2 x0 x1 y0 y1]) (J := j + ((d + 1 : Nat) : Int)) (n := n) (j := j) k (by omega) 2 c hx0 hx1 hy0 hy1 hX hx hy ⟨h2, by omega⟩ (by omega) hj
        rw [l0_go _ _ _ _ (by omega), l1_take _ _ (by omega), e]
        have := rows_on hx0 hx1 hy0 hy1 hX hx hy d k (j + 1) (n + cov x0 x1 X) (t - 1) c' (by omega) (by omega) (by omega) (by omega) (by omega) (by omega)
        rw [show j + ((d + 1 : Nat) : Int) = j + 1 + (d : Int) by omega, this, Int.mul_sub, Int.mul_one]
        congr 2; omega
      · obtain ⟨k, rfl⟩ : ∃ k, K = k + 1 + 1 + 1 + 1 + 1 + 1 + 1 := ⟨K - 7, by omega⟩
        rw [l0_go _ _ _ _ (by omega), l1_take _ _ (by omega), row_del k (by omega) _ _ (by omega) (by omega)]
        have : t = 0 := by omega
        subst this
        rw [Int.mul_zero, Int.add_zero]
        have := rows_over (x0 := x0) (x1 := x1) (y0 := y0) (y1 := y1) (X := X) d k (j + 1) n [] (by omega) (by omega) (by omega)
        rw [show j + ((d + 1 : Nat) : Int) = j + 1 + (d : Int) by omega]
        exact this
/-- What the law holds against it. -/
def com (a b m : Int) : Int := max 0 (min b (64 * m + 64) - max a (64 * m))
theorem com_bound {a b m : Int} (ha : R a) (hb : R b) (hm : R m) : 0 ≤ com a b m ∧ com a b m ≤ 64 := by unfold com; omega
theorem common_ok (k : Nat) {a b m : Int} (ha : R a) (hb : R b) (hm : R m) : seriflaw21_common.f (k + 1) a b m = some (com a b m) := by
  have e1 : wrap64 (64 * m) = 64 * m := wid (by omega) (by omega)
  have e2 : wrap64 (64 * m + 64) = 64 * m + 64 := wid (by omega) (by omega)
  have e3 : wrap64 (b - a) = b - a := wid (by omega) (by omega)
  have e4 : wrap64 (64 * m + 64 - a) = 64 * m + 64 - a := wid (by omega) (by omega)
  have e5 : wrap64 (b - 64 * m) = b - 64 * m := wid (by omega) (by omega)
  have e6 : wrap64 (64 * m + 64 - 64 * m) = 64 * m + 64 - 64 * m := wid (by omega) (by omega)
  unfold seriflaw21_common.f com
  simp only [seriflaw21_common.j0, e1, e2, e3, e4, e5, e6]
  repeat' split
  all_goals (congr 1; omega)
theorem cov_com {a b m : Int} : cov a b m = com a b m := by
  unfold cov com mx mn
  repeat' split
  all_goals omega
theorem count_ok (k : Nat) {Y : Int} (hk : 2000 ≤ k) (hx0 : R x0) (hx1 : R x1) (hy0 : R y0) (hy1 : R y1) (hX : R X) (hY : R Y) (hx : x0 ≤ x1) (hy : y0 ≤ y1) :
    raster_Count.f k [[(⟨x0, y0⟩ : S45), ⟨x1, y0⟩, ⟨x1, y1⟩, ⟨x0, y1⟩]] X Y = some (com x0 x1 X * com y0 y1 Y, 0) := by
  have e1 : wrap64 (64 * Y) = 64 * Y := wid (by omega) (by omega)
  have e2 : wrap64 (64 * Y + 64) = 64 * Y + 64 := wid (by omega) (by omega)
  obtain ⟨k, rfl⟩ : ∃ q, k = q + 1 := ⟨k - 1, by omega⟩
  have hch : raster_check.f (k + 1) [[(⟨x0, y0⟩ : S45), ⟨x1, y0⟩, ⟨x1, y1⟩, ⟨x0, y1⟩]] = some 0 := by
    obtain ⟨q, rfl⟩ : ∃ q, k = q + 9 := ⟨k - 9, by omega⟩
    exact check_ok q hx0 hx1 hy0 hy1
  unfold raster_Count.f
  simp only [Option.bind_some]
  rw [hch]
  simp only [Option.bind_some]
  rw [if_pos trivial, if_pos (by simp), show rd [X] 0 = X from rfl, small_ok hX]
  simp only [Option.bind_some]
  rw [if_pos trivial, small_ok hY]
  simp only [Option.bind_some]
  rw [raster_Count.j0.eq_2, if_neg (by decide), e1, e2]
  simp only [Option.bind_some]
  by_cases h : y0 < y1
  · have he : raster_edges.f k [[(⟨x0, y0⟩ : S45), ⟨x1, y0⟩, ⟨x1, y1⟩, ⟨x0, y1⟩]] = some [E1 x0 x1 y0 y1, E2 x0 x1 y0 y1] := by
      obtain ⟨q, rfl⟩ : ∃ q, k = q + 30 := ⟨k - 30, by omega⟩
      exact edges_two q hx0 hx1 hy0 hy1 h
    have hr := rows_all hx0 hx1 hy0 hy1 hX hx h 64 k (64 * Y) 0 (com y0 y1 Y) [] (by omega) (by omega) (by omega) (by omega) (by omega) rfl
    rw [he]
    simp only [Option.bind_some]
    unfold raster_rows.f
    rw [show 64 * Y + 64 = 64 * Y + ((64 : Nat) : Int) from rfl, hr]
    simp only [Option.bind_some]
    rw [if_pos (by simp), show rd [0 + cov x0 x1 X * com y0 y1 Y] 0 = 0 + cov x0 x1 X * com y0 y1 Y from rfl, Int.zero_add, cov_com]
  · have hyy : y1 = y0 := by omega
    subst hyy
    have he : raster_edges.f k [[(⟨x0, y1⟩ : S45), ⟨x1, y1⟩, ⟨x1, y1⟩, ⟨x0, y1⟩]] = some [] := by
      obtain ⟨q, rfl⟩ : ∃ q, k = q + 20 := ⟨k - 20, by omega⟩
      exact edges_flat q
    have hr := rows_flat (X := X) 64 k (64 * Y) 0 [] (by omega) (by omega) (by omega)
    have hz : com y1 y1 Y = 0 := by unfold com; omega
    rw [he]
    simp only [Option.bind_some]
    unfold raster_rows.f
    rw [show 64 * Y + 64 = 64 * Y + ((64 : Nat) : Int) from rfl, hr, hz, Int.mul_zero]
    rfl
end
/-- The plain law: whatever the numbers are. -/
theorem RasterSquares (x0 x1 y0 y1 X Y : Int) : ∃ k, seriflaw21_RasterSquares.f k x0 x1 y0 y1 X Y = some true := by
  refine ⟨3000 + 1 + 1 + 1 + 1 + 1 + 1 + 1 + 1, ?_⟩
  have w3 : wrap64 (0 + 1) = 1 := W1
  have w4 : wrap64 (1 + 1) = 2 := W2
  have w5 : wrap64 (2 + 1) = 3 := W3
  have w6 : wrap64 (3 + 1) = 4 := W4
  have w7 : wrap64 (4 + 1) = 5 := W5
  have w8 : wrap64 (5 + 1) = 6 := W6
  unfold seriflaw21_RasterSquares.f seriflaw21_rasterAlive.f
  simp only [Option.bind_some]
  rw [if_pos trivial]
  have step : ∀ (k : Nat) (i i' v : Int), 0 ≤ i → i < 6 → wrap64 (i + 1) = i' → rd [x0, x1, y0, y1, X, Y] i = v → (R v → seriflaw21_RasterSquares.l0 k [x0, x1, y0, y1, X, Y] 6 i' x0 x1 y0 y1 X Y = some true) →
      seriflaw21_RasterSquares.l0 (k + 1) [x0, x1, y0, y1, X, Y] 6 i x0 x1 y0 y1 X Y = some true := by
    intro k i i' v h0 h1 hi hv hh
    rw [seriflaw21_RasterSquares.l0.eq_2, if_pos h1, if_pos h0, if_pos (by simpa using h1), hv, hi]
    by_cases c1 : v < -20000
    · rw [if_pos c1]
    · rw [if_neg c1]
      by_cases c2 : v > 20000
      · rw [if_pos c2]
      · rw [if_neg c2]
        exact hh ⟨by omega, by omega⟩
  show seriflaw21_RasterSquares.l0 (3000 + 1 + 1 + 1 + 1 + 1 + 1 + 1 + 1) [x0, x1, y0, y1, X, Y] 6 0 x0 x1 y0 y1 X Y = some true
  refine step _ 0 1 x0 (by decide) (by decide) w3 rfl fun hx0 => ?_
  refine step _ 1 2 x1 (by decide) (by decide) w4 rfl fun hx1 => ?_
  refine step _ 2 3 y0 (by decide) (by decide) w5 rfl fun hy0 => ?_
  refine step _ 3 4 y1 (by decide) (by decide) w6 rfl fun hy1 => ?_
  refine step _ 4 5 X (by decide) (by decide) w7 rfl fun hX => ?_
  refine step _ 5 6 Y (by decide) (by decide) w8 rfl fun hY => ?_
  rw [seriflaw21_RasterSquares.l0.eq_2, if_neg (by decide)]
  by_cases c1 : x0 > x1
  · rw [if_pos c1, seriflaw21_RasterSquares.j1.eq_2, if_pos rfl]
  · rw [if_neg c1, seriflaw21_RasterSquares.j1.eq_2]
    by_cases c2 : y0 > y1
    · rw [if_pos (by simpa using c2)]
    · rw [if_neg (by simpa using c2)]
      have hm := mulb (a := com x0 x1 X) (b := com y0 y1 Y) (A := 64) (B := 64) (by have := com_bound hx0 hx1 hX; omega) (by have := com_bound hy0 hy1 hY; omega)
      unfold seriflaw21_square.f
      simp only [Option.bind_some]
      rw [count_ok 3000 (by decide) hx0 hx1 hy0 hy1 hX hY (by omega) (by omega)]
      simp only [Option.bind_some]
      rw [if_pos trivial, common_ok 2999 hx0 hx1 hX, Option.bind_some, common_ok 2999 hy0 hy1 hY, Option.bind_some, wid (by omega) (by omega)]
      simp
end Sq
end Go.Proofs.Ytmlplblhabdbpaa.PRasterSquares
