/- A part of the proof of the law RasterSquares: plain functions and what the machine's calls of them come to; printed by wip/extprint.py out of the kit's printer and contracts of our own. No condition but an answer of the plain function. -/
import Derived.Test.YtmlplblhabdbpaaPRasterSquaresx0
import Derived.Test.YtmlplblhabdbpaaPRasterSquaresx1
import Derived.Test.YtmlplblhabdbpaaPRasterSquaresx3
namespace Go.Proofs.Ytmlplblhabdbpaa.PRasterSquares
open Go.RowKit Go.Proofs.YtmlplblhabdbpaaW.PrintWords Go.Proofs.YtmlplblhabdbpaaW.PrintLast Go.Proofs.YtmlplblhabdbpaaW.PrintMore
attribute [local go_sem] max2_int min2_int max_two min_two max_three min_three max_four min_four   -- for this text's walks alone
set_option linter.unusedVariables false
set_option linter.unusedSimpArgs false

/-! ### raster_rows: function 32 -/
mutual
def raster_rows.l0 : Nat → List (S79) → Int → List Int → List Int → List (S79) → List (S83) → Int → List Int → Option (List Int)
  | 0, _, _, _, _, _, _, _, _ => none
  | k + 1, x0, x2, x3, x4, x8, x9, x10, x11 => if 0 < (x11.length : Int) then (if (rd x11 0) < x2 then (raster_rows.l1 k x0 x2 x3 x4 x8 x9 x10 x11) else (some x3)) else (none)
def raster_rows.j2 : Nat → List (S79) → Int → List Int → List Int → List (S79) → List (S83) → Int → List Int → Option (List Int)
  | 0, _, _, _, _, _, _, _, _ => none
  | k + 1, x0, x2, x3, x4, x8, x9, x10, x11 => (raster_edge_41.f k x8 x11).bind fun t145 => (if 0 ≤ (x9.length : Int) then (raster_rows.l2 k x0 x2 x3 x4 t145 (x9.take (0 : Int).toNat) x10 x11 t145 (t145.length : Int) 0) else (none))
def raster_rows.l2 : Nat → List (S79) → Int → List Int → List Int → List (S79) → List (S83) → Int → List Int → List (S79) → Int → Int → Option (List Int)
  | 0, _, _, _, _, _, _, _, _, _, _, _ => none
  | k + 1, x0, x2, x3, x4, x8, x9, x10, x11, x50, x51, x52 => if x52 < x51 then (if 0 ≤ x52 then (if x52 < (x50.length : Int) then (if 0 < (x11.length : Int) then ((raster_edge_first.f ((rd_T79 x50 x52).f0) ((rd_T79 x50 x52).f1) ((rd_T79 x50 x52).f2) ((rd_T79 x50 x52).f3) ((rd_T79 x50 x52).f4) (rd x11 0)).bind fun t154 => (if x9.length < 8796093022208 then (raster_rows.l2 k x0 x2 x3 x4 x8 (x9 ++ [(⟨t154, (rd_T79 x50 x52).f4⟩ : S83)]) x10 x11 x50 x51 (wrap64 (x52 + 1))) else (none))) else (none)) else (none)) else (none)) else ((raster_crossing_44.f k x9).bind fun t158 => (raster_rows.l3 k x0 x2 x3 x4 x8 t158 x10 x11 0 t158 (x9.length : Int) 0))
def raster_rows.l3 : Nat → List (S79) → Int → List Int → List Int → List (S79) → List (S83) → Int → List Int → Int → List (S83) → Int → Int → Option (List Int)
  | 0, _, _, _, _, _, _, _, _, _, _, _, _ => none
  | k + 1, x0, x2, x3, x4, x8, x9, x10, x11, x14, x68, x69, x70 => if x70 < x69 then (if 0 ≤ x70 then (if x70 < (x68.length : Int) then (if (wrap64 (x14 + ((rd_T83 x68 x70).f1))) = 0 then (raster_rows.l3 k x0 x2 x3 x4 x8 x9 x10 x11 (wrap64 (x14 + ((rd_T83 x68 x70).f1))) x68 x69 (wrap64 (x70 + 1))) else (if 0 < (x11.length : Int) then (if 0 ≤ (wrap64 (x70 + 1)) then (if (wrap64 (x70 + 1)) < (x9.length : Int) then ((raster_Count_1.f (rd x11 0) ((rd_T83 x68 x70).f0) ((rd_T83 x9 (wrap64 (x70 + 1))).f0) x3 x4).bind fun t163 => (raster_rows.l3 k x0 x2 t163 x4 x8 x9 x10 x11 (wrap64 (x14 + ((rd_T83 x68 x70).f1))) x68 x69 (wrap64 (x70 + 1)))) else (none)) else (none)) else (none))) else (none)) else (none)) else (if 0 < (x11.length : Int) then ((some (([rd x11 0] : List Int) : List Int)).bind fun y165 => (if 0 < (y165.length : Int) then (raster_rows.l0 k x0 x2 x3 x4 x8 x9 x10 (y165.set (0 : Int).toNat (wrap64 ((rd y165 0) + 1)))) else (none))) else (none))
def raster_rows.l1 : Nat → List (S79) → Int → List Int → List Int → List (S79) → List (S83) → Int → List Int → Option (List Int)
  | 0, _, _, _, _, _, _, _, _ => none
  | k + 1, x0, x2, x3, x4, x8, x9, x10, x11 => if 0 < (x11.length : Int) then (if x10 < (x0.length : Int) then (if 0 ≤ x10 then (if ((rd_T79 x0 x10).f1) ≤ (rd x11 0) then (if x8.length < 3518437208883 then (raster_rows.l1 k x0 x2 x3 x4 (x8 ++ [(⟨(rd_T79 x0 x10).f0, (rd_T79 x0 x10).f1, (rd_T79 x0 x10).f2, (rd_T79 x0 x10).f3, (rd_T79 x0 x10).f4⟩ : S79)]) x9 (wrap64 (x10 + 1)) x11) else (none)) else (raster_rows.j2 k x0 x2 x3 x4 x8 x9 x10 x11)) else (none)) else (raster_rows.j2 k x0 x2 x3 x4 x8 x9 x10 x11)) else (none)
end
def raster_rows.f (k : Nat) (l0 : List (S79)) (a1 : Int) (a2 : Int) (l3 : List Int) (l4 : List Int) : Option (List Int) := raster_rows.l0 k l0 a2 l3 l4 ([] : List (S79)) ([] : List (S83)) 0 (([a1] : List Int))
theorem raster_rows.mono_l : ∀ k, (∀ y0 y1 y2 y3 y4 y5 y6 y7, LeO (raster_rows.l0 k y0 y1 y2 y3 y4 y5 y6 y7) (raster_rows.l0 (k + 1) y0 y1 y2 y3 y4 y5 y6 y7)) ∧ (∀ y0 y1 y2 y3 y4 y5 y6 y7, LeO (raster_rows.j2 k y0 y1 y2 y3 y4 y5 y6 y7) (raster_rows.j2 (k + 1) y0 y1 y2 y3 y4 y5 y6 y7)) ∧ (∀ y0 y1 y2 y3 y4 y5 y6 y7 y8 y9 y10, LeO (raster_rows.l2 k y0 y1 y2 y3 y4 y5 y6 y7 y8 y9 y10) (raster_rows.l2 (k + 1) y0 y1 y2 y3 y4 y5 y6 y7 y8 y9 y10)) ∧ (∀ y0 y1 y2 y3 y4 y5 y6 y7 y8 y9 y10 y11, LeO (raster_rows.l3 k y0 y1 y2 y3 y4 y5 y6 y7 y8 y9 y10 y11) (raster_rows.l3 (k + 1) y0 y1 y2 y3 y4 y5 y6 y7 y8 y9 y10 y11)) ∧ (∀ y0 y1 y2 y3 y4 y5 y6 y7, LeO (raster_rows.l1 k y0 y1 y2 y3 y4 y5 y6 y7) (raster_rows.l1 (k + 1) y0 y1 y2 y3 y4 y5 y6 y7))
  | 0 => ⟨fun _ _ _ _ _ _ _ _ r h => by simp [raster_rows.l0] at h, fun _ _ _ _ _ _ _ _ r h => by simp [raster_rows.j2] at h, fun _ _ _ _ _ _ _ _ _ _ _ r h => by simp [raster_rows.l2] at h, fun _ _ _ _ _ _ _ _ _ _ _ _ r h => by simp [raster_rows.l3] at h, fun _ _ _ _ _ _ _ _ r h => by simp [raster_rows.l1] at h⟩
  | k + 1 => by
    obtain ⟨ih0, ih1, ih2, ih3, ih4⟩ := raster_rows.mono_l k
    refine ⟨?_, ?_, ?_, ?_, ?_⟩
    · intro y0 y1 y2 y3 y4 y5 y6 y7
      unfold raster_rows.l0
      repeat' first
      | (with_reducible exact ih0 _ _ _ _ _ _ _ _)
      | (with_reducible exact ih1 _ _ _ _ _ _ _ _)
      | (with_reducible exact ih2 _ _ _ _ _ _ _ _ _ _ _)
      | (with_reducible exact ih3 _ _ _ _ _ _ _ _ _ _ _ _)
      | (with_reducible exact ih4 _ _ _ _ _ _ _ _)
      | (with_reducible exact raster_crossing_44.mono _ _)
      | (with_reducible exact raster_edge_41.mono _ _ _)
      | (with_reducible exact LeO.refl _)
      | (with_reducible exact LeO.none _)
      | (with_reducible refine LeO.ite ?_ ?_)
      | (with_reducible refine LeO.bind ?_ (fun _ => ?_))
      | exact ih0 _ _ _ _ _ _ _ _
      | exact ih1 _ _ _ _ _ _ _ _
      | exact ih2 _ _ _ _ _ _ _ _ _ _ _
      | exact ih3 _ _ _ _ _ _ _ _ _ _ _ _
      | exact ih4 _ _ _ _ _ _ _ _
      | exact raster_crossing_44.mono _ _
      | exact raster_edge_41.mono _ _ _
      | exact LeO.none _
      | refine LeO.ite ?_ ?_
      | refine LeO.bind ?_ (fun _ => ?_)
    · intro y0 y1 y2 y3 y4 y5 y6 y7
      unfold raster_rows.j2
      repeat' first
      | (with_reducible exact ih0 _ _ _ _ _ _ _ _)
      | (with_reducible exact ih1 _ _ _ _ _ _ _ _)
      | (with_reducible exact ih2 _ _ _ _ _ _ _ _ _ _ _)
      | (with_reducible exact ih3 _ _ _ _ _ _ _ _ _ _ _ _)
      | (with_reducible exact ih4 _ _ _ _ _ _ _ _)
      | (with_reducible exact raster_crossing_44.mono _ _)
      | (with_reducible exact raster_edge_41.mono _ _ _)
      | (with_reducible exact LeO.refl _)
      | (with_reducible exact LeO.none _)
      | (with_reducible refine LeO.ite ?_ ?_)
      | (with_reducible refine LeO.bind ?_ (fun _ => ?_))
      | exact ih0 _ _ _ _ _ _ _ _
      | exact ih1 _ _ _ _ _ _ _ _
      | exact ih2 _ _ _ _ _ _ _ _ _ _ _
      | exact ih3 _ _ _ _ _ _ _ _ _ _ _ _
      | exact ih4 _ _ _ _ _ _ _ _
      | exact raster_crossing_44.mono _ _
      | exact raster_edge_41.mono _ _ _
      | exact LeO.none _
      | refine LeO.ite ?_ ?_
      | refine LeO.bind ?_ (fun _ => ?_)
    · intro y0 y1 y2 y3 y4 y5 y6 y7 y8 y9 y10
      unfold raster_rows.l2
      repeat' first
      | (with_reducible exact ih0 _ _ _ _ _ _ _ _)
      | (with_reducible exact ih1 _ _ _ _ _ _ _ _)
      | (with_reducible exact ih2 _ _ _ _ _ _ _ _ _ _ _)
      | (with_reducible exact ih3 _ _ _ _ _ _ _ _ _ _ _ _)
      | (with_reducible exact ih4 _ _ _ _ _ _ _ _)
      | (with_reducible exact raster_crossing_44.mono _ _)
      | (with_reducible exact raster_edge_41.mono _ _ _)
      | (with_reducible exact LeO.refl _)
      | (with_reducible exact LeO.none _)
      | (with_reducible refine LeO.ite ?_ ?_)
      | (with_reducible refine LeO.bind ?_ (fun _ => ?_))
      | exact ih0 _ _ _ _ _ _ _ _
      | exact ih1 _ _ _ _ _ _ _ _
      | exact ih2 _ _ _ _ _ _ _ _ _ _ _
      | exact ih3 _ _ _ _ _ _ _ _ _ _ _ _
      | exact ih4 _ _ _ _ _ _ _ _
      | exact raster_crossing_44.mono _ _
      | exact raster_edge_41.mono _ _ _
      | exact LeO.none _
      | refine LeO.ite ?_ ?_
      | refine LeO.bind ?_ (fun _ => ?_)
    · intro y0 y1 y2 y3 y4 y5 y6 y7 y8 y9 y10 y11
      unfold raster_rows.l3
      repeat' first
      | (with_reducible exact ih0 _ _ _ _ _ _ _ _)
      | (with_reducible exact ih1 _ _ _ _ _ _ _ _)
      | (with_reducible exact ih2 _ _ _ _ _ _ _ _ _ _ _)
      | (with_reducible exact ih3 _ _ _ _ _ _ _ _ _ _ _ _)
      | (with_reducible exact ih4 _ _ _ _ _ _ _ _)
      | (with_reducible exact raster_crossing_44.mono _ _)
      | (with_reducible exact raster_edge_41.mono _ _ _)
      | (with_reducible exact LeO.refl _)
      | (with_reducible exact LeO.none _)
      | (with_reducible refine LeO.ite ?_ ?_)
      | (with_reducible refine LeO.bind ?_ (fun _ => ?_))
      | exact ih0 _ _ _ _ _ _ _ _
      | exact ih1 _ _ _ _ _ _ _ _
      | exact ih2 _ _ _ _ _ _ _ _ _ _ _
      | exact ih3 _ _ _ _ _ _ _ _ _ _ _ _
      | exact ih4 _ _ _ _ _ _ _ _
      | exact raster_crossing_44.mono _ _
      | exact raster_edge_41.mono _ _ _
      | exact LeO.none _
      | refine LeO.ite ?_ ?_
      | refine LeO.bind ?_ (fun _ => ?_)
    · intro y0 y1 y2 y3 y4 y5 y6 y7
      unfold raster_rows.l1
      repeat' first
      | (with_reducible exact ih0 _ _ _ _ _ _ _ _)
      | (with_reducible exact ih1 _ _ _ _ _ _ _ _)
      | (with_reducible exact ih2 _ _ _ _ _ _ _ _ _ _ _)
      | (with_reducible exact ih3 _ _ _ _ _ _ _ _ _ _ _ _)
      | (with_reducible exact ih4 _ _ _ _ _ _ _ _)
      | (with_reducible exact raster_crossing_44.mono _ _)
      | (with_reducible exact raster_edge_41.mono _ _ _)
      | (with_reducible exact LeO.refl _)
      | (with_reducible exact LeO.none _)
      | (with_reducible refine LeO.ite ?_ ?_)
      | (with_reducible refine LeO.bind ?_ (fun _ => ?_))
      | exact ih0 _ _ _ _ _ _ _ _
      | exact ih1 _ _ _ _ _ _ _ _
      | exact ih2 _ _ _ _ _ _ _ _ _ _ _
      | exact ih3 _ _ _ _ _ _ _ _ _ _ _ _
      | exact ih4 _ _ _ _ _ _ _ _
      | exact raster_crossing_44.mono _ _
      | exact raster_edge_41.mono _ _ _
      | exact LeO.none _
      | refine LeO.ite ?_ ?_
      | refine LeO.bind ?_ (fun _ => ?_)
theorem raster_rows.mono : ∀ a0 a1 a2 a3 a4 k, LeO (raster_rows.f k a0 a1 a2 a3 a4) (raster_rows.f (k + 1) a0 a1 a2 a3 a4) := by
  intro a0 a1 a2 a3 a4 k
  obtain ⟨ih0, ih1, ih2, ih3, ih4⟩ := raster_rows.mono_l k
  unfold raster_rows.f
  repeat' first
      | (with_reducible exact ih0 _ _ _ _ _ _ _ _)
      | (with_reducible exact ih1 _ _ _ _ _ _ _ _)
      | (with_reducible exact ih2 _ _ _ _ _ _ _ _ _ _ _)
      | (with_reducible exact ih3 _ _ _ _ _ _ _ _ _ _ _ _)
      | (with_reducible exact ih4 _ _ _ _ _ _ _ _)
      | (with_reducible exact raster_crossing_44.mono _ _)
      | (with_reducible exact raster_edge_41.mono _ _ _)
      | (with_reducible exact LeO.refl _)
      | (with_reducible exact LeO.none _)
      | (with_reducible refine LeO.ite ?_ ?_)
      | (with_reducible refine LeO.bind ?_ (fun _ => ?_))
      | exact ih0 _ _ _ _ _ _ _ _
      | exact ih1 _ _ _ _ _ _ _ _
      | exact ih2 _ _ _ _ _ _ _ _ _ _ _
      | exact ih3 _ _ _ _ _ _ _ _ _ _ _ _
      | exact ih4 _ _ _ _ _ _ _ _
      | exact raster_crossing_44.mono _ _
      | exact raster_edge_41.mono _ _ _
      | exact LeO.none _
      | refine LeO.ite ?_ ?_
      | refine LeO.bind ?_ (fun _ => ?_)
def raster_rows.T6 : Bool × List (List Nat × List Nat) := (true, [([], []), ([], []), ([1], [1]), ([0, 2], [0, 2]), ([3], [3]), ([4], [4]), ([4], [4]), ([5, 6, 4], [4, 5, 6]), ([7, 4], [4, 7]), ([8, 4], [4, 8]), ([4], [4]), ([9, 10, 4], [4, 9, 10]), ([4, 11], [4, 11])])
def raster_rows.B6 : List Nat := [0, 0, 2, 7, 15, 31, 31, 127, 255, 511, 31, 2047, 4095]
theorem raster_rows.tab6 : rtab .any (opsOf Try.f32 6) = raster_rows.T6 := by kernel_rfl
theorem raster_rows.bits6 : waitsOk raster_rows.T6.2 raster_rows.B6 = true := by kernel_rfl
def raster_rows.T14 : Bool × List (List Nat × List Nat) := (true, [([], []), ([], []), ([], []), ([1, 2], [1, 2]), ([], []), ([4], [4]), ([3, 5], [3, 5]), ([6], [6]), ([0, 7, 3], [0, 7]), ([8, 8, 0, 1, 2, 3, 4, 5, 6, 7, 8], [0, 8])])
def raster_rows.B14 : List Nat := [0, 0, 0, 6, 0, 16, 62, 126, 255, 511]
theorem raster_rows.tab14 : rtab .any (opsOf Try.f32 14) = raster_rows.T14 := by kernel_rfl
theorem raster_rows.bits14 : waitsOk raster_rows.T14.2 raster_rows.B14 = true := by kernel_rfl
def raster_rows.T23 : Bool × List (List Nat × List Nat) := (true, [([], []), ([], []), ([], []), ([2], [2]), ([], []), ([], []), ([5], [5]), ([4, 6], [4, 6]), ([7], [7]), ([8], [8]), ([0, 1, 3, 9], [0, 1, 3, 9])])
def raster_rows.B23 : List Nat := [0, 0, 0, 4, 0, 0, 32, 112, 240, 496, 1023]
theorem raster_rows.tab23 : rtab .any (opsOf Try.f32 23) = raster_rows.T23 := by kernel_rfl
theorem raster_rows.bits23 : waitsOk raster_rows.T23.2 raster_rows.B23 = true := by kernel_rfl
set_option maxHeartbeats 8000000 in
set_option maxRecDepth 100000 in
theorem raster_rows.calls (k : Nat) (A0 : Option Addr) (c0 : Nat) (l0 : List (S79)) (a1 : Int) (a2 : Int) (P3_ : Nat → Prop) (u9000_ : Value) (l3 : List Int) (A4 : Option Addr) (c4 : Nat) (l4 : List Int) (r : List Int) (w0 w : World) (hB : Below w0.heap.size w0 w) (hr0 : ∀ W_, Kept w W_ (fun k_ => P3_ k_) → Kd.C k79 W_ A0 l0.length l0) (hc0 : l0.length ≤ c0) (ho3 : Kd.R (Kd.int .i64) 3 w w0.heap.size P3_ u9000_ l3) (hr4 : ∀ W_, Kept w W_ (fun k_ => P3_ k_) → Kd.C (Kd.int .i64) W_ A4 l4.length l4) (hc4 : l4.length ≤ c4) (h : raster_rows.f k l0 a1 a2 l3 l4 = some r) :
    Calls Try.prog 32 #[.slice A0 l0.length c0, .int .i64 a1, .int .i64 a2, .func (.func 34) #[] #[ptrV u9000_, .pointer A4]] w fun e w' => e = .returned (.tuple #[]) ∧ Kd.R (Kd.int .i64) 3 w' w0.heap.size (fun k_ => (P3_ k_ ∨ w.heap.size ≤ k_)) u9000_ r ∧ Below w0.heap.size w0 w' ∧ Kept w w' (fun k_ => P3_ k_) := by
  have hu79 := Try.underlying79
  have hu83 := Try.underlying83
  have HR0 := Aside0.mk hr0
  have HC0 := Aside0.mk hc0
  clear hr0 hc0
  have HO3 := Aside0.mk (show Kd.R (Kd.int .i64) 3 w w0.heap.size (fun k_ => (P3_ k_ ∨ w.heap.size ≤ k_)) u9000_ l3 from Kd.R_mono ho3 (fun k_ hk => (.inl hk)))
  have HR4 := Aside0.mk hr4
  have HC4 := Aside0.mk hc4
  clear hr4 hc4
  have HK := Aside0.mk (Kept.refl w (fun k_ => P3_ k_))
  have HW0 := Aside0.mk hB.size
  have HB := Aside0.mk hB
  clear hB
  have H : (raster_rows.l0 k l0 a2 l3 l4 ([] : List (S79)) ([] : List (S83)) 0 (([a1] : List Int))) = some r := h
  clear h
  obtain ⟨y135, hy135⟩ : ∃ y_ : List Int, y_ = (([a1] : List Int)) := ⟨_, rfl⟩
  replace H : (raster_rows.l0 k l0 a2 l3 l4 ([] : List (S79)) ([] : List (S83)) 0 y135) = some r := by first | (rw [hy135]; with_reducible exact H) | (have H2_ := (Option.bind_some _ _).symm.trans H; rw [hy135]; with_reducible exact H2_) | (have H2_ := (Option.bind_some _ _).symm.trans H; with_reducible exact H2_) | with_reducible exact H | (rw [hy135]; exact H) | exact H
  have Ny135 := Aside0.mk hy135
  clear hy135
  have H' := Aside0.mk H
  clear H
  go_enter Try.func32, Try.ntmps32
  go_wp2_with (first | ((with_reducible refine gate_dst (N := 11) rfl ?_); refine cell_lit 11 (a1) rfl rfl rfl rfl rfl rfl (fun _ => rfl) (fun _ => rfl) ?_; intro v136 w6 ho7 hb; simp only [Act.put, List.setIfInBounds_toArray, List.set_cons_zero, List.set_cons_succ]; (first | rw [← Ny135.out] at ho7 | (simp only [Int.reduceToNat] at ho7; rw [← Ny135.out] at ho7)); have n0_ := Aside0.mk (Kd.R_elder' (by (with_reducible repeat (first | apply Kd.R_alloc | apply Kd.R_drewN | apply Kd.R_drew)); exact HO3.out) (Kd.R_base ho7) hb); have n1_ := Aside0.mk (Kd.R_lower (Kd.R_new' (Kd.R_newM (M := fun k_ => (P3_ k_ ∨ w.heap.size ≤ k_)) ho7 (by first | exact HK.out.1 | exact (show Kept w _ (fun k_ => P3_ k_) from by repeat (first | (with_reducible first | exact HK.out | apply Kept.alloc | apply Kept.drewN | apply Kept.drew) | exact HK.out)).1) (fun k_ h_ => .inr h_)) (Kd.R_lt (by (with_reducible repeat (first | apply Kd.R_alloc | apply Kd.R_drewN | apply Kd.R_drew)); exact HO3.out))) (below_size (by repeat (first | (with_reducible first | exact HB.out | apply below_alloc | apply pw_below_drewN | apply below_drew1) | exact HB.out)))); have n2_ := Aside0.mk (Kept.below (S := (fun k_ => P3_ k_)) (by repeat (first | (with_reducible first | exact HK.out | apply Kept.alloc | apply Kept.drewN | apply Kept.drew) | exact HK.out)) hb); have n3_ := Aside0.mk (below_step (by repeat (first | (with_reducible first | exact HB.out | apply below_alloc | apply pw_below_drewN | apply below_drew1) | exact HB.out)) hb); clear HO3; clear HK; clear HB; have HO3 := n0_; have HO137 := n1_; have HK := n2_; have HB := n3_; clear n0_ n1_ n2_ n3_; clear hb ho7))
  go_loopg [8, 9, 10, 11] k (fun kq v8 v9 v10 v11 w' => ∃ (x3_1 : List Int) (x8_1 : List (S79)) (x9_1 : List (S83)) (x10_1 : Int) (x11_1 : List Int) (u11_ : Value), v11 = ptrV u11_ ∧ v10 = .int .i64 x10_1 ∧ Aside0 (raster_rows.l0 kq l0 a2 x3_1 l4 x8_1 x9_1 x10_1 x11_1 = some r) ∧ Aside0 (kq ≤ k) ∧ Aside0 (Kd.R (Kd.int .i64) 3 w' w0.heap.size (fun k_ => (P3_ k_ ∨ w.heap.size ≤ k_) ∧ some k_ ≠ (u11_ : Value).ownBlock) u9000_ x3_1) ∧ Aside0 (Kd.R k79 79 w' w0.heap.size (fun k_ => (P3_ k_ ∨ w.heap.size ≤ k_)) v8 x8_1) ∧ Aside0 (Kd.R k83 83 w' w0.heap.size (fun k_ => (P3_ k_ ∨ w.heap.size ≤ k_)) v9 x9_1) ∧ Aside0 (Kd.R (Kd.int .i64) 3 w' w0.heap.size (fun k_ => (P3_ k_ ∨ w.heap.size ≤ k_) ∧ some k_ ≠ (u9000_ : Value).ownBlock) u11_ x11_1) ∧ Aside0 (Kept w w' (fun k_ => P3_ k_)) ∧ Aside0 (Below w0.heap.size w0 w'))
  case atStart => exact ⟨(l3), (([] : List (S79))), (([] : List (S83))), (0), (y135), v136, rfl, (by first | rfl | (simp; done) | (simp [*]; done)), H', ⟨Nat.le_refl _⟩, ⟨by (with_reducible repeat (first | apply Kd.R_alloc | apply Kd.R_drewN | apply Kd.R_drew)); exact HO3.out⟩, ⟨by first | exact Kd.R_nil _ _ _ _ _ | exact Kd.N_nil _ _ _ _ _ | exact Kd.V_nil _ _ _ _ _ | exact Kd.Q_nil _ _ _ _ _ | exact Kd.S_nil _ _ _ _ _⟩, ⟨by first | exact Kd.R_nil _ _ _ _ _ | exact Kd.N_nil _ _ _ _ _ | exact Kd.V_nil _ _ _ _ _ | exact Kd.Q_nil _ _ _ _ _ | exact Kd.S_nil _ _ _ _ _⟩, ⟨by (with_reducible repeat (first | apply Kd.R_alloc | apply Kd.R_drewN | apply Kd.R_drew)); exact Kd.R_mono HO137.out (fun _ hk => ⟨hk.1.1, hk.2⟩)⟩, ⟨by repeat (first | (with_reducible first | exact HK.out | apply Kept.alloc | apply Kept.drewN | apply Kept.drew) | exact HK.out)⟩, ⟨by repeat (first | (with_reducible first | exact HB.out | apply below_alloc | apply pw_below_drewN | apply below_drew1) | exact HB.out)⟩⟩
  case round =>
    clear H'
    try clear p2
    try clear c3
    try clear c4
    obtain ⟨x3_1, x8_1, x9_1, x10_1, x11_1, u11_, rfl, rfl, HA, HK1, HO_3, HO_8, HO_9, HO_11, HK, HB⟩ := hrel
    cases gk with
    | zero => exact absurd HA.out (by simp [raster_rows.l0])
    | succ k1 =>
      have H := HA.out
      clear HA
      simp only [raster_rows.l0] at H
      by_cases c8 : 0 < (x11_1.length : Int)
      · rw [if_pos c8] at H
        have c8b0 : decide (0 < (x11_1.length : Int)) = true := decide_eq_true c8
        have c8b1 : decide (0 < x11_1.length) = true := decide_eq_true (by omega)
        clear c8
        by_cases c9 : (rd x11_1 0) < a2
        · rw [if_pos c9] at H
          have c9b0 : decide ((rd x11_1 0) < a2) = true := decide_eq_true c9
          clear c9
          have HC10 := Aside0.mk H
          clear H
          obtain ⟨Ao11, co11, eo11⟩ := Kd.R_slice HO_11.out
          subst eo11
          have p138 : 0 ≤ (0 : Int) := (by omega)
          have q138 : 0 < (x11_1.length : Int) := of_decide_eq_true (by first | (with_reducible assumption) | assumption)
          obtain ⟨ad138, e138, hx138_0⟩ := Kd.at_int (Kd.R_reads' HO_11.out).2.2 0 p138 q138
          cases e138
          simp only [ptrV_slice]
          have qi138 : (0 < x11_1.length) = True := eq_true (by omega)
          (try rw [show ((0 : Int)).toNat = 0 from rfl] at hx138_0)
          (try rw [Addr.add_zero'] at hx138_0)
          replace p138 := eq_true p138
          replace q138 := eq_true q138
          go_upto_block 2 with (fail)
          go_cut [8, 10] (fun v8 v10 wc => ∃ (kq : Nat) (x8_9 : List (S79)) (x10_9 : Int), v10 = .int .i64 x10_9 ∧ Aside0 (raster_rows.j2 kq l0 a2 x3_1 l4 x8_9 x9_1 x10_9 x11_1 = some r) ∧ Aside0 (kq ≤ k1) ∧ Aside0 (Kd.R (Kd.int .i64) 3 wc w0.heap.size (fun k_ => (P3_ k_ ∨ w.heap.size ≤ k_) ∧ some k_ ≠ ((.slice (some ad138) x11_1.length co11) : Value).ownBlock) u9000_ x3_1) ∧ Aside0 (Kd.R k79 79 wc w0.heap.size (fun k_ => (P3_ k_ ∨ w.heap.size ≤ k_)) v8 x8_9) ∧ Aside0 (Kd.R k83 83 wc w0.heap.size (fun k_ => (P3_ k_ ∨ w.heap.size ≤ k_)) u9 x9_1) ∧ Aside0 (Kd.R (Kd.int .i64) 3 wc w0.heap.size (fun k_ => (P3_ k_ ∨ w.heap.size ≤ k_) ∧ some k_ ≠ (u9000_ : Value).ownBlock) (.slice (some ad138) x11_1.length co11) x11_1) ∧ Aside0 (Kept w wc (fun k_ => P3_ k_)) ∧ Aside0 (Below w0.heap.size w0 wc))
          case first =>
            have H := HC10.out
            clear HC10
            have H' := Aside0.mk H
            clear H
            go_wp2
            go_loopg [8, 10] k1 (fun kq v8 v10 w' => ∃ (x8_2 : List (S79)) (x10_2 : Int), v10 = .int .i64 x10_2 ∧ Aside0 (raster_rows.l1 kq l0 a2 x3_1 l4 x8_2 x9_1 x10_2 x11_1 = some r) ∧ Aside0 (kq ≤ k1) ∧ Aside0 (Kd.R (Kd.int .i64) 3 w' w0.heap.size (fun k_ => (P3_ k_ ∨ w.heap.size ≤ k_) ∧ some k_ ≠ ((.slice (some ad138) x11_1.length co11) : Value).ownBlock) u9000_ x3_1) ∧ Aside0 (Kd.R k79 79 w' w0.heap.size (fun k_ => (P3_ k_ ∨ w.heap.size ≤ k_)) v8 x8_2) ∧ Aside0 (Kd.R k83 83 w' w0.heap.size (fun k_ => (P3_ k_ ∨ w.heap.size ≤ k_)) u9 x9_1) ∧ Aside0 (Kd.R (Kd.int .i64) 3 w' w0.heap.size (fun k_ => (P3_ k_ ∨ w.heap.size ≤ k_) ∧ some k_ ≠ (u9000_ : Value).ownBlock) (.slice (some ad138) x11_1.length co11) x11_1) ∧ Aside0 (Kept w w' (fun k_ => P3_ k_)) ∧ Aside0 (Below w0.heap.size w0 w'))
            case atStart => exact ⟨(x8_1), (x10_1), (by first | rfl | (simp; done) | (simp [*]; done)), H', ⟨Nat.le_refl _⟩, ⟨by (with_reducible repeat (first | apply Kd.R_alloc | apply Kd.R_drewN | apply Kd.R_drew)); exact HO_3.out⟩, ⟨by (with_reducible repeat (first | apply Kd.R_alloc | apply Kd.R_drewN | apply Kd.R_drew)); exact HO_8.out⟩, ⟨by (with_reducible repeat (first | apply Kd.R_alloc | apply Kd.R_drewN | apply Kd.R_drew)); exact HO_9.out⟩, ⟨by (with_reducible repeat (first | apply Kd.R_alloc | apply Kd.R_drewN | apply Kd.R_drew)); exact HO_11.out⟩, ⟨by repeat (first | (with_reducible first | exact HK.out | apply Kept.alloc | apply Kept.drewN | apply Kept.drew) | exact HK.out)⟩, ⟨by repeat (first | (with_reducible first | exact HB.out | apply below_alloc | apply pw_below_drewN | apply below_drew1) | exact HB.out)⟩⟩
            case round =>
              clear H'
              try clear p1
              try clear q1
              try clear hx1
              try clear qi1
              try clear p2
              try clear c3
              try clear c4
              try clear c8
              try clear c8b0
              try clear c8b1
              try clear c9
              try clear c9b0
              try clear hx138_0
              try clear p138
              try clear p2
              try clear q138
              obtain ⟨x8_2, x10_2, rfl, HA, HK2, HO_3, HO_8, HO_9, HO_11, HK, HB⟩ := hrel
              cases gk with
              | zero => exact absurd HA.out (by simp [raster_rows.l1])
              | succ k2 =>
                have H := HA.out
                clear HA
                simp only [raster_rows.l1] at H
                by_cases c12 : 0 < (x11_1.length : Int)
                · rw [if_pos c12] at H
                  have c12b0 : decide (0 < (x11_1.length : Int)) = true := decide_eq_true c12
                  have c12b1 : decide (0 < x11_1.length) = true := decide_eq_true (by omega)
                  clear c12
                  (first | rw [c12b0] | (simp only [i64_w, i32_w]; rw [c12b0]) | skip)
                  by_cases c13 : x10_2 < (l0.length : Int)
                  · rw [if_pos c13] at H
                    have c13b0 : decide (x10_2 < (l0.length : Int)) = true := decide_eq_true c13
                    clear c13
                    by_cases c14 : 0 ≤ x10_2
                    · rw [if_pos c14] at H
                      have c14b0 : decide (0 ≤ x10_2) = true := decide_eq_true c14
                      clear c14
                      by_cases c15 : ((rd_T79 l0 x10_2).f1) ≤ (rd x11_1 0)
                      · rw [if_pos c15] at H
                        have c15b0 : decide (((rd_T79 l0 x10_2).f1) ≤ (rd x11_1 0)) = true := decide_eq_true c15
                        clear c15
                        by_cases c16 : x8_2.length < 3518437208883
                        · rw [if_pos c16] at H
                          have LMc16 := Aside0.mk c16
                          clear c16
                          obtain ⟨y142, hy142⟩ : ∃ y_ : List (S79), y_ = (x8_2 ++ [(⟨(rd_T79 l0 x10_2).f0, (rd_T79 l0 x10_2).f1, (rd_T79 l0 x10_2).f2, (rd_T79 l0 x10_2).f3, (rd_T79 l0 x10_2).f4⟩ : S79)]) := ⟨_, rfl⟩
                          replace H : (raster_rows.l1 k2 l0 a2 x3_1 l4 y142 x9_1 (wrap64 (x10_2 + 1)) x11_1) = some r := by first | (rw [hy142]; with_reducible exact H) | (have H2_ := (Option.bind_some _ _).symm.trans H; rw [hy142]; with_reducible exact H2_) | (have H2_ := (Option.bind_some _ _).symm.trans H; with_reducible exact H2_) | with_reducible exact H | (rw [hy142]; exact H) | exact H
                          have Ny142 := Aside0.mk hy142
                          clear hy142
                          have H' := Aside0.mk H
                          clear H
                          have p139 : 0 ≤ (0 : Int) := (by omega)
                          have q139 : 0 < (x11_1.length : Int) := of_decide_eq_true (by first | (with_reducible assumption) | assumption)
                          obtain ⟨ad139, e139, hx139_0⟩ := Kd.at_int (Kd.R_reads' HO_11.out).2.2 0 p139 q139
                          obtain rfl : ad138 = ad139 := (by injection e139)
                          have qi139 : (0 < x11_1.length) = True := eq_true (by omega)
                          (try rw [show ((0 : Int)).toNat = 0 from rfl] at hx139_0)
                          (try rw [Addr.add_zero'] at hx139_0)
                          replace p139 := eq_true p139
                          replace q139 := eq_true q139
                          try go_wp2
                          have n0_ := Aside0.mk (Kd.R_drew HO_3.out)
                          have n1_ := Aside0.mk (Kd.R_drew HO_8.out)
                          have n2_ := Aside0.mk (Kd.R_drew HO_9.out)
                          have n3_ := Aside0.mk (Kd.R_drew HO_11.out)
                          have n4_ := Aside0.mk (Kept.drew HK.out)
                          have n5_ := Aside0.mk (below_drew1 HB.out)
                          clear HO_3
                          clear HO_8
                          clear HO_9
                          clear HO_11
                          clear HK
                          clear HB
                          have HO_3 := n0_
                          have HO_8 := n1_
                          have HO_9 := n2_
                          have HO_11 := n3_
                          have HK := n4_
                          have HB := n5_
                          clear n0_ n1_ n2_ n3_ n4_ n5_
                          have p140 : 0 ≤ (x10_2 : Int) := of_decide_eq_true (by first | (with_reducible assumption) | assumption)
                          have q140 : x10_2 < (l0.length : Int) := of_decide_eq_true (by first | (with_reducible assumption) | assumption)
                          obtain ⟨ad140, e140, hx140_0, hx140_1, hx140_2, hx140_3, hx140_4⟩ := at_T79 (Kd.C_kept_now HR0.out HK.out) x10_2 p140 q140
                          have hw140_4 := hx140_4
                          have hw140_3 := hx140_3
                          have hw140_2 := hx140_2
                          have hw140_1 := hx140_1
                          have hw140_0 := hx140_0
                          cases e140
                          replace p140 := eq_true p140
                          replace q140 := eq_true q140
                          refine start_ (n := 13) (S := fun w' => w'.cell? ad138 = some (.int .i64 (rd x11_1 0)) ∧ w'.cell? (ad140.add ((x10_2).toNat * 5)) = some (.int .i64 ((rd_T79 l0 x10_2).f0)) ∧ w'.cell? ⟨(ad140.add ((x10_2).toNat * 5)).block, (ad140.add ((x10_2).toNat * 5)).off + 1, none⟩ = some (.int .i64 ((rd_T79 l0 x10_2).f1)) ∧ w'.cell? ⟨(ad140.add ((x10_2).toNat * 5)).block, (ad140.add ((x10_2).toNat * 5)).off + 2, none⟩ = some (.int .i64 ((rd_T79 l0 x10_2).f2)) ∧ w'.cell? ⟨(ad140.add ((x10_2).toNat * 5)).block, (ad140.add ((x10_2).toNat * 5)).off + 3, none⟩ = some (.int .i64 ((rd_T79 l0 x10_2).f3)) ∧ w'.cell? ⟨(ad140.add ((x10_2).toNat * 5)).block, (ad140.add ((x10_2).toNat * 5)).off + 4, none⟩ = some (.int .i64 ((rd_T79 l0 x10_2).f4))) (ds := []) #[false, false, false, false, false, false, false, false, false, false, false, false, false] (by kernel_rfl) rfl rfl ⟨(cellJ (by (with_reducible repeat (first | apply Kd.R_alloc | apply Kd.R_drewN | apply Kd.R_drew)); exact HO_11.out) (of_decide_eq_true (by first | (with_reducible assumption) | assumption))), hx140_0, hx140_1, hx140_2, hx140_3, hx140_4⟩ (fun hHeld => ?_); refine with_tabW raster_rows.tab6 raster_rows.bits6 (fun HT_ HW_ => ?_)
                          generalize wr.drew = w17 at HO_3 HO_8 HO_9 HO_11 HK HB hx140_0 hx140_1 hx140_2 hx140_3 hx140_4 hHeld ⊢
                          refine pure_ (i := 0) (N := some 23) (v := ?_) (a' := ?_) #[true, false, false, false, false, false, false, false, false, false, false, false, false] rfl rfl (any_of HT_.out (by kernel_rfl)) (fun _ _ _ h => h) (Or.inl ⟨by rfl, ?_⟩) ?_ ?_
                          rotate_left
                          · intro w'
                            go_simp
                            with_reducible rfl
                          rotate_left
                          · simp only [Act.put, List.setIfInBounds_toArray, List.set_cons_zero, List.set_cons_succ, i64_w, i32_w]
                            rfl
                          refine pure_ (i := 1) (N := some 24) (v := ?_) (a' := ?_) #[true, true, false, false, false, false, false, false, false, false, false, false, false] rfl rfl (any_of HT_.out (by kernel_rfl)) (fun _ _ _ h => h) (Or.inl ⟨by rfl, ?_⟩) ?_ ?_
                          rotate_left
                          · intro w'
                            go_simp
                            with_reducible rfl
                          rotate_left
                          · simp only [Act.put, List.setIfInBounds_toArray, List.set_cons_zero, List.set_cons_succ, i64_w, i32_w]
                            rfl
                          refine pure_ (i := 2) (N := some 25) (v := ?_) (a' := ?_) #[true, true, true, false, false, false, false, false, false, false, false, false, false] rfl rfl (any_of HT_.out (by kernel_rfl)) (fun _ _ _ h => h) (Or.inl ⟨by rfl, ?_⟩) ?_ ?_
                          rotate_left
                          · intro w'
                            go_simp
                            with_reducible rfl
                          rotate_left
                          · simp only [Act.put, List.setIfInBounds_toArray, List.set_cons_zero, List.set_cons_succ, i64_w, i32_w]
                            rfl
                          refine pure_ (i := 3) (N := some 26) (v := ?_) (a' := ?_) #[true, true, true, true, false, false, false, false, false, false, false, false, false] rfl rfl (any_of HT_.out (by kernel_rfl)) (fun _ _ _ h => h) (Or.inl ⟨by rfl, ?_⟩) ?_ ?_
                          rotate_left
                          · intro w'
                            go_simp
                            with_reducible rfl
                          rotate_left
                          · simp only [Act.put, List.setIfInBounds_toArray, List.set_cons_zero, List.set_cons_succ, i64_w, i32_w]
                            rfl
                          refine pure_ (i := 4) (N := some 27) (v := ?_) (a' := ?_) #[true, true, true, true, true, false, false, false, false, false, false, false, false] rfl rfl (any_of HT_.out (by kernel_rfl)) (fun _ _ _ h => h) (Or.inl ⟨by rfl, ?_⟩) ?_ ?_
                          rotate_left
                          · intro w'
                            go_simp
                            with_reducible rfl
                          rotate_left
                          · simp only [Act.put, List.setIfInBounds_toArray, List.set_cons_zero, List.set_cons_succ, i64_w, i32_w]
                            rfl
                          refine pure_ (i := 5) (N := some 28) (v := ?_) (a' := ?_) #[true, true, true, true, true, true, false, false, false, false, false, false, false] rfl rfl (any_of HT_.out (by kernel_rfl)) (fun _ _ _ h => h) (Or.inl ⟨by rfl, ?_⟩) ?_ ?_
                          rotate_left
                          · intro w'
                            go_simp
                            with_reducible rfl
                          rotate_left
                          · simp only [Act.put, List.setIfInBounds_toArray, List.set_cons_zero, List.set_cons_succ, i64_w, i32_w]
                            rfl
                          refine pure_ (i := 6) (N := some 29) (v := ?_) (a' := ?_) #[true, true, true, true, true, true, true, false, false, false, false, false, false] rfl rfl (any_of HT_.out (by kernel_rfl)) (fun _ _ _ h => h) (Or.inl ⟨by rfl, ?_⟩) ?_ ?_
                          rotate_left
                          · intro w'
                            go_simp
                            with_reducible rfl
                          rotate_left
                          · simp only [Act.put, List.setIfInBounds_toArray, List.set_cons_zero, List.set_cons_succ, i64_w, i32_w]
                            rfl
                          refine pure_ (i := 7) (N := some 30) (v := ?_) (a' := ?_) #[true, true, true, true, true, true, true, true, false, false, false, false, false] rfl rfl (any_of HT_.out (by kernel_rfl)) (fun _ _ _ h => h) (Or.inl ⟨by rfl, ?_⟩) ?_ ?_
                          rotate_left
                          · intro w'
                            go_simp
                            with_reducible rfl
                          rotate_left
                          · simp only [Act.put, List.setIfInBounds_toArray, List.set_cons_zero, List.set_cons_succ, i64_w, i32_w]
                            rfl
                          refine pure_ (i := 8) (N := some 31) (v := ?_) (a' := ?_) #[true, true, true, true, true, true, true, true, true, false, false, false, false] rfl rfl (any_of HT_.out (by kernel_rfl)) (fun _ _ _ h => h) (Or.inl ⟨by rfl, ?_⟩) ?_ ?_
                          rotate_left
                          · intro w'
                            go_simp
                            with_reducible rfl
                          rotate_left
                          · simp only [Act.put, List.setIfInBounds_toArray, List.set_cons_zero, List.set_cons_succ, i64_w, i32_w]
                            rfl
                          refine take_ (i := 9) (N := some 32) (v := ?_) (a' := ?_) #[true, true, true, true, true, true, true, true, true, true, false, false, false] rfl rfl (take_ofW HT_.out HW_.out (by kernel_rfl)) (fun _ _ _ h => h) (Or.inl ⟨by rfl, ?_⟩) hHeld ?_ ?_
                          rotate_left
                          · rintro w' ⟨sj, s0, s1, s2, s3, s4⟩
                            go_simp
                            with_reducible rfl
                          rotate_left
                          · simp only [Act.put, List.setIfInBounds_toArray, List.set_cons_zero, List.set_cons_succ, i64_w, i32_w]
                            rfl
                          refine take_ (i := 10) (N := some 33) (v := ?_) (a' := ?_) #[true, true, true, true, true, true, true, true, true, true, true, false, false] rfl rfl (take_ofW HT_.out HW_.out (by kernel_rfl)) (fun _ _ _ h => h) (Or.inl ⟨by rfl, ?_⟩) hHeld ?_ ?_
                          rotate_left
                          · rintro w' ⟨sj, s0, s1, s2, s3, s4⟩
                            go_simp
                            with_reducible rfl
                          rotate_left
                          · simp only [Act.put, List.setIfInBounds_toArray, List.set_cons_zero, List.set_cons_succ, i64_w, i32_w]
                            rfl
                          refine pure_ (i := 11) (N := some 34) (v := ?_) (a' := ?_) #[true, true, true, true, true, true, true, true, true, true, true, true, false] rfl rfl (any_of HT_.out (by kernel_rfl)) (fun _ _ _ h => h) (Or.inl ⟨by rfl, ?_⟩) ?_ ?_
                          rotate_left
                          · intro w'
                            go_simp
                            with_reducible rfl
                          rotate_left
                          · simp only [Act.put, List.setIfInBounds_toArray, List.set_cons_zero, List.set_cons_succ, i64_w, i32_w]
                            rfl
                          refine pure_ (i := 12) (N := some 35) (v := ?_) (a' := ?_) #[true, true, true, true, true, true, true, true, true, true, true, true, true] rfl rfl (any_of HT_.out (by kernel_rfl)) (fun _ _ _ h => h) (Or.inl ⟨by rfl, ?_⟩) ?_ ?_
                          rotate_left
                          · intro w'
                            go_simp
                            with_reducible rfl
                          rotate_left
                          · simp only [Act.put, List.setIfInBounds_toArray, List.set_cons_zero, List.set_cons_succ, i64_w, i32_w]
                            rfl
                          refine done_ (done_of HT_.out (by kernel_rfl)) ?_
                          have p141 : 0 ≤ (x10_2 : Int) := of_decide_eq_true (by first | (with_reducible assumption) | assumption)
                          have q141 : x10_2 < (l0.length : Int) := of_decide_eq_true (by first | (with_reducible assumption) | assumption)
                          obtain ⟨ad141, e141, hx141_0, hx141_1, hx141_2, hx141_3, hx141_4⟩ := at_T79 (Kd.C_kept_now HR0.out HK.out) x10_2 p141 q141
                          obtain rfl : ad140 = ad141 := (by injection e141)
                          replace p141 := eq_true p141
                          replace q141 := eq_true q141
                          try go_wp2_with (first | ((with_reducible refine gate_builtin (b := .append) (xs := #[.tmp 36, .tmp 41]) rfl ?_); at_builtin; refine Kd.R_append k79 (w0 := w0) w0.heap.size rfl (.tmp 36) (.tmp 41) 60 79 (.agg #[(.int .i64 0), (.int .i64 0), (.int .i64 0), (.int .i64 0), (.int .i64 0)]) 40 rfl Try.underlying60 info79 rfl (by decide) (by omega) u8 x8_2 (⟨(rd_T79 l0 x10_2).f0, (rd_T79 l0 x10_2).f1, (rd_T79 l0 x10_2).f2, (rd_T79 l0 x10_2).f3, (rd_T79 l0 x10_2).f4⟩ : S79) [.int .i64 ((rd_T79 l0 x10_2).f0), .int .i64 ((rd_T79 l0 x10_2).f1), .int .i64 ((rd_T79 l0 x10_2).f2), .int .i64 ((rd_T79 l0 x10_2).f3), .int .i64 ((rd_T79 l0 x10_2).f4)] (fun k_ => (P3_ k_ ∨ w.heap.size ≤ k_)) (fun _ => False) rfl rfl ?aP (fun _ hk => hk.elim) ?aF ?aO ?aB ?aS ?aL ?_; (case aP => exact k79_mkM _ _ _ (⟨(rd_T79 l0 x10_2).f0, (rd_T79 l0 x10_2).f1, (rd_T79 l0 x10_2).f2, (rd_T79 l0 x10_2).f3, (rd_T79 l0 x10_2).f4⟩ : S79)); (case aB => exact (by repeat (first | (with_reducible first | exact HB.out | apply below_alloc | apply pw_below_drewN | apply below_drew1) | exact HB.out))); (case aF => exact (fun k_ hk => (.inr (Nat.le_trans (by first | exact HK.out.1 | exact (show Kept w _ (fun k_ => P3_ k_) from by repeat (first | (with_reducible first | exact HK.out | apply Kept.alloc | apply Kept.drewN | apply Kept.drew) | exact HK.out)).1) hk)))); (case aO => exact (by (with_reducible repeat (first | apply Kd.R_alloc | apply Kd.R_drewN | apply Kd.R_drew)); exact HO_8.out)); (case aS => exact (below_size (by repeat (first | (with_reducible first | exact HB.out | apply below_alloc | apply pw_below_drewN | apply below_drew1) | exact HB.out)))); (case aL => have := LMc16.out; omega); intro v143 w18 ho hb hg hat; rw [← Ny142.out] at ho; have n0_ := Aside0.mk (Kd.R_over' (by (with_reducible repeat (first | apply Kd.R_alloc | apply Kd.R_drewN | apply Kd.R_drew)); exact HO_3.out) (Kd.R_typed (by (with_reducible repeat (first | apply Kd.R_alloc | apply Kd.R_drewN | apply Kd.R_drew)); exact HO_8.out)) (by decide) hg); have n1_ := Aside0.mk (Kd.R_over' (by (with_reducible repeat (first | apply Kd.R_alloc | apply Kd.R_drewN | apply Kd.R_drew)); exact HO_9.out) (Kd.R_typed (by (with_reducible repeat (first | apply Kd.R_alloc | apply Kd.R_drewN | apply Kd.R_drew)); exact HO_8.out)) (by decide) hg); have n2_ := Aside0.mk (Kd.R_over' (by (with_reducible repeat (first | apply Kd.R_alloc | apply Kd.R_drewN | apply Kd.R_drew)); exact HO_11.out) (Kd.R_typed (by (with_reducible repeat (first | apply Kd.R_alloc | apply Kd.R_drewN | apply Kd.R_drew)); exact HO_8.out)) (by decide) hg); have n3_ := Aside0.mk (hb); have n4_ := Aside0.mk (Kept.of_grown (S := (fun k_ => P3_ k_)) hg (by repeat (first | (with_reducible first | exact HK.out | apply Kept.alloc | apply Kept.drewN | apply Kept.drew) | exact HK.out)) (fun k_ e_ => (HO_8.out.1 k_ e_))); have n5_ := Aside0.mk (ho); clear HO_3; clear HO_9; clear HO_11; clear HB; clear HK; clear HO_8; have HO_3 := n0_; have HO_9 := n1_; have HO_11 := n2_; have HB := n3_; have HK := n4_; have HO144 := n5_; clear n0_ n1_ n2_ n3_ n4_ n5_; clear ho hb hg hat))
                          go_roundg k2
                          case measure => have := HK1.out; have := HK2.out; omega
                          case rel => exact ⟨(y142), (wrap64 (x10_2 + 1)), (by first | rfl | (simp; done) | (simp [*]; done)), H', ⟨by have := HK1.out; have := HK2.out; omega⟩, ⟨by (with_reducible repeat (first | apply Kd.R_alloc | apply Kd.R_drewN | apply Kd.R_drew)); exact HO_3.out⟩, ⟨by (with_reducible repeat (first | apply Kd.R_alloc | apply Kd.R_drewN | apply Kd.R_drew)); exact HO144.out⟩, ⟨by (with_reducible repeat (first | apply Kd.R_alloc | apply Kd.R_drewN | apply Kd.R_drew)); exact HO_9.out⟩, ⟨by (with_reducible repeat (first | apply Kd.R_alloc | apply Kd.R_drewN | apply Kd.R_drew)); exact HO_11.out⟩, ⟨by repeat (first | (with_reducible first | exact HK.out | apply Kept.alloc | apply Kept.drewN | apply Kept.drew) | exact HK.out)⟩, ⟨by repeat (first | (with_reducible first | exact HB.out | apply below_alloc | apply pw_below_drewN | apply below_drew1) | exact HB.out)⟩⟩
                        · rw [if_neg c16] at H
                          exact absurd H (by simp)
                      · rw [if_neg c15] at H
                        have c15b0 : decide (((rd_T79 l0 x10_2).f1) ≤ (rd x11_1 0)) = false := decide_eq_false c15
                        clear c15
                        have H' := Aside0.mk H
                        clear H
                        have p139 : 0 ≤ (0 : Int) := (by omega)
                        have q139 : 0 < (x11_1.length : Int) := of_decide_eq_true (by first | (with_reducible assumption) | assumption)
                        obtain ⟨ad139, e139, hx139_0⟩ := Kd.at_int (Kd.R_reads' HO_11.out).2.2 0 p139 q139
                        obtain rfl : ad138 = ad139 := (by injection e139)
                        have qi139 : (0 < x11_1.length) = True := eq_true (by omega)
                        (try rw [show ((0 : Int)).toNat = 0 from rfl] at hx139_0)
                        (try rw [Addr.add_zero'] at hx139_0)
                        replace p139 := eq_true p139
                        replace q139 := eq_true q139
                        try go_wp2
                        have n0_ := Aside0.mk (Kd.R_drew HO_3.out)
                        have n1_ := Aside0.mk (Kd.R_drew HO_8.out)
                        have n2_ := Aside0.mk (Kd.R_drew HO_9.out)
                        have n3_ := Aside0.mk (Kd.R_drew HO_11.out)
                        have n4_ := Aside0.mk (Kept.drew HK.out)
                        have n5_ := Aside0.mk (below_drew1 HB.out)
                        clear HO_3
                        clear HO_8
                        clear HO_9
                        clear HO_11
                        clear HK
                        clear HB
                        have HO_3 := n0_
                        have HO_8 := n1_
                        have HO_9 := n2_
                        have HO_11 := n3_
                        have HK := n4_
                        have HB := n5_
                        clear n0_ n1_ n2_ n3_ n4_ n5_
                        have p140 : 0 ≤ (x10_2 : Int) := of_decide_eq_true (by first | (with_reducible assumption) | assumption)
                        have q140 : x10_2 < (l0.length : Int) := of_decide_eq_true (by first | (with_reducible assumption) | assumption)
                        obtain ⟨ad140, e140, hx140_0, hx140_1, hx140_2, hx140_3, hx140_4⟩ := at_T79 (Kd.C_kept_now HR0.out HK.out) x10_2 p140 q140
                        have hw140_4 := hx140_4
                        have hw140_3 := hx140_3
                        have hw140_2 := hx140_2
                        have hw140_1 := hx140_1
                        have hw140_0 := hx140_0
                        cases e140
                        replace p140 := eq_true p140
                        replace q140 := eq_true q140
                        refine start_ (n := 13) (S := fun w' => w'.cell? ad138 = some (.int .i64 (rd x11_1 0)) ∧ w'.cell? (ad140.add ((x10_2).toNat * 5)) = some (.int .i64 ((rd_T79 l0 x10_2).f0)) ∧ w'.cell? ⟨(ad140.add ((x10_2).toNat * 5)).block, (ad140.add ((x10_2).toNat * 5)).off + 1, none⟩ = some (.int .i64 ((rd_T79 l0 x10_2).f1)) ∧ w'.cell? ⟨(ad140.add ((x10_2).toNat * 5)).block, (ad140.add ((x10_2).toNat * 5)).off + 2, none⟩ = some (.int .i64 ((rd_T79 l0 x10_2).f2)) ∧ w'.cell? ⟨(ad140.add ((x10_2).toNat * 5)).block, (ad140.add ((x10_2).toNat * 5)).off + 3, none⟩ = some (.int .i64 ((rd_T79 l0 x10_2).f3)) ∧ w'.cell? ⟨(ad140.add ((x10_2).toNat * 5)).block, (ad140.add ((x10_2).toNat * 5)).off + 4, none⟩ = some (.int .i64 ((rd_T79 l0 x10_2).f4))) (ds := []) #[false, false, false, false, false, false, false, false, false, false, false, false, false] (by kernel_rfl) rfl rfl ⟨(cellJ (by (with_reducible repeat (first | apply Kd.R_alloc | apply Kd.R_drewN | apply Kd.R_drew)); exact HO_11.out) (of_decide_eq_true (by first | (with_reducible assumption) | assumption))), hx140_0, hx140_1, hx140_2, hx140_3, hx140_4⟩ (fun hHeld => ?_); refine with_tabW raster_rows.tab6 raster_rows.bits6 (fun HT_ HW_ => ?_)
                        generalize wr.drew = w19 at HO_3 HO_8 HO_9 HO_11 HK HB hx140_0 hx140_1 hx140_2 hx140_3 hx140_4 hHeld ⊢
                        refine pure_ (i := 0) (N := some 23) (v := ?_) (a' := ?_) #[true, false, false, false, false, false, false, false, false, false, false, false, false] rfl rfl (any_of HT_.out (by kernel_rfl)) (fun _ _ _ h => h) (Or.inl ⟨by rfl, ?_⟩) ?_ ?_
                        rotate_left
                        · intro w'
                          go_simp
                          with_reducible rfl
                        rotate_left
                        · simp only [Act.put, List.setIfInBounds_toArray, List.set_cons_zero, List.set_cons_succ, i64_w, i32_w]
                          rfl
                        refine pure_ (i := 1) (N := some 24) (v := ?_) (a' := ?_) #[true, true, false, false, false, false, false, false, false, false, false, false, false] rfl rfl (any_of HT_.out (by kernel_rfl)) (fun _ _ _ h => h) (Or.inl ⟨by rfl, ?_⟩) ?_ ?_
                        rotate_left
                        · intro w'
                          go_simp
                          with_reducible rfl
                        rotate_left
                        · simp only [Act.put, List.setIfInBounds_toArray, List.set_cons_zero, List.set_cons_succ, i64_w, i32_w]
                          rfl
                        refine pure_ (i := 2) (N := some 25) (v := ?_) (a' := ?_) #[true, true, true, false, false, false, false, false, false, false, false, false, false] rfl rfl (any_of HT_.out (by kernel_rfl)) (fun _ _ _ h => h) (Or.inl ⟨by rfl, ?_⟩) ?_ ?_
                        rotate_left
                        · intro w'
                          go_simp
                          with_reducible rfl
                        rotate_left
                        · simp only [Act.put, List.setIfInBounds_toArray, List.set_cons_zero, List.set_cons_succ, i64_w, i32_w]
                          rfl
                        refine pure_ (i := 3) (N := some 26) (v := ?_) (a' := ?_) #[true, true, true, true, false, false, false, false, false, false, false, false, false] rfl rfl (any_of HT_.out (by kernel_rfl)) (fun _ _ _ h => h) (Or.inl ⟨by rfl, ?_⟩) ?_ ?_
                        rotate_left
                        · intro w'
                          go_simp
                          with_reducible rfl
                        rotate_left
                        · simp only [Act.put, List.setIfInBounds_toArray, List.set_cons_zero, List.set_cons_succ, i64_w, i32_w]
                          rfl
                        refine pure_ (i := 4) (N := some 27) (v := ?_) (a' := ?_) #[true, true, true, true, true, false, false, false, false, false, false, false, false] rfl rfl (any_of HT_.out (by kernel_rfl)) (fun _ _ _ h => h) (Or.inl ⟨by rfl, ?_⟩) ?_ ?_
                        rotate_left
                        · intro w'
                          go_simp
                          with_reducible rfl
                        rotate_left
                        · simp only [Act.put, List.setIfInBounds_toArray, List.set_cons_zero, List.set_cons_succ, i64_w, i32_w]
                          rfl
                        refine pure_ (i := 5) (N := some 28) (v := ?_) (a' := ?_) #[true, true, true, true, true, true, false, false, false, false, false, false, false] rfl rfl (any_of HT_.out (by kernel_rfl)) (fun _ _ _ h => h) (Or.inl ⟨by rfl, ?_⟩) ?_ ?_
                        rotate_left
                        · intro w'
                          go_simp
                          with_reducible rfl
                        rotate_left
                        · simp only [Act.put, List.setIfInBounds_toArray, List.set_cons_zero, List.set_cons_succ, i64_w, i32_w]
                          rfl
                        refine pure_ (i := 6) (N := some 29) (v := ?_) (a' := ?_) #[true, true, true, true, true, true, true, false, false, false, false, false, false] rfl rfl (any_of HT_.out (by kernel_rfl)) (fun _ _ _ h => h) (Or.inl ⟨by rfl, ?_⟩) ?_ ?_
                        rotate_left
                        · intro w'
                          go_simp
                          with_reducible rfl
                        rotate_left
                        · simp only [Act.put, List.setIfInBounds_toArray, List.set_cons_zero, List.set_cons_succ, i64_w, i32_w]
                          rfl
                        refine pure_ (i := 7) (N := some 30) (v := ?_) (a' := ?_) #[true, true, true, true, true, true, true, true, false, false, false, false, false] rfl rfl (any_of HT_.out (by kernel_rfl)) (fun _ _ _ h => h) (Or.inl ⟨by rfl, ?_⟩) ?_ ?_
                        rotate_left
                        · intro w'
                          go_simp
                          with_reducible rfl
                        rotate_left
                        · simp only [Act.put, List.setIfInBounds_toArray, List.set_cons_zero, List.set_cons_succ, i64_w, i32_w]
                          rfl
                        refine pure_ (i := 8) (N := some 31) (v := ?_) (a' := ?_) #[true, true, true, true, true, true, true, true, true, false, false, false, false] rfl rfl (any_of HT_.out (by kernel_rfl)) (fun _ _ _ h => h) (Or.inl ⟨by rfl, ?_⟩) ?_ ?_
                        rotate_left
                        · intro w'
                          go_simp
                          with_reducible rfl
                        rotate_left
                        · simp only [Act.put, List.setIfInBounds_toArray, List.set_cons_zero, List.set_cons_succ, i64_w, i32_w]
                          rfl
                        refine take_ (i := 9) (N := some 32) (v := ?_) (a' := ?_) #[true, true, true, true, true, true, true, true, true, true, false, false, false] rfl rfl (take_ofW HT_.out HW_.out (by kernel_rfl)) (fun _ _ _ h => h) (Or.inl ⟨by rfl, ?_⟩) hHeld ?_ ?_
                        rotate_left
                        · rintro w' ⟨sj, s0, s1, s2, s3, s4⟩
                          go_simp
                          with_reducible rfl
                        rotate_left
                        · simp only [Act.put, List.setIfInBounds_toArray, List.set_cons_zero, List.set_cons_succ, i64_w, i32_w]
                          rfl
                        refine take_ (i := 10) (N := some 33) (v := ?_) (a' := ?_) #[true, true, true, true, true, true, true, true, true, true, true, false, false] rfl rfl (take_ofW HT_.out HW_.out (by kernel_rfl)) (fun _ _ _ h => h) (Or.inl ⟨by rfl, ?_⟩) hHeld ?_ ?_
                        rotate_left
                        · rintro w' ⟨sj, s0, s1, s2, s3, s4⟩
                          go_simp
                          with_reducible rfl
                        rotate_left
                        · simp only [Act.put, List.setIfInBounds_toArray, List.set_cons_zero, List.set_cons_succ, i64_w, i32_w]
                          rfl
                        refine pure_ (i := 11) (N := some 34) (v := ?_) (a' := ?_) #[true, true, true, true, true, true, true, true, true, true, true, true, false] rfl rfl (any_of HT_.out (by kernel_rfl)) (fun _ _ _ h => h) (Or.inl ⟨by rfl, ?_⟩) ?_ ?_
                        rotate_left
                        · intro w'
                          go_simp
                          with_reducible rfl
                        rotate_left
                        · simp only [Act.put, List.setIfInBounds_toArray, List.set_cons_zero, List.set_cons_succ, i64_w, i32_w]
                          rfl
                        refine pure_ (i := 12) (N := some 35) (v := ?_) (a' := ?_) #[true, true, true, true, true, true, true, true, true, true, true, true, true] rfl rfl (any_of HT_.out (by kernel_rfl)) (fun _ _ _ h => h) (Or.inl ⟨by rfl, ?_⟩) ?_ ?_
                        rotate_left
                        · intro w'
                          go_simp
                          with_reducible rfl
                        rotate_left
                        · simp only [Act.put, List.setIfInBounds_toArray, List.set_cons_zero, List.set_cons_succ, i64_w, i32_w]
                          rfl
                        refine done_ (done_of HT_.out (by kernel_rfl)) ?_
                        try go_wp2
                        go_meet
                        case rel => exact ⟨_, (x8_2), (x10_2), (by first | rfl | (simp; done) | (simp [*]; done)), H', ⟨by have := HK1.out; have := HK2.out; first | omega | exact Nat.le_refl _⟩, ⟨by (with_reducible repeat (first | apply Kd.R_alloc | apply Kd.R_drewN | apply Kd.R_drew)); exact HO_3.out⟩, ⟨by (with_reducible repeat (first | apply Kd.R_alloc | apply Kd.R_drewN | apply Kd.R_drew)); exact HO_8.out⟩, ⟨by (with_reducible repeat (first | apply Kd.R_alloc | apply Kd.R_drewN | apply Kd.R_drew)); exact HO_9.out⟩, ⟨by (with_reducible repeat (first | apply Kd.R_alloc | apply Kd.R_drewN | apply Kd.R_drew)); exact HO_11.out⟩, ⟨by repeat (first | (with_reducible first | exact HK.out | apply Kept.alloc | apply Kept.drewN | apply Kept.drew) | exact HK.out)⟩, ⟨by repeat (first | (with_reducible first | exact HB.out | apply below_alloc | apply pw_below_drewN | apply below_drew1) | exact HB.out)⟩⟩
                    · rw [if_neg c14] at H
                      exact absurd H (by simp)
                  · rw [if_neg c13] at H
                    have c13b0 : decide (x10_2 < (l0.length : Int)) = false := decide_eq_false c13
                    clear c13
                    have H' := Aside0.mk H
                    clear H
                    have p139 : 0 ≤ (0 : Int) := (by omega)
                    have q139 : 0 < (x11_1.length : Int) := of_decide_eq_true (by first | (with_reducible assumption) | assumption)
                    obtain ⟨ad139, e139, hx139_0⟩ := Kd.at_int (Kd.R_reads' HO_11.out).2.2 0 p139 q139
                    obtain rfl : ad138 = ad139 := (by injection e139)
                    have qi139 : (0 < x11_1.length) = True := eq_true (by omega)
                    (try rw [show ((0 : Int)).toNat = 0 from rfl] at hx139_0)
                    (try rw [Addr.add_zero'] at hx139_0)
                    replace p139 := eq_true p139
                    replace q139 := eq_true q139
                    try go_wp2
                    have n0_ := Aside0.mk (Kd.R_drew HO_3.out)
                    have n1_ := Aside0.mk (Kd.R_drew HO_8.out)
                    have n2_ := Aside0.mk (Kd.R_drew HO_9.out)
                    have n3_ := Aside0.mk (Kd.R_drew HO_11.out)
                    have n4_ := Aside0.mk (Kept.drew HK.out)
                    have n5_ := Aside0.mk (below_drew1 HB.out)
                    clear HO_3
                    clear HO_8
                    clear HO_9
                    clear HO_11
                    clear HK
                    clear HB
                    have HO_3 := n0_
                    have HO_8 := n1_
                    have HO_9 := n2_
                    have HO_11 := n3_
                    have HK := n4_
                    have HB := n5_
                    clear n0_ n1_ n2_ n3_ n4_ n5_
                    refine start_ (n := 13) (S := fun w' => True) (ds := []) #[false, false, false, false, false, false, false, false, false, false, false, false, false] (by kernel_rfl) rfl rfl trivial (fun hHeld => ?_); refine with_tabW raster_rows.tab6 raster_rows.bits6 (fun HT_ HW_ => ?_)
                    generalize wr.drew = w20 at HO_3 HO_8 HO_9 HO_11 HK HB hHeld ⊢
                    refine pure_ (i := 0) (N := some 23) (v := ?_) (a' := ?_) #[true, false, false, false, false, false, false, false, false, false, false, false, false] rfl rfl (any_of HT_.out (by kernel_rfl)) (fun _ _ _ h => h) (Or.inl ⟨by rfl, ?_⟩) ?_ ?_
                    rotate_left
                    · intro w'
                      go_simp
                      with_reducible rfl
                    rotate_left
                    · simp only [Act.put, List.setIfInBounds_toArray, List.set_cons_zero, List.set_cons_succ, i64_w, i32_w]
                      rfl
                    refine pure_ (i := 1) (N := some 24) (v := ?_) (a' := ?_) #[true, true, false, false, false, false, false, false, false, false, false, false, false] rfl rfl (any_of HT_.out (by kernel_rfl)) (fun _ _ _ h => h) (Or.inl ⟨by rfl, ?_⟩) ?_ ?_
                    rotate_left
                    · intro w'
                      go_simp
                      with_reducible rfl
                    rotate_left
                    · simp only [Act.put, List.setIfInBounds_toArray, List.set_cons_zero, List.set_cons_succ, i64_w, i32_w]
                      rfl
                    refine pure_ (i := 2) (N := some 25) (v := ?_) (a' := ?_) #[true, true, true, false, false, false, false, false, false, false, false, false, false] rfl rfl (any_of HT_.out (by kernel_rfl)) (fun _ _ _ h => h) (Or.inl ⟨by rfl, ?_⟩) ?_ ?_
                    rotate_left
                    · intro w'
                      go_simp
                      with_reducible rfl
                    rotate_left
                    · simp only [Act.put, List.setIfInBounds_toArray, List.set_cons_zero, List.set_cons_succ, i64_w, i32_w]
                      rfl
                    refine pure_ (i := 3) (N := some 26) (v := ?_) (a' := ?_) #[true, true, true, true, false, false, false, false, false, false, false, false, false] rfl rfl (any_of HT_.out (by kernel_rfl)) (fun _ _ _ h => h) (Or.inl ⟨by rfl, ?_⟩) ?_ ?_
                    rotate_left
                    · intro w'
                      go_simp
                      with_reducible rfl
                    rotate_left
                    · simp only [Act.put, List.setIfInBounds_toArray, List.set_cons_zero, List.set_cons_succ, i64_w, i32_w]
                      rfl
                    refine pure_ (i := 4) (N := some 27) (v := ?_) (a' := ?_) #[true, true, true, true, true, false, false, false, false, false, false, false, false] rfl rfl (any_of HT_.out (by kernel_rfl)) (fun _ _ _ h => h) (Or.inl ⟨by rfl, ?_⟩) ?_ ?_
                    rotate_left
                    · intro w'
                      go_simp
                      with_reducible rfl
                    rotate_left
                    · simp only [Act.put, List.setIfInBounds_toArray, List.set_cons_zero, List.set_cons_succ, i64_w, i32_w]
                      rfl
                    refine pure_ (i := 5) (N := some 28) (v := undef) (a' := ?_) #[true, true, true, true, true, true, false, false, false, false, false, false, false] rfl rfl (any_of HT_.out (by kernel_rfl)) (fun _ _ _ h => h) (Or.inr ⟨by rfl, rfl⟩) ?_ ?_
                    rotate_left
                    · simp only [Act.put, List.setIfInBounds_toArray, List.set_cons_zero, List.set_cons_succ, i64_w, i32_w]
                      rfl
                    refine pure_ (i := 6) (N := some 29) (v := undef) (a' := ?_) #[true, true, true, true, true, true, true, false, false, false, false, false, false] rfl rfl (any_of HT_.out (by kernel_rfl)) (fun _ _ _ h => h) (Or.inr ⟨by rfl, rfl⟩) ?_ ?_
                    rotate_left
                    · simp only [Act.put, List.setIfInBounds_toArray, List.set_cons_zero, List.set_cons_succ, i64_w, i32_w]
                      rfl
                    refine pure_ (i := 7) (N := some 30) (v := undef) (a' := ?_) #[true, true, true, true, true, true, true, true, false, false, false, false, false] rfl rfl (any_of HT_.out (by kernel_rfl)) (fun _ _ _ h => h) (Or.inr ⟨by rfl, rfl⟩) ?_ ?_
                    rotate_left
                    · simp only [Act.put, List.setIfInBounds_toArray, List.set_cons_zero, List.set_cons_succ, i64_w, i32_w]
                      rfl
                    refine pure_ (i := 8) (N := some 31) (v := undef) (a' := ?_) #[true, true, true, true, true, true, true, true, true, false, false, false, false] rfl rfl (any_of HT_.out (by kernel_rfl)) (fun _ _ _ h => h) (Or.inr ⟨by rfl, rfl⟩) ?_ ?_
                    rotate_left
                    · simp only [Act.put, List.setIfInBounds_toArray, List.set_cons_zero, List.set_cons_succ, i64_w, i32_w]
                      rfl
                    refine pure_ (i := 9) (N := some 32) (v := undef) (a' := ?_) #[true, true, true, true, true, true, true, true, true, true, false, false, false] rfl rfl (any_of HT_.out (by kernel_rfl)) (fun _ _ _ h => h) (Or.inr ⟨by rfl, rfl⟩) ?_ ?_
                    rotate_left
                    · simp only [Act.put, List.setIfInBounds_toArray, List.set_cons_zero, List.set_cons_succ, i64_w, i32_w]
                      rfl
                    refine pure_ (i := 10) (N := some 33) (v := undef) (a' := ?_) #[true, true, true, true, true, true, true, true, true, true, true, false, false] rfl rfl (any_of HT_.out (by kernel_rfl)) (fun _ _ _ h => h) (Or.inr ⟨by rfl, rfl⟩) ?_ ?_
                    rotate_left
                    · simp only [Act.put, List.setIfInBounds_toArray, List.set_cons_zero, List.set_cons_succ, i64_w, i32_w]
                      rfl
                    refine pure_ (i := 11) (N := some 34) (v := undef) (a' := ?_) #[true, true, true, true, true, true, true, true, true, true, true, true, false] rfl rfl (any_of HT_.out (by kernel_rfl)) (fun _ _ _ h => h) (Or.inr ⟨by rfl, rfl⟩) ?_ ?_
                    rotate_left
                    · simp only [Act.put, List.setIfInBounds_toArray, List.set_cons_zero, List.set_cons_succ, i64_w, i32_w]
                      rfl
                    refine pure_ (i := 12) (N := some 35) (v := ?_) (a' := ?_) #[true, true, true, true, true, true, true, true, true, true, true, true, true] rfl rfl (any_of HT_.out (by kernel_rfl)) (fun _ _ _ h => h) (Or.inl ⟨by rfl, ?_⟩) ?_ ?_
                    rotate_left
                    · intro w'
                      go_simp
                      with_reducible rfl
                    rotate_left
                    · simp only [Act.put, List.setIfInBounds_toArray, List.set_cons_zero, List.set_cons_succ, i64_w, i32_w]
                      rfl
                    refine done_ (done_of HT_.out (by kernel_rfl)) ?_
                    try go_wp2
                    go_meet
                    case rel => exact ⟨_, (x8_2), (x10_2), (by first | rfl | (simp; done) | (simp [*]; done)), H', ⟨by have := HK1.out; have := HK2.out; first | omega | exact Nat.le_refl _⟩, ⟨by (with_reducible repeat (first | apply Kd.R_alloc | apply Kd.R_drewN | apply Kd.R_drew)); exact HO_3.out⟩, ⟨by (with_reducible repeat (first | apply Kd.R_alloc | apply Kd.R_drewN | apply Kd.R_drew)); exact HO_8.out⟩, ⟨by (with_reducible repeat (first | apply Kd.R_alloc | apply Kd.R_drewN | apply Kd.R_drew)); exact HO_9.out⟩, ⟨by (with_reducible repeat (first | apply Kd.R_alloc | apply Kd.R_drewN | apply Kd.R_drew)); exact HO_11.out⟩, ⟨by repeat (first | (with_reducible first | exact HK.out | apply Kept.alloc | apply Kept.drewN | apply Kept.drew) | exact HK.out)⟩, ⟨by repeat (first | (with_reducible first | exact HB.out | apply below_alloc | apply pw_below_drewN | apply below_drew1) | exact HB.out)⟩⟩
                · rw [if_neg c12] at H
                  exact absurd H (by simp)
          case rest =>
            clear HC10
            try clear c1
            try clear p1
            try clear q1
            try clear hx1
            try clear qi1
            try clear p2
            try clear c3
            try clear c4
            try clear p6
            try clear c8
            try clear c8b0
            try clear c8b1
            try clear c9
            try clear c9b0
            try clear c12
            try clear c12b0
            try clear c12b1
            try clear c13
            try clear c13b0
            try clear p13
            try clear q13
            try clear hx13
            try clear qi13
            try clear c14
            try clear c14b0
            try clear p14
            try clear q14
            try clear hx14
            try clear c15
            try clear c15b0
            try clear c16
            try clear hx138_0
            try clear hx139_0
            try clear hx140_0
            try clear hx140_1
            try clear hx140_2
            try clear hx140_3
            try clear hx140_4
            try clear hx141_0
            try clear hx141_1
            try clear hx141_2
            try clear hx141_3
            try clear hx141_4
            try clear p1
            try clear p138
            try clear p139
            try clear p140
            try clear p141
            try clear p2
            try clear q1
            try clear q138
            try clear q139
            try clear q140
            try clear q141
            obtain ⟨kq, x8_9, x10_9, rfl, HA, HJ9, HO_3, HO_8, HO_9, HO_11, HK, HB⟩ := hcut
            cases kq with
            | zero => exact absurd HA.out (by simp [raster_rows.j2])
            | succ kj9 =>
              have H := HA.out
              clear HA
              simp only [raster_rows.j2] at H
              replace H := Option.bind_eq_some_iff.mp H
              obtain ⟨t145, A210, H⟩ := H
              replace H : (if 0 ≤ (x9_1.length : Int) then (raster_rows.l2 kj9 l0 a2 x3_1 l4 t145 (x9_1.take (0 : Int).toNat) x10_9 x11_1 t145 (t145.length : Int) 0) else (none)) = some r := H
              have A21 := Aside0.mk A210
              clear A210
              by_cases c22 : 0 ≤ (x9_1.length : Int)
              · rw [if_pos c22] at H
                have c22b0 := eq_true c22
                have c22b1 : decide (0 ≤ (x9_1.length : Int)) = true := decide_eq_true c22
                clear c22
                obtain ⟨y148, hy148⟩ : ∃ y_ : List (S83), y_ = (x9_1.take (0 : Int).toNat) := ⟨_, rfl⟩
                replace H : (raster_rows.l2 kj9 l0 a2 x3_1 l4 t145 y148 x10_9 x11_1 t145 (t145.length : Int) 0) = some r := by first | (rw [hy148]; with_reducible exact H) | (have H2_ := (Option.bind_some _ _).symm.trans H; rw [hy148]; with_reducible exact H2_) | (have H2_ := (Option.bind_some _ _).symm.trans H; with_reducible exact H2_) | with_reducible exact H | (rw [hy148]; exact H) | exact H
                have Ny148 := Aside0.mk hy148
                clear hy148
                have H' := Aside0.mk H
                clear H
                obtain ⟨Ao23, co23, eo23⟩ := Kd.R_slice HO_8.out
                subst eo23
                go_wp2_with (first | ((with_reducible refine gate_callee (f := 41) rfl ?_); refine goesL_ (some 47) rfl rfl Try.func41 (by kernel_rfl) rfl #[.slice Ao23 x8_9.length co23, .func (.func 42) #[] #[.pointer (some ad138)]] rfl (by (try simp only [List.map_toArray, List.map_cons, List.map_nil]); first | done | rfl | (simp only [List.length_drop, List.length_take]; rfl)) ?_; (with_reducible refine (raster_edge_41.calls kj9 (fun k_ => some k_ = (.slice Ao23 x8_9.length co23 : Value).ownBlock) (.slice Ao23 x8_9.length co23) x8_9 (some ad138) co11 x11_1 t145 w0 _ ?side1 ?side2 ?side3 ?side4 A21.out).mono ?_); (case side1 => repeat (first | (with_reducible first | exact HB.out | apply below_alloc | apply pw_below_drewN | apply below_drew1) | exact HB.out)); (case side2 => exact Kd.R_tight rfl HO_8.out); (case side3 => exact Kd.C_kept_own ((Kd.R_apart' HO_11.out (Kd.R_typed HO_8.out) (by decide))) (fun k_ hk_ hs_ => (hk_.2) hs_)); (case side4 => exact (Kd.R_reads' HO_11.out).2.1); rintro e w24 ⟨v146, rfl, ho0, hb, hkp⟩; refine ⟨_, rfl, ?_⟩; have n0_ := Aside0.mk (Kd.R_mono (ok' := fun k_ => (P3_ k_ ∨ w.heap.size ≤ k_) ∧ some k_ ≠ (.slice (some ad138) x11_1.length co11 : Value).ownBlock) (Kd.R_keptB ((Kd.R_apart' HO_3.out (Kd.R_typed HO_8.out) (by decide))) hkp (fun k_ hk_ hs_ => (hk_.2) hs_)) (fun k_ hk_ => ⟨hk_.1.1.1, hk_.1.1.2⟩)); have n1_ := Aside0.mk (Kd.R_mono (ok' := fun k_ => (P3_ k_ ∨ w.heap.size ≤ k_)) (Kd.R_keptB ((Kd.R_apart' HO_9.out (Kd.R_typed HO_8.out) (by decide))) hkp (fun k_ hk_ hs_ => (hk_.2) hs_)) (fun k_ hk_ => hk_.1.1)); have n2_ := Aside0.mk (Kd.R_mono (ok' := fun k_ => (P3_ k_ ∨ w.heap.size ≤ k_) ∧ some k_ ≠ (u9000_ : Value).ownBlock) (Kd.R_keptB ((Kd.R_apart' HO_11.out (Kd.R_typed HO_8.out) (by decide))) hkp (fun k_ hk_ hs_ => (hk_.2) hs_)) (fun k_ hk_ => ⟨hk_.1.1.1, hk_.1.1.2⟩)); have n3_ := Aside0.mk (Kd.R_mono (ok' := fun k_ => (P3_ k_ ∨ w.heap.size ≤ k_)) ho0 (fun k_ hk_ => Or.elim hk_ (fun hs_ => (HO_8.out.1 k_ (hs_).symm)) (fun hn_ => (.inr (Nat.le_trans (by first | exact HK.out.1 | exact (show Kept w _ (fun k_ => P3_ k_) from by repeat (first | (with_reducible first | exact HK.out | apply Kept.alloc | apply Kept.drewN | apply Kept.drew) | exact HK.out)).1) hn_))))); have n4_ := Aside0.mk (Kept.then_ (S := (fun k_ => P3_ k_)) (by repeat (first | (with_reducible first | exact HK.out | apply Kept.alloc | apply Kept.drewN | apply Kept.drew) | exact HK.out)) hkp (fun k_ hs_ => (fun e_ => (HO_8.out.1 k_ e_.symm)) hs_)); have n5_ := Aside0.mk (hb); clear HO_3; clear HO_9; clear HO_11; clear HK; clear HB; clear HO_8; have HO_3 := n0_; have HO_9 := n1_; have HO_11 := n2_; have HO147 := n3_; have HK := n4_; have HB := n5_; clear n0_ n1_ n2_ n3_ n4_ n5_; (try clear hb); (try clear hkp); (try clear ho0); obtain ⟨Ao25, co25, eo25⟩ := Kd.R_slice HO_9.out; subst eo25; have q26 : (0 : Int) ≤ ((x9_1.length : Int) : Int) := of_decide_eq_true (by first | (with_reducible assumption) | assumption); obtain ⟨i026, hi026, _, hsz26, _⟩ := info_parts info83; have hcut26 := cut_to (P := Try.prog) 77 83 .i64 Try.underlying77 hi026 Ao25 x9_1.length co25 0 (by omega) q26 (Kd.R_reads' HO_9.out).2.1; have hr26 := Kd.R_take (m := (0 : Int).toNat) HO_9.out (by omega); have hy26 : y148.length = (0 : Int).toNat := (by rw [Ny148.out, List.length_take]; omega); rw [← Ny148.out] at hr26; rw [← hy26] at hr26 hcut26; clear hy26 hi026 hsz26 HO_9; have HO150 := Aside0.mk hr26; clear hr26; replace q26 := eq_true q26; obtain ⟨Ao27, co27, eo27⟩ := Kd.R_slice HO147.out; subst eo27))
                go_loopg [9, 52] kj9 (fun kq v9 v52 w' => ∃ (x9_3 : List (S83)) (x52_3 : Int), v52 = .int .i64 x52_3 ∧ Aside0 (raster_rows.l2 kq l0 a2 x3_1 l4 t145 x9_3 x10_9 x11_1 t145 (t145.length : Int) x52_3 = some r) ∧ Aside0 (kq ≤ kj9) ∧ Aside0 (Kd.R (Kd.int .i64) 3 w' w0.heap.size (fun k_ => (P3_ k_ ∨ w.heap.size ≤ k_) ∧ some k_ ≠ ((.slice (some ad138) x11_1.length co11) : Value).ownBlock) u9000_ x3_1) ∧ Aside0 (Kd.R k79 79 w' w0.heap.size (fun k_ => (P3_ k_ ∨ w.heap.size ≤ k_)) (.slice Ao27 t145.length co27) t145) ∧ Aside0 (Kd.R k83 83 w' w0.heap.size (fun k_ => (P3_ k_ ∨ w.heap.size ≤ k_)) v9 x9_3) ∧ Aside0 (Kd.R (Kd.int .i64) 3 w' w0.heap.size (fun k_ => (P3_ k_ ∨ w.heap.size ≤ k_) ∧ some k_ ≠ (u9000_ : Value).ownBlock) (.slice (some ad138) x11_1.length co11) x11_1) ∧ Aside0 (Kd.R k79 79 w' w0.heap.size (fun k_ => (P3_ k_ ∨ w.heap.size ≤ k_)) (.slice Ao27 t145.length co27) t145) ∧ Aside0 (Kept w w' (fun k_ => P3_ k_)) ∧ Aside0 (Below w0.heap.size w0 w'))
                case atStart => exact ⟨(y148), (0), (by first | rfl | (simp; done) | (simp [*]; done)), H', ⟨Nat.le_refl _⟩, ⟨by (with_reducible repeat (first | apply Kd.R_alloc | apply Kd.R_drewN | apply Kd.R_drew)); exact HO_3.out⟩, ⟨by (with_reducible repeat (first | apply Kd.R_alloc | apply Kd.R_drewN | apply Kd.R_drew)); exact HO147.out⟩, ⟨by (with_reducible repeat (first | apply Kd.R_alloc | apply Kd.R_drewN | apply Kd.R_drew)); exact HO150.out⟩, ⟨by (with_reducible repeat (first | apply Kd.R_alloc | apply Kd.R_drewN | apply Kd.R_drew)); exact HO_11.out⟩, ⟨by (with_reducible repeat (first | apply Kd.R_alloc | apply Kd.R_drewN | apply Kd.R_drew)); exact HO147.out⟩, ⟨by repeat (first | (with_reducible first | exact HK.out | apply Kept.alloc | apply Kept.drewN | apply Kept.drew) | exact HK.out)⟩, ⟨by repeat (first | (with_reducible first | exact HB.out | apply below_alloc | apply pw_below_drewN | apply below_drew1) | exact HB.out)⟩⟩
                case round =>
                  clear H'
                  try clear c1
                  try clear p1
                  try clear q1
                  try clear hx1
                  try clear qi1
                  try clear c2
                  try clear p2
                  try clear q2
                  try clear c3
                  try clear c4
                  try clear p6
                  try clear c8
                  try clear c8b0
                  try clear c8b1
                  try clear c9
                  try clear c9b0
                  try clear c12
                  try clear c12b0
                  try clear c12b1
                  try clear c13
                  try clear c13b0
                  try clear p13
                  try clear q13
                  try clear hx13
                  try clear qi13
                  try clear c14
                  try clear c14b0
                  try clear p14
                  try clear q14
                  try clear hx14
                  try clear c15
                  try clear c15b0
                  try clear c16
                  try clear c22
                  try clear c22b0
                  try clear c22b1
                  try clear q26
                  try clear hx138_0
                  try clear hx139_0
                  try clear hx140_0
                  try clear hx140_1
                  try clear hx140_2
                  try clear hx140_3
                  try clear hx140_4
                  try clear hx141_0
                  try clear hx141_1
                  try clear hx141_2
                  try clear hx141_3
                  try clear hx141_4
                  try clear p1
                  try clear p13
                  try clear p138
                  try clear p139
                  try clear p14
                  try clear p140
                  try clear p141
                  try clear p2
                  try clear p6
                  try clear q1
                  try clear q13
                  try clear q138
                  try clear q139
                  try clear q14
                  try clear q140
                  try clear q141
                  try clear q26
                  obtain ⟨x9_3, x52_3, rfl, HA, HK3, HO_3, HO_8, HO_9, HO_11, HO_50, HK, HB⟩ := hrel
                  cases gk with
                  | zero => exact absurd HA.out (by simp [raster_rows.l2])
                  | succ k3 =>
                    have H := HA.out
                    clear HA
                    simp only [raster_rows.l2] at H
                    by_cases c28 : x52_3 < (t145.length : Int)
                    · rw [if_pos c28] at H
                      have c28b0 : decide (x52_3 < (t145.length : Int)) = true := decide_eq_true c28
                      clear c28
                      by_cases c29 : 0 ≤ x52_3
                      · rw [if_pos c29] at H
                        have c29b0 : decide (0 ≤ x52_3) = true := decide_eq_true c29
                        clear c29
                        by_cases c30 : x52_3 < (t145.length : Int)
                        · rw [if_pos c30] at H
                          have c30b0 : decide (x52_3 < (t145.length : Int)) = true := decide_eq_true c30
                          clear c30
                          by_cases c31 : 0 < (x11_1.length : Int)
                          · rw [if_pos c31] at H
                            have c31b0 : decide (0 < (x11_1.length : Int)) = true := decide_eq_true c31
                            have c31b1 : decide (0 < x11_1.length) = true := decide_eq_true (by omega)
                            clear c31
                            replace H := Option.bind_eq_some_iff.mp H
                            obtain ⟨t154, A320, H⟩ := H
                            replace H : (if x9_3.length < 8796093022208 then (raster_rows.l2 k3 l0 a2 x3_1 l4 t145 (x9_3 ++ [(⟨t154, (rd_T79 t145 x52_3).f4⟩ : S83)]) x10_9 x11_1 t145 (t145.length : Int) (wrap64 (x52_3 + 1))) else (none)) = some r := H
                            have A32 := Aside0.mk A320
                            clear A320
                            by_cases c33 : x9_3.length < 8796093022208
                            · rw [if_pos c33] at H
                              have LMc33 := Aside0.mk c33
                              clear c33
                              obtain ⟨y155, hy155⟩ : ∃ y_ : List (S83), y_ = (x9_3 ++ [(⟨t154, (rd_T79 t145 x52_3).f4⟩ : S83)]) := ⟨_, rfl⟩
                              replace H : (raster_rows.l2 k3 l0 a2 x3_1 l4 t145 y155 x10_9 x11_1 t145 (t145.length : Int) (wrap64 (x52_3 + 1))) = some r := by first | (rw [hy155]; with_reducible exact H) | (have H2_ := (Option.bind_some _ _).symm.trans H; rw [hy155]; with_reducible exact H2_) | (have H2_ := (Option.bind_some _ _).symm.trans H; with_reducible exact H2_) | with_reducible exact H | (rw [hy155]; exact H) | exact H
                              have Ny155 := Aside0.mk hy155
                              clear hy155
                              have H' := Aside0.mk H
                              clear H
                              have p151 : 0 ≤ (x52_3 : Int) := of_decide_eq_true (by first | (with_reducible assumption) | assumption)
                              have q151 : x52_3 < (t145.length : Int) := of_decide_eq_true (by first | (with_reducible assumption) | assumption)
                              obtain ⟨ad151, e151, hx151_0, hx151_1, hx151_2, hx151_3, hx151_4⟩ := at_T79 (Kd.R_reads' HO_50.out).2.2 x52_3 p151 q151
                              cases e151
                              replace p151 := eq_true p151
                              replace q151 := eq_true q151
                              try go_wp2_with (first | ((with_reducible refine gate_dst (N := 13) rfl ?_); refine box_event ?hg (N := 13) ?hd (cs := #[.int .i64 0, .int .i64 0, .int .i64 0, .int .i64 0, .int .i64 0]) (t := 79) ?hr ?_; (case hd => rfl); (case hg => rfl); (case hr => first | (go_simp; done) | (go_simp; rfl)); intro gb152 hg w34 hbox hb; have n0_ := Aside0.mk (Kd.R_below (by (with_reducible repeat (first | apply Kd.R_alloc | apply Kd.R_drewN | apply Kd.R_drew)); exact HO_3.out) hb); have n1_ := Aside0.mk (Kd.R_below (Kd.R_elderB (by (with_reducible repeat (first | apply Kd.R_alloc | apply Kd.R_drewN | apply Kd.R_drew)); exact HO_8.out) gb152 (Nat.le_of_eq hg.symm)) hb); have n2_ := Aside0.mk (Kd.R_below (by (with_reducible repeat (first | apply Kd.R_alloc | apply Kd.R_drewN | apply Kd.R_drew)); exact HO_9.out) hb); have n3_ := Aside0.mk (Kd.R_below (by (with_reducible repeat (first | apply Kd.R_alloc | apply Kd.R_drewN | apply Kd.R_drew)); exact HO_11.out) hb); have n4_ := Aside0.mk (Kd.R_below (Kd.R_elderB (by (with_reducible repeat (first | apply Kd.R_alloc | apply Kd.R_drewN | apply Kd.R_drew)); exact HO_50.out) gb152 (Nat.le_of_eq hg.symm)) hb); have n5_ := Aside0.mk (Kept.below (S := (fun k_ => P3_ k_)) (by repeat (first | (with_reducible first | exact HK.out | apply Kept.alloc | apply Kept.drewN | apply Kept.drew) | exact HK.out)) hb); have n6_ := Aside0.mk (below_step (by repeat (first | (with_reducible first | exact HB.out | apply below_alloc | apply pw_below_drewN | apply below_drew1) | exact HB.out)) hb); have n7_ := Aside0.mk (hbox); have n8_ := Aside0.mk ((by rw [hg]; exact (by first | exact HK.out.1 | exact (show Kept w _ (fun k_ => P3_ k_) from by repeat (first | (with_reducible first | exact HK.out | apply Kept.alloc | apply Kept.drewN | apply Kept.drew) | exact HK.out)).1) : w.heap.size ≤ gb152)); have n9_ := Aside0.mk ((by rw [hg]; exact (below_size (by repeat (first | (with_reducible first | exact HB.out | apply below_alloc | apply pw_below_drewN | apply below_drew1) | exact HB.out))) : w0.heap.size ≤ gb152)); clear HO_3; clear HO_8; clear HO_9; clear HO_11; clear HO_50; clear HK; clear HB; have HO_3 := n0_; have HO_8 := n1_; have HO_9 := n2_; have HO_11 := n3_; have HO_50 := n4_; have HK := n5_; have HB := n6_; have BK152 := n7_; have GW152 := n8_; have GE152 := n9_; clear n0_ n1_ n2_ n3_ n4_ n5_ n6_ n7_ n8_ n9_; clear hb hbox hg; have hcz35_0 : w34.cell? ⟨gb152, 0, none⟩ = some (.int .i64 0) := (blk_cell BK152.out 0).trans rfl; have hcz35_1 : w34.cell? ⟨gb152, 1, none⟩ = some (.int .i64 0) := (blk_cell BK152.out 1).trans rfl; have hcz35_2 : w34.cell? ⟨gb152, 2, none⟩ = some (.int .i64 0) := (blk_cell BK152.out 2).trans rfl; have hcz35_3 : w34.cell? ⟨gb152, 3, none⟩ = some (.int .i64 0) := (blk_cell BK152.out 3).trans rfl; have hcz35_4 : w34.cell? ⟨gb152, 4, none⟩ = some (.int .i64 0) := (blk_cell BK152.out 4).trans rfl; have hfz35_0 := blk_frozen BK152.out 0; have hfz35_1 := blk_frozen BK152.out 1; have hfz35_2 := blk_frozen BK152.out 2; have hfz35_3 := blk_frozen BK152.out 3; have hfz35_4 := blk_frozen BK152.out 4; have p153 : 0 ≤ (0 : Int) := (by omega); have q153 : 0 < (x11_1.length : Int) := of_decide_eq_true (by first | (with_reducible assumption) | assumption); obtain ⟨ad153, e153, hx153_0⟩ := Kd.at_int (Kd.R_reads' HO_11.out).2.2 0 p153 q153; obtain rfl : ad138 = ad153 := (by injection e153); have qi153 : (0 < x11_1.length) = True := eq_true (by omega); (try rw [show ((0 : Int)).toNat = 0 from rfl] at hx153_0); (try rw [Addr.add_zero'] at hx153_0); have hn153_0 : ad138.block ≠ gb152 := Kd.own_blk (Kd.R_ne HO_11.out BK152.out (by decide)); have hn153_1 : ad138.block ≠ gb152 := Kd.own_blk (Kd.R_ne HO_11.out BK152.out (by decide)); have hn153_2 : ad138.block ≠ gb152 := Kd.own_blk (Kd.R_ne HO_11.out BK152.out (by decide)); have hn153_3 : ad138.block ≠ gb152 := Kd.own_blk (Kd.R_ne HO_11.out BK152.out (by decide)); have hn153_4 : ad138.block ≠ gb152 := Kd.own_blk (Kd.R_ne HO_11.out BK152.out (by decide)); replace hx153_0 := (cell_far (p := ⟨gb152, 0, none⟩) (by first | (rw [add_block]; exact hn153_0) | (show (Addr.add _ _).block ≠ _; rw [add_block]; exact hn153_0) | exact hn153_0) (.int .i64 ((rd_T79 t145 x52_3).f0))).trans hx153_0; replace hx153_0 := (cell_far (p := ⟨gb152, 1, none⟩) (by first | (rw [add_block]; exact hn153_1) | (show (Addr.add _ _).block ≠ _; rw [add_block]; exact hn153_1) | exact hn153_1) (.int .i64 ((rd_T79 t145 x52_3).f1))).trans hx153_0; replace hx153_0 := (cell_far (p := ⟨gb152, 2, none⟩) (by first | (rw [add_block]; exact hn153_2) | (show (Addr.add _ _).block ≠ _; rw [add_block]; exact hn153_2) | exact hn153_2) (.int .i64 ((rd_T79 t145 x52_3).f2))).trans hx153_0; replace hx153_0 := (cell_far (p := ⟨gb152, 3, none⟩) (by first | (rw [add_block]; exact hn153_3) | (show (Addr.add _ _).block ≠ _; rw [add_block]; exact hn153_3) | exact hn153_3) (.int .i64 ((rd_T79 t145 x52_3).f3))).trans hx153_0; replace hx153_0 := (cell_far (p := ⟨gb152, 4, none⟩) (by first | (rw [add_block]; exact hn153_4) | (show (Addr.add _ _).block ≠ _; rw [add_block]; exact hn153_4) | exact hn153_4) (.int .i64 ((rd_T79 t145 x52_3).f4))).trans hx153_0; clear hn153_0; clear hn153_1; clear hn153_2; clear hn153_3; clear hn153_4; replace p153 := eq_true p153; replace q153 := eq_true q153))
                              have n0_ : Aside0 (Kd.R (Kd.int .i64) 3 (((((w34.setCell ⟨gb152, 0, none⟩ (.int .i64 ((rd_T79 t145 x52_3).f0))).setCell ⟨gb152, 1, none⟩ (.int .i64 ((rd_T79 t145 x52_3).f1))).setCell ⟨gb152, 2, none⟩ (.int .i64 ((rd_T79 t145 x52_3).f2))).setCell ⟨gb152, 3, none⟩ (.int .i64 ((rd_T79 t145 x52_3).f3))).setCell ⟨gb152, 4, none⟩ (.int .i64 ((rd_T79 t145 x52_3).f4))) w0.heap.size (fun k_ => (P3_ k_ ∨ w.heap.size ≤ k_) ∧ some k_ ≠ (.slice (some ad138) x11_1.length co11 : Value).ownBlock) u9000_ x3_1) := ⟨by (with_reducible repeat (first | apply Kd.R_alloc | apply Kd.R_drewN | apply Kd.R_drew)); exact Kd.R_mono (Kd.R_far (p := ⟨gb152, 4, none⟩) (Kd.R_far (p := ⟨gb152, 3, none⟩) (Kd.R_far (p := ⟨gb152, 2, none⟩) (Kd.R_far (p := ⟨gb152, 1, none⟩) (Kd.R_far (p := ⟨gb152, 0, none⟩) (Kd.R_types HO_3.out BK152.out (by decide)) (fun _ hk => hk.2) (.int .i64 ((rd_T79 t145 x52_3).f0))) (fun _ hk => hk.2) (.int .i64 ((rd_T79 t145 x52_3).f1))) (fun _ hk => hk.2) (.int .i64 ((rd_T79 t145 x52_3).f2))) (fun _ hk => hk.2) (.int .i64 ((rd_T79 t145 x52_3).f3))) (fun _ hk => hk.2) (.int .i64 ((rd_T79 t145 x52_3).f4))) (fun _ hk => ⟨hk.1.1, hk.1.2⟩)⟩
                              have n1_ : Aside0 (Kd.R k79 79 (((((w34.setCell ⟨gb152, 0, none⟩ (.int .i64 ((rd_T79 t145 x52_3).f0))).setCell ⟨gb152, 1, none⟩ (.int .i64 ((rd_T79 t145 x52_3).f1))).setCell ⟨gb152, 2, none⟩ (.int .i64 ((rd_T79 t145 x52_3).f2))).setCell ⟨gb152, 3, none⟩ (.int .i64 ((rd_T79 t145 x52_3).f3))).setCell ⟨gb152, 4, none⟩ (.int .i64 ((rd_T79 t145 x52_3).f4))) w0.heap.size (fun k_ => (P3_ k_ ∨ w.heap.size ≤ k_) ∧ k_ ≠ gb152) (.slice (some ad151) t145.length co27) t145) := ⟨by (with_reducible repeat (first | apply Kd.R_alloc | apply Kd.R_drewN | apply Kd.R_drew)); exact Kd.R_mono (Kd.R_far (p := ⟨gb152, 4, none⟩) (Kd.R_far (p := ⟨gb152, 3, none⟩) (Kd.R_far (p := ⟨gb152, 2, none⟩) (Kd.R_far (p := ⟨gb152, 1, none⟩) (Kd.R_far (p := ⟨gb152, 0, none⟩) (Kd.R_mono HO_8.out (fun k_ hk => (⟨hk, hk.2⟩ : _ ∧ k_ ≠ gb152))) (fun _ hk => hk.2) (.int .i64 ((rd_T79 t145 x52_3).f0))) (fun _ hk => hk.2) (.int .i64 ((rd_T79 t145 x52_3).f1))) (fun _ hk => hk.2) (.int .i64 ((rd_T79 t145 x52_3).f2))) (fun _ hk => hk.2) (.int .i64 ((rd_T79 t145 x52_3).f3))) (fun _ hk => hk.2) (.int .i64 ((rd_T79 t145 x52_3).f4))) (fun _ hk => ⟨hk.1.1, hk.1.2⟩)⟩
                              have n2_ : Aside0 (Kd.R k83 83 (((((w34.setCell ⟨gb152, 0, none⟩ (.int .i64 ((rd_T79 t145 x52_3).f0))).setCell ⟨gb152, 1, none⟩ (.int .i64 ((rd_T79 t145 x52_3).f1))).setCell ⟨gb152, 2, none⟩ (.int .i64 ((rd_T79 t145 x52_3).f2))).setCell ⟨gb152, 3, none⟩ (.int .i64 ((rd_T79 t145 x52_3).f3))).setCell ⟨gb152, 4, none⟩ (.int .i64 ((rd_T79 t145 x52_3).f4))) w0.heap.size (fun k_ => (P3_ k_ ∨ w.heap.size ≤ k_)) u9 x9_3) := ⟨by (with_reducible repeat (first | apply Kd.R_alloc | apply Kd.R_drewN | apply Kd.R_drew)); exact Kd.R_mono (Kd.R_far (p := ⟨gb152, 4, none⟩) (Kd.R_far (p := ⟨gb152, 3, none⟩) (Kd.R_far (p := ⟨gb152, 2, none⟩) (Kd.R_far (p := ⟨gb152, 1, none⟩) (Kd.R_far (p := ⟨gb152, 0, none⟩) (Kd.R_types HO_9.out BK152.out (by decide)) (fun _ hk => hk.2) (.int .i64 ((rd_T79 t145 x52_3).f0))) (fun _ hk => hk.2) (.int .i64 ((rd_T79 t145 x52_3).f1))) (fun _ hk => hk.2) (.int .i64 ((rd_T79 t145 x52_3).f2))) (fun _ hk => hk.2) (.int .i64 ((rd_T79 t145 x52_3).f3))) (fun _ hk => hk.2) (.int .i64 ((rd_T79 t145 x52_3).f4))) (fun _ hk => hk.1)⟩
                              have n3_ : Aside0 (Kd.R (Kd.int .i64) 3 (((((w34.setCell ⟨gb152, 0, none⟩ (.int .i64 ((rd_T79 t145 x52_3).f0))).setCell ⟨gb152, 1, none⟩ (.int .i64 ((rd_T79 t145 x52_3).f1))).setCell ⟨gb152, 2, none⟩ (.int .i64 ((rd_T79 t145 x52_3).f2))).setCell ⟨gb152, 3, none⟩ (.int .i64 ((rd_T79 t145 x52_3).f3))).setCell ⟨gb152, 4, none⟩ (.int .i64 ((rd_T79 t145 x52_3).f4))) w0.heap.size (fun k_ => (P3_ k_ ∨ w.heap.size ≤ k_) ∧ some k_ ≠ (u9000_ : Value).ownBlock) (.slice (some ad138) x11_1.length co11) x11_1) := ⟨by (with_reducible repeat (first | apply Kd.R_alloc | apply Kd.R_drewN | apply Kd.R_drew)); exact Kd.R_mono (Kd.R_far (p := ⟨gb152, 4, none⟩) (Kd.R_far (p := ⟨gb152, 3, none⟩) (Kd.R_far (p := ⟨gb152, 2, none⟩) (Kd.R_far (p := ⟨gb152, 1, none⟩) (Kd.R_far (p := ⟨gb152, 0, none⟩) (Kd.R_types HO_11.out BK152.out (by decide)) (fun _ hk => hk.2) (.int .i64 ((rd_T79 t145 x52_3).f0))) (fun _ hk => hk.2) (.int .i64 ((rd_T79 t145 x52_3).f1))) (fun _ hk => hk.2) (.int .i64 ((rd_T79 t145 x52_3).f2))) (fun _ hk => hk.2) (.int .i64 ((rd_T79 t145 x52_3).f3))) (fun _ hk => hk.2) (.int .i64 ((rd_T79 t145 x52_3).f4))) (fun _ hk => ⟨hk.1.1, hk.1.2⟩)⟩
                              have n4_ : Aside0 (Kd.R k79 79 (((((w34.setCell ⟨gb152, 0, none⟩ (.int .i64 ((rd_T79 t145 x52_3).f0))).setCell ⟨gb152, 1, none⟩ (.int .i64 ((rd_T79 t145 x52_3).f1))).setCell ⟨gb152, 2, none⟩ (.int .i64 ((rd_T79 t145 x52_3).f2))).setCell ⟨gb152, 3, none⟩ (.int .i64 ((rd_T79 t145 x52_3).f3))).setCell ⟨gb152, 4, none⟩ (.int .i64 ((rd_T79 t145 x52_3).f4))) w0.heap.size (fun k_ => (P3_ k_ ∨ w.heap.size ≤ k_) ∧ k_ ≠ gb152) (.slice (some ad151) t145.length co27) t145) := ⟨by (with_reducible repeat (first | apply Kd.R_alloc | apply Kd.R_drewN | apply Kd.R_drew)); exact Kd.R_mono (Kd.R_far (p := ⟨gb152, 4, none⟩) (Kd.R_far (p := ⟨gb152, 3, none⟩) (Kd.R_far (p := ⟨gb152, 2, none⟩) (Kd.R_far (p := ⟨gb152, 1, none⟩) (Kd.R_far (p := ⟨gb152, 0, none⟩) (Kd.R_mono HO_50.out (fun k_ hk => (⟨hk, hk.2⟩ : _ ∧ k_ ≠ gb152))) (fun _ hk => hk.2) (.int .i64 ((rd_T79 t145 x52_3).f0))) (fun _ hk => hk.2) (.int .i64 ((rd_T79 t145 x52_3).f1))) (fun _ hk => hk.2) (.int .i64 ((rd_T79 t145 x52_3).f2))) (fun _ hk => hk.2) (.int .i64 ((rd_T79 t145 x52_3).f3))) (fun _ hk => hk.2) (.int .i64 ((rd_T79 t145 x52_3).f4))) (fun _ hk => ⟨hk.1.1, hk.1.2⟩)⟩
                              have n5_ : Aside0 ((((((w34.setCell ⟨gb152, 0, none⟩ (.int .i64 ((rd_T79 t145 x52_3).f0))).setCell ⟨gb152, 1, none⟩ (.int .i64 ((rd_T79 t145 x52_3).f1))).setCell ⟨gb152, 2, none⟩ (.int .i64 ((rd_T79 t145 x52_3).f2))).setCell ⟨gb152, 3, none⟩ (.int .i64 ((rd_T79 t145 x52_3).f3))).setCell ⟨gb152, 4, none⟩ (.int .i64 ((rd_T79 t145 x52_3).f4))).heap[gb152]? = some (.cells #[.int .i64 ((rd_T79 t145 x52_3).f0), .int .i64 ((rd_T79 t145 x52_3).f1), .int .i64 ((rd_T79 t145 x52_3).f2), .int .i64 ((rd_T79 t145 x52_3).f3), .int .i64 ((rd_T79 t145 x52_3).f4)] 79 (0, 0))) := ⟨by (with_reducible repeat (first | refine blk_drewN ?_ _ | refine blk_drew ?_ | refine blk_alloc ?_ _)); refine blk_put (cs := #[.int .i64 ((rd_T79 t145 x52_3).f0), .int .i64 ((rd_T79 t145 x52_3).f1), .int .i64 ((rd_T79 t145 x52_3).f2), .int .i64 ((rd_T79 t145 x52_3).f3), .int .i64 0]) ?_ 4 _ rfl; (with_reducible repeat (first | refine blk_drewN ?_ _ | refine blk_drew ?_ | refine blk_alloc ?_ _)); refine blk_put (cs := #[.int .i64 ((rd_T79 t145 x52_3).f0), .int .i64 ((rd_T79 t145 x52_3).f1), .int .i64 ((rd_T79 t145 x52_3).f2), .int .i64 0, .int .i64 0]) ?_ 3 _ rfl; (with_reducible repeat (first | refine blk_drewN ?_ _ | refine blk_drew ?_ | refine blk_alloc ?_ _)); refine blk_put (cs := #[.int .i64 ((rd_T79 t145 x52_3).f0), .int .i64 ((rd_T79 t145 x52_3).f1), .int .i64 0, .int .i64 0, .int .i64 0]) ?_ 2 _ rfl; (with_reducible repeat (first | refine blk_drewN ?_ _ | refine blk_drew ?_ | refine blk_alloc ?_ _)); refine blk_put (cs := #[.int .i64 ((rd_T79 t145 x52_3).f0), .int .i64 0, .int .i64 0, .int .i64 0, .int .i64 0]) ?_ 1 _ rfl; (with_reducible repeat (first | refine blk_drewN ?_ _ | refine blk_drew ?_ | refine blk_alloc ?_ _)); refine blk_put (cs := #[.int .i64 0, .int .i64 0, .int .i64 0, .int .i64 0, .int .i64 0]) ?_ 0 _ rfl; (with_reducible repeat (first | refine blk_drewN ?_ _ | refine blk_drew ?_ | refine blk_alloc ?_ _)); exact BK152.out⟩
                              have n6_ : Aside0 (Kept w (((((w34.setCell ⟨gb152, 0, none⟩ (.int .i64 ((rd_T79 t145 x52_3).f0))).setCell ⟨gb152, 1, none⟩ (.int .i64 ((rd_T79 t145 x52_3).f1))).setCell ⟨gb152, 2, none⟩ (.int .i64 ((rd_T79 t145 x52_3).f2))).setCell ⟨gb152, 3, none⟩ (.int .i64 ((rd_T79 t145 x52_3).f3))).setCell ⟨gb152, 4, none⟩ (.int .i64 ((rd_T79 t145 x52_3).f4))) (fun k_ => P3_ k_)) := ⟨by repeat (first | (with_reducible first | exact HK.out | apply Kept.alloc | apply Kept.drewN | apply Kept.drew | refine Kept.setCell ?_ (.inr GW152.out) _) | exact HK.out)⟩
                              have n7_ : Aside0 (Below w0.heap.size w0 (((((w34.setCell ⟨gb152, 0, none⟩ (.int .i64 ((rd_T79 t145 x52_3).f0))).setCell ⟨gb152, 1, none⟩ (.int .i64 ((rd_T79 t145 x52_3).f1))).setCell ⟨gb152, 2, none⟩ (.int .i64 ((rd_T79 t145 x52_3).f2))).setCell ⟨gb152, 3, none⟩ (.int .i64 ((rd_T79 t145 x52_3).f3))).setCell ⟨gb152, 4, none⟩ (.int .i64 ((rd_T79 t145 x52_3).f4)))) := ⟨by repeat (first | (with_reducible first | exact HB.out | apply below_alloc | apply pw_below_drewN | apply below_drew1 | refine below_set ?_ GE152.out) | exact HB.out)⟩
                              (try clear HO_3)
                              (try clear HO_8)
                              (try clear HO_9)
                              (try clear HO_11)
                              (try clear HO_50)
                              (try clear BK152)
                              (try clear HK)
                              (try clear HB)
                              generalize (((((w34.setCell ⟨gb152, 0, none⟩ (.int .i64 ((rd_T79 t145 x52_3).f0))).setCell ⟨gb152, 1, none⟩ (.int .i64 ((rd_T79 t145 x52_3).f1))).setCell ⟨gb152, 2, none⟩ (.int .i64 ((rd_T79 t145 x52_3).f2))).setCell ⟨gb152, 3, none⟩ (.int .i64 ((rd_T79 t145 x52_3).f3))).setCell ⟨gb152, 4, none⟩ (.int .i64 ((rd_T79 t145 x52_3).f4))) = w36 at n0_ n1_ n2_ n3_ n4_ n5_ n6_ n7_ ⊢
                              have HO_3 := n0_
                              have HO_8 := n1_
                              have HO_9 := n2_
                              have HO_11 := n3_
                              have HO_50 := n4_
                              have BK152 := n5_
                              have HK := n6_
                              have HB := n7_
                              clear n0_ n1_ n2_ n3_ n4_ n5_ n6_ n7_
                              have n0_ := Aside0.mk (Kd.R_drew HO_3.out)
                              have n1_ := Aside0.mk (Kd.R_drew HO_8.out)
                              have n2_ := Aside0.mk (Kd.R_drew HO_9.out)
                              have n3_ := Aside0.mk (Kd.R_drew HO_11.out)
                              have n4_ := Aside0.mk (Kd.R_drew HO_50.out)
                              have n5_ := Aside0.mk (blk_drew BK152.out)
                              have n6_ := Aside0.mk (Kept.drew HK.out)
                              have n7_ := Aside0.mk (below_drew1 HB.out)
                              clear HO_3
                              clear HO_8
                              clear HO_9
                              clear HO_11
                              clear HO_50
                              clear BK152
                              clear HK
                              clear HB
                              have HO_3 := n0_
                              have HO_8 := n1_
                              have HO_9 := n2_
                              have HO_11 := n3_
                              have HO_50 := n4_
                              have BK152 := n5_
                              have HK := n6_
                              have HB := n7_
                              clear n0_ n1_ n2_ n3_ n4_ n5_ n6_ n7_
                              refine start_ (n := 10) (S := fun w' => w'.cell? ad138 = some (.int .i64 (rd x11_1 0)) ∧ w'.cell? ⟨gb152, 0, none⟩ = some (.int .i64 ((rd_T79 t145 x52_3).f0)) ∧ w'.cell? ⟨gb152, 1, none⟩ = some (.int .i64 ((rd_T79 t145 x52_3).f1)) ∧ w'.cell? ⟨gb152, 2, none⟩ = some (.int .i64 ((rd_T79 t145 x52_3).f2)) ∧ w'.cell? ⟨gb152, 3, none⟩ = some (.int .i64 ((rd_T79 t145 x52_3).f3)) ∧ w'.cell? ⟨gb152, 4, none⟩ = some (.int .i64 ((rd_T79 t145 x52_3).f4))) (ds := []) #[false, false, false, false, false, false, false, false, false, false] (by kernel_rfl) rfl rfl ⟨(cellJ (by (with_reducible repeat (first | apply Kd.R_alloc | apply Kd.R_drewN | apply Kd.R_drew)); exact HO_11.out) (of_decide_eq_true (by first | (with_reducible assumption) | assumption))), (blk_cell BK152.out 0).trans rfl, (blk_cell BK152.out 1).trans rfl, (blk_cell BK152.out 2).trans rfl, (blk_cell BK152.out 3).trans rfl, (blk_cell BK152.out 4).trans rfl⟩ (fun hHeld => ?_); refine with_tabW raster_rows.tab14 raster_rows.bits14 (fun HT_ HW_ => ?_)
                              generalize w36.drew = w37 at HO_3 HO_8 HO_9 HO_11 HO_50 BK152 HK HB hHeld ⊢
                              refine pure_ (i := 0) (N := some 56) (v := ?_) (a' := ?_) #[true, false, false, false, false, false, false, false, false, false] rfl rfl (any_of HT_.out (by kernel_rfl)) (fun _ _ _ h => h) (Or.inl ⟨by rfl, ?_⟩) ?_ ?_
                              rotate_left
                              · intro w'
                                go_simp
                                with_reducible rfl
                              rotate_left
                              · simp only [Act.put, List.setIfInBounds_toArray, List.set_cons_zero, List.set_cons_succ, i64_w, i32_w]
                                rfl
                              refine pure_ (i := 4) (N := some 60) (v := ?_) (a' := ?_) #[true, false, false, false, true, false, false, false, false, false] rfl rfl (any_of HT_.out (by kernel_rfl)) (fun _ _ _ h => h) (Or.inl ⟨by rfl, ?_⟩) ?_ ?_
                              rotate_left
                              · intro w'
                                go_simp
                                with_reducible rfl
                              rotate_left
                              · simp only [Act.put, List.setIfInBounds_toArray, List.set_cons_zero, List.set_cons_succ, i64_w, i32_w]
                                rfl
                              refine take_ (i := 1) (N := some 57) (v := ?_) (a' := ?_) #[true, true, false, false, true, false, false, false, false, false] rfl rfl (take_ofW HT_.out HW_.out (by kernel_rfl)) (fun _ _ _ h => h) (Or.inl ⟨by rfl, ?_⟩) hHeld ?_ ?_
                              rotate_left
                              · rintro w' ⟨sj, s0, s1, s2, s3, s4⟩
                                go_simp
                                with_reducible rfl
                              rotate_left
                              · simp only [Act.put, List.setIfInBounds_toArray, List.set_cons_zero, List.set_cons_succ, i64_w, i32_w]
                                rfl
                              refine take_ (i := 2) (N := some 58) (v := ?_) (a' := ?_) #[true, true, true, false, true, false, false, false, false, false] rfl rfl (take_ofW HT_.out HW_.out (by kernel_rfl)) (fun _ _ _ h => h) (Or.inl ⟨by rfl, ?_⟩) hHeld ?_ ?_
                              rotate_left
                              · rintro w' ⟨sj, s0, s1, s2, s3, s4⟩
                                go_simp
                                with_reducible rfl
                              rotate_left
                              · simp only [Act.put, List.setIfInBounds_toArray, List.set_cons_zero, List.set_cons_succ, i64_w, i32_w]
                                rfl
                              refine take_ (i := 5) (N := some 61) (v := ?_) (a' := ?_) #[true, true, true, false, true, true, false, false, false, false] rfl rfl (take_ofW HT_.out HW_.out (by kernel_rfl)) (fun _ _ _ h => h) (Or.inl ⟨by rfl, ?_⟩) hHeld ?_ ?_
                              rotate_left
                              · rintro w' ⟨sj, s0, s1, s2, s3, s4⟩
                                go_simp
                                with_reducible rfl
                              rotate_left
                              · simp only [Act.put, List.setIfInBounds_toArray, List.set_cons_zero, List.set_cons_succ, i64_w, i32_w]
                                rfl
                              refine one_ (i := 3) (N := some 59) #[true, true, true, true, true, true, false, false, false, false] rfl rfl (one_of HT_.out (by kernel_rfl)) (by decide) (fun K hK => ?_)
                              refine goes_ Try.func43 (by kernel_rfl) rfl #[.agg #[.int .i64 ((rd_T79 t145 x52_3).f0), .int .i64 ((rd_T79 t145 x52_3).f1), .int .i64 ((rd_T79 t145 x52_3).f2), .int .i64 ((rd_T79 t145 x52_3).f3), .int .i64 ((rd_T79 t145 x52_3).f4)], .int .i64 (rd x11_1 0)] (by rfl) rfl rfl (by (try simp only [List.map_toArray, List.map_cons, List.map_nil]); first | done | rfl | (simp only [List.length_drop, List.length_take]; rfl)) ?_
                              with_reducible refine (raster_edge_first.calls ((rd_T79 t145 x52_3).f0) ((rd_T79 t145 x52_3).f1) ((rd_T79 t145 x52_3).f2) ((rd_T79 t145 x52_3).f3) ((rd_T79 t145 x52_3).f4) (rd x11_1 0) t154 _ A32.out).mono ?_
                              rintro e w38 ⟨rfl, hb⟩
                              refine ⟨_, rfl, ?_⟩
                              have n0_ := Aside0.mk (Kd.R_below (by (with_reducible repeat (first | apply Kd.R_alloc | apply Kd.R_drewN | apply Kd.R_drew)); exact HO_3.out) hb)
                              have n1_ := Aside0.mk (Kd.R_below (by (with_reducible repeat (first | apply Kd.R_alloc | apply Kd.R_drewN | apply Kd.R_drew)); exact HO_8.out) hb)
                              have n2_ := Aside0.mk (Kd.R_below (by (with_reducible repeat (first | apply Kd.R_alloc | apply Kd.R_drewN | apply Kd.R_drew)); exact HO_9.out) hb)
                              have n3_ := Aside0.mk (Kd.R_below (by (with_reducible repeat (first | apply Kd.R_alloc | apply Kd.R_drewN | apply Kd.R_drew)); exact HO_11.out) hb)
                              have n4_ := Aside0.mk (Kd.R_below (by (with_reducible repeat (first | apply Kd.R_alloc | apply Kd.R_drewN | apply Kd.R_drew)); exact HO_50.out) hb)
                              have n5_ := Aside0.mk (blk_below (g := gb152) (o := .cells #[.int .i64 ((rd_T79 t145 x52_3).f0), .int .i64 ((rd_T79 t145 x52_3).f1), .int .i64 ((rd_T79 t145 x52_3).f2), .int .i64 ((rd_T79 t145 x52_3).f3), .int .i64 ((rd_T79 t145 x52_3).f4)] 79 (0, 0)) (by (with_reducible repeat (first | refine blk_drewN ?_ _ | refine blk_drew ?_ | refine blk_alloc ?_ _)); exact BK152.out) hb)
                              have n6_ := Aside0.mk (Kept.below (S := (fun k_ => P3_ k_)) (by repeat (first | (with_reducible first | exact HK.out | apply Kept.alloc | apply Kept.drewN | apply Kept.drew | refine Kept.setCell ?_ (.inr GW152.out) _) | exact HK.out)) hb)
                              have n7_ := Aside0.mk (below_step (by repeat (first | (with_reducible first | exact HB.out | apply below_alloc | apply pw_below_drewN | apply below_drew1 | refine below_set ?_ GE152.out) | exact HB.out)) hb)
                              clear HO_3
                              clear HO_8
                              clear HO_9
                              clear HO_11
                              clear HO_50
                              clear BK152
                              clear HK
                              clear HB
                              have HO_3 := n0_
                              have HO_8 := n1_
                              have HO_9 := n2_
                              have HO_11 := n3_
                              have HO_50 := n4_
                              have BK152 := n5_
                              have HK := n6_
                              have HB := n7_
                              clear n0_ n1_ n2_ n3_ n4_ n5_ n6_ n7_
                              (try clear hb)
                              (try clear hb2)
                              (try clear hk)
                              (try clear hi)
                              refine hK.out _ _ ⟨(cellJ (by (with_reducible repeat (first | apply Kd.R_alloc | apply Kd.R_drewN | apply Kd.R_drew)); exact HO_11.out) (of_decide_eq_true (by first | (with_reducible assumption) | assumption))), (blk_cell BK152.out 0).trans rfl, (blk_cell BK152.out 1).trans rfl, (blk_cell BK152.out 2).trans rfl, (blk_cell BK152.out 3).trans rfl, (blk_cell BK152.out 4).trans rfl⟩ (fun hHeld => ?_)
                              clear hK K
                              refine norm_ (a' := ?_) ?_ ?_
                              rotate_left
                              · show Act.put _ (some 59) _ = _
                                simp only [Act.put, List.setIfInBounds_toArray, List.set_cons_zero, List.set_cons_succ, i64_w, i32_w]
                                rfl
                              refine pure_ (i := 6) (N := some 62) (v := ?_) (a' := ?_) #[true, true, true, true, true, true, true, false, false, false] rfl rfl (any_of HT_.out (by kernel_rfl)) (fun _ _ _ h => h) (Or.inl ⟨by rfl, ?_⟩) ?_ ?_
                              rotate_left
                              · intro w'
                                go_simp
                                with_reducible rfl
                              rotate_left
                              · simp only [Act.put, List.setIfInBounds_toArray, List.set_cons_zero, List.set_cons_succ, i64_w, i32_w]
                                rfl
                              refine one_ (i := 7) (N := some 63) #[true, true, true, true, true, true, true, true, false, false] rfl rfl (one_of HT_.out (by kernel_rfl)) (by decide) (fun K hK => ?_)
                              refine value_ (w1 := ?_) (v := ?_) (by rfl) rfl ?_ ?_
                              rotate_left 2
                              · go_simp
                                constructor
                                · rfl
                                · rfl
                              refine hK.out _ _ ⟨(cellJ (by (with_reducible repeat (first | apply Kd.R_alloc | apply Kd.R_drewN | apply Kd.R_drew)); exact HO_11.out) (of_decide_eq_true (by first | (with_reducible assumption) | assumption))), (blk_cell (blk_alloc BK152.out _) 0).trans rfl, (blk_cell (blk_alloc BK152.out _) 1).trans rfl, (blk_cell (blk_alloc BK152.out _) 2).trans rfl, (blk_cell (blk_alloc BK152.out _) 3).trans rfl, (blk_cell (blk_alloc BK152.out _) 4).trans rfl⟩ (fun hHeld => ?_)
                              clear hK K
                              refine norm_ (a' := ?_) ?_ ?_
                              rotate_left
                              · show Act.put _ (some 63) _ = _
                                simp only [Act.put, List.setIfInBounds_toArray, List.set_cons_zero, List.set_cons_succ, i64_w, i32_w]
                                rfl
                              refine one_ (i := 8) (N := some 64) #[true, true, true, true, true, true, true, true, true, false] rfl rfl (one_of HT_.out (by kernel_rfl)) (by decide) (fun K hK => ?_)
                              refine Kd.R_append_step k83 (w0 := w0) w0.heap.size (by rfl) (.tmp 56) (.tmp 63) 77 83 (.agg #[(.int .i64 0), (.int .i64 0)]) 16 rfl Try.underlying77 info83 rfl (by decide) (by omega) u9 x9_3 (⟨t154, (rd_T79 t145 x52_3).f4⟩ : S83) [.int .i64 t154, .int .i64 ((rd_T79 t145 x52_3).f4)] (fun k_ => (P3_ k_ ∨ w.heap.size ≤ k_)) (fun _ => False) rfl rfl ?aP (fun _ hk => hk.elim) ?aF ?aO ?aB ?aS ?aL ?_
                              (case aP => exact k83_mkM _ _ _ (⟨t154, (rd_T79 t145 x52_3).f4⟩ : S83))
                              (case aB => exact (by repeat (first | (with_reducible first | exact HB.out | apply below_alloc | apply pw_below_drewN | apply below_drew1 | refine below_set ?_ GE152.out) | exact HB.out)))
                              (case aF => exact (fun k_ hk => (.inr (Nat.le_trans (by first | exact HK.out.1 | exact (show Kept w _ (fun k_ => P3_ k_) from by repeat (first | (with_reducible first | exact HK.out | apply Kept.alloc | apply Kept.drewN | apply Kept.drew | refine Kept.setCell ?_ (.inr GW152.out) _) | exact HK.out)).1) hk))))
                              (case aO => exact (by (with_reducible repeat (first | apply Kd.R_alloc | apply Kd.R_drewN | apply Kd.R_drew)); exact HO_9.out))
                              (case aS => exact (below_size (by repeat (first | (with_reducible first | exact HB.out | apply below_alloc | apply pw_below_drewN | apply below_drew1 | refine below_set ?_ GE152.out) | exact HB.out))))
                              (case aL => have := LMc33.out; omega)
                              intro v156 w39 ho hb hg hat
                              rw [← Ny155.out] at ho
                              have n0_ := Aside0.mk (Kd.R_over' (by (with_reducible repeat (first | apply Kd.R_alloc | apply Kd.R_drewN | apply Kd.R_drew)); exact HO_3.out) (Kd.R_typed (by (with_reducible repeat (first | apply Kd.R_alloc | apply Kd.R_drewN | apply Kd.R_drew)); exact HO_9.out)) (by decide) hg)
                              have n1_ := Aside0.mk (Kd.R_over' (by (with_reducible repeat (first | apply Kd.R_alloc | apply Kd.R_drewN | apply Kd.R_drew)); exact HO_8.out) (Kd.R_typed (by (with_reducible repeat (first | apply Kd.R_alloc | apply Kd.R_drewN | apply Kd.R_drew)); exact HO_9.out)) (by decide) hg)
                              have n2_ := Aside0.mk (Kd.R_over' (by (with_reducible repeat (first | apply Kd.R_alloc | apply Kd.R_drewN | apply Kd.R_drew)); exact HO_11.out) (Kd.R_typed (by (with_reducible repeat (first | apply Kd.R_alloc | apply Kd.R_drewN | apply Kd.R_drew)); exact HO_9.out)) (by decide) hg)
                              have n3_ := Aside0.mk (Kd.R_over' (by (with_reducible repeat (first | apply Kd.R_alloc | apply Kd.R_drewN | apply Kd.R_drew)); exact HO_50.out) (Kd.R_typed (by (with_reducible repeat (first | apply Kd.R_alloc | apply Kd.R_drewN | apply Kd.R_drew)); exact HO_9.out)) (by decide) hg)
                              have n4_ := Aside0.mk (blk_grown (g := gb152) (o := .cells #[.int .i64 ((rd_T79 t145 x52_3).f0), .int .i64 ((rd_T79 t145 x52_3).f1), .int .i64 ((rd_T79 t145 x52_3).f2), .int .i64 ((rd_T79 t145 x52_3).f3), .int .i64 ((rd_T79 t145 x52_3).f4)] 79 (0, 0)) (by (with_reducible repeat (first | refine blk_drewN ?_ _ | refine blk_drew ?_ | refine blk_alloc ?_ _)); exact BK152.out) hg (Kd.R_ne HO_9.out BK152.out (by decide)))
                              have n5_ := Aside0.mk (hb)
                              have n6_ := Aside0.mk (Kept.of_grown (S := (fun k_ => P3_ k_)) hg (by repeat (first | (with_reducible first | exact HK.out | apply Kept.alloc | apply Kept.drewN | apply Kept.drew | refine Kept.setCell ?_ (.inr GW152.out) _) | exact HK.out)) (fun k_ e_ => (HO_9.out.1 k_ e_)))
                              have n7_ := Aside0.mk (ho)
                              clear HO_3
                              clear HO_8
                              clear HO_11
                              clear HO_50
                              clear BK152
                              clear HB
                              clear HK
                              clear HO_9
                              have HO_3 := n0_
                              have HO_8 := n1_
                              have HO_11 := n2_
                              have HO_50 := n3_
                              have BK152 := n4_
                              have HB := n5_
                              have HK := n6_
                              have HO157 := n7_
                              clear n0_ n1_ n2_ n3_ n4_ n5_ n6_ n7_
                              clear ho hb hg hat
                              refine hK.out _ _ ⟨(cellJ (by (with_reducible repeat (first | apply Kd.R_alloc | apply Kd.R_drewN | apply Kd.R_drew)); exact HO_11.out) (of_decide_eq_true (by first | (with_reducible assumption) | assumption))), (blk_cell BK152.out 0).trans rfl, (blk_cell BK152.out 1).trans rfl, (blk_cell BK152.out 2).trans rfl, (blk_cell BK152.out 3).trans rfl, (blk_cell BK152.out 4).trans rfl⟩ (fun hHeld => ?_)
                              clear hK K
                              refine norm_ (a' := ?_) ?_ ?_
                              rotate_left
                              · show Act.put _ (some 64) _ = _
                                simp only [Act.put, List.setIfInBounds_toArray, List.set_cons_zero, List.set_cons_succ, i64_w, i32_w]
                                rfl
                              refine pure_ (i := 9) (N := some 9) (v := ?_) (a' := ?_) #[true, true, true, true, true, true, true, true, true, true] rfl rfl (any_of HT_.out (by kernel_rfl)) (fun _ _ _ h => h) (Or.inl ⟨by rfl, ?_⟩) ?_ ?_
                              rotate_left
                              · intro w'
                                go_simp
                                with_reducible rfl
                              rotate_left
                              · simp only [Act.put, List.setIfInBounds_toArray, List.set_cons_zero, List.set_cons_succ, i64_w, i32_w]
                                rfl
                              refine done_ (done_of HT_.out (by kernel_rfl)) ?_
                              try go_wp2
                              go_roundg k3
                              case measure => have := HK1.out; have := HJ9.out; have := HK3.out; omega
                              case rel => exact ⟨(y155), (wrap64 (x52_3 + 1)), (by first | rfl | (simp; done) | (simp [*]; done)), H', ⟨by have := HK1.out; have := HJ9.out; have := HK3.out; omega⟩, ⟨by (with_reducible repeat (first | apply Kd.R_alloc | apply Kd.R_drewN | apply Kd.R_drew)); exact HO_3.out⟩, ⟨by (with_reducible repeat (first | apply Kd.R_alloc | apply Kd.R_drewN | apply Kd.R_drew)); exact Kd.R_mono HO_8.out (fun _ hk => hk.1)⟩, ⟨by (with_reducible repeat (first | apply Kd.R_alloc | apply Kd.R_drewN | apply Kd.R_drew)); exact HO157.out⟩, ⟨by (with_reducible repeat (first | apply Kd.R_alloc | apply Kd.R_drewN | apply Kd.R_drew)); exact HO_11.out⟩, ⟨by (with_reducible repeat (first | apply Kd.R_alloc | apply Kd.R_drewN | apply Kd.R_drew)); exact Kd.R_mono HO_50.out (fun _ hk => hk.1)⟩, ⟨by repeat (first | (with_reducible first | exact HK.out | apply Kept.alloc | apply Kept.drewN | apply Kept.drew | refine Kept.setCell ?_ (.inr GW152.out) _) | exact HK.out)⟩, ⟨by repeat (first | (with_reducible first | exact HB.out | apply below_alloc | apply pw_below_drewN | apply below_drew1 | refine below_set ?_ GE152.out) | exact HB.out)⟩⟩
                            · rw [if_neg c33] at H
                              exact absurd H (by simp)
                          · rw [if_neg c31] at H
                            exact absurd H (by simp)
                        · rw [if_neg c30] at H
                          exact absurd H (by simp)
                      · rw [if_neg c29] at H
                        exact absurd H (by simp)
                    · rw [if_neg c28] at H
                      have c28b0 : decide (x52_3 < (t145.length : Int)) = false := decide_eq_false c28
                      clear c28
                      replace H := Option.bind_eq_some_iff.mp H
                      obtain ⟨t158, A400, H⟩ := H
                      replace H : (raster_rows.l3 k3 l0 a2 x3_1 l4 t145 t158 x10_9 x11_1 0 t158 (x9_3.length : Int) 0) = some r := H
                      have A40 := Aside0.mk A400
                      clear A400
                      have H' := Aside0.mk H
                      clear H
                      obtain ⟨Ao41, co41, eo41⟩ := Kd.R_slice HO_9.out
                      subst eo41
                      go_wp2_with (first | ((with_reducible refine gate_callee (f := 44) rfl ?_); refine goesL_ (some 67) rfl rfl Try.func44 (by kernel_rfl) rfl #[.slice Ao41 x9_3.length co41, .func (.func 45) #[] #[]] rfl (by (try simp only [List.map_toArray, List.map_cons, List.map_nil]); first | done | rfl | (simp only [List.length_drop, List.length_take]; rfl)) ?_; (with_reducible refine (raster_crossing_44.calls k3 (fun k_ => some k_ = (.slice Ao41 x9_3.length co41 : Value).ownBlock) (.slice Ao41 x9_3.length co41) x9_3 t158 w0 _ ?side1 ?side2 A40.out).mono ?_); (case side1 => repeat (first | (with_reducible first | exact HB.out | apply below_alloc | apply pw_below_drewN | apply below_drew1) | exact HB.out)); (case side2 => exact Kd.R_tight rfl HO_9.out); rintro e w42 ⟨rfl, hy0, hb, hkp⟩; refine ⟨_, rfl, ?_⟩; have n0_ := Aside0.mk (Kd.R_mono (ok' := fun k_ => (P3_ k_ ∨ w.heap.size ≤ k_) ∧ some k_ ≠ (.slice (some ad138) x11_1.length co11 : Value).ownBlock) (Kd.R_keptB ((Kd.R_apart' HO_3.out (Kd.R_typed HO_9.out) (by decide))) hkp (fun k_ hk_ hs_ => (hk_.2) hs_)) (fun k_ hk_ => ⟨hk_.1.1.1, hk_.1.1.2⟩)); have n1_ := Aside0.mk (Kd.R_mono (ok' := fun k_ => (P3_ k_ ∨ w.heap.size ≤ k_)) (Kd.R_keptB ((Kd.R_apart' HO_8.out (Kd.R_typed HO_9.out) (by decide))) hkp (fun k_ hk_ hs_ => (hk_.2) hs_)) (fun k_ hk_ => hk_.1.1)); have n2_ := Aside0.mk (Kd.R_reok rfl hy0 (fun k_ e_ => HO_9.out.1 k_ e_)); have n3_ := Aside0.mk (Kd.R_mono (ok' := fun k_ => (P3_ k_ ∨ w.heap.size ≤ k_) ∧ some k_ ≠ (u9000_ : Value).ownBlock) (Kd.R_keptB ((Kd.R_apart' HO_11.out (Kd.R_typed HO_9.out) (by decide))) hkp (fun k_ hk_ hs_ => (hk_.2) hs_)) (fun k_ hk_ => ⟨hk_.1.1.1, hk_.1.1.2⟩)); have n4_ := Aside0.mk (Kd.R_mono (ok' := fun k_ => (P3_ k_ ∨ w.heap.size ≤ k_)) (Kd.R_keptB ((Kd.R_apart' HO_50.out (Kd.R_typed HO_9.out) (by decide))) hkp (fun k_ hk_ hs_ => (hk_.2) hs_)) (fun k_ hk_ => hk_.1.1)); have n5_ := Aside0.mk (Kept.then_ (S := (fun k_ => P3_ k_)) (by repeat (first | (with_reducible first | exact HK.out | apply Kept.alloc | apply Kept.drewN | apply Kept.drew) | exact HK.out)) hkp (fun k_ hs_ => (fun e_ => (HO_9.out.1 k_ e_.symm)) hs_)); have n6_ := Aside0.mk (hb); clear HO_3; clear HO_8; clear HO_9; clear HO_11; clear HO_50; clear HK; clear HB; have HO_3 := n0_; have HO_8 := n1_; have HO_9 := n2_; have HO_11 := n3_; have HO_50 := n4_; have HK := n5_; have HB := n6_; clear n0_ n1_ n2_ n3_ n4_ n5_ n6_; (try clear hb); (try clear hkp); (try clear hy0)))
                      go_loopg [14, 70] k3 (fun kq v14 v70 w' => ∃ (x3_4 : List Int) (x11_4 : List Int) (x14_4 : Int) (x70_4 : Int), v14 = .int .i64 x14_4 ∧ v70 = .int .i64 x70_4 ∧ Aside0 (raster_rows.l3 kq l0 a2 x3_4 l4 t145 t158 x10_9 x11_4 x14_4 t158 (x9_3.length : Int) x70_4 = some r) ∧ Aside0 (kq ≤ k3) ∧ Aside0 (Kd.R (Kd.int .i64) 3 w' w0.heap.size (fun k_ => (P3_ k_ ∨ w.heap.size ≤ k_) ∧ some k_ ≠ ((.slice (some ad138) x11_1.length co11) : Value).ownBlock) u9000_ x3_4) ∧ Aside0 (Kd.R k79 79 w' w0.heap.size (fun k_ => (P3_ k_ ∨ w.heap.size ≤ k_)) (.slice Ao27 t145.length co27) t145) ∧ Aside0 (Kd.R k83 83 w' w0.heap.size (fun k_ => (P3_ k_ ∨ w.heap.size ≤ k_)) (.slice Ao41 x9_3.length co41) t158) ∧ Aside0 (Kd.R (Kd.int .i64) 3 w' w0.heap.size (fun k_ => (P3_ k_ ∨ w.heap.size ≤ k_) ∧ some k_ ≠ (u9000_ : Value).ownBlock) (.slice (some ad138) x11_1.length co11) x11_4) ∧ Aside0 (Kd.R k83 83 w' w0.heap.size (fun k_ => (P3_ k_ ∨ w.heap.size ≤ k_)) (.slice Ao41 x9_3.length co41) t158) ∧ Aside0 (Kept w w' (fun k_ => P3_ k_)) ∧ Aside0 (Below w0.heap.size w0 w'))
                      case atStart => exact ⟨(x3_1), (x11_1), (0), (0), (by first | rfl | (simp; done) | (simp [*]; done)), (by first | rfl | (simp; done) | (simp [*]; done)), H', ⟨Nat.le_refl _⟩, ⟨by (with_reducible repeat (first | apply Kd.R_alloc | apply Kd.R_drewN | apply Kd.R_drew)); exact HO_3.out⟩, ⟨by (with_reducible repeat (first | apply Kd.R_alloc | apply Kd.R_drewN | apply Kd.R_drew)); exact HO_8.out⟩, ⟨by (with_reducible repeat (first | apply Kd.R_alloc | apply Kd.R_drewN | apply Kd.R_drew)); exact HO_9.out⟩, ⟨by (with_reducible repeat (first | apply Kd.R_alloc | apply Kd.R_drewN | apply Kd.R_drew)); exact HO_11.out⟩, ⟨by (with_reducible repeat (first | apply Kd.R_alloc | apply Kd.R_drewN | apply Kd.R_drew)); exact HO_9.out⟩, ⟨by repeat (first | (with_reducible first | exact HK.out | apply Kept.alloc | apply Kept.drewN | apply Kept.drew) | exact HK.out)⟩, ⟨by repeat (first | (with_reducible first | exact HB.out | apply below_alloc | apply pw_below_drewN | apply below_drew1) | exact HB.out)⟩⟩
                      case round =>
                        clear H'
                        try clear c1
                        try clear p1
                        try clear q1
                        try clear hx1
                        try clear qi1
                        try clear c2
                        try clear p2
                        try clear q2
                        try clear c3
                        try clear c4
                        try clear p6
                        try clear c8
                        try clear c8b0
                        try clear c8b1
                        try clear c9
                        try clear c9b0
                        try clear c12
                        try clear c12b0
                        try clear c12b1
                        try clear c13
                        try clear c13b0
                        try clear p13
                        try clear q13
                        try clear hx13
                        try clear qi13
                        try clear c14
                        try clear c14b0
                        try clear p14
                        try clear q14
                        try clear hx14
                        try clear c15
                        try clear c15b0
                        try clear p15
                        try clear q15
                        try clear hx15
                        try clear qi15
                        try clear c16
                        try clear c22
                        try clear c22b0
                        try clear c22b1
                        try clear q26
                        try clear c28
                        try clear c28b0
                        try clear c29
                        try clear c29b0
                        try clear c30
                        try clear c30b0
                        try clear c31
                        try clear c31b0
                        try clear c31b1
                        try clear c33
                        try clear c41
                        try clear hcz35_0
                        try clear hcz35_1
                        try clear hcz35_2
                        try clear hcz35_3
                        try clear hcz35_4
                        try clear hfz35_0
                        try clear hfz35_1
                        try clear hfz35_2
                        try clear hfz35_3
                        try clear hfz35_4
                        try clear hx138_0
                        try clear hx139_0
                        try clear hx140_0
                        try clear hx140_1
                        try clear hx140_2
                        try clear hx140_3
                        try clear hx140_4
                        try clear hx141_0
                        try clear hx141_1
                        try clear hx141_2
                        try clear hx141_3
                        try clear hx141_4
                        try clear hx151_0
                        try clear hx151_1
                        try clear hx151_2
                        try clear hx151_3
                        try clear hx151_4
                        try clear hx153_0
                        try clear p1
                        try clear p13
                        try clear p138
                        try clear p139
                        try clear p14
                        try clear p140
                        try clear p141
                        try clear p151
                        try clear p153
                        try clear p2
                        try clear p6
                        try clear q1
                        try clear q13
                        try clear q138
                        try clear q139
                        try clear q14
                        try clear q140
                        try clear q141
                        try clear q151
                        try clear q153
                        try clear q2
                        try clear q26
                        obtain ⟨x3_4, x11_4, x14_4, x70_4, rfl, rfl, HA, HK4, HO_3, HO_8, HO_9, HO_11, HO_68, HK, HB⟩ := hrel
                        have hl9_4 := (Kd.R_reads' HO_9.out).1
                        rw [hl9_4] at HO_9
                        (try simp only [hl9_4])
                        (try simp only [hl9_4] at HO_3)
                        (try simp only [hl9_4] at HO_8)
                        (try simp only [hl9_4] at HO_11)
                        (try simp only [hl9_4] at HO_68)
                        have hl11_4 := (Kd.R_reads' HO_11.out).1
                        rw [hl11_4] at HO_11
                        (try simp only [hl11_4])
                        (try simp only [hl11_4] at HO_3)
                        (try simp only [hl11_4] at HO_8)
                        (try simp only [hl11_4] at HO_9)
                        (try simp only [hl11_4] at HO_68)
                        have hl68_4 := (Kd.R_reads' HO_68.out).1
                        rw [hl68_4] at HO_68
                        (try simp only [hl68_4])
                        (try simp only [hl68_4] at HO_3)
                        (try simp only [hl68_4] at HO_8)
                        (try simp only [hl68_4] at HO_9)
                        (try simp only [hl68_4] at HO_11)
                        cases gk with
                        | zero => exact absurd HA.out (by simp [raster_rows.l3])
                        | succ k4 =>
                          have H := HA.out
                          clear HA
                          simp only [raster_rows.l3] at H
                          by_cases c43 : x70_4 < (x9_3.length : Int)
                          · rw [if_pos c43] at H
                            have c43b0 : decide (x70_4 < (x9_3.length : Int)) = true := decide_eq_true c43
                            clear c43
                            by_cases c44 : 0 ≤ x70_4
                            · rw [if_pos c44] at H
                              have c44b0 : decide (0 ≤ x70_4) = true := decide_eq_true c44
                              clear c44
                              by_cases c45 : x70_4 < (t158.length : Int)
                              · rw [if_pos c45] at H
                                have c45b0 : decide (x70_4 < (t158.length : Int)) = true := decide_eq_true c45
                                clear c45
                                by_cases c46 : (wrap64 (x14_4 + ((rd_T83 t158 x70_4).f1))) = 0
                                · rw [if_pos c46] at H
                                  have c46b0 : ((wrap64 (x14_4 + ((rd_T83 t158 x70_4).f1))) == 0) = true := beq_iff_eq.mpr c46
                                  have c46b1 : ((wrap64 (x14_4 + ((rd_T83 t158 x70_4).f1))) != 0) = false := bne_eq_false_iff_eq.mpr c46
                                  clear c46
                                  have H' := Aside0.mk H
                                  clear H
                                  have p159 : 0 ≤ (x70_4 : Int) := of_decide_eq_true (by first | (with_reducible assumption) | assumption)
                                  have q159 : x70_4 < (t158.length : Int) := of_decide_eq_true (by first | (with_reducible assumption) | assumption)
                                  obtain ⟨ad159, e159, hx159_0, hx159_1⟩ := at_T83 (Kd.R_reads' HO_68.out).2.2 x70_4 p159 q159
                                  cases e159
                                  replace p159 := eq_true p159
                                  replace q159 := eq_true q159
                                  go_wp2_with (first | ((with_reducible refine gate_dst (N := 16) rfl ?_); refine box_event ?hg (N := 16) ?hd (cs := #[.int .i64 0, .int .i64 0]) (t := 83) ?hr ?_; (case hd => rfl); (case hg => rfl); (case hr => first | (go_simp; done) | (go_simp; rfl)); intro gb160 hg w47 hbox hb; have n0_ := Aside0.mk (Kd.R_below (by (with_reducible repeat (first | apply Kd.R_alloc | apply Kd.R_drewN | apply Kd.R_drew)); exact HO_3.out) hb); have n1_ := Aside0.mk (Kd.R_below (by (with_reducible repeat (first | apply Kd.R_alloc | apply Kd.R_drewN | apply Kd.R_drew)); exact HO_8.out) hb); have n2_ := Aside0.mk (Kd.R_below (Kd.R_elderB (by (with_reducible repeat (first | apply Kd.R_alloc | apply Kd.R_drewN | apply Kd.R_drew)); exact HO_9.out) gb160 (Nat.le_of_eq hg.symm)) hb); have n3_ := Aside0.mk (Kd.R_below (by (with_reducible repeat (first | apply Kd.R_alloc | apply Kd.R_drewN | apply Kd.R_drew)); exact HO_11.out) hb); have n4_ := Aside0.mk (Kd.R_below (Kd.R_elderB (by (with_reducible repeat (first | apply Kd.R_alloc | apply Kd.R_drewN | apply Kd.R_drew)); exact HO_68.out) gb160 (Nat.le_of_eq hg.symm)) hb); have n5_ := Aside0.mk (Kept.below (S := (fun k_ => P3_ k_)) (by repeat (first | (with_reducible first | exact HK.out | apply Kept.alloc | apply Kept.drewN | apply Kept.drew) | exact HK.out)) hb); have n6_ := Aside0.mk (below_step (by repeat (first | (with_reducible first | exact HB.out | apply below_alloc | apply pw_below_drewN | apply below_drew1) | exact HB.out)) hb); have n7_ := Aside0.mk (hbox); have n8_ := Aside0.mk ((by rw [hg]; exact (by first | exact HK.out.1 | exact (show Kept w _ (fun k_ => P3_ k_) from by repeat (first | (with_reducible first | exact HK.out | apply Kept.alloc | apply Kept.drewN | apply Kept.drew) | exact HK.out)).1) : w.heap.size ≤ gb160)); have n9_ := Aside0.mk ((by rw [hg]; exact (below_size (by repeat (first | (with_reducible first | exact HB.out | apply below_alloc | apply pw_below_drewN | apply below_drew1) | exact HB.out))) : w0.heap.size ≤ gb160)); clear HO_3; clear HO_8; clear HO_9; clear HO_11; clear HO_68; clear HK; clear HB; have HO_3 := n0_; have HO_8 := n1_; have HO_9 := n2_; have HO_11 := n3_; have HO_68 := n4_; have HK := n5_; have HB := n6_; have BK160 := n7_; have GW160 := n8_; have GE160 := n9_; clear n0_ n1_ n2_ n3_ n4_ n5_ n6_ n7_ n8_ n9_; clear hb hbox hg; have hcz48_0 : w47.cell? ⟨gb160, 0, none⟩ = some (.int .i64 0) := (blk_cell BK160.out 0).trans rfl; have hcz48_1 : w47.cell? ⟨gb160, 1, none⟩ = some (.int .i64 0) := (blk_cell BK160.out 1).trans rfl; have hfz48_0 := blk_frozen BK160.out 0; have hfz48_1 := blk_frozen BK160.out 1))
                                  (try simp only [← hl9_4]); (try simp only [← hl11_4]); (try simp only [← hl68_4])
                                  go_roundg k4
                                  case measure => have := HK1.out; have := HJ9.out; have := HK3.out; have := HK4.out; omega
                                  case rel => exact ⟨(x3_4), (x11_4), (wrap64 (x14_4 + ((rd_T83 t158 x70_4).f1))), (wrap64 (x70_4 + 1)), (by first | rfl | (simp; done) | (simp [*]; done)), (by first | rfl | (simp; done) | (simp [*]; done)), H', ⟨by have := HK1.out; have := HJ9.out; have := HK3.out; have := HK4.out; omega⟩, ⟨by (try simp only [hl9_4]); (try simp only [hl11_4]); (try simp only [hl68_4]); (with_reducible repeat (first | apply Kd.R_alloc | apply Kd.R_drewN | apply Kd.R_drew)); exact Kd.R_mono (Kd.R_far (p := ⟨gb160, 1, none⟩) (Kd.R_far (p := ⟨gb160, 0, none⟩) (Kd.R_types HO_3.out BK160.out (by decide)) (fun _ hk => hk.2) (.int .i64 ((rd_T83 t158 x70_4).f0))) (fun _ hk => hk.2) (.int .i64 ((rd_T83 t158 x70_4).f1))) (fun _ hk => ⟨hk.1.1, hk.1.2⟩)⟩, ⟨by (try simp only [hl9_4]); (try simp only [hl11_4]); (try simp only [hl68_4]); (with_reducible repeat (first | apply Kd.R_alloc | apply Kd.R_drewN | apply Kd.R_drew)); exact Kd.R_mono (Kd.R_far (p := ⟨gb160, 1, none⟩) (Kd.R_far (p := ⟨gb160, 0, none⟩) (Kd.R_types HO_8.out BK160.out (by decide)) (fun _ hk => hk.2) (.int .i64 ((rd_T83 t158 x70_4).f0))) (fun _ hk => hk.2) (.int .i64 ((rd_T83 t158 x70_4).f1))) (fun _ hk => hk.1)⟩, ⟨by (try simp only [hl9_4]); (try simp only [hl11_4]); (try simp only [hl68_4]); (with_reducible repeat (first | apply Kd.R_alloc | apply Kd.R_drewN | apply Kd.R_drew)); exact Kd.R_mono (Kd.R_far (p := ⟨gb160, 1, none⟩) (Kd.R_far (p := ⟨gb160, 0, none⟩) (Kd.R_mono HO_9.out (fun k_ hk => (⟨hk, hk.2⟩ : _ ∧ k_ ≠ gb160))) (fun _ hk => hk.2) (.int .i64 ((rd_T83 t158 x70_4).f0))) (fun _ hk => hk.2) (.int .i64 ((rd_T83 t158 x70_4).f1))) (fun _ hk => hk.1.1)⟩, ⟨by (try simp only [hl9_4]); (try simp only [hl11_4]); (try simp only [hl68_4]); (with_reducible repeat (first | apply Kd.R_alloc | apply Kd.R_drewN | apply Kd.R_drew)); exact Kd.R_mono (Kd.R_far (p := ⟨gb160, 1, none⟩) (Kd.R_far (p := ⟨gb160, 0, none⟩) (Kd.R_types HO_11.out BK160.out (by decide)) (fun _ hk => hk.2) (.int .i64 ((rd_T83 t158 x70_4).f0))) (fun _ hk => hk.2) (.int .i64 ((rd_T83 t158 x70_4).f1))) (fun _ hk => ⟨hk.1.1, hk.1.2⟩)⟩, ⟨by (try simp only [hl9_4]); (try simp only [hl11_4]); (try simp only [hl68_4]); (with_reducible repeat (first | apply Kd.R_alloc | apply Kd.R_drewN | apply Kd.R_drew)); exact Kd.R_mono (Kd.R_far (p := ⟨gb160, 1, none⟩) (Kd.R_far (p := ⟨gb160, 0, none⟩) (Kd.R_mono HO_68.out (fun k_ hk => (⟨hk, hk.2⟩ : _ ∧ k_ ≠ gb160))) (fun _ hk => hk.2) (.int .i64 ((rd_T83 t158 x70_4).f0))) (fun _ hk => hk.2) (.int .i64 ((rd_T83 t158 x70_4).f1))) (fun _ hk => hk.1.1)⟩, ⟨by repeat (first | (with_reducible first | exact HK.out | apply Kept.alloc | apply Kept.drewN | apply Kept.drew | refine Kept.setCell ?_ (.inr GW160.out) _) | exact HK.out)⟩, ⟨by repeat (first | (with_reducible first | exact HB.out | apply below_alloc | apply pw_below_drewN | apply below_drew1 | refine below_set ?_ GE160.out) | exact HB.out)⟩⟩
                                · rw [if_neg c46] at H
                                  have c46b0 : ((wrap64 (x14_4 + ((rd_T83 t158 x70_4).f1))) == 0) = false := beq_eq_false_iff_ne.mpr c46
                                  have c46b1 : ((wrap64 (x14_4 + ((rd_T83 t158 x70_4).f1))) != 0) = true := bne_iff_ne.mpr c46
                                  by_cases c49 : 0 < (x11_4.length : Int)
                                  · rw [if_pos c49] at H
                                    have c49b0 : decide (0 < (x11_4.length : Int)) = true := decide_eq_true c49
                                    have c49b1 : decide (0 < x11_4.length) = true := decide_eq_true (by omega)
                                    clear c49
                                    obtain ⟨ji50, hji50⟩ : ∃ j_ : Int, (wrap64 (x70_4 + 1)) = j_ := ⟨_, rfl⟩
                                    replace H : (if 0 ≤ (ji50) then (if (ji50) < (t158.length : Int) then ((raster_Count_1.f (rd x11_4 0) ((rd_T83 t158 x70_4).f0) ((rd_T83 t158 (ji50)).f0) x3_4 l4).bind fun t163 => (raster_rows.l3 k4 l0 a2 t163 l4 t145 t158 x10_9 x11_4 (wrap64 (x14_4 + ((rd_T83 t158 x70_4).f1))) t158 (x9_3.length : Int) ji50)) else (none)) else (none)) = some r := by first | (rw [hji50] at H; exact H) | (simp only [hji50] at H ⊢; exact H)
                                    have hji50w : (IntKind.i64.wrap (x70_4 + 1)) = ji50 := (i64_w _).trans hji50
                                    by_cases c51 : 0 ≤ (ji50)
                                    · rw [if_pos c51] at H
                                      have c51b0 : decide (0 ≤ (ji50)) = true := decide_eq_true c51
                                      clear c51
                                      by_cases c52 : (ji50) < (t158.length : Int)
                                      · rw [if_pos c52] at H
                                        have c52b0 : decide ((ji50) < (t158.length : Int)) = true := decide_eq_true c52
                                        clear c52
                                        replace H := Option.bind_eq_some_iff.mp H
                                        obtain ⟨t163, A530, H⟩ := H
                                        replace H : (raster_rows.l3 k4 l0 a2 t163 l4 t145 t158 x10_9 x11_4 (wrap64 (x14_4 + ((rd_T83 t158 x70_4).f1))) t158 (x9_3.length : Int) ji50) = some r := H
                                        have A53 := Aside0.mk A530
                                        clear A530
                                        have H' := Aside0.mk H
                                        clear H
                                        have p159 : 0 ≤ (x70_4 : Int) := of_decide_eq_true (by first | (with_reducible assumption) | assumption)
                                        have q159 : x70_4 < (t158.length : Int) := of_decide_eq_true (by first | (with_reducible assumption) | assumption)
                                        obtain ⟨ad159, e159, hx159_0, hx159_1⟩ := at_T83 (Kd.R_reads' HO_68.out).2.2 x70_4 p159 q159
                                        cases e159
                                        replace p159 := eq_true p159
                                        replace q159 := eq_true q159
                                        try go_wp2_with (first | ((with_reducible refine gate_dst (N := 16) rfl ?_); refine box_event ?hg (N := 16) ?hd (cs := #[.int .i64 0, .int .i64 0]) (t := 83) ?hr ?_; (case hd => rfl); (case hg => rfl); (case hr => first | (go_simp; done) | (go_simp; rfl)); intro gb160 hg w54 hbox hb; have n0_ := Aside0.mk (Kd.R_below (by (with_reducible repeat (first | apply Kd.R_alloc | apply Kd.R_drewN | apply Kd.R_drew)); exact HO_3.out) hb); have n1_ := Aside0.mk (Kd.R_below (by (with_reducible repeat (first | apply Kd.R_alloc | apply Kd.R_drewN | apply Kd.R_drew)); exact HO_8.out) hb); have n2_ := Aside0.mk (Kd.R_below (Kd.R_elderB (by (with_reducible repeat (first | apply Kd.R_alloc | apply Kd.R_drewN | apply Kd.R_drew)); exact HO_9.out) gb160 (Nat.le_of_eq hg.symm)) hb); have n3_ := Aside0.mk (Kd.R_below (by (with_reducible repeat (first | apply Kd.R_alloc | apply Kd.R_drewN | apply Kd.R_drew)); exact HO_11.out) hb); have n4_ := Aside0.mk (Kd.R_below (Kd.R_elderB (by (with_reducible repeat (first | apply Kd.R_alloc | apply Kd.R_drewN | apply Kd.R_drew)); exact HO_68.out) gb160 (Nat.le_of_eq hg.symm)) hb); have n5_ := Aside0.mk (Kept.below (S := (fun k_ => P3_ k_)) (by repeat (first | (with_reducible first | exact HK.out | apply Kept.alloc | apply Kept.drewN | apply Kept.drew) | exact HK.out)) hb); have n6_ := Aside0.mk (below_step (by repeat (first | (with_reducible first | exact HB.out | apply below_alloc | apply pw_below_drewN | apply below_drew1) | exact HB.out)) hb); have n7_ := Aside0.mk (hbox); have n8_ := Aside0.mk ((by rw [hg]; exact (by first | exact HK.out.1 | exact (show Kept w _ (fun k_ => P3_ k_) from by repeat (first | (with_reducible first | exact HK.out | apply Kept.alloc | apply Kept.drewN | apply Kept.drew) | exact HK.out)).1) : w.heap.size ≤ gb160)); have n9_ := Aside0.mk ((by rw [hg]; exact (below_size (by repeat (first | (with_reducible first | exact HB.out | apply below_alloc | apply pw_below_drewN | apply below_drew1) | exact HB.out))) : w0.heap.size ≤ gb160)); clear HO_3; clear HO_8; clear HO_9; clear HO_11; clear HO_68; clear HK; clear HB; have HO_3 := n0_; have HO_8 := n1_; have HO_9 := n2_; have HO_11 := n3_; have HO_68 := n4_; have HK := n5_; have HB := n6_; have BK160 := n7_; have GW160 := n8_; have GE160 := n9_; clear n0_ n1_ n2_ n3_ n4_ n5_ n6_ n7_ n8_ n9_; clear hb hbox hg; have hcz55_0 : w54.cell? ⟨gb160, 0, none⟩ = some (.int .i64 0) := (blk_cell BK160.out 0).trans rfl; have hcz55_1 : w54.cell? ⟨gb160, 1, none⟩ = some (.int .i64 0) := (blk_cell BK160.out 1).trans rfl; have hfz55_0 := blk_frozen BK160.out 0; have hfz55_1 := blk_frozen BK160.out 1; have p161 : 0 ≤ (0 : Int) := (by omega); have q161 : 0 < (x11_4.length : Int) := of_decide_eq_true (by first | (with_reducible assumption) | assumption); obtain ⟨ad161, e161, hx161_0⟩ := Kd.at_int (Kd.R_reads' HO_11.out).2.2 0 p161 q161; obtain rfl : ad138 = ad161 := (by injection e161); have qi161 : (0 < x11_4.length) = True := eq_true (by omega); (try rw [show ((0 : Int)).toNat = 0 from rfl] at hx161_0); (try rw [Addr.add_zero'] at hx161_0); have hn161_0 : ad138.block ≠ gb160 := Kd.own_blk (Kd.R_ne HO_11.out BK160.out (by decide)); have hn161_1 : ad138.block ≠ gb160 := Kd.own_blk (Kd.R_ne HO_11.out BK160.out (by decide)); replace hx161_0 := (cell_far (p := ⟨gb160, 0, none⟩) (by first | (rw [add_block]; exact hn161_0) | (show (Addr.add _ _).block ≠ _; rw [add_block]; exact hn161_0) | exact hn161_0) (.int .i64 ((rd_T83 t158 x70_4).f0))).trans hx161_0; replace hx161_0 := (cell_far (p := ⟨gb160, 1, none⟩) (by first | (rw [add_block]; exact hn161_1) | (show (Addr.add _ _).block ≠ _; rw [add_block]; exact hn161_1) | exact hn161_1) (.int .i64 ((rd_T83 t158 x70_4).f1))).trans hx161_0; clear hn161_0; clear hn161_1; replace p161 := eq_true p161; replace q161 := eq_true q161))
                                        have n0_ : Aside0 (Kd.R (Kd.int .i64) 3 ((w54.setCell ⟨gb160, 0, none⟩ (.int .i64 ((rd_T83 t158 x70_4).f0))).setCell ⟨gb160, 1, none⟩ (.int .i64 ((rd_T83 t158 x70_4).f1))) w0.heap.size (fun k_ => (P3_ k_ ∨ w.heap.size ≤ k_) ∧ some k_ ≠ (.slice (some ad138) x11_4.length co11 : Value).ownBlock) u9000_ x3_4) := ⟨by (with_reducible repeat (first | apply Kd.R_alloc | apply Kd.R_drewN | apply Kd.R_drew)); exact Kd.R_mono (Kd.R_far (p := ⟨gb160, 1, none⟩) (Kd.R_far (p := ⟨gb160, 0, none⟩) (Kd.R_types HO_3.out BK160.out (by decide)) (fun _ hk => hk.2) (.int .i64 ((rd_T83 t158 x70_4).f0))) (fun _ hk => hk.2) (.int .i64 ((rd_T83 t158 x70_4).f1))) (fun _ hk => ⟨hk.1.1, hk.1.2⟩)⟩
                                        have n1_ : Aside0 (Kd.R k79 79 ((w54.setCell ⟨gb160, 0, none⟩ (.int .i64 ((rd_T83 t158 x70_4).f0))).setCell ⟨gb160, 1, none⟩ (.int .i64 ((rd_T83 t158 x70_4).f1))) w0.heap.size (fun k_ => (P3_ k_ ∨ w.heap.size ≤ k_)) (.slice Ao27 t145.length co27) t145) := ⟨by (with_reducible repeat (first | apply Kd.R_alloc | apply Kd.R_drewN | apply Kd.R_drew)); exact Kd.R_mono (Kd.R_far (p := ⟨gb160, 1, none⟩) (Kd.R_far (p := ⟨gb160, 0, none⟩) (Kd.R_types HO_8.out BK160.out (by decide)) (fun _ hk => hk.2) (.int .i64 ((rd_T83 t158 x70_4).f0))) (fun _ hk => hk.2) (.int .i64 ((rd_T83 t158 x70_4).f1))) (fun _ hk => hk.1)⟩
                                        have n2_ : Aside0 (Kd.R k83 83 ((w54.setCell ⟨gb160, 0, none⟩ (.int .i64 ((rd_T83 t158 x70_4).f0))).setCell ⟨gb160, 1, none⟩ (.int .i64 ((rd_T83 t158 x70_4).f1))) w0.heap.size (fun k_ => (P3_ k_ ∨ w.heap.size ≤ k_) ∧ k_ ≠ gb160) (.slice (some ad159) t158.length co41) t158) := ⟨by (with_reducible repeat (first | apply Kd.R_alloc | apply Kd.R_drewN | apply Kd.R_drew)); exact Kd.R_mono (Kd.R_far (p := ⟨gb160, 1, none⟩) (Kd.R_far (p := ⟨gb160, 0, none⟩) (Kd.R_mono HO_9.out (fun k_ hk => (⟨hk, hk.2⟩ : _ ∧ k_ ≠ gb160))) (fun _ hk => hk.2) (.int .i64 ((rd_T83 t158 x70_4).f0))) (fun _ hk => hk.2) (.int .i64 ((rd_T83 t158 x70_4).f1))) (fun _ hk => ⟨hk.1.1, hk.1.2⟩)⟩
                                        have n3_ : Aside0 (Kd.R (Kd.int .i64) 3 ((w54.setCell ⟨gb160, 0, none⟩ (.int .i64 ((rd_T83 t158 x70_4).f0))).setCell ⟨gb160, 1, none⟩ (.int .i64 ((rd_T83 t158 x70_4).f1))) w0.heap.size (fun k_ => (P3_ k_ ∨ w.heap.size ≤ k_) ∧ some k_ ≠ (u9000_ : Value).ownBlock) (.slice (some ad138) x11_4.length co11) x11_4) := ⟨by (with_reducible repeat (first | apply Kd.R_alloc | apply Kd.R_drewN | apply Kd.R_drew)); exact Kd.R_mono (Kd.R_far (p := ⟨gb160, 1, none⟩) (Kd.R_far (p := ⟨gb160, 0, none⟩) (Kd.R_types HO_11.out BK160.out (by decide)) (fun _ hk => hk.2) (.int .i64 ((rd_T83 t158 x70_4).f0))) (fun _ hk => hk.2) (.int .i64 ((rd_T83 t158 x70_4).f1))) (fun _ hk => ⟨hk.1.1, hk.1.2⟩)⟩
                                        have n4_ : Aside0 (Kd.R k83 83 ((w54.setCell ⟨gb160, 0, none⟩ (.int .i64 ((rd_T83 t158 x70_4).f0))).setCell ⟨gb160, 1, none⟩ (.int .i64 ((rd_T83 t158 x70_4).f1))) w0.heap.size (fun k_ => (P3_ k_ ∨ w.heap.size ≤ k_) ∧ k_ ≠ gb160) (.slice (some ad159) t158.length co41) t158) := ⟨by (with_reducible repeat (first | apply Kd.R_alloc | apply Kd.R_drewN | apply Kd.R_drew)); exact Kd.R_mono (Kd.R_far (p := ⟨gb160, 1, none⟩) (Kd.R_far (p := ⟨gb160, 0, none⟩) (Kd.R_mono HO_68.out (fun k_ hk => (⟨hk, hk.2⟩ : _ ∧ k_ ≠ gb160))) (fun _ hk => hk.2) (.int .i64 ((rd_T83 t158 x70_4).f0))) (fun _ hk => hk.2) (.int .i64 ((rd_T83 t158 x70_4).f1))) (fun _ hk => ⟨hk.1.1, hk.1.2⟩)⟩
                                        have n5_ : Aside0 (((w54.setCell ⟨gb160, 0, none⟩ (.int .i64 ((rd_T83 t158 x70_4).f0))).setCell ⟨gb160, 1, none⟩ (.int .i64 ((rd_T83 t158 x70_4).f1))).heap[gb160]? = some (.cells #[.int .i64 ((rd_T83 t158 x70_4).f0), .int .i64 ((rd_T83 t158 x70_4).f1)] 83 (0, 0))) := ⟨by (with_reducible repeat (first | refine blk_drewN ?_ _ | refine blk_drew ?_ | refine blk_alloc ?_ _)); refine blk_put (cs := #[.int .i64 ((rd_T83 t158 x70_4).f0), .int .i64 0]) ?_ 1 _ rfl; (with_reducible repeat (first | refine blk_drewN ?_ _ | refine blk_drew ?_ | refine blk_alloc ?_ _)); refine blk_put (cs := #[.int .i64 0, .int .i64 0]) ?_ 0 _ rfl; (with_reducible repeat (first | refine blk_drewN ?_ _ | refine blk_drew ?_ | refine blk_alloc ?_ _)); exact BK160.out⟩
                                        have n6_ : Aside0 (Kept w ((w54.setCell ⟨gb160, 0, none⟩ (.int .i64 ((rd_T83 t158 x70_4).f0))).setCell ⟨gb160, 1, none⟩ (.int .i64 ((rd_T83 t158 x70_4).f1))) (fun k_ => P3_ k_)) := ⟨by repeat (first | (with_reducible first | exact HK.out | apply Kept.alloc | apply Kept.drewN | apply Kept.drew | refine Kept.setCell ?_ (.inr GW160.out) _) | exact HK.out)⟩
                                        have n7_ : Aside0 (Below w0.heap.size w0 ((w54.setCell ⟨gb160, 0, none⟩ (.int .i64 ((rd_T83 t158 x70_4).f0))).setCell ⟨gb160, 1, none⟩ (.int .i64 ((rd_T83 t158 x70_4).f1)))) := ⟨by repeat (first | (with_reducible first | exact HB.out | apply below_alloc | apply pw_below_drewN | apply below_drew1 | refine below_set ?_ GE160.out) | exact HB.out)⟩
                                        (try clear HO_3)
                                        (try clear HO_8)
                                        (try clear HO_9)
                                        (try clear HO_11)
                                        (try clear HO_68)
                                        (try clear BK160)
                                        (try clear HK)
                                        (try clear HB)
                                        generalize ((w54.setCell ⟨gb160, 0, none⟩ (.int .i64 ((rd_T83 t158 x70_4).f0))).setCell ⟨gb160, 1, none⟩ (.int .i64 ((rd_T83 t158 x70_4).f1))) = w56 at n0_ n1_ n2_ n3_ n4_ n5_ n6_ n7_ ⊢
                                        have HO_3 := n0_
                                        have HO_8 := n1_
                                        have HO_9 := n2_
                                        have HO_11 := n3_
                                        have HO_68 := n4_
                                        have BK160 := n5_
                                        have HK := n6_
                                        have HB := n7_
                                        clear n0_ n1_ n2_ n3_ n4_ n5_ n6_ n7_
                                        have n0_ := Aside0.mk (Kd.R_drew HO_3.out)
                                        have n1_ := Aside0.mk (Kd.R_drew HO_8.out)
                                        have n2_ := Aside0.mk (Kd.R_drew HO_9.out)
                                        have n3_ := Aside0.mk (Kd.R_drew HO_11.out)
                                        have n4_ := Aside0.mk (Kd.R_drew HO_68.out)
                                        have n5_ := Aside0.mk (blk_drew BK160.out)
                                        have n6_ := Aside0.mk (Kept.drew HK.out)
                                        have n7_ := Aside0.mk (below_drew1 HB.out)
                                        clear HO_3
                                        clear HO_8
                                        clear HO_9
                                        clear HO_11
                                        clear HO_68
                                        clear BK160
                                        clear HK
                                        clear HB
                                        have HO_3 := n0_
                                        have HO_8 := n1_
                                        have HO_9 := n2_
                                        have HO_11 := n3_
                                        have HO_68 := n4_
                                        have BK160 := n5_
                                        have HK := n6_
                                        have HB := n7_
                                        clear n0_ n1_ n2_ n3_ n4_ n5_ n6_ n7_
                                        have p162 : 0 ≤ ((ji50) : Int) := of_decide_eq_true (by first | (with_reducible assumption) | assumption)
                                        have q162 : (ji50) < (t158.length : Int) := of_decide_eq_true (by first | (with_reducible assumption) | assumption)
                                        obtain ⟨ad162, e162, hx162_0, hx162_1⟩ := at_T83 (Kd.R_reads' HO_9.out).2.2 (ji50) p162 q162
                                        obtain rfl : ad159 = ad162 := (by injection e162)
                                        replace p162 := eq_true p162
                                        replace q162 := eq_true q162
                                        obtain ⟨Ao58, co58, eo58⟩ := Kd.R_slice HO_3.out
                                        (first | subst eo58 | (injection eo58 with f1_ f2_ f3_; have f4_ := f1_.symm; have f5_ := f3_.symm; clear f1_ f2_ f3_; subst f4_; subst f5_))
                                        refine start_ (n := 11) (S := fun w' => w'.cell? ad138 = some (.int .i64 (rd x11_4 0)) ∧ w'.cell? ⟨gb160, 0, none⟩ = some (.int .i64 ((rd_T83 t158 x70_4).f0)) ∧ w'.cell? ⟨gb160, 1, none⟩ = some (.int .i64 ((rd_T83 t158 x70_4).f1)) ∧ w'.cell? (ad159.add (((ji50)).toNat * 2)) = some (.int .i64 ((rd_T83 t158 (ji50)).f0)) ∧ w'.cell? ⟨(ad159.add (((ji50)).toNat * 2)).block, (ad159.add (((ji50)).toNat * 2)).off + 1, none⟩ = some (.int .i64 ((rd_T83 t158 (ji50)).f1))) (ds := []) #[false, false, false, false, false, false, false, false, false, false, false] (by kernel_rfl) rfl rfl ⟨(cellJ (by (with_reducible repeat (first | apply Kd.R_alloc | apply Kd.R_drewN | apply Kd.R_drew)); exact HO_11.out) (of_decide_eq_true (by first | (with_reducible assumption) | assumption))), (blk_cell BK160.out 0).trans rfl, (blk_cell BK160.out 1).trans rfl, hx162_0, hx162_1⟩ (fun hHeld => ?_); refine with_tabW raster_rows.tab23 raster_rows.bits23 (fun HT_ HW_ => ?_)
                                        generalize w56.drew = w57 at HO_3 HO_8 HO_9 HO_11 HO_68 BK160 HK HB hx162_0 hx162_1 hHeld ⊢
                                        refine pure_ (i := 0) (N := some 81) (v := ?_) (a' := ?_) #[true, false, false, false, false, false, false, false, false, false, false] rfl rfl (any_of HT_.out (by kernel_rfl)) (fun _ _ _ h => h) (Or.inl ⟨by rfl, ?_⟩) ?_ ?_
                                        rotate_left
                                        · intro w'
                                          go_simp
                                          with_reducible rfl
                                        rotate_left
                                        · simp only [Act.put, List.setIfInBounds_toArray, List.set_cons_zero, List.set_cons_succ, i64_w, i32_w]
                                          rfl
                                        refine pure_ (i := 2) (N := some 83) (v := ?_) (a' := ?_) #[true, false, true, false, false, false, false, false, false, false, false] rfl rfl (any_of HT_.out (by kernel_rfl)) (fun _ _ _ h => h) (Or.inl ⟨by rfl, ?_⟩) ?_ ?_
                                        rotate_left
                                        · intro w'
                                          go_simp
                                          with_reducible rfl
                                        rotate_left
                                        · simp only [Act.put, List.setIfInBounds_toArray, List.set_cons_zero, List.set_cons_succ, i64_w, i32_w]
                                          rfl
                                        refine pure_ (i := 4) (N := some 85) (v := ?_) (a' := ?_) #[true, false, true, false, true, false, false, false, false, false, false] rfl rfl (any_of HT_.out (by kernel_rfl)) (fun _ _ _ h => h) (Or.inl ⟨by rfl, ?_⟩) ?_ ?_
                                        rotate_left
                                        · intro w'
                                          go_simp
                                          with_reducible rfl
                                        rotate_left
                                        · simp only [Act.put, List.setIfInBounds_toArray, List.set_cons_zero, List.set_cons_succ, i64_w, i32_w]
                                          rfl
                                        refine pure_ (i := 5) (N := some 86) (v := ?_) (a' := ?_) #[true, false, true, false, true, true, false, false, false, false, false] rfl rfl (any_of HT_.out (by kernel_rfl)) (fun _ _ _ h => h) (Or.inl ⟨by rfl, ?_⟩) ?_ ?_
                                        rotate_left
                                        · intro w'
                                          go_simp
                                          with_reducible rfl
                                        rotate_left
                                        · simp only [Act.put, List.setIfInBounds_toArray, List.set_cons_zero, List.set_cons_succ, i64_w, i32_w]
                                          rfl
                                        refine pure_ (i := 6) (N := some 87) (v := ?_) (a' := ?_) #[true, false, true, false, true, true, true, false, false, false, false] rfl rfl (any_of HT_.out (by kernel_rfl)) (fun _ _ _ h => h) (Or.inl ⟨by rfl, ?_⟩) ?_ ?_
                                        rotate_left
                                        · intro w'
                                          go_simp
                                          with_reducible rfl
                                        rotate_left
                                        · simp only [Act.put, List.setIfInBounds_toArray, List.set_cons_zero, List.set_cons_succ, i64_w, i32_w]
                                          rfl
                                        refine pure_ (i := 7) (N := some 88) (v := ?_) (a' := ?_) #[true, false, true, false, true, true, true, true, false, false, false] rfl rfl (any_of HT_.out (by kernel_rfl)) (fun _ _ _ h => h) (Or.inl ⟨by rfl, ?_⟩) ?_ ?_
                                        rotate_left
                                        · intro w'
                                          go_simp
                                          with_reducible rfl
                                        rotate_left
                                        · simp only [Act.put, List.setIfInBounds_toArray, List.set_cons_zero, List.set_cons_succ, i64_w, i32_w]
                                          rfl
                                        refine pure_ (i := 8) (N := some 89) (v := ?_) (a' := ?_) #[true, false, true, false, true, true, true, true, true, false, false] rfl rfl (any_of HT_.out (by kernel_rfl)) (fun _ _ _ h => h) (Or.inl ⟨by rfl, ?_⟩) ?_ ?_
                                        rotate_left
                                        · intro w'
                                          go_simp
                                          with_reducible rfl
                                        rotate_left
                                        · simp only [Act.put, List.setIfInBounds_toArray, List.set_cons_zero, List.set_cons_succ, i64_w, i32_w]
                                          rfl
                                        refine take_ (i := 1) (N := some 82) (v := ?_) (a' := ?_) #[true, true, true, false, true, true, true, true, true, false, false] rfl rfl (take_ofW HT_.out HW_.out (by kernel_rfl)) (fun _ _ _ h => h) (Or.inl ⟨by rfl, ?_⟩) hHeld ?_ ?_
                                        rotate_left
                                        · rintro w' ⟨sj, s0, s1, s2, s3⟩
                                          go_simp
                                          with_reducible rfl
                                        rotate_left
                                        · simp only [Act.put, List.setIfInBounds_toArray, List.set_cons_zero, List.set_cons_succ, i64_w, i32_w]
                                          rfl
                                        refine take_ (i := 3) (N := some 84) (v := ?_) (a' := ?_) #[true, true, true, true, true, true, true, true, true, false, false] rfl rfl (take_ofW HT_.out HW_.out (by kernel_rfl)) (fun _ _ _ h => h) (Or.inl ⟨by rfl, ?_⟩) hHeld ?_ ?_
                                        rotate_left
                                        · rintro w' ⟨sj, s0, s1, s2, s3⟩
                                          go_simp
                                          with_reducible rfl
                                        rotate_left
                                        · simp only [Act.put, List.setIfInBounds_toArray, List.set_cons_zero, List.set_cons_succ, i64_w, i32_w]
                                          rfl
                                        refine take_ (i := 9) (N := some 90) (v := ?_) (a' := ?_) #[true, true, true, true, true, true, true, true, true, true, false] rfl rfl (take_ofW HT_.out HW_.out (by kernel_rfl)) (fun _ _ _ h => h) (Or.inl ⟨by rfl, ?_⟩) hHeld ?_ ?_
                                        rotate_left
                                        · rintro w' ⟨sj, s0, s1, s2, s3⟩
                                          go_simp
                                          with_reducible rfl
                                        rotate_left
                                        · simp only [Act.put, List.setIfInBounds_toArray, List.set_cons_zero, List.set_cons_succ, i64_w, i32_w]
                                          rfl
                                        refine one_ (i := 10) (N := some 91) #[true, true, true, true, true, true, true, true, true, true, true] rfl rfl (one_of HT_.out (by kernel_rfl)) (by decide) (fun K hK => ?_)
                                        refine goesH_ (o := .tmp 81) Try.func34 (by kernel_rfl) rfl #[.int .i64 (rd x11_4 0), .int .i64 ((rd_T83 t158 x70_4).f0), .int .i64 ((rd_T83 t158 (ji50)).f0), ptrV (.slice Ao58 x3_4.length co58), .pointer A4] (by rfl) rfl rfl rfl (by (try simp only [List.map_toArray, List.map_cons, List.map_nil, List.append_toArray, List.cons_append, List.nil_append]); first | done | (simp only [hji50]; rfl) | rfl | (simp only [List.length_drop, List.length_take]; rfl)) ?_
                                        with_reducible refine (raster_Count_1.calls (rd x11_4 0) ((rd_T83 t158 x70_4).f0) ((rd_T83 t158 (ji50)).f0) (fun k_ => some k_ = (.slice Ao58 x3_4.length co58 : Value).ownBlock) (.slice Ao58 x3_4.length co58) x3_4 A4 c4 l4 t163 w0 _ ?side1 ?side2 ?side3 ?side4 A53.out).mono ?_
                                        (case side1 => repeat (first | (with_reducible first | exact HB.out | apply below_alloc | apply pw_below_drewN | apply below_drew1 | refine below_set ?_ GE160.out) | exact HB.out))
                                        (case side2 => exact Kd.R_tight rfl HO_3.out)
                                        (case side3 => exact Kd.C_kept_call HR4.out (by repeat (first | (with_reducible first | exact HK.out | apply Kept.alloc | apply Kept.drewN | apply Kept.drew | refine Kept.setCell ?_ (.inr GW160.out) _) | exact HK.out)) (fun k_ hs_ => (fun e_ => (HO_3.out.1 k_ e_.symm).1) hs_))
                                        (case side4 => exact HC4.out)
                                        rintro e w59 ⟨rfl, hy0, hb, hkp⟩
                                        have HS2_ := cell_kept (hHeld.2.2.2.1) hkp (by first | (rw [add_block]; exact (fun hs_ => ((((Kd.R_apart' HO_9.out (Kd.R_typed HO_3.out) (by decide))).1 _ rfl).2) hs_)) | (show ¬ _; simp only [add_block]; exact (fun hs_ => ((((Kd.R_apart' HO_9.out (Kd.R_typed HO_3.out) (by decide))).1 _ rfl).2) hs_)) | exact (fun hs_ => ((((Kd.R_apart' HO_9.out (Kd.R_typed HO_3.out) (by decide))).1 _ rfl).2) hs_))
                                        have HS3_ := cell_kept (hHeld.2.2.2.2) hkp (by first | (rw [add_block]; exact (fun hs_ => ((((Kd.R_apart' HO_9.out (Kd.R_typed HO_3.out) (by decide))).1 _ rfl).2) hs_)) | (show ¬ _; simp only [add_block]; exact (fun hs_ => ((((Kd.R_apart' HO_9.out (Kd.R_typed HO_3.out) (by decide))).1 _ rfl).2) hs_)) | exact (fun hs_ => ((((Kd.R_apart' HO_9.out (Kd.R_typed HO_3.out) (by decide))).1 _ rfl).2) hs_))
                                        refine ⟨_, rfl, ?_⟩
                                        have n0_ := Aside0.mk (Kd.R_reok rfl hy0 (fun k_ e_ => HO_3.out.1 k_ e_))
                                        have n1_ := Aside0.mk (Kd.R_mono (ok' := fun k_ => (P3_ k_ ∨ w.heap.size ≤ k_)) (Kd.R_keptB ((Kd.R_apart' HO_8.out (Kd.R_typed HO_3.out) (by decide))) hkp (fun k_ hk_ hs_ => (hk_.2) hs_)) (fun k_ hk_ => hk_.1.1))
                                        have n2_ := Aside0.mk (Kd.R_mono (ok' := fun k_ => (P3_ k_ ∨ w.heap.size ≤ k_) ∧ k_ ≠ gb160) (Kd.R_keptB ((Kd.R_apart' HO_9.out (Kd.R_typed HO_3.out) (by decide))) hkp (fun k_ hk_ hs_ => (hk_.2) hs_)) (fun k_ hk_ => ⟨hk_.1.1.1, hk_.1.1.2⟩))
                                        have n3_ := Aside0.mk (Kd.R_mono (ok' := fun k_ => (P3_ k_ ∨ w.heap.size ≤ k_) ∧ some k_ ≠ (.slice Ao58 x3_4.length co58 : Value).ownBlock) (Kd.R_keptB (HO_11.out) hkp (fun k_ hk_ hs_ => (hk_.2) hs_)) (fun k_ hk_ => ⟨hk_.1.1, hk_.1.2⟩))
                                        have n4_ := Aside0.mk (Kd.R_mono (ok' := fun k_ => (P3_ k_ ∨ w.heap.size ≤ k_) ∧ k_ ≠ gb160) (Kd.R_keptB ((Kd.R_apart' HO_68.out (Kd.R_typed HO_3.out) (by decide))) hkp (fun k_ hk_ hs_ => (hk_.2) hs_)) (fun k_ hk_ => ⟨hk_.1.1.1, hk_.1.1.2⟩))
                                        have n5_ := Aside0.mk (blk_kept (by (with_reducible repeat (first | refine blk_drewN ?_ _ | refine blk_drew ?_ | refine blk_alloc ?_ _)); exact BK160.out) hkp (fun hs_ => (fun e_ => (Kd.R_ne HO_3.out BK160.out (by decide)) e_) hs_))
                                        have n6_ := Aside0.mk (Kept.then_ (S := (fun k_ => P3_ k_)) (by repeat (first | (with_reducible first | exact HK.out | apply Kept.alloc | apply Kept.drewN | apply Kept.drew | refine Kept.setCell ?_ (.inr GW160.out) _) | exact HK.out)) hkp (fun k_ hs_ => (fun e_ => (HO_3.out.1 k_ e_.symm).1) hs_))
                                        have n7_ := Aside0.mk (hb)
                                        clear HO_3
                                        clear HO_8
                                        clear HO_9
                                        clear HO_11
                                        clear HO_68
                                        clear BK160
                                        clear HK
                                        clear HB
                                        have HO_3 := n0_
                                        have HO_8 := n1_
                                        have HO_9 := n2_
                                        have HO_11 := n3_
                                        have HO_68 := n4_
                                        have BK160 := n5_
                                        have HK := n6_
                                        have HB := n7_
                                        clear n0_ n1_ n2_ n3_ n4_ n5_ n6_ n7_
                                        (try clear hb)
                                        (try clear hkp)
                                        (try clear hy0)
                                        refine hK.out _ _ ⟨(cellJ (by (with_reducible repeat (first | apply Kd.R_alloc | apply Kd.R_drewN | apply Kd.R_drew)); exact HO_11.out) (of_decide_eq_true (by first | (with_reducible assumption) | assumption))), (blk_cell BK160.out 0).trans rfl, (blk_cell BK160.out 1).trans rfl, HS2_, HS3_⟩ (fun hHeld => ?_)
                                        clear hK K
                                        refine norm_ (a' := ?_) ?_ ?_
                                        rotate_left
                                        · show Act.put _ (some 91) _ = _
                                          simp only [Act.put, List.setIfInBounds_toArray, List.set_cons_zero, List.set_cons_succ, i64_w, i32_w]
                                          rfl
                                        refine done_ (done_of HT_.out (by kernel_rfl)) ?_
                                        try go_wp2
                                        (try simp only [← hl9_4]); (try simp only [← hl11_4]); (try simp only [← hl68_4])
                                        go_roundg k4
                                        case measure => have := HK1.out; have := HJ9.out; have := HK3.out; have := HK4.out; omega
                                        case rel => exact ⟨(t163), (x11_4), (wrap64 (x14_4 + ((rd_T83 t158 x70_4).f1))), (ji50), (by first | rfl | (simp; done) | (simp [*]; done)), (by first | rfl | (simp; done) | (simp only [← hji50] <;> (first | rfl | simp)) | (simp [*]; done)), H', ⟨by have := HK1.out; have := HJ9.out; have := HK3.out; have := HK4.out; omega⟩, ⟨by (try simp only [hl9_4]); (try simp only [hl11_4]); (try simp only [hl68_4]); (with_reducible repeat (first | apply Kd.R_alloc | apply Kd.R_drewN | apply Kd.R_drew)); exact HO_3.out⟩, ⟨by (try simp only [hl9_4]); (try simp only [hl11_4]); (try simp only [hl68_4]); (with_reducible repeat (first | apply Kd.R_alloc | apply Kd.R_drewN | apply Kd.R_drew)); exact HO_8.out⟩, ⟨by (try simp only [hl9_4]); (try simp only [hl11_4]); (try simp only [hl68_4]); (with_reducible repeat (first | apply Kd.R_alloc | apply Kd.R_drewN | apply Kd.R_drew)); exact Kd.R_mono HO_9.out (fun _ hk => hk.1)⟩, ⟨by (try simp only [hl9_4]); (try simp only [hl11_4]); (try simp only [hl68_4]); (with_reducible repeat (first | apply Kd.R_alloc | apply Kd.R_drewN | apply Kd.R_drew)); exact HO_11.out⟩, ⟨by (try simp only [hl9_4]); (try simp only [hl11_4]); (try simp only [hl68_4]); (with_reducible repeat (first | apply Kd.R_alloc | apply Kd.R_drewN | apply Kd.R_drew)); exact Kd.R_mono HO_68.out (fun _ hk => hk.1)⟩, ⟨by repeat (first | (with_reducible first | exact HK.out | apply Kept.alloc | apply Kept.drewN | apply Kept.drew | refine Kept.setCell ?_ (.inr GW160.out) _) | exact HK.out)⟩, ⟨by repeat (first | (with_reducible first | exact HB.out | apply below_alloc | apply pw_below_drewN | apply below_drew1 | refine below_set ?_ GE160.out) | exact HB.out)⟩⟩
                                      · rw [if_neg c52] at H
                                        exact absurd H (by simp)
                                    · rw [if_neg c51] at H
                                      exact absurd H (by simp)
                                  · rw [if_neg c49] at H
                                    exact absurd H (by simp)
                              · rw [if_neg c45] at H
                                exact absurd H (by simp)
                            · rw [if_neg c44] at H
                              exact absurd H (by simp)
                          · rw [if_neg c43] at H
                            have c43b0 : decide (x70_4 < (x9_3.length : Int)) = false := decide_eq_false c43
                            have c43z : decide (x70_4 < (t158.length : Int)) = false := by rw [← hl9_4]; exact c43b0
                            clear c43
                            by_cases c60 : 0 < (x11_4.length : Int)
                            · rw [if_pos c60] at H
                              have c60b0 : decide (0 < (x11_4.length : Int)) = true := decide_eq_true c60
                              have c60b1 : decide (0 < x11_4.length) = true := decide_eq_true (by omega)
                              clear c60
                              obtain ⟨y165, hy165⟩ : ∃ y_ : List Int, y_ = (([rd x11_4 0] : List Int)) := ⟨_, rfl⟩
                              replace H : (if 0 < (y165.length : Int) then (raster_rows.l0 k4 l0 a2 x3_4 l4 t145 t158 x10_9 (y165.set (0 : Int).toNat (wrap64 ((rd y165 0) + 1)))) else (none)) = some r := by first | (rw [hy165]; with_reducible exact H) | (have H2_ := (Option.bind_some _ _).symm.trans H; rw [hy165]; with_reducible exact H2_) | (have H2_ := (Option.bind_some _ _).symm.trans H; with_reducible exact H2_) | with_reducible exact H | (rw [hy165]; exact H) | exact H
                              have Ny165 := Aside0.mk hy165
                              clear hy165
                              by_cases c61 : 0 < (y165.length : Int)
                              · rw [if_pos c61] at H
                                have c61b0 : decide (0 < (y165.length : Int)) = true := decide_eq_true c61
                                have c61b1 : decide (0 < y165.length) = true := decide_eq_true (by omega)
                                clear c61
                                obtain ⟨y169, hy169⟩ : ∃ y_ : List Int, y_ = (y165.set (0 : Int).toNat (wrap64 ((rd y165 0) + 1))) := ⟨_, rfl⟩
                                replace H : (raster_rows.l0 k4 l0 a2 x3_4 l4 t145 t158 x10_9 y169) = some r := by first | (rw [hy169]; with_reducible exact H) | (have H2_ := (Option.bind_some _ _).symm.trans H; rw [hy169]; with_reducible exact H2_) | (have H2_ := (Option.bind_some _ _).symm.trans H; with_reducible exact H2_) | with_reducible exact H | (rw [hy169]; exact H) | exact H
                                have Ny169 := Aside0.mk hy169
                                clear hy169
                                have H' := Aside0.mk H
                                clear H
                                have p164 : 0 ≤ (0 : Int) := (by omega)
                                have q164 : 0 < (x11_4.length : Int) := of_decide_eq_true (by first | (with_reducible assumption) | assumption)
                                obtain ⟨ad164, e164, hx164_0⟩ := Kd.at_int (Kd.R_reads' HO_11.out).2.2 0 p164 q164
                                obtain rfl : ad138 = ad164 := (by injection e164)
                                have qi164 : (0 < x11_4.length) = True := eq_true (by omega)
                                (try rw [show ((0 : Int)).toNat = 0 from rfl] at hx164_0)
                                (try rw [Addr.add_zero'] at hx164_0)
                                replace p164 := eq_true p164
                                replace q164 := eq_true q164
                                go_wp2_with (first | ((with_reducible refine gate_dst (N := 11) rfl ?_); refine cell_lit 11 (rd x11_4 0) rfl rfl rfl rfl rfl rfl (fun _ => rfl) (fun _ => rfl) ?_; intro v166 w63 ho64 hb; simp only [Act.put, List.setIfInBounds_toArray, List.set_cons_zero, List.set_cons_succ]; (first | rw [← Ny165.out] at ho64 | (simp only [Int.reduceToNat] at ho64; rw [← Ny165.out] at ho64)); have n0_ := Aside0.mk (Kd.R_elder' (by (with_reducible repeat (first | apply Kd.R_alloc | apply Kd.R_drewN | apply Kd.R_drew)); exact HO_3.out) (Kd.R_base ho64) hb); have n1_ := Aside0.mk (Kd.R_below (by (with_reducible repeat (first | apply Kd.R_alloc | apply Kd.R_drewN | apply Kd.R_drew)); exact HO_8.out) hb); have n2_ := Aside0.mk (Kd.R_below (by (with_reducible repeat (first | apply Kd.R_alloc | apply Kd.R_drewN | apply Kd.R_drew)); exact HO_9.out) hb); have n3_ := Aside0.mk (Kd.R_elder' (by (with_reducible repeat (first | apply Kd.R_alloc | apply Kd.R_drewN | apply Kd.R_drew)); exact HO_11.out) (Kd.R_base ho64) hb); have n4_ := Aside0.mk (Kd.R_below (by (with_reducible repeat (first | apply Kd.R_alloc | apply Kd.R_drewN | apply Kd.R_drew)); exact HO_68.out) hb); have n5_ := Aside0.mk (Kd.R_lower (Kd.R_new' (Kd.R_new' (Kd.R_newM (M := fun k_ => (P3_ k_ ∨ w.heap.size ≤ k_)) ho64 (by first | exact HK.out.1 | exact (show Kept w _ (fun k_ => P3_ k_) from by repeat (first | (with_reducible first | exact HK.out | apply Kept.alloc | apply Kept.drewN | apply Kept.drew) | exact HK.out)).1) (fun k_ h_ => .inr h_)) (Kd.R_lt (by (with_reducible repeat (first | apply Kd.R_alloc | apply Kd.R_drewN | apply Kd.R_drew)); exact HO_3.out))) (Kd.R_lt (by (with_reducible repeat (first | apply Kd.R_alloc | apply Kd.R_drewN | apply Kd.R_drew)); exact HO_11.out))) (below_size (by repeat (first | (with_reducible first | exact HB.out | apply below_alloc | apply pw_below_drewN | apply below_drew1) | exact HB.out)))); have n6_ := Aside0.mk (Kept.below (S := (fun k_ => P3_ k_)) (by repeat (first | (with_reducible first | exact HK.out | apply Kept.alloc | apply Kept.drewN | apply Kept.drew) | exact HK.out)) hb); have n7_ := Aside0.mk (below_step (by repeat (first | (with_reducible first | exact HB.out | apply below_alloc | apply pw_below_drewN | apply below_drew1) | exact HB.out)) hb); clear HO_3; clear HO_8; clear HO_9; clear HO_11; clear HO_68; clear HK; clear HB; have HO_3 := n0_; have HO_8 := n1_; have HO_9 := n2_; have HO_11 := n3_; have HO_68 := n4_; have HO167 := n5_; have HK := n6_; have HB := n7_; clear n0_ n1_ n2_ n3_ n4_ n5_ n6_ n7_; clear hb ho64; obtain ⟨Ao65, co65, eo65⟩ := Kd.R_slice HO167.out; subst eo65; have p168 : 0 ≤ (0 : Int) := (by omega); have q168 : 0 < (y165.length : Int) := of_decide_eq_true (by first | (with_reducible assumption) | assumption); obtain ⟨ad168, e168, hx168_0⟩ := Kd.at_int (Kd.R_reads' HO167.out).2.2 0 p168 q168; cases e168; have qi168 : (0 < y165.length) = True := eq_true (by omega); (try rw [show ((0 : Int)).toNat = 0 from rfl] at hx168_0); (try rw [Addr.add_zero'] at hx168_0); replace p168 := eq_true p168; replace q168 := eq_true q168; have p62 : 0 ≤ (0 : Int) := (by omega); have q62 : (0 : Int) < ((y165.length : Int) : Int) := of_decide_eq_true (by first | (with_reducible assumption) | assumption); have qi62 : (0 < y165.length) = True := eq_true (by omega); obtain ⟨go62, co62, eo62, gb62, gl62, cl62, HG62⟩ := Kd.R_form HO167.out (by omega); (first | cases eo62 | (injection eo62 with ea_ en_ ec_; (first | subst ea_ | (injection ea_ with ea_; subst ea_)); subst ec_; clear en_)); have GB62 := Aside0.mk gb62; have GG62 := Aside0.mk HG62; clear gb62 gl62 HG62; have HMgo62 := Aside0.mk (show (P3_ go62 ∨ w.heap.size ≤ go62) from (HO167.out.1 _ rfl).1.1.1); (first | simp only [add_plain] at hx168_0 | skip); obtain ⟨hx62_0, hf62_0⟩ := Kd.R_celln 0 HO167.out (0 : Int) p62 q62; (try rw [show ((0 : Int)).toNat = 0 from rfl] at hx62_0); (try simp only [Nat.reduceMul, Nat.zero_mul, Nat.zero_add, Nat.reduceAdd] at hx62_0); (try rw [show ((0 : Int)).toNat = 0 from rfl] at hf62_0); (try simp only [Nat.reduceMul, Nat.zero_mul, Nat.zero_add, Nat.reduceAdd] at hf62_0); replace p62 := eq_true p62; replace q62 := eq_true q62; have n_ := Aside0.mk (Kd.R_mono (ok' := (fun k_ => (P3_ k_ ∨ w.heap.size ≤ k_) ∧ some k_ ≠ (u9000_ : Value).ownBlock ∧ some k_ ≠ (.slice (some ad138) x11_4.length co11 : Value).ownBlock)) HO167.out (fun k_ hk => ⟨hk.1.1.1, ⟨hk.1.2, hk.2⟩⟩)); clear HO167; have HO167 := n_; clear n_; obtain ⟨hy66_, hz66_⟩ := Kd.R_celln 0 HO167.out (0 : Int) (by omega) (of_decide_eq_true (by first | (with_reducible assumption) | assumption)); (try simp only [Int.reduceToNat, Int.toNat_zero, Int.toNat_ofNat, Nat.reduceMul, Nat.zero_mul, Nat.zero_add] at hy66_ hz66_); (try rw [show ((0 : Int)).toNat = 0 from rfl] at hy66_); (try rw [show ((0 : Int)).toNat = 0 from rfl] at hz66_); have HP66 := Kd.R_putg HO167.out (0 : Int) (wrap64 ((rd y165 0) + 1)); (try simp only [ptrV_slice])) | ((with_reducible refine gate_store (t := 3) (p := 11) rfl ?_); refine store_event (t := 3) (p := 11) (v := ?vo_w67) (w1 := (w63.setCell ⟨go62, (0 : Int).toNat, none⟩ (.int .i64 (wrap64 ((rd y165 0) + 1))))) ?hg ?ho ?hn ?hr ?_; (case ho => rfl); (case hg => rfl); (case hn => rfl); (case hr => first | (go_simp; done) | (go_simp; rfl)); intro w67 hw; have hg : w63.grownBy w67 (some go62) := (by rw [hw]; exact HP66.2); have hp_ : Kd.R (Kd.int .i64) 3 w67 w0.heap.size (fun k_ => (P3_ k_ ∨ w.heap.size ≤ k_) ∧ some k_ ≠ (u9000_ : Value).ownBlock ∧ some k_ ≠ (.slice (some ad138) x11_4.length co11 : Value).ownBlock) (.slice (some ⟨go62, 0, none⟩) y165.length co65) y169 := (by rw [hw, Ny169.out]; exact HP66.1); clear HP66; have n0_ := Aside0.mk (Kd.R_after (v := (.slice (some ⟨go62, 0, none⟩) y165.length co65)) (v1 := (.slice (some ⟨go62, 0, none⟩) y165.length co65)) (ok := (fun k_ => (P3_ k_ ∨ w.heap.size ≤ k_) ∧ some k_ ≠ (.slice (some ad138) x11_4.length co11 : Value).ownBlock)) (by (with_reducible repeat (first | apply Kd.R_alloc | apply Kd.R_drewN | apply Kd.R_drew)); exact HO_3.out) hg (.inl rfl)); have n1_ := Aside0.mk (Kd.R_over' (v := (.slice (some ⟨go62, 0, none⟩) y165.length co65)) (by (with_reducible repeat (first | apply Kd.R_alloc | apply Kd.R_drewN | apply Kd.R_drew)); exact HO_8.out) (Kd.R_typed HO167.out) (by decide) hg); have n2_ := Aside0.mk (Kd.R_over' (v := (.slice (some ⟨go62, 0, none⟩) y165.length co65)) (by (with_reducible repeat (first | apply Kd.R_alloc | apply Kd.R_drewN | apply Kd.R_drew)); exact HO_9.out) (Kd.R_typed HO167.out) (by decide) hg); have n3_ := Aside0.mk (Kd.R_after (v := (.slice (some ⟨go62, 0, none⟩) y165.length co65)) (v1 := (.slice (some ⟨go62, 0, none⟩) y165.length co65)) (ok := (fun k_ => (P3_ k_ ∨ w.heap.size ≤ k_) ∧ some k_ ≠ (u9000_ : Value).ownBlock)) (by (with_reducible repeat (first | apply Kd.R_alloc | apply Kd.R_drewN | apply Kd.R_drew)); exact HO_11.out) hg (.inl rfl)); have n4_ := Aside0.mk (Kd.R_over' (v := (.slice (some ⟨go62, 0, none⟩) y165.length co65)) (by (with_reducible repeat (first | apply Kd.R_alloc | apply Kd.R_drewN | apply Kd.R_drew)); exact HO_68.out) (Kd.R_typed HO167.out) (by decide) hg); have n5_ := Aside0.mk (hp_); have n6_ := Aside0.mk ((by rw [hw]; exact below_set (HB.out) GB62.out : Below w0.heap.size w0 w67)); have n7_ := Aside0.mk (Kept.of_grown (S := (fun k_ => P3_ k_)) hg (by repeat (first | (with_reducible first | exact HK.out | apply Kept.alloc | apply Kept.drewN | apply Kept.drew) | exact HK.out)) (fun k_ e_ => (HO167.out.1 k_ e_).1)); clear HO_3; clear HO_8; clear HO_9; clear HO_11; clear HO_68; clear HO167; clear HB; clear HK; have HO_3 := n0_; have HO_8 := n1_; have HO_9 := n2_; have HO_11 := n3_; have HO_68 := n4_; have HO167 := n5_; have HB := n6_; have HK := n7_; clear n0_ n1_ n2_ n3_ n4_ n5_ n6_ n7_; clear hg hw hp_))
                                (try simp only [← hl9_4]); (try simp only [← hl11_4]); (try simp only [← hl68_4])
                                go_roundg k4
                                case measure => have := HK1.out; have := HJ9.out; have := HK3.out; have := HK4.out; omega
                                case rel => exact ⟨(x3_4), (t145), (t158), (x10_9), (y169), (.slice (some ⟨go62, 0, none⟩) y165.length co65), rfl, (by first | rfl | (simp; done) | (simp [*]; done)), H', ⟨by have := HK1.out; have := HJ9.out; have := HK3.out; have := HK4.out; omega⟩, ⟨by (try simp only [hl9_4]); (try simp only [hl11_4]); (try simp only [hl68_4]); (with_reducible repeat (first | apply Kd.R_alloc | apply Kd.R_drewN | apply Kd.R_drew)); exact Kd.R_mono HO_3.out (fun _ hk => ⟨hk.1.1, hk.2⟩)⟩, ⟨by (try simp only [hl9_4]); (try simp only [hl11_4]); (try simp only [hl68_4]); (with_reducible repeat (first | apply Kd.R_alloc | apply Kd.R_drewN | apply Kd.R_drew)); exact HO_8.out⟩, ⟨by (try simp only [hl9_4]); (try simp only [hl11_4]); (try simp only [hl68_4]); (with_reducible repeat (first | apply Kd.R_alloc | apply Kd.R_drewN | apply Kd.R_drew)); exact HO_9.out⟩, ⟨by (try simp only [hl9_4]); (try simp only [hl11_4]); (try simp only [hl68_4]); (with_reducible repeat (first | apply Kd.R_alloc | apply Kd.R_drewN | apply Kd.R_drew)); exact Kd.R_mono HO167.out (fun _ hk => ⟨hk.1, hk.2.1⟩)⟩, ⟨by repeat (first | (with_reducible first | exact HK.out | apply Kept.alloc | apply Kept.drewN | apply Kept.drew) | exact HK.out)⟩, ⟨by repeat (first | (with_reducible first | exact HB.out | apply below_alloc | apply pw_below_drewN | apply below_drew1) | exact HB.out)⟩⟩
                              · rw [if_neg c61] at H
                                exact absurd H (by simp)
                            · rw [if_neg c60] at H
                              exact absurd H (by simp)
              · rw [if_neg c22] at H
                exact absurd H (by simp)
        · rw [if_neg c9] at H
          have c9b0 : decide ((rd x11_1 0) < a2) = false := decide_eq_false c9
          clear c9
          obtain rfl := Option.some.inj H
          obtain ⟨Ao68, co68, eo68⟩ := Kd.R_slice HO_11.out
          subst eo68
          have p138 : 0 ≤ (0 : Int) := (by omega)
          have q138 : 0 < (x11_1.length : Int) := of_decide_eq_true (by first | (with_reducible assumption) | assumption)
          obtain ⟨ad138, e138, hx138_0⟩ := Kd.at_int (Kd.R_reads' HO_11.out).2.2 0 p138 q138
          cases e138
          simp only [ptrV_slice]
          have qi138 : (0 < x11_1.length) = True := eq_true (by omega)
          (try rw [show ((0 : Int)).toNat = 0 from rfl] at hx138_0)
          (try rw [Addr.add_zero'] at hx138_0)
          replace p138 := eq_true p138
          replace q138 := eq_true q138
          go_wp2
          first | go_end0 | ((try simp only [Exit.inBlock, Exit.then]); refine bodyPost_ret (results_none rfl _ _ _) rfl ?_)
          exact ⟨by first | rfl | (simp [errW_none, errW_some] <;> rfl) | (simp [*, errW_none, errW_some] <;> rfl), by (with_reducible repeat (first | apply Kd.R_alloc | apply Kd.R_drewN | apply Kd.R_drew)); exact Kd.R_mono HO_3.out (fun _ hk => hk.1), by repeat (first | (with_reducible first | exact HB.out | apply below_alloc | apply pw_below_drewN | apply below_drew1) | exact HB.out), by repeat (first | (with_reducible first | exact HK.out | apply Kept.alloc | apply Kept.drewN | apply Kept.drew) | exact HK.out)⟩
      · rw [if_neg c8] at H
        exact absurd H (by simp)

end Go.Proofs.Ytmlplblhabdbpaa.PRasterSquares
