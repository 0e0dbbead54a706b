/- A part of the proof of the law RasterSquares: plain functions and what the machine's calls of them come to; printed by wip/extprint.py out of the kit's printer and contracts of our own. No condition but an answer of the plain function. -/
import Derived.Test.YtmlplblhabdbpaaPRasterSquaresx0
import Derived.Test.YtmlplblhabdbpaaPRasterSquaresx1
import Derived.Test.YtmlplblhabdbpaaPRasterSquaresx4
import Derived.Test.YtmlplblhabdbpaaPRasterSquaresx6
namespace Go.Proofs.Ytmlplblhabdbpaa.PRasterSquares
open Go.RowKit Go.Proofs.YtmlplblhabdbpaaW.PrintWords Go.Proofs.YtmlplblhabdbpaaW.PrintLast Go.Proofs.YtmlplblhabdbpaaW.PrintMore
attribute [local go_sem] max2_int min2_int max_two min_two max_three min_three max_four min_four   -- for this text's walks alone
set_option linter.unusedVariables false
set_option linter.unusedSimpArgs false

/-! ### raster_edge_58: function 58 -/
mutual
def raster_edge_58.l0 : Nat → List (S79) → Int → Int → Int → Int → Option ((List (S79)))
  | 0, _, _, _, _, _ => none
  | k + 1, x0, x1, x6, x7, x8 => if x8 ≤ x1 then ((raster_edge_88.f k x0 x7 x8).bind fun t179 => (raster_edge_58.l0 k t179 x1 x6 x8 (wrap64 (x8 + x6)))) else ((raster_edge_88.f k x0 x7 x1).bind fun t180 => (raster_edge_58.l1 k t180 x1 x6))
def raster_edge_58.l1 : Nat → List (S79) → Int → Int → Option ((List (S79)))
  | 0, _, _, _ => none
  | k + 1, x0, x1, x6 => if x6 < x1 then (if 0 ≤ (-1) then (if (-1) < (x0.length : Int) then (raster_edge_58.l1 k x0 x1 x6) else (none)) else (none)) else (some x0)
end
def raster_edge_58.f (k : Nat) (l0 : List (S79)) (a1 : Int) : Option ((List (S79))) := raster_edge_58.l0 k l0 a1 20 0 20
theorem raster_edge_58.mono_l : ∀ k, (∀ y0 y1 y2 y3 y4, LeO (raster_edge_58.l0 k y0 y1 y2 y3 y4) (raster_edge_58.l0 (k + 1) y0 y1 y2 y3 y4)) ∧ (∀ y0 y1 y2, LeO (raster_edge_58.l1 k y0 y1 y2) (raster_edge_58.l1 (k + 1) y0 y1 y2))
  | 0 => ⟨fun _ _ _ _ _ r h => by simp [raster_edge_58.l0] at h, fun _ _ _ r h => by simp [raster_edge_58.l1] at h⟩
  | k + 1 => by
    obtain ⟨ih0, ih1⟩ := raster_edge_58.mono_l k
    refine ⟨?_, ?_⟩
    · intro y0 y1 y2 y3 y4
      unfold raster_edge_58.l0
      repeat' first
      | (with_reducible exact ih0 _ _ _ _ _)
      | (with_reducible exact ih1 _ _ _)
      | (with_reducible exact raster_edge_88.mono _ _ _ _)
      | (with_reducible exact LeO.refl _)
      | (with_reducible exact LeO.none _)
      | (with_reducible refine LeO.ite ?_ ?_)
      | (with_reducible refine LeO.bind ?_ (fun _ => ?_))
      | exact ih0 _ _ _ _ _
      | exact ih1 _ _ _
      | exact raster_edge_88.mono _ _ _ _
      | exact LeO.none _
      | refine LeO.ite ?_ ?_
      | refine LeO.bind ?_ (fun _ => ?_)
    · intro y0 y1 y2
      unfold raster_edge_58.l1
      repeat' first
      | (with_reducible exact ih0 _ _ _ _ _)
      | (with_reducible exact ih1 _ _ _)
      | (with_reducible exact raster_edge_88.mono _ _ _ _)
      | (with_reducible exact LeO.refl _)
      | (with_reducible exact LeO.none _)
      | (with_reducible refine LeO.ite ?_ ?_)
      | (with_reducible refine LeO.bind ?_ (fun _ => ?_))
      | exact ih0 _ _ _ _ _
      | exact ih1 _ _ _
      | exact raster_edge_88.mono _ _ _ _
      | exact LeO.none _
      | refine LeO.ite ?_ ?_
      | refine LeO.bind ?_ (fun _ => ?_)
theorem raster_edge_58.mono : ∀ a0 a1 k, LeO (raster_edge_58.f k a0 a1) (raster_edge_58.f (k + 1) a0 a1) := by
  intro a0 a1 k
  obtain ⟨ih0, ih1⟩ := raster_edge_58.mono_l k
  unfold raster_edge_58.f
  repeat' first
      | (with_reducible exact ih0 _ _ _ _ _)
      | (with_reducible exact ih1 _ _ _)
      | (with_reducible exact raster_edge_88.mono _ _ _ _)
      | (with_reducible exact LeO.refl _)
      | (with_reducible exact LeO.none _)
      | (with_reducible refine LeO.ite ?_ ?_)
      | (with_reducible refine LeO.bind ?_ (fun _ => ?_))
      | exact ih0 _ _ _ _ _
      | exact ih1 _ _ _
      | exact raster_edge_88.mono _ _ _ _
      | exact LeO.none _
      | refine LeO.ite ?_ ?_
      | refine LeO.bind ?_ (fun _ => ?_)
set_option maxHeartbeats 8000000 in
set_option maxRecDepth 100000 in
theorem raster_edge_58.calls (k : Nat) (P0_ : Nat → Prop) (u9000_ : Value) (l0 : List (S79)) (a1 : Int) (r : List (S79)) (w0 w : World) (hB : Below w0.heap.size w0 w) (ho0 : Kd.R k79 79 w w0.heap.size P0_ u9000_ l0) (h : raster_edge_58.f k l0 a1 = some r) :
    Calls Try.prog 58 #[u9000_, .int .i64 a1, .func (.func 47) #[] #[]] w fun e w' => e = .returned (.tuple #[]) ∧ Kd.R k79 79 w' w0.heap.size (fun k_ => (P0_ k_ ∨ w.heap.size ≤ k_)) u9000_ r ∧ Below w0.heap.size w0 w' ∧ Kept w w' (fun k_ => P0_ k_) := by
  have HO0 := Aside0.mk (show Kd.R k79 79 w w0.heap.size (fun k_ => (P0_ k_ ∨ w.heap.size ≤ k_)) u9000_ l0 from Kd.R_mono ho0 (fun k_ hk => (.inl hk)))
  have HK := Aside0.mk (Kept.refl w (fun k_ => P0_ k_))
  have HW0 := Aside0.mk hB.size
  have HB := Aside0.mk hB
  clear hB
  have H : (raster_edge_58.l0 k l0 a1 20 0 20) = some r := h
  clear h
  have H' := Aside0.mk H
  clear H
  go_enter Try.func58, Try.ntmps58
  go_wp2
  go_loopg [7, 8] k (fun kq v7 v8 w' => ∃ (x0_1 : List (S79)) (x7_1 : Int) (x8_1 : Int), v7 = .int .i64 x7_1 ∧ v8 = .int .i64 x8_1 ∧ Aside0 (raster_edge_58.l0 kq x0_1 a1 20 x7_1 x8_1 = some r) ∧ Aside0 (kq ≤ k) ∧ Aside0 (Kd.R k79 79 w' w0.heap.size (fun k_ => (P0_ k_ ∨ w.heap.size ≤ k_)) u9000_ x0_1) ∧ Aside0 (Kept w w' (fun k_ => P0_ k_)) ∧ Aside0 (Below w0.heap.size w0 w'))
  case atStart => exact ⟨(l0), (0), (20), (by first | rfl | (simp; done) | (simp [*]; done)), (by first | rfl | (simp; done) | (simp [*]; done)), H', ⟨Nat.le_refl _⟩, ⟨by (with_reducible repeat (first | apply Kd.R_alloc | apply Kd.R_drewN | apply Kd.R_drew)); exact HO0.out⟩, ⟨by repeat (first | (with_reducible first | exact HK.out | apply Kept.alloc | apply Kept.drewN | apply Kept.drew) | exact HK.out)⟩, ⟨by repeat (first | (with_reducible first | exact HB.out | apply below_alloc | apply pw_below_drewN | apply below_drew1) | exact HB.out)⟩⟩
  case round =>
    clear H'
    try clear p2
    obtain ⟨x0_1, x7_1, x8_1, rfl, rfl, HA, HK1, HO_0, HK, HB⟩ := hrel
    cases gk with
    | zero => exact absurd HA.out (by simp [raster_edge_58.l0])
    | succ k1 =>
      have H := HA.out
      clear HA
      simp only [raster_edge_58.l0] at H
      by_cases c3 : x8_1 ≤ a1
      · rw [if_pos c3] at H
        have c3b0 : decide (x8_1 ≤ a1) = true := decide_eq_true c3
        clear c3
        replace H := Option.bind_eq_some_iff.mp H
        obtain ⟨t179, A40, H⟩ := H
        replace H : (raster_edge_58.l0 k1 t179 a1 20 x8_1 (wrap64 (x8_1 + 20))) = some r := H
        have A4 := Aside0.mk A40
        clear A40
        have H' := Aside0.mk H
        clear H
        obtain ⟨Ao5, co5, eo5⟩ := Kd.R_slice HO_0.out
        subst eo5
        go_wp2_with (first | ((with_reducible refine gate_callee (f := 88) rfl ?_); refine goesL_ (some 18) rfl rfl Try.func88 (by kernel_rfl) rfl #[.slice Ao5 x0_1.length co5, .int .i64 x7_1, .int .i64 x8_1, .func (.func 47) #[] #[]] rfl (by (try simp only [List.map_toArray, List.map_cons, List.map_nil]); first | done | rfl | (simp only [List.length_drop, List.length_take]; rfl)) ?_; (with_reducible refine (raster_edge_88.calls k1 (fun k_ => some k_ = (.slice Ao5 x0_1.length co5 : Value).ownBlock) (.slice Ao5 x0_1.length co5) x0_1 x7_1 x8_1 t179 w0 _ ?side1 ?side2 A4.out).mono ?_); (case side1 => repeat (first | (with_reducible first | exact HB.out | apply below_alloc | apply pw_below_drewN | apply below_drew1) | exact HB.out)); (case side2 => exact Kd.R_tight rfl HO_0.out); rintro e w6 ⟨rfl, hy0, hb, hkp⟩; refine ⟨_, rfl, ?_⟩; have n0_ := Aside0.mk (Kd.R_reok rfl hy0 (fun k_ e_ => HO_0.out.1 k_ e_)); have n1_ := Aside0.mk (Kept.then_ (S := (fun k_ => P0_ k_)) (by repeat (first | (with_reducible first | exact HK.out | apply Kept.alloc | apply Kept.drewN | apply Kept.drew) | exact HK.out)) hkp (fun k_ hs_ => (fun e_ => (HO_0.out.1 k_ e_.symm)) hs_)); have n2_ := Aside0.mk (hb); clear HO_0; clear HK; clear HB; have HO_0 := n0_; have HK := n1_; have HB := n2_; clear n0_ n1_ n2_; (try clear hb); (try clear hkp); (try clear hy0)))
        go_roundg k1
        case measure => have := HK1.out; omega
        case rel => exact ⟨(t179), (x8_1), (wrap64 (x8_1 + 20)), (by first | rfl | (simp; done) | (simp [*]; done)), (by first | rfl | (simp; done) | (simp [*]; done)), H', ⟨by have := HK1.out; omega⟩, ⟨by (with_reducible repeat (first | apply Kd.R_alloc | apply Kd.R_drewN | apply Kd.R_drew)); exact HO_0.out⟩, ⟨by repeat (first | (with_reducible first | exact HK.out | apply Kept.alloc | apply Kept.drewN | apply Kept.drew) | exact HK.out)⟩, ⟨by repeat (first | (with_reducible first | exact HB.out | apply below_alloc | apply pw_below_drewN | apply below_drew1) | exact HB.out)⟩⟩
      · rw [if_neg c3] at H
        have c3b0 : decide (x8_1 ≤ a1) = false := decide_eq_false c3
        clear c3
        replace H := Option.bind_eq_some_iff.mp H
        obtain ⟨t180, A70, H⟩ := H
        replace H : (raster_edge_58.l1 k1 t180 a1 20) = some r := H
        have A7 := Aside0.mk A70
        clear A70
        have H' := Aside0.mk H
        clear H
        obtain ⟨Ao8, co8, eo8⟩ := Kd.R_slice HO_0.out
        subst eo8
        go_wp2_with (first | ((with_reducible refine gate_callee (f := 88) rfl ?_); refine goesL_ (some 27) rfl rfl Try.func88 (by kernel_rfl) rfl #[.slice Ao8 x0_1.length co8, .int .i64 x7_1, .int .i64 a1, .func (.func 47) #[] #[]] rfl (by (try simp only [List.map_toArray, List.map_cons, List.map_nil]); first | done | rfl | (simp only [List.length_drop, List.length_take]; rfl)) ?_; (with_reducible refine (raster_edge_88.calls k1 (fun k_ => some k_ = (.slice Ao8 x0_1.length co8 : Value).ownBlock) (.slice Ao8 x0_1.length co8) x0_1 x7_1 a1 t180 w0 _ ?side1 ?side2 A7.out).mono ?_); (case side1 => repeat (first | (with_reducible first | exact HB.out | apply below_alloc | apply pw_below_drewN | apply below_drew1) | exact HB.out)); (case side2 => exact Kd.R_tight rfl HO_0.out); rintro e w9 ⟨rfl, hy0, hb, hkp⟩; refine ⟨_, rfl, ?_⟩; have n0_ := Aside0.mk (Kd.R_reok rfl hy0 (fun k_ e_ => HO_0.out.1 k_ e_)); have n1_ := Aside0.mk (Kept.then_ (S := (fun k_ => P0_ k_)) (by repeat (first | (with_reducible first | exact HK.out | apply Kept.alloc | apply Kept.drewN | apply Kept.drew) | exact HK.out)) hkp (fun k_ hs_ => (fun e_ => (HO_0.out.1 k_ e_.symm)) hs_)); have n2_ := Aside0.mk (hb); clear HO_0; clear HK; clear HB; have HO_0 := n0_; have HK := n1_; have HB := n2_; clear n0_ n1_ n2_; (try clear hb); (try clear hkp); (try clear hy0)))
        (try simp only [Act.put, List.setIfInBounds_toArray, List.set_cons_zero, List.set_cons_succ])
        go_loopg [6] k1 (fun kq v6 w' => v6 = .int .i64 20 ∧ Aside0 (raster_edge_58.l1 kq t180 a1 20 = some r) ∧ Aside0 (kq ≤ k1) ∧ Aside0 (Kd.R k79 79 w' w0.heap.size (fun k_ => (P0_ k_ ∨ w.heap.size ≤ k_)) (.slice Ao8 x0_1.length co8) t180) ∧ Aside0 (Kept w w' (fun k_ => P0_ k_)) ∧ Aside0 (Below w0.heap.size w0 w'))
        case atStart => exact ⟨rfl, H', ⟨Nat.le_refl _⟩, ⟨by (with_reducible repeat (first | apply Kd.R_alloc | apply Kd.R_drewN | apply Kd.R_drew)); exact HO_0.out⟩, ⟨by repeat (first | (with_reducible first | exact HK.out | apply Kept.alloc | apply Kept.drewN | apply Kept.drew) | exact HK.out)⟩, ⟨by repeat (first | (with_reducible first | exact HB.out | apply below_alloc | apply pw_below_drewN | apply below_drew1) | exact HB.out)⟩⟩
        case round =>
          clear H'
          try clear p2
          try clear c3
          try clear c3b0
          try clear c5
          try clear p6
          try clear c8
          try clear p2
          obtain ⟨rfl, HA, HK2, HO_0, HK, HB⟩ := hrel
          have hl0_2 := (Kd.R_reads' HO_0.out).1
          rw [hl0_2] at HO_0
          (try simp only [hl0_2])
          cases gk with
          | zero => exact absurd HA.out (by simp [raster_edge_58.l1])
          | succ k2 =>
            have H := HA.out
            clear HA
            simp only [raster_edge_58.l1] at H
            by_cases c10 : 20 < a1
            · rw [if_pos c10] at H
              have c10b0 : decide (20 < a1) = true := decide_eq_true c10
              clear c10
              by_cases c11 : 0 ≤ (-1)
              · rw [if_pos c11] at H
                exact absurd c11 (by decide)
              · rw [if_neg c11] at H
                exact absurd H (by simp)
            · rw [if_neg c10] at H
              have c10b0 : decide (20 < a1) = false := decide_eq_false c10
              clear c10
              obtain rfl := Option.some.inj H
              go_wp2
              first | go_end0 | ((try simp only [Exit.inBlock, Exit.then]); refine bodyPost_ret (results_none rfl _ _ _) rfl ?_)
              exact ⟨by first | rfl | (simp [errW_none, errW_some] <;> rfl) | (simp [*, errW_none, errW_some] <;> rfl), (by first | exact (by (with_reducible repeat (first | apply Kd.R_alloc | apply Kd.R_drewN | apply Kd.R_drew)); exact HO_0.out) | (simp only [hl0_2]; exact (by (with_reducible repeat (first | apply Kd.R_alloc | apply Kd.R_drewN | apply Kd.R_drew)); exact HO_0.out))), by repeat (first | (with_reducible first | exact HB.out | apply below_alloc | apply pw_below_drewN | apply below_drew1) | exact HB.out), by repeat (first | (with_reducible first | exact HK.out | apply Kept.alloc | apply Kept.drewN | apply Kept.drew) | exact HK.out)⟩

/-! ### raster_edge_46: function 46 -/
def raster_edge_46.f (k : Nat) (l0 : List (S79)) : Option ((List (S79))) := (raster_edge_58.f k l0 (l0.length : Int)).bind fun t182 => (some t182)
theorem raster_edge_46.mono : ∀ a0 k, LeO (raster_edge_46.f k a0) (raster_edge_46.f (k + 1) a0) := by
  intro a0 k
  unfold raster_edge_46.f
  repeat' first
      | (with_reducible exact raster_edge_58.mono _ _ _)
      | (with_reducible exact LeO.refl _)
      | (with_reducible exact LeO.none _)
      | (with_reducible refine LeO.ite ?_ ?_)
      | (with_reducible refine LeO.bind ?_ (fun _ => ?_))
      | exact raster_edge_58.mono _ _ _
      | exact LeO.none _
      | refine LeO.ite ?_ ?_
      | refine LeO.bind ?_ (fun _ => ?_)
set_option maxHeartbeats 8000000 in
set_option maxRecDepth 100000 in
theorem raster_edge_46.calls (k : Nat) (P0_ : Nat → Prop) (u9000_ : Value) (l0 : List (S79)) (r : List (S79)) (w0 w : World) (hB : Below w0.heap.size w0 w) (ho0 : Kd.R k79 79 w w0.heap.size P0_ u9000_ l0) (h : raster_edge_46.f k l0 = some r) :
    Calls Try.prog 46 #[u9000_, .func (.func 47) #[] #[]] w fun e w' => e = .returned (.tuple #[]) ∧ Kd.R k79 79 w' w0.heap.size (fun k_ => (P0_ k_ ∨ w.heap.size ≤ k_)) u9000_ r ∧ Below w0.heap.size w0 w' ∧ Kept w w' (fun k_ => P0_ k_) := by
  have HO0 := Aside0.mk (show Kd.R k79 79 w w0.heap.size (fun k_ => (P0_ k_ ∨ w.heap.size ≤ k_)) u9000_ l0 from Kd.R_mono ho0 (fun k_ hk => (.inl hk)))
  have HK := Aside0.mk (Kept.refl w (fun k_ => P0_ k_))
  have HW0 := Aside0.mk hB.size
  have HB := Aside0.mk hB
  clear hB
  have H : ((raster_edge_58.f k l0 (l0.length : Int)).bind fun t182 => (some t182)) = some r := h
  clear h
  replace H := Option.bind_eq_some_iff.mp H
  obtain ⟨t182, A20, H⟩ := H
  replace H : (some t182) = some r := H
  have A2 := Aside0.mk A20
  clear A20
  obtain rfl := Option.some.inj H
  obtain ⟨Ao3, co3, eo3⟩ := Kd.R_slice HO0.out
  subst eo3
  go_enter Try.func46, Try.ntmps46
  go_wp2_with (first | ((with_reducible refine gate_callee (f := 58) rfl ?_); refine goesL_ (some 8) rfl rfl Try.func58 (by kernel_rfl) rfl #[.slice Ao3 l0.length co3, .int .i64 (l0.length : Int), .func (.func 47) #[] #[]] rfl (by (try simp only [List.map_toArray, List.map_cons, List.map_nil]); first | done | rfl | (simp only [List.length_drop, List.length_take]; rfl)) ?_; (with_reducible refine (raster_edge_58.calls k (fun k_ => some k_ = (.slice Ao3 l0.length co3 : Value).ownBlock) (.slice Ao3 l0.length co3) l0 (l0.length : Int) t182 w0 _ ?side1 ?side2 A2.out).mono ?_); (case side1 => repeat (first | (with_reducible first | exact HB.out | apply below_alloc | apply pw_below_drewN | apply below_drew1) | exact HB.out)); (case side2 => exact Kd.R_tight rfl HO0.out); rintro e w4 ⟨rfl, hy0, hb, hkp⟩; refine ⟨_, rfl, ?_⟩; have n0_ := Aside0.mk (Kd.R_reok rfl hy0 (fun k_ e_ => HO0.out.1 k_ e_)); have n1_ := Aside0.mk (Kept.then_ (S := (fun k_ => P0_ k_)) (by repeat (first | (with_reducible first | exact HK.out | apply Kept.alloc | apply Kept.drewN | apply Kept.drew) | exact HK.out)) hkp (fun k_ hs_ => (fun e_ => (HO0.out.1 k_ e_.symm)) hs_)); have n2_ := Aside0.mk (hb); clear HO0; clear HK; clear HB; have HO0 := n0_; have HK := n1_; have HB := n2_; clear n0_ n1_ n2_; (try clear hb); (try clear hkp); (try clear hy0)))
  first | go_end0 | ((try simp only [Exit.inBlock, Exit.then]); refine bodyPost_ret (results_none rfl _ _ _) rfl ?_)
  exact ⟨by first | rfl | (simp [errW_none, errW_some] <;> rfl) | (simp [*, errW_none, errW_some] <;> rfl), by (with_reducible repeat (first | apply Kd.R_alloc | apply Kd.R_drewN | apply Kd.R_drew)); exact HO0.out, by repeat (first | (with_reducible first | exact HB.out | apply below_alloc | apply pw_below_drewN | apply below_drew1) | exact HB.out), by repeat (first | (with_reducible first | exact HK.out | apply Kept.alloc | apply Kept.drewN | apply Kept.drew) | exact HK.out)⟩

/-! ### raster_edges: function 33 -/
mutual
def raster_edges.l0 : Nat → List (S79) → List (List (S45)) → Int → Int → Option ((List (S79)))
  | 0, _, _, _, _ => none
  | k + 1, x3, x9, x10, x11 => if x11 < x10 then (if 0 ≤ x11 then (if x11 < (x9.length : Int) then (raster_edges.l1 k x3 (rd_L2 x9 x11) x9 x10 x11 (rd_L2 x9 x11) ((rd_L2 x9 x11).length : Int) 0) else (none)) else (none)) else ((raster_edge_46.f k x3).bind fun t183 => (some t183))
def raster_edges.l1 : Nat → List (S79) → List (S45) → List (List (S45)) → Int → Int → List (S45) → Int → Int → Option ((List (S79)))
  | 0, _, _, _, _, _, _, _, _ => none
  | k + 1, x3, x5, x9, x10, x11, x15, x16, x17 => if x17 < x16 then (if 0 ≤ x17 then (if x17 < (x15.length : Int) then (if (x5.length : Int) = 0 then (none) else (if 0 ≤ (Int.tmod (wrap64 (x17 + 1)) (x5.length : Int)) then (if (Int.tmod (wrap64 (x17 + 1)) (x5.length : Int)) < (x5.length : Int) then (if ((rd_T45 x15 x17).f1) < ((rd_T45 x5 (Int.tmod (wrap64 (x17 + 1)) (x5.length : Int))).f1) then (if x3.length < 3518437208883 then (raster_edges.l1 k (x3 ++ [(⟨(rd_T45 x15 x17).f0, (rd_T45 x15 x17).f1, (rd_T45 x5 (Int.tmod (wrap64 (x17 + 1)) (x5.length : Int))).f0, (rd_T45 x5 (Int.tmod (wrap64 (x17 + 1)) (x5.length : Int))).f1, 1⟩ : S79)]) x5 x9 x10 x11 x15 x16 (wrap64 (x17 + 1))) else (none)) else (if ((rd_T45 x15 x17).f1) > ((rd_T45 x5 (Int.tmod (wrap64 (x17 + 1)) (x5.length : Int))).f1) then (if x3.length < 3518437208883 then (raster_edges.l1 k (x3 ++ [(⟨(rd_T45 x5 (Int.tmod (wrap64 (x17 + 1)) (x5.length : Int))).f0, (rd_T45 x5 (Int.tmod (wrap64 (x17 + 1)) (x5.length : Int))).f1, (rd_T45 x15 x17).f0, (rd_T45 x15 x17).f1, (-1)⟩ : S79)]) x5 x9 x10 x11 x15 x16 (wrap64 (x17 + 1))) else (none)) else (raster_edges.l1 k x3 x5 x9 x10 x11 x15 x16 (wrap64 (x17 + 1))))) else (none)) else (none))) else (none)) else (none)) else (raster_edges.l0 k x3 x9 x10 (wrap64 (x11 + 1)))
end
def raster_edges.f (k : Nat) (l0 : List (List (S45))) : Option ((List (S79))) := raster_edges.l0 k ([] : List (S79)) l0 (l0.length : Int) 0
theorem raster_edges.mono_l : ∀ k, (∀ y0 y1 y2 y3, LeO (raster_edges.l0 k y0 y1 y2 y3) (raster_edges.l0 (k + 1) y0 y1 y2 y3)) ∧ (∀ y0 y1 y2 y3 y4 y5 y6 y7, LeO (raster_edges.l1 k y0 y1 y2 y3 y4 y5 y6 y7) (raster_edges.l1 (k + 1) y0 y1 y2 y3 y4 y5 y6 y7))
  | 0 => ⟨fun _ _ _ _ r h => by simp [raster_edges.l0] at h, fun _ _ _ _ _ _ _ _ r h => by simp [raster_edges.l1] at h⟩
  | k + 1 => by
    obtain ⟨ih0, ih1⟩ := raster_edges.mono_l k
    refine ⟨?_, ?_⟩
    · intro y0 y1 y2 y3
      unfold raster_edges.l0
      repeat' first
      | (with_reducible exact ih0 _ _ _ _)
      | (with_reducible exact ih1 _ _ _ _ _ _ _ _)
      | (with_reducible exact raster_edge_46.mono _ _)
      | (with_reducible exact LeO.refl _)
      | (with_reducible exact LeO.none _)
      | (with_reducible refine LeO.ite ?_ ?_)
      | (with_reducible refine LeO.bind ?_ (fun _ => ?_))
      | exact ih0 _ _ _ _
      | exact ih1 _ _ _ _ _ _ _ _
      | exact raster_edge_46.mono _ _
      | exact LeO.none _
      | refine LeO.ite ?_ ?_
      | refine LeO.bind ?_ (fun _ => ?_)
    · intro y0 y1 y2 y3 y4 y5 y6 y7
      unfold raster_edges.l1
      repeat' first
      | (with_reducible exact ih0 _ _ _ _)
      | (with_reducible exact ih1 _ _ _ _ _ _ _ _)
      | (with_reducible exact raster_edge_46.mono _ _)
      | (with_reducible exact LeO.refl _)
      | (with_reducible exact LeO.none _)
      | (with_reducible refine LeO.ite ?_ ?_)
      | (with_reducible refine LeO.bind ?_ (fun _ => ?_))
      | exact ih0 _ _ _ _
      | exact ih1 _ _ _ _ _ _ _ _
      | exact raster_edge_46.mono _ _
      | exact LeO.none _
      | refine LeO.ite ?_ ?_
      | refine LeO.bind ?_ (fun _ => ?_)
theorem raster_edges.mono : ∀ a0 k, LeO (raster_edges.f k a0) (raster_edges.f (k + 1) a0) := by
  intro a0 k
  obtain ⟨ih0, ih1⟩ := raster_edges.mono_l k
  unfold raster_edges.f
  repeat' first
      | (with_reducible exact ih0 _ _ _ _)
      | (with_reducible exact ih1 _ _ _ _ _ _ _ _)
      | (with_reducible exact raster_edge_46.mono _ _)
      | (with_reducible exact LeO.refl _)
      | (with_reducible exact LeO.none _)
      | (with_reducible refine LeO.ite ?_ ?_)
      | (with_reducible refine LeO.bind ?_ (fun _ => ?_))
      | exact ih0 _ _ _ _
      | exact ih1 _ _ _ _ _ _ _ _
      | exact raster_edge_46.mono _ _
      | exact LeO.none _
      | refine LeO.ite ?_ ?_
      | refine LeO.bind ?_ (fun _ => ?_)
set_option maxHeartbeats 8000000 in
set_option maxRecDepth 100000 in
theorem raster_edges.calls (k : Nat) (A0 : Option Addr) (c0 : Nat) (l0 : List (List (S45))) (r : List (S79)) (w : World) (hr0 : Kd.C (Kd.slice 45 k45) w A0 l0.length l0) (hc0 : l0.length ≤ c0) (h : raster_edges.f k l0 = some r) :
    Calls Try.prog 33 #[.slice A0 l0.length c0] w fun e w' => ∃ v0_ : Value, e = .returned (v0_) ∧ Kd.R k79 79 w' w.heap.size (fun _ => True) v0_ r ∧ Below w.heap.size w w' := by
  have hu45 := Try.underlying45
  have hu79 := Try.underlying79
  have HR0 := Aside0.mk hr0
  have HC0 := Aside0.mk hc0
  clear hr0 hc0
  have HB := Aside0.mk (Below.refl w.heap.size w)
  have H : (raster_edges.l0 k ([] : List (S79)) l0 (l0.length : Int) 0) = some r := h
  clear h
  have H' := Aside0.mk H
  clear H
  go_enter Try.func33, Try.ntmps33
  go_wp2
  go_loopg [3, 11] k (fun kq v3 v11 w' => ∃ (x3_1 : List (S79)) (x11_1 : Int), v11 = .int .i64 x11_1 ∧ Aside0 (raster_edges.l0 kq x3_1 l0 (l0.length : Int) x11_1 = some r) ∧ Aside0 (kq ≤ k) ∧ Aside0 (Kd.R k79 79 w' w.heap.size (fun _ => True) v3 x3_1) ∧ Aside0 (Below w.heap.size w w'))
  case atStart => exact ⟨(([] : List (S79))), (0), (by first | rfl | (simp; done) | (simp [*]; done)), H', ⟨Nat.le_refl _⟩, ⟨by first | exact Kd.R_nil _ _ _ _ _ | exact Kd.N_nil _ _ _ _ _ | exact Kd.V_nil _ _ _ _ _ | exact Kd.Q_nil _ _ _ _ _ | exact Kd.S_nil _ _ _ _ _⟩, ⟨by repeat (first | (with_reducible first | exact HB.out | apply below_alloc | apply pw_below_drewN | apply below_drew1) | exact HB.out)⟩⟩
  case round =>
    clear H'
    obtain ⟨x3_1, x11_1, rfl, HA, HK1, HO_3, HB⟩ := hrel
    cases gk with
    | zero => exact absurd HA.out (by simp [raster_edges.l0])
    | succ k1 =>
      have H := HA.out
      clear HA
      simp only [raster_edges.l0] at H
      by_cases c2 : x11_1 < (l0.length : Int)
      · rw [if_pos c2] at H
        have c2b0 : decide (x11_1 < (l0.length : Int)) = true := decide_eq_true c2
        clear c2
        by_cases c3 : 0 ≤ x11_1
        · rw [if_pos c3] at H
          have c3b0 : decide (0 ≤ x11_1) = true := decide_eq_true c3
          clear c3
          by_cases c4 : x11_1 < (l0.length : Int)
          · rw [if_pos c4] at H
            have c4b0 : decide (x11_1 < (l0.length : Int)) = true := decide_eq_true c4
            clear c4
            have H' := Aside0.mk H
            clear H
            have p184 : 0 ≤ (x11_1 : Int) := of_decide_eq_true (by first | (with_reducible assumption) | assumption)
            have q184 : x11_1 < (l0.length : Int) := of_decide_eq_true (by first | (with_reducible assumption) | assumption)
            obtain ⟨ad184, A184_0, c184_0, e184, hx184_0, hl184_0, hi184_0⟩ := at_L2 HR0.out x11_1 p184 q184
            cases e184
            replace hx184_0 := (HB.out.cell (World.block_lt_of_cell? w _ hx184_0)).trans hx184_0
            have HR184_0 := Aside0.mk hi184_0
            have HC184_0 := Aside0.mk hl184_0
            clear hi184_0 hl184_0
            replace p184 := eq_true p184
            replace q184 := eq_true q184
            go_wp2
            go_loopg [3, 17] k1 (fun kq v3 v17 w' => ∃ (x3_2 : List (S79)) (x17_2 : Int), v17 = .int .i64 x17_2 ∧ Aside0 (raster_edges.l1 kq x3_2 (rd_L2 l0 x11_1) l0 (l0.length : Int) x11_1 (rd_L2 l0 x11_1) ((rd_L2 l0 x11_1).length : Int) x17_2 = some r) ∧ Aside0 (kq ≤ k1) ∧ Aside0 (Kd.R k79 79 w' w.heap.size (fun _ => True) v3 x3_2) ∧ Aside0 (Below w.heap.size w w'))
            case atStart => exact ⟨(x3_1), (0), (by first | rfl | (simp; done) | (simp [*]; done)), H', ⟨Nat.le_refl _⟩, ⟨by (with_reducible repeat (first | apply Kd.R_alloc | apply Kd.R_drewN | apply Kd.R_drew)); exact HO_3.out⟩, ⟨by repeat (first | (with_reducible first | exact HB.out | apply below_alloc | apply pw_below_drewN | apply below_drew1) | exact HB.out)⟩⟩
            case round =>
              clear H'
              try clear c1
              try clear p1
              try clear q1
              try clear hx1
              try clear c2
              try clear c2b0
              try clear p2
              try clear c3
              try clear c3b0
              try clear c4
              try clear c4b0
              try clear hx184_0
              try clear p184
              try clear q184
              obtain ⟨x3_2, x17_2, rfl, HA, HK2, HO_3, HB⟩ := hrel
              cases gk with
              | zero => exact absurd HA.out (by simp [raster_edges.l1])
              | succ k2 =>
                have H := HA.out
                clear HA
                simp only [raster_edges.l1] at H
                by_cases c5 : x17_2 < ((rd_L2 l0 x11_1).length : Int)
                · rw [if_pos c5] at H
                  have c5b0 : decide (x17_2 < ((rd_L2 l0 x11_1).length : Int)) = true := decide_eq_true c5
                  clear c5
                  by_cases c6 : 0 ≤ x17_2
                  · rw [if_pos c6] at H
                    have c6b0 : decide (0 ≤ x17_2) = true := decide_eq_true c6
                    clear c6
                    by_cases c7 : x17_2 < ((rd_L2 l0 x11_1).length : Int)
                    · rw [if_pos c7] at H
                      have c7b0 : decide (x17_2 < ((rd_L2 l0 x11_1).length : Int)) = true := decide_eq_true c7
                      clear c7
                      by_cases c8 : ((rd_L2 l0 x11_1).length : Int) = 0
                      · rw [if_pos c8] at H
                        exact absurd H (by simp)
                      · rw [if_neg c8] at H
                        have c8b0 : (((rd_L2 l0 x11_1).length : Int) == 0) = false := beq_eq_false_iff_ne.mpr c8
                        have c8b1 : (((rd_L2 l0 x11_1).length : Int) != 0) = true := bne_iff_ne.mpr c8
                        have c8b2 : ¬ ((rd_L2 l0 x11_1) = []) := fun h_ => c8 (by rw [h_]; rfl)
                        obtain ⟨ji9, hji9⟩ : ∃ j_ : Int, (Int.tmod (wrap64 (x17_2 + 1)) ((rd_L2 l0 x11_1).length : Int)) = j_ := ⟨_, rfl⟩
                        replace H : (if 0 ≤ (ji9) then (if (ji9) < ((rd_L2 l0 x11_1).length : Int) then (if ((rd_T45 (rd_L2 l0 x11_1) x17_2).f1) < ((rd_T45 (rd_L2 l0 x11_1) (ji9)).f1) then (if x3_2.length < 3518437208883 then (raster_edges.l1 k2 (x3_2 ++ [(⟨(rd_T45 (rd_L2 l0 x11_1) x17_2).f0, (rd_T45 (rd_L2 l0 x11_1) x17_2).f1, (rd_T45 (rd_L2 l0 x11_1) (ji9)).f0, (rd_T45 (rd_L2 l0 x11_1) (ji9)).f1, 1⟩ : S79)]) (rd_L2 l0 x11_1) l0 (l0.length : Int) x11_1 (rd_L2 l0 x11_1) ((rd_L2 l0 x11_1).length : Int) (wrap64 (x17_2 + 1))) else (none)) else (if ((rd_T45 (rd_L2 l0 x11_1) x17_2).f1) > ((rd_T45 (rd_L2 l0 x11_1) (ji9)).f1) then (if x3_2.length < 3518437208883 then (raster_edges.l1 k2 (x3_2 ++ [(⟨(rd_T45 (rd_L2 l0 x11_1) (ji9)).f0, (rd_T45 (rd_L2 l0 x11_1) (ji9)).f1, (rd_T45 (rd_L2 l0 x11_1) x17_2).f0, (rd_T45 (rd_L2 l0 x11_1) x17_2).f1, (-1)⟩ : S79)]) (rd_L2 l0 x11_1) l0 (l0.length : Int) x11_1 (rd_L2 l0 x11_1) ((rd_L2 l0 x11_1).length : Int) (wrap64 (x17_2 + 1))) else (none)) else (raster_edges.l1 k2 x3_2 (rd_L2 l0 x11_1) l0 (l0.length : Int) x11_1 (rd_L2 l0 x11_1) ((rd_L2 l0 x11_1).length : Int) (wrap64 (x17_2 + 1))))) else (none)) else (none)) = some r := by first | (rw [hji9] at H; exact H) | (simp only [hji9] at H ⊢; exact H)
                        by_cases c10 : 0 ≤ (ji9)
                        · rw [if_pos c10] at H
                          have c10b0 : decide (0 ≤ (ji9)) = true := decide_eq_true c10
                          clear c10
                          by_cases c11 : (ji9) < ((rd_L2 l0 x11_1).length : Int)
                          · rw [if_pos c11] at H
                            have c11b0 : decide ((ji9) < ((rd_L2 l0 x11_1).length : Int)) = true := decide_eq_true c11
                            clear c11
                            by_cases c12 : ((rd_T45 (rd_L2 l0 x11_1) x17_2).f1) < ((rd_T45 (rd_L2 l0 x11_1) (ji9)).f1)
                            · rw [if_pos c12] at H
                              have c12b0 : decide (((rd_T45 (rd_L2 l0 x11_1) x17_2).f1) < ((rd_T45 (rd_L2 l0 x11_1) (ji9)).f1)) = true := decide_eq_true c12
                              clear c12
                              by_cases c13 : x3_2.length < 3518437208883
                              · rw [if_pos c13] at H
                                have LMc13 := Aside0.mk c13
                                clear c13
                                obtain ⟨y189, hy189⟩ : ∃ y_ : List (S79), y_ = (x3_2 ++ [(⟨(rd_T45 (rd_L2 l0 x11_1) x17_2).f0, (rd_T45 (rd_L2 l0 x11_1) x17_2).f1, (rd_T45 (rd_L2 l0 x11_1) (ji9)).f0, (rd_T45 (rd_L2 l0 x11_1) (ji9)).f1, 1⟩ : S79)]) := ⟨_, rfl⟩
                                replace H : (raster_edges.l1 k2 y189 (rd_L2 l0 x11_1) l0 (l0.length : Int) x11_1 (rd_L2 l0 x11_1) ((rd_L2 l0 x11_1).length : Int) (wrap64 (x17_2 + 1))) = some r := by first | (rw [hy189]; with_reducible exact H) | (have H2_ := (Option.bind_some _ _).symm.trans H; rw [hy189]; with_reducible exact H2_) | (have H2_ := (Option.bind_some _ _).symm.trans H; with_reducible exact H2_) | with_reducible exact H | (rw [hy189]; exact H) | exact H
                                have Ny189 := Aside0.mk hy189
                                clear hy189
                                have H' := Aside0.mk H
                                clear H
                                have p185 : 0 ≤ (x17_2 : Int) := of_decide_eq_true (by first | (with_reducible assumption) | assumption)
                                have q185 : x17_2 < ((rd_L2 l0 x11_1).length : Int) := of_decide_eq_true (by first | (with_reducible assumption) | assumption)
                                obtain ⟨ad185, e185, hx185_0, hx185_1⟩ := at_T45 HR184_0.out x17_2 p185 q185
                                cases e185
                                replace hx185_0 := (HB.out.cell (World.block_lt_of_cell? w _ hx185_0)).trans hx185_0
                                replace hx185_1 := (HB.out.cell (World.block_lt_of_cell? w _ hx185_1)).trans hx185_1
                                replace p185 := eq_true p185
                                replace q185 := eq_true q185
                                go_wp2_with (first | ((with_reducible refine gate_dst (N := 7) rfl ?_); refine box_event ?hg (N := 7) ?hd (cs := #[.int .i64 0, .int .i64 0]) (t := 45) ?hr ?_; (case hd => rfl); (case hg => rfl); (case hr => first | (go_simp; done) | (go_simp; rfl)); intro gb186 hg w14 hbox hb; have n0_ := Aside0.mk (Kd.R_below (by (with_reducible repeat (first | apply Kd.R_alloc | apply Kd.R_drewN | apply Kd.R_drew)); exact HO_3.out) hb); have n1_ := Aside0.mk (below_step (by repeat (first | (with_reducible first | exact HB.out | apply below_alloc | apply pw_below_drewN | apply below_drew1) | exact HB.out)) hb); have n2_ := Aside0.mk (hbox); have n3_ := Aside0.mk ((by rw [hg]; exact (below_size (by repeat (first | (with_reducible first | exact HB.out | apply below_alloc | apply pw_below_drewN | apply below_drew1) | exact HB.out))) : w.heap.size ≤ gb186)); have n4_ := Aside0.mk ((by rw [hg]; exact (below_size (by repeat (first | (with_reducible first | exact HB.out | apply below_alloc | apply pw_below_drewN | apply below_drew1) | exact HB.out))) : w.heap.size ≤ gb186)); clear HO_3; clear HB; have HO_3 := n0_; have HB := n1_; have BK186 := n2_; have GW186 := n3_; have GE186 := n4_; clear n0_ n1_ n2_ n3_ n4_; clear hb hbox hg; have hcz15_0 : w14.cell? ⟨gb186, 0, none⟩ = some (.int .i64 0) := (blk_cell BK186.out 0).trans rfl; have hcz15_1 : w14.cell? ⟨gb186, 1, none⟩ = some (.int .i64 0) := (blk_cell BK186.out 1).trans rfl; have hfz15_0 := blk_frozen BK186.out 0; have hfz15_1 := blk_frozen BK186.out 1; have p187 : 0 ≤ ((ji9) : Int) := of_decide_eq_true (by first | (with_reducible assumption) | assumption); have q187 : (ji9) < ((rd_L2 l0 x11_1).length : Int) := of_decide_eq_true (by first | (with_reducible assumption) | assumption); obtain ⟨ad187, e187, hx187_0, hx187_1⟩ := at_T45 HR184_0.out (ji9) p187 q187; obtain rfl : ad185 = ad187 := (by injection e187); have hn187_0 : ad185.block ≠ gb186 := Nat.ne_of_lt (Nat.lt_of_lt_of_le (by have := World.block_lt_of_cell? _ _ hx187_0; first | rwa [add_block] at this | exact this) GW186.out); have hn187_1 : ad185.block ≠ gb186 := Nat.ne_of_lt (Nat.lt_of_lt_of_le (by have := World.block_lt_of_cell? _ _ hx187_0; first | rwa [add_block] at this | exact this) GW186.out); replace hx187_0 := (HB.out.cell (World.block_lt_of_cell? w _ hx187_0)).trans hx187_0; replace hx187_1 := (HB.out.cell (World.block_lt_of_cell? w _ hx187_1)).trans hx187_1; replace hx187_0 := (cell_far (p := ⟨gb186, 0, none⟩) (by first | (rw [add_block]; exact hn187_0) | (show (Addr.add _ _).block ≠ _; rw [add_block]; exact hn187_0) | exact hn187_0) (.int .i64 ((rd_T45 (rd_L2 l0 x11_1) x17_2).f0))).trans hx187_0; replace hx187_1 := (cell_far (p := ⟨gb186, 0, none⟩) (by first | (rw [add_block]; exact hn187_0) | (show (Addr.add _ _).block ≠ _; rw [add_block]; exact hn187_0) | exact hn187_0) (.int .i64 ((rd_T45 (rd_L2 l0 x11_1) x17_2).f0))).trans hx187_1; replace hx187_0 := (cell_far (p := ⟨gb186, 1, none⟩) (by first | (rw [add_block]; exact hn187_1) | (show (Addr.add _ _).block ≠ _; rw [add_block]; exact hn187_1) | exact hn187_1) (.int .i64 ((rd_T45 (rd_L2 l0 x11_1) x17_2).f1))).trans hx187_0; replace hx187_1 := (cell_far (p := ⟨gb186, 1, none⟩) (by first | (rw [add_block]; exact hn187_1) | (show (Addr.add _ _).block ≠ _; rw [add_block]; exact hn187_1) | exact hn187_1) (.int .i64 ((rd_T45 (rd_L2 l0 x11_1) x17_2).f1))).trans hx187_1; clear hn187_0; clear hn187_1; replace p187 := eq_true p187; replace q187 := eq_true q187) | ((with_reducible refine gate_dst (N := 8) rfl ?_); refine box_event ?hg (N := 8) ?hd (cs := #[.int .i64 0, .int .i64 0]) (t := 45) ?hr ?_; (case hd => rfl); (case hg => rfl); (case hr => first | (go_simp; done) | (go_simp; rfl)); intro gb188 hg w16 hbox hb; have n0_ := Aside0.mk (Kd.R_below (by (with_reducible repeat (first | apply Kd.R_alloc | apply Kd.R_drewN | apply Kd.R_drew)); exact (Kd.R_mono (Kd.R_far (p := ⟨gb186, 1, none⟩) (Kd.R_far (p := ⟨gb186, 0, none⟩) (Kd.R_types HO_3.out BK186.out (by decide)) (fun _ hk => hk.2) (.int .i64 ((rd_T45 (rd_L2 l0 x11_1) x17_2).f0))) (fun _ hk => hk.2) (.int .i64 ((rd_T45 (rd_L2 l0 x11_1) x17_2).f1))) (fun _ h_ => h_.1))) hb); have n1_ := Aside0.mk (blk_below (g := gb186) (o := .cells #[.int .i64 ((rd_T45 (rd_L2 l0 x11_1) x17_2).f0), .int .i64 ((rd_T45 (rd_L2 l0 x11_1) x17_2).f1)] 45 (0, 0)) (by (with_reducible repeat (first | refine blk_drewN ?_ _ | refine blk_drew ?_ | refine blk_alloc ?_ _)); refine blk_put (cs := #[.int .i64 ((rd_T45 (rd_L2 l0 x11_1) x17_2).f0), .int .i64 0]) ?_ 1 _ rfl; (with_reducible repeat (first | refine blk_drewN ?_ _ | refine blk_drew ?_ | refine blk_alloc ?_ _)); refine blk_put (cs := #[.int .i64 0, .int .i64 0]) ?_ 0 _ rfl; (with_reducible repeat (first | refine blk_drewN ?_ _ | refine blk_drew ?_ | refine blk_alloc ?_ _)); exact BK186.out) hb); have n2_ := Aside0.mk (below_step (by repeat (first | (with_reducible first | exact HB.out | apply below_alloc | apply pw_below_drewN | apply below_drew1 | refine below_set ?_ GE186.out) | exact HB.out)) hb); have n3_ := Aside0.mk (hbox); have n4_ := Aside0.mk ((by rw [hg]; exact (below_size (by repeat (first | (with_reducible first | exact HB.out | apply below_alloc | apply pw_below_drewN | apply below_drew1 | refine below_set ?_ GE186.out) | exact HB.out))) : w.heap.size ≤ gb188)); have n5_ := Aside0.mk ((by rw [hg]; exact (below_size (by repeat (first | (with_reducible first | exact HB.out | apply below_alloc | apply pw_below_drewN | apply below_drew1 | refine below_set ?_ GE186.out) | exact HB.out))) : w.heap.size ≤ gb188)); have n6_ := Aside0.mk ((by rw [hg]; exact Nat.ne_of_lt (blk_lt (g := gb186) (o := .cells #[.int .i64 ((rd_T45 (rd_L2 l0 x11_1) x17_2).f0), .int .i64 ((rd_T45 (rd_L2 l0 x11_1) x17_2).f1)] 45 (0, 0)) (by (with_reducible repeat (first | refine blk_drewN ?_ _ | refine blk_drew ?_ | refine blk_alloc ?_ _)); refine blk_put (cs := #[.int .i64 ((rd_T45 (rd_L2 l0 x11_1) x17_2).f0), .int .i64 0]) ?_ 1 _ rfl; (with_reducible repeat (first | refine blk_drewN ?_ _ | refine blk_drew ?_ | refine blk_alloc ?_ _)); refine blk_put (cs := #[.int .i64 0, .int .i64 0]) ?_ 0 _ rfl; (with_reducible repeat (first | refine blk_drewN ?_ _ | refine blk_drew ?_ | refine blk_alloc ?_ _)); exact BK186.out)) : gb186 ≠ gb188)); have n7_ := Aside0.mk ((by rw [hg]; exact Nat.ne_of_gt (blk_lt (g := gb186) (o := .cells #[.int .i64 ((rd_T45 (rd_L2 l0 x11_1) x17_2).f0), .int .i64 ((rd_T45 (rd_L2 l0 x11_1) x17_2).f1)] 45 (0, 0)) (by (with_reducible repeat (first | refine blk_drewN ?_ _ | refine blk_drew ?_ | refine blk_alloc ?_ _)); refine blk_put (cs := #[.int .i64 ((rd_T45 (rd_L2 l0 x11_1) x17_2).f0), .int .i64 0]) ?_ 1 _ rfl; (with_reducible repeat (first | refine blk_drewN ?_ _ | refine blk_drew ?_ | refine blk_alloc ?_ _)); refine blk_put (cs := #[.int .i64 0, .int .i64 0]) ?_ 0 _ rfl; (with_reducible repeat (first | refine blk_drewN ?_ _ | refine blk_drew ?_ | refine blk_alloc ?_ _)); exact BK186.out)) : gb188 ≠ gb186)); clear HO_3; clear BK186; clear HB; have HO_3 := n0_; have BK186 := n1_; have HB := n2_; have BK188 := n3_; have GW188 := n4_; have GE188 := n5_; have NB186_188 := n6_; have NB188_186 := n7_; clear n0_ n1_ n2_ n3_ n4_ n5_ n6_ n7_; clear hb hbox hg; have hnb17 := NB188_186.out; have hnc17 := NB186_188.out; have hcz18_0 : w16.cell? ⟨gb188, 0, none⟩ = some (.int .i64 0) := (blk_cell BK188.out 0).trans rfl; have hcz18_1 : w16.cell? ⟨gb188, 1, none⟩ = some (.int .i64 0) := (blk_cell BK188.out 1).trans rfl; have hfz18_0 := blk_frozen BK188.out 0; have hfz18_1 := blk_frozen BK188.out 1; have hcz19_0 : w16.cell? ⟨gb186, 0, none⟩ = some (.int .i64 ((rd_T45 (rd_L2 l0 x11_1) x17_2).f0)) := (blk_cell BK186.out 0).trans rfl; have hcz19_1 : w16.cell? ⟨gb186, 1, none⟩ = some (.int .i64 ((rd_T45 (rd_L2 l0 x11_1) x17_2).f1)) := (blk_cell BK186.out 1).trans rfl; have hfz19_0 := blk_frozen BK186.out 0; have hfz19_1 := blk_frozen BK186.out 1) | ((with_reducible refine gate_builtin (b := .append) (xs := #[.tmp 36, .tmp 46]) rfl ?_); at_builtin; refine Kd.R_append k79 (w0 := w) w.heap.size rfl (.tmp 36) (.tmp 46) 60 79 (.agg #[(.int .i64 0), (.int .i64 0), (.int .i64 0), (.int .i64 0), (.int .i64 0)]) 40 rfl Try.underlying60 info79 rfl (by decide) (by omega) u3 x3_2 (⟨(rd_T45 (rd_L2 l0 x11_1) x17_2).f0, (rd_T45 (rd_L2 l0 x11_1) x17_2).f1, (rd_T45 (rd_L2 l0 x11_1) (ji9)).f0, (rd_T45 (rd_L2 l0 x11_1) (ji9)).f1, 1⟩ : S79) [.int .i64 ((rd_T45 (rd_L2 l0 x11_1) x17_2).f0), .int .i64 ((rd_T45 (rd_L2 l0 x11_1) x17_2).f1), .int .i64 ((rd_T45 (rd_L2 l0 x11_1) (ji9)).f0), .int .i64 ((rd_T45 (rd_L2 l0 x11_1) (ji9)).f1), .int .i64 1] (fun _ => True) (fun _ => False) rfl (by first | (go_simp; done) | (go_simp; rfl)) ?aP (fun _ hk => hk.elim) ?aF ?aO ?aB ?aS ?aL ?_; (case aP => exact k79_mkM _ _ _ (⟨(rd_T45 (rd_L2 l0 x11_1) x17_2).f0, (rd_T45 (rd_L2 l0 x11_1) x17_2).f1, (rd_T45 (rd_L2 l0 x11_1) (ji9)).f0, (rd_T45 (rd_L2 l0 x11_1) (ji9)).f1, 1⟩ : S79)); (case aB => exact (by repeat (first | (with_reducible first | exact HB.out | apply below_alloc | apply pw_below_drewN | apply below_drew1 | refine below_set ?_ GE186.out | refine below_set ?_ GE188.out) | exact HB.out))); (case aF => exact (fun _ _ => trivial)); (case aO => exact (by (with_reducible repeat (first | apply Kd.R_alloc | apply Kd.R_drewN | apply Kd.R_drew)); exact Kd.R_mono (Kd.R_far (p := ⟨gb188, 1, none⟩) (Kd.R_far (p := ⟨gb188, 0, none⟩) (Kd.R_types HO_3.out BK188.out (by decide)) (fun _ hk => hk.2) (.int .i64 ((rd_T45 (rd_L2 l0 x11_1) (ji9)).f0))) (fun _ hk => hk.2) (.int .i64 ((rd_T45 (rd_L2 l0 x11_1) (ji9)).f1))) (fun _ hk => trivial))); (case aS => exact (below_size (by repeat (first | (with_reducible first | exact HB.out | apply below_alloc | apply pw_below_drewN | apply below_drew1 | refine below_set ?_ GE186.out | refine below_set ?_ GE188.out) | exact HB.out)))); (case aL => have := LMc13.out; omega); intro v190 w20 ho hb hg hat; rw [← Ny189.out] at ho; have n0_ := Aside0.mk (blk_grown (g := gb186) (o := .cells #[.int .i64 ((rd_T45 (rd_L2 l0 x11_1) x17_2).f0), .int .i64 ((rd_T45 (rd_L2 l0 x11_1) x17_2).f1)] 45 (0, 0)) (by (with_reducible repeat (first | refine blk_drewN ?_ _ | refine blk_drew ?_ | refine blk_alloc ?_ _)); refine blk_far ?_ NB186_188.out _; (with_reducible repeat (first | refine blk_drewN ?_ _ | refine blk_drew ?_ | refine blk_alloc ?_ _)); refine blk_far ?_ NB186_188.out _; (with_reducible repeat (first | refine blk_drewN ?_ _ | refine blk_drew ?_ | refine blk_alloc ?_ _)); exact BK186.out) hg (Kd.R_ne HO_3.out BK186.out (by decide))); have n1_ := Aside0.mk (blk_grown (g := gb188) (o := .cells #[.int .i64 ((rd_T45 (rd_L2 l0 x11_1) (ji9)).f0), .int .i64 ((rd_T45 (rd_L2 l0 x11_1) (ji9)).f1)] 45 (0, 0)) (by (with_reducible repeat (first | refine blk_drewN ?_ _ | refine blk_drew ?_ | refine blk_alloc ?_ _)); refine blk_put (cs := #[.int .i64 ((rd_T45 (rd_L2 l0 x11_1) (ji9)).f0), .int .i64 0]) ?_ 1 _ rfl; (with_reducible repeat (first | refine blk_drewN ?_ _ | refine blk_drew ?_ | refine blk_alloc ?_ _)); refine blk_put (cs := #[.int .i64 0, .int .i64 0]) ?_ 0 _ rfl; (with_reducible repeat (first | refine blk_drewN ?_ _ | refine blk_drew ?_ | refine blk_alloc ?_ _)); exact BK188.out) hg (Kd.R_ne HO_3.out BK188.out (by decide))); have n2_ := Aside0.mk (hb); have n3_ := Aside0.mk (ho); clear BK186; clear BK188; clear HB; clear HO_3; have BK186 := n0_; have BK188 := n1_; have HB := n2_; have HO191 := n3_; clear n0_ n1_ n2_ n3_; clear ho hb hg hat))
                                go_roundg k2
                                case measure => have := HK1.out; have := HK2.out; omega
                                case rel => exact ⟨(y189), (wrap64 (x17_2 + 1)), (by first | rfl | (simp; done) | (simp [*]; done)), H', ⟨by have := HK1.out; have := HK2.out; omega⟩, ⟨by (with_reducible repeat (first | apply Kd.R_alloc | apply Kd.R_drewN | apply Kd.R_drew)); exact HO191.out⟩, ⟨by repeat (first | (with_reducible first | exact HB.out | apply below_alloc | apply pw_below_drewN | apply below_drew1 | refine below_set ?_ GE186.out | refine below_set ?_ GE188.out) | exact HB.out)⟩⟩
                              · rw [if_neg c13] at H
                                exact absurd H (by simp)
                            · rw [if_neg c12] at H
                              have c12b0 : decide (((rd_T45 (rd_L2 l0 x11_1) x17_2).f1) < ((rd_T45 (rd_L2 l0 x11_1) (ji9)).f1)) = false := decide_eq_false c12
                              clear c12
                              by_cases c21 : ((rd_T45 (rd_L2 l0 x11_1) x17_2).f1) > ((rd_T45 (rd_L2 l0 x11_1) (ji9)).f1)
                              · rw [if_pos c21] at H
                                have c21b0 : decide (((rd_T45 (rd_L2 l0 x11_1) (ji9)).f1) < ((rd_T45 (rd_L2 l0 x11_1) x17_2).f1)) = true := decide_eq_true c21
                                clear c21
                                by_cases c22 : x3_2.length < 3518437208883
                                · rw [if_pos c22] at H
                                  have LMc22 := Aside0.mk c22
                                  clear c22
                                  obtain ⟨y192, hy192⟩ : ∃ y_ : List (S79), y_ = (x3_2 ++ [(⟨(rd_T45 (rd_L2 l0 x11_1) (ji9)).f0, (rd_T45 (rd_L2 l0 x11_1) (ji9)).f1, (rd_T45 (rd_L2 l0 x11_1) x17_2).f0, (rd_T45 (rd_L2 l0 x11_1) x17_2).f1, (-1)⟩ : S79)]) := ⟨_, rfl⟩
                                  replace H : (raster_edges.l1 k2 y192 (rd_L2 l0 x11_1) l0 (l0.length : Int) x11_1 (rd_L2 l0 x11_1) ((rd_L2 l0 x11_1).length : Int) (wrap64 (x17_2 + 1))) = some r := by first | (rw [hy192]; with_reducible exact H) | (have H2_ := (Option.bind_some _ _).symm.trans H; rw [hy192]; with_reducible exact H2_) | (have H2_ := (Option.bind_some _ _).symm.trans H; with_reducible exact H2_) | with_reducible exact H | (rw [hy192]; exact H) | exact H
                                  have Ny192 := Aside0.mk hy192
                                  clear hy192
                                  have H' := Aside0.mk H
                                  clear H
                                  have p185 : 0 ≤ (x17_2 : Int) := of_decide_eq_true (by first | (with_reducible assumption) | assumption)
                                  have q185 : x17_2 < ((rd_L2 l0 x11_1).length : Int) := of_decide_eq_true (by first | (with_reducible assumption) | assumption)
                                  obtain ⟨ad185, e185, hx185_0, hx185_1⟩ := at_T45 HR184_0.out x17_2 p185 q185
                                  cases e185
                                  replace hx185_0 := (HB.out.cell (World.block_lt_of_cell? w _ hx185_0)).trans hx185_0
                                  replace hx185_1 := (HB.out.cell (World.block_lt_of_cell? w _ hx185_1)).trans hx185_1
                                  replace p185 := eq_true p185
                                  replace q185 := eq_true q185
                                  go_wp2_with (first | ((with_reducible refine gate_dst (N := 7) rfl ?_); refine box_event ?hg (N := 7) ?hd (cs := #[.int .i64 0, .int .i64 0]) (t := 45) ?hr ?_; (case hd => rfl); (case hg => rfl); (case hr => first | (go_simp; done) | (go_simp; rfl)); intro gb186 hg w23 hbox hb; have n0_ := Aside0.mk (Kd.R_below (by (with_reducible repeat (first | apply Kd.R_alloc | apply Kd.R_drewN | apply Kd.R_drew)); exact HO_3.out) hb); have n1_ := Aside0.mk (below_step (by repeat (first | (with_reducible first | exact HB.out | apply below_alloc | apply pw_below_drewN | apply below_drew1) | exact HB.out)) hb); have n2_ := Aside0.mk (hbox); have n3_ := Aside0.mk ((by rw [hg]; exact (below_size (by repeat (first | (with_reducible first | exact HB.out | apply below_alloc | apply pw_below_drewN | apply below_drew1) | exact HB.out))) : w.heap.size ≤ gb186)); have n4_ := Aside0.mk ((by rw [hg]; exact (below_size (by repeat (first | (with_reducible first | exact HB.out | apply below_alloc | apply pw_below_drewN | apply below_drew1) | exact HB.out))) : w.heap.size ≤ gb186)); clear HO_3; clear HB; have HO_3 := n0_; have HB := n1_; have BK186 := n2_; have GW186 := n3_; have GE186 := n4_; clear n0_ n1_ n2_ n3_ n4_; clear hb hbox hg; have hcz24_0 : w23.cell? ⟨gb186, 0, none⟩ = some (.int .i64 0) := (blk_cell BK186.out 0).trans rfl; have hcz24_1 : w23.cell? ⟨gb186, 1, none⟩ = some (.int .i64 0) := (blk_cell BK186.out 1).trans rfl; have hfz24_0 := blk_frozen BK186.out 0; have hfz24_1 := blk_frozen BK186.out 1; have p187 : 0 ≤ ((ji9) : Int) := of_decide_eq_true (by first | (with_reducible assumption) | assumption); have q187 : (ji9) < ((rd_L2 l0 x11_1).length : Int) := of_decide_eq_true (by first | (with_reducible assumption) | assumption); obtain ⟨ad187, e187, hx187_0, hx187_1⟩ := at_T45 HR184_0.out (ji9) p187 q187; obtain rfl : ad185 = ad187 := (by injection e187); have hn187_0 : ad185.block ≠ gb186 := Nat.ne_of_lt (Nat.lt_of_lt_of_le (by have := World.block_lt_of_cell? _ _ hx187_0; first | rwa [add_block] at this | exact this) GW186.out); have hn187_1 : ad185.block ≠ gb186 := Nat.ne_of_lt (Nat.lt_of_lt_of_le (by have := World.block_lt_of_cell? _ _ hx187_0; first | rwa [add_block] at this | exact this) GW186.out); replace hx187_0 := (HB.out.cell (World.block_lt_of_cell? w _ hx187_0)).trans hx187_0; replace hx187_1 := (HB.out.cell (World.block_lt_of_cell? w _ hx187_1)).trans hx187_1; replace hx187_0 := (cell_far (p := ⟨gb186, 0, none⟩) (by first | (rw [add_block]; exact hn187_0) | (show (Addr.add _ _).block ≠ _; rw [add_block]; exact hn187_0) | exact hn187_0) (.int .i64 ((rd_T45 (rd_L2 l0 x11_1) x17_2).f0))).trans hx187_0; replace hx187_1 := (cell_far (p := ⟨gb186, 0, none⟩) (by first | (rw [add_block]; exact hn187_0) | (show (Addr.add _ _).block ≠ _; rw [add_block]; exact hn187_0) | exact hn187_0) (.int .i64 ((rd_T45 (rd_L2 l0 x11_1) x17_2).f0))).trans hx187_1; replace hx187_0 := (cell_far (p := ⟨gb186, 1, none⟩) (by first | (rw [add_block]; exact hn187_1) | (show (Addr.add _ _).block ≠ _; rw [add_block]; exact hn187_1) | exact hn187_1) (.int .i64 ((rd_T45 (rd_L2 l0 x11_1) x17_2).f1))).trans hx187_0; replace hx187_1 := (cell_far (p := ⟨gb186, 1, none⟩) (by first | (rw [add_block]; exact hn187_1) | (show (Addr.add _ _).block ≠ _; rw [add_block]; exact hn187_1) | exact hn187_1) (.int .i64 ((rd_T45 (rd_L2 l0 x11_1) x17_2).f1))).trans hx187_1; clear hn187_0; clear hn187_1; replace p187 := eq_true p187; replace q187 := eq_true q187) | ((with_reducible refine gate_dst (N := 8) rfl ?_); refine box_event ?hg (N := 8) ?hd (cs := #[.int .i64 0, .int .i64 0]) (t := 45) ?hr ?_; (case hd => rfl); (case hg => rfl); (case hr => first | (go_simp; done) | (go_simp; rfl)); intro gb188 hg w25 hbox hb; have n0_ := Aside0.mk (Kd.R_below (by (with_reducible repeat (first | apply Kd.R_alloc | apply Kd.R_drewN | apply Kd.R_drew)); exact (Kd.R_mono (Kd.R_far (p := ⟨gb186, 1, none⟩) (Kd.R_far (p := ⟨gb186, 0, none⟩) (Kd.R_types HO_3.out BK186.out (by decide)) (fun _ hk => hk.2) (.int .i64 ((rd_T45 (rd_L2 l0 x11_1) x17_2).f0))) (fun _ hk => hk.2) (.int .i64 ((rd_T45 (rd_L2 l0 x11_1) x17_2).f1))) (fun _ h_ => h_.1))) hb); have n1_ := Aside0.mk (blk_below (g := gb186) (o := .cells #[.int .i64 ((rd_T45 (rd_L2 l0 x11_1) x17_2).f0), .int .i64 ((rd_T45 (rd_L2 l0 x11_1) x17_2).f1)] 45 (0, 0)) (by (with_reducible repeat (first | refine blk_drewN ?_ _ | refine blk_drew ?_ | refine blk_alloc ?_ _)); refine blk_put (cs := #[.int .i64 ((rd_T45 (rd_L2 l0 x11_1) x17_2).f0), .int .i64 0]) ?_ 1 _ rfl; (with_reducible repeat (first | refine blk_drewN ?_ _ | refine blk_drew ?_ | refine blk_alloc ?_ _)); refine blk_put (cs := #[.int .i64 0, .int .i64 0]) ?_ 0 _ rfl; (with_reducible repeat (first | refine blk_drewN ?_ _ | refine blk_drew ?_ | refine blk_alloc ?_ _)); exact BK186.out) hb); have n2_ := Aside0.mk (below_step (by repeat (first | (with_reducible first | exact HB.out | apply below_alloc | apply pw_below_drewN | apply below_drew1 | refine below_set ?_ GE186.out) | exact HB.out)) hb); have n3_ := Aside0.mk (hbox); have n4_ := Aside0.mk ((by rw [hg]; exact (below_size (by repeat (first | (with_reducible first | exact HB.out | apply below_alloc | apply pw_below_drewN | apply below_drew1 | refine below_set ?_ GE186.out) | exact HB.out))) : w.heap.size ≤ gb188)); have n5_ := Aside0.mk ((by rw [hg]; exact (below_size (by repeat (first | (with_reducible first | exact HB.out | apply below_alloc | apply pw_below_drewN | apply below_drew1 | refine below_set ?_ GE186.out) | exact HB.out))) : w.heap.size ≤ gb188)); have n6_ := Aside0.mk ((by rw [hg]; exact Nat.ne_of_lt (blk_lt (g := gb186) (o := .cells #[.int .i64 ((rd_T45 (rd_L2 l0 x11_1) x17_2).f0), .int .i64 ((rd_T45 (rd_L2 l0 x11_1) x17_2).f1)] 45 (0, 0)) (by (with_reducible repeat (first | refine blk_drewN ?_ _ | refine blk_drew ?_ | refine blk_alloc ?_ _)); refine blk_put (cs := #[.int .i64 ((rd_T45 (rd_L2 l0 x11_1) x17_2).f0), .int .i64 0]) ?_ 1 _ rfl; (with_reducible repeat (first | refine blk_drewN ?_ _ | refine blk_drew ?_ | refine blk_alloc ?_ _)); refine blk_put (cs := #[.int .i64 0, .int .i64 0]) ?_ 0 _ rfl; (with_reducible repeat (first | refine blk_drewN ?_ _ | refine blk_drew ?_ | refine blk_alloc ?_ _)); exact BK186.out)) : gb186 ≠ gb188)); have n7_ := Aside0.mk ((by rw [hg]; exact Nat.ne_of_gt (blk_lt (g := gb186) (o := .cells #[.int .i64 ((rd_T45 (rd_L2 l0 x11_1) x17_2).f0), .int .i64 ((rd_T45 (rd_L2 l0 x11_1) x17_2).f1)] 45 (0, 0)) (by (with_reducible repeat (first | refine blk_drewN ?_ _ | refine blk_drew ?_ | refine blk_alloc ?_ _)); refine blk_put (cs := #[.int .i64 ((rd_T45 (rd_L2 l0 x11_1) x17_2).f0), .int .i64 0]) ?_ 1 _ rfl; (with_reducible repeat (first | refine blk_drewN ?_ _ | refine blk_drew ?_ | refine blk_alloc ?_ _)); refine blk_put (cs := #[.int .i64 0, .int .i64 0]) ?_ 0 _ rfl; (with_reducible repeat (first | refine blk_drewN ?_ _ | refine blk_drew ?_ | refine blk_alloc ?_ _)); exact BK186.out)) : gb188 ≠ gb186)); clear HO_3; clear BK186; clear HB; have HO_3 := n0_; have BK186 := n1_; have HB := n2_; have BK188 := n3_; have GW188 := n4_; have GE188 := n5_; have NB186_188 := n6_; have NB188_186 := n7_; clear n0_ n1_ n2_ n3_ n4_ n5_ n6_ n7_; clear hb hbox hg; have hnb26 := NB188_186.out; have hnc26 := NB186_188.out; have hcz27_0 : w25.cell? ⟨gb188, 0, none⟩ = some (.int .i64 0) := (blk_cell BK188.out 0).trans rfl; have hcz27_1 : w25.cell? ⟨gb188, 1, none⟩ = some (.int .i64 0) := (blk_cell BK188.out 1).trans rfl; have hfz27_0 := blk_frozen BK188.out 0; have hfz27_1 := blk_frozen BK188.out 1; have hcz28_0 : w25.cell? ⟨gb186, 0, none⟩ = some (.int .i64 ((rd_T45 (rd_L2 l0 x11_1) x17_2).f0)) := (blk_cell BK186.out 0).trans rfl; have hcz28_1 : w25.cell? ⟨gb186, 1, none⟩ = some (.int .i64 ((rd_T45 (rd_L2 l0 x11_1) x17_2).f1)) := (blk_cell BK186.out 1).trans rfl; have hfz28_0 := blk_frozen BK186.out 0; have hfz28_1 := blk_frozen BK186.out 1) | ((with_reducible refine gate_builtin (b := .append) (xs := #[.tmp 54, .tmp 64]) rfl ?_); at_builtin; refine Kd.R_append k79 (w0 := w) w.heap.size rfl (.tmp 54) (.tmp 64) 60 79 (.agg #[(.int .i64 0), (.int .i64 0), (.int .i64 0), (.int .i64 0), (.int .i64 0)]) 40 rfl Try.underlying60 info79 rfl (by decide) (by omega) u3 x3_2 (⟨(rd_T45 (rd_L2 l0 x11_1) (ji9)).f0, (rd_T45 (rd_L2 l0 x11_1) (ji9)).f1, (rd_T45 (rd_L2 l0 x11_1) x17_2).f0, (rd_T45 (rd_L2 l0 x11_1) x17_2).f1, (-1)⟩ : S79) [.int .i64 ((rd_T45 (rd_L2 l0 x11_1) (ji9)).f0), .int .i64 ((rd_T45 (rd_L2 l0 x11_1) (ji9)).f1), .int .i64 ((rd_T45 (rd_L2 l0 x11_1) x17_2).f0), .int .i64 ((rd_T45 (rd_L2 l0 x11_1) x17_2).f1), .int .i64 (-1)] (fun _ => True) (fun _ => False) rfl (by first | (go_simp; done) | (go_simp; rfl)) ?aP (fun _ hk => hk.elim) ?aF ?aO ?aB ?aS ?aL ?_; (case aP => exact k79_mkM _ _ _ (⟨(rd_T45 (rd_L2 l0 x11_1) (ji9)).f0, (rd_T45 (rd_L2 l0 x11_1) (ji9)).f1, (rd_T45 (rd_L2 l0 x11_1) x17_2).f0, (rd_T45 (rd_L2 l0 x11_1) x17_2).f1, (-1)⟩ : S79)); (case aB => exact (by repeat (first | (with_reducible first | exact HB.out | apply below_alloc | apply pw_below_drewN | apply below_drew1 | refine below_set ?_ GE186.out | refine below_set ?_ GE188.out) | exact HB.out))); (case aF => exact (fun _ _ => trivial)); (case aO => exact (by (with_reducible repeat (first | apply Kd.R_alloc | apply Kd.R_drewN | apply Kd.R_drew)); exact Kd.R_mono (Kd.R_far (p := ⟨gb188, 1, none⟩) (Kd.R_far (p := ⟨gb188, 0, none⟩) (Kd.R_types HO_3.out BK188.out (by decide)) (fun _ hk => hk.2) (.int .i64 ((rd_T45 (rd_L2 l0 x11_1) (ji9)).f0))) (fun _ hk => hk.2) (.int .i64 ((rd_T45 (rd_L2 l0 x11_1) (ji9)).f1))) (fun _ hk => trivial))); (case aS => exact (below_size (by repeat (first | (with_reducible first | exact HB.out | apply below_alloc | apply pw_below_drewN | apply below_drew1 | refine below_set ?_ GE186.out | refine below_set ?_ GE188.out) | exact HB.out)))); (case aL => have := LMc22.out; omega); intro v193 w29 ho hb hg hat; rw [← Ny192.out] at ho; have n0_ := Aside0.mk (blk_grown (g := gb186) (o := .cells #[.int .i64 ((rd_T45 (rd_L2 l0 x11_1) x17_2).f0), .int .i64 ((rd_T45 (rd_L2 l0 x11_1) x17_2).f1)] 45 (0, 0)) (by (with_reducible repeat (first | refine blk_drewN ?_ _ | refine blk_drew ?_ | refine blk_alloc ?_ _)); refine blk_far ?_ NB186_188.out _; (with_reducible repeat (first | refine blk_drewN ?_ _ | refine blk_drew ?_ | refine blk_alloc ?_ _)); refine blk_far ?_ NB186_188.out _; (with_reducible repeat (first | refine blk_drewN ?_ _ | refine blk_drew ?_ | refine blk_alloc ?_ _)); exact BK186.out) hg (Kd.R_ne HO_3.out BK186.out (by decide))); have n1_ := Aside0.mk (blk_grown (g := gb188) (o := .cells #[.int .i64 ((rd_T45 (rd_L2 l0 x11_1) (ji9)).f0), .int .i64 ((rd_T45 (rd_L2 l0 x11_1) (ji9)).f1)] 45 (0, 0)) (by (with_reducible repeat (first | refine blk_drewN ?_ _ | refine blk_drew ?_ | refine blk_alloc ?_ _)); refine blk_put (cs := #[.int .i64 ((rd_T45 (rd_L2 l0 x11_1) (ji9)).f0), .int .i64 0]) ?_ 1 _ rfl; (with_reducible repeat (first | refine blk_drewN ?_ _ | refine blk_drew ?_ | refine blk_alloc ?_ _)); refine blk_put (cs := #[.int .i64 0, .int .i64 0]) ?_ 0 _ rfl; (with_reducible repeat (first | refine blk_drewN ?_ _ | refine blk_drew ?_ | refine blk_alloc ?_ _)); exact BK188.out) hg (Kd.R_ne HO_3.out BK188.out (by decide))); have n2_ := Aside0.mk (hb); have n3_ := Aside0.mk (ho); clear BK186; clear BK188; clear HB; clear HO_3; have BK186 := n0_; have BK188 := n1_; have HB := n2_; have HO194 := n3_; clear n0_ n1_ n2_ n3_; clear ho hb hg hat))
                                  go_roundg k2
                                  case measure => have := HK1.out; have := HK2.out; omega
                                  case rel => exact ⟨(y192), (wrap64 (x17_2 + 1)), (by first | rfl | (simp; done) | (simp [*]; done)), H', ⟨by have := HK1.out; have := HK2.out; omega⟩, ⟨by (with_reducible repeat (first | apply Kd.R_alloc | apply Kd.R_drewN | apply Kd.R_drew)); exact HO194.out⟩, ⟨by repeat (first | (with_reducible first | exact HB.out | apply below_alloc | apply pw_below_drewN | apply below_drew1 | refine below_set ?_ GE186.out | refine below_set ?_ GE188.out) | exact HB.out)⟩⟩
                                · rw [if_neg c22] at H
                                  exact absurd H (by simp)
                              · rw [if_neg c21] at H
                                have c21b0 : decide (((rd_T45 (rd_L2 l0 x11_1) (ji9)).f1) < ((rd_T45 (rd_L2 l0 x11_1) x17_2).f1)) = false := decide_eq_false c21
                                clear c21
                                have H' := Aside0.mk H
                                clear H
                                have p185 : 0 ≤ (x17_2 : Int) := of_decide_eq_true (by first | (with_reducible assumption) | assumption)
                                have q185 : x17_2 < ((rd_L2 l0 x11_1).length : Int) := of_decide_eq_true (by first | (with_reducible assumption) | assumption)
                                obtain ⟨ad185, e185, hx185_0, hx185_1⟩ := at_T45 HR184_0.out x17_2 p185 q185
                                cases e185
                                replace hx185_0 := (HB.out.cell (World.block_lt_of_cell? w _ hx185_0)).trans hx185_0
                                replace hx185_1 := (HB.out.cell (World.block_lt_of_cell? w _ hx185_1)).trans hx185_1
                                replace p185 := eq_true p185
                                replace q185 := eq_true q185
                                go_wp2_with (first | ((with_reducible refine gate_dst (N := 7) rfl ?_); refine box_event ?hg (N := 7) ?hd (cs := #[.int .i64 0, .int .i64 0]) (t := 45) ?hr ?_; (case hd => rfl); (case hg => rfl); (case hr => first | (go_simp; done) | (go_simp; rfl)); intro gb186 hg w30 hbox hb; have n0_ := Aside0.mk (Kd.R_below (by (with_reducible repeat (first | apply Kd.R_alloc | apply Kd.R_drewN | apply Kd.R_drew)); exact HO_3.out) hb); have n1_ := Aside0.mk (below_step (by repeat (first | (with_reducible first | exact HB.out | apply below_alloc | apply pw_below_drewN | apply below_drew1) | exact HB.out)) hb); have n2_ := Aside0.mk (hbox); have n3_ := Aside0.mk ((by rw [hg]; exact (below_size (by repeat (first | (with_reducible first | exact HB.out | apply below_alloc | apply pw_below_drewN | apply below_drew1) | exact HB.out))) : w.heap.size ≤ gb186)); have n4_ := Aside0.mk ((by rw [hg]; exact (below_size (by repeat (first | (with_reducible first | exact HB.out | apply below_alloc | apply pw_below_drewN | apply below_drew1) | exact HB.out))) : w.heap.size ≤ gb186)); clear HO_3; clear HB; have HO_3 := n0_; have HB := n1_; have BK186 := n2_; have GW186 := n3_; have GE186 := n4_; clear n0_ n1_ n2_ n3_ n4_; clear hb hbox hg; have hcz31_0 : w30.cell? ⟨gb186, 0, none⟩ = some (.int .i64 0) := (blk_cell BK186.out 0).trans rfl; have hcz31_1 : w30.cell? ⟨gb186, 1, none⟩ = some (.int .i64 0) := (blk_cell BK186.out 1).trans rfl; have hfz31_0 := blk_frozen BK186.out 0; have hfz31_1 := blk_frozen BK186.out 1; have p187 : 0 ≤ ((ji9) : Int) := of_decide_eq_true (by first | (with_reducible assumption) | assumption); have q187 : (ji9) < ((rd_L2 l0 x11_1).length : Int) := of_decide_eq_true (by first | (with_reducible assumption) | assumption); obtain ⟨ad187, e187, hx187_0, hx187_1⟩ := at_T45 HR184_0.out (ji9) p187 q187; obtain rfl : ad185 = ad187 := (by injection e187); have hn187_0 : ad185.block ≠ gb186 := Nat.ne_of_lt (Nat.lt_of_lt_of_le (by have := World.block_lt_of_cell? _ _ hx187_0; first | rwa [add_block] at this | exact this) GW186.out); have hn187_1 : ad185.block ≠ gb186 := Nat.ne_of_lt (Nat.lt_of_lt_of_le (by have := World.block_lt_of_cell? _ _ hx187_0; first | rwa [add_block] at this | exact this) GW186.out); replace hx187_0 := (HB.out.cell (World.block_lt_of_cell? w _ hx187_0)).trans hx187_0; replace hx187_1 := (HB.out.cell (World.block_lt_of_cell? w _ hx187_1)).trans hx187_1; replace hx187_0 := (cell_far (p := ⟨gb186, 0, none⟩) (by first | (rw [add_block]; exact hn187_0) | (show (Addr.add _ _).block ≠ _; rw [add_block]; exact hn187_0) | exact hn187_0) (.int .i64 ((rd_T45 (rd_L2 l0 x11_1) x17_2).f0))).trans hx187_0; replace hx187_1 := (cell_far (p := ⟨gb186, 0, none⟩) (by first | (rw [add_block]; exact hn187_0) | (show (Addr.add _ _).block ≠ _; rw [add_block]; exact hn187_0) | exact hn187_0) (.int .i64 ((rd_T45 (rd_L2 l0 x11_1) x17_2).f0))).trans hx187_1; replace hx187_0 := (cell_far (p := ⟨gb186, 1, none⟩) (by first | (rw [add_block]; exact hn187_1) | (show (Addr.add _ _).block ≠ _; rw [add_block]; exact hn187_1) | exact hn187_1) (.int .i64 ((rd_T45 (rd_L2 l0 x11_1) x17_2).f1))).trans hx187_0; replace hx187_1 := (cell_far (p := ⟨gb186, 1, none⟩) (by first | (rw [add_block]; exact hn187_1) | (show (Addr.add _ _).block ≠ _; rw [add_block]; exact hn187_1) | exact hn187_1) (.int .i64 ((rd_T45 (rd_L2 l0 x11_1) x17_2).f1))).trans hx187_1; clear hn187_0; clear hn187_1; replace p187 := eq_true p187; replace q187 := eq_true q187) | ((with_reducible refine gate_dst (N := 8) rfl ?_); refine box_event ?hg (N := 8) ?hd (cs := #[.int .i64 0, .int .i64 0]) (t := 45) ?hr ?_; (case hd => rfl); (case hg => rfl); (case hr => first | (go_simp; done) | (go_simp; rfl)); intro gb188 hg w32 hbox hb; have n0_ := Aside0.mk (Kd.R_below (by (with_reducible repeat (first | apply Kd.R_alloc | apply Kd.R_drewN | apply Kd.R_drew)); exact (Kd.R_mono (Kd.R_far (p := ⟨gb186, 1, none⟩) (Kd.R_far (p := ⟨gb186, 0, none⟩) (Kd.R_types HO_3.out BK186.out (by decide)) (fun _ hk => hk.2) (.int .i64 ((rd_T45 (rd_L2 l0 x11_1) x17_2).f0))) (fun _ hk => hk.2) (.int .i64 ((rd_T45 (rd_L2 l0 x11_1) x17_2).f1))) (fun _ h_ => h_.1))) hb); have n1_ := Aside0.mk (blk_below (g := gb186) (o := .cells #[.int .i64 ((rd_T45 (rd_L2 l0 x11_1) x17_2).f0), .int .i64 ((rd_T45 (rd_L2 l0 x11_1) x17_2).f1)] 45 (0, 0)) (by (with_reducible repeat (first | refine blk_drewN ?_ _ | refine blk_drew ?_ | refine blk_alloc ?_ _)); refine blk_put (cs := #[.int .i64 ((rd_T45 (rd_L2 l0 x11_1) x17_2).f0), .int .i64 0]) ?_ 1 _ rfl; (with_reducible repeat (first | refine blk_drewN ?_ _ | refine blk_drew ?_ | refine blk_alloc ?_ _)); refine blk_put (cs := #[.int .i64 0, .int .i64 0]) ?_ 0 _ rfl; (with_reducible repeat (first | refine blk_drewN ?_ _ | refine blk_drew ?_ | refine blk_alloc ?_ _)); exact BK186.out) hb); have n2_ := Aside0.mk (below_step (by repeat (first | (with_reducible first | exact HB.out | apply below_alloc | apply pw_below_drewN | apply below_drew1 | refine below_set ?_ GE186.out) | exact HB.out)) hb); have n3_ := Aside0.mk (hbox); have n4_ := Aside0.mk ((by rw [hg]; exact (below_size (by repeat (first | (with_reducible first | exact HB.out | apply below_alloc | apply pw_below_drewN | apply below_drew1 | refine below_set ?_ GE186.out) | exact HB.out))) : w.heap.size ≤ gb188)); have n5_ := Aside0.mk ((by rw [hg]; exact (below_size (by repeat (first | (with_reducible first | exact HB.out | apply below_alloc | apply pw_below_drewN | apply below_drew1 | refine below_set ?_ GE186.out) | exact HB.out))) : w.heap.size ≤ gb188)); have n6_ := Aside0.mk ((by rw [hg]; exact Nat.ne_of_lt (blk_lt (g := gb186) (o := .cells #[.int .i64 ((rd_T45 (rd_L2 l0 x11_1) x17_2).f0), .int .i64 ((rd_T45 (rd_L2 l0 x11_1) x17_2).f1)] 45 (0, 0)) (by (with_reducible repeat (first | refine blk_drewN ?_ _ | refine blk_drew ?_ | refine blk_alloc ?_ _)); refine blk_put (cs := #[.int .i64 ((rd_T45 (rd_L2 l0 x11_1) x17_2).f0), .int .i64 0]) ?_ 1 _ rfl; (with_reducible repeat (first | refine blk_drewN ?_ _ | refine blk_drew ?_ | refine blk_alloc ?_ _)); refine blk_put (cs := #[.int .i64 0, .int .i64 0]) ?_ 0 _ rfl; (with_reducible repeat (first | refine blk_drewN ?_ _ | refine blk_drew ?_ | refine blk_alloc ?_ _)); exact BK186.out)) : gb186 ≠ gb188)); have n7_ := Aside0.mk ((by rw [hg]; exact Nat.ne_of_gt (blk_lt (g := gb186) (o := .cells #[.int .i64 ((rd_T45 (rd_L2 l0 x11_1) x17_2).f0), .int .i64 ((rd_T45 (rd_L2 l0 x11_1) x17_2).f1)] 45 (0, 0)) (by (with_reducible repeat (first | refine blk_drewN ?_ _ | refine blk_drew ?_ | refine blk_alloc ?_ _)); refine blk_put (cs := #[.int .i64 ((rd_T45 (rd_L2 l0 x11_1) x17_2).f0), .int .i64 0]) ?_ 1 _ rfl; (with_reducible repeat (first | refine blk_drewN ?_ _ | refine blk_drew ?_ | refine blk_alloc ?_ _)); refine blk_put (cs := #[.int .i64 0, .int .i64 0]) ?_ 0 _ rfl; (with_reducible repeat (first | refine blk_drewN ?_ _ | refine blk_drew ?_ | refine blk_alloc ?_ _)); exact BK186.out)) : gb188 ≠ gb186)); clear HO_3; clear BK186; clear HB; have HO_3 := n0_; have BK186 := n1_; have HB := n2_; have BK188 := n3_; have GW188 := n4_; have GE188 := n5_; have NB186_188 := n6_; have NB188_186 := n7_; clear n0_ n1_ n2_ n3_ n4_ n5_ n6_ n7_; clear hb hbox hg; have hnb33 := NB188_186.out; have hnc33 := NB186_188.out; have hcz34_0 : w32.cell? ⟨gb188, 0, none⟩ = some (.int .i64 0) := (blk_cell BK188.out 0).trans rfl; have hcz34_1 : w32.cell? ⟨gb188, 1, none⟩ = some (.int .i64 0) := (blk_cell BK188.out 1).trans rfl; have hfz34_0 := blk_frozen BK188.out 0; have hfz34_1 := blk_frozen BK188.out 1; have hcz35_0 : w32.cell? ⟨gb186, 0, none⟩ = some (.int .i64 ((rd_T45 (rd_L2 l0 x11_1) x17_2).f0)) := (blk_cell BK186.out 0).trans rfl; have hcz35_1 : w32.cell? ⟨gb186, 1, none⟩ = some (.int .i64 ((rd_T45 (rd_L2 l0 x11_1) x17_2).f1)) := (blk_cell BK186.out 1).trans rfl; have hfz35_0 := blk_frozen BK186.out 0; have hfz35_1 := blk_frozen BK186.out 1))
                                go_roundg k2
                                case measure => have := HK1.out; have := HK2.out; omega
                                case rel => exact ⟨(x3_2), (wrap64 (x17_2 + 1)), (by first | rfl | (simp; done) | (simp [*]; done)), H', ⟨by have := HK1.out; have := HK2.out; omega⟩, ⟨by (with_reducible repeat (first | apply Kd.R_alloc | apply Kd.R_drewN | apply Kd.R_drew)); exact Kd.R_mono (Kd.R_far (p := ⟨gb188, 1, none⟩) (Kd.R_far (p := ⟨gb188, 0, none⟩) (Kd.R_types HO_3.out BK188.out (by decide)) (fun _ hk => hk.2) (.int .i64 ((rd_T45 (rd_L2 l0 x11_1) (ji9)).f0))) (fun _ hk => hk.2) (.int .i64 ((rd_T45 (rd_L2 l0 x11_1) (ji9)).f1))) (fun _ hk => trivial)⟩, ⟨by repeat (first | (with_reducible first | exact HB.out | apply below_alloc | apply pw_below_drewN | apply below_drew1 | refine below_set ?_ GE186.out | refine below_set ?_ GE188.out) | exact HB.out)⟩⟩
                          · rw [if_neg c11] at H
                            exact absurd H (by simp)
                        · rw [if_neg c10] at H
                          exact absurd H (by simp)
                    · rw [if_neg c7] at H
                      exact absurd H (by simp)
                  · rw [if_neg c6] at H
                    exact absurd H (by simp)
                · rw [if_neg c5] at H
                  have c5b0 : decide (x17_2 < ((rd_L2 l0 x11_1).length : Int)) = false := decide_eq_false c5
                  clear c5
                  have H' := Aside0.mk H
                  clear H
                  go_wp2
                  go_roundg k2
                  case measure => have := HK1.out; have := HK2.out; omega
                  case rel => exact ⟨(x3_2), (wrap64 (x11_1 + 1)), (by first | rfl | (simp; done) | (simp [*]; done)), H', ⟨by have := HK1.out; have := HK2.out; omega⟩, ⟨by (with_reducible repeat (first | apply Kd.R_alloc | apply Kd.R_drewN | apply Kd.R_drew)); exact HO_3.out⟩, ⟨by repeat (first | (with_reducible first | exact HB.out | apply below_alloc | apply pw_below_drewN | apply below_drew1) | exact HB.out)⟩⟩
          · rw [if_neg c4] at H
            exact absurd H (by simp)
        · rw [if_neg c3] at H
          exact absurd H (by simp)
      · rw [if_neg c2] at H
        have c2b0 : decide (x11_1 < (l0.length : Int)) = false := decide_eq_false c2
        clear c2
        replace H := Option.bind_eq_some_iff.mp H
        obtain ⟨t183, A360, H⟩ := H
        replace H : (some t183) = some r := H
        have A36 := Aside0.mk A360
        clear A360
        obtain rfl := Option.some.inj H
        obtain ⟨Ao37, co37, eo37⟩ := Kd.R_slice HO_3.out
        subst eo37
        go_wp2_with (first | ((with_reducible refine gate_callee (f := 46) rfl ?_); refine goesL_ (some 69) rfl rfl Try.func46 (by kernel_rfl) rfl #[.slice Ao37 x3_1.length co37, .func (.func 47) #[] #[]] rfl (by (try simp only [List.map_toArray, List.map_cons, List.map_nil]); first | done | rfl | (simp only [List.length_drop, List.length_take]; rfl)) ?_; (with_reducible refine (raster_edge_46.calls k1 (fun k_ => some k_ = (.slice Ao37 x3_1.length co37 : Value).ownBlock) (.slice Ao37 x3_1.length co37) x3_1 t183 w _ ?side1 ?side2 A36.out).mono ?_); (case side1 => repeat (first | (with_reducible first | exact HB.out | apply below_alloc | apply pw_below_drewN | apply below_drew1) | exact HB.out)); (case side2 => exact Kd.R_tight rfl HO_3.out); rintro e w38 ⟨rfl, hy0, hb, hkp⟩; refine ⟨_, rfl, ?_⟩; have n0_ := Aside0.mk (Kd.R_reok rfl hy0 (fun k_ e_ => HO_3.out.1 k_ e_)); have n1_ := Aside0.mk (hb); clear HO_3; clear HB; have HO_3 := n0_; have HB := n1_; clear n0_ n1_; (try clear hb); (try clear hkp); (try clear hy0)))
        go_ret
        exact ⟨_, by first | rfl | (simp [errW_none, errW_some] <;> rfl) | (simp [*, errW_none, errW_some] <;> rfl), by (with_reducible repeat (first | apply Kd.R_alloc | apply Kd.R_drewN | apply Kd.R_drew)); exact HO_3.out, by repeat (first | (with_reducible first | exact HB.out | apply below_alloc | apply pw_below_drewN | apply below_drew1) | exact HB.out)⟩

/-! ### raster_Count: function 18 -/
def raster_Count.j0 : Nat → List (List (S45)) → Int → List Int → Bool → Option (Int × Int)
  | 0, _, _, _, _ => none
  | k + 1, x0, x2, x4, x22 => if x22 = true then (some (0, 214)) else ((some (([0] : List Int) : List Int)).bind fun y202 => ((raster_edges.f k x0).bind fun t205 => ((raster_rows.f k t205 (wrap64 (64 * x2)) (wrap64 ((wrap64 (64 * x2)) + 64)) y202 x4).bind fun t208 => (if 0 < (y202.length : Int) then (some (rd t208 0, 0)) else (none)))))
def raster_Count.f (k : Nat) (l0 : List (List (S45))) (a1 : Int) (a2 : Int) : Option (Int × Int) := (some (([a1] : List Int) : List Int)).bind fun y195 => ((raster_check.f k l0).bind fun t198 => (if t198 = 0 then (if 0 < (y195.length : Int) then ((raster_small.f (rd y195 0)).bind fun t200 => (if t200 = true then ((raster_small.f a2).bind fun t201 => (raster_Count.j0 k l0 a2 y195 (!t201))) else (raster_Count.j0 k l0 a2 y195 true))) else (none)) else (some (0, t198))))
theorem raster_Count.mono_l : ∀ k, (∀ y0 y1 y2 y3, LeO (raster_Count.j0 k y0 y1 y2 y3) (raster_Count.j0 (k + 1) y0 y1 y2 y3))
  | 0 => fun _ _ _ _ r h => by simp [raster_Count.j0] at h
  | k + 1 => by
    have ih0 := raster_Count.mono_l k
    · intro y0 y1 y2 y3
      unfold raster_Count.j0
      repeat' first
      | (with_reducible exact ih0 _ _ _ _)
      | (with_reducible exact raster_check.mono _ _)
      | (with_reducible exact raster_edges.mono _ _)
      | (with_reducible exact raster_rows.mono _ _ _ _ _ _)
      | (with_reducible exact LeO.refl _)
      | (with_reducible exact LeO.none _)
      | (with_reducible refine LeO.ite ?_ ?_)
      | (with_reducible refine LeO.bind ?_ (fun _ => ?_))
      | exact ih0 _ _ _ _
      | exact raster_check.mono _ _
      | exact raster_edges.mono _ _
      | exact raster_rows.mono _ _ _ _ _ _
      | exact LeO.none _
      | refine LeO.ite ?_ ?_
      | refine LeO.bind ?_ (fun _ => ?_)
theorem raster_Count.mono : ∀ a0 a1 a2 k, LeO (raster_Count.f k a0 a1 a2) (raster_Count.f (k + 1) a0 a1 a2) := by
  intro a0 a1 a2 k
  have ih0 := raster_Count.mono_l k
  unfold raster_Count.f
  repeat' first
      | (with_reducible exact ih0 _ _ _ _)
      | (with_reducible exact raster_check.mono _ _)
      | (with_reducible exact raster_edges.mono _ _)
      | (with_reducible exact raster_rows.mono _ _ _ _ _ _)
      | (with_reducible exact LeO.refl _)
      | (with_reducible exact LeO.none _)
      | (with_reducible refine LeO.ite ?_ ?_)
      | (with_reducible refine LeO.bind ?_ (fun _ => ?_))
      | exact ih0 _ _ _ _
      | exact raster_check.mono _ _
      | exact raster_edges.mono _ _
      | exact raster_rows.mono _ _ _ _ _ _
      | exact LeO.none _
      | refine LeO.ite ?_ ?_
      | refine LeO.bind ?_ (fun _ => ?_)
set_option maxHeartbeats 8000000 in
set_option maxRecDepth 100000 in
theorem raster_Count.calls (k : Nat) (A0 : Option Addr) (c0 : Nat) (l0 : List (List (S45))) (a1 : Int) (a2 : Int) (r1 : Int) (r2 : Int) (w : World) (hr0 : Kd.C (Kd.slice 45 k45) w A0 l0.length l0) (hc0 : l0.length ≤ c0) (h : raster_Count.f k l0 a1 a2 = some (r1, r2)) :
    Calls Try.prog 18 #[.slice A0 l0.length c0, .int .i64 a1, .int .i64 a2] w fun e w' => e = .returned (.tuple #[.int .i64 r1, .int .i64 r2]) ∧ Below w.heap.size w w' := by
  have HR0 := Aside0.mk hr0
  have HC0 := Aside0.mk hc0
  clear hr0 hc0
  have HB := Aside0.mk (Below.refl w.heap.size w)
  have H : ((some (([a1] : List Int) : List Int)).bind fun y195 => ((raster_check.f k l0).bind fun t198 => (if t198 = 0 then (if 0 < (y195.length : Int) then ((raster_small.f (rd y195 0)).bind fun t200 => (if t200 = true then ((raster_small.f a2).bind fun t201 => (raster_Count.j0 k l0 a2 y195 (!t201))) else (raster_Count.j0 k l0 a2 y195 true))) else (none)) else (some (0, t198))))) = some (r1, r2) := h
  clear h
  obtain ⟨y195, hy195⟩ : ∃ y_ : List Int, y_ = (([a1] : List Int)) := ⟨_, rfl⟩
  replace H : ((raster_check.f k l0).bind fun t198 => (if t198 = 0 then (if 0 < (y195.length : Int) then ((raster_small.f (rd y195 0)).bind fun t200 => (if t200 = true then ((raster_small.f a2).bind fun t201 => (raster_Count.j0 k l0 a2 y195 (!t201))) else (raster_Count.j0 k l0 a2 y195 true))) else (none)) else (some (0, t198)))) = some (r1, r2) := by first | (rw [hy195]; with_reducible exact H) | (have H2_ := (Option.bind_some _ _).symm.trans H; rw [hy195]; with_reducible exact H2_) | (have H2_ := (Option.bind_some _ _).symm.trans H; with_reducible exact H2_) | with_reducible exact H | (rw [hy195]; exact H) | exact H
  have Ny195 := Aside0.mk hy195
  clear hy195
  replace H := Option.bind_eq_some_iff.mp H
  obtain ⟨t198, A40, H⟩ := H
  replace H : (if t198 = 0 then (if 0 < (y195.length : Int) then ((raster_small.f (rd y195 0)).bind fun t200 => (if t200 = true then ((raster_small.f a2).bind fun t201 => (raster_Count.j0 k l0 a2 y195 (!t201))) else (raster_Count.j0 k l0 a2 y195 true))) else (none)) else (some (0, t198))) = some (r1, r2) := H
  have A4 := Aside0.mk A40
  clear A40
  by_cases c5 : t198 = 0
  · rw [if_pos c5] at H
    have c5b0 : (t198 == 0) = true := beq_iff_eq.mpr c5
    have c5b1 : (t198 != 0) = false := bne_eq_false_iff_eq.mpr c5
    clear c5
    by_cases c6 : 0 < (y195.length : Int)
    · rw [if_pos c6] at H
      have c6b0 : decide (0 < (y195.length : Int)) = true := decide_eq_true c6
      have c6b1 : decide (0 < y195.length) = true := decide_eq_true (by omega)
      clear c6
      have HC7 := Aside0.mk H
      clear H
      go_enter Try.func18, Try.ntmps18
      go_upto_region 4 with (first | ((with_reducible refine gate_dst (N := 4) rfl ?_); refine cell_box 4 (a1) rfl rfl rfl rfl ?_; intro v196 w8 ho9 hb; simp only [Act.put, List.setIfInBounds_toArray, List.set_cons_zero, List.set_cons_succ]; (first | rw [← Ny195.out] at ho9 | (simp only [Int.reduceToNat] at ho9; rw [← Ny195.out] at ho9)); have n0_ := Aside0.mk (Kd.R_lower ho9 (below_size (by repeat (first | (with_reducible first | exact HB.out | apply below_alloc | apply pw_below_drewN | apply below_drew1) | exact HB.out)))); have n1_ := Aside0.mk (below_step (by repeat (first | (with_reducible first | exact HB.out | apply below_alloc | apply pw_below_drewN | apply below_drew1) | exact HB.out)) hb); clear HB; have HO197 := n0_; have HB := n1_; clear n0_ n1_; clear hb ho9) | ((with_reducible refine gate_callee (f := 30) rfl ?_); refine goesL_ (some 11) rfl rfl Try.func30 (by kernel_rfl) rfl #[.slice A0 l0.length c0] rfl (by (try simp only [List.map_toArray, List.map_cons, List.map_nil]); first | done | rfl | (simp only [List.length_drop, List.length_take]; rfl)) ?_; (with_reducible refine (raster_check.calls k _ _ l0 t198 _ ?side1 ?side2 A4.out).mono ?_); (case side1 => repeat (first | exact (Kd.C_below HR0.out HB.out) | (with_reducible refine Kd.C_alloc ?_ _) | (with_reducible refine Kd.C_drewN ?_ _) | (with_reducible refine Kd.C_drew ?_))); (case side2 => exact HC0.out); rintro e w10 ⟨rfl, hb⟩; refine ⟨_, rfl, ?_⟩; have n0_ := Aside0.mk (Kd.R_below (by (with_reducible repeat (first | apply Kd.R_alloc | apply Kd.R_drewN | apply Kd.R_drew)); exact HO197.out) hb); have n1_ := Aside0.mk (below_step (by repeat (first | (with_reducible first | exact HB.out | apply below_alloc | apply pw_below_drewN | apply below_drew1) | exact HB.out)) hb); clear HO197; clear HB; have HO197 := n0_; have HB := n1_; clear n0_ n1_; (try clear hb); (try clear hb2); (try clear hk); (try clear hi); obtain ⟨Ao11, co11, eo11⟩ := Kd.R_slice HO197.out; subst eo11; (try simp only [ptrV_slice]); have p199 : 0 ≤ (0 : Int) := (by omega); have q199 : 0 < (y195.length : Int) := of_decide_eq_true (by first | (with_reducible assumption) | assumption); obtain ⟨ad199, e199, hx199_0⟩ := Kd.at_int (Kd.R_reads' HO197.out).2.2 0 p199 q199; cases e199; (try simp only [ptrV_slice]); have qi199 : (0 < y195.length) = True := eq_true (by omega); (try rw [show ((0 : Int)).toNat = 0 from rfl] at hx199_0); (try rw [Addr.add_zero'] at hx199_0); replace p199 := eq_true p199; replace q199 := eq_true q199))
      (try simp only [Act.put, List.setIfInBounds_toArray, List.set_cons_zero, List.set_cons_succ])
      go_cut [22] (fun v22 wc => ∃ (kq : Nat) (x22_6 : Bool), v22 = .bool x22_6 ∧ Aside0 (raster_Count.j0 kq l0 a2 y195 x22_6 = some (r1, r2)) ∧ Aside0 (kq ≤ k) ∧ Aside0 (Kd.R (Kd.int .i64) 3 wc w.heap.size (fun _ => True) (.slice (some ad199) y195.length co11) y195) ∧ Aside0 (Below w.heap.size w wc))
      case first =>
        have H := HC7.out
        clear HC7
        replace H := Option.bind_eq_some_iff.mp H
        obtain ⟨t200, A120, H⟩ := H
        replace H : (if t200 = true then ((raster_small.f a2).bind fun t201 => (raster_Count.j0 k l0 a2 y195 (!t201))) else (raster_Count.j0 k l0 a2 y195 true)) = some (r1, r2) := H
        have A12 := Aside0.mk A120
        clear A120
        by_cases c13 : t200 = true
        · subst c13
          have H1 : ((raster_small.f a2).bind fun t201 => (raster_Count.j0 k l0 a2 y195 (!t201))) = some (r1, r2) := by rw [if_pos rfl] at H; exact H
          clear H
          have H := H1
          clear H1
          replace H := Option.bind_eq_some_iff.mp H
          obtain ⟨t201, A140, H⟩ := H
          replace H : (raster_Count.j0 k l0 a2 y195 (!t201)) = some (r1, r2) := H
          have A14 := Aside0.mk A140
          clear A140
          have H' := Aside0.mk H
          clear H
          go_wp2_with (first | ((with_reducible refine gate_callee (f := 31) rfl ?_); refine goesL_ (some 16) rfl rfl Try.func31 (by kernel_rfl) rfl #[.int .i64 (rd y195 0)] rfl (by (try simp only [List.map_toArray, List.map_cons, List.map_nil]); first | done | rfl | (simp only [List.length_drop, List.length_take]; rfl)) ?_; (with_reducible refine (raster_small.calls (rd y195 0) true _ A12.out).mono ?_); rintro e w' ⟨rfl, ⟨nd, rfl⟩⟩; refine ⟨_, rfl, ?_⟩) | (go_at_call 31; (with_reducible refine (raster_small.calls a2 t201 _ A14.out).mono ?_); rintro e w' ⟨rfl, ⟨nd, rfl⟩⟩))
          go_meet
          case rel => exact ⟨_, (!t201), (by first | rfl | (simp; done) | (simp [*]; done)), H', ⟨by first | omega | exact Nat.le_refl _⟩, ⟨by (with_reducible repeat (first | apply Kd.R_alloc | apply Kd.R_drewN | apply Kd.R_drew)); exact HO197.out⟩, ⟨by repeat (first | (with_reducible first | exact HB.out | apply below_alloc | apply pw_below_drewN | apply below_drew1) | exact HB.out)⟩⟩
        · replace c13 := Bool.eq_false_iff.mpr c13
          subst c13
          have H1 : (raster_Count.j0 k l0 a2 y195 true) = some (r1, r2) := by rw [if_neg (show ¬ (false = true) by decide)] at H; exact H
          clear H
          have H := H1
          clear H1
          have H' := Aside0.mk H
          clear H
          go_wp2_with (first | ((with_reducible refine gate_callee (f := 31) rfl ?_); refine goesL_ (some 16) rfl rfl Try.func31 (by kernel_rfl) rfl #[.int .i64 (rd y195 0)] rfl (by (try simp only [List.map_toArray, List.map_cons, List.map_nil]); first | done | rfl | (simp only [List.length_drop, List.length_take]; rfl)) ?_; (with_reducible refine (raster_small.calls (rd y195 0) false _ A12.out).mono ?_); rintro e w' ⟨rfl, ⟨nd, rfl⟩⟩; refine ⟨_, rfl, ?_⟩))
          go_meet
          case rel => exact ⟨_, (true), (by first | rfl | (simp; done) | (simp [*]; done)), H', ⟨by first | omega | exact Nat.le_refl _⟩, ⟨by (with_reducible repeat (first | apply Kd.R_alloc | apply Kd.R_drewN | apply Kd.R_drew)); exact HO197.out⟩, ⟨by repeat (first | (with_reducible first | exact HB.out | apply below_alloc | apply pw_below_drewN | apply below_drew1) | exact HB.out)⟩⟩
      case rest =>
        clear HC7
        try clear c1
        try clear p1
        try clear q1
        try clear hx1
        try clear qi1
        try clear p2
        try clear c3
        try clear c5
        try clear c5b0
        try clear c5b1
        try clear c6
        try clear c6b0
        try clear c6b1
        try clear c13
        try clear hx199_0
        try clear p199
        try clear q199
        obtain ⟨kq, x22_6, rfl, HA, HJ6, HO_4, HB⟩ := hcut
        cases kq with
        | zero => exact absurd HA.out (by simp [raster_Count.j0])
        | succ kj6 =>
          have H := HA.out
          clear HA
          simp only [raster_Count.j0] at H
          by_cases c15 : x22_6 = true
          · subst c15
            have H1 : (some (0, 214)) = some (r1, r2) := by rw [if_pos rfl] at H; exact H
            clear H
            have H := H1
            clear H1
            simp only [Option.some.injEq, Prod.mk.injEq] at H
            obtain ⟨rfl, rfl⟩ := H
            go_wp2
            go_ret2
            exact ⟨by first | rfl | (simp [errW_none, errW_some] <;> rfl) | (simp [*, errW_none, errW_some] <;> rfl), by repeat (first | (with_reducible first | exact HB.out | apply below_alloc | apply pw_below_drewN | apply below_drew1) | exact HB.out)⟩
          · replace c15 := Bool.eq_false_iff.mpr c15
            subst c15
            have H1 : ((some (([0] : List Int) : List Int)).bind fun y202 => ((raster_edges.f kj6 l0).bind fun t205 => ((raster_rows.f kj6 t205 (wrap64 (64 * a2)) (wrap64 ((wrap64 (64 * a2)) + 64)) y202 y195).bind fun t208 => (if 0 < (y202.length : Int) then (some (rd t208 0, 0)) else (none))))) = some (r1, r2) := by rw [if_neg (show ¬ (false = true) by decide)] at H; exact H
            clear H
            have H := H1
            clear H1
            obtain ⟨y202, hy202⟩ : ∃ y_ : List Int, y_ = (([0] : List Int)) := ⟨_, rfl⟩
            replace H : ((raster_edges.f kj6 l0).bind fun t205 => ((raster_rows.f kj6 t205 (wrap64 (64 * a2)) (wrap64 ((wrap64 (64 * a2)) + 64)) y202 y195).bind fun t208 => (if 0 < (y202.length : Int) then (some (rd t208 0, 0)) else (none)))) = some (r1, r2) := by first | (rw [hy202]; with_reducible exact H) | (have H2_ := (Option.bind_some _ _).symm.trans H; rw [hy202]; with_reducible exact H2_) | (have H2_ := (Option.bind_some _ _).symm.trans H; with_reducible exact H2_) | with_reducible exact H | (rw [hy202]; exact H) | exact H
            have Ny202 := Aside0.mk hy202
            clear hy202
            replace H := Option.bind_eq_some_iff.mp H
            obtain ⟨t205, A160, H⟩ := H
            replace H : ((raster_rows.f kj6 t205 (wrap64 (64 * a2)) (wrap64 ((wrap64 (64 * a2)) + 64)) y202 y195).bind fun t208 => (if 0 < (y202.length : Int) then (some (rd t208 0, 0)) else (none))) = some (r1, r2) := H
            have A16 := Aside0.mk A160
            clear A160
            replace H := Option.bind_eq_some_iff.mp H
            obtain ⟨t208, A170, H⟩ := H
            replace H : (if 0 < (y202.length : Int) then (some (rd t208 0, 0)) else (none)) = some (r1, r2) := H
            have A17 := Aside0.mk A170
            clear A170
            by_cases c18 : 0 < (y202.length : Int)
            · rw [if_pos c18] at H
              have c18b0 : decide (0 < (y202.length : Int)) = true := decide_eq_true c18
              have c18b1 : decide (0 < y202.length) = true := decide_eq_true (by omega)
              clear c18
              simp only [Option.some.injEq, Prod.mk.injEq] at H
              obtain ⟨rfl, rfl⟩ := H
              go_wp2_with (first | ((with_reducible refine gate_dst (N := 9) rfl ?_); refine cell_lit 9 (0) rfl rfl rfl rfl rfl rfl (fun _ => rfl) (fun _ => rfl) ?_; intro v203 w19 ho20 hb; simp only [Act.put, List.setIfInBounds_toArray, List.set_cons_zero, List.set_cons_succ]; (first | rw [← Ny202.out] at ho20 | (simp only [Int.reduceToNat] at ho20; rw [← Ny202.out] at ho20)); have n0_ := Aside0.mk (Kd.R_elder' (by (with_reducible repeat (first | apply Kd.R_alloc | apply Kd.R_drewN | apply Kd.R_drew)); exact HO_4.out) (Kd.R_base ho20) hb); have n1_ := Aside0.mk (Kd.R_lower (Kd.R_new' ho20 (Kd.R_lt (by (with_reducible repeat (first | apply Kd.R_alloc | apply Kd.R_drewN | apply Kd.R_drew)); exact HO_4.out))) (below_size (by repeat (first | (with_reducible first | exact HB.out | apply below_alloc | apply pw_below_drewN | apply below_drew1) | exact HB.out)))); have n2_ := Aside0.mk (below_step (by repeat (first | (with_reducible first | exact HB.out | apply below_alloc | apply pw_below_drewN | apply below_drew1) | exact HB.out)) hb); clear HO_4; clear HB; have HO_4 := n0_; have HO204 := n1_; have HB := n2_; clear n0_ n1_ n2_; clear hb ho20) | ((with_reducible refine gate_callee (f := 33) rfl ?_); refine goesL_ (some 24) rfl rfl Try.func33 (by kernel_rfl) rfl #[.slice A0 l0.length c0] rfl (by (try simp only [List.map_toArray, List.map_cons, List.map_nil]); first | done | rfl | (simp only [List.length_drop, List.length_take]; rfl)) ?_; (with_reducible refine (raster_edges.calls kj6 _ _ l0 t205 _ ?side1 ?side2 A16.out).mono ?_); (case side1 => repeat (first | exact (Kd.C_below HR0.out HB.out) | (with_reducible refine Kd.C_alloc ?_ _) | (with_reducible refine Kd.C_drewN ?_ _) | (with_reducible refine Kd.C_drew ?_))); (case side2 => exact HC0.out); rintro e w21 ⟨v206, rfl, ho0, hb⟩; refine ⟨_, rfl, ?_⟩; have n0_ := Aside0.mk (Kd.R_below (by (with_reducible repeat (first | apply Kd.R_alloc | apply Kd.R_drewN | apply Kd.R_drew)); exact HO_4.out) hb); have n1_ := Aside0.mk (Kd.R_below (by (with_reducible repeat (first | apply Kd.R_alloc | apply Kd.R_drewN | apply Kd.R_drew)); exact HO204.out) hb); have n2_ := Aside0.mk (Kd.R_lower ho0 (below_size (by repeat (first | (with_reducible first | exact HB.out | apply below_alloc | apply pw_below_drewN | apply below_drew1) | exact HB.out)))); have n3_ := Aside0.mk (below_step (by repeat (first | (with_reducible first | exact HB.out | apply below_alloc | apply pw_below_drewN | apply below_drew1) | exact HB.out)) hb); clear HO_4; clear HO204; clear HB; have HO_4 := n0_; have HO204 := n1_; have HO207 := n2_; have HB := n3_; clear n0_ n1_ n2_ n3_; (try clear hb); (try clear hb2); (try clear hk); (try clear hi); (try clear ho0); obtain ⟨Ao22, co22, eo22⟩ := Kd.R_slice HO207.out; subst eo22; (try simp only [ptrV_slice]); obtain ⟨Ao23, co23, eo23⟩ := Kd.R_slice HO204.out; subst eo23; (try simp only [ptrV_slice])) | ((with_reducible refine gate_callee (f := 32) rfl ?_); refine goesL_ (some 31) rfl rfl Try.func32 (by kernel_rfl) rfl #[.slice Ao22 t205.length co22, .int .i64 (wrap64 (64 * a2)), .int .i64 (wrap64 ((wrap64 (64 * a2)) + 64)), .func (.func 34) #[] #[ptrV (.slice Ao23 y202.length co23), .pointer (some ad199)]] rfl (by (try simp only [List.map_toArray, List.map_cons, List.map_nil]); first | done | rfl | (simp only [List.length_drop, List.length_take]; rfl)) ?_; (with_reducible refine (raster_rows.calls kj6 _ _ t205 (wrap64 (64 * a2)) (wrap64 ((wrap64 (64 * a2)) + 64)) (fun k_ => some k_ = (.slice Ao23 y202.length co23 : Value).ownBlock) (.slice Ao23 y202.length co23) y202 (some ad199) co11 y195 t208 w _ ?side1 ?side2 ?side3 ?side4 ?side5 ?side6 A17.out).mono ?_); (case side1 => repeat (first | (with_reducible first | exact HB.out | apply below_alloc | apply pw_below_drewN | apply below_drew1) | exact HB.out)); (case side2 => exact Kd.C_kept_own ((Kd.R_apart' HO207.out (Kd.R_typed HO204.out) (by decide))) (fun k_ hk_ hs_ => (hk_.2) hs_)); (case side3 => exact (Kd.R_reads' HO207.out).2.1); (case side4 => exact Kd.R_tight rfl HO204.out); (case side5 => exact Kd.C_kept_own (HO_4.out) (fun k_ hk_ hs_ => (hk_.2) hs_)); (case side6 => exact (Kd.R_reads' HO_4.out).2.1); rintro e w24 ⟨rfl, hy0, hb, hkp⟩; refine ⟨_, rfl, ?_⟩; have n0_ := Aside0.mk (Kd.R_mono (ok' := fun k_ => some k_ ≠ (.slice Ao23 y202.length co23 : Value).ownBlock) (Kd.R_keptB (HO_4.out) hkp (fun k_ hk_ hs_ => (hk_.2) hs_)) (fun k_ hk_ => hk_.1.2)); have n1_ := Aside0.mk (Kd.R_reok rfl hy0 (fun k_ e_ => HO204.out.1 k_ e_)); have n2_ := Aside0.mk (Kd.R_mono (ok' := fun k_ => True) (Kd.R_keptB ((Kd.R_apart' HO207.out (Kd.R_typed HO204.out) (by decide))) hkp (fun k_ hk_ hs_ => (hk_.2) hs_)) (fun k_ hk_ => trivial)); have n3_ := Aside0.mk (hb); clear HO_4; clear HO204; clear HO207; clear HB; have HO_4 := n0_; have HO204 := n1_; have HO207 := n2_; have HB := n3_; clear n0_ n1_ n2_ n3_; (try clear hb); (try clear hkp); (try clear hy0); have p209 : 0 ≤ (0 : Int) := (by omega); have q209 : 0 < (t208.length : Int) := (by have h_ : (0 : Int) < ((y202.length : Int) : Int) := of_decide_eq_true (by first | (with_reducible assumption) | assumption); have e_ := (Kd.R_reads' HO204.out).1; omega); have ql209 : ((0 : Int) < ((y202.length : Int) : Int)) = True := eq_true (of_decide_eq_true (by first | (with_reducible assumption) | assumption)); (try have qn209 : (0 < y202.length) = True := eq_true (by have h_ : (0 : Int) < ((y202.length : Int) : Int) := of_decide_eq_true (by first | (with_reducible assumption) | assumption); omega)); obtain ⟨ad209, e209, hx209_0⟩ := Kd.at_int (Kd.R_reads' HO204.out).2.2 0 p209 q209; cases e209; (try simp only [ptrV_slice]); have qi209 : (0 < t208.length) = True := eq_true (by omega); (try rw [show ((0 : Int)).toNat = 0 from rfl] at hx209_0); (try rw [Addr.add_zero'] at hx209_0); replace p209 := eq_true p209; replace q209 := eq_true q209))
              go_ret2
              exact ⟨by first | rfl | (simp [errW_none, errW_some] <;> rfl) | (simp [*, errW_none, errW_some] <;> rfl), by repeat (first | (with_reducible first | exact HB.out | apply below_alloc | apply pw_below_drewN | apply below_drew1) | exact HB.out)⟩
            · rw [if_neg c18] at H
              exact absurd H (by simp)
    · rw [if_neg c6] at H
      exact absurd H (by simp)
  · rw [if_neg c5] at H
    have c5b0 : (t198 == 0) = false := beq_eq_false_iff_ne.mpr c5
    have c5b1 : (t198 != 0) = true := bne_iff_ne.mpr c5
    simp only [Option.some.injEq, Prod.mk.injEq] at H
    obtain ⟨rfl, rfl⟩ := H
    go_enter Try.func18, Try.ntmps18
    go_wp2_with (first | ((with_reducible refine gate_dst (N := 4) rfl ?_); refine cell_box 4 (a1) rfl rfl rfl rfl ?_; intro v196 w25 ho26 hb; simp only [Act.put, List.setIfInBounds_toArray, List.set_cons_zero, List.set_cons_succ]; (first | rw [← Ny195.out] at ho26 | (simp only [Int.reduceToNat] at ho26; rw [← Ny195.out] at ho26)); have n0_ := Aside0.mk (Kd.R_lower ho26 (below_size (by repeat (first | (with_reducible first | exact HB.out | apply below_alloc | apply pw_below_drewN | apply below_drew1) | exact HB.out)))); have n1_ := Aside0.mk (below_step (by repeat (first | (with_reducible first | exact HB.out | apply below_alloc | apply pw_below_drewN | apply below_drew1) | exact HB.out)) hb); clear HB; have HO197 := n0_; have HB := n1_; clear n0_ n1_; clear hb ho26) | ((with_reducible refine gate_callee (f := 30) rfl ?_); refine goesL_ (some 11) rfl rfl Try.func30 (by kernel_rfl) rfl #[.slice A0 l0.length c0] rfl (by (try simp only [List.map_toArray, List.map_cons, List.map_nil]); first | done | rfl | (simp only [List.length_drop, List.length_take]; rfl)) ?_; (with_reducible refine (raster_check.calls k _ _ l0 t198 _ ?side1 ?side2 A4.out).mono ?_); (case side1 => repeat (first | exact (Kd.C_below HR0.out HB.out) | (with_reducible refine Kd.C_alloc ?_ _) | (with_reducible refine Kd.C_drewN ?_ _) | (with_reducible refine Kd.C_drew ?_))); (case side2 => exact HC0.out); rintro e w27 ⟨rfl, hb⟩; refine ⟨_, rfl, ?_⟩; have n0_ := Aside0.mk (Kd.R_below (by (with_reducible repeat (first | apply Kd.R_alloc | apply Kd.R_drewN | apply Kd.R_drew)); exact HO197.out) hb); have n1_ := Aside0.mk (below_step (by repeat (first | (with_reducible first | exact HB.out | apply below_alloc | apply pw_below_drewN | apply below_drew1) | exact HB.out)) hb); clear HO197; clear HB; have HO197 := n0_; have HB := n1_; clear n0_ n1_; (try clear hb); (try clear hb2); (try clear hk); (try clear hi)))
    go_ret2
    exact ⟨by first | rfl | (simp [errW_none, errW_some] <;> rfl) | (simp [*, errW_none, errW_some] <;> rfl), by repeat (first | (with_reducible first | exact HB.out | apply below_alloc | apply pw_below_drewN | apply below_drew1) | exact HB.out)⟩

/-! ### seriflaw21_square: function 22 -/
def seriflaw21_square.f (a0 : Int) (a1 : Int) (a2 : Int) (a3 : Int) : Option ((List (S45))) := some (([(⟨a0, a1⟩ : S45), (⟨a2, a1⟩ : S45), (⟨a2, a3⟩ : S45), (⟨a0, a3⟩ : S45)] : List (S45)))
set_option maxHeartbeats 8000000 in
set_option maxRecDepth 100000 in
theorem seriflaw21_square.calls (a0 : Int) (a1 : Int) (a2 : Int) (a3 : Int) (r : List (S45)) (w : World) (h : seriflaw21_square.f a0 a1 a2 a3 = some r) :
    Calls Try.prog 22 #[.int .i64 a0, .int .i64 a1, .int .i64 a2, .int .i64 a3] w fun e w' => ∃ v0_ : Value, e = .returned (v0_) ∧ Kd.R k45 45 w' w.heap.size (fun _ => True) v0_ r ∧ Below w.heap.size w w' := by
  have hu45 := Try.underlying45
  have HB := Aside0.mk (Below.refl w.heap.size w)
  have H : (some (([(⟨a0, a1⟩ : S45), (⟨a2, a1⟩ : S45), (⟨a2, a3⟩ : S45), (⟨a0, a3⟩ : S45)] : List (S45)))) = some r := h
  clear h
  obtain ⟨y210, hy210⟩ : ∃ y_ : List (S45), y_ = (([(⟨a0, a1⟩ : S45), (⟨a2, a1⟩ : S45), (⟨a2, a3⟩ : S45), (⟨a0, a3⟩ : S45)] : List (S45))) := ⟨_, rfl⟩
  replace H : (some y210) = some r := by first | (rw [hy210]; with_reducible exact H) | (have H2_ := (Option.bind_some _ _).symm.trans H; rw [hy210]; with_reducible exact H2_) | (have H2_ := (Option.bind_some _ _).symm.trans H; with_reducible exact H2_) | with_reducible exact H | (rw [hy210]; exact H) | exact H
  have Ny210 := Aside0.mk hy210
  clear hy210
  obtain rfl := Option.some.inj H
  go_enter Try.func22, Try.ntmps22
  go_wp2_with (first | ((with_reducible refine gate_dst (N := 21) rfl ?_); refine Kd.R_lit k45 _ 45 ?hg (N := 21) ?hd (xs := ([(⟨a0, a1⟩ : S45), (⟨a2, a1⟩ : S45), (⟨a2, a3⟩ : S45), (⟨a0, a3⟩ : S45)] : List (S45))) (inner := [.int .i64 a0, .int .i64 a1, .int .i64 a2, .int .i64 a1, .int .i64 a2, .int .i64 a3, .int .i64 a0, .int .i64 a3]) (ok := fun _ => True) (okp := fun _ => True) ?hr ?hp (fun _ hk => hk) trivial (Below.refl _ _) (Nat.le_refl _) (by simp) ?_; (case hd => rfl); (case hg => rfl); (case hr => first | (go_simp; done) | (go_simp; rfl)); (case hp => exact (Reps.c2 (show Kd.M k45 _ _ _ (⟨a0, a1⟩ : S45) [.int .i64 a0, .int .i64 a1] from (k45_mkM _ _ _ (⟨a0, a1⟩ : S45) )) (Reps.c2 (show Kd.M k45 _ _ _ (⟨a2, a1⟩ : S45) [.int .i64 a2, .int .i64 a1] from (k45_mkM _ _ _ (⟨a2, a1⟩ : S45) )) (Reps.c2 (show Kd.M k45 _ _ _ (⟨a2, a3⟩ : S45) [.int .i64 a2, .int .i64 a3] from (k45_mkM _ _ _ (⟨a2, a3⟩ : S45) )) (Reps.c2 (show Kd.M k45 _ _ _ (⟨a0, a3⟩ : S45) [.int .i64 a0, .int .i64 a3] from (k45_mkM _ _ _ (⟨a0, a3⟩ : S45) )) (Reps.none _ _)))))); intro v211 w5 ho6 hb hg_ hnew_; clear hg_ hnew_; (first | rw [← Ny210.out] at ho6 | (simp only [Int.reduceToNat] at ho6; rw [← Ny210.out] at ho6)); have n0_ := Aside0.mk (Kd.R_lower ho6 (below_size (by repeat (first | (with_reducible first | exact HB.out | apply below_alloc | apply pw_below_drewN | apply below_drew1) | exact HB.out)))); have n1_ := Aside0.mk (below_step (by repeat (first | (with_reducible first | exact HB.out | apply below_alloc | apply pw_below_drewN | apply below_drew1) | exact HB.out)) hb); clear HB; have HO212 := n0_; have HB := n1_; clear n0_ n1_; clear hb ho6))
  go_ret
  exact ⟨_, by first | rfl | (simp [errW_none, errW_some] <;> rfl) | (simp [*, errW_none, errW_some] <;> rfl), by (with_reducible repeat (first | apply Kd.R_alloc | apply Kd.R_drewN | apply Kd.R_drew)); exact HO212.out, by repeat (first | (with_reducible first | exact HB.out | apply below_alloc | apply pw_below_drewN | apply below_drew1) | exact HB.out)⟩

/-! ### seriflaw21_common: function 23 -/
def seriflaw21_common.j0 : Nat → Int → Int → Int → Int → Option (Int)
  | 0, _, _, _, _ => none
  | k + 1, x5, x6, x214000, x214001 => if x214001 < x6 then (if x214001 < x5 then (some 0) else (some (wrap64 (x214001 - x5)))) else (if x6 < x5 then (some 0) else (some (wrap64 (x6 - x5))))
def seriflaw21_common.f (k : Nat) (a0_0 : Int) (a0_1 : Int) (a1 : Int) : Option (Int) := if a0_0 > (wrap64 (64 * a1)) then (seriflaw21_common.j0 k a0_0 (wrap64 ((wrap64 (64 * a1)) + 64)) a0_0 a0_1) else (seriflaw21_common.j0 k (wrap64 (64 * a1)) (wrap64 ((wrap64 (64 * a1)) + 64)) a0_0 a0_1)
theorem seriflaw21_common.mono_l : ∀ k, (∀ y0 y1 y2 y3, LeO (seriflaw21_common.j0 k y0 y1 y2 y3) (seriflaw21_common.j0 (k + 1) y0 y1 y2 y3))
  | 0 => fun _ _ _ _ r h => by simp [seriflaw21_common.j0] at h
  | k + 1 => by
    have ih0 := seriflaw21_common.mono_l k
    · intro y0 y1 y2 y3
      unfold seriflaw21_common.j0
      repeat' first
      | (with_reducible exact ih0 _ _ _ _)
      | (with_reducible exact LeO.refl _)
      | (with_reducible exact LeO.none _)
      | (with_reducible refine LeO.ite ?_ ?_)
      | (with_reducible refine LeO.bind ?_ (fun _ => ?_))
      | exact ih0 _ _ _ _
      | exact LeO.none _
      | refine LeO.ite ?_ ?_
      | refine LeO.bind ?_ (fun _ => ?_)
theorem seriflaw21_common.mono : ∀ a0 a1 a2 k, LeO (seriflaw21_common.f k a0 a1 a2) (seriflaw21_common.f (k + 1) a0 a1 a2) := by
  intro a0 a1 a2 k
  have ih0 := seriflaw21_common.mono_l k
  unfold seriflaw21_common.f
  repeat' first
      | (with_reducible exact ih0 _ _ _ _)
      | (with_reducible exact LeO.refl _)
      | (with_reducible exact LeO.none _)
      | (with_reducible refine LeO.ite ?_ ?_)
      | (with_reducible refine LeO.bind ?_ (fun _ => ?_))
      | exact ih0 _ _ _ _
      | exact LeO.none _
      | refine LeO.ite ?_ ?_
      | refine LeO.bind ?_ (fun _ => ?_)
set_option maxHeartbeats 8000000 in
set_option maxRecDepth 100000 in
theorem seriflaw21_common.calls (k : Nat) (a0_0 : Int) (a0_1 : Int) (a1 : Int) (r : Int) (w : World) (h : seriflaw21_common.f k a0_0 a0_1 a1 = some r) :
    Calls Try.prog 23 #[.agg #[.int .i64 a0_0, .int .i64 a0_1], .int .i64 a1] w fun e w' => e = .returned (.int .i64 r) ∧ Below w.heap.size w w' := by
  have hu43 := Try.underlying43
  have HB := Aside0.mk (Below.refl w.heap.size w)
  have H : (if a0_0 > (wrap64 (64 * a1)) then (seriflaw21_common.j0 k a0_0 (wrap64 ((wrap64 (64 * a1)) + 64)) a0_0 a0_1) else (seriflaw21_common.j0 k (wrap64 (64 * a1)) (wrap64 ((wrap64 (64 * a1)) + 64)) a0_0 a0_1)) = some r := h
  clear h
  have HC3 := Aside0.mk H
  clear H
  go_enter Try.func23, Try.ntmps23
  go_upto_if 15 with (first | ((with_reducible refine gate_dst (N := 2) rfl ?_); refine box_event ?hg (N := 2) ?hd (cs := #[.int .i64 a0_0, .int .i64 a0_1]) (t := 43) ?hr ?_; (case hd => rfl); (case hg => rfl); (case hr => first | (go_simp; done) | (go_simp; rfl)); intro gb213 hg w4 hbox hb; have n0_ := Aside0.mk (below_step (by repeat (first | (with_reducible first | exact HB.out | apply below_alloc | apply pw_below_drewN | apply below_drew1) | exact HB.out)) hb); have n1_ := Aside0.mk (hbox); have n2_ := Aside0.mk ((by rw [hg]; exact (below_size (by repeat (first | (with_reducible first | exact HB.out | apply below_alloc | apply pw_below_drewN | apply below_drew1) | exact HB.out))) : w.heap.size ≤ gb213)); have n3_ := Aside0.mk ((by rw [hg]; exact (below_size (by repeat (first | (with_reducible first | exact HB.out | apply below_alloc | apply pw_below_drewN | apply below_drew1) | exact HB.out))) : w.heap.size ≤ gb213)); clear HB; have HB := n0_; have BK213 := n1_; have GW213 := n2_; have GE213 := n3_; clear n0_ n1_ n2_ n3_; clear hb hbox hg; have hcz5_0 : w4.cell? ⟨gb213, 0, none⟩ = some (.int .i64 a0_0) := (blk_cell BK213.out 0).trans rfl; have hcz5_1 : w4.cell? ⟨gb213, 1, none⟩ = some (.int .i64 a0_1) := (blk_cell BK213.out 1).trans rfl; have hfz5_0 := blk_frozen BK213.out 0; have hfz5_1 := blk_frozen BK213.out 1))
  (try simp only [Act.put, List.setIfInBounds_toArray, List.set_cons_zero, List.set_cons_succ])
  go_cut [5] (fun v5 wc => ∃ (kq : Nat) (x5_2 : Int), v5 = .int .i64 x5_2 ∧ Aside0 (seriflaw21_common.j0 kq x5_2 (wrap64 ((wrap64 (64 * a1)) + 64)) a0_0 a0_1 = some r) ∧ Aside0 (kq ≤ k) ∧ Aside0 (wc.heap[gb213]? = some (.cells #[.int .i64 a0_0, .int .i64 a0_1] 43 (0, 0))) ∧ Aside0 (Below w.heap.size w wc))
  case first =>
    have H := HC3.out
    clear HC3
    by_cases c6 : a0_0 > (wrap64 (64 * a1))
    · rw [if_pos c6] at H
      have c6b0 : decide ((wrap64 (64 * a1)) < a0_0) = true := decide_eq_true c6
      clear c6
      (first | rw [c6b0] | (simp only [i64_w, i32_w]; rw [c6b0]) | skip)
      have H' := Aside0.mk H
      clear H
      have hcz7_0 : w4.cell? ⟨gb213, 0, none⟩ = some (.int .i64 a0_0) := (blk_cell BK213.out 0).trans rfl
      have hcz7_1 : w4.cell? ⟨gb213, 1, none⟩ = some (.int .i64 a0_1) := (blk_cell BK213.out 1).trans rfl
      have hfz7_0 := blk_frozen BK213.out 0
      have hfz7_1 := blk_frozen BK213.out 1
      go_wp2
      go_meet
      case rel => exact ⟨_, (a0_0), (by first | rfl | (simp; done) | (simp [*]; done)), H', ⟨by first | omega | exact Nat.le_refl _⟩, ⟨by (with_reducible repeat (first | refine blk_drewN ?_ _ | refine blk_drew ?_ | refine blk_alloc ?_ _)); exact BK213.out⟩, ⟨by repeat (first | (with_reducible first | exact HB.out | apply below_alloc | apply pw_below_drewN | apply below_drew1 | refine below_set ?_ GE213.out) | exact HB.out)⟩⟩
    · rw [if_neg c6] at H
      have c6b0 : decide ((wrap64 (64 * a1)) < a0_0) = false := decide_eq_false c6
      clear c6
      (first | rw [c6b0] | (simp only [i64_w, i32_w]; rw [c6b0]) | skip)
      have H' := Aside0.mk H
      clear H
      go_wp2
      go_meet
      case rel => exact ⟨_, (wrap64 (64 * a1)), (by first | rfl | (simp; done) | (simp [*]; done)), H', ⟨by first | omega | exact Nat.le_refl _⟩, ⟨by (with_reducible repeat (first | refine blk_drewN ?_ _ | refine blk_drew ?_ | refine blk_alloc ?_ _)); exact BK213.out⟩, ⟨by repeat (first | (with_reducible first | exact HB.out | apply below_alloc | apply pw_below_drewN | apply below_drew1 | refine below_set ?_ GE213.out) | exact HB.out)⟩⟩
  case rest =>
    clear HC3
    try clear c2
    try clear p2
    try clear c6
    try clear c6b0
    try clear p6
    try clear hcz5_0
    try clear hcz5_1
    try clear hcz7_0
    try clear hcz7_1
    try clear hfz5_0
    try clear hfz5_1
    try clear hfz7_0
    try clear hfz7_1
    obtain ⟨kq, x5_2, rfl, HA, HJ2, BK213, HB⟩ := hcut
    cases kq with
    | zero => exact absurd HA.out (by simp [seriflaw21_common.j0])
    | succ kj2 =>
      have H := HA.out
      clear HA
      simp only [seriflaw21_common.j0] at H
      by_cases c8 : a0_1 < (wrap64 ((wrap64 (64 * a1)) + 64))
      · rw [if_pos c8] at H
        have c8b0 : decide (a0_1 < (wrap64 ((wrap64 (64 * a1)) + 64))) = true := decide_eq_true c8
        clear c8
        by_cases c9 : a0_1 < x5_2
        · rw [if_pos c9] at H
          have c9b0 : decide (a0_1 < x5_2) = true := decide_eq_true c9
          clear c9
          obtain rfl := Option.some.inj H
          have hcz10_0 : wc.cell? ⟨gb213, 0, none⟩ = some (.int .i64 a0_0) := (blk_cell BK213.out 0).trans rfl
          have hcz10_1 : wc.cell? ⟨gb213, 1, none⟩ = some (.int .i64 a0_1) := (blk_cell BK213.out 1).trans rfl
          have hfz10_0 := blk_frozen BK213.out 0
          have hfz10_1 := blk_frozen BK213.out 1
          go_wp2
          go_ret
          exact ⟨by first | rfl | (simp [errW_none, errW_some] <;> rfl) | (simp [*, errW_none, errW_some] <;> rfl), by repeat (first | (with_reducible first | exact HB.out | apply below_alloc | apply pw_below_drewN | apply below_drew1 | refine below_set ?_ GE213.out) | exact HB.out)⟩
        · rw [if_neg c9] at H
          have c9b0 : decide (a0_1 < x5_2) = false := decide_eq_false c9
          clear c9
          obtain rfl := Option.some.inj H
          have hcz11_0 : wc.cell? ⟨gb213, 0, none⟩ = some (.int .i64 a0_0) := (blk_cell BK213.out 0).trans rfl
          have hcz11_1 : wc.cell? ⟨gb213, 1, none⟩ = some (.int .i64 a0_1) := (blk_cell BK213.out 1).trans rfl
          have hfz11_0 := blk_frozen BK213.out 0
          have hfz11_1 := blk_frozen BK213.out 1
          go_wp2
          go_ret
          exact ⟨by first | rfl | (simp [errW_none, errW_some] <;> rfl) | (simp [*, errW_none, errW_some] <;> rfl), by repeat (first | (with_reducible first | exact HB.out | apply below_alloc | apply pw_below_drewN | apply below_drew1 | refine below_set ?_ GE213.out) | exact HB.out)⟩
      · rw [if_neg c8] at H
        have c8b0 : decide (a0_1 < (wrap64 ((wrap64 (64 * a1)) + 64))) = false := decide_eq_false c8
        clear c8
        by_cases c12 : (wrap64 ((wrap64 (64 * a1)) + 64)) < x5_2
        · rw [if_pos c12] at H
          have c12b0 : decide ((wrap64 ((wrap64 (64 * a1)) + 64)) < x5_2) = true := decide_eq_true c12
          clear c12
          obtain rfl := Option.some.inj H
          have hcz13_0 : wc.cell? ⟨gb213, 0, none⟩ = some (.int .i64 a0_0) := (blk_cell BK213.out 0).trans rfl
          have hcz13_1 : wc.cell? ⟨gb213, 1, none⟩ = some (.int .i64 a0_1) := (blk_cell BK213.out 1).trans rfl
          have hfz13_0 := blk_frozen BK213.out 0
          have hfz13_1 := blk_frozen BK213.out 1
          go_wp2
          go_ret
          exact ⟨by first | rfl | (simp [errW_none, errW_some] <;> rfl) | (simp [*, errW_none, errW_some] <;> rfl), by repeat (first | (with_reducible first | exact HB.out | apply below_alloc | apply pw_below_drewN | apply below_drew1 | refine below_set ?_ GE213.out) | exact HB.out)⟩
        · rw [if_neg c12] at H
          have c12b0 : decide ((wrap64 ((wrap64 (64 * a1)) + 64)) < x5_2) = false := decide_eq_false c12
          clear c12
          obtain rfl := Option.some.inj H
          have hcz14_0 : wc.cell? ⟨gb213, 0, none⟩ = some (.int .i64 a0_0) := (blk_cell BK213.out 0).trans rfl
          have hcz14_1 : wc.cell? ⟨gb213, 1, none⟩ = some (.int .i64 a0_1) := (blk_cell BK213.out 1).trans rfl
          have hfz14_0 := blk_frozen BK213.out 0
          have hfz14_1 := blk_frozen BK213.out 1
          go_wp2
          go_ret
          exact ⟨by first | rfl | (simp [errW_none, errW_some] <;> rfl) | (simp [*, errW_none, errW_some] <;> rfl), by repeat (first | (with_reducible first | exact HB.out | apply below_alloc | apply pw_below_drewN | apply below_drew1 | refine below_set ?_ GE213.out) | exact HB.out)⟩

end Go.Proofs.Ytmlplblhabdbpaa.PRasterSquares
