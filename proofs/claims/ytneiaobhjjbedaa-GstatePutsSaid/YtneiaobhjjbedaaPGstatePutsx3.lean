/- A part of the proof of the law GstatePuts: plain functions and what the machine's calls of them come to; printed by wip/extprint.py out of the kit's printer and contracts of our own. No condition but an answer of the plain function. -/
import Derived.Test.YtneiaobhjjbedaaPGstatePutsx0
import Derived.Test.YtneiaobhjjbedaaPGstatePutsx2
namespace Go.Proofs.Ytneiaobhjjbedaa.PGstatePuts
open Go.RowKit Go.Proofs.YtneiaobhjjbedaaW.PrintWords Go.Proofs.YtneiaobhjjbedaaW.PrintLast Go.Proofs.YtneiaobhjjbedaaW.PrintMore
attribute [local go_sem] max2_int min2_int max_two min_two max_three min_three max_four min_four   -- for this text's walks alone
open Go.Proofs.Ytneiaobhjjbedaa (st1 st2 st3 st5 st55)
open Go.Proofs.YtneiaobhjjbedaaW.PrintWords renaming blk_drewN → bN, blk_drew → bD, blk_alloc → bA, below_alloc → lA, pw_below_drewN → lN, below_drew1 → lD, below_set → lS, blk_below → bB, blk_grown → bG, blk_cell → bC, blk_frozen → bF, blk_far → bR, blk_put → bP, below_size → lZ, below_step → lT
open Go.Proofs.YtneiaobhjjbedaaW.PrintWords.Kd renaming R_alloc → rA, R_drewN → rN, R_drew → rD, R_far → rF, R_mono → rM, R_below → rB, R_types → rT, R_grown → rG, C_alloc → cA, C_drewN → cN, C_drew → cD, R_reads' → rR
set_option linter.unusedVariables false
set_option linter.unusedSimpArgs false

/-! ### serifref09_Sound: function 27 -/
mutual
def serifref09_Sound.j0 : Nat → Int → Bool → List (S43) → List (S43) → List Bool → List Bool → List Int → Option (Bool)
 | 0, _, _, _, _, _, _, _ => none
 | k + 1, x3, x32, x120000, x120001, x120002, x120003, x120004 => if x32 = true then (some false) else (serifref09_Sound.l0 k x3 x120004 (x120004.length : Int) 0 x120000 x120001 x120002 x120003 x120004)
def serifref09_Sound.l0 : Nat → Int → List Int → Int → Int → List (S43) → List (S43) → List Bool → List Bool → List Int → Option (Bool)
 | 0, _, _, _, _, _, _, _, _, _ => none
 | k + 1, x3, x34, x35, x36, x120000, x120001, x120002, x120003, x120004 => if x36 < x35 then (if 0 ≤ x36 then (if x36 < (x34.length : Int) then (if (rd x34 x36) < 0 then (some false) else (if (rd x34 x36) ≥ x3 then (some false) else (if x36 > 0 then (if 0 ≤ (wrap64 (x36 - 1)) then (if (wrap64 (x36 - 1)) < (x120004.length : Int) then (if (rd x34 x36) ≤ (rd x120004 (wrap64 (x36 - 1))) then (some false) else (serifref09_Sound.l0 k x3 x34 x35 (wrap64 (x36 + 1)) x120000 x120001 x120002 x120003 x120004)) else (none)) else (none)) else (serifref09_Sound.l0 k x3 x34 x35 (wrap64 (x36 + 1)) x120000 x120001 x120002 x120003 x120004)))) else (none)) else (none)) else (serifref09_Sound.l1 k x3 0 x120000 x120001 x120002 x120003 x120004)
def serifref09_Sound.l1 : Nat → Int → Int → List (S43) → List (S43) → List Bool → List Bool → List Int → Option (Bool)
 | 0, _, _, _, _, _, _, _ => none
 | k + 1, x3, x6, x120000, x120001, x120002, x120003, x120004 => if x6 < x3 then (if 0 ≤ x6 then (if x6 < (x120000.length : Int) then ((serifref01_Fix.f ((rd_T43 x120000 x6).f0)).bind fun t123 => (if t123 = true then ((serifref01_Fix.f ((rd_T43 x120000 x6).f1)).bind fun t125 => (if t125 = true then (if x6 < (x120001.length : Int) then ((serifref01_Fix.f ((rd_T43 x120001 x6).f0)).bind fun t127 => (if t127 = true then ((serifref01_Fix.f ((rd_T43 x120001 x6).f1)).bind fun t129 => (if t129 = true then (serifref09_Sound.l1 k x3 (wrap64 (x6 + 1)) x120000 x120001 x120002 x120003 x120004) else (some false))) else (some false))) else (none)) else (some false))) else (some false))) else (none)) else (none)) else (some true)
end
def serifref09_Sound.f (k : Nat) (l0_0 : List (S43)) (l0_1 : List (S43)) (l0_2 : List Bool) (l0_3 : List Bool) (l0_4 : List Int) : Option (Bool) := if (l0_0.length : Int) > 4096 then (serifref09_Sound.j0 k (l0_0.length : Int) true l0_0 l0_1 l0_2 l0_3 l0_4) else (if (l0_1.length : Int) = (l0_0.length : Int) then (if (l0_2.length : Int) = (l0_0.length : Int) then (serifref09_Sound.j0 k (l0_0.length : Int) ((l0_3.length : Int) != (l0_0.length : Int)) l0_0 l0_1 l0_2 l0_3 l0_4) else (serifref09_Sound.j0 k (l0_0.length : Int) true l0_0 l0_1 l0_2 l0_3 l0_4)) else (serifref09_Sound.j0 k (l0_0.length : Int) true l0_0 l0_1 l0_2 l0_3 l0_4))
theorem serifref09_Sound.mono_l : ∀ k, (∀ y0 y1 y2 y3 y4 y5 y6, LeO (serifref09_Sound.j0 k y0 y1 y2 y3 y4 y5 y6) (serifref09_Sound.j0 (k + 1) y0 y1 y2 y3 y4 y5 y6)) ∧ (∀ y0 y1 y2 y3 y4 y5 y6 y7 y8, LeO (serifref09_Sound.l0 k y0 y1 y2 y3 y4 y5 y6 y7 y8) (serifref09_Sound.l0 (k + 1) y0 y1 y2 y3 y4 y5 y6 y7 y8)) ∧ (∀ y0 y1 y2 y3 y4 y5 y6, LeO (serifref09_Sound.l1 k y0 y1 y2 y3 y4 y5 y6) (serifref09_Sound.l1 (k + 1) y0 y1 y2 y3 y4 y5 y6))
 | 0 => ⟨fun _ _ _ _ _ _ _ r h => by simp [serifref09_Sound.j0] at h, fun _ _ _ _ _ _ _ _ _ r h => by simp [serifref09_Sound.l0] at h, fun _ _ _ _ _ _ _ r h => by simp [serifref09_Sound.l1] at h⟩
 | k + 1 => by
  obtain ⟨ih0, ih1, ih2⟩ := serifref09_Sound.mono_l k
  refine ⟨?_, ?_, ?_⟩
  ·intro y0 y1 y2 y3 y4 y5 y6
   unfold serifref09_Sound.j0
   repeat' first
   | (with_reducible exact ih0 _ _ _ _ _ _ _)
   | (with_reducible exact ih1 _ _ _ _ _ _ _ _ _)
   | (with_reducible exact ih2 _ _ _ _ _ _ _)
   | (with_reducible exact LeO.refl _)
   | (with_reducible exact LeO.none _)
   | (with_reducible refine LeO.ite ?_ ?_)
   | (with_reducible refine LeO.bind ?_ (fun _ => ?_))
   | exact ih0 _ _ _ _ _ _ _
   | exact ih1 _ _ _ _ _ _ _ _ _
   | exact ih2 _ _ _ _ _ _ _
   | exact LeO.none _
   | refine LeO.ite ?_ ?_
   | refine LeO.bind ?_ (fun _ => ?_)
  ·intro y0 y1 y2 y3 y4 y5 y6 y7 y8
   unfold serifref09_Sound.l0
   repeat' first
   | (with_reducible exact ih0 _ _ _ _ _ _ _)
   | (with_reducible exact ih1 _ _ _ _ _ _ _ _ _)
   | (with_reducible exact ih2 _ _ _ _ _ _ _)
   | (with_reducible exact LeO.refl _)
   | (with_reducible exact LeO.none _)
   | (with_reducible refine LeO.ite ?_ ?_)
   | (with_reducible refine LeO.bind ?_ (fun _ => ?_))
   | exact ih0 _ _ _ _ _ _ _
   | exact ih1 _ _ _ _ _ _ _ _ _
   | exact ih2 _ _ _ _ _ _ _
   | exact LeO.none _
   | refine LeO.ite ?_ ?_
   | refine LeO.bind ?_ (fun _ => ?_)
  ·intro y0 y1 y2 y3 y4 y5 y6
   unfold serifref09_Sound.l1
   repeat' first
   | (with_reducible exact ih0 _ _ _ _ _ _ _)
   | (with_reducible exact ih1 _ _ _ _ _ _ _ _ _)
   | (with_reducible exact ih2 _ _ _ _ _ _ _)
   | (with_reducible exact LeO.refl _)
   | (with_reducible exact LeO.none _)
   | (with_reducible refine LeO.ite ?_ ?_)
   | (with_reducible refine LeO.bind ?_ (fun _ => ?_))
   | exact ih0 _ _ _ _ _ _ _
   | exact ih1 _ _ _ _ _ _ _ _ _
   | exact ih2 _ _ _ _ _ _ _
   | exact LeO.none _
   | refine LeO.ite ?_ ?_
   | refine LeO.bind ?_ (fun _ => ?_)
theorem serifref09_Sound.mono : ∀ a0 a1 a2 a3 a4 k, LeO (serifref09_Sound.f k a0 a1 a2 a3 a4) (serifref09_Sound.f (k + 1) a0 a1 a2 a3 a4) := by
 intro a0 a1 a2 a3 a4 k
 obtain ⟨ih0, ih1, ih2⟩ := serifref09_Sound.mono_l k
 unfold serifref09_Sound.f
 repeat' first
   | (with_reducible exact ih0 _ _ _ _ _ _ _)
   | (with_reducible exact ih1 _ _ _ _ _ _ _ _ _)
   | (with_reducible exact ih2 _ _ _ _ _ _ _)
   | (with_reducible exact LeO.refl _)
   | (with_reducible exact LeO.none _)
   | (with_reducible refine LeO.ite ?_ ?_)
   | (with_reducible refine LeO.bind ?_ (fun _ => ?_))
   | exact ih0 _ _ _ _ _ _ _
   | exact ih1 _ _ _ _ _ _ _ _ _
   | exact ih2 _ _ _ _ _ _ _
   | exact LeO.none _
   | refine LeO.ite ?_ ?_
   | refine LeO.bind ?_ (fun _ => ?_)
set_option maxHeartbeats 8000000 in
set_option maxRecDepth 100000 in
theorem serifref09_Sound.calls (k : Nat) (A0_0 : Option Addr) (c0_0 : Nat) (l0_0 : List (S43)) (A0_1 : Option Addr) (c0_1 : Nat) (l0_1 : List (S43)) (A0_2 : Option Addr) (c0_2 : Nat) (l0_2 : List Bool) (A0_3 : Option Addr) (c0_3 : Nat) (l0_3 : List Bool) (A0_4 : Option Addr) (c0_4 : Nat) (l0_4 : List Int) (r : Bool) (w : World) (hr0_0 : Kd.C k43 w A0_0 l0_0.length l0_0) (hc0_0 : l0_0.length ≤ c0_0) (hr0_1 : Kd.C k43 w A0_1 l0_1.length l0_1) (hc0_1 : l0_1.length ≤ c0_1) (hr0_2 : Kd.C Kd.bool w A0_2 l0_2.length l0_2) (hc0_2 : l0_2.length ≤ c0_2) (hr0_3 : Kd.C Kd.bool w A0_3 l0_3.length l0_3) (hc0_3 : l0_3.length ≤ c0_3) (hr0_4 : Kd.C (Kd.int .i64) w A0_4 l0_4.length l0_4) (hc0_4 : l0_4.length ≤ c0_4) (h : serifref09_Sound.f k l0_0 l0_1 l0_2 l0_3 l0_4 = some r) :
  Calls Try.prog 27 #[.agg #[.slice A0_0 l0_0.length c0_0, .slice A0_1 l0_1.length c0_1, .slice A0_2 l0_2.length c0_2, .slice A0_3 l0_3.length c0_3, .slice A0_4 l0_4.length c0_4]] w fun e w' => e = .returned (.bool r) ∧ Below w.heap.size w w' := by
 have hu30 := Try.underlying30
 have HR0_0 := Aside0.mk hr0_0
 have HC0_0 := Aside0.mk hc0_0
 clear hr0_0 hc0_0
 have HR0_1 := Aside0.mk hr0_1
 have HC0_1 := Aside0.mk hc0_1
 clear hr0_1 hc0_1
 have HR0_2 := Aside0.mk hr0_2
 have HC0_2 := Aside0.mk hc0_2
 clear hr0_2 hc0_2
 have HR0_3 := Aside0.mk hr0_3
 have HC0_3 := Aside0.mk hc0_3
 clear hr0_3 hc0_3
 have HR0_4 := Aside0.mk hr0_4
 have HC0_4 := Aside0.mk hc0_4
 clear hr0_4 hc0_4
 have HB := Aside0.mk (Below.refl w.heap.size w)
 have H : (if (l0_0.length : Int) > 4096 then (serifref09_Sound.j0 k (l0_0.length : Int) true l0_0 l0_1 l0_2 l0_3 l0_4) else (if (l0_1.length : Int) = (l0_0.length : Int) then (if (l0_2.length : Int) = (l0_0.length : Int) then (serifref09_Sound.j0 k (l0_0.length : Int) ((l0_3.length : Int) != (l0_0.length : Int)) l0_0 l0_1 l0_2 l0_3 l0_4) else (serifref09_Sound.j0 k (l0_0.length : Int) true l0_0 l0_1 l0_2 l0_3 l0_4)) else (serifref09_Sound.j0 k (l0_0.length : Int) true l0_0 l0_1 l0_2 l0_3 l0_4))) = some r := h
 clear h
 have HC2 := Aside0.mk H
 clear H
 go_enter Try.func27, Try.ntmps27
 go_upto_region 2 with (first | ((with_reducible refine gate_dst (N := 1) rfl ?_); (try (refine gate_guard (by rfl) ?_; dsimp only)); refine box_event ?hg (N := 1) ?hd (cs := #[.slice A0_0 l0_0.length c0_0, .slice A0_1 l0_1.length c0_1, .slice A0_2 l0_2.length c0_2, .slice A0_3 l0_3.length c0_3, .slice A0_4 l0_4.length c0_4]) (t := 30) ?hr ?_; (case hd => rfl); (case hg => rfl); (case hr => first | (go_simp; done) | (go_simp; rfl)); intro gb119 hg w3 hbox hb; have BK119 := Aside0.mk (hbox); have GW119 := Aside0.mk ((by rw [hg]; exact (lZ (by with_reducible repeat first | exact HB.out | apply lN | apply lD)) : w.heap.size ≤ gb119)); have GE119 := Aside0.mk ((by rw [hg]; exact (lZ (by with_reducible repeat first | exact HB.out | apply lN | apply lD)) : w.heap.size ≤ gb119)); replace HB := Aside0.mk (lT HB.out hb); clear hb hbox hg; have hcz4_0 : w3.cell? ⟨gb119, 0, none⟩ = some (.slice A0_0 l0_0.length c0_0) := (bC BK119.out 0).trans rfl; have hcz4_1 : w3.cell? ⟨gb119, 1, none⟩ = some (.slice A0_1 l0_1.length c0_1) := (bC BK119.out 1).trans rfl; have hcz4_2 : w3.cell? ⟨gb119, 2, none⟩ = some (.slice A0_2 l0_2.length c0_2) := (bC BK119.out 2).trans rfl; have hcz4_3 : w3.cell? ⟨gb119, 3, none⟩ = some (.slice A0_3 l0_3.length c0_3) := (bC BK119.out 3).trans rfl; have hcz4_4 : w3.cell? ⟨gb119, 4, none⟩ = some (.slice A0_4 l0_4.length c0_4) := (bC BK119.out 4).trans rfl; have hfz4_0 := bF BK119.out 0; have hfz4_1 := bF BK119.out 1; have hfz4_2 := bF BK119.out 2; have hfz4_3 := bF BK119.out 3; have hfz4_4 := bF BK119.out 4))
 (try simp only [Act.put, List.setIfInBounds_toArray, List.set_cons_zero, List.set_cons_succ])
 go_cut [32] (fun v32 wc => ∃ (kq : Nat) (x32_1 : Bool), v32 = .bool x32_1 ∧ Aside0 (serifref09_Sound.j0 kq (l0_0.length : Int) x32_1 l0_0 l0_1 l0_2 l0_3 l0_4 = some r) ∧ Aside0 (kq ≤ k) ∧ Aside0 (wc.heap[gb119]? = some (.cells #[(.slice A0_0 l0_0.length c0_0), (.slice A0_1 l0_1.length c0_1), (.slice A0_2 l0_2.length c0_2), (.slice A0_3 l0_3.length c0_3), (.slice A0_4 l0_4.length c0_4)] 30 (0, 0))) ∧ Aside0 (Below w.heap.size w wc))
 case first =>
  have H := HC2.out
  clear HC2
  by_cases c5 : (l0_0.length : Int) > 4096
  ·rw [if_pos c5] at H
   have c5b0 : decide (4096 < (l0_0.length : Int)) = true := decide_eq_true c5
   have c5b1 : decide (4096 < l0_0.length) = true := decide_eq_true (by omega)
   clear c5
   (first | rw [c5b0] | (simp only [i64_w, i32_w]; rw [c5b0]) | skip)
   have H' := Aside0.mk H
   clear H
   go_wp2
   go_meet
   case rel => exact ⟨_, (true), (by first | rfl | (simp; done) | (simp [*]; done)), H', ⟨by first | omega | exact Nat.le_refl _⟩, ⟨by (with_reducible repeat (first | refine bN ?_ _ | refine bD ?_ | refine bA ?_ _)); exact BK119.out⟩, ⟨by with_reducible repeat first | exact HB.out | apply lN | apply lD | refine lS ?_ GE119.out⟩⟩
  ·rw [if_neg c5] at H
   have c5b0 : decide (4096 < (l0_0.length : Int)) = false := decide_eq_false c5
   have c5b1 : decide (4096 < l0_0.length) = false := decide_eq_false (by omega)
   clear c5
   (first | rw [c5b0] | (simp only [i64_w, i32_w]; rw [c5b0]) | skip)
   by_cases c6 : (l0_1.length : Int) = (l0_0.length : Int)
   ·rw [if_pos c6] at H
    have c6b0 : ((l0_1.length : Int) == (l0_0.length : Int)) = true := beq_iff_eq.mpr c6
    have c6b1 : ((l0_1.length : Int) != (l0_0.length : Int)) = false := bne_eq_false_iff_eq.mpr c6
    have c6b2 : (l0_1.length == l0_0.length) = true := by first | simpa using c6 | (simp at c6 ⊢; omega)
    clear c6
    by_cases c7 : (l0_2.length : Int) = (l0_0.length : Int)
    ·rw [if_pos c7] at H
     have c7b0 : ((l0_2.length : Int) == (l0_0.length : Int)) = true := beq_iff_eq.mpr c7
     have c7b1 : ((l0_2.length : Int) != (l0_0.length : Int)) = false := bne_eq_false_iff_eq.mpr c7
     have c7b2 : (l0_2.length == l0_0.length) = true := by first | simpa using c7 | (simp at c7 ⊢; omega)
     clear c7
     have H' := Aside0.mk H
     clear H
     have hcz8_0 : w3.cell? ⟨gb119, 0, none⟩ = some (.slice A0_0 l0_0.length c0_0) := (bC BK119.out 0).trans rfl
     have hcz8_1 : w3.cell? ⟨gb119, 1, none⟩ = some (.slice A0_1 l0_1.length c0_1) := (bC BK119.out 1).trans rfl
     have hcz8_2 : w3.cell? ⟨gb119, 2, none⟩ = some (.slice A0_2 l0_2.length c0_2) := (bC BK119.out 2).trans rfl
     have hcz8_3 : w3.cell? ⟨gb119, 3, none⟩ = some (.slice A0_3 l0_3.length c0_3) := (bC BK119.out 3).trans rfl
     have hcz8_4 : w3.cell? ⟨gb119, 4, none⟩ = some (.slice A0_4 l0_4.length c0_4) := (bC BK119.out 4).trans rfl
     have hfz8_0 := bF BK119.out 0
     have hfz8_1 := bF BK119.out 1
     have hfz8_2 := bF BK119.out 2
     have hfz8_3 := bF BK119.out 3
     have hfz8_4 := bF BK119.out 4
     go_wp2
     go_meet
     case rel => exact ⟨_, (((l0_3.length : Int) != (l0_0.length : Int))), (by first | rfl | (simp; done) | (simp [*]; done)), H', ⟨by first | omega | exact Nat.le_refl _⟩, ⟨by (with_reducible repeat (first | refine bN ?_ _ | refine bD ?_ | refine bA ?_ _)); exact BK119.out⟩, ⟨by with_reducible repeat first | exact HB.out | apply lN | apply lD | refine lS ?_ GE119.out⟩⟩
    ·rw [if_neg c7] at H
     have c7b0 : ((l0_2.length : Int) == (l0_0.length : Int)) = false := beq_eq_false_iff_ne.mpr c7
     have c7b1 : ((l0_2.length : Int) != (l0_0.length : Int)) = true := bne_iff_ne.mpr c7
     have c7b2 : (l0_2.length == l0_0.length) = false := by first | simpa using c7 | (simp at c7 ⊢; omega)
     have H' := Aside0.mk H
     clear H
     have hcz9_0 : w3.cell? ⟨gb119, 0, none⟩ = some (.slice A0_0 l0_0.length c0_0) := (bC BK119.out 0).trans rfl
     have hcz9_1 : w3.cell? ⟨gb119, 1, none⟩ = some (.slice A0_1 l0_1.length c0_1) := (bC BK119.out 1).trans rfl
     have hcz9_2 : w3.cell? ⟨gb119, 2, none⟩ = some (.slice A0_2 l0_2.length c0_2) := (bC BK119.out 2).trans rfl
     have hcz9_3 : w3.cell? ⟨gb119, 3, none⟩ = some (.slice A0_3 l0_3.length c0_3) := (bC BK119.out 3).trans rfl
     have hcz9_4 : w3.cell? ⟨gb119, 4, none⟩ = some (.slice A0_4 l0_4.length c0_4) := (bC BK119.out 4).trans rfl
     have hfz9_0 := bF BK119.out 0
     have hfz9_1 := bF BK119.out 1
     have hfz9_2 := bF BK119.out 2
     have hfz9_3 := bF BK119.out 3
     have hfz9_4 := bF BK119.out 4
     go_wp2
     go_meet
     case rel => exact ⟨_, (true), (by first | rfl | (simp; done) | (simp [*]; done)), H', ⟨by first | omega | exact Nat.le_refl _⟩, ⟨by (with_reducible repeat (first | refine bN ?_ _ | refine bD ?_ | refine bA ?_ _)); exact BK119.out⟩, ⟨by with_reducible repeat first | exact HB.out | apply lN | apply lD | refine lS ?_ GE119.out⟩⟩
   ·rw [if_neg c6] at H
    have c6b0 : ((l0_1.length : Int) == (l0_0.length : Int)) = false := beq_eq_false_iff_ne.mpr c6
    have c6b1 : ((l0_1.length : Int) != (l0_0.length : Int)) = true := bne_iff_ne.mpr c6
    have c6b2 : (l0_1.length == l0_0.length) = false := by first | simpa using c6 | (simp at c6 ⊢; omega)
    have H' := Aside0.mk H
    clear H
    have hcz10_0 : w3.cell? ⟨gb119, 0, none⟩ = some (.slice A0_0 l0_0.length c0_0) := (bC BK119.out 0).trans rfl
    have hcz10_1 : w3.cell? ⟨gb119, 1, none⟩ = some (.slice A0_1 l0_1.length c0_1) := (bC BK119.out 1).trans rfl
    have hcz10_2 : w3.cell? ⟨gb119, 2, none⟩ = some (.slice A0_2 l0_2.length c0_2) := (bC BK119.out 2).trans rfl
    have hcz10_3 : w3.cell? ⟨gb119, 3, none⟩ = some (.slice A0_3 l0_3.length c0_3) := (bC BK119.out 3).trans rfl
    have hcz10_4 : w3.cell? ⟨gb119, 4, none⟩ = some (.slice A0_4 l0_4.length c0_4) := (bC BK119.out 4).trans rfl
    have hfz10_0 := bF BK119.out 0
    have hfz10_1 := bF BK119.out 1
    have hfz10_2 := bF BK119.out 2
    have hfz10_3 := bF BK119.out 3
    have hfz10_4 := bF BK119.out 4
    go_wp2
    go_meet
    case rel => exact ⟨_, (true), (by first | rfl | (simp; done) | (simp [*]; done)), H', ⟨by first | omega | exact Nat.le_refl _⟩, ⟨by (with_reducible repeat (first | refine bN ?_ _ | refine bD ?_ | refine bA ?_ _)); exact BK119.out⟩, ⟨by with_reducible repeat first | exact HB.out | apply lN | apply lD | refine lS ?_ GE119.out⟩⟩
 case rest =>
  clear HC2
  try clear c2
  try clear p2
  try clear c5
  try clear c5b0
  try clear c5b1
  try clear c6
  try clear c6b0
  try clear c6b1
  try clear c6b2
  try clear c7
  try clear c7b0
  try clear c7b1
  try clear c7b2
  try clear hcz10_0
  try clear hcz10_1
  try clear hcz10_2
  try clear hcz10_3
  try clear hcz10_4
  try clear hcz4_0
  try clear hcz4_1
  try clear hcz4_2
  try clear hcz4_3
  try clear hcz4_4
  try clear hcz8_0
  try clear hcz8_1
  try clear hcz8_2
  try clear hcz8_3
  try clear hcz8_4
  try clear hcz9_0
  try clear hcz9_1
  try clear hcz9_2
  try clear hcz9_3
  try clear hcz9_4
  try clear hfz10_0
  try clear hfz10_1
  try clear hfz10_2
  try clear hfz10_3
  try clear hfz10_4
  try clear hfz4_0
  try clear hfz4_1
  try clear hfz4_2
  try clear hfz4_3
  try clear hfz4_4
  try clear hfz8_0
  try clear hfz8_1
  try clear hfz8_2
  try clear hfz8_3
  try clear hfz8_4
  try clear hfz9_0
  try clear hfz9_1
  try clear hfz9_2
  try clear hfz9_3
  try clear hfz9_4
  obtain ⟨kq, x32_1, rfl, HA, HJ1, BK119, HB⟩ := hcut
  cases kq with
  | zero => exact absurd HA.out (by simp [serifref09_Sound.j0])
  | succ kj1 =>
   have H := HA.out
   clear HA
   simp only [serifref09_Sound.j0] at H
   by_cases c11 : x32_1 = true
   ·subst c11
    have H1 : (some false) = some r := by rw [if_pos rfl] at H; exact H
    clear H
    have H := H1
    clear H1
    obtain rfl := Option.some.inj H
    go_wp2
    go_ret
    exact ⟨by first | rfl | (simp [errW_none, errW_some] <;> rfl) | (simp [*, errW_none, errW_some] <;> rfl), by with_reducible repeat first | exact HB.out | apply lN | apply lD | refine lS ?_ GE119.out⟩
   ·replace c11 := Bool.eq_false_iff.mpr c11
    subst c11
    have H1 : (serifref09_Sound.l0 kj1 (l0_0.length : Int) l0_4 (l0_4.length : Int) 0 l0_0 l0_1 l0_2 l0_3 l0_4) = some r := by rw [if_neg (show ¬ (false = true) by decide)] at H; exact H
    clear H
    have H := H1
    clear H1
    have H' := Aside0.mk H
    clear H
    have hcz12_0 : wc.cell? ⟨gb119, 0, none⟩ = some (.slice A0_0 l0_0.length c0_0) := (bC BK119.out 0).trans rfl
    have hcz12_1 : wc.cell? ⟨gb119, 1, none⟩ = some (.slice A0_1 l0_1.length c0_1) := (bC BK119.out 1).trans rfl
    have hcz12_2 : wc.cell? ⟨gb119, 2, none⟩ = some (.slice A0_2 l0_2.length c0_2) := (bC BK119.out 2).trans rfl
    have hcz12_3 : wc.cell? ⟨gb119, 3, none⟩ = some (.slice A0_3 l0_3.length c0_3) := (bC BK119.out 3).trans rfl
    have hcz12_4 : wc.cell? ⟨gb119, 4, none⟩ = some (.slice A0_4 l0_4.length c0_4) := (bC BK119.out 4).trans rfl
    have hfz12_0 := bF BK119.out 0
    have hfz12_1 := bF BK119.out 1
    have hfz12_2 := bF BK119.out 2
    have hfz12_3 := bF BK119.out 3
    have hfz12_4 := bF BK119.out 4
    go_wp2
    go_loopg [36] kj1 (fun kq v36 w' => ∃ (x36_2 : Int), v36 = .int .i64 x36_2 ∧ Aside0 (serifref09_Sound.l0 kq (l0_0.length : Int) l0_4 (l0_4.length : Int) x36_2 l0_0 l0_1 l0_2 l0_3 l0_4 = some r) ∧ Aside0 (kq ≤ kj1) ∧ Aside0 (w'.heap[gb119]? = some (.cells #[(.slice A0_0 l0_0.length c0_0), (.slice A0_1 l0_1.length c0_1), (.slice A0_2 l0_2.length c0_2), (.slice A0_3 l0_3.length c0_3), (.slice A0_4 l0_4.length c0_4)] 30 (0, 0))) ∧ Aside0 (Below w.heap.size w w'))
    case atStart => exact ⟨(0), (by first | rfl | (simp; done) | (simp [*]; done)), H', ⟨Nat.le_refl _⟩, ⟨by (with_reducible repeat (first | refine bN ?_ _ | refine bD ?_ | refine bA ?_ _)); exact BK119.out⟩, ⟨by with_reducible repeat first | exact HB.out | apply lN | apply lD | refine lS ?_ GE119.out⟩⟩
    case round =>
     clear H'
     try clear c1
     try clear c2
     try clear p2
     try clear c5
     try clear c5b0
     try clear c5b1
     try clear c6
     try clear c6b0
     try clear c6b1
     try clear c6b2
     try clear c7
     try clear c7b0
     try clear c7b1
     try clear c7b2
     try clear c11
     try clear hcz10_0
     try clear hcz10_1
     try clear hcz10_2
     try clear hcz10_3
     try clear hcz10_4
     try clear hcz12_0
     try clear hcz12_1
     try clear hcz12_2
     try clear hcz12_3
     try clear hcz12_4
     try clear hcz4_0
     try clear hcz4_1
     try clear hcz4_2
     try clear hcz4_3
     try clear hcz4_4
     try clear hcz8_0
     try clear hcz8_1
     try clear hcz8_2
     try clear hcz8_3
     try clear hcz8_4
     try clear hcz9_0
     try clear hcz9_1
     try clear hcz9_2
     try clear hcz9_3
     try clear hcz9_4
     try clear hfz10_0
     try clear hfz10_1
     try clear hfz10_2
     try clear hfz10_3
     try clear hfz10_4
     try clear hfz12_0
     try clear hfz12_1
     try clear hfz12_2
     try clear hfz12_3
     try clear hfz12_4
     try clear hfz4_0
     try clear hfz4_1
     try clear hfz4_2
     try clear hfz4_3
     try clear hfz4_4
     try clear hfz8_0
     try clear hfz8_1
     try clear hfz8_2
     try clear hfz8_3
     try clear hfz8_4
     try clear hfz9_0
     try clear hfz9_1
     try clear hfz9_2
     try clear hfz9_3
     try clear hfz9_4
     try clear p2
     obtain ⟨x36_2, rfl, HA, HK2, BK119, HB⟩ := hrel
     cases gk with
     | zero => exact absurd HA.out (by simp [serifref09_Sound.l0])
     | succ k2 =>
      have H := HA.out
      clear HA
      simp only [serifref09_Sound.l0] at H
      by_cases c13 : x36_2 < (l0_4.length : Int)
      ·rw [if_pos c13] at H
       have c13b0 : decide (x36_2 < (l0_4.length : Int)) = true := decide_eq_true c13
       clear c13
       by_cases c14 : 0 ≤ x36_2
       ·rw [if_pos c14] at H
        have c14b0 : decide (0 ≤ x36_2) = true := decide_eq_true c14
        clear c14
        by_cases c15 : x36_2 < (l0_4.length : Int)
        ·rw [if_pos c15] at H
         have c15b0 : decide (x36_2 < (l0_4.length : Int)) = true := decide_eq_true c15
         clear c15
         by_cases c16 : (rd l0_4 x36_2) < 0
         ·rw [if_pos c16] at H
          have c16b0 : decide ((rd l0_4 x36_2) < 0) = true := decide_eq_true c16
          clear c16
          obtain rfl := Option.some.inj H
          have p120 : 0 ≤ (x36_2 : Int) := of_decide_eq_true (by first | (with_reducible assumption) | assumption)
          have q120 : x36_2 < (l0_4.length : Int) := of_decide_eq_true (by first | (with_reducible assumption) | assumption)
          obtain ⟨ad120, e120, hx120_0⟩ := Kd.at_int HR0_4.out x36_2 p120 q120
          cases e120
          replace hx120_0 := (HB.out.cell (World.block_lt_of_cell? w _ hx120_0)).trans hx120_0
          replace p120 := eq_true p120
          replace q120 := eq_true q120
          go_wp2
          go_ret
          exact ⟨by first | rfl | (simp [errW_none, errW_some] <;> rfl) | (simp [*, errW_none, errW_some] <;> rfl), by with_reducible repeat first | exact HB.out | apply lN | apply lD | refine lS ?_ GE119.out⟩
         ·rw [if_neg c16] at H
          have c16b0 : decide ((rd l0_4 x36_2) < 0) = false := decide_eq_false c16
          clear c16
          by_cases c17 : (rd l0_4 x36_2) ≥ (l0_0.length : Int)
          ·rw [if_pos c17] at H
           have c17b0 : decide ((l0_0.length : Int) ≤ (rd l0_4 x36_2)) = true := decide_eq_true c17
           clear c17
           obtain rfl := Option.some.inj H
           have p120 : 0 ≤ (x36_2 : Int) := of_decide_eq_true (by first | (with_reducible assumption) | assumption)
           have q120 : x36_2 < (l0_4.length : Int) := of_decide_eq_true (by first | (with_reducible assumption) | assumption)
           obtain ⟨ad120, e120, hx120_0⟩ := Kd.at_int HR0_4.out x36_2 p120 q120
           cases e120
           replace hx120_0 := (HB.out.cell (World.block_lt_of_cell? w _ hx120_0)).trans hx120_0
           replace p120 := eq_true p120
           replace q120 := eq_true q120
           go_wp2
           go_ret
           exact ⟨by first | rfl | (simp [errW_none, errW_some] <;> rfl) | (simp [*, errW_none, errW_some] <;> rfl), by with_reducible repeat first | exact HB.out | apply lN | apply lD | refine lS ?_ GE119.out⟩
          ·rw [if_neg c17] at H
           have c17b0 : decide ((l0_0.length : Int) ≤ (rd l0_4 x36_2)) = false := decide_eq_false c17
           clear c17
           by_cases c18 : x36_2 > 0
           ·rw [if_pos c18] at H
            have c18b0 : decide (0 < x36_2) = true := decide_eq_true c18
            clear c18
            obtain ⟨ji19, hji19⟩ : ∃ j_ : Int, (wrap64 (x36_2 - 1)) = j_ := ⟨_, rfl⟩
            replace H : (if 0 ≤ (ji19) then (if (ji19) < (l0_4.length : Int) then (if (rd l0_4 x36_2) ≤ (rd l0_4 (ji19)) then (some false) else (serifref09_Sound.l0 k2 (l0_0.length : Int) l0_4 (l0_4.length : Int) (wrap64 (x36_2 + 1)) l0_0 l0_1 l0_2 l0_3 l0_4)) else (none)) else (none)) = some r := by first | (rw [hji19] at H; exact H) | (simp only [hji19] at H ⊢; exact H)
            have hji19w : (IntKind.i64.wrap (x36_2 - 1)) = ji19 := (i64_w _).trans hji19
            by_cases c20 : 0 ≤ (ji19)
            ·rw [if_pos c20] at H
             have c20b0 : decide (0 ≤ (ji19)) = true := decide_eq_true c20
             clear c20
             by_cases c21 : (ji19) < (l0_4.length : Int)
             ·rw [if_pos c21] at H
              have c21b0 : decide ((ji19) < (l0_4.length : Int)) = true := decide_eq_true c21
              clear c21
              by_cases c22 : (rd l0_4 x36_2) ≤ (rd l0_4 (ji19))
              ·rw [if_pos c22] at H
               have c22b0 : decide ((rd l0_4 x36_2) ≤ (rd l0_4 (ji19))) = true := decide_eq_true c22
               clear c22
               obtain rfl := Option.some.inj H
               have p120 : 0 ≤ (x36_2 : Int) := of_decide_eq_true (by first | (with_reducible assumption) | assumption)
               have q120 : x36_2 < (l0_4.length : Int) := of_decide_eq_true (by first | (with_reducible assumption) | assumption)
               obtain ⟨ad120, e120, hx120_0⟩ := Kd.at_int HR0_4.out x36_2 p120 q120
               cases e120
               replace hx120_0 := (HB.out.cell (World.block_lt_of_cell? w _ hx120_0)).trans hx120_0
               replace p120 := eq_true p120
               replace q120 := eq_true q120
               have hcz23_0 : wr.cell? ⟨gb119, 0, none⟩ = some (.slice A0_0 l0_0.length c0_0) := (bC BK119.out 0).trans rfl
               have hcz23_1 : wr.cell? ⟨gb119, 1, none⟩ = some (.slice A0_1 l0_1.length c0_1) := (bC BK119.out 1).trans rfl
               have hcz23_2 : wr.cell? ⟨gb119, 2, none⟩ = some (.slice A0_2 l0_2.length c0_2) := (bC BK119.out 2).trans rfl
               have hcz23_3 : wr.cell? ⟨gb119, 3, none⟩ = some (.slice A0_3 l0_3.length c0_3) := (bC BK119.out 3).trans rfl
               have hcz23_4 : wr.cell? ⟨gb119, 4, none⟩ = some (.slice (some ad120) l0_4.length c0_4) := (bC BK119.out 4).trans rfl
               have hfz23_0 := bF BK119.out 0
               have hfz23_1 := bF BK119.out 1
               have hfz23_2 := bF BK119.out 2
               have hfz23_3 := bF BK119.out 3
               have hfz23_4 := bF BK119.out 4
               have p121 : 0 ≤ ((ji19) : Int) := of_decide_eq_true (by first | (with_reducible assumption) | assumption)
               have q121 : (ji19) < (l0_4.length : Int) := of_decide_eq_true (by first | (with_reducible assumption) | assumption)
               obtain ⟨ad121, e121, hx121_0⟩ := Kd.at_int HR0_4.out (ji19) p121 q121
               obtain rfl : ad120 = ad121 := (by injection e121)
               replace hx121_0 := (HB.out.cell (World.block_lt_of_cell? w _ hx121_0)).trans hx121_0
               replace p121 := eq_true p121
               replace q121 := eq_true q121
               go_wp2
               go_ret
               exact ⟨by first | rfl | (simp [errW_none, errW_some] <;> rfl) | (simp only [← hji19]; first | rfl | (simp [errW_none, errW_some] <;> rfl)) | (simp [*, errW_none, errW_some] <;> rfl), by with_reducible repeat first | exact HB.out | apply lN | apply lD | refine lS ?_ GE119.out⟩
              ·rw [if_neg c22] at H
               have c22b0 : decide ((rd l0_4 x36_2) ≤ (rd l0_4 (ji19))) = false := decide_eq_false c22
               clear c22
               have H' := Aside0.mk H
               clear H
               have p120 : 0 ≤ (x36_2 : Int) := of_decide_eq_true (by first | (with_reducible assumption) | assumption)
               have q120 : x36_2 < (l0_4.length : Int) := of_decide_eq_true (by first | (with_reducible assumption) | assumption)
               obtain ⟨ad120, e120, hx120_0⟩ := Kd.at_int HR0_4.out x36_2 p120 q120
               cases e120
               replace hx120_0 := (HB.out.cell (World.block_lt_of_cell? w _ hx120_0)).trans hx120_0
               replace p120 := eq_true p120
               replace q120 := eq_true q120
               have hcz24_0 : wr.cell? ⟨gb119, 0, none⟩ = some (.slice A0_0 l0_0.length c0_0) := (bC BK119.out 0).trans rfl
               have hcz24_1 : wr.cell? ⟨gb119, 1, none⟩ = some (.slice A0_1 l0_1.length c0_1) := (bC BK119.out 1).trans rfl
               have hcz24_2 : wr.cell? ⟨gb119, 2, none⟩ = some (.slice A0_2 l0_2.length c0_2) := (bC BK119.out 2).trans rfl
               have hcz24_3 : wr.cell? ⟨gb119, 3, none⟩ = some (.slice A0_3 l0_3.length c0_3) := (bC BK119.out 3).trans rfl
               have hcz24_4 : wr.cell? ⟨gb119, 4, none⟩ = some (.slice (some ad120) l0_4.length c0_4) := (bC BK119.out 4).trans rfl
               have hfz24_0 := bF BK119.out 0
               have hfz24_1 := bF BK119.out 1
               have hfz24_2 := bF BK119.out 2
               have hfz24_3 := bF BK119.out 3
               have hfz24_4 := bF BK119.out 4
               have p121 : 0 ≤ ((ji19) : Int) := of_decide_eq_true (by first | (with_reducible assumption) | assumption)
               have q121 : (ji19) < (l0_4.length : Int) := of_decide_eq_true (by first | (with_reducible assumption) | assumption)
               obtain ⟨ad121, e121, hx121_0⟩ := Kd.at_int HR0_4.out (ji19) p121 q121
               obtain rfl : ad120 = ad121 := (by injection e121)
               replace hx121_0 := (HB.out.cell (World.block_lt_of_cell? w _ hx121_0)).trans hx121_0
               replace p121 := eq_true p121
               replace q121 := eq_true q121
               go_wp2
               go_roundg k2
               case measure => have := HJ1.out; have := HK2.out; omega
               case rel => exact ⟨(wrap64 (x36_2 + 1)), (by first | rfl | (simp; done) | (simp [*]; done)), H', ⟨by have := HJ1.out; have := HK2.out; omega⟩, ⟨by (with_reducible repeat (first | refine bN ?_ _ | refine bD ?_ | refine bA ?_ _)); exact BK119.out⟩, ⟨by with_reducible repeat first | exact HB.out | apply lN | apply lD | refine lS ?_ GE119.out⟩⟩
             ·rw [if_neg c21] at H
              exact absurd H (by simp)
            ·rw [if_neg c20] at H
             exact absurd H (by simp)
           ·rw [if_neg c18] at H
            have c18b0 : decide (0 < x36_2) = false := decide_eq_false c18
            clear c18
            have H' := Aside0.mk H
            clear H
            have p120 : 0 ≤ (x36_2 : Int) := of_decide_eq_true (by first | (with_reducible assumption) | assumption)
            have q120 : x36_2 < (l0_4.length : Int) := of_decide_eq_true (by first | (with_reducible assumption) | assumption)
            obtain ⟨ad120, e120, hx120_0⟩ := Kd.at_int HR0_4.out x36_2 p120 q120
            cases e120
            replace hx120_0 := (HB.out.cell (World.block_lt_of_cell? w _ hx120_0)).trans hx120_0
            replace p120 := eq_true p120
            replace q120 := eq_true q120
            go_wp2
            go_roundg k2
            case measure => have := HJ1.out; have := HK2.out; omega
            case rel => exact ⟨(wrap64 (x36_2 + 1)), (by first | rfl | (simp; done) | (simp [*]; done)), H', ⟨by have := HJ1.out; have := HK2.out; omega⟩, ⟨by (with_reducible repeat (first | refine bN ?_ _ | refine bD ?_ | refine bA ?_ _)); exact BK119.out⟩, ⟨by with_reducible repeat first | exact HB.out | apply lN | apply lD | refine lS ?_ GE119.out⟩⟩
        ·rw [if_neg c15] at H
         exact absurd H (by simp)
       ·rw [if_neg c14] at H
        exact absurd H (by simp)
      ·rw [if_neg c13] at H
       have c13b0 : decide (x36_2 < (l0_4.length : Int)) = false := decide_eq_false c13
       clear c13
       have H' := Aside0.mk H
       clear H
       go_wp2
       go_loopg [6] k2 (fun kq v6 w' => ∃ (x6_3 : Int), v6 = .int .i64 x6_3 ∧ Aside0 (serifref09_Sound.l1 kq (l0_0.length : Int) x6_3 l0_0 l0_1 l0_2 l0_3 l0_4 = some r) ∧ Aside0 (kq ≤ k2) ∧ Aside0 (w'.heap[gb119]? = some (.cells #[(.slice A0_0 l0_0.length c0_0), (.slice A0_1 l0_1.length c0_1), (.slice A0_2 l0_2.length c0_2), (.slice A0_3 l0_3.length c0_3), (.slice A0_4 l0_4.length c0_4)] 30 (0, 0))) ∧ Aside0 (Below w.heap.size w w'))
       case atStart => exact ⟨(0), (by first | rfl | (simp; done) | (simp [*]; done)), H', ⟨Nat.le_refl _⟩, ⟨by (with_reducible repeat (first | refine bN ?_ _ | refine bD ?_ | refine bA ?_ _)); exact BK119.out⟩, ⟨by with_reducible repeat first | exact HB.out | apply lN | apply lD | refine lS ?_ GE119.out⟩⟩
       case round =>
        clear H'
        try clear c1
        try clear p1
        try clear q1
        try clear hx1
        try clear c2
        try clear p2
        try clear c5
        try clear c5b0
        try clear c5b1
        try clear c6
        try clear c6b0
        try clear c6b1
        try clear c6b2
        try clear p6
        try clear c7
        try clear c7b0
        try clear c7b1
        try clear c7b2
        try clear c11
        try clear p12
        try clear q12
        try clear hx12
        try clear c13
        try clear c13b0
        try clear c14
        try clear c14b0
        try clear c15
        try clear c15b0
        try clear c16
        try clear c16b0
        try clear c17
        try clear c17b0
        try clear c18
        try clear c18b0
        try clear c20
        try clear c20b0
        try clear c21
        try clear c21b0
        try clear c22
        try clear c22b0
        try clear hcz10_0
        try clear hcz10_1
        try clear hcz10_2
        try clear hcz10_3
        try clear hcz10_4
        try clear hcz12_0
        try clear hcz12_1
        try clear hcz12_2
        try clear hcz12_3
        try clear hcz12_4
        try clear hcz23_0
        try clear hcz23_1
        try clear hcz23_2
        try clear hcz23_3
        try clear hcz23_4
        try clear hcz24_0
        try clear hcz24_1
        try clear hcz24_2
        try clear hcz24_3
        try clear hcz24_4
        try clear hcz4_0
        try clear hcz4_1
        try clear hcz4_2
        try clear hcz4_3
        try clear hcz4_4
        try clear hcz8_0
        try clear hcz8_1
        try clear hcz8_2
        try clear hcz8_3
        try clear hcz8_4
        try clear hcz9_0
        try clear hcz9_1
        try clear hcz9_2
        try clear hcz9_3
        try clear hcz9_4
        try clear hfz10_0
        try clear hfz10_1
        try clear hfz10_2
        try clear hfz10_3
        try clear hfz10_4
        try clear hfz12_0
        try clear hfz12_1
        try clear hfz12_2
        try clear hfz12_3
        try clear hfz12_4
        try clear hfz23_0
        try clear hfz23_1
        try clear hfz23_2
        try clear hfz23_3
        try clear hfz23_4
        try clear hfz24_0
        try clear hfz24_1
        try clear hfz24_2
        try clear hfz24_3
        try clear hfz24_4
        try clear hfz4_0
        try clear hfz4_1
        try clear hfz4_2
        try clear hfz4_3
        try clear hfz4_4
        try clear hfz8_0
        try clear hfz8_1
        try clear hfz8_2
        try clear hfz8_3
        try clear hfz8_4
        try clear hfz9_0
        try clear hfz9_1
        try clear hfz9_2
        try clear hfz9_3
        try clear hfz9_4
        try clear hx120_0
        try clear hx121_0
        try clear p120
        try clear p121
        try clear p2
        try clear q120
        try clear q121
        obtain ⟨x6_3, rfl, HA, HK3, BK119, HB⟩ := hrel
        cases gk with
        | zero => exact absurd HA.out (by simp [serifref09_Sound.l1])
        | succ k3 =>
         have H := HA.out
         clear HA
         simp only [serifref09_Sound.l1] at H
         by_cases c25 : x6_3 < (l0_0.length : Int)
         ·rw [if_pos c25] at H
          have c25b0 : decide (x6_3 < (l0_0.length : Int)) = true := decide_eq_true c25
          clear c25
          by_cases c26 : 0 ≤ x6_3
          ·rw [if_pos c26] at H
           have c26b0 : decide (0 ≤ x6_3) = true := decide_eq_true c26
           clear c26
           by_cases c27 : x6_3 < (l0_0.length : Int)
           ·rw [if_pos c27] at H
            have c27b0 : decide (x6_3 < (l0_0.length : Int)) = true := decide_eq_true c27
            clear c27
            replace H := Option.bind_eq_some_iff.mp H
            obtain ⟨t123, A280, H⟩ := H
            replace H : (if t123 = true then ((serifref01_Fix.f ((rd_T43 l0_0 x6_3).f1)).bind fun t125 => (if t125 = true then (if x6_3 < (l0_1.length : Int) then ((serifref01_Fix.f ((rd_T43 l0_1 x6_3).f0)).bind fun t127 => (if t127 = true then ((serifref01_Fix.f ((rd_T43 l0_1 x6_3).f1)).bind fun t129 => (if t129 = true then (serifref09_Sound.l1 k3 (l0_0.length : Int) (wrap64 (x6_3 + 1)) l0_0 l0_1 l0_2 l0_3 l0_4) else (some false))) else (some false))) else (none)) else (some false))) else (some false)) = some r := H
            have A28 := Aside0.mk A280
            clear A280
            by_cases c29 : t123 = true
            ·subst c29
             have H1 : ((serifref01_Fix.f ((rd_T43 l0_0 x6_3).f1)).bind fun t125 => (if t125 = true then (if x6_3 < (l0_1.length : Int) then ((serifref01_Fix.f ((rd_T43 l0_1 x6_3).f0)).bind fun t127 => (if t127 = true then ((serifref01_Fix.f ((rd_T43 l0_1 x6_3).f1)).bind fun t129 => (if t129 = true then (serifref09_Sound.l1 k3 (l0_0.length : Int) (wrap64 (x6_3 + 1)) l0_0 l0_1 l0_2 l0_3 l0_4) else (some false))) else (some false))) else (none)) else (some false))) = some r := by rw [if_pos rfl] at H; exact H
             clear H
             have H := H1
             clear H1
             replace H := Option.bind_eq_some_iff.mp H
             obtain ⟨t125, A300, H⟩ := H
             replace H : (if t125 = true then (if x6_3 < (l0_1.length : Int) then ((serifref01_Fix.f ((rd_T43 l0_1 x6_3).f0)).bind fun t127 => (if t127 = true then ((serifref01_Fix.f ((rd_T43 l0_1 x6_3).f1)).bind fun t129 => (if t129 = true then (serifref09_Sound.l1 k3 (l0_0.length : Int) (wrap64 (x6_3 + 1)) l0_0 l0_1 l0_2 l0_3 l0_4) else (some false))) else (some false))) else (none)) else (some false)) = some r := H
             have A30 := Aside0.mk A300
             clear A300
             by_cases c31 : t125 = true
             ·subst c31
              have H1 : (if x6_3 < (l0_1.length : Int) then ((serifref01_Fix.f ((rd_T43 l0_1 x6_3).f0)).bind fun t127 => (if t127 = true then ((serifref01_Fix.f ((rd_T43 l0_1 x6_3).f1)).bind fun t129 => (if t129 = true then (serifref09_Sound.l1 k3 (l0_0.length : Int) (wrap64 (x6_3 + 1)) l0_0 l0_1 l0_2 l0_3 l0_4) else (some false))) else (some false))) else (none)) = some r := by rw [if_pos rfl] at H; exact H
              clear H
              have H := H1
              clear H1
              by_cases c32 : x6_3 < (l0_1.length : Int)
              ·rw [if_pos c32] at H
               have c32b0 : decide (x6_3 < (l0_1.length : Int)) = true := decide_eq_true c32
               clear c32
               replace H := Option.bind_eq_some_iff.mp H
               obtain ⟨t127, A330, H⟩ := H
               replace H : (if t127 = true then ((serifref01_Fix.f ((rd_T43 l0_1 x6_3).f1)).bind fun t129 => (if t129 = true then (serifref09_Sound.l1 k3 (l0_0.length : Int) (wrap64 (x6_3 + 1)) l0_0 l0_1 l0_2 l0_3 l0_4) else (some false))) else (some false)) = some r := H
               have A33 := Aside0.mk A330
               clear A330
               by_cases c34 : t127 = true
               ·subst c34
                have H1 : ((serifref01_Fix.f ((rd_T43 l0_1 x6_3).f1)).bind fun t129 => (if t129 = true then (serifref09_Sound.l1 k3 (l0_0.length : Int) (wrap64 (x6_3 + 1)) l0_0 l0_1 l0_2 l0_3 l0_4) else (some false))) = some r := by rw [if_pos rfl] at H; exact H
                clear H
                have H := H1
                clear H1
                replace H := Option.bind_eq_some_iff.mp H
                obtain ⟨t129, A350, H⟩ := H
                replace H : (if t129 = true then (serifref09_Sound.l1 k3 (l0_0.length : Int) (wrap64 (x6_3 + 1)) l0_0 l0_1 l0_2 l0_3 l0_4) else (some false)) = some r := H
                have A35 := Aside0.mk A350
                clear A350
                by_cases c36 : t129 = true
                ·subst c36
                 have H1 : (serifref09_Sound.l1 k3 (l0_0.length : Int) (wrap64 (x6_3 + 1)) l0_0 l0_1 l0_2 l0_3 l0_4) = some r := by rw [if_pos rfl] at H; exact H
                 clear H
                 have H := H1
                 clear H1
                 have H' := Aside0.mk H
                 clear H
                 have hcz37_0 : wr.cell? ⟨gb119, 0, none⟩ = some (.slice A0_0 l0_0.length c0_0) := (bC BK119.out 0).trans rfl
                 have hcz37_1 : wr.cell? ⟨gb119, 1, none⟩ = some (.slice A0_1 l0_1.length c0_1) := (bC BK119.out 1).trans rfl
                 have hcz37_2 : wr.cell? ⟨gb119, 2, none⟩ = some (.slice A0_2 l0_2.length c0_2) := (bC BK119.out 2).trans rfl
                 have hcz37_3 : wr.cell? ⟨gb119, 3, none⟩ = some (.slice A0_3 l0_3.length c0_3) := (bC BK119.out 3).trans rfl
                 have hcz37_4 : wr.cell? ⟨gb119, 4, none⟩ = some (.slice A0_4 l0_4.length c0_4) := (bC BK119.out 4).trans rfl
                 have hfz37_0 := bF BK119.out 0
                 have hfz37_1 := bF BK119.out 1
                 have hfz37_2 := bF BK119.out 2
                 have hfz37_3 := bF BK119.out 3
                 have hfz37_4 := bF BK119.out 4
                 have p122 : 0 ≤ (x6_3 : Int) := of_decide_eq_true (by first | (with_reducible assumption) | assumption)
                 have q122 : x6_3 < (l0_0.length : Int) := of_decide_eq_true (by first | (with_reducible assumption) | assumption)
                 obtain ⟨ad122, e122, hx122_0, hx122_1⟩ := at_T43 HR0_0.out x6_3 p122 q122
                 cases e122
                 replace hx122_0 := (HB.out.cell (World.block_lt_of_cell? w _ hx122_0)).trans hx122_0
                 replace hx122_1 := (HB.out.cell (World.block_lt_of_cell? w _ hx122_1)).trans hx122_1
                 replace p122 := eq_true p122
                 replace q122 := eq_true q122
                 go_wp2_with (first | ((with_reducible refine gate_callee (f := 15) rfl ?_); refine goesL_ (some 74) rfl rfl Try.func15 (by kernel_rfl) rfl #[.int .i64 ((rd_T43 l0_0 x6_3).f0)] rfl (by (try simp only [List.map_toArray, List.map_cons, List.map_nil]); first | done | rfl | (simp only [List.length_drop, List.length_take]; rfl)) ?_; (with_reducible refine (serifref01_Fix.calls ((rd_T43 l0_0 x6_3).f0) true _ A28.out).mono ?_); rintro e w' ⟨rfl, ⟨nd, rfl⟩⟩; refine ⟨_, rfl, ?_⟩; have p124 : 0 ≤ (x6_3 : Int) := of_decide_eq_true (by first | (with_reducible assumption) | assumption); have q124 : x6_3 < (l0_0.length : Int) := of_decide_eq_true (by first | (with_reducible assumption) | assumption); obtain ⟨ad124, e124, hx124_0, hx124_1⟩ := at_T43 HR0_0.out x6_3 p124 q124; obtain rfl : ad122 = ad124 := (by injection e124); replace hx124_0 := (HB.out.cell (World.block_lt_of_cell? w _ hx124_0)).trans hx124_0; replace hx124_1 := (HB.out.cell (World.block_lt_of_cell? w _ hx124_1)).trans hx124_1; replace p124 := eq_true p124; replace q124 := eq_true q124) | (go_at_call 15; (with_reducible refine (serifref01_Fix.calls ((rd_T43 l0_0 x6_3).f1) true _ A30.out).mono ?_); rintro e w' ⟨rfl, ⟨nd, rfl⟩⟩; have p126 : 0 ≤ (x6_3 : Int) := of_decide_eq_true (by first | (with_reducible assumption) | assumption); have q126 : x6_3 < (l0_1.length : Int) := of_decide_eq_true (by first | (with_reducible assumption) | assumption); obtain ⟨ad126, e126, hx126_0, hx126_1⟩ := at_T43 HR0_1.out x6_3 p126 q126; cases e126; replace hx126_0 := (HB.out.cell (World.block_lt_of_cell? w _ hx126_0)).trans hx126_0; replace hx126_1 := (HB.out.cell (World.block_lt_of_cell? w _ hx126_1)).trans hx126_1; replace p126 := eq_true p126; replace q126 := eq_true q126) | (go_at_call 15; (with_reducible refine (serifref01_Fix.calls ((rd_T43 l0_1 x6_3).f0) true _ A33.out).mono ?_); rintro e w' ⟨rfl, ⟨nd, rfl⟩⟩; have p128 : 0 ≤ (x6_3 : Int) := of_decide_eq_true (by first | (with_reducible assumption) | assumption); have q128 : x6_3 < (l0_1.length : Int) := of_decide_eq_true (by first | (with_reducible assumption) | assumption); obtain ⟨ad128, e128, hx128_0, hx128_1⟩ := at_T43 HR0_1.out x6_3 p128 q128; obtain rfl : ad126 = ad128 := (by injection e128); replace hx128_0 := (HB.out.cell (World.block_lt_of_cell? w _ hx128_0)).trans hx128_0; replace hx128_1 := (HB.out.cell (World.block_lt_of_cell? w _ hx128_1)).trans hx128_1; replace p128 := eq_true p128; replace q128 := eq_true q128) | (go_at_call 15; (with_reducible refine (serifref01_Fix.calls ((rd_T43 l0_1 x6_3).f1) true _ A35.out).mono ?_); rintro e w' ⟨rfl, ⟨nd, rfl⟩⟩))
                 go_roundg k3
                 case measure => have := HJ1.out; have := HK2.out; have := HK3.out; omega
                 case rel => exact ⟨(wrap64 (x6_3 + 1)), (by first | rfl | (simp; done) | (simp [*]; done)), H', ⟨by have := HJ1.out; have := HK2.out; have := HK3.out; omega⟩, ⟨by (with_reducible repeat (first | refine bN ?_ _ | refine bD ?_ | refine bA ?_ _)); exact BK119.out⟩, ⟨by with_reducible repeat first | exact HB.out | apply lN | apply lD | refine lS ?_ GE119.out⟩⟩
                ·replace c36 := Bool.eq_false_iff.mpr c36
                 subst c36
                 have H1 : (some false) = some r := by rw [if_neg (show ¬ (false = true) by decide)] at H; exact H
                 clear H
                 have H := H1
                 clear H1
                 obtain rfl := Option.some.inj H
                 have hcz38_0 : wr.cell? ⟨gb119, 0, none⟩ = some (.slice A0_0 l0_0.length c0_0) := (bC BK119.out 0).trans rfl
                 have hcz38_1 : wr.cell? ⟨gb119, 1, none⟩ = some (.slice A0_1 l0_1.length c0_1) := (bC BK119.out 1).trans rfl
                 have hcz38_2 : wr.cell? ⟨gb119, 2, none⟩ = some (.slice A0_2 l0_2.length c0_2) := (bC BK119.out 2).trans rfl
                 have hcz38_3 : wr.cell? ⟨gb119, 3, none⟩ = some (.slice A0_3 l0_3.length c0_3) := (bC BK119.out 3).trans rfl
                 have hcz38_4 : wr.cell? ⟨gb119, 4, none⟩ = some (.slice A0_4 l0_4.length c0_4) := (bC BK119.out 4).trans rfl
                 have hfz38_0 := bF BK119.out 0
                 have hfz38_1 := bF BK119.out 1
                 have hfz38_2 := bF BK119.out 2
                 have hfz38_3 := bF BK119.out 3
                 have hfz38_4 := bF BK119.out 4
                 have p122 : 0 ≤ (x6_3 : Int) := of_decide_eq_true (by first | (with_reducible assumption) | assumption)
                 have q122 : x6_3 < (l0_0.length : Int) := of_decide_eq_true (by first | (with_reducible assumption) | assumption)
                 obtain ⟨ad122, e122, hx122_0, hx122_1⟩ := at_T43 HR0_0.out x6_3 p122 q122
                 cases e122
                 replace hx122_0 := (HB.out.cell (World.block_lt_of_cell? w _ hx122_0)).trans hx122_0
                 replace hx122_1 := (HB.out.cell (World.block_lt_of_cell? w _ hx122_1)).trans hx122_1
                 replace p122 := eq_true p122
                 replace q122 := eq_true q122
                 go_wp2_with (first | ((with_reducible refine gate_callee (f := 15) rfl ?_); refine goesL_ (some 74) rfl rfl Try.func15 (by kernel_rfl) rfl #[.int .i64 ((rd_T43 l0_0 x6_3).f0)] rfl (by (try simp only [List.map_toArray, List.map_cons, List.map_nil]); first | done | rfl | (simp only [List.length_drop, List.length_take]; rfl)) ?_; (with_reducible refine (serifref01_Fix.calls ((rd_T43 l0_0 x6_3).f0) true _ A28.out).mono ?_); rintro e w' ⟨rfl, ⟨nd, rfl⟩⟩; refine ⟨_, rfl, ?_⟩; have p124 : 0 ≤ (x6_3 : Int) := of_decide_eq_true (by first | (with_reducible assumption) | assumption); have q124 : x6_3 < (l0_0.length : Int) := of_decide_eq_true (by first | (with_reducible assumption) | assumption); obtain ⟨ad124, e124, hx124_0, hx124_1⟩ := at_T43 HR0_0.out x6_3 p124 q124; obtain rfl : ad122 = ad124 := (by injection e124); replace hx124_0 := (HB.out.cell (World.block_lt_of_cell? w _ hx124_0)).trans hx124_0; replace hx124_1 := (HB.out.cell (World.block_lt_of_cell? w _ hx124_1)).trans hx124_1; replace p124 := eq_true p124; replace q124 := eq_true q124) | (go_at_call 15; (with_reducible refine (serifref01_Fix.calls ((rd_T43 l0_0 x6_3).f1) true _ A30.out).mono ?_); rintro e w' ⟨rfl, ⟨nd, rfl⟩⟩; have p126 : 0 ≤ (x6_3 : Int) := of_decide_eq_true (by first | (with_reducible assumption) | assumption); have q126 : x6_3 < (l0_1.length : Int) := of_decide_eq_true (by first | (with_reducible assumption) | assumption); obtain ⟨ad126, e126, hx126_0, hx126_1⟩ := at_T43 HR0_1.out x6_3 p126 q126; cases e126; replace hx126_0 := (HB.out.cell (World.block_lt_of_cell? w _ hx126_0)).trans hx126_0; replace hx126_1 := (HB.out.cell (World.block_lt_of_cell? w _ hx126_1)).trans hx126_1; replace p126 := eq_true p126; replace q126 := eq_true q126) | (go_at_call 15; (with_reducible refine (serifref01_Fix.calls ((rd_T43 l0_1 x6_3).f0) true _ A33.out).mono ?_); rintro e w' ⟨rfl, ⟨nd, rfl⟩⟩; have p128 : 0 ≤ (x6_3 : Int) := of_decide_eq_true (by first | (with_reducible assumption) | assumption); have q128 : x6_3 < (l0_1.length : Int) := of_decide_eq_true (by first | (with_reducible assumption) | assumption); obtain ⟨ad128, e128, hx128_0, hx128_1⟩ := at_T43 HR0_1.out x6_3 p128 q128; obtain rfl : ad126 = ad128 := (by injection e128); replace hx128_0 := (HB.out.cell (World.block_lt_of_cell? w _ hx128_0)).trans hx128_0; replace hx128_1 := (HB.out.cell (World.block_lt_of_cell? w _ hx128_1)).trans hx128_1; replace p128 := eq_true p128; replace q128 := eq_true q128) | (go_at_call 15; (with_reducible refine (serifref01_Fix.calls ((rd_T43 l0_1 x6_3).f1) false _ A35.out).mono ?_); rintro e w' ⟨rfl, ⟨nd, rfl⟩⟩))
                 go_ret
                 exact ⟨by first | rfl | (simp [errW_none, errW_some] <;> rfl) | (simp [*, errW_none, errW_some] <;> rfl), by with_reducible repeat first | exact HB.out | apply lN | apply lD | refine lS ?_ GE119.out⟩
               ·replace c34 := Bool.eq_false_iff.mpr c34
                subst c34
                have H1 : (some false) = some r := by rw [if_neg (show ¬ (false = true) by decide)] at H; exact H
                clear H
                have H := H1
                clear H1
                obtain rfl := Option.some.inj H
                have hcz39_0 : wr.cell? ⟨gb119, 0, none⟩ = some (.slice A0_0 l0_0.length c0_0) := (bC BK119.out 0).trans rfl
                have hcz39_1 : wr.cell? ⟨gb119, 1, none⟩ = some (.slice A0_1 l0_1.length c0_1) := (bC BK119.out 1).trans rfl
                have hcz39_2 : wr.cell? ⟨gb119, 2, none⟩ = some (.slice A0_2 l0_2.length c0_2) := (bC BK119.out 2).trans rfl
                have hcz39_3 : wr.cell? ⟨gb119, 3, none⟩ = some (.slice A0_3 l0_3.length c0_3) := (bC BK119.out 3).trans rfl
                have hcz39_4 : wr.cell? ⟨gb119, 4, none⟩ = some (.slice A0_4 l0_4.length c0_4) := (bC BK119.out 4).trans rfl
                have hfz39_0 := bF BK119.out 0
                have hfz39_1 := bF BK119.out 1
                have hfz39_2 := bF BK119.out 2
                have hfz39_3 := bF BK119.out 3
                have hfz39_4 := bF BK119.out 4
                have p122 : 0 ≤ (x6_3 : Int) := of_decide_eq_true (by first | (with_reducible assumption) | assumption)
                have q122 : x6_3 < (l0_0.length : Int) := of_decide_eq_true (by first | (with_reducible assumption) | assumption)
                obtain ⟨ad122, e122, hx122_0, hx122_1⟩ := at_T43 HR0_0.out x6_3 p122 q122
                cases e122
                replace hx122_0 := (HB.out.cell (World.block_lt_of_cell? w _ hx122_0)).trans hx122_0
                replace hx122_1 := (HB.out.cell (World.block_lt_of_cell? w _ hx122_1)).trans hx122_1
                replace p122 := eq_true p122
                replace q122 := eq_true q122
                go_wp2_with (first | ((with_reducible refine gate_callee (f := 15) rfl ?_); refine goesL_ (some 74) rfl rfl Try.func15 (by kernel_rfl) rfl #[.int .i64 ((rd_T43 l0_0 x6_3).f0)] rfl (by (try simp only [List.map_toArray, List.map_cons, List.map_nil]); first | done | rfl | (simp only [List.length_drop, List.length_take]; rfl)) ?_; (with_reducible refine (serifref01_Fix.calls ((rd_T43 l0_0 x6_3).f0) true _ A28.out).mono ?_); rintro e w' ⟨rfl, ⟨nd, rfl⟩⟩; refine ⟨_, rfl, ?_⟩; have p124 : 0 ≤ (x6_3 : Int) := of_decide_eq_true (by first | (with_reducible assumption) | assumption); have q124 : x6_3 < (l0_0.length : Int) := of_decide_eq_true (by first | (with_reducible assumption) | assumption); obtain ⟨ad124, e124, hx124_0, hx124_1⟩ := at_T43 HR0_0.out x6_3 p124 q124; obtain rfl : ad122 = ad124 := (by injection e124); replace hx124_0 := (HB.out.cell (World.block_lt_of_cell? w _ hx124_0)).trans hx124_0; replace hx124_1 := (HB.out.cell (World.block_lt_of_cell? w _ hx124_1)).trans hx124_1; replace p124 := eq_true p124; replace q124 := eq_true q124) | (go_at_call 15; (with_reducible refine (serifref01_Fix.calls ((rd_T43 l0_0 x6_3).f1) true _ A30.out).mono ?_); rintro e w' ⟨rfl, ⟨nd, rfl⟩⟩; have p126 : 0 ≤ (x6_3 : Int) := of_decide_eq_true (by first | (with_reducible assumption) | assumption); have q126 : x6_3 < (l0_1.length : Int) := of_decide_eq_true (by first | (with_reducible assumption) | assumption); obtain ⟨ad126, e126, hx126_0, hx126_1⟩ := at_T43 HR0_1.out x6_3 p126 q126; cases e126; replace hx126_0 := (HB.out.cell (World.block_lt_of_cell? w _ hx126_0)).trans hx126_0; replace hx126_1 := (HB.out.cell (World.block_lt_of_cell? w _ hx126_1)).trans hx126_1; replace p126 := eq_true p126; replace q126 := eq_true q126) | (go_at_call 15; (with_reducible refine (serifref01_Fix.calls ((rd_T43 l0_1 x6_3).f0) false _ A33.out).mono ?_); rintro e w' ⟨rfl, ⟨nd, rfl⟩⟩))
                go_ret
                exact ⟨by first | rfl | (simp [errW_none, errW_some] <;> rfl) | (simp [*, errW_none, errW_some] <;> rfl), by with_reducible repeat first | exact HB.out | apply lN | apply lD | refine lS ?_ GE119.out⟩
              ·rw [if_neg c32] at H
               exact absurd H (by simp)
             ·replace c31 := Bool.eq_false_iff.mpr c31
              subst c31
              have H1 : (some false) = some r := by rw [if_neg (show ¬ (false = true) by decide)] at H; exact H
              clear H
              have H := H1
              clear H1
              obtain rfl := Option.some.inj H
              have hcz40_0 : wr.cell? ⟨gb119, 0, none⟩ = some (.slice A0_0 l0_0.length c0_0) := (bC BK119.out 0).trans rfl
              have hcz40_1 : wr.cell? ⟨gb119, 1, none⟩ = some (.slice A0_1 l0_1.length c0_1) := (bC BK119.out 1).trans rfl
              have hcz40_2 : wr.cell? ⟨gb119, 2, none⟩ = some (.slice A0_2 l0_2.length c0_2) := (bC BK119.out 2).trans rfl
              have hcz40_3 : wr.cell? ⟨gb119, 3, none⟩ = some (.slice A0_3 l0_3.length c0_3) := (bC BK119.out 3).trans rfl
              have hcz40_4 : wr.cell? ⟨gb119, 4, none⟩ = some (.slice A0_4 l0_4.length c0_4) := (bC BK119.out 4).trans rfl
              have hfz40_0 := bF BK119.out 0
              have hfz40_1 := bF BK119.out 1
              have hfz40_2 := bF BK119.out 2
              have hfz40_3 := bF BK119.out 3
              have hfz40_4 := bF BK119.out 4
              have p122 : 0 ≤ (x6_3 : Int) := of_decide_eq_true (by first | (with_reducible assumption) | assumption)
              have q122 : x6_3 < (l0_0.length : Int) := of_decide_eq_true (by first | (with_reducible assumption) | assumption)
              obtain ⟨ad122, e122, hx122_0, hx122_1⟩ := at_T43 HR0_0.out x6_3 p122 q122
              cases e122
              replace hx122_0 := (HB.out.cell (World.block_lt_of_cell? w _ hx122_0)).trans hx122_0
              replace hx122_1 := (HB.out.cell (World.block_lt_of_cell? w _ hx122_1)).trans hx122_1
              replace p122 := eq_true p122
              replace q122 := eq_true q122
              go_wp2_with (first | ((with_reducible refine gate_callee (f := 15) rfl ?_); refine goesL_ (some 74) rfl rfl Try.func15 (by kernel_rfl) rfl #[.int .i64 ((rd_T43 l0_0 x6_3).f0)] rfl (by (try simp only [List.map_toArray, List.map_cons, List.map_nil]); first | done | rfl | (simp only [List.length_drop, List.length_take]; rfl)) ?_; (with_reducible refine (serifref01_Fix.calls ((rd_T43 l0_0 x6_3).f0) true _ A28.out).mono ?_); rintro e w' ⟨rfl, ⟨nd, rfl⟩⟩; refine ⟨_, rfl, ?_⟩; have p124 : 0 ≤ (x6_3 : Int) := of_decide_eq_true (by first | (with_reducible assumption) | assumption); have q124 : x6_3 < (l0_0.length : Int) := of_decide_eq_true (by first | (with_reducible assumption) | assumption); obtain ⟨ad124, e124, hx124_0, hx124_1⟩ := at_T43 HR0_0.out x6_3 p124 q124; obtain rfl : ad122 = ad124 := (by injection e124); replace hx124_0 := (HB.out.cell (World.block_lt_of_cell? w _ hx124_0)).trans hx124_0; replace hx124_1 := (HB.out.cell (World.block_lt_of_cell? w _ hx124_1)).trans hx124_1; replace p124 := eq_true p124; replace q124 := eq_true q124) | (go_at_call 15; (with_reducible refine (serifref01_Fix.calls ((rd_T43 l0_0 x6_3).f1) false _ A30.out).mono ?_); rintro e w' ⟨rfl, ⟨nd, rfl⟩⟩))
              go_ret
              exact ⟨by first | rfl | (simp [errW_none, errW_some] <;> rfl) | (simp [*, errW_none, errW_some] <;> rfl), by with_reducible repeat first | exact HB.out | apply lN | apply lD | refine lS ?_ GE119.out⟩
            ·replace c29 := Bool.eq_false_iff.mpr c29
             subst c29
             have H1 : (some false) = some r := by rw [if_neg (show ¬ (false = true) by decide)] at H; exact H
             clear H
             have H := H1
             clear H1
             obtain rfl := Option.some.inj H
             have hcz41_0 : wr.cell? ⟨gb119, 0, none⟩ = some (.slice A0_0 l0_0.length c0_0) := (bC BK119.out 0).trans rfl
             have hcz41_1 : wr.cell? ⟨gb119, 1, none⟩ = some (.slice A0_1 l0_1.length c0_1) := (bC BK119.out 1).trans rfl
             have hcz41_2 : wr.cell? ⟨gb119, 2, none⟩ = some (.slice A0_2 l0_2.length c0_2) := (bC BK119.out 2).trans rfl
             have hcz41_3 : wr.cell? ⟨gb119, 3, none⟩ = some (.slice A0_3 l0_3.length c0_3) := (bC BK119.out 3).trans rfl
             have hcz41_4 : wr.cell? ⟨gb119, 4, none⟩ = some (.slice A0_4 l0_4.length c0_4) := (bC BK119.out 4).trans rfl
             have hfz41_0 := bF BK119.out 0
             have hfz41_1 := bF BK119.out 1
             have hfz41_2 := bF BK119.out 2
             have hfz41_3 := bF BK119.out 3
             have hfz41_4 := bF BK119.out 4
             have p122 : 0 ≤ (x6_3 : Int) := of_decide_eq_true (by first | (with_reducible assumption) | assumption)
             have q122 : x6_3 < (l0_0.length : Int) := of_decide_eq_true (by first | (with_reducible assumption) | assumption)
             obtain ⟨ad122, e122, hx122_0, hx122_1⟩ := at_T43 HR0_0.out x6_3 p122 q122
             cases e122
             replace hx122_0 := (HB.out.cell (World.block_lt_of_cell? w _ hx122_0)).trans hx122_0
             replace hx122_1 := (HB.out.cell (World.block_lt_of_cell? w _ hx122_1)).trans hx122_1
             replace p122 := eq_true p122
             replace q122 := eq_true q122
             go_wp2_with (first | ((with_reducible refine gate_callee (f := 15) rfl ?_); refine goesL_ (some 74) rfl rfl Try.func15 (by kernel_rfl) rfl #[.int .i64 ((rd_T43 l0_0 x6_3).f0)] rfl (by (try simp only [List.map_toArray, List.map_cons, List.map_nil]); first | done | rfl | (simp only [List.length_drop, List.length_take]; rfl)) ?_; (with_reducible refine (serifref01_Fix.calls ((rd_T43 l0_0 x6_3).f0) false _ A28.out).mono ?_); rintro e w' ⟨rfl, ⟨nd, rfl⟩⟩; refine ⟨_, rfl, ?_⟩))
             go_ret
             exact ⟨by first | rfl | (simp [errW_none, errW_some] <;> rfl) | (simp [*, errW_none, errW_some] <;> rfl), by with_reducible repeat first | exact HB.out | apply lN | apply lD | refine lS ?_ GE119.out⟩
           ·rw [if_neg c27] at H
            exact absurd H (by simp)
          ·rw [if_neg c26] at H
           exact absurd H (by simp)
         ·rw [if_neg c25] at H
          have c25b0 : decide (x6_3 < (l0_0.length : Int)) = false := decide_eq_false c25
          clear c25
          obtain rfl := Option.some.inj H
          go_wp2
          go_ret
          exact ⟨by first | rfl | (simp [errW_none, errW_some] <;> rfl) | (simp [*, errW_none, errW_some] <;> rfl), by with_reducible repeat first | exact HB.out | apply lN | apply lD | refine lS ?_ GE119.out⟩

/-! ### serifref09_Set: function 41 -/
def serifref09_Set.f (a0_0 : Int) (a0_1 : Int) (a1 : Int) (a2 : Int) : Option (Int × Int) := if a1 = 0 then (some (a2, a0_1)) else (some (a0_0, a2))
set_option maxHeartbeats 8000000 in
set_option maxRecDepth 100000 in
theorem serifref09_Set.calls (a0_0 : Int) (a0_1 : Int) (a1 : Int) (a2 : Int) (r1 : Int) (r2 : Int) (w : World) (h : serifref09_Set.f a0_0 a0_1 a1 a2 = some (r1, r2)) :
  Calls Try.prog 41 #[.agg #[.int .i64 a0_0, .int .i64 a0_1], .int .i64 a1, .int .i64 a2] w fun e w' => e = .returned (.agg #[.int .i64 r1, .int .i64 r2]) ∧ Below w.heap.size w w' := by
 have hu43 := Try.underlying43
 have HB := Aside0.mk (Below.refl w.heap.size w)
 have H : (if a1 = 0 then (some (a2, a0_1)) else (some (a0_0, a2))) = some (r1, r2) := h
 clear h
 by_cases c4 : a1 = 0
 ·rw [if_pos c4] at H
  have c4b0 : (a1 == 0) = true := beq_iff_eq.mpr c4
  have c4b1 : (a1 != 0) = false := bne_eq_false_iff_eq.mpr c4
  clear c4
  simp only [Option.some.injEq, Prod.mk.injEq] at H
  obtain ⟨rfl, rfl⟩ := H
  go_enter Try.func41, Try.ntmps41
  go_wp2_with (first | ((with_reducible refine gate_dst (N := 3) rfl ?_); refine box_event ?hg (N := 3) ?hd (cs := #[.int .i64 a0_0, .int .i64 a0_1]) (t := 43) ?hr ?_; (case hd => rfl); (case hg => rfl); (case hr => first | (go_simp; done) | (go_simp; rfl)); intro gb130 hg w5 hbox hb; have BK130 := Aside0.mk (hbox); have GW130 := Aside0.mk ((by rw [hg]; exact (lZ (by with_reducible repeat first | exact HB.out | apply lN | apply lD)) : w.heap.size ≤ gb130)); have GE130 := Aside0.mk ((by rw [hg]; exact (lZ (by with_reducible repeat first | exact HB.out | apply lN | apply lD)) : w.heap.size ≤ gb130)); replace HB := Aside0.mk (lT HB.out hb); clear hb hbox hg) | ((with_reducible refine gate_dst (N := 6) rfl ?_); refine box_event ?hg (N := 6) ?hd (cs := #[.int .i64 0, .int .i64 0]) (t := 43) ?hr ?_; (case hd => rfl); (case hg => rfl); (case hr => first | (go_simp; done) | (go_simp; rfl)); intro gb131 hg w6 hbox hb; have BK131 := Aside0.mk (hbox); have GW131 := Aside0.mk ((by rw [hg]; exact (lZ (by with_reducible repeat first | exact HB.out | apply lN | apply lD | refine lS ?_ GE130.out)) : w.heap.size ≤ gb131)); have GE131 := Aside0.mk ((by rw [hg]; exact (lZ (by with_reducible repeat first | exact HB.out | apply lN | apply lD | refine lS ?_ GE130.out)) : w.heap.size ≤ gb131)); have NB130_131 := Aside0.mk ((by rw [hg]; exact Nat.ne_of_lt (blk_lt BK130.out) : gb130 ≠ gb131)); have NB131_130 := Aside0.mk ((by rw [hg]; exact Nat.ne_of_gt (blk_lt BK130.out) : gb131 ≠ gb130)); replace BK130 := Aside0.mk (bB BK130.out hb); replace HB := Aside0.mk (lT (by with_reducible repeat first | exact HB.out | refine lS ?_ GE130.out) hb); clear hb hbox hg; have hnb7 := NB130_131.out; have hnc7 := NB131_130.out; have hcz8_0 : w6.cell? ⟨gb130, 0, none⟩ = some (.int .i64 a0_0) := (bC BK130.out 0).trans rfl; have hcz8_1 : w6.cell? ⟨gb130, 1, none⟩ = some (.int .i64 a0_1) := (bC BK130.out 1).trans rfl; have hfz8_0 := bF BK130.out 0; have hfz8_1 := bF BK130.out 1; have hcz9_0 : w6.cell? ⟨gb131, 0, none⟩ = some (.int .i64 0) := (bC BK131.out 0).trans rfl; have hcz9_1 : w6.cell? ⟨gb131, 1, none⟩ = some (.int .i64 0) := (bC BK131.out 1).trans rfl; have hfz9_0 := bF BK131.out 0; have hfz9_1 := bF BK131.out 1))
  refine bodyPost_ret (results_cell_row rfl _ _ gb131 43 #[.int .i64 a2, .int .i64 a0_1] (0, 0) _ rfl (by (with_reducible repeat (first | refine bN ?_ _ | refine bD ?_ | refine bA ?_ _)); refine bP (cs := #[.int .i64 a2, .int .i64 0]) ?_ 1 _ rfl; (with_reducible repeat (first | refine bN ?_ _ | refine bD ?_ | refine bA ?_ _)); refine bP (cs := #[.int .i64 0, .int .i64 0]) ?_ 0 _ rfl; (with_reducible repeat (first | refine bN ?_ _ | refine bD ?_ | refine bA ?_ _)); refine bR ?_ NB131_130.out _; (with_reducible repeat (first | refine bN ?_ _ | refine bD ?_ | refine bA ?_ _)); exact BK131.out) Try.underlying43 rfl (by kernel_rfl)) rfl ?_
  exact ⟨by first | rfl | (simp [errW_none, errW_some] <;> rfl) | (simp [*, errW_none, errW_some] <;> rfl), by with_reducible repeat first | exact HB.out | apply lN | apply lD | refine lS ?_ GE130.out | refine lS ?_ GE131.out⟩
 ·rw [if_neg c4] at H
  have c4b0 : (a1 == 0) = false := beq_eq_false_iff_ne.mpr c4
  have c4b1 : (a1 != 0) = true := bne_iff_ne.mpr c4
  simp only [Option.some.injEq, Prod.mk.injEq] at H
  obtain ⟨rfl, rfl⟩ := H
  go_enter Try.func41, Try.ntmps41
  go_wp2_with (first | ((with_reducible refine gate_dst (N := 3) rfl ?_); refine box_event ?hg (N := 3) ?hd (cs := #[.int .i64 a0_0, .int .i64 a0_1]) (t := 43) ?hr ?_; (case hd => rfl); (case hg => rfl); (case hr => first | (go_simp; done) | (go_simp; rfl)); intro gb130 hg w10 hbox hb; have BK130 := Aside0.mk (hbox); have GW130 := Aside0.mk ((by rw [hg]; exact (lZ (by with_reducible repeat first | exact HB.out | apply lN | apply lD)) : w.heap.size ≤ gb130)); have GE130 := Aside0.mk ((by rw [hg]; exact (lZ (by with_reducible repeat first | exact HB.out | apply lN | apply lD)) : w.heap.size ≤ gb130)); replace HB := Aside0.mk (lT HB.out hb); clear hb hbox hg) | ((with_reducible refine gate_dst (N := 6) rfl ?_); refine box_event ?hg (N := 6) ?hd (cs := #[.int .i64 0, .int .i64 0]) (t := 43) ?hr ?_; (case hd => rfl); (case hg => rfl); (case hr => first | (go_simp; done) | (go_simp; rfl)); intro gb131 hg w11 hbox hb; have BK131 := Aside0.mk (hbox); have GW131 := Aside0.mk ((by rw [hg]; exact (lZ (by with_reducible repeat first | exact HB.out | apply lN | apply lD | refine lS ?_ GE130.out)) : w.heap.size ≤ gb131)); have GE131 := Aside0.mk ((by rw [hg]; exact (lZ (by with_reducible repeat first | exact HB.out | apply lN | apply lD | refine lS ?_ GE130.out)) : w.heap.size ≤ gb131)); have NB130_131 := Aside0.mk ((by rw [hg]; exact Nat.ne_of_lt (blk_lt BK130.out) : gb130 ≠ gb131)); have NB131_130 := Aside0.mk ((by rw [hg]; exact Nat.ne_of_gt (blk_lt BK130.out) : gb131 ≠ gb130)); replace BK130 := Aside0.mk (bB BK130.out hb); replace HB := Aside0.mk (lT (by with_reducible repeat first | exact HB.out | refine lS ?_ GE130.out) hb); clear hb hbox hg; have hnb12 := NB130_131.out; have hnc12 := NB131_130.out; have hcz13_0 : w11.cell? ⟨gb130, 0, none⟩ = some (.int .i64 a0_0) := (bC BK130.out 0).trans rfl; have hcz13_1 : w11.cell? ⟨gb130, 1, none⟩ = some (.int .i64 a0_1) := (bC BK130.out 1).trans rfl; have hfz13_0 := bF BK130.out 0; have hfz13_1 := bF BK130.out 1; have hcz14_0 : w11.cell? ⟨gb131, 0, none⟩ = some (.int .i64 0) := (bC BK131.out 0).trans rfl; have hcz14_1 : w11.cell? ⟨gb131, 1, none⟩ = some (.int .i64 0) := (bC BK131.out 1).trans rfl; have hfz14_0 := bF BK131.out 0; have hfz14_1 := bF BK131.out 1))
  refine bodyPost_ret (results_cell_row rfl _ _ gb131 43 #[.int .i64 a0_0, .int .i64 a2] (0, 0) _ rfl (by (with_reducible repeat (first | refine bN ?_ _ | refine bD ?_ | refine bA ?_ _)); refine bP (cs := #[.int .i64 a0_0, .int .i64 0]) ?_ 1 _ rfl; (with_reducible repeat (first | refine bN ?_ _ | refine bD ?_ | refine bA ?_ _)); refine bP (cs := #[.int .i64 0, .int .i64 0]) ?_ 0 _ rfl; (with_reducible repeat (first | refine bN ?_ _ | refine bD ?_ | refine bA ?_ _)); refine bR ?_ NB131_130.out _; (with_reducible repeat (first | refine bN ?_ _ | refine bD ?_ | refine bA ?_ _)); exact BK131.out) Try.underlying43 rfl (by kernel_rfl)) rfl ?_
  exact ⟨by first | rfl | (simp [errW_none, errW_some] <;> rfl) | (simp [*, errW_none, errW_some] <;> rfl), by with_reducible repeat first | exact HB.out | apply lN | apply lD | refine lS ?_ GE130.out | refine lS ?_ GE131.out⟩

end Go.Proofs.Ytneiaobhjjbedaa.PGstatePuts
