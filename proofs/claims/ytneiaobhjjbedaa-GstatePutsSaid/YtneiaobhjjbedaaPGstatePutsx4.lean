/- A part of the proof of the law GstatePuts: plain functions and what the machine's calls of them come to; printed by wip/extprint.py out of the kit's printer and contracts of our own. No condition but an answer of the plain function. -/
import Derived.Test.YtneiaobhjjbedaaPGstatePutsx0
import Derived.Test.YtneiaobhjjbedaaPGstatePutsx2
import Derived.Test.YtneiaobhjjbedaaPGstatePutsx3
namespace Go.Proofs.Ytneiaobhjjbedaa.PGstatePuts
open Go.RowKit Go.Proofs.YtneiaobhjjbedaaW.PrintWords Go.Proofs.YtneiaobhjjbedaaW.PrintLast Go.Proofs.YtneiaobhjjbedaaW.PrintMore
attribute [local go_sem] max2_int min2_int max_two min_two max_three min_three max_four min_four   -- for this text's walks alone
open Go.Proofs.Ytneiaobhjjbedaa (st1 st2 st3 st5 st55)
open Go.Proofs.YtneiaobhjjbedaaW.PrintWords renaming blk_drewN → bN, blk_drew → bD, blk_alloc → bA, below_alloc → lA, pw_below_drewN → lN, below_drew1 → lD, below_set → lS, blk_below → bB, blk_grown → bG, blk_cell → bC, blk_frozen → bF, blk_far → bR, blk_put → bP, below_size → lZ, below_step → lT
open Go.Proofs.YtneiaobhjjbedaaW.PrintWords.Kd renaming R_alloc → rA, R_drewN → rN, R_drew → rD, R_far → rF, R_mono → rM, R_below → rB, R_types → rT, R_grown → rG, C_alloc → cA, C_drewN → cN, C_drew → cD, R_reads' → rR
set_option linter.unusedVariables false
set_option linter.unusedSimpArgs false

/-! ### serifref09_Put: function 17 -/
def serifref09_Put.j0 : Nat → Int → Int → Int → Bool → List (S43) → List (S43) → List Bool → List Bool → List Int → Option ((List (S43)) × (List (S43)) × List Bool × List Bool × List Int × Int)
 | 0, _, _, _, _, _, _, _, _, _ => none
 | k + 1, x1, x2, x3, x32, x133000, x133001, x133002, x133003, x133004 => if x32 = true then (some (([] : List (S43)), ([] : List (S43)), ([] : List Bool), ([] : List Bool), ([] : List Int), 91)) else ((serifref01_Fix.f x3).bind fun t135 => (if t135 = true then ((serifref09_Copy.f x133000 x133001 x133002 x133003 x133004).bind fun bt136 => (if 0 ≤ x2 then (if x2 < (bt136.2.1.length : Int) then ((serifref09_Set.f ((rd_T43 bt136.2.1 x2).f0) ((rd_T43 bt136.2.1 x2).f1) x1 x3).bind fun bt153 => ((some (bt136.2.1.set (x2 : Int).toNat (⟨bt153.1, bt153.2⟩ : S43) : List (S43))).bind fun y155 => (if x1 = 0 then (if x2 < (bt136.2.2.1.length : Int) then (some (bt136.1, y155, (bt136.2.2.1.set (x2 : Int).toNat true), bt136.2.2.2.1, bt136.2.2.2.2, 0)) else (none)) else (if x2 < (bt136.2.2.2.1.length : Int) then (some (bt136.1, y155, bt136.2.2.1, (bt136.2.2.2.1.set (x2 : Int).toNat true), bt136.2.2.2.2, 0)) else (none))))) else (none)) else (none))) else (some (([] : List (S43)), ([] : List (S43)), ([] : List Bool), ([] : List Bool), ([] : List Int), 94))))
def serifref09_Put.f (k : Nat) (l0_0 : List (S43)) (l0_1 : List (S43)) (l0_2 : List Bool) (l0_3 : List Bool) (l0_4 : List Int) (a1 : Int) (a2 : Int) (a3 : Int) : Option ((List (S43)) × (List (S43)) × List Bool × List Bool × List Int × Int) := (serifref09_Sound.f k l0_0 l0_1 l0_2 l0_3 l0_4).bind fun t134 => (if t134 = true then (if a1 < 0 then (serifref09_Put.j0 k a1 a2 a3 true l0_0 l0_1 l0_2 l0_3 l0_4) else (if a1 > 1 then (serifref09_Put.j0 k a1 a2 a3 true l0_0 l0_1 l0_2 l0_3 l0_4) else (if a2 < 0 then (serifref09_Put.j0 k a1 a2 a3 true l0_0 l0_1 l0_2 l0_3 l0_4) else (serifref09_Put.j0 k a1 a2 a3 (decide (a2 ≥ (l0_0.length : Int))) l0_0 l0_1 l0_2 l0_3 l0_4)))) else (serifref09_Put.j0 k a1 a2 a3 true l0_0 l0_1 l0_2 l0_3 l0_4))
theorem serifref09_Put.mono_l : ∀ k, (∀ y0 y1 y2 y3 y4 y5 y6 y7 y8, LeO (serifref09_Put.j0 k y0 y1 y2 y3 y4 y5 y6 y7 y8) (serifref09_Put.j0 (k + 1) y0 y1 y2 y3 y4 y5 y6 y7 y8))
 | 0 => fun _ _ _ _ _ _ _ _ _ r h => by simp [serifref09_Put.j0] at h
 | k + 1 => by
  have ih0 := serifref09_Put.mono_l k
  ·intro y0 y1 y2 y3 y4 y5 y6 y7 y8
   unfold serifref09_Put.j0
   repeat' first
   | (with_reducible exact ih0 _ _ _ _ _ _ _ _ _)
   | (with_reducible exact serifref09_Sound.mono _ _ _ _ _ _)
   | (with_reducible exact LeO.refl _)
   | (with_reducible exact LeO.none _)
   | (with_reducible refine LeO.ite ?_ ?_)
   | (with_reducible refine LeO.bind ?_ (fun _ => ?_))
   | exact ih0 _ _ _ _ _ _ _ _ _
   | exact serifref09_Sound.mono _ _ _ _ _ _
   | exact LeO.none _
   | refine LeO.ite ?_ ?_
   | refine LeO.bind ?_ (fun _ => ?_)
theorem serifref09_Put.mono : ∀ a0 a1 a2 a3 a4 a5 a6 a7 k, LeO (serifref09_Put.f k a0 a1 a2 a3 a4 a5 a6 a7) (serifref09_Put.f (k + 1) a0 a1 a2 a3 a4 a5 a6 a7) := by
 intro a0 a1 a2 a3 a4 a5 a6 a7 k
 have ih0 := serifref09_Put.mono_l k
 unfold serifref09_Put.f
 repeat' first
   | (with_reducible exact ih0 _ _ _ _ _ _ _ _ _)
   | (with_reducible exact serifref09_Sound.mono _ _ _ _ _ _)
   | (with_reducible exact LeO.refl _)
   | (with_reducible exact LeO.none _)
   | (with_reducible refine LeO.ite ?_ ?_)
   | (with_reducible refine LeO.bind ?_ (fun _ => ?_))
   | exact ih0 _ _ _ _ _ _ _ _ _
   | exact serifref09_Sound.mono _ _ _ _ _ _
   | exact LeO.none _
   | refine LeO.ite ?_ ?_
   | refine LeO.bind ?_ (fun _ => ?_)
def serifref09_Put.T6 : Bool × List (List Nat × List Nat) := (true, [([], []), ([0], [0]), ([], []), ([], []), ([3], [3]), ([], []), ([4, 5], [4, 5]), ([6], [6]), ([], []), ([], []), ([7, 8, 9], [7, 8, 9]), ([1, 2, 0, 1, 2, 3, 4, 5, 6, 7, 8, 9, 10], [1, 2]), ([11, 10, 10, 0, 1, 2, 3, 4, 5, 6, 7, 8, 9, 10], [10, 11])])
def serifref09_Put.B6 : List Nat := [0, 1, 0, 0, 8, 0, 56, 120, 0, 0, 1016, 2047, 4095]
theorem serifref09_Put.tab6 : rtab .any (opsOf Try.f17 6) = serifref09_Put.T6 := by kernel_rfl
theorem serifref09_Put.bits6 : waitsOk serifref09_Put.T6.2 serifref09_Put.B6 = true := by kernel_rfl
set_option maxHeartbeats 8000000 in
set_option maxRecDepth 100000 in
theorem serifref09_Put.calls (k : Nat) (A0_0 : Option Addr) (c0_0 : Nat) (l0_0 : List (S43)) (A0_1 : Option Addr) (c0_1 : Nat) (l0_1 : List (S43)) (A0_2 : Option Addr) (c0_2 : Nat) (l0_2 : List Bool) (A0_3 : Option Addr) (c0_3 : Nat) (l0_3 : List Bool) (A0_4 : Option Addr) (c0_4 : Nat) (l0_4 : List Int) (a1 : Int) (a2 : Int) (a3 : Int) (r1 : List (S43)) (r2 : List (S43)) (r3 : List Bool) (r4 : List Bool) (r5 : List Int) (r6 : Int) (w : World) (hr0_0 : Kd.C k43 w A0_0 l0_0.length l0_0) (hc0_0 : l0_0.length ≤ c0_0) (hr0_1 : Kd.C k43 w A0_1 l0_1.length l0_1) (hc0_1 : l0_1.length ≤ c0_1) (hr0_2 : Kd.C Kd.bool w A0_2 l0_2.length l0_2) (hc0_2 : l0_2.length ≤ c0_2) (hr0_3 : Kd.C Kd.bool w A0_3 l0_3.length l0_3) (hc0_3 : l0_3.length ≤ c0_3) (hr0_4 : Kd.C (Kd.int .i64) w A0_4 l0_4.length l0_4) (hc0_4 : l0_4.length ≤ c0_4) (h : serifref09_Put.f k l0_0 l0_1 l0_2 l0_3 l0_4 a1 a2 a3 = some (r1, r2, r3, r4, r5, r6)) :
  Calls Try.prog 17 #[.agg #[.slice A0_0 l0_0.length c0_0, .slice A0_1 l0_1.length c0_1, .slice A0_2 l0_2.length c0_2, .slice A0_3 l0_3.length c0_3, .slice A0_4 l0_4.length c0_4], .int .i64 a1, .int .i64 a2, .int .i64 a3] w fun e w' => ∃ v0_ v1_ v2_ v3_ v4_ : Value, e = .returned (.tuple #[.agg #[v0_, v1_, v2_, v3_, v4_], .int .i64 r6]) ∧ Kd.R k43 43 w' w.heap.size (fun k_ => some k_ ≠ (v1_ : Value).ownBlock) v0_ r1 ∧ Kd.R k43 43 w' w.heap.size (fun k_ => some k_ ≠ (v0_ : Value).ownBlock) v1_ r2 ∧ Kd.R Kd.bool 4 w' w.heap.size (fun k_ => some k_ ≠ (v3_ : Value).ownBlock) v2_ r3 ∧ Kd.R Kd.bool 4 w' w.heap.size (fun k_ => some k_ ≠ (v2_ : Value).ownBlock) v3_ r4 ∧ Kd.R (Kd.int .i64) 3 w' w.heap.size (fun _ => True) v4_ r5 ∧ Below w.heap.size w w' := by
 have hu30 := Try.underlying30
 have hu43 := Try.underlying43
 have HR0_0 := Aside0.mk hr0_0
 have HC0_0 := Aside0.mk hc0_0
 clear hr0_0 hc0_0
 have HR0_1 := Aside0.mk hr0_1
 have HC0_1 := Aside0.mk hc0_1
 clear hr0_1 hc0_1
 have HR0_2 := Aside0.mk hr0_2
 have HC0_2 := Aside0.mk hc0_2
 clear hr0_2 hc0_2
 have HR0_3 := Aside0.mk hr0_3
 have HC0_3 := Aside0.mk hc0_3
 clear hr0_3 hc0_3
 have HR0_4 := Aside0.mk hr0_4
 have HC0_4 := Aside0.mk hc0_4
 clear hr0_4 hc0_4
 have HB := Aside0.mk (Below.refl w.heap.size w)
 have H : ((serifref09_Sound.f k l0_0 l0_1 l0_2 l0_3 l0_4).bind fun t134 => (if t134 = true then (if a1 < 0 then (serifref09_Put.j0 k a1 a2 a3 true l0_0 l0_1 l0_2 l0_3 l0_4) else (if a1 > 1 then (serifref09_Put.j0 k a1 a2 a3 true l0_0 l0_1 l0_2 l0_3 l0_4) else (if a2 < 0 then (serifref09_Put.j0 k a1 a2 a3 true l0_0 l0_1 l0_2 l0_3 l0_4) else (serifref09_Put.j0 k a1 a2 a3 (decide (a2 ≥ (l0_0.length : Int))) l0_0 l0_1 l0_2 l0_3 l0_4)))) else (serifref09_Put.j0 k a1 a2 a3 true l0_0 l0_1 l0_2 l0_3 l0_4))) = some (r1, r2, r3, r4, r5, r6) := h
 clear h
 have HC5 := Aside0.mk H
 clear H
 go_enter Try.func17, Try.ntmps17
 go_upto_region 1 with (first | ((with_reducible refine gate_dst (N := 4) rfl ?_); (try (refine gate_guard (by rfl) ?_; dsimp only)); refine box_event ?hg (N := 4) ?hd (cs := #[.slice A0_0 l0_0.length c0_0, .slice A0_1 l0_1.length c0_1, .slice A0_2 l0_2.length c0_2, .slice A0_3 l0_3.length c0_3, .slice A0_4 l0_4.length c0_4]) (t := 30) ?hr ?_; (case hd => rfl); (case hg => rfl); (case hr => first | (go_simp; done) | (go_simp; rfl)); intro gb132 hg w6 hbox hb; have BK132 := Aside0.mk (hbox); have GW132 := Aside0.mk ((by rw [hg]; exact (lZ (by with_reducible repeat first | exact HB.out | apply lN | apply lD)) : w.heap.size ≤ gb132)); have GE132 := Aside0.mk ((by rw [hg]; exact (lZ (by with_reducible repeat first | exact HB.out | apply lN | apply lD)) : w.heap.size ≤ gb132)); replace HB := Aside0.mk (lT HB.out hb); clear hb hbox hg) | ((with_reducible refine gate_dst (N := 8) rfl ?_); (try (refine gate_guard (by rfl) ?_; dsimp only)); refine box_event ?hg (N := 8) ?hd (cs := #[.slice none 0 0, .slice none 0 0, .slice none 0 0, .slice none 0 0, .slice none 0 0]) (t := 30) ?hr ?_; (case hd => rfl); (case hg => rfl); (case hr => first | (go_simp; done) | (go_simp; rfl)); intro gb133 hg w7 hbox hb; have BK133 := Aside0.mk (hbox); have GW133 := Aside0.mk ((by rw [hg]; exact (lZ (by with_reducible repeat first | exact HB.out | apply lN | apply lD | refine lS ?_ GE132.out)) : w.heap.size ≤ gb133)); have GE133 := Aside0.mk ((by rw [hg]; exact (lZ (by with_reducible repeat first | exact HB.out | apply lN | apply lD | refine lS ?_ GE132.out)) : w.heap.size ≤ gb133)); have NB132_133 := Aside0.mk ((by rw [hg]; exact Nat.ne_of_lt (blk_lt BK132.out) : gb132 ≠ gb133)); have NB133_132 := Aside0.mk ((by rw [hg]; exact Nat.ne_of_gt (blk_lt BK132.out) : gb133 ≠ gb132)); replace BK132 := Aside0.mk (bB BK132.out hb); replace HB := Aside0.mk (lT (by with_reducible repeat first | exact HB.out | refine lS ?_ GE132.out) hb); clear hb hbox hg))
 (try simp only [Act.put, List.setIfInBounds_toArray, List.set_cons_zero, List.set_cons_succ])
 go_cut [32] (fun v32 wc => ∃ (kq : Nat) (x32_4 : Bool), v32 = .bool x32_4 ∧ Aside0 (serifref09_Put.j0 kq a1 a2 a3 x32_4 l0_0 l0_1 l0_2 l0_3 l0_4 = some (r1, r2, r3, r4, r5, r6)) ∧ Aside0 (kq ≤ k) ∧ Aside0 (wc.heap[gb132]? = some (.cells #[(.slice A0_0 l0_0.length c0_0), (.slice A0_1 l0_1.length c0_1), (.slice A0_2 l0_2.length c0_2), (.slice A0_3 l0_3.length c0_3), (.slice A0_4 l0_4.length c0_4)] 30 (0, 0))) ∧ Aside0 (wc.heap[gb133]? = some (.cells #[(.slice none 0 0), (.slice none 0 0), (.slice none 0 0), (.slice none 0 0), (.slice none 0 0)] 30 (0, 0))) ∧ Aside0 (Below w.heap.size w wc))
 case first =>
  have H := HC5.out
  clear HC5
  replace H := Option.bind_eq_some_iff.mp H
  obtain ⟨t134, A80, H⟩ := H
  replace H : (if t134 = true then (if a1 < 0 then (serifref09_Put.j0 k a1 a2 a3 true l0_0 l0_1 l0_2 l0_3 l0_4) else (if a1 > 1 then (serifref09_Put.j0 k a1 a2 a3 true l0_0 l0_1 l0_2 l0_3 l0_4) else (if a2 < 0 then (serifref09_Put.j0 k a1 a2 a3 true l0_0 l0_1 l0_2 l0_3 l0_4) else (serifref09_Put.j0 k a1 a2 a3 (decide (a2 ≥ (l0_0.length : Int))) l0_0 l0_1 l0_2 l0_3 l0_4)))) else (serifref09_Put.j0 k a1 a2 a3 true l0_0 l0_1 l0_2 l0_3 l0_4)) = some (r1, r2, r3, r4, r5, r6) := H
  have A8 := Aside0.mk A80
  clear A80
  by_cases c9 : t134 = true
  ·subst c9
   have H1 : (if a1 < 0 then (serifref09_Put.j0 k a1 a2 a3 true l0_0 l0_1 l0_2 l0_3 l0_4) else (if a1 > 1 then (serifref09_Put.j0 k a1 a2 a3 true l0_0 l0_1 l0_2 l0_3 l0_4) else (if a2 < 0 then (serifref09_Put.j0 k a1 a2 a3 true l0_0 l0_1 l0_2 l0_3 l0_4) else (serifref09_Put.j0 k a1 a2 a3 (decide (a2 ≥ (l0_0.length : Int))) l0_0 l0_1 l0_2 l0_3 l0_4)))) = some (r1, r2, r3, r4, r5, r6) := by rw [if_pos rfl] at H; exact H
   clear H
   have H := H1
   clear H1
   by_cases c10 : a1 < 0
   ·rw [if_pos c10] at H
    have c10b0 : decide (a1 < 0) = true := decide_eq_true c10
    clear c10
    (first | rw [c10b0] | (simp only [i64_w, i32_w]; rw [c10b0]) | skip)
    have H' := Aside0.mk H
    clear H
    have hnb11 := NB132_133.out
    have hnc11 := NB133_132.out
    have hcz12_0 : w7.cell? ⟨gb132, 0, none⟩ = some (.slice A0_0 l0_0.length c0_0) := (bC BK132.out 0).trans rfl
    have hcz12_1 : w7.cell? ⟨gb132, 1, none⟩ = some (.slice A0_1 l0_1.length c0_1) := (bC BK132.out 1).trans rfl
    have hcz12_2 : w7.cell? ⟨gb132, 2, none⟩ = some (.slice A0_2 l0_2.length c0_2) := (bC BK132.out 2).trans rfl
    have hcz12_3 : w7.cell? ⟨gb132, 3, none⟩ = some (.slice A0_3 l0_3.length c0_3) := (bC BK132.out 3).trans rfl
    have hcz12_4 : w7.cell? ⟨gb132, 4, none⟩ = some (.slice A0_4 l0_4.length c0_4) := (bC BK132.out 4).trans rfl
    have hfz12_0 := bF BK132.out 0
    have hfz12_1 := bF BK132.out 1
    have hfz12_2 := bF BK132.out 2
    have hfz12_3 := bF BK132.out 3
    have hfz12_4 := bF BK132.out 4
    go_wp2_with (first | ((with_reducible refine gate_callee (f := 27) rfl ?_); refine goesL_ (some 12) rfl rfl Try.func27 (by kernel_rfl) rfl #[.agg #[.slice A0_0 l0_0.length c0_0, .slice A0_1 l0_1.length c0_1, .slice A0_2 l0_2.length c0_2, .slice A0_3 l0_3.length c0_3, .slice A0_4 l0_4.length c0_4]] rfl (by (try simp only [List.map_toArray, List.map_cons, List.map_nil]); first | done | rfl | (simp only [List.length_drop, List.length_take]; rfl)) ?_; (with_reducible refine (serifref09_Sound.calls k _ _ l0_0 _ _ l0_1 _ _ l0_2 _ _ l0_3 _ _ l0_4 true _ ?side1 ?side2 ?side3 ?side4 ?side5 ?side6 ?side7 ?side8 ?side9 ?side10 A8.out).mono ?_); (case side1 => repeat (first | exact (Kd.C_below HR0_0.out HB.out) | (with_reducible refine cA ?_ _) | (with_reducible refine cN ?_ _) | (with_reducible refine cD ?_))); (case side2 => exact HC0_0.out); (case side3 => repeat (first | exact (Kd.C_below HR0_1.out HB.out) | (with_reducible refine cA ?_ _) | (with_reducible refine cN ?_ _) | (with_reducible refine cD ?_))); (case side4 => exact HC0_1.out); (case side5 => repeat (first | exact (Kd.C_below HR0_2.out HB.out) | (with_reducible refine cA ?_ _) | (with_reducible refine cN ?_ _) | (with_reducible refine cD ?_))); (case side6 => exact HC0_2.out); (case side7 => repeat (first | exact (Kd.C_below HR0_3.out HB.out) | (with_reducible refine cA ?_ _) | (with_reducible refine cN ?_ _) | (with_reducible refine cD ?_))); (case side8 => exact HC0_3.out); (case side9 => repeat (first | exact (Kd.C_below HR0_4.out HB.out) | (with_reducible refine cA ?_ _) | (with_reducible refine cN ?_ _) | (with_reducible refine cD ?_))); (case side10 => exact HC0_4.out); rintro e w13 ⟨rfl, hb⟩; refine ⟨_, rfl, ?_⟩; replace BK132 := Aside0.mk (bB BK132.out hb); replace BK133 := Aside0.mk (bB BK133.out hb); replace HB := Aside0.mk (lT (by with_reducible repeat first | exact HB.out | refine lS ?_ GE132.out | refine lS ?_ GE133.out) hb); (try clear hb); (try clear hb2); (try clear hk); (try clear hi)))
    go_meet
    case rel => exact ⟨_, (true), (by first | rfl | (simp; done) | (simp [*]; done)), H', ⟨by first | omega | exact Nat.le_refl _⟩, ⟨by (with_reducible repeat (first | refine bN ?_ _ | refine bD ?_ | refine bA ?_ _)); exact BK132.out⟩, ⟨by (with_reducible repeat (first | refine bN ?_ _ | refine bD ?_ | refine bA ?_ _)); exact BK133.out⟩, ⟨by with_reducible repeat first | exact HB.out | apply lN | apply lD | refine lS ?_ GE132.out | refine lS ?_ GE133.out⟩⟩
   ·rw [if_neg c10] at H
    have c10b0 : decide (a1 < 0) = false := decide_eq_false c10
    clear c10
    (first | rw [c10b0] | (simp only [i64_w, i32_w]; rw [c10b0]) | skip)
    by_cases c14 : a1 > 1
    ·rw [if_pos c14] at H
     have c14b0 : decide (1 < a1) = true := decide_eq_true c14
     clear c14
     have H' := Aside0.mk H
     clear H
     have hnb15 := NB132_133.out
     have hnc15 := NB133_132.out
     have hcz16_0 : w7.cell? ⟨gb132, 0, none⟩ = some (.slice A0_0 l0_0.length c0_0) := (bC BK132.out 0).trans rfl
     have hcz16_1 : w7.cell? ⟨gb132, 1, none⟩ = some (.slice A0_1 l0_1.length c0_1) := (bC BK132.out 1).trans rfl
     have hcz16_2 : w7.cell? ⟨gb132, 2, none⟩ = some (.slice A0_2 l0_2.length c0_2) := (bC BK132.out 2).trans rfl
     have hcz16_3 : w7.cell? ⟨gb132, 3, none⟩ = some (.slice A0_3 l0_3.length c0_3) := (bC BK132.out 3).trans rfl
     have hcz16_4 : w7.cell? ⟨gb132, 4, none⟩ = some (.slice A0_4 l0_4.length c0_4) := (bC BK132.out 4).trans rfl
     have hfz16_0 := bF BK132.out 0
     have hfz16_1 := bF BK132.out 1
     have hfz16_2 := bF BK132.out 2
     have hfz16_3 := bF BK132.out 3
     have hfz16_4 := bF BK132.out 4
     go_wp2_with (first | ((with_reducible refine gate_callee (f := 27) rfl ?_); refine goesL_ (some 12) rfl rfl Try.func27 (by kernel_rfl) rfl #[.agg #[.slice A0_0 l0_0.length c0_0, .slice A0_1 l0_1.length c0_1, .slice A0_2 l0_2.length c0_2, .slice A0_3 l0_3.length c0_3, .slice A0_4 l0_4.length c0_4]] rfl (by (try simp only [List.map_toArray, List.map_cons, List.map_nil]); first | done | rfl | (simp only [List.length_drop, List.length_take]; rfl)) ?_; (with_reducible refine (serifref09_Sound.calls k _ _ l0_0 _ _ l0_1 _ _ l0_2 _ _ l0_3 _ _ l0_4 true _ ?side1 ?side2 ?side3 ?side4 ?side5 ?side6 ?side7 ?side8 ?side9 ?side10 A8.out).mono ?_); (case side1 => repeat (first | exact (Kd.C_below HR0_0.out HB.out) | (with_reducible refine cA ?_ _) | (with_reducible refine cN ?_ _) | (with_reducible refine cD ?_))); (case side2 => exact HC0_0.out); (case side3 => repeat (first | exact (Kd.C_below HR0_1.out HB.out) | (with_reducible refine cA ?_ _) | (with_reducible refine cN ?_ _) | (with_reducible refine cD ?_))); (case side4 => exact HC0_1.out); (case side5 => repeat (first | exact (Kd.C_below HR0_2.out HB.out) | (with_reducible refine cA ?_ _) | (with_reducible refine cN ?_ _) | (with_reducible refine cD ?_))); (case side6 => exact HC0_2.out); (case side7 => repeat (first | exact (Kd.C_below HR0_3.out HB.out) | (with_reducible refine cA ?_ _) | (with_reducible refine cN ?_ _) | (with_reducible refine cD ?_))); (case side8 => exact HC0_3.out); (case side9 => repeat (first | exact (Kd.C_below HR0_4.out HB.out) | (with_reducible refine cA ?_ _) | (with_reducible refine cN ?_ _) | (with_reducible refine cD ?_))); (case side10 => exact HC0_4.out); rintro e w17 ⟨rfl, hb⟩; refine ⟨_, rfl, ?_⟩; replace BK132 := Aside0.mk (bB BK132.out hb); replace BK133 := Aside0.mk (bB BK133.out hb); replace HB := Aside0.mk (lT (by with_reducible repeat first | exact HB.out | refine lS ?_ GE132.out | refine lS ?_ GE133.out) hb); (try clear hb); (try clear hb2); (try clear hk); (try clear hi)))
     go_meet
     case rel => exact ⟨_, (true), (by first | rfl | (simp; done) | (simp [*]; done)), H', ⟨by first | omega | exact Nat.le_refl _⟩, ⟨by (with_reducible repeat (first | refine bN ?_ _ | refine bD ?_ | refine bA ?_ _)); exact BK132.out⟩, ⟨by (with_reducible repeat (first | refine bN ?_ _ | refine bD ?_ | refine bA ?_ _)); exact BK133.out⟩, ⟨by with_reducible repeat first | exact HB.out | apply lN | apply lD | refine lS ?_ GE132.out | refine lS ?_ GE133.out⟩⟩
    ·rw [if_neg c14] at H
     have c14b0 : decide (1 < a1) = false := decide_eq_false c14
     clear c14
     by_cases c18 : a2 < 0
     ·rw [if_pos c18] at H
      have c18b0 : decide (a2 < 0) = true := decide_eq_true c18
      clear c18
      have H' := Aside0.mk H
      clear H
      have hnb19 := NB132_133.out
      have hnc19 := NB133_132.out
      have hcz20_0 : w7.cell? ⟨gb132, 0, none⟩ = some (.slice A0_0 l0_0.length c0_0) := (bC BK132.out 0).trans rfl
      have hcz20_1 : w7.cell? ⟨gb132, 1, none⟩ = some (.slice A0_1 l0_1.length c0_1) := (bC BK132.out 1).trans rfl
      have hcz20_2 : w7.cell? ⟨gb132, 2, none⟩ = some (.slice A0_2 l0_2.length c0_2) := (bC BK132.out 2).trans rfl
      have hcz20_3 : w7.cell? ⟨gb132, 3, none⟩ = some (.slice A0_3 l0_3.length c0_3) := (bC BK132.out 3).trans rfl
      have hcz20_4 : w7.cell? ⟨gb132, 4, none⟩ = some (.slice A0_4 l0_4.length c0_4) := (bC BK132.out 4).trans rfl
      have hfz20_0 := bF BK132.out 0
      have hfz20_1 := bF BK132.out 1
      have hfz20_2 := bF BK132.out 2
      have hfz20_3 := bF BK132.out 3
      have hfz20_4 := bF BK132.out 4
      go_wp2_with (first | ((with_reducible refine gate_callee (f := 27) rfl ?_); refine goesL_ (some 12) rfl rfl Try.func27 (by kernel_rfl) rfl #[.agg #[.slice A0_0 l0_0.length c0_0, .slice A0_1 l0_1.length c0_1, .slice A0_2 l0_2.length c0_2, .slice A0_3 l0_3.length c0_3, .slice A0_4 l0_4.length c0_4]] rfl (by (try simp only [List.map_toArray, List.map_cons, List.map_nil]); first | done | rfl | (simp only [List.length_drop, List.length_take]; rfl)) ?_; (with_reducible refine (serifref09_Sound.calls k _ _ l0_0 _ _ l0_1 _ _ l0_2 _ _ l0_3 _ _ l0_4 true _ ?side1 ?side2 ?side3 ?side4 ?side5 ?side6 ?side7 ?side8 ?side9 ?side10 A8.out).mono ?_); (case side1 => repeat (first | exact (Kd.C_below HR0_0.out HB.out) | (with_reducible refine cA ?_ _) | (with_reducible refine cN ?_ _) | (with_reducible refine cD ?_))); (case side2 => exact HC0_0.out); (case side3 => repeat (first | exact (Kd.C_below HR0_1.out HB.out) | (with_reducible refine cA ?_ _) | (with_reducible refine cN ?_ _) | (with_reducible refine cD ?_))); (case side4 => exact HC0_1.out); (case side5 => repeat (first | exact (Kd.C_below HR0_2.out HB.out) | (with_reducible refine cA ?_ _) | (with_reducible refine cN ?_ _) | (with_reducible refine cD ?_))); (case side6 => exact HC0_2.out); (case side7 => repeat (first | exact (Kd.C_below HR0_3.out HB.out) | (with_reducible refine cA ?_ _) | (with_reducible refine cN ?_ _) | (with_reducible refine cD ?_))); (case side8 => exact HC0_3.out); (case side9 => repeat (first | exact (Kd.C_below HR0_4.out HB.out) | (with_reducible refine cA ?_ _) | (with_reducible refine cN ?_ _) | (with_reducible refine cD ?_))); (case side10 => exact HC0_4.out); rintro e w21 ⟨rfl, hb⟩; refine ⟨_, rfl, ?_⟩; replace BK132 := Aside0.mk (bB BK132.out hb); replace BK133 := Aside0.mk (bB BK133.out hb); replace HB := Aside0.mk (lT (by with_reducible repeat first | exact HB.out | refine lS ?_ GE132.out | refine lS ?_ GE133.out) hb); (try clear hb); (try clear hb2); (try clear hk); (try clear hi)))
      go_meet
      case rel => exact ⟨_, (true), (by first | rfl | (simp; done) | (simp [*]; done)), H', ⟨by first | omega | exact Nat.le_refl _⟩, ⟨by (with_reducible repeat (first | refine bN ?_ _ | refine bD ?_ | refine bA ?_ _)); exact BK132.out⟩, ⟨by (with_reducible repeat (first | refine bN ?_ _ | refine bD ?_ | refine bA ?_ _)); exact BK133.out⟩, ⟨by with_reducible repeat first | exact HB.out | apply lN | apply lD | refine lS ?_ GE132.out | refine lS ?_ GE133.out⟩⟩
     ·rw [if_neg c18] at H
      have c18b0 : decide (a2 < 0) = false := decide_eq_false c18
      clear c18
      have H' := Aside0.mk H
      clear H
      have hnb22 := NB132_133.out
      have hnc22 := NB133_132.out
      have hcz23_0 : w7.cell? ⟨gb132, 0, none⟩ = some (.slice A0_0 l0_0.length c0_0) := (bC BK132.out 0).trans rfl
      have hcz23_1 : w7.cell? ⟨gb132, 1, none⟩ = some (.slice A0_1 l0_1.length c0_1) := (bC BK132.out 1).trans rfl
      have hcz23_2 : w7.cell? ⟨gb132, 2, none⟩ = some (.slice A0_2 l0_2.length c0_2) := (bC BK132.out 2).trans rfl
      have hcz23_3 : w7.cell? ⟨gb132, 3, none⟩ = some (.slice A0_3 l0_3.length c0_3) := (bC BK132.out 3).trans rfl
      have hcz23_4 : w7.cell? ⟨gb132, 4, none⟩ = some (.slice A0_4 l0_4.length c0_4) := (bC BK132.out 4).trans rfl
      have hfz23_0 := bF BK132.out 0
      have hfz23_1 := bF BK132.out 1
      have hfz23_2 := bF BK132.out 2
      have hfz23_3 := bF BK132.out 3
      have hfz23_4 := bF BK132.out 4
      go_wp2_with (first | ((with_reducible refine gate_callee (f := 27) rfl ?_); refine goesL_ (some 12) rfl rfl Try.func27 (by kernel_rfl) rfl #[.agg #[.slice A0_0 l0_0.length c0_0, .slice A0_1 l0_1.length c0_1, .slice A0_2 l0_2.length c0_2, .slice A0_3 l0_3.length c0_3, .slice A0_4 l0_4.length c0_4]] rfl (by (try simp only [List.map_toArray, List.map_cons, List.map_nil]); first | done | rfl | (simp only [List.length_drop, List.length_take]; rfl)) ?_; (with_reducible refine (serifref09_Sound.calls k _ _ l0_0 _ _ l0_1 _ _ l0_2 _ _ l0_3 _ _ l0_4 true _ ?side1 ?side2 ?side3 ?side4 ?side5 ?side6 ?side7 ?side8 ?side9 ?side10 A8.out).mono ?_); (case side1 => repeat (first | exact (Kd.C_below HR0_0.out HB.out) | (with_reducible refine cA ?_ _) | (with_reducible refine cN ?_ _) | (with_reducible refine cD ?_))); (case side2 => exact HC0_0.out); (case side3 => repeat (first | exact (Kd.C_below HR0_1.out HB.out) | (with_reducible refine cA ?_ _) | (with_reducible refine cN ?_ _) | (with_reducible refine cD ?_))); (case side4 => exact HC0_1.out); (case side5 => repeat (first | exact (Kd.C_below HR0_2.out HB.out) | (with_reducible refine cA ?_ _) | (with_reducible refine cN ?_ _) | (with_reducible refine cD ?_))); (case side6 => exact HC0_2.out); (case side7 => repeat (first | exact (Kd.C_below HR0_3.out HB.out) | (with_reducible refine cA ?_ _) | (with_reducible refine cN ?_ _) | (with_reducible refine cD ?_))); (case side8 => exact HC0_3.out); (case side9 => repeat (first | exact (Kd.C_below HR0_4.out HB.out) | (with_reducible refine cA ?_ _) | (with_reducible refine cN ?_ _) | (with_reducible refine cD ?_))); (case side10 => exact HC0_4.out); rintro e w24 ⟨rfl, hb⟩; refine ⟨_, rfl, ?_⟩; replace BK132 := Aside0.mk (bB BK132.out hb); replace BK133 := Aside0.mk (bB BK133.out hb); replace HB := Aside0.mk (lT (by with_reducible repeat first | exact HB.out | refine lS ?_ GE132.out | refine lS ?_ GE133.out) hb); (try clear hb); (try clear hb2); (try clear hk); (try clear hi); have hcz25_0 : w24.cell? ⟨gb132, 0, none⟩ = some (.slice A0_0 l0_0.length c0_0) := (bC BK132.out 0).trans rfl; have hcz25_1 : w24.cell? ⟨gb132, 1, none⟩ = some (.slice A0_1 l0_1.length c0_1) := (bC BK132.out 1).trans rfl; have hcz25_2 : w24.cell? ⟨gb132, 2, none⟩ = some (.slice A0_2 l0_2.length c0_2) := (bC BK132.out 2).trans rfl; have hcz25_3 : w24.cell? ⟨gb132, 3, none⟩ = some (.slice A0_3 l0_3.length c0_3) := (bC BK132.out 3).trans rfl; have hcz25_4 : w24.cell? ⟨gb132, 4, none⟩ = some (.slice A0_4 l0_4.length c0_4) := (bC BK132.out 4).trans rfl; have hfz25_0 := bF BK132.out 0; have hfz25_1 := bF BK132.out 1; have hfz25_2 := bF BK132.out 2; have hfz25_3 := bF BK132.out 3; have hfz25_4 := bF BK132.out 4))
      go_meet
      case rel => exact ⟨_, (decide (a2 ≥ (l0_0.length : Int))), (by first | rfl | (simp; done) | (simp [*]; done)), H', ⟨by first | omega | exact Nat.le_refl _⟩, ⟨by (with_reducible repeat (first | refine bN ?_ _ | refine bD ?_ | refine bA ?_ _)); exact BK132.out⟩, ⟨by (with_reducible repeat (first | refine bN ?_ _ | refine bD ?_ | refine bA ?_ _)); exact BK133.out⟩, ⟨by with_reducible repeat first | exact HB.out | apply lN | apply lD | refine lS ?_ GE132.out | refine lS ?_ GE133.out⟩⟩
  ·replace c9 := Bool.eq_false_iff.mpr c9
   subst c9
   have H1 : (serifref09_Put.j0 k a1 a2 a3 true l0_0 l0_1 l0_2 l0_3 l0_4) = some (r1, r2, r3, r4, r5, r6) := by rw [if_neg (show ¬ (false = true) by decide)] at H; exact H
   clear H
   have H := H1
   clear H1
   have H' := Aside0.mk H
   clear H
   have hnb26 := NB132_133.out
   have hnc26 := NB133_132.out
   have hcz27_0 : w7.cell? ⟨gb132, 0, none⟩ = some (.slice A0_0 l0_0.length c0_0) := (bC BK132.out 0).trans rfl
   have hcz27_1 : w7.cell? ⟨gb132, 1, none⟩ = some (.slice A0_1 l0_1.length c0_1) := (bC BK132.out 1).trans rfl
   have hcz27_2 : w7.cell? ⟨gb132, 2, none⟩ = some (.slice A0_2 l0_2.length c0_2) := (bC BK132.out 2).trans rfl
   have hcz27_3 : w7.cell? ⟨gb132, 3, none⟩ = some (.slice A0_3 l0_3.length c0_3) := (bC BK132.out 3).trans rfl
   have hcz27_4 : w7.cell? ⟨gb132, 4, none⟩ = some (.slice A0_4 l0_4.length c0_4) := (bC BK132.out 4).trans rfl
   have hfz27_0 := bF BK132.out 0
   have hfz27_1 := bF BK132.out 1
   have hfz27_2 := bF BK132.out 2
   have hfz27_3 := bF BK132.out 3
   have hfz27_4 := bF BK132.out 4
   go_wp2_with (first | ((with_reducible refine gate_callee (f := 27) rfl ?_); refine goesL_ (some 12) rfl rfl Try.func27 (by kernel_rfl) rfl #[.agg #[.slice A0_0 l0_0.length c0_0, .slice A0_1 l0_1.length c0_1, .slice A0_2 l0_2.length c0_2, .slice A0_3 l0_3.length c0_3, .slice A0_4 l0_4.length c0_4]] rfl (by (try simp only [List.map_toArray, List.map_cons, List.map_nil]); first | done | rfl | (simp only [List.length_drop, List.length_take]; rfl)) ?_; (with_reducible refine (serifref09_Sound.calls k _ _ l0_0 _ _ l0_1 _ _ l0_2 _ _ l0_3 _ _ l0_4 false _ ?side1 ?side2 ?side3 ?side4 ?side5 ?side6 ?side7 ?side8 ?side9 ?side10 A8.out).mono ?_); (case side1 => repeat (first | exact (Kd.C_below HR0_0.out HB.out) | (with_reducible refine cA ?_ _) | (with_reducible refine cN ?_ _) | (with_reducible refine cD ?_))); (case side2 => exact HC0_0.out); (case side3 => repeat (first | exact (Kd.C_below HR0_1.out HB.out) | (with_reducible refine cA ?_ _) | (with_reducible refine cN ?_ _) | (with_reducible refine cD ?_))); (case side4 => exact HC0_1.out); (case side5 => repeat (first | exact (Kd.C_below HR0_2.out HB.out) | (with_reducible refine cA ?_ _) | (with_reducible refine cN ?_ _) | (with_reducible refine cD ?_))); (case side6 => exact HC0_2.out); (case side7 => repeat (first | exact (Kd.C_below HR0_3.out HB.out) | (with_reducible refine cA ?_ _) | (with_reducible refine cN ?_ _) | (with_reducible refine cD ?_))); (case side8 => exact HC0_3.out); (case side9 => repeat (first | exact (Kd.C_below HR0_4.out HB.out) | (with_reducible refine cA ?_ _) | (with_reducible refine cN ?_ _) | (with_reducible refine cD ?_))); (case side10 => exact HC0_4.out); rintro e w28 ⟨rfl, hb⟩; refine ⟨_, rfl, ?_⟩; replace BK132 := Aside0.mk (bB BK132.out hb); replace BK133 := Aside0.mk (bB BK133.out hb); replace HB := Aside0.mk (lT (by with_reducible repeat first | exact HB.out | refine lS ?_ GE132.out | refine lS ?_ GE133.out) hb); (try clear hb); (try clear hb2); (try clear hk); (try clear hi)))
   go_meet
   case rel => exact ⟨_, (true), (by first | rfl | (simp; done) | (simp [*]; done)), H', ⟨by first | omega | exact Nat.le_refl _⟩, ⟨by (with_reducible repeat (first | refine bN ?_ _ | refine bD ?_ | refine bA ?_ _)); exact BK132.out⟩, ⟨by (with_reducible repeat (first | refine bN ?_ _ | refine bD ?_ | refine bA ?_ _)); exact BK133.out⟩, ⟨by with_reducible repeat first | exact HB.out | apply lN | apply lD | refine lS ?_ GE132.out | refine lS ?_ GE133.out⟩⟩
 case rest =>
  clear HC5
  try clear c1
  try clear c2
  try clear p2
  try clear c9
  try clear c10
  try clear c10b0
  try clear c11
  try clear c14
  try clear c14b0
  try clear c15
  try clear c17
  try clear c18
  try clear c18b0
  try clear c19
  try clear c22
  try clear c26
  try clear c27
  try clear hcz12_0
  try clear hcz12_1
  try clear hcz12_2
  try clear hcz12_3
  try clear hcz12_4
  try clear hcz16_0
  try clear hcz16_1
  try clear hcz16_2
  try clear hcz16_3
  try clear hcz16_4
  try clear hcz20_0
  try clear hcz20_1
  try clear hcz20_2
  try clear hcz20_3
  try clear hcz20_4
  try clear hcz23_0
  try clear hcz23_1
  try clear hcz23_2
  try clear hcz23_3
  try clear hcz23_4
  try clear hcz25_0
  try clear hcz25_1
  try clear hcz25_2
  try clear hcz25_3
  try clear hcz25_4
  try clear hcz27_0
  try clear hcz27_1
  try clear hcz27_2
  try clear hcz27_3
  try clear hcz27_4
  try clear hfz12_0
  try clear hfz12_1
  try clear hfz12_2
  try clear hfz12_3
  try clear hfz12_4
  try clear hfz16_0
  try clear hfz16_1
  try clear hfz16_2
  try clear hfz16_3
  try clear hfz16_4
  try clear hfz20_0
  try clear hfz20_1
  try clear hfz20_2
  try clear hfz20_3
  try clear hfz20_4
  try clear hfz23_0
  try clear hfz23_1
  try clear hfz23_2
  try clear hfz23_3
  try clear hfz23_4
  try clear hfz25_0
  try clear hfz25_1
  try clear hfz25_2
  try clear hfz25_3
  try clear hfz25_4
  try clear hfz27_0
  try clear hfz27_1
  try clear hfz27_2
  try clear hfz27_3
  try clear hfz27_4
  obtain ⟨kq, x32_4, rfl, HA, HJ4, BK132, BK133, HB⟩ := hcut
  cases kq with
  | zero => exact absurd HA.out (by simp [serifref09_Put.j0])
  | succ kj4 =>
   have H := HA.out
   clear HA
   simp only [serifref09_Put.j0] at H
   by_cases c29 : x32_4 = true
   ·subst c29
    have H1 : (some (([] : List (S43)), ([] : List (S43)), ([] : List Bool), ([] : List Bool), ([] : List Int), 91)) = some (r1, r2, r3, r4, r5, r6) := by rw [if_pos rfl] at H; exact H
    clear H
    have H := H1
    clear H1
    simp only [Option.some.injEq, Prod.mk.injEq] at H
    obtain ⟨rfl, rfl, rfl, rfl, rfl, rfl⟩ := H
    have hnb30 := NB133_132.out
    have hnc30 := NB132_133.out
    have hcz31_0 : wc.cell? ⟨gb133, 0, none⟩ = some (.slice none 0 0) := (bC BK133.out 0).trans rfl
    have hcz31_1 : wc.cell? ⟨gb133, 1, none⟩ = some (.slice none 0 0) := (bC BK133.out 1).trans rfl
    have hcz31_2 : wc.cell? ⟨gb133, 2, none⟩ = some (.slice none 0 0) := (bC BK133.out 2).trans rfl
    have hcz31_3 : wc.cell? ⟨gb133, 3, none⟩ = some (.slice none 0 0) := (bC BK133.out 3).trans rfl
    have hcz31_4 : wc.cell? ⟨gb133, 4, none⟩ = some (.slice none 0 0) := (bC BK133.out 4).trans rfl
    have hfz31_0 := bF BK133.out 0
    have hfz31_1 := bF BK133.out 1
    have hfz31_2 := bF BK133.out 2
    have hfz31_3 := bF BK133.out 3
    have hfz31_4 := bF BK133.out 4
    go_wp2
    refine bodyPost_ret (results_ct rfl _ _ gb133 30 #[.slice none 0 0, .slice none 0 0, .slice none 0 0, .slice none 0 0, .slice none 0 0] (0, 0) _ rfl (by (with_reducible repeat (first | refine bN ?_ _ | refine bD ?_ | refine bA ?_ _)); refine bP (cs := #[.slice none 0 0, .slice none 0 0, .slice none 0 0, .slice none 0 0, .slice none 0 0]) ?_ 4 _ rfl; (with_reducible repeat (first | refine bN ?_ _ | refine bD ?_ | refine bA ?_ _)); refine bP (cs := #[.slice none 0 0, .slice none 0 0, .slice none 0 0, .slice none 0 0, .slice none 0 0]) ?_ 3 _ rfl; (with_reducible repeat (first | refine bN ?_ _ | refine bD ?_ | refine bA ?_ _)); refine bP (cs := #[.slice none 0 0, .slice none 0 0, .slice none 0 0, .slice none 0 0, .slice none 0 0]) ?_ 2 _ rfl; (with_reducible repeat (first | refine bN ?_ _ | refine bD ?_ | refine bA ?_ _)); refine bP (cs := #[.slice none 0 0, .slice none 0 0, .slice none 0 0, .slice none 0 0, .slice none 0 0]) ?_ 1 _ rfl; (with_reducible repeat (first | refine bN ?_ _ | refine bD ?_ | refine bA ?_ _)); refine bP (cs := #[.slice none 0 0, .slice none 0 0, .slice none 0 0, .slice none 0 0, .slice none 0 0]) ?_ 0 _ rfl; (with_reducible repeat (first | refine bN ?_ _ | refine bD ?_ | refine bA ?_ _)); exact BK133.out) Try.underlying30 rfl (by kernel_rfl)) rfl ?_
    exact ⟨_, _, _, _, _, by first | rfl | (simp [errW_none, errW_some] <;> rfl) | (simp [*, errW_none, errW_some] <;> rfl), by first | exact Kd.R_nil _ _ _ _ _ | exact Kd.N_nil _ _ _ _ _ | exact Kd.V_nil _ _ _ _ _ | exact Kd.Q_nil _ _ _ _ _ | exact Kd.S_nil _ _ _ _ _, by first | exact Kd.R_nil _ _ _ _ _ | exact Kd.N_nil _ _ _ _ _ | exact Kd.V_nil _ _ _ _ _ | exact Kd.Q_nil _ _ _ _ _ | exact Kd.S_nil _ _ _ _ _, by first | exact Kd.R_nil _ _ _ _ _ | exact Kd.N_nil _ _ _ _ _ | exact Kd.V_nil _ _ _ _ _ | exact Kd.Q_nil _ _ _ _ _ | exact Kd.S_nil _ _ _ _ _, by first | exact Kd.R_nil _ _ _ _ _ | exact Kd.N_nil _ _ _ _ _ | exact Kd.V_nil _ _ _ _ _ | exact Kd.Q_nil _ _ _ _ _ | exact Kd.S_nil _ _ _ _ _, by first | exact Kd.R_nil _ _ _ _ _ | exact Kd.N_nil _ _ _ _ _ | exact Kd.V_nil _ _ _ _ _ | exact Kd.Q_nil _ _ _ _ _ | exact Kd.S_nil _ _ _ _ _, by with_reducible repeat first | exact HB.out | apply lN | apply lD | refine lS ?_ GE132.out | refine lS ?_ GE133.out⟩
   ·replace c29 := Bool.eq_false_iff.mpr c29
    subst c29
    have H1 : ((serifref01_Fix.f a3).bind fun t135 => (if t135 = true then ((serifref09_Copy.f l0_0 l0_1 l0_2 l0_3 l0_4).bind fun bt136 => (if 0 ≤ a2 then (if a2 < (bt136.2.1.length : Int) then ((serifref09_Set.f ((rd_T43 bt136.2.1 a2).f0) ((rd_T43 bt136.2.1 a2).f1) a1 a3).bind fun bt153 => ((some (bt136.2.1.set (a2 : Int).toNat (⟨bt153.1, bt153.2⟩ : S43) : List (S43))).bind fun y155 => (if a1 = 0 then (if a2 < (bt136.2.2.1.length : Int) then (some (bt136.1, y155, (bt136.2.2.1.set (a2 : Int).toNat true), bt136.2.2.2.1, bt136.2.2.2.2, 0)) else (none)) else (if a2 < (bt136.2.2.2.1.length : Int) then (some (bt136.1, y155, bt136.2.2.1, (bt136.2.2.2.1.set (a2 : Int).toNat true), bt136.2.2.2.2, 0)) else (none))))) else (none)) else (none))) else (some (([] : List (S43)), ([] : List (S43)), ([] : List Bool), ([] : List Bool), ([] : List Int), 94)))) = some (r1, r2, r3, r4, r5, r6) := by rw [if_neg (show ¬ (false = true) by decide)] at H; exact H
    clear H
    have H := H1
    clear H1
    replace H := Option.bind_eq_some_iff.mp H
    obtain ⟨t135, A320, H⟩ := H
    replace H : (if t135 = true then ((serifref09_Copy.f l0_0 l0_1 l0_2 l0_3 l0_4).bind fun bt136 => (if 0 ≤ a2 then (if a2 < (bt136.2.1.length : Int) then ((serifref09_Set.f ((rd_T43 bt136.2.1 a2).f0) ((rd_T43 bt136.2.1 a2).f1) a1 a3).bind fun bt153 => ((some (bt136.2.1.set (a2 : Int).toNat (⟨bt153.1, bt153.2⟩ : S43) : List (S43))).bind fun y155 => (if a1 = 0 then (if a2 < (bt136.2.2.1.length : Int) then (some (bt136.1, y155, (bt136.2.2.1.set (a2 : Int).toNat true), bt136.2.2.2.1, bt136.2.2.2.2, 0)) else (none)) else (if a2 < (bt136.2.2.2.1.length : Int) then (some (bt136.1, y155, bt136.2.2.1, (bt136.2.2.2.1.set (a2 : Int).toNat true), bt136.2.2.2.2, 0)) else (none))))) else (none)) else (none))) else (some (([] : List (S43)), ([] : List (S43)), ([] : List Bool), ([] : List Bool), ([] : List Int), 94))) = some (r1, r2, r3, r4, r5, r6) := H
    have A32 := Aside0.mk A320
    clear A320
    by_cases c33 : t135 = true
    ·subst c33
     have H1 : ((serifref09_Copy.f l0_0 l0_1 l0_2 l0_3 l0_4).bind fun bt136 => (if 0 ≤ a2 then (if a2 < (bt136.2.1.length : Int) then ((serifref09_Set.f ((rd_T43 bt136.2.1 a2).f0) ((rd_T43 bt136.2.1 a2).f1) a1 a3).bind fun bt153 => ((some (bt136.2.1.set (a2 : Int).toNat (⟨bt153.1, bt153.2⟩ : S43) : List (S43))).bind fun y155 => (if a1 = 0 then (if a2 < (bt136.2.2.1.length : Int) then (some (bt136.1, y155, (bt136.2.2.1.set (a2 : Int).toNat true), bt136.2.2.2.1, bt136.2.2.2.2, 0)) else (none)) else (if a2 < (bt136.2.2.2.1.length : Int) then (some (bt136.1, y155, bt136.2.2.1, (bt136.2.2.2.1.set (a2 : Int).toNat true), bt136.2.2.2.2, 0)) else (none))))) else (none)) else (none))) = some (r1, r2, r3, r4, r5, r6) := by rw [if_pos rfl] at H; exact H
     clear H
     have H := H1
     clear H1
     replace H := Option.bind_eq_some_iff.mp H
     obtain ⟨⟨t136, t139, t142, t145, t148⟩, A340, H⟩ := H
     replace H : (if 0 ≤ a2 then (if a2 < (t139.length : Int) then ((serifref09_Set.f ((rd_T43 t139 a2).f0) ((rd_T43 t139 a2).f1) a1 a3).bind fun bt153 => ((some (t139.set (a2 : Int).toNat (⟨bt153.1, bt153.2⟩ : S43) : List (S43))).bind fun y155 => (if a1 = 0 then (if a2 < (t142.length : Int) then (some (t136, y155, (t142.set (a2 : Int).toNat true), t145, t148, 0)) else (none)) else (if a2 < (t145.length : Int) then (some (t136, y155, t142, (t145.set (a2 : Int).toNat true), t148, 0)) else (none))))) else (none)) else (none)) = some (r1, r2, r3, r4, r5, r6) := H
     have A34 := Aside0.mk A340
     clear A340
     by_cases c35 : 0 ≤ a2
     ·rw [if_pos c35] at H
      have c35b0 : decide (0 ≤ a2) = true := decide_eq_true c35
      clear c35
      by_cases c36 : a2 < (t139.length : Int)
      ·rw [if_pos c36] at H
       have c36b0 : decide (a2 < (t139.length : Int)) = true := decide_eq_true c36
       clear c36
       replace H := Option.bind_eq_some_iff.mp H
       obtain ⟨⟨t153, t154⟩, A370, H⟩ := H
       replace H : ((some (t139.set (a2 : Int).toNat (⟨t153, t154⟩ : S43) : List (S43))).bind fun y155 => (if a1 = 0 then (if a2 < (t142.length : Int) then (some (t136, y155, (t142.set (a2 : Int).toNat true), t145, t148, 0)) else (none)) else (if a2 < (t145.length : Int) then (some (t136, y155, t142, (t145.set (a2 : Int).toNat true), t148, 0)) else (none)))) = some (r1, r2, r3, r4, r5, r6) := H
       have A37 := Aside0.mk A370
       clear A370
       obtain ⟨y155, hy155⟩ : ∃ y_ : List (S43), y_ = (t139.set (a2 : Int).toNat (⟨t153, t154⟩ : S43)) := ⟨_, rfl⟩
       replace H : (if a1 = 0 then (if a2 < (t142.length : Int) then (some (t136, y155, (t142.set (a2 : Int).toNat true), t145, t148, 0)) else (none)) else (if a2 < (t145.length : Int) then (some (t136, y155, t142, (t145.set (a2 : Int).toNat true), t148, 0)) else (none))) = some (r1, r2, r3, r4, r5, r6) := by first | (rw [hy155]; with_reducible exact H) | (have H2_ := (Option.bind_some _ _).symm.trans H; rw [hy155]; with_reducible exact H2_) | (have H2_ := (Option.bind_some _ _).symm.trans H; with_reducible exact H2_) | with_reducible exact H | (rw [hy155]; exact H) | exact H
       have Ny155 := Aside0.mk hy155
       clear hy155
       by_cases c39 : a1 = 0
       ·rw [if_pos c39] at H
        have c39b0 : (a1 == 0) = true := beq_iff_eq.mpr c39
        have c39b1 : (a1 != 0) = false := bne_eq_false_iff_eq.mpr c39
        clear c39
        by_cases c40 : a2 < (t142.length : Int)
        ·rw [if_pos c40] at H
         have c40b0 : decide (a2 < (t142.length : Int)) = true := decide_eq_true c40
         clear c40
         obtain ⟨y156, hy156⟩ : ∃ y_ : List Bool, y_ = (t142.set (a2 : Int).toNat true) := ⟨_, rfl⟩
         replace H : (some (t136, y155, y156, t145, t148, 0)) = some (r1, r2, r3, r4, r5, r6) := by first | (rw [hy156]; with_reducible exact H) | (have H2_ := (Option.bind_some _ _).symm.trans H; rw [hy156]; with_reducible exact H2_) | (have H2_ := (Option.bind_some _ _).symm.trans H; with_reducible exact H2_) | with_reducible exact H | (rw [hy156]; exact H) | exact H
         have Ny156 := Aside0.mk hy156
         clear hy156
         simp only [Option.some.injEq, Prod.mk.injEq] at H
         obtain ⟨rfl, rfl, rfl, rfl, rfl, rfl⟩ := H
         try go_wp2_with (first | ((with_reducible refine gate_callee (f := 15) rfl ?_); refine goesL_ (some 35) rfl rfl Try.func15 (by kernel_rfl) rfl #[.int .i64 a3] rfl (by (try simp only [List.map_toArray, List.map_cons, List.map_nil]); first | done | rfl | (simp only [List.length_drop, List.length_take]; rfl)) ?_; (with_reducible refine (serifref01_Fix.calls a3 true _ A32.out).mono ?_); rintro e w' ⟨rfl, ⟨nd, rfl⟩⟩; refine ⟨_, rfl, ?_⟩; (try (rw [drewN_self wc]; generalize hq_ : World.drewN wc _ = wc; have n0_ : Aside0 (wc.heap[gb132]? = some (.cells #[.slice A0_0 l0_0.length c0_0, .slice A0_1 l0_1.length c0_1, .slice A0_2 l0_2.length c0_2, .slice A0_3 l0_3.length c0_3, .slice A0_4 l0_4.length c0_4] 30 (0, 0))) := ⟨by rw [← hq_]; exact (by (with_reducible repeat (first | refine bN ?_ _ | refine bD ?_ | refine bA ?_ _)); exact BK132.out)⟩; have n1_ : Aside0 (wc.heap[gb133]? = some (.cells #[.slice none 0 0, .slice none 0 0, .slice none 0 0, .slice none 0 0, .slice none 0 0] 30 (0, 0))) := ⟨by rw [← hq_]; exact (by (with_reducible repeat (first | refine bN ?_ _ | refine bD ?_ | refine bA ?_ _)); exact BK133.out)⟩; have n2_ : Aside0 (Below w.heap.size w wc) := ⟨by rw [← hq_]; exact (by with_reducible repeat first | exact HB.out | apply lN | apply lD | refine lS ?_ GE132.out | refine lS ?_ GE133.out)⟩; clear BK132 BK133 HB hq_; have BK132 := n0_; have BK133 := n1_; have HB := n2_; clear n0_ n1_ n2_)); have hnb42 := NB132_133.out; have hnc42 := NB133_132.out; have hcz43_0 : wc.cell? ⟨gb132, 0, none⟩ = some (.slice A0_0 l0_0.length c0_0) := (bC BK132.out 0).trans rfl; have hcz43_1 : wc.cell? ⟨gb132, 1, none⟩ = some (.slice A0_1 l0_1.length c0_1) := (bC BK132.out 1).trans rfl; have hcz43_2 : wc.cell? ⟨gb132, 2, none⟩ = some (.slice A0_2 l0_2.length c0_2) := (bC BK132.out 2).trans rfl; have hcz43_3 : wc.cell? ⟨gb132, 3, none⟩ = some (.slice A0_3 l0_3.length c0_3) := (bC BK132.out 3).trans rfl; have hcz43_4 : wc.cell? ⟨gb132, 4, none⟩ = some (.slice A0_4 l0_4.length c0_4) := (bC BK132.out 4).trans rfl; have hfz43_0 := bF BK132.out 0; have hfz43_1 := bF BK132.out 1; have hfz43_2 := bF BK132.out 2; have hfz43_3 := bF BK132.out 3; have hfz43_4 := bF BK132.out 4) | ((with_reducible refine gate_callee (f := 16) rfl ?_); refine goesL_ (some 39) rfl rfl Try.func16 (by kernel_rfl) rfl #[.agg #[.slice A0_0 l0_0.length c0_0, .slice A0_1 l0_1.length c0_1, .slice A0_2 l0_2.length c0_2, .slice A0_3 l0_3.length c0_3, .slice A0_4 l0_4.length c0_4]] rfl (by (try simp only [List.map_toArray, List.map_cons, List.map_nil]); first | done | rfl | (simp only [List.length_drop, List.length_take]; rfl)) ?_; (with_reducible refine (serifref09_Copy.calls _ _ l0_0 _ _ l0_1 _ _ l0_2 _ _ l0_3 _ _ l0_4 t136 t139 t142 t145 t148 _ ?side1 ?side2 ?side3 ?side4 ?side5 ?side6 ?side7 ?side8 ?side9 ?side10 A34.out).mono ?_); (case side1 => repeat (first | exact (Kd.C_below HR0_0.out HB.out) | (with_reducible refine cA ?_ _) | (with_reducible refine cN ?_ _) | (with_reducible refine cD ?_))); (case side2 => exact HC0_0.out); (case side3 => repeat (first | exact (Kd.C_below HR0_1.out HB.out) | (with_reducible refine cA ?_ _) | (with_reducible refine cN ?_ _) | (with_reducible refine cD ?_))); (case side4 => exact HC0_1.out); (case side5 => repeat (first | exact (Kd.C_below HR0_2.out HB.out) | (with_reducible refine cA ?_ _) | (with_reducible refine cN ?_ _) | (with_reducible refine cD ?_))); (case side6 => exact HC0_2.out); (case side7 => repeat (first | exact (Kd.C_below HR0_3.out HB.out) | (with_reducible refine cA ?_ _) | (with_reducible refine cN ?_ _) | (with_reducible refine cD ?_))); (case side8 => exact HC0_3.out); (case side9 => repeat (first | exact (Kd.C_below HR0_4.out HB.out) | (with_reducible refine cA ?_ _) | (with_reducible refine cN ?_ _) | (with_reducible refine cD ?_))); (case side10 => exact HC0_4.out); rintro e w44 ⟨v137, v140, v143, v146, v149, rfl, ho0, ho1, ho2, ho3, ho4, hb⟩; refine ⟨_, rfl, ?_⟩; have HO138 := Aside0.mk (Kd.R_lower ho0 (lZ (by with_reducible repeat first | exact HB.out | apply lN | apply lD | refine lS ?_ GE132.out | refine lS ?_ GE133.out))); have HO141 := Aside0.mk (Kd.R_lower ho1 (lZ (by with_reducible repeat first | exact HB.out | apply lN | apply lD | refine lS ?_ GE132.out | refine lS ?_ GE133.out))); have HO144 := Aside0.mk (Kd.R_lower ho2 (lZ (by with_reducible repeat first | exact HB.out | apply lN | apply lD | refine lS ?_ GE132.out | refine lS ?_ GE133.out))); have HO147 := Aside0.mk (Kd.R_lower ho3 (lZ (by with_reducible repeat first | exact HB.out | apply lN | apply lD | refine lS ?_ GE132.out | refine lS ?_ GE133.out))); have HO150 := Aside0.mk (Kd.R_lower ho4 (lZ (by with_reducible repeat first | exact HB.out | apply lN | apply lD | refine lS ?_ GE132.out | refine lS ?_ GE133.out))); replace BK132 := Aside0.mk (bB BK132.out hb); replace BK133 := Aside0.mk (bB BK133.out hb); replace HB := Aside0.mk (lT (by with_reducible repeat first | exact HB.out | refine lS ?_ GE132.out | refine lS ?_ GE133.out) hb); (try clear hb); (try clear hb2); (try clear hk); (try clear hi); (try clear ho0); (try clear ho1); (try clear ho2); (try clear ho3); (try clear ho4)) | ((with_reducible refine gate_dst (N := 10) rfl ?_); (try (refine gate_guard (by rfl) ?_; dsimp only)); refine box_event ?hg (N := 10) ?hd (cs := #[.slice none 0 0, .slice none 0 0, .slice none 0 0, .slice none 0 0, .slice none 0 0]) (t := 30) ?hr ?_; (case hd => rfl); (case hg => rfl); (case hr => first | (go_simp; done) | (go_simp; rfl)); intro gb151 hg w45 hbox hb; have BK151 := Aside0.mk (hbox); have GW151 := Aside0.mk ((by rw [hg]; exact (lZ (by with_reducible repeat first | exact HB.out | apply lN | apply lD | refine lS ?_ GE132.out | refine lS ?_ GE133.out)) : w.heap.size ≤ gb151)); have GE151 := Aside0.mk ((by rw [hg]; exact (lZ (by with_reducible repeat first | exact HB.out | apply lN | apply lD | refine lS ?_ GE132.out | refine lS ?_ GE133.out)) : w.heap.size ≤ gb151)); have NB132_151 := Aside0.mk ((by rw [hg]; exact Nat.ne_of_lt (blk_lt BK132.out) : gb132 ≠ gb151)); have NB151_132 := Aside0.mk ((by rw [hg]; exact Nat.ne_of_gt (blk_lt BK132.out) : gb151 ≠ gb132)); have NB133_151 := Aside0.mk ((by rw [hg]; exact Nat.ne_of_lt (blk_lt BK133.out) : gb133 ≠ gb151)); have NB151_133 := Aside0.mk ((by rw [hg]; exact Nat.ne_of_gt (blk_lt BK133.out) : gb151 ≠ gb133)); replace HO138 := Aside0.mk (rB HO138.out hb); replace HO141 := Aside0.mk (rB HO141.out hb); replace HO144 := Aside0.mk (rB HO144.out hb); replace HO147 := Aside0.mk (rB HO147.out hb); replace HO150 := Aside0.mk (rB HO150.out hb); replace BK132 := Aside0.mk (bB BK132.out hb); replace BK133 := Aside0.mk (bB BK133.out hb); replace HB := Aside0.mk (lT (by with_reducible repeat first | exact HB.out | refine lS ?_ GE132.out | refine lS ?_ GE133.out) hb); clear hb hbox hg; obtain ⟨Ao46, co46, eo46⟩ := Kd.R_slice HO138.out; subst eo46; have hnb47 := NB151_132.out; have hnc47 := NB132_151.out; have hnb48 := NB151_133.out; have hnc48 := NB133_151.out; have hcz49_0 : w45.cell? ⟨gb151, 0, none⟩ = some (.slice none 0 0) := (bC BK151.out 0).trans rfl; have hcz49_1 : w45.cell? ⟨gb151, 1, none⟩ = some (.slice none 0 0) := (bC BK151.out 1).trans rfl; have hcz49_2 : w45.cell? ⟨gb151, 2, none⟩ = some (.slice none 0 0) := (bC BK151.out 2).trans rfl; have hcz49_3 : w45.cell? ⟨gb151, 3, none⟩ = some (.slice none 0 0) := (bC BK151.out 3).trans rfl; have hcz49_4 : w45.cell? ⟨gb151, 4, none⟩ = some (.slice none 0 0) := (bC BK151.out 4).trans rfl; have hfz49_0 := bF BK151.out 0; have hfz49_1 := bF BK151.out 1; have hfz49_2 := bF BK151.out 2; have hfz49_3 := bF BK151.out 3; have hfz49_4 := bF BK151.out 4; obtain ⟨Ao50, co50, eo50⟩ := Kd.R_slice HO141.out; subst eo50; obtain ⟨Ao51, co51, eo51⟩ := Kd.R_slice HO144.out; subst eo51; obtain ⟨Ao52, co52, eo52⟩ := Kd.R_slice HO147.out; subst eo52; obtain ⟨Ao53, co53, eo53⟩ := Kd.R_slice HO150.out; subst eo53))
         have n0_ : Aside0 (Kd.R k43 43 (((((w45.setCell ⟨gb151, 0, none⟩ (.slice Ao46 t136.length co46)).setCell ⟨gb151, 1, none⟩ (.slice Ao50 t139.length co50)).setCell ⟨gb151, 2, none⟩ (.slice Ao51 t142.length co51)).setCell ⟨gb151, 3, none⟩ (.slice Ao52 t145.length co52)).setCell ⟨gb151, 4, none⟩ (.slice Ao53 t148.length co53)) w.heap.size (fun k_ => some k_ ≠ (.slice Ao50 t139.length co50 : Value).ownBlock) (.slice Ao46 t136.length co46) t136) := ⟨by (with_reducible repeat (first | apply rA | apply rN | apply rD)); exact rM (rF (p := ⟨gb151, 4, none⟩) (rF (p := ⟨gb151, 3, none⟩) (rF (p := ⟨gb151, 2, none⟩) (rF (p := ⟨gb151, 1, none⟩) (rF (p := ⟨gb151, 0, none⟩) (rT HO138.out BK151.out (by decide)) (fun _ hk => hk.2) (.slice Ao46 t136.length co46)) (fun _ hk => hk.2) (.slice Ao50 t139.length co50)) (fun _ hk => hk.2) (.slice Ao51 t142.length co51)) (fun _ hk => hk.2) (.slice Ao52 t145.length co52)) (fun _ hk => hk.2) (.slice Ao53 t148.length co53)) (fun _ hk => hk.1)⟩
         have n1_ : Aside0 (Kd.R k43 43 (((((w45.setCell ⟨gb151, 0, none⟩ (.slice Ao46 t136.length co46)).setCell ⟨gb151, 1, none⟩ (.slice Ao50 t139.length co50)).setCell ⟨gb151, 2, none⟩ (.slice Ao51 t142.length co51)).setCell ⟨gb151, 3, none⟩ (.slice Ao52 t145.length co52)).setCell ⟨gb151, 4, none⟩ (.slice Ao53 t148.length co53)) w.heap.size (fun k_ => some k_ ≠ (.slice Ao46 t136.length co46 : Value).ownBlock) (.slice Ao50 t139.length co50) t139) := ⟨by (with_reducible repeat (first | apply rA | apply rN | apply rD)); exact rM (rF (p := ⟨gb151, 4, none⟩) (rF (p := ⟨gb151, 3, none⟩) (rF (p := ⟨gb151, 2, none⟩) (rF (p := ⟨gb151, 1, none⟩) (rF (p := ⟨gb151, 0, none⟩) (rT HO141.out BK151.out (by decide)) (fun _ hk => hk.2) (.slice Ao46 t136.length co46)) (fun _ hk => hk.2) (.slice Ao50 t139.length co50)) (fun _ hk => hk.2) (.slice Ao51 t142.length co51)) (fun _ hk => hk.2) (.slice Ao52 t145.length co52)) (fun _ hk => hk.2) (.slice Ao53 t148.length co53)) (fun _ hk => hk.1)⟩
         have n2_ : Aside0 (Kd.R Kd.bool 4 (((((w45.setCell ⟨gb151, 0, none⟩ (.slice Ao46 t136.length co46)).setCell ⟨gb151, 1, none⟩ (.slice Ao50 t139.length co50)).setCell ⟨gb151, 2, none⟩ (.slice Ao51 t142.length co51)).setCell ⟨gb151, 3, none⟩ (.slice Ao52 t145.length co52)).setCell ⟨gb151, 4, none⟩ (.slice Ao53 t148.length co53)) w.heap.size (fun k_ => some k_ ≠ (.slice Ao52 t145.length co52 : Value).ownBlock) (.slice Ao51 t142.length co51) t142) := ⟨by (with_reducible repeat (first | apply rA | apply rN | apply rD)); exact rM (rF (p := ⟨gb151, 4, none⟩) (rF (p := ⟨gb151, 3, none⟩) (rF (p := ⟨gb151, 2, none⟩) (rF (p := ⟨gb151, 1, none⟩) (rF (p := ⟨gb151, 0, none⟩) (rT HO144.out BK151.out (by decide)) (fun _ hk => hk.2) (.slice Ao46 t136.length co46)) (fun _ hk => hk.2) (.slice Ao50 t139.length co50)) (fun _ hk => hk.2) (.slice Ao51 t142.length co51)) (fun _ hk => hk.2) (.slice Ao52 t145.length co52)) (fun _ hk => hk.2) (.slice Ao53 t148.length co53)) (fun _ hk => hk.1)⟩
         have n3_ : Aside0 (Kd.R Kd.bool 4 (((((w45.setCell ⟨gb151, 0, none⟩ (.slice Ao46 t136.length co46)).setCell ⟨gb151, 1, none⟩ (.slice Ao50 t139.length co50)).setCell ⟨gb151, 2, none⟩ (.slice Ao51 t142.length co51)).setCell ⟨gb151, 3, none⟩ (.slice Ao52 t145.length co52)).setCell ⟨gb151, 4, none⟩ (.slice Ao53 t148.length co53)) w.heap.size (fun k_ => some k_ ≠ (.slice Ao51 t142.length co51 : Value).ownBlock) (.slice Ao52 t145.length co52) t145) := ⟨by (with_reducible repeat (first | apply rA | apply rN | apply rD)); exact rM (rF (p := ⟨gb151, 4, none⟩) (rF (p := ⟨gb151, 3, none⟩) (rF (p := ⟨gb151, 2, none⟩) (rF (p := ⟨gb151, 1, none⟩) (rF (p := ⟨gb151, 0, none⟩) (rT HO147.out BK151.out (by decide)) (fun _ hk => hk.2) (.slice Ao46 t136.length co46)) (fun _ hk => hk.2) (.slice Ao50 t139.length co50)) (fun _ hk => hk.2) (.slice Ao51 t142.length co51)) (fun _ hk => hk.2) (.slice Ao52 t145.length co52)) (fun _ hk => hk.2) (.slice Ao53 t148.length co53)) (fun _ hk => hk.1)⟩
         have n4_ : Aside0 (Kd.R (Kd.int .i64) 3 (((((w45.setCell ⟨gb151, 0, none⟩ (.slice Ao46 t136.length co46)).setCell ⟨gb151, 1, none⟩ (.slice Ao50 t139.length co50)).setCell ⟨gb151, 2, none⟩ (.slice Ao51 t142.length co51)).setCell ⟨gb151, 3, none⟩ (.slice Ao52 t145.length co52)).setCell ⟨gb151, 4, none⟩ (.slice Ao53 t148.length co53)) w.heap.size (fun _ => True) (.slice Ao53 t148.length co53) t148) := ⟨by (with_reducible repeat (first | apply rA | apply rN | apply rD)); exact rM (rF (p := ⟨gb151, 4, none⟩) (rF (p := ⟨gb151, 3, none⟩) (rF (p := ⟨gb151, 2, none⟩) (rF (p := ⟨gb151, 1, none⟩) (rF (p := ⟨gb151, 0, none⟩) (rT HO150.out BK151.out (by decide)) (fun _ hk => hk.2) (.slice Ao46 t136.length co46)) (fun _ hk => hk.2) (.slice Ao50 t139.length co50)) (fun _ hk => hk.2) (.slice Ao51 t142.length co51)) (fun _ hk => hk.2) (.slice Ao52 t145.length co52)) (fun _ hk => hk.2) (.slice Ao53 t148.length co53)) (fun _ hk => trivial)⟩
         have n5_ : Aside0 ((((((w45.setCell ⟨gb151, 0, none⟩ (.slice Ao46 t136.length co46)).setCell ⟨gb151, 1, none⟩ (.slice Ao50 t139.length co50)).setCell ⟨gb151, 2, none⟩ (.slice Ao51 t142.length co51)).setCell ⟨gb151, 3, none⟩ (.slice Ao52 t145.length co52)).setCell ⟨gb151, 4, none⟩ (.slice Ao53 t148.length co53)).heap[gb132]? = some (.cells #[.slice A0_0 l0_0.length c0_0, .slice A0_1 l0_1.length c0_1, .slice A0_2 l0_2.length c0_2, .slice A0_3 l0_3.length c0_3, .slice A0_4 l0_4.length c0_4] 30 (0, 0))) := ⟨by (with_reducible repeat (first | refine bN ?_ _ | refine bD ?_ | refine bA ?_ _)); refine bR ?_ NB132_151.out _; (with_reducible repeat (first | refine bN ?_ _ | refine bD ?_ | refine bA ?_ _)); refine bR ?_ NB132_151.out _; (with_reducible repeat (first | refine bN ?_ _ | refine bD ?_ | refine bA ?_ _)); refine bR ?_ NB132_151.out _; (with_reducible repeat (first | refine bN ?_ _ | refine bD ?_ | refine bA ?_ _)); refine bR ?_ NB132_151.out _; (with_reducible repeat (first | refine bN ?_ _ | refine bD ?_ | refine bA ?_ _)); refine bR ?_ NB132_151.out _; (with_reducible repeat (first | refine bN ?_ _ | refine bD ?_ | refine bA ?_ _)); exact BK132.out⟩
         have n6_ : Aside0 ((((((w45.setCell ⟨gb151, 0, none⟩ (.slice Ao46 t136.length co46)).setCell ⟨gb151, 1, none⟩ (.slice Ao50 t139.length co50)).setCell ⟨gb151, 2, none⟩ (.slice Ao51 t142.length co51)).setCell ⟨gb151, 3, none⟩ (.slice Ao52 t145.length co52)).setCell ⟨gb151, 4, none⟩ (.slice Ao53 t148.length co53)).heap[gb133]? = some (.cells #[.slice none 0 0, .slice none 0 0, .slice none 0 0, .slice none 0 0, .slice none 0 0] 30 (0, 0))) := ⟨by (with_reducible repeat (first | refine bN ?_ _ | refine bD ?_ | refine bA ?_ _)); refine bR ?_ NB133_151.out _; (with_reducible repeat (first | refine bN ?_ _ | refine bD ?_ | refine bA ?_ _)); refine bR ?_ NB133_151.out _; (with_reducible repeat (first | refine bN ?_ _ | refine bD ?_ | refine bA ?_ _)); refine bR ?_ NB133_151.out _; (with_reducible repeat (first | refine bN ?_ _ | refine bD ?_ | refine bA ?_ _)); refine bR ?_ NB133_151.out _; (with_reducible repeat (first | refine bN ?_ _ | refine bD ?_ | refine bA ?_ _)); refine bR ?_ NB133_151.out _; (with_reducible repeat (first | refine bN ?_ _ | refine bD ?_ | refine bA ?_ _)); exact BK133.out⟩
         have n7_ : Aside0 ((((((w45.setCell ⟨gb151, 0, none⟩ (.slice Ao46 t136.length co46)).setCell ⟨gb151, 1, none⟩ (.slice Ao50 t139.length co50)).setCell ⟨gb151, 2, none⟩ (.slice Ao51 t142.length co51)).setCell ⟨gb151, 3, none⟩ (.slice Ao52 t145.length co52)).setCell ⟨gb151, 4, none⟩ (.slice Ao53 t148.length co53)).heap[gb151]? = some (.cells #[.slice Ao46 t136.length co46, .slice Ao50 t139.length co50, .slice Ao51 t142.length co51, .slice Ao52 t145.length co52, .slice Ao53 t148.length co53] 30 (0, 0))) := ⟨by (with_reducible repeat (first | refine bN ?_ _ | refine bD ?_ | refine bA ?_ _)); refine bP (cs := #[.slice Ao46 t136.length co46, .slice Ao50 t139.length co50, .slice Ao51 t142.length co51, .slice Ao52 t145.length co52, .slice none 0 0]) ?_ 4 _ rfl; (with_reducible repeat (first | refine bN ?_ _ | refine bD ?_ | refine bA ?_ _)); refine bP (cs := #[.slice Ao46 t136.length co46, .slice Ao50 t139.length co50, .slice Ao51 t142.length co51, .slice none 0 0, .slice none 0 0]) ?_ 3 _ rfl; (with_reducible repeat (first | refine bN ?_ _ | refine bD ?_ | refine bA ?_ _)); refine bP (cs := #[.slice Ao46 t136.length co46, .slice Ao50 t139.length co50, .slice none 0 0, .slice none 0 0, .slice none 0 0]) ?_ 2 _ rfl; (with_reducible repeat (first | refine bN ?_ _ | refine bD ?_ | refine bA ?_ _)); refine bP (cs := #[.slice Ao46 t136.length co46, .slice none 0 0, .slice none 0 0, .slice none 0 0, .slice none 0 0]) ?_ 1 _ rfl; (with_reducible repeat (first | refine bN ?_ _ | refine bD ?_ | refine bA ?_ _)); refine bP (cs := #[.slice none 0 0, .slice none 0 0, .slice none 0 0, .slice none 0 0, .slice none 0 0]) ?_ 0 _ rfl; (with_reducible repeat (first | refine bN ?_ _ | refine bD ?_ | refine bA ?_ _)); exact BK151.out⟩
         have n8_ : Aside0 (Below w.heap.size w (((((w45.setCell ⟨gb151, 0, none⟩ (.slice Ao46 t136.length co46)).setCell ⟨gb151, 1, none⟩ (.slice Ao50 t139.length co50)).setCell ⟨gb151, 2, none⟩ (.slice Ao51 t142.length co51)).setCell ⟨gb151, 3, none⟩ (.slice Ao52 t145.length co52)).setCell ⟨gb151, 4, none⟩ (.slice Ao53 t148.length co53))) := ⟨by with_reducible repeat first | exact HB.out | apply lN | apply lD | refine lS ?_ GE132.out | refine lS ?_ GE133.out | refine lS ?_ GE151.out⟩
         (try clear HO138)
         (try clear HO141)
         (try clear HO144)
         (try clear HO147)
         (try clear HO150)
         (try clear BK132)
         (try clear BK133)
         (try clear BK151)
         (try clear HB)
         generalize (((((w45.setCell ⟨gb151, 0, none⟩ (.slice Ao46 t136.length co46)).setCell ⟨gb151, 1, none⟩ (.slice Ao50 t139.length co50)).setCell ⟨gb151, 2, none⟩ (.slice Ao51 t142.length co51)).setCell ⟨gb151, 3, none⟩ (.slice Ao52 t145.length co52)).setCell ⟨gb151, 4, none⟩ (.slice Ao53 t148.length co53)) = w54 at n0_ n1_ n2_ n3_ n4_ n5_ n6_ n7_ n8_ ⊢
         have HO138 := n0_
         have HO141 := n1_
         have HO144 := n2_
         have HO147 := n3_
         have HO150 := n4_
         have BK132 := n5_
         have BK133 := n6_
         have BK151 := n7_
         have HB := n8_
         clear n0_ n1_ n2_ n3_ n4_ n5_ n6_ n7_ n8_
         replace HO138 := Aside0.mk (rD HO138.out)
         replace HO141 := Aside0.mk (rD HO141.out)
         replace HO144 := Aside0.mk (rD HO144.out)
         replace HO147 := Aside0.mk (rD HO147.out)
         replace HO150 := Aside0.mk (rD HO150.out)
         replace BK132 := Aside0.mk (bD BK132.out)
         replace BK133 := Aside0.mk (bD BK133.out)
         replace BK151 := Aside0.mk (bD BK151.out)
         replace HB := Aside0.mk (lD HB.out)
         have p152 : 0 ≤ (a2 : Int) := of_decide_eq_true (by first | (with_reducible assumption) | assumption)
         have q152 : a2 < (t139.length : Int) := of_decide_eq_true (by first | (with_reducible assumption) | assumption)
         obtain ⟨ad152, e152, hx152_0, hx152_1⟩ := at_T43 (rR HO141.out).2.2 a2 p152 q152
         cases e152
         replace p152 := eq_true p152
         replace q152 := eq_true q152
         refine start_ (n := 13) (S := fun w' => w'.cell? ⟨gb151, 0, none⟩ = some (.slice Ao46 t136.length co46) ∧ w'.cell? ⟨gb151, 1, none⟩ = some (.slice (some ad152) t139.length co50) ∧ w'.cell? ⟨gb151, 2, none⟩ = some (.slice Ao51 t142.length co51) ∧ w'.cell? ⟨gb151, 3, none⟩ = some (.slice Ao52 t145.length co52) ∧ w'.cell? ⟨gb151, 4, none⟩ = some (.slice Ao53 t148.length co53) ∧ w'.cell? (ad152.add ((a2).toNat * 2)) = some (.int .i64 ((rd_T43 t139 a2).f0)) ∧ w'.cell? ⟨(ad152.add ((a2).toNat * 2)).block, (ad152.add ((a2).toNat * 2)).off + 1, none⟩ = some (.int .i64 ((rd_T43 t139 a2).f1))) (ds := [12]) #[false, false, false, false, false, false, false, false, false, false, false, false, false] (by kernel_rfl) rfl rfl ⟨(bC BK151.out 0).trans rfl, (bC BK151.out 1).trans rfl, (bC BK151.out 2).trans rfl, (bC BK151.out 3).trans rfl, (bC BK151.out 4).trans rfl, hx152_0, hx152_1⟩ (fun hHeld => ?_); refine with_tabW serifref09_Put.tab6 serifref09_Put.bits6 (fun HT_ HW_ => ?_)
         generalize w54.drew = w55 at HO138 HO141 HO144 HO147 HO150 BK132 BK133 BK151 HB hx152_0 hx152_1 hHeld ⊢
         refine pure_ (i := 0) (N := some 40) (v := ?_) (a' := ?_) #[true, false, false, false, false, false, false, false, false, false, false, false, false] rfl rfl (any_of HT_.out (by kernel_rfl)) (fun _ _ _ h => h) (Or.inl ⟨by rfl, ?_⟩) ?_ ?_
         rotate_left
         ·intro w'
          go_simp
          with_reducible rfl
         rotate_left
         ·simp only [Act.put, List.setIfInBounds_toArray, List.set_cons_zero, List.set_cons_succ, i64_w, i32_w]
          rfl
         refine pure_ (i := 2) (N := some 42) (v := ?_) (a' := ?_) #[true, false, true, false, false, false, false, false, false, false, false, false, false] rfl rfl (any_of HT_.out (by kernel_rfl)) (fun _ _ _ h => h) (Or.inl ⟨by rfl, ?_⟩) ?_ ?_
         rotate_left
         ·intro w'
          go_simp
          with_reducible rfl
         rotate_left
         ·simp only [Act.put, List.setIfInBounds_toArray, List.set_cons_zero, List.set_cons_succ, i64_w, i32_w]
          rfl
         refine pure_ (i := 3) (N := some 43) (v := ?_) (a' := ?_) #[true, false, true, true, false, false, false, false, false, false, false, false, false] rfl rfl (any_of HT_.out (by kernel_rfl)) (fun _ _ _ h => h) (Or.inl ⟨by rfl, ?_⟩) ?_ ?_
         rotate_left
         ·intro w'
          go_simp
          with_reducible rfl
         rotate_left
         ·simp only [Act.put, List.setIfInBounds_toArray, List.set_cons_zero, List.set_cons_succ, i64_w, i32_w]
          rfl
         refine pure_ (i := 5) (N := some 45) (v := ?_) (a' := ?_) #[true, false, true, true, false, true, false, false, false, false, false, false, false] rfl rfl (any_of HT_.out (by kernel_rfl)) (fun _ _ _ h => h) (Or.inl ⟨by rfl, ?_⟩) ?_ ?_
         rotate_left
         ·intro w'
          go_simp
          with_reducible rfl
         rotate_left
         ·simp only [Act.put, List.setIfInBounds_toArray, List.set_cons_zero, List.set_cons_succ, i64_w, i32_w]
          rfl
         refine pure_ (i := 8) (N := some 48) (v := ?_) (a' := ?_) #[true, false, true, true, false, true, false, false, true, false, false, false, false] rfl rfl (any_of HT_.out (by kernel_rfl)) (fun _ _ _ h => h) (Or.inl ⟨by rfl, ?_⟩) ?_ ?_
         rotate_left
         ·intro w'
          go_simp
          with_reducible rfl
         rotate_left
         ·simp only [Act.put, List.setIfInBounds_toArray, List.set_cons_zero, List.set_cons_succ, i64_w, i32_w]
          rfl
         refine pure_ (i := 9) (N := some 49) (v := ?_) (a' := ?_) #[true, false, true, true, false, true, false, false, true, true, false, false, false] rfl rfl (any_of HT_.out (by kernel_rfl)) (fun _ _ _ h => h) (Or.inl ⟨by rfl, ?_⟩) ?_ ?_
         rotate_left
         ·intro w'
          go_simp
          with_reducible rfl
         rotate_left
         ·simp only [Act.put, List.setIfInBounds_toArray, List.set_cons_zero, List.set_cons_succ, i64_w, i32_w]
          rfl
         refine take_ (i := 1) (N := some 41) (v := ?_) (a' := ?_) #[true, true, true, true, false, true, false, false, true, true, false, false, false] rfl rfl (take_ofW HT_.out HW_.out (by kernel_rfl)) (fun _ _ _ h => h) (Or.inl ⟨by rfl, ?_⟩) hHeld ?_ ?_
         rotate_left
         ·rintro w' ⟨s0, s1, s2, s3, s4, s5, s6⟩
          go_simp
          with_reducible rfl
         rotate_left
         ·simp only [Act.put, List.setIfInBounds_toArray, List.set_cons_zero, List.set_cons_succ, i64_w, i32_w]
          rfl
         refine take_ (i := 4) (N := some 44) (v := ?_) (a' := ?_) #[true, true, true, true, true, true, false, false, true, true, false, false, false] rfl rfl (take_ofW HT_.out HW_.out (by kernel_rfl)) (fun _ _ _ h => h) (Or.inl ⟨by rfl, ?_⟩) hHeld ?_ ?_
         rotate_left
         ·rintro w' ⟨s0, s1, s2, s3, s4, s5, s6⟩
          go_simp
          with_reducible rfl
         rotate_left
         ·simp only [Act.put, List.setIfInBounds_toArray, List.set_cons_zero, List.set_cons_succ, i64_w, i32_w]
          rfl
         refine pure_ (i := 6) (N := some 46) (v := ?_) (a' := ?_) #[true, true, true, true, true, true, true, false, true, true, false, false, false] rfl rfl (any_of HT_.out (by kernel_rfl)) (fun _ _ _ h => h) (Or.inl ⟨by rfl, ?_⟩) ?_ ?_
         rotate_left
         ·intro w'
          go_simp
          with_reducible rfl
         rotate_left
         ·simp only [Act.put, List.setIfInBounds_toArray, List.set_cons_zero, List.set_cons_succ, i64_w, i32_w]
          rfl
         refine take_ (i := 7) (N := some 47) (v := ?_) (a' := ?_) #[true, true, true, true, true, true, true, true, true, true, false, false, false] rfl rfl (take_ofW HT_.out HW_.out (by kernel_rfl)) (fun _ _ _ h => h) (Or.inl ⟨by rfl, ?_⟩) hHeld ?_ ?_
         rotate_left
         ·rintro w' ⟨s0, s1, s2, s3, s4, s5, s6⟩
          go_simp
          with_reducible rfl
         rotate_left
         ·simp only [Act.put, List.setIfInBounds_toArray, List.set_cons_zero, List.set_cons_succ, i64_w, i32_w]
          rfl
         refine one_ (i := 10) (N := some 50) #[true, true, true, true, true, true, true, true, true, true, true, false, false] rfl rfl (one_of HT_.out (by kernel_rfl)) (by decide) (fun K hK => ?_)
         refine goes_ Try.func41 (by kernel_rfl) rfl #[.agg #[.int .i64 ((rd_T43 t139 a2).f0), .int .i64 ((rd_T43 t139 a2).f1)], .int .i64 a1, .int .i64 a3] (by rfl) rfl rfl (by (try simp only [List.map_toArray, List.map_cons, List.map_nil]); first | done | rfl | (simp only [List.length_drop, List.length_take]; rfl)) ?_
         with_reducible refine (serifref09_Set.calls ((rd_T43 t139 a2).f0) ((rd_T43 t139 a2).f1) a1 a3 t153 t154 _ A37.out).mono ?_
         rintro e w56 ⟨rfl, hb⟩
         have HS5_ := (hb.cell (World.block_lt_of_cell? _ _ (hHeld.2.2.2.2.2.1))).trans (hHeld.2.2.2.2.2.1)
         have HS6_ := (hb.cell (World.block_lt_of_cell? _ _ (hHeld.2.2.2.2.2.2))).trans (hHeld.2.2.2.2.2.2)
         refine ⟨_, rfl, ?_⟩
         replace HO138 := Aside0.mk (rB HO138.out hb)
         replace HO141 := Aside0.mk (rB HO141.out hb)
         replace HO144 := Aside0.mk (rB HO144.out hb)
         replace HO147 := Aside0.mk (rB HO147.out hb)
         replace HO150 := Aside0.mk (rB HO150.out hb)
         replace BK132 := Aside0.mk (bB BK132.out hb)
         replace BK133 := Aside0.mk (bB BK133.out hb)
         replace BK151 := Aside0.mk (bB BK151.out hb)
         replace HB := Aside0.mk (lT (by with_reducible repeat first | exact HB.out | refine lS ?_ GE132.out | refine lS ?_ GE133.out | refine lS ?_ GE151.out) hb)
         (try clear hb)
         (try clear hb2)
         (try clear hk)
         (try clear hi)
         have p38 : 0 ≤ (a2 : Int) := of_decide_eq_true (by first | (with_reducible assumption) | assumption)
         have q38 : (a2 : Int) < ((t139.length : Int) : Int) := of_decide_eq_true (by first | (with_reducible assumption) | assumption)
         obtain ⟨go38, co38, eo38, gb38, gl38, cl38, HG38⟩ := Kd.R_form HO141.out (by omega)
         (first | cases eo38 | (injection eo38 with ea_ en_ ec_; (first | subst ea_ | (injection ea_ with ea_; subst ea_)); subst ec_; clear en_))
         have GB38 := Aside0.mk gb38
         have GG38 := Aside0.mk HG38
         clear gb38 gl38 HG38
         (first | simp only [add_plain] at hx152_0 | skip)
         (first | simp only [add_plain] at hx152_1 | skip)
         obtain ⟨ce38, hcl38, hM38, hcc38, hfr38⟩ := Kd.R_elem HO141.out z43 (a2 : Int) p38 q38
         obtain rfl := k43_openM hM38
         have hx38_0 : World.cell? _ ⟨go38, (a2 : Int).toNat * 2, none⟩ = some (.int .i64 ((rd_T43 t139 a2).f0)) := hcc38 0 _ rfl
         have hx38_1 : World.cell? _ ⟨go38, (a2 : Int).toNat * 2 + 1, none⟩ = some (.int .i64 ((rd_T43 t139 a2).f1)) := hcc38 1 _ rfl
         have hf38_0 : World.frozen? _ ⟨go38, (a2 : Int).toNat * 2, none⟩ = false := hfr38 0
         have hf38_1 : World.frozen? _ ⟨go38, (a2 : Int).toNat * 2 + 1, none⟩ = false := hfr38 1
         clear hcl38 hcc38 hfr38 hM38
         replace p38 := eq_true p38
         replace q38 := eq_true q38
         obtain ⟨ce57, hcl57, hM57, hcc57, hfr57⟩ := Kd.R_elem HO141.out z43 (a2 : Int) (of_decide_eq_true (by first | (with_reducible assumption) | assumption)) (by have h_ : (a2 : Int) < ((t139.length : Int) : Int) := of_decide_eq_true (by first | (with_reducible assumption) | assumption); first | exact h_ | (have e_ := (rR HO141.out).1; omega) | simpa using h_)
         obtain rfl := k43_openM hM57
         have HP57 := (Kd.R_seg HO141.out (a2 : Int) (of_decide_eq_true (by first | (with_reducible assumption) | assumption)) (by have h_ : (a2 : Int) < ((t139.length : Int) : Int) := of_decide_eq_true (by first | (with_reducible assumption) | assumption); first | exact h_ | (have e_ := (rR HO141.out).1; omega) | simpa using h_) (seg := [.int .i64 t153, .int .i64 t154]) (j := 0) hcl57 hcc57 (show 2 ≤ 2 from by decide) (x' := (⟨t153, t154⟩ : S43)) (k43_mkM _ _ _ (⟨t153, t154⟩ : S43) ) (fun _ hk => hk)).1
         rw [← Ny155.out] at HP57
         have HQ57 := Aside0.mk HP57
         clear hcl57 hcc57 hfr57 hM57 HP57
         refine hK.out _ _ ⟨(bC BK151.out 0).trans rfl, (bC BK151.out 1).trans rfl, (bC BK151.out 2).trans rfl, (bC BK151.out 3).trans rfl, (bC BK151.out 4).trans rfl, HS5_, HS6_⟩ (fun hHeld => ?_)
         clear hK K
         refine norm_ (a' := ?_) ?_ ?_
         rotate_left
         ·show Act.put _ (some 50) _ = _
          simp only [Act.put, List.setIfInBounds_toArray, List.set_cons_zero, List.set_cons_succ, i64_w, i32_w]
          rfl
         refine pure_ (i := 11) (N := some 51) (v := ?_) (a' := ?_) #[true, true, true, true, true, true, true, true, true, true, true, true, false] rfl rfl (any_of HT_.out (by kernel_rfl)) (fun _ _ _ h => h) (Or.inl ⟨by rfl, ?_⟩) ?_ ?_
         rotate_left
         ·intro w'
          go_simp
          with_reducible rfl
         rotate_left
         ·simp only [Act.put, List.setIfInBounds_toArray, List.set_cons_zero, List.set_cons_succ, i64_w, i32_w]
          rfl
         refine last_ (i := 12) (N := none) #[true, true, true, true, true, true, true, true, true, true, true, true, true] rfl rfl (one_of HT_.out (by kernel_rfl)) (by decide) (fun K hK => ?_)
         refine skip_ (w1 := ?_) (by rfl) rfl ?_ ?_
         rotate_left
         ·go_simp
          rfl
         refine hK.out _ _ ?_
         clear hK K
         refine done_ (done_of HT_.out (by kernel_rfl)) ?_
         have n0_ : Aside0 (Kd.R k43 43 ((w56.setCell ⟨go38, (a2 : Int).toNat * 2, none⟩ (.int .i64 t153)).setCell ⟨go38, (a2 : Int).toNat * 2 + 1, none⟩ (.int .i64 t154)) w.heap.size (fun k_ => some k_ ≠ (.slice (some ⟨go38, 0, none⟩) t139.length co50 : Value).ownBlock) (.slice Ao46 t136.length co46) t136) := ⟨by (with_reducible repeat (first | apply rA | apply rN | apply rD)); exact rM (rF (p := ⟨go38, (a2 : Int).toNat * 2 + 1, none⟩) (rF (p := ⟨go38, (a2 : Int).toNat * 2, none⟩) (rM HO138.out (fun k_ hk => (⟨hk, fun e_ => hk (by rw [e_]; rfl)⟩ : _ ∧ k_ ≠ go38))) (fun _ hk => hk.2) (.int .i64 t153)) (fun _ hk => hk.2) (.int .i64 t154)) (fun _ hk => hk.1)⟩
         have n1_ : Aside0 (Kd.R k43 43 ((w56.setCell ⟨go38, (a2 : Int).toNat * 2, none⟩ (.int .i64 t153)).setCell ⟨go38, (a2 : Int).toNat * 2 + 1, none⟩ (.int .i64 t154)) w.heap.size (fun k_ => some k_ ≠ (.slice Ao46 t136.length co46 : Value).ownBlock) (.slice (some ⟨go38, 0, none⟩) t139.length co50) y155) := ⟨by (with_reducible repeat (first | apply rA | apply rN | apply rD)); exact HQ57.out⟩
         have n2_ : Aside0 (Kd.R Kd.bool 4 ((w56.setCell ⟨go38, (a2 : Int).toNat * 2, none⟩ (.int .i64 t153)).setCell ⟨go38, (a2 : Int).toNat * 2 + 1, none⟩ (.int .i64 t154)) w.heap.size (fun k_ => some k_ ≠ (.slice Ao52 t145.length co52 : Value).ownBlock) (.slice Ao51 t142.length co51) t142) := ⟨by (with_reducible repeat (first | apply rA | apply rN | apply rD)); exact rM (rF (p := ⟨go38, (a2 : Int).toNat * 2 + 1, none⟩) (rF (p := ⟨go38, (a2 : Int).toNat * 2, none⟩) (rT HO144.out GG38.out (by decide)) (fun _ hk => hk.2) (.int .i64 t153)) (fun _ hk => hk.2) (.int .i64 t154)) (fun _ hk => hk.1)⟩
         have n3_ : Aside0 (Kd.R Kd.bool 4 ((w56.setCell ⟨go38, (a2 : Int).toNat * 2, none⟩ (.int .i64 t153)).setCell ⟨go38, (a2 : Int).toNat * 2 + 1, none⟩ (.int .i64 t154)) w.heap.size (fun k_ => some k_ ≠ (.slice Ao51 t142.length co51 : Value).ownBlock) (.slice Ao52 t145.length co52) t145) := ⟨by (with_reducible repeat (first | apply rA | apply rN | apply rD)); exact rM (rF (p := ⟨go38, (a2 : Int).toNat * 2 + 1, none⟩) (rF (p := ⟨go38, (a2 : Int).toNat * 2, none⟩) (rT HO147.out GG38.out (by decide)) (fun _ hk => hk.2) (.int .i64 t153)) (fun _ hk => hk.2) (.int .i64 t154)) (fun _ hk => hk.1)⟩
         have n4_ : Aside0 (Kd.R (Kd.int .i64) 3 ((w56.setCell ⟨go38, (a2 : Int).toNat * 2, none⟩ (.int .i64 t153)).setCell ⟨go38, (a2 : Int).toNat * 2 + 1, none⟩ (.int .i64 t154)) w.heap.size (fun _ => True) (.slice Ao53 t148.length co53) t148) := ⟨by (with_reducible repeat (first | apply rA | apply rN | apply rD)); exact rM (rF (p := ⟨go38, (a2 : Int).toNat * 2 + 1, none⟩) (rF (p := ⟨go38, (a2 : Int).toNat * 2, none⟩) (rT HO150.out GG38.out (by decide)) (fun _ hk => hk.2) (.int .i64 t153)) (fun _ hk => hk.2) (.int .i64 t154)) (fun _ hk => trivial)⟩
         have n5_ : Aside0 (((w56.setCell ⟨go38, (a2 : Int).toNat * 2, none⟩ (.int .i64 t153)).setCell ⟨go38, (a2 : Int).toNat * 2 + 1, none⟩ (.int .i64 t154)).heap[gb132]? = some (.cells #[.slice A0_0 l0_0.length c0_0, .slice A0_1 l0_1.length c0_1, .slice A0_2 l0_2.length c0_2, .slice A0_3 l0_3.length c0_3, .slice A0_4 l0_4.length c0_4] 30 (0, 0))) := ⟨by (with_reducible repeat (first | refine bN ?_ _ | refine bD ?_ | refine bA ?_ _)); refine bR ?_ (by have h_ := Kd.R_ne HO141.out BK132.out (by decide); intro e_; exact h_ (by rw [e_]; rfl)) _; (with_reducible repeat (first | refine bN ?_ _ | refine bD ?_ | refine bA ?_ _)); refine bR ?_ (by have h_ := Kd.R_ne HO141.out BK132.out (by decide); intro e_; exact h_ (by rw [e_]; rfl)) _; (with_reducible repeat (first | refine bN ?_ _ | refine bD ?_ | refine bA ?_ _)); exact BK132.out⟩
         have n6_ : Aside0 (((w56.setCell ⟨go38, (a2 : Int).toNat * 2, none⟩ (.int .i64 t153)).setCell ⟨go38, (a2 : Int).toNat * 2 + 1, none⟩ (.int .i64 t154)).heap[gb133]? = some (.cells #[.slice none 0 0, .slice none 0 0, .slice none 0 0, .slice none 0 0, .slice none 0 0] 30 (0, 0))) := ⟨by (with_reducible repeat (first | refine bN ?_ _ | refine bD ?_ | refine bA ?_ _)); refine bR ?_ (by have h_ := Kd.R_ne HO141.out BK133.out (by decide); intro e_; exact h_ (by rw [e_]; rfl)) _; (with_reducible repeat (first | refine bN ?_ _ | refine bD ?_ | refine bA ?_ _)); refine bR ?_ (by have h_ := Kd.R_ne HO141.out BK133.out (by decide); intro e_; exact h_ (by rw [e_]; rfl)) _; (with_reducible repeat (first | refine bN ?_ _ | refine bD ?_ | refine bA ?_ _)); exact BK133.out⟩
         have n7_ : Aside0 (((w56.setCell ⟨go38, (a2 : Int).toNat * 2, none⟩ (.int .i64 t153)).setCell ⟨go38, (a2 : Int).toNat * 2 + 1, none⟩ (.int .i64 t154)).heap[gb151]? = some (.cells #[.slice Ao46 t136.length co46, .slice (some ⟨go38, 0, none⟩) t139.length co50, .slice Ao51 t142.length co51, .slice Ao52 t145.length co52, .slice Ao53 t148.length co53] 30 (0, 0))) := ⟨by (with_reducible repeat (first | refine bN ?_ _ | refine bD ?_ | refine bA ?_ _)); refine bR ?_ (by have h_ := Kd.R_ne HO141.out BK151.out (by decide); intro e_; exact h_ (by rw [e_]; rfl)) _; (with_reducible repeat (first | refine bN ?_ _ | refine bD ?_ | refine bA ?_ _)); refine bR ?_ (by have h_ := Kd.R_ne HO141.out BK151.out (by decide); intro e_; exact h_ (by rw [e_]; rfl)) _; (with_reducible repeat (first | refine bN ?_ _ | refine bD ?_ | refine bA ?_ _)); exact BK151.out⟩
         have n8_ : Aside0 (Below w.heap.size w ((w56.setCell ⟨go38, (a2 : Int).toNat * 2, none⟩ (.int .i64 t153)).setCell ⟨go38, (a2 : Int).toNat * 2 + 1, none⟩ (.int .i64 t154))) := ⟨by with_reducible repeat first | exact HB.out | apply lN | apply lD | refine lS ?_ GB38.out | refine lS ?_ GB38.out | refine lS ?_ GE132.out | refine lS ?_ GE133.out | refine lS ?_ GE151.out⟩
         (try clear HO138)
         (try clear HO141)
         (try clear HO144)
         (try clear HO147)
         (try clear HO150)
         (try clear BK132)
         (try clear BK133)
         (try clear BK151)
         (try clear HB)
         generalize ((w56.setCell ⟨go38, (a2 : Int).toNat * 2, none⟩ (.int .i64 t153)).setCell ⟨go38, (a2 : Int).toNat * 2 + 1, none⟩ (.int .i64 t154)) = w58 at n0_ n1_ n2_ n3_ n4_ n5_ n6_ n7_ n8_ ⊢
         have HO138 := n0_
         have HO141 := n1_
         have HO144 := n2_
         have HO147 := n3_
         have HO150 := n4_
         have BK132 := n5_
         have BK133 := n6_
         have BK151 := n7_
         have HB := n8_
         clear n0_ n1_ n2_ n3_ n4_ n5_ n6_ n7_ n8_
         have hcz59_0 : w58.cell? ⟨gb151, 0, none⟩ = some (.slice Ao46 t136.length co46) := (bC BK151.out 0).trans rfl
         have hcz59_1 : w58.cell? ⟨gb151, 1, none⟩ = some (.slice (some ⟨go38, 0, none⟩) t139.length co50) := (bC BK151.out 1).trans rfl
         have hcz59_2 : w58.cell? ⟨gb151, 2, none⟩ = some (.slice Ao51 t142.length co51) := (bC BK151.out 2).trans rfl
         have hcz59_3 : w58.cell? ⟨gb151, 3, none⟩ = some (.slice Ao52 t145.length co52) := (bC BK151.out 3).trans rfl
         have hcz59_4 : w58.cell? ⟨gb151, 4, none⟩ = some (.slice Ao53 t148.length co53) := (bC BK151.out 4).trans rfl
         have hfz59_0 := bF BK151.out 0
         have hfz59_1 := bF BK151.out 1
         have hfz59_2 := bF BK151.out 2
         have hfz59_3 := bF BK151.out 3
         have hfz59_4 := bF BK151.out 4
         have p41 : 0 ≤ (a2 : Int) := of_decide_eq_true (by first | (with_reducible assumption) | assumption)
         have q41 : (a2 : Int) < ((t142.length : Int) : Int) := of_decide_eq_true (by first | (with_reducible assumption) | assumption)
         obtain ⟨go41, co41, eo41, gb41, gl41, cl41, HG41⟩ := Kd.R_form HO144.out (by omega)
         (first | cases eo41 | (injection eo41 with ea_ en_ ec_; (first | subst ea_ | (injection ea_ with ea_; subst ea_)); subst ec_; clear en_))
         have GB41 := Aside0.mk gb41
         have GG41 := Aside0.mk HG41
         clear gb41 gl41 HG41
         obtain ⟨hx41_0, hf41_0⟩ := Kd.R_celln false HO144.out (a2 : Int) p41 q41
         replace p41 := eq_true p41
         replace q41 := eq_true q41
         obtain ⟨hy60_, hz60_⟩ := Kd.R_celln false HO144.out (a2 : Int) (of_decide_eq_true (by first | (with_reducible assumption) | assumption)) (of_decide_eq_true (by first | (with_reducible assumption) | assumption))
         have HP60 := Kd.R_putg HO144.out (a2 : Int) true
         try go_wp2_with (first | ((with_reducible refine gate_store (t := 4) (p := 57) rfl ?_); refine store_event (t := 4) (p := 57) (v := ?vo_w61) (w1 := (w58.setCell ⟨go41, (a2 : Int).toNat, none⟩ (.bool true))) ?hg ?ho ?hn ?hr ?_; (case ho => rfl); (case hg => rfl); (case hn => rfl); (case hr => first | (go_simp; done) | (go_simp; rfl)); intro w61 hw; have hg : w58.grownBy w61 (some go41) := (by rw [hw]; exact HP60.2); have hp_ : Kd.R Kd.bool 4 w61 w.heap.size (fun k_ => some k_ ≠ (.slice Ao52 t145.length co52 : Value).ownBlock) (.slice (some ⟨go41, 0, none⟩) t142.length co51) y156 := (by rw [hw, Ny156.out]; exact HP60.1); clear HP60; replace BK132 := Aside0.mk (bG BK132.out hg (Kd.R_ne HO144.out BK132.out (by decide))); replace BK133 := Aside0.mk (bG BK133.out hg (Kd.R_ne HO144.out BK133.out (by decide))); replace HO138 := Aside0.mk (Kd.R_over' (v := (.slice (some ⟨go41, 0, none⟩) t142.length co51)) HO138.out (Kd.R_typed HO144.out) (by decide) hg); replace HO141 := Aside0.mk (Kd.R_over' (v := (.slice (some ⟨go41, 0, none⟩) t142.length co51)) HO141.out (Kd.R_typed HO144.out) (by decide) hg); replace HO147 := Aside0.mk (Kd.R_after (v := (.slice (some ⟨go41, 0, none⟩) t142.length co51)) (v1 := (.slice (some ⟨go41, 0, none⟩) t142.length co51)) (ok := (fun _ => True)) (by (with_reducible repeat (first | apply rA | apply rN | apply rD)); exact rM HO147.out (fun _ hk => ⟨trivial, hk⟩)) hg (.inl rfl)); replace HO150 := Aside0.mk (Kd.R_over' (v := (.slice (some ⟨go41, 0, none⟩) t142.length co51)) HO150.out (Kd.R_typed HO144.out) (by decide) hg); replace BK151 := Aside0.mk (bG BK151.out hg (Kd.R_ne HO144.out BK151.out (by decide))); replace HO144 := Aside0.mk (hp_); replace HB := Aside0.mk ((by rw [hw]; exact lS (HB.out) GB41.out : Below w.heap.size w w61)); clear hg hw hp_; have hcz62_0 : w61.cell? ⟨gb151, 0, none⟩ = some (.slice Ao46 t136.length co46) := (bC BK151.out 0).trans rfl; have hcz62_1 : w61.cell? ⟨gb151, 1, none⟩ = some (.slice (some ⟨go38, 0, none⟩) t139.length co50) := (bC BK151.out 1).trans rfl; have hcz62_2 : w61.cell? ⟨gb151, 2, none⟩ = some (.slice (some ⟨go41, 0, none⟩) t142.length co51) := (bC BK151.out 2).trans rfl; have hcz62_3 : w61.cell? ⟨gb151, 3, none⟩ = some (.slice Ao52 t145.length co52) := (bC BK151.out 3).trans rfl; have hcz62_4 : w61.cell? ⟨gb151, 4, none⟩ = some (.slice Ao53 t148.length co53) := (bC BK151.out 4).trans rfl; have hfz62_0 := bF BK151.out 0; have hfz62_1 := bF BK151.out 1; have hfz62_2 := bF BK151.out 2; have hfz62_3 := bF BK151.out 3; have hfz62_4 := bF BK151.out 4; have hcz63_0 : w61.cell? ⟨gb133, 0, none⟩ = some (.slice none 0 0) := (bC BK133.out 0).trans rfl; have hcz63_1 : w61.cell? ⟨gb133, 1, none⟩ = some (.slice none 0 0) := (bC BK133.out 1).trans rfl; have hcz63_2 : w61.cell? ⟨gb133, 2, none⟩ = some (.slice none 0 0) := (bC BK133.out 2).trans rfl; have hcz63_3 : w61.cell? ⟨gb133, 3, none⟩ = some (.slice none 0 0) := (bC BK133.out 3).trans rfl; have hcz63_4 : w61.cell? ⟨gb133, 4, none⟩ = some (.slice none 0 0) := (bC BK133.out 4).trans rfl; have hfz63_0 := bF BK133.out 0; have hfz63_1 := bF BK133.out 1; have hfz63_2 := bF BK133.out 2; have hfz63_3 := bF BK133.out 3; have hfz63_4 := bF BK133.out 4))
         refine bodyPost_ret (results_ct rfl _ _ gb133 30 #[.slice Ao46 t136.length co46, .slice (some ⟨go38, 0, none⟩) t139.length co50, .slice (some ⟨go41, 0, none⟩) t142.length co51, .slice Ao52 t145.length co52, .slice Ao53 t148.length co53] (0, 0) _ rfl (by (with_reducible repeat (first | refine bN ?_ _ | refine bD ?_ | refine bA ?_ _)); refine bP (cs := #[.slice Ao46 t136.length co46, .slice (some ⟨go38, 0, none⟩) t139.length co50, .slice (some ⟨go41, 0, none⟩) t142.length co51, .slice Ao52 t145.length co52, .slice none 0 0]) ?_ 4 _ rfl; (with_reducible repeat (first | refine bN ?_ _ | refine bD ?_ | refine bA ?_ _)); refine bP (cs := #[.slice Ao46 t136.length co46, .slice (some ⟨go38, 0, none⟩) t139.length co50, .slice (some ⟨go41, 0, none⟩) t142.length co51, .slice none 0 0, .slice none 0 0]) ?_ 3 _ rfl; (with_reducible repeat (first | refine bN ?_ _ | refine bD ?_ | refine bA ?_ _)); refine bP (cs := #[.slice Ao46 t136.length co46, .slice (some ⟨go38, 0, none⟩) t139.length co50, .slice none 0 0, .slice none 0 0, .slice none 0 0]) ?_ 2 _ rfl; (with_reducible repeat (first | refine bN ?_ _ | refine bD ?_ | refine bA ?_ _)); refine bP (cs := #[.slice Ao46 t136.length co46, .slice none 0 0, .slice none 0 0, .slice none 0 0, .slice none 0 0]) ?_ 1 _ rfl; (with_reducible repeat (first | refine bN ?_ _ | refine bD ?_ | refine bA ?_ _)); refine bP (cs := #[.slice none 0 0, .slice none 0 0, .slice none 0 0, .slice none 0 0, .slice none 0 0]) ?_ 0 _ rfl; (with_reducible repeat (first | refine bN ?_ _ | refine bD ?_ | refine bA ?_ _)); exact BK133.out) Try.underlying30 rfl (by kernel_rfl)) rfl ?_
         exact ⟨_, _, _, _, _, by first | rfl | (simp [errW_none, errW_some] <;> rfl) | (simp [*, errW_none, errW_some] <;> rfl), by (with_reducible repeat (first | apply rA | apply rN | apply rD)); exact rM (rF (p := ⟨gb133, 4, none⟩) (rF (p := ⟨gb133, 3, none⟩) (rF (p := ⟨gb133, 2, none⟩) (rF (p := ⟨gb133, 1, none⟩) (rF (p := ⟨gb133, 0, none⟩) (rT HO138.out BK133.out (by decide)) (fun _ hk => hk.2) (.slice Ao46 t136.length co46)) (fun _ hk => hk.2) (.slice (some ⟨go38, 0, none⟩) t139.length co50)) (fun _ hk => hk.2) (.slice (some ⟨go41, 0, none⟩) t142.length co51)) (fun _ hk => hk.2) (.slice Ao52 t145.length co52)) (fun _ hk => hk.2) (.slice Ao53 t148.length co53)) (fun _ hk => hk.1), by (with_reducible repeat (first | apply rA | apply rN | apply rD)); exact rM (rF (p := ⟨gb133, 4, none⟩) (rF (p := ⟨gb133, 3, none⟩) (rF (p := ⟨gb133, 2, none⟩) (rF (p := ⟨gb133, 1, none⟩) (rF (p := ⟨gb133, 0, none⟩) (rT HO141.out BK133.out (by decide)) (fun _ hk => hk.2) (.slice Ao46 t136.length co46)) (fun _ hk => hk.2) (.slice (some ⟨go38, 0, none⟩) t139.length co50)) (fun _ hk => hk.2) (.slice (some ⟨go41, 0, none⟩) t142.length co51)) (fun _ hk => hk.2) (.slice Ao52 t145.length co52)) (fun _ hk => hk.2) (.slice Ao53 t148.length co53)) (fun _ hk => hk.1), by (with_reducible repeat (first | apply rA | apply rN | apply rD)); exact rM (rF (p := ⟨gb133, 4, none⟩) (rF (p := ⟨gb133, 3, none⟩) (rF (p := ⟨gb133, 2, none⟩) (rF (p := ⟨gb133, 1, none⟩) (rF (p := ⟨gb133, 0, none⟩) (rT HO144.out BK133.out (by decide)) (fun _ hk => hk.2) (.slice Ao46 t136.length co46)) (fun _ hk => hk.2) (.slice (some ⟨go38, 0, none⟩) t139.length co50)) (fun _ hk => hk.2) (.slice (some ⟨go41, 0, none⟩) t142.length co51)) (fun _ hk => hk.2) (.slice Ao52 t145.length co52)) (fun _ hk => hk.2) (.slice Ao53 t148.length co53)) (fun _ hk => hk.1), by (with_reducible repeat (first | apply rA | apply rN | apply rD)); exact rM (rF (p := ⟨gb133, 4, none⟩) (rF (p := ⟨gb133, 3, none⟩) (rF (p := ⟨gb133, 2, none⟩) (rF (p := ⟨gb133, 1, none⟩) (rF (p := ⟨gb133, 0, none⟩) (rT HO147.out BK133.out (by decide)) (fun _ hk => hk.2) (.slice Ao46 t136.length co46)) (fun _ hk => hk.2) (.slice (some ⟨go38, 0, none⟩) t139.length co50)) (fun _ hk => hk.2) (.slice (some ⟨go41, 0, none⟩) t142.length co51)) (fun _ hk => hk.2) (.slice Ao52 t145.length co52)) (fun _ hk => hk.2) (.slice Ao53 t148.length co53)) (fun _ hk => hk.1.2), by (with_reducible repeat (first | apply rA | apply rN | apply rD)); exact rM (rF (p := ⟨gb133, 4, none⟩) (rF (p := ⟨gb133, 3, none⟩) (rF (p := ⟨gb133, 2, none⟩) (rF (p := ⟨gb133, 1, none⟩) (rF (p := ⟨gb133, 0, none⟩) (rT HO150.out BK133.out (by decide)) (fun _ hk => hk.2) (.slice Ao46 t136.length co46)) (fun _ hk => hk.2) (.slice (some ⟨go38, 0, none⟩) t139.length co50)) (fun _ hk => hk.2) (.slice (some ⟨go41, 0, none⟩) t142.length co51)) (fun _ hk => hk.2) (.slice Ao52 t145.length co52)) (fun _ hk => hk.2) (.slice Ao53 t148.length co53)) (fun _ hk => trivial), by with_reducible repeat first | exact HB.out | apply lN | apply lD | refine lS ?_ GE132.out | refine lS ?_ GE133.out | refine lS ?_ GE151.out⟩
        ·rw [if_neg c40] at H
         exact absurd H (by simp)
       ·rw [if_neg c39] at H
        have c39b0 : (a1 == 0) = false := beq_eq_false_iff_ne.mpr c39
        have c39b1 : (a1 != 0) = true := bne_iff_ne.mpr c39
        by_cases c64 : a2 < (t145.length : Int)
        ·rw [if_pos c64] at H
         have c64b0 : decide (a2 < (t145.length : Int)) = true := decide_eq_true c64
         clear c64
         obtain ⟨y157, hy157⟩ : ∃ y_ : List Bool, y_ = (t145.set (a2 : Int).toNat true) := ⟨_, rfl⟩
         replace H : (some (t136, y155, t142, y157, t148, 0)) = some (r1, r2, r3, r4, r5, r6) := by first | (rw [hy157]; with_reducible exact H) | (have H2_ := (Option.bind_some _ _).symm.trans H; rw [hy157]; with_reducible exact H2_) | (have H2_ := (Option.bind_some _ _).symm.trans H; with_reducible exact H2_) | with_reducible exact H | (rw [hy157]; exact H) | exact H
         have Ny157 := Aside0.mk hy157
         clear hy157
         simp only [Option.some.injEq, Prod.mk.injEq] at H
         obtain ⟨rfl, rfl, rfl, rfl, rfl, rfl⟩ := H
         try go_wp2_with (first | ((with_reducible refine gate_callee (f := 15) rfl ?_); refine goesL_ (some 35) rfl rfl Try.func15 (by kernel_rfl) rfl #[.int .i64 a3] rfl (by (try simp only [List.map_toArray, List.map_cons, List.map_nil]); first | done | rfl | (simp only [List.length_drop, List.length_take]; rfl)) ?_; (with_reducible refine (serifref01_Fix.calls a3 true _ A32.out).mono ?_); rintro e w' ⟨rfl, ⟨nd, rfl⟩⟩; refine ⟨_, rfl, ?_⟩; (try (rw [drewN_self wc]; generalize hq_ : World.drewN wc _ = wc; have n0_ : Aside0 (wc.heap[gb132]? = some (.cells #[.slice A0_0 l0_0.length c0_0, .slice A0_1 l0_1.length c0_1, .slice A0_2 l0_2.length c0_2, .slice A0_3 l0_3.length c0_3, .slice A0_4 l0_4.length c0_4] 30 (0, 0))) := ⟨by rw [← hq_]; exact (by (with_reducible repeat (first | refine bN ?_ _ | refine bD ?_ | refine bA ?_ _)); exact BK132.out)⟩; have n1_ : Aside0 (wc.heap[gb133]? = some (.cells #[.slice none 0 0, .slice none 0 0, .slice none 0 0, .slice none 0 0, .slice none 0 0] 30 (0, 0))) := ⟨by rw [← hq_]; exact (by (with_reducible repeat (first | refine bN ?_ _ | refine bD ?_ | refine bA ?_ _)); exact BK133.out)⟩; have n2_ : Aside0 (Below w.heap.size w wc) := ⟨by rw [← hq_]; exact (by with_reducible repeat first | exact HB.out | apply lN | apply lD | refine lS ?_ GE132.out | refine lS ?_ GE133.out)⟩; clear BK132 BK133 HB hq_; have BK132 := n0_; have BK133 := n1_; have HB := n2_; clear n0_ n1_ n2_)); have hnb66 := NB132_133.out; have hnc66 := NB133_132.out; have hcz67_0 : wc.cell? ⟨gb132, 0, none⟩ = some (.slice A0_0 l0_0.length c0_0) := (bC BK132.out 0).trans rfl; have hcz67_1 : wc.cell? ⟨gb132, 1, none⟩ = some (.slice A0_1 l0_1.length c0_1) := (bC BK132.out 1).trans rfl; have hcz67_2 : wc.cell? ⟨gb132, 2, none⟩ = some (.slice A0_2 l0_2.length c0_2) := (bC BK132.out 2).trans rfl; have hcz67_3 : wc.cell? ⟨gb132, 3, none⟩ = some (.slice A0_3 l0_3.length c0_3) := (bC BK132.out 3).trans rfl; have hcz67_4 : wc.cell? ⟨gb132, 4, none⟩ = some (.slice A0_4 l0_4.length c0_4) := (bC BK132.out 4).trans rfl; have hfz67_0 := bF BK132.out 0; have hfz67_1 := bF BK132.out 1; have hfz67_2 := bF BK132.out 2; have hfz67_3 := bF BK132.out 3; have hfz67_4 := bF BK132.out 4) | ((with_reducible refine gate_callee (f := 16) rfl ?_); refine goesL_ (some 39) rfl rfl Try.func16 (by kernel_rfl) rfl #[.agg #[.slice A0_0 l0_0.length c0_0, .slice A0_1 l0_1.length c0_1, .slice A0_2 l0_2.length c0_2, .slice A0_3 l0_3.length c0_3, .slice A0_4 l0_4.length c0_4]] rfl (by (try simp only [List.map_toArray, List.map_cons, List.map_nil]); first | done | rfl | (simp only [List.length_drop, List.length_take]; rfl)) ?_; (with_reducible refine (serifref09_Copy.calls _ _ l0_0 _ _ l0_1 _ _ l0_2 _ _ l0_3 _ _ l0_4 t136 t139 t142 t145 t148 _ ?side1 ?side2 ?side3 ?side4 ?side5 ?side6 ?side7 ?side8 ?side9 ?side10 A34.out).mono ?_); (case side1 => repeat (first | exact (Kd.C_below HR0_0.out HB.out) | (with_reducible refine cA ?_ _) | (with_reducible refine cN ?_ _) | (with_reducible refine cD ?_))); (case side2 => exact HC0_0.out); (case side3 => repeat (first | exact (Kd.C_below HR0_1.out HB.out) | (with_reducible refine cA ?_ _) | (with_reducible refine cN ?_ _) | (with_reducible refine cD ?_))); (case side4 => exact HC0_1.out); (case side5 => repeat (first | exact (Kd.C_below HR0_2.out HB.out) | (with_reducible refine cA ?_ _) | (with_reducible refine cN ?_ _) | (with_reducible refine cD ?_))); (case side6 => exact HC0_2.out); (case side7 => repeat (first | exact (Kd.C_below HR0_3.out HB.out) | (with_reducible refine cA ?_ _) | (with_reducible refine cN ?_ _) | (with_reducible refine cD ?_))); (case side8 => exact HC0_3.out); (case side9 => repeat (first | exact (Kd.C_below HR0_4.out HB.out) | (with_reducible refine cA ?_ _) | (with_reducible refine cN ?_ _) | (with_reducible refine cD ?_))); (case side10 => exact HC0_4.out); rintro e w68 ⟨v137, v140, v143, v146, v149, rfl, ho0, ho1, ho2, ho3, ho4, hb⟩; refine ⟨_, rfl, ?_⟩; have HO138 := Aside0.mk (Kd.R_lower ho0 (lZ (by with_reducible repeat first | exact HB.out | apply lN | apply lD | refine lS ?_ GE132.out | refine lS ?_ GE133.out))); have HO141 := Aside0.mk (Kd.R_lower ho1 (lZ (by with_reducible repeat first | exact HB.out | apply lN | apply lD | refine lS ?_ GE132.out | refine lS ?_ GE133.out))); have HO144 := Aside0.mk (Kd.R_lower ho2 (lZ (by with_reducible repeat first | exact HB.out | apply lN | apply lD | refine lS ?_ GE132.out | refine lS ?_ GE133.out))); have HO147 := Aside0.mk (Kd.R_lower ho3 (lZ (by with_reducible repeat first | exact HB.out | apply lN | apply lD | refine lS ?_ GE132.out | refine lS ?_ GE133.out))); have HO150 := Aside0.mk (Kd.R_lower ho4 (lZ (by with_reducible repeat first | exact HB.out | apply lN | apply lD | refine lS ?_ GE132.out | refine lS ?_ GE133.out))); replace BK132 := Aside0.mk (bB BK132.out hb); replace BK133 := Aside0.mk (bB BK133.out hb); replace HB := Aside0.mk (lT (by with_reducible repeat first | exact HB.out | refine lS ?_ GE132.out | refine lS ?_ GE133.out) hb); (try clear hb); (try clear hb2); (try clear hk); (try clear hi); (try clear ho0); (try clear ho1); (try clear ho2); (try clear ho3); (try clear ho4)) | ((with_reducible refine gate_dst (N := 10) rfl ?_); (try (refine gate_guard (by rfl) ?_; dsimp only)); refine box_event ?hg (N := 10) ?hd (cs := #[.slice none 0 0, .slice none 0 0, .slice none 0 0, .slice none 0 0, .slice none 0 0]) (t := 30) ?hr ?_; (case hd => rfl); (case hg => rfl); (case hr => first | (go_simp; done) | (go_simp; rfl)); intro gb151 hg w69 hbox hb; have BK151 := Aside0.mk (hbox); have GW151 := Aside0.mk ((by rw [hg]; exact (lZ (by with_reducible repeat first | exact HB.out | apply lN | apply lD | refine lS ?_ GE132.out | refine lS ?_ GE133.out)) : w.heap.size ≤ gb151)); have GE151 := Aside0.mk ((by rw [hg]; exact (lZ (by with_reducible repeat first | exact HB.out | apply lN | apply lD | refine lS ?_ GE132.out | refine lS ?_ GE133.out)) : w.heap.size ≤ gb151)); have NB132_151 := Aside0.mk ((by rw [hg]; exact Nat.ne_of_lt (blk_lt BK132.out) : gb132 ≠ gb151)); have NB151_132 := Aside0.mk ((by rw [hg]; exact Nat.ne_of_gt (blk_lt BK132.out) : gb151 ≠ gb132)); have NB133_151 := Aside0.mk ((by rw [hg]; exact Nat.ne_of_lt (blk_lt BK133.out) : gb133 ≠ gb151)); have NB151_133 := Aside0.mk ((by rw [hg]; exact Nat.ne_of_gt (blk_lt BK133.out) : gb151 ≠ gb133)); replace HO138 := Aside0.mk (rB HO138.out hb); replace HO141 := Aside0.mk (rB HO141.out hb); replace HO144 := Aside0.mk (rB HO144.out hb); replace HO147 := Aside0.mk (rB HO147.out hb); replace HO150 := Aside0.mk (rB HO150.out hb); replace BK132 := Aside0.mk (bB BK132.out hb); replace BK133 := Aside0.mk (bB BK133.out hb); replace HB := Aside0.mk (lT (by with_reducible repeat first | exact HB.out | refine lS ?_ GE132.out | refine lS ?_ GE133.out) hb); clear hb hbox hg; obtain ⟨Ao70, co70, eo70⟩ := Kd.R_slice HO138.out; subst eo70; have hnb71 := NB151_132.out; have hnc71 := NB132_151.out; have hnb72 := NB151_133.out; have hnc72 := NB133_151.out; have hcz73_0 : w69.cell? ⟨gb151, 0, none⟩ = some (.slice none 0 0) := (bC BK151.out 0).trans rfl; have hcz73_1 : w69.cell? ⟨gb151, 1, none⟩ = some (.slice none 0 0) := (bC BK151.out 1).trans rfl; have hcz73_2 : w69.cell? ⟨gb151, 2, none⟩ = some (.slice none 0 0) := (bC BK151.out 2).trans rfl; have hcz73_3 : w69.cell? ⟨gb151, 3, none⟩ = some (.slice none 0 0) := (bC BK151.out 3).trans rfl; have hcz73_4 : w69.cell? ⟨gb151, 4, none⟩ = some (.slice none 0 0) := (bC BK151.out 4).trans rfl; have hfz73_0 := bF BK151.out 0; have hfz73_1 := bF BK151.out 1; have hfz73_2 := bF BK151.out 2; have hfz73_3 := bF BK151.out 3; have hfz73_4 := bF BK151.out 4; obtain ⟨Ao74, co74, eo74⟩ := Kd.R_slice HO141.out; subst eo74; obtain ⟨Ao75, co75, eo75⟩ := Kd.R_slice HO144.out; subst eo75; obtain ⟨Ao76, co76, eo76⟩ := Kd.R_slice HO147.out; subst eo76; obtain ⟨Ao77, co77, eo77⟩ := Kd.R_slice HO150.out; subst eo77))
         have n0_ : Aside0 (Kd.R k43 43 (((((w69.setCell ⟨gb151, 0, none⟩ (.slice Ao70 t136.length co70)).setCell ⟨gb151, 1, none⟩ (.slice Ao74 t139.length co74)).setCell ⟨gb151, 2, none⟩ (.slice Ao75 t142.length co75)).setCell ⟨gb151, 3, none⟩ (.slice Ao76 t145.length co76)).setCell ⟨gb151, 4, none⟩ (.slice Ao77 t148.length co77)) w.heap.size (fun k_ => some k_ ≠ (.slice Ao74 t139.length co74 : Value).ownBlock) (.slice Ao70 t136.length co70) t136) := ⟨by (with_reducible repeat (first | apply rA | apply rN | apply rD)); exact rM (rF (p := ⟨gb151, 4, none⟩) (rF (p := ⟨gb151, 3, none⟩) (rF (p := ⟨gb151, 2, none⟩) (rF (p := ⟨gb151, 1, none⟩) (rF (p := ⟨gb151, 0, none⟩) (rT HO138.out BK151.out (by decide)) (fun _ hk => hk.2) (.slice Ao70 t136.length co70)) (fun _ hk => hk.2) (.slice Ao74 t139.length co74)) (fun _ hk => hk.2) (.slice Ao75 t142.length co75)) (fun _ hk => hk.2) (.slice Ao76 t145.length co76)) (fun _ hk => hk.2) (.slice Ao77 t148.length co77)) (fun _ hk => hk.1)⟩
         have n1_ : Aside0 (Kd.R k43 43 (((((w69.setCell ⟨gb151, 0, none⟩ (.slice Ao70 t136.length co70)).setCell ⟨gb151, 1, none⟩ (.slice Ao74 t139.length co74)).setCell ⟨gb151, 2, none⟩ (.slice Ao75 t142.length co75)).setCell ⟨gb151, 3, none⟩ (.slice Ao76 t145.length co76)).setCell ⟨gb151, 4, none⟩ (.slice Ao77 t148.length co77)) w.heap.size (fun k_ => some k_ ≠ (.slice Ao70 t136.length co70 : Value).ownBlock) (.slice Ao74 t139.length co74) t139) := ⟨by (with_reducible repeat (first | apply rA | apply rN | apply rD)); exact rM (rF (p := ⟨gb151, 4, none⟩) (rF (p := ⟨gb151, 3, none⟩) (rF (p := ⟨gb151, 2, none⟩) (rF (p := ⟨gb151, 1, none⟩) (rF (p := ⟨gb151, 0, none⟩) (rT HO141.out BK151.out (by decide)) (fun _ hk => hk.2) (.slice Ao70 t136.length co70)) (fun _ hk => hk.2) (.slice Ao74 t139.length co74)) (fun _ hk => hk.2) (.slice Ao75 t142.length co75)) (fun _ hk => hk.2) (.slice Ao76 t145.length co76)) (fun _ hk => hk.2) (.slice Ao77 t148.length co77)) (fun _ hk => hk.1)⟩
         have n2_ : Aside0 (Kd.R Kd.bool 4 (((((w69.setCell ⟨gb151, 0, none⟩ (.slice Ao70 t136.length co70)).setCell ⟨gb151, 1, none⟩ (.slice Ao74 t139.length co74)).setCell ⟨gb151, 2, none⟩ (.slice Ao75 t142.length co75)).setCell ⟨gb151, 3, none⟩ (.slice Ao76 t145.length co76)).setCell ⟨gb151, 4, none⟩ (.slice Ao77 t148.length co77)) w.heap.size (fun k_ => some k_ ≠ (.slice Ao76 t145.length co76 : Value).ownBlock) (.slice Ao75 t142.length co75) t142) := ⟨by (with_reducible repeat (first | apply rA | apply rN | apply rD)); exact rM (rF (p := ⟨gb151, 4, none⟩) (rF (p := ⟨gb151, 3, none⟩) (rF (p := ⟨gb151, 2, none⟩) (rF (p := ⟨gb151, 1, none⟩) (rF (p := ⟨gb151, 0, none⟩) (rT HO144.out BK151.out (by decide)) (fun _ hk => hk.2) (.slice Ao70 t136.length co70)) (fun _ hk => hk.2) (.slice Ao74 t139.length co74)) (fun _ hk => hk.2) (.slice Ao75 t142.length co75)) (fun _ hk => hk.2) (.slice Ao76 t145.length co76)) (fun _ hk => hk.2) (.slice Ao77 t148.length co77)) (fun _ hk => hk.1)⟩
         have n3_ : Aside0 (Kd.R Kd.bool 4 (((((w69.setCell ⟨gb151, 0, none⟩ (.slice Ao70 t136.length co70)).setCell ⟨gb151, 1, none⟩ (.slice Ao74 t139.length co74)).setCell ⟨gb151, 2, none⟩ (.slice Ao75 t142.length co75)).setCell ⟨gb151, 3, none⟩ (.slice Ao76 t145.length co76)).setCell ⟨gb151, 4, none⟩ (.slice Ao77 t148.length co77)) w.heap.size (fun k_ => some k_ ≠ (.slice Ao75 t142.length co75 : Value).ownBlock) (.slice Ao76 t145.length co76) t145) := ⟨by (with_reducible repeat (first | apply rA | apply rN | apply rD)); exact rM (rF (p := ⟨gb151, 4, none⟩) (rF (p := ⟨gb151, 3, none⟩) (rF (p := ⟨gb151, 2, none⟩) (rF (p := ⟨gb151, 1, none⟩) (rF (p := ⟨gb151, 0, none⟩) (rT HO147.out BK151.out (by decide)) (fun _ hk => hk.2) (.slice Ao70 t136.length co70)) (fun _ hk => hk.2) (.slice Ao74 t139.length co74)) (fun _ hk => hk.2) (.slice Ao75 t142.length co75)) (fun _ hk => hk.2) (.slice Ao76 t145.length co76)) (fun _ hk => hk.2) (.slice Ao77 t148.length co77)) (fun _ hk => hk.1)⟩
         have n4_ : Aside0 (Kd.R (Kd.int .i64) 3 (((((w69.setCell ⟨gb151, 0, none⟩ (.slice Ao70 t136.length co70)).setCell ⟨gb151, 1, none⟩ (.slice Ao74 t139.length co74)).setCell ⟨gb151, 2, none⟩ (.slice Ao75 t142.length co75)).setCell ⟨gb151, 3, none⟩ (.slice Ao76 t145.length co76)).setCell ⟨gb151, 4, none⟩ (.slice Ao77 t148.length co77)) w.heap.size (fun _ => True) (.slice Ao77 t148.length co77) t148) := ⟨by (with_reducible repeat (first | apply rA | apply rN | apply rD)); exact rM (rF (p := ⟨gb151, 4, none⟩) (rF (p := ⟨gb151, 3, none⟩) (rF (p := ⟨gb151, 2, none⟩) (rF (p := ⟨gb151, 1, none⟩) (rF (p := ⟨gb151, 0, none⟩) (rT HO150.out BK151.out (by decide)) (fun _ hk => hk.2) (.slice Ao70 t136.length co70)) (fun _ hk => hk.2) (.slice Ao74 t139.length co74)) (fun _ hk => hk.2) (.slice Ao75 t142.length co75)) (fun _ hk => hk.2) (.slice Ao76 t145.length co76)) (fun _ hk => hk.2) (.slice Ao77 t148.length co77)) (fun _ hk => trivial)⟩
         have n5_ : Aside0 ((((((w69.setCell ⟨gb151, 0, none⟩ (.slice Ao70 t136.length co70)).setCell ⟨gb151, 1, none⟩ (.slice Ao74 t139.length co74)).setCell ⟨gb151, 2, none⟩ (.slice Ao75 t142.length co75)).setCell ⟨gb151, 3, none⟩ (.slice Ao76 t145.length co76)).setCell ⟨gb151, 4, none⟩ (.slice Ao77 t148.length co77)).heap[gb132]? = some (.cells #[.slice A0_0 l0_0.length c0_0, .slice A0_1 l0_1.length c0_1, .slice A0_2 l0_2.length c0_2, .slice A0_3 l0_3.length c0_3, .slice A0_4 l0_4.length c0_4] 30 (0, 0))) := ⟨by (with_reducible repeat (first | refine bN ?_ _ | refine bD ?_ | refine bA ?_ _)); refine bR ?_ NB132_151.out _; (with_reducible repeat (first | refine bN ?_ _ | refine bD ?_ | refine bA ?_ _)); refine bR ?_ NB132_151.out _; (with_reducible repeat (first | refine bN ?_ _ | refine bD ?_ | refine bA ?_ _)); refine bR ?_ NB132_151.out _; (with_reducible repeat (first | refine bN ?_ _ | refine bD ?_ | refine bA ?_ _)); refine bR ?_ NB132_151.out _; (with_reducible repeat (first | refine bN ?_ _ | refine bD ?_ | refine bA ?_ _)); refine bR ?_ NB132_151.out _; (with_reducible repeat (first | refine bN ?_ _ | refine bD ?_ | refine bA ?_ _)); exact BK132.out⟩
         have n6_ : Aside0 ((((((w69.setCell ⟨gb151, 0, none⟩ (.slice Ao70 t136.length co70)).setCell ⟨gb151, 1, none⟩ (.slice Ao74 t139.length co74)).setCell ⟨gb151, 2, none⟩ (.slice Ao75 t142.length co75)).setCell ⟨gb151, 3, none⟩ (.slice Ao76 t145.length co76)).setCell ⟨gb151, 4, none⟩ (.slice Ao77 t148.length co77)).heap[gb133]? = some (.cells #[.slice none 0 0, .slice none 0 0, .slice none 0 0, .slice none 0 0, .slice none 0 0] 30 (0, 0))) := ⟨by (with_reducible repeat (first | refine bN ?_ _ | refine bD ?_ | refine bA ?_ _)); refine bR ?_ NB133_151.out _; (with_reducible repeat (first | refine bN ?_ _ | refine bD ?_ | refine bA ?_ _)); refine bR ?_ NB133_151.out _; (with_reducible repeat (first | refine bN ?_ _ | refine bD ?_ | refine bA ?_ _)); refine bR ?_ NB133_151.out _; (with_reducible repeat (first | refine bN ?_ _ | refine bD ?_ | refine bA ?_ _)); refine bR ?_ NB133_151.out _; (with_reducible repeat (first | refine bN ?_ _ | refine bD ?_ | refine bA ?_ _)); refine bR ?_ NB133_151.out _; (with_reducible repeat (first | refine bN ?_ _ | refine bD ?_ | refine bA ?_ _)); exact BK133.out⟩
         have n7_ : Aside0 ((((((w69.setCell ⟨gb151, 0, none⟩ (.slice Ao70 t136.length co70)).setCell ⟨gb151, 1, none⟩ (.slice Ao74 t139.length co74)).setCell ⟨gb151, 2, none⟩ (.slice Ao75 t142.length co75)).setCell ⟨gb151, 3, none⟩ (.slice Ao76 t145.length co76)).setCell ⟨gb151, 4, none⟩ (.slice Ao77 t148.length co77)).heap[gb151]? = some (.cells #[.slice Ao70 t136.length co70, .slice Ao74 t139.length co74, .slice Ao75 t142.length co75, .slice Ao76 t145.length co76, .slice Ao77 t148.length co77] 30 (0, 0))) := ⟨by (with_reducible repeat (first | refine bN ?_ _ | refine bD ?_ | refine bA ?_ _)); refine bP (cs := #[.slice Ao70 t136.length co70, .slice Ao74 t139.length co74, .slice Ao75 t142.length co75, .slice Ao76 t145.length co76, .slice none 0 0]) ?_ 4 _ rfl; (with_reducible repeat (first | refine bN ?_ _ | refine bD ?_ | refine bA ?_ _)); refine bP (cs := #[.slice Ao70 t136.length co70, .slice Ao74 t139.length co74, .slice Ao75 t142.length co75, .slice none 0 0, .slice none 0 0]) ?_ 3 _ rfl; (with_reducible repeat (first | refine bN ?_ _ | refine bD ?_ | refine bA ?_ _)); refine bP (cs := #[.slice Ao70 t136.length co70, .slice Ao74 t139.length co74, .slice none 0 0, .slice none 0 0, .slice none 0 0]) ?_ 2 _ rfl; (with_reducible repeat (first | refine bN ?_ _ | refine bD ?_ | refine bA ?_ _)); refine bP (cs := #[.slice Ao70 t136.length co70, .slice none 0 0, .slice none 0 0, .slice none 0 0, .slice none 0 0]) ?_ 1 _ rfl; (with_reducible repeat (first | refine bN ?_ _ | refine bD ?_ | refine bA ?_ _)); refine bP (cs := #[.slice none 0 0, .slice none 0 0, .slice none 0 0, .slice none 0 0, .slice none 0 0]) ?_ 0 _ rfl; (with_reducible repeat (first | refine bN ?_ _ | refine bD ?_ | refine bA ?_ _)); exact BK151.out⟩
         have n8_ : Aside0 (Below w.heap.size w (((((w69.setCell ⟨gb151, 0, none⟩ (.slice Ao70 t136.length co70)).setCell ⟨gb151, 1, none⟩ (.slice Ao74 t139.length co74)).setCell ⟨gb151, 2, none⟩ (.slice Ao75 t142.length co75)).setCell ⟨gb151, 3, none⟩ (.slice Ao76 t145.length co76)).setCell ⟨gb151, 4, none⟩ (.slice Ao77 t148.length co77))) := ⟨by with_reducible repeat first | exact HB.out | apply lN | apply lD | refine lS ?_ GE132.out | refine lS ?_ GE133.out | refine lS ?_ GE151.out⟩
         (try clear HO138)
         (try clear HO141)
         (try clear HO144)
         (try clear HO147)
         (try clear HO150)
         (try clear BK132)
         (try clear BK133)
         (try clear BK151)
         (try clear HB)
         generalize (((((w69.setCell ⟨gb151, 0, none⟩ (.slice Ao70 t136.length co70)).setCell ⟨gb151, 1, none⟩ (.slice Ao74 t139.length co74)).setCell ⟨gb151, 2, none⟩ (.slice Ao75 t142.length co75)).setCell ⟨gb151, 3, none⟩ (.slice Ao76 t145.length co76)).setCell ⟨gb151, 4, none⟩ (.slice Ao77 t148.length co77)) = w78 at n0_ n1_ n2_ n3_ n4_ n5_ n6_ n7_ n8_ ⊢
         have HO138 := n0_
         have HO141 := n1_
         have HO144 := n2_
         have HO147 := n3_
         have HO150 := n4_
         have BK132 := n5_
         have BK133 := n6_
         have BK151 := n7_
         have HB := n8_
         clear n0_ n1_ n2_ n3_ n4_ n5_ n6_ n7_ n8_
         replace HO138 := Aside0.mk (rD HO138.out)
         replace HO141 := Aside0.mk (rD HO141.out)
         replace HO144 := Aside0.mk (rD HO144.out)
         replace HO147 := Aside0.mk (rD HO147.out)
         replace HO150 := Aside0.mk (rD HO150.out)
         replace BK132 := Aside0.mk (bD BK132.out)
         replace BK133 := Aside0.mk (bD BK133.out)
         replace BK151 := Aside0.mk (bD BK151.out)
         replace HB := Aside0.mk (lD HB.out)
         have p152 : 0 ≤ (a2 : Int) := of_decide_eq_true (by first | (with_reducible assumption) | assumption)
         have q152 : a2 < (t139.length : Int) := of_decide_eq_true (by first | (with_reducible assumption) | assumption)
         obtain ⟨ad152, e152, hx152_0, hx152_1⟩ := at_T43 (rR HO141.out).2.2 a2 p152 q152
         cases e152
         replace p152 := eq_true p152
         replace q152 := eq_true q152
         refine start_ (n := 13) (S := fun w' => w'.cell? ⟨gb151, 0, none⟩ = some (.slice Ao70 t136.length co70) ∧ w'.cell? ⟨gb151, 1, none⟩ = some (.slice (some ad152) t139.length co74) ∧ w'.cell? ⟨gb151, 2, none⟩ = some (.slice Ao75 t142.length co75) ∧ w'.cell? ⟨gb151, 3, none⟩ = some (.slice Ao76 t145.length co76) ∧ w'.cell? ⟨gb151, 4, none⟩ = some (.slice Ao77 t148.length co77) ∧ w'.cell? (ad152.add ((a2).toNat * 2)) = some (.int .i64 ((rd_T43 t139 a2).f0)) ∧ w'.cell? ⟨(ad152.add ((a2).toNat * 2)).block, (ad152.add ((a2).toNat * 2)).off + 1, none⟩ = some (.int .i64 ((rd_T43 t139 a2).f1))) (ds := [12]) #[false, false, false, false, false, false, false, false, false, false, false, false, false] (by kernel_rfl) rfl rfl ⟨(bC BK151.out 0).trans rfl, (bC BK151.out 1).trans rfl, (bC BK151.out 2).trans rfl, (bC BK151.out 3).trans rfl, (bC BK151.out 4).trans rfl, hx152_0, hx152_1⟩ (fun hHeld => ?_); refine with_tabW serifref09_Put.tab6 serifref09_Put.bits6 (fun HT_ HW_ => ?_)
         generalize w78.drew = w79 at HO138 HO141 HO144 HO147 HO150 BK132 BK133 BK151 HB hx152_0 hx152_1 hHeld ⊢
         refine pure_ (i := 0) (N := some 40) (v := ?_) (a' := ?_) #[true, false, false, false, false, false, false, false, false, false, false, false, false] rfl rfl (any_of HT_.out (by kernel_rfl)) (fun _ _ _ h => h) (Or.inl ⟨by rfl, ?_⟩) ?_ ?_
         rotate_left
         ·intro w'
          go_simp
          with_reducible rfl
         rotate_left
         ·simp only [Act.put, List.setIfInBounds_toArray, List.set_cons_zero, List.set_cons_succ, i64_w, i32_w]
          rfl
         refine pure_ (i := 2) (N := some 42) (v := ?_) (a' := ?_) #[true, false, true, false, false, false, false, false, false, false, false, false, false] rfl rfl (any_of HT_.out (by kernel_rfl)) (fun _ _ _ h => h) (Or.inl ⟨by rfl, ?_⟩) ?_ ?_
         rotate_left
         ·intro w'
          go_simp
          with_reducible rfl
         rotate_left
         ·simp only [Act.put, List.setIfInBounds_toArray, List.set_cons_zero, List.set_cons_succ, i64_w, i32_w]
          rfl
         refine pure_ (i := 3) (N := some 43) (v := ?_) (a' := ?_) #[true, false, true, true, false, false, false, false, false, false, false, false, false] rfl rfl (any_of HT_.out (by kernel_rfl)) (fun _ _ _ h => h) (Or.inl ⟨by rfl, ?_⟩) ?_ ?_
         rotate_left
         ·intro w'
          go_simp
          with_reducible rfl
         rotate_left
         ·simp only [Act.put, List.setIfInBounds_toArray, List.set_cons_zero, List.set_cons_succ, i64_w, i32_w]
          rfl
         refine pure_ (i := 5) (N := some 45) (v := ?_) (a' := ?_) #[true, false, true, true, false, true, false, false, false, false, false, false, false] rfl rfl (any_of HT_.out (by kernel_rfl)) (fun _ _ _ h => h) (Or.inl ⟨by rfl, ?_⟩) ?_ ?_
         rotate_left
         ·intro w'
          go_simp
          with_reducible rfl
         rotate_left
         ·simp only [Act.put, List.setIfInBounds_toArray, List.set_cons_zero, List.set_cons_succ, i64_w, i32_w]
          rfl
         refine pure_ (i := 8) (N := some 48) (v := ?_) (a' := ?_) #[true, false, true, true, false, true, false, false, true, false, false, false, false] rfl rfl (any_of HT_.out (by kernel_rfl)) (fun _ _ _ h => h) (Or.inl ⟨by rfl, ?_⟩) ?_ ?_
         rotate_left
         ·intro w'
          go_simp
          with_reducible rfl
         rotate_left
         ·simp only [Act.put, List.setIfInBounds_toArray, List.set_cons_zero, List.set_cons_succ, i64_w, i32_w]
          rfl
         refine pure_ (i := 9) (N := some 49) (v := ?_) (a' := ?_) #[true, false, true, true, false, true, false, false, true, true, false, false, false] rfl rfl (any_of HT_.out (by kernel_rfl)) (fun _ _ _ h => h) (Or.inl ⟨by rfl, ?_⟩) ?_ ?_
         rotate_left
         ·intro w'
          go_simp
          with_reducible rfl
         rotate_left
         ·simp only [Act.put, List.setIfInBounds_toArray, List.set_cons_zero, List.set_cons_succ, i64_w, i32_w]
          rfl
         refine take_ (i := 1) (N := some 41) (v := ?_) (a' := ?_) #[true, true, true, true, false, true, false, false, true, true, false, false, false] rfl rfl (take_ofW HT_.out HW_.out (by kernel_rfl)) (fun _ _ _ h => h) (Or.inl ⟨by rfl, ?_⟩) hHeld ?_ ?_
         rotate_left
         ·rintro w' ⟨s0, s1, s2, s3, s4, s5, s6⟩
          go_simp
          with_reducible rfl
         rotate_left
         ·simp only [Act.put, List.setIfInBounds_toArray, List.set_cons_zero, List.set_cons_succ, i64_w, i32_w]
          rfl
         refine take_ (i := 4) (N := some 44) (v := ?_) (a' := ?_) #[true, true, true, true, true, true, false, false, true, true, false, false, false] rfl rfl (take_ofW HT_.out HW_.out (by kernel_rfl)) (fun _ _ _ h => h) (Or.inl ⟨by rfl, ?_⟩) hHeld ?_ ?_
         rotate_left
         ·rintro w' ⟨s0, s1, s2, s3, s4, s5, s6⟩
          go_simp
          with_reducible rfl
         rotate_left
         ·simp only [Act.put, List.setIfInBounds_toArray, List.set_cons_zero, List.set_cons_succ, i64_w, i32_w]
          rfl
         refine pure_ (i := 6) (N := some 46) (v := ?_) (a' := ?_) #[true, true, true, true, true, true, true, false, true, true, false, false, false] rfl rfl (any_of HT_.out (by kernel_rfl)) (fun _ _ _ h => h) (Or.inl ⟨by rfl, ?_⟩) ?_ ?_
         rotate_left
         ·intro w'
          go_simp
          with_reducible rfl
         rotate_left
         ·simp only [Act.put, List.setIfInBounds_toArray, List.set_cons_zero, List.set_cons_succ, i64_w, i32_w]
          rfl
         refine take_ (i := 7) (N := some 47) (v := ?_) (a' := ?_) #[true, true, true, true, true, true, true, true, true, true, false, false, false] rfl rfl (take_ofW HT_.out HW_.out (by kernel_rfl)) (fun _ _ _ h => h) (Or.inl ⟨by rfl, ?_⟩) hHeld ?_ ?_
         rotate_left
         ·rintro w' ⟨s0, s1, s2, s3, s4, s5, s6⟩
          go_simp
          with_reducible rfl
         rotate_left
         ·simp only [Act.put, List.setIfInBounds_toArray, List.set_cons_zero, List.set_cons_succ, i64_w, i32_w]
          rfl
         refine one_ (i := 10) (N := some 50) #[true, true, true, true, true, true, true, true, true, true, true, false, false] rfl rfl (one_of HT_.out (by kernel_rfl)) (by decide) (fun K hK => ?_)
         refine goes_ Try.func41 (by kernel_rfl) rfl #[.agg #[.int .i64 ((rd_T43 t139 a2).f0), .int .i64 ((rd_T43 t139 a2).f1)], .int .i64 a1, .int .i64 a3] (by rfl) rfl rfl (by (try simp only [List.map_toArray, List.map_cons, List.map_nil]); first | done | rfl | (simp only [List.length_drop, List.length_take]; rfl)) ?_
         with_reducible refine (serifref09_Set.calls ((rd_T43 t139 a2).f0) ((rd_T43 t139 a2).f1) a1 a3 t153 t154 _ A37.out).mono ?_
         rintro e w80 ⟨rfl, hb⟩
         have HS5_ := (hb.cell (World.block_lt_of_cell? _ _ (hHeld.2.2.2.2.2.1))).trans (hHeld.2.2.2.2.2.1)
         have HS6_ := (hb.cell (World.block_lt_of_cell? _ _ (hHeld.2.2.2.2.2.2))).trans (hHeld.2.2.2.2.2.2)
         refine ⟨_, rfl, ?_⟩
         replace HO138 := Aside0.mk (rB HO138.out hb)
         replace HO141 := Aside0.mk (rB HO141.out hb)
         replace HO144 := Aside0.mk (rB HO144.out hb)
         replace HO147 := Aside0.mk (rB HO147.out hb)
         replace HO150 := Aside0.mk (rB HO150.out hb)
         replace BK132 := Aside0.mk (bB BK132.out hb)
         replace BK133 := Aside0.mk (bB BK133.out hb)
         replace BK151 := Aside0.mk (bB BK151.out hb)
         replace HB := Aside0.mk (lT (by with_reducible repeat first | exact HB.out | refine lS ?_ GE132.out | refine lS ?_ GE133.out | refine lS ?_ GE151.out) hb)
         (try clear hb)
         (try clear hb2)
         (try clear hk)
         (try clear hi)
         have p38 : 0 ≤ (a2 : Int) := of_decide_eq_true (by first | (with_reducible assumption) | assumption)
         have q38 : (a2 : Int) < ((t139.length : Int) : Int) := of_decide_eq_true (by first | (with_reducible assumption) | assumption)
         obtain ⟨go38, co38, eo38, gb38, gl38, cl38, HG38⟩ := Kd.R_form HO141.out (by omega)
         (first | cases eo38 | (injection eo38 with ea_ en_ ec_; (first | subst ea_ | (injection ea_ with ea_; subst ea_)); subst ec_; clear en_))
         have GB38 := Aside0.mk gb38
         have GG38 := Aside0.mk HG38
         clear gb38 gl38 HG38
         (first | simp only [add_plain] at hx152_0 | skip)
         (first | simp only [add_plain] at hx152_1 | skip)
         obtain ⟨ce38, hcl38, hM38, hcc38, hfr38⟩ := Kd.R_elem HO141.out z43 (a2 : Int) p38 q38
         obtain rfl := k43_openM hM38
         have hx38_0 : World.cell? _ ⟨go38, (a2 : Int).toNat * 2, none⟩ = some (.int .i64 ((rd_T43 t139 a2).f0)) := hcc38 0 _ rfl
         have hx38_1 : World.cell? _ ⟨go38, (a2 : Int).toNat * 2 + 1, none⟩ = some (.int .i64 ((rd_T43 t139 a2).f1)) := hcc38 1 _ rfl
         have hf38_0 : World.frozen? _ ⟨go38, (a2 : Int).toNat * 2, none⟩ = false := hfr38 0
         have hf38_1 : World.frozen? _ ⟨go38, (a2 : Int).toNat * 2 + 1, none⟩ = false := hfr38 1
         clear hcl38 hcc38 hfr38 hM38
         replace p38 := eq_true p38
         replace q38 := eq_true q38
         obtain ⟨ce81, hcl81, hM81, hcc81, hfr81⟩ := Kd.R_elem HO141.out z43 (a2 : Int) (of_decide_eq_true (by first | (with_reducible assumption) | assumption)) (by have h_ : (a2 : Int) < ((t139.length : Int) : Int) := of_decide_eq_true (by first | (with_reducible assumption) | assumption); first | exact h_ | (have e_ := (rR HO141.out).1; omega) | simpa using h_)
         obtain rfl := k43_openM hM81
         have HP81 := (Kd.R_seg HO141.out (a2 : Int) (of_decide_eq_true (by first | (with_reducible assumption) | assumption)) (by have h_ : (a2 : Int) < ((t139.length : Int) : Int) := of_decide_eq_true (by first | (with_reducible assumption) | assumption); first | exact h_ | (have e_ := (rR HO141.out).1; omega) | simpa using h_) (seg := [.int .i64 t153, .int .i64 t154]) (j := 0) hcl81 hcc81 (show 2 ≤ 2 from by decide) (x' := (⟨t153, t154⟩ : S43)) (k43_mkM _ _ _ (⟨t153, t154⟩ : S43) ) (fun _ hk => hk)).1
         rw [← Ny155.out] at HP81
         have HQ81 := Aside0.mk HP81
         clear hcl81 hcc81 hfr81 hM81 HP81
         refine hK.out _ _ ⟨(bC BK151.out 0).trans rfl, (bC BK151.out 1).trans rfl, (bC BK151.out 2).trans rfl, (bC BK151.out 3).trans rfl, (bC BK151.out 4).trans rfl, HS5_, HS6_⟩ (fun hHeld => ?_)
         clear hK K
         refine norm_ (a' := ?_) ?_ ?_
         rotate_left
         ·show Act.put _ (some 50) _ = _
          simp only [Act.put, List.setIfInBounds_toArray, List.set_cons_zero, List.set_cons_succ, i64_w, i32_w]
          rfl
         refine pure_ (i := 11) (N := some 51) (v := ?_) (a' := ?_) #[true, true, true, true, true, true, true, true, true, true, true, true, false] rfl rfl (any_of HT_.out (by kernel_rfl)) (fun _ _ _ h => h) (Or.inl ⟨by rfl, ?_⟩) ?_ ?_
         rotate_left
         ·intro w'
          go_simp
          with_reducible rfl
         rotate_left
         ·simp only [Act.put, List.setIfInBounds_toArray, List.set_cons_zero, List.set_cons_succ, i64_w, i32_w]
          rfl
         refine last_ (i := 12) (N := none) #[true, true, true, true, true, true, true, true, true, true, true, true, true] rfl rfl (one_of HT_.out (by kernel_rfl)) (by decide) (fun K hK => ?_)
         refine skip_ (w1 := ?_) (by rfl) rfl ?_ ?_
         rotate_left
         ·go_simp
          rfl
         refine hK.out _ _ ?_
         clear hK K
         refine done_ (done_of HT_.out (by kernel_rfl)) ?_
         have n0_ : Aside0 (Kd.R k43 43 ((w80.setCell ⟨go38, (a2 : Int).toNat * 2, none⟩ (.int .i64 t153)).setCell ⟨go38, (a2 : Int).toNat * 2 + 1, none⟩ (.int .i64 t154)) w.heap.size (fun k_ => some k_ ≠ (.slice (some ⟨go38, 0, none⟩) t139.length co74 : Value).ownBlock) (.slice Ao70 t136.length co70) t136) := ⟨by (with_reducible repeat (first | apply rA | apply rN | apply rD)); exact rM (rF (p := ⟨go38, (a2 : Int).toNat * 2 + 1, none⟩) (rF (p := ⟨go38, (a2 : Int).toNat * 2, none⟩) (rM HO138.out (fun k_ hk => (⟨hk, fun e_ => hk (by rw [e_]; rfl)⟩ : _ ∧ k_ ≠ go38))) (fun _ hk => hk.2) (.int .i64 t153)) (fun _ hk => hk.2) (.int .i64 t154)) (fun _ hk => hk.1)⟩
         have n1_ : Aside0 (Kd.R k43 43 ((w80.setCell ⟨go38, (a2 : Int).toNat * 2, none⟩ (.int .i64 t153)).setCell ⟨go38, (a2 : Int).toNat * 2 + 1, none⟩ (.int .i64 t154)) w.heap.size (fun k_ => some k_ ≠ (.slice Ao70 t136.length co70 : Value).ownBlock) (.slice (some ⟨go38, 0, none⟩) t139.length co74) y155) := ⟨by (with_reducible repeat (first | apply rA | apply rN | apply rD)); exact HQ81.out⟩
         have n2_ : Aside0 (Kd.R Kd.bool 4 ((w80.setCell ⟨go38, (a2 : Int).toNat * 2, none⟩ (.int .i64 t153)).setCell ⟨go38, (a2 : Int).toNat * 2 + 1, none⟩ (.int .i64 t154)) w.heap.size (fun k_ => some k_ ≠ (.slice Ao76 t145.length co76 : Value).ownBlock) (.slice Ao75 t142.length co75) t142) := ⟨by (with_reducible repeat (first | apply rA | apply rN | apply rD)); exact rM (rF (p := ⟨go38, (a2 : Int).toNat * 2 + 1, none⟩) (rF (p := ⟨go38, (a2 : Int).toNat * 2, none⟩) (rT HO144.out GG38.out (by decide)) (fun _ hk => hk.2) (.int .i64 t153)) (fun _ hk => hk.2) (.int .i64 t154)) (fun _ hk => hk.1)⟩
         have n3_ : Aside0 (Kd.R Kd.bool 4 ((w80.setCell ⟨go38, (a2 : Int).toNat * 2, none⟩ (.int .i64 t153)).setCell ⟨go38, (a2 : Int).toNat * 2 + 1, none⟩ (.int .i64 t154)) w.heap.size (fun k_ => some k_ ≠ (.slice Ao75 t142.length co75 : Value).ownBlock) (.slice Ao76 t145.length co76) t145) := ⟨by (with_reducible repeat (first | apply rA | apply rN | apply rD)); exact rM (rF (p := ⟨go38, (a2 : Int).toNat * 2 + 1, none⟩) (rF (p := ⟨go38, (a2 : Int).toNat * 2, none⟩) (rT HO147.out GG38.out (by decide)) (fun _ hk => hk.2) (.int .i64 t153)) (fun _ hk => hk.2) (.int .i64 t154)) (fun _ hk => hk.1)⟩
         have n4_ : Aside0 (Kd.R (Kd.int .i64) 3 ((w80.setCell ⟨go38, (a2 : Int).toNat * 2, none⟩ (.int .i64 t153)).setCell ⟨go38, (a2 : Int).toNat * 2 + 1, none⟩ (.int .i64 t154)) w.heap.size (fun _ => True) (.slice Ao77 t148.length co77) t148) := ⟨by (with_reducible repeat (first | apply rA | apply rN | apply rD)); exact rM (rF (p := ⟨go38, (a2 : Int).toNat * 2 + 1, none⟩) (rF (p := ⟨go38, (a2 : Int).toNat * 2, none⟩) (rT HO150.out GG38.out (by decide)) (fun _ hk => hk.2) (.int .i64 t153)) (fun _ hk => hk.2) (.int .i64 t154)) (fun _ hk => trivial)⟩
         have n5_ : Aside0 (((w80.setCell ⟨go38, (a2 : Int).toNat * 2, none⟩ (.int .i64 t153)).setCell ⟨go38, (a2 : Int).toNat * 2 + 1, none⟩ (.int .i64 t154)).heap[gb132]? = some (.cells #[.slice A0_0 l0_0.length c0_0, .slice A0_1 l0_1.length c0_1, .slice A0_2 l0_2.length c0_2, .slice A0_3 l0_3.length c0_3, .slice A0_4 l0_4.length c0_4] 30 (0, 0))) := ⟨by (with_reducible repeat (first | refine bN ?_ _ | refine bD ?_ | refine bA ?_ _)); refine bR ?_ (by have h_ := Kd.R_ne HO141.out BK132.out (by decide); intro e_; exact h_ (by rw [e_]; rfl)) _; (with_reducible repeat (first | refine bN ?_ _ | refine bD ?_ | refine bA ?_ _)); refine bR ?_ (by have h_ := Kd.R_ne HO141.out BK132.out (by decide); intro e_; exact h_ (by rw [e_]; rfl)) _; (with_reducible repeat (first | refine bN ?_ _ | refine bD ?_ | refine bA ?_ _)); exact BK132.out⟩
         have n6_ : Aside0 (((w80.setCell ⟨go38, (a2 : Int).toNat * 2, none⟩ (.int .i64 t153)).setCell ⟨go38, (a2 : Int).toNat * 2 + 1, none⟩ (.int .i64 t154)).heap[gb133]? = some (.cells #[.slice none 0 0, .slice none 0 0, .slice none 0 0, .slice none 0 0, .slice none 0 0] 30 (0, 0))) := ⟨by (with_reducible repeat (first | refine bN ?_ _ | refine bD ?_ | refine bA ?_ _)); refine bR ?_ (by have h_ := Kd.R_ne HO141.out BK133.out (by decide); intro e_; exact h_ (by rw [e_]; rfl)) _; (with_reducible repeat (first | refine bN ?_ _ | refine bD ?_ | refine bA ?_ _)); refine bR ?_ (by have h_ := Kd.R_ne HO141.out BK133.out (by decide); intro e_; exact h_ (by rw [e_]; rfl)) _; (with_reducible repeat (first | refine bN ?_ _ | refine bD ?_ | refine bA ?_ _)); exact BK133.out⟩
         have n7_ : Aside0 (((w80.setCell ⟨go38, (a2 : Int).toNat * 2, none⟩ (.int .i64 t153)).setCell ⟨go38, (a2 : Int).toNat * 2 + 1, none⟩ (.int .i64 t154)).heap[gb151]? = some (.cells #[.slice Ao70 t136.length co70, .slice (some ⟨go38, 0, none⟩) t139.length co74, .slice Ao75 t142.length co75, .slice Ao76 t145.length co76, .slice Ao77 t148.length co77] 30 (0, 0))) := ⟨by (with_reducible repeat (first | refine bN ?_ _ | refine bD ?_ | refine bA ?_ _)); refine bR ?_ (by have h_ := Kd.R_ne HO141.out BK151.out (by decide); intro e_; exact h_ (by rw [e_]; rfl)) _; (with_reducible repeat (first | refine bN ?_ _ | refine bD ?_ | refine bA ?_ _)); refine bR ?_ (by have h_ := Kd.R_ne HO141.out BK151.out (by decide); intro e_; exact h_ (by rw [e_]; rfl)) _; (with_reducible repeat (first | refine bN ?_ _ | refine bD ?_ | refine bA ?_ _)); exact BK151.out⟩
         have n8_ : Aside0 (Below w.heap.size w ((w80.setCell ⟨go38, (a2 : Int).toNat * 2, none⟩ (.int .i64 t153)).setCell ⟨go38, (a2 : Int).toNat * 2 + 1, none⟩ (.int .i64 t154))) := ⟨by with_reducible repeat first | exact HB.out | apply lN | apply lD | refine lS ?_ GB38.out | refine lS ?_ GB38.out | refine lS ?_ GE132.out | refine lS ?_ GE133.out | refine lS ?_ GE151.out⟩
         (try clear HO138)
         (try clear HO141)
         (try clear HO144)
         (try clear HO147)
         (try clear HO150)
         (try clear BK132)
         (try clear BK133)
         (try clear BK151)
         (try clear HB)
         generalize ((w80.setCell ⟨go38, (a2 : Int).toNat * 2, none⟩ (.int .i64 t153)).setCell ⟨go38, (a2 : Int).toNat * 2 + 1, none⟩ (.int .i64 t154)) = w82 at n0_ n1_ n2_ n3_ n4_ n5_ n6_ n7_ n8_ ⊢
         have HO138 := n0_
         have HO141 := n1_
         have HO144 := n2_
         have HO147 := n3_
         have HO150 := n4_
         have BK132 := n5_
         have BK133 := n6_
         have BK151 := n7_
         have HB := n8_
         clear n0_ n1_ n2_ n3_ n4_ n5_ n6_ n7_ n8_
         have hcz83_0 : w82.cell? ⟨gb151, 0, none⟩ = some (.slice Ao70 t136.length co70) := (bC BK151.out 0).trans rfl
         have hcz83_1 : w82.cell? ⟨gb151, 1, none⟩ = some (.slice (some ⟨go38, 0, none⟩) t139.length co74) := (bC BK151.out 1).trans rfl
         have hcz83_2 : w82.cell? ⟨gb151, 2, none⟩ = some (.slice Ao75 t142.length co75) := (bC BK151.out 2).trans rfl
         have hcz83_3 : w82.cell? ⟨gb151, 3, none⟩ = some (.slice Ao76 t145.length co76) := (bC BK151.out 3).trans rfl
         have hcz83_4 : w82.cell? ⟨gb151, 4, none⟩ = some (.slice Ao77 t148.length co77) := (bC BK151.out 4).trans rfl
         have hfz83_0 := bF BK151.out 0
         have hfz83_1 := bF BK151.out 1
         have hfz83_2 := bF BK151.out 2
         have hfz83_3 := bF BK151.out 3
         have hfz83_4 := bF BK151.out 4
         have p65 : 0 ≤ (a2 : Int) := of_decide_eq_true (by first | (with_reducible assumption) | assumption)
         have q65 : (a2 : Int) < ((t145.length : Int) : Int) := of_decide_eq_true (by first | (with_reducible assumption) | assumption)
         obtain ⟨go65, co65, eo65, gb65, gl65, cl65, HG65⟩ := Kd.R_form HO147.out (by omega)
         (first | cases eo65 | (injection eo65 with ea_ en_ ec_; (first | subst ea_ | (injection ea_ with ea_; subst ea_)); subst ec_; clear en_))
         have GB65 := Aside0.mk gb65
         have GG65 := Aside0.mk HG65
         clear gb65 gl65 HG65
         obtain ⟨hx65_0, hf65_0⟩ := Kd.R_celln false HO147.out (a2 : Int) p65 q65
         replace p65 := eq_true p65
         replace q65 := eq_true q65
         obtain ⟨hy84_, hz84_⟩ := Kd.R_celln false HO147.out (a2 : Int) (of_decide_eq_true (by first | (with_reducible assumption) | assumption)) (of_decide_eq_true (by first | (with_reducible assumption) | assumption))
         have HP84 := Kd.R_putg HO147.out (a2 : Int) true
         try go_wp2_with (first | ((with_reducible refine gate_store (t := 4) (p := 61) rfl ?_); refine store_event (t := 4) (p := 61) (v := ?vo_w85) (w1 := (w82.setCell ⟨go65, (a2 : Int).toNat, none⟩ (.bool true))) ?hg ?ho ?hn ?hr ?_; (case ho => rfl); (case hg => rfl); (case hn => rfl); (case hr => first | (go_simp; done) | (go_simp; rfl)); intro w85 hw; have hg : w82.grownBy w85 (some go65) := (by rw [hw]; exact HP84.2); have hp_ : Kd.R Kd.bool 4 w85 w.heap.size (fun k_ => some k_ ≠ (.slice Ao75 t142.length co75 : Value).ownBlock) (.slice (some ⟨go65, 0, none⟩) t145.length co76) y157 := (by rw [hw, Ny157.out]; exact HP84.1); clear HP84; replace BK132 := Aside0.mk (bG BK132.out hg (Kd.R_ne HO147.out BK132.out (by decide))); replace BK133 := Aside0.mk (bG BK133.out hg (Kd.R_ne HO147.out BK133.out (by decide))); replace HO138 := Aside0.mk (Kd.R_over' (v := (.slice (some ⟨go65, 0, none⟩) t145.length co76)) HO138.out (Kd.R_typed HO147.out) (by decide) hg); replace HO141 := Aside0.mk (Kd.R_over' (v := (.slice (some ⟨go65, 0, none⟩) t145.length co76)) HO141.out (Kd.R_typed HO147.out) (by decide) hg); replace HO144 := Aside0.mk (Kd.R_after (v := (.slice (some ⟨go65, 0, none⟩) t145.length co76)) (v1 := (.slice (some ⟨go65, 0, none⟩) t145.length co76)) (ok := (fun _ => True)) (by (with_reducible repeat (first | apply rA | apply rN | apply rD)); exact rM HO144.out (fun _ hk => ⟨trivial, hk⟩)) hg (.inl rfl)); replace HO150 := Aside0.mk (Kd.R_over' (v := (.slice (some ⟨go65, 0, none⟩) t145.length co76)) HO150.out (Kd.R_typed HO147.out) (by decide) hg); replace BK151 := Aside0.mk (bG BK151.out hg (Kd.R_ne HO147.out BK151.out (by decide))); replace HO147 := Aside0.mk (hp_); replace HB := Aside0.mk ((by rw [hw]; exact lS (HB.out) GB65.out : Below w.heap.size w w85)); clear hg hw hp_; have hcz86_0 : w85.cell? ⟨gb151, 0, none⟩ = some (.slice Ao70 t136.length co70) := (bC BK151.out 0).trans rfl; have hcz86_1 : w85.cell? ⟨gb151, 1, none⟩ = some (.slice (some ⟨go38, 0, none⟩) t139.length co74) := (bC BK151.out 1).trans rfl; have hcz86_2 : w85.cell? ⟨gb151, 2, none⟩ = some (.slice Ao75 t142.length co75) := (bC BK151.out 2).trans rfl; have hcz86_3 : w85.cell? ⟨gb151, 3, none⟩ = some (.slice (some ⟨go65, 0, none⟩) t145.length co76) := (bC BK151.out 3).trans rfl; have hcz86_4 : w85.cell? ⟨gb151, 4, none⟩ = some (.slice Ao77 t148.length co77) := (bC BK151.out 4).trans rfl; have hfz86_0 := bF BK151.out 0; have hfz86_1 := bF BK151.out 1; have hfz86_2 := bF BK151.out 2; have hfz86_3 := bF BK151.out 3; have hfz86_4 := bF BK151.out 4; have hcz87_0 : w85.cell? ⟨gb133, 0, none⟩ = some (.slice none 0 0) := (bC BK133.out 0).trans rfl; have hcz87_1 : w85.cell? ⟨gb133, 1, none⟩ = some (.slice none 0 0) := (bC BK133.out 1).trans rfl; have hcz87_2 : w85.cell? ⟨gb133, 2, none⟩ = some (.slice none 0 0) := (bC BK133.out 2).trans rfl; have hcz87_3 : w85.cell? ⟨gb133, 3, none⟩ = some (.slice none 0 0) := (bC BK133.out 3).trans rfl; have hcz87_4 : w85.cell? ⟨gb133, 4, none⟩ = some (.slice none 0 0) := (bC BK133.out 4).trans rfl; have hfz87_0 := bF BK133.out 0; have hfz87_1 := bF BK133.out 1; have hfz87_2 := bF BK133.out 2; have hfz87_3 := bF BK133.out 3; have hfz87_4 := bF BK133.out 4))
         refine bodyPost_ret (results_ct rfl _ _ gb133 30 #[.slice Ao70 t136.length co70, .slice (some ⟨go38, 0, none⟩) t139.length co74, .slice Ao75 t142.length co75, .slice (some ⟨go65, 0, none⟩) t145.length co76, .slice Ao77 t148.length co77] (0, 0) _ rfl (by (with_reducible repeat (first | refine bN ?_ _ | refine bD ?_ | refine bA ?_ _)); refine bP (cs := #[.slice Ao70 t136.length co70, .slice (some ⟨go38, 0, none⟩) t139.length co74, .slice Ao75 t142.length co75, .slice (some ⟨go65, 0, none⟩) t145.length co76, .slice none 0 0]) ?_ 4 _ rfl; (with_reducible repeat (first | refine bN ?_ _ | refine bD ?_ | refine bA ?_ _)); refine bP (cs := #[.slice Ao70 t136.length co70, .slice (some ⟨go38, 0, none⟩) t139.length co74, .slice Ao75 t142.length co75, .slice none 0 0, .slice none 0 0]) ?_ 3 _ rfl; (with_reducible repeat (first | refine bN ?_ _ | refine bD ?_ | refine bA ?_ _)); refine bP (cs := #[.slice Ao70 t136.length co70, .slice (some ⟨go38, 0, none⟩) t139.length co74, .slice none 0 0, .slice none 0 0, .slice none 0 0]) ?_ 2 _ rfl; (with_reducible repeat (first | refine bN ?_ _ | refine bD ?_ | refine bA ?_ _)); refine bP (cs := #[.slice Ao70 t136.length co70, .slice none 0 0, .slice none 0 0, .slice none 0 0, .slice none 0 0]) ?_ 1 _ rfl; (with_reducible repeat (first | refine bN ?_ _ | refine bD ?_ | refine bA ?_ _)); refine bP (cs := #[.slice none 0 0, .slice none 0 0, .slice none 0 0, .slice none 0 0, .slice none 0 0]) ?_ 0 _ rfl; (with_reducible repeat (first | refine bN ?_ _ | refine bD ?_ | refine bA ?_ _)); exact BK133.out) Try.underlying30 rfl (by kernel_rfl)) rfl ?_
         exact ⟨_, _, _, _, _, by first | rfl | (simp [errW_none, errW_some] <;> rfl) | (simp [*, errW_none, errW_some] <;> rfl), by (with_reducible repeat (first | apply rA | apply rN | apply rD)); exact rM (rF (p := ⟨gb133, 4, none⟩) (rF (p := ⟨gb133, 3, none⟩) (rF (p := ⟨gb133, 2, none⟩) (rF (p := ⟨gb133, 1, none⟩) (rF (p := ⟨gb133, 0, none⟩) (rT HO138.out BK133.out (by decide)) (fun _ hk => hk.2) (.slice Ao70 t136.length co70)) (fun _ hk => hk.2) (.slice (some ⟨go38, 0, none⟩) t139.length co74)) (fun _ hk => hk.2) (.slice Ao75 t142.length co75)) (fun _ hk => hk.2) (.slice (some ⟨go65, 0, none⟩) t145.length co76)) (fun _ hk => hk.2) (.slice Ao77 t148.length co77)) (fun _ hk => hk.1), by (with_reducible repeat (first | apply rA | apply rN | apply rD)); exact rM (rF (p := ⟨gb133, 4, none⟩) (rF (p := ⟨gb133, 3, none⟩) (rF (p := ⟨gb133, 2, none⟩) (rF (p := ⟨gb133, 1, none⟩) (rF (p := ⟨gb133, 0, none⟩) (rT HO141.out BK133.out (by decide)) (fun _ hk => hk.2) (.slice Ao70 t136.length co70)) (fun _ hk => hk.2) (.slice (some ⟨go38, 0, none⟩) t139.length co74)) (fun _ hk => hk.2) (.slice Ao75 t142.length co75)) (fun _ hk => hk.2) (.slice (some ⟨go65, 0, none⟩) t145.length co76)) (fun _ hk => hk.2) (.slice Ao77 t148.length co77)) (fun _ hk => hk.1), by (with_reducible repeat (first | apply rA | apply rN | apply rD)); exact rM (rF (p := ⟨gb133, 4, none⟩) (rF (p := ⟨gb133, 3, none⟩) (rF (p := ⟨gb133, 2, none⟩) (rF (p := ⟨gb133, 1, none⟩) (rF (p := ⟨gb133, 0, none⟩) (rT HO144.out BK133.out (by decide)) (fun _ hk => hk.2) (.slice Ao70 t136.length co70)) (fun _ hk => hk.2) (.slice (some ⟨go38, 0, none⟩) t139.length co74)) (fun _ hk => hk.2) (.slice Ao75 t142.length co75)) (fun _ hk => hk.2) (.slice (some ⟨go65, 0, none⟩) t145.length co76)) (fun _ hk => hk.2) (.slice Ao77 t148.length co77)) (fun _ hk => hk.1.2), by (with_reducible repeat (first | apply rA | apply rN | apply rD)); exact rM (rF (p := ⟨gb133, 4, none⟩) (rF (p := ⟨gb133, 3, none⟩) (rF (p := ⟨gb133, 2, none⟩) (rF (p := ⟨gb133, 1, none⟩) (rF (p := ⟨gb133, 0, none⟩) (rT HO147.out BK133.out (by decide)) (fun _ hk => hk.2) (.slice Ao70 t136.length co70)) (fun _ hk => hk.2) (.slice (some ⟨go38, 0, none⟩) t139.length co74)) (fun _ hk => hk.2) (.slice Ao75 t142.length co75)) (fun _ hk => hk.2) (.slice (some ⟨go65, 0, none⟩) t145.length co76)) (fun _ hk => hk.2) (.slice Ao77 t148.length co77)) (fun _ hk => hk.1), by (with_reducible repeat (first | apply rA | apply rN | apply rD)); exact rM (rF (p := ⟨gb133, 4, none⟩) (rF (p := ⟨gb133, 3, none⟩) (rF (p := ⟨gb133, 2, none⟩) (rF (p := ⟨gb133, 1, none⟩) (rF (p := ⟨gb133, 0, none⟩) (rT HO150.out BK133.out (by decide)) (fun _ hk => hk.2) (.slice Ao70 t136.length co70)) (fun _ hk => hk.2) (.slice (some ⟨go38, 0, none⟩) t139.length co74)) (fun _ hk => hk.2) (.slice Ao75 t142.length co75)) (fun _ hk => hk.2) (.slice (some ⟨go65, 0, none⟩) t145.length co76)) (fun _ hk => hk.2) (.slice Ao77 t148.length co77)) (fun _ hk => trivial), by with_reducible repeat first | exact HB.out | apply lN | apply lD | refine lS ?_ GE132.out | refine lS ?_ GE133.out | refine lS ?_ GE151.out⟩
        ·rw [if_neg c64] at H
         exact absurd H (by simp)
      ·rw [if_neg c36] at H
       exact absurd H (by simp)
     ·rw [if_neg c35] at H
      exact absurd H (by simp)
    ·replace c33 := Bool.eq_false_iff.mpr c33
     subst c33
     have H1 : (some (([] : List (S43)), ([] : List (S43)), ([] : List Bool), ([] : List Bool), ([] : List Int), 94)) = some (r1, r2, r3, r4, r5, r6) := by rw [if_neg (show ¬ (false = true) by decide)] at H; exact H
     clear H
     have H := H1
     clear H1
     simp only [Option.some.injEq, Prod.mk.injEq] at H
     obtain ⟨rfl, rfl, rfl, rfl, rfl, rfl⟩ := H
     go_wp2_with (first | ((with_reducible refine gate_callee (f := 15) rfl ?_); refine goesL_ (some 35) rfl rfl Try.func15 (by kernel_rfl) rfl #[.int .i64 a3] rfl (by (try simp only [List.map_toArray, List.map_cons, List.map_nil]); first | done | rfl | (simp only [List.length_drop, List.length_take]; rfl)) ?_; (with_reducible refine (serifref01_Fix.calls a3 false _ A32.out).mono ?_); rintro e w' ⟨rfl, ⟨nd, rfl⟩⟩; refine ⟨_, rfl, ?_⟩; (try (rw [drewN_self wc]; generalize hq_ : World.drewN wc _ = wc; have n0_ : Aside0 (wc.heap[gb132]? = some (.cells #[.slice A0_0 l0_0.length c0_0, .slice A0_1 l0_1.length c0_1, .slice A0_2 l0_2.length c0_2, .slice A0_3 l0_3.length c0_3, .slice A0_4 l0_4.length c0_4] 30 (0, 0))) := ⟨by rw [← hq_]; exact (by (with_reducible repeat (first | refine bN ?_ _ | refine bD ?_ | refine bA ?_ _)); exact BK132.out)⟩; have n1_ : Aside0 (wc.heap[gb133]? = some (.cells #[.slice none 0 0, .slice none 0 0, .slice none 0 0, .slice none 0 0, .slice none 0 0] 30 (0, 0))) := ⟨by rw [← hq_]; exact (by (with_reducible repeat (first | refine bN ?_ _ | refine bD ?_ | refine bA ?_ _)); exact BK133.out)⟩; have n2_ : Aside0 (Below w.heap.size w wc) := ⟨by rw [← hq_]; exact (by with_reducible repeat first | exact HB.out | apply lN | apply lD | refine lS ?_ GE132.out | refine lS ?_ GE133.out)⟩; clear BK132 BK133 HB hq_; have BK132 := n0_; have BK133 := n1_; have HB := n2_; clear n0_ n1_ n2_)); have hnb88 := NB133_132.out; have hnc88 := NB132_133.out; have hcz89_0 : wc.cell? ⟨gb133, 0, none⟩ = some (.slice none 0 0) := (bC BK133.out 0).trans rfl; have hcz89_1 : wc.cell? ⟨gb133, 1, none⟩ = some (.slice none 0 0) := (bC BK133.out 1).trans rfl; have hcz89_2 : wc.cell? ⟨gb133, 2, none⟩ = some (.slice none 0 0) := (bC BK133.out 2).trans rfl; have hcz89_3 : wc.cell? ⟨gb133, 3, none⟩ = some (.slice none 0 0) := (bC BK133.out 3).trans rfl; have hcz89_4 : wc.cell? ⟨gb133, 4, none⟩ = some (.slice none 0 0) := (bC BK133.out 4).trans rfl; have hfz89_0 := bF BK133.out 0; have hfz89_1 := bF BK133.out 1; have hfz89_2 := bF BK133.out 2; have hfz89_3 := bF BK133.out 3; have hfz89_4 := bF BK133.out 4))
     refine bodyPost_ret (results_ct rfl _ _ gb133 30 #[.slice none 0 0, .slice none 0 0, .slice none 0 0, .slice none 0 0, .slice none 0 0] (0, 0) _ rfl (by (with_reducible repeat (first | refine bN ?_ _ | refine bD ?_ | refine bA ?_ _)); refine bP (cs := #[.slice none 0 0, .slice none 0 0, .slice none 0 0, .slice none 0 0, .slice none 0 0]) ?_ 4 _ rfl; (with_reducible repeat (first | refine bN ?_ _ | refine bD ?_ | refine bA ?_ _)); refine bP (cs := #[.slice none 0 0, .slice none 0 0, .slice none 0 0, .slice none 0 0, .slice none 0 0]) ?_ 3 _ rfl; (with_reducible repeat (first | refine bN ?_ _ | refine bD ?_ | refine bA ?_ _)); refine bP (cs := #[.slice none 0 0, .slice none 0 0, .slice none 0 0, .slice none 0 0, .slice none 0 0]) ?_ 2 _ rfl; (with_reducible repeat (first | refine bN ?_ _ | refine bD ?_ | refine bA ?_ _)); refine bP (cs := #[.slice none 0 0, .slice none 0 0, .slice none 0 0, .slice none 0 0, .slice none 0 0]) ?_ 1 _ rfl; (with_reducible repeat (first | refine bN ?_ _ | refine bD ?_ | refine bA ?_ _)); refine bP (cs := #[.slice none 0 0, .slice none 0 0, .slice none 0 0, .slice none 0 0, .slice none 0 0]) ?_ 0 _ rfl; (with_reducible repeat (first | refine bN ?_ _ | refine bD ?_ | refine bA ?_ _)); exact BK133.out) Try.underlying30 rfl (by kernel_rfl)) rfl ?_
     exact ⟨_, _, _, _, _, by first | rfl | (simp [errW_none, errW_some] <;> rfl) | (simp [*, errW_none, errW_some] <;> rfl), by first | exact Kd.R_nil _ _ _ _ _ | exact Kd.N_nil _ _ _ _ _ | exact Kd.V_nil _ _ _ _ _ | exact Kd.Q_nil _ _ _ _ _ | exact Kd.S_nil _ _ _ _ _, by first | exact Kd.R_nil _ _ _ _ _ | exact Kd.N_nil _ _ _ _ _ | exact Kd.V_nil _ _ _ _ _ | exact Kd.Q_nil _ _ _ _ _ | exact Kd.S_nil _ _ _ _ _, by first | exact Kd.R_nil _ _ _ _ _ | exact Kd.N_nil _ _ _ _ _ | exact Kd.V_nil _ _ _ _ _ | exact Kd.Q_nil _ _ _ _ _ | exact Kd.S_nil _ _ _ _ _, by first | exact Kd.R_nil _ _ _ _ _ | exact Kd.N_nil _ _ _ _ _ | exact Kd.V_nil _ _ _ _ _ | exact Kd.Q_nil _ _ _ _ _ | exact Kd.S_nil _ _ _ _ _, by first | exact Kd.R_nil _ _ _ _ _ | exact Kd.N_nil _ _ _ _ _ | exact Kd.V_nil _ _ _ _ _ | exact Kd.Q_nil _ _ _ _ _ | exact Kd.S_nil _ _ _ _ _, by with_reducible repeat first | exact HB.out | apply lN | apply lD | refine lS ?_ GE132.out | refine lS ?_ GE133.out⟩

end Go.Proofs.Ytneiaobhjjbedaa.PGstatePuts
