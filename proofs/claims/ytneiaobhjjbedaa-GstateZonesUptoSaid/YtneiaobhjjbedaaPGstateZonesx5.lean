/- A part of the proof of the law GstateZones: plain functions and what the machine's calls of them come to; printed by wip/extprint.py out of the kit's printer and contracts of our own. No condition but an answer of the plain function. -/
import Derived.Test.YtneiaobhjjbedaaPGstateZonesx0
import Derived.Test.YtneiaobhjjbedaaPGstateZonesx4
namespace Go.Proofs.Ytneiaobhjjbedaa.PGstateZones
open Go.RowKit Go.Proofs.YtneiaobhjjbedaaW.PrintWords Go.Proofs.YtneiaobhjjbedaaW.PrintLast Go.Proofs.YtneiaobhjjbedaaW.PrintMore
attribute [local go_sem] max2_int min2_int max_two min_two max_three min_three max_four min_four   -- for this text's walks alone
open Go.Value renaming ownBlock → oB
open Aside0 renaming mk → aK
open Go.Proofs.Ytneiaobhjjbedaa (st1 st2 st3 st5 st55 bc)
open Go.Proofs.YtneiaobhjjbedaaW.PrintWords renaming blk_drewN → bN, blk_drew → bD, blk_alloc → bA, below_alloc → lA, pw_below_drewN → lN, below_drew1 → lD, below_set → lS, blk_below → bB, blk_grown → bG, blk_cell → bC, blk_frozen → bF, blk_far → bR, blk_put → bP, below_size → lZ, below_step → lT
open Go.Proofs.YtneiaobhjjbedaaW.PrintWords.Kd renaming R_alloc → rA, R_drewN → rN, R_drew → rD, R_far → rF, R_mono → rM, R_below → rB, R_types → rT, R_grown → rG, C_alloc → cA, C_drewN → cN, C_drew → cD, R_reads' → rR
set_option linter.unusedVariables false
set_option linter.unusedSimpArgs false

/-! ### serifref09_Outline: function 28 -/
mutual
def serifref09_Outline.l0 : Nat → Int → List (List (S48)) → List (List (S48)) → Int → Int → List (S43) → List (S43) → List Bool → List Bool → List Int → Option ((List (List (S48))) × Int)
 | 0, _, _, _, _, _, _, _, _, _, _ => none
 | k + 1, x6, x7, x14, x15, x16, x215000, x215001, x215002, x215003, x215004 => if x16 < x15 then (if 0 ≤ x16 then (if x16 < (x14.length : Int) then (serifref09_Outline.l1 k x6 x7 (([] : List (S48))) x14 x15 x16 (rd_L4 x14 x16) ((rd_L4 x14 x16).length : Int) 0 x215000 x215001 x215002 x215003 x215004) else (none)) else (none)) else ((serifref09_Sound.f k x215000 x215001 x215002 x215003 x215004).bind fun t218 => (if t218 = true then (if x6 = (x215001.length : Int) then (some (x7, 0)) else (some (([] : List (List (S48))), 91))) else (some (([] : List (List (S48))), 91))))
def serifref09_Outline.l1 : Nat → Int → List (List (S48)) → List (S48) → List (List (S48)) → Int → Int → List (S48) → Int → Int → List (S43) → List (S43) → List Bool → List Bool → List Int → Option ((List (List (S48))) × Int)
 | 0, _, _, _, _, _, _, _, _, _, _, _, _, _, _ => none
 | k + 1, x6, x7, x10, x14, x15, x16, x21, x22, x23, x215000, x215001, x215002, x215003, x215004 => if x23 < x22 then (if 0 ≤ x23 then (if x23 < (x21.length : Int) then (if x6 < (x215001.length : Int) then (if 0 ≤ x6 then (if x10.length < 5864062014805 then (serifref09_Outline.l1 k (wrap64 (x6 + 1)) x7 (x10 ++ [(⟨(rd_T43 x215001 x6).f0, (rd_T43 x215001 x6).f1, (rd_T48 x21 x23).f2⟩ : S48)]) x14 x15 x16 x21 x22 (wrap64 (x23 + 1)) x215000 x215001 x215002 x215003 x215004) else (none)) else (none)) else (serifref09_Outline.l1 k (wrap64 (x6 + 1)) x7 x10 x14 x15 x16 x21 x22 (wrap64 (x23 + 1)) x215000 x215001 x215002 x215003 x215004)) else (none)) else (none)) else (if x7.length < 5864062014805 then (serifref09_Outline.l0 k x6 (x7 ++ [x10]) x14 x15 (wrap64 (x16 + 1)) x215000 x215001 x215002 x215003 x215004) else (none))
end
def serifref09_Outline.f (k : Nat) (l0_0 : List (S43)) (l0_1 : List (S43)) (l0_2 : List Bool) (l0_3 : List Bool) (l0_4 : List Int) (l1 : List (List (S48))) : Option ((List (List (S48))) × Int) := serifref09_Outline.l0 k 0 (([] : List (List (S48)))) l1 (l1.length : Int) 0 l0_0 l0_1 l0_2 l0_3 l0_4
theorem serifref09_Outline.mono_l : ∀ k, (∀ y0 y1 y2 y3 y4 y5 y6 y7 y8 y9, LeO (serifref09_Outline.l0 k y0 y1 y2 y3 y4 y5 y6 y7 y8 y9) (serifref09_Outline.l0 (k + 1) y0 y1 y2 y3 y4 y5 y6 y7 y8 y9)) ∧ (∀ y0 y1 y2 y3 y4 y5 y6 y7 y8 y9 y10 y11 y12 y13, LeO (serifref09_Outline.l1 k y0 y1 y2 y3 y4 y5 y6 y7 y8 y9 y10 y11 y12 y13) (serifref09_Outline.l1 (k + 1) y0 y1 y2 y3 y4 y5 y6 y7 y8 y9 y10 y11 y12 y13))
 | 0 => ⟨fun _ _ _ _ _ _ _ _ _ _ r h => by simp [serifref09_Outline.l0] at h, fun _ _ _ _ _ _ _ _ _ _ _ _ _ _ r h => by simp [serifref09_Outline.l1] at h⟩
 | k + 1 => by
  obtain ⟨ih0, ih1⟩ := serifref09_Outline.mono_l k
  refine ⟨?_, ?_⟩
  ·intro y0 y1 y2 y3 y4 y5 y6 y7 y8 y9
   unfold serifref09_Outline.l0
   repeat' first
   | (with_reducible exact ih0 _ _ _ _ _ _ _ _ _ _)
   | (with_reducible exact ih1 _ _ _ _ _ _ _ _ _ _ _ _ _ _)
   | (with_reducible exact serifref09_Sound.mono _ _ _ _ _ _)
   | (with_reducible exact LeO.refl _)
   | (with_reducible exact LeO.none _)
   | (with_reducible refine LeO.ite ?_ ?_)
   | (with_reducible refine LeO.bind ?_ (fun _ => ?_))
   | exact ih0 _ _ _ _ _ _ _ _ _ _
   | exact ih1 _ _ _ _ _ _ _ _ _ _ _ _ _ _
   | exact serifref09_Sound.mono _ _ _ _ _ _
   | exact LeO.none _
   | refine LeO.ite ?_ ?_
   | refine LeO.bind ?_ (fun _ => ?_)
  ·intro y0 y1 y2 y3 y4 y5 y6 y7 y8 y9 y10 y11 y12 y13
   unfold serifref09_Outline.l1
   repeat' first
   | (with_reducible exact ih0 _ _ _ _ _ _ _ _ _ _)
   | (with_reducible exact ih1 _ _ _ _ _ _ _ _ _ _ _ _ _ _)
   | (with_reducible exact serifref09_Sound.mono _ _ _ _ _ _)
   | (with_reducible exact LeO.refl _)
   | (with_reducible exact LeO.none _)
   | (with_reducible refine LeO.ite ?_ ?_)
   | (with_reducible refine LeO.bind ?_ (fun _ => ?_))
   | exact ih0 _ _ _ _ _ _ _ _ _ _
   | exact ih1 _ _ _ _ _ _ _ _ _ _ _ _ _ _
   | exact serifref09_Sound.mono _ _ _ _ _ _
   | exact LeO.none _
   | refine LeO.ite ?_ ?_
   | refine LeO.bind ?_ (fun _ => ?_)
theorem serifref09_Outline.mono : ∀ a0 a1 a2 a3 a4 a5 k, LeO (serifref09_Outline.f k a0 a1 a2 a3 a4 a5) (serifref09_Outline.f (k + 1) a0 a1 a2 a3 a4 a5) := by
 intro a0 a1 a2 a3 a4 a5 k
 obtain ⟨ih0, ih1⟩ := serifref09_Outline.mono_l k
 unfold serifref09_Outline.f
 repeat' first
   | (with_reducible exact ih0 _ _ _ _ _ _ _ _ _ _)
   | (with_reducible exact ih1 _ _ _ _ _ _ _ _ _ _ _ _ _ _)
   | (with_reducible exact serifref09_Sound.mono _ _ _ _ _ _)
   | (with_reducible exact LeO.refl _)
   | (with_reducible exact LeO.none _)
   | (with_reducible refine LeO.ite ?_ ?_)
   | (with_reducible refine LeO.bind ?_ (fun _ => ?_))
   | exact ih0 _ _ _ _ _ _ _ _ _ _
   | exact ih1 _ _ _ _ _ _ _ _ _ _ _ _ _ _
   | exact serifref09_Sound.mono _ _ _ _ _ _
   | exact LeO.none _
   | refine LeO.ite ?_ ?_
   | refine LeO.bind ?_ (fun _ => ?_)
def serifref09_Outline.T11 : Bool × List (List Nat × List Nat) := (true, [([], []), ([], []), ([1], [1]), ([], []), ([2, 3], [2, 3]), ([4], [4]), ([5], [5]), ([], []), ([7], [7]), ([], []), ([8, 9], [8, 9]), ([10], [10]), ([11], [11]), ([], []), ([13], [13]), ([6, 12, 14], [6, 12, 14]), ([15], [15]), ([0, 16], [0, 16]), ([17, 17, 0, 1, 2, 3, 4, 5, 6, 7, 8, 9, 10, 11, 12, 13, 14, 15, 16, 17], [0, 17])])
def serifref09_Outline.B11 : List Nat := [0, 0, 2, 0, 14, 30, 62, 0, 128, 0, 896, 1920, 3968, 0, 8192, 32766, 65534, 131071, 262143]
theorem serifref09_Outline.tab11 : rtab .any (opsOf Try.f28 11) = serifref09_Outline.T11 := by kernel_rfl
theorem serifref09_Outline.bits11 : waitsOk serifref09_Outline.T11.2 serifref09_Outline.B11 = true := by kernel_rfl
set_option maxHeartbeats 8000000 in
set_option maxRecDepth 100000 in
theorem serifref09_Outline.calls (k : Nat) (A0_0 : Option Addr) (c0_0 : Nat) (l0_0 : List (S43)) (A0_1 : Option Addr) (c0_1 : Nat) (l0_1 : List (S43)) (A0_2 : Option Addr) (c0_2 : Nat) (l0_2 : List Bool) (A0_3 : Option Addr) (c0_3 : Nat) (l0_3 : List Bool) (A0_4 : Option Addr) (c0_4 : Nat) (l0_4 : List Int) (A1 : Option Addr) (c1 : Nat) (l1 : List (List (S48))) (r1 : List (List (S48))) (r2 : Int) (w : World) (hr0_0 : Kd.C k43 w A0_0 l0_0.length l0_0) (hc0_0 : l0_0.length ≤ c0_0) (hr0_1 : Kd.C k43 w A0_1 l0_1.length l0_1) (hc0_1 : l0_1.length ≤ c0_1) (hr0_2 : Kd.C Kd.bool w A0_2 l0_2.length l0_2) (hc0_2 : l0_2.length ≤ c0_2) (hr0_3 : Kd.C Kd.bool w A0_3 l0_3.length l0_3) (hc0_3 : l0_3.length ≤ c0_3) (hr0_4 : Kd.C (Kd.int .i64) w A0_4 l0_4.length l0_4) (hc0_4 : l0_4.length ≤ c0_4) (hr1 : Kd.C (Kd.slice 48 k48) w A1 l1.length l1) (hc1 : l1.length ≤ c1) (h : serifref09_Outline.f k l0_0 l0_1 l0_2 l0_3 l0_4 l1 = some (r1, r2)) :
  Calls Try.prog 28 #[.agg #[.slice A0_0 l0_0.length c0_0, .slice A0_1 l0_1.length c0_1, .slice A0_2 l0_2.length c0_2, .slice A0_3 l0_3.length c0_3, .slice A0_4 l0_4.length c0_4], .slice A1 l1.length c1] w fun e w' => ∃ v0_ : Value, e = .returned (.tuple #[v0_, .int .i64 r2]) ∧ Kd.S (Kd.slice 48 k48) 46 w' w.heap.size (fun _ => True) v0_ r1 ∧ Below w.heap.size w w' := by
 have hu30 := Try.underlying30; have hu48 := Try.underlying48; have HR0_0 := aK hr0_0; have HC0_0 := aK hc0_0; clear hr0_0 hc0_0; have HR0_1 := aK hr0_1; have HC0_1 := aK hc0_1; clear hr0_1 hc0_1; have HR0_2 := aK hr0_2; have HC0_2 := aK hc0_2; clear hr0_2 hc0_2; have HR0_3 := aK hr0_3; have HC0_3 := aK hc0_3; clear hr0_3 hc0_3; have HR0_4 := aK hr0_4; have HC0_4 := aK hc0_4; clear hr0_4 hc0_4; have HR1 := aK hr1; have HC1 := aK hc1; clear hr1 hc1; have HB := aK (Below.refl w.heap.size w); have H : (serifref09_Outline.l0 k 0 (([] : List (List (S48)))) l1 (l1.length : Int) 0 l0_0 l0_1 l0_2 l0_3 l0_4) = some (r1, r2) := h; clear h; obtain ⟨y215, hy215⟩ : ∃ y_ : List (List (S48)), y_ = (([] : List (List (S48)))) := ⟨_, rfl⟩; replace H : (serifref09_Outline.l0 k 0 y215 l1 (l1.length : Int) 0 l0_0 l0_1 l0_2 l0_3 l0_4) = some (r1, r2) := by first | (rw [hy215]; with_reducible exact H) | (have H2_ := (Option.bind_some _ _).symm.trans H; rw [hy215]; with_reducible exact H2_) | (have H2_ := (Option.bind_some _ _).symm.trans H; with_reducible exact H2_) | with_reducible exact H | (rw [hy215]; exact H) | exact H
 have Ny215 := aK hy215; clear hy215; have H' := aK H; clear H
 go_enter Try.func28, Try.ntmps28
 go_wp2_with (first | ((with_reducible refine gate_dst (N := 2) rfl ?_); (try (refine gate_guard (by rfl) ?_; dsimp only)); refine box_event ?hg (N := 2) ?hd (cs := #[.slice A0_0 l0_0.length c0_0, .slice A0_1 l0_1.length c0_1, .slice A0_2 l0_2.length c0_2, .slice A0_3 l0_3.length c0_3, .slice A0_4 l0_4.length c0_4]) (t := 30) ?hr ?_; (case hd => rfl); (case hg => rfl); (case hr => first | (go_simp; done) | (go_simp; rfl)); intro gb214 hg w3 hbox hb; have BK214 := aK (hbox); have GW214 := aK ((by rw [hg]; exact (lZ (by with_reducible repeat first | exact HB.out | apply lN | apply lD)) : w.heap.size ≤ gb214)); have GE214 := aK ((by rw [hg]; exact (lZ (by with_reducible repeat first | exact HB.out | apply lN | apply lD)) : w.heap.size ≤ gb214)); replace HB := aK (lT HB.out hb); clear hb hbox hg) | ((with_reducible refine gate_dst (N := 13) rfl ?_); (try (refine gate_guard (by rfl) ?_; dsimp only)); refine Kd.S_lit (Kd.slice 48 k48) _ 46 ?hg (N := 13) ?hd (xs := ([] : List (List (S48)))) (inner := []) (ok := fun _ => True) (okp := fun _ => True) ?hr ?hp (fun _ hk => hk) trivial (Below.refl _ _) (Nat.le_refl _) (by simp) ?_; (case hd => rfl); (case hg => rfl); (case hr => first | (go_simp; done) | (go_simp; rfl)); (case hp => exact (Reps.none _ _)); intro v216 w4 ho5 hb hg_ hnew_; clear hg_ hnew_; (first | rw [← Ny215.out] at ho5 | (simp only [Int.reduceToNat] at ho5; rw [← Ny215.out] at ho5)); have HO217 := aK (Kd.S_lower ho5 (lZ (by with_reducible repeat first | exact HB.out | apply lN | apply lD | refine lS ?_ GE214.out))); replace BK214 := aK (bB BK214.out hb); replace HB := aK (lT (by with_reducible repeat first | exact HB.out | refine lS ?_ GE214.out) hb); clear hb ho5))
 go_loopg [6, 7, 16] k (fun kq v6 v7 v16 w' => ∃ (x6_1 : Int) (x7_1 : List (List (S48))) (x16_1 : Int), v6 = .int .i64 x6_1 ∧ v16 = .int .i64 x16_1 ∧ Aside0 (serifref09_Outline.l0 kq x6_1 x7_1 l1 (l1.length : Int) x16_1 l0_0 l0_1 l0_2 l0_3 l0_4 = some (r1, r2)) ∧ Aside0 (kq ≤ k) ∧ Aside0 (Kd.S (Kd.slice 48 k48) 46 w' w.heap.size (fun _ => True) v7 x7_1) ∧ Aside0 (w'.heap[gb214]? = some (.cells #[(.slice A0_0 l0_0.length c0_0), (.slice A0_1 l0_1.length c0_1), (.slice A0_2 l0_2.length c0_2), (.slice A0_3 l0_3.length c0_3), (.slice A0_4 l0_4.length c0_4)] 30 (0, 0))) ∧ Aside0 (Below w.heap.size w w'))
 case atStart => exact ⟨(0), (y215), (0), (by first | rfl | (simp; done) | (simp [*]; done)), (by first | rfl | (simp; done) | (simp [*]; done)), H', ⟨Nat.le_refl _⟩, ⟨by (with_reducible repeat (first | apply Kd.S_alloc | apply Kd.S_drewN | apply Kd.S_drew)); exact HO217.out⟩, ⟨BK214.out⟩, ⟨by with_reducible repeat first | exact HB.out | apply lN | apply lD | refine lS ?_ GE214.out⟩⟩
 case round =>
  clear H'; (try clear c1); (try clear c2); (try clear p2); obtain ⟨x6_1, x7_1, x16_1, rfl, rfl, HA, HK1, HO_7, BK214, HB⟩ := hrel
  cases gk with
  | zero => exact absurd HA.out (by simp [serifref09_Outline.l0])
  | succ k1 =>
   have H := HA.out; clear HA
   simp only [serifref09_Outline.l0] at H
   by_cases c6 : x16_1 < (l1.length : Int)
   ·rw [if_pos c6] at H
    have c6b0 : decide (x16_1 < (l1.length : Int)) = true := decide_eq_true c6; clear c6
    by_cases c7 : 0 ≤ x16_1
    ·rw [if_pos c7] at H
     have c7b0 : decide (0 ≤ x16_1) = true := decide_eq_true c7; clear c7
     by_cases c8 : x16_1 < (l1.length : Int)
     ·rw [if_pos c8] at H
      have c8b0 : decide (x16_1 < (l1.length : Int)) = true := decide_eq_true c8; clear c8; obtain ⟨y220, hy220⟩ : ∃ y_ : List (S48), y_ = (([] : List (S48))) := ⟨_, rfl⟩; replace H : (serifref09_Outline.l1 k1 x6_1 x7_1 y220 l1 (l1.length : Int) x16_1 (rd_L4 l1 x16_1) ((rd_L4 l1 x16_1).length : Int) 0 l0_0 l0_1 l0_2 l0_3 l0_4) = some (r1, r2) := by first | (rw [hy220]; with_reducible exact H) | (have H2_ := (Option.bind_some _ _).symm.trans H; rw [hy220]; with_reducible exact H2_) | (have H2_ := (Option.bind_some _ _).symm.trans H; with_reducible exact H2_) | with_reducible exact H | (rw [hy220]; exact H) | exact H
      have Ny220 := aK hy220; clear hy220; have H' := aK H; clear H; have p219 : 0 ≤ (x16_1 : Int) := of_decide_eq_true (by first | (with_reducible assumption) | assumption); have q219 : x16_1 < (l1.length : Int) := of_decide_eq_true (by first | (with_reducible assumption) | assumption); obtain ⟨ad219, A219_0, c219_0, e219, hx219_0, hl219_0, hi219_0⟩ := at_L4 HR1.out x16_1 p219 q219
      cases e219
      replace hx219_0 := (HB.out.cell (World.block_lt_of_cell? w _ hx219_0)).trans hx219_0; have HR219_0 := aK hi219_0; have HC219_0 := aK hl219_0; clear hi219_0 hl219_0; replace p219 := eq_true p219; replace q219 := eq_true q219
      go_wp2_with (first | ((with_reducible refine gate_dst (N := 20) rfl ?_); (try (refine gate_guard (by rfl) ?_; dsimp only)); refine Kd.R_lit k48 _ 48 ?hg (N := 20) ?hd (xs := ([] : List (S48))) (inner := []) (ok := fun _ => True) (okp := fun _ => True) ?hr ?hp (fun _ hk => hk) trivial (Below.refl _ _) (Nat.le_refl _) (by simp) ?_; (case hd => rfl); (case hg => rfl); (case hr => first | (go_simp; done) | (go_simp; rfl)); (case hp => exact (Reps.none _ _)); intro v221 w9 ho10 hb hg_ hnew_; clear hg_ hnew_; (first | rw [← Ny220.out] at ho10 | (simp only [Int.reduceToNat] at ho10; rw [← Ny220.out] at ho10)); have HO222 := aK (Kd.R_lower ho10 (lZ (by with_reducible repeat first | exact HB.out | apply lN | apply lD | refine lS ?_ GE214.out))); replace HO_7 := aK (Kd.S_elder' HO_7.out (Kd.R_base ho10) hb); replace BK214 := aK (bB BK214.out hb); replace HB := aK (lT (by with_reducible repeat first | exact HB.out | refine lS ?_ GE214.out) hb); clear hb ho10))
      go_loopg [6, 10, 23] k1 (fun kq v6 v10 v23 w' => ∃ (x6_2 : Int) (x10_2 : List (S48)) (x23_2 : Int), v6 = .int .i64 x6_2 ∧ v23 = .int .i64 x23_2 ∧ Aside0 (serifref09_Outline.l1 kq x6_2 x7_1 x10_2 l1 (l1.length : Int) x16_1 (rd_L4 l1 x16_1) ((rd_L4 l1 x16_1).length : Int) x23_2 l0_0 l0_1 l0_2 l0_3 l0_4 = some (r1, r2)) ∧ Aside0 (kq ≤ k1) ∧ Aside0 (Kd.S (Kd.slice 48 k48) 46 w' w.heap.size (fun k_ => some k_ ≠ oB v10) u7 x7_1) ∧ Aside0 (Kd.R k48 48 w' w.heap.size (fun _ => True) v10 x10_2) ∧ Aside0 (w'.heap[gb214]? = some (.cells #[(.slice A0_0 l0_0.length c0_0), (.slice A0_1 l0_1.length c0_1), (.slice A0_2 l0_2.length c0_2), (.slice A0_3 l0_3.length c0_3), (.slice A0_4 l0_4.length c0_4)] 30 (0, 0))) ∧ Aside0 (Below w.heap.size w w'))
      case atStart => exact ⟨(x6_1), (y220), (0), (by first | rfl | (simp; done) | (simp [*]; done)), (by first | rfl | (simp; done) | (simp [*]; done)), H', ⟨Nat.le_refl _⟩, ⟨by (with_reducible repeat (first | apply Kd.S_alloc | apply Kd.S_drewN | apply Kd.S_drew)); exact Kd.S_mono HO_7.out (fun _ hk => hk.2)⟩, ⟨by (with_reducible repeat (first | apply rA | apply rN | apply rD)); exact HO222.out⟩, ⟨BK214.out⟩, ⟨by with_reducible repeat first | exact HB.out | apply lN | apply lD | refine lS ?_ GE214.out⟩⟩
      case round =>
       clear H'; (try clear c1); (try clear c2); (try clear p2); (try clear q2); (try clear hx2); (try clear c6); (try clear c6b0); (try clear c7); (try clear c7b0); (try clear c8); (try clear c8b0); (try clear hx219_0); (try clear p2); (try clear p219); (try clear q219); obtain ⟨x6_2, x10_2, x23_2, rfl, rfl, HA, HK2, HO_7, HO_10, BK214, HB⟩ := hrel
       cases gk with
       | zero => exact absurd HA.out (by simp [serifref09_Outline.l1])
       | succ k2 =>
        have H := HA.out; clear HA
        simp only [serifref09_Outline.l1] at H
        by_cases c11 : x23_2 < ((rd_L4 l1 x16_1).length : Int)
        ·rw [if_pos c11] at H
         have c11b0 : decide (x23_2 < ((rd_L4 l1 x16_1).length : Int)) = true := decide_eq_true c11; clear c11
         by_cases c12 : 0 ≤ x23_2
         ·rw [if_pos c12] at H
          have c12b0 : decide (0 ≤ x23_2) = true := decide_eq_true c12; clear c12
          by_cases c13 : x23_2 < ((rd_L4 l1 x16_1).length : Int)
          ·rw [if_pos c13] at H
           have c13b0 : decide (x23_2 < ((rd_L4 l1 x16_1).length : Int)) = true := decide_eq_true c13; clear c13
           by_cases c14 : x6_2 < (l0_1.length : Int)
           ·rw [if_pos c14] at H
            have c14b0 : decide (x6_2 < (l0_1.length : Int)) = true := decide_eq_true c14; clear c14
            by_cases c15 : 0 ≤ x6_2
            ·rw [if_pos c15] at H
             have c15b0 : decide (0 ≤ x6_2) = true := decide_eq_true c15; clear c15
             by_cases c16 : x10_2.length < 5864062014805
             ·rw [if_pos c16] at H
              have LMc16 := aK c16; clear c16; obtain ⟨y227, hy227⟩ : ∃ y_ : List (S48), y_ = (x10_2 ++ [(⟨(rd_T43 l0_1 x6_2).f0, (rd_T43 l0_1 x6_2).f1, (rd_T48 (rd_L4 l1 x16_1) x23_2).f2⟩ : S48)]) := ⟨_, rfl⟩; replace H : (serifref09_Outline.l1 k2 (wrap64 (x6_2 + 1)) x7_1 y227 l1 (l1.length : Int) x16_1 (rd_L4 l1 x16_1) ((rd_L4 l1 x16_1).length : Int) (wrap64 (x23_2 + 1)) l0_0 l0_1 l0_2 l0_3 l0_4) = some (r1, r2) := by first | (rw [hy227]; with_reducible exact H) | (have H2_ := (Option.bind_some _ _).symm.trans H; rw [hy227]; with_reducible exact H2_) | (have H2_ := (Option.bind_some _ _).symm.trans H; with_reducible exact H2_) | with_reducible exact H | (rw [hy227]; exact H) | exact H
              have Ny227 := aK hy227; clear hy227; have H' := aK H; clear H; have p223 : 0 ≤ (x23_2 : Int) := of_decide_eq_true (by first | (with_reducible assumption) | assumption); have q223 : x23_2 < ((rd_L4 l1 x16_1).length : Int) := of_decide_eq_true (by first | (with_reducible assumption) | assumption); obtain ⟨ad223, e223, hx223_0, hx223_1, hx223_2⟩ := at_T48 HR219_0.out x23_2 p223 q223
              cases e223
              replace hx223_0 := (HB.out.cell (World.block_lt_of_cell? w _ hx223_0)).trans hx223_0; replace hx223_1 := (HB.out.cell (World.block_lt_of_cell? w _ hx223_1)).trans hx223_1; replace hx223_2 := (HB.out.cell (World.block_lt_of_cell? w _ hx223_2)).trans hx223_2; replace p223 := eq_true p223; replace q223 := eq_true q223
              try go_wp2_with (first | ((with_reducible refine gate_dst (N := 12) rfl ?_); (try (refine gate_guard (by rfl) ?_; dsimp only)); refine box_event ?hg (N := 12) ?hd (cs := #[.int .i64 0, .int .i64 0, .int .i64 0]) (t := 48) ?hr ?_; (case hd => rfl); (case hg => rfl); (case hr => first | (go_simp; done) | (go_simp; rfl)); intro gb224 hg w17 hbox hb; have BK224 := aK (hbox); have GW224 := aK ((by rw [hg]; exact (lZ (by with_reducible repeat first | exact HB.out | apply lN | apply lD | refine lS ?_ GE214.out)) : w.heap.size ≤ gb224)); have GE224 := aK ((by rw [hg]; exact (lZ (by with_reducible repeat first | exact HB.out | apply lN | apply lD | refine lS ?_ GE214.out)) : w.heap.size ≤ gb224)); have NB214_224 := aK ((by rw [hg]; exact Nat.ne_of_lt (blk_lt BK214.out) : gb214 ≠ gb224)); have NB224_214 := aK ((by rw [hg]; exact Nat.ne_of_gt (blk_lt BK214.out) : gb224 ≠ gb214)); replace HO_7 := aK (Kd.S_below (Kd.S_elderB HO_7.out gb224 (Nat.le_of_eq hg.symm)) hb); replace HO_10 := aK (rB (Kd.R_elderB HO_10.out gb224 (Nat.le_of_eq hg.symm)) hb); replace BK214 := aK (bB BK214.out hb); replace HB := aK (lT (by with_reducible repeat first | exact HB.out | refine lS ?_ GE214.out) hb); clear hb hbox hg; have hnb18 := NB224_214.out; have hnc18 := NB214_224.out; have hcz19_0 := bc BK224.out 0 rfl; have hcz19_1 := bc BK224.out 1 rfl; have hcz19_2 := bc BK224.out 2 rfl; have hfz19_0 := bF BK224.out 0; have hfz19_1 := bF BK224.out 1; have hfz19_2 := bF BK224.out 2; have hcz20_0 := bc BK214.out 0 rfl; have hcz20_1 := bc BK214.out 1 rfl; have hcz20_2 := bc BK214.out 2 rfl; have hcz20_3 := bc BK214.out 3 rfl; have hcz20_4 := bc BK214.out 4 rfl; have hfz20_0 := bF BK214.out 0; have hfz20_1 := bF BK214.out 1; have hfz20_2 := bF BK214.out 2; have hfz20_3 := bF BK214.out 3; have hfz20_4 := bF BK214.out 4))
              obtain ⟨w21, hW_⟩ : ∃ x_, x_ = (((w17.setCell ⟨gb224, 0, none⟩ (.int .i64 ((rd_T48 (rd_L4 l1 x16_1) x23_2).f0))).setCell ⟨gb224, 1, none⟩ (.int .i64 ((rd_T48 (rd_L4 l1 x16_1) x23_2).f1))).setCell ⟨gb224, 2, none⟩ (.int .i64 ((rd_T48 (rd_L4 l1 x16_1) x23_2).f2))) := ⟨_, rfl⟩; have n0_ : Aside0 (Kd.S (Kd.slice 48 k48) 46 w21 w.heap.size (fun k_ => some k_ ≠ oB u10 ∧ k_ ≠ gb224) u7 x7_1) := ⟨by rw [hW_]; (with_reducible repeat (first | apply Kd.S_alloc | apply Kd.S_drewN | apply Kd.S_drew)); exact Kd.S_mono (Kd.S_far (p := ⟨gb224, 2, none⟩) (Kd.S_far (p := ⟨gb224, 1, none⟩) (Kd.S_far (p := ⟨gb224, 0, none⟩) (Kd.S_mono HO_7.out (fun k_ hk => (⟨hk, hk.2⟩ : _ ∧ k_ ≠ gb224))) (fun _ hk => hk.2) (.int .i64 ((rd_T48 (rd_L4 l1 x16_1) x23_2).f0))) (fun _ hk => hk.2) (.int .i64 ((rd_T48 (rd_L4 l1 x16_1) x23_2).f1))) (fun _ hk => hk.2) (.int .i64 ((rd_T48 (rd_L4 l1 x16_1) x23_2).f2))) (fun _ hk => ⟨hk.1.1, hk.1.2⟩)⟩; have n1_ : Aside0 (Kd.R k48 48 w21 w.heap.size (fun k_ => k_ ≠ gb224) u10 x10_2) := ⟨by rw [hW_]; (with_reducible repeat (first | apply rA | apply rN | apply rD)); exact rM (rF (p := ⟨gb224, 2, none⟩) (rF (p := ⟨gb224, 1, none⟩) (rF (p := ⟨gb224, 0, none⟩) (rM HO_10.out (fun k_ hk => (⟨hk, hk.2⟩ : _ ∧ k_ ≠ gb224))) (fun _ hk => hk.2) (.int .i64 ((rd_T48 (rd_L4 l1 x16_1) x23_2).f0))) (fun _ hk => hk.2) (.int .i64 ((rd_T48 (rd_L4 l1 x16_1) x23_2).f1))) (fun _ hk => hk.2) (.int .i64 ((rd_T48 (rd_L4 l1 x16_1) x23_2).f2))) (fun _ hk => hk.1.2)⟩; have n2_ : Aside0 (w21.heap[gb214]? = some (.cells #[.slice A0_0 l0_0.length c0_0, .slice A0_1 l0_1.length c0_1, .slice A0_2 l0_2.length c0_2, .slice A0_3 l0_3.length c0_3, .slice A0_4 l0_4.length c0_4] 30 (0, 0))) := ⟨by rw [hW_]; exact (bR (bR (bR BK214.out NB214_224.out _) NB214_224.out _) NB214_224.out _)⟩; have n3_ : Aside0 (w21.heap[gb224]? = some (.cells #[.int .i64 ((rd_T48 (rd_L4 l1 x16_1) x23_2).f0), .int .i64 ((rd_T48 (rd_L4 l1 x16_1) x23_2).f1), .int .i64 ((rd_T48 (rd_L4 l1 x16_1) x23_2).f2)] 48 (0, 0))) := ⟨by rw [hW_]; exact (bP (cs := #[.int .i64 ((rd_T48 (rd_L4 l1 x16_1) x23_2).f0), .int .i64 ((rd_T48 (rd_L4 l1 x16_1) x23_2).f1), .int .i64 0]) (bP (cs := #[.int .i64 ((rd_T48 (rd_L4 l1 x16_1) x23_2).f0), .int .i64 0, .int .i64 0]) (bP (cs := #[.int .i64 0, .int .i64 0, .int .i64 0]) BK224.out 0 _ rfl) 1 _ rfl) 2 _ rfl)⟩; have n4_ : Aside0 (Below w.heap.size w w21) := ⟨by rw [hW_]; with_reducible repeat first | exact HB.out | apply lN | apply lD | refine lS ?_ GE214.out | refine lS ?_ GE224.out⟩; (try clear HO_7); (try clear HO_10); (try clear BK214); (try clear BK224); (try clear HB)
              rw [← hW_]
              clear hW_; have HO_7 := n0_; have HO_10 := n1_; have BK214 := n2_; have BK224 := n3_; have HB := n4_; clear n0_ n1_ n2_ n3_ n4_; replace HO_7 := aK (Kd.S_drew HO_7.out); replace HO_10 := aK (rD HO_10.out); replace BK214 := aK (bD BK214.out); replace BK224 := aK (bD BK224.out); replace HB := aK (lD HB.out); have p225 : 0 ≤ (x6_2 : Int) := of_decide_eq_true (by first | (with_reducible assumption) | assumption); have q225 : x6_2 < (l0_1.length : Int) := of_decide_eq_true (by first | (with_reducible assumption) | assumption); obtain ⟨ad225, e225, hx225_0, hx225_1⟩ := at_T43 HR0_1.out x6_2 p225 q225; have hw225_1 := hx225_1; have hw225_0 := hx225_0
              cases e225
              replace hx225_0 := (HB.out.cell (World.block_lt_of_cell? w _ hx225_0)).trans hx225_0; replace hx225_1 := (HB.out.cell (World.block_lt_of_cell? w _ hx225_1)).trans hx225_1; replace p225 := eq_true p225; replace q225 := eq_true q225; have p226 : 0 ≤ (x6_2 : Int) := of_decide_eq_true (by first | (with_reducible assumption) | assumption); have q226 : x6_2 < (l0_1.length : Int) := of_decide_eq_true (by first | (with_reducible assumption) | assumption); obtain ⟨ad226, e226, hx226_0, hx226_1⟩ := at_T43 HR0_1.out x6_2 p226 q226; have hw226_1 := hx226_1; have hw226_0 := hx226_0; obtain rfl : ad225 = ad226 := (by injection e226); replace hx226_0 := (HB.out.cell (World.block_lt_of_cell? w _ hx226_0)).trans hx226_0; replace hx226_1 := (HB.out.cell (World.block_lt_of_cell? w _ hx226_1)).trans hx226_1; replace p226 := eq_true p226; replace q226 := eq_true q226
              refine start_ (n := 19) (S := fun w' => w'.cell? ⟨gb214, 0, none⟩ = some (.slice A0_0 l0_0.length c0_0) ∧ w'.cell? ⟨gb214, 1, none⟩ = some (.slice (some ad225) l0_1.length c0_1) ∧ w'.cell? ⟨gb214, 2, none⟩ = some (.slice A0_2 l0_2.length c0_2) ∧ w'.cell? ⟨gb214, 3, none⟩ = some (.slice A0_3 l0_3.length c0_3) ∧ w'.cell? ⟨gb214, 4, none⟩ = some (.slice A0_4 l0_4.length c0_4) ∧ w'.cell? ⟨gb224, 0, none⟩ = some (.int .i64 ((rd_T48 (rd_L4 l1 x16_1) x23_2).f0)) ∧ w'.cell? ⟨gb224, 1, none⟩ = some (.int .i64 ((rd_T48 (rd_L4 l1 x16_1) x23_2).f1)) ∧ w'.cell? ⟨gb224, 2, none⟩ = some (.int .i64 ((rd_T48 (rd_L4 l1 x16_1) x23_2).f2)) ∧ w'.cell? (ad225.add ((x6_2).toNat * 2)) = some (.int .i64 ((rd_T43 l0_1 x6_2).f0)) ∧ w'.cell? ⟨(ad225.add ((x6_2).toNat * 2)).block, (ad225.add ((x6_2).toNat * 2)).off + 1, none⟩ = some (.int .i64 ((rd_T43 l0_1 x6_2).f1)) ∧ w'.cell? (ad225.add ((x6_2).toNat * 2)) = some (.int .i64 ((rd_T43 l0_1 x6_2).f0)) ∧ w'.cell? ⟨(ad225.add ((x6_2).toNat * 2)).block, (ad225.add ((x6_2).toNat * 2)).off + 1, none⟩ = some (.int .i64 ((rd_T43 l0_1 x6_2).f1))) (ds := []) #[false, false, false, false, false, false, false, false, false, false, false, false, false, false, false, false, false, false, false] (by kernel_rfl) rfl rfl ⟨(bC BK214.out 0).trans rfl, (bC BK214.out 1).trans rfl, (bC BK214.out 2).trans rfl, (bC BK214.out 3).trans rfl, (bC BK214.out 4).trans rfl, (bC BK224.out 0).trans rfl, (bC BK224.out 1).trans rfl, (bC BK224.out 2).trans rfl, ((HB.out.cell (World.block_lt_of_cell? w _ hw225_0)).trans hw225_0), ((HB.out.cell (World.block_lt_of_cell? w _ hw225_1)).trans hw225_1), ((HB.out.cell (World.block_lt_of_cell? w _ hw226_0)).trans hw226_0), ((HB.out.cell (World.block_lt_of_cell? w _ hw226_1)).trans hw226_1)⟩ (fun hHeld => ?_); refine with_tabW serifref09_Outline.tab11 serifref09_Outline.bits11 (fun HT_ HW_ => ?_)
              generalize w21.drew = w22 at HO_7 HO_10 BK214 BK224 HB hx225_0 hx225_1 hx226_0 hx226_1 hHeld ⊢
              refine pure_ (i := 0) (N := some 32) (v := ?_) (a' := ?_) #[true, false, false, false, false, false, false, false, false, false, false, false, false, false, false, false, false, false, false] rfl rfl (any_of HT_.out (by kernel_rfl)) (fun _ _ _ h => h) (Or.inl ⟨by rfl, ?_⟩) ?_ ?_
              rotate_left
              ·intro w'
               go_simp
               with_reducible rfl
              rotate_left
              ·simp only [Act.put, List.setIfInBounds_toArray, List.set_cons_zero, List.set_cons_succ, i64_w, i32_w]
               rfl
              refine pure_ (i := 1) (N := some 33) (v := ?_) (a' := ?_) #[true, true, false, false, false, false, false, false, false, false, false, false, false, false, false, false, false, false, false] rfl rfl (any_of HT_.out (by kernel_rfl)) (fun _ _ _ h => h) (Or.inl ⟨by rfl, ?_⟩) ?_ ?_
              rotate_left
              ·intro w'
               go_simp
               with_reducible rfl
              rotate_left
              ·simp only [Act.put, List.setIfInBounds_toArray, List.set_cons_zero, List.set_cons_succ, i64_w, i32_w]
               rfl
              refine pure_ (i := 3) (N := some 35) (v := ?_) (a' := ?_) #[true, true, false, true, false, false, false, false, false, false, false, false, false, false, false, false, false, false, false] rfl rfl (any_of HT_.out (by kernel_rfl)) (fun _ _ _ h => h) (Or.inl ⟨by rfl, ?_⟩) ?_ ?_
              rotate_left
              ·intro w'
               go_simp
               with_reducible rfl
              rotate_left
              ·simp only [Act.put, List.setIfInBounds_toArray, List.set_cons_zero, List.set_cons_succ, i64_w, i32_w]
               rfl
              refine pure_ (i := 7) (N := some 39) (v := ?_) (a' := ?_) #[true, true, false, true, false, false, false, true, false, false, false, false, false, false, false, false, false, false, false] rfl rfl (any_of HT_.out (by kernel_rfl)) (fun _ _ _ h => h) (Or.inl ⟨by rfl, ?_⟩) ?_ ?_
              rotate_left
              ·intro w'
               go_simp
               with_reducible rfl
              rotate_left
              ·simp only [Act.put, List.setIfInBounds_toArray, List.set_cons_zero, List.set_cons_succ, i64_w, i32_w]
               rfl
              refine pure_ (i := 9) (N := some 41) (v := ?_) (a' := ?_) #[true, true, false, true, false, false, false, true, false, true, false, false, false, false, false, false, false, false, false] rfl rfl (any_of HT_.out (by kernel_rfl)) (fun _ _ _ h => h) (Or.inl ⟨by rfl, ?_⟩) ?_ ?_
              rotate_left
              ·intro w'
               go_simp
               with_reducible rfl
              rotate_left
              ·simp only [Act.put, List.setIfInBounds_toArray, List.set_cons_zero, List.set_cons_succ, i64_w, i32_w]
               rfl
              refine pure_ (i := 13) (N := some 45) (v := ?_) (a' := ?_) #[true, true, false, true, false, false, false, true, false, true, false, false, false, true, false, false, false, false, false] rfl rfl (any_of HT_.out (by kernel_rfl)) (fun _ _ _ h => h) (Or.inl ⟨by rfl, ?_⟩) ?_ ?_
              rotate_left
              ·intro w'
               go_simp
               with_reducible rfl
              rotate_left
              ·simp only [Act.put, List.setIfInBounds_toArray, List.set_cons_zero, List.set_cons_succ, i64_w, i32_w]
               rfl
              refine take_ (i := 2) (N := some 34) (v := ?_) (a' := ?_) #[true, true, true, true, false, false, false, true, false, true, false, false, false, true, false, false, false, false, false] rfl rfl (take_ofW HT_.out HW_.out (by kernel_rfl)) (fun _ _ _ h => h) (Or.inl ⟨by rfl, ?_⟩) hHeld ?_ ?_
              rotate_left
              ·rintro w' ⟨s0, s1, s2, s3, s4, s5, s6, s7, s8, s9, s10, s11⟩
               go_simp
               with_reducible rfl
              rotate_left
              ·simp only [Act.put, List.setIfInBounds_toArray, List.set_cons_zero, List.set_cons_succ, i64_w, i32_w]
               rfl
              refine pure_ (i := 4) (N := some 36) (v := ?_) (a' := ?_) #[true, true, true, true, true, false, false, true, false, true, false, false, false, true, false, false, false, false, false] rfl rfl (any_of HT_.out (by kernel_rfl)) (fun _ _ _ h => h) (Or.inl ⟨by rfl, ?_⟩) ?_ ?_
              rotate_left
              ·intro w'
               go_simp
               with_reducible rfl
              rotate_left
              ·simp only [Act.put, List.setIfInBounds_toArray, List.set_cons_zero, List.set_cons_succ, i64_w, i32_w]
               rfl
              refine pure_ (i := 5) (N := some 37) (v := ?_) (a' := ?_) #[true, true, true, true, true, true, false, true, false, true, false, false, false, true, false, false, false, false, false] rfl rfl (any_of HT_.out (by kernel_rfl)) (fun _ _ _ h => h) (Or.inl ⟨by rfl, ?_⟩) ?_ ?_
              rotate_left
              ·intro w'
               go_simp
               with_reducible rfl
              rotate_left
              ·simp only [Act.put, List.setIfInBounds_toArray, List.set_cons_zero, List.set_cons_succ, i64_w, i32_w]
               rfl
              refine take_ (i := 6) (N := some 38) (v := ?_) (a' := ?_) #[true, true, true, true, true, true, true, true, false, true, false, false, false, true, false, false, false, false, false] rfl rfl (take_ofW HT_.out HW_.out (by kernel_rfl)) (fun _ _ _ h => h) (Or.inl ⟨by rfl, ?_⟩) hHeld ?_ ?_
              rotate_left
              ·rintro w' ⟨s0, s1, s2, s3, s4, s5, s6, s7, s8, s9, s10, s11⟩
               go_simp
               with_reducible rfl
              rotate_left
              ·simp only [Act.put, List.setIfInBounds_toArray, List.set_cons_zero, List.set_cons_succ, i64_w, i32_w]
               rfl
              refine take_ (i := 8) (N := some 40) (v := ?_) (a' := ?_) #[true, true, true, true, true, true, true, true, true, true, false, false, false, true, false, false, false, false, false] rfl rfl (take_ofW HT_.out HW_.out (by kernel_rfl)) (fun _ _ _ h => h) (Or.inl ⟨by rfl, ?_⟩) hHeld ?_ ?_
              rotate_left
              ·rintro w' ⟨s0, s1, s2, s3, s4, s5, s6, s7, s8, s9, s10, s11⟩
               go_simp
               with_reducible rfl
              rotate_left
              ·simp only [Act.put, List.setIfInBounds_toArray, List.set_cons_zero, List.set_cons_succ, i64_w, i32_w]
               rfl
              refine pure_ (i := 10) (N := some 42) (v := ?_) (a' := ?_) #[true, true, true, true, true, true, true, true, true, true, true, false, false, true, false, false, false, false, false] rfl rfl (any_of HT_.out (by kernel_rfl)) (fun _ _ _ h => h) (Or.inl ⟨by rfl, ?_⟩) ?_ ?_
              rotate_left
              ·intro w'
               go_simp
               with_reducible rfl
              rotate_left
              ·simp only [Act.put, List.setIfInBounds_toArray, List.set_cons_zero, List.set_cons_succ, i64_w, i32_w]
               rfl
              refine pure_ (i := 11) (N := some 43) (v := ?_) (a' := ?_) #[true, true, true, true, true, true, true, true, true, true, true, true, false, true, false, false, false, false, false] rfl rfl (any_of HT_.out (by kernel_rfl)) (fun _ _ _ h => h) (Or.inl ⟨by rfl, ?_⟩) ?_ ?_
              rotate_left
              ·intro w'
               go_simp
               with_reducible rfl
              rotate_left
              ·simp only [Act.put, List.setIfInBounds_toArray, List.set_cons_zero, List.set_cons_succ, i64_w, i32_w]
               rfl
              refine take_ (i := 12) (N := some 44) (v := ?_) (a' := ?_) #[true, true, true, true, true, true, true, true, true, true, true, true, true, true, false, false, false, false, false] rfl rfl (take_ofW HT_.out HW_.out (by kernel_rfl)) (fun _ _ _ h => h) (Or.inl ⟨by rfl, ?_⟩) hHeld ?_ ?_
              rotate_left
              ·rintro w' ⟨s0, s1, s2, s3, s4, s5, s6, s7, s8, s9, s10, s11⟩
               go_simp
               with_reducible rfl
              rotate_left
              ·simp only [Act.put, List.setIfInBounds_toArray, List.set_cons_zero, List.set_cons_succ, i64_w, i32_w]
               rfl
              refine take_ (i := 14) (N := some 46) (v := ?_) (a' := ?_) #[true, true, true, true, true, true, true, true, true, true, true, true, true, true, true, false, false, false, false] rfl rfl (take_ofW HT_.out HW_.out (by kernel_rfl)) (fun _ _ _ h => h) (Or.inl ⟨by rfl, ?_⟩) hHeld ?_ ?_
              rotate_left
              ·rintro w' ⟨s0, s1, s2, s3, s4, s5, s6, s7, s8, s9, s10, s11⟩
               go_simp
               with_reducible rfl
              rotate_left
              ·simp only [Act.put, List.setIfInBounds_toArray, List.set_cons_zero, List.set_cons_succ, i64_w, i32_w]
               rfl
              refine pure_ (i := 15) (N := some 47) (v := ?_) (a' := ?_) #[true, true, true, true, true, true, true, true, true, true, true, true, true, true, true, true, false, false, false] rfl rfl (any_of HT_.out (by kernel_rfl)) (fun _ _ _ h => h) (Or.inl ⟨by rfl, ?_⟩) ?_ ?_
              rotate_left
              ·intro w'
               go_simp
               with_reducible rfl
              rotate_left
              ·simp only [Act.put, List.setIfInBounds_toArray, List.set_cons_zero, List.set_cons_succ, i64_w, i32_w]
               rfl
              refine one_ (i := 16) (N := some 48) #[true, true, true, true, true, true, true, true, true, true, true, true, true, true, true, true, true, false, false] rfl rfl (one_of HT_.out (by kernel_rfl)) (by decide) (fun K hK => ?_)
              refine value_ (w1 := ?_) (v := ?_) (by rfl) rfl ?_ ?_
              rotate_left 2
              ·go_simp
               constructor
               ·rfl
               ·rfl
              refine hK.out _ _ ⟨(bC (bA BK214.out _) 0).trans rfl, (bC (bA BK214.out _) 1).trans rfl, (bC (bA BK214.out _) 2).trans rfl, (bC (bA BK214.out _) 3).trans rfl, (bC (bA BK214.out _) 4).trans rfl, (bC (bA BK224.out _) 0).trans rfl, (bC (bA BK224.out _) 1).trans rfl, (bC (bA BK224.out _) 2).trans rfl, (World.cell?_alloc_lt _ _ _ (World.block_lt_of_cell? _ _ (((HB.out.cell (World.block_lt_of_cell? w _ hw225_0)).trans hw225_0)))).trans (((HB.out.cell (World.block_lt_of_cell? w _ hw225_0)).trans hw225_0)), (World.cell?_alloc_lt _ _ _ (World.block_lt_of_cell? _ _ (((HB.out.cell (World.block_lt_of_cell? w _ hw225_1)).trans hw225_1)))).trans (((HB.out.cell (World.block_lt_of_cell? w _ hw225_1)).trans hw225_1)), (World.cell?_alloc_lt _ _ _ (World.block_lt_of_cell? _ _ (((HB.out.cell (World.block_lt_of_cell? w _ hw226_0)).trans hw226_0)))).trans (((HB.out.cell (World.block_lt_of_cell? w _ hw226_0)).trans hw226_0)), (World.cell?_alloc_lt _ _ _ (World.block_lt_of_cell? _ _ (((HB.out.cell (World.block_lt_of_cell? w _ hw226_1)).trans hw226_1)))).trans (((HB.out.cell (World.block_lt_of_cell? w _ hw226_1)).trans hw226_1))⟩ (fun hHeld => ?_)
              clear hK K
              refine norm_ (a' := ?_) ?_ ?_
              rotate_left
              ·show Act.put _ (some 48) _ = _
               simp only [Act.put, List.setIfInBounds_toArray, List.set_cons_zero, List.set_cons_succ, i64_w, i32_w]
               rfl
              refine one_ (i := 17) (N := some 49) #[true, true, true, true, true, true, true, true, true, true, true, true, true, true, true, true, true, true, false] rfl rfl (one_of HT_.out (by kernel_rfl)) (by decide) (fun K hK => ?_)
              refine Kd.R_append_step k48 (w0 := w) w.heap.size (by rfl) (.tmp 32) (.tmp 48) 46 48 (.agg #[(.int .i64 0), (.int .i64 0), (.int .i64 0)]) 24 rfl Try.underlying46 info48 rfl (by decide) (by omega) u10 x10_2 (⟨(rd_T43 l0_1 x6_2).f0, (rd_T43 l0_1 x6_2).f1, (rd_T48 (rd_L4 l1 x16_1) x23_2).f2⟩ : S48) [.int .i64 ((rd_T43 l0_1 x6_2).f0), .int .i64 ((rd_T43 l0_1 x6_2).f1), .int .i64 ((rd_T48 (rd_L4 l1 x16_1) x23_2).f2)] (fun k_ => k_ ≠ gb224) (fun _ => False) rfl rfl ?aP (fun _ hk => hk.elim) ?aF ?aO ?aB ?aS ?aL ?_
              (case aP => exact k48_mkM _ _ _ (⟨(rd_T43 l0_1 x6_2).f0, (rd_T43 l0_1 x6_2).f1, (rd_T48 (rd_L4 l1 x16_1) x23_2).f2⟩ : S48))
              (case aB => exact (by with_reducible repeat first | exact HB.out | apply lN | apply lD | refine lS ?_ GE214.out | refine lS ?_ GE224.out))
              (case aF => exact (fun k_ hk => Kd.freshB (g := gb224) (o := .cells #[.int .i64 ((rd_T48 (rd_L4 l1 x16_1) x23_2).f0), .int .i64 ((rd_T48 (rd_L4 l1 x16_1) x23_2).f1), .int .i64 ((rd_T48 (rd_L4 l1 x16_1) x23_2).f2)] 48 (0, 0)) (by (with_reducible repeat (first | refine bN ?_ _ | refine bD ?_ | refine bA ?_ _)); exact BK224.out) k_ hk))
              (case aO => exact HO_10.out)
              (case aS => exact (lZ (by with_reducible repeat first | exact HB.out | apply lN | apply lD | refine lS ?_ GE214.out | refine lS ?_ GE224.out)))
              (case aL => have := LMc16.out; omega)
              intro v228 w23 ho hb hg hat
              rw [← Ny227.out] at ho
              have HO229 := aK (ho); replace HO_7 := aK (Kd.S_after (ok := (fun k_ => k_ ≠ gb224)) (by (with_reducible repeat (first | apply Kd.S_alloc | apply Kd.S_drewN | apply Kd.S_drew)); exact Kd.S_mono HO_7.out (fun _ hk => ⟨hk.2, hk.1⟩)) hg hat); replace BK214 := aK (bG BK214.out hg (Kd.R_ne HO_10.out BK214.out (by decide))); replace BK224 := aK (bG BK224.out hg (Kd.R_away HO_10.out (fun _ hk => hk))); replace HB := aK (hb); (try clear HO_10); clear ho hb hg hat
              refine hK.out _ _ ⟨(bC BK214.out 0).trans rfl, (bC BK214.out 1).trans rfl, (bC BK214.out 2).trans rfl, (bC BK214.out 3).trans rfl, (bC BK214.out 4).trans rfl, (bC BK224.out 0).trans rfl, (bC BK224.out 1).trans rfl, (bC BK224.out 2).trans rfl, ((HB.out.cell (World.block_lt_of_cell? w _ hw225_0)).trans hw225_0), ((HB.out.cell (World.block_lt_of_cell? w _ hw225_1)).trans hw225_1), ((HB.out.cell (World.block_lt_of_cell? w _ hw226_0)).trans hw226_0), ((HB.out.cell (World.block_lt_of_cell? w _ hw226_1)).trans hw226_1)⟩ (fun hHeld => ?_)
              clear hK K
              refine norm_ (a' := ?_) ?_ ?_
              rotate_left
              ·show Act.put _ (some 49) _ = _
               simp only [Act.put, List.setIfInBounds_toArray, List.set_cons_zero, List.set_cons_succ, i64_w, i32_w]
               rfl
              refine pure_ (i := 18) (N := some 10) (v := ?_) (a' := ?_) #[true, true, true, true, true, true, true, true, true, true, true, true, true, true, true, true, true, true, true] rfl rfl (any_of HT_.out (by kernel_rfl)) (fun _ _ _ h => h) (Or.inl ⟨by rfl, ?_⟩) ?_ ?_
              rotate_left
              ·intro w'
               go_simp
               with_reducible rfl
              rotate_left
              ·simp only [Act.put, List.setIfInBounds_toArray, List.set_cons_zero, List.set_cons_succ, i64_w, i32_w]
               rfl
              refine done_ (done_of HT_.out (by kernel_rfl)) ?_
              try go_wp2
              go_roundg k2
              case measure => have := HK1.out; have := HK2.out; omega
              case rel => exact ⟨(wrap64 (x6_2 + 1)), (y227), (wrap64 (x23_2 + 1)), (by first | rfl | (simp; done) | (simp [*]; done)), (by first | rfl | (simp; done) | (simp [*]; done)), H', ⟨by have := HK1.out; have := HK2.out; omega⟩, ⟨by (with_reducible repeat (first | apply Kd.S_alloc | apply Kd.S_drewN | apply Kd.S_drew)); exact Kd.S_mono HO_7.out (fun _ hk => hk.2)⟩, ⟨by (with_reducible repeat (first | apply rA | apply rN | apply rD)); exact rM HO229.out (fun _ hk => trivial)⟩, ⟨BK214.out⟩, ⟨by with_reducible repeat first | exact HB.out | apply lN | apply lD | refine lS ?_ GE214.out | refine lS ?_ GE224.out⟩⟩
             ·rw [if_neg c16] at H
              exact absurd H (by simp)
            ·rw [if_neg c15] at H
             exact absurd H (by simp)
           ·rw [if_neg c14] at H
            have c14b0 : decide (x6_2 < (l0_1.length : Int)) = false := decide_eq_false c14; clear c14; have H' := aK H; clear H; have p223 : 0 ≤ (x23_2 : Int) := of_decide_eq_true (by first | (with_reducible assumption) | assumption); have q223 : x23_2 < ((rd_L4 l1 x16_1).length : Int) := of_decide_eq_true (by first | (with_reducible assumption) | assumption); obtain ⟨ad223, e223, hx223_0, hx223_1, hx223_2⟩ := at_T48 HR219_0.out x23_2 p223 q223
            cases e223
            replace hx223_0 := (HB.out.cell (World.block_lt_of_cell? w _ hx223_0)).trans hx223_0; replace hx223_1 := (HB.out.cell (World.block_lt_of_cell? w _ hx223_1)).trans hx223_1; replace hx223_2 := (HB.out.cell (World.block_lt_of_cell? w _ hx223_2)).trans hx223_2; replace p223 := eq_true p223; replace q223 := eq_true q223
            go_wp2_with (first | ((with_reducible refine gate_dst (N := 12) rfl ?_); (try (refine gate_guard (by rfl) ?_; dsimp only)); refine box_event ?hg (N := 12) ?hd (cs := #[.int .i64 0, .int .i64 0, .int .i64 0]) (t := 48) ?hr ?_; (case hd => rfl); (case hg => rfl); (case hr => first | (go_simp; done) | (go_simp; rfl)); intro gb224 hg w24 hbox hb; have BK224 := aK (hbox); have GW224 := aK ((by rw [hg]; exact (lZ (by with_reducible repeat first | exact HB.out | apply lN | apply lD | refine lS ?_ GE214.out)) : w.heap.size ≤ gb224)); have GE224 := aK ((by rw [hg]; exact (lZ (by with_reducible repeat first | exact HB.out | apply lN | apply lD | refine lS ?_ GE214.out)) : w.heap.size ≤ gb224)); have NB214_224 := aK ((by rw [hg]; exact Nat.ne_of_lt (blk_lt BK214.out) : gb214 ≠ gb224)); have NB224_214 := aK ((by rw [hg]; exact Nat.ne_of_gt (blk_lt BK214.out) : gb224 ≠ gb214)); replace HO_7 := aK (Kd.S_below (Kd.S_elderB HO_7.out gb224 (Nat.le_of_eq hg.symm)) hb); replace HO_10 := aK (rB (Kd.R_elderB HO_10.out gb224 (Nat.le_of_eq hg.symm)) hb); replace BK214 := aK (bB BK214.out hb); replace HB := aK (lT (by with_reducible repeat first | exact HB.out | refine lS ?_ GE214.out) hb); clear hb hbox hg; have hnb25 := NB224_214.out; have hnc25 := NB214_224.out; have hcz26_0 := bc BK224.out 0 rfl; have hcz26_1 := bc BK224.out 1 rfl; have hcz26_2 := bc BK224.out 2 rfl; have hfz26_0 := bF BK224.out 0; have hfz26_1 := bF BK224.out 1; have hfz26_2 := bF BK224.out 2; have hcz27_0 := bc BK214.out 0 rfl; have hcz27_1 := bc BK214.out 1 rfl; have hcz27_2 := bc BK214.out 2 rfl; have hcz27_3 := bc BK214.out 3 rfl; have hcz27_4 := bc BK214.out 4 rfl; have hfz27_0 := bF BK214.out 0; have hfz27_1 := bF BK214.out 1; have hfz27_2 := bF BK214.out 2; have hfz27_3 := bF BK214.out 3; have hfz27_4 := bF BK214.out 4))
            go_roundg k2
            case measure => have := HK1.out; have := HK2.out; omega
            case rel => exact ⟨(wrap64 (x6_2 + 1)), (x10_2), (wrap64 (x23_2 + 1)), (by first | rfl | (simp; done) | (simp [*]; done)), (by first | rfl | (simp; done) | (simp [*]; done)), H', ⟨by have := HK1.out; have := HK2.out; omega⟩, ⟨by (with_reducible repeat (first | apply Kd.S_alloc | apply Kd.S_drewN | apply Kd.S_drew)); exact Kd.S_mono (Kd.S_far (p := ⟨gb224, 2, none⟩) (Kd.S_far (p := ⟨gb224, 1, none⟩) (Kd.S_far (p := ⟨gb224, 0, none⟩) (Kd.S_mono HO_7.out (fun k_ hk => (⟨hk, hk.2⟩ : _ ∧ k_ ≠ gb224))) (fun _ hk => hk.2) (.int .i64 ((rd_T48 (rd_L4 l1 x16_1) x23_2).f0))) (fun _ hk => hk.2) (.int .i64 ((rd_T48 (rd_L4 l1 x16_1) x23_2).f1))) (fun _ hk => hk.2) (.int .i64 ((rd_T48 (rd_L4 l1 x16_1) x23_2).f2))) (fun _ hk => hk.1.1)⟩, ⟨by (with_reducible repeat (first | apply rA | apply rN | apply rD)); exact rM (rF (p := ⟨gb224, 2, none⟩) (rF (p := ⟨gb224, 1, none⟩) (rF (p := ⟨gb224, 0, none⟩) (rM HO_10.out (fun k_ hk => (⟨hk, hk.2⟩ : _ ∧ k_ ≠ gb224))) (fun _ hk => hk.2) (.int .i64 ((rd_T48 (rd_L4 l1 x16_1) x23_2).f0))) (fun _ hk => hk.2) (.int .i64 ((rd_T48 (rd_L4 l1 x16_1) x23_2).f1))) (fun _ hk => hk.2) (.int .i64 ((rd_T48 (rd_L4 l1 x16_1) x23_2).f2))) (fun _ hk => trivial)⟩, ⟨(bR (bR (bR BK214.out NB214_224.out _) NB214_224.out _) NB214_224.out _)⟩, ⟨by with_reducible repeat first | exact HB.out | apply lN | apply lD | refine lS ?_ GE214.out | refine lS ?_ GE224.out⟩⟩
          ·rw [if_neg c13] at H
           exact absurd H (by simp)
         ·rw [if_neg c12] at H
          exact absurd H (by simp)
        ·rw [if_neg c11] at H
         have c11b0 : decide (x23_2 < ((rd_L4 l1 x16_1).length : Int)) = false := decide_eq_false c11; clear c11
         by_cases c28 : x7_1.length < 5864062014805
         ·rw [if_pos c28] at H
          have LMc28 := aK c28; clear c28; obtain ⟨y230, hy230⟩ : ∃ y_ : List (List (S48)), y_ = (x7_1 ++ [x10_2]) := ⟨_, rfl⟩; replace H : (serifref09_Outline.l0 k2 x6_2 y230 l1 (l1.length : Int) (wrap64 (x16_1 + 1)) l0_0 l0_1 l0_2 l0_3 l0_4) = some (r1, r2) := by first | (rw [hy230]; with_reducible exact H) | (have H2_ := (Option.bind_some _ _).symm.trans H; rw [hy230]; with_reducible exact H2_) | (have H2_ := (Option.bind_some _ _).symm.trans H; with_reducible exact H2_) | with_reducible exact H | (rw [hy230]; exact H) | exact H
          have Ny230 := aK hy230; clear hy230; have H' := aK H; clear H; obtain ⟨Ao30, co30, eo30⟩ := Kd.R_slice HO_10.out; subst eo30
          go_wp2_with (first | ((with_reducible refine gate_builtin (b := .append) (xs := #[.tmp 53, .tmp 55]) rfl ?_); (try (refine gate_guard (by rfl) ?_; dsimp only)); at_builtin; refine Kd.S_append (Kd.slice 48 k48) (w0 := w) w.heap.size rfl (.tmp 53) (.tmp 55) 50 46 (.slice none 0 0) 24 rfl Try.underlying50 info46 rfl (by decide) (by omega) u7 x7_1 x10_2 [.slice Ao30 x10_2.length co30] (fun _ => True) (fun k_ => some k_ = oB (.slice Ao30 x10_2.length co30)) rfl rfl ?aP (fun k_ hk_ => ((rM (ok' := fun k_ => ((fun _ => True)) k_ ∧ some k_ ≠ oB u7) (Kd.R_apart' (HO_10.out) (Kd.S_typed HO_7.out) (by decide)) (fun k_ hk => ⟨trivial, hk.2⟩))).1 k_ hk_.symm) ?aF ?aO ?aB ?aS ?aL ?_; (case aP => exact Kd.M_row (rM (Kd.R_tight rfl (rM (ok' := fun k_ => ((fun _ => True)) k_ ∧ some k_ ≠ oB u7) (Kd.R_apart' (HO_10.out) (Kd.S_typed HO_7.out) (by decide)) (fun k_ hk => ⟨trivial, hk.2⟩))) (fun _ h_ => h_))); (case aB => exact (by with_reducible repeat first | exact HB.out | apply lN | apply lD | refine lS ?_ GE214.out)); (case aF => exact (fun _ _ => trivial)); (case aO => exact (by (with_reducible repeat (first | apply Kd.S_alloc | apply Kd.S_drewN | apply Kd.S_drew)); exact Kd.S_mono HO_7.out (fun k_ hk => ⟨trivial, fun e_ => hk e_⟩))); (case aS => exact (lZ (by with_reducible repeat first | exact HB.out | apply lN | apply lD | refine lS ?_ GE214.out))); (case aL => have := LMc28.out; omega); intro v231 w29 ho hb hg hat; rw [← Ny230.out] at ho; have HO232 := aK (ho); replace BK214 := aK (bG BK214.out hg (Kd.S_ne HO_7.out BK214.out (by decide))); replace HB := aK (hb); (try clear HO_10 HO_7); clear ho hb hg hat))
          go_roundg k2
          case measure => have := HK1.out; have := HK2.out; omega
          case rel => exact ⟨(x6_2), (y230), (wrap64 (x16_1 + 1)), (by first | rfl | (simp; done) | (simp [*]; done)), (by first | rfl | (simp; done) | (simp [*]; done)), H', ⟨by have := HK1.out; have := HK2.out; omega⟩, ⟨by (with_reducible repeat (first | apply Kd.S_alloc | apply Kd.S_drewN | apply Kd.S_drew)); exact HO232.out⟩, ⟨BK214.out⟩, ⟨by with_reducible repeat first | exact HB.out | apply lN | apply lD | refine lS ?_ GE214.out⟩⟩
         ·rw [if_neg c28] at H
          exact absurd H (by simp)
     ·rw [if_neg c8] at H
      exact absurd H (by simp)
    ·rw [if_neg c7] at H
     exact absurd H (by simp)
   ·rw [if_neg c6] at H
    have c6b0 : decide (x16_1 < (l1.length : Int)) = false := decide_eq_false c6; clear c6; replace H := Option.bind_eq_some_iff.mp H; obtain ⟨t218, A310, H⟩ := H; replace H : (if t218 = true then (if x6_1 = (l0_1.length : Int) then (some (x7_1, 0)) else (some (([] : List (List (S48))), 91))) else (some (([] : List (List (S48))), 91))) = some (r1, r2) := H; have A31 := aK A310; clear A310
    by_cases c32 : t218 = true
    ·subst c32
     have H1 : (if x6_1 = (l0_1.length : Int) then (some (x7_1, 0)) else (some (([] : List (List (S48))), 91))) = some (r1, r2) := by rw [if_pos rfl] at H; exact H
     clear H; have H := H1; clear H1
     by_cases c33 : x6_1 = (l0_1.length : Int)
     ·rw [if_pos c33] at H
      have c33b0 : (x6_1 == (l0_1.length : Int)) = true := beq_iff_eq.mpr c33; have c33b1 : (x6_1 != (l0_1.length : Int)) = false := bne_eq_false_iff_eq.mpr c33; clear c33
      simp only [Option.some.injEq, Prod.mk.injEq] at H
      obtain ⟨rfl, rfl⟩ := H; have hcz34_0 := bc BK214.out 0 rfl; have hcz34_1 := bc BK214.out 1 rfl; have hcz34_2 := bc BK214.out 2 rfl; have hcz34_3 := bc BK214.out 3 rfl; have hcz34_4 := bc BK214.out 4 rfl; have hfz34_0 := bF BK214.out 0; have hfz34_1 := bF BK214.out 1; have hfz34_2 := bF BK214.out 2; have hfz34_3 := bF BK214.out 3; have hfz34_4 := bF BK214.out 4
      go_wp2_with (first | ((with_reducible refine gate_callee (f := 27) rfl ?_); refine goesL_ (some 59) rfl rfl Try.func27 (by kernel_rfl) rfl #[.agg #[.slice A0_0 l0_0.length c0_0, .slice A0_1 l0_1.length c0_1, .slice A0_2 l0_2.length c0_2, .slice A0_3 l0_3.length c0_3, .slice A0_4 l0_4.length c0_4]] rfl (by (try simp only [List.map_toArray, List.map_cons, List.map_nil]); first | done | rfl | (simp only [List.length_drop, List.length_take]; rfl)) ?_; (with_reducible refine (serifref09_Sound.calls k1 _ _ l0_0 _ _ l0_1 _ _ l0_2 _ _ l0_3 _ _ l0_4 true _ ?side1 ?side2 ?side3 ?side4 ?side5 ?side6 ?side7 ?side8 ?side9 ?side10 A31.out).mono ?_); (case side1 => repeat (first | exact (Kd.C_below HR0_0.out HB.out) | (with_reducible refine cA ?_ _) | (with_reducible refine cN ?_ _) | (with_reducible refine cD ?_))); (case side2 => exact HC0_0.out); (case side3 => repeat (first | exact (Kd.C_below HR0_1.out HB.out) | (with_reducible refine cA ?_ _) | (with_reducible refine cN ?_ _) | (with_reducible refine cD ?_))); (case side4 => exact HC0_1.out); (case side5 => repeat (first | exact (Kd.C_below HR0_2.out HB.out) | (with_reducible refine cA ?_ _) | (with_reducible refine cN ?_ _) | (with_reducible refine cD ?_))); (case side6 => exact HC0_2.out); (case side7 => repeat (first | exact (Kd.C_below HR0_3.out HB.out) | (with_reducible refine cA ?_ _) | (with_reducible refine cN ?_ _) | (with_reducible refine cD ?_))); (case side8 => exact HC0_3.out); (case side9 => repeat (first | exact (Kd.C_below HR0_4.out HB.out) | (with_reducible refine cA ?_ _) | (with_reducible refine cN ?_ _) | (with_reducible refine cD ?_))); (case side10 => exact HC0_4.out); rintro e w35 ⟨rfl, hb⟩; refine ⟨_, rfl, ?_⟩; replace HO_7 := aK (Kd.S_below HO_7.out hb); replace BK214 := aK (bB BK214.out hb); replace HB := aK (lT (by with_reducible repeat first | exact HB.out | refine lS ?_ GE214.out) hb); (try clear hb); (try clear hb2); (try clear hk); (try clear hi); have hcz36_0 := bc BK214.out 0 rfl; have hcz36_1 := bc BK214.out 1 rfl; have hcz36_2 := bc BK214.out 2 rfl; have hcz36_3 := bc BK214.out 3 rfl; have hcz36_4 := bc BK214.out 4 rfl; have hfz36_0 := bF BK214.out 0; have hfz36_1 := bF BK214.out 1; have hfz36_2 := bF BK214.out 2; have hfz36_3 := bF BK214.out 3; have hfz36_4 := bF BK214.out 4))
      go_ret2
      exact ⟨_, by first | rfl | (simp [errW_none, errW_some] <;> rfl) | (simp [*, errW_none, errW_some] <;> rfl), by (with_reducible repeat (first | apply Kd.S_alloc | apply Kd.S_drewN | apply Kd.S_drew)); exact HO_7.out, by with_reducible repeat first | exact HB.out | apply lN | apply lD | refine lS ?_ GE214.out⟩
     ·rw [if_neg c33] at H
      have c33b0 : (x6_1 == (l0_1.length : Int)) = false := beq_eq_false_iff_ne.mpr c33; have c33b1 : (x6_1 != (l0_1.length : Int)) = true := bne_iff_ne.mpr c33
      simp only [Option.some.injEq, Prod.mk.injEq] at H
      obtain ⟨rfl, rfl⟩ := H; have hcz37_0 := bc BK214.out 0 rfl; have hcz37_1 := bc BK214.out 1 rfl; have hcz37_2 := bc BK214.out 2 rfl; have hcz37_3 := bc BK214.out 3 rfl; have hcz37_4 := bc BK214.out 4 rfl; have hfz37_0 := bF BK214.out 0; have hfz37_1 := bF BK214.out 1; have hfz37_2 := bF BK214.out 2; have hfz37_3 := bF BK214.out 3; have hfz37_4 := bF BK214.out 4
      go_wp2_with (first | ((with_reducible refine gate_callee (f := 27) rfl ?_); refine goesL_ (some 59) rfl rfl Try.func27 (by kernel_rfl) rfl #[.agg #[.slice A0_0 l0_0.length c0_0, .slice A0_1 l0_1.length c0_1, .slice A0_2 l0_2.length c0_2, .slice A0_3 l0_3.length c0_3, .slice A0_4 l0_4.length c0_4]] rfl (by (try simp only [List.map_toArray, List.map_cons, List.map_nil]); first | done | rfl | (simp only [List.length_drop, List.length_take]; rfl)) ?_; (with_reducible refine (serifref09_Sound.calls k1 _ _ l0_0 _ _ l0_1 _ _ l0_2 _ _ l0_3 _ _ l0_4 true _ ?side1 ?side2 ?side3 ?side4 ?side5 ?side6 ?side7 ?side8 ?side9 ?side10 A31.out).mono ?_); (case side1 => repeat (first | exact (Kd.C_below HR0_0.out HB.out) | (with_reducible refine cA ?_ _) | (with_reducible refine cN ?_ _) | (with_reducible refine cD ?_))); (case side2 => exact HC0_0.out); (case side3 => repeat (first | exact (Kd.C_below HR0_1.out HB.out) | (with_reducible refine cA ?_ _) | (with_reducible refine cN ?_ _) | (with_reducible refine cD ?_))); (case side4 => exact HC0_1.out); (case side5 => repeat (first | exact (Kd.C_below HR0_2.out HB.out) | (with_reducible refine cA ?_ _) | (with_reducible refine cN ?_ _) | (with_reducible refine cD ?_))); (case side6 => exact HC0_2.out); (case side7 => repeat (first | exact (Kd.C_below HR0_3.out HB.out) | (with_reducible refine cA ?_ _) | (with_reducible refine cN ?_ _) | (with_reducible refine cD ?_))); (case side8 => exact HC0_3.out); (case side9 => repeat (first | exact (Kd.C_below HR0_4.out HB.out) | (with_reducible refine cA ?_ _) | (with_reducible refine cN ?_ _) | (with_reducible refine cD ?_))); (case side10 => exact HC0_4.out); rintro e w38 ⟨rfl, hb⟩; refine ⟨_, rfl, ?_⟩; replace HO_7 := aK (Kd.S_below HO_7.out hb); replace BK214 := aK (bB BK214.out hb); replace HB := aK (lT (by with_reducible repeat first | exact HB.out | refine lS ?_ GE214.out) hb); (try clear hb); (try clear hb2); (try clear hk); (try clear hi); have hcz39_0 := bc BK214.out 0 rfl; have hcz39_1 := bc BK214.out 1 rfl; have hcz39_2 := bc BK214.out 2 rfl; have hcz39_3 := bc BK214.out 3 rfl; have hcz39_4 := bc BK214.out 4 rfl; have hfz39_0 := bF BK214.out 0; have hfz39_1 := bF BK214.out 1; have hfz39_2 := bF BK214.out 2; have hfz39_3 := bF BK214.out 3; have hfz39_4 := bF BK214.out 4))
      go_ret2
      exact ⟨_, by first | rfl | (simp [errW_none, errW_some] <;> rfl) | (simp [*, errW_none, errW_some] <;> rfl), by first | exact Kd.S_nil _ _ _ _ _ | exact Kd.N_nil _ _ _ _ _ | exact Kd.V_nil _ _ _ _ _ | exact Kd.Q_nil _ _ _ _ _ | exact Kd.R_nil _ _ _ _ _, by with_reducible repeat first | exact HB.out | apply lN | apply lD | refine lS ?_ GE214.out⟩
    ·replace c32 := Bool.eq_false_iff.mpr c32
     subst c32; have H1 : (some (([] : List (List (S48))), 91)) = some (r1, r2) := by rw [if_neg (show ¬ (false = true) by decide)] at H; exact H
     clear H; have H := H1; clear H1
     simp only [Option.some.injEq, Prod.mk.injEq] at H
     obtain ⟨rfl, rfl⟩ := H; have hcz40_0 := bc BK214.out 0 rfl; have hcz40_1 := bc BK214.out 1 rfl; have hcz40_2 := bc BK214.out 2 rfl; have hcz40_3 := bc BK214.out 3 rfl; have hcz40_4 := bc BK214.out 4 rfl; have hfz40_0 := bF BK214.out 0; have hfz40_1 := bF BK214.out 1; have hfz40_2 := bF BK214.out 2; have hfz40_3 := bF BK214.out 3; have hfz40_4 := bF BK214.out 4
     go_wp2_with (first | ((with_reducible refine gate_callee (f := 27) rfl ?_); refine goesL_ (some 59) rfl rfl Try.func27 (by kernel_rfl) rfl #[.agg #[.slice A0_0 l0_0.length c0_0, .slice A0_1 l0_1.length c0_1, .slice A0_2 l0_2.length c0_2, .slice A0_3 l0_3.length c0_3, .slice A0_4 l0_4.length c0_4]] rfl (by (try simp only [List.map_toArray, List.map_cons, List.map_nil]); first | done | rfl | (simp only [List.length_drop, List.length_take]; rfl)) ?_; (with_reducible refine (serifref09_Sound.calls k1 _ _ l0_0 _ _ l0_1 _ _ l0_2 _ _ l0_3 _ _ l0_4 false _ ?side1 ?side2 ?side3 ?side4 ?side5 ?side6 ?side7 ?side8 ?side9 ?side10 A31.out).mono ?_); (case side1 => repeat (first | exact (Kd.C_below HR0_0.out HB.out) | (with_reducible refine cA ?_ _) | (with_reducible refine cN ?_ _) | (with_reducible refine cD ?_))); (case side2 => exact HC0_0.out); (case side3 => repeat (first | exact (Kd.C_below HR0_1.out HB.out) | (with_reducible refine cA ?_ _) | (with_reducible refine cN ?_ _) | (with_reducible refine cD ?_))); (case side4 => exact HC0_1.out); (case side5 => repeat (first | exact (Kd.C_below HR0_2.out HB.out) | (with_reducible refine cA ?_ _) | (with_reducible refine cN ?_ _) | (with_reducible refine cD ?_))); (case side6 => exact HC0_2.out); (case side7 => repeat (first | exact (Kd.C_below HR0_3.out HB.out) | (with_reducible refine cA ?_ _) | (with_reducible refine cN ?_ _) | (with_reducible refine cD ?_))); (case side8 => exact HC0_3.out); (case side9 => repeat (first | exact (Kd.C_below HR0_4.out HB.out) | (with_reducible refine cA ?_ _) | (with_reducible refine cN ?_ _) | (with_reducible refine cD ?_))); (case side10 => exact HC0_4.out); rintro e w41 ⟨rfl, hb⟩; refine ⟨_, rfl, ?_⟩; replace HO_7 := aK (Kd.S_below HO_7.out hb); replace BK214 := aK (bB BK214.out hb); replace HB := aK (lT (by with_reducible repeat first | exact HB.out | refine lS ?_ GE214.out) hb); (try clear hb); (try clear hb2); (try clear hk); (try clear hi)))
     go_ret2
     exact ⟨_, by first | rfl | (simp [errW_none, errW_some] <;> rfl) | (simp [*, errW_none, errW_some] <;> rfl), by first | exact Kd.S_nil _ _ _ _ _ | exact Kd.N_nil _ _ _ _ _ | exact Kd.V_nil _ _ _ _ _ | exact Kd.Q_nil _ _ _ _ _ | exact Kd.R_nil _ _ _ _ _, by with_reducible repeat first | exact HB.out | apply lN | apply lD | refine lS ?_ GE214.out⟩

end Go.Proofs.Ytneiaobhjjbedaa.PGstateZones
