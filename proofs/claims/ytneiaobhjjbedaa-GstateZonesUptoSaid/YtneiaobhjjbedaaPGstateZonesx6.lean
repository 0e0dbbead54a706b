/- A part of the proof of the law GstateZones: plain functions and what the machine's calls of them come to; printed by wip/extprint.py out of the kit's printer and contracts of our own. No condition but an answer of the plain function. -/
import Derived.Test.YtneiaobhjjbedaaPGstateZonesx0
import Derived.Test.YtneiaobhjjbedaaPGstateZonesx2
import Derived.Test.YtneiaobhjjbedaaPGstateZonesx4
namespace Go.Proofs.Ytneiaobhjjbedaa.PGstateZones
open Go.RowKit Go.Proofs.YtneiaobhjjbedaaW.PrintWords Go.Proofs.YtneiaobhjjbedaaW.PrintLast Go.Proofs.YtneiaobhjjbedaaW.PrintMore
attribute [local go_sem] max2_int min2_int max_two min_two max_three min_three max_four min_four   -- for this text's walks alone
open Go.Value renaming ownBlock → oB
open Aside0 renaming mk → aK
open Go.Proofs.Ytneiaobhjjbedaa (st1 st2 st3 st5 st55 bc)
open Go.Proofs.YtneiaobhjjbedaaW.PrintWords renaming blk_drewN → bN, blk_drew → bD, blk_alloc → bA, below_alloc → lA, pw_below_drewN → lN, below_drew1 → lD, below_set → lS, blk_below → bB, blk_grown → bG, blk_cell → bC, blk_frozen → bF, blk_far → bR, blk_put → bP, below_size → lZ, below_step → lT
open Go.Proofs.YtneiaobhjjbedaaW.PrintWords.Kd renaming R_alloc → rA, R_drewN → rN, R_drew → rD, R_far → rF, R_mono → rM, R_below → rB, R_types → rT, R_grown → rG, C_alloc → cA, C_drewN → cN, C_drew → cD, R_reads' → rR
set_option linter.unusedVariables false
set_option linter.unusedSimpArgs false

attribute [local go_sem high] eqA48
/-! ### gstate_Outline: function 29 -/
mutual
def gstate_Outline.l0 : Nat → List (List (S48)) → Int → List (List (S48)) → Int → Int → List (S43) → List (S43) → List Bool → List Bool → List Int → Option ((List (List (S48))) × Int)
 | 0, _, _, _, _, _, _, _, _, _, _ => none
 | k + 1, x1, x6, x15, x16, x17, x234000, x234001, x234002, x234003, x234004 => if x17 < x16 then (if 0 ≤ x17 then (if x17 < (x15.length : Int) then (gstate_Outline.l0 k x1 (wrap64 (x6 + ((rd_L4 x15 x17).length : Int))) x15 x16 (wrap64 (x17 + 1)) x234000 x234001 x234002 x234003 x234004) else (none)) else (none)) else ((gstate_Sound.f k x234000 x234001 x234002 x234003 x234004).bind fun t235 => (if t235 = true then (gstate_Outline.j1 k x1 (x6 != (x234001.length : Int)) x234000 x234001 x234002 x234003 x234004) else (gstate_Outline.j1 k x1 true x234000 x234001 x234002 x234003 x234004)))
def gstate_Outline.j1 : Nat → List (List (S48)) → Bool → List (S43) → List (S43) → List Bool → List Bool → List Int → Option ((List (List (S48))) × Int)
 | 0, _, _, _, _, _, _, _ => none
 | k + 1, x1, x35, x234000, x234001, x234002, x234003, x234004 => if x35 = true then (some (([] : List (List (S48))), 91)) else (if 0 ≤ (x1.length : Int) then (if ((x1.length : Int) : Int).toNat ≤ 11728124029610 then (gstate_Outline.l1 k (List.replicate ((x1.length : Int) : Int).toNat []) 0 x1 (x1.length : Int) 0 x234000 x234001 x234002 x234003 x234004) else (none)) else (none))
def gstate_Outline.l1 : Nat → List (List (S48)) → Int → List (List (S48)) → Int → Int → List (S43) → List (S43) → List Bool → List Bool → List Int → Option ((List (List (S48))) × Int)
 | 0, _, _, _, _, _, _, _, _, _, _ => none
 | k + 1, x9, x10, x39, x40, x41, x234000, x234001, x234002, x234003, x234004 => if x41 < x40 then (if 0 ≤ x41 then (if x41 < (x39.length : Int) then (gstate_Outline.l2 k x9 x10 x41 x39 x40 x41 (rd_L4 x39 x41) ((rd_L4 x39 x41).length : Int) 0 x234000 x234001 x234002 x234003 x234004) else (none)) else (none)) else (some (x9, 0))
def gstate_Outline.l2 : Nat → List (List (S48)) → Int → Int → List (List (S48)) → Int → Int → List (S48) → Int → Int → List (S43) → List (S43) → List Bool → List Bool → List Int → Option ((List (List (S48))) × Int)
 | 0, _, _, _, _, _, _, _, _, _, _, _, _, _, _ => none
 | k + 1, x9, x10, x11, x39, x40, x41, x46, x47, x48, x234000, x234001, x234002, x234003, x234004 => if x48 < x47 then (if 0 ≤ x48 then (if x48 < (x46.length : Int) then (if 0 ≤ x11 then (if x11 < (x9.length : Int) then (if 0 ≤ x10 then (if x10 < (x234001.length : Int) then (if (rd_L4 x9 x11).length < 5864062014805 then (gstate_Outline.l2 k (x9.set (x11 : Int).toNat ((rd_L4 x9 x11) ++ [(⟨(rd_T43 x234001 x10).f0, (rd_T43 x234001 x10).f1, (rd_T48 x46 x48).f2⟩ : S48)])) (wrap64 (x10 + 1)) x11 x39 x40 x41 x46 x47 (wrap64 (x48 + 1)) x234000 x234001 x234002 x234003 x234004) else (none)) else (none)) else (none)) else (none)) else (none)) else (none)) else (none)) else (gstate_Outline.l1 k x9 x10 x39 x40 (wrap64 (x41 + 1)) x234000 x234001 x234002 x234003 x234004)
end
def gstate_Outline.f (k : Nat) (l0_0 : List (S43)) (l0_1 : List (S43)) (l0_2 : List Bool) (l0_3 : List Bool) (l0_4 : List Int) (l1 : List (List (S48))) : Option ((List (List (S48))) × Int) := gstate_Outline.l0 k l1 0 l1 (l1.length : Int) 0 l0_0 l0_1 l0_2 l0_3 l0_4
theorem gstate_Outline.mono_l : ∀ k, (∀ y0 y1 y2 y3 y4 y5 y6 y7 y8 y9, LeO (gstate_Outline.l0 k y0 y1 y2 y3 y4 y5 y6 y7 y8 y9) (gstate_Outline.l0 (k + 1) y0 y1 y2 y3 y4 y5 y6 y7 y8 y9)) ∧ (∀ y0 y1 y2 y3 y4 y5 y6, LeO (gstate_Outline.j1 k y0 y1 y2 y3 y4 y5 y6) (gstate_Outline.j1 (k + 1) y0 y1 y2 y3 y4 y5 y6)) ∧ (∀ y0 y1 y2 y3 y4 y5 y6 y7 y8 y9, LeO (gstate_Outline.l1 k y0 y1 y2 y3 y4 y5 y6 y7 y8 y9) (gstate_Outline.l1 (k + 1) y0 y1 y2 y3 y4 y5 y6 y7 y8 y9)) ∧ (∀ y0 y1 y2 y3 y4 y5 y6 y7 y8 y9 y10 y11 y12 y13, LeO (gstate_Outline.l2 k y0 y1 y2 y3 y4 y5 y6 y7 y8 y9 y10 y11 y12 y13) (gstate_Outline.l2 (k + 1) y0 y1 y2 y3 y4 y5 y6 y7 y8 y9 y10 y11 y12 y13))
 | 0 => ⟨fun _ _ _ _ _ _ _ _ _ _ r h => by simp [gstate_Outline.l0] at h, fun _ _ _ _ _ _ _ r h => by simp [gstate_Outline.j1] at h, fun _ _ _ _ _ _ _ _ _ _ r h => by simp [gstate_Outline.l1] at h, fun _ _ _ _ _ _ _ _ _ _ _ _ _ _ r h => by simp [gstate_Outline.l2] at h⟩
 | k + 1 => by
  obtain ⟨ih0, ih1, ih2, ih3⟩ := gstate_Outline.mono_l k
  refine ⟨?_, ?_, ?_, ?_⟩
  ·intro y0 y1 y2 y3 y4 y5 y6 y7 y8 y9
   unfold gstate_Outline.l0
   repeat' first
   | (with_reducible exact ih0 _ _ _ _ _ _ _ _ _ _)
   | (with_reducible exact ih1 _ _ _ _ _ _ _)
   | (with_reducible exact ih2 _ _ _ _ _ _ _ _ _ _)
   | (with_reducible exact ih3 _ _ _ _ _ _ _ _ _ _ _ _ _ _)
   | (with_reducible exact gstate_Sound.mono _ _ _ _ _ _)
   | (with_reducible exact LeO.refl _)
   | (with_reducible exact LeO.none _)
   | (with_reducible refine LeO.ite ?_ ?_)
   | (with_reducible refine LeO.bind ?_ (fun _ => ?_))
   | exact ih0 _ _ _ _ _ _ _ _ _ _
   | exact ih1 _ _ _ _ _ _ _
   | exact ih2 _ _ _ _ _ _ _ _ _ _
   | exact ih3 _ _ _ _ _ _ _ _ _ _ _ _ _ _
   | exact gstate_Sound.mono _ _ _ _ _ _
   | exact LeO.none _
   | refine LeO.ite ?_ ?_
   | refine LeO.bind ?_ (fun _ => ?_)
  ·intro y0 y1 y2 y3 y4 y5 y6
   unfold gstate_Outline.j1
   repeat' first
   | (with_reducible exact ih0 _ _ _ _ _ _ _ _ _ _)
   | (with_reducible exact ih1 _ _ _ _ _ _ _)
   | (with_reducible exact ih2 _ _ _ _ _ _ _ _ _ _)
   | (with_reducible exact ih3 _ _ _ _ _ _ _ _ _ _ _ _ _ _)
   | (with_reducible exact gstate_Sound.mono _ _ _ _ _ _)
   | (with_reducible exact LeO.refl _)
   | (with_reducible exact LeO.none _)
   | (with_reducible refine LeO.ite ?_ ?_)
   | (with_reducible refine LeO.bind ?_ (fun _ => ?_))
   | exact ih0 _ _ _ _ _ _ _ _ _ _
   | exact ih1 _ _ _ _ _ _ _
   | exact ih2 _ _ _ _ _ _ _ _ _ _
   | exact ih3 _ _ _ _ _ _ _ _ _ _ _ _ _ _
   | exact gstate_Sound.mono _ _ _ _ _ _
   | exact LeO.none _
   | refine LeO.ite ?_ ?_
   | refine LeO.bind ?_ (fun _ => ?_)
  ·intro y0 y1 y2 y3 y4 y5 y6 y7 y8 y9
   unfold gstate_Outline.l1
   repeat' first
   | (with_reducible exact ih0 _ _ _ _ _ _ _ _ _ _)
   | (with_reducible exact ih1 _ _ _ _ _ _ _)
   | (with_reducible exact ih2 _ _ _ _ _ _ _ _ _ _)
   | (with_reducible exact ih3 _ _ _ _ _ _ _ _ _ _ _ _ _ _)
   | (with_reducible exact gstate_Sound.mono _ _ _ _ _ _)
   | (with_reducible exact LeO.refl _)
   | (with_reducible exact LeO.none _)
   | (with_reducible refine LeO.ite ?_ ?_)
   | (with_reducible refine LeO.bind ?_ (fun _ => ?_))
   | exact ih0 _ _ _ _ _ _ _ _ _ _
   | exact ih1 _ _ _ _ _ _ _
   | exact ih2 _ _ _ _ _ _ _ _ _ _
   | exact ih3 _ _ _ _ _ _ _ _ _ _ _ _ _ _
   | exact gstate_Sound.mono _ _ _ _ _ _
   | exact LeO.none _
   | refine LeO.ite ?_ ?_
   | refine LeO.bind ?_ (fun _ => ?_)
  ·intro y0 y1 y2 y3 y4 y5 y6 y7 y8 y9 y10 y11 y12 y13
   unfold gstate_Outline.l2
   repeat' first
   | (with_reducible exact ih0 _ _ _ _ _ _ _ _ _ _)
   | (with_reducible exact ih1 _ _ _ _ _ _ _)
   | (with_reducible exact ih2 _ _ _ _ _ _ _ _ _ _)
   | (with_reducible exact ih3 _ _ _ _ _ _ _ _ _ _ _ _ _ _)
   | (with_reducible exact gstate_Sound.mono _ _ _ _ _ _)
   | (with_reducible exact LeO.refl _)
   | (with_reducible exact LeO.none _)
   | (with_reducible refine LeO.ite ?_ ?_)
   | (with_reducible refine LeO.bind ?_ (fun _ => ?_))
   | exact ih0 _ _ _ _ _ _ _ _ _ _
   | exact ih1 _ _ _ _ _ _ _
   | exact ih2 _ _ _ _ _ _ _ _ _ _
   | exact ih3 _ _ _ _ _ _ _ _ _ _ _ _ _ _
   | exact gstate_Sound.mono _ _ _ _ _ _
   | exact LeO.none _
   | refine LeO.ite ?_ ?_
   | refine LeO.bind ?_ (fun _ => ?_)
theorem gstate_Outline.mono : ∀ a0 a1 a2 a3 a4 a5 k, LeO (gstate_Outline.f k a0 a1 a2 a3 a4 a5) (gstate_Outline.f (k + 1) a0 a1 a2 a3 a4 a5) := by
 intro a0 a1 a2 a3 a4 a5 k
 obtain ⟨ih0, ih1, ih2, ih3⟩ := gstate_Outline.mono_l k
 unfold gstate_Outline.f
 repeat' first
   | (with_reducible exact ih0 _ _ _ _ _ _ _ _ _ _)
   | (with_reducible exact ih1 _ _ _ _ _ _ _)
   | (with_reducible exact ih2 _ _ _ _ _ _ _ _ _ _)
   | (with_reducible exact ih3 _ _ _ _ _ _ _ _ _ _ _ _ _ _)
   | (with_reducible exact gstate_Sound.mono _ _ _ _ _ _)
   | (with_reducible exact LeO.refl _)
   | (with_reducible exact LeO.none _)
   | (with_reducible refine LeO.ite ?_ ?_)
   | (with_reducible refine LeO.bind ?_ (fun _ => ?_))
   | exact ih0 _ _ _ _ _ _ _ _ _ _
   | exact ih1 _ _ _ _ _ _ _
   | exact ih2 _ _ _ _ _ _ _ _ _ _
   | exact ih3 _ _ _ _ _ _ _ _ _ _ _ _ _ _
   | exact gstate_Sound.mono _ _ _ _ _ _
   | exact LeO.none _
   | refine LeO.ite ?_ ?_
   | refine LeO.bind ?_ (fun _ => ?_)
def gstate_Outline.T17 : Bool × List (List Nat × List Nat) := (true, [([], []), ([], []), ([], []), ([], []), ([2, 3], [2, 3]), ([4], [4]), ([], []), ([6], [6]), ([], []), ([7, 8], [7, 8]), ([9], [9]), ([10], [10]), ([], []), ([12], [12]), ([], []), ([13, 14], [13, 14]), ([15], [15]), ([16], [16]), ([], []), ([18], [18]), ([11, 17, 19], [11, 17, 19]), ([20], [20]), ([5, 21], [5, 21]), ([0, 1, 0, 1, 2, 3, 4, 5, 6, 7, 8, 9, 10, 11, 12, 13, 14, 15, 16, 17, 18, 19, 20, 21, 22], [0, 1]), ([23, 22, 22, 0, 1, 2, 3, 4, 5, 6, 7, 8, 9, 10, 11, 12, 13, 14, 15, 16, 17, 18, 19, 20, 21, 22], [22, 23])])
def gstate_Outline.B17 : List Nat := [0, 0, 0, 0, 12, 28, 0, 64, 0, 448, 960, 1984, 0, 4096, 0, 28672, 61440, 126976, 0, 262144, 1048512, 2097088, 4194300, 8388607, 16777215]
theorem gstate_Outline.tab17 : rtab .any (opsOf Try.f29 17) = gstate_Outline.T17 := by kernel_rfl
theorem gstate_Outline.bits17 : waitsOk gstate_Outline.T17.2 gstate_Outline.B17 = true := by kernel_rfl
set_option maxHeartbeats 8000000 in
set_option maxRecDepth 100000 in
theorem gstate_Outline.calls (k : Nat) (A0_0 : Option Addr) (c0_0 : Nat) (l0_0 : List (S43)) (A0_1 : Option Addr) (c0_1 : Nat) (l0_1 : List (S43)) (A0_2 : Option Addr) (c0_2 : Nat) (l0_2 : List Bool) (A0_3 : Option Addr) (c0_3 : Nat) (l0_3 : List Bool) (A0_4 : Option Addr) (c0_4 : Nat) (l0_4 : List Int) (A1 : Option Addr) (c1 : Nat) (l1 : List (List (S48))) (r1 : List (List (S48))) (r2 : Int) (w : World) (hr0_0 : Kd.C k43 w A0_0 l0_0.length l0_0) (hc0_0 : l0_0.length ≤ c0_0) (hr0_1 : Kd.C k43 w A0_1 l0_1.length l0_1) (hc0_1 : l0_1.length ≤ c0_1) (hr0_2 : Kd.C Kd.bool w A0_2 l0_2.length l0_2) (hc0_2 : l0_2.length ≤ c0_2) (hr0_3 : Kd.C Kd.bool w A0_3 l0_3.length l0_3) (hc0_3 : l0_3.length ≤ c0_3) (hr0_4 : Kd.C (Kd.int .i64) w A0_4 l0_4.length l0_4) (hc0_4 : l0_4.length ≤ c0_4) (hr1 : Kd.C (Kd.slice 48 k48) w A1 l1.length l1) (hc1 : l1.length ≤ c1) (h : gstate_Outline.f k l0_0 l0_1 l0_2 l0_3 l0_4 l1 = some (r1, r2)) :
  Calls Try.prog 29 #[.agg #[.slice A0_0 l0_0.length c0_0, .slice A0_1 l0_1.length c0_1, .slice A0_2 l0_2.length c0_2, .slice A0_3 l0_3.length c0_3, .slice A0_4 l0_4.length c0_4], .slice A1 l1.length c1] w fun e w' => ∃ v0_ : Value, e = .returned (.tuple #[v0_, .int .i64 r2]) ∧ Kd.S (Kd.slice 48 k48) 46 w' w.heap.size (fun _ => True) v0_ r1 ∧ Below w.heap.size w w' := by
 have hu30 := Try.underlying30; have hu48 := Try.underlying48; have HR0_0 := aK hr0_0; have HC0_0 := aK hc0_0; clear hr0_0 hc0_0; have HR0_1 := aK hr0_1; have HC0_1 := aK hc0_1; clear hr0_1 hc0_1; have HR0_2 := aK hr0_2; have HC0_2 := aK hc0_2; clear hr0_2 hc0_2; have HR0_3 := aK hr0_3; have HC0_3 := aK hc0_3; clear hr0_3 hc0_3; have HR0_4 := aK hr0_4; have HC0_4 := aK hc0_4; clear hr0_4 hc0_4; have HR1 := aK hr1; have HC1 := aK hc1; clear hr1 hc1; have HB := aK (Below.refl w.heap.size w); have H : (gstate_Outline.l0 k l1 0 l1 (l1.length : Int) 0 l0_0 l0_1 l0_2 l0_3 l0_4) = some (r1, r2) := h; clear h; have H' := aK H; clear H
 go_enter Try.func29, Try.ntmps29
 go_wp2_with (first | ((with_reducible refine gate_dst (N := 2) rfl ?_); (try (refine gate_guard (by rfl) ?_; dsimp only)); refine box_event ?hg (N := 2) ?hd (cs := #[.slice A0_0 l0_0.length c0_0, .slice A0_1 l0_1.length c0_1, .slice A0_2 l0_2.length c0_2, .slice A0_3 l0_3.length c0_3, .slice A0_4 l0_4.length c0_4]) (t := 30) ?hr ?_; (case hd => rfl); (case hg => rfl); (case hr => first | (go_simp; done) | (go_simp; rfl)); intro gb233 hg w3 hbox hb; have BK233 := aK (hbox); have GW233 := aK ((by rw [hg]; exact (lZ (by with_reducible repeat first | exact HB.out | apply lN | apply lD)) : w.heap.size ≤ gb233)); have GE233 := aK ((by rw [hg]; exact (lZ (by with_reducible repeat first | exact HB.out | apply lN | apply lD)) : w.heap.size ≤ gb233)); replace HB := aK (lT HB.out hb); clear hb hbox hg))
 go_loopg [6, 17] k (fun kq v6 v17 w' => ∃ (x6_1 : Int) (x17_1 : Int), v6 = .int .i64 x6_1 ∧ v17 = .int .i64 x17_1 ∧ Aside0 (gstate_Outline.l0 kq l1 x6_1 l1 (l1.length : Int) x17_1 l0_0 l0_1 l0_2 l0_3 l0_4 = some (r1, r2)) ∧ Aside0 (kq ≤ k) ∧ Aside0 (w'.heap[gb233]? = some (.cells #[(.slice A0_0 l0_0.length c0_0), (.slice A0_1 l0_1.length c0_1), (.slice A0_2 l0_2.length c0_2), (.slice A0_3 l0_3.length c0_3), (.slice A0_4 l0_4.length c0_4)] 30 (0, 0))) ∧ Aside0 (Below w.heap.size w w'))
 case atStart => exact ⟨(0), (0), (by first | rfl | (simp; done) | (simp [*]; done)), (by first | rfl | (simp; done) | (simp [*]; done)), H', ⟨Nat.le_refl _⟩, ⟨BK233.out⟩, ⟨by with_reducible repeat first | exact HB.out | apply lN | apply lD | refine lS ?_ GE233.out⟩⟩
 case round =>
  clear H'; (try clear c1); (try clear c2); (try clear p2); obtain ⟨x6_1, x17_1, rfl, rfl, HA, HK1, BK233, HB⟩ := hrel
  cases gk with
  | zero => exact absurd HA.out (by simp [gstate_Outline.l0])
  | succ k1 =>
   have H := HA.out; clear HA
   simp only [gstate_Outline.l0] at H
   by_cases c4 : x17_1 < (l1.length : Int)
   ·rw [if_pos c4] at H
    have c4b0 : decide (x17_1 < (l1.length : Int)) = true := decide_eq_true c4; clear c4
    by_cases c5 : 0 ≤ x17_1
    ·rw [if_pos c5] at H
     have c5b0 : decide (0 ≤ x17_1) = true := decide_eq_true c5; clear c5
     by_cases c6 : x17_1 < (l1.length : Int)
     ·rw [if_pos c6] at H
      have c6b0 : decide (x17_1 < (l1.length : Int)) = true := decide_eq_true c6; clear c6; have H' := aK H; clear H; have p234 : 0 ≤ (x17_1 : Int) := of_decide_eq_true (by first | (with_reducible assumption) | assumption); have q234 : x17_1 < (l1.length : Int) := of_decide_eq_true (by first | (with_reducible assumption) | assumption); obtain ⟨ad234, A234_0, c234_0, e234, hx234_0, hl234_0, hi234_0⟩ := at_L4 HR1.out x17_1 p234 q234
      cases e234
      replace hx234_0 := (HB.out.cell (World.block_lt_of_cell? w _ hx234_0)).trans hx234_0; have HR234_0 := aK hi234_0; have HC234_0 := aK hl234_0; clear hi234_0 hl234_0; replace p234 := eq_true p234; replace q234 := eq_true q234
      go_wp2
      go_roundg k1
      case measure => have := HK1.out; omega
      case rel => exact ⟨(wrap64 (x6_1 + ((rd_L4 l1 x17_1).length : Int))), (wrap64 (x17_1 + 1)), (by first | rfl | (simp; done) | (simp [*]; done)), (by first | rfl | (simp; done) | (simp [*]; done)), H', ⟨by have := HK1.out; omega⟩, ⟨BK233.out⟩, ⟨by with_reducible repeat first | exact HB.out | apply lN | apply lD | refine lS ?_ GE233.out⟩⟩
     ·rw [if_neg c6] at H
      exact absurd H (by simp)
    ·rw [if_neg c5] at H
     exact absurd H (by simp)
   ·rw [if_neg c4] at H
    have c4b0 : decide (x17_1 < (l1.length : Int)) = false := decide_eq_false c4; clear c4; have HC7 := aK H; clear H
    go_upto_region 7 with (fail)
    go_cut [35] (fun v35 wc => ∃ (kq : Nat) (x35_6 : Bool), v35 = .bool x35_6 ∧ Aside0 (gstate_Outline.j1 kq l1 x35_6 l0_0 l0_1 l0_2 l0_3 l0_4 = some (r1, r2)) ∧ Aside0 (kq ≤ k1) ∧ Aside0 (wc.heap[gb233]? = some (.cells #[(.slice A0_0 l0_0.length c0_0), (.slice A0_1 l0_1.length c0_1), (.slice A0_2 l0_2.length c0_2), (.slice A0_3 l0_3.length c0_3), (.slice A0_4 l0_4.length c0_4)] 30 (0, 0))) ∧ Aside0 (Below w.heap.size w wc))
    case first =>
     have H := HC7.out; clear HC7; replace H := Option.bind_eq_some_iff.mp H; obtain ⟨t235, A80, H⟩ := H; replace H : (if t235 = true then (gstate_Outline.j1 k1 l1 (x6_1 != (l0_1.length : Int)) l0_0 l0_1 l0_2 l0_3 l0_4) else (gstate_Outline.j1 k1 l1 true l0_0 l0_1 l0_2 l0_3 l0_4)) = some (r1, r2) := H; have A8 := aK A80; clear A80
     by_cases c9 : t235 = true
     ·subst c9
      have H1 : (gstate_Outline.j1 k1 l1 (x6_1 != (l0_1.length : Int)) l0_0 l0_1 l0_2 l0_3 l0_4) = some (r1, r2) := by rw [if_pos rfl] at H; exact H
      clear H; have H := H1; clear H1; have H' := aK H; clear H; have hcz10_0 := bc BK233.out 0 rfl; have hcz10_1 := bc BK233.out 1 rfl; have hcz10_2 := bc BK233.out 2 rfl; have hcz10_3 := bc BK233.out 3 rfl; have hcz10_4 := bc BK233.out 4 rfl; have hfz10_0 := bF BK233.out 0; have hfz10_1 := bF BK233.out 1; have hfz10_2 := bF BK233.out 2; have hfz10_3 := bF BK233.out 3; have hfz10_4 := bF BK233.out 4
      go_wp2_with (first | ((with_reducible refine gate_callee (f := 26) rfl ?_); refine goesL_ (some 27) rfl rfl Try.func26 (by kernel_rfl) rfl #[.agg #[.slice A0_0 l0_0.length c0_0, .slice A0_1 l0_1.length c0_1, .slice A0_2 l0_2.length c0_2, .slice A0_3 l0_3.length c0_3, .slice A0_4 l0_4.length c0_4]] rfl (by (try simp only [List.map_toArray, List.map_cons, List.map_nil]); first | done | rfl | (simp only [List.length_drop, List.length_take]; rfl)) ?_; (with_reducible refine (gstate_Sound.calls k1 _ _ l0_0 _ _ l0_1 _ _ l0_2 _ _ l0_3 _ _ l0_4 true _ ?side1 ?side2 ?side3 ?side4 ?side5 ?side6 ?side7 ?side8 ?side9 ?side10 A8.out).mono ?_); (case side1 => repeat (first | exact (Kd.C_below HR0_0.out HB.out) | (with_reducible refine cA ?_ _) | (with_reducible refine cN ?_ _) | (with_reducible refine cD ?_))); (case side2 => exact HC0_0.out); (case side3 => repeat (first | exact (Kd.C_below HR0_1.out HB.out) | (with_reducible refine cA ?_ _) | (with_reducible refine cN ?_ _) | (with_reducible refine cD ?_))); (case side4 => exact HC0_1.out); (case side5 => repeat (first | exact (Kd.C_below HR0_2.out HB.out) | (with_reducible refine cA ?_ _) | (with_reducible refine cN ?_ _) | (with_reducible refine cD ?_))); (case side6 => exact HC0_2.out); (case side7 => repeat (first | exact (Kd.C_below HR0_3.out HB.out) | (with_reducible refine cA ?_ _) | (with_reducible refine cN ?_ _) | (with_reducible refine cD ?_))); (case side8 => exact HC0_3.out); (case side9 => repeat (first | exact (Kd.C_below HR0_4.out HB.out) | (with_reducible refine cA ?_ _) | (with_reducible refine cN ?_ _) | (with_reducible refine cD ?_))); (case side10 => exact HC0_4.out); rintro e w11 ⟨rfl, hb⟩; refine ⟨_, rfl, ?_⟩; replace BK233 := aK (bB BK233.out hb); replace HB := aK (lT (by with_reducible repeat first | exact HB.out | refine lS ?_ GE233.out) hb); (try clear hb); (try clear hb2); (try clear hk); (try clear hi); have hcz12_0 := bc BK233.out 0 rfl; have hcz12_1 := bc BK233.out 1 rfl; have hcz12_2 := bc BK233.out 2 rfl; have hcz12_3 := bc BK233.out 3 rfl; have hcz12_4 := bc BK233.out 4 rfl; have hfz12_0 := bF BK233.out 0; have hfz12_1 := bF BK233.out 1; have hfz12_2 := bF BK233.out 2; have hfz12_3 := bF BK233.out 3; have hfz12_4 := bF BK233.out 4))
      go_meet
      case rel => exact ⟨_, ((x6_1 != (l0_1.length : Int))), (by first | rfl | (simp; done) | (simp [*]; done)), H', ⟨by have := HK1.out; first | omega | exact Nat.le_refl _⟩, ⟨BK233.out⟩, ⟨by with_reducible repeat first | exact HB.out | apply lN | apply lD | refine lS ?_ GE233.out⟩⟩
     ·replace c9 := Bool.eq_false_iff.mpr c9
      subst c9; have H1 : (gstate_Outline.j1 k1 l1 true l0_0 l0_1 l0_2 l0_3 l0_4) = some (r1, r2) := by rw [if_neg (show ¬ (false = true) by decide)] at H; exact H
      clear H; have H := H1; clear H1; have H' := aK H; clear H; have hcz13_0 := bc BK233.out 0 rfl; have hcz13_1 := bc BK233.out 1 rfl; have hcz13_2 := bc BK233.out 2 rfl; have hcz13_3 := bc BK233.out 3 rfl; have hcz13_4 := bc BK233.out 4 rfl; have hfz13_0 := bF BK233.out 0; have hfz13_1 := bF BK233.out 1; have hfz13_2 := bF BK233.out 2; have hfz13_3 := bF BK233.out 3; have hfz13_4 := bF BK233.out 4
      go_wp2_with (first | ((with_reducible refine gate_callee (f := 26) rfl ?_); refine goesL_ (some 27) rfl rfl Try.func26 (by kernel_rfl) rfl #[.agg #[.slice A0_0 l0_0.length c0_0, .slice A0_1 l0_1.length c0_1, .slice A0_2 l0_2.length c0_2, .slice A0_3 l0_3.length c0_3, .slice A0_4 l0_4.length c0_4]] rfl (by (try simp only [List.map_toArray, List.map_cons, List.map_nil]); first | done | rfl | (simp only [List.length_drop, List.length_take]; rfl)) ?_; (with_reducible refine (gstate_Sound.calls k1 _ _ l0_0 _ _ l0_1 _ _ l0_2 _ _ l0_3 _ _ l0_4 false _ ?side1 ?side2 ?side3 ?side4 ?side5 ?side6 ?side7 ?side8 ?side9 ?side10 A8.out).mono ?_); (case side1 => repeat (first | exact (Kd.C_below HR0_0.out HB.out) | (with_reducible refine cA ?_ _) | (with_reducible refine cN ?_ _) | (with_reducible refine cD ?_))); (case side2 => exact HC0_0.out); (case side3 => repeat (first | exact (Kd.C_below HR0_1.out HB.out) | (with_reducible refine cA ?_ _) | (with_reducible refine cN ?_ _) | (with_reducible refine cD ?_))); (case side4 => exact HC0_1.out); (case side5 => repeat (first | exact (Kd.C_below HR0_2.out HB.out) | (with_reducible refine cA ?_ _) | (with_reducible refine cN ?_ _) | (with_reducible refine cD ?_))); (case side6 => exact HC0_2.out); (case side7 => repeat (first | exact (Kd.C_below HR0_3.out HB.out) | (with_reducible refine cA ?_ _) | (with_reducible refine cN ?_ _) | (with_reducible refine cD ?_))); (case side8 => exact HC0_3.out); (case side9 => repeat (first | exact (Kd.C_below HR0_4.out HB.out) | (with_reducible refine cA ?_ _) | (with_reducible refine cN ?_ _) | (with_reducible refine cD ?_))); (case side10 => exact HC0_4.out); rintro e w14 ⟨rfl, hb⟩; refine ⟨_, rfl, ?_⟩; replace BK233 := aK (bB BK233.out hb); replace HB := aK (lT (by with_reducible repeat first | exact HB.out | refine lS ?_ GE233.out) hb); (try clear hb); (try clear hb2); (try clear hk); (try clear hi)))
      go_meet
      case rel => exact ⟨_, (true), (by first | rfl | (simp; done) | (simp [*]; done)), H', ⟨by have := HK1.out; first | omega | exact Nat.le_refl _⟩, ⟨BK233.out⟩, ⟨by with_reducible repeat first | exact HB.out | apply lN | apply lD | refine lS ?_ GE233.out⟩⟩
    case rest =>
     clear HC7; (try clear c1); (try clear c2); (try clear p2); (try clear q2); (try clear hx2); (try clear c4); (try clear c4b0); (try clear c5); (try clear c5b0); (try clear c6); (try clear c6b0); (try clear p6); (try clear c9); (try clear hcz10_0); (try clear hcz10_1); (try clear hcz10_2); (try clear hcz10_3); (try clear hcz10_4); (try clear hcz12_0); (try clear hcz12_1); (try clear hcz12_2); (try clear hcz12_3); (try clear hcz12_4); (try clear hcz13_0); (try clear hcz13_1); (try clear hcz13_2); (try clear hcz13_3); (try clear hcz13_4); (try clear hfz10_0); (try clear hfz10_1); (try clear hfz10_2); (try clear hfz10_3); (try clear hfz10_4); (try clear hfz12_0); (try clear hfz12_1); (try clear hfz12_2); (try clear hfz12_3); (try clear hfz12_4); (try clear hfz13_0); (try clear hfz13_1); (try clear hfz13_2); (try clear hfz13_3); (try clear hfz13_4); (try clear hx234_0); (try clear p2); (try clear p234); (try clear q234); obtain ⟨kq, x35_6, rfl, HA, HJ6, BK233, HB⟩ := hcut
     cases kq with
     | zero => exact absurd HA.out (by simp [gstate_Outline.j1])
     | succ kj6 =>
      have H := HA.out; clear HA
      simp only [gstate_Outline.j1] at H
      by_cases c15 : x35_6 = true
      ·subst c15
       have H1 : (some (([] : List (List (S48))), 91)) = some (r1, r2) := by rw [if_pos rfl] at H; exact H
       clear H; have H := H1; clear H1
       simp only [Option.some.injEq, Prod.mk.injEq] at H
       obtain ⟨rfl, rfl⟩ := H
       go_wp2
       go_ret2
       exact ⟨_, by first | rfl | (simp [errW_none, errW_some] <;> rfl) | (simp [*, errW_none, errW_some] <;> rfl), by first | exact Kd.S_nil _ _ _ _ _ | exact Kd.N_nil _ _ _ _ _ | exact Kd.V_nil _ _ _ _ _ | exact Kd.Q_nil _ _ _ _ _ | exact Kd.R_nil _ _ _ _ _, by with_reducible repeat first | exact HB.out | apply lN | apply lD | refine lS ?_ GE233.out⟩
      ·replace c15 := Bool.eq_false_iff.mpr c15
       subst c15; have H1 : (if 0 ≤ (l1.length : Int) then (if ((l1.length : Int) : Int).toNat ≤ 11728124029610 then (gstate_Outline.l1 kj6 (List.replicate ((l1.length : Int) : Int).toNat []) 0 l1 (l1.length : Int) 0 l0_0 l0_1 l0_2 l0_3 l0_4) else (none)) else (none)) = some (r1, r2) := by rw [if_neg (show ¬ (false = true) by decide)] at H; exact H
       clear H; have H := H1; clear H1
       by_cases c16 : 0 ≤ (l1.length : Int)
       ·rw [if_pos c16] at H
        have c16b0 := eq_true c16; have c16b1 : decide (0 ≤ (l1.length : Int)) = true := decide_eq_true c16; clear c16
        by_cases c17 : ((l1.length : Int) : Int).toNat ≤ 11728124029610
        ·rw [if_pos c17] at H
         have c17b0 := eq_true c17; have c17b1 : decide (((l1.length : Int) : Int).toNat ≤ 11728124029610) = true := decide_eq_true c17; clear c17; obtain ⟨y236, hy236⟩ : ∃ y_ : List (List (S48)), y_ = (List.replicate ((l1.length : Int) : Int).toNat []) := ⟨_, rfl⟩; replace H : (gstate_Outline.l1 kj6 y236 0 l1 (l1.length : Int) 0 l0_0 l0_1 l0_2 l0_3 l0_4) = some (r1, r2) := by first | (rw [hy236]; with_reducible exact H) | (have H2_ := (Option.bind_some _ _).symm.trans H; rw [hy236]; with_reducible exact H2_) | (have H2_ := (Option.bind_some _ _).symm.trans H; with_reducible exact H2_) | with_reducible exact H | (rw [hy236]; exact H) | exact H
         have Ny236 := aK hy236; clear hy236; have H' := aK H; clear H
         go_wp2_with (first | ((with_reducible refine gate_dst (N := 38) rfl ?_); (try (refine gate_guard (by rfl) ?_; dsimp only)); refine Kd.S_make (Kd.slice 48 k48) _ 46 rfl (N := 38) rfl 50 _ _ rfl (l1.length : Int) rfl rfl Try.underlying50 (.slice none 0 0) 24 info46 rfl (by decide) (by omega) [] (ok := fun _ => True) (okp := fun _ => True) ⟨_, rfl, Kd.R_nil _ _ _ _ _⟩ (fun _ hk => hk) trivial (of_decide_eq_true (by first | (with_reducible assumption) | assumption)) (Nat.le_trans (Nat.mul_le_mul_right _ (of_decide_eq_true (by first | (with_reducible assumption) | assumption) : (l1.length : Int).toNat ≤ 11728124029610)) (by omega)) (Below.refl _ _) (Nat.le_refl _) ?_; intro v237 w18 ho19 hb hg_ hnew_; clear hg_ hnew_; (first | rw [← Ny236.out] at ho19 | (simp only [Int.reduceToNat] at ho19; rw [← Ny236.out] at ho19)); have HO238 := aK (Kd.S_lower ho19 (lZ (by with_reducible repeat first | exact HB.out | apply lN | apply lD | refine lS ?_ GE233.out))); replace BK233 := aK (bB BK233.out hb); replace HB := aK (lT (by with_reducible repeat first | exact HB.out | refine lS ?_ GE233.out) hb); clear hb ho19))
         go_loopg [10, 41] kj6 (fun kq v10 v41 w' => ∃ (x9_3 : List (List (S48))) (x10_3 : Int) (x41_3 : Int), v10 = .int .i64 x10_3 ∧ v41 = .int .i64 x41_3 ∧ Aside0 (gstate_Outline.l1 kq x9_3 x10_3 l1 (l1.length : Int) x41_3 l0_0 l0_1 l0_2 l0_3 l0_4 = some (r1, r2)) ∧ Aside0 (kq ≤ kj6) ∧ Aside0 (Kd.S (Kd.slice 48 k48) 46 w' w.heap.size (fun _ => True) v237 x9_3) ∧ Aside0 (w'.heap[gb233]? = some (.cells #[(.slice A0_0 l0_0.length c0_0), (.slice A0_1 l0_1.length c0_1), (.slice A0_2 l0_2.length c0_2), (.slice A0_3 l0_3.length c0_3), (.slice A0_4 l0_4.length c0_4)] 30 (0, 0))) ∧ Aside0 (Below w.heap.size w w'))
         case atStart => exact ⟨(y236), (0), (0), (by first | rfl | (simp; done) | (simp [*]; done)), (by first | rfl | (simp; done) | (simp [*]; done)), H', ⟨Nat.le_refl _⟩, ⟨by (with_reducible repeat (first | apply Kd.S_alloc | apply Kd.S_drewN | apply Kd.S_drew)); exact HO238.out⟩, ⟨BK233.out⟩, ⟨by with_reducible repeat first | exact HB.out | apply lN | apply lD | refine lS ?_ GE233.out⟩⟩
         case round =>
          clear H'; (try clear c1); (try clear c2); (try clear p2); (try clear q2); (try clear hx2); (try clear c4); (try clear c4b0); (try clear c5); (try clear c5b0); (try clear c6); (try clear c6b0); (try clear p6); (try clear c9); (try clear c15); (try clear c16); (try clear c16b0); (try clear c16b1); (try clear c17); (try clear c17b0); (try clear c17b1); (try clear hcz10_0); (try clear hcz10_1); (try clear hcz10_2); (try clear hcz10_3); (try clear hcz10_4); (try clear hcz12_0); (try clear hcz12_1); (try clear hcz12_2); (try clear hcz12_3); (try clear hcz12_4); (try clear hcz13_0); (try clear hcz13_1); (try clear hcz13_2); (try clear hcz13_3); (try clear hcz13_4); (try clear hfz10_0); (try clear hfz10_1); (try clear hfz10_2); (try clear hfz10_3); (try clear hfz10_4); (try clear hfz12_0); (try clear hfz12_1); (try clear hfz12_2); (try clear hfz12_3); (try clear hfz12_4); (try clear hfz13_0); (try clear hfz13_1); (try clear hfz13_2); (try clear hfz13_3); (try clear hfz13_4); (try clear hx234_0); (try clear p2); (try clear p234); (try clear p6); (try clear q2); (try clear q234); obtain ⟨x9_3, x10_3, x41_3, rfl, rfl, HA, HK3, HO_9, BK233, HB⟩ := hrel
          cases gk with
          | zero => exact absurd HA.out (by simp [gstate_Outline.l1])
          | succ k3 =>
           have H := HA.out; clear HA
           simp only [gstate_Outline.l1] at H
           by_cases c20 : x41_3 < (l1.length : Int)
           ·rw [if_pos c20] at H
            have c20b0 : decide (x41_3 < (l1.length : Int)) = true := decide_eq_true c20; clear c20
            by_cases c21 : 0 ≤ x41_3
            ·rw [if_pos c21] at H
             have c21b0 : decide (0 ≤ x41_3) = true := decide_eq_true c21; clear c21
             by_cases c22 : x41_3 < (l1.length : Int)
             ·rw [if_pos c22] at H
              have c22b0 : decide (x41_3 < (l1.length : Int)) = true := decide_eq_true c22; clear c22; have H' := aK H; clear H; have p239 : 0 ≤ (x41_3 : Int) := of_decide_eq_true (by first | (with_reducible assumption) | assumption); have q239 : x41_3 < (l1.length : Int) := of_decide_eq_true (by first | (with_reducible assumption) | assumption); obtain ⟨ad239, A239_0, c239_0, e239, hx239_0, hl239_0, hi239_0⟩ := at_L4 HR1.out x41_3 p239 q239
              cases e239
              replace hx239_0 := (HB.out.cell (World.block_lt_of_cell? w _ hx239_0)).trans hx239_0; have HR239_0 := aK hi239_0; have HC239_0 := aK hl239_0; clear hi239_0 hl239_0; replace p239 := eq_true p239; replace q239 := eq_true q239
              go_wp2
              go_loopg [10, 48] k3 (fun kq v10 v48 w' => ∃ (x9_4 : List (List (S48))) (x10_4 : Int) (x48_4 : Int), v10 = .int .i64 x10_4 ∧ v48 = .int .i64 x48_4 ∧ Aside0 (gstate_Outline.l2 kq x9_4 x10_4 x41_3 l1 (l1.length : Int) x41_3 (rd_L4 l1 x41_3) ((rd_L4 l1 x41_3).length : Int) x48_4 l0_0 l0_1 l0_2 l0_3 l0_4 = some (r1, r2)) ∧ Aside0 (kq ≤ k3) ∧ Aside0 (Kd.S (Kd.slice 48 k48) 46 w' w.heap.size (fun _ => True) v237 x9_4) ∧ Aside0 (w'.heap[gb233]? = some (.cells #[(.slice A0_0 l0_0.length c0_0), (.slice A0_1 l0_1.length c0_1), (.slice A0_2 l0_2.length c0_2), (.slice A0_3 l0_3.length c0_3), (.slice A0_4 l0_4.length c0_4)] 30 (0, 0))) ∧ Aside0 (Below w.heap.size w w'))
              case atStart => exact ⟨(x9_3), (x10_3), (0), (by first | rfl | (simp; done) | (simp [*]; done)), (by first | rfl | (simp; done) | (simp [*]; done)), H', ⟨Nat.le_refl _⟩, ⟨by (with_reducible repeat (first | apply Kd.S_alloc | apply Kd.S_drewN | apply Kd.S_drew)); exact HO_9.out⟩, ⟨BK233.out⟩, ⟨by with_reducible repeat first | exact HB.out | apply lN | apply lD | refine lS ?_ GE233.out⟩⟩
              case round =>
               clear H'; (try clear c1); (try clear c2); (try clear p2); (try clear q2); (try clear hx2); (try clear c4); (try clear c4b0); (try clear c5); (try clear c5b0); (try clear c6); (try clear c6b0); (try clear p6); (try clear c9); (try clear c15); (try clear c16); (try clear c16b0); (try clear c16b1); (try clear c17); (try clear c17b0); (try clear c17b1); (try clear c20); (try clear c20b0); (try clear c21); (try clear c21b0); (try clear c22); (try clear c22b0); (try clear hcz10_0); (try clear hcz10_1); (try clear hcz10_2); (try clear hcz10_3); (try clear hcz10_4); (try clear hcz12_0); (try clear hcz12_1); (try clear hcz12_2); (try clear hcz12_3); (try clear hcz12_4); (try clear hcz13_0); (try clear hcz13_1); (try clear hcz13_2); (try clear hcz13_3); (try clear hcz13_4); (try clear hfz10_0); (try clear hfz10_1); (try clear hfz10_2); (try clear hfz10_3); (try clear hfz10_4); (try clear hfz12_0); (try clear hfz12_1); (try clear hfz12_2); (try clear hfz12_3); (try clear hfz12_4); (try clear hfz13_0); (try clear hfz13_1); (try clear hfz13_2); (try clear hfz13_3); (try clear hfz13_4); (try clear hx234_0); (try clear hx239_0); (try clear p2); (try clear p234); (try clear p239); (try clear p6); (try clear q2); (try clear q234); (try clear q239); obtain ⟨x9_4, x10_4, x48_4, rfl, rfl, HA, HK4, HO_9, BK233, HB⟩ := hrel
               cases gk with
               | zero => exact absurd HA.out (by simp [gstate_Outline.l2])
               | succ k4 =>
                have H := HA.out; clear HA
                simp only [gstate_Outline.l2] at H
                by_cases c23 : x48_4 < ((rd_L4 l1 x41_3).length : Int)
                ·rw [if_pos c23] at H
                 have c23b0 : decide (x48_4 < ((rd_L4 l1 x41_3).length : Int)) = true := decide_eq_true c23; clear c23
                 by_cases c24 : 0 ≤ x48_4
                 ·rw [if_pos c24] at H
                  have c24b0 : decide (0 ≤ x48_4) = true := decide_eq_true c24; clear c24
                  by_cases c25 : x48_4 < ((rd_L4 l1 x41_3).length : Int)
                  ·rw [if_pos c25] at H
                   have c25b0 : decide (x48_4 < ((rd_L4 l1 x41_3).length : Int)) = true := decide_eq_true c25; clear c25
                   by_cases c26 : 0 ≤ x41_3
                   ·rw [if_pos c26] at H
                    have c26b0 : decide (0 ≤ x41_3) = true := decide_eq_true c26; clear c26
                    by_cases c27 : x41_3 < (x9_4.length : Int)
                    ·rw [if_pos c27] at H
                     have c27b0 : decide (x41_3 < (x9_4.length : Int)) = true := decide_eq_true c27; clear c27
                     by_cases c28 : 0 ≤ x10_4
                     ·rw [if_pos c28] at H
                      have c28b0 : decide (0 ≤ x10_4) = true := decide_eq_true c28; clear c28
                      by_cases c29 : x10_4 < (l0_1.length : Int)
                      ·rw [if_pos c29] at H
                       have c29b0 : decide (x10_4 < (l0_1.length : Int)) = true := decide_eq_true c29; clear c29
                       by_cases c30 : (rd_L4 x9_4 x41_3).length < 5864062014805
                       ·rw [if_pos c30] at H
                        have LMc30 := aK c30; clear c30; obtain ⟨y245, hy245⟩ : ∃ y_ : List (S48), y_ = ((rd_L4 x9_4 x41_3) ++ [(⟨(rd_T43 l0_1 x10_4).f0, (rd_T43 l0_1 x10_4).f1, (rd_T48 (rd_L4 l1 x41_3) x48_4).f2⟩ : S48)]) := ⟨_, rfl⟩; replace H : (gstate_Outline.l2 k4 (x9_4.set (x41_3 : Int).toNat y245) (wrap64 (x10_4 + 1)) x41_3 l1 (l1.length : Int) x41_3 (rd_L4 l1 x41_3) ((rd_L4 l1 x41_3).length : Int) (wrap64 (x48_4 + 1)) l0_0 l0_1 l0_2 l0_3 l0_4) = some (r1, r2) := by first | (rw [hy245]; with_reducible exact H) | (have H2_ := (Option.bind_some _ _).symm.trans H; rw [hy245]; with_reducible exact H2_) | (have H2_ := (Option.bind_some _ _).symm.trans H; with_reducible exact H2_) | with_reducible exact H | (rw [hy245]; exact H) | exact H
                        have Ny245 := aK hy245; clear hy245; obtain ⟨y248, hy248⟩ : ∃ y_ : List (List (S48)), y_ = (x9_4.set (x41_3 : Int).toNat y245) := ⟨_, rfl⟩; replace H : (gstate_Outline.l2 k4 y248 (wrap64 (x10_4 + 1)) x41_3 l1 (l1.length : Int) x41_3 (rd_L4 l1 x41_3) ((rd_L4 l1 x41_3).length : Int) (wrap64 (x48_4 + 1)) l0_0 l0_1 l0_2 l0_3 l0_4) = some (r1, r2) := by first | (rw [hy248]; with_reducible exact H) | (have H2_ := (Option.bind_some _ _).symm.trans H; rw [hy248]; with_reducible exact H2_) | (have H2_ := (Option.bind_some _ _).symm.trans H; with_reducible exact H2_) | with_reducible exact H | (rw [hy248]; exact H) | exact H
                        have Ny248 := aK hy248; clear hy248; have H' := aK H; clear H; have p240 : 0 ≤ (x48_4 : Int) := of_decide_eq_true (by first | (with_reducible assumption) | assumption); have q240 : x48_4 < ((rd_L4 l1 x41_3).length : Int) := of_decide_eq_true (by first | (with_reducible assumption) | assumption); obtain ⟨ad240, e240, hx240_0, hx240_1, hx240_2⟩ := at_T48 HR239_0.out x48_4 p240 q240
                        cases e240
                        replace hx240_0 := (HB.out.cell (World.block_lt_of_cell? w _ hx240_0)).trans hx240_0; replace hx240_1 := (HB.out.cell (World.block_lt_of_cell? w _ hx240_1)).trans hx240_1; replace hx240_2 := (HB.out.cell (World.block_lt_of_cell? w _ hx240_2)).trans hx240_2; replace p240 := eq_true p240; replace q240 := eq_true q240
                        try go_wp2_with (first | ((with_reducible refine gate_dst (N := 14) rfl ?_); (try (refine gate_guard (by rfl) ?_; dsimp only)); refine box_event ?hg (N := 14) ?hd (cs := #[.int .i64 0, .int .i64 0, .int .i64 0]) (t := 48) ?hr ?_; (case hd => rfl); (case hg => rfl); (case hr => first | (go_simp; done) | (go_simp; rfl)); intro gb241 hg w32 hbox hb; have BK241 := aK (hbox); have GW241 := aK ((by rw [hg]; exact (lZ (by with_reducible repeat first | exact HB.out | apply lN | apply lD | refine lS ?_ GE233.out)) : w.heap.size ≤ gb241)); have GE241 := aK ((by rw [hg]; exact (lZ (by with_reducible repeat first | exact HB.out | apply lN | apply lD | refine lS ?_ GE233.out)) : w.heap.size ≤ gb241)); have NB233_241 := aK ((by rw [hg]; exact Nat.ne_of_lt (blk_lt BK233.out) : gb233 ≠ gb241)); have NB241_233 := aK ((by rw [hg]; exact Nat.ne_of_gt (blk_lt BK233.out) : gb241 ≠ gb233)); replace HO_9 := aK (Kd.S_below (Kd.S_elderB HO_9.out gb241 (Nat.le_of_eq hg.symm)) hb); replace BK233 := aK (bB BK233.out hb); replace HB := aK (lT (by with_reducible repeat first | exact HB.out | refine lS ?_ GE233.out) hb); clear hb hbox hg; have hnb33 := NB241_233.out; have hnc33 := NB233_241.out; have hcz34_0 := bc BK241.out 0 rfl; have hcz34_1 := bc BK241.out 1 rfl; have hcz34_2 := bc BK241.out 2 rfl; have hfz34_0 := bF BK241.out 0; have hfz34_1 := bF BK241.out 1; have hfz34_2 := bF BK241.out 2))
                        obtain ⟨w35, hW_⟩ : ∃ x_, x_ = (((w32.setCell ⟨gb241, 0, none⟩ (.int .i64 ((rd_T48 (rd_L4 l1 x41_3) x48_4).f0))).setCell ⟨gb241, 1, none⟩ (.int .i64 ((rd_T48 (rd_L4 l1 x41_3) x48_4).f1))).setCell ⟨gb241, 2, none⟩ (.int .i64 ((rd_T48 (rd_L4 l1 x41_3) x48_4).f2))) := ⟨_, rfl⟩; have n0_ : Aside0 (Kd.S (Kd.slice 48 k48) 46 w35 w.heap.size (fun k_ => k_ ≠ gb241) v237 x9_4) := ⟨by rw [hW_]; (with_reducible repeat (first | apply Kd.S_alloc | apply Kd.S_drewN | apply Kd.S_drew)); exact Kd.S_mono (Kd.S_far (p := ⟨gb241, 2, none⟩) (Kd.S_far (p := ⟨gb241, 1, none⟩) (Kd.S_far (p := ⟨gb241, 0, none⟩) (Kd.S_mono HO_9.out (fun k_ hk => (⟨hk, hk.2⟩ : _ ∧ k_ ≠ gb241))) (fun _ hk => hk.2) (.int .i64 ((rd_T48 (rd_L4 l1 x41_3) x48_4).f0))) (fun _ hk => hk.2) (.int .i64 ((rd_T48 (rd_L4 l1 x41_3) x48_4).f1))) (fun _ hk => hk.2) (.int .i64 ((rd_T48 (rd_L4 l1 x41_3) x48_4).f2))) (fun _ hk => hk.1.2)⟩; have n1_ : Aside0 (w35.heap[gb233]? = some (.cells #[.slice A0_0 l0_0.length c0_0, .slice A0_1 l0_1.length c0_1, .slice A0_2 l0_2.length c0_2, .slice A0_3 l0_3.length c0_3, .slice A0_4 l0_4.length c0_4] 30 (0, 0))) := ⟨by rw [hW_]; exact (bR (bR (bR BK233.out NB233_241.out _) NB233_241.out _) NB233_241.out _)⟩; have n2_ : Aside0 (w35.heap[gb241]? = some (.cells #[.int .i64 ((rd_T48 (rd_L4 l1 x41_3) x48_4).f0), .int .i64 ((rd_T48 (rd_L4 l1 x41_3) x48_4).f1), .int .i64 ((rd_T48 (rd_L4 l1 x41_3) x48_4).f2)] 48 (0, 0))) := ⟨by rw [hW_]; exact (bP (cs := #[.int .i64 ((rd_T48 (rd_L4 l1 x41_3) x48_4).f0), .int .i64 ((rd_T48 (rd_L4 l1 x41_3) x48_4).f1), .int .i64 0]) (bP (cs := #[.int .i64 ((rd_T48 (rd_L4 l1 x41_3) x48_4).f0), .int .i64 0, .int .i64 0]) (bP (cs := #[.int .i64 0, .int .i64 0, .int .i64 0]) BK241.out 0 _ rfl) 1 _ rfl) 2 _ rfl)⟩; have n3_ : Aside0 (Below w.heap.size w w35) := ⟨by rw [hW_]; with_reducible repeat first | exact HB.out | apply lN | apply lD | refine lS ?_ GE233.out | refine lS ?_ GE241.out⟩; (try clear HO_9); (try clear BK233); (try clear BK241); (try clear HB)
                        rw [← hW_]
                        clear hW_; have HO_9 := n0_; have BK233 := n1_; have BK241 := n2_; have HB := n3_; clear n0_ n1_ n2_ n3_; replace HO_9 := aK (Kd.S_drew HO_9.out); replace BK233 := aK (bD BK233.out); replace BK241 := aK (bD BK241.out); replace HB := aK (lD HB.out); obtain ⟨Ao37, co37, eo37⟩ := Kd.S_slice HO_9.out
                        (first | subst eo37 | (injection eo37 with f1_ f2_ f3_; have f4_ := f1_.symm; have f5_ := f3_.symm; clear f1_ f2_ f3_; subst f4_; subst f5_))
                        have p242 : 0 ≤ (x41_3 : Int) := of_decide_eq_true (by first | (with_reducible assumption) | assumption); have q242 : x41_3 < (x9_4.length : Int) := of_decide_eq_true (by first | (with_reducible assumption) | assumption); obtain ⟨ad242, A242_0, c242_0, e242, hx242_0, hl242_0, hi242_0⟩ := at_L4 (Kd.S_reads' HO_9.out).2.2 x41_3 p242 q242
                        cases e242
                        obtain ⟨ce242, hce242, hMe242, hcc242⟩ := Kd.S_get HO_9.out [] x41_3 p242 (by first | exact q242 | exact of_decide_eq_true (by first | (with_reducible assumption) | assumption) | (have e_ := (Kd.S_reads' HO_9.out).1; omega)); obtain ⟨ve242_0, rfl, ge242_0⟩ := hMe242; have hv242_0 := hcc242 0 _ rfl
                        rw [Nat.add_zero, show ((Kd.slice 48 k48)).sz = 1 from rfl, Nat.mul_one] at hv242_0
                        replace hv242_0 := Option.some.inj (hv242_0.symm.trans hx242_0)
                        rw [hv242_0] at ge242_0
                        have HL242_0 := aK (show Kd.R k48 48 _ _ _ _ (rd_L4 x9_4 x41_3) from ge242_0); clear hv242_0 ge242_0; have HX242_0 := aK hx242_0; clear hcc242 hce242; have HR242_0 := aK hi242_0; have HC242_0 := aK hl242_0; clear hi242_0 hl242_0; replace p242 := eq_true p242; replace q242 := eq_true q242; have p243 : 0 ≤ (x10_4 : Int) := of_decide_eq_true (by first | (with_reducible assumption) | assumption); have q243 : x10_4 < (l0_1.length : Int) := of_decide_eq_true (by first | (with_reducible assumption) | assumption); obtain ⟨ad243, e243, hx243_0, hx243_1⟩ := at_T43 HR0_1.out x10_4 p243 q243; have hw243_1 := hx243_1; have hw243_0 := hx243_0
                        cases e243
                        replace hx243_0 := (HB.out.cell (World.block_lt_of_cell? w _ hx243_0)).trans hx243_0; replace hx243_1 := (HB.out.cell (World.block_lt_of_cell? w _ hx243_1)).trans hx243_1; replace p243 := eq_true p243; replace q243 := eq_true q243; have p244 : 0 ≤ (x10_4 : Int) := of_decide_eq_true (by first | (with_reducible assumption) | assumption); have q244 : x10_4 < (l0_1.length : Int) := of_decide_eq_true (by first | (with_reducible assumption) | assumption); obtain ⟨ad244, e244, hx244_0, hx244_1⟩ := at_T43 HR0_1.out x10_4 p244 q244; have hw244_1 := hx244_1; have hw244_0 := hx244_0; obtain rfl : ad243 = ad244 := (by injection e244); replace hx244_0 := (HB.out.cell (World.block_lt_of_cell? w _ hx244_0)).trans hx244_0; replace hx244_1 := (HB.out.cell (World.block_lt_of_cell? w _ hx244_1)).trans hx244_1; replace p244 := eq_true p244; replace q244 := eq_true q244; obtain ⟨go38, co38, eo38, gb38, gl38, cl38, HG38⟩ := Kd.S_form HO_9.out (by have h_ : (x41_3 : Int) < ((x9_4.length : Int) : Int) := of_decide_eq_true (by first | (with_reducible assumption) | assumption); have h2_ : 0 ≤ (x41_3 : Int) := (of_decide_eq_true (by first | (with_reducible assumption) | assumption)); omega)
                        (first | cases eo38 | (injection eo38 with ea_ en_ ec_; (first | subst ea_ | (injection ea_ with ea_; subst ea_)); subst ec_; clear en_))
                        have GB38 := aK gb38; have GG38 := aK HG38; clear gb38 gl38 HG38
                        (first | simp only [add_plain] at hx242_0 | skip)
                        obtain ⟨oki38, ce38, hcl38, hM38, hcc38, _, _, hH38⟩ := Kd.S_elem HO_9.out [] (x41_3 : Int) (of_decide_eq_true (by first | (with_reducible assumption) | assumption)) (by have h_ : (x41_3 : Int) < ((x9_4.length : Int) : Int) := of_decide_eq_true (by first | (with_reducible assumption) | assumption); first | exact h_ | (have e_ := (Kd.S_reads' HO_9.out).1; omega) | simpa using h_); obtain ⟨ve38_0, rfl, ge38_0⟩ := hM38; have hv38 := hcc38 0 _ rfl; have hX38 := HX242_0.out
                        (try simp only [add_plain] at hX38)
                        (try simp only [Nat.add_zero] at hv38)
                        (try rw [show ((Kd.slice 48 k48)).sz = 1 from rfl, Nat.mul_one] at hv38)
                        replace hv38 := Option.some.inj (hv38.symm.trans hX38); subst hv38; clear hX38 hcc38 hcl38; have UU38 := aK (show Kd.R k48 48 _ w.heap.size oki38 (.slice A242_0 (rd_L4 x9_4 x41_3).length c242_0) (rd_L4 x9_4 x41_3) from ge38_0); have HH38 := aK hH38; have HN38 := aK (Kd.S_reads' HO_9.out).1; clear hH38 ge38_0
                        refine start_ (n := 25) (S := fun w' => w'.cell? ⟨gb233, 0, none⟩ = some (.slice A0_0 l0_0.length c0_0) ∧ w'.cell? ⟨gb233, 1, none⟩ = some (.slice (some ad243) l0_1.length c0_1) ∧ w'.cell? ⟨gb233, 2, none⟩ = some (.slice A0_2 l0_2.length c0_2) ∧ w'.cell? ⟨gb233, 3, none⟩ = some (.slice A0_3 l0_3.length c0_3) ∧ w'.cell? ⟨gb233, 4, none⟩ = some (.slice A0_4 l0_4.length c0_4) ∧ w'.cell? ⟨gb241, 0, none⟩ = some (.int .i64 ((rd_T48 (rd_L4 l1 x41_3) x48_4).f0)) ∧ w'.cell? ⟨gb241, 1, none⟩ = some (.int .i64 ((rd_T48 (rd_L4 l1 x41_3) x48_4).f1)) ∧ w'.cell? ⟨gb241, 2, none⟩ = some (.int .i64 ((rd_T48 (rd_L4 l1 x41_3) x48_4).f2)) ∧ w'.cell? ⟨go38, (x41_3).toNat, none⟩ = some (.slice A242_0 (rd_L4 x9_4 x41_3).length c242_0) ∧ w'.cell? (ad243.add ((x10_4).toNat * 2)) = some (.int .i64 ((rd_T43 l0_1 x10_4).f0)) ∧ w'.cell? ⟨(ad243.add ((x10_4).toNat * 2)).block, (ad243.add ((x10_4).toNat * 2)).off + 1, none⟩ = some (.int .i64 ((rd_T43 l0_1 x10_4).f1)) ∧ w'.cell? (ad243.add ((x10_4).toNat * 2)) = some (.int .i64 ((rd_T43 l0_1 x10_4).f0)) ∧ w'.cell? ⟨(ad243.add ((x10_4).toNat * 2)).block, (ad243.add ((x10_4).toNat * 2)).off + 1, none⟩ = some (.int .i64 ((rd_T43 l0_1 x10_4).f1))) (ds := [24]) #[false, false, false, false, false, false, false, false, false, false, false, false, false, false, false, false, false, false, false, false, false, false, false, false, false] (by kernel_rfl) rfl rfl ⟨(bC BK233.out 0).trans rfl, (bC BK233.out 1).trans rfl, (bC BK233.out 2).trans rfl, (bC BK233.out 3).trans rfl, (bC BK233.out 4).trans rfl, (bC BK241.out 0).trans rfl, (bC BK241.out 1).trans rfl, (bC BK241.out 2).trans rfl, hx242_0, ((HB.out.cell (World.block_lt_of_cell? w _ hw243_0)).trans hw243_0), ((HB.out.cell (World.block_lt_of_cell? w _ hw243_1)).trans hw243_1), ((HB.out.cell (World.block_lt_of_cell? w _ hw244_0)).trans hw244_0), ((HB.out.cell (World.block_lt_of_cell? w _ hw244_1)).trans hw244_1)⟩ (fun hHeld => ?_); refine with_tabW gstate_Outline.tab17 gstate_Outline.bits17 (fun HT_ HW_ => ?_)
                        generalize w35.drew = w36 at HO_9 BK233 BK241 HB GG38 HH38 HL242_0 HR242_0 HX242_0 UU38 hx242_0 hx243_0 hx243_1 hx244_0 hx244_1 hHeld ⊢
                        refine pure_ (i := 0) (N := some 52) (v := ?_) (a' := ?_) #[true, false, false, false, false, false, false, false, false, false, false, false, false, false, false, false, false, false, false, false, false, false, false, false, false] rfl rfl (any_of HT_.out (by kernel_rfl)) (fun _ _ _ h => h) (Or.inl ⟨by rfl, ?_⟩) ?_ ?_
                        rotate_left
                        ·intro w'
                         go_simp
                         with_reducible rfl
                        rotate_left
                        ·simp only [Act.put, List.setIfInBounds_toArray, List.set_cons_zero, List.set_cons_succ, i64_w, i32_w]
                         rfl
                        refine pure_ (i := 1) (N := some 53) (v := ?_) (a' := ?_) #[true, true, false, false, false, false, false, false, false, false, false, false, false, false, false, false, false, false, false, false, false, false, false, false, false] rfl rfl (any_of HT_.out (by kernel_rfl)) (fun _ _ _ h => h) (Or.inl ⟨by rfl, ?_⟩) ?_ ?_
                        rotate_left
                        ·intro w'
                         go_simp
                         with_reducible rfl
                        rotate_left
                        ·simp only [Act.put, List.setIfInBounds_toArray, List.set_cons_zero, List.set_cons_succ, i64_w, i32_w]
                         rfl
                        refine pure_ (i := 2) (N := some 54) (v := ?_) (a' := ?_) #[true, true, true, false, false, false, false, false, false, false, false, false, false, false, false, false, false, false, false, false, false, false, false, false, false] rfl rfl (any_of HT_.out (by kernel_rfl)) (fun _ _ _ h => h) (Or.inl ⟨by rfl, ?_⟩) ?_ ?_
                        rotate_left
                        ·intro w'
                         go_simp
                         with_reducible rfl
                        rotate_left
                        ·simp only [Act.put, List.setIfInBounds_toArray, List.set_cons_zero, List.set_cons_succ, i64_w, i32_w]
                         rfl
                        refine pure_ (i := 3) (N := some 55) (v := ?_) (a' := ?_) #[true, true, true, true, false, false, false, false, false, false, false, false, false, false, false, false, false, false, false, false, false, false, false, false, false] rfl rfl (any_of HT_.out (by kernel_rfl)) (fun _ _ _ h => h) (Or.inl ⟨by rfl, ?_⟩) ?_ ?_
                        rotate_left
                        ·intro w'
                         go_simp
                         with_reducible rfl
                        rotate_left
                        ·simp only [Act.put, List.setIfInBounds_toArray, List.set_cons_zero, List.set_cons_succ, i64_w, i32_w]
                         rfl
                        refine pure_ (i := 4) (N := some 56) (v := ?_) (a' := ?_) #[true, true, true, true, true, false, false, false, false, false, false, false, false, false, false, false, false, false, false, false, false, false, false, false, false] rfl rfl (any_of HT_.out (by kernel_rfl)) (fun _ _ _ h => h) (Or.inl ⟨by rfl, ?_⟩) ?_ ?_
                        rotate_left
                        ·intro w'
                         go_simp
                         with_reducible rfl
                        rotate_left
                        ·simp only [Act.put, List.setIfInBounds_toArray, List.set_cons_zero, List.set_cons_succ, i64_w, i32_w]
                         rfl
                        refine pure_ (i := 6) (N := some 58) (v := ?_) (a' := ?_) #[true, true, true, true, true, false, true, false, false, false, false, false, false, false, false, false, false, false, false, false, false, false, false, false, false] rfl rfl (any_of HT_.out (by kernel_rfl)) (fun _ _ _ h => h) (Or.inl ⟨by rfl, ?_⟩) ?_ ?_
                        rotate_left
                        ·intro w'
                         go_simp
                         with_reducible rfl
                        rotate_left
                        ·simp only [Act.put, List.setIfInBounds_toArray, List.set_cons_zero, List.set_cons_succ, i64_w, i32_w]
                         rfl
                        refine pure_ (i := 8) (N := some 60) (v := ?_) (a' := ?_) #[true, true, true, true, true, false, true, false, true, false, false, false, false, false, false, false, false, false, false, false, false, false, false, false, false] rfl rfl (any_of HT_.out (by kernel_rfl)) (fun _ _ _ h => h) (Or.inl ⟨by rfl, ?_⟩) ?_ ?_
                        rotate_left
                        ·intro w'
                         go_simp
                         with_reducible rfl
                        rotate_left
                        ·simp only [Act.put, List.setIfInBounds_toArray, List.set_cons_zero, List.set_cons_succ, i64_w, i32_w]
                         rfl
                        refine pure_ (i := 12) (N := some 64) (v := ?_) (a' := ?_) #[true, true, true, true, true, false, true, false, true, false, false, false, true, false, false, false, false, false, false, false, false, false, false, false, false] rfl rfl (any_of HT_.out (by kernel_rfl)) (fun _ _ _ h => h) (Or.inl ⟨by rfl, ?_⟩) ?_ ?_
                        rotate_left
                        ·intro w'
                         go_simp
                         with_reducible rfl
                        rotate_left
                        ·simp only [Act.put, List.setIfInBounds_toArray, List.set_cons_zero, List.set_cons_succ, i64_w, i32_w]
                         rfl
                        refine pure_ (i := 14) (N := some 66) (v := ?_) (a' := ?_) #[true, true, true, true, true, false, true, false, true, false, false, false, true, false, true, false, false, false, false, false, false, false, false, false, false] rfl rfl (any_of HT_.out (by kernel_rfl)) (fun _ _ _ h => h) (Or.inl ⟨by rfl, ?_⟩) ?_ ?_
                        rotate_left
                        ·intro w'
                         go_simp
                         with_reducible rfl
                        rotate_left
                        ·simp only [Act.put, List.setIfInBounds_toArray, List.set_cons_zero, List.set_cons_succ, i64_w, i32_w]
                         rfl
                        refine pure_ (i := 18) (N := some 70) (v := ?_) (a' := ?_) #[true, true, true, true, true, false, true, false, true, false, false, false, true, false, true, false, false, false, true, false, false, false, false, false, false] rfl rfl (any_of HT_.out (by kernel_rfl)) (fun _ _ _ h => h) (Or.inl ⟨by rfl, ?_⟩) ?_ ?_
                        rotate_left
                        ·intro w'
                         go_simp
                         with_reducible rfl
                        rotate_left
                        ·simp only [Act.put, List.setIfInBounds_toArray, List.set_cons_zero, List.set_cons_succ, i64_w, i32_w]
                         rfl
                        refine take_ (i := 5) (N := some 57) (v := ?_) (a' := ?_) #[true, true, true, true, true, true, true, false, true, false, false, false, true, false, true, false, false, false, true, false, false, false, false, false, false] rfl rfl (take_ofW HT_.out HW_.out (by kernel_rfl)) (fun _ _ _ h => h) (Or.inl ⟨by rfl, ?_⟩) hHeld ?_ ?_
                        rotate_left
                        ·rintro w' ⟨s0, s1, s2, s3, s4, s5, s6, s7, s8, s9, s10, s11, s12⟩
                         go_simp
                         with_reducible rfl
                        rotate_left
                        ·simp only [Act.put, List.setIfInBounds_toArray, List.set_cons_zero, List.set_cons_succ, i64_w, i32_w]
                         rfl
                        refine take_ (i := 7) (N := some 59) (v := ?_) (a' := ?_) #[true, true, true, true, true, true, true, true, true, false, false, false, true, false, true, false, false, false, true, false, false, false, false, false, false] rfl rfl (take_ofW HT_.out HW_.out (by kernel_rfl)) (fun _ _ _ h => h) (Or.inl ⟨by rfl, ?_⟩) hHeld ?_ ?_
                        rotate_left
                        ·rintro w' ⟨s0, s1, s2, s3, s4, s5, s6, s7, s8, s9, s10, s11, s12⟩
                         go_simp
                         with_reducible rfl
                        rotate_left
                        ·simp only [Act.put, List.setIfInBounds_toArray, List.set_cons_zero, List.set_cons_succ, i64_w, i32_w]
                         rfl
                        refine pure_ (i := 9) (N := some 61) (v := ?_) (a' := ?_) #[true, true, true, true, true, true, true, true, true, true, false, false, true, false, true, false, false, false, true, false, false, false, false, false, false] rfl rfl (any_of HT_.out (by kernel_rfl)) (fun _ _ _ h => h) (Or.inl ⟨by rfl, ?_⟩) ?_ ?_
                        rotate_left
                        ·intro w'
                         go_simp
                         with_reducible rfl
                        rotate_left
                        ·simp only [Act.put, List.setIfInBounds_toArray, List.set_cons_zero, List.set_cons_succ, i64_w, i32_w]
                         rfl
                        refine pure_ (i := 10) (N := some 62) (v := ?_) (a' := ?_) #[true, true, true, true, true, true, true, true, true, true, true, false, true, false, true, false, false, false, true, false, false, false, false, false, false] rfl rfl (any_of HT_.out (by kernel_rfl)) (fun _ _ _ h => h) (Or.inl ⟨by rfl, ?_⟩) ?_ ?_
                        rotate_left
                        ·intro w'
                         go_simp
                         with_reducible rfl
                        rotate_left
                        ·simp only [Act.put, List.setIfInBounds_toArray, List.set_cons_zero, List.set_cons_succ, i64_w, i32_w]
                         rfl
                        refine take_ (i := 11) (N := some 63) (v := ?_) (a' := ?_) #[true, true, true, true, true, true, true, true, true, true, true, true, true, false, true, false, false, false, true, false, false, false, false, false, false] rfl rfl (take_ofW HT_.out HW_.out (by kernel_rfl)) (fun _ _ _ h => h) (Or.inl ⟨by rfl, ?_⟩) hHeld ?_ ?_
                        rotate_left
                        ·rintro w' ⟨s0, s1, s2, s3, s4, s5, s6, s7, s8, s9, s10, s11, s12⟩
                         go_simp
                         with_reducible rfl
                        rotate_left
                        ·simp only [Act.put, List.setIfInBounds_toArray, List.set_cons_zero, List.set_cons_succ, i64_w, i32_w]
                         rfl
                        refine take_ (i := 13) (N := some 65) (v := ?_) (a' := ?_) #[true, true, true, true, true, true, true, true, true, true, true, true, true, true, true, false, false, false, true, false, false, false, false, false, false] rfl rfl (take_ofW HT_.out HW_.out (by kernel_rfl)) (fun _ _ _ h => h) (Or.inl ⟨by rfl, ?_⟩) hHeld ?_ ?_
                        rotate_left
                        ·rintro w' ⟨s0, s1, s2, s3, s4, s5, s6, s7, s8, s9, s10, s11, s12⟩
                         go_simp
                         with_reducible rfl
                        rotate_left
                        ·simp only [Act.put, List.setIfInBounds_toArray, List.set_cons_zero, List.set_cons_succ, i64_w, i32_w]
                         rfl
                        refine pure_ (i := 15) (N := some 67) (v := ?_) (a' := ?_) #[true, true, true, true, true, true, true, true, true, true, true, true, true, true, true, true, false, false, true, false, false, false, false, false, false] rfl rfl (any_of HT_.out (by kernel_rfl)) (fun _ _ _ h => h) (Or.inl ⟨by rfl, ?_⟩) ?_ ?_
                        rotate_left
                        ·intro w'
                         go_simp
                         with_reducible rfl
                        rotate_left
                        ·simp only [Act.put, List.setIfInBounds_toArray, List.set_cons_zero, List.set_cons_succ, i64_w, i32_w]
                         rfl
                        refine pure_ (i := 16) (N := some 68) (v := ?_) (a' := ?_) #[true, true, true, true, true, true, true, true, true, true, true, true, true, true, true, true, true, false, true, false, false, false, false, false, false] rfl rfl (any_of HT_.out (by kernel_rfl)) (fun _ _ _ h => h) (Or.inl ⟨by rfl, ?_⟩) ?_ ?_
                        rotate_left
                        ·intro w'
                         go_simp
                         with_reducible rfl
                        rotate_left
                        ·simp only [Act.put, List.setIfInBounds_toArray, List.set_cons_zero, List.set_cons_succ, i64_w, i32_w]
                         rfl
                        refine take_ (i := 17) (N := some 69) (v := ?_) (a' := ?_) #[true, true, true, true, true, true, true, true, true, true, true, true, true, true, true, true, true, true, true, false, false, false, false, false, false] rfl rfl (take_ofW HT_.out HW_.out (by kernel_rfl)) (fun _ _ _ h => h) (Or.inl ⟨by rfl, ?_⟩) hHeld ?_ ?_
                        rotate_left
                        ·rintro w' ⟨s0, s1, s2, s3, s4, s5, s6, s7, s8, s9, s10, s11, s12⟩
                         go_simp
                         with_reducible rfl
                        rotate_left
                        ·simp only [Act.put, List.setIfInBounds_toArray, List.set_cons_zero, List.set_cons_succ, i64_w, i32_w]
                         rfl
                        refine take_ (i := 19) (N := some 71) (v := ?_) (a' := ?_) #[true, true, true, true, true, true, true, true, true, true, true, true, true, true, true, true, true, true, true, true, false, false, false, false, false] rfl rfl (take_ofW HT_.out HW_.out (by kernel_rfl)) (fun _ _ _ h => h) (Or.inl ⟨by rfl, ?_⟩) hHeld ?_ ?_
                        rotate_left
                        ·rintro w' ⟨s0, s1, s2, s3, s4, s5, s6, s7, s8, s9, s10, s11, s12⟩
                         go_simp
                         with_reducible rfl
                        rotate_left
                        ·simp only [Act.put, List.setIfInBounds_toArray, List.set_cons_zero, List.set_cons_succ, i64_w, i32_w]
                         rfl
                        refine pure_ (i := 20) (N := some 72) (v := ?_) (a' := ?_) #[true, true, true, true, true, true, true, true, true, true, true, true, true, true, true, true, true, true, true, true, true, false, false, false, false] rfl rfl (any_of HT_.out (by kernel_rfl)) (fun _ _ _ h => h) (Or.inl ⟨by rfl, ?_⟩) ?_ ?_
                        rotate_left
                        ·intro w'
                         go_simp
                         with_reducible rfl
                        rotate_left
                        ·simp only [Act.put, List.setIfInBounds_toArray, List.set_cons_zero, List.set_cons_succ, i64_w, i32_w]
                         rfl
                        refine one_ (i := 21) (N := some 73) #[true, true, true, true, true, true, true, true, true, true, true, true, true, true, true, true, true, true, true, true, true, true, false, false, false] rfl rfl (one_of HT_.out (by kernel_rfl)) (by decide) (fun K hK => ?_)
                        refine value_ (w1 := ?_) (v := ?_) (by rfl) rfl ?_ ?_
                        rotate_left 2
                        ·go_simp
                         constructor
                         ·rfl
                         ·rfl
                        refine hK.out _ _ ⟨(bC (bA BK233.out _) 0).trans rfl, (bC (bA BK233.out _) 1).trans rfl, (bC (bA BK233.out _) 2).trans rfl, (bC (bA BK233.out _) 3).trans rfl, (bC (bA BK233.out _) 4).trans rfl, (bC (bA BK241.out _) 0).trans rfl, (bC (bA BK241.out _) 1).trans rfl, (bC (bA BK241.out _) 2).trans rfl, (World.cell?_alloc_lt _ _ _ (World.block_lt_of_cell? _ _ (hHeld.2.2.2.2.2.2.2.2.1))).trans (hHeld.2.2.2.2.2.2.2.2.1), (World.cell?_alloc_lt _ _ _ (World.block_lt_of_cell? _ _ (((HB.out.cell (World.block_lt_of_cell? w _ hw243_0)).trans hw243_0)))).trans (((HB.out.cell (World.block_lt_of_cell? w _ hw243_0)).trans hw243_0)), (World.cell?_alloc_lt _ _ _ (World.block_lt_of_cell? _ _ (((HB.out.cell (World.block_lt_of_cell? w _ hw243_1)).trans hw243_1)))).trans (((HB.out.cell (World.block_lt_of_cell? w _ hw243_1)).trans hw243_1)), (World.cell?_alloc_lt _ _ _ (World.block_lt_of_cell? _ _ (((HB.out.cell (World.block_lt_of_cell? w _ hw244_0)).trans hw244_0)))).trans (((HB.out.cell (World.block_lt_of_cell? w _ hw244_0)).trans hw244_0)), (World.cell?_alloc_lt _ _ _ (World.block_lt_of_cell? _ _ (((HB.out.cell (World.block_lt_of_cell? w _ hw244_1)).trans hw244_1)))).trans (((HB.out.cell (World.block_lt_of_cell? w _ hw244_1)).trans hw244_1))⟩ (fun hHeld => ?_)
                        clear hK K
                        refine norm_ (a' := ?_) ?_ ?_
                        rotate_left
                        ·show Act.put _ (some 73) _ = _
                         simp only [Act.put, List.setIfInBounds_toArray, List.set_cons_zero, List.set_cons_succ, i64_w, i32_w]
                         rfl
                        refine one_ (i := 22) (N := some 74) #[true, true, true, true, true, true, true, true, true, true, true, true, true, true, true, true, true, true, true, true, true, true, true, false, false] rfl rfl (one_of HT_.out (by kernel_rfl)) (by decide) (fun K hK => ?_)
                        refine Kd.R_append_step k48 (w0 := w) w.heap.size (by rfl) (.tmp 57) (.tmp 73) 46 48 (.agg #[(.int .i64 0), (.int .i64 0), (.int .i64 0)]) 24 rfl Try.underlying46 info48 rfl (by decide) (by omega) (.slice A242_0 (rd_L4 x9_4 x41_3).length c242_0) (rd_L4 x9_4 x41_3) (⟨(rd_T43 l0_1 x10_4).f0, (rd_T43 l0_1 x10_4).f1, (rd_T48 (rd_L4 l1 x41_3) x48_4).f2⟩ : S48) [.int .i64 ((rd_T43 l0_1 x10_4).f0), .int .i64 ((rd_T43 l0_1 x10_4).f1), .int .i64 ((rd_T48 (rd_L4 l1 x41_3) x48_4).f2)] (fun k_ => oki38 k_ ∨ ((fun k_ => k_ ≠ gb241)) k_ ∧ w36.heap.size ≤ k_) (fun _ => False) rfl rfl ?aP (fun _ hk => hk.elim) ?aF ?aO ?aB ?aS ?aL ?_
                        (case aP => exact k48_mkM _ _ _ (⟨(rd_T43 l0_1 x10_4).f0, (rd_T43 l0_1 x10_4).f1, (rd_T48 (rd_L4 l1 x41_3) x48_4).f2⟩ : S48))
                        (case aB => exact (by with_reducible repeat first | exact HB.out | apply lN | apply lD | refine lS ?_ GE233.out | refine lS ?_ GE241.out))
                        (case aF => exact (fun k_ hk => .inr ⟨Kd.freshB (g := gb241) (o := .cells #[.int .i64 ((rd_T48 (rd_L4 l1 x41_3) x48_4).f0), .int .i64 ((rd_T48 (rd_L4 l1 x41_3) x48_4).f1), .int .i64 ((rd_T48 (rd_L4 l1 x41_3) x48_4).f2)] 48 (0, 0)) (by (with_reducible repeat (first | refine bN ?_ _ | refine bD ?_ | refine bA ?_ _)); exact BK241.out) k_ hk, hk⟩))
                        (case aO => exact (by (with_reducible repeat (first | apply rA | apply rN | apply rD)); exact rM UU38.out (fun _ hk => .inl hk)))
                        (case aS => exact (lZ (by with_reducible repeat first | exact HB.out | apply lN | apply lD | refine lS ?_ GE233.out | refine lS ?_ GE241.out)))
                        (case aL => have := LMc30.out; omega)
                        intro v246 w39 ho hb hg hat
                        (first | have HS8_ := cell_grown hg (hHeld.2.2.2.2.2.2.2.2.1) (by first | (rw [add_block]; exact (fun e_ => ((HL242_0.out.1 _ e_.symm).2) rfl)) | (show some (Addr.add _ _).block ≠ _; rw [add_block]; exact (fun e_ => ((HL242_0.out.1 _ e_.symm).2) rfl)) | exact (fun e_ => ((HL242_0.out.1 _ e_.symm).2) rfl)) | have HS8_ := cell_grown hg (cell_unalloc (hHeld.2.2.2.2.2.2.2.2.1) (by first | (rw [add_block]; exact Kd.S_lt HO_9.out _ rfl) | (show (Addr.add _ _).block < _; rw [add_block]; exact Kd.S_lt HO_9.out _ rfl) | exact Kd.S_lt HO_9.out _ rfl)) (by first | (rw [add_block]; exact (fun e_ => ((HL242_0.out.1 _ e_.symm).2) rfl)) | (show some (Addr.add _ _).block ≠ _; rw [add_block]; exact (fun e_ => ((HL242_0.out.1 _ e_.symm).2) rfl)) | exact (fun e_ => ((HL242_0.out.1 _ e_.symm).2) rfl)))
                        rw [← Ny245.out] at ho
                        have HO247 := aK (ho); replace BK233 := aK (bG BK233.out hg (Kd.R_ne HL242_0.out BK233.out (by decide))); replace BK241 := aK (bG BK241.out hg (Kd.R_away HL242_0.out (fun _ hk => hk.1))); replace HB := aK (hb); replace HH38 := aK (Kd.H_grown (Kd.H_widen (by repeat (first | exact HH38.out | refine Kd.H_alloc ?_ _ | refine Kd.H_drewN ?_ _ | refine Kd.H_drew ?_))) hg (fun k_ e_ => .inl (UU38.out.1 k_ e_))); (try clear HL242_0 HO_9 UU38); clear ho hb hg hat; have p31 : 0 ≤ (x41_3 : Int) := of_decide_eq_true (by first | (with_reducible assumption) | assumption); have q31 : (x41_3 : Int) < ((x9_4.length : Int) : Int) := of_decide_eq_true (by first | (with_reducible assumption) | assumption); replace p31 := eq_true p31; replace q31 := eq_true q31; obtain ⟨Ao42, co42, eo42⟩ := Kd.R_slice HO247.out
                        (first | subst eo42 | (injection eo42 with f1_ f2_ f3_; have f4_ := f1_.symm; have f5_ := f3_.symm; clear f1_ f2_ f3_; subst f4_; subst f5_))
                        obtain ⟨_, _, hraw40, _, _, hcc40, _⟩ := Kd.H_raw HH38.out (of_decide_eq_true (by first | (with_reducible assumption) | assumption)) (by have h_ : (x41_3 : Int) < ((x9_4.length : Int) : Int) := of_decide_eq_true (by first | (with_reducible assumption) | assumption); first | exact h_ | (have e_ := (HN38.out); omega) | simpa using h_); obtain ⟨_, hfr40⟩ := Kd.H_at HH38.out (of_decide_eq_true (by first | (with_reducible assumption) | assumption)) (by have h_ : (x41_3 : Int) < ((x9_4.length : Int) : Int) := of_decide_eq_true (by first | (with_reducible assumption) | assumption); first | exact h_ | (have e_ := (HN38.out); omega) | simpa using h_); have hx40_0 := hcc40 0 _ rfl; have hf40_0 := hfr40 0
                        (try simp only [Nat.add_zero] at hx40_0 hf40_0)
                        (try rw [show ((Kd.slice 48 k48)).sz = 1 from rfl, Nat.mul_one] at hx40_0)
                        (try rw [show ((Kd.slice 48 k48)).sz = 1 from rfl, Nat.mul_one] at hf40_0)
                        have HP40 := Kd.S_seg0 HH38.out (of_decide_eq_true (by first | (with_reducible assumption) | assumption)) (by have h_ : (x41_3 : Int) < ((x9_4.length : Int) : Int) := of_decide_eq_true (by first | (with_reducible assumption) | assumption); first | exact h_ | (have e_ := (HN38.out); omega) | simpa using h_) (seg := [.slice Ao42 y245.length co42]) (j := 0) (show 1 ≤ 1 from by decide) (x' := y245) (Kd.M_row HO247.out) (fun _ hk => hk)
                        (try simp only [show ((Kd.slice 48 k48)).sz = 1 from rfl, Nat.mul_one, Nat.add_zero] at HP40)
                        clear hcc40 hfr40; have HNB233_go38 := aK (show gb233 ≠ go38 from by have h_ := Kd.R_ne hraw40 BK233.out (by decide); intro e_; exact h_ (by rw [e_]; rfl)); have HNB241_go38 := aK (show gb241 ≠ go38 from by have h_ := Kd.R_ne hraw40 BK241.out (by decide); intro e_; exact h_ (by rw [e_]; rfl)); have HS40 := HP40.1
                        rw [← Ny248.out] at HS40
                        have HQ40 := aK HS40; obtain ⟨_, hgg40⟩ := Kd.R_typed hraw40 go38 rfl; have GG40_ := aK hgg40; clear HP40 HS40 hgg40
                        refine hK.out _ _ ⟨(bC BK233.out 0).trans rfl, (bC BK233.out 1).trans rfl, (bC BK233.out 2).trans rfl, (bC BK233.out 3).trans rfl, (bC BK233.out 4).trans rfl, (bC BK241.out 0).trans rfl, (bC BK241.out 1).trans rfl, (bC BK241.out 2).trans rfl, HS8_, ((HB.out.cell (World.block_lt_of_cell? w _ hw243_0)).trans hw243_0), ((HB.out.cell (World.block_lt_of_cell? w _ hw243_1)).trans hw243_1), ((HB.out.cell (World.block_lt_of_cell? w _ hw244_0)).trans hw244_0), ((HB.out.cell (World.block_lt_of_cell? w _ hw244_1)).trans hw244_1)⟩ (fun hHeld => ?_)
                        clear hK K
                        refine norm_ (a' := ?_) ?_ ?_
                        rotate_left
                        ·show Act.put _ (some 74) _ = _
                         simp only [Act.put, List.setIfInBounds_toArray, List.set_cons_zero, List.set_cons_succ, i64_w, i32_w]
                         rfl
                        refine pure_ (i := 23) (N := some 75) (v := ?_) (a' := ?_) #[true, true, true, true, true, true, true, true, true, true, true, true, true, true, true, true, true, true, true, true, true, true, true, true, false] rfl rfl (any_of HT_.out (by kernel_rfl)) (fun _ _ _ h => h) (Or.inl ⟨by rfl, ?_⟩) ?_ ?_
                        rotate_left
                        ·intro w'
                         go_simp
                         with_reducible rfl
                        rotate_left
                        ·simp only [Act.put, List.setIfInBounds_toArray, List.set_cons_zero, List.set_cons_succ, i64_w, i32_w]
                         rfl
                        refine last_ (i := 24) (N := none) #[true, true, true, true, true, true, true, true, true, true, true, true, true, true, true, true, true, true, true, true, true, true, true, true, true] rfl rfl (one_of HT_.out (by kernel_rfl)) (by decide) (fun K hK => ?_)
                        refine skip_ (w1 := ?_) (by rfl) rfl ?_ ?_
                        rotate_left
                        ·go_simp
                         rfl
                        refine hK.out _ _ ?_
                        clear hK K
                        refine done_ (done_of HT_.out (by kernel_rfl)) ?_
                        try go_wp2
                        go_roundg k4
                        case measure => have := HK1.out; have := HJ6.out; have := HK3.out; have := HK4.out; omega
                        case rel => exact ⟨(y248), (wrap64 (x10_4 + 1)), (wrap64 (x48_4 + 1)), (by first | rfl | (simp; done) | (simp [*]; done)), (by first | rfl | (simp; done) | (simp [*]; done)), H', ⟨by have := HK1.out; have := HJ6.out; have := HK3.out; have := HK4.out; omega⟩, ⟨by (with_reducible repeat (first | apply Kd.S_alloc | apply Kd.S_drewN | apply Kd.S_drew)); exact Kd.S_mono HQ40.out (fun _ hk => trivial)⟩, ⟨(bR BK233.out HNB233_go38.out _)⟩, ⟨by with_reducible repeat first | exact HB.out | apply lN | apply lD | refine lS ?_ GB38.out | refine lS ?_ GE233.out | refine lS ?_ GE241.out⟩⟩
                       ·rw [if_neg c30] at H
                        exact absurd H (by simp)
                      ·rw [if_neg c29] at H
                       exact absurd H (by simp)
                     ·rw [if_neg c28] at H
                      exact absurd H (by simp)
                    ·rw [if_neg c27] at H
                     exact absurd H (by simp)
                   ·rw [if_neg c26] at H
                    exact absurd H (by simp)
                  ·rw [if_neg c25] at H
                   exact absurd H (by simp)
                 ·rw [if_neg c24] at H
                  exact absurd H (by simp)
                ·rw [if_neg c23] at H
                 have c23b0 : decide (x48_4 < ((rd_L4 l1 x41_3).length : Int)) = false := decide_eq_false c23; clear c23; have H' := aK H; clear H
                 go_wp2
                 go_roundg k4
                 case measure => have := HK1.out; have := HJ6.out; have := HK3.out; have := HK4.out; omega
                 case rel => exact ⟨(x9_4), (x10_4), (wrap64 (x41_3 + 1)), (by first | rfl | (simp; done) | (simp [*]; done)), (by first | rfl | (simp; done) | (simp [*]; done)), H', ⟨by have := HK1.out; have := HJ6.out; have := HK3.out; have := HK4.out; omega⟩, ⟨by (with_reducible repeat (first | apply Kd.S_alloc | apply Kd.S_drewN | apply Kd.S_drew)); exact HO_9.out⟩, ⟨BK233.out⟩, ⟨by with_reducible repeat first | exact HB.out | apply lN | apply lD | refine lS ?_ GE233.out⟩⟩
             ·rw [if_neg c22] at H
              exact absurd H (by simp)
            ·rw [if_neg c21] at H
             exact absurd H (by simp)
           ·rw [if_neg c20] at H
            have c20b0 : decide (x41_3 < (l1.length : Int)) = false := decide_eq_false c20; clear c20
            simp only [Option.some.injEq, Prod.mk.injEq] at H
            obtain ⟨rfl, rfl⟩ := H
            go_wp2
            go_ret2
            exact ⟨_, by first | rfl | (simp [errW_none, errW_some] <;> rfl) | (simp [*, errW_none, errW_some] <;> rfl), by (with_reducible repeat (first | apply Kd.S_alloc | apply Kd.S_drewN | apply Kd.S_drew)); exact HO_9.out, by with_reducible repeat first | exact HB.out | apply lN | apply lD | refine lS ?_ GE233.out⟩
        ·rw [if_neg c17] at H
         exact absurd H (by simp)
       ·rw [if_neg c16] at H
        exact absurd H (by simp)

/-! ### serifref06_SameOutline: function 30 -/
mutual
def serifref06_SameOutline.l0 : Nat → List (List (S48)) → List (List (S48)) → Int → Int → Option (Bool)
 | 0, _, _, _, _ => none
 | k + 1, x0, x1, x13, x14 => if x14 < x13 then (if 0 ≤ x14 then (if x14 < (x0.length : Int) then (if x14 < (x1.length : Int) then (if ((rd_L4 x0 x14).length : Int) = ((rd_L4 x1 x14).length : Int) then (serifref06_SameOutline.l1 k x0 x1 x14 x13 x14 ((rd_L4 x0 x14).length : Int) 0) else (some false)) else (none)) else (none)) else (none)) else (some true)
def serifref06_SameOutline.l1 : Nat → List (List (S48)) → List (List (S48)) → Int → Int → Int → Int → Int → Option (Bool)
 | 0, _, _, _, _, _, _, _ => none
 | k + 1, x0, x1, x5, x13, x14, x32, x33 => if x33 < x32 then (if 0 ≤ x5 then (if x5 < (x0.length : Int) then (if 0 ≤ x33 then (if x33 < ((rd_L4 x0 x5).length : Int) then (if x5 < (x1.length : Int) then (if x33 < ((rd_L4 x1 x5).length : Int) then (if (!(((rd_T48 (rd_L4 x0 x5) x33).f0) == ((rd_T48 (rd_L4 x1 x5) x33).f0)) || (!(((rd_T48 (rd_L4 x0 x5) x33).f1) == ((rd_T48 (rd_L4 x1 x5) x33).f1)) || (!(((rd_T48 (rd_L4 x0 x5) x33).f2) == ((rd_T48 (rd_L4 x1 x5) x33).f2))))) = true then (some false) else (serifref06_SameOutline.l1 k x0 x1 x5 x13 x14 x32 (wrap64 (x33 + 1)))) else (none)) else (none)) else (none)) else (none)) else (none)) else (none)) else (serifref06_SameOutline.l0 k x0 x1 x13 (wrap64 (x14 + 1)))
end
def serifref06_SameOutline.f (k : Nat) (l0 : List (List (S48))) (l1 : List (List (S48))) : Option (Bool) := if (l0.length : Int) = (l1.length : Int) then (serifref06_SameOutline.l0 k l0 l1 (l0.length : Int) 0) else (some false)
theorem serifref06_SameOutline.mono_l : ∀ k, (∀ y0 y1 y2 y3, LeO (serifref06_SameOutline.l0 k y0 y1 y2 y3) (serifref06_SameOutline.l0 (k + 1) y0 y1 y2 y3)) ∧ (∀ y0 y1 y2 y3 y4 y5 y6, LeO (serifref06_SameOutline.l1 k y0 y1 y2 y3 y4 y5 y6) (serifref06_SameOutline.l1 (k + 1) y0 y1 y2 y3 y4 y5 y6))
 | 0 => ⟨fun _ _ _ _ r h => by simp [serifref06_SameOutline.l0] at h, fun _ _ _ _ _ _ _ r h => by simp [serifref06_SameOutline.l1] at h⟩
 | k + 1 => by
  obtain ⟨ih0, ih1⟩ := serifref06_SameOutline.mono_l k
  refine ⟨?_, ?_⟩
  ·intro y0 y1 y2 y3
   unfold serifref06_SameOutline.l0
   repeat' first
   | (with_reducible exact ih0 _ _ _ _)
   | (with_reducible exact ih1 _ _ _ _ _ _ _)
   | (with_reducible exact LeO.refl _)
   | (with_reducible exact LeO.none _)
   | (with_reducible refine LeO.ite ?_ ?_)
   | (with_reducible refine LeO.bind ?_ (fun _ => ?_))
   | exact ih0 _ _ _ _
   | exact ih1 _ _ _ _ _ _ _
   | exact LeO.none _
   | refine LeO.ite ?_ ?_
   | refine LeO.bind ?_ (fun _ => ?_)
  ·intro y0 y1 y2 y3 y4 y5 y6
   unfold serifref06_SameOutline.l1
   repeat' first
   | (with_reducible exact ih0 _ _ _ _)
   | (with_reducible exact ih1 _ _ _ _ _ _ _)
   | (with_reducible exact LeO.refl _)
   | (with_reducible exact LeO.none _)
   | (with_reducible refine LeO.ite ?_ ?_)
   | (with_reducible refine LeO.bind ?_ (fun _ => ?_))
   | exact ih0 _ _ _ _
   | exact ih1 _ _ _ _ _ _ _
   | exact LeO.none _
   | refine LeO.ite ?_ ?_
   | refine LeO.bind ?_ (fun _ => ?_)
theorem serifref06_SameOutline.mono : ∀ a0 a1 k, LeO (serifref06_SameOutline.f k a0 a1) (serifref06_SameOutline.f (k + 1) a0 a1) := by
 intro a0 a1 k
 obtain ⟨ih0, ih1⟩ := serifref06_SameOutline.mono_l k
 unfold serifref06_SameOutline.f
 repeat' first
   | (with_reducible exact ih0 _ _ _ _)
   | (with_reducible exact ih1 _ _ _ _ _ _ _)
   | (with_reducible exact LeO.refl _)
   | (with_reducible exact LeO.none _)
   | (with_reducible refine LeO.ite ?_ ?_)
   | (with_reducible refine LeO.bind ?_ (fun _ => ?_))
   | exact ih0 _ _ _ _
   | exact ih1 _ _ _ _ _ _ _
   | exact LeO.none _
   | refine LeO.ite ?_ ?_
   | refine LeO.bind ?_ (fun _ => ?_)
set_option maxHeartbeats 8000000 in
set_option maxRecDepth 100000 in
theorem serifref06_SameOutline.calls (k : Nat) (A0 : Option Addr) (c0 : Nat) (l0 : List (List (S48))) (A1 : Option Addr) (c1 : Nat) (l1 : List (List (S48))) (r : Bool) (w : World) (hr0 : Kd.C (Kd.slice 48 k48) w A0 l0.length l0) (hc0 : l0.length ≤ c0) (hr1 : Kd.C (Kd.slice 48 k48) w A1 l1.length l1) (hc1 : l1.length ≤ c1) (h : serifref06_SameOutline.f k l0 l1 = some r) :
  Calls Try.prog 30 #[.slice A0 l0.length c0, .slice A1 l1.length c1] w fun e w' => e = .returned (.bool r) ∧ Drawn0 w w' := by
 have hu48 := Try.underlying48; have HR0 := aK hr0; have HC0 := aK hc0; clear hr0 hc0; have HR1 := aK hr1; have HC1 := aK hc1; clear hr1 hc1; have H : (if (l0.length : Int) = (l1.length : Int) then (serifref06_SameOutline.l0 k l0 l1 (l0.length : Int) 0) else (some false)) = some r := h; clear h
 by_cases c3 : (l0.length : Int) = (l1.length : Int)
 ·rw [if_pos c3] at H
  have c3b0 : ((l0.length : Int) == (l1.length : Int)) = true := beq_iff_eq.mpr c3; have c3b1 : ((l0.length : Int) != (l1.length : Int)) = false := bne_eq_false_iff_eq.mpr c3; have c3b2 : (l0.length == l1.length) = true := by first | simpa using c3 | (simp at c3 ⊢; omega)
  clear c3; have H' := aK H; clear H
  go_enter Try.func30, Try.ntmps30
  go_wp2
  repeat (go_quiet (fail); try go_wp2)
  go_loopg [14] k (fun kq v14 w' => ∃ (x14_1 : Int), v14 = .int .i64 x14_1 ∧ Aside0 (serifref06_SameOutline.l0 kq l0 l1 (l0.length : Int) x14_1 = some r) ∧ Aside0 (kq ≤ k) ∧ Drawn0 w w')
  case atStart => exact ⟨(0), (by first | rfl | (simp; done) | (simp [*]; done)), H', ⟨Nat.le_refl _⟩, by repeat (first | exact Drawn0.refl _ | apply Drawn0.step)⟩
  case round =>
   clear H'; (try clear c1); (try clear p2); (try clear c3); (try clear c3b0); (try clear c3b1); (try clear c3b2); obtain ⟨x14_1, rfl, HA, HK1, ⟨m1, rfl⟩⟩ := hrel
   cases gk with
   | zero => exact absurd HA.out (by simp [serifref06_SameOutline.l0])
   | succ k1 =>
    have H := HA.out; clear HA
    simp only [serifref06_SameOutline.l0] at H
    by_cases c4 : x14_1 < (l0.length : Int)
    ·rw [if_pos c4] at H
     have c4b0 : decide (x14_1 < (l0.length : Int)) = true := decide_eq_true c4; clear c4
     by_cases c5 : 0 ≤ x14_1
     ·rw [if_pos c5] at H
      have c5b0 : decide (0 ≤ x14_1) = true := decide_eq_true c5; clear c5
      by_cases c6 : x14_1 < (l0.length : Int)
      ·rw [if_pos c6] at H
       have c6b0 : decide (x14_1 < (l0.length : Int)) = true := decide_eq_true c6; clear c6
       by_cases c7 : x14_1 < (l1.length : Int)
       ·rw [if_pos c7] at H
        have c7b0 : decide (x14_1 < (l1.length : Int)) = true := decide_eq_true c7; clear c7
        by_cases c8 : ((rd_L4 l0 x14_1).length : Int) = ((rd_L4 l1 x14_1).length : Int)
        ·rw [if_pos c8] at H
         have c8b0 : (((rd_L4 l0 x14_1).length : Int) == ((rd_L4 l1 x14_1).length : Int)) = true := beq_iff_eq.mpr c8; have c8b1 : (((rd_L4 l0 x14_1).length : Int) != ((rd_L4 l1 x14_1).length : Int)) = false := bne_eq_false_iff_eq.mpr c8; have c8b2 : ((rd_L4 l0 x14_1).length == (rd_L4 l1 x14_1).length) = true := by first | simpa using c8 | (simp at c8 ⊢; omega)
         clear c8; have H' := aK H; clear H; have p249 : 0 ≤ (x14_1 : Int) := of_decide_eq_true (by first | (with_reducible assumption) | assumption); have q249 : x14_1 < (l0.length : Int) := of_decide_eq_true (by first | (with_reducible assumption) | assumption); obtain ⟨ad249, A249_0, c249_0, e249, hx249_0, hl249_0, hi249_0⟩ := at_L4 HR0.out x14_1 p249 q249
         cases e249
         have HR249_0 := aK hi249_0; have HC249_0 := aK hl249_0; clear hi249_0 hl249_0; replace p249 := eq_true p249; replace q249 := eq_true q249; have p250 : 0 ≤ (x14_1 : Int) := of_decide_eq_true (by first | (with_reducible assumption) | assumption); have q250 : x14_1 < (l1.length : Int) := of_decide_eq_true (by first | (with_reducible assumption) | assumption); obtain ⟨ad250, A250_0, c250_0, e250, hx250_0, hl250_0, hi250_0⟩ := at_L4 HR1.out x14_1 p250 q250
         cases e250
         have HR250_0 := aK hi250_0; have HC250_0 := aK hl250_0; clear hi250_0 hl250_0; replace p250 := eq_true p250; replace q250 := eq_true q250; have p251 : 0 ≤ (x14_1 : Int) := of_decide_eq_true (by first | (with_reducible assumption) | assumption); have q251 : x14_1 < (l0.length : Int) := of_decide_eq_true (by first | (with_reducible assumption) | assumption); obtain ⟨ad251, A251_0, c251_0, e251, hx251_0, hl251_0, hi251_0⟩ := at_L4 HR0.out x14_1 p251 q251; obtain rfl : ad249 = ad251 := (by injection e251); have HR251_0 := aK hi251_0; have HC251_0 := aK hl251_0; clear hi251_0 hl251_0; replace p251 := eq_true p251; replace q251 := eq_true q251; have ea_ := Option.some.inj (hx249_0.symm.trans hx251_0)
         injection ea_ with ea_ en_ ec_
         subst ea_; subst ec_; clear en_
         go_wp2
         repeat (go_quiet (fail); try go_wp2)
         go_loopg [33] k1 (fun kq v33 w' => ∃ (x33_2 : Int), v33 = .int .i64 x33_2 ∧ Aside0 (serifref06_SameOutline.l1 kq l0 l1 x14_1 (l0.length : Int) x14_1 ((rd_L4 l0 x14_1).length : Int) x33_2 = some r) ∧ Aside0 (kq ≤ k1) ∧ Drawn0 w w')
         case atStart => exact ⟨(0), (by first | rfl | (simp; done) | (simp [*]; done)), H', ⟨Nat.le_refl _⟩, by repeat (first | exact Drawn0.refl _ | apply Drawn0.step)⟩
         case round =>
          clear H'; (try clear c1); (try clear c2); (try clear p2); (try clear q2); (try clear hx2); (try clear c3); (try clear c3b0); (try clear c3b1); (try clear c3b2); (try clear c4); (try clear c4b0); (try clear c5); (try clear c5b0); (try clear c6); (try clear c6b0); (try clear c7); (try clear c7b0); (try clear c8); (try clear c8b0); (try clear c8b1); (try clear c8b2); (try clear hx249_0); (try clear hx250_0); (try clear hx251_0); (try clear p2); (try clear p249); (try clear p250); (try clear p251); (try clear q249); (try clear q250); (try clear q251); obtain ⟨x33_2, rfl, HA, HK2, ⟨m2, rfl⟩⟩ := hrel
          cases gk with
          | zero => exact absurd HA.out (by simp [serifref06_SameOutline.l1])
          | succ k2 =>
           have H := HA.out; clear HA
           simp only [serifref06_SameOutline.l1] at H
           by_cases c9 : x33_2 < ((rd_L4 l0 x14_1).length : Int)
           ·rw [if_pos c9] at H
            have c9b0 : decide (x33_2 < ((rd_L4 l0 x14_1).length : Int)) = true := decide_eq_true c9; clear c9
            by_cases c10 : 0 ≤ x14_1
            ·rw [if_pos c10] at H
             have c10b0 : decide (0 ≤ x14_1) = true := decide_eq_true c10; clear c10
             by_cases c11 : x14_1 < (l0.length : Int)
             ·rw [if_pos c11] at H
              have c11b0 : decide (x14_1 < (l0.length : Int)) = true := decide_eq_true c11; clear c11
              by_cases c12 : 0 ≤ x33_2
              ·rw [if_pos c12] at H
               have c12b0 : decide (0 ≤ x33_2) = true := decide_eq_true c12; clear c12
               by_cases c13 : x33_2 < ((rd_L4 l0 x14_1).length : Int)
               ·rw [if_pos c13] at H
                have c13b0 : decide (x33_2 < ((rd_L4 l0 x14_1).length : Int)) = true := decide_eq_true c13; clear c13
                by_cases c14 : x14_1 < (l1.length : Int)
                ·rw [if_pos c14] at H
                 have c14b0 : decide (x14_1 < (l1.length : Int)) = true := decide_eq_true c14; clear c14
                 by_cases c15 : x33_2 < ((rd_L4 l1 x14_1).length : Int)
                 ·rw [if_pos c15] at H
                  have c15b0 : decide (x33_2 < ((rd_L4 l1 x14_1).length : Int)) = true := decide_eq_true c15; clear c15
                  by_cases c16 : (!(((rd_T48 (rd_L4 l0 x14_1) x33_2).f0) == ((rd_T48 (rd_L4 l1 x14_1) x33_2).f0)) || (!(((rd_T48 (rd_L4 l0 x14_1) x33_2).f1) == ((rd_T48 (rd_L4 l1 x14_1) x33_2).f1)) || (!(((rd_T48 (rd_L4 l0 x14_1) x33_2).f2) == ((rd_T48 (rd_L4 l1 x14_1) x33_2).f2))))) = true
                  ·rw [if_pos c16] at H
                   have c16b0 : (!(((rd_T48 (rd_L4 l0 x14_1) x33_2).f0) == ((rd_T48 (rd_L4 l1 x14_1) x33_2).f0)) || (!(((rd_T48 (rd_L4 l0 x14_1) x33_2).f1) == ((rd_T48 (rd_L4 l1 x14_1) x33_2).f1)) || (!(((rd_T48 (rd_L4 l0 x14_1) x33_2).f2) == ((rd_T48 (rd_L4 l1 x14_1) x33_2).f2))))) = true := c16; clear c16; obtain rfl := Option.some.inj H; have p252 : 0 ≤ (x14_1 : Int) := of_decide_eq_true (by first | (with_reducible assumption) | assumption); have q252 : x14_1 < (l0.length : Int) := of_decide_eq_true (by first | (with_reducible assumption) | assumption); obtain ⟨ad252, A252_0, c252_0, e252, hx252_0, hl252_0, hi252_0⟩ := at_L4 HR0.out x14_1 p252 q252; obtain rfl : ad249 = ad252 := (by injection e252); have HR252_0 := aK hi252_0; have HC252_0 := aK hl252_0; clear hi252_0 hl252_0; replace p252 := eq_true p252; replace q252 := eq_true q252; have p253 : 0 ≤ (x33_2 : Int) := of_decide_eq_true (by first | (with_reducible assumption) | assumption); have q253 : x33_2 < ((rd_L4 l0 x14_1).length : Int) := of_decide_eq_true (by first | (with_reducible assumption) | assumption); obtain ⟨ad253, e253, hx253_0, hx253_1, hx253_2⟩ := at_T48 HR252_0.out x33_2 p253 q253
                   cases e253
                   replace p253 := eq_true p253; replace q253 := eq_true q253; have p254 : 0 ≤ (x14_1 : Int) := of_decide_eq_true (by first | (with_reducible assumption) | assumption); have q254 : x14_1 < (l1.length : Int) := of_decide_eq_true (by first | (with_reducible assumption) | assumption); obtain ⟨ad254, A254_0, c254_0, e254, hx254_0, hl254_0, hi254_0⟩ := at_L4 HR1.out x14_1 p254 q254; obtain rfl : ad250 = ad254 := (by injection e254); have HR254_0 := aK hi254_0; have HC254_0 := aK hl254_0; clear hi254_0 hl254_0; replace p254 := eq_true p254; replace q254 := eq_true q254; have p255 : 0 ≤ (x33_2 : Int) := of_decide_eq_true (by first | (with_reducible assumption) | assumption); have q255 : x33_2 < ((rd_L4 l1 x14_1).length : Int) := of_decide_eq_true (by first | (with_reducible assumption) | assumption); obtain ⟨ad255, e255, hx255_0, hx255_1, hx255_2⟩ := at_T48 HR254_0.out x33_2 p255 q255
                   cases e255
                   replace p255 := eq_true p255; replace q255 := eq_true q255
                   go_wp2
                   repeat (go_quiet (fail); try go_wp2)
                   go_ret
                   exact ⟨by first | rfl | (simp; done) | (simp [*]; done), by repeat (first | exact Drawn0.refl _ | apply Drawn0.step)⟩
                  ·rw [if_neg c16] at H
                   have c16b0 : (!(((rd_T48 (rd_L4 l0 x14_1) x33_2).f0) == ((rd_T48 (rd_L4 l1 x14_1) x33_2).f0)) || (!(((rd_T48 (rd_L4 l0 x14_1) x33_2).f1) == ((rd_T48 (rd_L4 l1 x14_1) x33_2).f1)) || (!(((rd_T48 (rd_L4 l0 x14_1) x33_2).f2) == ((rd_T48 (rd_L4 l1 x14_1) x33_2).f2))))) = false := by simpa using c16
                   clear c16; have H' := aK H; clear H; have p252 : 0 ≤ (x14_1 : Int) := of_decide_eq_true (by first | (with_reducible assumption) | assumption); have q252 : x14_1 < (l0.length : Int) := of_decide_eq_true (by first | (with_reducible assumption) | assumption); obtain ⟨ad252, A252_0, c252_0, e252, hx252_0, hl252_0, hi252_0⟩ := at_L4 HR0.out x14_1 p252 q252; obtain rfl : ad249 = ad252 := (by injection e252); have HR252_0 := aK hi252_0; have HC252_0 := aK hl252_0; clear hi252_0 hl252_0; replace p252 := eq_true p252; replace q252 := eq_true q252; have p253 : 0 ≤ (x33_2 : Int) := of_decide_eq_true (by first | (with_reducible assumption) | assumption); have q253 : x33_2 < ((rd_L4 l0 x14_1).length : Int) := of_decide_eq_true (by first | (with_reducible assumption) | assumption); obtain ⟨ad253, e253, hx253_0, hx253_1, hx253_2⟩ := at_T48 HR252_0.out x33_2 p253 q253
                   cases e253
                   replace p253 := eq_true p253; replace q253 := eq_true q253; have p254 : 0 ≤ (x14_1 : Int) := of_decide_eq_true (by first | (with_reducible assumption) | assumption); have q254 : x14_1 < (l1.length : Int) := of_decide_eq_true (by first | (with_reducible assumption) | assumption); obtain ⟨ad254, A254_0, c254_0, e254, hx254_0, hl254_0, hi254_0⟩ := at_L4 HR1.out x14_1 p254 q254; obtain rfl : ad250 = ad254 := (by injection e254); have HR254_0 := aK hi254_0; have HC254_0 := aK hl254_0; clear hi254_0 hl254_0; replace p254 := eq_true p254; replace q254 := eq_true q254; have p255 : 0 ≤ (x33_2 : Int) := of_decide_eq_true (by first | (with_reducible assumption) | assumption); have q255 : x33_2 < ((rd_L4 l1 x14_1).length : Int) := of_decide_eq_true (by first | (with_reducible assumption) | assumption); obtain ⟨ad255, e255, hx255_0, hx255_1, hx255_2⟩ := at_T48 HR254_0.out x33_2 p255 q255
                   cases e255
                   replace p255 := eq_true p255; replace q255 := eq_true q255
                   go_wp2
                   repeat (go_quiet (fail); try go_wp2)
                   go_roundg k2
                   case measure => have := HK1.out; have := HK2.out; omega
                   case rel => exact ⟨(wrap64 (x33_2 + 1)), (by first | rfl | (simp; done) | (simp [*]; done)), H', ⟨by have := HK1.out; have := HK2.out; omega⟩, by repeat (first | exact Drawn0.refl _ | apply Drawn0.step)⟩
                 ·rw [if_neg c15] at H
                  exact absurd H (by simp)
                ·rw [if_neg c14] at H
                 exact absurd H (by simp)
               ·rw [if_neg c13] at H
                exact absurd H (by simp)
              ·rw [if_neg c12] at H
               exact absurd H (by simp)
             ·rw [if_neg c11] at H
              exact absurd H (by simp)
            ·rw [if_neg c10] at H
             exact absurd H (by simp)
           ·rw [if_neg c9] at H
            have c9b0 : decide (x33_2 < ((rd_L4 l0 x14_1).length : Int)) = false := decide_eq_false c9; clear c9; have H' := aK H; clear H
            go_wp2
            repeat (go_quiet (fail); try go_wp2)
            go_roundg k2
            case measure => have := HK1.out; have := HK2.out; omega
            case rel => exact ⟨(wrap64 (x14_1 + 1)), (by first | rfl | (simp; done) | (simp [*]; done)), H', ⟨by have := HK1.out; have := HK2.out; omega⟩, by repeat (first | exact Drawn0.refl _ | apply Drawn0.step)⟩
        ·rw [if_neg c8] at H
         have c8b0 : (((rd_L4 l0 x14_1).length : Int) == ((rd_L4 l1 x14_1).length : Int)) = false := beq_eq_false_iff_ne.mpr c8; have c8b1 : (((rd_L4 l0 x14_1).length : Int) != ((rd_L4 l1 x14_1).length : Int)) = true := bne_iff_ne.mpr c8; have c8b2 : ((rd_L4 l0 x14_1).length == (rd_L4 l1 x14_1).length) = false := by first | simpa using c8 | (simp at c8 ⊢; omega)
         obtain rfl := Option.some.inj H; have p249 : 0 ≤ (x14_1 : Int) := of_decide_eq_true (by first | (with_reducible assumption) | assumption); have q249 : x14_1 < (l0.length : Int) := of_decide_eq_true (by first | (with_reducible assumption) | assumption); obtain ⟨ad249, A249_0, c249_0, e249, hx249_0, hl249_0, hi249_0⟩ := at_L4 HR0.out x14_1 p249 q249
         cases e249
         have HR249_0 := aK hi249_0; have HC249_0 := aK hl249_0; clear hi249_0 hl249_0; replace p249 := eq_true p249; replace q249 := eq_true q249; have p250 : 0 ≤ (x14_1 : Int) := of_decide_eq_true (by first | (with_reducible assumption) | assumption); have q250 : x14_1 < (l1.length : Int) := of_decide_eq_true (by first | (with_reducible assumption) | assumption); obtain ⟨ad250, A250_0, c250_0, e250, hx250_0, hl250_0, hi250_0⟩ := at_L4 HR1.out x14_1 p250 q250
         cases e250
         have HR250_0 := aK hi250_0; have HC250_0 := aK hl250_0; clear hi250_0 hl250_0; replace p250 := eq_true p250; replace q250 := eq_true q250
         go_wp2
         repeat (go_quiet (fail); try go_wp2)
         go_ret
         exact ⟨by first | rfl | (simp; done) | (simp [*]; done), by repeat (first | exact Drawn0.refl _ | apply Drawn0.step)⟩
       ·rw [if_neg c7] at H
        exact absurd H (by simp)
      ·rw [if_neg c6] at H
       exact absurd H (by simp)
     ·rw [if_neg c5] at H
      exact absurd H (by simp)
    ·rw [if_neg c4] at H
     have c4b0 : decide (x14_1 < (l0.length : Int)) = false := decide_eq_false c4; clear c4; obtain rfl := Option.some.inj H
     go_wp2
     repeat (go_quiet (fail); try go_wp2)
     go_ret
     exact ⟨by first | rfl | (simp; done) | (simp [*]; done), by repeat (first | exact Drawn0.refl _ | apply Drawn0.step)⟩
 ·rw [if_neg c3] at H
  have c3b0 : ((l0.length : Int) == (l1.length : Int)) = false := beq_eq_false_iff_ne.mpr c3; have c3b1 : ((l0.length : Int) != (l1.length : Int)) = true := bne_iff_ne.mpr c3; have c3b2 : (l0.length == l1.length) = false := by first | simpa using c3 | (simp at c3 ⊢; omega)
  obtain rfl := Option.some.inj H
  go_enter Try.func30, Try.ntmps30
  go_wp2
  repeat (go_quiet (fail); try go_wp2)
  go_ret
  exact ⟨by first | rfl | (simp; done) | (simp [*]; done), by repeat (first | exact Drawn0.refl _ | apply Drawn0.step)⟩

end Go.Proofs.Ytneiaobhjjbedaa.PGstateZones
