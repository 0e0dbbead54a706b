/- A part of the proof of the law GstateZones: plain functions and what the machine's calls of them come to; printed by wip/extprint.py out of the kit's printer and contracts of our own. No condition but an answer of the plain function. -/
import Derived.Test.YtneiaobhjjbedaaPGstateZonesx0
import Derived.Test.YtneiaobhjjbedaaPGstateZonesx1
import Derived.Test.YtneiaobhjjbedaaPGstateZonesx3
import Derived.Test.YtneiaobhjjbedaaPGstateZonesx4
import Derived.Test.YtneiaobhjjbedaaPGstateZonesx5
import Derived.Test.YtneiaobhjjbedaaPGstateZonesx6
namespace Go.Proofs.Ytneiaobhjjbedaa.PGstateZones
open Go.RowKit Go.Proofs.YtneiaobhjjbedaaW.PrintWords Go.Proofs.YtneiaobhjjbedaaW.PrintLast Go.Proofs.YtneiaobhjjbedaaW.PrintMore
attribute [local go_sem] max2_int min2_int max_two min_two max_three min_three max_four min_four   -- for this text's walks alone
open Go.Value renaming ownBlock → oB
open Aside0 renaming mk → aK
open Go.Proofs.Ytneiaobhjjbedaa (st1 st2 st3 st5 st55 bc)
open Go.Proofs.YtneiaobhjjbedaaW.PrintWords renaming blk_drewN → bN, blk_drew → bD, blk_alloc → bA, below_alloc → lA, pw_below_drewN → lN, below_drew1 → lD, below_set → lS, blk_below → bB, blk_grown → bG, blk_cell → bC, blk_frozen → bF, blk_far → bR, blk_put → bP, below_size → lZ, below_step → lT
open Go.Proofs.YtneiaobhjjbedaaW.PrintWords.Kd renaming R_alloc → rA, R_drewN → rN, R_drew → rD, R_far → rF, R_mono → rM, R_below → rB, R_types → rT, R_grown → rG, C_alloc → cA, C_drewN → cN, C_drew → cD, R_reads' → rR
set_option linter.unusedVariables false
set_option linter.unusedSimpArgs false

attribute [local go_sem high] eqA43
/-! ### seriflaw09_GstateZones: function 9 -/
mutual
def seriflaw09_GstateZones.j0 : Nat → List (List (S48)) → Bool → List (S43) → List (S43) → List Bool → List Bool → List Int → List (S43) → List (S43) → List Bool → List Bool → List Int → List (S43) → List (S43) → List Bool → List Bool → List Int → List (S43) → List (S43) → List Bool → List Bool → List Int → Option (Bool)
 | 0, _, _, _, _, _, _, _, _, _, _, _, _, _, _, _, _, _, _, _, _, _, _ => none
 | k + 1, x0, x37, x257000, x257001, x257002, x257003, x257004, x295000, x295001, x295002, x295003, x295004, x296000, x296001, x296002, x296003, x296004, x312000, x312001, x312002, x312003, x312004 => if x37 = true then (some false) else (seriflaw09_GstateZones.l0 k x0 (x295000.length : Int) 0 x257000 x257001 x257002 x257003 x257004 x295000 x295001 x295002 x295003 x295004 x296000 x296001 x296002 x296003 x296004 x312000 x312001 x312002 x312003 x312004)
def seriflaw09_GstateZones.l0 : Nat → List (List (S48)) → Int → Int → List (S43) → List (S43) → List Bool → List Bool → List Int → List (S43) → List (S43) → List Bool → List Bool → List Int → List (S43) → List (S43) → List Bool → List Bool → List Int → List (S43) → List (S43) → List Bool → List Bool → List Int → Option (Bool)
 | 0, _, _, _, _, _, _, _, _, _, _, _, _, _, _, _, _, _, _, _, _, _, _, _ => none
 | k + 1, x0, x40, x41, x257000, x257001, x257002, x257003, x257004, x295000, x295001, x295002, x295003, x295004, x296000, x296001, x296002, x296003, x296004, x312000, x312001, x312002, x312003, x312004 => if x41 < x40 then (if 0 ≤ x41 then (if x41 < (x295000.length : Int) then (seriflaw09_GstateZones.l0 k x0 x40 (wrap64 (x41 + 1)) x257000 x257001 x257002 x257003 x257004 (x295000.set (x41 : Int).toNat (⟨77, (rd_T43 x295000 x41).f1⟩ : S43)) x295001 x295002 x295003 x295004 x296000 x296001 x296002 x296003 x296004 x312000 x312001 x312002 x312003 x312004) else (none)) else (none)) else (seriflaw09_GstateZones.l1 k x0 0 x257000 x257001 x257002 x257003 x257004 x295000 x295001 x295002 x295003 x295004 x296000 x296001 x296002 x296003 x296004 x312000 x312001 x312002 x312003 x312004)
def seriflaw09_GstateZones.l1 : Nat → List (List (S48)) → Int → List (S43) → List (S43) → List Bool → List Bool → List Int → List (S43) → List (S43) → List Bool → List Bool → List Int → List (S43) → List (S43) → List Bool → List Bool → List Int → List (S43) → List (S43) → List Bool → List Bool → List Int → Option (Bool)
 | 0, _, _, _, _, _, _, _, _, _, _, _, _, _, _, _, _, _, _, _, _, _, _ => none
 | k + 1, x0, x9, x257000, x257001, x257002, x257003, x257004, x295000, x295001, x295002, x295003, x295004, x296000, x296001, x296002, x296003, x296004, x312000, x312001, x312002, x312003, x312004 => if x9 < 9 then (if x295000.length < 8796093022208 then (if x295001.length < 8796093022208 then (if x295002.length < 140737488355328 then (if x295003.length < 140737488355328 then (if x295004.length < 17592186044416 then (seriflaw09_GstateZones.l1 k x0 (wrap64 (x9 + 1)) x257000 x257001 x257002 x257003 x257004 (x295000 ++ [(⟨9, 0⟩ : S43)]) (x295001 ++ [(⟨8, 0⟩ : S43)]) (x295002 ++ [true]) (x295003 ++ [true]) (x295004 ++ [5]) x296000 x296001 x296002 x296003 x296004 x312000 x312001 x312002 x312003 x312004) else (none)) else (none)) else (none)) else (none)) else (none)) else (if (x312001.length : Int) > 0 then (if 0 < (x295001.length : Int) then (if 0 < (x312001.length : Int) then (if (!(((rd_T43 x295001 0).f0) == ((rd_T43 x312001 0).f0)) || (!(((rd_T43 x295001 0).f1) == ((rd_T43 x312001 0).f1)))) = true then (seriflaw09_GstateZones.j3 k x0 true x257000 x257001 x257002 x257003 x257004 x312000 x312001 x312002 x312003 x312004) else ((serifref09_Same.f k x296000 x296001 x296002 x296003 x296004 x312000 x312001 x312002 x312003 x312004).bind fun t348 => (seriflaw09_GstateZones.j3 k x0 (!t348) x257000 x257001 x257002 x257003 x257004 x312000 x312001 x312002 x312003 x312004))) else (none)) else (none)) else ((serifref09_Same.f k x296000 x296001 x296002 x296003 x296004 x312000 x312001 x312002 x312003 x312004).bind fun t349 => (seriflaw09_GstateZones.j3 k x0 (!t349) x257000 x257001 x257002 x257003 x257004 x312000 x312001 x312002 x312003 x312004)))
def seriflaw09_GstateZones.j3 : Nat → List (List (S48)) → Bool → List (S43) → List (S43) → List Bool → List Bool → List Int → List (S43) → List (S43) → List Bool → List Bool → List Int → Option (Bool)
 | 0, _, _, _, _, _, _, _, _, _, _, _, _ => none
 | k + 1, x0, x101, x257000, x257001, x257002, x257003, x257004, x312000, x312001, x312002, x312003, x312004 => if x101 = true then (some false) else ((serifref09_Outline.f k x257000 x257001 x257002 x257003 x257004 x0).bind fun bt352 => ((serifref09_Copy.f x257000 x257001 x257002 x257003 x257004).bind fun bt356 => ((serifref06_Copy.f k x0).bind fun t371 => ((gstate_Outline.f k bt356.1 bt356.2.1 bt356.2.2.1 bt356.2.2.2.1 bt356.2.2.2.2 t371).bind fun bt374 => (if bt374.2 = bt352.2 then ((serifref06_SameOutline.f k bt374.1 bt352.1).bind fun t378 => (seriflaw09_GstateZones.j4 k x0 (!t378) x312000 x312001 x312002 x312003 x312004)) else (seriflaw09_GstateZones.j4 k x0 true x312000 x312001 x312002 x312003 x312004))))))
def seriflaw09_GstateZones.j4 : Nat → List (List (S48)) → Bool → List (S43) → List (S43) → List Bool → List Bool → List Int → Option (Bool)
 | 0, _, _, _, _, _, _, _ => none
 | k + 1, x0, x132, x312000, x312001, x312002, x312003, x312004 => if x132 = true then (some false) else ((serifref09_Outline.f k x312000 x312001 x312002 x312003 x312004 x0).bind fun bt380 => ((serifref09_Copy.f x312000 x312001 x312002 x312003 x312004).bind fun bt384 => ((serifref06_Copy.f k x0).bind fun t399 => ((gstate_Outline.f k bt384.1 bt384.2.1 bt384.2.2.1 bt384.2.2.2.1 bt384.2.2.2.2 t399).bind fun bt402 => (if bt402.2 = bt380.2 then ((serifref06_SameOutline.f k bt402.1 bt380.1).bind fun t406 => (if t406 = true then (some true) else (some false))) else (some false))))))
end
def seriflaw09_GstateZones.f (k : Nat) (l0 : List (List (S48))) (l1_0 : List (S43)) (l1_1 : List (S43)) (l1_2 : List Bool) (l1_3 : List Bool) (l1_4 : List Int) : Option (Bool) := (seriflaw09_gstateAlive.f).bind fun t257 => (if t257 = true then ((serifref06_Copy.f k l0).bind fun t258 => ((gstate_New.f k t258).bind fun bt261 => ((serifref06_Copy.f k l0).bind fun t276 => ((gstate_New.f k t276).bind fun bt279 => ((serifref09_New.f k l0).bind fun bt296 => ((serifref09_Same.f k bt261.1 bt261.2.1 bt261.2.2.1 bt261.2.2.2.1 bt261.2.2.2.2 bt296.1 bt296.2.1 bt296.2.2.1 bt296.2.2.2.1 bt296.2.2.2.2).bind fun t312 => (if t312 = true then ((serifref09_Copy.f l1_0 l1_1 l1_2 l1_3 l1_4).bind fun bt313 => ((gstate_Sound.f k bt313.1 bt313.2.1 bt313.2.2.1 bt313.2.2.2.1 bt313.2.2.2.2).bind fun t328 => ((serifref09_Sound.f k l1_0 l1_1 l1_2 l1_3 l1_4).bind fun t329 => (seriflaw09_GstateZones.j0 k l0 (t328 != t329) l1_0 l1_1 l1_2 l1_3 l1_4 bt261.1 bt261.2.1 bt261.2.2.1 bt261.2.2.2.1 bt261.2.2.2.2 bt279.1 bt279.2.1 bt279.2.2.1 bt279.2.2.2.1 bt279.2.2.2.2 bt296.1 bt296.2.1 bt296.2.2.1 bt296.2.2.2.1 bt296.2.2.2.2)))) else (seriflaw09_GstateZones.j0 k l0 true l1_0 l1_1 l1_2 l1_3 l1_4 bt261.1 bt261.2.1 bt261.2.2.1 bt261.2.2.2.1 bt261.2.2.2.2 bt279.1 bt279.2.1 bt279.2.2.1 bt279.2.2.2.1 bt279.2.2.2.2 bt296.1 bt296.2.1 bt296.2.2.1 bt296.2.2.2.1 bt296.2.2.2.2)))))))) else (some false))
theorem seriflaw09_GstateZones.mono_l : ∀ k, (∀ y0 y1 y2 y3 y4 y5 y6 y7 y8 y9 y10 y11 y12 y13 y14 y15 y16 y17 y18 y19 y20 y21, LeO (seriflaw09_GstateZones.j0 k y0 y1 y2 y3 y4 y5 y6 y7 y8 y9 y10 y11 y12 y13 y14 y15 y16 y17 y18 y19 y20 y21) (seriflaw09_GstateZones.j0 (k + 1) y0 y1 y2 y3 y4 y5 y6 y7 y8 y9 y10 y11 y12 y13 y14 y15 y16 y17 y18 y19 y20 y21)) ∧ (∀ y0 y1 y2 y3 y4 y5 y6 y7 y8 y9 y10 y11 y12 y13 y14 y15 y16 y17 y18 y19 y20 y21 y22, LeO (seriflaw09_GstateZones.l0 k y0 y1 y2 y3 y4 y5 y6 y7 y8 y9 y10 y11 y12 y13 y14 y15 y16 y17 y18 y19 y20 y21 y22) (seriflaw09_GstateZones.l0 (k + 1) y0 y1 y2 y3 y4 y5 y6 y7 y8 y9 y10 y11 y12 y13 y14 y15 y16 y17 y18 y19 y20 y21 y22)) ∧ (∀ y0 y1 y2 y3 y4 y5 y6 y7 y8 y9 y10 y11 y12 y13 y14 y15 y16 y17 y18 y19 y20 y21, LeO (seriflaw09_GstateZones.l1 k y0 y1 y2 y3 y4 y5 y6 y7 y8 y9 y10 y11 y12 y13 y14 y15 y16 y17 y18 y19 y20 y21) (seriflaw09_GstateZones.l1 (k + 1) y0 y1 y2 y3 y4 y5 y6 y7 y8 y9 y10 y11 y12 y13 y14 y15 y16 y17 y18 y19 y20 y21)) ∧ (∀ y0 y1 y2 y3 y4 y5 y6 y7 y8 y9 y10 y11, LeO (seriflaw09_GstateZones.j3 k y0 y1 y2 y3 y4 y5 y6 y7 y8 y9 y10 y11) (seriflaw09_GstateZones.j3 (k + 1) y0 y1 y2 y3 y4 y5 y6 y7 y8 y9 y10 y11)) ∧ (∀ y0 y1 y2 y3 y4 y5 y6, LeO (seriflaw09_GstateZones.j4 k y0 y1 y2 y3 y4 y5 y6) (seriflaw09_GstateZones.j4 (k + 1) y0 y1 y2 y3 y4 y5 y6))
 | 0 => ⟨fun _ _ _ _ _ _ _ _ _ _ _ _ _ _ _ _ _ _ _ _ _ _ r h => by simp [seriflaw09_GstateZones.j0] at h, fun _ _ _ _ _ _ _ _ _ _ _ _ _ _ _ _ _ _ _ _ _ _ _ r h => by simp [seriflaw09_GstateZones.l0] at h, fun _ _ _ _ _ _ _ _ _ _ _ _ _ _ _ _ _ _ _ _ _ _ r h => by simp [seriflaw09_GstateZones.l1] at h, fun _ _ _ _ _ _ _ _ _ _ _ _ r h => by simp [seriflaw09_GstateZones.j3] at h, fun _ _ _ _ _ _ _ r h => by simp [seriflaw09_GstateZones.j4] at h⟩
 | k + 1 => by
  obtain ⟨ih0, ih1, ih2, ih3, ih4⟩ := seriflaw09_GstateZones.mono_l k
  refine ⟨?_, ?_, ?_, ?_, ?_⟩
  ·intro y0 y1 y2 y3 y4 y5 y6 y7 y8 y9 y10 y11 y12 y13 y14 y15 y16 y17 y18 y19 y20 y21
   unfold seriflaw09_GstateZones.j0
   repeat' first
   | (with_reducible exact ih0 _ _ _ _ _ _ _ _ _ _ _ _ _ _ _ _ _ _ _ _ _ _)
   | (with_reducible exact ih1 _ _ _ _ _ _ _ _ _ _ _ _ _ _ _ _ _ _ _ _ _ _ _)
   | (with_reducible exact ih2 _ _ _ _ _ _ _ _ _ _ _ _ _ _ _ _ _ _ _ _ _ _)
   | (with_reducible exact ih3 _ _ _ _ _ _ _ _ _ _ _ _)
   | (with_reducible exact ih4 _ _ _ _ _ _ _)
   | (with_reducible exact gstate_New.mono _ _)
   | (with_reducible exact gstate_Outline.mono _ _ _ _ _ _ _)
   | (with_reducible exact gstate_Sound.mono _ _ _ _ _ _)
   | (with_reducible exact serifref06_Copy.mono _ _)
   | (with_reducible exact serifref06_SameOutline.mono _ _ _)
   | (with_reducible exact serifref09_New.mono _ _)
   | (with_reducible exact serifref09_Outline.mono _ _ _ _ _ _ _)
   | (with_reducible exact serifref09_Same.mono _ _ _ _ _ _ _ _ _ _ _)
   | (with_reducible exact serifref09_Sound.mono _ _ _ _ _ _)
   | (with_reducible exact LeO.refl _)
   | (with_reducible exact LeO.none _)
   | (with_reducible refine LeO.ite ?_ ?_)
   | (with_reducible refine LeO.bind ?_ (fun _ => ?_))
   | exact ih0 _ _ _ _ _ _ _ _ _ _ _ _ _ _ _ _ _ _ _ _ _ _
   | exact ih1 _ _ _ _ _ _ _ _ _ _ _ _ _ _ _ _ _ _ _ _ _ _ _
   | exact ih2 _ _ _ _ _ _ _ _ _ _ _ _ _ _ _ _ _ _ _ _ _ _
   | exact ih3 _ _ _ _ _ _ _ _ _ _ _ _
   | exact ih4 _ _ _ _ _ _ _
   | exact gstate_New.mono _ _
   | exact gstate_Outline.mono _ _ _ _ _ _ _
   | exact gstate_Sound.mono _ _ _ _ _ _
   | exact serifref06_Copy.mono _ _
   | exact serifref06_SameOutline.mono _ _ _
   | exact serifref09_New.mono _ _
   | exact serifref09_Outline.mono _ _ _ _ _ _ _
   | exact serifref09_Same.mono _ _ _ _ _ _ _ _ _ _ _
   | exact serifref09_Sound.mono _ _ _ _ _ _
   | exact LeO.none _
   | refine LeO.ite ?_ ?_
   | refine LeO.bind ?_ (fun _ => ?_)
  ·intro y0 y1 y2 y3 y4 y5 y6 y7 y8 y9 y10 y11 y12 y13 y14 y15 y16 y17 y18 y19 y20 y21 y22
   unfold seriflaw09_GstateZones.l0
   repeat' first
   | (with_reducible exact ih0 _ _ _ _ _ _ _ _ _ _ _ _ _ _ _ _ _ _ _ _ _ _)
   | (with_reducible exact ih1 _ _ _ _ _ _ _ _ _ _ _ _ _ _ _ _ _ _ _ _ _ _ _)
   | (with_reducible exact ih2 _ _ _ _ _ _ _ _ _ _ _ _ _ _ _ _ _ _ _ _ _ _)
   | (with_reducible exact ih3 _ _ _ _ _ _ _ _ _ _ _ _)
   | (with_reducible exact ih4 _ _ _ _ _ _ _)
   | (with_reducible exact gstate_New.mono _ _)
   | (with_reducible exact gstate_Outline.mono _ _ _ _ _ _ _)
   | (with_reducible exact gstate_Sound.mono _ _ _ _ _ _)
   | (with_reducible exact serifref06_Copy.mono _ _)
   | (with_reducible exact serifref06_SameOutline.mono _ _ _)
   | (with_reducible exact serifref09_New.mono _ _)
   | (with_reducible exact serifref09_Outline.mono _ _ _ _ _ _ _)
   | (with_reducible exact serifref09_Same.mono _ _ _ _ _ _ _ _ _ _ _)
   | (with_reducible exact serifref09_Sound.mono _ _ _ _ _ _)
   | (with_reducible exact LeO.refl _)
   | (with_reducible exact LeO.none _)
   | (with_reducible refine LeO.ite ?_ ?_)
   | (with_reducible refine LeO.bind ?_ (fun _ => ?_))
   | exact ih0 _ _ _ _ _ _ _ _ _ _ _ _ _ _ _ _ _ _ _ _ _ _
   | exact ih1 _ _ _ _ _ _ _ _ _ _ _ _ _ _ _ _ _ _ _ _ _ _ _
   | exact ih2 _ _ _ _ _ _ _ _ _ _ _ _ _ _ _ _ _ _ _ _ _ _
   | exact ih3 _ _ _ _ _ _ _ _ _ _ _ _
   | exact ih4 _ _ _ _ _ _ _
   | exact gstate_New.mono _ _
   | exact gstate_Outline.mono _ _ _ _ _ _ _
   | exact gstate_Sound.mono _ _ _ _ _ _
   | exact serifref06_Copy.mono _ _
   | exact serifref06_SameOutline.mono _ _ _
   | exact serifref09_New.mono _ _
   | exact serifref09_Outline.mono _ _ _ _ _ _ _
   | exact serifref09_Same.mono _ _ _ _ _ _ _ _ _ _ _
   | exact serifref09_Sound.mono _ _ _ _ _ _
   | exact LeO.none _
   | refine LeO.ite ?_ ?_
   | refine LeO.bind ?_ (fun _ => ?_)
  ·intro y0 y1 y2 y3 y4 y5 y6 y7 y8 y9 y10 y11 y12 y13 y14 y15 y16 y17 y18 y19 y20 y21
   unfold seriflaw09_GstateZones.l1
   repeat' first
   | (with_reducible exact ih0 _ _ _ _ _ _ _ _ _ _ _ _ _ _ _ _ _ _ _ _ _ _)
   | (with_reducible exact ih1 _ _ _ _ _ _ _ _ _ _ _ _ _ _ _ _ _ _ _ _ _ _ _)
   | (with_reducible exact ih2 _ _ _ _ _ _ _ _ _ _ _ _ _ _ _ _ _ _ _ _ _ _)
   | (with_reducible exact ih3 _ _ _ _ _ _ _ _ _ _ _ _)
   | (with_reducible exact ih4 _ _ _ _ _ _ _)
   | (with_reducible exact gstate_New.mono _ _)
   | (with_reducible exact gstate_Outline.mono _ _ _ _ _ _ _)
   | (with_reducible exact gstate_Sound.mono _ _ _ _ _ _)
   | (with_reducible exact serifref06_Copy.mono _ _)
   | (with_reducible exact serifref06_SameOutline.mono _ _ _)
   | (with_reducible exact serifref09_New.mono _ _)
   | (with_reducible exact serifref09_Outline.mono _ _ _ _ _ _ _)
   | (with_reducible exact serifref09_Same.mono _ _ _ _ _ _ _ _ _ _ _)
   | (with_reducible exact serifref09_Sound.mono _ _ _ _ _ _)
   | (with_reducible exact LeO.refl _)
   | (with_reducible exact LeO.none _)
   | (with_reducible refine LeO.ite ?_ ?_)
   | (with_reducible refine LeO.bind ?_ (fun _ => ?_))
   | exact ih0 _ _ _ _ _ _ _ _ _ _ _ _ _ _ _ _ _ _ _ _ _ _
   | exact ih1 _ _ _ _ _ _ _ _ _ _ _ _ _ _ _ _ _ _ _ _ _ _ _
   | exact ih2 _ _ _ _ _ _ _ _ _ _ _ _ _ _ _ _ _ _ _ _ _ _
   | exact ih3 _ _ _ _ _ _ _ _ _ _ _ _
   | exact ih4 _ _ _ _ _ _ _
   | exact gstate_New.mono _ _
   | exact gstate_Outline.mono _ _ _ _ _ _ _
   | exact gstate_Sound.mono _ _ _ _ _ _
   | exact serifref06_Copy.mono _ _
   | exact serifref06_SameOutline.mono _ _ _
   | exact serifref09_New.mono _ _
   | exact serifref09_Outline.mono _ _ _ _ _ _ _
   | exact serifref09_Same.mono _ _ _ _ _ _ _ _ _ _ _
   | exact serifref09_Sound.mono _ _ _ _ _ _
   | exact LeO.none _
   | refine LeO.ite ?_ ?_
   | refine LeO.bind ?_ (fun _ => ?_)
  ·intro y0 y1 y2 y3 y4 y5 y6 y7 y8 y9 y10 y11
   unfold seriflaw09_GstateZones.j3
   repeat' first
   | (with_reducible exact ih0 _ _ _ _ _ _ _ _ _ _ _ _ _ _ _ _ _ _ _ _ _ _)
   | (with_reducible exact ih1 _ _ _ _ _ _ _ _ _ _ _ _ _ _ _ _ _ _ _ _ _ _ _)
   | (with_reducible exact ih2 _ _ _ _ _ _ _ _ _ _ _ _ _ _ _ _ _ _ _ _ _ _)
   | (with_reducible exact ih3 _ _ _ _ _ _ _ _ _ _ _ _)
   | (with_reducible exact ih4 _ _ _ _ _ _ _)
   | (with_reducible exact gstate_New.mono _ _)
   | (with_reducible exact gstate_Outline.mono _ _ _ _ _ _ _)
   | (with_reducible exact gstate_Sound.mono _ _ _ _ _ _)
   | (with_reducible exact serifref06_Copy.mono _ _)
   | (with_reducible exact serifref06_SameOutline.mono _ _ _)
   | (with_reducible exact serifref09_New.mono _ _)
   | (with_reducible exact serifref09_Outline.mono _ _ _ _ _ _ _)
   | (with_reducible exact serifref09_Same.mono _ _ _ _ _ _ _ _ _ _ _)
   | (with_reducible exact serifref09_Sound.mono _ _ _ _ _ _)
   | (with_reducible exact LeO.refl _)
   | (with_reducible exact LeO.none _)
   | (with_reducible refine LeO.ite ?_ ?_)
   | (with_reducible refine LeO.bind ?_ (fun _ => ?_))
   | exact ih0 _ _ _ _ _ _ _ _ _ _ _ _ _ _ _ _ _ _ _ _ _ _
   | exact ih1 _ _ _ _ _ _ _ _ _ _ _ _ _ _ _ _ _ _ _ _ _ _ _
   | exact ih2 _ _ _ _ _ _ _ _ _ _ _ _ _ _ _ _ _ _ _ _ _ _
   | exact ih3 _ _ _ _ _ _ _ _ _ _ _ _
   | exact ih4 _ _ _ _ _ _ _
   | exact gstate_New.mono _ _
   | exact gstate_Outline.mono _ _ _ _ _ _ _
   | exact gstate_Sound.mono _ _ _ _ _ _
   | exact serifref06_Copy.mono _ _
   | exact serifref06_SameOutline.mono _ _ _
   | exact serifref09_New.mono _ _
   | exact serifref09_Outline.mono _ _ _ _ _ _ _
   | exact serifref09_Same.mono _ _ _ _ _ _ _ _ _ _ _
   | exact serifref09_Sound.mono _ _ _ _ _ _
   | exact LeO.none _
   | refine LeO.ite ?_ ?_
   | refine LeO.bind ?_ (fun _ => ?_)
  ·intro y0 y1 y2 y3 y4 y5 y6
   unfold seriflaw09_GstateZones.j4
   repeat' first
   | (with_reducible exact ih0 _ _ _ _ _ _ _ _ _ _ _ _ _ _ _ _ _ _ _ _ _ _)
   | (with_reducible exact ih1 _ _ _ _ _ _ _ _ _ _ _ _ _ _ _ _ _ _ _ _ _ _ _)
   | (with_reducible exact ih2 _ _ _ _ _ _ _ _ _ _ _ _ _ _ _ _ _ _ _ _ _ _)
   | (with_reducible exact ih3 _ _ _ _ _ _ _ _ _ _ _ _)
   | (with_reducible exact ih4 _ _ _ _ _ _ _)
   | (with_reducible exact gstate_New.mono _ _)
   | (with_reducible exact gstate_Outline.mono _ _ _ _ _ _ _)
   | (with_reducible exact gstate_Sound.mono _ _ _ _ _ _)
   | (with_reducible exact serifref06_Copy.mono _ _)
   | (with_reducible exact serifref06_SameOutline.mono _ _ _)
   | (with_reducible exact serifref09_New.mono _ _)
   | (with_reducible exact serifref09_Outline.mono _ _ _ _ _ _ _)
   | (with_reducible exact serifref09_Same.mono _ _ _ _ _ _ _ _ _ _ _)
   | (with_reducible exact serifref09_Sound.mono _ _ _ _ _ _)
   | (with_reducible exact LeO.refl _)
   | (with_reducible exact LeO.none _)
   | (with_reducible refine LeO.ite ?_ ?_)
   | (with_reducible refine LeO.bind ?_ (fun _ => ?_))
   | exact ih0 _ _ _ _ _ _ _ _ _ _ _ _ _ _ _ _ _ _ _ _ _ _
   | exact ih1 _ _ _ _ _ _ _ _ _ _ _ _ _ _ _ _ _ _ _ _ _ _ _
   | exact ih2 _ _ _ _ _ _ _ _ _ _ _ _ _ _ _ _ _ _ _ _ _ _
   | exact ih3 _ _ _ _ _ _ _ _ _ _ _ _
   | exact ih4 _ _ _ _ _ _ _
   | exact gstate_New.mono _ _
   | exact gstate_Outline.mono _ _ _ _ _ _ _
   | exact gstate_Sound.mono _ _ _ _ _ _
   | exact serifref06_Copy.mono _ _
   | exact serifref06_SameOutline.mono _ _ _
   | exact serifref09_New.mono _ _
   | exact serifref09_Outline.mono _ _ _ _ _ _ _
   | exact serifref09_Same.mono _ _ _ _ _ _ _ _ _ _ _
   | exact serifref09_Sound.mono _ _ _ _ _ _
   | exact LeO.none _
   | refine LeO.ite ?_ ?_
   | refine LeO.bind ?_ (fun _ => ?_)
theorem seriflaw09_GstateZones.mono : ∀ a0 a1 a2 a3 a4 a5 k, LeO (seriflaw09_GstateZones.f k a0 a1 a2 a3 a4 a5) (seriflaw09_GstateZones.f (k + 1) a0 a1 a2 a3 a4 a5) := by
 intro a0 a1 a2 a3 a4 a5 k
 obtain ⟨ih0, ih1, ih2, ih3, ih4⟩ := seriflaw09_GstateZones.mono_l k
 unfold seriflaw09_GstateZones.f
 repeat' first
   | (with_reducible exact ih0 _ _ _ _ _ _ _ _ _ _ _ _ _ _ _ _ _ _ _ _ _ _)
   | (with_reducible exact ih1 _ _ _ _ _ _ _ _ _ _ _ _ _ _ _ _ _ _ _ _ _ _ _)
   | (with_reducible exact ih2 _ _ _ _ _ _ _ _ _ _ _ _ _ _ _ _ _ _ _ _ _ _)
   | (with_reducible exact ih3 _ _ _ _ _ _ _ _ _ _ _ _)
   | (with_reducible exact ih4 _ _ _ _ _ _ _)
   | (with_reducible exact gstate_New.mono _ _)
   | (with_reducible exact gstate_Outline.mono _ _ _ _ _ _ _)
   | (with_reducible exact gstate_Sound.mono _ _ _ _ _ _)
   | (with_reducible exact serifref06_Copy.mono _ _)
   | (with_reducible exact serifref06_SameOutline.mono _ _ _)
   | (with_reducible exact serifref09_New.mono _ _)
   | (with_reducible exact serifref09_Outline.mono _ _ _ _ _ _ _)
   | (with_reducible exact serifref09_Same.mono _ _ _ _ _ _ _ _ _ _ _)
   | (with_reducible exact serifref09_Sound.mono _ _ _ _ _ _)
   | (with_reducible exact LeO.refl _)
   | (with_reducible exact LeO.none _)
   | (with_reducible refine LeO.ite ?_ ?_)
   | (with_reducible refine LeO.bind ?_ (fun _ => ?_))
   | exact ih0 _ _ _ _ _ _ _ _ _ _ _ _ _ _ _ _ _ _ _ _ _ _
   | exact ih1 _ _ _ _ _ _ _ _ _ _ _ _ _ _ _ _ _ _ _ _ _ _ _
   | exact ih2 _ _ _ _ _ _ _ _ _ _ _ _ _ _ _ _ _ _ _ _ _ _
   | exact ih3 _ _ _ _ _ _ _ _ _ _ _ _
   | exact ih4 _ _ _ _ _ _ _
   | exact gstate_New.mono _ _
   | exact gstate_Outline.mono _ _ _ _ _ _ _
   | exact gstate_Sound.mono _ _ _ _ _ _
   | exact serifref06_Copy.mono _ _
   | exact serifref06_SameOutline.mono _ _ _
   | exact serifref09_New.mono _ _
   | exact serifref09_Outline.mono _ _ _ _ _ _ _
   | exact serifref09_Same.mono _ _ _ _ _ _ _ _ _ _ _
   | exact serifref09_Sound.mono _ _ _ _ _ _
   | exact LeO.none _
   | refine LeO.ite ?_ ?_
   | refine LeO.bind ?_ (fun _ => ?_)
theorem seriflaw09_GstateZones.j0_no {k : Nat} {x0 : List (List S48)} {y0 : List S43} {y1 : List S43} {y2 : List Bool} {y3 : List Bool} {y4 : List Int} {y5 : List S43} {y6 : List S43} {y7 : List Bool} {y8 : List Bool} {y9 : List Int} {y10 : List S43} {y11 : List S43} {y12 : List Bool} {y13 : List Bool} {y14 : List Int} {y15 : List S43} {y16 : List S43} {y17 : List Bool} {y18 : List Bool} {y19 : List Int} : ¬ (seriflaw09_GstateZones.j0 k x0 true y0 y1 y2 y3 y4 y5 y6 y7 y8 y9 y10 y11 y12 y13 y14 y15 y16 y17 y18 y19 = some true) := by
 cases k <;> simp [seriflaw09_GstateZones.j0]
theorem seriflaw09_GstateZones.j3_no {k : Nat} {x0 : List (List S48)} {y0 : List S43} {y1 : List S43} {y2 : List Bool} {y3 : List Bool} {y4 : List Int} {y5 : List S43} {y6 : List S43} {y7 : List Bool} {y8 : List Bool} {y9 : List Int} : ¬ (seriflaw09_GstateZones.j3 k x0 true y0 y1 y2 y3 y4 y5 y6 y7 y8 y9 = some true) := by
 cases k <;> simp [seriflaw09_GstateZones.j3]
theorem seriflaw09_GstateZones.j4_no {k : Nat} {x0 : List (List S48)} {y0 : List S43} {y1 : List S43} {y2 : List Bool} {y3 : List Bool} {y4 : List Int} : ¬ (seriflaw09_GstateZones.j4 k x0 true y0 y1 y2 y3 y4 = some true) := by
 cases k <;> simp [seriflaw09_GstateZones.j4]
def seriflaw09_GstateZones.T5 : Bool × List (List Nat × List Nat) := (true, [([], []), ([], []), ([0, 1], [0, 1]), ([2], [2]), ([3, 2], [3]), ([4], [4]), ([5, 4, 4], [4, 5]), ([6, 6, 4], [4, 6]), ([4], [4]), ([8, 7, 4], [4, 8]), ([7, 9, 4], [4, 7, 9]), ([4, 10], [4, 10])])
def seriflaw09_GstateZones.B5 : List Nat := [0, 0, 3, 7, 15, 31, 63, 127, 31, 511, 1023, 2047]
theorem seriflaw09_GstateZones.tab5 : rtab .any (opsOf Try.f9 5) = seriflaw09_GstateZones.T5 := by kernel_rfl
theorem seriflaw09_GstateZones.bits5 : waitsOk seriflaw09_GstateZones.T5.2 seriflaw09_GstateZones.B5 = true := by kernel_rfl
def seriflaw09_GstateZones.T20 : Bool × List (List Nat × List Nat) := (true, [([], []), ([0], [0]), ([1], [1]), ([2], [2]), ([3], [3]), ([4], [4]), ([5, 4], [4, 5]), ([6, 4], [4, 6]), ([7, 4], [4, 7]), ([4], [4]), ([9, 4], [4, 9]), ([10, 4], [4, 10]), ([11, 4], [4, 11]), ([8, 12, 4], [4, 8, 12]), ([4, 13], [4, 13]), ([14, 4], [14]), ([15], [15]), ([15], [15]), ([16, 17, 15, 15], [15, 16, 17]), ([18, 15], [15, 18]), ([15, 19], [15, 19])])
def seriflaw09_GstateZones.B20 : List Nat := [0, 1, 3, 7, 15, 31, 63, 127, 255, 31, 543, 1567, 3615, 8191, 16383, 32767, 65535, 65535, 262143, 524287, 1048575]
theorem seriflaw09_GstateZones.tab20 : rtab .any (opsOf Try.f9 20) = seriflaw09_GstateZones.T20 := by kernel_rfl
theorem seriflaw09_GstateZones.bits20 : waitsOk seriflaw09_GstateZones.T20.2 seriflaw09_GstateZones.B20 = true := by kernel_rfl

end Go.Proofs.Ytneiaobhjjbedaa.PGstateZones
