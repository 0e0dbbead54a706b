/- A part of the proof of the law GstatePuts: plain functions and what the machine's calls of them come to; printed by wip/extprint.py out of the kit's printer and contracts of our own. No condition but an answer of the plain function. -/
import Derived.Test.YtneiaobhjjbedaaPGstatePutsx0
import Derived.Test.YtneiaobhjjbedaaPGstatePutsx1
import Derived.Test.YtneiaobhjjbedaaPGstatePutsx2
import Derived.Test.YtneiaobhjjbedaaPGstatePutsx4
import Derived.Test.YtneiaobhjjbedaaPGstatePutsx6
namespace Go.Proofs.Ytneiaobhjjbedaa.PGstatePuts
open Go.RowKit Go.Proofs.YtneiaobhjjbedaaW.PrintWords Go.Proofs.YtneiaobhjjbedaaW.PrintLast Go.Proofs.YtneiaobhjjbedaaW.PrintMore
attribute [local go_sem] max2_int min2_int max_two min_two max_three min_three max_four min_four   -- for this text's walks alone
open Go.Proofs.Ytneiaobhjjbedaa (st1 st2 st3 st5 st55)
open Go.Proofs.YtneiaobhjjbedaaW.PrintWords renaming blk_drewN → bN, blk_drew → bD, blk_alloc → bA, below_alloc → lA, pw_below_drewN → lN, below_drew1 → lD, below_set → lS, blk_below → bB, blk_grown → bG, blk_cell → bC, blk_frozen → bF, blk_far → bR, blk_put → bP, below_size → lZ, below_step → lT
open Go.Proofs.YtneiaobhjjbedaaW.PrintWords.Kd renaming R_alloc → rA, R_drewN → rN, R_drew → rD, R_far → rF, R_mono → rM, R_below → rB, R_types → rT, R_grown → rG, C_alloc → cA, C_drewN → cN, C_drew → cD, R_reads' → rR
set_option linter.unusedVariables false
set_option linter.unusedSimpArgs false

attribute [local go_sem high] eqA43
/-! ### serifref02_SameInts: function 35 -/
def serifref02_SameInts.l0 : Nat → List Int → List Int → Int → Int → Option (Bool)
 | 0, _, _, _, _ => none
 | k + 1, x0, x1, x12, x13 => if x13 < x12 then (if 0 ≤ x13 then (if x13 < (x0.length : Int) then (if x13 < (x1.length : Int) then (if (rd x0 x13) = (rd x1 x13) then (serifref02_SameInts.l0 k x0 x1 x12 (wrap64 (x13 + 1))) else (some false)) else (none)) else (none)) else (none)) else (some true)
def serifref02_SameInts.f (k : Nat) (l0 : List Int) (l1 : List Int) : Option (Bool) := if (l0.length : Int) = (l1.length : Int) then (serifref02_SameInts.l0 k l0 l1 (l0.length : Int) 0) else (some false)
theorem serifref02_SameInts.mono_l : ∀ k, (∀ y0 y1 y2 y3, LeO (serifref02_SameInts.l0 k y0 y1 y2 y3) (serifref02_SameInts.l0 (k + 1) y0 y1 y2 y3))
 | 0 => fun _ _ _ _ r h => by simp [serifref02_SameInts.l0] at h
 | k + 1 => by
  have ih0 := serifref02_SameInts.mono_l k
  ·intro y0 y1 y2 y3
   unfold serifref02_SameInts.l0
   repeat' first
   | (with_reducible exact ih0 _ _ _ _)
   | (with_reducible exact LeO.refl _)
   | (with_reducible exact LeO.none _)
   | (with_reducible refine LeO.ite ?_ ?_)
   | (with_reducible refine LeO.bind ?_ (fun _ => ?_))
   | exact ih0 _ _ _ _
   | exact LeO.none _
   | refine LeO.ite ?_ ?_
   | refine LeO.bind ?_ (fun _ => ?_)
theorem serifref02_SameInts.mono : ∀ a0 a1 k, LeO (serifref02_SameInts.f k a0 a1) (serifref02_SameInts.f (k + 1) a0 a1) := by
 intro a0 a1 k
 have ih0 := serifref02_SameInts.mono_l k
 unfold serifref02_SameInts.f
 repeat' first
   | (with_reducible exact ih0 _ _ _ _)
   | (with_reducible exact LeO.refl _)
   | (with_reducible exact LeO.none _)
   | (with_reducible refine LeO.ite ?_ ?_)
   | (with_reducible refine LeO.bind ?_ (fun _ => ?_))
   | exact ih0 _ _ _ _
   | exact LeO.none _
   | refine LeO.ite ?_ ?_
   | refine LeO.bind ?_ (fun _ => ?_)
set_option maxHeartbeats 8000000 in
set_option maxRecDepth 100000 in
theorem serifref02_SameInts.calls (k : Nat) (A0 : Option Addr) (c0 : Nat) (l0 : List Int) (A1 : Option Addr) (c1 : Nat) (l1 : List Int) (r : Bool) (w : World) (hr0 : Kd.C (Kd.int .i64) w A0 l0.length l0) (hc0 : l0.length ≤ c0) (hr1 : Kd.C (Kd.int .i64) w A1 l1.length l1) (hc1 : l1.length ≤ c1) (h : serifref02_SameInts.f k l0 l1 = some r) :
  Calls Try.prog 35 #[.slice A0 l0.length c0, .slice A1 l1.length c1] w fun e w' => e = .returned (.bool r) ∧ Drawn0 w w' := by
 have HR0 := Aside0.mk hr0
 have HC0 := Aside0.mk hc0
 clear hr0 hc0
 have HR1 := Aside0.mk hr1
 have HC1 := Aside0.mk hc1
 clear hr1 hc1
 have H : (if (l0.length : Int) = (l1.length : Int) then (serifref02_SameInts.l0 k l0 l1 (l0.length : Int) 0) else (some false)) = some r := h
 clear h
 by_cases c3 : (l0.length : Int) = (l1.length : Int)
 ·rw [if_pos c3] at H
  have c3b0 : ((l0.length : Int) == (l1.length : Int)) = true := beq_iff_eq.mpr c3
  have c3b1 : ((l0.length : Int) != (l1.length : Int)) = false := bne_eq_false_iff_eq.mpr c3
  have c3b2 : (l0.length == l1.length) = true := by first | simpa using c3 | (simp at c3 ⊢; omega)
  clear c3
  have H' := Aside0.mk H
  clear H
  go_enter Try.func35, Try.ntmps35
  go_wp2
  repeat (go_quiet (fail); try go_wp2)
  go_loopg [13] k (fun kq v13 w' => ∃ (x13_1 : Int), v13 = .int .i64 x13_1 ∧ Aside0 (serifref02_SameInts.l0 kq l0 l1 (l0.length : Int) x13_1 = some r) ∧ Aside0 (kq ≤ k) ∧ Drawn0 w w')
  case atStart => exact ⟨(0), (by first | rfl | (simp; done) | (simp [*]; done)), H', ⟨Nat.le_refl _⟩, by repeat (first | exact Drawn0.refl _ | apply Drawn0.step)⟩
  case round =>
   clear H'
   try clear c1
   try clear p2
   try clear c3
   try clear c3b0
   try clear c3b1
   try clear c3b2
   obtain ⟨x13_1, rfl, HA, HK1, ⟨m1, rfl⟩⟩ := hrel
   cases gk with
   | zero => exact absurd HA.out (by simp [serifref02_SameInts.l0])
   | succ k1 =>
    have H := HA.out
    clear HA
    simp only [serifref02_SameInts.l0] at H
    by_cases c4 : x13_1 < (l0.length : Int)
    ·rw [if_pos c4] at H
     have c4b0 : decide (x13_1 < (l0.length : Int)) = true := decide_eq_true c4
     clear c4
     by_cases c5 : 0 ≤ x13_1
     ·rw [if_pos c5] at H
      have c5b0 : decide (0 ≤ x13_1) = true := decide_eq_true c5
      clear c5
      by_cases c6 : x13_1 < (l0.length : Int)
      ·rw [if_pos c6] at H
       have c6b0 : decide (x13_1 < (l0.length : Int)) = true := decide_eq_true c6
       clear c6
       by_cases c7 : x13_1 < (l1.length : Int)
       ·rw [if_pos c7] at H
        have c7b0 : decide (x13_1 < (l1.length : Int)) = true := decide_eq_true c7
        clear c7
        by_cases c8 : (rd l0 x13_1) = (rd l1 x13_1)
        ·rw [if_pos c8] at H
         have c8b0 : ((rd l0 x13_1) == (rd l1 x13_1)) = true := beq_iff_eq.mpr c8
         have c8b1 : ((rd l0 x13_1) != (rd l1 x13_1)) = false := bne_eq_false_iff_eq.mpr c8
         clear c8
         have H' := Aside0.mk H
         clear H
         have p270 : 0 ≤ (x13_1 : Int) := of_decide_eq_true (by first | (with_reducible assumption) | assumption)
         have q270 : x13_1 < (l0.length : Int) := of_decide_eq_true (by first | (with_reducible assumption) | assumption)
         obtain ⟨ad270, e270, hx270_0⟩ := Kd.at_int HR0.out x13_1 p270 q270
         cases e270
         replace p270 := eq_true p270
         replace q270 := eq_true q270
         have p271 : 0 ≤ (x13_1 : Int) := of_decide_eq_true (by first | (with_reducible assumption) | assumption)
         have q271 : x13_1 < (l1.length : Int) := of_decide_eq_true (by first | (with_reducible assumption) | assumption)
         obtain ⟨ad271, e271, hx271_0⟩ := Kd.at_int HR1.out x13_1 p271 q271
         cases e271
         replace p271 := eq_true p271
         replace q271 := eq_true q271
         go_wp2
         repeat (go_quiet (fail); try go_wp2)
         go_roundg k1
         case measure => have := HK1.out; omega
         case rel => exact ⟨(wrap64 (x13_1 + 1)), (by first | rfl | (simp; done) | (simp [*]; done)), H', ⟨by have := HK1.out; omega⟩, by repeat (first | exact Drawn0.refl _ | apply Drawn0.step)⟩
        ·rw [if_neg c8] at H
         have c8b0 : ((rd l0 x13_1) == (rd l1 x13_1)) = false := beq_eq_false_iff_ne.mpr c8
         have c8b1 : ((rd l0 x13_1) != (rd l1 x13_1)) = true := bne_iff_ne.mpr c8
         obtain rfl := Option.some.inj H
         have p270 : 0 ≤ (x13_1 : Int) := of_decide_eq_true (by first | (with_reducible assumption) | assumption)
         have q270 : x13_1 < (l0.length : Int) := of_decide_eq_true (by first | (with_reducible assumption) | assumption)
         obtain ⟨ad270, e270, hx270_0⟩ := Kd.at_int HR0.out x13_1 p270 q270
         cases e270
         replace p270 := eq_true p270
         replace q270 := eq_true q270
         have p271 : 0 ≤ (x13_1 : Int) := of_decide_eq_true (by first | (with_reducible assumption) | assumption)
         have q271 : x13_1 < (l1.length : Int) := of_decide_eq_true (by first | (with_reducible assumption) | assumption)
         obtain ⟨ad271, e271, hx271_0⟩ := Kd.at_int HR1.out x13_1 p271 q271
         cases e271
         replace p271 := eq_true p271
         replace q271 := eq_true q271
         go_wp2
         repeat (go_quiet (fail); try go_wp2)
         go_ret
         exact ⟨by first | rfl | (simp; done) | (simp [*]; done), by repeat (first | exact Drawn0.refl _ | apply Drawn0.step)⟩
       ·rw [if_neg c7] at H
        exact absurd H (by simp)
      ·rw [if_neg c6] at H
       exact absurd H (by simp)
     ·rw [if_neg c5] at H
      exact absurd H (by simp)
    ·rw [if_neg c4] at H
     have c4b0 : decide (x13_1 < (l0.length : Int)) = false := decide_eq_false c4
     clear c4
     obtain rfl := Option.some.inj H
     go_wp2
     repeat (go_quiet (fail); try go_wp2)
     go_ret
     exact ⟨by first | rfl | (simp; done) | (simp [*]; done), by repeat (first | exact Drawn0.refl _ | apply Drawn0.step)⟩
 ·rw [if_neg c3] at H
  have c3b0 : ((l0.length : Int) == (l1.length : Int)) = false := beq_eq_false_iff_ne.mpr c3
  have c3b1 : ((l0.length : Int) != (l1.length : Int)) = true := bne_iff_ne.mpr c3
  have c3b2 : (l0.length == l1.length) = false := by first | simpa using c3 | (simp at c3 ⊢; omega)
  obtain rfl := Option.some.inj H
  go_enter Try.func35, Try.ntmps35
  go_wp2
  repeat (go_quiet (fail); try go_wp2)
  go_ret
  exact ⟨by first | rfl | (simp; done) | (simp [*]; done), by repeat (first | exact Drawn0.refl _ | apply Drawn0.step)⟩

/-! ### serifref09_sameSpots: function 45 -/
def serifref09_sameSpots.l0 : Nat → List (S43) → List (S43) → Int → Int → Option (Bool)
 | 0, _, _, _, _ => none
 | k + 1, x0, x1, x12, x13 => if x13 < x12 then (if 0 ≤ x13 then (if x13 < (x0.length : Int) then (if x13 < (x1.length : Int) then (if (!(((rd_T43 x0 x13).f0) == ((rd_T43 x1 x13).f0)) || (!(((rd_T43 x0 x13).f1) == ((rd_T43 x1 x13).f1)))) = true then (some false) else (serifref09_sameSpots.l0 k x0 x1 x12 (wrap64 (x13 + 1)))) else (none)) else (none)) else (none)) else (some true)
def serifref09_sameSpots.f (k : Nat) (l0 : List (S43)) (l1 : List (S43)) : Option (Bool) := if (l0.length : Int) = (l1.length : Int) then (serifref09_sameSpots.l0 k l0 l1 (l0.length : Int) 0) else (some false)
theorem serifref09_sameSpots.mono_l : ∀ k, (∀ y0 y1 y2 y3, LeO (serifref09_sameSpots.l0 k y0 y1 y2 y3) (serifref09_sameSpots.l0 (k + 1) y0 y1 y2 y3))
 | 0 => fun _ _ _ _ r h => by simp [serifref09_sameSpots.l0] at h
 | k + 1 => by
  have ih0 := serifref09_sameSpots.mono_l k
  ·intro y0 y1 y2 y3
   unfold serifref09_sameSpots.l0
   repeat' first
   | (with_reducible exact ih0 _ _ _ _)
   | (with_reducible exact LeO.refl _)
   | (with_reducible exact LeO.none _)
   | (with_reducible refine LeO.ite ?_ ?_)
   | (with_reducible refine LeO.bind ?_ (fun _ => ?_))
   | exact ih0 _ _ _ _
   | exact LeO.none _
   | refine LeO.ite ?_ ?_
   | refine LeO.bind ?_ (fun _ => ?_)
theorem serifref09_sameSpots.mono : ∀ a0 a1 k, LeO (serifref09_sameSpots.f k a0 a1) (serifref09_sameSpots.f (k + 1) a0 a1) := by
 intro a0 a1 k
 have ih0 := serifref09_sameSpots.mono_l k
 unfold serifref09_sameSpots.f
 repeat' first
   | (with_reducible exact ih0 _ _ _ _)
   | (with_reducible exact LeO.refl _)
   | (with_reducible exact LeO.none _)
   | (with_reducible refine LeO.ite ?_ ?_)
   | (with_reducible refine LeO.bind ?_ (fun _ => ?_))
   | exact ih0 _ _ _ _
   | exact LeO.none _
   | refine LeO.ite ?_ ?_
   | refine LeO.bind ?_ (fun _ => ?_)
set_option maxHeartbeats 8000000 in
set_option maxRecDepth 100000 in
theorem serifref09_sameSpots.calls (k : Nat) (A0 : Option Addr) (c0 : Nat) (l0 : List (S43)) (A1 : Option Addr) (c1 : Nat) (l1 : List (S43)) (r : Bool) (w : World) (hr0 : Kd.C k43 w A0 l0.length l0) (hc0 : l0.length ≤ c0) (hr1 : Kd.C k43 w A1 l1.length l1) (hc1 : l1.length ≤ c1) (h : serifref09_sameSpots.f k l0 l1 = some r) :
  Calls Try.prog 45 #[.slice A0 l0.length c0, .slice A1 l1.length c1] w fun e w' => e = .returned (.bool r) ∧ Drawn0 w w' := by
 have hu43 := Try.underlying43
 have HR0 := Aside0.mk hr0
 have HC0 := Aside0.mk hc0
 clear hr0 hc0
 have HR1 := Aside0.mk hr1
 have HC1 := Aside0.mk hc1
 clear hr1 hc1
 have H : (if (l0.length : Int) = (l1.length : Int) then (serifref09_sameSpots.l0 k l0 l1 (l0.length : Int) 0) else (some false)) = some r := h
 clear h
 by_cases c3 : (l0.length : Int) = (l1.length : Int)
 ·rw [if_pos c3] at H
  have c3b0 : ((l0.length : Int) == (l1.length : Int)) = true := beq_iff_eq.mpr c3
  have c3b1 : ((l0.length : Int) != (l1.length : Int)) = false := bne_eq_false_iff_eq.mpr c3
  have c3b2 : (l0.length == l1.length) = true := by first | simpa using c3 | (simp at c3 ⊢; omega)
  clear c3
  have H' := Aside0.mk H
  clear H
  go_enter Try.func45, Try.ntmps45
  go_wp2
  repeat (go_quiet (fail); try go_wp2)
  go_loopg [13] k (fun kq v13 w' => ∃ (x13_1 : Int), v13 = .int .i64 x13_1 ∧ Aside0 (serifref09_sameSpots.l0 kq l0 l1 (l0.length : Int) x13_1 = some r) ∧ Aside0 (kq ≤ k) ∧ Drawn0 w w')
  case atStart => exact ⟨(0), (by first | rfl | (simp; done) | (simp [*]; done)), H', ⟨Nat.le_refl _⟩, by repeat (first | exact Drawn0.refl _ | apply Drawn0.step)⟩
  case round =>
   clear H'
   try clear c1
   try clear p2
   try clear c3
   try clear c3b0
   try clear c3b1
   try clear c3b2
   obtain ⟨x13_1, rfl, HA, HK1, ⟨m1, rfl⟩⟩ := hrel
   cases gk with
   | zero => exact absurd HA.out (by simp [serifref09_sameSpots.l0])
   | succ k1 =>
    have H := HA.out
    clear HA
    simp only [serifref09_sameSpots.l0] at H
    by_cases c4 : x13_1 < (l0.length : Int)
    ·rw [if_pos c4] at H
     have c4b0 : decide (x13_1 < (l0.length : Int)) = true := decide_eq_true c4
     clear c4
     by_cases c5 : 0 ≤ x13_1
     ·rw [if_pos c5] at H
      have c5b0 : decide (0 ≤ x13_1) = true := decide_eq_true c5
      clear c5
      by_cases c6 : x13_1 < (l0.length : Int)
      ·rw [if_pos c6] at H
       have c6b0 : decide (x13_1 < (l0.length : Int)) = true := decide_eq_true c6
       clear c6
       by_cases c7 : x13_1 < (l1.length : Int)
       ·rw [if_pos c7] at H
        have c7b0 : decide (x13_1 < (l1.length : Int)) = true := decide_eq_true c7
        clear c7
        by_cases c8 : (!(((rd_T43 l0 x13_1).f0) == ((rd_T43 l1 x13_1).f0)) || (!(((rd_T43 l0 x13_1).f1) == ((rd_T43 l1 x13_1).f1)))) = true
        ·rw [if_pos c8] at H
         have c8b0 : (!(((rd_T43 l0 x13_1).f0) == ((rd_T43 l1 x13_1).f0)) || (!(((rd_T43 l0 x13_1).f1) == ((rd_T43 l1 x13_1).f1)))) = true := c8
         clear c8
         obtain rfl := Option.some.inj H
         have p272 : 0 ≤ (x13_1 : Int) := of_decide_eq_true (by first | (with_reducible assumption) | assumption)
         have q272 : x13_1 < (l0.length : Int) := of_decide_eq_true (by first | (with_reducible assumption) | assumption)
         obtain ⟨ad272, e272, hx272_0, hx272_1⟩ := at_T43 HR0.out x13_1 p272 q272
         cases e272
         replace p272 := eq_true p272
         replace q272 := eq_true q272
         have p273 : 0 ≤ (x13_1 : Int) := of_decide_eq_true (by first | (with_reducible assumption) | assumption)
         have q273 : x13_1 < (l1.length : Int) := of_decide_eq_true (by first | (with_reducible assumption) | assumption)
         obtain ⟨ad273, e273, hx273_0, hx273_1⟩ := at_T43 HR1.out x13_1 p273 q273
         cases e273
         replace p273 := eq_true p273
         replace q273 := eq_true q273
         go_wp2
         repeat (go_quiet (fail); try go_wp2)
         go_ret
         exact ⟨by first | rfl | (simp; done) | (simp [*]; done), by repeat (first | exact Drawn0.refl _ | apply Drawn0.step)⟩
        ·rw [if_neg c8] at H
         have c8b0 : (!(((rd_T43 l0 x13_1).f0) == ((rd_T43 l1 x13_1).f0)) || (!(((rd_T43 l0 x13_1).f1) == ((rd_T43 l1 x13_1).f1)))) = false := by simpa using c8
         clear c8
         have H' := Aside0.mk H
         clear H
         have p272 : 0 ≤ (x13_1 : Int) := of_decide_eq_true (by first | (with_reducible assumption) | assumption)
         have q272 : x13_1 < (l0.length : Int) := of_decide_eq_true (by first | (with_reducible assumption) | assumption)
         obtain ⟨ad272, e272, hx272_0, hx272_1⟩ := at_T43 HR0.out x13_1 p272 q272
         cases e272
         replace p272 := eq_true p272
         replace q272 := eq_true q272
         have p273 : 0 ≤ (x13_1 : Int) := of_decide_eq_true (by first | (with_reducible assumption) | assumption)
         have q273 : x13_1 < (l1.length : Int) := of_decide_eq_true (by first | (with_reducible assumption) | assumption)
         obtain ⟨ad273, e273, hx273_0, hx273_1⟩ := at_T43 HR1.out x13_1 p273 q273
         cases e273
         replace p273 := eq_true p273
         replace q273 := eq_true q273
         go_wp2
         repeat (go_quiet (fail); try go_wp2)
         go_roundg k1
         case measure => have := HK1.out; omega
         case rel => exact ⟨(wrap64 (x13_1 + 1)), (by first | rfl | (simp; done) | (simp [*]; done)), H', ⟨by have := HK1.out; omega⟩, by repeat (first | exact Drawn0.refl _ | apply Drawn0.step)⟩
       ·rw [if_neg c7] at H
        exact absurd H (by simp)
      ·rw [if_neg c6] at H
       exact absurd H (by simp)
     ·rw [if_neg c5] at H
      exact absurd H (by simp)
    ·rw [if_neg c4] at H
     have c4b0 : decide (x13_1 < (l0.length : Int)) = false := decide_eq_false c4
     clear c4
     obtain rfl := Option.some.inj H
     go_wp2
     repeat (go_quiet (fail); try go_wp2)
     go_ret
     exact ⟨by first | rfl | (simp; done) | (simp [*]; done), by repeat (first | exact Drawn0.refl _ | apply Drawn0.step)⟩
 ·rw [if_neg c3] at H
  have c3b0 : ((l0.length : Int) == (l1.length : Int)) = false := beq_eq_false_iff_ne.mpr c3
  have c3b1 : ((l0.length : Int) != (l1.length : Int)) = true := bne_iff_ne.mpr c3
  have c3b2 : (l0.length == l1.length) = false := by first | simpa using c3 | (simp at c3 ⊢; omega)
  obtain rfl := Option.some.inj H
  go_enter Try.func45, Try.ntmps45
  go_wp2
  repeat (go_quiet (fail); try go_wp2)
  go_ret
  exact ⟨by first | rfl | (simp; done) | (simp [*]; done), by repeat (first | exact Drawn0.refl _ | apply Drawn0.step)⟩

/-! ### serifref09_sameBools: function 46 -/
def serifref09_sameBools.l0 : Nat → List Bool → List Bool → Int → Int → Option (Bool)
 | 0, _, _, _, _ => none
 | k + 1, x0, x1, x12, x13 => if x13 < x12 then (if 0 ≤ x13 then (if x13 < (x0.length : Int) then (if x13 < (x1.length : Int) then (if ((rdOf false x0 x13) != (rdOf false x1 x13)) = true then (some false) else (serifref09_sameBools.l0 k x0 x1 x12 (wrap64 (x13 + 1)))) else (none)) else (none)) else (none)) else (some true)
def serifref09_sameBools.f (k : Nat) (l0 : List Bool) (l1 : List Bool) : Option (Bool) := if (l0.length : Int) = (l1.length : Int) then (serifref09_sameBools.l0 k l0 l1 (l0.length : Int) 0) else (some false)
theorem serifref09_sameBools.mono_l : ∀ k, (∀ y0 y1 y2 y3, LeO (serifref09_sameBools.l0 k y0 y1 y2 y3) (serifref09_sameBools.l0 (k + 1) y0 y1 y2 y3))
 | 0 => fun _ _ _ _ r h => by simp [serifref09_sameBools.l0] at h
 | k + 1 => by
  have ih0 := serifref09_sameBools.mono_l k
  ·intro y0 y1 y2 y3
   unfold serifref09_sameBools.l0
   repeat' first
   | (with_reducible exact ih0 _ _ _ _)
   | (with_reducible exact LeO.refl _)
   | (with_reducible exact LeO.none _)
   | (with_reducible refine LeO.ite ?_ ?_)
   | (with_reducible refine LeO.bind ?_ (fun _ => ?_))
   | exact ih0 _ _ _ _
   | exact LeO.none _
   | refine LeO.ite ?_ ?_
   | refine LeO.bind ?_ (fun _ => ?_)
theorem serifref09_sameBools.mono : ∀ a0 a1 k, LeO (serifref09_sameBools.f k a0 a1) (serifref09_sameBools.f (k + 1) a0 a1) := by
 intro a0 a1 k
 have ih0 := serifref09_sameBools.mono_l k
 unfold serifref09_sameBools.f
 repeat' first
   | (with_reducible exact ih0 _ _ _ _)
   | (with_reducible exact LeO.refl _)
   | (with_reducible exact LeO.none _)
   | (with_reducible refine LeO.ite ?_ ?_)
   | (with_reducible refine LeO.bind ?_ (fun _ => ?_))
   | exact ih0 _ _ _ _
   | exact LeO.none _
   | refine LeO.ite ?_ ?_
   | refine LeO.bind ?_ (fun _ => ?_)
set_option maxHeartbeats 8000000 in
set_option maxRecDepth 100000 in
theorem serifref09_sameBools.calls (k : Nat) (A0 : Option Addr) (c0 : Nat) (l0 : List Bool) (A1 : Option Addr) (c1 : Nat) (l1 : List Bool) (r : Bool) (w : World) (hr0 : Kd.C Kd.bool w A0 l0.length l0) (hc0 : l0.length ≤ c0) (hr1 : Kd.C Kd.bool w A1 l1.length l1) (hc1 : l1.length ≤ c1) (h : serifref09_sameBools.f k l0 l1 = some r) :
  Calls Try.prog 46 #[.slice A0 l0.length c0, .slice A1 l1.length c1] w fun e w' => e = .returned (.bool r) ∧ Drawn0 w w' := by
 have HR0 := Aside0.mk hr0
 have HC0 := Aside0.mk hc0
 clear hr0 hc0
 have HR1 := Aside0.mk hr1
 have HC1 := Aside0.mk hc1
 clear hr1 hc1
 have H : (if (l0.length : Int) = (l1.length : Int) then (serifref09_sameBools.l0 k l0 l1 (l0.length : Int) 0) else (some false)) = some r := h
 clear h
 by_cases c3 : (l0.length : Int) = (l1.length : Int)
 ·rw [if_pos c3] at H
  have c3b0 : ((l0.length : Int) == (l1.length : Int)) = true := beq_iff_eq.mpr c3
  have c3b1 : ((l0.length : Int) != (l1.length : Int)) = false := bne_eq_false_iff_eq.mpr c3
  have c3b2 : (l0.length == l1.length) = true := by first | simpa using c3 | (simp at c3 ⊢; omega)
  clear c3
  have H' := Aside0.mk H
  clear H
  go_enter Try.func46, Try.ntmps46
  go_wp2
  repeat (go_quiet (fail); try go_wp2)
  go_loopg [13] k (fun kq v13 w' => ∃ (x13_1 : Int), v13 = .int .i64 x13_1 ∧ Aside0 (serifref09_sameBools.l0 kq l0 l1 (l0.length : Int) x13_1 = some r) ∧ Aside0 (kq ≤ k) ∧ Drawn0 w w')
  case atStart => exact ⟨(0), (by first | rfl | (simp; done) | (simp [*]; done)), H', ⟨Nat.le_refl _⟩, by repeat (first | exact Drawn0.refl _ | apply Drawn0.step)⟩
  case round =>
   clear H'
   try clear c1
   try clear p2
   try clear c3
   try clear c3b0
   try clear c3b1
   try clear c3b2
   obtain ⟨x13_1, rfl, HA, HK1, ⟨m1, rfl⟩⟩ := hrel
   cases gk with
   | zero => exact absurd HA.out (by simp [serifref09_sameBools.l0])
   | succ k1 =>
    have H := HA.out
    clear HA
    simp only [serifref09_sameBools.l0] at H
    by_cases c4 : x13_1 < (l0.length : Int)
    ·rw [if_pos c4] at H
     have c4b0 : decide (x13_1 < (l0.length : Int)) = true := decide_eq_true c4
     clear c4
     by_cases c5 : 0 ≤ x13_1
     ·rw [if_pos c5] at H
      have c5b0 : decide (0 ≤ x13_1) = true := decide_eq_true c5
      clear c5
      by_cases c6 : x13_1 < (l0.length : Int)
      ·rw [if_pos c6] at H
       have c6b0 : decide (x13_1 < (l0.length : Int)) = true := decide_eq_true c6
       clear c6
       by_cases c7 : x13_1 < (l1.length : Int)
       ·rw [if_pos c7] at H
        have c7b0 : decide (x13_1 < (l1.length : Int)) = true := decide_eq_true c7
        clear c7
        by_cases c8 : ((rdOf false l0 x13_1) != (rdOf false l1 x13_1)) = true
        ·rw [if_pos c8] at H
         have c8b0 : ((rdOf false l0 x13_1) != (rdOf false l1 x13_1)) = true := c8
         (try (have c8b1 : decide ((rdOf false l0 x13_1) = (rdOf false l1 x13_1)) = false := by simpa using c8))
         (try (have c8b2 : ((rdOf false l0 x13_1) == (rdOf false l1 x13_1)) = false := by simpa using c8))
         (try (have c8b3 : ¬ ((rdOf false l0 x13_1) = (rdOf false l1 x13_1)) := by simpa using c8))
         clear c8
         obtain rfl := Option.some.inj H
         have p274 : 0 ≤ (x13_1 : Int) := of_decide_eq_true (by first | (with_reducible assumption) | assumption)
         have q274 : x13_1 < (l0.length : Int) := of_decide_eq_true (by first | (with_reducible assumption) | assumption)
         obtain ⟨ad274, e274, hx274_0⟩ := Kd.at_bool HR0.out x13_1 p274 q274
         cases e274
         replace p274 := eq_true p274
         replace q274 := eq_true q274
         have p275 : 0 ≤ (x13_1 : Int) := of_decide_eq_true (by first | (with_reducible assumption) | assumption)
         have q275 : x13_1 < (l1.length : Int) := of_decide_eq_true (by first | (with_reducible assumption) | assumption)
         obtain ⟨ad275, e275, hx275_0⟩ := Kd.at_bool HR1.out x13_1 p275 q275
         cases e275
         replace p275 := eq_true p275
         replace q275 := eq_true q275
         go_wp2
         repeat (go_quiet (fail); try go_wp2)
         go_ret
         exact ⟨by first | rfl | (simp; done) | (simp [*]; done), by repeat (first | exact Drawn0.refl _ | apply Drawn0.step)⟩
        ·rw [if_neg c8] at H
         have c8b0 : ((rdOf false l0 x13_1) != (rdOf false l1 x13_1)) = false := by simpa using c8
         (try (have c8b1 : decide ((rdOf false l0 x13_1) = (rdOf false l1 x13_1)) = true := by simpa using c8))
         (try (have c8b2 : ((rdOf false l0 x13_1) == (rdOf false l1 x13_1)) = true := by simpa using c8))
         clear c8
         have H' := Aside0.mk H
         clear H
         have p274 : 0 ≤ (x13_1 : Int) := of_decide_eq_true (by first | (with_reducible assumption) | assumption)
         have q274 : x13_1 < (l0.length : Int) := of_decide_eq_true (by first | (with_reducible assumption) | assumption)
         obtain ⟨ad274, e274, hx274_0⟩ := Kd.at_bool HR0.out x13_1 p274 q274
         cases e274
         replace p274 := eq_true p274
         replace q274 := eq_true q274
         have p275 : 0 ≤ (x13_1 : Int) := of_decide_eq_true (by first | (with_reducible assumption) | assumption)
         have q275 : x13_1 < (l1.length : Int) := of_decide_eq_true (by first | (with_reducible assumption) | assumption)
         obtain ⟨ad275, e275, hx275_0⟩ := Kd.at_bool HR1.out x13_1 p275 q275
         cases e275
         replace p275 := eq_true p275
         replace q275 := eq_true q275
         go_wp2
         repeat (go_quiet (fail); try go_wp2)
         go_roundg k1
         case measure => have := HK1.out; omega
         case rel => exact ⟨(wrap64 (x13_1 + 1)), (by first | rfl | (simp; done) | (simp [*]; done)), H', ⟨by have := HK1.out; omega⟩, by repeat (first | exact Drawn0.refl _ | apply Drawn0.step)⟩
       ·rw [if_neg c7] at H
        exact absurd H (by simp)
      ·rw [if_neg c6] at H
       exact absurd H (by simp)
     ·rw [if_neg c5] at H
      exact absurd H (by simp)
    ·rw [if_neg c4] at H
     have c4b0 : decide (x13_1 < (l0.length : Int)) = false := decide_eq_false c4
     clear c4
     obtain rfl := Option.some.inj H
     go_wp2
     repeat (go_quiet (fail); try go_wp2)
     go_ret
     exact ⟨by first | rfl | (simp; done) | (simp [*]; done), by repeat (first | exact Drawn0.refl _ | apply Drawn0.step)⟩
 ·rw [if_neg c3] at H
  have c3b0 : ((l0.length : Int) == (l1.length : Int)) = false := beq_eq_false_iff_ne.mpr c3
  have c3b1 : ((l0.length : Int) != (l1.length : Int)) = true := bne_iff_ne.mpr c3
  have c3b2 : (l0.length == l1.length) = false := by first | simpa using c3 | (simp at c3 ⊢; omega)
  obtain rfl := Option.some.inj H
  go_enter Try.func46, Try.ntmps46
  go_wp2
  repeat (go_quiet (fail); try go_wp2)
  go_ret
  exact ⟨by first | rfl | (simp; done) | (simp [*]; done), by repeat (first | exact Drawn0.refl _ | apply Drawn0.step)⟩

/-! ### serifref09_Same: function 19 -/
def serifref09_Same.f (k : Nat) (l0_0 : List (S43)) (l0_1 : List (S43)) (l0_2 : List Bool) (l0_3 : List Bool) (l0_4 : List Int) (l1_0 : List (S43)) (l1_1 : List (S43)) (l1_2 : List Bool) (l1_3 : List Bool) (l1_4 : List Int) : Option (Bool) := (serifref09_sameSpots.f k l0_0 l1_0).bind fun t278 => (if t278 = true then ((serifref09_sameSpots.f k l0_1 l1_1).bind fun t279 => (if t279 = true then ((serifref09_sameBools.f k l0_2 l1_2).bind fun t280 => (if t280 = true then ((serifref09_sameBools.f k l0_3 l1_3).bind fun t281 => (if t281 = true then ((serifref02_SameInts.f k l0_4 l1_4).bind fun t282 => (some t282)) else (some false))) else (some false))) else (some false))) else (some false))
theorem serifref09_Same.mono : ∀ a0 a1 a2 a3 a4 a5 a6 a7 a8 a9 k, LeO (serifref09_Same.f k a0 a1 a2 a3 a4 a5 a6 a7 a8 a9) (serifref09_Same.f (k + 1) a0 a1 a2 a3 a4 a5 a6 a7 a8 a9) := by
 intro a0 a1 a2 a3 a4 a5 a6 a7 a8 a9 k
 unfold serifref09_Same.f
 repeat' first
   | (with_reducible exact serifref02_SameInts.mono _ _ _)
   | (with_reducible exact serifref09_sameBools.mono _ _ _)
   | (with_reducible exact serifref09_sameSpots.mono _ _ _)
   | (with_reducible exact LeO.refl _)
   | (with_reducible exact LeO.none _)
   | (with_reducible refine LeO.ite ?_ ?_)
   | (with_reducible refine LeO.bind ?_ (fun _ => ?_))
   | exact serifref02_SameInts.mono _ _ _
   | exact serifref09_sameBools.mono _ _ _
   | exact serifref09_sameSpots.mono _ _ _
   | exact LeO.none _
   | refine LeO.ite ?_ ?_
   | refine LeO.bind ?_ (fun _ => ?_)
set_option maxHeartbeats 8000000 in
set_option maxRecDepth 100000 in
theorem serifref09_Same.calls (k : Nat) (A0_0 : Option Addr) (c0_0 : Nat) (l0_0 : List (S43)) (A0_1 : Option Addr) (c0_1 : Nat) (l0_1 : List (S43)) (A0_2 : Option Addr) (c0_2 : Nat) (l0_2 : List Bool) (A0_3 : Option Addr) (c0_3 : Nat) (l0_3 : List Bool) (A0_4 : Option Addr) (c0_4 : Nat) (l0_4 : List Int) (A1_0 : Option Addr) (c1_0 : Nat) (l1_0 : List (S43)) (A1_1 : Option Addr) (c1_1 : Nat) (l1_1 : List (S43)) (A1_2 : Option Addr) (c1_2 : Nat) (l1_2 : List Bool) (A1_3 : Option Addr) (c1_3 : Nat) (l1_3 : List Bool) (A1_4 : Option Addr) (c1_4 : Nat) (l1_4 : List Int) (r : Bool) (w : World) (hr0_0 : Kd.C k43 w A0_0 l0_0.length l0_0) (hc0_0 : l0_0.length ≤ c0_0) (hr0_1 : Kd.C k43 w A0_1 l0_1.length l0_1) (hc0_1 : l0_1.length ≤ c0_1) (hr0_2 : Kd.C Kd.bool w A0_2 l0_2.length l0_2) (hc0_2 : l0_2.length ≤ c0_2) (hr0_3 : Kd.C Kd.bool w A0_3 l0_3.length l0_3) (hc0_3 : l0_3.length ≤ c0_3) (hr0_4 : Kd.C (Kd.int .i64) w A0_4 l0_4.length l0_4) (hc0_4 : l0_4.length ≤ c0_4) (hr1_0 : Kd.C k43 w A1_0 l1_0.length l1_0) (hc1_0 : l1_0.length ≤ c1_0) (hr1_1 : Kd.C k43 w A1_1 l1_1.length l1_1) (hc1_1 : l1_1.length ≤ c1_1) (hr1_2 : Kd.C Kd.bool w A1_2 l1_2.length l1_2) (hc1_2 : l1_2.length ≤ c1_2) (hr1_3 : Kd.C Kd.bool w A1_3 l1_3.length l1_3) (hc1_3 : l1_3.length ≤ c1_3) (hr1_4 : Kd.C (Kd.int .i64) w A1_4 l1_4.length l1_4) (hc1_4 : l1_4.length ≤ c1_4) (h : serifref09_Same.f k l0_0 l0_1 l0_2 l0_3 l0_4 l1_0 l1_1 l1_2 l1_3 l1_4 = some r) :
  Calls Try.prog 19 #[.agg #[.slice A0_0 l0_0.length c0_0, .slice A0_1 l0_1.length c0_1, .slice A0_2 l0_2.length c0_2, .slice A0_3 l0_3.length c0_3, .slice A0_4 l0_4.length c0_4], .agg #[.slice A1_0 l1_0.length c1_0, .slice A1_1 l1_1.length c1_1, .slice A1_2 l1_2.length c1_2, .slice A1_3 l1_3.length c1_3, .slice A1_4 l1_4.length c1_4]] w fun e w' => e = .returned (.bool r) ∧ Below w.heap.size w w' := by
 have hu30 := Try.underlying30
 have HR0_0 := Aside0.mk hr0_0
 have HC0_0 := Aside0.mk hc0_0
 clear hr0_0 hc0_0
 have HR0_1 := Aside0.mk hr0_1
 have HC0_1 := Aside0.mk hc0_1
 clear hr0_1 hc0_1
 have HR0_2 := Aside0.mk hr0_2
 have HC0_2 := Aside0.mk hc0_2
 clear hr0_2 hc0_2
 have HR0_3 := Aside0.mk hr0_3
 have HC0_3 := Aside0.mk hc0_3
 clear hr0_3 hc0_3
 have HR0_4 := Aside0.mk hr0_4
 have HC0_4 := Aside0.mk hc0_4
 clear hr0_4 hc0_4
 have HR1_0 := Aside0.mk hr1_0
 have HC1_0 := Aside0.mk hc1_0
 clear hr1_0 hc1_0
 have HR1_1 := Aside0.mk hr1_1
 have HC1_1 := Aside0.mk hc1_1
 clear hr1_1 hc1_1
 have HR1_2 := Aside0.mk hr1_2
 have HC1_2 := Aside0.mk hc1_2
 clear hr1_2 hc1_2
 have HR1_3 := Aside0.mk hr1_3
 have HC1_3 := Aside0.mk hc1_3
 clear hr1_3 hc1_3
 have HR1_4 := Aside0.mk hr1_4
 have HC1_4 := Aside0.mk hc1_4
 clear hr1_4 hc1_4
 have HB := Aside0.mk (Below.refl w.heap.size w)
 have H : ((serifref09_sameSpots.f k l0_0 l1_0).bind fun t278 => (if t278 = true then ((serifref09_sameSpots.f k l0_1 l1_1).bind fun t279 => (if t279 = true then ((serifref09_sameBools.f k l0_2 l1_2).bind fun t280 => (if t280 = true then ((serifref09_sameBools.f k l0_3 l1_3).bind fun t281 => (if t281 = true then ((serifref02_SameInts.f k l0_4 l1_4).bind fun t282 => (some t282)) else (some false))) else (some false))) else (some false))) else (some false))) = some r := h
 clear h
 replace H := Option.bind_eq_some_iff.mp H
 obtain ⟨t278, A30, H⟩ := H
 replace H : (if t278 = true then ((serifref09_sameSpots.f k l0_1 l1_1).bind fun t279 => (if t279 = true then ((serifref09_sameBools.f k l0_2 l1_2).bind fun t280 => (if t280 = true then ((serifref09_sameBools.f k l0_3 l1_3).bind fun t281 => (if t281 = true then ((serifref02_SameInts.f k l0_4 l1_4).bind fun t282 => (some t282)) else (some false))) else (some false))) else (some false))) else (some false)) = some r := H
 have A3 := Aside0.mk A30
 clear A30
 by_cases c4 : t278 = true
 ·subst c4
  have H1 : ((serifref09_sameSpots.f k l0_1 l1_1).bind fun t279 => (if t279 = true then ((serifref09_sameBools.f k l0_2 l1_2).bind fun t280 => (if t280 = true then ((serifref09_sameBools.f k l0_3 l1_3).bind fun t281 => (if t281 = true then ((serifref02_SameInts.f k l0_4 l1_4).bind fun t282 => (some t282)) else (some false))) else (some false))) else (some false))) = some r := by rw [if_pos rfl] at H; exact H
  clear H
  have H := H1
  clear H1
  replace H := Option.bind_eq_some_iff.mp H
  obtain ⟨t279, A50, H⟩ := H
  replace H : (if t279 = true then ((serifref09_sameBools.f k l0_2 l1_2).bind fun t280 => (if t280 = true then ((serifref09_sameBools.f k l0_3 l1_3).bind fun t281 => (if t281 = true then ((serifref02_SameInts.f k l0_4 l1_4).bind fun t282 => (some t282)) else (some false))) else (some false))) else (some false)) = some r := H
  have A5 := Aside0.mk A50
  clear A50
  by_cases c6 : t279 = true
  ·subst c6
   have H1 : ((serifref09_sameBools.f k l0_2 l1_2).bind fun t280 => (if t280 = true then ((serifref09_sameBools.f k l0_3 l1_3).bind fun t281 => (if t281 = true then ((serifref02_SameInts.f k l0_4 l1_4).bind fun t282 => (some t282)) else (some false))) else (some false))) = some r := by rw [if_pos rfl] at H; exact H
   clear H
   have H := H1
   clear H1
   replace H := Option.bind_eq_some_iff.mp H
   obtain ⟨t280, A70, H⟩ := H
   replace H : (if t280 = true then ((serifref09_sameBools.f k l0_3 l1_3).bind fun t281 => (if t281 = true then ((serifref02_SameInts.f k l0_4 l1_4).bind fun t282 => (some t282)) else (some false))) else (some false)) = some r := H
   have A7 := Aside0.mk A70
   clear A70
   by_cases c8 : t280 = true
   ·subst c8
    have H1 : ((serifref09_sameBools.f k l0_3 l1_3).bind fun t281 => (if t281 = true then ((serifref02_SameInts.f k l0_4 l1_4).bind fun t282 => (some t282)) else (some false))) = some r := by rw [if_pos rfl] at H; exact H
    clear H
    have H := H1
    clear H1
    replace H := Option.bind_eq_some_iff.mp H
    obtain ⟨t281, A90, H⟩ := H
    replace H : (if t281 = true then ((serifref02_SameInts.f k l0_4 l1_4).bind fun t282 => (some t282)) else (some false)) = some r := H
    have A9 := Aside0.mk A90
    clear A90
    by_cases c10 : t281 = true
    ·subst c10
     have H1 : ((serifref02_SameInts.f k l0_4 l1_4).bind fun t282 => (some t282)) = some r := by rw [if_pos rfl] at H; exact H
     clear H
     have H := H1
     clear H1
     replace H := Option.bind_eq_some_iff.mp H
     obtain ⟨t282, A110, H⟩ := H
     replace H : (some t282) = some r := H
     have A11 := Aside0.mk A110
     clear A110
     obtain rfl := Option.some.inj H
     go_enter Try.func19, Try.ntmps19
     go_wp2_with (first | ((with_reducible refine gate_dst (N := 2) rfl ?_); refine box_event ?hg (N := 2) ?hd (cs := #[.slice A0_0 l0_0.length c0_0, .slice A0_1 l0_1.length c0_1, .slice A0_2 l0_2.length c0_2, .slice A0_3 l0_3.length c0_3, .slice A0_4 l0_4.length c0_4]) (t := 30) ?hr ?_; (case hd => rfl); (case hg => rfl); (case hr => first | (go_simp; done) | (go_simp; rfl)); intro gb276 hg w12 hbox hb; have BK276 := Aside0.mk (hbox); have GW276 := Aside0.mk ((by rw [hg]; exact (lZ (by with_reducible repeat first | exact HB.out | apply lN | apply lD)) : w.heap.size ≤ gb276)); have GE276 := Aside0.mk ((by rw [hg]; exact (lZ (by with_reducible repeat first | exact HB.out | apply lN | apply lD)) : w.heap.size ≤ gb276)); replace HB := Aside0.mk (lT HB.out hb); clear hb hbox hg) | ((with_reducible refine gate_dst (N := 3) rfl ?_); refine box_event ?hg (N := 3) ?hd (cs := #[.slice A1_0 l1_0.length c1_0, .slice A1_1 l1_1.length c1_1, .slice A1_2 l1_2.length c1_2, .slice A1_3 l1_3.length c1_3, .slice A1_4 l1_4.length c1_4]) (t := 30) ?hr ?_; (case hd => rfl); (case hg => rfl); (case hr => first | (go_simp; done) | (go_simp; rfl)); intro gb277 hg w13 hbox hb; have BK277 := Aside0.mk (hbox); have GW277 := Aside0.mk ((by rw [hg]; exact (lZ (by with_reducible repeat first | exact HB.out | apply lN | apply lD | refine lS ?_ GE276.out)) : w.heap.size ≤ gb277)); have GE277 := Aside0.mk ((by rw [hg]; exact (lZ (by with_reducible repeat first | exact HB.out | apply lN | apply lD | refine lS ?_ GE276.out)) : w.heap.size ≤ gb277)); have NB276_277 := Aside0.mk ((by rw [hg]; exact Nat.ne_of_lt (blk_lt BK276.out) : gb276 ≠ gb277)); have NB277_276 := Aside0.mk ((by rw [hg]; exact Nat.ne_of_gt (blk_lt BK276.out) : gb277 ≠ gb276)); replace BK276 := Aside0.mk (bB BK276.out hb); replace HB := Aside0.mk (lT (by with_reducible repeat first | exact HB.out | refine lS ?_ GE276.out) hb); clear hb hbox hg; have hnb14 := NB276_277.out; have hnc14 := NB277_276.out; have hcz15_0 : w13.cell? ⟨gb276, 0, none⟩ = some (.slice A0_0 l0_0.length c0_0) := (bC BK276.out 0).trans rfl; have hcz15_1 : w13.cell? ⟨gb276, 1, none⟩ = some (.slice A0_1 l0_1.length c0_1) := (bC BK276.out 1).trans rfl; have hcz15_2 : w13.cell? ⟨gb276, 2, none⟩ = some (.slice A0_2 l0_2.length c0_2) := (bC BK276.out 2).trans rfl; have hcz15_3 : w13.cell? ⟨gb276, 3, none⟩ = some (.slice A0_3 l0_3.length c0_3) := (bC BK276.out 3).trans rfl; have hcz15_4 : w13.cell? ⟨gb276, 4, none⟩ = some (.slice A0_4 l0_4.length c0_4) := (bC BK276.out 4).trans rfl; have hfz15_0 := bF BK276.out 0; have hfz15_1 := bF BK276.out 1; have hfz15_2 := bF BK276.out 2; have hfz15_3 := bF BK276.out 3; have hfz15_4 := bF BK276.out 4; have hcz16_0 : w13.cell? ⟨gb277, 0, none⟩ = some (.slice A1_0 l1_0.length c1_0) := (bC BK277.out 0).trans rfl; have hcz16_1 : w13.cell? ⟨gb277, 1, none⟩ = some (.slice A1_1 l1_1.length c1_1) := (bC BK277.out 1).trans rfl; have hcz16_2 : w13.cell? ⟨gb277, 2, none⟩ = some (.slice A1_2 l1_2.length c1_2) := (bC BK277.out 2).trans rfl; have hcz16_3 : w13.cell? ⟨gb277, 3, none⟩ = some (.slice A1_3 l1_3.length c1_3) := (bC BK277.out 3).trans rfl; have hcz16_4 : w13.cell? ⟨gb277, 4, none⟩ = some (.slice A1_4 l1_4.length c1_4) := (bC BK277.out 4).trans rfl; have hfz16_0 := bF BK277.out 0; have hfz16_1 := bF BK277.out 1; have hfz16_2 := bF BK277.out 2; have hfz16_3 := bF BK277.out 3; have hfz16_4 := bF BK277.out 4) | ((with_reducible refine gate_callee (f := 45) rfl ?_); refine goesL_ (some 9) rfl rfl Try.func45 (by kernel_rfl) rfl #[.slice A0_0 l0_0.length c0_0, .slice A1_0 l1_0.length c1_0] rfl (by (try simp only [List.map_toArray, List.map_cons, List.map_nil]); first | done | rfl | (simp only [List.length_drop, List.length_take]; rfl)) ?_; (with_reducible refine (serifref09_sameSpots.calls k _ _ l0_0 _ _ l1_0 true _ ?side1 ?side2 ?side3 ?side4 A3.out).mono ?_); (case side1 => repeat (first | exact (Kd.C_below HR0_0.out HB.out) | (with_reducible refine cA ?_ _) | (with_reducible refine cN ?_ _) | (with_reducible refine cD ?_))); (case side2 => exact HC0_0.out); (case side3 => repeat (first | exact (Kd.C_below HR1_0.out HB.out) | (with_reducible refine cA ?_ _) | (with_reducible refine cN ?_ _) | (with_reducible refine cD ?_))); (case side4 => exact HC1_0.out); rintro e w' ⟨rfl, ⟨nd, rfl⟩⟩; refine ⟨_, rfl, ?_⟩) | (go_at_call 45; (with_reducible refine (serifref09_sameSpots.calls k _ _ l0_1 _ _ l1_1 true _ ?side1 ?side2 ?side3 ?side4 A5.out).mono ?_); (case side1 => repeat (first | exact (Kd.C_below HR0_1.out (by with_reducible repeat first | exact HB.out | apply lN | apply lD | refine lS ?_ GE276.out | refine lS ?_ GE277.out)) | (with_reducible refine cA ?_ _) | (with_reducible refine cN ?_ _) | (with_reducible refine cD ?_))); (case side2 => exact HC0_1.out); (case side3 => repeat (first | exact (Kd.C_below HR1_1.out (by with_reducible repeat first | exact HB.out | apply lN | apply lD | refine lS ?_ GE276.out | refine lS ?_ GE277.out)) | (with_reducible refine cA ?_ _) | (with_reducible refine cN ?_ _) | (with_reducible refine cD ?_))); (case side4 => exact HC1_1.out); rintro e w' ⟨rfl, ⟨nd, rfl⟩⟩) | (go_at_call 46; (with_reducible refine (serifref09_sameBools.calls k _ _ l0_2 _ _ l1_2 true _ ?side1 ?side2 ?side3 ?side4 A7.out).mono ?_); (case side1 => repeat (first | exact (Kd.C_below HR0_2.out (by with_reducible repeat first | exact HB.out | apply lN | apply lD | refine lS ?_ GE276.out | refine lS ?_ GE277.out)) | (with_reducible refine cA ?_ _) | (with_reducible refine cN ?_ _) | (with_reducible refine cD ?_))); (case side2 => exact HC0_2.out); (case side3 => repeat (first | exact (Kd.C_below HR1_2.out (by with_reducible repeat first | exact HB.out | apply lN | apply lD | refine lS ?_ GE276.out | refine lS ?_ GE277.out)) | (with_reducible refine cA ?_ _) | (with_reducible refine cN ?_ _) | (with_reducible refine cD ?_))); (case side4 => exact HC1_2.out); rintro e w' ⟨rfl, ⟨nd, rfl⟩⟩) | (go_at_call 46; (with_reducible refine (serifref09_sameBools.calls k _ _ l0_3 _ _ l1_3 true _ ?side1 ?side2 ?side3 ?side4 A9.out).mono ?_); (case side1 => repeat (first | exact (Kd.C_below HR0_3.out (by with_reducible repeat first | exact HB.out | apply lN | apply lD | refine lS ?_ GE276.out | refine lS ?_ GE277.out)) | (with_reducible refine cA ?_ _) | (with_reducible refine cN ?_ _) | (with_reducible refine cD ?_))); (case side2 => exact HC0_3.out); (case side3 => repeat (first | exact (Kd.C_below HR1_3.out (by with_reducible repeat first | exact HB.out | apply lN | apply lD | refine lS ?_ GE276.out | refine lS ?_ GE277.out)) | (with_reducible refine cA ?_ _) | (with_reducible refine cN ?_ _) | (with_reducible refine cD ?_))); (case side4 => exact HC1_3.out); rintro e w' ⟨rfl, ⟨nd, rfl⟩⟩) | (go_at_call 35; (with_reducible refine (serifref02_SameInts.calls k _ _ l0_4 _ _ l1_4 t282 _ ?side1 ?side2 ?side3 ?side4 A11.out).mono ?_); (case side1 => repeat (first | exact (Kd.C_below HR0_4.out (by with_reducible repeat first | exact HB.out | apply lN | apply lD | refine lS ?_ GE276.out | refine lS ?_ GE277.out)) | (with_reducible refine cA ?_ _) | (with_reducible refine cN ?_ _) | (with_reducible refine cD ?_))); (case side2 => exact HC0_4.out); (case side3 => repeat (first | exact (Kd.C_below HR1_4.out (by with_reducible repeat first | exact HB.out | apply lN | apply lD | refine lS ?_ GE276.out | refine lS ?_ GE277.out)) | (with_reducible refine cA ?_ _) | (with_reducible refine cN ?_ _) | (with_reducible refine cD ?_))); (case side4 => exact HC1_4.out); rintro e w' ⟨rfl, ⟨nd, rfl⟩⟩))
     go_ret
     exact ⟨by first | rfl | (simp [errW_none, errW_some] <;> rfl) | (simp [*, errW_none, errW_some] <;> rfl), by with_reducible repeat first | exact HB.out | apply lN | apply lD | refine lS ?_ GE276.out | refine lS ?_ GE277.out⟩
    ·replace c10 := Bool.eq_false_iff.mpr c10
     subst c10
     have H1 : (some false) = some r := by rw [if_neg (show ¬ (false = true) by decide)] at H; exact H
     clear H
     have H := H1
     clear H1
     obtain rfl := Option.some.inj H
     go_enter Try.func19, Try.ntmps19
     go_wp2_with (first | ((with_reducible refine gate_dst (N := 2) rfl ?_); refine box_event ?hg (N := 2) ?hd (cs := #[.slice A0_0 l0_0.length c0_0, .slice A0_1 l0_1.length c0_1, .slice A0_2 l0_2.length c0_2, .slice A0_3 l0_3.length c0_3, .slice A0_4 l0_4.length c0_4]) (t := 30) ?hr ?_; (case hd => rfl); (case hg => rfl); (case hr => first | (go_simp; done) | (go_simp; rfl)); intro gb276 hg w17 hbox hb; have BK276 := Aside0.mk (hbox); have GW276 := Aside0.mk ((by rw [hg]; exact (lZ (by with_reducible repeat first | exact HB.out | apply lN | apply lD)) : w.heap.size ≤ gb276)); have GE276 := Aside0.mk ((by rw [hg]; exact (lZ (by with_reducible repeat first | exact HB.out | apply lN | apply lD)) : w.heap.size ≤ gb276)); replace HB := Aside0.mk (lT HB.out hb); clear hb hbox hg) | ((with_reducible refine gate_dst (N := 3) rfl ?_); refine box_event ?hg (N := 3) ?hd (cs := #[.slice A1_0 l1_0.length c1_0, .slice A1_1 l1_1.length c1_1, .slice A1_2 l1_2.length c1_2, .slice A1_3 l1_3.length c1_3, .slice A1_4 l1_4.length c1_4]) (t := 30) ?hr ?_; (case hd => rfl); (case hg => rfl); (case hr => first | (go_simp; done) | (go_simp; rfl)); intro gb277 hg w18 hbox hb; have BK277 := Aside0.mk (hbox); have GW277 := Aside0.mk ((by rw [hg]; exact (lZ (by with_reducible repeat first | exact HB.out | apply lN | apply lD | refine lS ?_ GE276.out)) : w.heap.size ≤ gb277)); have GE277 := Aside0.mk ((by rw [hg]; exact (lZ (by with_reducible repeat first | exact HB.out | apply lN | apply lD | refine lS ?_ GE276.out)) : w.heap.size ≤ gb277)); have NB276_277 := Aside0.mk ((by rw [hg]; exact Nat.ne_of_lt (blk_lt BK276.out) : gb276 ≠ gb277)); have NB277_276 := Aside0.mk ((by rw [hg]; exact Nat.ne_of_gt (blk_lt BK276.out) : gb277 ≠ gb276)); replace BK276 := Aside0.mk (bB BK276.out hb); replace HB := Aside0.mk (lT (by with_reducible repeat first | exact HB.out | refine lS ?_ GE276.out) hb); clear hb hbox hg; have hnb19 := NB276_277.out; have hnc19 := NB277_276.out; have hcz20_0 : w18.cell? ⟨gb276, 0, none⟩ = some (.slice A0_0 l0_0.length c0_0) := (bC BK276.out 0).trans rfl; have hcz20_1 : w18.cell? ⟨gb276, 1, none⟩ = some (.slice A0_1 l0_1.length c0_1) := (bC BK276.out 1).trans rfl; have hcz20_2 : w18.cell? ⟨gb276, 2, none⟩ = some (.slice A0_2 l0_2.length c0_2) := (bC BK276.out 2).trans rfl; have hcz20_3 : w18.cell? ⟨gb276, 3, none⟩ = some (.slice A0_3 l0_3.length c0_3) := (bC BK276.out 3).trans rfl; have hcz20_4 : w18.cell? ⟨gb276, 4, none⟩ = some (.slice A0_4 l0_4.length c0_4) := (bC BK276.out 4).trans rfl; have hfz20_0 := bF BK276.out 0; have hfz20_1 := bF BK276.out 1; have hfz20_2 := bF BK276.out 2; have hfz20_3 := bF BK276.out 3; have hfz20_4 := bF BK276.out 4; have hcz21_0 : w18.cell? ⟨gb277, 0, none⟩ = some (.slice A1_0 l1_0.length c1_0) := (bC BK277.out 0).trans rfl; have hcz21_1 : w18.cell? ⟨gb277, 1, none⟩ = some (.slice A1_1 l1_1.length c1_1) := (bC BK277.out 1).trans rfl; have hcz21_2 : w18.cell? ⟨gb277, 2, none⟩ = some (.slice A1_2 l1_2.length c1_2) := (bC BK277.out 2).trans rfl; have hcz21_3 : w18.cell? ⟨gb277, 3, none⟩ = some (.slice A1_3 l1_3.length c1_3) := (bC BK277.out 3).trans rfl; have hcz21_4 : w18.cell? ⟨gb277, 4, none⟩ = some (.slice A1_4 l1_4.length c1_4) := (bC BK277.out 4).trans rfl; have hfz21_0 := bF BK277.out 0; have hfz21_1 := bF BK277.out 1; have hfz21_2 := bF BK277.out 2; have hfz21_3 := bF BK277.out 3; have hfz21_4 := bF BK277.out 4) | ((with_reducible refine gate_callee (f := 45) rfl ?_); refine goesL_ (some 9) rfl rfl Try.func45 (by kernel_rfl) rfl #[.slice A0_0 l0_0.length c0_0, .slice A1_0 l1_0.length c1_0] rfl (by (try simp only [List.map_toArray, List.map_cons, List.map_nil]); first | done | rfl | (simp only [List.length_drop, List.length_take]; rfl)) ?_; (with_reducible refine (serifref09_sameSpots.calls k _ _ l0_0 _ _ l1_0 true _ ?side1 ?side2 ?side3 ?side4 A3.out).mono ?_); (case side1 => repeat (first | exact (Kd.C_below HR0_0.out HB.out) | (with_reducible refine cA ?_ _) | (with_reducible refine cN ?_ _) | (with_reducible refine cD ?_))); (case side2 => exact HC0_0.out); (case side3 => repeat (first | exact (Kd.C_below HR1_0.out HB.out) | (with_reducible refine cA ?_ _) | (with_reducible refine cN ?_ _) | (with_reducible refine cD ?_))); (case side4 => exact HC1_0.out); rintro e w' ⟨rfl, ⟨nd, rfl⟩⟩; refine ⟨_, rfl, ?_⟩) | (go_at_call 45; (with_reducible refine (serifref09_sameSpots.calls k _ _ l0_1 _ _ l1_1 true _ ?side1 ?side2 ?side3 ?side4 A5.out).mono ?_); (case side1 => repeat (first | exact (Kd.C_below HR0_1.out (by with_reducible repeat first | exact HB.out | apply lN | apply lD | refine lS ?_ GE276.out | refine lS ?_ GE277.out)) | (with_reducible refine cA ?_ _) | (with_reducible refine cN ?_ _) | (with_reducible refine cD ?_))); (case side2 => exact HC0_1.out); (case side3 => repeat (first | exact (Kd.C_below HR1_1.out (by with_reducible repeat first | exact HB.out | apply lN | apply lD | refine lS ?_ GE276.out | refine lS ?_ GE277.out)) | (with_reducible refine cA ?_ _) | (with_reducible refine cN ?_ _) | (with_reducible refine cD ?_))); (case side4 => exact HC1_1.out); rintro e w' ⟨rfl, ⟨nd, rfl⟩⟩) | (go_at_call 46; (with_reducible refine (serifref09_sameBools.calls k _ _ l0_2 _ _ l1_2 true _ ?side1 ?side2 ?side3 ?side4 A7.out).mono ?_); (case side1 => repeat (first | exact (Kd.C_below HR0_2.out (by with_reducible repeat first | exact HB.out | apply lN | apply lD | refine lS ?_ GE276.out | refine lS ?_ GE277.out)) | (with_reducible refine cA ?_ _) | (with_reducible refine cN ?_ _) | (with_reducible refine cD ?_))); (case side2 => exact HC0_2.out); (case side3 => repeat (first | exact (Kd.C_below HR1_2.out (by with_reducible repeat first | exact HB.out | apply lN | apply lD | refine lS ?_ GE276.out | refine lS ?_ GE277.out)) | (with_reducible refine cA ?_ _) | (with_reducible refine cN ?_ _) | (with_reducible refine cD ?_))); (case side4 => exact HC1_2.out); rintro e w' ⟨rfl, ⟨nd, rfl⟩⟩) | (go_at_call 46; (with_reducible refine (serifref09_sameBools.calls k _ _ l0_3 _ _ l1_3 false _ ?side1 ?side2 ?side3 ?side4 A9.out).mono ?_); (case side1 => repeat (first | exact (Kd.C_below HR0_3.out (by with_reducible repeat first | exact HB.out | apply lN | apply lD | refine lS ?_ GE276.out | refine lS ?_ GE277.out)) | (with_reducible refine cA ?_ _) | (with_reducible refine cN ?_ _) | (with_reducible refine cD ?_))); (case side2 => exact HC0_3.out); (case side3 => repeat (first | exact (Kd.C_below HR1_3.out (by with_reducible repeat first | exact HB.out | apply lN | apply lD | refine lS ?_ GE276.out | refine lS ?_ GE277.out)) | (with_reducible refine cA ?_ _) | (with_reducible refine cN ?_ _) | (with_reducible refine cD ?_))); (case side4 => exact HC1_3.out); rintro e w' ⟨rfl, ⟨nd, rfl⟩⟩))
     go_ret
     exact ⟨by first | rfl | (simp [errW_none, errW_some] <;> rfl) | (simp [*, errW_none, errW_some] <;> rfl), by with_reducible repeat first | exact HB.out | apply lN | apply lD | refine lS ?_ GE276.out | refine lS ?_ GE277.out⟩
   ·replace c8 := Bool.eq_false_iff.mpr c8
    subst c8
    have H1 : (some false) = some r := by rw [if_neg (show ¬ (false = true) by decide)] at H; exact H
    clear H
    have H := H1
    clear H1
    obtain rfl := Option.some.inj H
    go_enter Try.func19, Try.ntmps19
    go_wp2_with (first | ((with_reducible refine gate_dst (N := 2) rfl ?_); refine box_event ?hg (N := 2) ?hd (cs := #[.slice A0_0 l0_0.length c0_0, .slice A0_1 l0_1.length c0_1, .slice A0_2 l0_2.length c0_2, .slice A0_3 l0_3.length c0_3, .slice A0_4 l0_4.length c0_4]) (t := 30) ?hr ?_; (case hd => rfl); (case hg => rfl); (case hr => first | (go_simp; done) | (go_simp; rfl)); intro gb276 hg w22 hbox hb; have BK276 := Aside0.mk (hbox); have GW276 := Aside0.mk ((by rw [hg]; exact (lZ (by with_reducible repeat first | exact HB.out | apply lN | apply lD)) : w.heap.size ≤ gb276)); have GE276 := Aside0.mk ((by rw [hg]; exact (lZ (by with_reducible repeat first | exact HB.out | apply lN | apply lD)) : w.heap.size ≤ gb276)); replace HB := Aside0.mk (lT HB.out hb); clear hb hbox hg) | ((with_reducible refine gate_dst (N := 3) rfl ?_); refine box_event ?hg (N := 3) ?hd (cs := #[.slice A1_0 l1_0.length c1_0, .slice A1_1 l1_1.length c1_1, .slice A1_2 l1_2.length c1_2, .slice A1_3 l1_3.length c1_3, .slice A1_4 l1_4.length c1_4]) (t := 30) ?hr ?_; (case hd => rfl); (case hg => rfl); (case hr => first | (go_simp; done) | (go_simp; rfl)); intro gb277 hg w23 hbox hb; have BK277 := Aside0.mk (hbox); have GW277 := Aside0.mk ((by rw [hg]; exact (lZ (by with_reducible repeat first | exact HB.out | apply lN | apply lD | refine lS ?_ GE276.out)) : w.heap.size ≤ gb277)); have GE277 := Aside0.mk ((by rw [hg]; exact (lZ (by with_reducible repeat first | exact HB.out | apply lN | apply lD | refine lS ?_ GE276.out)) : w.heap.size ≤ gb277)); have NB276_277 := Aside0.mk ((by rw [hg]; exact Nat.ne_of_lt (blk_lt BK276.out) : gb276 ≠ gb277)); have NB277_276 := Aside0.mk ((by rw [hg]; exact Nat.ne_of_gt (blk_lt BK276.out) : gb277 ≠ gb276)); replace BK276 := Aside0.mk (bB BK276.out hb); replace HB := Aside0.mk (lT (by with_reducible repeat first | exact HB.out | refine lS ?_ GE276.out) hb); clear hb hbox hg; have hnb24 := NB276_277.out; have hnc24 := NB277_276.out; have hcz25_0 : w23.cell? ⟨gb276, 0, none⟩ = some (.slice A0_0 l0_0.length c0_0) := (bC BK276.out 0).trans rfl; have hcz25_1 : w23.cell? ⟨gb276, 1, none⟩ = some (.slice A0_1 l0_1.length c0_1) := (bC BK276.out 1).trans rfl; have hcz25_2 : w23.cell? ⟨gb276, 2, none⟩ = some (.slice A0_2 l0_2.length c0_2) := (bC BK276.out 2).trans rfl; have hcz25_3 : w23.cell? ⟨gb276, 3, none⟩ = some (.slice A0_3 l0_3.length c0_3) := (bC BK276.out 3).trans rfl; have hcz25_4 : w23.cell? ⟨gb276, 4, none⟩ = some (.slice A0_4 l0_4.length c0_4) := (bC BK276.out 4).trans rfl; have hfz25_0 := bF BK276.out 0; have hfz25_1 := bF BK276.out 1; have hfz25_2 := bF BK276.out 2; have hfz25_3 := bF BK276.out 3; have hfz25_4 := bF BK276.out 4; have hcz26_0 : w23.cell? ⟨gb277, 0, none⟩ = some (.slice A1_0 l1_0.length c1_0) := (bC BK277.out 0).trans rfl; have hcz26_1 : w23.cell? ⟨gb277, 1, none⟩ = some (.slice A1_1 l1_1.length c1_1) := (bC BK277.out 1).trans rfl; have hcz26_2 : w23.cell? ⟨gb277, 2, none⟩ = some (.slice A1_2 l1_2.length c1_2) := (bC BK277.out 2).trans rfl; have hcz26_3 : w23.cell? ⟨gb277, 3, none⟩ = some (.slice A1_3 l1_3.length c1_3) := (bC BK277.out 3).trans rfl; have hcz26_4 : w23.cell? ⟨gb277, 4, none⟩ = some (.slice A1_4 l1_4.length c1_4) := (bC BK277.out 4).trans rfl; have hfz26_0 := bF BK277.out 0; have hfz26_1 := bF BK277.out 1; have hfz26_2 := bF BK277.out 2; have hfz26_3 := bF BK277.out 3; have hfz26_4 := bF BK277.out 4) | ((with_reducible refine gate_callee (f := 45) rfl ?_); refine goesL_ (some 9) rfl rfl Try.func45 (by kernel_rfl) rfl #[.slice A0_0 l0_0.length c0_0, .slice A1_0 l1_0.length c1_0] rfl (by (try simp only [List.map_toArray, List.map_cons, List.map_nil]); first | done | rfl | (simp only [List.length_drop, List.length_take]; rfl)) ?_; (with_reducible refine (serifref09_sameSpots.calls k _ _ l0_0 _ _ l1_0 true _ ?side1 ?side2 ?side3 ?side4 A3.out).mono ?_); (case side1 => repeat (first | exact (Kd.C_below HR0_0.out HB.out) | (with_reducible refine cA ?_ _) | (with_reducible refine cN ?_ _) | (with_reducible refine cD ?_))); (case side2 => exact HC0_0.out); (case side3 => repeat (first | exact (Kd.C_below HR1_0.out HB.out) | (with_reducible refine cA ?_ _) | (with_reducible refine cN ?_ _) | (with_reducible refine cD ?_))); (case side4 => exact HC1_0.out); rintro e w' ⟨rfl, ⟨nd, rfl⟩⟩; refine ⟨_, rfl, ?_⟩) | (go_at_call 45; (with_reducible refine (serifref09_sameSpots.calls k _ _ l0_1 _ _ l1_1 true _ ?side1 ?side2 ?side3 ?side4 A5.out).mono ?_); (case side1 => repeat (first | exact (Kd.C_below HR0_1.out (by with_reducible repeat first | exact HB.out | apply lN | apply lD | refine lS ?_ GE276.out | refine lS ?_ GE277.out)) | (with_reducible refine cA ?_ _) | (with_reducible refine cN ?_ _) | (with_reducible refine cD ?_))); (case side2 => exact HC0_1.out); (case side3 => repeat (first | exact (Kd.C_below HR1_1.out (by with_reducible repeat first | exact HB.out | apply lN | apply lD | refine lS ?_ GE276.out | refine lS ?_ GE277.out)) | (with_reducible refine cA ?_ _) | (with_reducible refine cN ?_ _) | (with_reducible refine cD ?_))); (case side4 => exact HC1_1.out); rintro e w' ⟨rfl, ⟨nd, rfl⟩⟩) | (go_at_call 46; (with_reducible refine (serifref09_sameBools.calls k _ _ l0_2 _ _ l1_2 false _ ?side1 ?side2 ?side3 ?side4 A7.out).mono ?_); (case side1 => repeat (first | exact (Kd.C_below HR0_2.out (by with_reducible repeat first | exact HB.out | apply lN | apply lD | refine lS ?_ GE276.out | refine lS ?_ GE277.out)) | (with_reducible refine cA ?_ _) | (with_reducible refine cN ?_ _) | (with_reducible refine cD ?_))); (case side2 => exact HC0_2.out); (case side3 => repeat (first | exact (Kd.C_below HR1_2.out (by with_reducible repeat first | exact HB.out | apply lN | apply lD | refine lS ?_ GE276.out | refine lS ?_ GE277.out)) | (with_reducible refine cA ?_ _) | (with_reducible refine cN ?_ _) | (with_reducible refine cD ?_))); (case side4 => exact HC1_2.out); rintro e w' ⟨rfl, ⟨nd, rfl⟩⟩))
    go_ret
    exact ⟨by first | rfl | (simp [errW_none, errW_some] <;> rfl) | (simp [*, errW_none, errW_some] <;> rfl), by with_reducible repeat first | exact HB.out | apply lN | apply lD | refine lS ?_ GE276.out | refine lS ?_ GE277.out⟩
  ·replace c6 := Bool.eq_false_iff.mpr c6
   subst c6
   have H1 : (some false) = some r := by rw [if_neg (show ¬ (false = true) by decide)] at H; exact H
   clear H
   have H := H1
   clear H1
   obtain rfl := Option.some.inj H
   go_enter Try.func19, Try.ntmps19
   go_wp2_with (first | ((with_reducible refine gate_dst (N := 2) rfl ?_); refine box_event ?hg (N := 2) ?hd (cs := #[.slice A0_0 l0_0.length c0_0, .slice A0_1 l0_1.length c0_1, .slice A0_2 l0_2.length c0_2, .slice A0_3 l0_3.length c0_3, .slice A0_4 l0_4.length c0_4]) (t := 30) ?hr ?_; (case hd => rfl); (case hg => rfl); (case hr => first | (go_simp; done) | (go_simp; rfl)); intro gb276 hg w27 hbox hb; have BK276 := Aside0.mk (hbox); have GW276 := Aside0.mk ((by rw [hg]; exact (lZ (by with_reducible repeat first | exact HB.out | apply lN | apply lD)) : w.heap.size ≤ gb276)); have GE276 := Aside0.mk ((by rw [hg]; exact (lZ (by with_reducible repeat first | exact HB.out | apply lN | apply lD)) : w.heap.size ≤ gb276)); replace HB := Aside0.mk (lT HB.out hb); clear hb hbox hg) | ((with_reducible refine gate_dst (N := 3) rfl ?_); refine box_event ?hg (N := 3) ?hd (cs := #[.slice A1_0 l1_0.length c1_0, .slice A1_1 l1_1.length c1_1, .slice A1_2 l1_2.length c1_2, .slice A1_3 l1_3.length c1_3, .slice A1_4 l1_4.length c1_4]) (t := 30) ?hr ?_; (case hd => rfl); (case hg => rfl); (case hr => first | (go_simp; done) | (go_simp; rfl)); intro gb277 hg w28 hbox hb; have BK277 := Aside0.mk (hbox); have GW277 := Aside0.mk ((by rw [hg]; exact (lZ (by with_reducible repeat first | exact HB.out | apply lN | apply lD | refine lS ?_ GE276.out)) : w.heap.size ≤ gb277)); have GE277 := Aside0.mk ((by rw [hg]; exact (lZ (by with_reducible repeat first | exact HB.out | apply lN | apply lD | refine lS ?_ GE276.out)) : w.heap.size ≤ gb277)); have NB276_277 := Aside0.mk ((by rw [hg]; exact Nat.ne_of_lt (blk_lt BK276.out) : gb276 ≠ gb277)); have NB277_276 := Aside0.mk ((by rw [hg]; exact Nat.ne_of_gt (blk_lt BK276.out) : gb277 ≠ gb276)); replace BK276 := Aside0.mk (bB BK276.out hb); replace HB := Aside0.mk (lT (by with_reducible repeat first | exact HB.out | refine lS ?_ GE276.out) hb); clear hb hbox hg; have hnb29 := NB276_277.out; have hnc29 := NB277_276.out; have hcz30_0 : w28.cell? ⟨gb276, 0, none⟩ = some (.slice A0_0 l0_0.length c0_0) := (bC BK276.out 0).trans rfl; have hcz30_1 : w28.cell? ⟨gb276, 1, none⟩ = some (.slice A0_1 l0_1.length c0_1) := (bC BK276.out 1).trans rfl; have hcz30_2 : w28.cell? ⟨gb276, 2, none⟩ = some (.slice A0_2 l0_2.length c0_2) := (bC BK276.out 2).trans rfl; have hcz30_3 : w28.cell? ⟨gb276, 3, none⟩ = some (.slice A0_3 l0_3.length c0_3) := (bC BK276.out 3).trans rfl; have hcz30_4 : w28.cell? ⟨gb276, 4, none⟩ = some (.slice A0_4 l0_4.length c0_4) := (bC BK276.out 4).trans rfl; have hfz30_0 := bF BK276.out 0; have hfz30_1 := bF BK276.out 1; have hfz30_2 := bF BK276.out 2; have hfz30_3 := bF BK276.out 3; have hfz30_4 := bF BK276.out 4; have hcz31_0 : w28.cell? ⟨gb277, 0, none⟩ = some (.slice A1_0 l1_0.length c1_0) := (bC BK277.out 0).trans rfl; have hcz31_1 : w28.cell? ⟨gb277, 1, none⟩ = some (.slice A1_1 l1_1.length c1_1) := (bC BK277.out 1).trans rfl; have hcz31_2 : w28.cell? ⟨gb277, 2, none⟩ = some (.slice A1_2 l1_2.length c1_2) := (bC BK277.out 2).trans rfl; have hcz31_3 : w28.cell? ⟨gb277, 3, none⟩ = some (.slice A1_3 l1_3.length c1_3) := (bC BK277.out 3).trans rfl; have hcz31_4 : w28.cell? ⟨gb277, 4, none⟩ = some (.slice A1_4 l1_4.length c1_4) := (bC BK277.out 4).trans rfl; have hfz31_0 := bF BK277.out 0; have hfz31_1 := bF BK277.out 1; have hfz31_2 := bF BK277.out 2; have hfz31_3 := bF BK277.out 3; have hfz31_4 := bF BK277.out 4) | ((with_reducible refine gate_callee (f := 45) rfl ?_); refine goesL_ (some 9) rfl rfl Try.func45 (by kernel_rfl) rfl #[.slice A0_0 l0_0.length c0_0, .slice A1_0 l1_0.length c1_0] rfl (by (try simp only [List.map_toArray, List.map_cons, List.map_nil]); first | done | rfl | (simp only [List.length_drop, List.length_take]; rfl)) ?_; (with_reducible refine (serifref09_sameSpots.calls k _ _ l0_0 _ _ l1_0 true _ ?side1 ?side2 ?side3 ?side4 A3.out).mono ?_); (case side1 => repeat (first | exact (Kd.C_below HR0_0.out HB.out) | (with_reducible refine cA ?_ _) | (with_reducible refine cN ?_ _) | (with_reducible refine cD ?_))); (case side2 => exact HC0_0.out); (case side3 => repeat (first | exact (Kd.C_below HR1_0.out HB.out) | (with_reducible refine cA ?_ _) | (with_reducible refine cN ?_ _) | (with_reducible refine cD ?_))); (case side4 => exact HC1_0.out); rintro e w' ⟨rfl, ⟨nd, rfl⟩⟩; refine ⟨_, rfl, ?_⟩) | (go_at_call 45; (with_reducible refine (serifref09_sameSpots.calls k _ _ l0_1 _ _ l1_1 false _ ?side1 ?side2 ?side3 ?side4 A5.out).mono ?_); (case side1 => repeat (first | exact (Kd.C_below HR0_1.out (by with_reducible repeat first | exact HB.out | apply lN | apply lD | refine lS ?_ GE276.out | refine lS ?_ GE277.out)) | (with_reducible refine cA ?_ _) | (with_reducible refine cN ?_ _) | (with_reducible refine cD ?_))); (case side2 => exact HC0_1.out); (case side3 => repeat (first | exact (Kd.C_below HR1_1.out (by with_reducible repeat first | exact HB.out | apply lN | apply lD | refine lS ?_ GE276.out | refine lS ?_ GE277.out)) | (with_reducible refine cA ?_ _) | (with_reducible refine cN ?_ _) | (with_reducible refine cD ?_))); (case side4 => exact HC1_1.out); rintro e w' ⟨rfl, ⟨nd, rfl⟩⟩))
   go_ret
   exact ⟨by first | rfl | (simp [errW_none, errW_some] <;> rfl) | (simp [*, errW_none, errW_some] <;> rfl), by with_reducible repeat first | exact HB.out | apply lN | apply lD | refine lS ?_ GE276.out | refine lS ?_ GE277.out⟩
 ·replace c4 := Bool.eq_false_iff.mpr c4
  subst c4
  have H1 : (some false) = some r := by rw [if_neg (show ¬ (false = true) by decide)] at H; exact H
  clear H
  have H := H1
  clear H1
  obtain rfl := Option.some.inj H
  go_enter Try.func19, Try.ntmps19
  go_wp2_with (first | ((with_reducible refine gate_dst (N := 2) rfl ?_); refine box_event ?hg (N := 2) ?hd (cs := #[.slice A0_0 l0_0.length c0_0, .slice A0_1 l0_1.length c0_1, .slice A0_2 l0_2.length c0_2, .slice A0_3 l0_3.length c0_3, .slice A0_4 l0_4.length c0_4]) (t := 30) ?hr ?_; (case hd => rfl); (case hg => rfl); (case hr => first | (go_simp; done) | (go_simp; rfl)); intro gb276 hg w32 hbox hb; have BK276 := Aside0.mk (hbox); have GW276 := Aside0.mk ((by rw [hg]; exact (lZ (by with_reducible repeat first | exact HB.out | apply lN | apply lD)) : w.heap.size ≤ gb276)); have GE276 := Aside0.mk ((by rw [hg]; exact (lZ (by with_reducible repeat first | exact HB.out | apply lN | apply lD)) : w.heap.size ≤ gb276)); replace HB := Aside0.mk (lT HB.out hb); clear hb hbox hg) | ((with_reducible refine gate_dst (N := 3) rfl ?_); refine box_event ?hg (N := 3) ?hd (cs := #[.slice A1_0 l1_0.length c1_0, .slice A1_1 l1_1.length c1_1, .slice A1_2 l1_2.length c1_2, .slice A1_3 l1_3.length c1_3, .slice A1_4 l1_4.length c1_4]) (t := 30) ?hr ?_; (case hd => rfl); (case hg => rfl); (case hr => first | (go_simp; done) | (go_simp; rfl)); intro gb277 hg w33 hbox hb; have BK277 := Aside0.mk (hbox); have GW277 := Aside0.mk ((by rw [hg]; exact (lZ (by with_reducible repeat first | exact HB.out | apply lN | apply lD | refine lS ?_ GE276.out)) : w.heap.size ≤ gb277)); have GE277 := Aside0.mk ((by rw [hg]; exact (lZ (by with_reducible repeat first | exact HB.out | apply lN | apply lD | refine lS ?_ GE276.out)) : w.heap.size ≤ gb277)); have NB276_277 := Aside0.mk ((by rw [hg]; exact Nat.ne_of_lt (blk_lt BK276.out) : gb276 ≠ gb277)); have NB277_276 := Aside0.mk ((by rw [hg]; exact Nat.ne_of_gt (blk_lt BK276.out) : gb277 ≠ gb276)); replace BK276 := Aside0.mk (bB BK276.out hb); replace HB := Aside0.mk (lT (by with_reducible repeat first | exact HB.out | refine lS ?_ GE276.out) hb); clear hb hbox hg; have hnb34 := NB276_277.out; have hnc34 := NB277_276.out; have hcz35_0 : w33.cell? ⟨gb276, 0, none⟩ = some (.slice A0_0 l0_0.length c0_0) := (bC BK276.out 0).trans rfl; have hcz35_1 : w33.cell? ⟨gb276, 1, none⟩ = some (.slice A0_1 l0_1.length c0_1) := (bC BK276.out 1).trans rfl; have hcz35_2 : w33.cell? ⟨gb276, 2, none⟩ = some (.slice A0_2 l0_2.length c0_2) := (bC BK276.out 2).trans rfl; have hcz35_3 : w33.cell? ⟨gb276, 3, none⟩ = some (.slice A0_3 l0_3.length c0_3) := (bC BK276.out 3).trans rfl; have hcz35_4 : w33.cell? ⟨gb276, 4, none⟩ = some (.slice A0_4 l0_4.length c0_4) := (bC BK276.out 4).trans rfl; have hfz35_0 := bF BK276.out 0; have hfz35_1 := bF BK276.out 1; have hfz35_2 := bF BK276.out 2; have hfz35_3 := bF BK276.out 3; have hfz35_4 := bF BK276.out 4; have hcz36_0 : w33.cell? ⟨gb277, 0, none⟩ = some (.slice A1_0 l1_0.length c1_0) := (bC BK277.out 0).trans rfl; have hcz36_1 : w33.cell? ⟨gb277, 1, none⟩ = some (.slice A1_1 l1_1.length c1_1) := (bC BK277.out 1).trans rfl; have hcz36_2 : w33.cell? ⟨gb277, 2, none⟩ = some (.slice A1_2 l1_2.length c1_2) := (bC BK277.out 2).trans rfl; have hcz36_3 : w33.cell? ⟨gb277, 3, none⟩ = some (.slice A1_3 l1_3.length c1_3) := (bC BK277.out 3).trans rfl; have hcz36_4 : w33.cell? ⟨gb277, 4, none⟩ = some (.slice A1_4 l1_4.length c1_4) := (bC BK277.out 4).trans rfl; have hfz36_0 := bF BK277.out 0; have hfz36_1 := bF BK277.out 1; have hfz36_2 := bF BK277.out 2; have hfz36_3 := bF BK277.out 3; have hfz36_4 := bF BK277.out 4) | ((with_reducible refine gate_callee (f := 45) rfl ?_); refine goesL_ (some 9) rfl rfl Try.func45 (by kernel_rfl) rfl #[.slice A0_0 l0_0.length c0_0, .slice A1_0 l1_0.length c1_0] rfl (by (try simp only [List.map_toArray, List.map_cons, List.map_nil]); first | done | rfl | (simp only [List.length_drop, List.length_take]; rfl)) ?_; (with_reducible refine (serifref09_sameSpots.calls k _ _ l0_0 _ _ l1_0 false _ ?side1 ?side2 ?side3 ?side4 A3.out).mono ?_); (case side1 => repeat (first | exact (Kd.C_below HR0_0.out HB.out) | (with_reducible refine cA ?_ _) | (with_reducible refine cN ?_ _) | (with_reducible refine cD ?_))); (case side2 => exact HC0_0.out); (case side3 => repeat (first | exact (Kd.C_below HR1_0.out HB.out) | (with_reducible refine cA ?_ _) | (with_reducible refine cN ?_ _) | (with_reducible refine cD ?_))); (case side4 => exact HC1_0.out); rintro e w' ⟨rfl, ⟨nd, rfl⟩⟩; refine ⟨_, rfl, ?_⟩))
  go_ret
  exact ⟨by first | rfl | (simp [errW_none, errW_some] <;> rfl) | (simp [*, errW_none, errW_some] <;> rfl), by with_reducible repeat first | exact HB.out | apply lN | apply lD | refine lS ?_ GE276.out | refine lS ?_ GE277.out⟩

/-! ### seriflaw09_GstatePuts: function 6 -/
def seriflaw09_GstatePuts.f (k : Nat) (l0_0 : List (S43)) (l0_1 : List (S43)) (l0_2 : List Bool) (l0_3 : List Bool) (l0_4 : List Int) (a1_0 : Int) (a1_1 : Int) (a2 : Int) : Option (Bool) := (seriflaw09_gstateAlive.f).bind fun t285 => (if t285 = true then ((serifref09_Copy.f l0_0 l0_1 l0_2 l0_3 l0_4).bind fun bt286 => ((serifref09_Put.f k l0_0 l0_1 l0_2 l0_3 l0_4 a1_0 a1_1 a2).bind fun bt302 => ((gstate_Put.f k bt286.1 bt286.2.1 bt286.2.2.1 bt286.2.2.2.1 bt286.2.2.2.2 a1_0 a1_1 a2).bind fun bt319 => (if bt319.2.2.2.2.2 = bt302.2.2.2.2.2 then ((serifref09_Same.f k bt319.1 bt319.2.1 bt319.2.2.1 bt319.2.2.2.1 bt319.2.2.2.2.1 bt302.1 bt302.2.1 bt302.2.2.1 bt302.2.2.2.1 bt302.2.2.2.2.1).bind fun t336 => (if t336 = true then ((serifref09_Same.f k bt286.1 bt286.2.1 bt286.2.2.1 bt286.2.2.2.1 bt286.2.2.2.2 l0_0 l0_1 l0_2 l0_3 l0_4).bind fun t337 => (some t337)) else (some false))) else (some false))))) else (some false))
theorem seriflaw09_GstatePuts.mono : ∀ a0 a1 a2 a3 a4 a5 a6 a7 k, LeO (seriflaw09_GstatePuts.f k a0 a1 a2 a3 a4 a5 a6 a7) (seriflaw09_GstatePuts.f (k + 1) a0 a1 a2 a3 a4 a5 a6 a7) := by
 intro a0 a1 a2 a3 a4 a5 a6 a7 k
 unfold seriflaw09_GstatePuts.f
 repeat' first
   | (with_reducible exact gstate_Put.mono _ _ _ _ _ _ _ _ _)
   | (with_reducible exact serifref09_Put.mono _ _ _ _ _ _ _ _ _)
   | (with_reducible exact serifref09_Same.mono _ _ _ _ _ _ _ _ _ _ _)
   | (with_reducible exact LeO.refl _)
   | (with_reducible exact LeO.none _)
   | (with_reducible refine LeO.ite ?_ ?_)
   | (with_reducible refine LeO.bind ?_ (fun _ => ?_))
   | exact gstate_Put.mono _ _ _ _ _ _ _ _ _
   | exact serifref09_Put.mono _ _ _ _ _ _ _ _ _
   | exact serifref09_Same.mono _ _ _ _ _ _ _ _ _ _ _
   | exact LeO.none _
   | refine LeO.ite ?_ ?_
   | refine LeO.bind ?_ (fun _ => ?_)
set_option maxHeartbeats 8000000 in
set_option maxRecDepth 100000 in
theorem seriflaw09_GstatePuts.calls (k : Nat) (A0_0 : Option Addr) (c0_0 : Nat) (l0_0 : List (S43)) (A0_1 : Option Addr) (c0_1 : Nat) (l0_1 : List (S43)) (A0_2 : Option Addr) (c0_2 : Nat) (l0_2 : List Bool) (A0_3 : Option Addr) (c0_3 : Nat) (l0_3 : List Bool) (A0_4 : Option Addr) (c0_4 : Nat) (l0_4 : List Int) (a1_0 : Int) (a1_1 : Int) (a2 : Int) (r : Bool) (w : World) (hr0_0 : Kd.C k43 w A0_0 l0_0.length l0_0) (hc0_0 : l0_0.length ≤ c0_0) (hr0_1 : Kd.C k43 w A0_1 l0_1.length l0_1) (hc0_1 : l0_1.length ≤ c0_1) (hr0_2 : Kd.C Kd.bool w A0_2 l0_2.length l0_2) (hc0_2 : l0_2.length ≤ c0_2) (hr0_3 : Kd.C Kd.bool w A0_3 l0_3.length l0_3) (hc0_3 : l0_3.length ≤ c0_3) (hr0_4 : Kd.C (Kd.int .i64) w A0_4 l0_4.length l0_4) (hc0_4 : l0_4.length ≤ c0_4) (h : seriflaw09_GstatePuts.f k l0_0 l0_1 l0_2 l0_3 l0_4 a1_0 a1_1 a2 = some r) (ht_ : r = true) :
  Calls Try.prog 6 #[.agg #[.slice A0_0 l0_0.length c0_0, .slice A0_1 l0_1.length c0_1, .slice A0_2 l0_2.length c0_2, .slice A0_3 l0_3.length c0_3, .slice A0_4 l0_4.length c0_4], .agg #[.int .i64 a1_0, .int .i64 a1_1], .int .i64 a2] w fun e w' => e = .returned (.bool r) ∧ Below w.heap.size w w' := by
 have HT := Aside0.mk ht_
 clear ht_
 have hu30 := Try.underlying30
 have hu31 := Try.underlying31
 have HR0_0 := Aside0.mk hr0_0
 have HC0_0 := Aside0.mk hc0_0
 clear hr0_0 hc0_0
 have HR0_1 := Aside0.mk hr0_1
 have HC0_1 := Aside0.mk hc0_1
 clear hr0_1 hc0_1
 have HR0_2 := Aside0.mk hr0_2
 have HC0_2 := Aside0.mk hc0_2
 clear hr0_2 hc0_2
 have HR0_3 := Aside0.mk hr0_3
 have HC0_3 := Aside0.mk hc0_3
 clear hr0_3 hc0_3
 have HR0_4 := Aside0.mk hr0_4
 have HC0_4 := Aside0.mk hc0_4
 clear hr0_4 hc0_4
 have HB := Aside0.mk (Below.refl w.heap.size w)
 have H : ((seriflaw09_gstateAlive.f).bind fun t285 => (if t285 = true then ((serifref09_Copy.f l0_0 l0_1 l0_2 l0_3 l0_4).bind fun bt286 => ((serifref09_Put.f k l0_0 l0_1 l0_2 l0_3 l0_4 a1_0 a1_1 a2).bind fun bt302 => ((gstate_Put.f k bt286.1 bt286.2.1 bt286.2.2.1 bt286.2.2.2.1 bt286.2.2.2.2 a1_0 a1_1 a2).bind fun bt319 => (if bt319.2.2.2.2.2 = bt302.2.2.2.2.2 then ((serifref09_Same.f k bt319.1 bt319.2.1 bt319.2.2.1 bt319.2.2.2.1 bt319.2.2.2.2.1 bt302.1 bt302.2.1 bt302.2.2.1 bt302.2.2.2.1 bt302.2.2.2.2.1).bind fun t336 => (if t336 = true then ((serifref09_Same.f k bt286.1 bt286.2.1 bt286.2.2.1 bt286.2.2.2.1 bt286.2.2.2.2 l0_0 l0_1 l0_2 l0_3 l0_4).bind fun t337 => (some t337)) else (some false))) else (some false))))) else (some false))) = some r := h
 clear h
 replace H := Option.bind_eq_some_iff.mp H
 obtain ⟨t285, A40, H⟩ := H
 replace H : (if t285 = true then ((serifref09_Copy.f l0_0 l0_1 l0_2 l0_3 l0_4).bind fun bt286 => ((serifref09_Put.f k l0_0 l0_1 l0_2 l0_3 l0_4 a1_0 a1_1 a2).bind fun bt302 => ((gstate_Put.f k bt286.1 bt286.2.1 bt286.2.2.1 bt286.2.2.2.1 bt286.2.2.2.2 a1_0 a1_1 a2).bind fun bt319 => (if bt319.2.2.2.2.2 = bt302.2.2.2.2.2 then ((serifref09_Same.f k bt319.1 bt319.2.1 bt319.2.2.1 bt319.2.2.2.1 bt319.2.2.2.2.1 bt302.1 bt302.2.1 bt302.2.2.1 bt302.2.2.2.1 bt302.2.2.2.2.1).bind fun t336 => (if t336 = true then ((serifref09_Same.f k bt286.1 bt286.2.1 bt286.2.2.1 bt286.2.2.2.1 bt286.2.2.2.2 l0_0 l0_1 l0_2 l0_3 l0_4).bind fun t337 => (some t337)) else (some false))) else (some false))))) else (some false)) = some r := H
 have A4 := Aside0.mk A40
 clear A40
 by_cases c5 : t285 = true
 ·subst c5
  have H1 : ((serifref09_Copy.f l0_0 l0_1 l0_2 l0_3 l0_4).bind fun bt286 => ((serifref09_Put.f k l0_0 l0_1 l0_2 l0_3 l0_4 a1_0 a1_1 a2).bind fun bt302 => ((gstate_Put.f k bt286.1 bt286.2.1 bt286.2.2.1 bt286.2.2.2.1 bt286.2.2.2.2 a1_0 a1_1 a2).bind fun bt319 => (if bt319.2.2.2.2.2 = bt302.2.2.2.2.2 then ((serifref09_Same.f k bt319.1 bt319.2.1 bt319.2.2.1 bt319.2.2.2.1 bt319.2.2.2.2.1 bt302.1 bt302.2.1 bt302.2.2.1 bt302.2.2.2.1 bt302.2.2.2.2.1).bind fun t336 => (if t336 = true then ((serifref09_Same.f k bt286.1 bt286.2.1 bt286.2.2.1 bt286.2.2.2.1 bt286.2.2.2.2 l0_0 l0_1 l0_2 l0_3 l0_4).bind fun t337 => (some t337)) else (some false))) else (some false))))) = some r := by rw [if_pos rfl] at H; exact H
  clear H
  have H := H1
  clear H1
  replace H := Option.bind_eq_some_iff.mp H
  obtain ⟨⟨t286, t289, t292, t295, t298⟩, A60, H⟩ := H
  replace H : ((serifref09_Put.f k l0_0 l0_1 l0_2 l0_3 l0_4 a1_0 a1_1 a2).bind fun bt302 => ((gstate_Put.f k t286 t289 t292 t295 t298 a1_0 a1_1 a2).bind fun bt319 => (if bt319.2.2.2.2.2 = bt302.2.2.2.2.2 then ((serifref09_Same.f k bt319.1 bt319.2.1 bt319.2.2.1 bt319.2.2.2.1 bt319.2.2.2.2.1 bt302.1 bt302.2.1 bt302.2.2.1 bt302.2.2.2.1 bt302.2.2.2.2.1).bind fun t336 => (if t336 = true then ((serifref09_Same.f k t286 t289 t292 t295 t298 l0_0 l0_1 l0_2 l0_3 l0_4).bind fun t337 => (some t337)) else (some false))) else (some false)))) = some r := H
  have A6 := Aside0.mk A60
  clear A60
  replace H := Option.bind_eq_some_iff.mp H
  obtain ⟨⟨t302, t305, t308, t311, t314, t317⟩, A70, H⟩ := H
  replace H : ((gstate_Put.f k t286 t289 t292 t295 t298 a1_0 a1_1 a2).bind fun bt319 => (if bt319.2.2.2.2.2 = t317 then ((serifref09_Same.f k bt319.1 bt319.2.1 bt319.2.2.1 bt319.2.2.2.1 bt319.2.2.2.2.1 t302 t305 t308 t311 t314).bind fun t336 => (if t336 = true then ((serifref09_Same.f k t286 t289 t292 t295 t298 l0_0 l0_1 l0_2 l0_3 l0_4).bind fun t337 => (some t337)) else (some false))) else (some false))) = some r := H
  have A7 := Aside0.mk A70
  clear A70
  replace H := Option.bind_eq_some_iff.mp H
  obtain ⟨⟨t319, t322, t325, t328, t331, t334⟩, A80, H⟩ := H
  replace H : (if t334 = t317 then ((serifref09_Same.f k t319 t322 t325 t328 t331 t302 t305 t308 t311 t314).bind fun t336 => (if t336 = true then ((serifref09_Same.f k t286 t289 t292 t295 t298 l0_0 l0_1 l0_2 l0_3 l0_4).bind fun t337 => (some t337)) else (some false))) else (some false)) = some r := H
  have A8 := Aside0.mk A80
  clear A80
  by_cases c9 : t334 = t317
  ·rw [if_pos c9] at H
   have c9b0 : (t334 == t317) = true := beq_iff_eq.mpr c9
   have c9b1 : (t334 != t317) = false := bne_eq_false_iff_eq.mpr c9
   clear c9
   replace H := Option.bind_eq_some_iff.mp H
   obtain ⟨t336, A100, H⟩ := H
   replace H : (if t336 = true then ((serifref09_Same.f k t286 t289 t292 t295 t298 l0_0 l0_1 l0_2 l0_3 l0_4).bind fun t337 => (some t337)) else (some false)) = some r := H
   have A10 := Aside0.mk A100
   clear A100
   by_cases c11 : t336 = true
   ·subst c11
    have H1 : ((serifref09_Same.f k t286 t289 t292 t295 t298 l0_0 l0_1 l0_2 l0_3 l0_4).bind fun t337 => (some t337)) = some r := by rw [if_pos rfl] at H; exact H
    clear H
    have H := H1
    clear H1
    replace H := Option.bind_eq_some_iff.mp H
    obtain ⟨t337, A120, H⟩ := H
    replace H : (some t337) = some r := H
    have A12 := Aside0.mk A120
    clear A120
    obtain rfl := Option.some.inj H
    go_enter Try.func6, Try.ntmps6
    go_wp2_with (first | ((with_reducible refine gate_dst (N := 3) rfl ?_); refine box_event ?hg (N := 3) ?hd (cs := #[.slice A0_0 l0_0.length c0_0, .slice A0_1 l0_1.length c0_1, .slice A0_2 l0_2.length c0_2, .slice A0_3 l0_3.length c0_3, .slice A0_4 l0_4.length c0_4]) (t := 30) ?hr ?_; (case hd => rfl); (case hg => rfl); (case hr => first | (go_simp; done) | (go_simp; rfl)); intro gb283 hg w13 hbox hb; have BK283 := Aside0.mk (hbox); have GW283 := Aside0.mk ((by rw [hg]; exact (lZ (by with_reducible repeat first | exact HB.out | apply lN | apply lD)) : w.heap.size ≤ gb283)); have GE283 := Aside0.mk ((by rw [hg]; exact (lZ (by with_reducible repeat first | exact HB.out | apply lN | apply lD)) : w.heap.size ≤ gb283)); replace HB := Aside0.mk (lT HB.out hb); clear hb hbox hg) | ((with_reducible refine gate_dst (N := 4) rfl ?_); refine box_event ?hg (N := 4) ?hd (cs := #[.int .i64 a1_0, .int .i64 a1_1]) (t := 31) ?hr ?_; (case hd => rfl); (case hg => rfl); (case hr => first | (go_simp; done) | (go_simp; rfl)); intro gb284 hg w14 hbox hb; have BK284 := Aside0.mk (hbox); have GW284 := Aside0.mk ((by rw [hg]; exact (lZ (by with_reducible repeat first | exact HB.out | apply lN | apply lD | refine lS ?_ GE283.out)) : w.heap.size ≤ gb284)); have GE284 := Aside0.mk ((by rw [hg]; exact (lZ (by with_reducible repeat first | exact HB.out | apply lN | apply lD | refine lS ?_ GE283.out)) : w.heap.size ≤ gb284)); have NB283_284 := Aside0.mk ((by rw [hg]; exact Nat.ne_of_lt (blk_lt BK283.out) : gb283 ≠ gb284)); have NB284_283 := Aside0.mk ((by rw [hg]; exact Nat.ne_of_gt (blk_lt BK283.out) : gb284 ≠ gb283)); replace BK283 := Aside0.mk (bB BK283.out hb); replace HB := Aside0.mk (lT (by with_reducible repeat first | exact HB.out | refine lS ?_ GE283.out) hb); clear hb hbox hg) | ((with_reducible refine gate_callee (f := 12) rfl ?_); refine goesL_ (some 12) rfl rfl Try.func12 (by kernel_rfl) rfl #[] rfl (by (try simp only [List.map_toArray, List.map_cons, List.map_nil]); first | done | rfl | (simp only [List.length_drop, List.length_take]; rfl)) ?_; (with_reducible refine (seriflaw09_gstateAlive.calls  true _ A4.out).mono ?_); rintro e w15 ⟨rfl, hb⟩; refine ⟨_, rfl, ?_⟩; replace BK283 := Aside0.mk (bB BK283.out hb); replace BK284 := Aside0.mk (bB BK284.out hb); replace HB := Aside0.mk (lT (by with_reducible repeat first | exact HB.out | refine lS ?_ GE283.out | refine lS ?_ GE284.out) hb); (try clear hb); (try clear hb2); (try clear hk); (try clear hi); have hnb16 := NB283_284.out; have hnc16 := NB284_283.out; have hcz17_0 : w15.cell? ⟨gb283, 0, none⟩ = some (.slice A0_0 l0_0.length c0_0) := (bC BK283.out 0).trans rfl; have hcz17_1 : w15.cell? ⟨gb283, 1, none⟩ = some (.slice A0_1 l0_1.length c0_1) := (bC BK283.out 1).trans rfl; have hcz17_2 : w15.cell? ⟨gb283, 2, none⟩ = some (.slice A0_2 l0_2.length c0_2) := (bC BK283.out 2).trans rfl; have hcz17_3 : w15.cell? ⟨gb283, 3, none⟩ = some (.slice A0_3 l0_3.length c0_3) := (bC BK283.out 3).trans rfl; have hcz17_4 : w15.cell? ⟨gb283, 4, none⟩ = some (.slice A0_4 l0_4.length c0_4) := (bC BK283.out 4).trans rfl; have hfz17_0 := bF BK283.out 0; have hfz17_1 := bF BK283.out 1; have hfz17_2 := bF BK283.out 2; have hfz17_3 := bF BK283.out 3; have hfz17_4 := bF BK283.out 4) | ((with_reducible refine gate_callee (f := 16) rfl ?_); refine goesL_ (some 15) rfl rfl Try.func16 (by kernel_rfl) rfl #[.agg #[.slice A0_0 l0_0.length c0_0, .slice A0_1 l0_1.length c0_1, .slice A0_2 l0_2.length c0_2, .slice A0_3 l0_3.length c0_3, .slice A0_4 l0_4.length c0_4]] rfl (by (try simp only [List.map_toArray, List.map_cons, List.map_nil]); first | done | rfl | (simp only [List.length_drop, List.length_take]; rfl)) ?_; (with_reducible refine (serifref09_Copy.calls _ _ l0_0 _ _ l0_1 _ _ l0_2 _ _ l0_3 _ _ l0_4 t286 t289 t292 t295 t298 _ ?side1 ?side2 ?side3 ?side4 ?side5 ?side6 ?side7 ?side8 ?side9 ?side10 A6.out).mono ?_); (case side1 => repeat (first | exact (Kd.C_below HR0_0.out HB.out) | (with_reducible refine cA ?_ _) | (with_reducible refine cN ?_ _) | (with_reducible refine cD ?_))); (case side2 => exact HC0_0.out); (case side3 => repeat (first | exact (Kd.C_below HR0_1.out HB.out) | (with_reducible refine cA ?_ _) | (with_reducible refine cN ?_ _) | (with_reducible refine cD ?_))); (case side4 => exact HC0_1.out); (case side5 => repeat (first | exact (Kd.C_below HR0_2.out HB.out) | (with_reducible refine cA ?_ _) | (with_reducible refine cN ?_ _) | (with_reducible refine cD ?_))); (case side6 => exact HC0_2.out); (case side7 => repeat (first | exact (Kd.C_below HR0_3.out HB.out) | (with_reducible refine cA ?_ _) | (with_reducible refine cN ?_ _) | (with_reducible refine cD ?_))); (case side8 => exact HC0_3.out); (case side9 => repeat (first | exact (Kd.C_below HR0_4.out HB.out) | (with_reducible refine cA ?_ _) | (with_reducible refine cN ?_ _) | (with_reducible refine cD ?_))); (case side10 => exact HC0_4.out); rintro e w18 ⟨v287, v290, v293, v296, v299, rfl, ho0, ho1, ho2, ho3, ho4, hb⟩; refine ⟨_, rfl, ?_⟩; have HO288 := Aside0.mk (Kd.R_lower ho0 (lZ (by with_reducible repeat first | exact HB.out | apply lN | apply lD | refine lS ?_ GE283.out | refine lS ?_ GE284.out))); have HO291 := Aside0.mk (Kd.R_lower ho1 (lZ (by with_reducible repeat first | exact HB.out | apply lN | apply lD | refine lS ?_ GE283.out | refine lS ?_ GE284.out))); have HO294 := Aside0.mk (Kd.R_lower ho2 (lZ (by with_reducible repeat first | exact HB.out | apply lN | apply lD | refine lS ?_ GE283.out | refine lS ?_ GE284.out))); have HO297 := Aside0.mk (Kd.R_lower ho3 (lZ (by with_reducible repeat first | exact HB.out | apply lN | apply lD | refine lS ?_ GE283.out | refine lS ?_ GE284.out))); have HO300 := Aside0.mk (Kd.R_lower ho4 (lZ (by with_reducible repeat first | exact HB.out | apply lN | apply lD | refine lS ?_ GE283.out | refine lS ?_ GE284.out))); replace BK283 := Aside0.mk (bB BK283.out hb); replace BK284 := Aside0.mk (bB BK284.out hb); replace HB := Aside0.mk (lT (by with_reducible repeat first | exact HB.out | refine lS ?_ GE283.out | refine lS ?_ GE284.out) hb); (try clear hb); (try clear hb2); (try clear hk); (try clear hi); (try clear ho0); (try clear ho1); (try clear ho2); (try clear ho3); (try clear ho4)) | ((with_reducible refine gate_dst (N := 7) rfl ?_); refine box_event ?hg (N := 7) ?hd (cs := #[.slice none 0 0, .slice none 0 0, .slice none 0 0, .slice none 0 0, .slice none 0 0]) (t := 30) ?hr ?_; (case hd => rfl); (case hg => rfl); (case hr => first | (go_simp; done) | (go_simp; rfl)); intro gb301 hg w19 hbox hb; have BK301 := Aside0.mk (hbox); have GW301 := Aside0.mk ((by rw [hg]; exact (lZ (by with_reducible repeat first | exact HB.out | apply lN | apply lD | refine lS ?_ GE283.out | refine lS ?_ GE284.out)) : w.heap.size ≤ gb301)); have GE301 := Aside0.mk ((by rw [hg]; exact (lZ (by with_reducible repeat first | exact HB.out | apply lN | apply lD | refine lS ?_ GE283.out | refine lS ?_ GE284.out)) : w.heap.size ≤ gb301)); have NB283_301 := Aside0.mk ((by rw [hg]; exact Nat.ne_of_lt (blk_lt BK283.out) : gb283 ≠ gb301)); have NB301_283 := Aside0.mk ((by rw [hg]; exact Nat.ne_of_gt (blk_lt BK283.out) : gb301 ≠ gb283)); have NB284_301 := Aside0.mk ((by rw [hg]; exact Nat.ne_of_lt (blk_lt BK284.out) : gb284 ≠ gb301)); have NB301_284 := Aside0.mk ((by rw [hg]; exact Nat.ne_of_gt (blk_lt BK284.out) : gb301 ≠ gb284)); replace HO288 := Aside0.mk (rB HO288.out hb); replace HO291 := Aside0.mk (rB HO291.out hb); replace HO294 := Aside0.mk (rB HO294.out hb); replace HO297 := Aside0.mk (rB HO297.out hb); replace HO300 := Aside0.mk (rB HO300.out hb); replace BK283 := Aside0.mk (bB BK283.out hb); replace BK284 := Aside0.mk (bB BK284.out hb); replace HB := Aside0.mk (lT (by with_reducible repeat first | exact HB.out | refine lS ?_ GE283.out | refine lS ?_ GE284.out) hb); clear hb hbox hg; obtain ⟨Ao20, co20, eo20⟩ := Kd.R_slice HO288.out; subst eo20; have hnb21 := NB301_283.out; have hnc21 := NB283_301.out; have hnb22 := NB301_284.out; have hnc22 := NB284_301.out; have hcz23_0 : w19.cell? ⟨gb301, 0, none⟩ = some (.slice none 0 0) := (bC BK301.out 0).trans rfl; have hcz23_1 : w19.cell? ⟨gb301, 1, none⟩ = some (.slice none 0 0) := (bC BK301.out 1).trans rfl; have hcz23_2 : w19.cell? ⟨gb301, 2, none⟩ = some (.slice none 0 0) := (bC BK301.out 2).trans rfl; have hcz23_3 : w19.cell? ⟨gb301, 3, none⟩ = some (.slice none 0 0) := (bC BK301.out 3).trans rfl; have hcz23_4 : w19.cell? ⟨gb301, 4, none⟩ = some (.slice none 0 0) := (bC BK301.out 4).trans rfl; have hfz23_0 := bF BK301.out 0; have hfz23_1 := bF BK301.out 1; have hfz23_2 := bF BK301.out 2; have hfz23_3 := bF BK301.out 3; have hfz23_4 := bF BK301.out 4; obtain ⟨Ao24, co24, eo24⟩ := Kd.R_slice HO291.out; subst eo24; obtain ⟨Ao25, co25, eo25⟩ := Kd.R_slice HO294.out; subst eo25; obtain ⟨Ao26, co26, eo26⟩ := Kd.R_slice HO297.out; subst eo26; obtain ⟨Ao27, co27, eo27⟩ := Kd.R_slice HO300.out; subst eo27; have hcz28_0 : w19.cell? ⟨gb283, 0, none⟩ = some (.slice A0_0 l0_0.length c0_0) := (bC BK283.out 0).trans rfl; have hcz28_1 : w19.cell? ⟨gb283, 1, none⟩ = some (.slice A0_1 l0_1.length c0_1) := (bC BK283.out 1).trans rfl; have hcz28_2 : w19.cell? ⟨gb283, 2, none⟩ = some (.slice A0_2 l0_2.length c0_2) := (bC BK283.out 2).trans rfl; have hcz28_3 : w19.cell? ⟨gb283, 3, none⟩ = some (.slice A0_3 l0_3.length c0_3) := (bC BK283.out 3).trans rfl; have hcz28_4 : w19.cell? ⟨gb283, 4, none⟩ = some (.slice A0_4 l0_4.length c0_4) := (bC BK283.out 4).trans rfl; have hfz28_0 := bF BK283.out 0; have hfz28_1 := bF BK283.out 1; have hfz28_2 := bF BK283.out 2; have hfz28_3 := bF BK283.out 3; have hfz28_4 := bF BK283.out 4; have hcz29_0 : w19.cell? ⟨gb284, 0, none⟩ = some (.int .i64 a1_0) := (bC BK284.out 0).trans rfl; have hcz29_1 : w19.cell? ⟨gb284, 1, none⟩ = some (.int .i64 a1_1) := (bC BK284.out 1).trans rfl; have hfz29_0 := bF BK284.out 0; have hfz29_1 := bF BK284.out 1) | ((with_reducible refine gate_callee (f := 17) rfl ?_); refine goesL_ (some 23) rfl rfl Try.func17 (by kernel_rfl) rfl #[.agg #[.slice A0_0 l0_0.length c0_0, .slice A0_1 l0_1.length c0_1, .slice A0_2 l0_2.length c0_2, .slice A0_3 l0_3.length c0_3, .slice A0_4 l0_4.length c0_4], .int .i64 a1_0, .int .i64 a1_1, .int .i64 a2] rfl (by (try simp only [List.map_toArray, List.map_cons, List.map_nil]); first | done | rfl | (simp only [List.length_drop, List.length_take]; rfl)) ?_; (with_reducible refine (serifref09_Put.calls k _ _ l0_0 _ _ l0_1 _ _ l0_2 _ _ l0_3 _ _ l0_4 a1_0 a1_1 a2 t302 t305 t308 t311 t314 t317 _ ?side1 ?side2 ?side3 ?side4 ?side5 ?side6 ?side7 ?side8 ?side9 ?side10 A7.out).mono ?_); (case side1 => exact Kd.C_below HR0_0.out (by with_reducible repeat first | exact HB.out | apply lN | apply lD | refine lS ?_ GE283.out | refine lS ?_ GE284.out | refine lS ?_ GE301.out)); (case side2 => exact HC0_0.out); (case side3 => exact Kd.C_below HR0_1.out (by with_reducible repeat first | exact HB.out | apply lN | apply lD | refine lS ?_ GE283.out | refine lS ?_ GE284.out | refine lS ?_ GE301.out)); (case side4 => exact HC0_1.out); (case side5 => exact Kd.C_below HR0_2.out (by with_reducible repeat first | exact HB.out | apply lN | apply lD | refine lS ?_ GE283.out | refine lS ?_ GE284.out | refine lS ?_ GE301.out)); (case side6 => exact HC0_2.out); (case side7 => exact Kd.C_below HR0_3.out (by with_reducible repeat first | exact HB.out | apply lN | apply lD | refine lS ?_ GE283.out | refine lS ?_ GE284.out | refine lS ?_ GE301.out)); (case side8 => exact HC0_3.out); (case side9 => exact Kd.C_below HR0_4.out (by with_reducible repeat first | exact HB.out | apply lN | apply lD | refine lS ?_ GE283.out | refine lS ?_ GE284.out | refine lS ?_ GE301.out)); (case side10 => exact HC0_4.out); rintro e w30 ⟨v303, v306, v309, v312, v315, rfl, ho0, ho1, ho2, ho3, ho4, hb⟩; refine ⟨_, rfl, ?_⟩; have HO304 := Aside0.mk (Kd.R_lower (Kd.R_new' (Kd.R_new' ho0 (Kd.R_lt (st5 HO288.out BK301.out (by decide)))) (Kd.R_lt (st5 HO291.out BK301.out (by decide)))) (lZ (by with_reducible repeat first | exact HB.out | apply lN | apply lD | refine lS ?_ GE283.out | refine lS ?_ GE284.out | refine lS ?_ GE301.out))); have HO307 := Aside0.mk (Kd.R_lower (Kd.R_new' (Kd.R_new' ho1 (Kd.R_lt (st5 HO288.out BK301.out (by decide)))) (Kd.R_lt (st5 HO291.out BK301.out (by decide)))) (lZ (by with_reducible repeat first | exact HB.out | apply lN | apply lD | refine lS ?_ GE283.out | refine lS ?_ GE284.out | refine lS ?_ GE301.out))); have HO310 := Aside0.mk (Kd.R_lower (Kd.R_new' (Kd.R_new' ho2 (Kd.R_lt (st5 HO294.out BK301.out (by decide)))) (Kd.R_lt (st5 HO297.out BK301.out (by decide)))) (lZ (by with_reducible repeat first | exact HB.out | apply lN | apply lD | refine lS ?_ GE283.out | refine lS ?_ GE284.out | refine lS ?_ GE301.out))); have HO313 := Aside0.mk (Kd.R_lower (Kd.R_new' (Kd.R_new' ho3 (Kd.R_lt (st5 HO294.out BK301.out (by decide)))) (Kd.R_lt (st5 HO297.out BK301.out (by decide)))) (lZ (by with_reducible repeat first | exact HB.out | apply lN | apply lD | refine lS ?_ GE283.out | refine lS ?_ GE284.out | refine lS ?_ GE301.out))); have HO316 := Aside0.mk (Kd.R_lower (Kd.R_new' ho4 (Kd.R_lt (st5 HO300.out BK301.out (by decide)))) (lZ (by with_reducible repeat first | exact HB.out | apply lN | apply lD | refine lS ?_ GE283.out | refine lS ?_ GE284.out | refine lS ?_ GE301.out))); replace HO288 := Aside0.mk (rM (Kd.R_told (Kd.R_told (Kd.R_old (st5 HO288.out BK301.out (by decide)) hb) (Kd.R_base ho0)) (Kd.R_base ho1)) (fun _ h_ => h_.1)); replace HO291 := Aside0.mk (rM (Kd.R_told (Kd.R_told (Kd.R_old (st5 HO291.out BK301.out (by decide)) hb) (Kd.R_base ho0)) (Kd.R_base ho1)) (fun _ h_ => h_.1)); replace HO294 := Aside0.mk (rM (Kd.R_told (Kd.R_told (Kd.R_old (st5 HO294.out BK301.out (by decide)) hb) (Kd.R_base ho2)) (Kd.R_base ho3)) (fun _ h_ => h_.1)); replace HO297 := Aside0.mk (rM (Kd.R_told (Kd.R_told (Kd.R_old (st5 HO297.out BK301.out (by decide)) hb) (Kd.R_base ho2)) (Kd.R_base ho3)) (fun _ h_ => h_.1)); replace HO300 := Aside0.mk (Kd.R_elder' (st5 HO300.out BK301.out (by decide)) (Kd.R_base ho4) hb); replace BK283 := Aside0.mk (bB (g := gb283) (o := .cells #[.slice A0_0 l0_0.length c0_0, .slice A0_1 l0_1.length c0_1, .slice A0_2 l0_2.length c0_2, .slice A0_3 l0_3.length c0_3, .slice A0_4 l0_4.length c0_4] 30 (0, 0)) (by (with_reducible repeat (first | refine bN ?_ _ | refine bD ?_ | refine bA ?_ _)); refine bR ?_ NB283_301.out _; (with_reducible repeat (first | refine bN ?_ _ | refine bD ?_ | refine bA ?_ _)); refine bR ?_ NB283_301.out _; (with_reducible repeat (first | refine bN ?_ _ | refine bD ?_ | refine bA ?_ _)); refine bR ?_ NB283_301.out _; (with_reducible repeat (first | refine bN ?_ _ | refine bD ?_ | refine bA ?_ _)); refine bR ?_ NB283_301.out _; (with_reducible repeat (first | refine bN ?_ _ | refine bD ?_ | refine bA ?_ _)); refine bR ?_ NB283_301.out _; (with_reducible repeat (first | refine bN ?_ _ | refine bD ?_ | refine bA ?_ _)); exact BK283.out) hb); replace BK284 := Aside0.mk (bB (g := gb284) (o := .cells #[.int .i64 a1_0, .int .i64 a1_1] 31 (0, 0)) (by (with_reducible repeat (first | refine bN ?_ _ | refine bD ?_ | refine bA ?_ _)); refine bR ?_ NB284_301.out _; (with_reducible repeat (first | refine bN ?_ _ | refine bD ?_ | refine bA ?_ _)); refine bR ?_ NB284_301.out _; (with_reducible repeat (first | refine bN ?_ _ | refine bD ?_ | refine bA ?_ _)); refine bR ?_ NB284_301.out _; (with_reducible repeat (first | refine bN ?_ _ | refine bD ?_ | refine bA ?_ _)); refine bR ?_ NB284_301.out _; (with_reducible repeat (first | refine bN ?_ _ | refine bD ?_ | refine bA ?_ _)); refine bR ?_ NB284_301.out _; (with_reducible repeat (first | refine bN ?_ _ | refine bD ?_ | refine bA ?_ _)); exact BK284.out) hb); replace BK301 := Aside0.mk (bB (g := gb301) (o := .cells #[.slice Ao20 t286.length co20, .slice Ao24 t289.length co24, .slice Ao25 t292.length co25, .slice Ao26 t295.length co26, .slice Ao27 t298.length co27] 30 (0, 0)) (by (with_reducible repeat (first | refine bN ?_ _ | refine bD ?_ | refine bA ?_ _)); refine bP (cs := #[.slice Ao20 t286.length co20, .slice Ao24 t289.length co24, .slice Ao25 t292.length co25, .slice Ao26 t295.length co26, .slice none 0 0]) ?_ 4 _ rfl; (with_reducible repeat (first | refine bN ?_ _ | refine bD ?_ | refine bA ?_ _)); refine bP (cs := #[.slice Ao20 t286.length co20, .slice Ao24 t289.length co24, .slice Ao25 t292.length co25, .slice none 0 0, .slice none 0 0]) ?_ 3 _ rfl; (with_reducible repeat (first | refine bN ?_ _ | refine bD ?_ | refine bA ?_ _)); refine bP (cs := #[.slice Ao20 t286.length co20, .slice Ao24 t289.length co24, .slice none 0 0, .slice none 0 0, .slice none 0 0]) ?_ 2 _ rfl; (with_reducible repeat (first | refine bN ?_ _ | refine bD ?_ | refine bA ?_ _)); refine bP (cs := #[.slice Ao20 t286.length co20, .slice none 0 0, .slice none 0 0, .slice none 0 0, .slice none 0 0]) ?_ 1 _ rfl; (with_reducible repeat (first | refine bN ?_ _ | refine bD ?_ | refine bA ?_ _)); refine bP (cs := #[.slice none 0 0, .slice none 0 0, .slice none 0 0, .slice none 0 0, .slice none 0 0]) ?_ 0 _ rfl; (with_reducible repeat (first | refine bN ?_ _ | refine bD ?_ | refine bA ?_ _)); exact BK301.out) hb); replace HB := Aside0.mk (lT (by with_reducible repeat first | exact HB.out | refine lS ?_ GE283.out | refine lS ?_ GE284.out | refine lS ?_ GE301.out) hb); (try clear hb); (try clear hb2); (try clear hk); (try clear hi); (try clear ho0); (try clear ho1); (try clear ho2); (try clear ho3); (try clear ho4)) | ((with_reducible refine gate_dst (N := 8) rfl ?_); refine box_event ?hg (N := 8) ?hd (cs := #[.slice none 0 0, .slice none 0 0, .slice none 0 0, .slice none 0 0, .slice none 0 0]) (t := 30) ?hr ?_; (case hd => rfl); (case hg => rfl); (case hr => first | (go_simp; done) | (go_simp; rfl)); intro gb318 hg w31 hbox hb; have BK318 := Aside0.mk (hbox); have GW318 := Aside0.mk ((by rw [hg]; exact (lZ (by with_reducible repeat first | exact HB.out | apply lN | apply lD | refine lS ?_ GE283.out | refine lS ?_ GE284.out | refine lS ?_ GE301.out)) : w.heap.size ≤ gb318)); have GE318 := Aside0.mk ((by rw [hg]; exact (lZ (by with_reducible repeat first | exact HB.out | apply lN | apply lD | refine lS ?_ GE283.out | refine lS ?_ GE284.out | refine lS ?_ GE301.out)) : w.heap.size ≤ gb318)); have NB283_318 := Aside0.mk ((by rw [hg]; exact Nat.ne_of_lt (blk_lt BK283.out) : gb283 ≠ gb318)); have NB318_283 := Aside0.mk ((by rw [hg]; exact Nat.ne_of_gt (blk_lt BK283.out) : gb318 ≠ gb283)); have NB284_318 := Aside0.mk ((by rw [hg]; exact Nat.ne_of_lt (blk_lt BK284.out) : gb284 ≠ gb318)); have NB318_284 := Aside0.mk ((by rw [hg]; exact Nat.ne_of_gt (blk_lt BK284.out) : gb318 ≠ gb284)); have NB301_318 := Aside0.mk ((by rw [hg]; exact Nat.ne_of_lt (blk_lt BK301.out) : gb301 ≠ gb318)); have NB318_301 := Aside0.mk ((by rw [hg]; exact Nat.ne_of_gt (blk_lt BK301.out) : gb318 ≠ gb301)); replace HO288 := Aside0.mk (rB HO288.out hb); replace HO291 := Aside0.mk (rB HO291.out hb); replace HO294 := Aside0.mk (rB HO294.out hb); replace HO297 := Aside0.mk (rB HO297.out hb); replace HO300 := Aside0.mk (rB HO300.out hb); replace HO304 := Aside0.mk (rB HO304.out hb); replace HO307 := Aside0.mk (rB HO307.out hb); replace HO310 := Aside0.mk (rB HO310.out hb); replace HO313 := Aside0.mk (rB HO313.out hb); replace HO316 := Aside0.mk (rB HO316.out hb); replace BK283 := Aside0.mk (bB BK283.out hb); replace BK284 := Aside0.mk (bB BK284.out hb); replace BK301 := Aside0.mk (bB BK301.out hb); replace HB := Aside0.mk (lT (by with_reducible repeat first | exact HB.out | refine lS ?_ GE283.out | refine lS ?_ GE284.out | refine lS ?_ GE301.out) hb); clear hb hbox hg; obtain ⟨Ao32, co32, eo32⟩ := Kd.R_slice HO304.out; subst eo32; have hnb33 := NB318_283.out; have hnc33 := NB283_318.out; have hnb34 := NB318_284.out; have hnc34 := NB284_318.out; have hnb35 := NB318_301.out; have hnc35 := NB301_318.out; have hcz36_0 : w31.cell? ⟨gb318, 0, none⟩ = some (.slice none 0 0) := (bC BK318.out 0).trans rfl; have hcz36_1 : w31.cell? ⟨gb318, 1, none⟩ = some (.slice none 0 0) := (bC BK318.out 1).trans rfl; have hcz36_2 : w31.cell? ⟨gb318, 2, none⟩ = some (.slice none 0 0) := (bC BK318.out 2).trans rfl; have hcz36_3 : w31.cell? ⟨gb318, 3, none⟩ = some (.slice none 0 0) := (bC BK318.out 3).trans rfl; have hcz36_4 : w31.cell? ⟨gb318, 4, none⟩ = some (.slice none 0 0) := (bC BK318.out 4).trans rfl; have hfz36_0 := bF BK318.out 0; have hfz36_1 := bF BK318.out 1; have hfz36_2 := bF BK318.out 2; have hfz36_3 := bF BK318.out 3; have hfz36_4 := bF BK318.out 4; obtain ⟨Ao37, co37, eo37⟩ := Kd.R_slice HO307.out; subst eo37; obtain ⟨Ao38, co38, eo38⟩ := Kd.R_slice HO310.out; subst eo38; obtain ⟨Ao39, co39, eo39⟩ := Kd.R_slice HO313.out; subst eo39; obtain ⟨Ao40, co40, eo40⟩ := Kd.R_slice HO316.out; subst eo40; have hcz41_0 : w31.cell? ⟨gb301, 0, none⟩ = some (.slice Ao20 t286.length co20) := (bC BK301.out 0).trans rfl; have hcz41_1 : w31.cell? ⟨gb301, 1, none⟩ = some (.slice Ao24 t289.length co24) := (bC BK301.out 1).trans rfl; have hcz41_2 : w31.cell? ⟨gb301, 2, none⟩ = some (.slice Ao25 t292.length co25) := (bC BK301.out 2).trans rfl; have hcz41_3 : w31.cell? ⟨gb301, 3, none⟩ = some (.slice Ao26 t295.length co26) := (bC BK301.out 3).trans rfl; have hcz41_4 : w31.cell? ⟨gb301, 4, none⟩ = some (.slice Ao27 t298.length co27) := (bC BK301.out 4).trans rfl; have hfz41_0 := bF BK301.out 0; have hfz41_1 := bF BK301.out 1; have hfz41_2 := bF BK301.out 2; have hfz41_3 := bF BK301.out 3; have hfz41_4 := bF BK301.out 4; have hcz42_0 : w31.cell? ⟨gb284, 0, none⟩ = some (.int .i64 a1_0) := (bC BK284.out 0).trans rfl; have hcz42_1 : w31.cell? ⟨gb284, 1, none⟩ = some (.int .i64 a1_1) := (bC BK284.out 1).trans rfl; have hfz42_0 := bF BK284.out 0; have hfz42_1 := bF BK284.out 1) | ((with_reducible refine gate_callee (f := 18) rfl ?_); refine goesL_ (some 33) rfl rfl Try.func18 (by kernel_rfl) rfl #[.agg #[.slice Ao20 t286.length co20, .slice Ao24 t289.length co24, .slice Ao25 t292.length co25, .slice Ao26 t295.length co26, .slice Ao27 t298.length co27], .int .i64 a1_0, .int .i64 a1_1, .int .i64 a2] rfl (by (try simp only [List.map_toArray, List.map_cons, List.map_nil]); first | done | rfl | (simp only [List.length_drop, List.length_take]; rfl)) ?_; (with_reducible refine (gstate_Put.calls k _ _ t286 _ _ t289 _ _ t292 _ _ t295 _ _ t298 a1_0 a1_1 a2 t319 t322 t325 t328 t331 t334 _ ?side1 ?side2 ?side3 ?side4 ?side5 ?side6 ?side7 ?side8 ?side9 ?side10 A8.out).mono ?_); (case side1 => refine (rR (e := 43) (base := w.heap.size) (ok := fun k_ => ((some k_ ≠ (.slice Ao24 t289.length co24 : Value).ownBlock ∧ some k_ ≠ (.slice Ao32 t302.length co32 : Value).ownBlock) ∧ some k_ ≠ (.slice Ao37 t305.length co37 : Value).ownBlock)) (n := t286.length) (c := co20) ?_).2.2; exact (st5 HO288.out BK318.out (by decide))); (case side2 => exact (rR HO288.out).2.1); (case side3 => refine (rR (e := 43) (base := w.heap.size) (ok := fun k_ => ((some k_ ≠ (.slice Ao20 t286.length co20 : Value).ownBlock ∧ some k_ ≠ (.slice Ao32 t302.length co32 : Value).ownBlock) ∧ some k_ ≠ (.slice Ao37 t305.length co37 : Value).ownBlock)) (n := t289.length) (c := co24) ?_).2.2; exact (st5 HO291.out BK318.out (by decide))); (case side4 => exact (rR HO291.out).2.1); (case side5 => refine (rR (e := 4) (base := w.heap.size) (ok := fun k_ => ((some k_ ≠ (.slice Ao26 t295.length co26 : Value).ownBlock ∧ some k_ ≠ (.slice Ao38 t308.length co38 : Value).ownBlock) ∧ some k_ ≠ (.slice Ao39 t311.length co39 : Value).ownBlock)) (n := t292.length) (c := co25) ?_).2.2; exact (st5 HO294.out BK318.out (by decide))); (case side6 => exact (rR HO294.out).2.1); (case side7 => refine (rR (e := 4) (base := w.heap.size) (ok := fun k_ => ((some k_ ≠ (.slice Ao25 t292.length co25 : Value).ownBlock ∧ some k_ ≠ (.slice Ao38 t308.length co38 : Value).ownBlock) ∧ some k_ ≠ (.slice Ao39 t311.length co39 : Value).ownBlock)) (n := t295.length) (c := co26) ?_).2.2; exact (st5 HO297.out BK318.out (by decide))); (case side8 => exact (rR HO297.out).2.1); (case side9 => refine (rR (e := 3) (base := w.heap.size) (ok := fun k_ => (True ∧ some k_ ≠ (.slice Ao40 t314.length co40 : Value).ownBlock)) (n := t298.length) (c := co27) ?_).2.2; exact (st5 HO300.out BK318.out (by decide))); (case side10 => exact (rR HO300.out).2.1); rintro e w43 ⟨v320, v323, v326, v329, v332, rfl, ho0, ho1, ho2, ho3, ho4, hb⟩; refine ⟨_, rfl, ?_⟩; have HO321 := Aside0.mk (Kd.R_lower (Kd.R_new' (Kd.R_new' (Kd.R_new' (Kd.R_new' ho0 (Kd.R_lt (st5 HO288.out BK318.out (by decide)))) (Kd.R_lt (st5 HO291.out BK318.out (by decide)))) (Kd.R_lt (st5 HO304.out BK318.out (by decide)))) (Kd.R_lt (st5 HO307.out BK318.out (by decide)))) (lZ (by with_reducible repeat first | exact HB.out | apply lN | apply lD | refine lS ?_ GE283.out | refine lS ?_ GE284.out | refine lS ?_ GE301.out | refine lS ?_ GE318.out))); have HO324 := Aside0.mk (Kd.R_lower (Kd.R_new' (Kd.R_new' (Kd.R_new' (Kd.R_new' ho1 (Kd.R_lt (st5 HO288.out BK318.out (by decide)))) (Kd.R_lt (st5 HO291.out BK318.out (by decide)))) (Kd.R_lt (st5 HO304.out BK318.out (by decide)))) (Kd.R_lt (st5 HO307.out BK318.out (by decide)))) (lZ (by with_reducible repeat first | exact HB.out | apply lN | apply lD | refine lS ?_ GE283.out | refine lS ?_ GE284.out | refine lS ?_ GE301.out | refine lS ?_ GE318.out))); have HO327 := Aside0.mk (Kd.R_lower (Kd.R_new' (Kd.R_new' (Kd.R_new' (Kd.R_new' ho2 (Kd.R_lt (st5 HO294.out BK318.out (by decide)))) (Kd.R_lt (st5 HO297.out BK318.out (by decide)))) (Kd.R_lt (st5 HO310.out BK318.out (by decide)))) (Kd.R_lt (st5 HO313.out BK318.out (by decide)))) (lZ (by with_reducible repeat first | exact HB.out | apply lN | apply lD | refine lS ?_ GE283.out | refine lS ?_ GE284.out | refine lS ?_ GE301.out | refine lS ?_ GE318.out))); have HO330 := Aside0.mk (Kd.R_lower (Kd.R_new' (Kd.R_new' (Kd.R_new' (Kd.R_new' ho3 (Kd.R_lt (st5 HO294.out BK318.out (by decide)))) (Kd.R_lt (st5 HO297.out BK318.out (by decide)))) (Kd.R_lt (st5 HO310.out BK318.out (by decide)))) (Kd.R_lt (st5 HO313.out BK318.out (by decide)))) (lZ (by with_reducible repeat first | exact HB.out | apply lN | apply lD | refine lS ?_ GE283.out | refine lS ?_ GE284.out | refine lS ?_ GE301.out | refine lS ?_ GE318.out))); have HO333 := Aside0.mk (Kd.R_lower (Kd.R_new' (Kd.R_new' ho4 (Kd.R_lt (st5 HO300.out BK318.out (by decide)))) (Kd.R_lt (st5 HO316.out BK318.out (by decide)))) (lZ (by with_reducible repeat first | exact HB.out | apply lN | apply lD | refine lS ?_ GE283.out | refine lS ?_ GE284.out | refine lS ?_ GE301.out | refine lS ?_ GE318.out))); replace HO288 := Aside0.mk (rM (Kd.R_told (Kd.R_told (Kd.R_old (st5 HO288.out BK318.out (by decide)) hb) (Kd.R_base ho0)) (Kd.R_base ho1)) (fun _ h_ => h_.1)); replace HO291 := Aside0.mk (rM (Kd.R_told (Kd.R_told (Kd.R_old (st5 HO291.out BK318.out (by decide)) hb) (Kd.R_base ho0)) (Kd.R_base ho1)) (fun _ h_ => h_.1)); replace HO294 := Aside0.mk (rM (Kd.R_told (Kd.R_told (Kd.R_old (st5 HO294.out BK318.out (by decide)) hb) (Kd.R_base ho2)) (Kd.R_base ho3)) (fun _ h_ => h_.1)); replace HO297 := Aside0.mk (rM (Kd.R_told (Kd.R_told (Kd.R_old (st5 HO297.out BK318.out (by decide)) hb) (Kd.R_base ho2)) (Kd.R_base ho3)) (fun _ h_ => h_.1)); replace HO300 := Aside0.mk (Kd.R_elder' (st5 HO300.out BK318.out (by decide)) (Kd.R_base ho4) hb); replace HO304 := Aside0.mk (rM (Kd.R_told (Kd.R_told (Kd.R_old (st5 HO304.out BK318.out (by decide)) hb) (Kd.R_base ho0)) (Kd.R_base ho1)) (fun _ h_ => h_.1)); replace HO307 := Aside0.mk (rM (Kd.R_told (Kd.R_told (Kd.R_old (st5 HO307.out BK318.out (by decide)) hb) (Kd.R_base ho0)) (Kd.R_base ho1)) (fun _ h_ => h_.1)); replace HO310 := Aside0.mk (rM (Kd.R_told (Kd.R_told (Kd.R_old (st5 HO310.out BK318.out (by decide)) hb) (Kd.R_base ho2)) (Kd.R_base ho3)) (fun _ h_ => h_.1)); replace HO313 := Aside0.mk (rM (Kd.R_told (Kd.R_told (Kd.R_old (st5 HO313.out BK318.out (by decide)) hb) (Kd.R_base ho2)) (Kd.R_base ho3)) (fun _ h_ => h_.1)); replace HO316 := Aside0.mk (Kd.R_elder' (st5 HO316.out BK318.out (by decide)) (Kd.R_base ho4) hb); replace BK283 := Aside0.mk (bB (g := gb283) (o := .cells #[.slice A0_0 l0_0.length c0_0, .slice A0_1 l0_1.length c0_1, .slice A0_2 l0_2.length c0_2, .slice A0_3 l0_3.length c0_3, .slice A0_4 l0_4.length c0_4] 30 (0, 0)) (by (with_reducible repeat (first | refine bN ?_ _ | refine bD ?_ | refine bA ?_ _)); refine bR ?_ NB283_318.out _; (with_reducible repeat (first | refine bN ?_ _ | refine bD ?_ | refine bA ?_ _)); refine bR ?_ NB283_318.out _; (with_reducible repeat (first | refine bN ?_ _ | refine bD ?_ | refine bA ?_ _)); refine bR ?_ NB283_318.out _; (with_reducible repeat (first | refine bN ?_ _ | refine bD ?_ | refine bA ?_ _)); refine bR ?_ NB283_318.out _; (with_reducible repeat (first | refine bN ?_ _ | refine bD ?_ | refine bA ?_ _)); refine bR ?_ NB283_318.out _; (with_reducible repeat (first | refine bN ?_ _ | refine bD ?_ | refine bA ?_ _)); exact BK283.out) hb); replace BK284 := Aside0.mk (bB (g := gb284) (o := .cells #[.int .i64 a1_0, .int .i64 a1_1] 31 (0, 0)) (by (with_reducible repeat (first | refine bN ?_ _ | refine bD ?_ | refine bA ?_ _)); refine bR ?_ NB284_318.out _; (with_reducible repeat (first | refine bN ?_ _ | refine bD ?_ | refine bA ?_ _)); refine bR ?_ NB284_318.out _; (with_reducible repeat (first | refine bN ?_ _ | refine bD ?_ | refine bA ?_ _)); refine bR ?_ NB284_318.out _; (with_reducible repeat (first | refine bN ?_ _ | refine bD ?_ | refine bA ?_ _)); refine bR ?_ NB284_318.out _; (with_reducible repeat (first | refine bN ?_ _ | refine bD ?_ | refine bA ?_ _)); refine bR ?_ NB284_318.out _; (with_reducible repeat (first | refine bN ?_ _ | refine bD ?_ | refine bA ?_ _)); exact BK284.out) hb); replace BK301 := Aside0.mk (bB (g := gb301) (o := .cells #[.slice Ao20 t286.length co20, .slice Ao24 t289.length co24, .slice Ao25 t292.length co25, .slice Ao26 t295.length co26, .slice Ao27 t298.length co27] 30 (0, 0)) (by (with_reducible repeat (first | refine bN ?_ _ | refine bD ?_ | refine bA ?_ _)); refine bR ?_ NB301_318.out _; (with_reducible repeat (first | refine bN ?_ _ | refine bD ?_ | refine bA ?_ _)); refine bR ?_ NB301_318.out _; (with_reducible repeat (first | refine bN ?_ _ | refine bD ?_ | refine bA ?_ _)); refine bR ?_ NB301_318.out _; (with_reducible repeat (first | refine bN ?_ _ | refine bD ?_ | refine bA ?_ _)); refine bR ?_ NB301_318.out _; (with_reducible repeat (first | refine bN ?_ _ | refine bD ?_ | refine bA ?_ _)); refine bR ?_ NB301_318.out _; (with_reducible repeat (first | refine bN ?_ _ | refine bD ?_ | refine bA ?_ _)); exact BK301.out) hb); replace BK318 := Aside0.mk (bB (g := gb318) (o := .cells #[.slice Ao32 t302.length co32, .slice Ao37 t305.length co37, .slice Ao38 t308.length co38, .slice Ao39 t311.length co39, .slice Ao40 t314.length co40] 30 (0, 0)) (by (with_reducible repeat (first | refine bN ?_ _ | refine bD ?_ | refine bA ?_ _)); refine bP (cs := #[.slice Ao32 t302.length co32, .slice Ao37 t305.length co37, .slice Ao38 t308.length co38, .slice Ao39 t311.length co39, .slice none 0 0]) ?_ 4 _ rfl; (with_reducible repeat (first | refine bN ?_ _ | refine bD ?_ | refine bA ?_ _)); refine bP (cs := #[.slice Ao32 t302.length co32, .slice Ao37 t305.length co37, .slice Ao38 t308.length co38, .slice none 0 0, .slice none 0 0]) ?_ 3 _ rfl; (with_reducible repeat (first | refine bN ?_ _ | refine bD ?_ | refine bA ?_ _)); refine bP (cs := #[.slice Ao32 t302.length co32, .slice Ao37 t305.length co37, .slice none 0 0, .slice none 0 0, .slice none 0 0]) ?_ 2 _ rfl; (with_reducible repeat (first | refine bN ?_ _ | refine bD ?_ | refine bA ?_ _)); refine bP (cs := #[.slice Ao32 t302.length co32, .slice none 0 0, .slice none 0 0, .slice none 0 0, .slice none 0 0]) ?_ 1 _ rfl; (with_reducible repeat (first | refine bN ?_ _ | refine bD ?_ | refine bA ?_ _)); refine bP (cs := #[.slice none 0 0, .slice none 0 0, .slice none 0 0, .slice none 0 0, .slice none 0 0]) ?_ 0 _ rfl; (with_reducible repeat (first | refine bN ?_ _ | refine bD ?_ | refine bA ?_ _)); exact BK318.out) hb); replace HB := Aside0.mk (lT (by with_reducible repeat first | exact HB.out | refine lS ?_ GE283.out | refine lS ?_ GE284.out | refine lS ?_ GE301.out | refine lS ?_ GE318.out) hb); (try clear hb); (try clear hb2); (try clear hk); (try clear hi); (try clear ho0); (try clear ho1); (try clear ho2); (try clear ho3); (try clear ho4)) | ((with_reducible refine gate_dst (N := 10) rfl ?_); refine box_event ?hg (N := 10) ?hd (cs := #[.slice none 0 0, .slice none 0 0, .slice none 0 0, .slice none 0 0, .slice none 0 0]) (t := 30) ?hr ?_; (case hd => rfl); (case hg => rfl); (case hr => first | (go_simp; done) | (go_simp; rfl)); intro gb335 hg w44 hbox hb; have BK335 := Aside0.mk (hbox); have GW335 := Aside0.mk ((by rw [hg]; exact (lZ (by with_reducible repeat first | exact HB.out | apply lN | apply lD | refine lS ?_ GE283.out | refine lS ?_ GE284.out | refine lS ?_ GE301.out | refine lS ?_ GE318.out)) : w.heap.size ≤ gb335)); have GE335 := Aside0.mk ((by rw [hg]; exact (lZ (by with_reducible repeat first | exact HB.out | apply lN | apply lD | refine lS ?_ GE283.out | refine lS ?_ GE284.out | refine lS ?_ GE301.out | refine lS ?_ GE318.out)) : w.heap.size ≤ gb335)); have NB283_335 := Aside0.mk ((by rw [hg]; exact Nat.ne_of_lt (blk_lt BK283.out) : gb283 ≠ gb335)); have NB335_283 := Aside0.mk ((by rw [hg]; exact Nat.ne_of_gt (blk_lt BK283.out) : gb335 ≠ gb283)); have NB284_335 := Aside0.mk ((by rw [hg]; exact Nat.ne_of_lt (blk_lt BK284.out) : gb284 ≠ gb335)); have NB335_284 := Aside0.mk ((by rw [hg]; exact Nat.ne_of_gt (blk_lt BK284.out) : gb335 ≠ gb284)); have NB301_335 := Aside0.mk ((by rw [hg]; exact Nat.ne_of_lt (blk_lt BK301.out) : gb301 ≠ gb335)); have NB335_301 := Aside0.mk ((by rw [hg]; exact Nat.ne_of_gt (blk_lt BK301.out) : gb335 ≠ gb301)); have NB318_335 := Aside0.mk ((by rw [hg]; exact Nat.ne_of_lt (blk_lt BK318.out) : gb318 ≠ gb335)); have NB335_318 := Aside0.mk ((by rw [hg]; exact Nat.ne_of_gt (blk_lt BK318.out) : gb335 ≠ gb318)); replace HO288 := Aside0.mk (rB HO288.out hb); replace HO291 := Aside0.mk (rB HO291.out hb); replace HO294 := Aside0.mk (rB HO294.out hb); replace HO297 := Aside0.mk (rB HO297.out hb); replace HO300 := Aside0.mk (rB HO300.out hb); replace HO304 := Aside0.mk (rB HO304.out hb); replace HO307 := Aside0.mk (rB HO307.out hb); replace HO310 := Aside0.mk (rB HO310.out hb); replace HO313 := Aside0.mk (rB HO313.out hb); replace HO316 := Aside0.mk (rB HO316.out hb); replace HO321 := Aside0.mk (rB HO321.out hb); replace HO324 := Aside0.mk (rB HO324.out hb); replace HO327 := Aside0.mk (rB HO327.out hb); replace HO330 := Aside0.mk (rB HO330.out hb); replace HO333 := Aside0.mk (rB HO333.out hb); replace BK283 := Aside0.mk (bB BK283.out hb); replace BK284 := Aside0.mk (bB BK284.out hb); replace BK301 := Aside0.mk (bB BK301.out hb); replace BK318 := Aside0.mk (bB BK318.out hb); replace HB := Aside0.mk (lT (by with_reducible repeat first | exact HB.out | refine lS ?_ GE283.out | refine lS ?_ GE284.out | refine lS ?_ GE301.out | refine lS ?_ GE318.out) hb); clear hb hbox hg; obtain ⟨Ao45, co45, eo45⟩ := Kd.R_slice HO321.out; subst eo45; have hnb46 := NB335_283.out; have hnc46 := NB283_335.out; have hnb47 := NB335_284.out; have hnc47 := NB284_335.out; have hnb48 := NB335_301.out; have hnc48 := NB301_335.out; have hnb49 := NB335_318.out; have hnc49 := NB318_335.out; have hcz50_0 : w44.cell? ⟨gb335, 0, none⟩ = some (.slice none 0 0) := (bC BK335.out 0).trans rfl; have hcz50_1 : w44.cell? ⟨gb335, 1, none⟩ = some (.slice none 0 0) := (bC BK335.out 1).trans rfl; have hcz50_2 : w44.cell? ⟨gb335, 2, none⟩ = some (.slice none 0 0) := (bC BK335.out 2).trans rfl; have hcz50_3 : w44.cell? ⟨gb335, 3, none⟩ = some (.slice none 0 0) := (bC BK335.out 3).trans rfl; have hcz50_4 : w44.cell? ⟨gb335, 4, none⟩ = some (.slice none 0 0) := (bC BK335.out 4).trans rfl; have hfz50_0 := bF BK335.out 0; have hfz50_1 := bF BK335.out 1; have hfz50_2 := bF BK335.out 2; have hfz50_3 := bF BK335.out 3; have hfz50_4 := bF BK335.out 4; obtain ⟨Ao51, co51, eo51⟩ := Kd.R_slice HO324.out; subst eo51; obtain ⟨Ao52, co52, eo52⟩ := Kd.R_slice HO327.out; subst eo52; obtain ⟨Ao53, co53, eo53⟩ := Kd.R_slice HO330.out; subst eo53; obtain ⟨Ao54, co54, eo54⟩ := Kd.R_slice HO333.out; subst eo54; have hcz55_0 : w44.cell? ⟨gb318, 0, none⟩ = some (.slice Ao32 t302.length co32) := (bC BK318.out 0).trans rfl; have hcz55_1 : w44.cell? ⟨gb318, 1, none⟩ = some (.slice Ao37 t305.length co37) := (bC BK318.out 1).trans rfl; have hcz55_2 : w44.cell? ⟨gb318, 2, none⟩ = some (.slice Ao38 t308.length co38) := (bC BK318.out 2).trans rfl; have hcz55_3 : w44.cell? ⟨gb318, 3, none⟩ = some (.slice Ao39 t311.length co39) := (bC BK318.out 3).trans rfl; have hcz55_4 : w44.cell? ⟨gb318, 4, none⟩ = some (.slice Ao40 t314.length co40) := (bC BK318.out 4).trans rfl; have hfz55_0 := bF BK318.out 0; have hfz55_1 := bF BK318.out 1; have hfz55_2 := bF BK318.out 2; have hfz55_3 := bF BK318.out 3; have hfz55_4 := bF BK318.out 4) | (go_at_call 19; (with_reducible refine (serifref09_Same.calls k _ _ t319 _ _ t322 _ _ t325 _ _ t328 _ _ t331 _ _ t302 _ _ t305 _ _ t308 _ _ t311 _ _ t314 true _ ?side1 ?side2 ?side3 ?side4 ?side5 ?side6 ?side7 ?side8 ?side9 ?side10 ?side11 ?side12 ?side13 ?side14 ?side15 ?side16 ?side17 ?side18 ?side19 ?side20 A10.out).mono ?_); (case side1 => refine (rR (e := 43) (base := w.heap.size) (ok := fun k_ => ((((some k_ ≠ (.slice Ao51 t322.length co51 : Value).ownBlock ∧ some k_ ≠ (.slice Ao20 t286.length co20 : Value).ownBlock) ∧ some k_ ≠ (.slice Ao24 t289.length co24 : Value).ownBlock) ∧ some k_ ≠ (.slice Ao32 t302.length co32 : Value).ownBlock) ∧ some k_ ≠ (.slice Ao37 t305.length co37 : Value).ownBlock)) (n := t319.length) (c := co45) ?_).2.2; exact (st5 HO321.out BK335.out (by decide))); (case side2 => exact (rR HO321.out).2.1); (case side3 => refine (rR (e := 43) (base := w.heap.size) (ok := fun k_ => ((((some k_ ≠ (.slice Ao45 t319.length co45 : Value).ownBlock ∧ some k_ ≠ (.slice Ao20 t286.length co20 : Value).ownBlock) ∧ some k_ ≠ (.slice Ao24 t289.length co24 : Value).ownBlock) ∧ some k_ ≠ (.slice Ao32 t302.length co32 : Value).ownBlock) ∧ some k_ ≠ (.slice Ao37 t305.length co37 : Value).ownBlock)) (n := t322.length) (c := co51) ?_).2.2; exact (st5 HO324.out BK335.out (by decide))); (case side4 => exact (rR HO324.out).2.1); (case side5 => refine (rR (e := 4) (base := w.heap.size) (ok := fun k_ => ((((some k_ ≠ (.slice Ao53 t328.length co53 : Value).ownBlock ∧ some k_ ≠ (.slice Ao25 t292.length co25 : Value).ownBlock) ∧ some k_ ≠ (.slice Ao26 t295.length co26 : Value).ownBlock) ∧ some k_ ≠ (.slice Ao38 t308.length co38 : Value).ownBlock) ∧ some k_ ≠ (.slice Ao39 t311.length co39 : Value).ownBlock)) (n := t325.length) (c := co52) ?_).2.2; exact (st5 HO327.out BK335.out (by decide))); (case side6 => exact (rR HO327.out).2.1); (case side7 => refine (rR (e := 4) (base := w.heap.size) (ok := fun k_ => ((((some k_ ≠ (.slice Ao52 t325.length co52 : Value).ownBlock ∧ some k_ ≠ (.slice Ao25 t292.length co25 : Value).ownBlock) ∧ some k_ ≠ (.slice Ao26 t295.length co26 : Value).ownBlock) ∧ some k_ ≠ (.slice Ao38 t308.length co38 : Value).ownBlock) ∧ some k_ ≠ (.slice Ao39 t311.length co39 : Value).ownBlock)) (n := t328.length) (c := co53) ?_).2.2; exact (st5 HO330.out BK335.out (by decide))); (case side8 => exact (rR HO330.out).2.1); (case side9 => refine (rR (e := 3) (base := w.heap.size) (ok := fun k_ => ((True ∧ some k_ ≠ (.slice Ao27 t298.length co27 : Value).ownBlock) ∧ some k_ ≠ (.slice Ao40 t314.length co40 : Value).ownBlock)) (n := t331.length) (c := co54) ?_).2.2; exact (st5 HO333.out BK335.out (by decide))); (case side10 => exact (rR HO333.out).2.1); (case side11 => refine (rR (e := 43) (base := w.heap.size) (ok := fun k_ => ((((some k_ ≠ (.slice Ao37 t305.length co37 : Value).ownBlock ∧ some k_ ≠ (.slice Ao20 t286.length co20 : Value).ownBlock) ∧ some k_ ≠ (.slice Ao24 t289.length co24 : Value).ownBlock) ∧ some k_ ≠ (.slice Ao45 t319.length co45 : Value).ownBlock) ∧ some k_ ≠ (.slice Ao51 t322.length co51 : Value).ownBlock)) (n := t302.length) (c := co32) ?_).2.2; exact (st5 HO304.out BK335.out (by decide))); (case side12 => exact (rR HO304.out).2.1); (case side13 => refine (rR (e := 43) (base := w.heap.size) (ok := fun k_ => ((((some k_ ≠ (.slice Ao32 t302.length co32 : Value).ownBlock ∧ some k_ ≠ (.slice Ao20 t286.length co20 : Value).ownBlock) ∧ some k_ ≠ (.slice Ao24 t289.length co24 : Value).ownBlock) ∧ some k_ ≠ (.slice Ao45 t319.length co45 : Value).ownBlock) ∧ some k_ ≠ (.slice Ao51 t322.length co51 : Value).ownBlock)) (n := t305.length) (c := co37) ?_).2.2; exact (st5 HO307.out BK335.out (by decide))); (case side14 => exact (rR HO307.out).2.1); (case side15 => refine (rR (e := 4) (base := w.heap.size) (ok := fun k_ => ((((some k_ ≠ (.slice Ao39 t311.length co39 : Value).ownBlock ∧ some k_ ≠ (.slice Ao25 t292.length co25 : Value).ownBlock) ∧ some k_ ≠ (.slice Ao26 t295.length co26 : Value).ownBlock) ∧ some k_ ≠ (.slice Ao52 t325.length co52 : Value).ownBlock) ∧ some k_ ≠ (.slice Ao53 t328.length co53 : Value).ownBlock)) (n := t308.length) (c := co38) ?_).2.2; exact (st5 HO310.out BK335.out (by decide))); (case side16 => exact (rR HO310.out).2.1); (case side17 => refine (rR (e := 4) (base := w.heap.size) (ok := fun k_ => ((((some k_ ≠ (.slice Ao38 t308.length co38 : Value).ownBlock ∧ some k_ ≠ (.slice Ao25 t292.length co25 : Value).ownBlock) ∧ some k_ ≠ (.slice Ao26 t295.length co26 : Value).ownBlock) ∧ some k_ ≠ (.slice Ao52 t325.length co52 : Value).ownBlock) ∧ some k_ ≠ (.slice Ao53 t328.length co53 : Value).ownBlock)) (n := t311.length) (c := co39) ?_).2.2; exact (st5 HO313.out BK335.out (by decide))); (case side18 => exact (rR HO313.out).2.1); (case side19 => refine (rR (e := 3) (base := w.heap.size) (ok := fun k_ => ((True ∧ some k_ ≠ (.slice Ao27 t298.length co27 : Value).ownBlock) ∧ some k_ ≠ (.slice Ao54 t331.length co54 : Value).ownBlock)) (n := t314.length) (c := co40) ?_).2.2; exact (st5 HO316.out BK335.out (by decide))); (case side20 => exact (rR HO316.out).2.1); rintro e w56 ⟨rfl, hb⟩; replace HO288 := Aside0.mk (rB (st5 HO288.out BK335.out (by decide)) hb); replace HO291 := Aside0.mk (rB (st5 HO291.out BK335.out (by decide)) hb); replace HO294 := Aside0.mk (rB (st5 HO294.out BK335.out (by decide)) hb); replace HO297 := Aside0.mk (rB (st5 HO297.out BK335.out (by decide)) hb); replace HO300 := Aside0.mk (rB (st5 HO300.out BK335.out (by decide)) hb); replace HO304 := Aside0.mk (rB (st5 HO304.out BK335.out (by decide)) hb); replace HO307 := Aside0.mk (rB (st5 HO307.out BK335.out (by decide)) hb); replace HO310 := Aside0.mk (rB (st5 HO310.out BK335.out (by decide)) hb); replace HO313 := Aside0.mk (rB (st5 HO313.out BK335.out (by decide)) hb); replace HO316 := Aside0.mk (rB (st5 HO316.out BK335.out (by decide)) hb); replace HO321 := Aside0.mk (rB (st5 HO321.out BK335.out (by decide)) hb); replace HO324 := Aside0.mk (rB (st5 HO324.out BK335.out (by decide)) hb); replace HO327 := Aside0.mk (rB (st5 HO327.out BK335.out (by decide)) hb); replace HO330 := Aside0.mk (rB (st5 HO330.out BK335.out (by decide)) hb); replace HO333 := Aside0.mk (rB (st5 HO333.out BK335.out (by decide)) hb); replace BK283 := Aside0.mk (bB (g := gb283) (o := .cells #[.slice A0_0 l0_0.length c0_0, .slice A0_1 l0_1.length c0_1, .slice A0_2 l0_2.length c0_2, .slice A0_3 l0_3.length c0_3, .slice A0_4 l0_4.length c0_4] 30 (0, 0)) (by (with_reducible repeat (first | refine bN ?_ _ | refine bD ?_ | refine bA ?_ _)); refine bR ?_ NB283_335.out _; (with_reducible repeat (first | refine bN ?_ _ | refine bD ?_ | refine bA ?_ _)); refine bR ?_ NB283_335.out _; (with_reducible repeat (first | refine bN ?_ _ | refine bD ?_ | refine bA ?_ _)); refine bR ?_ NB283_335.out _; (with_reducible repeat (first | refine bN ?_ _ | refine bD ?_ | refine bA ?_ _)); refine bR ?_ NB283_335.out _; (with_reducible repeat (first | refine bN ?_ _ | refine bD ?_ | refine bA ?_ _)); refine bR ?_ NB283_335.out _; (with_reducible repeat (first | refine bN ?_ _ | refine bD ?_ | refine bA ?_ _)); exact BK283.out) hb); replace BK284 := Aside0.mk (bB (g := gb284) (o := .cells #[.int .i64 a1_0, .int .i64 a1_1] 31 (0, 0)) (by (with_reducible repeat (first | refine bN ?_ _ | refine bD ?_ | refine bA ?_ _)); refine bR ?_ NB284_335.out _; (with_reducible repeat (first | refine bN ?_ _ | refine bD ?_ | refine bA ?_ _)); refine bR ?_ NB284_335.out _; (with_reducible repeat (first | refine bN ?_ _ | refine bD ?_ | refine bA ?_ _)); refine bR ?_ NB284_335.out _; (with_reducible repeat (first | refine bN ?_ _ | refine bD ?_ | refine bA ?_ _)); refine bR ?_ NB284_335.out _; (with_reducible repeat (first | refine bN ?_ _ | refine bD ?_ | refine bA ?_ _)); refine bR ?_ NB284_335.out _; (with_reducible repeat (first | refine bN ?_ _ | refine bD ?_ | refine bA ?_ _)); exact BK284.out) hb); replace BK301 := Aside0.mk (bB (g := gb301) (o := .cells #[.slice Ao20 t286.length co20, .slice Ao24 t289.length co24, .slice Ao25 t292.length co25, .slice Ao26 t295.length co26, .slice Ao27 t298.length co27] 30 (0, 0)) (by (with_reducible repeat (first | refine bN ?_ _ | refine bD ?_ | refine bA ?_ _)); refine bR ?_ NB301_335.out _; (with_reducible repeat (first | refine bN ?_ _ | refine bD ?_ | refine bA ?_ _)); refine bR ?_ NB301_335.out _; (with_reducible repeat (first | refine bN ?_ _ | refine bD ?_ | refine bA ?_ _)); refine bR ?_ NB301_335.out _; (with_reducible repeat (first | refine bN ?_ _ | refine bD ?_ | refine bA ?_ _)); refine bR ?_ NB301_335.out _; (with_reducible repeat (first | refine bN ?_ _ | refine bD ?_ | refine bA ?_ _)); refine bR ?_ NB301_335.out _; (with_reducible repeat (first | refine bN ?_ _ | refine bD ?_ | refine bA ?_ _)); exact BK301.out) hb); replace BK318 := Aside0.mk (bB (g := gb318) (o := .cells #[.slice Ao32 t302.length co32, .slice Ao37 t305.length co37, .slice Ao38 t308.length co38, .slice Ao39 t311.length co39, .slice Ao40 t314.length co40] 30 (0, 0)) (by (with_reducible repeat (first | refine bN ?_ _ | refine bD ?_ | refine bA ?_ _)); refine bR ?_ NB318_335.out _; (with_reducible repeat (first | refine bN ?_ _ | refine bD ?_ | refine bA ?_ _)); refine bR ?_ NB318_335.out _; (with_reducible repeat (first | refine bN ?_ _ | refine bD ?_ | refine bA ?_ _)); refine bR ?_ NB318_335.out _; (with_reducible repeat (first | refine bN ?_ _ | refine bD ?_ | refine bA ?_ _)); refine bR ?_ NB318_335.out _; (with_reducible repeat (first | refine bN ?_ _ | refine bD ?_ | refine bA ?_ _)); refine bR ?_ NB318_335.out _; (with_reducible repeat (first | refine bN ?_ _ | refine bD ?_ | refine bA ?_ _)); exact BK318.out) hb); replace BK335 := Aside0.mk (bB (g := gb335) (o := .cells #[.slice Ao45 t319.length co45, .slice Ao51 t322.length co51, .slice Ao52 t325.length co52, .slice Ao53 t328.length co53, .slice Ao54 t331.length co54] 30 (0, 0)) (by (with_reducible repeat (first | refine bN ?_ _ | refine bD ?_ | refine bA ?_ _)); refine bP (cs := #[.slice Ao45 t319.length co45, .slice Ao51 t322.length co51, .slice Ao52 t325.length co52, .slice Ao53 t328.length co53, .slice none 0 0]) ?_ 4 _ rfl; (with_reducible repeat (first | refine bN ?_ _ | refine bD ?_ | refine bA ?_ _)); refine bP (cs := #[.slice Ao45 t319.length co45, .slice Ao51 t322.length co51, .slice Ao52 t325.length co52, .slice none 0 0, .slice none 0 0]) ?_ 3 _ rfl; (with_reducible repeat (first | refine bN ?_ _ | refine bD ?_ | refine bA ?_ _)); refine bP (cs := #[.slice Ao45 t319.length co45, .slice Ao51 t322.length co51, .slice none 0 0, .slice none 0 0, .slice none 0 0]) ?_ 2 _ rfl; (with_reducible repeat (first | refine bN ?_ _ | refine bD ?_ | refine bA ?_ _)); refine bP (cs := #[.slice Ao45 t319.length co45, .slice none 0 0, .slice none 0 0, .slice none 0 0, .slice none 0 0]) ?_ 1 _ rfl; (with_reducible repeat (first | refine bN ?_ _ | refine bD ?_ | refine bA ?_ _)); refine bP (cs := #[.slice none 0 0, .slice none 0 0, .slice none 0 0, .slice none 0 0, .slice none 0 0]) ?_ 0 _ rfl; (with_reducible repeat (first | refine bN ?_ _ | refine bD ?_ | refine bA ?_ _)); exact BK335.out) hb); replace HB := Aside0.mk (lT (by with_reducible repeat first | exact HB.out | refine lS ?_ GE283.out | refine lS ?_ GE284.out | refine lS ?_ GE301.out | refine lS ?_ GE318.out | refine lS ?_ GE335.out) hb); (try clear hb); (try clear hb2); (try clear hk); (try clear hi); have hcz57_0 : w56.cell? ⟨gb301, 0, none⟩ = some (.slice Ao20 t286.length co20) := (bC BK301.out 0).trans rfl; have hcz57_1 : w56.cell? ⟨gb301, 1, none⟩ = some (.slice Ao24 t289.length co24) := (bC BK301.out 1).trans rfl; have hcz57_2 : w56.cell? ⟨gb301, 2, none⟩ = some (.slice Ao25 t292.length co25) := (bC BK301.out 2).trans rfl; have hcz57_3 : w56.cell? ⟨gb301, 3, none⟩ = some (.slice Ao26 t295.length co26) := (bC BK301.out 3).trans rfl; have hcz57_4 : w56.cell? ⟨gb301, 4, none⟩ = some (.slice Ao27 t298.length co27) := (bC BK301.out 4).trans rfl; have hfz57_0 := bF BK301.out 0; have hfz57_1 := bF BK301.out 1; have hfz57_2 := bF BK301.out 2; have hfz57_3 := bF BK301.out 3; have hfz57_4 := bF BK301.out 4; have hcz58_0 : w56.cell? ⟨gb283, 0, none⟩ = some (.slice A0_0 l0_0.length c0_0) := (bC BK283.out 0).trans rfl; have hcz58_1 : w56.cell? ⟨gb283, 1, none⟩ = some (.slice A0_1 l0_1.length c0_1) := (bC BK283.out 1).trans rfl; have hcz58_2 : w56.cell? ⟨gb283, 2, none⟩ = some (.slice A0_2 l0_2.length c0_2) := (bC BK283.out 2).trans rfl; have hcz58_3 : w56.cell? ⟨gb283, 3, none⟩ = some (.slice A0_3 l0_3.length c0_3) := (bC BK283.out 3).trans rfl; have hcz58_4 : w56.cell? ⟨gb283, 4, none⟩ = some (.slice A0_4 l0_4.length c0_4) := (bC BK283.out 4).trans rfl; have hfz58_0 := bF BK283.out 0; have hfz58_1 := bF BK283.out 1; have hfz58_2 := bF BK283.out 2; have hfz58_3 := bF BK283.out 3; have hfz58_4 := bF BK283.out 4) | (go_at_call 19; (with_reducible refine (serifref09_Same.calls k _ _ t286 _ _ t289 _ _ t292 _ _ t295 _ _ t298 _ _ l0_0 _ _ l0_1 _ _ l0_2 _ _ l0_3 _ _ l0_4 t337 _ ?side1 ?side2 ?side3 ?side4 ?side5 ?side6 ?side7 ?side8 ?side9 ?side10 ?side11 ?side12 ?side13 ?side14 ?side15 ?side16 ?side17 ?side18 ?side19 ?side20 A12.out).mono ?_); (case side1 => repeat (first | exact (rR HO288.out).2.2 | (with_reducible refine cA ?_ _) | (with_reducible refine cN ?_ _) | (with_reducible refine cD ?_))); (case side2 => exact (rR HO288.out).2.1); (case side3 => repeat (first | exact (rR HO291.out).2.2 | (with_reducible refine cA ?_ _) | (with_reducible refine cN ?_ _) | (with_reducible refine cD ?_))); (case side4 => exact (rR HO291.out).2.1); (case side5 => repeat (first | exact (rR HO294.out).2.2 | (with_reducible refine cA ?_ _) | (with_reducible refine cN ?_ _) | (with_reducible refine cD ?_))); (case side6 => exact (rR HO294.out).2.1); (case side7 => repeat (first | exact (rR HO297.out).2.2 | (with_reducible refine cA ?_ _) | (with_reducible refine cN ?_ _) | (with_reducible refine cD ?_))); (case side8 => exact (rR HO297.out).2.1); (case side9 => repeat (first | exact (rR HO300.out).2.2 | (with_reducible refine cA ?_ _) | (with_reducible refine cN ?_ _) | (with_reducible refine cD ?_))); (case side10 => exact (rR HO300.out).2.1); (case side11 => repeat (first | exact (Kd.C_below HR0_0.out HB.out) | (with_reducible refine cA ?_ _) | (with_reducible refine cN ?_ _) | (with_reducible refine cD ?_))); (case side12 => exact HC0_0.out); (case side13 => repeat (first | exact (Kd.C_below HR0_1.out HB.out) | (with_reducible refine cA ?_ _) | (with_reducible refine cN ?_ _) | (with_reducible refine cD ?_))); (case side14 => exact HC0_1.out); (case side15 => repeat (first | exact (Kd.C_below HR0_2.out HB.out) | (with_reducible refine cA ?_ _) | (with_reducible refine cN ?_ _) | (with_reducible refine cD ?_))); (case side16 => exact HC0_2.out); (case side17 => repeat (first | exact (Kd.C_below HR0_3.out HB.out) | (with_reducible refine cA ?_ _) | (with_reducible refine cN ?_ _) | (with_reducible refine cD ?_))); (case side18 => exact HC0_3.out); (case side19 => repeat (first | exact (Kd.C_below HR0_4.out HB.out) | (with_reducible refine cA ?_ _) | (with_reducible refine cN ?_ _) | (with_reducible refine cD ?_))); (case side20 => exact HC0_4.out); rintro e w59 ⟨rfl, hb⟩; replace HO288 := Aside0.mk (rB HO288.out hb); replace HO291 := Aside0.mk (rB HO291.out hb); replace HO294 := Aside0.mk (rB HO294.out hb); replace HO297 := Aside0.mk (rB HO297.out hb); replace HO300 := Aside0.mk (rB HO300.out hb); replace HO304 := Aside0.mk (rB HO304.out hb); replace HO307 := Aside0.mk (rB HO307.out hb); replace HO310 := Aside0.mk (rB HO310.out hb); replace HO313 := Aside0.mk (rB HO313.out hb); replace HO316 := Aside0.mk (rB HO316.out hb); replace HO321 := Aside0.mk (rB HO321.out hb); replace HO324 := Aside0.mk (rB HO324.out hb); replace HO327 := Aside0.mk (rB HO327.out hb); replace HO330 := Aside0.mk (rB HO330.out hb); replace HO333 := Aside0.mk (rB HO333.out hb); replace BK283 := Aside0.mk (bB BK283.out hb); replace BK284 := Aside0.mk (bB BK284.out hb); replace BK301 := Aside0.mk (bB BK301.out hb); replace BK318 := Aside0.mk (bB BK318.out hb); replace BK335 := Aside0.mk (bB BK335.out hb); replace HB := Aside0.mk (lT (by with_reducible repeat first | exact HB.out | refine lS ?_ GE283.out | refine lS ?_ GE284.out | refine lS ?_ GE301.out | refine lS ?_ GE318.out | refine lS ?_ GE335.out) hb); (try clear hb); (try clear hb2); (try clear hk); (try clear hi)))
    go_ret
    exact ⟨by first | rfl | (simp [errW_none, errW_some] <;> rfl) | (simp [*, errW_none, errW_some] <;> rfl), by with_reducible repeat first | exact HB.out | apply lN | apply lD | refine lS ?_ GE283.out | refine lS ?_ GE284.out | refine lS ?_ GE301.out | refine lS ?_ GE318.out | refine lS ?_ GE335.out⟩
   ·replace c11 := Bool.eq_false_iff.mpr c11
    subst c11
    have H1 : (some false) = some r := by rw [if_neg (show ¬ (false = true) by decide)] at H; exact H
    clear H
    have H := H1
    clear H1
    exact absurd (Option.some.inj H) (by rw [HT.out]; decide)
  ·rw [if_neg c9] at H
   have c9b0 : (t334 == t317) = false := beq_eq_false_iff_ne.mpr c9
   have c9b1 : (t334 != t317) = true := bne_iff_ne.mpr c9
   exact absurd (Option.some.inj H) (by rw [HT.out]; decide)
 ·replace c5 := Bool.eq_false_iff.mpr c5
  subst c5
  have H1 : (some false) = some r := by rw [if_neg (show ¬ (false = true) by decide)] at H; exact H
  clear H
  have H := H1
  clear H1
  exact absurd (Option.some.inj H) (by rw [HT.out]; decide)

end Go.Proofs.Ytneiaobhjjbedaa.PGstatePuts
