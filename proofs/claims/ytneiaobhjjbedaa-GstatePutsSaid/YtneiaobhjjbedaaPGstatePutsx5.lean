/- A part of the proof of the law GstatePuts: plain functions and what the machine's calls of them come to; printed by wip/extprint.py out of the kit's printer and contracts of our own. No condition but an answer of the plain function. -/
import Derived.Test.YtneiaobhjjbedaaPGstatePutsx0
namespace Go.Proofs.Ytneiaobhjjbedaa.PGstatePuts
open Go.RowKit Go.Proofs.YtneiaobhjjbedaaW.PrintWords Go.Proofs.YtneiaobhjjbedaaW.PrintLast Go.Proofs.YtneiaobhjjbedaaW.PrintMore
attribute [local go_sem] max2_int min2_int max_two min_two max_three min_three max_four min_four   -- for this text's walks alone
open Go.Proofs.Ytneiaobhjjbedaa (st1 st2 st3 st5 st55)
open Go.Proofs.YtneiaobhjjbedaaW.PrintWords renaming blk_drewN → bN, blk_drew → bD, blk_alloc → bA, below_alloc → lA, pw_below_drewN → lN, below_drew1 → lD, below_set → lS, blk_below → bB, blk_grown → bG, blk_cell → bC, blk_frozen → bF, blk_far → bR, blk_put → bP, below_size → lZ, below_step → lT
open Go.Proofs.YtneiaobhjjbedaaW.PrintWords.Kd renaming R_alloc → rA, R_drewN → rN, R_drew → rD, R_far → rF, R_mono → rM, R_below → rB, R_types → rT, R_grown → rG, C_alloc → cA, C_drewN → cN, C_drew → cD, R_reads' → rR
set_option linter.unusedVariables false
set_option linter.unusedSimpArgs false

/-! ### fixed_Check: function 40 -/
def fixed_Check.f (a0 : Int) : Option (Int) := if a0 < (-2147483647) then (some 14) else (if a0 > 2147483647 then (some 14) else (some 0))
set_option maxHeartbeats 8000000 in
set_option maxRecDepth 100000 in
theorem fixed_Check.calls (a0 : Int) (r : Int) (w : World) (h : fixed_Check.f a0 = some r) :
  Calls Try.prog 40 #[.int .i64 a0] w fun e w' => e = .returned (.int .i64 r) ∧ Drawn0 w w' := by
 have H : (if a0 < (-2147483647) then (some 14) else (if a0 > 2147483647 then (some 14) else (some 0))) = some r := h
 clear h
 by_cases c2 : a0 < (-2147483647)
 ·rw [if_pos c2] at H
  have c2b0 : decide (a0 < (-2147483647)) = true := decide_eq_true c2
  clear c2
  obtain rfl := Option.some.inj H
  go_enter Try.func40, Try.ntmps40
  go_wp2
  go_ret
  exact ⟨by first | rfl | (simp; done) | (simp [*]; done), by repeat (first | exact Drawn0.refl _ | apply Drawn0.step)⟩
 ·rw [if_neg c2] at H
  have c2b0 : decide (a0 < (-2147483647)) = false := decide_eq_false c2
  clear c2
  by_cases c3 : a0 > 2147483647
  ·rw [if_pos c3] at H
   have c3b0 : decide (2147483647 < a0) = true := decide_eq_true c3
   clear c3
   obtain rfl := Option.some.inj H
   go_enter Try.func40, Try.ntmps40
   go_wp2
   go_ret
   exact ⟨by first | rfl | (simp; done) | (simp [*]; done), by repeat (first | exact Drawn0.refl _ | apply Drawn0.step)⟩
  ·rw [if_neg c3] at H
   have c3b0 : decide (2147483647 < a0) = false := decide_eq_false c3
   clear c3
   obtain rfl := Option.some.inj H
   go_enter Try.func40, Try.ntmps40
   go_wp2
   go_ret
   exact ⟨by first | rfl | (simp; done) | (simp [*]; done), by repeat (first | exact Drawn0.refl _ | apply Drawn0.step)⟩

/-! ### gstate_fits: function 50 -/
def gstate_fits.f (a0_0 : Int) (a0_1 : Int) : Option (Bool) := (fixed_Check.f a0_0).bind fun t159 => (if t159 = 0 then ((fixed_Check.f a0_1).bind fun t160 => (some (t160 == 0))) else (some false))
set_option maxHeartbeats 8000000 in
set_option maxRecDepth 100000 in
theorem gstate_fits.calls (a0_0 : Int) (a0_1 : Int) (r : Bool) (w : World) (h : gstate_fits.f a0_0 a0_1 = some r) :
  Calls Try.prog 50 #[.agg #[.int .i64 a0_0, .int .i64 a0_1]] w fun e w' => e = .returned (.bool r) ∧ Below w.heap.size w w' := by
 have hu43 := Try.underlying43
 have HB := Aside0.mk (Below.refl w.heap.size w)
 have H : ((fixed_Check.f a0_0).bind fun t159 => (if t159 = 0 then ((fixed_Check.f a0_1).bind fun t160 => (some (t160 == 0))) else (some false))) = some r := h
 clear h
 replace H := Option.bind_eq_some_iff.mp H
 obtain ⟨t159, A20, H⟩ := H
 replace H : (if t159 = 0 then ((fixed_Check.f a0_1).bind fun t160 => (some (t160 == 0))) else (some false)) = some r := H
 have A2 := Aside0.mk A20
 clear A20
 by_cases c3 : t159 = 0
 ·rw [if_pos c3] at H
  have c3b0 : (t159 == 0) = true := beq_iff_eq.mpr c3
  have c3b1 : (t159 != 0) = false := bne_eq_false_iff_eq.mpr c3
  clear c3
  replace H := Option.bind_eq_some_iff.mp H
  obtain ⟨t160, A40, H⟩ := H
  replace H : (some (t160 == 0)) = some r := H
  have A4 := Aside0.mk A40
  clear A40
  obtain rfl := Option.some.inj H
  go_enter Try.func50, Try.ntmps50
  go_wp2_with (first | ((with_reducible refine gate_dst (N := 1) rfl ?_); refine box_event ?hg (N := 1) ?hd (cs := #[.int .i64 a0_0, .int .i64 a0_1]) (t := 43) ?hr ?_; (case hd => rfl); (case hg => rfl); (case hr => first | (go_simp; done) | (go_simp; rfl)); intro gb158 hg w5 hbox hb; have BK158 := Aside0.mk (hbox); have GW158 := Aside0.mk ((by rw [hg]; exact (lZ (by with_reducible repeat first | exact HB.out | apply lN | apply lD)) : w.heap.size ≤ gb158)); have GE158 := Aside0.mk ((by rw [hg]; exact (lZ (by with_reducible repeat first | exact HB.out | apply lN | apply lD)) : w.heap.size ≤ gb158)); replace HB := Aside0.mk (lT HB.out hb); clear hb hbox hg; have hcz6_0 : w5.cell? ⟨gb158, 0, none⟩ = some (.int .i64 a0_0) := (bC BK158.out 0).trans rfl; have hcz6_1 : w5.cell? ⟨gb158, 1, none⟩ = some (.int .i64 a0_1) := (bC BK158.out 1).trans rfl; have hfz6_0 := bF BK158.out 0; have hfz6_1 := bF BK158.out 1) | ((with_reducible refine gate_callee (f := 40) rfl ?_); refine goesL_ (some 5) rfl rfl Try.func40 (by kernel_rfl) rfl #[.int .i64 a0_0] rfl (by (try simp only [List.map_toArray, List.map_cons, List.map_nil]); first | done | rfl | (simp only [List.length_drop, List.length_take]; rfl)) ?_; (with_reducible refine (fixed_Check.calls a0_0 t159 _ A2.out).mono ?_); rintro e w' ⟨rfl, ⟨nd, rfl⟩⟩; refine ⟨_, rfl, ?_⟩) | (go_at_call 40; (with_reducible refine (fixed_Check.calls a0_1 t160 _ A4.out).mono ?_); rintro e w' ⟨rfl, ⟨nd, rfl⟩⟩))
  go_ret
  exact ⟨by first | rfl | (simp [errW_none, errW_some] <;> rfl) | (simp [*, errW_none, errW_some] <;> rfl), by with_reducible repeat first | exact HB.out | apply lN | apply lD | refine lS ?_ GE158.out⟩
 ·rw [if_neg c3] at H
  have c3b0 : (t159 == 0) = false := beq_eq_false_iff_ne.mpr c3
  have c3b1 : (t159 != 0) = true := bne_iff_ne.mpr c3
  obtain rfl := Option.some.inj H
  go_enter Try.func50, Try.ntmps50
  go_wp2_with (first | ((with_reducible refine gate_dst (N := 1) rfl ?_); refine box_event ?hg (N := 1) ?hd (cs := #[.int .i64 a0_0, .int .i64 a0_1]) (t := 43) ?hr ?_; (case hd => rfl); (case hg => rfl); (case hr => first | (go_simp; done) | (go_simp; rfl)); intro gb158 hg w7 hbox hb; have BK158 := Aside0.mk (hbox); have GW158 := Aside0.mk ((by rw [hg]; exact (lZ (by with_reducible repeat first | exact HB.out | apply lN | apply lD)) : w.heap.size ≤ gb158)); have GE158 := Aside0.mk ((by rw [hg]; exact (lZ (by with_reducible repeat first | exact HB.out | apply lN | apply lD)) : w.heap.size ≤ gb158)); replace HB := Aside0.mk (lT HB.out hb); clear hb hbox hg; have hcz8_0 : w7.cell? ⟨gb158, 0, none⟩ = some (.int .i64 a0_0) := (bC BK158.out 0).trans rfl; have hcz8_1 : w7.cell? ⟨gb158, 1, none⟩ = some (.int .i64 a0_1) := (bC BK158.out 1).trans rfl; have hfz8_0 := bF BK158.out 0; have hfz8_1 := bF BK158.out 1) | ((with_reducible refine gate_callee (f := 40) rfl ?_); refine goesL_ (some 5) rfl rfl Try.func40 (by kernel_rfl) rfl #[.int .i64 a0_0] rfl (by (try simp only [List.map_toArray, List.map_cons, List.map_nil]); first | done | rfl | (simp only [List.length_drop, List.length_take]; rfl)) ?_; (with_reducible refine (fixed_Check.calls a0_0 t159 _ A2.out).mono ?_); rintro e w' ⟨rfl, ⟨nd, rfl⟩⟩; refine ⟨_, rfl, ?_⟩))
  go_ret
  exact ⟨by first | rfl | (simp [errW_none, errW_some] <;> rfl) | (simp [*, errW_none, errW_some] <;> rfl), by with_reducible repeat first | exact HB.out | apply lN | apply lD | refine lS ?_ GE158.out⟩

/-! ### gstate_Sound_1: function 49 -/
def gstate_Sound_1.f (a0_0 : Int) (a0_1 : Int) : Option (Bool) := (gstate_fits.f a0_0 a0_1).bind fun t162 => (some (!t162))
set_option maxHeartbeats 8000000 in
set_option maxRecDepth 100000 in
theorem gstate_Sound_1.calls (a0_0 : Int) (a0_1 : Int) (r : Bool) (w : World) (h : gstate_Sound_1.f a0_0 a0_1 = some r) :
  Calls Try.prog 49 #[.agg #[.int .i64 a0_0, .int .i64 a0_1]] w fun e w' => e = .returned (.bool r) ∧ Below w.heap.size w w' := by
 have hu43 := Try.underlying43
 have HB := Aside0.mk (Below.refl w.heap.size w)
 have H : ((gstate_fits.f a0_0 a0_1).bind fun t162 => (some (!t162))) = some r := h
 clear h
 replace H := Option.bind_eq_some_iff.mp H
 obtain ⟨t162, A20, H⟩ := H
 replace H : (some (!t162)) = some r := H
 have A2 := Aside0.mk A20
 clear A20
 obtain rfl := Option.some.inj H
 go_enter Try.func49, Try.ntmps49
 go_wp2_with (first | ((with_reducible refine gate_dst (N := 1) rfl ?_); refine box_event ?hg (N := 1) ?hd (cs := #[.int .i64 a0_0, .int .i64 a0_1]) (t := 43) ?hr ?_; (case hd => rfl); (case hg => rfl); (case hr => first | (go_simp; done) | (go_simp; rfl)); intro gb161 hg w3 hbox hb; have BK161 := Aside0.mk (hbox); have GW161 := Aside0.mk ((by rw [hg]; exact (lZ (by with_reducible repeat first | exact HB.out | apply lN | apply lD)) : w.heap.size ≤ gb161)); have GE161 := Aside0.mk ((by rw [hg]; exact (lZ (by with_reducible repeat first | exact HB.out | apply lN | apply lD)) : w.heap.size ≤ gb161)); replace HB := Aside0.mk (lT HB.out hb); clear hb hbox hg; have hcz4_0 : w3.cell? ⟨gb161, 0, none⟩ = some (.int .i64 a0_0) := (bC BK161.out 0).trans rfl; have hcz4_1 : w3.cell? ⟨gb161, 1, none⟩ = some (.int .i64 a0_1) := (bC BK161.out 1).trans rfl; have hfz4_0 := bF BK161.out 0; have hfz4_1 := bF BK161.out 1) | ((with_reducible refine gate_callee (f := 50) rfl ?_); refine goesL_ (some 4) rfl rfl Try.func50 (by kernel_rfl) rfl #[.agg #[.int .i64 a0_0, .int .i64 a0_1]] rfl (by (try simp only [List.map_toArray, List.map_cons, List.map_nil]); first | done | rfl | (simp only [List.length_drop, List.length_take]; rfl)) ?_; (with_reducible refine (gstate_fits.calls a0_0 a0_1 t162 _ A2.out).mono ?_); rintro e w5 ⟨rfl, hb⟩; refine ⟨_, rfl, ?_⟩; replace BK161 := Aside0.mk (bB BK161.out hb); replace HB := Aside0.mk (lT (by with_reducible repeat first | exact HB.out | refine lS ?_ GE161.out) hb); (try clear hb); (try clear hb2); (try clear hk); (try clear hi)))
 go_ret
 exact ⟨by first | rfl | (simp [errW_none, errW_some] <;> rfl) | (simp [*, errW_none, errW_some] <;> rfl), by with_reducible repeat first | exact HB.out | apply lN | apply lD | refine lS ?_ GE161.out⟩

/-! ### api_Spot_66: function 66 -/
def api_Spot_66.l0 : Nat → List (S43) → Int → Int → Option (Int)
 | 0, _, _, _ => none
 | k + 1, x0, x7, x8 => if x8 < x7 then (if 0 ≤ x8 then (if x8 < (x0.length : Int) then ((gstate_Sound_1.f ((rd_T43 x0 x8).f0) ((rd_T43 x0 x8).f1)).bind fun t164 => (if t164 = true then (some x8) else (api_Spot_66.l0 k x0 x7 (wrap64 (x8 + 1))))) else (none)) else (none)) else (some (-1))
def api_Spot_66.f (k : Nat) (l0 : List (S43)) : Option (Int) := api_Spot_66.l0 k l0 (l0.length : Int) 0
theorem api_Spot_66.mono_l : ∀ k, (∀ y0 y1 y2, LeO (api_Spot_66.l0 k y0 y1 y2) (api_Spot_66.l0 (k + 1) y0 y1 y2))
 | 0 => fun _ _ _ r h => by simp [api_Spot_66.l0] at h
 | k + 1 => by
  have ih0 := api_Spot_66.mono_l k
  ·intro y0 y1 y2
   unfold api_Spot_66.l0
   repeat' first
   | (with_reducible exact ih0 _ _ _)
   | (with_reducible exact LeO.refl _)
   | (with_reducible exact LeO.none _)
   | (with_reducible refine LeO.ite ?_ ?_)
   | (with_reducible refine LeO.bind ?_ (fun _ => ?_))
   | exact ih0 _ _ _
   | exact LeO.none _
   | refine LeO.ite ?_ ?_
   | refine LeO.bind ?_ (fun _ => ?_)
theorem api_Spot_66.mono : ∀ a0 k, LeO (api_Spot_66.f k a0) (api_Spot_66.f (k + 1) a0) := by
 intro a0 k
 have ih0 := api_Spot_66.mono_l k
 unfold api_Spot_66.f
 repeat' first
   | (with_reducible exact ih0 _ _ _)
   | (with_reducible exact LeO.refl _)
   | (with_reducible exact LeO.none _)
   | (with_reducible refine LeO.ite ?_ ?_)
   | (with_reducible refine LeO.bind ?_ (fun _ => ?_))
   | exact ih0 _ _ _
   | exact LeO.none _
   | refine LeO.ite ?_ ?_
   | refine LeO.bind ?_ (fun _ => ?_)
set_option maxHeartbeats 8000000 in
set_option maxRecDepth 100000 in
theorem api_Spot_66.calls (k : Nat) (A0 : Option Addr) (c0 : Nat) (l0 : List (S43)) (r : Int) (w : World) (hr0 : Kd.C k43 w A0 l0.length l0) (hc0 : l0.length ≤ c0) (h : api_Spot_66.f k l0 = some r) :
  Calls Try.prog 66 #[.slice A0 l0.length c0, .func (.func 49) #[] #[]] w fun e w' => e = .returned (.int .i64 r) ∧ Below w.heap.size w w' := by
 have hu43 := Try.underlying43
 have HR0 := Aside0.mk hr0
 have HC0 := Aside0.mk hc0
 clear hr0 hc0
 have HB := Aside0.mk (Below.refl w.heap.size w)
 have H : (api_Spot_66.l0 k l0 (l0.length : Int) 0) = some r := h
 clear h
 have H' := Aside0.mk H
 clear H
 go_enter Try.func66, Try.ntmps66
 go_wp2
 go_loopg [8] k (fun kq v8 w' => ∃ (x8_1 : Int), v8 = .int .i64 x8_1 ∧ Aside0 (api_Spot_66.l0 kq l0 (l0.length : Int) x8_1 = some r) ∧ Aside0 (kq ≤ k) ∧ Aside0 (Below w.heap.size w w'))
 case atStart => exact ⟨(0), (by first | rfl | (simp; done) | (simp [*]; done)), H', ⟨Nat.le_refl _⟩, ⟨by with_reducible repeat first | exact HB.out | apply lN | apply lD⟩⟩
 case round =>
  clear H'
  obtain ⟨x8_1, rfl, HA, HK1, HB⟩ := hrel
  cases gk with
  | zero => exact absurd HA.out (by simp [api_Spot_66.l0])
  | succ k1 =>
   have H := HA.out
   clear HA
   simp only [api_Spot_66.l0] at H
   by_cases c2 : x8_1 < (l0.length : Int)
   ·rw [if_pos c2] at H
    have c2b0 : decide (x8_1 < (l0.length : Int)) = true := decide_eq_true c2
    clear c2
    by_cases c3 : 0 ≤ x8_1
    ·rw [if_pos c3] at H
     have c3b0 : decide (0 ≤ x8_1) = true := decide_eq_true c3
     clear c3
     by_cases c4 : x8_1 < (l0.length : Int)
     ·rw [if_pos c4] at H
      have c4b0 : decide (x8_1 < (l0.length : Int)) = true := decide_eq_true c4
      clear c4
      replace H := Option.bind_eq_some_iff.mp H
      obtain ⟨t164, A50, H⟩ := H
      replace H : (if t164 = true then (some x8_1) else (api_Spot_66.l0 k1 l0 (l0.length : Int) (wrap64 (x8_1 + 1)))) = some r := H
      have A5 := Aside0.mk A50
      clear A50
      by_cases c6 : t164 = true
      ·subst c6
       have H1 : (some x8_1) = some r := by rw [if_pos rfl] at H; exact H
       clear H
       have H := H1
       clear H1
       obtain rfl := Option.some.inj H
       have p163 : 0 ≤ (x8_1 : Int) := of_decide_eq_true (by first | (with_reducible assumption) | assumption)
       have q163 : x8_1 < (l0.length : Int) := of_decide_eq_true (by first | (with_reducible assumption) | assumption)
       obtain ⟨ad163, e163, hx163_0, hx163_1⟩ := at_T43 HR0.out x8_1 p163 q163
       cases e163
       replace hx163_0 := (HB.out.cell (World.block_lt_of_cell? w _ hx163_0)).trans hx163_0
       replace hx163_1 := (HB.out.cell (World.block_lt_of_cell? w _ hx163_1)).trans hx163_1
       replace p163 := eq_true p163
       replace q163 := eq_true q163
       go_wp2_with (first | (refine Go.Proofs.Ytneiaobhjjbedaa.goesV_ (some 16) rfl rfl (o := .tmp 11) Try.func49 (by kernel_rfl) rfl #[.agg #[.int .i64 ((rd_T43 l0 x8_1).f0), .int .i64 ((rd_T43 l0 x8_1).f1)]] rfl rfl (by (try simp only [List.map_toArray, List.map_cons, List.map_nil]); first | done | rfl | (simp only [List.length_drop, List.length_take]; rfl)) ?_; (with_reducible refine (gstate_Sound_1.calls ((rd_T43 l0 x8_1).f0) ((rd_T43 l0 x8_1).f1) true _ A5.out).mono ?_); rintro e w7 ⟨rfl, hb⟩; refine ⟨_, rfl, ?_⟩; replace HB := Aside0.mk (lT HB.out hb); (try clear hb); (try clear hb2); (try clear hk); (try clear hi)))
       go_ret
       exact ⟨by first | rfl | (simp [errW_none, errW_some] <;> rfl) | (simp [*, errW_none, errW_some] <;> rfl), by with_reducible repeat first | exact HB.out | apply lN | apply lD⟩
      ·replace c6 := Bool.eq_false_iff.mpr c6
       subst c6
       have H1 : (api_Spot_66.l0 k1 l0 (l0.length : Int) (wrap64 (x8_1 + 1))) = some r := by rw [if_neg (show ¬ (false = true) by decide)] at H; exact H
       clear H
       have H := H1
       clear H1
       have H' := Aside0.mk H
       clear H
       have p163 : 0 ≤ (x8_1 : Int) := of_decide_eq_true (by first | (with_reducible assumption) | assumption)
       have q163 : x8_1 < (l0.length : Int) := of_decide_eq_true (by first | (with_reducible assumption) | assumption)
       obtain ⟨ad163, e163, hx163_0, hx163_1⟩ := at_T43 HR0.out x8_1 p163 q163
       cases e163
       replace hx163_0 := (HB.out.cell (World.block_lt_of_cell? w _ hx163_0)).trans hx163_0
       replace hx163_1 := (HB.out.cell (World.block_lt_of_cell? w _ hx163_1)).trans hx163_1
       replace p163 := eq_true p163
       replace q163 := eq_true q163
       go_wp2_with (first | (refine Go.Proofs.Ytneiaobhjjbedaa.goesV_ (some 16) rfl rfl (o := .tmp 11) Try.func49 (by kernel_rfl) rfl #[.agg #[.int .i64 ((rd_T43 l0 x8_1).f0), .int .i64 ((rd_T43 l0 x8_1).f1)]] rfl rfl (by (try simp only [List.map_toArray, List.map_cons, List.map_nil]); first | done | rfl | (simp only [List.length_drop, List.length_take]; rfl)) ?_; (with_reducible refine (gstate_Sound_1.calls ((rd_T43 l0 x8_1).f0) ((rd_T43 l0 x8_1).f1) false _ A5.out).mono ?_); rintro e w8 ⟨rfl, hb⟩; refine ⟨_, rfl, ?_⟩; replace HB := Aside0.mk (lT HB.out hb); (try clear hb); (try clear hb2); (try clear hk); (try clear hi)))
       go_roundg k1
       case measure => have := HK1.out; omega
       case rel => exact ⟨(wrap64 (x8_1 + 1)), (by first | rfl | (simp; done) | (simp [*]; done)), H', ⟨by have := HK1.out; omega⟩, ⟨by with_reducible repeat first | exact HB.out | apply lN | apply lD⟩⟩
     ·rw [if_neg c4] at H
      exact absurd H (by simp)
    ·rw [if_neg c3] at H
     exact absurd H (by simp)
   ·rw [if_neg c2] at H
    have c2b0 : decide (x8_1 < (l0.length : Int)) = false := decide_eq_false c2
    clear c2
    obtain rfl := Option.some.inj H
    go_wp2
    go_ret
    exact ⟨by first | rfl | (simp [errW_none, errW_some] <;> rfl) | (simp [*, errW_none, errW_some] <;> rfl), by with_reducible repeat first | exact HB.out | apply lN | apply lD⟩

/-! ### api_Spot_51: function 51 -/
def api_Spot_51.f (k : Nat) (l0 : List (S43)) : Option (Bool) := (api_Spot_66.f k l0).bind fun t165 => (some (decide (t165 ≥ 0)))
theorem api_Spot_51.mono : ∀ a0 k, LeO (api_Spot_51.f k a0) (api_Spot_51.f (k + 1) a0) := by
 intro a0 k
 unfold api_Spot_51.f
 repeat' first
   | (with_reducible exact api_Spot_66.mono _ _)
   | (with_reducible exact LeO.refl _)
   | (with_reducible exact LeO.none _)
   | (with_reducible refine LeO.ite ?_ ?_)
   | (with_reducible refine LeO.bind ?_ (fun _ => ?_))
   | exact api_Spot_66.mono _ _
   | exact LeO.none _
   | refine LeO.ite ?_ ?_
   | refine LeO.bind ?_ (fun _ => ?_)
set_option maxHeartbeats 8000000 in
set_option maxRecDepth 100000 in
theorem api_Spot_51.calls (k : Nat) (A0 : Option Addr) (c0 : Nat) (l0 : List (S43)) (r : Bool) (w : World) (hr0 : Kd.C k43 w A0 l0.length l0) (hc0 : l0.length ≤ c0) (h : api_Spot_51.f k l0 = some r) :
  Calls Try.prog 51 #[.slice A0 l0.length c0, .func (.func 49) #[] #[]] w fun e w' => e = .returned (.bool r) ∧ Below w.heap.size w w' := by
 have HR0 := Aside0.mk hr0
 have HC0 := Aside0.mk hc0
 clear hr0 hc0
 have HB := Aside0.mk (Below.refl w.heap.size w)
 have H : ((api_Spot_66.f k l0).bind fun t165 => (some (decide (t165 ≥ 0)))) = some r := h
 clear h
 replace H := Option.bind_eq_some_iff.mp H
 obtain ⟨t165, A20, H⟩ := H
 replace H : (some (decide (t165 ≥ 0))) = some r := H
 have A2 := Aside0.mk A20
 clear A20
 obtain rfl := Option.some.inj H
 go_enter Try.func51, Try.ntmps51
 go_wp2_with (first | ((with_reducible refine gate_callee (f := 66) rfl ?_); refine goesL_ (some 7) rfl rfl Try.func66 (by kernel_rfl) rfl #[.slice A0 l0.length c0, .func (.func 49) #[] #[]] rfl (by (try simp only [List.map_toArray, List.map_cons, List.map_nil]); first | done | rfl | (simp only [List.length_drop, List.length_take]; rfl)) ?_; (with_reducible refine (api_Spot_66.calls k _ _ l0 t165 _ ?side1 ?side2 A2.out).mono ?_); (case side1 => repeat (first | exact HR0.out | (with_reducible refine cA ?_ _) | (with_reducible refine cN ?_ _) | (with_reducible refine cD ?_))); (case side2 => exact HC0.out); rintro e w3 ⟨rfl, hb⟩; refine ⟨_, rfl, ?_⟩; replace HB := Aside0.mk (lT HB.out hb); (try clear hb); (try clear hb2); (try clear hk); (try clear hi)))
 go_ret
 exact ⟨by first | rfl | (simp [errW_none, errW_some] <;> rfl) | (simp [*, errW_none, errW_some] <;> rfl), by with_reducible repeat first | exact HB.out | apply lN | apply lD⟩

/-! ### gstate_Sound: function 26 -/
mutual
def gstate_Sound.j0 : Nat → Int → Bool → List (S43) → List (S43) → List Bool → List Bool → List Int → Option (Bool)
 | 0, _, _, _, _, _, _, _ => none
 | k + 1, x3, x33, x167000, x167001, x167002, x167003, x167004 => if x33 = true then (some false) else (gstate_Sound.l0 k x3 (-1) x167004 (x167004.length : Int) 0 x167000 x167001 x167002 x167003 x167004)
def gstate_Sound.l0 : Nat → Int → Int → List Int → Int → Int → List (S43) → List (S43) → List Bool → List Bool → List Int → Option (Bool)
 | 0, _, _, _, _, _, _, _, _, _, _ => none
 | k + 1, x3, x4, x35, x36, x37, x167000, x167001, x167002, x167003, x167004 => if x37 < x36 then (if 0 ≤ x37 then (if x37 < (x35.length : Int) then (if (rd x35 x37) ≤ x4 then (some false) else (if (rd x35 x37) ≥ x3 then (some false) else (gstate_Sound.l0 k x3 (rd x35 x37) x35 x36 (wrap64 (x37 + 1)) x167000 x167001 x167002 x167003 x167004))) else (none)) else (none)) else ((api_Spot_51.f k x167000).bind fun t168 => (if t168 = true then (some false) else ((api_Spot_51.f k x167001).bind fun t169 => (some (!t169)))))
end
def gstate_Sound.f (k : Nat) (l0_0 : List (S43)) (l0_1 : List (S43)) (l0_2 : List Bool) (l0_3 : List Bool) (l0_4 : List Int) : Option (Bool) := if (l0_1.length : Int) = (l0_0.length : Int) then (if (l0_2.length : Int) = (l0_0.length : Int) then (if (l0_3.length : Int) = (l0_0.length : Int) then (gstate_Sound.j0 k (l0_0.length : Int) (decide ((l0_0.length : Int) > 4096)) l0_0 l0_1 l0_2 l0_3 l0_4) else (gstate_Sound.j0 k (l0_0.length : Int) true l0_0 l0_1 l0_2 l0_3 l0_4)) else (gstate_Sound.j0 k (l0_0.length : Int) true l0_0 l0_1 l0_2 l0_3 l0_4)) else (gstate_Sound.j0 k (l0_0.length : Int) true l0_0 l0_1 l0_2 l0_3 l0_4)
theorem gstate_Sound.mono_l : ∀ k, (∀ y0 y1 y2 y3 y4 y5 y6, LeO (gstate_Sound.j0 k y0 y1 y2 y3 y4 y5 y6) (gstate_Sound.j0 (k + 1) y0 y1 y2 y3 y4 y5 y6)) ∧ (∀ y0 y1 y2 y3 y4 y5 y6 y7 y8 y9, LeO (gstate_Sound.l0 k y0 y1 y2 y3 y4 y5 y6 y7 y8 y9) (gstate_Sound.l0 (k + 1) y0 y1 y2 y3 y4 y5 y6 y7 y8 y9))
 | 0 => ⟨fun _ _ _ _ _ _ _ r h => by simp [gstate_Sound.j0] at h, fun _ _ _ _ _ _ _ _ _ _ r h => by simp [gstate_Sound.l0] at h⟩
 | k + 1 => by
  obtain ⟨ih0, ih1⟩ := gstate_Sound.mono_l k
  refine ⟨?_, ?_⟩
  ·intro y0 y1 y2 y3 y4 y5 y6
   unfold gstate_Sound.j0
   repeat' first
   | (with_reducible exact ih0 _ _ _ _ _ _ _)
   | (with_reducible exact ih1 _ _ _ _ _ _ _ _ _ _)
   | (with_reducible exact api_Spot_51.mono _ _)
   | (with_reducible exact LeO.refl _)
   | (with_reducible exact LeO.none _)
   | (with_reducible refine LeO.ite ?_ ?_)
   | (with_reducible refine LeO.bind ?_ (fun _ => ?_))
   | exact ih0 _ _ _ _ _ _ _
   | exact ih1 _ _ _ _ _ _ _ _ _ _
   | exact api_Spot_51.mono _ _
   | exact LeO.none _
   | refine LeO.ite ?_ ?_
   | refine LeO.bind ?_ (fun _ => ?_)
  ·intro y0 y1 y2 y3 y4 y5 y6 y7 y8 y9
   unfold gstate_Sound.l0
   repeat' first
   | (with_reducible exact ih0 _ _ _ _ _ _ _)
   | (with_reducible exact ih1 _ _ _ _ _ _ _ _ _ _)
   | (with_reducible exact api_Spot_51.mono _ _)
   | (with_reducible exact LeO.refl _)
   | (with_reducible exact LeO.none _)
   | (with_reducible refine LeO.ite ?_ ?_)
   | (with_reducible refine LeO.bind ?_ (fun _ => ?_))
   | exact ih0 _ _ _ _ _ _ _
   | exact ih1 _ _ _ _ _ _ _ _ _ _
   | exact api_Spot_51.mono _ _
   | exact LeO.none _
   | refine LeO.ite ?_ ?_
   | refine LeO.bind ?_ (fun _ => ?_)
theorem gstate_Sound.mono : ∀ a0 a1 a2 a3 a4 k, LeO (gstate_Sound.f k a0 a1 a2 a3 a4) (gstate_Sound.f (k + 1) a0 a1 a2 a3 a4) := by
 intro a0 a1 a2 a3 a4 k
 obtain ⟨ih0, ih1⟩ := gstate_Sound.mono_l k
 unfold gstate_Sound.f
 repeat' first
   | (with_reducible exact ih0 _ _ _ _ _ _ _)
   | (with_reducible exact ih1 _ _ _ _ _ _ _ _ _ _)
   | (with_reducible exact api_Spot_51.mono _ _)
   | (with_reducible exact LeO.refl _)
   | (with_reducible exact LeO.none _)
   | (with_reducible refine LeO.ite ?_ ?_)
   | (with_reducible refine LeO.bind ?_ (fun _ => ?_))
   | exact ih0 _ _ _ _ _ _ _
   | exact ih1 _ _ _ _ _ _ _ _ _ _
   | exact api_Spot_51.mono _ _
   | exact LeO.none _
   | refine LeO.ite ?_ ?_
   | refine LeO.bind ?_ (fun _ => ?_)
set_option maxHeartbeats 8000000 in
set_option maxRecDepth 100000 in
theorem gstate_Sound.calls (k : Nat) (A0_0 : Option Addr) (c0_0 : Nat) (l0_0 : List (S43)) (A0_1 : Option Addr) (c0_1 : Nat) (l0_1 : List (S43)) (A0_2 : Option Addr) (c0_2 : Nat) (l0_2 : List Bool) (A0_3 : Option Addr) (c0_3 : Nat) (l0_3 : List Bool) (A0_4 : Option Addr) (c0_4 : Nat) (l0_4 : List Int) (r : Bool) (w : World) (hr0_0 : Kd.C k43 w A0_0 l0_0.length l0_0) (hc0_0 : l0_0.length ≤ c0_0) (hr0_1 : Kd.C k43 w A0_1 l0_1.length l0_1) (hc0_1 : l0_1.length ≤ c0_1) (hr0_2 : Kd.C Kd.bool w A0_2 l0_2.length l0_2) (hc0_2 : l0_2.length ≤ c0_2) (hr0_3 : Kd.C Kd.bool w A0_3 l0_3.length l0_3) (hc0_3 : l0_3.length ≤ c0_3) (hr0_4 : Kd.C (Kd.int .i64) w A0_4 l0_4.length l0_4) (hc0_4 : l0_4.length ≤ c0_4) (h : gstate_Sound.f k l0_0 l0_1 l0_2 l0_3 l0_4 = some r) :
  Calls Try.prog 26 #[.agg #[.slice A0_0 l0_0.length c0_0, .slice A0_1 l0_1.length c0_1, .slice A0_2 l0_2.length c0_2, .slice A0_3 l0_3.length c0_3, .slice A0_4 l0_4.length c0_4]] w fun e w' => e = .returned (.bool r) ∧ Below w.heap.size w w' := by
 have hu30 := Try.underlying30
 have HR0_0 := Aside0.mk hr0_0
 have HC0_0 := Aside0.mk hc0_0
 clear hr0_0 hc0_0
 have HR0_1 := Aside0.mk hr0_1
 have HC0_1 := Aside0.mk hc0_1
 clear hr0_1 hc0_1
 have HR0_2 := Aside0.mk hr0_2
 have HC0_2 := Aside0.mk hc0_2
 clear hr0_2 hc0_2
 have HR0_3 := Aside0.mk hr0_3
 have HC0_3 := Aside0.mk hc0_3
 clear hr0_3 hc0_3
 have HR0_4 := Aside0.mk hr0_4
 have HC0_4 := Aside0.mk hc0_4
 clear hr0_4 hc0_4
 have HB := Aside0.mk (Below.refl w.heap.size w)
 have H : (if (l0_1.length : Int) = (l0_0.length : Int) then (if (l0_2.length : Int) = (l0_0.length : Int) then (if (l0_3.length : Int) = (l0_0.length : Int) then (gstate_Sound.j0 k (l0_0.length : Int) (decide ((l0_0.length : Int) > 4096)) l0_0 l0_1 l0_2 l0_3 l0_4) else (gstate_Sound.j0 k (l0_0.length : Int) true l0_0 l0_1 l0_2 l0_3 l0_4)) else (gstate_Sound.j0 k (l0_0.length : Int) true l0_0 l0_1 l0_2 l0_3 l0_4)) else (gstate_Sound.j0 k (l0_0.length : Int) true l0_0 l0_1 l0_2 l0_3 l0_4)) = some r := h
 clear h
 have HC2 := Aside0.mk H
 clear H
 go_enter Try.func26, Try.ntmps26
 go_upto_region 2 with (first | ((with_reducible refine gate_dst (N := 1) rfl ?_); (try (refine gate_guard (by rfl) ?_; dsimp only)); refine box_event ?hg (N := 1) ?hd (cs := #[.slice A0_0 l0_0.length c0_0, .slice A0_1 l0_1.length c0_1, .slice A0_2 l0_2.length c0_2, .slice A0_3 l0_3.length c0_3, .slice A0_4 l0_4.length c0_4]) (t := 30) ?hr ?_; (case hd => rfl); (case hg => rfl); (case hr => first | (go_simp; done) | (go_simp; rfl)); intro gb166 hg w3 hbox hb; have BK166 := Aside0.mk (hbox); have GW166 := Aside0.mk ((by rw [hg]; exact (lZ (by with_reducible repeat first | exact HB.out | apply lN | apply lD)) : w.heap.size ≤ gb166)); have GE166 := Aside0.mk ((by rw [hg]; exact (lZ (by with_reducible repeat first | exact HB.out | apply lN | apply lD)) : w.heap.size ≤ gb166)); replace HB := Aside0.mk (lT HB.out hb); clear hb hbox hg; have hcz4_0 : w3.cell? ⟨gb166, 0, none⟩ = some (.slice A0_0 l0_0.length c0_0) := (bC BK166.out 0).trans rfl; have hcz4_1 : w3.cell? ⟨gb166, 1, none⟩ = some (.slice A0_1 l0_1.length c0_1) := (bC BK166.out 1).trans rfl; have hcz4_2 : w3.cell? ⟨gb166, 2, none⟩ = some (.slice A0_2 l0_2.length c0_2) := (bC BK166.out 2).trans rfl; have hcz4_3 : w3.cell? ⟨gb166, 3, none⟩ = some (.slice A0_3 l0_3.length c0_3) := (bC BK166.out 3).trans rfl; have hcz4_4 : w3.cell? ⟨gb166, 4, none⟩ = some (.slice A0_4 l0_4.length c0_4) := (bC BK166.out 4).trans rfl; have hfz4_0 := bF BK166.out 0; have hfz4_1 := bF BK166.out 1; have hfz4_2 := bF BK166.out 2; have hfz4_3 := bF BK166.out 3; have hfz4_4 := bF BK166.out 4))
 (try simp only [Act.put, List.setIfInBounds_toArray, List.set_cons_zero, List.set_cons_succ])
 go_cut [33] (fun v33 wc => ∃ (kq : Nat) (x33_1 : Bool), v33 = .bool x33_1 ∧ Aside0 (gstate_Sound.j0 kq (l0_0.length : Int) x33_1 l0_0 l0_1 l0_2 l0_3 l0_4 = some r) ∧ Aside0 (kq ≤ k) ∧ Aside0 (wc.heap[gb166]? = some (.cells #[(.slice A0_0 l0_0.length c0_0), (.slice A0_1 l0_1.length c0_1), (.slice A0_2 l0_2.length c0_2), (.slice A0_3 l0_3.length c0_3), (.slice A0_4 l0_4.length c0_4)] 30 (0, 0))) ∧ Aside0 (Below w.heap.size w wc))
 case first =>
  have H := HC2.out
  clear HC2
  by_cases c5 : (l0_1.length : Int) = (l0_0.length : Int)
  ·rw [if_pos c5] at H
   have c5b0 : ((l0_1.length : Int) == (l0_0.length : Int)) = true := beq_iff_eq.mpr c5
   have c5b1 : ((l0_1.length : Int) != (l0_0.length : Int)) = false := bne_eq_false_iff_eq.mpr c5
   have c5b2 : (l0_1.length == l0_0.length) = true := by first | simpa using c5 | (simp at c5 ⊢; omega)
   clear c5
   (first | rw [c5b0] | (simp only [i64_w, i32_w]; rw [c5b0]) | skip)
   by_cases c6 : (l0_2.length : Int) = (l0_0.length : Int)
   ·rw [if_pos c6] at H
    have c6b0 : ((l0_2.length : Int) == (l0_0.length : Int)) = true := beq_iff_eq.mpr c6
    have c6b1 : ((l0_2.length : Int) != (l0_0.length : Int)) = false := bne_eq_false_iff_eq.mpr c6
    have c6b2 : (l0_2.length == l0_0.length) = true := by first | simpa using c6 | (simp at c6 ⊢; omega)
    clear c6
    by_cases c7 : (l0_3.length : Int) = (l0_0.length : Int)
    ·rw [if_pos c7] at H
     have c7b0 : ((l0_3.length : Int) == (l0_0.length : Int)) = true := beq_iff_eq.mpr c7
     have c7b1 : ((l0_3.length : Int) != (l0_0.length : Int)) = false := bne_eq_false_iff_eq.mpr c7
     have c7b2 : (l0_3.length == l0_0.length) = true := by first | simpa using c7 | (simp at c7 ⊢; omega)
     clear c7
     have H' := Aside0.mk H
     clear H
     have hcz8_0 : w3.cell? ⟨gb166, 0, none⟩ = some (.slice A0_0 l0_0.length c0_0) := (bC BK166.out 0).trans rfl
     have hcz8_1 : w3.cell? ⟨gb166, 1, none⟩ = some (.slice A0_1 l0_1.length c0_1) := (bC BK166.out 1).trans rfl
     have hcz8_2 : w3.cell? ⟨gb166, 2, none⟩ = some (.slice A0_2 l0_2.length c0_2) := (bC BK166.out 2).trans rfl
     have hcz8_3 : w3.cell? ⟨gb166, 3, none⟩ = some (.slice A0_3 l0_3.length c0_3) := (bC BK166.out 3).trans rfl
     have hcz8_4 : w3.cell? ⟨gb166, 4, none⟩ = some (.slice A0_4 l0_4.length c0_4) := (bC BK166.out 4).trans rfl
     have hfz8_0 := bF BK166.out 0
     have hfz8_1 := bF BK166.out 1
     have hfz8_2 := bF BK166.out 2
     have hfz8_3 := bF BK166.out 3
     have hfz8_4 := bF BK166.out 4
     go_wp2
     go_meet
     case rel => exact ⟨_, (decide ((l0_0.length : Int) > 4096)), (by first | rfl | (simp; done) | (simp [*]; done)), H', ⟨by first | omega | exact Nat.le_refl _⟩, ⟨by (with_reducible repeat (first | refine bN ?_ _ | refine bD ?_ | refine bA ?_ _)); exact BK166.out⟩, ⟨by with_reducible repeat first | exact HB.out | apply lN | apply lD | refine lS ?_ GE166.out⟩⟩
    ·rw [if_neg c7] at H
     have c7b0 : ((l0_3.length : Int) == (l0_0.length : Int)) = false := beq_eq_false_iff_ne.mpr c7
     have c7b1 : ((l0_3.length : Int) != (l0_0.length : Int)) = true := bne_iff_ne.mpr c7
     have c7b2 : (l0_3.length == l0_0.length) = false := by first | simpa using c7 | (simp at c7 ⊢; omega)
     have H' := Aside0.mk H
     clear H
     have hcz9_0 : w3.cell? ⟨gb166, 0, none⟩ = some (.slice A0_0 l0_0.length c0_0) := (bC BK166.out 0).trans rfl
     have hcz9_1 : w3.cell? ⟨gb166, 1, none⟩ = some (.slice A0_1 l0_1.length c0_1) := (bC BK166.out 1).trans rfl
     have hcz9_2 : w3.cell? ⟨gb166, 2, none⟩ = some (.slice A0_2 l0_2.length c0_2) := (bC BK166.out 2).trans rfl
     have hcz9_3 : w3.cell? ⟨gb166, 3, none⟩ = some (.slice A0_3 l0_3.length c0_3) := (bC BK166.out 3).trans rfl
     have hcz9_4 : w3.cell? ⟨gb166, 4, none⟩ = some (.slice A0_4 l0_4.length c0_4) := (bC BK166.out 4).trans rfl
     have hfz9_0 := bF BK166.out 0
     have hfz9_1 := bF BK166.out 1
     have hfz9_2 := bF BK166.out 2
     have hfz9_3 := bF BK166.out 3
     have hfz9_4 := bF BK166.out 4
     go_wp2
     go_meet
     case rel => exact ⟨_, (true), (by first | rfl | (simp; done) | (simp [*]; done)), H', ⟨by first | omega | exact Nat.le_refl _⟩, ⟨by (with_reducible repeat (first | refine bN ?_ _ | refine bD ?_ | refine bA ?_ _)); exact BK166.out⟩, ⟨by with_reducible repeat first | exact HB.out | apply lN | apply lD | refine lS ?_ GE166.out⟩⟩
   ·rw [if_neg c6] at H
    have c6b0 : ((l0_2.length : Int) == (l0_0.length : Int)) = false := beq_eq_false_iff_ne.mpr c6
    have c6b1 : ((l0_2.length : Int) != (l0_0.length : Int)) = true := bne_iff_ne.mpr c6
    have c6b2 : (l0_2.length == l0_0.length) = false := by first | simpa using c6 | (simp at c6 ⊢; omega)
    have H' := Aside0.mk H
    clear H
    have hcz10_0 : w3.cell? ⟨gb166, 0, none⟩ = some (.slice A0_0 l0_0.length c0_0) := (bC BK166.out 0).trans rfl
    have hcz10_1 : w3.cell? ⟨gb166, 1, none⟩ = some (.slice A0_1 l0_1.length c0_1) := (bC BK166.out 1).trans rfl
    have hcz10_2 : w3.cell? ⟨gb166, 2, none⟩ = some (.slice A0_2 l0_2.length c0_2) := (bC BK166.out 2).trans rfl
    have hcz10_3 : w3.cell? ⟨gb166, 3, none⟩ = some (.slice A0_3 l0_3.length c0_3) := (bC BK166.out 3).trans rfl
    have hcz10_4 : w3.cell? ⟨gb166, 4, none⟩ = some (.slice A0_4 l0_4.length c0_4) := (bC BK166.out 4).trans rfl
    have hfz10_0 := bF BK166.out 0
    have hfz10_1 := bF BK166.out 1
    have hfz10_2 := bF BK166.out 2
    have hfz10_3 := bF BK166.out 3
    have hfz10_4 := bF BK166.out 4
    go_wp2
    go_meet
    case rel => exact ⟨_, (true), (by first | rfl | (simp; done) | (simp [*]; done)), H', ⟨by first | omega | exact Nat.le_refl _⟩, ⟨by (with_reducible repeat (first | refine bN ?_ _ | refine bD ?_ | refine bA ?_ _)); exact BK166.out⟩, ⟨by with_reducible repeat first | exact HB.out | apply lN | apply lD | refine lS ?_ GE166.out⟩⟩
  ·rw [if_neg c5] at H
   have c5b0 : ((l0_1.length : Int) == (l0_0.length : Int)) = false := beq_eq_false_iff_ne.mpr c5
   have c5b1 : ((l0_1.length : Int) != (l0_0.length : Int)) = true := bne_iff_ne.mpr c5
   have c5b2 : (l0_1.length == l0_0.length) = false := by first | simpa using c5 | (simp at c5 ⊢; omega)
   (first | rw [c5b0] | (simp only [i64_w, i32_w]; rw [c5b0]) | skip)
   have H' := Aside0.mk H
   clear H
   have hcz11_0 : w3.cell? ⟨gb166, 0, none⟩ = some (.slice A0_0 l0_0.length c0_0) := (bC BK166.out 0).trans rfl
   have hcz11_1 : w3.cell? ⟨gb166, 1, none⟩ = some (.slice A0_1 l0_1.length c0_1) := (bC BK166.out 1).trans rfl
   have hcz11_2 : w3.cell? ⟨gb166, 2, none⟩ = some (.slice A0_2 l0_2.length c0_2) := (bC BK166.out 2).trans rfl
   have hcz11_3 : w3.cell? ⟨gb166, 3, none⟩ = some (.slice A0_3 l0_3.length c0_3) := (bC BK166.out 3).trans rfl
   have hcz11_4 : w3.cell? ⟨gb166, 4, none⟩ = some (.slice A0_4 l0_4.length c0_4) := (bC BK166.out 4).trans rfl
   have hfz11_0 := bF BK166.out 0
   have hfz11_1 := bF BK166.out 1
   have hfz11_2 := bF BK166.out 2
   have hfz11_3 := bF BK166.out 3
   have hfz11_4 := bF BK166.out 4
   go_wp2
   go_meet
   case rel => exact ⟨_, (true), (by first | rfl | (simp; done) | (simp [*]; done)), H', ⟨by first | omega | exact Nat.le_refl _⟩, ⟨by (with_reducible repeat (first | refine bN ?_ _ | refine bD ?_ | refine bA ?_ _)); exact BK166.out⟩, ⟨by with_reducible repeat first | exact HB.out | apply lN | apply lD | refine lS ?_ GE166.out⟩⟩
 case rest =>
  clear HC2
  try clear c2
  try clear p2
  try clear c5
  try clear c5b0
  try clear c5b1
  try clear c5b2
  try clear c6
  try clear c6b0
  try clear c6b1
  try clear c6b2
  try clear c7
  try clear c7b0
  try clear c7b1
  try clear c7b2
  try clear hcz10_0
  try clear hcz10_1
  try clear hcz10_2
  try clear hcz10_3
  try clear hcz10_4
  try clear hcz11_0
  try clear hcz11_1
  try clear hcz11_2
  try clear hcz11_3
  try clear hcz11_4
  try clear hcz4_0
  try clear hcz4_1
  try clear hcz4_2
  try clear hcz4_3
  try clear hcz4_4
  try clear hcz8_0
  try clear hcz8_1
  try clear hcz8_2
  try clear hcz8_3
  try clear hcz8_4
  try clear hcz9_0
  try clear hcz9_1
  try clear hcz9_2
  try clear hcz9_3
  try clear hcz9_4
  try clear hfz10_0
  try clear hfz10_1
  try clear hfz10_2
  try clear hfz10_3
  try clear hfz10_4
  try clear hfz11_0
  try clear hfz11_1
  try clear hfz11_2
  try clear hfz11_3
  try clear hfz11_4
  try clear hfz4_0
  try clear hfz4_1
  try clear hfz4_2
  try clear hfz4_3
  try clear hfz4_4
  try clear hfz8_0
  try clear hfz8_1
  try clear hfz8_2
  try clear hfz8_3
  try clear hfz8_4
  try clear hfz9_0
  try clear hfz9_1
  try clear hfz9_2
  try clear hfz9_3
  try clear hfz9_4
  obtain ⟨kq, x33_1, rfl, HA, HJ1, BK166, HB⟩ := hcut
  cases kq with
  | zero => exact absurd HA.out (by simp [gstate_Sound.j0])
  | succ kj1 =>
   have H := HA.out
   clear HA
   simp only [gstate_Sound.j0] at H
   by_cases c12 : x33_1 = true
   ·subst c12
    have H1 : (some false) = some r := by rw [if_pos rfl] at H; exact H
    clear H
    have H := H1
    clear H1
    obtain rfl := Option.some.inj H
    go_wp2
    go_ret
    exact ⟨by first | rfl | (simp [errW_none, errW_some] <;> rfl) | (simp [*, errW_none, errW_some] <;> rfl), by with_reducible repeat first | exact HB.out | apply lN | apply lD | refine lS ?_ GE166.out⟩
   ·replace c12 := Bool.eq_false_iff.mpr c12
    subst c12
    have H1 : (gstate_Sound.l0 kj1 (l0_0.length : Int) (-1) l0_4 (l0_4.length : Int) 0 l0_0 l0_1 l0_2 l0_3 l0_4) = some r := by rw [if_neg (show ¬ (false = true) by decide)] at H; exact H
    clear H
    have H := H1
    clear H1
    have H' := Aside0.mk H
    clear H
    have hcz13_0 : wc.cell? ⟨gb166, 0, none⟩ = some (.slice A0_0 l0_0.length c0_0) := (bC BK166.out 0).trans rfl
    have hcz13_1 : wc.cell? ⟨gb166, 1, none⟩ = some (.slice A0_1 l0_1.length c0_1) := (bC BK166.out 1).trans rfl
    have hcz13_2 : wc.cell? ⟨gb166, 2, none⟩ = some (.slice A0_2 l0_2.length c0_2) := (bC BK166.out 2).trans rfl
    have hcz13_3 : wc.cell? ⟨gb166, 3, none⟩ = some (.slice A0_3 l0_3.length c0_3) := (bC BK166.out 3).trans rfl
    have hcz13_4 : wc.cell? ⟨gb166, 4, none⟩ = some (.slice A0_4 l0_4.length c0_4) := (bC BK166.out 4).trans rfl
    have hfz13_0 := bF BK166.out 0
    have hfz13_1 := bF BK166.out 1
    have hfz13_2 := bF BK166.out 2
    have hfz13_3 := bF BK166.out 3
    have hfz13_4 := bF BK166.out 4
    go_wp2
    go_loopg [4, 37] kj1 (fun kq v4 v37 w' => ∃ (x4_2 : Int) (x37_2 : Int), v4 = .int .i64 x4_2 ∧ v37 = .int .i64 x37_2 ∧ Aside0 (gstate_Sound.l0 kq (l0_0.length : Int) x4_2 l0_4 (l0_4.length : Int) x37_2 l0_0 l0_1 l0_2 l0_3 l0_4 = some r) ∧ Aside0 (kq ≤ kj1) ∧ Aside0 (w'.heap[gb166]? = some (.cells #[(.slice A0_0 l0_0.length c0_0), (.slice A0_1 l0_1.length c0_1), (.slice A0_2 l0_2.length c0_2), (.slice A0_3 l0_3.length c0_3), (.slice A0_4 l0_4.length c0_4)] 30 (0, 0))) ∧ Aside0 (Below w.heap.size w w'))
    case atStart => exact ⟨((-1)), (0), (by first | rfl | (simp; done) | (simp [*]; done)), (by first | rfl | (simp; done) | (simp [*]; done)), H', ⟨Nat.le_refl _⟩, ⟨by (with_reducible repeat (first | refine bN ?_ _ | refine bD ?_ | refine bA ?_ _)); exact BK166.out⟩, ⟨by with_reducible repeat first | exact HB.out | apply lN | apply lD | refine lS ?_ GE166.out⟩⟩
    case round =>
     clear H'
     try clear c1
     try clear c2
     try clear p2
     try clear c5
     try clear c5b0
     try clear c5b1
     try clear c5b2
     try clear c6
     try clear c6b0
     try clear c6b1
     try clear c6b2
     try clear c7
     try clear c7b0
     try clear c7b1
     try clear c7b2
     try clear c12
     try clear hcz10_0
     try clear hcz10_1
     try clear hcz10_2
     try clear hcz10_3
     try clear hcz10_4
     try clear hcz11_0
     try clear hcz11_1
     try clear hcz11_2
     try clear hcz11_3
     try clear hcz11_4
     try clear hcz13_0
     try clear hcz13_1
     try clear hcz13_2
     try clear hcz13_3
     try clear hcz13_4
     try clear hcz4_0
     try clear hcz4_1
     try clear hcz4_2
     try clear hcz4_3
     try clear hcz4_4
     try clear hcz8_0
     try clear hcz8_1
     try clear hcz8_2
     try clear hcz8_3
     try clear hcz8_4
     try clear hcz9_0
     try clear hcz9_1
     try clear hcz9_2
     try clear hcz9_3
     try clear hcz9_4
     try clear hfz10_0
     try clear hfz10_1
     try clear hfz10_2
     try clear hfz10_3
     try clear hfz10_4
     try clear hfz11_0
     try clear hfz11_1
     try clear hfz11_2
     try clear hfz11_3
     try clear hfz11_4
     try clear hfz13_0
     try clear hfz13_1
     try clear hfz13_2
     try clear hfz13_3
     try clear hfz13_4
     try clear hfz4_0
     try clear hfz4_1
     try clear hfz4_2
     try clear hfz4_3
     try clear hfz4_4
     try clear hfz8_0
     try clear hfz8_1
     try clear hfz8_2
     try clear hfz8_3
     try clear hfz8_4
     try clear hfz9_0
     try clear hfz9_1
     try clear hfz9_2
     try clear hfz9_3
     try clear hfz9_4
     try clear p2
     obtain ⟨x4_2, x37_2, rfl, rfl, HA, HK2, BK166, HB⟩ := hrel
     cases gk with
     | zero => exact absurd HA.out (by simp [gstate_Sound.l0])
     | succ k2 =>
      have H := HA.out
      clear HA
      simp only [gstate_Sound.l0] at H
      by_cases c14 : x37_2 < (l0_4.length : Int)
      ·rw [if_pos c14] at H
       have c14b0 : decide (x37_2 < (l0_4.length : Int)) = true := decide_eq_true c14
       clear c14
       by_cases c15 : 0 ≤ x37_2
       ·rw [if_pos c15] at H
        have c15b0 : decide (0 ≤ x37_2) = true := decide_eq_true c15
        clear c15
        by_cases c16 : x37_2 < (l0_4.length : Int)
        ·rw [if_pos c16] at H
         have c16b0 : decide (x37_2 < (l0_4.length : Int)) = true := decide_eq_true c16
         clear c16
         by_cases c17 : (rd l0_4 x37_2) ≤ x4_2
         ·rw [if_pos c17] at H
          have c17b0 : decide ((rd l0_4 x37_2) ≤ x4_2) = true := decide_eq_true c17
          clear c17
          obtain rfl := Option.some.inj H
          have p167 : 0 ≤ (x37_2 : Int) := of_decide_eq_true (by first | (with_reducible assumption) | assumption)
          have q167 : x37_2 < (l0_4.length : Int) := of_decide_eq_true (by first | (with_reducible assumption) | assumption)
          obtain ⟨ad167, e167, hx167_0⟩ := Kd.at_int HR0_4.out x37_2 p167 q167
          cases e167
          replace hx167_0 := (HB.out.cell (World.block_lt_of_cell? w _ hx167_0)).trans hx167_0
          replace p167 := eq_true p167
          replace q167 := eq_true q167
          go_wp2
          go_ret
          exact ⟨by first | rfl | (simp [errW_none, errW_some] <;> rfl) | (simp [*, errW_none, errW_some] <;> rfl), by with_reducible repeat first | exact HB.out | apply lN | apply lD | refine lS ?_ GE166.out⟩
         ·rw [if_neg c17] at H
          have c17b0 : decide ((rd l0_4 x37_2) ≤ x4_2) = false := decide_eq_false c17
          clear c17
          by_cases c18 : (rd l0_4 x37_2) ≥ (l0_0.length : Int)
          ·rw [if_pos c18] at H
           have c18b0 : decide ((l0_0.length : Int) ≤ (rd l0_4 x37_2)) = true := decide_eq_true c18
           clear c18
           obtain rfl := Option.some.inj H
           have p167 : 0 ≤ (x37_2 : Int) := of_decide_eq_true (by first | (with_reducible assumption) | assumption)
           have q167 : x37_2 < (l0_4.length : Int) := of_decide_eq_true (by first | (with_reducible assumption) | assumption)
           obtain ⟨ad167, e167, hx167_0⟩ := Kd.at_int HR0_4.out x37_2 p167 q167
           cases e167
           replace hx167_0 := (HB.out.cell (World.block_lt_of_cell? w _ hx167_0)).trans hx167_0
           replace p167 := eq_true p167
           replace q167 := eq_true q167
           go_wp2
           go_ret
           exact ⟨by first | rfl | (simp [errW_none, errW_some] <;> rfl) | (simp [*, errW_none, errW_some] <;> rfl), by with_reducible repeat first | exact HB.out | apply lN | apply lD | refine lS ?_ GE166.out⟩
          ·rw [if_neg c18] at H
           have c18b0 : decide ((l0_0.length : Int) ≤ (rd l0_4 x37_2)) = false := decide_eq_false c18
           clear c18
           have H' := Aside0.mk H
           clear H
           have p167 : 0 ≤ (x37_2 : Int) := of_decide_eq_true (by first | (with_reducible assumption) | assumption)
           have q167 : x37_2 < (l0_4.length : Int) := of_decide_eq_true (by first | (with_reducible assumption) | assumption)
           obtain ⟨ad167, e167, hx167_0⟩ := Kd.at_int HR0_4.out x37_2 p167 q167
           cases e167
           replace hx167_0 := (HB.out.cell (World.block_lt_of_cell? w _ hx167_0)).trans hx167_0
           replace p167 := eq_true p167
           replace q167 := eq_true q167
           go_wp2
           go_roundg k2
           case measure => have := HJ1.out; have := HK2.out; omega
           case rel => exact ⟨(rd l0_4 x37_2), (wrap64 (x37_2 + 1)), (by first | rfl | (simp; done) | (simp [*]; done)), (by first | rfl | (simp; done) | (simp [*]; done)), H', ⟨by have := HJ1.out; have := HK2.out; omega⟩, ⟨by (with_reducible repeat (first | refine bN ?_ _ | refine bD ?_ | refine bA ?_ _)); exact BK166.out⟩, ⟨by with_reducible repeat first | exact HB.out | apply lN | apply lD | refine lS ?_ GE166.out⟩⟩
        ·rw [if_neg c16] at H
         exact absurd H (by simp)
       ·rw [if_neg c15] at H
        exact absurd H (by simp)
      ·rw [if_neg c14] at H
       have c14b0 : decide (x37_2 < (l0_4.length : Int)) = false := decide_eq_false c14
       clear c14
       replace H := Option.bind_eq_some_iff.mp H
       obtain ⟨t168, A190, H⟩ := H
       replace H : (if t168 = true then (some false) else ((api_Spot_51.f k2 l0_1).bind fun t169 => (some (!t169)))) = some r := H
       have A19 := Aside0.mk A190
       clear A190
       by_cases c20 : t168 = true
       ·subst c20
        have H1 : (some false) = some r := by rw [if_pos rfl] at H; exact H
        clear H
        have H := H1
        clear H1
        obtain rfl := Option.some.inj H
        have hcz21_0 : wr.cell? ⟨gb166, 0, none⟩ = some (.slice A0_0 l0_0.length c0_0) := (bC BK166.out 0).trans rfl
        have hcz21_1 : wr.cell? ⟨gb166, 1, none⟩ = some (.slice A0_1 l0_1.length c0_1) := (bC BK166.out 1).trans rfl
        have hcz21_2 : wr.cell? ⟨gb166, 2, none⟩ = some (.slice A0_2 l0_2.length c0_2) := (bC BK166.out 2).trans rfl
        have hcz21_3 : wr.cell? ⟨gb166, 3, none⟩ = some (.slice A0_3 l0_3.length c0_3) := (bC BK166.out 3).trans rfl
        have hcz21_4 : wr.cell? ⟨gb166, 4, none⟩ = some (.slice A0_4 l0_4.length c0_4) := (bC BK166.out 4).trans rfl
        have hfz21_0 := bF BK166.out 0
        have hfz21_1 := bF BK166.out 1
        have hfz21_2 := bF BK166.out 2
        have hfz21_3 := bF BK166.out 3
        have hfz21_4 := bF BK166.out 4
        go_wp2_with (first | ((with_reducible refine gate_callee (f := 51) rfl ?_); refine goesL_ (some 54) rfl rfl Try.func51 (by kernel_rfl) rfl #[.slice A0_0 l0_0.length c0_0, .func (.func 49) #[] #[]] rfl (by (try simp only [List.map_toArray, List.map_cons, List.map_nil]); first | done | rfl | (simp only [List.length_drop, List.length_take]; rfl)) ?_; (with_reducible refine (api_Spot_51.calls k2 _ _ l0_0 true _ ?side1 ?side2 A19.out).mono ?_); (case side1 => repeat (first | exact (Kd.C_below HR0_0.out HB.out) | (with_reducible refine cA ?_ _) | (with_reducible refine cN ?_ _) | (with_reducible refine cD ?_))); (case side2 => exact HC0_0.out); rintro e w22 ⟨rfl, hb⟩; refine ⟨_, rfl, ?_⟩; replace BK166 := Aside0.mk (bB BK166.out hb); replace HB := Aside0.mk (lT (by with_reducible repeat first | exact HB.out | refine lS ?_ GE166.out) hb); (try clear hb); (try clear hb2); (try clear hk); (try clear hi)))
        go_ret
        exact ⟨by first | rfl | (simp [errW_none, errW_some] <;> rfl) | (simp [*, errW_none, errW_some] <;> rfl), by with_reducible repeat first | exact HB.out | apply lN | apply lD | refine lS ?_ GE166.out⟩
       ·replace c20 := Bool.eq_false_iff.mpr c20
        subst c20
        have H1 : ((api_Spot_51.f k2 l0_1).bind fun t169 => (some (!t169))) = some r := by rw [if_neg (show ¬ (false = true) by decide)] at H; exact H
        clear H
        have H := H1
        clear H1
        replace H := Option.bind_eq_some_iff.mp H
        obtain ⟨t169, A230, H⟩ := H
        replace H : (some (!t169)) = some r := H
        have A23 := Aside0.mk A230
        clear A230
        obtain rfl := Option.some.inj H
        have hcz24_0 : wr.cell? ⟨gb166, 0, none⟩ = some (.slice A0_0 l0_0.length c0_0) := (bC BK166.out 0).trans rfl
        have hcz24_1 : wr.cell? ⟨gb166, 1, none⟩ = some (.slice A0_1 l0_1.length c0_1) := (bC BK166.out 1).trans rfl
        have hcz24_2 : wr.cell? ⟨gb166, 2, none⟩ = some (.slice A0_2 l0_2.length c0_2) := (bC BK166.out 2).trans rfl
        have hcz24_3 : wr.cell? ⟨gb166, 3, none⟩ = some (.slice A0_3 l0_3.length c0_3) := (bC BK166.out 3).trans rfl
        have hcz24_4 : wr.cell? ⟨gb166, 4, none⟩ = some (.slice A0_4 l0_4.length c0_4) := (bC BK166.out 4).trans rfl
        have hfz24_0 := bF BK166.out 0
        have hfz24_1 := bF BK166.out 1
        have hfz24_2 := bF BK166.out 2
        have hfz24_3 := bF BK166.out 3
        have hfz24_4 := bF BK166.out 4
        go_wp2_with (first | ((with_reducible refine gate_callee (f := 51) rfl ?_); refine goesL_ (some 54) rfl rfl Try.func51 (by kernel_rfl) rfl #[.slice A0_0 l0_0.length c0_0, .func (.func 49) #[] #[]] rfl (by (try simp only [List.map_toArray, List.map_cons, List.map_nil]); first | done | rfl | (simp only [List.length_drop, List.length_take]; rfl)) ?_; (with_reducible refine (api_Spot_51.calls k2 _ _ l0_0 false _ ?side1 ?side2 A19.out).mono ?_); (case side1 => repeat (first | exact (Kd.C_below HR0_0.out HB.out) | (with_reducible refine cA ?_ _) | (with_reducible refine cN ?_ _) | (with_reducible refine cD ?_))); (case side2 => exact HC0_0.out); rintro e w25 ⟨rfl, hb⟩; refine ⟨_, rfl, ?_⟩; replace BK166 := Aside0.mk (bB BK166.out hb); replace HB := Aside0.mk (lT (by with_reducible repeat first | exact HB.out | refine lS ?_ GE166.out) hb); (try clear hb); (try clear hb2); (try clear hk); (try clear hi); have hcz26_0 : w25.cell? ⟨gb166, 0, none⟩ = some (.slice A0_0 l0_0.length c0_0) := (bC BK166.out 0).trans rfl; have hcz26_1 : w25.cell? ⟨gb166, 1, none⟩ = some (.slice A0_1 l0_1.length c0_1) := (bC BK166.out 1).trans rfl; have hcz26_2 : w25.cell? ⟨gb166, 2, none⟩ = some (.slice A0_2 l0_2.length c0_2) := (bC BK166.out 2).trans rfl; have hcz26_3 : w25.cell? ⟨gb166, 3, none⟩ = some (.slice A0_3 l0_3.length c0_3) := (bC BK166.out 3).trans rfl; have hcz26_4 : w25.cell? ⟨gb166, 4, none⟩ = some (.slice A0_4 l0_4.length c0_4) := (bC BK166.out 4).trans rfl; have hfz26_0 := bF BK166.out 0; have hfz26_1 := bF BK166.out 1; have hfz26_2 := bF BK166.out 2; have hfz26_3 := bF BK166.out 3; have hfz26_4 := bF BK166.out 4) | (go_at_call 51; (with_reducible refine (api_Spot_51.calls k2 _ _ l0_1 t169 _ ?side1 ?side2 A23.out).mono ?_); (case side1 => repeat (first | exact (Kd.C_below HR0_1.out HB.out) | (with_reducible refine cA ?_ _) | (with_reducible refine cN ?_ _) | (with_reducible refine cD ?_))); (case side2 => exact HC0_1.out); rintro e w27 ⟨rfl, hb⟩; replace BK166 := Aside0.mk (bB BK166.out hb); replace HB := Aside0.mk (lT (by with_reducible repeat first | exact HB.out | refine lS ?_ GE166.out) hb); (try clear hb); (try clear hb2); (try clear hk); (try clear hi)))
        go_ret
        exact ⟨by first | rfl | (simp [errW_none, errW_some] <;> rfl) | (simp [*, errW_none, errW_some] <;> rfl), by with_reducible repeat first | exact HB.out | apply lN | apply lD | refine lS ?_ GE166.out⟩

/-! ### api_Spot_48: function 48 -/
def api_Spot_48.f (l0 : List (S43)) : Option ((List (S43))) := if 1 < 0 then (some ([] : List (S43))) else ((some (([] : List (S43)) : List (S43))).bind fun y170 => (if y170.length + l0.length < 8796093022208 then (some (y170 ++ l0)) else (none)))
set_option maxHeartbeats 8000000 in
set_option maxRecDepth 100000 in
theorem api_Spot_48.calls (A0 : Option Addr) (c0 : Nat) (l0 : List (S43)) (r : List (S43)) (w : World) (hr0 : Kd.C k43 w A0 l0.length l0) (hc0 : l0.length ≤ c0) (h : api_Spot_48.f l0 = some r) :
  Calls Try.prog 48 #[.slice A0 l0.length c0] w fun e w' => ∃ v0_ : Value, e = .returned (v0_) ∧ Kd.R k43 43 w' w.heap.size (fun _ => True) v0_ r ∧ Below w.heap.size w w' := by
 have HR0 := Aside0.mk hr0
 have HC0 := Aside0.mk hc0
 clear hr0 hc0
 have HB := Aside0.mk (Below.refl w.heap.size w)
 have H : (if 1 < 0 then (some ([] : List (S43))) else ((some (([] : List (S43)) : List (S43))).bind fun y170 => (if y170.length + l0.length < 8796093022208 then (some (y170 ++ l0)) else (none)))) = some r := h
 clear h
 by_cases c2 : 1 < 0
 ·rw [if_pos c2] at H
  exact absurd c2 (by decide)
 ·rw [if_neg c2] at H
  have c2b0 : decide (1 < 0) = false := decide_eq_false c2
  clear c2
  obtain ⟨y170, hy170⟩ : ∃ y_ : List (S43), y_ = (([] : List (S43))) := ⟨_, rfl⟩
  replace H : (if y170.length + l0.length < 8796093022208 then (some (y170 ++ l0)) else (none)) = some r := by first | (rw [hy170]; with_reducible exact H) | (have H2_ := (Option.bind_some _ _).symm.trans H; rw [hy170]; with_reducible exact H2_) | (have H2_ := (Option.bind_some _ _).symm.trans H; with_reducible exact H2_) | with_reducible exact H | (rw [hy170]; exact H) | exact H
  have Ny170 := Aside0.mk hy170
  clear hy170
  by_cases c3 : y170.length + l0.length < 8796093022208
  ·rw [if_pos c3] at H
   have LMc3 := Aside0.mk c3
   clear c3
   obtain ⟨y173, hy173⟩ : ∃ y_ : List (S43), y_ = (y170 ++ l0) := ⟨_, rfl⟩
   replace H : (some y173) = some r := by first | (rw [hy173]; with_reducible exact H) | (have H2_ := (Option.bind_some _ _).symm.trans H; rw [hy173]; with_reducible exact H2_) | (have H2_ := (Option.bind_some _ _).symm.trans H; with_reducible exact H2_) | with_reducible exact H | (rw [hy173]; exact H) | exact H
   have Ny173 := Aside0.mk hy173
   clear hy173
   obtain rfl := Option.some.inj H
   have hq_ : ∀ (w : World) (A : Option Addr) (n c : Nat), (binOp .eql 26 (.slice A n c) (.slice none 0 0)).run Try.prog w = .ok (.bool A.isNone) w := fun w A n c => Go.Lib.run_eql_slice_nil w 26 43 A n c 0 0 Try.underlying26
   cases A0 with
   | none =>
    have hl2 : l0 = [] := Go.Proofs.Ytneiaobhjjbedaa.nil_of_none HR0.out
    go_enter Try.func48, Try.ntmps48
    go_wp2
    go_ret
    exact ⟨_, rfl, by rw [Ny173.out, Ny170.out, hl2]; exact Kd.R_nil _ _ _ _ _, by with_reducible repeat first | exact HB.out | apply lN | apply lD⟩
   | some a0 =>
    go_enter Try.func48, Try.ntmps48
    go_wp2_with (first | ((with_reducible refine gate_dst (N := 5) rfl ?_); refine Kd.R_lit k43 _ 43 ?hg (N := 5) ?hd (xs := ([] : List (S43))) (inner := []) (ok := fun _ => True) (okp := fun _ => True) ?hr ?hp (fun _ hk => hk) trivial (Below.refl _ _) (Nat.le_refl _) (by simp) ?_; (case hd => rfl); (case hg => rfl); (case hr => first | (go_simp; done) | (go_simp; rfl)); (case hp => exact (Reps.none _ _)); intro v171 w4 ho5 hb hg_ hnew_; clear hg_ hnew_; (first | rw [← Ny170.out] at ho5 | (simp only [Int.reduceToNat] at ho5; rw [← Ny170.out] at ho5)); have HO172 := Aside0.mk (Kd.R_lower ho5 (lZ (by with_reducible repeat first | exact HB.out | apply lN | apply lD))); replace HB := Aside0.mk (lT HB.out hb); clear hb ho5) | ((with_reducible refine gate_builtin (b := .append) (xs := #[.tmp 5, .tmp 6]) rfl ?_); at_builtin; refine Kd.R_append_rows k43 (w0 := w) w.heap.size rfl (.tmp 5) (.tmp 6) 26 43 (.agg #[(.int .i64 0), (.int .i64 0)]) 16 rfl Try.underlying26 info43 rfl (by decide) (by omega) v171 y170 l0 _ _ _ (fun _ => True) (fun _ => False) rfl rfl ?aO ?aR (fun _ _ h => h) (fun _ h => h.elim) ?aF ?aB ?aS ?aL ?_; (case aR => repeat (first | exact (Kd.C_below HR0.out HB.out) | (with_reducible refine cA ?_ _) | (with_reducible refine cN ?_ _) | (with_reducible refine cD ?_))); (case aB => exact (by with_reducible repeat first | exact HB.out | apply lN | apply lD)); (case aF => exact (fun _ _ => trivial)); (case aO => exact HO172.out); (case aS => exact (lZ (by with_reducible repeat first | exact HB.out | apply lN | apply lD))); (case aL => have := LMc3.out; omega); intro v174 w6 ho hb hg hat; rw [← Ny173.out] at ho; have HO175 := Aside0.mk (ho); replace HB := Aside0.mk (hb); (try clear HO172); clear ho hb hg hat))
    go_ret
    exact ⟨_, by first | rfl | (simp [errW_none, errW_some] <;> rfl) | (simp [*, errW_none, errW_some] <;> rfl), by (with_reducible repeat (first | apply rA | apply rN | apply rD)); exact HO175.out, by with_reducible repeat first | exact HB.out | apply lN | apply lD⟩
  ·rw [if_neg c3] at H
   exact absurd H (by simp)

/-! ### slices_Clone_bool_bool: function 81 -/
def slices_Clone_bool_bool.f (l0 : List Bool) : Option (List Bool) := if 1 < 0 then (some ([] : List Bool)) else ((some (([] : List Bool) : List Bool)).bind fun y176 => (if y176.length + l0.length < 140737488355328 then (some (y176 ++ l0)) else (none)))
set_option maxHeartbeats 8000000 in
set_option maxRecDepth 100000 in
theorem slices_Clone_bool_bool.calls (A0 : Option Addr) (c0 : Nat) (l0 : List Bool) (r : List Bool) (w : World) (hr0 : Kd.C Kd.bool w A0 l0.length l0) (hc0 : l0.length ≤ c0) (h : slices_Clone_bool_bool.f l0 = some r) :
  Calls Try.prog 81 #[.slice A0 l0.length c0] w fun e w' => ∃ v0_ : Value, e = .returned (v0_) ∧ Kd.R Kd.bool 4 w' w.heap.size (fun _ => True) v0_ r ∧ Below w.heap.size w w' := by
 have HR0 := Aside0.mk hr0
 have HC0 := Aside0.mk hc0
 clear hr0 hc0
 have HB := Aside0.mk (Below.refl w.heap.size w)
 have H : (if 1 < 0 then (some ([] : List Bool)) else ((some (([] : List Bool) : List Bool)).bind fun y176 => (if y176.length + l0.length < 140737488355328 then (some (y176 ++ l0)) else (none)))) = some r := h
 clear h
 by_cases c2 : 1 < 0
 ·rw [if_pos c2] at H
  exact absurd c2 (by decide)
 ·rw [if_neg c2] at H
  have c2b0 : decide (1 < 0) = false := decide_eq_false c2
  clear c2
  obtain ⟨y176, hy176⟩ : ∃ y_ : List Bool, y_ = (([] : List Bool)) := ⟨_, rfl⟩
  replace H : (if y176.length + l0.length < 140737488355328 then (some (y176 ++ l0)) else (none)) = some r := by first | (rw [hy176]; with_reducible exact H) | (have H2_ := (Option.bind_some _ _).symm.trans H; rw [hy176]; with_reducible exact H2_) | (have H2_ := (Option.bind_some _ _).symm.trans H; with_reducible exact H2_) | with_reducible exact H | (rw [hy176]; exact H) | exact H
  have Ny176 := Aside0.mk hy176
  clear hy176
  by_cases c3 : y176.length + l0.length < 140737488355328
  ·rw [if_pos c3] at H
   have LMc3 := Aside0.mk c3
   clear c3
   obtain ⟨y179, hy179⟩ : ∃ y_ : List Bool, y_ = (y176 ++ l0) := ⟨_, rfl⟩
   replace H : (some y179) = some r := by first | (rw [hy179]; with_reducible exact H) | (have H2_ := (Option.bind_some _ _).symm.trans H; rw [hy179]; with_reducible exact H2_) | (have H2_ := (Option.bind_some _ _).symm.trans H; with_reducible exact H2_) | with_reducible exact H | (rw [hy179]; exact H) | exact H
   have Ny179 := Aside0.mk hy179
   clear hy179
   obtain rfl := Option.some.inj H
   have hq_ : ∀ (w : World) (A : Option Addr) (n c : Nat), (binOp .eql 27 (.slice A n c) (.slice none 0 0)).run Try.prog w = .ok (.bool A.isNone) w := fun w A n c => Go.Lib.run_eql_slice_nil w 27 4 A n c 0 0 Try.underlying27
   cases A0 with
   | none =>
    have hl2 : l0 = [] := Go.Proofs.Ytneiaobhjjbedaa.nil_of_none HR0.out
    go_enter Try.func81, Try.ntmps81
    go_wp2
    go_ret
    exact ⟨_, rfl, by rw [Ny179.out, Ny176.out, hl2]; exact Kd.R_nil _ _ _ _ _, by with_reducible repeat first | exact HB.out | apply lN | apply lD⟩
   | some a0 =>
    go_enter Try.func81, Try.ntmps81
    go_wp2_with (first | ((with_reducible refine gate_dst (N := 5) rfl ?_); refine Kd.R_lit Kd.bool _ 4 ?hg (N := 5) ?hd (xs := ([] : List Bool)) (inner := []) (ok := fun _ => True) (okp := fun _ => True) ?hr ?hp (fun _ hk => hk) trivial (Below.refl _ _) (Nat.le_refl _) (by simp) ?_; (case hd => rfl); (case hg => rfl); (case hr => first | (go_simp; done) | (go_simp; rfl)); (case hp => exact (Reps.none _ _)); intro v177 w4 ho5 hb hg_ hnew_; clear hg_ hnew_; (first | rw [← Ny176.out] at ho5 | (simp only [Int.reduceToNat] at ho5; rw [← Ny176.out] at ho5)); have HO178 := Aside0.mk (Kd.R_lower ho5 (lZ (by with_reducible repeat first | exact HB.out | apply lN | apply lD))); replace HB := Aside0.mk (lT HB.out hb); clear hb ho5) | ((with_reducible refine gate_builtin (b := .append) (xs := #[.tmp 5, .tmp 6]) rfl ?_); at_builtin; refine Kd.R_append_rows Kd.bool (w0 := w) w.heap.size rfl (.tmp 5) (.tmp 6) 27 4 (.bool false) 1 rfl Try.underlying27 info4 rfl (by decide) (by omega) v177 y176 l0 _ _ _ (fun _ => True) (fun _ => False) rfl rfl ?aO ?aR (fun _ _ h => h) (fun _ h => h.elim) ?aF ?aB ?aS ?aL ?_; (case aR => repeat (first | exact (Kd.C_below HR0.out HB.out) | (with_reducible refine cA ?_ _) | (with_reducible refine cN ?_ _) | (with_reducible refine cD ?_))); (case aB => exact (by with_reducible repeat first | exact HB.out | apply lN | apply lD)); (case aF => exact (fun _ _ => trivial)); (case aO => exact HO178.out); (case aS => exact (lZ (by with_reducible repeat first | exact HB.out | apply lN | apply lD))); (case aL => have := LMc3.out; omega); intro v180 w6 ho hb hg hat; rw [← Ny179.out] at ho; have HO181 := Aside0.mk (ho); replace HB := Aside0.mk (hb); (try clear HO178); clear ho hb hg hat))
    go_ret
    exact ⟨_, by first | rfl | (simp [errW_none, errW_some] <;> rfl) | (simp [*, errW_none, errW_some] <;> rfl), by (with_reducible repeat (first | apply rA | apply rN | apply rD)); exact HO181.out, by with_reducible repeat first | exact HB.out | apply lN | apply lD⟩
  ·rw [if_neg c3] at H
   exact absurd H (by simp)

/-! ### slices_Clone_int_int: function 82 -/
def slices_Clone_int_int.f (l0 : List Int) : Option (List Int) := if 1 < 0 then (some ([] : List Int)) else ((some (([] : List Int) : List Int)).bind fun y182 => (if y182.length + l0.length < 17592186044416 then (some (y182 ++ l0)) else (none)))
set_option maxHeartbeats 8000000 in
set_option maxRecDepth 100000 in
theorem slices_Clone_int_int.calls (A0 : Option Addr) (c0 : Nat) (l0 : List Int) (r : List Int) (w : World) (hr0 : Kd.C (Kd.int .i64) w A0 l0.length l0) (hc0 : l0.length ≤ c0) (h : slices_Clone_int_int.f l0 = some r) :
  Calls Try.prog 82 #[.slice A0 l0.length c0] w fun e w' => ∃ v0_ : Value, e = .returned (v0_) ∧ Kd.R (Kd.int .i64) 3 w' w.heap.size (fun _ => True) v0_ r ∧ Below w.heap.size w w' := by
 have HR0 := Aside0.mk hr0
 have HC0 := Aside0.mk hc0
 clear hr0 hc0
 have HB := Aside0.mk (Below.refl w.heap.size w)
 have H : (if 1 < 0 then (some ([] : List Int)) else ((some (([] : List Int) : List Int)).bind fun y182 => (if y182.length + l0.length < 17592186044416 then (some (y182 ++ l0)) else (none)))) = some r := h
 clear h
 by_cases c2 : 1 < 0
 ·rw [if_pos c2] at H
  exact absurd c2 (by decide)
 ·rw [if_neg c2] at H
  have c2b0 : decide (1 < 0) = false := decide_eq_false c2
  clear c2
  obtain ⟨y182, hy182⟩ : ∃ y_ : List Int, y_ = (([] : List Int)) := ⟨_, rfl⟩
  replace H : (if y182.length + l0.length < 17592186044416 then (some (y182 ++ l0)) else (none)) = some r := by first | (rw [hy182]; with_reducible exact H) | (have H2_ := (Option.bind_some _ _).symm.trans H; rw [hy182]; with_reducible exact H2_) | (have H2_ := (Option.bind_some _ _).symm.trans H; with_reducible exact H2_) | with_reducible exact H | (rw [hy182]; exact H) | exact H
  have Ny182 := Aside0.mk hy182
  clear hy182
  by_cases c3 : y182.length + l0.length < 17592186044416
  ·rw [if_pos c3] at H
   have LMc3 := Aside0.mk c3
   clear c3
   obtain ⟨y185, hy185⟩ : ∃ y_ : List Int, y_ = (y182 ++ l0) := ⟨_, rfl⟩
   replace H : (some y185) = some r := by first | (rw [hy185]; with_reducible exact H) | (have H2_ := (Option.bind_some _ _).symm.trans H; rw [hy185]; with_reducible exact H2_) | (have H2_ := (Option.bind_some _ _).symm.trans H; with_reducible exact H2_) | with_reducible exact H | (rw [hy185]; exact H) | exact H
   have Ny185 := Aside0.mk hy185
   clear hy185
   obtain rfl := Option.some.inj H
   have hq_ : ∀ (w : World) (A : Option Addr) (n c : Nat), (binOp .eql 28 (.slice A n c) (.slice none 0 0)).run Try.prog w = .ok (.bool A.isNone) w := fun w A n c => Go.Lib.run_eql_slice_nil w 28 3 A n c 0 0 Try.underlying28
   cases A0 with
   | none =>
    have hl2 : l0 = [] := Go.Proofs.Ytneiaobhjjbedaa.nil_of_none HR0.out
    go_enter Try.func82, Try.ntmps82
    go_wp2
    go_ret
    exact ⟨_, rfl, by rw [Ny185.out, Ny182.out, hl2]; exact Kd.R_nil _ _ _ _ _, by with_reducible repeat first | exact HB.out | apply lN | apply lD⟩
   | some a0 =>
    go_enter Try.func82, Try.ntmps82
    go_wp2_with (first | ((with_reducible refine gate_dst (N := 5) rfl ?_); refine Kd.R_lit (Kd.int .i64) _ 3 ?hg (N := 5) ?hd (xs := ([] : List Int)) (inner := []) (ok := fun _ => True) (okp := fun _ => True) ?hr ?hp (fun _ hk => hk) trivial (Below.refl _ _) (Nat.le_refl _) (by simp) ?_; (case hd => rfl); (case hg => rfl); (case hr => first | (go_simp; done) | (go_simp; rfl)); (case hp => exact (Reps.none _ _)); intro v183 w4 ho5 hb hg_ hnew_; clear hg_ hnew_; (first | rw [← Ny182.out] at ho5 | (simp only [Int.reduceToNat] at ho5; rw [← Ny182.out] at ho5)); have HO184 := Aside0.mk (Kd.R_lower ho5 (lZ (by with_reducible repeat first | exact HB.out | apply lN | apply lD))); replace HB := Aside0.mk (lT HB.out hb); clear hb ho5) | ((with_reducible refine gate_builtin (b := .append) (xs := #[.tmp 5, .tmp 6]) rfl ?_); at_builtin; refine Kd.R_append_rows (Kd.int .i64) (w0 := w) w.heap.size rfl (.tmp 5) (.tmp 6) 28 3 (.int .i64 0) 8 rfl Try.underlying28 info3 rfl (by decide) (by omega) v183 y182 l0 _ _ _ (fun _ => True) (fun _ => False) rfl rfl ?aO ?aR (fun _ _ h => h) (fun _ h => h.elim) ?aF ?aB ?aS ?aL ?_; (case aR => repeat (first | exact (Kd.C_below HR0.out HB.out) | (with_reducible refine cA ?_ _) | (with_reducible refine cN ?_ _) | (with_reducible refine cD ?_))); (case aB => exact (by with_reducible repeat first | exact HB.out | apply lN | apply lD)); (case aF => exact (fun _ _ => trivial)); (case aO => exact HO184.out); (case aS => exact (lZ (by with_reducible repeat first | exact HB.out | apply lN | apply lD))); (case aL => have := LMc3.out; omega); intro v186 w6 ho hb hg hat; rw [← Ny185.out] at ho; have HO187 := Aside0.mk (ho); replace HB := Aside0.mk (hb); (try clear HO184); clear ho hb hg hat))
    go_ret
    exact ⟨_, by first | rfl | (simp [errW_none, errW_some] <;> rfl) | (simp [*, errW_none, errW_some] <;> rfl), by (with_reducible repeat (first | apply rA | apply rN | apply rD)); exact HO187.out, by with_reducible repeat first | exact HB.out | apply lN | apply lD⟩
  ·rw [if_neg c3] at H
   exact absurd H (by simp)

end Go.Proofs.Ytneiaobhjjbedaa.PGstatePuts
